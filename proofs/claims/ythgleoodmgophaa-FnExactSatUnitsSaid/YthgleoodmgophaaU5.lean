/- What the program's SatUnits computes, and the walk of its law. -/
import Derived.Test.YthgleoodmgophaaU4
namespace Go.Lead
open Go
set_option linter.unusedSimpArgs false
set_option linter.unusedVariables false

theorem impl_SatUnits_spec {h : Hp} {s g : Sl} {cls : List (List Int)} {given : List Int} {v : Int} {R : Value → Hp → Prop} (hs : IntSS h s cls) (hg : IntS h g given)
    (k : ∀ t h', h.le h' → Own (h'.sub h) t 1 ((satUnits v cls given).1.map I) → R (.tuple #[Sl.v t, .bool (satUnits v cls given).2]) h') : c_impl_SatUnits #[.agg #[I v, s.v], g.v] h R := by
  apply R_impl_SatUnits
  unfold F_impl_SatUnits
  intro b hb
  have l0 := le_row [I v, s.v] 2 hb
  simp only [vm, mm]
  refine joinP_of (fun J => J (!(CnfOkB v cls && ClauseOk v given)) (h.row b [I v, s.v] 2)) ?_ ?_
  rotate_left
  · intro J hJ
    refine impl_CnfOk_spec (hs.mono l0) ⟨_, rfl, bsplit_of (fun e => ?_) (fun e => ?_)⟩
    · have e' : CnfOkB v cls = false := by simpa using e
      rwa [e'] at hJ
    · have e' : CnfOkB v cls = true := by simpa using e
      have hv := (CnfOkB.iff.1 e').1
      rw [e', Bool.true_and] at hJ
      simp only [vm, mm]
      exact clauseOk_spec (hg.mono l0) (by omega) (by omega) ⟨_, rfl, hJ⟩
  refine bsplit_of (fun e => ?_) (fun e => ?_)
  · have e' : (CnfOkB v cls && ClauseOk v given) = false := by rw [← Bool.not_eq_true']; exact e
    rw [satUnits, e'] at k
    exact k ⟨none, 0, 0⟩ _ l0 (own_nil _ _)
  have e' : (CnfOkB v cls && ClauseOk v given) = true := by simpa using e
  obtain ⟨ec, eg⟩ := Bool.and_eq_true_iff.1 e'
  obtain ⟨hv, hx, hcl⟩ := CnfOkB.iff.1 ec
  rw [satUnits, e', if_pos rfl] at k
  obtain ⟨m, rfl⟩ : ∃ m : Nat, v = m := ⟨v.toNat, by omega⟩
  simp only [vm, mm]
  refine impl_units_spec (v := m) (hs.mono l0) (hg.mono l0) (by omega) (by omega) (fun l hl => ClauseOk.all (hcl l hl)) (ClauseOk.all eg) ?_ ?_
  · intro hno h1 l1
    rw [hno] at k
    exact ⟨none, _, rfl, bs_t rfl (k ⟨none, 0, 0⟩ _ (Hp.le_trans l0 l1) (own_nil _ _))⟩
  · intro set hset hkn rm h1 hgr
    rw [hset] at k
    simp only [Int.toNat_natCast] at k
    have hsl := hkn.len (by omega) (by omega)
    refine ⟨some rm, _, rfl, bs_f rfl ?_⟩
    have l1 := hgr.le
    have f1 := l1 _ _ (row_self ..)
    refine loop_up m (fun i vs h' => ∃ o, vs = [.pointer (some ⟨b, 0, none⟩), .map (some rm), Sl.v o, I (i + 1 : Nat)] ∧ Grown h1 h' o (outP i set)) ⟨⟨none, 0, 0⟩, rfl, Grown.start _⟩ ?_
    rintro i _ h2 next hi ⟨o, rfl, hgo⟩ hn
    refine ⟨_, _, _, _, _, rfl, ?_⟩
    have f2 := hgo.keep _ _ f1
    have fm := hgo.keep _ _ hgr.map
    have hol := outP_len i set
    simp only [vm, mm, cell_of f2]
    by_cases hlt : i < m
    · have w1 : W (((i + 1 : Nat) : Int) + 1) = ((i + 1 + 1 : Nat) : Int) := W_succ (by omega)
      have w2 : W (0 - ((i + 1 : Nat) : Int)) = -((i : Int) + 1) := by rw [W_id (by omega) (by omega)]; omega
      have w3 : ((i + 1 : Nat) : Int) = (i : Int) + 1 := by omega
      have hout := outP_succ i set
      obtain ⟨res, hm, hget, _⟩ := mlook_set set ((i : Int) + 1)
      obtain ⟨res2, hm2, hget2, _⟩ := mlook_set set (-((i : Int) + 1))
      refine bs_t (by simp; omega) ?_
      simp only [w1, w2]
      simp only [w3]
      refine ⟨rm, _, res, rfl, fm, hm, _, hget, bsplit_of (fun he => ?_) (fun he => ?_)⟩
      · rw [if_pos he] at hout
        exact fun b3 hb3 => hgo.app (by omega) hb3 fun o'' h4 hg4 => hn hlt _ _ ⟨o'', rfl, by rw [hout]; exact hg4⟩
      · rw [if_neg (by rw [he]; simp)] at hout
        refine ⟨rm, _, res2, rfl, fm, hm2, _, hget2, bsplit_of (fun he2 => ?_) (fun he2 => ?_)⟩
        · rw [if_pos he2] at hout
          exact fun b3 hb3 => hgo.app (by omega) hb3 fun o'' h4 hg4 => hn hlt _ _ ⟨o'', rfl, by rw [hout]; exact hg4⟩
        · rw [if_neg (by rw [he2]; simp), List.append_nil] at hout
          exact hn hlt _ _ ⟨o, rfl, by rw [hout]; exact hgo⟩
    · have : i = m := by omega
      subst this
      refine bs_f (by simp; omega) ?_
      exact k o _ (Hp.le_trans l0 (Hp.le_trans l1 hgo.keep)) ((hgo.own (by omega)).mono (sub_anti _ (Hp.le_trans l0 l1)))

theorem satUnits_len (v : Int) (cls : List (List Int)) (given : List Int) : (satUnits v cls given).1.length ≤ 10 := by
  unfold satUnits
  split
  · rename_i h
    have hv := (CnfOkB.iff.1 (Bool.and_eq_true_iff.1 h).1).1
    split
    · simp
    · rename_i set _
      have := outP_len v.toNat set
      simp only; omega
  · simp

theorem FnExactSatUnits_spec {h : Hp} {s g : Sl} {cls : List (List Int)} {given : List Int} {v : Int} {R : Value → Hp → Prop} (hs : IntSS h s cls) (hg : IntS h g given)
    (k : R (.bool true) h) : c_laws_FnExactSatUnits #[.agg #[I v, s.v], g.v] h R := by
  refine ACalls.drop (R_laws_FnExactSatUnits ?_)
  unfold F_laws_FnExactSatUnits
  intro b hb
  have l0 := le_row [I v, s.v] 2 hb
  simp only [vm, mm]
  refine bsplit_of (fun e => ⟨_, l0, k⟩) (fun e => ?_)
  have eg : given.length ≤ 1048576 := by simp [hg.len] at e; omega
  refine szCnf_spec (hs.mono l0) (by omega) (by omega) fun r hr => ⟨_, rfl, bsplit_of (fun e => ⟨_, l0, k⟩) (fun e => ?_)⟩
  have e' : wtSS cls + cls.length ≤ 1048576 := by simp at e; omega
  simp only [vm, mm]
  -- the reference
  refine toCnf_spec (hs.mono l0) e' fun t1 h1 l1 ht1 => ⟨_, _, rfl, ?_⟩
  refine toIntS_spec ((hg.mono l0).mono l1) eg fun u1 h2 l2 hu1 => ⟨_, rfl, ?_⟩
  refine spec_SatUnits_spec ((ht1.mono (sub_le _ _)).mono l2) (hu1.mono (sub_le _ _)) fun w0 h3 l3 ow => ⟨_, _, rfl, ?_⟩
  have l13 := Hp.le_trans l1 (Hp.le_trans l2 l3)
  have f3 := l13 _ _ (row_self ..)
  simp only [vm, mm, cell_of f3]
  -- the program
  refine toCnf_own ((hs.mono l0).mono l13) e' fun t4 ts4 h4 l4 ot4 => ⟨_, _, rfl, ?_⟩
  intro b5 hb5
  have l5 := le_row [I v, t4.v] 2 hb5
  refine ⟨by omega, ?_⟩
  have l05 := Hp.le_trans l0 (Hp.le_trans l13 (Hp.le_trans l4 l5))
  refine toIntS_own (hg.mono l05) eg fun u6 h6 l6 ou6 => ⟨_, rfl, ?_⟩
  have g5 := row_self h4 b5 [I v, t4.v] 2
  have g6 := l6 _ _ g5
  simp only [vm, mm, cell_of g6]
  have ot6 := (ot4.mono (sub_le _ _)).mono (Hp.le_trans l5 l6)
  have ou6' := ou6.mono (sub_le _ _)
  refine impl_SatUnits_spec ot6.ints ou6'.slc fun g0 h7 l7 og => ⟨_, _, rfl, ?_⟩
  have ow7 := (ow.mono (sub_le _ _)).mono (Hp.le_trans l4 (Hp.le_trans l5 (Hp.le_trans l6 l7)))
  refine joinP_of (fun J => J false h7) ?_ ?_
  rotate_left
  · intro J hJ
    refine eqIntS_spec (og.mono (sub_le _ _)).slc ow7.slc ⟨_, rfl, bs_f (by simp) ?_⟩
    simpa using hJ
  have g7 := l7 _ _ g6
  have f7 := l7 _ _ (l6 _ _ (l5 _ _ (l4 _ _ f3)))
  have l57 := Hp.le_trans l6 l7
  refine bs_f rfl ?_
  simp only [vm, mm, cell_of g7, cell_of f7]
  have l07 := Hp.le_trans l05 l57
  refine toCnf_spec (hs.mono l07) e' fun t8 h8 l8 ht8 => ⟨_, _, rfl, ?_⟩
  have g8 := l8 _ _ g7
  rw [g8, g7]
  refine ⟨rfl, eqCnf_spec (ot6.ints.mono (Hp.le_trans l7 l8)) (ht8.mono (sub_le _ _)) ⟨_, rfl, bs_f (by simp) ?_⟩⟩
  refine toIntS_spec (hg.mono (Hp.le_trans l07 l8)) eg fun u9 h9 l9 hu9 => ⟨_, rfl, ?_⟩
  have l79 := Hp.le_trans l8 l9
  refine eqIntS_spec (IntS.mono (Hp.le_trans l7 l79) ou6'.slc) (hu9.mono (sub_le _ _)) ⟨_, rfl, bs_f (by simp) ?_⟩
  have g9 := l9 _ _ g8
  simp only [vm, mm, cell_of g9]
  -- marks
  have hun : u6.n = given.length := by have := ou6.1; simp at this; omega
  refine markCnf_spec (ot6.mono (Hp.le_trans l7 l79)) (by omega) (by omega) fun h10 l10 => ⟨_, rfl, ?_⟩
  have d4 : ∀ c ∈ ts4.flatMap Sl.used, (h4.sub h3) c ≠ none := ot4.used
  have in4 : ∀ c ∈ ts4.flatMap Sl.used, ∃ x, h4 c = some x := fun c hc => by
    cases hx : h4 c with
    | none => exact absurd (none_of_le (sub_le _ _) hx) (d4 c hc)
    | some x => exact ⟨x, rfl⟩
  have k3 : h3.le h10 := keep_mark (Hp.le_trans l4 (Hp.le_trans l5 (Hp.le_trans l57 l79))) (fun c hc => sub_some_none (d4 c hc)) l10
  have ku : (h6.sub (h4.row b5 [I v, t4.v] 2)).le h10 := keep_mark (Hp.le_trans (sub_le _ _) (Hp.le_trans l7 l79)) (fun c hc => by
    obtain ⟨x, hx⟩ := in4 c hc; exact sub_none (l5 _ _ hx)) l10
  have kg : (h7.sub h6).le h10 := keep_mark (Hp.le_trans (sub_le _ _) l79) (fun c hc => by
    obtain ⟨x, hx⟩ := in4 c hc; exact sub_none (l6 _ _ (l5 _ _ hx))) l10
  refine markIntS_spec (ou6.mono ku) (by omega) (by omega) fun h11 l11 o11 _ => ⟨_, rfl, ?_⟩
  have du : ∀ c ∈ u6.used, (h6.sub (h4.row b5 [I v, t4.v] 2)) c ≠ none := ou6.used
  have in6 : ∀ c ∈ u6.used, ∃ x, h6 c = some x := fun c hc => by
    cases hx : h6 c with
    | none => exact absurd (none_of_le (sub_le _ _) hx) (du c hc)
    | some x => exact ⟨x, rfl⟩
  have k3' : h3.le h11 := keep_mark k3 (fun c hc => none_of_le (Hp.le_trans l4 l5) (sub_some_none (du c hc))) l11
  have kg' : (h7.sub h6).le h11 := keep_mark kg (fun c hc => by obtain ⟨x, hx⟩ := in6 c hc; exact sub_none hx) l11
  have hgn := satUnits_len v cls given
  have hgn2 : g0.n ≤ 10 := by have := og.1; simp at this; omega
  refine joinP_of (fun J => J false h11) ?_ ?_
  rotate_left
  · intro J hJ
    refine bs_f (by simp; omega) (eqIntS_spec (og.mono kg').slc ((ow.mono (sub_le _ _)).mono k3').slc ⟨_, rfl, bs_f (by simp) ?_⟩)
    simpa using hJ
  refine bs_f rfl (markIntS_spec (og.mono kg') (by omega) (by omega) fun h12 l12 o12 _ => ⟨_, rfl, ?_⟩)
  have dg : ∀ c ∈ g0.used, (h7.sub h6) c ≠ none := og.used
  have k3'' : h3.le h12 := keep_mark k3' (fun c hc => none_of_le (Hp.le_trans l4 (Hp.le_trans l5 l6)) (sub_some_none (dg c hc))) l12
  refine heldIntS_spec o12.slc (by omega) (by omega) ⟨_, rfl, bs_f (by simp; omega) (bs_f (by simp) ?_)⟩
  have f12 := k3'' _ _ f3
  simp only [vm, mm, cell_of f12]
  have l012 : h.le h12 := Hp.le_trans l0 (Hp.le_trans l13 k3'')
  refine toCnf_spec (hs.mono l012) e' fun t13 h13 l13' ht13 => ⟨_, _, rfl, ?_⟩
  refine toIntS_spec ((hg.mono l012).mono l13') eg fun u14 h14 l14 hu14 => ⟨_, rfl, ?_⟩
  refine impl_SatUnits_spec ((ht13.mono (sub_le _ _)).mono l14) (hu14.mono (sub_le _ _)) fun w1 h15 l15 ow1 => ⟨_, _, rfl, ?_⟩
  have l1215 := Hp.le_trans l13' (Hp.le_trans l14 l15)
  refine joinP_of (fun J => J false h15) ?_ ?_
  rotate_left
  · intro J hJ
    refine eqIntS_spec (ow1.mono (sub_le _ _)).slc (((ow.mono (sub_le _ _)).mono k3'').mono l1215).slc ⟨_, rfl, bs_f (by simp) ?_⟩
    simpa using hJ
  refine bs_f rfl (heldIntS_spec (o12.mono l1215).slc (by omega) (by omega) ⟨_, rfl, bs_f (by simp; omega) (bs_f (by simp) ⟨_, Hp.le_trans l012 l1215, k⟩)⟩)

end Go.Lead
