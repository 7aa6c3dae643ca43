/- The walk of the law of SatCore. -/
import Derived.Test.YthgleoodmgophaaC4
namespace Go.Lead
open Go
set_option linter.unusedSimpArgs false
set_option linter.unusedVariables false

theorem satCore_len (v : Int) (xss : List (List Int)) : (satCore v xss).1.length ≤ 60 := by
  unfold satCore
  split
  · rename_i h
    have hx := (CnfOkB.iff.1 (Bool.and_eq_true_iff.1 h).1).2.1
    have := keptP_len (badSel v.toNat xss) xss.length xss.length
    simp; omega
  · simp

theorem FnExactSatCore_spec {h : Hp} {s : Sl} {cls : List (List Int)} {v : Int} {R : Value → Hp → Prop} (hs : IntSS h s cls)
    (k : R (.bool true) h) : c_laws_FnExactSatCore #[.agg #[I v, s.v]] h R := by
  refine ACalls.drop (R_laws_FnExactSatCore ?_)
  unfold F_laws_FnExactSatCore
  intro b hb
  have l0 := le_row [I v, s.v] 2 hb
  simp only [vm, mm]
  refine szCnf_spec (hs.mono l0) (by omega) (by omega) fun r hr => ⟨_, rfl, bsplit_of (fun e => ⟨_, l0, k⟩) (fun e => ?_)⟩
  have e' : wtSS cls + cls.length ≤ 1048576 := by simp at e; omega
  simp only [vm, mm]
  -- the reference
  refine toCnf_spec (hs.mono l0) e' fun t1 h1 l1 ht1 => ⟨_, _, rfl, ?_⟩
  refine spec_SatCore_spec (ht1.mono (sub_le _ _)) fun w0 h3 l3 ow => ⟨_, _, rfl, ?_⟩
  have l13 := Hp.le_trans l1 l3
  have f3 := l13 _ _ (row_self ..)
  simp only [vm, mm, cell_of f3]
  -- the program
  refine toCnf_own ((hs.mono l0).mono l13) e' fun t4 ts4 h4 l4 ot4 => ⟨_, _, rfl, ?_⟩
  intro b5 hb5
  have l5 := le_row [I v, t4.v] 2 hb5
  have l05 := Hp.le_trans l0 (Hp.le_trans l13 (Hp.le_trans l4 l5))
  have g6 := row_self h4 b5 [I v, t4.v] 2
  generalize hh6 : h4.row b5 [I v, t4.v] 2 = h6 at *
  have ot6 := (ot4.mono (sub_le _ _)).mono l5
  refine ⟨by omega, impl_SatCore_spec ot6.ints fun g0 h7 l7 og => ⟨_, _, rfl, ?_⟩⟩
  have ow7 := (ow.mono (sub_le _ _)).mono (Hp.le_trans l4 (Hp.le_trans l5 l7))
  refine joinP_of (fun J => J false h7) ?_ ?_
  rotate_left
  · intro J hJ
    refine eqIntS_spec (og.mono (sub_le _ _)).slc ow7.slc ⟨_, rfl, bs_f (by simp) ?_⟩
    simpa using hJ
  have g7 := l7 _ _ g6
  have f7 := l7 _ _ (l5 _ _ (l4 _ _ f3))
  have l57 := l7
  refine bs_f rfl ?_
  simp only [vm, mm, cell_of g7, cell_of f7]
  have l07 := Hp.le_trans l05 l57
  refine toCnf_spec (hs.mono l07) e' fun t8 h8 l8 ht8 => ⟨_, _, rfl, ?_⟩
  have g8 := l8 _ _ g7
  rw [g8, g7]
  refine ⟨rfl, eqCnf_spec (ot6.ints.mono (Hp.le_trans l7 l8)) (ht8.mono (sub_le _ _)) ⟨_, rfl, bs_f (by simp) ?_⟩⟩
  have l79 := l8
  simp only [vm, mm, cell_of g8]
  -- marks
  refine markCnf_spec (ot6.mono (Hp.le_trans l7 l79)) (by omega) (by omega) fun h10 l10 => ⟨_, rfl, ?_⟩
  have d4 : ∀ c ∈ ts4.flatMap Sl.used, (h4.sub h3) c ≠ none := ot4.used
  have in4 : ∀ c ∈ ts4.flatMap Sl.used, ∃ x, h4 c = some x := fun c hc => by
    cases hx : h4 c with
    | none => exact absurd (none_of_le (sub_le _ _) hx) (d4 c hc)
    | some x => exact ⟨x, rfl⟩
  have k3 : h3.le h10 := keep_mark (Hp.le_trans l4 (Hp.le_trans l5 (Hp.le_trans l7 l79))) (fun c hc => sub_some_none (d4 c hc)) l10
  have kg : (h7.sub h6).le h10 := keep_mark (Hp.le_trans (sub_le _ _) l79) (fun c hc => by
    obtain ⟨x, hx⟩ := in4 c hc; exact sub_none (l5 _ _ hx)) l10
  have k3' := k3
  have kg' := kg
  have hgn := satCore_len v cls
  have hgn2 : g0.n ≤ 60 := by have := og.1; simp at this; omega
  refine joinP_of (fun J => J false h10) ?_ ?_
  rotate_left
  · intro J hJ
    refine bs_f (by simp; omega) (eqIntS_spec (og.mono kg').slc ((ow.mono (sub_le _ _)).mono k3').slc ⟨_, rfl, bs_f (by simp) ?_⟩)
    simpa using hJ
  refine bs_f rfl (markIntS_spec (og.mono kg') (by omega) (by omega) fun h12 l12 o12 _ => ⟨_, rfl, ?_⟩)
  have dg : ∀ c ∈ g0.used, (h7.sub h6) c ≠ none := og.used
  have k3'' : h3.le h12 := keep_mark k3' (fun c hc => none_of_le (Hp.le_trans l4 l5) (sub_some_none (dg c hc))) l12
  refine heldIntS_spec o12.slc (by omega) (by omega) ⟨_, rfl, bs_f (by simp; omega) (bs_f (by simp) ?_)⟩
  have f12 := k3'' _ _ f3
  simp only [vm, mm, cell_of f12]
  have l012 : h.le h12 := Hp.le_trans l0 (Hp.le_trans l13 k3'')
  refine toCnf_spec (hs.mono l012) e' fun t13 h13 l13' ht13 => ⟨_, _, rfl, ?_⟩
  refine impl_SatCore_spec (ht13.mono (sub_le _ _)) fun w1 h15 l15 ow1 => ⟨_, _, rfl, ?_⟩
  have l1215 := Hp.le_trans l13' l15
  refine joinP_of (fun J => J false h15) ?_ ?_
  rotate_left
  · intro J hJ
    refine eqIntS_spec (ow1.mono (sub_le _ _)).slc (((ow.mono (sub_le _ _)).mono k3'').mono l1215).slc ⟨_, rfl, bs_f (by simp) ?_⟩
    simpa using hJ
  refine bs_f rfl (heldIntS_spec (o12.mono l1215).slc (by omega) (by omega) ⟨_, rfl, bs_f (by simp; omega) (bs_f (by simp) ⟨_, Hp.le_trans l012 l1215, k⟩)⟩)


end Go.Lead
