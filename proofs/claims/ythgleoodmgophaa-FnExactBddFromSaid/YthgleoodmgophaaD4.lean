/- The walks of the laws of CnfSet and BddFrom. -/
import Derived.Test.YthgleoodmgophaaD3
namespace Go.Lead
open Go
set_option linter.unusedSimpArgs false
set_option linter.unusedVariables false

theorem FnExactBddFrom_spec {h : Hp} {s : Sl} {codes : List Int} {v : Int} {R : Value → Hp → Prop} (hs : IntS h s codes)
    (k : R (.bool true) h) : c_laws_FnExactBddFrom #[I v, s.v] h R := by
  refine ACalls.drop (R_laws_FnExactBddFrom ?_)
  unfold F_laws_FnExactBddFrom
  refine bsplit_of (fun e => ⟨_, Hp.le_refl _, k⟩) (fun e => ?_)
  have e' : codes.length ≤ 1048576 := by simp [hs.len] at e; omega
  have hcn := bddFrom_len v codes
  -- the reference
  refine toIntS_spec hs e' fun t1 h1 l1 ht1 => ⟨_, rfl, ?_⟩
  refine spec_BddFrom_spec (ht1.mono (sub_le _ _)) fun w0 h2 l2 ow => ⟨_, _, _, _, rfl, ?_⟩
  intro b3 hb3
  have hI : ∀ {h' : Hp} {s' : Sl} {R' : Value → Hp → Prop}, IntS h' s' codes →
    (∀ t h'', h'.le h'' → Own (h''.sub h') t 3 (ndCells (bddFrom v codes).ns) → R' (.tuple #[.agg #[I (bddFrom v codes).v, Sl.v t, I (bddFrom v codes).r], .bool (bddFrom v codes).ok]) h'') → c_impl_BddFrom #[I v, s'.v] h' R' := fun a b => impl_BddFrom_spec a b
  generalize bddFrom v codes = cb at *
  have l3 := le_row [I cb.v, w0.v, I cb.r] 3 hb3
  have l13 := Hp.le_trans l1 (Hp.le_trans l2 l3)
  have w3 := row_self h2 b3 [I cb.v, w0.v, I cb.r] 3
  have ow3 := (ow.mono (sub_le _ _)).mono l3
  try simp only [vm, mm]
  generalize hh3 : h2.row b3 [I cb.v, w0.v, I cb.r] 3 = h3 at *
  refine ⟨by omega, ?_⟩
  -- the program
  refine toIntS_own (hs.mono l13) e' fun t4 h5 l5 ot4 => ⟨_, rfl, ?_⟩
  have ot5 := ot4.mono (sub_le _ _)
  refine hI ot5.slc ?_
  intro g0 h6 l6 og
  refine ⟨_, _, _, _, rfl, ?_⟩
  intro b7 hb7
  have l7 := le_row [I cb.v, g0.v, I cb.r] 3 hb7
  have g7 := row_self h6 b7 [I cb.v, g0.v, I cb.r] 3
  try simp only [vm, mm]
  generalize hh7 : h6.row b7 [I cb.v, g0.v, I cb.r] 3 = h7 at *
  have l37 := Hp.le_trans l5 (Hp.le_trans l6 l7)
  have ow7 := ow3.mono l37
  have w7 := l37 _ _ w3
  simp only [vm, mm, cell_of g7, cell_of w7]
  refine ⟨by omega, joinP_of (fun J => J false h7) ?_ ?_⟩
  rotate_left
  · intro J hJ
    refine eqBdd_spec ((og.mono (sub_le _ _)).mono l7).slc ow7.slc ⟨_, rfl, bs_f (by simp) ?_⟩
    simpa using hJ
  refine bs_f rfl ?_
  have l07 := Hp.le_trans l13 l37
  refine toIntS_spec (hs.mono l07) e' fun t8 h8 l8 ht8 => ⟨_, rfl, ?_⟩
  refine eqIntS_spec (IntS.mono (Hp.le_trans (Hp.le_trans l6 l7) l8) ot5.slc) (ht8.mono (sub_le _ _)) ⟨_, rfl, bs_f (by simp) ?_⟩
  -- marks
  have l58 := Hp.le_trans (Hp.le_trans l6 l7) l8
  have htn : t4.n = codes.length := by have := ot4.1; simp at this; omega
  refine markIntS_spec (ot5.mono l58) (by omega) (by omega) fun h10 l10 o10 _ => ⟨_, rfl, ?_⟩
  have d4 : ∀ c ∈ t4.used, (h5.sub h3) c ≠ none := ot4.used
  have in4 : ∀ c ∈ t4.used, ∃ x, h5 c = some x := fun c hc => by
    cases hx : h5 c with
    | none => exact absurd (none_of_le (sub_le _ _) hx) (d4 c hc)
    | some x => exact ⟨x, rfl⟩
  have k3 : h3.le h10 := keep_mark (Hp.le_trans l37 l8) (fun c hc => sub_some_none (d4 c hc)) l10
  have kg : (h6.sub h5).le h10 := keep_mark (Hp.le_trans (sub_le _ _) (Hp.le_trans l7 l8)) (fun c hc => by
    obtain ⟨x, hx⟩ := in4 c hc; exact sub_none hx) l10
  have kb : h10 b7 = some (.inl ⟨[I cb.v, g0.v, I cb.r], 3, false⟩) := by
    refine l10 _ _ ?_
    rw [wo_at (fun hc => by obtain ⟨x, hx⟩ := in4 _ hc; have := l6 _ _ hx; rw [hb7] at this; cases this)]
    exact l8 _ _ g7
  have w10 := k3 _ _ w3
  have hgn : g0.n ≤ 600 := by have := og.1; rw [ndCells_len] at this; omega
  refine joinP_of (fun J => J false h10) ?_ ?_
  rotate_left
  · intro J hJ
    refine bs_f (by simp; omega) ?_
    simp only [vm, mm, cell_of kb, cell_of w10]
    refine eqBdd_spec (og.mono kg).slc (ow3.mono k3).slc ⟨_, rfl, bs_f (by simp) ?_⟩
    simpa using hJ
  refine bs_f rfl ?_
  simp only [vm, mm, cell_of kb]
  refine markBdd_spec (og.mono kg) (by omega) (by omega) fun h12 l12 o12 => ⟨_, rfl, ?_⟩
  have dg : ∀ c ∈ g0.used, (h6.sub h5) c ≠ none := og.used
  have k3' : h3.le h12 := keep_mark k3 (fun c hc => none_of_le l5 (sub_some_none (dg c hc))) l12
  have kb' : h12 b7 = some (.inl ⟨[I cb.v, g0.v, I cb.r], 3, false⟩) := by
    refine l12 _ _ ?_
    rw [wo_at (fun hc => dg b7 hc (none_of_le (sub_le _ _) hb7))]
    exact kb
  simp only [vm, mm, cell_of kb']
  refine heldBdd_spec o12.slc (by omega) (by omega) ⟨_, rfl, bs_f (by simp; omega) (bs_f (by simp) ?_)⟩
  have l012 : h.le h12 := Hp.le_trans l13 k3'
  refine toIntS_spec (hs.mono l012) e' fun t13 h13 l13' ht13 => ⟨_, rfl, ?_⟩
  refine hI (ht13.mono (sub_le _ _)) ?_
  intro w1 h15 l15 ow1
  refine ⟨_, _, _, _, rfl, ?_⟩
  intro b16 hb16
  have l16 := le_row [I cb.v, w1.v, I cb.r] 3 hb16
  have g16 := row_self h15 b16 [I cb.v, w1.v, I cb.r] 3
  have l1216 := Hp.le_trans l13' (Hp.le_trans l15 l16)
  have w16 := l1216 _ _ (k3' _ _ w3)
  have kb16 := l1216 _ _ kb'
  try simp only [vm, mm]
  generalize hh16 : h15.row b16 [I cb.v, w1.v, I cb.r] 3 = h16 at *
  simp only [vm, mm, cell_of g16, cell_of w16]
  refine ⟨by omega, joinP_of (fun J => J false h16) ?_ ?_⟩
  rotate_left
  · intro J hJ
    refine eqBdd_spec ((ow1.mono (sub_le _ _)).mono l16).slc ((ow3.mono k3').mono l1216).slc ⟨_, rfl, bs_f (by simp) ?_⟩
    simpa using hJ
  refine bs_f rfl ?_
  simp only [vm, mm, cell_of kb16]
  refine heldBdd_spec (o12.mono l1216).slc (by omega) (by omega) ⟨_, rfl, bs_f (by simp; omega) (bs_f (by simp) ⟨_, Hp.le_trans l012 l1216, k⟩)⟩

end Go.Lead
