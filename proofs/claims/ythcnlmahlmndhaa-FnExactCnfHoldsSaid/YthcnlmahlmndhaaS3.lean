/- What both sides' SatLeast computes, and the walks of two laws. -/
import Derived.Test.YthcnlmahlmndhaaS2
namespace Go.Lead
open Go
set_option linter.unusedSimpArgs false
set_option linter.unusedVariables false

theorem FnExactCnfHolds_spec {h : Hp} {s : Sl} {xss : List (List Int)} {v c : Int} {R : Value → Hp → Prop} (hs : IntSS h s xss)
    (k : R (.bool true) h) : c_laws_FnExactCnfHolds #[.agg #[I v, s.v], I c] h R := by
  refine ACalls.drop (R_laws_FnExactCnfHolds ?_)
  unfold F_laws_FnExactCnfHolds
  intro b hb
  have l0 := le_row [I v, s.v] 2 hb
  simp only [vm, mm]
  refine szCnf_spec (hs.mono l0) (by omega) (by omega) fun r hr => ⟨_, rfl, bsplit_of (fun e => ⟨_, l0, k⟩) (fun e => ?_)⟩
  have e' : wtSS xss + xss.length ≤ 1048576 := by simp at e; omega
  simp only [vm, mm]
  refine toCnf_spec (hs.mono l0) e' fun t1 h1 l1 ht1 => ⟨_, _, rfl, spec_CnfHolds_spec (ht1.mono (sub_le _ _)) ⟨_, rfl, ?_⟩⟩
  have f1 := l1 _ _ (row_self ..)
  simp only [vm, mm, cell_of f1]
  refine toCnf_spec (hs.mono (Hp.le_trans l0 l1)) e' fun t2 h2 l2 ht2 => ⟨_, _, rfl, ?_⟩
  intro b2 hb2
  have f2 := l2 _ _ f1
  have l3 := le_row [I v, t2.v] 2 hb2
  refine ⟨by omega, impl_CnfHolds_spec ((ht2.mono (sub_le _ _)).mono l3) ⟨_, rfl, bs_f (by simp) ?_⟩⟩
  have f3 := l3 _ _ f2
  have g3 := row_self h2 b2 [I v, t2.v] 2
  simp only [vm, mm, cell_of f3, cell_of g3]
  refine toCnf_spec (hs.mono (Hp.le_trans l0 (Hp.le_trans l1 (Hp.le_trans l2 l3)))) e' fun t3 h3 l4 ht3 => ⟨_, _, rfl, ?_⟩
  refine ⟨l4 _ _ g3, eqCnf_spec (((ht2.mono (sub_le _ _)).mono l3).mono l4) (ht3.mono (sub_le _ _)) ⟨_, rfl, ?_⟩⟩
  refine bs_f (by simp) ⟨_, Hp.le_trans l0 (Hp.le_trans l1 (Hp.le_trans l2 (Hp.le_trans l3 l4))), k⟩

end Go.Lead
