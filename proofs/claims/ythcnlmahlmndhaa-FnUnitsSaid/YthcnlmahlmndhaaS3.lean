/- What both sides' SatLeast computes, and the walks of two laws. -/
import Derived.Test.YthcnlmahlmndhaaS2
namespace Go.Lead
open Go
set_option linter.unusedSimpArgs false
set_option linter.unusedVariables false

def satLeast (v : Int) (xss : List (List Int)) : Int := if CnfOkB v xss then leastI (AllB xss) (2 ^ v.toNat) else -1

theorem spec_SatLeast_spec {h : Hp} {s : Sl} {xss : List (List Int)} {v : Int} {R : Value → Hp → Prop} (hs : IntSS h s xss)
    (k : R (.tuple #[I (if satLeast v xss > 0 then satLeast v xss else 0), .bool (decide (satLeast v xss ≥ 0))]) h) : c_spec_SatLeast #[.agg #[I v, s.v]] h R := by
  refine ACalls.drop (R_spec_SatLeast ?_)
  unfold F_spec_SatLeast
  intro b hb
  have l0 := le_row [I v, s.v] 2 hb
  simp only [vm, mm]
  refine spec_CnfOk_spec (hs.mono l0) ⟨_, rfl, bsplit_of (fun hc => ⟨_, l0, ?_⟩) (fun hc => ?_)⟩
  · simp at hc; simpa [satLeast, hc] using k
  simp at hc
  obtain ⟨hv, hx, hcl⟩ := CnfOkB.iff.1 hc
  obtain ⟨m, rfl⟩ : ∃ m : Nat, v = m := ⟨v.toNat, by omega⟩
  simp only [vm, mm]
  refine l10Every_spec (hs.mono l0) (by omega) fun t h1 l1 ht => ⟨_, rfl, ?_⟩
  have f1 := l1 _ _ (row_self ..)
  refine ⟨f1, l10Least_spec (hs.mono (Hp.le_trans l0 l1)) (ht.mono (sub_le _ _)) (by simp) (by omega) hcl ⟨_, rfl, ?_⟩⟩
  have he : AllW xss (List.replicate xss.length true) = AllB xss := funext fun c => allW_true xss c
  simp only [satLeast, hc, if_true, Int.toNat_natCast] at k
  rw [he]
  refine bsplit_of (fun e => ⟨_, Hp.le_trans l0 l1, ?_⟩) (fun e => ⟨_, Hp.le_trans l0 l1, ?_⟩)
  · simp only [decide_eq_true_eq] at e
    rwa [if_neg (by omega), decide_eq_false (by omega)] at k
  · simp only [decide_eq_false_iff_not] at e
    rw [decide_eq_true (by omega)] at k
    split at k
    · exact k
    · have : leastI (AllB xss) (2 ^ m) = 0 := by omega
      rwa [this]

end Go.Lead
