/- What both sides' SatLeast computes, and the walks of two laws. -/
import Derived.Test.YthgleoodmgophaaS2
namespace Go.Lead
open Go
set_option linter.unusedSimpArgs false
set_option linter.unusedVariables false

theorem least_spec {h : Hp} {s : Sl} {xss : List (List Int)} {v : Nat} {R : Value → Hp → Prop} (hs : IntSS h s xss)
    (hv : v ≤ 10) (hx : ∀ l ∈ xss, ClauseOk v l = true) (k : R (I (leastI (AllB xss) (2 ^ v))) h) : c_impl_least #[I v, s.v] h R := by
  apply R_impl_least
  unfold F_impl_least
  have h2 := two_pow_le (n := v) (by omega)
  rw [if_neg (by omega), shlW_one (by omega)]
  refine loop_up (2 ^ v) (fun i vs h' => vs = [s.v, I (2 ^ v : Nat), I i] ∧ h' = h ∧ (List.range i).any (AllB xss) = false) ⟨rfl, rfl, by simp⟩ ?_
  rintro i _ _ next hi ⟨rfl, rfl, hp⟩ hn
  refine ⟨_, _, _, rfl, ?_⟩
  by_cases hlt : i < 2 ^ v
  · refine bs_t (by simpa using by exact_mod_cast hlt) ?_
    refine clausesHold_spec hs (by omega) (by omega) hx ⟨_, rfl, bsplit_of (fun he => ?_) (fun he => ?_)⟩
    · rwa [leastI_some hlt hp he] at k
    · rw [W_succ (by omega)]
      exact hn hlt _ _ ⟨rfl, rfl, range_any_step hp he⟩
  · have : i = 2 ^ v := by omega
    subst this
    refine bs_f (by simp) ?_
    rwa [leastI_none hp] at k

def satLeast (v : Int) (xss : List (List Int)) : Int := if CnfOkB v xss then leastI (AllB xss) (2 ^ v.toNat) else -1

theorem spec_SatLeast_spec {h : Hp} {s : Sl} {xss : List (List Int)} {v : Int} {R : Value → Hp → Prop} (hs : IntSS h s xss)
    (k : R (.tuple #[I (if satLeast v xss > 0 then satLeast v xss else 0), .bool (decide (satLeast v xss ≥ 0))]) h) : c_spec_SatLeast #[.agg #[I v, s.v]] h R := by
  refine ACalls.drop (R_spec_SatLeast ?_)
  unfold F_spec_SatLeast
  intro b hb
  have l0 := le_row [I v, s.v] 2 hb
  simp only [vm, mm]
  refine spec_CnfOk_spec (hs.mono l0) ⟨_, rfl, bsplit_of (fun hc => ⟨_, l0, ?_⟩) (fun hc => ?_)⟩
  · simp at hc; simpa [satLeast, hc] using k
  simp at hc
  obtain ⟨hv, hx, hcl⟩ := CnfOkB.iff.1 hc
  obtain ⟨m, rfl⟩ : ∃ m : Nat, v = m := ⟨v.toNat, by omega⟩
  simp only [vm, mm]
  refine l10Every_spec (hs.mono l0) (by omega) fun t h1 l1 ht => ⟨_, rfl, ?_⟩
  have f1 := l1 _ _ (row_self ..)
  refine ⟨f1, l10Least_spec (hs.mono (Hp.le_trans l0 l1)) (ht.mono (sub_le _ _)) (by simp) (by omega) hcl ⟨_, rfl, ?_⟩⟩
  have he : AllW xss (List.replicate xss.length true) = AllB xss := funext fun c => allW_true xss c
  simp only [satLeast, hc, if_true, Int.toNat_natCast] at k
  rw [he]
  refine bsplit_of (fun e => ⟨_, Hp.le_trans l0 l1, ?_⟩) (fun e => ⟨_, Hp.le_trans l0 l1, ?_⟩)
  · simp only [decide_eq_true_eq] at e
    rwa [if_neg (by omega), decide_eq_false (by omega)] at k
  · simp only [decide_eq_false_iff_not] at e
    rw [decide_eq_true (by omega)] at k
    split at k
    · exact k
    · have : leastI (AllB xss) (2 ^ m) = 0 := by omega
      rwa [this]

end Go.Lead
