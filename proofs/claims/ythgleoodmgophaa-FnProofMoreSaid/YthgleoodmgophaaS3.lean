/- What both sides' SatLeast computes, and the walks of two laws. -/
import Derived.Test.YthgleoodmgophaaS2
namespace Go.Lead
open Go
set_option linter.unusedSimpArgs false
set_option linter.unusedVariables false

theorem least_spec {h : Hp} {s : Sl} {xss : List (List Int)} {v : Nat} {R : Value → Hp → Prop} (hs : IntSS h s xss)
    (hv : v ≤ 10) (hx : ∀ l ∈ xss, ClauseOk v l = true) (k : R (I (leastI (AllB xss) (2 ^ v))) h) : c_impl_least #[I v, s.v] h R := by
  apply R_impl_least
  unfold F_impl_least
  have h2 := two_pow_le (n := v) (by omega)
  rw [if_neg (by omega), shlW_one (by omega)]
  refine loop_up (2 ^ v) (fun i vs h' => vs = [s.v, I (2 ^ v : Nat), I i] ∧ h' = h ∧ (List.range i).any (AllB xss) = false) ⟨rfl, rfl, by simp⟩ ?_
  rintro i _ _ next hi ⟨rfl, rfl, hp⟩ hn
  refine ⟨_, _, _, rfl, ?_⟩
  by_cases hlt : i < 2 ^ v
  · refine bs_t (by simpa using by exact_mod_cast hlt) ?_
    refine clausesHold_spec hs (by omega) (by omega) hx ⟨_, rfl, bsplit_of (fun he => ?_) (fun he => ?_)⟩
    · rwa [leastI_some hlt hp he] at k
    · rw [W_succ (by omega)]
      exact hn hlt _ _ ⟨rfl, rfl, range_any_step hp he⟩
  · have : i = 2 ^ v := by omega
    subst this
    refine bs_f (by simp) ?_
    rwa [leastI_none hp] at k

end Go.Lead
