/- What drawn sets of clauses are, and the walk of the law of cores. -/
import Derived.Test.YthcnlmahlmndhaaP5
namespace Go.Lead
open Go
set_option linter.unusedSimpArgs false
set_option linter.unusedVariables false

theorem ldInts_spec {h : Hp} {s t : Sl} {xs ys : List Int} {R : Value → Hp → Prop} (hs : IntS h s xs) (ht : IntS h t ys)
    (k : R (.bool (decide (xs = ys))) h) : c_laws_ldInts #[s.v, t.v] h R := by
  apply R_laws_ldInts
  unfold F_laws_ldInts
  have ls := hs.len
  have lt := ht.len
  by_cases hl : xs.length = ys.length
  · refine bs_f (by simp [ls, lt, hl]) ?_
    refine loop_up xs.length (fun i vs h' => vs = [s.v, t.v, I i] ∧ h' = h ∧ xs.take i = ys.take i) ⟨rfl, rfl, by simp⟩ ?_
    rintro i _ _ next hi ⟨rfl, rfl, hp⟩ hn
    refine ⟨_, _, _, rfl, ?_⟩
    by_cases hlt : i < xs.length
    · obtain ⟨b, o, ha, hc⟩ := hs.at hlt
      have hi' : i < ys.length := by omega
      obtain ⟨b', o', ha', hc'⟩ := ht.at hi'
      have hb := hs.bound
      refine bs_t (by simp [ls, hlt]) ?_
      simp only [vm, ls, lt, ha, ha', hc, hc', W_succ (n := i) (by omega)]
      refine ⟨by omega, by omega, bsplit_of (fun he => ?_) (fun he => ?_)⟩
      · rwa [decide_eq_false (fun e => by subst e; simp at he)] at k
      · exact hn hlt _ _ ⟨rfl, rfl, take_step hlt hi' hp (by simpa using he)⟩
    · have : i = xs.length := by omega
      subst this
      refine bs_f (by simp [ls]) ?_
      rw [List.take_length, hl, List.take_length] at hp
      rwa [decide_eq_true hp] at k
  · refine bs_t (by simp [ls, lt]; omega) ?_
    rwa [decide_eq_false (fun e => hl (by rw [e]))] at k

end Go.Lead
