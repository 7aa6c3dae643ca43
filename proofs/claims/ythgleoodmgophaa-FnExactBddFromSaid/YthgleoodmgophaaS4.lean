/- How lists and clauses are marked. -/
import Derived.Test.YthgleoodmgophaaS2
namespace Go.Lead
open Go
set_option linter.unusedSimpArgs false
set_option linter.unusedVariables false

def markCells (k : Int) (n : Nat) : List Value := (List.range n).map fun (i : Nat) => I (k + (i : Int))
theorem set1_take {cs : List Value} {i : Nat} {k : Int} (hl : i < cs.length) (hp : cs.take i = markCells k i) (x : Value) (hx : x = I (k + (i : Nat))) :
    (cs.set i x).take (i + 1) = markCells k (i + 1) := by
  rw [take_set _ hl, hp]
  subst hx
  simp only [markCells, List.range_succ, List.map_append, List.map_cons, List.map_nil]

theorem markIntS_spec {h : Hp} {s : Sl} {cs : List Value} {k0 : Int} {R : Value → Hp → Prop} (hs : Own h s 1 cs) (h0 : 0 ≤ k0) (hk : k0 + s.n ≤ 9223372036854775807)
    (k : ∀ h', (h.wo s.used).le h' → Own h' s 1 (markCells k0 s.n) → (∀ b, h b = none → h' b = none) → R (I (k0 + s.n)) h') : c_laws_markIntS #[s.v, I k0] h R := by
  apply R_laws_markIntS
  unfold F_laws_markIntS
  by_cases hn0 : s.n = 0
  · refine loop_up 0 (fun i vs h' => vs = [s.v, I k0, I i] ∧ h' = h) ⟨rfl, rfl⟩ ?_
    rintro i _ _ next hi ⟨rfl, rfl⟩ hn
    refine ⟨_, _, _, rfl, bs_f (by simp [hn0]) ?_⟩
    have := k _ (wo_le _ _) ⟨by simp [hn0, markCells], hs.2.1, .inl hn0⟩ (fun b hb => hb)
    simpa [hn0] using this
  obtain ⟨b, z, ha, hb⟩ := hs.2.2.resolve_left hn0
  have hcl0 : cs.length = s.n := by have := hs.1; omega
  refine loop_up s.n (fun i vs h' => vs = [s.v, I (k0 + (i : Nat)), I i] ∧ ∃ cs', h' = h.set b (some (.inl ⟨cs', z, false⟩)) ∧ cs'.length = s.n ∧ cs'.take i = markCells k0 i)
    ⟨by simp, cs, ?_, hcl0, by simp [markCells]⟩ ?_
  · funext c
    by_cases hc : c = b
    · subst hc; rw [Hp.set_eq, hb]
    · rw [Hp.set_ne _ _ hc]
  rintro i _ _ next hi ⟨rfl, cs', rfl, hcl, hp⟩ hn
  refine ⟨_, _, _, rfl, ?_⟩
  have hrow : ∀ cs', h.set b (some (.inl ⟨cs', z, false⟩)) = h.row b cs' z := fun _ => rfl
  by_cases hlt : i < s.n
  · refine bs_t (by simp [hlt]) ?_
    have w1 : W (k0 + (i : Nat) + 1) = k0 + (i + 1 : Nat) := by rw [W_id (by omega) (by omega)]; omega
    simp only [vm, mm, ha, hrow, w1, W_succ (n := i) (by omega)]
    refine ⟨by omega, by omega, hn hlt _ _ ⟨rfl, _, rfl, by simpa using hcl, set1_take (by omega) hp _ rfl⟩⟩
  · have : i = s.n := by omega
    subst this
    rw [← hcl, List.take_length, hcl] at hp
    subst hp
    refine bs_f (by simp) ?_
    refine k (h.set b (some (.inl ⟨markCells k0 s.n, z, false⟩))) ?_ ⟨by simp [markCells], hs.2.1, .inr ⟨b, z, ha, Hp.set_eq ..⟩⟩ ?_
    · refine le_set_of _ (wo_le _ _) (wo_none ?_)
      simp [Sl.used, hn0, Sl.blk, ha]
    · intro c hc
      rw [Hp.set_ne _ _ (fun e => by subst e; rw [hb] at hc; cases hc)]; exact hc

end Go.Lead
