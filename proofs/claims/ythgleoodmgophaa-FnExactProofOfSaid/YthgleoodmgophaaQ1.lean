/- What both sides' looks at proofs compute. -/
import Derived.Test.YthgleoodmgophaaP6
namespace Go.Lead
open Go
set_option linter.unusedSimpArgs false
set_option linter.unusedVariables false

theorem GrownSS.up {h h' h'' : Hp} {t : Sl} {xss : List (List Int)} (e : GrownSS h h' t xss) (l : h'.le h'') : GrownSS h h'' t xss := by
  obtain ⟨ts, h1, h2, h3⟩ := e.buf
  exact ⟨⟨ts, h1.mono l, h2, h3⟩, Hp.le_trans e.le (offS_mono t l)⟩

theorem opposites_spec {h : Hp} {s : Sl} {xs : List Int} {R : Value → Hp → Prop} (hs : IntS h s xs) (hx : ∀ x ∈ xs, -1000 ≤ x ∧ x ≤ 1000) (hl : xs.length ≤ 1048576)
    (k : ∀ t h', Grown h h' t (xs.map (- ·)) → R (Sl.v t) h') : c_impl_opposites #[s.v] h R := by
  apply R_impl_opposites
  unfold F_impl_opposites
  refine loop_up xs.length (fun i vs h' => ∃ o, vs = [Sl.v o, s.v, I xs.length, I i] ∧ Grown h h' o ((xs.take i).map (- ·))) ⟨⟨none, 0, 0⟩, by rw [hs.len]; rfl, Grown.start _⟩ ?_
  rintro i _ h1 next hi ⟨o, rfl, hgo⟩ hn
  refine ⟨_, _, _, _, rfl, ?_⟩
  by_cases hlt : i < xs.length
  · obtain ⟨b, ob, ha, hc⟩ := (hs.mono hgo.keep).at hlt
    have hxi := hx _ (List.getElem_mem hlt)
    refine bs_t (by simp [hlt]) ?_
    simp only [vm, mm, hs.len, ha, hc, W_succ (n := i) (by omega)]
    rw [W_id (n := 0 - xs[i]) (by omega) (by omega), Int.zero_sub]
    refine ⟨by omega, fun b2 hb2 => hgo.app (by simp; omega) hb2 fun o' h2 hg2 => hn hlt _ _ ⟨o', rfl, ?_⟩⟩
    rw [map_take_step hlt]; exact hg2
  · have : i = xs.length := by omega
    subst this
    rw [List.take_length] at hgo
    exact bs_f (by simp) (k o h1 hgo)

/-- The shape of a proof. -/
def shapeB (v : Int) (cls p : List (List Int)) : Bool := CnfOkB v cls && (decide (p.length ≤ 300) && p.all (ClauseOk v))
theorem shapeB.iff {v : Int} {cls p : List (List Int)} : shapeB v cls p = true ↔ CnfOkB v cls = true ∧ p.length ≤ 300 ∧ ∀ l ∈ p, ClauseOk v l = true := by
  simp [shapeB, List.all_eq_true]

end Go.Lead
