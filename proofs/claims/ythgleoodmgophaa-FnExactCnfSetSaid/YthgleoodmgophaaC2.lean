/- What both sides' SatCore computes. -/
import Derived.Test.YthgleoodmgophaaU4
namespace Go.Lead
open Go
set_option linter.unusedSimpArgs false
set_option linter.unusedVariables false

/-- A list of lists that grows, its pieces lying in a heap that is kept. -/
structure GrownSS (h h' : Hp) (t : Sl) (xss : List (List Int)) : Prop where
  buf : ∃ ts : List Sl, Buf h' t 1 (ts.map Sl.v) ∧ ts.length = xss.length ∧ ∀ (i : Nat) (h1 : i < ts.length) (h2 : i < xss.length), IntS h ts[i] xss[i]
  le : h.le (h'.offS t)
theorem GrownSS.keep {h h' : Hp} {t : Sl} {xss : List (List Int)} (e : GrownSS h h' t xss) : h.le h' := Hp.le_trans e.le (offS_le _ _)
theorem GrownSS.ints {h h' : Hp} {t : Sl} {xss : List (List Int)} (e : GrownSS h h' t xss) (hl : xss.length ≤ 1048576) : IntSS h' t xss := by
  obtain ⟨ts, hb, h1, h2⟩ := e.buf
  have hn : t.n = xss.length := by have := hb.1; simp at this; omega
  exact ⟨ts, h1, hb.slc (by omega), fun i a b => (h2 i a b).mono e.keep⟩
end Go.Lead
