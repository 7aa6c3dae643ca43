/- What both sides' SatCore computes. -/
import Derived.Test.YthgleoodmgophaaU4
namespace Go.Lead
open Go
set_option linter.unusedSimpArgs false
set_option linter.unusedVariables false

/-- A list of lists that grows, its pieces lying in a heap that is kept. -/
structure GrownSS (h h' : Hp) (t : Sl) (xss : List (List Int)) : Prop where
  buf : ∃ ts : List Sl, Buf h' t 1 (ts.map Sl.v) ∧ ts.length = xss.length ∧ ∀ (i : Nat) (h1 : i < ts.length) (h2 : i < xss.length), IntS h ts[i] xss[i]
  le : h.le (h'.offS t)
theorem GrownSS.keep {h h' : Hp} {t : Sl} {xss : List (List Int)} (e : GrownSS h h' t xss) : h.le h' := Hp.le_trans e.le (offS_le _ _)
def bcells (n : Nat) (g : Nat → Bool) : List Value := ((List.range n).map g).map Value.bool
theorem bcells_len (n : Nat) (g : Nat → Bool) : (bcells n g).length = n := by simp [bcells]
theorem bcells_ext {n : Nat} {g g' : Nat → Bool} (h : ∀ j, j < n → g j = g' j) : bcells n g = bcells n g' := by
  unfold bcells
  congr 1
  exact List.map_congr_left fun j hj => h j (by simpa using hj)
theorem bcells_set (n i : Nat) (g : Nat → Bool) (v : Bool) : (bcells n g).set i (.bool v) = bcells n (fun j => if j = i then v else g j) := by
  apply List.ext_getElem
  · simp [bcells]
  · intro j h1 h2
    rw [List.getElem_set]
    split
    · rename_i h; subst h; simp [bcells]
    · rename_i h; simp [bcells, fun e => h (Eq.symm e), show ¬ j = i from fun e => h e.symm]
end Go.Lead
