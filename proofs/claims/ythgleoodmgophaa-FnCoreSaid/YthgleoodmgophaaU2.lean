/- What the reference's units compute. -/
import Derived.Test.YthgleoodmgophaaU1
namespace Go.Lead
open Go
set_option linter.unusedSimpArgs false
set_option linter.unusedVariables false

/-- A list that grows, apart from a heap that is kept. -/
structure Grown (h h' : Hp) (t : Sl) (set : List Int) : Prop where
  buf : IBuf h' t set
  le : h.le (h'.offS t)
theorem Grown.keep {h h' : Hp} {t : Sl} {set : List Int} (e : Grown h h' t set) : h.le h' := Hp.le_trans e.le (offS_le _ _)
theorem Grown.app {h h' : Hp} {t : Sl} {set : List Int} {x : Int} {b : Nat} {K : Option Addr → Nat → Nat → Hp → Prop} (e : Grown h h' t set) (hl : set.length ≤ 1048576) (hb : h' b = none)
    (k : ∀ (t' : Sl) (h'' : Hp), Grown h h'' t' (set ++ [x]) → K t'.a t'.n t'.c h'') : aApp (h'.row b [I x] 1) t.a t.n t.c (some ⟨b, 0, none⟩) 1 1 8 K := by
  have l := le_row [I x] 1 hb
  refine aApp_int (e.buf.mono l) hl (cell_row _ _ _ _ _) fun t' h'' hb' hl' => k t' h'' ⟨hb', Hp.le_trans (Hp.le_trans e.le (offS_mono t l)) hl'⟩

end Go.Lead
