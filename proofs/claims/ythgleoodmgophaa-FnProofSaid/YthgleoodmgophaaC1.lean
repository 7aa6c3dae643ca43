/- Copies of lists of numbers, and lists without some. -/
import Derived.Test.YthgleoodmgophaaS3
namespace Go.Lead
open Go
set_option linter.unusedSimpArgs false
set_option linter.unusedVariables false

theorem map_I_one (xs : List Int) : (xs.map I).all (·.oneCell') = true := by
  rw [List.all_eq_true]
  intro v hv
  obtain ⟨x, _, rfl⟩ := List.mem_map.1 hv
  rfl
theorem IntS.slc {h : Hp} {s : Sl} {xs : List Int} (e : IntS h s xs) : SlC h s 1 (xs.map I) := e

theorem cloneInts_spec {h : Hp} {s : Sl} {xs : List Int} {R : Value → Hp → Prop} (hs : IntS h s xs) (hl : xs.length ≤ 1048576)
    (k : ∀ t h', h.le h' → Buf (h'.sub h) t 1 (xs.map I) → R (Sl.v t) h') : c_impl_cloneInts #[s.v] h R := by
  apply R_impl_cloneInts
  unfold F_impl_cloneInts
  have := hs.len
  exact aApp_copy hs (by omega) (map_I_one _) fun t h' hn hle hb => k t h' hle hb

end Go.Lead
