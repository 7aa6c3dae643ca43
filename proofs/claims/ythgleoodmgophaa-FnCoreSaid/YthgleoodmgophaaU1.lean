/- What the reference's look for what follows computes. -/
import Derived.Test.YthgleoodmgophaaB1
namespace Go.Lead
open Go
set_option linter.unusedSimpArgs false
set_option linter.unusedVariables false

/-- A list of numbers of one's own that grows. -/
def IBuf (h : Hp) (s : Sl) (xs : List Int) : Prop := Buf h s 1 (xs.map I)
theorem IBuf.len {h : Hp} {s : Sl} {xs : List Int} (e : IBuf h s xs) : s.n = xs.length := by have := e.1; simp at this; omega
theorem IBuf.ints {h : Hp} {s : Sl} {xs : List Int} (e : IBuf h s xs) (hn : xs.length ≤ 1048576) : IntS h s xs := Buf.slc e (by rw [e.len]; omega)
theorem IBuf.mono {h h' : Hp} {s : Sl} {xs : List Int} (l : h.le h') (e : IBuf h s xs) : IBuf h' s xs := Buf.mono l e
/-- One number more. -/
theorem aApp_int {h : Hp} {s : Sl} {xs : List Int} {x : Int} {b : Nat} {K : Option Addr → Nat → Nat → Hp → Prop} (hb : IBuf h s xs) (hl : xs.length ≤ 1048576) (hc : Hp.cell h b 0 = some (I x))
    (k : ∀ (s' : Sl) (h' : Hp), IBuf h' s' (xs ++ [x]) → (h.offS s).le (h'.offS s') → K s'.a s'.n s'.c h') : aApp h s.a s.n s.c (some ⟨b, 0, none⟩) 1 1 8 K := by
  refine aApp_buf hb (by omega) (by rw [hb.len]; omega) (by rw [hb.len]; omega) ⟨b, 0, rfl, fun i v hi => ?_⟩ (news := [I x]) rfl rfl ?_
  · cases i with
    | zero => simp at hi; subst hi; exact hc
    | succ i => simp at hi
  · intro s' h' hn hbuf hle _
    exact k s' h' (by unfold IBuf; rw [List.map_append]; exact hbuf) hle

end Go.Lead
