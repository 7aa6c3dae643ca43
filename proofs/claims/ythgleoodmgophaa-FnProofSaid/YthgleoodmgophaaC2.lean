/- What both sides' SatCore computes. -/
import Derived.Test.YthgleoodmgophaaU4
namespace Go.Lead
open Go
set_option linter.unusedSimpArgs false
set_option linter.unusedVariables false

/-- A list of lists that grows, its pieces lying in a heap that is kept. -/
structure GrownSS (h h' : Hp) (t : Sl) (xss : List (List Int)) : Prop where
  buf : ∃ ts : List Sl, Buf h' t 1 (ts.map Sl.v) ∧ ts.length = xss.length ∧ ∀ (i : Nat) (h1 : i < ts.length) (h2 : i < xss.length), IntS h ts[i] xss[i]
  le : h.le (h'.offS t)
theorem GrownSS.keep {h h' : Hp} {t : Sl} {xss : List (List Int)} (e : GrownSS h h' t xss) : h.le h' := Hp.le_trans e.le (offS_le _ _)
theorem GrownSS.start (h : Hp) : GrownSS h h ⟨none, 0, 0⟩ [] := ⟨⟨[], buf_nil _ _, rfl, fun i h1 => by simp at h1⟩, Hp.le_refl _⟩
theorem GrownSS.ints {h h' : Hp} {t : Sl} {xss : List (List Int)} (e : GrownSS h h' t xss) (hl : xss.length ≤ 1048576) : IntSS h' t xss := by
  obtain ⟨ts, hb, h1, h2⟩ := e.buf
  have hn : t.n = xss.length := by have := hb.1; simp at this; omega
  exact ⟨ts, h1, hb.slc (by omega), fun i a b => (h2 i a b).mono e.keep⟩
theorem GrownSS.app {h h' : Hp} {t u : Sl} {xss : List (List Int)} {x : List Int} {b : Nat} {K : Option Addr → Nat → Nat → Hp → Prop} (e : GrownSS h h' t xss) (hl : xss.length ≤ 1048576) (hu : IntS h u x) (hb : h' b = none)
    (k : ∀ (t' : Sl) (h'' : Hp), GrownSS h h'' t' (xss ++ [x]) → K t'.a t'.n t'.c h'') : aApp (h'.row b [u.v] 1) t.a t.n t.c (some ⟨b, 0, none⟩) 1 1 24 K := by
  have l := le_row [u.v] 1 hb
  obtain ⟨ts, hbuf, h1, h2⟩ := e.buf
  have hn : t.n = xss.length := by have := hbuf.1; simp at this; omega
  refine aApp_buf (hbuf.mono l) (by omega) (by omega) (by omega) ⟨b, 0, rfl, fun i v hi => ?_⟩ (news := [u.v]) rfl rfl ?_
  · cases i with
    | zero => simp at hi; subst hi; exact cell_row _ _ _ _ _
    | succ i => simp at hi
  · intro t' h'' hn' hb' hle _
    refine k t' h'' ⟨⟨ts ++ [u], by rw [List.map_append]; exact hb', by simp [h1], ?_⟩, Hp.le_trans (Hp.le_trans e.le (offS_mono t l)) hle⟩
    intro i a c
    by_cases hi : i < ts.length
    · rw [List.getElem_append_left hi, List.getElem_append_left (by omega)]; exact h2 i hi (by omega)
    · have : i = ts.length := by simp at a; omega
      subst this
      simp only [List.getElem_append_right (Nat.le_refl _), Nat.sub_self, List.getElem_cons_zero]
      simp only [h1, List.getElem_append_right (Nat.le_refl _), Nat.sub_self, List.getElem_cons_zero]
      exact hu

end Go.Lead
