/- Clauses that grow in a struct of one's own, and the reader of drawn inputs. -/
import Derived.Test.YthgleoodmgophaaD1
namespace Go.Lead
open Go
set_option linter.unusedSimpArgs false
set_option linter.unusedVariables false

/-- A list of lists that grows in a struct of one's own, its pieces lying in a heap that is kept. -/
structure GrownD (g h : Hp) (bw : Nat) (v : Int) (t : Sl) (xss : List (List Int)) : Prop where
  buf : ∃ ts : List Sl, Buf h t 1 (ts.map Sl.v) ∧ ts.length = xss.length ∧ ∀ (i : Nat) (h1 : i < ts.length) (h2 : i < xss.length), IntS g ts[i] xss[i]
  le : g.le (h.offS t)
  row : h bw = some (.inl ⟨[I v, t.v], 2, false⟩)
  new : g bw = none
  own : ∀ a, t.a = some a → a.block ≠ bw
theorem offS_some {h : Hp} {t : Sl} {c : Nat} {x : Blk} (e : (h.offS t) c = some x) : h c = some x ∧ ∀ a, t.a = some a → a.block ≠ c := by
  refine ⟨offS_le _ _ _ _ e, fun a ha hac => ?_⟩
  subst hac
  simp [Hp.offS, ha, Hp.off, Hp.set] at e
theorem GrownD.keep {g h : Hp} {bw : Nat} {v : Int} {t : Sl} {xss : List (List Int)} (e : GrownD g h bw v t xss) : g.le h := Hp.le_trans e.le (offS_le _ _)
theorem GrownD.len {g h : Hp} {bw : Nat} {v : Int} {t : Sl} {xss : List (List Int)} (e : GrownD g h bw v t xss) : t.n = xss.length := by
  obtain ⟨ts, hb, h1, _⟩ := e.buf
  have := hb.1; simp at this; omega
theorem GrownD.blk {g h : Hp} {bw : Nat} {v : Int} {t : Sl} {xss : List (List Int)} (e : GrownD g h bw v t xss) : ∀ a, t.a = some a → ∃ ts : List Sl, ∃ z, h a.block = some (.inl ⟨ts.map Sl.v, z, false⟩) := by
  intro a ha
  obtain ⟨ts, hb, _, _⟩ := e.buf
  rcases hb.2.2 with ⟨h0, _⟩ | ⟨b, hb1, hb2⟩
  · rw [h0] at ha; cases ha
  · rw [hb1] at ha; cases ha; exact ⟨ts, _, hb2⟩
theorem GrownD.start {h : Hp} {bw : Nat} {v : Int} (hb : h bw = none) : GrownD h (h.row bw [I v, .slice none 0 0] 2) bw v ⟨none, 0, 0⟩ [] :=
  ⟨⟨[], buf_nil _ _, rfl, fun i h1 => by simp at h1⟩, le_row _ _ hb, row_self .., hb, fun a ha => by cases ha⟩
/-- What is kept may be seen anew. -/
theorem GrownD.to {g h g' h' : Hp} {bw : Nat} {v v' : Int} {t : Sl} {xss : List (List Int)} (e : GrownD g h bw v t xss) (l : g.le g') (l' : g'.le (h'.offS t)) (hr : h' bw = some (.inl ⟨[I v', t.v], 2, false⟩))
    (hbuf : ∀ a, t.a = some a → h' a.block = h a.block) (hn : g' bw = none) : GrownD g' h' bw v' t xss := by
  obtain ⟨ts, hb, h1, h2⟩ := e.buf
  refine ⟨⟨ts, ⟨hb.1, hb.2.1, hb.2.2.imp id ?_⟩, h1, fun i a b => (h2 i a b).mono l⟩, l', hr, hn, e.own⟩
  rintro ⟨b, hb1, hb2⟩
  exact ⟨b, hb1, (hbuf _ hb1).trans hb2⟩
/-- A new row besides. -/
theorem GrownD.lit {g h : Hp} {bw b n : Nat} {v : Int} {t : Sl} {xss : List (List Int)} {cs : List Value} (e : GrownD g h bw v t xss) (hb : h b = none) : GrownD (g.row b cs n) (h.row b cs n) bw v t xss := by
  have gb : g b = none := none_of_le e.keep hb
  have nb := fresh_ne hb e.row
  have nt : ∀ a, t.a = some a → a.block ≠ b := fun a ha => by
    obtain ⟨ts, z, hx⟩ := e.blk a ha
    exact fresh_ne hb hx
  refine e.to (le_row _ _ gb) ?_ (by rw [row_ne _ _ nb]; exact e.row) (fun a ha => row_ne _ _ (nt a ha)) (by rw [row_ne _ _ nb]; exact e.new)
  intro c x hc
  by_cases h' : c = b
  · subst h'
    rw [offS_at nt, row_self]; rw [row_self] at hc; exact hc
  · rw [row_ne _ _ h'] at hc
    obtain ⟨h1, h2⟩ := offS_some (e.le _ _ hc)
    rw [offS_at h2, row_ne _ _ h']; exact h1
theorem GrownD.app {g h : Hp} {bw b : Nat} {v : Int} {t u : Sl} {xss : List (List Int)} {x : List Int} {K : Option Addr → Nat → Nat → Hp → Prop} (e : GrownD g h bw v t xss) (hl : xss.length ≤ 1048576) (hu : IntS g u x) (hb : h b = none)
    (k : ∀ (t' : Sl) (h' : Hp), h' bw = some (.inl ⟨[I v, t.v], 2, false⟩) → (h.offS t).le (h'.offS t') → GrownD g (h'.row bw [I v, t'.v] 2) bw v t' (xss ++ [x]) → K t'.a t'.n t'.c h') :
    aApp (h.row b [u.v] 1) t.a t.n t.c (some ⟨b, 0, none⟩) 1 1 24 K := by
  have l := le_row [u.v] 1 hb
  have hn := e.len
  obtain ⟨ts, hbuf, h1, h2⟩ := e.buf
  refine aApp_buf (hbuf.mono l) (by omega) (by omega) (by omega) ⟨b, 0, rfl, fun i v hi => ?_⟩ (news := [u.v]) rfl rfl ?_
  · cases i with
    | zero => simp at hi; subst hi; exact cell_row _ _ _ _ _
    | succ i => simp at hi
  intro t' h' hn' hb' hle _
  have hle' : (h.offS t).le (h'.offS t') := Hp.le_trans (offS_mono t l) hle
  obtain ⟨f, o⟩ := offS_keep hle' e.row e.own
  refine k t' h' f hle' ⟨⟨ts ++ [u], ?_, by simp [h1], ?_⟩, ?_, row_self .., e.new, o⟩
  · rw [List.map_append]
    refine ⟨hb'.1, hb'.2.1, hb'.2.2.imp id ?_⟩
    rintro ⟨c, hc, hcb⟩
    exact ⟨c, hc, by rw [row_ne _ _ (o _ hc)]; exact hcb⟩
  · intro i a c
    by_cases hi : i < ts.length
    · rw [List.getElem_append_left hi, List.getElem_append_left (by omega)]; exact h2 i hi (by omega)
    · have : i = ts.length := by simp at a; omega
      subst this
      simp only [List.getElem_append_right (Nat.le_refl _), Nat.sub_self, List.getElem_cons_zero]
      simp only [h1, List.getElem_append_right (Nat.le_refl _), Nat.sub_self, List.getElem_cons_zero]
      exact hu
  · intro c x hc
    obtain ⟨h3, h4⟩ := offS_some (hle' _ _ (e.le _ _ hc))
    have hcb : c ≠ bw := fun hh => by rw [hh, e.new] at hc; cases hc
    rw [offS_at h4, row_ne _ _ hcb]; exact h3

structure Rd (h : Hp) (B : Nat) (s : Sl) (bs : List Nat) (p : Nat) : Prop where
  row : h B = some (.inl ⟨[s.v, I p], 2, false⟩)
  byt : ByteS (h.off B) s bs
theorem Rd.to {h h' : Hp} {B : Nat} {s : Sl} {bs : List Nat} {p : Nat} (e : Rd h B s bs p) (l : h.le h') : Rd h' B s bs p := ⟨l _ _ e.row, e.byt.mono (off_mono _ l)⟩

end Go.Lead
