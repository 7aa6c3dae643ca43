/- Drawn proofs, and the walk of the law of proofs. -/
import Derived.Test.YthgleoodmgophaaQ6
namespace Go.Lead
open Go
set_option linter.unusedSimpArgs false
set_option linter.unusedVariables false

theorem GrownSS.appK {g h : Hp} {t u : Sl} {xss : List (List Int)} {x : List Int} {b : Nat} {K : Option Addr → Nat → Nat → Hp → Prop} (e : GrownSS g h t xss) (hl : xss.length ≤ 1048576) (hu : IntS g u x) (hb : h b = none)
    (k : ∀ (t' : Sl) (h'' : Hp), (h.offS t).le (h''.offS t') → GrownSS g h'' t' (xss ++ [x]) → K t'.a t'.n t'.c h'') : aApp (h.row b [u.v] 1) t.a t.n t.c (some ⟨b, 0, none⟩) 1 1 24 K := by
  have l := le_row [u.v] 1 hb
  have hn := e.len
  obtain ⟨ts, hbuf, h1, h2⟩ := e.buf
  refine aApp_buf (hbuf.mono l) (by omega) (by omega) (by omega) ⟨b, 0, rfl, fun i v hi => ?_⟩ (news := [u.v]) rfl rfl ?_
  · cases i with
    | zero => simp at hi; subst hi; exact cell_row _ _ _ _ _
    | succ i => simp at hi
  · intro t' h'' hn' hb' hle _
    have hle' : (h.offS t).le (h''.offS t') := Hp.le_trans (offS_mono t l) hle
    refine k t' h'' hle' ⟨⟨ts ++ [u], by rw [List.map_append]; exact hb', by simp [h1], ?_⟩, Hp.le_trans e.le hle'⟩
    intro i a c
    by_cases hi : i < ts.length
    · rw [List.getElem_append_left hi, List.getElem_append_left (by omega)]; exact h2 i hi (by omega)
    · have : i = ts.length := by simp at a; omega
      subst this
      simp only [List.getElem_append_right (Nat.le_refl _), Nat.sub_self, List.getElem_cons_zero]
      simp only [h1, List.getElem_append_right (Nat.le_refl _), Nat.sub_self, List.getElem_cons_zero]
      exact hu
theorem GrownSS.neB {g h : Hp} {t s : Sl} {xss : List (List Int)} (e : GrownSS g h t xss) {B p n : Nat} (hB : h B = some (.inl ⟨[s.v, I p], n, false⟩)) : ∀ a, t.a = some a → a.block ≠ B := by
  intro a ha
  obtain ⟨ts, hb, _, _⟩ := e.buf
  rcases hb.2.2 with ⟨h0, _⟩ | ⟨c, hc, hcb⟩
  · rw [h0] at ha; cases ha
  · rw [hc] at ha; cases ha
    refine ne_of_blk hcb hB ?_
    intro h
    simp only [Sum.inl.injEq, Row.mk.injEq] at h
    rcases ts with _ | ⟨t1, _ | ⟨t2, r⟩⟩
    · simp at h
    · simp at h
    · simp [Sl.v] at h

/-- A proof under way, the reader beside it. -/
structure PS (h : Hp) (B : Nat) (s : Sl) (c : Nat) (g h' : Hp) (t : Sl) (res : List (List Int)) : Prop where
  rd : ∃ q, q ≤ c ∧ h' B = some (.inl ⟨[s.v, I (q : Nat)], 2, false⟩)
  gr : GrownSS g h' t res
  new : ∀ c x, g c = some x → h c = none
  fr : (h.off B).le (h'.offS t)
section
variable {h g h' : Hp} {B c : Nat} {s t : Sl} {res : List (List Int)} {bs : List Nat}
theorem PS.frame (e : PS h B s c g h' t res) : (h.off B).le h' := Hp.le_trans e.fr (offS_le _ _)
theorem PS.more (e : PS h B s c g h' t res) {c' : Nat} (hc : c ≤ c') : PS h B s c' g h' t res := by
  obtain ⟨q, hq, hr⟩ := e.rd
  exact ⟨⟨q, by omega, hr⟩, e.gr, e.new, e.fr⟩
theorem PS.poke (e : PS h B s c g h' t res) (hB : ∃ x, h B = some x) (q c' : Nat) (hq : q ≤ c') : PS h B s c' g (h'.row B [s.v, I (q : Nat)] 2) t res := by
  obtain ⟨q', _, hr⟩ := e.rd
  have gB : g B = none := by
    cases hx : g B with
    | none => rfl
    | some x => obtain ⟨y, hy⟩ := hB; rw [e.new _ _ hx] at hy; cases hy
  have tB := e.gr.neB hr
  have key : ∀ c x, c ≠ B → (h'.offS t) c = some x → ((h'.row B [s.v, I (q : Nat)] 2).offS t) c = some x := by
    intro c x hcB hc
    obtain ⟨h1, h2⟩ := offS_some hc
    rw [offS_at h2, row_ne _ _ hcB]; exact h1
  refine ⟨⟨q, hq, row_self ..⟩, ⟨?_, fun c x hc => key c x (fun hh => by rw [hh, gB] at hc; cases hc) (e.gr.le _ _ hc)⟩, e.new, fun c x hc => key c x (fun hh => by rw [hh, off_at] at hc; cases hc) (e.fr _ _ hc)⟩
  obtain ⟨ts, h1, h2, h3⟩ := e.gr.buf
  refine ⟨ts, ⟨h1.1, h1.2.1, h1.2.2.imp id ?_⟩, h2, h3⟩
  rintro ⟨d, hd, hdb⟩
  exact ⟨d, hd, by rw [row_ne _ _ (tB _ hd)]; exact hdb⟩
theorem PS.pick {n : Int} {R : Value → Hp → Prop} (e : PS h B s c g h' t res) (hB : ∃ x, h B = some x) (hs : ByteS (h.off B) s bs) (hc : c ≤ 1000000000) (hn : n ≤ 1000000000)
    (k : ∀ (x : Nat) h'', (1 ≤ n → (x : Int) < n) → (n < 1 → x = 0) → PS h B s (c + 1) g h'' t res → R (I x) h'') : c_spec_l17Rd_pick #[.pointer (some ⟨B, 0, none⟩), I n] h' R := by
  obtain ⟨q, hq, hr⟩ := e.rd
  exact pick_spec ⟨hr, hs.mono (le_off (off_at _ _) e.frame)⟩ (by omega) hn fun x h1 h2 => k x _ h1 h2 (e.poke hB (q + 1) (c + 1) (by omega))
theorem PS.lit (e : PS h B s c g h' t res) (hB : ∃ x, h B = some x) {b n : Nat} {cs : List Value} (hb : h' b = none) : PS h B s c (g.row b cs n) (h'.row b cs n) t res := by
  obtain ⟨q, hq, hr⟩ := e.rd
  have nB := fresh_ne hb hr
  have hb0 : h b = none := by
    cases hx : h b with
    | none => rfl
    | some x =>
      have := e.frame b x (by rw [Hp.off, Hp.set_ne _ _ nB.symm]; exact hx)
      rw [hb] at this; cases this
  have tb : ∀ a, t.a = some a → a.block ≠ b := fun a ha => by
    obtain ⟨x, hx⟩ := e.gr.blk a ha
    exact fresh_ne hb hx
  have key : ∀ c x, c ≠ b → (h'.offS t) c = some x → ((h'.row b cs n).offS t) c = some x := by
    intro c x hcB hc
    obtain ⟨h1, h2⟩ := offS_some hc
    rw [offS_at h2, row_ne _ _ hcB]; exact h1
  have gb : g b = none := none_of_le e.gr.keep hb
  refine ⟨⟨q, hq, by rw [row_ne _ _ nB]; exact hr⟩, (e.gr.up (le_row cs n hb)).base (le_row _ _ gb) ?_, ?_, fun c x hc => key c x (fun hh => by rw [hh, Hp.off, Hp.set_ne _ _ nB.symm, hb0] at hc; cases hc) (e.fr _ _ hc)⟩
  · intro c x hc
    by_cases hcb : c = b
    · subst hcb
      rw [row_self] at hc
      rw [offS_at tb, row_self]; exact hc
    · rw [row_ne _ _ hcb] at hc
      exact key c x hcb (e.gr.le _ _ hc)
  · intro c x hc
    by_cases hcb : c = b
    · subst hcb; exact hb0
    · rw [row_ne _ _ hcb] at hc; exact e.new _ _ hc
theorem PS.app {u : Sl} {x : List Int} {b : Nat} {K : Option Addr → Nat → Nat → Hp → Prop} (e : PS h B s c g h' t res) (hl : res.length ≤ 1048576) (hu : IntS g u x) (hb : h' b = none)
    (k : ∀ (t' : Sl) (h'' : Hp), PS h B s c g h'' t' (res ++ [x]) → K t'.a t'.n t'.c h'') : aApp (h'.row b [u.v] 1) t.a t.n t.c (some ⟨b, 0, none⟩) 1 1 24 K := by
  obtain ⟨q, hq, hr⟩ := e.rd
  exact e.gr.appK hl hu hb fun t' h'' hk gr => k t' h'' ⟨⟨q, hq, (offS_some (hk _ _ (offS_of hr (e.gr.neB hr)))).1⟩, gr, e.new, Hp.le_trans e.fr hk⟩
/-- Another list, from the same pieces. -/
theorem PS.start (e : PS h B s c g h' t res) : PS h B s c (h'.sub h) h' ⟨none, 0, 0⟩ [] :=
  ⟨e.rd, ⟨⟨[], buf_nil _ _, rfl, fun i h1 => by simp at h1⟩, sub_le _ _⟩, fun c x hc => sub_some_none (by rw [hc]; simp), e.frame⟩
/-- One piece put in another's place. -/
theorem PS.put {u : Sl} {x : List Int} {i : Nat} (e : PS h B s c g h' t res) (hi : i < res.length) (hu : IntS g u x) : ∃ b cs z, t.a = some ⟨b, 0, none⟩ ∧ h' b = some (.inl ⟨cs, z, false⟩) ∧ cs.length = res.length ∧
    PS h B s c g (h'.row b (cs.set i u.v) z) t (res.set i x) := by
  obtain ⟨q, hq, hr⟩ := e.rd
  have hn := e.gr.len
  have tB := e.gr.neB hr
  obtain ⟨ts, hb, h1, h2⟩ := e.gr.buf
  rcases hb.2.2 with ⟨_, h0, _⟩ | ⟨b, hb1, hb2⟩
  · omega
  refine ⟨b, _, _, hb1, hb2, by simp [h1], ⟨q, hq, by rw [row_ne _ _ (tB _ hb1).symm]; exact hr⟩, ⟨⟨ts.set i u, ⟨by simp; have := hb.1; simp at this; omega, hb.2.1, .inr ⟨b, hb1, ?_⟩⟩, by simp [h1], ?_⟩, ?_⟩, e.new, ?_⟩
  · rw [row_self, List.map_set]
  · intro j a b
    rw [List.getElem_set, List.getElem_set]
    split
    · exact hu
    · exact h2 j (by simpa using a) (by simpa using b)
  · intro c x hc
    obtain ⟨g1, g2⟩ := offS_some (e.gr.le _ _ hc)
    rw [offS_at g2, row_ne _ _ (fun hh => g2 _ hb1 hh.symm)]; exact g1
  · intro c x hc
    obtain ⟨g1, g2⟩ := offS_some (e.fr _ _ hc)
    rw [offS_at g2, row_ne _ _ (fun hh => g2 _ hb1 hh.symm)]; exact g1
end

end Go.Lead
