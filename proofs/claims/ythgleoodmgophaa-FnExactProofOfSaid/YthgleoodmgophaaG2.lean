/- What the drawing of clauses computes. -/
import Derived.Test.YthgleoodmgophaaG1
namespace Go.Lead
open Go
set_option linter.unusedSimpArgs false
set_option linter.unusedVariables false

theorem Grown.appK {h h' : Hp} {t : Sl} {set : List Int} {x : Int} {b : Nat} {K : Option Addr → Nat → Nat → Hp → Prop} (e : Grown h h' t set) (hl : set.length ≤ 1048576) (hb : h' b = none)
    (k : ∀ (t' : Sl) (h'' : Hp), (h'.offS t).le (h''.offS t') → Grown h h'' t' (set ++ [x]) → K t'.a t'.n t'.c h'') : aApp (h'.row b [I x] 1) t.a t.n t.c (some ⟨b, 0, none⟩) 1 1 8 K := by
  have l := le_row [I x] 1 hb
  exact aApp_int (e.buf.mono l) hl (cell_row _ _ _ _ _) fun t' h'' hb' hl' => k t' h'' (Hp.le_trans (offS_mono t l) hl') ⟨hb', Hp.le_trans (Hp.le_trans e.le (offS_mono t l)) hl'⟩
theorem Grown.neB {g h : Hp} {o s : Sl} {xs : List Int} (e : Grown g h o xs) {B p n : Nat} (hB : h B = some (.inl ⟨[s.v, I p], n, false⟩)) : ∀ a, o.a = some a → a.block ≠ B := by
  intro a ha
  rcases e.buf.2.2 with ⟨h0, _⟩ | ⟨b, hb1, hb2⟩
  · rw [h0] at ha; cases ha
  · rw [hb1] at ha; cases ha
    refine ne_of_blk hb2 hB ?_
    intro h
    simp only [Sum.inl.injEq, Row.mk.injEq] at h
    rcases xs with _ | ⟨x, r⟩
    · simp at h
    · simp [Sl.v] at h
theorem GrownD.neB {g h : Hp} {bw : Nat} {v : Int} {t s : Sl} {xss : List (List Int)} (e : GrownD g h bw v t xss) {B p n : Nat} (hB : h B = some (.inl ⟨[s.v, I p], n, false⟩)) : ∀ a, t.a = some a → a.block ≠ B := by
  intro a ha
  obtain ⟨ts, z, hx⟩ := e.blk a ha
  refine ne_of_blk hx hB ?_
  intro h
  simp only [Sum.inl.injEq, Row.mk.injEq] at h
  rcases ts with _ | ⟨t1, _ | ⟨t2, r⟩⟩
  · simp at h
  · simp at h
  · simp [Sl.v] at h
theorem GrownD.ne3 {g h : Hp} {bw : Nat} {v : Int} {t : Sl} {xss : List (List Int)} (e : GrownD g h bw v t xss) {B n : Nat} {x : Int} {y : List Value} (hB : h B = some (.inl ⟨I x :: y, n, false⟩)) : ∀ a, t.a = some a → a.block ≠ B := by
  intro a ha
  obtain ⟨ts, z, hx⟩ := e.blk a ha
  refine ne_of_blk hx hB ?_
  intro h
  simp only [Sum.inl.injEq, Row.mk.injEq] at h
  rcases ts with _ | ⟨t1, r⟩
  · simp at h
  · simp [Sl.v] at h
theorem offS_of {h : Hp} {t : Sl} {c : Nat} {x : Blk} (e : h c = some x) (d : ∀ a, t.a = some a → a.block ≠ c) : (h.offS t) c = some x := by rw [offS_at d]; exact e

/-- Clauses under way. -/
structure CS (h0 : Hp) (B b3 b9 : Nat) (s : Sl) (c : Nat) (h : Hp) (v : Int) (t : Sl) (cls : List (List Int)) : Prop where
  rd : ∃ q, q ≤ c ∧ h B = some (.inl ⟨[s.v, I (q : Nat)], 2, false⟩)
  r3 : h b3 = some (.inl ⟨[I 0, .slice none 0 0], 2, false⟩)
  n39 : b3 ≠ b9
  fr : (h0.off B).le (h.offS t)
  fr9 : h0 b9 = none
  fr3 : h0 b3 = none
  gr : ∃ g : Hp, (∀ c x, g c = some x → h0 c = none ∧ c ≠ b3) ∧ GrownD g h b9 v t cls
section
variable {h0 h : Hp} {B b3 b9 c p0 : Nat} {s t : Sl} {v : Int} {cls : List (List Int)} {bs : List Nat}
theorem CS.row (e : CS h0 B b3 b9 s c h v t cls) : h b9 = some (.inl ⟨[I v, t.v], 2, false⟩) := by obtain ⟨g, _, hg⟩ := e.gr; exact hg.row
theorem CS.frame (e : CS h0 B b3 b9 s c h v t cls) : (h0.off B).le h := Hp.le_trans e.fr (offS_le _ _)
theorem CS.nB9 (e : CS h0 B b3 b9 s c h v t cls) : b9 ≠ B := by
  obtain ⟨q, _, hq⟩ := e.rd
  exact ne_of_blk e.row hq (by intro h; simp [Sl.v] at h)
theorem CS.nB3 (e : CS h0 B b3 b9 s c h v t cls) : b3 ≠ B := by
  obtain ⟨q, _, hq⟩ := e.rd
  exact ne_of_blk e.r3 hq (by intro h; simp [Sl.v] at h)
theorem CS.app (e : CS h0 B b3 b9 s c h v t cls) (hB : ∃ x, h0 B = some x) {h2 : Hp} {o : Sl} {xs : List Int} {q2 c2 b : Nat} {K : Option Addr → Nat → Nat → Hp → Prop} (hl : cls.length ≤ 1048576) (hx : xs.length ≤ 1048576)
    (hgr : Grown (h.off B) h2 o xs) (hr2 : h2 B = some (.inl ⟨[s.v, I (q2 : Nat)], 2, false⟩)) (hq2 : q2 ≤ c2) (hb : h2 b = none)
    (k : ∀ (t' : Sl) (h3 : Hp), h3 b9 = some (.inl ⟨[I v, t.v], 2, false⟩) → CS h0 B b3 b9 s c2 (h3.row b9 [I v, t'.v] 2) v t' (cls ++ [xs]) → K t'.a t'.n t'.c h3) :
    aApp (h2.row b [o.v] 1) t.a t.n t.c (some ⟨b, 0, none⟩) 1 1 24 K := by
  obtain ⟨g, hg, gr⟩ := e.gr
  obtain ⟨q, hq, hr⟩ := e.rd
  have base : ∀ c x, h c = some x → c ≠ B → h2 c = some x ∧ ∀ a, o.a = some a → a.block ≠ c := by
    intro c x hc hcB
    exact offS_some (hgr.le c x (by rw [Hp.off, Hp.set_ne _ _ hcB]; exact hc))
  have r9 := base _ _ gr.row e.nB9
  have r3 := base _ _ e.r3 e.nB3
  have tB := gr.neB hr
  have oB := hgr.neB hr2
  have t3 := gr.ne3 e.r3
  have tblk : ∀ a, t.a = some a → h2 a.block = h a.block ∧ ∀ a', o.a = some a' → a'.block ≠ a.block := by
    intro a ha
    obtain ⟨ts, z, hx⟩ := gr.blk a ha
    obtain ⟨h1, h2⟩ := base _ _ hx (tB a ha)
    exact ⟨h1.trans hx.symm, h2⟩
  -- what is kept
  have hg' : ∀ c x, ((h2.sub h0).wo ([b9, b3] ++ t.blk)) c = some x → h2 c = some x ∧ h0 c = none ∧ c ≠ b3 ∧ c ≠ b9 ∧ ∀ a, t.a = some a → a.block ≠ c := by
    intro c x hc
    have hm : c ∉ [b9, b3] ++ t.blk := fun hm => by rw [wo_none hm] at hc; cases hc
    rw [wo_at hm] at hc
    have h1 : h0 c = none := sub_some_none (by rw [hc]; simp)
    rw [sub_at h1] at hc
    simp only [List.cons_append, List.nil_append, List.mem_cons, not_or] at hm
    exact ⟨hc, h1, hm.2.1, hm.1, fun a ha hac => hm.2.2 (by unfold Sl.blk; rw [ha]; simp [hac])⟩
  have hgi : ∀ c x, h2 c = some x → h0 c = none → c ≠ b3 → c ≠ b9 → (∀ a, t.a = some a → a.block ≠ c) → ((h2.sub h0).wo ([b9, b3] ++ t.blk)) c = some x := by
    intro c x h1 h2 h3 h4 h5
    rw [wo_at, sub_at h2]
    · exact h1
    · simp only [List.cons_append, List.nil_append, List.mem_cons, not_or]
      refine ⟨h4, h3, fun hm => ?_⟩
      unfold Sl.blk at hm
      split at hm
      · simp at hm
      · rename_i a ha; simp at hm; exact h5 a ha hm.symm
  have gr' : GrownD ((h2.sub h0).wo ([b9, b3] ++ t.blk)) h2 b9 v t cls := by
    refine gr.to ?_ ?_ r9.1 (fun a ha => (tblk a ha).1) (wo_none (by simp))
    · intro c x hc
      obtain ⟨g1, g2⟩ := offS_some (gr.le _ _ hc)
      have hn := hg _ _ hc
      have hcB : c ≠ B := fun hh => by obtain ⟨y, hy⟩ := hB; rw [hh, hy] at hn; cases hn.1
      exact hgi c x (base c x g1 hcB).1 hn.1 hn.2 (fun hh => by rw [hh, gr.new] at hc; cases hc) g2
    · intro c x hc
      obtain ⟨g1, g2, g3, g4, g5⟩ := hg' c x hc
      exact offS_of g1 g5
  have hu : IntS ((h2.sub h0).wo ([b9, b3] ++ t.blk)) o xs := by
    refine IBuf.ints ⟨hgr.buf.1, hgr.buf.2.1, hgr.buf.2.2.imp id ?_⟩ hx
    rintro ⟨d, hd, hdb⟩
    refine ⟨d, hd, hgi _ _ hdb ?_ ?_ ?_ ?_⟩
    · cases hx : h0 d with
      | none => rfl
      | some x =>
        have hdB : d ≠ B := oB _ hd
        have := e.frame d x (by rw [Hp.off, Hp.set_ne _ _ hdB]; exact hx)
        exact absurd rfl ((base d x this hdB).2 _ hd)
    · exact r3.2 _ hd
    · exact r9.2 _ hd
    · intro a ha hab
      exact (tblk a ha).2 _ hd hab.symm
  refine gr'.app hl hu hb fun t' h3 f9 hk hgd => k t' h3 f9 ?_
  have kp : ∀ c x, h2 c = some x → (∀ a, t.a = some a → a.block ≠ c) → h3 c = some x ∧ ∀ a, t'.a = some a → a.block ≠ c := by
    intro c x h1 h2
    exact offS_some (hk _ _ (offS_of h1 h2))
  have n9 : ∀ a, t.a = some a → a.block ≠ b9 := gr.own
  refine ⟨⟨q2, hq2, by rw [row_ne _ _ e.nB9.symm]; exact (kp _ _ hr2 tB).1⟩, by rw [row_ne _ _ e.n39]; exact (kp _ _ r3.1 t3).1, e.n39, ?_, e.fr9, e.fr3, _, fun c x hc => ⟨(hg' c x hc).2.1, (hg' c x hc).2.2.1⟩, hgd⟩
  intro c x hc
  have hcB : c ≠ B := fun hh => by rw [hh, off_at] at hc; cases hc
  have hc9 : c ≠ b9 := fun hh => by rw [hh, Hp.off, Hp.set_ne _ _ e.nB9, e.fr9] at hc; cases hc
  obtain ⟨g1, g2⟩ := offS_some (e.fr _ _ hc)
  obtain ⟨g3, g4⟩ := kp _ _ (base c x g1 hcB).1 g2
  rw [offS_at g4, row_ne _ _ hc9]; exact g3
theorem CS.lit (e : CS h0 B b3 b9 s c h v t cls) {b n : Nat} {cs : List Value} (hb : h b = none) : CS h0 B b3 b9 s c (h.row b cs n) v t cls := by
  obtain ⟨g, hg, gr⟩ := e.gr
  obtain ⟨q, hq, hr⟩ := e.rd
  have tb : ∀ {c x}, (h.offS t) c = some x → ((h.row b cs n).offS t) c = some x := by
    intro c x hc
    obtain ⟨h1, h2⟩ := offS_some hc
    rw [offS_at h2, row_ne _ _ (fresh_ne hb h1)]; exact h1
  exact ⟨⟨q, hq, by rw [row_ne _ _ (fresh_ne hb hr)]; exact hr⟩, by rw [row_ne _ _ (fresh_ne hb e.r3)]; exact e.r3, e.n39, fun c x hc => tb (e.fr _ _ hc), e.fr9, e.fr3, g, hg,
    gr.to (Hp.le_refl _) (fun c x hc => tb (gr.le _ _ hc)) (by rw [row_ne _ _ (fresh_ne hb gr.row)]; exact gr.row) (fun a ha => by
      obtain ⟨ts, z, hx⟩ := gr.blk a ha
      exact row_ne _ _ (fresh_ne hb hx)) gr.new⟩
end

end Go.Lead
