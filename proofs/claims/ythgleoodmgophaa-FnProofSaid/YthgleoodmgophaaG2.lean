/- What the drawing of clauses computes. -/
import Derived.Test.YthgleoodmgophaaG1
namespace Go.Lead
open Go
set_option linter.unusedSimpArgs false
set_option linter.unusedVariables false

theorem Grown.appK {h h' : Hp} {t : Sl} {set : List Int} {x : Int} {b : Nat} {K : Option Addr → Nat → Nat → Hp → Prop} (e : Grown h h' t set) (hl : set.length ≤ 1048576) (hb : h' b = none)
    (k : ∀ (t' : Sl) (h'' : Hp), (h'.offS t).le (h''.offS t') → Grown h h'' t' (set ++ [x]) → K t'.a t'.n t'.c h'') : aApp (h'.row b [I x] 1) t.a t.n t.c (some ⟨b, 0, none⟩) 1 1 8 K := by
  have l := le_row [I x] 1 hb
  exact aApp_int (e.buf.mono l) hl (cell_row _ _ _ _ _) fun t' h'' hb' hl' => k t' h'' (Hp.le_trans (offS_mono t l) hl') ⟨hb', Hp.le_trans (Hp.le_trans e.le (offS_mono t l)) hl'⟩
theorem Grown.neB {g h : Hp} {o s : Sl} {xs : List Int} (e : Grown g h o xs) {B p n : Nat} (hB : h B = some (.inl ⟨[s.v, I p], n, false⟩)) : ∀ a, o.a = some a → a.block ≠ B := by
  intro a ha
  rcases e.buf.2.2 with ⟨h0, _⟩ | ⟨b, hb1, hb2⟩
  · rw [h0] at ha; cases ha
  · rw [hb1] at ha; cases ha
    refine ne_of_blk hb2 hB ?_
    intro h
    simp only [Sum.inl.injEq, Row.mk.injEq] at h
    rcases xs with _ | ⟨x, r⟩
    · simp at h
    · simp [Sl.v] at h
theorem GrownD.neB {g h : Hp} {bw : Nat} {v : Int} {t s : Sl} {xss : List (List Int)} (e : GrownD g h bw v t xss) {B p n : Nat} (hB : h B = some (.inl ⟨[s.v, I p], n, false⟩)) : ∀ a, t.a = some a → a.block ≠ B := by
  intro a ha
  obtain ⟨ts, z, hx⟩ := e.blk a ha
  refine ne_of_blk hx hB ?_
  intro h
  simp only [Sum.inl.injEq, Row.mk.injEq] at h
  rcases ts with _ | ⟨t1, _ | ⟨t2, r⟩⟩
  · simp at h
  · simp at h
  · simp [Sl.v] at h
theorem GrownD.ne3 {g h : Hp} {bw : Nat} {v : Int} {t : Sl} {xss : List (List Int)} (e : GrownD g h bw v t xss) {B n : Nat} {x : Int} {y : List Value} (hB : h B = some (.inl ⟨I x :: y, n, false⟩)) : ∀ a, t.a = some a → a.block ≠ B := by
  intro a ha
  obtain ⟨ts, z, hx⟩ := e.blk a ha
  refine ne_of_blk hx hB ?_
  intro h
  simp only [Sum.inl.injEq, Row.mk.injEq] at h
  rcases ts with _ | ⟨t1, r⟩
  · simp at h
  · simp [Sl.v] at h
theorem offS_of {h : Hp} {t : Sl} {c : Nat} {x : Blk} (e : h c = some x) (d : ∀ a, t.a = some a → a.block ≠ c) : (h.offS t) c = some x := by rw [offS_at d]; exact e

/-- Clauses under way. -/
structure CS (h0 : Hp) (B b3 b9 : Nat) (s : Sl) (c : Nat) (h : Hp) (v : Int) (t : Sl) (cls : List (List Int)) : Prop where
  rd : ∃ q, q ≤ c ∧ h B = some (.inl ⟨[s.v, I (q : Nat)], 2, false⟩)
  r3 : h b3 = some (.inl ⟨[I 0, .slice none 0 0], 2, false⟩)
  n39 : b3 ≠ b9
  fr : (h0.off B).le (h.offS t)
  fr9 : h0 b9 = none
  fr3 : h0 b3 = none
  gr : ∃ g : Hp, (∀ c x, g c = some x → h0 c = none ∧ c ≠ b3) ∧ GrownD g h b9 v t cls
section
variable {h0 h : Hp} {B b3 b9 c p0 : Nat} {s t : Sl} {v : Int} {cls : List (List Int)} {bs : List Nat}
theorem CS.row (e : CS h0 B b3 b9 s c h v t cls) : h b9 = some (.inl ⟨[I v, t.v], 2, false⟩) := by obtain ⟨g, _, hg⟩ := e.gr; exact hg.row
theorem CS.frame (e : CS h0 B b3 b9 s c h v t cls) : (h0.off B).le h := Hp.le_trans e.fr (offS_le _ _)
theorem CS.nB9 (e : CS h0 B b3 b9 s c h v t cls) : b9 ≠ B := by
  obtain ⟨q, _, hq⟩ := e.rd
  exact ne_of_blk e.row hq (by intro h; simp [Sl.v] at h)
theorem CS.nB3 (e : CS h0 B b3 b9 s c h v t cls) : b3 ≠ B := by
  obtain ⟨q, _, hq⟩ := e.rd
  exact ne_of_blk e.r3 hq (by intro h; simp [Sl.v] at h)
theorem CS.read (e : CS h0 B b3 b9 s c h v t cls) (hs : ByteS (h0.off B) s bs) : ∃ q, q ≤ c ∧ Rd h B s bs q := by
  obtain ⟨q, hq, hr⟩ := e.rd
  exact ⟨q, hq, hr, hs.mono (le_off (off_at _ _) e.frame)⟩
theorem CS.poke (e : CS h0 B b3 b9 s c h v t cls) (hB : ∃ x, h0 B = some x) (q c' : Nat) (hq : q ≤ c') : CS h0 B b3 b9 s c' (h.row B [s.v, I (q : Nat)] 2) v t cls := by
  obtain ⟨g, hg, gr⟩ := e.gr
  obtain ⟨q', _, hr⟩ := e.rd
  have gB : g B = none := by
    cases hx : g B with
    | none => rfl
    | some x => obtain ⟨y, hy⟩ := hB; rw [(hg _ _ hx).1] at hy; cases hy
  refine ⟨⟨q, hq, row_self ..⟩, by rw [row_ne _ _ e.nB3]; exact e.r3, e.n39, ?_, e.fr9, e.fr3, g, hg, gr.poke hr gB⟩
  intro c x hc
  obtain ⟨h1, h2⟩ := offS_some (e.fr _ _ hc)
  have hcB : c ≠ B := fun hh => by rw [hh, off_at] at hc; cases hc
  rw [offS_at h2, row_ne _ _ hcB]; exact h1
theorem CS.pick {n : Int} {R : Value → Hp → Prop} (e : CS h0 B b3 b9 s c h v t cls) (hB : ∃ x, h0 B = some x) (hs : ByteS (h0.off B) s bs) (hc : c ≤ 1000000000) (hn : n ≤ 1000000000)
    (k : ∀ (x : Nat) h', (1 ≤ n → (x : Int) < n) → (n < 1 → x = 0) → CS h0 B b3 b9 s (c + 1) h' v t cls → R (I x) h') : c_spec_l17Rd_pick #[.pointer (some ⟨B, 0, none⟩), I n] h R := by
  obtain ⟨q, hq, hr⟩ := e.read hs
  exact pick_spec hr (by omega) hn fun x h1 h2 => k x _ h1 h2 (e.poke hB (q + 1) (c + 1) (by omega))
theorem CS.more (e : CS h0 B b3 b9 s c h v t cls) {c' : Nat} (hc : c ≤ c') : CS h0 B b3 b9 s c' h v t cls := by
  obtain ⟨q, hq, hr⟩ := e.rd
  exact ⟨⟨q, by omega, hr⟩, e.r3, e.n39, e.fr, e.fr9, e.fr3, e.gr⟩
theorem CS.setv (e : CS h0 B b3 b9 s c h v t cls) (v' : Int) : CS h0 B b3 b9 s c (h.row b9 [I v', t.v] 2) v' t cls := by
  obtain ⟨g, hg, gr⟩ := e.gr
  obtain ⟨q, hq, hr⟩ := e.rd
  refine ⟨⟨q, hq, by rw [row_ne _ _ e.nB9.symm]; exact hr⟩, by rw [row_ne _ _ e.n39]; exact e.r3, e.n39, ?_, e.fr9, e.fr3, g, hg, gr.to (Hp.le_refl _) ?_ (row_self ..) (fun a ha => row_ne _ _ (gr.own a ha)) gr.new⟩
  · intro c x hc
    obtain ⟨h1, h2⟩ := offS_some (e.fr _ _ hc)
    have hcB : c ≠ b9 := fun hh => by rw [hh, Hp.off, Hp.set_ne _ _ e.nB9, e.fr9] at hc; cases hc
    rw [offS_at h2, row_ne _ _ hcB]; exact h1
  · intro c x hc
    obtain ⟨h1, h2⟩ := offS_some (gr.le _ _ hc)
    have hcB : c ≠ b9 := fun hh => by rw [hh, gr.new] at hc; cases hc
    rw [offS_at h2, row_ne _ _ hcB]; exact h1
theorem CS.app (e : CS h0 B b3 b9 s c h v t cls) (hB : ∃ x, h0 B = some x) {h2 : Hp} {o : Sl} {xs : List Int} {q2 c2 b : Nat} {K : Option Addr → Nat → Nat → Hp → Prop} (hl : cls.length ≤ 1048576) (hx : xs.length ≤ 1048576)
    (hgr : Grown (h.off B) h2 o xs) (hr2 : h2 B = some (.inl ⟨[s.v, I (q2 : Nat)], 2, false⟩)) (hq2 : q2 ≤ c2) (hb : h2 b = none)
    (k : ∀ (t' : Sl) (h3 : Hp), h3 b9 = some (.inl ⟨[I v, t.v], 2, false⟩) → CS h0 B b3 b9 s c2 (h3.row b9 [I v, t'.v] 2) v t' (cls ++ [xs]) → K t'.a t'.n t'.c h3) :
    aApp (h2.row b [o.v] 1) t.a t.n t.c (some ⟨b, 0, none⟩) 1 1 24 K := by
  obtain ⟨g, hg, gr⟩ := e.gr
  obtain ⟨q, hq, hr⟩ := e.rd
  have base : ∀ c x, h c = some x → c ≠ B → h2 c = some x ∧ ∀ a, o.a = some a → a.block ≠ c := by
    intro c x hc hcB
    exact offS_some (hgr.le c x (by rw [Hp.off, Hp.set_ne _ _ hcB]; exact hc))
  have r9 := base _ _ gr.row e.nB9
  have r3 := base _ _ e.r3 e.nB3
  have tB := gr.neB hr
  have oB := hgr.neB hr2
  have t3 := gr.ne3 e.r3
  have tblk : ∀ a, t.a = some a → h2 a.block = h a.block ∧ ∀ a', o.a = some a' → a'.block ≠ a.block := by
    intro a ha
    obtain ⟨ts, z, hx⟩ := gr.blk a ha
    obtain ⟨h1, h2⟩ := base _ _ hx (tB a ha)
    exact ⟨h1.trans hx.symm, h2⟩
  -- what is kept
  have hg' : ∀ c x, ((h2.sub h0).wo ([b9, b3] ++ t.blk)) c = some x → h2 c = some x ∧ h0 c = none ∧ c ≠ b3 ∧ c ≠ b9 ∧ ∀ a, t.a = some a → a.block ≠ c := by
    intro c x hc
    have hm : c ∉ [b9, b3] ++ t.blk := fun hm => by rw [wo_none hm] at hc; cases hc
    rw [wo_at hm] at hc
    have h1 : h0 c = none := sub_some_none (by rw [hc]; simp)
    rw [sub_at h1] at hc
    simp only [List.cons_append, List.nil_append, List.mem_cons, not_or] at hm
    exact ⟨hc, h1, hm.2.1, hm.1, fun a ha hac => hm.2.2 (by unfold Sl.blk; rw [ha]; simp [hac])⟩
  have hgi : ∀ c x, h2 c = some x → h0 c = none → c ≠ b3 → c ≠ b9 → (∀ a, t.a = some a → a.block ≠ c) → ((h2.sub h0).wo ([b9, b3] ++ t.blk)) c = some x := by
    intro c x h1 h2 h3 h4 h5
    rw [wo_at, sub_at h2]
    · exact h1
    · simp only [List.cons_append, List.nil_append, List.mem_cons, not_or]
      refine ⟨h4, h3, fun hm => ?_⟩
      unfold Sl.blk at hm
      split at hm
      · simp at hm
      · rename_i a ha; simp at hm; exact h5 a ha hm.symm
  have gr' : GrownD ((h2.sub h0).wo ([b9, b3] ++ t.blk)) h2 b9 v t cls := by
    refine gr.to ?_ ?_ r9.1 (fun a ha => (tblk a ha).1) (wo_none (by simp))
    · intro c x hc
      obtain ⟨g1, g2⟩ := offS_some (gr.le _ _ hc)
      have hn := hg _ _ hc
      have hcB : c ≠ B := fun hh => by obtain ⟨y, hy⟩ := hB; rw [hh, hy] at hn; cases hn.1
      exact hgi c x (base c x g1 hcB).1 hn.1 hn.2 (fun hh => by rw [hh, gr.new] at hc; cases hc) g2
    · intro c x hc
      obtain ⟨g1, g2, g3, g4, g5⟩ := hg' c x hc
      exact offS_of g1 g5
  have hu : IntS ((h2.sub h0).wo ([b9, b3] ++ t.blk)) o xs := by
    refine IBuf.ints ⟨hgr.buf.1, hgr.buf.2.1, hgr.buf.2.2.imp id ?_⟩ hx
    rintro ⟨d, hd, hdb⟩
    refine ⟨d, hd, hgi _ _ hdb ?_ ?_ ?_ ?_⟩
    · cases hx : h0 d with
      | none => rfl
      | some x =>
        have hdB : d ≠ B := oB _ hd
        have := e.frame d x (by rw [Hp.off, Hp.set_ne _ _ hdB]; exact hx)
        exact absurd rfl ((base d x this hdB).2 _ hd)
    · exact r3.2 _ hd
    · exact r9.2 _ hd
    · intro a ha hab
      exact (tblk a ha).2 _ hd hab.symm
  refine gr'.app hl hu hb fun t' h3 f9 hk hgd => k t' h3 f9 ?_
  have kp : ∀ c x, h2 c = some x → (∀ a, t.a = some a → a.block ≠ c) → h3 c = some x ∧ ∀ a, t'.a = some a → a.block ≠ c := by
    intro c x h1 h2
    exact offS_some (hk _ _ (offS_of h1 h2))
  have n9 : ∀ a, t.a = some a → a.block ≠ b9 := gr.own
  refine ⟨⟨q2, hq2, by rw [row_ne _ _ e.nB9.symm]; exact (kp _ _ hr2 tB).1⟩, by rw [row_ne _ _ e.n39]; exact (kp _ _ r3.1 t3).1, e.n39, ?_, e.fr9, e.fr3, _, fun c x hc => ⟨(hg' c x hc).2.1, (hg' c x hc).2.2.1⟩, hgd⟩
  intro c x hc
  have hcB : c ≠ B := fun hh => by rw [hh, off_at] at hc; cases hc
  have hc9 : c ≠ b9 := fun hh => by rw [hh, Hp.off, Hp.set_ne _ _ e.nB9, e.fr9] at hc; cases hc
  obtain ⟨g1, g2⟩ := offS_some (e.fr _ _ hc)
  obtain ⟨g3, g4⟩ := kp _ _ (base c x g1 hcB).1 g2
  rw [offS_at g4, row_ne _ _ hc9]; exact g3
theorem CS.lit (e : CS h0 B b3 b9 s c h v t cls) {b n : Nat} {cs : List Value} (hb : h b = none) : CS h0 B b3 b9 s c (h.row b cs n) v t cls := by
  obtain ⟨g, hg, gr⟩ := e.gr
  obtain ⟨q, hq, hr⟩ := e.rd
  have tb : ∀ {c x}, (h.offS t) c = some x → ((h.row b cs n).offS t) c = some x := by
    intro c x hc
    obtain ⟨h1, h2⟩ := offS_some hc
    rw [offS_at h2, row_ne _ _ (fresh_ne hb h1)]; exact h1
  exact ⟨⟨q, hq, by rw [row_ne _ _ (fresh_ne hb hr)]; exact hr⟩, by rw [row_ne _ _ (fresh_ne hb e.r3)]; exact e.r3, e.n39, fun c x hc => tb (e.fr _ _ hc), e.fr9, e.fr3, g, hg,
    gr.to (Hp.le_refl _) (fun c x hc => tb (gr.le _ _ hc)) (by rw [row_ne _ _ (fresh_ne hb gr.row)]; exact gr.row) (fun a ha => by
      obtain ⟨ts, z, hx⟩ := gr.blk a ha
      exact row_ne _ _ (fresh_ne hb hx)) gr.new⟩
/-- A written list of one. -/
theorem lit_grown {h : Hp} {B b : Nat} {x : Int} (hb : h b = none) : Grown (h.off B) (h.row b [I x] 1) ⟨some ⟨b, 0, none⟩, 1, 1⟩ [x] := by
  refine ⟨⟨by simp, by simp, .inr ⟨b, rfl, row_self ..⟩⟩, ?_⟩
  intro c x hc
  have h1 := off_le _ _ _ _ hc
  have hcb : c ≠ b := fun hh => by rw [hh, hb] at h1; cases h1
  simp only [Hp.offS]
  rw [Hp.off, Hp.set_ne _ _ hcb, row_ne _ _ hcb]; exact h1
end

/-- How large drawn clauses are. -/
def Drawn (v : Int) (cls : List (List Int)) : Prop := (-1 ≤ v ∧ v ≤ 11) ∧ cls.length ≤ 62 ∧ ∀ l ∈ cls, l.length ≤ 11 ∧ ∀ x ∈ l, -12 ≤ x ∧ x ≤ 12

theorem cnf_spec {h : Hp} {B p : Nat} {s : Sl} {bs : List Nat} {R : Value → Hp → Prop} (e : Rd h B s bs p) (hp : p ≤ 100000000)
    (k : ∀ v t cls h' q, Drawn v cls → q ≤ p + 3000 → (h.off B).le (h'.off B) → Rd h' B s bs q → IntSS (h'.sub h) t cls → R (.agg #[I v, Sl.v t]) h') : c_spec_l17Rd_cnf #[.pointer (some ⟨B, 0, none⟩)] h R := by
  apply R_spec_l17Rd_cnf
  unfold F_spec_l17Rd_cnf
  intro b3 hb3
  have hB : ∃ x, h B = some x := ⟨_, e.row⟩
  have n3B : B ≠ b3 := fresh_ne hb3 e.row
  have l3 := le_row [I 0, .slice none 0 0] 2 hb3
  simp only [vm, mm]
  refine pick_spec (e.to l3) (by omega) (by omega) fun x1 hx1 _ => ⟨_, rfl, ?_⟩
  intro b9 hb9
  rw [row_none, row_none] at hb9
  obtain ⟨n9B, n93, hb9⟩ := hb9
  have w1 : W (1 + (x1 : Int)) = ((1 + x1 : Nat) : Int) := by rw [W_id (by omega) (by omega)]; omega
  simp only [w1]
  have st : CS h B b3 b9 s (p + 1) (((h.row b3 [I 0, .slice none 0 0] 2).row B [s.v, I (p + 1 : Nat)] 2).row b9 [I (1 + x1 : Nat), .slice none 0 0] 2) (1 + x1 : Nat) ⟨none, 0, 0⟩ [] := by
    refine ⟨⟨p + 1, by omega, by rw [row_ne _ _ (Ne.symm n9B), row_self]⟩, by rw [row_ne _ _ (Ne.symm n93), row_ne _ _ n3B.symm, row_self], Ne.symm n93, ?_, hb9, hb3, fun _ => none, (fun c x hc => by cases hc), ⟨⟨[], buf_nil _ _, rfl, (fun i h1 => by simp at h1)⟩, (fun c x hc => by cases hc), row_self .., rfl, (fun a ha => by cases ha)⟩⟩
    intro c x hc
    have h1 := off_le _ _ _ _ hc
    have hcB : c ≠ B := fun hh => by rw [hh, off_at] at hc; cases hc
    have hc3 : c ≠ b3 := fun hh => by rw [hh, hb3] at h1; cases h1
    have hc9 : c ≠ b9 := fun hh => by rw [hh, hb9] at h1; cases h1
    show (((h.row b3 [I 0, .slice none 0 0] 2).row B [s.v, I (p + 1 : Nat)] 2).row b9 [I (1 + x1 : Nat), .slice none 0 0] 2) c = some x
    rw [row_ne _ _ hc9, row_ne _ _ hcB, row_ne _ _ hc3]; exact h1
  refine ⟨by omega, ?_⟩
  have hs := e.byt
  refine st.pick hB hs (by omega) (by omega) fun x2 h2 hx2 _ st => ⟨_, rfl, ?_⟩
  refine joinP_of (fun J => ∀ (v : Nat) h', 1 ≤ v → v ≤ 10 → CS h B b3 b9 s (p + 2) h' v ⟨none, 0, 0⟩ [] → J h') ?_ ?_
  rotate_left
  · intro J hJ
    refine bsplit_of (fun _ => ?_) (fun _ => hJ _ _ (by omega) (by omega) st)
    have f9 := st.row
    simp only [vm, mm, f9]
    exact ⟨by omega, hJ 10 _ (by omega) (by omega) (st.setv 10)⟩
  intro v h3 hv1 hv10 st
  refine st.pick hB hs (by omega) (by omega) fun x3 h4 hx3 _ st => ⟨_, rfl, ?_⟩
  refine st.pick hB hs (by omega) (by omega) fun x4 h5 hx4 _ st => ⟨_, rfl, ?_⟩
  refine joinP_of (fun J => ∀ (n : Nat) h', n ≤ 61 → CS h B b3 b9 s (p + 5) h' v ⟨none, 0, 0⟩ [] → J (n : Nat) h') ?_ ?_
  rotate_left
  · intro J hJ
    refine bsplit_of (fun _ => ?_) (fun _ => hJ _ _ (by omega) (st.more (by omega)))
    refine st.pick hB hs (by omega) (by omega) fun x5 h6 hx5 _ st => ⟨_, rfl, ?_⟩
    have w : W (12 + (x5 : Int)) = ((12 + x5 : Nat) : Int) := by rw [W_id (by omega) (by omega)]; omega
    rw [w]
    exact hJ _ _ (by omega) st
  intro n h6 hn61 st
  refine st.pick hB hs (by omega) (by omega) fun x6 h7 hx6 _ st => ⟨_, rfl, ?_⟩
  refine joinP_of (fun J => ∀ (n : Nat) h', n ≤ 61 → CS h B b3 b9 s (p + 7) h' v ⟨none, 0, 0⟩ [] → J (n : Nat) h') ?_ ?_
  rotate_left
  · intro J hJ
    refine bsplit_of (fun _ => ?_) (fun _ => hJ _ _ hn61 (st.more (by omega)))
    refine st.pick hB hs (by omega) (by omega) fun x7 h8 hx7 _ st => ⟨_, rfl, ?_⟩
    have w : W (59 + (x7 : Int)) = ((59 + x7 : Nat) : Int) := by rw [W_id (by omega) (by omega)]; omega
    rw [w]
    exact hJ _ _ (by omega) st
  clear hn61 n
  intro n h8 hn61 st
  refine loop_up n (fun i vs h' => ∃ t cls, vs = [.pointer (some ⟨B, 0, none⟩), .pointer (some ⟨b3, 0, none⟩), .pointer (some ⟨b9, 0, none⟩), I n, I i] ∧ CS h B b3 b9 s (p + 7 + 30 * i) h' v t cls ∧ cls.length = i ∧ ∀ l ∈ cls, l.length ≤ 11 ∧ ∀ x ∈ l, -12 ≤ x ∧ x ≤ 12)
    ⟨⟨none, 0, 0⟩, [], rfl, st, rfl, by simp⟩ ?_
  clear st
  rintro i _ h9 next hi ⟨t, cls, rfl, st, hcl, hcs⟩ hnx
  refine ⟨_, _, _, _, _, _, _, rfl, ?_⟩
  by_cases hlt : i < n
  · refine bs_t (by simp [hlt]) ?_
    refine st.pick hB hs (by omega) (by omega) fun x7 h10 hx7 _ st => ⟨_, rfl, ?_⟩
    refine st.pick hB hs (by omega) (by omega) fun x8 h11 hx8 _ st => ⟨_, rfl, ?_⟩
    refine joinP_of (fun J => ∀ (k : Nat) h', k ≤ 11 → CS h B b3 b9 s (p + 7 + 30 * i + 3) h' v t cls → J (k : Nat) h') ?_ ?_
    rotate_left
    · intro J hJ
      refine bsplit_of (fun _ => ?_) (fun _ => ?_)
      · refine st.pick hB hs (by omega) (by omega) fun x9 h12 hx9 _ st => ⟨_, rfl, ?_⟩
        have w : W ((x9 : Int) * 11) = ((x9 * 11 : Nat) : Int) := by rw [W_id (by omega) (by omega)]; omega
        rw [w]
        exact hJ _ _ (by omega) st
      · have w : W (1 + (x7 : Int)) = ((1 + x7 : Nat) : Int) := by rw [W_id (by omega) (by omega)]; omega
        rw [w]
        exact hJ _ _ (by omega) (st.more (by omega))
    intro m h12 hm11 st
    obtain ⟨q0, hq0, hr0⟩ := st.rd
    refine loop_up m (fun j vs h' => ∃ o xs, vs = [.pointer (some ⟨B, 0, none⟩), .pointer (some ⟨b3, 0, none⟩), .pointer (some ⟨b9, 0, none⟩), I n, I i, Sl.v o, I m, I j] ∧ Grown (h12.off B) h' o xs ∧ xs.length = j ∧ (∀ x ∈ xs, -12 ≤ x ∧ x ≤ 12) ∧
        ∃ q, q ≤ p + 7 + 30 * i + 3 + 2 * j ∧ h' B = some (.inl ⟨[s.v, I (q : Nat)], 2, false⟩))
      ⟨⟨none, 0, 0⟩, [], rfl, ⟨buf_nil _ _, off_le _ _⟩, rfl, by simp, q0, by omega, hr0⟩ ?_
    rintro j _ h13 next2 hj ⟨o, xs, rfl, hgo, hxl, hxs, q, hq, hr⟩ hn2
    refine ⟨_, _, _, _, _, _, _, _, _, _, rfl, ?_⟩
    have f9 : h13 b9 = _ := hgo.keep _ _ (by rw [Hp.off, Hp.set_ne _ _ st.nB9]; exact st.row)
    by_cases hjl : j < m
    · refine bs_t (by simp [hjl]) ?_
      simp only [vm, mm, cell_of f9]
      have hb0 : ByteS ((h12.off B)) s bs := hs.mono (le_off (off_at _ _) st.frame)
      have rd13 : Rd h13 B s bs q := ⟨hr, hb0.mono (le_off (off_at _ _) hgo.keep)⟩
      refine pick_spec rd13 (by omega) (by omega) fun x9 hx9 _ => ⟨_, rfl, ?_⟩
      refine pick_spec (rd13.next (q + 1)) (by omega) (by omega) fun x10 hx10 _ => ⟨_, rfl, ?_⟩
      have hgo' := ((hgo.poke hr (off_at _ _)).poke (row_self ..) (off_at _ _) : Grown (h12.off B) ((h13.row B [s.v, I (q + 1 : Nat)] 2).row B [s.v, I (q + 1 + 1 : Nat)] 2) o xs)
      rw [row_row] at hgo' ⊢
      have w1 : W (1 + (x9 : Int)) = ((1 + x9 : Nat) : Int) := by rw [W_id (by omega) (by omega)]; omega
      have w2 : W (0 - ((1 + x9 : Nat) : Int)) = -((1 + x9 : Nat) : Int) := by rw [W_id (by omega) (by omega)]; omega
      rw [w1, w2, W_succ (by omega)]
      refine joinP_of (fun J => ∀ x : Int, -12 ≤ x ∧ x ≤ 12 → J x) ?_ ?_
      · intro x hx b14 hb14
        refine hgo'.appK (by omega) hb14 fun o' h16 hk hg16 => hn2 hjl _ _ ⟨o', xs ++ [x], rfl, hg16, by simp [hxl], ?_, q + 2, by omega, ?_⟩
        · intro y hy
          rcases List.mem_append.1 hy with h | h
          · exact hxs y h
          · simp only [List.mem_singleton] at h; subst h; exact hx
        · exact (offS_some (hk _ _ (offS_of (row_self ..) (hgo'.neB (row_self ..))))).1
      · intro J hJ
        have := hx9 (by omega)
        exact bsplit_of (fun _ => hJ _ (by omega)) (fun _ => hJ _ (by omega))
    · have : j = m := by omega
      subst this
      refine bs_f (by simp) ?_
      simp only [vm, mm, cell_of f9, W_succ (n := i) (by omega)]
      intro b14 hb14
      refine st.app hB (by omega) (by omega) hgo hr (c2 := p + 7 + 30 * (i + 1)) (by omega) hb14 fun t' h16 f16 st' => ?_
      simp only [vm, mm, f16]
      refine ⟨by omega, hnx hlt _ _ ⟨t', _, rfl, st', by simp [hcl], ?_⟩⟩
      intro l hl
      rcases List.mem_append.1 hl with h | h
      · exact hcs l h
      · simp only [List.mem_singleton] at h; subst h; exact ⟨by omega, hxs⟩
  · have : i = n := by omega
    subst this
    refine bs_f (by simp) ?_
    refine st.pick hB hs (by omega) (by omega) fun x7 h10 hx7 _ st => ⟨_, rfl, ?_⟩
    refine joinP_of (fun J => ∀ (v : Int) t cls h', CS h B b3 b9 s (p + 7 + 30 * i + 3) h' v t cls → Drawn v cls → J h') ?_ ?_
    · intro v t cls h11 st hd
      have f9 := st.row
      simp only [vm, mm, cell_of f9, st.r3]
      refine ⟨by omega, ?_⟩
      obtain ⟨q, hq, hr⟩ := st.rd
      obtain ⟨g, hg, gr⟩ := st.gr
      have hfr : (h.off B).le ((h11.row b3 [I v, t.v] 2).off B) := by
        refine le_off (off_at _ _) (le_row_of _ _ ?_ st.frame)
        rw [Hp.off, Hp.set_ne _ _ st.nB3]; exact hb3
      refine k v t cls _ q hd (by omega) hfr ⟨by rw [row_ne _ _ st.nB3.symm]; exact hr, hs.mono hfr⟩ ?_
      have hn := gr.len
      obtain ⟨ts, hb, h1, h2⟩ := gr.buf
      have hb' : Buf ((h11.row b3 [I v, t.v] 2).sub h) t 1 (ts.map Sl.v) := by
        refine ⟨hb.1, hb.2.1, hb.2.2.imp id ?_⟩
        rintro ⟨d, hd1, hd2⟩
        have hd3 : d ≠ b3 := gr.ne3 st.r3 _ hd1
        refine ⟨d, hd1, ?_⟩
        rw [sub_at, row_ne _ _ hd3]
        · exact hd2
        · cases hx : h d with
          | none => rfl
          | some x =>
            have hdB : d ≠ B := gr.neB hr _ hd1
            exact absurd rfl ((offS_some (st.fr d x (by rw [Hp.off, Hp.set_ne _ _ hdB]; exact hx))).2 _ hd1)
      have hl62 := hd.2.1
      refine ⟨ts, h1, hb'.slc (by omega), fun i a b => (h2 i a b).mono ?_⟩
      intro c x hc
      have hc1 := hg c x hc
      rw [sub_at hc1.1, row_ne _ _ hc1.2]
      exact gr.keep _ _ hc
    · intro J hJ
      have hd : Drawn v cls := ⟨by omega, by omega, hcs⟩
      refine bsplit_of (fun _ => ?_) (fun _ => hJ _ _ _ _ (st.more (by omega)) hd)
      refine st.pick hB hs (by omega) (by omega) fun x8 h11 hx8 _ st => ⟨_, rfl, ?_⟩
      refine bsplit_of (fun _ => ?_) (fun _ => bsplit_of (fun _ => ?_) (fun _ => bsplit_of (fun _ => ?_) (fun _ => ?_)))
      · intro b14 hb14
        simp only [vm, mm]
        have st' := st.lit (n := 3) (cs := [I 0, I 11, I (-1)]) hb14
        obtain ⟨q, hq, hr⟩ := st'.read hs
        have n14B : b14 ≠ B := fun hh => by obtain ⟨q', _, hr'⟩ := st.rd; rw [← hh, hb14] at hr'; cases hr'
        refine pick_spec hr (by omega) (by omega) fun x9 hx9 _ => ⟨_, rfl, ?_⟩
        have hx9' := hx9 (by omega)
        have st2 := st'.poke hB (q + 1) (p + 7 + 30 * i + 3) (by omega)
        have f14 : ((h11.row b14 [I 0, I 11, I (-1)] 3).row B [s.v, I (q + 1 : Nat)] 2) b14 = some (.inl ⟨[I 0, I 11, I (-1)], 3, false⟩) := by rw [row_ne _ _ n14B, row_self]
        have f9 := st2.row
        refine ⟨by omega, by omega, ?_⟩
        have hcell : ∃ y : Int, (-1 ≤ y ∧ y ≤ 11) ∧ Hp.cell ((h11.row b14 [I 0, I 11, I (-1)] 3).row B [s.v, I (q + 1 : Nat)] 2) b14 (Int.toNat (x9 : Int)) = some (I y) := by
          rw [cell_of f14]
          have : x9 = 0 ∨ x9 = 1 ∨ x9 = 2 := by omega
          rcases this with rfl | rfl | rfl
          · exact ⟨0, by omega, rfl⟩
          · exact ⟨11, by omega, rfl⟩
          · exact ⟨-1, by omega, rfl⟩
        obtain ⟨y, hy, hcell⟩ := hcell
        refine ⟨y, hcell, ?_⟩
        simp only [vm, mm, f9]
        exact ⟨by omega, hJ _ _ _ _ (st2.setv y) ⟨by omega, hd.2⟩⟩
      · have f9 := st.row
        obtain ⟨q, hq, hr⟩ := st.rd
        simp only [vm, mm, cell_of f9]
        intro b14 hb14
        rintro b15 hb15
        refine st.app hB (by omega) (by simp) (xs := [0]) (lit_grown hb14) (c2 := p + 7 + 30 * i + 3) (q2 := q) (by rw [row_ne _ _ (fresh_ne hb14 hr)]; exact hr) (by omega) (by rw [row_none]; exact hb15) fun t' h16 f16 st' => ?_
        simp only [vm, mm, f16]
        refine ⟨by omega, hJ _ _ _ _ st' ⟨by omega, by simp; omega, ?_⟩⟩
        intro l hl
        rcases List.mem_append.1 hl with h | h
        · exact hcs l h
        · simp only [List.mem_singleton] at h; subst h; exact ⟨by simp, by simp⟩
      · have f9 := st.row
        obtain ⟨q, hq, hr⟩ := st.rd
        simp only [vm, mm, cell_of f9]
        intro b14 hb14
        rintro b15 hb15
        have w : W ((v : Int) + 1) = (v : Int) + 1 := W_id (by omega) (by omega)
        rw [w]
        refine st.app hB (by omega) (by simp) (xs := [(v : Int) + 1]) (lit_grown hb14) (c2 := p + 7 + 30 * i + 3) (q2 := q) (by rw [row_ne _ _ (fresh_ne hb14 hr)]; exact hr) (by omega) (by rw [row_none]; exact hb15) fun t' h16 f16 st' => ?_
        simp only [vm, mm, f16]
        refine ⟨by omega, hJ _ _ _ _ st' ⟨by omega, by simp; omega, ?_⟩⟩
        intro l hl
        rcases List.mem_append.1 hl with h | h
        · exact hcs l h
        · simp only [List.mem_singleton] at h; subst h; exact ⟨by simp, by simp; omega⟩
      · exact hJ _ _ _ _ (st.more (by omega)) hd

end Go.Lead
