/- What both sides' trying of all computes. -/
import Derived.Test.YthgleoodmgophaaQ1
namespace Go.Lead
open Go
set_option linter.unusedSimpArgs false
set_option linter.unusedVariables false

theorem GrownSS.len {g h : Hp} {o : Sl} {out : List (List Int)} (e : GrownSS g h o out) : o.n = out.length := by
  obtain ⟨ts, hb, h1, _⟩ := e.buf
  have := hb.1; simp at this; omega
theorem GrownSS.base {g g2 h : Hp} {o : Sl} {out : List (List Int)} (e : GrownSS g h o out) (l : g.le g2) (l2 : g2.le (h.offS o)) : GrownSS g2 h o out := by
  obtain ⟨ts, h1, h2, h3⟩ := e.buf
  exact ⟨⟨ts, h1, h2, fun i a b => (h3 i a b).mono l⟩, l2⟩
theorem GrownSS.blk {g h : Hp} {o : Sl} {out : List (List Int)} (e : GrownSS g h o out) : ∀ a, o.a = some a → ∃ x, h a.block = some x := by
  intro a ha
  obtain ⟨ts, hb, _, _⟩ := e.buf
  rcases hb.2.2 with ⟨h0, _⟩ | ⟨b, hb1, hb2⟩
  · rw [h0] at ha; cases ha
  · rw [hb1] at ha; cases ha; exact ⟨_, hb2⟩
/-- A list that grew after another is apart from it. -/
theorem Grown.apart {h2 h3 : Hp} {u o : Sl} {xs : List Int} (hg : Grown h2 h3 u xs) (ho : ∀ a, o.a = some a → ∃ x, h2 a.block = some x) : ∀ a a', u.a = some a → o.a = some a' → a.block ≠ a'.block := by
  intro a a' ha ha'
  obtain ⟨x, hx⟩ := ho a' ha'
  exact (offS_some (hg.le _ _ hx)).2 a ha
theorem Grown.offS {h2 h3 : Hp} {u o : Sl} {xs : List Int} (hg : Grown h2 h3 u xs) (ho : ∀ a, o.a = some a → ∃ x, h2 a.block = some x) : IBuf (h3.offS o) u xs := by
  refine ⟨hg.buf.1, hg.buf.2.1, hg.buf.2.2.imp id ?_⟩
  rintro ⟨b, hb1, hb2⟩
  exact ⟨b, hb1, offS_of hb2 fun a ha => (hg.apart ho _ a hb1 ha).symm⟩
/-- A heap and one list's row besides. -/
def Hp.plus (g h : Hp) (u : Sl) : Hp := fun c => if c ∈ u.blk then h c else g c
theorem plus_le {g h : Hp} {u : Sl} (l : g.le h) : g.le (g.plus h u) := by
  intro c x hc
  unfold Hp.plus
  split
  · exact l _ _ hc
  · exact hc
theorem plus_of {g h k : Hp} {u : Sl} (l : g.le k) (lu : ∀ c x, c ∈ u.blk → h c = some x → k c = some x) : (g.plus h u).le k := by
  intro c x hc
  unfold Hp.plus at hc
  split at hc
  · exact lu c x (by assumption) hc
  · exact l _ _ hc
theorem plus_ibuf {g h : Hp} {u : Sl} {xs : List Int} (e : IBuf h u xs) : IBuf (g.plus h u) u xs := by
  refine ⟨e.1, e.2.1, e.2.2.imp id ?_⟩
  rintro ⟨b, hb1, hb2⟩
  refine ⟨b, hb1, ?_⟩
  unfold Hp.plus
  rw [if_pos (by simp [Sl.blk, hb1])]; exact hb2

/-- One more of what is told. -/
theorem tell {g h2 h3 : Hp} {o u : Sl} {out : List (List Int)} {xs : List Int} {b : Nat} {K : Option Addr → Nat → Nat → Hp → Prop} (e : GrownSS g h3 o out) (hl : out.length ≤ 1048576) (hx : xs.length ≤ 1048576)
    (hu : IBuf h3 u xs) (hap : ∀ a a', u.a = some a → o.a = some a' → a.block ≠ a'.block) (hnew : ∀ a, u.a = some a → h2 a.block = none) (hb : h3 b = none)
    (k : ∀ o' h4 g', GrownSS g' h4 o' (out ++ [xs]) → g.le g' → (∀ c x, g' c = some x → g c = some x ∨ h2 c = none) → (h3.offS o).le (h4.offS o') → K o'.a o'.n o'.c h4) :
    aApp (h3.row b [u.v] 1) o.a o.n o.c (some ⟨b, 0, none⟩) 1 1 24 K := by
  have l := le_row [u.v] 1 hb
  have hln := e.len
  have hg3 : g.le h3 := e.keep
  have l2 : (g.plus h3 u).le (h3.offS o) := plus_of e.le fun c x hc hcx => offS_of hcx fun a ha => by
    unfold Sl.blk at hc
    split at hc
    · simp at hc
    · rename_i a' ha'
      simp only [List.mem_singleton] at hc
      rw [hc]; exact (hap a' a ha' ha).symm
  have e2 := e.base (plus_le hg3) l2
  have hu2 : IntS (g.plus h3 u) u xs := (plus_ibuf hu).ints hx
  obtain ⟨ts, hbuf, h1, h2'⟩ := e2.buf
  refine aApp_buf (hbuf.mono l) (by omega) (by omega) (by omega) ⟨b, 0, rfl, fun i v hi => ?_⟩ (news := [u.v]) rfl rfl ?_
  · cases i with
    | zero => simp at hi; subst hi; exact cell_row _ _ _ _ _
    | succ i => simp at hi
  · intro t' h'' hn' hb' hle _
    have hle' : (h3.offS o).le (h''.offS t') := Hp.le_trans (offS_mono o l) hle
    refine k t' h'' (g.plus h3 u) ⟨⟨ts ++ [u], by rw [List.map_append]; exact hb', by simp [h1], ?_⟩, Hp.le_trans l2 hle'⟩ (plus_le hg3) ?_ hle'
    · intro i a c
      by_cases hi : i < ts.length
      · rw [List.getElem_append_left hi, List.getElem_append_left (by omega)]; exact h2' i hi (by omega)
      · have : i = ts.length := by simp at a; omega
        subst this
        simp only [List.getElem_append_right (Nat.le_refl _), Nat.sub_self, List.getElem_cons_zero]
        simp only [h1, List.getElem_append_right (Nat.le_refl _), Nat.sub_self, List.getElem_cons_zero]
        exact hu2
    · intro c x hc
      unfold Hp.plus at hc
      split at hc
      · rename_i hm
        right
        unfold Sl.blk at hm
        split at hm
        · simp at hm
        · rename_i a' ha'
          simp only [List.mem_singleton] at hm
          rw [hm]; exact hnew a' ha'
      · exact .inl hc

/-- What is asked of a step of the trying. -/
def Tells (g h : Hp) (o : Sl) (res : List (List Int)) (R : Value → Hp → Prop) : Prop :=
  ∀ o' h' g', GrownSS g' h' o' res → g.le g' → (∀ c x, g' c = some x → g c = some x ∨ (h.offS o) c = none) → (h.offS o).le (h'.offS o') → R (Sl.v o') h'

theorem Buf.fresh {h h' : Hp} {t : Sl} {sz : Nat} {cs : List Value} (e : Buf (h'.sub h) t sz cs) : ∀ a, t.a = some a → h a.block = none := by
  intro a ha
  rcases e.2.2 with ⟨h0, _⟩ | ⟨b, hb1, hb2⟩
  · rw [h0] at ha; cases ha
  · rw [hb1] at ha; cases ha; exact sub_some_none (by rw [hb2]; simp)
theorem Buf.grown {h h' : Hp} {t : Sl} {xs : List Int} (l : h.le h') (e : Buf (h'.sub h) t 1 (xs.map I)) : Grown h h' t xs := by
  refine ⟨Buf.mono (sub_le _ _) e, fun c x hc => offS_of (l _ _ hc) fun a ha hac => ?_⟩
  have := e.fresh a ha
  rw [hac, hc] at this; cases this
theorem Grown.fresh {h h' : Hp} {t : Sl} {xs : List Int} (e : Grown h h' t xs) : ∀ a, t.a = some a → h a.block = none := by
  intro a ha
  cases hx : h a.block with
  | none => rfl
  | some x => exact absurd rfl ((offS_some (e.le _ _ hx)).2 a ha)

theorem prove_spec {v : Nat} (hv : v ≤ 10) {cls : List (List Int)} (hc : WfC v cls) (hx60 : cls.length ≤ 60) (hno : ∀ code, code < 2 ^ v → AllB cls code = false) :
    ∀ (n : Nat) (B : List Int) (out : List (List Int)) (h g : Hp) (s bS o : Sl) (R : Value → Hp → Prop), Begins B → B.length + n = v → IntSS (h.offS o) s cls → IntS (h.offS o) bS B → GrownSS g h o out → out.length ≤ 400 →
      Tells g h o (treeP cls n B out) R → c_impl_prove #[.agg #[I v, s.v], bS.v, o.v] h R := by
  intro n
  induction n with
  | zero =>
    intro B out h g s bS o R hB hl hs hb e ho k
    apply R_impl_prove
    unfold F_impl_prove
    intro b6 hb6
    have hBw := hB.wf (v := v) (by omega)
    have l7 := le_row [I (v : Nat), s.v] 2 hb6
    have f7 := row_self h b6 [I (v : Nat), s.v] 2
    have hon := e.len
    simp only [vm, mm]
    generalize hh7 : h.row b6 [I (v : Nat), s.v] 2 = h7 at *
    have e7 := e.up l7
    have s7 := hs.mono (Hp.le_trans (offS_le _ _) l7)
    have b7 := hb.mono (Hp.le_trans (offS_le _ _) l7)
    refine bsplit_of (fun hlong => ?_) (fun hshort => ?_)
    · have h3 : out.length > 300 := by simp [hon] at hlong; omega
      rw [treeP_long h3] at k
      exact k o h7 g e7 (Hp.le_refl _) (fun c x hx => .inl hx) (offS_mono o l7)
    have h3 : ¬ out.length > 300 := by simp [hon] at hshort; omega
    refine impl_units_spec (v := v) s7 b7 (by omega) (by omega) (fun l hl x hx => hc l hl x hx) (fun x hx => hBw x hx) (fun _ h8 l8 => ?_) (fun set hset => ?_)
    rotate_left
    · rw [full_clash hv hc hno hB (by omega)] at hset; cases hset
    refine ⟨none, _, rfl, ?_⟩
    have hT : treeP cls 0 B out = out ++ [B.map (- ·)] := by simp only [treeP, if_neg h3]
    rw [hT] at k
    refine joinP_of (fun J => J o h8) ?_ (fun J hJ => bs_f rfl hJ)
    have b8 := b7.mono l8
    refine opposites_spec b8 (fun x hx => by have := hBw x hx; omega) (by omega) fun u h9 hg9 => ⟨_, rfl, ?_⟩
    have e9 := (e7.up l8).up hg9.keep
    have ho8 : ∀ a, o.a = some a → ∃ x, h8 a.block = some x := (e7.up l8).blk
    intro b10 hb10
    refine tell e9 (by omega) (by simp; omega) hg9.buf (hg9.apart ho8) (h2 := h.offS o) (fun a ha => none_of_le (Hp.le_trans (offS_le _ _) (Hp.le_trans l7 l8)) (hg9.fresh a ha)) hb10 fun o' h11 g' e11 lg hgc lf => k o' h11 g' e11 lg hgc ?_
    exact Hp.le_trans (offS_mono o (Hp.le_trans l7 (Hp.le_trans l8 hg9.keep))) lf
  | succ n ih =>
    intro B out h g s bS o R hB hl hs hb e ho k
    apply R_impl_prove
    unfold F_impl_prove
    intro b6 hb6
    have hBw := hB.wf (v := v) (by omega)
    have l7 := le_row [I (v : Nat), s.v] 2 hb6
    have f7 := row_self h b6 [I (v : Nat), s.v] 2
    have hon := e.len
    have hbn := hb.len
    simp only [vm, mm]
    generalize hh7 : h.row b6 [I (v : Nat), s.v] 2 = h7 at *
    have e7 := e.up l7
    have s7 := hs.mono (Hp.le_trans (offS_le _ _) l7)
    have b7 := hb.mono (Hp.le_trans (offS_le _ _) l7)
    have w1 : W ((B.length : Int) + 1) = (B.length : Int) + 1 := W_id (by omega) (by omega)
    have w2 : W (0 - ((B.length : Int) + 1)) = -((B.length : Int) + 1) := by rw [W_id (by omega) (by omega)]; omega
    refine bsplit_of (fun hlong => ?_) (fun hshort => ?_)
    · have h3 : out.length > 300 := by simp [hon] at hlong; omega
      rw [treeP_long h3] at k
      exact k o h7 g e7 (Hp.le_refl _) (fun c x hx => .inl hx) (offS_mono o l7)
    have h3 : ¬ out.length > 300 := by simp [hon] at hshort; omega
    have hT : treeP cls (n + 1) B out = (if unitsP cls B = none then out else treeP cls n (B ++ [(B.length : Int) + 1]) (treeP cls n (B ++ [-((B.length : Int) + 1)]) out)) ++ [B.map (- ·)] := by simp only [treeP, if_neg h3]
    rw [hT] at k
    have tl1 := treeP_len cls n (B ++ [-((B.length : Int) + 1)]) out
    have tl2 := treeP_len cls n (B ++ [(B.length : Int) + 1]) (treeP cls n (B ++ [-((B.length : Int) + 1)]) out)
    have l07 : (h.offS o).le (h7.offS o) := offS_mono o l7
    -- the last step
    have last : ∀ (o2 : Sl) (h8 g8 : Hp) (X : List (List Int)), X = (if unitsP cls B = none then out else treeP cls n (B ++ [(B.length : Int) + 1]) (treeP cls n (B ++ [-((B.length : Int) + 1)]) out)) → GrownSS g8 h8 o2 X → g.le g8 →
        (∀ c x, g8 c = some x → g c = some x ∨ (h.offS o) c = none) → (h.offS o).le (h8.offS o2) →
        c_impl_opposites #[bS.v] h8 fun v80 h81 => ∃ s82 : Sl, v80 = s82.v ∧ ∀ b83 : Nat, h81 b83 = none → aApp (h81.row b83 [s82.v] 1) o2.a o2.n o2.c (some ⟨b83, 0, none⟩) 1 1 24 fun a85 n86 k87 h88 => R (.slice a85 n86 k87) h88 := by
      intro o2 h8 g8 X hX e8 lg hgc lf
      have hXl : X.length ≤ 400 := by rw [hX]; split <;> omega
      refine opposites_spec (hb.mono (Hp.le_trans lf (offS_le _ _))) (fun x hx => by have := hBw x hx; omega) (by omega) fun u h9 hg9 => ⟨_, rfl, ?_⟩
      have e9 := e8.up hg9.keep
      intro b10 hb10
      refine tell e9 (by omega) (by simp; omega) hg9.buf (hg9.apart e8.blk) (h2 := h8) hg9.fresh hb10 fun o' h11 g' e11 lg2 hgc2 lf2 => ?_
      rw [← hX] at k
      refine k o' h11 g' e11 (Hp.le_trans lg lg2) (fun c x hcx => ?_) (Hp.le_trans lf (Hp.le_trans (offS_mono _ hg9.keep) lf2))
      rcases hgc2 c x hcx with h1 | h1
      · exact hgc c x h1
      · exact .inr (none_of_le (Hp.le_trans lf (offS_le _ _)) h1)
    refine impl_units_spec (v := v) s7 b7 (by omega) (by omega) (fun l hl x hx => hc l hl x hx) (fun x hx => hBw x hx) (fun hcl h8 l8 => ?_) (fun set hset hk rm h8 hg8 => ?_)
    · exact ⟨none, _, rfl, joinP_of (fun J => J o h8) (last o h8 g out (by rw [if_pos hcl]) (e7.up l8) (Hp.le_refl _) (fun c x hx => .inl hx) (Hp.le_trans l07 (offS_mono o l8))) (fun J hJ => bs_f rfl hJ)⟩
    have hX : treeP cls n (B ++ [(B.length : Int) + 1]) (treeP cls n (B ++ [-((B.length : Int) + 1)]) out) = (if unitsP cls B = none then out else treeP cls n (B ++ [(B.length : Int) + 1]) (treeP cls n (B ++ [-((B.length : Int) + 1)]) out)) := by
      rw [if_neg (by rw [hset]; simp)]
    refine ⟨some rm, _, rfl, joinP_of (fun J => ∀ o2 h2 g2, GrownSS g2 h2 o2 (treeP cls n (B ++ [(B.length : Int) + 1]) (treeP cls n (B ++ [-((B.length : Int) + 1)]) out)) → g.le g2 → (∀ c x, g2 c = some x → g c = some x ∨ (h.offS o) c = none) → (h.offS o).le (h2.offS o2) → J o2 h2) ?_ ?_⟩
    · intro o2 h2 g2 e2 lg hgc lf
      exact last o2 h2 g2 _ hX e2 lg hgc lf
    intro J hJ
    refine bs_t rfl ?_
    have l78 := hg8.le
    have f8 := l78 _ _ f7
    have b8 := b7.mono l78
    -- one deeper
    have call : ∀ (x : Int) (o1 t' : Sl) (h15 h18 g1 : Hp) (out1 : List (List Int)) (R' : Value → Hp → Prop), (x = (B.length : Int) + 1 ∨ x = -((B.length : Int) + 1)) → GrownSS g1 h15 o1 out1 → out1.length ≤ 400 → (h.offS o).le (h15.offS o1) →
        Grown h15 h18 t' (B ++ [x]) → Tells g1 h18 o1 (treeP cls n (B ++ [x]) out1) R' → c_impl_prove #[.agg #[I (v : Nat), s.v], t'.v, o1.v] h18 R' := by
      intro x o1 t' h15 h18 g1 out1 R' hx e1 ho1 lf gr k'
      have hBx := hB.snoc hx
      refine ih (B ++ [x]) out1 h18 g1 s t' o1 R' hBx (by simp; omega) (hs.mono (Hp.le_trans lf (offS_mono _ gr.keep))) ((gr.offS e1.blk).ints (by simp; omega)) (e1.up gr.keep) ho1 k'
    refine joinP_of (fun J2 => ∀ o2 h2 g2, h2 b6 = some (.inl ⟨[I (v : Nat), s.v], 2, false⟩) → IntS h2 bS B → GrownSS g2 h2 o2 (treeP cls n (B ++ [-((B.length : Int) + 1)]) out) → g.le g2 → (∀ c x, g2 c = some x → g c = some x ∨ (h.offS o) c = none) → (h.offS o).le (h2.offS o2) → J2 o2 h2) ?_ ?_
    · intro o2 h2 g2 f2 b2 e2 lg hgc lf
      have fin : ∀ h18, h2.le h18 → Tells g2 h18 o2 (treeP cls n (B ++ [(B.length : Int) + 1]) (treeP cls n (B ++ [-((B.length : Int) + 1)]) out)) fun v61 h62 => ∃ s63 : Sl, v61 = s63.v ∧ J s63 h62 := by
        intro h18 l18 o3 h3 g3 e3 lg3 hgc3 lf3
        refine ⟨o3, rfl, hJ o3 h3 g3 e3 (Hp.le_trans lg lg3) (fun c x hcx => ?_) (Hp.le_trans lf (Hp.le_trans (offS_mono _ l18) lf3))⟩
        rcases hgc3 c x hcx with h1 | h1
        · exact hgc c x h1
        · exact .inr (none_of_le (Hp.le_trans lf (offS_mono _ l18)) h1)
      simp only [vm, mm, cell_of f2, hbn, w1]
      refine ⟨?_, ?_⟩
      · refine cloneInts_spec b2 (by omega) fun t h16 l16 ht => ⟨_, rfl, (l16 _ _ f2).trans f2.symm, ?_⟩
        intro b17 hb17
        refine ⟨by rw [row_ne _ _ (fresh_ne hb17 (l16 _ _ f2))]; exact (l16 _ _ f2).trans f2.symm, ?_⟩
        refine (ht.grown l16).app (by omega) hb17 fun t' h18 gr18 => ⟨(gr18.keep _ _ f2).trans f2.symm, ?_⟩
        exact call _ o2 t' h2 h18 g2 _ _ (.inl rfl) e2 (by omega) lf gr18 (fin h18 gr18.keep)
      · intro b17 hb17
        have l17 := le_row [I ((B.length : Int) + 1)] 1 hb17
        refine ⟨row_ne _ _ (fresh_ne hb17 f2), ?_⟩
        refine cloneInts_spec (b2.mono l17) (by omega) fun t h16 l16 ht => ⟨_, rfl, (l16 _ _ (l17 _ _ f2)).trans f2.symm, ?_⟩
        have gr16 := ht.grown l16
        refine aApp_int gr16.buf (by omega) (cell_of (l16 _ _ (row_self ..)) 0) fun t' h18 hb18 hl18 => ?_
        have gr18 : Grown h2 h18 t' (B ++ [(B.length : Int) + 1]) := ⟨hb18, Hp.le_trans l17 (Hp.le_trans gr16.le hl18)⟩
        refine ⟨(gr18.keep _ _ f2).trans f2.symm, ?_⟩
        exact call _ o2 t' h2 h18 g2 _ _ (.inl rfl) e2 (by omega) lf gr18 (fin h18 gr18.keep)
    · intro J2 hJ2
      have e8 := e7.up l78
      have lf8 : (h.offS o).le (h8.offS o) := Hp.le_trans l07 (offS_mono _ l78)
      have o6 : ∀ a, o.a = some a → a.block ≠ b6 := fun a ha => by
        obtain ⟨x, hx⟩ := e.blk a ha
        exact fresh_ne hb6 hx
      have fin : ∀ h18, h8.le h18 → Tells g h18 o (treeP cls n (B ++ [-((B.length : Int) + 1)]) out) fun v61 h62 => ∃ s63 : Sl, v61 = s63.v ∧ J2 s63 h62 := by
        intro h18 l18 o3 h3 g3 e3 lg3 hgc3 lf3
        have lf03 := Hp.le_trans lf8 (Hp.le_trans (offS_mono _ l18) lf3)
        refine ⟨o3, rfl, hJ2 o3 h3 g3 ?_ (hb.mono (Hp.le_trans lf03 (offS_le _ _))) e3 lg3 (fun c x hcx => ?_) lf03⟩
        · exact (offS_some (lf3 _ _ (offS_of (l18 _ _ f8) o6))).1
        · rcases hgc3 c x hcx with h1 | h1
          · exact .inl h1
          · exact .inr (none_of_le (Hp.le_trans lf8 (offS_mono _ l18)) h1)
      simp only [vm, mm, cell_of f8, hbn, w1, w2]
      refine ⟨?_, ?_⟩
      · refine cloneInts_spec b8 (by omega) fun t h16 l16 ht => ⟨_, rfl, (l16 _ _ f8).trans f8.symm, ?_⟩
        intro b17 hb17
        refine ⟨by rw [row_ne _ _ (fresh_ne hb17 (l16 _ _ f8))]; exact (l16 _ _ f8).trans f8.symm, ?_⟩
        refine (ht.grown l16).app (by omega) hb17 fun t' h18 gr18 => ⟨(gr18.keep _ _ f8).trans f8.symm, ?_⟩
        exact call _ o t' h8 h18 g _ _ (.inr rfl) e8 ho lf8 gr18 (fin h18 gr18.keep)
      · intro b17 hb17
        have l17 := le_row [I (-((B.length : Int) + 1))] 1 hb17
        refine ⟨row_ne _ _ (fresh_ne hb17 f8), ?_⟩
        refine cloneInts_spec (b8.mono l17) (by omega) fun t h16 l16 ht => ⟨_, rfl, (l16 _ _ (l17 _ _ f8)).trans f8.symm, ?_⟩
        have gr16 := ht.grown l16
        refine aApp_int gr16.buf (by omega) (cell_of (l16 _ _ (row_self ..)) 0) fun t' h18 hb18 hl18 => ?_
        have gr18 : Grown h8 h18 t' (B ++ [-((B.length : Int) + 1)]) := ⟨hb18, Hp.le_trans l17 (Hp.le_trans gr16.le hl18)⟩
        refine ⟨(gr18.keep _ _ f8).trans f8.symm, ?_⟩
        exact call _ o t' h8 h18 g _ _ (.inr rfl) e8 ho lf8 gr18 (fin h18 gr18.keep)

end Go.Lead
