/- What the reference's trying of all computes, and both sides' ProofOf. -/
import Derived.Test.YthgleoodmgophaaQ2
namespace Go.Lead
open Go
set_option linter.unusedSimpArgs false
set_option linter.unusedVariables false

theorem Grown.beside {h0 h' h'' : Hp} {a b b' : Sl} {xs : List Int} (e : Grown h0 h' a xs) (l0 : h0.le (h'.offS b)) (hk : (h'.offS b).le (h''.offS b')) (nab : ∀ x y, a.a = some x → b.a = some y → y.block ≠ x.block) :
    Grown h0 h'' a xs ∧ ∀ x y, a.a = some x → b'.a = some y → y.block ≠ x.block := by
  constructor
  · refine ⟨⟨e.buf.1, e.buf.2.1, e.buf.2.2.imp id ?_⟩, ?_⟩
    · rintro ⟨c, hc, hcb⟩
      exact ⟨c, hc, (offS_some (hk _ _ (offS_of hcb fun y hy => nab _ y hc hy))).1⟩
    · intro c x hc
      obtain ⟨g1, g2⟩ := offS_some (e.le _ _ hc)
      obtain ⟨g3, g4⟩ := offS_some (l0 _ _ hc)
      exact offS_of (offS_some (hk _ _ (offS_of g1 g4))).1 g2
  · intro x y hx hy
    rcases e.buf.2.2 with ⟨h0, _⟩ | ⟨c, hc, hcb⟩
    · rw [h0] at hx; cases hx
    · rw [hc] at hx; cases hx
      exact (offS_some (hk _ _ (offS_of hcb fun y hy => nab _ y hc hy))).2 y hy
theorem IBuf.offS_apart {h : Hp} {u o : Sl} {xs : List Int} (e : IBuf (h.offS o) u xs) : ∀ a a', u.a = some a → o.a = some a' → a.block ≠ a'.block := by
  intro a a' ha ha'
  rcases e.2.2 with ⟨h0, _⟩ | ⟨c, hc, hcb⟩
  · rw [h0] at ha; cases ha
  · rw [hc] at ha; cases ha
    exact ((offS_some hcb).2 a' ha').symm
theorem IBuf.at_off {h k : Hp} {u o : Sl} {xs : List Int} (e : IBuf h u xs) (d : ∀ a x, u.a = some a → h a.block = some x → k a.block = some x) : IBuf k u xs := by
  refine ⟨e.1, e.2.1, e.2.2.imp id ?_⟩
  rintro ⟨c, hc, hcb⟩
  exact ⟨c, hc, d _ _ hc hcb⟩

theorem l11Tree_spec {v : Nat} (hv : v ≤ 10) {cls : List (List Int)} (hc : WfC v cls) (hx60 : cls.length ≤ 60) (hno : ∀ code, code < 2 ^ v → AllB cls code = false) :
    ∀ (n : Nat) (B : List Int) (out : List (List Int)) (h g : Hp) (s bS o : Sl) (R : Value → Hp → Prop), Begins B → B.length + n = v → IntSS (h.offS o) s cls → IntS (h.offS o) bS B → GrownSS g h o out → out.length ≤ 400 →
      Tells g h o (treeP cls n B out) R → c_spec_l11Tree #[.agg #[I v, s.v], bS.v, o.v] h R := by
  intro n
  induction n with
  | zero =>
    intro B out h g s bS o R hB hl hs hb e ho k
    apply R_spec_l11Tree
    unfold F_spec_l11Tree
    intro b6 hb6
    have hBw := hB.wf (v := v) (by omega)
    have l7 := le_row [I (v : Nat), s.v] 2 hb6
    have f7 := row_self h b6 [I (v : Nat), s.v] 2
    have hon := e.len
    have hbn := hb.len
    simp only [vm, mm]
    generalize hh7 : h.row b6 [I (v : Nat), s.v] 2 = h7 at *
    have e7 := e.up l7
    have s7 := hs.mono (Hp.le_trans (offS_le _ _) l7)
    have b7 := hb.mono (Hp.le_trans (offS_le _ _) l7)
    refine bsplit_of (fun hlong => ?_) (fun hshort => ?_)
    · have h3 : out.length > 300 := by simp [hon] at hlong; omega
      rw [treeP_long h3] at k
      exact k o h7 g e7 (Hp.le_refl _) (fun c x hx => .inl hx) (offS_mono o l7)
    have h3 : ¬ out.length > 300 := by simp [hon] at hshort; omega
    have hT : treeP cls 0 B out = out ++ [B.map (- ·)] := by simp only [treeP, if_neg h3]
    rw [hT] at k
    refine loop_up B.length (fun i vs h' => ∃ u, vs = [bS.v, o.v, .pointer (some ⟨b6, 0, none⟩), Sl.v u, I i] ∧ Grown h7 h' u ((B.take i).map (- ·))) ⟨⟨none, 0, 0⟩, rfl, Grown.start _⟩ ?_
    rintro i _ h8 next hi ⟨u, rfl, hgu⟩ hn
    refine ⟨_, _, _, _, _, _, rfl, ?_⟩
    by_cases hlt : i < B.length
    · obtain ⟨b, ob, ha, hcc⟩ := (b7.mono hgu.keep).at hlt
      have hxi := hBw _ (List.getElem_mem hlt)
      refine bs_t (by simp [hbn, hlt]) ?_
      simp only [vm, mm, hbn, ha, hcc, W_succ (n := i) (by omega)]
      rw [W_id (n := 0 - B[i]) (by omega) (by omega), Int.zero_sub]
      refine ⟨by omega, fun b2 hb2 => hgu.app (by simp; omega) hb2 fun o' h2 hg2 => hn hlt _ _ ⟨o', rfl, ?_⟩⟩
      rw [map_take_step hlt]; exact hg2
    have : i = B.length := by omega
    subst this
    rw [List.take_length] at hgu
    refine bs_f (by simp [hbn]) ?_
    simp only [vm, mm, cell_of (hgu.keep _ _ f7)]
    refine spec_l10Units_spec (v := v) (s7.mono hgu.keep) (b7.mono hgu.keep) (by omega) (by omega) (fun l hl x hx => hc l hl x hx) (fun x hx => hBw x hx) (fun _ h9 l9 => ?_) (fun set hset => ?_)
    rotate_left
    · rw [full_clash hv hc hno hB (by omega)] at hset; cases hset
    refine ⟨⟨none, 0, 0⟩, _, rfl, bs_t rfl ?_⟩
    have e9 := (e7.up hgu.keep).up l9
    intro b10 hb10
    refine tell e9 (by omega) (by simp; omega) (hgu.buf.mono l9) (hgu.apart e7.blk) (h2 := h.offS o) (fun a ha => none_of_le (Hp.le_trans (offS_le _ _) l7) (hgu.fresh a ha)) hb10 fun o' h11 g' e11 lg hgc lf => k o' h11 g' e11 lg hgc ?_
    exact Hp.le_trans (offS_mono o (Hp.le_trans l7 (Hp.le_trans hgu.keep l9))) lf
  | succ n ih =>
    intro B out h g s bS o R hB hl hs hb e ho k
    apply R_spec_l11Tree
    unfold F_spec_l11Tree
    intro b6 hb6
    have hBw := hB.wf (v := v) (by omega)
    have l7 := le_row [I (v : Nat), s.v] 2 hb6
    have f7 := row_self h b6 [I (v : Nat), s.v] 2
    have hon := e.len
    have hbn := hb.len
    have o6 : ∀ a, o.a = some a → a.block ≠ b6 := fun a ha => by
      obtain ⟨x, hx⟩ := e.blk a ha
      exact fresh_ne hb6 hx
    simp only [vm, mm]
    generalize hh7 : h.row b6 [I (v : Nat), s.v] 2 = h7 at *
    have e7 := e.up l7
    have s7 := hs.mono (Hp.le_trans (offS_le _ _) l7)
    have b7 := hb.mono (Hp.le_trans (offS_le _ _) l7)
    have w1 : W ((B.length : Int) + 1) = (B.length : Int) + 1 := W_id (by omega) (by omega)
    have w2 : W (0 - ((B.length : Int) + 1)) = -((B.length : Int) + 1) := by rw [W_id (by omega) (by omega)]; omega
    refine bsplit_of (fun hlong => ?_) (fun hshort => ?_)
    · have h3 : out.length > 300 := by simp [hon] at hlong; omega
      rw [treeP_long h3] at k
      exact k o h7 g e7 (Hp.le_refl _) (fun c x hx => .inl hx) (offS_mono o l7)
    have h3 : ¬ out.length > 300 := by simp [hon] at hshort; omega
    have hT : treeP cls (n + 1) B out = (if unitsP cls B = none then out else treeP cls n (B ++ [(B.length : Int) + 1]) (treeP cls n (B ++ [-((B.length : Int) + 1)]) out)) ++ [B.map (- ·)] := by simp only [treeP, if_neg h3]
    rw [hT] at k
    have tl1 := treeP_len cls n (B ++ [-((B.length : Int) + 1)]) out
    have tl2 := treeP_len cls n (B ++ [(B.length : Int) + 1]) (treeP cls n (B ++ [-((B.length : Int) + 1)]) out)
    have l07 : (h.offS o).le (h7.offS o) := offS_mono o l7
    refine loop_up B.length (fun i vs h' => ∃ u, vs = [bS.v, o.v, .pointer (some ⟨b6, 0, none⟩), Sl.v u, I i] ∧ Grown h7 h' u ((B.take i).map (- ·))) ⟨⟨none, 0, 0⟩, rfl, Grown.start _⟩ ?_
    rintro i _ h8 next hi ⟨u, rfl, hgu⟩ hn
    refine ⟨_, _, _, _, _, _, rfl, ?_⟩
    by_cases hlt : i < B.length
    · obtain ⟨b, ob, ha, hcc⟩ := (b7.mono hgu.keep).at hlt
      have hxi := hBw _ (List.getElem_mem hlt)
      refine bs_t (by simp [hbn, hlt]) ?_
      simp only [vm, mm, hbn, ha, hcc, W_succ (n := i) (by omega)]
      rw [W_id (n := 0 - B[i]) (by omega) (by omega), Int.zero_sub]
      refine ⟨by omega, fun b2 hb2 => hgu.app (by simp; omega) hb2 fun o' h2 hg2 => hn hlt _ _ ⟨o', rfl, ?_⟩⟩
      rw [map_take_step hlt]; exact hg2
    have : i = B.length := by omega
    subst this
    rw [List.take_length] at hgu
    refine bs_f (by simp [hbn]) ?_
    clear hn next hlt hi
    simp only [vm, mm, cell_of (hgu.keep _ _ f7)]
    have uo : ∀ a a', u.a = some a → o.a = some a' → a.block ≠ a'.block := hgu.apart e7.blk
    have ufr : ∀ a, u.a = some a → (h.offS o) a.block = none := fun a ha => none_of_le (Hp.le_trans (offS_le _ _) l7) (hgu.fresh a ha)
    refine spec_l10Units_spec (v := v) (s7.mono hgu.keep) (b7.mono hgu.keep) (by omega) (by omega) (fun l hl x hx => hc l hl x hx) (fun x hx => hBw x hx) (fun hcl h9 l9 => ?_) (fun set hset hk t0 h9 hg9 => ?_)
    · refine ⟨⟨none, 0, 0⟩, _, rfl, bs_t rfl ?_⟩
      rw [if_pos hcl] at k
      have e9 := (e7.up hgu.keep).up l9
      intro b10 hb10
      refine tell e9 (by omega) (by simp; omega) (hgu.buf.mono l9) uo (h2 := h.offS o) ufr hb10 fun o' h11 g' e11 lg hgc lf => k o' h11 g' e11 lg hgc ?_
      exact Hp.le_trans (offS_mono o (Hp.le_trans l7 (Hp.le_trans hgu.keep l9))) lf
    rw [if_neg (by rw [hset]; simp)] at k
    refine ⟨t0, _, rfl, bs_f rfl ?_⟩
    have l79 : h7.le h9 := Hp.le_trans hgu.keep hg9.keep
    have f9 := l79 _ _ f7
    have e9 := e7.up l79
    have b9 := b7.mono l79
    have ub9 : IBuf h9 u (B.map (- ·)) := hgu.buf.mono hg9.keep
    have lf9 : (h.offS o).le (h9.offS o) := Hp.le_trans l07 (offS_mono o l79)
    clear hg9 hk hset set t0
    -- two copies
    refine loop_up B.length (fun j vs h' => ∃ na ya, vs = [bS.v, o.v, .pointer (some ⟨b6, 0, none⟩), Sl.v u, I ((B.length : Int) + 1), Sl.v na, Sl.v ya, I j] ∧ Grown h9 h' na (B.take j) ∧ Grown h9 h' ya (B.take j) ∧ ∀ x y, na.a = some x → ya.a = some y → y.block ≠ x.block)
      ⟨⟨none, 0, 0⟩, ⟨none, 0, 0⟩, by rw [hbn, w1]; rfl, Grown.start _, Grown.start _, fun x y hx => by cases hx⟩ ?_
    rintro j _ h10 next hj ⟨na, ya, rfl, gn, gy, hap⟩ hn
    refine ⟨_, _, _, _, _, _, _, _, _, rfl, ?_⟩
    by_cases hjl : j < B.length
    · obtain ⟨b, ob, ha, hcc⟩ := (b9.mono gn.keep).at hjl
      refine bs_t (by simp [hbn, hjl]) ?_
      simp only [vm, mm, hbn, ha, hcc, W_succ (n := j) (by omega)]
      refine ⟨by omega, fun b2 hb2 => gn.appK (by simp; omega) hb2 fun na' h11 hk11 gn11 => ?_⟩
      obtain ⟨gy11, hap11⟩ := gy.beside gn.le hk11 (fun x y hx hy => (hap y x hy hx).symm)
      have hcc11 := ((b9.mono gn11.keep).at hjl)
      obtain ⟨b', ob', ha', hcc'⟩ := hcc11
      rw [ha] at ha'; cases ha'
      simp only [vm, mm, hcc']
      refine ⟨by omega, fun b3 hb3 => gy11.appK (by simp; omega) hb3 fun ya' h12 hk12 gy12 => ?_⟩
      obtain ⟨gn12, hap12⟩ := gn11.beside gy11.le hk12 (fun x y hx hy => (hap11 y x hy hx).symm)
      refine hn hjl _ _ ⟨na', ya', rfl, ?_, ?_, fun x y hx hy => hap12 x y hx hy⟩
      · rw [List.take_succ_eq_append_getElem hjl]; exact gn12
      · rw [List.take_succ_eq_append_getElem hjl]; exact gy12
    have : j = B.length := by omega
    subst this
    rw [List.take_length] at gn gy
    refine bs_f (by simp [hbn]) ?_
    clear hn next hjl hj
    have f10 := gn.keep _ _ f9
    simp only [vm, mm, cell_of f10, w2]
    intro b11 hb11
    refine ⟨by rw [row_ne _ _ (fresh_ne hb11 f10)], ?_⟩
    refine gn.appK (by omega) hb11 fun na' h12 hk12 gn12 => ?_
    obtain ⟨gy12, hap12⟩ := gy.beside gn.le hk12 (fun x y hx hy => (hap y x hy hx).symm)
    have f12 := gn12.keep _ _ f9
    refine ⟨f12.trans f10.symm, ?_⟩
    have e12 := e9.up gn12.keep
    have lf12 : (h.offS o).le (h12.offS o) := Hp.le_trans lf9 (offS_mono o gn12.keep)
    have yb12 : IBuf (h12.offS o) ya B := gy12.offS e9.blk
    have ub12 : IBuf (h12.offS o) u (B.map (- ·)) := (ub9.mono gn12.keep).at_off (o := o) fun a x ha hx => offS_of hx fun a' ha' => (uo a a' ha ha').symm
    refine ih (B ++ [-((B.length : Int) + 1)]) out h12 g s na' o _ (hB.snoc (.inr rfl)) (by simp; omega) (hs.mono lf12) ((gn12.offS e9.blk).ints (by simp; omega)) e12 ho ?_
    intro o2 h13 g2 e13 lg2 hgc2 lf13
    refine ⟨o2, rfl, ?_⟩
    have f13 := (offS_some (lf13 _ _ (offS_of f12 o6)))
    simp only [vm, mm, cell_of f13.1]
    have yb13 : IBuf (h13.offS o2) ya B := yb12.mono lf13
    have ub13 : IBuf (h13.offS o2) u (B.map (- ·)) := ub12.mono lf13
    have yo2 := yb13.offS_apart
    intro b14 hb14
    refine ⟨by rw [row_ne _ _ (fresh_ne hb14 f13.1)], ?_⟩
    have l14 := le_row [I ((B.length : Int) + 1)] 1 hb14
    refine aApp_int (IBuf.mono (Hp.le_trans (offS_le _ _) l14) yb13) (by omega) (cell_row _ _ _ _ _) fun ya' h15 hb15 hl15 => ?_
    have hl15' : (h13.offS ya).le (h15.offS ya') := Hp.le_trans (offS_mono _ l14) hl15
    -- what is known of the second copy's block
    have yfr9 : ∀ a, ya.a = some a → h9 a.block = none := gy.fresh
    have y6 : ∀ a, ya.a = some a → a.block ≠ b6 := fun a ha hab => by have := yfr9 a ha; rw [hab, f9] at this; cases this
    have f15 := (offS_some (hl15' _ _ (offS_of f13.1 y6))).1
    refine ⟨f15.trans f13.1.symm, ?_⟩
    have keep15 : ∀ c x, h13 c = some x → (∀ a, ya.a = some a → a.block ≠ c) → h15 c = some x ∧ ∀ a, ya'.a = some a → a.block ≠ c := fun c x h1 h2 => offS_some (hl15' _ _ (offS_of h1 h2))
    have yin : ∀ a, ya.a = some a → ∃ x, (h12.offS o) a.block = some x := by
      intro a ha
      rcases yb12.2.2 with ⟨h0, _⟩ | ⟨c, hcc, hcb⟩
      · rw [h0] at ha; cases ha
      · rw [hcc] at ha; cases ha; exact ⟨_, hcb⟩
    have gno : ∀ c x, g2 c = some x → ∀ a, ya.a = some a → a.block ≠ c := by
      intro c x hcx a ha hac
      rcases hgc2 c x hcx with h1 | h1
      · have := (e9.keep c x h1); rw [← hac, yfr9 a ha] at this; cases this
      · obtain ⟨y, hy⟩ := yin a ha; rw [hac, h1] at hy; cases hy
    have o2no : ∀ a, o2.a = some a → ∀ a', ya.a = some a' → a'.block ≠ a.block := fun a ha a' ha' => yo2 a' a ha' ha
    have e15 : GrownSS g2 h15 o2 (treeP cls n (B ++ [-((B.length : Int) + 1)]) out) := by
      obtain ⟨ts, q1, q2, q3⟩ := e13.buf
      refine ⟨⟨ts, ⟨q1.1, q1.2.1, q1.2.2.imp id ?_⟩, q2, q3⟩, ?_⟩
      · rintro ⟨c, hcc, hcb⟩
        exact ⟨c, hcc, (keep15 _ _ hcb (o2no _ hcc)).1⟩
      · intro c x hcx
        obtain ⟨q4, q5⟩ := offS_some (e13.le _ _ hcx)
        exact offS_of (keep15 _ _ q4 (gno c x hcx)).1 q5
    have hfr : ∀ c x, (h.offS o) c = some x → ∀ a, ya.a = some a → a.block ≠ c := by
      intro c x hcx a ha hac
      have := offS_le _ _ _ _ (lf9 c x hcx)
      rw [← hac, yfr9 a ha] at this; cases this
    have lf15 : (h.offS o).le (h15.offS o2) := by
      intro c x hcx
      obtain ⟨q4, q5⟩ := offS_some (lf13 _ _ (lf12 _ _ hcx))
      exact offS_of (keep15 _ _ q4 (hfr c x hcx)).1 q5
    have yo15 : ∀ a a', ya'.a = some a → o2.a = some a' → a.block ≠ a'.block := by
      intro a a' ha ha'
      obtain ⟨x, hx⟩ := e13.blk a' ha'
      exact (keep15 _ _ hx (o2no a' ha')).2 a ha
    have yb15 : IBuf (h15.offS o2) ya' (B ++ [(B.length : Int) + 1]) := hb15.at_off (o := o2) fun a x ha hx => offS_of hx fun a' ha' => (yo15 a a' ha ha').symm
    have ub15 : IBuf (h15.offS o2) u (B.map (- ·)) := ub13.at_off (o := o2) fun a x ha hx => by
      obtain ⟨q4, q5⟩ := offS_some hx
      refine offS_of (keep15 _ _ q4 fun a' ha' hab => ?_).1 q5
      have hu9 : ∃ y, h9 a.block = some y := by
        rcases ub9.2.2 with ⟨h0, _⟩ | ⟨c, hcc, hcb⟩
        · rw [h0] at ha; cases ha
        · rw [hcc] at ha; cases ha; exact ⟨_, hcb⟩
      obtain ⟨y, hy⟩ := hu9
      rw [← hab, yfr9 a' ha'] at hy; cases hy
    refine ih (B ++ [(B.length : Int) + 1]) _ h15 g2 s ya' o2 _ (hB.snoc (.inl rfl)) (by simp; omega) (hs.mono lf15) (yb15.ints (by simp; omega)) e15 (by omega) ?_
    intro o3 h16 g3 e16 lg3 hgc3 lf16
    refine ⟨o3, rfl, ?_⟩
    have ub16 : IBuf (h16.offS o3) u (B.map (- ·)) := ub15.mono lf16
    intro b17 hb17
    refine tell e16 (by omega) (by simp; omega) (ub16.mono (offS_le _ _)) ub16.offS_apart (h2 := h.offS o) ufr hb17 fun o4 h18 g4 e18 lg4 hgc4 lf18 => k o4 h18 g4 e18 (Hp.le_trans lg2 (Hp.le_trans lg3 lg4)) (fun c x hcx => ?_) (Hp.le_trans lf15 (Hp.le_trans lf16 lf18))
    rcases hgc4 c x hcx with h1 | h1
    · rcases hgc3 c x h1 with h2 | h2
      · rcases hgc2 c x h2 with h3 | h3
        · exact .inl h3
        · exact .inr (none_of_le lf12 h3)
      · exact .inr (none_of_le lf15 h2)
    · exact .inr h1

end Go.Lead
