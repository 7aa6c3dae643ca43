/- What both sides' looks at proofs compute. -/
import Derived.Test.YthgleoodmgophaaP6
namespace Go.Lead
open Go
set_option linter.unusedSimpArgs false
set_option linter.unusedVariables false

theorem GrownSS.up {h h' h'' : Hp} {t : Sl} {xss : List (List Int)} (e : GrownSS h h' t xss) (l : h'.le h'') : GrownSS h h'' t xss := by
  obtain ⟨ts, h1, h2, h3⟩ := e.buf
  exact ⟨⟨ts, h1.mono l, h2, h3⟩, Hp.le_trans e.le (offS_mono t l)⟩

theorem opposites_spec {h : Hp} {s : Sl} {xs : List Int} {R : Value → Hp → Prop} (hs : IntS h s xs) (hx : ∀ x ∈ xs, -1000 ≤ x ∧ x ≤ 1000) (hl : xs.length ≤ 1048576)
    (k : ∀ t h', Grown h h' t (xs.map (- ·)) → R (Sl.v t) h') : c_impl_opposites #[s.v] h R := by
  apply R_impl_opposites
  unfold F_impl_opposites
  refine loop_up xs.length (fun i vs h' => ∃ o, vs = [Sl.v o, s.v, I xs.length, I i] ∧ Grown h h' o ((xs.take i).map (- ·))) ⟨⟨none, 0, 0⟩, by rw [hs.len]; rfl, Grown.start _⟩ ?_
  rintro i _ h1 next hi ⟨o, rfl, hgo⟩ hn
  refine ⟨_, _, _, _, rfl, ?_⟩
  by_cases hlt : i < xs.length
  · obtain ⟨b, ob, ha, hc⟩ := (hs.mono hgo.keep).at hlt
    have hxi := hx _ (List.getElem_mem hlt)
    refine bs_t (by simp [hlt]) ?_
    simp only [vm, mm, hs.len, ha, hc, W_succ (n := i) (by omega)]
    rw [W_id (n := 0 - xs[i]) (by omega) (by omega), Int.zero_sub]
    refine ⟨by omega, fun b2 hb2 => hgo.app (by simp; omega) hb2 fun o' h2 hg2 => hn hlt _ _ ⟨o', rfl, ?_⟩⟩
    rw [map_take_step hlt]; exact hg2
  · have : i = xs.length := by omega
    subst this
    rw [List.take_length] at hgo
    exact bs_f (by simp) (k o h1 hgo)

theorem l11Follows_spec {h : Hp} {s l : Sl} {all : List (List Int)} {xs : List Int} {v : Int} {R : Value → Hp → Prop} (hs : IntSS h s all) (hl : IntS h l xs) (hv0 : 0 ≤ v) (hv : v ≤ 10) (hc : WfC v all) (hw : WfL v xs) (hx : xs.length ≤ 1048576)
    (k : R (.bool (decide (unitsP all (xs.map (- ·)) = none))) h) : c_spec_l11Follows #[s.v, l.v] h R := by
  refine ACalls.drop (R_spec_l11Follows ?_)
  unfold F_spec_l11Follows
  refine loop_up xs.length (fun i vs h' => ∃ o, vs = [s.v, l.v, Sl.v o, I i] ∧ Grown h h' o ((xs.take i).map (- ·))) ⟨⟨none, 0, 0⟩, rfl, Grown.start _⟩ ?_
  rintro i _ h1 next hi ⟨o, rfl, hgo⟩ hn
  refine ⟨_, _, _, _, rfl, ?_⟩
  by_cases hlt : i < xs.length
  · obtain ⟨b, ob, ha, hcc⟩ := (hl.mono hgo.keep).at hlt
    have hxi := hw _ (List.getElem_mem hlt)
    refine bs_t (by simp [hl.len, hlt]) ?_
    simp only [vm, mm, hl.len, ha, hcc, W_succ (n := i) (by omega)]
    rw [W_id (n := 0 - xs[i]) (by omega) (by omega), Int.zero_sub]
    refine ⟨by omega, fun b2 hb2 => hgo.app (by simp; omega) hb2 fun o' h2 hg2 => hn hlt _ _ ⟨o', rfl, ?_⟩⟩
    rw [map_take_step hlt]; exact hg2
  · have : i = xs.length := by omega
    subst this
    rw [List.take_length] at hgo
    refine bs_f (by simp [hl.len]) ?_
    refine spec_l10Units_spec (v := v) (hs.mono hgo.keep) (hgo.buf.ints (by simpa using hx)) hv0 hv (fun l hl x hx => hc l hl x hx) (fun x hx => wfL_neg hw x hx) (fun hno h2 l2 => ?_) (fun set hset hk t h2 hg2 => ?_)
    · rw [hno] at k
      exact ⟨⟨none, 0, 0⟩, _, rfl, _, Hp.le_trans hgo.keep l2, by simpa using k⟩
    · rw [hset] at k
      exact ⟨_, _, rfl, _, Hp.le_trans hgo.keep hg2.keep, by simpa using k⟩

/-- The shape of a proof. -/
def shapeB (v : Int) (cls p : List (List Int)) : Bool := CnfOkB v cls && (decide (p.length ≤ 300) && p.all (ClauseOk v))
theorem shapeB.iff {v : Int} {cls p : List (List Int)} : shapeB v cls p = true ↔ CnfOkB v cls = true ∧ p.length ≤ 300 ∧ ∀ l ∈ p, ClauseOk v l = true := by
  simp [shapeB, List.all_eq_true]

theorem l11Shape_spec {h : Hp} {s t : Sl} {cls p : List (List Int)} {v : Int} {R : Value → Hp → Prop} (hs : IntSS h s cls) (hp : IntSS h t p)
    (k : R (.bool (shapeB v cls p)) h) : c_spec_l11Shape #[.agg #[I v, s.v], t.v] h R := by
  refine ACalls.drop (R_spec_l11Shape ?_)
  unfold F_spec_l11Shape
  intro b hb
  have l0 := le_row [I v, s.v] 2 hb
  simp only [vm, mm]
  refine joinP_of (fun J => J (!(CnfOkB v cls && decide (p.length ≤ 300))) (h.row b [I v, s.v] 2)) ?_ ?_
  rotate_left
  · intro J hJ
    refine spec_CnfOk_spec (hs.mono l0) ⟨_, rfl, bsplit_of (fun e => ?_) (fun e => ?_)⟩
    · have e' : CnfOkB v cls = false := by simpa using e
      rwa [e'] at hJ
    · have e' : CnfOkB v cls = true := by simpa using e
      rw [e', Bool.true_and] at hJ
      have : decide ((t.n : Int) > 300) = !decide (p.length ≤ 300) := by rw [hp.len, Bool.eq_iff_iff]; simp; omega
      rw [this]; exact hJ
  refine bsplit_of (fun e => ⟨_, l0, ?_⟩) (fun e => ?_)
  · have e' : (CnfOkB v cls && decide (p.length ≤ 300)) = false := by rw [← Bool.not_eq_true']; exact e
    rw [shapeB, ← Bool.and_assoc, e', Bool.false_and] at k; exact k
  have e' : (CnfOkB v cls && decide (p.length ≤ 300)) = true := by simpa using e
  rw [shapeB, ← Bool.and_assoc, e', Bool.true_and] at k
  have hok := (Bool.and_eq_true_iff.1 e').1
  have hpl : p.length ≤ 300 := of_decide_eq_true (Bool.and_eq_true_iff.1 e').2
  have hv := (CnfOkB.iff.1 hok).1
  refine loop_up p.length (fun i vs h' => vs = [t.v, .pointer (some ⟨b, 0, none⟩), I i] ∧ h' = h.row b [I v, s.v] 2 ∧ (p.take i).all (ClauseOk v) = true) ⟨rfl, rfl, by simp⟩ ?_
  rintro i _ _ next hi ⟨rfl, rfl, hq⟩ hn
  refine ⟨_, _, _, _, rfl, ?_⟩
  by_cases hlt : i < p.length
  · obtain ⟨b', o, u, ha, hc', hu⟩ := (hp.mono l0).at hlt
    refine bs_t (by simp [hp.len, hlt]) ?_
    simp only [vm, mm, hp.len, ha, hc', W_succ (n := i) (by omega)]
    refine ⟨by omega, l10Clause_spec hu (by omega) (by omega) ⟨_, rfl, bsplit_of (fun he => ⟨_, l0, ?_⟩) (fun he => ?_)⟩⟩
    · rwa [all_false (xs := p) hlt (by simpa using he)] at k
    · exact hn hlt _ _ ⟨rfl, rfl, by rw [all_step hlt, hq]; simpa using he⟩
  · have : i = p.length := by omega
    subst this
    rw [List.take_length] at hq
    refine bs_f (by simp [hp.len]) ⟨_, l0, ?_⟩
    rwa [hq] at k

theorem proofOk_spec {h : Hp} {s t : Sl} {cls p : List (List Int)} {v : Int} {R : Value → Hp → Prop} (hs : IntSS h s cls) (hp : IntSS h t p)
    (k : R (.bool (shapeB v cls p)) h) : c_impl_proofOk #[.agg #[I v, s.v], t.v] h R := by
  refine ACalls.drop (R_impl_proofOk ?_)
  unfold F_impl_proofOk
  intro b hb
  have l0 := le_row [I v, s.v] 2 hb
  simp only [vm, mm]
  refine impl_CnfOk_spec (hs.mono l0) ⟨_, rfl, bsplit_of (fun e => ?_) (fun e => ⟨_, l0, ?_⟩)⟩
  rotate_left
  · rw [shapeB, e, Bool.false_and] at k; exact k
  rw [shapeB, e, Bool.true_and] at k
  have hv := (CnfOkB.iff.1 e).1
  refine bsplit_of (fun e2 => ?_) (fun e2 => ⟨_, l0, ?_⟩)
  rotate_left
  · have : decide (p.length ≤ 300) = false := by simp [hp.len] at e2 ⊢; omega
    rw [this, Bool.false_and] at k; exact k
  have : decide (p.length ≤ 300) = true := by simp [hp.len] at e2 ⊢; omega
  rw [this, Bool.true_and] at k
  refine ContainsFunc_ints_spec (fun l => !ClauseOk v l) (hp.mono l0) ?_ ⟨_, rfl, _, l0, ?_⟩
  · intro x hx u hu R k
    refine R_impl_proofOk_d1 (b2 := b) (o3 := 0) ?_
    unfold F_impl_proofOk_d1
    simp only [vm, mm]
    exact clauseOk_spec hu (by omega) (by omega) ⟨_, rfl, k⟩
  · have : (!p.any fun n => !ClauseOk v n) = p.all (ClauseOk v) := by rw [← List.all_eq_not_any_not]
    rw [this]; exact k

/-- The place of the first clause that does not follow. -/
def gapI (cls p : List (List Int)) : Int := match gapP cls p with | some i => (i : Int) | none => -1
theorem gapP_at {cls p : List (List Int)} {i : Nat} (hi : i < p.length) (h : gapP cls p = (gapP (cls ++ p.take i) (p.drop i)).map (· + i)) :
    (unitsP (cls ++ p.take i) (p[i].map (- ·)) = none → gapP cls p = (gapP (cls ++ p.take (i + 1)) (p.drop (i + 1))).map (· + (i + 1))) ∧ (unitsP (cls ++ p.take i) (p[i].map (- ·)) ≠ none → gapP cls p = some i) := by
  rw [drop_step hi] at h
  simp only [gapP] at h
  constructor
  · intro hu
    rw [if_pos hu] at h
    rw [h, List.take_succ_eq_append_getElem hi, ← List.append_assoc, Option.map_map]
    congr 1
    funext x; simp only [Function.comp]; omega
  · intro hu
    rw [if_neg hu] at h
    rw [h]; simp

theorem l11Gap_spec {h : Hp} {s t : Sl} {cls p : List (List Int)} {v : Int} {R : Value → Hp → Prop} (hs : IntSS h s cls) (hp : IntSS h t p) (hok : shapeB v cls p = true)
    (k : R (I (gapI cls p)) h) : c_spec_l11Gap #[.agg #[I v, s.v], t.v] h R := by
  refine ACalls.drop (R_spec_l11Gap ?_)
  unfold F_spec_l11Gap
  obtain ⟨hcok, hpl, hpc⟩ := shapeB.iff.1 hok
  obtain ⟨hv, hx60, hcl⟩ := CnfOkB.iff.1 hcok
  have hwc : WfC v cls := fun l hl => ClauseOk.all (hcl l hl)
  have hwp : WfC v p := fun l hl => ClauseOk.all (hpc l hl)
  intro b hb
  have l0 := le_row [I v, s.v] 2 hb
  have f0 := row_self h b [I v, s.v] 2
  simp only [vm, mm]
  generalize hh0 : h.row b [I v, s.v] 2 = h0 at *
  have hs0 := hs.mono l0
  have hp0 := hp.mono l0
  refine loop_up cls.length (fun i vs h' => ∃ o, vs = [t.v, .pointer (some ⟨b, 0, none⟩), Sl.v o, I i] ∧ GrownSS h0 h' o (cls.take i)) ⟨⟨none, 0, 0⟩, rfl, GrownSS.start _⟩ ?_
  rintro i _ h1 next hi ⟨o, rfl, gr⟩ hn
  refine ⟨_, _, _, _, _, rfl, ?_⟩
  have f1 := gr.keep _ _ f0
  simp only [vm, mm, cell_of f1]
  by_cases hlt : i < cls.length
  · refine bs_t (by simp [hs.len, hlt]) ?_
    obtain ⟨bc, oc, tc, hca, hcc, htc⟩ := hs0.at hlt
    have hcc1 := gr.keep.cell hcc
    simp only [vm, mm, cell_of f1, hs.len, hca, hcc1, W_succ (n := i) (by omega)]
    refine ⟨by omega, fun b2 hb2 => gr.app (by simp; omega) htc hb2 fun o' h2 gr2 => hn hlt _ _ ⟨o', rfl, ?_⟩⟩
    rw [List.take_succ_eq_append_getElem hlt]; exact gr2
  have : i = cls.length := by omega
  subst this
  rw [List.take_length] at gr
  refine bs_f (by simp [hs.len]) ?_
  clear hn next
  refine loop_up p.length (fun i vs h' => ∃ o, vs = [t.v, Sl.v o, I i] ∧ GrownSS h0 h' o (cls ++ p.take i) ∧ gapP cls p = (gapP (cls ++ p.take i) (p.drop i)).map (· + i)) ⟨o, rfl, by simpa using gr, by simp⟩ ?_
  clear gr f1 h1 o
  rintro i _ h1 next hi ⟨o, rfl, gr, hg⟩ hn
  refine ⟨_, _, _, rfl, ?_⟩
  by_cases hlt : i < p.length
  · refine bs_t (by simp [hp.len, hlt]) ?_
    obtain ⟨bc, oc, tc, hca, hcc, htc⟩ := hp0.at hlt
    have hcc1 := gr.keep.cell hcc
    obtain ⟨g1, g2⟩ := gapP_at hlt hg
    have hpi := hpc _ (List.getElem_mem hlt)
    simp only [vm, mm, hp.len, hca, hcc1, W_succ (n := i) (by omega)]
    refine ⟨by omega, l11Follows_spec (v := v) (gr.ints (by simp; omega)) (htc.mono gr.keep) (by omega) (by omega) (wfC_app hwc (wfC_take hwp i)) (hwp _ (List.getElem_mem hlt)) (by have := ClauseOk.len hpi; omega) ⟨_, rfl, ?_⟩⟩
    refine bsplit_of (fun e => ?_) (fun e => ?_)
    · have e' : unitsP (cls ++ p.take i) (p[i].map (- ·)) ≠ none := by simpa using e
      rw [gapI, g2 e'] at k
      exact ⟨_, Hp.le_trans l0 gr.keep, k⟩
    · have e' : unitsP (cls ++ p.take i) (p[i].map (- ·)) = none := by simpa using e
      refine ⟨by omega, ?_⟩
      simp only [vm, mm, hcc1]
      refine fun b2 hb2 => gr.app (by simp; omega) htc hb2 fun o' h2 gr2 => hn hlt _ _ ⟨o', rfl, ?_, g1 e'⟩
      rw [List.take_succ_eq_append_getElem hlt, ← List.append_assoc]; exact gr2
  · have : i = p.length := by omega
    subst this
    refine bs_f (by simp [hp.len]) ?_
    rw [List.drop_length] at hg
    simp only [gapP, Option.map_none] at hg
    rw [gapI, hg] at k
    exact ⟨_, Hp.le_trans l0 gr.keep, k⟩

theorem Clone_ints_spec {h : Hp} {s : Sl} {xss : List (List Int)} {R : Value → Hp → Prop} (hs : IntSS h s xss) (hl : xss.length ≤ 1048576)
    (k : ∀ t h', GrownSS h h' t xss → R (Sl.v t) h') : c_slices_Clone_SSint_Sint #[s.v] h R := by
  apply R_slices_Clone_SSint_Sint
  unfold F_slices_Clone_SSint_Sint
  have hn := hs.len
  obtain ⟨ts, h1, h2, h3⟩ := hs
  have hone : (ts.map Sl.v).all (·.oneCell') = true := by
    rw [List.all_eq_true]; intro v hv
    obtain ⟨x, _, rfl⟩ := List.mem_map.1 hv
    rfl
  refine bsplit_of (fun e => ?_) (fun e => ?_)
  · have : s.n = 0 := by
      rcases h2.2.2 with h0 | ⟨b, o, ha, _⟩
      · exact h0
      · rw [ha] at e; cases e
    have hx : xss = [] := List.eq_nil_of_length_eq_zero (by omega)
    subst hx
    exact k ⟨none, 0, 0⟩ h (GrownSS.start _)
  · intro b hb
    refine setH_of fun hh e1 => ?_
    have l1 : h.le hh := e1 ▸ le_row _ _ hb
    have hoff : h.le (hh.offS ⟨some ⟨b, 0, none⟩, 0, 0⟩) := by
      simp only [Hp.offS]
      rw [e1, off_row, off_none hb]; exact Hp.le_refl _
    have hbuf : Buf hh ⟨some ⟨b, 0, none⟩, 0, 0⟩ 1 [] := ⟨by simp, by simp, .inr ⟨b, rfl, by rw [e1, row_self]; rfl⟩⟩
    by_cases h0 : s.n = 0
    · have hx : xss = [] := List.eq_nil_of_length_eq_zero (by omega)
      subst hx
      exact .inl ⟨h0, by omega, k ⟨some ⟨b, 0, none⟩, 0, 0⟩ hh ⟨⟨[], hbuf, rfl, fun i h1 => by simp at h1⟩, hoff⟩⟩
    · obtain ⟨c, o, ha, hc⟩ := SlC.get (SlC.mono l1 h2) (by omega)
      refine aApp_buf hbuf (by omega) (by show (0 + s.n) * 24 ≤ _; omega) (by show 0 + s.n ≤ _; omega) ⟨c, o, ha, fun i v hv => hc i v hv⟩ h2.2.1 hone ?_
      intro s' h' hn' hb' hl' _
      exact k s' h' ⟨⟨ts, hb', h1, h3⟩, Hp.le_trans hoff hl'⟩

theorem gap_spec {h : Hp} {s t : Sl} {cls p : List (List Int)} {v : Int} {R : Value → Hp → Prop} (hs : IntSS h s cls) (hp : IntSS h t p) (hok : shapeB v cls p = true)
    (k : R (I (gapI cls p)) h) : c_impl_gap #[.agg #[I v, s.v], t.v] h R := by
  refine ACalls.drop (R_impl_gap ?_)
  unfold F_impl_gap
  obtain ⟨hcok, hpl, hpc⟩ := shapeB.iff.1 hok
  obtain ⟨hv, hx60, hcl⟩ := CnfOkB.iff.1 hcok
  have hwc : WfC v cls := fun l hl => ClauseOk.all (hcl l hl)
  have hwp : WfC v p := fun l hl => ClauseOk.all (hpc l hl)
  intro b hb
  have l0 := le_row [I v, s.v] 2 hb
  have f0 := row_self h b [I v, s.v] 2
  simp only [vm, mm]
  generalize hh0 : h.row b [I v, s.v] 2 = h0 at *
  have hp0 := hp.mono l0
  refine Clone_ints_spec (hs.mono l0) (by omega) fun o h1 gr => ⟨_, rfl, ?_⟩
  refine loop_up p.length (fun i vs h' => ∃ o, vs = [.pointer (some ⟨b, 0, none⟩), Sl.v o, t.v, I p.length, I i] ∧ GrownSS h0 h' o (cls ++ p.take i) ∧ gapP cls p = (gapP (cls ++ p.take i) (p.drop i)).map (· + i)) ⟨o, by rw [hp.len]; rfl, by simpa using gr, by simp⟩ ?_
  clear gr h1 o
  rintro i _ h1 next hi ⟨o, rfl, gr, hg⟩ hn
  refine ⟨_, _, _, _, _, _, rfl, ?_⟩
  have f1 := gr.keep _ _ f0
  by_cases hlt : i < p.length
  · refine bs_t (by simp [hlt]) ?_
    obtain ⟨bc, oc, tc, hca, hcc, htc⟩ := hp0.at hlt
    have hcc1 := gr.keep.cell hcc
    obtain ⟨g1, g2⟩ := gapP_at hlt hg
    have hpi := hpc _ (List.getElem_mem hlt)
    have hwi := hwp _ (List.getElem_mem hlt)
    have hpil := ClauseOk.len hpi
    simp only [vm, mm, hp.len, hca, hcc1, cell_of f1, W_succ (n := i) (by omega)]
    refine ⟨by omega, opposites_spec (htc.mono gr.keep) (fun x hx => by have := hwi x hx; omega) (by omega) fun u h2 hg2 => ⟨_, rfl, ?_⟩⟩
    have f2 := hg2.keep _ _ f1
    refine ⟨f2.trans f1.symm, ?_⟩
    have gr2 := gr.up hg2.keep
    refine impl_units_spec (v := v) (gr2.ints (by simp; omega)) (hg2.buf.ints (by simp; omega)) (by omega) (by omega) (fun l hl x hx => wfC_app hwc (wfC_take hwp i) l hl x hx) (fun x hx => wfL_neg hwi x hx) (fun hno h3 l3 => ?_) (fun set hset hk rm h3 hg3 => ?_)
    · refine ⟨none, _, rfl, bs_f rfl ?_⟩
      refine fun b2 hb2 => (gr2.up l3).app (by simp; omega) htc hb2 fun o' h4 gr4 => hn hlt _ _ ⟨o', rfl, ?_, g1 hno⟩
      rw [List.take_succ_eq_append_getElem hlt, ← List.append_assoc]; exact gr4
    · refine ⟨some rm, _, rfl, bs_t rfl ?_⟩
      rw [gapI, g2 (by rw [hset]; simp)] at k
      exact ⟨_, Hp.le_trans l0 (Hp.le_trans gr2.keep hg3.le), k⟩
  · have : i = p.length := by omega
    subst this
    refine bs_f (by simp) ?_
    rw [List.drop_length] at hg
    simp only [gapP, Option.map_none] at hg
    rw [gapI, hg] at k
    exact ⟨_, Hp.le_trans l0 gr.keep, k⟩

/-- What both sides say of a proof. -/
def proofGapAt (v : Int) (cls p : List (List Int)) : Int := if shapeB v cls p then gapI cls p else -1
def proofCode (v : Int) (cls p : List (List Int)) : Int :=
  if shapeB v cls p then (if gapI cls p ≥ 0 then 2 else (if p.getLast? = some [] then 0 else 3)) else 1

theorem impl_ProofGapAt_spec {h : Hp} {s t : Sl} {cls p : List (List Int)} {v : Int} {R : Value → Hp → Prop} (hs : IntSS h s cls) (hp : IntSS h t p)
    (k : R (I (proofGapAt v cls p)) h) : c_impl_ProofGapAt #[.agg #[I v, s.v], t.v] h R := by
  refine ACalls.drop (R_impl_ProofGapAt ?_)
  unfold F_impl_ProofGapAt
  intro b hb
  have l0 := le_row [I v, s.v] 2 hb
  simp only [vm, mm]
  refine proofOk_spec (hs.mono l0) (hp.mono l0) ⟨_, rfl, bsplit_of (fun e => ?_) (fun e => ?_)⟩
  · rw [proofGapAt, if_neg (by rw [Bool.not_eq_true]; simpa using e)] at k
    exact ⟨_, l0, k⟩
  · have e' : shapeB v cls p = true := by simpa using e
    rw [proofGapAt, if_pos e'] at k
    simp only [vm, mm]
    exact gap_spec (hs.mono l0) (hp.mono l0) e' ⟨_, rfl, _, l0, k⟩

theorem lastCells {h : Hp} {t : Sl} {p : List (List Int)} (hp : IntSS h t p) (hn : p.length ≠ 0) : ∃ b o u, t.a = some (Addr.mk b o none) ∧ Hp.cell h b (o + (p.length - 1)) = some (Sl.v u) ∧ (u.n = 0 ↔ p.getLast? = some []) := by
  obtain ⟨b, o, u, ha, hc, hu⟩ := hp.at (i := p.length - 1) (by omega)
  refine ⟨b, o, u, ha, hc, ?_⟩
  rw [List.getLast?_eq_getElem?, List.getElem?_eq_getElem (by omega), hu.len, List.length_eq_zero_iff]
  simp

theorem spec_ProofCode_spec {h : Hp} {s t : Sl} {cls p : List (List Int)} {v : Int} {R : Value → Hp → Prop} (hs : IntSS h s cls) (hp : IntSS h t p)
    (k : R (I (proofCode v cls p)) h) : c_spec_ProofCode #[.agg #[I v, s.v], t.v] h R := by
  refine ACalls.drop (R_spec_ProofCode ?_)
  unfold F_spec_ProofCode
  intro b hb
  have l0 := le_row [I v, s.v] 2 hb
  have hpn := hp.len
  simp only [vm, mm]
  refine l11Shape_spec (hs.mono l0) (hp.mono l0) ⟨_, rfl, bsplit_of (fun e => ?_) (fun e => ?_)⟩
  · rw [proofCode, if_neg (by rw [Bool.not_eq_true]; simpa using e)] at k
    exact ⟨_, l0, k⟩
  have e' : shapeB v cls p = true := by simpa using e
  have hpl := (shapeB.iff.1 e').2.1
  rw [proofCode, if_pos e'] at k
  simp only [vm, mm]
  refine l11Gap_spec (hs.mono l0) (hp.mono l0) e' ⟨_, rfl, bsplit_of (fun e2 => ?_) (fun e2 => ?_)⟩
  · rw [if_pos (by simpa using e2)] at k; exact ⟨_, l0, k⟩
  rw [if_neg (by simpa using e2)] at k
  refine bsplit_of (fun e3 => ?_) (fun e3 => ?_)
  · have : p = [] := List.eq_nil_of_length_eq_zero (by simp [hpn] at e3; simpa using e3)
    subst this
    exact ⟨_, l0, by simpa using k⟩
  have hne : p.length ≠ 0 := by simp [hpn] at e3; simpa using e3
  obtain ⟨b2, o2, u, ha, hc, hu⟩ := lastCells (hp.mono l0) hne
  have w : W ((p.length : Int) - 1) = ((p.length - 1 : Nat) : Int) := by rw [W_id (by omega) (by omega)]; omega
  simp only [vm, mm, w, ha, hc, hpn]
  refine ⟨by omega, bsplit_of (fun e4 => ?_) (fun e4 => ?_)⟩
  · rw [if_neg (fun hh => by rw [← hu] at hh; simp [hh] at e4)] at k
    exact ⟨_, l0, k⟩
  · rw [if_pos (hu.1 (by simp at e4; omega))] at k
    exact ⟨_, l0, k⟩
theorem impl_ProofCode_spec {h : Hp} {s t : Sl} {cls p : List (List Int)} {v : Int} {R : Value → Hp → Prop} (hs : IntSS h s cls) (hp : IntSS h t p)
    (k : R (I (proofCode v cls p)) h) : c_impl_ProofCode #[.agg #[I v, s.v], t.v] h R := by
  refine ACalls.drop (R_impl_ProofCode ?_)
  unfold F_impl_ProofCode
  intro b hb
  have l0 := le_row [I v, s.v] 2 hb
  have hpn := hp.len
  simp only [vm, mm]
  refine proofOk_spec (hs.mono l0) (hp.mono l0) ⟨_, rfl, bsplit_of (fun e => ?_) (fun e => ?_)⟩
  · rw [proofCode, if_neg (by rw [Bool.not_eq_true]; simpa using e)] at k
    exact ⟨_, l0, k⟩
  have e' : shapeB v cls p = true := by simpa using e
  have hpl := (shapeB.iff.1 e').2.1
  rw [proofCode, if_pos e'] at k
  simp only [vm, mm]
  refine gap_spec (hs.mono l0) (hp.mono l0) e' ⟨_, rfl, bsplit_of (fun e2 => ?_) (fun e2 => ?_)⟩
  · rw [if_pos (by simpa using e2)] at k; exact ⟨_, l0, k⟩
  rw [if_neg (by simpa using e2)] at k
  refine bsplit_of (fun e3 => ?_) (fun e3 => ?_)
  · have : p = [] := List.eq_nil_of_length_eq_zero (by simp [hpn] at e3; simpa using e3)
    subst this
    exact ⟨_, l0, by simpa using k⟩
  have hne : p.length ≠ 0 := by simp [hpn] at e3; simpa using e3
  obtain ⟨b2, o2, u, ha, hc, hu⟩ := lastCells (hp.mono l0) hne
  have w : W ((p.length : Int) - 1) = ((p.length - 1 : Nat) : Int) := by rw [W_id (by omega) (by omega)]; omega
  simp only [vm, mm, w, ha, hc, hpn]
  refine ⟨by omega, bsplit_of (fun e4 => ?_) (fun e4 => ?_)⟩
  · rw [if_neg (fun hh => by rw [← hu] at hh; simp [hh] at e4)] at k
    exact ⟨_, l0, k⟩
  · rw [if_pos (hu.1 (by simp at e4; omega))] at k
    exact ⟨_, l0, k⟩

end Go.Lead
