/- What both sides' ProofOf computes, and the walk of its law. -/
import Derived.Test.YthgleoodmgophaaQ3
namespace Go.Lead
open Go
set_option linter.unusedSimpArgs false
set_option linter.unusedVariables false

/-- Lists of which no two share a row. -/
def Dis (ts : List Sl) : Prop := ∀ (i j : Nat) (hi : i < ts.length) (hj : j < ts.length), i ≠ j → ∀ b ∈ ts[i].used, b ∉ ts[j].used

theorem cloneClauses_spec {h : Hp} {s : Sl} {xss : List (List Int)} {R : Value → Hp → Prop} (hs : IntSS h s xss) (hl : xss.length ≤ 1048576) (hll : ∀ l ∈ xss, l.length ≤ 1048576)
    (k : ∀ t ts h', h.le h' → OwnSS (h'.sub h) t ts xss → Dis ts → t.n ≤ t.c → R (Sl.v t) h') : c_impl_cloneClauses #[s.v] h R := by
  apply R_impl_cloneClauses
  unfold F_impl_cloneClauses
  refine loop_up xss.length (fun i vs h' => ∃ o ts g, vs = [Sl.v o, s.v, I xss.length, I i] ∧ Buf h' o 1 (ts.map Sl.v) ∧ ts.length = i ∧ (∀ (j : Nat) (h1 : j < ts.length) (h2 : j < xss.length), Own g ts[j] 1 (xss[j].map I)) ∧ Dis ts ∧
      (∀ c x, g c = some x → h c = none) ∧ g.le (h'.offS o) ∧ h.le (h'.offS o))
    ⟨⟨none, 0, 0⟩, [], fun _ => none, by rw [hs.len]; rfl, buf_nil _ _, rfl, (fun j h1 => by simp at h1), (fun i j hi => by simp at hi), (fun c x hc => by cases hc), (fun c x hc => by cases hc), Hp.le_refl _⟩ ?_
  rintro i _ h1 next hi ⟨o, ts, g, rfl, hb, htl, hin, hdis, hgn, hgl, hle⟩ hn
  refine ⟨_, _, _, _, rfl, ?_⟩
  have l01 : h.le h1 := Hp.le_trans hle (offS_le _ _)
  have hon : o.n = ts.length := by have := hb.1; simp at this; omega
  have lg1 : g.le h1 := Hp.le_trans hgl (offS_le _ _)
  have usedg : ∀ j (hj : j < ts.length), ∀ b ∈ ts[j].used, ∃ x, g b = some x := by
    intro j hj b hb
    have := (hin j hj (by omega)).used b hb
    cases hx : g b with
    | none => exact absurd hx this
    | some x => exact ⟨x, rfl⟩
  by_cases hlt : i < xss.length
  · obtain ⟨bc, oc, tc, hca, hcc, htc⟩ := (hs.mono l01).at hlt
    refine bs_t (by simp [hlt]) ?_
    simp only [vm, mm, hs.len, hca, hcc, W_succ (n := i) (by omega)]
    have hxl := hll _ (List.getElem_mem hlt)
    refine ⟨by omega, cloneInts_spec htc hxl fun t h2 l2 ht => ⟨_, rfl, ?_⟩⟩
    intro b3 hb3
    have tfr := ht.fresh
    have oblk : ∀ a, o.a = some a → ∃ x, h1 a.block = some x := fun a ha => by
      rcases hb.2.2 with ⟨h0, _⟩ | ⟨c, hc, hcb⟩
      · rw [h0] at ha; cases ha
      · rw [hc] at ha; cases ha; exact ⟨_, hcb⟩
    have tblk : ∀ c ∈ t.blk, h1 c = none := blk_iff.2 tfr
    have lg2 : g.le h2 := Hp.le_trans lg1 l2
    have lp : (g.plus h2 t).le (h2.offS o) := plus_of (Hp.le_trans hgl (offS_mono o l2)) fun c x hc hcx => offS_of hcx fun a ha hac => by
      obtain ⟨y, hy⟩ := oblk a ha
      rw [hac, tblk c hc] at hy; cases hy
    have l3 := le_row [t.v] 1 hb3
    have htn := ht.1
    simp at htn
    have hown : Own (g.plus h2 t) t 1 (xss[i].map I) := Buf.own (plus_ibuf (xs := xss[i]) (ht.mono (sub_le _ _))) (by omega)
    refine aApp_buf ((hb.mono l2).mono l3) (by omega) (by omega) (by omega) ⟨b3, 0, rfl, fun i v hi => ?_⟩ (news := [t.v]) rfl rfl ?_
    · cases i with
      | zero => simp at hi; subst hi; exact cell_row _ _ _ _ _
      | succ i => simp at hi
    intro o' h4 hn' hb4 hl4 _
    have hl4' : (h2.offS o).le (h4.offS o') := Hp.le_trans (offS_mono o l3) hl4
    refine hn hlt _ _ ⟨o', ts ++ [t], g.plus h2 t, rfl, by rw [List.map_append]; exact hb4, by simp [htl], ?_, ?_, ?_, Hp.le_trans lp hl4', Hp.le_trans hle (Hp.le_trans (offS_mono o l2) hl4')⟩
    · intro j j1 j2
      by_cases hj : j < ts.length
      · rw [List.getElem_append_left hj]; exact (hin j hj j2).mono (plus_le lg2)
      · have : j = ts.length := by simp at j1; omega
        subst this
        simp only [List.getElem_append_right (Nat.le_refl _), Nat.sub_self, List.getElem_cons_zero]
        subst htl
        exact hown
    · have key : ∀ j (hj : j < ts.length), ∀ b ∈ ts[j].used, b ∉ t.used := by
        intro j hj b hbu hbt
        obtain ⟨x, hx⟩ := usedg j hj b hbu
        have hbk : b ∈ t.blk := by unfold Sl.used at hbt; split at hbt <;> simp_all
        have := lg1 _ _ hx
        rw [tblk b hbk] at this; cases this
      intro p q hp hq hpq b hbp
      simp only [List.length_append, List.length_cons, List.length_nil] at hp hq
      by_cases hp' : p < ts.length
      · rw [List.getElem_append_left hp'] at hbp
        by_cases hq' : q < ts.length
        · rw [List.getElem_append_left hq']; exact hdis p q hp' hq' hpq b hbp
        · have : q = ts.length := by omega
          subst this
          simp only [List.getElem_append_right (Nat.le_refl _), Nat.sub_self, List.getElem_cons_zero]
          exact key p hp' b hbp
      · have : p = ts.length := by omega
        subst this
        simp only [List.getElem_append_right (Nat.le_refl _), Nat.sub_self, List.getElem_cons_zero] at hbp
        have hq' : q < ts.length := by omega
        rw [List.getElem_append_left hq']
        exact fun hbq => key q hq' b hbq hbp
    · intro c x hc
      unfold Hp.plus at hc
      split at hc
      · exact none_of_le l01 (tblk c (by assumption))
      · exact hgn c x hc
  · have : i = xss.length := by omega
    subst this
    refine bs_f (by simp) (k o ts h1 l01 ⟨by omega, ?_, fun j j1 j2 => (hin j j1 j2).mono fun c x hc => by rw [sub_at (hgn c x hc)]; exact lg1 _ _ hc⟩ hdis hb.2.1)
    have hbuf : Buf ((h1.sub h).wo (ts.flatMap Sl.used)) o 1 (ts.map Sl.v) := by
      refine ⟨hb.1, hb.2.1, hb.2.2.imp id ?_⟩
      rintro ⟨c, hc, hcb⟩
      refine ⟨c, hc, ?_⟩
      rw [wo_at, sub_at]
      · exact hcb
      · cases hx : h c with
        | none => rfl
        | some x => exact absurd rfl ((offS_some (hle _ _ hx)).2 _ hc)
      · intro hm
        obtain ⟨u, hu, hbu⟩ := List.mem_flatMap.1 hm
        obtain ⟨j, hj, rfl⟩ := List.getElem_of_mem hu
        obtain ⟨x, hx⟩ := usedg j hj c hbu
        exact absurd rfl ((offS_some (hgl _ _ hx)).2 _ hc)
    exact hbuf.slc (by omega)

/-- What both sides' ProofOf comes to. -/
def proofOf (v : Int) (cls : List (List Int)) : List (List Int) × Bool :=
  if (CnfOkB v cls && decide (leastI (AllB cls) (2 ^ v.toNat) < 0)) && decide ((treeP cls v.toNat [] []).length ≤ 300) then (treeP cls v.toNat [] [], true) else ([], false)
theorem proofOf_len (v : Int) (cls : List (List Int)) : (proofOf v cls).1.length ≤ 300 ∧ ∀ l ∈ (proofOf v cls).1, l.length ≤ 10 := by
  unfold proofOf
  split
  · rename_i h
    simp only [Bool.and_eq_true, decide_eq_true_eq] at h
    obtain ⟨hv, _⟩ := CnfOkB.iff.1 h.1.1
    refine ⟨h.2, fun l hl => ?_⟩
    have := treeP_lens (cls := cls) (v := v.toNat) v.toNat [] [] (by simp) (by simp) l hl
    omega
  · exact ⟨by simp, by simp⟩
theorem ints_nil (h : Hp) : IntS h ⟨none, 0, 0⟩ [] := ⟨by simp, by simp, .inl rfl⟩
theorem begins_nil : Begins [] := fun i h => by simp at h
/-- A list of lists that is new, and one's own. -/
def NewSS (h h' : Hp) (t : Sl) (res : List (List Int)) : Prop := ∃ g', GrownSS g' h' t res ∧ (∀ c x, g' c = some x → h c = none) ∧ h.le (h'.offS t)
theorem NewSS.intss {h h' : Hp} {t : Sl} {res : List (List Int)} (e : NewSS h h' t res) (hl : res.length ≤ 1048576) : IntSS (h'.sub h) t res := by
  obtain ⟨g', e, hg, lf⟩ := e
  have hn := e.len
  obtain ⟨ts, hb, h1, h2⟩ := e.buf
  have hb' : Buf (h'.sub h) t 1 (ts.map Sl.v) := by
    refine ⟨hb.1, hb.2.1, hb.2.2.imp id ?_⟩
    rintro ⟨c, hc, hcb⟩
    refine ⟨c, hc, ?_⟩
    rw [sub_at]
    · exact hcb
    · cases hx : h c with
      | none => rfl
      | some x => exact absurd rfl ((offS_some (lf _ _ hx)).2 _ hc)
  refine ⟨ts, h1, hb'.slc (by omega), fun i a b => (h2 i a b).mono fun c x hc => ?_⟩
  rw [sub_at (hg c x hc)]; exact e.keep _ _ hc
theorem newSS_nil {h h' : Hp} (l : h.le h') : NewSS h h' ⟨none, 0, 0⟩ [] := ⟨fun _ => none, ⟨⟨[], buf_nil _ _, rfl, fun i h1 => by simp at h1⟩, fun c x hc => by cases hc⟩, fun c x hc => (by cases hc), l⟩
theorem told_new {h0 h h' : Hp} {o' : Sl} {res : List (List Int)} {g' : Hp} (e : GrownSS g' h' o' res) (hgc : ∀ c x, g' c = some x → (none : Option Blk) = some x ∨ h0 c = none) (lf : h0.le (h'.offS o')) (l : h.le h0) :
    NewSS h h' o' res := by
  refine ⟨g', e, fun c x hc => ?_, Hp.le_trans l lf⟩
  rcases hgc c x hc with h3 | h3
  · cases h3
  · exact none_of_le l h3

theorem spec_ProofOf_own {h : Hp} {s : Sl} {cls : List (List Int)} {v : Int} {R : Value → Hp → Prop} (hs : IntSS h s cls)
    (k : ∀ t h', h.le h' → NewSS h h' t (proofOf v cls).1 → R (.tuple #[Sl.v t, .bool (proofOf v cls).2]) h') : c_spec_ProofOf #[.agg #[I v, s.v]] h R := by
  apply R_spec_ProofOf
  unfold F_spec_ProofOf
  intro b hb
  have l0 := le_row [I v, s.v] 2 hb
  have f0 := row_self h b [I v, s.v] 2
  simp only [vm, mm]
  generalize hh0 : h.row b [I v, s.v] 2 = h0 at *
  have hs0 := hs.mono l0
  refine joinP_of (fun J => ∀ h', h0.le h' → J (!(CnfOkB v cls && decide (leastI (AllB cls) (2 ^ v.toNat) < 0))) h') ?_ ?_
  rotate_left
  · intro J hJ
    refine spec_CnfOk_spec hs0 ⟨_, rfl, bsplit_of (fun e => ?_) (fun e => ?_)⟩
    · have e' : CnfOkB v cls = false := by simpa using e
      have := hJ h0 (Hp.le_refl _)
      rw [e'] at this
      first | exact this | exact ⟨rfl, this⟩
    · have e' : CnfOkB v cls = true := by simpa using e
      obtain ⟨hv, hx, hcl⟩ := CnfOkB.iff.1 e'
      obtain ⟨m, rfl⟩ : ∃ m : Nat, v = m := ⟨v.toNat, by omega⟩
      rw [e', Bool.true_and] at hJ
      simp only [vm, mm, cell_of f0]
      refine l10Every_spec hs0 (by omega) fun t h1 l1 ht => ⟨_, rfl, (l1 _ _ f0).trans f0.symm, ?_⟩
      refine l10Least_spec (hs0.mono l1) (ht.mono (sub_le _ _)) (by simp) (by omega) hcl ⟨_, rfl, ?_⟩
      have he : AllW cls (List.replicate cls.length true) = AllB cls := funext fun c => allW_true cls c
      rw [he]
      have : decide (leastI (AllB cls) (2 ^ m) ≥ 0) = !decide (leastI (AllB cls) (2 ^ m) < 0) := by rw [Bool.eq_iff_iff]; simp
      rw [this]
      exact hJ h1 l1
  intro h1 l1
  have l01 := Hp.le_trans l0 l1
  refine bsplit_of (fun e => ?_) (fun e => ?_)
  · have e' : (CnfOkB v cls && decide (leastI (AllB cls) (2 ^ v.toNat) < 0)) = false := by rw [← Bool.not_eq_true']; exact e
    rw [proofOf, e', Bool.false_and, if_neg (by simp)] at k
    exact k ⟨none, 0, 0⟩ h1 l01 (newSS_nil l01)
  have e' : (CnfOkB v cls && decide (leastI (AllB cls) (2 ^ v.toNat) < 0)) = true := by simpa using e
  rw [proofOf, e', Bool.true_and] at k
  obtain ⟨hok, hno⟩ := Bool.and_eq_true_iff.1 e'
  have hno' := leastI_neg.1 (of_decide_eq_true hno)
  obtain ⟨hv, hx, hcl⟩ := CnfOkB.iff.1 hok
  obtain ⟨m, rfl⟩ : ∃ m : Nat, v = m := ⟨v.toNat, by omega⟩
  simp only [Int.toNat_natCast] at hno' k
  simp only [vm, mm, cell_of (l1 _ _ f0)]
  have tl := treeP_len cls m [] []
  refine l11Tree_spec (v := m) (by omega) (CnfOkB.wf hok) hx hno' m [] [] h1 (fun _ => none) s ⟨none, 0, 0⟩ ⟨none, 0, 0⟩ _ begins_nil (by simp) (hs0.mono l1) (ints_nil _) ⟨⟨[], buf_nil _ _, rfl, fun i h1 => by simp at h1⟩, fun c x hc => by cases hc⟩ (by simp) ?_
  intro o' h2 g2 e2 _ hgc lf
  have hn := e2.len
  have l12 : h1.le h2 := Hp.le_trans lf (offS_le _ _)
  have l02 := Hp.le_trans l01 l12
  refine ⟨o', rfl, bsplit_of (fun h3 => ?_) (fun h3 => ?_)⟩
  · have : ¬ (treeP cls m [] []).length ≤ 300 := by simp [hn] at h3; omega
    rw [if_neg (by simpa using this)] at k
    exact k ⟨none, 0, 0⟩ h2 l02 (newSS_nil l02)
  · have : (treeP cls m [] []).length ≤ 300 := by simp [hn] at h3; omega
    rw [if_pos (by simpa using this)] at k
    exact k o' h2 l02 (told_new e2 hgc lf l01)

theorem spec_ProofOf_spec {h : Hp} {s : Sl} {cls : List (List Int)} {v : Int} {R : Value → Hp → Prop} (hs : IntSS h s cls)
    (k : ∀ t h', h.le h' → IntSS (h'.sub h) t (proofOf v cls).1 → R (.tuple #[Sl.v t, .bool (proofOf v cls).2]) h') : c_spec_ProofOf #[.agg #[I v, s.v]] h R := by
  have hl := (proofOf_len v cls).1
  exact spec_ProofOf_own hs fun t h' l e => k t h' l (e.intss (by omega))

theorem impl_ProofOf_spec {h : Hp} {s : Sl} {cls : List (List Int)} {v : Int} {R : Value → Hp → Prop} (hs : IntSS h s cls)
    (k : ∀ t ts h', h.le h' → OwnSS (h'.sub h) t ts (proofOf v cls).1 → Dis ts → t.n ≤ t.c → R (.tuple #[Sl.v t, .bool (proofOf v cls).2]) h') : c_impl_ProofOf #[.agg #[I v, s.v]] h R := by
  apply R_impl_ProofOf
  unfold F_impl_ProofOf
  intro b hb
  have l0 := le_row [I v, s.v] 2 hb
  have f0 := row_self h b [I v, s.v] 2
  simp only [vm, mm]
  generalize hh0 : h.row b [I v, s.v] 2 = h0 at *
  have hs0 := hs.mono l0
  have own0 : ∀ h' : Hp, OwnSS h' ⟨none, 0, 0⟩ [] [] := fun h' => ⟨rfl, ⟨by simp, by simp, .inl rfl⟩, fun i h1 => by simp at h1⟩
  have dis0 : Dis [] := fun i j hi => by simp at hi
  refine joinP_of (fun J => J (!(CnfOkB v cls && decide (leastI (AllB cls) (2 ^ v.toNat) < 0))) h0) ?_ ?_
  rotate_left
  · intro J hJ
    refine impl_CnfOk_spec hs0 ⟨_, rfl, bsplit_of (fun e => ?_) (fun e => ?_)⟩
    · have e' : CnfOkB v cls = false := by simpa using e
      rwa [e'] at hJ
    · have e' : CnfOkB v cls = true := by simpa using e
      obtain ⟨hv, hx, hcl⟩ := CnfOkB.iff.1 e'
      obtain ⟨m, rfl⟩ : ∃ m : Nat, v = m := ⟨v.toNat, by omega⟩
      rw [e', Bool.true_and] at hJ
      simp only [vm, mm, cell_of f0]
      refine least_spec hs0 (by omega) hcl ⟨_, rfl, ?_⟩
      have : decide (leastI (AllB cls) (2 ^ m) ≥ 0) = !decide (leastI (AllB cls) (2 ^ m) < 0) := by rw [Bool.eq_iff_iff]; simp
      rw [this]; exact hJ
  refine bsplit_of (fun e => ?_) (fun e => ?_)
  · have e' : (CnfOkB v cls && decide (leastI (AllB cls) (2 ^ v.toNat) < 0)) = false := by rw [← Bool.not_eq_true']; exact e
    rw [proofOf, e', Bool.false_and, if_neg (by simp)] at k
    exact k ⟨none, 0, 0⟩ [] h0 l0 (own0 _) dis0 (Nat.le_refl _)
  have e' : (CnfOkB v cls && decide (leastI (AllB cls) (2 ^ v.toNat) < 0)) = true := by simpa using e
  have hpl := proofOf_len v cls
  rw [proofOf, e', Bool.true_and] at k hpl
  obtain ⟨hok, hno⟩ := Bool.and_eq_true_iff.1 e'
  have hno' := leastI_neg.1 (of_decide_eq_true hno)
  obtain ⟨hv, hx, hcl⟩ := CnfOkB.iff.1 hok
  obtain ⟨m, rfl⟩ : ∃ m : Nat, v = m := ⟨v.toNat, by omega⟩
  simp only [Int.toNat_natCast] at hno' k hpl
  simp only [vm, mm, cell_of f0]
  have tl := treeP_len cls m [] []
  refine prove_spec (v := m) (by omega) (CnfOkB.wf hok) hx hno' m [] [] h0 (fun _ => none) s ⟨none, 0, 0⟩ ⟨none, 0, 0⟩ _ begins_nil (by simp) hs0 (ints_nil _) ⟨⟨[], buf_nil _ _, rfl, fun i h1 => by simp at h1⟩, fun c x hc => by cases hc⟩ (by simp) ?_
  intro o' h2 g2 e2 _ hgc lf
  have hn := e2.len
  have l12 : h0.le h2 := Hp.le_trans lf (offS_le _ _)
  have l02 := Hp.le_trans l0 l12
  refine ⟨o', rfl, bsplit_of (fun h3 => ?_) (fun h3 => ?_)⟩
  · have : ¬ (treeP cls m [] []).length ≤ 300 := by simp [hn] at h3; omega
    rw [if_neg (by simpa using this)] at k
    exact k ⟨none, 0, 0⟩ [] h2 l02 (own0 _) dis0 (Nat.le_refl _)
  · have : (treeP cls m [] []).length ≤ 300 := by simp [hn] at h3; omega
    rw [if_pos (by simpa using this)] at k hpl
    have hio : IntSS h2 o' (treeP cls m [] []) := ((told_new e2 hgc lf l0).intss (by omega)).mono (sub_le _ _)
    refine cloneClauses_spec hio (by omega) (fun l hl => by have := hpl.2 l hl; omega) fun t ts h3 l3 ot hd hcp => ⟨_, rfl, ?_⟩
    exact k t ts h3 (Hp.le_trans l02 l3) (ot.mono (sub_anti _ l02)) hd hcp

end Go.Lead
