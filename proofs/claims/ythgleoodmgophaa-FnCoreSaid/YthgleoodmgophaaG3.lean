/- What drawn sets of clauses are, and the walk of the law of cores. -/
import Derived.Test.YthgleoodmgophaaP5
namespace Go.Lead
open Go
set_option linter.unusedSimpArgs false
set_option linter.unusedVariables false

theorem ldInts_spec {h : Hp} {s t : Sl} {xs ys : List Int} {R : Value → Hp → Prop} (hs : IntS h s xs) (ht : IntS h t ys)
    (k : R (.bool (decide (xs = ys))) h) : c_laws_ldInts #[s.v, t.v] h R := by
  apply R_laws_ldInts
  unfold F_laws_ldInts
  have ls := hs.len
  have lt := ht.len
  by_cases hl : xs.length = ys.length
  · refine bs_f (by simp [ls, lt, hl]) ?_
    refine loop_up xs.length (fun i vs h' => vs = [s.v, t.v, I i] ∧ h' = h ∧ xs.take i = ys.take i) ⟨rfl, rfl, by simp⟩ ?_
    rintro i _ _ next hi ⟨rfl, rfl, hp⟩ hn
    refine ⟨_, _, _, rfl, ?_⟩
    by_cases hlt : i < xs.length
    · obtain ⟨b, o, ha, hc⟩ := hs.at hlt
      have hi' : i < ys.length := by omega
      obtain ⟨b', o', ha', hc'⟩ := ht.at hi'
      have hb := hs.bound
      refine bs_t (by simp [ls, hlt]) ?_
      simp only [vm, ls, lt, ha, ha', hc, hc', W_succ (n := i) (by omega)]
      refine ⟨by omega, by omega, bsplit_of (fun he => ?_) (fun he => ?_)⟩
      · rwa [decide_eq_false (fun e => by subst e; simp at he)] at k
      · exact hn hlt _ _ ⟨rfl, rfl, take_step hlt hi' hp (by simpa using he)⟩
    · have : i = xs.length := by omega
      subst this
      refine bs_f (by simp [ls]) ?_
      rw [List.take_length, hl, List.take_length] at hp
      rwa [decide_eq_true hp] at k
  · refine bs_t (by simp [ls, lt]; omega) ?_
    rwa [decide_eq_false (fun e => hl (by rw [e]))] at k

theorem DrawSatCore_spec {h : Hp} {s : Sl} {bs : List Nat} {R : Value → Hp → Prop} (hcap : s.n ≤ s.c) (hs : ByteS h s bs)
    (k : ∀ v t cls h', Drawn v cls → h.le h' → IntSS (h'.sub h) t cls → R (.agg #[I v, Sl.v t]) h') : c_spec_DrawSatCore #[s.v] h R := by
  apply R_spec_DrawSatCore
  unfold F_spec_DrawSatCore
  intro b3 hb3
  have l3 := le_row [I 0, .slice none 0 0] 2 hb3
  simp only [vm, mm]
  refine l17Open_spec hcap (hs.mono l3) fun B s' bs' hB rd => ⟨_, rfl, ?_⟩
  rw [row_none] at hB
  refine cnf_spec rd (by omega) fun v t cls h' q hd hq hfr rd' hss => ⟨_, _, rfl, ?_⟩
  have lH : h.le ((h.row b3 [I 0, .slice none 0 0] 2).row B [s'.v, I (0 : Nat)] 2) := le_row_of _ _ hB.2 l3
  have f3 : ((h.row b3 [I 0, .slice none 0 0] 2).row B [s'.v, I (0 : Nat)] 2) b3 = some (.inl ⟨[I 0, .slice none 0 0], 2, false⟩) := by rw [row_ne _ _ hB.1.symm, row_self]
  have f3' : h' b3 = some (.inl ⟨[I 0, .slice none 0 0], 2, false⟩) := off_le _ _ _ _ (hfr _ _ (by rw [Hp.off, Hp.set_ne _ _ hB.1.symm]; exact f3))
  simp only [vm, mm, f3']
  have lh : h.le h' := Hp.le_trans (le_off (b := B) hB.2 lH) (Hp.le_trans hfr (off_le _ _))
  exact ⟨by omega, k v t cls _ hd (le_row_of _ _ hb3 lh) (hss.mono (keep_row _ _ (sub_none f3) (sub_anti _ lH)))⟩

theorem FnCore_spec {h : Hp} {s : Sl} {bs : List Nat} {R : Value → Hp → Prop} (hcap : s.n ≤ s.c) (hs : ByteS h s bs)
    (k : R (.bool true) h) : c_laws_FnCore #[s.v] h R := by
  refine ACalls.drop (R_laws_FnCore ?_)
  unfold F_laws_FnCore
  refine bsplit_of (fun e => ⟨_, Hp.le_refl _, k⟩) (fun _ => ?_)
  refine DrawSatCore_spec hcap hs fun v t cls h1 hd l1 hss => ⟨_, _, rfl, ?_⟩
  intro b2 hb2
  have l2 := le_row [I v, t.v] 2 hb2
  have f2 := row_self h1 b2 [I v, t.v] 2
  simp only [vm, mm]
  generalize hh2 : h1.row b2 [I v, t.v] 2 = h2 at *
  have hs2 : IntSS h2 t cls := (hss.mono (sub_le _ _)).mono l2
  refine ⟨by omega, impl_SatCore_spec hs2 fun g0 h3 l3 og => ⟨_, _, rfl, ?_⟩⟩
  have f3 := l3 _ _ f2
  simp only [vm, mm, cell_of f3]
  refine spec_SatCore_spec (hs2.mono l3) fun w0 h4 l4 ow => ⟨_, _, rfl, ?_⟩
  have f4 := l4 _ _ f3
  have og4 : IntS h4 g0 (satCore v cls).1 := IntS.mono l4 (og.mono (sub_le _ _)).slc
  have hs4 := hs2.mono (Hp.le_trans l3 l4)
  have l04 := Hp.le_trans l1 (Hp.le_trans l2 (Hp.le_trans l3 l4))
  refine joinP_of (fun J => J false h4) ?_ ?_
  rotate_left
  · intro J hJ
    refine bs_f (by simp) ?_
    refine ldInts_spec og4 (ow.mono (sub_le _ _)).slc ⟨_, rfl, ?_⟩
    simpa using hJ
  refine bs_f rfl ?_
  unfold satCore at og4 ⊢
  refine bsplit_of (fun e => ?_) (fun e => ?_)
  · -- no core
    have e' : (CnfOkB v cls && decide (leastI (AllB cls) (2 ^ v.toNat) < 0)) = false := by
      cases hx : (CnfOkB v cls && decide (leastI (AllB cls) (2 ^ v.toNat) < 0)) with
      | false => rfl
      | true => rw [hx] at e; simp at e
    simp only [vm, mm, cell_of f4]
    refine spec_SatLeast_spec hs4 ⟨_, _, rfl, bsplit_of (fun _ => ⟨_, l04, k⟩) (fun e2 => ?_)⟩
    simp only [vm, mm, cell_of f4]
    refine spec_CnfOk_spec hs4 ⟨_, rfl, _, l04, ?_⟩
    have hf : CnfOkB v cls = false := by
      cases hx : CnfOkB v cls with
      | false => rfl
      | true =>
        rw [hx, Bool.true_and] at e'
        have h1 := of_decide_eq_false e'
        have h2 := of_decide_eq_false e2
        unfold satLeast at h2
        rw [if_pos hx] at h2
        omega
    rw [hf]; exact k
  -- a core
  have e' : (CnfOkB v cls && decide (leastI (AllB cls) (2 ^ v.toNat) < 0)) = true := by
    cases hx : (CnfOkB v cls && decide (leastI (AllB cls) (2 ^ v.toNat) < 0)) with
    | true => rfl
    | false => rw [hx] at e; simp at e
  rw [if_pos e'] at og4
  obtain ⟨hok, hno⟩ := Bool.and_eq_true_iff.1 e'
  have hno' := of_decide_eq_true hno
  obtain ⟨hv, hx60, hcl⟩ := CnfOkB.iff.1 hok
  obtain ⟨m, rfl⟩ : ∃ m : Nat, v = m := ⟨v.toNat, by omega⟩
  simp only [Int.toNat_natCast] at og4 hno'
  have hbad := core_bad hno'
  have hneed := fun i => @core_need m cls i
  have hkl := keptP_len (badSel m cls) cls.length cls.length
  have hklt := keptP_lt (badSel m cls) cls.length cls.length
  generalize keptP (badSel m cls) cls.length cls.length = ks at *
  have hgn : g0.n = ks.length := by have := og4.len; simpa using this
  have hat : ∀ {h' : Hp}, h4.le h' → ∀ j (hj : j < ks.length), ∃ b o, g0.a = some (Addr.mk b o none) ∧ Hp.cell h' b (o + j) = some (I (ks[j] : Nat)) := by
    intro h' l j hj
    obtain ⟨b, o, ha, hc⟩ := (og4.mono l).at (i := j) (by simpa using hj)
    simp only [List.getElem_map] at hc
    exact ⟨b, o, ha, hc⟩
  refine loop_up (ks.length + 1) (fun i vs h' => vs = [.pointer (some ⟨b2, 0, none⟩), g0.v, I ((i : Int) - 1)] ∧ h4.le h') ⟨rfl, Hp.le_refl _⟩ ?_
  rintro i _ h5 next hi ⟨rfl, l5⟩ hn
  refine ⟨_, _, _, _, rfl, ?_⟩
  by_cases hlt : i < ks.length + 1
  rotate_left
  · exact bs_f (by simp [hgn]; omega) ⟨_, Hp.le_trans l04 l5, k⟩
  refine bs_t (by simp [hgn]; omega) ?_
  have f5 := l5 _ _ f4
  simp only [vm, mm, cell_of f5]
  intro b6 hb6
  refine ⟨by omega, ?_⟩
  have n62 : b2 ≠ b6 := fresh_ne hb6 f5
  refine loop_up ks.length (fun j vs h' => ∃ t', vs = [.pointer (some ⟨b2, 0, none⟩), g0.v, I ((i : Int) - 1), .pointer (some ⟨b6, 0, none⟩), I j] ∧ GrownD h5 h' b6 m t' (sel cls (butP ks ((i : Int) - 1) j)))
    ⟨⟨none, 0, 0⟩, rfl, GrownD.start hb6⟩ ?_
  rintro j _ h7 next2 hj ⟨t', rfl, gr⟩ hn2
  refine ⟨_, _, _, _, _, _, _, rfl, ?_⟩
  have l7 := gr.keep
  have f7 := l7 _ _ f5
  have r7 := gr.row
  have hbl := butP_len ks ((i : Int) - 1) j
  by_cases hjl : j < ks.length
  · refine bs_t (by simp [hgn, hjl]) ?_
    rw [W_succ (n := j) (by omega)]
    refine joinP_of (fun J => ∀ t' h', GrownD h5 h' b6 m t' (sel cls (butP ks ((i : Int) - 1) (j + 1))) → J h') (fun t' h' gr => hn2 hjl _ _ ⟨t', rfl, gr⟩) ?_
    intro J hJ
    rw [butP_succ] at hJ
    refine bsplit_of (fun e => ?_) (fun e => ?_)
    · have hne : (j : Int) ≠ (i : Int) - 1 := by simpa using e
      rw [if_pos hne] at hJ
      obtain ⟨b, o, ha, hc⟩ := hat (Hp.le_trans l5 l7) j hjl
      have hkj := hklt _ (List.getElem_mem hjl)
      obtain ⟨bc, oc, tc, hca, hcc, htc⟩ := (hs4.mono l5).at hkj
      have hcc7 := l7.cell hcc
      simp only [vm, mm, hgn, ha, hc, cell_of f7, cell_of r7, hs4.len, hca, hcc7]
      refine ⟨by omega, by omega, ?_⟩
      intro b8 hb8
      refine ⟨by rw [row_ne _ _ (fresh_ne hb8 r7)], ?_⟩
      refine gr.app (by simp [sel]; omega) htc hb8 fun t2 h8 f8 _ gr2 => ?_
      simp only [vm, mm, f8]
      refine ⟨by omega, hJ t2 _ ?_⟩
      have : sel cls (butP ks ((i : Int) - 1) j ++ [ks.getD j 0]) = sel cls (butP ks ((i : Int) - 1) j) ++ [cls[ks[j]]] := by
        unfold sel
        rw [List.map_append]
        simp [hjl, hkj]
      rw [this]; exact gr2
    · have hne : ¬ (j : Int) ≠ (i : Int) - 1 := by simpa using e
      rw [if_neg hne] at hJ
      exact hJ t' _ gr
  have : j = ks.length := by omega
  subst this
  refine bs_f (by simp [hgn]) ?_
  simp only [vm, mm, cell_of r7]
  have hokd : CnfOkB m (sel cls (butP ks ((i : Int) - 1) ks.length)) = true := sel_ok hok (fun x hx => hklt x (butP_mem (Nat.le_refl _) hx)) (by omega)
  refine impl_SatLeast_spec ((gr.intss (by simp [sel]; omega)).mono (off_le _ _)) ⟨_, _, rfl, ?_⟩
  have hsl : satLeast m (sel cls (butP ks ((i : Int) - 1) ks.length)) = leastI (AllB (sel cls (butP ks ((i : Int) - 1) ks.length))) (2 ^ m) := by
    unfold satLeast; rw [if_pos hokd, Int.toNat_natCast]
  rw [hsl]
  refine bs_f ?_ ?_
  · cases i with
    | zero =>
      simp only [Int.ofNat_zero, Int.zero_sub] at *
      rw [butP_all]
      simp; omega
    | succ i =>
      have := hneed i (by omega)
      have e1 : (((i + 1 : Nat) : Int) - 1) = (i : Nat) := by omega
      rw [e1]
      simp; omega
  · have w : W ((i : Int) - 1 + 1) = (((i + 1 : Nat) : Int) - 1) := by rw [W_id (by omega) (by omega)]; omega
    rw [w]
    exact hn hlt _ _ ⟨rfl, Hp.le_trans l5 l7⟩

end Go.Lead
