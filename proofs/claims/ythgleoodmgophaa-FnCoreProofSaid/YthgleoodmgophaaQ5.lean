/- The walks of the laws of proofs of cores, and of proofs with more ahead of them. -/
import Derived.Test.YthgleoodmgophaaP7
namespace Go.Lead
open Go
set_option linter.unusedSimpArgs false
set_option linter.unusedVariables false

theorem IntS.one {h : Hp} {b : Nat} {x : Int} {n : Nat} {ro : Bool} (e : h b = some (.inl ⟨[I x], n, ro⟩)) : IntS h ⟨some ⟨b, 0, none⟩, 1, 1⟩ [x] := ⟨by simp, by simp, .inr ⟨b, 0, rfl, cellsAre_of e⟩⟩

theorem GoodCnf_spec {h : Hp} {s : Sl} {bs : List Nat} {R : Value → Hp → Prop} (hcap : s.n ≤ s.c) (hs : ByteS h s bs)
    (k : ∀ v t cls h', CnfOkB v cls = true → h.le h' → IntSS h' t cls → R (.agg #[I v, Sl.v t]) h') : c_spec_GoodCnf #[s.v] h R := by
  apply R_spec_GoodCnf
  unfold F_spec_GoodCnf
  intro b3 hb3
  have l3 := le_row [I 0, .slice none 0 0] 2 hb3
  simp only [vm, mm]
  refine l17Open_spec hcap (hs.mono l3) fun B s' bs' hB rd => ⟨_, rfl, ?_⟩
  rw [row_none] at hB
  have f3 : ((h.row b3 [I 0, .slice none 0 0] 2).row B [s'.v, I (0 : Nat)] 2) b3 = some (.inl ⟨[I 0, .slice none 0 0], 2, false⟩) := by rw [row_ne _ _ hB.1.symm, row_self]
  have lH : h.le ((h.row b3 [I 0, .slice none 0 0] 2).row B [s'.v, I (0 : Nat)] 2) := le_row_of _ _ hB.2 l3
  refine cnf_spec rd (by omega) fun v t cls h1 q hd hq hfr rd1 hss => ⟨_, _, rfl, ?_⟩
  have f31 : h1 b3 = some (.inl ⟨[I 0, .slice none 0 0], 2, false⟩) := off_le _ _ _ _ (hfr _ _ (by rw [Hp.off, Hp.set_ne _ _ hB.1.symm]; exact f3))
  have lh1 : h.le h1 := Hp.le_trans (le_off (b := B) hB.2 lH) (Hp.le_trans hfr (off_le _ _))
  generalize hH2 : (h.row b3 [I 0, .slice none 0 0] 2).row B [s'.v, I (0 : Nat)] 2 = H2 at *
  intro b4 hb4
  have n34 := fresh_ne hb4 f31
  have l4 := le_row [I v, t.v] 2 hb4
  have f4 := row_self h1 b4 [I v, t.v] 2
  have f34 := l4 _ _ f31
  generalize hh2 : h1.row b4 [I v, t.v] 2 = h2 at *
  refine ⟨by omega, ?_⟩
  refine spec_CnfOk_spec ((hss.mono (sub_le _ _)).mono l4) ⟨_, rfl, bsplit_of (fun e => ?_) (fun e => ?_)⟩
  · intro b5 hb5
    rintro b6 ⟨n65, hb6⟩ b7 ⟨n76, n75, hb7⟩
    have n35 := fresh_ne hb5 f34
    have n36 := fresh_ne hb6 f34
    have n37 := fresh_ne hb7 f34
    have n56 := Ne.symm n65
    have n57 := Ne.symm n75
    have n67 := Ne.symm n76
    have n53 := n35.symm
    have n63 := n36.symm
    have n73 := n37.symm
    simp only [vm, mm, n35, n36, n37, n56, n57, n67, n65, n75, n76, f34, ne_eq, not_false_eq_true]
    refine ⟨by omega, ?_⟩
    refine k 1 ⟨some ⟨b7, 0, none⟩, 2, 2⟩ [[1], [-1]] _ (by decide) (le_row_of _ _ hb3 (le_row_of _ _ (none_of_le (Hp.le_trans lh1 l4) hb7) (le_row_of _ _ (none_of_le (Hp.le_trans lh1 l4) hb6) (le_row_of _ _ (none_of_le (Hp.le_trans lh1 l4) hb5) (Hp.le_trans lh1 l4))))) ?_
    refine ⟨[⟨some ⟨b5, 0, none⟩, 1, 1⟩, ⟨some ⟨b6, 0, none⟩, 1, 1⟩], rfl, ⟨by simp, by simp, .inr ⟨b7, 0, rfl, cellsAre_of (by rw [row_ne _ _ n73, row_self]; rfl)⟩⟩, ?_⟩
    intro i h1 h2
    have : i = 0 ∨ i = 1 := by simp at h1; omega
    rcases this with rfl | rfl
    · exact IntS.one (by rw [row_ne _ _ n53, row_ne _ _ n57, row_ne _ _ n56, row_self])
    · exact IntS.one (by rw [row_ne _ _ n63, row_ne _ _ n67, row_self])
  · have e' : CnfOkB v cls = true := by simpa using e
    simp only [vm, mm, cell_of f4, f34]
    refine ⟨by omega, k v t cls _ e' (le_row_of _ _ hb3 (Hp.le_trans lh1 l4)) (hss.mono fun c x hc => ?_)⟩
    have hn2 : H2 c = none := sub_some_none (by rw [hc]; simp)
    have hc1 : h1 c = some x := by rw [sub_at hn2] at hc; exact hc
    have hc3 : c ≠ b3 := fun hh => by rw [hh, f3] at hn2; cases hn2
    rw [row_ne _ _ hc3]
    exact l4 _ _ hc1

theorem FnCoreProof_spec {h : Hp} {s : Sl} {bs : List Nat} {R : Value → Hp → Prop} (hcap : s.n ≤ s.c) (hs : ByteS h s bs)
    (k : R (.bool true) h) : c_laws_FnCoreProof #[s.v] h R := by
  refine ACalls.drop (R_laws_FnCoreProof ?_)
  unfold F_laws_FnCoreProof
  refine bsplit_of (fun e => ⟨_, Hp.le_refl _, k⟩) (fun _ => ?_)
  refine GoodCnf_spec hcap hs fun v t cls h1 hok l1 hss => ⟨_, _, rfl, ?_⟩
  intro b2 hb2
  have l2 := le_row [I v, t.v] 2 hb2
  have f2 := row_self h1 b2 [I v, t.v] 2
  simp only [vm, mm]
  generalize hh2 : h1.row b2 [I v, t.v] 2 = h2 at *
  have hs2 : IntSS h2 t cls := hss.mono l2
  obtain ⟨hv, hx60, hcl⟩ := CnfOkB.iff.1 hok
  have hcn := hs2.len
  refine ⟨by omega, spec_SatCore_spec hs2 fun g0 h3 l3 og => ⟨_, _, rfl, ?_⟩⟩
  have f3 := l3 _ _ f2
  have hs3 := hs2.mono l3
  have og3 : IntS h3 g0 (satCore v cls).1 := IntS.mono (sub_le _ _) og.slc
  have l03 := Hp.le_trans l1 (Hp.le_trans l2 l3)
  simp only [vm, mm, cell_of f3]
  intro b4 hb4
  refine ⟨by omega, ?_⟩
  -- the core's places
  have hco : ∃ ks : List Nat, (satCore v cls).1 = ks.map (fun (k : Nat) => (k : Int)) ∧ (∀ x ∈ ks, x < cls.length) ∧ ks.length ≤ cls.length ∧ ((satCore v cls).2 = false → ks = []) := by
    unfold satCore
    split
    · exact ⟨_, rfl, keptP_lt _ _ _, keptP_len _ _ _, fun h => by cases h⟩
    · exact ⟨[], rfl, by simp, by simp, fun _ => rfl⟩
  obtain ⟨ks, hks, hklt, hkl, hk0⟩ := hco
  rw [hks] at og3
  generalize hC : (satCore v cls).2 = C at *
  have hgn : g0.n = ks.length := by have := og3.len; simpa using this
  have hat : ∀ {h' : Hp}, h3.le h' → ∀ j (hj : j < ks.length), ∃ b o, g0.a = some (Addr.mk b o none) ∧ Hp.cell h' b (o + j) = some (I (ks[j] : Nat)) := by
    intro h' l j hj
    obtain ⟨b, o, ha, hc⟩ := (og3.mono l).at (i := j) (by simpa using hj)
    simp only [List.getElem_map] at hc
    exact ⟨b, o, ha, hc⟩
  refine loop_up ks.length (fun j vs h' => ∃ t', vs = [.pointer (some ⟨b2, 0, none⟩), g0.v, .bool C, .pointer (some ⟨b4, 0, none⟩), I j] ∧ GrownD h3 h' b4 v t' (sel cls (ks.take j)))
    ⟨⟨none, 0, 0⟩, rfl, GrownD.start hb4⟩ ?_
  rintro j _ h7 next2 hj ⟨t', rfl, gr⟩ hn2
  refine ⟨_, _, _, _, _, _, _, rfl, ?_⟩
  have l7 := gr.keep
  have f7 := l7 _ _ f3
  have r7 := gr.row
  by_cases hjl : j < ks.length
  · refine bs_t (by simp [hgn, hjl]) ?_
    obtain ⟨b, o, ha, hc⟩ := hat l7 j hjl
    have hkj := hklt _ (List.getElem_mem hjl)
    obtain ⟨bc, oc, tc, hca, hcc, htc⟩ := hs3.at hkj
    have hcc7 := l7.cell hcc
    simp only [vm, mm, hgn, ha, hc, cell_of f7, cell_of r7, hcn, hca, hcc7, W_succ (n := j) (by omega)]
    refine ⟨by omega, by omega, ?_⟩
    intro b8 hb8
    refine ⟨by rw [row_ne _ _ (fresh_ne hb8 r7)], ?_⟩
    refine gr.app (by simp [sel]; omega) htc hb8 fun t2 h8 f8 _ gr2 => ?_
    simp only [vm, mm, f8]
    refine ⟨by omega, hn2 hjl _ _ ⟨t2, rfl, ?_⟩⟩
    have : sel cls (ks.take (j + 1)) = sel cls (ks.take j) ++ [cls[ks[j]]] := by
      rw [List.take_succ_eq_append_getElem hjl]
      unfold sel
      rw [List.map_append]
      simp [hkj]
    rw [this]; exact gr2
  have : j = ks.length := by omega
  subst this
  rw [List.take_length] at gr
  refine bs_f (by simp [hgn]) ?_
  have hsD : IntSS h7 t' (sel cls ks) := (gr.intss (by simp [sel]; omega)).mono (off_le _ _)
  simp only [vm, mm, cell_of r7]
  refine impl_ProofOf_spec hsD fun p0 pts h8 l8 op _ _ => ⟨_, _, rfl, ?_⟩
  have r8 := l8 _ _ r7
  simp only [vm, mm, cell_of r8]
  refine spec_ProofOf_spec (hsD.mono l8) fun q0 h9 l9 oq => ⟨_, _, rfl, ?_⟩
  have f9 := l9 _ _ (l8 _ _ f7)
  have r9 := l9 _ _ r8
  have l09 := Hp.le_trans l03 (Hp.le_trans l7 (Hp.le_trans l8 l9))
  have hp9 : IntSS h9 p0 (proofOf v (sel cls ks)).1 := (op.ints.mono (sub_le _ _)).mono l9
  have hs9 : IntSS h9 t cls := hs3.mono (Hp.le_trans l7 (Hp.le_trans l8 l9))
  have hsD9 := hsD.mono (Hp.le_trans l8 l9)
  have hsub : sel cls ks ⊆ cls := by
    intro l hl
    obtain ⟨x, hx, rfl⟩ := List.mem_map.1 hl
    have := hklt x hx
    simp only [List.getD, List.getElem?_eq_getElem this, Option.getD_some]
    exact List.getElem_mem this
  have hcode := @proofOf_code v (sel cls ks)
  have hcode2 := fun h => proofCode_more (hcode h) hok hsub
  have hemp : C = false → (proofOf v (sel cls ks)).2 = false := fun h => by rw [hk0 h]; exact proofOf_empty v
  have hpn : p0.n = q0.n := by rw [hp9.len, oq.len]
  generalize (proofOf v (sel cls ks)).2 = ok at *
  refine joinP_of (fun J => J false) ?_ ?_
  rotate_left
  · intro J hJ
    refine bs_f (by simp) ?_
    rw [hpn]; simpa using hJ
  refine bs_f rfl (bsplit_of (fun eC => ?_) (fun eC => ?_))
  · have : ok = false := hemp (by simpa using eC)
    exact bs_t (by rw [this]; rfl) ⟨_, l09, k⟩
  refine bsplit_of (fun _ => ⟨_, l09, k⟩) (fun eo => ?_)
  have eo' : ok = true := by simpa using eo
  simp only [vm, mm, cell_of r9]
  refine impl_ProofCode_spec hsD9 hp9 ⟨_, rfl, ?_⟩
  rw [hcode eo']
  refine bs_t rfl ?_
  simp only [vm, mm, cell_of f9]
  refine impl_ProofCode_spec hs9 hp9 ⟨_, rfl, _, l09, ?_⟩
  rw [hcode2 eo']; exact k

end Go.Lead
