/- The walk of the law of units. -/
import Derived.Test.YthcnlmahlmndhaaP6
namespace Go.Lead
open Go
set_option linter.unusedSimpArgs false
set_option linter.unusedVariables false

def someI (x : Int) : Int := if x < 1 then 1 else x
theorem someI_bound {x : Int} (h : x ≤ 11) : 1 ≤ someI x ∧ someI x ≤ 11 := by unfold someI; split <;> omega
theorem l17Some_spec {h : Hp} {x : Int} {R : Value → Hp → Prop} (k : R (I (someI x)) h) : c_spec_l17Some #[I x] h R := by
  apply R_spec_l17Some
  unfold F_spec_l17Some
  unfold someI at k
  exact bsplit_of (fun e => by rw [if_pos (by simpa using e)] at k; exact k) (fun e => by rw [if_neg (by simpa using e)] at k; exact k)
theorem Grown.last {g h : Hp} {o : Sl} {xs : List Int} {x y : Int} (e : Grown g h o (xs ++ [x])) : ∃ b z, o.a = some ⟨b, 0, none⟩ ∧ h b = some (.inl ⟨(xs ++ [x]).map I, z, false⟩) ∧
    Grown g (h.row b (((xs ++ [x]).map I).set xs.length (I y)) z) o (xs ++ [y]) := by
  have hn := e.buf.len
  rcases e.buf.2.2 with ⟨_, h0, _⟩ | ⟨b, ha, hb⟩
  · simp at hn; omega
  refine ⟨b, _, ha, hb, ⟨by simp; have := e.buf.1; simp at this; omega, e.buf.2.1, .inr ⟨b, ha, ?_⟩⟩, ?_⟩
  · rw [row_self]; simp
  · intro c z hc
    obtain ⟨h1, h2⟩ := offS_some (e.le _ _ hc)
    have hcb : c ≠ b := fun hh => h2 _ ha hh.symm
    rw [offS_at h2, row_ne _ _ hcb]; exact h1

theorem DrawSatUnits_spec {h : Hp} {s : Sl} {bs : List Nat} {R : Value → Hp → Prop} (hcap : s.n ≤ s.c) (hs : ByteS h s bs)
    (k : ∀ v t cls o xs h', Drawn v cls → xs.length ≤ 3 → (∀ x ∈ xs, -12 ≤ x ∧ x ≤ 12) → h.le h' → IntSS h' t cls → IntS h' o xs → R (.tuple #[.agg #[I v, Sl.v t], Sl.v o]) h') : c_spec_DrawSatUnits #[s.v] h R := by
  apply R_spec_DrawSatUnits
  unfold F_spec_DrawSatUnits
  intro b3 hb3
  have l3 := le_row [I 0, .slice none 0 0] 2 hb3
  simp only [vm, mm]
  refine l17Open_spec hcap (hs.mono l3) fun B s' bs' hB rd => ⟨_, rfl, ?_⟩
  rw [row_none] at hB
  have f3 : ((h.row b3 [I 0, .slice none 0 0] 2).row B [s'.v, I (0 : Nat)] 2) b3 = some (.inl ⟨[I 0, .slice none 0 0], 2, false⟩) := by rw [row_ne _ _ hB.1.symm, row_self]
  have lH : h.le ((h.row b3 [I 0, .slice none 0 0] 2).row B [s'.v, I (0 : Nat)] 2) := le_row_of _ _ hB.2 l3
  refine cnf_spec rd (by omega) fun v t cls h1 q hd hq hfr rd1 hss => ⟨_, _, rfl, ?_⟩
  have f31 : h1 b3 = some (.inl ⟨[I 0, .slice none 0 0], 2, false⟩) := off_le _ _ _ _ (hfr _ _ (by rw [Hp.off, Hp.set_ne _ _ hB.1.symm]; exact f3))
  have lh1 : h.le (h1.off B) := Hp.le_trans (le_off (b := B) hB.2 lH) hfr
  generalize hH2 : (h.row b3 [I 0, .slice none 0 0] 2).row B [s'.v, I (0 : Nat)] 2 = H2 at *
  intro b4 hb4
  have n43 := fresh_ne hb4 f31
  have n4B := fresh_ne hb4 rd1.row
  have l4 := le_row [I v, t.v] 2 hb4
  have f4 := row_self h1 b4 [I v, t.v] 2
  have f34 := l4 _ _ f31
  have rd4 := rd1.to l4
  generalize hh2 : h1.row b4 [I v, t.v] 2 = h2 at *
  refine ⟨by omega, ?_⟩
  refine pick_spec rd4 (by omega) (by omega) fun n hn _ => ⟨_, rfl, ?_⟩
  have hn4 := hn (by omega)
  have hoff : (h2.row B [s'.v, I (q + 1 : Nat)] 2).off B = h2.off B := off_row ..
  refine loop_up n (fun i vs h' => ∃ o xs, vs = [.pointer (some ⟨b3, 0, none⟩), .pointer (some ⟨B, 0, none⟩), .pointer (some ⟨b4, 0, none⟩), Sl.v o, I n, I i] ∧ Grown (h2.off B) h' o xs ∧ xs.length = i ∧ (∀ x ∈ xs, -12 ≤ x ∧ x ≤ 12) ∧
      ∃ q', q' ≤ q + 1 + 2 * i ∧ h' B = some (.inl ⟨[s'.v, I (q' : Nat)], 2, false⟩))
    ⟨⟨none, 0, 0⟩, [], rfl, ⟨buf_nil _ _, hoff ▸ off_le _ _⟩, rfl, by simp, q + 1, by omega, row_self ..⟩ ?_
  rintro i _ h3 next hi ⟨o, xs, rfl, hgo, hxl, hxs, q', hq', hr⟩ hnx
  refine ⟨_, _, _, _, _, _, _, _, rfl, ?_⟩
  have f43 : h3 b4 = some (.inl ⟨[I v, t.v], 2, false⟩) := hgo.keep _ _ (by rw [Hp.off, Hp.set_ne _ _ n4B.symm]; exact f4)
  by_cases hlt : i < n
  · refine bs_t (by simp [hlt]) ?_
    rw [W_succ (by omega)]
    refine joinP_of (fun J => ∀ o' h' y, (-12 ≤ y ∧ y ≤ 12) → Grown (h2.off B) h' o' (xs ++ [y]) → (∃ q', q' ≤ q + 1 + 2 * (i + 1) ∧ h' B = some (.inl ⟨[s'.v, I (q' : Nat)], 2, false⟩)) → J o' h') ?_ ?_
    · intro o' h' y hy hg' hq2
      refine hnx hlt _ _ ⟨o', _, rfl, hg', by simp [hxl], ?_, hq2⟩
      intro x hx
      rcases List.mem_append.1 hx with h | h
      · exact hxs x h
      · simp only [List.mem_singleton] at h; subst h; exact hy
    intro J hJ
    simp only [vm, mm, cell_of f43]
    refine l17Some_spec ⟨_, rfl, rfl, ?_⟩
    obtain ⟨hy1, hy11⟩ := someI_bound hd.1.2
    generalize hyv : someI v = y at *
    have w1 : W (W (2 * y) + 1) = 2 * y + 1 := by rw [W_id (n := 2 * y) (by omega) (by omega), W_id (by omega) (by omega)]
    rw [w1]
    have rd3 : Rd h3 B s' bs' q' := ⟨hr, rd4.byt.mono (le_off (off_at _ _) hgo.keep)⟩
    refine pick_spec rd3 (by omega) (by omega) fun x hx _ => ⟨_, rfl, row_ne _ _ n4B.symm, ?_⟩
    have hx' := hx (by omega)
    have hgo1 := hgo.poke (cs := [s'.v, I (q' + 1 : Nat)]) (n := 2) hr (off_at _ _)
    have hr1 := row_self h3 B [s'.v, I (q' + 1 : Nat)] 2
    generalize hh4 : h3.row B [s'.v, I (q' + 1 : Nat)] 2 = h4 at *
    have hsome : ∀ {R : Value → Hp → Prop}, R (I y) h4 → c_spec_l17Some #[I v] h4 R := fun k => l17Some_spec (hyv ▸ k)
    refine hsome ⟨_, rfl, ?_⟩
    have w2 : W ((x : Int) - y) = (x : Int) - y := W_id (by omega) (by omega)
    rw [w2]
    intro b5 hb5
    refine hgo1.appK (by omega) hb5 fun o' h5 hk hg5 => ?_
    have hr5 : h5 B = some (.inl ⟨[s'.v, I (q' + 1 : Nat)], 2, false⟩) := (offS_some (hk _ _ (offS_of hr1 (hgo1.neB hr1)))).1
    have hon : o'.n = i + 1 := by have := hg5.buf.len; simp at this; omega
    refine joinP_of (fun J => ∀ c h', Grown (h2.off B) h' o' (xs ++ [(x : Int) - y]) → (∃ q2, q2 ≤ q + 1 + 2 * (i + 1) ∧ h' B = some (.inl ⟨[s'.v, I (q2 : Nat)], 2, false⟩)) → J c h') ?_ ?_
    · rintro c h6 hg6 ⟨q2, hq2, hr6⟩
      refine bsplit_of (fun _ => ?_) (fun _ => hJ o' _ _ (by omega) hg6 ⟨q2, hq2, hr6⟩)
      obtain ⟨b6, z6, ha6, hb6, hg7⟩ := Grown.last (y := 1) hg6
      have n6B := hg6.neB hr6 _ ha6
      simp only [vm, mm, ha6, hb6]
      subst hxl
      refine ⟨by omega, by simp, ?_⟩
      have := hJ o' _ 1 (by omega) hg7 ⟨q2, hq2, by rw [row_ne _ _ (Ne.symm n6B)]; exact hr6⟩
      rw [← ha6]; exact this
    · intro J2 hJ2
      obtain ⟨b6, o6, ha6, hc6⟩ := (hg5.buf.ints (by simp; omega)).at (i := i) (by simp; omega)
      simp only [vm, ha6, hc6]
      refine ⟨by omega, bsplit_of (fun _ => ?_) (fun _ => hJ2 _ _ hg5 ⟨q' + 1, by omega, hr5⟩)⟩
      have rd5 : Rd h5 B s' bs' (q' + 1) := ⟨hr5, rd4.byt.mono (le_off (off_at _ _) hg5.keep)⟩
      exact pick_spec rd5 (by omega) (by omega) fun y _ _ => ⟨_, rfl, hJ2 _ _ (hg5.poke hr5 (off_at _ _)) ⟨q' + 1 + 1, by omega, row_self ..⟩⟩
  · have : i = n := by omega
    subst this
    have f33 : h3 b3 = some (.inl ⟨[I 0, .slice none 0 0], 2, false⟩) := hgo.keep _ _ (by rw [Hp.off, Hp.set_ne _ _ hB.1.symm]; exact f34)
    refine bs_f (by simp) ?_
    simp only [vm, mm, cell_of f43, f33]
    have l23 : (h2.off B).le h3 := hgo.keep
    have l13 : (h1.off B).le h3 := Hp.le_trans (off_mono _ l4) l23
    refine ⟨by omega, k v t cls o xs _ hd (by omega) hxs (le_row_of _ _ hb3 (Hp.le_trans lh1 (fun c y hc => ?_))) (hss.mono ?_) ?_⟩
    · exact l13 _ _ hc
    · intro c y hc
      have hn2 : H2 c = none := sub_some_none (by rw [hc]; simp)
      have hc1 : h1 c = some y := by rw [sub_at hn2] at hc; exact hc
      have hcB : c ≠ B := fun hh => by rw [hh, rd.row] at hn2; cases hn2
      have hc3 : c ≠ b3 := fun hh => by rw [hh, f3] at hn2; cases hn2
      rw [row_ne _ _ hc3]
      exact l13 _ _ (by rw [Hp.off, Hp.set_ne _ _ hcB]; exact hc1)
    · refine IBuf.ints ⟨hgo.buf.1, hgo.buf.2.1, hgo.buf.2.2.imp id ?_⟩ (by omega)
      rintro ⟨d, hd1, hd2⟩
      have : d ≠ b3 := (offS_some (hgo.le b3 _ (by rw [Hp.off, Hp.set_ne _ _ hB.1.symm]; exact f34))).2 _ hd1
      exact ⟨d, hd1, by rw [row_ne _ _ this]; exact hd2⟩

theorem GrownD.start1 {h H : Hp} {b1 b2 bw : Nat} {v y : Int} (f1 : h b1 = none) (f2 : h b2 = none) (fw : h bw = none) (n12 : b1 ≠ b2) (n1w : b1 ≠ bw) (n2w : b2 ≠ bw) (l : h.le H)
    (r1 : H b1 = some (.inl ⟨[I y], 1, false⟩)) (r2 : H b2 = some (.inl ⟨[.slice (some ⟨b1, 0, none⟩) 1 1], 1, false⟩)) (rw : H bw = some (.inl ⟨[I v, .slice (some ⟨b2, 0, none⟩) 1 1], 2, false⟩)) :
    GrownD (h.row b1 [I y] 1) H bw v ⟨some ⟨b2, 0, none⟩, 1, 1⟩ [[y]] := by
  refine ⟨⟨[⟨some ⟨b1, 0, none⟩, 1, 1⟩], ⟨by simp, by simp, .inr ⟨b2, rfl, r2⟩⟩, rfl, ?_⟩, ?_, rw, by rw [row_ne _ _ n1w.symm]; exact fw, fun a ha => by cases ha; exact n2w⟩
  · intro i h1 h2
    have : i = 0 := by simp at h1; omega
    subst this
    exact ⟨by simp, by simp, .inr ⟨b1, 0, rfl, cellsAre_of (row_self ..)⟩⟩
  · intro c x hc
    by_cases hc1 : c = b1
    · subst hc1
      rw [row_self] at hc
      rw [offS_at (fun a ha => by cases ha; exact n12.symm), r1]; exact hc
    · rw [row_ne _ _ hc1] at hc
      have hc2 : c ≠ b2 := fun hh => by rw [hh, f2] at hc; cases hc
      rw [offS_at (fun a ha => by cases ha; exact hc2.symm)]
      exact l _ _ hc

theorem FnUnits_spec {h : Hp} {s : Sl} {bs : List Nat} {R : Value → Hp → Prop} (hcap : s.n ≤ s.c) (hs : ByteS h s bs)
    (k : R (.bool true) h) : c_laws_FnUnits #[s.v] h R := by
  refine ACalls.drop (R_laws_FnUnits ?_)
  unfold F_laws_FnUnits
  refine bsplit_of (fun e => ⟨_, Hp.le_refl _, k⟩) (fun _ => ?_)
  refine DrawSatUnits_spec hcap hs fun v t cls u given h1 hd hgl3 hgx l1 hss hgs => ⟨_, _, _, rfl, ?_⟩
  intro b2 hb2
  have l2 := le_row [I v, t.v] 2 hb2
  have f2 := row_self h1 b2 [I v, t.v] 2
  simp only [vm, mm]
  generalize hh2 : h1.row b2 [I v, t.v] 2 = h2 at *
  have hs2 : IntSS h2 t cls := hss.mono l2
  have hg2 : IntS h2 u given := hgs.mono l2
  refine ⟨by omega, impl_SatUnits_spec hs2 hg2 fun g0 h3 l3 og => ⟨_, _, rfl, ?_⟩⟩
  have f3 := l3 _ _ f2
  simp only [vm, mm, cell_of f3]
  refine spec_SatUnits_spec (hs2.mono l3) (hg2.mono l3) fun w0 h4 l4 ow => ⟨_, _, rfl, ?_⟩
  have f4 := l4 _ _ f3
  have og4 : IntS h4 g0 (satUnits v cls given).1 := IntS.mono l4 (og.mono (sub_le _ _)).slc
  have hs4 := hs2.mono (Hp.le_trans l3 l4)
  have hg4 := hg2.mono (Hp.le_trans l3 l4)
  have l04 := Hp.le_trans l1 (Hp.le_trans l2 (Hp.le_trans l3 l4))
  refine joinP_of (fun J => J false h4) ?_ ?_
  rotate_left
  · intro J hJ
    refine bs_f (by simp) ?_
    refine ldInts_spec og4 (ow.mono (sub_le _ _)).slc ⟨_, rfl, ?_⟩
    simpa using hJ
  refine bs_f rfl ?_
  refine joinP_of (fun J => (CnfOkB v cls = true → v ≤ 6 → J false h4) ∧ J true h4) ?_ ?_
  rotate_left
  · intro J hJ
    simp only [vm, mm, cell_of f4]
    refine spec_CnfOk_spec hs4 ⟨_, rfl, bsplit_of (fun _ => hJ.2) (fun e => ?_)⟩
    have e' : CnfOkB v cls = true := by simpa using e
    simp only [vm, mm, cell_of f4]
    cases h6 : decide (v > 6) with
    | true => exact hJ.2
    | false => exact hJ.1 e' (by simp at h6; omega)
  refine ⟨fun hok hv6 => bs_f rfl ?_, bs_t rfl ⟨_, l04, k⟩⟩
  obtain ⟨hv, hx60, hcl⟩ := CnfOkB.iff.1 hok
  have hbx : ∀ x ∈ (satUnits v cls given).1, -10 ≤ x ∧ x ≤ 10 := fun x hx => satUnits_bound hx
  have hno := fun h => @units_none_no v cls given h
  have hno2 := fun x h => @units_some_no v cls given x h
  have hsl := satUnits_len v cls given
  generalize hL : (satUnits v cls given).1 = L at *
  generalize hC : (satUnits v cls given).2 = C at *
  have hgn : g0.n = L.length := og4.len
  simp only [vm, mm, cell_of f4]
  intro b5 hb5
  refine ⟨by omega, ?_⟩
  -- the clauses
  refine loop_up cls.length (fun i vs h' => ∃ t', vs = [.pointer (some ⟨b2, 0, none⟩), u.v, g0.v, .bool C, .pointer (some ⟨b5, 0, none⟩), I i] ∧ GrownD h4 h' b5 v t' (cls.take i)) ⟨⟨none, 0, 0⟩, rfl, GrownD.start hb5⟩ ?_
  rintro i _ h6 next hi ⟨t', rfl, gr⟩ hn
  refine ⟨_, _, _, _, _, _, _, _, rfl, ?_⟩
  have f6 := gr.keep _ _ f4
  have r6 := gr.row
  have hcn := hs4.len
  by_cases hlt : i < cls.length
  · simp only [vm, mm, cell_of f6]
    refine bs_t (by simp [hcn, hlt]) ?_
    obtain ⟨bc, oc, tc, hca, hcc, htc⟩ := hs4.at hlt
    have hcc6 := gr.keep.cell hcc
    simp only [vm, mm, cell_of r6, cell_of f6, hcn, hca, hcc6, W_succ (n := i) (by omega)]
    refine ⟨by omega, ?_⟩
    intro b8 hb8
    refine ⟨by rw [row_ne _ _ (fresh_ne hb8 r6)], ?_⟩
    refine gr.app (by simp; omega) htc hb8 fun t2 h8 f8 _ gr2 => ?_
    simp only [vm, mm, f8]
    refine ⟨by omega, hn hlt _ _ ⟨t2, rfl, ?_⟩⟩
    rw [List.take_succ_eq_append_getElem hlt]; exact gr2
  have : i = cls.length := by omega
  subst this
  simp only [vm, mm, cell_of f6]
  refine bs_f (by simp [hcn]) ?_
  rw [List.take_length] at gr
  clear hn next r6 f6
  -- what is given
  refine loop_up given.length (fun i vs h' => ∃ t' g, vs = [.pointer (some ⟨b2, 0, none⟩), u.v, g0.v, .bool C, .pointer (some ⟨b5, 0, none⟩), I i] ∧ h4.le g ∧ GrownD g h' b5 v t' (cls ++ (given.take i).map fun x => [x])) ⟨t', h4, rfl, Hp.le_refl _, by simpa using gr⟩ ?_
  clear gr t' h6
  rintro i _ h6 next hi ⟨t', g, rfl, lg, gr⟩ hn
  refine ⟨_, _, _, _, _, _, _, _, rfl, ?_⟩
  have l46 := Hp.le_trans lg gr.keep
  have f6 := l46 _ _ f4
  have r6 := gr.row
  have hun := hg4.len
  by_cases hlt : i < given.length
  · refine bs_t (by simp [hun, hlt]) ?_
    obtain ⟨b, o, ha, hc⟩ := (hg4.mono l46).at hlt
    simp only [vm, mm, hun, ha, hc, cell_of r6, W_succ (n := i) (by omega)]
    refine ⟨by omega, ?_⟩
    intro b7 hb7
    refine ⟨by rw [row_ne _ _ (fresh_ne hb7 r6)], ?_⟩
    intro b8 hb8
    have gr' := gr.lit (cs := [I given[i]]) (n := 1) hb7
    have hb8' : (h6.row b7 [I given[i]] 1) b8 = none := by rw [row_none]; exact hb8
    refine ⟨by rw [row_ne _ _ (fresh_ne hb8' gr'.row), row_ne _ _ (fresh_ne hb7 r6)], ?_⟩
    have gb7 : g b7 = none := none_of_le gr.keep hb7
    refine gr'.app (x := [given[i]]) (by simp; omega) (u := ⟨some ⟨b7, 0, none⟩, 1, 1⟩) ⟨by simp, by simp, .inr ⟨b7, 0, rfl, cellsAre_of (row_self ..)⟩⟩ hb8' fun t2 h8 f8 _ gr2 => ?_
    simp only [vm, mm, f8]
    refine ⟨by omega, hn hlt _ _ ⟨t2, g.row b7 [I given[i]] 1, rfl, Hp.le_trans lg (le_row _ _ gb7), ?_⟩⟩
    rw [List.take_succ_eq_append_getElem hlt, List.map_append, ← List.append_assoc]; exact gr2
  have : i = given.length := by omega
  subst this
  refine bs_f (by simp [hun]) ?_
  rw [List.take_length] at gr
  clear hn next
  generalize hD : (cls ++ given.map fun x => [x]) = D at *
  have hDl : D.length ≤ 70 := by rw [← hD]; simp; omega
  have hsD : IntSS h6 t' D := (gr.intss (by omega)).mono (off_le _ _)
  have l06 := Hp.le_trans l04 l46
  simp only [vm, mm, cell_of r6]
  refine spec_CnfOk_spec hsD ⟨_, rfl, bsplit_of (fun _ => ⟨_, l06, k⟩) (fun eD => ?_)⟩
  simp only [vm, mm, cell_of r6]
  refine spec_SatLeast_spec hsD ⟨_, _, rfl, bsplit_of (fun eC => ⟨_, l06, ?_⟩) (fun eC => ?_)⟩
  · have : decide (satLeast v D ≥ 0) = false := decide_eq_false (hno eC)
    rw [this]; exact k
  -- each that follows
  refine loop_up L.length (fun i vs h' => vs = [.pointer (some ⟨b2, 0, none⟩), g0.v, .pointer (some ⟨b5, 0, none⟩), I i] ∧ h6.le h') ⟨rfl, Hp.le_refl _⟩ ?_
  rintro i _ h7 next hi ⟨rfl, l7⟩ hn
  refine ⟨_, _, _, _, _, _, rfl, ?_⟩
  by_cases hlt : i < L.length
  rotate_left
  · exact bs_f (by simp [hgn]; omega) ⟨_, Hp.le_trans l06 l7, k⟩
  refine bs_t (by simp [hgn, hlt]) ?_
  have f7 := l7 _ _ f6
  have r7 := l7 _ _ r6
  have hsD7 := hsD.mono l7
  refine joinP_of (fun J => ∀ h', h6.le h' → J b2 0 g0 b5 0 i h') (fun h' l => by rw [W_succ (by omega)]; exact hn hlt _ _ ⟨rfl, l⟩) ?_
  intro J hJ
  have hLi := hbx _ (List.getElem_mem hlt)
  have hdn := gr.len
  refine joinP_of (fun J => ∀ bw t1 g' h', h7.le g' → GrownD g' h' bw v t1 [[-L[i]]] → J bw 0 h') ?_ ?_
  · intro bw t1 g' h8 lg' gre
    refine loop_up D.length (fun j vs h' => ∃ t2, vs = [.pointer (some ⟨b2, 0, none⟩), g0.v, .pointer (some ⟨b5, 0, none⟩), I i, .pointer (some ⟨bw, 0, none⟩), I j] ∧ GrownD g' h' bw v t2 ([-L[i]] :: D.take j)) ⟨t1, rfl, by simpa using gre⟩ ?_
    clear gre t1 h8
    rintro j _ h9 next2 hj ⟨t2, rfl, gr9⟩ hn2
    refine ⟨_, _, _, _, _, _, _, _, _, rfl, ?_⟩
    have l79 := Hp.le_trans lg' gr9.keep
    have f9 := l79 _ _ r7
    have r9 := gr9.row
    simp only [vm, mm, cell_of f9]
    by_cases hjl : j < D.length
    · refine bs_t (by simp [hdn, hjl]) ?_
      obtain ⟨bc, oc, tc, hca, hcc, htc⟩ := (hsD7.mono lg').at hjl
      have hcc9 := gr9.keep.cell hcc
      simp only [vm, mm, cell_of r9, cell_of f9, hdn, hca, hcc9, W_succ (n := j) (by omega)]
      refine ⟨by omega, ?_⟩
      intro b10 hb10
      refine ⟨by rw [row_ne _ _ (fresh_ne hb10 r9)], ?_⟩
      refine gr9.app (by simp; omega) htc hb10 fun t3 h11 f11 _ gr11 => ?_
      simp only [vm, mm, f11]
      refine ⟨by omega, hn2 hjl _ _ ⟨t3, rfl, ?_⟩⟩
      rw [List.take_succ_eq_append_getElem hjl]; exact gr11
    · have : j = D.length := by omega
      subst this
      rw [List.take_length] at gr9
      refine bs_f (by simp [hdn]) ?_
      have hsE := (gr9.intss (by simp; omega)).mono (off_le _ _)
      simp only [vm, mm, cell_of r9]
      refine spec_SatLeast_spec hsE ⟨_, _, rfl, ?_⟩
      simp only [vm, mm, cell_of r9]
      have l69 := Hp.le_trans l7 l79
      refine spec_CnfOk_spec hsE ⟨_, rfl, bsplit_of (fun _ => bs_f (decide_eq_false (hno2 _ (List.getElem_mem hlt))) (hJ _ l69)) (fun _ => hJ _ l69)⟩
  · intro J2 hJ2
    obtain ⟨b6, o6, ha6, hc6⟩ := (og4.mono (Hp.le_trans l46 l7)).at hlt
    have w : W (0 - L[i]) = -L[i] := by rw [W_id (by omega) (by omega)]; omega
    simp only [vm, mm, ha6, hc6, cell_of f7, w, hgn]
    have e2 : ∀ {b}, h7 b = none → b2 ≠ b := fun hb => fresh_ne hb f7
    have e6 : ∀ {b}, h7 b = none → b6 ≠ b := fun hb => cell_fresh hb hc6
    refine ⟨by omega, ?_, ?_⟩
    · intro ba hba
      refine ⟨row_ne _ _ (e2 hba), ?_, ?_⟩
      · rintro bb ⟨nba, hbb⟩
        refine ⟨by rw [row_ne _ _ (e2 hbb), row_ne _ _ (e2 hba)], ?_⟩
        rintro bc ⟨ncb, nca, hbc⟩
        refine ⟨by rw [row_ne _ _ (e6 hbc), row_ne _ _ (e6 hbb), row_ne _ _ (e6 hba)], by rw [row_ne _ _ (e2 hbc), row_ne _ _ (e2 hbb), row_ne _ _ (e2 hba)], by omega, ?_⟩
        refine hJ2 bc _ _ _ (le_row [I (-L[i])] 1 hba) (GrownD.start1 hba hbb hbc (Ne.symm nba) (Ne.symm nca) (Ne.symm ncb) ?_ ?_ ?_ (row_self ..))
        · exact le_row_of _ _ hbc (le_row_of _ _ hbb (le_row _ _ hba))
        · rw [row_ne _ _ (Ne.symm nca), row_ne _ _ (Ne.symm nba), row_self]
        · rw [row_ne _ _ (Ne.symm ncb), row_self]
      · rintro bb ⟨nba, hbb⟩
        refine ⟨by rw [row_ne _ _ (e6 hbb), row_ne _ _ (e6 hba)], by rw [row_ne _ _ (e2 hbb), row_ne _ _ (e2 hba)], ?_⟩
        rintro bc ⟨ncb, nca, hbc⟩
        refine ⟨by rw [row_ne _ _ (e2 hbc), row_ne _ _ (e2 hbb), row_ne _ _ (e2 hba)], _, _, by rw [row_ne _ _ (Ne.symm ncb), row_self], by simp, ?_⟩
        refine hJ2 bb _ _ _ (le_row [I (-L[i])] 1 hba) (GrownD.start1 hba hbc hbb (Ne.symm nca) (Ne.symm nba) ncb ?_ ?_ ?_ (row_self ..))
        · exact le_row_of _ _ hbb (le_row_of _ _ hbc (le_row_of _ _ hbb (le_row _ _ hba)))
        · rw [row_ne _ _ (Ne.symm nba), row_ne _ _ (Ne.symm nca), row_ne _ _ (Ne.symm nba), row_self]
        · rw [row_ne _ _ ncb, row_self]
    · intro ba hba
      refine ⟨row_ne _ _ (e6 hba), row_ne _ _ (e2 hba), ?_⟩
      rintro bb ⟨nba, hbb⟩
      refine ⟨by rw [row_ne _ _ (e2 hbb), row_ne _ _ (e2 hba)], ?_⟩
      rintro bc ⟨ncb, nca, hbc⟩
      refine ⟨by rw [row_ne _ _ (e2 hbc), row_ne _ _ (e2 hbb), row_ne _ _ (e2 hba)], _, _, by rw [row_ne _ _ (Ne.symm nca), row_ne _ _ (Ne.symm nba), row_self], by simp, ?_⟩
      refine hJ2 ba _ _ _ (le_row [I (-L[i])] 1 hbb) (GrownD.start1 hbb hbc hba (Ne.symm ncb) nba nca ?_ ?_ ?_ (row_self ..))
      · exact le_row_of _ _ hba (le_row_of _ _ hbc (le_row_of _ _ hbb (le_row _ _ hba)))
      · rw [row_ne _ _ nba, row_ne _ _ (Ne.symm ncb), row_self]
      · rw [row_ne _ _ nca, row_self]

end Go.Lead
