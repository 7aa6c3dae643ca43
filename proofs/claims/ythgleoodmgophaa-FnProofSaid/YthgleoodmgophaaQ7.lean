/- Drawn proofs, and the walk of the law of proofs. -/
import Derived.Test.YthgleoodmgophaaQ5
namespace Go.Lead
open Go
set_option linter.unusedSimpArgs false
set_option linter.unusedVariables false

theorem GrownSS.appK {g h : Hp} {t u : Sl} {xss : List (List Int)} {x : List Int} {b : Nat} {K : Option Addr → Nat → Nat → Hp → Prop} (e : GrownSS g h t xss) (hl : xss.length ≤ 1048576) (hu : IntS g u x) (hb : h b = none)
    (k : ∀ (t' : Sl) (h'' : Hp), (h.offS t).le (h''.offS t') → GrownSS g h'' t' (xss ++ [x]) → K t'.a t'.n t'.c h'') : aApp (h.row b [u.v] 1) t.a t.n t.c (some ⟨b, 0, none⟩) 1 1 24 K := by
  have l := le_row [u.v] 1 hb
  have hn := e.len
  obtain ⟨ts, hbuf, h1, h2⟩ := e.buf
  refine aApp_buf (hbuf.mono l) (by omega) (by omega) (by omega) ⟨b, 0, rfl, fun i v hi => ?_⟩ (news := [u.v]) rfl rfl ?_
  · cases i with
    | zero => simp at hi; subst hi; exact cell_row _ _ _ _ _
    | succ i => simp at hi
  · intro t' h'' hn' hb' hle _
    have hle' : (h.offS t).le (h''.offS t') := Hp.le_trans (offS_mono t l) hle
    refine k t' h'' hle' ⟨⟨ts ++ [u], by rw [List.map_append]; exact hb', by simp [h1], ?_⟩, Hp.le_trans e.le hle'⟩
    intro i a c
    by_cases hi : i < ts.length
    · rw [List.getElem_append_left hi, List.getElem_append_left (by omega)]; exact h2 i hi (by omega)
    · have : i = ts.length := by simp at a; omega
      subst this
      simp only [List.getElem_append_right (Nat.le_refl _), Nat.sub_self, List.getElem_cons_zero]
      simp only [h1, List.getElem_append_right (Nat.le_refl _), Nat.sub_self, List.getElem_cons_zero]
      exact hu
theorem GrownSS.neB {g h : Hp} {t s : Sl} {xss : List (List Int)} (e : GrownSS g h t xss) {B p n : Nat} (hB : h B = some (.inl ⟨[s.v, I p], n, false⟩)) : ∀ a, t.a = some a → a.block ≠ B := by
  intro a ha
  obtain ⟨ts, hb, _, _⟩ := e.buf
  rcases hb.2.2 with ⟨h0, _⟩ | ⟨c, hc, hcb⟩
  · rw [h0] at ha; cases ha
  · rw [hc] at ha; cases ha
    refine ne_of_blk hcb hB ?_
    intro h
    simp only [Sum.inl.injEq, Row.mk.injEq] at h
    rcases ts with _ | ⟨t1, _ | ⟨t2, r⟩⟩
    · simp at h
    · simp at h
    · simp [Sl.v] at h

/-- A proof under way, the reader beside it. -/
structure PS (h : Hp) (B : Nat) (s : Sl) (c : Nat) (g h' : Hp) (t : Sl) (res : List (List Int)) : Prop where
  rd : ∃ q, q ≤ c ∧ h' B = some (.inl ⟨[s.v, I (q : Nat)], 2, false⟩)
  gr : GrownSS g h' t res
  new : ∀ c x, g c = some x → h c = none
  fr : (h.off B).le (h'.offS t)
section
variable {h g h' : Hp} {B c : Nat} {s t : Sl} {res : List (List Int)} {bs : List Nat}
theorem PS.frame (e : PS h B s c g h' t res) : (h.off B).le h' := Hp.le_trans e.fr (offS_le _ _)
theorem PS.more (e : PS h B s c g h' t res) {c' : Nat} (hc : c ≤ c') : PS h B s c' g h' t res := by
  obtain ⟨q, hq, hr⟩ := e.rd
  exact ⟨⟨q, by omega, hr⟩, e.gr, e.new, e.fr⟩
theorem PS.poke (e : PS h B s c g h' t res) (hB : ∃ x, h B = some x) (q c' : Nat) (hq : q ≤ c') : PS h B s c' g (h'.row B [s.v, I (q : Nat)] 2) t res := by
  obtain ⟨q', _, hr⟩ := e.rd
  have gB : g B = none := by
    cases hx : g B with
    | none => rfl
    | some x => obtain ⟨y, hy⟩ := hB; rw [e.new _ _ hx] at hy; cases hy
  have tB := e.gr.neB hr
  have key : ∀ c x, c ≠ B → (h'.offS t) c = some x → ((h'.row B [s.v, I (q : Nat)] 2).offS t) c = some x := by
    intro c x hcB hc
    obtain ⟨h1, h2⟩ := offS_some hc
    rw [offS_at h2, row_ne _ _ hcB]; exact h1
  refine ⟨⟨q, hq, row_self ..⟩, ⟨?_, fun c x hc => key c x (fun hh => by rw [hh, gB] at hc; cases hc) (e.gr.le _ _ hc)⟩, e.new, fun c x hc => key c x (fun hh => by rw [hh, off_at] at hc; cases hc) (e.fr _ _ hc)⟩
  obtain ⟨ts, h1, h2, h3⟩ := e.gr.buf
  refine ⟨ts, ⟨h1.1, h1.2.1, h1.2.2.imp id ?_⟩, h2, h3⟩
  rintro ⟨d, hd, hdb⟩
  exact ⟨d, hd, by rw [row_ne _ _ (tB _ hd)]; exact hdb⟩
theorem PS.pick {n : Int} {R : Value → Hp → Prop} (e : PS h B s c g h' t res) (hB : ∃ x, h B = some x) (hs : ByteS (h.off B) s bs) (hc : c ≤ 1000000000) (hn : n ≤ 1000000000)
    (k : ∀ (x : Nat) h'', (1 ≤ n → (x : Int) < n) → (n < 1 → x = 0) → PS h B s (c + 1) g h'' t res → R (I x) h'') : c_spec_l17Rd_pick #[.pointer (some ⟨B, 0, none⟩), I n] h' R := by
  obtain ⟨q, hq, hr⟩ := e.rd
  exact pick_spec ⟨hr, hs.mono (le_off (off_at _ _) e.frame)⟩ (by omega) hn fun x h1 h2 => k x _ h1 h2 (e.poke hB (q + 1) (c + 1) (by omega))
theorem PS.lit (e : PS h B s c g h' t res) (hB : ∃ x, h B = some x) {b n : Nat} {cs : List Value} (hb : h' b = none) : PS h B s c (g.row b cs n) (h'.row b cs n) t res := by
  obtain ⟨q, hq, hr⟩ := e.rd
  have nB := fresh_ne hb hr
  have hb0 : h b = none := by
    cases hx : h b with
    | none => rfl
    | some x =>
      have := e.frame b x (by rw [Hp.off, Hp.set_ne _ _ nB.symm]; exact hx)
      rw [hb] at this; cases this
  have tb : ∀ a, t.a = some a → a.block ≠ b := fun a ha => by
    obtain ⟨x, hx⟩ := e.gr.blk a ha
    exact fresh_ne hb hx
  have key : ∀ c x, c ≠ b → (h'.offS t) c = some x → ((h'.row b cs n).offS t) c = some x := by
    intro c x hcB hc
    obtain ⟨h1, h2⟩ := offS_some hc
    rw [offS_at h2, row_ne _ _ hcB]; exact h1
  have gb : g b = none := none_of_le e.gr.keep hb
  refine ⟨⟨q, hq, by rw [row_ne _ _ nB]; exact hr⟩, (e.gr.up (le_row cs n hb)).base (le_row _ _ gb) ?_, ?_, fun c x hc => key c x (fun hh => by rw [hh, Hp.off, Hp.set_ne _ _ nB.symm, hb0] at hc; cases hc) (e.fr _ _ hc)⟩
  · intro c x hc
    by_cases hcb : c = b
    · subst hcb
      rw [row_self] at hc
      rw [offS_at tb, row_self]; exact hc
    · rw [row_ne _ _ hcb] at hc
      exact key c x hcb (e.gr.le _ _ hc)
  · intro c x hc
    by_cases hcb : c = b
    · subst hcb; exact hb0
    · rw [row_ne _ _ hcb] at hc; exact e.new _ _ hc
theorem PS.app {u : Sl} {x : List Int} {b : Nat} {K : Option Addr → Nat → Nat → Hp → Prop} (e : PS h B s c g h' t res) (hl : res.length ≤ 1048576) (hu : IntS g u x) (hb : h' b = none)
    (k : ∀ (t' : Sl) (h'' : Hp), PS h B s c g h'' t' (res ++ [x]) → K t'.a t'.n t'.c h'') : aApp (h'.row b [u.v] 1) t.a t.n t.c (some ⟨b, 0, none⟩) 1 1 24 K := by
  obtain ⟨q, hq, hr⟩ := e.rd
  exact e.gr.appK hl hu hb fun t' h'' hk gr => k t' h'' ⟨⟨q, hq, (offS_some (hk _ _ (offS_of hr (e.gr.neB hr)))).1⟩, gr, e.new, Hp.le_trans e.fr hk⟩
theorem PS.news (e : PS h B s c g h' t res) (hB : ∃ x, h B = some x) (hl : res.length ≤ 1048576) : IntSS (h'.sub h) t res := by
  obtain ⟨q, hq, hr⟩ := e.rd
  have hn := e.gr.len
  have tB := e.gr.neB hr
  obtain ⟨ts, hb, h1, h2⟩ := e.gr.buf
  have hb' : Buf (h'.sub h) t 1 (ts.map Sl.v) := by
    refine ⟨hb.1, hb.2.1, hb.2.2.imp id ?_⟩
    rintro ⟨c, hc, hcb⟩
    refine ⟨c, hc, ?_⟩
    rw [sub_at]
    · exact hcb
    · cases hx : h c with
      | none => rfl
      | some x => exact absurd rfl ((offS_some (e.fr _ _ (by rw [Hp.off, Hp.set_ne _ _ (tB _ hc)]; exact hx))).2 _ hc)
  refine ⟨ts, h1, hb'.slc (by omega), fun i a b => (h2 i a b).mono fun c x hc => ?_⟩
  rw [sub_at (e.new c x hc)]; exact e.gr.keep _ _ hc
/-- Another list, from the same pieces. -/
theorem PS.start (e : PS h B s c g h' t res) : PS h B s c (h'.sub h) h' ⟨none, 0, 0⟩ [] :=
  ⟨e.rd, ⟨⟨[], buf_nil _ _, rfl, fun i h1 => by simp at h1⟩, sub_le _ _⟩, fun c x hc => sub_some_none (by rw [hc]; simp), e.frame⟩
/-- One piece put in another's place. -/
theorem PS.put {u : Sl} {x : List Int} {i : Nat} (e : PS h B s c g h' t res) (hi : i < res.length) (hu : IntS g u x) : ∃ b cs z, t.a = some ⟨b, 0, none⟩ ∧ h' b = some (.inl ⟨cs, z, false⟩) ∧ cs.length = res.length ∧
    PS h B s c g (h'.row b (cs.set i u.v) z) t (res.set i x) := by
  obtain ⟨q, hq, hr⟩ := e.rd
  have hn := e.gr.len
  have tB := e.gr.neB hr
  obtain ⟨ts, hb, h1, h2⟩ := e.gr.buf
  rcases hb.2.2 with ⟨_, h0, _⟩ | ⟨b, hb1, hb2⟩
  · omega
  refine ⟨b, _, _, hb1, hb2, by simp [h1], ⟨q, hq, by rw [row_ne _ _ (tB _ hb1).symm]; exact hr⟩, ⟨⟨ts.set i u, ⟨by simp; have := hb.1; simp at this; omega, hb.2.1, .inr ⟨b, hb1, ?_⟩⟩, by simp [h1], ?_⟩, ?_⟩, e.new, ?_⟩
  · rw [row_self, List.map_set]
  · intro j a b
    rw [List.getElem_set, List.getElem_set]
    split
    · exact hu
    · exact h2 j (by simpa using a) (by simpa using b)
  · intro c x hc
    obtain ⟨g1, g2⟩ := offS_some (e.gr.le _ _ hc)
    rw [offS_at g2, row_ne _ _ (fun hh => g2 _ hb1 hh.symm)]; exact g1
  · intro c x hc
    obtain ⟨g1, g2⟩ := offS_some (e.fr _ _ hc)
    rw [offS_at g2, row_ne _ _ (fun hh => g2 _ hb1 hh.symm)]; exact g1
end

theorem proof_spec {h : Hp} {B p : Nat} {s t : Sl} {bs : List Nat} {cls : List (List Int)} {v : Int} {R : Value → Hp → Prop} (e : Rd h B s bs p) (hp : p ≤ 100000000) (hs : IntSS (h.off B) t cls)
    (k : ∀ o P h', (h.off B).le (h'.off B) → IntSS (h'.sub h) o P → R (Sl.v o) h') : c_spec_l17Rd_proof #[.pointer (some ⟨B, 0, none⟩), .agg #[I v, t.v]] h R := by
  apply R_spec_l17Rd_proof
  unfold F_spec_l17Rd_proof
  intro b5 hb5
  have hB : ∃ x, h B = some x := ⟨_, e.row⟩
  have hbs := e.byt
  have nB5 := fresh_ne hb5 e.row
  have l5 := le_row [I v, t.v] 2 hb5
  have f5 := row_self h b5 [I v, t.v] 2
  simp only [vm, mm]
  generalize hh5 : h.row b5 [I v, t.v] 2 = h5 at *
  have hpl := (proofOf_len v cls).1
  refine spec_ProofOf_own (hs.mono (Hp.le_trans (off_le _ _) l5)) fun o h1 l1 hnew => ⟨_, _, rfl, ?_⟩
  obtain ⟨g, gr, hg, hf⟩ := hnew
  have st : PS h B s p g h1 o (proofOf v cls).1 := ⟨⟨p, Nat.le_refl _, l1 _ _ (l5 _ _ e.row)⟩, gr, fun c x hc => none_of_le l5 (hg c x hc), Hp.le_trans (off_le _ _) (Hp.le_trans l5 hf)⟩
  have fin : ∀ {c g h' o P}, PS h B s c g h' o P → P.length ≤ 1048576 → R (Sl.v o) h' := fun st hl => k _ _ _ (le_off (off_at _ _) st.frame) (st.news hB hl)
  generalize (proofOf v cls).1 = P at *
  have hon := st.gr.len
  refine st.pick hB hbs (by omega) (by omega) fun x1 h2 _ _ st => ⟨_, rfl, bsplit_of (fun _ => fin st (by omega)) (fun _ => ?_)⟩
  refine joinP_of (fun J => ∀ h', PS h B s (p + 2) g h' o P → (0 < P.length → J true h') ∧ J false h') ?_ ?_
  rotate_left
  · intro J hJ
    refine bsplit_of (fun e => ?_) (fun e => ?_)
    · have h0 : 0 < P.length := by simp [hon] at e; omega
      refine st.pick hB hbs (by omega) (by omega) fun x2 h3 _ _ st => ⟨_, rfl, ?_⟩
      have := hJ h3 st
      cases hx : ((x2 : Int) == 0)
      · exact this.2
      · exact this.1 h0
    · exact (hJ h2 (st.more (by omega))).2
  intro h3 st
  refine ⟨fun hP0 => bs_t rfl ?_, bs_f rfl ?_⟩
  · rw [hon]
    refine st.pick hB hbs (by omega) (by omega) fun x2 h4 hx2 _ st => ⟨_, rfl, ?_⟩
    have hx2' := hx2 (by omega)
    refine st.pick hB hbs (by omega) (by omega) fun x3 h5 hx3 _ st => ⟨_, rfl, bsplit_of (fun _ => ?_) (fun _ => ?_)⟩
    · -- one left out
      have hin := st.news hB (by omega)
      refine loop_up P.length (fun i vs h' => ∃ o' Q, vs = [o.v, I x2, Sl.v o', I i] ∧ PS h B s (p + 2 + 1 + 1) (h5.sub h) h' o' Q ∧ Q.length ≤ i) ⟨⟨none, 0, 0⟩, [], rfl, st.start, by simp⟩ ?_
      rintro i _ h6 next hi ⟨o', Q, rfl, st', hQ⟩ hn
      refine ⟨_, _, _, _, rfl, ?_⟩
      by_cases hlt : i < P.length
      · refine bs_t (by simp [hon, hlt]) ?_
        rw [W_succ (by omega)]
        refine bsplit_of (fun _ => ?_) (fun _ => hn hlt _ _ ⟨o', Q, rfl, st', by omega⟩)
        obtain ⟨bc, oc, tc, hca, hcc, htc⟩ := hin.at hlt
        have hcc6 := st'.gr.keep.cell hcc
        simp only [vm, mm, hon, hca, hcc6]
        refine ⟨by omega, fun b7 hb7 => st'.app (by omega) htc hb7 fun o2 h7 st2 => hn hlt _ _ ⟨o2, _, rfl, st2, by simp; omega⟩⟩
      · exact bs_f (by simp [hon]; omega) (fin st' (by omega))
    · refine st.pick hB hbs (by omega) (by omega) fun x4 h6 hx4 _ st => ⟨_, rfl, ?_⟩
      intro b7 hb7
      have gb7 := none_of_le st.gr.keep hb7
      have st7 := st.lit hB (cs := [I (W (1 + (x4 : Int)))]) (n := 1) hb7
      obtain ⟨b, cs, z, ha, hrow, hcl, st8⟩ := st7.put (i := x2) (u := ⟨some ⟨b7, 0, none⟩, 1, 1⟩) (x := [W (1 + (x4 : Int))]) (by omega) ⟨by simp, by simp, .inr ⟨b7, 0, rfl, cellsAre_of (row_self ..)⟩⟩
      simp only [vm, mm, ha, hrow, hon]
      refine ⟨by omega, by omega, ?_⟩
      exact fin st8 (by simp; omega)
  · refine st.pick hB hbs (by omega) (by omega) fun x2 h4 hx2 _ st => ⟨_, rfl, ?_⟩
    refine bsplit_of (fun _ => ?_) (fun _ => bsplit_of (fun _ => ?_) (fun _ => bsplit_of (fun _ => ?_) (fun _ => ?_)))
    · intro b7 hb7
      intro b8 hb8
      have st7 := st.lit hB (cs := [I 1]) (n := 1) hb7
      exact st7.app (u := ⟨some ⟨b7, 0, none⟩, 1, 1⟩) (x := [1]) (by omega) ⟨by simp, by simp, .inr ⟨b7, 0, rfl, cellsAre_of (row_self ..)⟩⟩ (by rw [row_none]; exact hb8) fun o2 h9 st9 => fin st9 (by simp; omega)
    · intro b7 hb7
      intro b8 hb8
      have st7 := st.lit hB (cs := [I 0]) (n := 1) hb7
      exact st7.app (u := ⟨some ⟨b7, 0, none⟩, 1, 1⟩) (x := [0]) (by omega) ⟨by simp, by simp, .inr ⟨b7, 0, rfl, cellsAre_of (row_self ..)⟩⟩ (by rw [row_none]; exact hb8) fun o2 h9 st9 => fin st9 (by simp; omega)
    · intro b7 hb7
      exact st.app (u := ⟨none, 0, 0⟩) (x := []) (by omega) (ints_nil _) hb7 fun o2 h9 st9 => fin st9 (by simp; omega)
    · refine loop_down (302 - P.length) (fun m vs h' => ∃ o' Q g' c, vs = [.pointer (some ⟨B, 0, none⟩), Sl.v o'] ∧ PS h B s c g' h' o' Q ∧ c + m ≤ p + 400 ∧ m = 302 - Q.length ∧ Q.length ≤ 301) ⟨o, P, g, _, rfl, st, by omega, rfl, by omega⟩ ?_
      rintro m _ h6 next ⟨o', Q, g', c, rfl, st', hc, rfl, hQ⟩ hn
      refine ⟨_, _, rfl, ?_⟩
      refine st'.pick hB hbs (by omega) (by omega) fun x3 h7 hx3 _ st7 => ⟨_, rfl, ?_⟩
      have hx3' := hx3 (by omega)
      have w : W (300 + (x3 : Int)) = ((300 + x3 : Nat) : Int) := by rw [W_id (by omega) (by omega)]; omega
      have hon' := st7.gr.len
      rw [w]
      refine bsplit_of (fun e => ?_) (fun _ => fin st7 (by omega))
      have hlt : Q.length < 300 + x3 := by simp [hon'] at e; omega
      intro b7 hb7
      intro b8 hb8
      have st8 := st7.lit hB (cs := [I 1, I (-1)]) (n := 2) hb7
      exact st8.app (u := ⟨some ⟨b7, 0, none⟩, 2, 2⟩) (x := [1, -1]) (by omega) ⟨by simp, by simp, .inr ⟨b7, 0, rfl, cellsAre_of (row_self ..)⟩⟩ (by rw [row_none]; exact hb8) fun o2 h9 st9 =>
        hn (302 - (Q.length + 1)) (by omega) _ _ ⟨o2, _, _, _, rfl, st9, by omega, by simp, by simp; omega⟩

theorem DrawProofCode_spec {h : Hp} {s : Sl} {bs : List Nat} {R : Value → Hp → Prop} (hcap : s.n ≤ s.c) (hs : ByteS h s bs)
    (k : ∀ v t cls o P h', h.le h' → IntSS h' t cls → IntSS h' o P → R (.tuple #[.agg #[I v, Sl.v t], Sl.v o]) h') : c_spec_DrawProofCode #[s.v] h R := by
  apply R_spec_DrawProofCode
  unfold F_spec_DrawProofCode
  intro b3 hb3
  have l3 := le_row [I 0, .slice none 0 0] 2 hb3
  simp only [vm, mm]
  refine l17Open_spec hcap (hs.mono l3) fun B s' bs' hB rd => ⟨_, rfl, ?_⟩
  rw [row_none] at hB
  have f3 : ((h.row b3 [I 0, .slice none 0 0] 2).row B [s'.v, I (0 : Nat)] 2) b3 = some (.inl ⟨[I 0, .slice none 0 0], 2, false⟩) := by rw [row_ne _ _ hB.1.symm, row_self]
  have lH : h.le ((h.row b3 [I 0, .slice none 0 0] 2).row B [s'.v, I (0 : Nat)] 2) := le_row_of _ _ hB.2 l3
  refine cnf_spec rd (by omega) fun v t cls h1 q hd hq hfr rd1 hss => ⟨_, _, rfl, ?_⟩
  have f31 : h1 b3 = some (.inl ⟨[I 0, .slice none 0 0], 2, false⟩) := off_le _ _ _ _ (hfr _ _ (by rw [Hp.off, Hp.set_ne _ _ hB.1.symm]; exact f3))
  have lh1 : h.le (h1.off B) := Hp.le_trans (le_off (b := B) hB.2 lH) hfr
  generalize hH2 : (h.row b3 [I 0, .slice none 0 0] 2).row B [s'.v, I (0 : Nat)] 2 = H2 at *
  intro b4 hb4
  have n4B := fresh_ne hb4 rd1.row
  have l4 := le_row [I v, t.v] 2 hb4
  have f4 := row_self h1 b4 [I v, t.v] 2
  have f34 := l4 _ _ f31
  have rd4 := rd1.to l4
  generalize hh2 : h1.row b4 [I v, t.v] 2 = h2 at *
  refine ⟨by omega, ?_⟩
  have sub2 : (h1.sub H2).le (h2.off B) := by
    intro c x hc
    have hn2 : H2 c = none := sub_some_none (by rw [hc]; simp)
    have hcB : c ≠ B := fun hh => by rw [hh, rd.row] at hn2; cases hn2
    rw [sub_at hn2] at hc
    rw [Hp.off, Hp.set_ne _ _ hcB]; exact l4 _ _ hc
  refine proof_spec rd4 (by omega) (hss.mono sub2) fun o P h3 hf3 hP => ⟨_, rfl, ?_⟩
  have f43 : h3 b4 = some (.inl ⟨[I v, t.v], 2, false⟩) := off_le _ _ _ _ (hf3 _ _ (by rw [Hp.off, Hp.set_ne _ _ n4B.symm]; exact f4))
  have f33 : h3 b3 = some (.inl ⟨[I 0, .slice none 0 0], 2, false⟩) := off_le _ _ _ _ (hf3 _ _ (by rw [Hp.off, Hp.set_ne _ _ hB.1.symm]; exact f34))
  simp only [vm, mm, f33, f43, f4, true_and]
  refine ⟨by omega, k v t cls o P _ (le_row_of _ _ hb3 (Hp.le_trans lh1 (Hp.le_trans (off_mono _ l4) (Hp.le_trans hf3 (off_le _ _))))) (hss.mono fun c x hc => ?_) (hP.mono fun c x hc => ?_)⟩
  · have hn2 : H2 c = none := sub_some_none (by rw [hc]; simp)
    have hc3 : c ≠ b3 := fun hh => by rw [hh, f3] at hn2; cases hn2
    rw [row_ne _ _ hc3]
    exact off_le _ _ _ _ (hf3 _ _ (sub2 _ _ hc))
  · have hn : h2 c = none := sub_some_none (by rw [hc]; simp)
    have hc3 : c ≠ b3 := fun hh => by rw [hh, f34] at hn; cases hn
    rw [row_ne _ _ hc3]; exact sub_le _ _ _ _ hc

theorem FnProof_spec {h : Hp} {s : Sl} {bs : List Nat} {R : Value → Hp → Prop} (hcap : s.n ≤ s.c) (hs : ByteS h s bs)
    (k : R (.bool true) h) : c_laws_FnProof #[s.v] h R := by
  refine ACalls.drop (R_laws_FnProof ?_)
  unfold F_laws_FnProof
  refine bsplit_of (fun e => ⟨_, Hp.le_refl _, k⟩) (fun _ => ?_)
  refine DrawProofCode_spec hcap hs fun v t cls o p h1 l1 hss hps => ⟨_, _, _, rfl, ?_⟩
  intro b2 hb2
  have l2 := le_row [I v, t.v] 2 hb2
  have f2 := row_self h1 b2 [I v, t.v] 2
  simp only [vm, mm]
  generalize hh2 : h1.row b2 [I v, t.v] 2 = h2 at *
  have hs2 : IntSS h2 t cls := hss.mono l2
  have hp2 : IntSS h2 o p := hps.mono l2
  have l02 := Hp.le_trans l1 l2
  have hno := @proofCode_no v cls p
  have hgap := @code_gap v cls p
  refine ⟨by omega, impl_ProofCode_spec hs2 hp2 ⟨_, rfl, ?_⟩⟩
  refine joinP_of (fun J => J false h2) ?_ ?_
  rotate_left
  · intro J hJ
    simp only [vm, mm, cell_of f2]
    refine spec_ProofCode_spec hs2 hp2 ⟨_, rfl, bs_f (by simp) ?_⟩
    simp only [vm, mm, cell_of f2]
    refine impl_ProofGapAt_spec hs2 hp2 ⟨_, rfl, ?_⟩
    have : (!((proofCode v cls p == 2) == decide (proofGapAt v cls p ≥ 0))) = false := by
      rw [Bool.not_eq_false']
      rw [beq_iff_eq, Bool.eq_iff_iff, beq_iff_eq, decide_eq_true_eq]
      exact hgap
    rw [this]; exact hJ
  refine bs_f rfl ?_
  simp only [vm, mm, cell_of f2]
  refine spec_SatLeast_spec hs2 ⟨_, _, rfl, ?_⟩
  refine joinP_of (fun J => J false) ?_ ?_
  rotate_left
  · intro J hJ
    refine bsplit_of (fun e => ?_) (fun _ => hJ)
    have : decide (satLeast v cls ≥ 0) = false := decide_eq_false (hno (by simpa using e))
    rw [this]; exact hJ
  refine bs_f rfl ?_
  -- what is told
  refine GoodCnf_spec hcap (hs.mono l02) fun v' t' cls' h3 hok l3 hss' => ⟨_, _, rfl, ?_⟩
  intro b4 hb4
  have l4 := le_row [I v', t'.v] 2 hb4
  have f4 := row_self h3 b4 [I v', t'.v] 2
  generalize hh4 : h3.row b4 [I v', t'.v] 2 = h4 at *
  have hs4 : IntSS h4 t' cls' := hss'.mono l4
  refine ⟨by omega, impl_ProofOf_spec hs4 fun p0 pts h5 l5 op _ _ => ⟨_, _, rfl, ?_⟩⟩
  have f5 := l5 _ _ f4
  simp only [vm, mm, cell_of f5]
  refine spec_ProofOf_spec (hs4.mono l5) fun q0 h6 l6 oq => ⟨_, _, rfl, ?_⟩
  have f6 := l6 _ _ f5
  have hs6 := hs4.mono (Hp.le_trans l5 l6)
  have hp6 : IntSS h6 p0 (proofOf v' cls').1 := (op.ints.mono (sub_le _ _)).mono l6
  have l06 := Hp.le_trans l02 (Hp.le_trans l3 (Hp.le_trans l4 (Hp.le_trans l5 l6)))
  have hpn : p0.n = q0.n := by rw [hp6.len, oq.len]
  have hcode := @proofOf_code v' cls'
  have hno' := fun h => proofCode_no (@proofOf_code v' cls' h)
  generalize (proofOf v' cls').2 = ok at *
  refine joinP_of (fun J => J false) ?_ ?_
  rotate_left
  · intro J hJ
    refine bs_f (by simp) ?_
    rw [hpn]; simpa using hJ
  refine bs_f rfl ?_
  simp only [vm, mm, cell_of f6]
  refine spec_SatLeast_spec hs6 ⟨_, _, rfl, bsplit_of (fun _ => ⟨_, l06, k⟩) (fun eo => ?_)⟩
  have eo' : ok = true := by simpa using eo
  refine bs_t (by rw [decide_eq_false (hno' eo')]; rfl) ?_
  simp only [vm, mm, cell_of f6]
  refine impl_ProofCode_spec hs6 hp6 ⟨_, rfl, _, l06, ?_⟩
  rw [hcode eo']; exact k

end Go.Lead
