/- What both sides' ProofOf computes, and the walk of its law. -/
import Derived.Test.YthgleoodmgophaaQ3
namespace Go.Lead
open Go
set_option linter.unusedSimpArgs false
set_option linter.unusedVariables false

/-- Lists of which no two share a row. -/
def Dis (ts : List Sl) : Prop := ∀ (i j : Nat) (hi : i < ts.length) (hj : j < ts.length), i ≠ j → ∀ b ∈ ts[i].used, b ∉ ts[j].used

theorem cloneClauses_spec {h : Hp} {s : Sl} {xss : List (List Int)} {R : Value → Hp → Prop} (hs : IntSS h s xss) (hl : xss.length ≤ 1048576) (hll : ∀ l ∈ xss, l.length ≤ 1048576)
    (k : ∀ t ts h', h.le h' → OwnSS (h'.sub h) t ts xss → Dis ts → R (Sl.v t) h') : c_impl_cloneClauses #[s.v] h R := by
  apply R_impl_cloneClauses
  unfold F_impl_cloneClauses
  refine loop_up xss.length (fun i vs h' => ∃ o ts g, vs = [Sl.v o, s.v, I xss.length, I i] ∧ Buf h' o 1 (ts.map Sl.v) ∧ ts.length = i ∧ (∀ (j : Nat) (h1 : j < ts.length) (h2 : j < xss.length), Own g ts[j] 1 (xss[j].map I)) ∧ Dis ts ∧
      (∀ c x, g c = some x → h c = none) ∧ g.le (h'.offS o) ∧ h.le (h'.offS o))
    ⟨⟨none, 0, 0⟩, [], fun _ => none, by rw [hs.len]; rfl, buf_nil _ _, rfl, (fun j h1 => by simp at h1), (fun i j hi => by simp at hi), (fun c x hc => by cases hc), (fun c x hc => by cases hc), Hp.le_refl _⟩ ?_
  rintro i _ h1 next hi ⟨o, ts, g, rfl, hb, htl, hin, hdis, hgn, hgl, hle⟩ hn
  refine ⟨_, _, _, _, rfl, ?_⟩
  have l01 : h.le h1 := Hp.le_trans hle (offS_le _ _)
  have hon : o.n = ts.length := by have := hb.1; simp at this; omega
  have lg1 : g.le h1 := Hp.le_trans hgl (offS_le _ _)
  have usedg : ∀ j (hj : j < ts.length), ∀ b ∈ ts[j].used, ∃ x, g b = some x := by
    intro j hj b hb
    have := (hin j hj (by omega)).used b hb
    cases hx : g b with
    | none => exact absurd hx this
    | some x => exact ⟨x, rfl⟩
  by_cases hlt : i < xss.length
  · obtain ⟨bc, oc, tc, hca, hcc, htc⟩ := (hs.mono l01).at hlt
    refine bs_t (by simp [hlt]) ?_
    simp only [vm, mm, hs.len, hca, hcc, W_succ (n := i) (by omega)]
    have hxl := hll _ (List.getElem_mem hlt)
    refine ⟨by omega, cloneInts_spec htc hxl fun t h2 l2 ht => ⟨_, rfl, ?_⟩⟩
    intro b3 hb3
    have tfr := ht.fresh
    have oblk : ∀ a, o.a = some a → ∃ x, h1 a.block = some x := fun a ha => by
      rcases hb.2.2 with ⟨h0, _⟩ | ⟨c, hc, hcb⟩
      · rw [h0] at ha; cases ha
      · rw [hc] at ha; cases ha; exact ⟨_, hcb⟩
    have tblk : ∀ c ∈ t.blk, h1 c = none := blk_iff.2 tfr
    have lg2 : g.le h2 := Hp.le_trans lg1 l2
    have lp : (g.plus h2 t).le (h2.offS o) := plus_of (Hp.le_trans hgl (offS_mono o l2)) fun c x hc hcx => offS_of hcx fun a ha hac => by
      obtain ⟨y, hy⟩ := oblk a ha
      rw [hac, tblk c hc] at hy; cases hy
    have l3 := le_row [t.v] 1 hb3
    have htn := ht.1
    simp at htn
    have hown : Own (g.plus h2 t) t 1 (xss[i].map I) := Buf.own (plus_ibuf (xs := xss[i]) (ht.mono (sub_le _ _))) (by omega)
    refine aApp_buf ((hb.mono l2).mono l3) (by omega) (by omega) (by omega) ⟨b3, 0, rfl, fun i v hi => ?_⟩ (news := [t.v]) rfl rfl ?_
    · cases i with
      | zero => simp at hi; subst hi; exact cell_row _ _ _ _ _
      | succ i => simp at hi
    intro o' h4 hn' hb4 hl4 _
    have hl4' : (h2.offS o).le (h4.offS o') := Hp.le_trans (offS_mono o l3) hl4
    refine hn hlt _ _ ⟨o', ts ++ [t], g.plus h2 t, rfl, by rw [List.map_append]; exact hb4, by simp [htl], ?_, ?_, ?_, Hp.le_trans lp hl4', Hp.le_trans hle (Hp.le_trans (offS_mono o l2) hl4')⟩
    · intro j j1 j2
      by_cases hj : j < ts.length
      · rw [List.getElem_append_left hj]; exact (hin j hj j2).mono (plus_le lg2)
      · have : j = ts.length := by simp at j1; omega
        subst this
        simp only [List.getElem_append_right (Nat.le_refl _), Nat.sub_self, List.getElem_cons_zero]
        subst htl
        exact hown
    · have key : ∀ j (hj : j < ts.length), ∀ b ∈ ts[j].used, b ∉ t.used := by
        intro j hj b hbu hbt
        obtain ⟨x, hx⟩ := usedg j hj b hbu
        have hbk : b ∈ t.blk := by unfold Sl.used at hbt; split at hbt <;> simp_all
        have := lg1 _ _ hx
        rw [tblk b hbk] at this; cases this
      intro p q hp hq hpq b hbp
      simp only [List.length_append, List.length_cons, List.length_nil] at hp hq
      by_cases hp' : p < ts.length
      · rw [List.getElem_append_left hp'] at hbp
        by_cases hq' : q < ts.length
        · rw [List.getElem_append_left hq']; exact hdis p q hp' hq' hpq b hbp
        · have : q = ts.length := by omega
          subst this
          simp only [List.getElem_append_right (Nat.le_refl _), Nat.sub_self, List.getElem_cons_zero]
          exact key p hp' b hbp
      · have : p = ts.length := by omega
        subst this
        simp only [List.getElem_append_right (Nat.le_refl _), Nat.sub_self, List.getElem_cons_zero] at hbp
        have hq' : q < ts.length := by omega
        rw [List.getElem_append_left hq']
        exact fun hbq => key q hq' b hbq hbp
    · intro c x hc
      unfold Hp.plus at hc
      split at hc
      · exact none_of_le l01 (tblk c (by assumption))
      · exact hgn c x hc
  · have : i = xss.length := by omega
    subst this
    refine bs_f (by simp) (k o ts h1 l01 ⟨by omega, ?_, fun j j1 j2 => (hin j j1 j2).mono fun c x hc => by rw [sub_at (hgn c x hc)]; exact lg1 _ _ hc⟩ hdis)
    have hbuf : Buf ((h1.sub h).wo (ts.flatMap Sl.used)) o 1 (ts.map Sl.v) := by
      refine ⟨hb.1, hb.2.1, hb.2.2.imp id ?_⟩
      rintro ⟨c, hc, hcb⟩
      refine ⟨c, hc, ?_⟩
      rw [wo_at, sub_at]
      · exact hcb
      · cases hx : h c with
        | none => rfl
        | some x => exact absurd rfl ((offS_some (hle _ _ hx)).2 _ hc)
      · intro hm
        obtain ⟨u, hu, hbu⟩ := List.mem_flatMap.1 hm
        obtain ⟨j, hj, rfl⟩ := List.getElem_of_mem hu
        obtain ⟨x, hx⟩ := usedg j hj c hbu
        exact absurd rfl ((offS_some (hgl _ _ hx)).2 _ hc)
    exact hbuf.slc (by omega)

theorem wtSS_bound (m : Nat) : ∀ xss : List (List Int), (∀ l ∈ xss, l.length ≤ m) → wtSS xss ≤ xss.length * m := by
  intro xss
  induction xss with
  | nil => intro _; simp [wtSS]
  | cons l r ih =>
    intro h
    have h1 := ih fun x hx => h x (List.mem_cons_of_mem _ hx)
    have h2 := h l (by simp)
    simp only [wtSS, List.map_cons, List.sum_cons, List.length_cons] at *
    rw [Nat.add_mul]; omega

theorem markIntSS_own {h : Hp} {t : Sl} {ts : List Sl} {xss : List (List Int)} {k0 : Int} {R : Value → Hp → Prop} (hs : OwnSS h t ts xss) (hd : Dis ts) (h0 : 0 ≤ k0) (hk : k0 + wtSS xss ≤ 9223372036854775807)
    (k : ∀ h', (h.wo (ts.flatMap Sl.used)).le h' → (∀ (i : Nat) (h1 : i < ts.length), Own h' ts[i] 1 (markCells (k0 + (wtSS (xss.take i) : Nat)) ts[i].n)) → R (I (k0 + wtSS xss)) h') : c_laws_markIntSS #[t.v, I k0] h R := by
  apply R_laws_markIntSS
  unfold F_laws_markIntSS
  have hi := hs.ints
  have hb := hi.bound
  refine loop_up xss.length (fun i vs h' => vs = [t.v, I (k0 + (wtSS (xss.take i) : Nat)), I i] ∧ (h.wo (ts.flatMap Sl.used)).le h' ∧ (∀ u ∈ ts, OwnE h' u) ∧
      ∀ (j : Nat) (h1 : j < ts.length), j < i → Own h' ts[j] 1 (markCells (k0 + (wtSS (xss.take j) : Nat)) ts[j].n))
    ⟨by simp [wtSS], wo_le _ _, fun u hu => ?_, fun j _ h => by omega⟩ ?_
  · obtain ⟨i, hi, rfl⟩ := List.getElem_of_mem hu
    exact ⟨_, hs.inner i hi (by rw [← hs.len]; exact hi)⟩
  rintro i _ h1 next hle ⟨rfl, l1, hall, hmk⟩ hn
  refine ⟨_, _, _, rfl, ?_⟩
  by_cases hlt : i < xss.length
  · have htl : i < ts.length := by rw [hs.len]; exact hlt
    have htn := hi.len
    obtain ⟨b, o, ha, hc⟩ := SlC.get hs.outer (by omega)
    have c1 := l1.cell (hc i (Sl.v ts[i]) (by simp [htl]))
    have hw := wtSS_take xss hlt
    have hw2 := wtSS_le xss (i := i + 1)
    obtain ⟨cs, ho⟩ := hall _ (List.getElem_mem htl)
    have hln : ts[i].n = xss[i].length := by have := (hs.inner i htl hlt).1; simp at this; omega
    refine bs_t (by simp [hi.len, hlt]) ?_
    simp only [vm, hi.len, ha, c1, W_succ (n := i) (by omega)]
    refine ⟨by omega, markIntS_spec ho (by omega) (by omega) fun h2 l2 o2 _ => ⟨_, rfl, ?_⟩⟩
    refine hn hlt _ _ ⟨by rw [hln, hw]; simp [Int.add_assoc], ?_, fun u hu => OwnE.after ho l2 o2 (hall u hu), ?_⟩
    · refine Hp.le_trans (le_wo l1 fun c hc => wo_none ?_) l2
      exact List.mem_flatMap.2 ⟨_, List.getElem_mem htl, hc⟩
    · intro j hj hji
      by_cases hjx : j = i
      · subst hjx; exact o2
      · obtain ⟨q1, q2, q3⟩ := hmk j hj (by omega)
        refine ⟨q1, q2, ?_⟩
        by_cases hn0 : ts[j].n = 0
        · exact .inl hn0
        · obtain ⟨c, z, hc2, hcb⟩ := q3.resolve_left hn0
          refine .inr ⟨c, z, hc2, l2 _ _ ?_⟩
          have hcu : c ∈ ts[j].used := by simp [Sl.used, hn0, Sl.blk, hc2]
          rw [wo_at (hd j i hj htl hjx c hcu)]; exact hcb
  · have : i = xss.length := by omega
    subst this
    rw [List.take_length]
    exact bs_f (by simp [hi.len]) (k _ l1 fun j hj => hmk j hj (by rw [← hs.len]; exact hj))

theorem heldIntSS_spec {h : Hp} {t : Sl} {ts : List Sl} {xss : List (List Int)} {k0 : Int} {R : Value → Hp → Prop} (ho : SlC h t 1 (ts.map Sl.v)) (hl : ts.length = xss.length)
    (hin : ∀ (i : Nat) (h1 : i < ts.length) (h2 : i < xss.length), SlC h ts[i] 1 (markCells (k0 + (wtSS (xss.take i) : Nat)) ts[i].n) ∧ ts[i].n = xss[i].length) (h0 : 0 ≤ k0) (hk : k0 + wtSS xss ≤ 9223372036854775807) (hx : xss.length ≤ 1048576)
    (k : R (I (k0 + wtSS xss)) h) : c_laws_heldIntSS #[t.v, I k0] h R := by
  apply R_laws_heldIntSS
  unfold F_laws_heldIntSS
  have htn : t.n = xss.length := by have := ho.2.1; simp at this; omega
  refine loop_up xss.length (fun i vs h' => vs = [t.v, I (k0 + (wtSS (xss.take i) : Nat)), I i] ∧ h' = h) ⟨by simp [wtSS], rfl⟩ ?_
  rintro i _ _ next hle ⟨rfl, rfl⟩ hn
  refine ⟨_, _, _, rfl, ?_⟩
  by_cases hlt : i < xss.length
  · have htl : i < ts.length := by omega
    obtain ⟨b, o, ha, hc⟩ := SlC.get ho (by omega)
    have c1 := hc i (Sl.v ts[i]) (by simp [htl])
    have hw := wtSS_take xss hlt
    have hw2 := wtSS_le xss (i := i + 1)
    obtain ⟨q1, q2⟩ := hin i htl hlt
    refine bs_t (by simp [htn, hlt]) ?_
    simp only [vm, htn, ha, c1, W_succ (n := i) (by omega)]
    refine ⟨by omega, heldIntS_spec q1 (by omega) (by omega) ⟨_, rfl, bs_f (by simp; omega) (hn hlt _ _ ⟨?_, rfl⟩)⟩⟩
    rw [q2, hw]; simp [Int.add_assoc]
  · have : i = xss.length := by omega
    subst this
    rw [List.take_length]
    exact bs_f (by simp [htn]) k

/-- What both sides' ProofOf comes to. -/
def proofOf (v : Int) (cls : List (List Int)) : List (List Int) × Bool :=
  if (CnfOkB v cls && decide (leastI (AllB cls) (2 ^ v.toNat) < 0)) && decide ((treeP cls v.toNat [] []).length ≤ 300) then (treeP cls v.toNat [] [], true) else ([], false)
theorem proofOf_len (v : Int) (cls : List (List Int)) : (proofOf v cls).1.length ≤ 300 ∧ ∀ l ∈ (proofOf v cls).1, l.length ≤ 10 := by
  unfold proofOf
  split
  · rename_i h
    simp only [Bool.and_eq_true, decide_eq_true_eq] at h
    obtain ⟨hv, _⟩ := CnfOkB.iff.1 h.1.1
    refine ⟨h.2, fun l hl => ?_⟩
    have := treeP_lens (cls := cls) (v := v.toNat) v.toNat [] [] (by simp) (by simp) l hl
    omega
  · exact ⟨by simp, by simp⟩
theorem ints_nil (h : Hp) : IntS h ⟨none, 0, 0⟩ [] := ⟨by simp, by simp, .inl rfl⟩
theorem intss_nil (h : Hp) : IntSS h ⟨none, 0, 0⟩ [] := ⟨[], rfl, ⟨by simp, by simp, .inl rfl⟩, fun i h1 => by simp at h1⟩
theorem begins_nil : Begins [] := fun i h => by simp at h
/-- What is told afresh lies in what is new. -/
theorem told_new {g0 h0 h h' : Hp} {o' : Sl} {res : List (List Int)} (hg0 : ∀ c x, g0 c = some x → False) {g' : Hp} (e : GrownSS g' h' o' res) (hgc : ∀ c x, g' c = some x → g0 c = some x ∨ h0 c = none) (lf : h0.le (h'.offS o')) (l : h.le h0) (hl : res.length ≤ 1048576) :
    IntSS (h'.sub h) o' res := by
  have hn := e.len
  obtain ⟨ts, hb, h1, h2⟩ := e.buf
  have hb' : Buf (h'.sub h) o' 1 (ts.map Sl.v) := by
    refine ⟨hb.1, hb.2.1, hb.2.2.imp id ?_⟩
    rintro ⟨c, hc, hcb⟩
    refine ⟨c, hc, ?_⟩
    rw [sub_at]
    · exact hcb
    · cases hx : h c with
      | none => rfl
      | some x => exact absurd rfl ((offS_some (lf _ _ (l _ _ hx))).2 _ hc)
  refine ⟨ts, h1, hb'.slc (by omega), fun i a b => (h2 i a b).mono fun c x hc => ?_⟩
  rw [sub_at]
  · exact e.keep _ _ hc
  · rcases hgc c x hc with h3 | h3
    · exact absurd h3 fun h => hg0 _ _ h
    · exact none_of_le l h3

theorem spec_ProofOf_spec {h : Hp} {s : Sl} {cls : List (List Int)} {v : Int} {R : Value → Hp → Prop} (hs : IntSS h s cls)
    (k : ∀ t h', h.le h' → IntSS (h'.sub h) t (proofOf v cls).1 → R (.tuple #[Sl.v t, .bool (proofOf v cls).2]) h') : c_spec_ProofOf #[.agg #[I v, s.v]] h R := by
  apply R_spec_ProofOf
  unfold F_spec_ProofOf
  intro b hb
  have l0 := le_row [I v, s.v] 2 hb
  have f0 := row_self h b [I v, s.v] 2
  simp only [vm, mm]
  generalize hh0 : h.row b [I v, s.v] 2 = h0 at *
  have hs0 := hs.mono l0
  refine joinP_of (fun J => ∀ h', h0.le h' → J (!(CnfOkB v cls && decide (leastI (AllB cls) (2 ^ v.toNat) < 0))) h') ?_ ?_
  rotate_left
  · intro J hJ
    refine spec_CnfOk_spec hs0 ⟨_, rfl, bsplit_of (fun e => ?_) (fun e => ?_)⟩
    · have e' : CnfOkB v cls = false := by simpa using e
      have := hJ h0 (Hp.le_refl _)
      rw [e'] at this
      first | exact this | exact ⟨rfl, this⟩
    · have e' : CnfOkB v cls = true := by simpa using e
      obtain ⟨hv, hx, hcl⟩ := CnfOkB.iff.1 e'
      obtain ⟨m, rfl⟩ : ∃ m : Nat, v = m := ⟨v.toNat, by omega⟩
      rw [e', Bool.true_and] at hJ
      simp only [vm, mm, cell_of f0]
      refine l10Every_spec hs0 (by omega) fun t h1 l1 ht => ⟨_, rfl, (l1 _ _ f0).trans f0.symm, ?_⟩
      refine l10Least_spec (hs0.mono l1) (ht.mono (sub_le _ _)) (by simp) (by omega) hcl ⟨_, rfl, ?_⟩
      have he : AllW cls (List.replicate cls.length true) = AllB cls := funext fun c => allW_true cls c
      rw [he]
      have : decide (leastI (AllB cls) (2 ^ m) ≥ 0) = !decide (leastI (AllB cls) (2 ^ m) < 0) := by rw [Bool.eq_iff_iff]; simp
      rw [this]
      exact hJ h1 l1
  intro h1 l1
  have l01 := Hp.le_trans l0 l1
  refine bsplit_of (fun e => ?_) (fun e => ?_)
  · have e' : (CnfOkB v cls && decide (leastI (AllB cls) (2 ^ v.toNat) < 0)) = false := by rw [← Bool.not_eq_true']; exact e
    rw [proofOf, e', Bool.false_and, if_neg (by simp)] at k
    exact k ⟨none, 0, 0⟩ h1 l01 (intss_nil _)
  have e' : (CnfOkB v cls && decide (leastI (AllB cls) (2 ^ v.toNat) < 0)) = true := by simpa using e
  rw [proofOf, e', Bool.true_and] at k
  obtain ⟨hok, hno⟩ := Bool.and_eq_true_iff.1 e'
  have hno' := leastI_neg.1 (of_decide_eq_true hno)
  obtain ⟨hv, hx, hcl⟩ := CnfOkB.iff.1 hok
  obtain ⟨m, rfl⟩ : ∃ m : Nat, v = m := ⟨v.toNat, by omega⟩
  simp only [Int.toNat_natCast] at hno' k
  simp only [vm, mm, cell_of (l1 _ _ f0)]
  have tl := treeP_len cls m [] []
  refine l11Tree_spec (v := m) (by omega) (CnfOkB.wf hok) hx hno' m [] [] h1 (fun _ => none) s ⟨none, 0, 0⟩ ⟨none, 0, 0⟩ _ begins_nil (by simp) (hs0.mono l1) (ints_nil _) ⟨⟨[], buf_nil _ _, rfl, fun i h1 => by simp at h1⟩, fun c x hc => by cases hc⟩ (by simp) ?_
  intro o' h2 g2 e2 _ hgc lf
  have hn := e2.len
  have l12 : h1.le h2 := Hp.le_trans lf (offS_le _ _)
  have l02 := Hp.le_trans l01 l12
  refine ⟨o', rfl, bsplit_of (fun h3 => ?_) (fun h3 => ?_)⟩
  · have : ¬ (treeP cls m [] []).length ≤ 300 := by simp [hn] at h3; omega
    rw [if_neg (by simpa using this)] at k
    exact k ⟨none, 0, 0⟩ h2 l02 (intss_nil _)
  · have : (treeP cls m [] []).length ≤ 300 := by simp [hn] at h3; omega
    rw [if_pos (by simpa using this)] at k
    exact k o' h2 l02 (told_new (fun c x hc => by cases hc) e2 hgc lf l01 (show (treeP cls m [] []).length ≤ 1048576 by omega))

theorem impl_ProofOf_spec {h : Hp} {s : Sl} {cls : List (List Int)} {v : Int} {R : Value → Hp → Prop} (hs : IntSS h s cls)
    (k : ∀ t ts h', h.le h' → OwnSS (h'.sub h) t ts (proofOf v cls).1 → Dis ts → R (.tuple #[Sl.v t, .bool (proofOf v cls).2]) h') : c_impl_ProofOf #[.agg #[I v, s.v]] h R := by
  apply R_impl_ProofOf
  unfold F_impl_ProofOf
  intro b hb
  have l0 := le_row [I v, s.v] 2 hb
  have f0 := row_self h b [I v, s.v] 2
  simp only [vm, mm]
  generalize hh0 : h.row b [I v, s.v] 2 = h0 at *
  have hs0 := hs.mono l0
  have own0 : ∀ h' : Hp, OwnSS h' ⟨none, 0, 0⟩ [] [] := fun h' => ⟨rfl, ⟨by simp, by simp, .inl rfl⟩, fun i h1 => by simp at h1⟩
  have dis0 : Dis [] := fun i j hi => by simp at hi
  refine joinP_of (fun J => J (!(CnfOkB v cls && decide (leastI (AllB cls) (2 ^ v.toNat) < 0))) h0) ?_ ?_
  rotate_left
  · intro J hJ
    refine impl_CnfOk_spec hs0 ⟨_, rfl, bsplit_of (fun e => ?_) (fun e => ?_)⟩
    · have e' : CnfOkB v cls = false := by simpa using e
      rwa [e'] at hJ
    · have e' : CnfOkB v cls = true := by simpa using e
      obtain ⟨hv, hx, hcl⟩ := CnfOkB.iff.1 e'
      obtain ⟨m, rfl⟩ : ∃ m : Nat, v = m := ⟨v.toNat, by omega⟩
      rw [e', Bool.true_and] at hJ
      simp only [vm, mm, cell_of f0]
      refine least_spec hs0 (by omega) hcl ⟨_, rfl, ?_⟩
      have : decide (leastI (AllB cls) (2 ^ m) ≥ 0) = !decide (leastI (AllB cls) (2 ^ m) < 0) := by rw [Bool.eq_iff_iff]; simp
      rw [this]; exact hJ
  refine bsplit_of (fun e => ?_) (fun e => ?_)
  · have e' : (CnfOkB v cls && decide (leastI (AllB cls) (2 ^ v.toNat) < 0)) = false := by rw [← Bool.not_eq_true']; exact e
    rw [proofOf, e', Bool.false_and, if_neg (by simp)] at k
    exact k ⟨none, 0, 0⟩ [] h0 l0 (own0 _) dis0
  have e' : (CnfOkB v cls && decide (leastI (AllB cls) (2 ^ v.toNat) < 0)) = true := by simpa using e
  have hpl := proofOf_len v cls
  rw [proofOf, e', Bool.true_and] at k hpl
  obtain ⟨hok, hno⟩ := Bool.and_eq_true_iff.1 e'
  have hno' := leastI_neg.1 (of_decide_eq_true hno)
  obtain ⟨hv, hx, hcl⟩ := CnfOkB.iff.1 hok
  obtain ⟨m, rfl⟩ : ∃ m : Nat, v = m := ⟨v.toNat, by omega⟩
  simp only [Int.toNat_natCast] at hno' k hpl
  simp only [vm, mm, cell_of f0]
  have tl := treeP_len cls m [] []
  refine prove_spec (v := m) (by omega) (CnfOkB.wf hok) hx hno' m [] [] h0 (fun _ => none) s ⟨none, 0, 0⟩ ⟨none, 0, 0⟩ _ begins_nil (by simp) hs0 (ints_nil _) ⟨⟨[], buf_nil _ _, rfl, fun i h1 => by simp at h1⟩, fun c x hc => by cases hc⟩ (by simp) ?_
  intro o' h2 g2 e2 _ hgc lf
  have hn := e2.len
  have l12 : h0.le h2 := Hp.le_trans lf (offS_le _ _)
  have l02 := Hp.le_trans l0 l12
  refine ⟨o', rfl, bsplit_of (fun h3 => ?_) (fun h3 => ?_)⟩
  · have : ¬ (treeP cls m [] []).length ≤ 300 := by simp [hn] at h3; omega
    rw [if_neg (by simpa using this)] at k
    exact k ⟨none, 0, 0⟩ [] h2 l02 (own0 _) dis0
  · have : (treeP cls m [] []).length ≤ 300 := by simp [hn] at h3; omega
    rw [if_pos (by simpa using this)] at k hpl
    have hio : IntSS h2 o' (treeP cls m [] []) := (told_new (fun c x hc => by cases hc) e2 hgc lf l0 (by omega)).mono (sub_le _ _)
    refine cloneClauses_spec hio (by omega) (fun l hl => by have := hpl.2 l hl; omega) fun t ts h3 l3 ot hd => ⟨_, rfl, ?_⟩
    exact k t ts h3 (Hp.le_trans l02 l3) (ot.mono (sub_anti _ l02)) hd

theorem FnExactProofOf_spec {h : Hp} {s : Sl} {cls : List (List Int)} {v : Int} {R : Value → Hp → Prop} (hs : IntSS h s cls)
    (k : R (.bool true) h) : c_laws_FnExactProofOf #[.agg #[I v, s.v]] h R := by
  refine ACalls.drop (R_laws_FnExactProofOf ?_)
  unfold F_laws_FnExactProofOf
  intro b hb
  have l0 := le_row [I v, s.v] 2 hb
  simp only [vm, mm]
  refine szCnf_spec (hs.mono l0) (by omega) (by omega) fun r hr => ⟨_, rfl, bsplit_of (fun e => ⟨_, l0, k⟩) (fun e => ?_)⟩
  have e' : wtSS cls + cls.length ≤ 1048576 := by simp at e; omega
  simp only [vm, mm]
  -- the reference
  refine toCnf_spec (hs.mono l0) e' fun t1 h1 l1 ht1 => ⟨_, _, rfl, ?_⟩
  refine spec_ProofOf_spec (ht1.mono (sub_le _ _)) fun w0 h3 l3 ow => ⟨_, _, rfl, ?_⟩
  have l13 := Hp.le_trans l1 l3
  have f3 := l13 _ _ (row_self ..)
  simp only [vm, mm, cell_of f3]
  -- the program
  refine toCnf_own ((hs.mono l0).mono l13) e' fun t4 ts4 h4 l4 ot4 => ⟨_, _, rfl, ?_⟩
  intro b5 hb5
  have l5 := le_row [I v, t4.v] 2 hb5
  have l05 := Hp.le_trans l0 (Hp.le_trans l13 (Hp.le_trans l4 l5))
  have g6 := row_self h4 b5 [I v, t4.v] 2
  generalize hh6 : h4.row b5 [I v, t4.v] 2 = h6 at *
  have ot6 := (ot4.mono (sub_le _ _)).mono l5
  obtain ⟨hpl, hpll⟩ := proofOf_len v cls
  have hwt := wtSS_bound 10 _ hpll
  refine ⟨by omega, impl_ProofOf_spec ot6.ints fun g0 gts h7 l7 og hdis => ⟨_, _, rfl, ?_⟩⟩
  have ow7 := (ow.mono (sub_le _ _)).mono (Hp.le_trans l4 (Hp.le_trans l5 l7))
  refine joinP_of (fun J => J false h7) ?_ ?_
  rotate_left
  · intro J hJ
    refine eqIntSS_spec (og.mono (sub_le _ _)).ints ow7 ⟨_, rfl, bs_f (by simp) ?_⟩
    simpa using hJ
  have g7 := l7 _ _ g6
  have f7 := l7 _ _ (l5 _ _ (l4 _ _ f3))
  refine bs_f rfl ?_
  simp only [vm, mm, cell_of g7, cell_of f7]
  have l07 := Hp.le_trans l05 l7
  refine toCnf_spec (hs.mono l07) e' fun t8 h8 l8 ht8 => ⟨_, _, rfl, ?_⟩
  have g8 := l8 _ _ g7
  rw [g8, g7]
  refine ⟨rfl, eqCnf_spec (ot6.ints.mono (Hp.le_trans l7 l8)) (ht8.mono (sub_le _ _)) ⟨_, rfl, bs_f (by simp) ?_⟩⟩
  simp only [vm, mm, cell_of g8]
  -- marks
  refine markCnf_spec (ot6.mono (Hp.le_trans l7 l8)) (by omega) (by omega) fun h10 l10 => ⟨_, rfl, ?_⟩
  have d4 : ∀ c ∈ ts4.flatMap Sl.used, (h4.sub h3) c ≠ none := ot4.used
  have in4 : ∀ c ∈ ts4.flatMap Sl.used, ∃ x, h4 c = some x := fun c hc => by
    cases hx : h4 c with
    | none => exact absurd (none_of_le (sub_le _ _) hx) (d4 c hc)
    | some x => exact ⟨x, rfl⟩
  have k3 : h3.le h10 := keep_mark (Hp.le_trans l4 (Hp.le_trans l5 (Hp.le_trans l7 l8))) (fun c hc => sub_some_none (d4 c hc)) l10
  have kg : (h7.sub h6).le h10 := keep_mark (Hp.le_trans (sub_le _ _) l8) (fun c hc => by
    obtain ⟨x, hx⟩ := in4 c hc; exact sub_none (l5 _ _ hx)) l10
  refine joinP_of (fun J => J false h10) ?_ ?_
  rotate_left
  · intro J hJ
    refine bs_f (by simp; omega) (eqIntSS_spec (og.mono kg).ints ((ow.mono (sub_le _ _)).mono k3) ⟨_, rfl, bs_f (by simp) ?_⟩)
    simpa using hJ
  refine bs_f rfl (markIntSS_own (og.mono kg) hdis (by omega) (by omega) fun h12 l12 om => ⟨_, rfl, ?_⟩)
  have dg : ∀ c ∈ gts.flatMap Sl.used, (h7.sub h6) c ≠ none := og.used
  have k3'' : h3.le h12 := keep_mark k3 (fun c hc => none_of_le (Hp.le_trans l4 l5) (sub_some_none (dg c hc))) l12
  have out12 : SlC h12 g0 1 (gts.map Sl.v) := og.outer.mono (Hp.le_trans (le_wo (Hp.le_trans (wo_le _ _) kg) fun c hc => wo_none hc) l12)
  have held : ∀ (i : Nat) (h1 : i < gts.length) (h2 : i < (proofOf v cls).1.length), SlC h12 gts[i] 1 (markCells (1 + (wtSS ((proofOf v cls).1.take i) : Nat)) gts[i].n) ∧ gts[i].n = (proofOf v cls).1[i].length := fun i h1 h2 =>
    ⟨(om i h1).slc, by have := (og.inner i h1 h2).1; simp at this; omega⟩
  refine heldIntSS_spec out12 og.len held (by omega) (by omega) (by omega) ⟨_, rfl, bs_f (by simp; omega) (bs_f (by simp) ?_)⟩
  have f12 := k3'' _ _ f3
  simp only [vm, mm, cell_of f12]
  have l012 : h.le h12 := Hp.le_trans l0 (Hp.le_trans l13 k3'')
  refine toCnf_spec (hs.mono l012) e' fun t13 h13 l13' ht13 => ⟨_, _, rfl, ?_⟩
  refine impl_ProofOf_spec (ht13.mono (sub_le _ _)) fun w1 wts1 h15 l15 ow1 _ => ⟨_, _, rfl, ?_⟩
  have l1215 := Hp.le_trans l13' l15
  refine joinP_of (fun J => J false h15) ?_ ?_
  rotate_left
  · intro J hJ
    refine eqIntSS_spec (ow1.mono (sub_le _ _)).ints (((ow.mono (sub_le _ _)).mono k3'').mono l1215) ⟨_, rfl, bs_f (by simp) ?_⟩
    simpa using hJ
  refine bs_f rfl (heldIntSS_spec (out12.mono l1215) og.len (fun i h1 h2 => ⟨(held i h1 h2).1.mono l1215, (held i h1 h2).2⟩) (by omega) (by omega) (by omega) ⟨_, rfl, bs_f (by simp; omega) (bs_f (by simp) ⟨_, Hp.le_trans l012 l1215, k⟩)⟩)

end Go.Lead
