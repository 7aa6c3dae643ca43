/- What functions of the program and of the reference come to, walked one by one, and plain laws about it: part 3. No condition is added to the statement. -/
import Derived.Test.YtmnngolehecpjaaGreatZ1
namespace Go.Lead
open Go
set_option linter.unusedSimpArgs false
set_option linter.unusedVariables false
set_option maxRecDepth 100000
set_option maxHeartbeats 1000000
theorem noInt_map (ts : List Sl) : NoInt (ts.map Sl.v) := by
 have := noInt_sls ts 0
 simpa using this
theorem IntS.offL {h : Hp} {s t : Sl} {xs : List Int} {ts : List Sl} (e : IntS h t xs) (hb : Buf h s 1 (ts.map Sl.v)) : IntS (h.offS s) t xs := by
 rcases hb.2.2 with ⟨ha, _, _⟩ | ⟨b, ha, hbb⟩
 ·unfold Hp.offS; rw [ha]; exact e
 ·have ho : h.offS s = h.off b := by unfold Hp.offS; rw [ha]
  rw [ho]
  refine e.keepN hbb (noInt_map ts) fun c hc => ?_
  simp only [Hp.off, Hp.set]; rw [if_neg hc]
theorem Buf.pval {h : Hp} {s : Sl} {ts : List Sl} {vs : List (List Nat)} (e : Buf h s 1 (ts.map Sl.v)) (hlen : ts.length = vs.length) (hn : s.n ≤ 1048576) (ht : ∀ (j : Nat) (t : Sl), ts[j]? = some t → IntS h t (VL (vs.getD j []))) : PVal h s vs := by
 have hl := e.1
 simp at hl
 refine ⟨by omega, hn, fun p hp => ?_⟩
 rcases e.2.2 with ⟨_, h0, _⟩ | ⟨b, ha, hbb⟩
 ·omega
 ·refine ⟨b, 0, ts[p]'(by omega), ha, ?_, ht p _ (List.getElem?_eq_getElem (by omega))⟩
  rw [cell_of hbb, Nat.zero_add, Nat.mul_one, List.getElem?_map, List.getElem?_eq_getElem (by omega)]; rfl
def PNew (h : Hp) (s : Sl) : Prop := ∀ b o, s.a = some (Addr.mk b o none) → h b = none
theorem l4All_spec {h : Hp} {M : MSl} {m : ModelP} {sS sI : Sl} {st inp : List (List Nat)} {R : Value → Hp → Prop} (hs : ModelS h M m) (hm : Small m) (hok : nodesOkP m.nodes = true) (hl : m.nodes.length ≤ 60)
  (h1 : IntSS h sS (st.map VL)) (f1 : FitAt m.nodes 36 st) (h2 : IntSS h sI (inp.map VL)) (f2 : FitAt m.nodes 35 inp)
  (k : ∀ t h', h.le h' → t.n = m.nodes.length → PVal h' t (evalP m.nodes st inp m.nodes.length) → PNew h t → R (Sl.v t) h') : c_spec_l4All #[modelV M, sS.v, sI.v] h R := by
 apply R_spec_l4All
 unfold F_spec_l4All
 have hn := hs.nodes.len
 have hsn : sS.n = st.length := by obtain ⟨ts, e1, e2, _⟩ := h1; have := e2.2.1; simp at this e1; omega
 have hin : sI.n = inp.length := by obtain ⟨ts, e1, e2, _⟩ := h2; have := e2.2.1; simp at this e1; omega
 refine alloc_of fun b9 h3 hb9 l3 f9 => ?_
 refine loop_up m.nodes.length (fun i vs h' => ∃ (ts : List Sl) (out : Sl), vs = [sS.v, sI.v, .pointer (some ⟨b9, 0, none⟩), out.v, I (placesP (m.nodes.take i) 36).length, I (placesP (m.nodes.take i) 35).length, I i] ∧
  h.le (h'.offS out) ∧ (h'.offS out) b9 = some (.inl ⟨modelC M, 5, false⟩) ∧ out.n = i ∧ ts.length = i ∧ Buf h' out 1 (ts.map Sl.v) ∧
  (∀ (j : Nat) (t : Sl), ts[j]? = some t → IntS (h'.offS out) t (VL ((evalP m.nodes st inp i).getD j []))))
  ⟨[], ⟨none, 0, 0⟩, rfl, l3, f9, rfl, rfl, buf_nil _ _, fun j t ht => by simp at ht⟩ ?_
 clear f9 l3 hb9 h3
 rintro i _ h3 next hi ⟨ts, out, rfl, l3, f9, hon, htl, hbuf, hts⟩ hnx
 have lo := offS_le h3 out
 have f9' := lo _ _ f9
 have l3' := Hp.le_trans l3 lo
 refine ⟨sS, sI, _, _, out, _, _, _, rfl, ?_⟩
 (refine rdx_ ?_)
 by_cases hlt : i < m.nodes.length
 rotate_left
 ·have hie : i = m.nodes.length := by omega
  subst hie
  refine bs_f (by simp; omega) (k out h3 l3' hon ?_ fun b o hb => ?_)
  ·exact hbuf.pval (by rw [evalP_len]; omega) (by omega) fun j t ht => (hts j t ht).mono lo
  ·cases hx : h b with
   | none => rfl
   | some x => have := l3 _ _ hx; simp [Hp.offS, hb, Hp.off, Hp.set] at this
 refine bs_t (by simp; omega) ?_
 obtain ⟨n, hni⟩ : ∃ n, m.nodes[i]? = some n := ⟨_, List.getElem?_eq_getElem hlt⟩
 obtain ⟨b, o, ha, e0, e1, e2, e3, e4, e5, e6, e7, e8⟩ := (hs.nodes.mono l3').at hni
 (refine rdx_ ?_)
 refine ⟨b, o, ha, by omega, by omega, _, e0, _, e1, _, e2, _, e3, _, e4, _, e5, _, e6, _, e7, _, e8, ?_⟩
 refine alloc_of fun b44 h4 hb44 l4 f44' => ?_
 (with_reducible apply wr_of); (exact f44'); (exact l4); (exact hb44); (exact Nat.le_refl 9)
 intro h5 f44 kp l5
 clear f44' kp l4
 refine alloc_of fun b50 h6 hb50 l6 f50' => ?_
 have n44 := fresh_ne hb50 f44
 have b50n := none_of_le l5 hb50
 replace f44 := l6 _ _ f44
 (with_reducible apply wr_of); (exact f50'); (exact Hp.le_trans l5 l6); (exact b50n); (exact Nat.le_refl 1)
 intro h7 f50 kp l7
 replace f44 := kp_fact kp n44 f44
 have f50v : h7 b50 = some (.inl ⟨[.slice none 0 0], 1, false⟩) := f50
 have f9'' := l7 _ _ f9'
 clear f50 f50' kp l5 l6 hb44 hb50 h4 h5 h6
 have l07 := Hp.le_trans l3' l7
 have hnext36 := places_next (kind := 36) hni
 have hnext35 := places_next (kind := 35) hni
 have hev := evalP_succ (s := st) (inp := inp) hni
 have hb36 : (placesP (m.nodes.take i) 36).length ≤ i := by
  unfold placesP
  refine Nat.le_trans (List.length_filter_le _ _) ?_
  rw [List.length_range, List.length_take]; omega
 have hb35 : (placesP (m.nodes.take i) 35).length ≤ i := by
  unfold placesP
  refine Nat.le_trans (List.length_filter_le _ _) ?_
  rw [List.length_range, List.length_take]; omega
 (refine rdx_ ?_)
 refine joinP_of (fun J => ∀ (t : Sl) (x : List Nat) (h8 : Hp), h3.le h8 → h8 b50 = some (.inl ⟨[t.v], 1, false⟩) → IntS h8 t (VL x) → evalP m.nodes st inp (i + 1) = evalP m.nodes st inp i ++ [x] →
  J ((placesP (m.nodes.take (i + 1)) 36).length : Nat) ((placesP (m.nodes.take (i + 1)) 35).length : Nat) h8) ?_ (fun J hJ => ?_)
 ·intro t x h8 l8 g50 hval hev'
  (refine rdx_ ?_)
  refine alloc_of fun b113 h9 hb113 l9 f113 => ?_
  have l39 := Hp.le_trans l8 l9
  have l39o := offS_mono out l39
  refine aApp_buf (hbuf.mono l39) (by omega) (by omega) (by omega) ⟨b113, 0, rfl, cellsAre_of f113⟩ (by simp) rfl ?_
  intro s' h10 hs'n hbuf' l10 _
  rw [W_succ (by omega)]
  have l310 := Hp.le_trans l39o l10
  have hbuf'' : Buf h10 s' 1 ((ts ++ [t]).map Sl.v) := by rw [List.map_append]; exact hbuf'
  refine hnx hlt _ _ ⟨ts ++ [t], s', rfl, Hp.le_trans l3 l310, l310 _ _ f9, by omega, by simp; omega, hbuf'', fun j u hu => ?_⟩
  by_cases hj : j < i
  ·rw [List.getElem?_append_left (by omega)] at hu
   rw [hev', getD_append_left (by rw [evalP_len]; omega)]
   exact (hts j u hu).mono l310
  ·have hju := get_lt hu
   simp at hju
   have hje : j = i := by omega
   subst hje
   rw [List.getElem?_append_right (by omega), htl, Nat.sub_self] at hu
   simp at hu; subst hu
   rw [hev', List.getD_eq_getElem?_getD, List.getElem?_append_right (by rw [evalP_len]; omega), evalP_len, Nat.sub_self]
   exact ((hval.mono l9).offL (hbuf.mono l39)).mono l10
 have put : ∀ (h8 : Hp) (t : Sl) (x : List Nat) (P : Hp → Prop), h7.le h8 → IntS h8 t (VL x) → (∀ h9, h3.le h9 → h9 b50 = some (.inl ⟨[t.v], 1, false⟩) → IntS h9 t (VL x) → P h9) →
   ∃ (cs : List Value) (z : Nat), h8 b50 = some (.inl ⟨cs, z, false⟩) ∧ 0 + 1 ≤ List.length cs ∧ setH (h8.row b50 (lset cs 0 [t.v]) z) fun h' => P h' := by
  intro h8 t x P l8 hval hP
  have g50 := l8 _ _ f50v
  (with_reducible apply wr_of); (exact g50); (exact Hp.le_trans l7 l8); (exact b50n); (exact Nat.le_refl 1)
  intro h9 g kp l9
  exact hP h9 l9 g (hval.keep g50 kp)
 have hpv7 : PVal h7 out (evalP m.nodes st inp i) := (hbuf.pval (by rw [evalP_len]; omega) (by omega) fun j t ht => (hts j t ht).mono lo).mono l7
 have hfit := evalP_fit hok f1 f2 i (Nat.le_of_lt hlt)
 have htyp := typed_of hok hni
 refine bsplit_of (fun e => ?_) (fun e34 => ?_)
 ·have e := eq_of e
  rw [if_neg (by omega)] at hnext36 hnext35
  rw [if_neg (by omega), if_neg (by omega)] at hev
  obtain ⟨c1, c2⟩ := htyp.const e
  have := wordOk_iff.1 c2
  have hx : nodeValP m.nodes n (evalP m.nodes st inp i) = [n.n.toNat] := by unfold nodeValP; rw [if_pos e]
  (refine rdx_ ?_)
  refine l4One_spec fun t h8 l8 hval => ⟨t, rfl, put h8 t [n.n.toNat] _ l8 ?_ fun h9 l9 g50 hv9 => ?_⟩
  ·have : VL [n.n.toNat] = [n.n] := by simp [VL]; omega
   rw [this]; exact hval
  ·have := hJ t _ h9 l9 g50 hv9 (by rw [hev, hx])
   rw [hnext36, hnext35, Nat.add_zero, Nat.add_zero] at this; exact this
 replace e34 := ne_of e34
 refine bsplit_of (fun e => ?_) (fun e36 => ?_)
 ·have e := eq_of e
  rw [if_pos e] at hnext36 hev
  rw [if_neg (by omega)] at hnext35
  have hlt36 := places_lt hni e
  have hfk := f1.2 _ _ (places_at hni e)
  have hfs : sortAt m.nodes ((i : Nat) : Int) = n.sort := by unfold sortAt; rw [Int.toNat_natCast, hni]
  rw [hfs] at hfk
  rw [← f1.1] at hlt36
  obtain ⟨bs, os, t, ha, hc, ht⟩ := (h1.mono l07).at (i := (placesP (m.nodes.take i) 36).length) (by simpa using hlt36)
  have hst : (st.map VL)[(placesP (m.nodes.take i) 36).length]'(by simpa using hlt36) = VL (st.getD (placesP (m.nodes.take i) 36).length []) := by
   rw [List.getElem_map, List.getD_eq_getElem?_getD, List.getElem?_eq_getElem hlt36]; rfl
  rw [hst] at ht
  have hso := sortOkP_iff.1 htyp.sort
  have hlen4 : (st.getD (placesP (m.nodes.take i) 36).length []).length ≤ 4 := by
   rw [hfk.len]; have := Nat.pow_le_pow_right (n := 2) (by omega) (show n.sort.idx.toNat ≤ 2 by omega); simpa using this
  refine ⟨bs, os, ha, by omega, by omega, t, by rw [Int.toNat_natCast, Nat.mul_one]; exact hc, ?_⟩
  refine l4Copy_spec ht (by rw [VL_len]; omega) fun c h8 l8 hb8 => ⟨c, rfl, put h8 c _ _ l8 (hb8.slS (by have := hb8.1; rw [List.length_map, VL_len] at this; omega)) fun h9 l9 g50 hv9 => ?_⟩
  have := hJ c _ h9 l9 g50 hv9 hev
  rw [hnext36, hnext35, Nat.add_zero] at this
  rw [W_succ (by omega)]; exact this
 replace e36 := ne_of e36
 rw [if_neg e36] at hnext36 hev
 refine bsplit_of (fun e => ?_) (fun e35 => ?_)
 ·have e := eq_of e
  rw [if_pos e] at hnext35 hev
  have hlt35 := places_lt hni e
  have hfk := f2.2 _ _ (places_at hni e)
  have hfs : sortAt m.nodes ((i : Nat) : Int) = n.sort := by unfold sortAt; rw [Int.toNat_natCast, hni]
  rw [hfs] at hfk
  rw [← f2.1] at hlt35
  obtain ⟨bs, os, t, ha, hc, ht⟩ := (h2.mono l07).at (i := (placesP (m.nodes.take i) 35).length) (by simpa using hlt35)
  have hst : (inp.map VL)[(placesP (m.nodes.take i) 35).length]'(by simpa using hlt35) = VL (inp.getD (placesP (m.nodes.take i) 35).length []) := by
   rw [List.getElem_map, List.getD_eq_getElem?_getD, List.getElem?_eq_getElem hlt35]; rfl
  rw [hst] at ht
  have hso := sortOkP_iff.1 htyp.sort
  have hlen4 : (inp.getD (placesP (m.nodes.take i) 35).length []).length ≤ 4 := by
   rw [hfk.len]; have := Nat.pow_le_pow_right (n := 2) (by omega) (show n.sort.idx.toNat ≤ 2 by omega); simpa using this
  refine ⟨bs, os, ha, by omega, by omega, t, by rw [Int.toNat_natCast, Nat.mul_one]; exact hc, ?_⟩
  refine l4Copy_spec ht (by rw [VL_len]; omega) fun c h8 l8 hb8 => ⟨c, rfl, put h8 c _ _ l8 (hb8.slS (by have := hb8.1; rw [List.length_map, VL_len] at this; omega)) fun h9 l9 g50 hv9 => ?_⟩
  have := hJ c _ h9 l9 g50 hv9 hev
  rw [hnext36, hnext35, Nat.add_zero] at this
  rw [W_succ (by omega)]; exact this
 replace e35 := ne_of e35
 rw [if_neg e35] at hnext35 hev
 repeat' (refine rdx_ ?_)
 refine l4Node_spec (n := n) hl (Nat.le_of_lt hlt) htyp hfit (evalP_len _ _ _ _) (hs.nodes.mono l07) hpv7 e34 e35 e36 fun t h8 l8 hval => ⟨t, rfl, put h8 t _ _ l8 hval fun h9 l9 g50 hv9 => ?_⟩
 have := hJ t _ h9 l9 g50 hv9 hev
 rw [hnext36, hnext35, Nat.add_zero, Nat.add_zero] at this; exact this
theorem places_mem {l : List NodeP} {kind : Int} {p : Nat} (h : p ∈ placesP l kind) : ∃ n, l[p]? = some n ∧ n.kind = kind := by
 unfold placesP at h
 rw [List.mem_filter, List.mem_range] at h
 cases hn : l[p]? with
 | none => rw [hn] at h; exact absurd h.2 Bool.false_ne_true
 | some n => rw [hn] at h; exact ⟨n, rfl, by simpa using h.2⟩
theorem sumW_places (l : List NodeP) (hok : nodesOkP l = true) (kind : Int) : sumW l (placesP l kind) = bitsP l kind := by
 have key : ∀ i, i ≤ l.length → sumW l (placesP (l.take i) kind) = bitsP (l.take i) kind := by
  intro i
  induction i with
  | zero => intro _; simp [placesP, sumW, bitsP]
  | succ i ih =>
   intro hi
   obtain ⟨n, hn⟩ : ∃ n, l[i]? = some n := ⟨_, List.getElem?_eq_getElem (by omega)⟩
   rw [places_pre hn, bits_step kind hn, ← ih (by omega)]
   have hs := sortOkP_iff.1 (typed_of hok hn).sort
   have hsa : sortAt l ((i : Nat) : Int) = n.sort := by unfold sortAt; rw [Int.toNat_natCast, hn]
   by_cases hk : n.kind = kind
   ·rw [if_pos hk, if_pos hk]
    unfold sumW
    rw [List.map_append, List.sum_append]
    simp only [List.map_cons, List.map_nil, List.sum_cons, List.sum_nil, Nat.add_zero]
    unfold widA cellsA sortBitsP
    rw [hsa, Nat.mul_comm]
   ·rw [if_neg hk, if_neg hk, List.append_nil, Nat.add_zero]
 have := key l.length (Nat.le_refl _)
 rwa [List.take_of_length_le (Nat.le_refl _)] at this
theorem unpL_fit {l : List NodeP} (hok : nodesOkP l = true) (kind : Int) (code : Nat) : FitAt l kind (unpL l (placesP l kind) code) := by
 refine ⟨unpL_len _ _ _, fun k p hp => ?_⟩
 rw [unpL_get hp]
 obtain ⟨n, hn, _⟩ := places_mem (List.mem_of_getElem? hp)
 have hsa : sortAt l ((p : Nat) : Int) = n.sort := by unfold sortAt; rw [Int.toNat_natCast, hn]
 have hso := (typed_of hok hn).sort
 refine ⟨?_, fun x hx => unpC_lt hx⟩
 rw [unpC_len]
 unfold cellsA sortCellsP
 rw [hsa, if_pos hso]
theorem VL_append (a b : List Nat) : VL (a ++ b) = VL a ++ VL b := by simp [VL]
theorem impl_places_own {h : Hp} {M : MSl} {m : ModelP} {kind : Int} {R : Value → Hp → Prop} (hs : ModelS h M m) (hm : Small m)
  (k : ∀ t h', h.le (h'.offS t) → t.n ≤ m.nodes.length → Buf h' t 1 ((VL (placesP m.nodes kind)).map I) → R (Sl.v t) h') : c_impl_Model_places #[modelV M, I kind] h R := by
 apply R_impl_Model_places
 unfold F_impl_Model_places
 have hn := hs.nodes.len
 have hns := hm.nodes
 refine alloc_of fun b8 h1 hb8 l1 f8 => ?_
 (refine rdx_ ?_)
 refine loop_up m.nodes.length (fun i vs h' => ∃ out : Sl, vs = [I kind, out.v, M.no.v, I M.no.n, I i] ∧ h.le (h'.offS out) ∧ out.n ≤ i ∧ Buf h' out 1 ((VL (placesP (m.nodes.take i) kind)).map I)) ⟨⟨none, 0, 0⟩, rfl, l1, Nat.le_refl _, by simp [placesP, VL]; exact buf_nil _ _⟩ ?_
 clear l1 f8 hb8 h1
 rintro i _ h1 next hi ⟨out, rfl, l1, hon, hbuf⟩ hnx
 have lo := offS_le h1 out
 have l1' := Hp.le_trans l1 lo
 refine ⟨_, out, M.no, _, _, rfl, ?_⟩
 by_cases hlt : i < m.nodes.length
 ·refine bs_t (by simp; omega) ?_
  obtain ⟨n, hni⟩ : ∃ n, m.nodes[i]? = some n := ⟨_, List.getElem?_eq_getElem hlt⟩
  obtain ⟨b, o, ha, e0, e1, e2, e3, e4, e5, e6, e7, e8⟩ := (hs.nodes.mono l1').at hni
  refine ⟨b, o, ha, by omega, by omega, _, e0, _, e1, _, e2, _, e3, _, e4, _, e5, _, e6, _, e7, _, e8, ?_⟩
  refine alloc_of fun b36 h2 hb36 l2 f36 => ?_
  (with_reducible apply wr_of); (exact f36); (exact l2); (exact hb36); (exact Nat.le_refl 9)
  intro h3 f36' kp l3
  have hpre := places_pre (kind := kind) hni
  have l3o := offS_mono out l3
  (refine rdx_ ?_)
  rw [W_succ (by omega)]
  refine bsplit_of (fun e => ?_) (fun e => ?_)
  ·rw [if_pos (eq_of e)] at hpre
   refine alloc_of fun b44 h4 hb44 l4 f44 => ?_
   have l4o := offS_mono out l4
   refine aApp_buf (hbuf.mono (Hp.le_trans l3 l4)) (by omega) (by omega) (by omega) ⟨b44, 0, rfl, cellsAre_of f44⟩ (by simp) rfl ?_
   intro s' h5 hs'n hbuf' l5 _
   refine hnx hlt _ _ ⟨s', rfl, Hp.le_trans l1 (Hp.le_trans l3o (Hp.le_trans l4o l5)), by omega, ?_⟩
   rw [hpre, VL_append, List.map_append]; exact hbuf'
  ·rw [if_neg (ne_of e), List.append_nil] at hpre
   refine hnx hlt _ _ ⟨out, rfl, Hp.le_trans l1 l3o, by omega, ?_⟩
   rw [hpre]; exact hbuf.mono l3
 ·refine bs_f (by simp; omega) (k out h1 l1 (by omega) ?_)
  rw [List.take_of_length_le (by omega)] at hbuf
  exact hbuf
theorem impl_places_spec {h : Hp} {M : MSl} {m : ModelP} {kind : Int} {R : Value → Hp → Prop} (hs : ModelS h M m) (hm : Small m)
  (k : ∀ t h', h.le h' → IntS h' t (VL (placesP m.nodes kind)) → R (Sl.v t) h') : c_impl_Model_places #[modelV M, I kind] h R :=
 impl_places_own hs hm fun t h' l hn hb => k t h' (Hp.le_trans l (offS_le _ _)) (hb.slc_of (by have := hm.nodes; omega))
theorem l2Places_spec {h : Hp} {M : MSl} {m : ModelP} {kind : Int} {R : Value → Hp → Prop} (hs : ModelS h M m) (hm : Small m)
  (k : ∀ t h', h.le h' → IntS h' t (VL (placesP m.nodes kind)) → R (Sl.v t) h') : c_spec_l2Places #[modelV M, I kind] h R := by
 apply R_spec_l2Places
 unfold F_spec_l2Places
 have hn := hs.nodes.len
 have hns := hm.nodes
 refine alloc_of fun b8 h1 hb8 l1 f8 => ?_
 refine loop_up m.nodes.length (fun i vs h' => ∃ out : Sl, vs = [I kind, .pointer (some ⟨b8, 0, none⟩), out.v, I i] ∧ h.le (h'.offS out) ∧ (h'.offS out) b8 = some (.inl ⟨modelC M, 5, false⟩) ∧ out.n ≤ i ∧ Buf h' out 1 ((VL (placesP (m.nodes.take i) kind)).map I)) ⟨⟨none, 0, 0⟩, rfl, l1, f8, Nat.le_refl _, by simp [placesP, VL]; exact buf_nil _ _⟩ ?_
 clear l1 f8 hb8 h1
 rintro i _ h1 next hi ⟨out, rfl, l1, f8, hon, hbuf⟩ hnx
 have lo := offS_le h1 out
 have l1' := Hp.le_trans l1 lo
 have f8' := lo _ _ f8
 refine ⟨_, _, _, out, _, rfl, ?_⟩
 (refine rdx_ ?_)
 by_cases hlt : i < m.nodes.length
 ·refine bs_t (by simp; omega) ?_
  obtain ⟨n, hni⟩ : ∃ n, m.nodes[i]? = some n := ⟨_, List.getElem?_eq_getElem hlt⟩
  obtain ⟨b, o, ha, e0, _⟩ := (hs.nodes.mono l1').at hni
  have hpre := places_pre (kind := kind) hni
  (refine rdx_ ?_)
  refine ⟨b, o, ha, by omega, by omega, _, e0, ?_⟩
  rw [W_succ (by omega)]
  refine bsplit_of (fun e => ?_) (fun e => ?_)
  ·rw [if_pos (eq_of e)] at hpre
   refine alloc_of fun b44 h4 hb44 l4 f44 => ?_
   have l4o := offS_mono out l4
   refine aApp_buf (hbuf.mono l4) (by omega) (by omega) (by omega) ⟨b44, 0, rfl, cellsAre_of f44⟩ (by simp) rfl ?_
   intro s' h5 hs'n hbuf' l5 _
   have l15 := Hp.le_trans l4o l5
   refine hnx hlt _ _ ⟨s', rfl, Hp.le_trans l1 l15, l15 _ _ f8, by omega, ?_⟩
   rw [hpre, VL_append, List.map_append]; exact hbuf'
  ·rw [if_neg (ne_of e), List.append_nil] at hpre
   refine hnx hlt _ _ ⟨out, rfl, l1, f8, by omega, ?_⟩
   rw [hpre]; exact hbuf
 ·refine bs_f (by simp; omega) (k out h1 l1' ?_)
  rw [List.take_of_length_le (by omega)] at hbuf
  exact hbuf.slc_of (by omega)
structure Cells (h0 h : Hp) (out : Sl) (ts : List Sl) (vs : List (List Nat)) : Prop where
 len : ts.length = vs.length
 row : ∀ (i : Nat) (t : Sl), ts[i]? = some t → ∃ b, t = ⟨some ⟨b, 0, none⟩, (vs.getD i []).length, (vs.getD i []).length⟩ ∧ h0 b = none ∧
  (h.offS out) b = some (.inl ⟨(VL (vs.getD i [])).map I, (vs.getD i []).length, false⟩)
 dis : ∀ (i j : Nat) (t u : Sl), ts[i]? = some t → ts[j]? = some u → t.a = u.a → i = j
 buf : Buf h out 1 (ts.map Sl.v)
 le : h0.le (h.offS out)
theorem Cells.ints {h0 h : Hp} {out : Sl} {ts : List Sl} {vs : List (List Nat)} (e : Cells h0 h out ts vs) (hl : ∀ v ∈ vs, v.length ≤ 1048576) (hn : out.n ≤ 1048576) : IntSS h out (vs.map VL) := by
 refine ⟨ts, by rw [List.length_map]; exact e.len, e.buf.slc_of (by omega), fun i h1 h2 => ?_⟩
 obtain ⟨b, ht, _, hr⟩ := e.row i _ (List.getElem?_eq_getElem h1)
 have hi : i < vs.length := by rw [List.length_map] at h2; exact h2
 have hv : (vs.map VL)[i] = VL (vs.getD i []) := by
  rw [List.getElem_map, List.getD_eq_getElem?_getD, List.getElem?_eq_getElem hi]; rfl
 have hvl : (vs.getD i []).length ≤ 1048576 := by
  rw [List.getD_eq_getElem?_getD, List.getElem?_eq_getElem hi]; exact hl _ (List.getElem_mem hi)
 rw [ht, hv]
 refine ⟨by dsimp only; omega, by simp [VL_len], .inr ⟨b, 0, rfl, cellsAre_of (offS_le _ _ _ _ hr)⟩⟩
def zerosL (l : List NodeP) (ps : List Nat) : List (List Nat) := ps.map fun p => List.replicate (cellsA l p) 0
theorem cellsA_le (l : List NodeP) (p : Nat) : cellsA l p ≤ 4 := sortCells_le _
theorem VL_getE {ps : List Nat} {i p : Nat} (h : ps[i]? = some p) : (VL ps)[i]? = some ((p : Nat) : Int) := by simp [VL, h]
theorem NodeS.sortc {h : Hp} {s : Sl} {l : List NodeP} (e : NodeS h s l) {p : Nat} (hp : p < l.length) :
  ∃ b o, s.a = some (Addr.mk b o none) ∧ (p : Int) < (s.n : Int) ∧ Hp.cell h b ((o + Int.toNat (p : Int) * 9) + 6) = some (I (sortAt l p).idx) ∧ Hp.cell h b ((o + Int.toNat (p : Int) * 9) + 6 + 1) = some (I (sortAt l p).wid) := by
 obtain ⟨n, hn1⟩ : ∃ n, l[p]? = some n := ⟨_, List.getElem?_eq_getElem hp⟩
 obtain ⟨ba, oa, ha1, _, _, _, _, _, _, c6, c7, _⟩ := e.at hn1
 have hsa : sortAt l ((p : Nat) : Int) = n.sort := by unfold sortAt; rw [Int.toNat_natCast, hn1]
 refine ⟨ba, oa, ha1, by have := e.len; omega, ?_⟩
 rw [hsa]; exact ⟨c6, c7⟩
theorem zeros_spec {h : Hp} {M : MSl} {m : ModelP} {s : Sl} {ps : List Nat} {R : Value → Hp → Prop} (hs : ModelS h M m) (hm : Small m) (hp : IntS h s (VL ps)) (hps : ∀ p ∈ ps, p < m.nodes.length) (hpl : ps.length ≤ 1048576)
  (k : ∀ out ts h', Cells h h' out ts (zerosL m.nodes ps) → out.n = ps.length → R (Sl.v out) h') : c_impl_Model_zeros #[modelV M, s.v] h R := by
 apply R_impl_Model_zeros
 unfold F_impl_Model_zeros
 have hn := hs.nodes.len
 have hns := hm.nodes
 have hsn := hp.len
 rw [VL_len] at hsn
 refine alloc_of fun b8 h1 hb8 l1 f8 => ?_
 refine loop_up ps.length (fun i vs h' => ∃ (out : Sl) (ts : List Sl), vs = [.pointer (some ⟨b8, 0, none⟩), out.v, s.v, I s.n, I i] ∧ Cells h h' out ts (zerosL m.nodes (ps.take i)) ∧ out.n = i ∧ (h'.offS out) b8 = some (.inl ⟨modelC M, 5, false⟩))
  ⟨⟨none, 0, 0⟩, [], rfl, ⟨rfl, fun i t ht => by simp at ht, fun i j t u ht => by simp at ht, buf_nil _ _, l1⟩, rfl, f8⟩ ?_
 clear l1 f8 hb8 h1
 rintro i _ h1 next hi ⟨out, ts, rfl, hC, hon, f8⟩ hnx
 have lo := offS_le h1 out
 have l1 := Hp.le_trans hC.le lo
 have f8' := lo _ _ f8
 refine ⟨_, _, out, s, _, _, rfl, ?_⟩
 by_cases hlt : i < ps.length
 ·refine bs_t (by simp; omega) ?_
  obtain ⟨p, hpi⟩ : ∃ p, ps[i]? = some p := ⟨_, List.getElem?_eq_getElem hlt⟩
  have hpm := hps p (List.mem_of_getElem? hpi)
  obtain ⟨b, o, ha, hc⟩ := (hp.mono l1).get (VL_getE hpi)
  refine ⟨b, o, ha, by omega, by omega, _, hc, ?_⟩
  (refine rdx_ ?_)
  obtain ⟨bn, on, han, hpn, c6, c7⟩ := (hs.nodes.mono l1).sortc hpm
  refine ⟨bn, on, han, by omega, hpn, _, c6, _, c7, ?_⟩
  refine impl_SortCells_spec ⟨_, rfl, ?_⟩
  have hce : sortCellsP ⟨(sortAt m.nodes p).idx, (sortAt m.nodes p).wid⟩ = cellsA m.nodes p := rfl
  rw [hce]
  have hc4 := cellsA_le m.nodes p
  refine ⟨by omega, by omega, by omega, by omega, ?_⟩
  refine alloc_of fun b38 h2 hb38 l2 f38 => ?_
  refine alloc_of fun b40 h3 hb40 l3 f40 => ?_
  have l13 := Hp.le_trans l2 l3
  have l13o := offS_mono out l13
  replace f38 := l3 _ _ f38
  rw [Int.toNat_natCast, Nat.mul_one, zeroRow_one] at f38
  rw [Int.toNat_natCast] at f40
  have hno : ∀ a, out.a = some a → a.block ≠ b38 := by
   intro a ha' e
   rcases hC.buf.2.2 with ⟨h0, _⟩ | ⟨c, hc', hcb⟩
   ·rw [h0] at ha'; cases ha'
   ·rw [hc'] at ha'; cases ha'
    subst e
    rw [hb38] at hcb; cases hcb
  have f38o : (h3.offS out) b38 = some (.inl ⟨List.replicate (cellsA m.nodes p) (I 0), cellsA m.nodes p, false⟩) := by rw [offS_ne hno]; exact f38
  refine aApp_buf (hC.buf.mono l13) (by omega) (by omega) (by omega) ⟨b40, 0, rfl, cellsAre_of f40⟩ (by simp) rfl ?_
  intro s' h4 hs'n hbuf' l4 _
  have l14 := Hp.le_trans l13o l4
  rw [W_succ (by omega)]
  have hvs : zerosL m.nodes (ps.take (i + 1)) = zerosL m.nodes (ps.take i) ++ [List.replicate (cellsA m.nodes p) 0] := by
   unfold zerosL
   rw [List.take_succ_eq_append_getElem hlt, List.map_append]
   rw [List.getElem?_eq_getElem hlt] at hpi
   rw [Option.some.inj hpi]; rfl
  have hlen := hC.len
  have hzl : (zerosL m.nodes (ps.take i)).length = i := by unfold zerosL; simp; omega
  have b38h : h b38 = none := none_of_le l1 hb38
  refine hnx hlt _ _ ⟨s', ts ++ [⟨some ⟨b38, 0, none⟩, cellsA m.nodes p, cellsA m.nodes p⟩], rfl, ⟨?_, fun j t ht => ?_, fun j j' t u ht hu hau => ?_, by rw [List.map_append]; exact hbuf', Hp.le_trans hC.le l14⟩, by omega, l14 _ _ f8⟩
  ·rw [hvs, List.length_append, List.length_append, hlen]; rfl
  ·by_cases hj : j < i
   ·rw [List.getElem?_append_left (by omega)] at ht
    obtain ⟨b', e1, e2, e3⟩ := hC.row j t ht
    rw [hvs, getD_append_left (by omega)]
    exact ⟨b', e1, e2, l14 _ _ e3⟩
   ·have hju := get_lt ht
    simp at hju
    have hje : j = i := by omega
    subst hje
    rw [List.getElem?_append_right (by omega), show j - ts.length = 0 by omega] at ht
    simp at ht; subst ht
    rw [hvs, List.getD_eq_getElem?_getD, List.getElem?_append_right (by omega), hzl, Nat.sub_self]
    refine ⟨b38, by simp, b38h, ?_⟩
    have := l4 _ _ f38o
    simpa [VL] using this
  ·have hb : ∀ (q : Nat) (z : Sl), ts[q]? = some z → z.a ≠ some ⟨b38, 0, none⟩ := by
    intro q z hz he
    obtain ⟨b', e1, e2, e3⟩ := hC.row q z hz
    rw [e1] at he
    have hbb : b' = b38 := by simpa using he
    subst hbb
    have := lo _ _ e3
    rw [hb38] at this; cases this
   by_cases hj : j < i
   ·rw [List.getElem?_append_left (by omega)] at ht
    by_cases hj' : j' < i
    ·rw [List.getElem?_append_left (by omega)] at hu
     exact hC.dis j j' t u ht hu hau
    ·have hju := get_lt hu
     simp at hju
     rw [List.getElem?_append_right (by omega), show j' - ts.length = 0 by omega] at hu
     simp at hu; subst hu
     exact absurd hau (hb j t ht)
   ·have hjt := get_lt ht
    simp at hjt
    by_cases hj' : j' < i
    ·rw [List.getElem?_append_left (by omega)] at hu
     rw [List.getElem?_append_right (by omega), show j - ts.length = 0 by omega] at ht
     simp at ht; subst ht
     exact absurd hau.symm (hb j' u hu)
    ·have hju := get_lt hu
     simp at hju
     omega
 ·have hie : i = ps.length := by omega
  subst hie
  rw [List.take_of_length_le (Nat.le_refl _)] at hC
  exact bs_f (by simp; omega) (k out ts h1 hC hon)
structure Good (m : ModelP) : Prop where
 nl : m.nodes.length ≤ 60
 il : m.inits.length ≤ 60
 xl : m.nexts.length ≤ 60
 bl : m.bads.length ≤ 4
 hl : m.holds.length ≤ 4
 ok : nodesOkP m.nodes = true
 twice : twiceP m = false
 ini : ∀ b ∈ m.inits, initOkP m.nodes b = true
 nex : ∀ b ∈ m.nexts, nextOkP m.nodes b = true
 bad : ∀ p ∈ m.bads, propOkP m.nodes p = true
 hol : ∀ p ∈ m.holds, propOkP m.nodes p = true
 n8 : bitsP m.nodes 36 ≤ 8
 k5 : bitsP m.nodes 35 ≤ 5
theorem ite_zero {c : Prop} [Decidable c] {x y : Int} (hx : x ≠ 0) (h : (if c then x else y) = 0) : ¬ c ∧ y = 0 := by
 split at h
 ·exact absurd h hx
 ·rename_i hc; exact ⟨hc, h⟩
theorem good_of {m : ModelP} (h : modelCodeP m = 0) : Good m := by
 unfold modelCodeP at h
 obtain ⟨h1, h⟩ := ite_zero (by decide) h
 obtain ⟨h2, h⟩ := ite_zero (by decide) h
 obtain ⟨h3, h⟩ := ite_zero (by decide) h
 obtain ⟨h4, h⟩ := ite_zero (by decide) h
 obtain ⟨h5, h⟩ := ite_zero (by decide) h
 obtain ⟨h6, h⟩ := ite_zero (by decide) h
 simp only [Bool.not_eq_false, Bool.and_eq_true, List.all_eq_true, Bool.not_eq_true] at h2 h3 h4 h5
 exact ⟨by omega, by omega, by omega, by omega, by omega, h2, h3, h4.1, h4.2, h5.1, h5.2, by omega, by omega⟩
theorem sorts_ok {l : List NodeP} (hok : nodesOkP l = true) {p : Nat} (hp : p < l.length) : sortOkP (sortAt l p) = true := by
 have hn : l[p]? = some l[p] := List.getElem?_eq_getElem hp
 have : sortAt l ((p : Nat) : Int) = l[p].sort := by unfold sortAt; rw [Int.toNat_natCast, hn]
 rw [this]; exact (typed_of hok hn).sort
theorem fit_cells {l : List NodeP} (hok : nodesOkP l = true) {p : Nat} (hp : p < l.length) {v : List Nat} (h : Fit (sortAt l p) v) : v.length = cellsA l p ∧ ∀ x ∈ v, x < 2 ^ widA l p := by
 refine ⟨?_, h.lt⟩
 unfold cellsA sortCellsP
 rw [if_pos (sorts_ok hok hp), h.len]
theorem cells_fit {l : List NodeP} (hok : nodesOkP l = true) {p : Nat} (hp : p < l.length) {v : List Nat} (h : v.length = cellsA l p ∧ ∀ x ∈ v, x < 2 ^ widA l p) : Fit (sortAt l p) v := by
 refine ⟨?_, h.2⟩
 have := h.1
 unfold cellsA sortCellsP at this
 rwa [if_pos (sorts_ok hok hp)] at this
theorem places_ltL {l : List NodeP} {kind : Int} {p : Nat} (h : p ∈ placesP l kind) : p < l.length := by
 obtain ⟨n, hn, _⟩ := places_mem h
 exact get_lt hn
theorem fitR_at {l : List NodeP} (hok : nodesOkP l = true) {kind : Int} {vs : List (List Nat)} (h : FitR l (placesP l kind) vs) : FitAt l kind vs := by
 refine ⟨fitR_len h, fun k p hp => ?_⟩
 exact cells_fit hok (places_ltL (List.mem_of_getElem? hp)) (fitR_get h hp)
def valsP (m : ModelP) (s i : List (List Nat)) : List (List Nat) := evalP m.nodes s i m.nodes.length
abbrev stP (m : ModelP) : List Nat := placesP m.nodes 36
abbrev inP (m : ModelP) : List Nat := placesP m.nodes 35
def codeV (m : ModelP) (s i : Nat) : List (List Nat) := valsP m (unpL m.nodes (stP m) s) (unpL m.nodes (inP m) i)
def holdsV (m : ModelP) (v : List (List Nat)) : Bool := m.holds.all fun p => decide (cellP v p = 1)
def badV (m : ModelP) (v : List (List Nat)) : Option Nat := m.bads.findIdx? fun p => decide (cellP v p = 1)
def badI (m : ModelP) (v : List (List Nat)) : Int := match badV m v with | some d => d | none => -1
def nextF (m : ModelP) (v : List (List Nat)) (p : Nat) : Option (List Nat) := (boundP m.nexts p).map fun k => v.getD k []
def followP (m : ModelP) (v : List (List Nat)) : List (List Nat) := heldR m.nodes (nextF m v) (stP m)
def wideP (c : Nat) (v : List Nat) : List Nat := v ++ List.replicate (c - v.length) (v.getD 0 0)
def val0 (m : ModelP) : List (List Nat) := valsP m (zerosL m.nodes (stP m)) (zerosL m.nodes (inP m))
def initF (m : ModelP) (p : Nat) : Option (List Nat) := (boundP m.inits p).map fun k => wideP (cellsA m.nodes p) ((val0 m).getD k [])
def beginP (m : ModelP) : List (List Nat) := heldR m.nodes (initF m) (stP m)
def fixP (m : ModelP) (binds : List BindP) : Nat := maskR m.nodes (fun p => (boundP binds p).isSome) (stP m)
def sysP (m : ModelP) : SysP where
 n := bitsP m.nodes 36
 k := bitsP m.nodes 35
 hold c := holdsV m (codeV m (c % 2 ^ bitsP m.nodes 36) (c / 2 ^ bitsP m.nodes 36))
 bad c := (badV m (codeV m (c % 2 ^ bitsP m.nodes 36) (c / 2 ^ bitsP m.nodes 36))).isSome
 next c := packR m.nodes (stP m) (followP m (codeV m (c % 2 ^ bitsP m.nodes 36) (c / 2 ^ bitsP m.nodes 36)))
 fixed := fixP m m.nexts
 bfix := fixP m m.inits
 bas := packR m.nodes (stP m) (beginP m)
theorem bound_some {binds : List BindP} {p k : Nat} (h : boundP binds p = some k) : ∃ b ∈ binds, b.state = (p : Int) ∧ b.node.toNat = k := by
 unfold boundP at h
 rw [Option.map_eq_some_iff] at h
 obtain ⟨b, hb, hk⟩ := h
 exact ⟨b, List.mem_of_find?_eq_some hb, by simpa using List.find?_some hb, hk⟩
theorem next_parts {l : List NodeP} {b : BindP} (h : nextOkP l b = true) : placeB l b.state = true ∧ placeB l b.node = true ∧ kindAt l b.state = 36 ∧ sortAt l b.state = sortAt l b.node := by
 unfold nextOkP at h
 simp only [Bool.and_eq_true, decide_eq_true_eq] at h
 exact ⟨h.1.1.1, h.1.1.2, h.1.2, h.2⟩
theorem init_parts {l : List NodeP} {b : BindP} (h : initOkP l b = true) : placeB l b.state = true ∧ placeB l b.node = true ∧ kindAt l b.state = 36 ∧ (sortAt l b.state = sortAt l b.node ∨ sortAt l b.node = wordS (sortAt l b.state).wid) ∧ (madeP l l.length).getD b.node.toNat false = false := by
 unfold initOkP at h
 simp only [Bool.and_eq_true, Bool.or_eq_true, decide_eq_true_eq, Bool.not_eq_true'] at h
 exact ⟨h.1.1.1, h.1.1.2, h.1.2, h.2.1, h.2.2⟩
theorem place_iff {l : List NodeP} {p : Int} : placeB l p = true ↔ 0 ≤ p ∧ p < l.length := by
 unfold placeB; rw [decide_eq_true_eq]; omega
theorem codeV_fit {m : ModelP} (g : Good m) (s i : Nat) : FitTo m.nodes m.nodes.length (codeV m s i) :=
 evalP_fit g.ok (unpL_fit g.ok 36 s) (unpL_fit g.ok 35 i) _ (Nat.le_refl _)
theorem zeros_fit (l : List NodeP) (ps : List Nat) : FitR l ps (zerosL l ps) := by
 induction ps with
 | nil => rfl
 | cons p ps ih =>
  refine ⟨_, _, rfl, by simp, fun x hx => ?_, ih⟩
  simp at hx
  rw [hx.2]; exact pow_pos' _
theorem vals_fit {m : ModelP} (g : Good m) {s i : List (List Nat)} (hs : FitR m.nodes (stP m) s) (hi : FitR m.nodes (inP m) i) : FitTo m.nodes m.nodes.length (valsP m s i) :=
 evalP_fit g.ok (fitR_at g.ok hs) (fitR_at g.ok hi) _ (Nat.le_refl _)
theorem valsP_len (m : ModelP) (s i : List (List Nat)) : (valsP m s i).length = m.nodes.length := evalP_len _ _ _ _
theorem nextF_fit {m : ModelP} (g : Good m) {v : List (List Nat)} (hv : FitTo m.nodes m.nodes.length v) {p : Nat} {x : List Nat} (h : nextF m v p = some x) : x.length = cellsA m.nodes p ∧ ∀ y ∈ x, y < 2 ^ widA m.nodes p := by
 unfold nextF at h
 rw [Option.map_eq_some_iff] at h
 obtain ⟨k, hk, rfl⟩ := h
 obtain ⟨b, hb, hs, rfl⟩ := bound_some hk
 obtain ⟨h1, h2, h3, h4⟩ := next_parts (g.nex b hb)
 have h2' := place_iff.1 h2
 have h1' := place_iff.1 h1
 have hn : ((b.node.toNat : Nat) : Int) = b.node := by omega
 have := hv b.node.toNat (by omega) (by omega)
 rw [hn, ← h4, hs] at this
 exact fit_cells g.ok (by omega) this
theorem initF_fit {m : ModelP} (g : Good m) {p : Nat} {x : List Nat} (h : initF m p = some x) : x.length = cellsA m.nodes p ∧ ∀ y ∈ x, y < 2 ^ widA m.nodes p := by
 unfold initF at h
 rw [Option.map_eq_some_iff] at h
 obtain ⟨k, hk, rfl⟩ := h
 obtain ⟨b, hb, hs, rfl⟩ := bound_some hk
 obtain ⟨h1, h2, h3, h4, _⟩ := init_parts (g.ini b hb)
 have h2' := place_iff.1 h2
 have h1' := place_iff.1 h1
 have hn : ((b.node.toNat : Nat) : Int) = b.node := by omega
 have hv := vals_fit g (zeros_fit m.nodes (stP m)) (zeros_fit m.nodes (inP m)) b.node.toNat (by omega) (by omega)
 have hf := fit_cells g.ok (show b.node.toNat < m.nodes.length by omega) hv
 rw [hn] at hv
 have hwid : widA m.nodes b.node.toNat = widA m.nodes p ∧ cellsA m.nodes b.node.toNat ≤ cellsA m.nodes p := by
  unfold widA cellsA
  rw [hn, ← hs]
  rcases h4 with h4 | h4
  ·rw [h4]; exact ⟨rfl, Nat.le_refl _⟩
  ·rw [h4]
   refine ⟨rfl, ?_⟩
   have ho : sortOkP (sortAt m.nodes b.state) = true := by rw [hs]; exact sorts_ok g.ok (by omega)
   have ho2 : sortOkP (wordS (sortAt m.nodes b.state).wid) = true := by
    have := sortOkP_iff.1 ho
    exact sortOkP_iff.2 ⟨by simp [wordS], by simp only [wordS]; omega⟩
   unfold sortCellsP
   rw [if_pos ho, if_pos ho2]
   exact pow_pos' _
 refine ⟨?_, fun y hy => ?_⟩
 ·unfold wideP
  rw [List.length_append, List.length_replicate]
  have := hf.1; show ((val0 m).getD b.node.toNat []).length + (cellsA m.nodes p - ((val0 m).getD b.node.toNat []).length) = _
  unfold val0; omega
 ·unfold wideP at hy
  rw [List.mem_append, List.mem_replicate] at hy
  rw [← hwid.1]
  rcases hy with hy | ⟨_, rfl⟩
  ·exact hf.2 y hy
  ·exact hv.get_lt hv.pos |> fun h => by
    have e : widA m.nodes b.node.toNat = (sortAt m.nodes b.node).wid.toNat := by unfold widA; rw [hn]
    rw [e]; exact h
theorem follow_fit {m : ModelP} (g : Good m) {v : List (List Nat)} (hv : FitTo m.nodes m.nodes.length v) : FitR m.nodes (stP m) (followP m v) := heldR_fit fun p _ x hx => nextF_fit g hv hx
theorem begin_fit {m : ModelP} (g : Good m) : FitR m.nodes (stP m) (beginP m) := heldR_fit fun p _ x hx => initF_fit g hx
theorem nextF_some (m : ModelP) (v : List (List Nat)) : (fun p => (nextF m v p).isSome) = fun p => (boundP m.nexts p).isSome := by funext p; unfold nextF; simp
theorem initF_some (m : ModelP) : (fun p => (initF m p).isSome) = fun p => (boundP m.inits p).isSome := by funext p; unfold initF; simp
theorem sumW_st {m : ModelP} (g : Good m) : sumW m.nodes (stP m) = bitsP m.nodes 36 := sumW_places _ g.ok 36
theorem sumW_in {m : ModelP} (g : Good m) : sumW m.nodes (inP m) = bitsP m.nodes 35 := sumW_places _ g.ok 35
theorem sys_ok {m : ModelP} (g : Good m) : (sysP m).Ok where
 nle := g.n8
 kle := g.k5
 fixed := by have := maskR_lt m.nodes (fun p => (boundP m.nexts p).isSome) (stP m); rwa [sumW_st g] at this
 bfix := by have := maskR_lt m.nodes (fun p => (boundP m.inits p).isSome) (stP m); rwa [sumW_st g] at this
 next c _ := by have := packR_lt (follow_fit g (codeV_fit g (c % 2 ^ bitsP m.nodes 36) (c / 2 ^ bitsP m.nodes 36))); rwa [sumW_st g] at this
 held c _ := by
  have := held_and (l := m.nodes) (f := nextF m (codeV m (c % 2 ^ bitsP m.nodes 36) (c / 2 ^ bitsP m.nodes 36))) (ps := stP m) fun p _ x hx => nextF_fit g (codeV_fit g _ _) hx
  rw [nextF_some] at this
  exact this
 bas := by have := packR_lt (begin_fit g); rwa [sumW_st g] at this
 bheld := by
  have := held_and (l := m.nodes) (f := initF m) (ps := stP m) fun p _ x hx => initF_fit g hx
  rw [initF_some] at this
  exact this
theorem begins_iff {m : ModelP} (g : Good m) (s : Nat) : (sysP m).begins s = true ↔ ∀ (i p : Nat), (stP m)[i]? = some p → ∀ v, initF m p = some v → (unpL m.nodes (stP m) s).getD i [] = v := by
 have := agree_iff (l := m.nodes) (f := initF m) (ps := stP m) s fun p _ x hx => initF_fit g hx
 rw [initF_some] at this
 rw [unpL_eq, ← this]
 unfold SysP.begins
 rw [decide_eq_true_eq]; rfl
theorem not_again {binds : List BindP} (h : againP (binds.map (·.state)) = false) {j : Nat} {b : BindP} (hb : binds[j]? = some b) : ∀ x ∈ binds.take j, x.state ≠ b.state := by
 intro x hx e
 have : againP (binds.map (·.state)) = true := again_iff.2 ⟨j, b.state, by simp [hb], by
  rw [← List.map_take, ← e]; exact List.mem_map.2 ⟨x, hx, rfl⟩⟩
 rw [h] at this; cases this
theorem bound_take {binds : List BindP} (h : againP (binds.map (·.state)) = false) {j : Nat} {b : BindP} (hb : binds[j]? = some b) (p : Nat) :
  boundP (binds.take (j + 1)) p = if b.state = (p : Int) then some b.node.toNat else boundP (binds.take j) p := by
 have hlt := get_lt hb
 have hg : binds[j] = b := by rw [List.getElem?_eq_getElem hlt] at hb; exact Option.some.inj hb
 unfold boundP
 rw [List.take_succ_eq_append_getElem hlt, List.find?_append, hg]
 by_cases e : b.state = (p : Int)
 ·rw [if_pos e]
  have hn : (binds.take j).find? (fun b => decide (b.state = (p : Int))) = none := by
   rw [List.find?_eq_none]
   intro x hx
   have := not_again h hb x hx
   simp; omega
  rw [hn]; simp [e]
 ·rw [if_neg e]
  have : ([b] : List BindP).find? (fun b => decide (b.state = (p : Int))) = none := by simp [e]
  rw [this, Option.or_none]
theorem twice_parts {m : ModelP} (h : twiceP m = false) : nameAgain m.nodes = false ∧ againP (m.inits.map (·.state)) = false ∧ againP (m.nexts.map (·.state)) = false := by
 rw [twiceP_eq] at h
 simp only [Bool.or_eq_false_iff] at h
 exact h
theorem Cells.blk {h0 h : Hp} {out : Sl} {ts : List Sl} {vs : List (List Nat)} (e : Cells h0 h out ts vs) {i : Nat} (hi : i < vs.length) :
  ∃ b, ts[i]? = some ⟨some ⟨b, 0, none⟩, (vs.getD i []).length, (vs.getD i []).length⟩ ∧ h0 b = none ∧ (h.offS out) b = some (.inl ⟨(VL (vs.getD i [])).map I, (vs.getD i []).length, false⟩) := by
 have hl := e.len
 obtain ⟨b, h1, h2, h3⟩ := e.row i _ (List.getElem?_eq_getElem (show i < ts.length by omega))
 exact ⟨b, by rw [List.getElem?_eq_getElem (show i < ts.length by omega), h1], h2, h3⟩
theorem Cells.wr {h0 h : Hp} {out : Sl} {ts : List Sl} {vs : List (List Nat)} {b n c i k x : Nat} {P : Hp → Prop} (e : Cells h0 h out ts vs) (ht : ts[i]? = some ⟨some ⟨b, 0, none⟩, n, c⟩) (hi : i < vs.length) (hk : k < (vs.getD i []).length)
  (kk : ∀ h', Cells h0 h' out ts (vs.set i ((vs.getD i []).set k x)) → P h') :
  ∃ (cs : List Value) (z : Nat), h b = some (.inl ⟨cs, z, false⟩) ∧ (0 + Int.toNat (k : Int) * 1) + 1 ≤ List.length cs ∧ setH (h.row b (lset cs (0 + Int.toNat (k : Int) * 1) [I x]) z) P := by
 obtain ⟨b', h1, h2, h3⟩ := e.blk hi
 rw [ht] at h1
 simp only [Option.some.injEq, Sl.mk.injEq, Addr.mk.injEq, and_true, true_and] at h1
 obtain ⟨rfl, rfl, rfl⟩ := h1
 refine ⟨_, _, offS_le _ _ _ _ h3, ?_, ?_⟩
 ·rw [List.length_map, VL_len, Int.toNat_natCast]; omega
 rw [setH_eq]
 refine kk _ ⟨by rw [List.length_set]; exact e.len, fun j t hj => ?_, e.dis, e.buf.row _ _ h3, ?_⟩
 ·obtain ⟨bj, g1, g2, g3⟩ := e.row j t hj
  by_cases hji : j = i
  ·subst hji
   rw [ht] at hj
   obtain rfl := (Option.some.inj hj).symm
   simp only [Sl.mk.injEq, Option.some.injEq, Addr.mk.injEq, and_true, true_and] at g1
   obtain ⟨rfl, _⟩ := g1
   have hv : (vs.set j ((vs.getD j []).set k x)).getD j [] = (vs.getD j []).set k x := by
    rw [List.getD_eq_getElem?_getD, List.getElem?_set_self (by omega)]; rfl
   rw [hv, List.length_set]
   refine ⟨b, rfl, g2, ?_⟩
   rw [offS_row _ _ h3, row_self]
   simp [VL, List.map_set, lset_one]
  ·have hv : (vs.set i ((vs.getD i []).set k x)).getD j [] = vs.getD j [] := by
    rw [List.getD_eq_getElem?_getD, List.getElem?_set_ne (Ne.symm hji), ← List.getD_eq_getElem?_getD]
   rw [hv]
   refine ⟨bj, g1, g2, ?_⟩
   rw [offS_row _ _ h3, row_ne]
   ·exact g3
   ·rintro rfl
    refine hji (e.dis j i t _ hj ht ?_)
    rw [g1]
 ·rw [offS_row _ _ h3]
  exact le_row_of _ _ h2 e.le
def ofTo (l : List NodeP) (ps : List Nat) (code i : Nat) : List (List Nat) := (unpL l ps code).take i ++ (zerosL l ps).drop i
def ofCell (l : List NodeP) (p code k : Nat) : List Nat := unpC (widA l p) k code ++ List.replicate (cellsA l p - k) 0
theorem ofTo_len (l : List NodeP) (ps : List Nat) (code i : Nat) (hi : i ≤ ps.length) : (ofTo l ps code i).length = ps.length := by
 unfold ofTo; rw [List.length_append, List.length_take, List.length_drop, unpL_len, zerosL, List.length_map]; omega
theorem ofTo_get {l : List NodeP} {ps : List Nat} {code i p : Nat} (h : ps[i]? = some p) : (ofTo l ps code i).getD i [] = ofCell l p (code / 2 ^ sumW l (ps.take i)) 0 := by
 have hlt := get_lt h
 unfold ofTo ofCell
 rw [List.getD_eq_getElem?_getD, List.getElem?_append_right (by rw [List.length_take, unpL_len]; omega), List.length_take, unpL_len, Nat.min_eq_left (by omega), Nat.sub_self, List.getElem?_drop, Nat.add_zero, zerosL, List.getElem?_map, h]
 rfl
theorem ofTo_set {l : List NodeP} {ps : List Nat} {code i p : Nat} (h : ps[i]? = some p) : (ofTo l ps code i).set i (ofCell l p (code / 2 ^ sumW l (ps.take i)) (cellsA l p)) = ofTo l ps code (i + 1) := by
 have hlt := get_lt h
 have hu : (unpL l ps code)[i]? = some (unpC (widA l p) (cellsA l p) (code / 2 ^ sumW l (ps.take i))) := by
  have := unpL_get (l := l) (code := code) h
  rw [List.getD_eq_getElem?_getD, List.getElem?_eq_getElem (by rw [unpL_len]; exact hlt)] at this
  rw [List.getElem?_eq_getElem (by rw [unpL_len]; exact hlt)]
  exact congrArg some this
 unfold ofTo ofCell
 rw [Nat.sub_self, List.replicate_zero, List.append_nil, List.set_append_right _ _ (by rw [List.length_take, unpL_len]; omega), List.length_take, unpL_len, Nat.min_eq_left (by omega), Nat.sub_self]
 have hd : (zerosL l ps).drop i = List.replicate (cellsA l p) 0 :: (zerosL l ps).drop (i + 1) := by
  rw [← List.getElem_cons_drop (show i < (zerosL l ps).length by rw [zerosL, List.length_map]; exact hlt)]
  congr 1
  unfold zerosL
  rw [List.getElem_map]
  rw [List.getElem?_eq_getElem hlt] at h
  rw [Option.some.inj h]
 rw [hd, List.set_cons_zero, List.take_add_one, hu]
 simp
theorem ofCell_set {l : List NodeP} {p code k : Nat} (hk : k < cellsA l p) : (ofCell l p code k).set k (code / 2 ^ (widA l p * k) % 2 ^ widA l p) = ofCell l p code (k + 1) := by
 unfold ofCell
 rw [List.set_append_right _ _ (by rw [unpC_len]; omega), unpC_len, Nat.sub_self]
 obtain ⟨d, hd⟩ : ∃ d, cellsA l p - k = d + 1 := ⟨cellsA l p - k - 1, by omega⟩
 rw [hd, List.replicate_succ, List.set_cons_zero, show cellsA l p - (k + 1) = d by omega, unpC, List.append_assoc]; rfl
theorem ofCell_len {l : List NodeP} {p code k : Nat} (hk : k ≤ cellsA l p) : (ofCell l p code k).length = cellsA l p := by
 unfold ofCell; rw [List.length_append, unpC_len, List.length_replicate]; omega
theorem NodeS.widc {h : Hp} {s : Sl} {l : List NodeP} (e : NodeS h s l) {p : Nat} (hp : p < l.length) (hok : nodesOkP l = true) :
  ∃ b o, s.a = some (Addr.mk b o none) ∧ (p : Int) < (s.n : Int) ∧ Hp.cell h b (((o + Int.toNat (p : Int) * 9) + 6) + 1) = some (I (widA l p)) ∧ 1 ≤ widA l p ∧ widA l p ≤ 16 := by
 obtain ⟨b, o, h1, h2, h3, h4⟩ := e.sortc hp
 have := sortOkP_iff.1 (sorts_ok hok hp)
 have hw : (sortAt l p).wid = ((widA l p : Nat) : Int) := by unfold widA; omega
 exact ⟨b, o, h1, h2, by rw [← hw]; exact h4, by unfold widA; omega, by unfold widA; omega⟩
theorem unpL_mem {l : List NodeP} {ps : List Nat} {code : Nat} {v : List Nat} (h : v ∈ unpL l ps code) : v.length ≤ 4 := by
 unfold unpL at h
 obtain ⟨i, _, rfl⟩ := List.mem_map.1 h
 rw [unpC_len]; exact cellsA_le _ _
theorem zerosL_len (l : List NodeP) (ps : List Nat) : (zerosL l ps).length = ps.length := by simp [zerosL]
theorem of_spec {h : Hp} {M : MSl} {m : ModelP} {s : Sl} {ps : List Nat} {code : Nat} {R : Value → Hp → Prop} (hs : ModelS h M m) (hm : Small m) (hok : nodesOkP m.nodes = true) (hp : IntS h s (VL ps)) (hps : ∀ p ∈ ps, p < m.nodes.length) (hpl : ps.length ≤ 1048576)
  (hcode : code ≤ 1048576) (k : ∀ out h', h.le h' → IntSS h' out ((unpL m.nodes ps code).map VL) → out.n ≤ out.c → R (Sl.v out) h') : c_impl_Model_of #[modelV M, s.v, I code] h R := by
 apply R_impl_Model_of
 unfold F_impl_Model_of
 have hn := hs.nodes.len
 have hns := hm.nodes
 have hsn := hp.len
 rw [VL_len] at hsn
 refine alloc_of fun b9 h1 hb9 l1 f9 => ?_
 repeat' (refine rdx_ ?_)
 refine zeros_spec (hs.mono l1) hm (hp.mono l1) hps hpl fun out ts h2 hC hon => ⟨out, rfl, ?_⟩
 refine loop_up ps.length (fun i vs h' => vs = [I (code / 2 ^ sumW m.nodes (ps.take i) : Nat), .pointer (some ⟨b9, 0, none⟩), out.v, s.v, I s.n, I i] ∧ Cells h1 h' out ts (ofTo m.nodes ps code i)) ⟨?_, ?_⟩ ?_
 ·simp [sumW]
 ·have : ofTo m.nodes ps code 0 = zerosL m.nodes ps := by simp [ofTo]
  rw [this]; exact hC
 clear hC h2
 rintro i _ h2 next hi ⟨rfl, hC⟩ hnx
 have hle := Hp.le_trans hC.le (offS_le _ _)
 have f9' := hle _ _ f9
 refine ⟨_, _, _, out, s, _, _, rfl, ?_⟩
 by_cases hlt : i < ps.length
 rotate_left
 ·have hie : i = ps.length := by omega
  subst hie
  refine bs_f (by simp; omega) (k out h2 (Hp.le_trans l1 hle) ?_ hC.buf.2.1)
  have : ofTo m.nodes ps code ps.length = unpL m.nodes ps code := by
   unfold ofTo
   rw [List.take_of_length_le (by rw [unpL_len]; omega), List.drop_of_length_le (by rw [zerosL_len]; omega), List.append_nil]
  rw [this] at hC
  refine hC.ints (fun v hv => ?_) (by omega)
  have := unpL_mem hv; omega
 refine bs_t (by simp; omega) ?_
 obtain ⟨p, hpi⟩ : ∃ p, ps[i]? = some p := ⟨_, List.getElem?_eq_getElem hlt⟩
 have hpm := hps p (List.mem_of_getElem? hpi)
 obtain ⟨b, o, ha, hc⟩ := ((hp.mono l1).mono hle).get (VL_getE hpi)
 refine ⟨b, o, ha, by omega, by omega, _, hc, ?_⟩
 (refine rdx_ ?_)
 obtain ⟨bn, on, han, hpn, c7, w1, w16⟩ := ((hs.mono l1).mono hle).nodes.widc hpm hok
 refine ⟨bn, on, han, by omega, hpn, _, c7, ?_⟩
 have hol := ofTo_len m.nodes ps code i (by omega)
 obtain ⟨bi, hti, hbi, hri⟩ := hC.blk (i := i) (by omega)
 rw [ofTo_get hpi, ofCell_len (Nat.zero_le _)] at hti
 obtain ⟨bo, hoa, hob⟩ : ∃ bo, out.a = some ⟨bo, 0, none⟩ ∧ h2 bo = some (.inl ⟨ts.map Sl.v, out.c * 1, false⟩) := by
  rcases hC.buf.2.2 with ⟨_, h0, _⟩ | h0
  ·omega
  ·exact h0
 have hcell : Hp.cell h2 bo (0 + Int.toNat (i : Int) * 1) = some (Sl.v ⟨some ⟨bi, 0, none⟩, cellsA m.nodes p, cellsA m.nodes p⟩) := by
  rw [cell_of hob, Nat.zero_add, Int.toNat_natCast, Nat.mul_one, List.getElem?_map, hti]; rfl
 refine ⟨bo, 0, hoa, by omega, by omega, _, hcell, ?_⟩
 have hcl := cellsA_le m.nodes p
 generalize hci : code / 2 ^ sumW m.nodes (ps.take i) = ci
 have hcile : ci ≤ code := by rw [← hci]; exact Nat.div_le_self _ _
 refine loop_up (cellsA m.nodes p) (fun k vs h' => vs = [I (ci / 2 ^ (widA m.nodes p * k) : Nat), .pointer (some ⟨b9, 0, none⟩), out.v, I i, I (widA m.nodes p), s.v, I s.n, I i, I (cellsA m.nodes p : Nat), I k] ∧
  Cells h1 h' out ts ((ofTo m.nodes ps code i).set i (ofCell m.nodes p ci k))) ⟨by simp, ?_⟩ ?_
 ·rw [← hci, ← ofTo_get hpi]
  have : (ofTo m.nodes ps code i).set i ((ofTo m.nodes ps code i).getD i []) = ofTo m.nodes ps code i := by
   rw [List.getD_eq_getElem?_getD, List.getElem?_eq_getElem (by omega)]; simp
  rw [this]; exact hC
 clear hC hle f9' hri hob hcell ha hc han hpn c7 h2
 rintro q _ h2 next2 hq ⟨rfl, hC⟩ hnx2
 have hle := Hp.le_trans hC.le (offS_le _ _)
 have f9' := hle _ _ f9
 have hdiv : ci / 2 ^ (widA m.nodes p * q) ≤ ci := Nat.div_le_self _ _
 refine ⟨_, _, _, out, _, _, s, _, _, _, _, rfl, ?_⟩
 have hgs : ((ofTo m.nodes ps code i).set i (ofCell m.nodes p ci q)).getD i [] = ofCell m.nodes p ci q := by
  rw [List.getD_eq_getElem?_getD, List.getElem?_set_self (by omega)]; rfl
 by_cases hlq : q < cellsA m.nodes p
 rotate_left
 ·have hqe : q = cellsA m.nodes p := by omega
  subst hqe
  refine bs_f (by simp) ?_
  rw [W_succ (by omega)]
  refine hnx hlt _ _ ⟨?_, ?_⟩
  ·rw [sumW_take hpi, Nat.pow_add, ← Nat.div_div_eq_div_mul, hci]
  ·rw [← hci] at hC
   rw [← ofTo_set hpi]; exact hC
 refine bs_t (by simp; omega) ?_
 obtain ⟨bo', hoa', hob'⟩ : ∃ bo, out.a = some ⟨bo, 0, none⟩ ∧ h2 bo = some (.inl ⟨ts.map Sl.v, out.c * 1, false⟩) := by
  rcases hC.buf.2.2 with ⟨_, h0, _⟩ | h0
  ·omega
  ·exact h0
 have hcell' : Hp.cell h2 bo' (0 + Int.toNat (i : Int) * 1) = some (Sl.v ⟨some ⟨bi, 0, none⟩, cellsA m.nodes p, cellsA m.nodes p⟩) := by
  rw [cell_of hob', Nat.zero_add, Int.toNat_natCast, Nat.mul_one, List.getElem?_map, hti]; rfl
 refine ⟨bo', 0, hoa', by omega, by omega, _, hcell', ?_⟩
 refine mask_spec (by omega) ⟨_, rfl, rfl, bi, 0, rfl, by omega, by dsimp only; omega, ?_⟩
 rw [andW_mask (by omega), fromP_nat, shrW_nat (by omega), Nat.div_div_eq_div_mul, ← Nat.pow_add]
 refine hC.wr hti (by rw [List.length_set]; omega) (by rw [hgs, ofCell_len (by omega)]; exact hlq) fun h3 hC' => ?_
 rw [if_neg (by omega), W_succ (by omega)]
 refine hnx2 hlq _ _ ⟨by rw [Nat.mul_add, Nat.mul_one], ?_⟩
 rw [hgs, List.set_set, ofCell_set hlq] at hC'
 exact hC'
theorem NodeS.sortc2 {h : Hp} {s : Sl} {l : List NodeP} (e : NodeS h s l) {p : Nat} (hp : p < l.length) (hok : nodesOkP l = true) :
  ∃ b o, s.a = some (Addr.mk b o none) ∧ (p : Int) < (s.n : Int) ∧ Hp.cell h b ((o + Int.toNat (p : Int) * 9) + 6) = some (I (sortAt l p).idx) ∧ Hp.cell h b (((o + Int.toNat (p : Int) * 9) + 6) + 1) = some (I (widA l p)) ∧ 1 ≤ widA l p ∧ widA l p ≤ 16 := by
 obtain ⟨b, o, h1, h2, h3, h4⟩ := e.sortc hp
 have := sortOkP_iff.1 (sorts_ok hok hp)
 have hw : (sortAt l p).wid = ((widA l p : Nat) : Int) := by unfold widA; omega
 exact ⟨b, o, h1, h2, h3, by rw [← hw]; exact h4, by unfold widA; omega, by unfold widA; omega⟩
theorem cells_mk {l : List NodeP} {p : Nat} (hok : nodesOkP l = true) (hp : p < l.length) : sortCellsP ⟨(sortAt l p).idx, (widA l p : Nat)⟩ = cellsA l p := by
 have := sortOkP_iff.1 (sorts_ok hok hp)
 have hw : ((widA l p : Nat) : Int) = (sortAt l p).wid := by unfold widA; omega
 rw [hw]; rfl
theorem unp_step (w k ci : Nat) : (VL (unpC w k ci)).map I ++ [I ((ci / 2 ^ (w * k) % 2 ^ w : Nat) : Int)] = (VL (unpC w (k + 1) ci)).map I := by
 rw [unpC, VL_append, List.map_append]; rfl
theorem l5Unpack_spec {h : Hp} {M : MSl} {m : ModelP} {s : Sl} {ps : List Nat} {code : Nat} {R : Value → Hp → Prop} (hs : ModelS h M m) (hm : Small m) (hok : nodesOkP m.nodes = true) (hp : IntS h s (VL ps)) (hps : ∀ p ∈ ps, p < m.nodes.length) (hpl : ps.length ≤ 1048576)
  (hcode : code ≤ 1048576) (hsum : sumW m.nodes ps ≤ 60) (k : ∀ out h', h.le h' → IntSS h' out ((unpL m.nodes ps code).map VL) → R (Sl.v out) h') : c_spec_l5Unpack #[modelV M, s.v, I code] h R := by
 apply R_spec_l5Unpack
 unfold F_spec_l5Unpack
 have hn := hs.nodes.len
 have hns := hm.nodes
 have hsn := hp.len
 rw [VL_len] at hsn
 refine alloc_of fun b9 h1 hb9 l1 f9 => ?_
 refine loop_up ps.length (fun i vs h' => ∃ (ts : List Sl) (out : Sl), vs = [s.v, I code, .pointer (some ⟨b9, 0, none⟩), out.v, I (sumW m.nodes (ps.take i) : Nat), I i] ∧
  h.le (h'.offS out) ∧ (h'.offS out) b9 = some (.inl ⟨modelC M, 5, false⟩) ∧ out.n = i ∧ ts.length = i ∧ Buf h' out 1 (ts.map Sl.v) ∧
  (∀ (j : Nat) (t : Sl), ts[j]? = some t → IntS (h'.offS out) t (VL ((unpL m.nodes ps code).getD j []))))
  ⟨[], ⟨none, 0, 0⟩, by simp [sumW], l1, f9, rfl, rfl, buf_nil _ _, fun j t ht => by simp at ht⟩ ?_
 clear f9 l1 hb9 h1
 rintro i _ h3 next hi ⟨ts, out, rfl, l3, f9, hon, htl, hbuf, hts⟩ hnx
 have lo := offS_le h3 out
 have f9' := lo _ _ f9
 have l3' := Hp.le_trans l3 lo
 have hsi := sumW_le m.nodes ps i
 refine ⟨s, _, _, _, out, _, _, rfl, ?_⟩
 by_cases hlt : i < ps.length
 rotate_left
 ·have hie : i = ps.length := by omega
  subst hie
  refine bs_f (by simp; omega) (k out h3 l3' ⟨ts, by simp [unpL_len]; omega, hbuf.slc_of (by omega), fun j h1 h2 => ?_⟩)
  have := (hts j _ (List.getElem?_eq_getElem h1)).mono lo
  have hju : j < (unpL m.nodes ps code).length := by rw [unpL_len]; omega
  rw [List.getElem_map]
  rwa [List.getD_eq_getElem?_getD, List.getElem?_eq_getElem hju] at this
 refine bs_t (by simp; omega) ?_
 obtain ⟨p, hpi⟩ : ∃ p, ps[i]? = some p := ⟨_, List.getElem?_eq_getElem hlt⟩
 have hpm := hps p (List.mem_of_getElem? hpi)
 obtain ⟨b, o, ha, hc⟩ := (hp.mono l3').get (VL_getE hpi)
 refine ⟨b, o, ha, by omega, by omega, ?_⟩
 (refine rdx_ ?_)
 refine ⟨_, hc, ?_⟩
 obtain ⟨bn, on, han, hpn, c6, c7, w1, w16⟩ := (hs.mono l3').nodes.sortc2 hpm hok
 refine ⟨bn, on, han, by omega, hpn, _, c6, _, c7, ?_⟩
 have xb := nz_cell hc
 have xbn := nz_cell c6
 have xb9 := nz_some f9'
 refine alloc_of fun b37 h4 hb37 l4 f37 => ?_
 repeat' (((with_reducible apply kp_le); (assumption); (assumption)))
 (with_reducible apply wr_of); (exact f37); (exact l4); (exact hb37); (exact Nat.le_refl 2)
 intro h5 f37b kp l5
 clear f37 kp l4 h4
 refine alloc_of fun b43 h6 hb43 l6 f43 => ?_
 have n37 := fresh_ne hb43 f37b
 have hb43' := none_of_le l5 hb43
 (with_reducible apply wr_of); (exact f43); (exact Hp.le_trans l5 l6); (exact hb43'); (exact Nat.le_refl 1)
 intro h7 f43b kp l7
 have f37c : h7 b37 = some (.inl ⟨[I (sortAt m.nodes p).idx, I (widA m.nodes p)], 2, false⟩) := kp_fact kp n37 (l6 _ _ f37b)
 have f43c : h7 b43 = some (.inl ⟨[(⟨none, 0, 0⟩ : Sl).v], 1, false⟩) := f43b
 clear f43 f43b f37b kp l6 l5
 have hcl := cellsA_le m.nodes p
 have hcm := cells_mk hok hpm
 have hstep := sumW_take (l := m.nodes) hpi
 have hsi1 := sumW_le m.nodes ps (i + 1)
 obtain ⟨ci, hci⟩ : ∃ ci, ci = code / 2 ^ sumW m.nodes (ps.take i) := ⟨_, rfl⟩
 refine loop_up (cellsA m.nodes p) (fun q vs h' => ∃ sl : Sl, vs = [s.v, I code, .pointer (some ⟨b9, 0, none⟩), out.v, I (sumW m.nodes (ps.take i) + widA m.nodes p * q : Nat), I i, .pointer (some ⟨b37, 0, none⟩), .pointer (some ⟨b43, 0, none⟩), I q] ∧
  h3.le (h'.offS sl) ∧ (h'.offS sl) b37 = some (.inl ⟨[I (sortAt m.nodes p).idx, I (widA m.nodes p)], 2, false⟩) ∧ (h'.offS sl) b43 = some (.inl ⟨[sl.v], 1, false⟩) ∧ sl.n = q ∧ Buf h' sl 1 ((VL (unpC (widA m.nodes p) q ci)).map I))
  ⟨⟨none, 0, 0⟩, by simp, l7, f37c, f43c, rfl, buf_nil _ _⟩ ?_
 clear f37c f43c l7 h7
 rintro q _ h7 next2 hq ⟨sl, rfl, l7, f37, f43, hsl, hbufl⟩ hnx2
 have los := offS_le h7 sl
 have f37' := los _ _ f37
 have f43' := los _ _ f43
 refine ⟨s, _, _, _, out, _, _, _, _, _, _, _, rfl, ?_⟩
 repeat' (refine rdx_ ?_)
 refine spec_SortCells_spec ⟨_, rfl, ?_⟩
 rw [hcm]
 by_cases hlq : q < cellsA m.nodes p
 rotate_left
 ·have hqe : q = cellsA m.nodes p := by omega
  subst hqe
  refine bs_f (by simp) ?_
  (refine rdx_ ?_)
  refine alloc_of fun b103 h8 hb103 l8 f103 => ?_
  have l38 := Hp.le_trans l7 (Hp.le_trans los l8)
  have l38o := offS_mono out l38
  refine aApp_buf (hbuf.mono l38) (by omega) (by omega) (by omega) ⟨b103, 0, rfl, cellsAre_of f103⟩ (by simp) rfl ?_
  intro s' h10 hs'n hbuf' l10 _
  rw [W_succ (by omega)]
  have l310 := Hp.le_trans l38o l10
  have hbuf'' : Buf h10 s' 1 ((ts ++ [sl]).map Sl.v) := by rw [List.map_append]; exact hbuf'
  have hval : IntS h8 sl (VL (unpC (widA m.nodes p) (cellsA m.nodes p) ci)) := SlC.mono l8 (hbufl.slc_of (by omega))
  rw [← hstep]
  refine hnx hlt _ _ ⟨ts ++ [sl], s', rfl, Hp.le_trans l3 l310, l310 _ _ f9, by omega, by simp; omega, hbuf'', fun j u hu => ?_⟩
  by_cases hj : j < i
  ·rw [List.getElem?_append_left (by omega)] at hu
   exact (hts j u hu).mono l310
  ·have hju := get_lt hu
   simp at hju
   have hje : j = i := by omega
   subst hje
   rw [List.getElem?_append_right (by omega), htl, Nat.sub_self] at hu
   simp at hu; subst hu
   rw [unpL_get hpi, ← hci]
   exact (hval.offL (hbuf.mono l38)).mono l10
 refine bs_t (by simp; omega) ?_
 have hmul : widA m.nodes p * q ≤ widA m.nodes p * cellsA m.nodes p := Nat.mul_le_mul_left _ hq
 have hmul2 : widA m.nodes p * (q + 1) ≤ widA m.nodes p * cellsA m.nodes p := Nat.mul_le_mul_left _ hlq
 have hp16 := pow16 w16
 have hpp := pow_pos' (widA m.nodes p)
 refine joinP_of (fun J => ∀ (sl' : Sl) (h' : Hp), h3.le (h'.offS sl') → (h'.offS sl') b37 = some (.inl ⟨[I (sortAt m.nodes p).idx, I (widA m.nodes p)], 2, false⟩) → (h'.offS sl') b43 = some (.inl ⟨[sl'.v], 1, false⟩) → sl'.n = q + 1 →
   Buf h' sl' 1 ((VL (unpC (widA m.nodes p) (q + 1) ci)).map I) → J (sumW m.nodes (ps.take i) + widA m.nodes p * (q + 1) : Nat) h') ?_ (fun J hJ => ?_)
 ·intro sl' h' g1 g2 g3 g4 g5
  rw [W_succ (by omega)]
  exact hnx2 hlq _ _ ⟨sl', rfl, g1, g2, g3, g4, g5⟩
 have xb60 := nz_some f37'
 have xb62 := nz_some f43'
 rw [Wu_nat (n := sumW m.nodes (ps.take i) + widA m.nodes p * q) (by omega)]
 repeat' (refine rdx_ ?_)
 rw [Wu_nat (n := widA m.nodes p) (by omega)]
 rw [shrW_nat (by omega), shlW_one (by omega), tmod_nat]
 have hval : code / 2 ^ (sumW m.nodes (ps.take i) + widA m.nodes p * q) = ci / 2 ^ (widA m.nodes p * q) := by
  rw [hci, Nat.div_div_eq_div_mul, ← Nat.pow_add]
 rw [hval]
 have app : ∀ (K : Option Addr → Nat → Nat → Hp → Prop) (h8 : Hp) (b75 : Nat), h7.le h8 → h8 b75 = some (.inl ⟨[I ((ci / 2 ^ (widA m.nodes p * q) % 2 ^ widA m.nodes p : Nat) : Int)], 1, false⟩) →
   (∀ (s' : Sl) (h9 : Hp), s'.n = q + 1 → h3.le (h9.offS s') → (h9.offS s') b37 = some (.inl ⟨[I (sortAt m.nodes p).idx, I (widA m.nodes p)], 2, false⟩) → (h9.offS s') b43 = some (.inl ⟨[sl.v], 1, false⟩) → Buf h9 s' 1 ((VL (unpC (widA m.nodes p) (q + 1) ci)).map I) → K s'.a s'.n s'.c h9) →
   aApp h8 sl.a sl.n sl.c (some ⟨b75, 0, none⟩) 1 1 8 K := by
  intro K h8 b75 l8 f75 hK
  have l78 := offS_mono sl l8
  refine aApp_buf (hbufl.mono l8) (by omega) (by omega) (by omega) ⟨b75, 0, rfl, cellsAre_of f75⟩ (by simp) rfl ?_
  intro s' h9 hs'n hbuf' l9 _
  have l79 := Hp.le_trans l78 l9
  refine hK s' h9 (by omega) (Hp.le_trans l7 l79) (l79 _ _ f37) (l79 _ _ f43) ?_
  rw [← unp_step]; exact hbuf'
 have fin : ∀ (s' : Sl) (h9 : Hp), s'.n = q + 1 → h3.le (h9.offS s') → (h9.offS s') b37 = some (.inl ⟨[I (sortAt m.nodes p).idx, I (widA m.nodes p)], 2, false⟩) → (h9.offS s') b43 = some (.inl ⟨[sl.v], 1, false⟩) → Buf h9 s' 1 ((VL (unpC (widA m.nodes p) (q + 1) ci)).map I) →
   ∃ (cs : List Value) (z : Nat), h9 b43 = some (.inl ⟨cs, z, false⟩) ∧ 0 + 1 ≤ List.length cs ∧ setH (h9.row b43 (lset cs 0 [.slice s'.a s'.n s'.c]) z) fun h83 => ∃ (x85 : Int), Hp.cell h83 b37 (0 + 1) = some (I x85) ∧ (J (W (((sumW m.nodes (ps.take i) + widA m.nodes p * q : Nat) : Int) + x85)) h83) := by
  intro s' h9 g1 g2 g3 g4 g5
  (with_reducible apply wrS_of); (exact g4); (exact g2); (exact hb43'); (exact Nat.le_refl 1)
  intro h10 e43 kp l10 hbk
  have e37 : (h10.offS s') b37 = some (.inl ⟨[I (sortAt m.nodes p).idx, I (widA m.nodes p)], 2, false⟩) := by rw [kp _ n37]; exact g3
  refine ⟨_, by rw [cell_of (offS_le _ _ _ _ e37)]; rfl, ?_⟩
  have : W (((sumW m.nodes (ps.take i) + widA m.nodes p * q : Nat) : Int) + ((widA m.nodes p : Nat) : Int)) = ((sumW m.nodes (ps.take i) + widA m.nodes p * (q + 1) : Nat) : Int) := by
   rw [W_id (by omega) (by omega), Nat.mul_add, Nat.mul_one]; omega
  rw [this]
  exact hJ s' h10 l10 e37 e43 g1 (hbk _ _ g5)
 constructor
 ·repeat' (refine rdx_ ?_)
  rw [if_neg (by omega)]
  repeat' (refine rdx_ ?_)
  rw [if_neg (by omega), if_neg (by omega)]
  refine alloc_of fun b75 h8 hb75 l8 f75 => ?_
  (((with_reducible apply kp_le); (assumption); (assumption)))
  exact app _ h8 b75 l8 f75 fun s' h9 g1 g2 g3 g4 g5 => fin s' h9 g1 g2 g3 g4 g5
 ·repeat' (refine rdx_ ?_)
  rw [if_neg (by omega)]
  repeat' (refine rdx_ ?_)
  rw [if_neg (by omega), if_neg (by omega)]
  refine alloc_of fun b75 h8 hb75 l8 f75 => ?_
  (((with_reducible apply kp_le); (assumption); (assumption)))
  exact app _ h8 b75 l8 f75 fun s' h9 g1 g2 g3 g4 g5 => fin s' h9 g1 g2 g3 g4 g5
theorem or_add {a n x : Nat} (h : a < 2 ^ n) : a ||| (x * 2 ^ n) = a + x * 2 ^ n := by
 rw [Nat.or_comm, Nat.mul_comm, ← Nat.two_pow_add_eq_or_of_lt h, Nat.add_comm]
theorem packR_take {l : List NodeP} {ps : List Nat} {vs : List (List Nat)} {i p : Nat} (h : ps[i]? = some p) (hf : FitR l ps vs) :
  packR l (ps.take (i + 1)) (vs.take (i + 1)) = packR l (ps.take i) (vs.take i) + 2 ^ sumW l (ps.take i) * packC (widA l p) (vs.getD i []) := by
 have hlt := get_lt h
 have hl := fitR_len hf
 rw [List.getElem?_eq_getElem hlt] at h
 rw [List.take_succ_eq_append_getElem hlt, List.take_succ_eq_append_getElem (show i < vs.length by omega), packR_snoc (by rw [List.length_take, List.length_take]; omega), Option.some.inj h]
 rw [List.getD_eq_getElem?_getD, List.getElem?_eq_getElem (show i < vs.length by omega)]; rfl
theorem packC_take {w : Nat} {v : List Nat} {q : Nat} (h : q < v.length) : packC w (v.take (q + 1)) = packC w (v.take q) + 2 ^ (w * q) * v.getD q 0 := by
 rw [List.take_succ_eq_append_getElem h, packC_snoc, List.length_take, Nat.min_eq_left (by omega), List.getD_eq_getElem?_getD, List.getElem?_eq_getElem h]; rfl
theorem pack_in_lt {l : List NodeP} {ps : List Nat} {vs : List (List Nat)} {i p q : Nat} (h : ps[i]? = some p) (hf : FitR l ps vs) (hq : q ≤ cellsA l p) :
  packR l (ps.take i) (vs.take i) + 2 ^ sumW l (ps.take i) * packC (widA l p) ((vs.getD i []).take q) < 2 ^ (sumW l (ps.take i) + widA l p * q) := by
 have h1 := packR_lt (fitR_take hf i)
 have h2 := fitR_get hf h
 have h3 := packC_lt (w := widA l p) (xs := (vs.getD i []).take q) fun x hx => h2.2 x (List.mem_of_mem_take hx)
 rw [List.length_take, Nat.min_eq_left (by omega)] at h3
 rw [Nat.pow_add]
 have h4 := Nat.mul_le_mul_left (2 ^ sumW l (ps.take i)) (Nat.succ_le_of_lt h3)
 rw [Nat.succ_eq_add_one, Nat.mul_add, Nat.mul_one] at h4
 omega
theorem IntSS.getV {h : Hp} {s : Sl} {vs : List (List Nat)} (e : IntSS h s (vs.map VL)) {i : Nat} (hi : i < vs.length) :
  ∃ b o t, s.a = some (Addr.mk b o none) ∧ Hp.cell h b (o + i * 1) = some (Sl.v t) ∧ IntS h t (VL (vs.getD i [])) := by
 obtain ⟨b, o, t, h1, h2, h3⟩ := e.at (i := i) (by rw [List.length_map]; exact hi)
 refine ⟨b, o, t, h1, by rw [Nat.mul_one]; exact h2, ?_⟩
 rw [List.getElem_map] at h3
 rwa [List.getD_eq_getElem?_getD, List.getElem?_eq_getElem hi]
theorem sumW_cell {l : List NodeP} {ps : List Nat} {i p q : Nat} (h : ps[i]? = some p) (hq : q ≤ cellsA l p) : sumW l (ps.take i) + widA l p * q ≤ sumW l ps := by
 have h1 := sumW_take (l := l) h
 have h2 := sumW_le l ps (i + 1)
 have h3 := Nat.mul_le_mul_left (widA l p) hq
 omega
theorem pow60 {n : Nat} (h : n ≤ 60) : 2 ^ n ≤ 1152921504606846976 := by
 have := Nat.pow_le_pow_right (n := 2) (by omega) h
 simpa using this
theorem pack_step {l : List NodeP} {ps : List Nat} {vs : List (List Nat)} {i p q : Nat} (h : ps[i]? = some p) (hf : FitR l ps vs) (hq : q < cellsA l p) :
  packR l (ps.take i) (vs.take i) + 2 ^ sumW l (ps.take i) * packC (widA l p) ((vs.getD i []).take (q + 1)) =
   (packR l (ps.take i) (vs.take i) + 2 ^ sumW l (ps.take i) * packC (widA l p) ((vs.getD i []).take q)) + (vs.getD i []).getD q 0 * 2 ^ (sumW l (ps.take i) + widA l p * q) := by
 have h2 := fitR_get hf h
 rw [packC_take (by omega), Nat.mul_add, Nat.add_assoc, ← Nat.mul_assoc, ← Nat.pow_add, Nat.mul_comm (2 ^ (sumW l (ps.take i) + widA l p * q))]
theorem code_spec {h : Hp} {M : MSl} {m : ModelP} {s t : Sl} {ps : List Nat} {vs : List (List Nat)} {R : Value → Hp → Prop} (hs : ModelS h M m) (hm : Small m) (hok : nodesOkP m.nodes = true) (hp : IntS h s (VL ps)) (hps : ∀ p ∈ ps, p < m.nodes.length) (hpl : ps.length ≤ 1048576)
  (hv : IntSS h t (vs.map VL)) (hf : FitR m.nodes ps vs) (hsum : sumW m.nodes ps ≤ 60) (k : R (I (packR m.nodes ps vs)) h) : c_impl_Model_code #[modelV M, s.v, t.v] h R := by
 refine ACalls.drop (R_impl_Model_code ?_)
 unfold F_impl_Model_code
 have hn := hs.nodes.len
 have hns := hm.nodes
 have hsn := hp.len
 rw [VL_len] at hsn
 have htn := hv.len
 rw [List.length_map] at htn
 have hvl := fitR_len hf
 have hsum60 := pow60 hsum
 refine alloc_of fun b9 h1 hb9 l1 f9 => ?_
 refine loop_up ps.length (fun i ws h' => h' = h1 ∧ ws = [t.v, .pointer (some ⟨b9, 0, none⟩), I (packR m.nodes (ps.take i) (vs.take i) : Nat), I (sumW m.nodes (ps.take i) : Nat), s.v, I s.n, I i]) ⟨rfl, by simp [packR, sumW]⟩ ?_
 rintro i _ _ next hi ⟨rfl, rfl⟩ hnx
 rename_i h1
 refine ⟨t, _, _, _, _, s, _, _, rfl, ?_⟩
 by_cases hlt : i < ps.length
 rotate_left
 ·have hie : i = ps.length := by omega
  subst hie
  refine bs_f (by simp; omega) ⟨_, l1, ?_⟩
  rw [List.take_of_length_le (Nat.le_refl _), List.take_of_length_le (by omega)]; exact k
 refine bs_t (by simp; omega) ?_
 obtain ⟨p, hpi⟩ : ∃ p, ps[i]? = some p := ⟨_, List.getElem?_eq_getElem hlt⟩
 have hpm := hps p (List.mem_of_getElem? hpi)
 obtain ⟨b, o, ha, hc⟩ := (hp.mono l1).get (VL_getE hpi)
 refine ⟨b, o, ha, by omega, by omega, _, hc, ?_⟩
 obtain ⟨bt, ot, c, hta, htc, hcv⟩ := (hv.mono l1).getV (i := i) (by omega)
 refine ⟨bt, ot, hta, by omega, by omega, c, htc, ?_⟩
 obtain ⟨bn, on, han, hpn, c7, w1, w16⟩ := (hs.mono l1).nodes.widc hpm hok
 have hg := fitR_get hf hpi
 have hcn := hcv.len
 rw [VL_len] at hcn
 have hcl := cellsA_le m.nodes p
 refine loop_up (cellsA m.nodes p) (fun q ws h' => h' = h1 ∧ ws = [t.v, .pointer (some ⟨b9, 0, none⟩), I (packR m.nodes (ps.take i) (vs.take i) + 2 ^ sumW m.nodes (ps.take i) * packC (widA m.nodes p) ((vs.getD i []).take q) : Nat),
  I (sumW m.nodes (ps.take i) + widA m.nodes p * q : Nat), I p, s.v, I s.n, I i, c.v, I c.n, I q]) ⟨rfl, by simp [packC]⟩ ?_
 rintro q _ _ next2 hq ⟨rfl, rfl⟩ hnx2
 rename_i h1
 refine ⟨t, _, _, _, _, _, s, _, _, c, _, _, rfl, ?_⟩
 by_cases hlq : q < cellsA m.nodes p
 rotate_left
 ·have hqe : q = cellsA m.nodes p := by omega
  subst hqe
  refine bs_f (by simp; omega) ?_
  rw [W_succ (by omega)]
  refine hnx hlt _ _ ⟨rfl, ?_⟩
  rw [packR_take hpi hf, sumW_take hpi, List.take_of_length_le (l := vs.getD i []) (by omega)]
 refine bs_t (by simp; omega) ?_
 obtain ⟨bc, oc, hca, hcc, hln⟩ := hcv.elt (i := q) (by omega)
 refine ⟨bc, oc, hca, by omega, by omega, _, hcc, ?_⟩
 have hb1 := pack_in_lt hpi hf (Nat.le_of_lt hlq)
 have hb2 := pack_in_lt (q := q + 1) hpi hf hlq
 rw [pack_step hpi hf hlq] at hb2
 have hs1 := sumW_cell hpi (Nat.le_of_lt hlq)
 have hs2 := sumW_cell (q := q + 1) hpi hlq
 have hp1 := pow60 (n := sumW m.nodes (ps.take i) + widA m.nodes p * (q + 1)) (by omega)
 have hp2 := pow60 (n := sumW m.nodes (ps.take i) + widA m.nodes p * q) (by omega)
 rw [if_neg (by omega)]
 (refine rdx_ ?_)
 refine ⟨bn, on, han, by omega, hpn, _, c7, ?_⟩
 rw [shlW_nat (by omega) (by omega), orW_nat (by omega) (by omega), or_add hb1, ← pack_step hpi hf hlq, W_id (n := ((sumW m.nodes (ps.take i) + widA m.nodes p * q : Nat) : Int) + (widA m.nodes p : Nat)) (by omega) (by omega), W_succ (by omega)]
 refine hnx2 hlq _ _ ⟨rfl, ?_⟩
 rw [Nat.mul_add, Nat.mul_one, ← Nat.add_assoc, Int.natCast_add (sumW m.nodes (ps.take i) + widA m.nodes p * q)]
theorem l5Pack_spec {h : Hp} {M : MSl} {m : ModelP} {s t : Sl} {ps : List Nat} {vs : List (List Nat)} {R : Value → Hp → Prop} (hs : ModelS h M m) (hm : Small m) (hok : nodesOkP m.nodes = true) (hp : IntS h s (VL ps)) (hps : ∀ p ∈ ps, p < m.nodes.length) (hpl : ps.length ≤ 1048576)
  (hv : IntSS h t (vs.map VL)) (hf : FitR m.nodes ps vs) (hsum : sumW m.nodes ps ≤ 60) (k : R (I (packR m.nodes ps vs)) h) : c_spec_l5Pack #[modelV M, s.v, t.v] h R := by
 refine ACalls.drop (R_spec_l5Pack ?_)
 unfold F_spec_l5Pack
 have hn := hs.nodes.len
 have hns := hm.nodes
 have hsn := hp.len
 rw [VL_len] at hsn
 have htn := hv.len
 rw [List.length_map] at htn
 have hvl := fitR_len hf
 have hsum60 := pow60 hsum
 refine alloc_of fun b9 h1 hb9 l1 f9 => ?_
 refine loop_up ps.length (fun i ws h' => h' = h1 ∧ ws = [s.v, t.v, .pointer (some ⟨b9, 0, none⟩), I (packR m.nodes (ps.take i) (vs.take i) : Nat), I (sumW m.nodes (ps.take i) : Nat), I i]) ⟨rfl, by simp [packR, sumW]⟩ ?_
 rintro i _ _ next hi ⟨rfl, rfl⟩ hnx
 rename_i h1
 refine ⟨s, t, _, _, _, _, _, rfl, ?_⟩
 by_cases hlt : i < ps.length
 rotate_left
 ·have hie : i = ps.length := by omega
  subst hie
  refine bs_f (by simp; omega) ⟨_, l1, ?_⟩
  rw [List.take_of_length_le (Nat.le_refl _), List.take_of_length_le (by omega)]; exact k
 refine bs_t (by simp; omega) ?_
 obtain ⟨p, hpi⟩ : ∃ p, ps[i]? = some p := ⟨_, List.getElem?_eq_getElem hlt⟩
 have hpm := hps p (List.mem_of_getElem? hpi)
 obtain ⟨b, o, ha, hc⟩ := (hp.mono l1).get (VL_getE hpi)
 refine ⟨b, o, ha, by omega, by omega, ?_⟩
 (refine rdx_ ?_)
 refine ⟨_, hc, ?_⟩
 obtain ⟨bn, on, han, hpn, c7, w1, w16⟩ := (hs.mono l1).nodes.widc hpm hok
 refine ⟨bn, on, han, by omega, hpn, _, c7, ?_⟩
 obtain ⟨bt, ot, c, hta, htc, hcv⟩ := (hv.mono l1).getV (i := i) (by omega)
 have hg := fitR_get hf hpi
 have hcn := hcv.len
 rw [VL_len] at hcn
 have hcl := cellsA_le m.nodes p
 refine loop_up (cellsA m.nodes p) (fun q ws h' => h' = h1 ∧ ws = [s.v, t.v, .pointer (some ⟨b9, 0, none⟩), I (packR m.nodes (ps.take i) (vs.take i) + 2 ^ sumW m.nodes (ps.take i) * packC (widA m.nodes p) ((vs.getD i []).take q) : Nat),
  I (sumW m.nodes (ps.take i) + widA m.nodes p * q : Nat), I i, I (widA m.nodes p), I q]) ⟨rfl, by simp [packC]⟩ ?_
 rintro q _ _ next2 hq ⟨rfl, rfl⟩ hnx2
 rename_i h1
 refine ⟨s, t, _, _, _, _, _, _, _, rfl, ?_⟩
 refine ⟨bt, ot, hta, by omega, by omega, c, htc, ?_⟩
 by_cases hlq : q < cellsA m.nodes p
 rotate_left
 ·have hqe : q = cellsA m.nodes p := by omega
  subst hqe
  refine bs_f (by simp; omega) ?_
  rw [W_succ (by omega)]
  refine hnx hlt _ _ ⟨rfl, ?_⟩
  rw [packR_take hpi hf, sumW_take hpi, List.take_of_length_le (l := vs.getD i []) (by omega)]
 refine bs_t (by simp; omega) ?_
 refine ⟨bt, ot, hta, by omega, by omega, c, htc, ?_⟩
 obtain ⟨bc, oc, hca, hcc, hln⟩ := hcv.elt (i := q) (by omega)
 refine ⟨bc, oc, hca, by omega, by omega, _, hcc, ?_⟩
 have hb1 := pack_in_lt hpi hf (Nat.le_of_lt hlq)
 have hb2 := pack_in_lt (q := q + 1) hpi hf hlq
 rw [pack_step hpi hf hlq] at hb2
 have hs1 := sumW_cell hpi (Nat.le_of_lt hlq)
 have hs2 := sumW_cell (q := q + 1) hpi hlq
 have hp1 := pow60 (n := sumW m.nodes (ps.take i) + widA m.nodes p * (q + 1)) (by omega)
 have hp2 := pow60 (n := sumW m.nodes (ps.take i) + widA m.nodes p * q) (by omega)
 rw [Wu_nat (n := sumW m.nodes (ps.take i) + widA m.nodes p * q) (by omega), if_neg (by omega)]
 rw [shlW_nat (by omega) (by omega), ← Int.natCast_add, W_nat (by omega), ← pack_step hpi hf hlq, W_id (n := ((sumW m.nodes (ps.take i) + widA m.nodes p * q : Nat) : Int) + (widA m.nodes p : Nat)) (by omega) (by omega), W_succ (by omega)]
 refine hnx2 hlq _ _ ⟨rfl, ?_⟩
 rw [Nat.mul_add, Nat.mul_one, ← Nat.add_assoc, Int.natCast_add (sumW m.nodes (ps.take i) + widA m.nodes p * q)]
structure AllV (m : ModelP) (v : List (List Nat)) : Prop where
 len : v.length = m.nodes.length
 fit : FitTo m.nodes m.nodes.length v
theorem codeV_all {m : ModelP} (g : Good m) (s i : Nat) : AllV m (codeV m s i) := ⟨valsP_len _ _ _, codeV_fit g s i⟩
theorem val0_all {m : ModelP} (g : Good m) : AllV m (val0 m) := ⟨valsP_len _ _ _, vals_fit g (zeros_fit m.nodes (stP m)) (zeros_fit m.nodes (inP m))⟩
theorem prop_at {m : ModelP} {v : List (List Nat)} (a : AllV m v) {p : Int} (h : propOkP m.nodes p = true) : 0 ≤ p ∧ p < v.length ∧ 0 < (v.getD p.toNat []).length ∧ cellP v p < 2 := by
 unfold propOkP at h
 simp only [Bool.and_eq_true, decide_eq_true_eq] at h
 have hp := place_iff.1 h.1
 have hn : ((p.toNat : Nat) : Int) = p := by omega
 have hf := a.fit p.toNat (by omega) (by omega)
 rw [hn, h.2] at hf
 have := hf.cell
 exact ⟨hp.1, by rw [a.len]; exact hp.2, hf.pos, by unfold cellP; exact this⟩
theorem isOne_spec {h : Hp} {s : Sl} {v : List (List Nat)} {p : Int} {R : Value → Hp → Prop} (hpv : PVal h s v) (h0 : 0 ≤ p) (hp : p < v.length) (hne : 0 < (v.getD p.toNat []).length)
  (k : R (.bool (decide (cellP v p = 1))) h) : c_impl_isOne #[s.v, I p] h R := by
 apply R_impl_isOne
 unfold F_impl_isOne
 obtain ⟨b, o, t, ha, hlt, hc, ht⟩ := hpv.at h0 hp
 refine ⟨b, o, ha, h0, hlt, t, hc, ?_⟩
 obtain ⟨b2, o2, ha2, hc2, hl2⟩ := ht.elt hne
 refine ⟨b2, o2, ha2, by omega, by omega, _, hc2, b_leaf ?_ k⟩
 rw [Bool.eq_iff_iff, decide_eq_true_eq, beq_iff_eq]
 unfold cellP; omega
theorem holds_spec {h : Hp} {M : MSl} {m : ModelP} {s : Sl} {v : List (List Nat)} {R : Value → Hp → Prop} (hs : ModelS h M m) (g : Good m) (hpv : PVal h s v) (a : AllV m v)
  (k : R (.bool (holdsV m v)) h) : c_impl_Model_holds #[modelV M, s.v] h R := by
 refine ACalls.drop (R_impl_Model_holds ?_)
 unfold F_impl_Model_holds
 refine alloc_of fun b8 h1 hb8 l1 f8 => ?_
 refine alloc_of fun b10 h2 hb10 l2 f10 => ?_
 replace f8 := l2 _ _ f8
 replace l2 := Hp.le_trans l1 l2
 (refine rdx_ ?_)
 refine ContainsFunc_int_spec (fun p => !decide (cellP v p = 1)) (hs.mono l2).holds (fun p hp R k => ?_) ⟨_, rfl, _, l2, b_leaf ?_ k⟩
 ·obtain ⟨h1, h2, h3, _⟩ := prop_at a (g.hol p hp)
  apply R_impl_Model_holds_d1
  unfold F_impl_Model_holds_d1
  (refine rdx_ ?_)
  exact isOne_spec (hpv.mono l2) h1 h2 h3 ⟨_, rfl, k⟩
 ·rw [any_not, Bool.not_not]; rfl
theorem bad_spec {h : Hp} {M : MSl} {m : ModelP} {s : Sl} {v : List (List Nat)} {R : Value → Hp → Prop} (hs : ModelS h M m) (g : Good m) (hpv : PVal h s v) (a : AllV m v)
  (k : R (I (badI m v)) h) : c_impl_Model_bad #[modelV M, s.v] h R := by
 refine ACalls.drop (R_impl_Model_bad ?_)
 unfold F_impl_Model_bad
 refine alloc_of fun b8 h1 hb8 l1 f8 => ?_
 refine alloc_of fun b10 h2 hb10 l2 f10 => ?_
 replace f8 := l2 _ _ f8
 replace l2 := Hp.le_trans l1 l2
 (refine rdx_ ?_)
 refine IndexFunc_int_spec (fun p => decide (cellP v p = 1)) (hs.mono l2).bads (fun p hp R k => ?_) ⟨_, rfl, _, l2, i_leaf ?_ k⟩
 ·obtain ⟨h1, h2, h3, _⟩ := prop_at a (g.bad p hp)
  apply R_impl_Model_bad_d1
  unfold F_impl_Model_bad_d1
  (refine rdx_ ?_)
  exact isOne_spec (hpv.mono l2) h1 h2 h3 ⟨_, rfl, k⟩
 ·unfold idxI badI badV
  cases List.findIdx? (fun p => decide (cellP v p = 1)) m.bads <;> rfl
theorem l4Holds_spec {h : Hp} {M : MSl} {m : ModelP} {s : Sl} {v : List (List Nat)} {R : Value → Hp → Prop} (hs : ModelS h M m) (g : Good m) (hpv : PVal h s v) (a : AllV m v)
  (k : R (.bool (holdsV m v)) h) : c_spec_l4Holds #[modelV M, s.v] h R := by
 refine ACalls.drop (R_spec_l4Holds ?_)
 unfold F_spec_l4Holds
 have hhn := hs.holds.len
 have hhl := g.hl
 refine alloc_of fun b8 h1 hb8 l1 f8 => ?_
 refine loop_up m.holds.length (fun i vs h' => h' = h1 ∧ vs = [s.v, .pointer (some ⟨b8, 0, none⟩), I i] ∧ (m.holds.take i).all (fun p => decide (cellP v p = 1)) = true) ⟨rfl, rfl, rfl⟩ ?_
 rintro i _ _ next hi ⟨rfl, rfl, hall⟩ hnx
 rename_i h1
 refine ⟨s, _, _, _, rfl, ?_⟩
 repeat' (refine rdx_ ?_)
 by_cases hlt : i < m.holds.length
 rotate_left
 ·refine bs_f (by simp; omega) ⟨_, l1, b_leaf ?_ k⟩
  rw [List.take_of_length_le (by omega)] at hall
  exact hall.symm
 refine bs_t (by simp; omega) ?_
 obtain ⟨p, hpi⟩ : ∃ p, m.holds[i]? = some p := ⟨_, List.getElem?_eq_getElem hlt⟩
 obtain ⟨e0, e1, e2, e3⟩ := prop_at a (g.hol p (List.mem_of_getElem? hpi))
 obtain ⟨b, o, ha, hc⟩ := (hs.mono l1).holds.get hpi
 (refine rdx_ ?_)
 refine ⟨b, o, ha, by omega, by omega, _, hc, ?_⟩
 obtain ⟨b1, o1, t, ha1, hlt1, hc1, ht⟩ := (hpv.mono l1).at e0 e1
 refine ⟨b1, o1, ha1, e0, hlt1, t, hc1, ?_⟩
 obtain ⟨b2, o2, ha2, hc2, hl2⟩ := ht.elt e2
 refine ⟨b2, o2, ha2, by omega, by omega, _, hc2, ?_⟩
 refine bsplit_of (fun e => ⟨_, l1, b_leaf ?_ k⟩) (fun e => ?_)
 ·have e' := eq_of e
  symm
  refine all_no hpi ?_
  rw [decide_eq_false_iff_not]
  unfold cellP; omega
 ·have e' := ne_of e
  rw [W_succ (by omega)]
  refine hnx hlt _ _ ⟨rfl, rfl, ?_⟩
  rw [all_stepx hpi, hall, Bool.true_and, decide_eq_true_eq]
  unfold cellP at e3 ⊢; omega
theorem findIdx_first {α : Type} {p : α → Bool} {xs : List α} {i : Nat} {x : α} (hx : xs[i]? = some x) (hp : p x = true) (h : (xs.take i).any p = false) : xs.findIdx? p = some i := by
 have hlt := get_lt hx
 have he : xs[i] = x := by rw [List.getElem?_eq_getElem hlt] at hx; exact Option.some.inj hx
 rw [List.findIdx?_eq_some_iff_getElem]
 refine ⟨hlt, by rw [he]; exact hp, fun j hj => ?_⟩
 rw [List.any_eq_false] at h
 have := h xs[j] (by rw [List.mem_take_iff_getElem]; exact ⟨j, by omega, rfl⟩)
 simpa using this
theorem findIdx_nil {α : Type} {p : α → Bool} {xs : List α} (h : xs.any p = false) : xs.findIdx? p = none := by
 rw [List.findIdx?_eq_none_iff]
 rw [List.any_eq_false] at h
 intro x hx; simpa using h x hx
theorem any_stepx {α : Type} {l : List α} {p : α → Bool} {i : Nat} {x : α} (hx : l[i]? = some x) : (l.take (i + 1)).any p = ((l.take i).any p || p x) := by
 have hlt := get_lt hx
 rw [List.getElem?_eq_getElem hlt] at hx
 rw [List.take_succ_eq_append_getElem hlt, List.any_append, Option.some.inj hx]; simp
theorem l4Bad_spec {h : Hp} {M : MSl} {m : ModelP} {s : Sl} {v : List (List Nat)} {R : Value → Hp → Prop} (hs : ModelS h M m) (g : Good m) (hpv : PVal h s v) (a : AllV m v)
  (k : R (I (badI m v)) h) : c_spec_l4Bad #[modelV M, s.v] h R := by
 refine ACalls.drop (R_spec_l4Bad ?_)
 unfold F_spec_l4Bad
 have hhn := hs.bads.len
 have hhl := g.bl
 refine alloc_of fun b8 h1 hb8 l1 f8 => ?_
 refine loop_up m.bads.length (fun i vs h' => h' = h1 ∧ vs = [s.v, .pointer (some ⟨b8, 0, none⟩), I i] ∧ (m.bads.take i).any (fun p => decide (cellP v p = 1)) = false) ⟨rfl, rfl, rfl⟩ ?_
 rintro i _ _ next hi ⟨rfl, rfl, hall⟩ hnx
 rename_i h1
 refine ⟨s, _, _, _, rfl, ?_⟩
 repeat' (refine rdx_ ?_)
 by_cases hlt : i < m.bads.length
 rotate_left
 ·refine bs_f (by simp; omega) ⟨_, l1, i_leaf ?_ k⟩
  rw [List.take_of_length_le (by omega)] at hall
  unfold badI badV
  rw [findIdx_nil hall]
 refine bs_t (by simp; omega) ?_
 obtain ⟨p, hpi⟩ : ∃ p, m.bads[i]? = some p := ⟨_, List.getElem?_eq_getElem hlt⟩
 obtain ⟨e0, e1, e2, e3⟩ := prop_at a (g.bad p (List.mem_of_getElem? hpi))
 obtain ⟨b, o, ha, hc⟩ := (hs.mono l1).bads.get hpi
 (refine rdx_ ?_)
 refine ⟨b, o, ha, by omega, by omega, _, hc, ?_⟩
 obtain ⟨b1, o1, t, ha1, hlt1, hc1, ht⟩ := (hpv.mono l1).at e0 e1
 refine ⟨b1, o1, ha1, e0, hlt1, t, hc1, ?_⟩
 obtain ⟨b2, o2, ha2, hc2, hl2⟩ := ht.elt e2
 refine ⟨b2, o2, ha2, by omega, by omega, _, hc2, ?_⟩
 refine bsplit_of (fun e => ⟨_, l1, i_leaf ?_ k⟩) (fun e => ?_)
 ·have e' := eq_of e
  unfold badI badV
  rw [findIdx_first hpi (by rw [decide_eq_true_eq]; unfold cellP; omega) hall]
 ·have e' := ne_of e
  rw [W_succ (by omega)]
  refine hnx hlt _ _ ⟨rfl, rfl, ?_⟩
  rw [any_stepx hpi, hall, Bool.false_or, decide_eq_false_iff_not]
  unfold cellP; omega
def boundI (binds : List BindP) (p : Nat) : Int := match boundP binds p with | some k => k | none => -1
theorem bound_cons (b : BindP) (r : List BindP) (p : Nat) : boundP (b :: r) p = if b.state = (p : Int) then some b.node.toNat else boundP r p := by
 unfold boundP
 rw [List.find?_cons]
 by_cases e : b.state = (p : Int) <;> simp [e]
theorem l4Bound_spec {h : Hp} {s : Sl} {binds : List BindP} {p : Nat} {R : Value → Hp → Prop} (hs : BindS h s binds) (hl : binds.length ≤ 1048576) (h0 : ∀ b ∈ binds, 0 ≤ b.node)
  (k : R (I (boundI binds p)) h) : c_spec_l4Bound #[s.v, I p] h R := by
 apply R_spec_l4Bound
 unfold F_spec_l4Bound
 have hn := hs.len
 refine loop_up binds.length (fun i vs h' => h' = h ∧ vs = [s.v, I p, I i] ∧ boundP (binds.drop i) p = boundP binds p) ⟨rfl, rfl, rfl⟩ ?_
 rintro i _ _ next hi ⟨rfl, rfl, hall⟩ hnx
 rename_i h
 refine ⟨s, _, _, rfl, ?_⟩
 by_cases hlt : i < binds.length
 rotate_left
 ·refine bs_f (by simp; omega) (i_leaf ?_ k)
  rw [List.drop_of_length_le (by omega)] at hall
  unfold boundI
  rw [← hall]; rfl
 refine bs_t (by simp; omega) ?_
 obtain ⟨x, hxi⟩ : ∃ x, binds[i]? = some x := ⟨_, List.getElem?_eq_getElem hlt⟩
 have hx0 := h0 x (List.mem_of_getElem? hxi)
 obtain ⟨b, o, ha, c1, c2⟩ := hs.at hxi
 have hd : binds.drop i = x :: binds.drop (i + 1) := by
  rw [List.drop_eq_getElem_cons hlt]
  rw [List.getElem?_eq_getElem hlt] at hxi
  rw [Option.some.inj hxi]
 rw [hd, bound_cons] at hall
 refine ⟨b, o, ha, by omega, by omega, _, c1, ?_⟩
 refine bsplit_of (fun e => ?_) (fun e => ?_)
 ·refine ⟨b, o, ha, by omega, by omega, _, c2, i_leaf ?_ k⟩
  rw [if_pos (eq_of e)] at hall
  unfold boundI
  rw [← hall]
  show x.node = ((x.node.toNat : Nat) : Int)
  omega
 ·rw [W_succ (by omega)]
  rw [if_neg (ne_of e)] at hall
  exact hnx hlt _ _ ⟨rfl, rfl, hall⟩
theorem offS_comm (h : Hp) (s t : Sl) : (h.offS s).offS t = (h.offS t).offS s := by
 unfold Hp.offS
 cases s.a <;> cases t.a <;> first | rfl | exact off_comm _ _ _
theorem Buf.beside {h : Hp} {s t : Sl} {sz sz' : Nat} {cs ds : List Value} (e : Buf h s sz cs) (f : Buf (h.offS s) t sz' ds) : Buf (h.offS t) s sz cs := by
 refine ⟨e.1, e.2.1, e.2.2.imp id ?_⟩
 rintro ⟨b, hb, hbb⟩
 refine ⟨b, hb, ?_⟩
 rcases f.2.2 with ⟨h0, _⟩ | ⟨c, hc, hcc⟩
 ·unfold Hp.offS; rw [h0]; exact hbb
 ·have hne : c ≠ b := by
   rintro rfl
   simp only [Hp.offS, hb, off_at] at hcc; cases hcc
  simp only [Hp.offS, hc, Hp.off, Hp.set]
  rw [if_neg (fun e => hne e.symm)]; exact hbb
theorem places_w {m : ModelP} (g : Good m) (kind : Int) : ∀ p ∈ placesP m.nodes kind, p < m.nodes.length := fun p hp => places_ltL hp
theorem places_len (l : List NodeP) (kind : Int) : (placesP l kind).length ≤ l.length := by
 unfold placesP
 refine Nat.le_trans (List.length_filter_le _ _) ?_
 rw [List.length_range]; omega
theorem zeros_mem {l : List NodeP} {ps : List Nat} {v : List Nat} (h : v ∈ zerosL l ps) : v.length ≤ 4 := by
 unfold zerosL at h
 obtain ⟨p, _, rfl⟩ := List.mem_map.1 h
 rw [List.length_replicate]; exact cellsA_le _ _
theorem initial_spec {h : Hp} {M : MSl} {m : ModelP} {R : Value → Hp → Prop} (hs : ModelS h M m) (hm : Small m) (g : Good m)
  (k : ∀ t h', h.le h' → t.n = m.nodes.length → PVal h' t (val0 m) → R (Sl.v t) h') : c_impl_Model_initial #[modelV M] h R := by
 apply R_impl_Model_initial
 unfold F_impl_Model_initial
 have hp36 := places_len m.nodes 36
 have hp35 := places_len m.nodes 35
 have hns := hm.nodes
 refine alloc_of fun b7 h1 hb7 l1 f7 => ?_
 have x7 := nz_some f7
 repeat' (refine rdx_ ?_)
 refine impl_places_spec (hs.mono l1) hm fun t1 h2 l2 p1 => ⟨t1, rfl, ?_⟩
 repeat' (((with_reducible apply kp_le); (assumption); (assumption)))
 have l12 := Hp.le_trans l1 l2
 refine zeros_spec (hs.mono l12) hm p1 (places_w g 36) (by omega) fun o1 ts1 h3 c1 n1 => ⟨o1, rfl, ?_⟩
 have l23 := Hp.le_trans c1.le (offS_le _ _)
 have l13 := Hp.le_trans l2 l23
 repeat' (((with_reducible apply kp_le); (assumption); (assumption)))
 refine impl_places_spec (hs.mono (Hp.le_trans l1 l13)) hm fun t2 h4 l4 p2 => ⟨t2, rfl, ?_⟩
 have l14 := Hp.le_trans l13 l4
 repeat' (((with_reducible apply kp_le); (assumption); (assumption)))
 refine zeros_spec (hs.mono (Hp.le_trans l1 l14)) hm p2 (places_w g 35) (by omega) fun o2 ts2 h5 c2 n2 => ⟨o2, rfl, ?_⟩
 have l45 := Hp.le_trans c2.le (offS_le _ _)
 have l15 := Hp.le_trans l14 l45
 (((with_reducible apply kp_le); (assumption); (assumption)))
 have i1 : IntSS h5 o1 ((zerosL m.nodes (stP m)).map VL) := (c1.ints (fun v hv => by have := zeros_mem hv; omega) (by omega)).mono (Hp.le_trans l4 l45)
 have i2 : IntSS h5 o2 ((zerosL m.nodes (inP m)).map VL) := c2.ints (fun v hv => by have := zeros_mem hv; omega) (by omega)
 exact eval_spec (hs.mono (Hp.le_trans l1 l15)) hm g.ok g.nl i1 c1.buf.2.1 (fitR_at g.ok (zeros_fit _ _)) i2 c2.buf.2.1 (fitR_at g.ok (zeros_fit _ _)) fun t h6 l6 hn hpv => ⟨t, rfl, k t h6 (Hp.le_trans l1 (Hp.le_trans l15 l6)) hn hpv⟩
theorem zerosL_append (l : List NodeP) (a b : List Nat) : zerosL l (a ++ b) = zerosL l a ++ zerosL l b := by simp [zerosL]
structure ZS (l : List NodeP) (g : Hp) (ps : List Nat) (ts : List Sl) : Prop where
 len : ts.length = ps.length
 val : ∀ (j : Nat) (t : Sl), ts[j]? = some t → IntS g t (VL ((zerosL l ps).getD j []))
theorem ZS.mono {l : List NodeP} {g g' : Hp} {ps : List Nat} {ts : List Sl} (le : g.le g') (e : ZS l g ps ts) : ZS l g' ps ts := ⟨e.len, fun j t h => (e.val j t h).mono le⟩
theorem ZS.snoc {l : List NodeP} {g : Hp} {ps : List Nat} {ts : List Sl} {p : Nat} {t : Sl} (e : ZS l g ps ts) (h : IntS g t (VL (List.replicate (cellsA l p) 0))) : ZS l g (ps ++ [p]) (ts ++ [t]) := by
 refine ⟨by simp [e.len], fun j u hu => ?_⟩
 rw [zerosL_append]
 by_cases hj : j < ts.length
 ·rw [List.getElem?_append_left hj] at hu
  rw [getD_append_left (by rw [zerosL_len, ← e.len]; exact hj)]
  exact e.val j u hu
 ·have hju := get_lt hu
  simp at hju
  have hje : j = ts.length := by omega
  subst hje
  rw [List.getElem?_append_right (Nat.le_refl _), Nat.sub_self] at hu
  simp at hu; subst hu
  rw [List.getD_eq_getElem?_getD, List.getElem?_append_right (by rw [zerosL_len, e.len]; exact Nat.le_refl _), zerosL_len, e.len, Nat.sub_self]
  exact h
theorem ZS.ints {l : List NodeP} {g h : Hp} {ps : List Nat} {ts : List Sl} {s : Sl} (e : ZS l g ps ts) (le : g.le h) (hb : Buf h s 1 (ts.map Sl.v)) (hn : s.n ≤ 1048576) : IntSS h s ((zerosL l ps).map VL) := by
 refine ⟨ts, by rw [List.length_map, zerosL_len]; exact e.len, hb.slc_of (by omega), fun i h1 h2 => ?_⟩
 have := (e.val i _ (List.getElem?_eq_getElem h1)).mono le
 have hi : i < (zerosL l ps).length := by rw [List.length_map] at h2; exact h2
 rw [List.getElem_map]
 rwa [List.getD_eq_getElem?_getD, List.getElem?_eq_getElem hi] at this
theorem l4Fixed_spec {h : Hp} {M : MSl} {m : ModelP} {R : Value → Hp → Prop} (hs : ModelS h M m) (hm : Small m) (g : Good m)
  (k : ∀ t h', h.le h' → t.n = m.nodes.length → PVal h' t (val0 m) → R (Sl.v t) h') : c_spec_l4Fixed #[modelV M] h R := by
 apply R_spec_l4Fixed
 unfold F_spec_l4Fixed
 have hn := hs.nodes.len
 have hns := hm.nodes
 refine alloc_of fun b7 h1 hb7 l1 f7 => ?_
 refine loop_up m.nodes.length (fun i vs h' => ∃ (ts us : List Sl) (sS sI : Sl), vs = [.pointer (some ⟨b7, 0, none⟩), sS.v, sI.v, I i] ∧ h.le ((h'.offS sS).offS sI) ∧ ((h'.offS sS).offS sI) b7 = some (.inl ⟨modelC M, 5, false⟩) ∧
  Buf h' sS 1 (ts.map Sl.v) ∧ Buf (h'.offS sS) sI 1 (us.map Sl.v) ∧ ZS m.nodes ((h'.offS sS).offS sI) (placesP (m.nodes.take i) 36) ts ∧ ZS m.nodes ((h'.offS sS).offS sI) (placesP (m.nodes.take i) 35) us ∧ sS.n ≤ i ∧ sI.n ≤ i)
  ⟨[], [], ⟨none, 0, 0⟩, ⟨none, 0, 0⟩, rfl, l1, f7, buf_nil _ _, buf_nil _ _, ⟨rfl, fun j t ht => by simp at ht⟩, ⟨rfl, fun j t ht => by simp at ht⟩, Nat.le_refl _, Nat.le_refl _⟩ ?_
 clear f7 l1 hb7 h1
 rintro i _ h1 next hi ⟨ts, us, sS, sI, rfl, l1, f7, bS, bI, zS, zI, nS, nI⟩ hnx
 have lo := Hp.le_trans (offS_le (h1.offS sS) sI) (offS_le h1 sS)
 have l1' := Hp.le_trans l1 lo
 have f7' := lo _ _ f7
 refine ⟨_, _, sS, sI, _, rfl, ?_⟩
 repeat' (refine rdx_ ?_)
 by_cases hlt : i < m.nodes.length
 rotate_left
 ·have hie : i = m.nodes.length := by omega
  subst hie
  refine bs_f (by simp; omega) ?_
  repeat' (refine rdx_ ?_)
  rw [List.take_of_length_le (Nat.le_refl _)] at zS zI
  have i1 := zS.ints lo bS (by omega)
  have i2 := zI.ints lo (bI.mono (offS_le _ _)) (by omega)
  exact l4All_spec (hs.mono l1') hm g.ok g.nl i1 (fitR_at g.ok (zeros_fit _ _)) i2 (fitR_at g.ok (zeros_fit _ _)) fun t h6 l6 hn hpv _ => ⟨t, rfl, k t h6 (Hp.le_trans l1' l6) hn hpv⟩
 refine bs_t (by simp; omega) ?_
 obtain ⟨n, hni⟩ : ∃ n, m.nodes[i]? = some n := ⟨_, List.getElem?_eq_getElem hlt⟩
 (refine rdx_ ?_)
 obtain ⟨bn, on, han, e0, e1, e2, e3, e4, e5, e6, e7, e8⟩ := (hs.nodes.mono l1').at hni
 have hsa : sortAt m.nodes ((i : Nat) : Int) = n.sort := by unfold sortAt; rw [Int.toNat_natCast, hni]
 refine ⟨bn, on, han, by omega, by omega, _, e6, _, e7, ?_⟩
 refine spec_SortCells_spec ⟨_, rfl, ?_⟩
 have hce : sortCellsP ⟨n.sort.idx, n.sort.wid⟩ = cellsA m.nodes i := by unfold cellsA; rw [hsa]
 rw [hce]
 have hc4 := cellsA_le m.nodes i
 refine ⟨by omega, by omega, by omega, by omega, ?_⟩
 refine alloc_of fun b33 h2 hb33 l2 f33 => ?_
 rw [Int.toNat_natCast, Nat.mul_one, zeroRow_one] at f33
 refine alloc_of fun b35 h3 hb35 l3 f35' => ?_
 have n33 := fresh_ne hb35 f33
 have b35n := none_of_le l2 hb35
 replace f33 := l3 _ _ f33
 (with_reducible apply wr_of); (exact f35'); (exact Hp.le_trans l2 l3); (exact b35n); (exact Nat.le_refl 1)
 intro h4 f35 kp l4
 replace f33 := kp_fact kp n33 f33
 have f35v : h4 b35 = some (.inl ⟨[(⟨some ⟨b33, 0, none⟩, cellsA m.nodes i, cellsA m.nodes i⟩ : Sl).v], 1, false⟩) := f35
 have hz4 : IntS h4 ⟨some ⟨b33, 0, none⟩, cellsA m.nodes i, cellsA m.nodes i⟩ (VL (List.replicate (cellsA m.nodes i) 0)) := by
  refine ⟨by dsimp only; omega, by simp [VL_len], .inr ⟨b33, 0, rfl, ?_⟩⟩
  have hc : (VL (List.replicate (cellsA m.nodes i) 0)).map I = List.replicate (cellsA m.nodes i) (I 0) := by simp [VL]
  rw [hc]; exact cellsAre_of f33
 clear f35 f35' kp l2 l3 hb33 hb35 h2 h3
 have bS4 := bS.mono l4
 have bI4 := bI.mono (offS_mono sS l4)
 have l4o := offS_mono sI (offS_mono sS l4)
 have hz4o : IntS ((h4.offS sS).offS sI) ⟨some ⟨b33, 0, none⟩, cellsA m.nodes i, cellsA m.nodes i⟩ (VL (List.replicate (cellsA m.nodes i) 0)) := (hz4.offL bS4).offL bI4
 have f35o : ((h4.offS sS).offS sI) b35 = some (.inl ⟨[(⟨some ⟨b33, 0, none⟩, cellsA m.nodes i, cellsA m.nodes i⟩ : Sl).v], 1, false⟩) := by
  have d : ∀ {s : Sl} {gg : Hp} {cs : List Value}, gg.le h1 → Buf gg s 1 cs → ∀ a, s.a = some a → a.block ≠ b35 := by
   intro s gg cs hg hb a ha e
   rcases hb.2.2 with ⟨h0, _⟩ | ⟨c, hc, hcb⟩
   ·rw [h0] at ha; cases ha
   ·rw [hc] at ha; cases ha
    subst e
    have := hg _ _ hcb
    rw [b35n] at this; cases this
  rw [offS_ne (d (offS_le _ _) bI), offS_ne (d (Hp.le_refl _) bS)]; exact f35v
 have hp36 := places_pre (kind := 36) hni
 have hp35 := places_pre (kind := 35) hni
 have f7'' := l4 _ _ f7'
 repeat' (refine rdx_ ?_)
 refine ⟨bn, on, han, by omega, by omega, _, l4.cell e0, ?_⟩
 refine joinP_of (fun J => ∀ (sS' : Sl) (ts' : List Sl) (h5 : Hp), ((h4.offS sS).offS sI).le ((h5.offS sS').offS sI) → Buf h5 sS' 1 (ts'.map Sl.v) → Buf (h5.offS sS') sI 1 (us.map Sl.v) → ZS m.nodes ((h5.offS sS').offS sI) (placesP (m.nodes.take (i + 1)) 36) ts' → sS'.n ≤ i + 1 → J sS' h5) ?_ (fun J hJ => ?_)
 ·intro sS' ts' h5 l5 bS5 bI5 zS5 nS5
  have lo5 := Hp.le_trans (offS_le (h5.offS sS') sI) (offS_le h5 sS')
  have l15 := Hp.le_trans l4o l5
  have g7 := lo5 _ _ (l5 _ _ (l4o _ _ f7))
  have g35 := lo5 _ _ (l5 _ _ f35o)
  have e0' := (Hp.le_trans (Hp.le_trans l1 l15) lo5)
  obtain ⟨bn', on', han', q0, _⟩ := (hs.nodes.mono e0').at hni
  (refine rdx_ ?_)
  refine ⟨bn', on', han', by omega, by omega, _, q0, ?_⟩
  refine bsplit_of (fun e => ?_) (fun e => ?_)
  ·rw [if_pos (eq_of e)] at hp35
   (refine rdx_ ?_)
   refine alloc_of fun b63 h6 hb63 l6 f63 => ?_
   have l6o := offS_mono sS' l6
   have l6o2 := offS_mono sI (offS_mono sS' l6)
   have bS6 := bS5.mono l6
   have bI6 := bI5.mono l6o
   have bS6' := bS6.beside bI6
   refine aApp_buf (bI5.mono (Hp.le_trans l6o (offS_le _ _))) (by omega) (by omega) (by omega) ⟨b63, 0, rfl, cellsAre_of f63⟩ (by simp) rfl ?_
   intro s' h7 hs'n hbuf' l7 _
   rw [W_succ (by omega)]
   have bS7 : Buf (h7.offS s') sS' 1 (ts'.map Sl.v) := bS6'.mono l7
   have bI7 : Buf (h7.offS sS') s' 1 ((us ++ [(⟨some ⟨b33, 0, none⟩, cellsA m.nodes i, cellsA m.nodes i⟩ : Sl)]).map Sl.v) := by
    rw [List.map_append]; exact hbuf'.beside bS7
   have l57 : ((h5.offS sS').offS sI).le ((h7.offS sS').offS s') := by
    have := Hp.le_trans l6o2 (show ((h6.offS sS').offS sI).le ((h7.offS sS').offS s') by
     rw [offS_comm h6, offS_comm h7]; exact offS_mono sS' l7)
    exact this
   have l17 := Hp.le_trans l15 l57
   refine hnx hlt _ _ ⟨ts', _, sS', s', rfl, Hp.le_trans l1 l17, l17 _ _ f7, bS7.mono (offS_le _ _), bI7, zS5.mono l57, ?_, nS5, by omega⟩
   rw [hp35]
   exact (zI.mono l17).snoc (hz4o.mono (Hp.le_trans l5 l57))
  ·rw [if_neg (ne_of e), List.append_nil] at hp35
   rw [W_succ (by omega)]
   refine hnx hlt _ _ ⟨ts', us, sS', sI, rfl, Hp.le_trans l1 l15, l15 _ _ f7, bS5, bI5, zS5, ?_, nS5, by omega⟩
   rw [hp35]; exact zI.mono l15
 ·refine bsplit_of (fun e => ?_) (fun e => ?_)
  ·rw [if_pos (eq_of e)] at hp36
   have f35c := (Hp.le_trans (offS_le (h4.offS sS) sI) (offS_le h4 sS)) _ _ f35o
   (refine rdx_ ?_)
   refine alloc_of fun b48 h6 hb48 l6 f48 => ?_
   have l6o := offS_mono sS l6
   have l6o2 := offS_mono sI l6o
   refine aApp_buf (bS4.mono l6) (by omega) (by omega) (by omega) ⟨b48, 0, rfl, cellsAre_of f48⟩ (by simp) rfl ?_
   intro s' h7 hs'n hbuf' l7 _
   have l47 := Hp.le_trans l6o2 (offS_mono sI l7)
   have bI7 : Buf (h7.offS s') sI 1 (us.map Sl.v) := bI4.mono (Hp.le_trans l6o l7)
   refine hJ s' (ts ++ [(⟨some ⟨b33, 0, none⟩, cellsA m.nodes i, cellsA m.nodes i⟩ : Sl)]) h7 l47 (by rw [List.map_append]; exact hbuf') bI7 ?_ (by omega)
   rw [hp36]
   exact (zS.mono (Hp.le_trans l4o l47)).snoc (hz4o.mono l47)
  ·rw [if_neg (ne_of e), List.append_nil] at hp36
   refine hJ sS ts h4 (Hp.le_refl _) bS4 bI4 ?_ (by omega)
   rw [hp36]; exact zS.mono l4o
theorem Buf.fresh_ne {h : Hp} {s : Sl} {sz b : Nat} {cs : List Value} (e : Buf h s sz cs) (hb : h b = none) : ∀ a, s.a = some a → a.block ≠ b := by
 intro a ha hab
 rcases e.2.2 with ⟨h0, _⟩ | ⟨c, hc, hcb⟩
 ·rw [h0] at ha; cases ha
 ·rw [hc] at ha; cases ha
  subst hab
  rw [hb] at hcb; cases hcb
theorem Buf.offS_new {h h' : Hp} {s : Sl} {sz b : Nat} {cs : List Value} {x : Blk} (e : Buf h s sz cs) (hb : h b = none) (f : h' b = some x) : (h'.offS s) b = some x := by
 rw [offS_ne (e.fresh_ne hb)]; exact f
theorem Buf.sub_le {h h' : Hp} {s : Sl} {sz : Nat} {cs : List Value} (e : Buf (h'.sub h) s sz cs) (l : h.le h') : h.le (h'.offS s) := by
 unfold Hp.offS
 rcases e.2.2 with ⟨h0, _⟩ | ⟨b, ha, hb⟩
 ·rw [h0]; exact l
 ·rw [ha]
  refine le_off ?_ l
  cases hx : h b with
  | none => rfl
  | some x => rw [sub_none hx] at hb; cases hb
theorem Buf.sub_buf {h h' : Hp} {s : Sl} {sz : Nat} {cs : List Value} (e : Buf (h'.sub h) s sz cs) : Buf h' s sz cs := e.mono (Go.Lead.sub_le _ _)
theorem Buf.wr {h : Hp} {out x : Sl} {ts : List Sl} {q : Nat} {P : Hp → Prop} (e : Buf h out 1 (ts.map Sl.v)) (hq : q < ts.length)
  (k : ∀ h', Buf h' out 1 ((ts.set q x).map Sl.v) → h'.offS out = h.offS out → P h') :
  ∃ b o : Nat, out.a = some (Addr.mk b o none) ∧ (0 : Int) ≤ (q : Int) ∧ (q : Int) < ((out.n : Nat) : Int) ∧
   ∃ (cs : List Value) (z : Nat), h b = some (.inl ⟨cs, z, false⟩) ∧ (o + Int.toNat (q : Int) * 1) + 1 ≤ List.length cs ∧ setH (h.row b (lset cs (o + Int.toNat (q : Int) * 1) [x.v]) z) P := by
 have hl := e.1
 rw [List.length_map] at hl
 rcases e.2.2 with ⟨_, h0, _⟩ | ⟨b, ha, hb⟩
 ·omega
 ·refine ⟨b, 0, ha, by omega, by omega, _, _, hb, by rw [List.length_map, Int.toNat_natCast]; omega, ?_⟩
  rw [setH_eq]
  refine k _ ⟨by rw [List.length_map, List.length_set]; omega, e.2.1, .inr ⟨b, ha, ?_⟩⟩ ?_
  ·rw [row_self, lset_one, Int.toNat_natCast, Nat.zero_add, Nat.mul_one, List.map_set]
  ·unfold Hp.offS; rw [ha]; exact off_row _ _ _ _
theorem rep_snoc (v : List Nat) (i x : Nat) : (VL (v ++ List.replicate i x)).map I ++ [I (x : Int)] = (VL (v ++ List.replicate (i + 1) x)).map I := by
 rw [List.replicate_succ', ← List.append_assoc, VL_append (v ++ List.replicate i x), List.map_append]; rfl
theorem spread_spec {h : Hp} {s : Sl} {v : List Nat} {i w : Int} {R : Value → Hp → Prop} (hs : IntS h s (VL v)) (h0 : 0 < v.length) (hl : v.length ≤ 4)
  (k : ∀ t h', h.le h' → IntS h' t (VL (wideP (sortCellsP ⟨i, w⟩) v)) → R (.agg #[Sl.v t]) h') : c_impl_spread #[.agg #[I i, I w], .agg #[s.v]] h R := by
 apply R_impl_spread
 unfold F_impl_spread
 refine alloc_of fun b5 h1 hb5 l1 f5 => ?_
 refine alloc_of fun b7 h2 hb7 l2 f7 => ?_
 replace f5 := l2 _ _ f5
 have l02 := Hp.le_trans l1 l2
 have b7n := none_of_le l1 hb7
 refine alloc_of fun b9 h3 hb9 l3 f9 => ?_
 have n59 := fresh_ne hb9 f5
 have n79 := fresh_ne hb9 f7
 have b9n := none_of_le l02 hb9
 replace f5 := l3 _ _ f5
 replace f7 := l3 _ _ f7
 have l03 := Hp.le_trans l02 l3
 (refine rdx_ ?_)
 refine cloneInts_spec (hs.mono l03) (by rw [VL_len]; omega) fun c h4 l4 hb4 => ⟨c, rfl, ?_⟩
 have l4o := hb4.sub_le l4
 have hb4' := hb4.sub_buf
 refine alloc_of fun b16 h5 hb16 l5 f16' => ?_
 have b16n := none_of_le l4 hb16
 have l5o := Hp.le_trans l4o (offS_mono c l5)
 have f16o := hb4'.offS_new hb16 f16'
 (with_reducible apply wrS_of); (exact f16o); (exact l5o); (exact b16n); (exact Nat.le_refl 1)
 intro h6 f16 kp l6 hbk
 have hbuf := hbk _ _ (hb4'.mono l5)
 have hcn := hbuf.1
 rw [List.length_map, VL_len] at hcn
 have hc4 := sortCells_le ⟨i, w⟩
 refine loop_up (sortCellsP ⟨i, w⟩ - v.length) (fun q vs h' => ∃ sl : Sl, vs = [.pointer (some ⟨b5, 0, none⟩), .pointer (some ⟨b7, 0, none⟩), .pointer (some ⟨b9, 0, none⟩), .pointer (some ⟨b16, 0, none⟩)] ∧ h3.le (h'.offS sl) ∧
  (h'.offS sl) b16 = some (.inl ⟨[sl.v], 1, false⟩) ∧ sl.n = v.length + q ∧ Buf h' sl 1 ((VL (v ++ List.replicate q (v.getD 0 0))).map I)) ⟨c, rfl, l6, f16, by omega, by simpa using hbuf⟩ ?_
 clear hbuf hbk kp l6 f16 f16o l5o f16' l5 hb16 hb4' l4o hb4 l4 hcn h4 h5 h6
 rintro q _ h4 next hq ⟨sl, rfl, l4, f16, hsl, hbuf⟩ hnx
 have lo := offS_le h4 sl
 have l4' := Hp.le_trans l4 lo
 have g5 := l4' _ _ f5
 have g7 := l4' _ _ f7
 have g16 := lo _ _ f16
 refine ⟨_, _, _, _, _, _, _, _, rfl, ?_⟩
 repeat' (refine rdx_ ?_)
 refine impl_SortCells_spec ⟨_, rfl, rfl, ?_⟩
 by_cases hlt : q < sortCellsP ⟨i, w⟩ - v.length
 ·refine bs_t (by simp; omega) ?_
  repeat' (refine rdx_ ?_)
  obtain ⟨b, o, ha, hc, hln⟩ := ((hs.mono l03).mono l4').elt (i := 0) h0
  refine ⟨b, o, ha, by omega, by omega, _, hc, ?_⟩
  have x16 := nz_some g16
  refine alloc_of fun b48 h5 hb48 l5 f48 => ?_
  (((with_reducible apply kp_le); (assumption); (assumption)))
  have l5o := offS_mono sl l5
  refine aApp_buf (hbuf.mono l5) (by omega) (by omega) (by omega) ⟨b48, 0, rfl, cellsAre_of f48⟩ (by simp) rfl ?_
  intro s' h6 hs'n hbuf' l6 _
  have l46 := Hp.le_trans l5o l6
  (with_reducible apply wrS_of); (exact l46 _ _ f16); (exact Hp.le_trans l4 l46); (exact b16n); (exact Nat.le_refl 1)
  intro h7 e16 kp l7 hbk
  refine hnx hlt _ _ ⟨s', rfl, l7, e16, by omega, hbk _ _ ?_⟩
  rw [← rep_snoc]; exact hbuf'
 ·have hqe : q = sortCellsP ⟨i, w⟩ - v.length := by omega
  subst hqe
  refine bs_f (by simp; omega) ?_
  repeat' (refine rdx_ ?_)
  have f9o : (h4.offS sl) b9 = some (.inl ⟨[.slice none 0 0], 1, false⟩) := l4 _ _ f9
  (with_reducible apply wrS_of); (exact f9o); (exact Hp.le_trans l03 l4); (exact b9n); (exact Nat.le_refl 1)
  intro h7 e9 kp l7 hbk
  have e9' := offS_le _ _ _ _ e9
  refine ⟨sl, by rw [cell_of e9']; rfl, k sl h7 (Hp.le_trans l7 (offS_le _ _)) ((hbk _ _ hbuf).slc_of (by omega))⟩
theorem l4Wide_spec {h : Hp} {s : Sl} {v : List Nat} {c : Nat} {R : Value → Hp → Prop} (hs : IntS h s (VL v)) (h0 : 0 < v.length) (hl : v.length ≤ 4) (hc4 : c ≤ 4)
  (k : ∀ t h', h.le h' → IntS h' t (VL (wideP c v)) → R (.agg #[Sl.v t]) h') : c_spec_l4Wide #[.agg #[s.v], I c] h R := by
 apply R_spec_l4Wide
 unfold F_spec_l4Wide
 refine alloc_of fun b7 h2 hb7 l2 f7 => ?_
 refine alloc_of fun b9 h3 hb9 l3 f9 => ?_
 have n79 := fresh_ne hb9 f7
 have b9n := none_of_le l2 hb9
 replace f7 := l3 _ _ f7
 have l03 := Hp.le_trans l2 l3
 (refine rdx_ ?_)
 refine l4Copy_spec (hs.mono l03) (by rw [VL_len]; omega) fun c0 h4 l4 hb4 => ⟨c0, rfl, ?_⟩
 have l4o := hb4.sub_le l4
 have hb4' := hb4.sub_buf
 refine alloc_of fun b16 h5 hb16 l5 f16' => ?_
 have b16n := none_of_le l4 hb16
 have l5o := Hp.le_trans l4o (offS_mono c0 l5)
 have f16o := hb4'.offS_new hb16 f16'
 (with_reducible apply wrS_of); (exact f16o); (exact l5o); (exact b16n); (exact Nat.le_refl 1)
 intro h6 f16 kp l6 hbk
 have hbuf := hbk _ _ (hb4'.mono l5)
 have hcn := hbuf.1
 rw [List.length_map, VL_len] at hcn
 refine loop_up (c - v.length) (fun q vs h' => ∃ sl : Sl, vs = [I c, .pointer (some ⟨b7, 0, none⟩), .pointer (some ⟨b9, 0, none⟩), .pointer (some ⟨b16, 0, none⟩)] ∧ h3.le (h'.offS sl) ∧
  (h'.offS sl) b16 = some (.inl ⟨[sl.v], 1, false⟩) ∧ sl.n = v.length + q ∧ Buf h' sl 1 ((VL (v ++ List.replicate q (v.getD 0 0))).map I)) ⟨c0, rfl, l6, f16, by omega, by simpa using hbuf⟩ ?_
 clear hbuf hbk kp l6 f16 f16o l5o f16' l5 hb16 hb4' l4o hb4 l4 hcn h4 h5 h6
 rintro q _ h4 next hq ⟨sl, rfl, l4, f16, hsl, hbuf⟩ hnx
 have lo := offS_le h4 sl
 have l4' := Hp.le_trans l4 lo
 have g7 := l4' _ _ f7
 have g16 := lo _ _ f16
 refine ⟨_, _, _, _, _, _, _, rfl, ?_⟩
 (refine rdx_ ?_)
 by_cases hlt : q < c - v.length
 ·refine bs_t (by simp; omega) ?_
  repeat' (refine rdx_ ?_)
  obtain ⟨b, o, ha, hc, hln⟩ := ((hs.mono l03).mono l4').elt (i := 0) h0
  refine ⟨b, o, ha, by omega, by omega, _, hc, ?_⟩
  have x16 := nz_some g16
  refine alloc_of fun b48 h5 hb48 l5 f48 => ?_
  (((with_reducible apply kp_le); (assumption); (assumption)))
  have l5o := offS_mono sl l5
  refine aApp_buf (hbuf.mono l5) (by omega) (by omega) (by omega) ⟨b48, 0, rfl, cellsAre_of f48⟩ (by simp) rfl ?_
  intro s' h6 hs'n hbuf' l6 _
  have l46 := Hp.le_trans l5o l6
  (with_reducible apply wrS_of); (exact l46 _ _ f16); (exact Hp.le_trans l4 l46); (exact b16n); (exact Nat.le_refl 1)
  intro h7 e16 kp l7 hbk
  refine hnx hlt _ _ ⟨s', rfl, l7, e16, by omega, hbk _ _ ?_⟩
  rw [← rep_snoc]; exact hbuf'
 ·have hqe : q = c - v.length := by omega
  subst hqe
  refine bs_f (by simp; omega) ?_
  repeat' (refine rdx_ ?_)
  have f9o : (h4.offS sl) b9 = some (.inl ⟨[.slice none 0 0], 1, false⟩) := l4 _ _ f9
  (with_reducible apply wrS_of); (exact f9o); (exact Hp.le_trans l03 l4); (exact b9n); (exact Nat.le_refl 1)
  intro h7 e9 kp l7 hbk
  have e9' := offS_le _ _ _ _ e9
  refine ⟨sl, by rw [cell_of e9']; rfl, k sl h7 (Hp.le_trans l7 (offS_le _ _)) ((hbk _ _ hbuf).slc_of (by omega))⟩
def curF (m : ModelP) (v : List (List Nat)) (j p : Nat) : List Nat := ((boundP (m.nexts.take j) p).map fun k => v.getD k []).getD (List.replicate (cellsA m.nodes p) 0)
theorem curF_end (m : ModelP) (v : List (List Nat)) (p : Nat) : curF m v m.nexts.length p = (nextF m v p).getD (List.replicate (cellsA m.nodes p) 0) := by
 unfold curF nextF; rw [List.take_length]
theorem curF_step {m : ModelP} (g : Good m) (v : List (List Nat)) {j : Nat} {b : BindP} (hb : m.nexts[j]? = some b) (p : Nat) : curF m v (j + 1) p = if b.state = (p : Int) then v.getD b.node.toNat [] else curF m v j p := by
 unfold curF
 rw [bound_take (twice_parts g.twice).2.2 hb]
 split <;> rfl
theorem curF_le {m : ModelP} (g : Good m) {v : List (List Nat)} (a : AllV m v) {j p : Nat} : (curF m v j p).length ≤ 4 := by
 unfold curF
 cases hb : boundP (m.nexts.take j) p with
 | none => simp only [Option.map_none, Option.getD_none, List.length_replicate]; exact cellsA_le _ _
 | some k =>
  simp only [Option.map_some, Option.getD_some]
  obtain ⟨b, hm, _, rfl⟩ := bound_some hb
  have hp := place_iff.1 (next_parts (g.nex b (List.mem_of_mem_take hm))).2.1
  have := fit_cells g.ok (show b.node.toNat < m.nodes.length by omega) (a.fit b.node.toNat (by omega) (by omega))
  rw [this.1]; exact cellsA_le _ _
theorem follow_get (m : ModelP) (v : List (List Nat)) {i p : Nat} (h : (stP m)[i]? = some p) : (followP m v).getD i [] = curF m v m.nexts.length p := by
 rw [curF_end]
 unfold followP heldR
 rw [List.getD_eq_getElem?_getD, List.getElem?_map, h]; rfl
theorem pl_le {m : ModelP} (g : Good m) (kind : Int) : (placesP m.nodes kind).length ≤ 1048576 := by have := places_len m.nodes kind; have := g.nl; omega
theorem follow_spec {h : Hp} {M : MSl} {m : ModelP} {s : Sl} {v : List (List Nat)} {R : Value → Hp → Prop} (hs : ModelS h M m) (hm : Small m) (g : Good m) (hpv : PVal h s v) (a : AllV m v)
  (k : ∀ out h', h.le h' → IntSS h' out ((followP m v).map VL) → R (Sl.v out) h') : c_impl_Model_follow #[modelV M, s.v] h R := by
 apply R_impl_Model_follow
 unfold F_impl_Model_follow
 have hp36 : (stP m).length ≤ m.nodes.length := places_len m.nodes 36
 have hnl := g.nl
 have hxl := g.xl
 have hxn := hs.nexts.len
 refine alloc_of fun b8 h1 hb8 l1 f8 => ?_
 repeat' (refine rdx_ ?_)
 refine impl_places_spec (hs.mono l1) hm fun pt h2 l2 hp => ⟨pt, rfl, ?_⟩
 replace f8 := l2 _ _ f8
 have l02 := Hp.le_trans l1 l2
 repeat' (refine rdx_ ?_)
 refine zeros_spec (hs.mono l02) hm hp (places_w g 36) (pl_le g 36) fun out ts h3 c1 hon => ⟨out, rfl, ?_⟩
 have hpn : pt.n = (stP m).length := by have := hp.len; rw [VL_len] at this; exact this
 have f83 := offS_le _ _ _ _ (c1.le _ _ f8)
 (refine rdx_ ?_)
 have hs2 := hs.mono l02
 have hpv2 := hpv.mono l02
 refine loop_up m.nexts.length (fun j vs h' => ∃ ts : List Sl, vs = [s.v, pt.v, out.v, M.nex.v, I M.nex.n, I j] ∧ h2.le (h'.offS out) ∧ Buf h' out 1 (ts.map Sl.v) ∧ ts.length = (stP m).length ∧
  ∀ (i p : Nat) (t : Sl), (stP m)[i]? = some p → ts[i]? = some t → IntS (h'.offS out) t (VL (curF m v j p))) ⟨ts, rfl, c1.le, c1.buf, by rw [c1.len, zerosL_len], fun i p t hp ht => ?_⟩ ?_
 ·obtain ⟨b, e1, e2, e3⟩ := c1.row i t ht
  have hz : (zerosL m.nodes (stP m)).getD i [] = curF m v 0 p := by
   unfold zerosL curF
   rw [List.getD_eq_getElem?_getD, List.getElem?_map, hp]; rfl
  rw [hz] at e1 e3
  rw [e1]
  have := curF_le g a (j := 0) (p := p)
  exact ⟨by dsimp only; omega, by simp [VL_len], .inr ⟨b, 0, rfl, cellsAre_of e3⟩⟩
 clear c1 f83 ts h3
 rintro j _ h3 next hj ⟨ts, rfl, l3, hbuf, htl, hts⟩ hnx
 have lo := offS_le h3 out
 have l23 := Hp.le_trans l3 lo
 refine ⟨s, pt, out, M.nex, _, _, rfl, ?_⟩
 by_cases hlt : j < m.nexts.length
 rotate_left
 ·have hje : j = m.nexts.length := by omega
  subst hje
  refine bs_f (by simp; omega) (k out h3 (Hp.le_trans l02 l23) ⟨ts, by unfold followP heldR; rw [List.length_map, List.length_map]; exact htl, hbuf.slc_of (by rw [hon]; have := pl_le g 36; omega), fun i h1 h2 => ?_⟩)
  have hi : i < (stP m).length := by omega
  have hpi : (stP m)[i]? = some (stP m)[i] := List.getElem?_eq_getElem hi
  have := (hts i _ _ hpi (List.getElem?_eq_getElem h1)).mono lo
  rw [← follow_get m v hpi] at this
  rw [List.getElem_map]
  rwa [List.getD_eq_getElem?_getD, List.getElem?_eq_getElem (by unfold followP heldR; simp; exact hi)] at this
 refine bs_t (by simp; omega) ?_
 obtain ⟨bd, hbd⟩ : ∃ bd, m.nexts[j]? = some bd := ⟨_, List.getElem?_eq_getElem hlt⟩
 obtain ⟨q1, q2, q3, q4⟩ := next_parts (g.nex bd (List.mem_of_getElem? hbd))
 have q2' := place_iff.1 q2
 obtain ⟨bx, ox, hax, cx1, cx2⟩ := (hs2.mono l23).nexts.at hbd
 refine ⟨bx, ox, hax, by omega, by omega, _, cx1, _, cx2, ?_⟩
 refine alloc_of fun b48 h4 hb48 l4 f48' => ?_
 (with_reducible apply wr_of); (exact f48'); (exact l4); (exact hb48); (exact Nat.le_refl 2)
 intro h5 f48 kp l5
 have l5o := offS_mono out l5
 have f48o := hbuf.offS_new hb48 f48
 clear f48' kp l4
 refine loop_up (stP m).length (fun q vs h' => ∃ ts : List Sl, vs = [s.v, pt.v, out.v, .pointer (some ⟨b48, 0, none⟩), M.nex.v, I M.nex.n, I j, pt.v, I pt.n, I q] ∧ h2.le (h'.offS out) ∧ (h'.offS out) b48 = some (.inl ⟨[I bd.state, I bd.node], 2, false⟩) ∧ Buf h' out 1 (ts.map Sl.v) ∧ ts.length = (stP m).length ∧
  ∀ (i p : Nat) (t : Sl), (stP m)[i]? = some p → ts[i]? = some t → IntS (h'.offS out) t (VL (if i < q then curF m v (j + 1) p else curF m v j p)))
  ⟨ts, rfl, Hp.le_trans l3 l5o, f48o, hbuf.mono l5, htl, fun i p t hp ht => by rw [if_neg (by omega)]; exact (hts i p t hp ht).mono l5o⟩ ?_
 clear f48o l5o l5 f48 hb48 hbuf htl hts ts l23 lo l3 hax cx1 cx2 h3 h4 h5
 rintro q _ h3 next2 hq ⟨ts, rfl, l3, f48, hbuf, htl, hts⟩ hnx2
 have lo := offS_le h3 out
 have l23 := Hp.le_trans l3 lo
 have g48 := lo _ _ f48
 refine ⟨s, pt, out, _, _, _, _, _, pt, _, _, rfl, ?_⟩
 by_cases hlq : q < (stP m).length
 rotate_left
 ·refine bs_f (by simp; omega) ?_
  rw [W_succ (by omega)]
  refine hnx hlt _ _ ⟨ts, rfl, l3, hbuf, htl, fun i p t hp ht => ?_⟩
  have := hts i p t hp ht
  rwa [if_pos (by have := get_lt hp; omega)] at this
 refine bs_t (by simp; omega) ?_
 obtain ⟨p, hpq⟩ : ∃ p, (stP m)[q]? = some p := ⟨_, List.getElem?_eq_getElem hlq⟩
 obtain ⟨bp, op, hap, hcp⟩ := (hp.mono l23).get (VL_getE hpq)
 refine joinP_of (fun J => ∀ (ts' : List Sl) (h' : Hp), h2.le (h'.offS out) → (h'.offS out) b48 = some (.inl ⟨[I bd.state, I bd.node], 2, false⟩) → Buf h' out 1 (ts'.map Sl.v) → ts'.length = (stP m).length →
  (∀ (i p : Nat) (t : Sl), (stP m)[i]? = some p → ts'[i]? = some t → IntS (h'.offS out) t (VL (if i < q + 1 then curF m v (j + 1) p else curF m v j p))) → J h') ?_ (fun J hJ => ?_)
 ·intro ts' h' a1 a2 a3 a4 a5
  rw [W_succ (by omega)]
  exact hnx2 hlq _ _ ⟨ts', rfl, a1, a2, a3, a4, a5⟩
 refine ⟨bp, op, hap, by omega, by omega, _, hcp, ?_⟩
 (refine rdx_ ?_)
 have hst := curF_step g v hbd p
 refine bsplit_of (fun e => ?_) (fun e => ?_)
 ·rw [if_pos (eq_of e).symm] at hst
  (refine rdx_ ?_)
  obtain ⟨bv, ov, t, hav, hvn, hcv, ht⟩ := (hpv2.mono l23).at q2'.1 (by rw [a.len]; exact q2'.2)
  refine ⟨bv, ov, hav, q2'.1, hvn, t, hcv, ?_⟩
  refine hbuf.wr (x := t) (by omega) fun h4 hbuf' ho => ?_
  refine hJ _ h4 (by rw [ho]; exact l3) (by rw [ho]; exact f48) hbuf' (by rw [List.length_set]; exact htl) fun i p' u hp' hu => ?_
  rw [ho]
  by_cases hiq : i = q
  ·subst hiq
   rw [hpq] at hp'; cases hp'
   rw [List.getElem?_set_self (by omega)] at hu
   obtain rfl := Option.some.inj hu
   rw [if_pos (by omega), hst]
   obtain ⟨bv', ov', t', hav', _, hcv', ht'⟩ := (hpv2.mono l3).at q2'.1 (by rw [a.len]; exact q2'.2)
   rw [hav] at hav'; cases hav'
   have := lo.cell hcv'
   rw [hcv] at this
   have htt : t = t' := by
    rcases t with ⟨ta, tn, tc⟩; rcases t' with ⟨ta', tn', tc'⟩
    simpa using this
   rw [htt]; exact ht'
  ·rw [List.getElem?_set_ne (fun e => hiq e.symm)] at hu
   have := hts i p' u hp' hu
   by_cases h1 : i < q
   ·rw [if_pos h1] at this; rw [if_pos (by omega)]; exact this
   ·rw [if_neg h1] at this; rw [if_neg (by omega)]; exact this
 ·rw [if_neg (fun e' => ne_of e e'.symm)] at hst
  refine hJ ts h3 l3 f48 hbuf htl fun i p' u hp' hu => ?_
  have := hts i p' u hp' hu
  by_cases hiq : i = q
  ·subst hiq
   rw [hpq] at hp'; cases hp'
   rw [if_neg (by omega)] at this
   rw [if_pos (by omega), hst]; exact this
  ·by_cases h1 : i < q
   ·rw [if_pos h1] at this; rw [if_pos (by omega)]; exact this
   ·rw [if_neg h1] at this; rw [if_neg (by omega)]; exact this
theorem bound_node {m : ModelP} (g : Good m) {p k : Nat} (h : boundP m.nexts p = some k) : k < m.nodes.length := by
 obtain ⟨b, hb, _, rfl⟩ := bound_some h
 have := place_iff.1 (next_parts (g.nex b hb)).2.1
 omega
def nextCode (m : ModelP) (s i : Nat) : Nat := packR m.nodes (stP m) (followP m (codeV m s i))
theorem unp_ok {m : ModelP} (kind : Int) (code : Nat) (g : Good m) : FitAt m.nodes kind (unpL m.nodes (placesP m.nodes kind) code) := unpL_fit g.ok kind code
theorem l6Next_spec {h : Hp} {M : MSl} {m : ModelP} {st inp : Nat} {R : Value → Hp → Prop} (hs : ModelS h M m) (hm : Small m) (g : Good m) (h1 : st ≤ 1048576) (h2 : inp ≤ 1048576)
  (k : R (I (nextCode m st inp)) h) : c_spec_l6Next #[modelV M, I st, I inp] h R := by
 refine ACalls.drop (R_spec_l6Next ?_)
 unfold F_spec_l6Next
 have hp36 : (stP m).length ≤ m.nodes.length := places_len m.nodes 36
 have hp35 : (inP m).length ≤ m.nodes.length := places_len m.nodes 35
 have hnl := g.nl
 have hn8 := g.n8
 have hk5 := g.k5
 have hxl := g.xl
 refine alloc_of fun b9 g1 hb9 l1 f9 => ?_
 have x9 := nz_some f9
 repeat' (refine rdx_ ?_)
 refine l2Places_spec (hs.mono l1) hm fun p1 g2 l2 i1 => ⟨p1, rfl, ?_⟩
 have f92 := l2 _ _ f9
 have x92 := nz_some f92
 repeat' (refine rdx_ ?_)
 have l02 := Hp.le_trans l1 l2
 refine l5Unpack_spec (hs.mono l02) hm g.ok i1 (places_w g 36) (pl_le g 36) h1 (by rw [sumW_st g]; omega) fun u1 g3 l3 hu1 => ⟨u1, rfl, ?_⟩
 repeat' (((with_reducible apply kp_le); (assumption); (assumption)))
 have l03 := Hp.le_trans l02 l3
 refine l2Places_spec (hs.mono l03) hm fun p2 g4 l4 i2 => ⟨p2, rfl, ?_⟩
 have l24 := Hp.le_trans l3 l4
 repeat' (((with_reducible apply kp_le); (assumption); (assumption)))
 have l04 := Hp.le_trans l03 l4
 refine l5Unpack_spec (hs.mono l04) hm g.ok i2 (places_w g 35) (pl_le g 35) h2 (by rw [sumW_in g]; omega) fun u2 g5 l5 hu2 => ⟨u2, rfl, ?_⟩
 have l25 := Hp.le_trans l24 l5
 (((with_reducible apply kp_le); (assumption); (assumption)))
 have l05 := Hp.le_trans l04 l5
 refine l4All_spec (hs.mono l05) hm g.ok g.nl (hu1.mono (Hp.le_trans l4 l5)) (unp_ok 36 st g) hu2 (unp_ok 35 inp g) fun vt g6 l6 hvn hpv _ => ⟨vt, rfl, ?_⟩
 have a : AllV m (codeV m st inp) := codeV_all g st inp
 have hpv' : PVal g6 vt (codeV m st inp) := hpv
 have hbn : ∀ b ∈ m.nexts, 0 ≤ b.node := fun b hb => (place_iff.1 (next_parts (g.nex b hb)).2.1).1
 have l06 := Hp.le_trans l05 l6
 have f96 := l6 _ _ (l25 _ _ f92)
 have i16 := i1.mono (Hp.le_trans l25 l6)
 have hpn : p1.n = (stP m).length := by have := i1.len; rw [VL_len] at this; exact this
 unfold nextCode at k
 generalize codeV m st inp = v at *
 have hs6 := hs.mono l06
 refine loop_up (stP m).length (fun i vs h' => ∃ (ts : List Sl) (out : Sl), vs = [.pointer (some ⟨b9, 0, none⟩), p1.v, vt.v, out.v, I i] ∧ g6.le (h'.offS out) ∧ out.n = i ∧ ts.length = i ∧ Buf h' out 1 (ts.map Sl.v) ∧
  (∀ (j : Nat) (t : Sl), ts[j]? = some t → IntS (h'.offS out) t (VL ((followP m v).getD j [])))) ⟨[], ⟨none, 0, 0⟩, rfl, Hp.le_refl _, rfl, rfl, buf_nil _ _, fun j t ht => by simp at ht⟩ ?_
 rintro i _ h3 next hi ⟨ts, out, rfl, l3', hon, htl, hbuf, hts⟩ hnx
 have lo := offS_le h3 out
 have l63 := Hp.le_trans l3' lo
 have f93 := l63 _ _ f96
 refine ⟨_, _, p1, vt, out, _, rfl, ?_⟩
 by_cases hlt : i < (stP m).length
 rotate_left
 ·have hie : i = (stP m).length := by omega
  subst hie
  refine bs_f (by simp; omega) ?_
  repeat' (refine rdx_ ?_)
  have hfl : (followP m v).length = (stP m).length := by unfold followP heldR; simp
  have iss : IntSS h3 out ((followP m v).map VL) := ⟨ts, by simp; omega, hbuf.slc_of (by omega), fun j h1 h2 => by
   have := (hts j _ (List.getElem?_eq_getElem h1)).mono lo
   rw [List.getElem_map]
   rwa [List.getD_eq_getElem?_getD, List.getElem?_eq_getElem (by rw [hfl]; omega)] at this⟩
  exact l5Pack_spec (hs6.mono l63) hm g.ok (i16.mono l63) (places_w g 36) (pl_le g 36) iss (follow_fit g a.fit) (by rw [sumW_st g]; omega) ⟨_, rfl, _, Hp.le_trans l06 l63, k⟩
 refine bs_t (by simp; omega) ?_
 obtain ⟨p, hpi⟩ : ∃ p, (stP m)[i]? = some p := ⟨_, List.getElem?_eq_getElem hlt⟩
 have hpm := places_w g 36 p (List.mem_of_getElem? hpi)
 obtain ⟨bp, op, hap, hcp⟩ := (i16.mono l63).get (VL_getE hpi)
 refine ⟨bp, op, hap, by omega, by omega, ?_⟩
 (refine rdx_ ?_)
 refine ⟨_, hcp, ?_⟩
 refine l4Bound_spec (hs6.mono l63).nexts (by omega) hbn ⟨_, rfl, ?_⟩
 have hfg := follow_get m v hpi
 rw [curF_end] at hfg
 have app : ∀ (t : Sl) (h4 : Hp), h3.le h4 → IntS h4 t (VL ((followP m v).getD i [])) → ∀ (b : Nat), h4 b = none → setH (h4.row b [t.v] 1) fun h5 => aApp h5 out.a out.n out.c (some ⟨b, 0, none⟩) 1 1 24 fun a n k h6 => next [.pointer (some ⟨b9, 0, none⟩), p1.v, vt.v, .slice a n k, I (W ((i : Int) + 1))] h6 := by
  intro t h4 l4' ht
  refine alloc_of fun b h5 hb l5' f5 => ?_
  have l35 := Hp.le_trans l4' l5'
  have l35o := offS_mono out l35
  refine aApp_buf (hbuf.mono l35) (by omega) (by omega) (by omega) ⟨b, 0, rfl, cellsAre_of f5⟩ (by simp) rfl ?_
  intro s' h6 hs'n hbuf' l6' _
  rw [W_succ (by omega)]
  have l36 := Hp.le_trans l35o l6'
  have hbuf'' : Buf h6 s' 1 ((ts ++ [t]).map Sl.v) := by rw [List.map_append]; exact hbuf'
  refine hnx hlt _ _ ⟨ts ++ [t], s', rfl, Hp.le_trans l3' l36, by omega, by simp; omega, hbuf'', fun j u hu => ?_⟩
  by_cases hj : j < i
  ·rw [List.getElem?_append_left (by omega)] at hu
   exact (hts j u hu).mono l36
  ·have hju := get_lt hu
   simp at hju
   have hje : j = i := by omega
   subst hje
   rw [List.getElem?_append_right (by omega), htl, Nat.sub_self] at hu
   simp at hu; subst hu
   exact ((ht.mono l5').offL (hbuf.mono l35)).mono l6'
 cases hbo : boundP m.nexts p with
 | some q =>
  rw [show boundI m.nexts p = (q : Int) from by unfold boundI; rw [hbo]]
  refine bs_t (by simp) ?_
  have hqn := bound_node g hbo
  obtain ⟨bv, ov, t, hav, hvn', hcv, ht⟩ := (hpv'.mono l63).at (p := (q : Int)) (by omega) (by rw [a.len]; omega)
  refine ⟨bv, ov, hav, by omega, hvn', t, hcv, ?_⟩
  refine app t h3 (Hp.le_refl _) ?_
  rw [hfg]
  unfold nextF
  rw [hbo]
  simpa using ht
 | none =>
  rw [show boundI m.nexts p = -1 from by unfold boundI; rw [hbo]]
  refine bs_f (by simp) ?_
  refine ⟨bp, op, hap, by omega, by omega, ?_⟩
  (refine rdx_ ?_)
  refine ⟨_, hcp, ?_⟩
  obtain ⟨bn, on, han, hpn', c6, c7, w1, w16⟩ := (hs6.mono l63).nodes.sortc2 hpm g.ok
  refine ⟨bn, on, han, by omega, hpn', _, c6, _, c7, ?_⟩
  refine spec_SortCells_spec ⟨_, rfl, ?_⟩
  rw [cells_mk g.ok hpm]
  have hc4 := cellsA_le m.nodes p
  refine ⟨by omega, by omega, by omega, by omega, ?_⟩
  refine alloc_of fun b33 h4 hb33 l4' f33 => ?_
  rw [Int.toNat_natCast, Nat.mul_one, zeroRow_one] at f33
  refine app ⟨some ⟨b33, 0, none⟩, cellsA m.nodes p, cellsA m.nodes p⟩ h4 l4' ?_
  rw [hfg]
  unfold nextF
  rw [hbo]
  simp only [Option.map_none, Option.getD_none]
  refine ⟨by dsimp only; omega, by simp [VL_len], .inr ⟨b33, 0, rfl, ?_⟩⟩
  have hc : (VL (List.replicate (cellsA m.nodes p) 0)).map I = List.replicate (cellsA m.nodes p) (I 0) := by simp [VL]
  rw [hc]; exact cellsAre_of f33
structure Kn (g h : Hp) (L : List (Nat × Blk)) : Prop where
 le : g.le h
 mem : ∀ e ∈ L, h e.1 = some e.2
 new : ∀ e ∈ L, g e.1 = none
 nd : (L.map Prod.fst).Nodup
inductive Upd : List (Nat × Blk) → Nat → Blk → Blk → List (Nat × Blk) → Prop
 | head {L : List (Nat × Blk)} {b : Nat} {x y : Blk} : Upd ((b, x) :: L) b x y ((b, y) :: L)
 | tail {L L' : List (Nat × Blk)} {b : Nat} {x y : Blk} {e : Nat × Blk} : Upd L b x y L' → Upd (e :: L) b x y (e :: L')
theorem Kn.nil (h : Hp) : Kn h h [] := ⟨Hp.le_refl _, fun e h => (by simp at h), fun e h => (by simp at h), List.nodup_nil⟩
theorem Kn.of {g h : Hp} (l : g.le h) : Kn g h [] := ⟨l, fun e h => (by simp at h), fun e h => (by simp at h), List.nodup_nil⟩
section
variable {g h h' : Hp} {L L' : List (Nat × Blk)}
theorem Kn.at (K : Kn g h L) {b : Nat} {x : Blk} (e : (b, x) ∈ L) : h b = some x := K.mem _ e
theorem Kn.mono (K : Kn g h L) (l : h.le h') : Kn g h' L := ⟨Hp.le_trans K.le l, fun e he => l _ _ (K.mem e he), K.new, K.nd⟩
theorem Kn.cons (K : Kn g h L) {b : Nat} {x : Blk} (hb : h b = none) (l : h.le h') (f : h' b = some x) : Kn g h' ((b, x) :: L) := by
 refine ⟨Hp.le_trans K.le l, fun e he => ?_, fun e he => ?_, ?_⟩
 ·rcases List.mem_cons.1 he with rfl | he
  ·exact f
  ·exact l _ _ (K.mem e he)
 ·rcases List.mem_cons.1 he with rfl | he
  ·exact none_of_le K.le hb
  ·exact K.new e he
 ·rw [List.map_cons, List.nodup_cons]
  refine ⟨fun hm => ?_, K.nd⟩
  obtain ⟨e, he, heb⟩ := List.mem_map.1 hm
  have := K.mem e he
  rw [show e.1 = b from heb, hb] at this; cases this
theorem Kn.al (K : Kn g h L) {cs : Nat → List Value} {n : Nat → Nat} {P : Nat → Hp → Prop} (k : ∀ b h', Kn g h' ((b, .inl ⟨cs b, n b, false⟩) :: L) → h.le h' → h b = none → P b h') :
  ∀ b, h b = none → setH (h.row b (cs b) (n b)) fun h' => P b h' :=
 fun b hb => k b _ (K.cons hb (le_row _ _ hb) (row_self _ _ _ _)) (le_row _ _ hb) hb
theorem Upd.mem {b : Nat} {x y : Blk} (u : Upd L b x y L') : (b, x) ∈ L := by
 induction u with
 | head => exact .head _
 | tail _ ih => exact .tail _ ih
theorem Upd.keys {b : Nat} {x y : Blk} (u : Upd L b x y L') : L'.map Prod.fst = L.map Prod.fst := by
 induction u with
 | head => rfl
 | tail _ ih => rw [List.map_cons, List.map_cons, ih]
theorem Upd.out {b : Nat} {x y : Blk} (u : Upd L b x y L') (nd : (L.map Prod.fst).Nodup) : ∀ e ∈ L', e = (b, y) ∨ (e ∈ L ∧ e.1 ≠ b) := by
 induction u with
 | head =>
  intro e he
  rcases List.mem_cons.1 he with rfl | he
  ·exact .inl rfl
  ·rw [List.map_cons, List.nodup_cons] at nd
   exact .inr ⟨.tail _ he, fun eb => nd.1 (List.mem_map.2 ⟨e, he, eb⟩)⟩
 | tail u ih =>
  rename_i L L' b x y e0
  rw [List.map_cons, List.nodup_cons] at nd
  intro e he
  rcases List.mem_cons.1 he with rfl | he
  ·exact .inr ⟨.head _, fun eb => nd.1 (List.mem_map.2 ⟨_, u.mem, eb.symm⟩)⟩
  ·rcases ih nd.2 e he with h | ⟨h1, h2⟩
   ·exact .inl h
   ·exact .inr ⟨.tail _ h1, h2⟩
theorem Kn.set (K : Kn g h L) {b z z' : Nat} {cs cs' : List Value} {ro : Bool} (u : Upd L b (.inl ⟨cs, z, ro⟩) (.inl ⟨cs', z', false⟩) L') : Kn g (h.row b cs' z') L' := by
 have hb := K.new _ u.mem
 refine ⟨le_row_of _ _ hb K.le, fun e he => ?_, fun e he => ?_, by rw [u.keys]; exact K.nd⟩
 ·rcases u.out K.nd e he with rfl | ⟨h1, h2⟩
  ·exact row_self _ _ _ _
  ·rw [row_ne _ _ h2]; exact K.mem e h1
 ·rcases u.out K.nd e he with rfl | ⟨h1, h2⟩
  ·exact hb
  ·exact K.new e h1
theorem Kn.wr (K : Kn g h L) {b z o m : Nat} {cs vs : List Value} {P : Hp → Prop} (u : Upd L b (.inl ⟨cs, z, false⟩) (.inl ⟨lset cs o vs, z, false⟩) L') (hl : m ≤ cs.length)
  (k : ∀ h', Kn g h' L' → (∀ c, c ≠ b → h' c = h c) → P h') :
  ∃ (cs' : List Value) (z' : Nat), h b = some (.inl ⟨cs', z', false⟩) ∧ m ≤ List.length cs' ∧ setH (h.row b (lset cs' o vs) z') fun h' => P h' :=
 ⟨cs, z, K.at u.mem, hl, k _ (K.set u) fun c hc => row_ne _ _ hc⟩
theorem Kn.base (K : Kn g h L) : Kn (h.wo (L.map Prod.fst)) h L := ⟨wo_le _ _, K.mem, fun e he => wo_none (List.mem_map.2 ⟨e, he, rfl⟩), K.nd⟩
theorem Kn.leBase (K : Kn g h L) : g.le (h.wo (L.map Prod.fst)) := le_wo K.le fun b hb => by
 obtain ⟨e, he, rfl⟩ := List.mem_map.1 hb
 exact K.new e he
theorem Kn.has (K : Kn g h L) : ∀ b ∈ L.map Prod.fst, h b ≠ none := fun b hb => by
 obtain ⟨e, he, rfl⟩ := List.mem_map.1 hb
 rw [K.mem e he]; simp
theorem Kn.eq {g' : Hp} (K' : Kn g' h' L') (K : Kn g h L) {b : Nat} {x : Blk} {P : Prop} (e' : (b, x) ∈ L') (e : (b, x) ∈ L) (k : P) : h' b = h b ∧ P := ⟨by rw [K'.at e', K.at e], k⟩
theorem Kn.eqg (K' : Kn g h' L') (K : Kn g h L) {b : Nat} {P : Prop} (e : g b ≠ none) (k : P) : h' b = h b ∧ P := by
 refine ⟨?_, k⟩
 cases hb : g b with
 | none => exact absurd hb e
 | some x => rw [K'.le _ _ hb, K.le _ _ hb]
theorem Kn.sub (K : Kn g h L) (m : ∀ e ∈ L', e ∈ L) (nd : (L'.map Prod.fst).Nodup) : Kn g h L' := ⟨K.le, fun e he => K.mem e (m e he), fun e he => K.new e (m e he), nd⟩
theorem Kn.wrS {s : Sl} (K : Kn g (h.offS s) L) {b z o m : Nat} {cs vs : List Value} {P : Hp → Prop} (u : Upd L b (.inl ⟨cs, z, false⟩) (.inl ⟨lset cs o vs, z, false⟩) L') (hl : m ≤ cs.length)
  (k : ∀ h', Kn g (h'.offS s) L' → (∀ sz bs, Buf h s sz bs → Buf h' s sz bs) → (∀ c, c ≠ b → (h'.offS s) c = (h.offS s) c) → P h') :
  ∃ (cs' : List Value) (z' : Nat), h b = some (.inl ⟨cs', z', false⟩) ∧ m ≤ List.length cs' ∧ setH (h.row b (lset cs' o vs) z') fun h' => P h' := by
 have f := K.at u.mem
 refine ⟨cs, z, offS_le _ _ _ _ f, hl, k _ ?_ (fun sz bs e => e.row _ _ f) fun c hc => ?_⟩
 ·rw [offS_row _ _ f]; exact K.set u
 ·rw [offS_row _ _ f, row_ne _ _ hc]
end
theorem ex_ptrA {b o : Nat} {P : Nat → Nat → Prop} (k : P b o) : ∃ b' o' : Nat, some (Addr.mk b o none) = some (Addr.mk b' o' none) ∧ P b' o' := ⟨b, o, rfl, k⟩
theorem Kn.rd {α : Type} {f : α → Value} {g h : Hp} {L : List (Nat × Blk)} (K : Kn g h L) {b z o : Nat} {cs : List Value} {ro : Bool} {x : α} {P : α → Prop} (e : (b, .inl ⟨cs, z, ro⟩) ∈ L) (c : cs[o]? = some (f x)) (k : P x) : ∃ y : α, Hp.cell h b o = some (f y) ∧ P y := ⟨x, by rw [cell_of (K.at e)]; exact c, k⟩
theorem Kn.rg {α : Type} {f : α → Value} {g h : Hp} {L : List (Nat × Blk)} (K : Kn g h L) {b z o : Nat} {cs : List Value} {ro : Bool} {x : α} {P : α → Prop} (e : g b = some (.inl ⟨cs, z, ro⟩)) (c : cs[o]? = some (f x)) (k : P x) : ∃ y : α, Hp.cell h b o = some (f y) ∧ P y := ⟨x, by rw [cell_of (K.le _ _ e)]; exact c, k⟩
theorem kr_ {P Q : Prop} (k : Q) (h : Q → P := by (first
 | ((with_reducible apply Kn.rd); (assumption); ((focus ((repeat first | exact .head _ | apply List.Mem.tail); done))); (exact rfl))
 | ((with_reducible apply Kn.rg); (assumption); (assumption); (exact rfl))
 | with_reducible exact And.intro (Eq.refl _)
 | with_reducible exact And.intro True.intro
 | with_reducible exact ex_ptrA
 | ((with_reducible apply Kn.eq); (assumption); (assumption); ((focus ((repeat first | exact .head _ | apply List.Mem.tail); done))); ((focus ((repeat first | exact .head _ | apply List.Mem.tail); done))))
 | ((with_reducible apply Kn.eqg); (assumption); (assumption); (assumption))
 | fail)) : P := h k
theorem maskR_snoc (l : List NodeP) (c : Nat → Bool) (p : Nat) : ∀ ps, maskR l c (ps ++ [p]) = maskR l c ps + 2 ^ sumW l ps * (if c p then 2 ^ nbA l p - 1 else 0) := by
 intro ps
 induction ps with
 | nil => simp [maskR, sumW]
 | cons q ps ih =>
  simp only [List.cons_append, maskR]
  rw [ih, sumW_cons, Nat.pow_add, Nat.mul_add, Nat.mul_assoc, Nat.add_assoc]
theorem maskR_take {l : List NodeP} {ps : List Nat} {c : Nat → Bool} {i p : Nat} (h : ps[i]? = some p) : maskR l c (ps.take (i + 1)) = maskR l c (ps.take i) + 2 ^ sumW l (ps.take i) * (if c p then 2 ^ nbA l p - 1 else 0) := by
 have hlt := get_lt h
 rw [List.getElem?_eq_getElem hlt] at h
 rw [List.take_succ_eq_append_getElem hlt, maskR_snoc, Option.some.inj h]
theorem bound_more {binds : List BindP} {j : Nat} {b : BindP} (hb : binds[j]? = some b) (p : Nat) : (boundP (binds.take (j + 1)) p).isSome = ((boundP (binds.take j) p).isSome || decide (b.state = (p : Int))) := by
 have hlt := get_lt hb
 have hg : binds[j] = b := by rw [List.getElem?_eq_getElem hlt] at hb; exact Option.some.inj hb
 unfold boundP
 rw [List.take_succ_eq_append_getElem hlt, List.find?_append, hg]
 cases hf : (binds.take j).find? (fun b => decide (b.state = (p : Int))) with
 | some x => simp
 | none =>
  by_cases e : b.state = (p : Int) <;> simp [e]
theorem bits_nb {l : List NodeP} {p : Nat} : sortBitsP (sortAt l p) = nbA l p := by unfold sortBitsP nbA widA cellsA; rw [Nat.mul_comm]
theorem nb_sum {l : List NodeP} {ps : List Nat} {i p : Nat} (h : ps[i]? = some p) : sumW l (ps.take i) + nbA l p ≤ sumW l ps := by
 have := sumW_take (l := l) h
 have := sumW_le l ps (i + 1)
 unfold nbA; omega
theorem nb_mk {l : List NodeP} {p : Nat} (hok : nodesOkP l = true) (hp : p < l.length) : sortBitsP ⟨(sortAt l p).idx, (widA l p : Nat)⟩ = nbA l p := by
 have := sortOkP_iff.1 (sorts_ok hok hp)
 have hw : ((widA l p : Nat) : Int) = (sortAt l p).wid := by unfold widA; omega
 rw [hw]; exact bits_nb
theorem boundBits_spec {h : Hp} {M : MSl} {m : ModelP} {s : Sl} {binds : List BindP} {R : Value → Hp → Prop} (hs : ModelS h M m) (hm : Small m) (g : Good m) (hb : BindS h s binds) (hbl : binds.length ≤ 1048576)
  (k : R (I (fixP m binds)) h) : c_impl_Model_boundBits #[modelV M, s.v] h R := by
 refine ACalls.drop (R_impl_Model_boundBits ?_)
 unfold F_impl_Model_boundBits
 have hn8 := g.n8
 have hsw := sumW_st g
 have hbn := hb.len
 have hp36 : (stP m).length ≤ m.nodes.length := places_len m.nodes 36
 have hnl := g.nl
 refine alloc_of fun b8 h1 hb8 l1 f8 => ?_
 repeat' (refine rdx_ ?_)
 refine impl_places_spec (hs.mono l1) hm fun pt h2 l2 hp => ⟨pt, rfl, ?_⟩
 have hpn : pt.n = (stP m).length := by have := hp.len; rw [VL_len] at this; exact this
 have l02 := Hp.le_trans l1 l2
 replace f8 := l2 _ _ f8
 refine loop_up (stP m).length (fun i vs h' => vs = [s.v, .pointer (some ⟨b8, 0, none⟩), I (maskR m.nodes (fun p => (boundP binds p).isSome) ((stP m).take i) : Nat), I (sumW m.nodes ((stP m).take i) : Nat), pt.v, I pt.n, I i] ∧ h2.le h') ⟨by simp [maskR, sumW], Hp.le_refl _⟩ ?_
 rintro i _ h3 next hi ⟨rfl, l3⟩ hnx
 refine ⟨s, _, _, _, _, pt, _, _, rfl, ?_⟩
 have l03 := Hp.le_trans l02 l3
 have f83 := l3 _ _ f8
 by_cases hlt : i < (stP m).length
 rotate_left
 ·have hie : i = (stP m).length := by omega
  subst hie
  refine bs_f (by simp; omega) ⟨_, l03, ?_⟩
  rw [List.take_of_length_le (Nat.le_refl _)]; exact k
 refine bs_t (by simp; omega) ?_
 obtain ⟨p, hpi⟩ : ∃ p, (stP m)[i]? = some p := ⟨_, List.getElem?_eq_getElem hlt⟩
 have hpm := places_w g 36 p (List.mem_of_getElem? hpi)
 obtain ⟨b, o, ha, hc⟩ := (hp.mono l3).get (VL_getE hpi)
 refine ⟨b, o, ha, by omega, by omega, _, hc, ?_⟩
 (refine rdx_ ?_)
 obtain ⟨bn, on, han, hpn', c6, c7, w1, w16⟩ := (hs.mono l03).nodes.sortc2 hpm g.ok
 refine ⟨bn, on, han, by omega, hpn', _, c6, _, c7, ?_⟩
 refine impl_SortBits_spec ⟨_, rfl, ?_⟩
 rw [nb_mk g.ok hpm]
 have hnb := nb_sum (l := m.nodes) hpi
 have hlo := maskR_lt m.nodes (fun p => (boundP binds p).isSome) ((stP m).take i)
 have hpp := pow60 (n := sumW m.nodes ((stP m).take i)) (by omega)
 have hpb := pow60 (n := nbA m.nodes p) (by omega)
 have hpb1 := pow_pos' (nbA m.nodes p)
 have hmul : (2 ^ nbA m.nodes p - 1) * 2 ^ sumW m.nodes ((stP m).take i) < 1048576 := by
  have h1 : (2 ^ nbA m.nodes p - 1) * 2 ^ sumW m.nodes ((stP m).take i) ≤ 2 ^ nbA m.nodes p * 2 ^ sumW m.nodes ((stP m).take i) := Nat.mul_le_mul_right _ (Nat.sub_le _ _)
  rw [← Nat.pow_add] at h1
  have h2 := Nat.pow_le_pow_right (n := 2) (by omega) (show nbA m.nodes p + sumW m.nodes ((stP m).take i) ≤ 8 by omega)
  have h3 : (2 : Nat) ^ 8 = 256 := rfl
  omega
 have hlo2 : maskR m.nodes (fun p => (boundP binds p).isSome) ((stP m).take i) < 1048576 := by
  have h2 := Nat.pow_le_pow_right (n := 2) (by omega) (show sumW m.nodes ((stP m).take i) ≤ 8 by omega)
  have h3 : (2 : Nat) ^ 8 = 256 := rfl
  omega
 have hstep := maskR_take (l := m.nodes) (c := fun p => (boundP binds p).isSome) hpi
 generalize hmi : maskR m.nodes (fun p => (boundP binds p).isSome) ((stP m).take i) = mi at *
 generalize hat : sumW m.nodes ((stP m).take i) = at_ at *
 refine loop_up binds.length (fun j vs h' => vs = [s.v, .pointer (some ⟨b8, 0, none⟩), I (mi + (if (boundP (binds.take j) p).isSome then (2 ^ nbA m.nodes p - 1) * 2 ^ at_ else 0) : Nat), I at_, I p, I (nbA m.nodes p), pt.v, I pt.n, I i, s.v, I s.n, I j] ∧ h2.le h') ⟨by simp [boundP], l3⟩ ?_
 clear hc ha c6 c7 han hpn' f83 l03 l3 h3
 rintro j _ h3 next2 hj ⟨rfl, l3⟩ hnx2
 have l03 := Hp.le_trans l02 l3
 refine ⟨s, _, _, _, _, _, _, pt, _, _, s, _, _, rfl, ?_⟩
 by_cases hlj : j < binds.length
 rotate_left
 ·have hje : j = binds.length := by omega
  subst hje
  refine bs_f (by simp; omega) ?_
  rw [List.take_length, W_succ (by omega), W_id (n := (at_ : Int) + (nbA m.nodes p : Nat)) (by omega) (by omega)]
  refine hnx hlt _ _ ⟨?_, l3⟩
  rw [hstep, sumW_take hpi, hat, Nat.mul_comm (2 ^ at_)]
  have : at_ + widA m.nodes p * cellsA m.nodes p = at_ + nbA m.nodes p := rfl
  rw [this]
  have e2 : (if (boundP binds p).isSome = true then 2 ^ nbA m.nodes p - 1 else 0) * 2 ^ at_ = if (boundP binds p).isSome = true then (2 ^ nbA m.nodes p - 1) * 2 ^ at_ else 0 := by split <;> simp
  rw [e2]; rfl
 refine bs_t (by simp; omega) ?_
 obtain ⟨bd, hbd⟩ : ∃ bd, binds[j]? = some bd := ⟨_, List.getElem?_eq_getElem hlj⟩
 obtain ⟨bx, ox, hax, cx1, cx2⟩ := (hb.mono l03).at hbd
 have hmore := bound_more hbd p
 refine joinP_of (fun J => ∀ h', h2.le h' → J ((mi + (if (boundP (binds.take (j + 1)) p).isSome then (2 ^ nbA m.nodes p - 1) * 2 ^ at_ else 0) : Nat) : Int) h') ?_ (fun J hJ => ?_)
 ·intro h' l'
  rw [W_succ (by omega)]
  exact hnx2 hlj _ _ ⟨rfl, l'⟩
 refine ⟨bx, ox, hax, by omega, by omega, _, cx1, _, cx2, ?_⟩
 refine alloc_of fun b74 h4 hb74 l4 f74 => ?_
 (with_reducible apply wr_of); (exact f74); (exact Hp.le_trans l3 l4); (exact none_of_le l3 hb74); (exact Nat.le_refl 2)
 intro h5 f74' kp l5
 refine ⟨_, by rw [cell_of f74']; rfl, ?_⟩
 refine bsplit_of (fun e => ?_) (fun e => ?_)
 ·rw [decide_eq_true (eq_of e), Bool.or_true] at hmore
  refine mask_spec (by omega) ⟨_, rfl, ?_⟩
  rw [if_neg (by omega)]
  have hm1 : (((2 ^ nbA m.nodes p : Nat) : Int) - 1) = ((2 ^ nbA m.nodes p - 1 : Nat) : Int) := by omega
  have := hJ h5 l5
  rw [hmore, if_pos rfl] at this
  rw [hm1, shlW_nat (by omega) (by omega), orW_nat (by split <;> omega) (by omega)]
  have e3 : (mi + (if (boundP (binds.take j) p).isSome = true then (2 ^ nbA m.nodes p - 1) * 2 ^ at_ else 0)) ||| (2 ^ nbA m.nodes p - 1) * 2 ^ at_ = mi + (2 ^ nbA m.nodes p - 1) * 2 ^ at_ := by
   split
   ·rw [← or_add hlo, Nat.or_assoc, Nat.or_self]
   ·rw [Nat.add_zero, or_add hlo]
  rw [e3]; exact this
 ·rw [decide_eq_false (ne_of e), Bool.or_false] at hmore
  have := hJ h5 l5
  rw [hmore] at this
  exact this
def freeM (m : ModelP) : Nat := maskR m.nodes (fun p => !(boundP m.nexts p).isSome) (stP m)
def freeL (k : Nat) : List Nat := (List.range (k + 1)).filter fun c => decide (c &&& k = c)
theorem sub_iff {c k : Nat} (hc : c < 256) : c &&& k = c ↔ ∀ i, i < 8 → (c.testBit i = true → k.testBit i = true) := by
 constructor
 ·intro h i _ hi
  rw [← h, Nat.testBit_and, Bool.and_eq_true] at hi
  exact hi.2
 ·intro h
  apply Nat.eq_of_testBit_eq
  intro i
  rw [Nat.testBit_and]
  by_cases hi : i < 8
  ·have := h i hi
   cases hc : c.testBit i with
   | false => rfl
   | true => rw [this hc]; rfl
  ·rw [Nat.testBit_lt_two_pow (Nat.lt_of_lt_of_le hc (by have := Nat.pow_le_pow_right (n := 2) (by omega) (show 8 ≤ i by omega); simpa using this))]; rfl
theorem freeM_le {m : ModelP} (g : Good m) : freeM m < 256 := by
 have h := maskR_lt m.nodes (fun p => !(boundP m.nexts p).isSome) (stP m)
 rw [sumW_st g] at h
 have := Nat.pow_le_pow_right (n := 2) (by omega) g.n8
 have h3 : (2 : Nat) ^ 8 = 256 := rfl
 unfold freeM; omega
theorem boundI_neg {binds : List BindP} {p : Nat} : decide (boundI binds p < 0) = !(boundP binds p).isSome := by
 unfold boundI
 cases boundP binds p with
 | none => rfl
 | some k => simp
def freeT (k i : Nat) : List Nat := (List.range i).filter fun c => decide (c &&& k = c)
theorem freeT_succ (k i : Nat) : freeT k (i + 1) = freeT k i ++ if i &&& k = i then [i] else [] := by
 unfold freeT
 rw [List.range_succ, List.filter_append]
 by_cases h : i &&& k = i <;> simp [h]
theorem Buf.subOf {h h' : Hp} {s : Sl} {sz : Nat} {cs : List Value} (e : Buf h' s sz cs) (l : h.le (h'.offS s)) : Buf (h'.sub h) s sz cs := by
 refine ⟨e.1, e.2.1, e.2.2.imp id ?_⟩
 rintro ⟨b, ha, hb⟩
 refine ⟨b, ha, ?_⟩
 have hoff : (h'.offS s) b = none := by simp [Hp.offS, ha, Hp.off, Hp.set]
 have hn : h b = none := by
  cases hx : h b with
  | none => rfl
  | some x => rw [l _ _ hx] at hoff; cases hoff
 rw [sub_at hn]; exact hb
theorem l12Free_spec {h : Hp} {M : MSl} {m : ModelP} {R : Value → Hp → Prop} (hs : ModelS h M m) (hm : Small m) (g : Good m)
  (k : ∀ t h', h.le h' → IntS (h'.sub h) t (VL (freeL (freeM m))) → R (Sl.v t) h') : c_spec_l12Free #[modelV M] h R := by
 apply R_spec_l12Free
 unfold F_spec_l12Free
 have hn8 := g.n8
 have hsw := sumW_st g
 have hp36 : (stP m).length ≤ m.nodes.length := places_len m.nodes 36
 have hnl := g.nl
 have hxl := g.xl
 have hbn : ∀ b ∈ m.nexts, 0 ≤ b.node := fun b hb => (place_iff.1 (next_parts (g.nex b hb)).2.1).1
 refine alloc_of fun b8 h1 hb8 l1 f8 => ?_
 repeat' (refine rdx_ ?_)
 refine l2Places_spec (hs.mono l1) hm fun pt h2 l2 hp => ⟨pt, rfl, ?_⟩
 have hpn : pt.n = (stP m).length := by have := hp.len; rw [VL_len] at this; exact this
 have l02 := Hp.le_trans l1 l2
 replace f8 := l2 _ _ f8
 refine loop_up (stP m).length (fun i vs h' => vs = [.pointer (some ⟨b8, 0, none⟩), pt.v, I (maskR m.nodes (fun p => !(boundP m.nexts p).isSome) ((stP m).take i) : Nat), I (sumW m.nodes ((stP m).take i) : Nat), I i] ∧ h' = h2) ⟨by simp [maskR, sumW], rfl⟩ ?_
 rintro i _ _ next hi ⟨rfl, rfl⟩ hnx
 rename_i h2
 refine ⟨_, _, pt, _, _, _, rfl, ?_⟩
 by_cases hlt : i < (stP m).length
 ·refine bs_t (by simp; omega) ?_
  obtain ⟨p, hpi⟩ : ∃ p, (stP m)[i]? = some p := ⟨_, List.getElem?_eq_getElem hlt⟩
  have hpm := places_w g 36 p (List.mem_of_getElem? hpi)
  obtain ⟨b, o, ha, hc⟩ := hp.get (VL_getE hpi)
  refine ⟨b, o, ha, by omega, by omega, ?_⟩
  (refine rdx_ ?_)
  refine ⟨_, hc, ?_⟩
  obtain ⟨bn, on, han, hpn', c6, c7, w1, w16⟩ := (hs.mono l02).nodes.sortc2 hpm g.ok
  refine ⟨bn, on, han, by omega, hpn', _, c6, _, c7, ?_⟩
  refine spec_SortBits_spec ⟨_, rfl, ?_⟩
  rw [nb_mk g.ok hpm]
  refine ⟨b, o, ha, by omega, by omega, ?_⟩
  (refine rdx_ ?_)
  refine ⟨_, hc, ?_⟩
  refine l4Bound_spec (hs.mono l02).nexts (by omega) hbn ⟨_, rfl, ?_⟩
  rw [boundI_neg]
  have hnb := nb_sum (l := m.nodes) hpi
  have hlo := maskR_lt m.nodes (fun p => !(boundP m.nexts p).isSome) ((stP m).take i)
  have hpb := pow60 (n := nbA m.nodes p) (by omega)
  have hpb1 := pow_pos' (nbA m.nodes p)
  have hmul : (2 ^ nbA m.nodes p - 1) * 2 ^ sumW m.nodes ((stP m).take i) < 1048576 := by
   have h1 : (2 ^ nbA m.nodes p - 1) * 2 ^ sumW m.nodes ((stP m).take i) ≤ 2 ^ nbA m.nodes p * 2 ^ sumW m.nodes ((stP m).take i) := Nat.mul_le_mul_right _ (Nat.sub_le _ _)
   rw [← Nat.pow_add] at h1
   have h2 := Nat.pow_le_pow_right (n := 2) (by omega) (show nbA m.nodes p + sumW m.nodes ((stP m).take i) ≤ 8 by omega)
   have h3 : (2 : Nat) ^ 8 = 256 := rfl
   omega
  have hlo2 : maskR m.nodes (fun p => !(boundP m.nexts p).isSome) ((stP m).take i) < 1048576 := by
   have h2 := Nat.pow_le_pow_right (n := 2) (by omega) (show sumW m.nodes ((stP m).take i) ≤ 8 by omega)
   have h3 : (2 : Nat) ^ 8 = 256 := rfl
   omega
  have hstep := maskR_take (l := m.nodes) (c := fun p => !(boundP m.nexts p).isSome) hpi
  have hst2 := sumW_take (l := m.nodes) hpi
  rw [show widA m.nodes p * cellsA m.nodes p = nbA m.nodes p from rfl] at hst2
  rw [Wu_nat (n := nbA m.nodes p) (by omega), Wu_nat (n := sumW m.nodes ((stP m).take i)) (by omega)]
  have fin := hnx hlt
  have hat : W (((sumW m.nodes ((stP m).take i) : Nat) : Int) + ((nbA m.nodes p : Nat) : Int)) = ((sumW m.nodes ((stP m).take (i + 1)) : Nat) : Int) := by
   rw [W_id (by omega) (by omega), hst2]; omega
  rw [hat, W_succ (by omega)]
  refine bsplit_of (fun e => ?_) (fun e => ?_)
  ·rw [if_neg (by omega), if_neg (by omega), shlW_one (by omega), W_id (n := ((2 ^ nbA m.nodes p : Nat) : Int) - 1) (by omega) (by omega)]
   have hm1 : (((2 ^ nbA m.nodes p : Nat) : Int) - 1) = ((2 ^ nbA m.nodes p - 1 : Nat) : Int) := by omega
   rw [if_pos e, Nat.mul_comm] at hstep
   rw [hm1, shlW_nat (by omega) (by omega), ← Int.natCast_add, W_nat (by omega), ← hstep]
   exact fin _ _ ⟨rfl, rfl⟩
  ·have hs2 : maskR m.nodes (fun p => !(boundP m.nexts p).isSome) ((stP m).take (i + 1)) = maskR m.nodes (fun p => !(boundP m.nexts p).isSome) ((stP m).take i) := by
    rw [hstep, if_neg (by rw [e]; decide)]; simp
   rw [← hs2]
   exact fin _ _ ⟨rfl, rfl⟩
 have hie : i = (stP m).length := by omega
 subst hie
 refine bs_f (by simp; omega) ?_
 rw [List.take_of_length_le (Nat.le_refl _)]
 have hfm := freeM_le g
 show ALoop _ [I (freeM m : Nat), .slice none 0 0, I 0] h2
 refine loop_up (freeM m + 1) (fun c vs h' => ∃ out : Sl, vs = [I (freeM m : Nat), out.v, I c] ∧ h2.le (h'.offS out) ∧ out.n ≤ c ∧ Buf h' out 1 ((VL (freeT (freeM m) c)).map I)) ⟨⟨none, 0, 0⟩, rfl, Hp.le_refl _, Nat.le_refl _, buf_nil _ _⟩ ?_
 rintro c _ h3 next2 hc ⟨out, rfl, l3, hon, hbuf⟩ hnx2
 have l23 := Hp.le_trans l3 (offS_le _ _)
 refine ⟨_, out, _, rfl, ?_⟩
 by_cases hlc : c < freeM m + 1
 rotate_left
 ·have hce : c = freeM m + 1 := by omega
  subst hce
  exact bs_f (by simp; omega) (k out h3 (Hp.le_trans l02 l23) ((hbuf.subOf (Hp.le_trans l02 l3)).slc_of (by omega)))
 refine bs_t (by simp; omega) ?_
 refine loop_up 8 (fun j vs h' => vs = [I (freeM m : Nat), out.v, I c, .bool ((List.range j).all fun i => !c.testBit i || (freeM m).testBit i), I j] ∧ h' = h3) ⟨rfl, rfl⟩ ?_
 rintro j _ _ next3 hj ⟨rfl, rfl⟩ hnx3
 rename_i h3
 refine ⟨_, out, _, _, _, rfl, ?_⟩
 by_cases hlj : j < 8
 ·refine bs_t (by simp; omega) ?_
  have hsucc : (List.range (j + 1)).all (fun i => !c.testBit i || (freeM m).testBit i) = ((List.range j).all (fun i => !c.testBit i || (freeM m).testBit i) && (!c.testBit j || (freeM m).testBit j)) := by
   rw [List.range_succ, List.all_append]; simp
  have fin := hnx3 hlj
  rw [hsucc] at fin
  refine bsplit_of (fun e => ?_) (fun e => ?_)
  ·rw [e] at fin
   rw [Bool.true_and] at fin
   refine l1Bit_spec (by omega) ⟨_, rfl, ?_⟩
   refine l1Bit_spec (by omega) ⟨_, rfl, ?_⟩
   rw [W_succ (by omega)]
   have : decide ((if c.testBit j then (1 : Int) else 0) ≤ (if (freeM m).testBit j then (1 : Int) else 0)) = (!c.testBit j || (freeM m).testBit j) := by
    cases c.testBit j <;> cases (freeM m).testBit j <;> rfl
   rw [this]
   exact fin _ _ ⟨rfl, rfl⟩
  ·rw [e] at fin
   rw [Bool.false_and] at fin
   rw [W_succ (by omega)]
   exact fin _ _ ⟨rfl, rfl⟩
 have hje : j = 8 := by omega
 subst hje
 refine bs_f (by simp) ?_
 have hcond : ((List.range 8).all fun i => !c.testBit i || (freeM m).testBit i) = decide (c &&& freeM m = c) := by
  rw [Bool.eq_iff_iff, decide_eq_true_eq, sub_iff (by omega), List.all_eq_true]
  constructor
  ·intro h i hi hb
   have := h i (List.mem_range.2 hi)
   rw [hb] at this; simpa using this
  ·intro h i hi
   have := h i (List.mem_range.1 hi)
   cases hb : c.testBit i with
   | false => rfl
   | true => rw [this hb]; rfl
 rw [hcond, W_succ (by omega)]
 have hft := freeT_succ (freeM m) c
 refine bsplit_of (fun e => ?_) (fun e => ?_)
 ·rw [if_pos (of_decide_eq_true e)] at hft
  refine alloc_of fun b92 h4 hb92 l4 f92 => ?_
  refine aApp_buf (hbuf.mono l4) (by omega) (by omega) (by omega) ⟨b92, 0, rfl, cellsAre_of f92⟩ (by simp) rfl ?_
  intro s' h5 hs'n hbuf' l5 _
  refine hnx2 hlc _ _ ⟨s', rfl, Hp.le_trans l3 (Hp.le_trans (offS_mono out l4) l5), by omega, ?_⟩
  rw [hft, VL_append, List.map_append]; exact hbuf'
 ·rw [if_neg (of_decide_eq_false e), List.append_nil] at hft
  refine hnx2 hlc _ _ ⟨out, rfl, l3, by omega, ?_⟩
  rw [hft]; exact hbuf
theorem Buf.wo {h h' : Hp} {t : Sl} {sz : Nat} {cs : List Value} {B : List Nat} (e : Buf h' t sz cs) (l : h.le (h'.offS t)) (hB : ∀ b ∈ B, h b ≠ none) : Buf (h'.wo B) t sz cs := by
 refine ⟨e.1, e.2.1, e.2.2.imp id ?_⟩
 rintro ⟨b, ha, hb⟩
 refine ⟨b, ha, ?_⟩
 rw [wo_at]
 ·exact hb
 ·intro hm
  have := hB b hm
  cases hx : h b with
  | none => exact this hx
  | some x =>
   have := l _ _ hx
   simp [Hp.offS, ha, Hp.off, Hp.set] at this
theorem pow13 {m : ModelP} (g : Good m) : 2 ^ (bitsP m.nodes 36 + bitsP m.nodes 35) ≤ 8192 := by
 have h1 := g.n8
 have h2 := g.k5
 have := Nat.pow_le_pow_right (n := 2) (by omega) (show bitsP m.nodes 36 + bitsP m.nodes 35 ≤ 13 by omega)
 simpa using this
theorem pow8 {m : ModelP} (g : Good m) : 2 ^ bitsP m.nodes 36 ≤ 256 := by
 have h1 := g.n8
 have := Nat.pow_le_pow_right (n := 2) (by omega) h1
 simpa using this
theorem each_spec {h : Hp} {M : MSl} {m : ModelP} {fid : FuncId} {u w : Array Value} {B : List Nat} {st : Nat → Hp → Prop} {R : Value → Hp → Prop} (hs : ModelS (h.wo B) M m) (hm : Small m) (g : Good m)
  (hB : ∀ b ∈ B, h b ≠ none) (mono : ∀ c h1 h2, st c h1 → h1.le h2 → st c h2) (h0 : st 0 h)
  (step : ∀ c, c < 2 ^ (bitsP m.nodes 36 + bitsP m.nodes 35) → ∀ h1 t, (h.wo B).le h1 → st c h1 → PVal h1 t (codeV m (c % 2 ^ bitsP m.nodes 36) (c / 2 ^ bitsP m.nodes 36)) → ∀ R' : Value → Hp → Prop,
   (∀ h2, st (c + 1) h2 → (h1.wo B).le h2 → R' (.tuple #[]) h2) → ACalls PR fid ((u ++ #[I c, Sl.v t]) ++ w) h1 R')
  (k : ∀ h', (h.wo B).le h' → st (2 ^ (bitsP m.nodes 36 + bitsP m.nodes 35)) h' → R (.tuple #[]) h') : c_impl_Model_each #[modelV M, .func (.func fid) u w] h R := by
 apply R_impl_Model_each
 unfold F_impl_Model_each
 have hn8 := g.n8
 have hk5 := g.k5
 have hp13 := pow13 g
 have hs0 : ModelS h M m := hs.mono (wo_le _ _)
 refine alloc_of fun b10 h1 hb10 l1 f10 => ?_
 have x10 := nz_some f10
 repeat' (refine rdx_ ?_)
 refine impl_bits_spec (hs0.mono l1) hm ⟨_, rfl, rfl, impl_bits_spec (hs0.mono l1) hm ⟨_, rfl, ?_⟩⟩
 repeat' (refine rdx_ ?_)
 refine impl_places_own (hs0.mono l1) hm fun p1 h2 l2 n1 b1 => ⟨p1, rfl, ?_⟩
 have l2' := Hp.le_trans l2 (offS_le _ _)
 (((with_reducible apply kp_le); (assumption); (assumption)))
 refine impl_places_own ((hs0.mono l1).mono l2') hm fun p2 h3 l3 n2 b2 => ⟨p2, rfl, ?_⟩
 have l3' := Hp.le_trans l3 (offS_le _ _)
 have l13 := Hp.le_trans l2' l3'
 have l03 := Hp.le_trans l1 l13
 rw [W_id (n := ((bitsP m.nodes 36 : Nat) : Int) + ((bitsP m.nodes 35 : Nat) : Int)) (by omega) (by omega), if_neg (by omega), ← Int.natCast_add, shlW_one (by omega)]
 have hB1 : ∀ b ∈ B, h1 b ≠ none := fun b hb => by
  cases hx : h b with
  | none => exact absurd hx (hB b hb)
  | some x => rw [l1 _ _ hx]; simp
 have hB2 : ∀ b ∈ B, h2 b ≠ none := fun b hb => by
  cases hx : h1 b with
  | none => exact absurd hx (hB1 b hb)
  | some x => rw [l2' _ _ hx]; simp
 have b1w : Buf (h3.wo B) p1 1 ((VL (placesP m.nodes 36)).map I) := (b1.wo l2 hB1).mono (le_wo (Hp.le_trans (wo_le _ _) l3') fun b hb => wo_none hb)
 have b2w : Buf (h3.wo B) p2 1 ((VL (placesP m.nodes 35)).map I) := b2.wo l3 hB2
 have hnl := g.nl
 have i1 : IntS (h3.wo B) p1 (VL (placesP m.nodes 36)) := b1w.slc_of (by omega)
 have i2 : IntS (h3.wo B) p2 (VL (placesP m.nodes 35)) := b2w.slc_of (by omega)
 have hs3 : ModelS (h3.wo B) M m := hs.mono (le_wo (Hp.le_trans (wo_le _ _) l03) fun b hb => wo_none hb)
 have f10w : (h3.wo B) b10 = some (.inl ⟨modelC M, 5, false⟩) := by
  rw [wo_at (fun hb => hB _ hb hb10)]; exact l13 _ _ f10
 have hw : (h.wo B).le (h3.wo B) := le_wo (Hp.le_trans (wo_le _ _) l03) fun b hb => wo_none hb
 refine loop_up (2 ^ (bitsP m.nodes 36 + bitsP m.nodes 35)) (fun c vs h' => vs = [.func (.func fid) u w, .pointer (some ⟨b10, 0, none⟩), I (bitsP m.nodes 36), p1.v, p2.v, I (2 ^ (bitsP m.nodes 36 + bitsP m.nodes 35) : Nat), I c] ∧ (h3.wo B).le h' ∧ st c h')
  ⟨rfl, wo_le _ _, mono _ _ _ h0 l03⟩ ?_
 clear f10 x10 b1 b2 l1 l2 l2' l3 l13 l3' hs hs0 h0
 rintro c _ h4 next hc ⟨rfl, l4, hst⟩ hnx
 refine ⟨_, _, _, _, _, _, p1, p2, _, _, rfl, ?_⟩
 by_cases hlt : c < 2 ^ (bitsP m.nodes 36 + bitsP m.nodes 35)
 rotate_left
 ·have hce : c = 2 ^ (bitsP m.nodes 36 + bitsP m.nodes 35) := by omega
  subst hce
  exact bs_f (by simp) (k h4 (Hp.le_trans hw l4) hst)
 refine bs_t (by rw [decide_eq_true_eq]; exact_mod_cast hlt) ?_
 rw [if_neg (by omega)]
 have f104 := l4 _ _ f10w
 have x104 := nz_some f104
 repeat' (refine rdx_ ?_)
 refine mask_spec (by omega) ⟨_, rfl, ?_⟩
 repeat' (refine rdx_ ?_)
 rw [andW_mask (by omega), fromP_nat, shrW_nat (by omega)]
 have h1' : c % 2 ^ bitsP m.nodes 36 ≤ c := Nat.mod_le _ _
 have h2' : c / 2 ^ bitsP m.nodes 36 ≤ c := Nat.div_le_self _ _
 refine of_spec (hs3.mono l4) hm g.ok (i1.mono l4) (places_w g 36) (pl_le g 36) (by omega) fun o1 h5 l5 v1 c1 => ⟨o1, rfl, ?_⟩
 repeat' (((with_reducible apply kp_le); (assumption); (assumption)))
 have l45 := Hp.le_trans l4 l5
 refine of_spec (hs3.mono l45) hm g.ok (i2.mono l45) (places_w g 35) (pl_le g 35) (by omega) fun o2 h6 l6 v2 c2 => ⟨o2, rfl, ?_⟩
 have l56 := Hp.le_trans l5 l6
 (((with_reducible apply kp_le); (assumption); (assumption)))
 have l46 := Hp.le_trans l4 l56
 refine eval_spec (hs3.mono l46) hm g.ok g.nl (v1.mono l6) c1 (unp_ok 36 _ g) v2 c2 (unp_ok 35 _ g) fun t h7 l7 hn hpv => ⟨t, rfl, ?_⟩
 have l47 := Hp.le_trans l56 l7
 refine step c hlt h7 t (Hp.le_trans hw (Hp.le_trans l4 l47)) (mono _ _ _ hst l47) hpv _ fun h8 hst8 l8 => ⟨rfl, ?_⟩
 rw [W_succ (by omega)]
 exact hnx hlt _ _ ⟨rfl, Hp.le_trans (le_wo (Hp.le_trans l4 l47) fun b hb => wo_none hb) l8, hst8⟩
def boolsTo (f : Nat → Bool) (c n : Nat) : List Value := (List.range n).map fun i => .bool (decide (i < c) && f i)
def intsTo (f : Nat → Nat) (c n : Nat) : List Value := (List.range n).map fun i => I ((if i < c then f i else 0 : Nat) : Int)
theorem boolsTo_len (f : Nat → Bool) (c n : Nat) : (boolsTo f c n).length = n := by simp [boolsTo]
theorem intsTo_len (f : Nat → Nat) (c n : Nat) : (intsTo f c n).length = n := by simp [intsTo]
theorem boolsTo_zero (f : Nat → Bool) (n : Nat) : List.replicate n (.bool false) = boolsTo f 0 n := by
 apply List.ext_getElem
 ·simp [boolsTo]
 ·intro i h1 h2; simp [boolsTo]
theorem intsTo_zero (f : Nat → Nat) (n : Nat) : List.replicate n (I 0) = intsTo f 0 n := by
 apply List.ext_getElem
 ·simp [intsTo]
 ·intro i h1 h2; simp [intsTo]
theorem boolsTo_set {f : Nat → Bool} {c n : Nat} (h : c < n) : (boolsTo f c n).set c (.bool (f c)) = boolsTo f (c + 1) n := by
 apply List.ext_getElem
 ·simp [boolsTo]
 ·intro i h1 h2
  simp only [boolsTo, List.getElem_set, List.getElem_map, List.getElem_range]
  by_cases e : c = i
  ·subst e; simp
  ·rw [if_neg e]
   have : decide (i < c) = decide (i < c + 1) := by rw [Bool.eq_iff_iff, decide_eq_true_eq, decide_eq_true_eq]; omega
   rw [this]
theorem intsTo_set {f : Nat → Nat} {c n : Nat} (h : c < n) : (intsTo f c n).set c (I (f c : Nat)) = intsTo f (c + 1) n := by
 apply List.ext_getElem
 ·simp [intsTo]
 ·intro i h1 h2
  simp only [intsTo, List.getElem_set, List.getElem_map, List.getElem_range]
  by_cases e : c = i
  ·subst e; simp
  ·rw [if_neg e]
   by_cases h : i < c
   ·rw [if_pos h, if_pos (by omega)]
   ·rw [if_neg h, if_neg (by omega)]
theorem boolsTo_all (f : Nat → Bool) (n : Nat) : boolsTo f n n = ((List.range n).map f).map Value.bool := by
 apply List.ext_getElem
 ·simp [boolsTo]
 ·intro i h1 h2
  have hi : i < n := by simpa [boolsTo] using h1
  simp [boolsTo, hi]
theorem intsTo_all (f : Nat → Nat) (n : Nat) : intsTo f n n = (VL ((List.range n).map f)).map I := by
 apply List.ext_getElem
 ·simp [intsTo, VL]
 ·intro i h1 h2
  have hi : i < n := by simpa [intsTo] using h1
  simp [intsTo, VL, hi]
theorem PVal.keep {h h' : Hp} {s : Sl} {vs : List (List Nat)} {b z : Nat} {cs : List Value} {ro : Bool} (e : PVal h s vs) (f : h b = some (.inl ⟨cs, z, ro⟩)) (hn : NoInt cs) (hsl : ∀ (j : Nat) (t : Sl), cs[j]? ≠ some t.v) (kp : ∀ c, c ≠ b → h' c = h c) : PVal h' s vs := by
 refine ⟨e.1, e.2.1, fun p hp => ?_⟩
 obtain ⟨b', o, t, h1, h2, h3⟩ := e.2.2 p hp
 refine ⟨b', o, t, h1, ?_, h3.keepN f hn kp⟩
 have hne : b' ≠ b := by
  rintro rfl
  rw [cell_of f] at h2
  exact hsl _ _ h2
 unfold Hp.cell at h2 ⊢
 rw [kp b' hne]; exact h2
theorem bools_noInt (f : Nat → Bool) (c n : Nat) : NoInt (boolsTo f c n) := by
 intro j i h
 simp only [boolsTo, List.getElem?_map, Option.map_eq_some_iff] at h
 obtain ⟨a, _, h⟩ := h
 cases h
theorem bools_noSl (f : Nat → Bool) (c n : Nat) : ∀ (j : Nat) (t : Sl), (boolsTo f c n)[j]? ≠ some t.v := by
 intro j t h
 simp only [boolsTo, List.getElem?_map, Option.map_eq_some_iff] at h
 obtain ⟨a, _, h⟩ := h
 cases h
abbrev sysC (M : MSl) (n k : Int) (st hold bad : Sl) (fixed : Int) (next : Sl) (bf ba : Int) : List Value := [M.no.v, M.ini.v, M.nex.v, M.bad.v, M.hol.v, I n, I k, st.v, hold.v, bad.v, I fixed, next.v, I bf, I ba]
abbrev arr (b n : Nat) : Sl := ⟨some ⟨b, 0, none⟩, n, n⟩
def fillL (m : ModelP) (bH bB bN c : Nat) : List (Nat × Blk) :=
 [(bH, .inl ⟨boolsTo (sysP m).hold c (2 ^ (bitsP m.nodes 36 + bitsP m.nodes 35)), 2 ^ (bitsP m.nodes 36 + bitsP m.nodes 35), false⟩),
  (bB, .inl ⟨boolsTo (sysP m).bad c (2 ^ (bitsP m.nodes 36 + bitsP m.nodes 35)), 2 ^ (bitsP m.nodes 36 + bitsP m.nodes 35), false⟩),
  (bN, .inl ⟨intsTo (sysP m).next c (2 ^ (bitsP m.nodes 36 + bitsP m.nodes 35)), 2 ^ (bitsP m.nodes 36 + bitsP m.nodes 35), false⟩)]
theorem bad_isSome (m : ModelP) (v : List (List Nat)) : decide (badI m v ≥ 0) = (badV m v).isSome := by
 unfold badI
 cases badV m v with
 | none => rfl
 | some d => simp
theorem newSystem_d1_spec {g h : Hp} {M : MSl} {m : ModelP} {st t : Sl} {b7 b103 bx bH bB bN c : Nat} {n k f0 f1 f2 : Int} {z1 z2 z3 : Nat} {R : Value → Hp → Prop} (hs : ModelS g M m) (hm : Small m) (gd : Good m)
  (f7 : g b7 = some (.inl ⟨modelC M, z1, false⟩)) (f103 : g b103 = some (.inl ⟨[.pointer (some ⟨bx, 0, none⟩)], z2, false⟩))
  (fx : g bx = some (.inl ⟨sysC M n k st (arr bH (2 ^ (bitsP m.nodes 36 + bitsP m.nodes 35))) (arr bB (2 ^ (bitsP m.nodes 36 + bitsP m.nodes 35))) f0 (arr bN (2 ^ (bitsP m.nodes 36 + bitsP m.nodes 35))) f1 f2, z3, false⟩))
  (hst : IntS g st (VL (stP m))) (hc : c < 2 ^ (bitsP m.nodes 36 + bitsP m.nodes 35)) (K : Kn g h (fillL m bH bB bN c))
  (hpv : PVal h t (codeV m (c % 2 ^ bitsP m.nodes 36) (c / 2 ^ bitsP m.nodes 36)))
  (kk : ∀ h', Kn (h.wo [bH, bB, bN]) h' (fillL m bH bB bN (c + 1)) → R (.tuple #[]) h') :
  c_impl_newSystem_d1 #[I c, t.v, .pointer (some ⟨b7, 0, none⟩), .pointer (some ⟨b103, 0, none⟩)] h R := by
 apply R_impl_newSystem_d1
 unfold F_impl_newSystem_d1
 have a : AllV m (codeV m (c % 2 ^ bitsP m.nodes 36) (c / 2 ^ bitsP m.nodes 36)) := codeV_all gd _ _
 have hp13 := pow13 gd
 have hv1 : (sysP m).hold c = holdsV m (codeV m (c % 2 ^ bitsP m.nodes 36) (c / 2 ^ bitsP m.nodes 36)) := rfl
 have hv2 : (sysP m).bad c = (badV m (codeV m (c % 2 ^ bitsP m.nodes 36) (c / 2 ^ bitsP m.nodes 36))).isSome := rfl
 have hv3 : (sysP m).next c = packR m.nodes (stP m) (followP m (codeV m (c % 2 ^ bitsP m.nodes 36) (c / 2 ^ bitsP m.nodes 36))) := rfl
 generalize hv : codeV m (c % 2 ^ bitsP m.nodes 36) (c / 2 ^ bitsP m.nodes 36) = v at *
 generalize hN : 2 ^ (bitsP m.nodes 36 + bitsP m.nodes 35) = N at *
 have lg : g.le (h.wo [bH, bB, bN]) := K.leBase
 have K0 : Kn (h.wo [bH, bB, bN]) h (fillL m bH bB bN c) := K.base
 unfold fillL at K0 kk
 rw [hN] at K0 kk
 clear K
 have hs' := hs.mono lg
 have f7' := lg _ _ f7
 have f103' := lg _ _ f103
 have fx' := lg _ _ fx
 have hst' := hst.mono lg
 have x7 := nz_some f7'
 have x103 := nz_some f103'
 have xx := nz_some fx'
 generalize h.wo [bH, bB, bN] = g1 at *
 clear lg fx f103 f7 hst hs
 repeat' (refine kr_ ?_)
 refine holds_spec (hs'.mono K0.le) gd hpv a ⟨_, rfl, ?_⟩
 repeat' (refine kr_ ?_)
 refine ⟨by omega, by dsimp only; omega, ?_⟩
 (((with_reducible apply Kn.wr); (assumption); ((focus ((repeat first | exact .head | apply Upd.tail); done)))))
 ·rw [boolsTo_len]; omega
 intro h24 K1 kp1
 have hpv1 := hpv.keep (K0.at (.head _)) (bools_noInt _ _ _) (bools_noSl _ _ _) kp1
 rw [← hv1, lset_one, Nat.zero_add, Int.toNat_natCast, Nat.mul_one, boolsTo_set hc] at K1
 repeat' (refine kr_ ?_)
 refine bad_spec (hs'.mono K1.le) gd hpv1 a ⟨_, rfl, ?_⟩
 repeat' (refine kr_ ?_)
 refine ⟨by omega, by dsimp only; omega, ?_⟩
 (((with_reducible apply Kn.wr); (assumption); ((focus ((repeat first | exact .head | apply Upd.tail); done)))))
 ·rw [boolsTo_len]; omega
 intro h42 K2 kp2
 have hpv2 := hpv1.keep (K1.at (.tail _ (.head _))) (bools_noInt _ _ _) (bools_noSl _ _ _) kp2
 rw [bad_isSome, ← hv2, lset_one, Nat.zero_add, Int.toNat_natCast, Nat.mul_one, boolsTo_set hc] at K2
 repeat' (refine kr_ ?_)
 refine follow_spec (hs'.mono K2.le) hm gd hpv2 a fun out h63 l63 hout => ⟨out, rfl, ?_⟩
 have K3 := K2.mono l63
 repeat' (refine kr_ ?_)
 refine code_spec (hs'.mono K3.le) hm gd.ok (hst'.mono K3.le) (places_w gd 36) (pl_le gd 36) hout (follow_fit gd a.fit) (by rw [sumW_st gd]; have := gd.n8; omega) ⟨_, rfl, ?_⟩
 repeat' (refine kr_ ?_)
 refine ⟨by omega, by dsimp only; omega, ?_⟩
 (((with_reducible apply Kn.wr); (assumption); ((focus ((repeat first | exact .head | apply Upd.tail); done)))))
 ·rw [intsTo_len]; omega
 intro h72 K4 kp4
 rw [← hv3, lset_one, Nat.zero_add, Int.toNat_natCast, Nat.mul_one, intsTo_set hc] at K4
 exact kk h72 K4
def IntT (h : Hp) (t : Sl) (n : Nat) (f : Nat → Nat) : Prop := IntS h t (VL ((List.range n).map f))
theorem IntT.mono {h h' : Hp} {t : Sl} {n : Nat} {f : Nat → Nat} (l : h.le h') (e : IntT h t n f) : IntT h' t n f := SlC.mono l e
def SysS (h : Hp) (b : Nat) (σ : SysP) : Prop := ∃ (M : MSl) (st hold bad next : Sl), h b = some (.inl ⟨sysC M σ.n σ.k st hold bad σ.fixed next σ.bfix σ.bas, 14, false⟩) ∧
 BoolT h hold (2 ^ (σ.n + σ.k)) σ.hold ∧ BoolT h bad (2 ^ (σ.n + σ.k)) σ.bad ∧ IntT h next (2 ^ (σ.n + σ.k)) σ.next
theorem SysS.mono {h h' : Hp} {b : Nat} {σ : SysP} (l : h.le h') (e : SysS h b σ) : SysS h' b σ := by
 obtain ⟨M, st, hold, bad, next, h1, h2, h3, h4⟩ := e
 exact ⟨M, st, hold, bad, next, l _ _ h1, h2.mono l, h3.mono l, h4.mono l⟩
theorem places_kn {g h : Hp} {L : List (Nat × Blk)} {M : MSl} {m : ModelP} {kind : Int} {R : Value → Hp → Prop} (K : Kn g h L) (hs : ModelS g M m) (hm : Small m) (gd : Good m)
  (k : ∀ t h' g', Kn g' h' L → IntS g' t (VL (placesP m.nodes kind)) → g.le g' → h.le h' → R (Sl.v t) h') : c_impl_Model_places #[modelV M, I kind] h R :=
 impl_places_own (hs.mono K.le) hm fun t h' l hn hb => by
  have l' := Hp.le_trans l (offS_le _ _)
  have K' := K.mono l'
  refine k t h' _ K'.base ?_ K'.leBase l'
  have := gd.nl
  exact (hb.wo l K.has).slc_of (by omega)
def curI (m : ModelP) (j p : Nat) : List Nat := ((boundP (m.inits.take j) p).map fun k => wideP (cellsA m.nodes p) ((val0 m).getD k [])).getD (List.replicate (cellsA m.nodes p) 0)
theorem curI_end (m : ModelP) (p : Nat) : curI m m.inits.length p = (initF m p).getD (List.replicate (cellsA m.nodes p) 0) := by
 unfold curI initF; rw [List.take_length]
theorem curI_step {m : ModelP} (g : Good m) {j : Nat} {b : BindP} (hb : m.inits[j]? = some b) (p : Nat) : curI m (j + 1) p = if b.state = (p : Int) then wideP (cellsA m.nodes p) ((val0 m).getD b.node.toNat []) else curI m j p := by
 unfold curI
 rw [bound_take (twice_parts g.twice).2.1 hb]
 split <;> rfl
theorem begin_get (m : ModelP) {i p : Nat} (h : (stP m)[i]? = some p) : (beginP m).getD i [] = curI m m.inits.length p := by
 rw [curI_end]
 unfold beginP heldR
 rw [List.getD_eq_getElem?_getD, List.getElem?_map, h]; rfl
theorem init_val {m : ModelP} (g : Good m) {b : BindP} (hb : b ∈ m.inits) : 0 ≤ b.node ∧ b.node < m.nodes.length ∧ 0 < ((val0 m).getD b.node.toNat []).length ∧ ((val0 m).getD b.node.toNat []).length ≤ 4 ∧ 0 ≤ b.state ∧ b.state < m.nodes.length := by
 obtain ⟨q1, q2, q3, q4, _⟩ := init_parts (g.ini b hb)
 have q2' := place_iff.1 q2
 have q1' := place_iff.1 q1
 have hf := (val0_all g).fit b.node.toNat (by omega) (by omega)
 have := (fit_cells g.ok (show b.node.toNat < m.nodes.length by omega) hf).1
 refine ⟨q2'.1, q2'.2, hf.pos, ?_, q1'.1, q1'.2⟩
 rw [this]; exact cellsA_le _ _
set_option maxHeartbeats 4000000 in
theorem newSystem_spec {h : Hp} {M : MSl} {m : ModelP} {R : Value → Hp → Prop} (hs : ModelS h M m) (hm : Small m)
  (k0 : ∀ h', h.le h' → modelCodeP m ≠ 0 → R (.tuple #[.pointer none, .bool false]) h')
  (k1 : modelCodeP m = 0 → Good m → ∀ b h', h.le h' → SysS h' b (sysP m) → R (.tuple #[.pointer (some ⟨b, 0, none⟩), .bool true]) h') : c_impl_newSystem #[modelV M] h R := by
 apply R_impl_newSystem
 unfold F_impl_newSystem
 have K0 := Kn.nil h
 (with_reducible apply Kn.al); (assumption); (intro b7 h1 K1 l1 hb7)
 repeat' (refine kr_ ?_)
 refine impl_ModelCode_spec (hs.mono l1) hm ⟨_, rfl, bsplit_of (fun e => k0 h1 l1 (ne_of_bne e)) (fun e => ?_)⟩
 have hcode := eq_of_bne e
 have gd := good_of hcode
 replace k1 := k1 hcode gd
 clear k0 e hcode l1 hb7 K0
 have hn8 := gd.n8
 have hk5 := gd.k5
 have hp13 := pow13 gd
 have hp13' := pow_pos' (bitsP m.nodes 36 + bitsP m.nodes 35)
 refine joinP_of (fun J => ∀ (bp bx : Nat) (h' g' : Hp) (t : Sl) (L0 : List (Nat × Blk)), Kn g' h' L0 → (bp, .inl ⟨[.pointer (some ⟨bx, 0, none⟩)], 1, false⟩) ∈ L0 →
  (bx, .inl ⟨sysC M (bitsP m.nodes 36) (bitsP m.nodes 35) t ⟨none, 0, 0⟩ ⟨none, 0, 0⟩ 0 ⟨none, 0, 0⟩ 0 0, 14, false⟩) ∈ L0 → (b7, .inl ⟨modelC M, 5, false⟩) ∈ L0 → h.le g' → IntS g' t (VL (stP m)) → J bp 0 h') ?_ (fun J hJ => ?_)
 rotate_left
 ·repeat' (first
   | (refine kr_ ?_)
   | (refine impl_bits_spec (hs.mono (Kn.le (by assumption))) hm ⟨_, rfl, ?_⟩)
   | (refine places_kn (by assumption) hs hm gd fun _ _ _ _ _ _ _ => ⟨_, rfl, ?_⟩)
   | ((with_reducible apply Kn.al); (assumption); (intro _ _ _ _ _))
   | ((((with_reducible apply Kn.wr); (assumption); ((focus ((repeat first | exact .head | apply Upd.tail); done))))); (exact Nat.le_refl _); (intro _ _ _))
   | ((with_reducible apply hJ) <;> first | assumption | ((focus ((repeat first | exact .head _ | apply List.Mem.tail); done))))
   | (refine And.intro ?_ ?_))
 intro bp bx h2 g2 st L0 K2' mp mx m7 l2 hst
 have K2 : Kn g2 h2 [(bp, .inl ⟨[.pointer (some ⟨bx, 0, none⟩)], 1, false⟩), (bx, .inl ⟨sysC M (bitsP m.nodes 36) (bitsP m.nodes 35) st ⟨none, 0, 0⟩ ⟨none, 0, 0⟩ 0 ⟨none, 0, 0⟩ 0 0, 14, false⟩), (b7, .inl ⟨modelC M, 5, false⟩)] := by
  refine K2'.sub (fun e he => ?_) ?_
  ·simp only [List.mem_cons, List.not_mem_nil, or_false] at he
   rcases he with rfl | rfl | rfl <;> assumption
  ·have n1 := ne_of_blk (K2'.at mp) (K2'.at mx) (by simp)
   have n2 := ne_of_blk (K2'.at mp) (K2'.at m7) (by simp)
   have n3 := ne_of_blk (K2'.at mx) (K2'.at m7) (by simp)
   simp [n1, n2, n3]
 clear K2' mp mx m7 L0 K1
 have hs2 := hs.mono l2
 repeat' (refine kr_ ?_)
 rw [W_id (n := ((bitsP m.nodes 36 : Nat) : Int) + ((bitsP m.nodes 35 : Nat) : Int)) (by omega) (by omega), if_neg (by omega), ← Int.natCast_add, shlW_one (by omega)]
 generalize hN : 2 ^ (bitsP m.nodes 36 + bitsP m.nodes 35) = N at *
 have tN : Int.toNat (N : Int) = N := Int.toNat_natCast N
 have nN : N * 1 = N := Nat.mul_one N
 have zB : zeroRow #[.bool false] N = boolsTo (sysP m).hold 0 N := by rw [zeroRow_one, boolsTo_zero]
 have zI : zeroRow #[I 0] N = intsTo (sysP m).next 0 N := by rw [zeroRow_one, intsTo_zero]
 simp only [tN, nN, zB, zI]
 clear tN nN zB zI
 refine joinP_of (fun J => ∀ (bH bB bN : Nat) (h' : Hp) (L0 : List (Nat × Blk)), Kn g2 h' L0 → (bp, .inl ⟨[.pointer (some ⟨bx, 0, none⟩)], 1, false⟩) ∈ L0 →
  (bx, .inl ⟨sysC M (bitsP m.nodes 36) (bitsP m.nodes 35) st (arr bH N) (arr bB N) 0 (arr bN N) 0 0, 14, false⟩) ∈ L0 → (b7, .inl ⟨modelC M, 5, false⟩) ∈ L0 →
  (bH, .inl ⟨boolsTo (sysP m).hold 0 N, N, false⟩) ∈ L0 → (bB, .inl ⟨boolsTo (sysP m).hold 0 N, N, false⟩) ∈ L0 → (bN, .inl ⟨intsTo (sysP m).next 0 N, N, false⟩) ∈ L0 → (bH ≠ bB ∧ bH ≠ bN ∧ bB ≠ bN) → J h') ?_ (fun J hJ => ?_)
 rotate_left
 ·repeat' (first
   | (refine kr_ ?_)
   | ((with_reducible apply Kn.al); (assumption); (intro _ _ _ _ _))
   | (refine And.intro (by omega) ?_)
   | ((((with_reducible apply Kn.wr); (assumption); ((focus ((repeat first | exact .head | apply Upd.tail); done))))); (exact of_decide_eq_true rfl); (intro _ _ _))
   | ((with_reducible apply hJ) <;> first | assumption | ((focus ((repeat first | exact .head _ | apply List.Mem.tail); done))) | ((have hnd := Kn.nd (by assumption); simp only [List.map_cons, List.map_nil, List.nodup_cons, List.mem_cons, List.not_mem_nil, not_or, or_false, not_false_eq_true, and_true, List.nodup_nil] at hnd; omega)))
   | (refine And.intro ?_ ?_))
 intro bH bB bN h3 L0 K3' mp mx m7 mH mB mN hne
 have e0 : boolsTo (sysP m).hold 0 N = boolsTo (sysP m).bad 0 N := by rw [← boolsTo_zero, ← boolsTo_zero]
 rw [e0] at mB
 have n1 := ne_of_blk (K3'.at mp) (K3'.at mx) (by simp)
 have n2 := ne_of_blk (K3'.at mp) (K3'.at m7) (by simp)
 have n3 := ne_of_blk (K3'.at mx) (K3'.at m7) (by simp)
 have hb1 : ∀ b ∈ [bH, bB, bN], g2 b = none := by
  intro b hb
  simp only [List.mem_cons, List.not_mem_nil, or_false] at hb
  rcases hb with rfl | rfl | rfl
  ·exact K3'.new _ mH
  ·exact K3'.new _ mB
  ·exact K3'.new _ mN
 have h0b : (boolsTo (sysP m).hold 0 N)[0]? = some (.bool false) := by rw [← boolsTo_zero, List.getElem?_replicate, if_pos hp13']
 have h0b2 : (boolsTo (sysP m).bad 0 N)[0]? = some (.bool false) := by rw [← boolsTo_zero, List.getElem?_replicate, if_pos hp13']
 have h0n : (intsTo (sysP m).next 0 N)[0]? = some (I 0) := by rw [← intsTo_zero, List.getElem?_replicate, if_pos hp13']
 have dif : ∀ {b c : Nat} {cs ds : List Value} {z y : Nat} {v w : Value}, (b, .inl ⟨cs, z, false⟩) ∈ L0 → (c, .inl ⟨ds, y, false⟩) ∈ L0 → cs[0]? = some v → ds[0]? = some w → v ≠ w → b ≠ c := by
  intro b c cs ds z y v w hb hc e1 e2 hvw hbc
  subst hbc
  have := (K3'.at hb).symm.trans (K3'.at hc)
  simp only [Option.some.injEq, Sum.inl.injEq, Row.mk.injEq] at this
  rw [this.1, e2] at e1
  exact hvw (Option.some.inj e1).symm
 have K3 : Kn g2 h3 (fillL m bH bB bN 0 ++ [(bp, .inl ⟨[.pointer (some ⟨bx, 0, none⟩)], 1, false⟩), (bx, .inl ⟨sysC M (bitsP m.nodes 36) (bitsP m.nodes 35) st (arr bH N) (arr bB N) 0 (arr bN N) 0 0, 14, false⟩), (b7, .inl ⟨modelC M, 5, false⟩)]) := by
  refine K3'.sub (fun e he => ?_) ?_
  ·simp only [fillL, hN, List.mem_append, List.mem_cons, List.not_mem_nil, or_false] at he
   rcases he with (rfl | rfl | rfl) | rfl | rfl | rfl <;> assumption
  ·have a1 := dif mH mp h0b rfl (by simp)
   have a2 := dif mH mx h0b rfl (by simp)
   have a3 := dif mH m7 h0b rfl (by simp)
   have a4 := dif mB mp h0b2 rfl (by simp)
   have a5 := dif mB mx h0b2 rfl (by simp)
   have a6 := dif mB m7 h0b2 rfl (by simp)
   have a7 := dif mN mp h0n rfl (by simp)
   have a8 := dif mN mx h0n rfl (by simp)
   have a9 := dif mN m7 h0n rfl (by simp)
   simp [fillL, hne.1, hne.2.1, hne.2.2, n1, n2, n3, a1, a2, a3, a4, a5, a6, a7, a8, a9]
 clear dif h0b h0b2 h0n e0 n1 n2 n3 mp mx m7 mH mB mN K3' L0 K2
 have Kf : Kn g2 h3 (fillL m bH bB bN 0) := K3.sub (fun e he => List.mem_append_left _ he) (by simp [fillL, hne.1, hne.2.1, hne.2.2])
 have nB : ∀ b ∈ [bp, bx, b7], b ∉ [bH, bB, bN] := by
  have hnd := K3.nd
  simp only [fillL, List.cons_append, List.nil_append, List.map_cons, List.map_nil, List.nodup_cons, List.mem_cons, List.not_mem_nil, not_or, or_false, not_false_eq_true, and_true, List.nodup_nil] at hnd
  intro b hb hb2
  simp only [List.mem_cons, List.not_mem_nil, or_false] at hb hb2
  omega
 have f7 : (h3.wo [bH, bB, bN]) b7 = some (.inl ⟨modelC M, 5, false⟩) := by
  rw [wo_at (nB _ (by simp))]; exact K3.at (by simp)
 have fp : (h3.wo [bH, bB, bN]) bp = some (.inl ⟨[.pointer (some ⟨bx, 0, none⟩)], 1, false⟩) := by
  rw [wo_at (nB _ (by simp))]; exact K3.at (by simp)
 have fx : (h3.wo [bH, bB, bN]) bx = some (.inl ⟨sysC M (bitsP m.nodes 36) (bitsP m.nodes 35) st (arr bH N) (arr bB N) 0 (arr bN N) 0 0, 14, false⟩) := by
  rw [wo_at (nB _ (by simp))]; exact K3.at (by simp)
 have lB : g2.le (h3.wo [bH, bB, bN]) := Kf.leBase
 have hsB := hs2.mono lB
 have hstB := hst.mono lB
 have Kr := Kn.of (wo_le h3 [bH, bB, bN])
 repeat' (refine kr_ ?_)
 subst hN
 refine each_spec (B := [bH, bB, bN]) (st := fun c h' => Kn (h3.wo [bH, bB, bN]) h' (fillL m bH bB bN c)) hsB hm gd Kf.has (fun c h1 h2 K l => K.mono l) Kf.base (fun c hc h4 t l4 K hpv R' hR' => ?_) (fun h4 l4 K4 => ⟨rfl, ?_⟩)
 ·exact newSystem_d1_spec hsB hm gd f7 fp fx hstB hc K hpv fun h5 K5 => hR' h5 ⟨Hp.le_trans K.leBase K5.le, K5.mem, fun e he => by
   have := K5.nd
   exact none_of_le K.leBase (K5.new e he), K5.nd⟩ K5.le
 have K5 : Kn g2 h4 (fillL m bH bB bN (2 ^ (bitsP m.nodes 36 + bitsP m.nodes 35)) ++ [(bp, .inl ⟨[.pointer (some ⟨bx, 0, none⟩)], 1, false⟩), (bx, .inl ⟨sysC M (bitsP m.nodes 36) (bitsP m.nodes 35) st (arr bH (2 ^ (bitsP m.nodes 36 + bitsP m.nodes 35))) (arr bB (2 ^ (bitsP m.nodes 36 + bitsP m.nodes 35))) 0 (arr bN (2 ^ (bitsP m.nodes 36 + bitsP m.nodes 35))) 0 0, 14, false⟩), (b7, .inl ⟨modelC M, 5, false⟩)]) := by
  refine ⟨Hp.le_trans lB l4, fun e he => ?_, fun e he => ?_, K3.nd⟩
  ·rcases List.mem_append.1 he with he | he
   ·exact K4.mem e he
   ·simp only [List.mem_cons, List.not_mem_nil, or_false] at he
    rcases he with rfl | rfl | rfl
    ·exact l4 _ _ fp
    ·exact l4 _ _ fx
    ·exact l4 _ _ f7
  ·rcases List.mem_append.1 he with he | he
   ·have hm : e.1 ∈ [bH, bB, bN] := by
     simp only [fillL, List.mem_cons, List.not_mem_nil, or_false] at he
     rcases he with rfl | rfl | rfl <;> simp
    exact hb1 _ hm
   ·exact K3.new e (List.mem_append_right _ he)
 unfold fillL at K5
 simp only [List.cons_append, List.nil_append] at K5
 clear K4 Kr hstB hsB lB fx fp f7 nB Kf K3 l4 h3
 have hil := gd.il
 have hxl := gd.xl
 have hin := hs2.inits.len
 have hp36 : (stP m).length ≤ m.nodes.length := places_len m.nodes 36
 have hnl := gd.nl
 have hstn : st.n = (stP m).length := by have := hst.len; rw [VL_len] at this; exact this
 repeat' (refine kr_ ?_)
 refine boundBits_spec (hs2.mono K5.le) hm gd (hs2.mono K5.le).nexts (by omega) ⟨_, rfl, ?_⟩
 repeat' (refine kr_ ?_)
 (((with_reducible apply Kn.wr); (assumption); ((focus ((repeat first | exact .head | apply Upd.tail); done)))))
 ·exact of_decide_eq_true rfl
 intro h5 K6 _
 clear K5
 repeat' (refine kr_ ?_)
 refine initial_spec (hs2.mono K6.le) hm gd fun vt h6 l6 hvn hpv => ⟨vt, rfl, ?_⟩
 have K7 := K6.mono l6
 clear K6 l6
 have hs6 := hs2.mono K7.le
 have hst6 := hst.mono K7.le
 have f7 : h6 b7 = some (.inl ⟨modelC M, 5, false⟩) := K7.at (by simp)
 have fp : h6 bp = some (.inl ⟨[.pointer (some ⟨bx, 0, none⟩)], 1, false⟩) := K7.at (by simp)
 repeat' (refine kr_ ?_)
 refine zeros_spec hs6 hm hst6 (places_w gd 36) (pl_le gd 36) fun out ts h7 c1 hon => ⟨out, rfl, ?_⟩
 have Kr := Kn.of (Hp.le_trans c1.le (offS_le _ _))
 repeat' (refine kr_ ?_)
 have aV := val0_all gd
 refine loop_up m.inits.length (fun j vs h' => ∃ ts : List Sl, vs = [.pointer (some ⟨b7, 0, none⟩), .pointer (some ⟨bp, 0, none⟩), vt.v, out.v, M.ini.v, I M.ini.n, I j] ∧ h6.le (h'.offS out) ∧ Buf h' out 1 (ts.map Sl.v) ∧ ts.length = (stP m).length ∧
  ∀ (i p : Nat) (t : Sl), (stP m)[i]? = some p → ts[i]? = some t → IntS (h'.offS out) t (VL (curI m j p))) ⟨ts, rfl, c1.le, c1.buf, by rw [c1.len, zerosL_len], fun i p t hp ht => ?_⟩ ?_
 ·obtain ⟨b, e1, e2, e3⟩ := c1.row i t ht
  have hz : (zerosL m.nodes (stP m)).getD i [] = curI m 0 p := by
   unfold zerosL curI
   rw [List.getD_eq_getElem?_getD, List.getElem?_map, hp]; rfl
  have hz4 : ((zerosL m.nodes (stP m)).getD i []).length ≤ 4 := by
   unfold zerosL
   rw [List.getD_eq_getElem?_getD, List.getElem?_map, hp]
   simp only [Option.map_some, Option.getD_some, List.length_replicate]
   exact cellsA_le _ _
  rw [hz] at e1 e3 hz4
  rw [e1]
  exact ⟨by dsimp only; omega, by simp [VL_len], .inr ⟨b, 0, rfl, cellsAre_of e3⟩⟩
 clear c1 Kr ts h7
 rintro j _ h8 next hj ⟨ts, rfl, l8, hbuf, htl, hts⟩ hnx
 have lo := offS_le h8 out
 have l68 := Hp.le_trans l8 lo
 refine ⟨_, _, _, _, vt, out, M.ini, _, _, rfl, ?_⟩
 by_cases hlt : j < m.inits.length
 rotate_left
 ·have hje : j = m.inits.length := by omega
  subst hje
  refine bs_f (by simp; omega) ?_
  have K9 := K7.mono l68
  have hbl : (beginP m).length = (stP m).length := by unfold beginP heldR; rw [List.length_map]
  have iss : IntSS h8 out ((beginP m).map VL) := ⟨ts, by rw [List.length_map, hbl]; exact htl, hbuf.slc_of (by rw [hon]; have := pl_le gd 36; omega), fun i h1 h2 => by
   have hi : i < (stP m).length := by omega
   have hpi : (stP m)[i]? = some (stP m)[i] := List.getElem?_eq_getElem hi
   have := (hts i _ _ hpi (List.getElem?_eq_getElem h1)).mono lo
   rw [← begin_get m hpi] at this
   rw [List.getElem_map]
   rwa [List.getD_eq_getElem?_getD, List.getElem?_eq_getElem (by rw [hbl]; exact hi)] at this⟩
  have hs8 := hs6.mono l68
  clear hbuf hts
  repeat' (refine kr_ ?_)
  refine boundBits_spec hs8 hm gd hs8.inits (by omega) ⟨_, rfl, ?_⟩
  repeat' (refine kr_ ?_)
  refine code_spec hs8 hm gd.ok (hst6.mono l68) (places_w gd 36) (pl_le gd 36) iss (begin_fit gd) (by rw [sumW_st gd]; omega) ⟨_, rfl, ?_⟩
  repeat' (refine kr_ ?_)
  (((with_reducible apply Kn.wr); (assumption); ((focus ((repeat first | exact .head | apply Upd.tail); done)))))
  ·exact of_decide_eq_true rfl
  intro h9 K10 _
  repeat' (refine kr_ ?_)
  (((with_reducible apply Kn.wr); (assumption); ((focus ((repeat first | exact .head | apply Upd.tail); done)))))
  ·exact of_decide_eq_true rfl
  intro h10 K11 _
  repeat' (refine kr_ ?_)
  refine k1 bx h10 (Hp.le_trans l2 K11.le) ⟨M, st, arr bH (2 ^ (bitsP m.nodes 36 + bitsP m.nodes 35)), arr bB (2 ^ (bitsP m.nodes 36 + bitsP m.nodes 35)), arr bN (2 ^ (bitsP m.nodes 36 + bitsP m.nodes 35)), K11.at (by ((focus ((repeat first | exact .head _ | apply List.Mem.tail); done)))), ?_, ?_, ?_⟩
  ·refine ⟨by dsimp only; omega, by simp [sysP], .inr ⟨bH, 0, rfl, ?_⟩⟩
   have := cellsAre_of (K11.at (.head _))
   rwa [boolsTo_all] at this
  ·refine ⟨by dsimp only; omega, by simp [sysP], .inr ⟨bB, 0, rfl, ?_⟩⟩
   have := cellsAre_of (K11.at (.tail _ (.head _)))
   rwa [boolsTo_all] at this
  ·refine ⟨by dsimp only; omega, by simp [sysP, VL], .inr ⟨bN, 0, rfl, ?_⟩⟩
   have := cellsAre_of (K11.at (.tail _ (.tail _ (.head _))))
   rwa [intsTo_all] at this
 refine bs_t (by simp; omega) ?_
 obtain ⟨bd, hbd⟩ : ∃ bd, m.inits[j]? = some bd := ⟨_, List.getElem?_eq_getElem hlt⟩
 obtain ⟨v1, v2, v3, v4, s1, s2⟩ := init_val gd (List.mem_of_getElem? hbd)
 obtain ⟨bi, oi, hai, cx1, cx2⟩ := (hs6.mono l68).inits.at hbd
 refine ⟨bi, oi, hai, by omega, by omega, _, cx1, _, cx2, ?_⟩
 refine alloc_of fun b48 h9 hb48 l9 f48' => ?_
 (with_reducible apply wr_of); (exact f48'); (exact l9); (exact hb48); (exact Nat.le_refl 2)
 intro h10 f48 kp l10
 have l10o := offS_mono out l10
 have f48o := hbuf.offS_new hb48 f48
 clear f48' kp l9
 have Kr := Kn.of (Hp.le_trans l68 l10)
 have fx6 := K7.at (b := bx) (.tail _ (.tail _ (.tail _ (.tail _ (.head _)))))
 repeat' (refine kr_ ?_)
 refine loop_up (stP m).length (fun q vs h' => ∃ ts : List Sl, vs = [.pointer (some ⟨b7, 0, none⟩), .pointer (some ⟨bp, 0, none⟩), vt.v, out.v, .pointer (some ⟨b48, 0, none⟩), M.ini.v, I M.ini.n, I j, st.v, I st.n, I q] ∧ h6.le (h'.offS out) ∧ (h'.offS out) b48 = some (.inl ⟨[I bd.state, I bd.node], 2, false⟩) ∧ Buf h' out 1 (ts.map Sl.v) ∧ ts.length = (stP m).length ∧
  ∀ (i p : Nat) (t : Sl), (stP m)[i]? = some p → ts[i]? = some t → IntS (h'.offS out) t (VL (if i < q then curI m (j + 1) p else curI m j p)))
  ⟨ts, rfl, Hp.le_trans l8 l10o, f48o, hbuf.mono l10, htl, fun i p t hp ht => by rw [if_neg (by omega)]; exact (hts i p t hp ht).mono l10o⟩ ?_
 clear Kr f48o l10o l10 f48 hb48 hbuf htl hts ts l68 lo l8 hai cx1 cx2 h9 h8 h10
 rintro q _ h8 next2 hq ⟨ts, rfl, l8, f48, hbuf, htl, hts⟩ hnx2
 have lo := offS_le h8 out
 have l68 := Hp.le_trans l8 lo
 have g48 := lo _ _ f48
 refine ⟨_, _, _, _, vt, out, _, _, _, _, _, st, _, _, rfl, ?_⟩
 by_cases hlq : q < (stP m).length
 rotate_left
 ·refine bs_f (by simp; omega) ?_
  rw [W_succ (by omega)]
  refine hnx hlt _ _ ⟨ts, rfl, l8, hbuf, htl, fun i p t hp ht => ?_⟩
  have := hts i p t hp ht
  rwa [if_pos (by have := get_lt hp; omega)] at this
 refine bs_t (by simp; omega) ?_
 obtain ⟨p, hpq⟩ : ∃ p, (stP m)[q]? = some p := ⟨_, List.getElem?_eq_getElem hlq⟩
 have hpm := places_w gd 36 p (List.mem_of_getElem? hpq)
 obtain ⟨bq, oq, hap, hcp⟩ := (hst6.mono l68).get (VL_getE hpq)
 refine joinP_of (fun J => ∀ (ts' : List Sl) (h' : Hp), h6.le (h'.offS out) → (h'.offS out) b48 = some (.inl ⟨[I bd.state, I bd.node], 2, false⟩) → Buf h' out 1 (ts'.map Sl.v) → ts'.length = (stP m).length →
  (∀ (i p : Nat) (t : Sl), (stP m)[i]? = some p → ts'[i]? = some t → IntS (h'.offS out) t (VL (if i < q + 1 then curI m (j + 1) p else curI m j p))) → J h') ?_ (fun J hJ => ?_)
 ·intro ts' h' a1 a2 a3 a4 a5
  rw [W_succ (by omega)]
  exact hnx2 hlq _ _ ⟨ts', rfl, a1, a2, a3, a4, a5⟩
 refine ⟨bq, oq, hap, by omega, by omega, _, hcp, ?_⟩
 (refine rdx_ ?_)
 have hst' := curI_step gd hbd p
 refine bsplit_of (fun e => ?_) (fun e => ?_)
 ·rw [if_pos (eq_of e).symm] at hst'
  have f78 := l68 _ _ f7
  (refine rdx_ ?_)
  obtain ⟨bn, on, han, hpn', c6, c7, w1, w16⟩ := (hs6.mono l68).nodes.sortc2 hpm gd.ok
  refine ⟨bn, on, han, by omega, hpn', _, c6, _, c7, ?_⟩
  (refine rdx_ ?_)
  obtain ⟨bv, ov, t, hav, hvn', hcv, ht⟩ := (hpv.mono l68).at v1 (by rw [aV.len]; exact v2)
  refine ⟨bv, ov, hav, v1, hvn', t, hcv, ?_⟩
  refine spread_spec ht v3 v4 fun t2 h9 l9 ht2 => ⟨t2, rfl, ?_⟩
  rw [cells_mk gd.ok hpm] at ht2
  have l9o := offS_mono out l9
  have hbuf9 := hbuf.mono l9
  refine hbuf9.wr (x := t2) (by omega) fun h10 hbuf' ho => ?_
  refine hJ _ h10 (by rw [ho]; exact Hp.le_trans l8 l9o) (by rw [ho]; exact l9o _ _ f48) hbuf' (by rw [List.length_set]; exact htl) fun i p' u hp' hu => ?_
  rw [ho]
  by_cases hiq : i = q
  ·subst hiq
   rw [hpq] at hp'; cases hp'
   rw [List.getElem?_set_self (by omega)] at hu
   obtain rfl := Option.some.inj hu
   rw [if_pos (by omega), hst']
   exact ht2.offL hbuf9
  ·rw [List.getElem?_set_ne (fun e => hiq e.symm)] at hu
   have := (hts i p' u hp' hu).mono l9o
   by_cases h1 : i < q
   ·rw [if_pos h1] at this; rw [if_pos (by omega)]; exact this
   ·rw [if_neg h1] at this; rw [if_neg (by omega)]; exact this
 ·rw [if_neg (fun e' => ne_of e e'.symm)] at hst'
  refine hJ ts h8 l8 f48 hbuf htl fun i p' u hp' hu => ?_
  have := hts i p' u hp' hu
  by_cases hiq : i = q
  ·subst hiq
   rw [hpq] at hp'; cases hp'
   rw [if_neg (by omega)] at this
   rw [if_pos (by omega), hst']; exact this
  ·by_cases h1 : i < q
   ·rw [if_pos h1] at this; rw [if_pos (by omega)]; exact this
   ·rw [if_neg h1] at this; rw [if_neg (by omega)]; exact this
theorem BoolT.get {h : Hp} {t : Sl} {n : Nat} {T : Nat → Bool} (e : BoolT h t n T) {i : Nat} (hi : i < n) : ∃ b o, t.a = some (Addr.mk b o none) ∧ (i : Int) < (t.n : Int) ∧ Hp.cell h b (o + Int.toNat (i : Int) * 1) = some (.bool (T i)) := by
 have hl := BoolS.len e
 rw [List.length_map, List.length_range] at hl
 obtain ⟨b, o, ha, hc⟩ := SlC.get e (by omega)
 refine ⟨b, o, ha, by omega, ?_⟩
 rw [Int.toNat_natCast, Nat.mul_one]
 exact hc i _ (by simp [hi])
theorem BoolT.len {h : Hp} {t : Sl} {n : Nat} {T : Nat → Bool} (e : BoolT h t n T) : t.n = n := by
 have hl := BoolS.len e
 rwa [List.length_map, List.length_range] at hl
theorem IntT.get {h : Hp} {t : Sl} {n : Nat} {f : Nat → Nat} (e : IntT h t n f) {i : Nat} (hi : i < n) : ∃ b o, t.a = some (Addr.mk b o none) ∧ (i : Int) < (t.n : Int) ∧ Hp.cell h b (o + Int.toNat (i : Int) * 1) = some (I (f i : Nat)) := by
 have hl := IntS.len e
 rw [VL_len, List.length_map, List.length_range] at hl
 obtain ⟨b, o, ha, hc⟩ := SlC.get e (by omega)
 refine ⟨b, o, ha, by omega, ?_⟩
 rw [Int.toNat_natCast, Nat.mul_one]
 exact hc i _ (by simp [VL, hi])
theorem begins_spec {h : Hp} {b s : Nat} {σ : SysP} {R : Value → Hp → Prop} (hs : SysS h b σ) (ok : σ.Ok) (hlt : s < 2 ^ σ.n) (k : R (.bool (σ.begins s)) h) : c_impl_system_begins #[.pointer (some ⟨b, 0, none⟩), I s] h R := by
 apply R_impl_system_begins
 unfold F_impl_system_begins
 obtain ⟨M, st, hold, bad, next, fx, _, _, _⟩ := hs
 have h8 := Nat.pow_le_pow_right (n := 2) (by omega) ok.nle
 have h82 : (2 : Nat) ^ 8 = 256 := rfl
 have hb := ok.bfix
 have ha := ok.bas
 refine ex_ptrA (ex_ptrA ?_)
 repeat' (refine rdx_ ?_)
 rw [andW_nat (by omega) (by omega)]
 refine b_leaf ?_ k
 unfold SysP.begins
 rw [Bool.eq_iff_iff, decide_eq_true_eq, beq_iff_eq]; omega
theorem IntS.up {h h' : Hp} {s : Sl} {xs : List Int} (e : IntS h s xs) (l : h.le h') : IntS h' s xs := e.mono l
theorem IntSS.up {h h' : Hp} {s : Sl} {xs : List (List Int)} (e : IntSS h s xs) (l : h.le h') : IntSS h' s xs := e.mono l
theorem ModelS.up {h h' : Hp} {M : MSl} {m : ModelP} (e : ModelS h M m) (l : h.le h') : ModelS h' M m := e.mono l
theorem kpU {h0 h h' : Hp} {b : Nat} {x : Blk} {P : Prop} (f : h0 b = some x) (l1 : h0.le h') (l2 : h0.le h) (k : P) : h' b = h b ∧ P := ⟨by rw [l1 _ _ f, l2 _ _ f], k⟩
theorem kpN {h0 h h' : Hp} {b : Nat} {P : Prop} (f : h0 b ≠ none) (l1 : h0.le h') (l2 : h0.le h) (k : P) : h' b = h b ∧ P := by
 refine ⟨?_, k⟩
 cases hb : h0 b with
 | none => exact absurd hb f
 | some x => rw [l1 _ _ hb, l2 _ _ hb]
theorem rdU {α : Type} {f : α → Value} {h0 h : Hp} {b z o : Nat} {cs : List Value} {ro : Bool} {x : α} {P : α → Prop} (e : h0 b = some (.inl ⟨cs, z, ro⟩)) (l : h0.le h) (c : cs[o]? = some (f x)) (k : P x) : ∃ y : α, Hp.cell h b o = some (f y) ∧ P y := ⟨x, by rw [cell_of (l _ _ e)]; exact c, k⟩
theorem ku_ {P Q : Prop} (k : Q) (h : Q → P := by (first
 | ((with_reducible apply rdU); (assumption); ((focus ((repeat (first | exact Hp.le_refl _ | assumption | (refine Hp.le_trans ?_ (by assumption)))); done))); (exact rfl))
 | with_reducible exact And.intro (Eq.refl _)
 | with_reducible exact And.intro True.intro
 | with_reducible exact ex_ptrA
 | ((with_reducible apply kpU); (assumption); ((focus ((repeat (first | exact Hp.le_refl _ | assumption | (refine Hp.le_trans ?_ (by assumption)))); done))); ((focus ((repeat (first | exact Hp.le_refl _ | assumption | (refine Hp.le_trans ?_ (by assumption)))); done))))
 | ((with_reducible apply kpN); (assumption); ((focus ((repeat (first | exact Hp.le_refl _ | assumption | (refine Hp.le_trans ?_ (by assumption)))); done))); ((focus ((repeat (first | exact Hp.le_refl _ | assumption | (refine Hp.le_trans ?_ (by assumption)))); done))))
 | fail)) : P := h k
set_option maxHeartbeats 2000000 in
theorem l8Values_spec {h : Hp} {M : MSl} {m : ModelP} {c : Nat} {R : Value → Hp → Prop} (hs : ModelS h M m) (hm : Small m) (g : Good m) (hc : c < 2 ^ (bitsP m.nodes 36 + bitsP m.nodes 35))
  (k : ∀ t h', h.le h' → t.n = m.nodes.length → PVal h' t (codeV m (c % 2 ^ bitsP m.nodes 36) (c / 2 ^ bitsP m.nodes 36)) → PNew h t → R (Sl.v t) h') : c_spec_l8Values #[modelV M, I c] h R := by
 apply R_spec_l8Values
 unfold F_spec_l8Values
 have hn8 := g.n8
 have hk5 := g.k5
 have hp13 := pow13 g
 have hp8 := pow8 g
 have h1' : c % 2 ^ bitsP m.nodes 36 ≤ c := Nat.mod_le _ _
 have h2' : c / 2 ^ bitsP m.nodes 36 ≤ c := Nat.div_le_self _ _
 have hpp := pow_pos' (bitsP m.nodes 36)
 have hs36 : sumW m.nodes (placesP m.nodes 36) ≤ 60 := by have := sumW_st g; show sumW m.nodes (stP m) ≤ 60; omega
 have hs35 : sumW m.nodes (placesP m.nodes 35) ≤ 60 := by have := sumW_in g; show sumW m.nodes (inP m) ≤ 60; omega
 have hshr : shrW (c : Int) ((bitsP m.nodes 36 : Nat) : Int) = ((c / 2 ^ bitsP m.nodes 36 : Nat) : Int) := shrW_nat (by omega)
 have hmod : Int.tmod (c : Int) (((2 ^ bitsP m.nodes 36 : Nat)) : Int) = ((c % 2 ^ bitsP m.nodes 36 : Nat) : Int) := tmod_nat _ _
 have hwu : IntKind.wrap .u64 ((bitsP m.nodes 36 : Nat) : Int) = (bitsP m.nodes 36 : Nat) := Wu_nat (by omega)
 have hsh1 : shlW 1 ((bitsP m.nodes 36 : Nat) : Int) = ((2 ^ bitsP m.nodes 36 : Nat) : Int) := shlW_one (by omega)
 refine alloc_of fun b8 h1 hb8 l1 f8 => ?_
 clear hb8
 repeat' (refine ku_ ?_)
 refine l2All_spec (hs.mono l1) hm ⟨_, rfl, ?_⟩
 simp only [hwu, hsh1, hshr, hmod]
 repeat' (first
  | (refine ku_ ?_)
  | (rw [if_neg (by omega)])
  | (refine l2Places_spec (hs.up (by ((focus ((repeat (first | exact Hp.le_refl _ | assumption | (refine Hp.le_trans ?_ (by assumption)))); done))))) hm fun _ _ _ _ => ⟨_, rfl, ?_⟩)
  | (refine l5Unpack_spec (hs.up (by ((focus ((repeat (first | exact Hp.le_refl _ | assumption | (refine Hp.le_trans ?_ (by assumption)))); done))))) hm g.ok (IntS.up (by assumption) (by ((focus ((repeat (first | exact Hp.le_refl _ | assumption | (refine Hp.le_trans ?_ (by assumption)))); done))))) (places_w g 36) (pl_le g 36) (by omega) hs36 fun _ _ _ _ => ⟨_, rfl, ?_⟩)
  | (refine l5Unpack_spec (hs.up (by ((focus ((repeat (first | exact Hp.le_refl _ | assumption | (refine Hp.le_trans ?_ (by assumption)))); done))))) hm g.ok (IntS.up (by assumption) (by ((focus ((repeat (first | exact Hp.le_refl _ | assumption | (refine Hp.le_trans ?_ (by assumption)))); done))))) (places_w g 35) (pl_le g 35) (by omega) hs35 fun _ _ _ _ => ⟨_, rfl, ?_⟩)
  | (refine l4All_spec (hs.up (by ((focus ((repeat (first | exact Hp.le_refl _ | assumption | (refine Hp.le_trans ?_ (by assumption)))); done))))) hm g.ok g.nl (IntSS.up (by assumption) (by ((focus ((repeat (first | exact Hp.le_refl _ | assumption | (refine Hp.le_trans ?_ (by assumption)))); done))))) (unp_ok 36 (c % 2 ^ bitsP m.nodes 36) g) (IntSS.up (by assumption) (by ((focus ((repeat (first | exact Hp.le_refl _ | assumption | (refine Hp.le_trans ?_ (by assumption)))); done))))) (unp_ok 35 (c / 2 ^ bitsP m.nodes 36) g) fun t h' l hn hpv hw => ⟨_, rfl, k t h' (by ((focus ((repeat (first | exact Hp.le_refl _ | assumption | (refine Hp.le_trans ?_ (by assumption)))); done)))) hn hpv fun b o hb => none_of_le (by ((focus ((repeat (first | exact Hp.le_refl _ | assumption | (refine Hp.le_trans ?_ (by assumption)))); done)))) (hw b o hb)⟩)
  | (refine And.intro ?_ ?_))
def matchB (ps : List Nat) (f : Nat → Option (List Nat)) (vs : List (List Nat)) (n : Nat) : Bool := (List.range n).all fun i => match ps[i]? with
 | some p => (match f p with | some v => decide (vs.getD i [] = v) | none => true)
 | none => true
theorem matchB_succ {ps : List Nat} {f : Nat → Option (List Nat)} {vs : List (List Nat)} {i p : Nat} (h : ps[i]? = some p) : matchB ps f vs (i + 1) = (matchB ps f vs i && (match f p with | some v => decide (vs.getD i [] = v) | none => true)) := by
 unfold matchB
 rw [List.range_succ, List.all_append]
 simp only [List.all_cons, List.all_nil, Bool.and_true, h]
theorem matchB_iff {ps : List Nat} {f : Nat → Option (List Nat)} {vs : List (List Nat)} : matchB ps f vs ps.length = true ↔ ∀ (i p : Nat), ps[i]? = some p → ∀ v, f p = some v → vs.getD i [] = v := by
 unfold matchB
 rw [List.all_eq_true]
 constructor
 ·intro h i p hp v hv
  have := h i (List.mem_range.2 (get_lt hp))
  rw [hp] at this
  simp only [hv, decide_eq_true_eq] at this
  exact this
 ·intro h i hi
  cases hp : ps[i]? with
  | none => rfl
  | some p =>
   simp only
   cases hv : f p with
   | none => rfl
   | some v => simpa using h i p hp v hv
theorem matchB_no {ps : List Nat} {f : Nat → Option (List Nat)} {vs : List (List Nat)} {i : Nat} (hi : i ≤ ps.length) (h : matchB ps f vs i = false) : matchB ps f vs ps.length = false := by
 unfold matchB at h ⊢
 rw [List.all_eq_false] at h ⊢
 obtain ⟨x, hx, hn⟩ := h
 exact ⟨x, List.mem_range.2 (by have := List.mem_range.1 hx; omega), hn⟩
theorem l4Fits_spec {h : Hp} {M : MSl} {m : ModelP} {s t : Sl} {ps : List Nat} {vs : List (List Nat)} {R : Value → Hp → Prop} (hs : ModelS h M m) (hm : Small m) (hok : nodesOkP m.nodes = true) (hp : IntS h s (VL ps)) (hps : ∀ p ∈ ps, p < m.nodes.length) (hpl : ps.length ≤ 1048576)
  (hv : IntSS h t (vs.map VL)) (hf : FitR m.nodes ps vs) (k : R (.bool true) h) : c_spec_l4Fits #[modelV M, s.v, t.v] h R := by
 refine ACalls.drop (R_spec_l4Fits ?_)
 unfold F_spec_l4Fits
 have hn := hs.nodes.len
 have hsn := hp.len
 rw [VL_len] at hsn
 have htn := hv.len
 rw [List.length_map] at htn
 have hvl := fitR_len hf
 refine alloc_of fun b9 h1 hb9 l1 f9 => ?_
 refine bs_f (by simp; omega) ?_
 refine loop_up ps.length (fun i ws h' => h.le h' ∧ h' b9 = some (.inl ⟨modelC M, 5, false⟩) ∧ ws = [s.v, t.v, .pointer (some ⟨b9, 0, none⟩), I i]) ⟨l1, f9, rfl⟩ ?_
 clear f9 l1 hb9 h1
 rintro i _ h1 next hi ⟨l1, f9, rfl⟩ hnx
 refine ⟨s, t, _, _, _, rfl, ?_⟩
 by_cases hlt : i < ps.length
 rotate_left
 ·exact bs_f (by simp; omega) ⟨_, l1, k⟩
 refine bs_t (by simp; omega) ?_
 obtain ⟨p, hpi⟩ : ∃ p, ps[i]? = some p := ⟨_, List.getElem?_eq_getElem hlt⟩
 have hpm := hps p (List.mem_of_getElem? hpi)
 obtain ⟨b, o, ha, hc⟩ := (hp.mono l1).get (VL_getE hpi)
 refine ⟨b, o, ha, by omega, by omega, ?_⟩
 (refine rdx_ ?_)
 refine ⟨_, hc, ?_⟩
 obtain ⟨bn, on, han, hpn', c6, c7, w1, w16⟩ := (hs.mono l1).nodes.sortc2 hpm hok
 refine ⟨bn, on, han, by omega, hpn', _, c6, _, c7, ?_⟩
 obtain ⟨bt, ot, c, hta, htc, hcv⟩ := (hv.mono l1).getV (i := i) (by omega)
 have xbt := nz_cell htc
 have xbn := nz_cell c6
 have xb := nz_cell hc
 have xb9 := nz_some f9
 refine alloc_of fun b36 h2 hb36 l2 f36' => ?_
 have n9 := fresh_ne hb36 f9
 have nt := cell_fresh hb36 htc
 repeat' (((with_reducible apply kp_le); (assumption); (assumption)))
 (with_reducible apply wr_of); (exact f36'); (exact Hp.le_trans l1 l2); (exact none_of_le l1 hb36); (exact Nat.le_refl 2)
 intro h3 f36 kp l3
 have l13 : h1.le h3 := le_keep hb36 l2 kp
 have f93 := l13 _ _ f9
 have f36v : h3 b36 = some (.inl ⟨[I (sortAt m.nodes p).idx, I (widA m.nodes p)], 2, false⟩) := f36
 refine ⟨bt, ot, hta, by omega, by omega, c, l13.cell htc, ?_⟩
 repeat' (refine rdx_ ?_)
 refine spec_SortCells_spec ⟨_, rfl, ?_⟩
 rw [cells_mk hok hpm]
 have hg := fitR_get hf hpi
 have hcn := hcv.len
 rw [VL_len] at hcn
 have hcl := cellsA_le m.nodes p
 repeat' (refine rdx_ ?_)
 refine bs_f (by simp; omega) ?_
 have hcv3 := hcv.mono l13
 refine loop_up (cellsA m.nodes p) (fun q ws h' => h' = h3 ∧ ws = [s.v, t.v, .pointer (some ⟨b9, 0, none⟩), I i, .pointer (some ⟨b36, 0, none⟩), I q]) ⟨rfl, rfl⟩ ?_
 rintro q _ _ next2 hq ⟨rfl, rfl⟩ hnx2
 rename_i h3
 refine ⟨s, t, _, _, _, _, _, _, rfl, ?_⟩
 refine ⟨bt, ot, hta, by omega, by omega, c, l13.cell htc, ?_⟩
 by_cases hlq : q < cellsA m.nodes p
 rotate_left
 ·refine bs_f (by simp; omega) ?_
  rw [W_succ (by omega)]
  exact hnx hlt _ _ ⟨l3, f93, rfl⟩
 refine bs_t (by simp; omega) ?_
 refine ⟨bt, ot, hta, by omega, by omega, ?_⟩
 (refine rdx_ ?_)
 refine ⟨c, l13.cell htc, ?_⟩
 obtain ⟨bc, oc, hca, hcc, hln⟩ := hcv3.elt (i := q) (by omega)
 refine ⟨bc, oc, hca, by omega, by omega, _, hcc, ?_⟩
 have hlt2 : (vs.getD i []).getD q 0 < 2 ^ widA m.nodes p := by
  rw [List.getD_eq_getElem?_getD, List.getElem?_eq_getElem (show q < (vs.getD i []).length by omega)]
  exact hg.2 _ (List.getElem_mem _)
 refine spec_WordOk_spec ⟨_, rfl, bs_f ?_ ?_⟩
 ·rw [Bool.not_eq_false', wordOk_iff]
  refine ⟨by omega, by omega, ?_⟩
  rw [Int.toNat_natCast]; omega
 ·rw [W_succ (by omega)]
  exact hnx2 hlq _ _ ⟨rfl, rfl⟩
theorem spec_StateFits_spec {h : Hp} {M : MSl} {m : ModelP} {t : Sl} {vs : List (List Nat)} {R : Value → Hp → Prop} (hs : ModelS h M m) (hm : Small m) (hc : modelCodeP m = 0)
  (hv : IntSS h t (vs.map VL)) (hf : FitR m.nodes (stP m) vs) (k : R (.bool true) h) : c_spec_StateFits #[modelV M, t.v] h R := by
 refine ACalls.drop (R_spec_StateFits ?_)
 unfold F_spec_StateFits
 have g := good_of hc
 refine alloc_of fun b8 h1 hb8 l1 f8 => ?_
 repeat' (refine ku_ ?_)
 refine spec_ModelCode_spec (hs.up (by ((focus ((repeat (first | exact Hp.le_refl _ | assumption | (refine Hp.le_trans ?_ (by assumption)))); done))))) hm ⟨_, rfl, bs_t (by rw [hc]; rfl) ?_⟩
 repeat' (refine ku_ ?_)
 refine l2Places_spec (hs.up (by ((focus ((repeat (first | exact Hp.le_refl _ | assumption | (refine Hp.le_trans ?_ (by assumption)))); done))))) hm fun p h2 l2 i2 => ⟨p, rfl, ?_⟩
 repeat' (refine ku_ ?_)
 exact l4Fits_spec (hs.up (by ((focus ((repeat (first | exact Hp.le_refl _ | assumption | (refine Hp.le_trans ?_ (by assumption)))); done))))) hm g.ok i2 (places_w g 36) (pl_le g 36) (hv.up (by ((focus ((repeat (first | exact Hp.le_refl _ | assumption | (refine Hp.le_trans ?_ (by assumption)))); done))))) hf ⟨_, rfl, h, by ((focus ((repeat (first | exact Hp.le_refl _ | assumption | (refine Hp.le_trans ?_ (by assumption)))); done))), k⟩
theorem bound_init {m : ModelP} (g : Good m) {p k : Nat} (h : boundP m.inits p = some k) : k < m.nodes.length ∧ 0 < ((val0 m).getD k []).length ∧ ((val0 m).getD k []).length ≤ 4 := by
 obtain ⟨b, hb, _, rfl⟩ := bound_some h
 obtain ⟨v1, v2, v3, v4, _, _⟩ := init_val g hb
 exact ⟨by omega, v3, v4⟩
theorem spec_InitFits_spec {h : Hp} {M : MSl} {m : ModelP} {t : Sl} {vs : List (List Nat)} {R : Value → Hp → Prop} (hs : ModelS h M m) (hm : Small m) (hc : modelCodeP m = 0)
  (hv : IntSS h t (vs.map VL)) (hf : FitR m.nodes (stP m) vs) (k : R (.bool (matchB (stP m) (initF m) vs (stP m).length)) h) : c_spec_InitFits #[modelV M, t.v] h R := by
 refine ACalls.drop (R_spec_InitFits ?_)
 unfold F_spec_InitFits
 have g := good_of hc
 have hil := g.il
 have hnl := g.nl
 have hp36 : (stP m).length ≤ m.nodes.length := places_len m.nodes 36
 have htn := hv.len
 rw [List.length_map] at htn
 have hvl := fitR_len hf
 have hbn : ∀ b ∈ m.inits, 0 ≤ b.node := fun b hb => (init_val g hb).1
 refine alloc_of fun b8 h1 hb8 l1 f8 => ?_
 repeat' (refine ku_ ?_)
 refine spec_StateFits_spec (hs.up (by ((focus ((repeat (first | exact Hp.le_refl _ | assumption | (refine Hp.le_trans ?_ (by assumption)))); done))))) hm hc (hv.up (by ((focus ((repeat (first | exact Hp.le_refl _ | assumption | (refine Hp.le_trans ?_ (by assumption)))); done))))) hf ⟨_, rfl, bs_f rfl ?_⟩
 repeat' (refine ku_ ?_)
 refine l4Fixed_spec (hs.up (by ((focus ((repeat (first | exact Hp.le_refl _ | assumption | (refine Hp.le_trans ?_ (by assumption)))); done))))) hm g fun vt h2 l2 hvn hpv => ⟨vt, rfl, ?_⟩
 repeat' (refine ku_ ?_)
 refine l2Places_spec (hs.up (by ((focus ((repeat (first | exact Hp.le_refl _ | assumption | (refine Hp.le_trans ?_ (by assumption)))); done))))) hm fun pt h3 l3 ip => ⟨pt, rfl, ?_⟩
 have hpn : pt.n = (stP m).length := by have := ip.len; rw [VL_len] at this; exact this
 have f83 := l3 _ _ (l2 _ _ f8)
 have hpv3 := hpv.mono l3
 have l03 := Hp.le_trans l1 (Hp.le_trans l2 l3)
 have aV := val0_all g
 clear l2 l3 l1 hb8 f8 hpv h2
 refine loop_up (stP m).length (fun i ws h' => h3.le h' ∧ ws = [t.v, .pointer (some ⟨b8, 0, none⟩), vt.v, pt.v, I i] ∧ matchB (stP m) (initF m) vs i = true) ⟨Hp.le_refl _, rfl, rfl⟩ ?_
 rintro i _ h4 next hi ⟨l4, rfl, hg⟩ hnx
 have l04 := Hp.le_trans l03 l4
 refine ⟨t, _, _, vt, pt, _, rfl, ?_⟩
 by_cases hlt : i < (stP m).length
 rotate_left
 ·have hie : i = (stP m).length := by omega
  subst hie
  refine bs_f (by simp; omega) ⟨_, l04, b_leaf hg.symm k⟩
 refine bs_t (by simp; omega) ?_
 obtain ⟨p, hpi⟩ : ∃ p, (stP m)[i]? = some p := ⟨_, List.getElem?_eq_getElem hlt⟩
 have hsucc := matchB_succ (f := initF m) (vs := vs) hpi
 rw [hg, Bool.true_and] at hsucc
 obtain ⟨b, o, ha, hcc⟩ := (ip.mono l4).get (VL_getE hpi)
 refine ⟨b, o, ha, by omega, by omega, ?_⟩
 (refine ku_ ?_)
 refine ⟨_, hcc, ?_⟩
 refine l4Bound_spec (hs.mono l04).inits (by omega) hbn ⟨_, rfl, ?_⟩
 refine joinP_of (fun J => ∀ h', h4.le h' → J (!matchB (stP m) (initF m) vs (i + 1)) h') ?_ (fun J hJ => ?_)
 ·intro h' l'
  refine bsplit_of (fun e => ⟨_, Hp.le_trans l04 l', b_leaf ?_ k⟩) (fun e => ?_)
  ·symm; exact matchB_no (i := i + 1) (by omega) (by simpa using e)
  ·rw [W_succ (by omega)]
   exact hnx hlt _ _ ⟨Hp.le_trans l4 l', rfl, by simpa using e⟩
 cases hbo : boundP m.inits p with
 | none =>
  rw [show boundI m.inits p = -1 from by unfold boundI; rw [hbo]]
  refine bs_f (by simp) ⟨trivial, ?_⟩
  have hn : initF m p = none := by unfold initF; rw [hbo]; rfl
  rw [hn] at hsucc
  have := hJ h4 (Hp.le_refl _)
  rw [hsucc] at this; exact this
 | some q =>
  rw [show boundI m.inits p = (q : Int) from by unfold boundI; rw [hbo]]
  refine bs_t (by simp) ?_
  obtain ⟨hq, v3, v4⟩ := bound_init g hbo
  have hsm : initF m p = some (wideP (cellsA m.nodes p) ((val0 m).getD q [])) := by unfold initF; rw [hbo]; rfl
  have hfit := initF_fit g hsm
  have hcl := cellsA_le m.nodes p
  have hgv := fitR_get hf hpi
  rw [hsm] at hsucc
  obtain ⟨bt, ot, c, hta, htc, hcv⟩ := (hv.mono l04).getV (i := i) (by omega)
  obtain ⟨bv, ov, u, hua, hun, huc, huv⟩ := (hpv3.mono l4).at (p := (q : Int)) (by omega) (by rw [aV.len]; omega)
  have hcn := hcv.len
  rw [VL_len] at hcn
  refine ⟨bt, ot, hta, by omega, by omega, bv, ov, hua, by omega, hun, bt, ot, hta, by omega, by omega, c, htc, u, huc, c, htc, ?_⟩
  rw [Int.toNat_natCast] at huv
  rw [hcn, hgv.1]
  have xbt := nz_cell htc
  refine l4Wide_spec huv v3 v4 hcl fun w h5 l5 hw => ⟨w, rfl, ?_⟩
  repeat' (((with_reducible apply kp_le); (assumption); (assumption)))
  refine l4Same_spec (hcv.mono l5) hw (by rw [VL_len]; omega) (by rw [VL_len, VL_len, hgv.1, hfit.1]; exact Nat.le_refl _) ⟨_, rfl, ?_⟩
  have := hJ h5 l5
  simp only at hsucc
  rw [hsucc] at this
  have e2 : decide (VL (vs.getD i []) = VL (wideP (cellsA m.nodes p) ((val0 m).getD q []))) = decide (vs.getD i [] = wideP (cellsA m.nodes p) ((val0 m).getD q [])) := by
   rw [Bool.eq_iff_iff, decide_eq_true_eq, decide_eq_true_eq, VL_inj]
  rw [e2]; exact this
section
variable {g h h' : Hp} {L L' A B X : List (Nat × Blk)}
theorem Kn.split (K : Kn g h (A ++ B)) : Kn (h.wo (B.map Prod.fst)) h B ∧ Kn g (h.wo (B.map Prod.fst)) A := by
 have nd := K.nd
 rw [List.map_append, List.nodup_append] at nd
 refine ⟨⟨wo_le _ _, fun e he => K.mem e (List.mem_append_right _ he), fun e he => wo_none (List.mem_map.2 ⟨e, he, rfl⟩), nd.2.1⟩, ?_, fun e he => ?_, fun e he => K.new e (List.mem_append_left _ he), nd.1⟩
 ·exact le_wo K.le fun b hb => by
   obtain ⟨e, he, rfl⟩ := List.mem_map.1 hb
   exact K.new e (List.mem_append_right _ he)
 ·rw [wo_at]
  ·exact K.mem e (List.mem_append_left _ he)
  ·intro hb
   exact nd.2.2 _ (List.mem_map.2 ⟨e, he, rfl⟩) _ hb rfl
theorem Kn.off (K : Kn g h L) {b : Nat} {x y : Blk} (u : Upd L b x y L') (l : (h.off b).le h') (f : h' b = some y) : Kn g h' L' := by
 refine ⟨?_, fun e he => ?_, fun e he => ?_, by rw [u.keys]; exact K.nd⟩
 ·exact Hp.le_trans (le_off (K.new (b, x) u.mem) K.le) l
 ·rcases u.out K.nd e he with rfl | ⟨h1, h2⟩
  ·exact f
  ·refine l _ _ ?_
   simp only [Hp.off, Hp.set]; rw [if_neg h2]; exact K.mem e h1
 ·rcases u.out K.nd e he with rfl | ⟨h1, h2⟩
  ·exact K.new (b, x) u.mem
  ·exact K.new e h1
def OwnX (X : List (Nat × Blk)) (s : Sl) (sz : Nat) (cs : List Value) : Prop :=
 cs.length = s.n * sz ∧ s.n ≤ 9223372036854775807 ∧ ((s.n = 0 ∧ X = []) ∨ (s.n ≠ 0 ∧ ∃ b z, s.a = some ⟨b, 0, none⟩ ∧ X = [(b, .inl ⟨cs, z, false⟩)]))
theorem OwnX.own {s : Sl} {sz : Nat} {cs : List Value} (o : OwnX X s sz cs) (K : Kn g h (L ++ X)) : Own h s sz cs := by
 refine ⟨o.1, o.2.1, ?_⟩
 rcases o.2.2 with ⟨h0, _⟩ | ⟨_, b, z, ha, rfl⟩
 ·exact .inl h0
 ·exact .inr ⟨b, z, ha, K.at (by simp)⟩
end
theorem szNode_spec {h : Hp} {n : NodeP} {left : Int} {R : Value → Hp → Prop} (hsz : n.name.size ≤ 9223372036854775807) (h0 : 0 ≤ left) (h1 : left ≤ 1048576)
  (k : ∀ r : Int, (r < 0 ∨ (0 ≤ r ∧ r ≤ left ∧ n.name.size ≤ 1048576)) → R (I r) h) : c_laws_szNode #[nodeV n, I left] h R := by
 refine ACalls.drop (R_laws_szNode ?_)
 unfold F_laws_szNode
 refine alloc_of fun b h2 hb l f => ?_
 (refine rdx_ ?_)
 rw [W_id (by omega) (by omega)]
 refine bsplit_of (fun e => ⟨_, l, k _ (.inl (by omega))⟩) (fun e => ⟨_, l, k _ (.inr ?_)⟩)
 have := of_decide_eq_false e
 omega
theorem szNodeS_spec {h : Hp} {s : Sl} {l : List NodeP} {left : Int} {R : Value → Hp → Prop} (hs : NodeS h s l) (hsz : ∀ n ∈ l, n.name.size ≤ 9223372036854775807) (h0 : 0 ≤ left) (h1 : left ≤ 1048576)
  (k : ∀ r : Int, (r < 0 ∨ (0 ≤ r ∧ r ≤ left ∧ l.length ≤ 1048576 ∧ ∀ n ∈ l, n.name.size ≤ 1048576)) → R (I r) h) : c_laws_szNodeS #[s.v, I left] h R := by
 apply R_laws_szNodeS
 unfold F_laws_szNodeS
 have hn := hs.len
 have hb := hs.1
 rw [W_id (by omega) (by omega)]
 refine bsplit_of (fun e => k _ (.inl (by omega))) (fun e => ?_)
 have e' := of_decide_eq_false e
 refine loop_up l.length (fun i vs h' => ∃ r : Int, vs = [s.v, I r, I i] ∧ h' = h ∧ 0 ≤ r ∧ r ≤ left ∧ ∀ n ∈ l.take i, n.name.size ≤ 1048576) ⟨_, rfl, rfl, by omega, by omega, fun n hn => by simp at hn⟩ ?_
 rintro i _ _ next hi ⟨r, rfl, rfl, r0, r1, hall⟩ hnx
 rename_i h
 refine ⟨s, _, _, rfl, ?_⟩
 by_cases hlt : i < l.length
 rotate_left
 ·refine bs_f (by simp; omega) (k r (.inr ⟨r0, r1, by omega, ?_⟩))
  rwa [List.take_of_length_le (by omega)] at hall
 refine bs_t (by simp; omega) ?_
 obtain ⟨n, hni⟩ : ∃ n, l[i]? = some n := ⟨_, List.getElem?_eq_getElem hlt⟩
 obtain ⟨b, o, ha, c0, c1, c2, c3, c4, c5, c6, c7, c8⟩ := hs.at hni
 refine ⟨b, o, ha, by omega, by omega, _, c0, _, c1, _, c2, _, c3, _, c4, _, c5, _, c6, _, c7, _, c8, ?_⟩
 refine szNode_spec (n := n) (hsz n (List.mem_of_getElem? hni)) r0 (by omega) fun q hq => ⟨_, rfl, bsplit_of (fun e => k _ (.inl (by omega))) (fun e => ?_)⟩
 have := of_decide_eq_false e
 rcases hq with hq | ⟨q0, q1, q2⟩
 ·omega
 rw [W_succ (by omega)]
 refine hnx hlt _ _ ⟨q, rfl, rfl, q0, by omega, fun n' hn' => ?_⟩
 rw [List.getElem?_eq_getElem hlt] at hni
 rw [List.take_succ_eq_append_getElem hlt, List.mem_append, List.mem_singleton, Option.some.inj hni] at hn'
 rcases hn' with hn' | rfl
 ·exact hall n' hn'
 ·exact q2
theorem szBindS_spec {h : Hp} {s : Sl} {l : List BindP} {left : Int} {R : Value → Hp → Prop} (hs : BindS h s l) (h0 : 0 ≤ left) (h1 : left ≤ 1048576)
  (k : ∀ r : Int, (r < 0 ∨ (0 ≤ r ∧ r ≤ left ∧ l.length ≤ 1048576)) → R (I r) h) : c_laws_szBindS #[s.v, I left] h R := by
 apply R_laws_szBindS
 unfold F_laws_szBindS
 have hn := hs.len
 have hb := hs.1
 rw [W_id (by omega) (by omega)]
 refine bsplit_of (fun e => k _ (.inl (by omega))) (fun e => k _ (.inr ?_))
 have := of_decide_eq_false e
 omega
theorem szModel_spec {h : Hp} {M : MSl} {m : ModelP} {R : Value → Hp → Prop} (hs : ModelS h M m) (hsz : ∀ n ∈ m.nodes, n.name.size ≤ 9223372036854775807)
  (k : ∀ r : Int, (r < 0 ∨ (0 ≤ r ∧ r ≤ 1048576 ∧ Small m)) → R (I r) h) : c_laws_szModel #[modelV M, I 1048576] h R := by
 refine ACalls.drop (R_laws_szModel ?_)
 unfold F_laws_szModel
 refine alloc_of fun b8 h1 hb8 l1 f8 => ?_
 have neg : ∀ {h' : Hp}, h.le h' → ∃ h'' : Hp, h''.le h' ∧ R (I (-1)) h'' := fun l => ⟨_, l, k _ (.inl (by omega))⟩
 (refine rdx_ ?_)
 refine szNodeS_spec (hs.mono l1).nodes hsz (by omega) (by omega) fun r1 q1 => ⟨_, rfl, bsplit_of (fun e => neg l1) (fun e1 => ?_)⟩
 have e1 := of_decide_eq_false e1
 obtain ⟨a1, a2, a3, a4⟩ := q1.resolve_left e1
 (refine rdx_ ?_)
 refine szBindS_spec (hs.mono l1).inits a1 (by omega) fun r2 q2 => ⟨_, rfl, bsplit_of (fun e => neg l1) (fun e2 => ?_)⟩
 have e2 := of_decide_eq_false e2
 obtain ⟨b1, b2, b3⟩ := q2.resolve_left e2
 (refine rdx_ ?_)
 refine szBindS_spec (hs.mono l1).nexts b1 (by omega) fun r3 q3 => ⟨_, rfl, bsplit_of (fun e => neg l1) (fun e3 => ?_)⟩
 have e3 := of_decide_eq_false e3
 obtain ⟨c1, c2, c3⟩ := q3.resolve_left e3
 (refine rdx_ ?_)
 refine szIntS_spec (hs.mono l1).bads c1 (by omega) fun r4 q4 => ⟨_, rfl, bsplit_of (fun e => neg l1) (fun e4 => ?_)⟩
 have e4 := of_decide_eq_false e4
 have d1 := q4.resolve_left e4
 (refine rdx_ ?_)
 refine szIntS_spec (hs.mono l1).holds d1.1 (by omega) fun r5 q5 => ⟨_, rfl, bsplit_of (fun e => neg l1) (fun e5 => ⟨_, l1, k _ (.inr ?_)⟩)⟩
 have e5 := of_decide_eq_false e5
 have f1 := q5.resolve_left e5
 exact ⟨f1.1, by omega, ⟨a3, b3, c3, by omega, by omega, a4⟩⟩
theorem toSort_spec {h : Hp} {i w : Int} {R : Value → Hp → Prop} (k : R (.agg #[I i, I w]) h) : c_laws_toSort #[.agg #[I i, I w]] h R := by
 refine ACalls.drop (R_laws_toSort ?_)
 unfold F_laws_toSort
 have K0 := Kn.nil h
 (with_reducible apply Kn.al); (assumption); (intro b4 h1 K1 l1 hb4)
 (with_reducible apply Kn.al); (assumption); (intro b6 h2 K2 l2 hb6)
 (with_reducible apply Kn.al); (assumption); (intro b9 h3 K3 l3 hb9)
 repeat' (first | (refine kr_ ?_) | ((((with_reducible apply Kn.wr); (assumption); ((focus ((repeat first | exact .head | apply Upd.tail); done))))); (exact of_decide_eq_true rfl); (intro _ _ _)))
 exact ⟨_, Kn.le (by assumption), k⟩
theorem toBind_spec {h : Hp} {b : BindP} {R : Value → Hp → Prop} (k : R (bindV b) h) : c_laws_toBind #[bindV b] h R := by
 refine ACalls.drop (R_laws_toBind ?_)
 unfold F_laws_toBind
 have K0 := Kn.nil h
 (with_reducible apply Kn.al); (assumption); (intro b4 h1 K1 l1 hb4)
 (with_reducible apply Kn.al); (assumption); (intro b6 h2 K2 l2 hb6)
 (with_reducible apply Kn.al); (assumption); (intro b9 h3 K3 l3 hb9)
 repeat' (first | (refine kr_ ?_) | ((((with_reducible apply Kn.wr); (assumption); ((focus ((repeat first | exact .head | apply Upd.tail); done))))); (exact of_decide_eq_true rfl); (intro _ _ _)))
 exact ⟨_, Kn.le (by assumption), k⟩
theorem lset_more : ∀ (vs cs : List Value) (o : Nat), o + vs.length ≤ cs.length → (lset cs o vs).take (o + vs.length) = cs.take o ++ vs := by
 intro vs
 induction vs with
 | nil => intro cs o _; simp [lset_nil]
 | cons v r ih =>
  intro cs o h
  rw [List.length_cons] at h ⊢
  rw [lset_cons, show o + (r.length + 1) = (o + 1) + r.length by omega, ih _ _ (by rw [List.length_set]; omega), take_set v (by omega), List.append_assoc]; rfl
theorem toNode_spec {h : Hp} {n : NodeP} {R : Value → Hp → Prop} (k : R (nodeV n) h) : c_laws_toNode #[nodeV n] h R := by
 refine ACalls.drop (R_laws_toNode ?_)
 unfold F_laws_toNode
 have K0 := Kn.nil h
 (with_reducible apply Kn.al); (assumption); (intro b4 h1 K1 l1 hb4)
 (with_reducible apply Kn.al); (assumption); (intro b6 h2 K2 l2 hb6)
 (with_reducible apply Kn.al); (assumption); (intro b9 h3 K3 l3 hb9)
 repeat' (first | (refine kr_ ?_) | ((((with_reducible apply Kn.wr); (assumption); ((focus ((repeat first | exact .head | apply Upd.tail); done))))); (exact of_decide_eq_true rfl); (intro _ _ _)) | (refine toSort_spec ⟨_, _, rfl, ?_⟩))
 exact ⟨_, Kn.le (by assumption), k⟩
theorem flat_take {α : Type} {f : α → List Value} {l : List α} {i : Nat} {x : α} (h : l[i]? = some x) : (l.take (i + 1)).flatMap f = (l.take i).flatMap f ++ f x := by
 have hlt := get_lt h
 rw [List.getElem?_eq_getElem hlt] at h
 rw [List.take_succ_eq_append_getElem hlt, List.flatMap_append, Option.some.inj h]; simp
theorem zeroRow_len (z : Array Value) (n : Nat) : (zeroRow z n).length = n := by simp [zeroRow]
theorem toNodeS_spec {h : Hp} {s : Sl} {l : List NodeP} {R : Value → Hp → Prop} (hs : NodeS h s l) (hl : l.length ≤ 1048576)
  (k : ∀ b h', h b = none → h.le h' → h' b = some (.inl ⟨l.flatMap nodeCells, l.length * 9, false⟩) → R (Sl.v (arr b l.length)) h') : c_laws_toNodeS #[s.v] h R := by
 apply R_laws_toNodeS
 unfold F_laws_toNodeS
 have hn := hs.len
 refine ⟨by omega, by omega, by omega, by omega, ?_⟩
 rw [Int.toNat_natCast, hn]
 refine alloc_of fun b h1 hb l1 f1 => ?_
 refine loop_up l.length (fun i vs h' => vs = [s.v, (arr b l.length).v, I i] ∧ h.le h' ∧ ∃ cs, h' b = some (.inl ⟨cs, l.length * 9, false⟩) ∧ cs.length = l.length * 9 ∧ cs.take (i * 9) = (l.take i).flatMap nodeCells) ⟨rfl, l1, _, f1, zeroRow_len _ _, by simp⟩ ?_
 clear f1 l1 h1
 rintro i _ h1 next hi ⟨rfl, l1, cs, f1, hcl, htk⟩ hnx
 refine ⟨s, arr b _, _, rfl, ?_⟩
 by_cases hlt : i < l.length
 rotate_left
 ·have hie : i = l.length := by omega
  subst hie
  refine bs_f (by simp; omega) (k b h1 hb l1 ?_)
  rw [List.take_of_length_le (by omega), List.take_length] at htk
  rw [← htk]; exact f1
 refine bs_t (by simp; omega) ?_
 obtain ⟨n, hni⟩ : ∃ n, l[i]? = some n := ⟨_, List.getElem?_eq_getElem hlt⟩
 obtain ⟨bn, o, ha, c0, c1, c2, c3, c4, c5, c6, c7, c8⟩ := (hs.mono l1).at hni
 refine ⟨bn, o, ha, by omega, by omega, _, c0, _, c1, _, c2, _, c3, _, c4, _, c5, _, c6, _, c7, _, c8, ?_⟩
 refine toNode_spec (n := n) ⟨_, _, _, _, _, _, _, _, _, rfl, ?_⟩
 refine ex_ptrA ⟨by omega, by dsimp only; omega, ?_⟩
 (with_reducible apply wr_of); (exact f1); (exact l1); (exact hb); (rw [Int.toNat_natCast]; omega)
 intro h2 f2 kp l2
 rw [W_succ (by omega)]
 refine hnx hlt _ _ ⟨rfl, l2, _, f2, by rw [lset_length]; exact hcl, ?_⟩
 have := lset_more (nodeCells n) cs (i * 9) (by show i * 9 + 9 ≤ _; omega)
 rw [Int.toNat_natCast, Nat.zero_add]
 rw [flat_take hni, ← htk, show (i + 1) * 9 = i * 9 + (nodeCells n).length by show _ = i * 9 + 9; omega]
 exact this
theorem toBindS_spec {h : Hp} {s : Sl} {l : List BindP} {R : Value → Hp → Prop} (hs : BindS h s l) (hl : l.length ≤ 1048576)
  (k : ∀ b h', h b = none → h.le h' → h' b = some (.inl ⟨l.flatMap bindCells, l.length * 2, false⟩) → R (Sl.v (arr b l.length)) h') : c_laws_toBindS #[s.v] h R := by
 apply R_laws_toBindS
 unfold F_laws_toBindS
 have hn := hs.len
 refine ⟨by omega, by omega, by omega, by omega, ?_⟩
 rw [Int.toNat_natCast, hn]
 refine alloc_of fun b h1 hb l1 f1 => ?_
 refine loop_up l.length (fun i vs h' => vs = [s.v, (arr b l.length).v, I i] ∧ h.le h' ∧ ∃ cs, h' b = some (.inl ⟨cs, l.length * 2, false⟩) ∧ cs.length = l.length * 2 ∧ cs.take (i * 2) = (l.take i).flatMap bindCells) ⟨rfl, l1, _, f1, zeroRow_len _ _, by simp⟩ ?_
 clear f1 l1 h1
 rintro i _ h1 next hi ⟨rfl, l1, cs, f1, hcl, htk⟩ hnx
 refine ⟨s, arr b _, _, rfl, ?_⟩
 by_cases hlt : i < l.length
 rotate_left
 ·have hie : i = l.length := by omega
  subst hie
  refine bs_f (by simp; omega) (k b h1 hb l1 ?_)
  rw [List.take_of_length_le (by omega), List.take_length] at htk
  rw [← htk]; exact f1
 refine bs_t (by simp; omega) ?_
 obtain ⟨n, hni⟩ : ∃ n, l[i]? = some n := ⟨_, List.getElem?_eq_getElem hlt⟩
 obtain ⟨bn, o, ha, c0, c1⟩ := (hs.mono l1).at hni
 refine ⟨bn, o, ha, by omega, by omega, _, c0, _, c1, ?_⟩
 refine toBind_spec (b := n) ⟨_, _, rfl, ?_⟩
 refine ex_ptrA ⟨by omega, by dsimp only; omega, ?_⟩
 (with_reducible apply wr_of); (exact f1); (exact l1); (exact hb); (rw [Int.toNat_natCast]; omega)
 intro h2 f2 kp l2
 rw [W_succ (by omega)]
 refine hnx hlt _ _ ⟨rfl, l2, _, f2, by rw [lset_length]; exact hcl, ?_⟩
 have := lset_more (bindCells n) cs (i * 2) (by show i * 2 + 2 ≤ _; omega)
 rw [Int.toNat_natCast, Nat.zero_add]
 rw [flat_take hni, ← htk, show (i + 1) * 2 = i * 2 + (bindCells n).length by show _ = i * 2 + 2; omega]
 exact this
theorem toIntS_row {h : Hp} {s : Sl} {l : List Int} {R : Value → Hp → Prop} (hs : IntS h s l) (hl : l.length ≤ 1048576)
  (k : ∀ b h', h b = none → h.le h' → h' b = some (.inl ⟨l.map I, l.length * 1, false⟩) → R (Sl.v (arr b l.length)) h') : c_laws_toIntS #[s.v] h R := by
 apply R_laws_toIntS
 unfold F_laws_toIntS
 have hn := hs.len
 refine ⟨by omega, by omega, by omega, by omega, ?_⟩
 rw [Int.toNat_natCast, hn]
 refine alloc_of fun b h1 hb l1 f1 => ?_
 refine loop_up l.length (fun i vs h' => vs = [s.v, (arr b l.length).v, I i] ∧ h.le h' ∧ ∃ cs, h' b = some (.inl ⟨cs, l.length * 1, false⟩) ∧ cs.length = l.length ∧ cs.take i = (l.take i).map I) ⟨rfl, l1, _, f1, by rw [zeroRow_len, Nat.mul_one], by simp⟩ ?_
 clear f1 l1 h1
 rintro i _ h1 next hi ⟨rfl, l1, cs, f1, hcl, htk⟩ hnx
 refine ⟨s, arr b _, _, rfl, ?_⟩
 by_cases hlt : i < l.length
 rotate_left
 ·have hie : i = l.length := by omega
  subst hie
  refine bs_f (by simp; omega) (k b h1 hb l1 ?_)
  rw [List.take_of_length_le (by omega), List.take_length] at htk
  rw [← htk]; exact f1
 refine bs_t (by simp; omega) ?_
 obtain ⟨n, hni⟩ : ∃ n, l[i]? = some n := ⟨_, List.getElem?_eq_getElem hlt⟩
 obtain ⟨bn, o, ha, c0⟩ := (hs.mono l1).get hni
 refine ⟨bn, o, ha, by omega, by omega, _, c0, ?_⟩
 refine ex_ptrA ⟨by omega, by dsimp only; omega, ?_⟩
 (with_reducible apply wr_of); (exact f1); (exact l1); (exact hb); (rw [Int.toNat_natCast]; omega)
 intro h2 f2 kp l2
 rw [W_succ (by omega)]
 refine hnx hlt _ _ ⟨rfl, l2, _, f2, by rw [lset_length]; exact hcl, ?_⟩
 rw [Int.toNat_natCast, Nat.zero_add, Nat.mul_one, lset_one, take_set _ (by omega), htk, List.take_succ_eq_append_getElem hlt, List.map_append]
 rw [List.getElem?_eq_getElem hlt] at hni
 rw [Option.some.inj hni]; rfl
def modL (m : ModelP) (bn bi bx bb bh : Nat) : List (Nat × Blk) :=
 [(bn, .inl ⟨m.nodes.flatMap nodeCells, m.nodes.length * 9, false⟩), (bi, .inl ⟨m.inits.flatMap bindCells, m.inits.length * 2, false⟩), (bx, .inl ⟨m.nexts.flatMap bindCells, m.nexts.length * 2, false⟩),
  (bb, .inl ⟨m.bads.map I, m.bads.length * 1, false⟩), (bh, .inl ⟨m.holds.map I, m.holds.length * 1, false⟩)]
abbrev modM (m : ModelP) (bn bi bx bb bh : Nat) : MSl := ⟨arr bn m.nodes.length, arr bi m.inits.length, arr bx m.nexts.length, arr bb m.bads.length, arr bh m.holds.length⟩
theorem toModel_spec {h : Hp} {M : MSl} {m : ModelP} {R : Value → Hp → Prop} (hs : ModelS h M m) (hm : Small m)
  (k : ∀ bn bi bx bb bh h', Kn h h' (modL m bn bi bx bb bh) → R (modelV (modM m bn bi bx bb bh)) h') : c_laws_toModel #[modelV M] h R := by
 apply R_laws_toModel
 unfold F_laws_toModel
 have K0 := Kn.nil h
 (with_reducible apply Kn.al); (assumption); (intro b7 h1 K1 l1 hb7)
 (with_reducible apply Kn.al); (assumption); (intro b9 h2 K2 l2 hb9)
 (with_reducible apply Kn.al); (assumption); (intro b12 h3 K3 l3 hb12)
 repeat' (refine kr_ ?_)
 refine toNodeS_spec (hs.mono K3.le).nodes hm.nodes fun bn h4 hbn l4 f4 => ⟨_, rfl, ?_⟩
 have K4 := K3.cons hbn l4 f4
 (((with_reducible apply Kn.wr); (assumption); ((focus ((repeat first | exact .head | apply Upd.tail); done)))))
 ·exact of_decide_eq_true rfl
 intro h5 K5 _
 repeat' (refine kr_ ?_)
 refine toBindS_spec (hs.mono K5.le).inits hm.inits fun bi h6 hbi l6 f6 => ⟨_, rfl, ?_⟩
 have K6 := K5.cons hbi l6 f6
 (((with_reducible apply Kn.wr); (assumption); ((focus ((repeat first | exact .head | apply Upd.tail); done)))))
 ·exact of_decide_eq_true rfl
 intro h7 K7 _
 repeat' (refine kr_ ?_)
 refine toBindS_spec (hs.mono K7.le).nexts hm.nexts fun bx h8 hbx l8 f8 => ⟨_, rfl, ?_⟩
 have K8 := K7.cons hbx l8 f8
 (((with_reducible apply Kn.wr); (assumption); ((focus ((repeat first | exact .head | apply Upd.tail); done)))))
 ·exact of_decide_eq_true rfl
 intro h9 K9 _
 repeat' (refine kr_ ?_)
 refine toIntS_row (hs.mono K9.le).bads hm.bads fun bb h10 hbb l10 f10 => ⟨_, rfl, ?_⟩
 have K10 := K9.cons hbb l10 f10
 (((with_reducible apply Kn.wr); (assumption); ((focus ((repeat first | exact .head | apply Upd.tail); done)))))
 ·exact of_decide_eq_true rfl
 intro h11 K11 _
 repeat' (refine kr_ ?_)
 refine toIntS_row (hs.mono K11.le).holds hm.holds fun bh h12 hbh l12 f12 => ⟨_, rfl, ?_⟩
 have K12 := K11.cons hbh l12 f12
 (((with_reducible apply Kn.wr); (assumption); ((focus ((repeat first | exact .head | apply Upd.tail); done)))))
 ·exact of_decide_eq_true rfl
 intro h13 K13 _
 repeat' (refine kr_ ?_)
 (((with_reducible apply Kn.wr); (assumption); ((focus ((repeat first | exact .head | apply Upd.tail); done)))))
 ·exact of_decide_eq_true rfl
 intro h14 K14 _
 repeat' (refine kr_ ?_)
 refine k bn bi bx bb bh h14 (K14.sub (fun e he => ?_) ?_)
 ·simp only [modL, List.mem_cons, List.not_mem_nil, or_false] at he
  rcases he with rfl | rfl | rfl | rfl | rfl
  ·exact .tail _ (.tail _ (.tail _ (.tail _ (.head _))))
  ·exact .tail _ (.tail _ (.tail _ (.head _)))
  ·exact .tail _ (.tail _ (.head _))
  ·exact .tail _ (.head _)
  ·exact .head _
 ·have nd : ([bh, bb, bx, bi, bn] ++ [b12, b9, b7]).Nodup := K14.nd
  have nd2 : ([bh, bb, bx, bi, bn] : List Nat).reverse.Nodup := (List.reverse_perm _).nodup_iff.2 (List.nodup_append.1 nd).1
  exact nd2
theorem mod_S {g h : Hp} {X : List (Nat × Blk)} {m : ModelP} {bn bi bx bb bh : Nat} (K : Kn g h (modL m bn bi bx bb bh ++ X)) (hm : Small m) : ModelS h (modM m bn bi bx bb bh) m := by
 have g1 := hm.nodes
 have g2 := hm.inits
 have g3 := hm.nexts
 have g4 := hm.bads
 have g5 := hm.holds
 refine ⟨⟨by dsimp only; omega, by rw [flat_len (m := 9) (fun _ => rfl)], .inr ⟨bn, 0, rfl, cellsAre_of (K.at (List.mem_append_left _ (.head _)))⟩⟩,
  ⟨by dsimp only; omega, by rw [flat_len (m := 2) (fun _ => rfl)], .inr ⟨bi, 0, rfl, cellsAre_of (K.at (List.mem_append_left _ (.tail _ (.head _))))⟩⟩,
  ⟨by dsimp only; omega, by rw [flat_len (m := 2) (fun _ => rfl)], .inr ⟨bx, 0, rfl, cellsAre_of (K.at (List.mem_append_left _ (.tail _ (.tail _ (.head _)))))⟩⟩,
  ⟨by dsimp only; omega, by simp, .inr ⟨bb, 0, rfl, cellsAre_of (K.at (List.mem_append_left _ (.tail _ (.tail _ (.tail _ (.head _))))))⟩⟩,
  ⟨by dsimp only; omega, by simp, .inr ⟨bh, 0, rfl, cellsAre_of (K.at (List.mem_append_left _ (.tail _ (.tail _ (.tail _ (.tail _ (.head _)))))))⟩⟩, Nat.le_refl _⟩
theorem eqSort_same {h : Hp} {i w : Int} {R : Value → Hp → Prop} (k : R (.bool true) h) : c_laws_eqSort #[.agg #[I i, I w], .agg #[I i, I w]] h R := by
 refine ACalls.drop (R_laws_eqSort ?_)
 unfold F_laws_eqSort
 have K0 := Kn.nil h
 (with_reducible apply Kn.al); (assumption); (intro b4 h1 K1 l1 hb4)
 (with_reducible apply Kn.al); (assumption); (intro b6 h2 K2 l2 hb6)
 repeat' (first | (refine kr_ ?_) | (refine bs_f (by simp) ?_))
 exact ⟨_, K2.le, k⟩
theorem eqBind_same {h : Hp} {b : BindP} {R : Value → Hp → Prop} (k : R (.bool true) h) : c_laws_eqBind #[bindV b, bindV b] h R := by
 refine ACalls.drop (R_laws_eqBind ?_)
 unfold F_laws_eqBind
 have K0 := Kn.nil h
 (with_reducible apply Kn.al); (assumption); (intro b4 h1 K1 l1 hb4)
 (with_reducible apply Kn.al); (assumption); (intro b6 h2 K2 l2 hb6)
 repeat' (first | (refine kr_ ?_) | (refine bs_f (by simp) ?_))
 exact ⟨_, K2.le, k⟩
theorem eqNode_same {h : Hp} {n : NodeP} {R : Value → Hp → Prop} (k : R (.bool true) h) : c_laws_eqNode #[nodeV n, nodeV n] h R := by
 refine ACalls.drop (R_laws_eqNode ?_)
 unfold F_laws_eqNode
 have K0 := Kn.nil h
 (with_reducible apply Kn.al); (assumption); (intro b4 h1 K1 l1 hb4)
 (with_reducible apply Kn.al); (assumption); (intro b6 h2 K2 l2 hb6)
 repeat' (first | (refine kr_ ?_) | (refine bs_f (by simp) ?_) | (refine eqSort_same ⟨_, rfl, ?_⟩))
 exact ⟨_, K2.le, k⟩
theorem eqNodeS_same {h : Hp} {s t : Sl} {l : List NodeP} {R : Value → Hp → Prop} (hs : NodeS h s l) (ht : NodeS h t l) (k : R (.bool true) h) : c_laws_eqNodeS #[s.v, t.v] h R := by
 apply R_laws_eqNodeS
 unfold F_laws_eqNodeS
 have hn := hs.len
 have hn2 := ht.len
 have hb := hs.1
 refine bs_f (by simp; omega) ?_
 refine loop_up l.length (fun i vs h' => vs = [s.v, t.v, I i] ∧ h' = h) ⟨rfl, rfl⟩ ?_
 rintro i _ _ next hi ⟨rfl, rfl⟩ hnx
 rename_i h
 refine ⟨s, t, _, rfl, ?_⟩
 by_cases hlt : i < l.length
 ·refine bs_t (by simp; omega) ?_
  obtain ⟨n, hni⟩ : ∃ n, l[i]? = some n := ⟨_, List.getElem?_eq_getElem hlt⟩
  obtain ⟨b, o, ha, c0, c1, c2, c3, c4, c5, c6, c7, c8⟩ := hs.at hni
  obtain ⟨b', o', ha', d0, d1, d2, d3, d4, d5, d6, d7, d8⟩ := ht.at hni
  refine ⟨b, o, ha, by omega, by omega, b', o', ha', by omega, by omega, _, c0, _, c1, _, c2, _, c3, _, c4, _, c5, _, c6, _, c7, _, c8, _, d0, _, d1, _, d2, _, d3, _, d4, _, d5, _, d6, _, d7, _, d8, ?_⟩
  refine eqNode_same (n := n) ⟨_, rfl, bs_f rfl ?_⟩
  rw [W_succ (by omega)]
  exact hnx hlt _ _ ⟨rfl, rfl⟩
 ·exact bs_f (by simp; omega) k
theorem eqBindS_same {h : Hp} {s t : Sl} {l : List BindP} {R : Value → Hp → Prop} (hs : BindS h s l) (ht : BindS h t l) (k : R (.bool true) h) : c_laws_eqBindS #[s.v, t.v] h R := by
 apply R_laws_eqBindS
 unfold F_laws_eqBindS
 have hn := hs.len
 have hn2 := ht.len
 have hb := hs.1
 refine bs_f (by simp; omega) ?_
 refine loop_up l.length (fun i vs h' => vs = [s.v, t.v, I i] ∧ h' = h) ⟨rfl, rfl⟩ ?_
 rintro i _ _ next hi ⟨rfl, rfl⟩ hnx
 rename_i h
 refine ⟨s, t, _, rfl, ?_⟩
 by_cases hlt : i < l.length
 ·refine bs_t (by simp; omega) ?_
  obtain ⟨n, hni⟩ : ∃ n, l[i]? = some n := ⟨_, List.getElem?_eq_getElem hlt⟩
  obtain ⟨b, o, ha, c0, c1⟩ := hs.at hni
  obtain ⟨b', o', ha', d0, d1⟩ := ht.at hni
  refine ⟨b, o, ha, by omega, by omega, b', o', ha', by omega, by omega, _, c0, _, c1, _, d0, _, d1, ?_⟩
  refine eqBind_same (b := n) ⟨_, rfl, bs_f rfl ?_⟩
  rw [W_succ (by omega)]
  exact hnx hlt _ _ ⟨rfl, rfl⟩
 ·exact bs_f (by simp; omega) k
theorem eqModel_same {h : Hp} {M M' : MSl} {m : ModelP} {R : Value → Hp → Prop} (hs : ModelS h M m) (ht : ModelS h M' m) (k : R (.bool true) h) : c_laws_eqModel #[modelV M, modelV M'] h R := by
 refine ACalls.drop (R_laws_eqModel ?_)
 unfold F_laws_eqModel
 have K0 := Kn.nil h
 (with_reducible apply Kn.al); (assumption); (intro b4 h1 K1 l1 hb4)
 (with_reducible apply Kn.al); (assumption); (intro b6 h2 K2 l2 hb6)
 have hs2 := hs.mono K2.le
 have ht2 := ht.mono K2.le
 repeat' (refine kr_ ?_)
 refine eqNodeS_same hs2.nodes ht2.nodes ⟨_, rfl, bs_f rfl ?_⟩
 repeat' (refine kr_ ?_)
 refine eqBindS_same hs2.inits ht2.inits ⟨_, rfl, bs_f rfl ?_⟩
 repeat' (refine kr_ ?_)
 refine eqBindS_same hs2.nexts ht2.nexts ⟨_, rfl, bs_f rfl ?_⟩
 repeat' (refine kr_ ?_)
 refine eqIntS_spec hs2.bads ht2.bads ⟨_, rfl, bs_f (by simp) ?_⟩
 repeat' (refine kr_ ?_)
 refine eqIntS_spec hs2.holds ht2.holds ⟨_, rfl, bs_f (by simp) ?_⟩
 exact ⟨_, K2.le, k⟩
theorem list9 {cs : List Value} (h : cs.length = 9) : ∃ a b c d e f g i j, cs = [a, b, c, d, e, f, g, i, j] := by
 match cs, h with
 | [a, b, c, d, e, f, g, i, j], _ => exact ⟨a, b, c, d, e, f, g, i, j, rfl⟩
theorem list2 {cs : List Value} (h : cs.length = 2) : ∃ a b, cs = [a, b] := by
 match cs, h with
 | [a, b], _ => exact ⟨a, b, rfl⟩
theorem Got.flat {P : Program} {W : World} {t e : TypeId} {v : Value} {α : Type} {f : α → List Value} {m : Nat} {p : α → Prop} (hf : ∀ x, (f x).length = m) (hpos : 0 < m) (ht : P.underlying t = some (.slice e)) (hsz : P.cellsOf e = m)
  (hg : ∀ ds, Got P W e ds → ∃ x, ds = f x ∧ p x) (g : Got P W t [v]) : ∃ (s : Sl) (l : List α), v = s.v ∧ s.n ≤ s.c ∧ SlC (hW W) s m (l.flatMap f) ∧ ∀ x ∈ l, p x := by
 obtain ⟨s, hs, hm, hlc, h⟩ := Got.slice ht hsz hpos g
 simp only [List.cons.injEq, and_true] at hs
 rcases h with h | ⟨b, o, ha, h⟩
 ·exact ⟨s, [], hs, hlc, ⟨hm, by simp [h], .inl h⟩, by simp⟩
 obtain ⟨xs, hl, hx⟩ := list_of (p := fun i (x : α) => (∀ (j : Nat) v, (f x)[j]? = some v → Hp.cell (hW W) b (o + i * m + j) = some v) ∧ p x) s.n fun i hi => by
  obtain ⟨ds, hd, hgd, hc⟩ := h i hi
  obtain ⟨x, rfl, hp⟩ := hg ds hgd
  exact ⟨x, hc, hp⟩
 refine ⟨s, xs, hs, hlc, ⟨hm, by rw [flat_len hf, hl], .inr ⟨b, o, ha, ?_⟩⟩, ?_⟩
 ·intro i v hv
  have hi : i < (xs.flatMap f).length := (List.getElem?_eq_some_iff.1 hv).1
  rw [flat_len hf] at hi
  have hq : i / m < xs.length := by rw [Nat.div_lt_iff_lt_mul hpos]; exact hi
  have hr : i % m < m := Nat.mod_lt _ hpos
  have he : i = i / m * m + i % m := by rw [Nat.mul_comm]; exact (Nat.div_add_mod _ _).symm
  rw [he, flat_get hf xs (i / m) xs[i / m] (i % m) (List.getElem?_eq_getElem hq) hr] at hv
  have := (hx (i / m) hq).1 _ _ hv
  rw [he, ← Nat.add_assoc]; exact this
 ·intro x hxm
  obtain ⟨i, hi, rfl⟩ := List.getElem_of_mem hxm
  exact (hx i hi).2
def tb (n : Nat) (T : Nat → Bool) : List Value := (List.range n).map fun i => .bool (T i)
theorem tb_len (n : Nat) (T : Nat → Bool) : (tb n T).length = n := by simp [tb]
theorem tb_get {n j : Nat} {T : Nat → Bool} (hj : j < n) : (tb n T)[j]? = some (.bool (T j)) := by simp [tb, hj]
theorem tb_ext {n : Nat} {T U : Nat → Bool} (h : ∀ j, j < n → T j = U j) : tb n T = tb n U := by
 refine List.map_congr_left fun j hj => ?_
 rw [h j (List.mem_range.1 hj)]
theorem tb_zero (n : Nat) : List.replicate n (.bool false) = tb n fun _ => false := by
 refine List.ext_getElem (by simp [tb]) fun i h1 h2 => ?_
 simp [tb]
theorem tb_set {n j : Nat} {T : Nat → Bool} {v : Bool} : (tb n T).set j (.bool v) = tb n fun i => if i = j then v else T i := by
 refine List.ext_getElem (by simp [tb]) fun i h1 h2 => ?_
 rw [List.getElem_set]
 simp only [tb, List.getElem_map, List.getElem_range]
 by_cases e : i = j
 ·rw [if_pos e, if_pos e.symm]
 ·rw [if_neg e, if_neg fun h => e h.symm]
theorem tb_all (n : Nat) (T : Nat → Bool) : tb n T = ((List.range n).map T).map Value.bool := by simp [tb]
theorem boolT_of {h : Hp} {b n z : Nat} {ro : Bool} {T U : Nat → Bool} (hn : n ≤ 9223372036854775807) (f : h b = some (.inl ⟨tb n T, z, ro⟩)) (e : ∀ j, j < n → T j = U j) : BoolT h (arr b n) n U := by
 refine ⟨by dsimp only; omega, by simp, .inr ⟨b, 0, rfl, ?_⟩⟩
 have := cellsAre_of f
 rwa [tb_ext e, tb_all] at this
theorem pow_n8 {σ : SysP} (ok : σ.Ok) : 2 ^ σ.n ≤ 256 := by
 have := Nat.pow_le_pow_right (n := 2) (by omega) ok.nle
 simpa using this
theorem pow_k5 {σ : SysP} (ok : σ.Ok) : 2 ^ σ.k ≤ 32 := by
 have := Nat.pow_le_pow_right (n := 2) (by omega) ok.kle
 simpa using this
theorem pow_nk13 {σ : SysP} (ok : σ.Ok) : 2 ^ (σ.n + σ.k) ≤ 8192 := by
 have h1 := ok.nle
 have h2 := ok.kle
 have := Nat.pow_le_pow_right (n := 2) (by omega) (show σ.n + σ.k ≤ 13 by omega)
 simpa using this
theorem at_spec {h : Hp} {b s i : Nat} {σ : SysP} {R : Value → Hp → Prop} (hs : SysS h b σ) (ok : σ.Ok) (h1 : s < 2 ^ σ.n) (h2 : i < 2 ^ σ.k) (k : R (I (σ.at_ s i : Nat)) h) :
  c_impl_system_at #[.pointer (some ⟨b, 0, none⟩), I s, I i] h R := by
 apply R_impl_system_at
 unfold F_impl_system_at
 obtain ⟨M, st, hold, bad, next, fx, _, _, _⟩ := hs
 have hn := pow_n8 ok
 have hk := pow_nk13 ok
 have hl := SysP.at_lt h1 h2
 have h8 := ok.nle
 unfold SysP.at_ at hl k
 refine ex_ptrA ?_
 (refine rdx_ ?_)
 rw [if_neg (by omega), shlW_nat (by omega) (by omega), orW_nat (by omega) (by omega)]
 refine i_leaf ?_ k
 rw [← Nat.shiftLeft_eq, ← Nat.shiftLeft_add_eq_or_of_lt h1, Nat.shiftLeft_eq]
theorem holding_spec {h : Hp} {b c : Nat} {σ : SysP} {R : Value → Hp → Prop} (hs : SysS h b σ) (hc : c < 2 ^ (σ.n + σ.k)) (k : R (.bool (σ.hold c)) h) :
  c_impl_system_holding #[.pointer (some ⟨b, 0, none⟩), I c] h R := by
 apply R_impl_system_holding
 unfold F_impl_system_holding
 obtain ⟨M, st, hold, bad, next, fx, hh, _, _⟩ := hs
 refine ex_ptrA ?_
 (refine rdx_ ?_)
 obtain ⟨b', o', ha, h1, h2⟩ := hh.get hc
 exact ⟨b', o', ha, by omega, h1, _, h2, k⟩
theorem ends_spec {h : Hp} {b c : Nat} {σ : SysP} {R : Value → Hp → Prop} (hs : SysS h b σ) (hc : c < 2 ^ (σ.n + σ.k)) (k : R (.bool (σ.ends c)) h) :
  c_impl_system_ends #[.pointer (some ⟨b, 0, none⟩), I c] h R := by
 apply R_impl_system_ends
 unfold F_impl_system_ends
 obtain ⟨M, st, hold, bad, next, fx, hh, hb, _⟩ := hs
 refine ex_ptrA ?_
 (refine rdx_ ?_)
 obtain ⟨b', o', ha, h1, h2⟩ := hh.get hc
 refine ⟨b', o', ha, by omega, h1, _, h2, ?_⟩
 unfold SysP.ends at k
 refine bsplit_of (fun e => ?_) (fun e => ?_)
 ·refine ex_ptrA ?_
  (refine rdx_ ?_)
  obtain ⟨b', o', ha, h1, h2⟩ := hb.get hc
  refine ⟨b', o', ha, by omega, h1, _, h2, b_leaf ?_ k⟩
  rw [e]; rfl
 ·rw [e] at k; exact k
def Asks2 (h : Hp) (fid : FuncId) (u w : Array Value) (σ : SysP) (f : Nat → Nat → Bool) : Prop :=
 ∀ s i : Nat, s < 2 ^ σ.n → i < 2 ^ σ.k → ∀ h' : Hp, h.le h' → ∀ R : Value → Hp → Prop, R (.bool (f s (σ.at_ s i))) h' → ACalls PR fid ((u ++ #[I s, I (σ.at_ s i : Nat)]) ++ w) h' R
theorem some_spec {h : Hp} {b : Nat} {σ : SysP} {fid : FuncId} {u w : Array Value} {f : Nat → Nat → Bool} {R : Value → Hp → Prop} (hs : SysS h b σ) (ok : σ.Ok) (hf : Asks2 h fid u w σ f)
  (k : ∀ t h', h.le h' → BoolT (h'.sub h) t (2 ^ σ.n) (σ.some_ f) → R (Sl.v t) h') : c_impl_system_some #[.pointer (some ⟨b, 0, none⟩), .func (.func fid) u w] h R := by
 apply R_impl_system_some
 unfold F_impl_system_some
 have hn := pow_n8 ok
 have hk := pow_k5 ok
 have h8 := ok.nle
 have h5 := ok.kle
 obtain ⟨M, st, hold, bad, next, fx, _⟩ := id hs
 have K0 := Kn.nil h
 refine ex_ptrA ?_
 (refine rdx_ ?_)
 rw [if_neg (by omega), shlW_one (by omega)]
 refine ⟨Int.natCast_nonneg _, Int.le_refl _, by omega, by omega, ?_⟩
 (with_reducible apply Kn.al); (assumption); (intro b10 h1 K1 l1 hb10)
 rw [Int.toNat_natCast, Nat.mul_one, zeroRow_one, tb_zero] at K1
 rw [Int.toNat_natCast]
 refine loop_up (2 ^ σ.n) (fun s vs h' => vs = [.pointer (some ⟨b, 0, none⟩), .func (.func fid) u w, (arr b10 (2 ^ σ.n)).v, I (2 ^ σ.n : Nat), I s] ∧
  ∃ T, Kn h h' [(b10, .inl ⟨tb (2 ^ σ.n) T, 2 ^ σ.n, false⟩)] ∧ (∀ j, j < s → T j = σ.some_ f j) ∧ ∀ j, s ≤ j → T j = false) ⟨rfl, _, K1, fun j hj => by omega, fun _ _ => rfl⟩ ?_
 clear K1 K0 l1 hb10 h1
 rintro s _ h1 next hs' ⟨rfl, T, K1, hT1, hT2⟩ hnx
 refine ⟨_, _, _, _, arr b10 _, _, _, rfl, ?_⟩
 by_cases hlt : s < 2 ^ σ.n
 rotate_left
 ·refine bs_f (by rw [decide_eq_false_iff_not]; omega) ?_
  exact k _ h1 K1.le (boolT_of (by omega) (by rw [sub_at (K1.new _ (.head _))]; exact K1.at (.head _)) fun j hj => hT1 j (by omega))
 refine bs_t (by rw [decide_eq_true_eq]; exact_mod_cast hlt) ?_
 refine ex_ptrA ?_
 (refine kr_ ?_)
 rw [if_neg (by omega), shlW_one (by omega)]
 refine loop_up (2 ^ σ.k) (fun i vs h' => vs = [.pointer (some ⟨b, 0, none⟩), .func (.func fid) u w, (arr b10 (2 ^ σ.n)).v, I s, I (2 ^ σ.n : Nat), I s, I (2 ^ σ.k : Nat), I i] ∧
  ∃ T, Kn h h' [(b10, .inl ⟨tb (2 ^ σ.n) T, 2 ^ σ.n, false⟩)] ∧ (∀ j, j < s → T j = σ.some_ f j) ∧ (∀ j, s < j → T j = false) ∧ T s = anyB i fun x => f s (σ.at_ s x))
  ⟨rfl, T, K1, hT1, fun j hj => hT2 j (by omega), by rw [hT2 s (Nat.le_refl _)]; rfl⟩ ?_
 clear K1 hT1 hT2 T h1
 rintro i _ h1 next2 hi ⟨rfl, T, K1, hT1, hT2, hT3⟩ hnx2
 refine ⟨_, _, _, _, arr b10 _, _, _, _, _, _, rfl, ?_⟩
 by_cases hli : i < 2 ^ σ.k
 rotate_left
 ·refine bs_f (by rw [decide_eq_false_iff_not]; omega) ?_
  have hie : i = 2 ^ σ.k := by omega
  rw [W_succ (by omega)]
  refine hnx hlt _ _ ⟨rfl, T, K1, fun j hj => ?_, fun j hj => hT2 j (by omega)⟩
  by_cases e : j = s
  ·rw [e, hT3, hie]; rfl
  ·exact hT1 j (by omega)
 refine bs_t (by rw [decide_eq_true_eq]; exact_mod_cast hli) ?_
 have upd : ∀ v, v = anyB (i + 1) (fun x => f s (σ.at_ s x)) → ∀ h', Kn h h' [(b10, .inl ⟨(tb (2 ^ σ.n) T).set s (.bool v), 2 ^ σ.n, false⟩)] →
   next2 [.pointer (some ⟨b, 0, none⟩), .func (.func fid) u w, (arr b10 (2 ^ σ.n)).v, I s, I (2 ^ σ.n : Nat), I s, I (2 ^ σ.k : Nat), I (W ((i : Int) + 1))] h' := by
  intro v hv h' K
  rw [W_succ (by omega)]
  rw [tb_set] at K
  exact hnx2 hli _ _ ⟨rfl, _, K, fun j hj => by rw [if_neg (by omega)]; exact hT1 j hj, fun j hj => by rw [if_neg (by omega)]; exact hT2 j hj, by rw [if_pos rfl]; exact hv⟩
 refine ⟨b10, 0, rfl, by omega, by dsimp only; omega, ?_⟩
 refine Kn.rd K1 (.head _) (x := T s) (by rw [Nat.zero_add, Nat.mul_one, Int.toNat_natCast]; exact tb_get hlt) ?_
 refine bsplit_of (fun e => ?_) (fun e => ?_)
 ·refine ⟨b10, 0, rfl, by omega, by dsimp only; omega, ?_⟩
  (((with_reducible apply Kn.wr); (assumption); ((focus ((repeat first | exact .head | apply Upd.tail); done)))))
  ·rw [tb_len]; omega
  intro h2 K2 _
  rw [lset_one, Nat.zero_add, Int.toNat_natCast, Nat.mul_one] at K2
  exact upd true (by rw [anyB_succ, ← hT3, e]; rfl) h2 K2
 ·refine at_spec (hs.mono K1.le) ok hlt hli ⟨_, rfl, ?_⟩
  refine hf s i hlt hli h1 K1.le _ ⟨_, rfl, ?_⟩
  refine ⟨b10, 0, rfl, by omega, by dsimp only; omega, ?_⟩
  (((with_reducible apply Kn.wr); (assumption); ((focus ((repeat first | exact .head | apply Upd.tail); done)))))
  ·rw [tb_len]; omega
  intro h2 K2 _
  rw [lset_one, Nat.zero_add, Int.toNat_natCast, Nat.mul_one] at K2
  exact upd _ (by rw [anyB_succ, ← hT3, e]; rfl) h2 K2
end Go.Lead
