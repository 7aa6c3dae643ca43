/- What the program's SatCore computes. -/
import Derived.Test.YthgleoodmgophaaC3
namespace Go.Lead
open Go
set_option linter.unusedSimpArgs false
set_option linter.unusedVariables false

def nints (ks : List Nat) : List Int := ks.map fun (k : Nat) => (k : Int)
theorem nints_filter (ks : List Nat) (i : Nat) : ((nints ks).filter fun x => !(x == (i : Int))) = nints (ks.filter fun x => !(x == i)) := by
  unfold nints
  rw [List.filter_map]
  congr 1
  apply List.filter_congr
  intro x _
  simp only [Function.comp]
  congr 1
  rw [Bool.eq_iff_iff]; simp only [beq_iff_eq]; omega

theorem impl_SatCore_spec {h : Hp} {s : Sl} {xss : List (List Int)} {v : Int} {R : Value → Hp → Prop} (hs : IntSS h s xss)
    (k : ∀ t h', h.le h' → Own (h'.sub h) t 1 ((satCore v xss).1.map I) → R (.tuple #[Sl.v t, .bool (satCore v xss).2]) h') : c_impl_SatCore #[.agg #[I v, s.v]] h R := by
  apply R_impl_SatCore
  unfold F_impl_SatCore
  intro b hb
  have l0 := le_row [I v, s.v] 2 hb
  simp only [vm, mm]
  refine joinP_of (fun J => J (!(CnfOkB v xss && decide (leastI (AllB xss) (2 ^ v.toNat) < 0))) (h.row b [I v, s.v] 2)) ?_ ?_
  rotate_left
  · intro J hJ
    refine impl_CnfOk_spec (hs.mono l0) ⟨_, rfl, bsplit_of (fun e => ?_) (fun e => ?_)⟩
    · have e' : CnfOkB v xss = false := by simpa using e
      rwa [e'] at hJ
    · have e' : CnfOkB v xss = true := by simpa using e
      obtain ⟨hv, hx, hcl⟩ := CnfOkB.iff.1 e'
      obtain ⟨m, rfl⟩ : ∃ m : Nat, v = m := ⟨v.toNat, by omega⟩
      rw [e', Bool.true_and] at hJ
      simp only [vm, mm]
      refine least_spec (hs.mono l0) (by omega) hcl ⟨_, rfl, ?_⟩
      have : decide (leastI (AllB xss) (2 ^ m) ≥ 0) = !decide (leastI (AllB xss) (2 ^ m) < 0) := by
        rw [Bool.eq_iff_iff]; simp
      rw [this]; exact hJ
  refine bsplit_of (fun e => ?_) (fun e => ?_)
  · have e' : (CnfOkB v xss && decide (leastI (AllB xss) (2 ^ v.toNat) < 0)) = false := by rw [← Bool.not_eq_true']; exact e
    rw [satCore, e'] at k
    exact k ⟨none, 0, 0⟩ _ l0 (own_nil _ _)
  have e' : (CnfOkB v xss && decide (leastI (AllB xss) (2 ^ v.toNat) < 0)) = true := by simpa using e
  rw [satCore, e', if_pos rfl] at k
  obtain ⟨hv, hx, hcl⟩ := CnfOkB.iff.1 (Bool.and_eq_true_iff.1 e').1
  obtain ⟨m, rfl⟩ : ∃ m : Nat, v = m := ⟨v.toNat, by omega⟩
  simp only [Int.toNat_natCast] at k
  simp only [vm, mm]
  have f0 := row_self h b [I (m : Nat), s.v] 2
  -- all places
  refine loop_up xss.length (fun i vs h' => ∃ o, vs = [.pointer (some ⟨b, 0, none⟩), Sl.v o, I xss.length, I i] ∧ Grown (h.row b [I (m : Nat), s.v] 2) h' o (nints (List.range i)))
    ⟨⟨none, 0, 0⟩, by rw [hs.len]; rfl, Grown.start _⟩ ?_
  rintro i _ h1 next hi ⟨o, rfl, hgo⟩ hn
  refine ⟨_, _, _, _, _, rfl, ?_⟩
  by_cases hlt : i < xss.length
  · refine bs_t (by simp [hlt]) ?_
    simp only [vm, mm, W_succ (n := i) (by omega)]
    refine fun b2 hb2 => hgo.app (by simp [nints]; omega) hb2 fun o' h2 hg2 => hn hlt _ _ ⟨o', rfl, ?_⟩
    have : nints (List.range (i + 1)) = nints (List.range i) ++ [(i : Int)] := by simp [nints, List.range_succ]
    rw [this]; exact hg2
  have hin : i = xss.length := by omega
  subst hin
  refine bs_f (by simp) ?_
  simp only [vm, mm, cell_of (hgo.keep _ _ f0)]
  clear hn next
  -- each in turn
  refine loop_up xss.length (fun i vs h' => ∃ o, vs = [.pointer (some ⟨b, 0, none⟩), Sl.v o, I xss.length, I i] ∧ (h.row b [I (m : Nat), s.v] 2).le h' ∧
      IntS h' o (nints (keptP (badSel m xss) xss.length i ++ (List.range xss.length).drop i)))
    ⟨o, by rw [hs.len]; rfl, hgo.keep, by simpa [keptP] using hgo.buf.ints (by simp [nints]; omega)⟩ ?_
  clear hgo o h1
  rintro i _ h1 next hi ⟨o, rfl, l1, ho⟩ hn
  refine ⟨_, _, _, _, _, rfl, ?_⟩
  have hkl := keptP_len (badSel m xss) xss.length i
  have hol : (nints (keptP (badSel m xss) xss.length i ++ (List.range xss.length).drop i)).length ≤ 1048576 := by simp [nints]; omega
  by_cases hlt2 : i < xss.length
  · refine bs_t (by simp [hlt2]) ?_
    intro b2 hb2
    have l2 := le_row [I (i : Nat)] 1 hb2
    refine ⟨by omega, Clone_int_spec (ho.mono l2) hol fun t h3 l3 ht => ⟨_, rfl, ?_⟩⟩
    have htb := ht.mono (sub_le _ _)
    have f3 := l3 _ _ (row_self h1 b2 [I (i : Nat)] 1)
    have htn : t.n = (nints (keptP (badSel m xss) xss.length i ++ (List.range xss.length).drop i)).length := by have := ht.1; rw [List.length_map] at this; omega
    have hown := ht.own (by omega)
    have h13 : h1.le (h3.wo t.used) := le_wo (Hp.le_trans l2 l3) (fun c hc => none_of_le l2 (sub_some_none (hown.used c hc)))
    have hf3 : (h3.wo t.used) b2 = some (.inl ⟨[I (i : Nat)], 1, false⟩) := by
      rw [wo_at (fun hc => by have := sub_some_none (hown.used b2 hc); rw [row_self] at this; cases this)]; exact f3
    refine DeleteFunc_int_spec (fun x => x == (i : Int)) (hown.mono (sub_le _ _)) ht.2.1 hol (fun x hx h' l R k => ?_) fun u h4 l4 hu => ⟨_, rfl, ?_⟩
    · refine R_impl_SatCore_d1 (b2 := b2) (o3 := 0) ?_
      unfold F_impl_SatCore_d1
      simp only [vm, mm, cell_of (l _ _ hf3)]
      exact k
    rw [nints_filter, keptP_filter _ hlt2] at hu
    have l14 : h1.le h4 := Hp.le_trans h13 l4
    have l04 := Hp.le_trans l1 l14
    have f4 := l04 _ _ f0
    have hkm : ∀ x ∈ keptP (badSel m xss) xss.length i ++ (List.range xss.length).drop (i + 1), x < xss.length := by
      intro x hxm
      rcases List.mem_append.1 hxm with h | h
      · have := keptP_lt (badSel m xss) xss.length i x h; omega
      · exact (mem_range_drop.1 h).2
    have hkl2 : (keptP (badSel m xss) xss.length i ++ (List.range xss.length).drop (i + 1)).length ≤ 120 := by simp; omega
    have hbad : badSel m xss (keptP (badSel m xss) xss.length i ++ (List.range xss.length).drop (i + 1)) =
        decide (leastI (AllB (sel xss (keptP (badSel m xss) xss.length i ++ (List.range xss.length).drop (i + 1)))) (2 ^ m) < 0) := rfl
    have hkeep : keptP (badSel m xss) xss.length (i + 1) = if badSel m xss (keptP (badSel m xss) xss.length i ++ (List.range xss.length).drop (i + 1)) then keptP (badSel m xss) xss.length i else keptP (badSel m xss) xss.length i ++ [i] := rfl
    generalize hks : keptP (badSel m xss) xss.length i ++ (List.range xss.length).drop (i + 1) = ks at *
    have hun : u.n = ks.length := by rw [hu.len]; simp [nints]
    refine loop_up ks.length (fun j vs h' => ∃ q, vs = [.pointer (some ⟨b, 0, none⟩), Sl.v o, Sl.v u, Sl.v q, I xss.length, I i, Sl.v u, I ks.length, I j] ∧ GrownSS h4 h' q (sel xss (ks.take j)))
      ⟨⟨none, 0, 0⟩, by rw [hun]; rfl, GrownSS.start _⟩ ?_
    rintro j _ h5 next5 hj ⟨q, rfl, hgq⟩ hn5
    refine ⟨_, _, _, _, _, _, _, _, _, _, rfl, ?_⟩
    by_cases hjl : j < ks.length
    · have hsl : (sel xss (ks.take j)).length ≤ 1048576 := by simp [sel]; omega
      obtain ⟨bu, ou, hua, huc⟩ := (hu.mono hgq.keep).at (i := j) (by simp [nints]; exact hjl)
      have hkj : ks[j] < xss.length := hkm _ (List.getElem_mem hjl)
      obtain ⟨bc, oc, tc, hca, hcc, htc⟩ := (hs.mono (Hp.le_trans l0 l04)).at hkj
      have hcc5 := hgq.keep.cell hcc
      have hnj : (nints ks)[j]'(by simp [nints]; exact hjl) = (ks[j] : Int) := by simp [nints]
      rw [hnj] at huc
      refine bs_t (by simp [hjl]) ?_
      simp only [vm, mm, hun, hua, huc, cell_of (hgq.keep _ _ f4), hs.len, hca, hcc5, W_succ (n := j) (by omega)]
      refine ⟨by omega, by omega, fun b6 hb6 => hgq.app hsl htc hb6 fun q' h6 hg6 => hn5 hjl _ _ ⟨q', rfl, ?_⟩⟩
      have : sel xss (ks.take (j + 1)) = sel xss (ks.take j) ++ [xss[ks[j]]] := by
        rw [List.take_succ_eq_append_getElem hjl, sel, List.map_append]
        simp [sel, hkj]
      rw [this]; exact hg6
    have hjx : j = ks.length := by omega
    subst hjx
    rw [List.take_length] at hgq
    refine bs_f (by simp) ?_
    simp only [vm, mm, cell_of (hgq.keep _ _ f4), W_succ (n := i) (show i < 9223372036854775807 by omega)]
    refine least_spec (hgq.ints (by simp [sel]; omega)) (by omega) (fun l hl => ?_) ⟨_, rfl, bsplit_of (fun e2 => ?_) (fun e2 => ?_)⟩
    · obtain ⟨x, hx1, rfl⟩ := List.mem_map.1 hl
      have := hkm x hx1
      rw [show xss.getD x [] = xss[x] by simp [List.getD, this]]
      exact hcl _ (List.getElem_mem this)
    · refine hn hlt2 _ _ ⟨u, rfl, Hp.le_trans l04 hgq.keep, ?_⟩
      rw [hkeep, hbad, e2, if_pos rfl, hks]
      exact hu.mono hgq.keep
    · refine hn hlt2 _ _ ⟨o, rfl, Hp.le_trans l04 hgq.keep, ?_⟩
      rw [hkeep, hbad, e2, if_neg (by simp), List.append_assoc, List.singleton_append, ← range_drop_cons hlt2]
      exact ho.mono (Hp.le_trans l14 hgq.keep)
  · have : i = xss.length := by omega
    subst this
    refine bs_f (by simp) ?_
    have : (List.range xss.length).drop xss.length = [] := by simp
    rw [this, List.append_nil] at ho
    refine cloneInts_spec ho (by simp [nints]; omega) fun t h2 l2 ht => ⟨_, rfl, k t h2 (Hp.le_trans l0 (Hp.le_trans l1 l2)) ?_⟩
    have htn := ht.1
    simp [nints] at htn
    exact (ht.own (by omega)).mono (sub_anti _ (Hp.le_trans l0 l1))

end Go.Lead
