/- The walk of the law of proofs with more ahead of them. -/
import Derived.Test.YthgleoodmgophaaQ5
namespace Go.Lead
open Go
set_option linter.unusedSimpArgs false
set_option linter.unusedVariables false

theorem FnProofMore_spec {h : Hp} {s s2 : Sl} {bs bs2 : List Nat} {R : Value → Hp → Prop} (hcap : s.n ≤ s.c) (hs : ByteS h s bs) (hcap2 : s2.n ≤ s2.c) (hs2 : ByteS h s2 bs2)
    (k : R (.bool true) h) : c_laws_FnProofMore #[s.v, s2.v] h R := by
  refine ACalls.drop (R_laws_FnProofMore ?_)
  unfold F_laws_FnProofMore
  refine joinP_of (fun J => J true ∧ J false) ?_ (fun J hJ => bsplit_of (fun _ => hJ.1) (fun _ => by cases hd : decide ((s2.n : Int) > 1048576) <;> simp_all))
  refine ⟨bs_t rfl ⟨_, Hp.le_refl _, k⟩, bs_f rfl ?_⟩
  refine GoodCnf_spec hcap hs fun v t cls h1 hok l1 hss => ⟨_, _, rfl, ?_⟩
  intro b2 hb2
  have l2 := le_row [I v, t.v] 2 hb2
  have f2 := row_self h1 b2 [I v, t.v] 2
  simp only [vm, mm]
  generalize hh2 : h1.row b2 [I v, t.v] 2 = h2 at *
  have hsc : IntSS h2 t cls := hss.mono l2
  obtain ⟨hv, hx60, hcl⟩ := CnfOkB.iff.1 hok
  have hcn := hsc.len
  refine ⟨by omega, impl_ProofOf_spec hsc fun p0 pts h3 l3 op _ hpcap => ⟨_, _, rfl, ?_⟩⟩
  have f3 := l3 _ _ f2
  simp only [vm, mm, cell_of f3]
  refine spec_ProofOf_spec (hsc.mono l3) fun q0 h4 l4 oq => ⟨_, _, rfl, ?_⟩
  have f4 := l4 _ _ f3
  have hsc4 := hsc.mono (Hp.le_trans l3 l4)
  have hp4 : IntSS h4 p0 (proofOf v cls).1 := (op.ints.mono (sub_le _ _)).mono l4
  have l04 := Hp.le_trans l1 (Hp.le_trans l2 (Hp.le_trans l3 l4))
  have hpn : p0.n = q0.n := by rw [hp4.len, oq.len]
  have hcode := @proofOf_code v cls
  have hdrop := @proofOf_drop v cls
  have hnil : (proofOf v cls).2 = false → (proofOf v cls).1 = [] := by
    unfold proofOf; split
    · intro h; cases h
    · intro _; rfl
  have hplen := (proofOf_len v cls).1
  generalize (proofOf v cls).2 = ok at *
  generalize (proofOf v cls).1 = P at *
  have hpl := hp4.len
  refine joinP_of (fun J => J false) ?_ ?_
  rotate_left
  · intro J hJ
    refine bs_f (by simp) ?_
    rw [hpn]; simpa using hJ
  refine bs_f rfl (bsplit_of (fun eo => ⟨_, l04, ?_⟩) (fun eo => ?_))
  · have : P = [] := hnil (by simpa using eo)
    have h0 : ((p0.n : Int) == 0) = true := by rw [hpl, this]; rfl
    rw [h0]; exact k
  have eo' : ok = true := by simpa using eo
  have hc0 := hcode eo'
  have hd3 := hdrop eo'
  obtain ⟨c1, c2, c3⟩ := proofCode_zero.1 hc0
  have hP0 : P.length ≠ 0 := fun h => by have := List.eq_nil_of_length_eq_zero h; rw [this] at c3; simp at c3
  -- the longer clauses
  refine joinP_of (fun J => ∀ bw t1 y g' h', h4.le g' → GrownD g' h' bw v t1 [[y]] → J bw 0 h') ?_ ?_
  · intro bw t1 y g' h8 lg' gre
    refine loop_up cls.length (fun j vs h' => ∃ t2, vs = [.pointer (some ⟨b2, 0, none⟩), p0.v, .pointer (some ⟨bw, 0, none⟩), I j] ∧ GrownD g' h' bw v t2 ([y] :: cls.take j)) ⟨t1, rfl, by simpa using gre⟩ ?_
    clear gre t1 h8
    rintro j _ h9 next2 hj ⟨t2, rfl, gr9⟩ hn2
    refine ⟨_, _, _, _, _, _, rfl, ?_⟩
    have l49 := Hp.le_trans lg' gr9.keep
    have f9 := l49 _ _ f4
    have r9 := gr9.row
    simp only [vm, mm, cell_of f9]
    by_cases hjl : j < cls.length
    · refine bs_t (by simp [hcn, hjl]) ?_
      obtain ⟨bc, oc, tc, hca, hcc, htc⟩ := (hsc4.mono lg').at hjl
      have hcc9 := gr9.keep.cell hcc
      simp only [vm, mm, cell_of r9, cell_of f9, hcn, hca, hcc9, W_succ (n := j) (by omega)]
      refine ⟨by omega, ?_⟩
      intro b10 hb10
      refine ⟨by rw [row_ne _ _ (fresh_ne hb10 r9)], ?_⟩
      refine gr9.app (by simp; omega) htc hb10 fun t3 h11 f11 _ gr11 => ?_
      simp only [vm, mm, f11]
      refine ⟨by omega, hn2 hjl _ _ ⟨t3, rfl, ?_⟩⟩
      rw [List.take_succ_eq_append_getElem hjl]; exact gr11
    have : j = cls.length := by omega
    subst this
    rw [List.take_length] at gr9
    refine bs_f (by simp [hcn]) ?_
    have hsE := (gr9.intss (by simp; omega)).mono (off_le _ _)
    have hp9 := hp4.mono l49
    have hsc9 := hsc4.mono l49
    have l09 := Hp.le_trans l04 l49
    refine joinP_of (fun J => J false h9) ?_ ?_
    rotate_left
    · intro J hJ
      simp only [vm, mm, cell_of r9]
      refine spec_CnfOk_spec hsE ⟨_, rfl, bsplit_of (fun e => ?_) (fun _ => hJ)⟩
      simp only [vm, mm, cell_of r9]
      refine impl_ProofCode_spec hsE hp9 ⟨_, rfl, ?_⟩
      rw [proofCode_more hc0 e (List.subset_cons_self _ _)]
      exact hJ
    refine bs_f rfl ?_
    simp only [vm, mm, cell_of f9]
    refine impl_ProofCode_spec hsc9 hp9 ⟨_, rfl, ?_⟩
    rw [hc0]
    refine bs_t rfl ?_
    obtain ⟨b, o, u, ha, _, _⟩ := lastCells hp9 hP0
    have w : W ((p0.n : Int) - 1) = ((P.length - 1 : Nat) : Int) := by rw [hpl, W_id (by omega) (by omega)]; omega
    have hd9 := fun c => IntSS.dropLast (c := c) hp9 ha
    have e0' : (if p0.c = (Int.ofNat 0).toNat then o else o + (Int.ofNat 0).toNat) = o := by split <;> simp
    have sl : Value.slice (some ⟨b, if p0.c = (Int.ofNat 0).toNat then o else o + (Int.ofNat 0).toNat, none⟩) ((W ((p0.n : Int) - 1)).toNat - (Int.ofNat 0).toNat) (p0.c - (Int.ofNat 0).toNat) = Sl.v ⟨some ⟨b, o, none⟩, P.length - 1, p0.c⟩ := by
      rw [w, e0']; simp [Sl.v]
    have q0 : (0 : Int) ≤ Int.ofNat 0 := by simp
    have q1 : Int.ofNat 0 ≤ W ((p0.n : Int) - 1) := by rw [w]; show (0 : Int) ≤ _; omega
    have q2 : W ((p0.n : Int) - 1) ≤ (p0.c : Int) := by rw [w]; omega
    have c0 : Hp.cell h9 b2 0 = some (I v) := by rw [cell_of f9]; rfl
    have c1 : Hp.cell h9 b2 1 = some (Sl.v t) := by rw [cell_of f9]; rfl
    refine ⟨q0, q1, q2, .inr ⟨b, o, ha, q0, q1, q2, .inr ⟨b, o, ha, v, c0, t, c1, v, c0, t, c1, ?_⟩⟩⟩
    rw [sl]
    refine impl_ProofCode_spec hsc9 (hd9 _) ⟨_, rfl, rfl, ?_⟩
    refine spec_ProofCode_spec hsc9 (hd9 _) ⟨_, rfl, bs_t (by simp) ?_⟩
    refine ⟨q0, q1, q2, .inr ⟨b, o, ha, v, c0, t, c1, ?_⟩⟩
    rw [sl]
    refine impl_ProofCode_spec hsc9 (hd9 _) ⟨_, rfl, _, l09, ?_⟩
    rw [hd3]; exact k
  · intro J hJ
    simp only [vm, mm, cell_of f4]
    have e2 : ∀ {b}, h4 b = none → b2 ≠ b := fun hb => fresh_ne hb f4
    have hv0 : ¬ v = 0 := by omega
    refine ⟨?_, ?_⟩
    · refine ldByte_spec (i := 0) (hs2.mono l04) (by omega) fun x hx => ⟨_, rfl, ?_⟩
      simp only [if_neg hv0, true_and]
      generalize W (1 + Int.tmod (x : Int) v) = y
      refine ⟨?_, ?_⟩
      · intro ba hba
        refine ⟨row_ne _ _ (e2 hba), ?_, ?_⟩
        · rintro bb ⟨nba, hbb⟩
          refine ⟨by rw [row_ne _ _ (e2 hbb), row_ne _ _ (e2 hba)], ?_⟩
          rintro bc ⟨ncb, nca, hbc⟩
          refine ⟨by rw [row_ne _ _ (e2 hbc), row_ne _ _ (e2 hbb), row_ne _ _ (e2 hba)], by rw [row_ne _ _ (e2 hbc), row_ne _ _ (e2 hbb), row_ne _ _ (e2 hba)], by omega, ?_⟩
          refine hJ bc _ _ _ _ (le_row [I y] 1 hba) (GrownD.start1 hba hbb hbc (Ne.symm nba) (Ne.symm nca) (Ne.symm ncb) ?_ ?_ ?_ (row_self ..))
          · exact le_row_of _ _ hbc (le_row_of _ _ hbb (le_row _ _ hba))
          · rw [row_ne _ _ (Ne.symm nca), row_ne _ _ (Ne.symm nba), row_self]
          · rw [row_ne _ _ (Ne.symm ncb), row_self]
        · rintro bb ⟨nba, hbb⟩
          refine ⟨by rw [row_ne _ _ (e2 hbb), row_ne _ _ (e2 hba)], by rw [row_ne _ _ (e2 hbb), row_ne _ _ (e2 hba)], ?_⟩
          rintro bc ⟨ncb, nca, hbc⟩
          refine ⟨by rw [row_ne _ _ (e2 hbc), row_ne _ _ (e2 hbb), row_ne _ _ (e2 hba)], _, _, by rw [row_ne _ _ (Ne.symm ncb), row_self], by simp, ?_⟩
          refine hJ bb _ _ _ _ (le_row [I y] 1 hba) (GrownD.start1 hba hbc hbb (Ne.symm nca) (Ne.symm nba) ncb ?_ ?_ ?_ (row_self ..))
          · exact le_row_of _ _ hbb (le_row_of _ _ hbc (le_row_of _ _ hbb (le_row _ _ hba)))
          · rw [row_ne _ _ (Ne.symm nba), row_ne _ _ (Ne.symm nca), row_ne _ _ (Ne.symm nba), row_self]
          · rw [row_ne _ _ ncb, row_self]
      · intro ba hba
        refine ⟨row_ne _ _ (e2 hba), row_ne _ _ (e2 hba), ?_⟩
        rintro bb ⟨nba, hbb⟩
        refine ⟨by rw [row_ne _ _ (e2 hbb), row_ne _ _ (e2 hba)], ?_⟩
        rintro bc ⟨ncb, nca, hbc⟩
        refine ⟨by rw [row_ne _ _ (e2 hbc), row_ne _ _ (e2 hbb), row_ne _ _ (e2 hba)], _, _, by rw [row_ne _ _ (Ne.symm nca), row_ne _ _ (Ne.symm nba), row_self], by simp, ?_⟩
        refine hJ ba _ _ _ _ (le_row [I y] 1 hbb) (GrownD.start1 hbb hbc hba (Ne.symm ncb) nba nca ?_ ?_ ?_ (row_self ..))
        · exact le_row_of _ _ hba (le_row_of _ _ hbc (le_row_of _ _ hbb (le_row _ _ hba)))
        · rw [row_ne _ _ nba, row_ne _ _ (Ne.symm ncb), row_self]
        · rw [row_ne _ _ nca, row_self]
    · intro ba hba
      have e2a := row_ne (h := h4) [I 0, .slice none 0 0] 2 (e2 hba)
      refine ⟨e2a, e2a, ?_⟩
      refine ldByte_spec (i := 0) ((hs2.mono l04).mono (le_row _ _ hba)) (by omega) fun x hx => ⟨_, rfl, e2a, e2a, ?_⟩
      rw [if_neg hv0]
      generalize W (1 + Int.tmod (x : Int) v) = y
      intro bb hbb
      simp only [vm, mm] at hbb
      obtain ⟨nba, hbb⟩ := hbb
      refine ⟨by rw [row_ne _ _ (e2 hbb), row_ne _ _ (e2 hba)], ?_⟩
      rintro bc hbc
      simp only [vm, mm] at hbc
      obtain ⟨ncb, nca, hbc⟩ := hbc
      refine ⟨by rw [row_ne _ _ (e2 hbc), row_ne _ _ (e2 hbb), row_ne _ _ (e2 hba)], _, _, by rw [row_ne _ _ (Ne.symm nca), row_ne _ _ (Ne.symm nba), row_self], by simp, ?_⟩
      refine hJ ba _ _ _ _ (le_row [I y] 1 hbb) (GrownD.start1 hbb hbc hba (Ne.symm ncb) nba nca ?_ ?_ ?_ (row_self ..))
      · exact le_row_of _ _ hba (le_row_of _ _ hbc (le_row_of _ _ hbb (le_row _ _ hba)))
      · rw [row_ne _ _ nba, row_ne _ _ (Ne.symm ncb), row_self]
      · rw [row_ne _ _ nca, row_self]

end Go.Lead
