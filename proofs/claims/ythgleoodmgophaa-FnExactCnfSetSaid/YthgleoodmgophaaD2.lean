/- What both sides' sets of clauses compute, and the walk of the law. -/
import Derived.Test.YthgleoodmgophaaD1
namespace Go.Lead
open Go
set_option linter.unusedSimpArgs false
set_option linter.unusedVariables false

theorem l7Of_spec {h : Hp} {t : Sl} {n : Nat} {T : Nat → Bool} {R : Value → Hp → Prop} (hn : n ≤ 13) (ht : BoolT h t (2 ^ n) T)
    (k : ∀ s h', h.le h' → Own (h'.sub h) s 3 (ndCells (toldP n T).ns) → R (.tuple #[.agg #[I (toldP n T).v, Sl.v s, I (toldP n T).r], .bool (toldP n T).ok]) h') : c_spec_l7Of #[I n, t.v] h R := by
  apply R_spec_l7Of
  unfold F_spec_l7Of
  intro b4 hb4
  simp only [vm, mm]
  rintro b7 ⟨n74, hb7⟩
  have n47 := n74.symm
  have l4 := le_row [I 0, .slice none 0 0, I 0] 3 hb4
  have hg7 : (h.row b4 [I 0, .slice none 0 0, I 0] 3) b7 = none := by rw [row_none]; exact ⟨n74, hb7⟩
  have l7 := le_row [I n, t.v, .slice none 0 0] 3 hg7
  have h2 : 2 ^ n ≤ 8192 := by
    have := Nat.pow_le_pow_right (n := 2) (by omega) hn
    simpa using this
  have hml := mkD_len n T 0 []
  simp only [List.length_nil] at hml
  have hT : (fun i => T (0 + i * 2 ^ 0)) = T := by funext i; congr 1; omega
  refine make_spec (K := b7) (vars := n) (T := T) hn n 0 0 _ ⟨none, 0, 0⟩ [] (h.row b4 [I 0, .slice none 0 0, I 0] 3) _ ⟨row_self .., buf_nil _ _, fun a ha => by cases ha⟩ l7 hg7 (fun a ha => by cases ha) (ht.mono l4) (by omega) (by omega) (by simp; omega) ?_
  intro s' h' inv lg gs
  rw [hT] at inv ⊢
  have f4 := lg _ _ (row_self ..)
  have hsn := inv.len
  refine ⟨_, rfl, ?_⟩
  simp only [vm, mm, cell_of inv.row, f4, hsn]
  have hto : toldP n T = if 600 < (mkD n T 0 []).2.length then noBd else ⟨n, (mkD n T 0 []).2, (mkD n T 0 []).1, true⟩ := by
    unfold toldP toldD
    rw [if_pos (by omega), Int.toNat_natCast]
    split
    · rename_i h; split at h
      · rename_i h'; rw [if_pos h']
      · cases h
    · rename_i r h; split at h
      · cases h
      · rename_i h'; cases h; rw [if_neg h']
  rw [hto] at k
  refine bsplit_of (fun e => ?_) (fun e => ?_)
  · have e' : 600 < (mkD n T 0 []).2.length := by simp at e; omega
    rw [if_pos e'] at k
    exact ⟨by omega, k ⟨none, 0, 0⟩ _ (le_row_of _ _ hb4 (Hp.le_trans l4 lg)) (own_nil _ _)⟩
  · have e' : ¬ 600 < (mkD n T 0 []).2.length := by simp at e; omega
    rw [if_neg e'] at k
    refine ⟨by omega, k s' _ (le_row_of _ _ hb4 (Hp.le_trans l4 lg)) (Buf.own ⟨inv.buf.1, inv.buf.2.1, inv.buf.2.2.imp id ?_⟩ (by omega))⟩
    rintro ⟨c, hc, hcb⟩
    have hgc := gs _ hc
    rw [row_none] at hgc
    exact ⟨c, hc, by rw [sub_at hgc.2, row_ne _ _ hgc.1]; exact hcb⟩

/-- What both sides' sets of clauses come to. -/
def cnfSet (v : Int) (cls : List (List Int)) : Bd := if CnfOkB v cls then toldP v (AllB cls) else noBd
theorem toldP_len (v : Int) (f : Nat → Bool) : (toldP v f).ns.length ≤ 600 := by
  unfold toldP toldD
  split
  · split
    · simp [noBd]
    · rename_i r h
      split at h
      · cases h
      · cases h; simp only; omega
  · simp [noBd]
theorem cnfSet_len (v : Int) (cls : List (List Int)) : (cnfSet v cls).ns.length ≤ 600 := by
  unfold cnfSet; split
  · exact toldP_len _ _
  · simp [noBd]

theorem spec_CnfSet_spec {h : Hp} {s : Sl} {cls : List (List Int)} {v : Int} {R : Value → Hp → Prop} (hs : IntSS h s cls)
    (k : ∀ t h', h.le h' → Own (h'.sub h) t 3 (ndCells (cnfSet v cls).ns) → R (.tuple #[.agg #[I (cnfSet v cls).v, Sl.v t, I (cnfSet v cls).r], .bool (cnfSet v cls).ok]) h') : c_spec_CnfSet #[.agg #[I v, s.v]] h R := by
  apply R_spec_CnfSet
  unfold F_spec_CnfSet
  intro b4 hb4
  simp only [vm, mm]
  rintro b6 ⟨n64, hb6⟩
  have n46 := n64.symm
  have l0 := le_row_of [I 0, .slice none 0 0, I 0] 3 hb6 (le_row [I v, s.v] 2 hb4)
  simp only [vm, mm, n46, n64, ne_eq, not_false_eq_true]
  refine spec_CnfOk_spec (hs.mono l0) ⟨_, rfl, bsplit_of (fun e => ?_) (fun e => ?_)⟩
  · have e' : CnfOkB v cls = false := by simpa using e
    rw [cnfSet, e', if_neg (by simp)] at k
    simp only [vm, mm]
    exact ⟨by omega, k ⟨none, 0, 0⟩ _ (le_row_of _ _ hb6 (le_row [I v, s.v] 2 hb4)) (own_nil _ _)⟩
  have e' : CnfOkB v cls = true := by simpa using e
  obtain ⟨hv, hx, hcl⟩ := CnfOkB.iff.1 e'
  rw [cnfSet, e', if_pos rfl] at k
  obtain ⟨m, rfl⟩ : ∃ m : Nat, v = m := ⟨v.toNat, by omega⟩
  have h2 : 2 ^ m ≤ 1024 := by
    have := Nat.pow_le_pow_right (n := 2) (by omega) (show m ≤ 10 by omega)
    simpa using this
  simp only [vm, mm, n46, n64, ne_eq, not_false_eq_true]
  rw [Wu_nat (by omega), if_neg (by omega), shlW_one (by omega)]
  simp only [vm, zeroRow_one]
  refine ⟨by omega, by omega, by omega, ?_⟩
  have f4 : ((h.row b4 [I (m : Nat), s.v] 2).row b6 [I 0, .slice none 0 0, I 0] 3) b4 = some (.inl ⟨[I (m : Nat), s.v], 2, false⟩) := by rw [row_ne _ _ n46, row_self]
  have f6 := row_self (h.row b4 [I (m : Nat), s.v] 2) b6 [I 0, .slice none 0 0, I 0] 3
  rintro b9 hb9'
  have hb9 : ((h.row b4 [I (m : Nat), s.v] 2).row b6 [I 0, .slice none 0 0, I 0] 3) b9 = none := by
    rw [row_none, row_none]; simpa [and_assoc] using hb9'
  clear hb9'
  generalize hH : (h.row b4 [I (m : Nat), s.v] 2).row b6 [I 0, .slice none 0 0, I 0] 3 = H at *
  have n49 := fresh_ne hb9 f4
  have n69 := fresh_ne hb9 f6
  refine loop_up (2 ^ m) (fun i vs h' => vs = [.pointer (some ⟨b4, 0, none⟩), .pointer (some ⟨b6, 0, none⟩), Sl.v ⟨some ⟨b9, 0, none⟩, 2 ^ m, 2 ^ m⟩, I i] ∧ H.le (h'.off b9) ∧
    ∃ cs, h' b9 = some (.inl ⟨cs, 2 ^ m, false⟩) ∧ cs.length = 2 ^ m ∧ cs.take i = (((List.range (2 ^ m)).map (AllB cls)).map Value.bool).take i)
    ⟨rfl, by rw [off_row, off_none hb9]; exact Hp.le_refl _, _, row_self .., by simp, by simp⟩ ?_
  rintro i _ h1 next hi ⟨rfl, l1, cs, hc9, hcl9, hp⟩ hn
  refine ⟨_, _, _, _, _, _, rfl, ?_⟩
  have l1' : H.le h1 := Hp.le_trans l1 (off_le _ _)
  have f41 := l1' _ _ f4
  have f61 := l1' _ _ f6
  by_cases hlt : i < 2 ^ m
  · refine bs_t (by simpa using by exact_mod_cast hlt) ?_
    simp only [vm, mm, cell_of f41]
    refine l10Every_spec (hs.mono (Hp.le_trans l0 l1')) (by omega) fun t h2 l2 ht => ⟨_, rfl, l2 _ _ f41 |>.trans f41.symm, ?_⟩
    refine l10All_spec (hs.mono (Hp.le_trans l0 (Hp.le_trans l1' l2))) (ht.mono (sub_le _ _)) (by simp) (by omega) hcl ⟨_, rfl, ?_⟩
    rw [allW_true]
    have f92 := l2 _ _ hc9
    simp only [vm, mm, f92, W_succ (n := i) (by omega)]
    refine ⟨by omega, by omega, hn hlt _ _ ⟨rfl, ?_, _, row_self .., by simpa using hcl9, ?_⟩⟩
    · rw [off_row]; exact Hp.le_trans l1 (off_mono _ l2)
    · have hti : i < (((List.range (2 ^ m)).map (AllB cls)).map Value.bool).length := by simpa using hlt
      rw [take_set _ (by omega), hp, List.take_succ_eq_append_getElem hti]
      simp
  · have : i = 2 ^ m := by omega
    subst this
    have hlm : (((List.range (2 ^ m)).map (AllB cls)).map Value.bool).length = 2 ^ m := by simp
    rw [List.take_of_length_le (by omega), List.take_of_length_le (by omega)] at hp
    subst hp
    refine bs_f (by simp) ?_
    simp only [vm, mm, cell_of f41]
    have hB : BoolT h1 ⟨some ⟨b9, 0, none⟩, 2 ^ m, 2 ^ m⟩ (2 ^ m) (AllB cls) := ⟨by show 2 ^ m ≤ _; omega, by simp, .inr ⟨b9, 0, rfl, cellsAre_of hc9⟩⟩
    refine l7Of_spec (by omega) hB fun t h2 l2 o2 => ⟨_, _, _, _, rfl, ?_⟩
    have f62 := l2 _ _ f61
    simp only [vm, mm, f62]
    exact ⟨by omega, k t _ (le_row_of _ _ hb6 (Hp.le_trans l0 (Hp.le_trans l1' l2))) (o2.mono (keep_row _ _ (sub_none f61) (sub_anti _ (Hp.le_trans l0 l1'))))⟩

theorem impl_CnfSet_spec {h : Hp} {s : Sl} {cls : List (List Int)} {v : Int} {R : Value → Hp → Prop} (hs : IntSS h s cls)
    (k : ∀ t h', h.le h' → Own (h'.sub h) t 3 (ndCells (cnfSet v cls).ns) → R (.tuple #[.agg #[I (cnfSet v cls).v, Sl.v t, I (cnfSet v cls).r], .bool (cnfSet v cls).ok]) h') : c_impl_CnfSet #[.agg #[I v, s.v]] h R := by
  apply R_impl_CnfSet
  unfold F_impl_CnfSet
  intro b4 hb4
  simp only [vm, mm]
  rintro b6 ⟨n64, hb6⟩
  have n46 := n64.symm
  have l0 := le_row_of [I 0, .slice none 0 0, I 0] 3 hb6 (le_row [I v, s.v] 2 hb4)
  simp only [vm, mm, n46, n64, ne_eq, not_false_eq_true]
  refine impl_CnfOk_spec (hs.mono l0) ⟨_, rfl, bsplit_of (fun e => ?_) (fun e => ?_)⟩
  · have e' : CnfOkB v cls = false := by simpa using e
    rw [cnfSet, e', if_neg (by simp)] at k
    simp only [vm, mm]
    exact ⟨by omega, k ⟨none, 0, 0⟩ _ (le_row_of _ _ hb6 (le_row [I v, s.v] 2 hb4)) (own_nil _ _)⟩
  have e' : CnfOkB v cls = true := by simpa using e
  obtain ⟨hv, hx, hcl⟩ := CnfOkB.iff.1 e'
  rw [cnfSet, e', if_pos rfl] at k
  simp only [vm, mm, n46, n64, ne_eq, not_false_eq_true]
  refine toldP_spec (f := AllB cls) (fun h0 h13 i hi h' l R k' => ?_) fun t h1 l1 o1 => ⟨_, _, _, _, rfl, ?_⟩
  · refine R_impl_CnfSet_d1 (b2 := b4) (o3 := 0) ?_
    unfold F_impl_CnfSet_d1
    have f4 := l _ _ ((row_ne _ _ n46).trans (row_self ..))
    have h2 := two_pow_le (n := v.toNat) (by omega)
    simp only [vm, mm, cell_of f4]
    exact clausesHold_spec (hs.mono (Hp.le_trans l0 l)) (by omega) (by omega) hcl ⟨_, rfl, k'⟩
  have f6 := l1 _ _ (row_self ..)
  simp only [vm, mm, f6]
  exact ⟨by omega, k t _ (le_row_of _ _ hb6 (Hp.le_trans l0 l1)) (o1.mono (keep_row _ _ (sub_none (row_self ..)) (sub_anti _ l0)))⟩

end Go.Lead
