/- What the reference's making of diagrams computes. -/
import Derived.Test.YthgleoodmgophaaP4
namespace Go.Lead
open Go
set_option linter.unusedSimpArgs false
set_option linter.unusedVariables false

/-- The maker's memory. -/
structure MI (h : Hp) (K : Nat) (vars : Nat) (tb s : Sl) (ns : List Nd) : Prop where
  row : h K = some (.inl ⟨[I vars, tb.v, s.v], 3, false⟩)
  buf : Buf h s 3 (ndCells ns)
  own : ∀ a, s.a = some a → a.block ≠ K
theorem MI.mono {h h' : Hp} {K vars : Nat} {tb s : Sl} {ns : List Nd} (l : h.le h') (e : MI h K vars tb s ns) : MI h' K vars tb s ns := ⟨l _ _ e.row, e.buf.mono l, e.own⟩
theorem MI.blkB {h : Hp} {K vars : Nat} {tb s : Sl} {ns : List Nd} (e : MI h K vars tb s ns) : ∀ b ∈ [K] ++ s.blk, ∃ x, h b = some x := by
  intro b hb
  simp only [List.cons_append, List.nil_append, List.mem_cons] at hb
  rcases hb with rfl | hb
  · exact ⟨_, e.row⟩
  · revert b hb
    refine blk_iff.2 fun a ha => ?_
    rcases e.buf.2.2 with ⟨h0, _⟩ | ⟨c, hc, hcb⟩
    · rw [h0] at ha; cases ha
    · rw [hc] at ha; cases ha; exact ⟨_, hcb⟩
theorem MI.len {h : Hp} {K vars : Nat} {tb s : Sl} {ns : List Nd} (e : MI h K vars tb s ns) : s.n = ns.length := by
  have := e.buf.1; rw [ndCells_len] at this; omega
def BoolT (h : Hp) (t : Sl) (n : Nat) (T : Nat → Bool) : Prop := BoolS h t ((List.range n).map T)
theorem BoolT.mono {h h' : Hp} {t : Sl} {n : Nat} {T : Nat → Bool} (l : h.le h') (e : BoolT h t n T) : BoolT h' t n T := BoolS.mono l e
theorem l1Yes_spec {h : Hp} {c : Bool} {R : Value → Hp → Prop} (k : R (I (if c then 1 else 0)) h) : c_spec_l1Yes #[.bool c] h R := by
  apply R_spec_l1Yes
  unfold F_spec_l1Yes
  cases c <;> exact k

theorem make_spec {K vars : Nat} (hvars : vars ≤ 13) {tb : Sl} {T : Nat → Bool} : ∀ (n v fixed : Nat) (h : Hp) (s : Sl) (ns : List Nd) (g : Hp) (R : Value → Hp → Prop),
    MI h K vars tb s ns → g.le h → g K = none → (∀ a, s.a = some a → g a.block = none) → BoolT g tb (2 ^ vars) T → v + n = vars → fixed < 2 ^ v → ns.length + 2 ^ n ≤ 1048576 →
    (∀ s' h', MI h' K vars tb s' (mkD n (fun i => T (fixed + i * 2 ^ v)) v ns).2 → g.le h' → (∀ a, s'.a = some a → g a.block = none) → R (I (mkD n (fun i => T (fixed + i * 2 ^ v)) v ns).1) h') →
    c_spec_l7Maker_make #[.pointer (some ⟨K, 0, none⟩), I v, I fixed] h R := by
  intro n
  induction n with
  | zero =>
    intro v fixed h s ns g R inv hg gK gs ht hv hfix hlen k
    apply R_spec_l7Maker_make
    unfold F_spec_l7Maker_make
    have hvv : v = vars := by omega
    subst hvv
    obtain ⟨b, o, ha, hc⟩ := (ht.mono hg).at (i := fixed) (by simp; exact hfix)
    have hl := ht.len
    simp only [List.length_map, List.length_range] at hl
    simp only [vm, cell_of inv.row, mm]
    refine bs_t (by simp) ?_
    simp only [vm, mm, ha, hc, hl]
    have hfi : ((fixed : Nat) : Int) < ((2 ^ v : Nat) : Int) := by exact_mod_cast hfix
    refine ⟨hfi, l1Yes_spec ⟨_, rfl, ?_⟩⟩
    have := k s h inv hg gs
    simp only [mkD, Nat.zero_mul, Nat.add_zero] at this
    have e0 : (((List.range (2 ^ v)).map T)[fixed]'(by simp; exact hfix)) = T fixed := by simp
    rw [e0]
    cases hT : T fixed <;> simpa [hT] using this
  | succ n ih =>
    intro v fixed h s ns g R inv hg gK gs ht hv hfix hlen k
    apply R_spec_l7Maker_make
    unfold F_spec_l7Maker_make
    have hp : 2 ^ (n + 1) = 2 * 2 ^ n := by rw [Nat.pow_succ]; omega
    have hpv : 2 ^ (v + 1) = 2 * 2 ^ v := by rw [Nat.pow_succ]; omega
    have hp1 : 0 < 2 ^ n := Nat.pow_pos (by omega)
    have hv13 : 2 ^ v ≤ 8192 := by
      have := Nat.pow_le_pow_right (n := 2) (by omega) (show v ≤ 13 by omega)
      simpa using this
    simp only [vm, cell_of inv.row, mm]
    refine bs_f (by simp; omega) ?_
    rw [W_succ (by omega)]
    have elo : (fun i => T (fixed + 2 * i * 2 ^ v)) = fun i => T (fixed + i * 2 ^ (v + 1)) := by funext i; rw [hpv]; congr 2; rw [Nat.mul_comm 2 i, Nat.mul_assoc]
    have ehi : (fun i => T (fixed + (2 * i + 1) * 2 ^ v)) = fun i => T ((fixed + 2 ^ v) + i * 2 ^ (v + 1)) := by
      funext i; rw [hpv]; congr 1; rw [Nat.add_mul, Nat.one_mul, Nat.mul_comm 2 i, Nat.mul_assoc]; omega
    have hmk : mkD (n + 1) (fun i => T (fixed + i * 2 ^ v)) v ns =
        (let r1 := mkD n (fun i => T (fixed + i * 2 ^ (v + 1))) (v + 1) ns
         let r2 := mkD n (fun i => T ((fixed + 2 ^ v) + i * 2 ^ (v + 1))) (v + 1) r1.2
         if r1.1 = r2.1 then r2 else putNd ⟨v, r1.1, r2.1⟩ r2.2) := by
      rw [← elo, ← ehi]; rfl
    have len1 := mkD_len n (fun i => T (fixed + i * 2 ^ (v + 1))) (v + 1) ns
    refine ih (v + 1) fixed h s ns g _ inv hg gK gs ht (by omega) (by omega) (by omega) ?_
    intro s3 h3 inv3 lg3 gs3
    refine ⟨_, rfl, ?_⟩
    rw [Wu_nat (by omega), if_neg (by omega), shlW_one (by omega)]
    have w1 : W ((fixed : Int) + ((2 ^ v : Nat) : Int)) = ((fixed + 2 ^ v : Nat) : Int) := by rw [W_id (by omega) (by omega)]; omega
    rw [w1]
    have len2 := mkD_len n (fun i => T ((fixed + 2 ^ v) + i * 2 ^ (v + 1))) (v + 1) (mkD n (fun i => T (fixed + i * 2 ^ (v + 1))) (v + 1) ns).2
    refine ih (v + 1) (fixed + 2 ^ v) h3 s3 _ g _ inv3 lg3 gK gs3 ht (by omega) (by omega) (by omega) ?_
    intro s4 h4 inv4 lg4 gs4
    refine ⟨_, rfl, ?_⟩
    simp only at hmk
    generalize mkD n (fun i => T (fixed + i * 2 ^ (v + 1))) (v + 1) ns = r1 at *
    generalize mkD n (fun i => T ((fixed + 2 ^ v) + i * 2 ^ (v + 1))) (v + 1) r1.2 = r2 at *
    refine bsplit_of (fun e => ?_) (fun e => ?_)
    · have e' : r1.1 = r2.1 := by simp at e; omega
      rw [if_pos e'] at hmk
      rw [hmk] at k
      rw [e']
      exact k s4 h4 inv4 lg4 gs4
    have e' : ¬ r1.1 = r2.1 := by simp at e; omega
    rw [if_neg e'] at hmk
    rw [hmk] at k
    have hnlen : r2.2.length ≤ 1048576 := by omega
    intro b5 hb5
    have nK := fresh_ne hb5 inv4.row
    have l5 := le_row [I v, I r1.1, I r2.1] 3 hb5
    have hlen4 := inv4.len
    have hsl : SlC h4 s4 3 (ndCells r2.2) := inv4.buf.slc (by omega)
    refine ⟨by omega, ?_⟩
    refine loop_up r2.2.length (fun i vs h' => vs = [.pointer (some ⟨K, 0, none⟩), .pointer (some ⟨b5, 0, none⟩), I i] ∧ h' = h4.row b5 [I v, I r1.1, I r2.1] 3 ∧ ∀ j (hj : j < r2.2.length), j < i → r2.2[j] ≠ ⟨v, r1.1, r2.1⟩) ⟨rfl, rfl, fun j _ h => by omega⟩ ?_
    rintro i _ _ next hi ⟨rfl, rfl, hp⟩ hn
    refine ⟨_, _, _, _, rfl, ?_⟩
    simp only [vm, mm, nK, ne_eq, not_false_eq_true, cell_of inv4.row]
    by_cases hlt : i < r2.2.length
    · obtain ⟨c, o, ha, c0, c1, c2⟩ := nd_at (hsl.mono l5) hlt
      refine bs_t (by simp [hlen4, hlt]) ?_
      simp only [vm, mm, nK, ne_eq, not_false_eq_true, cell_of inv4.row, hlen4, ha, c0, c1, c2]
      refine ⟨by omega, bsplit_of (fun e => ?_) (fun e => ?_)⟩
      · have he : r2.2[i] = ⟨v, r1.1, r2.1⟩ := by
          have : r2.2[i].v = v ∧ r2.2[i].lo = r1.1 ∧ r2.2[i].hi = r2.1 := by simp at e; omega
          rcases hh : r2.2[i] with ⟨a, b, c⟩
          rw [hh] at this
          obtain ⟨rfl, rfl, rfl⟩ := this; rfl
        have hput : putNd ⟨v, r1.1, r2.1⟩ r2.2 = (i + 2, r2.2) := by
          have : r2.2.idxOf? ⟨v, r1.1, r2.1⟩ = some i := by
            simp only [List.idxOf?, List.findIdx?_eq_some_iff_getElem]
            refine ⟨hlt, by simp [he], fun j hj => ?_⟩
            have := hp j (by omega) hj
            simpa using this
          simp [putNd, this]
        rw [hput] at k
        have := k s4 _ (inv4.mono l5) (Hp.le_trans lg4 l5) gs4
        rw [W_id (by omega) (by omega)]
        exact this
      · rw [W_succ (by omega)]
        refine hn hlt _ _ ⟨rfl, rfl, fun j hj hji => ?_⟩
        by_cases hjx : j = i
        · subst hjx
          intro he
          rw [he] at e
          simp at e
        · exact hp j hj (by omega)
    · have : i = r2.2.length := by omega
      subst this
      have hput : putNd ⟨v, r1.1, r2.1⟩ r2.2 = (r2.2.length + 2, r2.2 ++ [⟨v, r1.1, r2.1⟩]) := by
        have : r2.2.idxOf? ⟨v, r1.1, r2.1⟩ = none := by
          simp only [List.idxOf?, List.findIdx?_eq_none_iff]
          intro x hx
          obtain ⟨j, hj, rfl⟩ := List.getElem_of_mem hx
          have := hp j hj hj
          simpa using this
        simp [putNd, this]
      rw [hput] at k
      refine bs_f (by simp [hlen4]) ?_
      rintro b6 ⟨n65, hb6⟩
      have nK6 := fresh_ne hb6 inv4.row
      have l6 := le_row_of [I v, I r1.1, I r2.1] 3 (show (h4.row b5 [I v, I r1.1, I r2.1] 3) b6 = none by rw [row_none]; exact ⟨n65, hb6⟩) (Hp.le_refl _)
      have hH : h4.le ((h4.row b5 [I v, I r1.1, I r2.1] 3).row b6 [I v, I r1.1, I r2.1] 3) := Hp.le_trans l5 l6
      refine ⟨by rw [row_ne _ _ nK6, row_ne _ _ nK], ?_⟩
      refine aApp_buf ((inv4.buf.mono l5).mono l6) (by omega) (by omega) (by omega) ⟨b6, 0, rfl, cellsAre_of (row_self ..)⟩ (by simp) rfl ?_
      intro s7 h7 hn7 hb7 hl7 _
      obtain ⟨f7K, o7K⟩ := offS_keep hl7 (hH _ _ inv4.row) inv4.own
      simp only [vm, mm, f7K]
      refine ⟨by omega, ?_⟩
      have e7 : W ((s7.n : Int) + 1) = ((r2.2.length + 2 : Nat) : Int) := by rw [hn7, hlen4, W_id (by omega) (by omega)]; omega
      rw [e7]
      refine k s7 _ ⟨row_self .., ?_, o7K⟩ ?_ ?_
      · rw [ndCells_append]
        refine ⟨hb7.1, hb7.2.1, hb7.2.2.imp id ?_⟩
        rintro ⟨c, hc, hcb⟩
        exact ⟨c, hc, by rw [row_ne _ _ (o7K _ hc)]; exact hcb⟩
      · intro c x hcx
        have hcB : c ≠ K := fun h => by rw [h, gK] at hcx; cases hcx
        rw [row_ne _ _ hcB]
        exact (offS_keep hl7 (hH _ _ (lg4 _ _ hcx)) (fun a ha hac => by rw [← hac, gs4 a ha] at hcx; cases hcx)).1
      · intro a ha
        cases hg7 : g a.block with
        | none => rfl
        | some x =>
          exact absurd rfl ((offS_keep hl7 (hH _ _ (lg4 _ _ hg7)) (fun a' ha' hac => by rw [← hac, gs4 a' ha'] at hg7; cases hg7)).2 a ha)

end Go.Lead
