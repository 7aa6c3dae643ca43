/- What the building of diagrams computes. -/


import Derived.Test.YthgleoodmgophaaB0
namespace Go.Lead
open Go
set_option linter.unusedSimpArgs false
set_option linter.unusedVariables false

/-- A table's cells. -/
def tabCells (n : Nat) (f : Nat → Bool) : List Value := (List.range (2 ^ n)).map fun i => Value.int .u8 (if f i then 1 else 0)
def tabBytes (n : Nat) (f : Nat → Bool) : List UInt8 := (List.range (2 ^ n)).map fun i => if f i then 1 else 0
theorem byteCells_tab (n : Nat) (f : Nat → Bool) : byteCells (tabBytes n f) = tabCells n f := by
  unfold byteCells tabBytes tabCells
  rw [List.map_map]
  apply List.map_congr_left
  intro i _
  simp only [Function.comp]
  cases f i <;> rfl
def TabS (h : Hp) (t : Sl) (n : Nat) (f : Nat → Bool) : Prop := SlC h t 1 (tabCells n f)
theorem TabS.mono {h h' : Hp} {t : Sl} {n : Nat} {f : Nat → Bool} (l : h.le h') (e : TabS h t n f) : TabS h' t n f := SlC.mono l e
theorem TabS.len {h : Hp} {t : Sl} {n : Nat} {f : Nat → Bool} (e : TabS h t n f) : t.n = 2 ^ n := by have := e.2.1; simp [tabCells] at this; omega
theorem TabS.at {h : Hp} {t : Sl} {n : Nat} {f : Nat → Bool} (e : TabS h t n f) {i : Nat} (hi : i < 2 ^ n) :
    ∃ b o, t.a = some (Addr.mk b o none) ∧ Hp.cell h b (o + i) = some (.int .u8 (if f i then 1 else 0)) := by
  have hl := e.len
  obtain ⟨b, o, ha, hc⟩ := SlC.get e (by omega)
  exact ⟨b, o, ha, hc i _ (by simp [tabCells, hi])⟩
theorem TabS.all {h : Hp} {t : Sl} {n : Nat} {f : Nat → Bool} (e : TabS h t n f) : slCells h t.a t.n (byteCells (tabBytes n f)) := by
  rw [byteCells_tab]
  exact ⟨by rw [e.2.1, Nat.mul_one], e.2.2⟩
theorem tab_len (n : Nat) (f : Nat → Bool) : (tabCells n f).length = 2 ^ n := by simp [tabCells]

theorem isVars_spec {h : Hp} {v : Int} {R : Value → Hp → Prop} (k : R (.bool (decide (0 ≤ v ∧ v ≤ 13))) h) : c_impl_isVars #[I v] h R := by
  apply R_impl_isVars
  unfold F_impl_isVars
  exact in_spec ⟨_, rfl, k⟩
theorem l7Vars_spec {h : Hp} {v : Int} {R : Value → Hp → Prop} (k : R (.bool (decide (0 ≤ v ∧ v ≤ 13))) h) : c_spec_l7Vars #[I v] h R := by
  apply R_spec_l7Vars
  unfold F_spec_l7Vars
  exact l1In_spec ⟨_, rfl, k⟩
def ndCells (ns : List Nd) : List Value := ns.flatMap fun n => [I n.v, I n.lo, I n.hi]
def ndKey (n : Nd) : Value := .agg #[I n.v, I n.lo, I n.hi]
/-- The builder's memory. -/
structure BI (h : Hp) (B rs rn : Nat) (vars : Nat) (s : Sl) (ns : List Nd) (es : List (ByteArray × Nat)) : Prop where
  row : h B = some (.inl ⟨[I vars, s.v, I 0, .map (some rs), .map (some rn)], 5, false⟩)
  buf : Buf h s 3 (ndCells ns)
  seen : h rs = some (.inr (es.map fun e => (.string e.1, I e.2)))
  nodes : h rn = some (.inr (ns.zipIdx.map fun e => (ndKey e.1, I (e.2 + 2 : Nat))))
  far : rs ≠ rn
  own : ∀ a, s.a = some a → a.block ≠ B
  true : ∀ e ∈ es, ∃ n f low, low + n = vars ∧ e.1 = ⟨(tabBytes n f).toArray⟩ ∧ mkD n f low ns = (e.2, ns)

theorem BI.mono {h h' : Hp} {B rs rn vars : Nat} {s : Sl} {ns : List Nd} {es : List (ByteArray × Nat)} (l : h.le h') (e : BI h B rs rn vars s ns es) : BI h' B rs rn vars s ns es :=
  ⟨l _ _ e.row, e.buf.mono l, l _ _ e.seen, l _ _ e.nodes, e.far, e.own, e.true⟩
theorem BI.blkB {h : Hp} {B rs rn vars : Nat} {s : Sl} {ns : List Nd} {es : List (ByteArray × Nat)} (e : BI h B rs rn vars s ns es) : ∀ b ∈ [B, rs, rn] ++ s.blk, ∃ x, h b = some x := by
  intro b hb
  simp only [List.cons_append, List.nil_append, List.mem_cons] at hb
  rcases hb with rfl | rfl | rfl | hb
  · exact ⟨_, e.row⟩
  · exact ⟨_, e.seen⟩
  · exact ⟨_, e.nodes⟩
  · revert b hb
    refine blk_iff.2 fun a ha => ?_
    rcases e.buf.2.2 with ⟨h0, _⟩ | ⟨c, hc, hcb⟩
    · rw [h0] at ha; cases ha
    · rw [hc] at ha; cases ha; exact ⟨_, hcb⟩
/-- A table that is written. -/
theorem BI.put {h : Hp} {B rs rn vars : Nat} {s : Sl} {ns : List Nd} {es : List (ByteArray × Nat)} (e : BI h B rs rn vars s ns es) {n low : Nat} {f : Nat → Bool} (hlow : low + n = vars)
    {a : Nat} (ha : mkD n f low ns = (a, ns)) : ∃ (es2 : List (ByteArray × Nat)) (res : Option (Nat × Value)), mlook (Instr.sameNow .string (.string ⟨(tabBytes n f).toArray⟩)) (es.map fun e => (.string e.1, I e.2)) 0 = some res ∧
      mput (es.map fun e => (.string e.1, I e.2)) (.string ⟨(tabBytes n f).toArray⟩) (I a) res = es2.map (fun e : ByteArray × Nat => (Value.string e.1, I e.2)) ∧ ∀ x ∈ es2, ∃ n f low, low + n = vars ∧ x.1 = ⟨(tabBytes n f).toArray⟩ ∧ mkD n f low ns = (x.2, ns) := by
  rcases mlook_cases (Instr.sameNow .string (.string ⟨(tabBytes n f).toArray⟩)) (fun e : ByteArray × Nat => .string e.1) (fun e => I e.2) (fun e => (⟨(tabBytes n f).toArray⟩ : ByteArray) == e.1) es 0 (fun _ _ => rfl) with ⟨hno, hm⟩ | ⟨j, hj, hyes, _, hm⟩
  · refine ⟨es ++ [(⟨(tabBytes n f).toArray⟩, a)], _, hm, by simp [mput], ?_⟩
    intro x hx
    rcases List.mem_append.1 hx with hx | hx
    · exact e.true x hx
    · simp only [List.mem_singleton] at hx; subst hx; exact ⟨n, f, low, hlow, rfl, ha⟩
  · refine ⟨es.set j (⟨(tabBytes n f).toArray⟩, a), _, hm, by simp [mput, List.map_set], ?_⟩
    intro x hx
    rcases List.mem_or_eq_of_mem_set hx with hx | hx
    · exact e.true x hx
    · subst hx; exact ⟨n, f, low, hlow, rfl, ha⟩
theorem tabBytes_inj {n m : Nat} {f g : Nat → Bool} (e : tabBytes n f = tabBytes m g) : n = m ∧ ∀ i, i < 2 ^ n → f i = g i := by
  have hl := congrArg List.length e
  simp only [tabBytes, List.length_map, List.length_range] at hl
  have hn : n = m := (Nat.pow_right_inj (by decide : 1 < 2)).1 hl
  subst hn
  refine ⟨rfl, fun i hi => ?_⟩
  have := congrArg (fun l : List UInt8 => l[i]?) e
  simp only [tabBytes, List.getElem?_map, List.getElem?_range hi, Option.map_some, Option.some.injEq] at this
  cases h1 : f i <;> cases h2 : g i <;> simp [h1, h2] at this <;> rfl

theorem nd_look (nd : Nd) (ns : List Nd) :
    (∃ j, mlook (aeq PR 3 T_impl_BddNode (.agg #[I nd.v, I nd.lo, I nd.hi])) (ns.zipIdx.map fun e => (ndKey e.1, I (e.2 + 2 : Nat))) 0 = some (some (j, I (j + 2 : Nat))) ∧ putNd nd ns = (j + 2, ns)) ∨
    (mlook (aeq PR 3 T_impl_BddNode (.agg #[I nd.v, I nd.lo, I nd.hi])) (ns.zipIdx.map fun e => (ndKey e.1, I (e.2 + 2 : Nat))) 0 = some none ∧ putNd nd ns = (ns.length + 2, ns ++ [nd])) := by
  have heq : ∀ m : Nd, ((nd.v : Int) == (m.v : Int) && ((nd.lo : Int) == (m.lo : Int) && ((nd.hi : Int) == (m.hi : Int) && true))) = (m == nd) := by
    intro m
    rw [Bool.eq_iff_iff]
    simp only [Bool.and_eq_true, beq_iff_eq, Bool.and_true]
    obtain ⟨a, b, c⟩ := nd; obtain ⟨a', b', c'⟩ := m
    simp only [Nd.mk.injEq]
    omega
  rcases mlook_cases (aeq PR 3 T_impl_BddNode (.agg #[I nd.v, I nd.lo, I nd.hi])) (fun e : Nd × Nat => ndKey e.1) (fun e => I (e.2 + 2 : Nat))
    (fun e => (nd.v : Int) == (e.1.v : Int) && ((nd.lo : Int) == (e.1.lo : Int) && ((nd.hi : Int) == (e.1.hi : Int) && true))) ns.zipIdx 0 (fun e _ => aeq_nd _ _ _ _ _ _) with ⟨hno, hm⟩ | ⟨j, hj, hyes, hbef, hm⟩
  · refine .inr ⟨hm, ?_⟩
    have : ns.idxOf? nd = none := by
      simp only [List.idxOf?]
      rw [List.findIdx?_eq_none_iff]
      intro m hmm
      obtain ⟨i, hi, rfl⟩ := List.getElem_of_mem hmm
      have := hno (ns[i], i) (by rw [List.mem_iff_getElem]; exact ⟨i, by simpa using hi, by simp⟩)
      simp only [heq] at this
      exact this
    simp [putNd, this]
  · have hj' : j < ns.length := by simpa using hj
    simp only [heq, List.getElem_zipIdx, Nat.zero_add] at hyes hbef hm
    refine .inl ⟨j, hm, ?_⟩
    have : ns.idxOf? nd = some j := by
      simp only [List.idxOf?]
      rw [List.findIdx?_eq_some_iff_getElem]
      exact ⟨hj', hyes, fun l hl => by have := hbef l (by simp; omega) hl; simp [this]⟩
    simp [putNd, this]
theorem ndCells_append (ns : List Nd) (nd : Nd) : ndCells (ns ++ [nd]) = ndCells ns ++ [I nd.v, I nd.lo, I nd.hi] := by simp [ndCells]
theorem ndCells_len (ns : List Nd) : (ndCells ns).length = ns.length * 3 := by
  induction ns with
  | nil => rfl
  | cons n ns ih => simp only [ndCells, List.flatMap_cons, List.length_append, List.length_cons, List.length_nil] at ih ⊢; omega

theorem build_spec {B rs rn vars : Nat} (hvars : vars ≤ 13) : ∀ (n : Nat) (f : Nat → Bool) (low : Nat) (t : Sl) (h : Hp) (s : Sl) (ns : List Nd) (es : List (ByteArray × Nat)) (g : Hp) (R : Value → Hp → Prop),
    BI h B rs rn vars s ns es → g.le h → g B = none → g rs = none → g rn = none → (∀ a, s.a = some a → g a.block = none) → TabS g t n f → low + n = vars → ns.length + 2 ^ n ≤ 1048576 →
    (∀ s' es' h', BI h' B rs rn vars s' (mkD n f low ns).2 es' → g.le h' → (∀ a, s'.a = some a → g a.block = none) → R (I (mkD n f low ns).1) h') →
    c_impl_builder_build #[.pointer (some ⟨B, 0, none⟩), t.v, I low] h R := by
  intro n
  induction n with
  | zero =>
    intro f low t h s ns es g R inv hg gB grs grn gs ht hlow hlen k
    apply R_impl_builder_build
    unfold F_impl_builder_build
    have hl := ht.len
    obtain ⟨b, o, ha, hc⟩ := ht.at (i := 0) (by simp)
    refine bs_t (by simp [hl]) ?_
    simp only [vm, hl, ha, hg.cell hc]
    have := hg.cell hc
    simp only [Nat.add_zero] at this
    refine ⟨by omega, by simp, ?_⟩
    simp only [Int.toNat_zero, Nat.add_zero, this, vm]
    have := k s es h inv hg gs
    simp only [mkD] at this
    have e0 : W (if f 0 then 1 else 0) = ((if f 0 then 1 else 0 : Nat) : Int) := by cases f 0 <;> rfl
    rw [e0]; exact this
  | succ n ih =>
    intro f low t h s ns es g R inv hg gB grs grn gs ht hlow hlen k
    apply R_impl_builder_build
    unfold F_impl_builder_build
    have hl := ht.len
    have hp : 2 ^ (n + 1) = 2 * 2 ^ n := by rw [Nat.pow_succ]; omega
    have hp1 : 0 < 2 ^ n := Nat.pow_pos (by omega)
    have hp2 : 2 ^ n ≤ 8192 := by
      have := Nat.pow_le_pow_right (n := 2) (by omega) (show n ≤ 13 by omega)
      simpa using this
    refine bs_f (by simp [hl]; omega) ?_
    refine ⟨tabBytes (n + 1) f, (ht.mono hg).all, ?_⟩
    simp only [vm, cell_of inv.row, mm]
    refine ⟨rs, es.map (fun e => (.string e.1, I e.2)), ?_⟩
    rcases mlook_cases (Instr.sameNow .string (.string ⟨(tabBytes (n + 1) f).toArray⟩)) (fun e : ByteArray × Nat => .string e.1) (fun e => I e.2) (fun e => (⟨(tabBytes (n + 1) f).toArray⟩ : ByteArray) == e.1) es 0 (fun _ _ => rfl) with ⟨hno, hm⟩ | ⟨j, hj, hyes, _, hm⟩
    rotate_left
    · refine ⟨_, rfl, inv.seen, hm, _, rfl, bs_t rfl ?_⟩
      obtain ⟨m, f', low', hlow', hkey, hmk⟩ := inv.true _ (List.getElem_mem hj)
      rw [hkey] at hyes
      have hb : tabBytes (n + 1) f = tabBytes m f' := by
        have h9 : ((tabBytes (n + 1) f).toArray == (tabBytes m f').toArray) = true := hyes
        simpa using h9
      obtain ⟨rfl, hff⟩ := tabBytes_inj hb
      have : low' = low := by omega
      subst this
      have e := mkD_ext (n + 1) low' ns hff
      rw [hmk] at e
      have := k s es h (by rw [e]; exact inv) hg gs
      rw [e] at this
      exact this
    refine ⟨_, rfl, inv.seen, hm, _, rfl, bs_f rfl ?_⟩
    have hdiv : W ((t.n : Int).tdiv 2) = ((2 ^ n : Nat) : Int) := by
      rw [hl, hp]
      have : (((2 * 2 ^ n : Nat) : Int)).tdiv 2 = ((2 ^ n : Nat) : Int) := by
        have := Int.ofNat_tdiv (2 * 2 ^ n) 2
        rw [show 2 * 2 ^ n / 2 = 2 ^ n by omega] at this
        exact this.symm
      rw [this]; exact W_nat (by omega)
    simp only [hdiv, vm, zeroRow_one]
    refine joinP_of (fun J => ∀ b1 b2 : Nat, b1 ≠ b2 → h b1 = none → h b2 = none → ∀ h1 : Hp, h1 b1 = some (.inl ⟨List.replicate (2 ^ n) (.int .u8 0), 2 ^ n, false⟩) → h1 b2 = some (.inl ⟨List.replicate (2 ^ n) (.int .u8 0), 2 ^ n, false⟩) → h.le h1 →
      J ⟨some ⟨b1, 0, none⟩, 2 ^ n, 2 ^ n⟩ ⟨some ⟨b2, 0, none⟩, 2 ^ n, 2 ^ n⟩ h1) ?_ ?_
    rotate_left
    · intro J hJ
      refine ⟨⟨by omega, by omega, by omega, fun b1 hb1 => ⟨by omega, by omega, by omega, fun b2 hb2 => ?_⟩⟩, ⟨by omega, by omega, by omega, fun b1 hb1 => ⟨by omega, by omega, by omega, fun b2 hb2 => ?_⟩⟩⟩
      · exact hJ b1 b2 hb2.1.symm hb1 hb2.2 _ (by rw [row_ne _ _ hb2.1.symm, row_self]) (by rw [row_self]) (le_row_of _ _ hb2.2 (le_row _ _ hb1))
      · exact hJ b2 b1 hb2.1 hb2.2 hb1 _ (by rw [row_self]) (by rw [row_ne _ _ hb2.1.symm, row_self]) (le_row_of _ _ hb2.2 (le_row _ _ hb1))
    intro b1 b2 n12 hb1 hb2 h1 f1 f2 l1
    refine loop_up (2 ^ n) (fun i vs h' => vs = [.pointer (some ⟨B, 0, none⟩), t.v, I low, .string ⟨(tabBytes (n + 1) f).toArray⟩, Sl.v ⟨some ⟨b1, 0, none⟩, 2 ^ n, 2 ^ n⟩, Sl.v ⟨some ⟨b2, 0, none⟩, 2 ^ n, 2 ^ n⟩, I (2 ^ n : Nat), I i] ∧
      h.le h' ∧ ∃ c1 c2, h' b1 = some (.inl ⟨c1, 2 ^ n, false⟩) ∧ h' b2 = some (.inl ⟨c2, 2 ^ n, false⟩) ∧ c1.length = 2 ^ n ∧ c2.length = 2 ^ n ∧ c1.take i = (tabCells n fun i => f (2 * i)).take i ∧ c2.take i = (tabCells n fun i => f (2 * i + 1)).take i)
      ⟨rfl, l1, _, _, f1, f2, by simp, by simp, by simp, by simp⟩ ?_
    rintro i _ h2 next hi ⟨rfl, l2, c1, c2, g1, g2, q1, q2, p1, p2⟩ hn
    refine ⟨_, _, _, _, _, _, _, _, rfl, ?_⟩
    by_cases hlt : i < 2 ^ n
    · obtain ⟨bt, ot, hta, htc⟩ := ((ht.mono hg).mono l2).at (i := 2 * i) (by omega)
      obtain ⟨bt', ot', hta', htc'⟩ := ((ht.mono hg).mono l2).at (i := 2 * i + 1) (by omega)
      rw [hta] at hta'; cases hta'
      have e1 : W (2 * (i : Int)) = ((2 * i : Nat) : Int) := by rw [← W_nat (n := 2 * i) (by omega)]; congr 1
      have e2 : W (((2 * i : Nat) : Int) + 1) = ((2 * i + 1 : Nat) : Int) := W_succ (by omega)
      refine bs_t (by simpa using by exact_mod_cast hlt) ?_
      simp only [e1, e2, vm, mm, hl, hta, htc, htc', W_succ (n := i) (show i < 9223372036854775807 by omega)]
      refine ⟨by omega, by omega, by omega, c1, 2 ^ n, g1, by omega, by omega, ?_⟩
      rw [row_ne _ _ n12.symm]
      refine ⟨c2, 2 ^ n, g2, by omega, ?_⟩
      refine hn hlt _ _ ⟨rfl, le_row_of _ _ hb2 (le_row_of _ _ hb1 l2), _, _, by rw [row_ne _ _ n12, row_self], row_self .., by simpa using q1, by simpa using q2, ?_, ?_⟩
      · have hti : i < (tabCells n fun i => f (2 * i)).length := by rw [tab_len]; exact hlt
        rw [take_set _ (by omega), p1, List.take_succ_eq_append_getElem hti]
        simp [tabCells]
      · have hti : i < (tabCells n fun i => f (2 * i + 1)).length := by rw [tab_len]; exact hlt
        rw [take_set _ (by omega), p2, List.take_succ_eq_append_getElem hti]
        simp [tabCells]
    have : i = 2 ^ n := by omega
    subst this
    rw [← q1, List.take_length, q1, ← tab_len n (fun i => f (2 * i)), List.take_length] at p1
    rw [← q2, List.take_length, q2, ← tab_len n (fun i => f (2 * i + 1)), List.take_length] at p2
    subst p1; subst p2
    refine bs_f (by simp) ?_
    clear hn next f1 f2 l1 h1
    have hout : ∀ b, h b = none → b ∉ [B, rs, rn] ++ s.blk := fun b hb hm => by
      obtain ⟨x, hx⟩ := inv.blkB b hm
      rw [hb] at hx; cases hx
    have tb : 2 ^ n ≤ 9223372036854775807 := by omega
    have t1 : TabS (h2.wo ([B, rs, rn] ++ s.blk)) ⟨some ⟨b1, 0, none⟩, 2 ^ n, 2 ^ n⟩ n (fun i => f (2 * i)) :=
      ⟨tb, by simp [tab_len], .inr ⟨b1, 0, rfl, cellsAre_of (by rw [wo_at (hout b1 hb1)]; exact g1)⟩⟩
    have t2 : TabS (h2.wo ([B, rs, rn] ++ s.blk)) ⟨some ⟨b2, 0, none⟩, 2 ^ n, 2 ^ n⟩ n (fun i => f (2 * i + 1)) :=
      ⟨tb, by simp [tab_len], .inr ⟨b2, 0, rfl, cellsAre_of (by rw [wo_at (hout b2 hb2)]; exact g2)⟩⟩
    have hgw : g.le (h2.wo ([B, rs, rn] ++ s.blk)) := le_wo (Hp.le_trans hg l2) (by
      intro b hb
      simp only [List.cons_append, List.nil_append, List.mem_cons] at hb
      rcases hb with rfl | rfl | rfl | hb
      · exact gB
      · exact grs
      · exact grn
      · exact blk_iff (p := fun b => g b = none).2 gs b hb)
    rw [W_succ (by omega)]
    have len1 := mkD_len n (fun i => f (2 * i)) (low + 1) ns
    refine ih _ (low + 1) _ h2 s ns es (h2.wo ([B, rs, rn] ++ s.blk)) _ (inv.mono l2) (wo_le _ _) (wo_none (by simp)) (wo_none (by simp)) (wo_none (by simp))
      (blk_iff (p := fun b => (h2.wo ([B, rs, rn] ++ s.blk)) b = none).1 fun b hb => wo_none (by simp [hb])) t1 (by omega) (by omega) ?_
    intro s3 es3 h3 inv3 l3 gs3
    refine ⟨_, rfl, tabBytes n (fun i => f (2 * i)), (t1.mono l3).all, tabBytes n (fun i => f (2 * i + 1)), (t2.mono l3).all, ?_⟩
    refine joinP_of (fun J => ∀ s' es' h', BI h' B rs rn vars s' (mkD (n + 1) f low ns).2 es' → g.le h' → (∀ a, s'.a = some a → g a.block = none) → J ((mkD (n + 1) f low ns).1 : Nat) h') ?_ ?_
    · intro s' es' h' inv' lg' gs'
      obtain ⟨es2, res, hm2, hput, htrue⟩ := inv'.put (n := n + 1) (low := low) (f := f) hlow (mkD_idem (n + 1) f low ns _ (List.prefix_refl _))
      simp only [vm, cell_of inv'.row, mm]
      refine ⟨rs, _, res, rfl, inv'.seen, hm2, ?_⟩
      rw [hput]
      have nB : B ≠ rs := ne_of_blk inv'.row inv'.seen (by intro h; cases h)
      refine k s' es2 _ ⟨by rw [Hp.set_ne _ _ nB]; exact inv'.row, ?_, Hp.set_eq .., by rw [Hp.set_ne _ _ inv'.far.symm]; exact inv'.nodes, inv'.far, inv'.own, htrue⟩ (le_set_of _ lg' grs) gs'
      refine ⟨inv'.buf.1, inv'.buf.2.1, inv'.buf.2.2.imp id ?_⟩
      rintro ⟨c, hc, hcb⟩
      exact ⟨c, hc, by rw [Hp.set_ne _ _ (ne_of_blk hcb inv'.seen (by intro h; cases h))]; exact hcb⟩
    · intro J hJ
      rw [bytes_toList, bytes_toList]
      refine bsplit_of (fun e => ?_) (fun e => ?_)
      rotate_left
      · have e' : tabBytes n (fun i => f (2 * i)) = tabBytes n (fun i => f (2 * i + 1)) := by simpa using e
        have hs2 := mkD_same2 (low := low + 1) (ns := ns) (tabBytes_inj e').2
        have hmk : mkD (n + 1) f low ns = mkD n (fun i => f (2 * i)) (low + 1) ns := by simp only [mkD]; rw [hs2]; simp
        have := hJ s3 es3 h3 (by rw [hmk]; exact inv3) (Hp.le_trans hgw l3) ?_
        · rw [hmk] at this; exact this
        · intro a ha; 
          have := gs3 a ha
          cases hga : g a.block with
          | none => rfl
          | some x => rw [hgw _ _ hga] at this; cases this
      have hne : ¬ (mkD n (fun i => f (2 * i)) (low + 1) ns).1 = (mkD n (fun i => f (2 * i + 1)) (low + 1) (mkD n (fun i => f (2 * i)) (low + 1) ns).2).1 := by
        intro he
        have := mkD_same.1 he
        have e2 : tabBytes n (fun i => f (2 * i)) = tabBytes n (fun i => f (2 * i + 1)) := by
          unfold tabBytes
          apply List.map_congr_left
          intro i hi
          simp only [this i (by simpa using hi)]
        rw [e2] at e; simp at e
      have hmk : mkD (n + 1) f low ns = putNd ⟨low, (mkD n (fun i => f (2 * i)) (low + 1) ns).1, (mkD n (fun i => f (2 * i + 1)) (low + 1) (mkD n (fun i => f (2 * i)) (low + 1) ns).2).1⟩
          (mkD n (fun i => f (2 * i + 1)) (low + 1) (mkD n (fun i => f (2 * i)) (low + 1) ns).2).2 := by simp only [mkD]; rw [if_neg hne]
      have len2 := mkD_len n (fun i => f (2 * i + 1)) (low + 1) (mkD n (fun i => f (2 * i)) (low + 1) ns).2
      generalize mkD n (fun i => f (2 * i)) (low + 1) ns = r1 at *
      refine ih _ (low + 1) _ h3 s3 r1.2 es3 ((h3.wo ([B, rs, rn] ++ s3.blk))) _ inv3 (wo_le _ _) (wo_none (by simp)) (wo_none (by simp)) (wo_none (by simp))
        (blk_iff (p := fun b => (h3.wo ([B, rs, rn] ++ s3.blk)) b = none).1 fun b hb => wo_none (by simp [hb])) (t2.mono (le_wo l3 ?_)) (by omega) (by omega) ?_
      · intro b hb
        simp only [List.cons_append, List.nil_append, List.mem_cons] at hb
        rcases hb with rfl | rfl | rfl | hb
        · exact wo_none (by simp)
        · exact wo_none (by simp)
        · exact wo_none (by simp)
        · exact blk_iff (p := fun b => (h2.wo ([B, rs, rn] ++ s.blk)) b = none).2 gs3 b hb
      generalize mkD n (fun i => f (2 * i + 1)) (low + 1) r1.2 = r2 at *
      intro s4 es4 h4 inv4 l4 gs4
      refine ⟨_, rfl, ?_⟩
      intro b5 hb5
      have nB := fresh_ne hb5 inv4.row
      have nN := fresh_ne hb5 inv4.nodes
      simp only [vm, mm, nB, nN, cell_of inv4.row, ne_eq, not_false_eq_true]
      have hgw3 : g.le (h3.wo ([B, rs, rn] ++ s3.blk)) := le_wo (Hp.le_trans hgw l3) (by
        intro b hb
        refine none_of_le hgw ?_
        simp only [List.cons_append, List.nil_append, List.mem_cons] at hb
        rcases hb with rfl | rfl | rfl | hb
        · exact wo_none (by simp)
        · exact wo_none (by simp)
        · exact wo_none (by simp)
        · exact blk_iff (p := fun b => (h2.wo ([B, rs, rn] ++ s.blk)) b = none).2 gs3 b hb)
      have lg4 : g.le h4 := Hp.le_trans hgw3 l4
      have gs4' : ∀ a, s4.a = some a → g a.block = none := fun a ha => none_of_le hgw3 (gs4 a ha)
      have l5 := le_row [I low, I r1.1, I r2.1] 3 hb5
      refine ⟨by omega, rn, r2.2.zipIdx.map (fun e => (ndKey e.1, I (e.2 + 2 : Nat))), ?_⟩
      rcases nd_look ⟨low, r1.1, r2.1⟩ r2.2 with ⟨j, hm5, hput⟩ | ⟨hm5, hput⟩
      · refine ⟨_, rfl, l5 _ _ inv4.nodes, hm5, _, rfl, bs_f rfl ?_⟩
        rw [hput] at hmk
        have := hJ s4 es4 _ (by rw [hmk]; exact inv4.mono l5) (Hp.le_trans lg4 l5) gs4'
        rw [hmk] at this
        exact this
      · refine ⟨_, rfl, l5 _ _ inv4.nodes, hm5, _, rfl, bs_t rfl ?_⟩
        rw [hput] at hmk
        rintro b6 ⟨n65, _, hb6⟩
        have nB6 := fresh_ne hb6 inv4.row
        have l6 := le_row_of [I low, I r1.1, I r2.1] 3 (show (h4.row b5 [I low, I r1.1, I r2.1] 3) b6 = none by rw [row_none]; exact ⟨n65, hb6⟩) (Hp.le_refl _)
        have hsn : s4.n = r2.2.length := by have := inv4.buf.1; rw [ndCells_len] at this; omega
        refine ⟨by rw [row_ne _ _ nB6, row_ne _ _ nB], ?_⟩
        refine aApp_buf ((inv4.buf.mono l5).mono l6) (by omega) (by omega) (by omega) ⟨b6, 0, rfl, cellsAre_of (row_self ..)⟩ (by simp) rfl ?_
        intro s7 h7 hn7 hb7 hl7 _
        have hH : h4.le ((h4.row b5 [I low, I r1.1, I r2.1] 3).row b6 [I low, I r1.1, I r2.1] 3) := Hp.le_trans l5 l6
        have dmap : ∀ {c : Nat} {m : List (Value × Value)}, h4 c = some (.inr m) → ∀ a, s4.a = some a → a.block ≠ c := by
          intro c m hc a ha
          rcases inv4.buf.2.2 with ⟨h0, _⟩ | ⟨d, hd, hdb⟩
          · rw [h0] at ha; cases ha
          · rw [hd] at ha; cases ha; exact ne_of_blk hdb hc (by intro h; cases h)
        have d5 : ∀ a, s4.a = some a → a.block ≠ b5 := by
          intro a ha
          rcases inv4.buf.2.2 with ⟨h0, _⟩ | ⟨d, hd, hdb⟩
          · rw [h0] at ha; cases ha
          · rw [hd] at ha; cases ha; exact fresh_ne hb5 hdb
        obtain ⟨f7B, o7B⟩ := offS_keep hl7 (hH _ _ inv4.row) inv4.own
        obtain ⟨f7s, o7s⟩ := offS_keep hl7 (hH _ _ inv4.seen) (dmap inv4.seen)
        obtain ⟨f7n, o7n⟩ := offS_keep hl7 (hH _ _ inv4.nodes) (dmap inv4.nodes)
        obtain ⟨f75, o75⟩ := offS_keep hl7 (l6 _ _ (row_self h4 b5 [I low, I r1.1, I r2.1] 3)) d5
        have n5B := nB.symm
        have nsB : rs ≠ B := ne_of_blk inv4.seen inv4.row (by intro h; cases h)
        have nnB : rn ≠ B := ne_of_blk inv4.nodes inv4.row (by intro h; cases h)
        have hW2 : W ((s4.n : Int) + 2) = ((r2.2.length + 2 : Nat) : Int) := by rw [hsn, W_id (by omega) (by omega)]; omega
        simp only [vm, mm, f7B, cell_of f75, n5B, ne_eq, not_false_eq_true, hW2]
        refine ⟨by omega, rn, _, none, rfl, by rw [row_ne _ _ nnB]; exact f7n, hm5, rfl, ?_⟩
        have := hJ s7 es4 ((h7.row B [I vars, s7.v, I 0, .map (some rs), .map (some rn)] 5).set rn
          (some (.inr (mput (r2.2.zipIdx.map fun e => (ndKey e.1, I (e.2 + 2 : Nat))) (.agg #[I low, I r1.1, I r2.1]) (I (r2.2.length + 2 : Nat)) none)))) ?_ ?_ ?_
        · rw [hmk] at this; exact this
        · rw [hmk]
          refine ⟨by rw [Hp.set_ne _ _ nnB.symm, row_self], ?_, by rw [Hp.set_ne _ _ inv4.far, row_ne _ _ nsB]; exact f7s, ?_, inv4.far, o7B, ?_⟩
          · rw [ndCells_append]
            refine ⟨hb7.1, hb7.2.1, hb7.2.2.imp id ?_⟩
            rintro ⟨c, hc, hcb⟩
            exact ⟨c, hc, by rw [Hp.set_ne _ _ (o7n _ hc), row_ne _ _ (o7B _ hc)]; exact hcb⟩
          · rw [Hp.set_eq]
            simp [mput, List.zipIdx_append, ndKey]
          · intro x hx
            obtain ⟨n', f', low', h1', h2', h3'⟩ := inv4.true x hx
            refine ⟨n', f', low', h1', h2', ?_⟩
            have := mkD_idem n' f' low' r2.2 (r2.2 ++ [⟨low, r1.1, r2.1⟩]) (by rw [h3']; exact List.prefix_append _ _)
            rw [h3'] at this; exact this
        · refine le_set_of _ ?_ grn
          intro c x hcx
          have hcB : c ≠ B := fun h => by rw [h, gB] at hcx; cases hcx
          rw [row_ne _ _ hcB]
          exact (offS_keep hl7 (hH _ _ (lg4 _ _ hcx)) (fun a ha hac => by rw [← hac, gs4' a ha] at hcx; cases hcx)).1
        · intro a ha
          cases hg7 : g a.block with
          | none => rfl
          | some x =>
            exact absurd rfl ((offS_keep hl7 (hH _ _ (lg4 _ _ hg7)) (fun a' ha' hac => by rw [← hac, gs4' a' ha'] at hg7; cases hg7)).2 a ha)

end Go.Lead
