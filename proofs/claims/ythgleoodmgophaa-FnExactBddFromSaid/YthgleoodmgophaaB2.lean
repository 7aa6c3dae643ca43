/- What the telling of sets computes. -/
import Derived.Test.YthgleoodmgophaaB1
namespace Go.Lead
open Go
set_option linter.unusedSimpArgs false
set_option linter.unusedVariables false

theorem ndCells_one (ns : List Nd) : (ndCells ns).all (·.oneCell') = true := by
  rw [List.all_eq_true]
  intro v hv
  simp only [ndCells, List.mem_flatMap] at hv
  obtain ⟨n, _, hv⟩ := hv
  simp only [List.mem_cons, List.not_mem_nil, or_false] at hv
  rcases hv with rfl | rfl | rfl <;> rfl

theorem clone_spec {h : Hp} {s : Sl} {ns : List Nd} {v r : Int} {R : Value → Hp → Prop} (hs : SlC h s 3 (ndCells ns)) (hn : ns.length ≤ 1048576)
    (k : ∀ t h', h.le h' → Own (h'.sub h) t 3 (ndCells ns) → R (.agg #[I v, Sl.v t, I r]) h') : c_impl_Bdd_clone #[.agg #[I v, s.v, I r]] h R := by
  apply R_impl_Bdd_clone
  unfold F_impl_Bdd_clone
  intro b1 hb1
  simp only [vm, mm]
  rintro b2 ⟨n21, hb2⟩
  have n12 := n21.symm
  have hsn : s.n = ns.length := by have := hs.2.1; rw [ndCells_len] at this; omega
  simp only [vm, mm, n12, n21, ne_eq, not_false_eq_true]
  have l0 := le_row_of [I 0, .slice none 0 0, I 0] 3 hb2 (le_row [I v, s.v, I r] 3 hb1)
  refine aApp_copy (hs.mono l0) (by omega) (ndCells_one _) ?_
  intro t h3 hn3 l3 hb3
  have f1 := l3 _ _ ((row_ne _ _ n12).trans (row_self ..))
  have f2 := l3 _ _ (row_self ..)
  simp only [vm, mm, f1, f2]
  refine ⟨by omega, k _ _ (le_row_of _ _ hb2 (Hp.le_trans l0 l3)) ((hb3.own (by omega)).mono ?_)⟩
  exact keep_row _ _ (sub_none (row_self ..)) (sub_anti _ l0)

/-- What the telling of a set comes to: its root and its nodes, or nothing where these are too many. -/
def toldD (n : Nat) (f : Nat → Bool) : Option (Nat × List Nd) := if 600 < (mkD n f 0 []).2.length then none else some (mkD n f 0 [])

theorem diagram_spec {h : Hp} {t : Sl} {n : Nat} {f : Nat → Bool} {R : Value → Hp → Prop} (hn : n ≤ 13) (ht : TabS h t n f)
    (k0 : toldD n f = none → R (.tuple #[.agg #[I 0, .slice none 0 0, I 0], .bool false]) h)
    (k1 : ∀ r, toldD n f = some r → ∀ s h', h.le h' → Own (h'.sub h) s 3 (ndCells r.2) → R (.tuple #[.agg #[I n, Sl.v s, I r.1], .bool true]) h') :
    c_impl_table_diagram #[t.v] h R := by
  refine ACalls.drop (R_impl_table_diagram ?_)
  unfold F_impl_table_diagram
  intro b1 hb1
  have l1 := le_row [I 0, .slice none 0 0, I 0] 3 hb1
  refine setH_of fun h1 e1 => ?_
  refine loop_up n (fun i vs h' => vs = [t.v, .pointer (some ⟨b1, 0, none⟩), I i] ∧ h' = h1) ⟨rfl, rfl⟩ ?_
  rintro i _ _ next hi ⟨rfl, rfl⟩ hnx
  refine ⟨_, _, _, _, rfl, ?_⟩
  rw [if_neg (by omega), shlW_one (by omega), ht.len]
  by_cases hlt : i < n
  · refine bs_t ?_ ?_
    · have := Nat.pow_lt_pow_right (a := 2) (by omega) hlt
      simpa using by exact_mod_cast this
    · rw [W_succ (by omega)]; exact hnx hlt _ _ ⟨rfl, rfl⟩
  have hin : i = n := by omega
  subst hin
  refine bs_f (by simp) ?_
  rename_i h1
  rw [← e1] at l1
  intro rs hrs
  refine setH_of fun h2 e2 => ?_
  intro rn hrn
  refine setH_of fun h3 e3 => ?_
  intro B hB
  refine setH_of fun h4 e4 => ?_
  have l2 : h1.le h2 := e2 ▸ Hp.le_set _ hrs
  have l3 : h2.le h3 := e3 ▸ Hp.le_set _ hrn
  have l4 : h3.le h4 := e4 ▸ le_row _ _ hB
  have f2 : h2 rs = some (.inr []) := by rw [e2, Hp.set_eq]
  have f3 : h3 rn = some (.inr []) := by rw [e3, Hp.set_eq]
  have f4 : h4 B = some (.inl ⟨[I i, .slice none 0 0, I 0, .map (some rs), .map (some rn)], 5, false⟩) := by rw [e4, row_self]
  have far : rs ≠ rn := fresh_ne hrn f2
  have inv : BI h4 B rs rn i ⟨none, 0, 0⟩ [] [] := ⟨f4, buf_nil _ _, l4 _ _ (l3 _ _ f2), l4 _ _ f3, far, by simp, by simp⟩
  have l14 : h1.le h4 := Hp.le_trans l2 (Hp.le_trans l3 l4)
  have hp2 : 2 ^ i ≤ 8192 := by
    have := Nat.pow_le_pow_right (n := 2) (by omega) hn
    simpa using this
  have hB1 : h1 B = none := none_of_le (Hp.le_trans l2 l3) hB
  have len := mkD_len i f 0 []
  simp only [List.length_nil] at len
  refine build_spec hn i f 0 t h4 ⟨none, 0, 0⟩ [] [] h1 _ inv l14 hB1 hrs (none_of_le l2 hrn) (by simp) (ht.mono l1) (by omega) (by simp; omega) ?_
  intro s5 es5 h5 inv5 l5 _
  have hs5 : s5.n = (mkD i f 0 []).2.length := by have := inv5.buf.1; rw [ndCells_len] at this; omega
  have b1B : b1 ≠ B := fun h => by subst h; rw [e1, row_self] at hB1; cases hB1
  have g1 : h5 b1 = some (.inl ⟨[I 0, .slice none 0 0, I 0], 3, false⟩) := l5 _ _ (by rw [e1, row_self])
  simp only [vm, mm, inv5.row]
  refine ⟨_, rfl, by omega, ?_⟩
  rw [hs5]
  have g1' : (h5.row B [I i, s5.v, I (mkD i f 0 []).1, .map (some rs), .map (some rn)] 5) b1 = some (.inl ⟨[I 0, .slice none 0 0, I 0], 3, false⟩) := by rw [row_ne _ _ b1B]; exact g1
  have l15 : h.le (h5.row B [I i, s5.v, I (mkD i f 0 []).1, .map (some rs), .map (some rn)] 5) := le_row_of _ _ (none_of_le l1 hB1) (Hp.le_trans l1 l5)
  refine bsplit_of (fun e => ?_) (fun e => ?_)
  · have e' : 600 < (mkD i f 0 []).2.length := by simp at e; omega
    simp only [vm, mm, g1']
    exact ⟨by omega, _, le_row_of _ _ hb1 l15, k0 (by simp [toldD, e'])⟩
  · have e' : ¬ 600 < (mkD i f 0 []).2.length := by simp at e; omega
    have hbuf : SlC (h5.row B [I i, s5.v, I (mkD i f 0 []).1, .map (some rs), .map (some rn)] 5) s5 3 (ndCells (mkD i f 0 []).2) := by
      refine Buf.slc ⟨inv5.buf.1, inv5.buf.2.1, inv5.buf.2.2.imp id ?_⟩ (by omega)
      rintro ⟨c, hc, hcb⟩
      exact ⟨c, hc, by rw [row_ne _ _ (inv5.own _ hc)]; exact hcb⟩
    refine clone_spec hbuf (by omega) fun t6 h6 l6 ho => ⟨_, _, _, rfl, ?_⟩
    have g6 := l6 _ _ g1'
    simp only [vm, mm, g6]
    refine ⟨by omega, _, Hp.le_refl _, k1 _ (by simp [toldD, e']) t6 _ (le_row_of _ _ hb1 (Hp.le_trans l15 l6)) (ho.mono ?_)⟩
    exact keep_row _ _ (sub_none g1') (sub_anti _ l15)

end Go.Lead
