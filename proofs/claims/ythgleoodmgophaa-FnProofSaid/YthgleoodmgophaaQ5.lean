/- The walks of the laws of proofs of cores, and of proofs with more ahead of them. -/
import Derived.Test.YthgleoodmgophaaP7
namespace Go.Lead
open Go
set_option linter.unusedSimpArgs false
set_option linter.unusedVariables false

theorem IntS.one {h : Hp} {b : Nat} {x : Int} {n : Nat} {ro : Bool} (e : h b = some (.inl ⟨[I x], n, ro⟩)) : IntS h ⟨some ⟨b, 0, none⟩, 1, 1⟩ [x] := ⟨by simp, by simp, .inr ⟨b, 0, rfl, cellsAre_of e⟩⟩

theorem GoodCnf_spec {h : Hp} {s : Sl} {bs : List Nat} {R : Value → Hp → Prop} (hcap : s.n ≤ s.c) (hs : ByteS h s bs)
    (k : ∀ v t cls h', CnfOkB v cls = true → h.le h' → IntSS h' t cls → R (.agg #[I v, Sl.v t]) h') : c_spec_GoodCnf #[s.v] h R := by
  apply R_spec_GoodCnf
  unfold F_spec_GoodCnf
  intro b3 hb3
  have l3 := le_row [I 0, .slice none 0 0] 2 hb3
  simp only [vm, mm]
  refine l17Open_spec hcap (hs.mono l3) fun B s' bs' hB rd => ⟨_, rfl, ?_⟩
  rw [row_none] at hB
  have f3 : ((h.row b3 [I 0, .slice none 0 0] 2).row B [s'.v, I (0 : Nat)] 2) b3 = some (.inl ⟨[I 0, .slice none 0 0], 2, false⟩) := by rw [row_ne _ _ hB.1.symm, row_self]
  have lH : h.le ((h.row b3 [I 0, .slice none 0 0] 2).row B [s'.v, I (0 : Nat)] 2) := le_row_of _ _ hB.2 l3
  refine cnf_spec rd (by omega) fun v t cls h1 q hd hq hfr rd1 hss => ⟨_, _, rfl, ?_⟩
  have f31 : h1 b3 = some (.inl ⟨[I 0, .slice none 0 0], 2, false⟩) := off_le _ _ _ _ (hfr _ _ (by rw [Hp.off, Hp.set_ne _ _ hB.1.symm]; exact f3))
  have lh1 : h.le h1 := Hp.le_trans (le_off (b := B) hB.2 lH) (Hp.le_trans hfr (off_le _ _))
  generalize hH2 : (h.row b3 [I 0, .slice none 0 0] 2).row B [s'.v, I (0 : Nat)] 2 = H2 at *
  intro b4 hb4
  have n34 := fresh_ne hb4 f31
  have l4 := le_row [I v, t.v] 2 hb4
  have f4 := row_self h1 b4 [I v, t.v] 2
  have f34 := l4 _ _ f31
  generalize hh2 : h1.row b4 [I v, t.v] 2 = h2 at *
  refine ⟨by omega, ?_⟩
  refine spec_CnfOk_spec ((hss.mono (sub_le _ _)).mono l4) ⟨_, rfl, bsplit_of (fun e => ?_) (fun e => ?_)⟩
  · intro b5 hb5
    rintro b6 ⟨n65, hb6⟩ b7 ⟨n76, n75, hb7⟩
    have n35 := fresh_ne hb5 f34
    have n36 := fresh_ne hb6 f34
    have n37 := fresh_ne hb7 f34
    have n56 := Ne.symm n65
    have n57 := Ne.symm n75
    have n67 := Ne.symm n76
    have n53 := n35.symm
    have n63 := n36.symm
    have n73 := n37.symm
    simp only [vm, mm, n35, n36, n37, n56, n57, n67, n65, n75, n76, f34, ne_eq, not_false_eq_true]
    refine ⟨by omega, ?_⟩
    refine k 1 ⟨some ⟨b7, 0, none⟩, 2, 2⟩ [[1], [-1]] _ (by decide) (le_row_of _ _ hb3 (le_row_of _ _ (none_of_le (Hp.le_trans lh1 l4) hb7) (le_row_of _ _ (none_of_le (Hp.le_trans lh1 l4) hb6) (le_row_of _ _ (none_of_le (Hp.le_trans lh1 l4) hb5) (Hp.le_trans lh1 l4))))) ?_
    refine ⟨[⟨some ⟨b5, 0, none⟩, 1, 1⟩, ⟨some ⟨b6, 0, none⟩, 1, 1⟩], rfl, ⟨by simp, by simp, .inr ⟨b7, 0, rfl, cellsAre_of (by rw [row_ne _ _ n73, row_self]; rfl)⟩⟩, ?_⟩
    intro i h1 h2
    have : i = 0 ∨ i = 1 := by simp at h1; omega
    rcases this with rfl | rfl
    · exact IntS.one (by rw [row_ne _ _ n53, row_ne _ _ n57, row_ne _ _ n56, row_self])
    · exact IntS.one (by rw [row_ne _ _ n63, row_ne _ _ n67, row_self])
  · have e' : CnfOkB v cls = true := by simpa using e
    simp only [vm, mm, cell_of f4, f34]
    refine ⟨by omega, k v t cls _ e' (le_row_of _ _ hb3 (Hp.le_trans lh1 l4)) (hss.mono fun c x hc => ?_)⟩
    have hn2 : H2 c = none := sub_some_none (by rw [hc]; simp)
    have hc1 : h1 c = some x := by rw [sub_at hn2] at hc; exact hc
    have hc3 : c ≠ b3 := fun hh => by rw [hh, f3] at hn2; cases hn2
    rw [row_ne _ _ hc3]
    exact l4 _ _ hc1

end Go.Lead
