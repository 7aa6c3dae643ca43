/- What the program's SatUnits computes, and the walk of its law. -/
import Derived.Test.YthcnlmahlmndhaaU4
namespace Go.Lead
open Go
set_option linter.unusedSimpArgs false
set_option linter.unusedVariables false

theorem impl_SatUnits_spec {h : Hp} {s g : Sl} {cls : List (List Int)} {given : List Int} {v : Int} {R : Value → Hp → Prop} (hs : IntSS h s cls) (hg : IntS h g given)
    (k : ∀ t h', h.le h' → Own (h'.sub h) t 1 ((satUnits v cls given).1.map I) → R (.tuple #[Sl.v t, .bool (satUnits v cls given).2]) h') : c_impl_SatUnits #[.agg #[I v, s.v], g.v] h R := by
  apply R_impl_SatUnits
  unfold F_impl_SatUnits
  intro b hb
  have l0 := le_row [I v, s.v] 2 hb
  simp only [vm, mm]
  refine joinP_of (fun J => J (!(CnfOkB v cls && ClauseOk v given)) (h.row b [I v, s.v] 2)) ?_ ?_
  rotate_left
  · intro J hJ
    refine impl_CnfOk_spec (hs.mono l0) ⟨_, rfl, bsplit_of (fun e => ?_) (fun e => ?_)⟩
    · have e' : CnfOkB v cls = false := by simpa using e
      rwa [e'] at hJ
    · have e' : CnfOkB v cls = true := by simpa using e
      have hv := (CnfOkB.iff.1 e').1
      rw [e', Bool.true_and] at hJ
      simp only [vm, mm]
      exact clauseOk_spec (hg.mono l0) (by omega) (by omega) ⟨_, rfl, hJ⟩
  refine bsplit_of (fun e => ?_) (fun e => ?_)
  · have e' : (CnfOkB v cls && ClauseOk v given) = false := by rw [← Bool.not_eq_true']; exact e
    rw [satUnits, e'] at k
    exact k ⟨none, 0, 0⟩ _ l0 (own_nil _ _)
  have e' : (CnfOkB v cls && ClauseOk v given) = true := by simpa using e
  obtain ⟨ec, eg⟩ := Bool.and_eq_true_iff.1 e'
  obtain ⟨hv, hx, hcl⟩ := CnfOkB.iff.1 ec
  rw [satUnits, e', if_pos rfl] at k
  obtain ⟨m, rfl⟩ : ∃ m : Nat, v = m := ⟨v.toNat, by omega⟩
  simp only [vm, mm]
  refine impl_units_spec (v := m) (hs.mono l0) (hg.mono l0) (by omega) (by omega) (fun l hl => ClauseOk.all (hcl l hl)) (ClauseOk.all eg) ?_ ?_
  · intro hno h1 l1
    rw [hno] at k
    exact ⟨none, _, rfl, bs_t rfl (k ⟨none, 0, 0⟩ _ (Hp.le_trans l0 l1) (own_nil _ _))⟩
  · intro set hset hkn rm h1 hgr
    rw [hset] at k
    simp only [Int.toNat_natCast] at k
    have hsl := hkn.len (by omega) (by omega)
    refine ⟨some rm, _, rfl, bs_f rfl ?_⟩
    have l1 := hgr.le
    have f1 := l1 _ _ (row_self ..)
    refine loop_up m (fun i vs h' => ∃ o, vs = [.pointer (some ⟨b, 0, none⟩), .map (some rm), Sl.v o, I (i + 1 : Nat)] ∧ Grown h1 h' o (outP i set)) ⟨⟨none, 0, 0⟩, rfl, Grown.start _⟩ ?_
    rintro i _ h2 next hi ⟨o, rfl, hgo⟩ hn
    refine ⟨_, _, _, _, _, rfl, ?_⟩
    have f2 := hgo.keep _ _ f1
    have fm := hgo.keep _ _ hgr.map
    have hol := outP_len i set
    simp only [vm, mm, cell_of f2]
    by_cases hlt : i < m
    · have w1 : W (((i + 1 : Nat) : Int) + 1) = ((i + 1 + 1 : Nat) : Int) := W_succ (by omega)
      have w2 : W (0 - ((i + 1 : Nat) : Int)) = -((i : Int) + 1) := by rw [W_id (by omega) (by omega)]; omega
      have w3 : ((i + 1 : Nat) : Int) = (i : Int) + 1 := by omega
      have hout := outP_succ i set
      obtain ⟨res, hm, hget, _⟩ := mlook_set set ((i : Int) + 1)
      obtain ⟨res2, hm2, hget2, _⟩ := mlook_set set (-((i : Int) + 1))
      refine bs_t (by simp; omega) ?_
      simp only [w1, w2]
      simp only [w3]
      refine ⟨rm, _, res, rfl, fm, hm, _, hget, bsplit_of (fun he => ?_) (fun he => ?_)⟩
      · rw [if_pos he] at hout
        exact fun b3 hb3 => hgo.app (by omega) hb3 fun o'' h4 hg4 => hn hlt _ _ ⟨o'', rfl, by rw [hout]; exact hg4⟩
      · rw [if_neg (by rw [he]; simp)] at hout
        refine ⟨rm, _, res2, rfl, fm, hm2, _, hget2, bsplit_of (fun he2 => ?_) (fun he2 => ?_)⟩
        · rw [if_pos he2] at hout
          exact fun b3 hb3 => hgo.app (by omega) hb3 fun o'' h4 hg4 => hn hlt _ _ ⟨o'', rfl, by rw [hout]; exact hg4⟩
        · rw [if_neg (by rw [he2]; simp), List.append_nil] at hout
          exact hn hlt _ _ ⟨o, rfl, by rw [hout]; exact hgo⟩
    · have : i = m := by omega
      subst this
      refine bs_f (by simp; omega) ?_
      exact k o _ (Hp.le_trans l0 (Hp.le_trans l1 hgo.keep)) ((hgo.own (by omega)).mono (sub_anti _ (Hp.le_trans l0 l1)))

theorem satUnits_len (v : Int) (cls : List (List Int)) (given : List Int) : (satUnits v cls given).1.length ≤ 10 := by
  unfold satUnits
  split
  · rename_i h
    have hv := (CnfOkB.iff.1 (Bool.and_eq_true_iff.1 h).1).1
    split
    · simp
    · rename_i set _
      have := outP_len v.toNat set
      simp only; omega
  · simp

end Go.Lead
