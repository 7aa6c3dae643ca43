/- What the reference's SatUnits computes. -/
import Derived.Test.YthcnlmahlmndhaaU2
namespace Go.Lead
open Go
set_option linter.unusedSimpArgs false
set_option linter.unusedVariables false

theorem Grown.own {h h' : Hp} {t : Sl} {set : List Int} (e : Grown h h' t set) (hl : set.length ≤ 1048576) : Own (h'.sub h) t 1 (set.map I) := by
  have hn := e.buf.len
  refine ⟨e.buf.1, by omega, ?_⟩
  rcases e.buf.2.2 with ⟨_, h0, _⟩ | ⟨b, ha, hb⟩
  · exact .inl h0
  · refine .inr ⟨b, t.c * 1, ha, ?_⟩
    rw [sub_at]
    · exact hb
    · refine none_of_le e.le ?_
      simp [Hp.offS, ha, Hp.off, Hp.set]
theorem Grown.start (h : Hp) : Grown h h ⟨none, 0, 0⟩ [] := ⟨buf_nil _ _, Hp.le_refl _⟩

theorem outP_succ (n : Nat) (set : List Int) : outP (n + 1) set = outP n set ++ (if set.contains ((n : Int) + 1) then [(n : Int) + 1] else if set.contains (-((n : Int) + 1)) then [-((n : Int) + 1)] else []) := by
  simp [outP, List.range_succ]
theorem outP_len (n : Nat) (set : List Int) : (outP n set).length ≤ n := by
  induction n with
  | zero => simp [outP]
  | succ n ih =>
    rw [outP_succ, List.length_append]
    split
    · simp; omega
    · split <;> simp <;> omega

/-- What both sides' SatUnits comes to. -/
def satUnits (v : Int) (cls : List (List Int)) (given : List Int) : List Int × Bool :=
  if CnfOkB v cls && ClauseOk v given then (match unitsP cls given with | none => ([], true) | some set => (outP v.toNat set, false)) else ([], false)
theorem ClauseOk.all {v : Int} {l : List Int} (e : ClauseOk v l = true) : ∀ x ∈ l, x ≠ 0 ∧ -v ≤ x ∧ x ≤ v := fun x hx => LitOk.iff.1 (ClauseOk.lit e hx)

theorem spec_SatUnits_spec {h : Hp} {s g : Sl} {cls : List (List Int)} {given : List Int} {v : Int} {R : Value → Hp → Prop} (hs : IntSS h s cls) (hg : IntS h g given)
    (k : ∀ t h', h.le h' → Own (h'.sub h) t 1 ((satUnits v cls given).1.map I) → R (.tuple #[Sl.v t, .bool (satUnits v cls given).2]) h') : c_spec_SatUnits #[.agg #[I v, s.v], g.v] h R := by
  apply R_spec_SatUnits
  unfold F_spec_SatUnits
  intro b hb
  have l0 := le_row [I v, s.v] 2 hb
  simp only [vm, mm]
  refine joinP_of (fun J => J (!(CnfOkB v cls && ClauseOk v given)) (h.row b [I v, s.v] 2)) ?_ ?_
  rotate_left
  · intro J hJ
    refine spec_CnfOk_spec (hs.mono l0) ⟨_, rfl, bsplit_of (fun e => ?_) (fun e => ?_)⟩
    · have e' : CnfOkB v cls = false := by simpa using e
      rwa [e'] at hJ
    · have e' : CnfOkB v cls = true := by simpa using e
      have hv := (CnfOkB.iff.1 e').1
      rw [e', Bool.true_and] at hJ
      simp only [vm, mm]
      exact l10Clause_spec (hg.mono l0) (by omega) (by omega) ⟨_, rfl, hJ⟩
  refine bsplit_of (fun e => ?_) (fun e => ?_)
  · have e' : (CnfOkB v cls && ClauseOk v given) = false := by rw [← Bool.not_eq_true']; exact e
    rw [satUnits, e'] at k
    exact k ⟨none, 0, 0⟩ _ l0 (own_nil _ _)
  have e' : (CnfOkB v cls && ClauseOk v given) = true := by simpa using e
  obtain ⟨ec, eg⟩ := Bool.and_eq_true_iff.1 e'
  obtain ⟨hv, hx, hcl⟩ := CnfOkB.iff.1 ec
  rw [satUnits, e', if_pos rfl] at k
  obtain ⟨m, rfl⟩ : ∃ m : Nat, v = m := ⟨v.toNat, by omega⟩
  simp only [vm, mm]
  refine spec_l10Units_spec (v := m) (hs.mono l0) (hg.mono l0) (by omega) (by omega) (fun l hl => ClauseOk.all (hcl l hl)) (ClauseOk.all eg) ?_ ?_
  · intro hno h1 l1
    rw [hno] at k
    refine ⟨⟨none, 0, 0⟩, _, rfl, ?_⟩
    have f1 := l1 _ _ (row_self ..)
    refine loop_up 0 (fun i vs h' => vs = [.pointer (some ⟨b, 0, none⟩), .slice none 0 0, .bool true, .slice none 0 0, I 1] ∧ h' = h1) ⟨rfl, rfl⟩ ?_
    rintro i _ _ next hi ⟨rfl, rfl⟩ hn
    refine ⟨_, _, ⟨none, 0, 0⟩, _, ⟨none, 0, 0⟩, _, rfl, ?_⟩
    refine joinP_of (fun J => J false) ?_ ?_
    · exact bs_f rfl (k ⟨none, 0, 0⟩ _ (Hp.le_trans l0 l1) (own_nil _ _))
    · intro J hJ
      simp only [vm, mm, cell_of f1]
      exact bs_t (by simp; omega) hJ
  · intro set hset hkn t h1 hgr
    rw [hset] at k
    simp only [Int.toNat_natCast] at k
    have hsl := hkn.len (by omega) (by omega)
    refine ⟨_, _, rfl, ?_⟩
    have l1 := hgr.keep
    have f1 := l1 _ _ (row_self ..)
    refine loop_up m (fun i vs h' => ∃ o, vs = [.pointer (some ⟨b, 0, none⟩), Sl.v t, .bool false, Sl.v o, I (i + 1 : Nat)] ∧ Grown h1 h' o (outP i set)) ⟨⟨none, 0, 0⟩, rfl, Grown.start _⟩ ?_
    rintro i _ h2 next hi ⟨o, rfl, hgo⟩ hn
    refine ⟨_, _, _, _, _, _, rfl, ?_⟩
    have f2 := hgo.keep _ _ f1
    have hol := outP_len i set
    have hti := (hgr.buf.ints (by omega))
    by_cases hlt : i < m
    · refine joinP_of (fun J => J true) ?_ ?_
      · refine bs_t rfl (l10Has_spec (hti.mono hgo.keep) ⟨_, rfl, ?_⟩)
        have w1 : W (((i + 1 : Nat) : Int) + 1) = ((i + 1 + 1 : Nat) : Int) := W_succ (by omega)
        have w2 : W (0 - ((i + 1 : Nat) : Int)) = -((i : Int) + 1) := by rw [W_id (by omega) (by omega)]; omega
        have w3 : ((i + 1 : Nat) : Int) = (i : Int) + 1 := by omega
        simp only [w1, w2]
        simp only [w3]
        have hout := outP_succ i set
        refine joinP_of (fun J => ∀ o' h3, Grown h1 h3 o' (if set.contains ((i : Int) + 1) then outP i set ++ [(i : Int) + 1] else outP i set) → J o' h3) ?_ ?_
        · intro o' h3 hgo'
          refine l10Has_spec (hti.mono hgo'.keep) ⟨_, rfl, bsplit_of (fun he => ?_) (fun he => ?_)⟩
          · have hne : set.contains ((i : Int) + 1) = false := by
              have h9 := hkn.cons (-((i : Int) + 1)) (by simpa using he)
              rw [Int.neg_neg] at h9
              simpa using h9
            rw [hne, if_neg (by simp)] at hgo' hout
            rw [if_pos he] at hout
            refine fun b3 hb3 => hgo'.app (by omega) hb3 fun o'' h4 hg4 => hn hlt _ _ ⟨o'', rfl, ?_⟩
            rw [hout]; exact hg4
          · refine hn hlt _ _ ⟨o', rfl, ?_⟩
            rw [hout]
            split
            · rename_i hh; rw [if_pos hh] at hgo'; exact hgo'
            · rename_i hh; rw [if_neg hh] at hgo'; rw [if_neg (by rw [he]; simp), List.append_nil]; exact hgo'
        · intro J hJ
          refine bsplit_of (fun he => ?_) (fun he => ?_)
          · rw [if_pos he] at hJ
            exact fun b3 hb3 => hgo.app (by omega) hb3 fun o'' h4 hg4 => hJ ⟨o''.a, o''.n, o''.c⟩ h4 hg4
          · rw [if_neg (by rw [he]; simp)] at hJ
            exact hJ o h2 hgo
      · intro J hJ
        simp only [vm, mm, cell_of f2]
        exact bs_t (by simp; omega) hJ
    · have : i = m := by omega
      subst this
      refine joinP_of (fun J => J false) ?_ ?_
      · exact bs_f rfl (k o _ (Hp.le_trans l0 (Hp.le_trans l1 hgo.keep)) ((hgo.own (by omega)).mono (sub_anti _ (Hp.le_trans l0 l1))))
      · intro J hJ
        simp only [vm, mm, cell_of f2]
        exact bs_f (by simp; omega) hJ

end Go.Lead
