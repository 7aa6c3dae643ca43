/- What both sides' sets of clauses compute, and the walk of the law. -/
import Derived.Test.YthgleoodmgophaaD1
namespace Go.Lead
open Go
set_option linter.unusedSimpArgs false
set_option linter.unusedVariables false

theorem l7Of_spec {h : Hp} {t : Sl} {n : Nat} {T : Nat → Bool} {R : Value → Hp → Prop} (hn : n ≤ 13) (ht : BoolT h t (2 ^ n) T)
    (k : ∀ s h', h.le h' → Own (h'.sub h) s 3 (ndCells (toldP n T).ns) → R (.tuple #[.agg #[I (toldP n T).v, Sl.v s, I (toldP n T).r], .bool (toldP n T).ok]) h') : c_spec_l7Of #[I n, t.v] h R := by
  apply R_spec_l7Of
  unfold F_spec_l7Of
  intro b4 hb4
  simp only [vm, mm]
  rintro b7 ⟨n74, hb7⟩
  have n47 := n74.symm
  have l4 := le_row [I 0, .slice none 0 0, I 0] 3 hb4
  have hg7 : (h.row b4 [I 0, .slice none 0 0, I 0] 3) b7 = none := by rw [row_none]; exact ⟨n74, hb7⟩
  have l7 := le_row [I n, t.v, .slice none 0 0] 3 hg7
  have h2 : 2 ^ n ≤ 8192 := by
    have := Nat.pow_le_pow_right (n := 2) (by omega) hn
    simpa using this
  have hml := mkD_len n T 0 []
  simp only [List.length_nil] at hml
  have hT : (fun i => T (0 + i * 2 ^ 0)) = T := by funext i; congr 1; omega
  refine make_spec (K := b7) (vars := n) (T := T) hn n 0 0 _ ⟨none, 0, 0⟩ [] (h.row b4 [I 0, .slice none 0 0, I 0] 3) _ ⟨row_self .., buf_nil _ _, fun a ha => by cases ha⟩ l7 hg7 (fun a ha => by cases ha) (ht.mono l4) (by omega) (by omega) (by simp; omega) ?_
  intro s' h' inv lg gs
  rw [hT] at inv ⊢
  have f4 := lg _ _ (row_self ..)
  have hsn := inv.len
  refine ⟨_, rfl, ?_⟩
  simp only [vm, mm, cell_of inv.row, f4, hsn]
  have hto : toldP n T = if 600 < (mkD n T 0 []).2.length then noBd else ⟨n, (mkD n T 0 []).2, (mkD n T 0 []).1, true⟩ := by
    unfold toldP toldD
    rw [if_pos (by omega), Int.toNat_natCast]
    split
    · rename_i h; split at h
      · rename_i h'; rw [if_pos h']
      · cases h
    · rename_i r h; split at h
      · cases h
      · rename_i h'; cases h; rw [if_neg h']
  rw [hto] at k
  refine bsplit_of (fun e => ?_) (fun e => ?_)
  · have e' : 600 < (mkD n T 0 []).2.length := by simp at e; omega
    rw [if_pos e'] at k
    exact ⟨by omega, k ⟨none, 0, 0⟩ _ (le_row_of _ _ hb4 (Hp.le_trans l4 lg)) (own_nil _ _)⟩
  · have e' : ¬ 600 < (mkD n T 0 []).2.length := by simp at e; omega
    rw [if_neg e'] at k
    refine ⟨by omega, k s' _ (le_row_of _ _ hb4 (Hp.le_trans l4 lg)) (Buf.own ⟨inv.buf.1, inv.buf.2.1, inv.buf.2.2.imp id ?_⟩ (by omega))⟩
    rintro ⟨c, hc, hcb⟩
    have hgc := gs _ hc
    rw [row_none] at hgc
    exact ⟨c, hc, by rw [sub_at hgc.2, row_ne _ _ hgc.1]; exact hcb⟩

theorem toldP_len (v : Int) (f : Nat → Bool) : (toldP v f).ns.length ≤ 600 := by
  unfold toldP toldD
  split
  · split
    · simp [noBd]
    · rename_i r h
      split at h
      · cases h
      · cases h; simp only; omega
  · simp [noBd]
end Go.Lead
