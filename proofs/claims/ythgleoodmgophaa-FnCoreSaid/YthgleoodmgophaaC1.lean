/- Copies of lists of numbers, and lists without some. -/
import Derived.Test.YthgleoodmgophaaS3
namespace Go.Lead
open Go
set_option linter.unusedSimpArgs false
set_option linter.unusedVariables false

theorem map_I_one (xs : List Int) : (xs.map I).all (·.oneCell') = true := by
  rw [List.all_eq_true]
  intro v hv
  obtain ⟨x, _, rfl⟩ := List.mem_map.1 hv
  rfl
theorem IntS.slc {h : Hp} {s : Sl} {xs : List Int} (e : IntS h s xs) : SlC h s 1 (xs.map I) := e

theorem cloneInts_spec {h : Hp} {s : Sl} {xs : List Int} {R : Value → Hp → Prop} (hs : IntS h s xs) (hl : xs.length ≤ 1048576)
    (k : ∀ t h', h.le h' → Buf (h'.sub h) t 1 (xs.map I) → R (Sl.v t) h') : c_impl_cloneInts #[s.v] h R := by
  apply R_impl_cloneInts
  unfold F_impl_cloneInts
  have := hs.len
  exact aApp_copy hs (by omega) (map_I_one _) fun t h' hn hle hb => k t h' hle hb

theorem Clone_int_spec {h : Hp} {s : Sl} {xs : List Int} {R : Value → Hp → Prop} (hs : IntS h s xs) (hl : xs.length ≤ 1048576)
    (k : ∀ t h', h.le h' → Buf (h'.sub h) t 1 (xs.map I) → R (Sl.v t) h') : c_slices_Clone_Sint_int #[s.v] h R := by
  apply R_slices_Clone_Sint_int
  unfold F_slices_Clone_Sint_int
  have hn := hs.len
  refine bsplit_of (fun e => ?_) (fun e => ?_)
  · have : s.n = 0 := by
      rcases hs.2.2 with h0 | ⟨b, o, ha, _⟩
      · exact h0
      · rw [ha] at e; cases e
    have hx : xs = [] := List.eq_nil_of_length_eq_zero (by omega)
    subst hx
    exact k ⟨none, 0, 0⟩ h (Hp.le_refl _) (buf_nil _ _)
  · intro b hb
    refine setH_of fun h1 e1 => ?_
    have l1 : h.le h1 := e1 ▸ le_row _ _ hb
    have hbuf : Buf h1 ⟨some ⟨b, 0, none⟩, 0, 0⟩ 1 [] := ⟨by simp, by simp, .inr ⟨b, rfl, by rw [e1, row_self]; rfl⟩⟩
    by_cases h0 : s.n = 0
    · have hx : xs = [] := List.eq_nil_of_length_eq_zero (by omega)
      subst hx
      refine .inl ⟨h0, by omega, k ⟨some ⟨b, 0, none⟩, 0, 0⟩ h1 l1 ⟨by simp, by simp, .inr ⟨b, rfl, ?_⟩⟩⟩
      rw [sub_at hb, e1, row_self]; rfl
    · obtain ⟨c, o, ha, hc⟩ := SlC.get (SlC.mono l1 hs) (by omega)
      refine aApp_buf hbuf (by omega) (by show (0 + s.n) * 8 ≤ _; omega) (by show 0 + s.n ≤ _; omega) ⟨c, o, ha, fun i v hv => hc i v hv⟩ hs.2.1 (map_I_one _) ?_
      intro s' h' hn' hb' hl' _
      have hle : h.le (h'.offS s') := Hp.le_trans (by
        have : h.le (h1.offS ⟨some ⟨b, 0, none⟩, 0, 0⟩) := by
          simp only [Hp.offS]
          rw [e1, off_row, off_none hb]; exact Hp.le_refl _
        exact this) hl'
      refine k s' h' (Hp.le_trans hle (offS_le _ _)) ⟨hb'.1, hb'.2.1, hb'.2.2.imp id ?_⟩
      rintro ⟨d, hd, hdb⟩
      refine ⟨d, hd, ?_⟩
      rw [sub_at]
      · exact hdb
      · refine none_of_le hle ?_
        simp [Hp.offS, hd, Hp.off, Hp.set]

theorem lset_take : ∀ (vs cs : List Value) (o : Nat), (lset cs o vs).take o = cs.take o ∧ (lset cs o vs).length = cs.length := by
  intro vs
  induction vs with
  | nil => intro cs o; exact ⟨rfl, rfl⟩
  | cons v r ih =>
    intro cs o
    have h := ih (cs.set o v) (o + 1)
    simp only [lset]
    refine ⟨?_, by rw [h.2]; simp⟩
    have h1 := congrArg (List.take o) h.1
    rw [List.take_take, List.take_take, Nat.min_eq_left (by omega)] at h1
    rw [h1, List.take_set_of_le (Nat.le_refl o)]

theorem DeleteFunc_int_spec {h : Hp} {s : Sl} {xs : List Int} {f : FuncId} {u w : Array Value} (p : Int → Bool) {R : Value → Hp → Prop} (ho : Own h s 1 (xs.map I)) (hcap : s.n ≤ s.c) (hl : xs.length ≤ 1048576)
    (hf : ∀ x ∈ xs, ∀ h', (h.wo s.used).le h' → ∀ R : Value → Hp → Prop, R (.bool (p x)) h' → ACalls PR f ((u ++ #[I x]) ++ w) h' R)
    (k : ∀ s' h', (h.wo s.used).le h' → IntS h' s' (xs.filter fun x => !p x) → R (Sl.v s') h') : c_slices_DeleteFunc_Sint_int #[s.v, .func (.func f) u w] h R := by
  apply R_slices_DeleteFunc_Sint_int
  unfold F_slices_DeleteFunc_Sint_int
  have hs : IntS h s xs := ho.slc
  have hn : s.n = xs.length := hs.len
  refine IndexFunc_int_spec p hs (fun x hx R k => hf x hx h (wo_le _ _) R k) ⟨_, rfl, ?_⟩
  by_cases hany : xs.any p = false
  · rw [idxI_none hany]
    refine bs_t rfl (k s h (wo_le _ _) ?_)
    have : (xs.filter fun x => !p x) = xs := by
      rw [List.filter_eq_self]
      intro x hx
      rw [List.any_eq_false] at hany
      simpa using hany x hx
    rw [this]; exact hs
  rcases first_or p xs with hno | ⟨q, hq, hpq, hbef⟩
  · exact absurd (List.any_eq_false.2 fun x hx => by simp [hno x hx]) hany
  have htk : (xs.take q).any p = false := by
    rw [List.any_eq_false]
    intro x hx
    obtain ⟨j, hj, rfl⟩ := List.getElem_of_mem hx
    simp only [List.length_take] at hj
    rw [List.getElem_take]
    simp [hbef j (by omega) (by omega)]
  rw [idxI_some hq htk hpq]
  have hq0 : s.n ≠ 0 := by omega
  obtain ⟨b, z, ha, hb⟩ := ho.2.2.resolve_left hq0
  have hused : s.used = [b] := by simp [Sl.used, hq0, Sl.blk, ha]
  refine bs_f (by simp) ?_
  rw [W_succ (by omega)]
  have hft : ((xs.take q).filter fun x => !p x) = xs.take q := by
    rw [List.filter_eq_self]
    intro x hx
    rw [List.any_eq_false] at htk
    simpa using htk x hx
  have hft2 : ((xs.take (q + 1)).filter fun x => !p x) = xs.take q := by
    rw [List.take_succ_eq_append_getElem hq, List.filter_append, hft]; simp [hpq]
  refine loop_down (xs.length - (q + 1)) (fun r vs h' => ∃ m j cs, vs = [s.v, .func (.func f) u w, I (m : Nat), I (j : Nat)] ∧ h' = h.row b cs z ∧ cs.length = xs.length ∧ j ≤ xs.length ∧ m < j ∧
      cs.take m = ((xs.take j).filter fun x => !p x).map I ∧ cs.drop j = (xs.drop j).map I ∧ r = xs.length - j ∧ ((xs.take j).filter fun x => !p x).length = m)
    ⟨q, q + 1, xs.map I, rfl, ?_, by simp, by omega, by omega, by rw [hft2, List.map_take], by rw [List.map_drop], rfl, by rw [hft2]; simp; omega⟩ ?_
  · funext c
    by_cases hc : c = b
    · subst hc; rw [row_self, hb]
    · rw [row_ne _ _ hc]
  rintro r _ _ next ⟨m, j, cs, rfl, rfl, hcl, hj, hmj, htake, hdrop, rfl, hlen⟩ hnx
  refine ⟨_, _, _, _, _, _, rfl, ?_⟩
  have hle : (h.wo s.used).le (h.row b cs z) := by
    refine le_set_of _ (wo_le _ _) (wo_none (by simp [hused]))
  by_cases hlt : j < xs.length
  · have hcj : Hp.cell (h.row b cs z) b j = some (I xs[j]) := by
      rw [cell_row]
      have := congrArg (fun l : List Value => l[0]?) hdrop
      simp only [List.getElem?_drop, List.getElem?_map, Nat.add_zero] at this
      rw [this]; simp [hlt]
    refine bs_t (by simp [hn, hlt]) ?_
    simp only [vm, hn, ha, hcj, W_succ (n := j) (by omega), W_succ (n := m) (by omega)]
    refine ⟨by omega, hf _ (List.getElem_mem hlt) _ hle _ ⟨_, rfl, bsplit_of (fun he => ?_) (fun he => ?_)⟩⟩
    · have he' : p xs[j] = false := by simpa using he
      simp only [vm, mm]
      refine ⟨by omega, by omega, hnx (xs.length - (j + 1)) (by omega) _ _ ⟨m + 1, j + 1, _, rfl, rfl, by simpa using hcl, by omega, by omega, ?_, ?_, rfl, ?_⟩⟩
      · rw [take_set _ (by omega), htake, List.take_succ_eq_append_getElem hlt, List.filter_append, List.map_append]; simp [he']
      · rw [List.drop_set_of_lt (by omega), ← List.drop_drop (i := 1) (j := j)] 
        rw [hdrop, ← List.map_drop, List.drop_drop]
      · rw [List.take_succ_eq_append_getElem hlt, List.filter_append, List.length_append, hlen]; simp [he']
    · have he' : p xs[j] = true := by simpa using he
      refine hnx (xs.length - (j + 1)) (by omega) _ _ ⟨m, j + 1, cs, rfl, rfl, hcl, by omega, by omega, ?_, ?_, rfl, ?_⟩
      · rw [htake, List.take_succ_eq_append_getElem hlt, List.filter_append]; simp [he']
      · rw [← List.drop_drop (i := 1) (j := j), hdrop, ← List.map_drop, List.drop_drop]
      · rw [List.take_succ_eq_append_getElem hlt, List.filter_append, List.length_append, hlen]; simp [he']
  · have hjx : j = xs.length := by omega
    subst hjx
    rw [List.take_length] at htake hlen
    refine bs_f (by simp [hn]) ?_
    -- what is left over is cleared
    refine joinP_of (fun J => ∀ cs', cs'.length = xs.length → cs'.take m = (xs.filter fun x => !p x).map I → J (h.row b cs' z)) ?_ ?_
    · intro cs' hl' ht'
      have hle' : (h.wo s.used).le (h.row b cs' z) := le_set_of _ (wo_le _ _) (wo_none (by simp [hused]))
      simp only [vm, ha]
      have e0 : (if s.c = (Int.ofNat 0).toNat then 0 else (Int.ofNat 0).toNat) = 0 := by split <;> rfl
      rw [e0]
      have hflen : (xs.filter fun x => !p x).length = m := hlen
      have hmx : m ≤ xs.length := by omega
      refine ⟨by simp, by simp, by omega, .inr <| k ⟨some ⟨b, 0, none⟩, m, s.c⟩ _ hle' ⟨by show m ≤ _; omega, by simp [hflen], .inr ⟨b, 0, rfl, ?_⟩⟩⟩
      intro i v hv
      rw [cell_row, Nat.zero_add, ← hv, ← ht', List.getElem?_take_of_lt]
      rw [← ht'] at hv
      have := (List.getElem?_eq_some_iff.1 hv).1
      simp at this; omega
    · intro J hJ
      simp only [vm, ha]
      have hmx : m < xs.length := hmj
      have hz : (Int.ofNat s.n).toNat - m = xs.length - m := by simp [hn]
      refine ⟨by simp; omega, by simp; omega, .inr (.inr ⟨b, m, cs, z, by rw [if_neg (by omega)], row_self .., by rw [hz]; omega, rfl, by rw [hz]; omega, ?_⟩)⟩
      rw [row_row, setH_eq]
      refine hJ _ ?_ ?_
      · rw [(lset_take _ _ _).2]; exact hcl
      · rw [(lset_take _ _ _).1]; exact htake

end Go.Lead
