/- What the reference's look for what follows computes. -/
import Derived.Test.YthgleoodmgophaaB1
namespace Go.Lead
open Go
set_option linter.unusedSimpArgs false
set_option linter.unusedVariables false

theorem drop_step {α : Type} {l : List α} {i : Nat} (hi : i < l.length) : l.drop i = l[i] :: l.drop (i + 1) := List.drop_eq_getElem_cons hi

theorem l10Has_spec {h : Hp} {s : Sl} {xs : List Int} {n : Int} {R : Value → Hp → Prop} (hs : IntS h s xs) (k : R (.bool (xs.contains n)) h) : c_spec_l10Has #[s.v, I n] h R := by
  apply R_spec_l10Has
  unfold F_spec_l10Has
  have hb := hs.bound
  refine loop_up xs.length (fun i vs h' => vs = [s.v, I n, I i] ∧ h' = h ∧ (xs.take i).any (fun x => x == n) = false) ⟨rfl, rfl, by simp⟩ ?_
  rintro i _ _ next hi ⟨rfl, rfl, hp⟩ hn
  refine ⟨_, _, _, rfl, ?_⟩
  have hca : xs.contains n = xs.any (fun x => x == n) := by
    rw [Bool.eq_iff_iff, List.contains_iff_mem, List.any_eq_true]
    simp
  rw [hca] at k
  by_cases hlt : i < xs.length
  · obtain ⟨b, o, ha, hc⟩ := hs.at hlt
    refine bs_t (by simp [hs.len, hlt]) ?_
    simp only [vm, hs.len, ha, hc, W_succ (n := i) (by omega)]
    refine ⟨by omega, bsplit_of (fun he => ?_) (fun he => ?_)⟩
    · rwa [any_true (xs := xs) (p := fun x => x == n) hlt he] at k
    · exact hn hlt _ _ ⟨rfl, rfl, by rw [any_step hlt, hp, he]; rfl⟩
  · have : i = xs.length := by omega
    subst this
    rw [List.take_length] at hp
    refine bs_f (by simp [hs.len]) ?_
    rwa [hp] at k

theorem l10Left_spec {h : Hp} {s t : Sl} {xs set : List Int} {R : Value → Hp → Prop} (hs : IntS h s xs) (ht : IntS h t set) (hx : ∀ x ∈ xs, -10 ≤ x ∧ x ≤ 10)
    (k : R (.tuple #[I (leftP set xs 0).1, .bool (leftP set xs 0).2]) h) : c_spec_l10Left #[s.v, t.v] h R := by
  apply R_spec_l10Left
  unfold F_spec_l10Left
  have hb := hs.bound
  refine loop_up xs.length (fun i vs h' => h' = h ∧ ∃ cur, vs = [s.v, t.v, I cur, I i] ∧ leftP set (xs.drop i) cur = leftP set xs 0) ⟨rfl, 0, rfl, rfl⟩ ?_
  rintro i _ _ next hi ⟨rfl, cur, rfl, hp⟩ hn
  refine ⟨_, _, _, _, rfl, ?_⟩
  by_cases hlt : i < xs.length
  · obtain ⟨b, o, ha, hc⟩ := hs.at hlt
    have hxi := hx _ (List.getElem_mem hlt)
    refine bs_t (by simp [hs.len, hlt]) ?_
    simp only [vm, hs.len, ha, hc, W_succ (n := i) (by omega), joinP]
    rw [drop_step hlt] at hp
    simp only [leftP] at hp
    refine ⟨by omega, l10Has_spec ht ⟨_, rfl, bsplit_of (fun he => ?_) (fun he => ?_)⟩⟩
    · rw [if_pos he] at hp
      rwa [← hp] at k
    simp only [he, Bool.false_eq_true, if_false] at hp
    simp only [vm, hc]
    refine ⟨by omega, ?_⟩
    rw [W_id (n := 0 - xs[i]) (by omega) (by omega), Int.zero_sub]
    refine l10Has_spec ht ⟨_, rfl, bsplit_of (fun he2 => ?_) (fun he2 => ?_)⟩
    · have he2' : set.contains (-xs[i]) = false := by simpa using he2
      simp only [he2', Bool.false_eq_true, if_false] at hp
      simp only [vm, hc]
      refine bsplit_of (fun h0 => ?_) (fun h0 => ?_)
      · refine ⟨by omega, bsplit_of (fun h1 => ?_) (fun h1 => ?_)⟩
        · rw [h0, h1] at hp
          simp only [Bool.and_self, if_true] at hp
          rwa [← hp] at k
        · rw [h0, h1] at hp
          simp only [Bool.and_false, Bool.false_eq_true, if_false] at hp
          exact ⟨by omega, hn hlt _ _ ⟨rfl, _, rfl, hp⟩⟩
      · rw [h0] at hp
        simp only [Bool.false_and, Bool.false_eq_true, if_false] at hp
        exact ⟨by omega, hn hlt _ _ ⟨rfl, _, rfl, hp⟩⟩
    · have he2' : set.contains (-xs[i]) = true := by simpa using he2
      rw [if_pos he2'] at hp
      exact hn hlt _ _ ⟨rfl, _, rfl, hp⟩
  · have : i = xs.length := by omega
    subst this
    rw [List.drop_length] at hp
    refine bs_f (by simp [hs.len]) ?_
    rw [← hp] at k
    exact k

/-- A list of numbers of one's own that grows. -/
def IBuf (h : Hp) (s : Sl) (xs : List Int) : Prop := Buf h s 1 (xs.map I)
theorem IBuf.len {h : Hp} {s : Sl} {xs : List Int} (e : IBuf h s xs) : s.n = xs.length := by have := e.1; simp at this; omega
theorem IBuf.ints {h : Hp} {s : Sl} {xs : List Int} (e : IBuf h s xs) (hn : xs.length ≤ 1048576) : IntS h s xs := Buf.slc e (by rw [e.len]; omega)
theorem IBuf.mono {h h' : Hp} {s : Sl} {xs : List Int} (l : h.le h') (e : IBuf h s xs) : IBuf h' s xs := Buf.mono l e
/-- One number more. -/
theorem aApp_int {h : Hp} {s : Sl} {xs : List Int} {x : Int} {b : Nat} {K : Option Addr → Nat → Nat → Hp → Prop} (hb : IBuf h s xs) (hl : xs.length ≤ 1048576) (hc : Hp.cell h b 0 = some (I x))
    (k : ∀ (s' : Sl) (h' : Hp), IBuf h' s' (xs ++ [x]) → (h.offS s).le (h'.offS s') → K s'.a s'.n s'.c h') : aApp h s.a s.n s.c (some ⟨b, 0, none⟩) 1 1 8 K := by
  refine aApp_buf hb (by omega) (by rw [hb.len]; omega) (by rw [hb.len]; omega) ⟨b, 0, rfl, fun i v hi => ?_⟩ (news := [I x]) rfl rfl ?_
  · cases i with
    | zero => simp at hi; subst hi; exact hc
    | succ i => simp at hi
  · intro s' h' hn hbuf hle _
    exact k s' h' (by unfold IBuf; rw [List.map_append]; exact hbuf) hle

end Go.Lead
