/- What both sides' SatCore computes. -/
import Derived.Test.YthgleoodmgophaaU4
namespace Go.Lead
open Go
set_option linter.unusedSimpArgs false
set_option linter.unusedVariables false

/-- Some of the clauses. -/
def sel (xss : List (List Int)) (ks : List Nat) : List (List Int) := ks.map fun j => xss.getD j []
def badSel (v : Nat) (xss : List (List Int)) (ks : List Nat) : Bool := decide (leastI (AllB (sel xss ks)) (2 ^ v) < 0)
def satCore (v : Int) (xss : List (List Int)) : List Int × Bool :=
  if CnfOkB v xss && decide (leastI (AllB xss) (2 ^ v.toNat) < 0) then ((keptP (badSel v.toNat xss) xss.length xss.length).map (fun (k : Nat) => (k : Int)), true) else ([], false)

theorem allW_sel {xss : List (List Int)} {want : List Bool} {ks : List Nat} (hl : want.length = xss.length) (hk : ∀ j (h : j < want.length), want[j] = true ↔ j ∈ ks) (hb : ∀ j ∈ ks, j < xss.length) (c : Nat) :
    AllW xss want c = AllB (sel xss ks) c := by
  rw [Bool.eq_iff_iff]
  simp only [AllW, AllB, sel, List.all_eq_true]
  constructor
  · intro h l hlm
    obtain ⟨j, hj, rfl⟩ := List.mem_map.1 hlm
    have hjx := hb j hj
    have := h (xss[j], want[j]'(by omega)) (by rw [List.mem_iff_getElem]; exact ⟨j, by simp [hl, hjx], by simp⟩)
    rw [(hk j (by omega)).2 hj] at this
    simpa [List.getD, hjx] using this
  · intro h p hp
    obtain ⟨j, hj, rfl⟩ := List.getElem_of_mem hp
    simp only [List.length_zip] at hj
    simp only [List.getElem_zip]
    cases hw : want[j]'(by omega) with
    | false => rfl
    | true =>
      have := h (xss.getD j []) (List.mem_map.2 ⟨j, (hk j (by omega)).1 hw, rfl⟩)
      simpa [List.getD, show j < xss.length by omega] using this

/-- A list of lists that grows, its pieces lying in a heap that is kept. -/
structure GrownSS (h h' : Hp) (t : Sl) (xss : List (List Int)) : Prop where
  buf : ∃ ts : List Sl, Buf h' t 1 (ts.map Sl.v) ∧ ts.length = xss.length ∧ ∀ (i : Nat) (h1 : i < ts.length) (h2 : i < xss.length), IntS h ts[i] xss[i]
  le : h.le (h'.offS t)
theorem GrownSS.keep {h h' : Hp} {t : Sl} {xss : List (List Int)} (e : GrownSS h h' t xss) : h.le h' := Hp.le_trans e.le (offS_le _ _)
theorem GrownSS.start (h : Hp) : GrownSS h h ⟨none, 0, 0⟩ [] := ⟨⟨[], buf_nil _ _, rfl, fun i h1 => by simp at h1⟩, Hp.le_refl _⟩
theorem GrownSS.ints {h h' : Hp} {t : Sl} {xss : List (List Int)} (e : GrownSS h h' t xss) (hl : xss.length ≤ 1048576) : IntSS h' t xss := by
  obtain ⟨ts, hb, h1, h2⟩ := e.buf
  have hn : t.n = xss.length := by have := hb.1; simp at this; omega
  exact ⟨ts, h1, hb.slc (by omega), fun i a b => (h2 i a b).mono e.keep⟩
theorem GrownSS.app {h h' : Hp} {t u : Sl} {xss : List (List Int)} {x : List Int} {b : Nat} {K : Option Addr → Nat → Nat → Hp → Prop} (e : GrownSS h h' t xss) (hl : xss.length ≤ 1048576) (hu : IntS h u x) (hb : h' b = none)
    (k : ∀ (t' : Sl) (h'' : Hp), GrownSS h h'' t' (xss ++ [x]) → K t'.a t'.n t'.c h'') : aApp (h'.row b [u.v] 1) t.a t.n t.c (some ⟨b, 0, none⟩) 1 1 24 K := by
  have l := le_row [u.v] 1 hb
  obtain ⟨ts, hbuf, h1, h2⟩ := e.buf
  have hn : t.n = xss.length := by have := hbuf.1; simp at this; omega
  refine aApp_buf (hbuf.mono l) (by omega) (by omega) (by omega) ⟨b, 0, rfl, fun i v hi => ?_⟩ (news := [u.v]) rfl rfl ?_
  · cases i with
    | zero => simp at hi; subst hi; exact cell_row _ _ _ _ _
    | succ i => simp at hi
  · intro t' h'' hn' hb' hle _
    refine k t' h'' ⟨⟨ts ++ [u], by rw [List.map_append]; exact hb', by simp [h1], ?_⟩, Hp.le_trans (Hp.le_trans e.le (offS_mono t l)) hle⟩
    intro i a c
    by_cases hi : i < ts.length
    · rw [List.getElem_append_left hi, List.getElem_append_left (by omega)]; exact h2 i hi (by omega)
    · have : i = ts.length := by simp at a; omega
      subst this
      simp only [List.getElem_append_right (Nat.le_refl _), Nat.sub_self, List.getElem_cons_zero]
      simp only [h1, List.getElem_append_right (Nat.le_refl _), Nat.sub_self, List.getElem_cons_zero]
      exact hu

def bcells (n : Nat) (g : Nat → Bool) : List Value := ((List.range n).map g).map Value.bool
theorem bcells_len (n : Nat) (g : Nat → Bool) : (bcells n g).length = n := by simp [bcells]
theorem bcells_ext {n : Nat} {g g' : Nat → Bool} (h : ∀ j, j < n → g j = g' j) : bcells n g = bcells n g' := by
  unfold bcells
  congr 1
  exact List.map_congr_left fun j hj => h j (by simpa using hj)
theorem bcells_set (n i : Nat) (g : Nat → Bool) (v : Bool) : (bcells n g).set i (.bool v) = bcells n (fun j => if j = i then v else g j) := by
  apply List.ext_getElem
  · simp [bcells]
  · intro j h1 h2
    rw [List.getElem_set]
    split
    · rename_i h; subst h; simp [bcells]
    · rename_i h; simp [bcells, fun e => h (Eq.symm e), show ¬ j = i from fun e => h e.symm]
theorem Grown.upd {H h' : Hp} {bw n : Nat} {cs : List Value} {o : Sl} {xs : List Int} (e : Grown (H.row bw cs n) h' o xs) (cs' : List Value) : Grown (H.row bw cs' n) (h'.row bw cs' n) o xs := by
  have hb := e.le _ _ (row_self H bw cs n)
  have hne : ∀ a, o.a = some a → a.block ≠ bw := by
    intro a ha hab
    subst hab
    simp [Hp.offS, ha, Hp.off, Hp.set] at hb
  refine ⟨⟨e.buf.1, e.buf.2.1, e.buf.2.2.imp id ?_⟩, ?_⟩
  · rintro ⟨c, hc, hcb⟩
    exact ⟨c, hc, by rw [row_ne _ _ (hne _ hc)]; exact hcb⟩
  · intro c x hx
    rw [offS_at (fun a ha hac => ?_)]
    · by_cases hc : c = bw
      · subst hc; rw [row_self] at hx ⊢; exact hx
      · rw [row_ne _ _ hc] at hx ⊢
        have := e.le c x (by rw [row_ne _ _ hc]; exact hx)
        exact offS_le _ _ _ _ this
    · by_cases hc : c = bw
      · exact hne a ha (hac.trans hc)
      · rw [row_ne _ _ hc] at hx
        have := e.le c x (by rw [row_ne _ _ hc]; exact hx)
        subst hac
        simp [Hp.offS, ha, Hp.off, Hp.set] at this

end Go.Lead
