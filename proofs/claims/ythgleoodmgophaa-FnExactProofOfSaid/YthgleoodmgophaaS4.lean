/- How lists and clauses are marked. -/
import Derived.Test.YthgleoodmgophaaS3
namespace Go.Lead
open Go
set_option linter.unusedSimpArgs false
set_option linter.unusedVariables false

def markCells (k : Int) (n : Nat) : List Value := (List.range n).map fun (i : Nat) => I (k + (i : Int))
theorem set1_take {cs : List Value} {i : Nat} {k : Int} (hl : i < cs.length) (hp : cs.take i = markCells k i) (x : Value) (hx : x = I (k + (i : Nat))) :
    (cs.set i x).take (i + 1) = markCells k (i + 1) := by
  rw [take_set _ hl, hp]
  subst hx
  simp only [markCells, List.range_succ, List.map_append, List.map_cons, List.map_nil]

theorem markIntS_spec {h : Hp} {s : Sl} {cs : List Value} {k0 : Int} {R : Value → Hp → Prop} (hs : Own h s 1 cs) (h0 : 0 ≤ k0) (hk : k0 + s.n ≤ 9223372036854775807)
    (k : ∀ h', (h.wo s.used).le h' → Own h' s 1 (markCells k0 s.n) → (∀ b, h b = none → h' b = none) → R (I (k0 + s.n)) h') : c_laws_markIntS #[s.v, I k0] h R := by
  apply R_laws_markIntS
  unfold F_laws_markIntS
  by_cases hn0 : s.n = 0
  · refine loop_up 0 (fun i vs h' => vs = [s.v, I k0, I i] ∧ h' = h) ⟨rfl, rfl⟩ ?_
    rintro i _ _ next hi ⟨rfl, rfl⟩ hn
    refine ⟨_, _, _, rfl, bs_f (by simp [hn0]) ?_⟩
    have := k _ (wo_le _ _) ⟨by simp [hn0, markCells], hs.2.1, .inl hn0⟩ (fun b hb => hb)
    simpa [hn0] using this
  obtain ⟨b, z, ha, hb⟩ := hs.2.2.resolve_left hn0
  have hcl0 : cs.length = s.n := by have := hs.1; omega
  refine loop_up s.n (fun i vs h' => vs = [s.v, I (k0 + (i : Nat)), I i] ∧ ∃ cs', h' = h.set b (some (.inl ⟨cs', z, false⟩)) ∧ cs'.length = s.n ∧ cs'.take i = markCells k0 i)
    ⟨by simp, cs, ?_, hcl0, by simp [markCells]⟩ ?_
  · funext c
    by_cases hc : c = b
    · subst hc; rw [Hp.set_eq, hb]
    · rw [Hp.set_ne _ _ hc]
  rintro i _ _ next hi ⟨rfl, cs', rfl, hcl, hp⟩ hn
  refine ⟨_, _, _, rfl, ?_⟩
  have hrow : ∀ cs', h.set b (some (.inl ⟨cs', z, false⟩)) = h.row b cs' z := fun _ => rfl
  by_cases hlt : i < s.n
  · refine bs_t (by simp [hlt]) ?_
    have w1 : W (k0 + (i : Nat) + 1) = k0 + (i + 1 : Nat) := by rw [W_id (by omega) (by omega)]; omega
    simp only [vm, mm, ha, hrow, w1, W_succ (n := i) (by omega)]
    refine ⟨by omega, by omega, hn hlt _ _ ⟨rfl, _, rfl, by simpa using hcl, set1_take (by omega) hp _ rfl⟩⟩
  · have : i = s.n := by omega
    subst this
    rw [← hcl, List.take_length, hcl] at hp
    subst hp
    refine bs_f (by simp) ?_
    refine k (h.set b (some (.inl ⟨markCells k0 s.n, z, false⟩))) ?_ ⟨by simp [markCells], hs.2.1, .inr ⟨b, z, ha, Hp.set_eq ..⟩⟩ ?_
    · refine le_set_of _ (wo_le _ _) (wo_none ?_)
      simp [Sl.used, hn0, Sl.blk, ha]
    · intro c hc
      rw [Hp.set_ne _ _ (fun e => by subst e; rw [hb] at hc; cases hc)]; exact hc

theorem heldIntS_spec {h : Hp} {s : Sl} {k0 : Int} {R : Value → Hp → Prop} (hs : SlC h s 1 (markCells k0 s.n)) (h0 : 0 ≤ k0) (hk : k0 + s.n ≤ 9223372036854775807)
    (k : R (I (k0 + s.n)) h) : c_laws_heldIntS #[s.v, I k0] h R := by
  apply R_laws_heldIntS
  unfold F_laws_heldIntS
  refine loop_up s.n (fun i vs h' => vs = [s.v, I (k0 + (i : Nat)), I i] ∧ h' = h) ⟨by simp, rfl⟩ ?_
  rintro i _ _ next hi ⟨rfl, rfl⟩ hn
  refine ⟨_, _, _, rfl, ?_⟩
  by_cases hlt : i < s.n
  · obtain ⟨b, o, ha, hc⟩ := hs.get (by omega)
    have c1 := hc i (I (k0 + (i : Nat))) (by rw [markCells, List.getElem?_map, List.getElem?_range (by omega)]; rfl)
    have w1 : W (k0 + (i : Nat) + 1) = k0 + (i + 1 : Nat) := by rw [W_id (by omega) (by omega)]; omega
    refine bs_t (by simp [hlt]) ?_
    simp only [vm, ha, c1, w1, W_succ (n := i) (by omega)]
    exact ⟨by omega, bs_f (by simp) (hn hlt _ _ ⟨rfl, rfl⟩)⟩
  · have : i = s.n := by omega
    subst this
    exact bs_f (by simp) k

/-- Rows of one's own, whatever they hold. -/
def OwnE (h : Hp) (s : Sl) : Prop := ∃ cs, Own h s 1 cs
theorem OwnE.after {h h' : Hp} {s t : Sl} {cs cs0 : List Value} (o0 : Own h t 1 cs0) (l : (h.wo t.used).le h') (o : Own h' t 1 cs) (e : OwnE h s) : OwnE h' s := by
  obtain ⟨cs', e1, e2, e3⟩ := e
  by_cases h0 : s.n = 0
  · exact ⟨cs', e1, e2, .inl h0⟩
  obtain ⟨b, z, ha, hb⟩ := e3.resolve_left h0
  by_cases hm : b ∈ t.used
  · have htn : t.n ≠ 0 := fun h => by simp [Sl.used, h] at hm
    obtain ⟨c, z', hc, hcb⟩ := o.2.2.resolve_left htn
    obtain ⟨d, z'', hd, hdb⟩ := o0.2.2.resolve_left htn
    have : b = c := by simpa [Sl.used, htn, Sl.blk, hc] using hm
    subst this
    rw [hc] at hd; cases hd
    rw [hb] at hdb; cases hdb
    exact ⟨cs, by rw [o.1, ← o0.1, e1], e2, .inr ⟨b, z', ha, hcb⟩⟩
  · exact ⟨cs', e1, e2, .inr ⟨b, z, ha, l _ _ (by rw [wo_at hm]; exact hb)⟩⟩

theorem markIntSS_spec {h : Hp} {t : Sl} {ts : List Sl} {xss : List (List Int)} {k0 : Int} {R : Value → Hp → Prop} (hs : OwnSS h t ts xss) (h0 : 0 ≤ k0) (hk : k0 + wtSS xss ≤ 9223372036854775807)
    (k : ∀ h', (h.wo (ts.flatMap Sl.used)).le h' → R (I (k0 + wtSS xss)) h') : c_laws_markIntSS #[t.v, I k0] h R := by
  apply R_laws_markIntSS
  unfold F_laws_markIntSS
  have hi := hs.ints
  have hb := hi.bound
  refine loop_up xss.length (fun i vs h' => vs = [t.v, I (k0 + (wtSS (xss.take i) : Nat)), I i] ∧ (h.wo (ts.flatMap Sl.used)).le h' ∧ ∀ u ∈ ts, OwnE h' u)
    ⟨by simp [wtSS], wo_le _ _, fun u hu => ?_⟩ ?_
  · obtain ⟨i, hi, rfl⟩ := List.getElem_of_mem hu
    exact ⟨_, hs.inner i hi (by rw [← hs.len]; exact hi)⟩
  rintro i _ h1 next hle ⟨rfl, l1, hall⟩ hn
  refine ⟨_, _, _, rfl, ?_⟩
  by_cases hlt : i < xss.length
  · have htl : i < ts.length := by rw [hs.len]; exact hlt
    have htn := hi.len
    obtain ⟨b, o, ha, hc⟩ := SlC.get hs.outer (by omega)
    have c1 := l1.cell (hc i (Sl.v ts[i]) (by simp [htl]))
    have hw := wtSS_take xss hlt
    have hw2 := wtSS_le xss (i := i + 1)
    obtain ⟨cs, ho⟩ := hall _ (List.getElem_mem htl)
    have hln : ts[i].n = xss[i].length := by have := (hs.inner i htl hlt).1; simp at this; omega
    refine bs_t (by simp [hi.len, hlt]) ?_
    simp only [vm, hi.len, ha, c1, W_succ (n := i) (by omega)]
    refine ⟨by omega, markIntS_spec ho (by omega) (by omega) fun h2 l2 o2 _ => ⟨_, rfl, ?_⟩⟩
    refine hn hlt _ _ ⟨by rw [hln, hw]; simp [Int.add_assoc], ?_, fun u hu => OwnE.after ho l2 o2 (hall u hu)⟩
    refine Hp.le_trans (le_wo l1 fun c hc => wo_none ?_) l2
    exact List.mem_flatMap.2 ⟨_, List.getElem_mem htl, hc⟩
  · have : i = xss.length := by omega
    subst this
    rw [List.take_length]
    exact bs_f (by simp [hi.len]) (k _ l1)

theorem markCnf_spec {h : Hp} {t : Sl} {ts : List Sl} {xss : List (List Int)} {n k0 : Int} {R : Value → Hp → Prop} (hs : OwnSS h t ts xss) (h0 : 0 ≤ k0) (hk : k0 + wtSS xss ≤ 9223372036854775807)
    (k : ∀ h', (h.wo (ts.flatMap Sl.used)).le h' → R (I (k0 + wtSS xss)) h') : c_laws_markCnf #[.agg #[I n, t.v], I k0] h R := by
  apply R_laws_markCnf
  unfold F_laws_markCnf
  intro b hb
  have l0 := le_row [I n, t.v] 2 hb
  simp only [vm, mm]
  refine markIntSS_spec (hs.mono l0) h0 hk fun h1 l1 => ⟨_, rfl, k _ (Hp.le_trans (le_wo (Hp.le_trans (wo_le _ _) l0) fun c hc => wo_none hc) l1)⟩

end Go.Lead
