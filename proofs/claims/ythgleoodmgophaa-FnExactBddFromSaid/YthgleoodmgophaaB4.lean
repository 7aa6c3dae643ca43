/- How diagrams are compared and marked, and the walks of two laws. -/
import Derived.Test.YthgleoodmgophaaB3
namespace Go.Lead
open Go
set_option linter.unusedSimpArgs false
set_option linter.unusedVariables false

theorem eqBddNode_spec {h : Hp} {a b c a' b' c' : Int} {R : Value → Hp → Prop} (k : R (.bool (decide (a = a' ∧ b = b' ∧ c = c'))) h) :
    c_laws_eqBddNode #[.agg #[I a, I b, I c], .agg #[I a', I b', I c']] h R := by
  refine ACalls.drop (R_laws_eqBddNode ?_)
  unfold F_laws_eqBddNode
  intro b1 hb1
  simp only [vm, mm]
  rintro b2 ⟨n21, hb2⟩
  have n12 := n21.symm
  have l0 := le_row_of [I a', I b', I c'] 3 hb2 (le_row [I a, I b, I c] 3 hb1)
  simp only [vm, mm, n12, n21, ne_eq, not_false_eq_true]
  refine bsplit_of (fun e => ⟨_, l0, ?_⟩) (fun e => ?_)
  · have : ¬ a = a' := by simpa using e
    simpa [this] using k
  have e1 : a = a' := by simpa using e
  refine bsplit_of (fun e => ⟨_, l0, ?_⟩) (fun e => ?_)
  · have : ¬ b = b' := by simpa using e
    simpa [this] using k
  have e2 : b = b' := by simpa using e
  refine bsplit_of (fun e => ⟨_, l0, ?_⟩) (fun e => ⟨_, l0, ?_⟩)
  · have : ¬ c = c' := by simpa using e
    simpa [this] using k
  have e3 : c = c' := by simpa using e
  simpa [e1, e2, e3] using k

/-- Nodes, place by place. -/
theorem nd_at {h : Hp} {s : Sl} {ns : List Nd} (e : SlC h s 3 (ndCells ns)) {i : Nat} (hi : i < ns.length) :
    ∃ b o, s.a = some (Addr.mk b o none) ∧ Hp.cell h b (o + i * 3) = some (I ns[i].v) ∧ Hp.cell h b (o + i * 3 + 1) = some (I ns[i].lo) ∧ Hp.cell h b (o + i * 3 + 2) = some (I ns[i].hi) := by
  have hl := e.2.1
  rw [ndCells_len] at hl
  obtain ⟨b, o, ha, hc⟩ := SlC.get e (by omega)
  have key : ∀ (ns : List Nd) (i : Nat) (hi : i < ns.length), (ndCells ns)[i * 3]? = some (I ns[i].v) ∧ (ndCells ns)[i * 3 + 1]? = some (I ns[i].lo) ∧ (ndCells ns)[i * 3 + 2]? = some (I ns[i].hi) := by
    intro ns
    induction ns with
    | nil => intro i hi; simp at hi
    | cons n ns ih =>
      intro i hi
      cases i with
      | zero => simp [ndCells]
      | succ i =>
        have := ih i (by simpa using hi)
        have hx : ndCells (n :: ns) = I n.v :: I n.lo :: I n.hi :: ndCells ns := rfl
        rw [hx, show (i + 1) * 3 = i * 3 + 3 by omega]
        simpa using this
  obtain ⟨k1, k2, k3⟩ := key ns i hi
  exact ⟨b, o, ha, hc _ _ k1, by rw [Nat.add_assoc]; exact hc _ _ k2, by rw [Nat.add_assoc]; exact hc _ _ k3⟩
theorem nd_len {h : Hp} {s : Sl} {ns : List Nd} (e : SlC h s 3 (ndCells ns)) : s.n = ns.length := by
  have hl := e.2.1
  rw [ndCells_len] at hl; omega

theorem eqBddNodeS_spec {h : Hp} {s t : Sl} {xs ys : List Nd} {R : Value → Hp → Prop} (hs : SlC h s 3 (ndCells xs)) (ht : SlC h t 3 (ndCells ys))
    (k : R (.bool (decide (xs = ys))) h) : c_laws_eqBddNodeS #[s.v, t.v] h R := by
  apply R_laws_eqBddNodeS
  unfold F_laws_eqBddNodeS
  have ls := nd_len hs
  have lt := nd_len ht
  have hb := hs.1
  by_cases hl : xs.length = ys.length
  · refine bs_f (by simp [ls, lt, hl]) ?_
    refine loop_up xs.length (fun i vs h' => vs = [s.v, t.v, I i] ∧ h' = h ∧ xs.take i = ys.take i) ⟨rfl, rfl, by simp⟩ ?_
    rintro i _ _ next hi ⟨rfl, rfl, hp⟩ hn
    refine ⟨_, _, _, rfl, ?_⟩
    by_cases hlt : i < xs.length
    · obtain ⟨b, o, ha, c1, c2, c3⟩ := nd_at hs hlt
      have hi' : i < ys.length := by omega
      obtain ⟨b', o', ha', d1, d2, d3⟩ := nd_at ht hi'
      refine bs_t (by simp [ls, hlt]) ?_
      simp only [vm, ls, lt, ha, ha', c1, c2, c3, d1, d2, d3, W_succ (n := i) (by omega)]
      refine ⟨by omega, by omega, eqBddNode_spec ⟨_, rfl, bsplit_of (fun he => ?_) (fun he => ?_)⟩⟩
      · rwa [decide_eq_false (fun e => by subst e; simp at he)] at k
      · refine hn hlt _ _ ⟨rfl, rfl, take_step hlt hi' hp ?_⟩
        have he' : ((xs[i].v : Int) = ys[i].v ∧ (xs[i].lo : Int) = ys[i].lo ∧ (xs[i].hi : Int) = ys[i].hi) := by simpa using he
        have : ∀ a b : Nd, (a.v : Int) = b.v ∧ (a.lo : Int) = b.lo ∧ (a.hi : Int) = b.hi → a = b := by
          intro ⟨a, b, c⟩ ⟨a', b', c'⟩ hh; simp only [Nd.mk.injEq]; simp only at hh; omega
        exact this _ _ he'
    · have : i = xs.length := by omega
      subst this
      refine bs_f (by simp [ls]) ?_
      rw [List.take_length, hl, List.take_length] at hp
      rwa [decide_eq_true hp] at k
  · refine bs_t (by simp [ls, lt]; omega) ?_
    rwa [decide_eq_false (fun e => hl (by rw [e]))] at k

theorem eqBdd_spec {h : Hp} {s t : Sl} {xs ys : List Nd} {v r v' r' : Int} {R : Value → Hp → Prop} (hs : SlC h s 3 (ndCells xs)) (ht : SlC h t 3 (ndCells ys))
    (k : R (.bool (decide (v = v' ∧ xs = ys ∧ r = r'))) h) : c_laws_eqBdd #[.agg #[I v, s.v, I r], .agg #[I v', t.v, I r']] h R := by
  refine ACalls.drop (R_laws_eqBdd ?_)
  unfold F_laws_eqBdd
  intro b1 hb1
  simp only [vm, mm]
  rintro b2 ⟨n21, hb2⟩
  have n12 := n21.symm
  have l0 := le_row_of [I v', t.v, I r'] 3 hb2 (le_row [I v, s.v, I r] 3 hb1)
  simp only [vm, mm, n12, n21, ne_eq, not_false_eq_true]
  refine bsplit_of (fun e => ⟨_, l0, ?_⟩) (fun e => ?_)
  · have : ¬ v = v' := by simpa using e
    simpa [this] using k
  have e1 : v = v' := by simpa using e
  refine eqBddNodeS_spec (hs.mono l0) (ht.mono l0) ⟨_, rfl, bsplit_of (fun e => ⟨_, l0, ?_⟩) (fun e => ?_)⟩
  · have : ¬ xs = ys := by simpa using e
    simpa [this] using k
  have e2 : xs = ys := by simpa using e
  simp only [vm, mm, n12, n21, ne_eq, not_false_eq_true]
  refine bsplit_of (fun e => ⟨_, l0, ?_⟩) (fun e => ⟨_, l0, ?_⟩)
  · have : ¬ r = r' := by simpa using e
    simpa [this] using k
  have e3 : r = r' := by simpa using e
  simpa [e1, e2, e3] using k

theorem set3_take {cs : List Value} {i : Nat} {k : Int} (hl : i * 3 + 3 ≤ cs.length) (hp : cs.take (i * 3) = markCells k (i * 3)) (x y z : Value)
    (hx : x = I (k + (i * 3 : Nat))) (hy : y = I (k + (i * 3 + 1 : Nat))) (hz : z = I (k + (i * 3 + 2 : Nat))) :
    (((cs.set (i * 3) x).set (i * 3 + 1) y).set (i * 3 + 2) z).take ((i + 1) * 3) = markCells k ((i + 1) * 3) := by
  rw [show (i + 1) * 3 = i * 3 + 2 + 1 by omega, take_set _ (by simp; omega), take_set _ (by simp; omega), take_set _ (by omega), hp]
  subst hx; subst hy; subst hz
  simp only [markCells, List.range_succ, List.map_append, List.map_cons, List.map_nil]

theorem markBddNodeS_spec {h : Hp} {s : Sl} {cs : List Value} {k0 : Int} {R : Value → Hp → Prop} (hs : Own h s 3 cs) (h0 : 0 ≤ k0) (hk : k0 + s.n * 3 ≤ 9223372036854775807)
    (k : ∀ h', (h.wo s.used).le h' → Own h' s 3 (markCells k0 (s.n * 3)) → R (I (k0 + s.n * 3)) h') : c_laws_markBddNodeS #[s.v, I k0] h R := by
  apply R_laws_markBddNodeS
  unfold F_laws_markBddNodeS
  by_cases hn0 : s.n = 0
  · refine loop_up 0 (fun i vs h' => vs = [s.v, I k0, I i] ∧ h' = h) ⟨rfl, rfl⟩ ?_
    rintro i _ _ next hi ⟨rfl, rfl⟩ hn
    refine ⟨_, _, _, rfl, bs_f (by simp [hn0]) ?_⟩
    have := k _ (wo_le _ _) ⟨by simp [hn0, markCells], hs.2.1, .inl hn0⟩
    simpa [hn0] using this
  obtain ⟨b, z, ha, hb⟩ := hs.2.2.resolve_left hn0
  refine loop_up s.n (fun i vs h' => vs = [s.v, I (k0 + (i * 3 : Nat)), I i] ∧ ∃ cs', h' = h.set b (some (.inl ⟨cs', z, false⟩)) ∧ cs'.length = s.n * 3 ∧ cs'.take (i * 3) = markCells k0 (i * 3))
    ⟨by simp, cs, ?_, hs.1, by simp [markCells]⟩ ?_
  · funext c
    by_cases hc : c = b
    · subst hc; rw [Hp.set_eq, hb]
    · rw [Hp.set_ne _ _ hc]
  rintro i _ _ next hi ⟨rfl, cs', rfl, hcl, hp⟩ hn
  refine ⟨_, _, _, rfl, ?_⟩
  have hrow : ∀ cs', h.set b (some (.inl ⟨cs', z, false⟩)) = h.row b cs' z := fun _ => rfl
  by_cases hlt : i < s.n
  · refine bs_t (by simp [hlt]) ?_
    have w1 : W (k0 + (i * 3 : Nat) + 1) = k0 + (i * 3 + 1 : Nat) := by rw [W_id (by omega) (by omega)]; omega
    have w2 : W (k0 + (i * 3 + 1 : Nat) + 1) = k0 + (i * 3 + 2 : Nat) := by rw [W_id (by omega) (by omega)]; omega
    have w3 : W (k0 + (i * 3 + 2 : Nat) + 1) = k0 + ((i + 1) * 3 : Nat) := by rw [W_id (by omega) (by omega)]; omega
    simp only [vm, mm, ha, hrow, w1, w2, w3, W_succ (n := i) (by omega), List.length_set]
    refine ⟨by omega, by omega, by omega, by omega, by omega, by omega, hn hlt _ _ ⟨rfl, _, rfl, by simpa using hcl, set3_take (by omega) hp _ _ _ rfl rfl rfl⟩⟩
  · have : i = s.n := by omega
    subst this
    rw [← hcl, List.take_length, hcl] at hp
    subst hp
    refine bs_f (by simp) ?_
    have := k (h.set b (some (.inl ⟨markCells k0 (s.n * 3), z, false⟩))) ?_ ⟨by simp [markCells], hs.2.1, .inr ⟨b, z, ha, Hp.set_eq ..⟩⟩
    · simpa using this
    · refine le_set_of _ (wo_le _ _) (wo_none ?_)
      simp [Sl.used, hn0, Sl.blk, ha]

theorem heldBddNodeS_spec {h : Hp} {s : Sl} {k0 : Int} {R : Value → Hp → Prop} (hs : SlC h s 3 (markCells k0 (s.n * 3))) (h0 : 0 ≤ k0) (hk : k0 + s.n * 3 ≤ 9223372036854775807)
    (k : R (I (k0 + s.n * 3)) h) : c_laws_heldBddNodeS #[s.v, I k0] h R := by
  apply R_laws_heldBddNodeS
  unfold F_laws_heldBddNodeS
  refine loop_up s.n (fun i vs h' => vs = [s.v, I (k0 + (i * 3 : Nat)), I i] ∧ h' = h) ⟨by simp, rfl⟩ ?_
  rintro i _ _ next hi ⟨rfl, rfl⟩ hn
  refine ⟨_, _, _, rfl, ?_⟩
  by_cases hlt : i < s.n
  · obtain ⟨b, o, ha, hc⟩ := hs.get (by omega)
    have c1 := hc (i * 3) (I (k0 + (i * 3 : Nat))) (by rw [markCells, List.getElem?_map, List.getElem?_range (by omega)]; rfl)
    have c2 := hc (i * 3 + 1) (I (k0 + (i * 3 + 1 : Nat))) (by rw [markCells, List.getElem?_map, List.getElem?_range (by omega)]; rfl)
    have c3 := hc (i * 3 + 2) (I (k0 + (i * 3 + 2 : Nat))) (by rw [markCells, List.getElem?_map, List.getElem?_range (by omega)]; rfl)
    rw [← Nat.add_assoc] at c2 c3
    have w1 : W (k0 + (i * 3 : Nat) + 1) = k0 + (i * 3 + 1 : Nat) := by rw [W_id (by omega) (by omega)]; omega
    have w2 : W (k0 + (i * 3 + 1 : Nat) + 1) = k0 + (i * 3 + 2 : Nat) := by rw [W_id (by omega) (by omega)]; omega
    have w3 : W (k0 + (i * 3 + 2 : Nat) + 1) = k0 + ((i + 1) * 3 : Nat) := by rw [W_id (by omega) (by omega)]; omega
    refine bs_t (by simp [hlt]) ?_
    simp only [vm, ha, c1, c2, c3, w1, w2, w3, W_succ (n := i) (by omega)]
    refine ⟨by omega, bs_f (by simp) ⟨by omega, bs_f (by simp) ⟨by omega, bs_f (by simp) (hn hlt _ _ ⟨rfl, rfl⟩)⟩⟩⟩
  · have : i = s.n := by omega
    subst this
    refine bs_f (by simp) ?_
    simpa using k

theorem markBdd_spec {h : Hp} {s : Sl} {cs : List Value} {v r k0 : Int} {R : Value → Hp → Prop} (hs : Own h s 3 cs) (h0 : 0 ≤ k0) (hk : k0 + s.n * 3 ≤ 9223372036854775807)
    (k : ∀ h', (h.wo s.used).le h' → Own h' s 3 (markCells k0 (s.n * 3)) → R (I (k0 + s.n * 3)) h') : c_laws_markBdd #[.agg #[I v, s.v, I r], I k0] h R := by
  apply R_laws_markBdd
  unfold F_laws_markBdd
  intro b hb
  have l0 := le_row [I v, s.v, I r] 3 hb
  simp only [vm, mm]
  refine markBddNodeS_spec (hs.mono l0) h0 hk fun h1 l1 ho => ⟨_, rfl, k _ (Hp.le_trans (le_wo (Hp.le_trans (wo_le _ _) l0) fun c hc => wo_none hc) l1) ho⟩

theorem heldBdd_spec {h : Hp} {s : Sl} {v r k0 : Int} {R : Value → Hp → Prop} (hs : SlC h s 3 (markCells k0 (s.n * 3))) (h0 : 0 ≤ k0) (hk : k0 + s.n * 3 ≤ 9223372036854775807)
    (k : R (I (k0 + s.n * 3)) h) : c_laws_heldBdd #[.agg #[I v, s.v, I r], I k0] h R := by
  refine ACalls.drop (R_laws_heldBdd ?_)
  unfold F_laws_heldBdd
  intro b hb
  have l0 := le_row [I v, s.v, I r] 3 hb
  simp only [vm, mm]
  exact heldBddNodeS_spec (hs.mono l0) h0 hk ⟨_, rfl, bs_f (by simp; omega) ⟨_, l0, k⟩⟩

end Go.Lead
