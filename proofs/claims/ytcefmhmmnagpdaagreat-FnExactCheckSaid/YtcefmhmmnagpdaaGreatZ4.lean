/- What functions of the program and of the reference come to, walked one by one, and plain laws about it: part 5. No condition is added to the statement. -/
import Derived.Test.YtcefmhmmnagpdaaGreatZ3
namespace Go.Lead
open Go
set_option linter.unusedSimpArgs false
set_option linter.unusedVariables false
set_option maxRecDepth 100000
set_option maxHeartbeats 1000000
theorem Fy {σ : ar} {fm : Nat} (hfm : fm + σ.fixed = 2 ^ σ.n - 1) : (df fm).length <= 2 ^ σ.n := by
 have := Nat.two_pow_pos σ.n
 have h1 : (df fm).length <= fm + 1 := by unfold df; have := List.length_filter_le (fun c => decide (c &&& fm = c)) (List.range (fm + 1)); simpa using this
 omega
theorem OD {σ : ar} {fm c i : Nat} (ok : σ.Ok) (hfm : fm + σ.fixed = 2 ^ σ.n - 1) (hc : c < 2 ^ (σ.n + σ.k)) : σ.onB (i + 1) c = true ↔ σ.hold c = true /\ ∃ f, f ∈ df fm /\ σ.ahead i (σ.next c + f) = true := by
 simp only [ar.onB, Bool.and_eq_true, ar.leads, cd]
 refine and_congr_right fun _ => ?_
 constructor
 ·rintro ⟨t, ht, h1, h2⟩
  obtain ⟨f, hf, rfl⟩ := (iE ok hfm hc ht).1 h2
  exact ⟨f, hf, h1⟩
 ·rintro ⟨f, hf, h1⟩
  have hl := nT ok hfm hc hf
  exact ⟨_, hl, h1, (iE ok hfm hc hl).2 ⟨f, hf, rfl⟩⟩
set_option maxHeartbeats 1000000 in
theorem DZ {h : Hp} {q : yx} {σ : ar} {d : Nat} {R : Value -> Hp -> Prop} (hq : wC h q σ) (ok : σ.Ok) (hd : d <= 256)
  (k : ∀ s h', h.le h' -> xC h' s (2 ^ σ.n) (d + 1) σ.ahead -> R (Sl.v s) h') : lO #[A6 σ q, I d] h R := by
 apply y9
 refine uf_ ?_
 have hn := dA ok
 have hp := ky ok
 have hpos := Nat.two_pow_pos σ.n
 obtain ⟨hh, hen, hx, ⟨fm, hfm, hfl⟩, _⟩ := id hq
 have hhl := hh.len
 have hel := hen.len
 have hxl := IntS.len hx
 rw [bW, List.length_map, List.length_range] at hxl
 have hfll := IntS.len hfl
 rw [bW] at hfll
 have hfb := Fy hfm
 have K0 := Kn.nil h
 (with_reducible apply Kn.al); (assumption); (intro b10 h1 K1 l1 hb10)
 have f10 := K1.at (.head _)
 have lh1 := K1.le
 clear K0 K1 hb10 l1
 refine aq (d + 1) (fun i vs h' => ∃ (out : Sl) (ts : List Sl) (X : List (Nat × Blk)) (g : Hp), vs = [I d, .pointer (some ⟨b10, 0, none⟩), out.v, I i] /\ h1.le g /\ ez X out 1 (ts.map Sl.v) /\
  ts.length = i /\ Kn g h' X /\ ∀ (j : Nat) (t : Sl), ts[j]? = some t -> cy g t (2 ^ σ.n) (σ.ahead j))
  ⟨⟨none, 0, 0⟩, [], [], h1, rfl, Hp.le_refl _, ff 1, rfl, Kn.nil h1, fun j t hj => by simp at hj⟩ ?_
 rintro i _ h2 nxt hi ⟨out, ts, X, g, rfl, lg, oX, htl, K, hT⟩ hnx
 have hon := oX.1
 rw [List.length_map, Nat.mul_one] at hon
 refine ⟨_, b10, 0, out, _, rfl, ?_⟩
 have l12 := Hp.le_trans lg K.le
 by_cases hlt : i < d + 1
 rotate_left
 ·refine ak (by rw [decide_eq_false_iff_not]; omega) ?_
  exact k out h2 (Hp.le_trans lh1 l12) ⟨ts, by omega, (oX.buf fun e he => K.mem e he).slc_of (by omega), fun j t hj => (hT j t hj).mono K.le⟩
 refine aH (by rw [decide_eq_true_eq]; omega) ?_
 have f10g := lg _ _ f10
 (refine kr_ ?_)
 refine ⟨Int.natCast_nonneg _, Int.le_refl _, by omega, by omega, ?_⟩
 (with_reducible apply Kn.al); (exact Kn.nil h2); (intro b28 h3 K3 l3 hb28)
 rw [Int.toNat_natCast, Nat.mul_one, bM, hE] at K3
 rw [Int.toNat_natCast]
 have f102 := l12 _ _ f10
 have hq2 := hq.mono (Hp.le_trans lh1 l12)
 obtain ⟨hh2, hen2, hx2, _, _⟩ := id hq2
 have hfl2 := hfl.mono (Hp.le_trans lh1 l12)
 refine aq (2 ^ (σ.n + σ.k)) (fun c vs h' => vs = [I d, .pointer (some ⟨b10, 0, none⟩), out.v, I i, (arr b28 (2 ^ σ.n)).v, I c] /\
  ∃ T, Kn h2 h' [(b28, .inl ⟨tb (2 ^ σ.n) T, 2 ^ σ.n, false⟩)] /\ ∀ x, T x = true ↔ ∃ c', c' < c /\ c' % 2 ^ σ.n = x /\ σ.onB i c' = true)
  ⟨rfl, _, K3, fun x => ⟨fun e => by simp at e, fun ⟨c', e, _⟩ => by omega⟩⟩ ?_
 clear K3 l3 hb28 h3
 rintro c _ h3 nxt2 hc ⟨rfl, T, K3, hT3⟩ hnx2
 refine ⟨_, b10, 0, out, _, arr b28 _, _, rfl, ?_⟩
 (refine kr_ ?_)
 by_cases hltc : c < 2 ^ (σ.n + σ.k)
 rotate_left
 ·refine ak (by rw [decide_eq_false_iff_not]; omega) ?_
  refine ae fun b111 h4 hb111 l4 f111 => ?_
  have K4 := K3.mono l4
  have KX := K.mono K4.le
  have hnew : cy h4 (arr b28 (2 ^ σ.n)) (2 ^ σ.n) (σ.ahead i) := gu (by omega) (K4.at (.head _)) fun s hs => by
   rw [Bool.eq_iff_iff, hT3, ar.ahead_on]
   constructor
   ·rintro ⟨c', h1, h2, h3⟩
    have hc' : c' < 2 ^ (σ.n + σ.k) := by omega
    obtain ⟨a1, a2, a3⟩ := ar.at_of hc'
    exact ⟨_, a2, by rw [<- h2, a3]; exact h3⟩
   ·rintro ⟨x, hx, h3⟩
    have := ar.at_lt hs hx
    exact ⟨_, by omega, ar.at_mod hs, h3⟩
  have hnew2 : cy (h4.wo (X.map Prod.fst)) (arr b28 (2 ^ σ.n)) (2 ^ σ.n) (σ.ahead i) := by
   have h5 : cy (h4.sub h2) (arr b28 (2 ^ σ.n)) (2 ^ σ.n) T := gu (by omega) (by rw [jH (K4.new _ (.head _))]; exact K4.at (.head _)) fun j _ => rfl
   exact FW (h5.mono (Fh K)) fun j hj => by
    rw [Bool.eq_iff_iff, hT3, ar.ahead_on]
    constructor
    ·rintro ⟨c', h1, h2, h3⟩
     have hc' : c' < 2 ^ (σ.n + σ.k) := by omega
     obtain ⟨a1, a2, a3⟩ := ar.at_of hc'
     exact ⟨_, a2, by rw [<- h2, a3]; exact h3⟩
    ·rintro ⟨x, hx, h3⟩
     have := ar.at_lt hj hx
     exact ⟨_, by omega, ar.at_mod hj, h3⟩
  have lB := KX.leBase
  have KB := KX.base
  clear hnew
  generalize h4.wo (X.map Prod.fst) = g6 at *
  rw [show X = X ++ [] from (List.append_nil _).symm] at KB
  refine Kn.grow KB oX (by omega) (by omega) (by omega) ⟨b111, 0, rfl, ax f111⟩ rfl rfl fun out' X' h7 hn' oX' K7 l7 => ?_
  rw [az (by omega)]
  rw [List.append_nil] at K7
  refine hnx hlt _ _ ⟨out', ts ++ [arr b28 (2 ^ σ.n)], X', g6, rfl, Hp.le_trans lg lB, by rw [List.map_append]; exact oX', by simp [htl], K7, fun j u hj => ?_⟩
  by_cases e : j < ts.length
  ·rw [List.getElem?_append_left e] at hj
   exact (hT j u hj).mono lB
  ·have h1 := get_lt hj
   simp at h1
   rw [List.getElem?_append_right (by omega), show j - ts.length = 0 by omega] at hj
   simp at hj; subst hj
   rw [show j = i by omega]; exact hnew2
 refine aH (by rw [decide_eq_true_eq]; omega) ?_
 have hmod := Nat.mod_lt c hpos
 refine ap (fun J => J (decide (i = 0) && σ.ends c)) ?_ (fun J hJ => ?_)
 rotate_left
 ·refine ad (fun e => ?_) (fun e => ?_)
  ·have e0 : i = 0 := by have := beq_iff_eq.1 e; omega
   (refine kr_ ?_)
   obtain ⟨b, o, ha, e1, e2⟩ := (hen2.mono K3.le).get hltc
   refine ⟨b, o, ha, by omega, e1, _, e2, ?_⟩
   rw [decide_eq_true e0, Bool.true_and] at hJ; exact hJ
  ·have e0 : ¬ i = 0 := fun q => by rw [q] at e; simp at e
   rw [decide_eq_false e0, Bool.false_and] at hJ; exact hJ
 refine ap (fun J => ∀ h4 U, Kn h2 h4 [(b28, .inl ⟨tb (2 ^ σ.n) U, 2 ^ σ.n, false⟩)] -> (∀ x, U x = true ↔ T x = true \/ (x = c % 2 ^ σ.n /\ i = 0 /\ σ.ends c = true)) -> J h4) (fun h4 U K4 hU => ?_) (fun J hJ => ?_)
 rotate_left
 ·refine ad (fun e => ?_) (fun e => ?_)
  ·rw [Bool.and_eq_true, decide_eq_true_eq] at e
   (refine kr_ ?_)
   rw [if_neg (by omega), eP]
   refine ⟨b28, 0, rfl, by omega, by dsimp only; omega, ?_⟩
   (((with_reducible apply Kn.wr); (assumption); ((focus ((repeat first | exact .head | apply Upd.tail); done)))))
   ·rw [eV]; omega
   intro h4 K4 _
   rw [bk, Nat.zero_add, Int.toNat_natCast, Nat.mul_one, iL] at K4
   refine hJ h4 _ K4 fun x => ?_
   by_cases ex : x = c % 2 ^ σ.n
   ·rw [if_pos ex]; exact ⟨fun _ => .inr ⟨ex, e⟩, fun _ => rfl⟩
   ·rw [if_neg ex]; exact ⟨.inl, fun q => q.resolve_right fun q2 => ex q2.1⟩
  ·refine hJ h3 T K3 fun x => ⟨.inl, fun q => q.resolve_right fun ⟨_, q2, q3⟩ => ?_⟩
   rw [decide_eq_true q2, q3] at e; cases e
 clear K3
 refine aq (df fm).length (fun j vs h' => vs = [I d, .pointer (some ⟨b10, 0, none⟩), out.v, I i, (arr b28 (2 ^ σ.n)).v, I c, I j] /\
  ∃ V, Kn h2 h' [(b28, .inl ⟨tb (2 ^ σ.n) V, 2 ^ σ.n, false⟩)] /\ ∀ x, V x = true ↔ U x = true \/ (x = c % 2 ^ σ.n /\ ∃ i', i = i' + 1 /\ σ.hold c = true /\ ∃ f, f ∈ (df fm).take j /\ σ.ahead i' (σ.next c + f) = true))
  ⟨rfl, U, K4, fun x => ⟨.inl, fun q => q.resolve_right fun ⟨_, _, _, _, f, hf, _⟩ => by simp at hf⟩⟩ ?_
 clear K4 h3 h4
 rintro j _ h3 nxt3 hj ⟨rfl, V, K3, hV⟩ hnx3
 refine ⟨_, b10, 0, out, _, arr b28 _, _, _, rfl, ?_⟩
 have fin : (i = 0 \/ σ.hold c = false \/ j = (df fm).length) -> nxt2 [I d, .pointer (some ⟨b10, 0, none⟩), out.v, I i, (arr b28 (2 ^ σ.n)).v, I (W ((c : Int) + 1))] h3 := fun hend => by
  rw [az (by omega)]
  refine hnx2 hltc _ _ ⟨rfl, V, K3, fun x => ?_⟩
  have hcc : σ.onB i c = true ↔ (i = 0 /\ σ.ends c = true) \/ ∃ i', i = i' + 1 /\ σ.hold c = true /\ ∃ f, f ∈ (df fm).take j /\ σ.ahead i' (σ.next c + f) = true := by
   cases i with
   | zero =>
    refine ⟨fun q => .inl ⟨rfl, q⟩, fun q => ?_⟩
    rcases q with q | ⟨i', q, _⟩
    ·exact q.2
    ·omega
   | succ i' =>
    rw [OD ok hfm hltc]
    constructor
    ·rintro ⟨q1, q2⟩
     rcases hend with q | q | q
     ·omega
     ·rw [q1] at q; cases q
     ·exact .inr ⟨i', rfl, q1, by rw [q, List.take_of_length_le (Nat.le_refl _)]; exact q2⟩
    ·rintro (q | ⟨i'', q, q1, f, q2, q3⟩)
     ·omega
     ·obtain rfl : i'' = i' := by omega
      exact ⟨q1, f, List.mem_of_mem_take q2, q3⟩
  rw [hV, hU, hT3]
  constructor
  ·rintro ((⟨c', q1, q⟩ | ⟨q1, q2⟩) | ⟨q1, q2⟩)
   ·exact ⟨c', by omega, q⟩
   ·exact ⟨c, by omega, q1.symm, hcc.2 (.inl q2)⟩
   ·exact ⟨c, by omega, q1.symm, hcc.2 (.inr q2)⟩
  ·rintro ⟨c', q1, q2, q3⟩
   by_cases e2 : c' = c
   ·subst e2
    rcases hcc.1 q3 with q | q
    ·exact .inl (.inr ⟨q2.symm, q⟩)
    ·exact .inr ⟨q2.symm, q⟩
   ·exact .inl (.inl ⟨c', by omega, q2, q3⟩)
 have go : ∀ c80, (c80 = true -> ∃ i', i = i' + 1 /\ σ.hold c = true /\ j < (df fm).length) -> (c80 = false -> (i = 0 \/ σ.hold c = false \/ j = (df fm).length)) -> c80 = (decide (j < (df fm).length) && (decide (0 < i) && σ.hold c)) -> True := fun _ _ _ _ => trivial
 clear go
 refine ap (fun J => J (decide (j < (df fm).length) && (decide (0 < i) && σ.hold c))) ?_ (fun J hJ => ?_)
 rotate_left
 ·(refine kr_ ?_)
  refine ad (fun e => ?_) (fun e => ?_)
  ·rw [show decide (j < (df fm).length) = true by rw [decide_eq_true_eq] at e ⊢; omega, Bool.true_and] at hJ
   refine ad (fun e2 => ?_) (fun e2 => ?_)
   ·rw [show decide (0 < i) = true by rw [decide_eq_true_eq] at e2 ⊢; omega, Bool.true_and] at hJ
    (refine kr_ ?_)
    obtain ⟨b, o, ha, e1, e2⟩ := (hh2.mono K3.le).get hltc
    exact ⟨b, o, ha, by omega, e1, _, e2, hJ⟩
   ·rw [show decide (0 < i) = false by rw [decide_eq_false_iff_not] at e2 ⊢; omega, Bool.false_and] at hJ; exact hJ
  ·rw [show decide (j < (df fm).length) = false by rw [decide_eq_false_iff_not] at e ⊢; omega, Bool.false_and] at hJ; exact hJ
 refine ad (fun e => ?_) (fun e => ?_)
 rotate_left
 ·refine fin ?_
  by_cases q0 : i = 0
  ·exact .inl q0
  ·rw [show decide (0 < i) = true by rw [decide_eq_true_eq]; omega, Bool.true_and] at e
   cases hhc : σ.hold c with
   | false => exact .inr (.inl rfl)
   | true =>
    rw [hhc, Bool.and_true, decide_eq_false_iff_not] at e
    exact .inr (.inr (by omega))
 simp only [Bool.and_eq_true, decide_eq_true_eq] at e
 obtain ⟨hlj, hi0, eH⟩ := e
 clear fin
 obtain ⟨i', rfl⟩ : ∃ i', i = i' + 1 := ⟨i - 1, by omega⟩
 have hW : W (((i' + 1 : Nat) : Int) - 1) = (i' : Nat) := by rw [cc (by omega) (by omega)]; omega
 rw [hW]
 obtain ⟨t, hti⟩ : ∃ t, ts[i']? = some t := ⟨_, List.getElem?_eq_getElem (by omega)⟩
 obtain ⟨bo, xo, hao, hbo, hco⟩ := oX.at (fun e he => K.mem e he) hti
 refine ⟨bo, 0, hao, by omega, by omega, t, by rw [Int.toNat_natCast]; exact K3.le.cell hco, ?_⟩
 (refine kr_ ?_)
 obtain ⟨b, o, ha, e1, e2⟩ := wq.get (hx2.mono K3.le) hltc
 refine ⟨b, o, ha, by omega, e1, _, e2, ?_⟩
 (refine kr_ ?_)
 obtain ⟨f, hf⟩ : ∃ f, (df fm)[j]? = some f := ⟨_, List.getElem?_eq_getElem hlj⟩
 obtain ⟨b, o, ha, e3⟩ := (hfl2.mono K3.le).get (gh hf)
 refine ⟨b, o, ha, by omega, by omega, _, e3, ?_⟩
 have hlf := nT ok hfm hltc (List.mem_of_getElem? hf)
 rw [<- Int.natCast_add, fk (by omega)]
 obtain ⟨b, o, ha, e4, e5⟩ := (((hT i' t hti).mono K.le).mono K3.le).get hlf
 refine ⟨b, o, ha, by omega, e4, _, e5, ?_⟩
 have next : ∀ V' h4, Kn h2 h4 [(b28, .inl ⟨tb (2 ^ σ.n) V', 2 ^ σ.n, false⟩)] -> (∀ x, V' x = true ↔ V x = true \/ (x = c % 2 ^ σ.n /\ σ.ahead i' (σ.next c + f) = true)) ->
   nxt3 [I d, .pointer (some ⟨b10, 0, none⟩), out.v, I (i' + 1 : Nat), (arr b28 (2 ^ σ.n)).v, I c, I (W ((j : Int) + 1))] h4 := fun V' h4 K4 hV' => by
  rw [az (by omega)]
  refine hnx3 hlj _ _ ⟨rfl, V', K4, fun x => ?_⟩
  rw [hV', hV, List.take_add_one, hf]
  constructor
  ·rintro ((q | ⟨q1, i'', q2, q3, f', q4, q5⟩) | ⟨q1, q2⟩)
   ·exact .inl q
   ·exact .inr ⟨q1, i'', q2, q3, f', List.mem_append_left _ q4, q5⟩
   ·exact .inr ⟨q1, i', rfl, eH, f, by simp, q2⟩
  ·rintro (q | ⟨q1, i'', q2, q3, f', q4, q5⟩)
   ·exact .inl (.inl q)
   ·rcases List.mem_append.1 q4 with q4 | q4
    ·exact .inl (.inr ⟨q1, i'', q2, q3, f', q4, q5⟩)
    ·simp at q4; subst q4
     obtain rfl : i'' = i' := by omega
     exact .inr ⟨q1, q5⟩
 refine ad (fun e => ?_) (fun e => ?_)
 ·(refine kr_ ?_)
  rw [if_neg (by omega), eP]
  refine ⟨b28, 0, rfl, by omega, by dsimp only; omega, ?_⟩
  (((with_reducible apply Kn.wr); (assumption); ((focus ((repeat first | exact .head | apply Upd.tail); done)))))
  ·rw [eV]; omega
  intro h4 K4 _
  rw [bk, Nat.zero_add, Int.toNat_natCast, Nat.mul_one, iL] at K4
  refine next _ h4 K4 fun x => ?_
  by_cases ex : x = c % 2 ^ σ.n
  ·rw [if_pos ex]; exact ⟨fun _ => .inr ⟨ex, e⟩, fun _ => rfl⟩
  ·rw [if_neg ex]; exact ⟨.inl, fun q => q.resolve_right fun q2 => ex q2.1⟩
 ·exact next V h3 K3 fun x => ⟨.inl, fun q => q.resolve_right fun q2 => by rw [q2.2] at e; cases e⟩
theorem A7 {h : Hp} {q : yx} {σ : ar} {s x t : Nat} {R : Value -> Hp -> Prop} (hq : wC h q σ) (ok : σ.Ok) (hs : s < 2 ^ σ.n) (hx' : x < 2 ^ σ.k) (ht : t < 2 ^ σ.n) (k : R (.bool (σ.goes (σ.at_ s x) t)) h) :
  kV #[A6 σ q, I s, I x, I t] h R := by
 refine ACalls.drop (xw ?_)
 refine uf_ ?_
 have hn := dA ok
 have hk := y4 ok
 have hp := ky ok
 obtain ⟨hh, hen, hx, ⟨fm, hfm, hfl⟩, _⟩ := id hq
 have hxl := IntS.len hx
 rw [bW, List.length_map, List.length_range] at hxl
 have hfll := IntS.len hfl
 rw [bW] at hfll
 have hfb := Fy hfm
 have hc := ar.at_lt hs hx'
 have K0 := Kn.nil h
 (with_reducible apply Kn.al); (assumption); (intro b12 h1 K1 l1 hb12)
 clear K0 hb12
 refine aq (df fm).length (fun j vs h' => vs = [I s, I x, I t, .pointer (some ⟨b12, 0, none⟩), I j] /\ h1 = h' /\ ∀ f, f ∈ (df fm).take j -> σ.next (σ.at_ s x) + f ≠ t) ⟨rfl, rfl, fun f hf => by simp at hf⟩ ?_
 rintro j _ _ nxt hj ⟨rfl, rfl, hno⟩ hnx
 refine ⟨_, _, _, b12, 0, _, rfl, ?_⟩
 (refine kr_ ?_)
 by_cases hlj : j < (df fm).length
 ·refine aH (by rw [decide_eq_true_eq]; omega) ?_
  (refine kr_ ?_)
  (refine kr_ ?_)
  have e8 : W (W ((x : Int) * ((2 ^ σ.n : Nat) : Int)) + (s : Int)) = ((σ.at_ s x : Nat) : Int) := by
   have h2 : x * 2 ^ σ.n + s < 8192 := by unfold ar.at_ at hc; omega
   rw [<- Int.natCast_mul, fk (by omega), <- Int.natCast_add, fk (by omega)]; rfl
  rw [e8]
  obtain ⟨b, o, ha, e1, e2⟩ := wq.get (hx.mono K1.le) hc
  refine ⟨b, o, ha, by omega, e1, _, e2, ?_⟩
  (refine kr_ ?_)
  obtain ⟨f, hf⟩ : ∃ f, (df fm)[j]? = some f := ⟨_, List.getElem?_eq_getElem hlj⟩
  obtain ⟨b, o, ha, e3⟩ := (hfl.mono K1.le).get (gh hf)
  refine ⟨b, o, ha, by omega, by omega, _, e3, ?_⟩
  have hlf := nT ok hfm hc (List.mem_of_getElem? hf)
  rw [<- Int.natCast_add, fk (by omega)]
  refine ad (fun e => ?_) (fun e => ?_)
  ·refine ⟨h, K1.le, ?_⟩
   have e' := beq_iff_eq.1 e
   rw [(iE ok hfm hc ht).2 ⟨f, List.mem_of_getElem? hf, by omega⟩] at k; exact k
  ·rw [az (by omega)]
   refine hnx hlj _ _ ⟨rfl, rfl, fun f' hf' => ?_⟩
   rw [List.take_add_one, hf] at hf'
   rcases List.mem_append.1 hf' with h5 | h5
   ·exact hno f' h5
   ·simp at h5; subst h5
    intro q
    rw [<- q] at e
    simp at e
 ·refine ak (by rw [decide_eq_false_iff_not]; omega) ⟨h, K1.le, ?_⟩
  rw [show σ.goes (σ.at_ s x) t = false from by
   rw [Bool.eq_false_iff]
   intro q
   obtain ⟨f, hf, e⟩ := (iE ok hfm hc ht).1 q
   exact hno f (by rw [List.take_of_length_le (by omega)]; exact hf) e] at k
  exact k
set_option maxHeartbeats 1000000 in
theorem JN {h : Hp} {q : yx} {σ : ar} {w : Sl} {s l m : Nat} {R : Value -> Hp -> Prop} (hq : wC h q σ) (ok : σ.Ok) (hs : s < 2 ^ σ.n) (hw : xC h w (2 ^ σ.n) m σ.ahead) (hl : l < m) (hm : m <= 1000) (ha : σ.ahead l s = true)
  (k : R (.tuple #[I (te σ l s), I ((if l = 0 then 0 else jx σ (l - 1) (σ.goes (σ.at_ s (te σ l s))) : Nat) : Int)]) h) : rz #[A6 σ q, I s, I l, w.v] h R := by
 refine ACalls.drop (F1 ?_)
 refine uf_ ?_
 have hn := dA ok
 have hk := y4 ok
 have hp := ky ok
 obtain ⟨hh, hen, hx, _, _⟩ := id hq
 have hhl := hh.len
 have hel := hen.len
 have hwl := hw.len
 obtain ⟨hx0, hon, hnx0⟩ := ar.leastB_at (ar.ahead_on.1 ha)
 rw [show ar.leastB (2 ^ σ.k) (fun x => σ.onB l (σ.at_ s x)) = te σ l s from rfl] at hx0 hon hnx0
 generalize te σ l s = x0 at *
 have K0 := Kn.nil h
 (with_reducible apply Kn.al); (assumption); (intro b12 h1 K1 l1 hb12)
 clear K0 hb12
 have hq1 := hq.mono K1.le
 refine aq x0 (fun x vs h' => vs = [I s, I l, w.v, .pointer (some ⟨b12, 0, none⟩), I x] /\ h1 = h') ⟨rfl, rfl⟩ ?_
 rintro x _ _ nxt hx' ⟨rfl, rfl⟩ hnx
 refine ⟨_, _, w, b12, 0, _, rfl, ?_⟩
 (refine kr_ ?_)
 refine aH (by rw [decide_eq_true_eq]; omega) ?_
 have hat := ar.at_lt hs (show x < 2 ^ σ.k by omega)
 have e8 : W (W ((x : Int) * ((2 ^ σ.n : Nat) : Int)) + (s : Int)) = ((σ.at_ s x : Nat) : Int) := by
  have h2 : x * 2 ^ σ.n + s < 8192 := by unfold ar.at_ at hat; omega
  rw [<- Int.natCast_mul, fk (by omega), <- Int.natCast_add, fk (by omega)]; rfl
 refine ap (fun J => J (decide (l = 0) && σ.ends (σ.at_ s x))) ?_ (fun J hJ => ?_)
 rotate_left
 ·refine ad (fun e => ?_) (fun e => ?_)
  ·have e0 : l = 0 := by have := beq_iff_eq.1 e; omega
   (refine kr_ ?_)
   (refine kr_ ?_)
   rw [e8]
   obtain ⟨b, o, ha, e1, e2⟩ := (hen.mono K1.le).get hat
   refine ⟨b, o, ha, by omega, e1, _, e2, ?_⟩
   rw [decide_eq_true e0, Bool.true_and] at hJ; exact hJ
  ·have e0 : ¬ l = 0 := fun q => by rw [q] at e; simp at e
   rw [decide_eq_false e0, Bool.false_and] at hJ; exact hJ
 have skip : σ.onB l (σ.at_ s x) = false -> nxt [I s, I l, w.v, .pointer (some ⟨b12, 0, none⟩), I (W ((x : Int) + 1))] h1 := fun e => by
  rw [az (by omega)]
  refine hnx ?_ _ _ ⟨rfl, rfl⟩
  rcases Nat.lt_or_ge x x0 with q | q
  ·exact q
  ·obtain rfl : x = x0 := by omega
   rw [hon] at e; cases e
 refine ad (fun e => ?_) (fun e => ?_)
 ·rw [Bool.and_eq_true, decide_eq_true_eq] at e
  obtain ⟨rfl, e⟩ := e
  have hxe : x = x0 := by
   rcases Nat.lt_or_ge x x0 with q | q
   ·have := hnx0 x q; rw [show σ.onB 0 (σ.at_ s x) = σ.ends (σ.at_ s x) from rfl, e] at this; cases this
   ·omega
  rw [if_pos rfl, <- hxe] at k
  exact ⟨h, K1.le, k⟩
 refine ap (fun J => J (decide (l = 0) || !σ.hold (σ.at_ s x))) ?_ (fun J hJ => ?_)
 rotate_left
 ·refine ad (fun e => ?_) (fun e => ?_)
  ·have e0 : l = 0 := by have := beq_iff_eq.1 e; omega
   rw [decide_eq_true e0, Bool.true_or] at hJ; exact hJ
  ·have e0 : ¬ l = 0 := fun q => by rw [q] at e; simp at e
   rw [decide_eq_false e0, Bool.false_or] at hJ
   (refine kr_ ?_)
   (refine kr_ ?_)
   rw [e8]
   obtain ⟨b, o, ha, e1, e2⟩ := (hh.mono K1.le).get hat
   exact ⟨b, o, ha, by omega, e1, _, e2, hJ⟩
 refine ad (fun e2 => ?_) (fun e2 => ?_)
 ·refine skip ?_
  cases l with
  | zero =>
   have e3 : σ.ends (σ.at_ s x) = false := by simpa using e
   exact e3
  | succ l' =>
   have : σ.hold (σ.at_ s x) = false := by simpa using e2
   simp [ar.onB, this]
 obtain ⟨l', rfl⟩ : ∃ l', l = l' + 1 := ⟨l - 1, by
  have : ¬ l = 0 := fun q => by rw [q] at e2; simp at e2
  omega⟩
 have eH : σ.hold (σ.at_ s x) = true := by simpa using e2
 have hW : W (((l' + 1 : Nat) : Int) - 1) = (l' : Nat) := by rw [cc (by omega) (by omega)]; omega
 rw [if_neg (by omega), Nat.add_sub_cancel] at k
 refine aq (2 ^ σ.n) (fun t vs h' => vs = [I s, I (l' + 1 : Nat), w.v, .pointer (some ⟨b12, 0, none⟩), I x, I t] /\ h1 = h' /\ ∀ t', t' < t -> (σ.goes (σ.at_ s x) t' && σ.ahead l' t') = false) ⟨rfl, rfl, fun t' e => by omega⟩ ?_
 rintro t _ _ nxt2 ht ⟨rfl, rfl, hno⟩ hnx2
 refine ⟨_, _, w, b12, 0, _, _, rfl, ?_⟩
 (refine kr_ ?_)
 by_cases hlt : t < 2 ^ σ.n
 rotate_left
 ·refine ak (by rw [decide_eq_false_iff_not]; omega) ?_
  refine skip ?_
  rw [Bool.eq_false_iff]
  intro q
  obtain ⟨t', ht', q2⟩ := ar.onB_next q
  rw [hno t' (by omega)] at q2; cases q2
 refine aH (by rw [decide_eq_true_eq]; exact_mod_cast hlt) ?_
 refine ap (fun J => J (σ.goes (σ.at_ s x) t && σ.ahead l' t) h1) ?_ (fun J hJ => ?_)
 rotate_left
 ·rw [hW]
  obtain ⟨bl, ol, r, ha, h3', h4', hr⟩ := hw.get (show l' < m by omega)
  refine ⟨bl, ol, ha, by omega, by omega, r, K1.le.cell h4', ?_⟩
  obtain ⟨br, or, har, hr1, hr2⟩ := (hr.mono K1.le).get hlt
  refine ⟨br, or, har, by omega, hr1, _, hr2, ?_⟩
  refine ad (fun e3 => ?_) (fun e3 => ?_)
  ·rw [e3, Bool.and_true] at hJ
   repeat' (refine kr_ ?_)
   exact A7 hq1 ok hs (by omega) hlt ⟨_, rfl, hJ⟩
  ·rw [e3, Bool.and_false] at hJ; exact hJ
 refine ad (fun e3 => ?_) (fun e3 => ?_)
 ·have hxe : x = x0 := by
   rcases Nat.lt_or_ge x x0 with q | q
   ·have h5 := hnx0 x q
    rw [Bool.and_eq_true] at e3
    have : σ.onB (l' + 1) (σ.at_ s x) = true := by
     simp only [ar.onB, Bool.and_eq_true, ar.leads, cd]
     exact ⟨eH, t, hlt, e3.2, e3.1⟩
    rw [this] at h5; cases h5
   ·omega
  subst hxe
  rw [show jx σ l' (σ.goes (σ.at_ s x)) = t from ar.leastB_of hlt e3 hno] at k
  exact ⟨h, K1.le, k⟩
 ·rw [az (by omega)]
  refine hnx2 hlt _ _ ⟨rfl, rfl, fun t' ht' => ?_⟩
  by_cases q : t' = t
  ·rw [q]; exact e3
  ·exact hno t' (by omega)
set_option maxHeartbeats 1000000 in
theorem vC {h : Hp} {q : yx} {σ : ar} {d : Nat} {R : Value -> Hp -> Prop} (hq : wC h q σ) (ok : σ.Ok) (hd : d <= 256) (hw : ∃ s, s < 2 ^ σ.n /\ (σ.begins s && σ.ahead d s) = true)
  (k : ∀ sS sI h', TrX h h' sS sI (σ.wit d σ.begins) -> R (.agg #[Sl.v sS, Sl.v sI]) h') : j5 #[A6 σ q, I d] h R := by
 apply AA
 refine uf_ ?_
 have hn := dA ok
 have K0 := Kn.nil h
 (with_reducible apply Kn.al); (assumption); (intro b10 h1 K1 l1 hb10)
 (with_reducible apply Kn.al); (assumption); (intro b12 h2 K2 l2 hb12)
 repeat' (refine kr_ ?_)
 refine DZ (hq.mono K2.le) ok hd fun w h3 l3 hL => ⟨_, rfl, ?_⟩
 have hq3 := hq.mono (Hp.le_trans K2.le l3)
 have f10 := l3 _ _ (K2.at (.tail _ (.head _)))
 have f12 := l3 _ _ (K2.at (.head _))
 have hwl := hL.len
 obtain ⟨hs0, hfit, hno⟩ := ar.leastB_at hw
 have hW0 : ar.leastB (2 ^ σ.n) (fun s => σ.begins s && σ.ahead d s) = jx σ d σ.begins := rfl
 rw [hW0] at hs0 hfit hno
 clear hW0
 have hS0 : jx σ d σ.begins = jx σ d σ.begins := rfl
 generalize hse : jx σ d σ.begins = s0 at hs0 hfit hno
 clear hS0
 refine aq s0 (fun s vs h' => vs = [I d, .pointer (some ⟨b10, 0, none⟩), .pointer (some ⟨b12, 0, none⟩), w.v, I s] /\ h3 = h') ⟨rfl, rfl⟩ ?_
 rintro s _ _ nxt hs ⟨rfl, rfl⟩ hnx
 refine ⟨_, b10, 0, b12, 0, w, _, rfl, ?_⟩
 have K3 := Kn.nil h3
 refine ap (fun J => J (!(σ.begins s && σ.ahead d s))) ?_ (fun J hJ => ?_)
 rotate_left
 ·(refine kr_ ?_)
  obtain ⟨b, o, ha, e1, e2⟩ := hq3.2.2.2.2.get (show s < 2 ^ σ.n by omega)
  refine ⟨b, o, ha, by omega, e1, _, e2, ?_⟩
  refine ad (fun e => ?_) (fun e => ?_)
  ·rw [show σ.begins s = false by simpa using e] at hJ; exact hJ
  ·rw [show σ.begins s = true by simpa using e, Bool.true_and] at hJ
   obtain ⟨bl, ol, r, ha, h3', h4', hr⟩ := hL.get (show d < d + 1 by omega)
   refine ⟨bl, ol, ha, by omega, by omega, r, h4', ?_⟩
   obtain ⟨br, or, har, hr1, hr2⟩ := hr.get (show s < 2 ^ σ.n by omega)
   exact ⟨br, or, har, by omega, hr1, _, hr2, hJ⟩
 by_cases hlt : s < s0
 ·refine aH (by rw [hno s hlt]; rfl) ?_
  rw [az (by omega)]
  exact hnx hlt _ _ ⟨rfl, rfl⟩
 obtain rfl : s = s0 := by omega
 refine ak (by rw [hfit]; rfl) ?_
 clear hnx hlt hs K3
 (with_reducible apply Kn.al); (exact Kn.nil h3); (intro b54 h4 K4 l4 hb54)
 refine ur (d + 1) (fun m vs h' => ∃ (pre : List (Nat × Nat)) (cur : Nat) (fits : Nat -> Bool) (sS sI : Sl) (XS XI : List (Nat × Blk)),
  vs = [.pointer (some ⟨b10, 0, none⟩), .pointer (some ⟨b12, 0, none⟩), w.v, I cur, .pointer (some ⟨b54, 0, none⟩), I ((m : Int) - 1)] /\ Kn h3 h' ((b54, .inl ⟨[sS.v, sI.v], 2, false⟩) :: (XS ++ (XI ++ []))) /\
  ez XS sS 1 ((VL (pre.map Prod.fst)).map I) /\ ez XI sI 1 ((VL (pre.map Prod.snd)).map I) /\ pre.length + m = d + 1 /\ (m = 0 -> pre = σ.wit d σ.begins) /\
  ∀ k', m = k' + 1 -> cur = jx σ k' fits /\ pre ++ σ.wit k' fits = σ.wit d σ.begins /\ ∃ s, s < 2 ^ σ.n /\ (fits s && σ.ahead k' s) = true)
  ⟨[], s, σ.begins, ⟨none, 0, 0⟩, ⟨none, 0, 0⟩, [], [], by rw [show (((d + 1 : Nat) : Int) - 1) = d by omega], K4, ff 1, ff 1, by simp,
   fun e => by omega, fun k' e => by obtain rfl : k' = d := by omega
                                     exact ⟨hse.symm, rfl, hw⟩⟩ ?_
 clear K4 l4 hb54 h4
 rintro m _ h4 nxt ⟨pre, cur, fits, sS, sI, XS, XI, rfl, K, oS, oI, hpl, hz, hsc⟩ hnx
 refine ⟨b10, 0, b12, 0, w, _, b54, 0, _, rfl, ?_⟩
 have hpl1 := oS.1
 have hpl2 := oI.1
 simp only [List.length_map, bW, Nat.mul_one] at hpl1 hpl2
 cases m with
 | zero =>
  refine ak (by rw [decide_eq_false_iff_not]; omega) ?_
  (refine kr_ ?_)
  (refine kr_ ?_)
  have K2' := K2.mono (Hp.le_trans l3 K.le)
  (with_reducible apply Kn.wr); (exact K2'); ((focus ((repeat first | exact .head | apply Upd.tail); done)))
  ·exact Nat.le_refl _
  intro h5 K5 kp
  refine ⟨sS, by rw [af (K5.at (.head _))]; rfl, sI, by rw [af (K5.at (.head _))]; rfl, ?_⟩
  refine k sS sI h5 ?_
  rw [<- hz rfl]
  exact Ox (Hp.le_trans K2.le l3) (by rw [f12]; simp) oS oI (by omega) (by omega) K K5.le kp
 | succ k =>
 rename_i kf
 obtain ⟨rfl, hwit, hex⟩ := hsc k rfl
 have hk1 : (((k + 1 : Nat) : Int) - 1) = k := by omega
 rw [hk1]
 refine aH (by rw [decide_eq_true_eq]; omega) ?_
 obtain ⟨hc0, hcf, _⟩ := ar.leastB_at hex
 rw [show ar.leastB (2 ^ σ.n) (fun s => fits s && σ.ahead k s) = jx σ k fits from rfl] at hc0 hcf
 rw [Bool.and_eq_true] at hcf
 obtain ⟨hx0, hon, _⟩ := ar.leastB_at (ar.ahead_on.1 hcf.2)
 rw [show ar.leastB (2 ^ σ.k) (fun x => σ.onB k (σ.at_ (jx σ k fits) x)) = te σ k (jx σ k fits) from rfl] at hx0 hon
 repeat' (refine kr_ ?_)
 refine JN (hq3.mono K.le) ok hc0 (hL.mono K.le) (by omega) (by omega) hcf.2 ⟨_, _, rfl, ?_⟩
 (refine kr_ ?_)
 (with_reducible apply Kn.al); (exact K); (intro b87 h6 K6 l6 hb87)
 have f87 := K6.at (.head _)
 refine Kn.growIn (A := [_, _]) K6 oS (by omega) (by omega) (by omega) ⟨b87, 0, rfl, ax f87⟩ rfl rfl fun sS' XS' h7 hnS oS' K7 l7 => ?_
 simp only [List.cons_append, List.nil_append] at K7
 clear K6 l6 hb87 f87 K
 (((with_reducible apply Kn.wr); (assumption); ((focus ((repeat first | exact .head | apply Upd.tail); done)))))
 ·simp
 intro h8 K8 _
 simp only [bk, List.set_cons_zero, List.set_cons_succ, Nat.zero_add, Nat.reduceAdd] at K8
 clear K7 l7
 (refine kr_ ?_)
 (with_reducible apply Kn.al); (exact K8); (intro b98 h9 K9 l9 hb98)
 have f98 := K9.at (.head _)
 refine Kn.growIn2 (A := [_, _, _]) K9 oI (by omega) (by omega) (by omega) ⟨b98, 0, rfl, ax f98⟩ rfl rfl fun sI' XI' h10 hnI oI' K10 l10 => ?_
 simp only [List.cons_append, List.nil_append] at K10
 clear K9 l9 hb98 f98 K8
 (((with_reducible apply Kn.wr); (assumption); ((focus ((repeat first | exact .head | apply Upd.tail); done)))))
 ·simp
 intro h11 K11 _
 simp only [bk, List.set_cons_zero, List.set_cons_succ, Nat.zero_add, Nat.reduceAdd] at K11
 clear K10 l10
 have nd := K11.nd
 have KS : Kn h3 h11 ((b54, .inl ⟨[sS'.v, sI'.v], 2, false⟩) :: (XS' ++ (XI' ++ []))) := by
  refine K11.sub (fun e he => .tail _ (.tail _ he)) ?_
  simp only [List.map_cons, List.nodup_cons] at nd ⊢
  exact nd.2.2
 rw [cc (by omega) (by omega)]
 refine hnx k (by omega) _ _ ⟨pre ++ [(jx σ k fits, te σ k (jx σ k fits))], _, σ.goes (σ.at_ (jx σ k fits) (te σ k (jx σ k fits))), sS', sI', XS', XI', rfl, KS, by simpa [VL] using oS', by simpa [VL] using oI', by simp; omega, fun e => ?_, fun k' e => ⟨?_, ?_, ?_⟩⟩
 ·subst e; exact hwit
 ·subst e; rw [if_neg (by omega)]; rfl
 ·subst e; rw [<- hwit, HL, List.append_assoc]; rfl
 ·subst e
  exact ar.onB_next hon
theorem TrX.nil {h h' : Hp} (l : h.le h') : TrX h h' ⟨none, 0, 0⟩ ⟨none, 0, 0⟩ [] := ⟨[], [], ⟨rfl, by simp, .inl ⟨rfl, rfl⟩⟩, ⟨rfl, by simp, .inl ⟨rfl, rfl⟩⟩, Kn.of l⟩
theorem pj {σ : ar} (ok : σ.Ok) {d : Nat} (h : σ.depth = some d) : d <= 256 := by
 have h1 := ar.depth_lt h
 have h2 := ar.nLay_le σ
 have h3 := dA ok
 omega
theorem TrX.up {h g h1 h5 : Hp} {b6 : Nat} {sS sI : Sl} {l : List (Nat × Nat)} (t : TrX g h1 sS sI l) (lg : h.le g) (h6 : g b6 ≠ none) (l5 : h.le h5) (kp : ∀ c, c ≠ b6 -> h5 c = h1 c) : TrX h h5 sS sI l := by
 obtain ⟨XS, XI, oS, oI, K⟩ := t
 refine ⟨XS, XI, oS, oI, l5, fun e he => ?_, fun e he => aw lg (K.new e he), K.nd⟩
 have hne : e.1 ≠ b6 := by
  intro e6
  have h1 := K.new e he
  rw [e6] at h1; exact h6 h1
 rw [kp _ hne]; exact K.mem e he
theorem TrX.mono {h h1 h2 : Hp} {sS sI : Sl} {l : List (Nat × Nat)} (t : TrX h h1 sS sI l) (l12 : h1.le h2) : TrX h h2 sS sI l := by
 obtain ⟨XS, XI, oS, oI, K⟩ := t
 exact ⟨XS, XI, oS, oI, K.mono l12⟩
theorem iK.slcOf {X : List (Nat × Blk)} {h : Hp} {s : Sl} {sz : Nat} {cs : List Value} (o : iK X s sz cs) (m : ∀ e ∈ X, h e.1 = some e.2) : SlC h s sz cs := by
 refine ⟨o.2.1, o.1, ?_⟩
 rcases o.2.2 with ⟨h0, _⟩ | ⟨_, b, z, ha, rfl⟩
 ·exact .inl h0
 ·exact .inr ⟨b, 0, ha, ax (m _ (.head _))⟩
theorem TrX.ints {h h1 : Hp} {sS sI : Sl} {l : List (Nat × Nat)} (t : TrX h h1 sS sI l) : IntS h1 sS (VL (l.map Prod.fst)) /\ IntS h1 sI (VL (l.map Prod.snd)) := by
 obtain ⟨XS, XI, oS, oI, K⟩ := t
 exact ⟨oS.slcOf fun e he => K.mem e (List.mem_append_left _ he), oI.slcOf fun e he => K.mem e (List.mem_append_right _ he)⟩
theorem TrX.le {h h' : Hp} {sS sI : Sl} {l : List (Nat × Nat)} (t : TrX h h' sS sI l) : h.le h' := by obtain ⟨_, _, _, _, K⟩ := t; exact K.le
theorem TrX.add {g h h' : Hp} {L : List (Nat × Blk)} {sS sI : Sl} {l : List (Nat × Nat)} (t : TrX h h' sS sI l) (K : Kn g h L) :
  ∃ XS XI, iK XS sS 1 ((VL (l.map Prod.fst)).map I) /\ iK XI sI 1 ((VL (l.map Prod.snd)).map I) /\ Kn g h' (L ++ (XS ++ XI)) := by
 obtain ⟨XS, XI, oS, oI, K'⟩ := t
 exact ⟨XS, XI, oS, oI, K.app K'.le K'.new K'.mem K'.nd⟩
section
variable {g h : Hp} {L XS XI : List (Nat × Blk)} {sS sI tS tI : Sl} {xs ys : List Int} {cS cI : List Value} {k0 : Int} {R : Value -> Hp -> Prop}
theorem nM (h1 : IntS h sS xs /\ IntS h sI ys) (h2 : IntS h tS xs /\ IntS h tI ys) (k : R (.bool true) h) : gO #[.agg #[sS.v, sI.v], .agg #[tS.v, tI.v]] h R := by
 refine ACalls.drop (CW ?_)
 refine uf_ ?_
 have K0 := Kn.nil h
 (with_reducible apply Kn.al); (assumption); (intro b6 h3 K1 l1 hb6)
 (with_reducible apply Kn.al); (assumption); (intro b8 h4 K2 l2 hb8)
 repeat' (refine kr_ ?_)
 refine pJ (h1.1.mono K2.le) (h2.1.mono K2.le) ⟨_, rfl, ak (by simp) ?_⟩
 repeat' (refine kr_ ?_)
 refine pJ (h1.2.mono K2.le) (h2.2.mono K2.le) ⟨_, rfl, ak (by simp) ⟨h, K2.le, k⟩⟩
theorem xG {A X B : List (Nat × Blk)} {s : Sl} {cs : List Value} (o : iK X s 1 cs) (K : Kn g h (A ++ (X ++ B))) (h0 : 0 <= k0) (hk : k0 + s.n <= 9223372036854775807)
  (k : ∀ h' X', iK X' s 1 (bK k0 s.n) -> Kn g h' (A ++ (X' ++ B)) -> R (I (k0 + s.n)) h') : ey #[s.v, I k0] h R := by
 have sw : ∀ Y : List (Nat × Blk), (A ++ (Y ++ B)).Perm ((A ++ B) ++ Y) := fun Y => by
  rw [List.append_assoc]
  exact List.Perm.append_left A List.perm_append_comm
 have K' := K.perm (sw X)
 refine EA (o.own K') h0 hk fun h' l o' _ => ?_
 obtain ⟨X', oX', K2⟩ := o.mark K' l o'
 exact k h' X' oX' (K2.perm (sw X').symm)
theorem tq {Z : List (Nat × Blk)} (oS : iK XS sS 1 cS) (oI : iK XI sI 1 cI) (K : Kn g h (L ++ (XS ++ (XI ++ Z)))) (h0 : 0 <= k0) (hk : k0 + sS.n + sI.n <= 9223372036854775807)
  (k : ∀ h' XS' XI', iK XS' sS 1 (bK k0 sS.n) -> iK XI' sI 1 (bK (k0 + sS.n) sI.n) -> Kn g h' (L ++ (XS' ++ (XI' ++ Z))) -> R (I (k0 + sS.n + sI.n)) h') : jy #[.agg #[sS.v, sI.v], I k0] h R := by
 refine zA ?_
 refine uf_ ?_
 (with_reducible apply Kn.al); (exact K); (intro b5 h1 K1 l1 hb5)
 (refine kr_ ?_)
 refine xG (A := (b5, .inl ⟨[sS.v, sI.v], 2, false⟩) :: L) oS K1 h0 (by omega) fun h2 XS' oS' K2 => ⟨_, rfl, ?_⟩
 refine Kn.rd K2 (.head _) (x := sI) rfl ?_
 rw [<- List.append_assoc] at K2
 refine xG oI K2 (by omega) (by omega) fun h3 XI' oI' K3 => ⟨_, rfl, ?_⟩
 rw [List.append_assoc] at K3
 have nd := K3.nd
 rw [List.cons_append, List.map_cons, List.nodup_cons] at nd
 exact k h3 XS' XI' oS' oI' (K3.sub (fun e he => .tail _ he) nd.2)
theorem pr (h1 : SlC h sS 1 (bK k0 sS.n)) (h2 : SlC h sI 1 (bK (k0 + sS.n) sI.n)) (h0 : 0 <= k0) (hk : k0 + sS.n + sI.n <= 9223372036854775807)
  (k : R (I (k0 + sS.n + sI.n)) h) : gU #[.agg #[sS.v, sI.v], I k0] h R := by
 refine ACalls.drop (y7 ?_)
 refine uf_ ?_
 have K0 := Kn.nil h
 (with_reducible apply Kn.al); (assumption); (intro b5 h3 K1 l1 hb5)
 (refine kr_ ?_)
 refine vp (h1.mono K1.le) h0 (by omega) ⟨_, rfl, ak (by rw [decide_eq_false_iff_not]; omega) ?_⟩
 (refine kr_ ?_)
 refine vp (h2.mono K1.le) (by omega) (by omega) ⟨_, rfl, ak (by rw [decide_eq_false_iff_not]; omega) ⟨h, K1.le, k⟩⟩
end
structure zg where
 kind : Int
 depth : Int
 tr : List (Nat × Nat)
 bd : Bd
def ke (x : Int) : Int := if (if x < 256 then x else 256) > 0 then (if x < 256 then x else 256) else 0
theorem yz (x : Int) : ke x = if (if x < 0 then 0 else x) > 256 then 256 else (if x < 0 then 0 else x) := by
 unfold ke
 by_cases a : x < 0
 ·rw [if_pos (show x < 256 by omega), if_pos a, if_neg (by omega), if_neg (by omega)]
 rw [if_neg a]
 by_cases b : x < 256
 ·rw [if_pos b]
  by_cases c : x > 0
  ·rw [if_pos c, if_neg (by omega)]
  ·rw [if_neg c, if_neg (by omega)]; omega
 ·rw [if_neg b, if_pos (show (256 : Int) > 0 by omega)]
  by_cases c : x > 256
  ·rw [if_pos c]
  ·rw [if_neg c]; omega
def wk (σ : ar) (x : Int) : zg :=
 if 0 <= σ.depthI /\ σ.depthI <= ke x then ⟨3, σ.depthI, σ.wit σ.depthI.toNat σ.begins, gH⟩ else
 if σ.depthI < 0 /\ (σ.nLay : Int) - 1 < ke x then ⟨2, (σ.nLay : Int) - 1, [], da σ.n σ.reach⟩ else ⟨1, ke x, [], gH⟩
def sk (m : aj) (x : Int) : zg := if aR m = 0 then wk (aQ m) x else ⟨0, 0, [], gH⟩
abbrev Pl (p : zg) (sS sI sN : Sl) : List Value := [I p.kind, I p.depth, sS.v, sI.v, I p.bd.v, sN.v, I p.bd.r]
abbrev MT (p : zg) (sS sI sN : Sl) : Value := .agg #[I p.kind, I p.depth, sS.v, sI.v, I p.bd.v, sN.v, I p.bd.r]
def VrX (h h' : Hp) (sS sI sN : Sl) (p : zg) : Prop :=
 ∃ XS XI XN, iK XS sS 1 ((VL (p.tr.map Prod.fst)).map I) /\ iK XI sI 1 ((VL (p.tr.map Prod.snd)).map I) /\ iK XN sN 3 (aX p.bd.ns) /\ Kn h h' (XS ++ (XI ++ XN))
theorem VrX.up {h g h1 h5 : Hp} {b6 : Nat} {sS sI sN : Sl} {p : zg} (t : VrX g h1 sS sI sN p) (lg : h.le g) (h6 : g b6 ≠ none) (l5 : h.le h5) (kp : ∀ c, c ≠ b6 -> h5 c = h1 c) : VrX h h5 sS sI sN p := by
 obtain ⟨XS, XI, XN, oS, oI, oN, K⟩ := t
 refine ⟨XS, XI, XN, oS, oI, oN, l5, fun e he => ?_, fun e he => aw lg (K.new e he), K.nd⟩
 have hne : e.1 ≠ b6 := by
  intro e6
  have h1 := K.new e he
  rw [e6] at h1; exact h6 h1
 rw [kp _ hne]; exact K.mem e he
theorem VrX.mono {h h1 h2 : Hp} {sS sI sN : Sl} {p : zg} (t : VrX h h1 sS sI sN p) (l12 : h1.le h2) : VrX h h2 sS sI sN p := by
 obtain ⟨XS, XI, XN, oS, oI, oN, K⟩ := t
 exact ⟨XS, XI, XN, oS, oI, oN, K.mono l12⟩
theorem VrX.le {h h' : Hp} {sS sI sN : Sl} {p : zg} (t : VrX h h' sS sI sN p) : h.le h' := by obtain ⟨_, _, _, _, _, _, K⟩ := t; exact K.le
theorem Db (sz : Nat) : iK [] ⟨none, 0, 0⟩ sz [] := ⟨by simp, by simp, .inl ⟨rfl, rfl⟩⟩
theorem VrX.ofTr {h h' : Hp} {sS sI : Sl} {l : List (Nat × Nat)} {k d : Int} (t : TrX h h' sS sI l) : VrX h h' sS sI ⟨none, 0, 0⟩ ⟨k, d, l, gH⟩ := by
 obtain ⟨XS, XI, oS, oI, K⟩ := t
 exact ⟨XS, XI, [], oS, oI, Db 3, by rw [List.append_nil]; exact K⟩
theorem VrX.ofBd {h h' : Hp} {s : Sl} {B : Bd} {k d : Int} (l : h.le h') (o : Own (h'.sub h) s 3 (aX B.ns)) : VrX h h' ⟨none, 0, 0⟩ ⟨none, 0, 0⟩ s ⟨k, d, [], B⟩ := by
 obtain ⟨X, oX, K⟩ := (Kn.nil h).addOwn l o
 exact ⟨[], [], X, Db 1, Db 1, oX, K⟩
theorem VrX.nil {h h' : Hp} {k d : Int} (l : h.le h') : VrX h h' ⟨none, 0, 0⟩ ⟨none, 0, 0⟩ ⟨none, 0, 0⟩ ⟨k, d, [], gH⟩ := VrX.ofTr (TrX.nil l)
theorem tV {σ : ar} (h : 0 <= σ.depthI) : ∃ d, σ.depth = some d /\ σ.depthI = d := by
 unfold ar.depthI at h ⊢
 cases hd : σ.depth with
 | none => rw [hd] at h; exact absurd (show (0 : Int) <= -1 from h) (by decide)
 | some d => exact ⟨d, rfl, rfl⟩
theorem E6 {h : Hp} {b : Nat} {σ : ar} {x : Int} {R : Value -> Hp -> Prop} (hs : jP h b σ) (ok : σ.Ok)
  (k : ∀ sS sI sN h', VrX h h' sS sI sN (wk σ x) -> R (MT (wk σ x) sS sI sN) h') : jF #[.pointer (some ⟨b, 0, none⟩), I x] h R := by
 apply uV
 refine uf_ ?_
 have hn := dA ok
 have hnl := ar.nLay_le σ
 unfold wk at k
 have K0 := Kn.nil h
 (with_reducible apply Kn.al); (assumption); (intro b4 h1 K1 l1 hb4)
 refine ji (hs.mono K1.le) ok fun L h2 l2 hL => ⟨_, rfl, ?_⟩
 have K2 := K1.mono l2
 have hs2 := hs.mono K2.le
 have hll := hL.len
 refine pb hs2 ok hL ⟨_, rfl, ?_⟩
 rw [show (if (if x < 256 then x else 256) > 0 then (if x < 256 then x else 256) else 0) = ke x from rfl, hll, cc (n := (σ.nLay : Int) - 1) (by omega) (by omega)]
 generalize ke x = bud at *
 refine ap (fun J => J (decide (0 <= σ.depthI /\ σ.depthI <= bud))) ?_ (fun J hJ => ?_)
 rotate_left
 ·refine ad (fun e => ?_) (fun e => ?_)
  ·rw [show decide (0 <= σ.depthI /\ σ.depthI <= bud) = decide (σ.depthI <= bud) from by rw [decide_eq_true_eq] at e; rw [Bool.eq_iff_iff, decide_eq_true_eq, decide_eq_true_eq]; omega] at hJ; exact hJ
  ·rw [show decide (0 <= σ.depthI /\ σ.depthI <= bud) = false from by rw [decide_eq_false_iff_not] at e ⊢; omega] at hJ; exact hJ
 refine ad (fun e => ?_) (fun e => ?_)
 ·have e' := of_decide_eq_true e
  rw [if_pos e'] at k
  obtain ⟨d, hd, hdI⟩ := tV e'.1
  rw [hdI, Int.toNat_natCast] at k
  rw [hdI]
  refine xa hs2 ok (pj ok hd) (ar.wit_begins hd) fun sS sI h3 t3 => ⟨_, _, rfl, ?_⟩
  have K3 := K2.mono t3.le
  (((with_reducible apply Kn.wr); (assumption); ((focus ((repeat first | exact .head | apply Upd.tail); done)))))
  ·exact of_decide_eq_true rfl
  intro h4 K4 kp
  have K4' : Kn h h4 [(b4, .inl ⟨[I 3, I d, sS.v, sI.v, I 0, Sl.v ⟨none, 0, 0⟩, I 0], 7, false⟩)] := K4
  clear K4 K3 K1
  repeat' (refine kr_ ?_)
  exact k sS sI ⟨none, 0, 0⟩ h4 ((VrX.ofTr t3).up K2.le (by rw [K2.at (.head _)]; simp) K4'.le kp)
 rw [if_neg (of_decide_eq_false e)] at k
 refine ap (fun J => J (decide (σ.depthI < 0 /\ (σ.nLay : Int) - 1 < bud))) ?_ (fun J hJ => ?_)
 rotate_left
 ·refine ad (fun e => ?_) (fun e => ?_)
  ·rw [show decide (σ.depthI < 0 /\ (σ.nLay : Int) - 1 < bud) = decide ((σ.nLay : Int) - 1 < bud) from by rw [decide_eq_true_eq] at e; rw [Bool.eq_iff_iff, decide_eq_true_eq, decide_eq_true_eq]; omega] at hJ; exact hJ
  ·rw [show decide (σ.depthI < 0 /\ (σ.nLay : Int) - 1 < bud) = false from by rw [decide_eq_false_iff_not] at e ⊢; omega] at hJ; exact hJ
 refine ad (fun e => ?_) (fun e => ?_)
 ·rw [if_pos (of_decide_eq_true e)] at k
  refine Dw hs2 ok hL fun bu T h3 K3 hT => ⟨_, rfl, ?_⟩
  have hT' : cy h3 (arr bu (2 ^ σ.n)) (2 ^ σ.n) σ.reach := gu (by omega) (K3.at (.head _)) hT
  have l23 := K3.le
  clear K3
  refine j2 (hs2.mono l23) ok hT' fun s h4 l4 o4 => ⟨_, _, _, _, rfl, ?_⟩
  have K23 := K2.mono l23
  have K4 := K23.mono l4
  (with_reducible apply Kn.al); (exact K4); (intro b47 h5 K5 l5 hb47)
  (((with_reducible apply Kn.wr); (assumption); ((focus ((repeat first | exact .head | apply Upd.tail); done)))))
  ·exact of_decide_eq_true rfl
  intro h6 K6 kp6
  repeat' (refine kr_ ?_)
  (((with_reducible apply Kn.wr); (assumption); ((focus ((repeat first | exact .head | apply Upd.tail); done)))))
  ·exact of_decide_eq_true rfl
  intro h7 K7 kp7
  have l46 := cG hb47 l5 kp6
  have K7' : Kn h h7 [(b47, .inl ⟨[I (da σ.n σ.reach).v, s.v, I (da σ.n σ.reach).r], 3, false⟩), (b4, .inl ⟨[I 2, I ((σ.nLay : Int) - 1), Sl.v ⟨none, 0, 0⟩, Sl.v ⟨none, 0, 0⟩, I (da σ.n σ.reach).v, s.v, I (da σ.n σ.reach).r], 7, false⟩)] := K7
  clear K7 K6 K5 K4
  have o7 := o4.mono (Hp.le_trans (rk h3 l46) (dT K23.le (K23.at (.head _)) kp7))
  clear K23 K2 K1 K0
  repeat' (refine kr_ ?_)
  exact k ⟨none, 0, 0⟩ ⟨none, 0, 0⟩ s h7 (VrX.ofBd K7'.le o7)
 ·rw [if_neg (of_decide_eq_false e)] at k
  (((with_reducible apply Kn.wr); (assumption); ((focus ((repeat first | exact .head | apply Upd.tail); done)))))
  ·exact of_decide_eq_true rfl
  intro h4 K4 kp
  have K4' : Kn h h4 [(b4, .inl ⟨[I 1, I bud, Sl.v ⟨none, 0, 0⟩, Sl.v ⟨none, 0, 0⟩, I 0, Sl.v ⟨none, 0, 0⟩, I 0], 7, false⟩)] := K4
  clear K4 K1
  repeat' (refine kr_ ?_)
  exact k ⟨none, 0, 0⟩ ⟨none, 0, 0⟩ ⟨none, 0, 0⟩ h4 (VrX.nil K4'.le)
theorem AQ {h : Hp} {M : MSl} {m : aj} {x : Int} {R : Value -> Hp -> Prop} (hs : aG h M m) (hm : bU m)
  (k : ∀ sS sI sN h', VrX h h' sS sI sN (sk m x) -> R (MT (sk m x) sS sI sN) h') : k4 #[aM M, I x] h R := by
 apply GG
 refine uf_ ?_
 unfold sk at k
 have K0 := Kn.nil h
 (with_reducible apply Kn.al); (assumption); (intro b8 h1 K1 l1 hb8)
 (with_reducible apply Kn.al); (assumption); (intro b10 h2 K2 l2 hb10)
 repeat' (refine kr_ ?_)
 refine dz (hs.mono K2.le) hm (fun h3 l3 hc => ⟨_, _, rfl, aH rfl ?_⟩) (fun hc g bx h3 l3 hx => ⟨_, _, rfl, ak rfl ?_⟩)
 ·rw [if_neg hc] at k
  have K3 := K2.mono l3
  (((with_reducible apply Kn.wr); (assumption); ((focus ((repeat first | exact .head | apply Upd.tail); done)))))
  ·exact of_decide_eq_true rfl
  intro h4 K4 kp
  have K4' : Kn h h4 [(b10, .inl ⟨[I 0, I 0, Sl.v ⟨none, 0, 0⟩, Sl.v ⟨none, 0, 0⟩, I 0, Sl.v ⟨none, 0, 0⟩, I 0], 7, false⟩), (b8, .inl ⟨cl M, 5, false⟩)] := K4
  clear K4 K3 K2 K1 K0
  repeat' (refine kr_ ?_)
  exact k ⟨none, 0, 0⟩ ⟨none, 0, 0⟩ ⟨none, 0, 0⟩ h4 (VrX.nil K4'.le)
 ·rw [if_pos hc] at k
  have K3 := K2.mono l3
  refine E6 hx (fT g) fun sS sI sN h4 t4 => ⟨_, _, _, _, _, _, _, rfl, ?_⟩
  generalize wk (aQ m) x = V at *
  have K4 := K3.mono t4.le
  (((with_reducible apply Kn.wr); (assumption); ((focus ((repeat first | exact .head | apply Upd.tail); done)))))
  ·exact of_decide_eq_true rfl
  intro h5 K5 kp
  have K5' : Kn h h5 [(b10, .inl ⟨Pl V sS sI sN, 7, false⟩), (b8, .inl ⟨cl M, 5, false⟩)] := K5
  have t5 := t4.up K3.le (by rw [K3.at (.head _)]; simp) K5'.le kp
  clear K5 K4 K3 K2 K1 K0 t4
  repeat' (refine kr_ ?_)
  exact k sS sI sN h5 t5
theorem GE {h : Hp} {x : Int} {R : Value -> Hp -> Prop} (k : R (I (if x < 0 then 0 else x)) h) : pq #[I x] h R := by
 apply CN
 refine uf_ ?_
 refine ad (fun e => ?_) (fun e => ?_)
 ·rw [if_pos (of_decide_eq_true e)] at k; exact k
 ·rw [if_neg (of_decide_eq_false e)] at k; exact k
set_option maxHeartbeats 1000000 in
theorem AW {h : Hp} {M : MSl} {m : aj} {x : Int} {R : Value -> Hp -> Prop} (hs : aG h M m) (hm : bU m)
  (k : ∀ sS sI sN h', VrX h h' sS sI sN (sk m x) -> R (MT (sk m x) sS sI sN) h') : si #[aM M, I x] h R := by
 apply GI
 refine uf_ ?_
 unfold sk at k
 have K0 := Kn.nil h
 (with_reducible apply Kn.al); (assumption); (intro b8 h1 K1 l1 hb8)
 (with_reducible apply Kn.al); (assumption); (intro b10 h2 K2 l2 hb10)
 repeat' (refine kr_ ?_)
 refine ct (hs.mono K2.le) hm ⟨_, rfl, ?_⟩
 refine ad (fun e => ?_) (fun e => ?_)
 ·rw [if_neg (ew e)] at k
  (((with_reducible apply Kn.wr); (assumption); ((focus ((repeat first | exact .head | apply Upd.tail); done)))))
  ·exact of_decide_eq_true rfl
  intro h4 K4 kp
  have K4' : Kn h h4 [(b10, .inl ⟨[I 0, I 0, Sl.v ⟨none, 0, 0⟩, Sl.v ⟨none, 0, 0⟩, I 0, Sl.v ⟨none, 0, 0⟩, I 0], 7, false⟩), (b8, .inl ⟨cl M, 5, false⟩)] := K4
  clear K4 K2 K1 K0
  repeat' (refine kr_ ?_)
  exact k ⟨none, 0, 0⟩ ⟨none, 0, 0⟩ ⟨none, 0, 0⟩ h4 (VrX.nil K4'.le)
 have hc := eG e
 rw [if_pos hc] at k
 have ok := fT (gD hc)
 have hrs : ∀ {h' : Hp} {R' : Value -> Hp -> Prop}, aG h' M m -> (∀ s h'', h'.le h'' -> Own (h''.sub h') s 3 (aX (da (aQ m).n (aQ m).reach).ns) -> R' (CL (da (aQ m).n (aQ m).reach) (((aQ m).nLay : Int) - 1) s) h'') -> ir #[aM M] h' R' := by
  intro h' R' a b
  refine oT a hm ?_
  unfold iw lM
  rw [if_pos hc, if_pos hc]; exact b
 have hof : ∀ {h' : Hp} {R' : Value -> Hp -> Prop}, aG h' M m -> (∀ q h'', h'.le h'' -> wC h'' q (aQ m) -> R' (A6 (aQ m) q) h'') -> eo #[aM M] h' R' := fun a b => jp a hm hc b
 generalize aQ m = σ at *
 have hn := dA ok
 have hnl := ar.nLay_le σ
 have hnp := ar.nLay_pos ok
 unfold wk at k
 refine ap (fun J => J (if x < 0 then 0 else x)) ?_ (fun J hJ => ?_)
 rotate_left
 ·refine ad (fun e => ?_) (fun e => ?_)
  ·rw [if_pos (of_decide_eq_true e)] at hJ; exact hJ
  ·rw [if_neg (of_decide_eq_false e)] at hJ; exact hJ
 refine ap (fun J => J (ke x)) ?_ (fun J hJ => ?_)
 rotate_left
 ·refine ad (fun e => ?_) (fun e => ?_)
  ·rw [show ke x = 256 from by rw [yz, if_pos (of_decide_eq_true e)]] at hJ; exact hJ
  ·rw [show ke x = (if x < 0 then 0 else x) from by rw [yz, if_neg (of_decide_eq_false e)]] at hJ; exact hJ
 generalize ke x = bud at *
 repeat' (refine kr_ ?_)
 refine hof (hs.mono K2.le) fun q h3 l3 hq => ⟨_, _, _, _, _, _, _, rfl, ?_⟩
 have K3 := K2.mono l3
 (with_reducible apply Kn.al); (exact K3); (intro b56 h4 K4 l4 hb56)
 (((with_reducible apply Kn.wr); (assumption); ((focus ((repeat first | exact .head | apply Upd.tail); done)))))
 ·exact of_decide_eq_true rfl
 intro h5 K5 kp5
 simp only [dZ, List.set_cons_zero, List.set_cons_succ, Nat.zero_add, Nat.reduceAdd] at K5
 have hq5 := hq.mono (cG hb56 l4 kp5)
 clear K4 K3 kp5
 repeat' (refine kr_ ?_)
 refine mj hq5 ok ⟨_, rfl, ?_⟩
 repeat' (refine kr_ ?_)
 refine kA hq5 ok fun L h6 l6 hL => ⟨_, rfl, ?_⟩
 have K6 := K5.mono l6
 have hq6 := hq5.mono l6
 have hll := hL.len
 have f10 := K6.at (.tail _ (.head _))
 clear K5 K2 K1 K0
 rw [hll, cc (n := (σ.nLay : Int) - 1) (by omega) (by omega)]
 refine ap (fun J => J (decide (0 <= σ.depthI /\ σ.depthI <= bud))) ?_ (fun J hJ => ?_)
 rotate_left
 ·refine ad (fun e => ?_) (fun e => ?_)
  ·rw [show decide (0 <= σ.depthI /\ σ.depthI <= bud) = decide (σ.depthI <= bud) from by rw [decide_eq_true_eq] at e; rw [Bool.eq_iff_iff, decide_eq_true_eq, decide_eq_true_eq]; omega] at hJ; exact hJ
  ·rw [show decide (0 <= σ.depthI /\ σ.depthI <= bud) = false from by rw [decide_eq_false_iff_not] at e ⊢; omega] at hJ; exact hJ
 refine ad (fun e => ?_) (fun e => ?_)
 ·have e' := of_decide_eq_true e
  rw [if_pos e'] at k
  obtain ⟨d, hd, hdI⟩ := tV e'.1
  rw [hdI, Int.toNat_natCast] at k
  rw [hdI]
  repeat' (refine kr_ ?_)
  refine vC hq6 ok (pj ok hd) (ar.wit_begins hd) fun sS sI h7 t7 => ⟨_, _, rfl, ?_⟩
  have K7 := K6.mono t7.le
  (((with_reducible apply Kn.wr); (assumption); ((focus ((repeat first | exact .head | apply Upd.tail); done)))))
  ·exact of_decide_eq_true rfl
  intro h8 K8 kp
  have K8' : Kn h h8 [(b56, .inl ⟨uM σ q, 7, false⟩), (b10, .inl ⟨[I 3, I d, sS.v, sI.v, I 0, Sl.v ⟨none, 0, 0⟩, I 0], 7, false⟩), (b8, .inl ⟨cl M, 5, false⟩)] := K8
  have t8 := (VrX.ofTr (k := 3) (d := d) t7).up K6.le (by rw [f10]; simp) K8'.le kp
  clear K8 K7 K6
  repeat' (refine kr_ ?_)
  exact k sS sI ⟨none, 0, 0⟩ h8 t8
 rw [if_neg (of_decide_eq_false e)] at k
 refine ap (fun J => J (decide (σ.depthI < 0 /\ (σ.nLay : Int) - 1 < bud))) ?_ (fun J hJ => ?_)
 rotate_left
 ·refine ad (fun e => ?_) (fun e => ?_)
  ·rw [show decide (σ.depthI < 0 /\ (σ.nLay : Int) - 1 < bud) = decide ((σ.nLay : Int) - 1 < bud) from by rw [decide_eq_true_eq] at e; rw [Bool.eq_iff_iff, decide_eq_true_eq, decide_eq_true_eq]; omega] at hJ; exact hJ
  ·rw [show decide (σ.depthI < 0 /\ (σ.nLay : Int) - 1 < bud) = false from by rw [decide_eq_false_iff_not] at e ⊢; omega] at hJ; exact hJ
 refine ad (fun e => ?_) (fun e => ?_)
 ·rw [if_pos (of_decide_eq_true e)] at k
  repeat' (refine kr_ ?_)
  refine hrs (hs.mono K6.le) fun s h7 l7 o7 => ⟨_, _, _, _, _, rfl, ?_⟩
  have K7 := K6.mono l7
  (with_reducible apply Kn.al); (exact K7); (intro b124 h8 K8 l8 hb124)
  (((with_reducible apply Kn.wr); (assumption); ((focus ((repeat first | exact .head | apply Upd.tail); done)))))
  ·exact of_decide_eq_true rfl
  intro h9 K9 kp9
  repeat' (refine kr_ ?_)
  refine GE ⟨_, rfl, ?_⟩
  rw [if_neg (by omega)]
  repeat' (refine kr_ ?_)
  (((with_reducible apply Kn.wr); (assumption); ((focus ((repeat first | exact .head | apply Upd.tail); done)))))
  ·exact of_decide_eq_true rfl
  intro h10 K10 kp10
  have l79 := cG hb124 l8 kp9
  have K10' : Kn h h10 [(b124, .inl ⟨[I (da σ.n σ.reach).v, s.v, I (da σ.n σ.reach).r], 3, false⟩), (b56, .inl ⟨uM σ q, 7, false⟩),
   (b10, .inl ⟨[I 2, I ((σ.nLay : Int) - 1), Sl.v ⟨none, 0, 0⟩, Sl.v ⟨none, 0, 0⟩, I (da σ.n σ.reach).v, s.v, I (da σ.n σ.reach).r], 7, false⟩), (b8, .inl ⟨cl M, 5, false⟩)] := K10
  have o10 := o7.mono (Hp.le_trans (rk h6 l79) (dT K6.le f10 kp10))
  clear K10 K9 K8 K7 K6
  repeat' (refine kr_ ?_)
  exact k ⟨none, 0, 0⟩ ⟨none, 0, 0⟩ s h10 (VrX.ofBd K10'.le o10)
 ·rw [if_neg (of_decide_eq_false e)] at k
  (((with_reducible apply Kn.wr); (assumption); ((focus ((repeat first | exact .head | apply Upd.tail); done)))))
  ·exact of_decide_eq_true rfl
  intro h7 K7 kp
  have K7' : Kn h h7 [(b56, .inl ⟨uM σ q, 7, false⟩), (b10, .inl ⟨[I 1, I bud, Sl.v ⟨none, 0, 0⟩, Sl.v ⟨none, 0, 0⟩, I 0, Sl.v ⟨none, 0, 0⟩, I 0], 7, false⟩), (b8, .inl ⟨cl M, 5, false⟩)] := K7
  clear K7 K6
  repeat' (refine kr_ ?_)
  exact k ⟨none, 0, 0⟩ ⟨none, 0, 0⟩ ⟨none, 0, 0⟩ h7 (VrX.nil K7'.le)
theorem VrX.add {g h h' : Hp} {L : List (Nat × Blk)} {sS sI sN : Sl} {p : zg} (t : VrX h h' sS sI sN p) (K : Kn g h L) :
  ∃ XS XI XN, iK XS sS 1 ((VL (p.tr.map Prod.fst)).map I) /\ iK XI sI 1 ((VL (p.tr.map Prod.snd)).map I) /\ iK XN sN 3 (aX p.bd.ns) /\ Kn g h' (L ++ (XS ++ (XI ++ XN))) := by
 obtain ⟨XS, XI, XN, oS, oI, oN, K'⟩ := t
 exact ⟨XS, XI, XN, oS, oI, oN, K.app K'.le K'.new K'.mem K'.nd⟩
def VrS (h : Hp) (sS sI sN : Sl) (p : zg) : Prop := IntS h sS (VL (p.tr.map Prod.fst)) /\ IntS h sI (VL (p.tr.map Prod.snd)) /\ SlC h sN 3 (aX p.bd.ns)
theorem VrS.mono {h h' : Hp} {sS sI sN : Sl} {p : zg} (l : h.le h') (t : VrS h sS sI sN p) : VrS h' sS sI sN p := ⟨t.1.mono l, t.2.1.mono l, t.2.2.mono l⟩
theorem BK {g h : Hp} {L XS XI XN : List (Nat × Blk)} {sS sI sN : Sl} {cS cI cN : List Value} (oS : iK XS sS 1 cS) (oI : iK XI sI 1 cI) (oN : iK XN sN 3 cN) (K : Kn g h (L ++ (XS ++ (XI ++ XN)))) : SlC h sS 1 cS /\ SlC h sI 1 cI /\ SlC h sN 3 cN :=
 ⟨oS.slcOf fun e he => K.mem e (List.mem_append_right _ (List.mem_append_left _ he)), oI.slcOf fun e he => K.mem e (List.mem_append_right _ (List.mem_append_right _ (List.mem_append_left _ he))),
  oN.slcOf fun e he => K.mem e (List.mem_append_right _ (List.mem_append_right _ (List.mem_append_right _ he)))⟩
theorem VrX.vrS {h h' : Hp} {sS sI sN : Sl} {p : zg} (t : VrX h h' sS sI sN p) : VrS h' sS sI sN p := by
 obtain ⟨XS, XI, XN, oS, oI, oN, K⟩ := t
 exact BK (L := []) oS oI oN K
theorem pl {h : Hp} {sS sI sN tS tI tN : Sl} {p : zg} {R : Value -> Hp -> Prop} (h1 : VrS h sS sI sN p) (h2 : VrS h tS tI tN p) (k : R (.bool true) h) : gP #[MT p sS sI sN, MT p tS tI tN] h R := by
 refine ACalls.drop (zF ?_)
 refine uf_ ?_
 have K0 := Kn.nil h
 (with_reducible apply Kn.al); (assumption); (intro b6 h3 K1 l1 hb6)
 (with_reducible apply Kn.al); (assumption); (intro b8 h4 K2 l2 hb8)
 clear K1 K0
 repeat' (refine kr_ ?_)
 refine ak (by simp) ?_
 repeat' (refine kr_ ?_)
 refine ak (by simp) ?_
 repeat' (refine kr_ ?_)
 refine nM ⟨h1.1.mono K2.le, h1.2.1.mono K2.le⟩ ⟨h2.1.mono K2.le, h2.2.1.mono K2.le⟩ ⟨_, rfl, ak rfl ?_⟩
 repeat' (refine kr_ ?_)
 refine cH (h1.2.2.mono K2.le) (h2.2.2.mono K2.le) ⟨_, rfl, ak (by simp) ⟨h, K2.le, k⟩⟩
set_option maxHeartbeats 1000000 in
theorem y6 {g h : Hp} {L XS XI XN : List (Nat × Blk)} {sS sI sN : Sl} {cS cI cN : List Value} {a b c d : Int} {R : Value -> Hp -> Prop} (oS : iK XS sS 1 cS) (oI : iK XI sI 1 cI) (oN : iK XN sN 3 cN) (K : Kn g h (L ++ (XS ++ (XI ++ XN))))
  (n1 : sS.n <= 1000) (n2 : sI.n <= 1000) (n3 : sN.n <= 1000)
  (k : ∀ h' XS' XI' XN', iK XS' sS 1 (bK 1 sS.n) -> iK XI' sI 1 (bK (1 + sS.n) sI.n) -> iK XN' sN 3 (bK (1 + sS.n + sI.n) (sN.n * 3)) -> Kn g h' (L ++ (XS' ++ (XI' ++ XN'))) -> R (I (1 + sS.n + sI.n + (sN.n : Int) * 3)) h') :
  kc #[.agg #[I a, I b, sS.v, sI.v, I c, sN.v, I d], I 1] h R := by
 refine vG ?_
 refine uf_ ?_
 (with_reducible apply Kn.al); (exact K); (intro b5 h1 K1 l1 hb5)
 (refine kr_ ?_)
 (refine kr_ ?_)
 refine tq (L := (b5, .inl ⟨[I a, I b, sS.v, sI.v, I c, sN.v, I d], 7, false⟩) :: L) oS oI K1 (by omega) (by omega) fun h2 XS' XI' oS' oI' K2 => ⟨_, rfl, ?_⟩
 clear K1 K
 repeat' (refine kr_ ?_)
 have K2' : Kn g h2 ((((b5, .inl ⟨[I a, I b, sS.v, sI.v, I c, sN.v, I d], 7, false⟩) :: L) ++ (XS' ++ XI')) ++ XN) := by rw [List.append_assoc, List.append_assoc]; exact K2
 clear K2
 refine gk (oN.own K2') (by omega) (by omega) fun h3 l3 o3 => ⟨_, rfl, ?_⟩
 obtain ⟨XN', oN', K3⟩ := oN.mark K2' l3 o3
 rw [List.append_assoc, List.append_assoc] at K3
 have nd := K3.nd
 rw [List.cons_append, List.map_cons, List.nodup_cons] at nd
 exact k h3 XS' XI' XN' oS' oI' oN' (K3.sub (fun e he => .tail _ he) nd.2)
theorem rj {h : Hp} {sS sI sN : Sl} {a b c d : Int} {R : Value -> Hp -> Prop} (hh : SlC h sS 1 (bK 1 sS.n) /\ SlC h sI 1 (bK (1 + sS.n) sI.n) /\ SlC h sN 3 (bK (1 + sS.n + sI.n) (sN.n * 3)))
  (n1 : sS.n <= 1000) (n2 : sI.n <= 1000) (n3 : sN.n <= 1000) (k : R (I (1 + sS.n + sI.n + (sN.n : Int) * 3)) h) : ia #[.agg #[I a, I b, sS.v, sI.v, I c, sN.v, I d], I 1] h R := by
 refine ACalls.drop (v7 ?_)
 refine uf_ ?_
 have K0 := Kn.nil h
 (with_reducible apply Kn.al); (assumption); (intro b5 h3 K1 l1 hb5)
 clear K0
 repeat' (refine kr_ ?_)
 refine pr (hh.1.mono K1.le) (hh.2.1.mono K1.le) (by omega) (by omega) ⟨_, rfl, ak (by rw [decide_eq_false_iff_not]; omega) ?_⟩
 repeat' (refine kr_ ?_)
 refine cY (hh.2.2.mono K1.le) (by omega) (by omega) ⟨_, rfl, ak (by rw [decide_eq_false_iff_not]; omega) ⟨h, K1.le, k⟩⟩
theorem Md {m : aj} {x : Int} (hc : aR m = 0 -> eZ m) : (sk m x).tr.length <= 257 /\ (sk m x).bd.ns.length <= 600 := by
 unfold sk
 split
 ·rename_i h
  have ok := fT (hc h)
  unfold wk
  split
  ·rename_i e
   obtain ⟨d, hd, hdI⟩ := tV e.1
   have := pj ok hd
   refine ⟨?_, by simp [gH]⟩
   dsimp only
   rw [Gq, hdI, Int.toNat_natCast]; omega
  ·split
   ·exact ⟨by simp, ja _ _⟩
   ·exact ⟨by simp, by simp [gH]⟩
 ·exact ⟨by simp, by simp [gH]⟩
set_option maxHeartbeats 1000000 in
theorem FnExactCheck_spec {h : Hp} {M : MSl} {m : aj} {x : Int} {R : Value -> Hp -> Prop} (hs : aG h M m) (hsz : ∀ n ∈ m.nodes, n.name.size <= 9223372036854775807)
  (k : R (.bool true) h) : nu #[aM M, I x] h R := by
 refine ACalls.drop (uU ?_)
 refine uf_ ?_
 have K0 := Kn.nil h
 (with_reducible apply Kn.al); (assumption); (intro b7 h1 K1 l1 hb7)
 clear K0 hb7
 repeat' (refine kr_ ?_)
 refine ep (hs.mono K1.le) hsz fun r hr => ⟨_, rfl, ad (fun e => ⟨_, K1.le, k⟩) (fun e => ?_)⟩
 have hm : bU m := (hr.resolve_left (of_decide_eq_false e)).2.2
 clear hr e r
 repeat' (refine kr_ ?_)
 refine aF (hs.mono K1.le) hm fun n1 i1 x1 d1 e1 h2 KA => ⟨_, _, _, _, _, rfl, ?_⟩
 have KA' : Kn h1 h2 (dS m n1 i1 x1 d1 e1 ++ []) := by rw [List.append_nil]; exact KA
 refine AW (de KA' hm) hm fun wS wI wN h3 tw => ⟨_, _, _, _, _, _, _, rfl, ?_⟩
 have l3 := tw.le
 have hI : ∀ {h' : Hp} {M' : MSl} {R' : Value -> Hp -> Prop}, aG h' M' m -> (∀ sS sI sN h'', VrX h' h'' sS sI sN (sk m x) -> R' (MT (sk m x) sS sI sN) h'') -> k4 #[aM M', I x] h' R' := fun a b => AQ a hm b
 have hlen := Md (m := m) (x := x) gD
 generalize sk m x = V at *
 have K3 := K1.mono (Hp.le_trans KA.le l3)
 clear KA' K1
 (with_reducible apply Kn.al); (exact K3); (intro b41 h4 K4 l4 hb41)
 (((with_reducible apply Kn.wr); (assumption); ((focus ((repeat first | exact .head | apply Upd.tail); done)))))
 ·exact of_decide_eq_true rfl
 intro h5 K5 kp5
 have l35 : h3.le h5 := cG hb41 l4 kp5
 have iw5 := (tw.mono l35).vrS
 have f7 := K5.at (.tail _ (.head _))
 have f41 : h5 b41 = some (.inl ⟨Pl V wS wI wN, 7, false⟩) := K5.at (.head _)
 have hs5 := hs.mono K5.le
 have l05 := K5.le
 clear tw kp5 l35 hb41 l4 K4 K3 l3 KA h4 h3 l1
 repeat' (refine kr_ ?_)
 refine aF hs5 hm fun bn bi bx bb bh h6 KB => ⟨_, _, _, _, _, rfl, ?_⟩
 clear K5
 (with_reducible apply Kn.al); (exact KB); (intro b59 h7 K7 l7 hb59)
 (((with_reducible apply Kn.wr); (assumption); ((focus ((repeat first | exact .head | apply Upd.tail); done)))))
 ·exact of_decide_eq_true rfl
 intro h8 K8 _
 clear K7 KB l7 hb59
 repeat' (refine kr_ ?_)
 have nd8 := K8.nd
 rw [List.map_cons, List.nodup_cons] at nd8
 have K8' : Kn h5 h8 (dS m bn bi bx bb bh ++ []) := K8.sub (fun e he => .tail _ (by rwa [List.append_nil] at he)) (by rw [List.append_nil]; exact nd8.2)
 refine hI (de K8' hm) fun gS gI gN h9 tg => ⟨_, _, _, _, _, _, _, rfl, ?_⟩
 obtain ⟨XS, XI, XN, oS, oI, oN, K9⟩ := tg.add K8
 have hnS : gS.n <= 257 := by have := oS.1; simp [VL] at this; omega
 have hnI : gI.n <= 257 := by have := oI.1; simp [VL] at this; omega
 have hnN : gN.n <= 600 := by have := oN.1; rw [dJ] at this; omega
 clear K8 K8' nd8 tg
 (with_reducible apply Kn.al); (exact K9); (intro b76 h10 K10 l10 hb76)
 (((with_reducible apply Kn.wr); (assumption); ((focus ((repeat first | exact .head | apply Upd.tail); done)))))
 ·exact of_decide_eq_true rfl
 intro h11 K11 _
 clear K10 K9 l10 hb76
 obtain ⟨KM, KF⟩ := Kn.split (A := [(b76, .inl ⟨Pl V gS gI gN, 7, false⟩), (b59, .inl ⟨cl (Bc m bn bi bx bb bh), 5, false⟩)]) (B := dS m bn bi bx bb bh ++ (XS ++ (XI ++ XN))) K11
 generalize h11.wo ((dS m bn bi bx bb bh ++ (XS ++ (XI ++ XN))).map Prod.fst) = gB at *
 have f76 := KF.at (.head _)
 have f59 := KF.at (.tail _ (.head _))
 replace f7 := KF.le _ _ f7
 replace f41 := KF.le _ _ f41
 have x59 := bL f59
 have x7 := bL f7
 have x76 := bL f76
 have x41 := bL f41
 have hsB := hs5.mono KF.le
 have iwB := iw5.mono KF.le
 have l0B := Hp.le_trans l05 KF.le
 clear KF K11 iw5 hs5 l05
 repeat' (refine kr_ ?_)
 refine pl (BK oS oI oN KM) (iwB.mono KM.le) ⟨_, rfl, ak rfl ?_⟩
 repeat' (refine kr_ ?_)
 refine aF (hsB.mono KM.le) hm fun n2 i2 x2 d2 e2 h12 KC => ⟨_, _, _, _, _, rfl, ?_⟩
 have KC' : Kn h11 h12 (dS m n2 i2 x2 d2 e2 ++ []) := by rw [List.append_nil]; exact KC
 have KM12 := KM.mono KC.le
 repeat' (refine kr_ ?_)
 refine em (de KM12 hm) (de KC' hm) ⟨_, rfl, ak rfl ?_⟩
 clear KC' KC KM
 repeat' (refine kr_ ?_)
 refine et KM12 hm fun h13 L' hL' KM13 r hr => ⟨_, rfl, ?_⟩
 clear KM12
 refine ap (fun J => J false h13) ?_ (fun J hJ => ?_)
 rotate_left
 ·refine ak (by simp; omega) ?_
  repeat' (refine kr_ ?_)
  refine pl (BK oS oI oN KM13) (iwB.mono KM13.le) ⟨_, rfl, ?_⟩
  simpa using hJ
 refine ak rfl ?_
 repeat' (refine kr_ ?_)
 refine y6 oS oI oN KM13 (by omega) (by omega) (by omega) fun h14 XS' XI' XN' oS' oI' oN' KM14 => ⟨_, rfl, ?_⟩
 have sl14 := BK oS' oI' oN' KM14
 clear KM13
 repeat' (refine kr_ ?_)
 refine rj sl14 (by omega) (by omega) (by omega) ⟨_, rfl, ak (by simp; omega) (ak (by simp) ?_)⟩
 repeat' (refine kr_ ?_)
 refine aF (hsB.mono KM14.le) hm fun n3 i3 x3 d3 e3 h15 KD => ⟨_, _, _, _, _, rfl, ?_⟩
 have KD' : Kn h14 h15 (dS m n3 i3 x3 d3 e3 ++ []) := by rw [List.append_nil]; exact KD
 refine hI (de KD' hm) fun vS vI vN h16 tv => ⟨_, _, _, _, _, _, _, rfl, ?_⟩
 have KM16 := KM14.mono (Hp.le_trans KD.le tv.le)
 clear KD' KM14
 (with_reducible apply Kn.al); (exact KM16); (intro b183 h17 K17 l17 hb183)
 (((with_reducible apply Kn.wr); (assumption); ((focus ((repeat first | exact .head | apply Upd.tail); done)))))
 ·exact of_decide_eq_true rfl
 intro h18 K18 kp18
 have l1618 : h16.le h18 := cG hb183 l17 kp18
 have K18' : Kn gB h18 (((b183, .inl ⟨Pl V vS vI vN, 7, false⟩) :: L') ++ (XS' ++ (XI' ++ XN'))) := K18
 have K19 : Kn gB h18 ((b183, .inl ⟨Pl V vS vI vN, 7, false⟩) :: (L' ++ (XS' ++ (XI' ++ XN')))) := K18
 clear KM16 K17 K18
 repeat' (refine kr_ ?_)
 refine pl (tv.mono l1618).vrS (iwB.mono K19.le) ⟨_, rfl, ak rfl ?_⟩
 repeat' (refine kr_ ?_)
 have sl18 := BK oS' oI' oN' K18'
 refine rj sl18 (by omega) (by omega) (by omega) ⟨_, rfl, ak (by simp; omega) (ak (by simp) ⟨_, Hp.le_trans l0B K19.le, k⟩)⟩
def MG (X : List (Nat × Blk)) (M : MSl) (m : aj) : Prop :=
 ∃ XN XI XE XB XH, X = XN ++ (XI ++ (XE ++ (XB ++ (XH ++ [])))) /\ ez XN M.no 9 (m.nodes.flatMap nodeCells) /\ ez XI M.ini 2 (m.inits.flatMap bindCells) /\ ez XE M.nex 2 (m.nexts.flatMap bindCells) /\
  ez XB M.bad 1 (m.bads.map I) /\ ez XH M.hol 1 (m.holds.map I)
abbrev noM : MSl := ⟨⟨none, 0, 0⟩, ⟨none, 0, 0⟩, ⟨none, 0, 0⟩, ⟨none, 0, 0⟩, ⟨none, 0, 0⟩⟩
abbrev noP : aj := ⟨[], [], [], [], []⟩
theorem MG.nil : MG [] noM noP := ⟨[], [], [], [], [], rfl, ff 9, ff 2, ff 2, ff 1, ff 1⟩
section
variable {g h : Hp} {A X : List (Nat × Blk)} {M : MSl} {m : aj}
theorem ez.slcOf {X : List (Nat × Blk)} {s : Sl} {sz : Nat} {cs : List Value} (o : ez X s sz cs) (hn : s.n <= 9223372036854775807) (m : ∀ e ∈ X, h e.1 = some e.2) : SlC h s sz cs := (o.buf m).slc_of hn
theorem MG.lens (o : MG X M m) : M.no.n = m.nodes.length /\ M.ini.n = m.inits.length /\ M.nex.n = m.nexts.length /\ M.bad.n = m.bads.length /\ M.hol.n = m.holds.length /\ M.no.n <= M.no.c := by
 obtain ⟨XN, XI, XE, XB, XH, _, a, b, c, d, e⟩ := o
 have h1 := a.1; have h2 := b.1; have h3 := c.1; have h4 := d.1; have h5 := e.1; have h6 := a.2.1
 rw [gm (m := 9) (fun _ => rfl)] at h1
 rw [gm (m := 2) (fun _ => rfl)] at h2 h3
 rw [List.length_map] at h4 h5
 omega
theorem MG.blk (o : MG X M m) (hn : 0 < m.nodes.length) : ∃ b x, M.no.a = some ⟨b, 0, none⟩ /\ (b, x) ∈ X := by
 have hl := o.lens
 obtain ⟨XN, XI, XE, XB, XH, rfl, a, _⟩ := o
 rcases a.2.2 with ⟨_, h0, _⟩ | ⟨b, ha, rfl⟩
 ·rw [h0] at hl; have := hl.1; dsimp only at this; omega
 ·exact ⟨b, _, ha, List.mem_append_left _ (.head _)⟩
end
section
variable {g h : Hp} {L L' : List (Nat × Blk)} {b : Nat} {M M' : MSl}
end
theorem Upd.app {L L' X : List (Nat × Blk)} {b : Nat} {x y : Blk} (u : Upd L b x y L') : Upd (L ++ X) b x y (L' ++ X) := by
 induction u with
 | head => exact .head
 | tail _ ih => exact .tail ih
inductive Pk {α : Type} : List α -> α -> List α -> Prop
 | head {L : List α} {a : α} : Pk (a :: L) a L
 | tail {L L' : List α} {a e : α} : Pk L a L' -> Pk (e :: L) a (e :: L')
theorem Pk.perm {α : Type} {L L' : List α} {a : α} (u : Pk L a L') : L.Perm (a :: L') := by
 induction u with
 | head => exact List.Perm.refl _
 | tail _ ih => exact (List.Perm.cons _ ih).trans (List.Perm.swap ..)
end Go.Lead
