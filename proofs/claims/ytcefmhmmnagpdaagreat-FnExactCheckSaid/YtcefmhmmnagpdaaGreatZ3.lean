/- What functions of the program and of the reference come to, walked one by one, and plain laws about it: part 4. No condition is added to the statement. -/
import Derived.Test.YtcefmhmmnagpdaaGreatZ2
namespace Go.Lead
open Go
set_option linter.unusedSimpArgs false
set_option linter.unusedVariables false
set_option maxRecDepth 100000
set_option maxHeartbeats 1000000
def dm (f : Nat -> Bool) (c n : Nat) : List Value := (List.range n).map fun i => .bool (decide (i < c) && f i)
def i9 (f : Nat -> Nat) (c n : Nat) : List Value := (List.range n).map fun i => I ((if i < c then f i else 0 : Nat) : Int)
theorem pL (f : Nat -> Bool) (c n : Nat) : (dm f c n).length = n := by simp [dm]
theorem JY (f : Nat -> Nat) (c n : Nat) : (i9 f c n).length = n := by simp [i9]
theorem hR (f : Nat -> Bool) (n : Nat) : List.replicate n (.bool false) = dm f 0 n := by
 apply List.ext_getElem
 ·simp [dm]
 ·intro i h1 h2; simp [dm]
theorem Af (f : Nat -> Nat) (n : Nat) : List.replicate n (I 0) = i9 f 0 n := by
 apply List.ext_getElem
 ·simp [i9]
 ·intro i h1 h2; simp [i9]
theorem pK {f : Nat -> Bool} {c n : Nat} (h : c < n) : (dm f c n).set c (.bool (f c)) = dm f (c + 1) n := by
 apply List.ext_getElem
 ·simp [dm]
 ·intro i h1 h2
  simp only [dm, List.getElem_set, List.getElem_map, List.getElem_range]
  by_cases e : c = i
  ·subst e; simp
  ·rw [if_neg e]
   have : decide (i < c) = decide (i < c + 1) := by rw [Bool.eq_iff_iff, decide_eq_true_eq, decide_eq_true_eq]; omega
   rw [this]
theorem Jo {f : Nat -> Nat} {c n : Nat} (h : c < n) : (i9 f c n).set c (I (f c : Nat)) = i9 f (c + 1) n := by
 apply List.ext_getElem
 ·simp [i9]
 ·intro i h1 h2
  simp only [i9, List.getElem_set, List.getElem_map, List.getElem_range]
  by_cases e : c = i
  ·subst e; simp
  ·rw [if_neg e]
   by_cases h : i < c
   ·rw [if_pos h, if_pos (by omega)]
   ·rw [if_neg h, if_neg (by omega)]
theorem pT (f : Nat -> Bool) (n : Nat) : dm f n n = ((List.range n).map f).map Value.bool := by
 apply List.ext_getElem
 ·simp [dm]
 ·intro i h1 h2
  have hi : i < n := by simpa [dm] using h1
  simp [dm, hi]
theorem JK (f : Nat -> Nat) (n : Nat) : i9 f n n = (VL ((List.range n).map f)).map I := by
 apply List.ext_getElem
 ·simp [i9, VL]
 ·intro i h1 h2
  have hi : i < n := by simpa [i9] using h1
  simp [i9, VL, hi]
theorem jv.keep {h h' : Hp} {s : Sl} {vs : List (List Nat)} {b z : Nat} {cs : List Value} {ro : Bool} (e : jv h s vs) (f : h b = some (.inl ⟨cs, z, ro⟩)) (hn : Hu cs) (hsl : ∀ (j : Nat) (t : Sl), cs[j]? ≠ some t.v) (kp : ∀ c, c ≠ b -> h' c = h c) : jv h' s vs := by
 refine ⟨e.1, e.2.1, fun p hp => ?_⟩
 obtain ⟨b', o, t, h1, h2, h3⟩ := e.2.2 p hp
 refine ⟨b', o, t, h1, ?_, h3.keepN f hn kp⟩
 have hne : b' ≠ b := by
  rintro rfl
  rw [af f] at h2
  exact hsl _ _ h2
 unfold Hp.cell at h2 ⊢
 rw [kp b' hne]; exact h2
theorem zZ (f : Nat -> Bool) (c n : Nat) : Hu (dm f c n) := by
 intro j i h
 simp only [dm, List.getElem?_map, Option.map_eq_some_iff] at h
 obtain ⟨a, _, h⟩ := h
 cases h
theorem Dc (f : Nat -> Bool) (c n : Nat) : ∀ (j : Nat) (t : Sl), (dm f c n)[j]? ≠ some t.v := by
 intro j t h
 simp only [dm, List.getElem?_map, Option.map_eq_some_iff] at h
 obtain ⟨a, _, h⟩ := h
 cases h
abbrev Ii (M : MSl) (n k : Int) (st hold bad : Sl) (fixed : Int) (next : Sl) (bf ba : Int) : List Value := [M.no.v, M.ini.v, M.nex.v, M.bad.v, M.hol.v, I n, I k, st.v, hold.v, bad.v, I fixed, next.v, I bf, I ba]
abbrev arr (b n : Nat) : Sl := ⟨some ⟨b, 0, none⟩, n, n⟩
def pQ (m : aj) (bH bB bN c : Nat) : List (Nat × Blk) :=
 [(bH, .inl ⟨dm (aQ m).hold c (2 ^ (av m.nodes 36 + av m.nodes 35)), 2 ^ (av m.nodes 36 + av m.nodes 35), false⟩),
  (bB, .inl ⟨dm (aQ m).bad c (2 ^ (av m.nodes 36 + av m.nodes 35)), 2 ^ (av m.nodes 36 + av m.nodes 35), false⟩),
  (bN, .inl ⟨i9 (aQ m).next c (2 ^ (av m.nodes 36 + av m.nodes 35)), 2 ^ (av m.nodes 36 + av m.nodes 35), false⟩)]
theorem wH (m : aj) (v : List (List Nat)) : decide (KZ m v >= 0) = (wE m v).isSome := by
 unfold KZ
 cases wE m v with
 | none => rfl
 | some d => simp
theorem xk {g h : Hp} {M : MSl} {m : aj} {st t : Sl} {b7 b103 bx bH bB bN c : Nat} {n k f0 f1 f2 : Int} {z1 z2 z3 : Nat} {R : Value -> Hp -> Prop} (hs : aG g M m) (hm : bU m) (gd : eZ m)
  (f7 : g b7 = some (.inl ⟨cl M, z1, false⟩)) (f103 : g b103 = some (.inl ⟨[.pointer (some ⟨bx, 0, none⟩)], z2, false⟩))
  (fx : g bx = some (.inl ⟨Ii M n k st (arr bH (2 ^ (av m.nodes 36 + av m.nodes 35))) (arr bB (2 ^ (av m.nodes 36 + av m.nodes 35))) f0 (arr bN (2 ^ (av m.nodes 36 + av m.nodes 35))) f1 f2, z3, false⟩))
  (hst : IntS g st (VL (stP m))) (hc : c < 2 ^ (av m.nodes 36 + av m.nodes 35)) (K : Kn g h (pQ m bH bB bN c))
  (hpv : jv h t (fQ m (c % 2 ^ av m.nodes 36) (c / 2 ^ av m.nodes 36)))
  (kk : ∀ h', Kn (h.wo [bH, bB, bN]) h' (pQ m bH bB bN (c + 1)) -> R (.tuple #[]) h') :
  nD #[I c, t.v, .pointer (some ⟨b7, 0, none⟩), .pointer (some ⟨b103, 0, none⟩)] h R := by
 apply uQ
 refine uf_ ?_
 have a : y2 m (fQ m (c % 2 ^ av m.nodes 36) (c / 2 ^ av m.nodes 36)) := um gd _ _
 have hp13 := Ho gd
 have hv1 : (aQ m).hold c = ui m (fQ m (c % 2 ^ av m.nodes 36) (c / 2 ^ av m.nodes 36)) := rfl
 have hv2 : (aQ m).bad c = (wE m (fQ m (c % 2 ^ av m.nodes 36) (c / 2 ^ av m.nodes 36))).isSome := rfl
 have hv3 : (aQ m).next c = dR m.nodes (stP m) (fO m (fQ m (c % 2 ^ av m.nodes 36) (c / 2 ^ av m.nodes 36))) := rfl
 generalize hv : fQ m (c % 2 ^ av m.nodes 36) (c / 2 ^ av m.nodes 36) = v at *
 generalize hN : 2 ^ (av m.nodes 36 + av m.nodes 35) = N at *
 have lg : g.le (h.wo [bH, bB, bN]) := K.leBase
 have K0 : Kn (h.wo [bH, bB, bN]) h (pQ m bH bB bN c) := K.base
 unfold pQ at K0 kk
 rw [hN] at K0 kk
 clear K
 have hs' := hs.mono lg
 have f7' := lg _ _ f7
 have f103' := lg _ _ f103
 have fx' := lg _ _ fx
 have hst' := hst.mono lg
 have x7 := bL f7'
 have x103 := bL f103'
 have xx := bL fx'
 generalize h.wo [bH, bB, bN] = g1 at *
 clear lg fx f103 f7 hst hs
 repeat' (refine kr_ ?_)
 refine J3 (hs'.mono K0.le) gd hpv a ⟨_, rfl, ?_⟩
 repeat' (refine kr_ ?_)
 refine ⟨by omega, by dsimp only; omega, ?_⟩
 (((with_reducible apply Kn.wr); (assumption); ((focus ((repeat first | exact .head | apply Upd.tail); done)))))
 ·rw [pL]; omega
 intro h24 K1 kp1
 have hpv1 := hpv.keep (K0.at (.head _)) (zZ _ _ _) (Dc _ _ _) kp1
 rw [<- hv1, bk, Nat.zero_add, Int.toNat_natCast, Nat.mul_one, pK hc] at K1
 repeat' (refine kr_ ?_)
 refine Ql (hs'.mono K1.le) gd hpv1 a ⟨_, rfl, ?_⟩
 repeat' (refine kr_ ?_)
 refine ⟨by omega, by dsimp only; omega, ?_⟩
 (((with_reducible apply Kn.wr); (assumption); ((focus ((repeat first | exact .head | apply Upd.tail); done)))))
 ·rw [pL]; omega
 intro h42 K2 kp2
 have hpv2 := hpv1.keep (K1.at (.tail _ (.head _))) (zZ _ _ _) (Dc _ _ _) kp2
 rw [wH, <- hv2, bk, Nat.zero_add, Int.toNat_natCast, Nat.mul_one, pK hc] at K2
 repeat' (refine kr_ ?_)
 refine Iz (hs'.mono K2.le) hm gd hpv2 a fun out h63 l63 hout => ⟨out, rfl, ?_⟩
 have K3 := K2.mono l63
 repeat' (refine kr_ ?_)
 refine Fl (hs'.mono K3.le) hm gd.ok (hst'.mono K3.le) (ee gd 36) (nw gd 36) hout (wQ gd a.fit) (by rw [hY gd]; have := gd.n8; omega) ⟨_, rfl, ?_⟩
 repeat' (refine kr_ ?_)
 refine ⟨by omega, by dsimp only; omega, ?_⟩
 (((with_reducible apply Kn.wr); (assumption); ((focus ((repeat first | exact .head | apply Upd.tail); done)))))
 ·rw [JY]; omega
 intro h72 K4 kp4
 rw [<- hv3, bk, Nat.zero_add, Int.toNat_natCast, Nat.mul_one, Jo hc] at K4
 exact kk h72 K4
def wq (h : Hp) (t : Sl) (n : Nat) (f : Nat -> Nat) : Prop := IntS h t (VL ((List.range n).map f))
theorem wq.mono {h h' : Hp} {t : Sl} {n : Nat} {f : Nat -> Nat} (l : h.le h') (e : wq h t n f) : wq h' t n f := SlC.mono l e
def jP (h : Hp) (b : Nat) (σ : ar) : Prop := ∃ (M : MSl) (st hold bad next : Sl), h b = some (.inl ⟨Ii M σ.n σ.k st hold bad σ.fixed next σ.bfix σ.bas, 14, false⟩) /\
 cy h hold (2 ^ (σ.n + σ.k)) σ.hold /\ cy h bad (2 ^ (σ.n + σ.k)) σ.bad /\ wq h next (2 ^ (σ.n + σ.k)) σ.next
theorem jP.mono {h h' : Hp} {b : Nat} {σ : ar} (l : h.le h') (e : jP h b σ) : jP h' b σ := by
 obtain ⟨M, st, hold, bad, next, h1, h2, h3, h4⟩ := e
 exact ⟨M, st, hold, bad, next, l _ _ h1, h2.mono l, h3.mono l, h4.mono l⟩
theorem MF {g h : Hp} {L : List (Nat × Blk)} {M : MSl} {m : aj} {kind : Int} {R : Value -> Hp -> Prop} (K : Kn g h L) (hs : aG g M m) (hm : bU m) (gd : eZ m)
  (k : ∀ t h' g', Kn g' h' L -> IntS g' t (VL (aN m.nodes kind)) -> g.le g' -> h.le h' -> R (Sl.v t) h') : bR #[aM M, I kind] h R :=
 jZ (hs.mono K.le) hm fun t h' l hn hb => by
  have l' := Hp.le_trans l (aO _ _)
  have K' := K.mono l'
  refine k t h' _ K'.base ?_ K'.leBase l'
  have := gd.nl
  exact (hb.wo l K.has).slc_of (by omega)
def yP (m : aj) (j p : Nat) : List Nat := ((cm (m.inits.take j) p).map fun k => tK (aD m.nodes p) ((rO m).getD k [])).getD (List.replicate (aD m.nodes p) 0)
theorem Qm (m : aj) (p : Nat) : yP m m.inits.length p = (jA m p).getD (List.replicate (aD m.nodes p) 0) := by
 unfold yP jA; rw [List.take_length]
theorem Mg {m : aj} (g : eZ m) {j : Nat} {b : BindP} (hb : m.inits[j]? = some b) (p : Nat) : yP m (j + 1) p = if b.state = (p : Int) then tK (aD m.nodes p) ((rO m).getD b.node.toNat []) else yP m j p := by
 unfold yP
 rw [Dr (Ab g.twice).2.1 hb]
 split <;> rfl
theorem Nr (m : aj) {i p : Nat} (h : (stP m)[i]? = some p) : (qa m).getD i [] = yP m m.inits.length p := by
 rw [Qm]
 unfold qa kr
 rw [List.getD_eq_getElem?_getD, List.getElem?_map, h]; rfl
theorem Co {m : aj} (g : eZ m) {b : BindP} (hb : b ∈ m.inits) : 0 <= b.node /\ b.node < m.nodes.length /\ 0 < ((rO m).getD b.node.toNat []).length /\ ((rO m).getD b.node.toNat []).length <= 4 /\ 0 <= b.state /\ b.state < m.nodes.length := by
 obtain ⟨q1, q2, q3, q4, _⟩ := CP (g.ini b hb)
 have q2' := fU.1 q2
 have q1' := fU.1 q1
 have hf := (CB g).fit b.node.toNat (by omega) (by omega)
 have := (qU g.ok (show b.node.toNat < m.nodes.length by omega) hf).1
 refine ⟨q2'.1, q2'.2, hf.pos, ?_, q1'.1, q1'.2⟩
 rw [this]; exact eu _ _
set_option maxHeartbeats 4000000 in
theorem dz {h : Hp} {M : MSl} {m : aj} {R : Value -> Hp -> Prop} (hs : aG h M m) (hm : bU m)
  (k0 : ∀ h', h.le h' -> aR m ≠ 0 -> R (.tuple #[.pointer none, .bool false]) h')
  (k1 : aR m = 0 -> eZ m -> ∀ b h', h.le h' -> jP h' b (aQ m) -> R (.tuple #[.pointer (some ⟨b, 0, none⟩), .bool true]) h') : cA #[aM M] h R := by
 apply zd
 refine uf_ ?_
 have K0 := Kn.nil h
 (with_reducible apply Kn.al); (assumption); (intro b7 h1 K1 l1 hb7)
 repeat' (refine kr_ ?_)
 refine uL (hs.mono l1) hm ⟨_, rfl, ad (fun e => k0 h1 l1 (ew e)) (fun e => ?_)⟩
 have hcode := eG e
 have gd := gD hcode
 replace k1 := k1 hcode gd
 clear k0 e hcode l1 hb7 K0
 have hn8 := gd.n8
 have hk5 := gd.k5
 have hp13 := Ho gd
 have hp13' := aU (av m.nodes 36 + av m.nodes 35)
 refine ap (fun J => ∀ (bp bx : Nat) (h' g' : Hp) (t : Sl) (L0 : List (Nat × Blk)), Kn g' h' L0 -> (bp, .inl ⟨[.pointer (some ⟨bx, 0, none⟩)], 1, false⟩) ∈ L0 ->
  (bx, .inl ⟨Ii M (av m.nodes 36) (av m.nodes 35) t ⟨none, 0, 0⟩ ⟨none, 0, 0⟩ 0 ⟨none, 0, 0⟩ 0 0, 14, false⟩) ∈ L0 -> (b7, .inl ⟨cl M, 5, false⟩) ∈ L0 -> h.le g' -> IntS g' t (VL (stP m)) -> J bp 0 h') ?_ (fun J hJ => ?_)
 rotate_left
 ·repeat' (first
   | (refine kr_ ?_)
   | (refine jf (hs.mono (Kn.le (by assumption))) hm ⟨_, rfl, ?_⟩)
   | (refine MF (by assumption) hs hm gd fun _ _ _ _ _ _ _ => ⟨_, rfl, ?_⟩)
   | ((with_reducible apply Kn.al); (assumption); (intro _ _ _ _ _))
   | ((((with_reducible apply Kn.wr); (assumption); ((focus ((repeat first | exact .head | apply Upd.tail); done))))); (exact Nat.le_refl _); (intro _ _ _))
   | ((with_reducible apply hJ) <;> first | assumption | ((focus ((repeat first | exact .head _ | apply List.Mem.tail); done))))
   | (refine And.intro ?_ ?_))
 intro bp bx h2 g2 st L0 K2' mp mx m7 l2 hst
 have K2 : Kn g2 h2 [(bp, .inl ⟨[.pointer (some ⟨bx, 0, none⟩)], 1, false⟩), (bx, .inl ⟨Ii M (av m.nodes 36) (av m.nodes 35) st ⟨none, 0, 0⟩ ⟨none, 0, 0⟩ 0 ⟨none, 0, 0⟩ 0 0, 14, false⟩), (b7, .inl ⟨cl M, 5, false⟩)] := by
  refine K2'.sub (fun e he => ?_) ?_
  ·simp only [List.mem_cons, List.not_mem_nil, or_false] at he
   rcases he with rfl | rfl | rfl <;> assumption
  ·have n1 := du (K2'.at mp) (K2'.at mx) (by simp)
   have n2 := du (K2'.at mp) (K2'.at m7) (by simp)
   have n3 := du (K2'.at mx) (K2'.at m7) (by simp)
   simp [n1, n2, n3]
 clear K2' mp mx m7 L0 K1
 have hs2 := hs.mono l2
 repeat' (refine kr_ ?_)
 rw [cc (n := ((av m.nodes 36 : Nat) : Int) + ((av m.nodes 35 : Nat) : Int)) (by omega) (by omega), if_neg (by omega), <- Int.natCast_add, cu (by omega)]
 generalize hN : 2 ^ (av m.nodes 36 + av m.nodes 35) = N at *
 have tN : Int.toNat (N : Int) = N := Int.toNat_natCast N
 have nN : N * 1 = N := Nat.mul_one N
 have zB : aA #[.bool false] N = dm (aQ m).hold 0 N := by rw [bM, hR]
 have zI : aA #[I 0] N = i9 (aQ m).next 0 N := by rw [bM, Af]
 simp only [tN, nN, zB, zI]
 clear tN nN zB zI
 refine ap (fun J => ∀ (bH bB bN : Nat) (h' : Hp) (L0 : List (Nat × Blk)), Kn g2 h' L0 -> (bp, .inl ⟨[.pointer (some ⟨bx, 0, none⟩)], 1, false⟩) ∈ L0 ->
  (bx, .inl ⟨Ii M (av m.nodes 36) (av m.nodes 35) st (arr bH N) (arr bB N) 0 (arr bN N) 0 0, 14, false⟩) ∈ L0 -> (b7, .inl ⟨cl M, 5, false⟩) ∈ L0 ->
  (bH, .inl ⟨dm (aQ m).hold 0 N, N, false⟩) ∈ L0 -> (bB, .inl ⟨dm (aQ m).hold 0 N, N, false⟩) ∈ L0 -> (bN, .inl ⟨i9 (aQ m).next 0 N, N, false⟩) ∈ L0 -> (bH ≠ bB /\ bH ≠ bN /\ bB ≠ bN) -> J h') ?_ (fun J hJ => ?_)
 rotate_left
 ·repeat' (first
   | (refine kr_ ?_)
   | ((with_reducible apply Kn.al); (assumption); (intro _ _ _ _ _))
   | (refine And.intro (by omega) ?_)
   | ((((with_reducible apply Kn.wr); (assumption); ((focus ((repeat first | exact .head | apply Upd.tail); done))))); (exact of_decide_eq_true rfl); (intro _ _ _))
   | ((with_reducible apply hJ) <;> first | assumption | ((focus ((repeat first | exact .head _ | apply List.Mem.tail); done))) | ((have hnd := Kn.nd (by assumption); simp only [List.map_cons, List.map_nil, List.nodup_cons, List.mem_cons, List.not_mem_nil, not_or, or_false, not_false_eq_true, and_true, List.nodup_nil] at hnd; omega)))
   | (refine And.intro ?_ ?_))
 intro bH bB bN h3 L0 K3' mp mx m7 mH mB mN hne
 have e0 : dm (aQ m).hold 0 N = dm (aQ m).bad 0 N := by rw [<- hR, <- hR]
 rw [e0] at mB
 have n1 := du (K3'.at mp) (K3'.at mx) (by simp)
 have n2 := du (K3'.at mp) (K3'.at m7) (by simp)
 have n3 := du (K3'.at mx) (K3'.at m7) (by simp)
 have hb1 : ∀ b ∈ [bH, bB, bN], g2 b = none := by
  intro b hb
  simp only [List.mem_cons, List.not_mem_nil, or_false] at hb
  rcases hb with rfl | rfl | rfl
  ·exact K3'.new _ mH
  ·exact K3'.new _ mB
  ·exact K3'.new _ mN
 have h0b : (dm (aQ m).hold 0 N)[0]? = some (.bool false) := by rw [<- hR, List.getElem?_replicate, if_pos hp13']
 have h0b2 : (dm (aQ m).bad 0 N)[0]? = some (.bool false) := by rw [<- hR, List.getElem?_replicate, if_pos hp13']
 have h0n : (i9 (aQ m).next 0 N)[0]? = some (I 0) := by rw [<- Af, List.getElem?_replicate, if_pos hp13']
 have dif : ∀ {b c : Nat} {cs ds : List Value} {z y : Nat} {v w : Value}, (b, .inl ⟨cs, z, false⟩) ∈ L0 -> (c, .inl ⟨ds, y, false⟩) ∈ L0 -> cs[0]? = some v -> ds[0]? = some w -> v ≠ w -> b ≠ c := by
  intro b c cs ds z y v w hb hc e1 e2 hvw hbc
  subst hbc
  have := (K3'.at hb).symm.trans (K3'.at hc)
  simp only [Option.some.injEq, Sum.inl.injEq, Row.mk.injEq] at this
  rw [this.1, e2] at e1
  exact hvw (Option.some.inj e1).symm
 have K3 : Kn g2 h3 (pQ m bH bB bN 0 ++ [(bp, .inl ⟨[.pointer (some ⟨bx, 0, none⟩)], 1, false⟩), (bx, .inl ⟨Ii M (av m.nodes 36) (av m.nodes 35) st (arr bH N) (arr bB N) 0 (arr bN N) 0 0, 14, false⟩), (b7, .inl ⟨cl M, 5, false⟩)]) := by
  refine K3'.sub (fun e he => ?_) ?_
  ·simp only [pQ, hN, List.mem_append, List.mem_cons, List.not_mem_nil, or_false] at he
   rcases he with (rfl | rfl | rfl) | rfl | rfl | rfl <;> assumption
  ·have a1 := dif mH mp h0b rfl (by simp)
   have a2 := dif mH mx h0b rfl (by simp)
   have a3 := dif mH m7 h0b rfl (by simp)
   have a4 := dif mB mp h0b2 rfl (by simp)
   have a5 := dif mB mx h0b2 rfl (by simp)
   have a6 := dif mB m7 h0b2 rfl (by simp)
   have a7 := dif mN mp h0n rfl (by simp)
   have a8 := dif mN mx h0n rfl (by simp)
   have a9 := dif mN m7 h0n rfl (by simp)
   simp [pQ, hne.1, hne.2.1, hne.2.2, n1, n2, n3, a1, a2, a3, a4, a5, a6, a7, a8, a9]
 clear dif h0b h0b2 h0n e0 n1 n2 n3 mp mx m7 mH mB mN K3' L0 K2
 have Kf : Kn g2 h3 (pQ m bH bB bN 0) := K3.sub (fun e he => List.mem_append_left _ he) (by simp [pQ, hne.1, hne.2.1, hne.2.2])
 have nB : ∀ b ∈ [bp, bx, b7], b ∉ [bH, bB, bN] := by
  have hnd := K3.nd
  simp only [pQ, List.cons_append, List.nil_append, List.map_cons, List.map_nil, List.nodup_cons, List.mem_cons, List.not_mem_nil, not_or, or_false, not_false_eq_true, and_true, List.nodup_nil] at hnd
  intro b hb hb2
  simp only [List.mem_cons, List.not_mem_nil, or_false] at hb hb2
  omega
 have f7 : (h3.wo [bH, bB, bN]) b7 = some (.inl ⟨cl M, 5, false⟩) := by
  rw [q7 (nB _ (by simp))]; exact K3.at (by simp)
 have fp : (h3.wo [bH, bB, bN]) bp = some (.inl ⟨[.pointer (some ⟨bx, 0, none⟩)], 1, false⟩) := by
  rw [q7 (nB _ (by simp))]; exact K3.at (by simp)
 have fx : (h3.wo [bH, bB, bN]) bx = some (.inl ⟨Ii M (av m.nodes 36) (av m.nodes 35) st (arr bH N) (arr bB N) 0 (arr bN N) 0 0, 14, false⟩) := by
  rw [q7 (nB _ (by simp))]; exact K3.at (by simp)
 have lB : g2.le (h3.wo [bH, bB, bN]) := Kf.leBase
 have hsB := hs2.mono lB
 have hstB := hst.mono lB
 have Kr := Kn.of (mS h3 [bH, bB, bN])
 repeat' (refine kr_ ?_)
 subst hN
 refine L9 (B := [bH, bB, bN]) (st := fun c h' => Kn (h3.wo [bH, bB, bN]) h' (pQ m bH bB bN c)) hsB hm gd Kf.has (fun c h1 h2 K l => K.mono l) Kf.base (fun c hc h4 t l4 K hpv R' hR' => ?_) (fun h4 l4 K4 => ⟨rfl, ?_⟩)
 ·exact xk hsB hm gd f7 fp fx hstB hc K hpv fun h5 K5 => hR' h5 ⟨Hp.le_trans K.leBase K5.le, K5.mem, fun e he => by
   have := K5.nd
   exact aw K.leBase (K5.new e he), K5.nd⟩ K5.le
 have K5 : Kn g2 h4 (pQ m bH bB bN (2 ^ (av m.nodes 36 + av m.nodes 35)) ++ [(bp, .inl ⟨[.pointer (some ⟨bx, 0, none⟩)], 1, false⟩), (bx, .inl ⟨Ii M (av m.nodes 36) (av m.nodes 35) st (arr bH (2 ^ (av m.nodes 36 + av m.nodes 35))) (arr bB (2 ^ (av m.nodes 36 + av m.nodes 35))) 0 (arr bN (2 ^ (av m.nodes 36 + av m.nodes 35))) 0 0, 14, false⟩), (b7, .inl ⟨cl M, 5, false⟩)]) := by
  refine ⟨Hp.le_trans lB l4, fun e he => ?_, fun e he => ?_, K3.nd⟩
  ·rcases List.mem_append.1 he with he | he
   ·exact K4.mem e he
   ·simp only [List.mem_cons, List.not_mem_nil, or_false] at he
    rcases he with rfl | rfl | rfl
    ·exact l4 _ _ fp
    ·exact l4 _ _ fx
    ·exact l4 _ _ f7
  ·rcases List.mem_append.1 he with he | he
   ·have hm : e.1 ∈ [bH, bB, bN] := by
     simp only [pQ, List.mem_cons, List.not_mem_nil, or_false] at he
     rcases he with rfl | rfl | rfl <;> simp
    exact hb1 _ hm
   ·exact K3.new e (List.mem_append_right _ he)
 unfold pQ at K5
 simp only [List.cons_append, List.nil_append] at K5
 clear K4 Kr hstB hsB lB fx fp f7 nB Kf K3 l4 h3
 have hil := gd.il
 have hxl := gd.xl
 have hin := hs2.inits.len
 have hp36 : (stP m).length <= m.nodes.length := gy m.nodes 36
 have hnl := gd.nl
 have hstn : st.n = (stP m).length := by have := hst.len; rw [bW] at this; exact this
 repeat' (refine kr_ ?_)
 refine th (hs2.mono K5.le) hm gd (hs2.mono K5.le).nexts (by omega) ⟨_, rfl, ?_⟩
 repeat' (refine kr_ ?_)
 (((with_reducible apply Kn.wr); (assumption); ((focus ((repeat first | exact .head | apply Upd.tail); done)))))
 ·exact of_decide_eq_true rfl
 intro h5 K6 _
 clear K5
 repeat' (refine kr_ ?_)
 refine GR (hs2.mono K6.le) hm gd fun vt h6 l6 hvn hpv => ⟨vt, rfl, ?_⟩
 have K7 := K6.mono l6
 clear K6 l6
 have hs6 := hs2.mono K7.le
 have hst6 := hst.mono K7.le
 have f7 : h6 b7 = some (.inl ⟨cl M, 5, false⟩) := K7.at (by simp)
 have fp : h6 bp = some (.inl ⟨[.pointer (some ⟨bx, 0, none⟩)], 1, false⟩) := K7.at (by simp)
 repeat' (refine kr_ ?_)
 refine nY hs6 hm hst6 (ee gd 36) (nw gd 36) fun out ts h7 c1 hon => ⟨out, rfl, ?_⟩
 have Kr := Kn.of (Hp.le_trans c1.le (aO _ _))
 repeat' (refine kr_ ?_)
 have aV := CB gd
 refine aq m.inits.length (fun j vs h' => ∃ ts : List Sl, vs = [.pointer (some ⟨b7, 0, none⟩), .pointer (some ⟨bp, 0, none⟩), vt.v, out.v, M.ini.v, I M.ini.n, I j] /\ h6.le (h'.offS out) /\ Buf h' out 1 (ts.map Sl.v) /\ ts.length = (stP m).length /\
  ∀ (i p : Nat) (t : Sl), (stP m)[i]? = some p -> ts[i]? = some t -> IntS (h'.offS out) t (VL (yP m j p))) ⟨ts, rfl, c1.le, c1.buf, by rw [c1.len, kg], fun i p t hp ht => ?_⟩ ?_
 ·obtain ⟨b, e1, e2, e3⟩ := c1.row i t ht
  have hz : (cW m.nodes (stP m)).getD i [] = yP m 0 p := by
   unfold cW yP
   rw [List.getD_eq_getElem?_getD, List.getElem?_map, hp]; rfl
  have hz4 : ((cW m.nodes (stP m)).getD i []).length <= 4 := by
   unfold cW
   rw [List.getD_eq_getElem?_getD, List.getElem?_map, hp]
   simp only [Option.map_some, Option.getD_some, List.length_replicate]
   exact eu _ _
  rw [hz] at e1 e3 hz4
  rw [e1]
  exact ⟨by dsimp only; omega, by simp [bW], .inr ⟨b, 0, rfl, ax e3⟩⟩
 clear c1 Kr ts h7
 rintro j _ h8 next hj ⟨ts, rfl, l8, hbuf, htl, hts⟩ hnx
 have lo := aO h8 out
 have l68 := Hp.le_trans l8 lo
 refine ⟨_, _, _, _, vt, out, M.ini, _, _, rfl, ?_⟩
 by_cases hlt : j < m.inits.length
 rotate_left
 ·have hje : j = m.inits.length := by omega
  subst hje
  refine ak (by simp; omega) ?_
  have K9 := K7.mono l68
  have hbl : (qa m).length = (stP m).length := by unfold qa kr; rw [List.length_map]
  have iss : IntSS h8 out ((qa m).map VL) := ⟨ts, by rw [List.length_map, hbl]; exact htl, hbuf.slc_of (by rw [hon]; have := nw gd 36; omega), fun i h1 h2 => by
   have hi : i < (stP m).length := by omega
   have hpi : (stP m)[i]? = some (stP m)[i] := List.getElem?_eq_getElem hi
   have := (hts i _ _ hpi (List.getElem?_eq_getElem h1)).mono lo
   rw [<- Nr m hpi] at this
   rw [List.getElem_map]
   rwa [List.getD_eq_getElem?_getD, List.getElem?_eq_getElem (by rw [hbl]; exact hi)] at this⟩
  have hs8 := hs6.mono l68
  clear hbuf hts
  repeat' (refine kr_ ?_)
  refine th hs8 hm gd hs8.inits (by omega) ⟨_, rfl, ?_⟩
  repeat' (refine kr_ ?_)
  refine Fl hs8 hm gd.ok (hst6.mono l68) (ee gd 36) (nw gd 36) iss (Fz gd) (by rw [hY gd]; omega) ⟨_, rfl, ?_⟩
  repeat' (refine kr_ ?_)
  (((with_reducible apply Kn.wr); (assumption); ((focus ((repeat first | exact .head | apply Upd.tail); done)))))
  ·exact of_decide_eq_true rfl
  intro h9 K10 _
  repeat' (refine kr_ ?_)
  (((with_reducible apply Kn.wr); (assumption); ((focus ((repeat first | exact .head | apply Upd.tail); done)))))
  ·exact of_decide_eq_true rfl
  intro h10 K11 _
  repeat' (refine kr_ ?_)
  refine k1 bx h10 (Hp.le_trans l2 K11.le) ⟨M, st, arr bH (2 ^ (av m.nodes 36 + av m.nodes 35)), arr bB (2 ^ (av m.nodes 36 + av m.nodes 35)), arr bN (2 ^ (av m.nodes 36 + av m.nodes 35)), K11.at (by ((focus ((repeat first | exact .head _ | apply List.Mem.tail); done)))), ?_, ?_, ?_⟩
  ·refine ⟨by dsimp only; omega, by simp [aQ], .inr ⟨bH, 0, rfl, ?_⟩⟩
   have := ax (K11.at (.head _))
   rwa [pT] at this
  ·refine ⟨by dsimp only; omega, by simp [aQ], .inr ⟨bB, 0, rfl, ?_⟩⟩
   have := ax (K11.at (.tail _ (.head _)))
   rwa [pT] at this
  ·refine ⟨by dsimp only; omega, by simp [aQ, VL], .inr ⟨bN, 0, rfl, ?_⟩⟩
   have := ax (K11.at (.tail _ (.tail _ (.head _))))
   rwa [JK] at this
 refine aH (by simp; omega) ?_
 obtain ⟨bd, hbd⟩ : ∃ bd, m.inits[j]? = some bd := ⟨_, List.getElem?_eq_getElem hlt⟩
 obtain ⟨v1, v2, v3, v4, s1, s2⟩ := Co gd (List.mem_of_getElem? hbd)
 obtain ⟨bi, oi, hai, cx1, cx2⟩ := (hs6.mono l68).inits.at hbd
 refine ⟨bi, oi, hai, by omega, by omega, _, cx1, _, cx2, ?_⟩
 refine ae fun b48 h9 hb48 l9 f48' => ?_
 (with_reducible apply bC); (exact f48'); (exact l9); (exact hb48); (exact Nat.le_refl 2)
 intro h10 f48 kp l10
 have l10o := bJ out l10
 have f48o := hbuf.offS_new hb48 f48
 clear f48' kp l9
 have Kr := Kn.of (Hp.le_trans l68 l10)
 have fx6 := K7.at (b := bx) (.tail _ (.tail _ (.tail _ (.tail _ (.head _)))))
 repeat' (refine kr_ ?_)
 refine aq (stP m).length (fun q vs h' => ∃ ts : List Sl, vs = [.pointer (some ⟨b7, 0, none⟩), .pointer (some ⟨bp, 0, none⟩), vt.v, out.v, .pointer (some ⟨b48, 0, none⟩), M.ini.v, I M.ini.n, I j, st.v, I st.n, I q] /\ h6.le (h'.offS out) /\ (h'.offS out) b48 = some (.inl ⟨[I bd.state, I bd.node], 2, false⟩) /\ Buf h' out 1 (ts.map Sl.v) /\ ts.length = (stP m).length /\
  ∀ (i p : Nat) (t : Sl), (stP m)[i]? = some p -> ts[i]? = some t -> IntS (h'.offS out) t (VL (if i < q then yP m (j + 1) p else yP m j p)))
  ⟨ts, rfl, Hp.le_trans l8 l10o, f48o, hbuf.mono l10, htl, fun i p t hp ht => by rw [if_neg (by omega)]; exact (hts i p t hp ht).mono l10o⟩ ?_
 clear Kr f48o l10o l10 f48 hb48 hbuf htl hts ts l68 lo l8 hai cx1 cx2 h9 h8 h10
 rintro q _ h8 next2 hq ⟨ts, rfl, l8, f48, hbuf, htl, hts⟩ hnx2
 have lo := aO h8 out
 have l68 := Hp.le_trans l8 lo
 have g48 := lo _ _ f48
 refine ⟨_, _, _, _, vt, out, _, _, _, _, _, st, _, _, rfl, ?_⟩
 by_cases hlq : q < (stP m).length
 rotate_left
 ·refine ak (by simp; omega) ?_
  rw [az (by omega)]
  refine hnx hlt _ _ ⟨ts, rfl, l8, hbuf, htl, fun i p t hp ht => ?_⟩
  have := hts i p t hp ht
  rwa [if_pos (by have := get_lt hp; omega)] at this
 refine aH (by simp; omega) ?_
 obtain ⟨p, hpq⟩ : ∃ p, (stP m)[q]? = some p := ⟨_, List.getElem?_eq_getElem hlq⟩
 have hpm := ee gd 36 p (List.mem_of_getElem? hpq)
 obtain ⟨bq, oq, hap, hcp⟩ := (hst6.mono l68).get (gh hpq)
 refine ap (fun J => ∀ (ts' : List Sl) (h' : Hp), h6.le (h'.offS out) -> (h'.offS out) b48 = some (.inl ⟨[I bd.state, I bd.node], 2, false⟩) -> Buf h' out 1 (ts'.map Sl.v) -> ts'.length = (stP m).length ->
  (∀ (i p : Nat) (t : Sl), (stP m)[i]? = some p -> ts'[i]? = some t -> IntS (h'.offS out) t (VL (if i < q + 1 then yP m (j + 1) p else yP m j p))) -> J h') ?_ (fun J hJ => ?_)
 ·intro ts' h' a1 a2 a3 a4 a5
  rw [az (by omega)]
  exact hnx2 hlq _ _ ⟨ts', rfl, a1, a2, a3, a4, a5⟩
 refine ⟨bq, oq, hap, by omega, by omega, _, hcp, ?_⟩
 (refine am ?_)
 have hst' := Mg gd hbd p
 refine ad (fun e => ?_) (fun e => ?_)
 ·rw [if_pos (bz e).symm] at hst'
  have f78 := l68 _ _ f7
  (refine am ?_)
  obtain ⟨bn, on, han, hpn', c6, c7, w1, w16⟩ := (hs6.mono l68).nodes.sortc2 hpm gd.ok
  refine ⟨bn, on, han, by omega, hpn', _, c6, _, c7, ?_⟩
  (refine am ?_)
  obtain ⟨bv, ov, t, hav, hvn', hcv, ht⟩ := (hpv.mono l68).at v1 (by rw [aV.len]; exact v2)
  refine ⟨bv, ov, hav, v1, hvn', t, hcv, ?_⟩
  refine IR ht v3 v4 fun t2 h9 l9 ht2 => ⟨t2, rfl, ?_⟩
  rw [xt gd.ok hpm] at ht2
  have l9o := bJ out l9
  have hbuf9 := hbuf.mono l9
  refine hbuf9.wr (x := t2) (by omega) fun h10 hbuf' ho => ?_
  refine hJ _ h10 (by rw [ho]; exact Hp.le_trans l8 l9o) (by rw [ho]; exact l9o _ _ f48) hbuf' (by rw [List.length_set]; exact htl) fun i p' u hp' hu => ?_
  rw [ho]
  by_cases hiq : i = q
  ·subst hiq
   rw [hpq] at hp'; cases hp'
   rw [List.getElem?_set_self (by omega)] at hu
   obtain rfl := Option.some.inj hu
   rw [if_pos (by omega), hst']
   exact ht2.offL hbuf9
  ·rw [List.getElem?_set_ne (fun e => hiq e.symm)] at hu
   have := (hts i p' u hp' hu).mono l9o
   by_cases h1 : i < q
   ·rw [if_pos h1] at this; rw [if_pos (by omega)]; exact this
   ·rw [if_neg h1] at this; rw [if_neg (by omega)]; exact this
 ·rw [if_neg (fun e' => aL e e'.symm)] at hst'
  refine hJ ts h8 l8 f48 hbuf htl fun i p' u hp' hu => ?_
  have := hts i p' u hp' hu
  by_cases hiq : i = q
  ·subst hiq
   rw [hpq] at hp'; cases hp'
   rw [if_neg (by omega)] at this
   rw [if_pos (by omega), hst']; exact this
  ·by_cases h1 : i < q
   ·rw [if_pos h1] at this; rw [if_pos (by omega)]; exact this
   ·rw [if_neg h1] at this; rw [if_neg (by omega)]; exact this
theorem dT {h h1 h2 h3 : Hp} {b : Nat} {x : Blk} (l : h.le h1) (hb : h1 b = some x) (kp : ∀ c, c ≠ b -> h3 c = h2 c) : (h2.sub h1).le (h3.sub h) := by
 intro c y e
 have hc : c ≠ b := by rintro rfl; rw [jS hb] at e; cases e
 have h1c : h1 c = none := by
  cases hx : h1 c with
  | none => rfl
  | some z => rw [jS hx] at e; cases e
 rw [jH (aw l h1c), kp c hc]
 rw [jH h1c] at e
 exact e
theorem cy.get {h : Hp} {t : Sl} {n : Nat} {T : Nat -> Bool} (e : cy h t n T) {i : Nat} (hi : i < n) : ∃ b o, t.a = some (Addr.mk b o none) /\ (i : Int) < (t.n : Int) /\ Hp.cell h b (o + Int.toNat (i : Int) * 1) = some (.bool (T i)) := by
 have hl := ny.len e
 rw [List.length_map, List.length_range] at hl
 obtain ⟨b, o, ha, hc⟩ := SlC.get e (by omega)
 refine ⟨b, o, ha, by omega, ?_⟩
 rw [Int.toNat_natCast, Nat.mul_one]
 exact hc i _ (by simp [hi])
theorem cy.len {h : Hp} {t : Sl} {n : Nat} {T : Nat -> Bool} (e : cy h t n T) : t.n = n := by
 have hl := ny.len e
 rwa [List.length_map, List.length_range] at hl
theorem wq.get {h : Hp} {t : Sl} {n : Nat} {f : Nat -> Nat} (e : wq h t n f) {i : Nat} (hi : i < n) : ∃ b o, t.a = some (Addr.mk b o none) /\ (i : Int) < (t.n : Int) /\ Hp.cell h b (o + Int.toNat (i : Int) * 1) = some (I (f i : Nat)) := by
 have hl := IntS.len e
 rw [bW, List.length_map, List.length_range] at hl
 obtain ⟨b, o, ha, hc⟩ := SlC.get e (by omega)
 refine ⟨b, o, ha, by omega, ?_⟩
 rw [Int.toNat_natCast, Nat.mul_one]
 exact hc i _ (by simp [VL, hi])
def pF (B : Bd) (s : Sl) : Value := .tuple #[.agg #[I B.v, s.v, I B.r], .bool B.ok]
theorem qL {h : Hp} {t : Sl} {n : Nat} {f : Nat -> Bool} {R : Value -> Hp -> Prop} (hn : n <= 13) (ht : wF h t n f)
  (k : ∀ s h', h.le h' -> Own (h'.sub h) s 3 (aX (da n f).ns) -> R (pF (da n f) s) h') : dw #[t.v] h R := by
 have e : da (n : Int) f = match qQ n f with | none => gH | some r => ⟨n, r.2, r.1, true⟩ := by
  unfold da; rw [if_pos (by omega), Int.toNat_natCast]; cases qQ n f <;> rfl
 refine GX hn ht (fun h0 => ?_) (fun r hr s h' l o => ?_)
 ·have := k ⟨none, 0, 0⟩ h (Hp.le_refl _)
  rw [e, h0] at this
  exact this (fL _ _)
 ·have := k s h' l
  rw [e, hr] at this
  exact this o
theorem yq {h : Hp} {b : Nat} {σ : ar} {fid : FuncId} {u w : Array Value} {f : Nat -> Bool} {R : Value -> Hp -> Prop} (hs : jP h b σ) (ok : σ.Ok) (hf : zD h fid u w (2 ^ σ.n) f)
  (k : ∀ s h', h.le h' -> Own (h'.sub h) s 3 (aX (da σ.n f).ns) -> R (pF (da σ.n f) s) h') : fe #[.pointer (some ⟨b, 0, none⟩), .func (.func fid) u w] h R := by
 apply xM
 refine uf_ ?_
 have h8 := ok.nle
 obtain ⟨M, st, hold, bad, next, fx, _, _, _⟩ := hs
 refine ae fun b6 h1 hb6 l1 f6 => ?_
 refine cB ?_
 replace fx := l1 _ _ fx
 (refine am ?_)
 refine qG (by omega) (fun i hi h' l R k => hf i hi h' (Hp.le_trans l1 l) R k) fun t h2 l2 ht => ⟨t, rfl, ?_⟩
 refine qL (by omega) (ht.mono (sub_le _ _)) fun s h3 l3 o3 => ⟨_, _, _, _, rfl, ?_⟩
 have l12 := Hp.le_trans l2 l3
 have f62 := l2 _ _ f6
 (with_reducible apply bC); (exact l3 _ _ f62); (exact Hp.le_trans l1 l12); (exact hb6); (exact Nat.le_refl 3)
 intro h4 f4 kp l4
 refine ⟨_, by rw [af f4]; rfl, _, by rw [af f4]; rfl, _, by rw [af f4]; rfl, ?_⟩
 exact k s h4 l4 (o3.mono (dT (Hp.le_trans l1 l2) f62 kp))
theorem uc {h : Hp} {b s : Nat} {σ : ar} {R : Value -> Hp -> Prop} (hs : jP h b σ) (ok : σ.Ok) (hlt : s < 2 ^ σ.n) (k : R (.bool (σ.begins s)) h) : jl #[.pointer (some ⟨b, 0, none⟩), I s] h R := by
 apply ud
 refine uf_ ?_
 obtain ⟨M, st, hold, bad, next, fx, _, _, _⟩ := hs
 have h8 := Nat.pow_le_pow_right (n := 2) (by omega) ok.nle
 have h82 : (2 : Nat) ^ 8 = 256 := rfl
 have hb := ok.bfix
 have ha := ok.bas
 refine cB (cB ?_)
 repeat' (refine am ?_)
 rw [pc (by omega) (by omega)]
 refine dl ?_ k
 unfold ar.begins
 rw [Bool.eq_iff_iff, decide_eq_true_eq, beq_iff_eq]; omega
theorem IntS.up {h h' : Hp} {s : Sl} {xs : List Int} (e : IntS h s xs) (l : h.le h') : IntS h' s xs := e.mono l
theorem IntSS.up {h h' : Hp} {s : Sl} {xs : List (List Int)} (e : IntSS h s xs) (l : h.le h') : IntSS h' s xs := e.mono l
theorem aG.up {h h' : Hp} {M : MSl} {m : aj} (e : aG h M m) (l : h.le h') : aG h' M m := e.mono l
theorem kpU {h0 h h' : Hp} {b : Nat} {x : Blk} {P : Prop} (f : h0 b = some x) (l1 : h0.le h') (l2 : h0.le h) (k : P) : h' b = h b /\ P := ⟨by rw [l1 _ _ f, l2 _ _ f], k⟩
theorem kpN {h0 h h' : Hp} {b : Nat} {P : Prop} (f : h0 b ≠ none) (l1 : h0.le h') (l2 : h0.le h) (k : P) : h' b = h b /\ P := by
 refine ⟨?_, k⟩
 cases hb : h0 b with
 | none => exact absurd hb f
 | some x => rw [l1 _ _ hb, l2 _ _ hb]
theorem rdU {α : Type} {f : α -> Value} {h0 h : Hp} {b z o : Nat} {cs : List Value} {ro : Bool} {x : α} {P : α -> Prop} (e : h0 b = some (.inl ⟨cs, z, ro⟩)) (l : h0.le h) (c : cs[o]? = some (f x)) (k : P x) : ∃ y : α, Hp.cell h b o = some (f y) /\ P y := ⟨x, by rw [af (l _ _ e)]; exact c, k⟩
theorem ku_ {P Q : Prop} (k : Q) (h : Q -> P := by (first
 | ((with_reducible apply rdU); (assumption); ((focus ((repeat (first | exact Hp.le_refl _ | assumption | (refine Hp.le_trans ?_ (by assumption)))); done))); (exact rfl))
 | with_reducible exact And.intro (Eq.refl _)
 | with_reducible exact And.intro True.intro
 | with_reducible exact cB
 | ((with_reducible apply kpU); (assumption); ((focus ((repeat (first | exact Hp.le_refl _ | assumption | (refine Hp.le_trans ?_ (by assumption)))); done))); ((focus ((repeat (first | exact Hp.le_refl _ | assumption | (refine Hp.le_trans ?_ (by assumption)))); done))))
 | ((with_reducible apply kpN); (assumption); ((focus ((repeat (first | exact Hp.le_refl _ | assumption | (refine Hp.le_trans ?_ (by assumption)))); done))); ((focus ((repeat (first | exact Hp.le_refl _ | assumption | (refine Hp.le_trans ?_ (by assumption)))); done))))
 | fail)) : P := h k
set_option maxHeartbeats 2000000 in
theorem vj {h : Hp} {M : MSl} {m : aj} {c : Nat} {R : Value -> Hp -> Prop} (hs : aG h M m) (hm : bU m) (g : eZ m) (hc : c < 2 ^ (av m.nodes 36 + av m.nodes 35))
  (k : ∀ t h', h.le h' -> t.n = m.nodes.length -> jv h' t (fQ m (c % 2 ^ av m.nodes 36) (c / 2 ^ av m.nodes 36)) -> Uj h t -> R (Sl.v t) h') : im #[aM M, I c] h R := by
 apply Am
 refine uf_ ?_
 have hn8 := g.n8
 have hk5 := g.k5
 have hp13 := Ho g
 have hp8 := Ug g
 have h1' : c % 2 ^ av m.nodes 36 <= c := Nat.mod_le _ _
 have h2' : c / 2 ^ av m.nodes 36 <= c := Nat.div_le_self _ _
 have hpp := aU (av m.nodes 36)
 have hs36 : ce m.nodes (aN m.nodes 36) <= 60 := by have := hY g; show ce m.nodes (stP m) <= 60; omega
 have hs35 : ce m.nodes (aN m.nodes 35) <= 60 := by have := Lc g; show ce m.nodes (inP m) <= 60; omega
 have hshr : lq (c : Int) ((av m.nodes 36 : Nat) : Int) = ((c / 2 ^ av m.nodes 36 : Nat) : Int) := iX (by omega)
 have hmod : Int.tmod (c : Int) (((2 ^ av m.nodes 36 : Nat)) : Int) = ((c % 2 ^ av m.nodes 36 : Nat) : Int) := eP _ _
 have hwu : IntKind.wrap .u64 ((av m.nodes 36 : Nat) : Int) = (av m.nodes 36 : Nat) := dk (by omega)
 have hsh1 : ai 1 ((av m.nodes 36 : Nat) : Int) = ((2 ^ av m.nodes 36 : Nat) : Int) := cu (by omega)
 refine ae fun b8 h1 hb8 l1 f8 => ?_
 clear hb8
 repeat' (refine ku_ ?_)
 refine jd (hs.mono l1) hm ⟨_, rfl, ?_⟩
 simp only [hwu, hsh1, hshr, hmod]
 repeat' (first
  | (refine ku_ ?_)
  | (rw [if_neg (by omega)])
  | (refine fz (hs.up (by ((focus ((repeat (first | exact Hp.le_refl _ | assumption | (refine Hp.le_trans ?_ (by assumption)))); done))))) hm fun _ _ _ _ => ⟨_, rfl, ?_⟩)
  | (refine iJ (hs.up (by ((focus ((repeat (first | exact Hp.le_refl _ | assumption | (refine Hp.le_trans ?_ (by assumption)))); done))))) hm g.ok (IntS.up (by assumption) (by ((focus ((repeat (first | exact Hp.le_refl _ | assumption | (refine Hp.le_trans ?_ (by assumption)))); done))))) (ee g 36) (nw g 36) (by omega) hs36 fun _ _ _ _ => ⟨_, rfl, ?_⟩)
  | (refine iJ (hs.up (by ((focus ((repeat (first | exact Hp.le_refl _ | assumption | (refine Hp.le_trans ?_ (by assumption)))); done))))) hm g.ok (IntS.up (by assumption) (by ((focus ((repeat (first | exact Hp.le_refl _ | assumption | (refine Hp.le_trans ?_ (by assumption)))); done))))) (ee g 35) (nw g 35) (by omega) hs35 fun _ _ _ _ => ⟨_, rfl, ?_⟩)
  | (refine vK (hs.up (by ((focus ((repeat (first | exact Hp.le_refl _ | assumption | (refine Hp.le_trans ?_ (by assumption)))); done))))) hm g.ok g.nl (IntSS.up (by assumption) (by ((focus ((repeat (first | exact Hp.le_refl _ | assumption | (refine Hp.le_trans ?_ (by assumption)))); done))))) (zz 36 (c % 2 ^ av m.nodes 36) g) (IntSS.up (by assumption) (by ((focus ((repeat (first | exact Hp.le_refl _ | assumption | (refine Hp.le_trans ?_ (by assumption)))); done))))) (zz 35 (c / 2 ^ av m.nodes 36) g) fun t h' l hn hpv hw => ⟨_, rfl, k t h' (by ((focus ((repeat (first | exact Hp.le_refl _ | assumption | (refine Hp.le_trans ?_ (by assumption)))); done)))) hn hpv fun b o hb => aw (by ((focus ((repeat (first | exact Hp.le_refl _ | assumption | (refine Hp.le_trans ?_ (by assumption)))); done)))) (hw b o hb)⟩)
  | (refine And.intro ?_ ?_))
def ma (ps : List Nat) (f : Nat -> Option (List Nat)) (vs : List (List Nat)) (n : Nat) : Bool := (List.range n).all fun i => match ps[i]? with
 | some p => (match f p with | some v => decide (vs.getD i [] = v) | none => true)
 | none => true
theorem H1 {ps : List Nat} {f : Nat -> Option (List Nat)} {vs : List (List Nat)} {i p : Nat} (h : ps[i]? = some p) : ma ps f vs (i + 1) = (ma ps f vs i && (match f p with | some v => decide (vs.getD i [] = v) | none => true)) := by
 unfold ma
 rw [List.range_succ, List.all_append]
 simp only [List.all_cons, List.all_nil, Bool.and_true, h]
theorem C8 {ps : List Nat} {f : Nat -> Option (List Nat)} {vs : List (List Nat)} : ma ps f vs ps.length = true ↔ ∀ (i p : Nat), ps[i]? = some p -> ∀ v, f p = some v -> vs.getD i [] = v := by
 unfold ma
 rw [List.all_eq_true]
 constructor
 ·intro h i p hp v hv
  have := h i (List.mem_range.2 (get_lt hp))
  rw [hp] at this
  simp only [hv, decide_eq_true_eq] at this
  exact this
 ·intro h i hi
  cases hp : ps[i]? with
  | none => rfl
  | some p =>
   simp only
   cases hv : f p with
   | none => rfl
   | some v => simpa using h i p hp v hv
theorem M9 {ps : List Nat} {f : Nat -> Option (List Nat)} {vs : List (List Nat)} {i : Nat} (hi : i <= ps.length) (h : ma ps f vs i = false) : ma ps f vs ps.length = false := by
 unfold ma at h ⊢
 rw [List.all_eq_false] at h ⊢
 obtain ⟨x, hx, hn⟩ := h
 exact ⟨x, List.mem_range.2 (by have := List.mem_range.1 hx; omega), hn⟩
theorem HR {h : Hp} {M : MSl} {m : aj} {s t : Sl} {ps : List Nat} {vs : List (List Nat)} {R : Value -> Hp -> Prop} (hs : aG h M m) (hm : bU m) (hok : bZ m.nodes = true) (hp : IntS h s (VL ps)) (hps : ∀ p ∈ ps, p < m.nodes.length) (hpl : ps.length <= 1048576)
  (hv : IntSS h t (vs.map VL)) (hf : lp m.nodes ps vs) (k : R (.bool true) h) : qg #[aM M, s.v, t.v] h R := by
 refine ACalls.drop (E3 ?_)
 refine uf_ ?_
 have hn := hs.nodes.len
 have hsn := hp.len
 rw [bW] at hsn
 have htn := hv.len
 rw [List.length_map] at htn
 have hvl := q8 hf
 refine ae fun b9 h1 hb9 l1 f9 => ?_
 refine ak (by simp; omega) ?_
 refine aq ps.length (fun i ws h' => h.le h' /\ h' b9 = some (.inl ⟨cl M, 5, false⟩) /\ ws = [s.v, t.v, .pointer (some ⟨b9, 0, none⟩), I i]) ⟨l1, f9, rfl⟩ ?_
 clear f9 l1 hb9 h1
 rintro i _ h1 next hi ⟨l1, f9, rfl⟩ hnx
 refine ⟨s, t, _, _, _, rfl, ?_⟩
 by_cases hlt : i < ps.length
 rotate_left
 ·exact ak (by simp; omega) ⟨_, l1, k⟩
 refine aH (by simp; omega) ?_
 obtain ⟨p, hpi⟩ : ∃ p, ps[i]? = some p := ⟨_, List.getElem?_eq_getElem hlt⟩
 have hpm := hps p (List.mem_of_getElem? hpi)
 obtain ⟨b, o, ha, hc⟩ := (hp.mono l1).get (gh hpi)
 refine ⟨b, o, ha, by omega, by omega, ?_⟩
 (refine am ?_)
 refine ⟨_, hc, ?_⟩
 obtain ⟨bn, on, han, hpn', c6, c7, w1, w16⟩ := (hs.mono l1).nodes.sortc2 hpm hok
 refine ⟨bn, on, han, by omega, hpn', _, c6, _, c7, ?_⟩
 obtain ⟨bt, ot, c, hta, htc, hcv⟩ := (hv.mono l1).getV (i := i) (by omega)
 have xbt := pO htc
 have xbn := pO c6
 have xb := pO hc
 have xb9 := bL f9
 refine ae fun b36 h2 hb36 l2 f36' => ?_
 have n9 := fresh_ne hb36 f9
 have nt := rX hb36 htc
 repeat' (((with_reducible apply je); (assumption); (assumption)))
 (with_reducible apply bC); (exact f36'); (exact Hp.le_trans l1 l2); (exact aw l1 hb36); (exact Nat.le_refl 2)
 intro h3 f36 kp l3
 have l13 : h1.le h3 := cG hb36 l2 kp
 have f93 := l13 _ _ f9
 have f36v : h3 b36 = some (.inl ⟨[I (au m.nodes p).idx, I (bX m.nodes p)], 2, false⟩) := f36
 refine ⟨bt, ot, hta, by omega, by omega, c, l13.cell htc, ?_⟩
 repeat' (refine am ?_)
 refine fh ⟨_, rfl, ?_⟩
 rw [xt hok hpm]
 have hg := pm hf hpi
 have hcn := hcv.len
 rw [bW] at hcn
 have hcl := eu m.nodes p
 repeat' (refine am ?_)
 refine ak (by simp; omega) ?_
 have hcv3 := hcv.mono l13
 refine aq (aD m.nodes p) (fun q ws h' => h' = h3 /\ ws = [s.v, t.v, .pointer (some ⟨b9, 0, none⟩), I i, .pointer (some ⟨b36, 0, none⟩), I q]) ⟨rfl, rfl⟩ ?_
 rintro q _ _ next2 hq ⟨rfl, rfl⟩ hnx2
 rename_i h3
 refine ⟨s, t, _, _, _, _, _, _, rfl, ?_⟩
 refine ⟨bt, ot, hta, by omega, by omega, c, l13.cell htc, ?_⟩
 by_cases hlq : q < aD m.nodes p
 rotate_left
 ·refine ak (by simp; omega) ?_
  rw [az (by omega)]
  exact hnx hlt _ _ ⟨l3, f93, rfl⟩
 refine aH (by simp; omega) ?_
 refine ⟨bt, ot, hta, by omega, by omega, ?_⟩
 (refine am ?_)
 refine ⟨c, l13.cell htc, ?_⟩
 obtain ⟨bc, oc, hca, hcc, hln⟩ := hcv3.elt (i := q) (by omega)
 refine ⟨bc, oc, hca, by omega, by omega, _, hcc, ?_⟩
 have hlt2 : (vs.getD i []).getD q 0 < 2 ^ bX m.nodes p := by
  rw [List.getD_eq_getElem?_getD, List.getElem?_eq_getElem (show q < (vs.getD i []).length by omega)]
  exact hg.2 _ (List.getElem_mem _)
 refine ca ⟨_, rfl, ak ?_ ?_⟩
 ·rw [Bool.not_eq_false', hG]
  refine ⟨by omega, by omega, ?_⟩
  rw [Int.toNat_natCast]; omega
 ·rw [az (by omega)]
  exact hnx2 hlq _ _ ⟨rfl, rfl⟩
theorem uX {h : Hp} {M : MSl} {m : aj} {t : Sl} {vs : List (List Nat)} {R : Value -> Hp -> Prop} (hs : aG h M m) (hm : bU m) (hc : aR m = 0)
  (hv : IntSS h t (vs.map VL)) (hf : lp m.nodes (stP m) vs) (k : R (.bool true) h) : lY #[aM M, t.v] h R := by
 refine ACalls.drop (yD ?_)
 refine uf_ ?_
 have g := gD hc
 refine ae fun b8 h1 hb8 l1 f8 => ?_
 repeat' (refine ku_ ?_)
 refine ct (hs.up (by ((focus ((repeat (first | exact Hp.le_refl _ | assumption | (refine Hp.le_trans ?_ (by assumption)))); done))))) hm ⟨_, rfl, aH (by rw [hc]; rfl) ?_⟩
 repeat' (refine ku_ ?_)
 refine fz (hs.up (by ((focus ((repeat (first | exact Hp.le_refl _ | assumption | (refine Hp.le_trans ?_ (by assumption)))); done))))) hm fun p h2 l2 i2 => ⟨p, rfl, ?_⟩
 repeat' (refine ku_ ?_)
 exact HR (hs.up (by ((focus ((repeat (first | exact Hp.le_refl _ | assumption | (refine Hp.le_trans ?_ (by assumption)))); done))))) hm g.ok i2 (ee g 36) (nw g 36) (hv.up (by ((focus ((repeat (first | exact Hp.le_refl _ | assumption | (refine Hp.le_trans ?_ (by assumption)))); done))))) hf ⟨_, rfl, h, by ((focus ((repeat (first | exact Hp.le_refl _ | assumption | (refine Hp.le_trans ?_ (by assumption)))); done))), k⟩
theorem Ka {m : aj} (g : eZ m) {p k : Nat} (h : cm m.inits p = some k) : k < m.nodes.length /\ 0 < ((rO m).getD k []).length /\ ((rO m).getD k []).length <= 4 := by
 obtain ⟨b, hb, _, rfl⟩ := pu h
 obtain ⟨v1, v2, v3, v4, _, _⟩ := Co g hb
 exact ⟨by omega, v3, v4⟩
theorem oH {h : Hp} {M : MSl} {m : aj} {t : Sl} {vs : List (List Nat)} {R : Value -> Hp -> Prop} (hs : aG h M m) (hm : bU m) (hc : aR m = 0)
  (hv : IntSS h t (vs.map VL)) (hf : lp m.nodes (stP m) vs) (k : R (.bool (ma (stP m) (jA m) vs (stP m).length)) h) : j3 #[aM M, t.v] h R := by
 refine ACalls.drop (A8 ?_)
 refine uf_ ?_
 have g := gD hc
 have hil := g.il
 have hnl := g.nl
 have hp36 : (stP m).length <= m.nodes.length := gy m.nodes 36
 have htn := hv.len
 rw [List.length_map] at htn
 have hvl := q8 hf
 have hbn : ∀ b ∈ m.inits, 0 <= b.node := fun b hb => (Co g hb).1
 refine ae fun b8 h1 hb8 l1 f8 => ?_
 repeat' (refine ku_ ?_)
 refine uX (hs.up (by ((focus ((repeat (first | exact Hp.le_refl _ | assumption | (refine Hp.le_trans ?_ (by assumption)))); done))))) hm hc (hv.up (by ((focus ((repeat (first | exact Hp.le_refl _ | assumption | (refine Hp.le_trans ?_ (by assumption)))); done))))) hf ⟨_, rfl, ak rfl ?_⟩
 repeat' (refine ku_ ?_)
 refine GU (hs.up (by ((focus ((repeat (first | exact Hp.le_refl _ | assumption | (refine Hp.le_trans ?_ (by assumption)))); done))))) hm g fun vt h2 l2 hvn hpv => ⟨vt, rfl, ?_⟩
 repeat' (refine ku_ ?_)
 refine fz (hs.up (by ((focus ((repeat (first | exact Hp.le_refl _ | assumption | (refine Hp.le_trans ?_ (by assumption)))); done))))) hm fun pt h3 l3 ip => ⟨pt, rfl, ?_⟩
 have hpn : pt.n = (stP m).length := by have := ip.len; rw [bW] at this; exact this
 have f83 := l3 _ _ (l2 _ _ f8)
 have hpv3 := hpv.mono l3
 have l03 := Hp.le_trans l1 (Hp.le_trans l2 l3)
 have aV := CB g
 clear l2 l3 l1 hb8 f8 hpv h2
 refine aq (stP m).length (fun i ws h' => h3.le h' /\ ws = [t.v, .pointer (some ⟨b8, 0, none⟩), vt.v, pt.v, I i] /\ ma (stP m) (jA m) vs i = true) ⟨Hp.le_refl _, rfl, rfl⟩ ?_
 rintro i _ h4 next hi ⟨l4, rfl, hg⟩ hnx
 have l04 := Hp.le_trans l03 l4
 refine ⟨t, _, _, vt, pt, _, rfl, ?_⟩
 by_cases hlt : i < (stP m).length
 rotate_left
 ·have hie : i = (stP m).length := by omega
  subst hie
  refine ak (by simp; omega) ⟨_, l04, dl hg.symm k⟩
 refine aH (by simp; omega) ?_
 obtain ⟨p, hpi⟩ : ∃ p, (stP m)[i]? = some p := ⟨_, List.getElem?_eq_getElem hlt⟩
 have hsucc := H1 (f := jA m) (vs := vs) hpi
 rw [hg, Bool.true_and] at hsucc
 obtain ⟨b, o, ha, hcc⟩ := (ip.mono l4).get (gh hpi)
 refine ⟨b, o, ha, by omega, by omega, ?_⟩
 (refine ku_ ?_)
 refine ⟨_, hcc, ?_⟩
 refine rG (hs.mono l04).inits (by omega) hbn ⟨_, rfl, ?_⟩
 refine ap (fun J => ∀ h', h4.le h' -> J (!ma (stP m) (jA m) vs (i + 1)) h') ?_ (fun J hJ => ?_)
 ·intro h' l'
  refine ad (fun e => ⟨_, Hp.le_trans l04 l', dl ?_ k⟩) (fun e => ?_)
  ·symm; exact M9 (i := i + 1) (by omega) (by simpa using e)
  ·rw [az (by omega)]
   exact hnx hlt _ _ ⟨Hp.le_trans l4 l', rfl, by simpa using e⟩
 cases hbo : cm m.inits p with
 | none =>
  rw [show lJ m.inits p = -1 from by unfold lJ; rw [hbo]]
  refine ak (by simp) ⟨trivial, ?_⟩
  have hn : jA m p = none := by unfold jA; rw [hbo]; rfl
  rw [hn] at hsucc
  have := hJ h4 (Hp.le_refl _)
  rw [hsucc] at this; exact this
 | some q =>
  rw [show lJ m.inits p = (q : Int) from by unfold lJ; rw [hbo]]
  refine aH (by simp) ?_
  obtain ⟨hq, v3, v4⟩ := Ka g hbo
  have hsm : jA m p = some (tK (aD m.nodes p) ((rO m).getD q [])) := by unfold jA; rw [hbo]; rfl
  have hfit := ri g hsm
  have hcl := eu m.nodes p
  have hgv := pm hf hpi
  rw [hsm] at hsucc
  obtain ⟨bt, ot, c, hta, htc, hcv⟩ := (hv.mono l04).getV (i := i) (by omega)
  obtain ⟨bv, ov, u, hua, hun, huc, huv⟩ := (hpv3.mono l4).at (p := (q : Int)) (by omega) (by rw [aV.len]; omega)
  have hcn := hcv.len
  rw [bW] at hcn
  refine ⟨bt, ot, hta, by omega, by omega, bv, ov, hua, by omega, hun, bt, ot, hta, by omega, by omega, c, htc, u, huc, c, htc, ?_⟩
  rw [Int.toNat_natCast] at huv
  rw [hcn, hgv.1]
  have xbt := pO htc
  refine I8 huv v3 v4 hcl fun w h5 l5 hw => ⟨w, rfl, ?_⟩
  repeat' (((with_reducible apply je); (assumption); (assumption)))
  refine Ah (hcv.mono l5) hw (by rw [bW]; omega) (by rw [bW, bW, hgv.1, hfit.1]; exact Nat.le_refl _) ⟨_, rfl, ?_⟩
  have := hJ h5 l5
  simp only at hsucc
  rw [hsucc] at this
  have e2 : decide (VL (vs.getD i []) = VL (tK (aD m.nodes p) ((rO m).getD q []))) = decide (vs.getD i [] = tK (aD m.nodes p) ((rO m).getD q [])) := by
   rw [Bool.eq_iff_iff, decide_eq_true_eq, decide_eq_true_eq, Lb]
  rw [e2]; exact this
section
variable {g h h' : Hp} {L L' A B X : List (Nat × Blk)}
theorem Kn.app (K : Kn g h L) (l : h.le h') (n : ∀ e ∈ X, h e.1 = none) (f : ∀ e ∈ X, h' e.1 = some e.2) (nd : (X.map Prod.fst).Nodup) : Kn g h' (L ++ X) := by
 refine ⟨Hp.le_trans K.le l, fun e he => ?_, fun e he => ?_, ?_⟩
 ·rcases List.mem_append.1 he with he | he
  ·exact l _ _ (K.mem e he)
  ·exact f e he
 ·rcases List.mem_append.1 he with he | he
  ·exact K.new e he
  ·exact aw K.le (n e he)
 ·rw [List.map_append, List.nodup_append]
  refine ⟨K.nd, nd, fun a ha b hb hab => ?_⟩
  obtain ⟨e, he, rfl⟩ := List.mem_map.1 ha
  obtain ⟨e', he', rfl⟩ := List.mem_map.1 hb
  have h1 := K.mem e he
  have h2 := n e' he'
  rw [hab, h2] at h1; cases h1
theorem Kn.split (K : Kn g h (A ++ B)) : Kn (h.wo (B.map Prod.fst)) h B /\ Kn g (h.wo (B.map Prod.fst)) A := by
 have nd := K.nd
 rw [List.map_append, List.nodup_append] at nd
 refine ⟨⟨mS _ _, fun e he => K.mem e (List.mem_append_right _ he), fun e he => dK (List.mem_map.2 ⟨e, he, rfl⟩), nd.2.1⟩, ?_, fun e he => ?_, fun e he => K.new e (List.mem_append_left _ he), nd.1⟩
 ·exact nr K.le fun b hb => by
   obtain ⟨e, he, rfl⟩ := List.mem_map.1 hb
   exact K.new e (List.mem_append_right _ he)
 ·rw [q7]
  ·exact K.mem e (List.mem_append_left _ he)
  ·intro hb
   exact nd.2.2 _ (List.mem_map.2 ⟨e, he, rfl⟩) _ hb rfl
theorem Kn.off (K : Kn g h L) {b : Nat} {x y : Blk} (u : Upd L b x y L') (l : (h.off b).le h') (f : h' b = some y) : Kn g h' L' := by
 refine ⟨?_, fun e he => ?_, fun e he => ?_, by rw [u.keys]; exact K.nd⟩
 ·exact Hp.le_trans (vX (K.new (b, x) u.mem) K.le) l
 ·rcases u.out K.nd e he with rfl | ⟨h1, h2⟩
  ·exact f
  ·refine l _ _ ?_
   simp only [Hp.off, Hp.set]; rw [if_neg h2]; exact K.mem e h1
 ·rcases u.out K.nd e he with rfl | ⟨h1, h2⟩
  ·exact K.new (b, x) u.mem
  ·exact K.new e h1
def iK (X : List (Nat × Blk)) (s : Sl) (sz : Nat) (cs : List Value) : Prop :=
 cs.length = s.n * sz /\ s.n <= 9223372036854775807 /\ ((s.n = 0 /\ X = []) \/ (s.n ≠ 0 /\ ∃ b z, s.a = some ⟨b, 0, none⟩ /\ X = [(b, .inl ⟨cs, z, false⟩)]))
theorem Kn.addOwn {s : Sl} {sz : Nat} {cs : List Value} (K : Kn g h L) (l : h.le h') (o : Own (h'.sub h) s sz cs) : ∃ X, iK X s sz cs /\ Kn g h' (L ++ X) := by
 by_cases h0 : s.n = 0
 ·exact ⟨[], ⟨o.1, o.2.1, .inl ⟨h0, rfl⟩⟩, by rw [List.append_nil]; exact K.mono l⟩
 ·obtain ⟨b, z, ha, hb⟩ := o.2.2.resolve_left h0
  have hn : h b = none := jQ (by rw [hb]; simp)
  refine ⟨_, ⟨o.1, o.2.1, .inr ⟨h0, b, z, ha, rfl⟩⟩, K.app l (fun e he => ?_) (fun e he => ?_) (by simp)⟩
  ·rw [List.mem_singleton.1 he]; exact hn
  ·rw [List.mem_singleton.1 he]; exact sub_le _ _ _ _ hb
theorem iK.own {s : Sl} {sz : Nat} {cs : List Value} (o : iK X s sz cs) (K : Kn g h (L ++ X)) : Own h s sz cs := by
 refine ⟨o.1, o.2.1, ?_⟩
 rcases o.2.2 with ⟨h0, _⟩ | ⟨_, b, z, ha, rfl⟩
 ·exact .inl h0
 ·exact .inr ⟨b, z, ha, K.at (by simp)⟩
theorem iK.mark {s : Sl} {sz : Nat} {cs cs' : List Value} (o : iK X s sz cs) (K : Kn g h (L ++ X)) (l : (h.wo s.used).le h') (o' : Own h' s sz cs') : ∃ X', iK X' s sz cs' /\ Kn g h' (L ++ X') := by
 rcases o.2.2 with ⟨h0, rfl⟩ | ⟨h0, b, z, ha, rfl⟩
 ·refine ⟨[], ⟨o'.1, o'.2.1, .inl ⟨h0, rfl⟩⟩, K.mono ?_⟩
  have : s.used = [] := by unfold Sl.used; rw [if_pos h0]
  rw [this] at l
  exact Hp.le_trans (nr (Hp.le_refl _) (fun b hb => by simp at hb)) l
 ·obtain ⟨b', z', ha', hb'⟩ := o'.2.2.resolve_left h0
  rw [ha] at ha'; cases ha'
  refine ⟨_, ⟨o'.1, o'.2.1, .inr ⟨h0, b, z', ha, rfl⟩⟩, ?_⟩
  have hu : s.used = [b] := by unfold Sl.used Sl.blk; rw [if_neg h0, ha]
  rw [hu] at l
  have nd := K.nd
  rw [List.map_append, List.nodup_append] at nd
  have hbn : g b = none := K.new (b, .inl ⟨cs, z, false⟩) (List.mem_append_right _ (by simp))
  have hne : ∀ e ∈ L, e.1 ≠ b := fun e he hb => nd.2.2 _ (List.mem_map.2 ⟨e, he, rfl⟩) b (by simp) hb
  have hwo : ∀ c, c ≠ b -> (h.wo [b]) c = h c := fun c hc => q7 (by simpa using hc)
  refine ⟨?_, fun e he => ?_, fun e he => ?_, ?_⟩
  ·exact Hp.le_trans (nr K.le fun c hc => by rw [List.mem_singleton.1 hc]; exact hbn) l
  ·rcases List.mem_append.1 he with he | he
   ·exact l _ _ (by rw [hwo _ (hne e he)]; exact K.mem e (List.mem_append_left _ he))
   ·rw [List.mem_singleton.1 he]; exact hb'
  ·rcases List.mem_append.1 he with he | he
   ·exact K.new e (List.mem_append_left _ he)
   ·rw [List.mem_singleton.1 he]; exact hbn
  ·rw [List.map_append, List.nodup_append]
   exact ⟨nd.1, by simp, fun a ha c hc => nd.2.2 a ha c (by simpa using hc)⟩
end
theorem HQ {h : Hp} {n : NodeP} {left : Int} {R : Value -> Hp -> Prop} (hsz : n.name.size <= 9223372036854775807) (h0 : 0 <= left) (h1 : left <= 1048576)
  (k : ∀ r : Int, (r < 0 \/ (0 <= r /\ r <= left /\ n.name.size <= 1048576)) -> R (I r) h) : qI #[qR n, I left] h R := by
 refine ACalls.drop (Er ?_)
 refine uf_ ?_
 refine ae fun b h2 hb l f => ?_
 (refine am ?_)
 rw [cc (by omega) (by omega)]
 refine ad (fun e => ⟨_, l, k _ (.inl (by omega))⟩) (fun e => ⟨_, l, k _ (.inr ?_)⟩)
 have := of_decide_eq_false e
 omega
theorem Gj {h : Hp} {s : Sl} {l : List NodeP} {left : Int} {R : Value -> Hp -> Prop} (hs : fH h s l) (hsz : ∀ n ∈ l, n.name.size <= 9223372036854775807) (h0 : 0 <= left) (h1 : left <= 1048576)
  (k : ∀ r : Int, (r < 0 \/ (0 <= r /\ r <= left /\ l.length <= 1048576 /\ ∀ n ∈ l, n.name.size <= 1048576)) -> R (I r) h) : ou #[s.v, I left] h R := by
 apply C7
 refine uf_ ?_
 have hn := hs.len
 have hb := hs.1
 rw [cc (by omega) (by omega)]
 refine ad (fun e => k _ (.inl (by omega))) (fun e => ?_)
 have e' := of_decide_eq_false e
 refine aq l.length (fun i vs h' => ∃ r : Int, vs = [s.v, I r, I i] /\ h' = h /\ 0 <= r /\ r <= left /\ ∀ n ∈ l.take i, n.name.size <= 1048576) ⟨_, rfl, rfl, by omega, by omega, fun n hn => by simp at hn⟩ ?_
 rintro i _ _ next hi ⟨r, rfl, rfl, r0, r1, hall⟩ hnx
 rename_i h
 refine ⟨s, _, _, rfl, ?_⟩
 by_cases hlt : i < l.length
 rotate_left
 ·refine ak (by simp; omega) (k r (.inr ⟨r0, r1, by omega, ?_⟩))
  rwa [List.take_of_length_le (by omega)] at hall
 refine aH (by simp; omega) ?_
 obtain ⟨n, hni⟩ : ∃ n, l[i]? = some n := ⟨_, List.getElem?_eq_getElem hlt⟩
 obtain ⟨b, o, ha, c0, c1, c2, c3, c4, c5, c6, c7, c8⟩ := hs.at hni
 refine ⟨b, o, ha, by omega, by omega, _, c0, _, c1, _, c2, _, c3, _, c4, _, c5, _, c6, _, c7, _, c8, ?_⟩
 refine HQ (n := n) (hsz n (List.mem_of_getElem? hni)) r0 (by omega) fun q hq => ⟨_, rfl, ad (fun e => k _ (.inl (by omega))) (fun e => ?_)⟩
 have := of_decide_eq_false e
 rcases hq with hq | ⟨q0, q1, q2⟩
 ·omega
 rw [az (by omega)]
 refine hnx hlt _ _ ⟨q, rfl, rfl, q0, by omega, fun n' hn' => ?_⟩
 rw [List.getElem?_eq_getElem hlt] at hni
 rw [List.take_succ_eq_append_getElem hlt, List.mem_append, List.mem_singleton, Option.some.inj hni] at hn'
 rcases hn' with hn' | rfl
 ·exact hall n' hn'
 ·exact q2
theorem xy {h : Hp} {s : Sl} {l : List BindP} {left : Int} {R : Value -> Hp -> Prop} (hs : kB h s l) (h0 : 0 <= left) (h1 : left <= 1048576)
  (k : ∀ r : Int, (r < 0 \/ (0 <= r /\ r <= left /\ l.length <= 1048576)) -> R (I r) h) : lm #[s.v, I left] h R := by
 apply Ch
 refine uf_ ?_
 have hn := hs.len
 have hb := hs.1
 rw [cc (by omega) (by omega)]
 refine ad (fun e => k _ (.inl (by omega))) (fun e => k _ (.inr ?_))
 have := of_decide_eq_false e
 omega
theorem ep {h : Hp} {M : MSl} {m : aj} {R : Value -> Hp -> Prop} (hs : aG h M m) (hsz : ∀ n ∈ m.nodes, n.name.size <= 9223372036854775807)
  (k : ∀ r : Int, (r < 0 \/ (0 <= r /\ r <= 1048576 /\ bU m)) -> R (I r) h) : cK #[aM M, I 1048576] h R := by
 refine ACalls.drop (DK ?_)
 refine uf_ ?_
 refine ae fun b8 h1 hb8 l1 f8 => ?_
 have neg : ∀ {h' : Hp}, h.le h' -> ∃ h'' : Hp, h''.le h' /\ R (I (-1)) h'' := fun l => ⟨_, l, k _ (.inl (by omega))⟩
 (refine am ?_)
 refine Gj (hs.mono l1).nodes hsz (by omega) (by omega) fun r1 q1 => ⟨_, rfl, ad (fun e => neg l1) (fun e1 => ?_)⟩
 have e1 := of_decide_eq_false e1
 obtain ⟨a1, a2, a3, a4⟩ := q1.resolve_left e1
 (refine am ?_)
 refine xy (hs.mono l1).inits a1 (by omega) fun r2 q2 => ⟨_, rfl, ad (fun e => neg l1) (fun e2 => ?_)⟩
 have e2 := of_decide_eq_false e2
 obtain ⟨b1, b2, b3⟩ := q2.resolve_left e2
 (refine am ?_)
 refine xy (hs.mono l1).nexts b1 (by omega) fun r3 q3 => ⟨_, rfl, ad (fun e => neg l1) (fun e3 => ?_)⟩
 have e3 := of_decide_eq_false e3
 obtain ⟨c1, c2, c3⟩ := q3.resolve_left e3
 (refine am ?_)
 refine zV (hs.mono l1).bads c1 (by omega) fun r4 q4 => ⟨_, rfl, ad (fun e => neg l1) (fun e4 => ?_)⟩
 have e4 := of_decide_eq_false e4
 have d1 := q4.resolve_left e4
 (refine am ?_)
 refine zV (hs.mono l1).holds d1.1 (by omega) fun r5 q5 => ⟨_, rfl, ad (fun e => neg l1) (fun e5 => ⟨_, l1, k _ (.inr ?_)⟩)⟩
 have e5 := of_decide_eq_false e5
 have f1 := q5.resolve_left e5
 exact ⟨f1.1, by omega, ⟨a3, b3, c3, by omega, by omega, a4⟩⟩
theorem IK {h : Hp} {i w : Int} {R : Value -> Hp -> Prop} (k : R (.agg #[I i, I w]) h) : qB #[.agg #[I i, I w]] h R := by
 refine ACalls.drop (Ej ?_)
 refine uf_ ?_
 have K0 := Kn.nil h
 (with_reducible apply Kn.al); (assumption); (intro b4 h1 K1 l1 hb4)
 (with_reducible apply Kn.al); (assumption); (intro b6 h2 K2 l2 hb6)
 (with_reducible apply Kn.al); (assumption); (intro b9 h3 K3 l3 hb9)
 repeat' (first | (refine kr_ ?_) | ((((with_reducible apply Kn.wr); (assumption); ((focus ((repeat first | exact .head | apply Upd.tail); done))))); (exact of_decide_eq_true rfl); (intro _ _ _)))
 exact ⟨_, Kn.le (by assumption), k⟩
theorem Hk {h : Hp} {b : BindP} {R : Value -> Hp -> Prop} (k : R (vA b) h) : qM #[vA b] h R := by
 refine ACalls.drop (Ei ?_)
 refine uf_ ?_
 have K0 := Kn.nil h
 (with_reducible apply Kn.al); (assumption); (intro b4 h1 K1 l1 hb4)
 (with_reducible apply Kn.al); (assumption); (intro b6 h2 K2 l2 hb6)
 (with_reducible apply Kn.al); (assumption); (intro b9 h3 K3 l3 hb9)
 repeat' (first | (refine kr_ ?_) | ((((with_reducible apply Kn.wr); (assumption); ((focus ((repeat first | exact .head | apply Upd.tail); done))))); (exact of_decide_eq_true rfl); (intro _ _ _)))
 exact ⟨_, Kn.le (by assumption), k⟩
theorem Fk : ∀ (vs cs : List Value) (o : Nat), o + vs.length <= cs.length -> (dZ cs o vs).take (o + vs.length) = cs.take o ++ vs := by
 intro vs
 induction vs with
 | nil => intro cs o _; simp [D0]
 | cons v r ih =>
  intro cs o h
  rw [List.length_cons] at h ⊢
  rw [zp, show o + (r.length + 1) = (o + 1) + r.length by omega, ih _ _ (by rw [List.length_set]; omega), jO v (by omega), List.append_assoc]; rfl
theorem HF {h : Hp} {n : NodeP} {R : Value -> Hp -> Prop} (k : R (qR n) h) : qK #[qR n] h R := by
 refine ACalls.drop (EO ?_)
 refine uf_ ?_
 have K0 := Kn.nil h
 (with_reducible apply Kn.al); (assumption); (intro b4 h1 K1 l1 hb4)
 (with_reducible apply Kn.al); (assumption); (intro b6 h2 K2 l2 hb6)
 (with_reducible apply Kn.al); (assumption); (intro b9 h3 K3 l3 hb9)
 repeat' (first | (refine kr_ ?_) | ((((with_reducible apply Kn.wr); (assumption); ((focus ((repeat first | exact .head | apply Upd.tail); done))))); (exact of_decide_eq_true rfl); (intro _ _ _)) | (refine IK ⟨_, _, rfl, ?_⟩))
 exact ⟨_, Kn.le (by assumption), k⟩
theorem FC {α : Type} {f : α -> List Value} {l : List α} {i : Nat} {x : α} (h : l[i]? = some x) : (l.take (i + 1)).flatMap f = (l.take i).flatMap f ++ f x := by
 have hlt := get_lt h
 rw [List.getElem?_eq_getElem hlt] at h
 rw [List.take_succ_eq_append_getElem hlt, List.flatMap_append, Option.some.inj h]; simp
theorem tt (z : Array Value) (n : Nat) : (aA z n).length = n := by simp [aA]
theorem GF {h : Hp} {s : Sl} {l : List NodeP} {R : Value -> Hp -> Prop} (hs : fH h s l) (hl : l.length <= 1048576)
  (k : ∀ b h', h b = none -> h.le h' -> h' b = some (.inl ⟨l.flatMap nodeCells, l.length * 9, false⟩) -> R (Sl.v (arr b l.length)) h') : pA #[s.v] h R := by
 apply BU
 refine uf_ ?_
 have hn := hs.len
 refine ⟨by omega, by omega, by omega, by omega, ?_⟩
 rw [Int.toNat_natCast, hn]
 refine ae fun b h1 hb l1 f1 => ?_
 refine aq l.length (fun i vs h' => vs = [s.v, (arr b l.length).v, I i] /\ h.le h' /\ ∃ cs, h' b = some (.inl ⟨cs, l.length * 9, false⟩) /\ cs.length = l.length * 9 /\ cs.take (i * 9) = (l.take i).flatMap nodeCells) ⟨rfl, l1, _, f1, tt _ _, by simp⟩ ?_
 clear f1 l1 h1
 rintro i _ h1 next hi ⟨rfl, l1, cs, f1, hcl, htk⟩ hnx
 refine ⟨s, arr b _, _, rfl, ?_⟩
 by_cases hlt : i < l.length
 rotate_left
 ·have hie : i = l.length := by omega
  subst hie
  refine ak (by simp; omega) (k b h1 hb l1 ?_)
  rw [List.take_of_length_le (by omega), List.take_length] at htk
  rw [<- htk]; exact f1
 refine aH (by simp; omega) ?_
 obtain ⟨n, hni⟩ : ∃ n, l[i]? = some n := ⟨_, List.getElem?_eq_getElem hlt⟩
 obtain ⟨bn, o, ha, c0, c1, c2, c3, c4, c5, c6, c7, c8⟩ := (hs.mono l1).at hni
 refine ⟨bn, o, ha, by omega, by omega, _, c0, _, c1, _, c2, _, c3, _, c4, _, c5, _, c6, _, c7, _, c8, ?_⟩
 refine HF (n := n) ⟨_, _, _, _, _, _, _, _, _, rfl, ?_⟩
 refine cB ⟨by omega, by dsimp only; omega, ?_⟩
 (with_reducible apply bC); (exact f1); (exact l1); (exact hb); (rw [Int.toNat_natCast]; omega)
 intro h2 f2 kp l2
 rw [az (by omega)]
 refine hnx hlt _ _ ⟨rfl, l2, _, f2, by rw [eW]; exact hcl, ?_⟩
 have := Fk (nodeCells n) cs (i * 9) (by show i * 9 + 9 <= _; omega)
 rw [Int.toNat_natCast, Nat.zero_add]
 rw [FC hni, <- htk, show (i + 1) * 9 = i * 9 + (nodeCells n).length by show _ = i * 9 + 9; omega]
 exact this
theorem xi {h : Hp} {s : Sl} {l : List BindP} {R : Value -> Hp -> Prop} (hs : kB h s l) (hl : l.length <= 1048576)
  (k : ∀ b h', h b = none -> h.le h' -> h' b = some (.inl ⟨l.flatMap bindCells, l.length * 2, false⟩) -> R (Sl.v (arr b l.length)) h') : kR #[s.v] h R := by
 apply Cq
 refine uf_ ?_
 have hn := hs.len
 refine ⟨by omega, by omega, by omega, by omega, ?_⟩
 rw [Int.toNat_natCast, hn]
 refine ae fun b h1 hb l1 f1 => ?_
 refine aq l.length (fun i vs h' => vs = [s.v, (arr b l.length).v, I i] /\ h.le h' /\ ∃ cs, h' b = some (.inl ⟨cs, l.length * 2, false⟩) /\ cs.length = l.length * 2 /\ cs.take (i * 2) = (l.take i).flatMap bindCells) ⟨rfl, l1, _, f1, tt _ _, by simp⟩ ?_
 clear f1 l1 h1
 rintro i _ h1 next hi ⟨rfl, l1, cs, f1, hcl, htk⟩ hnx
 refine ⟨s, arr b _, _, rfl, ?_⟩
 by_cases hlt : i < l.length
 rotate_left
 ·have hie : i = l.length := by omega
  subst hie
  refine ak (by simp; omega) (k b h1 hb l1 ?_)
  rw [List.take_of_length_le (by omega), List.take_length] at htk
  rw [<- htk]; exact f1
 refine aH (by simp; omega) ?_
 obtain ⟨n, hni⟩ : ∃ n, l[i]? = some n := ⟨_, List.getElem?_eq_getElem hlt⟩
 obtain ⟨bn, o, ha, c0, c1⟩ := (hs.mono l1).at hni
 refine ⟨bn, o, ha, by omega, by omega, _, c0, _, c1, ?_⟩
 refine Hk (b := n) ⟨_, _, rfl, ?_⟩
 refine cB ⟨by omega, by dsimp only; omega, ?_⟩
 (with_reducible apply bC); (exact f1); (exact l1); (exact hb); (rw [Int.toNat_natCast]; omega)
 intro h2 f2 kp l2
 rw [az (by omega)]
 refine hnx hlt _ _ ⟨rfl, l2, _, f2, by rw [eW]; exact hcl, ?_⟩
 have := Fk (bindCells n) cs (i * 2) (by show i * 2 + 2 <= _; omega)
 rw [Int.toNat_natCast, Nat.zero_add]
 rw [FC hni, <- htk, show (i + 1) * 2 = i * 2 + (bindCells n).length by show _ = i * 2 + 2; omega]
 exact this
theorem DG {h : Hp} {s : Sl} {l : List Int} {R : Value -> Hp -> Prop} (hs : IntS h s l) (hl : l.length <= 1048576)
  (k : ∀ b h', h b = none -> h.le h' -> h' b = some (.inl ⟨l.map I, l.length * 1, false⟩) -> R (Sl.v (arr b l.length)) h') : iB #[s.v] h R := by
 apply vD
 refine uf_ ?_
 have hn := hs.len
 refine ⟨by omega, by omega, by omega, by omega, ?_⟩
 rw [Int.toNat_natCast, hn]
 refine ae fun b h1 hb l1 f1 => ?_
 refine aq l.length (fun i vs h' => vs = [s.v, (arr b l.length).v, I i] /\ h.le h' /\ ∃ cs, h' b = some (.inl ⟨cs, l.length * 1, false⟩) /\ cs.length = l.length /\ cs.take i = (l.take i).map I) ⟨rfl, l1, _, f1, by rw [tt, Nat.mul_one], by simp⟩ ?_
 clear f1 l1 h1
 rintro i _ h1 next hi ⟨rfl, l1, cs, f1, hcl, htk⟩ hnx
 refine ⟨s, arr b _, _, rfl, ?_⟩
 by_cases hlt : i < l.length
 rotate_left
 ·have hie : i = l.length := by omega
  subst hie
  refine ak (by simp; omega) (k b h1 hb l1 ?_)
  rw [List.take_of_length_le (by omega), List.take_length] at htk
  rw [<- htk]; exact f1
 refine aH (by simp; omega) ?_
 obtain ⟨n, hni⟩ : ∃ n, l[i]? = some n := ⟨_, List.getElem?_eq_getElem hlt⟩
 obtain ⟨bn, o, ha, c0⟩ := (hs.mono l1).get hni
 refine ⟨bn, o, ha, by omega, by omega, _, c0, ?_⟩
 refine cB ⟨by omega, by dsimp only; omega, ?_⟩
 (with_reducible apply bC); (exact f1); (exact l1); (exact hb); (rw [Int.toNat_natCast]; omega)
 intro h2 f2 kp l2
 rw [az (by omega)]
 refine hnx hlt _ _ ⟨rfl, l2, _, f2, by rw [eW]; exact hcl, ?_⟩
 rw [Int.toNat_natCast, Nat.zero_add, Nat.mul_one, bk, jO _ (by omega), htk, List.take_succ_eq_append_getElem hlt, List.map_append]
 rw [List.getElem?_eq_getElem hlt] at hni
 rw [Option.some.inj hni]; rfl
def dS (m : aj) (bn bi bx bb bh : Nat) : List (Nat × Blk) :=
 [(bn, .inl ⟨m.nodes.flatMap nodeCells, m.nodes.length * 9, false⟩), (bi, .inl ⟨m.inits.flatMap bindCells, m.inits.length * 2, false⟩), (bx, .inl ⟨m.nexts.flatMap bindCells, m.nexts.length * 2, false⟩),
  (bb, .inl ⟨m.bads.map I, m.bads.length * 1, false⟩), (bh, .inl ⟨m.holds.map I, m.holds.length * 1, false⟩)]
abbrev Bc (m : aj) (bn bi bx bb bh : Nat) : MSl := ⟨arr bn m.nodes.length, arr bi m.inits.length, arr bx m.nexts.length, arr bb m.bads.length, arr bh m.holds.length⟩
theorem aF {h : Hp} {M : MSl} {m : aj} {R : Value -> Hp -> Prop} (hs : aG h M m) (hm : bU m)
  (k : ∀ bn bi bx bb bh h', Kn h h' (dS m bn bi bx bb bh) -> R (aM (Bc m bn bi bx bb bh)) h') : ay #[aM M] h R := by
 apply C5
 refine uf_ ?_
 have K0 := Kn.nil h
 (with_reducible apply Kn.al); (assumption); (intro b7 h1 K1 l1 hb7)
 (with_reducible apply Kn.al); (assumption); (intro b9 h2 K2 l2 hb9)
 (with_reducible apply Kn.al); (assumption); (intro b12 h3 K3 l3 hb12)
 repeat' (refine kr_ ?_)
 refine GF (hs.mono K3.le).nodes hm.nodes fun bn h4 hbn l4 f4 => ⟨_, rfl, ?_⟩
 have K4 := K3.cons hbn l4 f4
 (((with_reducible apply Kn.wr); (assumption); ((focus ((repeat first | exact .head | apply Upd.tail); done)))))
 ·exact of_decide_eq_true rfl
 intro h5 K5 _
 repeat' (refine kr_ ?_)
 refine xi (hs.mono K5.le).inits hm.inits fun bi h6 hbi l6 f6 => ⟨_, rfl, ?_⟩
 have K6 := K5.cons hbi l6 f6
 (((with_reducible apply Kn.wr); (assumption); ((focus ((repeat first | exact .head | apply Upd.tail); done)))))
 ·exact of_decide_eq_true rfl
 intro h7 K7 _
 repeat' (refine kr_ ?_)
 refine xi (hs.mono K7.le).nexts hm.nexts fun bx h8 hbx l8 f8 => ⟨_, rfl, ?_⟩
 have K8 := K7.cons hbx l8 f8
 (((with_reducible apply Kn.wr); (assumption); ((focus ((repeat first | exact .head | apply Upd.tail); done)))))
 ·exact of_decide_eq_true rfl
 intro h9 K9 _
 repeat' (refine kr_ ?_)
 refine DG (hs.mono K9.le).bads hm.bads fun bb h10 hbb l10 f10 => ⟨_, rfl, ?_⟩
 have K10 := K9.cons hbb l10 f10
 (((with_reducible apply Kn.wr); (assumption); ((focus ((repeat first | exact .head | apply Upd.tail); done)))))
 ·exact of_decide_eq_true rfl
 intro h11 K11 _
 repeat' (refine kr_ ?_)
 refine DG (hs.mono K11.le).holds hm.holds fun bh h12 hbh l12 f12 => ⟨_, rfl, ?_⟩
 have K12 := K11.cons hbh l12 f12
 (((with_reducible apply Kn.wr); (assumption); ((focus ((repeat first | exact .head | apply Upd.tail); done)))))
 ·exact of_decide_eq_true rfl
 intro h13 K13 _
 repeat' (refine kr_ ?_)
 (((with_reducible apply Kn.wr); (assumption); ((focus ((repeat first | exact .head | apply Upd.tail); done)))))
 ·exact of_decide_eq_true rfl
 intro h14 K14 _
 repeat' (refine kr_ ?_)
 refine k bn bi bx bb bh h14 (K14.sub (fun e he => ?_) ?_)
 ·simp only [dS, List.mem_cons, List.not_mem_nil, or_false] at he
  rcases he with rfl | rfl | rfl | rfl | rfl
  ·exact .tail _ (.tail _ (.tail _ (.tail _ (.head _))))
  ·exact .tail _ (.tail _ (.tail _ (.head _)))
  ·exact .tail _ (.tail _ (.head _))
  ·exact .tail _ (.head _)
  ·exact .head _
 ·have nd : ([bh, bb, bx, bi, bn] ++ [b12, b9, b7]).Nodup := K14.nd
  have nd2 : ([bh, bb, bx, bi, bn] : List Nat).reverse.Nodup := (List.reverse_perm _).nodup_iff.2 (List.nodup_append.1 nd).1
  exact nd2
theorem de {g h : Hp} {X : List (Nat × Blk)} {m : aj} {bn bi bx bb bh : Nat} (K : Kn g h (dS m bn bi bx bb bh ++ X)) (hm : bU m) : aG h (Bc m bn bi bx bb bh) m := by
 have g1 := hm.nodes
 have g2 := hm.inits
 have g3 := hm.nexts
 have g4 := hm.bads
 have g5 := hm.holds
 refine ⟨⟨by dsimp only; omega, by rw [gm (m := 9) (fun _ => rfl)], .inr ⟨bn, 0, rfl, ax (K.at (List.mem_append_left _ (.head _)))⟩⟩,
  ⟨by dsimp only; omega, by rw [gm (m := 2) (fun _ => rfl)], .inr ⟨bi, 0, rfl, ax (K.at (List.mem_append_left _ (.tail _ (.head _))))⟩⟩,
  ⟨by dsimp only; omega, by rw [gm (m := 2) (fun _ => rfl)], .inr ⟨bx, 0, rfl, ax (K.at (List.mem_append_left _ (.tail _ (.tail _ (.head _)))))⟩⟩,
  ⟨by dsimp only; omega, by simp, .inr ⟨bb, 0, rfl, ax (K.at (List.mem_append_left _ (.tail _ (.tail _ (.tail _ (.head _))))))⟩⟩,
  ⟨by dsimp only; omega, by simp, .inr ⟨bh, 0, rfl, ax (K.at (List.mem_append_left _ (.tail _ (.tail _ (.tail _ (.tail _ (.head _)))))))⟩⟩, Nat.le_refl _⟩
theorem HV {h : Hp} {i w : Int} {R : Value -> Hp -> Prop} (k : R (.bool true) h) : qs #[.agg #[I i, I w], .agg #[I i, I w]] h R := by
 refine ACalls.drop (Ez ?_)
 refine uf_ ?_
 have K0 := Kn.nil h
 (with_reducible apply Kn.al); (assumption); (intro b4 h1 K1 l1 hb4)
 (with_reducible apply Kn.al); (assumption); (intro b6 h2 K2 l2 hb6)
 repeat' (first | (refine kr_ ?_) | (refine ak (by simp) ?_))
 exact ⟨_, K2.le, k⟩
theorem Hn {h : Hp} {b : BindP} {R : Value -> Hp -> Prop} (k : R (.bool true) h) : qp #[vA b, vA b] h R := by
 refine ACalls.drop (EY ?_)
 refine uf_ ?_
 have K0 := Kn.nil h
 (with_reducible apply Kn.al); (assumption); (intro b4 h1 K1 l1 hb4)
 (with_reducible apply Kn.al); (assumption); (intro b6 h2 K2 l2 hb6)
 repeat' (first | (refine kr_ ?_) | (refine ak (by simp) ?_))
 exact ⟨_, K2.le, k⟩
theorem IS {h : Hp} {n : NodeP} {R : Value -> Hp -> Prop} (k : R (.bool true) h) : qx #[qR n, qR n] h R := by
 refine ACalls.drop (Eo ?_)
 refine uf_ ?_
 have K0 := Kn.nil h
 (with_reducible apply Kn.al); (assumption); (intro b4 h1 K1 l1 hb4)
 (with_reducible apply Kn.al); (assumption); (intro b6 h2 K2 l2 hb6)
 repeat' (first | (refine kr_ ?_) | (refine ak (by simp) ?_) | (refine HV ⟨_, rfl, ?_⟩))
 exact ⟨_, K2.le, k⟩
theorem GL {h : Hp} {s t : Sl} {l : List NodeP} {R : Value -> Hp -> Prop} (hs : fH h s l) (ht : fH h t l) (k : R (.bool true) h) : oQ #[s.v, t.v] h R := by
 apply CI
 refine uf_ ?_
 have hn := hs.len
 have hn2 := ht.len
 have hb := hs.1
 refine ak (by simp; omega) ?_
 refine aq l.length (fun i vs h' => vs = [s.v, t.v, I i] /\ h' = h) ⟨rfl, rfl⟩ ?_
 rintro i _ _ next hi ⟨rfl, rfl⟩ hnx
 rename_i h
 refine ⟨s, t, _, rfl, ?_⟩
 by_cases hlt : i < l.length
 ·refine aH (by simp; omega) ?_
  obtain ⟨n, hni⟩ : ∃ n, l[i]? = some n := ⟨_, List.getElem?_eq_getElem hlt⟩
  obtain ⟨b, o, ha, c0, c1, c2, c3, c4, c5, c6, c7, c8⟩ := hs.at hni
  obtain ⟨b', o', ha', d0, d1, d2, d3, d4, d5, d6, d7, d8⟩ := ht.at hni
  refine ⟨b, o, ha, by omega, by omega, b', o', ha', by omega, by omega, _, c0, _, c1, _, c2, _, c3, _, c4, _, c5, _, c6, _, c7, _, c8, _, d0, _, d1, _, d2, _, d3, _, d4, _, d5, _, d6, _, d7, _, d8, ?_⟩
  refine IS (n := n) ⟨_, rfl, ak rfl ?_⟩
  rw [az (by omega)]
  exact hnx hlt _ _ ⟨rfl, rfl⟩
 ·exact ak (by simp; omega) k
theorem xW {h : Hp} {s t : Sl} {l : List BindP} {R : Value -> Hp -> Prop} (hs : kB h s l) (ht : kB h t l) (k : R (.bool true) h) : k8 #[s.v, t.v] h R := by
 apply D3
 refine uf_ ?_
 have hn := hs.len
 have hn2 := ht.len
 have hb := hs.1
 refine ak (by simp; omega) ?_
 refine aq l.length (fun i vs h' => vs = [s.v, t.v, I i] /\ h' = h) ⟨rfl, rfl⟩ ?_
 rintro i _ _ next hi ⟨rfl, rfl⟩ hnx
 rename_i h
 refine ⟨s, t, _, rfl, ?_⟩
 by_cases hlt : i < l.length
 ·refine aH (by simp; omega) ?_
  obtain ⟨n, hni⟩ : ∃ n, l[i]? = some n := ⟨_, List.getElem?_eq_getElem hlt⟩
  obtain ⟨b, o, ha, c0, c1⟩ := hs.at hni
  obtain ⟨b', o', ha', d0, d1⟩ := ht.at hni
  refine ⟨b, o, ha, by omega, by omega, b', o', ha', by omega, by omega, _, c0, _, c1, _, d0, _, d1, ?_⟩
  refine Hn (b := n) ⟨_, rfl, ak rfl ?_⟩
  rw [az (by omega)]
  exact hnx hlt _ _ ⟨rfl, rfl⟩
 ·exact ak (by simp; omega) k
theorem em {h : Hp} {M M' : MSl} {m : aj} {R : Value -> Hp -> Prop} (hs : aG h M m) (ht : aG h M' m) (k : R (.bool true) h) : cL #[aM M, aM M'] h R := by
 refine ACalls.drop (CE ?_)
 refine uf_ ?_
 have K0 := Kn.nil h
 (with_reducible apply Kn.al); (assumption); (intro b4 h1 K1 l1 hb4)
 (with_reducible apply Kn.al); (assumption); (intro b6 h2 K2 l2 hb6)
 have hs2 := hs.mono K2.le
 have ht2 := ht.mono K2.le
 repeat' (refine kr_ ?_)
 refine GL hs2.nodes ht2.nodes ⟨_, rfl, ak rfl ?_⟩
 repeat' (refine kr_ ?_)
 refine xW hs2.inits ht2.inits ⟨_, rfl, ak rfl ?_⟩
 repeat' (refine kr_ ?_)
 refine xW hs2.nexts ht2.nexts ⟨_, rfl, ak rfl ?_⟩
 repeat' (refine kr_ ?_)
 refine pJ hs2.bads ht2.bads ⟨_, rfl, ak (by simp) ?_⟩
 repeat' (refine kr_ ?_)
 refine pJ hs2.holds ht2.holds ⟨_, rfl, ak (by simp) ?_⟩
 exact ⟨_, K2.le, k⟩
theorem Ew {h : Hp} {x : Int} {R : Value -> Hp -> Prop} (hx : x <= 9223372036854775000) (k : ∀ s : ByteArray, R (.string s) h) : m9 #[I x] h R := by
 refine ACalls.drop (AC ?_)
 refine uf_ ?_
 refine ad (fun e => ⟨_, Hp.le_refl _, k _⟩) (fun e => ?_)
 have e := of_decide_eq_false e
 obtain ⟨n, rfl⟩ : ∃ n : Nat, x = n := ⟨x.toNat, by omega⟩
 refine ur n (fun q vs h' => ∃ s : ByteArray, vs = [I q, .string s] /\ h.le h' /\ s.size + q <= 9223372036854775000) ⟨_, rfl, Hp.le_refl _, by show 0 + n <= _; omega⟩ ?_
 rintro q _ h1 next ⟨s, rfl, l1, hsz⟩ hnx
 refine ⟨_, s, rfl, ?_⟩
 refine ad (fun e => ?_) (fun e => ?_)
 ·have e := of_decide_eq_true e
  refine ae fun b h2 hb l2 f2 => ?_
  have hm : Int.tmod (q : Int) 10 = ((q % 10 : Nat) : Int) := eP q 10
  have hd : Int.tdiv (q : Int) 10 = ((q / 10 : Nat) : Int) := B9 q 10
  have hmod : q % 10 < 10 := Nat.mod_lt _ (by omega)
  have hw : IntKind.wrap .u8 (W (48 + ((q % 10 : Nat) : Int))) = ((48 + q % 10 : Nat) : Int) := by
   rw [cc (by omega) (by omega), IntKind.wrap_u8]; omega
  rw [hm, hw] at f2
  refine ⟨[UInt8.ofNat (48 + q % 10)], ⟨rfl, .inr ⟨b, 0, rfl, ?_⟩⟩, ?_⟩
  ·have hc : eI [UInt8.ofNat (48 + q % 10)] = [.int .u8 ((48 + q % 10 : Nat) : Int)] := by
    unfold eI
    rw [List.map_cons, List.map_nil]
    have : (UInt8.ofNat (48 + q % 10)).toNat = 48 + q % 10 := by rw [UInt8.toNat_ofNat']; omega
    rw [this]; rfl
   rw [hc]; exact ax f2
  ·have h1s : (⟨[UInt8.ofNat (48 + q % 10)].toArray⟩ : ByteArray).size = 1 := rfl
   rw [h1s, hd, fk (by omega)]
   refine ⟨by omega, hnx (q / 10) (by omega) _ _ ⟨_, rfl, Hp.le_trans l1 l2, ?_⟩⟩
   rw [ByteArray.size_append, h1s]
   omega
 ·have h1s : (⟨#[109]⟩ : ByteArray).size = 1 := rfl
  exact ⟨by rw [h1s]; omega, _, l1, k _⟩
theorem JO {x : Int} (h0 : 0 <= x) (h : x <= 9223372036854775000) : W (x + 1) = x + 1 := cc (by omega) (by omega)
theorem B1 {h : Hp} {b n z : Nat} {cs : List Value} {k0 : Int} {R : Value -> Hp -> Prop} (f : h b = some (.inl ⟨cs, z, false⟩)) (hl : cs.length = n * 9) (h0 : 0 <= k0) (hk : k0 + n * 9 <= 1000000000000)
  (k : ∀ h' cs', (h.off b).le h' -> h' b = some (.inl ⟨cs', z, false⟩) -> cs'.length = n * 9 -> R (I (k0 + n * 9)) h') : lQ #[(arr b n).v, I k0] h R := by
 apply yS
 refine uf_ ?_
 refine aq n (fun i vs h' => vs = [(arr b n).v, I (k0 + i * 9), I i] /\ ∃ cs, Kn (h.off b) h' [(b, .inl ⟨cs, z, false⟩)] /\ cs.length = n * 9) ⟨by simp, cs, ?_, hl⟩ ?_
 ·exact ⟨zi _ _, fun e he => by rw [List.mem_singleton.1 he]; exact f, fun e he => by rw [List.mem_singleton.1 he]; exact pY _ _, by simp⟩
 clear f hl cs
 rintro i _ h1 next hi ⟨rfl, cs, K, hl⟩ hnx
 refine ⟨arr b n, _, _, rfl, ?_⟩
 by_cases hlt : i < n
 rotate_left
 ·have hie : i = n := by omega
  subst hie
  exact ak (by simp) (k h1 cs K.le (K.at (.head _)) hl)
 refine aH (by simp; omega) ?_
 simp (disch := omega) only [JO]
 have hnat : Int.toNat (i : Int) = i := Int.toNat_natCast i
 rw [hnat]
 repeat' (first
  | (refine cB ⟨by omega, by first | omega | (dsimp only; omega), ?_⟩)
  | ((((with_reducible apply Kn.wr); (assumption); ((focus ((repeat first | exact .head | apply Upd.tail); done))))); (first | omega | (simp only [eW]; omega)); (intro _ _ _)))
 refine Ew (by omega) fun s => ⟨s, rfl, ?_⟩
 refine cB ⟨by omega, by first | omega | (dsimp only; omega), ?_⟩
 (((with_reducible apply Kn.wr); (assumption); ((focus ((repeat first | exact .head | apply Upd.tail); done)))))
 ·first | omega | (simp only [eW]; omega)
 intro h2 K2 _
 have hni : ((i : Int) + 1) = ((i + 1 : Nat) : Int) := by omega
 have := hnx hlt _ _ ⟨rfl, _, K2, by first | exact hl | (simp only [eW]; exact hl)⟩
 have hke : k0 + (i : Int) * 9 + 1 + 1 + 1 + 1 + 1 + 1 + 1 + 1 + 1 = k0 + ((i + 1 : Nat) : Int) * 9 := by omega
 rw [hni, hke]; exact this
theorem tl {h : Hp} {b n z : Nat} {cs : List Value} {k0 : Int} {R : Value -> Hp -> Prop} (f : h b = some (.inl ⟨cs, z, false⟩)) (hl : cs.length = n * 2) (h0 : 0 <= k0) (hk : k0 + n * 2 <= 1000000000000)
  (k : ∀ h' cs', (h.off b).le h' -> h' b = some (.inl ⟨cs', z, false⟩) -> cs'.length = n * 2 -> R (I (k0 + n * 2)) h') : jq #[(arr b n).v, I k0] h R := by
 apply yR
 refine uf_ ?_
 refine aq n (fun i vs h' => vs = [(arr b n).v, I (k0 + i * 2), I i] /\ ∃ cs, Kn (h.off b) h' [(b, .inl ⟨cs, z, false⟩)] /\ cs.length = n * 2) ⟨by simp, cs, ?_, hl⟩ ?_
 ·exact ⟨zi _ _, fun e he => by rw [List.mem_singleton.1 he]; exact f, fun e he => by rw [List.mem_singleton.1 he]; exact pY _ _, by simp⟩
 clear f hl cs
 rintro i _ h1 next hi ⟨rfl, cs, K, hl⟩ hnx
 refine ⟨arr b n, _, _, rfl, ?_⟩
 by_cases hlt : i < n
 rotate_left
 ·have hie : i = n := by omega
  subst hie
  exact ak (by simp) (k h1 cs K.le (K.at (.head _)) hl)
 refine aH (by simp; omega) ?_
 simp (disch := omega) only [JO]
 have hnat : Int.toNat (i : Int) = i := Int.toNat_natCast i
 rw [hnat]
 repeat' (first
  | (refine cB ⟨by omega, by first | omega | (dsimp only; omega), ?_⟩)
  | ((((with_reducible apply Kn.wr); (assumption); ((focus ((repeat first | exact .head | apply Upd.tail); done))))); (first | omega | (simp only [eW]; omega)); (intro _ _ _)))
 have hni : ((i : Int) + 1) = ((i + 1 : Nat) : Int) := by omega
 have hke : k0 + (i : Int) * 2 + 1 + 1 = k0 + ((i + 1 : Nat) : Int) * 2 := by omega
 rw [hni, hke]
 refine hnx hlt _ _ ⟨rfl, _, by assumption, by first | exact hl | (simp only [eW]; exact hl)⟩
theorem xD {h : Hp} {b n z : Nat} {cs : List Value} {k0 : Int} {R : Value -> Hp -> Prop} (f : h b = some (.inl ⟨cs, z, false⟩)) (hl : cs.length = n) (h0 : 0 <= k0) (hk : k0 + n <= 1000000000000)
  (k : ∀ h' cs', (h.off b).le h' -> h' b = some (.inl ⟨cs', z, false⟩) -> cs'.length = n -> R (I (k0 + n)) h') : ey #[(arr b n).v, I k0] h R := by
 apply sA
 refine uf_ ?_
 refine aq n (fun i vs h' => vs = [(arr b n).v, I (k0 + i), I i] /\ ∃ cs, Kn (h.off b) h' [(b, .inl ⟨cs, z, false⟩)] /\ cs.length = n) ⟨by simp, cs, ?_, hl⟩ ?_
 ·exact ⟨zi _ _, fun e he => by rw [List.mem_singleton.1 he]; exact f, fun e he => by rw [List.mem_singleton.1 he]; exact pY _ _, by simp⟩
 clear f hl cs
 rintro i _ h1 next hi ⟨rfl, cs, K, hl⟩ hnx
 refine ⟨arr b n, _, _, rfl, ?_⟩
 by_cases hlt : i < n
 rotate_left
 ·have hie : i = n := by omega
  subst hie
  exact ak (by simp) (k h1 cs K.le (K.at (.head _)) hl)
 refine aH (by simp; omega) ?_
 simp (disch := omega) only [JO]
 have hnat : Int.toNat (i : Int) = i := Int.toNat_natCast i
 rw [hnat]
 repeat' (first
  | (refine cB ⟨by omega, by first | omega | (dsimp only; omega), ?_⟩)
  | ((((with_reducible apply Kn.wr); (assumption); ((focus ((repeat first | exact .head | apply Upd.tail); done))))); (first | omega | (simp only [eW]; omega)); (intro _ _ _)))
 have hni : ((i : Int) + 1) = ((i + 1 : Nat) : Int) := by omega
 have hke : k0 + (i : Int) + 1 = k0 + ((i + 1 : Nat) : Int) := by omega
 rw [hke, hni]
 refine hnx hlt _ _ ⟨rfl, _, by assumption, by first | exact hl | (simp only [eW]; exact hl)⟩
theorem et {g h : Hp} {X : List (Nat × Blk)} {m : aj} {bn bi bx bb bh : Nat} {R : Value -> Hp -> Prop} (K : Kn g h (dS m bn bi bx bb bh ++ X)) (hm : bU m)
  (k : ∀ h' L', L'.map Prod.fst = [bn, bi, bx, bb, bh] -> Kn g h' (L' ++ X) -> ∀ r : Int, 0 <= r -> R (I r) h') : cJ #[aM (Bc m bn bi bx bb bh), I 1] h R := by
 apply yM
 refine uf_ ?_
 have g1 := hm.nodes
 have g2 := hm.inits
 have g3 := hm.nexts
 have g4 := hm.bads
 have g5 := hm.holds
 refine ae fun b8 h1 hb8 l1 f8 => ?_
 have K1 := K.cons hb8 l1 f8
 unfold dS at K1
 simp only [List.cons_append, List.nil_append] at K1
 clear K l1 hb8
 (refine am ?_)
 refine B1 (K1.at (.tail _ (.head _))) (gm (m := 9) (fun _ => rfl) _) (by omega) (by omega) fun h2 c2 l2 f2 hc2 => ⟨_, rfl, ?_⟩
 have K2 := K1.off (.tail .head) l2 f2
 (refine kr_ ?_)
 refine tl (K2.at (.tail _ (.tail _ (.head _)))) (gm (m := 2) (fun _ => rfl) _) (by omega) (by omega) fun h3 c3 l3 f3 hc3 => ⟨_, rfl, ?_⟩
 have K3 := K2.off (.tail (.tail .head)) l3 f3
 (refine kr_ ?_)
 refine tl (K3.at (.tail _ (.tail _ (.tail _ (.head _))))) (gm (m := 2) (fun _ => rfl) _) (by omega) (by omega) fun h4 c4 l4 f4 hc4 => ⟨_, rfl, ?_⟩
 have K4 := K3.off (.tail (.tail (.tail .head))) l4 f4
 (refine kr_ ?_)
 refine xD (K4.at (.tail _ (.tail _ (.tail _ (.tail _ (.head _)))))) (by simp) (by omega) (by omega) fun h5 c5 l5 f5 hc5 => ⟨_, rfl, ?_⟩
 have K5 := K4.off (.tail (.tail (.tail (.tail .head)))) l5 f5
 (refine kr_ ?_)
 refine xD (K5.at (.tail _ (.tail _ (.tail _ (.tail _ (.tail _ (.head _))))))) (by simp) (by omega) (by omega) fun h6 c6 l6 f6 hc6 => ⟨_, rfl, ?_⟩
 have K6 := K5.off (.tail (.tail (.tail (.tail (.tail .head))))) l6 f6
 have nd := K6.nd
 rw [List.map_cons, List.nodup_cons] at nd
 refine k h6 [(bn, .inl ⟨c2, m.nodes.length * 9, false⟩), (bi, .inl ⟨c3, m.inits.length * 2, false⟩), (bx, .inl ⟨c4, m.nexts.length * 2, false⟩), (bb, .inl ⟨c5, m.bads.length * 1, false⟩), (bh, .inl ⟨c6, m.holds.length * 1, false⟩)] rfl (K6.sub (L' := [(bn, .inl ⟨c2, m.nodes.length * 9, false⟩), (bi, .inl ⟨c3, m.inits.length * 2, false⟩), (bx, .inl ⟨c4, m.nexts.length * 2, false⟩), (bb, .inl ⟨c5, m.bads.length * 1, false⟩), (bh, .inl ⟨c6, m.holds.length * 1, false⟩)] ++ X) (fun e he => .tail _ he) nd.2) _ (by omega)
theorem ja (v : Int) (f : Nat -> Bool) : (da v f).ns.length <= 600 := by
 unfold da qQ
 split
 ·split
  ·simp [gH]
  ·rename_i r h; split at h
   ·cases h
   ·cases h; dsimp only; omega
 ·simp [gH]
theorem list9 {cs : List Value} (h : cs.length = 9) : ∃ a b c d e f g i j, cs = [a, b, c, d, e, f, g, i, j] := by
 match cs, h with
 | [a, b, c, d, e, f, g, i, j], _ => exact ⟨a, b, c, d, e, f, g, i, j, rfl⟩
theorem list2 {cs : List Value} (h : cs.length = 2) : ∃ a b, cs = [a, b] := by
 match cs, h with
 | [a, b], _ => exact ⟨a, b, rfl⟩
theorem Got.flat {P : Program} {W : World} {t e : TypeId} {v : Value} {α : Type} {f : α -> List Value} {m : Nat} {p : α -> Prop} (hf : ∀ x, (f x).length = m) (hpos : 0 < m) (ht : P.underlying t = some (.slice e)) (hsz : P.cellsOf e = m)
  (hg : ∀ ds, Got P W e ds -> ∃ x, ds = f x /\ p x) (g : Got P W t [v]) : ∃ (s : Sl) (l : List α), v = s.v /\ s.n <= s.c /\ SlC (hW W) s m (l.flatMap f) /\ ∀ x ∈ l, p x := by
 obtain ⟨s, hs, hm, hlc, h⟩ := Got.slice ht hsz hpos g
 simp only [List.cons.injEq, and_true] at hs
 rcases h with h | ⟨b, o, ha, h⟩
 ·exact ⟨s, [], hs, hlc, ⟨hm, by simp [h], .inl h⟩, by simp⟩
 obtain ⟨xs, hl, hx⟩ := BA (p := fun i (x : α) => (∀ (j : Nat) v, (f x)[j]? = some v -> Hp.cell (hW W) b (o + i * m + j) = some v) /\ p x) s.n fun i hi => by
  obtain ⟨ds, hd, hgd, hc⟩ := h i hi
  obtain ⟨x, rfl, hp⟩ := hg ds hgd
  exact ⟨x, hc, hp⟩
 refine ⟨s, xs, hs, hlc, ⟨hm, by rw [gm hf, hl], .inr ⟨b, o, ha, ?_⟩⟩, ?_⟩
 ·intro i v hv
  have hi : i < (xs.flatMap f).length := (List.getElem?_eq_some_iff.1 hv).1
  rw [gm hf] at hi
  have hq : i / m < xs.length := by rw [Nat.div_lt_iff_lt_mul hpos]; exact hi
  have hr : i % m < m := Nat.mod_lt _ hpos
  have he : i = i / m * m + i % m := by rw [Nat.mul_comm]; exact (Nat.div_add_mod _ _).symm
  rw [he, t9 hf xs (i / m) xs[i / m] (i % m) (List.getElem?_eq_getElem hq) hr] at hv
  have := (hx (i / m) hq).1 _ _ hv
  rw [he, <- Nat.add_assoc]; exact this
 ·intro x hxm
  obtain ⟨i, hi, rfl⟩ := List.getElem_of_mem hxm
  exact (hx i hi).2
def tb (n : Nat) (T : Nat -> Bool) : List Value := (List.range n).map fun i => .bool (T i)
theorem eV (n : Nat) (T : Nat -> Bool) : (tb n T).length = n := by simp [tb]
theorem jC {n j : Nat} {T : Nat -> Bool} (hj : j < n) : (tb n T)[j]? = some (.bool (T j)) := by simp [tb, hj]
theorem S6 {n : Nat} {T U : Nat -> Bool} (h : ∀ j, j < n -> T j = U j) : tb n T = tb n U := by
 refine List.map_congr_left fun j hj => ?_
 rw [h j (List.mem_range.1 hj)]
theorem hE (n : Nat) : List.replicate n (.bool false) = tb n fun _ => false := by
 refine List.ext_getElem (by simp [tb]) fun i h1 h2 => ?_
 simp [tb]
theorem iL {n j : Nat} {T : Nat -> Bool} {v : Bool} : (tb n T).set j (.bool v) = tb n fun i => if i = j then v else T i := by
 refine List.ext_getElem (by simp [tb]) fun i h1 h2 => ?_
 rw [List.getElem_set]
 simp only [tb, List.getElem_map, List.getElem_range]
 by_cases e : i = j
 ·rw [if_pos e, if_pos e.symm]
 ·rw [if_neg e, if_neg fun h => e h.symm]
theorem S0 (n : Nat) (T : Nat -> Bool) : tb n T = ((List.range n).map T).map Value.bool := by simp [tb]
theorem gu {h : Hp} {b n z : Nat} {ro : Bool} {T U : Nat -> Bool} (hn : n <= 9223372036854775807) (f : h b = some (.inl ⟨tb n T, z, ro⟩)) (e : ∀ j, j < n -> T j = U j) : cy h (arr b n) n U := by
 refine ⟨by dsimp only; omega, by simp, .inr ⟨b, 0, rfl, ?_⟩⟩
 have := ax f
 rwa [S6 e, S0] at this
theorem dA {σ : ar} (ok : σ.Ok) : 2 ^ σ.n <= 256 := by
 have := Nat.pow_le_pow_right (n := 2) (by omega) ok.nle
 simpa using this
theorem y4 {σ : ar} (ok : σ.Ok) : 2 ^ σ.k <= 32 := by
 have := Nat.pow_le_pow_right (n := 2) (by omega) ok.kle
 simpa using this
theorem ky {σ : ar} (ok : σ.Ok) : 2 ^ (σ.n + σ.k) <= 8192 := by
 have h1 := ok.nle
 have h2 := ok.kle
 have := Nat.pow_le_pow_right (n := 2) (by omega) (show σ.n + σ.k <= 13 by omega)
 simpa using this
theorem Bx {h : Hp} {b s i : Nat} {σ : ar} {R : Value -> Hp -> Prop} (hs : jP h b σ) (ok : σ.Ok) (h1 : s < 2 ^ σ.n) (h2 : i < 2 ^ σ.k) (k : R (I (σ.at_ s i : Nat)) h) :
  fG #[.pointer (some ⟨b, 0, none⟩), I s, I i] h R := by
 apply yK
 refine uf_ ?_
 obtain ⟨M, st, hold, bad, next, fx, _, _, _⟩ := hs
 have hn := dA ok
 have hk := ky ok
 have hl := ar.at_lt h1 h2
 have h8 := ok.nle
 unfold ar.at_ at hl k
 refine cB ?_
 (refine am ?_)
 rw [if_neg (by omega), gl (by omega) (by omega), yw (by omega) (by omega)]
 refine m4 ?_ k
 rw [<- Nat.shiftLeft_eq, <- Nat.shiftLeft_add_eq_or_of_lt h1, Nat.shiftLeft_eq]
theorem GN {h : Hp} {b c : Nat} {σ : ar} {R : Value -> Hp -> Prop} (hs : jP h b σ) (hc : c < 2 ^ (σ.n + σ.k)) (k : R (.bool (σ.hold c)) h) :
  lv #[.pointer (some ⟨b, 0, none⟩), I c] h R := by
 apply sZ
 refine uf_ ?_
 obtain ⟨M, st, hold, bad, next, fx, hh, _, _⟩ := hs
 refine cB ?_
 (refine am ?_)
 obtain ⟨b', o', ha, h1, h2⟩ := hh.get hc
 exact ⟨b', o', ha, by omega, h1, _, h2, k⟩
theorem qZ {h : Hp} {b c : Nat} {σ : ar} {R : Value -> Hp -> Prop} (hs : jP h b σ) (hc : c < 2 ^ (σ.n + σ.k)) (k : R (.bool (σ.ends c)) h) :
  eE #[.pointer (some ⟨b, 0, none⟩), I c] h R := by
 apply wv
 refine uf_ ?_
 obtain ⟨M, st, hold, bad, next, fx, hh, hb, _⟩ := hs
 refine cB ?_
 (refine am ?_)
 obtain ⟨b', o', ha, h1, h2⟩ := hh.get hc
 refine ⟨b', o', ha, by omega, h1, _, h2, ?_⟩
 unfold ar.ends at k
 refine ad (fun e => ?_) (fun e => ?_)
 ·refine cB ?_
  (refine am ?_)
  obtain ⟨b', o', ha, h1, h2⟩ := hb.get hc
  refine ⟨b', o', ha, by omega, h1, _, h2, dl ?_ k⟩
  rw [e]; rfl
 ·rw [e] at k; exact k
def Ub (h : Hp) (fid : FuncId) (u w : Array Value) (σ : ar) (f : Nat -> Nat -> Bool) : Prop :=
 ∀ s i : Nat, s < 2 ^ σ.n -> i < 2 ^ σ.k -> ∀ h' : Hp, h.le h' -> ∀ R : Value -> Hp -> Prop, R (.bool (f s (σ.at_ s i))) h' -> ACalls PR fid ((u ++ #[I s, I (σ.at_ s i : Nat)]) ++ w) h' R
theorem lR {h : Hp} {b : Nat} {σ : ar} {fid : FuncId} {u w : Array Value} {f : Nat -> Nat -> Bool} {R : Value -> Hp -> Prop} (hs : jP h b σ) (ok : σ.Ok) (hf : Ub h fid u w σ f)
  (k : ∀ t h', h.le h' -> cy (h'.sub h) t (2 ^ σ.n) (σ.some_ f) -> R (Sl.v t) h') : cX #[.pointer (some ⟨b, 0, none⟩), .func (.func fid) u w] h R := by
 apply wc
 refine uf_ ?_
 have hn := dA ok
 have hk := y4 ok
 have h8 := ok.nle
 have h5 := ok.kle
 obtain ⟨M, st, hold, bad, next, fx, _⟩ := id hs
 have K0 := Kn.nil h
 refine cB ?_
 (refine am ?_)
 rw [if_neg (by omega), cu (by omega)]
 refine ⟨Int.natCast_nonneg _, Int.le_refl _, by omega, by omega, ?_⟩
 (with_reducible apply Kn.al); (assumption); (intro b10 h1 K1 l1 hb10)
 rw [Int.toNat_natCast, Nat.mul_one, bM, hE] at K1
 rw [Int.toNat_natCast]
 refine aq (2 ^ σ.n) (fun s vs h' => vs = [.pointer (some ⟨b, 0, none⟩), .func (.func fid) u w, (arr b10 (2 ^ σ.n)).v, I (2 ^ σ.n : Nat), I s] /\
  ∃ T, Kn h h' [(b10, .inl ⟨tb (2 ^ σ.n) T, 2 ^ σ.n, false⟩)] /\ (∀ j, j < s -> T j = σ.some_ f j) /\ ∀ j, s <= j -> T j = false) ⟨rfl, _, K1, fun j hj => by omega, fun _ _ => rfl⟩ ?_
 clear K1 K0 l1 hb10 h1
 rintro s _ h1 next hs' ⟨rfl, T, K1, hT1, hT2⟩ hnx
 refine ⟨_, _, _, _, arr b10 _, _, _, rfl, ?_⟩
 by_cases hlt : s < 2 ^ σ.n
 rotate_left
 ·refine ak (by rw [decide_eq_false_iff_not]; omega) ?_
  exact k _ h1 K1.le (gu (by omega) (by rw [jH (K1.new _ (.head _))]; exact K1.at (.head _)) fun j hj => hT1 j (by omega))
 refine aH (by rw [decide_eq_true_eq]; exact_mod_cast hlt) ?_
 refine cB ?_
 (refine kr_ ?_)
 rw [if_neg (by omega), cu (by omega)]
 refine aq (2 ^ σ.k) (fun i vs h' => vs = [.pointer (some ⟨b, 0, none⟩), .func (.func fid) u w, (arr b10 (2 ^ σ.n)).v, I s, I (2 ^ σ.n : Nat), I s, I (2 ^ σ.k : Nat), I i] /\
  ∃ T, Kn h h' [(b10, .inl ⟨tb (2 ^ σ.n) T, 2 ^ σ.n, false⟩)] /\ (∀ j, j < s -> T j = σ.some_ f j) /\ (∀ j, s < j -> T j = false) /\ T s = lr i fun x => f s (σ.at_ s x))
  ⟨rfl, T, K1, hT1, fun j hj => hT2 j (by omega), by rw [hT2 s (Nat.le_refl _)]; rfl⟩ ?_
 clear K1 hT1 hT2 T h1
 rintro i _ h1 next2 hi ⟨rfl, T, K1, hT1, hT2, hT3⟩ hnx2
 refine ⟨_, _, _, _, arr b10 _, _, _, _, _, _, rfl, ?_⟩
 by_cases hli : i < 2 ^ σ.k
 rotate_left
 ·refine ak (by rw [decide_eq_false_iff_not]; omega) ?_
  have hie : i = 2 ^ σ.k := by omega
  rw [az (by omega)]
  refine hnx hlt _ _ ⟨rfl, T, K1, fun j hj => ?_, fun j hj => hT2 j (by omega)⟩
  by_cases e : j = s
  ·rw [e, hT3, hie]; rfl
  ·exact hT1 j (by omega)
 refine aH (by rw [decide_eq_true_eq]; exact_mod_cast hli) ?_
 have upd : ∀ v, v = lr (i + 1) (fun x => f s (σ.at_ s x)) -> ∀ h', Kn h h' [(b10, .inl ⟨(tb (2 ^ σ.n) T).set s (.bool v), 2 ^ σ.n, false⟩)] ->
   next2 [.pointer (some ⟨b, 0, none⟩), .func (.func fid) u w, (arr b10 (2 ^ σ.n)).v, I s, I (2 ^ σ.n : Nat), I s, I (2 ^ σ.k : Nat), I (W ((i : Int) + 1))] h' := by
  intro v hv h' K
  rw [az (by omega)]
  rw [iL] at K
  exact hnx2 hli _ _ ⟨rfl, _, K, fun j hj => by rw [if_neg (by omega)]; exact hT1 j hj, fun j hj => by rw [if_neg (by omega)]; exact hT2 j hj, by rw [if_pos rfl]; exact hv⟩
 refine ⟨b10, 0, rfl, by omega, by dsimp only; omega, ?_⟩
 refine Kn.rd K1 (.head _) (x := T s) (by rw [Nat.zero_add, Nat.mul_one, Int.toNat_natCast]; exact jC hlt) ?_
 refine ad (fun e => ?_) (fun e => ?_)
 ·refine ⟨b10, 0, rfl, by omega, by dsimp only; omega, ?_⟩
  (((with_reducible apply Kn.wr); (assumption); ((focus ((repeat first | exact .head | apply Upd.tail); done)))))
  ·rw [eV]; omega
  intro h2 K2 _
  rw [bk, Nat.zero_add, Int.toNat_natCast, Nat.mul_one] at K2
  exact upd true (by rw [FP, <- hT3, e]; rfl) h2 K2
 ·refine Bx (hs.mono K1.le) ok hlt hli ⟨_, rfl, ?_⟩
  refine hf s i hlt hli h1 K1.le _ ⟨_, rfl, ?_⟩
  refine ⟨b10, 0, rfl, by omega, by dsimp only; omega, ?_⟩
  (((with_reducible apply Kn.wr); (assumption); ((focus ((repeat first | exact .head | apply Upd.tail); done)))))
  ·rw [eV]; omega
  intro h2 K2 _
  rw [bk, Nat.zero_add, Int.toNat_natCast, Nat.mul_one] at K2
  exact upd _ (by rw [FP, <- hT3, e]; rfl) h2 K2
theorem Gx {h : Hp} {b : Nat} {s2 : Sl} {σ : ar} {S p : Nat -> Bool} {fid : FuncId} {u w : Array Value} {R : Value -> Hp -> Prop} (hs : jP h b σ) (ok : σ.Ok) (hS : cy h s2 (2 ^ σ.n) S)
  (hp : zD h fid u w (2 ^ (σ.n + σ.k)) p)
  (k : ∀ b' T h', Kn h h' [(b', .inl ⟨tb (2 ^ σ.n) T, 2 ^ σ.n, false⟩)] -> (∀ j, j < 2 ^ σ.n -> T j = σ.fwd p S j) -> R (arr b' (2 ^ σ.n)).v h') :
  iO #[.pointer (some ⟨b, 0, none⟩), s2.v, .func (.func fid) u w] h R := by
 apply sT
 refine uf_ ?_
 have hn := dA ok
 have hk := y4 ok
 have h8 := ok.nle
 have h5 := ok.kle
 have hl := hS.len
 obtain ⟨M, st, hold, bad, next, fx, _, _, hnt⟩ := id hs
 have K0 := Kn.nil h
 rw [hl]
 refine ⟨Int.natCast_nonneg _, Int.le_refl _, by omega, by omega, ?_⟩
 (with_reducible apply Kn.al); (assumption); (intro b8 h1 K1 l1 hb8)
 rw [Int.toNat_natCast, Nat.mul_one, bM, hE] at K1
 rw [Int.toNat_natCast]
 refine aq (2 ^ σ.n) (fun s vs h' => vs = [.pointer (some ⟨b, 0, none⟩), s2.v, .func (.func fid) u w, (arr b8 (2 ^ σ.n)).v, s2.v, I (2 ^ σ.n : Nat), I s] /\
  ∃ T, Kn h h' [(b8, .inl ⟨tb (2 ^ σ.n) T, 2 ^ σ.n, false⟩)] /\ ∀ x, T x = true ↔ ∃ s' i', s' < s /\ i' < 2 ^ σ.k /\ S s' = true /\ p (σ.at_ s' i') = true /\ σ.next (σ.at_ s' i') = x)
  ⟨rfl, _, K1, fun x => ⟨fun e => by simp at e, fun ⟨s', i', e, _⟩ => by omega⟩⟩ ?_
 clear K1 K0 l1 hb8 h1
 rintro s _ h1 nxt hs' ⟨rfl, T, K1, hT⟩ hnx
 refine ⟨_, s2, _, _, _, arr b8 _, s2, _, _, rfl, ?_⟩
 by_cases hlt : s < 2 ^ σ.n
 rotate_left
 ·refine ak (by rw [decide_eq_false_iff_not]; omega) ?_
  have hse : s = 2 ^ σ.n := by omega
  rw [hl]
  refine ⟨Int.natCast_nonneg _, Int.le_refl _, by omega, by omega, ?_⟩
  (with_reducible apply Kn.al); (assumption); (intro b84 h2 K2 l2 hb84)
  rw [Int.toNat_natCast, Nat.mul_one, bM, hE] at K2
  rw [Int.toNat_natCast]
  refine aq (2 ^ σ.n) (fun t vs h' => vs = [.pointer (some ⟨b, 0, none⟩), (arr b8 (2 ^ σ.n)).v, (arr b84 (2 ^ σ.n)).v, I (2 ^ σ.n : Nat), I t] /\
   ∃ U, Kn h h' [(b84, .inl ⟨tb (2 ^ σ.n) U, 2 ^ σ.n, false⟩), (b8, .inl ⟨tb (2 ^ σ.n) T, 2 ^ σ.n, false⟩)] /\ ∀ j, j < t -> U j = σ.fwd p S j)
   ⟨rfl, _, K2, fun j hj => by omega⟩ ?_
  clear K2 l2 hb84 h2
  rintro t _ h2 nxt2 ht ⟨rfl, U, K2, hU⟩ hnx2
  refine ⟨_, arr b8 _, arr b84 _, _, _, rfl, ?_⟩
  by_cases hlt2 : t < 2 ^ σ.n
  rotate_left
  ·refine ak (by rw [decide_eq_false_iff_not]; omega) ?_
   exact k b84 U h2 (K2.sub (fun e he => by rw [List.mem_singleton] at he; subst he; exact .head _) (by simp)) fun j hj => hU j (by omega)
  refine aH (by rw [decide_eq_true_eq]; exact_mod_cast hlt2) ?_
  refine cB ?_
  (refine kr_ ?_)
  have hfx := ok.fixed
  rw [pc (by omega) (by omega)]
  have hle : t &&& σ.fixed <= t := Nat.and_le_left
  refine ⟨b8, 0, rfl, by omega, by dsimp only; omega, ?_⟩
  refine Kn.rd K2 (.tail _ (.head _)) (x := T (t &&& σ.fixed)) (by rw [Nat.zero_add, Nat.mul_one, Int.toNat_natCast]; exact jC (by omega)) ?_
  refine ⟨b84, 0, rfl, by omega, by dsimp only; omega, ?_⟩
  (((with_reducible apply Kn.wr); (assumption); ((focus ((repeat first | exact .head | apply Upd.tail); done)))))
  ·rw [eV]; omega
  intro h3 K3 _
  rw [bk, Nat.zero_add, Int.toNat_natCast, Nat.mul_one, iL] at K3
  rw [az (by omega)]
  refine hnx2 hlt2 _ _ ⟨rfl, _, K3, fun j hj => ?_⟩
  by_cases e : j = t
  ·subst e
   rw [if_pos rfl, Bool.eq_iff_iff, hT, ar.fwd_iff]
   constructor
   ·rintro ⟨s', i', q1, q2, q3, q4, q5⟩
    exact ⟨s', i', by omega, q2, q3, q4, by unfold ar.goes; rw [decide_eq_true_eq]; exact q5.symm⟩
   ·rintro ⟨s', i', q1, q2, q3, q4, q5⟩
    unfold ar.goes at q5
    rw [decide_eq_true_eq] at q5
    exact ⟨s', i', by omega, q2, q3, q4, q5.symm⟩
  ·rw [if_neg e]; exact hU j (by omega)
 refine aH (by rw [decide_eq_true_eq]; exact_mod_cast hlt) ?_
 obtain ⟨bS, oS, ha, hlt', hc⟩ := (hS.mono K1.le).get hlt
 refine ⟨bS, oS, ha, by omega, hlt', _, hc, ?_⟩
 refine cB ?_
 (refine kr_ ?_)
 rw [if_neg (by omega), cu (by omega)]
 refine aq (2 ^ σ.k) (fun i vs h' => vs = [.pointer (some ⟨b, 0, none⟩), s2.v, .func (.func fid) u w, (arr b8 (2 ^ σ.n)).v, I s, .bool (S s), s2.v, I (2 ^ σ.n : Nat), I s, I (2 ^ σ.k : Nat), I i] /\
  ∃ T, Kn h h' [(b8, .inl ⟨tb (2 ^ σ.n) T, 2 ^ σ.n, false⟩)] /\ ∀ x, T x = true ↔ ∃ s' i', (s' < s \/ s' = s /\ i' < i) /\ i' < 2 ^ σ.k /\ S s' = true /\ p (σ.at_ s' i') = true /\ σ.next (σ.at_ s' i') = x)
  ⟨rfl, T, K1, fun x => ?_⟩ ?_
 ·rw [hT]
  constructor
  ·rintro ⟨s', i', q1, q⟩; exact ⟨s', i', .inl q1, q⟩
  ·rintro ⟨s', i', q1, q⟩; exact ⟨s', i', by omega, q⟩
 clear K1 hT T h1 hc hlt' ha bS oS
 rintro i _ h1 nxt2 hi ⟨rfl, T, K1, hT⟩ hnx2
 refine ⟨_, s2, _, _, _, arr b8 _, _, _, s2, _, _, _, _, rfl, ?_⟩
 by_cases hli : i < 2 ^ σ.k
 rotate_left
 ·refine ak (by rw [decide_eq_false_iff_not]; omega) ?_
  rw [az (by omega)]
  refine hnx hlt _ _ ⟨rfl, T, K1, fun x => ?_⟩
  rw [hT]
  constructor
  ·rintro ⟨s', i', q1, q⟩; exact ⟨s', i', by omega, q⟩
  ·rintro ⟨s', i', q1, q2, q⟩; exact ⟨s', i', by omega, q2, q⟩
 refine aH (by rw [decide_eq_true_eq]; exact_mod_cast hli) ?_
 have fin : ∀ T' h', Kn h h' [(b8, .inl ⟨tb (2 ^ σ.n) T', 2 ^ σ.n, false⟩)] -> (∀ x, T' x = true ↔ T x = true \/ (S s = true /\ p (σ.at_ s i) = true /\ σ.next (σ.at_ s i) = x)) ->
   nxt2 [.pointer (some ⟨b, 0, none⟩), s2.v, .func (.func fid) u w, (arr b8 (2 ^ σ.n)).v, I s, .bool (S s), s2.v, I (2 ^ σ.n : Nat), I s, I (2 ^ σ.k : Nat), I (W ((i : Int) + 1))] h' := by
  intro T' h' K hx
  rw [az (by omega)]
  refine hnx2 hli _ _ ⟨rfl, T', K, fun x => ?_⟩
  rw [hx, hT]
  constructor
  ·rintro (⟨s', i', q1, q⟩ | ⟨q1, q2, q3⟩)
   ·exact ⟨s', i', by omega, q⟩
   ·exact ⟨s, i, by omega, hli, q1, q2, q3⟩
  ·rintro ⟨s', i', q1, q2, q3, q4, q5⟩
   by_cases e : s' = s /\ i' = i
   ·obtain ⟨rfl, rfl⟩ := e
    exact .inr ⟨q3, q4, q5⟩
   ·exact .inl ⟨s', i', by omega, q2, q3, q4, q5⟩
 rw [dg]
 refine Bx (hs.mono K1.le) ok hlt hli ⟨_, rfl, ?_⟩
 rw [dg]
 have hc := ar.at_lt hlt hli
 refine ad (fun e => ?_) (fun e => ?_)
 ·refine hp _ hc h1 K1.le _ ⟨_, rfl, ?_⟩
  refine ad (fun e2 => ?_) (fun e2 => ?_)
  ·refine cB ?_
   (refine kr_ ?_)
   obtain ⟨bx, ox, hax, hx1, hx2⟩ := (hnt.mono K1.le).get hc
   refine ⟨bx, ox, hax, by omega, hx1, _, hx2, ?_⟩
   have hnl := ok.next _ hc
   refine ⟨b8, 0, rfl, by omega, by dsimp only; omega, ?_⟩
   (((with_reducible apply Kn.wr); (assumption); ((focus ((repeat first | exact .head | apply Upd.tail); done)))))
   ·rw [eV]; omega
   intro h2 K2 _
   rw [bk, Nat.zero_add, Int.toNat_natCast, Nat.mul_one, iL] at K2
   refine fin _ h2 K2 fun x => ?_
   by_cases ex : x = σ.next (σ.at_ s i)
   ·rw [if_pos ex]; exact ⟨fun _ => .inr ⟨e, e2, ex.symm⟩, fun _ => rfl⟩
   ·rw [if_neg ex]
    exact ⟨fun q => .inl q, fun q => q.resolve_right fun q => ex q.2.2.symm⟩
  ·exact fin T h1 K1 fun x => ⟨fun q => .inl q, fun q => q.resolve_right fun q => by rw [q.2.1] at e2; cases e2⟩
 ·refine ak rfl ?_
  exact fin T h1 K1 fun x => ⟨fun q => .inl q, fun q => q.resolve_right fun q => by rw [q.1] at e; cases e⟩
theorem Jy {h : Hp} {s : Sl} {N : Nat} {T : Nat -> Bool} {R : Value -> Hp -> Prop} (hT : cy h s N T) (hN : N <= 1048576) (k1 : ∀ i : Nat, i < N -> T i = true -> R (I i) h) (k2 : lr N T = false -> R (I (-1)) h) :
  fR #[s.v, .bool true] h R := by
 apply pH
 refine uf_ ?_
 have hl := hT.len
 rw [hl]
 refine aq N (fun i vs h' => vs = [s.v, .bool true, I N, I i] /\ h' = h /\ ∀ j, j < i -> T j = false) ⟨rfl, rfl, fun j hj => by omega⟩ ?_
 rintro i _ _ next hi ⟨rfl, rfl, hj⟩ hnx
 refine ⟨s, _, _, _, rfl, ?_⟩
 by_cases hlt : i < N
 ·refine aH (by rw [decide_eq_true_eq]; exact_mod_cast hlt) ?_
  obtain ⟨b, o, ha, h1, h2⟩ := hT.get hlt
  refine ⟨b, o, ha, by omega, h1, _, h2, ?_⟩
  refine ad (fun e => ?_) (fun e => ?_)
  ·exact k1 i hlt (by simpa using e)
  ·rw [az (by omega)]
   refine hnx hlt _ _ ⟨rfl, rfl, fun j hji => ?_⟩
   by_cases eq : j = i
   ·rw [eq]; simpa using e
   ·exact hj j (by omega)
 ·exact ak (by rw [decide_eq_false_iff_not]; omega) (k2 (mv.2 fun j hjn => hj j (by omega)))
theorem vw {h : Hp} {s : Sl} {N : Nat} {T : Nat -> Bool} {R : Value -> Hp -> Prop} (hT : cy h s N T) (hN : N <= 1048576) (k : R (.bool (lr N T)) h) :
  dW #[s.v, .bool true] h R := by
 apply m8
 refine uf_ ?_
 refine Jy hT hN (fun i hi e => ⟨_, rfl, ?_⟩) fun e => ⟨_, rfl, ?_⟩
 ·refine dl ?_ k
  rw [cd.2 ⟨i, hi, e⟩, decide_eq_true_eq]; omega
 ·refine dl ?_ k
  rw [e]; rfl
def xC (h : Hp) (s : Sl) (n m : Nat) (L : Nat -> Nat -> Bool) : Prop := ∃ ts : List Sl, ts.length = m /\ SlC h s 1 (ts.map Sl.v) /\ ∀ (j : Nat) (t : Sl), ts[j]? = some t -> cy h t n (L j)
theorem xC.mono {h h' : Hp} {s : Sl} {n m : Nat} {L : Nat -> Nat -> Bool} (l : h.le h') (e : xC h s n m L) : xC h' s n m L := by
 obtain ⟨ts, e1, e2, e3⟩ := e
 exact ⟨ts, e1, e2.mono l, fun j t ht => (e3 j t ht).mono l⟩
theorem xC.len {h : Hp} {s : Sl} {n m : Nat} {L : Nat -> Nat -> Bool} (e : xC h s n m L) : s.n = m := by
 obtain ⟨ts, e1, e2, _⟩ := e
 have := e2.2.1
 simp at this; omega
theorem xC.get {h : Hp} {s : Sl} {n m i : Nat} {L : Nat -> Nat -> Bool} (e : xC h s n m L) (hi : i < m) :
  ∃ b o t, s.a = some (Addr.mk b o none) /\ (i : Int) < (s.n : Int) /\ Hp.cell h b (o + Int.toNat (i : Int) * 1) = some (Sl.v t) /\ cy h t n (L i) := by
 have hl := e.len
 obtain ⟨ts, e1, e2, e3⟩ := e
 obtain ⟨t, ht⟩ : ∃ t, ts[i]? = some t := ⟨_, List.getElem?_eq_getElem (by omega)⟩
 obtain ⟨b, o, ha, hc⟩ := SlC.get e2 (by omega)
 refine ⟨b, o, t, ha, by omega, ?_, e3 i t ht⟩
 rw [Int.toNat_natCast, Nat.mul_one]
 exact hc i _ (by simp [ht])
theorem ji {h : Hp} {b : Nat} {σ : ar} {R : Value -> Hp -> Prop} (hs : jP h b σ) (ok : σ.Ok)
  (k : ∀ s h', h.le h' -> xC h' s (2 ^ σ.n) σ.nLay σ.front -> R (Sl.v s) h') : cM #[.pointer (some ⟨b, 0, none⟩)] h R := by
 apply tY
 refine uf_ ?_
 have hn := dA ok
 have h8 := ok.nle
 obtain ⟨M, st, hold, bad, next, fx, _⟩ := id hs
 have K0 := Kn.nil h
 refine cB ?_
 (refine kr_ ?_)
 rw [if_neg (by omega), cu (by omega)]
 refine ⟨Int.natCast_nonneg _, Int.le_refl _, by omega, by omega, ?_⟩
 (with_reducible apply Kn.al); (assumption); (intro b7 h1 K1 l1 hb7)
 rw [Int.toNat_natCast, Nat.mul_one, bM, hE] at K1
 refine cB ?_
 (refine kr_ ?_)
 rw [if_neg (by omega), cu (by omega)]
 refine ⟨Int.natCast_nonneg _, Int.le_refl _, by omega, by omega, ?_⟩
 (with_reducible apply Kn.al); (assumption); (intro b13 h2 K2 l2 hb13)
 rw [Int.toNat_natCast, Nat.mul_one, bM, hE] at K2
 rw [Int.toNat_natCast]
 refine aq (2 ^ σ.n) (fun i vs h' => vs = [.pointer (some ⟨b, 0, none⟩), (arr b7 (2 ^ σ.n)).v, (arr b13 (2 ^ σ.n)).v, I (2 ^ σ.n : Nat), I i] /\
  ∃ U, Kn h h' [(b13, .inl ⟨tb (2 ^ σ.n) U, 2 ^ σ.n, false⟩), (b7, .inl ⟨tb (2 ^ σ.n) fun _ => false, 2 ^ σ.n, false⟩)] /\ ∀ j, j < i -> U j = σ.begins j)
  ⟨rfl, _, K2, fun j hj => by omega⟩ ?_
 clear K2 K1 K0 l1 l2 hb7 hb13 h1 h2
 rintro i _ h1 nxt hi ⟨rfl, U, K1, hU⟩ hnx
 refine ⟨_, arr b7 _, arr b13 _, _, _, rfl, ?_⟩
 by_cases hlt : i < 2 ^ σ.n
 ·refine aH (by rw [decide_eq_true_eq]; exact_mod_cast hlt) ?_
  refine uc (hs.mono K1.le) ok hlt ⟨_, rfl, ?_⟩
  refine ⟨b13, 0, rfl, by omega, by dsimp only; omega, ?_⟩
  (((with_reducible apply Kn.wr); (assumption); ((focus ((repeat first | exact .head | apply Upd.tail); done)))))
  ·rw [eV]; omega
  intro h2 K2 _
  rw [bk, Nat.zero_add, Int.toNat_natCast, Nat.mul_one, iL] at K2
  rw [az (by omega)]
  refine hnx hlt _ _ ⟨rfl, _, K2, fun j hj => ?_⟩
  by_cases e : j = i
  ·rw [if_pos e, e]
  ·rw [if_neg e]; exact hU j (by omega)
 refine ak (by rw [decide_eq_false_iff_not]; omega) ?_
 replace hU : ∀ j, j < 2 ^ σ.n -> U j = σ.front 0 j := fun j hj => hU j (by omega)
 clear hnx hi hlt
 refine aq (2 ^ σ.n) (fun i vs h' => ∃ (out : Sl) (g : Hp) (bF : Nat) (F V : Nat -> Bool) (ts : List Sl), vs = [.pointer (some ⟨b, 0, none⟩), (arr b7 (2 ^ σ.n)).v, (arr bF (2 ^ σ.n)).v, out.v] /\
  h.le g /\ Kn g (h'.offS out) [(bF, .inl ⟨tb (2 ^ σ.n) F, 2 ^ σ.n, false⟩), (b7, .inl ⟨tb (2 ^ σ.n) V, 2 ^ σ.n, false⟩)] /\ Buf h' out 1 (ts.map Sl.v) /\ ts.length = i /\
  (∀ (j : Nat) (t : Sl), ts[j]? = some t -> cy g t (2 ^ σ.n) (σ.front j)) /\ (∀ j, j < 2 ^ σ.n -> F j = σ.front i j) /\ (∀ j, j < 2 ^ σ.n -> V j = σ.seen i j) /\ ∀ j, j < i -> σ.live j = true)
  ⟨⟨none, 0, 0⟩, h, b13, U, _, [], rfl, Hp.le_refl _, K1, en _ _, rfl, fun j t ht => by simp at ht, hU, fun _ _ => rfl, fun j hj => by omega⟩ ?_
 clear K1 hU U h1 b13
 rintro i _ h1 nxt hi ⟨out, g, bF, F, V, ts, rfl, lg, K1, hB, htl, ht, hF, hV, hlive⟩ hnx
 refine ⟨_, arr b7 _, arr bF _, out, rfl, ?_⟩
 have K1' := K1.mono (aO h1 out)
 have hbF : cy h1 (arr bF (2 ^ σ.n)) (2 ^ σ.n) (σ.front i) := gu (by omega) (K1'.at (.head _)) hF
 have hon := hB.1
 rw [List.length_map, Nat.mul_one] at hon
 refine vw hbF (by omega) ⟨_, rfl, ?_⟩
 refine ad (fun e => ?_) (fun e => ?_)
 rotate_left
 ·have hnl : σ.nLay = i := ar.nLay_of hlive e
  exact k out h1 (Hp.le_trans lg K1'.le) ⟨ts, by omega, hB.slc_of (by omega), fun j t hj => (ht j t hj).mono K1'.le⟩
 have hlive' : ∀ j, j < i + 1 -> σ.live j = true := fun j hj => by
  by_cases e2 : j = i
  ·rw [e2]; exact e
  ·exact hlive j (by omega)
 have hlt : i < 2 ^ σ.n := ar.live_le hlive'
 refine ae fun b55 h2 hb55 l2 f55 => ?_
 refine db (hB.mono l2) (by omega) (by omega) (by omega) ⟨b55, 0, rfl, ax f55⟩ (by simp) rfl ?_
 intro s' h3 hs'n hB' l3 _
 have K2 := K1.mono (Hp.le_trans (bJ out l2) l3)
 obtain ⟨K3, K4⟩ := Kn.split (A := [(bF, .inl ⟨tb (2 ^ σ.n) F, 2 ^ σ.n, false⟩)]) (B := [(b7, .inl ⟨tb (2 ^ σ.n) V, 2 ^ σ.n, false⟩)]) K2
 have lg1 := K4.le
 have fF := K4.at (.head _)
 generalize (h3.offS s').wo (([(b7, .inl ⟨tb (2 ^ σ.n) V, 2 ^ σ.n, false⟩)] : List (Nat × Blk)).map Prod.fst) = g1 at *
 have lh := Hp.le_trans lg lg1
 have lh3 := Hp.le_trans lh (Hp.le_trans K3.le (aO h3 s'))
 have tF : cy g1 (arr bF (2 ^ σ.n)) (2 ^ σ.n) (σ.front i) := gu (by omega) fF hF
 refine Gx (hs.mono lh3) ok (tF.mono (Hp.le_trans K3.le (aO h3 s'))) (fun c hc h' l R kk => GN ((hs.mono lh3).mono l) hc kk) fun bN T h4 K5 hT => ⟨_, rfl, ?_⟩
 have hbN : h3 bN = none := K5.new _ (.head _)
 have K6 := K3.cons (b := bN) (aw (aO h3 s') hbN) (bJ s' K5.le) (hB'.offS_new hbN (K5.at (.head _)))
 have hB4 := hB'.mono K5.le
 refine aq (2 ^ σ.n) (fun x vs h' => vs = [.pointer (some ⟨b, 0, none⟩), (arr b7 (2 ^ σ.n)).v, (arr bF (2 ^ σ.n)).v, s'.v, (arr bN (2 ^ σ.n)).v, I (2 ^ σ.n : Nat), I x] /\
  ∃ T V, Kn g1 (h'.offS s') [(bN, .inl ⟨tb (2 ^ σ.n) T, 2 ^ σ.n, false⟩), (b7, .inl ⟨tb (2 ^ σ.n) V, 2 ^ σ.n, false⟩)] /\ Buf h' s' 1 (ts.map Sl.v ++ [(arr bF (2 ^ σ.n)).v]) /\
   (∀ j, j < 2 ^ σ.n -> T j = if j < x then σ.front (i + 1) j else σ.fwd σ.hold (σ.front i) j) /\ ∀ j, j < 2 ^ σ.n -> V j = if j < x then σ.seen (i + 1) j else σ.seen i j)
  ⟨rfl, T, V, K6, hB4, fun j hj => by rw [if_neg (by omega)]; exact hT j hj, fun j hj => by rw [if_neg (by omega)]; exact hV j hj⟩ ?_
 clear K6 hB4 hT hV K5
 rintro x _ h5 nxt2 hx ⟨rfl, T, V, K, B, hT, hV⟩ hnx2
 refine ⟨_, arr b7 _, arr bF _, s', arr bN _, _, _, rfl, ?_⟩
 by_cases hlx : x < 2 ^ σ.n
 rotate_left
 ·refine ak (by rw [decide_eq_false_iff_not]; omega) ?_
  refine hnx hlt _ _ ⟨s', g1, bN, T, V, ts ++ [arr bF (2 ^ σ.n)], rfl, lh, K, by rw [List.map_append]; exact B, by simp [htl], fun j t hj => ?_, fun j hj => by rw [hT j hj, if_pos (by omega)],
   fun j hj => by rw [hV j hj, if_pos (by omega)], hlive'⟩
  by_cases hji : j < i
  ·rw [List.getElem?_append_left (by omega)] at hj
   exact (ht j t hj).mono lg1
  ·have hj2 := get_lt hj
   simp at hj2
   rw [List.getElem?_append_right (by omega), show j - ts.length = 0 by omega] at hj
   simp at hj; subst hj
   rw [show j = i by omega]; exact tF
 refine aH (by rw [decide_eq_true_eq]; exact_mod_cast hlx) ?_
 refine ap (fun J => ∀ h'' V', Kn g1 (h''.offS s') [(bN, .inl ⟨tb (2 ^ σ.n) T, 2 ^ σ.n, false⟩), (b7, .inl ⟨tb (2 ^ σ.n) V', 2 ^ σ.n, false⟩)] -> Buf h'' s' 1 (ts.map Sl.v ++ [(arr bF (2 ^ σ.n)).v]) ->
  (∀ j, j < 2 ^ σ.n -> V' j = if j < x + 1 then σ.seen (i + 1) j else σ.seen i j) -> J h'') (fun h6 V' K6 B6 hV6 => ?_) (fun J hJ => ?_)
 ·have hTx : T x = σ.fwd σ.hold (σ.front i) x := by rw [hT x hlx, if_neg (by omega)]
  have hVx : V' x = σ.seen (i + 1) x := by rw [hV6 x hlx, if_pos (by omega)]
  have fin : ∀ v h7, v = σ.front (i + 1) x -> Kn g1 (h7.offS s') [(bN, .inl ⟨(tb (2 ^ σ.n) T).set x (.bool v), 2 ^ σ.n, false⟩), (b7, .inl ⟨tb (2 ^ σ.n) V', 2 ^ σ.n, false⟩)] -> Buf h7 s' 1 (ts.map Sl.v ++ [(arr bF (2 ^ σ.n)).v]) ->
    nxt2 [.pointer (some ⟨b, 0, none⟩), (arr b7 (2 ^ σ.n)).v, (arr bF (2 ^ σ.n)).v, s'.v, (arr bN (2 ^ σ.n)).v, I (2 ^ σ.n : Nat), I (W ((x : Int) + 1))] h7 := by
   intro v h7 hv K7 B7
   rw [az (by omega)]
   rw [iL] at K7
   refine hnx2 hlx _ _ ⟨rfl, _, V', K7, B7, fun j hj => ?_, hV6⟩
   by_cases e2 : j = x
   ·rw [if_pos e2, if_pos (by omega), e2]; exact hv
   ·rw [if_neg e2, hT j hj]
    by_cases e3 : j < x
    ·rw [if_pos e3, if_pos (by omega)]
    ·rw [if_neg e3, if_neg (by omega)]
  have K6' := K6.mono (aO h6 s')
  refine ⟨bN, 0, rfl, by omega, by dsimp only; omega, ?_⟩
  refine Kn.rd K6' (.head _) (x := T x) (by rw [Nat.zero_add, Nat.mul_one, Int.toNat_natCast]; exact jC hlx) ?_
  refine ad (fun e2 => ?_) (fun e2 => ?_)
  ·refine ⟨b7, 0, rfl, by omega, by dsimp only; omega, ?_⟩
   refine Kn.rd K6' (.tail _ (.head _)) (x := V' x) (by rw [Nat.zero_add, Nat.mul_one, Int.toNat_natCast]; exact jC hlx) ?_
   refine ⟨bN, 0, rfl, by omega, by dsimp only; omega, ?_⟩
   (with_reducible apply Kn.wrS); (exact K6); ((focus ((repeat first | exact .head | apply Upd.tail); done)))
   ·rw [eV]; omega
   intro h7 K7 B7 _
   rw [bk, Nat.zero_add, Int.toNat_natCast, Nat.mul_one] at K7
   exact fin _ h7 (by rw [ar.front_succ, <- hTx, e2, hVx]; rfl) K7 (B7 _ _ B6)
  ·refine ⟨bN, 0, rfl, by omega, by dsimp only; omega, ?_⟩
   (with_reducible apply Kn.wrS); (exact K6); ((focus ((repeat first | exact .head | apply Upd.tail); done)))
   ·rw [eV]; omega
   intro h7 K7 B7 _
   rw [bk, Nat.zero_add, Int.toNat_natCast, Nat.mul_one] at K7
   exact fin _ h7 (by rw [ar.front_succ, <- hTx, e2]; rfl) K7 (B7 _ _ B6)
 ·have hVx : V x = σ.seen i x := by rw [hV x hlx, if_neg (by omega)]
  have fin : ∀ v h7, v = σ.seen (i + 1) x -> Kn g1 (h7.offS s') [(bN, .inl ⟨tb (2 ^ σ.n) T, 2 ^ σ.n, false⟩), (b7, .inl ⟨(tb (2 ^ σ.n) V).set x (.bool v), 2 ^ σ.n, false⟩)] -> Buf h7 s' 1 (ts.map Sl.v ++ [(arr bF (2 ^ σ.n)).v]) -> J h7 := by
   intro v h7 hv K7 B7
   rw [iL] at K7
   refine hJ h7 _ K7 B7 fun j hj => ?_
   by_cases e2 : j = x
   ·rw [if_pos e2, if_pos (by omega), e2]; exact hv
   ·rw [if_neg e2, hV j hj]
    by_cases e3 : j < x
    ·rw [if_pos e3, if_pos (by omega)]
    ·rw [if_neg e3, if_neg (by omega)]
  have K' := K.mono (aO h5 s')
  refine ⟨b7, 0, rfl, by omega, by dsimp only; omega, ?_⟩
  refine Kn.rd K' (.tail _ (.head _)) (x := V x) (by rw [Nat.zero_add, Nat.mul_one, Int.toNat_natCast]; exact jC hlx) ?_
  refine ad (fun e2 => ?_) (fun e2 => ?_)
  ·refine ⟨b7, 0, rfl, by omega, by dsimp only; omega, ?_⟩
   (with_reducible apply Kn.wrS); (exact K); ((focus ((repeat first | exact .head | apply Upd.tail); done)))
   ·rw [eV]; omega
   intro h7 K7 B7 _
   rw [bk, Nat.zero_add, Int.toNat_natCast, Nat.mul_one] at K7
   exact fin _ h7 (by rw [ar.seen_succ, <- hVx, e2]; rfl) K7 (B7 _ _ B)
  ·refine ⟨bF, 0, rfl, by omega, by dsimp only; omega, ?_⟩
   refine Kn.rg K' fF (x := F x) (by rw [Nat.zero_add, Nat.mul_one, Int.toNat_natCast]; exact jC hlx) ?_
   refine ⟨b7, 0, rfl, by omega, by dsimp only; omega, ?_⟩
   (with_reducible apply Kn.wrS); (exact K); ((focus ((repeat first | exact .head | apply Upd.tail); done)))
   ·rw [eV]; omega
   intro h7 K7 B7 _
   rw [bk, Nat.zero_add, Int.toNat_natCast, Nat.mul_one] at K7
   exact fin _ h7 (by rw [ar.seen_succ, <- hVx, e2, hF x hlx]; rfl) K7 (B7 _ _ B)
theorem D8 {h : Hp} {b4 b z s c : Nat} {σ : ar} {R : Value -> Hp -> Prop} (hs : jP h b σ) (f : h b4 = some (.inl ⟨[.pointer (some ⟨b, 0, none⟩)], z, false⟩)) (hc : c < 2 ^ (σ.n + σ.k)) (k : R (.bool (σ.ends c)) h) :
  lj #[I s, I c, .pointer (some ⟨b4, 0, none⟩)] h R := by
 apply ry
 refine uf_ ?_
 (refine am ?_)
 exact qZ hs hc ⟨_, rfl, k⟩
theorem pb {h : Hp} {b : Nat} {s2 : Sl} {σ : ar} {R : Value -> Hp -> Prop} (hs : jP h b σ) (ok : σ.Ok) (hL : xC h s2 (2 ^ σ.n) σ.nLay σ.front) (k : R (I σ.depthI) h) :
  dI #[.pointer (some ⟨b, 0, none⟩), s2.v] h R := by
 refine ACalls.drop (uT ?_)
 refine uf_ ?_
 have hn := dA ok
 have hnl := ar.nLay_le σ
 refine ae fun b4 h1 hb4 l1 f4 => ?_
 (refine am ?_)
 refine lR (hs.mono l1) ok (f := fun _ c => σ.ends c) (fun s i hs' hi h' l R kk => D8 ((hs.mono l1).mono l) (l _ _ f4) (ar.at_lt hs' hi) kk) fun t h2 l2 ht' => ⟨_, rfl, ?_⟩
 have ht := ht'.mono (sub_le h2 h1)
 have l02 := Hp.le_trans l1 l2
 have hL2 := hL.mono l02
 have hl := hL.len
 rw [hl]
 refine aq σ.nLay (fun i vs h' => vs = [t.v, s2.v, I σ.nLay, I i] /\ h2 = h' /\ ∀ j, j < i -> σ.hits j = false) ⟨rfl, rfl, fun j hj => by omega⟩ ?_
 rintro i _ _ nxt hi ⟨rfl, rfl, hno⟩ hnx
 refine ⟨t, s2, _, _, rfl, ?_⟩
 by_cases hlt : i < σ.nLay
 rotate_left
 ·refine ak (by rw [decide_eq_false_iff_not]; omega) ⟨h, l02, ?_⟩
  have : σ.depth = none := ar.find_none.2 fun j hj => hno j (by omega)
  unfold ar.depthI at k
  rw [this] at k; exact k
 refine aH (by rw [decide_eq_true_eq]; exact_mod_cast hlt) ?_
 obtain ⟨bl, ol, r, ha, h3, h4, hr⟩ := hL2.get hlt
 refine ⟨bl, ol, ha, by omega, h3, r, h4, ?_⟩
 have hrl := hr.len
 rw [hrl]
 refine aq (2 ^ σ.n) (fun j vs h' => vs = [t.v, I i, s2.v, I σ.nLay, I i, r.v, I (2 ^ σ.n : Nat), I j] /\ h2 = h' /\ ∀ x, x < j -> (σ.front i x && σ.endsAt x) = false) ⟨rfl, rfl, fun j hj => by omega⟩ ?_
 rintro j _ _ nxt2 hj ⟨rfl, rfl, hno2⟩ hnx2
 refine ⟨t, _, s2, _, _, r, _, _, rfl, ?_⟩
 by_cases hlj : j < 2 ^ σ.n
 rotate_left
 ·refine ak (by rw [decide_eq_false_iff_not]; omega) ?_
  rw [az (by omega)]
  refine hnx hlt _ _ ⟨rfl, rfl, fun x hx => ?_⟩
  by_cases e : x = i
  ·rw [e]; exact mv.2 fun y hy => hno2 y (by omega)
  ·exact hno x (by omega)
 refine aH (by rw [decide_eq_true_eq]; exact_mod_cast hlj) ?_
 have go : (σ.front i j && σ.endsAt j) = false -> nxt2 [t.v, I i, s2.v, I σ.nLay, I i, r.v, I (2 ^ σ.n : Nat), I (W ((j : Int) + 1))] h2 := fun e => by
  rw [az (by omega)]
  refine hnx2 hlj _ _ ⟨rfl, rfl, fun x hx => ?_⟩
  by_cases e2 : x = j
  ·rw [e2]; exact e
  ·exact hno2 x (by omega)
 obtain ⟨br, or, har, hr1, hr2⟩ := hr.get hlj
 refine ⟨br, or, har, by omega, hr1, _, hr2, ?_⟩
 refine ad (fun e => ?_) (fun e => ?_)
 ·obtain ⟨bt, ot, hat, ht1, ht2⟩ := ht.get hlj
  refine ⟨bt, ot, hat, by omega, ht1, _, ht2, ?_⟩
  have he : σ.some_ (fun _ c => σ.ends c) j = σ.endsAt j := rfl
  refine ad (fun e2 => ?_) (fun e2 => ?_)
  ·refine ⟨h, l02, ?_⟩
   have : σ.depth = some i := ar.depth_some.2 ⟨cd.2 ⟨j, hlj, by rw [e, <- he, e2]; rfl⟩, fun x hx => hno x hx⟩
   unfold ar.depthI at k
   rw [this] at k; exact k
  ·exact go (by rw [<- he, e2, Bool.and_false])
 ·exact go (by rw [e]; rfl)
def ez (X : List (Nat × Blk)) (s : Sl) (sz : Nat) (cs : List Value) : Prop :=
 cs.length = s.n * sz /\ s.n <= s.c /\ ((X = [] /\ s = ⟨none, 0, 0⟩ /\ cs = []) \/ ∃ b, s.a = some ⟨b, 0, none⟩ /\ X = [(b, .inl ⟨cs, s.c * sz, false⟩)])
theorem ff (sz : Nat) : ez [] ⟨none, 0, 0⟩ sz [] := ⟨by simp, Nat.le_refl _, .inl ⟨rfl, rfl, rfl⟩⟩
theorem ez.buf {X : List (Nat × Blk)} {h : Hp} {s : Sl} {sz : Nat} {cs : List Value} (o : ez X s sz cs) (m : ∀ e ∈ X, h e.1 = some e.2) : Buf h s sz cs := by
 refine ⟨o.1, o.2.1, ?_⟩
 rcases o.2.2 with ⟨_, rfl, _⟩ | ⟨b, ha, rfl⟩
 ·exact .inl ⟨rfl, rfl, rfl⟩
 ·exact .inr ⟨b, ha, m _ (.head _)⟩
theorem Kn.perm {g h : Hp} {L L' : List (Nat × Blk)} (K : Kn g h L) (p : L.Perm L') : Kn g h L' := K.sub (fun e he => p.mem_iff.2 he) ((p.map Prod.fst).nodup_iff.1 K.nd)
theorem Kn.grow {g h : Hp} {X L : List (Nat × Blk)} {s : Sl} {sz by_ m : Nat} {cs news : List Value} {src : Option Addr} {C : Option Addr -> Nat -> Nat -> Hp -> Prop}
  (K : Kn g h (X ++ L)) (o : ez X s sz cs) (hm : 0 < m) (hsz : (s.n + m) * by_ <= 140737488355328) (hsz' : s.n + m <= 9223372036854775807)
  (hs : ∃ sb so, src = some ⟨sb, so, none⟩ /\ iv h sb so news) (hl : news.length = m * sz) (ho : news.all (·.oneCell') = true)
  (k : ∀ s' X' h', s'.n = s.n + m -> ez X' s' sz (cs ++ news) -> Kn g h' (X' ++ L) -> (h.offS s).le h' -> C s'.a s'.n s'.c h') : dX h s.a s.n s.c src m sz by_ C := by
 refine db (o.buf fun e he => K.mem e (List.mem_append_left _ he)) hm hsz hsz' hs hl ho fun s' h' hn B l _ => ?_
 have nd := K.nd
 rw [List.map_append, List.nodup_append] at nd
 have base : g.le (h.offS s) /\ ∀ e ∈ L, (h.offS s) e.1 = some e.2 := by
  rcases o.2.2 with ⟨_, rfl, _⟩ | ⟨b, ha, rfl⟩
  ·exact ⟨K.le, fun e he => K.mem e (List.mem_append_right _ he)⟩
  ·unfold Hp.offS
   rw [ha]
   refine ⟨vX (K.new (b, _) (.head _)) K.le, fun e he => ?_⟩
   have hne : e.1 ≠ b := fun hb => nd.2.2 b (by simp) e.1 (List.mem_map.2 ⟨e, he, rfl⟩) hb.symm
   simp only [Hp.off, Hp.set]
   rw [if_neg hne]; exact K.mem e (List.mem_append_right _ he)
 rcases B.2.2 with ⟨_, h0, _⟩ | ⟨b, ha, hb⟩
 ·omega
 have hoff : (h'.offS s') b = none := by simp [Hp.offS, ha, Hp.off, Hp.set]
 refine k s' [(b, .inl ⟨cs ++ news, s'.c * sz, false⟩)] h' hn ⟨B.1, B.2.1, .inr ⟨b, ha, rfl⟩⟩ ?_ (Hp.le_trans l (aO h' s'))
 have lo := aO h' s'
 have hg : g b = none := by
  cases hgb : g b with
  | none => rfl
  | some x => rw [l _ _ (base.1 _ _ hgb)] at hoff; cases hoff
 refine ⟨Hp.le_trans base.1 (Hp.le_trans l lo), fun e he => ?_, fun e he => ?_, ?_⟩
 ·rcases List.mem_cons.1 he with rfl | he
  ·exact hb
  ·exact lo _ _ (l _ _ (base.2 e he))
 ·rcases List.mem_cons.1 he with rfl | he
  ·exact hg
  ·exact K.new e (List.mem_append_right _ he)
 ·show (b :: L.map Prod.fst).Nodup
  rw [List.nodup_cons]
  refine ⟨fun hm => ?_, nd.2.1⟩
  obtain ⟨e, he, heb⟩ := List.mem_map.1 hm
  have := l _ _ (base.2 e he)
  rw [heb, hoff] at this; cases this
theorem Kn.growIn {g h : Hp} {A X L : List (Nat × Blk)} {s : Sl} {sz by_ m : Nat} {cs news : List Value} {src : Option Addr} {C : Option Addr -> Nat -> Nat -> Hp -> Prop}
  (K : Kn g h (A ++ (X ++ L))) (o : ez X s sz cs) (hm : 0 < m) (hsz : (s.n + m) * by_ <= 140737488355328) (hsz' : s.n + m <= 9223372036854775807)
  (hs : ∃ sb so, src = some ⟨sb, so, none⟩ /\ iv h sb so news) (hl : news.length = m * sz) (ho : news.all (·.oneCell') = true)
  (k : ∀ s' X' h', s'.n = s.n + m -> ez X' s' sz (cs ++ news) -> Kn g h' (A ++ (X' ++ L)) -> (h.offS s).le h' -> C s'.a s'.n s'.c h') : dX h s.a s.n s.c src m sz by_ C := by
 have sw : ∀ Y : List (Nat × Blk), (A ++ (Y ++ L)).Perm (Y ++ (A ++ L)) := fun Y => by
  rw [<- List.append_assoc, <- List.append_assoc]
  exact List.perm_append_comm.append_right L
 exact Kn.grow (K.perm (sw X)) o hm hsz hsz' hs hl ho fun s' X' h' hn o' K' l => k s' X' h' hn o' (K'.perm (sw X').symm) l
theorem Kn.growIn2 {g h : Hp} {A Y X L : List (Nat × Blk)} {s : Sl} {sz by_ m : Nat} {cs news : List Value} {src : Option Addr} {C : Option Addr -> Nat -> Nat -> Hp -> Prop}
  (K : Kn g h (A ++ (Y ++ (X ++ L)))) (o : ez X s sz cs) (hm : 0 < m) (hsz : (s.n + m) * by_ <= 140737488355328) (hsz' : s.n + m <= 9223372036854775807)
  (hs : ∃ sb so, src = some ⟨sb, so, none⟩ /\ iv h sb so news) (hl : news.length = m * sz) (ho : news.all (·.oneCell') = true)
  (k : ∀ s' X' h', s'.n = s.n + m -> ez X' s' sz (cs ++ news) -> Kn g h' (A ++ (Y ++ (X' ++ L))) -> (h.offS s).le h' -> C s'.a s'.n s'.c h') : dX h s.a s.n s.c src m sz by_ C := by
 have sw : ∀ Z : List (Nat × Blk), (A ++ (Y ++ (Z ++ L))).Perm (A ++ (Z ++ (Y ++ L))) := fun Z => by
  refine List.Perm.append_left A ?_
  rw [<- List.append_assoc, <- List.append_assoc]
  exact List.perm_append_comm.append_right L
 exact Kn.growIn (K.perm (sw X)) o hm hsz hsz' hs hl ho fun s' X' h' hn o' K' l => k s' X' h' hn o' (K'.perm (sw X').symm) l
theorem Kn.growIn3 {g h : Hp} {A Y Z X L : List (Nat × Blk)} {s : Sl} {sz by_ m : Nat} {cs news : List Value} {src : Option Addr} {C : Option Addr -> Nat -> Nat -> Hp -> Prop}
  (K : Kn g h (A ++ (Y ++ (Z ++ (X ++ L))))) (o : ez X s sz cs) (hm : 0 < m) (hsz : (s.n + m) * by_ <= 140737488355328) (hsz' : s.n + m <= 9223372036854775807)
  (hs : ∃ sb so, src = some ⟨sb, so, none⟩ /\ iv h sb so news) (hl : news.length = m * sz) (ho : news.all (·.oneCell') = true)
  (k : ∀ s' X' h', s'.n = s.n + m -> ez X' s' sz (cs ++ news) -> Kn g h' (A ++ (Y ++ (Z ++ (X' ++ L)))) -> (h.offS s).le h' -> C s'.a s'.n s'.c h') : dX h s.a s.n s.c src m sz by_ C := by
 have sw : ∀ W : List (Nat × Blk), (A ++ (Y ++ (Z ++ (W ++ L)))).Perm (A ++ ((Y ++ Z) ++ (W ++ L))) := fun W => by rw [<- List.append_assoc Y Z]
 exact Kn.growIn2 (K.perm (sw X)) o hm hsz hsz' hs hl ho fun s' X' h' hn o' K' l => k s' X' h' hn o' (K'.perm (sw X').symm) l
theorem ez.slc {X A L : List (Nat × Blk)} {g h : Hp} {s : Sl} {sz : Nat} {cs : List Value} (o : ez X s sz cs) (K : Kn g h (A ++ (X ++ L))) (hn : s.n <= 9223372036854775807) : SlC h s sz cs :=
 (o.buf fun e he => K.mem e (List.mem_append_right _ (List.mem_append_left _ he))).slc_of hn
theorem jv.offG {X : List (Nat × Blk)} {h : Hp} {A s : Sl} {f : Nat -> Bool} {n : Nat} {vs : List (List Nat)} (e : jv h s vs) (o : ez X A 1 ((List.range n).map fun i => .bool (f i))) (m : ∀ e ∈ X, h e.1 = some e.2) : jv (h.offS A) s vs := by
 rcases o.2.2 with ⟨_, rfl, _⟩ | ⟨b, ha, rfl⟩
 ·exact e
 ·unfold Hp.offS
  rw [ha]
  refine e.keep (m _ (.head _)) (fun j i hj => ?_) (fun j t hj => ?_) fun c hc => by simp [Hp.off, Hp.set, hc]
  ·simp only [List.getElem?_map, Option.map_eq_some_iff] at hj
   obtain ⟨a, _, hj⟩ := hj
   cases hj
  ·simp only [List.getElem?_map, Option.map_eq_some_iff] at hj
   obtain ⟨a, _, hj⟩ := hj
   cases hj
theorem jv.keepB {h h' : Hp} {s : Sl} {b : Nat} {vs : List (List Nat)} (e : jv h s vs) (n : ∀ o, s.a ≠ some (Addr.mk b o none)) (kp : ∀ c, c ≠ b -> h' c = h c) (ki : ∀ o i, Hp.cell h b o = some (I i) -> Hp.cell h' b o = some (I i)) : jv h' s vs := by
 have hc : ∀ c o i, Hp.cell h c o = some (I i) -> Hp.cell h' c o = some (I i) := fun c o i hi => by
  by_cases e2 : c = b
  ·subst e2; exact ki o i hi
  ·unfold Hp.cell at hi ⊢; rw [kp c e2]; exact hi
 refine ⟨e.1, e.2.1, fun p hp => ?_⟩
 obtain ⟨b', o, t, h1, h2, h3⟩ := e.2.2 p hp
 refine ⟨b', o, t, h1, ?_, h3.1, h3.2.1, h3.2.2.imp id ?_⟩
 ·have hne : b' ≠ b := by rintro rfl; exact n o h1
  unfold Hp.cell at h2 ⊢; rw [kp b' hne]; exact h2
 ·rintro ⟨c, o', ha, hcs⟩
  refine ⟨c, o', ha, fun i v hv => ?_⟩
  have hvI := hv
  rw [List.getElem?_map, Option.map_eq_some_iff] at hvI
  obtain ⟨x, _, rfl⟩ := hvI
  exact hc _ _ _ (hcs i _ hv)
structure yx where
 hs : Sl
 es : Sl
 ns : Sl
 fs : Sl
 bs : Sl
abbrev uM (σ : ar) (q : yx) : List Value := [I (2 ^ σ.n : Nat), I (2 ^ σ.k : Nat), q.hs.v, q.es.v, q.ns.v, q.fs.v, q.bs.v]
abbrev A6 (σ : ar) (q : yx) : Value := .agg #[I (2 ^ σ.n : Nat), I (2 ^ σ.k : Nat), q.hs.v, q.es.v, q.ns.v, q.fs.v, q.bs.v]
def wC (h : Hp) (q : yx) (σ : ar) : Prop := cy h q.hs (2 ^ (σ.n + σ.k)) σ.hold /\ cy h q.es (2 ^ (σ.n + σ.k)) σ.ends /\ wq h q.ns (2 ^ (σ.n + σ.k)) σ.next /\
 (∃ fm, fm + σ.fixed = 2 ^ σ.n - 1 /\ IntS h q.fs (VL (df fm))) /\ cy h q.bs (2 ^ σ.n) σ.begins
theorem wC.mono {h h' : Hp} {q : yx} {σ : ar} (l : h.le h') (e : wC h q σ) : wC h' q σ := by
 obtain ⟨a, b, c, ⟨fm, d1, d2⟩, f⟩ := e
 exact ⟨a.mono l, b.mono l, c.mono l, ⟨fm, d1, d2.mono l⟩, f.mono l⟩
theorem oO {α : Type} (f : Nat -> α) (c : Nat) : (List.range (c + 1)).map f = (List.range c).map f ++ [f c] := by rw [List.range_succ, List.map_append]; rfl
theorem Kw {m : aj} (g : eZ m) : iT m + (aQ m).fixed = 2 ^ (aQ m).n - 1 := by
 have := PX m.nodes (fun p => (cm m.nexts p).isSome) (stP m)
 have e := hY g
 show iT m + Ku m m.nexts = 2 ^ av m.nodes 36 - 1
 rw [<- e, <- this, Nat.add_comm]; rfl
theorem jp {h : Hp} {M : MSl} {m : aj} {R : Value -> Hp -> Prop} (hs : aG h M m) (hm : bU m) (hc0 : aR m = 0)
  (k : ∀ q h', h.le h' -> wC h' q (aQ m) -> R (A6 (aQ m) q) h') : eo #[aM M] h R := by
 apply Gp
 refine uf_ ?_
 have g := gD hc0
 have hn8 := g.n8
 have hk5' := g.k5
 have ok := fT g
 have hp8 := dA ok
 have hk5 := y4 ok
 have hp13 := ky ok
 have hnk := ar.pow_nk (aQ m)
 have K0 := Kn.nil h
 (with_reducible apply Kn.al); (assumption); (intro b7 h1 K1 l1 hb7)
 (with_reducible apply Kn.al); (assumption); (intro b9 h2 K2 l2 hb9)
 clear K0 K1 l1 hb7
 repeat' (refine kr_ ?_)
 refine jd (hs.mono K2.le) hm ⟨_, rfl, ?_⟩
 repeat' (refine kr_ ?_)
 refine jd (hs.mono K2.le) hm ⟨_, rfl, ?_⟩
 rw [dk (by omega), dk (by omega), if_neg (by omega), if_neg (by omega), cu (by omega), cu (by omega), show av m.nodes 36 = (aQ m).n from rfl, show av m.nodes 35 = (aQ m).k from rfl]
 repeat' (refine kr_ ?_)
 refine F2 (hs.mono K2.le) hm g fun F h3 l3 hF => ⟨_, rfl, ?_⟩
 have hF' : IntS (h3.wo (([(b9, .inl ⟨[I 0, I 0, .slice none 0 0, .slice none 0 0, .slice none 0 0, .slice none 0 0, .slice none 0 0], 7, false⟩), (b7, .inl ⟨cl M, 5, false⟩)] : List (Nat × Blk)).map Prod.fst)) F (VL (df (iT m))) :=
  SlC.mono (nr (sub_le _ _) fun b hb => by
   cases hx : h2 b with
   | none => exact absurd hx (K2.has b hb)
   | some x => exact jS hx) hF
 have K3 := (K2.mono l3).base
 have lg := (K2.mono l3).leBase
 clear hF K2
 generalize h3.wo (([(b9, .inl ⟨[I 0, I 0, .slice none 0 0, .slice none 0 0, .slice none 0 0, .slice none 0 0, .slice none 0 0], 7, false⟩), (b7, .inl ⟨cl M, 5, false⟩)] : List (Nat × Blk)).map Prod.fst) = g3 at *
 have hs3 := hs.mono lg
 (with_reducible apply Kn.al); (assumption); (intro b38 h4 K4 l4 hb38)
 (((with_reducible apply Kn.wr); (assumption); ((focus ((repeat first | exact .head | apply Upd.tail); done)))))
 ·exact Nat.le_refl _
 intro h5 K5 kp5
 simp only [dZ, List.set_cons_zero, List.set_cons_succ, Nat.zero_add, Nat.reduceAdd] at K5
 clear kp5 K4 l4 hb38
 refine aq (2 ^ ((aQ m).n + (aQ m).k)) (fun c vs h' => ∃ (A B C : Sl) (XA XB XC : List (Nat × Blk)), vs = [.pointer (some ⟨b7, 0, none⟩), .pointer (some ⟨b9, 0, none⟩), .pointer (some ⟨b38, 0, none⟩), I c] /\
  Kn g3 h' ((b38, .inl ⟨[I (2 ^ (aQ m).n : Nat), I (2 ^ (aQ m).k : Nat), A.v, B.v, C.v, F.v, (⟨none, 0, 0⟩ : Sl).v], 7, false⟩) :: (b9, .inl ⟨[I 0, I 0, .slice none 0 0, .slice none 0 0, .slice none 0 0, .slice none 0 0, .slice none 0 0], 7, false⟩) :: (b7, .inl ⟨cl M, 5, false⟩) :: (XA ++ (XB ++ (XC ++ [])))) /\ ez XA A 1 ((List.range c).map fun i => .bool ((aQ m).hold i)) /\ ez XB B 1 ((List.range c).map fun i => .bool ((aQ m).ends i)) /\
   ez XC C 1 ((List.range c).map fun i => I ((aQ m).next i : Nat))) ⟨⟨none, 0, 0⟩, ⟨none, 0, 0⟩, ⟨none, 0, 0⟩, [], [], [], rfl, K5, ff _, ff _, ff _⟩ ?_
 clear K5 h5
 rintro c _ h5 nxt hc ⟨A, B, C, XA, XB, XC, rfl, K, oA, oB, oC⟩ hnx
 refine ⟨b7, 0, b9, 0, b38, 0, _, rfl, ?_⟩
 repeat' (refine kr_ ?_)
 have hxy : ((2 ^ (aQ m).n : Nat) : Int) * ((2 ^ (aQ m).k : Nat) : Int) = ((2 ^ ((aQ m).n + (aQ m).k) : Nat) : Int) := by rw [hnk, <- Int.natCast_mul, Nat.mul_comm]
 rw [hxy, fk (by omega)]
 have hAn : A.n = c := by have := oA.1; simp at this; omega
 have hBn : B.n = c := by have := oB.1; simp at this; omega
 have hCn : C.n = c := by have := oC.1; simp at this; omega
 by_cases hlt : c < 2 ^ ((aQ m).n + (aQ m).k)
 ·refine aH (by rw [decide_eq_true_eq]; exact_mod_cast hlt) ?_
  repeat' (refine kr_ ?_)
  refine vj (hs3.mono K.le) hm g hlt fun t h6 l6 htn hpv hnew => ⟨t, rfl, ?_⟩
  have n38 : ∀ o, t.a ≠ some (Addr.mk b38 o none) := fun o ho => by have := hnew _ _ ho; rw [K.at (.head _)] at this; cases this
  replace K := K.mono l6
  have a : y2 m (fQ m (c % 2 ^ av m.nodes 36) (c / 2 ^ av m.nodes 36)) := um g _ _
  have hv1 : (aQ m).hold c = ui m (fQ m (c % 2 ^ av m.nodes 36) (c / 2 ^ av m.nodes 36)) := rfl
  have hv2 : (aQ m).bad c = (wE m (fQ m (c % 2 ^ av m.nodes 36) (c / 2 ^ av m.nodes 36))).isSome := rfl
  have hv3 : (aQ m).next c = BH m (c % 2 ^ av m.nodes 36) (c / 2 ^ av m.nodes 36) := rfl
  repeat' (refine kr_ ?_)
  refine wV (hs3.mono K.le) g hpv a ⟨_, rfl, ?_⟩
  repeat' (refine kr_ ?_)
  rw [<- hv1]
  refine ae fun b80 h7 hb80 l7 f80 => ?_
  replace K := K.mono l7
  replace hpv := hpv.mono l7
  refine Kn.growIn (A := [_, _, _]) K oA (by omega) (by omega) (by omega) ⟨b80, 0, rfl, ax f80⟩ rfl rfl fun A' XA' h8 hn' oA' K8 l8 => ?_
  replace hpv := (hpv.offG oA fun e he => K.mem e (by simp [he])).mono l8
  simp only [List.cons_append, List.nil_append] at K8
  (((with_reducible apply Kn.wr); (assumption); ((focus ((repeat first | exact .head | apply Upd.tail); done)))))
  ·simp
  intro h9 K9 kp9
  have f8 := K8.at (.head _)
  have f9 := K9.at (.head _)
  simp only [bk, List.set_cons_zero, List.set_cons_succ, Nat.zero_add, Nat.reduceAdd] at K9
  rw [bk] at f9
  replace hpv := hpv.keepB n38 kp9 fun o i hi => by
   rw [af f8] at hi
   rw [af f9, List.getElem?_set]
   by_cases e : 0 + 2 = o
   ·subst e; simp at hi
   ·rw [if_neg e]; exact hi
  clear f8 f9
  refine ap (fun J => ∀ (B' : Sl) (XB' : List (Nat × Blk)) (h' : Hp), Kn g3 h' ((b38, .inl ⟨[I (2 ^ (aQ m).n : Nat), I (2 ^ (aQ m).k : Nat), A'.v, B'.v, C.v, F.v, (⟨none, 0, 0⟩ : Sl).v], 7, false⟩) :: (b9, .inl ⟨[I 0, I 0, .slice none 0 0, .slice none 0 0, .slice none 0 0, .slice none 0 0, .slice none 0 0], 7, false⟩) :: (b7, .inl ⟨cl M, 5, false⟩) :: (XA' ++ (XB' ++ (XC ++ [])))) -> ez XB' B' 1 ((List.range (c + 1)).map fun i => .bool ((aQ m).ends i)) -> J h') (fun B' XB' h10 K10 oB' => ?_) (fun J hJ => ?_)
  ·clear K9 K8 K hpv
   have hcm : c % 2 ^ (aQ m).n <= c := Nat.mod_le _ _
   have hcd : c / 2 ^ (aQ m).n <= c := Nat.div_le_self _ _
   have hpos := Nat.two_pow_pos (aQ m).n
   repeat' (refine kr_ ?_)
   rw [if_neg (by omega)]
   repeat' (refine kr_ ?_)
   rw [if_neg (by omega), eP, show Int.tdiv (c : Int) ((2 ^ (aQ m).n : Nat) : Int) = ((c / 2 ^ (aQ m).n : Nat) : Int) from rfl, fk (by omega)]
   refine HK (hs3.mono K10.le) hm g (by omega) (by omega) ⟨_, rfl, ?_⟩
   repeat' (refine kr_ ?_)
   refine ae fun b131 h11 hb131 l11 f131 => ?_
   have K11 := K10.mono l11
   repeat' (refine kr_ ?_)
   refine Kn.growIn3 (A := [_, _, _]) K11 oC (by omega) (by omega) (by omega) ⟨b131, 0, rfl, ax f131⟩ rfl rfl fun C' XC' h12 hn2 oC' K12 _ => ?_
   simp only [List.cons_append, List.nil_append] at K12
   (((with_reducible apply Kn.wr); (assumption); ((focus ((repeat first | exact .head | apply Upd.tail); done)))))
   ·simp
   intro h13 K13 _
   simp only [bk, List.set_cons_zero, List.set_cons_succ, Nat.zero_add, Nat.reduceAdd] at K13
   rw [az (by omega)]
   exact hnx hlt _ _ ⟨A', B', C', XA', XB', XC', rfl, K13, by rw [oO]; exact oA', oB', by rw [oO]; exact oC'⟩
  ·clear K8 K
   refine ad (fun e1 => ?_) (fun e1 => ?_)
   ·repeat' (refine kr_ ?_)
    refine Dv (hs3.mono K9.le) g hpv a ⟨_, rfl, ?_⟩
    repeat' (refine kr_ ?_)
    rw [wH, <- hv2]
    refine ae fun b99 h11 hb99 l11 f99 => ?_
    have K11 := K9.mono l11
    repeat' (refine kr_ ?_)
    refine Kn.growIn2 (A := [_, _, _]) K11 oB (by omega) (by omega) (by omega) ⟨b99, 0, rfl, ax f99⟩ rfl rfl fun B' XB' h12 hn2 oB' K12 _ => ?_
    simp only [List.cons_append, List.nil_append] at K12
    (((with_reducible apply Kn.wr); (assumption); ((focus ((repeat first | exact .head | apply Upd.tail); done)))))
    ·simp
    intro h13 K13 _
    simp only [bk, List.set_cons_zero, List.set_cons_succ, Nat.zero_add, Nat.reduceAdd] at K13
    exact hJ B' XB' h13 K13 (by rw [oO]; unfold ar.ends; rw [e1]; exact oB')
   ·repeat' (refine kr_ ?_)
    refine ae fun b99 h11 hb99 l11 f99 => ?_
    have K11 := K9.mono l11
    repeat' (refine kr_ ?_)
    refine Kn.growIn2 (A := [_, _, _]) K11 oB (by omega) (by omega) (by omega) ⟨b99, 0, rfl, ax f99⟩ rfl rfl fun B' XB' h12 hn2 oB' K12 _ => ?_
    simp only [List.cons_append, List.nil_append] at K12
    (((with_reducible apply Kn.wr); (assumption); ((focus ((repeat first | exact .head | apply Upd.tail); done)))))
    ·simp
    intro h13 K13 _
    simp only [bk, List.set_cons_zero, List.set_cons_succ, Nat.zero_add, Nat.reduceAdd] at K13
    exact hJ B' XB' h13 K13 (by rw [oO]; unfold ar.ends; rw [e1]; exact oB')
 ·refine ak (by rw [decide_eq_false_iff_not]; omega) ?_
  clear hnx
  have hce : c = 2 ^ ((aQ m).n + (aQ m).k) := by omega
  refine aq (2 ^ (aQ m).n) (fun d vs h' => ∃ (D : Sl) (XD : List (Nat × Blk)), vs = [.pointer (some ⟨b7, 0, none⟩), .pointer (some ⟨b9, 0, none⟩), .pointer (some ⟨b38, 0, none⟩), I d] /\
   Kn g3 h' ((b38, .inl ⟨[I (2 ^ (aQ m).n : Nat), I (2 ^ (aQ m).k : Nat), A.v, B.v, C.v, F.v, D.v], 7, false⟩) :: (b9, .inl ⟨[I 0, I 0, .slice none 0 0, .slice none 0 0, .slice none 0 0, .slice none 0 0, .slice none 0 0], 7, false⟩) :: (b7, .inl ⟨cl M, 5, false⟩) :: (XD ++ (XA ++ (XB ++ (XC ++ []))))) /\ ez XD D 1 ((List.range d).map fun i => .bool ((aQ m).begins i))) ⟨⟨none, 0, 0⟩, [], rfl, K, ff _⟩ ?_
  clear K h5 hlt hc
  rintro d _ h5 nxt2 hd ⟨D, XD, rfl, K, oD⟩ hnx2
  have hDn : D.n = d := by have := oD.1; simp at this; omega
  refine ⟨b7, 0, b9, 0, b38, 0, _, rfl, ?_⟩
  repeat' (refine kr_ ?_)
  by_cases hld : d < 2 ^ (aQ m).n
  ·refine aH (by rw [decide_eq_true_eq]; exact_mod_cast hld) ?_
   repeat' (refine kr_ ?_)
   refine fz (hs3.mono K.le) hm fun p h6 l6 ip => ⟨p, rfl, ?_⟩
   have K6 := K.mono l6
   repeat' (refine kr_ ?_)
   refine iJ (hs3.mono K6.le) hm g.ok ip (ee g 36) (nw g 36) (by omega) (by have := hY g; show ce m.nodes (stP m) <= 60; omega) fun u h7 l7 iu => ⟨u, rfl, ?_⟩
   have K7 := K6.mono l7
   repeat' (refine kr_ ?_)
   refine oH (hs3.mono K7.le) hm hc0 iu (by rw [Bw]; exact Hw _ _ _) ⟨_, rfl, ?_⟩
   have hb : ma (stP m) (jA m) (lV m.nodes (aN m.nodes 36) d) (stP m).length = (aQ m).begins d := by
    rw [Bool.eq_iff_iff, C8, CJ g]
   rw [hb]
   repeat' (refine kr_ ?_)
   refine ae fun b184 h8 hb184 l8 f184 => ?_
   have K8 := K7.mono l8
   repeat' (refine kr_ ?_)
   refine Kn.growIn (A := [_, _, _]) K8 oD (by omega) (by omega) (by omega) ⟨b184, 0, rfl, ax f184⟩ rfl rfl fun D' XD' h9 hn2 oD' K9 _ => ?_
   simp only [List.cons_append, List.nil_append] at K9
   (((with_reducible apply Kn.wr); (assumption); ((focus ((repeat first | exact .head | apply Upd.tail); done)))))
   ·simp
   intro h10 K10 _
   simp only [bk, List.set_cons_zero, List.set_cons_succ, Nat.zero_add, Nat.reduceAdd] at K10
   rw [az (by omega)]
   exact hnx2 hld _ _ ⟨D', XD', rfl, K10, by rw [oO]; exact oD'⟩
  ·have hde : d = 2 ^ (aQ m).n := by omega
   refine ak (by rw [decide_eq_false_iff_not]; omega) ?_
   clear hnx2
   repeat' (refine kr_ ?_)
   (((with_reducible apply Kn.wr); (assumption); ((focus ((repeat first | exact .head | apply Upd.tail); done)))))
   ·simp
   intro h6 K6 _
   simp only [dZ, List.set_cons_zero, List.set_cons_succ, Nat.zero_add, Nat.reduceAdd] at K6
   repeat' (refine kr_ ?_)
   subst hce hde
   refine k ⟨A, B, C, F, D⟩ h6 (Hp.le_trans lg K6.le) ⟨?_, ?_, ?_, ⟨iT m, Kw g, hF'.mono K6.le⟩, ?_⟩
   ·have := (oA.buf fun e he => K6.mem e (by simp [he])).slc_of (by omega)
    unfold cy ny; rw [List.map_map]; exact this
   ·have := (oB.buf fun e he => K6.mem e (by simp [he])).slc_of (by omega)
    unfold cy ny; rw [List.map_map]; exact this
   ·have := (oC.buf fun e he => K6.mem e (by simp [he])).slc_of (by omega)
    unfold wq IntS VL; rw [List.map_map, List.map_map]; exact this
   ·have := (oD.buf fun e he => K6.mem e (by simp [he])).slc_of (by omega)
    unfold cy ny; rw [List.map_map]; exact this
theorem GA {h : Hp} {s : Sl} {N : Nat} {T : Nat -> Bool} {R : Value -> Hp -> Prop} (hT : cy h s N T) (hN : N <= 1048576) (k : R (.bool (lr N T)) h) : oU #[s.v] h R := by
 apply Dg
 refine uf_ ?_
 have hl := hT.len
 refine aq N (fun i vs h' => vs = [s.v, I i] /\ h = h' /\ ∀ j, j < i -> T j = false) ⟨rfl, rfl, fun j hj => by omega⟩ ?_
 rintro i _ _ next hi ⟨rfl, rfl, hj⟩ hnx
 refine ⟨s, _, rfl, ?_⟩
 by_cases hlt : i < N
 ·refine aH (by rw [decide_eq_true_eq]; omega) ?_
  obtain ⟨b, o, ha, h1, h2⟩ := hT.get hlt
  refine ⟨b, o, ha, by omega, h1, _, h2, ?_⟩
  refine ad (fun e => ?_) (fun e => ?_)
  ·rw [cd.2 ⟨i, hlt, e⟩] at k; exact k
  ·rw [az (by omega)]
   refine hnx hlt _ _ ⟨rfl, rfl, fun j hji => ?_⟩
   by_cases eq : j = i
   ·rw [eq]; exact e
   ·exact hj j (by omega)
 ·refine ak (by rw [decide_eq_false_iff_not]; omega) ?_
  rw [mv.2 fun j hjn => hj j (by omega)] at k; exact k
theorem FE {σ : ar} (S : Nat -> Bool) : lr (2 ^ (σ.n + σ.k)) (fun c => S (c % 2 ^ σ.n) && σ.ends c) = σ.met S := by
 rw [Bool.eq_iff_iff, cd]
 unfold ar.met
 rw [cd]
 constructor
 ·rintro ⟨c, hc, e⟩
  rw [Bool.and_eq_true] at e
  obtain ⟨h1, h2, h3⟩ := ar.at_of hc
  refine ⟨c % 2 ^ σ.n, h1, ?_⟩
  rw [e.1, Bool.true_and, ar.endsAt_iff]
  have := e.2
  unfold ar.ends at this
  rw [Bool.and_eq_true] at this
  exact ⟨c / 2 ^ σ.n, h2, by rw [h3]; exact this⟩
 ·rintro ⟨s, hs, e⟩
  rw [Bool.and_eq_true, ar.endsAt_iff] at e
  obtain ⟨e1, x, hx, e2, e3⟩ := e
  refine ⟨σ.at_ s x, ar.at_lt hs hx, ?_⟩
  unfold ar.ends
  rw [ar.at_mod hs, e1, e2, e3]; rfl
theorem tj {h : Hp} {q : yx} {σ : ar} {s : Sl} {S : Nat -> Bool} {R : Value -> Hp -> Prop} (hq : wC h q σ) (ok : σ.Ok) (hS : cy h s (2 ^ σ.n) S) (k : R (.bool (σ.met S)) h) :
  jW #[A6 σ q, s.v] h R := by
 refine ACalls.drop (EC ?_)
 refine uf_ ?_
 have hn := dA ok
 have hp := ky ok
 have hpos := Nat.two_pow_pos σ.n
 refine ae fun b10 h1 hb10 l1 f10 => ?_
 have he := hq.2.1.mono l1
 have hS1 := hS.mono l1
 have hel := he.len
 refine aq (2 ^ (σ.n + σ.k)) (fun i vs h' => vs = [s.v, .pointer (some ⟨b10, 0, none⟩), I i] /\ h1 = h' /\ ∀ j, j < i -> (S (j % 2 ^ σ.n) && σ.ends j) = false) ⟨rfl, rfl, fun j hj => by omega⟩ ?_
 rintro i _ _ next hi ⟨rfl, rfl, hj⟩ hnx
 refine ⟨s, b10, 0, _, rfl, ?_⟩
 (refine am ?_)
 by_cases hlt : i < 2 ^ (σ.n + σ.k)
 ·refine aH (by rw [decide_eq_true_eq]; omega) ?_
  have go : (S (i % 2 ^ σ.n) && σ.ends i) = false -> next [s.v, .pointer (some ⟨b10, 0, none⟩), I (W ((i : Int) + 1))] h1 := fun e => by
   rw [az (by omega)]
   refine hnx hlt _ _ ⟨rfl, rfl, fun j hji => ?_⟩
   by_cases eq : j = i
   ·rw [eq]; exact e
   ·exact hj j (by omega)
  (refine am ?_)
  rw [if_neg (by omega), eP]
  obtain ⟨b, o, ha, h2, h3⟩ := hS1.get (i := i % 2 ^ σ.n) (Nat.mod_lt _ hpos)
  refine ⟨b, o, ha, by omega, h2, _, h3, ?_⟩
  refine ad (fun e => ?_) (fun e => ?_)
  ·(refine am ?_)
   obtain ⟨b, o, ha, h2, h3⟩ := he.get hlt
   refine ⟨b, o, ha, by omega, h2, _, h3, ?_⟩
   refine ad (fun e2 => ?_) (fun e2 => ?_)
   ·refine ⟨h, l1, ?_⟩
    rw [<- FE, cd.2 ⟨i, hlt, by rw [e, e2]; rfl⟩] at k; exact k
   ·exact go (by rw [e2, Bool.and_false])
  ·exact go (by rw [e]; rfl)
 ·refine ak (by rw [decide_eq_false_iff_not]; omega) ⟨h, l1, ?_⟩
  rw [<- FE, mv.2 fun j hjn => hj j (by omega)] at k; exact k
theorem yY {k f : Nat} : f ∈ df k ↔ f &&& k = f := by
 unfold df
 rw [List.mem_filter, List.mem_range, decide_eq_true_eq]
 refine ⟨fun h => h.2, fun h => ⟨?_, h⟩⟩
 have : f &&& k <= k := Nat.and_le_right
 omega
theorem iE {σ : ar} {fm c t : Nat} (ok : σ.Ok) (hfm : fm + σ.fixed = 2 ^ σ.n - 1) (hc : c < 2 ^ (σ.n + σ.k)) (ht : t < 2 ^ σ.n) : σ.goes c t = true ↔ ∃ f, f ∈ df fm /\ σ.next c + f = t := by
 unfold ar.goes
 rw [decide_eq_true_eq, OE (y := fm) (by omega) ok.fixed ht (ok.next c hc) (ok.held c hc)]
 constructor
 ·rintro ⟨f, h1, h2⟩; exact ⟨f, yY.2 h1, h2⟩
 ·rintro ⟨f, h1, h2⟩; exact ⟨f, yY.1 h1, h2⟩
theorem nT {σ : ar} {fm c f : Nat} (ok : σ.Ok) (hfm : fm + σ.fixed = 2 ^ σ.n - 1) (hc : c < 2 ^ (σ.n + σ.k)) (hf : f ∈ df fm) : σ.next c + f < 2 ^ σ.n := by
 have h1 := yY.1 hf
 have h2 : f &&& fm <= fm := Nat.and_le_right
 have h3 := ok.held c hc
 have h4 : σ.next c &&& σ.fixed <= σ.fixed := Nat.and_le_right
 have := Nat.two_pow_pos σ.n
 omega
theorem CQ {h : Hp} {q : yx} {σ : ar} {s : Sl} {S : Nat -> Bool} {R : Value -> Hp -> Prop} (hq : wC h q σ) (ok : σ.Ok) (hS : cy h s (2 ^ σ.n) S)
  (k : ∀ b' T h', Kn h h' [(b', .inl ⟨tb (2 ^ σ.n) T, 2 ^ σ.n, false⟩)] -> (∀ j, j < 2 ^ σ.n -> T j = σ.fwd σ.hold S j) -> R (arr b' (2 ^ σ.n)).v h') : mb #[A6 σ q, s.v] h R := by
 apply zw
 refine uf_ ?_
 have hn := dA ok
 have hp := ky ok
 have hpos := Nat.two_pow_pos σ.n
 obtain ⟨hh, _, hx, ⟨fm, hfm, hfl⟩, _⟩ := id hq
 have hhl := hh.len
 have hxl := IntS.len hx
 rw [bW, List.length_map, List.length_range] at hxl
 have hfll := IntS.len hfl
 rw [bW] at hfll
 have hfb : (df fm).length <= 2 ^ σ.n := by
  have h1 : (df fm).length <= fm + 1 := by unfold df; have := List.length_filter_le (fun c => decide (c &&& fm = c)) (List.range (fm + 1)); simpa using this
  omega
 have K0 := Kn.nil h
 (with_reducible apply Kn.al); (assumption); (intro b10 h1 K1 l1 hb10)
 (refine kr_ ?_)
 refine ⟨Int.natCast_nonneg _, Int.le_refl _, by omega, by omega, ?_⟩
 (with_reducible apply Kn.al); (assumption); (intro b14 h2 K2 l2 hb14)
 rw [Int.toNat_natCast, Nat.mul_one, bM, hE] at K2
 rw [Int.toNat_natCast]
 refine aq (2 ^ (σ.n + σ.k)) (fun c vs h' => vs = [s.v, .pointer (some ⟨b10, 0, none⟩), (arr b14 (2 ^ σ.n)).v, I c] /\
  ∃ T, Kn h h' [(b14, .inl ⟨tb (2 ^ σ.n) T, 2 ^ σ.n, false⟩), (b10, .inl ⟨uM σ q, 7, false⟩)] /\ ∀ x, T x = true ↔ ∃ c', c' < c /\ S (c' % 2 ^ σ.n) = true /\ σ.hold c' = true /\ ∃ f, f ∈ df fm /\ σ.next c' + f = x)
  ⟨rfl, _, K2, fun x => ⟨fun e => by simp at e, fun ⟨c', e, _⟩ => by omega⟩⟩ ?_
 clear K2 K1 K0 l1 l2 hb10 hb14 h1 h2
 rintro c _ h1 nxt hc ⟨rfl, T, K1, hT⟩ hnx
 refine ⟨s, b10, 0, arr b14 _, _, rfl, ?_⟩
 (refine kr_ ?_)
 by_cases hlt : c < 2 ^ (σ.n + σ.k)
 rotate_left
 ·refine ak (by rw [decide_eq_false_iff_not]; omega) ?_
  refine k b14 T h1 (K1.sub (fun e he => by rw [List.mem_singleton] at he; subst he; exact .head _) (by simp)) fun j hj => ?_
  rw [Bool.eq_iff_iff, hT, ar.fwd_iff]
  constructor
  ·rintro ⟨c', q1, q2, q3, q4⟩
   have hc' : c' < 2 ^ (σ.n + σ.k) := by omega
   obtain ⟨a1, a2, a3⟩ := ar.at_of hc'
   exact ⟨c' % 2 ^ σ.n, c' / 2 ^ σ.n, a1, a2, q2, by rw [a3]; exact q3, by rw [a3]; exact (iE ok hfm hc' hj).2 q4⟩
  ·rintro ⟨s', i', q1, q2, q3, q4, q5⟩
   have hc' := ar.at_lt q1 q2
   exact ⟨σ.at_ s' i', by omega, by rw [ar.at_mod q1]; exact q3, q4, (iE ok hfm hc' hj).1 q5⟩
 refine aH (by rw [decide_eq_true_eq]; omega) ?_
 have skip : (S (c % 2 ^ σ.n) && σ.hold c) = false -> nxt [s.v, .pointer (some ⟨b10, 0, none⟩), (arr b14 (2 ^ σ.n)).v, I (W ((c : Int) + 1))] h1 := fun e => by
  rw [az (by omega)]
  refine hnx hlt _ _ ⟨rfl, T, K1, fun x => ?_⟩
  rw [hT]
  constructor
  ·rintro ⟨c', q1, q⟩; exact ⟨c', by omega, q⟩
  ·rintro ⟨c', q1, q2, q3, q4⟩
   by_cases e2 : c' = c
   ·rw [e2] at q2 q3; rw [q2, q3] at e; cases e
   ·exact ⟨c', by omega, q2, q3, q4⟩
 rw [dg]
 (refine kr_ ?_)
 rw [if_neg (by omega), eP]
 obtain ⟨b, o, ha, e1, e2⟩ := (hS.mono K1.le).get (i := c % 2 ^ σ.n) (Nat.mod_lt _ hpos)
 refine ⟨b, o, ha, by omega, e1, _, e2, ?_⟩
 refine ad (fun e => ?_) (fun e => ?_)
 ·exact aH rfl (skip (by have : S (c % 2 ^ σ.n) = false := by simpa using e
                         rw [this]; rfl))
 have eS : S (c % 2 ^ σ.n) = true := by simpa using e
 (refine kr_ ?_)
 obtain ⟨b, o, ha, e1, e2⟩ := (hh.mono K1.le).get hlt
 refine ⟨b, o, ha, by omega, e1, _, e2, ?_⟩
 refine ad (fun e => ?_) (fun e => ?_)
 ·exact skip (by have : σ.hold c = false := by simpa using e
                 rw [this, Bool.and_false])
 have eH : σ.hold c = true := by simpa using e
 refine aq (df fm).length (fun j vs h' => vs = [s.v, .pointer (some ⟨b10, 0, none⟩), (arr b14 (2 ^ σ.n)).v, I c, I j] /\
  ∃ U, Kn h h' [(b14, .inl ⟨tb (2 ^ σ.n) U, 2 ^ σ.n, false⟩), (b10, .inl ⟨uM σ q, 7, false⟩)] /\ ∀ x, U x = true ↔ T x = true \/ ∃ f, f ∈ (df fm).take j /\ σ.next c + f = x)
  ⟨rfl, T, K1, fun x => ⟨fun q => .inl q, fun q => q.resolve_right fun ⟨f, q1, _⟩ => by simp at q1⟩⟩ ?_
 clear skip K1
 rintro j _ h1 nxt2 hj ⟨rfl, U, K1, hU⟩ hnx2
 refine ⟨s, b10, 0, arr b14 _, _, _, rfl, ?_⟩
 (refine kr_ ?_)
 by_cases hlj : j < (df fm).length
 rotate_left
 ·refine ak (by rw [decide_eq_false_iff_not]; omega) ?_
  rw [az (by omega)]
  refine hnx hlt _ _ ⟨rfl, U, K1, fun x => ?_⟩
  rw [hU, hT, List.take_of_length_le (by omega)]
  constructor
  ·rintro (⟨c', q1, q⟩ | q)
   ·exact ⟨c', by omega, q⟩
   ·exact ⟨c, by omega, eS, eH, q⟩
  ·rintro ⟨c', q1, q2, q3, q4⟩
   by_cases e2 : c' = c
   ·rw [e2] at q4; exact .inr q4
   ·exact .inl ⟨c', by omega, q2, q3, q4⟩
 refine aH (by rw [decide_eq_true_eq]; omega) ?_
 (refine kr_ ?_)
 obtain ⟨b, o, ha, e1, e2⟩ := wq.get (hx.mono K1.le) hlt
 refine ⟨b, o, ha, by omega, e1, _, e2, ?_⟩
 (refine kr_ ?_)
 obtain ⟨f, hf⟩ : ∃ f, (df fm)[j]? = some f := ⟨_, List.getElem?_eq_getElem hlj⟩
 obtain ⟨b, o, ha, e3⟩ := (hfl.mono K1.le).get (gh hf)
 refine ⟨b, o, ha, by omega, by omega, _, e3, ?_⟩
 have hlf := nT ok hfm hlt (List.mem_of_getElem? hf)
 rw [<- Int.natCast_add, fk (by omega)]
 refine ⟨b14, 0, rfl, by omega, by dsimp only; omega, ?_⟩
 (((with_reducible apply Kn.wr); (assumption); ((focus ((repeat first | exact .head | apply Upd.tail); done)))))
 ·rw [eV]; omega
 intro h2 K2 _
 rw [bk, Nat.zero_add, Int.toNat_natCast, Nat.mul_one, iL] at K2
 rw [az (by omega)]
 refine hnx2 hlj _ _ ⟨rfl, _, K2, fun x => ?_⟩
 rw [List.take_add_one, hf]
 by_cases ex : x = σ.next c + f
 ·rw [if_pos ex]
  exact ⟨fun _ => .inr ⟨f, by simp, ex.symm⟩, fun _ => rfl⟩
 ·rw [if_neg ex, hU]
  constructor
  ·rintro (q | ⟨f', q1, q2⟩)
   ·exact .inl q
   ·exact .inr ⟨f', List.mem_append_left _ q1, q2⟩
  ·rintro (q | ⟨f', q1, q2⟩)
   ·exact .inl q
   ·rcases List.mem_append.1 q1 with q1 | q1
    ·exact .inr ⟨f', q1, q2⟩
    ·simp at q1; subst q1; exact absurd q2.symm ex
theorem kA {h : Hp} {q : yx} {σ : ar} {R : Value -> Hp -> Prop} (hq : wC h q σ) (ok : σ.Ok)
  (k : ∀ s h', h.le h' -> xC h' s (2 ^ σ.n) σ.nLay σ.front -> R (Sl.v s) h') : fE #[A6 σ q] h R := by
 apply zC
 refine uf_ ?_
 have hn := dA ok
 have h8 := ok.nle
 have K0 := Kn.nil h
 (with_reducible apply Kn.al); (assumption); (intro b9 h1 K1 l1 hb9)
 (refine kr_ ?_)
 refine ⟨Int.natCast_nonneg _, Int.le_refl _, by omega, by omega, ?_⟩
 (with_reducible apply Kn.al); (assumption); (intro b14 h2 K2 l2 hb14)
 rw [Int.toNat_natCast, Nat.mul_one, bM, hE] at K2
 rw [Int.toNat_natCast]
 (refine kr_ ?_)
 refine aq (2 ^ σ.n) (fun i vs h' => ∃ (out fr : Sl) (g : Hp) (V : Nat -> Bool) (ts : List Sl), vs = [.pointer (some ⟨b9, 0, none⟩), out.v, (arr b14 (2 ^ σ.n)).v, fr.v] /\
  h.le g /\ Kn g (h'.offS out) [(b14, .inl ⟨tb (2 ^ σ.n) V, 2 ^ σ.n, false⟩), (b9, .inl ⟨uM σ q, 7, false⟩)] /\ cy g fr (2 ^ σ.n) (σ.front i) /\ Buf h' out 1 (ts.map Sl.v) /\ ts.length = i /\
  (∀ (j : Nat) (t : Sl), ts[j]? = some t -> cy g t (2 ^ σ.n) (σ.front j)) /\ (∀ j, j < 2 ^ σ.n -> V j = σ.seen i j) /\ ∀ j, j < i -> σ.live j = true)
  ⟨⟨none, 0, 0⟩, q.bs, h, _, [], rfl, Hp.le_refl _, K2, hq.2.2.2.2, en _ _, rfl, fun j t ht => by simp at ht, fun _ _ => rfl, fun j hj => by omega⟩ ?_
 clear K2 K1 K0 l1 l2 hb9 hb14 h1 h2
 rintro i _ h1 nxt hi ⟨out, fr, g, V, ts, rfl, lg, K1, hF, hB, htl, ht, hV, hlive⟩ hnx
 refine ⟨b9, 0, out, arr b14 _, fr, rfl, ?_⟩
 have K1' := K1.mono (aO h1 out)
 have hbF := hF.mono K1'.le
 have hon := hB.1
 rw [List.length_map, Nat.mul_one] at hon
 refine GA hbF (by omega) ⟨_, rfl, ?_⟩
 refine ad (fun e => ?_) (fun e => ?_)
 rotate_left
 ·have hnl : σ.nLay = i := ar.nLay_of hlive e
  exact k out h1 (Hp.le_trans lg K1'.le) ⟨ts, by omega, hB.slc_of (by omega), fun j t hj => (ht j t hj).mono K1'.le⟩
 have hlive' : ∀ j, j < i + 1 -> σ.live j = true := fun j hj => by
  by_cases e2 : j = i
  ·rw [e2]; exact e
  ·exact hlive j (by omega)
 have hlt : i < 2 ^ σ.n := ar.live_le hlive'
 refine ae fun b34 h2 hb34 l2 f34 => ?_
 refine db (hB.mono l2) (by omega) (by omega) (by omega) ⟨b34, 0, rfl, ax f34⟩ (by simp) rfl ?_
 intro s' h3 hs'n hB' l3 _
 have K2 := K1.mono (Hp.le_trans (bJ out l2) l3)
 have K2' := K2.mono (aO h3 s')
 repeat' (refine kr_ ?_)
 refine CQ (hq.mono (Hp.le_trans lg K2'.le)) ok (hF.mono K2'.le) fun bB T h4 K5 hT => ⟨_, rfl, ?_⟩
 have hbB : h3 bB = none := K5.new _ (.head _)
 have K6 := K2.cons (b := bB) (aw (aO h3 s') hbB) (bJ s' K5.le) (hB'.offS_new hbB (K5.at (.head _)))
 have hB4 := hB'.mono K5.le
 have K6' := K6.mono (aO h4 s')
 (refine kr_ ?_)
 refine ⟨Int.natCast_nonneg _, Int.le_refl _, by omega, by omega, ?_⟩
 refine ae fun b53 h5 hb53 l5 f53 => ?_
 rw [Int.toNat_natCast, Nat.mul_one, bM, hE] at f53
 rw [Int.toNat_natCast]
 have K7 := K6.cons (b := b53) (aw (aO h4 s') hb53) (bJ s' l5) (hB4.offS_new hb53 f53)
 have hB5 := hB4.mono l5
 refine aq (2 ^ σ.n) (fun x vs h' => vs = [.pointer (some ⟨b9, 0, none⟩), s'.v, (arr b14 (2 ^ σ.n)).v, fr.v, (arr bB (2 ^ σ.n)).v, (arr b53 (2 ^ σ.n)).v, I x] /\
  ∃ V, Kn g (h'.offS s') [(b53, .inl ⟨tb (2 ^ σ.n) fun _ => false, 2 ^ σ.n, false⟩), (bB, .inl ⟨tb (2 ^ σ.n) T, 2 ^ σ.n, false⟩), (b14, .inl ⟨tb (2 ^ σ.n) V, 2 ^ σ.n, false⟩), (b9, .inl ⟨uM σ q, 7, false⟩)] /\
   Buf h' s' 1 (ts.map Sl.v ++ [fr.v]) /\ ∀ j, j < 2 ^ σ.n -> V j = if j < x then σ.seen (i + 1) j else σ.seen i j)
  ⟨rfl, V, K7, hB5, fun j hj => by rw [if_neg (by omega)]; exact hV j hj⟩ ?_
 clear K7 hB5 hB4 K6 K6' K5 hV hbF K1'
 rintro x _ h6 nxt1 hx ⟨rfl, V, K, B, hV⟩ hnx1
 refine ⟨b9, 0, s', arr b14 _, fr, arr bB _, arr b53 _, _, rfl, ?_⟩
 have K' := K.mono (aO h6 s')
 (refine kr_ ?_)
 by_cases hlx : x < 2 ^ σ.n
 ·refine aH (by rw [decide_eq_true_eq]; exact_mod_cast hlx) ?_
  have hVx : V x = σ.seen i x := by rw [hV x hlx, if_neg (by omega)]
  have fin : ∀ v h7, v = σ.seen (i + 1) x -> Kn g (h7.offS s') [(b53, .inl ⟨tb (2 ^ σ.n) fun _ => false, 2 ^ σ.n, false⟩), (bB, .inl ⟨tb (2 ^ σ.n) T, 2 ^ σ.n, false⟩), (b14, .inl ⟨(tb (2 ^ σ.n) V).set x (.bool v), 2 ^ σ.n, false⟩), (b9, .inl ⟨uM σ q, 7, false⟩)] ->
    Buf h7 s' 1 (ts.map Sl.v ++ [fr.v]) -> nxt1 [.pointer (some ⟨b9, 0, none⟩), s'.v, (arr b14 (2 ^ σ.n)).v, fr.v, (arr bB (2 ^ σ.n)).v, (arr b53 (2 ^ σ.n)).v, I (W ((x : Int) + 1))] h7 := by
   intro v h7 hv K7 B7
   rw [az (by omega)]
   rw [iL] at K7
   refine hnx1 hlx _ _ ⟨rfl, _, K7, B7, fun j hj => ?_⟩
   by_cases e2 : j = x
   ·rw [if_pos e2, if_pos (by omega), e2]; exact hv
   ·rw [if_neg e2, hV j hj]
    by_cases e3 : j < x
    ·rw [if_pos e3, if_pos (by omega)]
    ·rw [if_neg e3, if_neg (by omega)]
  refine ⟨b14, 0, rfl, by omega, by dsimp only; omega, ?_⟩
  refine Kn.rd K' (.tail _ (.tail _ (.head _))) (x := V x) (by rw [Nat.zero_add, Nat.mul_one, Int.toNat_natCast]; exact jC hlx) ?_
  refine ad (fun e2 => ?_) (fun e2 => ?_)
  ·refine ⟨b14, 0, rfl, by omega, by dsimp only; omega, ?_⟩
   (with_reducible apply Kn.wrS); (exact K); ((focus ((repeat first | exact .head | apply Upd.tail); done)))
   ·rw [eV]; omega
   intro h7 K7 B7 _
   rw [bk, Nat.zero_add, Int.toNat_natCast, Nat.mul_one] at K7
   exact fin _ h7 (by rw [ar.seen_succ, <- hVx, e2]; rfl) K7 (B7 _ _ B)
  ·obtain ⟨b, o, ha, e3, e4⟩ := (hF.mono K'.le).get hlx
   refine ⟨b, o, ha, by omega, e3, _, e4, ?_⟩
   refine ⟨b14, 0, rfl, by omega, by dsimp only; omega, ?_⟩
   (with_reducible apply Kn.wrS); (exact K); ((focus ((repeat first | exact .head | apply Upd.tail); done)))
   ·rw [eV]; omega
   intro h7 K7 B7 _
   rw [bk, Nat.zero_add, Int.toNat_natCast, Nat.mul_one] at K7
   exact fin _ h7 (by rw [ar.seen_succ, <- hVx, e2]; rfl) K7 (B7 _ _ B)
 refine ak (by rw [decide_eq_false_iff_not]; omega) ?_
 replace hV : ∀ j, j < 2 ^ σ.n -> V j = σ.seen (i + 1) j := fun j hj => by rw [hV j hj, if_pos (by omega)]
 refine aq (2 ^ σ.n) (fun x vs h' => vs = [.pointer (some ⟨b9, 0, none⟩), s'.v, (arr b14 (2 ^ σ.n)).v, (arr bB (2 ^ σ.n)).v, (arr b53 (2 ^ σ.n)).v, I x] /\
  ∃ F, Kn g (h'.offS s') [(b53, .inl ⟨tb (2 ^ σ.n) F, 2 ^ σ.n, false⟩), (bB, .inl ⟨tb (2 ^ σ.n) T, 2 ^ σ.n, false⟩), (b14, .inl ⟨tb (2 ^ σ.n) V, 2 ^ σ.n, false⟩), (b9, .inl ⟨uM σ q, 7, false⟩)] /\
   Buf h' s' 1 (ts.map Sl.v ++ [fr.v]) /\ ∀ j, j < x -> F j = σ.front (i + 1) j) ⟨rfl, _, K, B, fun j hj => by omega⟩ ?_
 clear K B K' h6 hnx1 hx hlx
 rintro x _ h6 nxt1 hx ⟨rfl, F, K, B, hFx⟩ hnx1
 refine ⟨b9, 0, s', arr b14 _, arr bB _, arr b53 _, _, rfl, ?_⟩
 have K' := K.mono (aO h6 s')
 (refine kr_ ?_)
 by_cases hlx : x < 2 ^ σ.n
 ·refine aH (by rw [decide_eq_true_eq]; exact_mod_cast hlx) ?_
  have fin : ∀ v h7, v = σ.front (i + 1) x -> Kn g (h7.offS s') [(b53, .inl ⟨(tb (2 ^ σ.n) F).set x (.bool v), 2 ^ σ.n, false⟩), (bB, .inl ⟨tb (2 ^ σ.n) T, 2 ^ σ.n, false⟩), (b14, .inl ⟨tb (2 ^ σ.n) V, 2 ^ σ.n, false⟩), (b9, .inl ⟨uM σ q, 7, false⟩)] ->
    Buf h7 s' 1 (ts.map Sl.v ++ [fr.v]) -> nxt1 [.pointer (some ⟨b9, 0, none⟩), s'.v, (arr b14 (2 ^ σ.n)).v, (arr bB (2 ^ σ.n)).v, (arr b53 (2 ^ σ.n)).v, I (W ((x : Int) + 1))] h7 := by
   intro v h7 hv K7 B7
   rw [az (by omega)]
   rw [iL] at K7
   refine hnx1 hlx _ _ ⟨rfl, _, K7, B7, fun j hj => ?_⟩
   by_cases e2 : j = x
   ·rw [if_pos e2, e2]; exact hv
   ·rw [if_neg e2]; exact hFx j (by omega)
  refine ⟨bB, 0, rfl, by omega, by dsimp only; omega, ?_⟩
  refine Kn.rd K' (.tail _ (.head _)) (x := T x) (by rw [Nat.zero_add, Nat.mul_one, Int.toNat_natCast]; exact jC hlx) ?_
  refine ad (fun e2 => ?_) (fun e2 => ?_)
  ·refine ⟨b14, 0, rfl, by omega, by dsimp only; omega, ?_⟩
   refine Kn.rd K' (.tail _ (.tail _ (.head _))) (x := V x) (by rw [Nat.zero_add, Nat.mul_one, Int.toNat_natCast]; exact jC hlx) ?_
   refine ⟨b53, 0, rfl, by omega, by dsimp only; omega, ?_⟩
   (with_reducible apply Kn.wrS); (exact K); ((focus ((repeat first | exact .head | apply Upd.tail); done)))
   ·rw [eV]; omega
   intro h7 K7 B7 _
   rw [bk, Nat.zero_add, Int.toNat_natCast, Nat.mul_one] at K7
   exact fin _ h7 (by rw [ar.front_succ, <- hT x hlx, e2, hV x hlx]; rfl) K7 (B7 _ _ B)
  ·refine ⟨b53, 0, rfl, by omega, by dsimp only; omega, ?_⟩
   (with_reducible apply Kn.wrS); (exact K); ((focus ((repeat first | exact .head | apply Upd.tail); done)))
   ·rw [eV]; omega
   intro h7 K7 B7 _
   rw [bk, Nat.zero_add, Int.toNat_natCast, Nat.mul_one] at K7
   exact fin _ h7 (by rw [ar.front_succ, <- hT x hlx, e2]; rfl) K7 (B7 _ _ B)
 refine ak (by rw [decide_eq_false_iff_not]; omega) ?_
 obtain ⟨K3, K4⟩ := Kn.split (A := [(b53, .inl ⟨tb (2 ^ σ.n) F, 2 ^ σ.n, false⟩), (bB, .inl ⟨tb (2 ^ σ.n) T, 2 ^ σ.n, false⟩)]) (B := [(b14, .inl ⟨tb (2 ^ σ.n) V, 2 ^ σ.n, false⟩), (b9, .inl ⟨uM σ q, 7, false⟩)]) K
 have fF := K4.at (.head _)
 refine hnx hlt _ _ ⟨s', arr b53 (2 ^ σ.n), _, V, ts ++ [fr], rfl, Hp.le_trans lg K4.le, K3, gu (by omega) fF fun j hj => hFx j (by omega), by rw [List.map_append]; exact B, by simp [htl], fun j t hj => ?_, hV, hlive'⟩
 by_cases hji : j < i
 ·rw [List.getElem?_append_left (by omega)] at hj
  exact (ht j t hj).mono K4.le
 ·have hj2 := get_lt hj
  simp at hj2
  rw [List.getElem?_append_right (by omega), show j - ts.length = 0 by omega] at hj
  simp at hj; subst hj
  rw [show j = i by omega]; exact hF.mono K4.le
theorem mj {h : Hp} {q : yx} {σ : ar} {R : Value -> Hp -> Prop} (hq : wC h q σ) (ok : σ.Ok) (k : R (I σ.depthI) h) : fX #[A6 σ q] h R := by
 refine ACalls.drop (AX ?_)
 refine uf_ ?_
 have hn := dA ok
 have hnl := ar.nLay_le σ
 refine ae fun b9 h1 hb9 l1 f9 => ?_
 repeat' (refine am ?_)
 refine kA (hq.mono l1) ok fun t h2 l2 hL => ⟨_, rfl, ?_⟩
 have l02 := Hp.le_trans l1 l2
 replace f9 := l2 _ _ f9
 have hl := hL.len
 refine aq σ.nLay (fun i vs h' => vs = [.pointer (some ⟨b9, 0, none⟩), t.v, I i] /\ h2 = h' /\ ∀ j, j < i -> σ.hits j = false) ⟨rfl, rfl, fun j hj => by omega⟩ ?_
 rintro i _ _ nxt hi ⟨rfl, rfl, hno⟩ hnx
 refine ⟨b9, 0, t, _, rfl, ?_⟩
 by_cases hlt : i < σ.nLay
 rotate_left
 ·refine ak (by rw [decide_eq_false_iff_not]; omega) ⟨h, l02, ?_⟩
  have : σ.depth = none := ar.find_none.2 fun j hj => hno j (by omega)
  unfold ar.depthI at k
  rw [this] at k; exact k
 refine aH (by rw [decide_eq_true_eq]; omega) ?_
 obtain ⟨bl, ol, r, ha, h3, h4, hr⟩ := hL.get hlt
 refine ⟨bl, ol, ha, by omega, h3, ?_⟩
 repeat' (refine am ?_)
 refine ⟨r, h4, ?_⟩
 refine tj (hq.mono l02) ok hr ⟨_, rfl, ?_⟩
 refine ad (fun e => ?_) (fun e => ?_)
 ·refine ⟨h, l02, ?_⟩
  have : σ.depth = some i := ar.depth_some.2 ⟨e, fun x hx => hno x hx⟩
  unfold ar.depthI at k
  rw [this] at k; exact k
 ·rw [az (by omega)]
  refine hnx hlt _ _ ⟨rfl, rfl, fun x hx => ?_⟩
  by_cases e2 : x = i
  ·rw [e2]; exact e
  ·exact hno x (by omega)
theorem Kn.lower {g h h' : Hp} {L : List (Nat × Blk)} (K : Kn h h' L) (lg : g.le h) : ∃ g', Kn g g' L /\ g'.le h' /\ ∀ c, h c ≠ none -> g c = none -> g' c = none := by
 refine ⟨fun c => if c ∈ L.map Prod.fst then h' c else g c, ⟨fun c x e => ?_, fun e he => ?_, fun e he => ?_, K.nd⟩, fun c x e => ?_, fun c hc hg => ?_⟩
 ·show (if _ then _ else _) = _
  split
  ·exact K.le _ _ (lg _ _ e)
  ·exact e
 ·show (if _ then _ else _) = _
  rw [if_pos (List.mem_map.2 ⟨e, he, rfl⟩)]; exact K.mem e he
 ·exact aw lg (K.new e he)
 ·change (if _ then _ else _) = _ at e
  split at e
  ·exact e
  ·exact K.le _ _ (lg _ _ e)
 ·show (if _ then _ else _) = _
  split
  ·rename_i hm
   obtain ⟨e, he, rfl⟩ := List.mem_map.1 hm
   exact absurd (K.new e he) hc
  ·exact hg
theorem vo {g h : Hp} {b : Nat} {s2 : Sl} {σ : ar} {S : Nat -> Bool} {R : Value -> Hp -> Prop} (lg : g.le h) (hsg : jP g b σ) (ok : σ.Ok) (hSg : cy g s2 (2 ^ σ.n) S)
  (k : ∀ w h' g', h.le h' -> g.le g' -> g'.le h' -> (∀ c, h c ≠ none -> g c = none -> g' c = none) -> zD g' cf #[] w (2 ^ (σ.n + σ.k)) (σ.leads S) -> R (.func (.func cf) #[] w) h') : cb #[.pointer (some ⟨b, 0, none⟩), s2.v] h R := by
 apply sY
 refine uf_ ?_
 have hn := dA ok
 have hS := hSg.mono lg
 have hl := hS.len
 have hfx := ok.fixed
 obtain ⟨M, st, hold, bad, next, fxg, _, _, hnt⟩ := id hsg
 have fx := lg _ _ fxg
 have K0 := Kn.nil h
 (with_reducible apply Kn.al); (assumption); (intro b4 h1 K1 l1 hb4)
 rw [hl]
 refine ⟨Int.natCast_nonneg _, Int.le_refl _, by omega, by omega, ?_⟩
 (with_reducible apply Kn.al); (assumption); (intro b7 h2 K2 l2 hb7)
 rw [Int.toNat_natCast, Nat.mul_one, bM, hE] at K2
 rw [Int.toNat_natCast]
 (with_reducible apply Kn.al); (assumption); (intro b9 h3 K3 l3 hb9)
 (((with_reducible apply Kn.wr); (assumption); ((focus ((repeat first | exact .head | apply Upd.tail); done)))))
 ·exact Nat.le_refl _
 intro h4 K4 _
 refine aq (2 ^ σ.n) (fun i vs h' => vs = [.pointer (some ⟨b4, 0, none⟩), .pointer (some ⟨b9, 0, none⟩), s2.v, I (2 ^ σ.n : Nat), I i] /\
  ∃ T, Kn h h' [(b9, .inl ⟨[(arr b7 (2 ^ σ.n)).v], 1, false⟩), (b7, .inl ⟨tb (2 ^ σ.n) T, 2 ^ σ.n, false⟩), (b4, .inl ⟨[.pointer (some ⟨b, 0, none⟩)], 1, false⟩)] /\ ∀ x, T x = true ↔ ∃ t, t < i /\ S t = true /\ t &&& σ.fixed = x)
  ⟨rfl, _, K4, fun x => ⟨fun e => by simp at e, fun ⟨t, e, _⟩ => by omega⟩⟩ ?_
 clear K4 K3 K2 K1 K0 l1 l2 l3 hb4 hb7 hb9
 rintro i _ h5 nxt hi ⟨rfl, T, K, hT⟩ hnx
 refine ⟨b4, 0, b9, 0, s2, _, _, rfl, ?_⟩
 by_cases hlt : i < 2 ^ σ.n
 ·refine aH (by rw [decide_eq_true_eq]; exact_mod_cast hlt) ?_
  rw [dg]
  obtain ⟨bS, oS, ha, e1, e2⟩ := (hS.mono K.le).get hlt
  refine ⟨bS, oS, ha, by omega, e1, _, e2, ?_⟩
  have hle : i &&& σ.fixed <= i := Nat.and_le_left
  have fin : ∀ v h6, v = (T (i &&& σ.fixed) || S i) -> Kn h h6 [(b9, .inl ⟨[(arr b7 (2 ^ σ.n)).v], 1, false⟩), (b7, .inl ⟨(tb (2 ^ σ.n) T).set (i &&& σ.fixed) (.bool v), 2 ^ σ.n, false⟩), (b4, .inl ⟨[.pointer (some ⟨b, 0, none⟩)], 1, false⟩)] ->
    nxt [.pointer (some ⟨b4, 0, none⟩), .pointer (some ⟨b9, 0, none⟩), s2.v, I (2 ^ σ.n : Nat), I (W ((i : Int) + 1))] h6 := by
   intro v h6 hv K6
   rw [az (by omega)]
   rw [iL] at K6
   refine hnx hlt _ _ ⟨rfl, _, K6, fun x => ?_⟩
   by_cases e : x = i &&& σ.fixed
   ·rw [if_pos e, hv, Bool.or_eq_true, hT, e]
    constructor
    ·rintro (⟨t, q1, q2, q3⟩ | q)
     ·exact ⟨t, by omega, q2, q3⟩
     ·exact ⟨i, by omega, q, rfl⟩
    ·rintro ⟨t, q1, q2, q3⟩
     by_cases e2 : t = i
     ·subst e2; exact .inr q2
     ·exact .inl ⟨t, by omega, q2, q3⟩
   ·rw [if_neg e, hT]
    constructor
    ·rintro ⟨t, q1, q⟩; exact ⟨t, by omega, q⟩
    ·rintro ⟨t, q1, q2, q3⟩
     by_cases e2 : t = i
     ·subst e2; exact absurd q3.symm e
     ·exact ⟨t, by omega, q2, q3⟩
  repeat' (refine kr_ ?_)
  rw [pc (by omega) (by omega)]
  refine ⟨by omega, by dsimp only; omega, ?_⟩
  refine Kn.rd K (.tail _ (.head _)) (x := T (i &&& σ.fixed)) (by rw [Nat.zero_add, Nat.mul_one, Int.toNat_natCast]; exact jC (by omega)) ?_
  refine ad (fun e => ?_) (fun e => ?_)
  ·refine ⟨b7, 0, rfl, by omega, by dsimp only; omega, ?_⟩
   (((with_reducible apply Kn.wr); (assumption); ((focus ((repeat first | exact .head | apply Upd.tail); done)))))
   ·rw [eV]; omega
   intro h6 K6 _
   rw [bk, Nat.zero_add, Int.toNat_natCast, Nat.mul_one] at K6
   exact fin _ h6 (by rw [e]; rfl) K6
  ·refine ⟨b7, 0, rfl, by omega, by dsimp only; omega, ?_⟩
   (((with_reducible apply Kn.wr); (assumption); ((focus ((repeat first | exact .head | apply Upd.tail); done)))))
   ·rw [eV]; omega
   intro h6 K6 _
   rw [bk, Nat.zero_add, Int.toNat_natCast, Nat.mul_one] at K6
   exact fin _ h6 (by rw [e]; rfl) K6
 refine ak (by rw [decide_eq_false_iff_not]; omega) ?_
 obtain ⟨g', Kg, lg', hnew⟩ := K.lower lg
 refine k _ h5 g' K.le Kg.le lg' hnew fun c hc h' l R' kk => ?_
 apply qw
 refine uf_ ?_
 have K' := Kg.mono l
 clear K Kg fx hnx
 have hcn := ok.next c hc
 repeat' (refine kr_ ?_)
 obtain ⟨bx, ox, hax, e1, e2⟩ := wq.get (hnt.mono K'.le) hc
 refine ⟨bx, ox, hax, by omega, e1, _, e2, ?_⟩
 refine ⟨b7, 0, rfl, by omega, by dsimp only; omega, ?_⟩
 refine Kn.rd K' (.tail _ (.head _)) (x := T (σ.next c)) (by rw [Nat.zero_add, Nat.mul_one, Int.toNat_natCast]; exact jC (by omega)) ?_
 refine dl ?_ kk
 rw [Bool.eq_iff_iff, hT]
 unfold ar.leads
 rw [cd]
 constructor
 ·rintro ⟨t, q1, q2, q3⟩
  exact ⟨t, by omega, by unfold ar.goes; rw [q2, q3]; simp⟩
 ·rintro ⟨t, q1, q2⟩
  unfold ar.goes at q2
  rw [Bool.and_eq_true, decide_eq_true_eq] at q2
  exact ⟨t, by omega, q2.1, q2.2⟩
theorem rN {h : Hp} {b : Nat} {s2 : Sl} {σ : ar} {S : Nat -> Bool} {R : Value -> Hp -> Prop} (hs : jP h b σ) (ok : σ.Ok) (hS : cy h s2 (2 ^ σ.n) S)
  (k : ∀ w h', h.le h' -> zD h' cf #[] w (2 ^ (σ.n + σ.k)) (σ.leads S) -> R (.func (.func cf) #[] w) h') : cb #[.pointer (some ⟨b, 0, none⟩), s2.v] h R :=
 vo (Hp.le_refl h) hs ok hS fun w h' g' l _ l2 _ hA => k w h' l fun c hc h'' l' R' kk => hA c hc h'' (Hp.le_trans l2 l') R' kk
theorem FW {h : Hp} {t : Sl} {n : Nat} {T U : Nat -> Bool} (e : cy h t n T) (f : ∀ j, j < n -> T j = U j) : cy h t n U := by
 unfold cy at e ⊢
 rwa [show (List.range n).map U = (List.range n).map T from List.map_congr_left fun j hj => (f j (List.mem_range.1 hj)).symm]
theorem cy.wo {g h h' : Hp} {L : List (Nat × Blk)} {t : Sl} {n : Nat} {T : Nat -> Bool} (K : Kn g h L) (e : cy (h'.sub h) t n T) : cy (h'.wo (L.map Prod.fst)) t n T :=
 cy.mono (nr (sub_le _ _) fun b hb => by
  cases hx : h b with
  | none => exact absurd hx (K.has b hb)
  | some x => exact jS hx) e
theorem AO {h : Hp} {b4 z n c : Nat} {t : Sl} {T : Nat -> Bool} {R : Value -> Hp -> Prop} (f : h b4 = some (.inl ⟨[t.v], z, false⟩)) (hT : cy h t n T) (hc : c < n) (k : R (.bool (T c)) h) :
  jX #[I c, .pointer (some ⟨b4, 0, none⟩)] h R := by
 apply qj
 refine uf_ ?_
 (refine am ?_)
 obtain ⟨b', o', ha, h1, h2⟩ := hT.get hc
 exact ⟨b', o', ha, by omega, h1, _, h2, k⟩
theorem j2 {h : Hp} {b : Nat} {t : Sl} {σ : ar} {T : Nat -> Bool} {R : Value -> Hp -> Prop} (hs : jP h b σ) (ok : σ.Ok) (hT : cy h t (2 ^ σ.n) T)
  (k : ∀ s h', h.le h' -> Own (h'.sub h) s 3 (aX (da σ.n T).ns) -> R (pF (da σ.n T) s) h') : dN #[.pointer (some ⟨b, 0, none⟩), t.v] h R := by
 apply sX
 refine uf_ ?_
 have K0 := Kn.nil h
 (with_reducible apply Kn.al); (assumption); (intro b4 h1 K1 l1 hb4)
 (with_reducible apply Kn.al); (assumption); (intro b6 h2 K2 l2 hb6)
 have f4 := K2.at (.tail _ (.head _))
 refine yq (hs.mono K2.le) ok (fun i hi h' l R kk => AO (l _ _ f4) ((hT.mono K2.le).mono l) hi kk) fun s h3 l3 o3 => ⟨_, _, _, _, rfl, ?_⟩
 have K3 := K2.mono l3
 (((with_reducible apply Kn.wr); (assumption); ((focus ((repeat first | exact .head | apply Upd.tail); done)))))
 ·exact Nat.le_refl _
 intro h4 K4 kp
 refine ⟨_, by rw [af (K4.at (.head _))]; rfl, _, by rw [af (K4.at (.head _))]; rfl, _, by rw [af (K4.at (.head _))]; rfl, ?_⟩
 exact k s h4 K4.le (o3.mono (dT K2.le (K2.at (.head _)) kp))
theorem ln {h : Hp} {n : Nat} {R : Value -> Hp -> Prop} (hn : n <= 16) (k : R (I n) h) : fJ #[I (2 ^ n : Nat)] h R := by
 apply Dt
 refine uf_ ?_
 refine aq n (fun i vs h' => vs = [I (2 ^ n : Nat), I i] /\ h = h') ⟨rfl, rfl⟩ ?_
 rintro i _ _ nxt hi ⟨rfl, rfl⟩ hnx
 refine ⟨_, _, rfl, ?_⟩
 rw [dk (by omega), if_neg (by omega), cu (by omega)]
 by_cases hlt : i < n
 ·have := Nat.pow_lt_pow_right (a := 2) (by omega) hlt
  refine aH (by rw [decide_eq_true_eq]; exact_mod_cast this) ?_
  rw [az (by omega)]
  exact hnx hlt _ _ ⟨rfl, rfl⟩
 ·have hie : i = n := by omega
  subst hie
  exact ak (by simp) k
theorem O7 {n : Nat} (hn : n <= 8) (f : Nat -> Bool) : (da n f).ok = true := by
 have h1 := rH n f 0 []
 have h2 := Nat.pow_le_pow_right (n := 2) (by omega) hn
 have h3 : ¬ 600 < (mkD n f 0 []).2.length := by simp at h1 h2; omega
 unfold da qQ
 rw [if_pos (by omega), Int.toNat_natCast, if_neg h3]
def iw (m : aj) : Bd := if aR m = 0 then da (aQ m).n (aQ m).reach else gH
def lM (m : aj) : Int := if aR m = 0 then ((aQ m).nLay : Int) - 1 else 0
abbrev CL (B : Bd) (l : Int) (s : Sl) : Value := .tuple #[.agg #[I B.v, s.v, I B.r], I l, .bool B.ok]
theorem Dw {h : Hp} {b : Nat} {t : Sl} {σ : ar} {R : Value -> Hp -> Prop} (hs : jP h b σ) (ok : σ.Ok) (hL : xC h t (2 ^ σ.n) σ.nLay σ.front)
  (k : ∀ b' T h', Kn h h' [(b', .inl ⟨tb (2 ^ σ.n) T, 2 ^ σ.n, false⟩)] -> (∀ j, j < 2 ^ σ.n -> T j = σ.reach j) -> R (arr b' (2 ^ σ.n)).v h') : gF #[.pointer (some ⟨b, 0, none⟩), t.v] h R := by
 apply uK
 refine uf_ ?_
 have hn := dA ok
 have h8 := ok.nle
 have hl := hL.len
 have hnl := ar.nLay_le σ
 obtain ⟨M, st, hold, bad, next, fx, _⟩ := id hs
 have K0 := Kn.nil h
 refine cB ?_
 (refine kr_ ?_)
 rw [if_neg (by omega), cu (by omega)]
 refine ⟨Int.natCast_nonneg _, Int.le_refl _, by omega, by omega, ?_⟩
 (with_reducible apply Kn.al); (assumption); (intro b8 h1 K1 l1 hb8)
 rw [Int.toNat_natCast, Nat.mul_one, bM, hE] at K1
 rw [Int.toNat_natCast, hl]
 refine aq σ.nLay (fun i vs h' => vs = [(arr b8 (2 ^ σ.n)).v, t.v, I σ.nLay, I i] /\
  ∃ T, Kn h h' [(b8, .inl ⟨tb (2 ^ σ.n) T, 2 ^ σ.n, false⟩)] /\ ∀ j, j < 2 ^ σ.n -> T j = σ.seen i j) ⟨rfl, _, K1, fun j hj => rfl⟩ ?_
 clear K1 K0 l1 hb8 h1
 rintro i _ h1 nxt hi ⟨rfl, T, K1, hT⟩ hnx
 refine ⟨arr b8 _, t, _, _, rfl, ?_⟩
 by_cases hlt : i < σ.nLay
 rotate_left
 ·refine ak (by rw [decide_eq_false_iff_not]; omega) ?_
  exact k b8 T h1 K1 fun j hj => by rw [hT j hj, show i = σ.nLay by omega]; rfl
 refine aH (by rw [decide_eq_true_eq]; exact_mod_cast hlt) ?_
 obtain ⟨bl, ol, r', ha, h3, h4, hr'⟩ := hL.get hlt
 refine ⟨bl, ol, ha, by omega, by omega, r', K1.le.cell h4, ?_⟩
 have hrl := hr'.len
 rw [hrl]
 refine aq (2 ^ σ.n) (fun j vs h' => vs = [(arr b8 (2 ^ σ.n)).v, t.v, I σ.nLay, I i, r'.v, I (2 ^ σ.n : Nat), I j] /\
  ∃ T, Kn h h' [(b8, .inl ⟨tb (2 ^ σ.n) T, 2 ^ σ.n, false⟩)] /\ ∀ x, x < 2 ^ σ.n -> T x = if x < j then σ.seen (i + 1) x else σ.seen i x) ⟨rfl, T, K1, fun x hx => by rw [if_neg (by omega)]; exact hT x hx⟩ ?_
 clear hT K1 T h4 ha h3 h1
 rintro j _ h1 nxt2 hj ⟨rfl, T, K1, hT⟩ hnx2
 refine ⟨arr b8 _, t, _, _, r', _, _, rfl, ?_⟩
 by_cases hlj : j < 2 ^ σ.n
 rotate_left
 ·refine ak (by rw [decide_eq_false_iff_not]; omega) ?_
  rw [az (by omega)]
  exact hnx hlt _ _ ⟨rfl, T, K1, fun x hx => by rw [hT x hx, if_pos (by omega)]⟩
 refine aH (by rw [decide_eq_true_eq]; exact_mod_cast hlj) ?_
 obtain ⟨br, or, har, hr1, hr2⟩ := (hr'.mono K1.le).get hlj
 refine ⟨br, or, har, by omega, hr1, _, hr2, ?_⟩
 refine ⟨b8, 0, rfl, by omega, by dsimp only; omega, ?_⟩
 refine Kn.rd K1 (.head _) (x := T j) (by rw [Nat.zero_add, Nat.mul_one, Int.toNat_natCast]; exact jC hlj) ?_
 have fin : ∀ v h7, v = σ.seen (i + 1) j -> Kn h h7 [(b8, .inl ⟨(tb (2 ^ σ.n) T).set j (.bool v), 2 ^ σ.n, false⟩)] ->
   nxt2 [(arr b8 (2 ^ σ.n)).v, t.v, I σ.nLay, I i, r'.v, I (2 ^ σ.n : Nat), I (W ((j : Int) + 1))] h7 := by
  intro v h7 hv K7
  rw [az (by omega)]
  rw [iL] at K7
  refine hnx2 hlj _ _ ⟨rfl, _, K7, fun x hx => ?_⟩
  by_cases e2 : x = j
  ·rw [if_pos e2, if_pos (by omega), e2]; exact hv
  ·rw [if_neg e2, hT x hx]
   by_cases e3 : x < j
   ·rw [if_pos e3, if_pos (by omega)]
   ·rw [if_neg e3, if_neg (by omega)]
 have hTj : T j = σ.seen i j := by rw [hT j hlj, if_neg (by omega)]
 refine ad (fun e => ?_) (fun e => ?_) <;> refine ⟨b8, 0, rfl, by omega, by dsimp only; omega, ?_⟩ <;> (((with_reducible apply Kn.wr); (assumption); ((focus ((repeat first | exact .head | apply Upd.tail); done)))))
 ·rw [eV]; omega
 ·intro h7 K7 _
  rw [bk, Nat.zero_add, Int.toNat_natCast, Nat.mul_one] at K7
  exact fin _ h7 (by rw [ar.seen_succ, <- hTj, e]; rfl) K7
 ·rw [eV]; omega
 ·intro h7 K7 _
  rw [bk, Nat.zero_add, Int.toNat_natCast, Nat.mul_one] at K7
  exact fin _ h7 (by rw [ar.seen_succ, <- hTj, e]; rfl) K7
theorem oT {h : Hp} {M : MSl} {m : aj} {R : Value -> Hp -> Prop} (hs : aG h M m) (hm : bU m)
  (k : ∀ s h', h.le h' -> Own (h'.sub h) s 3 (aX (iw m).ns) -> R (CL (iw m) (lM m) s) h') : ir #[aM M] h R := by
 apply Ax
 refine uf_ ?_
 unfold iw lM at k
 have K0 := Kn.nil h
 (with_reducible apply Kn.al); (assumption); (intro b7 h1 K1 l1 hb7)
 (with_reducible apply Kn.al); (assumption); (intro b9 h2 K2 l2 hb9)
 repeat' (refine kr_ ?_)
 refine ct (hs.mono K2.le) hm ⟨_, rfl, ?_⟩
 refine ad (fun e => ?_) (fun e => ?_)
 ·rw [if_neg (ew e), if_neg (ew e)] at k
  (((with_reducible apply Kn.wr); (assumption); ((focus ((repeat first | exact .head | apply Upd.tail); done)))))
  ·exact Nat.le_refl _
  intro h3 K3 _
  refine ⟨_, by rw [af (K3.at (.head _))]; rfl, ⟨none, 0, 0⟩, by rw [af (K3.at (.head _))]; rfl, _, by rw [af (K3.at (.head _))]; rfl, ?_⟩
  exact k ⟨none, 0, 0⟩ h3 K3.le (fL _ _)
 have hc := eG e
 rw [if_pos hc, if_pos hc] at k
 have ok := fT (gD hc)
 repeat' (refine kr_ ?_)
 refine jp (hs.mono K2.le) hm hc fun q h3 l3 hq => ⟨_, _, _, _, _, _, _, rfl, ?_⟩
 have K3 := K2.mono l3
 have hok := O7 ok.nle (aQ m).reach
 simp only [CL, hok] at k
 generalize aQ m = σ at *
 have hn := dA ok
 have hnl := ar.nLay_le σ
 (with_reducible apply Kn.al); (exact K3); (intro b43 h4 K4 l4 hb43)
 (((with_reducible apply Kn.wr); (assumption); ((focus ((repeat first | exact .head | apply Upd.tail); done)))))
 ·exact of_decide_eq_true rfl
 intro h5 K5 kp5
 simp only [dZ, List.set_cons_zero, List.set_cons_succ, Nat.zero_add, Nat.reduceAdd] at K5
 have hq5 := hq.mono (cG hb43 l4 kp5)
 clear K4 K3 kp5
 repeat' (refine kr_ ?_)
 refine kA hq5 ok fun L h6 l6 hL => ⟨_, rfl, ?_⟩
 have K6 := K5.mono l6
 have hll := hL.len
 repeat' (refine kr_ ?_)
 refine ⟨Int.natCast_nonneg _, Int.le_refl _, by omega, by omega, ?_⟩
 have f43 := K6.at (.head _)
 (with_reducible apply Kn.al); (exact Kn.nil h6); (intro b61 h7 K7 l7 hb61)
 rw [Int.toNat_natCast, Nat.mul_one, bM, hE] at K7
 rw [Int.toNat_natCast]
 clear K5 K1 K0 K2 hb61
 refine aq σ.nLay (fun i vs h' => vs = [.pointer (some ⟨b9, 0, none⟩), .pointer (some ⟨b43, 0, none⟩), L.v, (arr b61 (2 ^ σ.n)).v, I i] /\
  ∃ T, Kn h6 h' [(b61, .inl ⟨tb (2 ^ σ.n) T, 2 ^ σ.n, false⟩)] /\
   ∀ j, j < 2 ^ σ.n -> T j = σ.seen i j) ⟨rfl, _, K7, fun j hj => rfl⟩ ?_
 clear K7 l7 h7
 rintro i _ h7 nxt hi ⟨rfl, T, K7, hT⟩ hnx
 refine ⟨b9, 0, b43, 0, L, arr b61 _, _, rfl, ?_⟩
 by_cases hlt : i < σ.nLay
 ·refine aH (by rw [decide_eq_true_eq]; omega) ?_
  obtain ⟨bl, ol, r', ha, h3', h4', hr'⟩ := hL.get hlt
  refine aq (2 ^ σ.n) (fun j vs h' => vs = [.pointer (some ⟨b9, 0, none⟩), .pointer (some ⟨b43, 0, none⟩), L.v, (arr b61 (2 ^ σ.n)).v, I i, I j] /\
   ∃ T, Kn h6 h' [(b61, .inl ⟨tb (2 ^ σ.n) T, 2 ^ σ.n, false⟩)] /\
    ∀ x, x < 2 ^ σ.n -> T x = if x < j then σ.seen (i + 1) x else σ.seen i x) ⟨rfl, T, K7, fun x hx => by rw [if_neg (by omega)]; exact hT x hx⟩ ?_
  clear hT K7 T h7
  rintro j _ h7 nxt2 hj ⟨rfl, T, K7, hT⟩ hnx2
  refine ⟨b9, 0, b43, 0, L, arr b61 _, _, _, rfl, ?_⟩
  (refine kr_ ?_)
  by_cases hlj : j < 2 ^ σ.n
  rotate_left
  ·refine ak (by rw [decide_eq_false_iff_not]; omega) ?_
   rw [az (by omega)]
   exact hnx hlt _ _ ⟨rfl, T, K7, fun x hx => by rw [hT x hx, if_pos (by omega)]⟩
  refine aH (by rw [decide_eq_true_eq]; omega) ?_
  have hTj : T j = σ.seen i j := by rw [hT j hlj, if_neg (by omega)]
  refine ap (fun J => ∀ h8, Kn h6 h8 [(b61, .inl ⟨(tb (2 ^ σ.n) T).set j (.bool (σ.seen (i + 1) j)), 2 ^ σ.n, false⟩)] -> J h8) (fun h8 K8 => ?_) (fun J hJ => ?_)
  ·rw [az (by omega)]
   rw [iL] at K8
   refine hnx2 hlj _ _ ⟨rfl, _, K8, fun x hx => ?_⟩
   by_cases e2 : x = j
   ·rw [if_pos e2, if_pos (by omega), e2]
   ·rw [if_neg e2, hT x hx]
    by_cases e3 : x < j
    ·rw [if_pos e3, if_pos (by omega)]
    ·rw [if_neg e3, if_neg (by omega)]
  have fin : ∀ v h8, v = σ.seen (i + 1) j -> Kn h6 h8 [(b61, .inl ⟨(tb (2 ^ σ.n) T).set j (.bool v), 2 ^ σ.n, false⟩)] -> J h8 := fun v h8 hv K8 => hJ h8 (hv ▸ K8)
  refine ⟨b61, 0, rfl, by omega, by dsimp only; omega, ?_⟩
  refine Kn.rd K7 (.head _) (x := T j) (by rw [Nat.zero_add, Nat.mul_one, Int.toNat_natCast]; exact jC hlj) ?_
  refine ad (fun e => ?_) (fun e => ?_)
  ·refine ⟨b61, 0, rfl, by omega, by dsimp only; omega, ?_⟩
   (((with_reducible apply Kn.wr); (assumption); ((focus ((repeat first | exact .head | apply Upd.tail); done)))))
   ·rw [eV]; omega
   intro h8 K8 _
   rw [bk, Nat.zero_add, Int.toNat_natCast, Nat.mul_one] at K8
   exact fin _ h8 (by rw [ar.seen_succ, <- hTj, e]; rfl) K8
  ·refine ⟨bl, ol, ha, by omega, by omega, r', K7.le.cell h4', ?_⟩
   obtain ⟨br, or, har, hr1, hr2⟩ := (hr'.mono K7.le).get hlj
   refine ⟨br, or, har, by omega, hr1, _, hr2, ?_⟩
   refine ⟨b61, 0, rfl, by omega, by dsimp only; omega, ?_⟩
   (((with_reducible apply Kn.wr); (assumption); ((focus ((repeat first | exact .head | apply Upd.tail); done)))))
   ·rw [eV]; omega
   intro h8 K8 _
   rw [bk, Nat.zero_add, Int.toNat_natCast, Nat.mul_one] at K8
   exact fin _ h8 (by rw [ar.seen_succ, <- hTj, e]; rfl) K8
 ·refine ak (by rw [decide_eq_false_iff_not]; omega) ?_
  repeat' (refine kr_ ?_)
  refine ln (by have := ok.nle; omega) ⟨_, rfl, ?_⟩
  refine nX (by have := ok.nle; omega) (gu (by omega) (K7.at (.head _)) fun j hj => (by rw [hT j hj, show i = σ.nLay by omega]; rfl : T j = σ.reach j)) fun s h8 l8 o8 => ⟨_, _, _, _, rfl, ?_⟩
  have K67 := K6.mono K7.le
  have K8 := K67.mono l8
  (with_reducible apply Kn.al); (exact K8); (intro b129 h9 K9 l9 hb129)
  (((with_reducible apply Kn.wr); (assumption); ((focus ((repeat first | exact .head | apply Upd.tail); done)))))
  ·exact of_decide_eq_true rfl
  intro h10 K10 kp10
  rw [hok]
  refine ak rfl ?_
  repeat' (refine kr_ ?_)
  (((with_reducible apply Kn.wr); (assumption); ((focus ((repeat first | exact .head | apply Upd.tail); done)))))
  ·exact of_decide_eq_true rfl
  intro h11 K11 kp11
  refine ⟨_, by rw [af (K11.at (.tail _ (.tail _ (.head _))))]; rfl, _, by rw [af (K11.at (.tail _ (.tail _ (.head _))))]; rfl, _, by rw [af (K11.at (.tail _ (.tail _ (.head _))))]; rfl, ?_⟩
  rw [hll, cc (by omega) (by omega)]
  exact k s h11 K11.le (o8.mono (Hp.le_trans (rk h7 (cG hb129 l9 kp10)) (dT K67.le (K67.at (.tail _ (.head _))) kp11)))
theorem JE {h : Hp} {b c t : Nat} {σ : ar} {R : Value -> Hp -> Prop} (hs : jP h b σ) (ok : σ.Ok) (hc : c < 2 ^ (σ.n + σ.k)) (ht : t < 2 ^ σ.n) (k : R (.bool (σ.goes c t)) h) :
  jB #[.pointer (some ⟨b, 0, none⟩), I c, I t] h R := by
 apply uP
 refine uf_ ?_
 obtain ⟨M, st, hold, bad, next, fx, _, _, hn⟩ := hs
 have h8 := dA ok
 have hf := ok.fixed
 have hn' := ok.next c hc
 refine cB (cB ?_)
 repeat' (refine am ?_)
 obtain ⟨b', o', ha, h1, h2⟩ := wq.get hn hc
 refine ⟨b', o', ha, by omega, h1, _, h2, ?_⟩
 rw [pc (by omega) (by omega)]
 refine dl ?_ k
 unfold ar.goes
 rw [Bool.eq_iff_iff, decide_eq_true_eq, beq_iff_eq]; omega
theorem AV {h : Hp} {b4 b z s c : Nat} {σ : ar} {R : Value -> Hp -> Prop} (hs : jP h b σ) (f : h b4 = some (.inl ⟨[.pointer (some ⟨b, 0, none⟩)], z, false⟩)) (hc : c < 2 ^ (σ.n + σ.k)) (k : R (.bool (σ.ends c)) h) :
  jV #[I s, I c, .pointer (some ⟨b4, 0, none⟩)] h R := by
 apply qm
 refine uf_ ?_
 (refine am ?_)
 exact qZ hs hc ⟨_, rfl, k⟩
theorem AK {h : Hp} {b4 b5 b z z' s c : Nat} {fid : FuncId} {u w : Array Value} {σ : ar} {P : Nat -> Bool} {R : Value -> Hp -> Prop} (hs : jP h b σ) (f : h b4 = some (.inl ⟨[.pointer (some ⟨b, 0, none⟩)], z, false⟩))
  (f5 : h b5 = some (.inl ⟨[.func (.func fid) u w], z', false⟩)) (hA : zD h fid u w (2 ^ (σ.n + σ.k)) P) (hc : c < 2 ^ (σ.n + σ.k)) (k : R (.bool (σ.hold c && P c)) h) :
  jN #[I s, I c, .pointer (some ⟨b4, 0, none⟩), .pointer (some ⟨b5, 0, none⟩)] h R := by
 apply qy
 refine uf_ ?_
 obtain ⟨M, st, hold, bad, next, fx, hh, hb, _⟩ := hs
 (refine am ?_)
 refine cB ?_
 (refine am ?_)
 obtain ⟨b', o', ha, h1, h2⟩ := hh.get hc
 refine ⟨b', o', ha, by omega, h1, _, h2, ?_⟩
 refine ad (fun e => ?_) (fun e => ?_)
 ·refine ⟨fid, u, w, by rw [af f5]; rfl, ?_⟩
  refine hA c hc h (Hp.le_refl _) _ ⟨_, rfl, ?_⟩
  rw [e] at k; exact k
 ·rw [e] at k; exact k
theorem A2 {h : Hp} {b4 b5 b z z' c : Nat} {fid : FuncId} {u w : Array Value} {σ : ar} {P : Nat -> Bool} {R : Value -> Hp -> Prop} (hs : jP h b σ) (f : h b4 = some (.inl ⟨[.pointer (some ⟨b, 0, none⟩)], z, false⟩))
  (f5 : h b5 = some (.inl ⟨[.func (.func fid) u w], z', false⟩)) (hA : zD h fid u w (2 ^ (σ.n + σ.k)) P) (hc : c < 2 ^ (σ.n + σ.k)) (k : R (.bool (σ.hold c && P c)) h) :
  jT #[I c, .pointer (some ⟨b4, 0, none⟩), .pointer (some ⟨b5, 0, none⟩)] h R := by
 apply ql
 refine uf_ ?_
 obtain ⟨M, st, hold, bad, next, fx, hh, hb, _⟩ := hs
 (refine am ?_)
 refine cB ?_
 (refine am ?_)
 obtain ⟨b', o', ha, h1, h2⟩ := hh.get hc
 refine ⟨b', o', ha, by omega, h1, _, h2, ?_⟩
 refine ad (fun e => ?_) (fun e => ?_)
 ·refine ⟨fid, u, w, by rw [af f5]; rfl, ?_⟩
  refine hA c hc h (Hp.le_refl _) _ ⟨_, rfl, ?_⟩
  rw [e] at k; exact k
 ·rw [e] at k; exact k
theorem AU {h : Hp} {b4 b5 b z z' c t : Nat} {σ : ar} {R : Value -> Hp -> Prop} (hs : jP h b σ) (ok : σ.Ok) (f : h b4 = some (.inl ⟨[.pointer (some ⟨b, 0, none⟩)], z, false⟩))
  (f5 : h b5 = some (.inl ⟨[I c], z', false⟩)) (hc : c < 2 ^ (σ.n + σ.k)) (ht : t < 2 ^ σ.n) (k : R (.bool (σ.goes c t)) h) :
  jR #[I t, .pointer (some ⟨b4, 0, none⟩), .pointer (some ⟨b5, 0, none⟩)] h R := by
 apply qH
 refine uf_ ?_
 repeat' (refine am ?_)
 exact JE hs ok hc ht ⟨_, rfl, k⟩
theorem ez.toOwn {g h : Hp} {A X L : List (Nat × Blk)} {s : Sl} {sz : Nat} {cs : List Value} (o : ez X s sz cs) (hn : s.n <= 9223372036854775807) (K : Kn g h (A ++ (X ++ L))) : ∃ X', iK X' s sz cs /\ Kn g h (A ++ (X' ++ L)) := by
 by_cases h0 : s.n = 0
 ·refine ⟨[], ⟨o.1, hn, .inl ⟨h0, rfl⟩⟩, K.sub (fun e he => ?_) ?_⟩
  ·rcases List.mem_append.1 he with he | he
   ·exact List.mem_append_left _ he
   ·exact List.mem_append_right _ (List.mem_append_right _ he)
  ·have nd := K.nd
   rw [List.map_append, List.map_append] at nd
   rw [List.nil_append, List.map_append]
   exact nd.sublist (List.Sublist.append_left (List.sublist_append_right _ _) _)
 ·rcases o.2.2 with ⟨_, rfl, _⟩ | ⟨b, ha, rfl⟩
  ·exact absurd rfl h0
  ·exact ⟨_, ⟨o.1, hn, .inr ⟨h0, b, _, ha, rfl⟩⟩, K⟩
theorem Fh {g h h' : Hp} {L : List (Nat × Blk)} (K : Kn g h L) : (h'.sub h).le (h'.wo (L.map Prod.fst)) := by
 intro c x e
 have hn : h c = none := jQ (by rw [e]; simp)
 rw [q7 fun hm => K.has c hm hn]
 exact sub_le _ _ _ _ e
def TrX (h h' : Hp) (sS sI : Sl) (l : List (Nat × Nat)) : Prop :=
 ∃ XS XI, iK XS sS 1 ((VL (l.map Prod.fst)).map I) /\ iK XI sI 1 ((VL (l.map Prod.snd)).map I) /\ Kn h h' (XS ++ XI)
theorem Gq (σ : ar) : ∀ k fits, (σ.wit k fits).length = k + 1 := by
 intro k
 induction k with
 | zero => intro fits; rfl
 | succ k ih => intro fits; show (_ :: σ.wit k _).length = _; rw [List.length_cons, ih]
def jx (σ : ar) (k : Nat) (fits : Nat -> Bool) : Nat := ar.leastB (2 ^ σ.n) fun s => fits s && σ.ahead k s
def te (σ : ar) (k s : Nat) : Nat := ar.leastB (2 ^ σ.k) fun x => σ.onB k (σ.at_ s x)
theorem HL (σ : ar) (k : Nat) (fits : Nat -> Bool) : σ.wit (k + 1) fits = (jx σ (k + 1) fits, te σ (k + 1) (jx σ (k + 1) fits)) :: σ.wit k (σ.goes (σ.at_ (jx σ (k + 1) fits) (te σ (k + 1) (jx σ (k + 1) fits)))) := rfl
theorem ez.at {X : List (Nat × Blk)} {h : Hp} {s t : Sl} {ts : List Sl} {i : Nat} (o : ez X s 1 (ts.map Sl.v)) (m : ∀ e ∈ X, h e.1 = some e.2) (hi : ts[i]? = some t) :
  ∃ b x, s.a = some ⟨b, 0, none⟩ /\ h b = some x /\ Hp.cell h b (0 + i * 1) = some t.v := by
 have hlt := get_lt hi
 rcases o.2.2 with ⟨_, _, h0⟩ | ⟨b, ha, rfl⟩
 ·have : ts.length = 0 := by have := congrArg List.length h0; simpa using this
  omega
 ·have hb := m _ (.head _)
  refine ⟨b, _, ha, hb, ?_⟩
  rw [af hb, Nat.zero_add, Nat.mul_one, List.getElem?_map, hi]; rfl
theorem SJ {h : Hp} {b b4 bl : Nat} {r : Sl} {x4 xl : Blk} {σ : ar} {S : Nat -> Bool} {J : Nat -> Hp -> Prop} (hs : jP h b σ) (ok : σ.Ok) (hr : cy h r (2 ^ σ.n) S) (f4 : h b4 = some x4) (fl : h bl = some xl)
  (hJ : ∀ bc h' w, h.le h' -> h' bc = some (.inl ⟨[.func (.func cf) #[] w], 1, false⟩) -> zD h' cf #[] w (2 ^ (σ.n + σ.k)) (σ.leads S) -> J bc h') :
  (cb #[.pointer (some ⟨b, 0, none⟩), r.v] h fun v36 h37 => ∃ (f38 : FuncId) (u39 w40 : Array Value), v36 = (.func (.func f38) u39 w40) /\ (∀ b41 : Nat, h37 b41 = none -> cr (h37.row b41 [.nilFunc] 1) fun h42 => h42 bl = h bl /\ (h42 b4 = h b4 /\
   (∃ (cs43 : List Value) (z44 : Nat), h42 b41 = some (.inl ⟨cs43, z44, false⟩) /\ 0 + 1 <= List.length cs43 /\ cr (h42.row b41 (dZ cs43 0 [(.func (.func f38) u39 w40)]) z44) fun h45 => J b41 h45)))) /\
  (∀ b46 : Nat, h b46 = none -> cr (h.row b46 [.nilFunc] 1) fun h47 => h47 bl = h bl /\ (h47 b4 = h b4 /\ (cb #[.pointer (some ⟨b, 0, none⟩), r.v] h47 fun v48 h49 => ∃ (f50 : FuncId) (u51 w52 : Array Value), v48 = (.func (.func f50) u51 w52) /\
   (∃ (cs53 : List Value) (z54 : Nat), h49 b46 = some (.inl ⟨cs53, z54, false⟩) /\ 0 + 1 <= List.length cs53 /\ cr (h49.row b46 (dZ cs53 0 [(.func (.func f50) u51 w52)]) z54) fun h55 => J b46 h55)))) := by
 refine ⟨?_, ?_⟩
 ·refine rN hs ok hr fun w h4 l4 hA => ⟨_, _, _, rfl, ?_⟩
  refine ae fun b41 h5 hb41 l5 f41 => ?_
  have l35 := Hp.le_trans l4 l5
  refine ⟨(l35 _ _ fl).trans fl.symm, (l35 _ _ f4).trans f4.symm, ?_⟩
  (with_reducible apply bC); (exact f41); (exact l5); (exact hb41); (exact Nat.le_refl 1)
  intro h6 f6 kp l6
  exact hJ b41 h6 w (Hp.le_trans l4 l6) f6 fun c hc h'' l' R' kk' => hA c hc h'' (Hp.le_trans l6 l') R' kk'
 ·refine ae fun b46 h4 hb46 l4 f46 => ⟨(l4 _ _ fl).trans fl.symm, (l4 _ _ f4).trans f4.symm, ?_⟩
  refine vo l4 hs ok hr fun w h5 g' l5 lg lg' hno hA => ⟨_, _, _, rfl, ?_⟩
  have hg46 := hno b46 (by rw [f46]; simp) hb46
  (with_reducible apply bC); (exact l5 _ _ f46); (exact Hp.le_trans l4 l5); (exact hb46); (exact Nat.le_refl 1)
  intro h6 f6 kp l6
  have l56 : g'.le h6 := fun c x e => by
   have hne : c ≠ b46 := by rintro rfl; rw [hg46] at e; cases e
   rw [kp c hne]; exact lg' _ _ e
  exact hJ b46 h6 w l6 f6 fun c hc h'' l' R' kk' => hA c hc h'' (Hp.le_trans l56 l') R' kk'
theorem Ox {h g h1 h5 : Hp} {b6 b73 : Nat} {y : Blk} {sS sI : Sl} {XS XI : List (Nat × Blk)} {pre : List (Nat × Nat)} (lg : h.le g) (h6 : g b6 ≠ none) (oS : ez XS sS 1 ((VL (pre.map Prod.fst)).map I)) (oI : ez XI sI 1 ((VL (pre.map Prod.snd)).map I))
  (nS : sS.n <= 9223372036854775807) (nI : sI.n <= 9223372036854775807) (K : Kn g h1 ((b73, y) :: (XS ++ (XI ++ [])))) (l5 : h.le h5) (kp : ∀ c, c ≠ b6 -> h5 c = h1 c) : TrX h h5 sS sI pre := by
 obtain ⟨XS', oS', K6⟩ := oS.toOwn nS (A := [_]) (L := XI ++ []) K
 rw [<- List.append_assoc] at K6
 obtain ⟨XI', oI', K7⟩ := oI.toOwn nI K6
 rw [List.append_nil, List.append_assoc] at K7
 have nd := K7.nd
 have hm : ∀ e ∈ XS' ++ XI', e ∈ [(b73, y)] ++ (XS' ++ XI') := fun e he => List.mem_append_right _ he
 refine ⟨XS', XI', oS', oI', l5, fun e he => ?_, fun e he => ?_, ?_⟩
 ·have hne : e.1 ≠ b6 := by
   intro e6
   have h1 := K7.new e (hm e he)
   rw [e6] at h1; exact h6 h1
  rw [kp _ hne]; exact K7.mem e (hm e he)
 ·exact aw lg (K7.new e (hm e he))
 ·rw [List.map_append, List.nodup_append] at nd
  exact nd.2.1
set_option maxHeartbeats 2000000 in
theorem xa {h : Hp} {b d : Nat} {σ : ar} {R : Value -> Hp -> Prop} (hs : jP h b σ) (ok : σ.Ok) (hd : d <= 256) (hw : ∃ s, s < 2 ^ σ.n /\ (σ.begins s && σ.ahead d s) = true)
  (k : ∀ sS sI h', TrX h h' sS sI (σ.wit d σ.begins) -> R (.agg #[Sl.v sS, Sl.v sI]) h') : fP #[.pointer (some ⟨b, 0, none⟩), I d] h R := by
 apply sW
 refine uf_ ?_
 have hn := dA ok
 have hk := y4 ok
 have K0 := Kn.nil h
 (with_reducible apply Kn.al); (assumption); (intro b4 h1 K1 l1 hb4)
 (with_reducible apply Kn.al); (assumption); (intro b6 h2 K2 l2 hb6)
 have f4 := K2.at (.tail _ (.head _))
 have f6 := K2.at (.head _)
 have hs2 := hs.mono K2.le
 (refine kr_ ?_)
 refine lR hs2 ok (f := fun _ c => σ.ends c) (fun s i hs' hi h' l R kk => AV (hs2.mono l) (l _ _ f4) (ar.at_lt hs' hi) kk) fun t0 h3 l3 ht0' => ⟨_, rfl, ?_⟩
 have ht0 : cy h3 t0 (2 ^ σ.n) (σ.ahead 0) := ht0'.mono (sub_le _ _)
 (with_reducible apply Kn.al); (exact Kn.nil h3); (intro b13 h4 K4 l4 hb13)
 refine aq d (fun i vs h' => ∃ (out : Sl) (ts : List Sl) (X : List (Nat × Blk)) (g : Hp), vs = [I d, .pointer (some ⟨b4, 0, none⟩), .pointer (some ⟨b6, 0, none⟩), out.v, I d, I i] /\ h2.le g /\ ez X out 1 (ts.map Sl.v) /\
  ts.length = i + 1 /\ Kn g h' X /\ ∀ (j : Nat) (t : Sl), ts[j]? = some t -> cy g t (2 ^ σ.n) (σ.ahead j))
  ⟨arr b13 1, [t0], _, h3, rfl, l3, ⟨rfl, Nat.le_refl _, .inr ⟨b13, rfl, rfl⟩⟩, rfl, K4, fun j t hj => ?_⟩ ?_
 ·cases j with
  | zero => simp at hj; subst hj; exact ht0
  | succ j => simp at hj
 clear K4 l4 hb13 h4 ht0 ht0' l3 h3 t0 b13
 rintro i _ h3 nxt hi ⟨out, ts, X, g, rfl, lg, oX, htl, K, hT⟩ hnx
 have hon := oX.1
 rw [List.length_map, Nat.mul_one] at hon
 refine ⟨_, b4, 0, b6, 0, out, _, _, rfl, ?_⟩
 have f4g := lg _ _ f4
 have f6g := lg _ _ f6
 have hsg := hs2.mono lg
 by_cases hlt : i < d
 ·refine aH (by rw [decide_eq_true_eq]; exact_mod_cast hlt) ?_
  obtain ⟨t, hti⟩ : ∃ t, ts[i]? = some t := ⟨_, List.getElem?_eq_getElem (by omega)⟩
  have hTi := hT i t hti
  have hW : W ((out.n : Int) - 1) = (i : Nat) := by rw [cc (by omega) (by omega)]; omega
  refine ap (fun J => ∀ bc h4 w, h3.le h4 -> h4 bc = some (.inl ⟨[.func (.func cf) #[] w], 1, false⟩) -> zD h4 cf #[] w (2 ^ (σ.n + σ.k)) (σ.leads (σ.ahead i)) -> J bc 0 h4)
   (fun bc h4 w l34 fc hA => ?_) (fun J hJ => ?_)
  ·have K4 := K.mono l34
   have hs4 := hsg.mono K4.le
   have f44 := K4.le _ _ f4g
   (refine kr_ ?_)
   refine lR hs4 ok (f := fun _ c => σ.hold c && σ.leads (σ.ahead i) c) (fun s j hs' hj h' l R kk => AK (hs4.mono l) (l _ _ f44) (l _ _ fc)
    (fun c hc h'' l' R' kk' => hA c hc h'' (Hp.le_trans l l') R' kk') (ar.at_lt hs' hj) kk) fun t' h5 l5 ht' => ⟨_, rfl, ?_⟩
   refine ae fun b64 h6 hb64 l6 f64 => ?_
   have K6 := K4.mono (Hp.le_trans l5 l6)
   have hnew : cy (h6.wo (X.map Prod.fst)) t' (2 ^ σ.n) (σ.ahead (i + 1)) := ht'.mono (Hp.le_trans (rk h4 l6) (Fh K4))
   have lB := K6.leBase
   have KB := K6.base
   generalize h6.wo (X.map Prod.fst) = g6 at *
   rw [show X = X ++ [] from (List.append_nil _).symm] at KB
   refine Kn.grow KB oX (by omega) (by omega) (by omega) ⟨b64, 0, rfl, ax f64⟩ rfl rfl fun out' X' h7 hn' oX' K7 l7 => ?_
   rw [az (by omega)]
   rw [List.append_nil] at K7
   refine hnx hlt _ _ ⟨out', ts ++ [t'], X', g6, rfl, Hp.le_trans lg lB, by rw [List.map_append]; exact oX', by simp [htl], K7, fun j u hj => ?_⟩
   by_cases e : j < ts.length
   ·rw [List.getElem?_append_left e] at hj
    exact (hT j u hj).mono lB
   ·have h1 := get_lt hj
    simp at h1
    rw [List.getElem?_append_right (by omega), show j - ts.length = 0 by omega] at hj
    simp at hj; subst hj
    rw [show j = i + 1 by omega]; exact hnew
  ·rw [hW]
   obtain ⟨bo, xo, hao, hbo, hco⟩ := oX.at (fun e he => K.mem e he) hti
   refine ⟨bo, 0, hao, by omega, by omega, ?_⟩
   (refine kr_ ?_)
   refine ⟨t, by rw [Int.toNat_natCast]; exact hco, ?_⟩
   exact SJ (J := fun bc h => J bc 0 h) (hsg.mono K.le) ok (hTi.mono K.le) (K.le _ _ f4g) hbo hJ
 have hie : i = d := by omega
 subst hie
 refine ak (by simp) ?_
 have hL : xC h3 out (2 ^ σ.n) (i + 1) σ.ahead := ⟨ts, htl, (oX.buf fun e he => K.mem e he).slc_of (by omega), fun j t hj => (hT j t hj).mono K.le⟩
 have lG := Hp.le_trans lg K.le
 clear hT K hsg f6g f4g oX hnx hlt hi lg htl hon X g ts
 have f4G := lG _ _ f4
 have hsG := hs2.mono lG
 (with_reducible apply Kn.al); (exact Kn.nil h3); (intro b73 h4 K4 l4 hb73)
 (refine kr_ ?_)
 refine ur (i + 1) (fun m vs h' => ∃ (g : Hp) (pre : List (Nat × Nat)) (fid : FuncId) (u w : Array Value) (fits : Nat -> Bool) (sS sI : Sl) (XS XI : List (Nat × Blk)),
  vs = [.pointer (some ⟨b4, 0, none⟩), .pointer (some ⟨b6, 0, none⟩), out.v, .pointer (some ⟨b73, 0, none⟩), .func (.func fid) u w, I ((m : Int) - 1)] /\ h3.le g /\ Kn g h' ((b73, .inl ⟨[sS.v, sI.v], 2, false⟩) :: (XS ++ (XI ++ []))) /\
  ez XS sS 1 ((VL (pre.map Prod.fst)).map I) /\ ez XI sI 1 ((VL (pre.map Prod.snd)).map I) /\ pre.length + m = i + 1 /\ zD g fid u w (2 ^ σ.n) fits /\ (m = 0 -> pre = σ.wit i σ.begins) /\
  ∀ k', m = k' + 1 -> pre ++ σ.wit k' fits = σ.wit i σ.begins /\ ∃ s, s < 2 ^ σ.n /\ (fits s && σ.ahead k' s) = true)
  ⟨h3, [], i7, #[.pointer (some ⟨b, 0, none⟩)], #[], σ.begins, ⟨none, 0, 0⟩, ⟨none, 0, 0⟩, [], [], by rw [show (((i + 1 : Nat) : Int) - 1) = i by omega], Hp.le_refl _, K4, ff 1, ff 1, by simp, fun c hc h' l R' kk => uc (hsG.mono l) ok hc kk,
   fun e => by omega, fun k' e => by obtain rfl : k' = i := by omega
                                     exact ⟨rfl, hw⟩⟩ ?_
 clear K4 l4 hb73 h4
 rintro m _ h4 nxt ⟨g, pre, fid, u, w, fits, sS, sI, XS, XI, rfl, lg, K, oS, oI, hpl, hA, hz, hsc⟩ hnx
 refine ⟨b4, 0, b6, 0, out, b73, 0, fid, u, w, _, rfl, ?_⟩
 have f4g := lg _ _ f4G
 have hsg := hsG.mono lg
 have hpl1 := oS.1
 have hpl2 := oI.1
 simp only [List.length_map, bW, Nat.mul_one] at hpl1 hpl2
 cases m with
 | zero =>
  refine ak (by rw [decide_eq_false_iff_not]; omega) ?_
  (refine kr_ ?_)
  (refine kr_ ?_)
  have K2' := K2.mono (Hp.le_trans lG (Hp.le_trans lg K.le))
  (with_reducible apply Kn.wr); (exact K2'); ((focus ((repeat first | exact .head | apply Upd.tail); done)))
  ·exact Nat.le_refl _
  intro h5 K5 kp
  refine ⟨sS, by rw [af (K5.at (.head _))]; rfl, sI, by rw [af (K5.at (.head _))]; rfl, ?_⟩
  refine k sS sI h5 ?_
  rw [<- hz rfl]
  exact Ox (Hp.le_trans K2.le (Hp.le_trans lG lg)) (by rw [lg _ _ (lG _ _ f6)]; simp) oS oI (by omega) (by omega) K K5.le kp
 | succ k =>
 rename_i kf
 obtain ⟨hwit, hex⟩ := hsc k rfl
 have hki : k <= i := by omega
 have hk1 : (((k + 1 : Nat) : Int) - 1) = k := by omega
 rw [hk1]
 refine aH (by rw [decide_eq_true_eq]; omega) ?_
 obtain ⟨hs0, hfit, hno⟩ := ar.leastB_at hex
 rw [show ar.leastB (2 ^ σ.n) (fun s => fits s && σ.ahead k s) = jx σ k fits from rfl] at hs0 hfit hno
 obtain ⟨hx0, hon, hnx0⟩ := ar.leastB_at (ar.ahead_on.1 (by simp only [Bool.and_eq_true] at hfit; exact hfit.2))
 rw [show ar.leastB (2 ^ σ.k) (fun x => σ.onB k (σ.at_ (jx σ k fits) x)) = te σ k (jx σ k fits) from rfl] at hx0 hon hnx0
 have hwk : ∀ Z, (∀ k', k = k' + 1 -> Z = σ.wit k' (σ.goes (σ.at_ (jx σ k fits) (te σ k (jx σ k fits))))) -> (k = 0 -> Z = []) -> σ.wit k fits = (jx σ k fits, te σ k (jx σ k fits)) :: Z := by
  intro Z h1 h2
  cases k with
  | zero => rw [h2 rfl]; rfl
  | succ k' => rw [h1 k' rfl]; rfl
 generalize jx σ k fits = s0 at *
 generalize te σ k s0 = x0 at *
 refine aq s0 (fun j vs h' => vs = [.pointer (some ⟨b4, 0, none⟩), .pointer (some ⟨b6, 0, none⟩), out.v, .pointer (some ⟨b73, 0, none⟩), .func (.func fid) u w, I k, I j] /\ h4 = h') ⟨rfl, rfl⟩ ?_
 rintro j _ _ nxt2 hj ⟨rfl, rfl⟩ hnx2
 refine ⟨b4, 0, b6, 0, out, b73, 0, fid, u, w, _, _, rfl, ?_⟩
 refine ap (fun J => J (!(fits j && σ.ahead k j)) h4) ?_ (fun J hJ => ?_)
 rotate_left
 ·refine hA j (by omega) h4 K.le _ ⟨_, rfl, ?_⟩
  refine ad (fun e => ?_) (fun e => ?_)
  ·rw [show fits j = false by simpa using e] at hJ; exact hJ
  ·rw [show fits j = true by simpa using e, Bool.true_and] at hJ
   obtain ⟨bl, ol, r, ha, h3', h4', hr⟩ := hL.get (show k < i + 1 by omega)
   have l34 := Hp.le_trans lg K.le
   refine ⟨bl, ol, ha, by omega, by omega, r, l34.cell h4', ?_⟩
   obtain ⟨br, or, har, hr1, hr2⟩ := (hr.mono l34).get (show j < 2 ^ σ.n by omega)
   exact ⟨br, or, har, by omega, hr1, _, hr2, hJ⟩
 by_cases hlt : j < s0
 ·refine aH (by rw [hno j hlt]; rfl) ?_
  rw [az (by omega)]
  exact hnx2 hlt _ _ ⟨rfl, rfl⟩
 obtain rfl : j = s0 := by omega
 refine ak (by rw [hfit]; rfl) ?_
 (refine kr_ ?_)
 clear hnx2 hlt hno hj
 refine ap (fun J => ∀ fid u w h5, h4.le h5 -> zD h5 fid u w (2 ^ (σ.n + σ.k)) (σ.onB k) -> J fid u w h5) (fun fid2 u2 w2 h5 l45 hA2 => ?_) (fun J hJ => ?_)
 rotate_left
 ·have hs4 := hsg.mono K.le
  cases k with
  | zero => exact ak rfl (hJ _ _ _ h4 (Hp.le_refl _) fun c hc h'' l' R' kk => qZ (hs4.mono l') hc kk)
  | succ k' =>
   refine aH (by rw [decide_eq_true_eq]; omega) ?_
   obtain ⟨bl, ol, r, ha, h3', h4', hr⟩ := hL.get (show k' < i + 1 by omega)
   have hW : W (((k' + 1 : Nat) : Int) - 1) = (k' : Nat) := by rw [cc (by omega) (by omega)]; omega
   rw [hW]
   refine ⟨bl, ol, ha, by omega, by omega, ?_⟩
   (refine kr_ ?_)
   have l34 := Hp.le_trans lg K.le
   have hc4 := l34.cell h4'
   refine ⟨r, hc4, ?_⟩
   obtain ⟨xl, hxl⟩ : ∃ xl, h4 bl = some xl := by
    unfold Hp.cell at hc4
    split at hc4
    ·rename_i x hx; exact ⟨_, hx⟩
    ·cases hc4
   refine SJ (J := fun bc h => J qc #[] #[.pointer (some ⟨b4, 0, none⟩), .pointer (some ⟨bc, 0, none⟩)] h) hs4 ok (hr.mono l34) (K.le _ _ f4g) hxl fun bc h5 w l45 fc hA2 => ?_
   exact hJ _ _ _ h5 l45 fun c hc h'' l' R' kk => A2 ((hs4.mono l45).mono l') (l' _ _ (l45 _ _ (K.le _ _ f4g))) (l' _ _ fc) (fun c hc h3 l3 R3 k3 => hA2 c hc h3 (Hp.le_trans l' l3) R3 k3) hc kk
 have KA := K.mono l45
 clear K hA
 have hs5 := hsg.mono KA.le
 refine aq x0 (fun i vs h' => vs = [.pointer (some ⟨b4, 0, none⟩), .pointer (some ⟨b6, 0, none⟩), out.v, .pointer (some ⟨b73, 0, none⟩), I k, I j, .func (.func fid2) u2 w2, I i] /\ h5 = h') ⟨rfl, rfl⟩ ?_
 rintro x _ _ nxt3 hx ⟨rfl, rfl⟩ hnx3
 refine ⟨b4, 0, b6, 0, out, b73, 0, _, _, fid2, u2, w2, _, rfl, ?_⟩
 have hat := ar.at_lt hs0 (show x < 2 ^ σ.k by omega)
 (refine kr_ ?_)
 refine Bx hs5 ok hs0 (by omega) ⟨_, rfl, ?_⟩
 refine hA2 _ hat h5 (Hp.le_refl _) _ ⟨_, rfl, ?_⟩
 by_cases hlt : x < x0
 ·refine aH (by rw [hnx0 x hlt]; rfl) ?_
  rw [az (by omega)]
  exact hnx3 hlt _ _ ⟨rfl, rfl⟩
 obtain rfl : x = x0 := by omega
 refine ak (by rw [hon]; rfl) ?_
 clear hnx3 hlt hnx0 hx
 (refine kr_ ?_)
 (with_reducible apply Kn.al); (exact KA); (intro b194 h6 K6 l6 hb194)
 have f194 := K6.at (.head _)
 refine Kn.growIn (A := [_, _]) K6 oS (by omega) (by omega) (by omega) ⟨b194, 0, rfl, ax f194⟩ rfl rfl fun sS' XS' h7 hnS oS' K7 l7 => ?_
 simp only [List.cons_append, List.nil_append] at K7
 clear K6 l6 hb194 f194 KA
 (((with_reducible apply Kn.wr); (assumption); ((focus ((repeat first | exact .head | apply Upd.tail); done)))))
 ·simp
 intro h8 K8 _
 simp only [bk, List.set_cons_zero, List.set_cons_succ, Nat.zero_add, Nat.reduceAdd] at K8
 clear K7 l7
 (refine kr_ ?_)
 (with_reducible apply Kn.al); (exact K8); (intro b205 h9 K9 l9 hb205)
 have f205 := K9.at (.head _)
 refine Kn.growIn2 (A := [_, _, _]) K9 oI (by omega) (by omega) (by omega) ⟨b205, 0, rfl, ax f205⟩ rfl rfl fun sI' XI' h10 hnI oI' K10 l10 => ?_
 simp only [List.cons_append, List.nil_append] at K10
 clear K9 l9 hb205 f205 K8
 (((with_reducible apply Kn.wr); (assumption); ((focus ((repeat first | exact .head | apply Upd.tail); done)))))
 ·simp
 intro h11 K11 _
 simp only [bk, List.set_cons_zero, List.set_cons_succ, Nat.zero_add, Nat.reduceAdd] at K11
 clear K10 l10
 (refine kr_ ?_)
 refine Bx (hsg.mono K11.le) ok hs0 hx0 ⟨_, rfl, ?_⟩
 (with_reducible apply Kn.al); (exact K11); (intro b219 h12 K12 l12 hb219)
 (((with_reducible apply Kn.wr); (assumption); ((focus ((repeat first | exact .head | apply Upd.tail); done)))))
 ·exact Nat.le_refl _
 intro h13 K13 _
 clear K12 l12 hb219 K11
 have nd := K13.nd
 have KS : Kn g h13 ([(b219, .inl ⟨[I (σ.at_ j x : Nat)], 1, false⟩)] ++ ((b73, .inl ⟨[sS'.v, sI'.v], 2, false⟩) :: (XS' ++ (XI' ++ [])))) := by
  refine K13.sub (fun e he => ?_) ?_
  ·rcases List.mem_append.1 he with he | he
   ·rw [List.mem_singleton.1 he]; exact .head _
   ·exact .tail _ (.tail _ (.tail _ he))
  ·simp only [List.map_cons, List.nodup_cons, List.mem_cons, not_or, List.cons_append, List.nil_append] at nd ⊢
   exact ⟨⟨nd.1.2.2.1, nd.1.2.2.2⟩, nd.2.2.2⟩
 obtain ⟨KM, KF⟩ := Kn.split KS
 generalize h13.wo (List.map Prod.fst ((b73, Sum.inl ⟨[sS'.v, sI'.v], 2, false⟩) :: (XS' ++ (XI' ++ [])) : List (Nat × Blk))) = g' at *
 rw [cc (by omega) (by omega)]
 refine hnx k (by omega) _ _ ⟨g', pre ++ [(j, x)], _, _, _, σ.goes (σ.at_ j x), sS', sI', XS', XI', rfl, Hp.le_trans lg KF.le, KM, by simpa [VL] using oS', by simpa [VL] using oI', by simp; omega,
  fun c hc h'' l' R' kk => AU ((hsg.mono KF.le).mono l') ok (l' _ _ (KF.le _ _ f4g)) (l' _ _ (KF.at (.head _))) (ar.at_lt hs0 hx0) hc kk, fun e => ?_, fun k' e => ⟨?_, ?_⟩⟩
 ·rw [<- hwit, hwk [] (fun k' e' => by omega) fun _ => rfl]
 ·rw [<- hwit, hwk _ (fun k'' e' => by obtain rfl : k'' = k' := by omega
                                       rfl) fun e' => by omega, List.append_assoc]; rfl
 ·subst e
  exact ar.onB_next hon
end Go.Lead
