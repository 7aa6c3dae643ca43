/- What functions of the program and of the reference come to, walked one by one, and plain laws about it: part 4. No condition is added to the statement. -/
import Derived.Test.YtcefmhmmnagpdaaGreatZ2
namespace Go.Lead
open Go
set_option linter.unusedSimpArgs false
set_option linter.unusedVariables false
set_option maxRecDepth 100000
set_option maxHeartbeats 1000000
def dn (f : Nat -> Bool) (c n : Nat) : List Value := (List.range n).map fun i => .bool (decide (i < c) && f i)
def i8 (f : Nat -> Nat) (c n : Nat) : List Value := (List.range n).map fun i => I ((if i < c then f i else 0 : Nat) : Int)
theorem pV (f : Nat -> Bool) (c n : Nat) : (dn f c n).length = n := by simp [dn]
theorem JZ (f : Nat -> Nat) (c n : Nat) : (i8 f c n).length = n := by simp [i8]
theorem ia (f : Nat -> Bool) (n : Nat) : List.replicate n (.bool false) = dn f 0 n := by
 apply List.ext_getElem
 ·simp [dn]
 ·intro i h1 h2; simp [dn]
theorem z7 (f : Nat -> Nat) (n : Nat) : List.replicate n (I 0) = i8 f 0 n := by
 apply List.ext_getElem
 ·simp [i8]
 ·intro i h1 h2; simp [i8]
theorem pI {f : Nat -> Bool} {c n : Nat} (h : c < n) : (dn f c n).set c (.bool (f c)) = dn f (c + 1) n := by
 apply List.ext_getElem
 ·simp [dn]
 ·intro i h1 h2
  simp only [dn, List.getElem_set, List.getElem_map, List.getElem_range]
  by_cases e : c = i
  ·subst e; simp
  ·rw [if_neg e]
   have : decide (i < c) = decide (i < c + 1) := by rw [Bool.eq_iff_iff, decide_eq_true_eq, decide_eq_true_eq]; omega
   rw [this]
theorem KW {f : Nat -> Nat} {c n : Nat} (h : c < n) : (i8 f c n).set c (I (f c : Nat)) = i8 f (c + 1) n := by
 apply List.ext_getElem
 ·simp [i8]
 ·intro i h1 h2
  simp only [i8, List.getElem_set, List.getElem_map, List.getElem_range]
  by_cases e : c = i
  ·subst e; simp
  ·rw [if_neg e]
   by_cases h : i < c
   ·rw [if_pos h, if_pos (by omega)]
   ·rw [if_neg h, if_neg (by omega)]
theorem pP (f : Nat -> Bool) (n : Nat) : dn f n n = ((List.range n).map f).map Value.bool := by
 apply List.ext_getElem
 ·simp [dn]
 ·intro i h1 h2
  have hi : i < n := by simpa [dn] using h1
  simp [dn, hi]
theorem Kp (f : Nat -> Nat) (n : Nat) : i8 f n n = (VL ((List.range n).map f)).map I := by
 apply List.ext_getElem
 ·simp [i8, VL]
 ·intro i h1 h2
  have hi : i < n := by simpa [i8] using h1
  simp [i8, VL, hi]
theorem jx.keep {h h' : Hp} {s : Sl} {vs : List (List Nat)} {b z : Nat} {cs : List Value} {ro : Bool} (e : jx h s vs) (f : h b = some (.inl ⟨cs, z, ro⟩)) (hn : IC cs) (hsl : ∀ (j : Nat) (t : Sl), cs[j]? ≠ some t.v) (kp : ∀ c, c ≠ b -> h' c = h c) : jx h' s vs := by
 refine ⟨e.1, e.2.1, fun p hp => ?_⟩
 obtain ⟨b', o, t, h1, h2, h3⟩ := e.2.2 p hp
 refine ⟨b', o, t, h1, ?_, h3.keepN f hn kp⟩
 have hne : b' ≠ b := by
  rintro rfl
  rw [af f] at h2
  exact hsl _ _ h2
 unfold Hp.cell at h2 ⊢
 rw [kp b' hne]; exact h2
theorem Ak (f : Nat -> Bool) (c n : Nat) : IC (dn f c n) := by
 intro j i h
 simp only [dn, List.getElem?_map, Option.map_eq_some_iff] at h
 obtain ⟨a, _, h⟩ := h
 cases h
theorem C6 (f : Nat -> Bool) (c n : Nat) : ∀ (j : Nat) (t : Sl), (dn f c n)[j]? ≠ some t.v := by
 intro j t h
 simp only [dn, List.getElem?_map, Option.map_eq_some_iff] at h
 obtain ⟨a, _, h⟩ := h
 cases h
abbrev Ia (M : MSl) (n k : Int) (st hold bad : Sl) (fixed : Int) (next : Sl) (bf ba : Int) : List Value := [M.no.v, M.ini.v, M.nex.v, M.bad.v, M.hol.v, I n, I k, st.v, hold.v, bad.v, I fixed, next.v, I bf, I ba]
abbrev arr (b n : Nat) : Sl := ⟨some ⟨b, 0, none⟩, n, n⟩
def pS (m : aj) (bH bB bN c : Nat) : List (Nat × Blk) :=
 [(bH, .inl ⟨dn (aQ m).hold c (2 ^ (av m.nodes 36 + av m.nodes 35)), 2 ^ (av m.nodes 36 + av m.nodes 35), false⟩),
  (bB, .inl ⟨dn (aQ m).bad c (2 ^ (av m.nodes 36 + av m.nodes 35)), 2 ^ (av m.nodes 36 + av m.nodes 35), false⟩),
  (bN, .inl ⟨i8 (aQ m).next c (2 ^ (av m.nodes 36 + av m.nodes 35)), 2 ^ (av m.nodes 36 + av m.nodes 35), false⟩)]
theorem wG (m : aj) (v : List (List Nat)) : decide (Kd m v >= 0) = (wB m v).isSome := by
 unfold Kd
 cases wB m v with
 | none => rfl
 | some d => simp
theorem yv {g h : Hp} {M : MSl} {m : aj} {st t : Sl} {b7 b103 bx bH bB bN c : Nat} {n k f0 f1 f2 : Int} {z1 z2 z3 : Nat} {R : Value -> Hp -> Prop} (hs : aG g M m) (hm : bU m) (gd : eZ m)
  (f7 : g b7 = some (.inl ⟨cl M, z1, false⟩)) (f103 : g b103 = some (.inl ⟨[.pointer (some ⟨bx, 0, none⟩)], z2, false⟩))
  (fx : g bx = some (.inl ⟨Ia M n k st (arr bH (2 ^ (av m.nodes 36 + av m.nodes 35))) (arr bB (2 ^ (av m.nodes 36 + av m.nodes 35))) f0 (arr bN (2 ^ (av m.nodes 36 + av m.nodes 35))) f1 f2, z3, false⟩))
  (hst : IntS g st (VL (stP m))) (hc : c < 2 ^ (av m.nodes 36 + av m.nodes 35)) (K : Kn g h (pS m bH bB bN c))
  (hpv : jx h t (fQ m (c % 2 ^ av m.nodes 36) (c / 2 ^ av m.nodes 36)))
  (kk : ∀ h', Kn (h.wo [bH, bB, bN]) h' (pS m bH bB bN (c + 1)) -> R (.tuple #[]) h') :
  nD #[I c, t.v, .pointer (some ⟨b7, 0, none⟩), .pointer (some ⟨b103, 0, none⟩)] h R := by
 apply uM
 refine uf_ ?_
 have a : zm m (fQ m (c % 2 ^ av m.nodes 36) (c / 2 ^ av m.nodes 36)) := uw gd _ _
 have hp13 := IE gd
 have hv1 : (aQ m).hold c = ui m (fQ m (c % 2 ^ av m.nodes 36) (c / 2 ^ av m.nodes 36)) := rfl
 have hv2 : (aQ m).bad c = (wB m (fQ m (c % 2 ^ av m.nodes 36) (c / 2 ^ av m.nodes 36))).isSome := rfl
 have hv3 : (aQ m).next c = dU m.nodes (stP m) (fN m (fQ m (c % 2 ^ av m.nodes 36) (c / 2 ^ av m.nodes 36))) := rfl
 generalize hv : fQ m (c % 2 ^ av m.nodes 36) (c / 2 ^ av m.nodes 36) = v at *
 generalize hN : 2 ^ (av m.nodes 36 + av m.nodes 35) = N at *
 have lg : g.le (h.wo [bH, bB, bN]) := K.leBase
 have K0 : Kn (h.wo [bH, bB, bN]) h (pS m bH bB bN c) := K.base
 unfold pS at K0 kk
 rw [hN] at K0 kk
 clear K
 have hs' := hs.mono lg
 have f7' := lg _ _ f7
 have f103' := lg _ _ f103
 have fx' := lg _ _ fx
 have hst' := hst.mono lg
 have x7 := bL f7'
 have x103 := bL f103'
 have xx := bL fx'
 generalize h.wo [bH, bB, bN] = g1 at *
 clear lg fx f103 f7 hst hs
 repeat' (refine kr_ ?_)
 refine Kq (hs'.mono K0.le) gd hpv a ⟨_, rfl, ?_⟩
 repeat' (refine kr_ ?_)
 refine ⟨by omega, by dsimp only; omega, ?_⟩
 (((with_reducible apply Kn.wr); (assumption); ((focus ((repeat first | exact .head | apply Upd.tail); done)))))
 ·rw [pV]; omega
 intro h24 K1 kp1
 have hpv1 := hpv.keep (K0.at (.head _)) (Ak _ _ _) (C6 _ _ _) kp1
 rw [<- hv1, bk, Nat.zero_add, Int.toNat_natCast, Nat.mul_one, pI hc] at K1
 repeat' (refine kr_ ?_)
 refine Oi (hs'.mono K1.le) gd hpv1 a ⟨_, rfl, ?_⟩
 repeat' (refine kr_ ?_)
 refine ⟨by omega, by dsimp only; omega, ?_⟩
 (((with_reducible apply Kn.wr); (assumption); ((focus ((repeat first | exact .head | apply Upd.tail); done)))))
 ·rw [pV]; omega
 intro h42 K2 kp2
 have hpv2 := hpv1.keep (K1.at (.tail _ (.head _))) (Ak _ _ _) (C6 _ _ _) kp2
 rw [wG, <- hv2, bk, Nat.zero_add, Int.toNat_natCast, Nat.mul_one, pI hc] at K2
 repeat' (refine kr_ ?_)
 refine HL (hs'.mono K2.le) hm gd hpv2 a fun out h63 l63 hout => ⟨out, rfl, ?_⟩
 have K3 := K2.mono l63
 repeat' (refine kr_ ?_)
 refine Fk (hs'.mono K3.le) hm gd.ok (hst'.mono K3.le) (ed gd 36) (nu gd 36) hout (vY gd a.fit) (by rw [hE gd]; have := gd.n8; omega) ⟨_, rfl, ?_⟩
 repeat' (refine kr_ ?_)
 refine ⟨by omega, by dsimp only; omega, ?_⟩
 (((with_reducible apply Kn.wr); (assumption); ((focus ((repeat first | exact .head | apply Upd.tail); done)))))
 ·rw [JZ]; omega
 intro h72 K4 kp4
 rw [<- hv3, bk, Nat.zero_add, Int.toNat_natCast, Nat.mul_one, KW hc] at K4
 exact kk h72 K4
def wl (h : Hp) (t : Sl) (n : Nat) (f : Nat -> Nat) : Prop := IntS h t (VL ((List.range n).map f))
theorem wl.mono {h h' : Hp} {t : Sl} {n : Nat} {f : Nat -> Nat} (l : h.le h') (e : wl h t n f) : wl h' t n f := SlC.mono l e
def jK (h : Hp) (b : Nat) (σ : ar) : Prop := ∃ (M : MSl) (st hold bad next : Sl), h b = some (.inl ⟨Ia M σ.n σ.k st hold bad σ.fixed next σ.bfix σ.bas, 14, false⟩) /\
 cy h hold (2 ^ (σ.n + σ.k)) σ.hold /\ cy h bad (2 ^ (σ.n + σ.k)) σ.bad /\ wl h next (2 ^ (σ.n + σ.k)) σ.next
theorem jK.mono {h h' : Hp} {b : Nat} {σ : ar} (l : h.le h') (e : jK h b σ) : jK h' b σ := by
 obtain ⟨M, st, hold, bad, next, h1, h2, h3, h4⟩ := e
 exact ⟨M, st, hold, bad, next, l _ _ h1, h2.mono l, h3.mono l, h4.mono l⟩
theorem MW {g h : Hp} {L : List (Nat × Blk)} {M : MSl} {m : aj} {kind : Int} {R : Value -> Hp -> Prop} (K : Kn g h L) (hs : aG g M m) (hm : bU m) (gd : eZ m)
  (k : ∀ t h' g', Kn g' h' L -> IntS g' t (VL (aM m.nodes kind)) -> g.le g' -> h.le h' -> R (Sl.v t) h') : bR #[aN M, I kind] h R :=
 j5 (hs.mono K.le) hm fun t h' l hn hb => by
  have l' := Hp.le_trans l (aO _ _)
  have K' := K.mono l'
  refine k t h' _ K'.base ?_ K'.leBase l'
  have := gd.nl
  exact (hb.wo l K.has).slc_of (by omega)
def zs (m : aj) (j p : Nat) : List Nat := ((cm (m.inits.take j) p).map fun k => tt (aD m.nodes p) ((rC m).getD k [])).getD (List.replicate (aD m.nodes p) 0)
theorem OA (m : aj) (p : Nat) : zs m m.inits.length p = (jA m p).getD (List.replicate (aD m.nodes p) 0) := by
 unfold zs jA; rw [List.take_length]
theorem Mj {m : aj} (g : eZ m) {j : Nat} {b : BindP} (hb : m.inits[j]? = some b) (p : Nat) : zs m (j + 1) p = if b.state = (p : Int) then tt (aD m.nodes p) ((rC m).getD b.node.toNat []) else zs m j p := by
 unfold zs
 rw [BQ (zP g.twice).2.1 hb]
 split <;> rfl
theorem Nj (m : aj) {i p : Nat} (h : (stP m)[i]? = some p) : (pZ m).getD i [] = zs m m.inits.length p := by
 rw [OA]
 unfold pZ ko
 rw [List.getD_eq_getElem?_getD, List.getElem?_map, h]; rfl
theorem DC {m : aj} (g : eZ m) {b : BindP} (hb : b ∈ m.inits) : 0 <= b.node /\ b.node < m.nodes.length /\ 0 < ((rC m).getD b.node.toNat []).length /\ ((rC m).getD b.node.toNat []).length <= 4 /\ 0 <= b.state /\ b.state < m.nodes.length := by
 obtain ⟨q1, q2, q3, q4, _⟩ := DY (g.ini b hb)
 have q2' := gf.1 q2
 have q1' := gf.1 q1
 have hf := (Cg g).fit b.node.toNat (by omega) (by omega)
 have := (qW g.ok (show b.node.toNat < m.nodes.length by omega) hf).1
 refine ⟨q2'.1, q2'.2, hf.pos, ?_, q1'.1, q1'.2⟩
 rw [this]; exact eu _ _
set_option maxHeartbeats 4000000 in
theorem dA {h : Hp} {M : MSl} {m : aj} {R : Value -> Hp -> Prop} (hs : aG h M m) (hm : bU m)
  (k0 : ∀ h', h.le h' -> aR m ≠ 0 -> R (.tuple #[.pointer none, .bool false]) h')
  (k1 : aR m = 0 -> eZ m -> ∀ b h', h.le h' -> jK h' b (aQ m) -> R (.tuple #[.pointer (some ⟨b, 0, none⟩), .bool true]) h') : cA #[aN M] h R := by
 apply yS
 refine uf_ ?_
 have K0 := Kn.nil h
 (with_reducible apply Kn.al); (assumption); (intro b7 h1 K1 l1 hb7)
 repeat' (refine kr_ ?_)
 refine uV (hs.mono l1) hm ⟨_, rfl, ad (fun e => k0 h1 l1 (ew e)) (fun e => ?_)⟩
 have hcode := eG e
 have gd := gA hcode
 replace k1 := k1 hcode gd
 clear k0 e hcode l1 hb7 K0
 have hn8 := gd.n8
 have hk5 := gd.k5
 have hp13 := IE gd
 have hp13' := aU (av m.nodes 36 + av m.nodes 35)
 refine ap (fun J => ∀ (bp bx : Nat) (h' g' : Hp) (t : Sl) (L0 : List (Nat × Blk)), Kn g' h' L0 -> (bp, .inl ⟨[.pointer (some ⟨bx, 0, none⟩)], 1, false⟩) ∈ L0 ->
  (bx, .inl ⟨Ia M (av m.nodes 36) (av m.nodes 35) t ⟨none, 0, 0⟩ ⟨none, 0, 0⟩ 0 ⟨none, 0, 0⟩ 0 0, 14, false⟩) ∈ L0 -> (b7, .inl ⟨cl M, 5, false⟩) ∈ L0 -> h.le g' -> IntS g' t (VL (stP m)) -> J bp 0 h') ?_ (fun J hJ => ?_)
 rotate_left
 ·repeat' (first
   | (refine kr_ ?_)
   | (refine iX (hs.mono (Kn.le (by assumption))) hm ⟨_, rfl, ?_⟩)
   | (refine MW (by assumption) hs hm gd fun _ _ _ _ _ _ _ => ⟨_, rfl, ?_⟩)
   | ((with_reducible apply Kn.al); (assumption); (intro _ _ _ _ _))
   | ((((with_reducible apply Kn.wr); (assumption); ((focus ((repeat first | exact .head | apply Upd.tail); done))))); (exact Nat.le_refl _); (intro _ _ _))
   | ((with_reducible apply hJ) <;> first | assumption | ((focus ((repeat first | exact .head _ | apply List.Mem.tail); done))))
   | (refine And.intro ?_ ?_))
 intro bp bx h2 g2 st L0 K2' mp mx m7 l2 hst
 have K2 : Kn g2 h2 [(bp, .inl ⟨[.pointer (some ⟨bx, 0, none⟩)], 1, false⟩), (bx, .inl ⟨Ia M (av m.nodes 36) (av m.nodes 35) st ⟨none, 0, 0⟩ ⟨none, 0, 0⟩ 0 ⟨none, 0, 0⟩ 0 0, 14, false⟩), (b7, .inl ⟨cl M, 5, false⟩)] := by
  refine K2'.sub (fun e he => ?_) ?_
  ·simp only [List.mem_cons, List.not_mem_nil, or_false] at he
   rcases he with rfl | rfl | rfl <;> assumption
  ·have n1 := dt (K2'.at mp) (K2'.at mx) (by simp)
   have n2 := dt (K2'.at mp) (K2'.at m7) (by simp)
   have n3 := dt (K2'.at mx) (K2'.at m7) (by simp)
   simp [n1, n2, n3]
 clear K2' mp mx m7 L0 K1
 have hs2 := hs.mono l2
 repeat' (refine kr_ ?_)
 rw [cd (n := ((av m.nodes 36 : Nat) : Int) + ((av m.nodes 35 : Nat) : Int)) (by omega) (by omega), if_neg (by omega), <- Int.natCast_add, cu (by omega)]
 generalize hN : 2 ^ (av m.nodes 36 + av m.nodes 35) = N at *
 have tN : Int.toNat (N : Int) = N := Int.toNat_natCast N
 have nN : N * 1 = N := Nat.mul_one N
 have zB : aA #[.bool false] N = dn (aQ m).hold 0 N := by rw [bO, ia]
 have zI : aA #[I 0] N = i8 (aQ m).next 0 N := by rw [bO, z7]
 simp only [tN, nN, zB, zI]
 clear tN nN zB zI
 refine ap (fun J => ∀ (bH bB bN : Nat) (h' : Hp) (L0 : List (Nat × Blk)), Kn g2 h' L0 -> (bp, .inl ⟨[.pointer (some ⟨bx, 0, none⟩)], 1, false⟩) ∈ L0 ->
  (bx, .inl ⟨Ia M (av m.nodes 36) (av m.nodes 35) st (arr bH N) (arr bB N) 0 (arr bN N) 0 0, 14, false⟩) ∈ L0 -> (b7, .inl ⟨cl M, 5, false⟩) ∈ L0 ->
  (bH, .inl ⟨dn (aQ m).hold 0 N, N, false⟩) ∈ L0 -> (bB, .inl ⟨dn (aQ m).hold 0 N, N, false⟩) ∈ L0 -> (bN, .inl ⟨i8 (aQ m).next 0 N, N, false⟩) ∈ L0 -> (bH ≠ bB /\ bH ≠ bN /\ bB ≠ bN) -> J h') ?_ (fun J hJ => ?_)
 rotate_left
 ·repeat' (first
   | (refine kr_ ?_)
   | ((with_reducible apply Kn.al); (assumption); (intro _ _ _ _ _))
   | (refine And.intro (by omega) ?_)
   | ((((with_reducible apply Kn.wr); (assumption); ((focus ((repeat first | exact .head | apply Upd.tail); done))))); (exact of_decide_eq_true rfl); (intro _ _ _))
   | ((with_reducible apply hJ) <;> first | assumption | ((focus ((repeat first | exact .head _ | apply List.Mem.tail); done))) | ((have hnd := Kn.nd (by assumption); simp only [List.map_cons, List.map_nil, List.nodup_cons, List.mem_cons, List.not_mem_nil, not_or, or_false, not_false_eq_true, and_true, List.nodup_nil] at hnd; omega)))
   | (refine And.intro ?_ ?_))
 intro bH bB bN h3 L0 K3' mp mx m7 mH mB mN hne
 have e0 : dn (aQ m).hold 0 N = dn (aQ m).bad 0 N := by rw [<- ia, <- ia]
 rw [e0] at mB
 have n1 := dt (K3'.at mp) (K3'.at mx) (by simp)
 have n2 := dt (K3'.at mp) (K3'.at m7) (by simp)
 have n3 := dt (K3'.at mx) (K3'.at m7) (by simp)
 have hb1 : ∀ b ∈ [bH, bB, bN], g2 b = none := by
  intro b hb
  simp only [List.mem_cons, List.not_mem_nil, or_false] at hb
  rcases hb with rfl | rfl | rfl
  ·exact K3'.new _ mH
  ·exact K3'.new _ mB
  ·exact K3'.new _ mN
 have h0b : (dn (aQ m).hold 0 N)[0]? = some (.bool false) := by rw [<- ia, List.getElem?_replicate, if_pos hp13']
 have h0b2 : (dn (aQ m).bad 0 N)[0]? = some (.bool false) := by rw [<- ia, List.getElem?_replicate, if_pos hp13']
 have h0n : (i8 (aQ m).next 0 N)[0]? = some (I 0) := by rw [<- z7, List.getElem?_replicate, if_pos hp13']
 have dif : ∀ {b c : Nat} {cs ds : List Value} {z y : Nat} {v w : Value}, (b, .inl ⟨cs, z, false⟩) ∈ L0 -> (c, .inl ⟨ds, y, false⟩) ∈ L0 -> cs[0]? = some v -> ds[0]? = some w -> v ≠ w -> b ≠ c := by
  intro b c cs ds z y v w hb hc e1 e2 hvw hbc
  subst hbc
  have := (K3'.at hb).symm.trans (K3'.at hc)
  simp only [Option.some.injEq, Sum.inl.injEq, Row.mk.injEq] at this
  rw [this.1, e2] at e1
  exact hvw (Option.some.inj e1).symm
 have K3 : Kn g2 h3 (pS m bH bB bN 0 ++ [(bp, .inl ⟨[.pointer (some ⟨bx, 0, none⟩)], 1, false⟩), (bx, .inl ⟨Ia M (av m.nodes 36) (av m.nodes 35) st (arr bH N) (arr bB N) 0 (arr bN N) 0 0, 14, false⟩), (b7, .inl ⟨cl M, 5, false⟩)]) := by
  refine K3'.sub (fun e he => ?_) ?_
  ·simp only [pS, hN, List.mem_append, List.mem_cons, List.not_mem_nil, or_false] at he
   rcases he with (rfl | rfl | rfl) | rfl | rfl | rfl <;> assumption
  ·have a1 := dif mH mp h0b rfl (by simp)
   have a2 := dif mH mx h0b rfl (by simp)
   have a3 := dif mH m7 h0b rfl (by simp)
   have a4 := dif mB mp h0b2 rfl (by simp)
   have a5 := dif mB mx h0b2 rfl (by simp)
   have a6 := dif mB m7 h0b2 rfl (by simp)
   have a7 := dif mN mp h0n rfl (by simp)
   have a8 := dif mN mx h0n rfl (by simp)
   have a9 := dif mN m7 h0n rfl (by simp)
   simp [pS, hne.1, hne.2.1, hne.2.2, n1, n2, n3, a1, a2, a3, a4, a5, a6, a7, a8, a9]
 clear dif h0b h0b2 h0n e0 n1 n2 n3 mp mx m7 mH mB mN K3' L0 K2
 have Kf : Kn g2 h3 (pS m bH bB bN 0) := K3.sub (fun e he => List.mem_append_left _ he) (by simp [pS, hne.1, hne.2.1, hne.2.2])
 have nB : ∀ b ∈ [bp, bx, b7], b ∉ [bH, bB, bN] := by
  have hnd := K3.nd
  simp only [pS, List.cons_append, List.nil_append, List.map_cons, List.map_nil, List.nodup_cons, List.mem_cons, List.not_mem_nil, not_or, or_false, not_false_eq_true, and_true, List.nodup_nil] at hnd
  intro b hb hb2
  simp only [List.mem_cons, List.not_mem_nil, or_false] at hb hb2
  omega
 have f7 : (h3.wo [bH, bB, bN]) b7 = some (.inl ⟨cl M, 5, false⟩) := by
  rw [qT (nB _ (by simp))]; exact K3.at (by simp)
 have fp : (h3.wo [bH, bB, bN]) bp = some (.inl ⟨[.pointer (some ⟨bx, 0, none⟩)], 1, false⟩) := by
  rw [qT (nB _ (by simp))]; exact K3.at (by simp)
 have fx : (h3.wo [bH, bB, bN]) bx = some (.inl ⟨Ia M (av m.nodes 36) (av m.nodes 35) st (arr bH N) (arr bB N) 0 (arr bN N) 0 0, 14, false⟩) := by
  rw [qT (nB _ (by simp))]; exact K3.at (by simp)
 have lB : g2.le (h3.wo [bH, bB, bN]) := Kf.leBase
 have hsB := hs2.mono lB
 have hstB := hst.mono lB
 have Kr := Kn.of (mG h3 [bH, bB, bN])
 repeat' (refine kr_ ?_)
 subst hN
 refine Nt (B := [bH, bB, bN]) (st := fun c h' => Kn (h3.wo [bH, bB, bN]) h' (pS m bH bB bN c)) hsB hm gd Kf.has (fun c h1 h2 K l => K.mono l) Kf.base (fun c hc h4 t l4 K hpv R' hR' => ?_) (fun h4 l4 K4 => ⟨rfl, ?_⟩)
 ·exact yv hsB hm gd f7 fp fx hstB hc K hpv fun h5 K5 => hR' h5 ⟨Hp.le_trans K.leBase K5.le, K5.mem, fun e he => by
   have := K5.nd
   exact aw K.leBase (K5.new e he), K5.nd⟩ K5.le
 have K5 : Kn g2 h4 (pS m bH bB bN (2 ^ (av m.nodes 36 + av m.nodes 35)) ++ [(bp, .inl ⟨[.pointer (some ⟨bx, 0, none⟩)], 1, false⟩), (bx, .inl ⟨Ia M (av m.nodes 36) (av m.nodes 35) st (arr bH (2 ^ (av m.nodes 36 + av m.nodes 35))) (arr bB (2 ^ (av m.nodes 36 + av m.nodes 35))) 0 (arr bN (2 ^ (av m.nodes 36 + av m.nodes 35))) 0 0, 14, false⟩), (b7, .inl ⟨cl M, 5, false⟩)]) := by
  refine ⟨Hp.le_trans lB l4, fun e he => ?_, fun e he => ?_, K3.nd⟩
  ·rcases List.mem_append.1 he with he | he
   ·exact K4.mem e he
   ·simp only [List.mem_cons, List.not_mem_nil, or_false] at he
    rcases he with rfl | rfl | rfl
    ·exact l4 _ _ fp
    ·exact l4 _ _ fx
    ·exact l4 _ _ f7
  ·rcases List.mem_append.1 he with he | he
   ·have hm : e.1 ∈ [bH, bB, bN] := by
     simp only [pS, List.mem_cons, List.not_mem_nil, or_false] at he
     rcases he with rfl | rfl | rfl <;> simp
    exact hb1 _ hm
   ·exact K3.new e (List.mem_append_right _ he)
 unfold pS at K5
 simp only [List.cons_append, List.nil_append] at K5
 clear K4 Kr hstB hsB lB fx fp f7 nB Kf K3 l4 h3
 have hil := gd.il
 have hxl := gd.xl
 have hin := hs2.inits.len
 have hp36 : (stP m).length <= m.nodes.length := gv m.nodes 36
 have hnl := gd.nl
 have hstn : st.n = (stP m).length := by have := hst.len; rw [bW] at this; exact this
 repeat' (refine kr_ ?_)
 refine tW (hs2.mono K5.le) hm gd (hs2.mono K5.le).nexts (by omega) ⟨_, rfl, ?_⟩
 repeat' (refine kr_ ?_)
 (((with_reducible apply Kn.wr); (assumption); ((focus ((repeat first | exact .head | apply Upd.tail); done)))))
 ·exact of_decide_eq_true rfl
 intro h5 K6 _
 clear K5
 repeat' (refine kr_ ?_)
 refine Gz (hs2.mono K6.le) hm gd fun vt h6 l6 hvn hpv => ⟨vt, rfl, ?_⟩
 have K7 := K6.mono l6
 clear K6 l6
 have hs6 := hs2.mono K7.le
 have hst6 := hst.mono K7.le
 have f7 : h6 b7 = some (.inl ⟨cl M, 5, false⟩) := K7.at (by simp)
 have fp : h6 bp = some (.inl ⟨[.pointer (some ⟨bx, 0, none⟩)], 1, false⟩) := K7.at (by simp)
 repeat' (refine kr_ ?_)
 refine oK hs6 hm hst6 (ed gd 36) (nu gd 36) fun out ts h7 c1 hon => ⟨out, rfl, ?_⟩
 have Kr := Kn.of (Hp.le_trans c1.le (aO _ _))
 repeat' (refine kr_ ?_)
 have aV := Cg gd
 refine aq m.inits.length (fun j vs h' => ∃ ts : List Sl, vs = [.pointer (some ⟨b7, 0, none⟩), .pointer (some ⟨bp, 0, none⟩), vt.v, out.v, M.ini.v, I M.ini.n, I j] /\ h6.le (h'.offS out) /\ Buf h' out 1 (ts.map Sl.v) /\ ts.length = (stP m).length /\
  ∀ (i p : Nat) (t : Sl), (stP m)[i]? = some p -> ts[i]? = some t -> IntS (h'.offS out) t (VL (zs m j p))) ⟨ts, rfl, c1.le, c1.buf, by rw [c1.len, kb], fun i p t hp ht => ?_⟩ ?_
 ·obtain ⟨b, e1, e2, e3⟩ := c1.row i t ht
  have hz : (cW m.nodes (stP m)).getD i [] = zs m 0 p := by
   unfold cW zs
   rw [List.getD_eq_getElem?_getD, List.getElem?_map, hp]; rfl
  have hz4 : ((cW m.nodes (stP m)).getD i []).length <= 4 := by
   unfold cW
   rw [List.getD_eq_getElem?_getD, List.getElem?_map, hp]
   simp only [Option.map_some, Option.getD_some, List.length_replicate]
   exact eu _ _
  rw [hz] at e1 e3 hz4
  rw [e1]
  exact ⟨by dsimp only; omega, by simp [bW], .inr ⟨b, 0, rfl, ax e3⟩⟩
 clear c1 Kr ts h7
 rintro j _ h8 next hj ⟨ts, rfl, l8, hbuf, htl, hts⟩ hnx
 have lo := aO h8 out
 have l68 := Hp.le_trans l8 lo
 refine ⟨_, _, _, _, vt, out, M.ini, _, _, rfl, ?_⟩
 by_cases hlt : j < m.inits.length
 rotate_left
 ·have hje : j = m.inits.length := by omega
  subst hje
  refine ak (by simp; omega) ?_
  have K9 := K7.mono l68
  have hbl : (pZ m).length = (stP m).length := by unfold pZ ko; rw [List.length_map]
  have iss : IntSS h8 out ((pZ m).map VL) := ⟨ts, by rw [List.length_map, hbl]; exact htl, hbuf.slc_of (by rw [hon]; have := nu gd 36; omega), fun i h1 h2 => by
   have hi : i < (stP m).length := by omega
   have hpi : (stP m)[i]? = some (stP m)[i] := List.getElem?_eq_getElem hi
   have := (hts i _ _ hpi (List.getElem?_eq_getElem h1)).mono lo
   rw [<- Nj m hpi] at this
   rw [List.getElem_map]
   rwa [List.getD_eq_getElem?_getD, List.getElem?_eq_getElem (by rw [hbl]; exact hi)] at this⟩
  have hs8 := hs6.mono l68
  clear hbuf hts
  repeat' (refine kr_ ?_)
  refine tW hs8 hm gd hs8.inits (by omega) ⟨_, rfl, ?_⟩
  repeat' (refine kr_ ?_)
  refine Fk hs8 hm gd.ok (hst6.mono l68) (ed gd 36) (nu gd 36) iss (FM gd) (by rw [hE gd]; omega) ⟨_, rfl, ?_⟩
  repeat' (refine kr_ ?_)
  (((with_reducible apply Kn.wr); (assumption); ((focus ((repeat first | exact .head | apply Upd.tail); done)))))
  ·exact of_decide_eq_true rfl
  intro h9 K10 _
  repeat' (refine kr_ ?_)
  (((with_reducible apply Kn.wr); (assumption); ((focus ((repeat first | exact .head | apply Upd.tail); done)))))
  ·exact of_decide_eq_true rfl
  intro h10 K11 _
  repeat' (refine kr_ ?_)
  refine k1 bx h10 (Hp.le_trans l2 K11.le) ⟨M, st, arr bH (2 ^ (av m.nodes 36 + av m.nodes 35)), arr bB (2 ^ (av m.nodes 36 + av m.nodes 35)), arr bN (2 ^ (av m.nodes 36 + av m.nodes 35)), K11.at (by ((focus ((repeat first | exact .head _ | apply List.Mem.tail); done)))), ?_, ?_, ?_⟩
  ·refine ⟨by dsimp only; omega, by simp [aQ], .inr ⟨bH, 0, rfl, ?_⟩⟩
   have := ax (K11.at (.head _))
   rwa [pP] at this
  ·refine ⟨by dsimp only; omega, by simp [aQ], .inr ⟨bB, 0, rfl, ?_⟩⟩
   have := ax (K11.at (.tail _ (.head _)))
   rwa [pP] at this
  ·refine ⟨by dsimp only; omega, by simp [aQ, VL], .inr ⟨bN, 0, rfl, ?_⟩⟩
   have := ax (K11.at (.tail _ (.tail _ (.head _))))
   rwa [Kp] at this
 refine aH (by simp; omega) ?_
 obtain ⟨bd, hbd⟩ : ∃ bd, m.inits[j]? = some bd := ⟨_, List.getElem?_eq_getElem hlt⟩
 obtain ⟨v1, v2, v3, v4, s1, s2⟩ := DC gd (List.mem_of_getElem? hbd)
 obtain ⟨bi, oi, hai, cx1, cx2⟩ := (hs6.mono l68).inits.at hbd
 refine ⟨bi, oi, hai, by omega, by omega, _, cx1, _, cx2, ?_⟩
 refine ae fun b48 h9 hb48 l9 f48' => ?_
 (with_reducible apply bD); (exact f48'); (exact l9); (exact hb48); (exact Nat.le_refl 2)
 intro h10 f48 kp l10
 have l10o := bJ out l10
 have f48o := hbuf.offS_new hb48 f48
 clear f48' kp l9
 have Kr := Kn.of (Hp.le_trans l68 l10)
 have fx6 := K7.at (b := bx) (.tail _ (.tail _ (.tail _ (.tail _ (.head _)))))
 repeat' (refine kr_ ?_)
 refine aq (stP m).length (fun q vs h' => ∃ ts : List Sl, vs = [.pointer (some ⟨b7, 0, none⟩), .pointer (some ⟨bp, 0, none⟩), vt.v, out.v, .pointer (some ⟨b48, 0, none⟩), M.ini.v, I M.ini.n, I j, st.v, I st.n, I q] /\ h6.le (h'.offS out) /\ (h'.offS out) b48 = some (.inl ⟨[I bd.state, I bd.node], 2, false⟩) /\ Buf h' out 1 (ts.map Sl.v) /\ ts.length = (stP m).length /\
  ∀ (i p : Nat) (t : Sl), (stP m)[i]? = some p -> ts[i]? = some t -> IntS (h'.offS out) t (VL (if i < q then zs m (j + 1) p else zs m j p)))
  ⟨ts, rfl, Hp.le_trans l8 l10o, f48o, hbuf.mono l10, htl, fun i p t hp ht => by rw [if_neg (by omega)]; exact (hts i p t hp ht).mono l10o⟩ ?_
 clear Kr f48o l10o l10 f48 hb48 hbuf htl hts ts l68 lo l8 hai cx1 cx2 h9 h8 h10
 rintro q _ h8 next2 hq ⟨ts, rfl, l8, f48, hbuf, htl, hts⟩ hnx2
 have lo := aO h8 out
 have l68 := Hp.le_trans l8 lo
 have g48 := lo _ _ f48
 refine ⟨_, _, _, _, vt, out, _, _, _, _, _, st, _, _, rfl, ?_⟩
 by_cases hlq : q < (stP m).length
 rotate_left
 ·refine ak (by simp; omega) ?_
  rw [az (by omega)]
  refine hnx hlt _ _ ⟨ts, rfl, l8, hbuf, htl, fun i p t hp ht => ?_⟩
  have := hts i p t hp ht
  rwa [if_pos (by have := get_lt hp; omega)] at this
 refine aH (by simp; omega) ?_
 obtain ⟨p, hpq⟩ : ∃ p, (stP m)[q]? = some p := ⟨_, List.getElem?_eq_getElem hlq⟩
 have hpm := ed gd 36 p (List.mem_of_getElem? hpq)
 obtain ⟨bq, oq, hap, hcp⟩ := (hst6.mono l68).get (gl hpq)
 refine ap (fun J => ∀ (ts' : List Sl) (h' : Hp), h6.le (h'.offS out) -> (h'.offS out) b48 = some (.inl ⟨[I bd.state, I bd.node], 2, false⟩) -> Buf h' out 1 (ts'.map Sl.v) -> ts'.length = (stP m).length ->
  (∀ (i p : Nat) (t : Sl), (stP m)[i]? = some p -> ts'[i]? = some t -> IntS (h'.offS out) t (VL (if i < q + 1 then zs m (j + 1) p else zs m j p))) -> J h') ?_ (fun J hJ => ?_)
 ·intro ts' h' a1 a2 a3 a4 a5
  rw [az (by omega)]
  exact hnx2 hlq _ _ ⟨ts', rfl, a1, a2, a3, a4, a5⟩
 refine ⟨bq, oq, hap, by omega, by omega, _, hcp, ?_⟩
 (refine am ?_)
 have hst' := Mj gd hbd p
 refine ad (fun e => ?_) (fun e => ?_)
 ·rw [if_pos (bz e).symm] at hst'
  have f78 := l68 _ _ f7
  (refine am ?_)
  obtain ⟨bn, on, han, hpn', c6, c7, w1, w16⟩ := (hs6.mono l68).nodes.sortc2 hpm gd.ok
  refine ⟨bn, on, han, by omega, hpn', _, c6, _, c7, ?_⟩
  (refine am ?_)
  obtain ⟨bv, ov, t, hav, hvn', hcv, ht⟩ := (hpv.mono l68).at v1 (by rw [aV.len]; exact v2)
  refine ⟨bv, ov, hav, v1, hvn', t, hcv, ?_⟩
  refine HP ht v3 v4 fun t2 h9 l9 ht2 => ⟨t2, rfl, ?_⟩
  rw [w9 gd.ok hpm] at ht2
  have l9o := bJ out l9
  have hbuf9 := hbuf.mono l9
  refine hbuf9.wr (x := t2) (by omega) fun h10 hbuf' ho => ?_
  refine hJ _ h10 (by rw [ho]; exact Hp.le_trans l8 l9o) (by rw [ho]; exact l9o _ _ f48) hbuf' (by rw [List.length_set]; exact htl) fun i p' u hp' hu => ?_
  rw [ho]
  by_cases hiq : i = q
  ·subst hiq
   rw [hpq] at hp'; cases hp'
   rw [List.getElem?_set_self (by omega)] at hu
   obtain rfl := Option.some.inj hu
   rw [if_pos (by omega), hst']
   exact ht2.offL hbuf9
  ·rw [List.getElem?_set_ne (fun e => hiq e.symm)] at hu
   have := (hts i p' u hp' hu).mono l9o
   by_cases h1 : i < q
   ·rw [if_pos h1] at this; rw [if_pos (by omega)]; exact this
   ·rw [if_neg h1] at this; rw [if_neg (by omega)]; exact this
 ·rw [if_neg (fun e' => aK e e'.symm)] at hst'
  refine hJ ts h8 l8 f48 hbuf htl fun i p' u hp' hu => ?_
  have := hts i p' u hp' hu
  by_cases hiq : i = q
  ·subst hiq
   rw [hpq] at hp'; cases hp'
   rw [if_neg (by omega)] at this
   rw [if_pos (by omega), hst']; exact this
  ·by_cases h1 : i < q
   ·rw [if_pos h1] at this; rw [if_pos (by omega)]; exact this
   ·rw [if_neg h1] at this; rw [if_neg (by omega)]; exact this
theorem dR {h h1 h2 h3 : Hp} {b : Nat} {x : Blk} (l : h.le h1) (hb : h1 b = some x) (kp : ∀ c, c ≠ b -> h3 c = h2 c) : (h2.sub h1).le (h3.sub h) := by
 intro c y e
 have hc : c ≠ b := by rintro rfl; rw [jO hb] at e; cases e
 have h1c : h1 c = none := by
  cases hx : h1 c with
  | none => rfl
  | some z => rw [jO hx] at e; cases e
 rw [jB (aw l h1c), kp c hc]
 rw [jB h1c] at e
 exact e
theorem cy.get {h : Hp} {t : Sl} {n : Nat} {T : Nat -> Bool} (e : cy h t n T) {i : Nat} (hi : i < n) : ∃ b o, t.a = some (Addr.mk b o none) /\ (i : Int) < (t.n : Int) /\ Hp.cell h b (o + Int.toNat (i : Int) * 1) = some (.bool (T i)) := by
 have hl := ny.len e
 rw [List.length_map, List.length_range] at hl
 obtain ⟨b, o, ha, hc⟩ := SlC.get e (by omega)
 refine ⟨b, o, ha, by omega, ?_⟩
 rw [Int.toNat_natCast, Nat.mul_one]
 exact hc i _ (by simp [hi])
theorem cy.len {h : Hp} {t : Sl} {n : Nat} {T : Nat -> Bool} (e : cy h t n T) : t.n = n := by
 have hl := ny.len e
 rwa [List.length_map, List.length_range] at hl
theorem wl.get {h : Hp} {t : Sl} {n : Nat} {f : Nat -> Nat} (e : wl h t n f) {i : Nat} (hi : i < n) : ∃ b o, t.a = some (Addr.mk b o none) /\ (i : Int) < (t.n : Int) /\ Hp.cell h b (o + Int.toNat (i : Int) * 1) = some (I (f i : Nat)) := by
 have hl := IntS.len e
 rw [bW, List.length_map, List.length_range] at hl
 obtain ⟨b, o, ha, hc⟩ := SlC.get e (by omega)
 refine ⟨b, o, ha, by omega, ?_⟩
 rw [Int.toNat_natCast, Nat.mul_one]
 exact hc i _ (by simp [VL, hi])
def pG (B : Bd) (s : Sl) : Value := .tuple #[.agg #[I B.v, s.v, I B.r], .bool B.ok]
theorem pY {h : Hp} {t : Sl} {n : Nat} {f : Nat -> Bool} {R : Value -> Hp -> Prop} (hn : n <= 13) (ht : wy h t n f)
  (k : ∀ s h', h.le h' -> Own (h'.sub h) s 3 (aW (da n f).ns) -> R (pG (da n f) s) h') : dB #[t.v] h R := by
 have e : da (n : Int) f = match rj n f with | none => gG | some r => ⟨n, r.2, r.1, true⟩ := by
  unfold da; rw [if_pos (by omega), Int.toNat_natCast]; cases rj n f <;> rfl
 refine Gy hn ht (fun h0 => ?_) (fun r hr s h' l o => ?_)
 ·have := k ⟨none, 0, 0⟩ h (Hp.le_refl _)
  rw [e, h0] at this
  exact this (fL _ _)
 ·have := k s h' l
  rw [e, hr] at this
  exact this o
theorem xd {h : Hp} {b : Nat} {σ : ar} {fid : FuncId} {u w : Array Value} {f : Nat -> Bool} {R : Value -> Hp -> Prop} (hs : jK h b σ) (ok : σ.Ok) (hf : zd h fid u w (2 ^ σ.n) f)
  (k : ∀ s h', h.le h' -> Own (h'.sub h) s 3 (aW (da σ.n f).ns) -> R (pG (da σ.n f) s) h') : ff #[.pointer (some ⟨b, 0, none⟩), .func (.func fid) u w] h R := by
 apply yk
 refine uf_ ?_
 have h8 := ok.nle
 obtain ⟨M, st, hold, bad, next, fx, _, _, _⟩ := hs
 refine ae fun b6 h1 hb6 l1 f6 => ?_
 refine cB ?_
 replace fx := l1 _ _ fx
 (refine am ?_)
 refine qt (by omega) (fun i hi h' l R k => hf i hi h' (Hp.le_trans l1 l) R k) fun t h2 l2 ht => ⟨t, rfl, ?_⟩
 refine pY (by omega) (ht.mono (sub_le _ _)) fun s h3 l3 o3 => ⟨_, _, _, _, rfl, ?_⟩
 have l12 := Hp.le_trans l2 l3
 have f62 := l2 _ _ f6
 (with_reducible apply bD); (exact l3 _ _ f62); (exact Hp.le_trans l1 l12); (exact hb6); (exact Nat.le_refl 3)
 intro h4 f4 kp l4
 refine ⟨_, by rw [af f4]; rfl, _, by rw [af f4]; rfl, _, by rw [af f4]; rfl, ?_⟩
 exact k s h4 l4 (o3.mono (dR (Hp.le_trans l1 l2) f62 kp))
theorem tl {h : Hp} {b s : Nat} {σ : ar} {R : Value -> Hp -> Prop} (hs : jK h b σ) (ok : σ.Ok) (hlt : s < 2 ^ σ.n) (k : R (.bool (σ.begins s)) h) : i0 #[.pointer (some ⟨b, 0, none⟩), I s] h R := by
 apply tZ
 refine uf_ ?_
 obtain ⟨M, st, hold, bad, next, fx, _, _, _⟩ := hs
 have h8 := Nat.pow_le_pow_right (n := 2) (by omega) ok.nle
 have h82 : (2 : Nat) ^ 8 = 256 := rfl
 have hb := ok.bfix
 have ha := ok.bas
 refine cB (cB ?_)
 repeat' (refine am ?_)
 rw [oU (by omega) (by omega)]
 refine dk ?_ k
 unfold ar.begins
 rw [Bool.eq_iff_iff, decide_eq_true_eq, beq_iff_eq]; omega
theorem IntS.up {h h' : Hp} {s : Sl} {xs : List Int} (e : IntS h s xs) (l : h.le h') : IntS h' s xs := e.mono l
theorem IntSS.up {h h' : Hp} {s : Sl} {xs : List (List Int)} (e : IntSS h s xs) (l : h.le h') : IntSS h' s xs := e.mono l
theorem aG.up {h h' : Hp} {M : MSl} {m : aj} (e : aG h M m) (l : h.le h') : aG h' M m := e.mono l
theorem kpU {h0 h h' : Hp} {b : Nat} {x : Blk} {P : Prop} (f : h0 b = some x) (l1 : h0.le h') (l2 : h0.le h) (k : P) : h' b = h b /\ P := ⟨by rw [l1 _ _ f, l2 _ _ f], k⟩
theorem kpN {h0 h h' : Hp} {b : Nat} {P : Prop} (f : h0 b ≠ none) (l1 : h0.le h') (l2 : h0.le h) (k : P) : h' b = h b /\ P := by
 refine ⟨?_, k⟩
 cases hb : h0 b with
 | none => exact absurd hb f
 | some x => rw [l1 _ _ hb, l2 _ _ hb]
theorem rdU {α : Type} {f : α -> Value} {h0 h : Hp} {b z o : Nat} {cs : List Value} {ro : Bool} {x : α} {P : α -> Prop} (e : h0 b = some (.inl ⟨cs, z, ro⟩)) (l : h0.le h) (c : cs[o]? = some (f x)) (k : P x) : ∃ y : α, Hp.cell h b o = some (f y) /\ P y := ⟨x, by rw [af (l _ _ e)]; exact c, k⟩
theorem ku_ {P Q : Prop} (k : Q) (h : Q -> P := by (first
 | ((with_reducible apply rdU); (assumption); ((focus ((repeat (first | exact Hp.le_refl _ | assumption | (refine Hp.le_trans ?_ (by assumption)))); done))); (exact rfl))
 | with_reducible exact And.intro (Eq.refl _)
 | with_reducible exact And.intro True.intro
 | with_reducible exact cB
 | ((with_reducible apply kpU); (assumption); ((focus ((repeat (first | exact Hp.le_refl _ | assumption | (refine Hp.le_trans ?_ (by assumption)))); done))); ((focus ((repeat (first | exact Hp.le_refl _ | assumption | (refine Hp.le_trans ?_ (by assumption)))); done))))
 | ((with_reducible apply kpN); (assumption); ((focus ((repeat (first | exact Hp.le_refl _ | assumption | (refine Hp.le_trans ?_ (by assumption)))); done))); ((focus ((repeat (first | exact Hp.le_refl _ | assumption | (refine Hp.le_trans ?_ (by assumption)))); done))))
 | fail)) : P := h k
set_option maxHeartbeats 2000000 in
theorem vz {h : Hp} {M : MSl} {m : aj} {c : Nat} {R : Value -> Hp -> Prop} (hs : aG h M m) (hm : bU m) (g : eZ m) (hc : c < 2 ^ (av m.nodes 36 + av m.nodes 35))
  (k : ∀ t h', h.le h' -> t.n = m.nodes.length -> jx h' t (fQ m (c % 2 ^ av m.nodes 36) (c / 2 ^ av m.nodes 36)) -> Uf h t -> R (Sl.v t) h') : ii #[aN M, I c] h R := by
 apply Ba
 refine uf_ ?_
 have hn8 := g.n8
 have hk5 := g.k5
 have hp13 := IE g
 have hp8 := T4 g
 have h1' : c % 2 ^ av m.nodes 36 <= c := Nat.mod_le _ _
 have h2' : c / 2 ^ av m.nodes 36 <= c := Nat.div_le_self _ _
 have hpp := aU (av m.nodes 36)
 have hs36 : cf m.nodes (aM m.nodes 36) <= 60 := by have := hE g; show cf m.nodes (stP m) <= 60; omega
 have hs35 : cf m.nodes (aM m.nodes 35) <= 60 := by have := Ly g; show cf m.nodes (inP m) <= 60; omega
 have hshr : lr (c : Int) ((av m.nodes 36 : Nat) : Int) = ((c / 2 ^ av m.nodes 36 : Nat) : Int) := i6 (by omega)
 have hmod : Int.tmod (c : Int) (((2 ^ av m.nodes 36 : Nat)) : Int) = ((c % 2 ^ av m.nodes 36 : Nat) : Int) := eY _ _
 have hwu : IntKind.wrap .u64 ((av m.nodes 36 : Nat) : Int) = (av m.nodes 36 : Nat) := dl (by omega)
 have hsh1 : ai 1 ((av m.nodes 36 : Nat) : Int) = ((2 ^ av m.nodes 36 : Nat) : Int) := cu (by omega)
 refine ae fun b8 h1 hb8 l1 f8 => ?_
 clear hb8
 repeat' (refine ku_ ?_)
 refine jh (hs.mono l1) hm ⟨_, rfl, ?_⟩
 simp only [hwu, hsh1, hshr, hmod]
 repeat' (first
  | (refine ku_ ?_)
  | (rw [if_neg (by omega)])
  | (refine fz (hs.up (by ((focus ((repeat (first | exact Hp.le_refl _ | assumption | (refine Hp.le_trans ?_ (by assumption)))); done))))) hm fun _ _ _ _ => ⟨_, rfl, ?_⟩)
  | (refine iE (hs.up (by ((focus ((repeat (first | exact Hp.le_refl _ | assumption | (refine Hp.le_trans ?_ (by assumption)))); done))))) hm g.ok (IntS.up (by assumption) (by ((focus ((repeat (first | exact Hp.le_refl _ | assumption | (refine Hp.le_trans ?_ (by assumption)))); done))))) (ed g 36) (nu g 36) (by omega) hs36 fun _ _ _ _ => ⟨_, rfl, ?_⟩)
  | (refine iE (hs.up (by ((focus ((repeat (first | exact Hp.le_refl _ | assumption | (refine Hp.le_trans ?_ (by assumption)))); done))))) hm g.ok (IntS.up (by assumption) (by ((focus ((repeat (first | exact Hp.le_refl _ | assumption | (refine Hp.le_trans ?_ (by assumption)))); done))))) (ed g 35) (nu g 35) (by omega) hs35 fun _ _ _ _ => ⟨_, rfl, ?_⟩)
  | (refine wm (hs.up (by ((focus ((repeat (first | exact Hp.le_refl _ | assumption | (refine Hp.le_trans ?_ (by assumption)))); done))))) hm g.ok g.nl (IntSS.up (by assumption) (by ((focus ((repeat (first | exact Hp.le_refl _ | assumption | (refine Hp.le_trans ?_ (by assumption)))); done))))) (zj 36 (c % 2 ^ av m.nodes 36) g) (IntSS.up (by assumption) (by ((focus ((repeat (first | exact Hp.le_refl _ | assumption | (refine Hp.le_trans ?_ (by assumption)))); done))))) (zj 35 (c / 2 ^ av m.nodes 36) g) fun t h' l hn hpv hw => ⟨_, rfl, k t h' (by ((focus ((repeat (first | exact Hp.le_refl _ | assumption | (refine Hp.le_trans ?_ (by assumption)))); done)))) hn hpv fun b o hb => aw (by ((focus ((repeat (first | exact Hp.le_refl _ | assumption | (refine Hp.le_trans ?_ (by assumption)))); done)))) (hw b o hb)⟩)
  | (refine And.intro ?_ ?_))
def ma (ps : List Nat) (f : Nat -> Option (List Nat)) (vs : List (List Nat)) (n : Nat) : Bool := (List.range n).all fun i => match ps[i]? with
 | some p => (match f p with | some v => decide (vs.getD i [] = v) | none => true)
 | none => true
theorem Ir {ps : List Nat} {f : Nat -> Option (List Nat)} {vs : List (List Nat)} {i p : Nat} (h : ps[i]? = some p) : ma ps f vs (i + 1) = (ma ps f vs i && (match f p with | some v => decide (vs.getD i [] = v) | none => true)) := by
 unfold ma
 rw [List.range_succ, List.all_append]
 simp only [List.all_cons, List.all_nil, Bool.and_true, h]
theorem Dt {ps : List Nat} {f : Nat -> Option (List Nat)} {vs : List (List Nat)} : ma ps f vs ps.length = true ↔ ∀ (i p : Nat), ps[i]? = some p -> ∀ v, f p = some v -> vs.getD i [] = v := by
 unfold ma
 rw [List.all_eq_true]
 constructor
 ·intro h i p hp v hv
  have := h i (List.mem_range.2 (get_lt hp))
  rw [hp] at this
  simp only [hv, decide_eq_true_eq] at this
  exact this
 ·intro h i hi
  cases hp : ps[i]? with
  | none => rfl
  | some p =>
   simp only
   cases hv : f p with
   | none => rfl
   | some v => simpa using h i p hp v hv
theorem M2 {ps : List Nat} {f : Nat -> Option (List Nat)} {vs : List (List Nat)} {i : Nat} (hi : i <= ps.length) (h : ma ps f vs i = false) : ma ps f vs ps.length = false := by
 unfold ma at h ⊢
 rw [List.all_eq_false] at h ⊢
 obtain ⟨x, hx, hn⟩ := h
 exact ⟨x, List.mem_range.2 (by have := List.mem_range.1 hx; omega), hn⟩
theorem H4 {h : Hp} {M : MSl} {m : aj} {s t : Sl} {ps : List Nat} {vs : List (List Nat)} {R : Value -> Hp -> Prop} (hs : aG h M m) (hm : bU m) (hok : bZ m.nodes = true) (hp : IntS h s (VL ps)) (hps : ∀ p ∈ ps, p < m.nodes.length) (hpl : ps.length <= 1048576)
  (hv : IntSS h t (vs.map VL)) (hf : lq m.nodes ps vs) (k : R (.bool true) h) : qi #[aN M, s.v, t.v] h R := by
 refine ACalls.drop (EW ?_)
 refine uf_ ?_
 have hn := hs.nodes.len
 have hsn := hp.len
 rw [bW] at hsn
 have htn := hv.len
 rw [List.length_map] at htn
 have hvl := q9 hf
 refine ae fun b9 h1 hb9 l1 f9 => ?_
 refine ak (by simp; omega) ?_
 refine aq ps.length (fun i ws h' => h.le h' /\ h' b9 = some (.inl ⟨cl M, 5, false⟩) /\ ws = [s.v, t.v, .pointer (some ⟨b9, 0, none⟩), I i]) ⟨l1, f9, rfl⟩ ?_
 clear f9 l1 hb9 h1
 rintro i _ h1 next hi ⟨l1, f9, rfl⟩ hnx
 refine ⟨s, t, _, _, _, rfl, ?_⟩
 by_cases hlt : i < ps.length
 rotate_left
 ·exact ak (by simp; omega) ⟨_, l1, k⟩
 refine aH (by simp; omega) ?_
 obtain ⟨p, hpi⟩ : ∃ p, ps[i]? = some p := ⟨_, List.getElem?_eq_getElem hlt⟩
 have hpm := hps p (List.mem_of_getElem? hpi)
 obtain ⟨b, o, ha, hc⟩ := (hp.mono l1).get (gl hpi)
 refine ⟨b, o, ha, by omega, by omega, ?_⟩
 (refine am ?_)
 refine ⟨_, hc, ?_⟩
 obtain ⟨bn, on, han, hpn', c6, c7, w1, w16⟩ := (hs.mono l1).nodes.sortc2 hpm hok
 refine ⟨bn, on, han, by omega, hpn', _, c6, _, c7, ?_⟩
 obtain ⟨bt, ot, c, hta, htc, hcv⟩ := (hv.mono l1).getV (i := i) (by omega)
 have xbt := pJ htc
 have xbn := pJ c6
 have xb := pJ hc
 have xb9 := bL f9
 refine ae fun b36 h2 hb36 l2 f36' => ?_
 have n9 := fresh_ne hb36 f9
 have nt := rZ hb36 htc
 repeat' (((with_reducible apply jm); (assumption); (assumption)))
 (with_reducible apply bD); (exact f36'); (exact Hp.le_trans l1 l2); (exact aw l1 hb36); (exact Nat.le_refl 2)
 intro h3 f36 kp l3
 have l13 : h1.le h3 := cG hb36 l2 kp
 have f93 := l13 _ _ f9
 have f36v : h3 b36 = some (.inl ⟨[I (au m.nodes p).idx, I (bX m.nodes p)], 2, false⟩) := f36
 refine ⟨bt, ot, hta, by omega, by omega, c, l13.cell htc, ?_⟩
 repeat' (refine am ?_)
 refine fo ⟨_, rfl, ?_⟩
 rw [w9 hok hpm]
 have hg := oL hf hpi
 have hcn := hcv.len
 rw [bW] at hcn
 have hcl := eu m.nodes p
 repeat' (refine am ?_)
 refine ak (by simp; omega) ?_
 have hcv3 := hcv.mono l13
 refine aq (aD m.nodes p) (fun q ws h' => h' = h3 /\ ws = [s.v, t.v, .pointer (some ⟨b9, 0, none⟩), I i, .pointer (some ⟨b36, 0, none⟩), I q]) ⟨rfl, rfl⟩ ?_
 rintro q _ _ next2 hq ⟨rfl, rfl⟩ hnx2
 rename_i h3
 refine ⟨s, t, _, _, _, _, _, _, rfl, ?_⟩
 refine ⟨bt, ot, hta, by omega, by omega, c, l13.cell htc, ?_⟩
 by_cases hlq : q < aD m.nodes p
 rotate_left
 ·refine ak (by simp; omega) ?_
  rw [az (by omega)]
  exact hnx hlt _ _ ⟨l3, f93, rfl⟩
 refine aH (by simp; omega) ?_
 refine ⟨bt, ot, hta, by omega, by omega, ?_⟩
 (refine am ?_)
 refine ⟨c, l13.cell htc, ?_⟩
 obtain ⟨bc, oc, hca, hcc, hln⟩ := hcv3.elt (i := q) (by omega)
 refine ⟨bc, oc, hca, by omega, by omega, _, hcc, ?_⟩
 have hlt2 : (vs.getD i []).getD q 0 < 2 ^ bX m.nodes p := by
  rw [List.getD_eq_getElem?_getD, List.getElem?_eq_getElem (show q < (vs.getD i []).length by omega)]
  exact hg.2 _ (List.getElem_mem _)
 refine ca ⟨_, rfl, ak ?_ ?_⟩
 ·rw [Bool.not_eq_false', hY]
  refine ⟨by omega, by omega, ?_⟩
  rw [Int.toNat_natCast]; omega
 ·rw [az (by omega)]
  exact hnx2 hlq _ _ ⟨rfl, rfl⟩
theorem u5 {h : Hp} {M : MSl} {m : aj} {t : Sl} {vs : List (List Nat)} {R : Value -> Hp -> Prop} (hs : aG h M m) (hm : bU m) (hc : aR m = 0)
  (hv : IntSS h t (vs.map VL)) (hf : lq m.nodes (stP m) vs) (k : R (.bool true) h) : lM #[aN M, t.v] h R := by
 refine ACalls.drop (yP ?_)
 refine uf_ ?_
 have g := gA hc
 refine ae fun b8 h1 hb8 l1 f8 => ?_
 repeat' (refine ku_ ?_)
 refine ct (hs.up (by ((focus ((repeat (first | exact Hp.le_refl _ | assumption | (refine Hp.le_trans ?_ (by assumption)))); done))))) hm ⟨_, rfl, aH (by rw [hc]; rfl) ?_⟩
 repeat' (refine ku_ ?_)
 refine fz (hs.up (by ((focus ((repeat (first | exact Hp.le_refl _ | assumption | (refine Hp.le_trans ?_ (by assumption)))); done))))) hm fun p h2 l2 i2 => ⟨p, rfl, ?_⟩
 repeat' (refine ku_ ?_)
 exact H4 (hs.up (by ((focus ((repeat (first | exact Hp.le_refl _ | assumption | (refine Hp.le_trans ?_ (by assumption)))); done))))) hm g.ok i2 (ed g 36) (nu g 36) (hv.up (by ((focus ((repeat (first | exact Hp.le_refl _ | assumption | (refine Hp.le_trans ?_ (by assumption)))); done))))) hf ⟨_, rfl, h, by ((focus ((repeat (first | exact Hp.le_refl _ | assumption | (refine Hp.le_trans ?_ (by assumption)))); done))), k⟩
theorem JT {m : aj} (g : eZ m) {p k : Nat} (h : cm m.inits p = some k) : k < m.nodes.length /\ 0 < ((rC m).getD k []).length /\ ((rC m).getD k []).length <= 4 := by
 obtain ⟨b, hb, _, rfl⟩ := pb h
 obtain ⟨v1, v2, v3, v4, _, _⟩ := DC g hb
 exact ⟨by omega, v3, v4⟩
theorem oe {h : Hp} {M : MSl} {m : aj} {t : Sl} {vs : List (List Nat)} {R : Value -> Hp -> Prop} (hs : aG h M m) (hm : bU m) (hc : aR m = 0)
  (hv : IntSS h t (vs.map VL)) (hf : lq m.nodes (stP m) vs) (k : R (.bool (ma (stP m) (jA m) vs (stP m).length)) h) : j6 #[aN M, t.v] h R := by
 refine ACalls.drop (Ay ?_)
 refine uf_ ?_
 have g := gA hc
 have hil := g.il
 have hnl := g.nl
 have hp36 : (stP m).length <= m.nodes.length := gv m.nodes 36
 have htn := hv.len
 rw [List.length_map] at htn
 have hvl := q9 hf
 have hbn : ∀ b ∈ m.inits, 0 <= b.node := fun b hb => (DC g hb).1
 refine ae fun b8 h1 hb8 l1 f8 => ?_
 repeat' (refine ku_ ?_)
 refine u5 (hs.up (by ((focus ((repeat (first | exact Hp.le_refl _ | assumption | (refine Hp.le_trans ?_ (by assumption)))); done))))) hm hc (hv.up (by ((focus ((repeat (first | exact Hp.le_refl _ | assumption | (refine Hp.le_trans ?_ (by assumption)))); done))))) hf ⟨_, rfl, ak rfl ?_⟩
 repeat' (refine ku_ ?_)
 refine G0 (hs.up (by ((focus ((repeat (first | exact Hp.le_refl _ | assumption | (refine Hp.le_trans ?_ (by assumption)))); done))))) hm g fun vt h2 l2 hvn hpv => ⟨vt, rfl, ?_⟩
 repeat' (refine ku_ ?_)
 refine fz (hs.up (by ((focus ((repeat (first | exact Hp.le_refl _ | assumption | (refine Hp.le_trans ?_ (by assumption)))); done))))) hm fun pt h3 l3 ip => ⟨pt, rfl, ?_⟩
 have hpn : pt.n = (stP m).length := by have := ip.len; rw [bW] at this; exact this
 have f83 := l3 _ _ (l2 _ _ f8)
 have hpv3 := hpv.mono l3
 have l03 := Hp.le_trans l1 (Hp.le_trans l2 l3)
 have aV := Cg g
 clear l2 l3 l1 hb8 f8 hpv h2
 refine aq (stP m).length (fun i ws h' => h3.le h' /\ ws = [t.v, .pointer (some ⟨b8, 0, none⟩), vt.v, pt.v, I i] /\ ma (stP m) (jA m) vs i = true) ⟨Hp.le_refl _, rfl, rfl⟩ ?_
 rintro i _ h4 next hi ⟨l4, rfl, hg⟩ hnx
 have l04 := Hp.le_trans l03 l4
 refine ⟨t, _, _, vt, pt, _, rfl, ?_⟩
 by_cases hlt : i < (stP m).length
 rotate_left
 ·have hie : i = (stP m).length := by omega
  subst hie
  refine ak (by simp; omega) ⟨_, l04, dk hg.symm k⟩
 refine aH (by simp; omega) ?_
 obtain ⟨p, hpi⟩ : ∃ p, (stP m)[i]? = some p := ⟨_, List.getElem?_eq_getElem hlt⟩
 have hsucc := Ir (f := jA m) (vs := vs) hpi
 rw [hg, Bool.true_and] at hsucc
 obtain ⟨b, o, ha, hcc⟩ := (ip.mono l4).get (gl hpi)
 refine ⟨b, o, ha, by omega, by omega, ?_⟩
 (refine ku_ ?_)
 refine ⟨_, hcc, ?_⟩
 refine sd (hs.mono l04).inits (by omega) hbn ⟨_, rfl, ?_⟩
 refine ap (fun J => ∀ h', h4.le h' -> J (!ma (stP m) (jA m) vs (i + 1)) h') ?_ (fun J hJ => ?_)
 ·intro h' l'
  refine ad (fun e => ⟨_, Hp.le_trans l04 l', dk ?_ k⟩) (fun e => ?_)
  ·symm; exact M2 (i := i + 1) (by omega) (by simpa using e)
  ·rw [az (by omega)]
   exact hnx hlt _ _ ⟨Hp.le_trans l4 l', rfl, by simpa using e⟩
 cases hbo : cm m.inits p with
 | none =>
  rw [show lU m.inits p = -1 from by unfold lU; rw [hbo]]
  refine ak (by simp) ⟨trivial, ?_⟩
  have hn : jA m p = none := by unfold jA; rw [hbo]; rfl
  rw [hn] at hsucc
  have := hJ h4 (Hp.le_refl _)
  rw [hsucc] at this; exact this
 | some q =>
  rw [show lU m.inits p = (q : Int) from by unfold lU; rw [hbo]]
  refine aH (by simp) ?_
  obtain ⟨hq, v3, v4⟩ := JT g hbo
  have hsm : jA m p = some (tt (aD m.nodes p) ((rC m).getD q [])) := by unfold jA; rw [hbo]; rfl
  have hfit := qQ g hsm
  have hcl := eu m.nodes p
  have hgv := oL hf hpi
  rw [hsm] at hsucc
  obtain ⟨bt, ot, c, hta, htc, hcv⟩ := (hv.mono l04).getV (i := i) (by omega)
  obtain ⟨bv, ov, u, hua, hun, huc, huv⟩ := (hpv3.mono l4).at (p := (q : Int)) (by omega) (by rw [aV.len]; omega)
  have hcn := hcv.len
  rw [bW] at hcn
  refine ⟨bt, ot, hta, by omega, by omega, bv, ov, hua, by omega, hun, bt, ot, hta, by omega, by omega, c, htc, u, huc, c, htc, ?_⟩
  rw [Int.toNat_natCast] at huv
  rw [hcn, hgv.1]
  have xbt := pJ htc
  refine H6 huv v3 v4 hcl fun w h5 l5 hw => ⟨w, rfl, ?_⟩
  repeat' (((with_reducible apply jm); (assumption); (assumption)))
  refine Ad (hcv.mono l5) hw (by rw [bW]; omega) (by rw [bW, bW, hgv.1, hfit.1]; exact Nat.le_refl _) ⟨_, rfl, ?_⟩
  have := hJ h5 l5
  simp only at hsucc
  rw [hsucc] at this
  have e2 : decide (VL (vs.getD i []) = VL (tt (aD m.nodes p) ((rC m).getD q []))) = decide (vs.getD i [] = tt (aD m.nodes p) ((rC m).getD q [])) := by
   rw [Bool.eq_iff_iff, decide_eq_true_eq, decide_eq_true_eq, J3]
  rw [e2]; exact this
section
variable {g h h' : Hp} {L L' A B X : List (Nat × Blk)}
theorem Kn.app (K : Kn g h L) (l : h.le h') (n : ∀ e ∈ X, h e.1 = none) (f : ∀ e ∈ X, h' e.1 = some e.2) (nd : (X.map Prod.fst).Nodup) : Kn g h' (L ++ X) := by
 refine ⟨Hp.le_trans K.le l, fun e he => ?_, fun e he => ?_, ?_⟩
 ·rcases List.mem_append.1 he with he | he
  ·exact l _ _ (K.mem e he)
  ·exact f e he
 ·rcases List.mem_append.1 he with he | he
  ·exact K.new e he
  ·exact aw K.le (n e he)
 ·rw [List.map_append, List.nodup_append]
  refine ⟨K.nd, nd, fun a ha b hb hab => ?_⟩
  obtain ⟨e, he, rfl⟩ := List.mem_map.1 ha
  obtain ⟨e', he', rfl⟩ := List.mem_map.1 hb
  have h1 := K.mem e he
  have h2 := n e' he'
  rw [hab, h2] at h1; cases h1
theorem Kn.split (K : Kn g h (A ++ B)) : Kn (h.wo (B.map Prod.fst)) h B /\ Kn g (h.wo (B.map Prod.fst)) A := by
 have nd := K.nd
 rw [List.map_append, List.nodup_append] at nd
 refine ⟨⟨mG _ _, fun e he => K.mem e (List.mem_append_right _ he), fun e he => dK (List.mem_map.2 ⟨e, he, rfl⟩), nd.2.1⟩, ?_, fun e he => ?_, fun e he => K.new e (List.mem_append_left _ he), nd.1⟩
 ·exact nj K.le fun b hb => by
   obtain ⟨e, he, rfl⟩ := List.mem_map.1 hb
   exact K.new e (List.mem_append_right _ he)
 ·rw [qT]
  ·exact K.mem e (List.mem_append_left _ he)
  ·intro hb
   exact nd.2.2 _ (List.mem_map.2 ⟨e, he, rfl⟩) _ hb rfl
theorem Kn.off (K : Kn g h L) {b : Nat} {x y : Blk} (u : Upd L b x y L') (l : (h.off b).le h') (f : h' b = some y) : Kn g h' L' := by
 refine ⟨?_, fun e he => ?_, fun e he => ?_, by rw [u.keys]; exact K.nd⟩
 ·exact Hp.le_trans (vG (K.new (b, x) u.mem) K.le) l
 ·rcases u.out K.nd e he with rfl | ⟨h1, h2⟩
  ·exact f
  ·refine l _ _ ?_
   simp only [Hp.off, Hp.set]; rw [if_neg h2]; exact K.mem e h1
 ·rcases u.out K.nd e he with rfl | ⟨h1, h2⟩
  ·exact K.new (b, x) u.mem
  ·exact K.new e h1
def iO (X : List (Nat × Blk)) (s : Sl) (sz : Nat) (cs : List Value) : Prop :=
 cs.length = s.n * sz /\ s.n <= 9223372036854775807 /\ ((s.n = 0 /\ X = []) \/ (s.n ≠ 0 /\ ∃ b z, s.a = some ⟨b, 0, none⟩ /\ X = [(b, .inl ⟨cs, z, false⟩)]))
theorem Kn.addOwn {s : Sl} {sz : Nat} {cs : List Value} (K : Kn g h L) (l : h.le h') (o : Own (h'.sub h) s sz cs) : ∃ X, iO X s sz cs /\ Kn g h' (L ++ X) := by
 by_cases h0 : s.n = 0
 ·exact ⟨[], ⟨o.1, o.2.1, .inl ⟨h0, rfl⟩⟩, by rw [List.append_nil]; exact K.mono l⟩
 ·obtain ⟨b, z, ha, hb⟩ := o.2.2.resolve_left h0
  have hn : h b = none := jT (by rw [hb]; simp)
  refine ⟨_, ⟨o.1, o.2.1, .inr ⟨h0, b, z, ha, rfl⟩⟩, K.app l (fun e he => ?_) (fun e he => ?_) (by simp)⟩
  ·rw [List.mem_singleton.1 he]; exact hn
  ·rw [List.mem_singleton.1 he]; exact sub_le _ _ _ _ hb
theorem iO.own {s : Sl} {sz : Nat} {cs : List Value} (o : iO X s sz cs) (K : Kn g h (L ++ X)) : Own h s sz cs := by
 refine ⟨o.1, o.2.1, ?_⟩
 rcases o.2.2 with ⟨h0, _⟩ | ⟨_, b, z, ha, rfl⟩
 ·exact .inl h0
 ·exact .inr ⟨b, z, ha, K.at (by simp)⟩
theorem iO.mark {s : Sl} {sz : Nat} {cs cs' : List Value} (o : iO X s sz cs) (K : Kn g h (L ++ X)) (l : (h.wo s.used).le h') (o' : Own h' s sz cs') : ∃ X', iO X' s sz cs' /\ Kn g h' (L ++ X') := by
 rcases o.2.2 with ⟨h0, rfl⟩ | ⟨h0, b, z, ha, rfl⟩
 ·refine ⟨[], ⟨o'.1, o'.2.1, .inl ⟨h0, rfl⟩⟩, K.mono ?_⟩
  have : s.used = [] := by unfold Sl.used; rw [if_pos h0]
  rw [this] at l
  exact Hp.le_trans (nj (Hp.le_refl _) (fun b hb => by simp at hb)) l
 ·obtain ⟨b', z', ha', hb'⟩ := o'.2.2.resolve_left h0
  rw [ha] at ha'; cases ha'
  refine ⟨_, ⟨o'.1, o'.2.1, .inr ⟨h0, b, z', ha, rfl⟩⟩, ?_⟩
  have hu : s.used = [b] := by unfold Sl.used Sl.blk; rw [if_neg h0, ha]
  rw [hu] at l
  have nd := K.nd
  rw [List.map_append, List.nodup_append] at nd
  have hbn : g b = none := K.new (b, .inl ⟨cs, z, false⟩) (List.mem_append_right _ (by simp))
  have hne : ∀ e ∈ L, e.1 ≠ b := fun e he hb => nd.2.2 _ (List.mem_map.2 ⟨e, he, rfl⟩) b (by simp) hb
  have hwo : ∀ c, c ≠ b -> (h.wo [b]) c = h c := fun c hc => qT (by simpa using hc)
  refine ⟨?_, fun e he => ?_, fun e he => ?_, ?_⟩
  ·exact Hp.le_trans (nj K.le fun c hc => by rw [List.mem_singleton.1 hc]; exact hbn) l
  ·rcases List.mem_append.1 he with he | he
   ·exact l _ _ (by rw [hwo _ (hne e he)]; exact K.mem e (List.mem_append_left _ he))
   ·rw [List.mem_singleton.1 he]; exact hb'
  ·rcases List.mem_append.1 he with he | he
   ·exact K.new e (List.mem_append_left _ he)
   ·rw [List.mem_singleton.1 he]; exact hbn
  ·rw [List.map_append, List.nodup_append]
   exact ⟨nd.1, by simp, fun a ha c hc => nd.2.2 a ha c (by simpa using hc)⟩
end
theorem Hs {h : Hp} {n : NodeP} {left : Int} {R : Value -> Hp -> Prop} (hsz : n.name.size <= 9223372036854775807) (h0 : 0 <= left) (h1 : left <= 1048576)
  (k : ∀ r : Int, (r < 0 \/ (0 <= r /\ r <= left /\ n.name.size <= 1048576)) -> R (I r) h) : qy #[rl n, I left] h R := by
 refine ACalls.drop (D8 ?_)
 refine uf_ ?_
 refine ae fun b h2 hb l f => ?_
 (refine am ?_)
 rw [cd (by omega) (by omega)]
 refine ad (fun e => ⟨_, l, k _ (.inl (by omega))⟩) (fun e => ⟨_, l, k _ (.inr ?_)⟩)
 have := of_decide_eq_false e
 omega
theorem GU {h : Hp} {s : Sl} {l : List NodeP} {left : Int} {R : Value -> Hp -> Prop} (hs : fK h s l) (hsz : ∀ n ∈ l, n.name.size <= 9223372036854775807) (h0 : 0 <= left) (h1 : left <= 1048576)
  (k : ∀ r : Int, (r < 0 \/ (0 <= r /\ r <= left /\ l.length <= 1048576 /\ ∀ n ∈ l, n.name.size <= 1048576)) -> R (I r) h) : pw #[s.v, I left] h R := by
 apply DL
 refine uf_ ?_
 have hn := hs.len
 have hb := hs.1
 rw [cd (by omega) (by omega)]
 refine ad (fun e => k _ (.inl (by omega))) (fun e => ?_)
 have e' := of_decide_eq_false e
 refine aq l.length (fun i vs h' => ∃ r : Int, vs = [s.v, I r, I i] /\ h' = h /\ 0 <= r /\ r <= left /\ ∀ n ∈ l.take i, n.name.size <= 1048576) ⟨_, rfl, rfl, by omega, by omega, fun n hn => by simp at hn⟩ ?_
 rintro i _ _ next hi ⟨r, rfl, rfl, r0, r1, hall⟩ hnx
 rename_i h
 refine ⟨s, _, _, rfl, ?_⟩
 by_cases hlt : i < l.length
 rotate_left
 ·refine ak (by simp; omega) (k r (.inr ⟨r0, r1, by omega, ?_⟩))
  rwa [List.take_of_length_le (by omega)] at hall
 refine aH (by simp; omega) ?_
 obtain ⟨n, hni⟩ : ∃ n, l[i]? = some n := ⟨_, List.getElem?_eq_getElem hlt⟩
 obtain ⟨b, o, ha, c0, c1, c2, c3, c4, c5, c6, c7, c8⟩ := hs.at hni
 refine ⟨b, o, ha, by omega, by omega, _, c0, _, c1, _, c2, _, c3, _, c4, _, c5, _, c6, _, c7, _, c8, ?_⟩
 refine Hs (n := n) (hsz n (List.mem_of_getElem? hni)) r0 (by omega) fun q hq => ⟨_, rfl, ad (fun e => k _ (.inl (by omega))) (fun e => ?_)⟩
 have := of_decide_eq_false e
 rcases hq with hq | ⟨q0, q1, q2⟩
 ·omega
 rw [az (by omega)]
 refine hnx hlt _ _ ⟨q, rfl, rfl, q0, by omega, fun n' hn' => ?_⟩
 rw [List.getElem?_eq_getElem hlt] at hni
 rw [List.take_succ_eq_append_getElem hlt, List.mem_append, List.mem_singleton, Option.some.inj hni] at hn'
 rcases hn' with hn' | rfl
 ·exact hall n' hn'
 ·exact q2
theorem xW {h : Hp} {s : Sl} {l : List BindP} {left : Int} {R : Value -> Hp -> Prop} (hs : la h s l) (h0 : 0 <= left) (h1 : left <= 1048576)
  (k : ∀ r : Int, (r < 0 \/ (0 <= r /\ r <= left /\ l.length <= 1048576)) -> R (I r) h) : kA #[s.v, I left] h R := by
 apply Cu
 refine uf_ ?_
 have hn := hs.len
 have hb := hs.1
 rw [cd (by omega) (by omega)]
 refine ad (fun e => k _ (.inl (by omega))) (fun e => k _ (.inr ?_))
 have := of_decide_eq_false e
 omega
theorem ep {h : Hp} {M : MSl} {m : aj} {R : Value -> Hp -> Prop} (hs : aG h M m) (hsz : ∀ n ∈ m.nodes, n.name.size <= 9223372036854775807)
  (k : ∀ r : Int, (r < 0 \/ (0 <= r /\ r <= 1048576 /\ bU m)) -> R (I r) h) : cO #[aN M, I 1048576] h R := by
 refine ACalls.drop (Cx ?_)
 refine uf_ ?_
 refine ae fun b8 h1 hb8 l1 f8 => ?_
 have neg : ∀ {h' : Hp}, h.le h' -> ∃ h'' : Hp, h''.le h' /\ R (I (-1)) h'' := fun l => ⟨_, l, k _ (.inl (by omega))⟩
 (refine am ?_)
 refine GU (hs.mono l1).nodes hsz (by omega) (by omega) fun r1 q1 => ⟨_, rfl, ad (fun e => neg l1) (fun e1 => ?_)⟩
 have e1 := of_decide_eq_false e1
 obtain ⟨a1, a2, a3, a4⟩ := q1.resolve_left e1
 (refine am ?_)
 refine xW (hs.mono l1).inits a1 (by omega) fun r2 q2 => ⟨_, rfl, ad (fun e => neg l1) (fun e2 => ?_)⟩
 have e2 := of_decide_eq_false e2
 obtain ⟨b1, b2, b3⟩ := q2.resolve_left e2
 (refine am ?_)
 refine xW (hs.mono l1).nexts b1 (by omega) fun r3 q3 => ⟨_, rfl, ad (fun e => neg l1) (fun e3 => ?_)⟩
 have e3 := of_decide_eq_false e3
 obtain ⟨c1, c2, c3⟩ := q3.resolve_left e3
 (refine am ?_)
 refine zQ (hs.mono l1).bads c1 (by omega) fun r4 q4 => ⟨_, rfl, ad (fun e => neg l1) (fun e4 => ?_)⟩
 have e4 := of_decide_eq_false e4
 have d1 := q4.resolve_left e4
 (refine am ?_)
 refine zQ (hs.mono l1).holds d1.1 (by omega) fun r5 q5 => ⟨_, rfl, ad (fun e => neg l1) (fun e5 => ⟨_, l1, k _ (.inr ?_)⟩)⟩
 have e5 := of_decide_eq_false e5
 have f1 := q5.resolve_left e5
 exact ⟨f1.1, by omega, ⟨a3, b3, c3, by omega, by omega, a4⟩⟩
theorem Ix {h : Hp} {i w : Int} {R : Value -> Hp -> Prop} (k : R (.agg #[I i, I w]) h) : qr #[.agg #[I i, I w]] h R := by
 refine ACalls.drop (E5 ?_)
 refine uf_ ?_
 have K0 := Kn.nil h
 (with_reducible apply Kn.al); (assumption); (intro b4 h1 K1 l1 hb4)
 (with_reducible apply Kn.al); (assumption); (intro b6 h2 K2 l2 hb6)
 (with_reducible apply Kn.al); (assumption); (intro b9 h3 K3 l3 hb9)
 repeat' (first | (refine kr_ ?_) | ((((with_reducible apply Kn.wr); (assumption); ((focus ((repeat first | exact .head | apply Upd.tail); done))))); (exact of_decide_eq_true rfl); (intro _ _ _)))
 exact ⟨_, Kn.le (by assumption), k⟩
theorem IW {h : Hp} {b : BindP} {R : Value -> Hp -> Prop} (k : R (vn b) h) : qK #[vn b] h R := by
 refine ACalls.drop (ET ?_)
 refine uf_ ?_
 have K0 := Kn.nil h
 (with_reducible apply Kn.al); (assumption); (intro b4 h1 K1 l1 hb4)
 (with_reducible apply Kn.al); (assumption); (intro b6 h2 K2 l2 hb6)
 (with_reducible apply Kn.al); (assumption); (intro b9 h3 K3 l3 hb9)
 repeat' (first | (refine kr_ ?_) | ((((with_reducible apply Kn.wr); (assumption); ((focus ((repeat first | exact .head | apply Upd.tail); done))))); (exact of_decide_eq_true rfl); (intro _ _ _)))
 exact ⟨_, Kn.le (by assumption), k⟩
theorem FS : ∀ (vs cs : List Value) (o : Nat), o + vs.length <= cs.length -> (dY cs o vs).take (o + vs.length) = cs.take o ++ vs := by
 intro vs
 induction vs with
 | nil => intro cs o _; simp [BC]
 | cons v r ih =>
  intro cs o h
  rw [List.length_cons] at h ⊢
  rw [zl, show o + (r.length + 1) = (o + 1) + r.length by omega, ih _ _ (by rw [List.length_set]; omega), jV v (by omega), List.append_assoc]; rfl
theorem II {h : Hp} {n : NodeP} {R : Value -> Hp -> Prop} (k : R (rl n) h) : qJ #[rl n] h R := by
 refine ACalls.drop (Ea ?_)
 refine uf_ ?_
 have K0 := Kn.nil h
 (with_reducible apply Kn.al); (assumption); (intro b4 h1 K1 l1 hb4)
 (with_reducible apply Kn.al); (assumption); (intro b6 h2 K2 l2 hb6)
 (with_reducible apply Kn.al); (assumption); (intro b9 h3 K3 l3 hb9)
 repeat' (first | (refine kr_ ?_) | ((((with_reducible apply Kn.wr); (assumption); ((focus ((repeat first | exact .head | apply Upd.tail); done))))); (exact of_decide_eq_true rfl); (intro _ _ _)) | (refine Ix ⟨_, _, rfl, ?_⟩))
 exact ⟨_, Kn.le (by assumption), k⟩
theorem E9 {α : Type} {f : α -> List Value} {l : List α} {i : Nat} {x : α} (h : l[i]? = some x) : (l.take (i + 1)).flatMap f = (l.take i).flatMap f ++ f x := by
 have hlt := get_lt h
 rw [List.getElem?_eq_getElem hlt] at h
 rw [List.take_succ_eq_append_getElem hlt, List.flatMap_append, Option.some.inj h]; simp
theorem tE (z : Array Value) (n : Nat) : (aA z n).length = n := by simp [aA]
theorem Gt {h : Hp} {s : Sl} {l : List NodeP} {R : Value -> Hp -> Prop} (hs : fK h s l) (hl : l.length <= 1048576)
  (k : ∀ b h', h b = none -> h.le h' -> h' b = some (.inl ⟨l.flatMap nodeCells, l.length * 9, false⟩) -> R (Sl.v (arr b l.length)) h') : pC #[s.v] h R := by
 apply DT
 refine uf_ ?_
 have hn := hs.len
 refine ⟨by omega, by omega, by omega, by omega, ?_⟩
 rw [Int.toNat_natCast, hn]
 refine ae fun b h1 hb l1 f1 => ?_
 refine aq l.length (fun i vs h' => vs = [s.v, (arr b l.length).v, I i] /\ h.le h' /\ ∃ cs, h' b = some (.inl ⟨cs, l.length * 9, false⟩) /\ cs.length = l.length * 9 /\ cs.take (i * 9) = (l.take i).flatMap nodeCells) ⟨rfl, l1, _, f1, tE _ _, by simp⟩ ?_
 clear f1 l1 h1
 rintro i _ h1 next hi ⟨rfl, l1, cs, f1, hcl, htk⟩ hnx
 refine ⟨s, arr b _, _, rfl, ?_⟩
 by_cases hlt : i < l.length
 rotate_left
 ·have hie : i = l.length := by omega
  subst hie
  refine ak (by simp; omega) (k b h1 hb l1 ?_)
  rw [List.take_of_length_le (by omega), List.take_length] at htk
  rw [<- htk]; exact f1
 refine aH (by simp; omega) ?_
 obtain ⟨n, hni⟩ : ∃ n, l[i]? = some n := ⟨_, List.getElem?_eq_getElem hlt⟩
 obtain ⟨bn, o, ha, c0, c1, c2, c3, c4, c5, c6, c7, c8⟩ := (hs.mono l1).at hni
 refine ⟨bn, o, ha, by omega, by omega, _, c0, _, c1, _, c2, _, c3, _, c4, _, c5, _, c6, _, c7, _, c8, ?_⟩
 refine II (n := n) ⟨_, _, _, _, _, _, _, _, _, rfl, ?_⟩
 refine cB ⟨by omega, by dsimp only; omega, ?_⟩
 (with_reducible apply bD); (exact f1); (exact l1); (exact hb); (rw [Int.toNat_natCast]; omega)
 intro h2 f2 kp l2
 rw [az (by omega)]
 refine hnx hlt _ _ ⟨rfl, l2, _, f2, by rw [eP]; exact hcl, ?_⟩
 have := FS (nodeCells n) cs (i * 9) (by show i * 9 + 9 <= _; omega)
 rw [Int.toNat_natCast, Nat.zero_add]
 rw [E9 hni, <- htk, show (i + 1) * 9 = i * 9 + (nodeCells n).length by show _ = i * 9 + 9; omega]
 exact this
theorem xk {h : Hp} {s : Sl} {l : List BindP} {R : Value -> Hp -> Prop} (hs : la h s l) (hl : l.length <= 1048576)
  (k : ∀ b h', h b = none -> h.le h' -> h' b = some (.inl ⟨l.flatMap bindCells, l.length * 2, false⟩) -> R (Sl.v (arr b l.length)) h') : k9 #[s.v] h R := by
 apply CT
 refine uf_ ?_
 have hn := hs.len
 refine ⟨by omega, by omega, by omega, by omega, ?_⟩
 rw [Int.toNat_natCast, hn]
 refine ae fun b h1 hb l1 f1 => ?_
 refine aq l.length (fun i vs h' => vs = [s.v, (arr b l.length).v, I i] /\ h.le h' /\ ∃ cs, h' b = some (.inl ⟨cs, l.length * 2, false⟩) /\ cs.length = l.length * 2 /\ cs.take (i * 2) = (l.take i).flatMap bindCells) ⟨rfl, l1, _, f1, tE _ _, by simp⟩ ?_
 clear f1 l1 h1
 rintro i _ h1 next hi ⟨rfl, l1, cs, f1, hcl, htk⟩ hnx
 refine ⟨s, arr b _, _, rfl, ?_⟩
 by_cases hlt : i < l.length
 rotate_left
 ·have hie : i = l.length := by omega
  subst hie
  refine ak (by simp; omega) (k b h1 hb l1 ?_)
  rw [List.take_of_length_le (by omega), List.take_length] at htk
  rw [<- htk]; exact f1
 refine aH (by simp; omega) ?_
 obtain ⟨n, hni⟩ : ∃ n, l[i]? = some n := ⟨_, List.getElem?_eq_getElem hlt⟩
 obtain ⟨bn, o, ha, c0, c1⟩ := (hs.mono l1).at hni
 refine ⟨bn, o, ha, by omega, by omega, _, c0, _, c1, ?_⟩
 refine IW (b := n) ⟨_, _, rfl, ?_⟩
 refine cB ⟨by omega, by dsimp only; omega, ?_⟩
 (with_reducible apply bD); (exact f1); (exact l1); (exact hb); (rw [Int.toNat_natCast]; omega)
 intro h2 f2 kp l2
 rw [az (by omega)]
 refine hnx hlt _ _ ⟨rfl, l2, _, f2, by rw [eP]; exact hcl, ?_⟩
 have := FS (bindCells n) cs (i * 2) (by show i * 2 + 2 <= _; omega)
 rw [Int.toNat_natCast, Nat.zero_add]
 rw [E9 hni, <- htk, show (i + 1) * 2 = i * 2 + (bindCells n).length by show _ = i * 2 + 2; omega]
 exact this
theorem C5 {h : Hp} {s : Sl} {l : List Int} {R : Value -> Hp -> Prop} (hs : IntS h s l) (hl : l.length <= 1048576)
  (k : ∀ b h', h b = none -> h.le h' -> h' b = some (.inl ⟨l.map I, l.length * 1, false⟩) -> R (Sl.v (arr b l.length)) h') : iC #[s.v] h R := by
 apply vE
 refine uf_ ?_
 have hn := hs.len
 refine ⟨by omega, by omega, by omega, by omega, ?_⟩
 rw [Int.toNat_natCast, hn]
 refine ae fun b h1 hb l1 f1 => ?_
 refine aq l.length (fun i vs h' => vs = [s.v, (arr b l.length).v, I i] /\ h.le h' /\ ∃ cs, h' b = some (.inl ⟨cs, l.length * 1, false⟩) /\ cs.length = l.length /\ cs.take i = (l.take i).map I) ⟨rfl, l1, _, f1, by rw [tE, Nat.mul_one], by simp⟩ ?_
 clear f1 l1 h1
 rintro i _ h1 next hi ⟨rfl, l1, cs, f1, hcl, htk⟩ hnx
 refine ⟨s, arr b _, _, rfl, ?_⟩
 by_cases hlt : i < l.length
 rotate_left
 ·have hie : i = l.length := by omega
  subst hie
  refine ak (by simp; omega) (k b h1 hb l1 ?_)
  rw [List.take_of_length_le (by omega), List.take_length] at htk
  rw [<- htk]; exact f1
 refine aH (by simp; omega) ?_
 obtain ⟨n, hni⟩ : ∃ n, l[i]? = some n := ⟨_, List.getElem?_eq_getElem hlt⟩
 obtain ⟨bn, o, ha, c0⟩ := (hs.mono l1).get hni
 refine ⟨bn, o, ha, by omega, by omega, _, c0, ?_⟩
 refine cB ⟨by omega, by dsimp only; omega, ?_⟩
 (with_reducible apply bD); (exact f1); (exact l1); (exact hb); (rw [Int.toNat_natCast]; omega)
 intro h2 f2 kp l2
 rw [az (by omega)]
 refine hnx hlt _ _ ⟨rfl, l2, _, f2, by rw [eP]; exact hcl, ?_⟩
 rw [Int.toNat_natCast, Nat.zero_add, Nat.mul_one, bk, jV _ (by omega), htk, List.take_succ_eq_append_getElem hlt, List.map_append]
 rw [List.getElem?_eq_getElem hlt] at hni
 rw [Option.some.inj hni]; rfl
def dQ (m : aj) (bn bi bx bb bh : Nat) : List (Nat × Blk) :=
 [(bn, .inl ⟨m.nodes.flatMap nodeCells, m.nodes.length * 9, false⟩), (bi, .inl ⟨m.inits.flatMap bindCells, m.inits.length * 2, false⟩), (bx, .inl ⟨m.nexts.flatMap bindCells, m.nexts.length * 2, false⟩),
  (bb, .inl ⟨m.bads.map I, m.bads.length * 1, false⟩), (bh, .inl ⟨m.holds.map I, m.holds.length * 1, false⟩)]
abbrev AN (m : aj) (bn bi bx bb bh : Nat) : MSl := ⟨arr bn m.nodes.length, arr bi m.inits.length, arr bx m.nexts.length, arr bb m.bads.length, arr bh m.holds.length⟩
theorem aF {h : Hp} {M : MSl} {m : aj} {R : Value -> Hp -> Prop} (hs : aG h M m) (hm : bU m)
  (k : ∀ bn bi bx bb bh h', Kn h h' (dQ m bn bi bx bb bh) -> R (aN (AN m bn bi bx bb bh)) h') : ay #[aN M] h R := by
 apply Du
 refine uf_ ?_
 have K0 := Kn.nil h
 (with_reducible apply Kn.al); (assumption); (intro b7 h1 K1 l1 hb7)
 (with_reducible apply Kn.al); (assumption); (intro b9 h2 K2 l2 hb9)
 (with_reducible apply Kn.al); (assumption); (intro b12 h3 K3 l3 hb12)
 repeat' (refine kr_ ?_)
 refine Gt (hs.mono K3.le).nodes hm.nodes fun bn h4 hbn l4 f4 => ⟨_, rfl, ?_⟩
 have K4 := K3.cons hbn l4 f4
 (((with_reducible apply Kn.wr); (assumption); ((focus ((repeat first | exact .head | apply Upd.tail); done)))))
 ·exact of_decide_eq_true rfl
 intro h5 K5 _
 repeat' (refine kr_ ?_)
 refine xk (hs.mono K5.le).inits hm.inits fun bi h6 hbi l6 f6 => ⟨_, rfl, ?_⟩
 have K6 := K5.cons hbi l6 f6
 (((with_reducible apply Kn.wr); (assumption); ((focus ((repeat first | exact .head | apply Upd.tail); done)))))
 ·exact of_decide_eq_true rfl
 intro h7 K7 _
 repeat' (refine kr_ ?_)
 refine xk (hs.mono K7.le).nexts hm.nexts fun bx h8 hbx l8 f8 => ⟨_, rfl, ?_⟩
 have K8 := K7.cons hbx l8 f8
 (((with_reducible apply Kn.wr); (assumption); ((focus ((repeat first | exact .head | apply Upd.tail); done)))))
 ·exact of_decide_eq_true rfl
 intro h9 K9 _
 repeat' (refine kr_ ?_)
 refine C5 (hs.mono K9.le).bads hm.bads fun bb h10 hbb l10 f10 => ⟨_, rfl, ?_⟩
 have K10 := K9.cons hbb l10 f10
 (((with_reducible apply Kn.wr); (assumption); ((focus ((repeat first | exact .head | apply Upd.tail); done)))))
 ·exact of_decide_eq_true rfl
 intro h11 K11 _
 repeat' (refine kr_ ?_)
 refine C5 (hs.mono K11.le).holds hm.holds fun bh h12 hbh l12 f12 => ⟨_, rfl, ?_⟩
 have K12 := K11.cons hbh l12 f12
 (((with_reducible apply Kn.wr); (assumption); ((focus ((repeat first | exact .head | apply Upd.tail); done)))))
 ·exact of_decide_eq_true rfl
 intro h13 K13 _
 repeat' (refine kr_ ?_)
 (((with_reducible apply Kn.wr); (assumption); ((focus ((repeat first | exact .head | apply Upd.tail); done)))))
 ·exact of_decide_eq_true rfl
 intro h14 K14 _
 repeat' (refine kr_ ?_)
 refine k bn bi bx bb bh h14 (K14.sub (fun e he => ?_) ?_)
 ·simp only [dQ, List.mem_cons, List.not_mem_nil, or_false] at he
  rcases he with rfl | rfl | rfl | rfl | rfl
  ·exact .tail _ (.tail _ (.tail _ (.tail _ (.head _))))
  ·exact .tail _ (.tail _ (.tail _ (.head _)))
  ·exact .tail _ (.tail _ (.head _))
  ·exact .tail _ (.head _)
  ·exact .head _
 ·have nd : ([bh, bb, bx, bi, bn] ++ [b12, b9, b7]).Nodup := K14.nd
  have nd2 : ([bh, bb, bx, bi, bn] : List Nat).reverse.Nodup := (List.reverse_perm _).nodup_iff.2 (List.nodup_append.1 nd).1
  exact nd2
theorem db {g h : Hp} {X : List (Nat × Blk)} {m : aj} {bn bi bx bb bh : Nat} (K : Kn g h (dQ m bn bi bx bb bh ++ X)) (hm : bU m) : aG h (AN m bn bi bx bb bh) m := by
 have g1 := hm.nodes
 have g2 := hm.inits
 have g3 := hm.nexts
 have g4 := hm.bads
 have g5 := hm.holds
 refine ⟨⟨by dsimp only; omega, by rw [gm (m := 9) (fun _ => rfl)], .inr ⟨bn, 0, rfl, ax (K.at (List.mem_append_left _ (.head _)))⟩⟩,
  ⟨by dsimp only; omega, by rw [gm (m := 2) (fun _ => rfl)], .inr ⟨bi, 0, rfl, ax (K.at (List.mem_append_left _ (.tail _ (.head _))))⟩⟩,
  ⟨by dsimp only; omega, by rw [gm (m := 2) (fun _ => rfl)], .inr ⟨bx, 0, rfl, ax (K.at (List.mem_append_left _ (.tail _ (.tail _ (.head _)))))⟩⟩,
  ⟨by dsimp only; omega, by simp, .inr ⟨bb, 0, rfl, ax (K.at (List.mem_append_left _ (.tail _ (.tail _ (.tail _ (.head _))))))⟩⟩,
  ⟨by dsimp only; omega, by simp, .inr ⟨bh, 0, rfl, ax (K.at (List.mem_append_left _ (.tail _ (.tail _ (.tail _ (.tail _ (.head _)))))))⟩⟩, Nat.le_refl _⟩
theorem IP {h : Hp} {i w : Int} {R : Value -> Hp -> Prop} (k : R (.bool true) h) : pX #[.agg #[I i, I w], .agg #[I i, I w]] h R := by
 refine ACalls.drop (EP ?_)
 refine uf_ ?_
 have K0 := Kn.nil h
 (with_reducible apply Kn.al); (assumption); (intro b4 h1 K1 l1 hb4)
 (with_reducible apply Kn.al); (assumption); (intro b6 h2 K2 l2 hb6)
 repeat' (first | (refine kr_ ?_) | (refine ak (by simp) ?_))
 exact ⟨_, K2.le, k⟩
theorem Il {h : Hp} {b : BindP} {R : Value -> Hp -> Prop} (k : R (.bool true) h) : qp #[vn b, vn b] h R := by
 refine ACalls.drop (EN ?_)
 refine uf_ ?_
 have K0 := Kn.nil h
 (with_reducible apply Kn.al); (assumption); (intro b4 h1 K1 l1 hb4)
 (with_reducible apply Kn.al); (assumption); (intro b6 h2 K2 l2 hb6)
 repeat' (first | (refine kr_ ?_) | (refine ak (by simp) ?_))
 exact ⟨_, K2.le, k⟩
theorem HB {h : Hp} {n : NodeP} {R : Value -> Hp -> Prop} (k : R (.bool true) h) : qb #[rl n, rl n] h R := by
 refine ACalls.drop (Ey ?_)
 refine uf_ ?_
 have K0 := Kn.nil h
 (with_reducible apply Kn.al); (assumption); (intro b4 h1 K1 l1 hb4)
 (with_reducible apply Kn.al); (assumption); (intro b6 h2 K2 l2 hb6)
 repeat' (first | (refine kr_ ?_) | (refine ak (by simp) ?_) | (refine IP ⟨_, rfl, ?_⟩))
 exact ⟨_, K2.le, k⟩
theorem GP {h : Hp} {s t : Sl} {l : List NodeP} {R : Value -> Hp -> Prop} (hs : fK h s l) (ht : fK h t l) (k : R (.bool true) h) : od #[s.v, t.v] h R := by
 apply DJ
 refine uf_ ?_
 have hn := hs.len
 have hn2 := ht.len
 have hb := hs.1
 refine ak (by simp; omega) ?_
 refine aq l.length (fun i vs h' => vs = [s.v, t.v, I i] /\ h' = h) ⟨rfl, rfl⟩ ?_
 rintro i _ _ next hi ⟨rfl, rfl⟩ hnx
 rename_i h
 refine ⟨s, t, _, rfl, ?_⟩
 by_cases hlt : i < l.length
 ·refine aH (by simp; omega) ?_
  obtain ⟨n, hni⟩ : ∃ n, l[i]? = some n := ⟨_, List.getElem?_eq_getElem hlt⟩
  obtain ⟨b, o, ha, c0, c1, c2, c3, c4, c5, c6, c7, c8⟩ := hs.at hni
  obtain ⟨b', o', ha', d0, d1, d2, d3, d4, d5, d6, d7, d8⟩ := ht.at hni
  refine ⟨b, o, ha, by omega, by omega, b', o', ha', by omega, by omega, _, c0, _, c1, _, c2, _, c3, _, c4, _, c5, _, c6, _, c7, _, c8, _, d0, _, d1, _, d2, _, d3, _, d4, _, d5, _, d6, _, d7, _, d8, ?_⟩
  refine HB (n := n) ⟨_, rfl, ak rfl ?_⟩
  rw [az (by omega)]
  exact hnx hlt _ _ ⟨rfl, rfl⟩
 ·exact ak (by simp; omega) k
theorem xy {h : Hp} {s t : Sl} {l : List BindP} {R : Value -> Hp -> Prop} (hs : la h s l) (ht : la h t l) (k : R (.bool true) h) : lm #[s.v, t.v] h R := by
 apply DZ
 refine uf_ ?_
 have hn := hs.len
 have hn2 := ht.len
 have hb := hs.1
 refine ak (by simp; omega) ?_
 refine aq l.length (fun i vs h' => vs = [s.v, t.v, I i] /\ h' = h) ⟨rfl, rfl⟩ ?_
 rintro i _ _ next hi ⟨rfl, rfl⟩ hnx
 rename_i h
 refine ⟨s, t, _, rfl, ?_⟩
 by_cases hlt : i < l.length
 ·refine aH (by simp; omega) ?_
  obtain ⟨n, hni⟩ : ∃ n, l[i]? = some n := ⟨_, List.getElem?_eq_getElem hlt⟩
  obtain ⟨b, o, ha, c0, c1⟩ := hs.at hni
  obtain ⟨b', o', ha', d0, d1⟩ := ht.at hni
  refine ⟨b, o, ha, by omega, by omega, b', o', ha', by omega, by omega, _, c0, _, c1, _, d0, _, d1, ?_⟩
  refine Il (b := n) ⟨_, rfl, ak rfl ?_⟩
  rw [az (by omega)]
  exact hnx hlt _ _ ⟨rfl, rfl⟩
 ·exact ak (by simp; omega) k
theorem em {h : Hp} {M M' : MSl} {m : aj} {R : Value -> Hp -> Prop} (hs : aG h M m) (ht : aG h M' m) (k : R (.bool true) h) : cK #[aN M, aN M'] h R := by
 refine ACalls.drop (Cc ?_)
 refine uf_ ?_
 have K0 := Kn.nil h
 (with_reducible apply Kn.al); (assumption); (intro b4 h1 K1 l1 hb4)
 (with_reducible apply Kn.al); (assumption); (intro b6 h2 K2 l2 hb6)
 have hs2 := hs.mono K2.le
 have ht2 := ht.mono K2.le
 repeat' (refine kr_ ?_)
 refine GP hs2.nodes ht2.nodes ⟨_, rfl, ak rfl ?_⟩
 repeat' (refine kr_ ?_)
 refine xy hs2.inits ht2.inits ⟨_, rfl, ak rfl ?_⟩
 repeat' (refine kr_ ?_)
 refine xy hs2.nexts ht2.nexts ⟨_, rfl, ak rfl ?_⟩
 repeat' (refine kr_ ?_)
 refine pO hs2.bads ht2.bads ⟨_, rfl, ak (by simp) ?_⟩
 repeat' (refine kr_ ?_)
 refine pO hs2.holds ht2.holds ⟨_, rfl, ak (by simp) ?_⟩
 exact ⟨_, K2.le, k⟩
theorem EM {h : Hp} {x : Int} {R : Value -> Hp -> Prop} (hx : x <= 9223372036854775000) (k : ∀ s : ByteArray, R (.string s) h) : mZ #[I x] h R := by
 refine ACalls.drop (AR ?_)
 refine uf_ ?_
 refine ad (fun e => ⟨_, Hp.le_refl _, k _⟩) (fun e => ?_)
 have e := of_decide_eq_false e
 obtain ⟨n, rfl⟩ : ∃ n : Nat, x = n := ⟨x.toNat, by omega⟩
 refine uz n (fun q vs h' => ∃ s : ByteArray, vs = [I q, .string s] /\ h.le h' /\ s.size + q <= 9223372036854775000) ⟨_, rfl, Hp.le_refl _, by show 0 + n <= _; omega⟩ ?_
 rintro q _ h1 next ⟨s, rfl, l1, hsz⟩ hnx
 refine ⟨_, s, rfl, ?_⟩
 refine ad (fun e => ?_) (fun e => ?_)
 ·have e := of_decide_eq_true e
  refine ae fun b h2 hb l2 f2 => ?_
  have hm : Int.tmod (q : Int) 10 = ((q % 10 : Nat) : Int) := eY q 10
  have hd : Int.tdiv (q : Int) 10 = ((q / 10 : Nat) : Int) := Dk q 10
  have hmod : q % 10 < 10 := Nat.mod_lt _ (by omega)
  have hw : IntKind.wrap .u8 (W (48 + ((q % 10 : Nat) : Int))) = ((48 + q % 10 : Nat) : Int) := by
   rw [cd (by omega) (by omega), IntKind.wrap_u8]; omega
  rw [hm, hw] at f2
  refine ⟨[UInt8.ofNat (48 + q % 10)], ⟨rfl, .inr ⟨b, 0, rfl, ?_⟩⟩, ?_⟩
  ·have hc : eI [UInt8.ofNat (48 + q % 10)] = [.int .u8 ((48 + q % 10 : Nat) : Int)] := by
    unfold eI
    rw [List.map_cons, List.map_nil]
    have : (UInt8.ofNat (48 + q % 10)).toNat = 48 + q % 10 := by rw [UInt8.toNat_ofNat']; omega
    rw [this]; rfl
   rw [hc]; exact ax f2
  ·have h1s : (⟨[UInt8.ofNat (48 + q % 10)].toArray⟩ : ByteArray).size = 1 := rfl
   rw [h1s, hd, fj (by omega)]
   refine ⟨by omega, hnx (q / 10) (by omega) _ _ ⟨_, rfl, Hp.le_trans l1 l2, ?_⟩⟩
   rw [ByteArray.size_append, h1s]
   omega
 ·have h1s : (⟨#[109]⟩ : ByteArray).size = 1 := rfl
  exact ⟨by rw [h1s]; omega, _, l1, k _⟩
theorem KT {x : Int} (h0 : 0 <= x) (h : x <= 9223372036854775000) : W (x + 1) = x + 1 := cd (by omega) (by omega)
theorem C2 {h : Hp} {b n z : Nat} {cs : List Value} {k0 : Int} {R : Value -> Hp -> Prop} (f : h b = some (.inl ⟨cs, z, false⟩)) (hl : cs.length = n * 9) (h0 : 0 <= k0) (hk : k0 + n * 9 <= 1000000000000)
  (k : ∀ h' cs', (h.off b).le h' -> h' b = some (.inl ⟨cs', z, false⟩) -> cs'.length = n * 9 -> R (I (k0 + n * 9)) h') : lW #[(arr b n).v, I k0] h R := by
 apply y5
 refine uf_ ?_
 refine aq n (fun i vs h' => vs = [(arr b n).v, I (k0 + i * 9), I i] /\ ∃ cs, Kn (h.off b) h' [(b, .inl ⟨cs, z, false⟩)] /\ cs.length = n * 9) ⟨by simp, cs, ?_, hl⟩ ?_
 ·exact ⟨zu _ _, fun e he => by rw [List.mem_singleton.1 he]; exact f, fun e he => by rw [List.mem_singleton.1 he]; exact qA _ _, by simp⟩
 clear f hl cs
 rintro i _ h1 next hi ⟨rfl, cs, K, hl⟩ hnx
 refine ⟨arr b n, _, _, rfl, ?_⟩
 by_cases hlt : i < n
 rotate_left
 ·have hie : i = n := by omega
  subst hie
  exact ak (by simp) (k h1 cs K.le (K.at (.head _)) hl)
 refine aH (by simp; omega) ?_
 simp (disch := omega) only [KT]
 have hnat : Int.toNat (i : Int) = i := Int.toNat_natCast i
 rw [hnat]
 repeat' (first
  | (refine cB ⟨by omega, by first | omega | (dsimp only; omega), ?_⟩)
  | ((((with_reducible apply Kn.wr); (assumption); ((focus ((repeat first | exact .head | apply Upd.tail); done))))); (first | omega | (simp only [eP]; omega)); (intro _ _ _)))
 refine EM (by omega) fun s => ⟨s, rfl, ?_⟩
 refine cB ⟨by omega, by first | omega | (dsimp only; omega), ?_⟩
 (((with_reducible apply Kn.wr); (assumption); ((focus ((repeat first | exact .head | apply Upd.tail); done)))))
 ·first | omega | (simp only [eP]; omega)
 intro h2 K2 _
 have hni : ((i : Int) + 1) = ((i + 1 : Nat) : Int) := by omega
 have := hnx hlt _ _ ⟨rfl, _, K2, by first | exact hl | (simp only [eP]; exact hl)⟩
 have hke : k0 + (i : Int) * 9 + 1 + 1 + 1 + 1 + 1 + 1 + 1 + 1 + 1 = k0 + ((i + 1 : Nat) : Int) * 9 := by omega
 rw [hni, hke]; exact this
theorem th {h : Hp} {b n z : Nat} {cs : List Value} {k0 : Int} {R : Value -> Hp -> Prop} (f : h b = some (.inl ⟨cs, z, false⟩)) (hl : cs.length = n * 2) (h0 : 0 <= k0) (hk : k0 + n * 2 <= 1000000000000)
  (k : ∀ h' cs', (h.off b).le h' -> h' b = some (.inl ⟨cs', z, false⟩) -> cs'.length = n * 2 -> R (I (k0 + n * 2)) h') : jq #[(arr b n).v, I k0] h R := by
 apply yI
 refine uf_ ?_
 refine aq n (fun i vs h' => vs = [(arr b n).v, I (k0 + i * 2), I i] /\ ∃ cs, Kn (h.off b) h' [(b, .inl ⟨cs, z, false⟩)] /\ cs.length = n * 2) ⟨by simp, cs, ?_, hl⟩ ?_
 ·exact ⟨zu _ _, fun e he => by rw [List.mem_singleton.1 he]; exact f, fun e he => by rw [List.mem_singleton.1 he]; exact qA _ _, by simp⟩
 clear f hl cs
 rintro i _ h1 next hi ⟨rfl, cs, K, hl⟩ hnx
 refine ⟨arr b n, _, _, rfl, ?_⟩
 by_cases hlt : i < n
 rotate_left
 ·have hie : i = n := by omega
  subst hie
  exact ak (by simp) (k h1 cs K.le (K.at (.head _)) hl)
 refine aH (by simp; omega) ?_
 simp (disch := omega) only [KT]
 have hnat : Int.toNat (i : Int) = i := Int.toNat_natCast i
 rw [hnat]
 repeat' (first
  | (refine cB ⟨by omega, by first | omega | (dsimp only; omega), ?_⟩)
  | ((((with_reducible apply Kn.wr); (assumption); ((focus ((repeat first | exact .head | apply Upd.tail); done))))); (first | omega | (simp only [eP]; omega)); (intro _ _ _)))
 have hni : ((i : Int) + 1) = ((i + 1 : Nat) : Int) := by omega
 have hke : k0 + (i : Int) * 2 + 1 + 1 = k0 + ((i + 1 : Nat) : Int) * 2 := by omega
 rw [hni, hke]
 refine hnx hlt _ _ ⟨rfl, _, by assumption, by first | exact hl | (simp only [eP]; exact hl)⟩
theorem wX {h : Hp} {b n z : Nat} {cs : List Value} {k0 : Int} {R : Value -> Hp -> Prop} (f : h b = some (.inl ⟨cs, z, false⟩)) (hl : cs.length = n) (h0 : 0 <= k0) (hk : k0 + n <= 1000000000000)
  (k : ∀ h' cs', (h.off b).le h' -> h' b = some (.inl ⟨cs', z, false⟩) -> cs'.length = n -> R (I (k0 + n)) h') : ey #[(arr b n).v, I k0] h R := by
 apply sE
 refine uf_ ?_
 refine aq n (fun i vs h' => vs = [(arr b n).v, I (k0 + i), I i] /\ ∃ cs, Kn (h.off b) h' [(b, .inl ⟨cs, z, false⟩)] /\ cs.length = n) ⟨by simp, cs, ?_, hl⟩ ?_
 ·exact ⟨zu _ _, fun e he => by rw [List.mem_singleton.1 he]; exact f, fun e he => by rw [List.mem_singleton.1 he]; exact qA _ _, by simp⟩
 clear f hl cs
 rintro i _ h1 next hi ⟨rfl, cs, K, hl⟩ hnx
 refine ⟨arr b n, _, _, rfl, ?_⟩
 by_cases hlt : i < n
 rotate_left
 ·have hie : i = n := by omega
  subst hie
  exact ak (by simp) (k h1 cs K.le (K.at (.head _)) hl)
 refine aH (by simp; omega) ?_
 simp (disch := omega) only [KT]
 have hnat : Int.toNat (i : Int) = i := Int.toNat_natCast i
 rw [hnat]
 repeat' (first
  | (refine cB ⟨by omega, by first | omega | (dsimp only; omega), ?_⟩)
  | ((((with_reducible apply Kn.wr); (assumption); ((focus ((repeat first | exact .head | apply Upd.tail); done))))); (first | omega | (simp only [eP]; omega)); (intro _ _ _)))
 have hni : ((i : Int) + 1) = ((i + 1 : Nat) : Int) := by omega
 have hke : k0 + (i : Int) + 1 = k0 + ((i + 1 : Nat) : Int) := by omega
 rw [hke, hni]
 refine hnx hlt _ _ ⟨rfl, _, by assumption, by first | exact hl | (simp only [eP]; exact hl)⟩
theorem en {g h : Hp} {X : List (Nat × Blk)} {m : aj} {bn bi bx bb bh : Nat} {R : Value -> Hp -> Prop} (K : Kn g h (dQ m bn bi bx bb bh ++ X)) (hm : bU m)
  (k : ∀ h' L', L'.map Prod.fst = [bn, bi, bx, bb, bh] -> Kn g h' (L' ++ X) -> ∀ r : Int, 0 <= r -> R (I r) h') : cJ #[aN (AN m bn bi bx bb bh), I 1] h R := by
 apply zH
 refine uf_ ?_
 have g1 := hm.nodes
 have g2 := hm.inits
 have g3 := hm.nexts
 have g4 := hm.bads
 have g5 := hm.holds
 refine ae fun b8 h1 hb8 l1 f8 => ?_
 have K1 := K.cons hb8 l1 f8
 unfold dQ at K1
 simp only [List.cons_append, List.nil_append] at K1
 clear K l1 hb8
 (refine am ?_)
 refine C2 (K1.at (.tail _ (.head _))) (gm (m := 9) (fun _ => rfl) _) (by omega) (by omega) fun h2 c2 l2 f2 hc2 => ⟨_, rfl, ?_⟩
 have K2 := K1.off (.tail .head) l2 f2
 (refine kr_ ?_)
 refine th (K2.at (.tail _ (.tail _ (.head _)))) (gm (m := 2) (fun _ => rfl) _) (by omega) (by omega) fun h3 c3 l3 f3 hc3 => ⟨_, rfl, ?_⟩
 have K3 := K2.off (.tail (.tail .head)) l3 f3
 (refine kr_ ?_)
 refine th (K3.at (.tail _ (.tail _ (.tail _ (.head _))))) (gm (m := 2) (fun _ => rfl) _) (by omega) (by omega) fun h4 c4 l4 f4 hc4 => ⟨_, rfl, ?_⟩
 have K4 := K3.off (.tail (.tail (.tail .head))) l4 f4
 (refine kr_ ?_)
 refine wX (K4.at (.tail _ (.tail _ (.tail _ (.tail _ (.head _)))))) (by simp) (by omega) (by omega) fun h5 c5 l5 f5 hc5 => ⟨_, rfl, ?_⟩
 have K5 := K4.off (.tail (.tail (.tail (.tail .head)))) l5 f5
 (refine kr_ ?_)
 refine wX (K5.at (.tail _ (.tail _ (.tail _ (.tail _ (.tail _ (.head _))))))) (by simp) (by omega) (by omega) fun h6 c6 l6 f6 hc6 => ⟨_, rfl, ?_⟩
 have K6 := K5.off (.tail (.tail (.tail (.tail (.tail .head))))) l6 f6
 have nd := K6.nd
 rw [List.map_cons, List.nodup_cons] at nd
 refine k h6 [(bn, .inl ⟨c2, m.nodes.length * 9, false⟩), (bi, .inl ⟨c3, m.inits.length * 2, false⟩), (bx, .inl ⟨c4, m.nexts.length * 2, false⟩), (bb, .inl ⟨c5, m.bads.length * 1, false⟩), (bh, .inl ⟨c6, m.holds.length * 1, false⟩)] rfl (K6.sub (L' := [(bn, .inl ⟨c2, m.nodes.length * 9, false⟩), (bi, .inl ⟨c3, m.inits.length * 2, false⟩), (bx, .inl ⟨c4, m.nexts.length * 2, false⟩), (bb, .inl ⟨c5, m.bads.length * 1, false⟩), (bh, .inl ⟨c6, m.holds.length * 1, false⟩)] ++ X) (fun e he => .tail _ he) nd.2) _ (by omega)
theorem iY (v : Int) (f : Nat -> Bool) : (da v f).ns.length <= 600 := by
 unfold da rj
 split
 ·split
  ·simp [gG]
  ·rename_i r h; split at h
   ·cases h
   ·cases h; dsimp only; omega
 ·simp [gG]
theorem list9 {cs : List Value} (h : cs.length = 9) : ∃ a b c d e f g i j, cs = [a, b, c, d, e, f, g, i, j] := by
 match cs, h with
 | [a, b, c, d, e, f, g, i, j], _ => exact ⟨a, b, c, d, e, f, g, i, j, rfl⟩
theorem list2 {cs : List Value} (h : cs.length = 2) : ∃ a b, cs = [a, b] := by
 match cs, h with
 | [a, b], _ => exact ⟨a, b, rfl⟩
theorem Got.flat {P : Program} {W : World} {t e : TypeId} {v : Value} {α : Type} {f : α -> List Value} {m : Nat} {p : α -> Prop} (hf : ∀ x, (f x).length = m) (hpos : 0 < m) (ht : P.underlying t = some (.slice e)) (hsz : P.cellsOf e = m)
  (hg : ∀ ds, Got P W e ds -> ∃ x, ds = f x /\ p x) (g : Got P W t [v]) : ∃ (s : Sl) (l : List α), v = s.v /\ s.n <= s.c /\ SlC (hW W) s m (l.flatMap f) /\ ∀ x ∈ l, p x := by
 obtain ⟨s, hs, hm, hlc, h⟩ := Got.slice ht hsz hpos g
 simp only [List.cons.injEq, and_true] at hs
 rcases h with h | ⟨b, o, ha, h⟩
 ·exact ⟨s, [], hs, hlc, ⟨hm, by simp [h], .inl h⟩, by simp⟩
 obtain ⟨xs, hl, hx⟩ := Bj (p := fun i (x : α) => (∀ (j : Nat) v, (f x)[j]? = some v -> Hp.cell (hW W) b (o + i * m + j) = some v) /\ p x) s.n fun i hi => by
  obtain ⟨ds, hd, hgd, hc⟩ := h i hi
  obtain ⟨x, rfl, hp⟩ := hg ds hgd
  exact ⟨x, hc, hp⟩
 refine ⟨s, xs, hs, hlc, ⟨hm, by rw [gm hf, hl], .inr ⟨b, o, ha, ?_⟩⟩, ?_⟩
 ·intro i v hv
  have hi : i < (xs.flatMap f).length := (List.getElem?_eq_some_iff.1 hv).1
  rw [gm hf] at hi
  have hq : i / m < xs.length := by rw [Nat.div_lt_iff_lt_mul hpos]; exact hi
  have hr : i % m < m := Nat.mod_lt _ hpos
  have he : i = i / m * m + i % m := by rw [Nat.mul_comm]; exact (Nat.div_add_mod _ _).symm
  rw [he, tp hf xs (i / m) xs[i / m] (i % m) (List.getElem?_eq_getElem hq) hr] at hv
  have := (hx (i / m) hq).1 _ _ hv
  rw [he, <- Nat.add_assoc]; exact this
 ·intro x hxm
  obtain ⟨i, hi, rfl⟩ := List.getElem_of_mem hxm
  exact (hx i hi).2
def tb (n : Nat) (T : Nat -> Bool) : List Value := (List.range n).map fun i => .bool (T i)
theorem eQ (n : Nat) (T : Nat -> Bool) : (tb n T).length = n := by simp [tb]
theorem jF {n j : Nat} {T : Nat -> Bool} (hj : j < n) : (tb n T)[j]? = some (.bool (T j)) := by simp [tb, hj]
theorem SS {n : Nat} {T U : Nat -> Bool} (h : ∀ j, j < n -> T j = U j) : tb n T = tb n U := by
 refine List.map_congr_left fun j hj => ?_
 rw [h j (List.mem_range.1 hj)]
theorem hZ (n : Nat) : List.replicate n (.bool false) = tb n fun _ => false := by
 refine List.ext_getElem (by simp [tb]) fun i h1 h2 => ?_
 simp [tb]
theorem iP {n j : Nat} {T : Nat -> Bool} {v : Bool} : (tb n T).set j (.bool v) = tb n fun i => if i = j then v else T i := by
 refine List.ext_getElem (by simp [tb]) fun i h1 h2 => ?_
 rw [List.getElem_set]
 simp only [tb, List.getElem_map, List.getElem_range]
 by_cases e : i = j
 ·rw [if_pos e, if_pos e.symm]
 ·rw [if_neg e, if_neg fun h => e h.symm]
theorem S2 (n : Nat) (T : Nat -> Bool) : tb n T = ((List.range n).map T).map Value.bool := by simp [tb]
theorem gi {h : Hp} {b n z : Nat} {ro : Bool} {T U : Nat -> Bool} (hn : n <= 9223372036854775807) (f : h b = some (.inl ⟨tb n T, z, ro⟩)) (e : ∀ j, j < n -> T j = U j) : cy h (arr b n) n U := by
 refine ⟨by dsimp only; omega, by simp, .inr ⟨b, 0, rfl, ?_⟩⟩
 have := ax f
 rwa [SS e, S2] at this
theorem dy {σ : ar} (ok : σ.Ok) : 2 ^ σ.n <= 256 := by
 have := Nat.pow_le_pow_right (n := 2) (by omega) ok.nle
 simpa using this
theorem zE {σ : ar} (ok : σ.Ok) : 2 ^ σ.k <= 32 := by
 have := Nat.pow_le_pow_right (n := 2) (by omega) ok.kle
 simpa using this
theorem ln {σ : ar} (ok : σ.Ok) : 2 ^ (σ.n + σ.k) <= 8192 := by
 have h1 := ok.nle
 have h2 := ok.kle
 have := Nat.pow_le_pow_right (n := 2) (by omega) (show σ.n + σ.k <= 13 by omega)
 simpa using this
theorem Bs {h : Hp} {b s i : Nat} {σ : ar} {R : Value -> Hp -> Prop} (hs : jK h b σ) (ok : σ.Ok) (h1 : s < 2 ^ σ.n) (h2 : i < 2 ^ σ.k) (k : R (I (σ.at_ s i : Nat)) h) :
  fC #[.pointer (some ⟨b, 0, none⟩), I s, I i] h R := by
 apply ze
 refine uf_ ?_
 obtain ⟨M, st, hold, bad, next, fx, _, _, _⟩ := hs
 have hn := dy ok
 have hk := ln ok
 have hl := ar.at_lt h1 h2
 have h8 := ok.nle
 unfold ar.at_ at hl k
 refine cB ?_
 (refine am ?_)
 rw [if_neg (by omega), gt (by omega) (by omega), wY (by omega) (by omega)]
 refine ng ?_ k
 rw [<- Nat.shiftLeft_eq, <- Nat.shiftLeft_add_eq_or_of_lt h1, Nat.shiftLeft_eq]
theorem F6 {h : Hp} {b c : Nat} {σ : ar} {R : Value -> Hp -> Prop} (hs : jK h b σ) (hc : c < 2 ^ (σ.n + σ.k)) (k : R (.bool (σ.hold c)) h) :
  lF #[.pointer (some ⟨b, 0, none⟩), I c] h R := by
 apply sX
 refine uf_ ?_
 obtain ⟨M, st, hold, bad, next, fx, hh, _, _⟩ := hs
 refine cB ?_
 (refine am ?_)
 obtain ⟨b', o', ha, h1, h2⟩ := hh.get hc
 exact ⟨b', o', ha, by omega, h1, _, h2, k⟩
theorem ri {h : Hp} {b c : Nat} {σ : ar} {R : Value -> Hp -> Prop} (hs : jK h b σ) (hc : c < 2 ^ (σ.n + σ.k)) (k : R (.bool (σ.ends c)) h) :
  eF #[.pointer (some ⟨b, 0, none⟩), I c] h R := by
 apply wj
 refine uf_ ?_
 obtain ⟨M, st, hold, bad, next, fx, hh, hb, _⟩ := hs
 refine cB ?_
 (refine am ?_)
 obtain ⟨b', o', ha, h1, h2⟩ := hh.get hc
 refine ⟨b', o', ha, by omega, h1, _, h2, ?_⟩
 unfold ar.ends at k
 refine ad (fun e => ?_) (fun e => ?_)
 ·refine cB ?_
  (refine am ?_)
  obtain ⟨b', o', ha, h1, h2⟩ := hb.get hc
  refine ⟨b', o', ha, by omega, h1, _, h2, dk ?_ k⟩
  rw [e]; rfl
 ·rw [e] at k; exact k
def T0 (h : Hp) (fid : FuncId) (u w : Array Value) (σ : ar) (f : Nat -> Nat -> Bool) : Prop :=
 ∀ s i : Nat, s < 2 ^ σ.n -> i < 2 ^ σ.k -> ∀ h' : Hp, h.le h' -> ∀ R : Value -> Hp -> Prop, R (.bool (f s (σ.at_ s i))) h' -> ACalls PR fid ((u ++ #[I s, I (σ.at_ s i : Nat)]) ++ w) h' R
theorem lV {h : Hp} {b : Nat} {σ : ar} {fid : FuncId} {u w : Array Value} {f : Nat -> Nat -> Bool} {R : Value -> Hp -> Prop} (hs : jK h b σ) (ok : σ.Ok) (hf : T0 h fid u w σ f)
  (k : ∀ t h', h.le h' -> cy (h'.sub h) t (2 ^ σ.n) (σ.some_ f) -> R (Sl.v t) h') : cY #[.pointer (some ⟨b, 0, none⟩), .func (.func fid) u w] h R := by
 apply wR
 refine uf_ ?_
 have hn := dy ok
 have hk := zE ok
 have h8 := ok.nle
 have h5 := ok.kle
 obtain ⟨M, st, hold, bad, next, fx, _⟩ := id hs
 have K0 := Kn.nil h
 refine cB ?_
 (refine am ?_)
 rw [if_neg (by omega), cu (by omega)]
 refine ⟨Int.natCast_nonneg _, Int.le_refl _, by omega, by omega, ?_⟩
 (with_reducible apply Kn.al); (assumption); (intro b10 h1 K1 l1 hb10)
 rw [Int.toNat_natCast, Nat.mul_one, bO, hZ] at K1
 rw [Int.toNat_natCast]
 refine aq (2 ^ σ.n) (fun s vs h' => vs = [.pointer (some ⟨b, 0, none⟩), .func (.func fid) u w, (arr b10 (2 ^ σ.n)).v, I (2 ^ σ.n : Nat), I s] /\
  ∃ T, Kn h h' [(b10, .inl ⟨tb (2 ^ σ.n) T, 2 ^ σ.n, false⟩)] /\ (∀ j, j < s -> T j = σ.some_ f j) /\ ∀ j, s <= j -> T j = false) ⟨rfl, _, K1, fun j hj => by omega, fun _ _ => rfl⟩ ?_
 clear K1 K0 l1 hb10 h1
 rintro s _ h1 next hs' ⟨rfl, T, K1, hT1, hT2⟩ hnx
 refine ⟨_, _, _, _, arr b10 _, _, _, rfl, ?_⟩
 by_cases hlt : s < 2 ^ σ.n
 rotate_left
 ·refine ak (by rw [decide_eq_false_iff_not]; omega) ?_
  exact k _ h1 K1.le (gi (by omega) (by rw [jB (K1.new _ (.head _))]; exact K1.at (.head _)) fun j hj => hT1 j (by omega))
 refine aH (by rw [decide_eq_true_eq]; exact_mod_cast hlt) ?_
 refine cB ?_
 (refine kr_ ?_)
 rw [if_neg (by omega), cu (by omega)]
 refine aq (2 ^ σ.k) (fun i vs h' => vs = [.pointer (some ⟨b, 0, none⟩), .func (.func fid) u w, (arr b10 (2 ^ σ.n)).v, I s, I (2 ^ σ.n : Nat), I s, I (2 ^ σ.k : Nat), I i] /\
  ∃ T, Kn h h' [(b10, .inl ⟨tb (2 ^ σ.n) T, 2 ^ σ.n, false⟩)] /\ (∀ j, j < s -> T j = σ.some_ f j) /\ (∀ j, s < j -> T j = false) /\ T s = lp i fun x => f s (σ.at_ s x))
  ⟨rfl, T, K1, hT1, fun j hj => hT2 j (by omega), by rw [hT2 s (Nat.le_refl _)]; rfl⟩ ?_
 clear K1 hT1 hT2 T h1
 rintro i _ h1 next2 hi ⟨rfl, T, K1, hT1, hT2, hT3⟩ hnx2
 refine ⟨_, _, _, _, arr b10 _, _, _, _, _, _, rfl, ?_⟩
 by_cases hli : i < 2 ^ σ.k
 rotate_left
 ·refine ak (by rw [decide_eq_false_iff_not]; omega) ?_
  have hie : i = 2 ^ σ.k := by omega
  rw [az (by omega)]
  refine hnx hlt _ _ ⟨rfl, T, K1, fun j hj => ?_, fun j hj => hT2 j (by omega)⟩
  by_cases e : j = s
  ·rw [e, hT3, hie]; rfl
  ·exact hT1 j (by omega)
 refine aH (by rw [decide_eq_true_eq]; exact_mod_cast hli) ?_
 have upd : ∀ v, v = lp (i + 1) (fun x => f s (σ.at_ s x)) -> ∀ h', Kn h h' [(b10, .inl ⟨(tb (2 ^ σ.n) T).set s (.bool v), 2 ^ σ.n, false⟩)] ->
   next2 [.pointer (some ⟨b, 0, none⟩), .func (.func fid) u w, (arr b10 (2 ^ σ.n)).v, I s, I (2 ^ σ.n : Nat), I s, I (2 ^ σ.k : Nat), I (W ((i : Int) + 1))] h' := by
  intro v hv h' K
  rw [az (by omega)]
  rw [iP] at K
  exact hnx2 hli _ _ ⟨rfl, _, K, fun j hj => by rw [if_neg (by omega)]; exact hT1 j hj, fun j hj => by rw [if_neg (by omega)]; exact hT2 j hj, by rw [if_pos rfl]; exact hv⟩
 refine ⟨b10, 0, rfl, by omega, by dsimp only; omega, ?_⟩
 refine Kn.rd K1 (.head _) (x := T s) (by rw [Nat.zero_add, Nat.mul_one, Int.toNat_natCast]; exact jF hlt) ?_
 refine ad (fun e => ?_) (fun e => ?_)
 ·refine ⟨b10, 0, rfl, by omega, by dsimp only; omega, ?_⟩
  (((with_reducible apply Kn.wr); (assumption); ((focus ((repeat first | exact .head | apply Upd.tail); done)))))
  ·rw [eQ]; omega
  intro h2 K2 _
  rw [bk, Nat.zero_add, Int.toNat_natCast, Nat.mul_one] at K2
  exact upd true (by rw [Fb, <- hT3, e]; rfl) h2 K2
 ·refine Bs (hs.mono K1.le) ok hlt hli ⟨_, rfl, ?_⟩
  refine hf s i hlt hli h1 K1.le _ ⟨_, rfl, ?_⟩
  refine ⟨b10, 0, rfl, by omega, by dsimp only; omega, ?_⟩
  (((with_reducible apply Kn.wr); (assumption); ((focus ((repeat first | exact .head | apply Upd.tail); done)))))
  ·rw [eQ]; omega
  intro h2 K2 _
  rw [bk, Nat.zero_add, Int.toNat_natCast, Nat.mul_one] at K2
  exact upd _ (by rw [Fb, <- hT3, e]; rfl) h2 K2
theorem GD {h : Hp} {b : Nat} {s2 : Sl} {σ : ar} {S p : Nat -> Bool} {fid : FuncId} {u w : Array Value} {R : Value -> Hp -> Prop} (hs : jK h b σ) (ok : σ.Ok) (hS : cy h s2 (2 ^ σ.n) S)
  (hp : zd h fid u w (2 ^ (σ.n + σ.k)) p)
  (k : ∀ b' T h', Kn h h' [(b', .inl ⟨tb (2 ^ σ.n) T, 2 ^ σ.n, false⟩)] -> (∀ j, j < 2 ^ σ.n -> T j = σ.fwd p S j) -> R (arr b' (2 ^ σ.n)).v h') :
  iL #[.pointer (some ⟨b, 0, none⟩), s2.v, .func (.func fid) u w] h R := by
 apply sR
 refine uf_ ?_
 have hn := dy ok
 have hk := zE ok
 have h8 := ok.nle
 have h5 := ok.kle
 have hl := hS.len
 obtain ⟨M, st, hold, bad, next, fx, _, _, hnt⟩ := id hs
 have K0 := Kn.nil h
 rw [hl]
 refine ⟨Int.natCast_nonneg _, Int.le_refl _, by omega, by omega, ?_⟩
 (with_reducible apply Kn.al); (assumption); (intro b8 h1 K1 l1 hb8)
 rw [Int.toNat_natCast, Nat.mul_one, bO, hZ] at K1
 rw [Int.toNat_natCast]
 refine aq (2 ^ σ.n) (fun s vs h' => vs = [.pointer (some ⟨b, 0, none⟩), s2.v, .func (.func fid) u w, (arr b8 (2 ^ σ.n)).v, s2.v, I (2 ^ σ.n : Nat), I s] /\
  ∃ T, Kn h h' [(b8, .inl ⟨tb (2 ^ σ.n) T, 2 ^ σ.n, false⟩)] /\ ∀ x, T x = true ↔ ∃ s' i', s' < s /\ i' < 2 ^ σ.k /\ S s' = true /\ p (σ.at_ s' i') = true /\ σ.next (σ.at_ s' i') = x)
  ⟨rfl, _, K1, fun x => ⟨fun e => by simp at e, fun ⟨s', i', e, _⟩ => by omega⟩⟩ ?_
 clear K1 K0 l1 hb8 h1
 rintro s _ h1 nxt hs' ⟨rfl, T, K1, hT⟩ hnx
 refine ⟨_, s2, _, _, _, arr b8 _, s2, _, _, rfl, ?_⟩
 by_cases hlt : s < 2 ^ σ.n
 rotate_left
 ·refine ak (by rw [decide_eq_false_iff_not]; omega) ?_
  have hse : s = 2 ^ σ.n := by omega
  rw [hl]
  refine ⟨Int.natCast_nonneg _, Int.le_refl _, by omega, by omega, ?_⟩
  (with_reducible apply Kn.al); (assumption); (intro b84 h2 K2 l2 hb84)
  rw [Int.toNat_natCast, Nat.mul_one, bO, hZ] at K2
  rw [Int.toNat_natCast]
  refine aq (2 ^ σ.n) (fun t vs h' => vs = [.pointer (some ⟨b, 0, none⟩), (arr b8 (2 ^ σ.n)).v, (arr b84 (2 ^ σ.n)).v, I (2 ^ σ.n : Nat), I t] /\
   ∃ U, Kn h h' [(b84, .inl ⟨tb (2 ^ σ.n) U, 2 ^ σ.n, false⟩), (b8, .inl ⟨tb (2 ^ σ.n) T, 2 ^ σ.n, false⟩)] /\ ∀ j, j < t -> U j = σ.fwd p S j)
   ⟨rfl, _, K2, fun j hj => by omega⟩ ?_
  clear K2 l2 hb84 h2
  rintro t _ h2 nxt2 ht ⟨rfl, U, K2, hU⟩ hnx2
  refine ⟨_, arr b8 _, arr b84 _, _, _, rfl, ?_⟩
  by_cases hlt2 : t < 2 ^ σ.n
  rotate_left
  ·refine ak (by rw [decide_eq_false_iff_not]; omega) ?_
   exact k b84 U h2 (K2.sub (fun e he => by rw [List.mem_singleton] at he; subst he; exact .head _) (by simp)) fun j hj => hU j (by omega)
  refine aH (by rw [decide_eq_true_eq]; exact_mod_cast hlt2) ?_
  refine cB ?_
  (refine kr_ ?_)
  have hfx := ok.fixed
  rw [oU (by omega) (by omega)]
  have hle : t &&& σ.fixed <= t := Nat.and_le_left
  refine ⟨b8, 0, rfl, by omega, by dsimp only; omega, ?_⟩
  refine Kn.rd K2 (.tail _ (.head _)) (x := T (t &&& σ.fixed)) (by rw [Nat.zero_add, Nat.mul_one, Int.toNat_natCast]; exact jF (by omega)) ?_
  refine ⟨b84, 0, rfl, by omega, by dsimp only; omega, ?_⟩
  (((with_reducible apply Kn.wr); (assumption); ((focus ((repeat first | exact .head | apply Upd.tail); done)))))
  ·rw [eQ]; omega
  intro h3 K3 _
  rw [bk, Nat.zero_add, Int.toNat_natCast, Nat.mul_one, iP] at K3
  rw [az (by omega)]
  refine hnx2 hlt2 _ _ ⟨rfl, _, K3, fun j hj => ?_⟩
  by_cases e : j = t
  ·subst e
   rw [if_pos rfl, Bool.eq_iff_iff, hT, ar.fwd_iff]
   constructor
   ·rintro ⟨s', i', q1, q2, q3, q4, q5⟩
    exact ⟨s', i', by omega, q2, q3, q4, by unfold ar.goes; rw [decide_eq_true_eq]; exact q5.symm⟩
   ·rintro ⟨s', i', q1, q2, q3, q4, q5⟩
    unfold ar.goes at q5
    rw [decide_eq_true_eq] at q5
    exact ⟨s', i', by omega, q2, q3, q4, q5.symm⟩
  ·rw [if_neg e]; exact hU j (by omega)
 refine aH (by rw [decide_eq_true_eq]; exact_mod_cast hlt) ?_
 obtain ⟨bS, oS, ha, hlt', hc⟩ := (hS.mono K1.le).get hlt
 refine ⟨bS, oS, ha, by omega, hlt', _, hc, ?_⟩
 refine cB ?_
 (refine kr_ ?_)
 rw [if_neg (by omega), cu (by omega)]
 refine aq (2 ^ σ.k) (fun i vs h' => vs = [.pointer (some ⟨b, 0, none⟩), s2.v, .func (.func fid) u w, (arr b8 (2 ^ σ.n)).v, I s, .bool (S s), s2.v, I (2 ^ σ.n : Nat), I s, I (2 ^ σ.k : Nat), I i] /\
  ∃ T, Kn h h' [(b8, .inl ⟨tb (2 ^ σ.n) T, 2 ^ σ.n, false⟩)] /\ ∀ x, T x = true ↔ ∃ s' i', (s' < s \/ s' = s /\ i' < i) /\ i' < 2 ^ σ.k /\ S s' = true /\ p (σ.at_ s' i') = true /\ σ.next (σ.at_ s' i') = x)
  ⟨rfl, T, K1, fun x => ?_⟩ ?_
 ·rw [hT]
  constructor
  ·rintro ⟨s', i', q1, q⟩; exact ⟨s', i', .inl q1, q⟩
  ·rintro ⟨s', i', q1, q⟩; exact ⟨s', i', by omega, q⟩
 clear K1 hT T h1 hc hlt' ha bS oS
 rintro i _ h1 nxt2 hi ⟨rfl, T, K1, hT⟩ hnx2
 refine ⟨_, s2, _, _, _, arr b8 _, _, _, s2, _, _, _, _, rfl, ?_⟩
 by_cases hli : i < 2 ^ σ.k
 rotate_left
 ·refine ak (by rw [decide_eq_false_iff_not]; omega) ?_
  rw [az (by omega)]
  refine hnx hlt _ _ ⟨rfl, T, K1, fun x => ?_⟩
  rw [hT]
  constructor
  ·rintro ⟨s', i', q1, q⟩; exact ⟨s', i', by omega, q⟩
  ·rintro ⟨s', i', q1, q2, q⟩; exact ⟨s', i', by omega, q2, q⟩
 refine aH (by rw [decide_eq_true_eq]; exact_mod_cast hli) ?_
 have fin : ∀ T' h', Kn h h' [(b8, .inl ⟨tb (2 ^ σ.n) T', 2 ^ σ.n, false⟩)] -> (∀ x, T' x = true ↔ T x = true \/ (S s = true /\ p (σ.at_ s i) = true /\ σ.next (σ.at_ s i) = x)) ->
   nxt2 [.pointer (some ⟨b, 0, none⟩), s2.v, .func (.func fid) u w, (arr b8 (2 ^ σ.n)).v, I s, .bool (S s), s2.v, I (2 ^ σ.n : Nat), I s, I (2 ^ σ.k : Nat), I (W ((i : Int) + 1))] h' := by
  intro T' h' K hx
  rw [az (by omega)]
  refine hnx2 hli _ _ ⟨rfl, T', K, fun x => ?_⟩
  rw [hx, hT]
  constructor
  ·rintro (⟨s', i', q1, q⟩ | ⟨q1, q2, q3⟩)
   ·exact ⟨s', i', by omega, q⟩
   ·exact ⟨s, i, by omega, hli, q1, q2, q3⟩
  ·rintro ⟨s', i', q1, q2, q3, q4, q5⟩
   by_cases e : s' = s /\ i' = i
   ·obtain ⟨rfl, rfl⟩ := e
    exact .inr ⟨q3, q4, q5⟩
   ·exact .inl ⟨s', i', by omega, q2, q3, q4, q5⟩
 rw [dc]
 refine Bs (hs.mono K1.le) ok hlt hli ⟨_, rfl, ?_⟩
 rw [dc]
 have hc := ar.at_lt hlt hli
 refine ad (fun e => ?_) (fun e => ?_)
 ·refine hp _ hc h1 K1.le _ ⟨_, rfl, ?_⟩
  refine ad (fun e2 => ?_) (fun e2 => ?_)
  ·refine cB ?_
   (refine kr_ ?_)
   obtain ⟨bx, ox, hax, hx1, hx2⟩ := (hnt.mono K1.le).get hc
   refine ⟨bx, ox, hax, by omega, hx1, _, hx2, ?_⟩
   have hnl := ok.next _ hc
   refine ⟨b8, 0, rfl, by omega, by dsimp only; omega, ?_⟩
   (((with_reducible apply Kn.wr); (assumption); ((focus ((repeat first | exact .head | apply Upd.tail); done)))))
   ·rw [eQ]; omega
   intro h2 K2 _
   rw [bk, Nat.zero_add, Int.toNat_natCast, Nat.mul_one, iP] at K2
   refine fin _ h2 K2 fun x => ?_
   by_cases ex : x = σ.next (σ.at_ s i)
   ·rw [if_pos ex]; exact ⟨fun _ => .inr ⟨e, e2, ex.symm⟩, fun _ => rfl⟩
   ·rw [if_neg ex]
    exact ⟨fun q => .inl q, fun q => q.resolve_right fun q => ex q.2.2.symm⟩
  ·exact fin T h1 K1 fun x => ⟨fun q => .inl q, fun q => q.resolve_right fun q => by rw [q.2.1] at e2; cases e2⟩
 ·refine ak rfl ?_
  exact fin T h1 K1 fun x => ⟨fun q => .inl q, fun q => q.resolve_right fun q => by rw [q.1] at e; cases e⟩
theorem KG {h : Hp} {s : Sl} {N : Nat} {T : Nat -> Bool} {R : Value -> Hp -> Prop} (hT : cy h s N T) (hN : N <= 1048576) (k1 : ∀ i : Nat, i < N -> T i = true -> R (I i) h) (k2 : lp N T = false -> R (I (-1)) h) :
  fS #[s.v, .bool true] h R := by
 apply pF
 refine uf_ ?_
 have hl := hT.len
 rw [hl]
 refine aq N (fun i vs h' => vs = [s.v, .bool true, I N, I i] /\ h' = h /\ ∀ j, j < i -> T j = false) ⟨rfl, rfl, fun j hj => by omega⟩ ?_
 rintro i _ _ next hi ⟨rfl, rfl, hj⟩ hnx
 refine ⟨s, _, _, _, rfl, ?_⟩
 by_cases hlt : i < N
 ·refine aH (by rw [decide_eq_true_eq]; exact_mod_cast hlt) ?_
  obtain ⟨b, o, ha, h1, h2⟩ := hT.get hlt
  refine ⟨b, o, ha, by omega, h1, _, h2, ?_⟩
  refine ad (fun e => ?_) (fun e => ?_)
  ·exact k1 i hlt (by simpa using e)
  ·rw [az (by omega)]
   refine hnx hlt _ _ ⟨rfl, rfl, fun j hji => ?_⟩
   by_cases eq : j = i
   ·rw [eq]; simpa using e
   ·exact hj j (by omega)
 ·exact ak (by rw [decide_eq_false_iff_not]; omega) (k2 (mw.2 fun j hjn => hj j (by omega)))
theorem vA {h : Hp} {s : Sl} {N : Nat} {T : Nat -> Bool} {R : Value -> Hp -> Prop} (hT : cy h s N T) (hN : N <= 1048576) (k : R (.bool (lp N T)) h) :
  dX #[s.v, .bool true] h R := by
 apply ni
 refine uf_ ?_
 refine KG hT hN (fun i hi e => ⟨_, rfl, ?_⟩) fun e => ⟨_, rfl, ?_⟩
 ·refine dk ?_ k
  rw [cc.2 ⟨i, hi, e⟩, decide_eq_true_eq]; omega
 ·refine dk ?_ k
  rw [e]; rfl
def xc (h : Hp) (s : Sl) (n m : Nat) (L : Nat -> Nat -> Bool) : Prop := ∃ ts : List Sl, ts.length = m /\ SlC h s 1 (ts.map Sl.v) /\ ∀ (j : Nat) (t : Sl), ts[j]? = some t -> cy h t n (L j)
theorem xc.mono {h h' : Hp} {s : Sl} {n m : Nat} {L : Nat -> Nat -> Bool} (l : h.le h') (e : xc h s n m L) : xc h' s n m L := by
 obtain ⟨ts, e1, e2, e3⟩ := e
 exact ⟨ts, e1, e2.mono l, fun j t ht => (e3 j t ht).mono l⟩
theorem xc.len {h : Hp} {s : Sl} {n m : Nat} {L : Nat -> Nat -> Bool} (e : xc h s n m L) : s.n = m := by
 obtain ⟨ts, e1, e2, _⟩ := e
 have := e2.2.1
 simp at this; omega
theorem xc.get {h : Hp} {s : Sl} {n m i : Nat} {L : Nat -> Nat -> Bool} (e : xc h s n m L) (hi : i < m) :
  ∃ b o t, s.a = some (Addr.mk b o none) /\ (i : Int) < (s.n : Int) /\ Hp.cell h b (o + Int.toNat (i : Int) * 1) = some (Sl.v t) /\ cy h t n (L i) := by
 have hl := e.len
 obtain ⟨ts, e1, e2, e3⟩ := e
 obtain ⟨t, ht⟩ : ∃ t, ts[i]? = some t := ⟨_, List.getElem?_eq_getElem (by omega)⟩
 obtain ⟨b, o, ha, hc⟩ := SlC.get e2 (by omega)
 refine ⟨b, o, t, ha, by omega, ?_, e3 i t ht⟩
 rw [Int.toNat_natCast, Nat.mul_one]
 exact hc i _ (by simp [ht])
theorem jd {h : Hp} {b : Nat} {σ : ar} {R : Value -> Hp -> Prop} (hs : jK h b σ) (ok : σ.Ok)
  (k : ∀ s h', h.le h' -> xc h' s (2 ^ σ.n) σ.nLay σ.front -> R (Sl.v s) h') : cM #[.pointer (some ⟨b, 0, none⟩)] h R := by
 apply tU
 refine uf_ ?_
 have hn := dy ok
 have h8 := ok.nle
 obtain ⟨M, st, hold, bad, next, fx, _⟩ := id hs
 have K0 := Kn.nil h
 refine cB ?_
 (refine kr_ ?_)
 rw [if_neg (by omega), cu (by omega)]
 refine ⟨Int.natCast_nonneg _, Int.le_refl _, by omega, by omega, ?_⟩
 (with_reducible apply Kn.al); (assumption); (intro b7 h1 K1 l1 hb7)
 rw [Int.toNat_natCast, Nat.mul_one, bO, hZ] at K1
 refine cB ?_
 (refine kr_ ?_)
 rw [if_neg (by omega), cu (by omega)]
 refine ⟨Int.natCast_nonneg _, Int.le_refl _, by omega, by omega, ?_⟩
 (with_reducible apply Kn.al); (assumption); (intro b13 h2 K2 l2 hb13)
 rw [Int.toNat_natCast, Nat.mul_one, bO, hZ] at K2
 rw [Int.toNat_natCast]
 refine aq (2 ^ σ.n) (fun i vs h' => vs = [.pointer (some ⟨b, 0, none⟩), (arr b7 (2 ^ σ.n)).v, (arr b13 (2 ^ σ.n)).v, I (2 ^ σ.n : Nat), I i] /\
  ∃ U, Kn h h' [(b13, .inl ⟨tb (2 ^ σ.n) U, 2 ^ σ.n, false⟩), (b7, .inl ⟨tb (2 ^ σ.n) fun _ => false, 2 ^ σ.n, false⟩)] /\ ∀ j, j < i -> U j = σ.begins j)
  ⟨rfl, _, K2, fun j hj => by omega⟩ ?_
 clear K2 K1 K0 l1 l2 hb7 hb13 h1 h2
 rintro i _ h1 nxt hi ⟨rfl, U, K1, hU⟩ hnx
 refine ⟨_, arr b7 _, arr b13 _, _, _, rfl, ?_⟩
 by_cases hlt : i < 2 ^ σ.n
 ·refine aH (by rw [decide_eq_true_eq]; exact_mod_cast hlt) ?_
  refine tl (hs.mono K1.le) ok hlt ⟨_, rfl, ?_⟩
  refine ⟨b13, 0, rfl, by omega, by dsimp only; omega, ?_⟩
  (((with_reducible apply Kn.wr); (assumption); ((focus ((repeat first | exact .head | apply Upd.tail); done)))))
  ·rw [eQ]; omega
  intro h2 K2 _
  rw [bk, Nat.zero_add, Int.toNat_natCast, Nat.mul_one, iP] at K2
  rw [az (by omega)]
  refine hnx hlt _ _ ⟨rfl, _, K2, fun j hj => ?_⟩
  by_cases e : j = i
  ·rw [if_pos e, e]
  ·rw [if_neg e]; exact hU j (by omega)
 refine ak (by rw [decide_eq_false_iff_not]; omega) ?_
 replace hU : ∀ j, j < 2 ^ σ.n -> U j = σ.front 0 j := fun j hj => hU j (by omega)
 clear hnx hi hlt
 refine aq (2 ^ σ.n) (fun i vs h' => ∃ (out : Sl) (g : Hp) (bF : Nat) (F V : Nat -> Bool) (ts : List Sl), vs = [.pointer (some ⟨b, 0, none⟩), (arr b7 (2 ^ σ.n)).v, (arr bF (2 ^ σ.n)).v, out.v] /\
  h.le g /\ Kn g (h'.offS out) [(bF, .inl ⟨tb (2 ^ σ.n) F, 2 ^ σ.n, false⟩), (b7, .inl ⟨tb (2 ^ σ.n) V, 2 ^ σ.n, false⟩)] /\ Buf h' out 1 (ts.map Sl.v) /\ ts.length = i /\
  (∀ (j : Nat) (t : Sl), ts[j]? = some t -> cy g t (2 ^ σ.n) (σ.front j)) /\ (∀ j, j < 2 ^ σ.n -> F j = σ.front i j) /\ (∀ j, j < 2 ^ σ.n -> V j = σ.seen i j) /\ ∀ j, j < i -> σ.live j = true)
  ⟨⟨none, 0, 0⟩, h, b13, U, _, [], rfl, Hp.le_refl _, K1, et _ _, rfl, fun j t ht => by simp at ht, hU, fun _ _ => rfl, fun j hj => by omega⟩ ?_
 clear K1 hU U h1 b13
 rintro i _ h1 nxt hi ⟨out, g, bF, F, V, ts, rfl, lg, K1, hB, htl, ht, hF, hV, hlive⟩ hnx
 refine ⟨_, arr b7 _, arr bF _, out, rfl, ?_⟩
 have K1' := K1.mono (aO h1 out)
 have hbF : cy h1 (arr bF (2 ^ σ.n)) (2 ^ σ.n) (σ.front i) := gi (by omega) (K1'.at (.head _)) hF
 have hon := hB.1
 rw [List.length_map, Nat.mul_one] at hon
 refine vA hbF (by omega) ⟨_, rfl, ?_⟩
 refine ad (fun e => ?_) (fun e => ?_)
 rotate_left
 ·have hnl : σ.nLay = i := ar.nLay_of hlive e
  exact k out h1 (Hp.le_trans lg K1'.le) ⟨ts, by omega, hB.slc_of (by omega), fun j t hj => (ht j t hj).mono K1'.le⟩
 have hlive' : ∀ j, j < i + 1 -> σ.live j = true := fun j hj => by
  by_cases e2 : j = i
  ·rw [e2]; exact e
  ·exact hlive j (by omega)
 have hlt : i < 2 ^ σ.n := ar.live_le hlive'
 refine ae fun b55 h2 hb55 l2 f55 => ?_
 refine dg (hB.mono l2) (by omega) (by omega) (by omega) ⟨b55, 0, rfl, ax f55⟩ (by simp) rfl ?_
 intro s' h3 hs'n hB' l3 _
 have K2 := K1.mono (Hp.le_trans (bJ out l2) l3)
 obtain ⟨K3, K4⟩ := Kn.split (A := [(bF, .inl ⟨tb (2 ^ σ.n) F, 2 ^ σ.n, false⟩)]) (B := [(b7, .inl ⟨tb (2 ^ σ.n) V, 2 ^ σ.n, false⟩)]) K2
 have lg1 := K4.le
 have fF := K4.at (.head _)
 generalize (h3.offS s').wo (([(b7, .inl ⟨tb (2 ^ σ.n) V, 2 ^ σ.n, false⟩)] : List (Nat × Blk)).map Prod.fst) = g1 at *
 have lh := Hp.le_trans lg lg1
 have lh3 := Hp.le_trans lh (Hp.le_trans K3.le (aO h3 s'))
 have tF : cy g1 (arr bF (2 ^ σ.n)) (2 ^ σ.n) (σ.front i) := gi (by omega) fF hF
 refine GD (hs.mono lh3) ok (tF.mono (Hp.le_trans K3.le (aO h3 s'))) (fun c hc h' l R kk => F6 ((hs.mono lh3).mono l) hc kk) fun bN T h4 K5 hT => ⟨_, rfl, ?_⟩
 have hbN : h3 bN = none := K5.new _ (.head _)
 have K6 := K3.cons (b := bN) (aw (aO h3 s') hbN) (bJ s' K5.le) (hB'.offS_new hbN (K5.at (.head _)))
 have hB4 := hB'.mono K5.le
 refine aq (2 ^ σ.n) (fun x vs h' => vs = [.pointer (some ⟨b, 0, none⟩), (arr b7 (2 ^ σ.n)).v, (arr bF (2 ^ σ.n)).v, s'.v, (arr bN (2 ^ σ.n)).v, I (2 ^ σ.n : Nat), I x] /\
  ∃ T V, Kn g1 (h'.offS s') [(bN, .inl ⟨tb (2 ^ σ.n) T, 2 ^ σ.n, false⟩), (b7, .inl ⟨tb (2 ^ σ.n) V, 2 ^ σ.n, false⟩)] /\ Buf h' s' 1 (ts.map Sl.v ++ [(arr bF (2 ^ σ.n)).v]) /\
   (∀ j, j < 2 ^ σ.n -> T j = if j < x then σ.front (i + 1) j else σ.fwd σ.hold (σ.front i) j) /\ ∀ j, j < 2 ^ σ.n -> V j = if j < x then σ.seen (i + 1) j else σ.seen i j)
  ⟨rfl, T, V, K6, hB4, fun j hj => by rw [if_neg (by omega)]; exact hT j hj, fun j hj => by rw [if_neg (by omega)]; exact hV j hj⟩ ?_
 clear K6 hB4 hT hV K5
 rintro x _ h5 nxt2 hx ⟨rfl, T, V, K, B, hT, hV⟩ hnx2
 refine ⟨_, arr b7 _, arr bF _, s', arr bN _, _, _, rfl, ?_⟩
 by_cases hlx : x < 2 ^ σ.n
 rotate_left
 ·refine ak (by rw [decide_eq_false_iff_not]; omega) ?_
  refine hnx hlt _ _ ⟨s', g1, bN, T, V, ts ++ [arr bF (2 ^ σ.n)], rfl, lh, K, by rw [List.map_append]; exact B, by simp [htl], fun j t hj => ?_, fun j hj => by rw [hT j hj, if_pos (by omega)],
   fun j hj => by rw [hV j hj, if_pos (by omega)], hlive'⟩
  by_cases hji : j < i
  ·rw [List.getElem?_append_left (by omega)] at hj
   exact (ht j t hj).mono lg1
  ·have hj2 := get_lt hj
   simp at hj2
   rw [List.getElem?_append_right (by omega), show j - ts.length = 0 by omega] at hj
   simp at hj; subst hj
   rw [show j = i by omega]; exact tF
 refine aH (by rw [decide_eq_true_eq]; exact_mod_cast hlx) ?_
 refine ap (fun J => ∀ h'' V', Kn g1 (h''.offS s') [(bN, .inl ⟨tb (2 ^ σ.n) T, 2 ^ σ.n, false⟩), (b7, .inl ⟨tb (2 ^ σ.n) V', 2 ^ σ.n, false⟩)] -> Buf h'' s' 1 (ts.map Sl.v ++ [(arr bF (2 ^ σ.n)).v]) ->
  (∀ j, j < 2 ^ σ.n -> V' j = if j < x + 1 then σ.seen (i + 1) j else σ.seen i j) -> J h'') (fun h6 V' K6 B6 hV6 => ?_) (fun J hJ => ?_)
 ·have hTx : T x = σ.fwd σ.hold (σ.front i) x := by rw [hT x hlx, if_neg (by omega)]
  have hVx : V' x = σ.seen (i + 1) x := by rw [hV6 x hlx, if_pos (by omega)]
  have fin : ∀ v h7, v = σ.front (i + 1) x -> Kn g1 (h7.offS s') [(bN, .inl ⟨(tb (2 ^ σ.n) T).set x (.bool v), 2 ^ σ.n, false⟩), (b7, .inl ⟨tb (2 ^ σ.n) V', 2 ^ σ.n, false⟩)] -> Buf h7 s' 1 (ts.map Sl.v ++ [(arr bF (2 ^ σ.n)).v]) ->
    nxt2 [.pointer (some ⟨b, 0, none⟩), (arr b7 (2 ^ σ.n)).v, (arr bF (2 ^ σ.n)).v, s'.v, (arr bN (2 ^ σ.n)).v, I (2 ^ σ.n : Nat), I (W ((x : Int) + 1))] h7 := by
   intro v h7 hv K7 B7
   rw [az (by omega)]
   rw [iP] at K7
   refine hnx2 hlx _ _ ⟨rfl, _, V', K7, B7, fun j hj => ?_, hV6⟩
   by_cases e2 : j = x
   ·rw [if_pos e2, if_pos (by omega), e2]; exact hv
   ·rw [if_neg e2, hT j hj]
    by_cases e3 : j < x
    ·rw [if_pos e3, if_pos (by omega)]
    ·rw [if_neg e3, if_neg (by omega)]
  have K6' := K6.mono (aO h6 s')
  refine ⟨bN, 0, rfl, by omega, by dsimp only; omega, ?_⟩
  refine Kn.rd K6' (.head _) (x := T x) (by rw [Nat.zero_add, Nat.mul_one, Int.toNat_natCast]; exact jF hlx) ?_
  refine ad (fun e2 => ?_) (fun e2 => ?_)
  ·refine ⟨b7, 0, rfl, by omega, by dsimp only; omega, ?_⟩
   refine Kn.rd K6' (.tail _ (.head _)) (x := V' x) (by rw [Nat.zero_add, Nat.mul_one, Int.toNat_natCast]; exact jF hlx) ?_
   refine ⟨bN, 0, rfl, by omega, by dsimp only; omega, ?_⟩
   (with_reducible apply Kn.wrS); (exact K6); ((focus ((repeat first | exact .head | apply Upd.tail); done)))
   ·rw [eQ]; omega
   intro h7 K7 B7 _
   rw [bk, Nat.zero_add, Int.toNat_natCast, Nat.mul_one] at K7
   exact fin _ h7 (by rw [ar.front_succ, <- hTx, e2, hVx]; rfl) K7 (B7 _ _ B6)
  ·refine ⟨bN, 0, rfl, by omega, by dsimp only; omega, ?_⟩
   (with_reducible apply Kn.wrS); (exact K6); ((focus ((repeat first | exact .head | apply Upd.tail); done)))
   ·rw [eQ]; omega
   intro h7 K7 B7 _
   rw [bk, Nat.zero_add, Int.toNat_natCast, Nat.mul_one] at K7
   exact fin _ h7 (by rw [ar.front_succ, <- hTx, e2]; rfl) K7 (B7 _ _ B6)
 ·have hVx : V x = σ.seen i x := by rw [hV x hlx, if_neg (by omega)]
  have fin : ∀ v h7, v = σ.seen (i + 1) x -> Kn g1 (h7.offS s') [(bN, .inl ⟨tb (2 ^ σ.n) T, 2 ^ σ.n, false⟩), (b7, .inl ⟨(tb (2 ^ σ.n) V).set x (.bool v), 2 ^ σ.n, false⟩)] -> Buf h7 s' 1 (ts.map Sl.v ++ [(arr bF (2 ^ σ.n)).v]) -> J h7 := by
   intro v h7 hv K7 B7
   rw [iP] at K7
   refine hJ h7 _ K7 B7 fun j hj => ?_
   by_cases e2 : j = x
   ·rw [if_pos e2, if_pos (by omega), e2]; exact hv
   ·rw [if_neg e2, hV j hj]
    by_cases e3 : j < x
    ·rw [if_pos e3, if_pos (by omega)]
    ·rw [if_neg e3, if_neg (by omega)]
  have K' := K.mono (aO h5 s')
  refine ⟨b7, 0, rfl, by omega, by dsimp only; omega, ?_⟩
  refine Kn.rd K' (.tail _ (.head _)) (x := V x) (by rw [Nat.zero_add, Nat.mul_one, Int.toNat_natCast]; exact jF hlx) ?_
  refine ad (fun e2 => ?_) (fun e2 => ?_)
  ·refine ⟨b7, 0, rfl, by omega, by dsimp only; omega, ?_⟩
   (with_reducible apply Kn.wrS); (exact K); ((focus ((repeat first | exact .head | apply Upd.tail); done)))
   ·rw [eQ]; omega
   intro h7 K7 B7 _
   rw [bk, Nat.zero_add, Int.toNat_natCast, Nat.mul_one] at K7
   exact fin _ h7 (by rw [ar.seen_succ, <- hVx, e2]; rfl) K7 (B7 _ _ B)
  ·refine ⟨bF, 0, rfl, by omega, by dsimp only; omega, ?_⟩
   refine Kn.rg K' fF (x := F x) (by rw [Nat.zero_add, Nat.mul_one, Int.toNat_natCast]; exact jF hlx) ?_
   refine ⟨b7, 0, rfl, by omega, by dsimp only; omega, ?_⟩
   (with_reducible apply Kn.wrS); (exact K); ((focus ((repeat first | exact .head | apply Upd.tail); done)))
   ·rw [eQ]; omega
   intro h7 K7 B7 _
   rw [bk, Nat.zero_add, Int.toNat_natCast, Nat.mul_one] at K7
   exact fin _ h7 (by rw [ar.seen_succ, <- hVx, e2, hF x hlx]; rfl) K7 (B7 _ _ B)
theorem Es {h : Hp} {b4 b z s c : Nat} {σ : ar} {R : Value -> Hp -> Prop} (hs : jK h b σ) (f : h b4 = some (.inl ⟨[.pointer (some ⟨b, 0, none⟩)], z, false⟩)) (hc : c < 2 ^ (σ.n + σ.k)) (k : R (.bool (σ.ends c)) h) :
  ld #[I s, I c, .pointer (some ⟨b4, 0, none⟩)] h R := by
 apply ru
 refine uf_ ?_
 (refine am ?_)
 exact ri hs hc ⟨_, rfl, k⟩
theorem oP {h : Hp} {b : Nat} {s2 : Sl} {σ : ar} {R : Value -> Hp -> Prop} (hs : jK h b σ) (ok : σ.Ok) (hL : xc h s2 (2 ^ σ.n) σ.nLay σ.front) (k : R (I σ.depthI) h) :
  dI #[.pointer (some ⟨b, 0, none⟩), s2.v] h R := by
 refine ACalls.drop (u0 ?_)
 refine uf_ ?_
 have hn := dy ok
 have hnl := ar.nLay_le σ
 refine ae fun b4 h1 hb4 l1 f4 => ?_
 (refine am ?_)
 refine lV (hs.mono l1) ok (f := fun _ c => σ.ends c) (fun s i hs' hi h' l R kk => Es ((hs.mono l1).mono l) (l _ _ f4) (ar.at_lt hs' hi) kk) fun t h2 l2 ht' => ⟨_, rfl, ?_⟩
 have ht := ht'.mono (sub_le h2 h1)
 have l02 := Hp.le_trans l1 l2
 have hL2 := hL.mono l02
 have hl := hL.len
 rw [hl]
 refine aq σ.nLay (fun i vs h' => vs = [t.v, s2.v, I σ.nLay, I i] /\ h2 = h' /\ ∀ j, j < i -> σ.hits j = false) ⟨rfl, rfl, fun j hj => by omega⟩ ?_
 rintro i _ _ nxt hi ⟨rfl, rfl, hno⟩ hnx
 refine ⟨t, s2, _, _, rfl, ?_⟩
 by_cases hlt : i < σ.nLay
 rotate_left
 ·refine ak (by rw [decide_eq_false_iff_not]; omega) ⟨h, l02, ?_⟩
  have : σ.depth = none := ar.find_none.2 fun j hj => hno j (by omega)
  unfold ar.depthI at k
  rw [this] at k; exact k
 refine aH (by rw [decide_eq_true_eq]; exact_mod_cast hlt) ?_
 obtain ⟨bl, ol, r, ha, h3, h4, hr⟩ := hL2.get hlt
 refine ⟨bl, ol, ha, by omega, h3, r, h4, ?_⟩
 have hrl := hr.len
 rw [hrl]
 refine aq (2 ^ σ.n) (fun j vs h' => vs = [t.v, I i, s2.v, I σ.nLay, I i, r.v, I (2 ^ σ.n : Nat), I j] /\ h2 = h' /\ ∀ x, x < j -> (σ.front i x && σ.endsAt x) = false) ⟨rfl, rfl, fun j hj => by omega⟩ ?_
 rintro j _ _ nxt2 hj ⟨rfl, rfl, hno2⟩ hnx2
 refine ⟨t, _, s2, _, _, r, _, _, rfl, ?_⟩
 by_cases hlj : j < 2 ^ σ.n
 rotate_left
 ·refine ak (by rw [decide_eq_false_iff_not]; omega) ?_
  rw [az (by omega)]
  refine hnx hlt _ _ ⟨rfl, rfl, fun x hx => ?_⟩
  by_cases e : x = i
  ·rw [e]; exact mw.2 fun y hy => hno2 y (by omega)
  ·exact hno x (by omega)
 refine aH (by rw [decide_eq_true_eq]; exact_mod_cast hlj) ?_
 have go : (σ.front i j && σ.endsAt j) = false -> nxt2 [t.v, I i, s2.v, I σ.nLay, I i, r.v, I (2 ^ σ.n : Nat), I (W ((j : Int) + 1))] h2 := fun e => by
  rw [az (by omega)]
  refine hnx2 hlj _ _ ⟨rfl, rfl, fun x hx => ?_⟩
  by_cases e2 : x = j
  ·rw [e2]; exact e
  ·exact hno2 x (by omega)
 obtain ⟨br, or, har, hr1, hr2⟩ := hr.get hlj
 refine ⟨br, or, har, by omega, hr1, _, hr2, ?_⟩
 refine ad (fun e => ?_) (fun e => ?_)
 ·obtain ⟨bt, ot, hat, ht1, ht2⟩ := ht.get hlj
  refine ⟨bt, ot, hat, by omega, ht1, _, ht2, ?_⟩
  have he : σ.some_ (fun _ c => σ.ends c) j = σ.endsAt j := rfl
  refine ad (fun e2 => ?_) (fun e2 => ?_)
  ·refine ⟨h, l02, ?_⟩
   have : σ.depth = some i := ar.depth_some.2 ⟨cc.2 ⟨j, hlj, by rw [e, <- he, e2]; rfl⟩, fun x hx => hno x hx⟩
   unfold ar.depthI at k
   rw [this] at k; exact k
  ·exact go (by rw [<- he, e2, Bool.and_false])
 ·exact go (by rw [e]; rfl)
def ez (X : List (Nat × Blk)) (s : Sl) (sz : Nat) (cs : List Value) : Prop :=
 cs.length = s.n * sz /\ s.n <= s.c /\ ((X = [] /\ s = ⟨none, 0, 0⟩ /\ cs = []) \/ ∃ b, s.a = some ⟨b, 0, none⟩ /\ X = [(b, .inl ⟨cs, s.c * sz, false⟩)])
theorem fe (sz : Nat) : ez [] ⟨none, 0, 0⟩ sz [] := ⟨by simp, Nat.le_refl _, .inl ⟨rfl, rfl, rfl⟩⟩
theorem ez.buf {X : List (Nat × Blk)} {h : Hp} {s : Sl} {sz : Nat} {cs : List Value} (o : ez X s sz cs) (m : ∀ e ∈ X, h e.1 = some e.2) : Buf h s sz cs := by
 refine ⟨o.1, o.2.1, ?_⟩
 rcases o.2.2 with ⟨_, rfl, _⟩ | ⟨b, ha, rfl⟩
 ·exact .inl ⟨rfl, rfl, rfl⟩
 ·exact .inr ⟨b, ha, m _ (.head _)⟩
theorem Kn.perm {g h : Hp} {L L' : List (Nat × Blk)} (K : Kn g h L) (p : L.Perm L') : Kn g h L' := K.sub (fun e he => p.mem_iff.2 he) ((p.map Prod.fst).nodup_iff.1 K.nd)
theorem Kn.grow {g h : Hp} {X L : List (Nat × Blk)} {s : Sl} {sz by_ m : Nat} {cs news : List Value} {src : Option Addr} {C : Option Addr -> Nat -> Nat -> Hp -> Prop}
  (K : Kn g h (X ++ L)) (o : ez X s sz cs) (hm : 0 < m) (hsz : (s.n + m) * by_ <= 140737488355328) (hsz' : s.n + m <= 9223372036854775807)
  (hs : ∃ sb so, src = some ⟨sb, so, none⟩ /\ iz h sb so news) (hl : news.length = m * sz) (ho : news.all (·.oneCell') = true)
  (k : ∀ s' X' h', s'.n = s.n + m -> ez X' s' sz (cs ++ news) -> Kn g h' (X' ++ L) -> (h.offS s).le h' -> C s'.a s'.n s'.c h') : dW h s.a s.n s.c src m sz by_ C := by
 refine dg (o.buf fun e he => K.mem e (List.mem_append_left _ he)) hm hsz hsz' hs hl ho fun s' h' hn B l _ => ?_
 have nd := K.nd
 rw [List.map_append, List.nodup_append] at nd
 have base : g.le (h.offS s) /\ ∀ e ∈ L, (h.offS s) e.1 = some e.2 := by
  rcases o.2.2 with ⟨_, rfl, _⟩ | ⟨b, ha, rfl⟩
  ·exact ⟨K.le, fun e he => K.mem e (List.mem_append_right _ he)⟩
  ·unfold Hp.offS
   rw [ha]
   refine ⟨vG (K.new (b, _) (.head _)) K.le, fun e he => ?_⟩
   have hne : e.1 ≠ b := fun hb => nd.2.2 b (by simp) e.1 (List.mem_map.2 ⟨e, he, rfl⟩) hb.symm
   simp only [Hp.off, Hp.set]
   rw [if_neg hne]; exact K.mem e (List.mem_append_right _ he)
 rcases B.2.2 with ⟨_, h0, _⟩ | ⟨b, ha, hb⟩
 ·omega
 have hoff : (h'.offS s') b = none := by simp [Hp.offS, ha, Hp.off, Hp.set]
 refine k s' [(b, .inl ⟨cs ++ news, s'.c * sz, false⟩)] h' hn ⟨B.1, B.2.1, .inr ⟨b, ha, rfl⟩⟩ ?_ (Hp.le_trans l (aO h' s'))
 have lo := aO h' s'
 have hg : g b = none := by
  cases hgb : g b with
  | none => rfl
  | some x => rw [l _ _ (base.1 _ _ hgb)] at hoff; cases hoff
 refine ⟨Hp.le_trans base.1 (Hp.le_trans l lo), fun e he => ?_, fun e he => ?_, ?_⟩
 ·rcases List.mem_cons.1 he with rfl | he
  ·exact hb
  ·exact lo _ _ (l _ _ (base.2 e he))
 ·rcases List.mem_cons.1 he with rfl | he
  ·exact hg
  ·exact K.new e (List.mem_append_right _ he)
 ·show (b :: L.map Prod.fst).Nodup
  rw [List.nodup_cons]
  refine ⟨fun hm => ?_, nd.2.1⟩
  obtain ⟨e, he, heb⟩ := List.mem_map.1 hm
  have := l _ _ (base.2 e he)
  rw [heb, hoff] at this; cases this
theorem Kn.growIn {g h : Hp} {A X L : List (Nat × Blk)} {s : Sl} {sz by_ m : Nat} {cs news : List Value} {src : Option Addr} {C : Option Addr -> Nat -> Nat -> Hp -> Prop}
  (K : Kn g h (A ++ (X ++ L))) (o : ez X s sz cs) (hm : 0 < m) (hsz : (s.n + m) * by_ <= 140737488355328) (hsz' : s.n + m <= 9223372036854775807)
  (hs : ∃ sb so, src = some ⟨sb, so, none⟩ /\ iz h sb so news) (hl : news.length = m * sz) (ho : news.all (·.oneCell') = true)
  (k : ∀ s' X' h', s'.n = s.n + m -> ez X' s' sz (cs ++ news) -> Kn g h' (A ++ (X' ++ L)) -> (h.offS s).le h' -> C s'.a s'.n s'.c h') : dW h s.a s.n s.c src m sz by_ C := by
 have sw : ∀ Y : List (Nat × Blk), (A ++ (Y ++ L)).Perm (Y ++ (A ++ L)) := fun Y => by
  rw [<- List.append_assoc, <- List.append_assoc]
  exact List.perm_append_comm.append_right L
 exact Kn.grow (K.perm (sw X)) o hm hsz hsz' hs hl ho fun s' X' h' hn o' K' l => k s' X' h' hn o' (K'.perm (sw X').symm) l
theorem Kn.growIn2 {g h : Hp} {A Y X L : List (Nat × Blk)} {s : Sl} {sz by_ m : Nat} {cs news : List Value} {src : Option Addr} {C : Option Addr -> Nat -> Nat -> Hp -> Prop}
  (K : Kn g h (A ++ (Y ++ (X ++ L)))) (o : ez X s sz cs) (hm : 0 < m) (hsz : (s.n + m) * by_ <= 140737488355328) (hsz' : s.n + m <= 9223372036854775807)
  (hs : ∃ sb so, src = some ⟨sb, so, none⟩ /\ iz h sb so news) (hl : news.length = m * sz) (ho : news.all (·.oneCell') = true)
  (k : ∀ s' X' h', s'.n = s.n + m -> ez X' s' sz (cs ++ news) -> Kn g h' (A ++ (Y ++ (X' ++ L))) -> (h.offS s).le h' -> C s'.a s'.n s'.c h') : dW h s.a s.n s.c src m sz by_ C := by
 have sw : ∀ Z : List (Nat × Blk), (A ++ (Y ++ (Z ++ L))).Perm (A ++ (Z ++ (Y ++ L))) := fun Z => by
  refine List.Perm.append_left A ?_
  rw [<- List.append_assoc, <- List.append_assoc]
  exact List.perm_append_comm.append_right L
 exact Kn.growIn (K.perm (sw X)) o hm hsz hsz' hs hl ho fun s' X' h' hn o' K' l => k s' X' h' hn o' (K'.perm (sw X').symm) l
theorem Kn.growIn3 {g h : Hp} {A Y Z X L : List (Nat × Blk)} {s : Sl} {sz by_ m : Nat} {cs news : List Value} {src : Option Addr} {C : Option Addr -> Nat -> Nat -> Hp -> Prop}
  (K : Kn g h (A ++ (Y ++ (Z ++ (X ++ L))))) (o : ez X s sz cs) (hm : 0 < m) (hsz : (s.n + m) * by_ <= 140737488355328) (hsz' : s.n + m <= 9223372036854775807)
  (hs : ∃ sb so, src = some ⟨sb, so, none⟩ /\ iz h sb so news) (hl : news.length = m * sz) (ho : news.all (·.oneCell') = true)
  (k : ∀ s' X' h', s'.n = s.n + m -> ez X' s' sz (cs ++ news) -> Kn g h' (A ++ (Y ++ (Z ++ (X' ++ L)))) -> (h.offS s).le h' -> C s'.a s'.n s'.c h') : dW h s.a s.n s.c src m sz by_ C := by
 have sw : ∀ W : List (Nat × Blk), (A ++ (Y ++ (Z ++ (W ++ L)))).Perm (A ++ ((Y ++ Z) ++ (W ++ L))) := fun W => by rw [<- List.append_assoc Y Z]
 exact Kn.growIn2 (K.perm (sw X)) o hm hsz hsz' hs hl ho fun s' X' h' hn o' K' l => k s' X' h' hn o' (K'.perm (sw X').symm) l
theorem ez.slc {X A L : List (Nat × Blk)} {g h : Hp} {s : Sl} {sz : Nat} {cs : List Value} (o : ez X s sz cs) (K : Kn g h (A ++ (X ++ L))) (hn : s.n <= 9223372036854775807) : SlC h s sz cs :=
 (o.buf fun e he => K.mem e (List.mem_append_right _ (List.mem_append_left _ he))).slc_of hn
theorem jx.offG {X : List (Nat × Blk)} {h : Hp} {A s : Sl} {f : Nat -> Bool} {n : Nat} {vs : List (List Nat)} (e : jx h s vs) (o : ez X A 1 ((List.range n).map fun i => .bool (f i))) (m : ∀ e ∈ X, h e.1 = some e.2) : jx (h.offS A) s vs := by
 rcases o.2.2 with ⟨_, rfl, _⟩ | ⟨b, ha, rfl⟩
 ·exact e
 ·unfold Hp.offS
  rw [ha]
  refine e.keep (m _ (.head _)) (fun j i hj => ?_) (fun j t hj => ?_) fun c hc => by simp [Hp.off, Hp.set, hc]
  ·simp only [List.getElem?_map, Option.map_eq_some_iff] at hj
   obtain ⟨a, _, hj⟩ := hj
   cases hj
  ·simp only [List.getElem?_map, Option.map_eq_some_iff] at hj
   obtain ⟨a, _, hj⟩ := hj
   cases hj
theorem jx.keepB {h h' : Hp} {s : Sl} {b : Nat} {vs : List (List Nat)} (e : jx h s vs) (n : ∀ o, s.a ≠ some (Addr.mk b o none)) (kp : ∀ c, c ≠ b -> h' c = h c) (ki : ∀ o i, Hp.cell h b o = some (I i) -> Hp.cell h' b o = some (I i)) : jx h' s vs := by
 have hc : ∀ c o i, Hp.cell h c o = some (I i) -> Hp.cell h' c o = some (I i) := fun c o i hi => by
  by_cases e2 : c = b
  ·subst e2; exact ki o i hi
  ·unfold Hp.cell at hi ⊢; rw [kp c e2]; exact hi
 refine ⟨e.1, e.2.1, fun p hp => ?_⟩
 obtain ⟨b', o, t, h1, h2, h3⟩ := e.2.2 p hp
 refine ⟨b', o, t, h1, ?_, h3.1, h3.2.1, h3.2.2.imp id ?_⟩
 ·have hne : b' ≠ b := by rintro rfl; exact n o h1
  unfold Hp.cell at h2 ⊢; rw [kp b' hne]; exact h2
 ·rintro ⟨c, o', ha, hcs⟩
  refine ⟨c, o', ha, fun i v hv => ?_⟩
  have hvI := hv
  rw [List.getElem?_map, Option.map_eq_some_iff] at hvI
  obtain ⟨x, _, rfl⟩ := hvI
  exact hc _ _ _ (hcs i _ hv)
structure wW where
 hs : Sl
 es : Sl
 ns : Sl
 fs : Sl
 bs : Sl
abbrev uL (σ : ar) (q : wW) : List Value := [I (2 ^ σ.n : Nat), I (2 ^ σ.k : Nat), q.hs.v, q.es.v, q.ns.v, q.fs.v, q.bs.v]
abbrev AA (σ : ar) (q : wW) : Value := .agg #[I (2 ^ σ.n : Nat), I (2 ^ σ.k : Nat), q.hs.v, q.es.v, q.ns.v, q.fs.v, q.bs.v]
def wK (h : Hp) (q : wW) (σ : ar) : Prop := cy h q.hs (2 ^ (σ.n + σ.k)) σ.hold /\ cy h q.es (2 ^ (σ.n + σ.k)) σ.ends /\ wl h q.ns (2 ^ (σ.n + σ.k)) σ.next /\
 (∃ fm, fm + σ.fixed = 2 ^ σ.n - 1 /\ IntS h q.fs (VL (df fm))) /\ cy h q.bs (2 ^ σ.n) σ.begins
theorem wK.mono {h h' : Hp} {q : wW} {σ : ar} (l : h.le h') (e : wK h q σ) : wK h' q σ := by
 obtain ⟨a, b, c, ⟨fm, d1, d2⟩, f⟩ := e
 exact ⟨a.mono l, b.mono l, c.mono l, ⟨fm, d1, d2.mono l⟩, f.mono l⟩
theorem oY {α : Type} (f : Nat -> α) (c : Nat) : (List.range (c + 1)).map f = (List.range c).map f ++ [f c] := by rw [List.range_succ, List.map_append]; rfl
theorem Kb {m : aj} (g : eZ m) : iV m + (aQ m).fixed = 2 ^ (aQ m).n - 1 := by
 have := OJ m.nodes (fun p => (cm m.nexts p).isSome) (stP m)
 have e := hE g
 show iV m + JU m m.nexts = 2 ^ av m.nodes 36 - 1
 rw [<- e, <- this, Nat.add_comm]; rfl
theorem i7 {h : Hp} {M : MSl} {m : aj} {R : Value -> Hp -> Prop} (hs : aG h M m) (hm : bU m) (hc0 : aR m = 0)
  (k : ∀ q h', h.le h' -> wK h' q (aQ m) -> R (AA (aQ m) q) h') : eo #[aN M] h R := by
 apply Gp
 refine uf_ ?_
 have g := gA hc0
 have hn8 := g.n8
 have hk5' := g.k5
 have ok := fT g
 have hp8 := dy ok
 have hk5 := zE ok
 have hp13 := ln ok
 have hnk := ar.pow_nk (aQ m)
 have K0 := Kn.nil h
 (with_reducible apply Kn.al); (assumption); (intro b7 h1 K1 l1 hb7)
 (with_reducible apply Kn.al); (assumption); (intro b9 h2 K2 l2 hb9)
 clear K0 K1 l1 hb7
 repeat' (refine kr_ ?_)
 refine jh (hs.mono K2.le) hm ⟨_, rfl, ?_⟩
 repeat' (refine kr_ ?_)
 refine jh (hs.mono K2.le) hm ⟨_, rfl, ?_⟩
 rw [dl (by omega), dl (by omega), if_neg (by omega), if_neg (by omega), cu (by omega), cu (by omega), show av m.nodes 36 = (aQ m).n from rfl, show av m.nodes 35 = (aQ m).k from rfl]
 repeat' (refine kr_ ?_)
 refine Gj (hs.mono K2.le) hm g fun F h3 l3 hF => ⟨_, rfl, ?_⟩
 have hF' : IntS (h3.wo (([(b9, .inl ⟨[I 0, I 0, .slice none 0 0, .slice none 0 0, .slice none 0 0, .slice none 0 0, .slice none 0 0], 7, false⟩), (b7, .inl ⟨cl M, 5, false⟩)] : List (Nat × Blk)).map Prod.fst)) F (VL (df (iV m))) :=
  SlC.mono (nj (sub_le _ _) fun b hb => by
   cases hx : h2 b with
   | none => exact absurd hx (K2.has b hb)
   | some x => exact jO hx) hF
 have K3 := (K2.mono l3).base
 have lg := (K2.mono l3).leBase
 clear hF K2
 generalize h3.wo (([(b9, .inl ⟨[I 0, I 0, .slice none 0 0, .slice none 0 0, .slice none 0 0, .slice none 0 0, .slice none 0 0], 7, false⟩), (b7, .inl ⟨cl M, 5, false⟩)] : List (Nat × Blk)).map Prod.fst) = g3 at *
 have hs3 := hs.mono lg
 (with_reducible apply Kn.al); (assumption); (intro b38 h4 K4 l4 hb38)
 (((with_reducible apply Kn.wr); (assumption); ((focus ((repeat first | exact .head | apply Upd.tail); done)))))
 ·exact Nat.le_refl _
 intro h5 K5 kp5
 simp only [dY, List.set_cons_zero, List.set_cons_succ, Nat.zero_add, Nat.reduceAdd] at K5
 clear kp5 K4 l4 hb38
 refine aq (2 ^ ((aQ m).n + (aQ m).k)) (fun c vs h' => ∃ (A B C : Sl) (XA XB XC : List (Nat × Blk)), vs = [.pointer (some ⟨b7, 0, none⟩), .pointer (some ⟨b9, 0, none⟩), .pointer (some ⟨b38, 0, none⟩), I c] /\
  Kn g3 h' ((b38, .inl ⟨[I (2 ^ (aQ m).n : Nat), I (2 ^ (aQ m).k : Nat), A.v, B.v, C.v, F.v, (⟨none, 0, 0⟩ : Sl).v], 7, false⟩) :: (b9, .inl ⟨[I 0, I 0, .slice none 0 0, .slice none 0 0, .slice none 0 0, .slice none 0 0, .slice none 0 0], 7, false⟩) :: (b7, .inl ⟨cl M, 5, false⟩) :: (XA ++ (XB ++ (XC ++ [])))) /\ ez XA A 1 ((List.range c).map fun i => .bool ((aQ m).hold i)) /\ ez XB B 1 ((List.range c).map fun i => .bool ((aQ m).ends i)) /\
   ez XC C 1 ((List.range c).map fun i => I ((aQ m).next i : Nat))) ⟨⟨none, 0, 0⟩, ⟨none, 0, 0⟩, ⟨none, 0, 0⟩, [], [], [], rfl, K5, fe _, fe _, fe _⟩ ?_
 clear K5 h5
 rintro c _ h5 nxt hc ⟨A, B, C, XA, XB, XC, rfl, K, oA, oB, oC⟩ hnx
 refine ⟨b7, 0, b9, 0, b38, 0, _, rfl, ?_⟩
 repeat' (refine kr_ ?_)
 have hxy : ((2 ^ (aQ m).n : Nat) : Int) * ((2 ^ (aQ m).k : Nat) : Int) = ((2 ^ ((aQ m).n + (aQ m).k) : Nat) : Int) := by rw [hnk, <- Int.natCast_mul, Nat.mul_comm]
 rw [hxy, fj (by omega)]
 have hAn : A.n = c := by have := oA.1; simp at this; omega
 have hBn : B.n = c := by have := oB.1; simp at this; omega
 have hCn : C.n = c := by have := oC.1; simp at this; omega
 by_cases hlt : c < 2 ^ ((aQ m).n + (aQ m).k)
 ·refine aH (by rw [decide_eq_true_eq]; exact_mod_cast hlt) ?_
  repeat' (refine kr_ ?_)
  refine vz (hs3.mono K.le) hm g hlt fun t h6 l6 htn hpv hnew => ⟨t, rfl, ?_⟩
  have n38 : ∀ o, t.a ≠ some (Addr.mk b38 o none) := fun o ho => by have := hnew _ _ ho; rw [K.at (.head _)] at this; cases this
  replace K := K.mono l6
  have a : zm m (fQ m (c % 2 ^ av m.nodes 36) (c / 2 ^ av m.nodes 36)) := uw g _ _
  have hv1 : (aQ m).hold c = ui m (fQ m (c % 2 ^ av m.nodes 36) (c / 2 ^ av m.nodes 36)) := rfl
  have hv2 : (aQ m).bad c = (wB m (fQ m (c % 2 ^ av m.nodes 36) (c / 2 ^ av m.nodes 36))).isSome := rfl
  have hv3 : (aQ m).next c = Cl m (c % 2 ^ av m.nodes 36) (c / 2 ^ av m.nodes 36) := rfl
  repeat' (refine kr_ ?_)
  refine xM (hs3.mono K.le) g hpv a ⟨_, rfl, ?_⟩
  repeat' (refine kr_ ?_)
  rw [<- hv1]
  refine ae fun b80 h7 hb80 l7 f80 => ?_
  replace K := K.mono l7
  replace hpv := hpv.mono l7
  refine Kn.growIn (A := [_, _, _]) K oA (by omega) (by omega) (by omega) ⟨b80, 0, rfl, ax f80⟩ rfl rfl fun A' XA' h8 hn' oA' K8 l8 => ?_
  replace hpv := (hpv.offG oA fun e he => K.mem e (by simp [he])).mono l8
  simp only [List.cons_append, List.nil_append] at K8
  (((with_reducible apply Kn.wr); (assumption); ((focus ((repeat first | exact .head | apply Upd.tail); done)))))
  ·simp
  intro h9 K9 kp9
  have f8 := K8.at (.head _)
  have f9 := K9.at (.head _)
  simp only [bk, List.set_cons_zero, List.set_cons_succ, Nat.zero_add, Nat.reduceAdd] at K9
  rw [bk] at f9
  replace hpv := hpv.keepB n38 kp9 fun o i hi => by
   rw [af f8] at hi
   rw [af f9, List.getElem?_set]
   by_cases e : 0 + 2 = o
   ·subst e; simp at hi
   ·rw [if_neg e]; exact hi
  clear f8 f9
  refine ap (fun J => ∀ (B' : Sl) (XB' : List (Nat × Blk)) (h' : Hp), Kn g3 h' ((b38, .inl ⟨[I (2 ^ (aQ m).n : Nat), I (2 ^ (aQ m).k : Nat), A'.v, B'.v, C.v, F.v, (⟨none, 0, 0⟩ : Sl).v], 7, false⟩) :: (b9, .inl ⟨[I 0, I 0, .slice none 0 0, .slice none 0 0, .slice none 0 0, .slice none 0 0, .slice none 0 0], 7, false⟩) :: (b7, .inl ⟨cl M, 5, false⟩) :: (XA' ++ (XB' ++ (XC ++ [])))) -> ez XB' B' 1 ((List.range (c + 1)).map fun i => .bool ((aQ m).ends i)) -> J h') (fun B' XB' h10 K10 oB' => ?_) (fun J hJ => ?_)
  ·clear K9 K8 K hpv
   have hcm : c % 2 ^ (aQ m).n <= c := Nat.mod_le _ _
   have hcd : c / 2 ^ (aQ m).n <= c := Nat.div_le_self _ _
   have hpos := Nat.two_pow_pos (aQ m).n
   repeat' (refine kr_ ?_)
   rw [if_neg (by omega)]
   repeat' (refine kr_ ?_)
   rw [if_neg (by omega), eY, show Int.tdiv (c : Int) ((2 ^ (aQ m).n : Nat) : Int) = ((c / 2 ^ (aQ m).n : Nat) : Int) from rfl, fj (by omega)]
   refine Iz (hs3.mono K10.le) hm g (by omega) (by omega) ⟨_, rfl, ?_⟩
   repeat' (refine kr_ ?_)
   refine ae fun b131 h11 hb131 l11 f131 => ?_
   have K11 := K10.mono l11
   repeat' (refine kr_ ?_)
   refine Kn.growIn3 (A := [_, _, _]) K11 oC (by omega) (by omega) (by omega) ⟨b131, 0, rfl, ax f131⟩ rfl rfl fun C' XC' h12 hn2 oC' K12 _ => ?_
   simp only [List.cons_append, List.nil_append] at K12
   (((with_reducible apply Kn.wr); (assumption); ((focus ((repeat first | exact .head | apply Upd.tail); done)))))
   ·simp
   intro h13 K13 _
   simp only [bk, List.set_cons_zero, List.set_cons_succ, Nat.zero_add, Nat.reduceAdd] at K13
   rw [az (by omega)]
   exact hnx hlt _ _ ⟨A', B', C', XA', XB', XC', rfl, K13, by rw [oY]; exact oA', oB', by rw [oY]; exact oC'⟩
  ·clear K8 K
   refine ad (fun e1 => ?_) (fun e1 => ?_)
   ·repeat' (refine kr_ ?_)
    refine BU (hs3.mono K9.le) g hpv a ⟨_, rfl, ?_⟩
    repeat' (refine kr_ ?_)
    rw [wG, <- hv2]
    refine ae fun b99 h11 hb99 l11 f99 => ?_
    have K11 := K9.mono l11
    repeat' (refine kr_ ?_)
    refine Kn.growIn2 (A := [_, _, _]) K11 oB (by omega) (by omega) (by omega) ⟨b99, 0, rfl, ax f99⟩ rfl rfl fun B' XB' h12 hn2 oB' K12 _ => ?_
    simp only [List.cons_append, List.nil_append] at K12
    (((with_reducible apply Kn.wr); (assumption); ((focus ((repeat first | exact .head | apply Upd.tail); done)))))
    ·simp
    intro h13 K13 _
    simp only [bk, List.set_cons_zero, List.set_cons_succ, Nat.zero_add, Nat.reduceAdd] at K13
    exact hJ B' XB' h13 K13 (by rw [oY]; unfold ar.ends; rw [e1]; exact oB')
   ·repeat' (refine kr_ ?_)
    refine ae fun b99 h11 hb99 l11 f99 => ?_
    have K11 := K9.mono l11
    repeat' (refine kr_ ?_)
    refine Kn.growIn2 (A := [_, _, _]) K11 oB (by omega) (by omega) (by omega) ⟨b99, 0, rfl, ax f99⟩ rfl rfl fun B' XB' h12 hn2 oB' K12 _ => ?_
    simp only [List.cons_append, List.nil_append] at K12
    (((with_reducible apply Kn.wr); (assumption); ((focus ((repeat first | exact .head | apply Upd.tail); done)))))
    ·simp
    intro h13 K13 _
    simp only [bk, List.set_cons_zero, List.set_cons_succ, Nat.zero_add, Nat.reduceAdd] at K13
    exact hJ B' XB' h13 K13 (by rw [oY]; unfold ar.ends; rw [e1]; exact oB')
 ·refine ak (by rw [decide_eq_false_iff_not]; omega) ?_
  clear hnx
  have hce : c = 2 ^ ((aQ m).n + (aQ m).k) := by omega
  refine aq (2 ^ (aQ m).n) (fun d vs h' => ∃ (D : Sl) (XD : List (Nat × Blk)), vs = [.pointer (some ⟨b7, 0, none⟩), .pointer (some ⟨b9, 0, none⟩), .pointer (some ⟨b38, 0, none⟩), I d] /\
   Kn g3 h' ((b38, .inl ⟨[I (2 ^ (aQ m).n : Nat), I (2 ^ (aQ m).k : Nat), A.v, B.v, C.v, F.v, D.v], 7, false⟩) :: (b9, .inl ⟨[I 0, I 0, .slice none 0 0, .slice none 0 0, .slice none 0 0, .slice none 0 0, .slice none 0 0], 7, false⟩) :: (b7, .inl ⟨cl M, 5, false⟩) :: (XD ++ (XA ++ (XB ++ (XC ++ []))))) /\ ez XD D 1 ((List.range d).map fun i => .bool ((aQ m).begins i))) ⟨⟨none, 0, 0⟩, [], rfl, K, fe _⟩ ?_
  clear K h5 hlt hc
  rintro d _ h5 nxt2 hd ⟨D, XD, rfl, K, oD⟩ hnx2
  have hDn : D.n = d := by have := oD.1; simp at this; omega
  refine ⟨b7, 0, b9, 0, b38, 0, _, rfl, ?_⟩
  repeat' (refine kr_ ?_)
  by_cases hld : d < 2 ^ (aQ m).n
  ·refine aH (by rw [decide_eq_true_eq]; exact_mod_cast hld) ?_
   repeat' (refine kr_ ?_)
   refine fz (hs3.mono K.le) hm fun p h6 l6 ip => ⟨p, rfl, ?_⟩
   have K6 := K.mono l6
   repeat' (refine kr_ ?_)
   refine iE (hs3.mono K6.le) hm g.ok ip (ed g 36) (nu g 36) (by omega) (by have := hE g; show cf m.nodes (stP m) <= 60; omega) fun u h7 l7 iu => ⟨u, rfl, ?_⟩
   have K7 := K6.mono l7
   repeat' (refine kr_ ?_)
   refine oe (hs3.mono K7.le) hm hc0 iu (by rw [Bi]; exact I9 _ _ _) ⟨_, rfl, ?_⟩
   have hb : ma (stP m) (jA m) (lL m.nodes (aM m.nodes 36) d) (stP m).length = (aQ m).begins d := by
    rw [Bool.eq_iff_iff, Dt, CR g]
   rw [hb]
   repeat' (refine kr_ ?_)
   refine ae fun b184 h8 hb184 l8 f184 => ?_
   have K8 := K7.mono l8
   repeat' (refine kr_ ?_)
   refine Kn.growIn (A := [_, _, _]) K8 oD (by omega) (by omega) (by omega) ⟨b184, 0, rfl, ax f184⟩ rfl rfl fun D' XD' h9 hn2 oD' K9 _ => ?_
   simp only [List.cons_append, List.nil_append] at K9
   (((with_reducible apply Kn.wr); (assumption); ((focus ((repeat first | exact .head | apply Upd.tail); done)))))
   ·simp
   intro h10 K10 _
   simp only [bk, List.set_cons_zero, List.set_cons_succ, Nat.zero_add, Nat.reduceAdd] at K10
   rw [az (by omega)]
   exact hnx2 hld _ _ ⟨D', XD', rfl, K10, by rw [oY]; exact oD'⟩
  ·have hde : d = 2 ^ (aQ m).n := by omega
   refine ak (by rw [decide_eq_false_iff_not]; omega) ?_
   clear hnx2
   repeat' (refine kr_ ?_)
   (((with_reducible apply Kn.wr); (assumption); ((focus ((repeat first | exact .head | apply Upd.tail); done)))))
   ·simp
   intro h6 K6 _
   simp only [dY, List.set_cons_zero, List.set_cons_succ, Nat.zero_add, Nat.reduceAdd] at K6
   repeat' (refine kr_ ?_)
   subst hce hde
   refine k ⟨A, B, C, F, D⟩ h6 (Hp.le_trans lg K6.le) ⟨?_, ?_, ?_, ⟨iV m, Kb g, hF'.mono K6.le⟩, ?_⟩
   ·have := (oA.buf fun e he => K6.mem e (by simp [he])).slc_of (by omega)
    unfold cy ny; rw [List.map_map]; exact this
   ·have := (oB.buf fun e he => K6.mem e (by simp [he])).slc_of (by omega)
    unfold cy ny; rw [List.map_map]; exact this
   ·have := (oC.buf fun e he => K6.mem e (by simp [he])).slc_of (by omega)
    unfold wl IntS VL; rw [List.map_map, List.map_map]; exact this
   ·have := (oD.buf fun e he => K6.mem e (by simp [he])).slc_of (by omega)
    unfold cy ny; rw [List.map_map]; exact this
theorem G5 {h : Hp} {s : Sl} {N : Nat} {T : Nat -> Bool} {R : Value -> Hp -> Prop} (hT : cy h s N T) (hN : N <= 1048576) (k : R (.bool (lp N T)) h) : ph #[s.v] h R := by
 apply DI
 refine uf_ ?_
 have hl := hT.len
 refine aq N (fun i vs h' => vs = [s.v, I i] /\ h = h' /\ ∀ j, j < i -> T j = false) ⟨rfl, rfl, fun j hj => by omega⟩ ?_
 rintro i _ _ next hi ⟨rfl, rfl, hj⟩ hnx
 refine ⟨s, _, rfl, ?_⟩
 by_cases hlt : i < N
 ·refine aH (by rw [decide_eq_true_eq]; omega) ?_
  obtain ⟨b, o, ha, h1, h2⟩ := hT.get hlt
  refine ⟨b, o, ha, by omega, h1, _, h2, ?_⟩
  refine ad (fun e => ?_) (fun e => ?_)
  ·rw [cc.2 ⟨i, hlt, e⟩] at k; exact k
  ·rw [az (by omega)]
   refine hnx hlt _ _ ⟨rfl, rfl, fun j hji => ?_⟩
   by_cases eq : j = i
   ·rw [eq]; exact e
   ·exact hj j (by omega)
 ·refine ak (by rw [decide_eq_false_iff_not]; omega) ?_
  rw [mw.2 fun j hjn => hj j (by omega)] at k; exact k
theorem FQ {σ : ar} (S : Nat -> Bool) : lp (2 ^ (σ.n + σ.k)) (fun c => S (c % 2 ^ σ.n) && σ.ends c) = σ.met S := by
 rw [Bool.eq_iff_iff, cc]
 unfold ar.met
 rw [cc]
 constructor
 ·rintro ⟨c, hc, e⟩
  rw [Bool.and_eq_true] at e
  obtain ⟨h1, h2, h3⟩ := ar.at_of hc
  refine ⟨c % 2 ^ σ.n, h1, ?_⟩
  rw [e.1, Bool.true_and, ar.endsAt_iff]
  have := e.2
  unfold ar.ends at this
  rw [Bool.and_eq_true] at this
  exact ⟨c / 2 ^ σ.n, h2, by rw [h3]; exact this⟩
 ·rintro ⟨s, hs, e⟩
  rw [Bool.and_eq_true, ar.endsAt_iff] at e
  obtain ⟨e1, x, hx, e2, e3⟩ := e
  refine ⟨σ.at_ s x, ar.at_lt hs hx, ?_⟩
  unfold ar.ends
  rw [ar.at_mod hs, e1, e2, e3]; rfl
theorem tu {h : Hp} {q : wW} {σ : ar} {s : Sl} {S : Nat -> Bool} {R : Value -> Hp -> Prop} (hq : wK h q σ) (ok : σ.Ok) (hS : cy h s (2 ^ σ.n) S) (k : R (.bool (σ.met S)) h) :
  jR #[AA σ q, s.v] h R := by
 refine ACalls.drop (Ez ?_)
 refine uf_ ?_
 have hn := dy ok
 have hp := ln ok
 have hpos := Nat.two_pow_pos σ.n
 refine ae fun b10 h1 hb10 l1 f10 => ?_
 have he := hq.2.1.mono l1
 have hS1 := hS.mono l1
 have hel := he.len
 refine aq (2 ^ (σ.n + σ.k)) (fun i vs h' => vs = [s.v, .pointer (some ⟨b10, 0, none⟩), I i] /\ h1 = h' /\ ∀ j, j < i -> (S (j % 2 ^ σ.n) && σ.ends j) = false) ⟨rfl, rfl, fun j hj => by omega⟩ ?_
 rintro i _ _ next hi ⟨rfl, rfl, hj⟩ hnx
 refine ⟨s, b10, 0, _, rfl, ?_⟩
 (refine am ?_)
 by_cases hlt : i < 2 ^ (σ.n + σ.k)
 ·refine aH (by rw [decide_eq_true_eq]; omega) ?_
  have go : (S (i % 2 ^ σ.n) && σ.ends i) = false -> next [s.v, .pointer (some ⟨b10, 0, none⟩), I (W ((i : Int) + 1))] h1 := fun e => by
   rw [az (by omega)]
   refine hnx hlt _ _ ⟨rfl, rfl, fun j hji => ?_⟩
   by_cases eq : j = i
   ·rw [eq]; exact e
   ·exact hj j (by omega)
  (refine am ?_)
  rw [if_neg (by omega), eY]
  obtain ⟨b, o, ha, h2, h3⟩ := hS1.get (i := i % 2 ^ σ.n) (Nat.mod_lt _ hpos)
  refine ⟨b, o, ha, by omega, h2, _, h3, ?_⟩
  refine ad (fun e => ?_) (fun e => ?_)
  ·(refine am ?_)
   obtain ⟨b, o, ha, h2, h3⟩ := he.get hlt
   refine ⟨b, o, ha, by omega, h2, _, h3, ?_⟩
   refine ad (fun e2 => ?_) (fun e2 => ?_)
   ·refine ⟨h, l1, ?_⟩
    rw [<- FQ, cc.2 ⟨i, hlt, by rw [e, e2]; rfl⟩] at k; exact k
   ·exact go (by rw [e2, Bool.and_false])
  ·exact go (by rw [e]; rfl)
 ·refine ak (by rw [decide_eq_false_iff_not]; omega) ⟨h, l1, ?_⟩
  rw [<- FQ, mw.2 fun j hjn => hj j (by omega)] at k; exact k
theorem zy {k f : Nat} : f ∈ df k ↔ f &&& k = f := by
 unfold df
 rw [List.mem_filter, List.mem_range, decide_eq_true_eq]
 refine ⟨fun h => h.2, fun h => ⟨?_, h⟩⟩
 have : f &&& k <= k := Nat.and_le_right
 omega
theorem iH {σ : ar} {fm c t : Nat} (ok : σ.Ok) (hfm : fm + σ.fixed = 2 ^ σ.n - 1) (hc : c < 2 ^ (σ.n + σ.k)) (ht : t < 2 ^ σ.n) : σ.goes c t = true ↔ ∃ f, f ∈ df fm /\ σ.next c + f = t := by
 unfold ar.goes
 rw [decide_eq_true_eq, Pd (y := fm) (by omega) ok.fixed ht (ok.next c hc) (ok.held c hc)]
 constructor
 ·rintro ⟨f, h1, h2⟩; exact ⟨f, zy.2 h1, h2⟩
 ·rintro ⟨f, h1, h2⟩; exact ⟨f, zy.1 h1, h2⟩
theorem nP {σ : ar} {fm c f : Nat} (ok : σ.Ok) (hfm : fm + σ.fixed = 2 ^ σ.n - 1) (hc : c < 2 ^ (σ.n + σ.k)) (hf : f ∈ df fm) : σ.next c + f < 2 ^ σ.n := by
 have h1 := zy.1 hf
 have h2 : f &&& fm <= fm := Nat.and_le_right
 have h3 := ok.held c hc
 have h4 : σ.next c &&& σ.fixed <= σ.fixed := Nat.and_le_right
 have := Nat.two_pow_pos σ.n
 omega
theorem BH {h : Hp} {q : wW} {σ : ar} {s : Sl} {S : Nat -> Bool} {R : Value -> Hp -> Prop} (hq : wK h q σ) (ok : σ.Ok) (hS : cy h s (2 ^ σ.n) S)
  (k : ∀ b' T h', Kn h h' [(b', .inl ⟨tb (2 ^ σ.n) T, 2 ^ σ.n, false⟩)] -> (∀ j, j < 2 ^ σ.n -> T j = σ.fwd σ.hold S j) -> R (arr b' (2 ^ σ.n)).v h') : lH #[AA σ q, s.v] h R := by
 apply zr
 refine uf_ ?_
 have hn := dy ok
 have hp := ln ok
 have hpos := Nat.two_pow_pos σ.n
 obtain ⟨hh, _, hx, ⟨fm, hfm, hfl⟩, _⟩ := id hq
 have hhl := hh.len
 have hxl := IntS.len hx
 rw [bW, List.length_map, List.length_range] at hxl
 have hfll := IntS.len hfl
 rw [bW] at hfll
 have hfb : (df fm).length <= 2 ^ σ.n := by
  have h1 : (df fm).length <= fm + 1 := by unfold df; have := List.length_filter_le (fun c => decide (c &&& fm = c)) (List.range (fm + 1)); simpa using this
  omega
 have K0 := Kn.nil h
 (with_reducible apply Kn.al); (assumption); (intro b10 h1 K1 l1 hb10)
 (refine kr_ ?_)
 refine ⟨Int.natCast_nonneg _, Int.le_refl _, by omega, by omega, ?_⟩
 (with_reducible apply Kn.al); (assumption); (intro b14 h2 K2 l2 hb14)
 rw [Int.toNat_natCast, Nat.mul_one, bO, hZ] at K2
 rw [Int.toNat_natCast]
 refine aq (2 ^ (σ.n + σ.k)) (fun c vs h' => vs = [s.v, .pointer (some ⟨b10, 0, none⟩), (arr b14 (2 ^ σ.n)).v, I c] /\
  ∃ T, Kn h h' [(b14, .inl ⟨tb (2 ^ σ.n) T, 2 ^ σ.n, false⟩), (b10, .inl ⟨uL σ q, 7, false⟩)] /\ ∀ x, T x = true ↔ ∃ c', c' < c /\ S (c' % 2 ^ σ.n) = true /\ σ.hold c' = true /\ ∃ f, f ∈ df fm /\ σ.next c' + f = x)
  ⟨rfl, _, K2, fun x => ⟨fun e => by simp at e, fun ⟨c', e, _⟩ => by omega⟩⟩ ?_
 clear K2 K1 K0 l1 l2 hb10 hb14 h1 h2
 rintro c _ h1 nxt hc ⟨rfl, T, K1, hT⟩ hnx
 refine ⟨s, b10, 0, arr b14 _, _, rfl, ?_⟩
 (refine kr_ ?_)
 by_cases hlt : c < 2 ^ (σ.n + σ.k)
 rotate_left
 ·refine ak (by rw [decide_eq_false_iff_not]; omega) ?_
  refine k b14 T h1 (K1.sub (fun e he => by rw [List.mem_singleton] at he; subst he; exact .head _) (by simp)) fun j hj => ?_
  rw [Bool.eq_iff_iff, hT, ar.fwd_iff]
  constructor
  ·rintro ⟨c', q1, q2, q3, q4⟩
   have hc' : c' < 2 ^ (σ.n + σ.k) := by omega
   obtain ⟨a1, a2, a3⟩ := ar.at_of hc'
   exact ⟨c' % 2 ^ σ.n, c' / 2 ^ σ.n, a1, a2, q2, by rw [a3]; exact q3, by rw [a3]; exact (iH ok hfm hc' hj).2 q4⟩
  ·rintro ⟨s', i', q1, q2, q3, q4, q5⟩
   have hc' := ar.at_lt q1 q2
   exact ⟨σ.at_ s' i', by omega, by rw [ar.at_mod q1]; exact q3, q4, (iH ok hfm hc' hj).1 q5⟩
 refine aH (by rw [decide_eq_true_eq]; omega) ?_
 have skip : (S (c % 2 ^ σ.n) && σ.hold c) = false -> nxt [s.v, .pointer (some ⟨b10, 0, none⟩), (arr b14 (2 ^ σ.n)).v, I (W ((c : Int) + 1))] h1 := fun e => by
  rw [az (by omega)]
  refine hnx hlt _ _ ⟨rfl, T, K1, fun x => ?_⟩
  rw [hT]
  constructor
  ·rintro ⟨c', q1, q⟩; exact ⟨c', by omega, q⟩
  ·rintro ⟨c', q1, q2, q3, q4⟩
   by_cases e2 : c' = c
   ·rw [e2] at q2 q3; rw [q2, q3] at e; cases e
   ·exact ⟨c', by omega, q2, q3, q4⟩
 rw [dc]
 (refine kr_ ?_)
 rw [if_neg (by omega), eY]
 obtain ⟨b, o, ha, e1, e2⟩ := (hS.mono K1.le).get (i := c % 2 ^ σ.n) (Nat.mod_lt _ hpos)
 refine ⟨b, o, ha, by omega, e1, _, e2, ?_⟩
 refine ad (fun e => ?_) (fun e => ?_)
 ·exact aH rfl (skip (by have : S (c % 2 ^ σ.n) = false := by simpa using e
                         rw [this]; rfl))
 have eS : S (c % 2 ^ σ.n) = true := by simpa using e
 (refine kr_ ?_)
 obtain ⟨b, o, ha, e1, e2⟩ := (hh.mono K1.le).get hlt
 refine ⟨b, o, ha, by omega, e1, _, e2, ?_⟩
 refine ad (fun e => ?_) (fun e => ?_)
 ·exact skip (by have : σ.hold c = false := by simpa using e
                 rw [this, Bool.and_false])
 have eH : σ.hold c = true := by simpa using e
 refine aq (df fm).length (fun j vs h' => vs = [s.v, .pointer (some ⟨b10, 0, none⟩), (arr b14 (2 ^ σ.n)).v, I c, I j] /\
  ∃ U, Kn h h' [(b14, .inl ⟨tb (2 ^ σ.n) U, 2 ^ σ.n, false⟩), (b10, .inl ⟨uL σ q, 7, false⟩)] /\ ∀ x, U x = true ↔ T x = true \/ ∃ f, f ∈ (df fm).take j /\ σ.next c + f = x)
  ⟨rfl, T, K1, fun x => ⟨fun q => .inl q, fun q => q.resolve_right fun ⟨f, q1, _⟩ => by simp at q1⟩⟩ ?_
 clear skip K1
 rintro j _ h1 nxt2 hj ⟨rfl, U, K1, hU⟩ hnx2
 refine ⟨s, b10, 0, arr b14 _, _, _, rfl, ?_⟩
 (refine kr_ ?_)
 by_cases hlj : j < (df fm).length
 rotate_left
 ·refine ak (by rw [decide_eq_false_iff_not]; omega) ?_
  rw [az (by omega)]
  refine hnx hlt _ _ ⟨rfl, U, K1, fun x => ?_⟩
  rw [hU, hT, List.take_of_length_le (by omega)]
  constructor
  ·rintro (⟨c', q1, q⟩ | q)
   ·exact ⟨c', by omega, q⟩
   ·exact ⟨c, by omega, eS, eH, q⟩
  ·rintro ⟨c', q1, q2, q3, q4⟩
   by_cases e2 : c' = c
   ·rw [e2] at q4; exact .inr q4
   ·exact .inl ⟨c', by omega, q2, q3, q4⟩
 refine aH (by rw [decide_eq_true_eq]; omega) ?_
 (refine kr_ ?_)
 obtain ⟨b, o, ha, e1, e2⟩ := wl.get (hx.mono K1.le) hlt
 refine ⟨b, o, ha, by omega, e1, _, e2, ?_⟩
 (refine kr_ ?_)
 obtain ⟨f, hf⟩ : ∃ f, (df fm)[j]? = some f := ⟨_, List.getElem?_eq_getElem hlj⟩
 obtain ⟨b, o, ha, e3⟩ := (hfl.mono K1.le).get (gl hf)
 refine ⟨b, o, ha, by omega, by omega, _, e3, ?_⟩
 have hlf := nP ok hfm hlt (List.mem_of_getElem? hf)
 rw [<- Int.natCast_add, fj (by omega)]
 refine ⟨b14, 0, rfl, by omega, by dsimp only; omega, ?_⟩
 (((with_reducible apply Kn.wr); (assumption); ((focus ((repeat first | exact .head | apply Upd.tail); done)))))
 ·rw [eQ]; omega
 intro h2 K2 _
 rw [bk, Nat.zero_add, Int.toNat_natCast, Nat.mul_one, iP] at K2
 rw [az (by omega)]
 refine hnx2 hlj _ _ ⟨rfl, _, K2, fun x => ?_⟩
 rw [List.take_add_one, hf]
 by_cases ex : x = σ.next c + f
 ·rw [if_pos ex]
  exact ⟨fun _ => .inr ⟨f, by simp, ex.symm⟩, fun _ => rfl⟩
 ·rw [if_neg ex, hU]
  constructor
  ·rintro (q | ⟨f', q1, q2⟩)
   ·exact .inl q
   ·exact .inr ⟨f', List.mem_append_left _ q1, q2⟩
  ·rintro (q | ⟨f', q1, q2⟩)
   ·exact .inl q
   ·rcases List.mem_append.1 q1 with q1 | q1
    ·exact .inr ⟨f', q1, q2⟩
    ·simp at q1; subst q1; exact absurd q2.symm ex
theorem k4 {h : Hp} {q : wW} {σ : ar} {R : Value -> Hp -> Prop} (hq : wK h q σ) (ok : σ.Ok)
  (k : ∀ s h', h.le h' -> xc h' s (2 ^ σ.n) σ.nLay σ.front -> R (Sl.v s) h') : fB #[AA σ q] h R := by
 apply y3
 refine uf_ ?_
 have hn := dy ok
 have h8 := ok.nle
 have K0 := Kn.nil h
 (with_reducible apply Kn.al); (assumption); (intro b9 h1 K1 l1 hb9)
 (refine kr_ ?_)
 refine ⟨Int.natCast_nonneg _, Int.le_refl _, by omega, by omega, ?_⟩
 (with_reducible apply Kn.al); (assumption); (intro b14 h2 K2 l2 hb14)
 rw [Int.toNat_natCast, Nat.mul_one, bO, hZ] at K2
 rw [Int.toNat_natCast]
 (refine kr_ ?_)
 refine aq (2 ^ σ.n) (fun i vs h' => ∃ (out fr : Sl) (g : Hp) (V : Nat -> Bool) (ts : List Sl), vs = [.pointer (some ⟨b9, 0, none⟩), out.v, (arr b14 (2 ^ σ.n)).v, fr.v] /\
  h.le g /\ Kn g (h'.offS out) [(b14, .inl ⟨tb (2 ^ σ.n) V, 2 ^ σ.n, false⟩), (b9, .inl ⟨uL σ q, 7, false⟩)] /\ cy g fr (2 ^ σ.n) (σ.front i) /\ Buf h' out 1 (ts.map Sl.v) /\ ts.length = i /\
  (∀ (j : Nat) (t : Sl), ts[j]? = some t -> cy g t (2 ^ σ.n) (σ.front j)) /\ (∀ j, j < 2 ^ σ.n -> V j = σ.seen i j) /\ ∀ j, j < i -> σ.live j = true)
  ⟨⟨none, 0, 0⟩, q.bs, h, _, [], rfl, Hp.le_refl _, K2, hq.2.2.2.2, et _ _, rfl, fun j t ht => by simp at ht, fun _ _ => rfl, fun j hj => by omega⟩ ?_
 clear K2 K1 K0 l1 l2 hb9 hb14 h1 h2
 rintro i _ h1 nxt hi ⟨out, fr, g, V, ts, rfl, lg, K1, hF, hB, htl, ht, hV, hlive⟩ hnx
 refine ⟨b9, 0, out, arr b14 _, fr, rfl, ?_⟩
 have K1' := K1.mono (aO h1 out)
 have hbF := hF.mono K1'.le
 have hon := hB.1
 rw [List.length_map, Nat.mul_one] at hon
 refine G5 hbF (by omega) ⟨_, rfl, ?_⟩
 refine ad (fun e => ?_) (fun e => ?_)
 rotate_left
 ·have hnl : σ.nLay = i := ar.nLay_of hlive e
  exact k out h1 (Hp.le_trans lg K1'.le) ⟨ts, by omega, hB.slc_of (by omega), fun j t hj => (ht j t hj).mono K1'.le⟩
 have hlive' : ∀ j, j < i + 1 -> σ.live j = true := fun j hj => by
  by_cases e2 : j = i
  ·rw [e2]; exact e
  ·exact hlive j (by omega)
 have hlt : i < 2 ^ σ.n := ar.live_le hlive'
 refine ae fun b34 h2 hb34 l2 f34 => ?_
 refine dg (hB.mono l2) (by omega) (by omega) (by omega) ⟨b34, 0, rfl, ax f34⟩ (by simp) rfl ?_
 intro s' h3 hs'n hB' l3 _
 have K2 := K1.mono (Hp.le_trans (bJ out l2) l3)
 have K2' := K2.mono (aO h3 s')
 repeat' (refine kr_ ?_)
 refine BH (hq.mono (Hp.le_trans lg K2'.le)) ok (hF.mono K2'.le) fun bB T h4 K5 hT => ⟨_, rfl, ?_⟩
 have hbB : h3 bB = none := K5.new _ (.head _)
 have K6 := K2.cons (b := bB) (aw (aO h3 s') hbB) (bJ s' K5.le) (hB'.offS_new hbB (K5.at (.head _)))
 have hB4 := hB'.mono K5.le
 have K6' := K6.mono (aO h4 s')
 (refine kr_ ?_)
 refine ⟨Int.natCast_nonneg _, Int.le_refl _, by omega, by omega, ?_⟩
 refine ae fun b53 h5 hb53 l5 f53 => ?_
 rw [Int.toNat_natCast, Nat.mul_one, bO, hZ] at f53
 rw [Int.toNat_natCast]
 have K7 := K6.cons (b := b53) (aw (aO h4 s') hb53) (bJ s' l5) (hB4.offS_new hb53 f53)
 have hB5 := hB4.mono l5
 refine aq (2 ^ σ.n) (fun x vs h' => vs = [.pointer (some ⟨b9, 0, none⟩), s'.v, (arr b14 (2 ^ σ.n)).v, fr.v, (arr bB (2 ^ σ.n)).v, (arr b53 (2 ^ σ.n)).v, I x] /\
  ∃ V, Kn g (h'.offS s') [(b53, .inl ⟨tb (2 ^ σ.n) fun _ => false, 2 ^ σ.n, false⟩), (bB, .inl ⟨tb (2 ^ σ.n) T, 2 ^ σ.n, false⟩), (b14, .inl ⟨tb (2 ^ σ.n) V, 2 ^ σ.n, false⟩), (b9, .inl ⟨uL σ q, 7, false⟩)] /\
   Buf h' s' 1 (ts.map Sl.v ++ [fr.v]) /\ ∀ j, j < 2 ^ σ.n -> V j = if j < x then σ.seen (i + 1) j else σ.seen i j)
  ⟨rfl, V, K7, hB5, fun j hj => by rw [if_neg (by omega)]; exact hV j hj⟩ ?_
 clear K7 hB5 hB4 K6 K6' K5 hV hbF K1'
 rintro x _ h6 nxt1 hx ⟨rfl, V, K, B, hV⟩ hnx1
 refine ⟨b9, 0, s', arr b14 _, fr, arr bB _, arr b53 _, _, rfl, ?_⟩
 have K' := K.mono (aO h6 s')
 (refine kr_ ?_)
 by_cases hlx : x < 2 ^ σ.n
 ·refine aH (by rw [decide_eq_true_eq]; exact_mod_cast hlx) ?_
  have hVx : V x = σ.seen i x := by rw [hV x hlx, if_neg (by omega)]
  have fin : ∀ v h7, v = σ.seen (i + 1) x -> Kn g (h7.offS s') [(b53, .inl ⟨tb (2 ^ σ.n) fun _ => false, 2 ^ σ.n, false⟩), (bB, .inl ⟨tb (2 ^ σ.n) T, 2 ^ σ.n, false⟩), (b14, .inl ⟨(tb (2 ^ σ.n) V).set x (.bool v), 2 ^ σ.n, false⟩), (b9, .inl ⟨uL σ q, 7, false⟩)] ->
    Buf h7 s' 1 (ts.map Sl.v ++ [fr.v]) -> nxt1 [.pointer (some ⟨b9, 0, none⟩), s'.v, (arr b14 (2 ^ σ.n)).v, fr.v, (arr bB (2 ^ σ.n)).v, (arr b53 (2 ^ σ.n)).v, I (W ((x : Int) + 1))] h7 := by
   intro v h7 hv K7 B7
   rw [az (by omega)]
   rw [iP] at K7
   refine hnx1 hlx _ _ ⟨rfl, _, K7, B7, fun j hj => ?_⟩
   by_cases e2 : j = x
   ·rw [if_pos e2, if_pos (by omega), e2]; exact hv
   ·rw [if_neg e2, hV j hj]
    by_cases e3 : j < x
    ·rw [if_pos e3, if_pos (by omega)]
    ·rw [if_neg e3, if_neg (by omega)]
  refine ⟨b14, 0, rfl, by omega, by dsimp only; omega, ?_⟩
  refine Kn.rd K' (.tail _ (.tail _ (.head _))) (x := V x) (by rw [Nat.zero_add, Nat.mul_one, Int.toNat_natCast]; exact jF hlx) ?_
  refine ad (fun e2 => ?_) (fun e2 => ?_)
  ·refine ⟨b14, 0, rfl, by omega, by dsimp only; omega, ?_⟩
   (with_reducible apply Kn.wrS); (exact K); ((focus ((repeat first | exact .head | apply Upd.tail); done)))
   ·rw [eQ]; omega
   intro h7 K7 B7 _
   rw [bk, Nat.zero_add, Int.toNat_natCast, Nat.mul_one] at K7
   exact fin _ h7 (by rw [ar.seen_succ, <- hVx, e2]; rfl) K7 (B7 _ _ B)
  ·obtain ⟨b, o, ha, e3, e4⟩ := (hF.mono K'.le).get hlx
   refine ⟨b, o, ha, by omega, e3, _, e4, ?_⟩
   refine ⟨b14, 0, rfl, by omega, by dsimp only; omega, ?_⟩
   (with_reducible apply Kn.wrS); (exact K); ((focus ((repeat first | exact .head | apply Upd.tail); done)))
   ·rw [eQ]; omega
   intro h7 K7 B7 _
   rw [bk, Nat.zero_add, Int.toNat_natCast, Nat.mul_one] at K7
   exact fin _ h7 (by rw [ar.seen_succ, <- hVx, e2]; rfl) K7 (B7 _ _ B)
 refine ak (by rw [decide_eq_false_iff_not]; omega) ?_
 replace hV : ∀ j, j < 2 ^ σ.n -> V j = σ.seen (i + 1) j := fun j hj => by rw [hV j hj, if_pos (by omega)]
 refine aq (2 ^ σ.n) (fun x vs h' => vs = [.pointer (some ⟨b9, 0, none⟩), s'.v, (arr b14 (2 ^ σ.n)).v, (arr bB (2 ^ σ.n)).v, (arr b53 (2 ^ σ.n)).v, I x] /\
  ∃ F, Kn g (h'.offS s') [(b53, .inl ⟨tb (2 ^ σ.n) F, 2 ^ σ.n, false⟩), (bB, .inl ⟨tb (2 ^ σ.n) T, 2 ^ σ.n, false⟩), (b14, .inl ⟨tb (2 ^ σ.n) V, 2 ^ σ.n, false⟩), (b9, .inl ⟨uL σ q, 7, false⟩)] /\
   Buf h' s' 1 (ts.map Sl.v ++ [fr.v]) /\ ∀ j, j < x -> F j = σ.front (i + 1) j) ⟨rfl, _, K, B, fun j hj => by omega⟩ ?_
 clear K B K' h6 hnx1 hx hlx
 rintro x _ h6 nxt1 hx ⟨rfl, F, K, B, hFx⟩ hnx1
 refine ⟨b9, 0, s', arr b14 _, arr bB _, arr b53 _, _, rfl, ?_⟩
 have K' := K.mono (aO h6 s')
 (refine kr_ ?_)
 by_cases hlx : x < 2 ^ σ.n
 ·refine aH (by rw [decide_eq_true_eq]; exact_mod_cast hlx) ?_
  have fin : ∀ v h7, v = σ.front (i + 1) x -> Kn g (h7.offS s') [(b53, .inl ⟨(tb (2 ^ σ.n) F).set x (.bool v), 2 ^ σ.n, false⟩), (bB, .inl ⟨tb (2 ^ σ.n) T, 2 ^ σ.n, false⟩), (b14, .inl ⟨tb (2 ^ σ.n) V, 2 ^ σ.n, false⟩), (b9, .inl ⟨uL σ q, 7, false⟩)] ->
    Buf h7 s' 1 (ts.map Sl.v ++ [fr.v]) -> nxt1 [.pointer (some ⟨b9, 0, none⟩), s'.v, (arr b14 (2 ^ σ.n)).v, (arr bB (2 ^ σ.n)).v, (arr b53 (2 ^ σ.n)).v, I (W ((x : Int) + 1))] h7 := by
   intro v h7 hv K7 B7
   rw [az (by omega)]
   rw [iP] at K7
   refine hnx1 hlx _ _ ⟨rfl, _, K7, B7, fun j hj => ?_⟩
   by_cases e2 : j = x
   ·rw [if_pos e2, e2]; exact hv
   ·rw [if_neg e2]; exact hFx j (by omega)
  refine ⟨bB, 0, rfl, by omega, by dsimp only; omega, ?_⟩
  refine Kn.rd K' (.tail _ (.head _)) (x := T x) (by rw [Nat.zero_add, Nat.mul_one, Int.toNat_natCast]; exact jF hlx) ?_
  refine ad (fun e2 => ?_) (fun e2 => ?_)
  ·refine ⟨b14, 0, rfl, by omega, by dsimp only; omega, ?_⟩
   refine Kn.rd K' (.tail _ (.tail _ (.head _))) (x := V x) (by rw [Nat.zero_add, Nat.mul_one, Int.toNat_natCast]; exact jF hlx) ?_
   refine ⟨b53, 0, rfl, by omega, by dsimp only; omega, ?_⟩
   (with_reducible apply Kn.wrS); (exact K); ((focus ((repeat first | exact .head | apply Upd.tail); done)))
   ·rw [eQ]; omega
   intro h7 K7 B7 _
   rw [bk, Nat.zero_add, Int.toNat_natCast, Nat.mul_one] at K7
   exact fin _ h7 (by rw [ar.front_succ, <- hT x hlx, e2, hV x hlx]; rfl) K7 (B7 _ _ B)
  ·refine ⟨b53, 0, rfl, by omega, by dsimp only; omega, ?_⟩
   (with_reducible apply Kn.wrS); (exact K); ((focus ((repeat first | exact .head | apply Upd.tail); done)))
   ·rw [eQ]; omega
   intro h7 K7 B7 _
   rw [bk, Nat.zero_add, Int.toNat_natCast, Nat.mul_one] at K7
   exact fin _ h7 (by rw [ar.front_succ, <- hT x hlx, e2]; rfl) K7 (B7 _ _ B)
 refine ak (by rw [decide_eq_false_iff_not]; omega) ?_
 obtain ⟨K3, K4⟩ := Kn.split (A := [(b53, .inl ⟨tb (2 ^ σ.n) F, 2 ^ σ.n, false⟩), (bB, .inl ⟨tb (2 ^ σ.n) T, 2 ^ σ.n, false⟩)]) (B := [(b14, .inl ⟨tb (2 ^ σ.n) V, 2 ^ σ.n, false⟩), (b9, .inl ⟨uL σ q, 7, false⟩)]) K
 have fF := K4.at (.head _)
 refine hnx hlt _ _ ⟨s', arr b53 (2 ^ σ.n), _, V, ts ++ [fr], rfl, Hp.le_trans lg K4.le, K3, gi (by omega) fF fun j hj => hFx j (by omega), by rw [List.map_append]; exact B, by simp [htl], fun j t hj => ?_, hV, hlive'⟩
 by_cases hji : j < i
 ·rw [List.getElem?_append_left (by omega)] at hj
  exact (ht j t hj).mono K4.le
 ·have hj2 := get_lt hj
  simp at hj2
  rw [List.getElem?_append_right (by omega), show j - ts.length = 0 by omega] at hj
  simp at hj; subst hj
  rw [show j = i by omega]; exact hF.mono K4.le
theorem mv {h : Hp} {q : wW} {σ : ar} {R : Value -> Hp -> Prop} (hq : wK h q σ) (ok : σ.Ok) (k : R (I σ.depthI) h) : fX #[AA σ q] h R := by
 refine ACalls.drop (A2 ?_)
 refine uf_ ?_
 have hn := dy ok
 have hnl := ar.nLay_le σ
 refine ae fun b9 h1 hb9 l1 f9 => ?_
 repeat' (refine am ?_)
 refine k4 (hq.mono l1) ok fun t h2 l2 hL => ⟨_, rfl, ?_⟩
 have l02 := Hp.le_trans l1 l2
 replace f9 := l2 _ _ f9
 have hl := hL.len
 refine aq σ.nLay (fun i vs h' => vs = [.pointer (some ⟨b9, 0, none⟩), t.v, I i] /\ h2 = h' /\ ∀ j, j < i -> σ.hits j = false) ⟨rfl, rfl, fun j hj => by omega⟩ ?_
 rintro i _ _ nxt hi ⟨rfl, rfl, hno⟩ hnx
 refine ⟨b9, 0, t, _, rfl, ?_⟩
 by_cases hlt : i < σ.nLay
 rotate_left
 ·refine ak (by rw [decide_eq_false_iff_not]; omega) ⟨h, l02, ?_⟩
  have : σ.depth = none := ar.find_none.2 fun j hj => hno j (by omega)
  unfold ar.depthI at k
  rw [this] at k; exact k
 refine aH (by rw [decide_eq_true_eq]; omega) ?_
 obtain ⟨bl, ol, r, ha, h3, h4, hr⟩ := hL.get hlt
 refine ⟨bl, ol, ha, by omega, h3, ?_⟩
 repeat' (refine am ?_)
 refine ⟨r, h4, ?_⟩
 refine tu (hq.mono l02) ok hr ⟨_, rfl, ?_⟩
 refine ad (fun e => ?_) (fun e => ?_)
 ·refine ⟨h, l02, ?_⟩
  have : σ.depth = some i := ar.depth_some.2 ⟨e, fun x hx => hno x hx⟩
  unfold ar.depthI at k
  rw [this] at k; exact k
 ·rw [az (by omega)]
  refine hnx hlt _ _ ⟨rfl, rfl, fun x hx => ?_⟩
  by_cases e2 : x = i
  ·rw [e2]; exact e
  ·exact hno x (by omega)
theorem Kn.lower {g h h' : Hp} {L : List (Nat × Blk)} (K : Kn h h' L) (lg : g.le h) : ∃ g', Kn g g' L /\ g'.le h' /\ ∀ c, h c ≠ none -> g c = none -> g' c = none := by
 refine ⟨fun c => if c ∈ L.map Prod.fst then h' c else g c, ⟨fun c x e => ?_, fun e he => ?_, fun e he => ?_, K.nd⟩, fun c x e => ?_, fun c hc hg => ?_⟩
 ·show (if _ then _ else _) = _
  split
  ·exact K.le _ _ (lg _ _ e)
  ·exact e
 ·show (if _ then _ else _) = _
  rw [if_pos (List.mem_map.2 ⟨e, he, rfl⟩)]; exact K.mem e he
 ·exact aw lg (K.new e he)
 ·change (if _ then _ else _) = _ at e
  split at e
  ·exact e
  ·exact K.le _ _ (lg _ _ e)
 ·show (if _ then _ else _) = _
  split
  ·rename_i hm
   obtain ⟨e, he, rfl⟩ := List.mem_map.1 hm
   exact absurd (K.new e he) hc
  ·exact hg
theorem vv {g h : Hp} {b : Nat} {s2 : Sl} {σ : ar} {S : Nat -> Bool} {R : Value -> Hp -> Prop} (lg : g.le h) (hsg : jK g b σ) (ok : σ.Ok) (hSg : cy g s2 (2 ^ σ.n) S)
  (k : ∀ w h' g', h.le h' -> g.le g' -> g'.le h' -> (∀ c, h c ≠ none -> g c = none -> g' c = none) -> zd g' ce #[] w (2 ^ (σ.n + σ.k)) (σ.leads S) -> R (.func (.func ce) #[] w) h') : cb #[.pointer (some ⟨b, 0, none⟩), s2.v] h R := by
 apply sV
 refine uf_ ?_
 have hn := dy ok
 have hS := hSg.mono lg
 have hl := hS.len
 have hfx := ok.fixed
 obtain ⟨M, st, hold, bad, next, fxg, _, _, hnt⟩ := id hsg
 have fx := lg _ _ fxg
 have K0 := Kn.nil h
 (with_reducible apply Kn.al); (assumption); (intro b4 h1 K1 l1 hb4)
 rw [hl]
 refine ⟨Int.natCast_nonneg _, Int.le_refl _, by omega, by omega, ?_⟩
 (with_reducible apply Kn.al); (assumption); (intro b7 h2 K2 l2 hb7)
 rw [Int.toNat_natCast, Nat.mul_one, bO, hZ] at K2
 rw [Int.toNat_natCast]
 (with_reducible apply Kn.al); (assumption); (intro b9 h3 K3 l3 hb9)
 (((with_reducible apply Kn.wr); (assumption); ((focus ((repeat first | exact .head | apply Upd.tail); done)))))
 ·exact Nat.le_refl _
 intro h4 K4 _
 refine aq (2 ^ σ.n) (fun i vs h' => vs = [.pointer (some ⟨b4, 0, none⟩), .pointer (some ⟨b9, 0, none⟩), s2.v, I (2 ^ σ.n : Nat), I i] /\
  ∃ T, Kn h h' [(b9, .inl ⟨[(arr b7 (2 ^ σ.n)).v], 1, false⟩), (b7, .inl ⟨tb (2 ^ σ.n) T, 2 ^ σ.n, false⟩), (b4, .inl ⟨[.pointer (some ⟨b, 0, none⟩)], 1, false⟩)] /\ ∀ x, T x = true ↔ ∃ t, t < i /\ S t = true /\ t &&& σ.fixed = x)
  ⟨rfl, _, K4, fun x => ⟨fun e => by simp at e, fun ⟨t, e, _⟩ => by omega⟩⟩ ?_
 clear K4 K3 K2 K1 K0 l1 l2 l3 hb4 hb7 hb9
 rintro i _ h5 nxt hi ⟨rfl, T, K, hT⟩ hnx
 refine ⟨b4, 0, b9, 0, s2, _, _, rfl, ?_⟩
 by_cases hlt : i < 2 ^ σ.n
 ·refine aH (by rw [decide_eq_true_eq]; exact_mod_cast hlt) ?_
  rw [dc]
  obtain ⟨bS, oS, ha, e1, e2⟩ := (hS.mono K.le).get hlt
  refine ⟨bS, oS, ha, by omega, e1, _, e2, ?_⟩
  have hle : i &&& σ.fixed <= i := Nat.and_le_left
  have fin : ∀ v h6, v = (T (i &&& σ.fixed) || S i) -> Kn h h6 [(b9, .inl ⟨[(arr b7 (2 ^ σ.n)).v], 1, false⟩), (b7, .inl ⟨(tb (2 ^ σ.n) T).set (i &&& σ.fixed) (.bool v), 2 ^ σ.n, false⟩), (b4, .inl ⟨[.pointer (some ⟨b, 0, none⟩)], 1, false⟩)] ->
    nxt [.pointer (some ⟨b4, 0, none⟩), .pointer (some ⟨b9, 0, none⟩), s2.v, I (2 ^ σ.n : Nat), I (W ((i : Int) + 1))] h6 := by
   intro v h6 hv K6
   rw [az (by omega)]
   rw [iP] at K6
   refine hnx hlt _ _ ⟨rfl, _, K6, fun x => ?_⟩
   by_cases e : x = i &&& σ.fixed
   ·rw [if_pos e, hv, Bool.or_eq_true, hT, e]
    constructor
    ·rintro (⟨t, q1, q2, q3⟩ | q)
     ·exact ⟨t, by omega, q2, q3⟩
     ·exact ⟨i, by omega, q, rfl⟩
    ·rintro ⟨t, q1, q2, q3⟩
     by_cases e2 : t = i
     ·subst e2; exact .inr q2
     ·exact .inl ⟨t, by omega, q2, q3⟩
   ·rw [if_neg e, hT]
    constructor
    ·rintro ⟨t, q1, q⟩; exact ⟨t, by omega, q⟩
    ·rintro ⟨t, q1, q2, q3⟩
     by_cases e2 : t = i
     ·subst e2; exact absurd q3.symm e
     ·exact ⟨t, by omega, q2, q3⟩
  repeat' (refine kr_ ?_)
  rw [oU (by omega) (by omega)]
  refine ⟨by omega, by dsimp only; omega, ?_⟩
  refine Kn.rd K (.tail _ (.head _)) (x := T (i &&& σ.fixed)) (by rw [Nat.zero_add, Nat.mul_one, Int.toNat_natCast]; exact jF (by omega)) ?_
  refine ad (fun e => ?_) (fun e => ?_)
  ·refine ⟨b7, 0, rfl, by omega, by dsimp only; omega, ?_⟩
   (((with_reducible apply Kn.wr); (assumption); ((focus ((repeat first | exact .head | apply Upd.tail); done)))))
   ·rw [eQ]; omega
   intro h6 K6 _
   rw [bk, Nat.zero_add, Int.toNat_natCast, Nat.mul_one] at K6
   exact fin _ h6 (by rw [e]; rfl) K6
  ·refine ⟨b7, 0, rfl, by omega, by dsimp only; omega, ?_⟩
   (((with_reducible apply Kn.wr); (assumption); ((focus ((repeat first | exact .head | apply Upd.tail); done)))))
   ·rw [eQ]; omega
   intro h6 K6 _
   rw [bk, Nat.zero_add, Int.toNat_natCast, Nat.mul_one] at K6
   exact fin _ h6 (by rw [e]; rfl) K6
 refine ak (by rw [decide_eq_false_iff_not]; omega) ?_
 obtain ⟨g', Kg, lg', hnew⟩ := K.lower lg
 refine k _ h5 g' K.le Kg.le lg' hnew fun c hc h' l R' kk => ?_
 apply qq
 refine uf_ ?_
 have K' := Kg.mono l
 clear K Kg fx hnx
 have hcn := ok.next c hc
 repeat' (refine kr_ ?_)
 obtain ⟨bx, ox, hax, e1, e2⟩ := wl.get (hnt.mono K'.le) hc
 refine ⟨bx, ox, hax, by omega, e1, _, e2, ?_⟩
 refine ⟨b7, 0, rfl, by omega, by dsimp only; omega, ?_⟩
 refine Kn.rd K' (.tail _ (.head _)) (x := T (σ.next c)) (by rw [Nat.zero_add, Nat.mul_one, Int.toNat_natCast]; exact jF (by omega)) ?_
 refine dk ?_ kk
 rw [Bool.eq_iff_iff, hT]
 unfold ar.leads
 rw [cc]
 constructor
 ·rintro ⟨t, q1, q2, q3⟩
  exact ⟨t, by omega, by unfold ar.goes; rw [q2, q3]; simp⟩
 ·rintro ⟨t, q1, q2⟩
  unfold ar.goes at q2
  rw [Bool.and_eq_true, decide_eq_true_eq] at q2
  exact ⟨t, by omega, q2.1, q2.2⟩
theorem r8 {h : Hp} {b : Nat} {s2 : Sl} {σ : ar} {S : Nat -> Bool} {R : Value -> Hp -> Prop} (hs : jK h b σ) (ok : σ.Ok) (hS : cy h s2 (2 ^ σ.n) S)
  (k : ∀ w h', h.le h' -> zd h' ce #[] w (2 ^ (σ.n + σ.k)) (σ.leads S) -> R (.func (.func ce) #[] w) h') : cb #[.pointer (some ⟨b, 0, none⟩), s2.v] h R :=
 vv (Hp.le_refl h) hs ok hS fun w h' g' l _ l2 _ hA => k w h' l fun c hc h'' l' R' kk => hA c hc h'' (Hp.le_trans l2 l') R' kk
theorem Ft {h : Hp} {t : Sl} {n : Nat} {T U : Nat -> Bool} (e : cy h t n T) (f : ∀ j, j < n -> T j = U j) : cy h t n U := by
 unfold cy at e ⊢
 rwa [show (List.range n).map U = (List.range n).map T from List.map_congr_left fun j hj => (f j (List.mem_range.1 hj)).symm]
theorem Jq {h : Hp} {s t : Sl} {N : Nat} {S T : Nat -> Bool} {R : Value -> Hp -> Prop} (hS : cy h s N S) (hT : cy h t N T) (hN : N <= 1048576) (k1 : (∀ j, j < N -> S j = T j) -> R (.bool true) h) (k2 : (∃ j, j < N /\ S j ≠ T j) -> R (.bool false) h) :
  fR #[s.v, t.v] h R := by
 apply pH
 refine uf_ ?_
 have h1 := hS.len
 have h2 := hT.len
 rw [h1, h2]
 refine ak (by simp) ?_
 refine aq N (fun i vs h' => vs = [s.v, t.v, I N, I i] /\ h = h' /\ ∀ j, j < i -> S j = T j) ⟨rfl, rfl, fun j hj => by omega⟩ ?_
 rintro i _ _ next hi ⟨rfl, rfl, hj⟩ hnx
 refine ⟨s, t, _, _, rfl, ?_⟩
 by_cases hlt : i < N
 ·refine aH (by rw [decide_eq_true_eq]; exact_mod_cast hlt) ?_
  obtain ⟨b, o, ha, e1, e2⟩ := hS.get hlt
  refine ⟨b, o, ha, by omega, e1, ?_⟩
  obtain ⟨b', o', ha', e1', e2'⟩ := hT.get hlt
  refine ⟨b', o', ha', by omega, e1', _, e2, _, e2', ?_⟩
  refine ad (fun e => ?_) (fun e => ?_)
  ·exact k2 ⟨i, hlt, by simpa using e⟩
  ·rw [az (by omega)]
   refine hnx hlt _ _ ⟨rfl, rfl, fun j hji => ?_⟩
   by_cases eq : j = i
   ·rw [eq]; simpa using e
   ·exact hj j (by omega)
 ·exact ak (by rw [decide_eq_false_iff_not]; omega) (k1 fun j hjn => hj j (by omega))
theorem F4 {h : Hp} {b4 b z s c : Nat} {σ : ar} {R : Value -> Hp -> Prop} (hs : jK h b σ) (f : h b4 = some (.inl ⟨[.pointer (some ⟨b, 0, none⟩)], z, false⟩)) (hc : c < 2 ^ (σ.n + σ.k)) (k : R (.bool (σ.ends c)) h) :
  lC #[I s, I c, .pointer (some ⟨b4, 0, none⟩)] h R := by
 apply sU
 refine uf_ ?_
 (refine am ?_)
 exact ri hs hc ⟨_, rfl, k⟩
theorem Gn {h : Hp} {b3 b4 b5 b z z' z'' s c : Nat} {t : Sl} {fid : FuncId} {u w : Array Value} {σ : ar} {S P : Nat -> Bool} {R : Value -> Hp -> Prop} (hs : jK h b σ) (ft : h b3 = some (.inl ⟨[t.v], z'', false⟩)) (hS : cy h t (2 ^ σ.n) S)
  (f : h b4 = some (.inl ⟨[.pointer (some ⟨b, 0, none⟩)], z, false⟩))
  (f5 : h b5 = some (.inl ⟨[.func (.func fid) u w], z', false⟩)) (hA : zd h fid u w (2 ^ (σ.n + σ.k)) P) (hc : c < 2 ^ (σ.n + σ.k)) (hlt : s < 2 ^ σ.n) (k : R (.bool (S s || (σ.hold c && P c))) h) :
  lw #[I s, I c, .pointer (some ⟨b3, 0, none⟩), .pointer (some ⟨b4, 0, none⟩), .pointer (some ⟨b5, 0, none⟩)] h R := by
 apply sZ
 refine uf_ ?_
 obtain ⟨M, st, hold, bad, next, fx, hh, hb, _⟩ := hs
 (refine am ?_)
 obtain ⟨b', o', ha, h1, h2⟩ := hS.get hlt
 refine ⟨b', o', ha, by omega, h1, _, h2, ?_⟩
 refine ad (fun e => ?_) (fun e => ?_)
 ·rw [e] at k; exact k
 rw [e, Bool.false_or] at k
 (refine am ?_)
 refine cB ?_
 (refine am ?_)
 obtain ⟨b', o', ha, h1, h2⟩ := hh.get hc
 refine ⟨b', o', ha, by omega, h1, _, h2, ?_⟩
 refine ad (fun e => ?_) (fun e => ?_)
 ·refine ⟨fid, u, w, by rw [af f5]; rfl, ?_⟩
  refine hA c hc h (Hp.le_refl _) _ ⟨_, rfl, ?_⟩
  rw [e] at k; exact k
 ·rw [e] at k; exact k
theorem cy.wo {g h h' : Hp} {L : List (Nat × Blk)} {t : Sl} {n : Nat} {T : Nat -> Bool} (K : Kn g h L) (e : cy (h'.sub h) t n T) : cy (h'.wo (L.map Prod.fst)) t n T :=
 cy.mono (nj (sub_le _ _) fun b hb => by
  cases hx : h b with
  | none => exact absurd hx (K.has b hb)
  | some x => exact jO hx) e
theorem FG {h : Hp} {b : Nat} {σ : ar} {R : Value -> Hp -> Prop} (hs : jK h b σ) (ok : σ.Ok) (k : ∀ t h', h.le h' -> cy h' t (2 ^ σ.n) σ.backAll -> R (Sl.v t) h') :
  ic #[.pointer (some ⟨b, 0, none⟩)] h R := by
 apply vV
 refine uf_ ?_
 have hn := dy ok
 have K0 := Kn.nil h
 (with_reducible apply Kn.al); (assumption); (intro b3 h1 K1 l1 hb3)
 (refine kr_ ?_)
 have hs1 := hs.mono K1.le
 have f3 := K1.at (.head _)
 refine lV hs1 ok (f := fun _ c => σ.ends c) (fun s i hs' hi h' l R kk => F4 (hs1.mono l) (l _ _ f3) (ar.at_lt hs' hi) kk) fun t h2 l2 ht => ⟨_, rfl, ?_⟩
 have ht2 := ht.wo K1
 have K2 := (K1.mono l2).base
 have lg := (K1.mono l2).leBase
 generalize h2.wo (([(b3, .inl ⟨[.pointer (some ⟨b, 0, none⟩)], 1, false⟩)] : List (Nat × Blk)).map Prod.fst) = g at *
 (with_reducible apply Kn.al); (exact K2); (intro b10 h3 K3 l3 hb10)
 (((with_reducible apply Kn.wr); (assumption); ((focus ((repeat first | exact .head | apply Upd.tail); done)))))
 ·exact Nat.le_refl _
 intro h4 K4 _
 refine aq (2 ^ σ.n) (fun i vs h' => ∃ (g : Hp) (t : Sl), vs = [.pointer (some ⟨b3, 0, none⟩), .pointer (some ⟨b10, 0, none⟩)] /\ h.le g /\ cy g t (2 ^ σ.n) (σ.back i) /\
  Kn g h' [(b10, .inl ⟨[t.v], 1, false⟩), (b3, .inl ⟨[.pointer (some ⟨b, 0, none⟩)], 1, false⟩)] /\ ∀ j, j < i -> ∃ s, s < 2 ^ σ.n /\ σ.back (j + 1) s ≠ σ.back j s) ⟨g, t, rfl, lg, ht2, K4, fun j hj => by omega⟩ ?_
 clear K4 K3 l3 hb10 K2 lg ht2 ht l2 h2 g t f3 hs1 K1 l1 hb3 K0
 rintro i _ h1 nxt hi ⟨g, t, rfl, lg, ht, K, hd⟩ hnx
 refine ⟨b3, 0, b10, 0, rfl, ?_⟩
 repeat' (refine kr_ ?_)
 refine r8 (hs.mono (Hp.le_trans lg K.le)) ok (ht.mono K.le) fun w h5 l5 hA => ⟨_, _, _, rfl, ?_⟩
 have K5 := K.mono l5
 (with_reducible apply Kn.al); (exact K5); (intro b32 h6 K6 l6 hb32)
 (((with_reducible apply Kn.wr); (assumption); ((focus ((repeat first | exact .head | apply Upd.tail); done)))))
 ·exact Nat.le_refl _
 intro h7 K7 kp7
 have l57 : h5.le h7 := cG hb32 l6 kp7
 clear K6 l6 K5 K
 repeat' (refine kr_ ?_)
 have hs7 := hs.mono (Hp.le_trans lg K7.le)
 refine lV hs7 ok (f := fun s c => σ.back i s || (σ.hold c && σ.leads (σ.back i) c)) (fun s j hs' hj h' l R kk => Gn (hs7.mono l) (l _ _ (K7.at (.tail _ (.head _)))) ((ht.mono K7.le).mono l) (l _ _ (K7.at (.tail _ (.tail _ (.head _)))))
  (l _ _ (K7.at (.head _))) (fun c hc h'' l' R' kk' => hA c hc h'' (Hp.le_trans (Hp.le_trans l57 l) l') R' kk') (ar.at_lt hs' hj) hs' kk) fun t' h8 l8 ht' => ⟨_, rfl, ?_⟩
 have K8 := K7.mono l8
 repeat' (refine kr_ ?_)
 refine Jq (ht'.mono (sub_le _ _)) (ht.mono K8.le) (by omega) (fun e => ⟨_, rfl, aH rfl ?_⟩) fun e => ⟨_, rfl, ak rfl ?_⟩
 ·repeat' (refine kr_ ?_)
  exact k t h8 (Hp.le_trans lg K8.le) (Ft (ht.mono K8.le) fun j hj => ar.backAll_of hd e hj)
 ·have hb8 := ht'.wo K7
  have K8b := K8.base
  have lb := K8.leBase
  clear K7 K8 ht
  generalize h8.wo _ = g8 at *
  (((with_reducible apply Kn.wr); (assumption); ((focus ((repeat first | exact .head | apply Upd.tail); done)))))
  ·exact Nat.le_refl _
  intro h9 K9 _
  have hd' : ∀ j, j < i + 1 -> ∃ s, s < 2 ^ σ.n /\ σ.back (j + 1) s ≠ σ.back j s := fun j hj => by
   by_cases e2 : j = i
   ·rw [e2]; exact e
   ·exact hd j (by omega)
  have hlt : i < 2 ^ σ.n := ar.back_bound hd'
  have nd := K9.nd
  rw [List.map_cons, List.nodup_cons] at nd
  exact hnx hlt _ _ ⟨g8, t', rfl, Hp.le_trans lg lb, hb8, K9.sub (fun e he => .tail _ he) nd.2, hd'⟩
theorem kK {h : Hp} {n : Nat} {R : Value -> Hp -> Prop} (hn : n <= 16) (k : R (I n) h) : fI #[I (2 ^ n : Nat)] h R := by
 apply D3
 refine uf_ ?_
 refine aq n (fun i vs h' => vs = [I (2 ^ n : Nat), I i] /\ h = h') ⟨rfl, rfl⟩ ?_
 rintro i _ _ nxt hi ⟨rfl, rfl⟩ hnx
 refine ⟨_, _, rfl, ?_⟩
 rw [dl (by omega), if_neg (by omega), cu (by omega)]
 by_cases hlt : i < n
 ·have := Nat.pow_lt_pow_right (a := 2) (by omega) hlt
  refine aH (by rw [decide_eq_true_eq]; exact_mod_cast this) ?_
  rw [az (by omega)]
  exact hnx hlt _ _ ⟨rfl, rfl⟩
 ·have hie : i = n := by omega
  subst hie
  exact ak (by simp) k
theorem yx {h : Hp} {q : wW} {σ : ar} {R : Value -> Hp -> Prop} (hq : wK h q σ) (ok : σ.Ok)
  (k : ∀ b' T h', Kn h h' [(b', .inl ⟨tb (2 ^ σ.n) T, 2 ^ σ.n, false⟩)] -> (∀ j, j < 2 ^ σ.n -> T j = σ.backAll j) -> R (arr b' (2 ^ σ.n)).v h') : kR #[AA σ q] h R := by
 apply Cj
 refine uf_ ?_
 have hn := dy ok
 have hp := ln ok
 have hpos := Nat.two_pow_pos σ.n
 obtain ⟨hh, hen, hx, ⟨fm, hfm, hfl⟩, _⟩ := id hq
 have hhl := hh.len
 have hel := hen.len
 have hxl := IntS.len hx
 rw [bW, List.length_map, List.length_range] at hxl
 have hfll := IntS.len hfl
 rw [bW] at hfll
 have hfb : (df fm).length <= 2 ^ σ.n := by
  have h1 : (df fm).length <= fm + 1 := by unfold df; have := List.length_filter_le (fun c => decide (c &&& fm = c)) (List.range (fm + 1)); simpa using this
  omega
 have K0 := Kn.nil h
 (with_reducible apply Kn.al); (assumption); (intro b9 h1 K1 l1 hb9)
 (refine kr_ ?_)
 refine ⟨Int.natCast_nonneg _, Int.le_refl _, by omega, by omega, ?_⟩
 (with_reducible apply Kn.al); (assumption); (intro b13 h2 K2 l2 hb13)
 rw [Int.toNat_natCast, Nat.mul_one, bO, hZ] at K2
 rw [Int.toNat_natCast]
 refine aq (2 ^ σ.n + 1) (fun i vs h' => ∃ (T : Nat -> Bool) (chg : Bool), vs = [.pointer (some ⟨b9, 0, none⟩), (arr b13 (2 ^ σ.n)).v, .bool chg] /\ Kn h h' [(b13, .inl ⟨tb (2 ^ σ.n) T, 2 ^ σ.n, false⟩), (b9, .inl ⟨uL σ q, 7, false⟩)] /\
  (∀ s, s < 2 ^ σ.n -> T s = true -> σ.backAll s = true) /\ (chg = true -> i <= ar.cntB (2 ^ σ.n) T) /\
  (chg = false -> ∀ c, c < 2 ^ (σ.n + σ.k) -> σ.hold c = true -> (σ.ends c = true \/ ∃ f, f ∈ df fm /\ T (σ.next c + f) = true) -> T (c % 2 ^ σ.n) = true))
  ⟨_, true, rfl, K2, fun s _ e => by simp at e, fun _ => Nat.zero_le _, fun e => by simp at e⟩ ?_
 clear K2 K1 K0 l1 l2 hb9 hb13 h1 h2
 rintro i _ h1 nxt hi ⟨T, chg, rfl, K, hTb, hcnt, hcl⟩ hnx
 refine ⟨b9, 0, arr b13 _, _, rfl, ?_⟩
 refine ad (fun e => ?_) (fun e => ?_)
 rotate_left
 ·refine k b13 T h1 (K.sub (fun e he => by rw [List.mem_singleton] at he; subst he; exact .head _) (by simp)) (ar.backAll_eq hTb fun s x hs hx h3 h4 => ?_)
  have hc := ar.at_lt hs hx
  have := hcl e _ hc h3 (by
   rcases h4 with h4 | h4
   ·left; unfold ar.ends; rw [h3, h4]; rfl
   ·right
    unfold ar.leads at h4
    obtain ⟨t, ht, h5⟩ := cc.1 h4
    rw [Bool.and_eq_true] at h5
    obtain ⟨f, hf, h6⟩ := (iH ok hfm hc ht).1 h5.2
    exact ⟨f, hf, by rw [h6]; exact h5.1⟩)
  rwa [ar.at_mod hs] at this
 have hi2 := hcnt e
 have hcle := ar.cntB_le (2 ^ σ.n) T
 subst e
 refine aq (2 ^ (σ.n + σ.k)) (fun c vs h' => ∃ (U : Nat -> Bool) (chg : Bool), vs = [.pointer (some ⟨b9, 0, none⟩), (arr b13 (2 ^ σ.n)).v, .bool chg, I c] /\ Kn h h' [(b13, .inl ⟨tb (2 ^ σ.n) U, 2 ^ σ.n, false⟩), (b9, .inl ⟨uL σ q, 7, false⟩)] /\
  (∀ s, s < 2 ^ σ.n -> T s = true -> U s = true) /\ (∀ s, s < 2 ^ σ.n -> U s = true -> σ.backAll s = true) /\ (chg = true -> ∃ s, s < 2 ^ σ.n /\ T s = false /\ U s = true) /\
  (chg = false -> (∀ s, s < 2 ^ σ.n -> U s = T s) /\ ∀ c', c' < c -> σ.hold c' = true -> (σ.ends c' = true \/ ∃ f, f ∈ df fm /\ T (σ.next c' + f) = true) -> T (c' % 2 ^ σ.n) = true))
  ⟨T, false, rfl, K, fun _ _ e => e, hTb, fun e => by simp at e, fun _ => ⟨fun _ _ => rfl, fun c' hc' => by omega⟩⟩ ?_
 clear K h1
 rintro c _ h1 nxt2 hc ⟨U, chg, rfl, K, hTU, hUb, hch, hnc⟩ hnx2
 refine ⟨b9, 0, arr b13 _, _, _, rfl, ?_⟩
 (refine kr_ ?_)
 by_cases hlt : c < 2 ^ (σ.n + σ.k)
 rotate_left
 ·refine ak (by rw [decide_eq_false_iff_not]; omega) ?_
  refine hnx (by omega) _ _ ⟨U, chg, rfl, K, hUb, fun e => ?_, fun e => ?_⟩
  ·obtain ⟨s, hs, h3, h4⟩ := hch e
   have := ar.cntB_more hTU hs h3 h4
   omega
  ·obtain ⟨h3, h4⟩ := hnc e
   intro c' hc' h5 h6
   rw [h3 _ (Nat.mod_lt _ hpos)]
   refine h4 c' (by omega) h5 (h6.imp id fun ⟨f, hf, h7⟩ => ⟨f, hf, ?_⟩)
   rw [<- h3 _ (nP ok hfm hc' hf)]; exact h7
 refine aH (by rw [decide_eq_true_eq]; omega) ?_
 have hm := Nat.mod_lt c hpos
 (refine kr_ ?_)
 rw [if_neg (by omega), eY, dc]
 have skip : (U (c % 2 ^ σ.n) = true \/ σ.hold c = false) -> nxt2 [.pointer (some ⟨b9, 0, none⟩), (arr b13 (2 ^ σ.n)).v, .bool chg, I (W ((c : Int) + 1))] h1 := fun e => by
  rw [az (by omega)]
  refine hnx2 hlt _ _ ⟨U, chg, rfl, K, hTU, hUb, hch, fun e2 => ⟨(hnc e2).1, fun c' hc' h5 h6 => ?_⟩⟩
  by_cases e3 : c' = c
  ·subst e3
   rcases e with e | e
   ·rw [<- (hnc e2).1 _ hm]; exact e
   ·rw [e] at h5; cases h5
  ·exact (hnc e2).2 c' (by omega) h5 h6
 refine ⟨b13, 0, rfl, by omega, by dsimp only; omega, ?_⟩
 refine Kn.rd K (.head _) (x := U (c % 2 ^ σ.n)) (by rw [Nat.zero_add, Nat.mul_one, Int.toNat_natCast]; exact jF hm) ?_
 refine ad (fun eU => ?_) (fun eU => ?_)
 ·exact aH rfl (skip (.inl eU))
 (refine kr_ ?_)
 obtain ⟨b, o, ha, e1, e2⟩ := (hh.mono K.le).get hlt
 refine ⟨b, o, ha, by omega, e1, _, e2, ?_⟩
 refine ad (fun e => ?_) (fun e => ?_)
 ·exact skip (.inr (by simpa using e))
 have eH : σ.hold c = true := by simpa using e
 (refine kr_ ?_)
 obtain ⟨b, o, ha, e1, e2⟩ := (hen.mono K.le).get hlt
 refine ⟨b, o, ha, by omega, e1, _, e2, ?_⟩
 clear skip
 refine aq (df fm).length (fun j vs h' => ∃ good : Bool, vs = [.pointer (some ⟨b9, 0, none⟩), (arr b13 (2 ^ σ.n)).v, .bool chg, I c, I (c % 2 ^ σ.n : Nat), .bool good, I j] /\ h1 = h' /\
  (good = true ↔ σ.ends c = true \/ ∃ f, f ∈ (df fm).take j /\ U (σ.next c + f) = true)) ⟨_, rfl, rfl, by simp⟩ ?_
 rintro j _ _ nxt3 hj ⟨good, rfl, rfl, hg⟩ hnx3
 refine ⟨b9, 0, arr b13 _, _, _, _, _, _, rfl, ?_⟩
 (refine kr_ ?_)
 by_cases hlj : j < (df fm).length
 ·refine aH (by rw [decide_eq_true_eq]; omega) ?_
  obtain ⟨f, hf⟩ : ∃ f, (df fm)[j]? = some f := ⟨_, List.getElem?_eq_getElem hlj⟩
  have hlf := nP ok hfm hlt (List.mem_of_getElem? hf)
  rw [dc]
  have go : ∀ g2, (g2 = true ↔ good = true \/ U (σ.next c + f) = true) -> nxt3 [.pointer (some ⟨b9, 0, none⟩), (arr b13 (2 ^ σ.n)).v, .bool chg, I c, I (c % 2 ^ σ.n : Nat), .bool g2, I (W ((j : Int) + 1))] h1 := fun g2 e => by
   rw [az (by omega)]
   refine hnx3 hlj _ _ ⟨g2, rfl, rfl, ?_⟩
   rw [e, hg, List.take_add_one, hf]
   constructor
   ·rintro ((e | ⟨f', h3, h4⟩) | e)
    ·exact .inl e
    ·exact .inr ⟨f', List.mem_append_left _ h3, h4⟩
    ·exact .inr ⟨f, by simp, e⟩
   ·rintro (e | ⟨f', h3, h4⟩)
    ·exact .inl (.inl e)
    ·rcases List.mem_append.1 h3 with h3 | h3
     ·exact .inl (.inr ⟨f', h3, h4⟩)
     ·simp at h3; subst h3; exact .inr h4
  refine ad (fun eg => ?_) (fun eg => ?_)
  ·exact go true (by rw [eg]; simp)
  (refine kr_ ?_)
  obtain ⟨b, o, ha, e1, e2⟩ := wl.get (hx.mono K.le) hlt
  refine ⟨b, o, ha, by omega, e1, _, e2, ?_⟩
  (refine kr_ ?_)
  obtain ⟨b, o, ha, e3⟩ := (hfl.mono K.le).get (gl hf)
  refine ⟨b, o, ha, by omega, by omega, _, e3, ?_⟩
  rw [<- Int.natCast_add, fj (by omega)]
  refine ⟨b13, 0, rfl, by omega, by dsimp only; omega, ?_⟩
  refine Kn.rd K (.head _) (x := U (σ.next c + f)) (by rw [Nat.zero_add, Nat.mul_one, Int.toNat_natCast]; exact jF hlf) ?_
  exact go _ (by rw [eg]; simp)
 refine ak (by rw [decide_eq_false_iff_not]; omega) ?_
 rw [List.take_of_length_le (by omega)] at hg
 obtain ⟨a1, a2, a3⟩ := ar.at_of hlt
 refine ad (fun eg => ?_) (fun eg => ?_)
 ·have hback : σ.backAll (c % 2 ^ σ.n) = true := by
   rcases hg.1 eg with h3 | ⟨f, hf, h3⟩
   ·unfold ar.ends at h3
    rw [Bool.and_eq_true] at h3
    exact ar.backAll_ends a1 a2 (by rw [a3]; exact h3.1) (by rw [a3]; exact h3.2)
   ·have hlf := nP ok hfm hlt hf
    exact ar.backAll_step a1 a2 hlf (by rw [a3]; exact eH) (by rw [a3]; exact (iH ok hfm hlt hlf).2 ⟨f, hf, rfl⟩) (hUb _ hlf h3)
  refine ⟨b13, 0, rfl, by omega, by dsimp only; omega, ?_⟩
  (((with_reducible apply Kn.wr); (assumption); ((focus ((repeat first | exact .head | apply Upd.tail); done)))))
  ·rw [eQ]; omega
  intro h2 K2 _
  rw [bk, Nat.zero_add, Int.toNat_natCast, Nat.mul_one, iP] at K2
  rw [az (by omega)]
  refine hnx2 hlt _ _ ⟨_, true, rfl, K2, fun s hs e3 => ?_, fun s hs e3 => ?_, fun _ => ⟨c % 2 ^ σ.n, hm, ?_, by rw [if_pos rfl]⟩, fun e3 => by simp at e3⟩
  ·by_cases e4 : s = c % 2 ^ σ.n
   ·rw [if_pos e4]
   ·rw [if_neg e4]; exact hTU s hs e3
  ·by_cases e4 : s = c % 2 ^ σ.n
   ·rw [e4]; exact hback
   ·rw [if_neg e4] at e3; exact hUb s hs e3
  ·cases e4 : T (c % 2 ^ σ.n) with
   | false => rfl
   | true => rw [hTU _ hm e4] at eU; cases eU
 ·rw [az (by omega)]
  refine hnx2 hlt _ _ ⟨U, chg, rfl, K, hTU, hUb, hch, fun ec => ⟨(hnc ec).1, fun c' hc' h5 h6 => ?_⟩⟩
  by_cases eq : c' = c
  ·subst eq
   have : good = true := hg.2 (h6.imp id fun ⟨f, hf, h7⟩ => ⟨f, hf, by rw [(hnc ec).1 _ (nP ok hfm hlt hf)]; exact h7⟩)
   rw [this] at eg; cases eg
  ·exact (hnc ec).2 c' (by omega) h5 h6
def kV (m : aj) : Bd := if aR m = 0 /\ (aQ m).depthI < 0 then da (aQ m).n fun s => !(aQ m).backAll s else gG
theorem Iu (m : aj) : (kV m).ns.length <= 600 := by unfold kV; split <;> first | exact iY _ _ | simp [gG]
theorem ye {h : Hp} {M : MSl} {m : aj} {R : Value -> Hp -> Prop} (hs : aG h M m) (hm : bU m)
  (k : ∀ s h', h.le h' -> Own (h'.sub h) s 3 (aW (kV m).ns) -> R (pG (kV m) s) h') : jp #[aN M] h R := by
 apply CL
 refine uf_ ?_
 unfold kV at k
 have K0 := Kn.nil h
 (with_reducible apply Kn.al); (assumption); (intro b7 h1 K1 l1 hb7)
 (with_reducible apply Kn.al); (assumption); (intro b9 h2 K2 l2 hb9)
 repeat' (refine kr_ ?_)
 have no : ∀ h3, Kn h h3 [(b9, .inl ⟨[I 0, .slice none 0 0, I 0], 3, false⟩), (b7, .inl ⟨cl M, 5, false⟩)] -> ¬ (aR m = 0 /\ (aQ m).depthI < 0) ->
   ∃ (cs : List Value) (z : Nat), h3 b9 = some (.inl ⟨cs, z, false⟩) /\ 0 + 3 <= List.length cs /\ cr (h3.row b9 (dY cs 0 [I 0, .slice none 0 0, I 0]) z) fun h28 => ∃ x29 : Int, Hp.cell h28 b9 0 = some (I x29) /\ ∃ s30 : Sl, Hp.cell h28 b9 1 = some s30.v /\ ∃ x31 : Int, Hp.cell h28 b9 2 = some (I x31) /\
    R (.tuple #[.agg #[I x29, s30.v, I x31], .bool false]) h28 := by
  intro h3 K3 hn
  rw [if_neg hn] at k
  (((with_reducible apply Kn.wr); (assumption); ((focus ((repeat first | exact .head | apply Upd.tail); done)))))
  ·exact Nat.le_refl _
  intro h4 K4 _
  refine ⟨_, by rw [af (K4.at (.head _))]; rfl, ⟨none, 0, 0⟩, by rw [af (K4.at (.head _))]; rfl, _, by rw [af (K4.at (.head _))]; rfl, ?_⟩
  exact k ⟨none, 0, 0⟩ h4 K4.le (fL _ _)
 refine dA (hs.mono K2.le) hm (fun h3 l3 hc => ⟨_, _, rfl, ?_⟩) (fun hc g bx h3 l3 hx => ⟨_, _, rfl, ?_⟩)
 ·rw [dc]
  exact aH rfl (aH rfl (no h3 (K2.mono l3) fun e => hc e.1))
 have K3 := K2.mono l3
 have ok := fT g
 have hn8 := dy ok
 rw [dc]
 refine ak rfl ?_
 refine jd hx ok fun L h4 l4 hL => ⟨_, rfl, ?_⟩
 refine oP (hx.mono l4) ok hL ⟨_, rfl, ?_⟩
 have K4 := K3.mono l4
 refine ad (fun e => ?_) (fun e => ?_)
 ·exact no h4 K4 fun q => by have := of_decide_eq_true e; omega
 have e' := of_decide_eq_false e
 rw [if_pos ⟨hc, by omega⟩] at k
 clear no e e'
 refine FG (hx.mono l4) ok fun t h5 l5 ht => ⟨_, rfl, ?_⟩
 have K5 := K4.mono l5
 (with_reducible apply Kn.al); (exact K5); (intro b42 h6 K6 l6 hb42)
 (((with_reducible apply Kn.wr); (assumption); ((focus ((repeat first | exact .head | apply Upd.tail); done)))))
 ·exact of_decide_eq_true rfl
 intro h7 K7 kp7
 have l57 := cG hb42 l6 kp7
 have f42 := K7.at (.head _)
 refine xd (hx.mono (Hp.le_trans l4 (Hp.le_trans l5 l57))) ok (f := fun s => !(aQ m).backAll s) (fun i hi h' l R kk => ?_) fun s h8 l8 o8 => ⟨_, _, _, _, rfl, ?_⟩
 ·apply yl
  refine uf_ ?_
  refine ⟨t, by rw [af (l _ _ f42)]; rfl, ?_⟩
  obtain ⟨b', o', ha, h1', h2'⟩ := ((ht.mono l57).mono l).get hi
  exact ⟨b', o', ha, by omega, h1', _, h2', kk⟩
 have K8 := K7.mono l8
 (((with_reducible apply Kn.wr); (assumption); ((focus ((repeat first | exact .head | apply Upd.tail); done)))))
 ·exact Nat.le_refl _
 intro h9 K9 kp
 refine ⟨_, by rw [af (K9.at (.tail _ (.head _)))]; rfl, _, by rw [af (K9.at (.tail _ (.head _)))]; rfl, _, by rw [af (K9.at (.tail _ (.head _)))]; rfl, ?_⟩
 exact k s h9 K9.le (o8.mono (dR K7.le (K7.at (.tail _ (.head _))) kp))
theorem yg {h : Hp} {M : MSl} {m : aj} {R : Value -> Hp -> Prop} (hs : aG h M m) (hm : bU m)
  (k : ∀ s h', h.le h' -> Own (h'.sub h) s 3 (aW (kV m).ns) -> R (pG (kV m) s) h') : pB #[aN M] h R := by
 apply Cw
 refine uf_ ?_
 unfold kV at k
 have K0 := Kn.nil h
 (with_reducible apply Kn.al); (assumption); (intro b7 h1 K1 l1 hb7)
 (with_reducible apply Kn.al); (assumption); (intro b9 h2 K2 l2 hb9)
 repeat' (refine kr_ ?_)
 refine ct (hs.mono K2.le) hm ⟨_, rfl, ?_⟩
 refine ad (fun e => ?_) (fun e => ?_)
 ·rw [if_neg fun q => ew e q.1] at k
  (((with_reducible apply Kn.wr); (assumption); ((focus ((repeat first | exact .head | apply Upd.tail); done)))))
  ·exact Nat.le_refl _
  intro h3 K3 _
  refine ⟨_, by rw [af (K3.at (.head _))]; rfl, ⟨none, 0, 0⟩, by rw [af (K3.at (.head _))]; rfl, _, by rw [af (K3.at (.head _))]; rfl, ?_⟩
  exact k ⟨none, 0, 0⟩ h3 K3.le (fL _ _)
 have hc := eG e
 have ok := fT (gA hc)
 repeat' (refine kr_ ?_)
 refine i7 (hs.mono K2.le) hm hc fun q h3 l3 hq => ⟨_, _, _, _, _, _, _, rfl, ?_⟩
 have K3 := K2.mono l3
 generalize aQ m = σ at *
 have hn := dy ok
 (with_reducible apply Kn.al); (exact K3); (intro b43 h4 K4 l4 hb43)
 (((with_reducible apply Kn.wr); (assumption); ((focus ((repeat first | exact .head | apply Upd.tail); done)))))
 ·exact of_decide_eq_true rfl
 intro h5 K5 kp5
 simp only [dY, List.set_cons_zero, List.set_cons_succ, Nat.zero_add, Nat.reduceAdd] at K5
 have hq5 := hq.mono (cG hb43 l4 kp5)
 clear K4 K3 kp5
 repeat' (refine kr_ ?_)
 refine mv hq5 ok ⟨_, rfl, ?_⟩
 refine ad (fun e => ?_) (fun e => ?_)
 ·rw [if_neg fun q => by have := of_decide_eq_true e; omega] at k
  (((with_reducible apply Kn.wr); (assumption); ((focus ((repeat first | exact .head | apply Upd.tail); done)))))
  ·exact of_decide_eq_true rfl
  intro h6 K6 _
  refine ⟨_, by rw [af (K6.at (.tail _ (.head _)))]; rfl, ⟨none, 0, 0⟩, by rw [af (K6.at (.tail _ (.head _)))]; rfl, _, by rw [af (K6.at (.tail _ (.head _)))]; rfl, ?_⟩
  exact k ⟨none, 0, 0⟩ h6 K6.le (fL _ _)
 have e' := of_decide_eq_false e
 rw [if_pos ⟨hc, by omega⟩] at k
 repeat' (refine kr_ ?_)
 refine yx hq5 ok fun bT T h6 K6 hT => ⟨_, rfl, ?_⟩
 have f43 := K5.at (.head _)
 have f9 := K5.at (.tail _ (.head _))
 refine aq (2 ^ σ.n) (fun i vs h' => vs = [.pointer (some ⟨b9, 0, none⟩), .pointer (some ⟨b43, 0, none⟩), (arr bT (2 ^ σ.n)).v, I i] /\
  ∃ U, Kn h5 h' [(bT, .inl ⟨tb (2 ^ σ.n) U, 2 ^ σ.n, false⟩)] /\ ∀ j, j < 2 ^ σ.n -> U j = if j < i then !σ.backAll j else σ.backAll j) ⟨rfl, T, K6, fun j hj => by rw [if_neg (by omega)]; exact hT j hj⟩ ?_
 clear K6 hT T h6 K2 K1 K0
 rintro i _ h6 nxt hi ⟨rfl, U, K6, hU⟩ hnx
 refine ⟨b9, 0, b43, 0, arr bT _, _, rfl, ?_⟩
 by_cases hlt : i < 2 ^ σ.n
 ·refine aH (by rw [decide_eq_true_eq]; exact_mod_cast hlt) ?_
  refine ⟨bT, 0, rfl, by omega, by dsimp only; omega, ?_⟩
  refine Kn.rd K6 (.head _) (x := U i) (by rw [Nat.zero_add, Nat.mul_one, Int.toNat_natCast]; exact jF hlt) ?_
  refine ⟨bT, 0, rfl, by omega, by dsimp only; omega, ?_⟩
  (((with_reducible apply Kn.wr); (assumption); ((focus ((repeat first | exact .head | apply Upd.tail); done)))))
  ·rw [eQ]; omega
  intro h7 K7 _
  rw [bk, Nat.zero_add, Int.toNat_natCast, Nat.mul_one, iP] at K7
  rw [az (by omega)]
  refine hnx hlt _ _ ⟨rfl, _, K7, fun x hx => ?_⟩
  by_cases e2 : x = i
  ·rw [if_pos e2, if_pos (by omega), e2, hU i hlt, if_neg (by omega)]
  ·rw [if_neg e2, hU x hx]
   by_cases e3 : x < i
   ·rw [if_pos e3, if_pos (by omega)]
   ·rw [if_neg e3, if_neg (by omega)]
 ·refine ak (by rw [decide_eq_false_iff_not]; dsimp only; omega) ?_
  repeat' (refine kr_ ?_)
  refine kK (by have := ok.nle; omega) ⟨_, rfl, ?_⟩
  refine nU (by have := ok.nle; omega) (gi (by omega) (K6.at (.head _)) fun j hj => (by rw [hU j hj, if_pos (by omega)] : U j = !σ.backAll j)) fun s h8 l8 o8 => ⟨_, _, _, _, rfl, ?_⟩
  have K56 := K5.mono K6.le
  have K8 := K56.mono l8
  (((with_reducible apply Kn.wr); (assumption); ((focus ((repeat first | exact .head | apply Upd.tail); done)))))
  ·exact of_decide_eq_true rfl
  intro h9 K9 kp
  refine ⟨_, by rw [af (K9.at (.tail _ (.head _)))]; rfl, _, by rw [af (K9.at (.tail _ (.head _)))]; rfl, _, by rw [af (K9.at (.tail _ (.head _)))]; rfl, ?_⟩
  exact k s h9 K9.le (o8.mono (dR K56.le (K56.at (.tail _ (.head _))) kp))
set_option maxHeartbeats 1000000 in
theorem FnExactInvWeak_spec {h : Hp} {M : MSl} {m : aj} {R : Value -> Hp -> Prop} (hs : aG h M m) (hsz : ∀ n ∈ m.nodes, n.name.size <= 9223372036854775807)
  (k : R (.bool true) h) : lv #[aN M] h R := by
 refine ACalls.drop (te ?_)
 refine uf_ ?_
 have K0 := Kn.nil h
 (with_reducible apply Kn.al); (assumption); (intro b7 h1 K1 l1 hb7)
 clear K0 hb7
 repeat' (refine kr_ ?_)
 refine ep (hs.mono K1.le) hsz fun r hr => ⟨_, rfl, ad (fun e => ⟨_, K1.le, k⟩) (fun e => ?_)⟩
 have hm : bU m := (hr.resolve_left (of_decide_eq_false e)).2.2
 clear hr e r
 repeat' (refine kr_ ?_)
 refine aF (hs.mono K1.le) hm fun n1 i1 x1 d1 e1 h2 KA => ⟨_, _, _, _, _, rfl, ?_⟩
 have KA' : Kn h1 h2 (dQ m n1 i1 x1 d1 e1 ++ []) := by rw [List.append_nil]; exact KA
 refine yg (db KA' hm) hm fun w0 h3 l3 ow => ⟨_, _, _, _, rfl, ?_⟩
 have hI : ∀ {h' : Hp} {M' : MSl} {R' : Value -> Hp -> Prop}, aG h' M' m -> (∀ t h'', h'.le h'' -> Own (h''.sub h') t 3 (aW (kV m).ns) -> R' (pG (kV m) t) h'') -> jp #[aN M'] h' R' := fun a b => ye a hm b
 have hlen := Iu m
 generalize kV m = B at *
 have K3 := K1.mono (Hp.le_trans KA.le l3)
 clear KA' K1
 (with_reducible apply Kn.al); (exact K3); (intro b41 h4 K4 l4 hb41)
 (((with_reducible apply Kn.wr); (assumption); ((focus ((repeat first | exact .head | apply Upd.tail); done)))))
 ·exact of_decide_eq_true rfl
 intro h5 K5 kp5
 have l35 : h3.le h5 := cG hb41 l4 kp5
 have ow5 : Own h5 w0 3 (aW B.ns) := (ow.mono (sub_le _ _)).mono l35
 have f7 := K5.at (.tail _ (.head _))
 have f41 := K5.at (.head _)
 have hs5 := hs.mono K5.le
 have l05 := K5.le
 clear ow kp5 l35 hb41 l4 K4 K3 l3 KA h4 h3 l1
 repeat' (refine kr_ ?_)
 refine aF hs5 hm fun bn bi bx bb bh h6 KB => ⟨_, _, _, _, _, rfl, ?_⟩
 clear K5
 (with_reducible apply Kn.al); (exact KB); (intro b59 h7 K7 l7 hb59)
 (((with_reducible apply Kn.wr); (assumption); ((focus ((repeat first | exact .head | apply Upd.tail); done)))))
 ·exact of_decide_eq_true rfl
 intro h8 K8 _
 clear K7 KB l7 hb59
 repeat' (refine kr_ ?_)
 have nd8 := K8.nd
 rw [List.map_cons, List.nodup_cons] at nd8
 have K8' : Kn h5 h8 (dQ m bn bi bx bb bh ++ []) := K8.sub (fun e he => .tail _ (by rwa [List.append_nil] at he)) (by rw [List.append_nil]; exact nd8.2)
 refine hI (db K8' hm) fun g0 h9 l9 og => ⟨_, _, _, _, rfl, ?_⟩
 obtain ⟨X, oX, K9⟩ := K8.addOwn l9 og
 have hgn : g0.n <= 600 := by have := og.1; rw [dL] at this; omega
 clear K8 K8' nd8 og l9
 (with_reducible apply Kn.al); (exact K9); (intro b76 h10 K10 l10 hb76)
 (((with_reducible apply Kn.wr); (assumption); ((focus ((repeat first | exact .head | apply Upd.tail); done)))))
 ·exact of_decide_eq_true rfl
 intro h11 K11 _
 clear K10 K9 l10 hb76
 obtain ⟨KM, KF⟩ := Kn.split (A := [(b76, .inl ⟨[I B.v, g0.v, I B.r], 3, false⟩), (b59, .inl ⟨cl (AN m bn bi bx bb bh), 5, false⟩)]) (B := dQ m bn bi bx bb bh ++ X) K11
 generalize h11.wo ((dQ m bn bi bx bb bh ++ X).map Prod.fst) = gB at *
 have f76 := KF.at (.head _)
 have f59 := KF.at (.tail _ (.head _))
 replace f7 := KF.le _ _ f7
 replace f41 := KF.le _ _ f41
 have x59 := bL f59
 have x7 := bL f7
 have x76 := bL f76
 have x41 := bL f41
 have hsB := hs5.mono KF.le
 have owB := ow5.mono KF.le
 have l0B := Hp.le_trans l05 KF.le
 clear KF K11 ow5 hs5 l05
 refine ap (fun J => J false h11) ?_ (fun J hJ => ?_)
 rotate_left
 ·repeat' (refine kr_ ?_)
  refine cH (oX.own KM).slc (owB.mono KM.le).slc ⟨_, rfl, ak (by simp) ?_⟩
  simpa using hJ
 refine ak rfl ?_
 repeat' (refine kr_ ?_)
 refine aF (hsB.mono KM.le) hm fun n2 i2 x2 d2 e2 h12 KC => ⟨_, _, _, _, _, rfl, ?_⟩
 have KC' : Kn h11 h12 (dQ m n2 i2 x2 d2 e2 ++ []) := by rw [List.append_nil]; exact KC
 have KM12 := KM.mono KC.le
 repeat' (refine kr_ ?_)
 refine em (db KM12 hm) (db KC' hm) ⟨_, rfl, ak rfl ?_⟩
 clear KC' KC KM
 repeat' (refine kr_ ?_)
 refine en KM12 hm fun h13 L' hL' KM13 r hr => ⟨_, rfl, ?_⟩
 clear KM12
 refine ap (fun J => J false h13) ?_ (fun J hJ => ?_)
 rotate_left
 ·refine ak (by simp; omega) ?_
  repeat' (refine kr_ ?_)
  refine cH (oX.own KM13).slc (owB.mono KM13.le).slc ⟨_, rfl, ak (by simp) ?_⟩
  simpa using hJ
 refine ak rfl ?_
 repeat' (refine kr_ ?_)
 refine gn (oX.own KM13) (by omega) (by omega) fun h14 l14 o14 => ⟨_, rfl, ?_⟩
 obtain ⟨X', oX', KM14⟩ := oX.mark KM13 l14 o14
 clear l14 KM13
 repeat' (refine kr_ ?_)
 refine cX o14.slc (by omega) (by omega) ⟨_, rfl, ak (by simp; omega) (ak (by simp) ?_)⟩
 repeat' (refine kr_ ?_)
 refine aF (hsB.mono KM14.le) hm fun n3 i3 x3 d3 e3 h15 KD => ⟨_, _, _, _, _, rfl, ?_⟩
 have KD' : Kn h14 h15 (dQ m n3 i3 x3 d3 e3 ++ []) := by rw [List.append_nil]; exact KD
 refine hI (db KD' hm) fun w1 h16 l16 ow1 => ⟨_, _, _, _, rfl, ?_⟩
 have KM16 := KM14.mono (Hp.le_trans KD.le l16)
 clear KD' KM14
 (with_reducible apply Kn.al); (exact KM16); (intro b183 h17 K17 l17 hb183)
 (((with_reducible apply Kn.wr); (assumption); ((focus ((repeat first | exact .head | apply Upd.tail); done)))))
 ·exact of_decide_eq_true rfl
 intro h18 K18 kp18
 have l1618 : h16.le h18 := cG hb183 l17 kp18
 have K18' : Kn gB h18 (((b183, .inl ⟨[I B.v, w1.v, I B.r], 3, false⟩) :: L') ++ X') := K18
 clear KM16 K17
 refine ap (fun J => J false h18) ?_ (fun J hJ => ?_)
 rotate_left
 ·repeat' (refine kr_ ?_)
  refine cH ((ow1.mono (sub_le _ _)).mono l1618).slc (owB.mono K18.le).slc ⟨_, rfl, ak (by simp) ?_⟩
  simpa using hJ
 refine ak rfl ?_
 repeat' (refine kr_ ?_)
 refine cX (oX'.own K18').slc (by omega) (by omega) ⟨_, rfl, ak (by simp; omega) (ak (by simp) ⟨_, Hp.le_trans l0B K18.le, k⟩)⟩
def TrX (h h' : Hp) (sS sI : Sl) (l : List (Nat × Nat)) : Prop :=
 ∃ XS XI, iO XS sS 1 ((VL (l.map Prod.fst)).map I) /\ iO XI sI 1 ((VL (l.map Prod.snd)).map I) /\ Kn h h' (XS ++ XI)
theorem ez.at {X : List (Nat × Blk)} {h : Hp} {s t : Sl} {ts : List Sl} {i : Nat} (o : ez X s 1 (ts.map Sl.v)) (m : ∀ e ∈ X, h e.1 = some e.2) (hi : ts[i]? = some t) :
  ∃ b x, s.a = some ⟨b, 0, none⟩ /\ h b = some x /\ Hp.cell h b (0 + i * 1) = some t.v := by
 have hlt := get_lt hi
 rcases o.2.2 with ⟨_, _, h0⟩ | ⟨b, ha, rfl⟩
 ·have : ts.length = 0 := by have := congrArg List.length h0; simpa using this
  omega
 ·have hb := m _ (.head _)
  refine ⟨b, _, ha, hb, ?_⟩
  rw [af hb, Nat.zero_add, Nat.mul_one, List.getElem?_map, hi]; rfl
theorem TrX.nil {h h' : Hp} (l : h.le h') : TrX h h' ⟨none, 0, 0⟩ ⟨none, 0, 0⟩ [] := ⟨[], [], ⟨rfl, by simp, .inl ⟨rfl, rfl⟩⟩, ⟨rfl, by simp, .inl ⟨rfl, rfl⟩⟩, Kn.of l⟩
theorem TrX.up {h g h1 h5 : Hp} {b6 : Nat} {sS sI : Sl} {l : List (Nat × Nat)} (t : TrX g h1 sS sI l) (lg : h.le g) (h6 : g b6 ≠ none) (l5 : h.le h5) (kp : ∀ c, c ≠ b6 -> h5 c = h1 c) : TrX h h5 sS sI l := by
 obtain ⟨XS, XI, oS, oI, K⟩ := t
 refine ⟨XS, XI, oS, oI, l5, fun e he => ?_, fun e he => aw lg (K.new e he), K.nd⟩
 have hne : e.1 ≠ b6 := by
  intro e6
  have h1 := K.new e he
  rw [e6] at h1; exact h6 h1
 rw [kp _ hne]; exact K.mem e he
theorem TrX.mono {h h1 h2 : Hp} {sS sI : Sl} {l : List (Nat × Nat)} (t : TrX h h1 sS sI l) (l12 : h1.le h2) : TrX h h2 sS sI l := by
 obtain ⟨XS, XI, oS, oI, K⟩ := t
 exact ⟨XS, XI, oS, oI, K.mono l12⟩
theorem iO.slcOf {X : List (Nat × Blk)} {h : Hp} {s : Sl} {sz : Nat} {cs : List Value} (o : iO X s sz cs) (m : ∀ e ∈ X, h e.1 = some e.2) : SlC h s sz cs := by
 refine ⟨o.2.1, o.1, ?_⟩
 rcases o.2.2 with ⟨h0, _⟩ | ⟨_, b, z, ha, rfl⟩
 ·exact .inl h0
 ·exact .inr ⟨b, 0, ha, ax (m _ (.head _))⟩
theorem TrX.ints {h h1 : Hp} {sS sI : Sl} {l : List (Nat × Nat)} (t : TrX h h1 sS sI l) : IntS h1 sS (VL (l.map Prod.fst)) /\ IntS h1 sI (VL (l.map Prod.snd)) := by
 obtain ⟨XS, XI, oS, oI, K⟩ := t
 exact ⟨oS.slcOf fun e he => K.mem e (List.mem_append_left _ he), oI.slcOf fun e he => K.mem e (List.mem_append_right _ he)⟩
theorem TrX.le {h h' : Hp} {sS sI : Sl} {l : List (Nat × Nat)} (t : TrX h h' sS sI l) : h.le h' := by obtain ⟨_, _, _, _, K⟩ := t; exact K.le
theorem TrX.add {g h h' : Hp} {L : List (Nat × Blk)} {sS sI : Sl} {l : List (Nat × Nat)} (t : TrX h h' sS sI l) (K : Kn g h L) :
  ∃ XS XI, iO XS sS 1 ((VL (l.map Prod.fst)).map I) /\ iO XI sI 1 ((VL (l.map Prod.snd)).map I) /\ Kn g h' (L ++ (XS ++ XI)) := by
 obtain ⟨XS, XI, oS, oI, K'⟩ := t
 exact ⟨XS, XI, oS, oI, K.app K'.le K'.new K'.mem K'.nd⟩
section
variable {g h : Hp} {L XS XI : List (Nat × Blk)} {sS sI tS tI : Sl} {xs ys : List Int} {cS cI : List Value} {k0 : Int} {R : Value -> Hp -> Prop}
end
structure yV where
 kind : Int
 depth : Int
 tr : List (Nat × Nat)
 bd : Bd
def VrX (h h' : Hp) (sS sI sN : Sl) (p : yV) : Prop :=
 ∃ XS XI XN, iO XS sS 1 ((VL (p.tr.map Prod.fst)).map I) /\ iO XI sI 1 ((VL (p.tr.map Prod.snd)).map I) /\ iO XN sN 3 (aW p.bd.ns) /\ Kn h h' (XS ++ (XI ++ XN))
theorem VrX.up {h g h1 h5 : Hp} {b6 : Nat} {sS sI sN : Sl} {p : yV} (t : VrX g h1 sS sI sN p) (lg : h.le g) (h6 : g b6 ≠ none) (l5 : h.le h5) (kp : ∀ c, c ≠ b6 -> h5 c = h1 c) : VrX h h5 sS sI sN p := by
 obtain ⟨XS, XI, XN, oS, oI, oN, K⟩ := t
 refine ⟨XS, XI, XN, oS, oI, oN, l5, fun e he => ?_, fun e he => aw lg (K.new e he), K.nd⟩
 have hne : e.1 ≠ b6 := by
  intro e6
  have h1 := K.new e he
  rw [e6] at h1; exact h6 h1
 rw [kp _ hne]; exact K.mem e he
theorem VrX.mono {h h1 h2 : Hp} {sS sI sN : Sl} {p : yV} (t : VrX h h1 sS sI sN p) (l12 : h1.le h2) : VrX h h2 sS sI sN p := by
 obtain ⟨XS, XI, XN, oS, oI, oN, K⟩ := t
 exact ⟨XS, XI, XN, oS, oI, oN, K.mono l12⟩
theorem VrX.le {h h' : Hp} {sS sI sN : Sl} {p : yV} (t : VrX h h' sS sI sN p) : h.le h' := by obtain ⟨_, _, _, _, _, _, K⟩ := t; exact K.le
theorem BG (sz : Nat) : iO [] ⟨none, 0, 0⟩ sz [] := ⟨by simp, by simp, .inl ⟨rfl, rfl⟩⟩
theorem VrX.ofTr {h h' : Hp} {sS sI : Sl} {l : List (Nat × Nat)} {k d : Int} (t : TrX h h' sS sI l) : VrX h h' sS sI ⟨none, 0, 0⟩ ⟨k, d, l, gG⟩ := by
 obtain ⟨XS, XI, oS, oI, K⟩ := t
 exact ⟨XS, XI, [], oS, oI, BG 3, by rw [List.append_nil]; exact K⟩
theorem VrX.nil {h h' : Hp} {k d : Int} (l : h.le h') : VrX h h' ⟨none, 0, 0⟩ ⟨none, 0, 0⟩ ⟨none, 0, 0⟩ ⟨k, d, [], gG⟩ := VrX.ofTr (TrX.nil l)
theorem VrX.add {g h h' : Hp} {L : List (Nat × Blk)} {sS sI sN : Sl} {p : yV} (t : VrX h h' sS sI sN p) (K : Kn g h L) :
  ∃ XS XI XN, iO XS sS 1 ((VL (p.tr.map Prod.fst)).map I) /\ iO XI sI 1 ((VL (p.tr.map Prod.snd)).map I) /\ iO XN sN 3 (aW p.bd.ns) /\ Kn g h' (L ++ (XS ++ (XI ++ XN))) := by
 obtain ⟨XS, XI, XN, oS, oI, oN, K'⟩ := t
 exact ⟨XS, XI, XN, oS, oI, oN, K.app K'.le K'.new K'.mem K'.nd⟩
def VrS (h : Hp) (sS sI sN : Sl) (p : yV) : Prop := IntS h sS (VL (p.tr.map Prod.fst)) /\ IntS h sI (VL (p.tr.map Prod.snd)) /\ SlC h sN 3 (aW p.bd.ns)
theorem VrS.mono {h h' : Hp} {sS sI sN : Sl} {p : yV} (l : h.le h') (t : VrS h sS sI sN p) : VrS h' sS sI sN p := ⟨t.1.mono l, t.2.1.mono l, t.2.2.mono l⟩
def MG (X : List (Nat × Blk)) (M : MSl) (m : aj) : Prop :=
 ∃ XN XI XE XB XH, X = XN ++ (XI ++ (XE ++ (XB ++ (XH ++ [])))) /\ ez XN M.no 9 (m.nodes.flatMap nodeCells) /\ ez XI M.ini 2 (m.inits.flatMap bindCells) /\ ez XE M.nex 2 (m.nexts.flatMap bindCells) /\
  ez XB M.bad 1 (m.bads.map I) /\ ez XH M.hol 1 (m.holds.map I)
abbrev noM : MSl := ⟨⟨none, 0, 0⟩, ⟨none, 0, 0⟩, ⟨none, 0, 0⟩, ⟨none, 0, 0⟩, ⟨none, 0, 0⟩⟩
abbrev noP : aj := ⟨[], [], [], [], []⟩
theorem MG.nil : MG [] noM noP := ⟨[], [], [], [], [], rfl, fe 9, fe 2, fe 2, fe 1, fe 1⟩
section
variable {g h : Hp} {A X : List (Nat × Blk)} {M : MSl} {m : aj}
theorem ez.slcOf {X : List (Nat × Blk)} {s : Sl} {sz : Nat} {cs : List Value} (o : ez X s sz cs) (hn : s.n <= 9223372036854775807) (m : ∀ e ∈ X, h e.1 = some e.2) : SlC h s sz cs := (o.buf m).slc_of hn
theorem MG.lens (o : MG X M m) : M.no.n = m.nodes.length /\ M.ini.n = m.inits.length /\ M.nex.n = m.nexts.length /\ M.bad.n = m.bads.length /\ M.hol.n = m.holds.length /\ M.no.n <= M.no.c := by
 obtain ⟨XN, XI, XE, XB, XH, _, a, b, c, d, e⟩ := o
 have h1 := a.1; have h2 := b.1; have h3 := c.1; have h4 := d.1; have h5 := e.1; have h6 := a.2.1
 rw [gm (m := 9) (fun _ => rfl)] at h1
 rw [gm (m := 2) (fun _ => rfl)] at h2 h3
 rw [List.length_map] at h4 h5
 omega
theorem MG.blk (o : MG X M m) (hn : 0 < m.nodes.length) : ∃ b x, M.no.a = some ⟨b, 0, none⟩ /\ (b, x) ∈ X := by
 have hl := o.lens
 obtain ⟨XN, XI, XE, XB, XH, rfl, a, _⟩ := o
 rcases a.2.2 with ⟨_, h0, _⟩ | ⟨b, ha, rfl⟩
 ·rw [h0] at hl; have := hl.1; dsimp only at this; omega
 ·exact ⟨b, _, ha, List.mem_append_left _ (.head _)⟩
end
section
variable {g h : Hp} {L L' : List (Nat × Blk)} {b : Nat} {M M' : MSl}
end
theorem Upd.app {L L' X : List (Nat × Blk)} {b : Nat} {x y : Blk} (u : Upd L b x y L') : Upd (L ++ X) b x y (L' ++ X) := by
 induction u with
 | head => exact .head
 | tail _ ih => exact .tail ih
inductive Pk {α : Type} : List α -> α -> List α -> Prop
 | head {L : List α} {a : α} : Pk (a :: L) a L
 | tail {L L' : List α} {a e : α} : Pk L a L' -> Pk (e :: L) a (e :: L')
theorem Pk.perm {α : Type} {L L' : List α} {a : α} (u : Pk L a L') : L.Perm (a :: L') := by
 induction u with
 | head => exact List.Perm.refl _
 | tail _ ih => exact (List.Perm.cons _ ih).trans (List.Perm.swap ..)
end Go.Lead
