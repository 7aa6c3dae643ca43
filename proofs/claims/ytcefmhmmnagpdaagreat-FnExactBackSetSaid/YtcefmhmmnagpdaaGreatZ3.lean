/- What functions of the program and of the reference come to, walked one by one, and plain laws about it: part 4. No condition is added to the statement. -/
import Derived.Test.YtcefmhmmnagpdaaGreatZ2
namespace Go.Lead
open Go
set_option linter.unusedSimpArgs false
set_option linter.unusedVariables false
set_option maxRecDepth 100000
set_option maxHeartbeats 1000000
def dp (f : Nat -> Bool) (c n : Nat) : List Value := (List.range n).map fun i => .bool (decide (i < c) && f i)
def i8 (f : Nat -> Nat) (c n : Nat) : List Value := (List.range n).map fun i => I ((if i < c then f i else 0 : Nat) : Int)
theorem pQ (f : Nat -> Bool) (c n : Nat) : (dp f c n).length = n := by simp [dp]
theorem JO (f : Nat -> Nat) (c n : Nat) : (i8 f c n).length = n := by simp [i8]
theorem hY (f : Nat -> Bool) (n : Nat) : List.replicate n (.bool false) = dp f 0 n := by
 apply List.ext_getElem
 ·simp [dp]
 ·intro i h1 h2; simp [dp]
theorem zP (f : Nat -> Nat) (n : Nat) : List.replicate n (I 0) = i8 f 0 n := by
 apply List.ext_getElem
 ·simp [i8]
 ·intro i h1 h2; simp [i8]
theorem pI {f : Nat -> Bool} {c n : Nat} (h : c < n) : (dp f c n).set c (.bool (f c)) = dp f (c + 1) n := by
 apply List.ext_getElem
 ·simp [dp]
 ·intro i h1 h2
  simp only [dp, List.getElem_set, List.getElem_map, List.getElem_range]
  by_cases e : c = i
  ·subst e; simp
  ·rw [if_neg e]
   have : decide (i < c) = decide (i < c + 1) := by rw [Bool.eq_iff_iff, decide_eq_true_eq, decide_eq_true_eq]; omega
   rw [this]
theorem La {f : Nat -> Nat} {c n : Nat} (h : c < n) : (i8 f c n).set c (I (f c : Nat)) = i8 f (c + 1) n := by
 apply List.ext_getElem
 ·simp [i8]
 ·intro i h1 h2
  simp only [i8, List.getElem_set, List.getElem_map, List.getElem_range]
  by_cases e : c = i
  ·subst e; simp
  ·rw [if_neg e]
   by_cases h : i < c
   ·rw [if_pos h, if_pos (by omega)]
   ·rw [if_neg h, if_neg (by omega)]
theorem pR (f : Nat -> Bool) (n : Nat) : dp f n n = ((List.range n).map f).map Value.bool := by
 apply List.ext_getElem
 ·simp [dp]
 ·intro i h1 h2
  have hi : i < n := by simpa [dp] using h1
  simp [dp, hi]
theorem Jp (f : Nat -> Nat) (n : Nat) : i8 f n n = (VL ((List.range n).map f)).map I := by
 apply List.ext_getElem
 ·simp [i8, VL]
 ·intro i h1 h2
  have hi : i < n := by simpa [i8] using h1
  simp [i8, VL, hi]
theorem jq.keep {h h' : Hp} {s : Sl} {vs : List (List Nat)} {b z : Nat} {cs : List Value} {ro : Bool} (e : jq h s vs) (f : h b = some (.inl ⟨cs, z, ro⟩)) (hn : Iy cs) (hsl : ∀ (j : Nat) (t : Sl), cs[j]? ≠ some t.v) (kp : ∀ c, c ≠ b -> h' c = h c) : jq h' s vs := by
 refine ⟨e.1, e.2.1, fun p hp => ?_⟩
 obtain ⟨b', o, t, h1, h2, h3⟩ := e.2.2 p hp
 refine ⟨b', o, t, h1, ?_, h3.keepN f hn kp⟩
 have hne : b' ≠ b := by
  rintro rfl
  rw [af f] at h2
  exact hsl _ _ h2
 unfold Hp.cell at h2 ⊢
 rw [kp b' hne]; exact h2
theorem zO (f : Nat -> Bool) (c n : Nat) : Iy (dp f c n) := by
 intro j i h
 simp only [dp, List.getElem?_map, Option.map_eq_some_iff] at h
 obtain ⟨a, _, h⟩ := h
 cases h
theorem Cu (f : Nat -> Bool) (c n : Nat) : ∀ (j : Nat) (t : Sl), (dp f c n)[j]? ≠ some t.v := by
 intro j t h
 simp only [dp, List.getElem?_map, Option.map_eq_some_iff] at h
 obtain ⟨a, _, h⟩ := h
 cases h
abbrev HF (M : MSl) (n k : Int) (st hold bad : Sl) (fixed : Int) (next : Sl) (bf ba : Int) : List Value := [M.no.v, M.ini.v, M.nex.v, M.bad.v, M.hol.v, I n, I k, st.v, hold.v, bad.v, I fixed, next.v, I bf, I ba]
abbrev arr (b n : Nat) : Sl := ⟨some ⟨b, 0, none⟩, n, n⟩
def pV (m : aj) (bH bB bN c : Nat) : List (Nat × Blk) :=
 [(bH, .inl ⟨dp (aQ m).hold c (2 ^ (av m.nodes 36 + av m.nodes 35)), 2 ^ (av m.nodes 36 + av m.nodes 35), false⟩),
  (bB, .inl ⟨dp (aQ m).bad c (2 ^ (av m.nodes 36 + av m.nodes 35)), 2 ^ (av m.nodes 36 + av m.nodes 35), false⟩),
  (bN, .inl ⟨i8 (aQ m).next c (2 ^ (av m.nodes 36 + av m.nodes 35)), 2 ^ (av m.nodes 36 + av m.nodes 35), false⟩)]
theorem wx (m : aj) (v : List (List Nat)) : decide (JM m v >= 0) = (wc m v).isSome := by
 unfold JM
 cases wc m v with
 | none => rfl
 | some d => simp
theorem xF {g h : Hp} {M : MSl} {m : aj} {st t : Sl} {b7 b103 bx bH bB bN c : Nat} {n k f0 f1 f2 : Int} {z1 z2 z3 : Nat} {R : Value -> Hp -> Prop} (hs : aG g M m) (hm : bU m) (gd : eZ m)
  (f7 : g b7 = some (.inl ⟨ck M, z1, false⟩)) (f103 : g b103 = some (.inl ⟨[.pointer (some ⟨bx, 0, none⟩)], z2, false⟩))
  (fx : g bx = some (.inl ⟨HF M n k st (arr bH (2 ^ (av m.nodes 36 + av m.nodes 35))) (arr bB (2 ^ (av m.nodes 36 + av m.nodes 35))) f0 (arr bN (2 ^ (av m.nodes 36 + av m.nodes 35))) f1 f2, z3, false⟩))
  (hst : IntS g st (VL (stP m))) (hc : c < 2 ^ (av m.nodes 36 + av m.nodes 35)) (K : Kn g h (pV m bH bB bN c))
  (hpv : jq h t (fQ m (c % 2 ^ av m.nodes 36) (c / 2 ^ av m.nodes 36)))
  (kk : ∀ h', Kn (h.wo [bH, bB, bN]) h' (pV m bH bB bN (c + 1)) -> R (.tuple #[]) h') :
  nq #[I c, t.v, .pointer (some ⟨b7, 0, none⟩), .pointer (some ⟨b103, 0, none⟩)] h R := by
 apply u0
 refine uf_ ?_
 have a : yQ m (fQ m (c % 2 ^ av m.nodes 36) (c / 2 ^ av m.nodes 36)) := uy gd _ _
 have hp13 := I6 gd
 have hv1 : (aQ m).hold c = ui m (fQ m (c % 2 ^ av m.nodes 36) (c / 2 ^ av m.nodes 36)) := rfl
 have hv2 : (aQ m).bad c = (wc m (fQ m (c % 2 ^ av m.nodes 36) (c / 2 ^ av m.nodes 36))).isSome := rfl
 have hv3 : (aQ m).next c = dR m.nodes (stP m) (fP m (fQ m (c % 2 ^ av m.nodes 36) (c / 2 ^ av m.nodes 36))) := rfl
 generalize hv : fQ m (c % 2 ^ av m.nodes 36) (c / 2 ^ av m.nodes 36) = v at *
 generalize hN : 2 ^ (av m.nodes 36 + av m.nodes 35) = N at *
 have lg : g.le (h.wo [bH, bB, bN]) := K.leBase
 have K0 : Kn (h.wo [bH, bB, bN]) h (pV m bH bB bN c) := K.base
 unfold pV at K0 kk
 rw [hN] at K0 kk
 clear K
 have hs' := hs.mono lg
 have f7' := lg _ _ f7
 have f103' := lg _ _ f103
 have fx' := lg _ _ fx
 have hst' := hst.mono lg
 have x7 := bL f7'
 have x103 := bL f103'
 have xx := bL fx'
 generalize h.wo [bH, bB, bN] = g1 at *
 clear lg fx f103 f7 hst hs
 repeat' (refine kr_ ?_)
 refine KT (hs'.mono K0.le) gd hpv a ⟨_, rfl, ?_⟩
 repeat' (refine kr_ ?_)
 refine ⟨by omega, by dsimp only; omega, ?_⟩
 (((with_reducible apply Kn.wr); (assumption); ((focus ((repeat first | exact .head | apply Upd.tail); done)))))
 ·rw [pQ]; omega
 intro h24 K1 kp1
 have hpv1 := hpv.keep (K0.at (.head _)) (zO _ _ _) (Cu _ _ _) kp1
 rw [<- hv1, bk, Nat.zero_add, Int.toNat_natCast, Nat.mul_one, pI hc] at K1
 repeat' (refine kr_ ?_)
 refine Oj (hs'.mono K1.le) gd hpv1 a ⟨_, rfl, ?_⟩
 repeat' (refine kr_ ?_)
 refine ⟨by omega, by dsimp only; omega, ?_⟩
 (((with_reducible apply Kn.wr); (assumption); ((focus ((repeat first | exact .head | apply Upd.tail); done)))))
 ·rw [pQ]; omega
 intro h42 K2 kp2
 have hpv2 := hpv1.keep (K1.at (.tail _ (.head _))) (zO _ _ _) (Cu _ _ _) kp2
 rw [wx, <- hv2, bk, Nat.zero_add, Int.toNat_natCast, Nat.mul_one, pI hc] at K2
 repeat' (refine kr_ ?_)
 refine HQ (hs'.mono K2.le) hm gd hpv2 a fun out h63 l63 hout => ⟨out, rfl, ?_⟩
 have K3 := K2.mono l63
 repeat' (refine kr_ ?_)
 refine FC (hs'.mono K3.le) hm gd.ok (hst'.mono K3.le) (ed gd 36) (nw gd 36) hout (wB gd a.fit) (by rw [hG gd]; have := gd.n8; omega) ⟨_, rfl, ?_⟩
 repeat' (refine kr_ ?_)
 refine ⟨by omega, by dsimp only; omega, ?_⟩
 (((with_reducible apply Kn.wr); (assumption); ((focus ((repeat first | exact .head | apply Upd.tail); done)))))
 ·rw [JO]; omega
 intro h72 K4 kp4
 rw [<- hv3, bk, Nat.zero_add, Int.toNat_natCast, Nat.mul_one, La hc] at K4
 exact kk h72 K4
def wd (h : Hp) (t : Sl) (n : Nat) (f : Nat -> Nat) : Prop := IntS h t (VL ((List.range n).map f))
theorem wd.mono {h h' : Hp} {t : Sl} {n : Nat} {f : Nat -> Nat} (l : h.le h') (e : wd h t n f) : wd h' t n f := SlC.mono l e
def jP (h : Hp) (b : Nat) (σ : ar) : Prop := ∃ (M : MSl) (st hold bad next : Sl), h b = some (.inl ⟨HF M σ.n σ.k st hold bad σ.fixed next σ.bfix σ.bas, 14, false⟩) /\
 cy h hold (2 ^ (σ.n + σ.k)) σ.hold /\ cy h bad (2 ^ (σ.n + σ.k)) σ.bad /\ wd h next (2 ^ (σ.n + σ.k)) σ.next
theorem jP.mono {h h' : Hp} {b : Nat} {σ : ar} (l : h.le h') (e : jP h b σ) : jP h' b σ := by
 obtain ⟨M, st, hold, bad, next, h1, h2, h3, h4⟩ := e
 exact ⟨M, st, hold, bad, next, l _ _ h1, h2.mono l, h3.mono l, h4.mono l⟩
theorem My {g h : Hp} {L : List (Nat × Blk)} {M : MSl} {m : aj} {kind : Int} {R : Value -> Hp -> Prop} (K : Kn g h L) (hs : aG g M m) (hm : bU m) (gd : eZ m)
  (k : ∀ t h' g', Kn g' h' L -> IntS g' t (VL (aM m.nodes kind)) -> g.le g' -> h.le h' -> R (Sl.v t) h') : bR #[aN M, I kind] h R :=
 jZ (hs.mono K.le) hm fun t h' l hn hb => by
  have l' := Hp.le_trans l (aO _ _)
  have K' := K.mono l'
  refine k t h' _ K'.base ?_ K'.leBase l'
  have := gd.nl
  exact (hb.wo l K.has).slc_of (by omega)
def zJ (m : aj) (j p : Nat) : List Nat := ((cm (m.inits.take j) p).map fun k => tu (aD m.nodes p) ((sj m).getD k [])).getD (List.replicate (aD m.nodes p) 0)
theorem Pd (m : aj) (p : Nat) : zJ m m.inits.length p = (jA m p).getD (List.replicate (aD m.nodes p) 0) := by
 unfold zJ jA; rw [List.take_length]
theorem Mc {m : aj} (g : eZ m) {j : Nat} {b : BindP} (hb : m.inits[j]? = some b) (p : Nat) : zJ m (j + 1) p = if b.state = (p : Int) then tu (aD m.nodes p) ((sj m).getD b.node.toNat []) else zJ m j p := by
 unfold zJ
 rw [CM (Ag g.twice).2.1 hb]
 split <;> rfl
theorem Nc (m : aj) {i p : Nat} (h : (stP m)[i]? = some p) : (qs m).getD i [] = zJ m m.inits.length p := by
 rw [Pd]
 unfold qs kw
 rw [List.getD_eq_getElem?_getD, List.getElem?_map, h]; rfl
theorem C3 {m : aj} (g : eZ m) {b : BindP} (hb : b ∈ m.inits) : 0 <= b.node /\ b.node < m.nodes.length /\ 0 < ((sj m).getD b.node.toNat []).length /\ ((sj m).getD b.node.toNat []).length <= 4 /\ 0 <= b.state /\ b.state < m.nodes.length := by
 obtain ⟨q1, q2, q3, q4, _⟩ := Dc (g.ini b hb)
 have q2' := fV.1 q2
 have q1' := fV.1 q1
 have hf := (Dp g).fit b.node.toNat (by omega) (by omega)
 have := (q8 g.ok (show b.node.toNat < m.nodes.length by omega) hf).1
 refine ⟨q2'.1, q2'.2, hf.pos, ?_, q1'.1, q1'.2⟩
 rw [this]; exact eu _ _
set_option maxHeartbeats 4000000 in
theorem dx {h : Hp} {M : MSl} {m : aj} {R : Value -> Hp -> Prop} (hs : aG h M m) (hm : bU m)
  (k0 : ∀ h', h.le h' -> aR m ≠ 0 -> R (.tuple #[.pointer none, .bool false]) h')
  (k1 : aR m = 0 -> eZ m -> ∀ b h', h.le h' -> jP h' b (aQ m) -> R (.tuple #[.pointer (some ⟨b, 0, none⟩), .bool true]) h') : cz #[aN M] h R := by
 apply yK
 refine uf_ ?_
 have K0 := Kn.nil h
 (with_reducible apply Kn.al); (assumption); (intro b7 h1 K1 l1 hb7)
 repeat' (refine kr_ ?_)
 refine ve (hs.mono l1) hm ⟨_, rfl, ad (fun e => k0 h1 l1 (ew e)) (fun e => ?_)⟩
 have hcode := eE e
 have gd := gF hcode
 replace k1 := k1 hcode gd
 clear k0 e hcode l1 hb7 K0
 have hn8 := gd.n8
 have hk5 := gd.k5
 have hp13 := I6 gd
 have hp13' := aU (av m.nodes 36 + av m.nodes 35)
 refine ap (fun J => ∀ (bp bx : Nat) (h' g' : Hp) (t : Sl) (L0 : List (Nat × Blk)), Kn g' h' L0 -> (bp, .inl ⟨[.pointer (some ⟨bx, 0, none⟩)], 1, false⟩) ∈ L0 ->
  (bx, .inl ⟨HF M (av m.nodes 36) (av m.nodes 35) t ⟨none, 0, 0⟩ ⟨none, 0, 0⟩ 0 ⟨none, 0, 0⟩ 0 0, 14, false⟩) ∈ L0 -> (b7, .inl ⟨ck M, 5, false⟩) ∈ L0 -> h.le g' -> IntS g' t (VL (stP m)) -> J bp 0 h') ?_ (fun J hJ => ?_)
 rotate_left
 ·repeat' (first
   | (refine kr_ ?_)
   | (refine i9 (hs.mono (Kn.le (by assumption))) hm ⟨_, rfl, ?_⟩)
   | (refine My (by assumption) hs hm gd fun _ _ _ _ _ _ _ => ⟨_, rfl, ?_⟩)
   | ((with_reducible apply Kn.al); (assumption); (intro _ _ _ _ _))
   | ((((with_reducible apply Kn.wr); (assumption); ((focus ((repeat first | exact .head | apply Upd.tail); done))))); (exact Nat.le_refl _); (intro _ _ _))
   | ((with_reducible apply hJ) <;> first | assumption | ((focus ((repeat first | exact .head _ | apply List.Mem.tail); done))))
   | (refine And.intro ?_ ?_))
 intro bp bx h2 g2 st L0 K2' mp mx m7 l2 hst
 have K2 : Kn g2 h2 [(bp, .inl ⟨[.pointer (some ⟨bx, 0, none⟩)], 1, false⟩), (bx, .inl ⟨HF M (av m.nodes 36) (av m.nodes 35) st ⟨none, 0, 0⟩ ⟨none, 0, 0⟩ 0 ⟨none, 0, 0⟩ 0 0, 14, false⟩), (b7, .inl ⟨ck M, 5, false⟩)] := by
  refine K2'.sub (fun e he => ?_) ?_
  ·simp only [List.mem_cons, List.not_mem_nil, or_false] at he
   rcases he with rfl | rfl | rfl <;> assumption
  ·have n1 := du (K2'.at mp) (K2'.at mx) (by simp)
   have n2 := du (K2'.at mp) (K2'.at m7) (by simp)
   have n3 := du (K2'.at mx) (K2'.at m7) (by simp)
   simp [n1, n2, n3]
 clear K2' mp mx m7 L0 K1
 have hs2 := hs.mono l2
 repeat' (refine kr_ ?_)
 rw [cc (n := ((av m.nodes 36 : Nat) : Int) + ((av m.nodes 35 : Nat) : Int)) (by omega) (by omega), if_neg (by omega), <- Int.natCast_add, cu (by omega)]
 generalize hN : 2 ^ (av m.nodes 36 + av m.nodes 35) = N at *
 have tN : Int.toNat (N : Int) = N := Int.toNat_natCast N
 have nN : N * 1 = N := Nat.mul_one N
 have zB : aA #[.bool false] N = dp (aQ m).hold 0 N := by rw [bM, hY]
 have zI : aA #[I 0] N = i8 (aQ m).next 0 N := by rw [bM, zP]
 simp only [tN, nN, zB, zI]
 clear tN nN zB zI
 refine ap (fun J => ∀ (bH bB bN : Nat) (h' : Hp) (L0 : List (Nat × Blk)), Kn g2 h' L0 -> (bp, .inl ⟨[.pointer (some ⟨bx, 0, none⟩)], 1, false⟩) ∈ L0 ->
  (bx, .inl ⟨HF M (av m.nodes 36) (av m.nodes 35) st (arr bH N) (arr bB N) 0 (arr bN N) 0 0, 14, false⟩) ∈ L0 -> (b7, .inl ⟨ck M, 5, false⟩) ∈ L0 ->
  (bH, .inl ⟨dp (aQ m).hold 0 N, N, false⟩) ∈ L0 -> (bB, .inl ⟨dp (aQ m).hold 0 N, N, false⟩) ∈ L0 -> (bN, .inl ⟨i8 (aQ m).next 0 N, N, false⟩) ∈ L0 -> (bH ≠ bB /\ bH ≠ bN /\ bB ≠ bN) -> J h') ?_ (fun J hJ => ?_)
 rotate_left
 ·repeat' (first
   | (refine kr_ ?_)
   | ((with_reducible apply Kn.al); (assumption); (intro _ _ _ _ _))
   | (refine And.intro (by omega) ?_)
   | ((((with_reducible apply Kn.wr); (assumption); ((focus ((repeat first | exact .head | apply Upd.tail); done))))); (exact of_decide_eq_true rfl); (intro _ _ _))
   | ((with_reducible apply hJ) <;> first | assumption | ((focus ((repeat first | exact .head _ | apply List.Mem.tail); done))) | ((have hnd := Kn.nd (by assumption); simp only [List.map_cons, List.map_nil, List.nodup_cons, List.mem_cons, List.not_mem_nil, not_or, or_false, not_false_eq_true, and_true, List.nodup_nil] at hnd; omega)))
   | (refine And.intro ?_ ?_))
 intro bH bB bN h3 L0 K3' mp mx m7 mH mB mN hne
 have e0 : dp (aQ m).hold 0 N = dp (aQ m).bad 0 N := by rw [<- hY, <- hY]
 rw [e0] at mB
 have n1 := du (K3'.at mp) (K3'.at mx) (by simp)
 have n2 := du (K3'.at mp) (K3'.at m7) (by simp)
 have n3 := du (K3'.at mx) (K3'.at m7) (by simp)
 have hb1 : ∀ b ∈ [bH, bB, bN], g2 b = none := by
  intro b hb
  simp only [List.mem_cons, List.not_mem_nil, or_false] at hb
  rcases hb with rfl | rfl | rfl
  ·exact K3'.new _ mH
  ·exact K3'.new _ mB
  ·exact K3'.new _ mN
 have h0b : (dp (aQ m).hold 0 N)[0]? = some (.bool false) := by rw [<- hY, List.getElem?_replicate, if_pos hp13']
 have h0b2 : (dp (aQ m).bad 0 N)[0]? = some (.bool false) := by rw [<- hY, List.getElem?_replicate, if_pos hp13']
 have h0n : (i8 (aQ m).next 0 N)[0]? = some (I 0) := by rw [<- zP, List.getElem?_replicate, if_pos hp13']
 have dif : ∀ {b c : Nat} {cs ds : List Value} {z y : Nat} {v w : Value}, (b, .inl ⟨cs, z, false⟩) ∈ L0 -> (c, .inl ⟨ds, y, false⟩) ∈ L0 -> cs[0]? = some v -> ds[0]? = some w -> v ≠ w -> b ≠ c := by
  intro b c cs ds z y v w hb hc e1 e2 hvw hbc
  subst hbc
  have := (K3'.at hb).symm.trans (K3'.at hc)
  simp only [Option.some.injEq, Sum.inl.injEq, Row.mk.injEq] at this
  rw [this.1, e2] at e1
  exact hvw (Option.some.inj e1).symm
 have K3 : Kn g2 h3 (pV m bH bB bN 0 ++ [(bp, .inl ⟨[.pointer (some ⟨bx, 0, none⟩)], 1, false⟩), (bx, .inl ⟨HF M (av m.nodes 36) (av m.nodes 35) st (arr bH N) (arr bB N) 0 (arr bN N) 0 0, 14, false⟩), (b7, .inl ⟨ck M, 5, false⟩)]) := by
  refine K3'.sub (fun e he => ?_) ?_
  ·simp only [pV, hN, List.mem_append, List.mem_cons, List.not_mem_nil, or_false] at he
   rcases he with (rfl | rfl | rfl) | rfl | rfl | rfl <;> assumption
  ·have a1 := dif mH mp h0b rfl (by simp)
   have a2 := dif mH mx h0b rfl (by simp)
   have a3 := dif mH m7 h0b rfl (by simp)
   have a4 := dif mB mp h0b2 rfl (by simp)
   have a5 := dif mB mx h0b2 rfl (by simp)
   have a6 := dif mB m7 h0b2 rfl (by simp)
   have a7 := dif mN mp h0n rfl (by simp)
   have a8 := dif mN mx h0n rfl (by simp)
   have a9 := dif mN m7 h0n rfl (by simp)
   simp [pV, hne.1, hne.2.1, hne.2.2, n1, n2, n3, a1, a2, a3, a4, a5, a6, a7, a8, a9]
 clear dif h0b h0b2 h0n e0 n1 n2 n3 mp mx m7 mH mB mN K3' L0 K2
 have Kf : Kn g2 h3 (pV m bH bB bN 0) := K3.sub (fun e he => List.mem_append_left _ he) (by simp [pV, hne.1, hne.2.1, hne.2.2])
 have nB : ∀ b ∈ [bp, bx, b7], b ∉ [bH, bB, bN] := by
  have hnd := K3.nd
  simp only [pV, List.cons_append, List.nil_append, List.map_cons, List.map_nil, List.nodup_cons, List.mem_cons, List.not_mem_nil, not_or, or_false, not_false_eq_true, and_true, List.nodup_nil] at hnd
  intro b hb hb2
  simp only [List.mem_cons, List.not_mem_nil, or_false] at hb hb2
  omega
 have f7 : (h3.wo [bH, bB, bN]) b7 = some (.inl ⟨ck M, 5, false⟩) := by
  rw [rh (nB _ (by simp))]; exact K3.at (by simp)
 have fp : (h3.wo [bH, bB, bN]) bp = some (.inl ⟨[.pointer (some ⟨bx, 0, none⟩)], 1, false⟩) := by
  rw [rh (nB _ (by simp))]; exact K3.at (by simp)
 have fx : (h3.wo [bH, bB, bN]) bx = some (.inl ⟨HF M (av m.nodes 36) (av m.nodes 35) st (arr bH N) (arr bB N) 0 (arr bN N) 0 0, 14, false⟩) := by
  rw [rh (nB _ (by simp))]; exact K3.at (by simp)
 have lB : g2.le (h3.wo [bH, bB, bN]) := Kf.leBase
 have hsB := hs2.mono lB
 have hstB := hst.mono lB
 have Kr := Kn.of (mS h3 [bH, bB, bN])
 repeat' (refine kr_ ?_)
 subst hN
 refine Mg (B := [bH, bB, bN]) (st := fun c h' => Kn (h3.wo [bH, bB, bN]) h' (pV m bH bB bN c)) hsB hm gd Kf.has (fun c h1 h2 K l => K.mono l) Kf.base (fun c hc h4 t l4 K hpv R' hR' => ?_) (fun h4 l4 K4 => ⟨rfl, ?_⟩)
 ·exact xF hsB hm gd f7 fp fx hstB hc K hpv fun h5 K5 => hR' h5 ⟨Hp.le_trans K.leBase K5.le, K5.mem, fun e he => by
   have := K5.nd
   exact aw K.leBase (K5.new e he), K5.nd⟩ K5.le
 have K5 : Kn g2 h4 (pV m bH bB bN (2 ^ (av m.nodes 36 + av m.nodes 35)) ++ [(bp, .inl ⟨[.pointer (some ⟨bx, 0, none⟩)], 1, false⟩), (bx, .inl ⟨HF M (av m.nodes 36) (av m.nodes 35) st (arr bH (2 ^ (av m.nodes 36 + av m.nodes 35))) (arr bB (2 ^ (av m.nodes 36 + av m.nodes 35))) 0 (arr bN (2 ^ (av m.nodes 36 + av m.nodes 35))) 0 0, 14, false⟩), (b7, .inl ⟨ck M, 5, false⟩)]) := by
  refine ⟨Hp.le_trans lB l4, fun e he => ?_, fun e he => ?_, K3.nd⟩
  ·rcases List.mem_append.1 he with he | he
   ·exact K4.mem e he
   ·simp only [List.mem_cons, List.not_mem_nil, or_false] at he
    rcases he with rfl | rfl | rfl
    ·exact l4 _ _ fp
    ·exact l4 _ _ fx
    ·exact l4 _ _ f7
  ·rcases List.mem_append.1 he with he | he
   ·have hm : e.1 ∈ [bH, bB, bN] := by
     simp only [pV, List.mem_cons, List.not_mem_nil, or_false] at he
     rcases he with rfl | rfl | rfl <;> simp
    exact hb1 _ hm
   ·exact K3.new e (List.mem_append_right _ he)
 unfold pV at K5
 simp only [List.cons_append, List.nil_append] at K5
 clear K4 Kr hstB hsB lB fx fp f7 nB Kf K3 l4 h3
 have hil := gd.il
 have hxl := gd.xl
 have hin := hs2.inits.len
 have hp36 : (stP m).length <= m.nodes.length := gy m.nodes 36
 have hnl := gd.nl
 have hstn : st.n = (stP m).length := by have := hst.len; rw [bW] at this; exact this
 repeat' (refine kr_ ?_)
 refine tj (hs2.mono K5.le) hm gd (hs2.mono K5.le).nexts (by omega) ⟨_, rfl, ?_⟩
 repeat' (refine kr_ ?_)
 (((with_reducible apply Kn.wr); (assumption); ((focus ((repeat first | exact .head | apply Upd.tail); done)))))
 ·exact of_decide_eq_true rfl
 intro h5 K6 _
 clear K5
 repeat' (refine kr_ ?_)
 refine Gu (hs2.mono K6.le) hm gd fun vt h6 l6 hvn hpv => ⟨vt, rfl, ?_⟩
 have K7 := K6.mono l6
 clear K6 l6
 have hs6 := hs2.mono K7.le
 have hst6 := hst.mono K7.le
 have f7 : h6 b7 = some (.inl ⟨ck M, 5, false⟩) := K7.at (by simp)
 have fp : h6 bp = some (.inl ⟨[.pointer (some ⟨bx, 0, none⟩)], 1, false⟩) := K7.at (by simp)
 repeat' (refine kr_ ?_)
 refine oT hs6 hm hst6 (ed gd 36) (nw gd 36) fun out ts h7 c1 hon => ⟨out, rfl, ?_⟩
 have Kr := Kn.of (Hp.le_trans c1.le (aO _ _))
 repeat' (refine kr_ ?_)
 have aV := Dp gd
 refine aq m.inits.length (fun j vs h' => ∃ ts : List Sl, vs = [.pointer (some ⟨b7, 0, none⟩), .pointer (some ⟨bp, 0, none⟩), vt.v, out.v, M.ini.v, I M.ini.n, I j] /\ h6.le (h'.offS out) /\ Buf h' out 1 (ts.map Sl.v) /\ ts.length = (stP m).length /\
  ∀ (i p : Nat) (t : Sl), (stP m)[i]? = some p -> ts[i]? = some t -> IntS (h'.offS out) t (VL (zJ m j p))) ⟨ts, rfl, c1.le, c1.buf, by rw [c1.len, j9], fun i p t hp ht => ?_⟩ ?_
 ·obtain ⟨b, e1, e2, e3⟩ := c1.row i t ht
  have hz : (cX m.nodes (stP m)).getD i [] = zJ m 0 p := by
   unfold cX zJ
   rw [List.getD_eq_getElem?_getD, List.getElem?_map, hp]; rfl
  have hz4 : ((cX m.nodes (stP m)).getD i []).length <= 4 := by
   unfold cX
   rw [List.getD_eq_getElem?_getD, List.getElem?_map, hp]
   simp only [Option.map_some, Option.getD_some, List.length_replicate]
   exact eu _ _
  rw [hz] at e1 e3 hz4
  rw [e1]
  exact ⟨by dsimp only; omega, by simp [bW], .inr ⟨b, 0, rfl, ax e3⟩⟩
 clear c1 Kr ts h7
 rintro j _ h8 next hj ⟨ts, rfl, l8, hbuf, htl, hts⟩ hnx
 have lo := aO h8 out
 have l68 := Hp.le_trans l8 lo
 refine ⟨_, _, _, _, vt, out, M.ini, _, _, rfl, ?_⟩
 by_cases hlt : j < m.inits.length
 rotate_left
 ·have hje : j = m.inits.length := by omega
  subst hje
  refine ak (by simp; omega) ?_
  have K9 := K7.mono l68
  have hbl : (qs m).length = (stP m).length := by unfold qs kw; rw [List.length_map]
  have iss : IntSS h8 out ((qs m).map VL) := ⟨ts, by rw [List.length_map, hbl]; exact htl, hbuf.slc_of (by rw [hon]; have := nw gd 36; omega), fun i h1 h2 => by
   have hi : i < (stP m).length := by omega
   have hpi : (stP m)[i]? = some (stP m)[i] := List.getElem?_eq_getElem hi
   have := (hts i _ _ hpi (List.getElem?_eq_getElem h1)).mono lo
   rw [<- Nc m hpi] at this
   rw [List.getElem_map]
   rwa [List.getD_eq_getElem?_getD, List.getElem?_eq_getElem (by rw [hbl]; exact hi)] at this⟩
  have hs8 := hs6.mono l68
  clear hbuf hts
  repeat' (refine kr_ ?_)
  refine tj hs8 hm gd hs8.inits (by omega) ⟨_, rfl, ?_⟩
  repeat' (refine kr_ ?_)
  refine FC hs8 hm gd.ok (hst6.mono l68) (ed gd 36) (nw gd 36) iss (FN gd) (by rw [hG gd]; omega) ⟨_, rfl, ?_⟩
  repeat' (refine kr_ ?_)
  (((with_reducible apply Kn.wr); (assumption); ((focus ((repeat first | exact .head | apply Upd.tail); done)))))
  ·exact of_decide_eq_true rfl
  intro h9 K10 _
  repeat' (refine kr_ ?_)
  (((with_reducible apply Kn.wr); (assumption); ((focus ((repeat first | exact .head | apply Upd.tail); done)))))
  ·exact of_decide_eq_true rfl
  intro h10 K11 _
  repeat' (refine kr_ ?_)
  refine k1 bx h10 (Hp.le_trans l2 K11.le) ⟨M, st, arr bH (2 ^ (av m.nodes 36 + av m.nodes 35)), arr bB (2 ^ (av m.nodes 36 + av m.nodes 35)), arr bN (2 ^ (av m.nodes 36 + av m.nodes 35)), K11.at (by ((focus ((repeat first | exact .head _ | apply List.Mem.tail); done)))), ?_, ?_, ?_⟩
  ·refine ⟨by dsimp only; omega, by simp [aQ], .inr ⟨bH, 0, rfl, ?_⟩⟩
   have := ax (K11.at (.head _))
   rwa [pR] at this
  ·refine ⟨by dsimp only; omega, by simp [aQ], .inr ⟨bB, 0, rfl, ?_⟩⟩
   have := ax (K11.at (.tail _ (.head _)))
   rwa [pR] at this
  ·refine ⟨by dsimp only; omega, by simp [aQ, VL], .inr ⟨bN, 0, rfl, ?_⟩⟩
   have := ax (K11.at (.tail _ (.tail _ (.head _))))
   rwa [Jp] at this
 refine aH (by simp; omega) ?_
 obtain ⟨bd, hbd⟩ : ∃ bd, m.inits[j]? = some bd := ⟨_, List.getElem?_eq_getElem hlt⟩
 obtain ⟨v1, v2, v3, v4, s1, s2⟩ := C3 gd (List.mem_of_getElem? hbd)
 obtain ⟨bi, oi, hai, cx1, cx2⟩ := (hs6.mono l68).inits.at hbd
 refine ⟨bi, oi, hai, by omega, by omega, _, cx1, _, cx2, ?_⟩
 refine ae fun b48 h9 hb48 l9 f48' => ?_
 (with_reducible apply bD); (exact f48'); (exact l9); (exact hb48); (exact Nat.le_refl 2)
 intro h10 f48 kp l10
 have l10o := bJ out l10
 have f48o := hbuf.offS_new hb48 f48
 clear f48' kp l9
 have Kr := Kn.of (Hp.le_trans l68 l10)
 have fx6 := K7.at (b := bx) (.tail _ (.tail _ (.tail _ (.tail _ (.head _)))))
 repeat' (refine kr_ ?_)
 refine aq (stP m).length (fun q vs h' => ∃ ts : List Sl, vs = [.pointer (some ⟨b7, 0, none⟩), .pointer (some ⟨bp, 0, none⟩), vt.v, out.v, .pointer (some ⟨b48, 0, none⟩), M.ini.v, I M.ini.n, I j, st.v, I st.n, I q] /\ h6.le (h'.offS out) /\ (h'.offS out) b48 = some (.inl ⟨[I bd.state, I bd.node], 2, false⟩) /\ Buf h' out 1 (ts.map Sl.v) /\ ts.length = (stP m).length /\
  ∀ (i p : Nat) (t : Sl), (stP m)[i]? = some p -> ts[i]? = some t -> IntS (h'.offS out) t (VL (if i < q then zJ m (j + 1) p else zJ m j p)))
  ⟨ts, rfl, Hp.le_trans l8 l10o, f48o, hbuf.mono l10, htl, fun i p t hp ht => by rw [if_neg (by omega)]; exact (hts i p t hp ht).mono l10o⟩ ?_
 clear Kr f48o l10o l10 f48 hb48 hbuf htl hts ts l68 lo l8 hai cx1 cx2 h9 h8 h10
 rintro q _ h8 next2 hq ⟨ts, rfl, l8, f48, hbuf, htl, hts⟩ hnx2
 have lo := aO h8 out
 have l68 := Hp.le_trans l8 lo
 have g48 := lo _ _ f48
 refine ⟨_, _, _, _, vt, out, _, _, _, _, _, st, _, _, rfl, ?_⟩
 by_cases hlq : q < (stP m).length
 rotate_left
 ·refine ak (by simp; omega) ?_
  rw [az (by omega)]
  refine hnx hlt _ _ ⟨ts, rfl, l8, hbuf, htl, fun i p t hp ht => ?_⟩
  have := hts i p t hp ht
  rwa [if_pos (by have := get_lt hp; omega)] at this
 refine aH (by simp; omega) ?_
 obtain ⟨p, hpq⟩ : ∃ p, (stP m)[q]? = some p := ⟨_, List.getElem?_eq_getElem hlq⟩
 have hpm := ed gd 36 p (List.mem_of_getElem? hpq)
 obtain ⟨bq, oq, hap, hcp⟩ := (hst6.mono l68).get (gk hpq)
 refine ap (fun J => ∀ (ts' : List Sl) (h' : Hp), h6.le (h'.offS out) -> (h'.offS out) b48 = some (.inl ⟨[I bd.state, I bd.node], 2, false⟩) -> Buf h' out 1 (ts'.map Sl.v) -> ts'.length = (stP m).length ->
  (∀ (i p : Nat) (t : Sl), (stP m)[i]? = some p -> ts'[i]? = some t -> IntS (h'.offS out) t (VL (if i < q + 1 then zJ m (j + 1) p else zJ m j p))) -> J h') ?_ (fun J hJ => ?_)
 ·intro ts' h' a1 a2 a3 a4 a5
  rw [az (by omega)]
  exact hnx2 hlq _ _ ⟨ts', rfl, a1, a2, a3, a4, a5⟩
 refine ⟨bq, oq, hap, by omega, by omega, _, hcp, ?_⟩
 (refine am ?_)
 have hst' := Mc gd hbd p
 refine ad (fun e => ?_) (fun e => ?_)
 ·rw [if_pos (bz e).symm] at hst'
  have f78 := l68 _ _ f7
  (refine am ?_)
  obtain ⟨bn, on, han, hpn', c6, c7, w1, w16⟩ := (hs6.mono l68).nodes.sortc2 hpm gd.ok
  refine ⟨bn, on, han, by omega, hpn', _, c6, _, c7, ?_⟩
  (refine am ?_)
  obtain ⟨bv, ov, t, hav, hvn', hcv, ht⟩ := (hpv.mono l68).at v1 (by rw [aV.len]; exact v2)
  refine ⟨bv, ov, hav, v1, hvn', t, hcv, ?_⟩
  refine Hr ht v3 v4 fun t2 h9 l9 ht2 => ⟨t2, rfl, ?_⟩
  rw [w6 gd.ok hpm] at ht2
  have l9o := bJ out l9
  have hbuf9 := hbuf.mono l9
  refine hbuf9.wr (x := t2) (by omega) fun h10 hbuf' ho => ?_
  refine hJ _ h10 (by rw [ho]; exact Hp.le_trans l8 l9o) (by rw [ho]; exact l9o _ _ f48) hbuf' (by rw [List.length_set]; exact htl) fun i p' u hp' hu => ?_
  rw [ho]
  by_cases hiq : i = q
  ·subst hiq
   rw [hpq] at hp'; cases hp'
   rw [List.getElem?_set_self (by omega)] at hu
   obtain rfl := Option.some.inj hu
   rw [if_pos (by omega), hst']
   exact ht2.offL hbuf9
  ·rw [List.getElem?_set_ne (fun e => hiq e.symm)] at hu
   have := (hts i p' u hp' hu).mono l9o
   by_cases h1 : i < q
   ·rw [if_pos h1] at this; rw [if_pos (by omega)]; exact this
   ·rw [if_neg h1] at this; rw [if_neg (by omega)]; exact this
 ·rw [if_neg (fun e' => aK e e'.symm)] at hst'
  refine hJ ts h8 l8 f48 hbuf htl fun i p' u hp' hu => ?_
  have := hts i p' u hp' hu
  by_cases hiq : i = q
  ·subst hiq
   rw [hpq] at hp'; cases hp'
   rw [if_neg (by omega)] at this
   rw [if_pos (by omega), hst']; exact this
  ·by_cases h1 : i < q
   ·rw [if_pos h1] at this; rw [if_pos (by omega)]; exact this
   ·rw [if_neg h1] at this; rw [if_neg (by omega)]; exact this
theorem dS {h h1 h2 h3 : Hp} {b : Nat} {x : Blk} (l : h.le h1) (hb : h1 b = some x) (kp : ∀ c, c ≠ b -> h3 c = h2 c) : (h2.sub h1).le (h3.sub h) := by
 intro c y e
 have hc : c ≠ b := by rintro rfl; rw [jW hb] at e; cases e
 have h1c : h1 c = none := by
  cases hx : h1 c with
  | none => rfl
  | some z => rw [jW hx] at e; cases e
 rw [jB (aw l h1c), kp c hc]
 rw [jB h1c] at e
 exact e
theorem cy.get {h : Hp} {t : Sl} {n : Nat} {T : Nat -> Bool} (e : cy h t n T) {i : Nat} (hi : i < n) : ∃ b o, t.a = some (Addr.mk b o none) /\ (i : Int) < (t.n : Int) /\ Hp.cell h b (o + Int.toNat (i : Int) * 1) = some (.bool (T i)) := by
 have hl := np.len e
 rw [List.length_map, List.length_range] at hl
 obtain ⟨b, o, ha, hc⟩ := SlC.get e (by omega)
 refine ⟨b, o, ha, by omega, ?_⟩
 rw [Int.toNat_natCast, Nat.mul_one]
 exact hc i _ (by simp [hi])
theorem cy.len {h : Hp} {t : Sl} {n : Nat} {T : Nat -> Bool} (e : cy h t n T) : t.n = n := by
 have hl := np.len e
 rwa [List.length_map, List.length_range] at hl
theorem wd.get {h : Hp} {t : Sl} {n : Nat} {f : Nat -> Nat} (e : wd h t n f) {i : Nat} (hi : i < n) : ∃ b o, t.a = some (Addr.mk b o none) /\ (i : Int) < (t.n : Int) /\ Hp.cell h b (o + Int.toNat (i : Int) * 1) = some (I (f i : Nat)) := by
 have hl := IntS.len e
 rw [bW, List.length_map, List.length_range] at hl
 obtain ⟨b, o, ha, hc⟩ := SlC.get e (by omega)
 refine ⟨b, o, ha, by omega, ?_⟩
 rw [Int.toNat_natCast, Nat.mul_one]
 exact hc i _ (by simp [VL, hi])
def pH (B : Bd) (s : Sl) : Value := .tuple #[.agg #[I B.v, s.v, I B.r], .bool B.ok]
theorem qx {h : Hp} {t : Sl} {n : Nat} {f : Nat -> Bool} {R : Value -> Hp -> Prop} (hn : n <= 13) (ht : vM h t n f)
  (k : ∀ s h', h.le h' -> Own (h'.sub h) s 3 (aX (da n f).ns) -> R (pH (da n f) s) h') : dw #[t.v] h R := by
 have e : da (n : Int) f = match qW n f with | none => gO | some r => ⟨n, r.2, r.1, true⟩ := by
  unfold da; rw [if_pos (by omega), Int.toNat_natCast]; cases qW n f <;> rfl
 refine GH hn ht (fun h0 => ?_) (fun r hr s h' l o => ?_)
 ·have := k ⟨none, 0, 0⟩ h (Hp.le_refl _)
  rw [e, h0] at this
  exact this (fL _ _)
 ·have := k s h' l
  rw [e, hr] at this
  exact this o
theorem xH {h : Hp} {b : Nat} {σ : ar} {fid : FuncId} {u w : Array Value} {f : Nat -> Bool} {R : Value -> Hp -> Prop} (hs : jP h b σ) (ok : σ.Ok) (hf : y9 h fid u w (2 ^ σ.n) f)
  (k : ∀ s h', h.le h' -> Own (h'.sub h) s 3 (aX (da σ.n f).ns) -> R (pH (da σ.n f) s) h') : ff #[.pointer (some ⟨b, 0, none⟩), .func (.func fid) u w] h R := by
 apply wV
 refine uf_ ?_
 have h8 := ok.nle
 obtain ⟨M, st, hold, bad, next, fx, _, _, _⟩ := hs
 refine ae fun b6 h1 hb6 l1 f6 => ?_
 refine cB ?_
 replace fx := l1 _ _ fx
 (refine am ?_)
 refine qA (by omega) (fun i hi h' l R k => hf i hi h' (Hp.le_trans l1 l) R k) fun t h2 l2 ht => ⟨t, rfl, ?_⟩
 refine qx (by omega) (ht.mono (sub_le _ _)) fun s h3 l3 o3 => ⟨_, _, _, _, rfl, ?_⟩
 have l12 := Hp.le_trans l2 l3
 have f62 := l2 _ _ f6
 (with_reducible apply bD); (exact l3 _ _ f62); (exact Hp.le_trans l1 l12); (exact hb6); (exact Nat.le_refl 3)
 intro h4 f4 kp l4
 refine ⟨_, by rw [af f4]; rfl, _, by rw [af f4]; rfl, _, by rw [af f4]; rfl, ?_⟩
 exact k s h4 l4 (o3.mono (dS (Hp.le_trans l1 l2) f62 kp))
theorem IntS.up {h h' : Hp} {s : Sl} {xs : List Int} (e : IntS h s xs) (l : h.le h') : IntS h' s xs := e.mono l
theorem IntSS.up {h h' : Hp} {s : Sl} {xs : List (List Int)} (e : IntSS h s xs) (l : h.le h') : IntSS h' s xs := e.mono l
theorem aG.up {h h' : Hp} {M : MSl} {m : aj} (e : aG h M m) (l : h.le h') : aG h' M m := e.mono l
theorem kpU {h0 h h' : Hp} {b : Nat} {x : Blk} {P : Prop} (f : h0 b = some x) (l1 : h0.le h') (l2 : h0.le h) (k : P) : h' b = h b /\ P := ⟨by rw [l1 _ _ f, l2 _ _ f], k⟩
theorem kpN {h0 h h' : Hp} {b : Nat} {P : Prop} (f : h0 b ≠ none) (l1 : h0.le h') (l2 : h0.le h) (k : P) : h' b = h b /\ P := by
 refine ⟨?_, k⟩
 cases hb : h0 b with
 | none => exact absurd hb f
 | some x => rw [l1 _ _ hb, l2 _ _ hb]
theorem rdU {α : Type} {f : α -> Value} {h0 h : Hp} {b z o : Nat} {cs : List Value} {ro : Bool} {x : α} {P : α -> Prop} (e : h0 b = some (.inl ⟨cs, z, ro⟩)) (l : h0.le h) (c : cs[o]? = some (f x)) (k : P x) : ∃ y : α, Hp.cell h b o = some (f y) /\ P y := ⟨x, by rw [af (l _ _ e)]; exact c, k⟩
theorem ku_ {P Q : Prop} (k : Q) (h : Q -> P := by (first
 | ((with_reducible apply rdU); (assumption); ((focus ((repeat (first | exact Hp.le_refl _ | assumption | (refine Hp.le_trans ?_ (by assumption)))); done))); (exact rfl))
 | with_reducible exact And.intro (Eq.refl _)
 | with_reducible exact And.intro True.intro
 | with_reducible exact cB
 | ((with_reducible apply kpU); (assumption); ((focus ((repeat (first | exact Hp.le_refl _ | assumption | (refine Hp.le_trans ?_ (by assumption)))); done))); ((focus ((repeat (first | exact Hp.le_refl _ | assumption | (refine Hp.le_trans ?_ (by assumption)))); done))))
 | ((with_reducible apply kpN); (assumption); ((focus ((repeat (first | exact Hp.le_refl _ | assumption | (refine Hp.le_trans ?_ (by assumption)))); done))); ((focus ((repeat (first | exact Hp.le_refl _ | assumption | (refine Hp.le_trans ?_ (by assumption)))); done))))
 | fail)) : P := h k
set_option maxHeartbeats 2000000 in
theorem vz {h : Hp} {M : MSl} {m : aj} {c : Nat} {R : Value -> Hp -> Prop} (hs : aG h M m) (hm : bU m) (g : eZ m) (hc : c < 2 ^ (av m.nodes 36 + av m.nodes 35))
  (k : ∀ t h', h.le h' -> t.n = m.nodes.length -> jq h' t (fQ m (c % 2 ^ av m.nodes 36) (c / 2 ^ av m.nodes 36)) -> Um h t -> R (Sl.v t) h') : iq #[aN M, I c] h R := by
 apply AF
 refine uf_ ?_
 have hn8 := g.n8
 have hk5 := g.k5
 have hp13 := I6 g
 have hp8 := Uz g
 have h1' : c % 2 ^ av m.nodes 36 <= c := Nat.mod_le _ _
 have h2' : c / 2 ^ av m.nodes 36 <= c := Nat.div_le_self _ _
 have hpp := aU (av m.nodes 36)
 have hs36 : ce m.nodes (aM m.nodes 36) <= 60 := by have := hG g; show ce m.nodes (stP m) <= 60; omega
 have hs35 : ce m.nodes (aM m.nodes 35) <= 60 := by have := LG g; show ce m.nodes (inP m) <= 60; omega
 have hshr : lr (c : Int) ((av m.nodes 36 : Nat) : Int) = ((c / 2 ^ av m.nodes 36 : Nat) : Int) := jh (by omega)
 have hmod : Int.tmod (c : Int) (((2 ^ av m.nodes 36 : Nat)) : Int) = ((c % 2 ^ av m.nodes 36 : Nat) : Int) := eR _ _
 have hwu : IntKind.wrap .u64 ((av m.nodes 36 : Nat) : Int) = (av m.nodes 36 : Nat) := dl (by omega)
 have hsh1 : ai 1 ((av m.nodes 36 : Nat) : Int) = ((2 ^ av m.nodes 36 : Nat) : Int) := cu (by omega)
 refine ae fun b8 h1 hb8 l1 f8 => ?_
 clear hb8
 repeat' (refine ku_ ?_)
 refine jp (hs.mono l1) hm ⟨_, rfl, ?_⟩
 simp only [hwu, hsh1, hshr, hmod]
 repeat' (first
  | (refine ku_ ?_)
  | (rw [if_neg (by omega)])
  | (refine fy (hs.up (by ((focus ((repeat (first | exact Hp.le_refl _ | assumption | (refine Hp.le_trans ?_ (by assumption)))); done))))) hm fun _ _ _ _ => ⟨_, rfl, ?_⟩)
  | (refine iH (hs.up (by ((focus ((repeat (first | exact Hp.le_refl _ | assumption | (refine Hp.le_trans ?_ (by assumption)))); done))))) hm g.ok (IntS.up (by assumption) (by ((focus ((repeat (first | exact Hp.le_refl _ | assumption | (refine Hp.le_trans ?_ (by assumption)))); done))))) (ed g 36) (nw g 36) (by omega) hs36 fun _ _ _ _ => ⟨_, rfl, ?_⟩)
  | (refine iH (hs.up (by ((focus ((repeat (first | exact Hp.le_refl _ | assumption | (refine Hp.le_trans ?_ (by assumption)))); done))))) hm g.ok (IntS.up (by assumption) (by ((focus ((repeat (first | exact Hp.le_refl _ | assumption | (refine Hp.le_trans ?_ (by assumption)))); done))))) (ed g 35) (nw g 35) (by omega) hs35 fun _ _ _ _ => ⟨_, rfl, ?_⟩)
  | (refine vV (hs.up (by ((focus ((repeat (first | exact Hp.le_refl _ | assumption | (refine Hp.le_trans ?_ (by assumption)))); done))))) hm g.ok g.nl (IntSS.up (by assumption) (by ((focus ((repeat (first | exact Hp.le_refl _ | assumption | (refine Hp.le_trans ?_ (by assumption)))); done))))) (zh 36 (c % 2 ^ av m.nodes 36) g) (IntSS.up (by assumption) (by ((focus ((repeat (first | exact Hp.le_refl _ | assumption | (refine Hp.le_trans ?_ (by assumption)))); done))))) (zh 35 (c / 2 ^ av m.nodes 36) g) fun t h' l hn hpv hw => ⟨_, rfl, k t h' (by ((focus ((repeat (first | exact Hp.le_refl _ | assumption | (refine Hp.le_trans ?_ (by assumption)))); done)))) hn hpv fun b o hb => aw (by ((focus ((repeat (first | exact Hp.le_refl _ | assumption | (refine Hp.le_trans ?_ (by assumption)))); done)))) (hw b o hb)⟩)
  | (refine And.intro ?_ ?_))
def lV (ps : List Nat) (f : Nat -> Option (List Nat)) (vs : List (List Nat)) (n : Nat) : Bool := (List.range n).all fun i => match ps[i]? with
 | some p => (match f p with | some v => decide (vs.getD i [] = v) | none => true)
 | none => true
theorem Iq {ps : List Nat} {f : Nat -> Option (List Nat)} {vs : List (List Nat)} {i p : Nat} (h : ps[i]? = some p) : lV ps f vs (i + 1) = (lV ps f vs i && (match f p with | some v => decide (vs.getD i [] = v) | none => true)) := by
 unfold lV
 rw [List.range_succ, List.all_append]
 simp only [List.all_cons, List.all_nil, Bool.and_true, h]
theorem DN {ps : List Nat} {f : Nat -> Option (List Nat)} {vs : List (List Nat)} : lV ps f vs ps.length = true ↔ ∀ (i p : Nat), ps[i]? = some p -> ∀ v, f p = some v -> vs.getD i [] = v := by
 unfold lV
 rw [List.all_eq_true]
 constructor
 ·intro h i p hp v hv
  have := h i (List.mem_range.2 (get_lt hp))
  rw [hp] at this
  simp only [hv, decide_eq_true_eq] at this
  exact this
 ·intro h i hi
  cases hp : ps[i]? with
  | none => rfl
  | some p =>
   simp only
   cases hv : f p with
   | none => rfl
   | some v => simpa using h i p hp v hv
theorem Np {ps : List Nat} {f : Nat -> Option (List Nat)} {vs : List (List Nat)} {i : Nat} (hi : i <= ps.length) (h : lV ps f vs i = false) : lV ps f vs ps.length = false := by
 unfold lV at h ⊢
 rw [List.all_eq_false] at h ⊢
 obtain ⟨x, hx, hn⟩ := h
 exact ⟨x, List.mem_range.2 (by have := List.mem_range.1 hx; omega), hn⟩
theorem IA {h : Hp} {M : MSl} {m : aj} {s t : Sl} {ps : List Nat} {vs : List (List Nat)} {R : Value -> Hp -> Prop} (hs : aG h M m) (hm : bU m) (hok : bZ m.nodes = true) (hp : IntS h s (VL ps)) (hps : ∀ p ∈ ps, p < m.nodes.length) (hpl : ps.length <= 1048576)
  (hv : IntSS h t (vs.map VL)) (hf : lp m.nodes ps vs) (k : R (.bool true) h) : qK #[aN M, s.v, t.v] h R := by
 refine ACalls.drop (Ed ?_)
 refine uf_ ?_
 have hn := hs.nodes.len
 have hsn := hp.len
 rw [bW] at hsn
 have htn := hv.len
 rw [List.length_map] at htn
 have hvl := qU hf
 refine ae fun b9 h1 hb9 l1 f9 => ?_
 refine ak (by simp; omega) ?_
 refine aq ps.length (fun i ws h' => h.le h' /\ h' b9 = some (.inl ⟨ck M, 5, false⟩) /\ ws = [s.v, t.v, .pointer (some ⟨b9, 0, none⟩), I i]) ⟨l1, f9, rfl⟩ ?_
 clear f9 l1 hb9 h1
 rintro i _ h1 next hi ⟨l1, f9, rfl⟩ hnx
 refine ⟨s, t, _, _, _, rfl, ?_⟩
 by_cases hlt : i < ps.length
 rotate_left
 ·exact ak (by simp; omega) ⟨_, l1, k⟩
 refine aH (by simp; omega) ?_
 obtain ⟨p, hpi⟩ : ∃ p, ps[i]? = some p := ⟨_, List.getElem?_eq_getElem hlt⟩
 have hpm := hps p (List.mem_of_getElem? hpi)
 obtain ⟨b, o, ha, hc⟩ := (hp.mono l1).get (gk hpi)
 refine ⟨b, o, ha, by omega, by omega, ?_⟩
 (refine am ?_)
 refine ⟨_, hc, ?_⟩
 obtain ⟨bn, on, han, hpn', c6, c7, w1, w16⟩ := (hs.mono l1).nodes.sortc2 hpm hok
 refine ⟨bn, on, han, by omega, hpn', _, c6, _, c7, ?_⟩
 obtain ⟨bt, ot, c, hta, htc, hcv⟩ := (hv.mono l1).getV (i := i) (by omega)
 have xbt := pS htc
 have xbn := pS c6
 have xb := pS hc
 have xb9 := bL f9
 refine ae fun b36 h2 hb36 l2 f36' => ?_
 have n9 := fresh_ne hb36 f9
 have nt := rM hb36 htc
 repeat' (((with_reducible apply iZ); (assumption); (assumption)))
 (with_reducible apply bD); (exact f36'); (exact Hp.le_trans l1 l2); (exact aw l1 hb36); (exact Nat.le_refl 2)
 intro h3 f36 kp l3
 have l13 : h1.le h3 := cF hb36 l2 kp
 have f93 := l13 _ _ f9
 have f36v : h3 b36 = some (.inl ⟨[I (au m.nodes p).idx, I (bX m.nodes p)], 2, false⟩) := f36
 refine ⟨bt, ot, hta, by omega, by omega, c, l13.cell htc, ?_⟩
 repeat' (refine am ?_)
 refine fk ⟨_, rfl, ?_⟩
 rw [w6 hok hpm]
 have hg := pm hf hpi
 have hcn := hcv.len
 rw [bW] at hcn
 have hcl := eu m.nodes p
 repeat' (refine am ?_)
 refine ak (by simp; omega) ?_
 have hcv3 := hcv.mono l13
 refine aq (aD m.nodes p) (fun q ws h' => h' = h3 /\ ws = [s.v, t.v, .pointer (some ⟨b9, 0, none⟩), I i, .pointer (some ⟨b36, 0, none⟩), I q]) ⟨rfl, rfl⟩ ?_
 rintro q _ _ next2 hq ⟨rfl, rfl⟩ hnx2
 rename_i h3
 refine ⟨s, t, _, _, _, _, _, _, rfl, ?_⟩
 refine ⟨bt, ot, hta, by omega, by omega, c, l13.cell htc, ?_⟩
 by_cases hlq : q < aD m.nodes p
 rotate_left
 ·refine ak (by simp; omega) ?_
  rw [az (by omega)]
  exact hnx hlt _ _ ⟨l3, f93, rfl⟩
 refine aH (by simp; omega) ?_
 refine ⟨bt, ot, hta, by omega, by omega, ?_⟩
 (refine am ?_)
 refine ⟨c, l13.cell htc, ?_⟩
 obtain ⟨bc, oc, hca, hcc, hln⟩ := hcv3.elt (i := q) (by omega)
 refine ⟨bc, oc, hca, by omega, by omega, _, hcc, ?_⟩
 have hlt2 : (vs.getD i []).getD q 0 < 2 ^ bX m.nodes p := by
  rw [List.getD_eq_getElem?_getD, List.getElem?_eq_getElem (show q < (vs.getD i []).length by omega)]
  exact hg.2 _ (List.getElem_mem _)
 refine ca ⟨_, rfl, ak ?_ ?_⟩
 ·rw [Bool.not_eq_false', hX]
  refine ⟨by omega, by omega, ?_⟩
  rw [Int.toNat_natCast]; omega
 ·rw [az (by omega)]
  exact hnx2 hlq _ _ ⟨rfl, rfl⟩
theorem uZ {h : Hp} {M : MSl} {m : aj} {t : Sl} {vs : List (List Nat)} {R : Value -> Hp -> Prop} (hs : aG h M m) (hm : bU m) (hc : aR m = 0)
  (hv : IntSS h t (vs.map VL)) (hf : lp m.nodes (stP m) vs) (k : R (.bool true) h) : lP #[aN M, t.v] h R := by
 refine ACalls.drop (zn ?_)
 refine uf_ ?_
 have g := gF hc
 refine ae fun b8 h1 hb8 l1 f8 => ?_
 repeat' (refine ku_ ?_)
 refine ct (hs.up (by ((focus ((repeat (first | exact Hp.le_refl _ | assumption | (refine Hp.le_trans ?_ (by assumption)))); done))))) hm ⟨_, rfl, aH (by rw [hc]; rfl) ?_⟩
 repeat' (refine ku_ ?_)
 refine fy (hs.up (by ((focus ((repeat (first | exact Hp.le_refl _ | assumption | (refine Hp.le_trans ?_ (by assumption)))); done))))) hm fun p h2 l2 i2 => ⟨p, rfl, ?_⟩
 repeat' (refine ku_ ?_)
 exact IA (hs.up (by ((focus ((repeat (first | exact Hp.le_refl _ | assumption | (refine Hp.le_trans ?_ (by assumption)))); done))))) hm g.ok i2 (ed g 36) (nw g 36) (hv.up (by ((focus ((repeat (first | exact Hp.le_refl _ | assumption | (refine Hp.le_trans ?_ (by assumption)))); done))))) hf ⟨_, rfl, h, by ((focus ((repeat (first | exact Hp.le_refl _ | assumption | (refine Hp.le_trans ?_ (by assumption)))); done))), k⟩
theorem JY {m : aj} (g : eZ m) {p k : Nat} (h : cm m.inits p = some k) : k < m.nodes.length /\ 0 < ((sj m).getD k []).length /\ ((sj m).getD k []).length <= 4 := by
 obtain ⟨b, hb, _, rfl⟩ := oJ h
 obtain ⟨v1, v2, v3, v4, _, _⟩ := C3 g hb
 exact ⟨by omega, v3, v4⟩
theorem pq {h : Hp} {M : MSl} {m : aj} {t : Sl} {vs : List (List Nat)} {R : Value -> Hp -> Prop} (hs : aG h M m) (hm : bU m) (hc : aR m = 0)
  (hv : IntSS h t (vs.map VL)) (hf : lp m.nodes (stP m) vs) (k : R (.bool (lV (stP m) (jA m) vs (stP m).length)) h) : j3 #[aN M, t.v] h R := by
 refine ACalls.drop (AI ?_)
 refine uf_ ?_
 have g := gF hc
 have hil := g.il
 have hnl := g.nl
 have hp36 : (stP m).length <= m.nodes.length := gy m.nodes 36
 have htn := hv.len
 rw [List.length_map] at htn
 have hvl := qU hf
 have hbn : ∀ b ∈ m.inits, 0 <= b.node := fun b hb => (C3 g hb).1
 refine ae fun b8 h1 hb8 l1 f8 => ?_
 repeat' (refine ku_ ?_)
 refine uZ (hs.up (by ((focus ((repeat (first | exact Hp.le_refl _ | assumption | (refine Hp.le_trans ?_ (by assumption)))); done))))) hm hc (hv.up (by ((focus ((repeat (first | exact Hp.le_refl _ | assumption | (refine Hp.le_trans ?_ (by assumption)))); done))))) hf ⟨_, rfl, ak rfl ?_⟩
 repeat' (refine ku_ ?_)
 refine Gw (hs.up (by ((focus ((repeat (first | exact Hp.le_refl _ | assumption | (refine Hp.le_trans ?_ (by assumption)))); done))))) hm g fun vt h2 l2 hvn hpv => ⟨vt, rfl, ?_⟩
 repeat' (refine ku_ ?_)
 refine fy (hs.up (by ((focus ((repeat (first | exact Hp.le_refl _ | assumption | (refine Hp.le_trans ?_ (by assumption)))); done))))) hm fun pt h3 l3 ip => ⟨pt, rfl, ?_⟩
 have hpn : pt.n = (stP m).length := by have := ip.len; rw [bW] at this; exact this
 have f83 := l3 _ _ (l2 _ _ f8)
 have hpv3 := hpv.mono l3
 have l03 := Hp.le_trans l1 (Hp.le_trans l2 l3)
 have aV := Dp g
 clear l2 l3 l1 hb8 f8 hpv h2
 refine aq (stP m).length (fun i ws h' => h3.le h' /\ ws = [t.v, .pointer (some ⟨b8, 0, none⟩), vt.v, pt.v, I i] /\ lV (stP m) (jA m) vs i = true) ⟨Hp.le_refl _, rfl, rfl⟩ ?_
 rintro i _ h4 next hi ⟨l4, rfl, hg⟩ hnx
 have l04 := Hp.le_trans l03 l4
 refine ⟨t, _, _, vt, pt, _, rfl, ?_⟩
 by_cases hlt : i < (stP m).length
 rotate_left
 ·have hie : i = (stP m).length := by omega
  subst hie
  refine ak (by simp; omega) ⟨_, l04, dk hg.symm k⟩
 refine aH (by simp; omega) ?_
 obtain ⟨p, hpi⟩ : ∃ p, (stP m)[i]? = some p := ⟨_, List.getElem?_eq_getElem hlt⟩
 have hsucc := Iq (f := jA m) (vs := vs) hpi
 rw [hg, Bool.true_and] at hsucc
 obtain ⟨b, o, ha, hcc⟩ := (ip.mono l4).get (gk hpi)
 refine ⟨b, o, ha, by omega, by omega, ?_⟩
 (refine ku_ ?_)
 refine ⟨_, hcc, ?_⟩
 refine rL (hs.mono l04).inits (by omega) hbn ⟨_, rfl, ?_⟩
 refine ap (fun J => ∀ h', h4.le h' -> J (!lV (stP m) (jA m) vs (i + 1)) h') ?_ (fun J hJ => ?_)
 ·intro h' l'
  refine ad (fun e => ⟨_, Hp.le_trans l04 l', dk ?_ k⟩) (fun e => ?_)
  ·symm; exact Np (i := i + 1) (by omega) (by simpa using e)
  ·rw [az (by omega)]
   exact hnx hlt _ _ ⟨Hp.le_trans l4 l', rfl, by simpa using e⟩
 cases hbo : cm m.inits p with
 | none =>
  rw [show mf m.inits p = -1 from by unfold mf; rw [hbo]]
  refine ak (by simp) ⟨trivial, ?_⟩
  have hn : jA m p = none := by unfold jA; rw [hbo]; rfl
  rw [hn] at hsucc
  have := hJ h4 (Hp.le_refl _)
  rw [hsucc] at this; exact this
 | some q =>
  rw [show mf m.inits p = (q : Int) from by unfold mf; rw [hbo]]
  refine aH (by simp) ?_
  obtain ⟨hq, v3, v4⟩ := JY g hbo
  have hsm : jA m p = some (tu (aD m.nodes p) ((sj m).getD q [])) := by unfold jA; rw [hbo]; rfl
  have hfit := qY g hsm
  have hcl := eu m.nodes p
  have hgv := pm hf hpi
  rw [hsm] at hsucc
  obtain ⟨bt, ot, c, hta, htc, hcv⟩ := (hv.mono l04).getV (i := i) (by omega)
  obtain ⟨bv, ov, u, hua, hun, huc, huv⟩ := (hpv3.mono l4).at (p := (q : Int)) (by omega) (by rw [aV.len]; omega)
  have hcn := hcv.len
  rw [bW] at hcn
  refine ⟨bt, ot, hta, by omega, by omega, bv, ov, hua, by omega, hun, bt, ot, hta, by omega, by omega, c, htc, u, huc, c, htc, ?_⟩
  rw [Int.toNat_natCast] at huv
  rw [hcn, hgv.1]
  have xbt := pS htc
  refine Ih huv v3 v4 hcl fun w h5 l5 hw => ⟨w, rfl, ?_⟩
  repeat' (((with_reducible apply iZ); (assumption); (assumption)))
  refine zY (hcv.mono l5) hw (by rw [bW]; omega) (by rw [bW, bW, hgv.1, hfit.1]; exact Nat.le_refl _) ⟨_, rfl, ?_⟩
  have := hJ h5 l5
  simp only at hsucc
  rw [hsucc] at this
  have e2 : decide (VL (vs.getD i []) = VL (tu (aD m.nodes p) ((sj m).getD q []))) = decide (vs.getD i [] = tu (aD m.nodes p) ((sj m).getD q [])) := by
   rw [Bool.eq_iff_iff, decide_eq_true_eq, decide_eq_true_eq, Kb]
  rw [e2]; exact this
section
variable {g h h' : Hp} {L L' A B X : List (Nat × Blk)}
theorem Kn.app (K : Kn g h L) (l : h.le h') (n : ∀ e ∈ X, h e.1 = none) (f : ∀ e ∈ X, h' e.1 = some e.2) (nd : (X.map Prod.fst).Nodup) : Kn g h' (L ++ X) := by
 refine ⟨Hp.le_trans K.le l, fun e he => ?_, fun e he => ?_, ?_⟩
 ·rcases List.mem_append.1 he with he | he
  ·exact l _ _ (K.mem e he)
  ·exact f e he
 ·rcases List.mem_append.1 he with he | he
  ·exact K.new e he
  ·exact aw K.le (n e he)
 ·rw [List.map_append, List.nodup_append]
  refine ⟨K.nd, nd, fun a ha b hb hab => ?_⟩
  obtain ⟨e, he, rfl⟩ := List.mem_map.1 ha
  obtain ⟨e', he', rfl⟩ := List.mem_map.1 hb
  have h1 := K.mem e he
  have h2 := n e' he'
  rw [hab, h2] at h1; cases h1
theorem Kn.split (K : Kn g h (A ++ B)) : Kn (h.wo (B.map Prod.fst)) h B /\ Kn g (h.wo (B.map Prod.fst)) A := by
 have nd := K.nd
 rw [List.map_append, List.nodup_append] at nd
 refine ⟨⟨mS _ _, fun e he => K.mem e (List.mem_append_right _ he), fun e he => dJ (List.mem_map.2 ⟨e, he, rfl⟩), nd.2.1⟩, ?_, fun e he => ?_, fun e he => K.new e (List.mem_append_left _ he), nd.1⟩
 ·exact nk K.le fun b hb => by
   obtain ⟨e, he, rfl⟩ := List.mem_map.1 hb
   exact K.new e (List.mem_append_right _ he)
 ·rw [rh]
  ·exact K.mem e (List.mem_append_left _ he)
  ·intro hb
   exact nd.2.2 _ (List.mem_map.2 ⟨e, he, rfl⟩) _ hb rfl
theorem Kn.off (K : Kn g h L) {b : Nat} {x y : Blk} (u : Upd L b x y L') (l : (h.off b).le h') (f : h' b = some y) : Kn g h' L' := by
 refine ⟨?_, fun e he => ?_, fun e he => ?_, by rw [u.keys]; exact K.nd⟩
 ·exact Hp.le_trans (v7 (K.new (b, x) u.mem) K.le) l
 ·rcases u.out K.nd e he with rfl | ⟨h1, h2⟩
  ·exact f
  ·refine l _ _ ?_
   simp only [Hp.off, Hp.set]; rw [if_neg h2]; exact K.mem e h1
 ·rcases u.out K.nd e he with rfl | ⟨h1, h2⟩
  ·exact K.new (b, x) u.mem
  ·exact K.new e h1
def iO (X : List (Nat × Blk)) (s : Sl) (sz : Nat) (cs : List Value) : Prop :=
 cs.length = s.n * sz /\ s.n <= 9223372036854775807 /\ ((s.n = 0 /\ X = []) \/ (s.n ≠ 0 /\ ∃ b z, s.a = some ⟨b, 0, none⟩ /\ X = [(b, .inl ⟨cs, z, false⟩)]))
theorem Kn.addOwn {s : Sl} {sz : Nat} {cs : List Value} (K : Kn g h L) (l : h.le h') (o : Own (h'.sub h) s sz cs) : ∃ X, iO X s sz cs /\ Kn g h' (L ++ X) := by
 by_cases h0 : s.n = 0
 ·exact ⟨[], ⟨o.1, o.2.1, .inl ⟨h0, rfl⟩⟩, by rw [List.append_nil]; exact K.mono l⟩
 ·obtain ⟨b, z, ha, hb⟩ := o.2.2.resolve_left h0
  have hn : h b = none := jV (by rw [hb]; simp)
  refine ⟨_, ⟨o.1, o.2.1, .inr ⟨h0, b, z, ha, rfl⟩⟩, K.app l (fun e he => ?_) (fun e he => ?_) (by simp)⟩
  ·rw [List.mem_singleton.1 he]; exact hn
  ·rw [List.mem_singleton.1 he]; exact sub_le _ _ _ _ hb
theorem iO.own {s : Sl} {sz : Nat} {cs : List Value} (o : iO X s sz cs) (K : Kn g h (L ++ X)) : Own h s sz cs := by
 refine ⟨o.1, o.2.1, ?_⟩
 rcases o.2.2 with ⟨h0, _⟩ | ⟨_, b, z, ha, rfl⟩
 ·exact .inl h0
 ·exact .inr ⟨b, z, ha, K.at (by simp)⟩
theorem iO.mark {s : Sl} {sz : Nat} {cs cs' : List Value} (o : iO X s sz cs) (K : Kn g h (L ++ X)) (l : (h.wo s.used).le h') (o' : Own h' s sz cs') : ∃ X', iO X' s sz cs' /\ Kn g h' (L ++ X') := by
 rcases o.2.2 with ⟨h0, rfl⟩ | ⟨h0, b, z, ha, rfl⟩
 ·refine ⟨[], ⟨o'.1, o'.2.1, .inl ⟨h0, rfl⟩⟩, K.mono ?_⟩
  have : s.used = [] := by unfold Sl.used; rw [if_pos h0]
  rw [this] at l
  exact Hp.le_trans (nk (Hp.le_refl _) (fun b hb => by simp at hb)) l
 ·obtain ⟨b', z', ha', hb'⟩ := o'.2.2.resolve_left h0
  rw [ha] at ha'; cases ha'
  refine ⟨_, ⟨o'.1, o'.2.1, .inr ⟨h0, b, z', ha, rfl⟩⟩, ?_⟩
  have hu : s.used = [b] := by unfold Sl.used Sl.blk; rw [if_neg h0, ha]
  rw [hu] at l
  have nd := K.nd
  rw [List.map_append, List.nodup_append] at nd
  have hbn : g b = none := K.new (b, .inl ⟨cs, z, false⟩) (List.mem_append_right _ (by simp))
  have hne : ∀ e ∈ L, e.1 ≠ b := fun e he hb => nd.2.2 _ (List.mem_map.2 ⟨e, he, rfl⟩) b (by simp) hb
  have hwo : ∀ c, c ≠ b -> (h.wo [b]) c = h c := fun c hc => rh (by simpa using hc)
  refine ⟨?_, fun e he => ?_, fun e he => ?_, ?_⟩
  ·exact Hp.le_trans (nk K.le fun c hc => by rw [List.mem_singleton.1 hc]; exact hbn) l
  ·rcases List.mem_append.1 he with he | he
   ·exact l _ _ (by rw [hwo _ (hne e he)]; exact K.mem e (List.mem_append_left _ he))
   ·rw [List.mem_singleton.1 he]; exact hb'
  ·rcases List.mem_append.1 he with he | he
   ·exact K.new e (List.mem_append_left _ he)
   ·rw [List.mem_singleton.1 he]; exact hbn
  ·rw [List.map_append, List.nodup_append]
   exact ⟨nd.1, by simp, fun a ha c hc => nd.2.2 a ha c (by simpa using hc)⟩
end
theorem H9 {h : Hp} {n : NodeP} {left : Int} {R : Value -> Hp -> Prop} (hsz : n.name.size <= 9223372036854775807) (h0 : 0 <= left) (h1 : left <= 1048576)
  (k : ∀ r : Int, (r < 0 \/ (0 <= r /\ r <= left /\ n.name.size <= 1048576)) -> R (I r) h) : ql #[rp n, I left] h R := by
 refine ACalls.drop (Ei ?_)
 refine uf_ ?_
 refine ae fun b h2 hb l f => ?_
 (refine am ?_)
 rw [cc (by omega) (by omega)]
 refine ad (fun e => ⟨_, l, k _ (.inl (by omega))⟩) (fun e => ⟨_, l, k _ (.inr ?_)⟩)
 have := of_decide_eq_false e
 omega
theorem F2 {h : Hp} {s : Sl} {l : List NodeP} {left : Int} {R : Value -> Hp -> Prop} (hs : fJ h s l) (hsz : ∀ n ∈ l, n.name.size <= 9223372036854775807) (h0 : 0 <= left) (h1 : left <= 1048576)
  (k : ∀ r : Int, (r < 0 \/ (0 <= r /\ r <= left /\ l.length <= 1048576 /\ ∀ n ∈ l, n.name.size <= 1048576)) -> R (I r) h) : pi #[s.v, I left] h R := by
 apply B0
 refine uf_ ?_
 have hn := hs.len
 have hb := hs.1
 rw [cc (by omega) (by omega)]
 refine ad (fun e => k _ (.inl (by omega))) (fun e => ?_)
 have e' := of_decide_eq_false e
 refine aq l.length (fun i vs h' => ∃ r : Int, vs = [s.v, I r, I i] /\ h' = h /\ 0 <= r /\ r <= left /\ ∀ n ∈ l.take i, n.name.size <= 1048576) ⟨_, rfl, rfl, by omega, by omega, fun n hn => by simp at hn⟩ ?_
 rintro i _ _ next hi ⟨r, rfl, rfl, r0, r1, hall⟩ hnx
 rename_i h
 refine ⟨s, _, _, rfl, ?_⟩
 by_cases hlt : i < l.length
 rotate_left
 ·refine ak (by simp; omega) (k r (.inr ⟨r0, r1, by omega, ?_⟩))
  rwa [List.take_of_length_le (by omega)] at hall
 refine aH (by simp; omega) ?_
 obtain ⟨n, hni⟩ : ∃ n, l[i]? = some n := ⟨_, List.getElem?_eq_getElem hlt⟩
 obtain ⟨b, o, ha, c0, c1, c2, c3, c4, c5, c6, c7, c8⟩ := hs.at hni
 refine ⟨b, o, ha, by omega, by omega, _, c0, _, c1, _, c2, _, c3, _, c4, _, c5, _, c6, _, c7, _, c8, ?_⟩
 refine H9 (n := n) (hsz n (List.mem_of_getElem? hni)) r0 (by omega) fun q hq => ⟨_, rfl, ad (fun e => k _ (.inl (by omega))) (fun e => ?_)⟩
 have := of_decide_eq_false e
 rcases hq with hq | ⟨q0, q1, q2⟩
 ·omega
 rw [az (by omega)]
 refine hnx hlt _ _ ⟨q, rfl, rfl, q0, by omega, fun n' hn' => ?_⟩
 rw [List.getElem?_eq_getElem hlt] at hni
 rw [List.take_succ_eq_append_getElem hlt, List.mem_append, List.mem_singleton, Option.some.inj hni] at hn'
 rcases hn' with hn' | rfl
 ·exact hall n' hn'
 ·exact q2
theorem yi {h : Hp} {s : Sl} {l : List BindP} {left : Int} {R : Value -> Hp -> Prop} (hs : kU h s l) (h0 : 0 <= left) (h1 : left <= 1048576)
  (k : ∀ r : Int, (r < 0 \/ (0 <= r /\ r <= left /\ l.length <= 1048576)) -> R (I r) h) : kN #[s.v, I left] h R := by
 apply Cw
 refine uf_ ?_
 have hn := hs.len
 have hb := hs.1
 rw [cc (by omega) (by omega)]
 refine ad (fun e => k _ (.inl (by omega))) (fun e => k _ (.inr ?_))
 have := of_decide_eq_false e
 omega
theorem eo {h : Hp} {M : MSl} {m : aj} {R : Value -> Hp -> Prop} (hs : aG h M m) (hsz : ∀ n ∈ m.nodes, n.name.size <= 9223372036854775807)
  (k : ∀ r : Int, (r < 0 \/ (0 <= r /\ r <= 1048576 /\ bU m)) -> R (I r) h) : cK #[aN M, I 1048576] h R := by
 refine ACalls.drop (C1 ?_)
 refine uf_ ?_
 refine ae fun b8 h1 hb8 l1 f8 => ?_
 have neg : ∀ {h' : Hp}, h.le h' -> ∃ h'' : Hp, h''.le h' /\ R (I (-1)) h'' := fun l => ⟨_, l, k _ (.inl (by omega))⟩
 (refine am ?_)
 refine F2 (hs.mono l1).nodes hsz (by omega) (by omega) fun r1 q1 => ⟨_, rfl, ad (fun e => neg l1) (fun e1 => ?_)⟩
 have e1 := of_decide_eq_false e1
 obtain ⟨a1, a2, a3, a4⟩ := q1.resolve_left e1
 (refine am ?_)
 refine yi (hs.mono l1).inits a1 (by omega) fun r2 q2 => ⟨_, rfl, ad (fun e => neg l1) (fun e2 => ?_)⟩
 have e2 := of_decide_eq_false e2
 obtain ⟨b1, b2, b3⟩ := q2.resolve_left e2
 (refine am ?_)
 refine yi (hs.mono l1).nexts b1 (by omega) fun r3 q3 => ⟨_, rfl, ad (fun e => neg l1) (fun e3 => ?_)⟩
 have e3 := of_decide_eq_false e3
 obtain ⟨c1, c2, c3⟩ := q3.resolve_left e3
 (refine am ?_)
 refine z6 (hs.mono l1).bads c1 (by omega) fun r4 q4 => ⟨_, rfl, ad (fun e => neg l1) (fun e4 => ?_)⟩
 have e4 := of_decide_eq_false e4
 have d1 := q4.resolve_left e4
 (refine am ?_)
 refine z6 (hs.mono l1).holds d1.1 (by omega) fun r5 q5 => ⟨_, rfl, ad (fun e => neg l1) (fun e5 => ⟨_, l1, k _ (.inr ?_)⟩)⟩
 have e5 := of_decide_eq_false e5
 have f1 := q5.resolve_left e5
 exact ⟨f1.1, by omega, ⟨a3, b3, c3, by omega, by omega, a4⟩⟩
theorem IO {h : Hp} {i w : Int} {R : Value -> Hp -> Prop} (k : R (.agg #[I i, I w]) h) : qn #[.agg #[I i, I w]] h R := by
 refine ACalls.drop (E4 ?_)
 refine uf_ ?_
 have K0 := Kn.nil h
 (with_reducible apply Kn.al); (assumption); (intro b4 h1 K1 l1 hb4)
 (with_reducible apply Kn.al); (assumption); (intro b6 h2 K2 l2 hb6)
 (with_reducible apply Kn.al); (assumption); (intro b9 h3 K3 l3 hb9)
 repeat' (first | (refine kr_ ?_) | ((((with_reducible apply Kn.wr); (assumption); ((focus ((repeat first | exact .head | apply Upd.tail); done))))); (exact of_decide_eq_true rfl); (intro _ _ _)))
 exact ⟨_, Kn.le (by assumption), k⟩
theorem IG {h : Hp} {b : BindP} {R : Value -> Hp -> Prop} (k : R (vw b) h) : qe #[vw b] h R := by
 refine ACalls.drop (E5 ?_)
 refine uf_ ?_
 have K0 := Kn.nil h
 (with_reducible apply Kn.al); (assumption); (intro b4 h1 K1 l1 hb4)
 (with_reducible apply Kn.al); (assumption); (intro b6 h2 K2 l2 hb6)
 (with_reducible apply Kn.al); (assumption); (intro b9 h3 K3 l3 hb9)
 repeat' (first | (refine kr_ ?_) | ((((with_reducible apply Kn.wr); (assumption); ((focus ((repeat first | exact .head | apply Upd.tail); done))))); (exact of_decide_eq_true rfl); (intro _ _ _)))
 exact ⟨_, Kn.le (by assumption), k⟩
theorem Fl : ∀ (vs cs : List Value) (o : Nat), o + vs.length <= cs.length -> (dZ cs o vs).take (o + vs.length) = cs.take o ++ vs := by
 intro vs
 induction vs with
 | nil => intro cs o _; simp [DK]
 | cons v r ih =>
  intro cs o h
  rw [List.length_cons] at h ⊢
  rw [yE, show o + (r.length + 1) = (o + 1) + r.length by omega, ih _ _ (by rw [List.length_set]; omega), jT v (by omega), List.append_assoc]; rfl
theorem Ij {h : Hp} {n : NodeP} {R : Value -> Hp -> Prop} (k : R (rp n) h) : qt #[rp n] h R := by
 refine ACalls.drop (En ?_)
 refine uf_ ?_
 have K0 := Kn.nil h
 (with_reducible apply Kn.al); (assumption); (intro b4 h1 K1 l1 hb4)
 (with_reducible apply Kn.al); (assumption); (intro b6 h2 K2 l2 hb6)
 (with_reducible apply Kn.al); (assumption); (intro b9 h3 K3 l3 hb9)
 repeat' (first | (refine kr_ ?_) | ((((with_reducible apply Kn.wr); (assumption); ((focus ((repeat first | exact .head | apply Upd.tail); done))))); (exact of_decide_eq_true rfl); (intro _ _ _)) | (refine IO ⟨_, _, rfl, ?_⟩))
 exact ⟨_, Kn.le (by assumption), k⟩
theorem Fg {α : Type} {f : α -> List Value} {l : List α} {i : Nat} {x : α} (h : l[i]? = some x) : (l.take (i + 1)).flatMap f = (l.take i).flatMap f ++ f x := by
 have hlt := get_lt h
 rw [List.getElem?_eq_getElem hlt] at h
 rw [List.take_succ_eq_append_getElem hlt, List.flatMap_append, Option.some.inj h]; simp
theorem tQ (z : Array Value) (n : Nat) : (aA z n).length = n := by simp [aA]
theorem Gy {h : Hp} {s : Sl} {l : List NodeP} {R : Value -> Hp -> Prop} (hs : fJ h s l) (hl : l.length <= 1048576)
  (k : ∀ b h', h b = none -> h.le h' -> h' b = some (.inl ⟨l.flatMap nodeCells, l.length * 9, false⟩) -> R (Sl.v (arr b l.length)) h') : oL #[s.v] h R := by
 apply C4
 refine uf_ ?_
 have hn := hs.len
 refine ⟨by omega, by omega, by omega, by omega, ?_⟩
 rw [Int.toNat_natCast, hn]
 refine ae fun b h1 hb l1 f1 => ?_
 refine aq l.length (fun i vs h' => vs = [s.v, (arr b l.length).v, I i] /\ h.le h' /\ ∃ cs, h' b = some (.inl ⟨cs, l.length * 9, false⟩) /\ cs.length = l.length * 9 /\ cs.take (i * 9) = (l.take i).flatMap nodeCells) ⟨rfl, l1, _, f1, tQ _ _, by simp⟩ ?_
 clear f1 l1 h1
 rintro i _ h1 next hi ⟨rfl, l1, cs, f1, hcl, htk⟩ hnx
 refine ⟨s, arr b _, _, rfl, ?_⟩
 by_cases hlt : i < l.length
 rotate_left
 ·have hie : i = l.length := by omega
  subst hie
  refine ak (by simp; omega) (k b h1 hb l1 ?_)
  rw [List.take_of_length_le (by omega), List.take_length] at htk
  rw [<- htk]; exact f1
 refine aH (by simp; omega) ?_
 obtain ⟨n, hni⟩ : ∃ n, l[i]? = some n := ⟨_, List.getElem?_eq_getElem hlt⟩
 obtain ⟨bn, o, ha, c0, c1, c2, c3, c4, c5, c6, c7, c8⟩ := (hs.mono l1).at hni
 refine ⟨bn, o, ha, by omega, by omega, _, c0, _, c1, _, c2, _, c3, _, c4, _, c5, _, c6, _, c7, _, c8, ?_⟩
 refine Ij (n := n) ⟨_, _, _, _, _, _, _, _, _, rfl, ?_⟩
 refine cB ⟨by omega, by dsimp only; omega, ?_⟩
 (with_reducible apply bD); (exact f1); (exact l1); (exact hb); (rw [Int.toNat_natCast]; omega)
 intro h2 f2 kp l2
 rw [az (by omega)]
 refine hnx hlt _ _ ⟨rfl, l2, _, f2, by rw [eP]; exact hcl, ?_⟩
 have := Fl (nodeCells n) cs (i * 9) (by show i * 9 + 9 <= _; omega)
 rw [Int.toNat_natCast, Nat.zero_add]
 rw [Fg hni, <- htk, show (i + 1) * 9 = i * 9 + (nodeCells n).length by show _ = i * 9 + 9; omega]
 exact this
theorem yk {h : Hp} {s : Sl} {l : List BindP} {R : Value -> Hp -> Prop} (hs : kU h s l) (hl : l.length <= 1048576)
  (k : ∀ b h', h b = none -> h.le h' -> h' b = some (.inl ⟨l.flatMap bindCells, l.length * 2, false⟩) -> R (Sl.v (arr b l.length)) h') : kO #[s.v] h R := by
 apply Cc
 refine uf_ ?_
 have hn := hs.len
 refine ⟨by omega, by omega, by omega, by omega, ?_⟩
 rw [Int.toNat_natCast, hn]
 refine ae fun b h1 hb l1 f1 => ?_
 refine aq l.length (fun i vs h' => vs = [s.v, (arr b l.length).v, I i] /\ h.le h' /\ ∃ cs, h' b = some (.inl ⟨cs, l.length * 2, false⟩) /\ cs.length = l.length * 2 /\ cs.take (i * 2) = (l.take i).flatMap bindCells) ⟨rfl, l1, _, f1, tQ _ _, by simp⟩ ?_
 clear f1 l1 h1
 rintro i _ h1 next hi ⟨rfl, l1, cs, f1, hcl, htk⟩ hnx
 refine ⟨s, arr b _, _, rfl, ?_⟩
 by_cases hlt : i < l.length
 rotate_left
 ·have hie : i = l.length := by omega
  subst hie
  refine ak (by simp; omega) (k b h1 hb l1 ?_)
  rw [List.take_of_length_le (by omega), List.take_length] at htk
  rw [<- htk]; exact f1
 refine aH (by simp; omega) ?_
 obtain ⟨n, hni⟩ : ∃ n, l[i]? = some n := ⟨_, List.getElem?_eq_getElem hlt⟩
 obtain ⟨bn, o, ha, c0, c1⟩ := (hs.mono l1).at hni
 refine ⟨bn, o, ha, by omega, by omega, _, c0, _, c1, ?_⟩
 refine IG (b := n) ⟨_, _, rfl, ?_⟩
 refine cB ⟨by omega, by dsimp only; omega, ?_⟩
 (with_reducible apply bD); (exact f1); (exact l1); (exact hb); (rw [Int.toNat_natCast]; omega)
 intro h2 f2 kp l2
 rw [az (by omega)]
 refine hnx hlt _ _ ⟨rfl, l2, _, f2, by rw [eP]; exact hcl, ?_⟩
 have := Fl (bindCells n) cs (i * 2) (by show i * 2 + 2 <= _; omega)
 rw [Int.toNat_natCast, Nat.zero_add]
 rw [Fg hni, <- htk, show (i + 1) * 2 = i * 2 + (bindCells n).length by show _ = i * 2 + 2; omega]
 exact this
theorem Du {h : Hp} {s : Sl} {l : List Int} {R : Value -> Hp -> Prop} (hs : IntS h s l) (hl : l.length <= 1048576)
  (k : ∀ b h', h b = none -> h.le h' -> h' b = some (.inl ⟨l.map I, l.length * 1, false⟩) -> R (Sl.v (arr b l.length)) h') : iC #[s.v] h R := by
 apply vv
 refine uf_ ?_
 have hn := hs.len
 refine ⟨by omega, by omega, by omega, by omega, ?_⟩
 rw [Int.toNat_natCast, hn]
 refine ae fun b h1 hb l1 f1 => ?_
 refine aq l.length (fun i vs h' => vs = [s.v, (arr b l.length).v, I i] /\ h.le h' /\ ∃ cs, h' b = some (.inl ⟨cs, l.length * 1, false⟩) /\ cs.length = l.length /\ cs.take i = (l.take i).map I) ⟨rfl, l1, _, f1, by rw [tQ, Nat.mul_one], by simp⟩ ?_
 clear f1 l1 h1
 rintro i _ h1 next hi ⟨rfl, l1, cs, f1, hcl, htk⟩ hnx
 refine ⟨s, arr b _, _, rfl, ?_⟩
 by_cases hlt : i < l.length
 rotate_left
 ·have hie : i = l.length := by omega
  subst hie
  refine ak (by simp; omega) (k b h1 hb l1 ?_)
  rw [List.take_of_length_le (by omega), List.take_length] at htk
  rw [<- htk]; exact f1
 refine aH (by simp; omega) ?_
 obtain ⟨n, hni⟩ : ∃ n, l[i]? = some n := ⟨_, List.getElem?_eq_getElem hlt⟩
 obtain ⟨bn, o, ha, c0⟩ := (hs.mono l1).get hni
 refine ⟨bn, o, ha, by omega, by omega, _, c0, ?_⟩
 refine cB ⟨by omega, by dsimp only; omega, ?_⟩
 (with_reducible apply bD); (exact f1); (exact l1); (exact hb); (rw [Int.toNat_natCast]; omega)
 intro h2 f2 kp l2
 rw [az (by omega)]
 refine hnx hlt _ _ ⟨rfl, l2, _, f2, by rw [eP]; exact hcl, ?_⟩
 rw [Int.toNat_natCast, Nat.zero_add, Nat.mul_one, bk, jT _ (by omega), htk, List.take_succ_eq_append_getElem hlt, List.map_append]
 rw [List.getElem?_eq_getElem hlt] at hni
 rw [Option.some.inj hni]; rfl
def dT (m : aj) (bn bi bx bb bh : Nat) : List (Nat × Blk) :=
 [(bn, .inl ⟨m.nodes.flatMap nodeCells, m.nodes.length * 9, false⟩), (bi, .inl ⟨m.inits.flatMap bindCells, m.inits.length * 2, false⟩), (bx, .inl ⟨m.nexts.flatMap bindCells, m.nexts.length * 2, false⟩),
  (bb, .inl ⟨m.bads.map I, m.bads.length * 1, false⟩), (bh, .inl ⟨m.holds.map I, m.holds.length * 1, false⟩)]
abbrev Aw (m : aj) (bn bi bx bb bh : Nat) : MSl := ⟨arr bn m.nodes.length, arr bi m.inits.length, arr bx m.nexts.length, arr bb m.bads.length, arr bh m.holds.length⟩
theorem aF {h : Hp} {M : MSl} {m : aj} {R : Value -> Hp -> Prop} (hs : aG h M m) (hm : bU m)
  (k : ∀ bn bi bx bb bh h', Kn h h' (dT m bn bi bx bb bh) -> R (aN (Aw m bn bi bx bb bh)) h') : ay #[aN M] h R := by
 apply DL
 refine uf_ ?_
 have K0 := Kn.nil h
 (with_reducible apply Kn.al); (assumption); (intro b7 h1 K1 l1 hb7)
 (with_reducible apply Kn.al); (assumption); (intro b9 h2 K2 l2 hb9)
 (with_reducible apply Kn.al); (assumption); (intro b12 h3 K3 l3 hb12)
 repeat' (refine kr_ ?_)
 refine Gy (hs.mono K3.le).nodes hm.nodes fun bn h4 hbn l4 f4 => ⟨_, rfl, ?_⟩
 have K4 := K3.cons hbn l4 f4
 (((with_reducible apply Kn.wr); (assumption); ((focus ((repeat first | exact .head | apply Upd.tail); done)))))
 ·exact of_decide_eq_true rfl
 intro h5 K5 _
 repeat' (refine kr_ ?_)
 refine yk (hs.mono K5.le).inits hm.inits fun bi h6 hbi l6 f6 => ⟨_, rfl, ?_⟩
 have K6 := K5.cons hbi l6 f6
 (((with_reducible apply Kn.wr); (assumption); ((focus ((repeat first | exact .head | apply Upd.tail); done)))))
 ·exact of_decide_eq_true rfl
 intro h7 K7 _
 repeat' (refine kr_ ?_)
 refine yk (hs.mono K7.le).nexts hm.nexts fun bx h8 hbx l8 f8 => ⟨_, rfl, ?_⟩
 have K8 := K7.cons hbx l8 f8
 (((with_reducible apply Kn.wr); (assumption); ((focus ((repeat first | exact .head | apply Upd.tail); done)))))
 ·exact of_decide_eq_true rfl
 intro h9 K9 _
 repeat' (refine kr_ ?_)
 refine Du (hs.mono K9.le).bads hm.bads fun bb h10 hbb l10 f10 => ⟨_, rfl, ?_⟩
 have K10 := K9.cons hbb l10 f10
 (((with_reducible apply Kn.wr); (assumption); ((focus ((repeat first | exact .head | apply Upd.tail); done)))))
 ·exact of_decide_eq_true rfl
 intro h11 K11 _
 repeat' (refine kr_ ?_)
 refine Du (hs.mono K11.le).holds hm.holds fun bh h12 hbh l12 f12 => ⟨_, rfl, ?_⟩
 have K12 := K11.cons hbh l12 f12
 (((with_reducible apply Kn.wr); (assumption); ((focus ((repeat first | exact .head | apply Upd.tail); done)))))
 ·exact of_decide_eq_true rfl
 intro h13 K13 _
 repeat' (refine kr_ ?_)
 (((with_reducible apply Kn.wr); (assumption); ((focus ((repeat first | exact .head | apply Upd.tail); done)))))
 ·exact of_decide_eq_true rfl
 intro h14 K14 _
 repeat' (refine kr_ ?_)
 refine k bn bi bx bb bh h14 (K14.sub (fun e he => ?_) ?_)
 ·simp only [dT, List.mem_cons, List.not_mem_nil, or_false] at he
  rcases he with rfl | rfl | rfl | rfl | rfl
  ·exact .tail _ (.tail _ (.tail _ (.tail _ (.head _))))
  ·exact .tail _ (.tail _ (.tail _ (.head _)))
  ·exact .tail _ (.tail _ (.head _))
  ·exact .tail _ (.head _)
  ·exact .head _
 ·have nd : ([bh, bb, bx, bi, bn] ++ [b12, b9, b7]).Nodup := K14.nd
  have nd2 : ([bh, bb, bx, bi, bn] : List Nat).reverse.Nodup := (List.reverse_perm _).nodup_iff.2 (List.nodup_append.1 nd).1
  exact nd2
theorem de {g h : Hp} {X : List (Nat × Blk)} {m : aj} {bn bi bx bb bh : Nat} (K : Kn g h (dT m bn bi bx bb bh ++ X)) (hm : bU m) : aG h (Aw m bn bi bx bb bh) m := by
 have g1 := hm.nodes
 have g2 := hm.inits
 have g3 := hm.nexts
 have g4 := hm.bads
 have g5 := hm.holds
 refine ⟨⟨by dsimp only; omega, by rw [gq (m := 9) (fun _ => rfl)], .inr ⟨bn, 0, rfl, ax (K.at (List.mem_append_left _ (.head _)))⟩⟩,
  ⟨by dsimp only; omega, by rw [gq (m := 2) (fun _ => rfl)], .inr ⟨bi, 0, rfl, ax (K.at (List.mem_append_left _ (.tail _ (.head _))))⟩⟩,
  ⟨by dsimp only; omega, by rw [gq (m := 2) (fun _ => rfl)], .inr ⟨bx, 0, rfl, ax (K.at (List.mem_append_left _ (.tail _ (.tail _ (.head _)))))⟩⟩,
  ⟨by dsimp only; omega, by simp, .inr ⟨bb, 0, rfl, ax (K.at (List.mem_append_left _ (.tail _ (.tail _ (.tail _ (.head _))))))⟩⟩,
  ⟨by dsimp only; omega, by simp, .inr ⟨bh, 0, rfl, ax (K.at (List.mem_append_left _ (.tail _ (.tail _ (.tail _ (.tail _ (.head _)))))))⟩⟩, Nat.le_refl _⟩
theorem I3 {h : Hp} {i w : Int} {R : Value -> Hp -> Prop} (k : R (.bool true) h) : qL #[.agg #[I i, I w], .agg #[I i, I w]] h R := by
 refine ACalls.drop (EQ ?_)
 refine uf_ ?_
 have K0 := Kn.nil h
 (with_reducible apply Kn.al); (assumption); (intro b4 h1 K1 l1 hb4)
 (with_reducible apply Kn.al); (assumption); (intro b6 h2 K2 l2 hb6)
 repeat' (first | (refine kr_ ?_) | (refine ak (by simp) ?_))
 exact ⟨_, K2.le, k⟩
theorem IV {h : Hp} {b : BindP} {R : Value -> Hp -> Prop} (k : R (.bool true) h) : qa #[vw b, vw b] h R := by
 refine ACalls.drop (EK ?_)
 refine uf_ ?_
 have K0 := Kn.nil h
 (with_reducible apply Kn.al); (assumption); (intro b4 h1 K1 l1 hb4)
 (with_reducible apply Kn.al); (assumption); (intro b6 h2 K2 l2 hb6)
 repeat' (first | (refine kr_ ?_) | (refine ak (by simp) ?_))
 exact ⟨_, K2.le, k⟩
theorem Ht {h : Hp} {n : NodeP} {R : Value -> Hp -> Prop} (k : R (.bool true) h) : qq #[rp n, rp n] h R := by
 refine ACalls.drop (ES ?_)
 refine uf_ ?_
 have K0 := Kn.nil h
 (with_reducible apply Kn.al); (assumption); (intro b4 h1 K1 l1 hb4)
 (with_reducible apply Kn.al); (assumption); (intro b6 h2 K2 l2 hb6)
 repeat' (first | (refine kr_ ?_) | (refine ak (by simp) ?_) | (refine I3 ⟨_, rfl, ?_⟩))
 exact ⟨_, K2.le, k⟩
theorem GK {h : Hp} {s t : Sl} {l : List NodeP} {R : Value -> Hp -> Prop} (hs : fJ h s l) (ht : fJ h t l) (k : R (.bool true) h) : oh #[s.v, t.v] h R := by
 apply BZ
 refine uf_ ?_
 have hn := hs.len
 have hn2 := ht.len
 have hb := hs.1
 refine ak (by simp; omega) ?_
 refine aq l.length (fun i vs h' => vs = [s.v, t.v, I i] /\ h' = h) ⟨rfl, rfl⟩ ?_
 rintro i _ _ next hi ⟨rfl, rfl⟩ hnx
 rename_i h
 refine ⟨s, t, _, rfl, ?_⟩
 by_cases hlt : i < l.length
 ·refine aH (by simp; omega) ?_
  obtain ⟨n, hni⟩ : ∃ n, l[i]? = some n := ⟨_, List.getElem?_eq_getElem hlt⟩
  obtain ⟨b, o, ha, c0, c1, c2, c3, c4, c5, c6, c7, c8⟩ := hs.at hni
  obtain ⟨b', o', ha', d0, d1, d2, d3, d4, d5, d6, d7, d8⟩ := ht.at hni
  refine ⟨b, o, ha, by omega, by omega, b', o', ha', by omega, by omega, _, c0, _, c1, _, c2, _, c3, _, c4, _, c5, _, c6, _, c7, _, c8, _, d0, _, d1, _, d2, _, d3, _, d4, _, d5, _, d6, _, d7, _, d8, ?_⟩
  refine Ht (n := n) ⟨_, rfl, ak rfl ?_⟩
  rw [az (by omega)]
  exact hnx hlt _ _ ⟨rfl, rfl⟩
 ·exact ak (by simp; omega) k
theorem xk {h : Hp} {s t : Sl} {l : List BindP} {R : Value -> Hp -> Prop} (hs : kU h s l) (ht : kU h t l) (k : R (.bool true) h) : kQ #[s.v, t.v] h R := by
 apply BK
 refine uf_ ?_
 have hn := hs.len
 have hn2 := ht.len
 have hb := hs.1
 refine ak (by simp; omega) ?_
 refine aq l.length (fun i vs h' => vs = [s.v, t.v, I i] /\ h' = h) ⟨rfl, rfl⟩ ?_
 rintro i _ _ next hi ⟨rfl, rfl⟩ hnx
 rename_i h
 refine ⟨s, t, _, rfl, ?_⟩
 by_cases hlt : i < l.length
 ·refine aH (by simp; omega) ?_
  obtain ⟨n, hni⟩ : ∃ n, l[i]? = some n := ⟨_, List.getElem?_eq_getElem hlt⟩
  obtain ⟨b, o, ha, c0, c1⟩ := hs.at hni
  obtain ⟨b', o', ha', d0, d1⟩ := ht.at hni
  refine ⟨b, o, ha, by omega, by omega, b', o', ha', by omega, by omega, _, c0, _, c1, _, d0, _, d1, ?_⟩
  refine IV (b := n) ⟨_, rfl, ak rfl ?_⟩
  rw [az (by omega)]
  exact hnx hlt _ _ ⟨rfl, rfl⟩
 ·exact ak (by simp; omega) k
theorem et {h : Hp} {M M' : MSl} {m : aj} {R : Value -> Hp -> Prop} (hs : aG h M m) (ht : aG h M' m) (k : R (.bool true) h) : cM #[aN M, aN M'] h R := by
 refine ACalls.drop (Cl ?_)
 refine uf_ ?_
 have K0 := Kn.nil h
 (with_reducible apply Kn.al); (assumption); (intro b4 h1 K1 l1 hb4)
 (with_reducible apply Kn.al); (assumption); (intro b6 h2 K2 l2 hb6)
 have hs2 := hs.mono K2.le
 have ht2 := ht.mono K2.le
 repeat' (refine kr_ ?_)
 refine GK hs2.nodes ht2.nodes ⟨_, rfl, ak rfl ?_⟩
 repeat' (refine kr_ ?_)
 refine xk hs2.inits ht2.inits ⟨_, rfl, ak rfl ?_⟩
 repeat' (refine kr_ ?_)
 refine xk hs2.nexts ht2.nexts ⟨_, rfl, ak rfl ?_⟩
 repeat' (refine kr_ ?_)
 refine pP hs2.bads ht2.bads ⟨_, rfl, ak (by simp) ?_⟩
 repeat' (refine kr_ ?_)
 refine pP hs2.holds ht2.holds ⟨_, rfl, ak (by simp) ?_⟩
 exact ⟨_, K2.le, k⟩
theorem Es {h : Hp} {x : Int} {R : Value -> Hp -> Prop} (hx : x <= 9223372036854775000) (k : ∀ s : ByteArray, R (.string s) h) : mZ #[I x] h R := by
 refine ACalls.drop (AZ ?_)
 refine uf_ ?_
 refine ad (fun e => ⟨_, Hp.le_refl _, k _⟩) (fun e => ?_)
 have e := of_decide_eq_false e
 obtain ⟨n, rfl⟩ : ∃ n : Nat, x = n := ⟨x.toNat, by omega⟩
 refine uv n (fun q vs h' => ∃ s : ByteArray, vs = [I q, .string s] /\ h.le h' /\ s.size + q <= 9223372036854775000) ⟨_, rfl, Hp.le_refl _, by show 0 + n <= _; omega⟩ ?_
 rintro q _ h1 next ⟨s, rfl, l1, hsz⟩ hnx
 refine ⟨_, s, rfl, ?_⟩
 refine ad (fun e => ?_) (fun e => ?_)
 ·have e := of_decide_eq_true e
  refine ae fun b h2 hb l2 f2 => ?_
  have hm : Int.tmod (q : Int) 10 = ((q % 10 : Nat) : Int) := eR q 10
  have hd : Int.tdiv (q : Int) 10 = ((q / 10 : Nat) : Int) := DB q 10
  have hmod : q % 10 < 10 := Nat.mod_lt _ (by omega)
  have hw : IntKind.wrap .u8 (W (48 + ((q % 10 : Nat) : Int))) = ((48 + q % 10 : Nat) : Int) := by
   rw [cc (by omega) (by omega), IntKind.wrap_u8]; omega
  rw [hm, hw] at f2
  refine ⟨[UInt8.ofNat (48 + q % 10)], ⟨rfl, .inr ⟨b, 0, rfl, ?_⟩⟩, ?_⟩
  ·have hc : eF [UInt8.ofNat (48 + q % 10)] = [.int .u8 ((48 + q % 10 : Nat) : Int)] := by
    unfold eF
    rw [List.map_cons, List.map_nil]
    have : (UInt8.ofNat (48 + q % 10)).toNat = 48 + q % 10 := by rw [UInt8.toNat_ofNat']; omega
    rw [this]; rfl
   rw [hc]; exact ax f2
  ·have h1s : (⟨[UInt8.ofNat (48 + q % 10)].toArray⟩ : ByteArray).size = 1 := rfl
   rw [h1s, hd, fj (by omega)]
   refine ⟨by omega, hnx (q / 10) (by omega) _ _ ⟨_, rfl, Hp.le_trans l1 l2, ?_⟩⟩
   rw [ByteArray.size_append, h1s]
   omega
 ·have h1s : (⟨#[109]⟩ : ByteArray).size = 1 := rfl
  exact ⟨by rw [h1s]; omega, _, l1, k _⟩
theorem JU {x : Int} (h0 : 0 <= x) (h : x <= 9223372036854775000) : W (x + 1) = x + 1 := cc (by omega) (by omega)
theorem DI {h : Hp} {b n z : Nat} {cs : List Value} {k0 : Int} {R : Value -> Hp -> Prop} (f : h b = some (.inl ⟨cs, z, false⟩)) (hl : cs.length = n * 9) (h0 : 0 <= k0) (hk : k0 + n * 9 <= 1000000000000)
  (k : ∀ h' cs', (h.off b).le h' -> h' b = some (.inl ⟨cs', z, false⟩) -> cs'.length = n * 9 -> R (I (k0 + n * 9)) h') : lN #[(arr b n).v, I k0] h R := by
 apply zj
 refine uf_ ?_
 refine aq n (fun i vs h' => vs = [(arr b n).v, I (k0 + i * 9), I i] /\ ∃ cs, Kn (h.off b) h' [(b, .inl ⟨cs, z, false⟩)] /\ cs.length = n * 9) ⟨by simp, cs, ?_, hl⟩ ?_
 ·exact ⟨zy _ _, fun e he => by rw [List.mem_singleton.1 he]; exact f, fun e he => by rw [List.mem_singleton.1 he]; exact qk _ _, by simp⟩
 clear f hl cs
 rintro i _ h1 next hi ⟨rfl, cs, K, hl⟩ hnx
 refine ⟨arr b n, _, _, rfl, ?_⟩
 by_cases hlt : i < n
 rotate_left
 ·have hie : i = n := by omega
  subst hie
  exact ak (by simp) (k h1 cs K.le (K.at (.head _)) hl)
 refine aH (by simp; omega) ?_
 simp (disch := omega) only [JU]
 have hnat : Int.toNat (i : Int) = i := Int.toNat_natCast i
 rw [hnat]
 repeat' (first
  | (refine cB ⟨by omega, by first | omega | (dsimp only; omega), ?_⟩)
  | ((((with_reducible apply Kn.wr); (assumption); ((focus ((repeat first | exact .head | apply Upd.tail); done))))); (first | omega | (simp only [eP]; omega)); (intro _ _ _)))
 refine Es (by omega) fun s => ⟨s, rfl, ?_⟩
 refine cB ⟨by omega, by first | omega | (dsimp only; omega), ?_⟩
 (((with_reducible apply Kn.wr); (assumption); ((focus ((repeat first | exact .head | apply Upd.tail); done)))))
 ·first | omega | (simp only [eP]; omega)
 intro h2 K2 _
 have hni : ((i : Int) + 1) = ((i + 1 : Nat) : Int) := by omega
 have := hnx hlt _ _ ⟨rfl, _, K2, by first | exact hl | (simp only [eP]; exact hl)⟩
 have hke : k0 + (i : Int) * 9 + 1 + 1 + 1 + 1 + 1 + 1 + 1 + 1 + 1 = k0 + ((i + 1 : Nat) : Int) * 9 := by omega
 rw [hni, hke]; exact this
theorem uh {h : Hp} {b n z : Nat} {cs : List Value} {k0 : Int} {R : Value -> Hp -> Prop} (f : h b = some (.inl ⟨cs, z, false⟩)) (hl : cs.length = n * 2) (h0 : 0 <= k0) (hk : k0 + n * 2 <= 1000000000000)
  (k : ∀ h' cs', (h.off b).le h' -> h' b = some (.inl ⟨cs', z, false⟩) -> cs'.length = n * 2 -> R (I (k0 + n * 2)) h') : ju #[(arr b n).v, I k0] h R := by
 apply zC
 refine uf_ ?_
 refine aq n (fun i vs h' => vs = [(arr b n).v, I (k0 + i * 2), I i] /\ ∃ cs, Kn (h.off b) h' [(b, .inl ⟨cs, z, false⟩)] /\ cs.length = n * 2) ⟨by simp, cs, ?_, hl⟩ ?_
 ·exact ⟨zy _ _, fun e he => by rw [List.mem_singleton.1 he]; exact f, fun e he => by rw [List.mem_singleton.1 he]; exact qk _ _, by simp⟩
 clear f hl cs
 rintro i _ h1 next hi ⟨rfl, cs, K, hl⟩ hnx
 refine ⟨arr b n, _, _, rfl, ?_⟩
 by_cases hlt : i < n
 rotate_left
 ·have hie : i = n := by omega
  subst hie
  exact ak (by simp) (k h1 cs K.le (K.at (.head _)) hl)
 refine aH (by simp; omega) ?_
 simp (disch := omega) only [JU]
 have hnat : Int.toNat (i : Int) = i := Int.toNat_natCast i
 rw [hnat]
 repeat' (first
  | (refine cB ⟨by omega, by first | omega | (dsimp only; omega), ?_⟩)
  | ((((with_reducible apply Kn.wr); (assumption); ((focus ((repeat first | exact .head | apply Upd.tail); done))))); (first | omega | (simp only [eP]; omega)); (intro _ _ _)))
 have hni : ((i : Int) + 1) = ((i + 1 : Nat) : Int) := by omega
 have hke : k0 + (i : Int) * 2 + 1 + 1 = k0 + ((i + 1 : Nat) : Int) * 2 := by omega
 rw [hni, hke]
 refine hnx hlt _ _ ⟨rfl, _, by assumption, by first | exact hl | (simp only [eP]; exact hl)⟩
theorem xd {h : Hp} {b n z : Nat} {cs : List Value} {k0 : Int} {R : Value -> Hp -> Prop} (f : h b = some (.inl ⟨cs, z, false⟩)) (hl : cs.length = n) (h0 : 0 <= k0) (hk : k0 + n <= 1000000000000)
  (k : ∀ h' cs', (h.off b).le h' -> h' b = some (.inl ⟨cs', z, false⟩) -> cs'.length = n -> R (I (k0 + n)) h') : ey #[(arr b n).v, I k0] h R := by
 apply su
 refine uf_ ?_
 refine aq n (fun i vs h' => vs = [(arr b n).v, I (k0 + i), I i] /\ ∃ cs, Kn (h.off b) h' [(b, .inl ⟨cs, z, false⟩)] /\ cs.length = n) ⟨by simp, cs, ?_, hl⟩ ?_
 ·exact ⟨zy _ _, fun e he => by rw [List.mem_singleton.1 he]; exact f, fun e he => by rw [List.mem_singleton.1 he]; exact qk _ _, by simp⟩
 clear f hl cs
 rintro i _ h1 next hi ⟨rfl, cs, K, hl⟩ hnx
 refine ⟨arr b n, _, _, rfl, ?_⟩
 by_cases hlt : i < n
 rotate_left
 ·have hie : i = n := by omega
  subst hie
  exact ak (by simp) (k h1 cs K.le (K.at (.head _)) hl)
 refine aH (by simp; omega) ?_
 simp (disch := omega) only [JU]
 have hnat : Int.toNat (i : Int) = i := Int.toNat_natCast i
 rw [hnat]
 repeat' (first
  | (refine cB ⟨by omega, by first | omega | (dsimp only; omega), ?_⟩)
  | ((((with_reducible apply Kn.wr); (assumption); ((focus ((repeat first | exact .head | apply Upd.tail); done))))); (first | omega | (simp only [eP]; omega)); (intro _ _ _)))
 have hni : ((i : Int) + 1) = ((i + 1 : Nat) : Int) := by omega
 have hke : k0 + (i : Int) + 1 = k0 + ((i + 1 : Nat) : Int) := by omega
 rw [hke, hni]
 refine hnx hlt _ _ ⟨rfl, _, by assumption, by first | exact hl | (simp only [eP]; exact hl)⟩
theorem ep {g h : Hp} {X : List (Nat × Blk)} {m : aj} {bn bi bx bb bh : Nat} {R : Value -> Hp -> Prop} (K : Kn g h (dT m bn bi bx bb bh ++ X)) (hm : bU m)
  (k : ∀ h' L', L'.map Prod.fst = [bn, bi, bx, bb, bh] -> Kn g h' (L' ++ X) -> ∀ r : Int, 0 <= r -> R (I r) h') : cJ #[aN (Aw m bn bi bx bb bh), I 1] h R := by
 apply zH
 refine uf_ ?_
 have g1 := hm.nodes
 have g2 := hm.inits
 have g3 := hm.nexts
 have g4 := hm.bads
 have g5 := hm.holds
 refine ae fun b8 h1 hb8 l1 f8 => ?_
 have K1 := K.cons hb8 l1 f8
 unfold dT at K1
 simp only [List.cons_append, List.nil_append] at K1
 clear K l1 hb8
 (refine am ?_)
 refine DI (K1.at (.tail _ (.head _))) (gq (m := 9) (fun _ => rfl) _) (by omega) (by omega) fun h2 c2 l2 f2 hc2 => ⟨_, rfl, ?_⟩
 have K2 := K1.off (.tail .head) l2 f2
 (refine kr_ ?_)
 refine uh (K2.at (.tail _ (.tail _ (.head _)))) (gq (m := 2) (fun _ => rfl) _) (by omega) (by omega) fun h3 c3 l3 f3 hc3 => ⟨_, rfl, ?_⟩
 have K3 := K2.off (.tail (.tail .head)) l3 f3
 (refine kr_ ?_)
 refine uh (K3.at (.tail _ (.tail _ (.tail _ (.head _))))) (gq (m := 2) (fun _ => rfl) _) (by omega) (by omega) fun h4 c4 l4 f4 hc4 => ⟨_, rfl, ?_⟩
 have K4 := K3.off (.tail (.tail (.tail .head))) l4 f4
 (refine kr_ ?_)
 refine xd (K4.at (.tail _ (.tail _ (.tail _ (.tail _ (.head _)))))) (by simp) (by omega) (by omega) fun h5 c5 l5 f5 hc5 => ⟨_, rfl, ?_⟩
 have K5 := K4.off (.tail (.tail (.tail (.tail .head)))) l5 f5
 (refine kr_ ?_)
 refine xd (K5.at (.tail _ (.tail _ (.tail _ (.tail _ (.tail _ (.head _))))))) (by simp) (by omega) (by omega) fun h6 c6 l6 f6 hc6 => ⟨_, rfl, ?_⟩
 have K6 := K5.off (.tail (.tail (.tail (.tail (.tail .head))))) l6 f6
 have nd := K6.nd
 rw [List.map_cons, List.nodup_cons] at nd
 refine k h6 [(bn, .inl ⟨c2, m.nodes.length * 9, false⟩), (bi, .inl ⟨c3, m.inits.length * 2, false⟩), (bx, .inl ⟨c4, m.nexts.length * 2, false⟩), (bb, .inl ⟨c5, m.bads.length * 1, false⟩), (bh, .inl ⟨c6, m.holds.length * 1, false⟩)] rfl (K6.sub (L' := [(bn, .inl ⟨c2, m.nodes.length * 9, false⟩), (bi, .inl ⟨c3, m.inits.length * 2, false⟩), (bx, .inl ⟨c4, m.nexts.length * 2, false⟩), (bb, .inl ⟨c5, m.bads.length * 1, false⟩), (bh, .inl ⟨c6, m.holds.length * 1, false⟩)] ++ X) (fun e he => .tail _ he) nd.2) _ (by omega)
theorem jb (v : Int) (f : Nat -> Bool) : (da v f).ns.length <= 600 := by
 unfold da qW
 split
 ·split
  ·simp [gO]
  ·rename_i r h; split at h
   ·cases h
   ·cases h; dsimp only; omega
 ·simp [gO]
theorem list9 {cs : List Value} (h : cs.length = 9) : ∃ a b c d e f g i j, cs = [a, b, c, d, e, f, g, i, j] := by
 match cs, h with
 | [a, b, c, d, e, f, g, i, j], _ => exact ⟨a, b, c, d, e, f, g, i, j, rfl⟩
theorem list2 {cs : List Value} (h : cs.length = 2) : ∃ a b, cs = [a, b] := by
 match cs, h with
 | [a, b], _ => exact ⟨a, b, rfl⟩
theorem Got.flat {P : Program} {W : World} {t e : TypeId} {v : Value} {α : Type} {f : α -> List Value} {m : Nat} {p : α -> Prop} (hf : ∀ x, (f x).length = m) (hpos : 0 < m) (ht : P.underlying t = some (.slice e)) (hsz : P.cellsOf e = m)
  (hg : ∀ ds, Got P W e ds -> ∃ x, ds = f x /\ p x) (g : Got P W t [v]) : ∃ (s : Sl) (l : List α), v = s.v /\ s.n <= s.c /\ SlC (hW W) s m (l.flatMap f) /\ ∀ x ∈ l, p x := by
 obtain ⟨s, hs, hm, hlc, h⟩ := Got.slice ht hsz hpos g
 simp only [List.cons.injEq, and_true] at hs
 rcases h with h | ⟨b, o, ha, h⟩
 ·exact ⟨s, [], hs, hlc, ⟨hm, by simp [h], .inl h⟩, by simp⟩
 obtain ⟨xs, hl, hx⟩ := Bl (p := fun i (x : α) => (∀ (j : Nat) v, (f x)[j]? = some v -> Hp.cell (hW W) b (o + i * m + j) = some v) /\ p x) s.n fun i hi => by
  obtain ⟨ds, hd, hgd, hc⟩ := h i hi
  obtain ⟨x, rfl, hp⟩ := hg ds hgd
  exact ⟨x, hc, hp⟩
 refine ⟨s, xs, hs, hlc, ⟨hm, by rw [gq hf, hl], .inr ⟨b, o, ha, ?_⟩⟩, ?_⟩
 ·intro i v hv
  have hi : i < (xs.flatMap f).length := (List.getElem?_eq_some_iff.1 hv).1
  rw [gq hf] at hi
  have hq : i / m < xs.length := by rw [Nat.div_lt_iff_lt_mul hpos]; exact hi
  have hr : i % m < m := Nat.mod_lt _ hpos
  have he : i = i / m * m + i % m := by rw [Nat.mul_comm]; exact (Nat.div_add_mod _ _).symm
  rw [he, tp hf xs (i / m) xs[i / m] (i % m) (List.getElem?_eq_getElem hq) hr] at hv
  have := (hx (i / m) hq).1 _ _ hv
  rw [he, <- Nat.add_assoc]; exact this
 ·intro x hxm
  obtain ⟨i, hi, rfl⟩ := List.getElem_of_mem hxm
  exact (hx i hi).2
def tb (n : Nat) (T : Nat -> Bool) : List Value := (List.range n).map fun i => .bool (T i)
theorem eW (n : Nat) (T : Nat -> Bool) : (tb n T).length = n := by simp [tb]
theorem jD {n j : Nat} {T : Nat -> Bool} (hj : j < n) : (tb n T)[j]? = some (.bool (T j)) := by simp [tb, hj]
theorem S4 {n : Nat} {T U : Nat -> Bool} (h : ∀ j, j < n -> T j = U j) : tb n T = tb n U := by
 refine List.map_congr_left fun j hj => ?_
 rw [h j (List.mem_range.1 hj)]
theorem hR (n : Nat) : List.replicate n (.bool false) = tb n fun _ => false := by
 refine List.ext_getElem (by simp [tb]) fun i h1 h2 => ?_
 simp [tb]
theorem iL {n j : Nat} {T : Nat -> Bool} {v : Bool} : (tb n T).set j (.bool v) = tb n fun i => if i = j then v else T i := by
 refine List.ext_getElem (by simp [tb]) fun i h1 h2 => ?_
 rw [List.getElem_set]
 simp only [tb, List.getElem_map, List.getElem_range]
 by_cases e : i = j
 ·rw [if_pos e, if_pos e.symm]
 ·rw [if_neg e, if_neg fun h => e h.symm]
theorem S0 (n : Nat) (T : Nat -> Bool) : tb n T = ((List.range n).map T).map Value.bool := by simp [tb]
theorem gl {h : Hp} {b n z : Nat} {ro : Bool} {T U : Nat -> Bool} (hn : n <= 9223372036854775807) (f : h b = some (.inl ⟨tb n T, z, ro⟩)) (e : ∀ j, j < n -> T j = U j) : cy h (arr b n) n U := by
 refine ⟨by dsimp only; omega, by simp, .inr ⟨b, 0, rfl, ?_⟩⟩
 have := ax f
 rwa [S4 e, S0] at this
theorem dz {σ : ar} (ok : σ.Ok) : 2 ^ σ.n <= 256 := by
 have := Nat.pow_le_pow_right (n := 2) (by omega) ok.nle
 simpa using this
theorem yU {σ : ar} (ok : σ.Ok) : 2 ^ σ.k <= 32 := by
 have := Nat.pow_le_pow_right (n := 2) (by omega) ok.kle
 simpa using this
theorem lc {σ : ar} (ok : σ.Ok) : 2 ^ (σ.n + σ.k) <= 8192 := by
 have h1 := ok.nle
 have h2 := ok.kle
 have := Nat.pow_le_pow_right (n := 2) (by omega) (show σ.n + σ.k <= 13 by omega)
 simpa using this
theorem Bw {h : Hp} {b s i : Nat} {σ : ar} {R : Value -> Hp -> Prop} (hs : jP h b σ) (ok : σ.Ok) (h1 : s < 2 ^ σ.n) (h2 : i < 2 ^ σ.k) (k : R (I (σ.at_ s i : Nat)) h) :
  fD #[.pointer (some ⟨b, 0, none⟩), I s, I i] h R := by
 apply zm
 refine uf_ ?_
 obtain ⟨M, st, hold, bad, next, fx, _, _, _⟩ := hs
 have hn := dz ok
 have hk := lc ok
 have hl := ar.at_lt h1 h2
 have h8 := ok.nle
 unfold ar.at_ at hl k
 refine cB ?_
 (refine am ?_)
 rw [if_neg (by omega), gt (by omega) (by omega), ye (by omega) (by omega)]
 refine m2 ?_ k
 rw [<- Nat.shiftLeft_eq, <- Nat.shiftLeft_add_eq_or_of_lt h1, Nat.shiftLeft_eq]
theorem rl {h : Hp} {b c : Nat} {σ : ar} {R : Value -> Hp -> Prop} (hs : jP h b σ) (hc : c < 2 ^ (σ.n + σ.k)) (k : R (.bool (σ.ends c)) h) :
  eI #[.pointer (some ⟨b, 0, none⟩), I c] h R := by
 apply wl
 refine uf_ ?_
 obtain ⟨M, st, hold, bad, next, fx, hh, hb, _⟩ := hs
 refine cB ?_
 (refine am ?_)
 obtain ⟨b', o', ha, h1, h2⟩ := hh.get hc
 refine ⟨b', o', ha, by omega, h1, _, h2, ?_⟩
 unfold ar.ends at k
 refine ad (fun e => ?_) (fun e => ?_)
 ·refine cB ?_
  (refine am ?_)
  obtain ⟨b', o', ha, h1, h2⟩ := hb.get hc
  refine ⟨b', o', ha, by omega, h1, _, h2, dk ?_ k⟩
  rw [e]; rfl
 ·rw [e] at k; exact k
def Ug (h : Hp) (fid : FuncId) (u w : Array Value) (σ : ar) (f : Nat -> Nat -> Bool) : Prop :=
 ∀ s i : Nat, s < 2 ^ σ.n -> i < 2 ^ σ.k -> ∀ h' : Hp, h.le h' -> ∀ R : Value -> Hp -> Prop, R (.bool (f s (σ.at_ s i))) h' -> ACalls PR fid ((u ++ #[I s, I (σ.at_ s i : Nat)]) ++ w) h' R
theorem mg {h : Hp} {b : Nat} {σ : ar} {fid : FuncId} {u w : Array Value} {f : Nat -> Nat -> Bool} {R : Value -> Hp -> Prop} (hs : jP h b σ) (ok : σ.Ok) (hf : Ug h fid u w σ f)
  (k : ∀ t h', h.le h' -> cy (h'.sub h) t (2 ^ σ.n) (σ.some_ f) -> R (Sl.v t) h') : cZ #[.pointer (some ⟨b, 0, none⟩), .func (.func fid) u w] h R := by
 apply vT
 refine uf_ ?_
 have hn := dz ok
 have hk := yU ok
 have h8 := ok.nle
 have h5 := ok.kle
 obtain ⟨M, st, hold, bad, next, fx, _⟩ := id hs
 have K0 := Kn.nil h
 refine cB ?_
 (refine am ?_)
 rw [if_neg (by omega), cu (by omega)]
 refine ⟨Int.natCast_nonneg _, Int.le_refl _, by omega, by omega, ?_⟩
 (with_reducible apply Kn.al); (assumption); (intro b10 h1 K1 l1 hb10)
 rw [Int.toNat_natCast, Nat.mul_one, bM, hR] at K1
 rw [Int.toNat_natCast]
 refine aq (2 ^ σ.n) (fun s vs h' => vs = [.pointer (some ⟨b, 0, none⟩), .func (.func fid) u w, (arr b10 (2 ^ σ.n)).v, I (2 ^ σ.n : Nat), I s] /\
  ∃ T, Kn h h' [(b10, .inl ⟨tb (2 ^ σ.n) T, 2 ^ σ.n, false⟩)] /\ (∀ j, j < s -> T j = σ.some_ f j) /\ ∀ j, s <= j -> T j = false) ⟨rfl, _, K1, fun j hj => by omega, fun _ _ => rfl⟩ ?_
 clear K1 K0 l1 hb10 h1
 rintro s _ h1 next hs' ⟨rfl, T, K1, hT1, hT2⟩ hnx
 refine ⟨_, _, _, _, arr b10 _, _, _, rfl, ?_⟩
 by_cases hlt : s < 2 ^ σ.n
 rotate_left
 ·refine ak (by rw [decide_eq_false_iff_not]; omega) ?_
  exact k _ h1 K1.le (gl (by omega) (by rw [jB (K1.new _ (.head _))]; exact K1.at (.head _)) fun j hj => hT1 j (by omega))
 refine aH (by rw [decide_eq_true_eq]; exact_mod_cast hlt) ?_
 refine cB ?_
 (refine kr_ ?_)
 rw [if_neg (by omega), cu (by omega)]
 refine aq (2 ^ σ.k) (fun i vs h' => vs = [.pointer (some ⟨b, 0, none⟩), .func (.func fid) u w, (arr b10 (2 ^ σ.n)).v, I s, I (2 ^ σ.n : Nat), I s, I (2 ^ σ.k : Nat), I i] /\
  ∃ T, Kn h h' [(b10, .inl ⟨tb (2 ^ σ.n) T, 2 ^ σ.n, false⟩)] /\ (∀ j, j < s -> T j = σ.some_ f j) /\ (∀ j, s < j -> T j = false) /\ T s = lq i fun x => f s (σ.at_ s x))
  ⟨rfl, T, K1, hT1, fun j hj => hT2 j (by omega), by rw [hT2 s (Nat.le_refl _)]; rfl⟩ ?_
 clear K1 hT1 hT2 T h1
 rintro i _ h1 next2 hi ⟨rfl, T, K1, hT1, hT2, hT3⟩ hnx2
 refine ⟨_, _, _, _, arr b10 _, _, _, _, _, _, rfl, ?_⟩
 by_cases hli : i < 2 ^ σ.k
 rotate_left
 ·refine ak (by rw [decide_eq_false_iff_not]; omega) ?_
  have hie : i = 2 ^ σ.k := by omega
  rw [az (by omega)]
  refine hnx hlt _ _ ⟨rfl, T, K1, fun j hj => ?_, fun j hj => hT2 j (by omega)⟩
  by_cases e : j = s
  ·rw [e, hT3, hie]; rfl
  ·exact hT1 j (by omega)
 refine aH (by rw [decide_eq_true_eq]; exact_mod_cast hli) ?_
 have upd : ∀ v, v = lq (i + 1) (fun x => f s (σ.at_ s x)) -> ∀ h', Kn h h' [(b10, .inl ⟨(tb (2 ^ σ.n) T).set s (.bool v), 2 ^ σ.n, false⟩)] ->
   next2 [.pointer (some ⟨b, 0, none⟩), .func (.func fid) u w, (arr b10 (2 ^ σ.n)).v, I s, I (2 ^ σ.n : Nat), I s, I (2 ^ σ.k : Nat), I (W ((i : Int) + 1))] h' := by
  intro v hv h' K
  rw [az (by omega)]
  rw [iL] at K
  exact hnx2 hli _ _ ⟨rfl, _, K, fun j hj => by rw [if_neg (by omega)]; exact hT1 j hj, fun j hj => by rw [if_neg (by omega)]; exact hT2 j hj, by rw [if_pos rfl]; exact hv⟩
 refine ⟨b10, 0, rfl, by omega, by dsimp only; omega, ?_⟩
 refine Kn.rd K1 (.head _) (x := T s) (by rw [Nat.zero_add, Nat.mul_one, Int.toNat_natCast]; exact jD hlt) ?_
 refine ad (fun e => ?_) (fun e => ?_)
 ·refine ⟨b10, 0, rfl, by omega, by dsimp only; omega, ?_⟩
  (((with_reducible apply Kn.wr); (assumption); ((focus ((repeat first | exact .head | apply Upd.tail); done)))))
  ·rw [eW]; omega
  intro h2 K2 _
  rw [bk, Nat.zero_add, Int.toNat_natCast, Nat.mul_one] at K2
  exact upd true (by rw [Fj, <- hT3, e]; rfl) h2 K2
 ·refine Bw (hs.mono K1.le) ok hlt hli ⟨_, rfl, ?_⟩
  refine hf s i hlt hli h1 K1.le _ ⟨_, rfl, ?_⟩
  refine ⟨b10, 0, rfl, by omega, by dsimp only; omega, ?_⟩
  (((with_reducible apply Kn.wr); (assumption); ((focus ((repeat first | exact .head | apply Upd.tail); done)))))
  ·rw [eW]; omega
  intro h2 K2 _
  rw [bk, Nat.zero_add, Int.toNat_natCast, Nat.mul_one] at K2
  exact upd _ (by rw [Fj, <- hT3, e]; rfl) h2 K2
def xr (h : Hp) (s : Sl) (n m : Nat) (L : Nat -> Nat -> Bool) : Prop := ∃ ts : List Sl, ts.length = m /\ SlC h s 1 (ts.map Sl.v) /\ ∀ (j : Nat) (t : Sl), ts[j]? = some t -> cy h t n (L j)
theorem xr.mono {h h' : Hp} {s : Sl} {n m : Nat} {L : Nat -> Nat -> Bool} (l : h.le h') (e : xr h s n m L) : xr h' s n m L := by
 obtain ⟨ts, e1, e2, e3⟩ := e
 exact ⟨ts, e1, e2.mono l, fun j t ht => (e3 j t ht).mono l⟩
theorem xr.len {h : Hp} {s : Sl} {n m : Nat} {L : Nat -> Nat -> Bool} (e : xr h s n m L) : s.n = m := by
 obtain ⟨ts, e1, e2, _⟩ := e
 have := e2.2.1
 simp at this; omega
theorem xr.get {h : Hp} {s : Sl} {n m i : Nat} {L : Nat -> Nat -> Bool} (e : xr h s n m L) (hi : i < m) :
  ∃ b o t, s.a = some (Addr.mk b o none) /\ (i : Int) < (s.n : Int) /\ Hp.cell h b (o + Int.toNat (i : Int) * 1) = some (Sl.v t) /\ cy h t n (L i) := by
 have hl := e.len
 obtain ⟨ts, e1, e2, e3⟩ := e
 obtain ⟨t, ht⟩ : ∃ t, ts[i]? = some t := ⟨_, List.getElem?_eq_getElem (by omega)⟩
 obtain ⟨b, o, ha, hc⟩ := SlC.get e2 (by omega)
 refine ⟨b, o, t, ha, by omega, ?_, e3 i t ht⟩
 rw [Int.toNat_natCast, Nat.mul_one]
 exact hc i _ (by simp [ht])
def ez (X : List (Nat × Blk)) (s : Sl) (sz : Nat) (cs : List Value) : Prop :=
 cs.length = s.n * sz /\ s.n <= s.c /\ ((X = [] /\ s = ⟨none, 0, 0⟩ /\ cs = []) \/ ∃ b, s.a = some ⟨b, 0, none⟩ /\ X = [(b, .inl ⟨cs, s.c * sz, false⟩)])
theorem fe (sz : Nat) : ez [] ⟨none, 0, 0⟩ sz [] := ⟨by simp, Nat.le_refl _, .inl ⟨rfl, rfl, rfl⟩⟩
theorem ez.buf {X : List (Nat × Blk)} {h : Hp} {s : Sl} {sz : Nat} {cs : List Value} (o : ez X s sz cs) (m : ∀ e ∈ X, h e.1 = some e.2) : Buf h s sz cs := by
 refine ⟨o.1, o.2.1, ?_⟩
 rcases o.2.2 with ⟨_, rfl, _⟩ | ⟨b, ha, rfl⟩
 ·exact .inl ⟨rfl, rfl, rfl⟩
 ·exact .inr ⟨b, ha, m _ (.head _)⟩
theorem Kn.perm {g h : Hp} {L L' : List (Nat × Blk)} (K : Kn g h L) (p : L.Perm L') : Kn g h L' := K.sub (fun e he => p.mem_iff.2 he) ((p.map Prod.fst).nodup_iff.1 K.nd)
theorem Kn.grow {g h : Hp} {X L : List (Nat × Blk)} {s : Sl} {sz by_ m : Nat} {cs news : List Value} {src : Option Addr} {C : Option Addr -> Nat -> Nat -> Hp -> Prop}
  (K : Kn g h (X ++ L)) (o : ez X s sz cs) (hm : 0 < m) (hsz : (s.n + m) * by_ <= 140737488355328) (hsz' : s.n + m <= 9223372036854775807)
  (hs : ∃ sb so, src = some ⟨sb, so, none⟩ /\ ir h sb so news) (hl : news.length = m * sz) (ho : news.all (·.oneCell') = true)
  (k : ∀ s' X' h', s'.n = s.n + m -> ez X' s' sz (cs ++ news) -> Kn g h' (X' ++ L) -> (h.offS s).le h' -> C s'.a s'.n s'.c h') : dW h s.a s.n s.c src m sz by_ C := by
 refine dg (o.buf fun e he => K.mem e (List.mem_append_left _ he)) hm hsz hsz' hs hl ho fun s' h' hn B l _ => ?_
 have nd := K.nd
 rw [List.map_append, List.nodup_append] at nd
 have base : g.le (h.offS s) /\ ∀ e ∈ L, (h.offS s) e.1 = some e.2 := by
  rcases o.2.2 with ⟨_, rfl, _⟩ | ⟨b, ha, rfl⟩
  ·exact ⟨K.le, fun e he => K.mem e (List.mem_append_right _ he)⟩
  ·unfold Hp.offS
   rw [ha]
   refine ⟨v7 (K.new (b, _) (.head _)) K.le, fun e he => ?_⟩
   have hne : e.1 ≠ b := fun hb => nd.2.2 b (by simp) e.1 (List.mem_map.2 ⟨e, he, rfl⟩) hb.symm
   simp only [Hp.off, Hp.set]
   rw [if_neg hne]; exact K.mem e (List.mem_append_right _ he)
 rcases B.2.2 with ⟨_, h0, _⟩ | ⟨b, ha, hb⟩
 ·omega
 have hoff : (h'.offS s') b = none := by simp [Hp.offS, ha, Hp.off, Hp.set]
 refine k s' [(b, .inl ⟨cs ++ news, s'.c * sz, false⟩)] h' hn ⟨B.1, B.2.1, .inr ⟨b, ha, rfl⟩⟩ ?_ (Hp.le_trans l (aO h' s'))
 have lo := aO h' s'
 have hg : g b = none := by
  cases hgb : g b with
  | none => rfl
  | some x => rw [l _ _ (base.1 _ _ hgb)] at hoff; cases hoff
 refine ⟨Hp.le_trans base.1 (Hp.le_trans l lo), fun e he => ?_, fun e he => ?_, ?_⟩
 ·rcases List.mem_cons.1 he with rfl | he
  ·exact hb
  ·exact lo _ _ (l _ _ (base.2 e he))
 ·rcases List.mem_cons.1 he with rfl | he
  ·exact hg
  ·exact K.new e (List.mem_append_right _ he)
 ·show (b :: L.map Prod.fst).Nodup
  rw [List.nodup_cons]
  refine ⟨fun hm => ?_, nd.2.1⟩
  obtain ⟨e, he, heb⟩ := List.mem_map.1 hm
  have := l _ _ (base.2 e he)
  rw [heb, hoff] at this; cases this
theorem Kn.growIn {g h : Hp} {A X L : List (Nat × Blk)} {s : Sl} {sz by_ m : Nat} {cs news : List Value} {src : Option Addr} {C : Option Addr -> Nat -> Nat -> Hp -> Prop}
  (K : Kn g h (A ++ (X ++ L))) (o : ez X s sz cs) (hm : 0 < m) (hsz : (s.n + m) * by_ <= 140737488355328) (hsz' : s.n + m <= 9223372036854775807)
  (hs : ∃ sb so, src = some ⟨sb, so, none⟩ /\ ir h sb so news) (hl : news.length = m * sz) (ho : news.all (·.oneCell') = true)
  (k : ∀ s' X' h', s'.n = s.n + m -> ez X' s' sz (cs ++ news) -> Kn g h' (A ++ (X' ++ L)) -> (h.offS s).le h' -> C s'.a s'.n s'.c h') : dW h s.a s.n s.c src m sz by_ C := by
 have sw : ∀ Y : List (Nat × Blk), (A ++ (Y ++ L)).Perm (Y ++ (A ++ L)) := fun Y => by
  rw [<- List.append_assoc, <- List.append_assoc]
  exact List.perm_append_comm.append_right L
 exact Kn.grow (K.perm (sw X)) o hm hsz hsz' hs hl ho fun s' X' h' hn o' K' l => k s' X' h' hn o' (K'.perm (sw X').symm) l
theorem Kn.growIn2 {g h : Hp} {A Y X L : List (Nat × Blk)} {s : Sl} {sz by_ m : Nat} {cs news : List Value} {src : Option Addr} {C : Option Addr -> Nat -> Nat -> Hp -> Prop}
  (K : Kn g h (A ++ (Y ++ (X ++ L)))) (o : ez X s sz cs) (hm : 0 < m) (hsz : (s.n + m) * by_ <= 140737488355328) (hsz' : s.n + m <= 9223372036854775807)
  (hs : ∃ sb so, src = some ⟨sb, so, none⟩ /\ ir h sb so news) (hl : news.length = m * sz) (ho : news.all (·.oneCell') = true)
  (k : ∀ s' X' h', s'.n = s.n + m -> ez X' s' sz (cs ++ news) -> Kn g h' (A ++ (Y ++ (X' ++ L))) -> (h.offS s).le h' -> C s'.a s'.n s'.c h') : dW h s.a s.n s.c src m sz by_ C := by
 have sw : ∀ Z : List (Nat × Blk), (A ++ (Y ++ (Z ++ L))).Perm (A ++ (Z ++ (Y ++ L))) := fun Z => by
  refine List.Perm.append_left A ?_
  rw [<- List.append_assoc, <- List.append_assoc]
  exact List.perm_append_comm.append_right L
 exact Kn.growIn (K.perm (sw X)) o hm hsz hsz' hs hl ho fun s' X' h' hn o' K' l => k s' X' h' hn o' (K'.perm (sw X').symm) l
theorem Kn.growIn3 {g h : Hp} {A Y Z X L : List (Nat × Blk)} {s : Sl} {sz by_ m : Nat} {cs news : List Value} {src : Option Addr} {C : Option Addr -> Nat -> Nat -> Hp -> Prop}
  (K : Kn g h (A ++ (Y ++ (Z ++ (X ++ L))))) (o : ez X s sz cs) (hm : 0 < m) (hsz : (s.n + m) * by_ <= 140737488355328) (hsz' : s.n + m <= 9223372036854775807)
  (hs : ∃ sb so, src = some ⟨sb, so, none⟩ /\ ir h sb so news) (hl : news.length = m * sz) (ho : news.all (·.oneCell') = true)
  (k : ∀ s' X' h', s'.n = s.n + m -> ez X' s' sz (cs ++ news) -> Kn g h' (A ++ (Y ++ (Z ++ (X' ++ L)))) -> (h.offS s).le h' -> C s'.a s'.n s'.c h') : dW h s.a s.n s.c src m sz by_ C := by
 have sw : ∀ W : List (Nat × Blk), (A ++ (Y ++ (Z ++ (W ++ L)))).Perm (A ++ ((Y ++ Z) ++ (W ++ L))) := fun W => by rw [<- List.append_assoc Y Z]
 exact Kn.growIn2 (K.perm (sw X)) o hm hsz hsz' hs hl ho fun s' X' h' hn o' K' l => k s' X' h' hn o' (K'.perm (sw X').symm) l
theorem ez.slc {X A L : List (Nat × Blk)} {g h : Hp} {s : Sl} {sz : Nat} {cs : List Value} (o : ez X s sz cs) (K : Kn g h (A ++ (X ++ L))) (hn : s.n <= 9223372036854775807) : SlC h s sz cs :=
 (o.buf fun e he => K.mem e (List.mem_append_right _ (List.mem_append_left _ he))).slc_of hn
theorem jq.offG {X : List (Nat × Blk)} {h : Hp} {A s : Sl} {f : Nat -> Bool} {n : Nat} {vs : List (List Nat)} (e : jq h s vs) (o : ez X A 1 ((List.range n).map fun i => .bool (f i))) (m : ∀ e ∈ X, h e.1 = some e.2) : jq (h.offS A) s vs := by
 rcases o.2.2 with ⟨_, rfl, _⟩ | ⟨b, ha, rfl⟩
 ·exact e
 ·unfold Hp.offS
  rw [ha]
  refine e.keep (m _ (.head _)) (fun j i hj => ?_) (fun j t hj => ?_) fun c hc => by simp [Hp.off, Hp.set, hc]
  ·simp only [List.getElem?_map, Option.map_eq_some_iff] at hj
   obtain ⟨a, _, hj⟩ := hj
   cases hj
  ·simp only [List.getElem?_map, Option.map_eq_some_iff] at hj
   obtain ⟨a, _, hj⟩ := hj
   cases hj
theorem jq.keepB {h h' : Hp} {s : Sl} {b : Nat} {vs : List (List Nat)} (e : jq h s vs) (n : ∀ o, s.a ≠ some (Addr.mk b o none)) (kp : ∀ c, c ≠ b -> h' c = h c) (ki : ∀ o i, Hp.cell h b o = some (I i) -> Hp.cell h' b o = some (I i)) : jq h' s vs := by
 have hc : ∀ c o i, Hp.cell h c o = some (I i) -> Hp.cell h' c o = some (I i) := fun c o i hi => by
  by_cases e2 : c = b
  ·subst e2; exact ki o i hi
  ·unfold Hp.cell at hi ⊢; rw [kp c e2]; exact hi
 refine ⟨e.1, e.2.1, fun p hp => ?_⟩
 obtain ⟨b', o, t, h1, h2, h3⟩ := e.2.2 p hp
 refine ⟨b', o, t, h1, ?_, h3.1, h3.2.1, h3.2.2.imp id ?_⟩
 ·have hne : b' ≠ b := by rintro rfl; exact n o h1
  unfold Hp.cell at h2 ⊢; rw [kp b' hne]; exact h2
 ·rintro ⟨c, o', ha, hcs⟩
  refine ⟨c, o', ha, fun i v hv => ?_⟩
  have hvI := hv
  rw [List.getElem?_map, Option.map_eq_some_iff] at hvI
  obtain ⟨x, _, rfl⟩ := hvI
  exact hc _ _ _ (hcs i _ hv)
structure yp where
 hs : Sl
 es : Sl
 ns : Sl
 fs : Sl
 bs : Sl
abbrev u6 (σ : ar) (q : yp) : List Value := [I (2 ^ σ.n : Nat), I (2 ^ σ.k : Nat), q.hs.v, q.es.v, q.ns.v, q.fs.v, q.bs.v]
abbrev AP (σ : ar) (q : yp) : Value := .agg #[I (2 ^ σ.n : Nat), I (2 ^ σ.k : Nat), q.hs.v, q.es.v, q.ns.v, q.fs.v, q.bs.v]
def wk (h : Hp) (q : yp) (σ : ar) : Prop := cy h q.hs (2 ^ (σ.n + σ.k)) σ.hold /\ cy h q.es (2 ^ (σ.n + σ.k)) σ.ends /\ wd h q.ns (2 ^ (σ.n + σ.k)) σ.next /\
 (∃ fm, fm + σ.fixed = 2 ^ σ.n - 1 /\ IntS h q.fs (VL (db fm))) /\ cy h q.bs (2 ^ σ.n) σ.begins
theorem wk.mono {h h' : Hp} {q : yp} {σ : ar} (l : h.le h') (e : wk h q σ) : wk h' q σ := by
 obtain ⟨a, b, c, ⟨fm, d1, d2⟩, f⟩ := e
 exact ⟨a.mono l, b.mono l, c.mono l, ⟨fm, d1, d2.mono l⟩, f.mono l⟩
theorem pl {α : Type} (f : Nat -> α) (c : Nat) : (List.range (c + 1)).map f = (List.range c).map f ++ [f c] := by rw [List.range_succ, List.map_append]; rfl
theorem JZ {m : aj} (g : eZ m) : iU m + (aQ m).fixed = 2 ^ (aQ m).n - 1 := by
 have := OX m.nodes (fun p => (cm m.nexts p).isSome) (stP m)
 have e := hG g
 show iU m + Jq m m.nexts = 2 ^ av m.nodes 36 - 1
 rw [<- e, <- this, Nat.add_comm]; rfl
theorem iX {h : Hp} {M : MSl} {m : aj} {R : Value -> Hp -> Prop} (hs : aG h M m) (hm : bU m) (hc0 : aR m = 0)
  (k : ∀ q h', h.le h' -> wk h' q (aQ m) -> R (AP (aQ m) q) h') : em #[aN M] h R := by
 apply GC
 refine uf_ ?_
 have g := gF hc0
 have hn8 := g.n8
 have hk5' := g.k5
 have ok := fT g
 have hp8 := dz ok
 have hk5 := yU ok
 have hp13 := lc ok
 have hnk := ar.pow_nk (aQ m)
 have K0 := Kn.nil h
 (with_reducible apply Kn.al); (assumption); (intro b7 h1 K1 l1 hb7)
 (with_reducible apply Kn.al); (assumption); (intro b9 h2 K2 l2 hb9)
 clear K0 K1 l1 hb7
 repeat' (refine kr_ ?_)
 refine jp (hs.mono K2.le) hm ⟨_, rfl, ?_⟩
 repeat' (refine kr_ ?_)
 refine jp (hs.mono K2.le) hm ⟨_, rfl, ?_⟩
 rw [dl (by omega), dl (by omega), if_neg (by omega), if_neg (by omega), cu (by omega), cu (by omega), show av m.nodes 36 = (aQ m).n from rfl, show av m.nodes 35 = (aQ m).k from rfl]
 repeat' (refine kr_ ?_)
 refine F0 (hs.mono K2.le) hm g fun F h3 l3 hF => ⟨_, rfl, ?_⟩
 have hF' : IntS (h3.wo (([(b9, .inl ⟨[I 0, I 0, .slice none 0 0, .slice none 0 0, .slice none 0 0, .slice none 0 0, .slice none 0 0], 7, false⟩), (b7, .inl ⟨ck M, 5, false⟩)] : List (Nat × Blk)).map Prod.fst)) F (VL (db (iU m))) :=
  SlC.mono (nk (sub_le _ _) fun b hb => by
   cases hx : h2 b with
   | none => exact absurd hx (K2.has b hb)
   | some x => exact jW hx) hF
 have K3 := (K2.mono l3).base
 have lg := (K2.mono l3).leBase
 clear hF K2
 generalize h3.wo (([(b9, .inl ⟨[I 0, I 0, .slice none 0 0, .slice none 0 0, .slice none 0 0, .slice none 0 0, .slice none 0 0], 7, false⟩), (b7, .inl ⟨ck M, 5, false⟩)] : List (Nat × Blk)).map Prod.fst) = g3 at *
 have hs3 := hs.mono lg
 (with_reducible apply Kn.al); (assumption); (intro b38 h4 K4 l4 hb38)
 (((with_reducible apply Kn.wr); (assumption); ((focus ((repeat first | exact .head | apply Upd.tail); done)))))
 ·exact Nat.le_refl _
 intro h5 K5 kp5
 simp only [dZ, List.set_cons_zero, List.set_cons_succ, Nat.zero_add, Nat.reduceAdd] at K5
 clear kp5 K4 l4 hb38
 refine aq (2 ^ ((aQ m).n + (aQ m).k)) (fun c vs h' => ∃ (A B C : Sl) (XA XB XC : List (Nat × Blk)), vs = [.pointer (some ⟨b7, 0, none⟩), .pointer (some ⟨b9, 0, none⟩), .pointer (some ⟨b38, 0, none⟩), I c] /\
  Kn g3 h' ((b38, .inl ⟨[I (2 ^ (aQ m).n : Nat), I (2 ^ (aQ m).k : Nat), A.v, B.v, C.v, F.v, (⟨none, 0, 0⟩ : Sl).v], 7, false⟩) :: (b9, .inl ⟨[I 0, I 0, .slice none 0 0, .slice none 0 0, .slice none 0 0, .slice none 0 0, .slice none 0 0], 7, false⟩) :: (b7, .inl ⟨ck M, 5, false⟩) :: (XA ++ (XB ++ (XC ++ [])))) /\ ez XA A 1 ((List.range c).map fun i => .bool ((aQ m).hold i)) /\ ez XB B 1 ((List.range c).map fun i => .bool ((aQ m).ends i)) /\
   ez XC C 1 ((List.range c).map fun i => I ((aQ m).next i : Nat))) ⟨⟨none, 0, 0⟩, ⟨none, 0, 0⟩, ⟨none, 0, 0⟩, [], [], [], rfl, K5, fe _, fe _, fe _⟩ ?_
 clear K5 h5
 rintro c _ h5 nxt hc ⟨A, B, C, XA, XB, XC, rfl, K, oA, oB, oC⟩ hnx
 refine ⟨b7, 0, b9, 0, b38, 0, _, rfl, ?_⟩
 repeat' (refine kr_ ?_)
 have hxy : ((2 ^ (aQ m).n : Nat) : Int) * ((2 ^ (aQ m).k : Nat) : Int) = ((2 ^ ((aQ m).n + (aQ m).k) : Nat) : Int) := by rw [hnk, <- Int.natCast_mul, Nat.mul_comm]
 rw [hxy, fj (by omega)]
 have hAn : A.n = c := by have := oA.1; simp at this; omega
 have hBn : B.n = c := by have := oB.1; simp at this; omega
 have hCn : C.n = c := by have := oC.1; simp at this; omega
 by_cases hlt : c < 2 ^ ((aQ m).n + (aQ m).k)
 ·refine aH (by rw [decide_eq_true_eq]; exact_mod_cast hlt) ?_
  repeat' (refine kr_ ?_)
  refine vz (hs3.mono K.le) hm g hlt fun t h6 l6 htn hpv hnew => ⟨t, rfl, ?_⟩
  have n38 : ∀ o, t.a ≠ some (Addr.mk b38 o none) := fun o ho => by have := hnew _ _ ho; rw [K.at (.head _)] at this; cases this
  replace K := K.mono l6
  have a : yQ m (fQ m (c % 2 ^ av m.nodes 36) (c / 2 ^ av m.nodes 36)) := uy g _ _
  have hv1 : (aQ m).hold c = ui m (fQ m (c % 2 ^ av m.nodes 36) (c / 2 ^ av m.nodes 36)) := rfl
  have hv2 : (aQ m).bad c = (wc m (fQ m (c % 2 ^ av m.nodes 36) (c / 2 ^ av m.nodes 36))).isSome := rfl
  have hv3 : (aQ m).next c = D1 m (c % 2 ^ av m.nodes 36) (c / 2 ^ av m.nodes 36) := rfl
  repeat' (refine kr_ ?_)
  refine xu (hs3.mono K.le) g hpv a ⟨_, rfl, ?_⟩
  repeat' (refine kr_ ?_)
  rw [<- hv1]
  refine ae fun b80 h7 hb80 l7 f80 => ?_
  replace K := K.mono l7
  replace hpv := hpv.mono l7
  refine Kn.growIn (A := [_, _, _]) K oA (by omega) (by omega) (by omega) ⟨b80, 0, rfl, ax f80⟩ rfl rfl fun A' XA' h8 hn' oA' K8 l8 => ?_
  replace hpv := (hpv.offG oA fun e he => K.mem e (by simp [he])).mono l8
  simp only [List.cons_append, List.nil_append] at K8
  (((with_reducible apply Kn.wr); (assumption); ((focus ((repeat first | exact .head | apply Upd.tail); done)))))
  ·simp
  intro h9 K9 kp9
  have f8 := K8.at (.head _)
  have f9 := K9.at (.head _)
  simp only [bk, List.set_cons_zero, List.set_cons_succ, Nat.zero_add, Nat.reduceAdd] at K9
  rw [bk] at f9
  replace hpv := hpv.keepB n38 kp9 fun o i hi => by
   rw [af f8] at hi
   rw [af f9, List.getElem?_set]
   by_cases e : 0 + 2 = o
   ·subst e; simp at hi
   ·rw [if_neg e]; exact hi
  clear f8 f9
  refine ap (fun J => ∀ (B' : Sl) (XB' : List (Nat × Blk)) (h' : Hp), Kn g3 h' ((b38, .inl ⟨[I (2 ^ (aQ m).n : Nat), I (2 ^ (aQ m).k : Nat), A'.v, B'.v, C.v, F.v, (⟨none, 0, 0⟩ : Sl).v], 7, false⟩) :: (b9, .inl ⟨[I 0, I 0, .slice none 0 0, .slice none 0 0, .slice none 0 0, .slice none 0 0, .slice none 0 0], 7, false⟩) :: (b7, .inl ⟨ck M, 5, false⟩) :: (XA' ++ (XB' ++ (XC ++ [])))) -> ez XB' B' 1 ((List.range (c + 1)).map fun i => .bool ((aQ m).ends i)) -> J h') (fun B' XB' h10 K10 oB' => ?_) (fun J hJ => ?_)
  ·clear K9 K8 K hpv
   have hcm : c % 2 ^ (aQ m).n <= c := Nat.mod_le _ _
   have hcd : c / 2 ^ (aQ m).n <= c := Nat.div_le_self _ _
   have hpos := Nat.two_pow_pos (aQ m).n
   repeat' (refine kr_ ?_)
   rw [if_neg (by omega)]
   repeat' (refine kr_ ?_)
   rw [if_neg (by omega), eR, show Int.tdiv (c : Int) ((2 ^ (aQ m).n : Nat) : Int) = ((c / 2 ^ (aQ m).n : Nat) : Int) from rfl, fj (by omega)]
   refine HD (hs3.mono K10.le) hm g (by omega) (by omega) ⟨_, rfl, ?_⟩
   repeat' (refine kr_ ?_)
   refine ae fun b131 h11 hb131 l11 f131 => ?_
   have K11 := K10.mono l11
   repeat' (refine kr_ ?_)
   refine Kn.growIn3 (A := [_, _, _]) K11 oC (by omega) (by omega) (by omega) ⟨b131, 0, rfl, ax f131⟩ rfl rfl fun C' XC' h12 hn2 oC' K12 _ => ?_
   simp only [List.cons_append, List.nil_append] at K12
   (((with_reducible apply Kn.wr); (assumption); ((focus ((repeat first | exact .head | apply Upd.tail); done)))))
   ·simp
   intro h13 K13 _
   simp only [bk, List.set_cons_zero, List.set_cons_succ, Nat.zero_add, Nat.reduceAdd] at K13
   rw [az (by omega)]
   exact hnx hlt _ _ ⟨A', B', C', XA', XB', XC', rfl, K13, by rw [pl]; exact oA', oB', by rw [pl]; exact oC'⟩
  ·clear K8 K
   refine ad (fun e1 => ?_) (fun e1 => ?_)
   ·repeat' (refine kr_ ?_)
    refine D3 (hs3.mono K9.le) g hpv a ⟨_, rfl, ?_⟩
    repeat' (refine kr_ ?_)
    rw [wx, <- hv2]
    refine ae fun b99 h11 hb99 l11 f99 => ?_
    have K11 := K9.mono l11
    repeat' (refine kr_ ?_)
    refine Kn.growIn2 (A := [_, _, _]) K11 oB (by omega) (by omega) (by omega) ⟨b99, 0, rfl, ax f99⟩ rfl rfl fun B' XB' h12 hn2 oB' K12 _ => ?_
    simp only [List.cons_append, List.nil_append] at K12
    (((with_reducible apply Kn.wr); (assumption); ((focus ((repeat first | exact .head | apply Upd.tail); done)))))
    ·simp
    intro h13 K13 _
    simp only [bk, List.set_cons_zero, List.set_cons_succ, Nat.zero_add, Nat.reduceAdd] at K13
    exact hJ B' XB' h13 K13 (by rw [pl]; unfold ar.ends; rw [e1]; exact oB')
   ·repeat' (refine kr_ ?_)
    refine ae fun b99 h11 hb99 l11 f99 => ?_
    have K11 := K9.mono l11
    repeat' (refine kr_ ?_)
    refine Kn.growIn2 (A := [_, _, _]) K11 oB (by omega) (by omega) (by omega) ⟨b99, 0, rfl, ax f99⟩ rfl rfl fun B' XB' h12 hn2 oB' K12 _ => ?_
    simp only [List.cons_append, List.nil_append] at K12
    (((with_reducible apply Kn.wr); (assumption); ((focus ((repeat first | exact .head | apply Upd.tail); done)))))
    ·simp
    intro h13 K13 _
    simp only [bk, List.set_cons_zero, List.set_cons_succ, Nat.zero_add, Nat.reduceAdd] at K13
    exact hJ B' XB' h13 K13 (by rw [pl]; unfold ar.ends; rw [e1]; exact oB')
 ·refine ak (by rw [decide_eq_false_iff_not]; omega) ?_
  clear hnx
  have hce : c = 2 ^ ((aQ m).n + (aQ m).k) := by omega
  refine aq (2 ^ (aQ m).n) (fun d vs h' => ∃ (D : Sl) (XD : List (Nat × Blk)), vs = [.pointer (some ⟨b7, 0, none⟩), .pointer (some ⟨b9, 0, none⟩), .pointer (some ⟨b38, 0, none⟩), I d] /\
   Kn g3 h' ((b38, .inl ⟨[I (2 ^ (aQ m).n : Nat), I (2 ^ (aQ m).k : Nat), A.v, B.v, C.v, F.v, D.v], 7, false⟩) :: (b9, .inl ⟨[I 0, I 0, .slice none 0 0, .slice none 0 0, .slice none 0 0, .slice none 0 0, .slice none 0 0], 7, false⟩) :: (b7, .inl ⟨ck M, 5, false⟩) :: (XD ++ (XA ++ (XB ++ (XC ++ []))))) /\ ez XD D 1 ((List.range d).map fun i => .bool ((aQ m).begins i))) ⟨⟨none, 0, 0⟩, [], rfl, K, fe _⟩ ?_
  clear K h5 hlt hc
  rintro d _ h5 nxt2 hd ⟨D, XD, rfl, K, oD⟩ hnx2
  have hDn : D.n = d := by have := oD.1; simp at this; omega
  refine ⟨b7, 0, b9, 0, b38, 0, _, rfl, ?_⟩
  repeat' (refine kr_ ?_)
  by_cases hld : d < 2 ^ (aQ m).n
  ·refine aH (by rw [decide_eq_true_eq]; exact_mod_cast hld) ?_
   repeat' (refine kr_ ?_)
   refine fy (hs3.mono K.le) hm fun p h6 l6 ip => ⟨p, rfl, ?_⟩
   have K6 := K.mono l6
   repeat' (refine kr_ ?_)
   refine iH (hs3.mono K6.le) hm g.ok ip (ed g 36) (nw g 36) (by omega) (by have := hG g; show ce m.nodes (stP m) <= 60; omega) fun u h7 l7 iu => ⟨u, rfl, ?_⟩
   have K7 := K6.mono l7
   repeat' (refine kr_ ?_)
   refine pq (hs3.mono K7.le) hm hc0 iu (by rw [Bg]; exact HR _ _ _) ⟨_, rfl, ?_⟩
   have hb : lV (stP m) (jA m) (lI m.nodes (aM m.nodes 36) d) (stP m).length = (aQ m).begins d := by
    rw [Bool.eq_iff_iff, DN, BG g]
   rw [hb]
   repeat' (refine kr_ ?_)
   refine ae fun b184 h8 hb184 l8 f184 => ?_
   have K8 := K7.mono l8
   repeat' (refine kr_ ?_)
   refine Kn.growIn (A := [_, _, _]) K8 oD (by omega) (by omega) (by omega) ⟨b184, 0, rfl, ax f184⟩ rfl rfl fun D' XD' h9 hn2 oD' K9 _ => ?_
   simp only [List.cons_append, List.nil_append] at K9
   (((with_reducible apply Kn.wr); (assumption); ((focus ((repeat first | exact .head | apply Upd.tail); done)))))
   ·simp
   intro h10 K10 _
   simp only [bk, List.set_cons_zero, List.set_cons_succ, Nat.zero_add, Nat.reduceAdd] at K10
   rw [az (by omega)]
   exact hnx2 hld _ _ ⟨D', XD', rfl, K10, by rw [pl]; exact oD'⟩
  ·have hde : d = 2 ^ (aQ m).n := by omega
   refine ak (by rw [decide_eq_false_iff_not]; omega) ?_
   clear hnx2
   repeat' (refine kr_ ?_)
   (((with_reducible apply Kn.wr); (assumption); ((focus ((repeat first | exact .head | apply Upd.tail); done)))))
   ·simp
   intro h6 K6 _
   simp only [dZ, List.set_cons_zero, List.set_cons_succ, Nat.zero_add, Nat.reduceAdd] at K6
   repeat' (refine kr_ ?_)
   subst hce hde
   refine k ⟨A, B, C, F, D⟩ h6 (Hp.le_trans lg K6.le) ⟨?_, ?_, ?_, ⟨iU m, JZ g, hF'.mono K6.le⟩, ?_⟩
   ·have := (oA.buf fun e he => K6.mem e (by simp [he])).slc_of (by omega)
    unfold cy np; rw [List.map_map]; exact this
   ·have := (oB.buf fun e he => K6.mem e (by simp [he])).slc_of (by omega)
    unfold cy np; rw [List.map_map]; exact this
   ·have := (oC.buf fun e he => K6.mem e (by simp [he])).slc_of (by omega)
    unfold wd IntS VL; rw [List.map_map, List.map_map]; exact this
   ·have := (oD.buf fun e he => K6.mem e (by simp [he])).slc_of (by omega)
    unfold cy np; rw [List.map_map]; exact this
theorem zs {k f : Nat} : f ∈ db k ↔ f &&& k = f := by
 unfold db
 rw [List.mem_filter, List.mem_range, decide_eq_true_eq]
 refine ⟨fun h => h.2, fun h => ⟨?_, h⟩⟩
 have : f &&& k <= k := Nat.and_le_right
 omega
theorem iJ {σ : ar} {fm c t : Nat} (ok : σ.Ok) (hfm : fm + σ.fixed = 2 ^ σ.n - 1) (hc : c < 2 ^ (σ.n + σ.k)) (ht : t < 2 ^ σ.n) : σ.goes c t = true ↔ ∃ f, f ∈ db fm /\ σ.next c + f = t := by
 unfold ar.goes
 rw [decide_eq_true_eq, Qd (y := fm) (by omega) ok.fixed ht (ok.next c hc) (ok.held c hc)]
 constructor
 ·rintro ⟨f, h1, h2⟩; exact ⟨f, zs.2 h1, h2⟩
 ·rintro ⟨f, h1, h2⟩; exact ⟨f, zs.1 h1, h2⟩
theorem nJ {σ : ar} {fm c f : Nat} (ok : σ.Ok) (hfm : fm + σ.fixed = 2 ^ σ.n - 1) (hc : c < 2 ^ (σ.n + σ.k)) (hf : f ∈ db fm) : σ.next c + f < 2 ^ σ.n := by
 have h1 := zs.1 hf
 have h2 : f &&& fm <= fm := Nat.and_le_right
 have h3 := ok.held c hc
 have h4 : σ.next c &&& σ.fixed <= σ.fixed := Nat.and_le_right
 have := Nat.two_pow_pos σ.n
 omega
theorem Kn.lower {g h h' : Hp} {L : List (Nat × Blk)} (K : Kn h h' L) (lg : g.le h) : ∃ g', Kn g g' L /\ g'.le h' /\ ∀ c, h c ≠ none -> g c = none -> g' c = none := by
 refine ⟨fun c => if c ∈ L.map Prod.fst then h' c else g c, ⟨fun c x e => ?_, fun e he => ?_, fun e he => ?_, K.nd⟩, fun c x e => ?_, fun c hc hg => ?_⟩
 ·show (if _ then _ else _) = _
  split
  ·exact K.le _ _ (lg _ _ e)
  ·exact e
 ·show (if _ then _ else _) = _
  rw [if_pos (List.mem_map.2 ⟨e, he, rfl⟩)]; exact K.mem e he
 ·exact aw lg (K.new e he)
 ·change (if _ then _ else _) = _ at e
  split at e
  ·exact e
  ·exact K.le _ _ (lg _ _ e)
 ·show (if _ then _ else _) = _
  split
  ·rename_i hm
   obtain ⟨e, he, rfl⟩ := List.mem_map.1 hm
   exact absurd (K.new e he) hc
  ·exact hg
theorem vr {g h : Hp} {b : Nat} {s2 : Sl} {σ : ar} {S : Nat -> Bool} {R : Value -> Hp -> Prop} (lg : g.le h) (hsg : jP g b σ) (ok : σ.Ok) (hSg : cy g s2 (2 ^ σ.n) S)
  (k : ∀ w h' g', h.le h' -> g.le g' -> g'.le h' -> (∀ c, h c ≠ none -> g c = none -> g' c = none) -> y9 g' cf #[] w (2 ^ (σ.n + σ.k)) (σ.leads S) -> R (.func (.func cf) #[] w) h') : cb #[.pointer (some ⟨b, 0, none⟩), s2.v] h R := by
 apply sV
 refine uf_ ?_
 have hn := dz ok
 have hS := hSg.mono lg
 have hl := hS.len
 have hfx := ok.fixed
 obtain ⟨M, st, hold, bad, next, fxg, _, _, hnt⟩ := id hsg
 have fx := lg _ _ fxg
 have K0 := Kn.nil h
 (with_reducible apply Kn.al); (assumption); (intro b4 h1 K1 l1 hb4)
 rw [hl]
 refine ⟨Int.natCast_nonneg _, Int.le_refl _, by omega, by omega, ?_⟩
 (with_reducible apply Kn.al); (assumption); (intro b7 h2 K2 l2 hb7)
 rw [Int.toNat_natCast, Nat.mul_one, bM, hR] at K2
 rw [Int.toNat_natCast]
 (with_reducible apply Kn.al); (assumption); (intro b9 h3 K3 l3 hb9)
 (((with_reducible apply Kn.wr); (assumption); ((focus ((repeat first | exact .head | apply Upd.tail); done)))))
 ·exact Nat.le_refl _
 intro h4 K4 _
 refine aq (2 ^ σ.n) (fun i vs h' => vs = [.pointer (some ⟨b4, 0, none⟩), .pointer (some ⟨b9, 0, none⟩), s2.v, I (2 ^ σ.n : Nat), I i] /\
  ∃ T, Kn h h' [(b9, .inl ⟨[(arr b7 (2 ^ σ.n)).v], 1, false⟩), (b7, .inl ⟨tb (2 ^ σ.n) T, 2 ^ σ.n, false⟩), (b4, .inl ⟨[.pointer (some ⟨b, 0, none⟩)], 1, false⟩)] /\ ∀ x, T x = true ↔ ∃ t, t < i /\ S t = true /\ t &&& σ.fixed = x)
  ⟨rfl, _, K4, fun x => ⟨fun e => by simp at e, fun ⟨t, e, _⟩ => by omega⟩⟩ ?_
 clear K4 K3 K2 K1 K0 l1 l2 l3 hb4 hb7 hb9
 rintro i _ h5 nxt hi ⟨rfl, T, K, hT⟩ hnx
 refine ⟨b4, 0, b9, 0, s2, _, _, rfl, ?_⟩
 by_cases hlt : i < 2 ^ σ.n
 ·refine aH (by rw [decide_eq_true_eq]; exact_mod_cast hlt) ?_
  rw [df]
  obtain ⟨bS, oS, ha, e1, e2⟩ := (hS.mono K.le).get hlt
  refine ⟨bS, oS, ha, by omega, e1, _, e2, ?_⟩
  have hle : i &&& σ.fixed <= i := Nat.and_le_left
  have fin : ∀ v h6, v = (T (i &&& σ.fixed) || S i) -> Kn h h6 [(b9, .inl ⟨[(arr b7 (2 ^ σ.n)).v], 1, false⟩), (b7, .inl ⟨(tb (2 ^ σ.n) T).set (i &&& σ.fixed) (.bool v), 2 ^ σ.n, false⟩), (b4, .inl ⟨[.pointer (some ⟨b, 0, none⟩)], 1, false⟩)] ->
    nxt [.pointer (some ⟨b4, 0, none⟩), .pointer (some ⟨b9, 0, none⟩), s2.v, I (2 ^ σ.n : Nat), I (W ((i : Int) + 1))] h6 := by
   intro v h6 hv K6
   rw [az (by omega)]
   rw [iL] at K6
   refine hnx hlt _ _ ⟨rfl, _, K6, fun x => ?_⟩
   by_cases e : x = i &&& σ.fixed
   ·rw [if_pos e, hv, Bool.or_eq_true, hT, e]
    constructor
    ·rintro (⟨t, q1, q2, q3⟩ | q)
     ·exact ⟨t, by omega, q2, q3⟩
     ·exact ⟨i, by omega, q, rfl⟩
    ·rintro ⟨t, q1, q2, q3⟩
     by_cases e2 : t = i
     ·subst e2; exact .inr q2
     ·exact .inl ⟨t, by omega, q2, q3⟩
   ·rw [if_neg e, hT]
    constructor
    ·rintro ⟨t, q1, q⟩; exact ⟨t, by omega, q⟩
    ·rintro ⟨t, q1, q2, q3⟩
     by_cases e2 : t = i
     ·subst e2; exact absurd q3.symm e
     ·exact ⟨t, by omega, q2, q3⟩
  repeat' (refine kr_ ?_)
  rw [pa (by omega) (by omega)]
  refine ⟨by omega, by dsimp only; omega, ?_⟩
  refine Kn.rd K (.tail _ (.head _)) (x := T (i &&& σ.fixed)) (by rw [Nat.zero_add, Nat.mul_one, Int.toNat_natCast]; exact jD (by omega)) ?_
  refine ad (fun e => ?_) (fun e => ?_)
  ·refine ⟨b7, 0, rfl, by omega, by dsimp only; omega, ?_⟩
   (((with_reducible apply Kn.wr); (assumption); ((focus ((repeat first | exact .head | apply Upd.tail); done)))))
   ·rw [eW]; omega
   intro h6 K6 _
   rw [bk, Nat.zero_add, Int.toNat_natCast, Nat.mul_one] at K6
   exact fin _ h6 (by rw [e]; rfl) K6
  ·refine ⟨b7, 0, rfl, by omega, by dsimp only; omega, ?_⟩
   (((with_reducible apply Kn.wr); (assumption); ((focus ((repeat first | exact .head | apply Upd.tail); done)))))
   ·rw [eW]; omega
   intro h6 K6 _
   rw [bk, Nat.zero_add, Int.toNat_natCast, Nat.mul_one] at K6
   exact fin _ h6 (by rw [e]; rfl) K6
 refine ak (by rw [decide_eq_false_iff_not]; omega) ?_
 obtain ⟨g', Kg, lg', hnew⟩ := K.lower lg
 refine k _ h5 g' K.le Kg.le lg' hnew fun c hc h' l R' kk => ?_
 apply qy
 refine uf_ ?_
 have K' := Kg.mono l
 clear K Kg fx hnx
 have hcn := ok.next c hc
 repeat' (refine kr_ ?_)
 obtain ⟨bx, ox, hax, e1, e2⟩ := wd.get (hnt.mono K'.le) hc
 refine ⟨bx, ox, hax, by omega, e1, _, e2, ?_⟩
 refine ⟨b7, 0, rfl, by omega, by dsimp only; omega, ?_⟩
 refine Kn.rd K' (.tail _ (.head _)) (x := T (σ.next c)) (by rw [Nat.zero_add, Nat.mul_one, Int.toNat_natCast]; exact jD (by omega)) ?_
 refine dk ?_ kk
 rw [Bool.eq_iff_iff, hT]
 unfold ar.leads
 rw [cd]
 constructor
 ·rintro ⟨t, q1, q2, q3⟩
  exact ⟨t, by omega, by unfold ar.goes; rw [q2, q3]; simp⟩
 ·rintro ⟨t, q1, q2⟩
  unfold ar.goes at q2
  rw [Bool.and_eq_true, decide_eq_true_eq] at q2
  exact ⟨t, by omega, q2.1, q2.2⟩
theorem rq {h : Hp} {b : Nat} {s2 : Sl} {σ : ar} {S : Nat -> Bool} {R : Value -> Hp -> Prop} (hs : jP h b σ) (ok : σ.Ok) (hS : cy h s2 (2 ^ σ.n) S)
  (k : ∀ w h', h.le h' -> y9 h' cf #[] w (2 ^ (σ.n + σ.k)) (σ.leads S) -> R (.func (.func cf) #[] w) h') : cb #[.pointer (some ⟨b, 0, none⟩), s2.v] h R :=
 vr (Hp.le_refl h) hs ok hS fun w h' g' l _ l2 _ hA => k w h' l fun c hc h'' l' R' kk => hA c hc h'' (Hp.le_trans l2 l') R' kk
theorem FB {h : Hp} {t : Sl} {n : Nat} {T U : Nat -> Bool} (e : cy h t n T) (f : ∀ j, j < n -> T j = U j) : cy h t n U := by
 unfold cy at e ⊢
 rwa [show (List.range n).map U = (List.range n).map T from List.map_congr_left fun j hj => (f j (List.mem_range.1 hj)).symm]
theorem JQ {h : Hp} {s t : Sl} {N : Nat} {S T : Nat -> Bool} {R : Value -> Hp -> Prop} (hS : cy h s N S) (hT : cy h t N T) (hN : N <= 1048576) (k1 : (∀ j, j < N -> S j = T j) -> R (.bool true) h) (k2 : (∃ j, j < N /\ S j ≠ T j) -> R (.bool false) h) :
  fR #[s.v, t.v] h R := by
 apply pG
 refine uf_ ?_
 have h1 := hS.len
 have h2 := hT.len
 rw [h1, h2]
 refine ak (by simp) ?_
 refine aq N (fun i vs h' => vs = [s.v, t.v, I N, I i] /\ h = h' /\ ∀ j, j < i -> S j = T j) ⟨rfl, rfl, fun j hj => by omega⟩ ?_
 rintro i _ _ next hi ⟨rfl, rfl, hj⟩ hnx
 refine ⟨s, t, _, _, rfl, ?_⟩
 by_cases hlt : i < N
 ·refine aH (by rw [decide_eq_true_eq]; exact_mod_cast hlt) ?_
  obtain ⟨b, o, ha, e1, e2⟩ := hS.get hlt
  refine ⟨b, o, ha, by omega, e1, ?_⟩
  obtain ⟨b', o', ha', e1', e2'⟩ := hT.get hlt
  refine ⟨b', o', ha', by omega, e1', _, e2, _, e2', ?_⟩
  refine ad (fun e => ?_) (fun e => ?_)
  ·exact k2 ⟨i, hlt, by simpa using e⟩
  ·rw [az (by omega)]
   refine hnx hlt _ _ ⟨rfl, rfl, fun j hji => ?_⟩
   by_cases eq : j = i
   ·rw [eq]; simpa using e
   ·exact hj j (by omega)
 ·exact ak (by rw [decide_eq_false_iff_not]; omega) (k1 fun j hjn => hj j (by omega))
theorem F1 {h : Hp} {b4 b z s c : Nat} {σ : ar} {R : Value -> Hp -> Prop} (hs : jP h b σ) (f : h b4 = some (.inl ⟨[.pointer (some ⟨b, 0, none⟩)], z, false⟩)) (hc : c < 2 ^ (σ.n + σ.k)) (k : R (.bool (σ.ends c)) h) :
  lA #[I s, I c, .pointer (some ⟨b4, 0, none⟩)] h R := by
 apply sH
 refine uf_ ?_
 (refine am ?_)
 exact rl hs hc ⟨_, rfl, k⟩
theorem G2 {h : Hp} {b3 b4 b5 b z z' z'' s c : Nat} {t : Sl} {fid : FuncId} {u w : Array Value} {σ : ar} {S P : Nat -> Bool} {R : Value -> Hp -> Prop} (hs : jP h b σ) (ft : h b3 = some (.inl ⟨[t.v], z'', false⟩)) (hS : cy h t (2 ^ σ.n) S)
  (f : h b4 = some (.inl ⟨[.pointer (some ⟨b, 0, none⟩)], z, false⟩))
  (f5 : h b5 = some (.inl ⟨[.func (.func fid) u w], z', false⟩)) (hA : y9 h fid u w (2 ^ (σ.n + σ.k)) P) (hc : c < 2 ^ (σ.n + σ.k)) (hlt : s < 2 ^ σ.n) (k : R (.bool (S s || (σ.hold c && P c))) h) :
  lF #[I s, I c, .pointer (some ⟨b3, 0, none⟩), .pointer (some ⟨b4, 0, none⟩), .pointer (some ⟨b5, 0, none⟩)] h R := by
 apply sW
 refine uf_ ?_
 obtain ⟨M, st, hold, bad, next, fx, hh, hb, _⟩ := hs
 (refine am ?_)
 obtain ⟨b', o', ha, h1, h2⟩ := hS.get hlt
 refine ⟨b', o', ha, by omega, h1, _, h2, ?_⟩
 refine ad (fun e => ?_) (fun e => ?_)
 ·rw [e] at k; exact k
 rw [e, Bool.false_or] at k
 (refine am ?_)
 refine cB ?_
 (refine am ?_)
 obtain ⟨b', o', ha, h1, h2⟩ := hh.get hc
 refine ⟨b', o', ha, by omega, h1, _, h2, ?_⟩
 refine ad (fun e => ?_) (fun e => ?_)
 ·refine ⟨fid, u, w, by rw [af f5]; rfl, ?_⟩
  refine hA c hc h (Hp.le_refl _) _ ⟨_, rfl, ?_⟩
  rw [e] at k; exact k
 ·rw [e] at k; exact k
theorem cy.wo {g h h' : Hp} {L : List (Nat × Blk)} {t : Sl} {n : Nat} {T : Nat -> Bool} (K : Kn g h L) (e : cy (h'.sub h) t n T) : cy (h'.wo (L.map Prod.fst)) t n T :=
 cy.mono (nk (sub_le _ _) fun b hb => by
  cases hx : h b with
  | none => exact absurd hx (K.has b hb)
  | some x => exact jW hx) e
theorem FY {h : Hp} {b : Nat} {σ : ar} {R : Value -> Hp -> Prop} (hs : jP h b σ) (ok : σ.Ok) (k : ∀ t h', h.le h' -> cy h' t (2 ^ σ.n) σ.backAll -> R (Sl.v t) h') :
  hM #[.pointer (some ⟨b, 0, none⟩)] h R := by
 apply wq
 refine uf_ ?_
 have hn := dz ok
 have K0 := Kn.nil h
 (with_reducible apply Kn.al); (assumption); (intro b3 h1 K1 l1 hb3)
 (refine kr_ ?_)
 have hs1 := hs.mono K1.le
 have f3 := K1.at (.head _)
 refine mg hs1 ok (f := fun _ c => σ.ends c) (fun s i hs' hi h' l R kk => F1 (hs1.mono l) (l _ _ f3) (ar.at_lt hs' hi) kk) fun t h2 l2 ht => ⟨_, rfl, ?_⟩
 have ht2 := ht.wo K1
 have K2 := (K1.mono l2).base
 have lg := (K1.mono l2).leBase
 generalize h2.wo (([(b3, .inl ⟨[.pointer (some ⟨b, 0, none⟩)], 1, false⟩)] : List (Nat × Blk)).map Prod.fst) = g at *
 (with_reducible apply Kn.al); (exact K2); (intro b10 h3 K3 l3 hb10)
 (((with_reducible apply Kn.wr); (assumption); ((focus ((repeat first | exact .head | apply Upd.tail); done)))))
 ·exact Nat.le_refl _
 intro h4 K4 _
 refine aq (2 ^ σ.n) (fun i vs h' => ∃ (g : Hp) (t : Sl), vs = [.pointer (some ⟨b3, 0, none⟩), .pointer (some ⟨b10, 0, none⟩)] /\ h.le g /\ cy g t (2 ^ σ.n) (σ.back i) /\
  Kn g h' [(b10, .inl ⟨[t.v], 1, false⟩), (b3, .inl ⟨[.pointer (some ⟨b, 0, none⟩)], 1, false⟩)] /\ ∀ j, j < i -> ∃ s, s < 2 ^ σ.n /\ σ.back (j + 1) s ≠ σ.back j s) ⟨g, t, rfl, lg, ht2, K4, fun j hj => by omega⟩ ?_
 clear K4 K3 l3 hb10 K2 lg ht2 ht l2 h2 g t f3 hs1 K1 l1 hb3 K0
 rintro i _ h1 nxt hi ⟨g, t, rfl, lg, ht, K, hd⟩ hnx
 refine ⟨b3, 0, b10, 0, rfl, ?_⟩
 repeat' (refine kr_ ?_)
 refine rq (hs.mono (Hp.le_trans lg K.le)) ok (ht.mono K.le) fun w h5 l5 hA => ⟨_, _, _, rfl, ?_⟩
 have K5 := K.mono l5
 (with_reducible apply Kn.al); (exact K5); (intro b32 h6 K6 l6 hb32)
 (((with_reducible apply Kn.wr); (assumption); ((focus ((repeat first | exact .head | apply Upd.tail); done)))))
 ·exact Nat.le_refl _
 intro h7 K7 kp7
 have l57 : h5.le h7 := cF hb32 l6 kp7
 clear K6 l6 K5 K
 repeat' (refine kr_ ?_)
 have hs7 := hs.mono (Hp.le_trans lg K7.le)
 refine mg hs7 ok (f := fun s c => σ.back i s || (σ.hold c && σ.leads (σ.back i) c)) (fun s j hs' hj h' l R kk => G2 (hs7.mono l) (l _ _ (K7.at (.tail _ (.head _)))) ((ht.mono K7.le).mono l) (l _ _ (K7.at (.tail _ (.tail _ (.head _)))))
  (l _ _ (K7.at (.head _))) (fun c hc h'' l' R' kk' => hA c hc h'' (Hp.le_trans (Hp.le_trans l57 l) l') R' kk') (ar.at_lt hs' hj) hs' kk) fun t' h8 l8 ht' => ⟨_, rfl, ?_⟩
 have K8 := K7.mono l8
 repeat' (refine kr_ ?_)
 refine JQ (ht'.mono (sub_le _ _)) (ht.mono K8.le) (by omega) (fun e => ⟨_, rfl, aH rfl ?_⟩) fun e => ⟨_, rfl, ak rfl ?_⟩
 ·repeat' (refine kr_ ?_)
  exact k t h8 (Hp.le_trans lg K8.le) (FB (ht.mono K8.le) fun j hj => ar.backAll_of hd e hj)
 ·have hb8 := ht'.wo K7
  have K8b := K8.base
  have lb := K8.leBase
  clear K7 K8 ht
  generalize h8.wo _ = g8 at *
  (((with_reducible apply Kn.wr); (assumption); ((focus ((repeat first | exact .head | apply Upd.tail); done)))))
  ·exact Nat.le_refl _
  intro h9 K9 _
  have hd' : ∀ j, j < i + 1 -> ∃ s, s < 2 ^ σ.n /\ σ.back (j + 1) s ≠ σ.back j s := fun j hj => by
   by_cases e2 : j = i
   ·rw [e2]; exact e
   ·exact hd j (by omega)
  have hlt : i < 2 ^ σ.n := ar.back_bound hd'
  have nd := K9.nd
  rw [List.map_cons, List.nodup_cons] at nd
  exact hnx hlt _ _ ⟨g8, t', rfl, Hp.le_trans lg lb, hb8, K9.sub (fun e he => .tail _ he) nd.2, hd'⟩
theorem AA {h : Hp} {b4 z n c : Nat} {t : Sl} {T : Nat -> Bool} {R : Value -> Hp -> Prop} (f : h b4 = some (.inl ⟨[t.v], z, false⟩)) (hT : cy h t n T) (hc : c < n) (k : R (.bool (T c)) h) :
  jM #[I c, .pointer (some ⟨b4, 0, none⟩)] h R := by
 apply qJ
 refine uf_ ?_
 (refine am ?_)
 obtain ⟨b', o', ha, h1, h2⟩ := hT.get hc
 exact ⟨b', o', ha, by omega, h1, _, h2, k⟩
theorem jY {h : Hp} {b : Nat} {t : Sl} {σ : ar} {T : Nat -> Bool} {R : Value -> Hp -> Prop} (hs : jP h b σ) (ok : σ.Ok) (hT : cy h t (2 ^ σ.n) T)
  (k : ∀ s h', h.le h' -> Own (h'.sub h) s 3 (aX (da σ.n T).ns) -> R (pH (da σ.n T) s) h') : dN #[.pointer (some ⟨b, 0, none⟩), t.v] h R := by
 apply sK
 refine uf_ ?_
 have K0 := Kn.nil h
 (with_reducible apply Kn.al); (assumption); (intro b4 h1 K1 l1 hb4)
 (with_reducible apply Kn.al); (assumption); (intro b6 h2 K2 l2 hb6)
 have f4 := K2.at (.tail _ (.head _))
 refine xH (hs.mono K2.le) ok (fun i hi h' l R kk => AA (l _ _ f4) ((hT.mono K2.le).mono l) hi kk) fun s h3 l3 o3 => ⟨_, _, _, _, rfl, ?_⟩
 have K3 := K2.mono l3
 (((with_reducible apply Kn.wr); (assumption); ((focus ((repeat first | exact .head | apply Upd.tail); done)))))
 ·exact Nat.le_refl _
 intro h4 K4 kp
 refine ⟨_, by rw [af (K4.at (.head _))]; rfl, _, by rw [af (K4.at (.head _))]; rfl, _, by rw [af (K4.at (.head _))]; rfl, ?_⟩
 exact k s h4 K4.le (o3.mono (dS K2.le (K2.at (.head _)) kp))
def kX (m : aj) : Bd := if aR m = 0 then da (aQ m).n (aQ m).backAll else gO
theorem HS (m : aj) : (kX m).ns.length <= 600 := by unfold kX; split <;> first | exact jb _ _ | simp [gO]
theorem xm {h : Hp} {M : MSl} {m : aj} {R : Value -> Hp -> Prop} (hs : aG h M m) (hm : bU m)
  (k : ∀ s h', h.le h' -> Own (h'.sub h) s 3 (aX (kX m).ns) -> R (pH (kX m) s) h') : je #[aN M] h R := by
 apply Cz
 refine uf_ ?_
 unfold kX at k
 have K0 := Kn.nil h
 (with_reducible apply Kn.al); (assumption); (intro b7 h1 K1 l1 hb7)
 (with_reducible apply Kn.al); (assumption); (intro b9 h2 K2 l2 hb9)
 repeat' (refine kr_ ?_)
 refine dx (hs.mono K2.le) hm (fun h3 l3 hc => ⟨_, _, rfl, aH rfl ?_⟩) (fun hc g bx h3 l3 hx => ⟨_, _, rfl, ak rfl ?_⟩)
 ·rw [if_neg hc] at k
  have K3 := K2.mono l3
  (((with_reducible apply Kn.wr); (assumption); ((focus ((repeat first | exact .head | apply Upd.tail); done)))))
  ·exact Nat.le_refl _
  intro h4 K4 _
  refine ⟨_, by rw [af (K4.at (.head _))]; rfl, ⟨none, 0, 0⟩, by rw [af (K4.at (.head _))]; rfl, _, by rw [af (K4.at (.head _))]; rfl, ?_⟩
  exact k ⟨none, 0, 0⟩ h4 K4.le (fL _ _)
 ·rw [if_pos hc] at k
  have ok := fT g
  refine FY hx ok fun t h4 l4 ht => ⟨_, rfl, ?_⟩
  refine jY (hx.mono l4) ok ht fun s h5 l5 o5 => ⟨_, _, _, _, rfl, ?_⟩
  have K3 := K2.mono (Hp.le_trans l3 l4)
  have K5 := K3.mono l5
  (((with_reducible apply Kn.wr); (assumption); ((focus ((repeat first | exact .head | apply Upd.tail); done)))))
  ·exact Nat.le_refl _
  intro h6 K6 kp
  refine ⟨_, by rw [af (K6.at (.head _))]; rfl, _, by rw [af (K6.at (.head _))]; rfl, _, by rw [af (K6.at (.head _))]; rfl, ?_⟩
  exact k s h6 K6.le (o5.mono (dS K3.le (K3.at (.head _)) kp))
theorem kH {h : Hp} {n : Nat} {R : Value -> Hp -> Prop} (hn : n <= 16) (k : R (I n) h) : fK #[I (2 ^ n : Nat)] h R := by
 apply D0
 refine uf_ ?_
 refine aq n (fun i vs h' => vs = [I (2 ^ n : Nat), I i] /\ h = h') ⟨rfl, rfl⟩ ?_
 rintro i _ _ nxt hi ⟨rfl, rfl⟩ hnx
 refine ⟨_, _, rfl, ?_⟩
 rw [dl (by omega), if_neg (by omega), cu (by omega)]
 by_cases hlt : i < n
 ·have := Nat.pow_lt_pow_right (a := 2) (by omega) hlt
  refine aH (by rw [decide_eq_true_eq]; exact_mod_cast this) ?_
  rw [az (by omega)]
  exact hnx hlt _ _ ⟨rfl, rfl⟩
 ·have hie : i = n := by omega
  subst hie
  exact ak (by simp) k
theorem wY {h : Hp} {q : yp} {σ : ar} {R : Value -> Hp -> Prop} (hq : wk h q σ) (ok : σ.Ok)
  (k : ∀ b' T h', Kn h h' [(b', .inl ⟨tb (2 ^ σ.n) T, 2 ^ σ.n, false⟩)] -> (∀ j, j < 2 ^ σ.n -> T j = σ.backAll j) -> R (arr b' (2 ^ σ.n)).v h') : lk #[AP σ q] h R := by
 apply BS
 refine uf_ ?_
 have hn := dz ok
 have hp := lc ok
 have hpos := Nat.two_pow_pos σ.n
 obtain ⟨hh, hen, hx, ⟨fm, hfm, hfl⟩, _⟩ := id hq
 have hhl := hh.len
 have hel := hen.len
 have hxl := IntS.len hx
 rw [bW, List.length_map, List.length_range] at hxl
 have hfll := IntS.len hfl
 rw [bW] at hfll
 have hfb : (db fm).length <= 2 ^ σ.n := by
  have h1 : (db fm).length <= fm + 1 := by unfold db; have := List.length_filter_le (fun c => decide (c &&& fm = c)) (List.range (fm + 1)); simpa using this
  omega
 have K0 := Kn.nil h
 (with_reducible apply Kn.al); (assumption); (intro b9 h1 K1 l1 hb9)
 (refine kr_ ?_)
 refine ⟨Int.natCast_nonneg _, Int.le_refl _, by omega, by omega, ?_⟩
 (with_reducible apply Kn.al); (assumption); (intro b13 h2 K2 l2 hb13)
 rw [Int.toNat_natCast, Nat.mul_one, bM, hR] at K2
 rw [Int.toNat_natCast]
 refine aq (2 ^ σ.n + 1) (fun i vs h' => ∃ (T : Nat -> Bool) (chg : Bool), vs = [.pointer (some ⟨b9, 0, none⟩), (arr b13 (2 ^ σ.n)).v, .bool chg] /\ Kn h h' [(b13, .inl ⟨tb (2 ^ σ.n) T, 2 ^ σ.n, false⟩), (b9, .inl ⟨u6 σ q, 7, false⟩)] /\
  (∀ s, s < 2 ^ σ.n -> T s = true -> σ.backAll s = true) /\ (chg = true -> i <= ar.cntB (2 ^ σ.n) T) /\
  (chg = false -> ∀ c, c < 2 ^ (σ.n + σ.k) -> σ.hold c = true -> (σ.ends c = true \/ ∃ f, f ∈ db fm /\ T (σ.next c + f) = true) -> T (c % 2 ^ σ.n) = true))
  ⟨_, true, rfl, K2, fun s _ e => by simp at e, fun _ => Nat.zero_le _, fun e => by simp at e⟩ ?_
 clear K2 K1 K0 l1 l2 hb9 hb13 h1 h2
 rintro i _ h1 nxt hi ⟨T, chg, rfl, K, hTb, hcnt, hcl⟩ hnx
 refine ⟨b9, 0, arr b13 _, _, rfl, ?_⟩
 refine ad (fun e => ?_) (fun e => ?_)
 rotate_left
 ·refine k b13 T h1 (K.sub (fun e he => by rw [List.mem_singleton] at he; subst he; exact .head _) (by simp)) (ar.backAll_eq hTb fun s x hs hx h3 h4 => ?_)
  have hc := ar.at_lt hs hx
  have := hcl e _ hc h3 (by
   rcases h4 with h4 | h4
   ·left; unfold ar.ends; rw [h3, h4]; rfl
   ·right
    unfold ar.leads at h4
    obtain ⟨t, ht, h5⟩ := cd.1 h4
    rw [Bool.and_eq_true] at h5
    obtain ⟨f, hf, h6⟩ := (iJ ok hfm hc ht).1 h5.2
    exact ⟨f, hf, by rw [h6]; exact h5.1⟩)
  rwa [ar.at_mod hs] at this
 have hi2 := hcnt e
 have hcle := ar.cntB_le (2 ^ σ.n) T
 subst e
 refine aq (2 ^ (σ.n + σ.k)) (fun c vs h' => ∃ (U : Nat -> Bool) (chg : Bool), vs = [.pointer (some ⟨b9, 0, none⟩), (arr b13 (2 ^ σ.n)).v, .bool chg, I c] /\ Kn h h' [(b13, .inl ⟨tb (2 ^ σ.n) U, 2 ^ σ.n, false⟩), (b9, .inl ⟨u6 σ q, 7, false⟩)] /\
  (∀ s, s < 2 ^ σ.n -> T s = true -> U s = true) /\ (∀ s, s < 2 ^ σ.n -> U s = true -> σ.backAll s = true) /\ (chg = true -> ∃ s, s < 2 ^ σ.n /\ T s = false /\ U s = true) /\
  (chg = false -> (∀ s, s < 2 ^ σ.n -> U s = T s) /\ ∀ c', c' < c -> σ.hold c' = true -> (σ.ends c' = true \/ ∃ f, f ∈ db fm /\ T (σ.next c' + f) = true) -> T (c' % 2 ^ σ.n) = true))
  ⟨T, false, rfl, K, fun _ _ e => e, hTb, fun e => by simp at e, fun _ => ⟨fun _ _ => rfl, fun c' hc' => by omega⟩⟩ ?_
 clear K h1
 rintro c _ h1 nxt2 hc ⟨U, chg, rfl, K, hTU, hUb, hch, hnc⟩ hnx2
 refine ⟨b9, 0, arr b13 _, _, _, rfl, ?_⟩
 (refine kr_ ?_)
 by_cases hlt : c < 2 ^ (σ.n + σ.k)
 rotate_left
 ·refine ak (by rw [decide_eq_false_iff_not]; omega) ?_
  refine hnx (by omega) _ _ ⟨U, chg, rfl, K, hUb, fun e => ?_, fun e => ?_⟩
  ·obtain ⟨s, hs, h3, h4⟩ := hch e
   have := ar.cntB_more hTU hs h3 h4
   omega
  ·obtain ⟨h3, h4⟩ := hnc e
   intro c' hc' h5 h6
   rw [h3 _ (Nat.mod_lt _ hpos)]
   refine h4 c' (by omega) h5 (h6.imp id fun ⟨f, hf, h7⟩ => ⟨f, hf, ?_⟩)
   rw [<- h3 _ (nJ ok hfm hc' hf)]; exact h7
 refine aH (by rw [decide_eq_true_eq]; omega) ?_
 have hm := Nat.mod_lt c hpos
 (refine kr_ ?_)
 rw [if_neg (by omega), eR, df]
 have skip : (U (c % 2 ^ σ.n) = true \/ σ.hold c = false) -> nxt2 [.pointer (some ⟨b9, 0, none⟩), (arr b13 (2 ^ σ.n)).v, .bool chg, I (W ((c : Int) + 1))] h1 := fun e => by
  rw [az (by omega)]
  refine hnx2 hlt _ _ ⟨U, chg, rfl, K, hTU, hUb, hch, fun e2 => ⟨(hnc e2).1, fun c' hc' h5 h6 => ?_⟩⟩
  by_cases e3 : c' = c
  ·subst e3
   rcases e with e | e
   ·rw [<- (hnc e2).1 _ hm]; exact e
   ·rw [e] at h5; cases h5
  ·exact (hnc e2).2 c' (by omega) h5 h6
 refine ⟨b13, 0, rfl, by omega, by dsimp only; omega, ?_⟩
 refine Kn.rd K (.head _) (x := U (c % 2 ^ σ.n)) (by rw [Nat.zero_add, Nat.mul_one, Int.toNat_natCast]; exact jD hm) ?_
 refine ad (fun eU => ?_) (fun eU => ?_)
 ·exact aH rfl (skip (.inl eU))
 (refine kr_ ?_)
 obtain ⟨b, o, ha, e1, e2⟩ := (hh.mono K.le).get hlt
 refine ⟨b, o, ha, by omega, e1, _, e2, ?_⟩
 refine ad (fun e => ?_) (fun e => ?_)
 ·exact skip (.inr (by simpa using e))
 have eH : σ.hold c = true := by simpa using e
 (refine kr_ ?_)
 obtain ⟨b, o, ha, e1, e2⟩ := (hen.mono K.le).get hlt
 refine ⟨b, o, ha, by omega, e1, _, e2, ?_⟩
 clear skip
 refine aq (db fm).length (fun j vs h' => ∃ good : Bool, vs = [.pointer (some ⟨b9, 0, none⟩), (arr b13 (2 ^ σ.n)).v, .bool chg, I c, I (c % 2 ^ σ.n : Nat), .bool good, I j] /\ h1 = h' /\
  (good = true ↔ σ.ends c = true \/ ∃ f, f ∈ (db fm).take j /\ U (σ.next c + f) = true)) ⟨_, rfl, rfl, by simp⟩ ?_
 rintro j _ _ nxt3 hj ⟨good, rfl, rfl, hg⟩ hnx3
 refine ⟨b9, 0, arr b13 _, _, _, _, _, _, rfl, ?_⟩
 (refine kr_ ?_)
 by_cases hlj : j < (db fm).length
 ·refine aH (by rw [decide_eq_true_eq]; omega) ?_
  obtain ⟨f, hf⟩ : ∃ f, (db fm)[j]? = some f := ⟨_, List.getElem?_eq_getElem hlj⟩
  have hlf := nJ ok hfm hlt (List.mem_of_getElem? hf)
  rw [df]
  have go : ∀ g2, (g2 = true ↔ good = true \/ U (σ.next c + f) = true) -> nxt3 [.pointer (some ⟨b9, 0, none⟩), (arr b13 (2 ^ σ.n)).v, .bool chg, I c, I (c % 2 ^ σ.n : Nat), .bool g2, I (W ((j : Int) + 1))] h1 := fun g2 e => by
   rw [az (by omega)]
   refine hnx3 hlj _ _ ⟨g2, rfl, rfl, ?_⟩
   rw [e, hg, List.take_add_one, hf]
   constructor
   ·rintro ((e | ⟨f', h3, h4⟩) | e)
    ·exact .inl e
    ·exact .inr ⟨f', List.mem_append_left _ h3, h4⟩
    ·exact .inr ⟨f, by simp, e⟩
   ·rintro (e | ⟨f', h3, h4⟩)
    ·exact .inl (.inl e)
    ·rcases List.mem_append.1 h3 with h3 | h3
     ·exact .inl (.inr ⟨f', h3, h4⟩)
     ·simp at h3; subst h3; exact .inr h4
  refine ad (fun eg => ?_) (fun eg => ?_)
  ·exact go true (by rw [eg]; simp)
  (refine kr_ ?_)
  obtain ⟨b, o, ha, e1, e2⟩ := wd.get (hx.mono K.le) hlt
  refine ⟨b, o, ha, by omega, e1, _, e2, ?_⟩
  (refine kr_ ?_)
  obtain ⟨b, o, ha, e3⟩ := (hfl.mono K.le).get (gk hf)
  refine ⟨b, o, ha, by omega, by omega, _, e3, ?_⟩
  rw [<- Int.natCast_add, fj (by omega)]
  refine ⟨b13, 0, rfl, by omega, by dsimp only; omega, ?_⟩
  refine Kn.rd K (.head _) (x := U (σ.next c + f)) (by rw [Nat.zero_add, Nat.mul_one, Int.toNat_natCast]; exact jD hlf) ?_
  exact go _ (by rw [eg]; simp)
 refine ak (by rw [decide_eq_false_iff_not]; omega) ?_
 rw [List.take_of_length_le (by omega)] at hg
 obtain ⟨a1, a2, a3⟩ := ar.at_of hlt
 refine ad (fun eg => ?_) (fun eg => ?_)
 ·have hback : σ.backAll (c % 2 ^ σ.n) = true := by
   rcases hg.1 eg with h3 | ⟨f, hf, h3⟩
   ·unfold ar.ends at h3
    rw [Bool.and_eq_true] at h3
    exact ar.backAll_ends a1 a2 (by rw [a3]; exact h3.1) (by rw [a3]; exact h3.2)
   ·have hlf := nJ ok hfm hlt hf
    exact ar.backAll_step a1 a2 hlf (by rw [a3]; exact eH) (by rw [a3]; exact (iJ ok hfm hlt hlf).2 ⟨f, hf, rfl⟩) (hUb _ hlf h3)
  refine ⟨b13, 0, rfl, by omega, by dsimp only; omega, ?_⟩
  (((with_reducible apply Kn.wr); (assumption); ((focus ((repeat first | exact .head | apply Upd.tail); done)))))
  ·rw [eW]; omega
  intro h2 K2 _
  rw [bk, Nat.zero_add, Int.toNat_natCast, Nat.mul_one, iL] at K2
  rw [az (by omega)]
  refine hnx2 hlt _ _ ⟨_, true, rfl, K2, fun s hs e3 => ?_, fun s hs e3 => ?_, fun _ => ⟨c % 2 ^ σ.n, hm, ?_, by rw [if_pos rfl]⟩, fun e3 => by simp at e3⟩
  ·by_cases e4 : s = c % 2 ^ σ.n
   ·rw [if_pos e4]
   ·rw [if_neg e4]; exact hTU s hs e3
  ·by_cases e4 : s = c % 2 ^ σ.n
   ·rw [e4]; exact hback
   ·rw [if_neg e4] at e3; exact hUb s hs e3
  ·cases e4 : T (c % 2 ^ σ.n) with
   | false => rfl
   | true => rw [hTU _ hm e4] at eU; cases eU
 ·rw [az (by omega)]
  refine hnx2 hlt _ _ ⟨U, chg, rfl, K, hTU, hUb, hch, fun ec => ⟨(hnc ec).1, fun c' hc' h5 h6 => ?_⟩⟩
  by_cases eq : c' = c
  ·subst eq
   have : good = true := hg.2 (h6.imp id fun ⟨f, hf, h7⟩ => ⟨f, hf, by rw [(hnc ec).1 _ (nJ ok hfm hlt hf)]; exact h7⟩)
   rw [this] at eg; cases eg
  ·exact (hnc ec).2 c' (by omega) h5 h6
theorem xh {h : Hp} {M : MSl} {m : aj} {R : Value -> Hp -> Prop} (hs : aG h M m) (hm : bU m)
  (k : ∀ s h', h.le h' -> Own (h'.sub h) s 3 (aX (kX m).ns) -> R (pH (kX m) s) h') : pg #[aN M] h R := by
 apply B8
 refine uf_ ?_
 unfold kX at k
 have K0 := Kn.nil h
 (with_reducible apply Kn.al); (assumption); (intro b7 h1 K1 l1 hb7)
 (with_reducible apply Kn.al); (assumption); (intro b9 h2 K2 l2 hb9)
 repeat' (refine kr_ ?_)
 refine ct (hs.mono K2.le) hm ⟨_, rfl, ?_⟩
 refine ad (fun e => ?_) (fun e => ?_)
 ·rw [if_neg (ew e)] at k
  (((with_reducible apply Kn.wr); (assumption); ((focus ((repeat first | exact .head | apply Upd.tail); done)))))
  ·exact Nat.le_refl _
  intro h3 K3 _
  refine ⟨_, by rw [af (K3.at (.head _))]; rfl, ⟨none, 0, 0⟩, by rw [af (K3.at (.head _))]; rfl, _, by rw [af (K3.at (.head _))]; rfl, ?_⟩
  exact k ⟨none, 0, 0⟩ h3 K3.le (fL _ _)
 have hc := eE e
 rw [if_pos hc] at k
 have ok := fT (gF hc)
 repeat' (refine kr_ ?_)
 refine iX (hs.mono K2.le) hm hc fun q h3 l3 hq => ⟨_, _, _, _, _, _, _, rfl, ?_⟩
 have K3 := K2.mono l3
 generalize aQ m = σ at *
 (with_reducible apply Kn.al); (exact K3); (intro b43 h4 K4 l4 hb43)
 (((with_reducible apply Kn.wr); (assumption); ((focus ((repeat first | exact .head | apply Upd.tail); done)))))
 ·exact of_decide_eq_true rfl
 intro h5 K5 kp5
 simp only [dZ, List.set_cons_zero, List.set_cons_succ, Nat.zero_add, Nat.reduceAdd] at K5
 have hq5 := hq.mono (cF hb43 l4 kp5)
 repeat' (refine kr_ ?_)
 refine kH (by have := ok.nle; omega) ⟨_, rfl, ?_⟩
 repeat' (refine kr_ ?_)
 refine wY hq5 ok fun bT T h6 K6 hT => ⟨_, rfl, ?_⟩
 have K7 := K5.mono K6.le
 refine nW (by have := ok.nle; omega) (gl (by have := dz ok; omega) (K6.at (.head _)) hT) fun s h8 l8 o8 => ⟨_, _, _, _, rfl, ?_⟩
 have K8 := K7.mono l8
 (((with_reducible apply Kn.wr); (assumption); ((focus ((repeat first | exact .head | apply Upd.tail); done)))))
 ·exact Nat.le_refl _
 intro h9 K9 kp
 refine ⟨_, by rw [af (K9.at (.tail _ (.head _)))]; rfl, _, by rw [af (K9.at (.tail _ (.head _)))]; rfl, _, by rw [af (K9.at (.tail _ (.head _)))]; rfl, ?_⟩
 exact k s h9 K9.le (o8.mono (dS K7.le (K7.at (.tail _ (.head _))) kp))
set_option maxHeartbeats 1000000 in
theorem FnExactBackSet_spec {h : Hp} {M : MSl} {m : aj} {R : Value -> Hp -> Prop} (hs : aG h M m) (hsz : ∀ n ∈ m.nodes, n.name.size <= 9223372036854775807)
  (k : R (.bool true) h) : lv #[aN M] h R := by
 refine ACalls.drop (sP ?_)
 refine uf_ ?_
 have K0 := Kn.nil h
 (with_reducible apply Kn.al); (assumption); (intro b7 h1 K1 l1 hb7)
 clear K0 hb7
 repeat' (refine kr_ ?_)
 refine eo (hs.mono K1.le) hsz fun r hr => ⟨_, rfl, ad (fun e => ⟨_, K1.le, k⟩) (fun e => ?_)⟩
 have hm : bU m := (hr.resolve_left (of_decide_eq_false e)).2.2
 clear hr e r
 repeat' (refine kr_ ?_)
 refine aF (hs.mono K1.le) hm fun n1 i1 x1 d1 e1 h2 KA => ⟨_, _, _, _, _, rfl, ?_⟩
 have KA' : Kn h1 h2 (dT m n1 i1 x1 d1 e1 ++ []) := by rw [List.append_nil]; exact KA
 refine xh (de KA' hm) hm fun w0 h3 l3 ow => ⟨_, _, _, _, rfl, ?_⟩
 have hI : ∀ {h' : Hp} {M' : MSl} {R' : Value -> Hp -> Prop}, aG h' M' m -> (∀ t h'', h'.le h'' -> Own (h''.sub h') t 3 (aX (kX m).ns) -> R' (pH (kX m) t) h'') -> je #[aN M'] h' R' := fun a b => xm a hm b
 have hlen := HS m
 generalize kX m = B at *
 have K3 := K1.mono (Hp.le_trans KA.le l3)
 clear KA' K1
 (with_reducible apply Kn.al); (exact K3); (intro b41 h4 K4 l4 hb41)
 (((with_reducible apply Kn.wr); (assumption); ((focus ((repeat first | exact .head | apply Upd.tail); done)))))
 ·exact of_decide_eq_true rfl
 intro h5 K5 kp5
 have l35 : h3.le h5 := cF hb41 l4 kp5
 have ow5 : Own h5 w0 3 (aX B.ns) := (ow.mono (sub_le _ _)).mono l35
 have f7 := K5.at (.tail _ (.head _))
 have f41 := K5.at (.head _)
 have hs5 := hs.mono K5.le
 have l05 := K5.le
 clear ow kp5 l35 hb41 l4 K4 K3 l3 KA h4 h3 l1
 repeat' (refine kr_ ?_)
 refine aF hs5 hm fun bn bi bx bb bh h6 KB => ⟨_, _, _, _, _, rfl, ?_⟩
 clear K5
 (with_reducible apply Kn.al); (exact KB); (intro b59 h7 K7 l7 hb59)
 (((with_reducible apply Kn.wr); (assumption); ((focus ((repeat first | exact .head | apply Upd.tail); done)))))
 ·exact of_decide_eq_true rfl
 intro h8 K8 _
 clear K7 KB l7 hb59
 repeat' (refine kr_ ?_)
 have nd8 := K8.nd
 rw [List.map_cons, List.nodup_cons] at nd8
 have K8' : Kn h5 h8 (dT m bn bi bx bb bh ++ []) := K8.sub (fun e he => .tail _ (by rwa [List.append_nil] at he)) (by rw [List.append_nil]; exact nd8.2)
 refine hI (de K8' hm) fun g0 h9 l9 og => ⟨_, _, _, _, rfl, ?_⟩
 obtain ⟨X, oX, K9⟩ := K8.addOwn l9 og
 have hgn : g0.n <= 600 := by have := og.1; rw [dM] at this; omega
 clear K8 K8' nd8 og l9
 (with_reducible apply Kn.al); (exact K9); (intro b76 h10 K10 l10 hb76)
 (((with_reducible apply Kn.wr); (assumption); ((focus ((repeat first | exact .head | apply Upd.tail); done)))))
 ·exact of_decide_eq_true rfl
 intro h11 K11 _
 clear K10 K9 l10 hb76
 obtain ⟨KM, KF⟩ := Kn.split (A := [(b76, .inl ⟨[I B.v, g0.v, I B.r], 3, false⟩), (b59, .inl ⟨ck (Aw m bn bi bx bb bh), 5, false⟩)]) (B := dT m bn bi bx bb bh ++ X) K11
 generalize h11.wo ((dT m bn bi bx bb bh ++ X).map Prod.fst) = gB at *
 have f76 := KF.at (.head _)
 have f59 := KF.at (.tail _ (.head _))
 replace f7 := KF.le _ _ f7
 replace f41 := KF.le _ _ f41
 have x59 := bL f59
 have x7 := bL f7
 have x76 := bL f76
 have x41 := bL f41
 have hsB := hs5.mono KF.le
 have owB := ow5.mono KF.le
 have l0B := Hp.le_trans l05 KF.le
 clear KF K11 ow5 hs5 l05
 refine ap (fun J => J false h11) ?_ (fun J hJ => ?_)
 rotate_left
 ·repeat' (refine kr_ ?_)
  refine cH (oX.own KM).slc (owB.mono KM.le).slc ⟨_, rfl, ak (by simp) ?_⟩
  simpa using hJ
 refine ak rfl ?_
 repeat' (refine kr_ ?_)
 refine aF (hsB.mono KM.le) hm fun n2 i2 x2 d2 e2 h12 KC => ⟨_, _, _, _, _, rfl, ?_⟩
 have KC' : Kn h11 h12 (dT m n2 i2 x2 d2 e2 ++ []) := by rw [List.append_nil]; exact KC
 have KM12 := KM.mono KC.le
 repeat' (refine kr_ ?_)
 refine et (de KM12 hm) (de KC' hm) ⟨_, rfl, ak rfl ?_⟩
 clear KC' KC KM
 repeat' (refine kr_ ?_)
 refine ep KM12 hm fun h13 L' hL' KM13 r hr => ⟨_, rfl, ?_⟩
 clear KM12
 refine ap (fun J => J false h13) ?_ (fun J hJ => ?_)
 rotate_left
 ·refine ak (by simp; omega) ?_
  repeat' (refine kr_ ?_)
  refine cH (oX.own KM13).slc (owB.mono KM13.le).slc ⟨_, rfl, ak (by simp) ?_⟩
  simpa using hJ
 refine ak rfl ?_
 repeat' (refine kr_ ?_)
 refine gi (oX.own KM13) (by omega) (by omega) fun h14 l14 o14 => ⟨_, rfl, ?_⟩
 obtain ⟨X', oX', KM14⟩ := oX.mark KM13 l14 o14
 clear l14 KM13
 repeat' (refine kr_ ?_)
 refine cW o14.slc (by omega) (by omega) ⟨_, rfl, ak (by simp; omega) (ak (by simp) ?_)⟩
 repeat' (refine kr_ ?_)
 refine aF (hsB.mono KM14.le) hm fun n3 i3 x3 d3 e3 h15 KD => ⟨_, _, _, _, _, rfl, ?_⟩
 have KD' : Kn h14 h15 (dT m n3 i3 x3 d3 e3 ++ []) := by rw [List.append_nil]; exact KD
 refine hI (de KD' hm) fun w1 h16 l16 ow1 => ⟨_, _, _, _, rfl, ?_⟩
 have KM16 := KM14.mono (Hp.le_trans KD.le l16)
 clear KD' KM14
 (with_reducible apply Kn.al); (exact KM16); (intro b183 h17 K17 l17 hb183)
 (((with_reducible apply Kn.wr); (assumption); ((focus ((repeat first | exact .head | apply Upd.tail); done)))))
 ·exact of_decide_eq_true rfl
 intro h18 K18 kp18
 have l1618 : h16.le h18 := cF hb183 l17 kp18
 have K18' : Kn gB h18 (((b183, .inl ⟨[I B.v, w1.v, I B.r], 3, false⟩) :: L') ++ X') := K18
 clear KM16 K17
 refine ap (fun J => J false h18) ?_ (fun J hJ => ?_)
 rotate_left
 ·repeat' (refine kr_ ?_)
  refine cH ((ow1.mono (sub_le _ _)).mono l1618).slc (owB.mono K18.le).slc ⟨_, rfl, ak (by simp) ?_⟩
  simpa using hJ
 refine ak rfl ?_
 repeat' (refine kr_ ?_)
 refine cW (oX'.own K18').slc (by omega) (by omega) ⟨_, rfl, ak (by simp; omega) (ak (by simp) ⟨_, Hp.le_trans l0B K18.le, k⟩)⟩
def TrX (h h' : Hp) (sS sI : Sl) (l : List (Nat × Nat)) : Prop :=
 ∃ XS XI, iO XS sS 1 ((VL (l.map Prod.fst)).map I) /\ iO XI sI 1 ((VL (l.map Prod.snd)).map I) /\ Kn h h' (XS ++ XI)
theorem ez.at {X : List (Nat × Blk)} {h : Hp} {s t : Sl} {ts : List Sl} {i : Nat} (o : ez X s 1 (ts.map Sl.v)) (m : ∀ e ∈ X, h e.1 = some e.2) (hi : ts[i]? = some t) :
  ∃ b x, s.a = some ⟨b, 0, none⟩ /\ h b = some x /\ Hp.cell h b (0 + i * 1) = some t.v := by
 have hlt := get_lt hi
 rcases o.2.2 with ⟨_, _, h0⟩ | ⟨b, ha, rfl⟩
 ·have : ts.length = 0 := by have := congrArg List.length h0; simpa using this
  omega
 ·have hb := m _ (.head _)
  refine ⟨b, _, ha, hb, ?_⟩
  rw [af hb, Nat.zero_add, Nat.mul_one, List.getElem?_map, hi]; rfl
theorem TrX.nil {h h' : Hp} (l : h.le h') : TrX h h' ⟨none, 0, 0⟩ ⟨none, 0, 0⟩ [] := ⟨[], [], ⟨rfl, by simp, .inl ⟨rfl, rfl⟩⟩, ⟨rfl, by simp, .inl ⟨rfl, rfl⟩⟩, Kn.of l⟩
theorem TrX.up {h g h1 h5 : Hp} {b6 : Nat} {sS sI : Sl} {l : List (Nat × Nat)} (t : TrX g h1 sS sI l) (lg : h.le g) (h6 : g b6 ≠ none) (l5 : h.le h5) (kp : ∀ c, c ≠ b6 -> h5 c = h1 c) : TrX h h5 sS sI l := by
 obtain ⟨XS, XI, oS, oI, K⟩ := t
 refine ⟨XS, XI, oS, oI, l5, fun e he => ?_, fun e he => aw lg (K.new e he), K.nd⟩
 have hne : e.1 ≠ b6 := by
  intro e6
  have h1 := K.new e he
  rw [e6] at h1; exact h6 h1
 rw [kp _ hne]; exact K.mem e he
theorem TrX.mono {h h1 h2 : Hp} {sS sI : Sl} {l : List (Nat × Nat)} (t : TrX h h1 sS sI l) (l12 : h1.le h2) : TrX h h2 sS sI l := by
 obtain ⟨XS, XI, oS, oI, K⟩ := t
 exact ⟨XS, XI, oS, oI, K.mono l12⟩
theorem iO.slcOf {X : List (Nat × Blk)} {h : Hp} {s : Sl} {sz : Nat} {cs : List Value} (o : iO X s sz cs) (m : ∀ e ∈ X, h e.1 = some e.2) : SlC h s sz cs := by
 refine ⟨o.2.1, o.1, ?_⟩
 rcases o.2.2 with ⟨h0, _⟩ | ⟨_, b, z, ha, rfl⟩
 ·exact .inl h0
 ·exact .inr ⟨b, 0, ha, ax (m _ (.head _))⟩
theorem TrX.ints {h h1 : Hp} {sS sI : Sl} {l : List (Nat × Nat)} (t : TrX h h1 sS sI l) : IntS h1 sS (VL (l.map Prod.fst)) /\ IntS h1 sI (VL (l.map Prod.snd)) := by
 obtain ⟨XS, XI, oS, oI, K⟩ := t
 exact ⟨oS.slcOf fun e he => K.mem e (List.mem_append_left _ he), oI.slcOf fun e he => K.mem e (List.mem_append_right _ he)⟩
theorem TrX.le {h h' : Hp} {sS sI : Sl} {l : List (Nat × Nat)} (t : TrX h h' sS sI l) : h.le h' := by obtain ⟨_, _, _, _, K⟩ := t; exact K.le
theorem TrX.add {g h h' : Hp} {L : List (Nat × Blk)} {sS sI : Sl} {l : List (Nat × Nat)} (t : TrX h h' sS sI l) (K : Kn g h L) :
  ∃ XS XI, iO XS sS 1 ((VL (l.map Prod.fst)).map I) /\ iO XI sI 1 ((VL (l.map Prod.snd)).map I) /\ Kn g h' (L ++ (XS ++ XI)) := by
 obtain ⟨XS, XI, oS, oI, K'⟩ := t
 exact ⟨XS, XI, oS, oI, K.app K'.le K'.new K'.mem K'.nd⟩
section
variable {g h : Hp} {L XS XI : List (Nat × Blk)} {sS sI tS tI : Sl} {xs ys : List Int} {cS cI : List Value} {k0 : Int} {R : Value -> Hp -> Prop}
end
structure yY where
 kind : Int
 depth : Int
 tr : List (Nat × Nat)
 bd : Bd
def VrX (h h' : Hp) (sS sI sN : Sl) (p : yY) : Prop :=
 ∃ XS XI XN, iO XS sS 1 ((VL (p.tr.map Prod.fst)).map I) /\ iO XI sI 1 ((VL (p.tr.map Prod.snd)).map I) /\ iO XN sN 3 (aX p.bd.ns) /\ Kn h h' (XS ++ (XI ++ XN))
theorem VrX.up {h g h1 h5 : Hp} {b6 : Nat} {sS sI sN : Sl} {p : yY} (t : VrX g h1 sS sI sN p) (lg : h.le g) (h6 : g b6 ≠ none) (l5 : h.le h5) (kp : ∀ c, c ≠ b6 -> h5 c = h1 c) : VrX h h5 sS sI sN p := by
 obtain ⟨XS, XI, XN, oS, oI, oN, K⟩ := t
 refine ⟨XS, XI, XN, oS, oI, oN, l5, fun e he => ?_, fun e he => aw lg (K.new e he), K.nd⟩
 have hne : e.1 ≠ b6 := by
  intro e6
  have h1 := K.new e he
  rw [e6] at h1; exact h6 h1
 rw [kp _ hne]; exact K.mem e he
theorem VrX.mono {h h1 h2 : Hp} {sS sI sN : Sl} {p : yY} (t : VrX h h1 sS sI sN p) (l12 : h1.le h2) : VrX h h2 sS sI sN p := by
 obtain ⟨XS, XI, XN, oS, oI, oN, K⟩ := t
 exact ⟨XS, XI, XN, oS, oI, oN, K.mono l12⟩
theorem VrX.le {h h' : Hp} {sS sI sN : Sl} {p : yY} (t : VrX h h' sS sI sN p) : h.le h' := by obtain ⟨_, _, _, _, _, _, K⟩ := t; exact K.le
theorem Cb (sz : Nat) : iO [] ⟨none, 0, 0⟩ sz [] := ⟨by simp, by simp, .inl ⟨rfl, rfl⟩⟩
theorem VrX.ofTr {h h' : Hp} {sS sI : Sl} {l : List (Nat × Nat)} {k d : Int} (t : TrX h h' sS sI l) : VrX h h' sS sI ⟨none, 0, 0⟩ ⟨k, d, l, gO⟩ := by
 obtain ⟨XS, XI, oS, oI, K⟩ := t
 exact ⟨XS, XI, [], oS, oI, Cb 3, by rw [List.append_nil]; exact K⟩
theorem VrX.nil {h h' : Hp} {k d : Int} (l : h.le h') : VrX h h' ⟨none, 0, 0⟩ ⟨none, 0, 0⟩ ⟨none, 0, 0⟩ ⟨k, d, [], gO⟩ := VrX.ofTr (TrX.nil l)
theorem VrX.add {g h h' : Hp} {L : List (Nat × Blk)} {sS sI sN : Sl} {p : yY} (t : VrX h h' sS sI sN p) (K : Kn g h L) :
  ∃ XS XI XN, iO XS sS 1 ((VL (p.tr.map Prod.fst)).map I) /\ iO XI sI 1 ((VL (p.tr.map Prod.snd)).map I) /\ iO XN sN 3 (aX p.bd.ns) /\ Kn g h' (L ++ (XS ++ (XI ++ XN))) := by
 obtain ⟨XS, XI, XN, oS, oI, oN, K'⟩ := t
 exact ⟨XS, XI, XN, oS, oI, oN, K.app K'.le K'.new K'.mem K'.nd⟩
def VrS (h : Hp) (sS sI sN : Sl) (p : yY) : Prop := IntS h sS (VL (p.tr.map Prod.fst)) /\ IntS h sI (VL (p.tr.map Prod.snd)) /\ SlC h sN 3 (aX p.bd.ns)
theorem VrS.mono {h h' : Hp} {sS sI sN : Sl} {p : yY} (l : h.le h') (t : VrS h sS sI sN p) : VrS h' sS sI sN p := ⟨t.1.mono l, t.2.1.mono l, t.2.2.mono l⟩
def MG (X : List (Nat × Blk)) (M : MSl) (m : aj) : Prop :=
 ∃ XN XI XE XB XH, X = XN ++ (XI ++ (XE ++ (XB ++ (XH ++ [])))) /\ ez XN M.no 9 (m.nodes.flatMap nodeCells) /\ ez XI M.ini 2 (m.inits.flatMap bindCells) /\ ez XE M.nex 2 (m.nexts.flatMap bindCells) /\
  ez XB M.bad 1 (m.bads.map I) /\ ez XH M.hol 1 (m.holds.map I)
abbrev noM : MSl := ⟨⟨none, 0, 0⟩, ⟨none, 0, 0⟩, ⟨none, 0, 0⟩, ⟨none, 0, 0⟩, ⟨none, 0, 0⟩⟩
abbrev noP : aj := ⟨[], [], [], [], []⟩
theorem MG.nil : MG [] noM noP := ⟨[], [], [], [], [], rfl, fe 9, fe 2, fe 2, fe 1, fe 1⟩
section
variable {g h : Hp} {A X : List (Nat × Blk)} {M : MSl} {m : aj}
theorem ez.slcOf {X : List (Nat × Blk)} {s : Sl} {sz : Nat} {cs : List Value} (o : ez X s sz cs) (hn : s.n <= 9223372036854775807) (m : ∀ e ∈ X, h e.1 = some e.2) : SlC h s sz cs := (o.buf m).slc_of hn
theorem MG.lens (o : MG X M m) : M.no.n = m.nodes.length /\ M.ini.n = m.inits.length /\ M.nex.n = m.nexts.length /\ M.bad.n = m.bads.length /\ M.hol.n = m.holds.length /\ M.no.n <= M.no.c := by
 obtain ⟨XN, XI, XE, XB, XH, _, a, b, c, d, e⟩ := o
 have h1 := a.1; have h2 := b.1; have h3 := c.1; have h4 := d.1; have h5 := e.1; have h6 := a.2.1
 rw [gq (m := 9) (fun _ => rfl)] at h1
 rw [gq (m := 2) (fun _ => rfl)] at h2 h3
 rw [List.length_map] at h4 h5
 omega
theorem MG.blk (o : MG X M m) (hn : 0 < m.nodes.length) : ∃ b x, M.no.a = some ⟨b, 0, none⟩ /\ (b, x) ∈ X := by
 have hl := o.lens
 obtain ⟨XN, XI, XE, XB, XH, rfl, a, _⟩ := o
 rcases a.2.2 with ⟨_, h0, _⟩ | ⟨b, ha, rfl⟩
 ·rw [h0] at hl; have := hl.1; dsimp only at this; omega
 ·exact ⟨b, _, ha, List.mem_append_left _ (.head _)⟩
end
section
variable {g h : Hp} {L L' : List (Nat × Blk)} {b : Nat} {M M' : MSl}
end
theorem Upd.app {L L' X : List (Nat × Blk)} {b : Nat} {x y : Blk} (u : Upd L b x y L') : Upd (L ++ X) b x y (L' ++ X) := by
 induction u with
 | head => exact .head
 | tail _ ih => exact .tail ih
inductive Pk {α : Type} : List α -> α -> List α -> Prop
 | head {L : List α} {a : α} : Pk (a :: L) a L
 | tail {L L' : List α} {a e : α} : Pk L a L' -> Pk (e :: L) a (e :: L')
theorem Pk.perm {α : Type} {L L' : List α} {a : α} (u : Pk L a L') : L.Perm (a :: L') := by
 induction u with
 | head => exact List.Perm.refl _
 | tail _ ih => exact (List.Perm.cons _ ih).trans (List.Perm.swap ..)
structure DZ (m : aj) (N : Nat) : Prop where
 nodes : m.nodes.length <= N
 names : ∀ n ∈ m.nodes, n.name.size <= 100
 inits : m.inits.length <= N
 nexts : m.nexts.length <= N
 bads : m.bads.length <= N
 holds : m.holds.length <= N
theorem DZ.set {m : aj} {N i : Nat} (d : DZ m N) {n : NodeP} (h2 : n.name.size <= 100) : DZ { m with nodes := m.nodes.set i n } N :=
 ⟨by have := d.nodes; simp; omega, fun x hx => by rcases List.mem_or_eq_of_mem_set hx with hx | rfl; exact d.names x hx; exact h2, d.inits, d.nexts, d.bads, d.holds⟩
end Go.Lead
