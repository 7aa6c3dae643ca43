/- What functions of the program and of the reference come to, walked one by one, and plain laws about it: part 4. No condition is added to the statement. -/
import Derived.Test.YtcefmhmmnagpdaaGreatZ2
namespace Go.Lead
open Go
set_option linter.unusedSimpArgs false
set_option linter.unusedVariables false
set_option maxRecDepth 100000
set_option maxHeartbeats 1000000
theorem Fu : ∀ (vs cs : List Value) (o : Nat), o + vs.length <= cs.length -> (dY cs o vs).take (o + vs.length) = cs.take o ++ vs := by
 intro vs
 induction vs with
 | nil => intro cs o _; simp [Cw]
 | cons v r ih =>
  intro cs o h
  rw [List.length_cons] at h ⊢
  rw [zf, show o + (r.length + 1) = (o + 1) + r.length by omega, ih _ _ (by rw [List.length_set]; omega), jU v (by omega), List.append_assoc]; rfl
theorem Iz {h : Hp} {n : NodeP} {R : Value -> Hp -> Prop} (k : R (rk n) h) : qA #[rk n] h R := by
 refine ACalls.drop (EH ?_)
 refine uf_ ?_
 have K0 := Kn.nil h
 (with_reducible apply Kn.al); (assumption); (intro b4 h1 K1 l1 hb4)
 (with_reducible apply Kn.al); (assumption); (intro b6 h2 K2 l2 hb6)
 (with_reducible apply Kn.al); (assumption); (intro b9 h3 K3 l3 hb9)
 repeat' (first | (refine kr_ ?_) | ((((with_reducible apply Kn.wr); (assumption); ((focus ((repeat first | exact .head | apply Upd.tail); done))))); (exact of_decide_eq_true rfl); (intro _ _ _)) | (refine Ht ⟨_, _, rfl, ?_⟩))
 exact ⟨_, Kn.le (by assumption), k⟩
theorem Fz {α : Type} {f : α -> List Value} {l : List α} {i : Nat} {x : α} (h : l[i]? = some x) : (l.take (i + 1)).flatMap f = (l.take i).flatMap f ++ f x := by
 have hlt := get_lt h
 rw [List.getElem?_eq_getElem hlt] at h
 rw [List.take_succ_eq_append_getElem hlt, List.flatMap_append, Option.some.inj h]; simp
theorem uj (z : Array Value) (n : Nat) : (aA z n).length = n := by simp [aA]
theorem Gl {h : Hp} {s : Sl} {l : List NodeP} {R : Value -> Hp -> Prop} (hs : fH h s l) (hl : l.length <= 1048576)
  (k : ∀ b h', h b = none -> h.le h' -> h' b = some (.inl ⟨l.flatMap nodeCells, l.length * 9, false⟩) -> R (Sl.v (arr b l.length)) h') : pu #[s.v] h R := by
 apply Cm
 refine uf_ ?_
 have hn := hs.len
 refine ⟨by omega, by omega, by omega, by omega, ?_⟩
 rw [Int.toNat_natCast, hn]
 refine ae fun b h1 hb l1 f1 => ?_
 refine aq l.length (fun i vs h' => vs = [s.v, (arr b l.length).v, I i] /\ h.le h' /\ ∃ cs, h' b = some (.inl ⟨cs, l.length * 9, false⟩) /\ cs.length = l.length * 9 /\ cs.take (i * 9) = (l.take i).flatMap nodeCells) ⟨rfl, l1, _, f1, uj _ _, by simp⟩ ?_
 clear f1 l1 h1
 rintro i _ h1 next hi ⟨rfl, l1, cs, f1, hcl, htk⟩ hnx
 refine ⟨s, arr b _, _, rfl, ?_⟩
 by_cases hlt : i < l.length
 rotate_left
 ·have hie : i = l.length := by omega
  subst hie
  refine ak (by simp; omega) (k b h1 hb l1 ?_)
  rw [List.take_of_length_le (by omega), List.take_length] at htk
  rw [<- htk]; exact f1
 refine aH (by simp; omega) ?_
 obtain ⟨n, hni⟩ : ∃ n, l[i]? = some n := ⟨_, List.getElem?_eq_getElem hlt⟩
 obtain ⟨bn, o, ha, c0, c1, c2, c3, c4, c5, c6, c7, c8⟩ := (hs.mono l1).at hni
 refine ⟨bn, o, ha, by omega, by omega, _, c0, _, c1, _, c2, _, c3, _, c4, _, c5, _, c6, _, c7, _, c8, ?_⟩
 refine Iz (n := n) ⟨_, _, _, _, _, _, _, _, _, rfl, ?_⟩
 refine cB ⟨by omega, by dsimp only; omega, ?_⟩
 (with_reducible apply bD); (exact f1); (exact l1); (exact hb); (rw [Int.toNat_natCast]; omega)
 intro h2 f2 kp l2
 rw [az (by omega)]
 refine hnx hlt _ _ ⟨rfl, l2, _, f2, by rw [eP]; exact hcl, ?_⟩
 have := Fu (nodeCells n) cs (i * 9) (by show i * 9 + 9 <= _; omega)
 rw [Int.toNat_natCast, Nat.zero_add]
 rw [Fz hni, <- htk, show (i + 1) * 9 = i * 9 + (nodeCells n).length by show _ = i * 9 + 9; omega]
 exact this
theorem xg {h : Hp} {s : Sl} {l : List BindP} {R : Value -> Hp -> Prop} (hs : lj h s l) (hl : l.length <= 1048576)
  (k : ∀ b h', h b = none -> h.le h' -> h' b = some (.inl ⟨l.flatMap bindCells, l.length * 2, false⟩) -> R (Sl.v (arr b l.length)) h') : kW #[s.v] h R := by
 apply B8
 refine uf_ ?_
 have hn := hs.len
 refine ⟨by omega, by omega, by omega, by omega, ?_⟩
 rw [Int.toNat_natCast, hn]
 refine ae fun b h1 hb l1 f1 => ?_
 refine aq l.length (fun i vs h' => vs = [s.v, (arr b l.length).v, I i] /\ h.le h' /\ ∃ cs, h' b = some (.inl ⟨cs, l.length * 2, false⟩) /\ cs.length = l.length * 2 /\ cs.take (i * 2) = (l.take i).flatMap bindCells) ⟨rfl, l1, _, f1, uj _ _, by simp⟩ ?_
 clear f1 l1 h1
 rintro i _ h1 next hi ⟨rfl, l1, cs, f1, hcl, htk⟩ hnx
 refine ⟨s, arr b _, _, rfl, ?_⟩
 by_cases hlt : i < l.length
 rotate_left
 ·have hie : i = l.length := by omega
  subst hie
  refine ak (by simp; omega) (k b h1 hb l1 ?_)
  rw [List.take_of_length_le (by omega), List.take_length] at htk
  rw [<- htk]; exact f1
 refine aH (by simp; omega) ?_
 obtain ⟨n, hni⟩ : ∃ n, l[i]? = some n := ⟨_, List.getElem?_eq_getElem hlt⟩
 obtain ⟨bn, o, ha, c0, c1⟩ := (hs.mono l1).at hni
 refine ⟨bn, o, ha, by omega, by omega, _, c0, _, c1, ?_⟩
 refine H7 (b := n) ⟨_, _, rfl, ?_⟩
 refine cB ⟨by omega, by dsimp only; omega, ?_⟩
 (with_reducible apply bD); (exact f1); (exact l1); (exact hb); (rw [Int.toNat_natCast]; omega)
 intro h2 f2 kp l2
 rw [az (by omega)]
 refine hnx hlt _ _ ⟨rfl, l2, _, f2, by rw [eP]; exact hcl, ?_⟩
 have := Fu (bindCells n) cs (i * 2) (by show i * 2 + 2 <= _; omega)
 rw [Int.toNat_natCast, Nat.zero_add]
 rw [Fz hni, <- htk, show (i + 1) * 2 = i * 2 + (bindCells n).length by show _ = i * 2 + 2; omega]
 exact this
theorem CR {h : Hp} {s : Sl} {l : List Int} {R : Value -> Hp -> Prop} (hs : IntS h s l) (hl : l.length <= 1048576)
  (k : ∀ b h', h b = none -> h.le h' -> h' b = some (.inl ⟨l.map I, l.length * 1, false⟩) -> R (Sl.v (arr b l.length)) h') : iC #[s.v] h R := by
 apply vr
 refine uf_ ?_
 have hn := hs.len
 refine ⟨by omega, by omega, by omega, by omega, ?_⟩
 rw [Int.toNat_natCast, hn]
 refine ae fun b h1 hb l1 f1 => ?_
 refine aq l.length (fun i vs h' => vs = [s.v, (arr b l.length).v, I i] /\ h.le h' /\ ∃ cs, h' b = some (.inl ⟨cs, l.length * 1, false⟩) /\ cs.length = l.length /\ cs.take i = (l.take i).map I) ⟨rfl, l1, _, f1, by rw [uj, Nat.mul_one], by simp⟩ ?_
 clear f1 l1 h1
 rintro i _ h1 next hi ⟨rfl, l1, cs, f1, hcl, htk⟩ hnx
 refine ⟨s, arr b _, _, rfl, ?_⟩
 by_cases hlt : i < l.length
 rotate_left
 ·have hie : i = l.length := by omega
  subst hie
  refine ak (by simp; omega) (k b h1 hb l1 ?_)
  rw [List.take_of_length_le (by omega), List.take_length] at htk
  rw [<- htk]; exact f1
 refine aH (by simp; omega) ?_
 obtain ⟨n, hni⟩ : ∃ n, l[i]? = some n := ⟨_, List.getElem?_eq_getElem hlt⟩
 obtain ⟨bn, o, ha, c0⟩ := (hs.mono l1).get hni
 refine ⟨bn, o, ha, by omega, by omega, _, c0, ?_⟩
 refine cB ⟨by omega, by dsimp only; omega, ?_⟩
 (with_reducible apply bD); (exact f1); (exact l1); (exact hb); (rw [Int.toNat_natCast]; omega)
 intro h2 f2 kp l2
 rw [az (by omega)]
 refine hnx hlt _ _ ⟨rfl, l2, _, f2, by rw [eP]; exact hcl, ?_⟩
 rw [Int.toNat_natCast, Nat.zero_add, Nat.mul_one, bk, jU _ (by omega), htk, List.take_succ_eq_append_getElem hlt, List.map_append]
 rw [List.getElem?_eq_getElem hlt] at hni
 rw [Option.some.inj hni]; rfl
def dS (m : aj) (bn bi bx bb bh : Nat) : List (Nat × Blk) :=
 [(bn, .inl ⟨m.nodes.flatMap nodeCells, m.nodes.length * 9, false⟩), (bi, .inl ⟨m.inits.flatMap bindCells, m.inits.length * 2, false⟩), (bx, .inl ⟨m.nexts.flatMap bindCells, m.nexts.length * 2, false⟩),
  (bb, .inl ⟨m.bads.map I, m.bads.length * 1, false⟩), (bh, .inl ⟨m.holds.map I, m.holds.length * 1, false⟩)]
abbrev Ar (m : aj) (bn bi bx bb bh : Nat) : MSl := ⟨arr bn m.nodes.length, arr bi m.inits.length, arr bx m.nexts.length, arr bb m.bads.length, arr bh m.holds.length⟩
theorem aF {h : Hp} {M : MSl} {m : aj} {R : Value -> Hp -> Prop} (hs : aG h M m) (hm : bU m)
  (k : ∀ bn bi bx bb bh h', Kn h h' (dS m bn bi bx bb bh) -> R (aN (Ar m bn bi bx bb bh)) h') : ay #[aN M] h R := by
 apply BK
 refine uf_ ?_
 have K0 := Kn.nil h
 (with_reducible apply Kn.al); (assumption); (intro b7 h1 K1 l1 hb7)
 (with_reducible apply Kn.al); (assumption); (intro b9 h2 K2 l2 hb9)
 (with_reducible apply Kn.al); (assumption); (intro b12 h3 K3 l3 hb12)
 repeat' (refine kr_ ?_)
 refine Gl (hs.mono K3.le).nodes hm.nodes fun bn h4 hbn l4 f4 => ⟨_, rfl, ?_⟩
 have K4 := K3.cons hbn l4 f4
 (((with_reducible apply Kn.wr); (assumption); ((focus ((repeat first | exact .head | apply Upd.tail); done)))))
 ·exact of_decide_eq_true rfl
 intro h5 K5 _
 repeat' (refine kr_ ?_)
 refine xg (hs.mono K5.le).inits hm.inits fun bi h6 hbi l6 f6 => ⟨_, rfl, ?_⟩
 have K6 := K5.cons hbi l6 f6
 (((with_reducible apply Kn.wr); (assumption); ((focus ((repeat first | exact .head | apply Upd.tail); done)))))
 ·exact of_decide_eq_true rfl
 intro h7 K7 _
 repeat' (refine kr_ ?_)
 refine xg (hs.mono K7.le).nexts hm.nexts fun bx h8 hbx l8 f8 => ⟨_, rfl, ?_⟩
 have K8 := K7.cons hbx l8 f8
 (((with_reducible apply Kn.wr); (assumption); ((focus ((repeat first | exact .head | apply Upd.tail); done)))))
 ·exact of_decide_eq_true rfl
 intro h9 K9 _
 repeat' (refine kr_ ?_)
 refine CR (hs.mono K9.le).bads hm.bads fun bb h10 hbb l10 f10 => ⟨_, rfl, ?_⟩
 have K10 := K9.cons hbb l10 f10
 (((with_reducible apply Kn.wr); (assumption); ((focus ((repeat first | exact .head | apply Upd.tail); done)))))
 ·exact of_decide_eq_true rfl
 intro h11 K11 _
 repeat' (refine kr_ ?_)
 refine CR (hs.mono K11.le).holds hm.holds fun bh h12 hbh l12 f12 => ⟨_, rfl, ?_⟩
 have K12 := K11.cons hbh l12 f12
 (((with_reducible apply Kn.wr); (assumption); ((focus ((repeat first | exact .head | apply Upd.tail); done)))))
 ·exact of_decide_eq_true rfl
 intro h13 K13 _
 repeat' (refine kr_ ?_)
 (((with_reducible apply Kn.wr); (assumption); ((focus ((repeat first | exact .head | apply Upd.tail); done)))))
 ·exact of_decide_eq_true rfl
 intro h14 K14 _
 repeat' (refine kr_ ?_)
 refine k bn bi bx bb bh h14 (K14.sub (fun e he => ?_) ?_)
 ·simp only [dS, List.mem_cons, List.not_mem_nil, or_false] at he
  rcases he with rfl | rfl | rfl | rfl | rfl
  ·exact .tail _ (.tail _ (.tail _ (.tail _ (.head _))))
  ·exact .tail _ (.tail _ (.tail _ (.head _)))
  ·exact .tail _ (.tail _ (.head _))
  ·exact .tail _ (.head _)
  ·exact .head _
 ·have nd : ([bh, bb, bx, bi, bn] ++ [b12, b9, b7]).Nodup := K14.nd
  have nd2 : ([bh, bb, bx, bi, bn] : List Nat).reverse.Nodup := (List.reverse_perm _).nodup_iff.2 (List.nodup_append.1 nd).1
  exact nd2
theorem dg {g h : Hp} {X : List (Nat × Blk)} {m : aj} {bn bi bx bb bh : Nat} (K : Kn g h (dS m bn bi bx bb bh ++ X)) (hm : bU m) : aG h (Ar m bn bi bx bb bh) m := by
 have g1 := hm.nodes
 have g2 := hm.inits
 have g3 := hm.nexts
 have g4 := hm.bads
 have g5 := hm.holds
 refine ⟨⟨by dsimp only; omega, by rw [gi (m := 9) (fun _ => rfl)], .inr ⟨bn, 0, rfl, ax (K.at (List.mem_append_left _ (.head _)))⟩⟩,
  ⟨by dsimp only; omega, by rw [gi (m := 2) (fun _ => rfl)], .inr ⟨bi, 0, rfl, ax (K.at (List.mem_append_left _ (.tail _ (.head _))))⟩⟩,
  ⟨by dsimp only; omega, by rw [gi (m := 2) (fun _ => rfl)], .inr ⟨bx, 0, rfl, ax (K.at (List.mem_append_left _ (.tail _ (.tail _ (.head _)))))⟩⟩,
  ⟨by dsimp only; omega, by simp, .inr ⟨bb, 0, rfl, ax (K.at (List.mem_append_left _ (.tail _ (.tail _ (.tail _ (.head _))))))⟩⟩,
  ⟨by dsimp only; omega, by simp, .inr ⟨bh, 0, rfl, ax (K.at (List.mem_append_left _ (.tail _ (.tail _ (.tail _ (.tail _ (.head _)))))))⟩⟩, Nat.le_refl _⟩
theorem IJ {h : Hp} {i w : Int} {R : Value -> Hp -> Prop} (k : R (.bool true) h) : qz #[.agg #[I i, I w], .agg #[I i, I w]] h R := by
 refine ACalls.drop (Ey ?_)
 refine uf_ ?_
 have K0 := Kn.nil h
 (with_reducible apply Kn.al); (assumption); (intro b4 h1 K1 l1 hb4)
 (with_reducible apply Kn.al); (assumption); (intro b6 h2 K2 l2 hb6)
 repeat' (first | (refine kr_ ?_) | (refine ak (by simp) ?_))
 exact ⟨_, K2.le, k⟩
theorem Hl {h : Hp} {b : BindP} {R : Value -> Hp -> Prop} (k : R (.bool true) h) : qw #[vo b, vo b] h R := by
 refine ACalls.drop (E3 ?_)
 refine uf_ ?_
 have K0 := Kn.nil h
 (with_reducible apply Kn.al); (assumption); (intro b4 h1 K1 l1 hb4)
 (with_reducible apply Kn.al); (assumption); (intro b6 h2 K2 l2 hb6)
 repeat' (first | (refine kr_ ?_) | (refine ak (by simp) ?_))
 exact ⟨_, K2.le, k⟩
theorem Ib {h : Hp} {n : NodeP} {R : Value -> Hp -> Prop} (k : R (.bool true) h) : ql #[rk n, rk n] h R := by
 refine ACalls.drop (Ek ?_)
 refine uf_ ?_
 have K0 := Kn.nil h
 (with_reducible apply Kn.al); (assumption); (intro b4 h1 K1 l1 hb4)
 (with_reducible apply Kn.al); (assumption); (intro b6 h2 K2 l2 hb6)
 repeat' (first | (refine kr_ ?_) | (refine ak (by simp) ?_) | (refine IJ ⟨_, rfl, ?_⟩))
 exact ⟨_, K2.le, k⟩
theorem G7 {h : Hp} {s t : Sl} {l : List NodeP} {R : Value -> Hp -> Prop} (hs : fH h s l) (ht : fH h t l) (k : R (.bool true) h) : om #[s.v, t.v] h R := by
 apply CM
 refine uf_ ?_
 have hn := hs.len
 have hn2 := ht.len
 have hb := hs.1
 refine ak (by simp; omega) ?_
 refine aq l.length (fun i vs h' => vs = [s.v, t.v, I i] /\ h' = h) ⟨rfl, rfl⟩ ?_
 rintro i _ _ next hi ⟨rfl, rfl⟩ hnx
 rename_i h
 refine ⟨s, t, _, rfl, ?_⟩
 by_cases hlt : i < l.length
 ·refine aH (by simp; omega) ?_
  obtain ⟨n, hni⟩ : ∃ n, l[i]? = some n := ⟨_, List.getElem?_eq_getElem hlt⟩
  obtain ⟨b, o, ha, c0, c1, c2, c3, c4, c5, c6, c7, c8⟩ := hs.at hni
  obtain ⟨b', o', ha', d0, d1, d2, d3, d4, d5, d6, d7, d8⟩ := ht.at hni
  refine ⟨b, o, ha, by omega, by omega, b', o', ha', by omega, by omega, _, c0, _, c1, _, c2, _, c3, _, c4, _, c5, _, c6, _, c7, _, c8, _, d0, _, d1, _, d2, _, d3, _, d4, _, d5, _, d6, _, d7, _, d8, ?_⟩
  refine Ib (n := n) ⟨_, rfl, ak rfl ?_⟩
  rw [az (by omega)]
  exact hnx hlt _ _ ⟨rfl, rfl⟩
 ·exact ak (by simp; omega) k
theorem yz {h : Hp} {s t : Sl} {l : List BindP} {R : Value -> Hp -> Prop} (hs : lj h s l) (ht : lj h t l) (k : R (.bool true) h) : kZ #[s.v, t.v] h R := by
 apply C7
 refine uf_ ?_
 have hn := hs.len
 have hn2 := ht.len
 have hb := hs.1
 refine ak (by simp; omega) ?_
 refine aq l.length (fun i vs h' => vs = [s.v, t.v, I i] /\ h' = h) ⟨rfl, rfl⟩ ?_
 rintro i _ _ next hi ⟨rfl, rfl⟩ hnx
 rename_i h
 refine ⟨s, t, _, rfl, ?_⟩
 by_cases hlt : i < l.length
 ·refine aH (by simp; omega) ?_
  obtain ⟨n, hni⟩ : ∃ n, l[i]? = some n := ⟨_, List.getElem?_eq_getElem hlt⟩
  obtain ⟨b, o, ha, c0, c1⟩ := hs.at hni
  obtain ⟨b', o', ha', d0, d1⟩ := ht.at hni
  refine ⟨b, o, ha, by omega, by omega, b', o', ha', by omega, by omega, _, c0, _, c1, _, d0, _, d1, ?_⟩
  refine Hl (b := n) ⟨_, rfl, ak rfl ?_⟩
  rw [az (by omega)]
  exact hnx hlt _ _ ⟨rfl, rfl⟩
 ·exact ak (by simp; omega) k
theorem eo {h : Hp} {M M' : MSl} {m : aj} {R : Value -> Hp -> Prop} (hs : aG h M m) (ht : aG h M' m) (k : R (.bool true) h) : cK #[aN M, aN M'] h R := by
 refine ACalls.drop (DJ ?_)
 refine uf_ ?_
 have K0 := Kn.nil h
 (with_reducible apply Kn.al); (assumption); (intro b4 h1 K1 l1 hb4)
 (with_reducible apply Kn.al); (assumption); (intro b6 h2 K2 l2 hb6)
 have hs2 := hs.mono K2.le
 have ht2 := ht.mono K2.le
 repeat' (refine kr_ ?_)
 refine G7 hs2.nodes ht2.nodes ⟨_, rfl, ak rfl ?_⟩
 repeat' (refine kr_ ?_)
 refine yz hs2.inits ht2.inits ⟨_, rfl, ak rfl ?_⟩
 repeat' (refine kr_ ?_)
 refine yz hs2.nexts ht2.nexts ⟨_, rfl, ak rfl ?_⟩
 repeat' (refine kr_ ?_)
 refine pS hs2.bads ht2.bads ⟨_, rfl, ak (by simp) ?_⟩
 repeat' (refine kr_ ?_)
 refine pS hs2.holds ht2.holds ⟨_, rfl, ak (by simp) ?_⟩
 exact ⟨_, K2.le, k⟩
theorem Eu {h : Hp} {x : Int} {R : Value -> Hp -> Prop} (hx : x <= 9223372036854775000) (k : ∀ s : ByteArray, R (.string s) h) : na #[I x] h R := by
 refine ACalls.drop (AL ?_)
 refine uf_ ?_
 refine ad (fun e => ⟨_, Hp.le_refl _, k _⟩) (fun e => ?_)
 have e := of_decide_eq_false e
 obtain ⟨n, rfl⟩ : ∃ n : Nat, x = n := ⟨x.toNat, by omega⟩
 refine uA n (fun q vs h' => ∃ s : ByteArray, vs = [I q, .string s] /\ h.le h' /\ s.size + q <= 9223372036854775000) ⟨_, rfl, Hp.le_refl _, by show 0 + n <= _; omega⟩ ?_
 rintro q _ h1 next ⟨s, rfl, l1, hsz⟩ hnx
 refine ⟨_, s, rfl, ?_⟩
 refine ad (fun e => ?_) (fun e => ?_)
 ·have e := of_decide_eq_true e
  refine ae fun b h2 hb l2 f2 => ?_
  have hm : Int.tmod (q : Int) 10 = ((q % 10 : Nat) : Int) := eX q 10
  have hd : Int.tdiv (q : Int) 10 = ((q / 10 : Nat) : Int) := CE q 10
  have hmod : q % 10 < 10 := Nat.mod_lt _ (by omega)
  have hw : IntKind.wrap .u8 (W (48 + ((q % 10 : Nat) : Int))) = ((48 + q % 10 : Nat) : Int) := by
   rw [cc (by omega) (by omega), IntKind.wrap_u8]; omega
  rw [hm, hw] at f2
  refine ⟨[UInt8.ofNat (48 + q % 10)], ⟨rfl, .inr ⟨b, 0, rfl, ?_⟩⟩, ?_⟩
  ·have hc : eG [UInt8.ofNat (48 + q % 10)] = [.int .u8 ((48 + q % 10 : Nat) : Int)] := by
    unfold eG
    rw [List.map_cons, List.map_nil]
    have : (UInt8.ofNat (48 + q % 10)).toNat = 48 + q % 10 := by rw [UInt8.toNat_ofNat']; omega
    rw [this]; rfl
   rw [hc]; exact ax f2
  ·have h1s : (⟨[UInt8.ofNat (48 + q % 10)].toArray⟩ : ByteArray).size = 1 := rfl
   rw [h1s, hd, fj (by omega)]
   refine ⟨by omega, hnx (q / 10) (by omega) _ _ ⟨_, rfl, Hp.le_trans l1 l2, ?_⟩⟩
   rw [ByteArray.size_append, h1s]
   omega
 ·have h1s : (⟨#[109]⟩ : ByteArray).size = 1 := rfl
  exact ⟨by rw [h1s]; omega, _, l1, k _⟩
theorem KH {x : Int} (h0 : 0 <= x) (h : x <= 9223372036854775000) : W (x + 1) = x + 1 := cc (by omega) (by omega)
theorem CW {h : Hp} {b n z : Nat} {cs : List Value} {k0 : Int} {R : Value -> Hp -> Prop} (f : h b = some (.inl ⟨cs, z, false⟩)) (hl : cs.length = n * 9) (h0 : 0 <= k0) (hk : k0 + n * 9 <= 1000000000000)
  (k : ∀ h' cs', (h.off b).le h' -> h' b = some (.inl ⟨cs', z, false⟩) -> cs'.length = n * 9 -> R (I (k0 + n * 9)) h') : ma #[(arr b n).v, I k0] h R := by
 apply zg
 refine uf_ ?_
 refine aq n (fun i vs h' => vs = [(arr b n).v, I (k0 + i * 9), I i] /\ ∃ cs, Kn (h.off b) h' [(b, .inl ⟨cs, z, false⟩)] /\ cs.length = n * 9) ⟨by simp, cs, ?_, hl⟩ ?_
 ·exact ⟨yY _ _, fun e he => by rw [List.mem_singleton.1 he]; exact f, fun e he => by rw [List.mem_singleton.1 he]; exact qa _ _, by simp⟩
 clear f hl cs
 rintro i _ h1 next hi ⟨rfl, cs, K, hl⟩ hnx
 refine ⟨arr b n, _, _, rfl, ?_⟩
 by_cases hlt : i < n
 rotate_left
 ·have hie : i = n := by omega
  subst hie
  exact ak (by simp) (k h1 cs K.le (K.at (.head _)) hl)
 refine aH (by simp; omega) ?_
 simp (disch := omega) only [KH]
 have hnat : Int.toNat (i : Int) = i := Int.toNat_natCast i
 rw [hnat]
 repeat' (first
  | (refine cB ⟨by omega, by first | omega | (dsimp only; omega), ?_⟩)
  | ((((with_reducible apply Kn.wr); (assumption); ((focus ((repeat first | exact .head | apply Upd.tail); done))))); (first | omega | (simp only [eP]; omega)); (intro _ _ _)))
 refine Eu (by omega) fun s => ⟨s, rfl, ?_⟩
 refine cB ⟨by omega, by first | omega | (dsimp only; omega), ?_⟩
 (((with_reducible apply Kn.wr); (assumption); ((focus ((repeat first | exact .head | apply Upd.tail); done)))))
 ·first | omega | (simp only [eP]; omega)
 intro h2 K2 _
 have hni : ((i : Int) + 1) = ((i + 1 : Nat) : Int) := by omega
 have := hnx hlt _ _ ⟨rfl, _, K2, by first | exact hl | (simp only [eP]; exact hl)⟩
 have hke : k0 + (i : Int) * 9 + 1 + 1 + 1 + 1 + 1 + 1 + 1 + 1 + 1 = k0 + ((i + 1 : Nat) : Int) * 9 := by omega
 rw [hni, hke]; exact this
theorem ti {h : Hp} {b n z : Nat} {cs : List Value} {k0 : Int} {R : Value -> Hp -> Prop} (f : h b = some (.inl ⟨cs, z, false⟩)) (hl : cs.length = n * 2) (h0 : 0 <= k0) (hk : k0 + n * 2 <= 1000000000000)
  (k : ∀ h' cs', (h.off b).le h' -> h' b = some (.inl ⟨cs', z, false⟩) -> cs'.length = n * 2 -> R (I (k0 + n * 2)) h') : jt #[(arr b n).v, I k0] h R := by
 apply zm
 refine uf_ ?_
 refine aq n (fun i vs h' => vs = [(arr b n).v, I (k0 + i * 2), I i] /\ ∃ cs, Kn (h.off b) h' [(b, .inl ⟨cs, z, false⟩)] /\ cs.length = n * 2) ⟨by simp, cs, ?_, hl⟩ ?_
 ·exact ⟨yY _ _, fun e he => by rw [List.mem_singleton.1 he]; exact f, fun e he => by rw [List.mem_singleton.1 he]; exact qa _ _, by simp⟩
 clear f hl cs
 rintro i _ h1 next hi ⟨rfl, cs, K, hl⟩ hnx
 refine ⟨arr b n, _, _, rfl, ?_⟩
 by_cases hlt : i < n
 rotate_left
 ·have hie : i = n := by omega
  subst hie
  exact ak (by simp) (k h1 cs K.le (K.at (.head _)) hl)
 refine aH (by simp; omega) ?_
 simp (disch := omega) only [KH]
 have hnat : Int.toNat (i : Int) = i := Int.toNat_natCast i
 rw [hnat]
 repeat' (first
  | (refine cB ⟨by omega, by first | omega | (dsimp only; omega), ?_⟩)
  | ((((with_reducible apply Kn.wr); (assumption); ((focus ((repeat first | exact .head | apply Upd.tail); done))))); (first | omega | (simp only [eP]; omega)); (intro _ _ _)))
 have hni : ((i : Int) + 1) = ((i + 1 : Nat) : Int) := by omega
 have hke : k0 + (i : Int) * 2 + 1 + 1 = k0 + ((i + 1 : Nat) : Int) * 2 := by omega
 rw [hni, hke]
 refine hnx hlt _ _ ⟨rfl, _, by assumption, by first | exact hl | (simp only [eP]; exact hl)⟩
theorem xP {h : Hp} {b n z : Nat} {cs : List Value} {k0 : Int} {R : Value -> Hp -> Prop} (f : h b = some (.inl ⟨cs, z, false⟩)) (hl : cs.length = n) (h0 : 0 <= k0) (hk : k0 + n <= 1000000000000)
  (k : ∀ h' cs', (h.off b).le h' -> h' b = some (.inl ⟨cs', z, false⟩) -> cs'.length = n -> R (I (k0 + n)) h') : ey #[(arr b n).v, I k0] h R := by
 apply sB
 refine uf_ ?_
 refine aq n (fun i vs h' => vs = [(arr b n).v, I (k0 + i), I i] /\ ∃ cs, Kn (h.off b) h' [(b, .inl ⟨cs, z, false⟩)] /\ cs.length = n) ⟨by simp, cs, ?_, hl⟩ ?_
 ·exact ⟨yY _ _, fun e he => by rw [List.mem_singleton.1 he]; exact f, fun e he => by rw [List.mem_singleton.1 he]; exact qa _ _, by simp⟩
 clear f hl cs
 rintro i _ h1 next hi ⟨rfl, cs, K, hl⟩ hnx
 refine ⟨arr b n, _, _, rfl, ?_⟩
 by_cases hlt : i < n
 rotate_left
 ·have hie : i = n := by omega
  subst hie
  exact ak (by simp) (k h1 cs K.le (K.at (.head _)) hl)
 refine aH (by simp; omega) ?_
 simp (disch := omega) only [KH]
 have hnat : Int.toNat (i : Int) = i := Int.toNat_natCast i
 rw [hnat]
 repeat' (first
  | (refine cB ⟨by omega, by first | omega | (dsimp only; omega), ?_⟩)
  | ((((with_reducible apply Kn.wr); (assumption); ((focus ((repeat first | exact .head | apply Upd.tail); done))))); (first | omega | (simp only [eP]; omega)); (intro _ _ _)))
 have hni : ((i : Int) + 1) = ((i + 1 : Nat) : Int) := by omega
 have hke : k0 + (i : Int) + 1 = k0 + ((i + 1 : Nat) : Int) := by omega
 rw [hke, hni]
 refine hnx hlt _ _ ⟨rfl, _, by assumption, by first | exact hl | (simp only [eP]; exact hl)⟩
theorem en {g h : Hp} {X : List (Nat × Blk)} {m : aj} {bn bi bx bb bh : Nat} {R : Value -> Hp -> Prop} (K : Kn g h (dS m bn bi bx bb bh ++ X)) (hm : bU m)
  (k : ∀ h' L', L'.map Prod.fst = [bn, bi, bx, bb, bh] -> Kn g h' (L' ++ X) -> ∀ r : Int, 0 <= r -> R (I r) h') : cJ #[aN (Ar m bn bi bx bb bh), I 1] h R := by
 apply yU
 refine uf_ ?_
 have g1 := hm.nodes
 have g2 := hm.inits
 have g3 := hm.nexts
 have g4 := hm.bads
 have g5 := hm.holds
 refine ae fun b8 h1 hb8 l1 f8 => ?_
 have K1 := K.cons hb8 l1 f8
 unfold dS at K1
 simp only [List.cons_append, List.nil_append] at K1
 clear K l1 hb8
 (refine am ?_)
 refine CW (K1.at (.tail _ (.head _))) (gi (m := 9) (fun _ => rfl) _) (by omega) (by omega) fun h2 c2 l2 f2 hc2 => ⟨_, rfl, ?_⟩
 have K2 := K1.off (.tail .head) l2 f2
 (refine kr_ ?_)
 refine ti (K2.at (.tail _ (.tail _ (.head _)))) (gi (m := 2) (fun _ => rfl) _) (by omega) (by omega) fun h3 c3 l3 f3 hc3 => ⟨_, rfl, ?_⟩
 have K3 := K2.off (.tail (.tail .head)) l3 f3
 (refine kr_ ?_)
 refine ti (K3.at (.tail _ (.tail _ (.tail _ (.head _))))) (gi (m := 2) (fun _ => rfl) _) (by omega) (by omega) fun h4 c4 l4 f4 hc4 => ⟨_, rfl, ?_⟩
 have K4 := K3.off (.tail (.tail (.tail .head))) l4 f4
 (refine kr_ ?_)
 refine xP (K4.at (.tail _ (.tail _ (.tail _ (.tail _ (.head _)))))) (by simp) (by omega) (by omega) fun h5 c5 l5 f5 hc5 => ⟨_, rfl, ?_⟩
 have K5 := K4.off (.tail (.tail (.tail (.tail .head)))) l5 f5
 (refine kr_ ?_)
 refine xP (K5.at (.tail _ (.tail _ (.tail _ (.tail _ (.tail _ (.head _))))))) (by simp) (by omega) (by omega) fun h6 c6 l6 f6 hc6 => ⟨_, rfl, ?_⟩
 have K6 := K5.off (.tail (.tail (.tail (.tail (.tail .head))))) l6 f6
 have nd := K6.nd
 rw [List.map_cons, List.nodup_cons] at nd
 refine k h6 [(bn, .inl ⟨c2, m.nodes.length * 9, false⟩), (bi, .inl ⟨c3, m.inits.length * 2, false⟩), (bx, .inl ⟨c4, m.nexts.length * 2, false⟩), (bb, .inl ⟨c5, m.bads.length * 1, false⟩), (bh, .inl ⟨c6, m.holds.length * 1, false⟩)] rfl (K6.sub (L' := [(bn, .inl ⟨c2, m.nodes.length * 9, false⟩), (bi, .inl ⟨c3, m.inits.length * 2, false⟩), (bx, .inl ⟨c4, m.nexts.length * 2, false⟩), (bb, .inl ⟨c5, m.bads.length * 1, false⟩), (bh, .inl ⟨c6, m.holds.length * 1, false⟩)] ++ X) (fun e he => .tail _ he) nd.2) _ (by omega)
theorem list9 {cs : List Value} (h : cs.length = 9) : ∃ a b c d e f g i j, cs = [a, b, c, d, e, f, g, i, j] := by
 match cs, h with
 | [a, b, c, d, e, f, g, i, j], _ => exact ⟨a, b, c, d, e, f, g, i, j, rfl⟩
theorem list2 {cs : List Value} (h : cs.length = 2) : ∃ a b, cs = [a, b] := by
 match cs, h with
 | [a, b], _ => exact ⟨a, b, rfl⟩
theorem Got.flat {P : Program} {W : World} {t e : TypeId} {v : Value} {α : Type} {f : α -> List Value} {m : Nat} {p : α -> Prop} (hf : ∀ x, (f x).length = m) (hpos : 0 < m) (ht : P.underlying t = some (.slice e)) (hsz : P.cellsOf e = m)
  (hg : ∀ ds, Got P W e ds -> ∃ x, ds = f x /\ p x) (g : Got P W t [v]) : ∃ (s : Sl) (l : List α), v = s.v /\ s.n <= s.c /\ SlC (hW W) s m (l.flatMap f) /\ ∀ x ∈ l, p x := by
 obtain ⟨s, hs, hm, hlc, h⟩ := Got.slice ht hsz hpos g
 simp only [List.cons.injEq, and_true] at hs
 rcases h with h | ⟨b, o, ha, h⟩
 ·exact ⟨s, [], hs, hlc, ⟨hm, by simp [h], .inl h⟩, by simp⟩
 obtain ⟨xs, hl, hx⟩ := Bg (p := fun i (x : α) => (∀ (j : Nat) v, (f x)[j]? = some v -> Hp.cell (hW W) b (o + i * m + j) = some v) /\ p x) s.n fun i hi => by
  obtain ⟨ds, hd, hgd, hc⟩ := h i hi
  obtain ⟨x, rfl, hp⟩ := hg ds hgd
  exact ⟨x, hc, hp⟩
 refine ⟨s, xs, hs, hlc, ⟨hm, by rw [gi hf, hl], .inr ⟨b, o, ha, ?_⟩⟩, ?_⟩
 ·intro i v hv
  have hi : i < (xs.flatMap f).length := (List.getElem?_eq_some_iff.1 hv).1
  rw [gi hf] at hi
  have hq : i / m < xs.length := by rw [Nat.div_lt_iff_lt_mul hpos]; exact hi
  have hr : i % m < m := Nat.mod_lt _ hpos
  have he : i = i / m * m + i % m := by rw [Nat.mul_comm]; exact (Nat.div_add_mod _ _).symm
  rw [he, tY hf xs (i / m) xs[i / m] (i % m) (List.getElem?_eq_getElem hq) hr] at hv
  have := (hx (i / m) hq).1 _ _ hv
  rw [he, <- Nat.add_assoc]; exact this
 ·intro x hxm
  obtain ⟨i, hi, rfl⟩ := List.getElem_of_mem hxm
  exact (hx i hi).2
def tb (n : Nat) (T : Nat -> Bool) : List Value := (List.range n).map fun i => .bool (T i)
theorem eW (n : Nat) (T : Nat -> Bool) : (tb n T).length = n := by simp [tb]
theorem jI {n j : Nat} {T : Nat -> Bool} (hj : j < n) : (tb n T)[j]? = some (.bool (T j)) := by simp [tb, hj]
theorem SS {n : Nat} {T U : Nat -> Bool} (h : ∀ j, j < n -> T j = U j) : tb n T = tb n U := by
 refine List.map_congr_left fun j hj => ?_
 rw [h j (List.mem_range.1 hj)]
theorem hX (n : Nat) : List.replicate n (.bool false) = tb n fun _ => false := by
 refine List.ext_getElem (by simp [tb]) fun i h1 h2 => ?_
 simp [tb]
theorem iO {n j : Nat} {T : Nat -> Bool} {v : Bool} : (tb n T).set j (.bool v) = tb n fun i => if i = j then v else T i := by
 refine List.ext_getElem (by simp [tb]) fun i h1 h2 => ?_
 rw [List.getElem_set]
 simp only [tb, List.getElem_map, List.getElem_range]
 by_cases e : i = j
 ·rw [if_pos e, if_pos e.symm]
 ·rw [if_neg e, if_neg fun h => e h.symm]
theorem SZ (n : Nat) (T : Nat -> Bool) : tb n T = ((List.range n).map T).map Value.bool := by simp [tb]
theorem gq {h : Hp} {b n z : Nat} {ro : Bool} {T U : Nat -> Bool} (hn : n <= 9223372036854775807) (f : h b = some (.inl ⟨tb n T, z, ro⟩)) (e : ∀ j, j < n -> T j = U j) : cy h (arr b n) n U := by
 refine ⟨by dsimp only; omega, by simp, .inr ⟨b, 0, rfl, ?_⟩⟩
 have := ax f
 rwa [SS e, SZ] at this
theorem dy {σ : ar} (ok : σ.Ok) : 2 ^ σ.n <= 256 := by
 have := Nat.pow_le_pow_right (n := 2) (by omega) ok.nle
 simpa using this
theorem zk {σ : ar} (ok : σ.Ok) : 2 ^ σ.k <= 32 := by
 have := Nat.pow_le_pow_right (n := 2) (by omega) ok.kle
 simpa using this
theorem kD {σ : ar} (ok : σ.Ok) : 2 ^ (σ.n + σ.k) <= 8192 := by
 have h1 := ok.nle
 have h2 := ok.kle
 have := Nat.pow_le_pow_right (n := 2) (by omega) (show σ.n + σ.k <= 13 by omega)
 simpa using this
theorem Bo {h : Hp} {b s i : Nat} {σ : ar} {R : Value -> Hp -> Prop} (hs : jJ h b σ) (ok : σ.Ok) (h1 : s < 2 ^ σ.n) (h2 : i < 2 ^ σ.k) (k : R (I (σ.at_ s i : Nat)) h) :
  fE #[.pointer (some ⟨b, 0, none⟩), I s, I i] h R := by
 apply zi
 refine uf_ ?_
 obtain ⟨M, st, hold, bad, next, fx, _, _, _⟩ := hs
 have hn := dy ok
 have hk := kD ok
 have hl := ar.at_lt h1 h2
 have h8 := ok.nle
 unfold ar.at_ at hl k
 refine cB ?_
 (refine am ?_)
 rw [if_neg (by omega), gp (by omega) (by omega), xW (by omega) (by omega)]
 refine m5 ?_ k
 rw [<- Nat.shiftLeft_eq, <- Nat.shiftLeft_add_eq_or_of_lt h1, Nat.shiftLeft_eq]
theorem G0 {h : Hp} {b c : Nat} {σ : ar} {R : Value -> Hp -> Prop} (hs : jJ h b σ) (hc : c < 2 ^ (σ.n + σ.k)) (k : R (.bool (σ.hold c)) h) :
  ly #[.pointer (some ⟨b, 0, none⟩), I c] h R := by
 apply te
 refine uf_ ?_
 obtain ⟨M, st, hold, bad, next, fx, hh, _, _⟩ := hs
 refine cB ?_
 (refine am ?_)
 obtain ⟨b', o', ha, h1, h2⟩ := hh.get hc
 exact ⟨b', o', ha, by omega, h1, _, h2, k⟩
theorem qP {h : Hp} {b c : Nat} {σ : ar} {R : Value -> Hp -> Prop} (hs : jJ h b σ) (hc : c < 2 ^ (σ.n + σ.k)) (k : R (.bool (σ.ends c)) h) :
  eF #[.pointer (some ⟨b, 0, none⟩), I c] h R := by
 apply vR
 refine uf_ ?_
 obtain ⟨M, st, hold, bad, next, fx, hh, hb, _⟩ := hs
 refine cB ?_
 (refine am ?_)
 obtain ⟨b', o', ha, h1, h2⟩ := hh.get hc
 refine ⟨b', o', ha, by omega, h1, _, h2, ?_⟩
 unfold ar.ends at k
 refine ad (fun e => ?_) (fun e => ?_)
 ·refine cB ?_
  (refine am ?_)
  obtain ⟨b', o', ha, h1, h2⟩ := hb.get hc
  refine ⟨b', o', ha, by omega, h1, _, h2, dk ?_ k⟩
  rw [e]; rfl
 ·rw [e] at k; exact k
def Uo (h : Hp) (fid : FuncId) (u w : Array Value) (σ : ar) (f : Nat -> Nat -> Bool) : Prop :=
 ∀ s i : Nat, s < 2 ^ σ.n -> i < 2 ^ σ.k -> ∀ h' : Hp, h.le h' -> ∀ R : Value -> Hp -> Prop, R (.bool (f s (σ.at_ s i))) h' -> ACalls PR fid ((u ++ #[I s, I (σ.at_ s i : Nat)]) ++ w) h' R
theorem lO {h : Hp} {b : Nat} {σ : ar} {fid : FuncId} {u w : Array Value} {f : Nat -> Nat -> Bool} {R : Value -> Hp -> Prop} (hs : jJ h b σ) (ok : σ.Ok) (hf : Uo h fid u w σ f)
  (k : ∀ t h', h.le h' -> cy (h'.sub h) t (2 ^ σ.n) (σ.some_ f) -> R (Sl.v t) h') : cZ #[.pointer (some ⟨b, 0, none⟩), .func (.func fid) u w] h R := by
 apply wg
 refine uf_ ?_
 have hn := dy ok
 have hk := zk ok
 have h8 := ok.nle
 have h5 := ok.kle
 obtain ⟨M, st, hold, bad, next, fx, _⟩ := id hs
 have K0 := Kn.nil h
 refine cB ?_
 (refine am ?_)
 rw [if_neg (by omega), cu (by omega)]
 refine ⟨Int.natCast_nonneg _, Int.le_refl _, by omega, by omega, ?_⟩
 (with_reducible apply Kn.al); (assumption); (intro b10 h1 K1 l1 hb10)
 rw [Int.toNat_natCast, Nat.mul_one, bO, hX] at K1
 rw [Int.toNat_natCast]
 refine aq (2 ^ σ.n) (fun s vs h' => vs = [.pointer (some ⟨b, 0, none⟩), .func (.func fid) u w, (arr b10 (2 ^ σ.n)).v, I (2 ^ σ.n : Nat), I s] /\
  ∃ T, Kn h h' [(b10, .inl ⟨tb (2 ^ σ.n) T, 2 ^ σ.n, false⟩)] /\ (∀ j, j < s -> T j = σ.some_ f j) /\ ∀ j, s <= j -> T j = false) ⟨rfl, _, K1, fun j hj => by omega, fun _ _ => rfl⟩ ?_
 clear K1 K0 l1 hb10 h1
 rintro s _ h1 next hs' ⟨rfl, T, K1, hT1, hT2⟩ hnx
 refine ⟨_, _, _, _, arr b10 _, _, _, rfl, ?_⟩
 by_cases hlt : s < 2 ^ σ.n
 rotate_left
 ·refine ak (by rw [decide_eq_false_iff_not]; omega) ?_
  exact k _ h1 K1.le (gq (by omega) (by rw [jH (K1.new _ (.head _))]; exact K1.at (.head _)) fun j hj => hT1 j (by omega))
 refine aH (by rw [decide_eq_true_eq]; exact_mod_cast hlt) ?_
 refine cB ?_
 (refine kr_ ?_)
 rw [if_neg (by omega), cu (by omega)]
 refine aq (2 ^ σ.k) (fun i vs h' => vs = [.pointer (some ⟨b, 0, none⟩), .func (.func fid) u w, (arr b10 (2 ^ σ.n)).v, I s, I (2 ^ σ.n : Nat), I s, I (2 ^ σ.k : Nat), I i] /\
  ∃ T, Kn h h' [(b10, .inl ⟨tb (2 ^ σ.n) T, 2 ^ σ.n, false⟩)] /\ (∀ j, j < s -> T j = σ.some_ f j) /\ (∀ j, s < j -> T j = false) /\ T s = lr i fun x => f s (σ.at_ s x))
  ⟨rfl, T, K1, hT1, fun j hj => hT2 j (by omega), by rw [hT2 s (Nat.le_refl _)]; rfl⟩ ?_
 clear K1 hT1 hT2 T h1
 rintro i _ h1 next2 hi ⟨rfl, T, K1, hT1, hT2, hT3⟩ hnx2
 refine ⟨_, _, _, _, arr b10 _, _, _, _, _, _, rfl, ?_⟩
 by_cases hli : i < 2 ^ σ.k
 rotate_left
 ·refine ak (by rw [decide_eq_false_iff_not]; omega) ?_
  have hie : i = 2 ^ σ.k := by omega
  rw [az (by omega)]
  refine hnx hlt _ _ ⟨rfl, T, K1, fun j hj => ?_, fun j hj => hT2 j (by omega)⟩
  by_cases e : j = s
  ·rw [e, hT3, hie]; rfl
  ·exact hT1 j (by omega)
 refine aH (by rw [decide_eq_true_eq]; exact_mod_cast hli) ?_
 have upd : ∀ v, v = lr (i + 1) (fun x => f s (σ.at_ s x)) -> ∀ h', Kn h h' [(b10, .inl ⟨(tb (2 ^ σ.n) T).set s (.bool v), 2 ^ σ.n, false⟩)] ->
   next2 [.pointer (some ⟨b, 0, none⟩), .func (.func fid) u w, (arr b10 (2 ^ σ.n)).v, I s, I (2 ^ σ.n : Nat), I s, I (2 ^ σ.k : Nat), I (W ((i : Int) + 1))] h' := by
  intro v hv h' K
  rw [az (by omega)]
  rw [iO] at K
  exact hnx2 hli _ _ ⟨rfl, _, K, fun j hj => by rw [if_neg (by omega)]; exact hT1 j hj, fun j hj => by rw [if_neg (by omega)]; exact hT2 j hj, by rw [if_pos rfl]; exact hv⟩
 refine ⟨b10, 0, rfl, by omega, by dsimp only; omega, ?_⟩
 refine Kn.rd K1 (.head _) (x := T s) (by rw [Nat.zero_add, Nat.mul_one, Int.toNat_natCast]; exact jI hlt) ?_
 refine ad (fun e => ?_) (fun e => ?_)
 ·refine ⟨b10, 0, rfl, by omega, by dsimp only; omega, ?_⟩
  (((with_reducible apply Kn.wr); (assumption); ((focus ((repeat first | exact .head | apply Upd.tail); done)))))
  ·rw [eW]; omega
  intro h2 K2 _
  rw [bk, Nat.zero_add, Int.toNat_natCast, Nat.mul_one] at K2
  exact upd true (by rw [Fo, <- hT3, e]; rfl) h2 K2
 ·refine Bo (hs.mono K1.le) ok hlt hli ⟨_, rfl, ?_⟩
  refine hf s i hlt hli h1 K1.le _ ⟨_, rfl, ?_⟩
  refine ⟨b10, 0, rfl, by omega, by dsimp only; omega, ?_⟩
  (((with_reducible apply Kn.wr); (assumption); ((focus ((repeat first | exact .head | apply Upd.tail); done)))))
  ·rw [eW]; omega
  intro h2 K2 _
  rw [bk, Nat.zero_add, Int.toNat_natCast, Nat.mul_one] at K2
  exact upd _ (by rw [Fo, <- hT3, e]; rfl) h2 K2
theorem GA {h : Hp} {b : Nat} {s2 : Sl} {σ : ar} {S p : Nat -> Bool} {fid : FuncId} {u w : Array Value} {R : Value -> Hp -> Prop} (hs : jJ h b σ) (ok : σ.Ok) (hS : cy h s2 (2 ^ σ.n) S)
  (hp : zo h fid u w (2 ^ (σ.n + σ.k)) p)
  (k : ∀ b' T h', Kn h h' [(b', .inl ⟨tb (2 ^ σ.n) T, 2 ^ σ.n, false⟩)] -> (∀ j, j < 2 ^ σ.n -> T j = σ.fwd p S j) -> R (arr b' (2 ^ σ.n)).v h') :
  iP #[.pointer (some ⟨b, 0, none⟩), s2.v, .func (.func fid) u w] h R := by
 apply sH
 refine uf_ ?_
 have hn := dy ok
 have hk := zk ok
 have h8 := ok.nle
 have h5 := ok.kle
 have hl := hS.len
 obtain ⟨M, st, hold, bad, next, fx, _, _, hnt⟩ := id hs
 have K0 := Kn.nil h
 rw [hl]
 refine ⟨Int.natCast_nonneg _, Int.le_refl _, by omega, by omega, ?_⟩
 (with_reducible apply Kn.al); (assumption); (intro b8 h1 K1 l1 hb8)
 rw [Int.toNat_natCast, Nat.mul_one, bO, hX] at K1
 rw [Int.toNat_natCast]
 refine aq (2 ^ σ.n) (fun s vs h' => vs = [.pointer (some ⟨b, 0, none⟩), s2.v, .func (.func fid) u w, (arr b8 (2 ^ σ.n)).v, s2.v, I (2 ^ σ.n : Nat), I s] /\
  ∃ T, Kn h h' [(b8, .inl ⟨tb (2 ^ σ.n) T, 2 ^ σ.n, false⟩)] /\ ∀ x, T x = true ↔ ∃ s' i', s' < s /\ i' < 2 ^ σ.k /\ S s' = true /\ p (σ.at_ s' i') = true /\ σ.next (σ.at_ s' i') = x)
  ⟨rfl, _, K1, fun x => ⟨fun e => by simp at e, fun ⟨s', i', e, _⟩ => by omega⟩⟩ ?_
 clear K1 K0 l1 hb8 h1
 rintro s _ h1 nxt hs' ⟨rfl, T, K1, hT⟩ hnx
 refine ⟨_, s2, _, _, _, arr b8 _, s2, _, _, rfl, ?_⟩
 by_cases hlt : s < 2 ^ σ.n
 rotate_left
 ·refine ak (by rw [decide_eq_false_iff_not]; omega) ?_
  have hse : s = 2 ^ σ.n := by omega
  rw [hl]
  refine ⟨Int.natCast_nonneg _, Int.le_refl _, by omega, by omega, ?_⟩
  (with_reducible apply Kn.al); (assumption); (intro b84 h2 K2 l2 hb84)
  rw [Int.toNat_natCast, Nat.mul_one, bO, hX] at K2
  rw [Int.toNat_natCast]
  refine aq (2 ^ σ.n) (fun t vs h' => vs = [.pointer (some ⟨b, 0, none⟩), (arr b8 (2 ^ σ.n)).v, (arr b84 (2 ^ σ.n)).v, I (2 ^ σ.n : Nat), I t] /\
   ∃ U, Kn h h' [(b84, .inl ⟨tb (2 ^ σ.n) U, 2 ^ σ.n, false⟩), (b8, .inl ⟨tb (2 ^ σ.n) T, 2 ^ σ.n, false⟩)] /\ ∀ j, j < t -> U j = σ.fwd p S j)
   ⟨rfl, _, K2, fun j hj => by omega⟩ ?_
  clear K2 l2 hb84 h2
  rintro t _ h2 nxt2 ht ⟨rfl, U, K2, hU⟩ hnx2
  refine ⟨_, arr b8 _, arr b84 _, _, _, rfl, ?_⟩
  by_cases hlt2 : t < 2 ^ σ.n
  rotate_left
  ·refine ak (by rw [decide_eq_false_iff_not]; omega) ?_
   exact k b84 U h2 (K2.sub (fun e he => by rw [List.mem_singleton] at he; subst he; exact .head _) (by simp)) fun j hj => hU j (by omega)
  refine aH (by rw [decide_eq_true_eq]; exact_mod_cast hlt2) ?_
  refine cB ?_
  (refine kr_ ?_)
  have hfx := ok.fixed
  rw [px (by omega) (by omega)]
  have hle : t &&& σ.fixed <= t := Nat.and_le_left
  refine ⟨b8, 0, rfl, by omega, by dsimp only; omega, ?_⟩
  refine Kn.rd K2 (.tail _ (.head _)) (x := T (t &&& σ.fixed)) (by rw [Nat.zero_add, Nat.mul_one, Int.toNat_natCast]; exact jI (by omega)) ?_
  refine ⟨b84, 0, rfl, by omega, by dsimp only; omega, ?_⟩
  (((with_reducible apply Kn.wr); (assumption); ((focus ((repeat first | exact .head | apply Upd.tail); done)))))
  ·rw [eW]; omega
  intro h3 K3 _
  rw [bk, Nat.zero_add, Int.toNat_natCast, Nat.mul_one, iO] at K3
  rw [az (by omega)]
  refine hnx2 hlt2 _ _ ⟨rfl, _, K3, fun j hj => ?_⟩
  by_cases e : j = t
  ·subst e
   rw [if_pos rfl, Bool.eq_iff_iff, hT, ar.fwd_iff]
   constructor
   ·rintro ⟨s', i', q1, q2, q3, q4, q5⟩
    exact ⟨s', i', by omega, q2, q3, q4, by unfold ar.goes; rw [decide_eq_true_eq]; exact q5.symm⟩
   ·rintro ⟨s', i', q1, q2, q3, q4, q5⟩
    unfold ar.goes at q5
    rw [decide_eq_true_eq] at q5
    exact ⟨s', i', by omega, q2, q3, q4, q5.symm⟩
  ·rw [if_neg e]; exact hU j (by omega)
 refine aH (by rw [decide_eq_true_eq]; exact_mod_cast hlt) ?_
 obtain ⟨bS, oS, ha, hlt', hc⟩ := (hS.mono K1.le).get hlt
 refine ⟨bS, oS, ha, by omega, hlt', _, hc, ?_⟩
 refine cB ?_
 (refine kr_ ?_)
 rw [if_neg (by omega), cu (by omega)]
 refine aq (2 ^ σ.k) (fun i vs h' => vs = [.pointer (some ⟨b, 0, none⟩), s2.v, .func (.func fid) u w, (arr b8 (2 ^ σ.n)).v, I s, .bool (S s), s2.v, I (2 ^ σ.n : Nat), I s, I (2 ^ σ.k : Nat), I i] /\
  ∃ T, Kn h h' [(b8, .inl ⟨tb (2 ^ σ.n) T, 2 ^ σ.n, false⟩)] /\ ∀ x, T x = true ↔ ∃ s' i', (s' < s \/ s' = s /\ i' < i) /\ i' < 2 ^ σ.k /\ S s' = true /\ p (σ.at_ s' i') = true /\ σ.next (σ.at_ s' i') = x)
  ⟨rfl, T, K1, fun x => ?_⟩ ?_
 ·rw [hT]
  constructor
  ·rintro ⟨s', i', q1, q⟩; exact ⟨s', i', .inl q1, q⟩
  ·rintro ⟨s', i', q1, q⟩; exact ⟨s', i', by omega, q⟩
 clear K1 hT T h1 hc hlt' ha bS oS
 rintro i _ h1 nxt2 hi ⟨rfl, T, K1, hT⟩ hnx2
 refine ⟨_, s2, _, _, _, arr b8 _, _, _, s2, _, _, _, _, rfl, ?_⟩
 by_cases hli : i < 2 ^ σ.k
 rotate_left
 ·refine ak (by rw [decide_eq_false_iff_not]; omega) ?_
  rw [az (by omega)]
  refine hnx hlt _ _ ⟨rfl, T, K1, fun x => ?_⟩
  rw [hT]
  constructor
  ·rintro ⟨s', i', q1, q⟩; exact ⟨s', i', by omega, q⟩
  ·rintro ⟨s', i', q1, q2, q⟩; exact ⟨s', i', by omega, q2, q⟩
 refine aH (by rw [decide_eq_true_eq]; exact_mod_cast hli) ?_
 have fin : ∀ T' h', Kn h h' [(b8, .inl ⟨tb (2 ^ σ.n) T', 2 ^ σ.n, false⟩)] -> (∀ x, T' x = true ↔ T x = true \/ (S s = true /\ p (σ.at_ s i) = true /\ σ.next (σ.at_ s i) = x)) ->
   nxt2 [.pointer (some ⟨b, 0, none⟩), s2.v, .func (.func fid) u w, (arr b8 (2 ^ σ.n)).v, I s, .bool (S s), s2.v, I (2 ^ σ.n : Nat), I s, I (2 ^ σ.k : Nat), I (W ((i : Int) + 1))] h' := by
  intro T' h' K hx
  rw [az (by omega)]
  refine hnx2 hli _ _ ⟨rfl, T', K, fun x => ?_⟩
  rw [hx, hT]
  constructor
  ·rintro (⟨s', i', q1, q⟩ | ⟨q1, q2, q3⟩)
   ·exact ⟨s', i', by omega, q⟩
   ·exact ⟨s, i, by omega, hli, q1, q2, q3⟩
  ·rintro ⟨s', i', q1, q2, q3, q4, q5⟩
   by_cases e : s' = s /\ i' = i
   ·obtain ⟨rfl, rfl⟩ := e
    exact .inr ⟨q3, q4, q5⟩
   ·exact .inl ⟨s', i', by omega, q2, q3, q4, q5⟩
 rw [de]
 refine Bo (hs.mono K1.le) ok hlt hli ⟨_, rfl, ?_⟩
 rw [de]
 have hc := ar.at_lt hlt hli
 refine ad (fun e => ?_) (fun e => ?_)
 ·refine hp _ hc h1 K1.le _ ⟨_, rfl, ?_⟩
  refine ad (fun e2 => ?_) (fun e2 => ?_)
  ·refine cB ?_
   (refine kr_ ?_)
   obtain ⟨bx, ox, hax, hx1, hx2⟩ := (hnt.mono K1.le).get hc
   refine ⟨bx, ox, hax, by omega, hx1, _, hx2, ?_⟩
   have hnl := ok.next _ hc
   refine ⟨b8, 0, rfl, by omega, by dsimp only; omega, ?_⟩
   (((with_reducible apply Kn.wr); (assumption); ((focus ((repeat first | exact .head | apply Upd.tail); done)))))
   ·rw [eW]; omega
   intro h2 K2 _
   rw [bk, Nat.zero_add, Int.toNat_natCast, Nat.mul_one, iO] at K2
   refine fin _ h2 K2 fun x => ?_
   by_cases ex : x = σ.next (σ.at_ s i)
   ·rw [if_pos ex]; exact ⟨fun _ => .inr ⟨e, e2, ex.symm⟩, fun _ => rfl⟩
   ·rw [if_neg ex]
    exact ⟨fun q => .inl q, fun q => q.resolve_right fun q => ex q.2.2.symm⟩
  ·exact fin T h1 K1 fun x => ⟨fun q => .inl q, fun q => q.resolve_right fun q => by rw [q.2.1] at e2; cases e2⟩
 ·refine ak rfl ?_
  exact fin T h1 K1 fun x => ⟨fun q => .inl q, fun q => q.resolve_right fun q => by rw [q.1] at e; cases e⟩
theorem Jv {h : Hp} {s : Sl} {N : Nat} {T : Nat -> Bool} {R : Value -> Hp -> Prop} (hT : cy h s N T) (hN : N <= 1048576) (k1 : ∀ i : Nat, i < N -> T i = true -> R (I i) h) (k2 : lr N T = false -> R (I (-1)) h) :
  fR #[s.v, .bool true] h R := by
 apply pF
 refine uf_ ?_
 have hl := hT.len
 rw [hl]
 refine aq N (fun i vs h' => vs = [s.v, .bool true, I N, I i] /\ h' = h /\ ∀ j, j < i -> T j = false) ⟨rfl, rfl, fun j hj => by omega⟩ ?_
 rintro i _ _ next hi ⟨rfl, rfl, hj⟩ hnx
 refine ⟨s, _, _, _, rfl, ?_⟩
 by_cases hlt : i < N
 ·refine aH (by rw [decide_eq_true_eq]; exact_mod_cast hlt) ?_
  obtain ⟨b, o, ha, h1, h2⟩ := hT.get hlt
  refine ⟨b, o, ha, by omega, h1, _, h2, ?_⟩
  refine ad (fun e => ?_) (fun e => ?_)
  ·exact k1 i hlt (by simpa using e)
  ·rw [az (by omega)]
   refine hnx hlt _ _ ⟨rfl, rfl, fun j hji => ?_⟩
   by_cases eq : j = i
   ·rw [eq]; simpa using e
   ·exact hj j (by omega)
 ·exact ak (by rw [decide_eq_false_iff_not]; omega) (k2 (my.2 fun j hjn => hj j (by omega)))
theorem vD {h : Hp} {s : Sl} {N : Nat} {T : Nat -> Bool} {R : Value -> Hp -> Prop} (hT : cy h s N T) (hN : N <= 1048576) (k : R (.bool (lr N T)) h) :
  dW #[s.v, .bool true] h R := by
 apply m6
 refine uf_ ?_
 refine Jv hT hN (fun i hi e => ⟨_, rfl, ?_⟩) fun e => ⟨_, rfl, ?_⟩
 ·refine dk ?_ k
  rw [cd.2 ⟨i, hi, e⟩, decide_eq_true_eq]; omega
 ·refine dk ?_ k
  rw [e]; rfl
def xv (h : Hp) (s : Sl) (n m : Nat) (L : Nat -> Nat -> Bool) : Prop := ∃ ts : List Sl, ts.length = m /\ SlC h s 1 (ts.map Sl.v) /\ ∀ (j : Nat) (t : Sl), ts[j]? = some t -> cy h t n (L j)
theorem xv.mono {h h' : Hp} {s : Sl} {n m : Nat} {L : Nat -> Nat -> Bool} (l : h.le h') (e : xv h s n m L) : xv h' s n m L := by
 obtain ⟨ts, e1, e2, e3⟩ := e
 exact ⟨ts, e1, e2.mono l, fun j t ht => (e3 j t ht).mono l⟩
theorem xv.len {h : Hp} {s : Sl} {n m : Nat} {L : Nat -> Nat -> Bool} (e : xv h s n m L) : s.n = m := by
 obtain ⟨ts, e1, e2, _⟩ := e
 have := e2.2.1
 simp at this; omega
theorem xv.get {h : Hp} {s : Sl} {n m i : Nat} {L : Nat -> Nat -> Bool} (e : xv h s n m L) (hi : i < m) :
  ∃ b o t, s.a = some (Addr.mk b o none) /\ (i : Int) < (s.n : Int) /\ Hp.cell h b (o + Int.toNat (i : Int) * 1) = some (Sl.v t) /\ cy h t n (L i) := by
 have hl := e.len
 obtain ⟨ts, e1, e2, e3⟩ := e
 obtain ⟨t, ht⟩ : ∃ t, ts[i]? = some t := ⟨_, List.getElem?_eq_getElem (by omega)⟩
 obtain ⟨b, o, ha, hc⟩ := SlC.get e2 (by omega)
 refine ⟨b, o, t, ha, by omega, ?_, e3 i t ht⟩
 rw [Int.toNat_natCast, Nat.mul_one]
 exact hc i _ (by simp [ht])
theorem i9 {h : Hp} {b : Nat} {σ : ar} {R : Value -> Hp -> Prop} (hs : jJ h b σ) (ok : σ.Ok)
  (k : ∀ s h', h.le h' -> xv h' s (2 ^ σ.n) σ.nLay σ.front -> R (Sl.v s) h') : cM #[.pointer (some ⟨b, 0, none⟩)] h R := by
 apply ug
 refine uf_ ?_
 have hn := dy ok
 have h8 := ok.nle
 obtain ⟨M, st, hold, bad, next, fx, _⟩ := id hs
 have K0 := Kn.nil h
 refine cB ?_
 (refine kr_ ?_)
 rw [if_neg (by omega), cu (by omega)]
 refine ⟨Int.natCast_nonneg _, Int.le_refl _, by omega, by omega, ?_⟩
 (with_reducible apply Kn.al); (assumption); (intro b7 h1 K1 l1 hb7)
 rw [Int.toNat_natCast, Nat.mul_one, bO, hX] at K1
 refine cB ?_
 (refine kr_ ?_)
 rw [if_neg (by omega), cu (by omega)]
 refine ⟨Int.natCast_nonneg _, Int.le_refl _, by omega, by omega, ?_⟩
 (with_reducible apply Kn.al); (assumption); (intro b13 h2 K2 l2 hb13)
 rw [Int.toNat_natCast, Nat.mul_one, bO, hX] at K2
 rw [Int.toNat_natCast]
 refine aq (2 ^ σ.n) (fun i vs h' => vs = [.pointer (some ⟨b, 0, none⟩), (arr b7 (2 ^ σ.n)).v, (arr b13 (2 ^ σ.n)).v, I (2 ^ σ.n : Nat), I i] /\
  ∃ U, Kn h h' [(b13, .inl ⟨tb (2 ^ σ.n) U, 2 ^ σ.n, false⟩), (b7, .inl ⟨tb (2 ^ σ.n) fun _ => false, 2 ^ σ.n, false⟩)] /\ ∀ j, j < i -> U j = σ.begins j)
  ⟨rfl, _, K2, fun j hj => by omega⟩ ?_
 clear K2 K1 K0 l1 l2 hb7 hb13 h1 h2
 rintro i _ h1 nxt hi ⟨rfl, U, K1, hU⟩ hnx
 refine ⟨_, arr b7 _, arr b13 _, _, _, rfl, ?_⟩
 by_cases hlt : i < 2 ^ σ.n
 ·refine aH (by rw [decide_eq_true_eq]; exact_mod_cast hlt) ?_
  refine tJ (hs.mono K1.le) ok hlt ⟨_, rfl, ?_⟩
  refine ⟨b13, 0, rfl, by omega, by dsimp only; omega, ?_⟩
  (((with_reducible apply Kn.wr); (assumption); ((focus ((repeat first | exact .head | apply Upd.tail); done)))))
  ·rw [eW]; omega
  intro h2 K2 _
  rw [bk, Nat.zero_add, Int.toNat_natCast, Nat.mul_one, iO] at K2
  rw [az (by omega)]
  refine hnx hlt _ _ ⟨rfl, _, K2, fun j hj => ?_⟩
  by_cases e : j = i
  ·rw [if_pos e, e]
  ·rw [if_neg e]; exact hU j (by omega)
 refine ak (by rw [decide_eq_false_iff_not]; omega) ?_
 replace hU : ∀ j, j < 2 ^ σ.n -> U j = σ.front 0 j := fun j hj => hU j (by omega)
 clear hnx hi hlt
 refine aq (2 ^ σ.n) (fun i vs h' => ∃ (out : Sl) (g : Hp) (bF : Nat) (F V : Nat -> Bool) (ts : List Sl), vs = [.pointer (some ⟨b, 0, none⟩), (arr b7 (2 ^ σ.n)).v, (arr bF (2 ^ σ.n)).v, out.v] /\
  h.le g /\ Kn g (h'.offS out) [(bF, .inl ⟨tb (2 ^ σ.n) F, 2 ^ σ.n, false⟩), (b7, .inl ⟨tb (2 ^ σ.n) V, 2 ^ σ.n, false⟩)] /\ Buf h' out 1 (ts.map Sl.v) /\ ts.length = i /\
  (∀ (j : Nat) (t : Sl), ts[j]? = some t -> cy g t (2 ^ σ.n) (σ.front j)) /\ (∀ j, j < 2 ^ σ.n -> F j = σ.front i j) /\ (∀ j, j < 2 ^ σ.n -> V j = σ.seen i j) /\ ∀ j, j < i -> σ.live j = true)
  ⟨⟨none, 0, 0⟩, h, b13, U, _, [], rfl, Hp.le_refl _, K1, et _ _, rfl, fun j t ht => by simp at ht, hU, fun _ _ => rfl, fun j hj => by omega⟩ ?_
 clear K1 hU U h1 b13
 rintro i _ h1 nxt hi ⟨out, g, bF, F, V, ts, rfl, lg, K1, hB, htl, ht, hF, hV, hlive⟩ hnx
 refine ⟨_, arr b7 _, arr bF _, out, rfl, ?_⟩
 have K1' := K1.mono (aO h1 out)
 have hbF : cy h1 (arr bF (2 ^ σ.n)) (2 ^ σ.n) (σ.front i) := gq (by omega) (K1'.at (.head _)) hF
 have hon := hB.1
 rw [List.length_map, Nat.mul_one] at hon
 refine vD hbF (by omega) ⟨_, rfl, ?_⟩
 refine ad (fun e => ?_) (fun e => ?_)
 rotate_left
 ·have hnl : σ.nLay = i := ar.nLay_of hlive e
  exact k out h1 (Hp.le_trans lg K1'.le) ⟨ts, by omega, hB.slc_of (by omega), fun j t hj => (ht j t hj).mono K1'.le⟩
 have hlive' : ∀ j, j < i + 1 -> σ.live j = true := fun j hj => by
  by_cases e2 : j = i
  ·rw [e2]; exact e
  ·exact hlive j (by omega)
 have hlt : i < 2 ^ σ.n := ar.live_le hlive'
 refine ae fun b55 h2 hb55 l2 f55 => ?_
 refine df (hB.mono l2) (by omega) (by omega) (by omega) ⟨b55, 0, rfl, ax f55⟩ (by simp) rfl ?_
 intro s' h3 hs'n hB' l3 _
 have K2 := K1.mono (Hp.le_trans (bJ out l2) l3)
 obtain ⟨K3, K4⟩ := Kn.split (A := [(bF, .inl ⟨tb (2 ^ σ.n) F, 2 ^ σ.n, false⟩)]) (B := [(b7, .inl ⟨tb (2 ^ σ.n) V, 2 ^ σ.n, false⟩)]) K2
 have lg1 := K4.le
 have fF := K4.at (.head _)
 generalize (h3.offS s').wo (([(b7, .inl ⟨tb (2 ^ σ.n) V, 2 ^ σ.n, false⟩)] : List (Nat × Blk)).map Prod.fst) = g1 at *
 have lh := Hp.le_trans lg lg1
 have lh3 := Hp.le_trans lh (Hp.le_trans K3.le (aO h3 s'))
 have tF : cy g1 (arr bF (2 ^ σ.n)) (2 ^ σ.n) (σ.front i) := gq (by omega) fF hF
 refine GA (hs.mono lh3) ok (tF.mono (Hp.le_trans K3.le (aO h3 s'))) (fun c hc h' l R kk => G0 ((hs.mono lh3).mono l) hc kk) fun bN T h4 K5 hT => ⟨_, rfl, ?_⟩
 have hbN : h3 bN = none := K5.new _ (.head _)
 have K6 := K3.cons (b := bN) (aw (aO h3 s') hbN) (bJ s' K5.le) (hB'.offS_new hbN (K5.at (.head _)))
 have hB4 := hB'.mono K5.le
 refine aq (2 ^ σ.n) (fun x vs h' => vs = [.pointer (some ⟨b, 0, none⟩), (arr b7 (2 ^ σ.n)).v, (arr bF (2 ^ σ.n)).v, s'.v, (arr bN (2 ^ σ.n)).v, I (2 ^ σ.n : Nat), I x] /\
  ∃ T V, Kn g1 (h'.offS s') [(bN, .inl ⟨tb (2 ^ σ.n) T, 2 ^ σ.n, false⟩), (b7, .inl ⟨tb (2 ^ σ.n) V, 2 ^ σ.n, false⟩)] /\ Buf h' s' 1 (ts.map Sl.v ++ [(arr bF (2 ^ σ.n)).v]) /\
   (∀ j, j < 2 ^ σ.n -> T j = if j < x then σ.front (i + 1) j else σ.fwd σ.hold (σ.front i) j) /\ ∀ j, j < 2 ^ σ.n -> V j = if j < x then σ.seen (i + 1) j else σ.seen i j)
  ⟨rfl, T, V, K6, hB4, fun j hj => by rw [if_neg (by omega)]; exact hT j hj, fun j hj => by rw [if_neg (by omega)]; exact hV j hj⟩ ?_
 clear K6 hB4 hT hV K5
 rintro x _ h5 nxt2 hx ⟨rfl, T, V, K, B, hT, hV⟩ hnx2
 refine ⟨_, arr b7 _, arr bF _, s', arr bN _, _, _, rfl, ?_⟩
 by_cases hlx : x < 2 ^ σ.n
 rotate_left
 ·refine ak (by rw [decide_eq_false_iff_not]; omega) ?_
  refine hnx hlt _ _ ⟨s', g1, bN, T, V, ts ++ [arr bF (2 ^ σ.n)], rfl, lh, K, by rw [List.map_append]; exact B, by simp [htl], fun j t hj => ?_, fun j hj => by rw [hT j hj, if_pos (by omega)],
   fun j hj => by rw [hV j hj, if_pos (by omega)], hlive'⟩
  by_cases hji : j < i
  ·rw [List.getElem?_append_left (by omega)] at hj
   exact (ht j t hj).mono lg1
  ·have hj2 := get_lt hj
   simp at hj2
   rw [List.getElem?_append_right (by omega), show j - ts.length = 0 by omega] at hj
   simp at hj; subst hj
   rw [show j = i by omega]; exact tF
 refine aH (by rw [decide_eq_true_eq]; exact_mod_cast hlx) ?_
 refine ap (fun J => ∀ h'' V', Kn g1 (h''.offS s') [(bN, .inl ⟨tb (2 ^ σ.n) T, 2 ^ σ.n, false⟩), (b7, .inl ⟨tb (2 ^ σ.n) V', 2 ^ σ.n, false⟩)] -> Buf h'' s' 1 (ts.map Sl.v ++ [(arr bF (2 ^ σ.n)).v]) ->
  (∀ j, j < 2 ^ σ.n -> V' j = if j < x + 1 then σ.seen (i + 1) j else σ.seen i j) -> J h'') (fun h6 V' K6 B6 hV6 => ?_) (fun J hJ => ?_)
 ·have hTx : T x = σ.fwd σ.hold (σ.front i) x := by rw [hT x hlx, if_neg (by omega)]
  have hVx : V' x = σ.seen (i + 1) x := by rw [hV6 x hlx, if_pos (by omega)]
  have fin : ∀ v h7, v = σ.front (i + 1) x -> Kn g1 (h7.offS s') [(bN, .inl ⟨(tb (2 ^ σ.n) T).set x (.bool v), 2 ^ σ.n, false⟩), (b7, .inl ⟨tb (2 ^ σ.n) V', 2 ^ σ.n, false⟩)] -> Buf h7 s' 1 (ts.map Sl.v ++ [(arr bF (2 ^ σ.n)).v]) ->
    nxt2 [.pointer (some ⟨b, 0, none⟩), (arr b7 (2 ^ σ.n)).v, (arr bF (2 ^ σ.n)).v, s'.v, (arr bN (2 ^ σ.n)).v, I (2 ^ σ.n : Nat), I (W ((x : Int) + 1))] h7 := by
   intro v h7 hv K7 B7
   rw [az (by omega)]
   rw [iO] at K7
   refine hnx2 hlx _ _ ⟨rfl, _, V', K7, B7, fun j hj => ?_, hV6⟩
   by_cases e2 : j = x
   ·rw [if_pos e2, if_pos (by omega), e2]; exact hv
   ·rw [if_neg e2, hT j hj]
    by_cases e3 : j < x
    ·rw [if_pos e3, if_pos (by omega)]
    ·rw [if_neg e3, if_neg (by omega)]
  have K6' := K6.mono (aO h6 s')
  refine ⟨bN, 0, rfl, by omega, by dsimp only; omega, ?_⟩
  refine Kn.rd K6' (.head _) (x := T x) (by rw [Nat.zero_add, Nat.mul_one, Int.toNat_natCast]; exact jI hlx) ?_
  refine ad (fun e2 => ?_) (fun e2 => ?_)
  ·refine ⟨b7, 0, rfl, by omega, by dsimp only; omega, ?_⟩
   refine Kn.rd K6' (.tail _ (.head _)) (x := V' x) (by rw [Nat.zero_add, Nat.mul_one, Int.toNat_natCast]; exact jI hlx) ?_
   refine ⟨bN, 0, rfl, by omega, by dsimp only; omega, ?_⟩
   (with_reducible apply Kn.wrS); (exact K6); ((focus ((repeat first | exact .head | apply Upd.tail); done)))
   ·rw [eW]; omega
   intro h7 K7 B7 _
   rw [bk, Nat.zero_add, Int.toNat_natCast, Nat.mul_one] at K7
   exact fin _ h7 (by rw [ar.front_succ, <- hTx, e2, hVx]; rfl) K7 (B7 _ _ B6)
  ·refine ⟨bN, 0, rfl, by omega, by dsimp only; omega, ?_⟩
   (with_reducible apply Kn.wrS); (exact K6); ((focus ((repeat first | exact .head | apply Upd.tail); done)))
   ·rw [eW]; omega
   intro h7 K7 B7 _
   rw [bk, Nat.zero_add, Int.toNat_natCast, Nat.mul_one] at K7
   exact fin _ h7 (by rw [ar.front_succ, <- hTx, e2]; rfl) K7 (B7 _ _ B6)
 ·have hVx : V x = σ.seen i x := by rw [hV x hlx, if_neg (by omega)]
  have fin : ∀ v h7, v = σ.seen (i + 1) x -> Kn g1 (h7.offS s') [(bN, .inl ⟨tb (2 ^ σ.n) T, 2 ^ σ.n, false⟩), (b7, .inl ⟨(tb (2 ^ σ.n) V).set x (.bool v), 2 ^ σ.n, false⟩)] -> Buf h7 s' 1 (ts.map Sl.v ++ [(arr bF (2 ^ σ.n)).v]) -> J h7 := by
   intro v h7 hv K7 B7
   rw [iO] at K7
   refine hJ h7 _ K7 B7 fun j hj => ?_
   by_cases e2 : j = x
   ·rw [if_pos e2, if_pos (by omega), e2]; exact hv
   ·rw [if_neg e2, hV j hj]
    by_cases e3 : j < x
    ·rw [if_pos e3, if_pos (by omega)]
    ·rw [if_neg e3, if_neg (by omega)]
  have K' := K.mono (aO h5 s')
  refine ⟨b7, 0, rfl, by omega, by dsimp only; omega, ?_⟩
  refine Kn.rd K' (.tail _ (.head _)) (x := V x) (by rw [Nat.zero_add, Nat.mul_one, Int.toNat_natCast]; exact jI hlx) ?_
  refine ad (fun e2 => ?_) (fun e2 => ?_)
  ·refine ⟨b7, 0, rfl, by omega, by dsimp only; omega, ?_⟩
   (with_reducible apply Kn.wrS); (exact K); ((focus ((repeat first | exact .head | apply Upd.tail); done)))
   ·rw [eW]; omega
   intro h7 K7 B7 _
   rw [bk, Nat.zero_add, Int.toNat_natCast, Nat.mul_one] at K7
   exact fin _ h7 (by rw [ar.seen_succ, <- hVx, e2]; rfl) K7 (B7 _ _ B)
  ·refine ⟨bF, 0, rfl, by omega, by dsimp only; omega, ?_⟩
   refine Kn.rg K' fF (x := F x) (by rw [Nat.zero_add, Nat.mul_one, Int.toNat_natCast]; exact jI hlx) ?_
   refine ⟨b7, 0, rfl, by omega, by dsimp only; omega, ?_⟩
   (with_reducible apply Kn.wrS); (exact K); ((focus ((repeat first | exact .head | apply Upd.tail); done)))
   ·rw [eW]; omega
   intro h7 K7 B7 _
   rw [bk, Nat.zero_add, Int.toNat_natCast, Nat.mul_one] at K7
   exact fin _ h7 (by rw [ar.seen_succ, <- hVx, e2, hF x hlx]; rfl) K7 (B7 _ _ B)
theorem EV {h : Hp} {b4 b z s c : Nat} {σ : ar} {R : Value -> Hp -> Prop} (hs : jJ h b σ) (f : h b4 = some (.inl ⟨[.pointer (some ⟨b, 0, none⟩)], z, false⟩)) (hc : c < 2 ^ (σ.n + σ.k)) (k : R (.bool (σ.ends c)) h) :
  lc #[I s, I c, .pointer (some ⟨b4, 0, none⟩)] h R := by
 apply rK
 refine uf_ ?_
 (refine am ?_)
 exact qP hs hc ⟨_, rfl, k⟩
theorem oO {h : Hp} {b : Nat} {s2 : Sl} {σ : ar} {R : Value -> Hp -> Prop} (hs : jJ h b σ) (ok : σ.Ok) (hL : xv h s2 (2 ^ σ.n) σ.nLay σ.front) (k : R (I σ.depthI) h) :
  dI #[.pointer (some ⟨b, 0, none⟩), s2.v] h R := by
 refine ACalls.drop (u9 ?_)
 refine uf_ ?_
 have hn := dy ok
 have hnl := ar.nLay_le σ
 refine ae fun b4 h1 hb4 l1 f4 => ?_
 (refine am ?_)
 refine lO (hs.mono l1) ok (f := fun _ c => σ.ends c) (fun s i hs' hi h' l R kk => EV ((hs.mono l1).mono l) (l _ _ f4) (ar.at_lt hs' hi) kk) fun t h2 l2 ht' => ⟨_, rfl, ?_⟩
 have ht := ht'.mono (sub_le h2 h1)
 have l02 := Hp.le_trans l1 l2
 have hL2 := hL.mono l02
 have hl := hL.len
 rw [hl]
 refine aq σ.nLay (fun i vs h' => vs = [t.v, s2.v, I σ.nLay, I i] /\ h2 = h' /\ ∀ j, j < i -> σ.hits j = false) ⟨rfl, rfl, fun j hj => by omega⟩ ?_
 rintro i _ _ nxt hi ⟨rfl, rfl, hno⟩ hnx
 refine ⟨t, s2, _, _, rfl, ?_⟩
 by_cases hlt : i < σ.nLay
 rotate_left
 ·refine ak (by rw [decide_eq_false_iff_not]; omega) ⟨h, l02, ?_⟩
  have : σ.depth = none := ar.find_none.2 fun j hj => hno j (by omega)
  unfold ar.depthI at k
  rw [this] at k; exact k
 refine aH (by rw [decide_eq_true_eq]; exact_mod_cast hlt) ?_
 obtain ⟨bl, ol, r, ha, h3, h4, hr⟩ := hL2.get hlt
 refine ⟨bl, ol, ha, by omega, h3, r, h4, ?_⟩
 have hrl := hr.len
 rw [hrl]
 refine aq (2 ^ σ.n) (fun j vs h' => vs = [t.v, I i, s2.v, I σ.nLay, I i, r.v, I (2 ^ σ.n : Nat), I j] /\ h2 = h' /\ ∀ x, x < j -> (σ.front i x && σ.endsAt x) = false) ⟨rfl, rfl, fun j hj => by omega⟩ ?_
 rintro j _ _ nxt2 hj ⟨rfl, rfl, hno2⟩ hnx2
 refine ⟨t, _, s2, _, _, r, _, _, rfl, ?_⟩
 by_cases hlj : j < 2 ^ σ.n
 rotate_left
 ·refine ak (by rw [decide_eq_false_iff_not]; omega) ?_
  rw [az (by omega)]
  refine hnx hlt _ _ ⟨rfl, rfl, fun x hx => ?_⟩
  by_cases e : x = i
  ·rw [e]; exact my.2 fun y hy => hno2 y (by omega)
  ·exact hno x (by omega)
 refine aH (by rw [decide_eq_true_eq]; exact_mod_cast hlj) ?_
 have go : (σ.front i j && σ.endsAt j) = false -> nxt2 [t.v, I i, s2.v, I σ.nLay, I i, r.v, I (2 ^ σ.n : Nat), I (W ((j : Int) + 1))] h2 := fun e => by
  rw [az (by omega)]
  refine hnx2 hlj _ _ ⟨rfl, rfl, fun x hx => ?_⟩
  by_cases e2 : x = j
  ·rw [e2]; exact e
  ·exact hno2 x (by omega)
 obtain ⟨br, or, har, hr1, hr2⟩ := hr.get hlj
 refine ⟨br, or, har, by omega, hr1, _, hr2, ?_⟩
 refine ad (fun e => ?_) (fun e => ?_)
 ·obtain ⟨bt, ot, hat, ht1, ht2⟩ := ht.get hlj
  refine ⟨bt, ot, hat, by omega, ht1, _, ht2, ?_⟩
  have he : σ.some_ (fun _ c => σ.ends c) j = σ.endsAt j := rfl
  refine ad (fun e2 => ?_) (fun e2 => ?_)
  ·refine ⟨h, l02, ?_⟩
   have : σ.depth = some i := ar.depth_some.2 ⟨cd.2 ⟨j, hlj, by rw [e, <- he, e2]; rfl⟩, fun x hx => hno x hx⟩
   unfold ar.depthI at k
   rw [this] at k; exact k
  ·exact go (by rw [<- he, e2, Bool.and_false])
 ·exact go (by rw [e]; rfl)
def ez (X : List (Nat × Blk)) (s : Sl) (sz : Nat) (cs : List Value) : Prop :=
 cs.length = s.n * sz /\ s.n <= s.c /\ ((X = [] /\ s = ⟨none, 0, 0⟩ /\ cs = []) \/ ∃ b, s.a = some ⟨b, 0, none⟩ /\ X = [(b, .inl ⟨cs, s.c * sz, false⟩)])
theorem ff (sz : Nat) : ez [] ⟨none, 0, 0⟩ sz [] := ⟨by simp, Nat.le_refl _, .inl ⟨rfl, rfl, rfl⟩⟩
theorem ez.buf {X : List (Nat × Blk)} {h : Hp} {s : Sl} {sz : Nat} {cs : List Value} (o : ez X s sz cs) (m : ∀ e ∈ X, h e.1 = some e.2) : Buf h s sz cs := by
 refine ⟨o.1, o.2.1, ?_⟩
 rcases o.2.2 with ⟨_, rfl, _⟩ | ⟨b, ha, rfl⟩
 ·exact .inl ⟨rfl, rfl, rfl⟩
 ·exact .inr ⟨b, ha, m _ (.head _)⟩
theorem Kn.perm {g h : Hp} {L L' : List (Nat × Blk)} (K : Kn g h L) (p : L.Perm L') : Kn g h L' := K.sub (fun e he => p.mem_iff.2 he) ((p.map Prod.fst).nodup_iff.1 K.nd)
theorem Kn.grow {g h : Hp} {X L : List (Nat × Blk)} {s : Sl} {sz by_ m : Nat} {cs news : List Value} {src : Option Addr} {C : Option Addr -> Nat -> Nat -> Hp -> Prop}
  (K : Kn g h (X ++ L)) (o : ez X s sz cs) (hm : 0 < m) (hsz : (s.n + m) * by_ <= 140737488355328) (hsz' : s.n + m <= 9223372036854775807)
  (hs : ∃ sb so, src = some ⟨sb, so, none⟩ /\ ii h sb so news) (hl : news.length = m * sz) (ho : news.all (·.oneCell') = true)
  (k : ∀ s' X' h', s'.n = s.n + m -> ez X' s' sz (cs ++ news) -> Kn g h' (X' ++ L) -> (h.offS s).le h' -> C s'.a s'.n s'.c h') : dV h s.a s.n s.c src m sz by_ C := by
 refine df (o.buf fun e he => K.mem e (List.mem_append_left _ he)) hm hsz hsz' hs hl ho fun s' h' hn B l _ => ?_
 have nd := K.nd
 rw [List.map_append, List.nodup_append] at nd
 have base : g.le (h.offS s) /\ ∀ e ∈ L, (h.offS s) e.1 = some e.2 := by
  rcases o.2.2 with ⟨_, rfl, _⟩ | ⟨b, ha, rfl⟩
  ·exact ⟨K.le, fun e he => K.mem e (List.mem_append_right _ he)⟩
  ·unfold Hp.offS
   rw [ha]
   refine ⟨ww (K.new (b, _) (.head _)) K.le, fun e he => ?_⟩
   have hne : e.1 ≠ b := fun hb => nd.2.2 b (by simp) e.1 (List.mem_map.2 ⟨e, he, rfl⟩) hb.symm
   simp only [Hp.off, Hp.set]
   rw [if_neg hne]; exact K.mem e (List.mem_append_right _ he)
 rcases B.2.2 with ⟨_, h0, _⟩ | ⟨b, ha, hb⟩
 ·omega
 have hoff : (h'.offS s') b = none := by simp [Hp.offS, ha, Hp.off, Hp.set]
 refine k s' [(b, .inl ⟨cs ++ news, s'.c * sz, false⟩)] h' hn ⟨B.1, B.2.1, .inr ⟨b, ha, rfl⟩⟩ ?_ (Hp.le_trans l (aO h' s'))
 have lo := aO h' s'
 have hg : g b = none := by
  cases hgb : g b with
  | none => rfl
  | some x => rw [l _ _ (base.1 _ _ hgb)] at hoff; cases hoff
 refine ⟨Hp.le_trans base.1 (Hp.le_trans l lo), fun e he => ?_, fun e he => ?_, ?_⟩
 ·rcases List.mem_cons.1 he with rfl | he
  ·exact hb
  ·exact lo _ _ (l _ _ (base.2 e he))
 ·rcases List.mem_cons.1 he with rfl | he
  ·exact hg
  ·exact K.new e (List.mem_append_right _ he)
 ·show (b :: L.map Prod.fst).Nodup
  rw [List.nodup_cons]
  refine ⟨fun hm => ?_, nd.2.1⟩
  obtain ⟨e, he, heb⟩ := List.mem_map.1 hm
  have := l _ _ (base.2 e he)
  rw [heb, hoff] at this; cases this
theorem Kn.growIn {g h : Hp} {A X L : List (Nat × Blk)} {s : Sl} {sz by_ m : Nat} {cs news : List Value} {src : Option Addr} {C : Option Addr -> Nat -> Nat -> Hp -> Prop}
  (K : Kn g h (A ++ (X ++ L))) (o : ez X s sz cs) (hm : 0 < m) (hsz : (s.n + m) * by_ <= 140737488355328) (hsz' : s.n + m <= 9223372036854775807)
  (hs : ∃ sb so, src = some ⟨sb, so, none⟩ /\ ii h sb so news) (hl : news.length = m * sz) (ho : news.all (·.oneCell') = true)
  (k : ∀ s' X' h', s'.n = s.n + m -> ez X' s' sz (cs ++ news) -> Kn g h' (A ++ (X' ++ L)) -> (h.offS s).le h' -> C s'.a s'.n s'.c h') : dV h s.a s.n s.c src m sz by_ C := by
 have sw : ∀ Y : List (Nat × Blk), (A ++ (Y ++ L)).Perm (Y ++ (A ++ L)) := fun Y => by
  rw [<- List.append_assoc, <- List.append_assoc]
  exact List.perm_append_comm.append_right L
 exact Kn.grow (K.perm (sw X)) o hm hsz hsz' hs hl ho fun s' X' h' hn o' K' l => k s' X' h' hn o' (K'.perm (sw X').symm) l
theorem Kn.growIn2 {g h : Hp} {A Y X L : List (Nat × Blk)} {s : Sl} {sz by_ m : Nat} {cs news : List Value} {src : Option Addr} {C : Option Addr -> Nat -> Nat -> Hp -> Prop}
  (K : Kn g h (A ++ (Y ++ (X ++ L)))) (o : ez X s sz cs) (hm : 0 < m) (hsz : (s.n + m) * by_ <= 140737488355328) (hsz' : s.n + m <= 9223372036854775807)
  (hs : ∃ sb so, src = some ⟨sb, so, none⟩ /\ ii h sb so news) (hl : news.length = m * sz) (ho : news.all (·.oneCell') = true)
  (k : ∀ s' X' h', s'.n = s.n + m -> ez X' s' sz (cs ++ news) -> Kn g h' (A ++ (Y ++ (X' ++ L))) -> (h.offS s).le h' -> C s'.a s'.n s'.c h') : dV h s.a s.n s.c src m sz by_ C := by
 have sw : ∀ Z : List (Nat × Blk), (A ++ (Y ++ (Z ++ L))).Perm (A ++ (Z ++ (Y ++ L))) := fun Z => by
  refine List.Perm.append_left A ?_
  rw [<- List.append_assoc, <- List.append_assoc]
  exact List.perm_append_comm.append_right L
 exact Kn.growIn (K.perm (sw X)) o hm hsz hsz' hs hl ho fun s' X' h' hn o' K' l => k s' X' h' hn o' (K'.perm (sw X').symm) l
theorem Kn.growIn3 {g h : Hp} {A Y Z X L : List (Nat × Blk)} {s : Sl} {sz by_ m : Nat} {cs news : List Value} {src : Option Addr} {C : Option Addr -> Nat -> Nat -> Hp -> Prop}
  (K : Kn g h (A ++ (Y ++ (Z ++ (X ++ L))))) (o : ez X s sz cs) (hm : 0 < m) (hsz : (s.n + m) * by_ <= 140737488355328) (hsz' : s.n + m <= 9223372036854775807)
  (hs : ∃ sb so, src = some ⟨sb, so, none⟩ /\ ii h sb so news) (hl : news.length = m * sz) (ho : news.all (·.oneCell') = true)
  (k : ∀ s' X' h', s'.n = s.n + m -> ez X' s' sz (cs ++ news) -> Kn g h' (A ++ (Y ++ (Z ++ (X' ++ L)))) -> (h.offS s).le h' -> C s'.a s'.n s'.c h') : dV h s.a s.n s.c src m sz by_ C := by
 have sw : ∀ W : List (Nat × Blk), (A ++ (Y ++ (Z ++ (W ++ L)))).Perm (A ++ ((Y ++ Z) ++ (W ++ L))) := fun W => by rw [<- List.append_assoc Y Z]
 exact Kn.growIn2 (K.perm (sw X)) o hm hsz hsz' hs hl ho fun s' X' h' hn o' K' l => k s' X' h' hn o' (K'.perm (sw X').symm) l
theorem ez.slc {X A L : List (Nat × Blk)} {g h : Hp} {s : Sl} {sz : Nat} {cs : List Value} (o : ez X s sz cs) (K : Kn g h (A ++ (X ++ L))) (hn : s.n <= 9223372036854775807) : SlC h s sz cs :=
 (o.buf fun e he => K.mem e (List.mem_append_right _ (List.mem_append_left _ he))).slc_of hn
theorem jy.offG {X : List (Nat × Blk)} {h : Hp} {A s : Sl} {f : Nat -> Bool} {n : Nat} {vs : List (List Nat)} (e : jy h s vs) (o : ez X A 1 ((List.range n).map fun i => .bool (f i))) (m : ∀ e ∈ X, h e.1 = some e.2) : jy (h.offS A) s vs := by
 rcases o.2.2 with ⟨_, rfl, _⟩ | ⟨b, ha, rfl⟩
 ·exact e
 ·unfold Hp.offS
  rw [ha]
  refine e.keep (m _ (.head _)) (fun j i hj => ?_) (fun j t hj => ?_) fun c hc => by simp [Hp.off, Hp.set, hc]
  ·simp only [List.getElem?_map, Option.map_eq_some_iff] at hj
   obtain ⟨a, _, hj⟩ := hj
   cases hj
  ·simp only [List.getElem?_map, Option.map_eq_some_iff] at hj
   obtain ⟨a, _, hj⟩ := hj
   cases hj
theorem jy.keepB {h h' : Hp} {s : Sl} {b : Nat} {vs : List (List Nat)} (e : jy h s vs) (n : ∀ o, s.a ≠ some (Addr.mk b o none)) (kp : ∀ c, c ≠ b -> h' c = h c) (ki : ∀ o i, Hp.cell h b o = some (I i) -> Hp.cell h' b o = some (I i)) : jy h' s vs := by
 have hc : ∀ c o i, Hp.cell h c o = some (I i) -> Hp.cell h' c o = some (I i) := fun c o i hi => by
  by_cases e2 : c = b
  ·subst e2; exact ki o i hi
  ·unfold Hp.cell at hi ⊢; rw [kp c e2]; exact hi
 refine ⟨e.1, e.2.1, fun p hp => ?_⟩
 obtain ⟨b', o, t, h1, h2, h3⟩ := e.2.2 p hp
 refine ⟨b', o, t, h1, ?_, h3.1, h3.2.1, h3.2.2.imp id ?_⟩
 ·have hne : b' ≠ b := by rintro rfl; exact n o h1
  unfold Hp.cell at h2 ⊢; rw [kp b' hne]; exact h2
 ·rintro ⟨c, o', ha, hcs⟩
  refine ⟨c, o', ha, fun i v hv => ?_⟩
  have hvI := hv
  rw [List.getElem?_map, Option.map_eq_some_iff] at hvI
  obtain ⟨x, _, rfl⟩ := hvI
  exact hc _ _ _ (hcs i _ hv)
structure ym where
 hs : Sl
 es : Sl
 ns : Sl
 fs : Sl
 bs : Sl
abbrev uT (σ : ar) (q : ym) : List Value := [I (2 ^ σ.n : Nat), I (2 ^ σ.k : Nat), q.hs.v, q.es.v, q.ns.v, q.fs.v, q.bs.v]
abbrev A7 (σ : ar) (q : ym) : Value := .agg #[I (2 ^ σ.n : Nat), I (2 ^ σ.k : Nat), q.hs.v, q.es.v, q.ns.v, q.fs.v, q.bs.v]
def wC (h : Hp) (q : ym) (σ : ar) : Prop := cy h q.hs (2 ^ (σ.n + σ.k)) σ.hold /\ cy h q.es (2 ^ (σ.n + σ.k)) σ.ends /\ v6 h q.ns (2 ^ (σ.n + σ.k)) σ.next /\
 (∃ fm, fm + σ.fixed = 2 ^ σ.n - 1 /\ IntS h q.fs (VL (db fm))) /\ cy h q.bs (2 ^ σ.n) σ.begins
theorem wC.mono {h h' : Hp} {q : ym} {σ : ar} (l : h.le h') (e : wC h q σ) : wC h' q σ := by
 obtain ⟨a, b, c, ⟨fm, d1, d2⟩, f⟩ := e
 exact ⟨a.mono l, b.mono l, c.mono l, ⟨fm, d1, d2.mono l⟩, f.mono l⟩
theorem oR {α : Type} (f : Nat -> α) (c : Nat) : (List.range (c + 1)).map f = (List.range c).map f ++ [f c] := by rw [List.range_succ, List.map_append]; rfl
theorem JO {m : aj} (g : eZ m) : iR m + (aQ m).fixed = 2 ^ (aQ m).n - 1 := by
 have := Oi m.nodes (fun p => (cm m.nexts p).isSome) (stP m)
 have e := hR g
 show iR m + Ks m m.nexts = 2 ^ av m.nodes 36 - 1
 rw [<- e, <- this, Nat.add_comm]; rfl
theorem jf {h : Hp} {M : MSl} {m : aj} {R : Value -> Hp -> Prop} (hs : aG h M m) (hm : bU m) (hc0 : aR m = 0)
  (k : ∀ q h', h.le h' -> wC h' q (aQ m) -> R (A7 (aQ m) q) h') : ep #[aN M] h R := by
 apply Gr
 refine uf_ ?_
 have g := gC hc0
 have hn8 := g.n8
 have hk5' := g.k5
 have ok := fT g
 have hp8 := dy ok
 have hk5 := zk ok
 have hp13 := kD ok
 have hnk := ar.pow_nk (aQ m)
 have K0 := Kn.nil h
 (with_reducible apply Kn.al); (assumption); (intro b7 h1 K1 l1 hb7)
 (with_reducible apply Kn.al); (assumption); (intro b9 h2 K2 l2 hb9)
 clear K0 K1 l1 hb7
 repeat' (refine kr_ ?_)
 refine je (hs.mono K2.le) hm ⟨_, rfl, ?_⟩
 repeat' (refine kr_ ?_)
 refine je (hs.mono K2.le) hm ⟨_, rfl, ?_⟩
 rw [dl (by omega), dl (by omega), if_neg (by omega), if_neg (by omega), cu (by omega), cu (by omega), show av m.nodes 36 = (aQ m).n from rfl, show av m.nodes 35 = (aQ m).k from rfl]
 repeat' (refine kr_ ?_)
 refine F6 (hs.mono K2.le) hm g fun F h3 l3 hF => ⟨_, rfl, ?_⟩
 have hF' : IntS (h3.wo (([(b9, .inl ⟨[I 0, I 0, .slice none 0 0, .slice none 0 0, .slice none 0 0, .slice none 0 0, .slice none 0 0], 7, false⟩), (b7, .inl ⟨cl M, 5, false⟩)] : List (Nat × Blk)).map Prod.fst)) F (VL (db (iR m))) :=
  SlC.mono (nj (sub_le _ _) fun b hb => by
   cases hx : h2 b with
   | none => exact absurd hx (K2.has b hb)
   | some x => exact jQ hx) hF
 have K3 := (K2.mono l3).base
 have lg := (K2.mono l3).leBase
 clear hF K2
 generalize h3.wo (([(b9, .inl ⟨[I 0, I 0, .slice none 0 0, .slice none 0 0, .slice none 0 0, .slice none 0 0, .slice none 0 0], 7, false⟩), (b7, .inl ⟨cl M, 5, false⟩)] : List (Nat × Blk)).map Prod.fst) = g3 at *
 have hs3 := hs.mono lg
 (with_reducible apply Kn.al); (assumption); (intro b38 h4 K4 l4 hb38)
 (((with_reducible apply Kn.wr); (assumption); ((focus ((repeat first | exact .head | apply Upd.tail); done)))))
 ·exact Nat.le_refl _
 intro h5 K5 kp5
 simp only [dY, List.set_cons_zero, List.set_cons_succ, Nat.zero_add, Nat.reduceAdd] at K5
 clear kp5 K4 l4 hb38
 refine aq (2 ^ ((aQ m).n + (aQ m).k)) (fun c vs h' => ∃ (A B C : Sl) (XA XB XC : List (Nat × Blk)), vs = [.pointer (some ⟨b7, 0, none⟩), .pointer (some ⟨b9, 0, none⟩), .pointer (some ⟨b38, 0, none⟩), I c] /\
  Kn g3 h' ((b38, .inl ⟨[I (2 ^ (aQ m).n : Nat), I (2 ^ (aQ m).k : Nat), A.v, B.v, C.v, F.v, (⟨none, 0, 0⟩ : Sl).v], 7, false⟩) :: (b9, .inl ⟨[I 0, I 0, .slice none 0 0, .slice none 0 0, .slice none 0 0, .slice none 0 0, .slice none 0 0], 7, false⟩) :: (b7, .inl ⟨cl M, 5, false⟩) :: (XA ++ (XB ++ (XC ++ [])))) /\ ez XA A 1 ((List.range c).map fun i => .bool ((aQ m).hold i)) /\ ez XB B 1 ((List.range c).map fun i => .bool ((aQ m).ends i)) /\
   ez XC C 1 ((List.range c).map fun i => I ((aQ m).next i : Nat))) ⟨⟨none, 0, 0⟩, ⟨none, 0, 0⟩, ⟨none, 0, 0⟩, [], [], [], rfl, K5, ff _, ff _, ff _⟩ ?_
 clear K5 h5
 rintro c _ h5 nxt hc ⟨A, B, C, XA, XB, XC, rfl, K, oA, oB, oC⟩ hnx
 refine ⟨b7, 0, b9, 0, b38, 0, _, rfl, ?_⟩
 repeat' (refine kr_ ?_)
 have hxy : ((2 ^ (aQ m).n : Nat) : Int) * ((2 ^ (aQ m).k : Nat) : Int) = ((2 ^ ((aQ m).n + (aQ m).k) : Nat) : Int) := by rw [hnk, <- Int.natCast_mul, Nat.mul_comm]
 rw [hxy, fj (by omega)]
 have hAn : A.n = c := by have := oA.1; simp at this; omega
 have hBn : B.n = c := by have := oB.1; simp at this; omega
 have hCn : C.n = c := by have := oC.1; simp at this; omega
 by_cases hlt : c < 2 ^ ((aQ m).n + (aQ m).k)
 ·refine aH (by rw [decide_eq_true_eq]; exact_mod_cast hlt) ?_
  repeat' (refine kr_ ?_)
  refine vA (hs3.mono K.le) hm g hlt fun t h6 l6 htn hpv hnew => ⟨t, rfl, ?_⟩
  have n38 : ∀ o, t.a ≠ some (Addr.mk b38 o none) := fun o ho => by have := hnew _ _ ho; rw [K.at (.head _)] at this; cases this
  replace K := K.mono l6
  have a : zE m (fQ m (c % 2 ^ av m.nodes 36) (c / 2 ^ av m.nodes 36)) := uy g _ _
  have hv1 : (aQ m).hold c = tl m (fQ m (c % 2 ^ av m.nodes 36) (c / 2 ^ av m.nodes 36)) := rfl
  have hv2 : (aQ m).bad c = (wK m (fQ m (c % 2 ^ av m.nodes 36) (c / 2 ^ av m.nodes 36))).isSome := rfl
  have hv3 : (aQ m).next c = CK m (c % 2 ^ av m.nodes 36) (c / 2 ^ av m.nodes 36) := rfl
  repeat' (refine kr_ ?_)
  refine yr (hs3.mono K.le) g hpv a ⟨_, rfl, ?_⟩
  repeat' (refine kr_ ?_)
  rw [<- hv1]
  refine ae fun b80 h7 hb80 l7 f80 => ?_
  replace K := K.mono l7
  replace hpv := hpv.mono l7
  refine Kn.growIn (A := [_, _, _]) K oA (by omega) (by omega) (by omega) ⟨b80, 0, rfl, ax f80⟩ rfl rfl fun A' XA' h8 hn' oA' K8 l8 => ?_
  replace hpv := (hpv.offG oA fun e he => K.mem e (by simp [he])).mono l8
  simp only [List.cons_append, List.nil_append] at K8
  (((with_reducible apply Kn.wr); (assumption); ((focus ((repeat first | exact .head | apply Upd.tail); done)))))
  ·simp
  intro h9 K9 kp9
  have f8 := K8.at (.head _)
  have f9 := K9.at (.head _)
  simp only [bk, List.set_cons_zero, List.set_cons_succ, Nat.zero_add, Nat.reduceAdd] at K9
  rw [bk] at f9
  replace hpv := hpv.keepB n38 kp9 fun o i hi => by
   rw [af f8] at hi
   rw [af f9, List.getElem?_set]
   by_cases e : 0 + 2 = o
   ·subst e; simp at hi
   ·rw [if_neg e]; exact hi
  clear f8 f9
  refine ap (fun J => ∀ (B' : Sl) (XB' : List (Nat × Blk)) (h' : Hp), Kn g3 h' ((b38, .inl ⟨[I (2 ^ (aQ m).n : Nat), I (2 ^ (aQ m).k : Nat), A'.v, B'.v, C.v, F.v, (⟨none, 0, 0⟩ : Sl).v], 7, false⟩) :: (b9, .inl ⟨[I 0, I 0, .slice none 0 0, .slice none 0 0, .slice none 0 0, .slice none 0 0, .slice none 0 0], 7, false⟩) :: (b7, .inl ⟨cl M, 5, false⟩) :: (XA' ++ (XB' ++ (XC ++ [])))) -> ez XB' B' 1 ((List.range (c + 1)).map fun i => .bool ((aQ m).ends i)) -> J h') (fun B' XB' h10 K10 oB' => ?_) (fun J hJ => ?_)
  ·clear K9 K8 K hpv
   have hcm : c % 2 ^ (aQ m).n <= c := Nat.mod_le _ _
   have hcd : c / 2 ^ (aQ m).n <= c := Nat.div_le_self _ _
   have hpos := Nat.two_pow_pos (aQ m).n
   repeat' (refine kr_ ?_)
   rw [if_neg (by omega)]
   repeat' (refine kr_ ?_)
   rw [if_neg (by omega), eX, show Int.tdiv (c : Int) ((2 ^ (aQ m).n : Nat) : Int) = ((c / 2 ^ (aQ m).n : Nat) : Int) from rfl, fj (by omega)]
   refine I7 (hs3.mono K10.le) hm g (by omega) (by omega) ⟨_, rfl, ?_⟩
   repeat' (refine kr_ ?_)
   refine ae fun b131 h11 hb131 l11 f131 => ?_
   have K11 := K10.mono l11
   repeat' (refine kr_ ?_)
   refine Kn.growIn3 (A := [_, _, _]) K11 oC (by omega) (by omega) (by omega) ⟨b131, 0, rfl, ax f131⟩ rfl rfl fun C' XC' h12 hn2 oC' K12 _ => ?_
   simp only [List.cons_append, List.nil_append] at K12
   (((with_reducible apply Kn.wr); (assumption); ((focus ((repeat first | exact .head | apply Upd.tail); done)))))
   ·simp
   intro h13 K13 _
   simp only [bk, List.set_cons_zero, List.set_cons_succ, Nat.zero_add, Nat.reduceAdd] at K13
   rw [az (by omega)]
   exact hnx hlt _ _ ⟨A', B', C', XA', XB', XC', rfl, K13, by rw [oR]; exact oA', oB', by rw [oR]; exact oC'⟩
  ·clear K8 K
   refine ad (fun e1 => ?_) (fun e1 => ?_)
   ·repeat' (refine kr_ ?_)
    refine Dj (hs3.mono K9.le) g hpv a ⟨_, rfl, ?_⟩
    repeat' (refine kr_ ?_)
    rw [wQ, <- hv2]
    refine ae fun b99 h11 hb99 l11 f99 => ?_
    have K11 := K9.mono l11
    repeat' (refine kr_ ?_)
    refine Kn.growIn2 (A := [_, _, _]) K11 oB (by omega) (by omega) (by omega) ⟨b99, 0, rfl, ax f99⟩ rfl rfl fun B' XB' h12 hn2 oB' K12 _ => ?_
    simp only [List.cons_append, List.nil_append] at K12
    (((with_reducible apply Kn.wr); (assumption); ((focus ((repeat first | exact .head | apply Upd.tail); done)))))
    ·simp
    intro h13 K13 _
    simp only [bk, List.set_cons_zero, List.set_cons_succ, Nat.zero_add, Nat.reduceAdd] at K13
    exact hJ B' XB' h13 K13 (by rw [oR]; unfold ar.ends; rw [e1]; exact oB')
   ·repeat' (refine kr_ ?_)
    refine ae fun b99 h11 hb99 l11 f99 => ?_
    have K11 := K9.mono l11
    repeat' (refine kr_ ?_)
    refine Kn.growIn2 (A := [_, _, _]) K11 oB (by omega) (by omega) (by omega) ⟨b99, 0, rfl, ax f99⟩ rfl rfl fun B' XB' h12 hn2 oB' K12 _ => ?_
    simp only [List.cons_append, List.nil_append] at K12
    (((with_reducible apply Kn.wr); (assumption); ((focus ((repeat first | exact .head | apply Upd.tail); done)))))
    ·simp
    intro h13 K13 _
    simp only [bk, List.set_cons_zero, List.set_cons_succ, Nat.zero_add, Nat.reduceAdd] at K13
    exact hJ B' XB' h13 K13 (by rw [oR]; unfold ar.ends; rw [e1]; exact oB')
 ·refine ak (by rw [decide_eq_false_iff_not]; omega) ?_
  clear hnx
  have hce : c = 2 ^ ((aQ m).n + (aQ m).k) := by omega
  refine aq (2 ^ (aQ m).n) (fun d vs h' => ∃ (D : Sl) (XD : List (Nat × Blk)), vs = [.pointer (some ⟨b7, 0, none⟩), .pointer (some ⟨b9, 0, none⟩), .pointer (some ⟨b38, 0, none⟩), I d] /\
   Kn g3 h' ((b38, .inl ⟨[I (2 ^ (aQ m).n : Nat), I (2 ^ (aQ m).k : Nat), A.v, B.v, C.v, F.v, D.v], 7, false⟩) :: (b9, .inl ⟨[I 0, I 0, .slice none 0 0, .slice none 0 0, .slice none 0 0, .slice none 0 0, .slice none 0 0], 7, false⟩) :: (b7, .inl ⟨cl M, 5, false⟩) :: (XD ++ (XA ++ (XB ++ (XC ++ []))))) /\ ez XD D 1 ((List.range d).map fun i => .bool ((aQ m).begins i))) ⟨⟨none, 0, 0⟩, [], rfl, K, ff _⟩ ?_
  clear K h5 hlt hc
  rintro d _ h5 nxt2 hd ⟨D, XD, rfl, K, oD⟩ hnx2
  have hDn : D.n = d := by have := oD.1; simp at this; omega
  refine ⟨b7, 0, b9, 0, b38, 0, _, rfl, ?_⟩
  repeat' (refine kr_ ?_)
  by_cases hld : d < 2 ^ (aQ m).n
  ·refine aH (by rw [decide_eq_true_eq]; exact_mod_cast hld) ?_
   repeat' (refine kr_ ?_)
   refine fz (hs3.mono K.le) hm fun p h6 l6 ip => ⟨p, rfl, ?_⟩
   have K6 := K.mono l6
   repeat' (refine kr_ ?_)
   refine iJ (hs3.mono K6.le) hm g.ok ip (ed g 36) (nz g 36) (by omega) (by have := hR g; show cf m.nodes (stP m) <= 60; omega) fun u h7 l7 iu => ⟨u, rfl, ?_⟩
   have K7 := K6.mono l7
   repeat' (refine kr_ ?_)
   refine pb (hs3.mono K7.le) hm hc0 iu (by rw [Bi]; exact IX _ _ _) ⟨_, rfl, ?_⟩
   have hb : mb (stP m) (jA m) (lS m.nodes (aM m.nodes 36) d) (stP m).length = (aQ m).begins d := by
    rw [Bool.eq_iff_iff, DB, DE g]
   rw [hb]
   repeat' (refine kr_ ?_)
   refine ae fun b184 h8 hb184 l8 f184 => ?_
   have K8 := K7.mono l8
   repeat' (refine kr_ ?_)
   refine Kn.growIn (A := [_, _, _]) K8 oD (by omega) (by omega) (by omega) ⟨b184, 0, rfl, ax f184⟩ rfl rfl fun D' XD' h9 hn2 oD' K9 _ => ?_
   simp only [List.cons_append, List.nil_append] at K9
   (((with_reducible apply Kn.wr); (assumption); ((focus ((repeat first | exact .head | apply Upd.tail); done)))))
   ·simp
   intro h10 K10 _
   simp only [bk, List.set_cons_zero, List.set_cons_succ, Nat.zero_add, Nat.reduceAdd] at K10
   rw [az (by omega)]
   exact hnx2 hld _ _ ⟨D', XD', rfl, K10, by rw [oR]; exact oD'⟩
  ·have hde : d = 2 ^ (aQ m).n := by omega
   refine ak (by rw [decide_eq_false_iff_not]; omega) ?_
   clear hnx2
   repeat' (refine kr_ ?_)
   (((with_reducible apply Kn.wr); (assumption); ((focus ((repeat first | exact .head | apply Upd.tail); done)))))
   ·simp
   intro h6 K6 _
   simp only [dY, List.set_cons_zero, List.set_cons_succ, Nat.zero_add, Nat.reduceAdd] at K6
   repeat' (refine kr_ ?_)
   subst hce hde
   refine k ⟨A, B, C, F, D⟩ h6 (Hp.le_trans lg K6.le) ⟨?_, ?_, ?_, ⟨iR m, JO g, hF'.mono K6.le⟩, ?_⟩
   ·have := (oA.buf fun e he => K6.mem e (by simp [he])).slc_of (by omega)
    unfold cy nu; rw [List.map_map]; exact this
   ·have := (oB.buf fun e he => K6.mem e (by simp [he])).slc_of (by omega)
    unfold cy nu; rw [List.map_map]; exact this
   ·have := (oC.buf fun e he => K6.mem e (by simp [he])).slc_of (by omega)
    unfold v6 IntS VL; rw [List.map_map, List.map_map]; exact this
   ·have := (oD.buf fun e he => K6.mem e (by simp [he])).slc_of (by omega)
    unfold cy nu; rw [List.map_map]; exact this
theorem F2 {h : Hp} {s : Sl} {N : Nat} {T : Nat -> Bool} {R : Value -> Hp -> Prop} (hT : cy h s N T) (hN : N <= 1048576) (k : R (.bool (lr N T)) h) : po #[s.v] h R := by
 apply BJ
 refine uf_ ?_
 have hl := hT.len
 refine aq N (fun i vs h' => vs = [s.v, I i] /\ h = h' /\ ∀ j, j < i -> T j = false) ⟨rfl, rfl, fun j hj => by omega⟩ ?_
 rintro i _ _ next hi ⟨rfl, rfl, hj⟩ hnx
 refine ⟨s, _, rfl, ?_⟩
 by_cases hlt : i < N
 ·refine aH (by rw [decide_eq_true_eq]; omega) ?_
  obtain ⟨b, o, ha, h1, h2⟩ := hT.get hlt
  refine ⟨b, o, ha, by omega, h1, _, h2, ?_⟩
  refine ad (fun e => ?_) (fun e => ?_)
  ·rw [cd.2 ⟨i, hlt, e⟩] at k; exact k
  ·rw [az (by omega)]
   refine hnx hlt _ _ ⟨rfl, rfl, fun j hji => ?_⟩
   by_cases eq : j = i
   ·rw [eq]; exact e
   ·exact hj j (by omega)
 ·refine ak (by rw [decide_eq_false_iff_not]; omega) ?_
  rw [my.2 fun j hjn => hj j (by omega)] at k; exact k
theorem Fw {σ : ar} (S : Nat -> Bool) : lr (2 ^ (σ.n + σ.k)) (fun c => S (c % 2 ^ σ.n) && σ.ends c) = σ.met S := by
 rw [Bool.eq_iff_iff, cd]
 unfold ar.met
 rw [cd]
 constructor
 ·rintro ⟨c, hc, e⟩
  rw [Bool.and_eq_true] at e
  obtain ⟨h1, h2, h3⟩ := ar.at_of hc
  refine ⟨c % 2 ^ σ.n, h1, ?_⟩
  rw [e.1, Bool.true_and, ar.endsAt_iff]
  have := e.2
  unfold ar.ends at this
  rw [Bool.and_eq_true] at this
  exact ⟨c / 2 ^ σ.n, h2, by rw [h3]; exact this⟩
 ·rintro ⟨s, hs, e⟩
  rw [Bool.and_eq_true, ar.endsAt_iff] at e
  obtain ⟨e1, x, hx, e2, e3⟩ := e
  refine ⟨σ.at_ s x, ar.at_lt hs hx, ?_⟩
  unfold ar.ends
  rw [ar.at_mod hs, e1, e2, e3]; rfl
theorem uh {h : Hp} {q : ym} {σ : ar} {s : Sl} {S : Nat -> Bool} {R : Value -> Hp -> Prop} (hq : wC h q σ) (ok : σ.Ok) (hS : cy h s (2 ^ σ.n) S) (k : R (.bool (σ.met S)) h) :
  jX #[A7 σ q, s.v] h R := by
 refine ACalls.drop (EM ?_)
 refine uf_ ?_
 have hn := dy ok
 have hp := kD ok
 have hpos := Nat.two_pow_pos σ.n
 refine ae fun b10 h1 hb10 l1 f10 => ?_
 have he := hq.2.1.mono l1
 have hS1 := hS.mono l1
 have hel := he.len
 refine aq (2 ^ (σ.n + σ.k)) (fun i vs h' => vs = [s.v, .pointer (some ⟨b10, 0, none⟩), I i] /\ h1 = h' /\ ∀ j, j < i -> (S (j % 2 ^ σ.n) && σ.ends j) = false) ⟨rfl, rfl, fun j hj => by omega⟩ ?_
 rintro i _ _ next hi ⟨rfl, rfl, hj⟩ hnx
 refine ⟨s, b10, 0, _, rfl, ?_⟩
 (refine am ?_)
 by_cases hlt : i < 2 ^ (σ.n + σ.k)
 ·refine aH (by rw [decide_eq_true_eq]; omega) ?_
  have go : (S (i % 2 ^ σ.n) && σ.ends i) = false -> next [s.v, .pointer (some ⟨b10, 0, none⟩), I (W ((i : Int) + 1))] h1 := fun e => by
   rw [az (by omega)]
   refine hnx hlt _ _ ⟨rfl, rfl, fun j hji => ?_⟩
   by_cases eq : j = i
   ·rw [eq]; exact e
   ·exact hj j (by omega)
  (refine am ?_)
  rw [if_neg (by omega), eX]
  obtain ⟨b, o, ha, h2, h3⟩ := hS1.get (i := i % 2 ^ σ.n) (Nat.mod_lt _ hpos)
  refine ⟨b, o, ha, by omega, h2, _, h3, ?_⟩
  refine ad (fun e => ?_) (fun e => ?_)
  ·(refine am ?_)
   obtain ⟨b, o, ha, h2, h3⟩ := he.get hlt
   refine ⟨b, o, ha, by omega, h2, _, h3, ?_⟩
   refine ad (fun e2 => ?_) (fun e2 => ?_)
   ·refine ⟨h, l1, ?_⟩
    rw [<- Fw, cd.2 ⟨i, hlt, by rw [e, e2]; rfl⟩] at k; exact k
   ·exact go (by rw [e2, Bool.and_false])
  ·exact go (by rw [e]; rfl)
 ·refine ak (by rw [decide_eq_false_iff_not]; omega) ⟨h, l1, ?_⟩
  rw [<- Fw, my.2 fun j hjn => hj j (by omega)] at k; exact k
theorem zs {k f : Nat} : f ∈ db k ↔ f &&& k = f := by
 unfold db
 rw [List.mem_filter, List.mem_range, decide_eq_true_eq]
 refine ⟨fun h => h.2, fun h => ⟨?_, h⟩⟩
 have : f &&& k <= k := Nat.and_le_right
 omega
theorem iG {σ : ar} {fm c t : Nat} (ok : σ.Ok) (hfm : fm + σ.fixed = 2 ^ σ.n - 1) (hc : c < 2 ^ (σ.n + σ.k)) (ht : t < 2 ^ σ.n) : σ.goes c t = true ↔ ∃ f, f ∈ db fm /\ σ.next c + f = t := by
 unfold ar.goes
 rw [decide_eq_true_eq, Og (y := fm) (by omega) ok.fixed ht (ok.next c hc) (ok.held c hc)]
 constructor
 ·rintro ⟨f, h1, h2⟩; exact ⟨f, zs.2 h1, h2⟩
 ·rintro ⟨f, h1, h2⟩; exact ⟨f, zs.1 h1, h2⟩
theorem nM {σ : ar} {fm c f : Nat} (ok : σ.Ok) (hfm : fm + σ.fixed = 2 ^ σ.n - 1) (hc : c < 2 ^ (σ.n + σ.k)) (hf : f ∈ db fm) : σ.next c + f < 2 ^ σ.n := by
 have h1 := zs.1 hf
 have h2 : f &&& fm <= fm := Nat.and_le_right
 have h3 := ok.held c hc
 have h4 : σ.next c &&& σ.fixed <= σ.fixed := Nat.and_le_right
 have := Nat.two_pow_pos σ.n
 omega
theorem Cl {h : Hp} {q : ym} {σ : ar} {s : Sl} {S : Nat -> Bool} {R : Value -> Hp -> Prop} (hq : wC h q σ) (ok : σ.Ok) (hS : cy h s (2 ^ σ.n) S)
  (k : ∀ b' T h', Kn h h' [(b', .inl ⟨tb (2 ^ σ.n) T, 2 ^ σ.n, false⟩)] -> (∀ j, j < 2 ^ σ.n -> T j = σ.fwd σ.hold S j) -> R (arr b' (2 ^ σ.n)).v h') : lT #[A7 σ q, s.v] h R := by
 apply y9
 refine uf_ ?_
 have hn := dy ok
 have hp := kD ok
 have hpos := Nat.two_pow_pos σ.n
 obtain ⟨hh, _, hx, ⟨fm, hfm, hfl⟩, _⟩ := id hq
 have hhl := hh.len
 have hxl := IntS.len hx
 rw [bW, List.length_map, List.length_range] at hxl
 have hfll := IntS.len hfl
 rw [bW] at hfll
 have hfb : (db fm).length <= 2 ^ σ.n := by
  have h1 : (db fm).length <= fm + 1 := by unfold db; have := List.length_filter_le (fun c => decide (c &&& fm = c)) (List.range (fm + 1)); simpa using this
  omega
 have K0 := Kn.nil h
 (with_reducible apply Kn.al); (assumption); (intro b10 h1 K1 l1 hb10)
 (refine kr_ ?_)
 refine ⟨Int.natCast_nonneg _, Int.le_refl _, by omega, by omega, ?_⟩
 (with_reducible apply Kn.al); (assumption); (intro b14 h2 K2 l2 hb14)
 rw [Int.toNat_natCast, Nat.mul_one, bO, hX] at K2
 rw [Int.toNat_natCast]
 refine aq (2 ^ (σ.n + σ.k)) (fun c vs h' => vs = [s.v, .pointer (some ⟨b10, 0, none⟩), (arr b14 (2 ^ σ.n)).v, I c] /\
  ∃ T, Kn h h' [(b14, .inl ⟨tb (2 ^ σ.n) T, 2 ^ σ.n, false⟩), (b10, .inl ⟨uT σ q, 7, false⟩)] /\ ∀ x, T x = true ↔ ∃ c', c' < c /\ S (c' % 2 ^ σ.n) = true /\ σ.hold c' = true /\ ∃ f, f ∈ db fm /\ σ.next c' + f = x)
  ⟨rfl, _, K2, fun x => ⟨fun e => by simp at e, fun ⟨c', e, _⟩ => by omega⟩⟩ ?_
 clear K2 K1 K0 l1 l2 hb10 hb14 h1 h2
 rintro c _ h1 nxt hc ⟨rfl, T, K1, hT⟩ hnx
 refine ⟨s, b10, 0, arr b14 _, _, rfl, ?_⟩
 (refine kr_ ?_)
 by_cases hlt : c < 2 ^ (σ.n + σ.k)
 rotate_left
 ·refine ak (by rw [decide_eq_false_iff_not]; omega) ?_
  refine k b14 T h1 (K1.sub (fun e he => by rw [List.mem_singleton] at he; subst he; exact .head _) (by simp)) fun j hj => ?_
  rw [Bool.eq_iff_iff, hT, ar.fwd_iff]
  constructor
  ·rintro ⟨c', q1, q2, q3, q4⟩
   have hc' : c' < 2 ^ (σ.n + σ.k) := by omega
   obtain ⟨a1, a2, a3⟩ := ar.at_of hc'
   exact ⟨c' % 2 ^ σ.n, c' / 2 ^ σ.n, a1, a2, q2, by rw [a3]; exact q3, by rw [a3]; exact (iG ok hfm hc' hj).2 q4⟩
  ·rintro ⟨s', i', q1, q2, q3, q4, q5⟩
   have hc' := ar.at_lt q1 q2
   exact ⟨σ.at_ s' i', by omega, by rw [ar.at_mod q1]; exact q3, q4, (iG ok hfm hc' hj).1 q5⟩
 refine aH (by rw [decide_eq_true_eq]; omega) ?_
 have skip : (S (c % 2 ^ σ.n) && σ.hold c) = false -> nxt [s.v, .pointer (some ⟨b10, 0, none⟩), (arr b14 (2 ^ σ.n)).v, I (W ((c : Int) + 1))] h1 := fun e => by
  rw [az (by omega)]
  refine hnx hlt _ _ ⟨rfl, T, K1, fun x => ?_⟩
  rw [hT]
  constructor
  ·rintro ⟨c', q1, q⟩; exact ⟨c', by omega, q⟩
  ·rintro ⟨c', q1, q2, q3, q4⟩
   by_cases e2 : c' = c
   ·rw [e2] at q2 q3; rw [q2, q3] at e; cases e
   ·exact ⟨c', by omega, q2, q3, q4⟩
 rw [de]
 (refine kr_ ?_)
 rw [if_neg (by omega), eX]
 obtain ⟨b, o, ha, e1, e2⟩ := (hS.mono K1.le).get (i := c % 2 ^ σ.n) (Nat.mod_lt _ hpos)
 refine ⟨b, o, ha, by omega, e1, _, e2, ?_⟩
 refine ad (fun e => ?_) (fun e => ?_)
 ·exact aH rfl (skip (by have : S (c % 2 ^ σ.n) = false := by simpa using e
                         rw [this]; rfl))
 have eS : S (c % 2 ^ σ.n) = true := by simpa using e
 (refine kr_ ?_)
 obtain ⟨b, o, ha, e1, e2⟩ := (hh.mono K1.le).get hlt
 refine ⟨b, o, ha, by omega, e1, _, e2, ?_⟩
 refine ad (fun e => ?_) (fun e => ?_)
 ·exact skip (by have : σ.hold c = false := by simpa using e
                 rw [this, Bool.and_false])
 have eH : σ.hold c = true := by simpa using e
 refine aq (db fm).length (fun j vs h' => vs = [s.v, .pointer (some ⟨b10, 0, none⟩), (arr b14 (2 ^ σ.n)).v, I c, I j] /\
  ∃ U, Kn h h' [(b14, .inl ⟨tb (2 ^ σ.n) U, 2 ^ σ.n, false⟩), (b10, .inl ⟨uT σ q, 7, false⟩)] /\ ∀ x, U x = true ↔ T x = true \/ ∃ f, f ∈ (db fm).take j /\ σ.next c + f = x)
  ⟨rfl, T, K1, fun x => ⟨fun q => .inl q, fun q => q.resolve_right fun ⟨f, q1, _⟩ => by simp at q1⟩⟩ ?_
 clear skip K1
 rintro j _ h1 nxt2 hj ⟨rfl, U, K1, hU⟩ hnx2
 refine ⟨s, b10, 0, arr b14 _, _, _, rfl, ?_⟩
 (refine kr_ ?_)
 by_cases hlj : j < (db fm).length
 rotate_left
 ·refine ak (by rw [decide_eq_false_iff_not]; omega) ?_
  rw [az (by omega)]
  refine hnx hlt _ _ ⟨rfl, U, K1, fun x => ?_⟩
  rw [hU, hT, List.take_of_length_le (by omega)]
  constructor
  ·rintro (⟨c', q1, q⟩ | q)
   ·exact ⟨c', by omega, q⟩
   ·exact ⟨c, by omega, eS, eH, q⟩
  ·rintro ⟨c', q1, q2, q3, q4⟩
   by_cases e2 : c' = c
   ·rw [e2] at q4; exact .inr q4
   ·exact .inl ⟨c', by omega, q2, q3, q4⟩
 refine aH (by rw [decide_eq_true_eq]; omega) ?_
 (refine kr_ ?_)
 obtain ⟨b, o, ha, e1, e2⟩ := v6.get (hx.mono K1.le) hlt
 refine ⟨b, o, ha, by omega, e1, _, e2, ?_⟩
 (refine kr_ ?_)
 obtain ⟨f, hf⟩ : ∃ f, (db fm)[j]? = some f := ⟨_, List.getElem?_eq_getElem hlj⟩
 obtain ⟨b, o, ha, e3⟩ := (hfl.mono K1.le).get (gm hf)
 refine ⟨b, o, ha, by omega, by omega, _, e3, ?_⟩
 have hlf := nM ok hfm hlt (List.mem_of_getElem? hf)
 rw [<- Int.natCast_add, fj (by omega)]
 refine ⟨b14, 0, rfl, by omega, by dsimp only; omega, ?_⟩
 (((with_reducible apply Kn.wr); (assumption); ((focus ((repeat first | exact .head | apply Upd.tail); done)))))
 ·rw [eW]; omega
 intro h2 K2 _
 rw [bk, Nat.zero_add, Int.toNat_natCast, Nat.mul_one, iO] at K2
 rw [az (by omega)]
 refine hnx2 hlj _ _ ⟨rfl, _, K2, fun x => ?_⟩
 rw [List.take_add_one, hf]
 by_cases ex : x = σ.next c + f
 ·rw [if_pos ex]
  exact ⟨fun _ => .inr ⟨f, by simp, ex.symm⟩, fun _ => rfl⟩
 ·rw [if_neg ex, hU]
  constructor
  ·rintro (q | ⟨f', q1, q2⟩)
   ·exact .inl q
   ·exact .inr ⟨f', List.mem_append_left _ q1, q2⟩
  ·rintro (q | ⟨f', q1, q2⟩)
   ·exact .inl q
   ·rcases List.mem_append.1 q1 with q1 | q1
    ·exact .inr ⟨f', q1, q2⟩
    ·simp at q1; subst q1; exact absurd q2.symm ex
theorem kJ {h : Hp} {q : ym} {σ : ar} {R : Value -> Hp -> Prop} (hq : wC h q σ) (ok : σ.Ok)
  (k : ∀ s h', h.le h' -> xv h' s (2 ^ σ.n) σ.nLay σ.front -> R (Sl.v s) h') : fG #[A7 σ q] h R := by
 apply zj
 refine uf_ ?_
 have hn := dy ok
 have h8 := ok.nle
 have K0 := Kn.nil h
 (with_reducible apply Kn.al); (assumption); (intro b9 h1 K1 l1 hb9)
 (refine kr_ ?_)
 refine ⟨Int.natCast_nonneg _, Int.le_refl _, by omega, by omega, ?_⟩
 (with_reducible apply Kn.al); (assumption); (intro b14 h2 K2 l2 hb14)
 rw [Int.toNat_natCast, Nat.mul_one, bO, hX] at K2
 rw [Int.toNat_natCast]
 (refine kr_ ?_)
 refine aq (2 ^ σ.n) (fun i vs h' => ∃ (out fr : Sl) (g : Hp) (V : Nat -> Bool) (ts : List Sl), vs = [.pointer (some ⟨b9, 0, none⟩), out.v, (arr b14 (2 ^ σ.n)).v, fr.v] /\
  h.le g /\ Kn g (h'.offS out) [(b14, .inl ⟨tb (2 ^ σ.n) V, 2 ^ σ.n, false⟩), (b9, .inl ⟨uT σ q, 7, false⟩)] /\ cy g fr (2 ^ σ.n) (σ.front i) /\ Buf h' out 1 (ts.map Sl.v) /\ ts.length = i /\
  (∀ (j : Nat) (t : Sl), ts[j]? = some t -> cy g t (2 ^ σ.n) (σ.front j)) /\ (∀ j, j < 2 ^ σ.n -> V j = σ.seen i j) /\ ∀ j, j < i -> σ.live j = true)
  ⟨⟨none, 0, 0⟩, q.bs, h, _, [], rfl, Hp.le_refl _, K2, hq.2.2.2.2, et _ _, rfl, fun j t ht => by simp at ht, fun _ _ => rfl, fun j hj => by omega⟩ ?_
 clear K2 K1 K0 l1 l2 hb9 hb14 h1 h2
 rintro i _ h1 nxt hi ⟨out, fr, g, V, ts, rfl, lg, K1, hF, hB, htl, ht, hV, hlive⟩ hnx
 refine ⟨b9, 0, out, arr b14 _, fr, rfl, ?_⟩
 have K1' := K1.mono (aO h1 out)
 have hbF := hF.mono K1'.le
 have hon := hB.1
 rw [List.length_map, Nat.mul_one] at hon
 refine F2 hbF (by omega) ⟨_, rfl, ?_⟩
 refine ad (fun e => ?_) (fun e => ?_)
 rotate_left
 ·have hnl : σ.nLay = i := ar.nLay_of hlive e
  exact k out h1 (Hp.le_trans lg K1'.le) ⟨ts, by omega, hB.slc_of (by omega), fun j t hj => (ht j t hj).mono K1'.le⟩
 have hlive' : ∀ j, j < i + 1 -> σ.live j = true := fun j hj => by
  by_cases e2 : j = i
  ·rw [e2]; exact e
  ·exact hlive j (by omega)
 have hlt : i < 2 ^ σ.n := ar.live_le hlive'
 refine ae fun b34 h2 hb34 l2 f34 => ?_
 refine df (hB.mono l2) (by omega) (by omega) (by omega) ⟨b34, 0, rfl, ax f34⟩ (by simp) rfl ?_
 intro s' h3 hs'n hB' l3 _
 have K2 := K1.mono (Hp.le_trans (bJ out l2) l3)
 have K2' := K2.mono (aO h3 s')
 repeat' (refine kr_ ?_)
 refine Cl (hq.mono (Hp.le_trans lg K2'.le)) ok (hF.mono K2'.le) fun bB T h4 K5 hT => ⟨_, rfl, ?_⟩
 have hbB : h3 bB = none := K5.new _ (.head _)
 have K6 := K2.cons (b := bB) (aw (aO h3 s') hbB) (bJ s' K5.le) (hB'.offS_new hbB (K5.at (.head _)))
 have hB4 := hB'.mono K5.le
 have K6' := K6.mono (aO h4 s')
 (refine kr_ ?_)
 refine ⟨Int.natCast_nonneg _, Int.le_refl _, by omega, by omega, ?_⟩
 refine ae fun b53 h5 hb53 l5 f53 => ?_
 rw [Int.toNat_natCast, Nat.mul_one, bO, hX] at f53
 rw [Int.toNat_natCast]
 have K7 := K6.cons (b := b53) (aw (aO h4 s') hb53) (bJ s' l5) (hB4.offS_new hb53 f53)
 have hB5 := hB4.mono l5
 refine aq (2 ^ σ.n) (fun x vs h' => vs = [.pointer (some ⟨b9, 0, none⟩), s'.v, (arr b14 (2 ^ σ.n)).v, fr.v, (arr bB (2 ^ σ.n)).v, (arr b53 (2 ^ σ.n)).v, I x] /\
  ∃ V, Kn g (h'.offS s') [(b53, .inl ⟨tb (2 ^ σ.n) fun _ => false, 2 ^ σ.n, false⟩), (bB, .inl ⟨tb (2 ^ σ.n) T, 2 ^ σ.n, false⟩), (b14, .inl ⟨tb (2 ^ σ.n) V, 2 ^ σ.n, false⟩), (b9, .inl ⟨uT σ q, 7, false⟩)] /\
   Buf h' s' 1 (ts.map Sl.v ++ [fr.v]) /\ ∀ j, j < 2 ^ σ.n -> V j = if j < x then σ.seen (i + 1) j else σ.seen i j)
  ⟨rfl, V, K7, hB5, fun j hj => by rw [if_neg (by omega)]; exact hV j hj⟩ ?_
 clear K7 hB5 hB4 K6 K6' K5 hV hbF K1'
 rintro x _ h6 nxt1 hx ⟨rfl, V, K, B, hV⟩ hnx1
 refine ⟨b9, 0, s', arr b14 _, fr, arr bB _, arr b53 _, _, rfl, ?_⟩
 have K' := K.mono (aO h6 s')
 (refine kr_ ?_)
 by_cases hlx : x < 2 ^ σ.n
 ·refine aH (by rw [decide_eq_true_eq]; exact_mod_cast hlx) ?_
  have hVx : V x = σ.seen i x := by rw [hV x hlx, if_neg (by omega)]
  have fin : ∀ v h7, v = σ.seen (i + 1) x -> Kn g (h7.offS s') [(b53, .inl ⟨tb (2 ^ σ.n) fun _ => false, 2 ^ σ.n, false⟩), (bB, .inl ⟨tb (2 ^ σ.n) T, 2 ^ σ.n, false⟩), (b14, .inl ⟨(tb (2 ^ σ.n) V).set x (.bool v), 2 ^ σ.n, false⟩), (b9, .inl ⟨uT σ q, 7, false⟩)] ->
    Buf h7 s' 1 (ts.map Sl.v ++ [fr.v]) -> nxt1 [.pointer (some ⟨b9, 0, none⟩), s'.v, (arr b14 (2 ^ σ.n)).v, fr.v, (arr bB (2 ^ σ.n)).v, (arr b53 (2 ^ σ.n)).v, I (W ((x : Int) + 1))] h7 := by
   intro v h7 hv K7 B7
   rw [az (by omega)]
   rw [iO] at K7
   refine hnx1 hlx _ _ ⟨rfl, _, K7, B7, fun j hj => ?_⟩
   by_cases e2 : j = x
   ·rw [if_pos e2, if_pos (by omega), e2]; exact hv
   ·rw [if_neg e2, hV j hj]
    by_cases e3 : j < x
    ·rw [if_pos e3, if_pos (by omega)]
    ·rw [if_neg e3, if_neg (by omega)]
  refine ⟨b14, 0, rfl, by omega, by dsimp only; omega, ?_⟩
  refine Kn.rd K' (.tail _ (.tail _ (.head _))) (x := V x) (by rw [Nat.zero_add, Nat.mul_one, Int.toNat_natCast]; exact jI hlx) ?_
  refine ad (fun e2 => ?_) (fun e2 => ?_)
  ·refine ⟨b14, 0, rfl, by omega, by dsimp only; omega, ?_⟩
   (with_reducible apply Kn.wrS); (exact K); ((focus ((repeat first | exact .head | apply Upd.tail); done)))
   ·rw [eW]; omega
   intro h7 K7 B7 _
   rw [bk, Nat.zero_add, Int.toNat_natCast, Nat.mul_one] at K7
   exact fin _ h7 (by rw [ar.seen_succ, <- hVx, e2]; rfl) K7 (B7 _ _ B)
  ·obtain ⟨b, o, ha, e3, e4⟩ := (hF.mono K'.le).get hlx
   refine ⟨b, o, ha, by omega, e3, _, e4, ?_⟩
   refine ⟨b14, 0, rfl, by omega, by dsimp only; omega, ?_⟩
   (with_reducible apply Kn.wrS); (exact K); ((focus ((repeat first | exact .head | apply Upd.tail); done)))
   ·rw [eW]; omega
   intro h7 K7 B7 _
   rw [bk, Nat.zero_add, Int.toNat_natCast, Nat.mul_one] at K7
   exact fin _ h7 (by rw [ar.seen_succ, <- hVx, e2]; rfl) K7 (B7 _ _ B)
 refine ak (by rw [decide_eq_false_iff_not]; omega) ?_
 replace hV : ∀ j, j < 2 ^ σ.n -> V j = σ.seen (i + 1) j := fun j hj => by rw [hV j hj, if_pos (by omega)]
 refine aq (2 ^ σ.n) (fun x vs h' => vs = [.pointer (some ⟨b9, 0, none⟩), s'.v, (arr b14 (2 ^ σ.n)).v, (arr bB (2 ^ σ.n)).v, (arr b53 (2 ^ σ.n)).v, I x] /\
  ∃ F, Kn g (h'.offS s') [(b53, .inl ⟨tb (2 ^ σ.n) F, 2 ^ σ.n, false⟩), (bB, .inl ⟨tb (2 ^ σ.n) T, 2 ^ σ.n, false⟩), (b14, .inl ⟨tb (2 ^ σ.n) V, 2 ^ σ.n, false⟩), (b9, .inl ⟨uT σ q, 7, false⟩)] /\
   Buf h' s' 1 (ts.map Sl.v ++ [fr.v]) /\ ∀ j, j < x -> F j = σ.front (i + 1) j) ⟨rfl, _, K, B, fun j hj => by omega⟩ ?_
 clear K B K' h6 hnx1 hx hlx
 rintro x _ h6 nxt1 hx ⟨rfl, F, K, B, hFx⟩ hnx1
 refine ⟨b9, 0, s', arr b14 _, arr bB _, arr b53 _, _, rfl, ?_⟩
 have K' := K.mono (aO h6 s')
 (refine kr_ ?_)
 by_cases hlx : x < 2 ^ σ.n
 ·refine aH (by rw [decide_eq_true_eq]; exact_mod_cast hlx) ?_
  have fin : ∀ v h7, v = σ.front (i + 1) x -> Kn g (h7.offS s') [(b53, .inl ⟨(tb (2 ^ σ.n) F).set x (.bool v), 2 ^ σ.n, false⟩), (bB, .inl ⟨tb (2 ^ σ.n) T, 2 ^ σ.n, false⟩), (b14, .inl ⟨tb (2 ^ σ.n) V, 2 ^ σ.n, false⟩), (b9, .inl ⟨uT σ q, 7, false⟩)] ->
    Buf h7 s' 1 (ts.map Sl.v ++ [fr.v]) -> nxt1 [.pointer (some ⟨b9, 0, none⟩), s'.v, (arr b14 (2 ^ σ.n)).v, (arr bB (2 ^ σ.n)).v, (arr b53 (2 ^ σ.n)).v, I (W ((x : Int) + 1))] h7 := by
   intro v h7 hv K7 B7
   rw [az (by omega)]
   rw [iO] at K7
   refine hnx1 hlx _ _ ⟨rfl, _, K7, B7, fun j hj => ?_⟩
   by_cases e2 : j = x
   ·rw [if_pos e2, e2]; exact hv
   ·rw [if_neg e2]; exact hFx j (by omega)
  refine ⟨bB, 0, rfl, by omega, by dsimp only; omega, ?_⟩
  refine Kn.rd K' (.tail _ (.head _)) (x := T x) (by rw [Nat.zero_add, Nat.mul_one, Int.toNat_natCast]; exact jI hlx) ?_
  refine ad (fun e2 => ?_) (fun e2 => ?_)
  ·refine ⟨b14, 0, rfl, by omega, by dsimp only; omega, ?_⟩
   refine Kn.rd K' (.tail _ (.tail _ (.head _))) (x := V x) (by rw [Nat.zero_add, Nat.mul_one, Int.toNat_natCast]; exact jI hlx) ?_
   refine ⟨b53, 0, rfl, by omega, by dsimp only; omega, ?_⟩
   (with_reducible apply Kn.wrS); (exact K); ((focus ((repeat first | exact .head | apply Upd.tail); done)))
   ·rw [eW]; omega
   intro h7 K7 B7 _
   rw [bk, Nat.zero_add, Int.toNat_natCast, Nat.mul_one] at K7
   exact fin _ h7 (by rw [ar.front_succ, <- hT x hlx, e2, hV x hlx]; rfl) K7 (B7 _ _ B)
  ·refine ⟨b53, 0, rfl, by omega, by dsimp only; omega, ?_⟩
   (with_reducible apply Kn.wrS); (exact K); ((focus ((repeat first | exact .head | apply Upd.tail); done)))
   ·rw [eW]; omega
   intro h7 K7 B7 _
   rw [bk, Nat.zero_add, Int.toNat_natCast, Nat.mul_one] at K7
   exact fin _ h7 (by rw [ar.front_succ, <- hT x hlx, e2]; rfl) K7 (B7 _ _ B)
 refine ak (by rw [decide_eq_false_iff_not]; omega) ?_
 obtain ⟨K3, K4⟩ := Kn.split (A := [(b53, .inl ⟨tb (2 ^ σ.n) F, 2 ^ σ.n, false⟩), (bB, .inl ⟨tb (2 ^ σ.n) T, 2 ^ σ.n, false⟩)]) (B := [(b14, .inl ⟨tb (2 ^ σ.n) V, 2 ^ σ.n, false⟩), (b9, .inl ⟨uT σ q, 7, false⟩)]) K
 have fF := K4.at (.head _)
 refine hnx hlt _ _ ⟨s', arr b53 (2 ^ σ.n), _, V, ts ++ [fr], rfl, Hp.le_trans lg K4.le, K3, gq (by omega) fF fun j hj => hFx j (by omega), by rw [List.map_append]; exact B, by simp [htl], fun j t hj => ?_, hV, hlive'⟩
 by_cases hji : j < i
 ·rw [List.getElem?_append_left (by omega)] at hj
  exact (ht j t hj).mono K4.le
 ·have hj2 := get_lt hj
  simp at hj2
  rw [List.getElem?_append_right (by omega), show j - ts.length = 0 by omega] at hj
  simp at hj; subst hj
  rw [show j = i by omega]; exact hF.mono K4.le
theorem mA {h : Hp} {q : ym} {σ : ar} {R : Value -> Hp -> Prop} (hq : wC h q σ) (ok : σ.Ok) (k : R (I σ.depthI) h) : fV #[A7 σ q] h R := by
 refine ACalls.drop (AY ?_)
 refine uf_ ?_
 have hn := dy ok
 have hnl := ar.nLay_le σ
 refine ae fun b9 h1 hb9 l1 f9 => ?_
 repeat' (refine am ?_)
 refine kJ (hq.mono l1) ok fun t h2 l2 hL => ⟨_, rfl, ?_⟩
 have l02 := Hp.le_trans l1 l2
 replace f9 := l2 _ _ f9
 have hl := hL.len
 refine aq σ.nLay (fun i vs h' => vs = [.pointer (some ⟨b9, 0, none⟩), t.v, I i] /\ h2 = h' /\ ∀ j, j < i -> σ.hits j = false) ⟨rfl, rfl, fun j hj => by omega⟩ ?_
 rintro i _ _ nxt hi ⟨rfl, rfl, hno⟩ hnx
 refine ⟨b9, 0, t, _, rfl, ?_⟩
 by_cases hlt : i < σ.nLay
 rotate_left
 ·refine ak (by rw [decide_eq_false_iff_not]; omega) ⟨h, l02, ?_⟩
  have : σ.depth = none := ar.find_none.2 fun j hj => hno j (by omega)
  unfold ar.depthI at k
  rw [this] at k; exact k
 refine aH (by rw [decide_eq_true_eq]; omega) ?_
 obtain ⟨bl, ol, r, ha, h3, h4, hr⟩ := hL.get hlt
 refine ⟨bl, ol, ha, by omega, h3, ?_⟩
 repeat' (refine am ?_)
 refine ⟨r, h4, ?_⟩
 refine uh (hq.mono l02) ok hr ⟨_, rfl, ?_⟩
 refine ad (fun e => ?_) (fun e => ?_)
 ·refine ⟨h, l02, ?_⟩
  have : σ.depth = some i := ar.depth_some.2 ⟨e, fun x hx => hno x hx⟩
  unfold ar.depthI at k
  rw [this] at k; exact k
 ·rw [az (by omega)]
  refine hnx hlt _ _ ⟨rfl, rfl, fun x hx => ?_⟩
  by_cases e2 : x = i
  ·rw [e2]; exact e
  ·exact hno x (by omega)
theorem Kn.lower {g h h' : Hp} {L : List (Nat × Blk)} (K : Kn h h' L) (lg : g.le h) : ∃ g', Kn g g' L /\ g'.le h' /\ ∀ c, h c ≠ none -> g c = none -> g' c = none := by
 refine ⟨fun c => if c ∈ L.map Prod.fst then h' c else g c, ⟨fun c x e => ?_, fun e he => ?_, fun e he => ?_, K.nd⟩, fun c x e => ?_, fun c hc hg => ?_⟩
 ·show (if _ then _ else _) = _
  split
  ·exact K.le _ _ (lg _ _ e)
  ·exact e
 ·show (if _ then _ else _) = _
  rw [if_pos (List.mem_map.2 ⟨e, he, rfl⟩)]; exact K.mem e he
 ·exact aw lg (K.new e he)
 ·change (if _ then _ else _) = _ at e
  split at e
  ·exact e
  ·exact K.le _ _ (lg _ _ e)
 ·show (if _ then _ else _) = _
  split
  ·rename_i hm
   obtain ⟨e, he, rfl⟩ := List.mem_map.1 hm
   exact absurd (K.new e he) hc
  ·exact hg
theorem vu {g h : Hp} {b : Nat} {s2 : Sl} {σ : ar} {S : Nat -> Bool} {R : Value -> Hp -> Prop} (lg : g.le h) (hsg : jJ g b σ) (ok : σ.Ok) (hSg : cy g s2 (2 ^ σ.n) S)
  (k : ∀ w h' g', h.le h' -> g.le g' -> g'.le h' -> (∀ c, h c ≠ none -> g c = none -> g' c = none) -> zo g' ce #[] w (2 ^ (σ.n + σ.k)) (σ.leads S) -> R (.func (.func ce) #[] w) h') : cb #[.pointer (some ⟨b, 0, none⟩), s2.v] h R := by
 apply sW
 refine uf_ ?_
 have hn := dy ok
 have hS := hSg.mono lg
 have hl := hS.len
 have hfx := ok.fixed
 obtain ⟨M, st, hold, bad, next, fxg, _, _, hnt⟩ := id hsg
 have fx := lg _ _ fxg
 have K0 := Kn.nil h
 (with_reducible apply Kn.al); (assumption); (intro b4 h1 K1 l1 hb4)
 rw [hl]
 refine ⟨Int.natCast_nonneg _, Int.le_refl _, by omega, by omega, ?_⟩
 (with_reducible apply Kn.al); (assumption); (intro b7 h2 K2 l2 hb7)
 rw [Int.toNat_natCast, Nat.mul_one, bO, hX] at K2
 rw [Int.toNat_natCast]
 (with_reducible apply Kn.al); (assumption); (intro b9 h3 K3 l3 hb9)
 (((with_reducible apply Kn.wr); (assumption); ((focus ((repeat first | exact .head | apply Upd.tail); done)))))
 ·exact Nat.le_refl _
 intro h4 K4 _
 refine aq (2 ^ σ.n) (fun i vs h' => vs = [.pointer (some ⟨b4, 0, none⟩), .pointer (some ⟨b9, 0, none⟩), s2.v, I (2 ^ σ.n : Nat), I i] /\
  ∃ T, Kn h h' [(b9, .inl ⟨[(arr b7 (2 ^ σ.n)).v], 1, false⟩), (b7, .inl ⟨tb (2 ^ σ.n) T, 2 ^ σ.n, false⟩), (b4, .inl ⟨[.pointer (some ⟨b, 0, none⟩)], 1, false⟩)] /\ ∀ x, T x = true ↔ ∃ t, t < i /\ S t = true /\ t &&& σ.fixed = x)
  ⟨rfl, _, K4, fun x => ⟨fun e => by simp at e, fun ⟨t, e, _⟩ => by omega⟩⟩ ?_
 clear K4 K3 K2 K1 K0 l1 l2 l3 hb4 hb7 hb9
 rintro i _ h5 nxt hi ⟨rfl, T, K, hT⟩ hnx
 refine ⟨b4, 0, b9, 0, s2, _, _, rfl, ?_⟩
 by_cases hlt : i < 2 ^ σ.n
 ·refine aH (by rw [decide_eq_true_eq]; exact_mod_cast hlt) ?_
  rw [de]
  obtain ⟨bS, oS, ha, e1, e2⟩ := (hS.mono K.le).get hlt
  refine ⟨bS, oS, ha, by omega, e1, _, e2, ?_⟩
  have hle : i &&& σ.fixed <= i := Nat.and_le_left
  have fin : ∀ v h6, v = (T (i &&& σ.fixed) || S i) -> Kn h h6 [(b9, .inl ⟨[(arr b7 (2 ^ σ.n)).v], 1, false⟩), (b7, .inl ⟨(tb (2 ^ σ.n) T).set (i &&& σ.fixed) (.bool v), 2 ^ σ.n, false⟩), (b4, .inl ⟨[.pointer (some ⟨b, 0, none⟩)], 1, false⟩)] ->
    nxt [.pointer (some ⟨b4, 0, none⟩), .pointer (some ⟨b9, 0, none⟩), s2.v, I (2 ^ σ.n : Nat), I (W ((i : Int) + 1))] h6 := by
   intro v h6 hv K6
   rw [az (by omega)]
   rw [iO] at K6
   refine hnx hlt _ _ ⟨rfl, _, K6, fun x => ?_⟩
   by_cases e : x = i &&& σ.fixed
   ·rw [if_pos e, hv, Bool.or_eq_true, hT, e]
    constructor
    ·rintro (⟨t, q1, q2, q3⟩ | q)
     ·exact ⟨t, by omega, q2, q3⟩
     ·exact ⟨i, by omega, q, rfl⟩
    ·rintro ⟨t, q1, q2, q3⟩
     by_cases e2 : t = i
     ·subst e2; exact .inr q2
     ·exact .inl ⟨t, by omega, q2, q3⟩
   ·rw [if_neg e, hT]
    constructor
    ·rintro ⟨t, q1, q⟩; exact ⟨t, by omega, q⟩
    ·rintro ⟨t, q1, q2, q3⟩
     by_cases e2 : t = i
     ·subst e2; exact absurd q3.symm e
     ·exact ⟨t, by omega, q2, q3⟩
  repeat' (refine kr_ ?_)
  rw [px (by omega) (by omega)]
  refine ⟨by omega, by dsimp only; omega, ?_⟩
  refine Kn.rd K (.tail _ (.head _)) (x := T (i &&& σ.fixed)) (by rw [Nat.zero_add, Nat.mul_one, Int.toNat_natCast]; exact jI (by omega)) ?_
  refine ad (fun e => ?_) (fun e => ?_)
  ·refine ⟨b7, 0, rfl, by omega, by dsimp only; omega, ?_⟩
   (((with_reducible apply Kn.wr); (assumption); ((focus ((repeat first | exact .head | apply Upd.tail); done)))))
   ·rw [eW]; omega
   intro h6 K6 _
   rw [bk, Nat.zero_add, Int.toNat_natCast, Nat.mul_one] at K6
   exact fin _ h6 (by rw [e]; rfl) K6
  ·refine ⟨b7, 0, rfl, by omega, by dsimp only; omega, ?_⟩
   (((with_reducible apply Kn.wr); (assumption); ((focus ((repeat first | exact .head | apply Upd.tail); done)))))
   ·rw [eW]; omega
   intro h6 K6 _
   rw [bk, Nat.zero_add, Int.toNat_natCast, Nat.mul_one] at K6
   exact fin _ h6 (by rw [e]; rfl) K6
 refine ak (by rw [decide_eq_false_iff_not]; omega) ?_
 obtain ⟨g', Kg, lg', hnew⟩ := K.lower lg
 refine k _ h5 g' K.le Kg.le lg' hnew fun c hc h' l R' kk => ?_
 apply qN
 refine uf_ ?_
 have K' := Kg.mono l
 clear K Kg fx hnx
 have hcn := ok.next c hc
 repeat' (refine kr_ ?_)
 obtain ⟨bx, ox, hax, e1, e2⟩ := v6.get (hnt.mono K'.le) hc
 refine ⟨bx, ox, hax, by omega, e1, _, e2, ?_⟩
 refine ⟨b7, 0, rfl, by omega, by dsimp only; omega, ?_⟩
 refine Kn.rd K' (.tail _ (.head _)) (x := T (σ.next c)) (by rw [Nat.zero_add, Nat.mul_one, Int.toNat_natCast]; exact jI (by omega)) ?_
 refine dk ?_ kk
 rw [Bool.eq_iff_iff, hT]
 unfold ar.leads
 rw [cd]
 constructor
 ·rintro ⟨t, q1, q2, q3⟩
  exact ⟨t, by omega, by unfold ar.goes; rw [q2, q3]; simp⟩
 ·rintro ⟨t, q1, q2⟩
  unfold ar.goes at q2
  rw [Bool.and_eq_true, decide_eq_true_eq] at q2
  exact ⟨t, by omega, q2.1, q2.2⟩
theorem r6 {h : Hp} {b : Nat} {s2 : Sl} {σ : ar} {S : Nat -> Bool} {R : Value -> Hp -> Prop} (hs : jJ h b σ) (ok : σ.Ok) (hS : cy h s2 (2 ^ σ.n) S)
  (k : ∀ w h', h.le h' -> zo h' ce #[] w (2 ^ (σ.n + σ.k)) (σ.leads S) -> R (.func (.func ce) #[] w) h') : cb #[.pointer (some ⟨b, 0, none⟩), s2.v] h R :=
 vu (Hp.le_refl h) hs ok hS fun w h' g' l _ l2 _ hA => k w h' l fun c hc h'' l' R' kk => hA c hc h'' (Hp.le_trans l2 l') R' kk
theorem Fk {h : Hp} {t : Sl} {n : Nat} {T U : Nat -> Bool} (e : cy h t n T) (f : ∀ j, j < n -> T j = U j) : cy h t n U := by
 unfold cy at e ⊢
 rwa [show (List.range n).map U = (List.range n).map T from List.map_congr_left fun j hj => (f j (List.mem_range.1 hj)).symm]
theorem cy.wo {g h h' : Hp} {L : List (Nat × Blk)} {t : Sl} {n : Nat} {T : Nat -> Bool} (K : Kn g h L) (e : cy (h'.sub h) t n T) : cy (h'.wo (L.map Prod.fst)) t n T :=
 cy.mono (nj (sub_le _ _) fun b hb => by
  cases hx : h b with
  | none => exact absurd hx (K.has b hb)
  | some x => exact jQ hx) e
theorem J6 {h : Hp} {b c t : Nat} {σ : ar} {R : Value -> Hp -> Prop} (hs : jJ h b σ) (ok : σ.Ok) (hc : c < 2 ^ (σ.n + σ.k)) (ht : t < 2 ^ σ.n) (k : R (.bool (σ.goes c t)) h) :
  jB #[.pointer (some ⟨b, 0, none⟩), I c, I t] h R := by
 apply u6
 refine uf_ ?_
 obtain ⟨M, st, hold, bad, next, fx, _, _, hn⟩ := hs
 have h8 := dy ok
 have hf := ok.fixed
 have hn' := ok.next c hc
 refine cB (cB ?_)
 repeat' (refine am ?_)
 obtain ⟨b', o', ha, h1, h2⟩ := v6.get hn hc
 refine ⟨b', o', ha, by omega, h1, _, h2, ?_⟩
 rw [px (by omega) (by omega)]
 refine dk ?_ k
 unfold ar.goes
 rw [Bool.eq_iff_iff, decide_eq_true_eq, beq_iff_eq]; omega
theorem AB {h : Hp} {b4 b z s c : Nat} {σ : ar} {R : Value -> Hp -> Prop} (hs : jJ h b σ) (f : h b4 = some (.inl ⟨[.pointer (some ⟨b, 0, none⟩)], z, false⟩)) (hc : c < 2 ^ (σ.n + σ.k)) (k : R (.bool (σ.ends c)) h) :
  jM #[I s, I c, .pointer (some ⟨b4, 0, none⟩)] h R := by
 apply qu
 refine uf_ ?_
 (refine am ?_)
 exact qP hs hc ⟨_, rfl, k⟩
theorem AD {h : Hp} {b4 b5 b z z' s c : Nat} {fid : FuncId} {u w : Array Value} {σ : ar} {P : Nat -> Bool} {R : Value -> Hp -> Prop} (hs : jJ h b σ) (f : h b4 = some (.inl ⟨[.pointer (some ⟨b, 0, none⟩)], z, false⟩))
  (f5 : h b5 = some (.inl ⟨[.func (.func fid) u w], z', false⟩)) (hA : zo h fid u w (2 ^ (σ.n + σ.k)) P) (hc : c < 2 ^ (σ.n + σ.k)) (k : R (.bool (σ.hold c && P c)) h) :
  jN #[I s, I c, .pointer (some ⟨b4, 0, none⟩), .pointer (some ⟨b5, 0, none⟩)] h R := by
 apply qH
 refine uf_ ?_
 obtain ⟨M, st, hold, bad, next, fx, hh, hb, _⟩ := hs
 (refine am ?_)
 refine cB ?_
 (refine am ?_)
 obtain ⟨b', o', ha, h1, h2⟩ := hh.get hc
 refine ⟨b', o', ha, by omega, h1, _, h2, ?_⟩
 refine ad (fun e => ?_) (fun e => ?_)
 ·refine ⟨fid, u, w, by rw [af f5]; rfl, ?_⟩
  refine hA c hc h (Hp.le_refl _) _ ⟨_, rfl, ?_⟩
  rw [e] at k; exact k
 ·rw [e] at k; exact k
theorem A1 {h : Hp} {b4 b5 b z z' c : Nat} {fid : FuncId} {u w : Array Value} {σ : ar} {P : Nat -> Bool} {R : Value -> Hp -> Prop} (hs : jJ h b σ) (f : h b4 = some (.inl ⟨[.pointer (some ⟨b, 0, none⟩)], z, false⟩))
  (f5 : h b5 = some (.inl ⟨[.func (.func fid) u w], z', false⟩)) (hA : zo h fid u w (2 ^ (σ.n + σ.k)) P) (hc : c < 2 ^ (σ.n + σ.k)) (k : R (.bool (σ.hold c && P c)) h) :
  jR #[I c, .pointer (some ⟨b4, 0, none⟩), .pointer (some ⟨b5, 0, none⟩)] h R := by
 apply qc
 refine uf_ ?_
 obtain ⟨M, st, hold, bad, next, fx, hh, hb, _⟩ := hs
 (refine am ?_)
 refine cB ?_
 (refine am ?_)
 obtain ⟨b', o', ha, h1, h2⟩ := hh.get hc
 refine ⟨b', o', ha, by omega, h1, _, h2, ?_⟩
 refine ad (fun e => ?_) (fun e => ?_)
 ·refine ⟨fid, u, w, by rw [af f5]; rfl, ?_⟩
  refine hA c hc h (Hp.le_refl _) _ ⟨_, rfl, ?_⟩
  rw [e] at k; exact k
 ·rw [e] at k; exact k
theorem Ap {h : Hp} {b4 b5 b z z' c t : Nat} {σ : ar} {R : Value -> Hp -> Prop} (hs : jJ h b σ) (ok : σ.Ok) (f : h b4 = some (.inl ⟨[.pointer (some ⟨b, 0, none⟩)], z, false⟩))
  (f5 : h b5 = some (.inl ⟨[I c], z', false⟩)) (hc : c < 2 ^ (σ.n + σ.k)) (ht : t < 2 ^ σ.n) (k : R (.bool (σ.goes c t)) h) :
  jK #[I t, .pointer (some ⟨b4, 0, none⟩), .pointer (some ⟨b5, 0, none⟩)] h R := by
 apply qM
 refine uf_ ?_
 repeat' (refine am ?_)
 exact J6 hs ok hc ht ⟨_, rfl, k⟩
theorem ez.toOwn {g h : Hp} {A X L : List (Nat × Blk)} {s : Sl} {sz : Nat} {cs : List Value} (o : ez X s sz cs) (hn : s.n <= 9223372036854775807) (K : Kn g h (A ++ (X ++ L))) : ∃ X', iL X' s sz cs /\ Kn g h (A ++ (X' ++ L)) := by
 by_cases h0 : s.n = 0
 ·refine ⟨[], ⟨o.1, hn, .inl ⟨h0, rfl⟩⟩, K.sub (fun e he => ?_) ?_⟩
  ·rcases List.mem_append.1 he with he | he
   ·exact List.mem_append_left _ he
   ·exact List.mem_append_right _ (List.mem_append_right _ he)
  ·have nd := K.nd
   rw [List.map_append, List.map_append] at nd
   rw [List.nil_append, List.map_append]
   exact nd.sublist (List.Sublist.append_left (List.sublist_append_right _ _) _)
 ·rcases o.2.2 with ⟨_, rfl, _⟩ | ⟨b, ha, rfl⟩
  ·exact absurd rfl h0
  ·exact ⟨_, ⟨o.1, hn, .inr ⟨h0, b, _, ha, rfl⟩⟩, K⟩
theorem Fx {g h h' : Hp} {L : List (Nat × Blk)} (K : Kn g h L) : (h'.sub h).le (h'.wo (L.map Prod.fst)) := by
 intro c x e
 have hn : h c = none := jS (by rw [e]; simp)
 rw [rl fun hm => K.has c hm hn]
 exact sub_le _ _ _ _ e
def TrX (h h' : Hp) (sS sI : Sl) (l : List (Nat × Nat)) : Prop :=
 ∃ XS XI, iL XS sS 1 ((VL (l.map Prod.fst)).map I) /\ iL XI sI 1 ((VL (l.map Prod.snd)).map I) /\ Kn h h' (XS ++ XI)
theorem GO (σ : ar) : ∀ k fits, (σ.wit k fits).length = k + 1 := by
 intro k
 induction k with
 | zero => intro fits; rfl
 | succ k ih => intro fits; show (_ :: σ.wit k _).length = _; rw [List.length_cons, ih]
def jz (σ : ar) (k : Nat) (fits : Nat -> Bool) : Nat := ar.leastB (2 ^ σ.n) fun s => fits s && σ.ahead k s
def sV (σ : ar) (k s : Nat) : Nat := ar.leastB (2 ^ σ.k) fun x => σ.onB k (σ.at_ s x)
theorem It (σ : ar) (k : Nat) (fits : Nat -> Bool) : σ.wit (k + 1) fits = (jz σ (k + 1) fits, sV σ (k + 1) (jz σ (k + 1) fits)) :: σ.wit k (σ.goes (σ.at_ (jz σ (k + 1) fits) (sV σ (k + 1) (jz σ (k + 1) fits)))) := rfl
theorem ez.at {X : List (Nat × Blk)} {h : Hp} {s t : Sl} {ts : List Sl} {i : Nat} (o : ez X s 1 (ts.map Sl.v)) (m : ∀ e ∈ X, h e.1 = some e.2) (hi : ts[i]? = some t) :
  ∃ b x, s.a = some ⟨b, 0, none⟩ /\ h b = some x /\ Hp.cell h b (0 + i * 1) = some t.v := by
 have hlt := get_lt hi
 rcases o.2.2 with ⟨_, _, h0⟩ | ⟨b, ha, rfl⟩
 ·have : ts.length = 0 := by have := congrArg List.length h0; simpa using this
  omega
 ·have hb := m _ (.head _)
  refine ⟨b, _, ha, hb, ?_⟩
  rw [af hb, Nat.zero_add, Nat.mul_one, List.getElem?_map, hi]; rfl
theorem SE {h : Hp} {b b4 bl : Nat} {r : Sl} {x4 xl : Blk} {σ : ar} {S : Nat -> Bool} {J : Nat -> Hp -> Prop} (hs : jJ h b σ) (ok : σ.Ok) (hr : cy h r (2 ^ σ.n) S) (f4 : h b4 = some x4) (fl : h bl = some xl)
  (hJ : ∀ bc h' w, h.le h' -> h' bc = some (.inl ⟨[.func (.func ce) #[] w], 1, false⟩) -> zo h' ce #[] w (2 ^ (σ.n + σ.k)) (σ.leads S) -> J bc h') :
  (cb #[.pointer (some ⟨b, 0, none⟩), r.v] h fun v36 h37 => ∃ (f38 : FuncId) (u39 w40 : Array Value), v36 = (.func (.func f38) u39 w40) /\ (∀ b41 : Nat, h37 b41 = none -> cr (h37.row b41 [.nilFunc] 1) fun h42 => h42 bl = h bl /\ (h42 b4 = h b4 /\
   (∃ (cs43 : List Value) (z44 : Nat), h42 b41 = some (.inl ⟨cs43, z44, false⟩) /\ 0 + 1 <= List.length cs43 /\ cr (h42.row b41 (dY cs43 0 [(.func (.func f38) u39 w40)]) z44) fun h45 => J b41 h45)))) /\
  (∀ b46 : Nat, h b46 = none -> cr (h.row b46 [.nilFunc] 1) fun h47 => h47 bl = h bl /\ (h47 b4 = h b4 /\ (cb #[.pointer (some ⟨b, 0, none⟩), r.v] h47 fun v48 h49 => ∃ (f50 : FuncId) (u51 w52 : Array Value), v48 = (.func (.func f50) u51 w52) /\
   (∃ (cs53 : List Value) (z54 : Nat), h49 b46 = some (.inl ⟨cs53, z54, false⟩) /\ 0 + 1 <= List.length cs53 /\ cr (h49.row b46 (dY cs53 0 [(.func (.func f50) u51 w52)]) z54) fun h55 => J b46 h55)))) := by
 refine ⟨?_, ?_⟩
 ·refine r6 hs ok hr fun w h4 l4 hA => ⟨_, _, _, rfl, ?_⟩
  refine ae fun b41 h5 hb41 l5 f41 => ?_
  have l35 := Hp.le_trans l4 l5
  refine ⟨(l35 _ _ fl).trans fl.symm, (l35 _ _ f4).trans f4.symm, ?_⟩
  (with_reducible apply bD); (exact f41); (exact l5); (exact hb41); (exact Nat.le_refl 1)
  intro h6 f6 kp l6
  exact hJ b41 h6 w (Hp.le_trans l4 l6) f6 fun c hc h'' l' R' kk' => hA c hc h'' (Hp.le_trans l6 l') R' kk'
 ·refine ae fun b46 h4 hb46 l4 f46 => ⟨(l4 _ _ fl).trans fl.symm, (l4 _ _ f4).trans f4.symm, ?_⟩
  refine vu l4 hs ok hr fun w h5 g' l5 lg lg' hno hA => ⟨_, _, _, rfl, ?_⟩
  have hg46 := hno b46 (by rw [f46]; simp) hb46
  (with_reducible apply bD); (exact l5 _ _ f46); (exact Hp.le_trans l4 l5); (exact hb46); (exact Nat.le_refl 1)
  intro h6 f6 kp l6
  have l56 : g'.le h6 := fun c x e => by
   have hne : c ≠ b46 := by rintro rfl; rw [hg46] at e; cases e
   rw [kp c hne]; exact lg' _ _ e
  exact hJ b46 h6 w l6 f6 fun c hc h'' l' R' kk' => hA c hc h'' (Hp.le_trans l56 l') R' kk'
theorem PK {h g h1 h5 : Hp} {b6 b73 : Nat} {y : Blk} {sS sI : Sl} {XS XI : List (Nat × Blk)} {pre : List (Nat × Nat)} (lg : h.le g) (h6 : g b6 ≠ none) (oS : ez XS sS 1 ((VL (pre.map Prod.fst)).map I)) (oI : ez XI sI 1 ((VL (pre.map Prod.snd)).map I))
  (nS : sS.n <= 9223372036854775807) (nI : sI.n <= 9223372036854775807) (K : Kn g h1 ((b73, y) :: (XS ++ (XI ++ [])))) (l5 : h.le h5) (kp : ∀ c, c ≠ b6 -> h5 c = h1 c) : TrX h h5 sS sI pre := by
 obtain ⟨XS', oS', K6⟩ := oS.toOwn nS (A := [_]) (L := XI ++ []) K
 rw [<- List.append_assoc] at K6
 obtain ⟨XI', oI', K7⟩ := oI.toOwn nI K6
 rw [List.append_nil, List.append_assoc] at K7
 have nd := K7.nd
 have hm : ∀ e ∈ XS' ++ XI', e ∈ [(b73, y)] ++ (XS' ++ XI') := fun e he => List.mem_append_right _ he
 refine ⟨XS', XI', oS', oI', l5, fun e he => ?_, fun e he => ?_, ?_⟩
 ·have hne : e.1 ≠ b6 := by
   intro e6
   have h1 := K7.new e (hm e he)
   rw [e6] at h1; exact h6 h1
  rw [kp _ hne]; exact K7.mem e (hm e he)
 ·exact aw lg (K7.new e (hm e he))
 ·rw [List.map_append, List.nodup_append] at nd
  exact nd.2.1
set_option maxHeartbeats 2000000 in
theorem xX {h : Hp} {b d : Nat} {σ : ar} {R : Value -> Hp -> Prop} (hs : jJ h b σ) (ok : σ.Ok) (hd : d <= 256) (hw : ∃ s, s < 2 ^ σ.n /\ (σ.begins s && σ.ahead d s) = true)
  (k : ∀ sS sI h', TrX h h' sS sI (σ.wit d σ.begins) -> R (.agg #[Sl.v sS, Sl.v sI]) h') : fL #[.pointer (some ⟨b, 0, none⟩), I d] h R := by
 apply sG
 refine uf_ ?_
 have hn := dy ok
 have hk := zk ok
 have K0 := Kn.nil h
 (with_reducible apply Kn.al); (assumption); (intro b4 h1 K1 l1 hb4)
 (with_reducible apply Kn.al); (assumption); (intro b6 h2 K2 l2 hb6)
 have f4 := K2.at (.tail _ (.head _))
 have f6 := K2.at (.head _)
 have hs2 := hs.mono K2.le
 (refine kr_ ?_)
 refine lO hs2 ok (f := fun _ c => σ.ends c) (fun s i hs' hi h' l R kk => AB (hs2.mono l) (l _ _ f4) (ar.at_lt hs' hi) kk) fun t0 h3 l3 ht0' => ⟨_, rfl, ?_⟩
 have ht0 : cy h3 t0 (2 ^ σ.n) (σ.ahead 0) := ht0'.mono (sub_le _ _)
 (with_reducible apply Kn.al); (exact Kn.nil h3); (intro b13 h4 K4 l4 hb13)
 refine aq d (fun i vs h' => ∃ (out : Sl) (ts : List Sl) (X : List (Nat × Blk)) (g : Hp), vs = [I d, .pointer (some ⟨b4, 0, none⟩), .pointer (some ⟨b6, 0, none⟩), out.v, I d, I i] /\ h2.le g /\ ez X out 1 (ts.map Sl.v) /\
  ts.length = i + 1 /\ Kn g h' X /\ ∀ (j : Nat) (t : Sl), ts[j]? = some t -> cy g t (2 ^ σ.n) (σ.ahead j))
  ⟨arr b13 1, [t0], _, h3, rfl, l3, ⟨rfl, Nat.le_refl _, .inr ⟨b13, rfl, rfl⟩⟩, rfl, K4, fun j t hj => ?_⟩ ?_
 ·cases j with
  | zero => simp at hj; subst hj; exact ht0
  | succ j => simp at hj
 clear K4 l4 hb13 h4 ht0 ht0' l3 h3 t0 b13
 rintro i _ h3 nxt hi ⟨out, ts, X, g, rfl, lg, oX, htl, K, hT⟩ hnx
 have hon := oX.1
 rw [List.length_map, Nat.mul_one] at hon
 refine ⟨_, b4, 0, b6, 0, out, _, _, rfl, ?_⟩
 have f4g := lg _ _ f4
 have f6g := lg _ _ f6
 have hsg := hs2.mono lg
 by_cases hlt : i < d
 ·refine aH (by rw [decide_eq_true_eq]; exact_mod_cast hlt) ?_
  obtain ⟨t, hti⟩ : ∃ t, ts[i]? = some t := ⟨_, List.getElem?_eq_getElem (by omega)⟩
  have hTi := hT i t hti
  have hW : W ((out.n : Int) - 1) = (i : Nat) := by rw [cc (by omega) (by omega)]; omega
  refine ap (fun J => ∀ bc h4 w, h3.le h4 -> h4 bc = some (.inl ⟨[.func (.func ce) #[] w], 1, false⟩) -> zo h4 ce #[] w (2 ^ (σ.n + σ.k)) (σ.leads (σ.ahead i)) -> J bc 0 h4)
   (fun bc h4 w l34 fc hA => ?_) (fun J hJ => ?_)
  ·have K4 := K.mono l34
   have hs4 := hsg.mono K4.le
   have f44 := K4.le _ _ f4g
   (refine kr_ ?_)
   refine lO hs4 ok (f := fun _ c => σ.hold c && σ.leads (σ.ahead i) c) (fun s j hs' hj h' l R kk => AD (hs4.mono l) (l _ _ f44) (l _ _ fc)
    (fun c hc h'' l' R' kk' => hA c hc h'' (Hp.le_trans l l') R' kk') (ar.at_lt hs' hj) kk) fun t' h5 l5 ht' => ⟨_, rfl, ?_⟩
   refine ae fun b64 h6 hb64 l6 f64 => ?_
   have K6 := K4.mono (Hp.le_trans l5 l6)
   have hnew : cy (h6.wo (X.map Prod.fst)) t' (2 ^ σ.n) (σ.ahead (i + 1)) := ht'.mono (Hp.le_trans (qZ h4 l6) (Fx K4))
   have lB := K6.leBase
   have KB := K6.base
   generalize h6.wo (X.map Prod.fst) = g6 at *
   rw [show X = X ++ [] from (List.append_nil _).symm] at KB
   refine Kn.grow KB oX (by omega) (by omega) (by omega) ⟨b64, 0, rfl, ax f64⟩ rfl rfl fun out' X' h7 hn' oX' K7 l7 => ?_
   rw [az (by omega)]
   rw [List.append_nil] at K7
   refine hnx hlt _ _ ⟨out', ts ++ [t'], X', g6, rfl, Hp.le_trans lg lB, by rw [List.map_append]; exact oX', by simp [htl], K7, fun j u hj => ?_⟩
   by_cases e : j < ts.length
   ·rw [List.getElem?_append_left e] at hj
    exact (hT j u hj).mono lB
   ·have h1 := get_lt hj
    simp at h1
    rw [List.getElem?_append_right (by omega), show j - ts.length = 0 by omega] at hj
    simp at hj; subst hj
    rw [show j = i + 1 by omega]; exact hnew
  ·rw [hW]
   obtain ⟨bo, xo, hao, hbo, hco⟩ := oX.at (fun e he => K.mem e he) hti
   refine ⟨bo, 0, hao, by omega, by omega, ?_⟩
   (refine kr_ ?_)
   refine ⟨t, by rw [Int.toNat_natCast]; exact hco, ?_⟩
   exact SE (J := fun bc h => J bc 0 h) (hsg.mono K.le) ok (hTi.mono K.le) (K.le _ _ f4g) hbo hJ
 have hie : i = d := by omega
 subst hie
 refine ak (by simp) ?_
 have hL : xv h3 out (2 ^ σ.n) (i + 1) σ.ahead := ⟨ts, htl, (oX.buf fun e he => K.mem e he).slc_of (by omega), fun j t hj => (hT j t hj).mono K.le⟩
 have lG := Hp.le_trans lg K.le
 clear hT K hsg f6g f4g oX hnx hlt hi lg htl hon X g ts
 have f4G := lG _ _ f4
 have hsG := hs2.mono lG
 (with_reducible apply Kn.al); (exact Kn.nil h3); (intro b73 h4 K4 l4 hb73)
 (refine kr_ ?_)
 refine uA (i + 1) (fun m vs h' => ∃ (g : Hp) (pre : List (Nat × Nat)) (fid : FuncId) (u w : Array Value) (fits : Nat -> Bool) (sS sI : Sl) (XS XI : List (Nat × Blk)),
  vs = [.pointer (some ⟨b4, 0, none⟩), .pointer (some ⟨b6, 0, none⟩), out.v, .pointer (some ⟨b73, 0, none⟩), .func (.func fid) u w, I ((m : Int) - 1)] /\ h3.le g /\ Kn g h' ((b73, .inl ⟨[sS.v, sI.v], 2, false⟩) :: (XS ++ (XI ++ []))) /\
  ez XS sS 1 ((VL (pre.map Prod.fst)).map I) /\ ez XI sI 1 ((VL (pre.map Prod.snd)).map I) /\ pre.length + m = i + 1 /\ zo g fid u w (2 ^ σ.n) fits /\ (m = 0 -> pre = σ.wit i σ.begins) /\
  ∀ k', m = k' + 1 -> pre ++ σ.wit k' fits = σ.wit i σ.begins /\ ∃ s, s < 2 ^ σ.n /\ (fits s && σ.ahead k' s) = true)
  ⟨h3, [], i0, #[.pointer (some ⟨b, 0, none⟩)], #[], σ.begins, ⟨none, 0, 0⟩, ⟨none, 0, 0⟩, [], [], by rw [show (((i + 1 : Nat) : Int) - 1) = i by omega], Hp.le_refl _, K4, ff 1, ff 1, by simp, fun c hc h' l R' kk => tJ (hsG.mono l) ok hc kk,
   fun e => by omega, fun k' e => by obtain rfl : k' = i := by omega
                                     exact ⟨rfl, hw⟩⟩ ?_
 clear K4 l4 hb73 h4
 rintro m _ h4 nxt ⟨g, pre, fid, u, w, fits, sS, sI, XS, XI, rfl, lg, K, oS, oI, hpl, hA, hz, hsc⟩ hnx
 refine ⟨b4, 0, b6, 0, out, b73, 0, fid, u, w, _, rfl, ?_⟩
 have f4g := lg _ _ f4G
 have hsg := hsG.mono lg
 have hpl1 := oS.1
 have hpl2 := oI.1
 simp only [List.length_map, bW, Nat.mul_one] at hpl1 hpl2
 cases m with
 | zero =>
  refine ak (by rw [decide_eq_false_iff_not]; omega) ?_
  (refine kr_ ?_)
  (refine kr_ ?_)
  have K2' := K2.mono (Hp.le_trans lG (Hp.le_trans lg K.le))
  (with_reducible apply Kn.wr); (exact K2'); ((focus ((repeat first | exact .head | apply Upd.tail); done)))
  ·exact Nat.le_refl _
  intro h5 K5 kp
  refine ⟨sS, by rw [af (K5.at (.head _))]; rfl, sI, by rw [af (K5.at (.head _))]; rfl, ?_⟩
  refine k sS sI h5 ?_
  rw [<- hz rfl]
  exact PK (Hp.le_trans K2.le (Hp.le_trans lG lg)) (by rw [lg _ _ (lG _ _ f6)]; simp) oS oI (by omega) (by omega) K K5.le kp
 | succ k =>
 rename_i kf
 obtain ⟨hwit, hex⟩ := hsc k rfl
 have hki : k <= i := by omega
 have hk1 : (((k + 1 : Nat) : Int) - 1) = k := by omega
 rw [hk1]
 refine aH (by rw [decide_eq_true_eq]; omega) ?_
 obtain ⟨hs0, hfit, hno⟩ := ar.leastB_at hex
 rw [show ar.leastB (2 ^ σ.n) (fun s => fits s && σ.ahead k s) = jz σ k fits from rfl] at hs0 hfit hno
 obtain ⟨hx0, hon, hnx0⟩ := ar.leastB_at (ar.ahead_on.1 (by simp only [Bool.and_eq_true] at hfit; exact hfit.2))
 rw [show ar.leastB (2 ^ σ.k) (fun x => σ.onB k (σ.at_ (jz σ k fits) x)) = sV σ k (jz σ k fits) from rfl] at hx0 hon hnx0
 have hwk : ∀ Z, (∀ k', k = k' + 1 -> Z = σ.wit k' (σ.goes (σ.at_ (jz σ k fits) (sV σ k (jz σ k fits))))) -> (k = 0 -> Z = []) -> σ.wit k fits = (jz σ k fits, sV σ k (jz σ k fits)) :: Z := by
  intro Z h1 h2
  cases k with
  | zero => rw [h2 rfl]; rfl
  | succ k' => rw [h1 k' rfl]; rfl
 generalize jz σ k fits = s0 at *
 generalize sV σ k s0 = x0 at *
 refine aq s0 (fun j vs h' => vs = [.pointer (some ⟨b4, 0, none⟩), .pointer (some ⟨b6, 0, none⟩), out.v, .pointer (some ⟨b73, 0, none⟩), .func (.func fid) u w, I k, I j] /\ h4 = h') ⟨rfl, rfl⟩ ?_
 rintro j _ _ nxt2 hj ⟨rfl, rfl⟩ hnx2
 refine ⟨b4, 0, b6, 0, out, b73, 0, fid, u, w, _, _, rfl, ?_⟩
 refine ap (fun J => J (!(fits j && σ.ahead k j)) h4) ?_ (fun J hJ => ?_)
 rotate_left
 ·refine hA j (by omega) h4 K.le _ ⟨_, rfl, ?_⟩
  refine ad (fun e => ?_) (fun e => ?_)
  ·rw [show fits j = false by simpa using e] at hJ; exact hJ
  ·rw [show fits j = true by simpa using e, Bool.true_and] at hJ
   obtain ⟨bl, ol, r, ha, h3', h4', hr⟩ := hL.get (show k < i + 1 by omega)
   have l34 := Hp.le_trans lg K.le
   refine ⟨bl, ol, ha, by omega, by omega, r, l34.cell h4', ?_⟩
   obtain ⟨br, or, har, hr1, hr2⟩ := (hr.mono l34).get (show j < 2 ^ σ.n by omega)
   exact ⟨br, or, har, by omega, hr1, _, hr2, hJ⟩
 by_cases hlt : j < s0
 ·refine aH (by rw [hno j hlt]; rfl) ?_
  rw [az (by omega)]
  exact hnx2 hlt _ _ ⟨rfl, rfl⟩
 obtain rfl : j = s0 := by omega
 refine ak (by rw [hfit]; rfl) ?_
 (refine kr_ ?_)
 clear hnx2 hlt hno hj
 refine ap (fun J => ∀ fid u w h5, h4.le h5 -> zo h5 fid u w (2 ^ (σ.n + σ.k)) (σ.onB k) -> J fid u w h5) (fun fid2 u2 w2 h5 l45 hA2 => ?_) (fun J hJ => ?_)
 rotate_left
 ·have hs4 := hsg.mono K.le
  cases k with
  | zero => exact ak rfl (hJ _ _ _ h4 (Hp.le_refl _) fun c hc h'' l' R' kk => qP (hs4.mono l') hc kk)
  | succ k' =>
   refine aH (by rw [decide_eq_true_eq]; omega) ?_
   obtain ⟨bl, ol, r, ha, h3', h4', hr⟩ := hL.get (show k' < i + 1 by omega)
   have hW : W (((k' + 1 : Nat) : Int) - 1) = (k' : Nat) := by rw [cc (by omega) (by omega)]; omega
   rw [hW]
   refine ⟨bl, ol, ha, by omega, by omega, ?_⟩
   (refine kr_ ?_)
   have l34 := Hp.le_trans lg K.le
   have hc4 := l34.cell h4'
   refine ⟨r, hc4, ?_⟩
   obtain ⟨xl, hxl⟩ : ∃ xl, h4 bl = some xl := by
    unfold Hp.cell at hc4
    split at hc4
    ·rename_i x hx; exact ⟨_, hx⟩
    ·cases hc4
   refine SE (J := fun bc h => J qO #[] #[.pointer (some ⟨b4, 0, none⟩), .pointer (some ⟨bc, 0, none⟩)] h) hs4 ok (hr.mono l34) (K.le _ _ f4g) hxl fun bc h5 w l45 fc hA2 => ?_
   exact hJ _ _ _ h5 l45 fun c hc h'' l' R' kk => A1 ((hs4.mono l45).mono l') (l' _ _ (l45 _ _ (K.le _ _ f4g))) (l' _ _ fc) (fun c hc h3 l3 R3 k3 => hA2 c hc h3 (Hp.le_trans l' l3) R3 k3) hc kk
 have KA := K.mono l45
 clear K hA
 have hs5 := hsg.mono KA.le
 refine aq x0 (fun i vs h' => vs = [.pointer (some ⟨b4, 0, none⟩), .pointer (some ⟨b6, 0, none⟩), out.v, .pointer (some ⟨b73, 0, none⟩), I k, I j, .func (.func fid2) u2 w2, I i] /\ h5 = h') ⟨rfl, rfl⟩ ?_
 rintro x _ _ nxt3 hx ⟨rfl, rfl⟩ hnx3
 refine ⟨b4, 0, b6, 0, out, b73, 0, _, _, fid2, u2, w2, _, rfl, ?_⟩
 have hat := ar.at_lt hs0 (show x < 2 ^ σ.k by omega)
 (refine kr_ ?_)
 refine Bo hs5 ok hs0 (by omega) ⟨_, rfl, ?_⟩
 refine hA2 _ hat h5 (Hp.le_refl _) _ ⟨_, rfl, ?_⟩
 by_cases hlt : x < x0
 ·refine aH (by rw [hnx0 x hlt]; rfl) ?_
  rw [az (by omega)]
  exact hnx3 hlt _ _ ⟨rfl, rfl⟩
 obtain rfl : x = x0 := by omega
 refine ak (by rw [hon]; rfl) ?_
 clear hnx3 hlt hnx0 hx
 (refine kr_ ?_)
 (with_reducible apply Kn.al); (exact KA); (intro b194 h6 K6 l6 hb194)
 have f194 := K6.at (.head _)
 refine Kn.growIn (A := [_, _]) K6 oS (by omega) (by omega) (by omega) ⟨b194, 0, rfl, ax f194⟩ rfl rfl fun sS' XS' h7 hnS oS' K7 l7 => ?_
 simp only [List.cons_append, List.nil_append] at K7
 clear K6 l6 hb194 f194 KA
 (((with_reducible apply Kn.wr); (assumption); ((focus ((repeat first | exact .head | apply Upd.tail); done)))))
 ·simp
 intro h8 K8 _
 simp only [bk, List.set_cons_zero, List.set_cons_succ, Nat.zero_add, Nat.reduceAdd] at K8
 clear K7 l7
 (refine kr_ ?_)
 (with_reducible apply Kn.al); (exact K8); (intro b205 h9 K9 l9 hb205)
 have f205 := K9.at (.head _)
 refine Kn.growIn2 (A := [_, _, _]) K9 oI (by omega) (by omega) (by omega) ⟨b205, 0, rfl, ax f205⟩ rfl rfl fun sI' XI' h10 hnI oI' K10 l10 => ?_
 simp only [List.cons_append, List.nil_append] at K10
 clear K9 l9 hb205 f205 K8
 (((with_reducible apply Kn.wr); (assumption); ((focus ((repeat first | exact .head | apply Upd.tail); done)))))
 ·simp
 intro h11 K11 _
 simp only [bk, List.set_cons_zero, List.set_cons_succ, Nat.zero_add, Nat.reduceAdd] at K11
 clear K10 l10
 (refine kr_ ?_)
 refine Bo (hsg.mono K11.le) ok hs0 hx0 ⟨_, rfl, ?_⟩
 (with_reducible apply Kn.al); (exact K11); (intro b219 h12 K12 l12 hb219)
 (((with_reducible apply Kn.wr); (assumption); ((focus ((repeat first | exact .head | apply Upd.tail); done)))))
 ·exact Nat.le_refl _
 intro h13 K13 _
 clear K12 l12 hb219 K11
 have nd := K13.nd
 have KS : Kn g h13 ([(b219, .inl ⟨[I (σ.at_ j x : Nat)], 1, false⟩)] ++ ((b73, .inl ⟨[sS'.v, sI'.v], 2, false⟩) :: (XS' ++ (XI' ++ [])))) := by
  refine K13.sub (fun e he => ?_) ?_
  ·rcases List.mem_append.1 he with he | he
   ·rw [List.mem_singleton.1 he]; exact .head _
   ·exact .tail _ (.tail _ (.tail _ he))
  ·simp only [List.map_cons, List.nodup_cons, List.mem_cons, not_or, List.cons_append, List.nil_append] at nd ⊢
   exact ⟨⟨nd.1.2.2.1, nd.1.2.2.2⟩, nd.2.2.2⟩
 obtain ⟨KM, KF⟩ := Kn.split KS
 generalize h13.wo (List.map Prod.fst ((b73, Sum.inl ⟨[sS'.v, sI'.v], 2, false⟩) :: (XS' ++ (XI' ++ [])) : List (Nat × Blk))) = g' at *
 rw [cc (by omega) (by omega)]
 refine hnx k (by omega) _ _ ⟨g', pre ++ [(j, x)], _, _, _, σ.goes (σ.at_ j x), sS', sI', XS', XI', rfl, Hp.le_trans lg KF.le, KM, by simpa [VL] using oS', by simpa [VL] using oI', by simp; omega,
  fun c hc h'' l' R' kk => Ap ((hsg.mono KF.le).mono l') ok (l' _ _ (KF.le _ _ f4g)) (l' _ _ (KF.at (.head _))) (ar.at_lt hs0 hx0) hc kk, fun e => ?_, fun k' e => ⟨?_, ?_⟩⟩
 ·rw [<- hwit, hwk [] (fun k' e' => by omega) fun _ => rfl]
 ·rw [<- hwit, hwk _ (fun k'' e' => by obtain rfl : k'' = k' := by omega
                                       rfl) fun e' => by omega, List.append_assoc]; rfl
 ·subst e
  exact ar.onB_next hon
theorem FH {σ : ar} {fm : Nat} (hfm : fm + σ.fixed = 2 ^ σ.n - 1) : (db fm).length <= 2 ^ σ.n := by
 have := Nat.two_pow_pos σ.n
 have h1 : (db fm).length <= fm + 1 := by unfold db; have := List.length_filter_le (fun c => decide (c &&& fm = c)) (List.range (fm + 1)); simpa using this
 omega
theorem Oq {σ : ar} {fm c i : Nat} (ok : σ.Ok) (hfm : fm + σ.fixed = 2 ^ σ.n - 1) (hc : c < 2 ^ (σ.n + σ.k)) : σ.onB (i + 1) c = true ↔ σ.hold c = true /\ ∃ f, f ∈ db fm /\ σ.ahead i (σ.next c + f) = true := by
 simp only [ar.onB, Bool.and_eq_true, ar.leads, cd]
 refine and_congr_right fun _ => ?_
 constructor
 ·rintro ⟨t, ht, h1, h2⟩
  obtain ⟨f, hf, rfl⟩ := (iG ok hfm hc ht).1 h2
  exact ⟨f, hf, h1⟩
 ·rintro ⟨f, hf, h1⟩
  have hl := nM ok hfm hc hf
  exact ⟨_, hl, h1, (iG ok hfm hc hl).2 ⟨f, hf, rfl⟩⟩
set_option maxHeartbeats 1000000 in
theorem Du {h : Hp} {q : ym} {σ : ar} {d : Nat} {R : Value -> Hp -> Prop} (hq : wC h q σ) (ok : σ.Ok) (hd : d <= 256)
  (k : ∀ s h', h.le h' -> xv h' s (2 ^ σ.n) (d + 1) σ.ahead -> R (Sl.v s) h') : lJ #[A7 σ q, I d] h R := by
 apply zq
 refine uf_ ?_
 have hn := dy ok
 have hp := kD ok
 have hpos := Nat.two_pow_pos σ.n
 obtain ⟨hh, hen, hx, ⟨fm, hfm, hfl⟩, _⟩ := id hq
 have hhl := hh.len
 have hel := hen.len
 have hxl := IntS.len hx
 rw [bW, List.length_map, List.length_range] at hxl
 have hfll := IntS.len hfl
 rw [bW] at hfll
 have hfb := FH hfm
 have K0 := Kn.nil h
 (with_reducible apply Kn.al); (assumption); (intro b10 h1 K1 l1 hb10)
 have f10 := K1.at (.head _)
 have lh1 := K1.le
 clear K0 K1 hb10 l1
 refine aq (d + 1) (fun i vs h' => ∃ (out : Sl) (ts : List Sl) (X : List (Nat × Blk)) (g : Hp), vs = [I d, .pointer (some ⟨b10, 0, none⟩), out.v, I i] /\ h1.le g /\ ez X out 1 (ts.map Sl.v) /\
  ts.length = i /\ Kn g h' X /\ ∀ (j : Nat) (t : Sl), ts[j]? = some t -> cy g t (2 ^ σ.n) (σ.ahead j))
  ⟨⟨none, 0, 0⟩, [], [], h1, rfl, Hp.le_refl _, ff 1, rfl, Kn.nil h1, fun j t hj => by simp at hj⟩ ?_
 rintro i _ h2 nxt hi ⟨out, ts, X, g, rfl, lg, oX, htl, K, hT⟩ hnx
 have hon := oX.1
 rw [List.length_map, Nat.mul_one] at hon
 refine ⟨_, b10, 0, out, _, rfl, ?_⟩
 have l12 := Hp.le_trans lg K.le
 by_cases hlt : i < d + 1
 rotate_left
 ·refine ak (by rw [decide_eq_false_iff_not]; omega) ?_
  exact k out h2 (Hp.le_trans lh1 l12) ⟨ts, by omega, (oX.buf fun e he => K.mem e he).slc_of (by omega), fun j t hj => (hT j t hj).mono K.le⟩
 refine aH (by rw [decide_eq_true_eq]; omega) ?_
 have f10g := lg _ _ f10
 (refine kr_ ?_)
 refine ⟨Int.natCast_nonneg _, Int.le_refl _, by omega, by omega, ?_⟩
 (with_reducible apply Kn.al); (exact Kn.nil h2); (intro b28 h3 K3 l3 hb28)
 rw [Int.toNat_natCast, Nat.mul_one, bO, hX] at K3
 rw [Int.toNat_natCast]
 have f102 := l12 _ _ f10
 have hq2 := hq.mono (Hp.le_trans lh1 l12)
 obtain ⟨hh2, hen2, hx2, _, _⟩ := id hq2
 have hfl2 := hfl.mono (Hp.le_trans lh1 l12)
 refine aq (2 ^ (σ.n + σ.k)) (fun c vs h' => vs = [I d, .pointer (some ⟨b10, 0, none⟩), out.v, I i, (arr b28 (2 ^ σ.n)).v, I c] /\
  ∃ T, Kn h2 h' [(b28, .inl ⟨tb (2 ^ σ.n) T, 2 ^ σ.n, false⟩)] /\ ∀ x, T x = true ↔ ∃ c', c' < c /\ c' % 2 ^ σ.n = x /\ σ.onB i c' = true)
  ⟨rfl, _, K3, fun x => ⟨fun e => by simp at e, fun ⟨c', e, _⟩ => by omega⟩⟩ ?_
 clear K3 l3 hb28 h3
 rintro c _ h3 nxt2 hc ⟨rfl, T, K3, hT3⟩ hnx2
 refine ⟨_, b10, 0, out, _, arr b28 _, _, rfl, ?_⟩
 (refine kr_ ?_)
 by_cases hltc : c < 2 ^ (σ.n + σ.k)
 rotate_left
 ·refine ak (by rw [decide_eq_false_iff_not]; omega) ?_
  refine ae fun b111 h4 hb111 l4 f111 => ?_
  have K4 := K3.mono l4
  have KX := K.mono K4.le
  have hnew : cy h4 (arr b28 (2 ^ σ.n)) (2 ^ σ.n) (σ.ahead i) := gq (by omega) (K4.at (.head _)) fun s hs => by
   rw [Bool.eq_iff_iff, hT3, ar.ahead_on]
   constructor
   ·rintro ⟨c', h1, h2, h3⟩
    have hc' : c' < 2 ^ (σ.n + σ.k) := by omega
    obtain ⟨a1, a2, a3⟩ := ar.at_of hc'
    exact ⟨_, a2, by rw [<- h2, a3]; exact h3⟩
   ·rintro ⟨x, hx, h3⟩
    have := ar.at_lt hs hx
    exact ⟨_, by omega, ar.at_mod hs, h3⟩
  have hnew2 : cy (h4.wo (X.map Prod.fst)) (arr b28 (2 ^ σ.n)) (2 ^ σ.n) (σ.ahead i) := by
   have h5 : cy (h4.sub h2) (arr b28 (2 ^ σ.n)) (2 ^ σ.n) T := gq (by omega) (by rw [jH (K4.new _ (.head _))]; exact K4.at (.head _)) fun j _ => rfl
   exact Fk (h5.mono (Fx K)) fun j hj => by
    rw [Bool.eq_iff_iff, hT3, ar.ahead_on]
    constructor
    ·rintro ⟨c', h1, h2, h3⟩
     have hc' : c' < 2 ^ (σ.n + σ.k) := by omega
     obtain ⟨a1, a2, a3⟩ := ar.at_of hc'
     exact ⟨_, a2, by rw [<- h2, a3]; exact h3⟩
    ·rintro ⟨x, hx, h3⟩
     have := ar.at_lt hj hx
     exact ⟨_, by omega, ar.at_mod hj, h3⟩
  have lB := KX.leBase
  have KB := KX.base
  clear hnew
  generalize h4.wo (X.map Prod.fst) = g6 at *
  rw [show X = X ++ [] from (List.append_nil _).symm] at KB
  refine Kn.grow KB oX (by omega) (by omega) (by omega) ⟨b111, 0, rfl, ax f111⟩ rfl rfl fun out' X' h7 hn' oX' K7 l7 => ?_
  rw [az (by omega)]
  rw [List.append_nil] at K7
  refine hnx hlt _ _ ⟨out', ts ++ [arr b28 (2 ^ σ.n)], X', g6, rfl, Hp.le_trans lg lB, by rw [List.map_append]; exact oX', by simp [htl], K7, fun j u hj => ?_⟩
  by_cases e : j < ts.length
  ·rw [List.getElem?_append_left e] at hj
   exact (hT j u hj).mono lB
  ·have h1 := get_lt hj
   simp at h1
   rw [List.getElem?_append_right (by omega), show j - ts.length = 0 by omega] at hj
   simp at hj; subst hj
   rw [show j = i by omega]; exact hnew2
 refine aH (by rw [decide_eq_true_eq]; omega) ?_
 have hmod := Nat.mod_lt c hpos
 refine ap (fun J => J (decide (i = 0) && σ.ends c)) ?_ (fun J hJ => ?_)
 rotate_left
 ·refine ad (fun e => ?_) (fun e => ?_)
  ·have e0 : i = 0 := by have := beq_iff_eq.1 e; omega
   (refine kr_ ?_)
   obtain ⟨b, o, ha, e1, e2⟩ := (hen2.mono K3.le).get hltc
   refine ⟨b, o, ha, by omega, e1, _, e2, ?_⟩
   rw [decide_eq_true e0, Bool.true_and] at hJ; exact hJ
  ·have e0 : ¬ i = 0 := fun q => by rw [q] at e; simp at e
   rw [decide_eq_false e0, Bool.false_and] at hJ; exact hJ
 refine ap (fun J => ∀ h4 U, Kn h2 h4 [(b28, .inl ⟨tb (2 ^ σ.n) U, 2 ^ σ.n, false⟩)] -> (∀ x, U x = true ↔ T x = true \/ (x = c % 2 ^ σ.n /\ i = 0 /\ σ.ends c = true)) -> J h4) (fun h4 U K4 hU => ?_) (fun J hJ => ?_)
 rotate_left
 ·refine ad (fun e => ?_) (fun e => ?_)
  ·rw [Bool.and_eq_true, decide_eq_true_eq] at e
   (refine kr_ ?_)
   rw [if_neg (by omega), eX]
   refine ⟨b28, 0, rfl, by omega, by dsimp only; omega, ?_⟩
   (((with_reducible apply Kn.wr); (assumption); ((focus ((repeat first | exact .head | apply Upd.tail); done)))))
   ·rw [eW]; omega
   intro h4 K4 _
   rw [bk, Nat.zero_add, Int.toNat_natCast, Nat.mul_one, iO] at K4
   refine hJ h4 _ K4 fun x => ?_
   by_cases ex : x = c % 2 ^ σ.n
   ·rw [if_pos ex]; exact ⟨fun _ => .inr ⟨ex, e⟩, fun _ => rfl⟩
   ·rw [if_neg ex]; exact ⟨.inl, fun q => q.resolve_right fun q2 => ex q2.1⟩
  ·refine hJ h3 T K3 fun x => ⟨.inl, fun q => q.resolve_right fun ⟨_, q2, q3⟩ => ?_⟩
   rw [decide_eq_true q2, q3] at e; cases e
 clear K3
 refine aq (db fm).length (fun j vs h' => vs = [I d, .pointer (some ⟨b10, 0, none⟩), out.v, I i, (arr b28 (2 ^ σ.n)).v, I c, I j] /\
  ∃ V, Kn h2 h' [(b28, .inl ⟨tb (2 ^ σ.n) V, 2 ^ σ.n, false⟩)] /\ ∀ x, V x = true ↔ U x = true \/ (x = c % 2 ^ σ.n /\ ∃ i', i = i' + 1 /\ σ.hold c = true /\ ∃ f, f ∈ (db fm).take j /\ σ.ahead i' (σ.next c + f) = true))
  ⟨rfl, U, K4, fun x => ⟨.inl, fun q => q.resolve_right fun ⟨_, _, _, _, f, hf, _⟩ => by simp at hf⟩⟩ ?_
 clear K4 h3 h4
 rintro j _ h3 nxt3 hj ⟨rfl, V, K3, hV⟩ hnx3
 refine ⟨_, b10, 0, out, _, arr b28 _, _, _, rfl, ?_⟩
 have fin : (i = 0 \/ σ.hold c = false \/ j = (db fm).length) -> nxt2 [I d, .pointer (some ⟨b10, 0, none⟩), out.v, I i, (arr b28 (2 ^ σ.n)).v, I (W ((c : Int) + 1))] h3 := fun hend => by
  rw [az (by omega)]
  refine hnx2 hltc _ _ ⟨rfl, V, K3, fun x => ?_⟩
  have hcc : σ.onB i c = true ↔ (i = 0 /\ σ.ends c = true) \/ ∃ i', i = i' + 1 /\ σ.hold c = true /\ ∃ f, f ∈ (db fm).take j /\ σ.ahead i' (σ.next c + f) = true := by
   cases i with
   | zero =>
    refine ⟨fun q => .inl ⟨rfl, q⟩, fun q => ?_⟩
    rcases q with q | ⟨i', q, _⟩
    ·exact q.2
    ·omega
   | succ i' =>
    rw [Oq ok hfm hltc]
    constructor
    ·rintro ⟨q1, q2⟩
     rcases hend with q | q | q
     ·omega
     ·rw [q1] at q; cases q
     ·exact .inr ⟨i', rfl, q1, by rw [q, List.take_of_length_le (Nat.le_refl _)]; exact q2⟩
    ·rintro (q | ⟨i'', q, q1, f, q2, q3⟩)
     ·omega
     ·obtain rfl : i'' = i' := by omega
      exact ⟨q1, f, List.mem_of_mem_take q2, q3⟩
  rw [hV, hU, hT3]
  constructor
  ·rintro ((⟨c', q1, q⟩ | ⟨q1, q2⟩) | ⟨q1, q2⟩)
   ·exact ⟨c', by omega, q⟩
   ·exact ⟨c, by omega, q1.symm, hcc.2 (.inl q2)⟩
   ·exact ⟨c, by omega, q1.symm, hcc.2 (.inr q2)⟩
  ·rintro ⟨c', q1, q2, q3⟩
   by_cases e2 : c' = c
   ·subst e2
    rcases hcc.1 q3 with q | q
    ·exact .inl (.inr ⟨q2.symm, q⟩)
    ·exact .inr ⟨q2.symm, q⟩
   ·exact .inl (.inl ⟨c', by omega, q2, q3⟩)
 have go : ∀ c80, (c80 = true -> ∃ i', i = i' + 1 /\ σ.hold c = true /\ j < (db fm).length) -> (c80 = false -> (i = 0 \/ σ.hold c = false \/ j = (db fm).length)) -> c80 = (decide (j < (db fm).length) && (decide (0 < i) && σ.hold c)) -> True := fun _ _ _ _ => trivial
 clear go
 refine ap (fun J => J (decide (j < (db fm).length) && (decide (0 < i) && σ.hold c))) ?_ (fun J hJ => ?_)
 rotate_left
 ·(refine kr_ ?_)
  refine ad (fun e => ?_) (fun e => ?_)
  ·rw [show decide (j < (db fm).length) = true by rw [decide_eq_true_eq] at e ⊢; omega, Bool.true_and] at hJ
   refine ad (fun e2 => ?_) (fun e2 => ?_)
   ·rw [show decide (0 < i) = true by rw [decide_eq_true_eq] at e2 ⊢; omega, Bool.true_and] at hJ
    (refine kr_ ?_)
    obtain ⟨b, o, ha, e1, e2⟩ := (hh2.mono K3.le).get hltc
    exact ⟨b, o, ha, by omega, e1, _, e2, hJ⟩
   ·rw [show decide (0 < i) = false by rw [decide_eq_false_iff_not] at e2 ⊢; omega, Bool.false_and] at hJ; exact hJ
  ·rw [show decide (j < (db fm).length) = false by rw [decide_eq_false_iff_not] at e ⊢; omega, Bool.false_and] at hJ; exact hJ
 refine ad (fun e => ?_) (fun e => ?_)
 rotate_left
 ·refine fin ?_
  by_cases q0 : i = 0
  ·exact .inl q0
  ·rw [show decide (0 < i) = true by rw [decide_eq_true_eq]; omega, Bool.true_and] at e
   cases hhc : σ.hold c with
   | false => exact .inr (.inl rfl)
   | true =>
    rw [hhc, Bool.and_true, decide_eq_false_iff_not] at e
    exact .inr (.inr (by omega))
 simp only [Bool.and_eq_true, decide_eq_true_eq] at e
 obtain ⟨hlj, hi0, eH⟩ := e
 clear fin
 obtain ⟨i', rfl⟩ : ∃ i', i = i' + 1 := ⟨i - 1, by omega⟩
 have hW : W (((i' + 1 : Nat) : Int) - 1) = (i' : Nat) := by rw [cc (by omega) (by omega)]; omega
 rw [hW]
 obtain ⟨t, hti⟩ : ∃ t, ts[i']? = some t := ⟨_, List.getElem?_eq_getElem (by omega)⟩
 obtain ⟨bo, xo, hao, hbo, hco⟩ := oX.at (fun e he => K.mem e he) hti
 refine ⟨bo, 0, hao, by omega, by omega, t, by rw [Int.toNat_natCast]; exact K3.le.cell hco, ?_⟩
 (refine kr_ ?_)
 obtain ⟨b, o, ha, e1, e2⟩ := v6.get (hx2.mono K3.le) hltc
 refine ⟨b, o, ha, by omega, e1, _, e2, ?_⟩
 (refine kr_ ?_)
 obtain ⟨f, hf⟩ : ∃ f, (db fm)[j]? = some f := ⟨_, List.getElem?_eq_getElem hlj⟩
 obtain ⟨b, o, ha, e3⟩ := (hfl2.mono K3.le).get (gm hf)
 refine ⟨b, o, ha, by omega, by omega, _, e3, ?_⟩
 have hlf := nM ok hfm hltc (List.mem_of_getElem? hf)
 rw [<- Int.natCast_add, fj (by omega)]
 obtain ⟨b, o, ha, e4, e5⟩ := (((hT i' t hti).mono K.le).mono K3.le).get hlf
 refine ⟨b, o, ha, by omega, e4, _, e5, ?_⟩
 have next : ∀ V' h4, Kn h2 h4 [(b28, .inl ⟨tb (2 ^ σ.n) V', 2 ^ σ.n, false⟩)] -> (∀ x, V' x = true ↔ V x = true \/ (x = c % 2 ^ σ.n /\ σ.ahead i' (σ.next c + f) = true)) ->
   nxt3 [I d, .pointer (some ⟨b10, 0, none⟩), out.v, I (i' + 1 : Nat), (arr b28 (2 ^ σ.n)).v, I c, I (W ((j : Int) + 1))] h4 := fun V' h4 K4 hV' => by
  rw [az (by omega)]
  refine hnx3 hlj _ _ ⟨rfl, V', K4, fun x => ?_⟩
  rw [hV', hV, List.take_add_one, hf]
  constructor
  ·rintro ((q | ⟨q1, i'', q2, q3, f', q4, q5⟩) | ⟨q1, q2⟩)
   ·exact .inl q
   ·exact .inr ⟨q1, i'', q2, q3, f', List.mem_append_left _ q4, q5⟩
   ·exact .inr ⟨q1, i', rfl, eH, f, by simp, q2⟩
  ·rintro (q | ⟨q1, i'', q2, q3, f', q4, q5⟩)
   ·exact .inl (.inl q)
   ·rcases List.mem_append.1 q4 with q4 | q4
    ·exact .inl (.inr ⟨q1, i'', q2, q3, f', q4, q5⟩)
    ·simp at q4; subst q4
     obtain rfl : i'' = i' := by omega
     exact .inr ⟨q1, q5⟩
 refine ad (fun e => ?_) (fun e => ?_)
 ·(refine kr_ ?_)
  rw [if_neg (by omega), eX]
  refine ⟨b28, 0, rfl, by omega, by dsimp only; omega, ?_⟩
  (((with_reducible apply Kn.wr); (assumption); ((focus ((repeat first | exact .head | apply Upd.tail); done)))))
  ·rw [eW]; omega
  intro h4 K4 _
  rw [bk, Nat.zero_add, Int.toNat_natCast, Nat.mul_one, iO] at K4
  refine next _ h4 K4 fun x => ?_
  by_cases ex : x = c % 2 ^ σ.n
  ·rw [if_pos ex]; exact ⟨fun _ => .inr ⟨ex, e⟩, fun _ => rfl⟩
  ·rw [if_neg ex]; exact ⟨.inl, fun q => q.resolve_right fun q2 => ex q2.1⟩
 ·exact next V h3 K3 fun x => ⟨.inl, fun q => q.resolve_right fun q2 => by rw [q2.2] at e; cases e⟩
theorem Av {h : Hp} {q : ym} {σ : ar} {s x t : Nat} {R : Value -> Hp -> Prop} (hq : wC h q σ) (ok : σ.Ok) (hs : s < 2 ^ σ.n) (hx' : x < 2 ^ σ.k) (ht : t < 2 ^ σ.n) (k : R (.bool (σ.goes (σ.at_ s x) t)) h) :
  kR #[A7 σ q, I s, I x, I t] h R := by
 refine ACalls.drop (xm ?_)
 refine uf_ ?_
 have hn := dy ok
 have hk := zk ok
 have hp := kD ok
 obtain ⟨hh, hen, hx, ⟨fm, hfm, hfl⟩, _⟩ := id hq
 have hxl := IntS.len hx
 rw [bW, List.length_map, List.length_range] at hxl
 have hfll := IntS.len hfl
 rw [bW] at hfll
 have hfb := FH hfm
 have hc := ar.at_lt hs hx'
 have K0 := Kn.nil h
 (with_reducible apply Kn.al); (assumption); (intro b12 h1 K1 l1 hb12)
 clear K0 hb12
 refine aq (db fm).length (fun j vs h' => vs = [I s, I x, I t, .pointer (some ⟨b12, 0, none⟩), I j] /\ h1 = h' /\ ∀ f, f ∈ (db fm).take j -> σ.next (σ.at_ s x) + f ≠ t) ⟨rfl, rfl, fun f hf => by simp at hf⟩ ?_
 rintro j _ _ nxt hj ⟨rfl, rfl, hno⟩ hnx
 refine ⟨_, _, _, b12, 0, _, rfl, ?_⟩
 (refine kr_ ?_)
 by_cases hlj : j < (db fm).length
 ·refine aH (by rw [decide_eq_true_eq]; omega) ?_
  (refine kr_ ?_)
  (refine kr_ ?_)
  have e8 : W (W ((x : Int) * ((2 ^ σ.n : Nat) : Int)) + (s : Int)) = ((σ.at_ s x : Nat) : Int) := by
   have h2 : x * 2 ^ σ.n + s < 8192 := by unfold ar.at_ at hc; omega
   rw [<- Int.natCast_mul, fj (by omega), <- Int.natCast_add, fj (by omega)]; rfl
  rw [e8]
  obtain ⟨b, o, ha, e1, e2⟩ := v6.get (hx.mono K1.le) hc
  refine ⟨b, o, ha, by omega, e1, _, e2, ?_⟩
  (refine kr_ ?_)
  obtain ⟨f, hf⟩ : ∃ f, (db fm)[j]? = some f := ⟨_, List.getElem?_eq_getElem hlj⟩
  obtain ⟨b, o, ha, e3⟩ := (hfl.mono K1.le).get (gm hf)
  refine ⟨b, o, ha, by omega, by omega, _, e3, ?_⟩
  have hlf := nM ok hfm hc (List.mem_of_getElem? hf)
  rw [<- Int.natCast_add, fj (by omega)]
  refine ad (fun e => ?_) (fun e => ?_)
  ·refine ⟨h, K1.le, ?_⟩
   have e' := beq_iff_eq.1 e
   rw [(iG ok hfm hc ht).2 ⟨f, List.mem_of_getElem? hf, by omega⟩] at k; exact k
  ·rw [az (by omega)]
   refine hnx hlj _ _ ⟨rfl, rfl, fun f' hf' => ?_⟩
   rw [List.take_add_one, hf] at hf'
   rcases List.mem_append.1 hf' with h5 | h5
   ·exact hno f' h5
   ·simp at h5; subst h5
    intro q
    rw [<- q] at e
    simp at e
 ·refine ak (by rw [decide_eq_false_iff_not]; omega) ⟨h, K1.le, ?_⟩
  rw [show σ.goes (σ.at_ s x) t = false from by
   rw [Bool.eq_false_iff]
   intro q
   obtain ⟨f, hf, e⟩ := (iG ok hfm hc ht).1 q
   exact hno f (by rw [List.take_of_length_le (by omega)]; exact hf) e] at k
  exact k
set_option maxHeartbeats 1000000 in
theorem Ju {h : Hp} {q : ym} {σ : ar} {w : Sl} {s l m : Nat} {R : Value -> Hp -> Prop} (hq : wC h q σ) (ok : σ.Ok) (hs : s < 2 ^ σ.n) (hw : xv h w (2 ^ σ.n) m σ.ahead) (hl : l < m) (hm : m <= 1000) (ha : σ.ahead l s = true)
  (k : R (.tuple #[I (sV σ l s), I ((if l = 0 then 0 else jz σ (l - 1) (σ.goes (σ.at_ s (sV σ l s))) : Nat) : Int)]) h) : sc #[A7 σ q, I s, I l, w.v] h R := by
 refine ACalls.drop (Gs ?_)
 refine uf_ ?_
 have hn := dy ok
 have hk := zk ok
 have hp := kD ok
 obtain ⟨hh, hen, hx, _, _⟩ := id hq
 have hhl := hh.len
 have hel := hen.len
 have hwl := hw.len
 obtain ⟨hx0, hon, hnx0⟩ := ar.leastB_at (ar.ahead_on.1 ha)
 rw [show ar.leastB (2 ^ σ.k) (fun x => σ.onB l (σ.at_ s x)) = sV σ l s from rfl] at hx0 hon hnx0
 generalize sV σ l s = x0 at *
 have K0 := Kn.nil h
 (with_reducible apply Kn.al); (assumption); (intro b12 h1 K1 l1 hb12)
 clear K0 hb12
 have hq1 := hq.mono K1.le
 refine aq x0 (fun x vs h' => vs = [I s, I l, w.v, .pointer (some ⟨b12, 0, none⟩), I x] /\ h1 = h') ⟨rfl, rfl⟩ ?_
 rintro x _ _ nxt hx' ⟨rfl, rfl⟩ hnx
 refine ⟨_, _, w, b12, 0, _, rfl, ?_⟩
 (refine kr_ ?_)
 refine aH (by rw [decide_eq_true_eq]; omega) ?_
 have hat := ar.at_lt hs (show x < 2 ^ σ.k by omega)
 have e8 : W (W ((x : Int) * ((2 ^ σ.n : Nat) : Int)) + (s : Int)) = ((σ.at_ s x : Nat) : Int) := by
  have h2 : x * 2 ^ σ.n + s < 8192 := by unfold ar.at_ at hat; omega
  rw [<- Int.natCast_mul, fj (by omega), <- Int.natCast_add, fj (by omega)]; rfl
 refine ap (fun J => J (decide (l = 0) && σ.ends (σ.at_ s x))) ?_ (fun J hJ => ?_)
 rotate_left
 ·refine ad (fun e => ?_) (fun e => ?_)
  ·have e0 : l = 0 := by have := beq_iff_eq.1 e; omega
   (refine kr_ ?_)
   (refine kr_ ?_)
   rw [e8]
   obtain ⟨b, o, ha, e1, e2⟩ := (hen.mono K1.le).get hat
   refine ⟨b, o, ha, by omega, e1, _, e2, ?_⟩
   rw [decide_eq_true e0, Bool.true_and] at hJ; exact hJ
  ·have e0 : ¬ l = 0 := fun q => by rw [q] at e; simp at e
   rw [decide_eq_false e0, Bool.false_and] at hJ; exact hJ
 have skip : σ.onB l (σ.at_ s x) = false -> nxt [I s, I l, w.v, .pointer (some ⟨b12, 0, none⟩), I (W ((x : Int) + 1))] h1 := fun e => by
  rw [az (by omega)]
  refine hnx ?_ _ _ ⟨rfl, rfl⟩
  rcases Nat.lt_or_ge x x0 with q | q
  ·exact q
  ·obtain rfl : x = x0 := by omega
   rw [hon] at e; cases e
 refine ad (fun e => ?_) (fun e => ?_)
 ·rw [Bool.and_eq_true, decide_eq_true_eq] at e
  obtain ⟨rfl, e⟩ := e
  have hxe : x = x0 := by
   rcases Nat.lt_or_ge x x0 with q | q
   ·have := hnx0 x q; rw [show σ.onB 0 (σ.at_ s x) = σ.ends (σ.at_ s x) from rfl, e] at this; cases this
   ·omega
  rw [if_pos rfl, <- hxe] at k
  exact ⟨h, K1.le, k⟩
 refine ap (fun J => J (decide (l = 0) || !σ.hold (σ.at_ s x))) ?_ (fun J hJ => ?_)
 rotate_left
 ·refine ad (fun e => ?_) (fun e => ?_)
  ·have e0 : l = 0 := by have := beq_iff_eq.1 e; omega
   rw [decide_eq_true e0, Bool.true_or] at hJ; exact hJ
  ·have e0 : ¬ l = 0 := fun q => by rw [q] at e; simp at e
   rw [decide_eq_false e0, Bool.false_or] at hJ
   (refine kr_ ?_)
   (refine kr_ ?_)
   rw [e8]
   obtain ⟨b, o, ha, e1, e2⟩ := (hh.mono K1.le).get hat
   exact ⟨b, o, ha, by omega, e1, _, e2, hJ⟩
 refine ad (fun e2 => ?_) (fun e2 => ?_)
 ·refine skip ?_
  cases l with
  | zero =>
   have e3 : σ.ends (σ.at_ s x) = false := by simpa using e
   exact e3
  | succ l' =>
   have : σ.hold (σ.at_ s x) = false := by simpa using e2
   simp [ar.onB, this]
 obtain ⟨l', rfl⟩ : ∃ l', l = l' + 1 := ⟨l - 1, by
  have : ¬ l = 0 := fun q => by rw [q] at e2; simp at e2
  omega⟩
 have eH : σ.hold (σ.at_ s x) = true := by simpa using e2
 have hW : W (((l' + 1 : Nat) : Int) - 1) = (l' : Nat) := by rw [cc (by omega) (by omega)]; omega
 rw [if_neg (by omega), Nat.add_sub_cancel] at k
 refine aq (2 ^ σ.n) (fun t vs h' => vs = [I s, I (l' + 1 : Nat), w.v, .pointer (some ⟨b12, 0, none⟩), I x, I t] /\ h1 = h' /\ ∀ t', t' < t -> (σ.goes (σ.at_ s x) t' && σ.ahead l' t') = false) ⟨rfl, rfl, fun t' e => by omega⟩ ?_
 rintro t _ _ nxt2 ht ⟨rfl, rfl, hno⟩ hnx2
 refine ⟨_, _, w, b12, 0, _, _, rfl, ?_⟩
 (refine kr_ ?_)
 by_cases hlt : t < 2 ^ σ.n
 rotate_left
 ·refine ak (by rw [decide_eq_false_iff_not]; omega) ?_
  refine skip ?_
  rw [Bool.eq_false_iff]
  intro q
  obtain ⟨t', ht', q2⟩ := ar.onB_next q
  rw [hno t' (by omega)] at q2; cases q2
 refine aH (by rw [decide_eq_true_eq]; exact_mod_cast hlt) ?_
 refine ap (fun J => J (σ.goes (σ.at_ s x) t && σ.ahead l' t) h1) ?_ (fun J hJ => ?_)
 rotate_left
 ·rw [hW]
  obtain ⟨bl, ol, r, ha, h3', h4', hr⟩ := hw.get (show l' < m by omega)
  refine ⟨bl, ol, ha, by omega, by omega, r, K1.le.cell h4', ?_⟩
  obtain ⟨br, or, har, hr1, hr2⟩ := (hr.mono K1.le).get hlt
  refine ⟨br, or, har, by omega, hr1, _, hr2, ?_⟩
  refine ad (fun e3 => ?_) (fun e3 => ?_)
  ·rw [e3, Bool.and_true] at hJ
   repeat' (refine kr_ ?_)
   exact Av hq1 ok hs (by omega) hlt ⟨_, rfl, hJ⟩
  ·rw [e3, Bool.and_false] at hJ; exact hJ
 refine ad (fun e3 => ?_) (fun e3 => ?_)
 ·have hxe : x = x0 := by
   rcases Nat.lt_or_ge x x0 with q | q
   ·have h5 := hnx0 x q
    rw [Bool.and_eq_true] at e3
    have : σ.onB (l' + 1) (σ.at_ s x) = true := by
     simp only [ar.onB, Bool.and_eq_true, ar.leads, cd]
     exact ⟨eH, t, hlt, e3.2, e3.1⟩
    rw [this] at h5; cases h5
   ·omega
  subst hxe
  rw [show jz σ l' (σ.goes (σ.at_ s x)) = t from ar.leastB_of hlt e3 hno] at k
  exact ⟨h, K1.le, k⟩
 ·rw [az (by omega)]
  refine hnx2 hlt _ _ ⟨rfl, rfl, fun t' ht' => ?_⟩
  by_cases q : t' = t
  ·rw [q]; exact e3
  ·exact hno t' (by omega)
set_option maxHeartbeats 1000000 in
theorem vB {h : Hp} {q : ym} {σ : ar} {d : Nat} {R : Value -> Hp -> Prop} (hq : wC h q σ) (ok : σ.Ok) (hd : d <= 256) (hw : ∃ s, s < 2 ^ σ.n /\ (σ.begins s && σ.ahead d s) = true)
  (k : ∀ sS sI h', TrX h h' sS sI (σ.wit d σ.begins) -> R (.agg #[Sl.v sS, Sl.v sI]) h') : j6 #[A7 σ q, I d] h R := by
 apply A4
 refine uf_ ?_
 have hn := dy ok
 have K0 := Kn.nil h
 (with_reducible apply Kn.al); (assumption); (intro b10 h1 K1 l1 hb10)
 (with_reducible apply Kn.al); (assumption); (intro b12 h2 K2 l2 hb12)
 repeat' (refine kr_ ?_)
 refine Du (hq.mono K2.le) ok hd fun w h3 l3 hL => ⟨_, rfl, ?_⟩
 have hq3 := hq.mono (Hp.le_trans K2.le l3)
 have f10 := l3 _ _ (K2.at (.tail _ (.head _)))
 have f12 := l3 _ _ (K2.at (.head _))
 have hwl := hL.len
 obtain ⟨hs0, hfit, hno⟩ := ar.leastB_at hw
 have hW0 : ar.leastB (2 ^ σ.n) (fun s => σ.begins s && σ.ahead d s) = jz σ d σ.begins := rfl
 rw [hW0] at hs0 hfit hno
 clear hW0
 have hS0 : jz σ d σ.begins = jz σ d σ.begins := rfl
 generalize hse : jz σ d σ.begins = s0 at hs0 hfit hno
 clear hS0
 refine aq s0 (fun s vs h' => vs = [I d, .pointer (some ⟨b10, 0, none⟩), .pointer (some ⟨b12, 0, none⟩), w.v, I s] /\ h3 = h') ⟨rfl, rfl⟩ ?_
 rintro s _ _ nxt hs ⟨rfl, rfl⟩ hnx
 refine ⟨_, b10, 0, b12, 0, w, _, rfl, ?_⟩
 have K3 := Kn.nil h3
 refine ap (fun J => J (!(σ.begins s && σ.ahead d s))) ?_ (fun J hJ => ?_)
 rotate_left
 ·(refine kr_ ?_)
  obtain ⟨b, o, ha, e1, e2⟩ := hq3.2.2.2.2.get (show s < 2 ^ σ.n by omega)
  refine ⟨b, o, ha, by omega, e1, _, e2, ?_⟩
  refine ad (fun e => ?_) (fun e => ?_)
  ·rw [show σ.begins s = false by simpa using e] at hJ; exact hJ
  ·rw [show σ.begins s = true by simpa using e, Bool.true_and] at hJ
   obtain ⟨bl, ol, r, ha, h3', h4', hr⟩ := hL.get (show d < d + 1 by omega)
   refine ⟨bl, ol, ha, by omega, by omega, r, h4', ?_⟩
   obtain ⟨br, or, har, hr1, hr2⟩ := hr.get (show s < 2 ^ σ.n by omega)
   exact ⟨br, or, har, by omega, hr1, _, hr2, hJ⟩
 by_cases hlt : s < s0
 ·refine aH (by rw [hno s hlt]; rfl) ?_
  rw [az (by omega)]
  exact hnx hlt _ _ ⟨rfl, rfl⟩
 obtain rfl : s = s0 := by omega
 refine ak (by rw [hfit]; rfl) ?_
 clear hnx hlt hs K3
 (with_reducible apply Kn.al); (exact Kn.nil h3); (intro b54 h4 K4 l4 hb54)
 refine uA (d + 1) (fun m vs h' => ∃ (pre : List (Nat × Nat)) (cur : Nat) (fits : Nat -> Bool) (sS sI : Sl) (XS XI : List (Nat × Blk)),
  vs = [.pointer (some ⟨b10, 0, none⟩), .pointer (some ⟨b12, 0, none⟩), w.v, I cur, .pointer (some ⟨b54, 0, none⟩), I ((m : Int) - 1)] /\ Kn h3 h' ((b54, .inl ⟨[sS.v, sI.v], 2, false⟩) :: (XS ++ (XI ++ []))) /\
  ez XS sS 1 ((VL (pre.map Prod.fst)).map I) /\ ez XI sI 1 ((VL (pre.map Prod.snd)).map I) /\ pre.length + m = d + 1 /\ (m = 0 -> pre = σ.wit d σ.begins) /\
  ∀ k', m = k' + 1 -> cur = jz σ k' fits /\ pre ++ σ.wit k' fits = σ.wit d σ.begins /\ ∃ s, s < 2 ^ σ.n /\ (fits s && σ.ahead k' s) = true)
  ⟨[], s, σ.begins, ⟨none, 0, 0⟩, ⟨none, 0, 0⟩, [], [], by rw [show (((d + 1 : Nat) : Int) - 1) = d by omega], K4, ff 1, ff 1, by simp,
   fun e => by omega, fun k' e => by obtain rfl : k' = d := by omega
                                     exact ⟨hse.symm, rfl, hw⟩⟩ ?_
 clear K4 l4 hb54 h4
 rintro m _ h4 nxt ⟨pre, cur, fits, sS, sI, XS, XI, rfl, K, oS, oI, hpl, hz, hsc⟩ hnx
 refine ⟨b10, 0, b12, 0, w, _, b54, 0, _, rfl, ?_⟩
 have hpl1 := oS.1
 have hpl2 := oI.1
 simp only [List.length_map, bW, Nat.mul_one] at hpl1 hpl2
 cases m with
 | zero =>
  refine ak (by rw [decide_eq_false_iff_not]; omega) ?_
  (refine kr_ ?_)
  (refine kr_ ?_)
  have K2' := K2.mono (Hp.le_trans l3 K.le)
  (with_reducible apply Kn.wr); (exact K2'); ((focus ((repeat first | exact .head | apply Upd.tail); done)))
  ·exact Nat.le_refl _
  intro h5 K5 kp
  refine ⟨sS, by rw [af (K5.at (.head _))]; rfl, sI, by rw [af (K5.at (.head _))]; rfl, ?_⟩
  refine k sS sI h5 ?_
  rw [<- hz rfl]
  exact PK (Hp.le_trans K2.le l3) (by rw [f12]; simp) oS oI (by omega) (by omega) K K5.le kp
 | succ k =>
 rename_i kf
 obtain ⟨rfl, hwit, hex⟩ := hsc k rfl
 have hk1 : (((k + 1 : Nat) : Int) - 1) = k := by omega
 rw [hk1]
 refine aH (by rw [decide_eq_true_eq]; omega) ?_
 obtain ⟨hc0, hcf, _⟩ := ar.leastB_at hex
 rw [show ar.leastB (2 ^ σ.n) (fun s => fits s && σ.ahead k s) = jz σ k fits from rfl] at hc0 hcf
 rw [Bool.and_eq_true] at hcf
 obtain ⟨hx0, hon, _⟩ := ar.leastB_at (ar.ahead_on.1 hcf.2)
 rw [show ar.leastB (2 ^ σ.k) (fun x => σ.onB k (σ.at_ (jz σ k fits) x)) = sV σ k (jz σ k fits) from rfl] at hx0 hon
 repeat' (refine kr_ ?_)
 refine Ju (hq3.mono K.le) ok hc0 (hL.mono K.le) (by omega) (by omega) hcf.2 ⟨_, _, rfl, ?_⟩
 (refine kr_ ?_)
 (with_reducible apply Kn.al); (exact K); (intro b87 h6 K6 l6 hb87)
 have f87 := K6.at (.head _)
 refine Kn.growIn (A := [_, _]) K6 oS (by omega) (by omega) (by omega) ⟨b87, 0, rfl, ax f87⟩ rfl rfl fun sS' XS' h7 hnS oS' K7 l7 => ?_
 simp only [List.cons_append, List.nil_append] at K7
 clear K6 l6 hb87 f87 K
 (((with_reducible apply Kn.wr); (assumption); ((focus ((repeat first | exact .head | apply Upd.tail); done)))))
 ·simp
 intro h8 K8 _
 simp only [bk, List.set_cons_zero, List.set_cons_succ, Nat.zero_add, Nat.reduceAdd] at K8
 clear K7 l7
 (refine kr_ ?_)
 (with_reducible apply Kn.al); (exact K8); (intro b98 h9 K9 l9 hb98)
 have f98 := K9.at (.head _)
 refine Kn.growIn2 (A := [_, _, _]) K9 oI (by omega) (by omega) (by omega) ⟨b98, 0, rfl, ax f98⟩ rfl rfl fun sI' XI' h10 hnI oI' K10 l10 => ?_
 simp only [List.cons_append, List.nil_append] at K10
 clear K9 l9 hb98 f98 K8
 (((with_reducible apply Kn.wr); (assumption); ((focus ((repeat first | exact .head | apply Upd.tail); done)))))
 ·simp
 intro h11 K11 _
 simp only [bk, List.set_cons_zero, List.set_cons_succ, Nat.zero_add, Nat.reduceAdd] at K11
 clear K10 l10
 have nd := K11.nd
 have KS : Kn h3 h11 ((b54, .inl ⟨[sS'.v, sI'.v], 2, false⟩) :: (XS' ++ (XI' ++ []))) := by
  refine K11.sub (fun e he => .tail _ (.tail _ he)) ?_
  simp only [List.map_cons, List.nodup_cons] at nd ⊢
  exact nd.2.2
 rw [cc (by omega) (by omega)]
 refine hnx k (by omega) _ _ ⟨pre ++ [(jz σ k fits, sV σ k (jz σ k fits))], _, σ.goes (σ.at_ (jz σ k fits) (sV σ k (jz σ k fits))), sS', sI', XS', XI', rfl, KS, by simpa [VL] using oS', by simpa [VL] using oI', by simp; omega, fun e => ?_, fun k' e => ⟨?_, ?_, ?_⟩⟩
 ·subst e; exact hwit
 ·subst e; rw [if_neg (by omega)]; rfl
 ·subst e; rw [<- hwit, It, List.append_assoc]; rfl
 ·subst e
  exact ar.onB_next hon
def qp (m : aj) (x : Int) : List (Nat × Nat) := match (aQ m).depth with | some d => if aR m = 0 /\ (d : Int) <= x then (aQ m).wit d (aQ m).begins else [] | none => []
def pT (m : aj) (x : Int) : Bool := match (aQ m).depth with | some d => decide (aR m = 0 /\ (d : Int) <= x) | none => false
theorem zv {m : aj} {x : Int} (h : ¬ (aR m = 0 /\ 0 <= (aQ m).depthI /\ (aQ m).depthI <= x)) : qp m x = [] /\ pT m x = false := by
 unfold qp pT
 unfold ar.depthI at h
 cases hd : (aQ m).depth with
 | none => exact ⟨rfl, rfl⟩
 | some d =>
  rw [hd] at h
  have : ¬ (aR m = 0 /\ (d : Int) <= x) := fun q => h ⟨q.1, Int.natCast_nonneg _, q.2⟩
  exact ⟨if_neg this, decide_eq_false this⟩
theorem BB {m : aj} {x : Int} (h : aR m = 0 /\ 0 <= (aQ m).depthI /\ (aQ m).depthI <= x) : ∃ d, (aQ m).depth = some d /\ (aQ m).depthI = d /\ qp m x = (aQ m).wit d (aQ m).begins /\ pT m x = true := by
 unfold qp pT
 unfold ar.depthI at h ⊢
 cases hd : (aQ m).depth with
 | none => rw [hd] at h; exact absurd (show (0 : Int) <= -1 from h.2.1) (by decide)
 | some d =>
  rw [hd] at h
  have : aR m = 0 /\ (d : Int) <= x := ⟨h.1, h.2.2⟩
  exact ⟨d, rfl, rfl, if_pos this, decide_eq_true this⟩
abbrev KV (sS sI : Sl) (b : Bool) : Value := .tuple #[.agg #[sS.v, sI.v], .bool b]
theorem TrX.nil {h h' : Hp} (l : h.le h') : TrX h h' ⟨none, 0, 0⟩ ⟨none, 0, 0⟩ [] := ⟨[], [], ⟨rfl, by simp, .inl ⟨rfl, rfl⟩⟩, ⟨rfl, by simp, .inl ⟨rfl, rfl⟩⟩, Kn.of l⟩
theorem oY {σ : ar} (ok : σ.Ok) {d : Nat} (h : σ.depth = some d) : d <= 256 := by
 have h1 := ar.depth_lt h
 have h2 := ar.nLay_le σ
 have h3 := dy ok
 omega
theorem TrX.up {h g h1 h5 : Hp} {b6 : Nat} {sS sI : Sl} {l : List (Nat × Nat)} (t : TrX g h1 sS sI l) (lg : h.le g) (h6 : g b6 ≠ none) (l5 : h.le h5) (kp : ∀ c, c ≠ b6 -> h5 c = h1 c) : TrX h h5 sS sI l := by
 obtain ⟨XS, XI, oS, oI, K⟩ := t
 refine ⟨XS, XI, oS, oI, l5, fun e he => ?_, fun e he => aw lg (K.new e he), K.nd⟩
 have hne : e.1 ≠ b6 := by
  intro e6
  have h1 := K.new e he
  rw [e6] at h1; exact h6 h1
 rw [kp _ hne]; exact K.mem e he
theorem TrX.mono {h h1 h2 : Hp} {sS sI : Sl} {l : List (Nat × Nat)} (t : TrX h h1 sS sI l) (l12 : h1.le h2) : TrX h h2 sS sI l := by
 obtain ⟨XS, XI, oS, oI, K⟩ := t
 exact ⟨XS, XI, oS, oI, K.mono l12⟩
theorem iL.slcOf {X : List (Nat × Blk)} {h : Hp} {s : Sl} {sz : Nat} {cs : List Value} (o : iL X s sz cs) (m : ∀ e ∈ X, h e.1 = some e.2) : SlC h s sz cs := by
 refine ⟨o.2.1, o.1, ?_⟩
 rcases o.2.2 with ⟨h0, _⟩ | ⟨_, b, z, ha, rfl⟩
 ·exact .inl h0
 ·exact .inr ⟨b, 0, ha, ax (m _ (.head _))⟩
theorem TrX.ints {h h1 : Hp} {sS sI : Sl} {l : List (Nat × Nat)} (t : TrX h h1 sS sI l) : IntS h1 sS (VL (l.map Prod.fst)) /\ IntS h1 sI (VL (l.map Prod.snd)) := by
 obtain ⟨XS, XI, oS, oI, K⟩ := t
 exact ⟨oS.slcOf fun e he => K.mem e (List.mem_append_left _ he), oI.slcOf fun e he => K.mem e (List.mem_append_right _ he)⟩
theorem yE {h g : Hp} {sS sI : Sl} {l : List (Nat × Nat)} {R : Value -> Hp -> Prop} (t : TrX g h sS sI l) (hl : l.length <= 1048576)
  (k : ∀ sS sI h', TrX h h' sS sI l -> R (.agg #[Sl.v sS, Sl.v sI]) h') : kg #[.agg #[sS.v, sI.v]] h R := by
 apply wG
 refine uf_ ?_
 obtain ⟨iS, iI⟩ := t.ints
 have K0 := Kn.nil h
 (with_reducible apply Kn.al); (assumption); (intro b4 h1 K1 l1 hb4)
 (with_reducible apply Kn.al); (assumption); (intro b6 h2 K2 l2 hb6)
 repeat' (refine kr_ ?_)
 refine kX (iS.mono K2.le) (by simp [VL]; omega) fun tS h3 l3 bS => ⟨_, rfl, ?_⟩
 have K3 := K2.mono l3
 repeat' (refine kr_ ?_)
 refine kX (iI.mono K3.le) (by simp [VL]; omega) fun tI h4 l4 bI => ⟨_, rfl, ?_⟩
 have K4 := K3.mono l4
 (((with_reducible apply Kn.wr); (assumption); ((focus ((repeat first | exact .head | apply Upd.tail); done)))))
 ·exact Nat.le_refl _
 intro h5 K5 kp
 refine ⟨tS, by rw [af (K5.at (.head _))]; rfl, tI, by rw [af (K5.at (.head _))]; rfl, ?_⟩
 have nS : tS.n <= 1048576 := by have := bS.1; simp [VL] at this; omega
 have nI : tI.n <= 1048576 := by have := bI.1; simp [VL] at this; omega
 obtain ⟨XS, oS, KS⟩ := (Kn.nil h2).addOwn l3 (bS.own (by omega))
 obtain ⟨XI, oI, KI⟩ := KS.addOwn l4 (bI.own (by omega))
 rw [List.nil_append] at KI
 exact k tS tI h5 (TrX.up ⟨XS, XI, oS, oI, KI⟩ K2.le (by rw [K2.at (.head _)]; simp) K5.le kp)
theorem v5 {h : Hp} {M : MSl} {m : aj} {x : Int} {R : Value -> Hp -> Prop} (hs : aG h M m) (hm : bU m)
  (k : ∀ sS sI h', TrX h h' sS sI (qp m x) -> R (KV sS sI (pT m x)) h') : iq #[aN M, I x] h R := by
 apply AK
 refine uf_ ?_
 have K0 := Kn.nil h
 (with_reducible apply Kn.al); (assumption); (intro b8 h1 K1 l1 hb8)
 (with_reducible apply Kn.al); (assumption); (intro b10 h2 K2 l2 hb10)
 repeat' (refine kr_ ?_)
 have no : ∀ h3, Kn h h3 [(b10, .inl ⟨[.slice none 0 0, .slice none 0 0], 2, false⟩), (b8, .inl ⟨cl M, 5, false⟩)] -> ¬ (aR m = 0 /\ 0 <= (aQ m).depthI /\ (aQ m).depthI <= x) ->
   ∃ (cs : List Value) (z : Nat), h3 b10 = some (.inl ⟨cs, z, false⟩) /\ 0 + 2 <= List.length cs /\ cr (h3.row b10 (dY cs 0 [.slice none 0 0, .slice none 0 0]) z) fun h28 => ∃ s29 : Sl, Hp.cell h28 b10 0 = some s29.v /\ ∃ s30 : Sl, Hp.cell h28 b10 1 = some s30.v /\
    R (.tuple #[.agg #[s29.v, s30.v], .bool false]) h28 := by
  intro h3 K3 hn
  obtain ⟨e1, e2⟩ := zv hn
  rw [e1, e2] at k
  (((with_reducible apply Kn.wr); (assumption); ((focus ((repeat first | exact .head | apply Upd.tail); done)))))
  ·exact Nat.le_refl _
  intro h4 K4 _
  refine ⟨⟨none, 0, 0⟩, by rw [af (K4.at (.head _))]; rfl, ⟨none, 0, 0⟩, by rw [af (K4.at (.head _))]; rfl, ?_⟩
  exact k ⟨none, 0, 0⟩ ⟨none, 0, 0⟩ h4 (TrX.nil K4.le)
 refine dz (hs.mono K2.le) hm (fun h3 l3 hc => ⟨_, _, rfl, aH rfl (no h3 (K2.mono l3) fun e => hc e.1)⟩) (fun hc g bx h3 l3 hx => ⟨_, _, rfl, ak rfl ?_⟩)
 have ok := fT g
 refine i9 hx ok fun L h4 l4 hL => ⟨_, rfl, ?_⟩
 refine oO (hx.mono l4) ok hL ⟨_, rfl, ?_⟩
 have K4 := K2.mono (Hp.le_trans l3 l4)
 refine ap (fun J => J (decide (¬ (0 <= (aQ m).depthI /\ (aQ m).depthI <= x)))) ?_ (fun J hJ => ?_)
 rotate_left
 ·refine ad (fun e => ?_) (fun e => ?_)
  ·rw [show decide (¬ (0 <= (aQ m).depthI /\ (aQ m).depthI <= x)) = true from by rw [decide_eq_true_eq] at e ⊢; omega] at hJ; exact hJ
  ·rw [show decide (¬ (0 <= (aQ m).depthI /\ (aQ m).depthI <= x)) = decide ((aQ m).depthI > x) from by rw [decide_eq_false_iff_not] at e; rw [Bool.eq_iff_iff, decide_eq_true_eq, decide_eq_true_eq]; omega] at hJ; exact hJ
 refine ad (fun e => no h4 K4 fun q => (of_decide_eq_true e) q.2) (fun e => ?_)
 have e' := Decidable.not_not.1 (of_decide_eq_false e)
 obtain ⟨d, hd, hdI, e1, e2⟩ := BB ⟨hc, e'⟩
 rw [e1, e2] at k
 rw [hdI]
 refine xX (hx.mono l4) ok (oY ok hd) (ar.wit_begins hd) fun sS sI h5 t5 => ⟨_, _, rfl, ?_⟩
 refine yE t5 (by rw [GO]; have := oY ok hd; omega) fun tS tI h6 t6 => ⟨_, _, rfl, ?_⟩
 obtain ⟨_, _, _, _, K5⟩ := t5
 have l56 : h5.le h6 := by obtain ⟨_, _, _, _, K6⟩ := t6; exact K6.le
 have K6 := K4.mono (Hp.le_trans K5.le l56)
 have f10 := K4.at (.head _)
 (((with_reducible apply Kn.wr); (assumption); ((focus ((repeat first | exact .head | apply Upd.tail); done)))))
 ·exact Nat.le_refl _
 intro h7 K7 kp
 refine ⟨tS, by rw [af (K7.at (.head _))]; rfl, tI, by rw [af (K7.at (.head _))]; rfl, ?_⟩
 exact k tS tI h7 (t6.up (Hp.le_trans K4.le K5.le) (by rw [K5.le _ _ f10]; simp) K7.le kp)
theorem vT {h : Hp} {M : MSl} {m : aj} {x : Int} {R : Value -> Hp -> Prop} (hs : aG h M m) (hm : bU m)
  (k : ∀ sS sI h', TrX h h' sS sI (qp m x) -> R (KV sS sI (pT m x)) h') : mY #[aN M, I x] h R := by
 apply Ba
 refine uf_ ?_
 have K0 := Kn.nil h
 (with_reducible apply Kn.al); (assumption); (intro b8 h1 K1 l1 hb8)
 (with_reducible apply Kn.al); (assumption); (intro b10 h2 K2 l2 hb10)
 repeat' (refine kr_ ?_)
 refine ct (hs.mono K2.le) hm ⟨_, rfl, ?_⟩
 refine ad (fun e => ?_) (fun e => ?_)
 ·obtain ⟨e1, e2⟩ := zv (m := m) (x := x) fun q => eu e q.1
  rw [e1, e2] at k
  (((with_reducible apply Kn.wr); (assumption); ((focus ((repeat first | exact .head | apply Upd.tail); done)))))
  ·exact Nat.le_refl _
  intro h3 K3 _
  refine ⟨⟨none, 0, 0⟩, by rw [af (K3.at (.head _))]; rfl, ⟨none, 0, 0⟩, by rw [af (K3.at (.head _))]; rfl, ?_⟩
  exact k ⟨none, 0, 0⟩ ⟨none, 0, 0⟩ h3 (TrX.nil K3.le)
 have hc := eI e
 have ok := fT (gC hc)
 repeat' (refine kr_ ?_)
 refine jf (hs.mono K2.le) hm hc fun q h3 l3 hq => ⟨_, _, _, _, _, _, _, rfl, ?_⟩
 have K3 := K2.mono l3
 (with_reducible apply Kn.al); (exact K3); (intro b43 h4 K4 l4 hb43)
 (((with_reducible apply Kn.wr); (assumption); ((focus ((repeat first | exact .head | apply Upd.tail); done)))))
 ·exact of_decide_eq_true rfl
 intro h5 K5 kp5
 simp only [dY, List.set_cons_zero, List.set_cons_succ, Nat.zero_add, Nat.reduceAdd] at K5
 have hq5 := hq.mono (cF hb43 l4 kp5)
 clear K4 K3 kp5
 repeat' (refine kr_ ?_)
 refine mA hq5 ok ⟨_, rfl, ?_⟩
 refine ap (fun J => J (decide (¬ (0 <= (aQ m).depthI /\ (aQ m).depthI <= x)))) ?_ (fun J hJ => ?_)
 rotate_left
 ·refine ad (fun e => ?_) (fun e => ?_)
  ·rw [show decide (¬ (0 <= (aQ m).depthI /\ (aQ m).depthI <= x)) = true from by rw [decide_eq_true_eq] at e ⊢; omega] at hJ; exact hJ
  ·rw [show decide (¬ (0 <= (aQ m).depthI /\ (aQ m).depthI <= x)) = decide ((aQ m).depthI > x) from by rw [decide_eq_false_iff_not] at e; rw [Bool.eq_iff_iff, decide_eq_true_eq, decide_eq_true_eq]; omega] at hJ; exact hJ
 refine ad (fun e => ?_) (fun e => ?_)
 ·obtain ⟨e1, e2⟩ := zv (m := m) (x := x) fun q => (of_decide_eq_true e) q.2
  rw [e1, e2] at k
  (((with_reducible apply Kn.wr); (assumption); ((focus ((repeat first | exact .head | apply Upd.tail); done)))))
  ·exact of_decide_eq_true rfl
  intro h6 K6 _
  refine ⟨⟨none, 0, 0⟩, by rw [af (K6.at (.tail _ (.head _)))]; rfl, ⟨none, 0, 0⟩, by rw [af (K6.at (.tail _ (.head _)))]; rfl, ?_⟩
  exact k ⟨none, 0, 0⟩ ⟨none, 0, 0⟩ h6 (TrX.nil K6.le)
 have e' := Decidable.not_not.1 (of_decide_eq_false e)
 obtain ⟨d, hd, hdI, e1, e2⟩ := BB ⟨hc, e'⟩
 rw [e1, e2] at k
 rw [hdI]
 repeat' (refine kr_ ?_)
 refine vB hq5 ok (oY ok hd) (ar.wit_begins hd) fun sS sI h6 t6 => ⟨_, _, rfl, ?_⟩
 have l56 : h5.le h6 := by obtain ⟨_, _, _, _, K6⟩ := t6; exact K6.le
 have K6 := K5.mono l56
 have f10 := K5.at (.tail _ (.head _))
 (((with_reducible apply Kn.wr); (assumption); ((focus ((repeat first | exact .head | apply Upd.tail); done)))))
 ·exact of_decide_eq_true rfl
 intro h7 K7 kp
 refine ⟨sS, by rw [af (K7.at (.tail _ (.head _)))]; rfl, sI, by rw [af (K7.at (.tail _ (.head _)))]; rfl, ?_⟩
 exact k sS sI h7 (t6.up K5.le (by rw [f10]; simp) K7.le kp)
theorem TrX.le {h h' : Hp} {sS sI : Sl} {l : List (Nat × Nat)} (t : TrX h h' sS sI l) : h.le h' := by obtain ⟨_, _, _, _, K⟩ := t; exact K.le
theorem TrX.add {g h h' : Hp} {L : List (Nat × Blk)} {sS sI : Sl} {l : List (Nat × Nat)} (t : TrX h h' sS sI l) (K : Kn g h L) :
  ∃ XS XI, iL XS sS 1 ((VL (l.map Prod.fst)).map I) /\ iL XI sI 1 ((VL (l.map Prod.snd)).map I) /\ Kn g h' (L ++ (XS ++ XI)) := by
 obtain ⟨XS, XI, oS, oI, K'⟩ := t
 exact ⟨XS, XI, oS, oI, K.app K'.le K'.new K'.mem K'.nd⟩
section
variable {g h : Hp} {L XS XI : List (Nat × Blk)} {sS sI tS tI : Sl} {xs ys : List Int} {cS cI : List Value} {k0 : Int} {R : Value -> Hp -> Prop}
theorem GR (oS : iL XS sS 1 cS) (oI : iL XI sI 1 cI) (K : Kn g h (L ++ (XS ++ XI))) : SlC h sS 1 cS /\ SlC h sI 1 cI :=
 ⟨oS.slcOf fun e he => K.mem e (List.mem_append_right _ (List.mem_append_left _ he)), oI.slcOf fun e he => K.mem e (List.mem_append_right _ (List.mem_append_right _ he))⟩
theorem nP (h1 : IntS h sS xs /\ IntS h sI ys) (h2 : IntS h tS xs /\ IntS h tI ys) (k : R (.bool true) h) : gP #[.agg #[sS.v, sI.v], .agg #[tS.v, tI.v]] h R := by
 refine ACalls.drop (CX ?_)
 refine uf_ ?_
 have K0 := Kn.nil h
 (with_reducible apply Kn.al); (assumption); (intro b6 h3 K1 l1 hb6)
 (with_reducible apply Kn.al); (assumption); (intro b8 h4 K2 l2 hb8)
 repeat' (refine kr_ ?_)
 refine pS (h1.1.mono K2.le) (h2.1.mono K2.le) ⟨_, rfl, ak (by simp) ?_⟩
 repeat' (refine kr_ ?_)
 refine pS (h1.2.mono K2.le) (h2.2.mono K2.le) ⟨_, rfl, ak (by simp) ⟨h, K2.le, k⟩⟩
theorem w7 {A X B : List (Nat × Blk)} {s : Sl} {cs : List Value} (o : iL X s 1 cs) (K : Kn g h (A ++ (X ++ B))) (h0 : 0 <= k0) (hk : k0 + s.n <= 9223372036854775807)
  (k : ∀ h' X', iL X' s 1 (bK k0 s.n) -> Kn g h' (A ++ (X' ++ B)) -> R (I (k0 + s.n)) h') : ey #[s.v, I k0] h R := by
 have sw : ∀ Y : List (Nat × Blk), (A ++ (Y ++ B)).Perm ((A ++ B) ++ Y) := fun Y => by
  rw [List.append_assoc]
  exact List.Perm.append_left A List.perm_append_comm
 have K' := K.perm (sw X)
 refine Ep (o.own K') h0 hk fun h' l o' _ => ?_
 obtain ⟨X', oX', K2⟩ := o.mark K' l o'
 exact k h' X' oX' (K2.perm (sw X').symm)
theorem tZ {Z : List (Nat × Blk)} (oS : iL XS sS 1 cS) (oI : iL XI sI 1 cI) (K : Kn g h (L ++ (XS ++ (XI ++ Z)))) (h0 : 0 <= k0) (hk : k0 + sS.n + sI.n <= 9223372036854775807)
  (k : ∀ h' XS' XI', iL XS' sS 1 (bK k0 sS.n) -> iL XI' sI 1 (bK (k0 + sS.n) sI.n) -> Kn g h' (L ++ (XS' ++ (XI' ++ Z))) -> R (I (k0 + sS.n + sI.n)) h') : ju #[.agg #[sS.v, sI.v], I k0] h R := by
 refine zz ?_
 refine uf_ ?_
 (with_reducible apply Kn.al); (exact K); (intro b5 h1 K1 l1 hb5)
 (refine kr_ ?_)
 refine w7 (A := (b5, .inl ⟨[sS.v, sI.v], 2, false⟩) :: L) oS K1 h0 (by omega) fun h2 XS' oS' K2 => ⟨_, rfl, ?_⟩
 refine Kn.rd K2 (.head _) (x := sI) rfl ?_
 rw [<- List.append_assoc] at K2
 refine w7 oI K2 (by omega) (by omega) fun h3 XI' oI' K3 => ⟨_, rfl, ?_⟩
 rw [List.append_assoc] at K3
 have nd := K3.nd
 rw [List.cons_append, List.map_cons, List.nodup_cons] at nd
 exact k h3 XS' XI' oS' oI' (K3.sub (fun e he => .tail _ he) nd.2)
theorem od (h1 : SlC h sS 1 (bK k0 sS.n)) (h2 : SlC h sI 1 (bK (k0 + sS.n) sI.n)) (h0 : 0 <= k0) (hk : k0 + sS.n + sI.n <= 9223372036854775807)
  (k : R (I (k0 + sS.n + sI.n)) h) : gW #[.agg #[sS.v, sI.v], I k0] h R := by
 refine ACalls.drop (zn ?_)
 refine uf_ ?_
 have K0 := Kn.nil h
 (with_reducible apply Kn.al); (assumption); (intro b5 h3 K1 l1 hb5)
 (refine kr_ ?_)
 refine vq (h1.mono K1.le) h0 (by omega) ⟨_, rfl, ak (by rw [decide_eq_false_iff_not]; omega) ?_⟩
 (refine kr_ ?_)
 refine vq (h2.mono K1.le) (by omega) (by omega) ⟨_, rfl, ak (by rw [decide_eq_false_iff_not]; omega) ⟨h, K1.le, k⟩⟩
end
theorem KJ {m : aj} {x : Int} (hc : aR m = 0 -> eZ m) : (qp m x).length <= 257 := by
 unfold qp
 split
 ·rename_i d hd
  split
  ·rename_i h
   rw [GO]
   have := oY (fT (hc h.1)) hd
   omega
  ·simp
 ·simp
set_option maxHeartbeats 1000000 in
theorem FnExactBmcLeast_spec {h : Hp} {M : MSl} {m : aj} {x : Int} {R : Value -> Hp -> Prop} (hs : aG h M m) (hsz : ∀ n ∈ m.nodes, n.name.size <= 9223372036854775807)
  (k : R (.bool true) h) : k7 #[aN M, I x] h R := by
 refine ACalls.drop (r8 ?_)
 refine uf_ ?_
 have K0 := Kn.nil h
 (with_reducible apply Kn.al); (assumption); (intro b7 h1 K1 l1 hb7)
 clear K0 hb7
 repeat' (refine kr_ ?_)
 refine em (hs.mono K1.le) hsz fun r hr => ⟨_, rfl, ad (fun e => ⟨_, K1.le, k⟩) (fun e => ?_)⟩
 have hm : bU m := (hr.resolve_left (of_decide_eq_false e)).2.2
 clear hr e r
 repeat' (refine kr_ ?_)
 refine aF (hs.mono K1.le) hm fun n1 i1 x1 d1 e1 h2 KA => ⟨_, _, _, _, _, rfl, ?_⟩
 have KA' : Kn h1 h2 (dS m n1 i1 x1 d1 e1 ++ []) := by rw [List.append_nil]; exact KA
 refine vT (dg KA' hm) hm fun wS wI h3 tw => ⟨_, _, _, rfl, ?_⟩
 have l3 := tw.le
 have hI : ∀ {h' : Hp} {M' : MSl} {R' : Value -> Hp -> Prop}, aG h' M' m -> (∀ sS sI h'', TrX h' h'' sS sI (qp m x) -> R' (KV sS sI (pT m x)) h'') -> iq #[aN M', I x] h' R' := fun a b => v5 a hm b
 have hlen := KJ (m := m) (x := x) gC
 generalize qp m x = tr at *
 generalize pT m x = ob at *
 have K3 := K1.mono (Hp.le_trans KA.le l3)
 clear KA' K1
 (with_reducible apply Kn.al); (exact K3); (intro b41 h4 K4 l4 hb41)
 (((with_reducible apply Kn.wr); (assumption); ((focus ((repeat first | exact .head | apply Upd.tail); done)))))
 ·exact of_decide_eq_true rfl
 intro h5 K5 kp5
 have l35 : h3.le h5 := cF hb41 l4 kp5
 have iw5 := (tw.mono l35).ints
 have f7 := K5.at (.tail _ (.head _))
 have f41 := K5.at (.head _)
 have hs5 := hs.mono K5.le
 have l05 := K5.le
 clear tw kp5 l35 hb41 l4 K4 K3 l3 KA h4 h3 l1
 repeat' (refine kr_ ?_)
 refine aF hs5 hm fun bn bi bx bb bh h6 KB => ⟨_, _, _, _, _, rfl, ?_⟩
 clear K5
 (with_reducible apply Kn.al); (exact KB); (intro b59 h7 K7 l7 hb59)
 (((with_reducible apply Kn.wr); (assumption); ((focus ((repeat first | exact .head | apply Upd.tail); done)))))
 ·exact of_decide_eq_true rfl
 intro h8 K8 _
 clear K7 KB l7 hb59
 repeat' (refine kr_ ?_)
 have nd8 := K8.nd
 rw [List.map_cons, List.nodup_cons] at nd8
 have K8' : Kn h5 h8 (dS m bn bi bx bb bh ++ []) := K8.sub (fun e he => .tail _ (by rwa [List.append_nil] at he)) (by rw [List.append_nil]; exact nd8.2)
 refine hI (dg K8' hm) fun gS gI h9 tg => ⟨_, _, _, rfl, ?_⟩
 obtain ⟨XS, XI, oS, oI, K9⟩ := tg.add K8
 have hnS : gS.n <= 257 := by have := oS.1; simp [VL] at this; omega
 have hnI : gI.n <= 257 := by have := oI.1; simp [VL] at this; omega
 clear K8 K8' nd8 tg
 (with_reducible apply Kn.al); (exact K9); (intro b76 h10 K10 l10 hb76)
 (((with_reducible apply Kn.wr); (assumption); ((focus ((repeat first | exact .head | apply Upd.tail); done)))))
 ·exact of_decide_eq_true rfl
 intro h11 K11 _
 clear K10 K9 l10 hb76
 obtain ⟨KM, KF⟩ := Kn.split (A := [(b76, .inl ⟨[gS.v, gI.v], 2, false⟩), (b59, .inl ⟨cl (Ar m bn bi bx bb bh), 5, false⟩)]) (B := dS m bn bi bx bb bh ++ (XS ++ XI)) K11
 generalize h11.wo ((dS m bn bi bx bb bh ++ (XS ++ XI)).map Prod.fst) = gB at *
 have f76 := KF.at (.head _)
 have f59 := KF.at (.tail _ (.head _))
 replace f7 := KF.le _ _ f7
 replace f41 := KF.le _ _ f41
 have x59 := bL f59
 have x7 := bL f7
 have x76 := bL f76
 have x41 := bL f41
 have hsB := hs5.mono KF.le
 have iwB := And.intro (iw5.1.mono KF.le) (iw5.2.mono KF.le)
 have l0B := Hp.le_trans l05 KF.le
 clear KF K11 iw5 hs5 l05
 refine ap (fun J => J false h11) ?_ (fun J hJ => ?_)
 rotate_left
 ·repeat' (refine kr_ ?_)
  refine nP (GR oS oI KM) ⟨iwB.1.mono KM.le, iwB.2.mono KM.le⟩ ⟨_, rfl, ak (by simp) ?_⟩
  simpa using hJ
 refine ak rfl ?_
 repeat' (refine kr_ ?_)
 refine aF (hsB.mono KM.le) hm fun n2 i2 x2 d2 e2 h12 KC => ⟨_, _, _, _, _, rfl, ?_⟩
 have KC' : Kn h11 h12 (dS m n2 i2 x2 d2 e2 ++ []) := by rw [List.append_nil]; exact KC
 have KM12 := KM.mono KC.le
 repeat' (refine kr_ ?_)
 refine eo (dg KM12 hm) (dg KC' hm) ⟨_, rfl, ak rfl ?_⟩
 clear KC' KC KM
 repeat' (refine kr_ ?_)
 refine en KM12 hm fun h13 L' hL' KM13 r hr => ⟨_, rfl, ?_⟩
 clear KM12
 refine ap (fun J => J false h13) ?_ (fun J hJ => ?_)
 rotate_left
 ·refine ak (by simp; omega) ?_
  repeat' (refine kr_ ?_)
  refine nP (GR oS oI KM13) ⟨iwB.1.mono KM13.le, iwB.2.mono KM13.le⟩ ⟨_, rfl, ak (by simp) ?_⟩
  simpa using hJ
 refine ak rfl ?_
 repeat' (refine kr_ ?_)
 refine tZ (Z := []) oS oI (by rw [List.append_nil]; exact KM13) (by omega) (by omega) fun h14 XS' XI' oS' oI' KM14 => ⟨_, rfl, ?_⟩
 rw [List.append_nil] at KM14
 have sl14 := GR oS' oI' KM14
 clear KM13
 repeat' (refine kr_ ?_)
 refine od sl14.1 sl14.2 (by omega) (by omega) ⟨_, rfl, ak (by simp; omega) (ak (by simp) ?_)⟩
 repeat' (refine kr_ ?_)
 refine aF (hsB.mono KM14.le) hm fun n3 i3 x3 d3 e3 h15 KD => ⟨_, _, _, _, _, rfl, ?_⟩
 have KD' : Kn h14 h15 (dS m n3 i3 x3 d3 e3 ++ []) := by rw [List.append_nil]; exact KD
 refine hI (dg KD' hm) fun vS vI h16 tv => ⟨_, _, _, rfl, ?_⟩
 have KM16 := KM14.mono (Hp.le_trans KD.le tv.le)
 clear KD' KM14
 (with_reducible apply Kn.al); (exact KM16); (intro b183 h17 K17 l17 hb183)
 (((with_reducible apply Kn.wr); (assumption); ((focus ((repeat first | exact .head | apply Upd.tail); done)))))
 ·exact of_decide_eq_true rfl
 intro h18 K18 kp18
 have l1618 : h16.le h18 := cF hb183 l17 kp18
 have K18' : Kn gB h18 (((b183, .inl ⟨[vS.v, vI.v], 2, false⟩) :: L') ++ (XS' ++ XI')) := K18
 clear KM16 K17
 refine ap (fun J => J false h18) ?_ (fun J hJ => ?_)
 rotate_left
 ·repeat' (refine kr_ ?_)
  refine nP (tv.mono l1618).ints ⟨iwB.1.mono K18.le, iwB.2.mono K18.le⟩ ⟨_, rfl, ak (by simp) ?_⟩
  simpa using hJ
 refine ak rfl ?_
 repeat' (refine kr_ ?_)
 have sl18 := GR oS' oI' K18'
 refine od sl18.1 sl18.2 (by omega) (by omega) ⟨_, rfl, ak (by simp; omega) (ak (by simp) ⟨_, Hp.le_trans l0B K18.le, k⟩)⟩
structure yP where
 kind : Int
 depth : Int
 tr : List (Nat × Nat)
 bd : Bd
def VrX (h h' : Hp) (sS sI sN : Sl) (p : yP) : Prop :=
 ∃ XS XI XN, iL XS sS 1 ((VL (p.tr.map Prod.fst)).map I) /\ iL XI sI 1 ((VL (p.tr.map Prod.snd)).map I) /\ iL XN sN 3 (aW p.bd.ns) /\ Kn h h' (XS ++ (XI ++ XN))
theorem VrX.up {h g h1 h5 : Hp} {b6 : Nat} {sS sI sN : Sl} {p : yP} (t : VrX g h1 sS sI sN p) (lg : h.le g) (h6 : g b6 ≠ none) (l5 : h.le h5) (kp : ∀ c, c ≠ b6 -> h5 c = h1 c) : VrX h h5 sS sI sN p := by
 obtain ⟨XS, XI, XN, oS, oI, oN, K⟩ := t
 refine ⟨XS, XI, XN, oS, oI, oN, l5, fun e he => ?_, fun e he => aw lg (K.new e he), K.nd⟩
 have hne : e.1 ≠ b6 := by
  intro e6
  have h1 := K.new e he
  rw [e6] at h1; exact h6 h1
 rw [kp _ hne]; exact K.mem e he
theorem VrX.mono {h h1 h2 : Hp} {sS sI sN : Sl} {p : yP} (t : VrX h h1 sS sI sN p) (l12 : h1.le h2) : VrX h h2 sS sI sN p := by
 obtain ⟨XS, XI, XN, oS, oI, oN, K⟩ := t
 exact ⟨XS, XI, XN, oS, oI, oN, K.mono l12⟩
theorem VrX.le {h h' : Hp} {sS sI sN : Sl} {p : yP} (t : VrX h h' sS sI sN p) : h.le h' := by obtain ⟨_, _, _, _, _, _, K⟩ := t; exact K.le
theorem CB (sz : Nat) : iL [] ⟨none, 0, 0⟩ sz [] := ⟨by simp, by simp, .inl ⟨rfl, rfl⟩⟩
theorem VrX.ofTr {h h' : Hp} {sS sI : Sl} {l : List (Nat × Nat)} {k d : Int} (t : TrX h h' sS sI l) : VrX h h' sS sI ⟨none, 0, 0⟩ ⟨k, d, l, gL⟩ := by
 obtain ⟨XS, XI, oS, oI, K⟩ := t
 exact ⟨XS, XI, [], oS, oI, CB 3, by rw [List.append_nil]; exact K⟩
theorem VrX.nil {h h' : Hp} {k d : Int} (l : h.le h') : VrX h h' ⟨none, 0, 0⟩ ⟨none, 0, 0⟩ ⟨none, 0, 0⟩ ⟨k, d, [], gL⟩ := VrX.ofTr (TrX.nil l)
theorem VrX.add {g h h' : Hp} {L : List (Nat × Blk)} {sS sI sN : Sl} {p : yP} (t : VrX h h' sS sI sN p) (K : Kn g h L) :
  ∃ XS XI XN, iL XS sS 1 ((VL (p.tr.map Prod.fst)).map I) /\ iL XI sI 1 ((VL (p.tr.map Prod.snd)).map I) /\ iL XN sN 3 (aW p.bd.ns) /\ Kn g h' (L ++ (XS ++ (XI ++ XN))) := by
 obtain ⟨XS, XI, XN, oS, oI, oN, K'⟩ := t
 exact ⟨XS, XI, XN, oS, oI, oN, K.app K'.le K'.new K'.mem K'.nd⟩
def VrS (h : Hp) (sS sI sN : Sl) (p : yP) : Prop := IntS h sS (VL (p.tr.map Prod.fst)) /\ IntS h sI (VL (p.tr.map Prod.snd)) /\ SlC h sN 3 (aW p.bd.ns)
theorem VrS.mono {h h' : Hp} {sS sI sN : Sl} {p : yP} (l : h.le h') (t : VrS h sS sI sN p) : VrS h' sS sI sN p := ⟨t.1.mono l, t.2.1.mono l, t.2.2.mono l⟩
def MG (X : List (Nat × Blk)) (M : MSl) (m : aj) : Prop :=
 ∃ XN XI XE XB XH, X = XN ++ (XI ++ (XE ++ (XB ++ (XH ++ [])))) /\ ez XN M.no 9 (m.nodes.flatMap nodeCells) /\ ez XI M.ini 2 (m.inits.flatMap bindCells) /\ ez XE M.nex 2 (m.nexts.flatMap bindCells) /\
  ez XB M.bad 1 (m.bads.map I) /\ ez XH M.hol 1 (m.holds.map I)
abbrev noM : MSl := ⟨⟨none, 0, 0⟩, ⟨none, 0, 0⟩, ⟨none, 0, 0⟩, ⟨none, 0, 0⟩, ⟨none, 0, 0⟩⟩
abbrev noP : aj := ⟨[], [], [], [], []⟩
theorem MG.nil : MG [] noM noP := ⟨[], [], [], [], [], rfl, ff 9, ff 2, ff 2, ff 1, ff 1⟩
section
variable {g h : Hp} {A X : List (Nat × Blk)} {M : MSl} {m : aj}
theorem ez.slcOf {X : List (Nat × Blk)} {s : Sl} {sz : Nat} {cs : List Value} (o : ez X s sz cs) (hn : s.n <= 9223372036854775807) (m : ∀ e ∈ X, h e.1 = some e.2) : SlC h s sz cs := (o.buf m).slc_of hn
theorem MG.lens (o : MG X M m) : M.no.n = m.nodes.length /\ M.ini.n = m.inits.length /\ M.nex.n = m.nexts.length /\ M.bad.n = m.bads.length /\ M.hol.n = m.holds.length /\ M.no.n <= M.no.c := by
 obtain ⟨XN, XI, XE, XB, XH, _, a, b, c, d, e⟩ := o
 have h1 := a.1; have h2 := b.1; have h3 := c.1; have h4 := d.1; have h5 := e.1; have h6 := a.2.1
 rw [gi (m := 9) (fun _ => rfl)] at h1
 rw [gi (m := 2) (fun _ => rfl)] at h2 h3
 rw [List.length_map] at h4 h5
 omega
theorem MG.blk (o : MG X M m) (hn : 0 < m.nodes.length) : ∃ b x, M.no.a = some ⟨b, 0, none⟩ /\ (b, x) ∈ X := by
 have hl := o.lens
 obtain ⟨XN, XI, XE, XB, XH, rfl, a, _⟩ := o
 rcases a.2.2 with ⟨_, h0, _⟩ | ⟨b, ha, rfl⟩
 ·rw [h0] at hl; have := hl.1; dsimp only at this; omega
 ·exact ⟨b, _, ha, List.mem_append_left _ (.head _)⟩
end
section
variable {g h : Hp} {L L' : List (Nat × Blk)} {b : Nat} {M M' : MSl}
end
theorem Upd.app {L L' X : List (Nat × Blk)} {b : Nat} {x y : Blk} (u : Upd L b x y L') : Upd (L ++ X) b x y (L' ++ X) := by
 induction u with
 | head => exact .head
 | tail _ ih => exact .tail ih
inductive Pk {α : Type} : List α -> α -> List α -> Prop
 | head {L : List α} {a : α} : Pk (a :: L) a L
 | tail {L L' : List α} {a e : α} : Pk L a L' -> Pk (e :: L) a (e :: L')
theorem Pk.perm {α : Type} {L L' : List α} {a : α} (u : Pk L a L') : L.Perm (a :: L') := by
 induction u with
 | head => exact List.Perm.refl _
 | tail _ ih => exact (List.Perm.cons _ ih).trans (List.Perm.swap ..)
end Go.Lead
