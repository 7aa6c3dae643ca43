/- What functions of the program and of the reference come to, walked one by one, and plain laws about it: part 4. No condition is added to the statement. -/
import Derived.Test.YtlfhohhpeklnkaaGreatZ2
namespace Go.Lead
open Go
set_option linter.unusedSimpArgs false
set_option linter.unusedVariables false
set_option maxRecDepth 100000
set_option maxHeartbeats 1000000
def dT (f:Nat->Bool) (c n:Nat):List Value:=(List.range n).map fun i=> .bool (decide (i<c)&&f i)
def kX (f:Nat->Nat) (c n:Nat):List Value:=(List.range n).map fun i=>I ((if i<c then f i else 0:Nat):Int)
theorem yn (f:Nat->Bool) (c n:Nat):(dT f c n).length=n:=by simp [dT]
theorem Pd (f:Nat->Nat) (c n:Nat):(kX f c n).length=n:=by simp [kX]
theorem ly (f:Nat->Bool) (n:Nat):List.replicate n (.bool false)=dT f 0 n:=by
 apply List.ext_getElem
 ·simp [dT]
 ·intro i h1 h2;simp [dT]
theorem Ej (f:Nat->Nat) (n:Nat):List.replicate n (I 0)=kX f 0 n:=by
 apply List.ext_getElem
 ·simp [kX]
 ·intro i h1 h2;simp [kX]
theorem yb {f:Nat->Bool} {c n:Nat} (h:c<n):(dT f c n).set c (.bool (f c))=dT f (c+1) n:=by
 apply List.ext_getElem
 ·simp [dT]
 ·intro i h1 h2
  simp only [dT,List.getElem_set,List.getElem_map,List.getElem_range]
  by_cases e:c=i
  ·subst e;simp
  ·rw [if_neg e]
   have:decide (i<c)=decide (i<c+1):=by rw [Bool.eq_iff_iff,decide_eq_true_eq,decide_eq_true_eq];omega
   rw [this]
theorem Pz {f:Nat->Nat} {c n:Nat} (h:c<n):(kX f c n).set c (I (f c:Nat))=kX f (c+1) n:=by
 apply List.ext_getElem
 ·simp [kX]
 ·intro i h1 h2
  simp only [kX,List.getElem_set,List.getElem_map,List.getElem_range]
  by_cases e:c=i
  ·subst e;simp
  ·rw [if_neg e]
   by_cases h:i<c
   ·rw [if_pos h,if_pos (by omega)]
   ·rw [if_neg h,if_neg (by omega)]
theorem yc (f:Nat->Bool) (n:Nat):dT f n n=((List.range n).map f).map Value.bool:=by
 apply List.ext_getElem
 ·simp [dT]
 ·intro i h1 h2
  have hi:i<n:=by simpa [dT] using h1
  simp [dT,hi]
theorem Pj (f:Nat->Nat) (n:Nat):kX f n n=(VL ((List.range n).map f)).map I:=by
 apply List.ext_getElem
 ·simp [kX,VL]
 ·intro i h1 h2
  have hi:i<n:=by simpa [kX] using h1
  simp [kX,VL,hi]
theorem gE.keep {h h':Hp} {s:Sl} {vs:List (List Nat)} {b z:Nat} {cs:List Value} {ro:Bool} (e:gE h s vs) (f:h b=some (.inl ⟨cs,z,ro⟩)) (hn:wP cs) (hsl: ∀(j:Nat) (t:Sl),cs[j]?≠some t.v) (kp: ∀c,c≠b->h' c=h c):gE h' s vs:=by
 refine⟨e.1,e.2.1,fun p hp=>?_⟩
 obtain⟨b',o,t,h1,h2,h3⟩:=e.2.2 p hp
 refine⟨b',o,t,h1,?_,h3.keepN f hn kp⟩
 have hne:b'≠b:=by
  rintro rfl
  rw [aq f]at h2
  exact hsl _ _ h2
 unfold Hp.cell at h2⊢
 rw [kp b' hne];exact h2
theorem D4 (f:Nat->Bool) (c n:Nat):wP (dT f c n):=by
 intro j i h
 simp only [dT,List.getElem?_map,Option.map_eq_some_iff]at h
 obtain⟨a,_,h⟩:=h
 cases h
theorem Ic (f:Nat->Bool) (c n:Nat): ∀(j:Nat) (t:Sl),(dT f c n)[j]?≠some t.v:=by
 intro j t h
 simp only [dT,List.getElem?_map,Option.map_eq_some_iff]at h
 obtain⟨a,_,h⟩:=h
 cases h
abbrev Nb (M:MSl) (n k:Int) (st hold bad:Sl) (fixed:Int) (next:Sl) (bf ba:Int):List Value:= [M.no.v,M.ini.v,M.nex.v,M.bad.v,M.hol.v,I n,I k,st.v,hold.v,bad.v,I fixed,next.v,I bf,I ba]
abbrev arr (b n:Nat):Sl:=⟨some ⟨b,0,none⟩,n,n⟩
def tC (m:ah) (bH bB bN c:Nat):List (Nat×Blk):=
 [(bH, .inl ⟨dT (aG m).hold c (2^(ak m.nodes 36+ak m.nodes 35)),2^(ak m.nodes 36+ak m.nodes 35),false⟩),
  (bB, .inl ⟨dT (aG m).bad c (2^(ak m.nodes 36+ak m.nodes 35)),2^(ak m.nodes 36+ak m.nodes 35),false⟩),
  (bN, .inl ⟨kX (aG m).next c (2^(ak m.nodes 36+ak m.nodes 35)),2^(ak m.nodes 36+ak m.nodes 35),false⟩)]
theorem AD (m:ah) (v:List (List Nat)):decide (xX m v>=0)=(qD m v).isSome:=by
 unfold xX
 cases qD m v with
 |none=>rfl
 |some d=>simp
theorem CC {g h:Hp} {M:MSl} {m:ah} {st t:Sl} {b7 b103 bx bH bB bN c:Nat} {n k f0 f1 f2:Int} {z1 z2 z3:Nat} {R:Value->Hp->Prop} (hs:aO g M m) (hm:bW m) (gd:dj m)
  (f7:g b7=some (.inl ⟨aw M,z1,false⟩)) (f103:g b103=some (.inl ⟨[.pointer (some ⟨bx,0,none⟩)],z2,false⟩))
  (fx:g bx=some (.inl ⟨Nb M n k st (arr bH (2^(ak m.nodes 36+ak m.nodes 35))) (arr bB (2^(ak m.nodes 36+ak m.nodes 35))) f0 (arr bN (2^(ak m.nodes 36+ak m.nodes 35))) f1 f2,z3,false⟩))
  (hst:IntS g st (VL (stP m))) (hc:c<2^(ak m.nodes 36+ak m.nodes 35)) (K:Kn g h (tC m bH bB bN c))
  (hpv:gE h t (cl m (c%2^ak m.nodes 36) (c/2^ak m.nodes 36)))
  (kk: ∀h',Kn (h.wo [bH,bB,bN]) h' (tC m bH bB bN (c+1))->R (.tuple #[]) h'):
  rk #[I c,t.v, .pointer (some ⟨b7,0,none⟩), .pointer (some ⟨b103,0,none⟩)] h R:=by
 apply zJ
 refine uf_ ?_
 have a:Cu m (cl m (c%2^ak m.nodes 36) (c/2^ak m.nodes 36)):=eD gd _ _
 have hp13:=On gd
 have hv1:(aG m).hold c=gY m (cl m (c%2^ak m.nodes 36) (c/2^ak m.nodes 36)):=rfl
 have hv2:(aG m).bad c=(qD m (cl m (c%2^ak m.nodes 36) (c/2^ak m.nodes 36))).isSome:=rfl
 have hv3:(aG m).next c=dY m.nodes (stP m) (eG m (cl m (c%2^ak m.nodes 36) (c/2^ak m.nodes 36))):=rfl
 generalize hv:cl m (c%2^ak m.nodes 36) (c/2^ak m.nodes 36)=v at*
 generalize hN:2^(ak m.nodes 36+ak m.nodes 35)=N at*
 have lg:g.le (h.wo [bH,bB,bN]):=K.leBase
 have K0:Kn (h.wo [bH,bB,bN]) h (tC m bH bB bN c):=K.base
 unfold tC at K0 kk
 rw [hN]at K0 kk
 clear K
 have hs':=hs.mono lg
 have f7':=lg _ _ f7
 have f103':=lg _ _ f103
 have fx':=lg _ _ fx
 have hst':=hst.mono lg
 have x7:=eZ f7'
 have x103:=eZ f103'
 have xx:=eZ fx'
 generalize h.wo [bH,bB,bN]=g1 at*
 clear lg fx f103 f7 hst hs
 repeat' (refine kr_ ?_)
 refine FZ (hs'.mono K0.le) gd hpv a ⟨_,rfl,?_⟩
 repeat' (refine kr_ ?_)
 refine⟨by omega,by dsimp only;omega,?_⟩
 (((with_reducible apply Kn.wr);(assumption);((focus ((repeat first|exact .head|apply Upd.tail);done)))))
 ·rw [yn];omega
 intro h24 K1 kp1
 have hpv1:=hpv.keep (K0.at (.head _)) (D4 _ _ _) (Ic _ _ _) kp1
 rw [<-hv1,bG,Nat.zero_add,Int.toNat_natCast,Nat.mul_one,yb hc]at K1
 repeat' (refine kr_ ?_)
 refine N9 (hs'.mono K1.le) gd hpv1 a ⟨_,rfl,?_⟩
 repeat' (refine kr_ ?_)
 refine⟨by omega,by dsimp only;omega,?_⟩
 (((with_reducible apply Kn.wr);(assumption);((focus ((repeat first|exact .head|apply Upd.tail);done)))))
 ·rw [yn];omega
 intro h42 K2 kp2
 have hpv2:=hpv1.keep (K1.at (.tail _ (.head _))) (D4 _ _ _) (Ic _ _ _) kp2
 rw [AD,<-hv2,bG,Nat.zero_add,Int.toNat_natCast,Nat.mul_one,yb hc]at K2
 repeat' (refine kr_ ?_)
 refine DV (hs'.mono K2.le) hm gd hpv2 a fun out h63 l63 hout=>⟨out,rfl,?_⟩
 have K3:=K2.mono l63
 repeat' (refine kr_ ?_)
 refine Dc (hs'.mono K3.le) hm gd.ok (hst'.mono K3.le) (cO gd 36) (jc gd 36) hout (nf gd a.fit) (by rw [fo gd];have:=gd.n8;omega) ⟨_,rfl,?_⟩
 repeat' (refine kr_ ?_)
 refine⟨by omega,by dsimp only;omega,?_⟩
 (((with_reducible apply Kn.wr);(assumption);((focus ((repeat first|exact .head|apply Upd.tail);done)))))
 ·rw [Pd];omega
 intro h72 K4 kp4
 rw [<-hv3,bG,Nat.zero_add,Int.toNat_natCast,Nat.mul_one,Pz hc]at K4
 exact kk h72 K4
def Bg (h:Hp) (t:Sl) (n:Nat) (f:Nat->Nat):Prop:=IntS h t (VL ((List.range n).map f))
theorem Bg.mono {h h':Hp} {t:Sl} {n:Nat} {f:Nat->Nat} (l:h.le h') (e:Bg h t n f):Bg h' t n f:=SlC.mono l e
def pj (h:Hp) (b:Nat) (σ:aD):Prop:= ∃(M:MSl) (st hold bad next:Sl),h b=some (.inl ⟨Nb M σ.n σ.k st hold bad σ.fixed next σ.bfix σ.bas,14,false⟩)/\
 dc h hold (2^(σ.n+σ.k)) σ.hold/\dc h bad (2^(σ.n+σ.k)) σ.bad/\Bg h next (2^(σ.n+σ.k)) σ.next
theorem pj.mono {h h':Hp} {b:Nat} {σ:aD} (l:h.le h') (e:pj h b σ):pj h' b σ:=by
 obtain⟨M,st,hold,bad,next,h1,h2,h3,h4⟩:=e
 exact⟨M,st,hold,bad,next,l _ _ h1,h2.mono l,h3.mono l,h4.mono l⟩
theorem Sy {g h:Hp} {L:List (Nat×Blk)} {M:MSl} {m:ah} {kind:Int} {R:Value->Hp->Prop} (K:Kn g h L) (hs:aO g M m) (hm:bW m) (gd:dj m)
  (k: ∀t h' g',Kn g' h' L->IntS g' t (VL (aH m.nodes kind))->g.le g'->h.le h'->R (Sl.v t) h'):bO #[aQ M,I kind] h R:=
 mK (hs.mono K.le) hm fun t h' l hn hb=>by
  have l':=Hp.le_trans l (bz _ _)
  have K':=K.mono l'
  refine k t h' _ K'.base ?_ K'.leBase l'
  have:=gd.nl
  exact(hb.wo l K.has).slc_of (by omega)
def Dj (m:ah) (j p:Nat):List Nat:=((cf (m.inits.take j) p).map fun k=>nw (aK m.nodes p) ((nW m).getD k [])).getD (List.replicate (aK m.nodes p) 0)
theorem Wi (m:ah) (p:Nat):Dj m m.inits.length p=(eA m p).getD (List.replicate (aK m.nodes p) 0):=by
 unfold Dj eA;rw [List.take_length]
theorem RL {m:ah} (g:dj m) {j:Nat} {b:BindP} (hb:m.inits[j]?=some b) (p:Nat):Dj m (j+1) p=if b.state=(p:Int)then nw (aK m.nodes p) ((nW m).getD b.node.toNat [])else Dj m j p:=by
 unfold Dj
 rw [Im (qJ g.twice).2.1 hb]
 split<;>rfl
theorem S4 (m:ah) {i p:Nat} (h:(stP m)[i]?=some p):(iG m).getD i []=Dj m m.inits.length p:=by
 rw [Wi]
 unfold iG kJ
 rw [List.getD_eq_getElem?_getD,List.getElem?_map,h];rfl
theorem vb {m:ah} (g:dj m) {b:BindP} (hb:b∈m.inits):0<=b.node/\b.node<m.nodes.length/\0<((nW m).getD b.node.toNat []).length/\((nW m).getD b.node.toNat []).length<=4/\0<=b.state/\b.state<m.nodes.length:=by
 obtain⟨q1,q2,q3,q4,_⟩:=pR (g.ini b hb)
 have q2':=fD.1 q2
 have q1':=fD.1 q1
 have hf:=(yr g).fit b.node.toNat (by omega) (by omega)
 have:=(uT g.ok (show b.node.toNat<m.nodes.length by omega) hf).1
 refine⟨q2'.1,q2'.2,hf.pos,?_,q1'.1,q1'.2⟩
 rw [this];exact dq _ _
set_option maxHeartbeats 4000000 in
theorem fj {h:Hp} {M:MSl} {m:ah} {R:Value->Hp->Prop} (hs:aO h M m) (hm:bW m)
  (k0: ∀h',h.le h'->ax m≠0->R (.tuple #[.pointer none, .bool false]) h')
  (k1:ax m=0->dj m-> ∀b h',h.le h'->pj h' b (aG m)->R (.tuple #[.pointer (some ⟨b,0,none⟩), .bool true]) h'):dr #[aQ M] h R:=by
 apply C3
 refine uf_ ?_
 have K0:=Kn.nil h
 (with_reducible apply Kn.al);(assumption);(intro b7 h1 K1 l1 hb7)
 repeat' (refine kr_ ?_)
 refine lO (hs.mono l1) hm ⟨_,rfl,ac (fun e=>k0 h1 l1 (ib e)) (fun e=>?_)⟩
 have hcode:=fV e
 have gd:=cr hcode
 replace k1:=k1 hcode gd
 clear k0 e hcode l1 hb7 K0
 have hn8:=gd.n8
 have hk5:=gd.k5
 have hp13:=On gd
 have hp13':=bK (ak m.nodes 36+ak m.nodes 35)
 refine ap (fun J=> ∀(bp bx:Nat) (h' g':Hp) (t:Sl) (L0:List (Nat×Blk)),Kn g' h' L0->(bp, .inl ⟨[.pointer (some ⟨bx,0,none⟩)],1,false⟩)∈L0->
  (bx, .inl ⟨Nb M (ak m.nodes 36) (ak m.nodes 35) t ⟨none,0,0⟩ ⟨none,0,0⟩ 0 ⟨none,0,0⟩ 0 0,14,false⟩)∈L0->(b7, .inl ⟨aw M,5,false⟩)∈L0->h.le g'->IntS g' t (VL (stP m))->J bp 0 h') ?_ (fun J hJ=>?_)
 rotate_left
 ·repeat' (first
   |(refine kr_ ?_)
   |(refine fu (hs.mono (Kn.le (by assumption))) hm ⟨_,rfl,?_⟩)
   |(refine Sy (by assumption) hs hm gd fun _ _ _ _ _ _ _=>⟨_,rfl,?_⟩)
   |((with_reducible apply Kn.al);(assumption);(intro _ _ _ _ _))
   |((((with_reducible apply Kn.wr);(assumption);((focus ((repeat first|exact .head|apply Upd.tail);done)))));(exact Nat.le_refl _);(intro _ _ _))
   |((with_reducible apply hJ)<;>first|assumption|((focus ((repeat first|exact .head _|apply List.Mem.tail);done))))
   |(refine And.intro ?_ ?_))
 intro bp bx h2 g2 st L0 K2' mp mx m7 l2 hst
 have K2:Kn g2 h2 [(bp, .inl ⟨[.pointer (some ⟨bx,0,none⟩)],1,false⟩),(bx, .inl ⟨Nb M (ak m.nodes 36) (ak m.nodes 35) st ⟨none,0,0⟩ ⟨none,0,0⟩ 0 ⟨none,0,0⟩ 0 0,14,false⟩),(b7, .inl ⟨aw M,5,false⟩)]:=by
  refine K2'.sub (fun e he=>?_) ?_
  ·simp only [List.mem_cons,List.not_mem_nil,or_false]at he
   rcases he with rfl|rfl|rfl<;>assumption
  ·have n1:=dQ (K2'.at mp) (K2'.at mx) (by simp)
   have n2:=dQ (K2'.at mp) (K2'.at m7) (by simp)
   have n3:=dQ (K2'.at mx) (K2'.at m7) (by simp)
   simp [n1,n2,n3]
 clear K2' mp mx m7 L0 K1
 have hs2:=hs.mono l2
 repeat' (refine kr_ ?_)
 rw [bU (n:=((ak m.nodes 36:Nat):Int)+((ak m.nodes 35:Nat):Int)) (by omega) (by omega),if_neg (by omega),<-Int.natCast_add,bJ (by omega)]
 generalize hN:2^(ak m.nodes 36+ak m.nodes 35)=N at*
 have tN:Int.toNat (N:Int)=N:=Int.toNat_natCast N
 have nN:N*1=N:=Nat.mul_one N
 have zB:aR #[.bool false] N=dT (aG m).hold 0 N:=by rw [cn,ly]
 have zI:aR #[I 0] N=kX (aG m).next 0 N:=by rw [cn,Ej]
 simp only [tN,nN,zB,zI]
 clear tN nN zB zI
 refine ap (fun J=> ∀(bH bB bN:Nat) (h':Hp) (L0:List (Nat×Blk)),Kn g2 h' L0->(bp, .inl ⟨[.pointer (some ⟨bx,0,none⟩)],1,false⟩)∈L0->
  (bx, .inl ⟨Nb M (ak m.nodes 36) (ak m.nodes 35) st (arr bH N) (arr bB N) 0 (arr bN N) 0 0,14,false⟩)∈L0->(b7, .inl ⟨aw M,5,false⟩)∈L0->
  (bH, .inl ⟨dT (aG m).hold 0 N,N,false⟩)∈L0->(bB, .inl ⟨dT (aG m).hold 0 N,N,false⟩)∈L0->(bN, .inl ⟨kX (aG m).next 0 N,N,false⟩)∈L0->(bH≠bB/\bH≠bN/\bB≠bN)->J h') ?_ (fun J hJ=>?_)
 rotate_left
 ·repeat' (first
   |(refine kr_ ?_)
   |((with_reducible apply Kn.al);(assumption);(intro _ _ _ _ _))
   |(refine And.intro (by omega) ?_)
   |((((with_reducible apply Kn.wr);(assumption);((focus ((repeat first|exact .head|apply Upd.tail);done)))));(exact of_decide_eq_true rfl);(intro _ _ _))
   |((with_reducible apply hJ)<;>first|assumption|((focus ((repeat first|exact .head _|apply List.Mem.tail);done)))|((have hnd:=Kn.nd (by assumption);simp only [List.map_cons,List.map_nil,List.nodup_cons,List.mem_cons,List.not_mem_nil,not_or,or_false,not_false_eq_true,and_true,List.nodup_nil]at hnd;omega)))
   |(refine And.intro ?_ ?_))
 intro bH bB bN h3 L0 K3' mp mx m7 mH mB mN hne
 have e0:dT (aG m).hold 0 N=dT (aG m).bad 0 N:=by rw [<-ly,<-ly]
 rw [e0]at mB
 have n1:=dQ (K3'.at mp) (K3'.at mx) (by simp)
 have n2:=dQ (K3'.at mp) (K3'.at m7) (by simp)
 have n3:=dQ (K3'.at mx) (K3'.at m7) (by simp)
 have hb1: ∀b∈ [bH,bB,bN],g2 b=none:=by
  intro b hb
  simp only [List.mem_cons,List.not_mem_nil,or_false]at hb
  rcases hb with rfl|rfl|rfl
  ·exact K3'.new _ mH
  ·exact K3'.new _ mB
  ·exact K3'.new _ mN
 have h0b:(dT (aG m).hold 0 N)[0]?=some (.bool false):=by rw [<-ly,List.getElem?_replicate,if_pos hp13']
 have h0b2:(dT (aG m).bad 0 N)[0]?=some (.bool false):=by rw [<-ly,List.getElem?_replicate,if_pos hp13']
 have h0n:(kX (aG m).next 0 N)[0]?=some (I 0):=by rw [<-Ej,List.getElem?_replicate,if_pos hp13']
 have dif: ∀{b c:Nat} {cs ds:List Value} {z y:Nat} {v w:Value},(b, .inl ⟨cs,z,false⟩)∈L0->(c, .inl ⟨ds,y,false⟩)∈L0->cs[0]?=some v->ds[0]?=some w->v≠w->b≠c:=by
  intro b c cs ds z y v w hb hc e1 e2 hvw hbc
  subst hbc
  have:=(K3'.at hb).symm.trans (K3'.at hc)
  simp only [Option.some.injEq,Sum.inl.injEq,Row.mk.injEq]at this
  rw [this.1,e2]at e1
  exact hvw (Option.some.inj e1).symm
 have K3:Kn g2 h3 (tC m bH bB bN 0++ [(bp, .inl ⟨[.pointer (some ⟨bx,0,none⟩)],1,false⟩),(bx, .inl ⟨Nb M (ak m.nodes 36) (ak m.nodes 35) st (arr bH N) (arr bB N) 0 (arr bN N) 0 0,14,false⟩),(b7, .inl ⟨aw M,5,false⟩)]):=by
  refine K3'.sub (fun e he=>?_) ?_
  ·simp only [tC,hN,List.mem_append,List.mem_cons,List.not_mem_nil,or_false]at he
   rcases he with (rfl|rfl|rfl)|rfl|rfl|rfl<;>assumption
  ·have a1:=dif mH mp h0b rfl (by simp)
   have a2:=dif mH mx h0b rfl (by simp)
   have a3:=dif mH m7 h0b rfl (by simp)
   have a4:=dif mB mp h0b2 rfl (by simp)
   have a5:=dif mB mx h0b2 rfl (by simp)
   have a6:=dif mB m7 h0b2 rfl (by simp)
   have a7:=dif mN mp h0n rfl (by simp)
   have a8:=dif mN mx h0n rfl (by simp)
   have a9:=dif mN m7 h0n rfl (by simp)
   simp [tC,hne.1,hne.2.1,hne.2.2,n1,n2,n3,a1,a2,a3,a4,a5,a6,a7,a8,a9]
 clear dif h0b h0b2 h0n e0 n1 n2 n3 mp mx m7 mH mB mN K3' L0 K2
 have Kf:Kn g2 h3 (tC m bH bB bN 0):=K3.sub (fun e he=>List.mem_append_left _ he) (by simp [tC,hne.1,hne.2.1,hne.2.2])
 have nB: ∀b∈ [bp,bx,b7],b∉ [bH,bB,bN]:=by
  have hnd:=K3.nd
  simp only [tC,List.cons_append,List.nil_append,List.map_cons,List.map_nil,List.nodup_cons,List.mem_cons,List.not_mem_nil,not_or,or_false,not_false_eq_true,and_true,List.nodup_nil]at hnd
  intro b hb hb2
  simp only [List.mem_cons,List.not_mem_nil,or_false]at hb hb2
  omega
 have f7:(h3.wo [bH,bB,bN]) b7=some (.inl ⟨aw M,5,false⟩):=by
  rw [sk (nB _ (by simp))];exact K3.at (by simp)
 have fp:(h3.wo [bH,bB,bN]) bp=some (.inl ⟨[.pointer (some ⟨bx,0,none⟩)],1,false⟩):=by
  rw [sk (nB _ (by simp))];exact K3.at (by simp)
 have fx:(h3.wo [bH,bB,bN]) bx=some (.inl ⟨Nb M (ak m.nodes 36) (ak m.nodes 35) st (arr bH N) (arr bB N) 0 (arr bN N) 0 0,14,false⟩):=by
  rw [sk (nB _ (by simp))];exact K3.at (by simp)
 have lB:g2.le (h3.wo [bH,bB,bN]):=Kf.leBase
 have hsB:=hs2.mono lB
 have hstB:=hst.mono lB
 have Kr:=Kn.of (wO h3 [bH,bB,bN])
 repeat' (refine kr_ ?_)
 subst hN
 refine Tt (B:= [bH,bB,bN]) (st:=fun c h'=>Kn (h3.wo [bH,bB,bN]) h' (tC m bH bB bN c)) hsB hm gd Kf.has (fun c h1 h2 K l=>K.mono l) Kf.base (fun c hc h4 t l4 K hpv R' hR'=>?_) (fun h4 l4 K4=>⟨rfl,?_⟩)
 ·exact CC hsB hm gd f7 fp fx hstB hc K hpv fun h5 K5=>hR' h5 ⟨Hp.le_trans K.leBase K5.le,K5.mem,fun e he=>by
   have:=K5.nd
   exact aF K.leBase (K5.new e he),K5.nd⟩ K5.le
 have K5:Kn g2 h4 (tC m bH bB bN (2^(ak m.nodes 36+ak m.nodes 35))++ [(bp, .inl ⟨[.pointer (some ⟨bx,0,none⟩)],1,false⟩),(bx, .inl ⟨Nb M (ak m.nodes 36) (ak m.nodes 35) st (arr bH (2^(ak m.nodes 36+ak m.nodes 35))) (arr bB (2^(ak m.nodes 36+ak m.nodes 35))) 0 (arr bN (2^(ak m.nodes 36+ak m.nodes 35))) 0 0,14,false⟩),(b7, .inl ⟨aw M,5,false⟩)]):=by
  refine⟨Hp.le_trans lB l4,fun e he=>?_,fun e he=>?_,K3.nd⟩
  ·rcases List.mem_append.1 he with he|he
   ·exact K4.mem e he
   ·simp only [List.mem_cons,List.not_mem_nil,or_false]at he
    rcases he with rfl|rfl|rfl
    ·exact l4 _ _ fp
    ·exact l4 _ _ fx
    ·exact l4 _ _ f7
  ·rcases List.mem_append.1 he with he|he
   ·have hm:e.1∈ [bH,bB,bN]:=by
     simp only [tC,List.mem_cons,List.not_mem_nil,or_false]at he
     rcases he with rfl|rfl|rfl<;>simp
    exact hb1 _ hm
   ·exact K3.new e (List.mem_append_right _ he)
 unfold tC at K5
 simp only [List.cons_append,List.nil_append]at K5
 clear K4 Kr hstB hsB lB fx fp f7 nB Kf K3 l4 h3
 have hil:=gd.il
 have hxl:=gd.xl
 have hin:=hs2.inits.len
 have hp36:(stP m).length<=m.nodes.length:=fy m.nodes 36
 have hnl:=gd.nl
 have hstn:st.n=(stP m).length:=by have:=hst.len;rw [aY]at this;exact this
 repeat' (refine kr_ ?_)
 refine ye (hs2.mono K5.le) hm gd (hs2.mono K5.le).nexts (by omega) ⟨_,rfl,?_⟩
 repeat' (refine kr_ ?_)
 refine kw_ ?_
 intro h5 K6 _
 clear K5
 repeat' (refine kr_ ?_)
 refine BD (hs2.mono K6.le) hm gd fun vt h6 l6 hvn hpv=>⟨vt,rfl,?_⟩
 have K7:=K6.mono l6
 clear K6 l6
 have hs6:=hs2.mono K7.le
 have hst6:=hst.mono K7.le
 have f7:h6 b7=some (.inl ⟨aw M,5,false⟩):=K7.at (by simp)
 have fp:h6 bp=some (.inl ⟨[.pointer (some ⟨bx,0,none⟩)],1,false⟩):=K7.at (by simp)
 repeat' (refine kr_ ?_)
 refine sD hs6 hm hst6 (cO gd 36) (jc gd 36) fun out ts h7 c1 hon=>⟨out,rfl,?_⟩
 have Kr:=Kn.of (Hp.le_trans c1.le (bz _ _))
 repeat' (refine kr_ ?_)
 have aV:=yr gd
 refine av m.inits.length (fun j vs h'=> ∃ts:List Sl,vs= [.pointer (some ⟨b7,0,none⟩), .pointer (some ⟨bp,0,none⟩),vt.v,out.v,M.ini.v,I M.ini.n,I j]/\h6.le (h'.offS out)/\Buf h' out 1 (ts.map Sl.v)/\ts.length=(stP m).length/\
  ∀(i p:Nat) (t:Sl),(stP m)[i]?=some p->ts[i]?=some t->IntS (h'.offS out) t (VL (Dj m j p))) ⟨ts,rfl,c1.le,c1.buf,by rw [c1.len,mY],fun i p t hp ht=>?_⟩ ?_
 ·obtain⟨b,e1,e2,e3⟩:=c1.row i t ht
  have hz:(cX m.nodes (stP m)).getD i []=Dj m 0 p:=by
   unfold cX Dj
   rw [List.getD_eq_getElem?_getD,List.getElem?_map,hp];rfl
  have hz4:((cX m.nodes (stP m)).getD i []).length<=4:=by
   unfold cX
   rw [List.getD_eq_getElem?_getD,List.getElem?_map,hp]
   simp only [Option.map_some,Option.getD_some,List.length_replicate]
   exact dq _ _
  rw [hz]at e1 e3 hz4
  rw [e1]
  exact⟨by dsimp only;omega,by simp [aY], .inr ⟨b,0,rfl,ay e3⟩⟩
 clear c1 Kr ts h7
 rintro j _ h8 next hj ⟨ts,rfl,l8,hbuf,htl,hts⟩ hnx
 have lo:=bz h8 out
 have l68:=Hp.le_trans l8 lo
 refine⟨_,_,_,_,vt,out,M.ini,_,_,rfl,?_⟩
 by_cases hlt:j<m.inits.length
 rotate_left
 ·have hje:j=m.inits.length:=by omega
  subst hje
  refine aE (by simp;omega) ?_
  have K9:=K7.mono l68
  have hbl:(iG m).length=(stP m).length:=by unfold iG kJ;rw [List.length_map]
  have iss:IntSS h8 out ((iG m).map VL):=⟨ts,by rw [List.length_map,hbl];exact htl,hbuf.slc_of (by rw [hon];have:=jc gd 36;omega),fun i h1 h2=>by
   have hi:i<(stP m).length:=by omega
   have hpi:(stP m)[i]?=some (stP m)[i]:=List.getElem?_eq_getElem hi
   have:=(hts i _ _ hpi (List.getElem?_eq_getElem h1)).mono lo
   rw [<-S4 m hpi]at this
   rw [List.getElem_map]
   rwa [List.getD_eq_getElem?_getD,List.getElem?_eq_getElem (by rw [hbl];exact hi)]at this⟩
  have hs8:=hs6.mono l68
  clear hbuf hts
  repeat' (refine kr_ ?_)
  refine ye hs8 hm gd hs8.inits (by omega) ⟨_,rfl,?_⟩
  repeat' (refine kr_ ?_)
  refine Dc hs8 hm gd.ok (hst6.mono l68) (cO gd 36) (jc gd 36) iss (uY gd) (by rw [fo gd];omega) ⟨_,rfl,?_⟩
  repeat' (refine kr_ ?_)
  refine kw_ ?_
  intro h9 K10 _
  repeat' (refine kr_ ?_)
  refine kw_ ?_
  intro h10 K11 _
  repeat' (refine kr_ ?_)
  refine k1 bx h10 (Hp.le_trans l2 K11.le) ⟨M,st,arr bH (2^(ak m.nodes 36+ak m.nodes 35)),arr bB (2^(ak m.nodes 36+ak m.nodes 35)),arr bN (2^(ak m.nodes 36+ak m.nodes 35)),K11.at (by((focus ((repeat first|exact .head _|apply List.Mem.tail);done)))),?_,?_,?_⟩
  ·refine⟨by dsimp only;omega,by simp [aG], .inr ⟨bH,0,rfl,?_⟩⟩
   have:=ay (K11.at (.head _))
   rwa [yc]at this
  ·refine⟨by dsimp only;omega,by simp [aG], .inr ⟨bB,0,rfl,?_⟩⟩
   have:=ay (K11.at (.tail _ (.head _)))
   rwa [yc]at this
  ·refine⟨by dsimp only;omega,by simp [aG,VL], .inr ⟨bN,0,rfl,?_⟩⟩
   have:=ay (K11.at (.tail _ (.tail _ (.head _))))
   rwa [Pj]at this
 refine aM (by simp;omega) ?_
 obtain⟨bd,hbd⟩: ∃bd,m.inits[j]?=some bd:=⟨_,List.getElem?_eq_getElem hlt⟩
 obtain⟨v1,v2,v3,v4,s1,s2⟩:=vb gd (List.mem_of_getElem? hbd)
 obtain⟨bi,oi,hai,cx1,cx2⟩:=(hs6.mono l68).inits.at hbd
 refine⟨bi,oi,hai,by omega,by omega,_,cx1,_,cx2,?_⟩
 refine aj fun b48 h9 hb48 l9 f48'=>?_
 (with_reducible apply bZ);(exact f48');(exact l9);(exact hb48);(exact Nat.le_refl 2)
 intro h10 f48 kp l10
 have l10o:=bP out l10
 have f48o:=hbuf.offS_new hb48 f48
 clear f48' kp l9
 have Kr:=Kn.of (Hp.le_trans l68 l10)
 have fx6:=K7.at (b:=bx) (.tail _ (.tail _ (.tail _ (.tail _ (.head _)))))
 repeat' (refine kr_ ?_)
 refine av (stP m).length (fun q vs h'=> ∃ts:List Sl,vs= [.pointer (some ⟨b7,0,none⟩), .pointer (some ⟨bp,0,none⟩),vt.v,out.v, .pointer (some ⟨b48,0,none⟩),M.ini.v,I M.ini.n,I j,st.v,I st.n,I q]/\h6.le (h'.offS out)/\(h'.offS out) b48=some (.inl ⟨[I bd.state,I bd.node],2,false⟩)/\Buf h' out 1 (ts.map Sl.v)/\ts.length=(stP m).length/\
  ∀(i p:Nat) (t:Sl),(stP m)[i]?=some p->ts[i]?=some t->IntS (h'.offS out) t (VL (if i<q then Dj m (j+1) p else Dj m j p)))
  ⟨ts,rfl,Hp.le_trans l8 l10o,f48o,hbuf.mono l10,htl,fun i p t hp ht=>by rw [if_neg (by omega)];exact(hts i p t hp ht).mono l10o⟩ ?_
 clear Kr f48o l10o l10 f48 hb48 hbuf htl hts ts l68 lo l8 hai cx1 cx2 h9 h8 h10
 rintro q _ h8 next2 hq ⟨ts,rfl,l8,f48,hbuf,htl,hts⟩ hnx2
 have lo:=bz h8 out
 have l68:=Hp.le_trans l8 lo
 have g48:=lo _ _ f48
 refine⟨_,_,_,_,vt,out,_,_,_,_,_,st,_,_,rfl,?_⟩
 by_cases hlq:q<(stP m).length
 rotate_left
 ·refine aE (by simp;omega) ?_
  rw [aC (by omega)]
  refine hnx hlt _ _ ⟨ts,rfl,l8,hbuf,htl,fun i p t hp ht=>?_⟩
  have:=hts i p t hp ht
  rwa [if_pos (by have:=get_lt hp;omega)]at this
 refine aM (by simp;omega) ?_
 obtain⟨p,hpq⟩: ∃p,(stP m)[q]?=some p:=⟨_,List.getElem?_eq_getElem hlq⟩
 have hpm:=cO gd 36 p (List.mem_of_getElem? hpq)
 obtain⟨bq,oq,hap,hcp⟩:=(hst6.mono l68).get (gU hpq)
 refine ap (fun J=> ∀(ts':List Sl) (h':Hp),h6.le (h'.offS out)->(h'.offS out) b48=some (.inl ⟨[I bd.state,I bd.node],2,false⟩)->Buf h' out 1 (ts'.map Sl.v)->ts'.length=(stP m).length->
  (∀(i p:Nat) (t:Sl),(stP m)[i]?=some p->ts'[i]?=some t->IntS (h'.offS out) t (VL (if i<q+1 then Dj m (j+1) p else Dj m j p)))->J h') ?_ (fun J hJ=>?_)
 ·intro ts' h' a1 a2 a3 a4 a5
  rw [aC (by omega)]
  exact hnx2 hlq _ _ ⟨ts',rfl,a1,a2,a3,a4,a5⟩
 refine⟨bq,oq,hap,by omega,by omega,_,hcp,?_⟩
 (refine az ?_)
 have hst':=RL gd hbd p
 refine ac (fun e=>?_) (fun e=>?_)
 ·rw [if_pos (bV e).symm]at hst'
  have f78:=l68 _ _ f7
  (refine az ?_)
  obtain⟨bn,on,han,hpn',c6,c7,w1,w16⟩:=(hs6.mono l68).nodes.sortc2 hpm gd.ok
  refine⟨bn,on,han,by omega,hpn',_,c6,_,c7,?_⟩
  (refine az ?_)
  obtain⟨bv,ov,t,hav,hvn',hcv,ht⟩:=(hpv.mono l68).at v1 (by rw [aV.len];exact v2)
  refine⟨bv,ov,hav,v1,hvn',t,hcv,?_⟩
  refine xi ht v3 v4 fun t2 h9 l9 ht2=>⟨t2,rfl,?_⟩
  rw [qx gd.ok hpm]at ht2
  have l9o:=bP out l9
  have hbuf9:=hbuf.mono l9
  refine hbuf9.wr (x:=t2) (by omega) fun h10 hbuf' ho=>?_
  refine hJ _ h10 (by rw [ho];exact Hp.le_trans l8 l9o) (by rw [ho];exact l9o _ _ f48) hbuf' (by rw [List.length_set];exact htl) fun i p' u hp' hu=>?_
  rw [ho]
  by_cases hiq:i=q
  ·subst hiq
   rw [hpq]at hp';cases hp'
   rw [List.getElem?_set_self (by omega)]at hu
   obtain rfl:=Option.some.inj hu
   rw [if_pos (by omega),hst']
   exact ht2.offL hbuf9
  ·rw [List.getElem?_set_ne (fun e=>hiq e.symm)]at hu
   have:=(hts i p' u hp' hu).mono l9o
   by_cases h1:i<q
   ·rw [if_pos h1]at this;rw [if_pos (by omega)];exact this
   ·rw [if_neg h1]at this;rw [if_neg (by omega)];exact this
 ·rw [if_neg (fun e'=>bk e e'.symm)]at hst'
  refine hJ ts h8 l8 f48 hbuf htl fun i p' u hp' hu=>?_
  have:=hts i p' u hp' hu
  by_cases hiq:i=q
  ·subst hiq
   rw [hpq]at hp';cases hp'
   rw [if_neg (by omega)]at this
   rw [if_pos (by omega),hst'];exact this
  ·by_cases h1:i<q
   ·rw [if_pos h1]at this;rw [if_pos (by omega)];exact this
   ·rw [if_neg h1]at this;rw [if_neg (by omega)];exact this
theorem gJ {h h1 h2 h3:Hp} {b:Nat} {x:Blk} (l:h.le h1) (hb:h1 b=some x) (kp: ∀c,c≠b->h3 c=h2 c):(h2.sub h1).le (h3.sub h):=by
 intro c y e
 have hc:c≠b:=by rintro rfl;rw [my hb]at e;cases e
 have h1c:h1 c=none:=by
  cases hx:h1 c with
  |none=>rfl
  |some z=>rw [my hx]at e;cases e
 rw [mf (aF l h1c),kp c hc]
 rw [mf h1c]at e
 exact e
theorem dc.get {h:Hp} {t:Sl} {n:Nat} {T:Nat->Bool} (e:dc h t n T) {i:Nat} (hi:i<n): ∃b o,t.a=some (Addr.mk b o none)/\(i:Int)<(t.n:Int)/\Hp.cell h b (o+Int.toNat (i:Int)*1)=some (.bool (T i)):=by
 have hl:=ru.len e
 rw [List.length_map,List.length_range]at hl
 obtain⟨b,o,ha,hc⟩:=SlC.get e (by omega)
 refine⟨b,o,ha,by omega,?_⟩
 rw [Int.toNat_natCast,Nat.mul_one]
 exact hc i _ (by simp [hi])
theorem dc.len {h:Hp} {t:Sl} {n:Nat} {T:Nat->Bool} (e:dc h t n T):t.n=n:=by
 have hl:=ru.len e
 rwa [List.length_map,List.length_range]at hl
theorem Bg.get {h:Hp} {t:Sl} {n:Nat} {f:Nat->Nat} (e:Bg h t n f) {i:Nat} (hi:i<n): ∃b o,t.a=some (Addr.mk b o none)/\(i:Int)<(t.n:Int)/\Hp.cell h b (o+Int.toNat (i:Int)*1)=some (I (f i:Nat)):=by
 have hl:=IntS.len e
 rw [aY,List.length_map,List.length_range]at hl
 obtain⟨b,o,ha,hc⟩:=SlC.get e (by omega)
 refine⟨b,o,ha,by omega,?_⟩
 rw [Int.toNat_natCast,Nat.mul_one]
 exact hc i _ (by simp [VL,hi])
def xc (B:Bd) (s:Sl):Value:= .tuple #[.agg #[I B.v,s.v,I B.r], .bool B.ok]
theorem uc {h:Hp} {t:Sl} {n:Nat} {f:Nat->Bool} {R:Value->Hp->Prop} (hn:n<=13) (ht:AF h t n f)
  (k: ∀s h',h.le h'->Own (h'.sub h) s 3 (bD (cQ n f).ns)->R (xc (cQ n f) s) h'):eX #[t.v] h R:=by
 have e:cQ (n:Int) f=match pu n f with|none=>js|some r=>⟨n,r.2,r.1,true⟩:=by
  unfold cQ;rw [if_pos (by omega),Int.toNat_natCast];cases pu n f<;>rfl
 refine LI hn ht (fun h0=>?_) (fun r hr s h' l o=>?_)
 ·have:=k ⟨none,0,0⟩ h (Hp.le_refl _)
  rw [e,h0]at this
  exact this (mU _ _)
 ·have:=k s h' l
  rw [e,hr]at this
  exact this o
theorem HN {h:Hp} {b:Nat} {σ:aD} {fid:FuncId} {u w:Array Value} {f:Nat->Bool} {R:Value->Hp->Prop} (hs:pj h b σ) (ok:σ.Ok) (hf:Fm h fid u w (2^σ.n) f)
  (k: ∀s h',h.le h'->Own (h'.sub h) s 3 (bD (cQ σ.n f).ns)->R (xc (cQ σ.n f) s) h'):i7 #[.pointer (some ⟨b,0,none⟩), .func (.func fid) u w] h R:=by
 apply Cm
 refine uf_ ?_
 have h8:=ok.nle
 obtain⟨M,st,hold,bad,next,fx,_,_,_⟩:=hs
 refine aj fun b6 h1 hb6 l1 f6=>?_
 refine dE ?_
 replace fx:=l1 _ _ fx
 (refine az ?_)
 refine uo (by omega) (fun i hi h' l R k=>hf i hi h' (Hp.le_trans l1 l) R k) fun t h2 l2 ht=>⟨t,rfl,?_⟩
 refine uc (by omega) (ht.mono (sub_le _ _)) fun s h3 l3 o3=>⟨_,_,_,_,rfl,?_⟩
 have l12:=Hp.le_trans l2 l3
 have f62:=l2 _ _ f6
 (with_reducible apply bZ);(exact l3 _ _ f62);(exact Hp.le_trans l1 l12);(exact hb6);(exact Nat.le_refl 3)
 intro h4 f4 kp l4
 refine⟨_,by rw [aq f4];rfl,_,by rw [aq f4];rfl,_,by rw [aq f4];rfl,?_⟩
 exact k s h4 l4 (o3.mono (gJ (Hp.le_trans l1 l2) f62 kp))
theorem yp {h:Hp} {b s:Nat} {σ:aD} {R:Value->Hp->Prop} (hs:pj h b σ) (ok:σ.Ok) (hlt:s<2^σ.n) (k:R (.bool (σ.begins s)) h):kO #[.pointer (some ⟨b,0,none⟩),I s] h R:=by
 apply xD
 refine uf_ ?_
 obtain⟨M,st,hold,bad,next,fx,_,_,_⟩:=hs
 have h8:=Nat.pow_le_pow_right (n:=2) (by omega) ok.nle
 have h82:(2:Nat)^8=256:=rfl
 have hb:=ok.bfix
 have ha:=ok.bas
 refine dE (dE ?_)
 repeat' (refine az ?_)
 rw [sc (by omega) (by omega)]
 refine dt ?_ k
 unfold aD.begins
 rw [Bool.eq_iff_iff,decide_eq_true_eq,beq_iff_eq];omega
theorem IntS.up {h h':Hp} {s:Sl} {xs:List Int} (e:IntS h s xs) (l:h.le h'):IntS h' s xs:=e.mono l
theorem IntSS.up {h h':Hp} {s:Sl} {xs:List (List Int)} (e:IntSS h s xs) (l:h.le h'):IntSS h' s xs:=e.mono l
theorem aO.up {h h':Hp} {M:MSl} {m:ah} (e:aO h M m) (l:h.le h'):aO h' M m:=e.mono l
theorem kpU {h0 h h':Hp} {b:Nat} {x:Blk} {P:Prop} (f:h0 b=some x) (l1:h0.le h') (l2:h0.le h) (k:P):h' b=h b/\P:=⟨by rw [l1 _ _ f,l2 _ _ f],k⟩
theorem kpN {h0 h h':Hp} {b:Nat} {P:Prop} (f:h0 b≠none) (l1:h0.le h') (l2:h0.le h) (k:P):h' b=h b/\P:=by
 refine⟨?_,k⟩
 cases hb:h0 b with
 |none=>exact absurd hb f
 |some x=>rw [l1 _ _ hb,l2 _ _ hb]
theorem rdU {α:Type} {f:α->Value} {h0 h:Hp} {b z o:Nat} {cs:List Value} {ro:Bool} {x:α} {P:α->Prop} (e:h0 b=some (.inl ⟨cs,z,ro⟩)) (l:h0.le h) (c:cs[o]?=some (f x)) (k:P x): ∃y:α,Hp.cell h b o=some (f y)/\P y:=⟨x,by rw [aq (l _ _ e)];exact c,k⟩
theorem ku_ {P Q:Prop} (k:Q) (h:Q->P:=by(first
 |((with_reducible apply rdU);(assumption);((focus ((repeat (first|exact Hp.le_refl _|assumption|(refine Hp.le_trans ?_ (by assumption))));done)));(exact rfl))
 |with_reducible exact And.intro (Eq.refl _)
 |with_reducible exact And.intro True.intro
 |with_reducible exact dE
 |((with_reducible apply kpU);(assumption);((focus ((repeat (first|exact Hp.le_refl _|assumption|(refine Hp.le_trans ?_ (by assumption))));done)));((focus ((repeat (first|exact Hp.le_refl _|assumption|(refine Hp.le_trans ?_ (by assumption))));done))))
 |((with_reducible apply kpN);(assumption);((focus ((repeat (first|exact Hp.le_refl _|assumption|(refine Hp.le_trans ?_ (by assumption))));done)));((focus ((repeat (first|exact Hp.le_refl _|assumption|(refine Hp.le_trans ?_ (by assumption))));done))))
 |fail)):P:=h k
set_option maxHeartbeats 2000000 in
theorem z7 {h:Hp} {M:MSl} {m:ah} {c:Nat} {R:Value->Hp->Prop} (hs:aO h M m) (hm:bW m) (g:dj m) (hc:c<2^(ak m.nodes 36+ak m.nodes 35))
  (k: ∀t h',h.le h'->t.n=m.nodes.length->gE h' t (cl m (c%2^ak m.nodes 36) (c/2^ak m.nodes 36))->Yh h t->R (Sl.v t) h'):mP #[aQ M,I c] h R:=by
 apply Fq
 refine uf_ ?_
 have hn8:=g.n8
 have hk5:=g.k5
 have hp13:=On g
 have hp8:=acY g
 have h1':c%2^ak m.nodes 36<=c:=Nat.mod_le _ _
 have h2':c/2^ak m.nodes 36<=c:=Nat.div_le_self _ _
 have hpp:=bK (ak m.nodes 36)
 have hs36:cD m.nodes (aH m.nodes 36)<=60:=by have:=fo g;show cD m.nodes (stP m)<=60;omega
 have hs35:cD m.nodes (aH m.nodes 35)<=60:=by have:=Cy g;show cD m.nodes (inP m)<=60;omega
 have hshr:nQ (c:Int) ((ak m.nodes 36:Nat):Int)=((c/2^ak m.nodes 36:Nat):Int):=jx (by omega)
 have hmod:Int.tmod (c:Int) (((2^ak m.nodes 36:Nat)):Int)=((c%2^ak m.nodes 36:Nat):Int):=eU _ _
 have hwu:IntKind.wrap .u64 ((ak m.nodes 36:Nat):Int)=(ak m.nodes 36:Nat):=cu (by omega)
 have hsh1:au 1 ((ak m.nodes 36:Nat):Int)=((2^ak m.nodes 36:Nat):Int):=bJ (by omega)
 refine aj fun b8 h1 hb8 l1 f8=>?_
 clear hb8
 repeat' (refine ku_ ?_)
 refine gC (hs.mono l1) hm ⟨_,rfl,?_⟩
 simp only [hwu,hsh1,hshr,hmod]
 repeat' (first
  |(refine ku_ ?_)
  |(rw [if_neg (by omega)])
  |(refine cU (hs.up (by((focus ((repeat (first|exact Hp.le_refl _|assumption|(refine Hp.le_trans ?_ (by assumption))));done))))) hm fun _ _ _ _=>⟨_,rfl,?_⟩)
  |(refine gi (hs.up (by((focus ((repeat (first|exact Hp.le_refl _|assumption|(refine Hp.le_trans ?_ (by assumption))));done))))) hm g.ok (IntS.up (by assumption) (by((focus ((repeat (first|exact Hp.le_refl _|assumption|(refine Hp.le_trans ?_ (by assumption))));done))))) (cO g 36) (jc g 36) (by omega) hs36 fun _ _ _ _=>⟨_,rfl,?_⟩)
  |(refine gi (hs.up (by((focus ((repeat (first|exact Hp.le_refl _|assumption|(refine Hp.le_trans ?_ (by assumption))));done))))) hm g.ok (IntS.up (by assumption) (by((focus ((repeat (first|exact Hp.le_refl _|assumption|(refine Hp.le_trans ?_ (by assumption))));done))))) (cO g 35) (jc g 35) (by omega) hs35 fun _ _ _ _=>⟨_,rfl,?_⟩)
  |(refine pF (hs.up (by((focus ((repeat (first|exact Hp.le_refl _|assumption|(refine Hp.le_trans ?_ (by assumption))));done))))) hm g.ok g.nl (IntSS.up (by assumption) (by((focus ((repeat (first|exact Hp.le_refl _|assumption|(refine Hp.le_trans ?_ (by assumption))));done))))) (mb 36 (c%2^ak m.nodes 36) g) (IntSS.up (by assumption) (by((focus ((repeat (first|exact Hp.le_refl _|assumption|(refine Hp.le_trans ?_ (by assumption))));done))))) (mb 35 (c/2^ak m.nodes 36) g) fun t h' l hn hpv hw=>⟨_,rfl,k t h' (by((focus ((repeat (first|exact Hp.le_refl _|assumption|(refine Hp.le_trans ?_ (by assumption))));done)))) hn hpv fun b o hb=>aF (by((focus ((repeat (first|exact Hp.le_refl _|assumption|(refine Hp.le_trans ?_ (by assumption))));done)))) (hw b o hb)⟩)
  |(refine And.intro ?_ ?_))
def gt (ps:List Nat) (f:Nat->Option (List Nat)) (vs:List (List Nat)) (n:Nat):Bool:=(List.range n).all fun i=>match ps[i]? with
 |some p=>(match f p with|some v=>decide (vs.getD i []=v)|none=>true)
 |none=>true
theorem DW {ps:List Nat} {f:Nat->Option (List Nat)} {vs:List (List Nat)} {i p:Nat} (h:ps[i]?=some p):gt ps f vs (i+1)=(gt ps f vs i&&(match f p with|some v=>decide (vs.getD i []=v)|none=>true)):=by
 unfold gt
 rw [List.range_succ,List.all_append]
 simp only [List.all_cons,List.all_nil,Bool.and_true,h]
theorem jj {ps:List Nat} {f:Nat->Option (List Nat)} {vs:List (List Nat)}:gt ps f vs ps.length=true↔ ∀(i p:Nat),ps[i]?=some p-> ∀v,f p=some v->vs.getD i []=v:=by
 unfold gt
 rw [List.all_eq_true]
 constructor
 ·intro h i p hp v hv
  have:=h i (List.mem_range.2 (get_lt hp))
  rw [hp]at this
  simp only [hv,decide_eq_true_eq]at this
  exact this
 ·intro h i hi
  cases hp:ps[i]? with
  |none=>rfl
  |some p=>
   simp only
   cases hv:f p with
   |none=>rfl
   |some v=>simpa using h i p hp v hv
theorem JX {ps:List Nat} {f:Nat->Option (List Nat)} {vs:List (List Nat)} {i:Nat} (hi:i<=ps.length) (h:gt ps f vs i=false):gt ps f vs ps.length=false:=by
 unfold gt at h⊢
 rw [List.all_eq_false]at h⊢
 obtain⟨x,hx,hn⟩:=h
 exact⟨x,List.mem_range.2 (by have:=List.mem_range.1 hx;omega),hn⟩
theorem EC {h:Hp} {M:MSl} {m:ah} {s t:Sl} {ps:List Nat} {vs:List (List Nat)} {R:Value->Hp->Prop} (hs:aO h M m) (hm:bW m) (hok:cv m.nodes=true) (hp:IntS h s (VL ps)) (hps: ∀p∈ps,p<m.nodes.length) (hpl:ps.length<=1048576)
  (hv:IntSS h t (vs.map VL)) (hf:j8 m.nodes ps vs) (k:R (.bool true) h):qh #[aQ M,s.v,t.v] h R:=by
 refine ACalls.drop (IK ?_)
 refine uf_ ?_
 have hn:=hs.nodes.len
 have hsn:=hp.len
 rw [aY]at hsn
 have htn:=hv.len
 rw [List.length_map]at htn
 have hvl:=nV hf
 refine aj fun b9 h1 hb9 l1 f9=>?_
 refine aE (by simp;omega) ?_
 refine av ps.length (fun i ws h'=>h.le h'/\h' b9=some (.inl ⟨aw M,5,false⟩)/\ws= [s.v,t.v, .pointer (some ⟨b9,0,none⟩),I i]) ⟨l1,f9,rfl⟩ ?_
 clear f9 l1 hb9 h1
 rintro i _ h1 next hi ⟨l1,f9,rfl⟩ hnx
 refine⟨s,t,_,_,_,rfl,?_⟩
 by_cases hlt:i<ps.length
 rotate_left
 ·exact aE (by simp;omega) ⟨_,l1,k⟩
 refine aM (by simp;omega) ?_
 obtain⟨p,hpi⟩: ∃p,ps[i]?=some p:=⟨_,List.getElem?_eq_getElem hlt⟩
 have hpm:=hps p (List.mem_of_getElem? hpi)
 obtain⟨b,o,ha,hc⟩:=(hp.mono l1).get (gU hpi)
 refine⟨b,o,ha,by omega,by omega,?_⟩
 (refine az ?_)
 refine⟨_,hc,?_⟩
 obtain⟨bn,on,han,hpn',c6,c7,w1,w16⟩:=(hs.mono l1).nodes.sortc2 hpm hok
 refine⟨bn,on,han,by omega,hpn',_,c6,_,c7,?_⟩
 obtain⟨bt,ot,c,hta,htc,hcv⟩:=(hv.mono l1).getV (i:=i) (by omega)
 have xbt:=gV htc
 have xbn:=gV c6
 have xb:=gV hc
 have xb9:=eZ f9
 refine aj fun b36 h2 hb36 l2 f36'=>?_
 have n9:=fresh_ne hb36 f9
 have nt:=vh hb36 htc
 repeat' (((with_reducible apply kW);(assumption);(assumption)))
 (with_reducible apply bZ);(exact f36');(exact Hp.le_trans l1 l2);(exact aF l1 hb36);(exact Nat.le_refl 2)
 intro h3 f36 kp l3
 have l13:h1.le h3:=cL hb36 l2 kp
 have f93:=l13 _ _ f9
 have f36v:h3 b36=some (.inl ⟨[I (aA m.nodes p).idx,I (cj m.nodes p)],2,false⟩):=f36
 refine⟨bt,ot,hta,by omega,by omega,c,l13.cell htc,?_⟩
 repeat' (refine az ?_)
 refine fC ⟨_,rfl,?_⟩
 rw [qx hok hpm]
 have hg:=mh hf hpi
 have hcn:=hcv.len
 rw [aY]at hcn
 have hcl:=dq m.nodes p
 repeat' (refine az ?_)
 refine aE (by simp;omega) ?_
 have hcv3:=hcv.mono l13
 refine av (aK m.nodes p) (fun q ws h'=>h'=h3/\ws= [s.v,t.v, .pointer (some ⟨b9,0,none⟩),I i, .pointer (some ⟨b36,0,none⟩),I q]) ⟨rfl,rfl⟩ ?_
 rintro q _ _ next2 hq ⟨rfl,rfl⟩ hnx2
 rename_i h3
 refine⟨s,t,_,_,_,_,_,_,rfl,?_⟩
 refine⟨bt,ot,hta,by omega,by omega,c,l13.cell htc,?_⟩
 by_cases hlq:q<aK m.nodes p
 rotate_left
 ·refine aE (by simp;omega) ?_
  rw [aC (by omega)]
  exact hnx hlt _ _ ⟨l3,f93,rfl⟩
 refine aM (by simp;omega) ?_
 refine⟨bt,ot,hta,by omega,by omega,?_⟩
 (refine az ?_)
 refine⟨c,l13.cell htc,?_⟩
 obtain⟨bc,oc,hca,hcc,hln⟩:=hcv3.elt (i:=q) (by omega)
 refine⟨bc,oc,hca,by omega,by omega,_,hcc,?_⟩
 have hlt2:(vs.getD i []).getD q 0<2^cj m.nodes p:=by
  rw [List.getD_eq_getElem?_getD,List.getElem?_eq_getElem (show q<(vs.getD i []).length by omega)]
  exact hg.2 _ (List.getElem_mem _)
 refine cy ⟨_,rfl,aE ?_ ?_⟩
 ·rw [Bool.not_eq_false',jT]
  refine⟨by omega,by omega,?_⟩
  rw [Int.toNat_natCast];omega
 ·rw [aC (by omega)]
  exact hnx2 hlq _ _ ⟨rfl,rfl⟩
theorem gP {h:Hp} {M:MSl} {m:ah} {t:Sl} {vs:List (List Nat)} {R:Value->Hp->Prop} (hs:aO h M m) (hm:bW m) (hc:ax m=0)
  (hv:IntSS h t (vs.map VL)) (hf:j8 m.nodes (stP m) vs) (k:R (.bool true) h):fR #[aQ M,t.v] h R:=by
 refine ACalls.drop (DE ?_)
 refine uf_ ?_
 have g:=cr hc
 refine aj fun b8 h1 hb8 l1 f8=>?_
 repeat' (refine ku_ ?_)
 refine aX (hs.up (by((focus ((repeat (first|exact Hp.le_refl _|assumption|(refine Hp.le_trans ?_ (by assumption))));done))))) hm ⟨_,rfl,aM (by rw [hc];rfl) ?_⟩
 repeat' (refine ku_ ?_)
 refine cU (hs.up (by((focus ((repeat (first|exact Hp.le_refl _|assumption|(refine Hp.le_trans ?_ (by assumption))));done))))) hm fun p h2 l2 i2=>⟨p,rfl,?_⟩
 repeat' (refine ku_ ?_)
 exact EC (hs.up (by((focus ((repeat (first|exact Hp.le_refl _|assumption|(refine Hp.le_trans ?_ (by assumption))));done))))) hm g.ok i2 (cO g 36) (jc g 36) (hv.up (by((focus ((repeat (first|exact Hp.le_refl _|assumption|(refine Hp.le_trans ?_ (by assumption))));done))))) hf ⟨_,rfl,h,by((focus ((repeat (first|exact Hp.le_refl _|assumption|(refine Hp.le_trans ?_ (by assumption))));done))),k⟩
theorem Pp {m:ah} (g:dj m) {p k:Nat} (h:cf m.inits p=some k):k<m.nodes.length/\0<((nW m).getD k []).length/\((nW m).getD k []).length<=4:=by
 obtain⟨b,hb,_,rfl⟩:=fS h
 obtain⟨v1,v2,v3,v4,_,_⟩:=vb g hb
 exact⟨by omega,v3,v4⟩
theorem j9 {h:Hp} {M:MSl} {m:ah} {t:Sl} {vs:List (List Nat)} {R:Value->Hp->Prop} (hs:aO h M m) (hm:bW m) (hc:ax m=0)
  (hv:IntSS h t (vs.map VL)) (hf:j8 m.nodes (stP m) vs) (k:R (.bool (gt (stP m) (eA m) vs (stP m).length)) h):iO #[aQ M,t.v] h R:=by
 refine ACalls.drop (E7 ?_)
 refine uf_ ?_
 have g:=cr hc
 have hil:=g.il
 have hnl:=g.nl
 have hp36:(stP m).length<=m.nodes.length:=fy m.nodes 36
 have htn:=hv.len
 rw [List.length_map]at htn
 have hvl:=nV hf
 have hbn: ∀b∈m.inits,0<=b.node:=fun b hb=>(vb g hb).1
 refine aj fun b8 h1 hb8 l1 f8=>?_
 repeat' (refine ku_ ?_)
 refine gP (hs.up (by((focus ((repeat (first|exact Hp.le_refl _|assumption|(refine Hp.le_trans ?_ (by assumption))));done))))) hm hc (hv.up (by((focus ((repeat (first|exact Hp.le_refl _|assumption|(refine Hp.le_trans ?_ (by assumption))));done))))) hf ⟨_,rfl,aE rfl ?_⟩
 repeat' (refine ku_ ?_)
 refine Ll (hs.up (by((focus ((repeat (first|exact Hp.le_refl _|assumption|(refine Hp.le_trans ?_ (by assumption))));done))))) hm g fun vt h2 l2 hvn hpv=>⟨vt,rfl,?_⟩
 repeat' (refine ku_ ?_)
 refine cU (hs.up (by((focus ((repeat (first|exact Hp.le_refl _|assumption|(refine Hp.le_trans ?_ (by assumption))));done))))) hm fun pt h3 l3 ip=>⟨pt,rfl,?_⟩
 have hpn:pt.n=(stP m).length:=by have:=ip.len;rw [aY]at this;exact this
 have f83:=l3 _ _ (l2 _ _ f8)
 have hpv3:=hpv.mono l3
 have l03:=Hp.le_trans l1 (Hp.le_trans l2 l3)
 have aV:=yr g
 clear l2 l3 l1 hb8 f8 hpv h2
 refine av (stP m).length (fun i ws h'=>h3.le h'/\ws= [t.v, .pointer (some ⟨b8,0,none⟩),vt.v,pt.v,I i]/\gt (stP m) (eA m) vs i=true) ⟨Hp.le_refl _,rfl,rfl⟩ ?_
 rintro i _ h4 next hi ⟨l4,rfl,hg⟩ hnx
 have l04:=Hp.le_trans l03 l4
 refine⟨t,_,_,vt,pt,_,rfl,?_⟩
 by_cases hlt:i<(stP m).length
 rotate_left
 ·have hie:i=(stP m).length:=by omega
  subst hie
  refine aE (by simp;omega) ⟨_,l04,dt hg.symm k⟩
 refine aM (by simp;omega) ?_
 obtain⟨p,hpi⟩: ∃p,(stP m)[i]?=some p:=⟨_,List.getElem?_eq_getElem hlt⟩
 have hsucc:=DW (f:=eA m) (vs:=vs) hpi
 rw [hg,Bool.true_and]at hsucc
 obtain⟨b,o,ha,hcc⟩:=(ip.mono l4).get (gU hpi)
 refine⟨b,o,ha,by omega,by omega,?_⟩
 (refine ku_ ?_)
 refine⟨_,hcc,?_⟩
 refine oP (hs.mono l04).inits (by omega) hbn ⟨_,rfl,?_⟩
 refine ap (fun J=> ∀h',h4.le h'->J (!gt (stP m) (eA m) vs (i+1)) h') ?_ (fun J hJ=>?_)
 ·intro h' l'
  refine ac (fun e=>⟨_,Hp.le_trans l04 l',dt ?_ k⟩) (fun e=>?_)
  ·symm;exact JX (i:=i+1) (by omega) (by simpa using e)
  ·rw [aC (by omega)]
   exact hnx hlt _ _ ⟨Hp.le_trans l4 l',rfl,by simpa using e⟩
 cases hbo:cf m.inits p with
 |none=>
  rw [show ii m.inits p= -1 from by unfold ii;rw [hbo]]
  refine aE (by simp) ⟨trivial,?_⟩
  have hn:eA m p=none:=by unfold eA;rw [hbo];rfl
  rw [hn]at hsucc
  have:=hJ h4 (Hp.le_refl _)
  rw [hsucc]at this;exact this
 |some q=>
  rw [show ii m.inits p=(q:Int)from by unfold ii;rw [hbo]]
  refine aM (by simp) ?_
  obtain⟨hq,v3,v4⟩:=Pp g hbo
  have hsm:eA m p=some (nw (aK m.nodes p) ((nW m).getD q [])):=by unfold eA;rw [hbo];rfl
  have hfit:=rY g hsm
  have hcl:=dq m.nodes p
  have hgv:=mh hf hpi
  rw [hsm]at hsucc
  obtain⟨bt,ot,c,hta,htc,hcv⟩:=(hv.mono l04).getV (i:=i) (by omega)
  obtain⟨bv,ov,u,hua,hun,huc,huv⟩:=(hpv3.mono l4).at (p:=(q:Int)) (by omega) (by rw [aV.len];omega)
  have hcn:=hcv.len
  rw [aY]at hcn
  refine⟨bt,ot,hta,by omega,by omega,bv,ov,hua,by omega,hun,bt,ot,hta,by omega,by omega,c,htc,u,huc,c,htc,?_⟩
  rw [Int.toNat_natCast]at huv
  rw [hcn,hgv.1]
  have xbt:=gV htc
  refine D5 huv v3 v4 hcl fun w h5 l5 hw=>⟨w,rfl,?_⟩
  repeat' (((with_reducible apply kW);(assumption);(assumption)))
  refine xR (hcv.mono l5) hw (by rw [aY];omega) (by rw [aY,aY,hgv.1,hfit.1];exact Nat.le_refl _) ⟨_,rfl,?_⟩
  have:=hJ h5 l5
  simp only at hsucc
  rw [hsucc]at this
  have e2:decide (VL (vs.getD i [])=VL (nw (aK m.nodes p) ((nW m).getD q [])))=decide (vs.getD i []=nw (aK m.nodes p) ((nW m).getD q [])):=by
   rw [Bool.eq_iff_iff,decide_eq_true_eq,decide_eq_true_eq,Ii]
  rw [e2];exact this
section
variable {g h h':Hp} {L L' A B X:List (Nat×Blk)}
theorem Kn.app (K:Kn g h L) (l:h.le h') (n: ∀e∈X,h e.1=none) (f: ∀e∈X,h' e.1=some e.2) (nd:(X.map Prod.fst).Nodup):Kn g h' (L++X):=by
 refine⟨Hp.le_trans K.le l,fun e he=>?_,fun e he=>?_,?_⟩
 ·rcases List.mem_append.1 he with he|he
  ·exact l _ _ (K.mem e he)
  ·exact f e he
 ·rcases List.mem_append.1 he with he|he
  ·exact K.new e he
  ·exact aF K.le (n e he)
 ·rw [List.map_append,List.nodup_append]
  refine⟨K.nd,nd,fun a ha b hb hab=>?_⟩
  obtain⟨e,he,rfl⟩:=List.mem_map.1 ha
  obtain⟨e',he',rfl⟩:=List.mem_map.1 hb
  have h1:=K.mem e he
  have h2:=n e' he'
  rw [hab,h2]at h1;cases h1
theorem Kn.split (K:Kn g h (A++B)):Kn (h.wo (B.map Prod.fst)) h B/\Kn g (h.wo (B.map Prod.fst)) A:=by
 have nd:=K.nd
 rw [List.map_append,List.nodup_append]at nd
 refine⟨⟨wO _ _,fun e he=>K.mem e (List.mem_append_right _ he),fun e he=>fv (List.mem_map.2 ⟨e,he,rfl⟩),nd.2.1⟩,?_,fun e he=>?_,fun e he=>K.new e (List.mem_append_left _ he),nd.1⟩
 ·exact r8 K.le fun b hb=>by
   obtain⟨e,he,rfl⟩:=List.mem_map.1 hb
   exact K.new e (List.mem_append_right _ he)
 ·rw [sk]
  ·exact K.mem e (List.mem_append_left _ he)
  ·intro hb
   exact nd.2.2 _ (List.mem_map.2 ⟨e,he,rfl⟩) _ hb rfl
theorem Kn.off (K:Kn g h L) {b:Nat} {x y:Blk} (u:Upd L b x y L') (l:(h.off b).le h') (f:h' b=some y):Kn g h' L':=by
 refine⟨?_,fun e he=>?_,fun e he=>?_,by rw [u.keys];exact K.nd⟩
 ·exact Hp.le_trans (vw (K.new (b,x) u.mem) K.le) l
 ·rcases u.out K.nd e he with rfl|⟨h1,h2⟩
  ·exact f
  ·refine l _ _ ?_
   simp only [Hp.off,Hp.set];rw [if_neg h2];exact K.mem e h1
 ·rcases u.out K.nd e he with rfl|⟨h1,h2⟩
  ·exact K.new (b,x) u.mem
  ·exact K.new e h1
def pm (X:List (Nat×Blk)) (s:Sl) (sz:Nat) (cs:List Value):Prop:=
 cs.length=s.n*sz/\s.n<=9223372036854775807/\((s.n=0/\X= [])\/(s.n≠0/\ ∃b z,s.a=some ⟨b,0,none⟩/\X= [(b, .inl ⟨cs,z,false⟩)]))
theorem pm.own {s:Sl} {sz:Nat} {cs:List Value} (o:pm X s sz cs) (K:Kn g h (L++X)):Own h s sz cs:=by
 refine⟨o.1,o.2.1,?_⟩
 rcases o.2.2 with ⟨h0,_⟩|⟨_,b,z,ha,rfl⟩
 ·exact .inl h0
 ·exact .inr ⟨b,z,ha,K.at (by simp)⟩
end
theorem list9 {cs:List Value} (h:cs.length=9): ∃a b c d e f g i j,cs= [a,b,c,d,e,f,g,i,j]:=by
 match cs,h with
 | [a,b,c,d,e,f,g,i,j],_=>exact⟨a,b,c,d,e,f,g,i,j,rfl⟩
theorem list2 {cs:List Value} (h:cs.length=2): ∃a b,cs= [a,b]:=by
 match cs,h with
 | [a,b],_=>exact⟨a,b,rfl⟩
theorem Got.flat {P:Program} {W:World} {t e:TypeId} {v:Value} {α:Type} {f:α->List Value} {m:Nat} {p:α->Prop} (hf: ∀x,(f x).length=m) (hpos:0<m) (ht:P.underlying t=some (.slice e)) (hsz:P.cellsOf e=m)
  (hg: ∀ds,Got P W e ds-> ∃x,ds=f x/\p x) (g:Got P W t [v]): ∃(s:Sl) (l:List α),v=s.v/\s.n<=s.c/\SlC (hW W) s m (l.flatMap f)/\ ∀x∈l,p x:=by
 obtain⟨s,hs,hm,hlc,h⟩:=Got.slice ht hsz hpos g
 simp only [List.cons.injEq,and_true]at hs
 rcases h with h|⟨b,o,ha,h⟩
 ·exact⟨s, [],hs,hlc,⟨hm,by simp [h], .inl h⟩,by simp⟩
 obtain⟨xs,hl,hx⟩:=FT (p:=fun i (x:α)=>(∀(j:Nat) v,(f x)[j]?=some v->Hp.cell (hW W) b (o+i*m+j)=some v)/\p x) s.n fun i hi=>by
  obtain⟨ds,hd,hgd,hc⟩:=h i hi
  obtain⟨x,rfl,hp⟩:=hg ds hgd
  exact⟨x,hc,hp⟩
 refine⟨s,xs,hs,hlc,⟨hm,by rw [eV hf,hl], .inr ⟨b,o,ha,?_⟩⟩,?_⟩
 ·intro i v hv
  have hi:i<(xs.flatMap f).length:=(List.getElem?_eq_some_iff.1 hv).1
  rw [eV hf]at hi
  have hq:i/m<xs.length:=by rw [Nat.div_lt_iff_lt_mul hpos];exact hi
  have hr:i%m<m:=Nat.mod_lt _ hpos
  have he:i=i/m*m+i%m:=by rw [Nat.mul_comm];exact(Nat.div_add_mod _ _).symm
  rw [he,sC hf xs (i/m) xs[i/m] (i%m) (List.getElem?_eq_getElem hq) hr]at hv
  have:=(hx (i/m) hq).1 _ _ hv
  rw [he,<-Nat.add_assoc];exact this
 ·intro x hxm
  obtain⟨i,hi,rfl⟩:=List.getElem_of_mem hxm
  exact(hx i hi).2
def tb (n:Nat) (T:Nat->Bool):List Value:=(List.range n).map fun i=> .bool (T i)
theorem gT (n:Nat) (T:Nat->Bool):(tb n T).length=n:=by simp [tb]
theorem pL {n j:Nat} {T:Nat->Bool} (hj:j<n):(tb n T)[j]?=some (.bool (T j)):=by simp [tb,hj]
theorem aaB {n:Nat} {T U:Nat->Bool} (h: ∀j,j<n->T j=U j):tb n T=tb n U:=by
 refine List.map_congr_left fun j hj=>?_
 rw [h j (List.mem_range.1 hj)]
theorem kH (n:Nat):List.replicate n (.bool false)=tb n fun _=>false:=by
 refine List.ext_getElem (by simp [tb]) fun i h1 h2=>?_
 simp [tb]
theorem lZ {n j:Nat} {T:Nat->Bool} {v:Bool}:(tb n T).set j (.bool v)=tb n fun i=>if i=j then v else T i:=by
 refine List.ext_getElem (by simp [tb]) fun i h1 h2=>?_
 rw [List.getElem_set]
 simp only [tb,List.getElem_map,List.getElem_range]
 by_cases e:i=j
 ·rw [if_pos e,if_pos e.symm]
 ·rw [if_neg e,if_neg fun h=>e h.symm]
theorem aap (n:Nat) (T:Nat->Bool):tb n T=((List.range n).map T).map Value.bool:=by simp [tb]
theorem kq {h:Hp} {b n z:Nat} {ro:Bool} {T U:Nat->Bool} (hn:n<=9223372036854775807) (f:h b=some (.inl ⟨tb n T,z,ro⟩)) (e: ∀j,j<n->T j=U j):dc h (arr b n) n U:=by
 refine⟨by dsimp only;omega,by simp, .inr ⟨b,0,rfl,?_⟩⟩
 have:=ay f
 rwa [aaB e,aap]at this
theorem fh {σ:aD} (ok:σ.Ok):2^σ.n<=256:=by
 have:=Nat.pow_le_pow_right (n:=2) (by omega) ok.nle
 simpa using this
theorem DF {σ:aD} (ok:σ.Ok):2^σ.k<=32:=by
 have:=Nat.pow_le_pow_right (n:=2) (by omega) ok.kle
 simpa using this
theorem qF {σ:aD} (ok:σ.Ok):2^(σ.n+σ.k)<=8192:=by
 have h1:=ok.nle
 have h2:=ok.kle
 have:=Nat.pow_le_pow_right (n:=2) (by omega) (show σ.n+σ.k<=13 by omega)
 simpa using this
theorem FO {h:Hp} {b s i:Nat} {σ:aD} {R:Value->Hp->Prop} (hs:pj h b σ) (ok:σ.Ok) (h1:s<2^σ.n) (h2:i<2^σ.k) (k:R (I (σ.at_ s i:Nat)) h):
  hR #[.pointer (some ⟨b,0,none⟩),I s,I i] h R:=by
 apply Dk
 refine uf_ ?_
 obtain⟨M,st,hold,bad,next,fx,_,_,_⟩:=hs
 have hn:=fh ok
 have hk:=qF ok
 have hl:=aD.at_lt h1 h2
 have h8:=ok.nle
 unfold aD.at_ at hl k
 refine dE ?_
 (refine az ?_)
 rw [if_neg (by omega),ik (by omega) (by omega),B5 (by omega) (by omega)]
 refine rj ?_ k
 rw [<-Nat.shiftLeft_eq,<-Nat.shiftLeft_add_eq_or_of_lt h1,Nat.shiftLeft_eq]
theorem Mx {h:Hp} {b c:Nat} {σ:aD} {R:Value->Hp->Prop} (hs:pj h b σ) (hc:c<2^(σ.n+σ.k)) (k:R (.bool (σ.hold c)) h):
  po #[.pointer (some ⟨b,0,none⟩),I c] h R:=by
 apply w9
 refine uf_ ?_
 obtain⟨M,st,hold,bad,next,fx,hh,_,_⟩:=hs
 refine dE ?_
 (refine az ?_)
 obtain⟨b',o',ha,h1,h2⟩:=hh.get hc
 exact⟨b',o',ha,by omega,h1,_,h2,k⟩
theorem LK {h:Hp} {b:Nat} {s2:Sl} {σ:aD} {S p:Nat->Bool} {fid:FuncId} {u w:Array Value} {R:Value->Hp->Prop} (hs:pj h b σ) (ok:σ.Ok) (hS:dc h s2 (2^σ.n) S)
  (hp:Fm h fid u w (2^(σ.n+σ.k)) p)
  (k: ∀b' T h',Kn h h' [(b', .inl ⟨tb (2^σ.n) T,2^σ.n,false⟩)]->(∀j,j<2^σ.n->T j=σ.fwd p S j)->R (arr b' (2^σ.n)).v h'):
  kC #[.pointer (some ⟨b,0,none⟩),s2.v, .func (.func fid) u w] h R:=by
 apply xd
 refine uf_ ?_
 have hn:=fh ok
 have hk:=DF ok
 have h8:=ok.nle
 have h5:=ok.kle
 have hl:=hS.len
 obtain⟨M,st,hold,bad,next,fx,_,_,hnt⟩:=id hs
 have K0:=Kn.nil h
 rw [hl]
 refine⟨Int.natCast_nonneg _,Int.le_refl _,by omega,by omega,?_⟩
 (with_reducible apply Kn.al);(assumption);(intro b8 h1 K1 l1 hb8)
 rw [Int.toNat_natCast,Nat.mul_one,cn,kH]at K1
 rw [Int.toNat_natCast]
 refine av (2^σ.n) (fun s vs h'=>vs= [.pointer (some ⟨b,0,none⟩),s2.v, .func (.func fid) u w,(arr b8 (2^σ.n)).v,s2.v,I (2^σ.n:Nat),I s]/\
  ∃T,Kn h h' [(b8, .inl ⟨tb (2^σ.n) T,2^σ.n,false⟩)]/\ ∀x,T x=true↔ ∃s' i',s'<s/\i'<2^σ.k/\S s'=true/\p (σ.at_ s' i')=true/\σ.next (σ.at_ s' i')=x)
  ⟨rfl,_,K1,fun x=>⟨fun e=>by simp at e,fun⟨s',i',e,_⟩=>by omega⟩⟩ ?_
 clear K1 K0 l1 hb8 h1
 rintro s _ h1 nxt hs' ⟨rfl,T,K1,hT⟩ hnx
 refine⟨_,s2,_,_,_,arr b8 _,s2,_,_,rfl,?_⟩
 by_cases hlt:s<2^σ.n
 rotate_left
 ·refine aE (by rw [decide_eq_false_iff_not];omega) ?_
  have hse:s=2^σ.n:=by omega
  rw [hl]
  refine⟨Int.natCast_nonneg _,Int.le_refl _,by omega,by omega,?_⟩
  (with_reducible apply Kn.al);(assumption);(intro b84 h2 K2 l2 hb84)
  rw [Int.toNat_natCast,Nat.mul_one,cn,kH]at K2
  rw [Int.toNat_natCast]
  refine av (2^σ.n) (fun t vs h'=>vs= [.pointer (some ⟨b,0,none⟩),(arr b8 (2^σ.n)).v,(arr b84 (2^σ.n)).v,I (2^σ.n:Nat),I t]/\
   ∃U,Kn h h' [(b84, .inl ⟨tb (2^σ.n) U,2^σ.n,false⟩),(b8, .inl ⟨tb (2^σ.n) T,2^σ.n,false⟩)]/\ ∀j,j<t->U j=σ.fwd p S j)
   ⟨rfl,_,K2,fun j hj=>by omega⟩ ?_
  clear K2 l2 hb84 h2
  rintro t _ h2 nxt2 ht ⟨rfl,U,K2,hU⟩ hnx2
  refine⟨_,arr b8 _,arr b84 _,_,_,rfl,?_⟩
  by_cases hlt2:t<2^σ.n
  rotate_left
  ·refine aE (by rw [decide_eq_false_iff_not];omega) ?_
   exact k b84 U h2 (K2.sub (fun e he=>by rw [List.mem_singleton]at he;subst he;exact .head _) (by simp)) fun j hj=>hU j (by omega)
  refine aM (by rw [decide_eq_true_eq];exact_mod_cast hlt2) ?_
  refine dE ?_
  (refine kr_ ?_)
  have hfx:=ok.fixed
  rw [sc (by omega) (by omega)]
  have hle:t&&&σ.fixed<=t:=Nat.and_le_left
  refine⟨b8,0,rfl,by omega,by dsimp only;omega,?_⟩
  refine Kn.rd K2 (.tail _ (.head _)) (x:=T (t&&&σ.fixed)) (by rw [Nat.zero_add,Nat.mul_one,Int.toNat_natCast];exact pL (by omega)) ?_
  refine⟨b84,0,rfl,by omega,by dsimp only;omega,?_⟩
  (((with_reducible apply Kn.wr);(assumption);((focus ((repeat first|exact .head|apply Upd.tail);done)))))
  ·rw [gT];omega
  intro h3 K3 _
  rw [bG,Nat.zero_add,Int.toNat_natCast,Nat.mul_one,lZ]at K3
  rw [aC (by omega)]
  refine hnx2 hlt2 _ _ ⟨rfl,_,K3,fun j hj=>?_⟩
  by_cases e:j=t
  ·subst e
   rw [if_pos rfl,Bool.eq_iff_iff,hT,aD.fwd_iff]
   constructor
   ·rintro ⟨s',i',q1,q2,q3,q4,q5⟩
    exact⟨s',i',by omega,q2,q3,q4,by unfold aD.goes;rw [decide_eq_true_eq];exact q5.symm⟩
   ·rintro ⟨s',i',q1,q2,q3,q4,q5⟩
    unfold aD.goes at q5
    rw [decide_eq_true_eq]at q5
    exact⟨s',i',by omega,q2,q3,q4,q5.symm⟩
  ·rw [if_neg e];exact hU j (by omega)
 refine aM (by rw [decide_eq_true_eq];exact_mod_cast hlt) ?_
 obtain⟨bS,oS,ha,hlt',hc⟩:=(hS.mono K1.le).get hlt
 refine⟨bS,oS,ha,by omega,hlt',_,hc,?_⟩
 refine dE ?_
 (refine kr_ ?_)
 rw [if_neg (by omega),bJ (by omega)]
 refine av (2^σ.k) (fun i vs h'=>vs= [.pointer (some ⟨b,0,none⟩),s2.v, .func (.func fid) u w,(arr b8 (2^σ.n)).v,I s, .bool (S s),s2.v,I (2^σ.n:Nat),I s,I (2^σ.k:Nat),I i]/\
  ∃T,Kn h h' [(b8, .inl ⟨tb (2^σ.n) T,2^σ.n,false⟩)]/\ ∀x,T x=true↔ ∃s' i',(s'<s\/s'=s/\i'<i)/\i'<2^σ.k/\S s'=true/\p (σ.at_ s' i')=true/\σ.next (σ.at_ s' i')=x)
  ⟨rfl,T,K1,fun x=>?_⟩ ?_
 ·rw [hT]
  constructor
  ·rintro ⟨s',i',q1,q⟩;exact⟨s',i', .inl q1,q⟩
  ·rintro ⟨s',i',q1,q⟩;exact⟨s',i',by omega,q⟩
 clear K1 hT T h1 hc hlt' ha bS oS
 rintro i _ h1 nxt2 hi ⟨rfl,T,K1,hT⟩ hnx2
 refine⟨_,s2,_,_,_,arr b8 _,_,_,s2,_,_,_,_,rfl,?_⟩
 by_cases hli:i<2^σ.k
 rotate_left
 ·refine aE (by rw [decide_eq_false_iff_not];omega) ?_
  rw [aC (by omega)]
  refine hnx hlt _ _ ⟨rfl,T,K1,fun x=>?_⟩
  rw [hT]
  constructor
  ·rintro ⟨s',i',q1,q⟩;exact⟨s',i',by omega,q⟩
  ·rintro ⟨s',i',q1,q2,q⟩;exact⟨s',i',by omega,q2,q⟩
 refine aM (by rw [decide_eq_true_eq];exact_mod_cast hli) ?_
 have fin: ∀T' h',Kn h h' [(b8, .inl ⟨tb (2^σ.n) T',2^σ.n,false⟩)]->(∀x,T' x=true↔T x=true\/(S s=true/\p (σ.at_ s i)=true/\σ.next (σ.at_ s i)=x))->
   nxt2 [.pointer (some ⟨b,0,none⟩),s2.v, .func (.func fid) u w,(arr b8 (2^σ.n)).v,I s, .bool (S s),s2.v,I (2^σ.n:Nat),I s,I (2^σ.k:Nat),I (W ((i:Int)+1))] h':=by
  intro T' h' K hx
  rw [aC (by omega)]
  refine hnx2 hli _ _ ⟨rfl,T',K,fun x=>?_⟩
  rw [hx,hT]
  constructor
  ·rintro (⟨s',i',q1,q⟩|⟨q1,q2,q3⟩)
   ·exact⟨s',i',by omega,q⟩
   ·exact⟨s,i,by omega,hli,q1,q2,q3⟩
  ·rintro ⟨s',i',q1,q2,q3,q4,q5⟩
   by_cases e:s'=s/\i'=i
   ·obtain⟨rfl,rfl⟩:=e
    exact .inr ⟨q3,q4,q5⟩
   ·exact .inl ⟨s',i',by omega,q2,q3,q4,q5⟩
 rw [ey]
 refine FO (hs.mono K1.le) ok hlt hli ⟨_,rfl,?_⟩
 rw [ey]
 have hc:=aD.at_lt hlt hli
 refine ac (fun e=>?_) (fun e=>?_)
 ·refine hp _ hc h1 K1.le _ ⟨_,rfl,?_⟩
  refine ac (fun e2=>?_) (fun e2=>?_)
  ·refine dE ?_
   (refine kr_ ?_)
   obtain⟨bx,ox,hax,hx1,hx2⟩:=(hnt.mono K1.le).get hc
   refine⟨bx,ox,hax,by omega,hx1,_,hx2,?_⟩
   have hnl:=ok.next _ hc
   refine⟨b8,0,rfl,by omega,by dsimp only;omega,?_⟩
   (((with_reducible apply Kn.wr);(assumption);((focus ((repeat first|exact .head|apply Upd.tail);done)))))
   ·rw [gT];omega
   intro h2 K2 _
   rw [bG,Nat.zero_add,Int.toNat_natCast,Nat.mul_one,lZ]at K2
   refine fin _ h2 K2 fun x=>?_
   by_cases ex:x=σ.next (σ.at_ s i)
   ·rw [if_pos ex];exact⟨fun _=> .inr ⟨e,e2,ex.symm⟩,fun _=>rfl⟩
   ·rw [if_neg ex]
    exact⟨fun q=> .inl q,fun q=>q.resolve_right fun q=>ex q.2.2.symm⟩
  ·exact fin T h1 K1 fun x=>⟨fun q=> .inl q,fun q=>q.resolve_right fun q=>by rw [q.2.1]at e2;cases e2⟩
 ·refine aE rfl ?_
  exact fin T h1 K1 fun x=>⟨fun q=> .inl q,fun q=>q.resolve_right fun q=>by rw [q.1]at e;cases e⟩
theorem Pr {h:Hp} {s:Sl} {N:Nat} {T:Nat->Bool} {R:Value->Hp->Prop} (hT:dc h s N T) (hN:N<=1048576) (k1: ∀i:Nat,i<N->T i=true->R (I i) h) (k2:oK N T=false->R (I (-1)) h):
  iJ #[s.v, .bool true] h R:=by
 apply tj
 refine uf_ ?_
 have hl:=hT.len
 rw [hl]
 refine av N (fun i vs h'=>vs= [s.v, .bool true,I N,I i]/\h'=h/\ ∀j,j<i->T j=false) ⟨rfl,rfl,fun j hj=>by omega⟩ ?_
 rintro i _ _ next hi ⟨rfl,rfl,hj⟩ hnx
 refine⟨s,_,_,_,rfl,?_⟩
 by_cases hlt:i<N
 ·refine aM (by rw [decide_eq_true_eq];exact_mod_cast hlt) ?_
  obtain⟨b,o,ha,h1,h2⟩:=hT.get hlt
  refine⟨b,o,ha,by omega,h1,_,h2,?_⟩
  refine ac (fun e=>?_) (fun e=>?_)
  ·exact k1 i hlt (by simpa using e)
  ·rw [aC (by omega)]
   refine hnx hlt _ _ ⟨rfl,rfl,fun j hji=>?_⟩
   by_cases eq:j=i
   ·rw [eq];simpa using e
   ·exact hj j (by omega)
 ·exact aE (by rw [decide_eq_false_iff_not];omega) (k2 (pZ.2 fun j hjn=>hj j (by omega)))
theorem Ae {h:Hp} {s:Sl} {N:Nat} {T:Nat->Bool} {R:Value->Hp->Prop} (hT:dc h s N T) (hN:N<=1048576) (k:R (.bool (oK N T)) h):
  eK #[s.v, .bool true] h R:=by
 apply qY
 refine uf_ ?_
 refine Pr hT hN (fun i hi e=>⟨_,rfl,?_⟩) fun e=>⟨_,rfl,?_⟩
 ·refine dt ?_ k
  rw [cE.2 ⟨i,hi,e⟩,decide_eq_true_eq];omega
 ·refine dt ?_ k
  rw [e];rfl
def Bj (h:Hp) (s:Sl) (n m:Nat) (L:Nat->Nat->Bool):Prop:= ∃ts:List Sl,ts.length=m/\SlC h s 1 (ts.map Sl.v)/\ ∀(j:Nat) (t:Sl),ts[j]?=some t->dc h t n (L j)
theorem Bj.mono {h h':Hp} {s:Sl} {n m:Nat} {L:Nat->Nat->Bool} (l:h.le h') (e:Bj h s n m L):Bj h' s n m L:=by
 obtain⟨ts,e1,e2,e3⟩:=e
 exact⟨ts,e1,e2.mono l,fun j t ht=>(e3 j t ht).mono l⟩
theorem Bj.len {h:Hp} {s:Sl} {n m:Nat} {L:Nat->Nat->Bool} (e:Bj h s n m L):s.n=m:=by
 obtain⟨ts,e1,e2,_⟩:=e
 have:=e2.2.1
 simp at this;omega
theorem Bj.get {h:Hp} {s:Sl} {n m i:Nat} {L:Nat->Nat->Bool} (e:Bj h s n m L) (hi:i<m):
  ∃b o t,s.a=some (Addr.mk b o none)/\(i:Int)<(s.n:Int)/\Hp.cell h b (o+Int.toNat (i:Int)*1)=some (Sl.v t)/\dc h t n (L i):=by
 have hl:=e.len
 obtain⟨ts,e1,e2,e3⟩:=e
 obtain⟨t,ht⟩: ∃t,ts[i]?=some t:=⟨_,List.getElem?_eq_getElem (by omega)⟩
 obtain⟨b,o,ha,hc⟩:=SlC.get e2 (by omega)
 refine⟨b,o,t,ha,by omega,?_,e3 i t ht⟩
 rw [Int.toNat_natCast,Nat.mul_one]
 exact hc i _ (by simp [ht])
theorem nE {h:Hp} {b:Nat} {σ:aD} {R:Value->Hp->Prop} (hs:pj h b σ) (ok:σ.Ok)
  (k: ∀s h',h.le h'->Bj h' s (2^σ.n) σ.nLay σ.front->R (Sl.v s) h'):dx #[.pointer (some ⟨b,0,none⟩)] h R:=by
 apply xj
 refine uf_ ?_
 have hn:=fh ok
 have h8:=ok.nle
 obtain⟨M,st,hold,bad,next,fx,_⟩:=id hs
 have K0:=Kn.nil h
 refine dE ?_
 (refine kr_ ?_)
 rw [if_neg (by omega),bJ (by omega)]
 refine⟨Int.natCast_nonneg _,Int.le_refl _,by omega,by omega,?_⟩
 (with_reducible apply Kn.al);(assumption);(intro b7 h1 K1 l1 hb7)
 rw [Int.toNat_natCast,Nat.mul_one,cn,kH]at K1
 refine dE ?_
 (refine kr_ ?_)
 rw [if_neg (by omega),bJ (by omega)]
 refine⟨Int.natCast_nonneg _,Int.le_refl _,by omega,by omega,?_⟩
 (with_reducible apply Kn.al);(assumption);(intro b13 h2 K2 l2 hb13)
 rw [Int.toNat_natCast,Nat.mul_one,cn,kH]at K2
 rw [Int.toNat_natCast]
 refine av (2^σ.n) (fun i vs h'=>vs= [.pointer (some ⟨b,0,none⟩),(arr b7 (2^σ.n)).v,(arr b13 (2^σ.n)).v,I (2^σ.n:Nat),I i]/\
  ∃U,Kn h h' [(b13, .inl ⟨tb (2^σ.n) U,2^σ.n,false⟩),(b7, .inl ⟨tb (2^σ.n) fun _=>false,2^σ.n,false⟩)]/\ ∀j,j<i->U j=σ.begins j)
  ⟨rfl,_,K2,fun j hj=>by omega⟩ ?_
 clear K2 K1 K0 l1 l2 hb7 hb13 h1 h2
 rintro i _ h1 nxt hi ⟨rfl,U,K1,hU⟩ hnx
 refine⟨_,arr b7 _,arr b13 _,_,_,rfl,?_⟩
 by_cases hlt:i<2^σ.n
 ·refine aM (by rw [decide_eq_true_eq];exact_mod_cast hlt) ?_
  refine yp (hs.mono K1.le) ok hlt ⟨_,rfl,?_⟩
  refine⟨b13,0,rfl,by omega,by dsimp only;omega,?_⟩
  (((with_reducible apply Kn.wr);(assumption);((focus ((repeat first|exact .head|apply Upd.tail);done)))))
  ·rw [gT];omega
  intro h2 K2 _
  rw [bG,Nat.zero_add,Int.toNat_natCast,Nat.mul_one,lZ]at K2
  rw [aC (by omega)]
  refine hnx hlt _ _ ⟨rfl,_,K2,fun j hj=>?_⟩
  by_cases e:j=i
  ·rw [if_pos e,e]
  ·rw [if_neg e];exact hU j (by omega)
 refine aE (by rw [decide_eq_false_iff_not];omega) ?_
 replace hU: ∀j,j<2^σ.n->U j=σ.front 0 j:=fun j hj=>hU j (by omega)
 clear hnx hi hlt
 refine av (2^σ.n) (fun i vs h'=> ∃(out:Sl) (g:Hp) (bF:Nat) (F V:Nat->Bool) (ts:List Sl),vs= [.pointer (some ⟨b,0,none⟩),(arr b7 (2^σ.n)).v,(arr bF (2^σ.n)).v,out.v]/\
  h.le g/\Kn g (h'.offS out) [(bF, .inl ⟨tb (2^σ.n) F,2^σ.n,false⟩),(b7, .inl ⟨tb (2^σ.n) V,2^σ.n,false⟩)]/\Buf h' out 1 (ts.map Sl.v)/\ts.length=i/\
  (∀(j:Nat) (t:Sl),ts[j]?=some t->dc g t (2^σ.n) (σ.front j))/\(∀j,j<2^σ.n->F j=σ.front i j)/\(∀j,j<2^σ.n->V j=σ.seen i j)/\ ∀j,j<i->σ.live j=true)
  ⟨⟨none,0,0⟩,h,b13,U,_, [],rfl,Hp.le_refl _,K1,eY _ _,rfl,fun j t ht=>by simp at ht,hU,fun _ _=>rfl,fun j hj=>by omega⟩ ?_
 clear K1 hU U h1 b13
 rintro i _ h1 nxt hi ⟨out,g,bF,F,V,ts,rfl,lg,K1,hB,htl,ht,hF,hV,hlive⟩ hnx
 refine⟨_,arr b7 _,arr bF _,out,rfl,?_⟩
 have K1':=K1.mono (bz h1 out)
 have hbF:dc h1 (arr bF (2^σ.n)) (2^σ.n) (σ.front i):=kq (by omega) (K1'.at (.head _)) hF
 have hon:=hB.1
 rw [List.length_map,Nat.mul_one]at hon
 refine Ae hbF (by omega) ⟨_,rfl,?_⟩
 refine ac (fun e=>?_) (fun e=>?_)
 rotate_left
 ·have hnl:σ.nLay=i:=aD.nLay_of hlive e
  exact k out h1 (Hp.le_trans lg K1'.le) ⟨ts,by omega,hB.slc_of (by omega),fun j t hj=>(ht j t hj).mono K1'.le⟩
 have hlive': ∀j,j<i+1->σ.live j=true:=fun j hj=>by
  by_cases e2:j=i
  ·rw [e2];exact e
  ·exact hlive j (by omega)
 have hlt:i<2^σ.n:=aD.live_le hlive'
 refine aj fun b55 h2 hb55 l2 f55=>?_
 refine dw (hB.mono l2) (by omega) (by omega) (by omega) ⟨b55,0,rfl,ay f55⟩ (by simp) rfl ?_
 intro s' h3 hs'n hB' l3 _
 have K2:=K1.mono (Hp.le_trans (bP out l2) l3)
 obtain⟨K3,K4⟩:=Kn.split (A:= [(bF, .inl ⟨tb (2^σ.n) F,2^σ.n,false⟩)]) (B:= [(b7, .inl ⟨tb (2^σ.n) V,2^σ.n,false⟩)]) K2
 have lg1:=K4.le
 have fF:=K4.at (.head _)
 generalize (h3.offS s').wo (([(b7, .inl ⟨tb (2^σ.n) V,2^σ.n,false⟩)]:List (Nat×Blk)).map Prod.fst)=g1 at*
 have lh:=Hp.le_trans lg lg1
 have lh3:=Hp.le_trans lh (Hp.le_trans K3.le (bz h3 s'))
 have tF:dc g1 (arr bF (2^σ.n)) (2^σ.n) (σ.front i):=kq (by omega) fF hF
 refine LK (hs.mono lh3) ok (tF.mono (Hp.le_trans K3.le (bz h3 s'))) (fun c hc h' l R kk=>Mx ((hs.mono lh3).mono l) hc kk) fun bN T h4 K5 hT=>⟨_,rfl,?_⟩
 have hbN:h3 bN=none:=K5.new _ (.head _)
 have K6:=K3.cons (b:=bN) (aF (bz h3 s') hbN) (bP s' K5.le) (hB'.offS_new hbN (K5.at (.head _)))
 have hB4:=hB'.mono K5.le
 refine av (2^σ.n) (fun x vs h'=>vs= [.pointer (some ⟨b,0,none⟩),(arr b7 (2^σ.n)).v,(arr bF (2^σ.n)).v,s'.v,(arr bN (2^σ.n)).v,I (2^σ.n:Nat),I x]/\
  ∃T V,Kn g1 (h'.offS s') [(bN, .inl ⟨tb (2^σ.n) T,2^σ.n,false⟩),(b7, .inl ⟨tb (2^σ.n) V,2^σ.n,false⟩)]/\Buf h' s' 1 (ts.map Sl.v++ [(arr bF (2^σ.n)).v])/\
   (∀j,j<2^σ.n->T j=if j<x then σ.front (i+1) j else σ.fwd σ.hold (σ.front i) j)/\ ∀j,j<2^σ.n->V j=if j<x then σ.seen (i+1) j else σ.seen i j)
  ⟨rfl,T,V,K6,hB4,fun j hj=>by rw [if_neg (by omega)];exact hT j hj,fun j hj=>by rw [if_neg (by omega)];exact hV j hj⟩ ?_
 clear K6 hB4 hT hV K5
 rintro x _ h5 nxt2 hx ⟨rfl,T,V,K,B,hT,hV⟩ hnx2
 refine⟨_,arr b7 _,arr bF _,s',arr bN _,_,_,rfl,?_⟩
 by_cases hlx:x<2^σ.n
 rotate_left
 ·refine aE (by rw [decide_eq_false_iff_not];omega) ?_
  refine hnx hlt _ _ ⟨s',g1,bN,T,V,ts++ [arr bF (2^σ.n)],rfl,lh,K,by rw [List.map_append];exact B,by simp [htl],fun j t hj=>?_,fun j hj=>by rw [hT j hj,if_pos (by omega)],
   fun j hj=>by rw [hV j hj,if_pos (by omega)],hlive'⟩
  by_cases hji:j<i
  ·rw [List.getElem?_append_left (by omega)]at hj
   exact(ht j t hj).mono lg1
  ·have hj2:=get_lt hj
   simp at hj2
   rw [List.getElem?_append_right (by omega),show j-ts.length=0 by omega]at hj
   simp at hj;subst hj
   rw [show j=i by omega];exact tF
 refine aM (by rw [decide_eq_true_eq];exact_mod_cast hlx) ?_
 refine ap (fun J=> ∀h'' V',Kn g1 (h''.offS s') [(bN, .inl ⟨tb (2^σ.n) T,2^σ.n,false⟩),(b7, .inl ⟨tb (2^σ.n) V',2^σ.n,false⟩)]->Buf h'' s' 1 (ts.map Sl.v++ [(arr bF (2^σ.n)).v])->
  (∀j,j<2^σ.n->V' j=if j<x+1 then σ.seen (i+1) j else σ.seen i j)->J h'') (fun h6 V' K6 B6 hV6=>?_) (fun J hJ=>?_)
 ·have hTx:T x=σ.fwd σ.hold (σ.front i) x:=by rw [hT x hlx,if_neg (by omega)]
  have hVx:V' x=σ.seen (i+1) x:=by rw [hV6 x hlx,if_pos (by omega)]
  have fin: ∀v h7,v=σ.front (i+1) x->Kn g1 (h7.offS s') [(bN, .inl ⟨(tb (2^σ.n) T).set x (.bool v),2^σ.n,false⟩),(b7, .inl ⟨tb (2^σ.n) V',2^σ.n,false⟩)]->Buf h7 s' 1 (ts.map Sl.v++ [(arr bF (2^σ.n)).v])->
    nxt2 [.pointer (some ⟨b,0,none⟩),(arr b7 (2^σ.n)).v,(arr bF (2^σ.n)).v,s'.v,(arr bN (2^σ.n)).v,I (2^σ.n:Nat),I (W ((x:Int)+1))] h7:=by
   intro v h7 hv K7 B7
   rw [aC (by omega)]
   rw [lZ]at K7
   refine hnx2 hlx _ _ ⟨rfl,_,V',K7,B7,fun j hj=>?_,hV6⟩
   by_cases e2:j=x
   ·rw [if_pos e2,if_pos (by omega),e2];exact hv
   ·rw [if_neg e2,hT j hj]
    by_cases e3:j<x
    ·rw [if_pos e3,if_pos (by omega)]
    ·rw [if_neg e3,if_neg (by omega)]
  have K6':=K6.mono (bz h6 s')
  refine⟨bN,0,rfl,by omega,by dsimp only;omega,?_⟩
  refine Kn.rd K6' (.head _) (x:=T x) (by rw [Nat.zero_add,Nat.mul_one,Int.toNat_natCast];exact pL hlx) ?_
  refine ac (fun e2=>?_) (fun e2=>?_)
  ·refine⟨b7,0,rfl,by omega,by dsimp only;omega,?_⟩
   refine Kn.rd K6' (.tail _ (.head _)) (x:=V' x) (by rw [Nat.zero_add,Nat.mul_one,Int.toNat_natCast];exact pL hlx) ?_
   refine⟨bN,0,rfl,by omega,by dsimp only;omega,?_⟩
   (with_reducible apply Kn.wrS);(exact K6);((focus ((repeat first|exact .head|apply Upd.tail);done)))
   ·rw [gT];omega
   intro h7 K7 B7 _
   rw [bG,Nat.zero_add,Int.toNat_natCast,Nat.mul_one]at K7
   exact fin _ h7 (by rw [aD.front_succ,<-hTx,e2,hVx];rfl) K7 (B7 _ _ B6)
  ·refine⟨bN,0,rfl,by omega,by dsimp only;omega,?_⟩
   (with_reducible apply Kn.wrS);(exact K6);((focus ((repeat first|exact .head|apply Upd.tail);done)))
   ·rw [gT];omega
   intro h7 K7 B7 _
   rw [bG,Nat.zero_add,Int.toNat_natCast,Nat.mul_one]at K7
   exact fin _ h7 (by rw [aD.front_succ,<-hTx,e2];rfl) K7 (B7 _ _ B6)
 ·have hVx:V x=σ.seen i x:=by rw [hV x hlx,if_neg (by omega)]
  have fin: ∀v h7,v=σ.seen (i+1) x->Kn g1 (h7.offS s') [(bN, .inl ⟨tb (2^σ.n) T,2^σ.n,false⟩),(b7, .inl ⟨(tb (2^σ.n) V).set x (.bool v),2^σ.n,false⟩)]->Buf h7 s' 1 (ts.map Sl.v++ [(arr bF (2^σ.n)).v])->J h7:=by
   intro v h7 hv K7 B7
   rw [lZ]at K7
   refine hJ h7 _ K7 B7 fun j hj=>?_
   by_cases e2:j=x
   ·rw [if_pos e2,if_pos (by omega),e2];exact hv
   ·rw [if_neg e2,hV j hj]
    by_cases e3:j<x
    ·rw [if_pos e3,if_pos (by omega)]
    ·rw [if_neg e3,if_neg (by omega)]
  have K':=K.mono (bz h5 s')
  refine⟨b7,0,rfl,by omega,by dsimp only;omega,?_⟩
  refine Kn.rd K' (.tail _ (.head _)) (x:=V x) (by rw [Nat.zero_add,Nat.mul_one,Int.toNat_natCast];exact pL hlx) ?_
  refine ac (fun e2=>?_) (fun e2=>?_)
  ·refine⟨b7,0,rfl,by omega,by dsimp only;omega,?_⟩
   (with_reducible apply Kn.wrS);(exact K);((focus ((repeat first|exact .head|apply Upd.tail);done)))
   ·rw [gT];omega
   intro h7 K7 B7 _
   rw [bG,Nat.zero_add,Int.toNat_natCast,Nat.mul_one]at K7
   exact fin _ h7 (by rw [aD.seen_succ,<-hVx,e2];rfl) K7 (B7 _ _ B)
  ·refine⟨bF,0,rfl,by omega,by dsimp only;omega,?_⟩
   refine Kn.rg K' fF (x:=F x) (by rw [Nat.zero_add,Nat.mul_one,Int.toNat_natCast];exact pL hlx) ?_
   refine⟨b7,0,rfl,by omega,by dsimp only;omega,?_⟩
   (with_reducible apply Kn.wrS);(exact K);((focus ((repeat first|exact .head|apply Upd.tail);done)))
   ·rw [gT];omega
   intro h7 K7 B7 _
   rw [bG,Nat.zero_add,Int.toNat_natCast,Nat.mul_one]at K7
   exact fin _ h7 (by rw [aD.seen_succ,<-hVx,e2,hF x hlx];rfl) K7 (B7 _ _ B)
def cx (X:List (Nat×Blk)) (s:Sl) (sz:Nat) (cs:List Value):Prop:=
 cs.length=s.n*sz/\s.n<=s.c/\((X= []/\s=⟨none,0,0⟩/\cs= [])\/ ∃b,s.a=some ⟨b,0,none⟩/\X= [(b, .inl ⟨cs,s.c*sz,false⟩)])
theorem cC (sz:Nat):cx [] ⟨none,0,0⟩ sz []:=⟨by simp,Nat.le_refl _, .inl ⟨rfl,rfl,rfl⟩⟩
theorem cx.buf {X:List (Nat×Blk)} {h:Hp} {s:Sl} {sz:Nat} {cs:List Value} (o:cx X s sz cs) (m: ∀e∈X,h e.1=some e.2):Buf h s sz cs:=by
 refine⟨o.1,o.2.1,?_⟩
 rcases o.2.2 with ⟨_,rfl,_⟩|⟨b,ha,rfl⟩
 ·exact .inl ⟨rfl,rfl,rfl⟩
 ·exact .inr ⟨b,ha,m _ (.head _)⟩
theorem Kn.perm {g h:Hp} {L L':List (Nat×Blk)} (K:Kn g h L) (p:L.Perm L'):Kn g h L':=K.sub (fun e he=>p.mem_iff.2 he) ((p.map Prod.fst).nodup_iff.1 K.nd)
theorem Kn.grow {g h:Hp} {X L:List (Nat×Blk)} {s:Sl} {sz by_ m:Nat} {cs news:List Value} {src:Option Addr} {C:Option Addr->Nat->Nat->Hp->Prop}
  (K:Kn g h (X++L)) (o:cx X s sz cs) (hm:0<m) (hsz:(s.n+m)*by_<=140737488355328) (hsz':s.n+m<=9223372036854775807)
  (hs: ∃sb so,src=some ⟨sb,so,none⟩/\gG h sb so news) (hl:news.length=m*sz) (ho:news.all (·.oneCell')=true)
  (k: ∀s' X' h',s'.n=s.n+m->cx X' s' sz (cs++news)->Kn g h' (X'++L)->(h.offS s).le h'->C s'.a s'.n s'.c h'):co h s.a s.n s.c src m sz by_ C:=by
 refine dw (o.buf fun e he=>K.mem e (List.mem_append_left _ he)) hm hsz hsz' hs hl ho fun s' h' hn B l _=>?_
 have nd:=K.nd
 rw [List.map_append,List.nodup_append]at nd
 have base:g.le (h.offS s)/\ ∀e∈L,(h.offS s) e.1=some e.2:=by
  rcases o.2.2 with ⟨_,rfl,_⟩|⟨b,ha,rfl⟩
  ·exact⟨K.le,fun e he=>K.mem e (List.mem_append_right _ he)⟩
  ·unfold Hp.offS
   rw [ha]
   refine⟨vw (K.new (b,_) (.head _)) K.le,fun e he=>?_⟩
   have hne:e.1≠b:=fun hb=>nd.2.2 b (by simp) e.1 (List.mem_map.2 ⟨e,he,rfl⟩) hb.symm
   simp only [Hp.off,Hp.set]
   rw [if_neg hne];exact K.mem e (List.mem_append_right _ he)
 rcases B.2.2 with ⟨_,h0,_⟩|⟨b,ha,hb⟩
 ·omega
 have hoff:(h'.offS s') b=none:=by simp [Hp.offS,ha,Hp.off,Hp.set]
 refine k s' [(b, .inl ⟨cs++news,s'.c*sz,false⟩)] h' hn ⟨B.1,B.2.1, .inr ⟨b,ha,rfl⟩⟩ ?_ (Hp.le_trans l (bz h' s'))
 have lo:=bz h' s'
 have hg:g b=none:=by
  cases hgb:g b with
  |none=>rfl
  |some x=>rw [l _ _ (base.1 _ _ hgb)]at hoff;cases hoff
 refine⟨Hp.le_trans base.1 (Hp.le_trans l lo),fun e he=>?_,fun e he=>?_,?_⟩
 ·rcases List.mem_cons.1 he with rfl|he
  ·exact hb
  ·exact lo _ _ (l _ _ (base.2 e he))
 ·rcases List.mem_cons.1 he with rfl|he
  ·exact hg
  ·exact K.new e (List.mem_append_right _ he)
 ·show (b::L.map Prod.fst).Nodup
  rw [List.nodup_cons]
  refine⟨fun hm=>?_,nd.2.1⟩
  obtain⟨e,he,heb⟩:=List.mem_map.1 hm
  have:=l _ _ (base.2 e he)
  rw [heb,hoff]at this;cases this
theorem Kn.growIn {g h:Hp} {A X L:List (Nat×Blk)} {s:Sl} {sz by_ m:Nat} {cs news:List Value} {src:Option Addr} {C:Option Addr->Nat->Nat->Hp->Prop}
  (K:Kn g h (A++(X++L))) (o:cx X s sz cs) (hm:0<m) (hsz:(s.n+m)*by_<=140737488355328) (hsz':s.n+m<=9223372036854775807)
  (hs: ∃sb so,src=some ⟨sb,so,none⟩/\gG h sb so news) (hl:news.length=m*sz) (ho:news.all (·.oneCell')=true)
  (k: ∀s' X' h',s'.n=s.n+m->cx X' s' sz (cs++news)->Kn g h' (A++(X'++L))->(h.offS s).le h'->C s'.a s'.n s'.c h'):co h s.a s.n s.c src m sz by_ C:=by
 have sw: ∀Y:List (Nat×Blk),(A++(Y++L)).Perm (Y++(A++L)):=fun Y=>by
  rw [<-List.append_assoc,<-List.append_assoc]
  exact List.perm_append_comm.append_right L
 exact Kn.grow (K.perm (sw X)) o hm hsz hsz' hs hl ho fun s' X' h' hn o' K' l=>k s' X' h' hn o' (K'.perm (sw X').symm) l
theorem Kn.growIn2 {g h:Hp} {A Y X L:List (Nat×Blk)} {s:Sl} {sz by_ m:Nat} {cs news:List Value} {src:Option Addr} {C:Option Addr->Nat->Nat->Hp->Prop}
  (K:Kn g h (A++(Y++(X++L)))) (o:cx X s sz cs) (hm:0<m) (hsz:(s.n+m)*by_<=140737488355328) (hsz':s.n+m<=9223372036854775807)
  (hs: ∃sb so,src=some ⟨sb,so,none⟩/\gG h sb so news) (hl:news.length=m*sz) (ho:news.all (·.oneCell')=true)
  (k: ∀s' X' h',s'.n=s.n+m->cx X' s' sz (cs++news)->Kn g h' (A++(Y++(X'++L)))->(h.offS s).le h'->C s'.a s'.n s'.c h'):co h s.a s.n s.c src m sz by_ C:=by
 have sw: ∀Z:List (Nat×Blk),(A++(Y++(Z++L))).Perm (A++(Z++(Y++L))):=fun Z=>by
  refine List.Perm.append_left A ?_
  rw [<-List.append_assoc,<-List.append_assoc]
  exact List.perm_append_comm.append_right L
 exact Kn.growIn (K.perm (sw X)) o hm hsz hsz' hs hl ho fun s' X' h' hn o' K' l=>k s' X' h' hn o' (K'.perm (sw X').symm) l
theorem Kn.growIn3 {g h:Hp} {A Y Z X L:List (Nat×Blk)} {s:Sl} {sz by_ m:Nat} {cs news:List Value} {src:Option Addr} {C:Option Addr->Nat->Nat->Hp->Prop}
  (K:Kn g h (A++(Y++(Z++(X++L))))) (o:cx X s sz cs) (hm:0<m) (hsz:(s.n+m)*by_<=140737488355328) (hsz':s.n+m<=9223372036854775807)
  (hs: ∃sb so,src=some ⟨sb,so,none⟩/\gG h sb so news) (hl:news.length=m*sz) (ho:news.all (·.oneCell')=true)
  (k: ∀s' X' h',s'.n=s.n+m->cx X' s' sz (cs++news)->Kn g h' (A++(Y++(Z++(X'++L))))->(h.offS s).le h'->C s'.a s'.n s'.c h'):co h s.a s.n s.c src m sz by_ C:=by
 have sw: ∀W:List (Nat×Blk),(A++(Y++(Z++(W++L)))).Perm (A++((Y++Z)++(W++L))):=fun W=>by rw [<-List.append_assoc Y Z]
 exact Kn.growIn2 (K.perm (sw X)) o hm hsz hsz' hs hl ho fun s' X' h' hn o' K' l=>k s' X' h' hn o' (K'.perm (sw X').symm) l
theorem cx.slc {X A L:List (Nat×Blk)} {g h:Hp} {s:Sl} {sz:Nat} {cs:List Value} (o:cx X s sz cs) (K:Kn g h (A++(X++L))) (hn:s.n<=9223372036854775807):SlC h s sz cs:=
 (o.buf fun e he=>K.mem e (List.mem_append_right _ (List.mem_append_left _ he))).slc_of hn
theorem gE.offG {X:List (Nat×Blk)} {h:Hp} {A s:Sl} {f:Nat->Bool} {n:Nat} {vs:List (List Nat)} (e:gE h s vs) (o:cx X A 1 ((List.range n).map fun i=> .bool (f i))) (m: ∀e∈X,h e.1=some e.2):gE (h.offS A) s vs:=by
 rcases o.2.2 with ⟨_,rfl,_⟩|⟨b,ha,rfl⟩
 ·exact e
 ·unfold Hp.offS
  rw [ha]
  refine e.keep (m _ (.head _)) (fun j i hj=>?_) (fun j t hj=>?_) fun c hc=>by simp [Hp.off,Hp.set,hc]
  ·simp only [List.getElem?_map,Option.map_eq_some_iff]at hj
   obtain⟨a,_,hj⟩:=hj
   cases hj
  ·simp only [List.getElem?_map,Option.map_eq_some_iff]at hj
   obtain⟨a,_,hj⟩:=hj
   cases hj
theorem gE.keepB {h h':Hp} {s:Sl} {b:Nat} {vs:List (List Nat)} (e:gE h s vs) (n: ∀o,s.a≠some (Addr.mk b o none)) (kp: ∀c,c≠b->h' c=h c) (ki: ∀o i,Hp.cell h b o=some (I i)->Hp.cell h' b o=some (I i)):gE h' s vs:=by
 have hc: ∀c o i,Hp.cell h c o=some (I i)->Hp.cell h' c o=some (I i):=fun c o i hi=>by
  by_cases e2:c=b
  ·subst e2;exact ki o i hi
  ·unfold Hp.cell at hi⊢;rw [kp c e2];exact hi
 refine⟨e.1,e.2.1,fun p hp=>?_⟩
 obtain⟨b',o,t,h1,h2,h3⟩:=e.2.2 p hp
 refine⟨b',o,t,h1,?_,h3.1,h3.2.1,h3.2.2.imp id ?_⟩
 ·have hne:b'≠b:=by rintro rfl;exact n o h1
  unfold Hp.cell at h2⊢;rw [kp b' hne];exact h2
 ·rintro ⟨c,o',ha,hcs⟩
  refine⟨c,o',ha,fun i v hv=>?_⟩
  have hvI:=hv
  rw [List.getElem?_map,Option.map_eq_some_iff]at hvI
  obtain⟨x,_,rfl⟩:=hvI
  exact hc _ _ _ (hcs i _ hv)
structure Bm where
 hs:Sl
 es:Sl
 ns:Sl
 fs:Sl
 bs:Sl
abbrev Ct (σ:aD) (q:Bm):List Value:= [I (2^σ.n:Nat),I (2^σ.k:Nat),q.hs.v,q.es.v,q.ns.v,q.fs.v,q.bs.v]
abbrev Fg (σ:aD) (q:Bm):Value:= .agg #[I (2^σ.n:Nat),I (2^σ.k:Nat),q.hs.v,q.es.v,q.ns.v,q.fs.v,q.bs.v]
def A0 (h:Hp) (q:Bm) (σ:aD):Prop:=dc h q.hs (2^(σ.n+σ.k)) σ.hold/\dc h q.es (2^(σ.n+σ.k)) σ.ends/\Bg h q.ns (2^(σ.n+σ.k)) σ.next/\
 (∃fm,fm+σ.fixed=2^σ.n-1/\IntS h q.fs (VL (eM fm)))/\dc h q.bs (2^σ.n) σ.begins
theorem A0.mono {h h':Hp} {q:Bm} {σ:aD} (l:h.le h') (e:A0 h q σ):A0 h' q σ:=by
 obtain⟨a,b,c,⟨fm,d1,d2⟩,f⟩:=e
 exact⟨a.mono l,b.mono l,c.mono l,⟨fm,d1,d2.mono l⟩,f.mono l⟩
theorem sE {α:Type} (f:Nat->α) (c:Nat):(List.range (c+1)).map f=(List.range c).map f++ [f c]:=by rw [List.range_succ,List.map_append];rfl
theorem PG {m:ah} (g:dj m):kL m+(aG m).fixed=2^(aG m).n-1:=by
 have:=Wx m.nodes (fun p=>(cf m.nexts p).isSome) (stP m)
 have e:=fo g
 show kL m+PC m m.nexts=2^ak m.nodes 36-1
 rw [<-e,<-this,Nat.add_comm];rfl
theorem pS {h:Hp} {M:MSl} {m:ah} {R:Value->Hp->Prop} (hs:aO h M m) (hm:bW m) (hc0:ax m=0)
  (k: ∀q h',h.le h'->A0 h' q (aG m)->R (Fg (aG m) q) h'):gX #[aQ M] h R:=by
 apply L4
 refine uf_ ?_
 have g:=cr hc0
 have hn8:=g.n8
 have hk5':=g.k5
 have ok:=gZ g
 have hp8:=fh ok
 have hk5:=DF ok
 have hp13:=qF ok
 have hnk:=aD.pow_nk (aG m)
 have K0:=Kn.nil h
 (with_reducible apply Kn.al);(assumption);(intro b7 h1 K1 l1 hb7)
 (with_reducible apply Kn.al);(assumption);(intro b9 h2 K2 l2 hb9)
 clear K0 K1 l1 hb7
 repeat' (refine kr_ ?_)
 refine gC (hs.mono K2.le) hm ⟨_,rfl,?_⟩
 repeat' (refine kr_ ?_)
 refine gC (hs.mono K2.le) hm ⟨_,rfl,?_⟩
 rw [cu (by omega),cu (by omega),if_neg (by omega),if_neg (by omega),bJ (by omega),bJ (by omega),show ak m.nodes 36=(aG m).n from rfl,show ak m.nodes 35=(aG m).k from rfl]
 repeat' (refine kr_ ?_)
 refine LZ (hs.mono K2.le) hm g fun F h3 l3 hF=>⟨_,rfl,?_⟩
 have hF':IntS (h3.wo (([(b9, .inl ⟨[I 0,I 0, .slice none 0 0, .slice none 0 0, .slice none 0 0, .slice none 0 0, .slice none 0 0],7,false⟩),(b7, .inl ⟨aw M,5,false⟩)]:List (Nat×Blk)).map Prod.fst)) F (VL (eM (kL m))):=
  SlC.mono (r8 (sub_le _ _) fun b hb=>by
   cases hx:h2 b with
   |none=>exact absurd hx (K2.has b hb)
   |some x=>exact my hx) hF
 have K3:=(K2.mono l3).base
 have lg:=(K2.mono l3).leBase
 clear hF K2
 generalize h3.wo (([(b9, .inl ⟨[I 0,I 0, .slice none 0 0, .slice none 0 0, .slice none 0 0, .slice none 0 0, .slice none 0 0],7,false⟩),(b7, .inl ⟨aw M,5,false⟩)]:List (Nat×Blk)).map Prod.fst)=g3 at*
 have hs3:=hs.mono lg
 (with_reducible apply Kn.al);(assumption);(intro b38 h4 K4 l4 hb38)
 (((with_reducible apply Kn.wr);(assumption);((focus ((repeat first|exact .head|apply Upd.tail);done)))))
 ·exact Nat.le_refl _
 intro h5 K5 kp5
 simp only [cA,List.set_cons_zero,List.set_cons_succ,Nat.zero_add,Nat.reduceAdd]at K5
 clear kp5 K4 l4 hb38
 refine av (2^((aG m).n+(aG m).k)) (fun c vs h'=> ∃(A B C:Sl) (XA XB XC:List (Nat×Blk)),vs= [.pointer (some ⟨b7,0,none⟩), .pointer (some ⟨b9,0,none⟩), .pointer (some ⟨b38,0,none⟩),I c]/\
  Kn g3 h' ((b38, .inl ⟨[I (2^(aG m).n:Nat),I (2^(aG m).k:Nat),A.v,B.v,C.v,F.v,(⟨none,0,0⟩:Sl).v],7,false⟩)::(b9, .inl ⟨[I 0,I 0, .slice none 0 0, .slice none 0 0, .slice none 0 0, .slice none 0 0, .slice none 0 0],7,false⟩)::(b7, .inl ⟨aw M,5,false⟩)::(XA++(XB++(XC++ []))))/\cx XA A 1 ((List.range c).map fun i=> .bool ((aG m).hold i))/\cx XB B 1 ((List.range c).map fun i=> .bool ((aG m).ends i))/\
   cx XC C 1 ((List.range c).map fun i=>I ((aG m).next i:Nat))) ⟨⟨none,0,0⟩,⟨none,0,0⟩,⟨none,0,0⟩, [], [], [],rfl,K5,cC _,cC _,cC _⟩ ?_
 clear K5 h5
 rintro c _ h5 nxt hc ⟨A,B,C,XA,XB,XC,rfl,K,oA,oB,oC⟩ hnx
 refine⟨b7,0,b9,0,b38,0,_,rfl,?_⟩
 repeat' (refine kr_ ?_)
 have hxy:((2^(aG m).n:Nat):Int)*((2^(aG m).k:Nat):Int)=((2^((aG m).n+(aG m).k):Nat):Int):=by rw [hnk,<-Int.natCast_mul,Nat.mul_comm]
 rw [hxy,eO (by omega)]
 have hAn:A.n=c:=by have:=oA.1;simp at this;omega
 have hBn:B.n=c:=by have:=oB.1;simp at this;omega
 have hCn:C.n=c:=by have:=oC.1;simp at this;omega
 by_cases hlt:c<2^((aG m).n+(aG m).k)
 ·refine aM (by rw [decide_eq_true_eq];exact_mod_cast hlt) ?_
  repeat' (refine kr_ ?_)
  refine z7 (hs3.mono K.le) hm g hlt fun t h6 l6 htn hpv hnew=>⟨t,rfl,?_⟩
  have n38: ∀o,t.a≠some (Addr.mk b38 o none):=fun o ho=>by have:=hnew _ _ ho;rw [K.at (.head _)]at this;cases this
  replace K:=K.mono l6
  have a:Cu m (cl m (c%2^ak m.nodes 36) (c/2^ak m.nodes 36)):=eD g _ _
  have hv1:(aG m).hold c=gY m (cl m (c%2^ak m.nodes 36) (c/2^ak m.nodes 36)):=rfl
  have hv2:(aG m).bad c=(qD m (cl m (c%2^ak m.nodes 36) (c/2^ak m.nodes 36))).isSome:=rfl
  have hv3:(aG m).next c=mC m (c%2^ak m.nodes 36) (c/2^ak m.nodes 36):=rfl
  repeat' (refine kr_ ?_)
  refine vB (hs3.mono K.le) g hpv a ⟨_,rfl,?_⟩
  repeat' (refine kr_ ?_)
  rw [<-hv1]
  refine aj fun b80 h7 hb80 l7 f80=>?_
  replace K:=K.mono l7
  replace hpv:=hpv.mono l7
  refine Kn.growIn (A:= [_,_,_]) K oA (by omega) (by omega) (by omega) ⟨b80,0,rfl,ay f80⟩ rfl rfl fun A' XA' h8 hn' oA' K8 l8=>?_
  replace hpv:=(hpv.offG oA fun e he=>K.mem e (by simp [he])).mono l8
  simp only [List.cons_append,List.nil_append]at K8
  (((with_reducible apply Kn.wr);(assumption);((focus ((repeat first|exact .head|apply Upd.tail);done)))))
  ·simp
  intro h9 K9 kp9
  have f8:=K8.at (.head _)
  have f9:=K9.at (.head _)
  simp only [bG,List.set_cons_zero,List.set_cons_succ,Nat.zero_add,Nat.reduceAdd]at K9
  rw [bG]at f9
  replace hpv:=hpv.keepB n38 kp9 fun o i hi=>by
   rw [aq f8]at hi
   rw [aq f9,List.getElem?_set]
   by_cases e:0+2=o
   ·subst e;simp at hi
   ·rw [if_neg e];exact hi
  clear f8 f9
  refine ap (fun J=> ∀(B':Sl) (XB':List (Nat×Blk)) (h':Hp),Kn g3 h' ((b38, .inl ⟨[I (2^(aG m).n:Nat),I (2^(aG m).k:Nat),A'.v,B'.v,C.v,F.v,(⟨none,0,0⟩:Sl).v],7,false⟩)::(b9, .inl ⟨[I 0,I 0, .slice none 0 0, .slice none 0 0, .slice none 0 0, .slice none 0 0, .slice none 0 0],7,false⟩)::(b7, .inl ⟨aw M,5,false⟩)::(XA'++(XB'++(XC++ []))))->cx XB' B' 1 ((List.range (c+1)).map fun i=> .bool ((aG m).ends i))->J h') (fun B' XB' h10 K10 oB'=>?_) (fun J hJ=>?_)
  ·clear K9 K8 K hpv
   have hcm:c%2^(aG m).n<=c:=Nat.mod_le _ _
   have hcd:c/2^(aG m).n<=c:=Nat.div_le_self _ _
   have hpos:=Nat.two_pow_pos (aG m).n
   repeat' (refine kr_ ?_)
   rw [if_neg (by omega)]
   repeat' (refine kr_ ?_)
   rw [if_neg (by omega),eU,show Int.tdiv (c:Int) ((2^(aG m).n:Nat):Int)=((c/2^(aG m).n:Nat):Int)from rfl,eO (by omega)]
   refine Eo (hs3.mono K10.le) hm g (by omega) (by omega) ⟨_,rfl,?_⟩
   repeat' (refine kr_ ?_)
   refine aj fun b131 h11 hb131 l11 f131=>?_
   have K11:=K10.mono l11
   repeat' (refine kr_ ?_)
   refine Kn.growIn3 (A:= [_,_,_]) K11 oC (by omega) (by omega) (by omega) ⟨b131,0,rfl,ay f131⟩ rfl rfl fun C' XC' h12 hn2 oC' K12 _=>?_
   simp only [List.cons_append,List.nil_append]at K12
   (((with_reducible apply Kn.wr);(assumption);((focus ((repeat first|exact .head|apply Upd.tail);done)))))
   ·simp
   intro h13 K13 _
   simp only [bG,List.set_cons_zero,List.set_cons_succ,Nat.zero_add,Nat.reduceAdd]at K13
   rw [aC (by omega)]
   exact hnx hlt _ _ ⟨A',B',C',XA',XB',XC',rfl,K13,by rw [sE];exact oA',oB',by rw [sE];exact oC'⟩
  ·clear K8 K
   refine ac (fun e1=>?_) (fun e1=>?_)
   ·repeat' (refine kr_ ?_)
    refine AQ (hs3.mono K9.le) g hpv a ⟨_,rfl,?_⟩
    repeat' (refine kr_ ?_)
    rw [AD,<-hv2]
    refine aj fun b99 h11 hb99 l11 f99=>?_
    have K11:=K9.mono l11
    repeat' (refine kr_ ?_)
    refine Kn.growIn2 (A:= [_,_,_]) K11 oB (by omega) (by omega) (by omega) ⟨b99,0,rfl,ay f99⟩ rfl rfl fun B' XB' h12 hn2 oB' K12 _=>?_
    simp only [List.cons_append,List.nil_append]at K12
    (((with_reducible apply Kn.wr);(assumption);((focus ((repeat first|exact .head|apply Upd.tail);done)))))
    ·simp
    intro h13 K13 _
    simp only [bG,List.set_cons_zero,List.set_cons_succ,Nat.zero_add,Nat.reduceAdd]at K13
    exact hJ B' XB' h13 K13 (by rw [sE];unfold aD.ends;rw [e1];exact oB')
   ·repeat' (refine kr_ ?_)
    refine aj fun b99 h11 hb99 l11 f99=>?_
    have K11:=K9.mono l11
    repeat' (refine kr_ ?_)
    refine Kn.growIn2 (A:= [_,_,_]) K11 oB (by omega) (by omega) (by omega) ⟨b99,0,rfl,ay f99⟩ rfl rfl fun B' XB' h12 hn2 oB' K12 _=>?_
    simp only [List.cons_append,List.nil_append]at K12
    (((with_reducible apply Kn.wr);(assumption);((focus ((repeat first|exact .head|apply Upd.tail);done)))))
    ·simp
    intro h13 K13 _
    simp only [bG,List.set_cons_zero,List.set_cons_succ,Nat.zero_add,Nat.reduceAdd]at K13
    exact hJ B' XB' h13 K13 (by rw [sE];unfold aD.ends;rw [e1];exact oB')
 ·refine aE (by rw [decide_eq_false_iff_not];omega) ?_
  clear hnx
  have hce:c=2^((aG m).n+(aG m).k):=by omega
  refine av (2^(aG m).n) (fun d vs h'=> ∃(D:Sl) (XD:List (Nat×Blk)),vs= [.pointer (some ⟨b7,0,none⟩), .pointer (some ⟨b9,0,none⟩), .pointer (some ⟨b38,0,none⟩),I d]/\
   Kn g3 h' ((b38, .inl ⟨[I (2^(aG m).n:Nat),I (2^(aG m).k:Nat),A.v,B.v,C.v,F.v,D.v],7,false⟩)::(b9, .inl ⟨[I 0,I 0, .slice none 0 0, .slice none 0 0, .slice none 0 0, .slice none 0 0, .slice none 0 0],7,false⟩)::(b7, .inl ⟨aw M,5,false⟩)::(XD++(XA++(XB++(XC++ [])))))/\cx XD D 1 ((List.range d).map fun i=> .bool ((aG m).begins i))) ⟨⟨none,0,0⟩, [],rfl,K,cC _⟩ ?_
  clear K h5 hlt hc
  rintro d _ h5 nxt2 hd ⟨D,XD,rfl,K,oD⟩ hnx2
  have hDn:D.n=d:=by have:=oD.1;simp at this;omega
  refine⟨b7,0,b9,0,b38,0,_,rfl,?_⟩
  repeat' (refine kr_ ?_)
  by_cases hld:d<2^(aG m).n
  ·refine aM (by rw [decide_eq_true_eq];exact_mod_cast hld) ?_
   repeat' (refine kr_ ?_)
   refine cU (hs3.mono K.le) hm fun p h6 l6 ip=>⟨p,rfl,?_⟩
   have K6:=K.mono l6
   repeat' (refine kr_ ?_)
   refine gi (hs3.mono K6.le) hm g.ok ip (cO g 36) (jc g 36) (by omega) (by have:=fo g;show cD m.nodes (stP m)<=60;omega) fun u h7 l7 iu=>⟨u,rfl,?_⟩
   have K7:=K6.mono l7
   repeat' (refine kr_ ?_)
   refine j9 (hs3.mono K7.le) hm hc0 iu (by rw [qm];exact NJ _ _ _) ⟨_,rfl,?_⟩
   have hb:gt (stP m) (eA m) (fq m.nodes (aH m.nodes 36) d) (stP m).length=(aG m).begins d:=by
    rw [Bool.eq_iff_iff,jj,wg g]
   rw [hb]
   repeat' (refine kr_ ?_)
   refine aj fun b184 h8 hb184 l8 f184=>?_
   have K8:=K7.mono l8
   repeat' (refine kr_ ?_)
   refine Kn.growIn (A:= [_,_,_]) K8 oD (by omega) (by omega) (by omega) ⟨b184,0,rfl,ay f184⟩ rfl rfl fun D' XD' h9 hn2 oD' K9 _=>?_
   simp only [List.cons_append,List.nil_append]at K9
   (((with_reducible apply Kn.wr);(assumption);((focus ((repeat first|exact .head|apply Upd.tail);done)))))
   ·simp
   intro h10 K10 _
   simp only [bG,List.set_cons_zero,List.set_cons_succ,Nat.zero_add,Nat.reduceAdd]at K10
   rw [aC (by omega)]
   exact hnx2 hld _ _ ⟨D',XD',rfl,K10,by rw [sE];exact oD'⟩
  ·have hde:d=2^(aG m).n:=by omega
   refine aE (by rw [decide_eq_false_iff_not];omega) ?_
   clear hnx2
   repeat' (refine kr_ ?_)
   (((with_reducible apply Kn.wr);(assumption);((focus ((repeat first|exact .head|apply Upd.tail);done)))))
   ·simp
   intro h6 K6 _
   simp only [cA,List.set_cons_zero,List.set_cons_succ,Nat.zero_add,Nat.reduceAdd]at K6
   repeat' (refine kr_ ?_)
   subst hce hde
   refine k ⟨A,B,C,F,D⟩ h6 (Hp.le_trans lg K6.le) ⟨?_,?_,?_,⟨kL m,PG g,hF'.mono K6.le⟩,?_⟩
   ·have:=(oA.buf fun e he=>K6.mem e (by simp [he])).slc_of (by omega)
    unfold dc ru;rw [List.map_map];exact this
   ·have:=(oB.buf fun e he=>K6.mem e (by simp [he])).slc_of (by omega)
    unfold dc ru;rw [List.map_map];exact this
   ·have:=(oC.buf fun e he=>K6.mem e (by simp [he])).slc_of (by omega)
    unfold Bg IntS VL;rw [List.map_map,List.map_map];exact this
   ·have:=(oD.buf fun e he=>K6.mem e (by simp [he])).slc_of (by omega)
    unfold dc ru;rw [List.map_map];exact this
theorem L5 {h:Hp} {s:Sl} {N:Nat} {T:Nat->Bool} {R:Value->Hp->Prop} (hT:dc h s N T) (hN:N<=1048576) (k:R (.bool (oK N T)) h):td #[s.v] h R:=by
 apply Iv
 refine uf_ ?_
 have hl:=hT.len
 refine av N (fun i vs h'=>vs= [s.v,I i]/\h=h'/\ ∀j,j<i->T j=false) ⟨rfl,rfl,fun j hj=>by omega⟩ ?_
 rintro i _ _ next hi ⟨rfl,rfl,hj⟩ hnx
 refine⟨s,_,rfl,?_⟩
 by_cases hlt:i<N
 ·refine aM (by rw [decide_eq_true_eq];omega) ?_
  obtain⟨b,o,ha,h1,h2⟩:=hT.get hlt
  refine⟨b,o,ha,by omega,h1,_,h2,?_⟩
  refine ac (fun e=>?_) (fun e=>?_)
  ·rw [cE.2 ⟨i,hlt,e⟩]at k;exact k
  ·rw [aC (by omega)]
   refine hnx hlt _ _ ⟨rfl,rfl,fun j hji=>?_⟩
   by_cases eq:j=i
   ·rw [eq];exact e
   ·exact hj j (by omega)
 ·refine aE (by rw [decide_eq_false_iff_not];omega) ?_
  rw [pZ.2 fun j hjn=>hj j (by omega)]at k;exact k
theorem C4 {k f:Nat}:f∈eM k↔f&&&k=f:=by
 unfold eM
 rw [List.mem_filter,List.mem_range,decide_eq_true_eq]
 refine⟨fun h=>h.2,fun h=>⟨?_,h⟩⟩
 have:f&&&k<=k:=Nat.and_le_right
 omega
theorem nF {σ:aD} {fm c t:Nat} (ok:σ.Ok) (hfm:fm+σ.fixed=2^σ.n-1) (hc:c<2^(σ.n+σ.k)) (ht:t<2^σ.n):σ.goes c t=true↔ ∃f,f∈eM fm/\σ.next c+f=t:=by
 unfold aD.goes
 rw [decide_eq_true_eq,Vw (y:=fm) (by omega) ok.fixed ht (ok.next c hc) (ok.held c hc)]
 constructor
 ·rintro ⟨f,h1,h2⟩;exact⟨f,C4.2 h1,h2⟩
 ·rintro ⟨f,h1,h2⟩;exact⟨f,C4.1 h1,h2⟩
theorem BL {σ:aD} {fm c f:Nat} (ok:σ.Ok) (hfm:fm+σ.fixed=2^σ.n-1) (hc:c<2^(σ.n+σ.k)) (hf:f∈eM fm):σ.next c+f<2^σ.n:=by
 have h1:=C4.1 hf
 have h2:f&&&fm<=fm:=Nat.and_le_right
 have h3:=ok.held c hc
 have h4:σ.next c&&&σ.fixed<=σ.fixed:=Nat.and_le_right
 have:=Nat.two_pow_pos σ.n
 omega
theorem G0 {h:Hp} {q:Bm} {σ:aD} {s:Sl} {S:Nat->Bool} {R:Value->Hp->Prop} (hq:A0 h q σ) (ok:σ.Ok) (hS:dc h s (2^σ.n) S)
  (k: ∀b' T h',Kn h h' [(b', .inl ⟨tb (2^σ.n) T,2^σ.n,false⟩)]->(∀j,j<2^σ.n->T j=σ.fwd σ.hold S j)->R (arr b' (2^σ.n)).v h'):pA #[Fg σ q,s.v] h R:=by
 apply CO
 refine uf_ ?_
 have hn:=fh ok
 have hp:=qF ok
 have hpos:=Nat.two_pow_pos σ.n
 obtain⟨hh,_,hx,⟨fm,hfm,hfl⟩,_⟩:=id hq
 have hhl:=hh.len
 have hxl:=IntS.len hx
 rw [aY,List.length_map,List.length_range]at hxl
 have hfll:=IntS.len hfl
 rw [aY]at hfll
 have hfb:(eM fm).length<=2^σ.n:=by
  have h1:(eM fm).length<=fm+1:=by unfold eM;have:=List.length_filter_le (fun c=>decide (c&&&fm=c)) (List.range (fm+1));simpa using this
  omega
 have K0:=Kn.nil h
 (with_reducible apply Kn.al);(assumption);(intro b10 h1 K1 l1 hb10)
 (refine kr_ ?_)
 refine⟨Int.natCast_nonneg _,Int.le_refl _,by omega,by omega,?_⟩
 (with_reducible apply Kn.al);(assumption);(intro b14 h2 K2 l2 hb14)
 rw [Int.toNat_natCast,Nat.mul_one,cn,kH]at K2
 rw [Int.toNat_natCast]
 refine av (2^(σ.n+σ.k)) (fun c vs h'=>vs= [s.v, .pointer (some ⟨b10,0,none⟩),(arr b14 (2^σ.n)).v,I c]/\
  ∃T,Kn h h' [(b14, .inl ⟨tb (2^σ.n) T,2^σ.n,false⟩),(b10, .inl ⟨Ct σ q,7,false⟩)]/\ ∀x,T x=true↔ ∃c',c'<c/\S (c'%2^σ.n)=true/\σ.hold c'=true/\ ∃f,f∈eM fm/\σ.next c'+f=x)
  ⟨rfl,_,K2,fun x=>⟨fun e=>by simp at e,fun⟨c',e,_⟩=>by omega⟩⟩ ?_
 clear K2 K1 K0 l1 l2 hb10 hb14 h1 h2
 rintro c _ h1 nxt hc ⟨rfl,T,K1,hT⟩ hnx
 refine⟨s,b10,0,arr b14 _,_,rfl,?_⟩
 (refine kr_ ?_)
 by_cases hlt:c<2^(σ.n+σ.k)
 rotate_left
 ·refine aE (by rw [decide_eq_false_iff_not];omega) ?_
  refine k b14 T h1 (K1.sub (fun e he=>by rw [List.mem_singleton]at he;subst he;exact .head _) (by simp)) fun j hj=>?_
  rw [Bool.eq_iff_iff,hT,aD.fwd_iff]
  constructor
  ·rintro ⟨c',q1,q2,q3,q4⟩
   have hc':c'<2^(σ.n+σ.k):=by omega
   obtain⟨a1,a2,a3⟩:=aD.at_of hc'
   exact⟨c'%2^σ.n,c'/2^σ.n,a1,a2,q2,by rw [a3];exact q3,by rw [a3];exact(nF ok hfm hc' hj).2 q4⟩
  ·rintro ⟨s',i',q1,q2,q3,q4,q5⟩
   have hc':=aD.at_lt q1 q2
   exact⟨σ.at_ s' i',by omega,by rw [aD.at_mod q1];exact q3,q4,(nF ok hfm hc' hj).1 q5⟩
 refine aM (by rw [decide_eq_true_eq];omega) ?_
 have skip:(S (c%2^σ.n)&&σ.hold c)=false->nxt [s.v, .pointer (some ⟨b10,0,none⟩),(arr b14 (2^σ.n)).v,I (W ((c:Int)+1))] h1:=fun e=>by
  rw [aC (by omega)]
  refine hnx hlt _ _ ⟨rfl,T,K1,fun x=>?_⟩
  rw [hT]
  constructor
  ·rintro ⟨c',q1,q⟩;exact⟨c',by omega,q⟩
  ·rintro ⟨c',q1,q2,q3,q4⟩
   by_cases e2:c'=c
   ·rw [e2]at q2 q3;rw [q2,q3]at e;cases e
   ·exact⟨c',by omega,q2,q3,q4⟩
 rw [ey]
 (refine kr_ ?_)
 rw [if_neg (by omega),eU]
 obtain⟨b,o,ha,e1,e2⟩:=(hS.mono K1.le).get (i:=c%2^σ.n) (Nat.mod_lt _ hpos)
 refine⟨b,o,ha,by omega,e1,_,e2,?_⟩
 refine ac (fun e=>?_) (fun e=>?_)
 ·exact aM rfl (skip (by have:S (c%2^σ.n)=false:=by simpa using e
                         rw [this];rfl))
 have eS:S (c%2^σ.n)=true:=by simpa using e
 (refine kr_ ?_)
 obtain⟨b,o,ha,e1,e2⟩:=(hh.mono K1.le).get hlt
 refine⟨b,o,ha,by omega,e1,_,e2,?_⟩
 refine ac (fun e=>?_) (fun e=>?_)
 ·exact skip (by have:σ.hold c=false:=by simpa using e
                 rw [this,Bool.and_false])
 have eH:σ.hold c=true:=by simpa using e
 refine av (eM fm).length (fun j vs h'=>vs= [s.v, .pointer (some ⟨b10,0,none⟩),(arr b14 (2^σ.n)).v,I c,I j]/\
  ∃U,Kn h h' [(b14, .inl ⟨tb (2^σ.n) U,2^σ.n,false⟩),(b10, .inl ⟨Ct σ q,7,false⟩)]/\ ∀x,U x=true↔T x=true\/ ∃f,f∈(eM fm).take j/\σ.next c+f=x)
  ⟨rfl,T,K1,fun x=>⟨fun q=> .inl q,fun q=>q.resolve_right fun⟨f,q1,_⟩=>by simp at q1⟩⟩ ?_
 clear skip K1
 rintro j _ h1 nxt2 hj ⟨rfl,U,K1,hU⟩ hnx2
 refine⟨s,b10,0,arr b14 _,_,_,rfl,?_⟩
 (refine kr_ ?_)
 by_cases hlj:j<(eM fm).length
 rotate_left
 ·refine aE (by rw [decide_eq_false_iff_not];omega) ?_
  rw [aC (by omega)]
  refine hnx hlt _ _ ⟨rfl,U,K1,fun x=>?_⟩
  rw [hU,hT,List.take_of_length_le (by omega)]
  constructor
  ·rintro (⟨c',q1,q⟩|q)
   ·exact⟨c',by omega,q⟩
   ·exact⟨c,by omega,eS,eH,q⟩
  ·rintro ⟨c',q1,q2,q3,q4⟩
   by_cases e2:c'=c
   ·rw [e2]at q4;exact .inr q4
   ·exact .inl ⟨c',by omega,q2,q3,q4⟩
 refine aM (by rw [decide_eq_true_eq];omega) ?_
 (refine kr_ ?_)
 obtain⟨b,o,ha,e1,e2⟩:=Bg.get (hx.mono K1.le) hlt
 refine⟨b,o,ha,by omega,e1,_,e2,?_⟩
 (refine kr_ ?_)
 obtain⟨f,hf⟩: ∃f,(eM fm)[j]?=some f:=⟨_,List.getElem?_eq_getElem hlj⟩
 obtain⟨b,o,ha,e3⟩:=(hfl.mono K1.le).get (gU hf)
 refine⟨b,o,ha,by omega,by omega,_,e3,?_⟩
 have hlf:=BL ok hfm hlt (List.mem_of_getElem? hf)
 rw [<-Int.natCast_add,eO (by omega)]
 refine⟨b14,0,rfl,by omega,by dsimp only;omega,?_⟩
 (((with_reducible apply Kn.wr);(assumption);((focus ((repeat first|exact .head|apply Upd.tail);done)))))
 ·rw [gT];omega
 intro h2 K2 _
 rw [bG,Nat.zero_add,Int.toNat_natCast,Nat.mul_one,lZ]at K2
 rw [aC (by omega)]
 refine hnx2 hlj _ _ ⟨rfl,_,K2,fun x=>?_⟩
 rw [List.take_add_one,hf]
 by_cases ex:x=σ.next c+f
 ·rw [if_pos ex]
  exact⟨fun _=> .inr ⟨f,by simp,ex.symm⟩,fun _=>rfl⟩
 ·rw [if_neg ex,hU]
  constructor
  ·rintro (q|⟨f',q1,q2⟩)
   ·exact .inl q
   ·exact .inr ⟨f',List.mem_append_left _ q1,q2⟩
  ·rintro (q|⟨f',q1,q2⟩)
   ·exact .inl q
   ·rcases List.mem_append.1 q1 with q1|q1
    ·exact .inr ⟨f',q1,q2⟩
    ·simp at q1;subst q1;exact absurd q2.symm ex
theorem nX {h:Hp} {q:Bm} {σ:aD} {R:Value->Hp->Prop} (hq:A0 h q σ) (ok:σ.Ok)
  (k: ∀s h',h.le h'->Bj h' s (2^σ.n) σ.nLay σ.front->R (Sl.v s) h'):ie #[Fg σ q] h R:=by
 apply Di
 refine uf_ ?_
 have hn:=fh ok
 have h8:=ok.nle
 have K0:=Kn.nil h
 (with_reducible apply Kn.al);(assumption);(intro b9 h1 K1 l1 hb9)
 (refine kr_ ?_)
 refine⟨Int.natCast_nonneg _,Int.le_refl _,by omega,by omega,?_⟩
 (with_reducible apply Kn.al);(assumption);(intro b14 h2 K2 l2 hb14)
 rw [Int.toNat_natCast,Nat.mul_one,cn,kH]at K2
 rw [Int.toNat_natCast]
 (refine kr_ ?_)
 refine av (2^σ.n) (fun i vs h'=> ∃(out fr:Sl) (g:Hp) (V:Nat->Bool) (ts:List Sl),vs= [.pointer (some ⟨b9,0,none⟩),out.v,(arr b14 (2^σ.n)).v,fr.v]/\
  h.le g/\Kn g (h'.offS out) [(b14, .inl ⟨tb (2^σ.n) V,2^σ.n,false⟩),(b9, .inl ⟨Ct σ q,7,false⟩)]/\dc g fr (2^σ.n) (σ.front i)/\Buf h' out 1 (ts.map Sl.v)/\ts.length=i/\
  (∀(j:Nat) (t:Sl),ts[j]?=some t->dc g t (2^σ.n) (σ.front j))/\(∀j,j<2^σ.n->V j=σ.seen i j)/\ ∀j,j<i->σ.live j=true)
  ⟨⟨none,0,0⟩,q.bs,h,_, [],rfl,Hp.le_refl _,K2,hq.2.2.2.2,eY _ _,rfl,fun j t ht=>by simp at ht,fun _ _=>rfl,fun j hj=>by omega⟩ ?_
 clear K2 K1 K0 l1 l2 hb9 hb14 h1 h2
 rintro i _ h1 nxt hi ⟨out,fr,g,V,ts,rfl,lg,K1,hF,hB,htl,ht,hV,hlive⟩ hnx
 refine⟨b9,0,out,arr b14 _,fr,rfl,?_⟩
 have K1':=K1.mono (bz h1 out)
 have hbF:=hF.mono K1'.le
 have hon:=hB.1
 rw [List.length_map,Nat.mul_one]at hon
 refine L5 hbF (by omega) ⟨_,rfl,?_⟩
 refine ac (fun e=>?_) (fun e=>?_)
 rotate_left
 ·have hnl:σ.nLay=i:=aD.nLay_of hlive e
  exact k out h1 (Hp.le_trans lg K1'.le) ⟨ts,by omega,hB.slc_of (by omega),fun j t hj=>(ht j t hj).mono K1'.le⟩
 have hlive': ∀j,j<i+1->σ.live j=true:=fun j hj=>by
  by_cases e2:j=i
  ·rw [e2];exact e
  ·exact hlive j (by omega)
 have hlt:i<2^σ.n:=aD.live_le hlive'
 refine aj fun b34 h2 hb34 l2 f34=>?_
 refine dw (hB.mono l2) (by omega) (by omega) (by omega) ⟨b34,0,rfl,ay f34⟩ (by simp) rfl ?_
 intro s' h3 hs'n hB' l3 _
 have K2:=K1.mono (Hp.le_trans (bP out l2) l3)
 have K2':=K2.mono (bz h3 s')
 repeat' (refine kr_ ?_)
 refine G0 (hq.mono (Hp.le_trans lg K2'.le)) ok (hF.mono K2'.le) fun bB T h4 K5 hT=>⟨_,rfl,?_⟩
 have hbB:h3 bB=none:=K5.new _ (.head _)
 have K6:=K2.cons (b:=bB) (aF (bz h3 s') hbB) (bP s' K5.le) (hB'.offS_new hbB (K5.at (.head _)))
 have hB4:=hB'.mono K5.le
 have K6':=K6.mono (bz h4 s')
 (refine kr_ ?_)
 refine⟨Int.natCast_nonneg _,Int.le_refl _,by omega,by omega,?_⟩
 refine aj fun b53 h5 hb53 l5 f53=>?_
 rw [Int.toNat_natCast,Nat.mul_one,cn,kH]at f53
 rw [Int.toNat_natCast]
 have K7:=K6.cons (b:=b53) (aF (bz h4 s') hb53) (bP s' l5) (hB4.offS_new hb53 f53)
 have hB5:=hB4.mono l5
 refine av (2^σ.n) (fun x vs h'=>vs= [.pointer (some ⟨b9,0,none⟩),s'.v,(arr b14 (2^σ.n)).v,fr.v,(arr bB (2^σ.n)).v,(arr b53 (2^σ.n)).v,I x]/\
  ∃V,Kn g (h'.offS s') [(b53, .inl ⟨tb (2^σ.n) fun _=>false,2^σ.n,false⟩),(bB, .inl ⟨tb (2^σ.n) T,2^σ.n,false⟩),(b14, .inl ⟨tb (2^σ.n) V,2^σ.n,false⟩),(b9, .inl ⟨Ct σ q,7,false⟩)]/\
   Buf h' s' 1 (ts.map Sl.v++ [fr.v])/\ ∀j,j<2^σ.n->V j=if j<x then σ.seen (i+1) j else σ.seen i j)
  ⟨rfl,V,K7,hB5,fun j hj=>by rw [if_neg (by omega)];exact hV j hj⟩ ?_
 clear K7 hB5 hB4 K6 K6' K5 hV hbF K1'
 rintro x _ h6 nxt1 hx ⟨rfl,V,K,B,hV⟩ hnx1
 refine⟨b9,0,s',arr b14 _,fr,arr bB _,arr b53 _,_,rfl,?_⟩
 have K':=K.mono (bz h6 s')
 (refine kr_ ?_)
 by_cases hlx:x<2^σ.n
 ·refine aM (by rw [decide_eq_true_eq];exact_mod_cast hlx) ?_
  have hVx:V x=σ.seen i x:=by rw [hV x hlx,if_neg (by omega)]
  have fin: ∀v h7,v=σ.seen (i+1) x->Kn g (h7.offS s') [(b53, .inl ⟨tb (2^σ.n) fun _=>false,2^σ.n,false⟩),(bB, .inl ⟨tb (2^σ.n) T,2^σ.n,false⟩),(b14, .inl ⟨(tb (2^σ.n) V).set x (.bool v),2^σ.n,false⟩),(b9, .inl ⟨Ct σ q,7,false⟩)]->
    Buf h7 s' 1 (ts.map Sl.v++ [fr.v])->nxt1 [.pointer (some ⟨b9,0,none⟩),s'.v,(arr b14 (2^σ.n)).v,fr.v,(arr bB (2^σ.n)).v,(arr b53 (2^σ.n)).v,I (W ((x:Int)+1))] h7:=by
   intro v h7 hv K7 B7
   rw [aC (by omega)]
   rw [lZ]at K7
   refine hnx1 hlx _ _ ⟨rfl,_,K7,B7,fun j hj=>?_⟩
   by_cases e2:j=x
   ·rw [if_pos e2,if_pos (by omega),e2];exact hv
   ·rw [if_neg e2,hV j hj]
    by_cases e3:j<x
    ·rw [if_pos e3,if_pos (by omega)]
    ·rw [if_neg e3,if_neg (by omega)]
  refine⟨b14,0,rfl,by omega,by dsimp only;omega,?_⟩
  refine Kn.rd K' (.tail _ (.tail _ (.head _))) (x:=V x) (by rw [Nat.zero_add,Nat.mul_one,Int.toNat_natCast];exact pL hlx) ?_
  refine ac (fun e2=>?_) (fun e2=>?_)
  ·refine⟨b14,0,rfl,by omega,by dsimp only;omega,?_⟩
   (with_reducible apply Kn.wrS);(exact K);((focus ((repeat first|exact .head|apply Upd.tail);done)))
   ·rw [gT];omega
   intro h7 K7 B7 _
   rw [bG,Nat.zero_add,Int.toNat_natCast,Nat.mul_one]at K7
   exact fin _ h7 (by rw [aD.seen_succ,<-hVx,e2];rfl) K7 (B7 _ _ B)
  ·obtain⟨b,o,ha,e3,e4⟩:=(hF.mono K'.le).get hlx
   refine⟨b,o,ha,by omega,e3,_,e4,?_⟩
   refine⟨b14,0,rfl,by omega,by dsimp only;omega,?_⟩
   (with_reducible apply Kn.wrS);(exact K);((focus ((repeat first|exact .head|apply Upd.tail);done)))
   ·rw [gT];omega
   intro h7 K7 B7 _
   rw [bG,Nat.zero_add,Int.toNat_natCast,Nat.mul_one]at K7
   exact fin _ h7 (by rw [aD.seen_succ,<-hVx,e2];rfl) K7 (B7 _ _ B)
 refine aE (by rw [decide_eq_false_iff_not];omega) ?_
 replace hV: ∀j,j<2^σ.n->V j=σ.seen (i+1) j:=fun j hj=>by rw [hV j hj,if_pos (by omega)]
 refine av (2^σ.n) (fun x vs h'=>vs= [.pointer (some ⟨b9,0,none⟩),s'.v,(arr b14 (2^σ.n)).v,(arr bB (2^σ.n)).v,(arr b53 (2^σ.n)).v,I x]/\
  ∃F,Kn g (h'.offS s') [(b53, .inl ⟨tb (2^σ.n) F,2^σ.n,false⟩),(bB, .inl ⟨tb (2^σ.n) T,2^σ.n,false⟩),(b14, .inl ⟨tb (2^σ.n) V,2^σ.n,false⟩),(b9, .inl ⟨Ct σ q,7,false⟩)]/\
   Buf h' s' 1 (ts.map Sl.v++ [fr.v])/\ ∀j,j<x->F j=σ.front (i+1) j) ⟨rfl,_,K,B,fun j hj=>by omega⟩ ?_
 clear K B K' h6 hnx1 hx hlx
 rintro x _ h6 nxt1 hx ⟨rfl,F,K,B,hFx⟩ hnx1
 refine⟨b9,0,s',arr b14 _,arr bB _,arr b53 _,_,rfl,?_⟩
 have K':=K.mono (bz h6 s')
 (refine kr_ ?_)
 by_cases hlx:x<2^σ.n
 ·refine aM (by rw [decide_eq_true_eq];exact_mod_cast hlx) ?_
  have fin: ∀v h7,v=σ.front (i+1) x->Kn g (h7.offS s') [(b53, .inl ⟨(tb (2^σ.n) F).set x (.bool v),2^σ.n,false⟩),(bB, .inl ⟨tb (2^σ.n) T,2^σ.n,false⟩),(b14, .inl ⟨tb (2^σ.n) V,2^σ.n,false⟩),(b9, .inl ⟨Ct σ q,7,false⟩)]->
    Buf h7 s' 1 (ts.map Sl.v++ [fr.v])->nxt1 [.pointer (some ⟨b9,0,none⟩),s'.v,(arr b14 (2^σ.n)).v,(arr bB (2^σ.n)).v,(arr b53 (2^σ.n)).v,I (W ((x:Int)+1))] h7:=by
   intro v h7 hv K7 B7
   rw [aC (by omega)]
   rw [lZ]at K7
   refine hnx1 hlx _ _ ⟨rfl,_,K7,B7,fun j hj=>?_⟩
   by_cases e2:j=x
   ·rw [if_pos e2,e2];exact hv
   ·rw [if_neg e2];exact hFx j (by omega)
  refine⟨bB,0,rfl,by omega,by dsimp only;omega,?_⟩
  refine Kn.rd K' (.tail _ (.head _)) (x:=T x) (by rw [Nat.zero_add,Nat.mul_one,Int.toNat_natCast];exact pL hlx) ?_
  refine ac (fun e2=>?_) (fun e2=>?_)
  ·refine⟨b14,0,rfl,by omega,by dsimp only;omega,?_⟩
   refine Kn.rd K' (.tail _ (.tail _ (.head _))) (x:=V x) (by rw [Nat.zero_add,Nat.mul_one,Int.toNat_natCast];exact pL hlx) ?_
   refine⟨b53,0,rfl,by omega,by dsimp only;omega,?_⟩
   (with_reducible apply Kn.wrS);(exact K);((focus ((repeat first|exact .head|apply Upd.tail);done)))
   ·rw [gT];omega
   intro h7 K7 B7 _
   rw [bG,Nat.zero_add,Int.toNat_natCast,Nat.mul_one]at K7
   exact fin _ h7 (by rw [aD.front_succ,<-hT x hlx,e2,hV x hlx];rfl) K7 (B7 _ _ B)
  ·refine⟨b53,0,rfl,by omega,by dsimp only;omega,?_⟩
   (with_reducible apply Kn.wrS);(exact K);((focus ((repeat first|exact .head|apply Upd.tail);done)))
   ·rw [gT];omega
   intro h7 K7 B7 _
   rw [bG,Nat.zero_add,Int.toNat_natCast,Nat.mul_one]at K7
   exact fin _ h7 (by rw [aD.front_succ,<-hT x hlx,e2];rfl) K7 (B7 _ _ B)
 refine aE (by rw [decide_eq_false_iff_not];omega) ?_
 obtain⟨K3,K4⟩:=Kn.split (A:= [(b53, .inl ⟨tb (2^σ.n) F,2^σ.n,false⟩),(bB, .inl ⟨tb (2^σ.n) T,2^σ.n,false⟩)]) (B:= [(b14, .inl ⟨tb (2^σ.n) V,2^σ.n,false⟩),(b9, .inl ⟨Ct σ q,7,false⟩)]) K
 have fF:=K4.at (.head _)
 refine hnx hlt _ _ ⟨s',arr b53 (2^σ.n),_,V,ts++ [fr],rfl,Hp.le_trans lg K4.le,K3,kq (by omega) fF fun j hj=>hFx j (by omega),by rw [List.map_append];exact B,by simp [htl],fun j t hj=>?_,hV,hlive'⟩
 by_cases hji:j<i
 ·rw [List.getElem?_append_left (by omega)]at hj
  exact(ht j t hj).mono K4.le
 ·have hj2:=get_lt hj
  simp at hj2
  rw [List.getElem?_append_right (by omega),show j-ts.length=0 by omega]at hj
  simp at hj;subst hj
  rw [show j=i by omega];exact hF.mono K4.le
theorem dc.wo {g h h':Hp} {L:List (Nat×Blk)} {t:Sl} {n:Nat} {T:Nat->Bool} (K:Kn g h L) (e:dc (h'.sub h) t n T):dc (h'.wo (L.map Prod.fst)) t n T:=
 dc.mono (r8 (sub_le _ _) fun b hb=>by
  cases hx:h b with
  |none=>exact absurd hx (K.has b hb)
  |some x=>exact my hx) e
theorem Fl {h:Hp} {b4 z n c:Nat} {t:Sl} {T:Nat->Bool} {R:Value->Hp->Prop} (f:h b4=some (.inl ⟨[t.v],z,false⟩)) (hT:dc h t n T) (hc:c<n) (k:R (.bool (T c)) h):
  mq #[I c, .pointer (some ⟨b4,0,none⟩)] h R:=by
 apply tW
 refine uf_ ?_
 (refine az ?_)
 obtain⟨b',o',ha,h1,h2⟩:=hT.get hc
 exact⟨b',o',ha,by omega,h1,_,h2,k⟩
theorem qU {h:Hp} {b:Nat} {t:Sl} {σ:aD} {T:Nat->Bool} {R:Value->Hp->Prop} (hs:pj h b σ) (ok:σ.Ok) (hT:dc h t (2^σ.n) T)
  (k: ∀s h',h.le h'->Own (h'.sub h) s 3 (bD (cQ σ.n T).ns)->R (xc (cQ σ.n T) s) h'):fN #[.pointer (some ⟨b,0,none⟩),t.v] h R:=by
 apply xf
 refine uf_ ?_
 have K0:=Kn.nil h
 (with_reducible apply Kn.al);(assumption);(intro b4 h1 K1 l1 hb4)
 (with_reducible apply Kn.al);(assumption);(intro b6 h2 K2 l2 hb6)
 have f4:=K2.at (.tail _ (.head _))
 refine HN (hs.mono K2.le) ok (fun i hi h' l R kk=>Fl (l _ _ f4) ((hT.mono K2.le).mono l) hi kk) fun s h3 l3 o3=>⟨_,_,_,_,rfl,?_⟩
 have K3:=K2.mono l3
 (((with_reducible apply Kn.wr);(assumption);((focus ((repeat first|exact .head|apply Upd.tail);done)))))
 ·exact Nat.le_refl _
 intro h4 K4 kp
 refine⟨_,by rw [aq (K4.at (.head _))];rfl,_,by rw [aq (K4.at (.head _))];rfl,_,by rw [aq (K4.at (.head _))];rfl,?_⟩
 exact k s h4 K4.le (o3.mono (gJ K2.le (K2.at (.head _)) kp))
theorem wk {h:Hp} {n:Nat} {R:Value->Hp->Prop} (hn:n<=16) (k:R (I n) h):kU #[I (2^n:Nat)] h R:=by
 apply F4
 refine uf_ ?_
 refine av n (fun i vs h'=>vs= [I (2^n:Nat),I i]/\h=h') ⟨rfl,rfl⟩ ?_
 rintro i _ _ nxt hi ⟨rfl,rfl⟩ hnx
 refine⟨_,_,rfl,?_⟩
 rw [cu (by omega),if_neg (by omega),bJ (by omega)]
 by_cases hlt:i<n
 ·have:=Nat.pow_lt_pow_right (a:=2) (by omega) hlt
  refine aM (by rw [decide_eq_true_eq];exact_mod_cast this) ?_
  rw [aC (by omega)]
  exact hnx hlt _ _ ⟨rfl,rfl⟩
 ·have hie:i=n:=by omega
  subst hie
  exact aE (by simp) k
def gp (m:ah) (x:Int):Bd:=if ax m=0/\0<=x then(if x.toNat<(aG m).nLay then cQ (aG m).n ((aG m).front x.toNat)else cQ (aG m).n fun _=>false)else js
theorem r6 {h:Hp} {M:MSl} {m:ah} {x:Int} {R:Value->Hp->Prop} (hs:aO h M m) (hm:bW m)
  (k: ∀s h',h.le h'->Own (h'.sub h) s 3 (bD (gp m x).ns)->R (xc (gp m x) s) h'):mL #[aQ M,I x] h R:=by
 apply Fc
 refine uf_ ?_
 unfold gp at k
 have K0:=Kn.nil h
 (with_reducible apply Kn.al);(assumption);(intro b8 h1 K1 l1 hb8)
 (with_reducible apply Kn.al);(assumption);(intro b10 h2 K2 l2 hb10)
 repeat' (refine kr_ ?_)
 have no: ∀h3,Kn h h3 [(b10, .inl ⟨[I 0, .slice none 0 0,I 0],3,false⟩),(b8, .inl ⟨aw M,5,false⟩)]-> ¬(ax m=0/\0<=x)->
   ∃(cs:List Value) (z:Nat),h3 b10=some (.inl ⟨cs,z,false⟩)/\0+3<=List.length cs/\cz (h3.row b10 (cA cs 0 [I 0, .slice none 0 0,I 0]) z) fun h28=> ∃x29:Int,Hp.cell h28 b10 0=some (I x29)/\ ∃s30:Sl,Hp.cell h28 b10 (0+1)=some s30.v/\ ∃x31:Int,Hp.cell h28 b10 (0+2)=some (I x31)/\
    R (.tuple #[.agg #[I x29,s30.v,I x31], .bool false]) h28:=by
  intro h3 K3 hn
  rw [if_neg hn]at k
  (((with_reducible apply Kn.wr);(assumption);((focus ((repeat first|exact .head|apply Upd.tail);done)))))
  ·exact Nat.le_refl _
  intro h4 K4 _
  refine⟨_,by rw [aq (K4.at (.head _))];rfl,⟨none,0,0⟩,by rw [aq (K4.at (.head _))];rfl,_,by rw [aq (K4.at (.head _))];rfl,?_⟩
  exact k ⟨none,0,0⟩ h4 K4.le (mU _ _)
 refine fj (hs.mono K2.le) hm (fun h3 l3 hc=>⟨_,_,rfl,?_⟩) (fun hc g bx h3 l3 hx=>⟨_,_,rfl,?_⟩)
 ·rw [ey]
  exact aM rfl (aM rfl (no h3 (K2.mono l3) fun e=>hc e.1))
 have K3:=K2.mono l3
 have ok:=gZ g
 have hnl:=aD.nLay_le (aG m)
 have hn8:=fh ok
 rw [ey]
 refine aE rfl ?_
 refine ac (fun e=>?_) (fun e=>?_)
 ·exact no h3 K3 fun q=>by have:=of_decide_eq_true e;omega
 have e':=of_decide_eq_false e
 obtain⟨n,rfl⟩: ∃n:Nat,x=n:=⟨x.toNat,by omega⟩
 rw [if_pos ⟨hc,Int.natCast_nonneg _⟩,Int.toNat_natCast]at k
 clear no e
 refine nE hx ok fun L h4 l4 hL=>⟨_,rfl,?_⟩
 have K4:=K3.mono l4
 have hll:=hL.len
 refine ac (fun e=>?_) (fun e=>?_)
 ·have: ¬n<(aG m).nLay:=by have:=of_decide_eq_true e;omega
  rw [if_neg this]at k
  refine HN (hx.mono l4) ok (f:=fun _=>false) (fun i hi h' l R kk=>?_) fun s h5 l5 o5=>⟨_,_,_,_,rfl,?_⟩
  ·apply AP
   refine uf_ ?_
   exact kk
  have K5:=K4.mono l5
  (((with_reducible apply Kn.wr);(assumption);((focus ((repeat first|exact .head|apply Upd.tail);done)))))
  ·exact Nat.le_refl _
  intro h6 K6 kp
  refine⟨_,by rw [aq (K6.at (.head _))];rfl,_,by rw [aq (K6.at (.head _))];rfl,_,by rw [aq (K6.at (.head _))];rfl,?_⟩
  exact k s h6 K6.le (o5.mono (gJ K4.le (K4.at (.head _)) kp))
 ·have hlt:n<(aG m).nLay:=by have:=of_decide_eq_false e;omega
  rw [if_pos hlt]at k
  obtain⟨bl,ol,r,ha,h3',h4',hr⟩:=hL.get hlt
  refine⟨bl,ol,ha,by omega,h3',r,h4',?_⟩
  refine qU (hx.mono l4) ok hr fun s h5 l5 o5=>⟨_,_,_,_,rfl,?_⟩
  have K5:=K4.mono l5
  (((with_reducible apply Kn.wr);(assumption);((focus ((repeat first|exact .head|apply Upd.tail);done)))))
  ·exact Nat.le_refl _
  intro h6 K6 kp
  refine⟨_,by rw [aq (K6.at (.head _))];rfl,_,by rw [aq (K6.at (.head _))];rfl,_,by rw [aq (K6.at (.head _))];rfl,?_⟩
  exact k s h6 K6.le (o5.mono (gJ K4.le (K4.at (.head _)) kp))
theorem Am {h:Hp} {M:MSl} {m:ah} {x:Int} {R:Value->Hp->Prop} (hs:aO h M m) (hm:bW m)
  (k: ∀s h',h.le h'->Own (h'.sub h) s 3 (bD (gp m x).ns)->R (xc (gp m x) s) h'):mJ #[aQ M,I x] h R:=by
 apply Fz
 refine uf_ ?_
 unfold gp at k
 have K0:=Kn.nil h
 (with_reducible apply Kn.al);(assumption);(intro b8 h1 K1 l1 hb8)
 (with_reducible apply Kn.al);(assumption);(intro b10 h2 K2 l2 hb10)
 refine ap (fun J=>J (decide (¬(ax m=0/\0<=x))) h2) ?_ (fun J hJ=>?_)
 rotate_left
 ·repeat' (refine kr_ ?_)
  refine aX (hs.mono K2.le) hm ⟨_,rfl,?_⟩
  refine ac (fun e=>?_) (fun e=>?_)
  ·rw [show decide (¬(ax m=0/\0<=x))=true from by rw [decide_eq_true_eq];exact fun q=>ib e q.1]at hJ;exact hJ
  ·have hc:=fV e
   rw [show decide (¬(ax m=0/\0<=x))=decide (x<0)from by rw [Bool.eq_iff_iff,decide_eq_true_eq,decide_eq_true_eq];simp only [hc,true_and];omega]at hJ
   exact hJ
 refine ac (fun e=>?_) (fun e=>?_)
 ·rw [if_neg (of_decide_eq_true e)]at k
  (((with_reducible apply Kn.wr);(assumption);((focus ((repeat first|exact .head|apply Upd.tail);done)))))
  ·exact Nat.le_refl _
  intro h3 K3 _
  refine⟨_,by rw [aq (K3.at (.head _))];rfl,⟨none,0,0⟩,by rw [aq (K3.at (.head _))];rfl,_,by rw [aq (K3.at (.head _))];rfl,?_⟩
  exact k ⟨none,0,0⟩ h3 K3.le (mU _ _)
 have e':ax m=0/\0<=x:=Decidable.not_not.1 (of_decide_eq_false e)
 have hc:=e'.1
 rw [if_pos e']at k
 obtain⟨n,rfl⟩: ∃n:Nat,x=n:=⟨x.toNat,by omega⟩
 rw [Int.toNat_natCast]at k
 have ok:=gZ (cr hc)
 repeat' (refine kr_ ?_)
 refine pS (hs.mono K2.le) hm hc fun q h3 l3 hq=>⟨_,_,_,_,_,_,_,rfl,?_⟩
 have K3:=K2.mono l3
 generalize aG m=σ at*
 have hnl:=aD.nLay_le σ
 have hn8:=fh ok
 have h8:=ok.nle
 refine Kn.al K3 fun b46 h4 K4 l4 hb46=>?_
 refine kw_ ?_
 intro h5 K5 kp5
 simp only [cA,List.set_cons_zero,List.set_cons_succ,Nat.zero_add,Nat.reduceAdd]at K5
 have hq5:=hq.mono (cL hb46 l4 kp5)
 clear K4 K3 kp5
 repeat' (refine kr_ ?_)
 refine nX hq5 ok fun L h6 l6 hL=>⟨_,rfl,?_⟩
 have K6:=K5.mono l6
 have hll:=hL.len
 refine ac (fun e=>?_) (fun e=>?_)
 ·have: ¬n<σ.nLay:=by have:=of_decide_eq_true e;omega
  rw [if_neg this]at k
  repeat' (refine kr_ ?_)
  refine wk (by omega) ⟨_,rfl,?_⟩
  refine AX fun s h7 l7 o7=>⟨_,_,_,_,rfl,?_⟩
  have K7:=K6.mono l7
  (((with_reducible apply Kn.wr);(assumption);((focus ((repeat first|exact .head|apply Upd.tail);done)))))
  ·exact Nat.le_refl _
  intro h9 K9 kp
  refine⟨_,by rw [aq (K9.at (.tail _ (.head _)))];rfl,_,by rw [aq (K9.at (.tail _ (.head _)))];rfl,_,by rw [aq (K9.at (.tail _ (.head _)))];rfl,?_⟩
  exact k s h9 K9.le (o7.mono (gJ K6.le (K6.at (.tail _ (.head _))) kp))
 ·have hlt:n<σ.nLay:=by have:=of_decide_eq_false e;omega
  rw [if_pos hlt]at k
  obtain⟨bl,ol,r,ha,h3',h4',hr⟩:=hL.get hlt
  refine⟨bl,ol,ha,by omega,h3',?_⟩
  repeat' (refine kr_ ?_)
  refine⟨r,h4',?_⟩
  refine wk (by omega) ⟨_,rfl,?_⟩
  repeat' (refine kr_ ?_)
  refine Dv (by omega) hr fun s h7 l7 o7=>⟨_,_,_,_,rfl,?_⟩
  have K7:=K6.mono l7
  (((with_reducible apply Kn.wr);(assumption);((focus ((repeat first|exact .head|apply Upd.tail);done)))))
  ·exact Nat.le_refl _
  intro h9 K9 kp
  refine⟨_,by rw [aq (K9.at (.tail _ (.head _)))];rfl,_,by rw [aq (K9.at (.tail _ (.head _)))];rfl,_,by rw [aq (K9.at (.tail _ (.head _)))];rfl,?_⟩
  exact k s h9 K9.le (o7.mono (gJ K6.le (K6.at (.tail _ (.head _))) kp))
theorem V4 {n:Nat} (hn:n<=8) (f:Nat->Bool):(cQ n f).ok=true:=by
 have h1:=tp n f 0 []
 have h2:=Nat.pow_le_pow_right (n:=2) (by omega) hn
 have h3: ¬600<(mkD n f 0 []).2.length:=by simp at h1 h2;omega
 unfold cQ pu
 rw [if_pos (by omega),Int.toNat_natCast,if_neg h3]
def ew (m:ah):Bd:=if ax m=0 then cQ (aG m).n (aG m).reach else js
def kz (m:ah):Int:=if ax m=0 then((aG m).nLay:Int)-1 else 0
abbrev GQ (B:Bd) (l:Int) (s:Sl):Value:= .tuple #[.agg #[I B.v,s.v,I B.r],I l, .bool B.ok]
theorem HR {h:Hp} {b:Nat} {t:Sl} {σ:aD} {R:Value->Hp->Prop} (hs:pj h b σ) (ok:σ.Ok) (hL:Bj h t (2^σ.n) σ.nLay σ.front)
  (k: ∀b' T h',Kn h h' [(b', .inl ⟨tb (2^σ.n) T,2^σ.n,false⟩)]->(∀j,j<2^σ.n->T j=σ.reach j)->R (arr b' (2^σ.n)).v h'):ju #[.pointer (some ⟨b,0,none⟩),t.v] h R:=by
 apply zF
 refine uf_ ?_
 have hn:=fh ok
 have h8:=ok.nle
 have hl:=hL.len
 have hnl:=aD.nLay_le σ
 obtain⟨M,st,hold,bad,next,fx,_⟩:=id hs
 have K0:=Kn.nil h
 refine dE ?_
 (refine kr_ ?_)
 rw [if_neg (by omega),bJ (by omega)]
 refine⟨Int.natCast_nonneg _,Int.le_refl _,by omega,by omega,?_⟩
 (with_reducible apply Kn.al);(assumption);(intro b8 h1 K1 l1 hb8)
 rw [Int.toNat_natCast,Nat.mul_one,cn,kH]at K1
 rw [Int.toNat_natCast,hl]
 refine av σ.nLay (fun i vs h'=>vs= [(arr b8 (2^σ.n)).v,t.v,I σ.nLay,I i]/\
  ∃T,Kn h h' [(b8, .inl ⟨tb (2^σ.n) T,2^σ.n,false⟩)]/\ ∀j,j<2^σ.n->T j=σ.seen i j) ⟨rfl,_,K1,fun j hj=>rfl⟩ ?_
 clear K1 K0 l1 hb8 h1
 rintro i _ h1 nxt hi ⟨rfl,T,K1,hT⟩ hnx
 refine⟨arr b8 _,t,_,_,rfl,?_⟩
 by_cases hlt:i<σ.nLay
 rotate_left
 ·refine aE (by rw [decide_eq_false_iff_not];omega) ?_
  exact k b8 T h1 K1 fun j hj=>by rw [hT j hj,show i=σ.nLay by omega];rfl
 refine aM (by rw [decide_eq_true_eq];exact_mod_cast hlt) ?_
 obtain⟨bl,ol,r',ha,h3,h4,hr'⟩:=hL.get hlt
 refine⟨bl,ol,ha,by omega,by omega,r',K1.le.cell h4,?_⟩
 have hrl:=hr'.len
 rw [hrl]
 refine av (2^σ.n) (fun j vs h'=>vs= [(arr b8 (2^σ.n)).v,t.v,I σ.nLay,I i,r'.v,I (2^σ.n:Nat),I j]/\
  ∃T,Kn h h' [(b8, .inl ⟨tb (2^σ.n) T,2^σ.n,false⟩)]/\ ∀x,x<2^σ.n->T x=if x<j then σ.seen (i+1) x else σ.seen i x) ⟨rfl,T,K1,fun x hx=>by rw [if_neg (by omega)];exact hT x hx⟩ ?_
 clear hT K1 T h4 ha h3 h1
 rintro j _ h1 nxt2 hj ⟨rfl,T,K1,hT⟩ hnx2
 refine⟨arr b8 _,t,_,_,r',_,_,rfl,?_⟩
 by_cases hlj:j<2^σ.n
 rotate_left
 ·refine aE (by rw [decide_eq_false_iff_not];omega) ?_
  rw [aC (by omega)]
  exact hnx hlt _ _ ⟨rfl,T,K1,fun x hx=>by rw [hT x hx,if_pos (by omega)]⟩
 refine aM (by rw [decide_eq_true_eq];exact_mod_cast hlj) ?_
 obtain⟨br,or,har,hr1,hr2⟩:=(hr'.mono K1.le).get hlj
 refine⟨br,or,har,by omega,hr1,_,hr2,?_⟩
 refine⟨b8,0,rfl,by omega,by dsimp only;omega,?_⟩
 refine Kn.rd K1 (.head _) (x:=T j) (by rw [Nat.zero_add,Nat.mul_one,Int.toNat_natCast];exact pL hlj) ?_
 have fin: ∀v h7,v=σ.seen (i+1) j->Kn h h7 [(b8, .inl ⟨(tb (2^σ.n) T).set j (.bool v),2^σ.n,false⟩)]->
   nxt2 [(arr b8 (2^σ.n)).v,t.v,I σ.nLay,I i,r'.v,I (2^σ.n:Nat),I (W ((j:Int)+1))] h7:=by
  intro v h7 hv K7
  rw [aC (by omega)]
  rw [lZ]at K7
  refine hnx2 hlj _ _ ⟨rfl,_,K7,fun x hx=>?_⟩
  by_cases e2:x=j
  ·rw [if_pos e2,if_pos (by omega),e2];exact hv
  ·rw [if_neg e2,hT x hx]
   by_cases e3:x<j
   ·rw [if_pos e3,if_pos (by omega)]
   ·rw [if_neg e3,if_neg (by omega)]
 have hTj:T j=σ.seen i j:=by rw [hT j hlj,if_neg (by omega)]
 refine ac (fun e=>?_) (fun e=>?_)<;>refine⟨b8,0,rfl,by omega,by dsimp only;omega,?_⟩<;>(((with_reducible apply Kn.wr);(assumption);((focus ((repeat first|exact .head|apply Upd.tail);done)))))
 ·rw [gT];omega
 ·intro h7 K7 _
  rw [bG,Nat.zero_add,Int.toNat_natCast,Nat.mul_one]at K7
  exact fin _ h7 (by rw [aD.seen_succ,<-hTj,e];rfl) K7
 ·rw [gT];omega
 ·intro h7 K7 _
  rw [bG,Nat.zero_add,Int.toNat_natCast,Nat.mul_one]at K7
  exact fin _ h7 (by rw [aD.seen_succ,<-hTj,e];rfl) K7
theorem Ah {h:Hp} {M:MSl} {m:ah} {R:Value->Hp->Prop} (hs:aO h M m) (hm:bW m)
  (k: ∀s h',h.le h'->Own (h'.sub h) s 3 (bD (ew m).ns)->R (GQ (ew m) (kz m) s) h'):ra #[aQ M] h R:=by
 apply EY
 refine uf_ ?_
 unfold ew kz at k
 have K0:=Kn.nil h
 (with_reducible apply Kn.al);(assumption);(intro b7 h1 K1 l1 hb7)
 (with_reducible apply Kn.al);(assumption);(intro b9 h2 K2 l2 hb9)
 repeat' (refine kr_ ?_)
 refine fj (hs.mono K2.le) hm (fun h3 l3 hc=>⟨_,_,rfl,aM rfl ?_⟩) (fun hc g bx h3 l3 hx=>⟨_,_,rfl,aE rfl ?_⟩)
 ·rw [if_neg hc,if_neg hc]at k
  have K3:=K2.mono l3
  (((with_reducible apply Kn.wr);(assumption);((focus ((repeat first|exact .head|apply Upd.tail);done)))))
  ·exact Nat.le_refl _
  intro h4 K4 _
  refine⟨_,by rw [aq (K4.at (.head _))];rfl,⟨none,0,0⟩,by rw [aq (K4.at (.head _))];rfl,_,by rw [aq (K4.at (.head _))];rfl,?_⟩
  exact k ⟨none,0,0⟩ h4 K4.le (mU _ _)
 ·rw [if_pos hc,if_pos hc]at k
  have ok:=gZ g
  have hn:=fh ok
  have hnl:=aD.nLay_le (aG m)
  refine nE hx ok fun L h4 l4 hL=>⟨_,rfl,?_⟩
  refine HR (hx.mono l4) ok hL fun bu T h5 K5 hT=>⟨_,rfl,?_⟩
  have hT':dc h5 (arr bu (2^(aG m).n)) (2^(aG m).n) (aG m).reach:=kq (by omega) (K5.at (.head _)) hT
  have l35:=Hp.le_trans l4 K5.le
  refine qU (hx.mono l35) ok hT' fun s h6 l6 o6=>⟨_,_,_,_,rfl,?_⟩
  have K6:=K2.mono (Hp.le_trans l3 (Hp.le_trans l35 l6))
  refine Kn.al K6 fun b44 h7 K7 l7 hb44=>?_
  refine kw_ ?_
  intro h8 K8 kp8
  repeat' (refine kr_ ?_)
  refine kw_ ?_
  intro h9 K9 kp9
  refine⟨_,by rw [aq (K9.at (.tail _ (.head _)))];rfl,_,by rw [aq (K9.at (.tail _ (.head _)))];rfl,_,by rw [aq (K9.at (.tail _ (.head _)))];rfl,?_⟩
  have hll:=hL.len
  rw [hll,bU (by omega) (by omega)]
  refine k s h9 K9.le ?_
  have l68:=cL hb44 l7 kp8
  exact o6.mono (Hp.le_trans (qO h5 l68) (gJ (Hp.le_trans K2.le (Hp.le_trans l3 l35)) ((K2.mono (Hp.le_trans l3 l35)).at (.head _)) kp9))
theorem jY {h:Hp} {M:MSl} {m:ah} {R:Value->Hp->Prop} (hs:aO h M m) (hm:bW m)
  (k: ∀s h',h.le h'->Own (h'.sub h) s 3 (bD (ew m).ns)->R (GQ (ew m) (kz m) s) h'):fG #[aQ M] h R:=by
 apply EU
 refine uf_ ?_
 unfold ew kz at k
 have K0:=Kn.nil h
 (with_reducible apply Kn.al);(assumption);(intro b7 h1 K1 l1 hb7)
 (with_reducible apply Kn.al);(assumption);(intro b9 h2 K2 l2 hb9)
 repeat' (refine kr_ ?_)
 refine aX (hs.mono K2.le) hm ⟨_,rfl,?_⟩
 refine ac (fun e=>?_) (fun e=>?_)
 ·rw [if_neg (ib e),if_neg (ib e)]at k
  (((with_reducible apply Kn.wr);(assumption);((focus ((repeat first|exact .head|apply Upd.tail);done)))))
  ·exact Nat.le_refl _
  intro h3 K3 _
  refine⟨_,by rw [aq (K3.at (.head _))];rfl,⟨none,0,0⟩,by rw [aq (K3.at (.head _))];rfl,_,by rw [aq (K3.at (.head _))];rfl,?_⟩
  exact k ⟨none,0,0⟩ h3 K3.le (mU _ _)
 have hc:=fV e
 rw [if_pos hc,if_pos hc]at k
 have ok:=gZ (cr hc)
 repeat' (refine kr_ ?_)
 refine pS (hs.mono K2.le) hm hc fun q h3 l3 hq=>⟨_,_,_,_,_,_,_,rfl,?_⟩
 have K3:=K2.mono l3
 have hok:=V4 ok.nle (aG m).reach
 simp only [GQ,hok]at k
 generalize aG m=σ at*
 have hn:=fh ok
 have hnl:=aD.nLay_le σ
 refine Kn.al K3 fun b43 h4 K4 l4 hb43=>?_
 refine kw_ ?_
 intro h5 K5 kp5
 simp only [cA,List.set_cons_zero,List.set_cons_succ,Nat.zero_add,Nat.reduceAdd]at K5
 have hq5:=hq.mono (cL hb43 l4 kp5)
 clear K4 K3 kp5
 repeat' (refine kr_ ?_)
 refine nX hq5 ok fun L h6 l6 hL=>⟨_,rfl,?_⟩
 have K6:=K5.mono l6
 have hll:=hL.len
 repeat' (refine kr_ ?_)
 refine⟨Int.natCast_nonneg _,Int.le_refl _,by omega,by omega,?_⟩
 have f43:=K6.at (.head _)
 (with_reducible apply Kn.al);(exact Kn.nil h6);(intro b61 h7 K7 l7 hb61)
 rw [Int.toNat_natCast,Nat.mul_one,cn,kH]at K7
 rw [Int.toNat_natCast]
 clear K5 K1 K0 K2 hb61
 refine av σ.nLay (fun i vs h'=>vs= [.pointer (some ⟨b9,0,none⟩), .pointer (some ⟨b43,0,none⟩),L.v,(arr b61 (2^σ.n)).v,I i]/\
  ∃T,Kn h6 h' [(b61, .inl ⟨tb (2^σ.n) T,2^σ.n,false⟩)]/\
   ∀j,j<2^σ.n->T j=σ.seen i j) ⟨rfl,_,K7,fun j hj=>rfl⟩ ?_
 clear K7 l7 h7
 rintro i _ h7 nxt hi ⟨rfl,T,K7,hT⟩ hnx
 refine⟨b9,0,b43,0,L,arr b61 _,_,rfl,?_⟩
 by_cases hlt:i<σ.nLay
 ·refine aM (by rw [decide_eq_true_eq];omega) ?_
  obtain⟨bl,ol,r',ha,h3',h4',hr'⟩:=hL.get hlt
  refine av (2^σ.n) (fun j vs h'=>vs= [.pointer (some ⟨b9,0,none⟩), .pointer (some ⟨b43,0,none⟩),L.v,(arr b61 (2^σ.n)).v,I i,I j]/\
   ∃T,Kn h6 h' [(b61, .inl ⟨tb (2^σ.n) T,2^σ.n,false⟩)]/\
    ∀x,x<2^σ.n->T x=if x<j then σ.seen (i+1) x else σ.seen i x) ⟨rfl,T,K7,fun x hx=>by rw [if_neg (by omega)];exact hT x hx⟩ ?_
  clear hT K7 T h7
  rintro j _ h7 nxt2 hj ⟨rfl,T,K7,hT⟩ hnx2
  refine⟨b9,0,b43,0,L,arr b61 _,_,_,rfl,?_⟩
  (refine kr_ ?_)
  by_cases hlj:j<2^σ.n
  rotate_left
  ·refine aE (by rw [decide_eq_false_iff_not];omega) ?_
   rw [aC (by omega)]
   exact hnx hlt _ _ ⟨rfl,T,K7,fun x hx=>by rw [hT x hx,if_pos (by omega)]⟩
  refine aM (by rw [decide_eq_true_eq];omega) ?_
  have hTj:T j=σ.seen i j:=by rw [hT j hlj,if_neg (by omega)]
  refine ap (fun J=> ∀h8,Kn h6 h8 [(b61, .inl ⟨(tb (2^σ.n) T).set j (.bool (σ.seen (i+1) j)),2^σ.n,false⟩)]->J h8) (fun h8 K8=>?_) (fun J hJ=>?_)
  ·rw [aC (by omega)]
   rw [lZ]at K8
   refine hnx2 hlj _ _ ⟨rfl,_,K8,fun x hx=>?_⟩
   by_cases e2:x=j
   ·rw [if_pos e2,if_pos (by omega),e2]
   ·rw [if_neg e2,hT x hx]
    by_cases e3:x<j
    ·rw [if_pos e3,if_pos (by omega)]
    ·rw [if_neg e3,if_neg (by omega)]
  have fin: ∀v h8,v=σ.seen (i+1) j->Kn h6 h8 [(b61, .inl ⟨(tb (2^σ.n) T).set j (.bool v),2^σ.n,false⟩)]->J h8:=fun v h8 hv K8=>hJ h8 (hv▸K8)
  refine⟨b61,0,rfl,by omega,by dsimp only;omega,?_⟩
  refine Kn.rd K7 (.head _) (x:=T j) (by rw [Nat.zero_add,Nat.mul_one,Int.toNat_natCast];exact pL hlj) ?_
  refine ac (fun e=>?_) (fun e=>?_)
  ·refine⟨b61,0,rfl,by omega,by dsimp only;omega,?_⟩
   (((with_reducible apply Kn.wr);(assumption);((focus ((repeat first|exact .head|apply Upd.tail);done)))))
   ·rw [gT];omega
   intro h8 K8 _
   rw [bG,Nat.zero_add,Int.toNat_natCast,Nat.mul_one]at K8
   exact fin _ h8 (by rw [aD.seen_succ,<-hTj,e];rfl) K8
  ·refine⟨bl,ol,ha,by omega,by omega,r',K7.le.cell h4',?_⟩
   obtain⟨br,or,har,hr1,hr2⟩:=(hr'.mono K7.le).get hlj
   refine⟨br,or,har,by omega,hr1,_,hr2,?_⟩
   refine⟨b61,0,rfl,by omega,by dsimp only;omega,?_⟩
   (((with_reducible apply Kn.wr);(assumption);((focus ((repeat first|exact .head|apply Upd.tail);done)))))
   ·rw [gT];omega
   intro h8 K8 _
   rw [bG,Nat.zero_add,Int.toNat_natCast,Nat.mul_one]at K8
   exact fin _ h8 (by rw [aD.seen_succ,<-hTj,e];rfl) K8
 ·refine aE (by rw [decide_eq_false_iff_not];omega) ?_
  repeat' (refine kr_ ?_)
  refine wk (by have:=ok.nle;omega) ⟨_,rfl,?_⟩
  refine Dv (by have:=ok.nle;omega) (kq (by omega) (K7.at (.head _)) fun j hj=>(by rw [hT j hj,show i=σ.nLay by omega];rfl:T j=σ.reach j)) fun s h8 l8 o8=>⟨_,_,_,_,rfl,?_⟩
  have K67:=K6.mono K7.le
  have K8:=K67.mono l8
  refine Kn.al K8 fun b129 h9 K9 l9 hb129=>?_
  refine kw_ ?_
  intro h10 K10 kp10
  rw [hok]
  refine aE rfl ?_
  repeat' (refine kr_ ?_)
  refine kw_ ?_
  intro h11 K11 kp11
  refine⟨_,by rw [aq (K11.at (.tail _ (.tail _ (.head _))))];rfl,_,by rw [aq (K11.at (.tail _ (.tail _ (.head _))))];rfl,_,by rw [aq (K11.at (.tail _ (.tail _ (.head _))))];rfl,?_⟩
  rw [hll,bU (by omega) (by omega)]
  exact k s h11 K11.le (o8.mono (Hp.le_trans (qO h7 (cL hb129 l9 kp10)) (gJ K67.le (K67.at (.tail _ (.head _))) kp11)))
theorem cx.toOwn {g h:Hp} {A X L:List (Nat×Blk)} {s:Sl} {sz:Nat} {cs:List Value} (o:cx X s sz cs) (hn:s.n<=9223372036854775807) (K:Kn g h (A++(X++L))): ∃X',pm X' s sz cs/\Kn g h (A++(X'++L)):=by
 by_cases h0:s.n=0
 ·refine⟨[],⟨o.1,hn, .inl ⟨h0,rfl⟩⟩,K.sub (fun e he=>?_) ?_⟩
  ·rcases List.mem_append.1 he with he|he
   ·exact List.mem_append_left _ he
   ·exact List.mem_append_right _ (List.mem_append_right _ he)
  ·have nd:=K.nd
   rw [List.map_append,List.map_append]at nd
   rw [List.nil_append,List.map_append]
   exact nd.sublist (List.Sublist.append_left (List.sublist_append_right _ _) _)
 ·rcases o.2.2 with ⟨_,rfl,_⟩|⟨b,ha,rfl⟩
  ·exact absurd rfl h0
  ·exact⟨_,⟨o.1,hn, .inr ⟨h0,b,_,ha,rfl⟩⟩,K⟩
theorem yR {g h h':Hp} {L:List (Nat×Blk)} (K:Kn g h L):(h'.sub h).le (h'.wo (L.map Prod.fst)):=by
 intro c x e
 have hn:h c=none:=mv (by rw [e];simp)
 rw [sk fun hm=>K.has c hm hn]
 exact sub_le _ _ _ _ e
def TrX (h h':Hp) (sS sI:Sl) (l:List (Nat×Nat)):Prop:=
 ∃XS XI,pm XS sS 1 ((VL (l.map Prod.fst)).map I)/\pm XI sI 1 ((VL (l.map Prod.snd)).map I)/\Kn h h' (XS++XI)
theorem cx.at {X:List (Nat×Blk)} {h:Hp} {s t:Sl} {ts:List Sl} {i:Nat} (o:cx X s 1 (ts.map Sl.v)) (m: ∀e∈X,h e.1=some e.2) (hi:ts[i]?=some t):
  ∃b x,s.a=some ⟨b,0,none⟩/\h b=some x/\Hp.cell h b (0+i*1)=some t.v:=by
 have hlt:=get_lt hi
 rcases o.2.2 with ⟨_,_,h0⟩|⟨b,ha,rfl⟩
 ·have:ts.length=0:=by have:=congrArg List.length h0;simpa using this
  omega
 ·have hb:=m _ (.head _)
  refine⟨b,_,ha,hb,?_⟩
  rw [aq hb,Nat.zero_add,Nat.mul_one,List.getElem?_map,hi];rfl
def TrG (h h':Hp) (sS sI:Sl) (l:List (Nat×Nat)):Prop:=
 ∃XS XI,cx XS sS 1 ((VL (l.map Prod.fst)).map I)/\cx XI sI 1 ((VL (l.map Prod.snd)).map I)/\Kn h h' (XS++(XI++ []))
theorem TrG.nil {h h':Hp} (l:h.le h'):TrG h h' ⟨none,0,0⟩ ⟨none,0,0⟩ []:=⟨[], [],cC 1,cC 1,Kn.of l⟩
theorem TrG.up {h g h1 h5:Hp} {b6:Nat} {sS sI:Sl} {l:List (Nat×Nat)} (t:TrG g h1 sS sI l) (lg:h.le g) (h6:g b6≠none) (l5:h.le h5) (kp: ∀c,c≠b6->h5 c=h1 c):TrG h h5 sS sI l:=by
 obtain⟨XS,XI,oS,oI,K⟩:=t
 refine⟨XS,XI,oS,oI,l5,fun e he=>?_,fun e he=>aF lg (K.new e he),K.nd⟩
 have hne:e.1≠b6:=by
  intro e6
  have h1:=K.new e he
  rw [e6]at h1;exact h6 h1
 rw [kp _ hne];exact K.mem e he
theorem TrG.tr {h h':Hp} {sS sI:Sl} {l:List (Nat×Nat)} (t:TrG h h' sS sI l) (hl:l.length<=1000000):TrX h h' sS sI l:=by
 obtain⟨XS,XI,oS,oI,K⟩:=t
 have h1:=oS.1
 have h2:=oI.1
 simp only [List.length_map,aY,Nat.mul_one]at h1 h2
 obtain⟨XS',oS',K6⟩:=oS.toOwn (by omega) (A:= []) (L:=XI++ []) K
 obtain⟨XI',oI',K7⟩:=oI.toOwn (by omega) (A:=XS') (L:= []) K6
 rw [List.append_nil]at K7
 exact⟨XS',XI',oS',oI',K7⟩
theorem TrX.nil {h h':Hp} (l:h.le h'):TrX h h' ⟨none,0,0⟩ ⟨none,0,0⟩ []:=⟨[], [],⟨rfl,by simp, .inl ⟨rfl,rfl⟩⟩,⟨rfl,by simp, .inl ⟨rfl,rfl⟩⟩,Kn.of l⟩
theorem TrX.up {h g h1 h5:Hp} {b6:Nat} {sS sI:Sl} {l:List (Nat×Nat)} (t:TrX g h1 sS sI l) (lg:h.le g) (h6:g b6≠none) (l5:h.le h5) (kp: ∀c,c≠b6->h5 c=h1 c):TrX h h5 sS sI l:=by
 obtain⟨XS,XI,oS,oI,K⟩:=t
 refine⟨XS,XI,oS,oI,l5,fun e he=>?_,fun e he=>aF lg (K.new e he),K.nd⟩
 have hne:e.1≠b6:=by
  intro e6
  have h1:=K.new e he
  rw [e6]at h1;exact h6 h1
 rw [kp _ hne];exact K.mem e he
theorem TrX.mono {h h1 h2:Hp} {sS sI:Sl} {l:List (Nat×Nat)} (t:TrX h h1 sS sI l) (l12:h1.le h2):TrX h h2 sS sI l:=by
 obtain⟨XS,XI,oS,oI,K⟩:=t
 exact⟨XS,XI,oS,oI,K.mono l12⟩
theorem pm.slcOf {X:List (Nat×Blk)} {h:Hp} {s:Sl} {sz:Nat} {cs:List Value} (o:pm X s sz cs) (m: ∀e∈X,h e.1=some e.2):SlC h s sz cs:=by
 refine⟨o.2.1,o.1,?_⟩
 rcases o.2.2 with ⟨h0,_⟩|⟨_,b,z,ha,rfl⟩
 ·exact .inl h0
 ·exact .inr ⟨b,0,ha,ay (m _ (.head _))⟩
theorem TrX.ints {h h1:Hp} {sS sI:Sl} {l:List (Nat×Nat)} (t:TrX h h1 sS sI l):IntS h1 sS (VL (l.map Prod.fst))/\IntS h1 sI (VL (l.map Prod.snd)):=by
 obtain⟨XS,XI,oS,oI,K⟩:=t
 exact⟨oS.slcOf fun e he=>K.mem e (List.mem_append_left _ he),oI.slcOf fun e he=>K.mem e (List.mem_append_right _ he)⟩
theorem TrX.le {h h':Hp} {sS sI:Sl} {l:List (Nat×Nat)} (t:TrX h h' sS sI l):h.le h':=by obtain⟨_,_,_,_,K⟩:=t;exact K.le
theorem TrX.add {g h h':Hp} {L:List (Nat×Blk)} {sS sI:Sl} {l:List (Nat×Nat)} (t:TrX h h' sS sI l) (K:Kn g h L):
  ∃XS XI,pm XS sS 1 ((VL (l.map Prod.fst)).map I)/\pm XI sI 1 ((VL (l.map Prod.snd)).map I)/\Kn g h' (L++(XS++XI)):=by
 obtain⟨XS,XI,oS,oI,K'⟩:=t
 exact⟨XS,XI,oS,oI,K.app K'.le K'.new K'.mem K'.nd⟩
section
variable {g h:Hp} {L XS XI:List (Nat×Blk)} {sS sI tS tI:Sl} {xs ys:List Int} {cS cI:List Value} {k0:Int} {R:Value->Hp->Prop}
end
structure CW where
 kind:Int
 depth:Int
 tr:List (Nat×Nat)
 bd:Bd
def VrX (h h':Hp) (sS sI sN:Sl) (p:CW):Prop:=
 ∃XS XI XN,pm XS sS 1 ((VL (p.tr.map Prod.fst)).map I)/\pm XI sI 1 ((VL (p.tr.map Prod.snd)).map I)/\pm XN sN 3 (bD p.bd.ns)/\Kn h h' (XS++(XI++XN))
theorem VrX.up {h g h1 h5:Hp} {b6:Nat} {sS sI sN:Sl} {p:CW} (t:VrX g h1 sS sI sN p) (lg:h.le g) (h6:g b6≠none) (l5:h.le h5) (kp: ∀c,c≠b6->h5 c=h1 c):VrX h h5 sS sI sN p:=by
 obtain⟨XS,XI,XN,oS,oI,oN,K⟩:=t
 refine⟨XS,XI,XN,oS,oI,oN,l5,fun e he=>?_,fun e he=>aF lg (K.new e he),K.nd⟩
 have hne:e.1≠b6:=by
  intro e6
  have h1:=K.new e he
  rw [e6]at h1;exact h6 h1
 rw [kp _ hne];exact K.mem e he
theorem VrX.mono {h h1 h2:Hp} {sS sI sN:Sl} {p:CW} (t:VrX h h1 sS sI sN p) (l12:h1.le h2):VrX h h2 sS sI sN p:=by
 obtain⟨XS,XI,XN,oS,oI,oN,K⟩:=t
 exact⟨XS,XI,XN,oS,oI,oN,K.mono l12⟩
theorem VrX.le {h h':Hp} {sS sI sN:Sl} {p:CW} (t:VrX h h' sS sI sN p):h.le h':=by obtain⟨_,_,_,_,_,_,K⟩:=t;exact K.le
theorem Gq (sz:Nat):pm [] ⟨none,0,0⟩ sz []:=⟨by simp,by simp, .inl ⟨rfl,rfl⟩⟩
theorem VrX.ofTr {h h':Hp} {sS sI:Sl} {l:List (Nat×Nat)} {k d:Int} (t:TrX h h' sS sI l):VrX h h' sS sI ⟨none,0,0⟩ ⟨k,d,l,js⟩:=by
 obtain⟨XS,XI,oS,oI,K⟩:=t
 exact⟨XS,XI, [],oS,oI,Gq 3,by rw [List.append_nil];exact K⟩
theorem VrX.nil {h h':Hp} {k d:Int} (l:h.le h'):VrX h h' ⟨none,0,0⟩ ⟨none,0,0⟩ ⟨none,0,0⟩ ⟨k,d, [],js⟩:=VrX.ofTr (TrX.nil l)
theorem VrX.add {g h h':Hp} {L:List (Nat×Blk)} {sS sI sN:Sl} {p:CW} (t:VrX h h' sS sI sN p) (K:Kn g h L):
  ∃XS XI XN,pm XS sS 1 ((VL (p.tr.map Prod.fst)).map I)/\pm XI sI 1 ((VL (p.tr.map Prod.snd)).map I)/\pm XN sN 3 (bD p.bd.ns)/\Kn g h' (L++(XS++(XI++XN))):=by
 obtain⟨XS,XI,XN,oS,oI,oN,K'⟩:=t
 exact⟨XS,XI,XN,oS,oI,oN,K.app K'.le K'.new K'.mem K'.nd⟩
def VrS (h:Hp) (sS sI sN:Sl) (p:CW):Prop:=IntS h sS (VL (p.tr.map Prod.fst))/\IntS h sI (VL (p.tr.map Prod.snd))/\SlC h sN 3 (bD p.bd.ns)
theorem VrS.mono {h h':Hp} {sS sI sN:Sl} {p:CW} (l:h.le h') (t:VrS h sS sI sN p):VrS h' sS sI sN p:=⟨t.1.mono l,t.2.1.mono l,t.2.2.mono l⟩
abbrev rdC (s:Sl) (p:Nat):Blk:= .inl ⟨[s.v,I p],2,false⟩
theorem Rn {g h:Hp} {L L':List (Nat×Blk)} {B p:Nat} {s:Sl} {bs:List Nat} {n:Int} {R:Value->Hp->Prop} (K:Kn g h L) (hb:ByteS g s bs) (u:Upd L B (rdC s p) (rdC s (p+1)) L') (hp:p<=1000000) (hn:n<=1000000000)
  (k: ∀(x:Nat) h',Kn g h' L'->(1<=n->(x:Int)<n)->(n<1->x=0)->R (I x) h'):ai #[.pointer (some ⟨B,0,none⟩),I n] h R:=
 Dr ⟨K.at u.mem,hb.mono (vw (K.new (B,_) u.mem) K.le)⟩ (by omega) hn fun x h1 h2=>k x _ (K.set u) h1 h2
theorem kp_ {P Q:Prop} (k:Q) (h:Q->P:=by((with_reducible apply Rn);(assumption);(assumption);(((focus ((repeat first|exact .head|apply Upd.tail);done))));(omega);(omega))):P:=h k
def MG (X:List (Nat×Blk)) (M:MSl) (m:ah):Prop:=
 ∃XN XI XE XB XH,X=XN++(XI++(XE++(XB++(XH++ []))))/\cx XN M.no 9 (m.nodes.flatMap nodeCells)/\cx XI M.ini 2 (m.inits.flatMap bindCells)/\cx XE M.nex 2 (m.nexts.flatMap bindCells)/\
  cx XB M.bad 1 (m.bads.map I)/\cx XH M.hol 1 (m.holds.map I)
abbrev noM :MSl:=⟨⟨none,0,0⟩,⟨none,0,0⟩,⟨none,0,0⟩,⟨none,0,0⟩,⟨none,0,0⟩⟩
abbrev noP :ah:=⟨[], [], [], [], []⟩
theorem MG.nil :MG [] noM noP:=⟨[], [], [], [], [],rfl,cC 9,cC 2,cC 2,cC 1,cC 1⟩
section
variable {g h:Hp} {A X:List (Nat×Blk)} {M:MSl} {m:ah}
theorem cx.slcOf {X:List (Nat×Blk)} {s:Sl} {sz:Nat} {cs:List Value} (o:cx X s sz cs) (hn:s.n<=9223372036854775807) (m: ∀e∈X,h e.1=some e.2):SlC h s sz cs:=(o.buf m).slc_of hn
theorem MG.lens (o:MG X M m):M.no.n=m.nodes.length/\M.ini.n=m.inits.length/\M.nex.n=m.nexts.length/\M.bad.n=m.bads.length/\M.hol.n=m.holds.length/\M.no.n<=M.no.c:=by
 obtain⟨XN,XI,XE,XB,XH,_,a,b,c,d,e⟩:=o
 have h1:=a.1;have h2:=b.1;have h3:=c.1;have h4:=d.1;have h5:=e.1;have h6:=a.2.1
 rw [eV (m:=9) (fun _=>rfl)]at h1
 rw [eV (m:=2) (fun _=>rfl)]at h2 h3
 rw [List.length_map]at h4 h5
 omega
theorem MG.blk (o:MG X M m) (hn:0<m.nodes.length): ∃b x,M.no.a=some ⟨b,0,none⟩/\(b,x)∈X:=by
 have hl:=o.lens
 obtain⟨XN,XI,XE,XB,XH,rfl,a,_⟩:=o
 rcases a.2.2 with ⟨_,h0,_⟩|⟨b,ha,rfl⟩
 ·rw [h0]at hl;have:=hl.1;dsimp only at this;omega
 ·exact⟨b,_,ha,List.mem_append_left _ (.head _)⟩
theorem MG.modelS (o:MG X M m) (hm:bW m) (K:Kn g h (A++X)):aO h M m:=by
 have hl:=o.lens
 have hm':=hm.nodes;have h2:=hm.inits;have h3:=hm.nexts;have h4:=hm.bads;have h5:=hm.holds
 obtain⟨XN,XI,XE,XB,XH,rfl,a,b,c,d,e⟩:=o
 have mem: ∀x∈XN++(XI++(XE++(XB++(XH++ [])))),h x.1=some x.2:=fun x hx=>K.mem x (List.mem_append_right _ hx)
 refine⟨a.slcOf (by omega) fun x hx=>mem x (by simp [hx]),b.slcOf (by omega) fun x hx=>mem x (by simp [hx]),c.slcOf (by omega) fun x hx=>mem x (by simp [hx]),
  d.slcOf (by omega) fun x hx=>mem x (by simp [hx]),e.slcOf (by omega) fun x hx=>mem x (by simp [hx]),hl.2.2.2.2.2⟩
theorem MG.appN {b:Nat} {n:NodeP} {C:Option Addr->Nat->Nat->Hp->Prop} (o:MG X M m) (K:Kn g h (A++X)) (hm:m.nodes.length<=100000) (f:h b=some (.inl ⟨nodeCells n,9,false⟩))
  (k: ∀s' X' h',MG X' {M with no:=s'} {m with nodes:=m.nodes++ [n]}->Kn g h' (A++X')->C s'.a s'.n s'.c h'):co h M.no.a M.no.n M.no.c (some ⟨b,0,none⟩) 1 9 80 C:=by
 have hl:=o.lens
 obtain⟨XN,XI,XE,XB,XH,rfl,a,b',c,d,e⟩:=o
 refine Kn.growIn K a (by omega) (by omega) (by omega) ⟨b,0,rfl,ay f⟩ rfl rfl fun s' X' h' hn a' K' _=>?_
 exact k s' _ h' ⟨X',XI,XE,XB,XH,rfl,by rw [List.flatMap_append];exact a',b',c,d,e⟩ K'
theorem MG.appI {b:Nat} {n:BindP} {C:Option Addr->Nat->Nat->Hp->Prop} (o:MG X M m) (K:Kn g h (A++X)) (hm:m.inits.length<=100000) (f:h b=some (.inl ⟨bindCells n,2,false⟩))
  (k: ∀s' X' h',MG X' {M with ini:=s'} {m with inits:=m.inits++ [n]}->Kn g h' (A++X')->C s'.a s'.n s'.c h'):co h M.ini.a M.ini.n M.ini.c (some ⟨b,0,none⟩) 1 2 16 C:=by
 have hl:=o.lens
 obtain⟨XN,XI,XE,XB,XH,rfl,a,b',c,d,e⟩:=o
 refine Kn.growIn2 K b' (by omega) (by omega) (by omega) ⟨b,0,rfl,ay f⟩ rfl rfl fun s' X' h' hn a' K' _=>?_
 exact k s' _ h' ⟨XN,X',XE,XB,XH,rfl,a,by rw [List.flatMap_append];exact a',c,d,e⟩ K'
theorem MG.appE {b:Nat} {n:BindP} {C:Option Addr->Nat->Nat->Hp->Prop} (o:MG X M m) (K:Kn g h (A++X)) (hm:m.nexts.length<=100000) (f:h b=some (.inl ⟨bindCells n,2,false⟩))
  (k: ∀s' X' h',MG X' {M with nex:=s'} {m with nexts:=m.nexts++ [n]}->Kn g h' (A++X')->C s'.a s'.n s'.c h'):co h M.nex.a M.nex.n M.nex.c (some ⟨b,0,none⟩) 1 2 16 C:=by
 have hl:=o.lens
 obtain⟨XN,XI,XE,XB,XH,rfl,a,b',c,d,e⟩:=o
 refine Kn.growIn3 K c (by omega) (by omega) (by omega) ⟨b,0,rfl,ay f⟩ rfl rfl fun s' X' h' hn a' K' _=>?_
 exact k s' _ h' ⟨XN,XI,X',XB,XH,rfl,a,b',by rw [List.flatMap_append];exact a',d,e⟩ K'
theorem MG.appB {b:Nat} {n:Int} {C:Option Addr->Nat->Nat->Hp->Prop} (o:MG X M m) (K:Kn g h (A++X)) (hm:m.bads.length<=100000) (f:h b=some (.inl ⟨[I n],1,false⟩))
  (k: ∀s' X' h',MG X' {M with bad:=s'} {m with bads:=m.bads++ [n]}->Kn g h' (A++X')->C s'.a s'.n s'.c h'):co h M.bad.a M.bad.n M.bad.c (some ⟨b,0,none⟩) 1 1 8 C:=by
 have hl:=o.lens
 obtain⟨XN,XI,XE,XB,XH,rfl,a,b',c,d,e⟩:=o
 have sw: ∀Z:List (Nat×Blk),A++(XN++(XI++(XE++(Z++(XH++ [])))))=(A++(XN++XI))++(XE++(Z++(XH++ []))):=fun Z=>by simp
 rw [sw]at K
 refine Kn.growIn2 K d (by omega) (by omega) (by omega) ⟨b,0,rfl,ay f⟩ rfl rfl fun s' X' h' hn a' K' _=>?_
 rw [<-sw]at K'
 exact k s' _ h' ⟨XN,XI,XE,X',XH,rfl,a,b',c,by rw [List.map_append];exact a',e⟩ K'
theorem MG.appH {b:Nat} {n:Int} {C:Option Addr->Nat->Nat->Hp->Prop} (o:MG X M m) (K:Kn g h (A++X)) (hm:m.holds.length<=100000) (f:h b=some (.inl ⟨[I n],1,false⟩))
  (k: ∀s' X' h',MG X' {M with hol:=s'} {m with holds:=m.holds++ [n]}->Kn g h' (A++X')->C s'.a s'.n s'.c h'):co h M.hol.a M.hol.n M.hol.c (some ⟨b,0,none⟩) 1 1 8 C:=by
 have hl:=o.lens
 obtain⟨XN,XI,XE,XB,XH,rfl,a,b',c,d,e⟩:=o
 have sw: ∀Z:List (Nat×Blk),A++(XN++(XI++(XE++(XB++(Z++ [])))))=(A++(XN++XI))++(XE++(XB++(Z++ []))):=fun Z=>by simp
 rw [sw]at K
 refine Kn.growIn3 K e (by omega) (by omega) (by omega) ⟨b,0,rfl,ay f⟩ rfl rfl fun s' X' h' hn a' K' _=>?_
 rw [<-sw]at K'
 exact k s' _ h' ⟨XN,XI,XE,XB,X',rfl,a,b',c,d,by rw [List.map_append];exact a'⟩ K'
end
structure DM (m:ah) (N:Nat):Prop where
 nodes:m.nodes.length<=N
 sorts: ∀n∈m.nodes,bT n.sort=true
 names: ∀n∈m.nodes,n.name.size<=100
 inits:m.inits.length<=N
 nexts:m.nexts.length<=N
 bads:m.bads.length<=N
 holds:m.holds.length<=N
theorem DM.small {m:ah} {N:Nat} (d:DM m N) (hN:N<=100000):bW m:=
 ⟨by have:=d.nodes;omega,by have:=d.inits;omega,by have:=d.nexts;omega,by have:=d.bads;omega,by have:=d.holds;omega,fun n hn=>by have:=d.names n hn;omega⟩
theorem DM.more {m:ah} {N N':Nat} (d:DM m N) (h:N<=N'):DM m N':=
 ⟨Nat.le_trans d.nodes h,d.sorts,d.names,Nat.le_trans d.inits h,Nat.le_trans d.nexts h,Nat.le_trans d.bads h,Nat.le_trans d.holds h⟩
theorem DM.addN {m:ah} {N:Nat} (d:DM m N) {n:NodeP} (h1:bT n.sort=true) (h2:n.name.size<=100):DM {m with nodes:=m.nodes++ [n]} (N+1):=
 ⟨by have:=d.nodes;simp;omega,fun x hx=>by rcases List.mem_append.1 hx with hx|hx;exact d.sorts x hx;rw [List.mem_singleton.1 hx];exact h1,
  fun x hx=>by rcases List.mem_append.1 hx with hx|hx;exact d.names x hx;rw [List.mem_singleton.1 hx];exact h2,
  by have:=d.inits;dsimp only;omega,by have:=d.nexts;dsimp only;omega,by have:=d.bads;dsimp only;omega,by have:=d.holds;dsimp only;omega⟩
theorem Kn.tl {g h:Hp} {L:List (Nat×Blk)} {e:Nat×Blk} (K:Kn g h (e::L)):Kn g h L:=K.sub (fun x hx=> .tail _ hx) (by have:=K.nd;rw [List.map_cons,List.nodup_cons]at this;exact this.2)
theorem Kn.sw {g h:Hp} {L:List (Nat×Blk)} {a b:Nat×Blk} (K:Kn g h (a::b::L)):Kn g h (b::a::L):=K.perm (List.Perm.swap ..)
theorem rZ {m:ah} {N:Nat} (d:DM m N) {i:Nat} {n:NodeP} (h:m.nodes[i]?=some n):bT n.sort=true:=d.sorts n (List.mem_of_getElem? h)
theorem lp {s:SortP} (h:bT s=true):(0<=s.idx/\s.idx<=2)/\1<=s.wid/\s.wid<=16:=of_decide_eq_true h
theorem nP {w:Int} (h1:1<=w) (h2:w<=16):bT (cF w)=true:=decide_eq_true ⟨by simp [cF],h1,h2⟩
theorem Upd.mem2 {L L':List (Nat×Blk)} {b:Nat} {x y:Blk} (u:Upd L b x y L'):(b,y)∈L':=by
 induction u with
 |head=>exact .head _
 |tail _ ih=>exact .tail _ ih
section
variable {g h:Hp} {L L':List (Nat×Blk)} {b:Nat} {M M':MSl}
abbrev dg :List Value:= [.slice none 0 0, .slice none 0 0, .slice none 0 0, .slice none 0 0, .slice none 0 0]
theorem j3 {cs:List Value} {Q:Hp->Prop} (K:Kn g h L) (u:Upd L b (.inl ⟨cs,5,false⟩) (.inl ⟨aw M',5,false⟩) L') (hl:cs.length=5) (k: ∀h',Kn g h' L'->Q h'):
  ∃(cs:List Value) (z:Nat),h b=some (.inl ⟨cs,z,false⟩)/\0+5<=List.length cs/\cz (h.row b (cA cs 0 (aw M')) z) fun h'=>Q h':=by
 have e:cA cs 0 (aw M')=aw M':=by
  match cs,hl with
  | [_,_,_,_,_],_=>rfl
 exact Kn.wr (cs:=cs) (z:=5) (o:=0) (vs:=aw M') K (L':=L') (by rw [e];exact u) (by omega) fun h' K' _=>k h' K'
theorem Dn {Q:Sl->Sl->Sl->Sl->Sl->Hp->Prop} (K:Kn g h L) (u:Upd L b (.inl ⟨dg,5,false⟩) (.inl ⟨aw M,5,false⟩) L') (k: ∀h',Kn g h' L'->Q M.no M.ini M.nex M.bad M.hol h'):
  ∃(cs:List Value) (z:Nat),h b=some (.inl ⟨cs,z,false⟩)/\0+5<=List.length cs/\cz (h.row b (cA cs 0 (aw M)) z) fun h'=> ∃s1:Sl,Hp.cell h' b 0=some s1.v/\ ∃s2:Sl,Hp.cell h' b 1=some s2.v/\
   ∃s3:Sl,Hp.cell h' b 2=some s3.v/\ ∃s4:Sl,Hp.cell h' b 3=some s4.v/\ ∃s5:Sl,Hp.cell h' b 4=some s5.v/\Q s1 s2 s3 s4 s5 h':=by
 refine j3 K u rfl fun h' K'=>?_
 have hm:=u.mem2
 have c:=fun o=>aq (K'.at hm) o
 exact⟨_,c 0,_,c 1,_,c 2,_,c 3,_,c 4,k h' K'⟩
end
theorem z5 {α:Type} (a b c d e:α) (L:List α):(a::b::c::d::e::L).Perm (e::a::b::c::d::L):=by
 refine((List.Perm.cons a ((List.Perm.cons b ((List.Perm.cons c (List.Perm.swap e d L)).trans (List.Perm.swap e c _))).trans (List.Perm.swap e b _))).trans (List.Perm.swap e a _))
theorem Upd.app {L L' X:List (Nat×Blk)} {b:Nat} {x y:Blk} (u:Upd L b x y L'):Upd (L++X) b x y (L'++X):=by
 induction u with
 |head=>exact .head
 |tail _ ih=>exact .tail ih
theorem lE {g h:Hp} {H X:List (Nat×Blk)} {b bn:Nat} {M:MSl} {m:ah} {nd:NodeP} {J:Hp->Prop} (o:MG X M m) (K:Kn g h ((bn, .inl ⟨nodeCells nd,9,false⟩)::(H++X))) (hm:m.nodes.length<=10000) (hb:(b, .inl ⟨aw M,5,false⟩)∈H)
  (k: ∀s' X' h',MG X' {M with no:=s'} {m with nodes:=m.nodes++ [nd]}->(∀H',Upd H b (.inl ⟨aw M,5,false⟩) (.inl ⟨aw {M with no:=s'},5,false⟩) H'->Kn g h' (H'++X'))->J h'):
  co h M.no.a M.no.n M.no.c (some ⟨bn,0,none⟩) 1 9 80 fun a n c h95=> ∃(cs:List Value) (z:Nat),h95 b=some (.inl ⟨cs,z,false⟩)/\0+1<=List.length cs/\cz (h95.row b (cA cs 0 [.slice a n c]) z) fun h'=>J h':=by
 refine MG.appN (A:=_::H) (n:=nd) o K (by omega) (K.at (.head _)) fun s' X' h7 o' K7=>?_
 rw [List.cons_append]at K7
 have f:=K7.at (.tail _ (List.mem_append_left _ hb))
 exact⟨_,_,f,by simp,k s' X' _ o' fun H' u=>(K7.tl).set (u.app (X:=X'))⟩
set_option maxHeartbeats 1000000 in
theorem uL {g h:Hp} {A X:List (Nat×Blk)} {B p N:Nat} {s:Sl} {bs:List Nat} {M:MSl} {m:ah} {st:SortP} {R:Value->Hp->Prop} (K:Kn g h ((B,rdC s p)::(A++X))) (hb:ByteS g s bs) (o:MG X M m) (d:DM m N) (hN:N<=10000)
  (hne:0<m.nodes.length) (hp:p<=900000) (hst:bT st=true)
  (k: ∀h' p' X' M' m' (i:Nat),Kn g h' ((B,rdC s p')::(A++X'))->MG X' M' m'->DM m' (N+1)->i<m'.nodes.length->m.nodes.length<=m'.nodes.length->p'<=p+2->R (.tuple #[aQ M',I i]) h'):
  fH #[.pointer (some ⟨B,0,none⟩),aQ M,uQ st] h R:=by
 apply Fh
 refine uf_ ?_
 obtain⟨_,hw1,hw2⟩:=lp hst
 have hl:=o.lens
 have hsm:=d.small (by omega)
 have hdn:=d.nodes
 refine Kn.al K fun b10 h1 K1 l1 hb10=>?_
 refine Kn.al K1 fun b12 h2 K2 l2 hb12=>?_
 refine Kn.al K2 fun b14 h3 K3 l3 hb14=>?_
 clear K K1 K2 l1 l2 l3 hb10 hb12 hb14
 (refine kr_ ?_)
 refine kp_ ?_
 intro x h4 K4 hx _
 refine⟨_,rfl,?_⟩
 replace hx:x<m.nodes.length:=by have:=hx (by omega);omega
 clear K3 h3 h2 h1 h
 have hs:=o.modelS (A:=_::_::_::_::A) hsm K4
 refine av m.nodes.length (fun i vs h'=>vs= [.pointer (some ⟨B,0,none⟩), .pointer (some ⟨b10,0,none⟩), .pointer (some ⟨b12,0,none⟩), .pointer (some ⟨b14,0,none⟩),I x,I i]/\h4=h') ⟨rfl,rfl⟩ ?_
 rintro i _ _ nxt hi ⟨rfl,rfl⟩ hnx
 refine⟨_,b10,0,b12,0,b14,0,_,_,rfl,?_⟩
 (refine kr_ ?_)
 have same: ∀q:Nat,q<m.nodes.length-> ∃(cs:List Value) (z:Nat),h4 b14=some (.inl ⟨cs,z,false⟩)/\0+5<=List.length cs/\cz (h4.row b14 (cA cs 0 (aw M)) z) fun h58=> ∃s59:Sl,Hp.cell h58 b14 0=some s59.v/\ ∃s60:Sl,Hp.cell h58 b14 (0+1)=some s60.v/\
   ∃s61:Sl,Hp.cell h58 b14 (0+2)=some s61.v/\ ∃s62:Sl,Hp.cell h58 b14 (0+3)=some s62.v/\ ∃s63:Sl,Hp.cell h58 b14 (0+4)=some s63.v/\R (.tuple #[.agg #[s59.v,s60.v,s61.v,s62.v,s63.v],I q]) h58:=by
  intro q hq
  refine kw_ ?_
  intro h5 K5 _
  have K5':Kn g h5 ((b14, .inl ⟨aw M,5,false⟩)::(b12, .inl ⟨[I st.idx,I st.wid],2,false⟩)::(b10, .inl ⟨aw M,5,false⟩)::(B,rdC s (p+1))::(A++X)):=K5
  clear K5 K4
  repeat' (refine kr_ ?_)
  exact k h5 (p+1) X M m q K5'.tl.tl.tl o (d.more (by omega)) hq (Nat.le_refl _) (by omega)
 by_cases hlt:i<m.nodes.length
 ·refine aM (by rw [decide_eq_true_eq];omega) ?_
  (refine kr_ ?_)
  rw [if_neg (by omega)]
  (refine kr_ ?_)
  have hq:(x+i)%m.nodes.length<m.nodes.length:=Nat.mod_lt _ hne
  rw [<-Int.natCast_add,eO (by omega),show ((M.no.n:Nat):Int)=(m.nodes.length:Nat) by omega,eU]
  generalize (x+i)%m.nodes.length=q at*
  obtain⟨n,hni⟩: ∃n,m.nodes[q]?=some n:=⟨_,List.getElem?_eq_getElem hq⟩
  obtain⟨b,oo,ha,e0,e1,e2,e3,e4,e5,e6,e7,e8⟩:=hs.nodes.at hni
  rw [Int.toNat_natCast]
  refine⟨b,oo,ha,by omega,by omega,_,e6,_,e7,?_⟩
  (refine kr_ ?_)
  (refine kr_ ?_)
  refine ac (fun e=>?_) (fun e=>?_)
  ·repeat' (refine kr_ ?_)
   exact same q hq
  ·rw [aC (by omega)]
   exact hnx hlt _ _ ⟨rfl,rfl⟩
 refine aE (by rw [decide_eq_false_iff_not];omega) ?_
 clear hnx hlt hi
 (refine kr_ ?_)
 refine ac (fun e=>?_) (fun e=>?_)
 ·repeat' (refine kr_ ?_)
  exact same 0 hne
 have e':=of_decide_eq_false e
 have hi0:st.idx=0:=by have:=(lp hst).1;omega
 clear same hs
 refine ap (fun J=> ∀h5 X' s' p' nd,nd.sort=st->nd.name.size=0->MG X' {M with no:=s'} {m with nodes:=m.nodes++ [nd]}->Kn g h5 ((b14, .inl ⟨[.slice none 0 0, .slice none 0 0, .slice none 0 0, .slice none 0 0, .slice none 0 0],5,false⟩)::(b12, .inl ⟨[I st.idx,I st.wid],2,false⟩)::
  (b10, .inl ⟨aw {M with no:=s'},5,false⟩)::(B,rdC s p')::(A++X'))->p'<=p+2->J h5) (fun h5 X' s' p' nd hs1 hs2 o' K5 hp'=>?_) (fun J hJ=>?_)
 ·have hl':=o'.lens
  repeat' (refine kr_ ?_)
  refine kw_ ?_
  intro h6 K6 kp6
  have K6':Kn g h6 ((b14, .inl ⟨aw {M with no:=s'},5,false⟩)::(b12, .inl ⟨[I st.idx,I st.wid],2,false⟩)::(b10, .inl ⟨aw {M with no:=s'},5,false⟩)::(B,rdC s p')::(A++X')):=K6
  repeat' (refine kr_ ?_)
  clear K5 K6 K4
  repeat' (refine kr_ ?_)
  rw [show W ((s'.n:Int)-1)=(m.nodes.length:Nat) by
   have h1:=hl'.1
   simp at h1
   rw [bU (by omega) (by omega)];omega]
  exact k h6 p' X' _ _ m.nodes.length K6'.tl.tl.tl o' (d.addN (by rw [hs1];exact hst) (by omega)) (by simp) (by simp) hp'
 obtain⟨w,hw⟩: ∃w:Nat,st.wid=w:=⟨st.wid.toNat,by omega⟩
 have hp2:0<2^w:=Nat.two_pow_pos w
 have fin: ∀(y:Nat) (h5 h6:Hp) (q b:Nat),q<=p+2->Kn g h5 ((b14, .inl ⟨[.slice none 0 0, .slice none 0 0, .slice none 0 0, .slice none 0 0, .slice none 0 0],5,false⟩)::(b12, .inl ⟨[I st.idx,I st.wid],2,false⟩)::(b10, .inl ⟨aw M,5,false⟩)::(B,rdC s q)::(A++X))->
   Kn g h6 ((b, .inl ⟨[I 34,I 0,I 0,I 0,I (Int.tmod y (2^w:Nat)),I 0,I st.idx,I st.wid, .string ⟨#[]⟩],9,false⟩)::(b14, .inl ⟨[.slice none 0 0, .slice none 0 0, .slice none 0 0, .slice none 0 0, .slice none 0 0],5,false⟩)::(b12, .inl ⟨[I st.idx,I st.wid],2,false⟩)::(b10, .inl ⟨aw M,5,false⟩)::(B,rdC s q)::(A++X))->
   co h6 M.no.a M.no.n M.no.c (some (Addr.mk b 0 none)) 1 9 80 fun a92 n93 k94 h95=> ∃(cs96:List Value) (z97:Nat),h95 b10=some (.inl ⟨cs96,z97,false⟩)/\0+1<=List.length cs96/\cz (h95.row b10 (cA cs96 0 [(.slice a92 n93 k94)]) z97) fun h98=>J h98:=by
  intro y h5 h6 q b hq K5 K6
  refine MG.appN (A:=_::_::_::_::_::A) (n:=⟨34,0,0,0,Int.tmod y (2^w:Nat),0,st,⟨#[]⟩⟩) o K6 (by omega) (K6.at (.head _)) fun s' X' h7 o' K7=>?_
  simp only [List.cons_append]at K7
  clear K6 K5 K4
  refine kw_ ?_
  intro h8 K8 _
  exact hJ h8 X' s' q _ rfl rfl o' K8.tl hq
 repeat' (refine kr_ ?_)
 refine⟨?_,?_⟩
 ·refine kp_ ?_
  intro y h5 K5 hy _
  refine⟨_,rfl,?_⟩
  repeat' (refine kr_ ?_)
  rw [hw,cu (by omega),if_neg (by omega),bJ (by omega),if_neg (by omega),<-hw]
  refine Kn.al K5 fun b90 h6 K6 l6 hb90=>?_
  (refine kr_ ?_)
  exact fin y h5 h6 (p+2) b90 (Nat.le_refl _) K5 K6
 ·repeat' (refine kr_ ?_)
  rw [hw,cu (by omega),if_neg (by omega),bJ (by omega),<-hw]
  refine kp_ ?_
  intro y h5 K5 hy _
  refine⟨_,rfl,?_⟩
  repeat' (refine kr_ ?_)
  rw [if_neg (by omega)]
  refine Kn.al K5 fun b90 h6 K6 l6 hb90=>?_
  (refine kr_ ?_)
  exact fin y h5 h6 (p+2) b90 (Nat.le_refl _) K5 K6
set_option maxHeartbeats 1000000 in
theorem Lf {g h:Hp} {A X:List (Nat×Blk)} {B p N:Nat} {s:Sl} {bs:List Nat} {M:MSl} {m:ah} {R:Value->Hp->Prop} (K:Kn g h ((B,rdC s p)::(A++X))) (hb:ByteS g s bs) (o:MG X M m) (d:DM m N) (hN:N<=1000)
  (hne:0<m.nodes.length) (hp:p<=800000)
  (k: ∀h' p' X' M' m' (i:Nat),Kn g h' ((B,rdC s p')::(A++X'))->MG X' M' m'->DM m' (N+3)->i<m'.nodes.length->m.nodes.length<=m'.nodes.length->p'<=p+2*N+10->R (.tuple #[aQ M',I i]) h'):
  lD #[.pointer (some ⟨B,0,none⟩),aQ M] h R:=by
 apply CL
 refine uf_ ?_
 have hl:=o.lens
 have hsm:=d.small (by omega)
 have hdn:=d.nodes
 refine Kn.al K fun b8 h1 K1 l1 hb8=>?_
 refine Kn.al K1 fun b10 h2 K2 l2 hb10=>?_
 clear K K1 l1 l2 hb8 hb10
 (refine kr_ ?_)
 rw [show W ((M.no.n:Int)-1)=(m.nodes.length:Int)-1 by rw [bU (by omega) (by omega)];omega]
 refine nv m.nodes.length (fun i vs h'=>vs= [.pointer (some ⟨B,0,none⟩), .pointer (some ⟨b8,0,none⟩), .pointer (some ⟨b10,0,none⟩),I ((i:Int)-1)]/\i<=m.nodes.length/\
  ∃q,q+i<=p+m.nodes.length/\Kn g h' ((b10, .inl ⟨dg,5,false⟩)::(b8, .inl ⟨aw M,5,false⟩)::(B,rdC s q)::(A++X))) ⟨rfl,Nat.le_refl _,p,Nat.le_refl _,K2⟩ ?_
 clear K2 h1 h2 h
 rintro i _ h4 nxt ⟨rfl,hi,q,hq,K4⟩ hnx
 refine⟨_,b8,0,b10,0,_,rfl,?_⟩
 have hs:=o.modelS (A:=_::_::_::A) hsm K4
 cases i with
 |succ i=>
  rw [show (((i+1:Nat):Int)-1)=(i:Nat) by omega]
  refine aM (by rw [decide_eq_true_eq];omega) ?_
  refine ap (fun J=> ∀c h5 q,q+i<=p+m.nodes.length->Kn g h5 ((b10, .inl ⟨dg,5,false⟩)::(b8, .inl ⟨aw M,5,false⟩)::(B,rdC s q)::(A++X))->J c h5) (fun c h5 q' hq' K5=>?_) (fun J hJ=>?_)
  ·refine ac (fun e=>?_) (fun e=>?_)
   ·clear K4
    repeat' (refine kr_ ?_)
    refine Dn K5 (by((focus ((repeat first|exact .head|apply Upd.tail);done)))) fun h6 K6=>?_
    exact k h6 q' X M m i K6.tl.tl o (d.more (by omega)) (by omega) (Nat.le_refl _) (by omega)
   ·rw [bU (by omega) (by omega)]
    exact hnx i (by omega) _ _ ⟨rfl,by omega,q',hq',K5⟩
  ·(refine kr_ ?_)
   obtain⟨n,hni⟩: ∃n,m.nodes[i]?=some n:=⟨_,List.getElem?_eq_getElem (by omega)⟩
   obtain⟨b,oo,ha,e0,e1,e2,e3,e4,e5,e6,e7,e8⟩:=hs.nodes.at hni
   refine⟨b,oo,ha,by omega,by omega,_,by rw [Int.toNat_natCast];exact e6,_,by rw [Int.toNat_natCast];exact e7,?_⟩
   refine ce ⟨_,_,rfl,?_⟩
   repeat' (refine kr_ ?_)
   refine ac (fun e=>?_) (fun e=>?_)
   ·(refine kr_ ?_)
    refine⟨b,oo,ha,by omega,by omega,_,by rw [Int.toNat_natCast];exact e0,?_⟩
    refine ac (fun e=>?_) (fun e=>?_)
    ·refine kp_ ?_
     intro x h5 K5 hx _
     exact⟨_,rfl,hJ _ h5 (q+1) (by omega) K5⟩
    ·exact hJ _ h4 q (by omega) K4
   ·exact hJ _ h4 q (by omega) K4
 |zero=>
 refine aE (by rw [decide_eq_false_iff_not];omega) ?_
 clear hnx
 refine av m.nodes.length (fun i vs h'=> ∃(a q:Nat),vs= [.pointer (some ⟨B,0,none⟩), .pointer (some ⟨b8,0,none⟩), .pointer (some ⟨b10,0,none⟩),I a,I i]/\a<m.nodes.length/\
  q<=p+m.nodes.length+i/\Kn g h' ((b10, .inl ⟨dg,5,false⟩)::(b8, .inl ⟨aw M,5,false⟩)::(B,rdC s q)::(A++X))) ⟨0,q,rfl,hne,by omega,K4⟩ ?_
 clear K4 hq hs h4 hi q
 rintro i _ h4 nxt hi ⟨a,q,rfl,ha',hq,K4⟩ hnx
 refine⟨_,b8,0,b10,0,_,_,rfl,?_⟩
 have hs:=o.modelS (A:=_::_::_::A) hsm K4
 (refine kr_ ?_)
 obtain⟨na,hna⟩: ∃n,m.nodes[a]?=some n:=⟨_,List.getElem?_eq_getElem ha'⟩
 by_cases hlt:i<m.nodes.length
 ·refine aM (by rw [decide_eq_true_eq];omega) ?_
  refine ap (fun J=> ∀(c:Nat) h5 q,c<m.nodes.length->q<=p+m.nodes.length+(i+1)->Kn g h5 ((b10, .inl ⟨dg,5,false⟩)::(b8, .inl ⟨aw M,5,false⟩)::(B,rdC s q)::(A++X))->J (c:Int) h5) (fun c h5 q' hc hq' K5=>?_) (fun J hJ=>?_)
  ·rw [aC (by omega)]
   exact hnx hlt _ _ ⟨c,q',rfl,hc,hq',K5⟩
  ·(refine kr_ ?_)
   obtain⟨n,hni⟩: ∃n,m.nodes[i]?=some n:=⟨_,List.getElem?_eq_getElem hlt⟩
   obtain⟨b,oo,ha,e0,_⟩:=hs.nodes.at hni
   refine⟨b,oo,ha,by omega,by omega,_,by rw [Int.toNat_natCast];exact e0,?_⟩
   refine ac (fun e=>?_) (fun e=>?_)
   ·(refine kr_ ?_)
    obtain⟨b,oo,ha,e0,_⟩:=hs.nodes.at hna
    refine⟨b,oo,ha,by omega,by omega,_,by rw [Int.toNat_natCast];exact e0,?_⟩
    refine ac (fun e=>?_) (fun e=>?_)
    ·exact hJ i h4 q hlt (by omega) K4
    ·refine kp_ ?_
     intro x h5 K5 hx _
     refine⟨_,rfl,ac (fun e=>?_) (fun e=>?_)⟩
     ·exact hJ i h5 _ hlt (by omega) K5
     ·exact hJ a h5 _ ha' (by omega) K5
   ·exact hJ a h4 q ha' (by omega) K4
 refine aE (by rw [decide_eq_false_iff_not];omega) ?_
 clear hnx
 repeat' (refine kr_ ?_)
 obtain⟨b,oo,ha,e0,e1,e2,e3,e4,e5,e6,e7,e8⟩:=hs.nodes.at hna
 refine⟨b,oo,ha,by omega,by omega,_,by rw [Int.toNat_natCast];exact e6,_,by rw [Int.toNat_natCast];exact e7,?_⟩
 refine uL (p:=q) (A:=(b10, .inl ⟨dg,5,false⟩)::(b8, .inl ⟨aw M,5,false⟩)::A) (st:=na.sort) (K4.perm ?_) hb o d (by omega) hne (by omega) (rZ d hna) fun h5 q5 X5 M5 m5 i5 K5 o5 d5 hi5 hl5 hq5=>⟨_,_,_,_,_,_,rfl,?_⟩
 ·exact(List.Perm.cons _ (List.Perm.swap ..)).trans (List.Perm.swap ..)
 have K5':Kn g h5 ((b10, .inl ⟨dg,5,false⟩)::(b8, .inl ⟨aw M,5,false⟩)::(B,rdC s q5)::(A++X5)):=K5.perm ((List.Perm.swap ..).trans (List.Perm.cons _ (List.Perm.swap ..)))
 clear K5 K4 hs e0 e1 e2 e3 e4 e5 e6 e7 e8 ha
 refine j3 (M':=M5) K5' (by((focus ((repeat first|exact .head|apply Upd.tail);done)))) rfl fun h6 K6=>?_
 clear K5'
 have hl5':=o5.lens
 have hsm5:=d5.small (by omega)
 have hs6:=o5.modelS (A:=_::_::_::A) hsm5 K6
 obtain⟨nb,hnb⟩: ∃n,m5.nodes[a]?=some n:=⟨_,List.getElem?_eq_getElem (by omega)⟩
 refine ap (fun J=> ∀c,J c) (fun c=>?_) (fun J hJ=>?_)
 rotate_left
 ·refine ac (fun e=>?_) (fun e=>hJ _)
  (refine kr_ ?_)
  obtain⟨b,oo,ha,e0,e1,e2,e3,e4,e5,e6,e7,e8⟩:=hs6.nodes.at hnb
  exact⟨b,oo,ha,by omega,by omega,_,by rw [Int.toNat_natCast];exact e6,hJ _⟩
 have d5n:=d5.nodes
 refine ap (fun J=> ∀(x:Nat) h7 q X7 M7 m7,MG X7 M7 m7->DM m7 (N+2)->x<m7.nodes.length->m5.nodes.length<=m7.nodes.length->q<=q5+1->Kn g h7 ((b10, .inl ⟨dg,5,false⟩)::(b8, .inl ⟨aw M7,5,false⟩)::(B,rdC s q)::(A++X7))->J (x:Int) h7)
  (fun x h7 q7 X7 M7 m7 o7 d7 hx7 hl7 hq7 K7=>?_) (fun J hJ=>?_)
 ·clear K6 hs6
  have hl7':=o7.lens
  have d7n:=d7.nodes
  (refine kr_ ?_)
  refine ce ⟨_,_,rfl,?_⟩
  repeat' (refine kr_ ?_)
  refine Kn.al K7 fun b173 h8 K8 l8 hb173=>?_
  repeat' (refine kr_ ?_)
  refine lE (H:=_::_::_::A) (nd:=⟨21,a,x,0,0,0,⟨0,1⟩,⟨#[]⟩⟩) o7 K8 (by omega) (.tail _ (.head _)) fun s' X9 h9 o9 KF=>?_
  have K9:=KF _ (by((focus ((repeat first|exact .head|apply Upd.tail);done))))
  simp only [List.cons_append]at K9
  clear KF K8 K7
  have hl9:=o9.lens
  repeat' (refine kr_ ?_)
  refine j3 (M':={M7 with no:=s'}) K9 (by((focus ((repeat first|exact .head|apply Upd.tail);done)))) rfl fun h11 K11=>?_
  repeat' (refine kr_ ?_)
  rw [show W ((s'.n:Int)-1)=(m7.nodes.length:Nat) by
   have h1:=hl9.1
   simp at h1
   rw [bU (by omega) (by omega)];omega]
  exact k h11 q7 X9 _ _ m7.nodes.length K11.tl.tl o9 (d7.addN rfl (show (0:Nat)<=100 by omega)) (by simp) (by simp;omega) (by omega)
 ·refine ac (fun e=>?_) (fun e=>?_)
  rotate_left
  ·exact hJ i5 h6 q5 X5 M5 m5 o5 (d5.more (by omega)) hi5 (Nat.le_refl _) (by omega) K6
  have hok:=rZ d5 hnb
  obtain⟨_,hw1,hw2⟩:=lp hok
  obtain⟨b,oo,ha,e0,e1,e2,e3,e4,e5,e6,e7,e8⟩:=hs6.nodes.at hnb
  obtain⟨bN,xN,haN,hmN⟩:=o5.blk (by omega)
  repeat' (refine kr_ ?_)
  refine⟨b,oo,ha,by omega,by omega,_,by rw [Int.toNat_natCast];exact e7,?_⟩
  repeat' (refine kr_ ?_)
  refine⟨b,oo,ha,by omega,by omega,_,by rw [Int.toNat_natCast];exact e6,_,by rw [Int.toNat_natCast];exact e7,?_⟩
  rw [haN]at ha
  cases ha
  obtain⟨w,hw⟩: ∃w:Nat,nb.sort.wid=w:=⟨nb.sort.wid.toNat,by omega⟩
  have hp2:0<2^w:=Nat.two_pow_pos w
  have fin: ∀(y:Nat) (h8:Hp) (b:Nat),Kn g h8 ((b, .inl ⟨[I 34,I 0,I 0,I 0,I (Int.tmod y (2^w:Nat)),I 0,I nb.sort.idx,I nb.sort.wid, .string ⟨#[]⟩],9,false⟩)::(b10, .inl ⟨dg,5,false⟩)::(b8, .inl ⟨aw M5,5,false⟩)::(B,rdC s (q5+1))::(A++X5))->
    co h8 M5.no.a M5.no.n M5.no.c (some (Addr.mk b 0 none)) 1 9 80 fun a92 n93 k94 h95=> ∃(cs96:List Value) (z97:Nat),h95 b8=some (.inl ⟨cs96,z97,false⟩)/\0+1<=List.length cs96/\cz (h95.row b8 (cA cs96 0 [(.slice a92 n93 k94)]) z97) fun h148=>
     ∃s150:Sl,Hp.cell h148 b8 0=some s150.v/\J (W ((s150.n:Int)-1)) h148:=by
   intro y h8 b K8
   refine lE (H:=_::_::_::A) (nd:=⟨34,0,0,0,Int.tmod y (2^w:Nat),0,nb.sort,⟨#[]⟩⟩) o5 K8 (by omega) (.tail _ (.head _)) fun s' X9 h9 o9 KF=>?_
   have K9:=KF _ (by((focus ((repeat first|exact .head|apply Upd.tail);done))))
   simp only [List.cons_append]at K9
   clear KF K8 K6
   have hl9:=o9.lens
   (refine kr_ ?_)
   rw [show W ((s'.n:Int)-1)=(m5.nodes.length:Nat) by
    have h1:=hl9.1
    simp at h1
    rw [bU (by omega) (by omega)];omega]
   exact hJ m5.nodes.length h9 (q5+1) X9 _ _ o9 (d5.addN hok (show (0:Nat)<=100 by omega)) (by simp) (by simp) (by omega) K9
  refine⟨?_,?_⟩
  ·refine kp_ ?_
   intro y h7 K7 hy _
   refine⟨_,rfl,?_⟩
   have hq:h7 b=h6 b:=by rw [K7.at (.tail _ (.tail _ (.tail _ (List.mem_append_right _ hmN)))),K6.at (.tail _ (.tail _ (.tail _ (List.mem_append_right _ hmN))))]
   repeat' (first|(refine kr_ ?_)|refine And.intro hq ?_)
   rw [hw,cu (by omega),if_neg (by omega),bJ (by omega),if_neg (by omega),<-hw]
   refine Kn.al K7 fun b90 h8 K8 l8 hb90=>?_
   (refine kr_ ?_)
   exact fin y h8 b90 K8
  ·repeat' (refine kr_ ?_)
   rw [hw,cu (by omega),if_neg (by omega),bJ (by omega),<-hw]
   refine kp_ ?_
   intro y h7 K7 hy _
   refine⟨_,rfl,?_⟩
   have hq:h7 b=h6 b:=by rw [K7.at (.tail _ (.tail _ (.tail _ (List.mem_append_right _ hmN)))),K6.at (.tail _ (.tail _ (.tail _ (List.mem_append_right _ hmN))))]
   repeat' (first|(refine kr_ ?_)|refine And.intro hq ?_)
   rw [if_neg (by omega)]
   refine Kn.al K7 fun b90 h8 K8 l8 hb90=>?_
   (refine kr_ ?_)
   exact fin y h8 b90 K8
theorem aay :DM noP 0:=⟨by simp,fun n hn=>by simp at hn,fun n hn=>by simp at hn,by simp,by simp,by simp,by simp⟩
theorem ac4 {i:Nat} (h:i<4): ∃s:ByteArray,([.string ⟨#[120]⟩, .string ⟨#[121]⟩, .string ⟨#[122]⟩, .string ⟨#[109,101,109]⟩]:List Value)[i]?=some (.string s)/\s.size<=100:=by
 rcases i with _|_|_|_|i
 ·exact⟨_,rfl,by decide⟩
 ·exact⟨_,rfl,by decide⟩
 ·exact⟨_,rfl,by decide⟩
 ·exact⟨_,rfl,by decide⟩
 ·omega
theorem ac7 {i:Nat} (h:i<2): ∃s:ByteArray,([.string ⟨#[103,111]⟩, .string ⟨#[105,110]⟩]:List Value)[i]?=some (.string s)/\s.size<=100:=by
 rcases i with _|_|i
 ·exact⟨_,rfl,by decide⟩
 ·exact⟨_,rfl,by decide⟩
 ·omega
theorem xy {a b:Int} (h1:0<=a) (h2:a<=2) (h3:1<=b) (h4:b<=16):bT ⟨a,b⟩=true:=decide_eq_true ⟨⟨h1,h2⟩,h3,h4⟩
set_option maxHeartbeats 2000000 in
theorem Mh {g h:Hp} {A:List (Nat×Blk)} {B p:Nat} {s:Sl} {bs:List Nat} {big:Bool} {R:Value->Hp->Prop} (K:Kn g h ((B,rdC s p)::A)) (hb:ByteS g s bs) (hp:p<=800000)
  (k: ∀h' p' X' M' m',Kn g h' ((B,rdC s p')::(A++X'))->MG X' M' m'->DM m' 12->0<m'.nodes.length->p'<=p+60->R (aQ M') h'):
  lQ #[.pointer (some ⟨B,0,none⟩),aQ noM, .bool big] h R:=by
 apply zt
 refine uf_ ?_
 refine Kn.al K fun b9 h1 K1 l1 hb9=>?_
 refine Kn.al K1 fun b11 h2 K2 l2 hb11=>?_
 refine Kn.al K2 fun b14 h3 K3 l3 hb14=>?_
 clear K K1 K2 l1 l2 l3 hb9 hb11 hb14
 refine ap (fun J=> ∀x:Int,J x) (fun x20=>?_) (fun J hJ=>ac (fun _=>hJ _) (fun _=>hJ _))
 refine kp_ ?_
 intro x24 h4 K4 hx24 _
 refine⟨_,rfl,?_⟩
 replace hx24:x24<3:=by have:=hx24 (by omega);omega
 clear K3 h3 h2 h1 h
 rw [show W (1+(x24:Int))=((1+x24:Nat):Int) by rw [bU (by omega) (by omega)];omega]
 refine av (1+x24) (fun i vs h'=> ∃(bits:Int) (q:Nat) (X:List (Nat×Blk)) (M:MSl) (m:ah),vs= [.pointer (some ⟨B,0,none⟩), .pointer (some ⟨b9,0,none⟩), .pointer (some ⟨b11,0,none⟩),(arr b14 4).v,I bits,I (1+x24:Nat),I i]/\
  MG X M m/\DM m i/\q<=p+1+4*i/\Kn g h' ((b14, .inl ⟨[.string ⟨#[120]⟩, .string ⟨#[121]⟩, .string ⟨#[122]⟩, .string ⟨#[109,101,109]⟩],4,false⟩)::(b11, .inl ⟨dg,5,false⟩)::(b9, .inl ⟨aw M,5,false⟩)::(B,rdC s q)::(A++X)))
  ⟨x20,p+1, [],noM,noP,rfl,MG.nil,aay,by omega,by rw [List.append_nil];exact K4⟩ ?_
 clear K4 h4
 rintro i _ h4 nxt hi ⟨bits,q,X,M,m,rfl,o,d,hq,K4⟩ hnx
 refine⟨_,b9,0,b11,0,arr b14 4,_,_,_,rfl,?_⟩
 have hl:=o.lens
 have hdn:=d.nodes
 by_cases hlt:i<1+x24
 ·refine aM (by rw [decide_eq_true_eq];omega) ?_
  have hi4:i<4:=by omega
  refine ap (fun J=> ∀(bits:Int) h5 q X M m,MG X M m->DM m (i+1)->q<=p+1+4*(i+1)->Kn g h5 ((b14, .inl ⟨[.string ⟨#[120]⟩, .string ⟨#[121]⟩, .string ⟨#[122]⟩, .string ⟨#[109,101,109]⟩],4,false⟩)::(b11, .inl ⟨dg,5,false⟩)::(b9, .inl ⟨aw M,5,false⟩)::(B,rdC s q)::(A++X))->J bits h5)
   (fun bits h5 q X M m o d hq K5=>?_) (fun J hJ=>?_)
  ·rw [aC (by omega)]
   exact hnx hlt _ _ ⟨bits,q,X,M,m,rfl,o,d,hq,K5⟩
  ·refine kp_ ?_
   intro x45 h5 K5 hx45 _
   refine⟨_,rfl,?_⟩
   replace hx45:x45<4:=by have:=hx45 (by omega);omega
   refine Kn.al K5 fun b46 h6 K6 l6 hb46=>?_
   clear K5 K4
   refine kw_ ?_
   intro h7 K7 _
   clear K6 l6 hb46
   refine kp_ ?_
   intro x54 h8 K8 _ _
   refine⟨_,rfl,?_⟩
   clear K7
   refine ap (fun J=> ∀(a w:Int) h9 q',0<=a->a<=2->1<=w->w<=16->q'<=q+4->Kn g h9 ((b46, .inl ⟨[I a,I w],2,false⟩)::(b14, .inl ⟨[.string ⟨#[120]⟩, .string ⟨#[121]⟩, .string ⟨#[122]⟩, .string ⟨#[109,101,109]⟩],4,false⟩)::(b11, .inl ⟨dg,5,false⟩)::(b9, .inl ⟨aw M,5,false⟩)::(B,rdC s q')::(A++X))->J h9)
    (fun a w h9 q' a1 a2 w1 w2 hq' K9=>?_) (fun J hJ=>?_)
   ·repeat' (refine kr_ ?_)
    refine im ⟨_,rfl,?_⟩
    refine ac (fun e=>?_) (fun e=>hJ _ _ q' X M m o (d.more (by omega)) (by omega) K9.tl)
    repeat' (refine kr_ ?_)
    refine im ⟨_,rfl,?_⟩
    refine⟨b14,0,rfl,by omega,by dsimp only;omega,?_⟩
    repeat' (refine kr_ ?_)
    obtain⟨nm,hnm,hsz⟩:=ac4 hi4
    refine⟨nm,by rw [aq (K9.at (.tail _ (.head _))),Int.toNat_natCast,Nat.zero_add,Nat.mul_one];exact hnm,?_⟩
    refine Kn.al K9 fun b86 h10 K10 l10 hb86=>?_
    repeat' (refine kr_ ?_)
    refine lE (H:=_::_::_::_::_::A) (nd:=⟨36,0,0,0,0,0,⟨a,w⟩,nm⟩) o K10 (by omega) (.tail _ (.tail _ (.tail _ (.head _)))) fun s' X9 h11 o9 KF=>?_
    have K11:=KF _ (by((focus ((repeat first|exact .head|apply Upd.tail);done))))
    simp only [List.cons_append]at K11
    exact hJ _ h11 q' X9 _ _ o9 (d.addN (xy a1 a2 w1 w2) hsz) (by omega) K11.tl
   ·refine ac (fun e=>?_) (fun e=>?_)
    ·refine kp_ ?_
     intro x59 h9 K9 hx59 _
     refine⟨_,rfl,?_⟩
     refine kp_ ?_
     intro x62 h10 K10 hx62 _
     refine⟨_,rfl,?_⟩
     replace hx59:x59<2:=by have:=hx59 (by omega);omega
     replace hx62:x62<2:=by have:=hx62 (by omega);omega
     clear K9 K8
     refine kw_ ?_
     intro h11 K11 _
     refine hJ (W (1+(x59:Int))) (W (1+(x62:Int))) h11 _ ?_ ?_ ?_ ?_ ?_ K11
     ·rw [bU (by omega) (by omega)];omega
     ·rw [bU (by omega) (by omega)];omega
     ·rw [bU (by omega) (by omega)];omega
     ·rw [bU (by omega) (by omega)];omega
     ·omega
    ·refine hJ 0 (W (1+(x45:Int))) h8 _ (by omega) (by omega) ?_ ?_ ?_ K8
     ·rw [bU (by omega) (by omega)];omega
     ·rw [bU (by omega) (by omega)];omega
     ·omega
 refine aE (by rw [decide_eq_false_iff_not];omega) ?_
 clear hnx
 (refine kr_ ?_)
 refine ap (fun J=> ∀h5 X M m,MG X M m->DM m 4->0<m.nodes.length->Kn g h5 ((b14, .inl ⟨[.string ⟨#[120]⟩, .string ⟨#[121]⟩, .string ⟨#[122]⟩, .string ⟨#[109,101,109]⟩],4,false⟩)::(b11, .inl ⟨dg,5,false⟩)::(b9, .inl ⟨aw M,5,false⟩)::(B,rdC s q)::(A++X))->J h5)
  (fun h5 X1 M1 m1 o1 d1 hpos K5=>?_) (fun J hJ=>?_)
 rotate_left
 ·refine ac (fun e=>?_) (fun e=>?_)
  ·(refine kr_ ?_)
   refine ce ⟨_,_,rfl,?_⟩
   repeat' (refine kr_ ?_)
   refine Kn.al K4 fun b109 h5 K5 l5 hb109=>?_
   repeat' (refine kr_ ?_)
   refine lE (H:=_::_::_::_::A) (nd:=⟨36,0,0,0,0,0,⟨0,2⟩,⟨#[120]⟩⟩) o K5 (by omega) (.tail _ (.tail _ (.head _))) fun s' X9 h11 o9 KF=>?_
   have K11:=KF _ (by((focus ((repeat first|exact .head|apply Upd.tail);done))))
   simp only [List.cons_append]at K11
   have hl9:=o9.lens
   exact hJ h11 X9 _ _ o9 ((d.addN (n:=⟨36,0,0,0,0,0,⟨0,2⟩,⟨#[120]⟩⟩) rfl (show (1:Nat)<=100 by omega)).more (by omega)) (by simp) K11
  ·have:m.nodes.length≠0:=fun q=>by rw [show M.no.n=0 by omega]at e;simp at e
   exact hJ h4 X M m o (d.more (by omega)) (by omega) K4
 clear K4 hdn hl d o h4
 refine kp_ ?_
 intro x122 h6 K6 hx122 _
 refine⟨_,rfl,?_⟩
 replace hx122:x122<3:=by have:=hx122 (by omega);omega
 refine av x122 (fun i vs h'=> ∃(q:Nat) (X:List (Nat×Blk)) (M:MSl) (m:ah),vs= [.pointer (some ⟨B,0,none⟩), .pointer (some ⟨b9,0,none⟩), .pointer (some ⟨b11,0,none⟩),I x122,I i]/\
  MG X M m/\DM m (4+i)/\0<m.nodes.length/\q<=p+20+i/\Kn g h' ((b14, .inl ⟨[.string ⟨#[120]⟩, .string ⟨#[121]⟩, .string ⟨#[122]⟩, .string ⟨#[109,101,109]⟩],4,false⟩)::(b11, .inl ⟨dg,5,false⟩)::(b9, .inl ⟨aw M,5,false⟩)::(B,rdC s q)::(A++X)))
  ⟨q+1,X1,M1,m1,rfl,o1,d1,hpos,by omega,K6⟩ ?_
 clear K6 K5 hpos d1 o1 hq q m1 M1 X1 h5 h6 m M X
 rintro j _ h4 nxt hj ⟨q,X,M,m,rfl,o,d,hpos,hq,K4⟩ hnx
 refine⟨_,b9,0,b11,0,_,_,rfl,?_⟩
 have hl:=o.lens
 have hdn:=d.nodes
 by_cases hlt:j<x122
 ·refine aM (by rw [decide_eq_true_eq];omega) ?_
  have hj2:j<2:=by omega
  refine ap (fun J=> ∀h5 q X M m,MG X M m->DM m (4+j+1)->0<m.nodes.length->q<=p+20+(j+1)->Kn g h5 ((b14, .inl ⟨[.string ⟨#[120]⟩, .string ⟨#[121]⟩, .string ⟨#[122]⟩, .string ⟨#[109,101,109]⟩],4,false⟩)::(b11, .inl ⟨dg,5,false⟩)::(b9, .inl ⟨aw M,5,false⟩)::(B,rdC s q)::(A++X))->J h5)
   (fun h5 q X M m o d hpos hq K5=>?_) (fun J hJ=>?_)
  ·rw [aC (by omega)]
   exact hnx hlt _ _ ⟨q,X,M,m,rfl,o,d,hpos,hq,K5⟩
  obtain⟨nm,hnm,hsz⟩:=ac7 hj2
  have fin: ∀(x bn bg:Nat) (h8:Hp),x<2->Kn g h8 ((bn, .inl ⟨[I 35,I 0,I 0,I 0,I 0,I 0,I 0,I (W (1+(x:Int))), .string nm],9,false⟩)::(bg, .inl ⟨[.string ⟨#[103,111]⟩, .string ⟨#[105,110]⟩],2,false⟩)::(b14, .inl ⟨[.string ⟨#[120]⟩, .string ⟨#[121]⟩, .string ⟨#[122]⟩, .string ⟨#[109,101,109]⟩],4,false⟩)::
    (b11, .inl ⟨dg,5,false⟩)::(b9, .inl ⟨aw M,5,false⟩)::(B,rdC s (q+1))::(A++X))->
    co h8 M.no.a M.no.n M.no.c (some (Addr.mk bn 0 none)) 1 9 80 fun a92 n93 k94 h95=> ∃(cs96:List Value) (z97:Nat),h95 b9=some (.inl ⟨cs96,z97,false⟩)/\0+1<=List.length cs96/\cz (h95.row b9 (cA cs96 0 [(.slice a92 n93 k94)]) z97) fun h148=>J h148:=by
   intro x bn bg h8 hx K8
   refine lE (H:=_::_::_::_::_::A) (nd:=⟨35,0,0,0,0,0,⟨0,W (1+(x:Int))⟩,nm⟩) o K8 (by omega) (.tail _ (.tail _ (.tail _ (.head _)))) fun s' X9 h9 o9 KF=>?_
   have K9:=KF _ (by((focus ((repeat first|exact .head|apply Upd.tail);done))))
   simp only [List.cons_append]at K9
   exact hJ h9 (q+1) X9 _ _ o9 (d.addN (xy (by omega) (by omega) (by rw [bU (by omega) (by omega)];omega) (by rw [bU (by omega) (by omega)];omega)) hsz) (by simp) (by omega) K9.tl
  have rd: ∀{h':Hp} {L:List (Nat×Blk)} {bg:Nat} {Q:ByteArray->Prop},Kn g h' ((bg, .inl ⟨[.string ⟨#[103,111]⟩, .string ⟨#[105,110]⟩],2,false⟩)::L)->Q nm-> ∃y:ByteArray,Hp.cell h' bg (0+Int.toNat (j:Int)*1)=some (.string y)/\Q y:=fun K' q=>⟨nm,by rw [aq (K'.at (.head _)),Int.toNat_natCast,Nat.zero_add,Nat.mul_one];exact hnm,q⟩
  (refine kr_ ?_)
  refine⟨?_,?_⟩
  ·refine kp_ ?_
   intro x h5 K5 hx _
   refine⟨_,rfl,?_⟩
   replace hx:x<2:=by have:=hx (by omega);omega
   repeat' (refine kr_ ?_)
   refine⟨?_,?_⟩
   ·refine ce ⟨_,_,rfl,?_⟩
    repeat' (refine kr_ ?_)
    refine Kn.al K5 fun bg h6 K6 l6 hbg=>?_
    repeat' (refine kr_ ?_)
    refine⟨by omega,by omega,?_⟩
    refine rd K6 ?_
    refine Kn.al K6 fun bn h7 K7 l7 hbn=>?_
    repeat' (refine kr_ ?_)
    exact fin x bn bg h7 hx K7
   ·refine Kn.al K5 fun bg h6 K6 l6 hbg=>?_
    repeat' (refine kr_ ?_)
    refine⟨by omega,by omega,?_⟩
    refine rd K6 ?_
    refine ce ⟨_,_,rfl,?_⟩
    repeat' (refine kr_ ?_)
    refine Kn.al K6 fun bn h7 K7 l7 hbn=>?_
    repeat' (refine kr_ ?_)
    exact fin x bn bg h7 hx K7
  ·refine Kn.al K4 fun bg h5 K5 l5 hbg=>?_
   repeat' (refine kr_ ?_)
   refine⟨by omega,by omega,?_⟩
   refine rd K5 ?_
   refine kp_ ?_
   intro x h6 K6 hx _
   refine⟨_,rfl,?_⟩
   replace hx:x<2:=by have:=hx (by omega);omega
   repeat' (refine kr_ ?_)
   refine ce ⟨_,_,rfl,?_⟩
   repeat' (refine kr_ ?_)
   refine Kn.al K6 fun bn h7 K7 l7 hbn=>?_
   repeat' (refine kr_ ?_)
   exact fin x bn bg h7 hx K7
 refine aE (by rw [decide_eq_false_iff_not];omega) ?_
 clear hnx
 refine kp_ ?_
 intro x205 h6 K6 hx205 _
 refine⟨_,rfl,?_⟩
 replace hx205:x205<3:=by have:=hx205 (by omega);omega
 rw [show W (1+(x205:Int))=((1+x205:Nat):Int) by rw [bU (by omega) (by omega)];omega]
 refine av (1+x205) (fun i vs h'=> ∃(q:Nat) (X:List (Nat×Blk)) (M:MSl) (m:ah),vs= [.pointer (some ⟨B,0,none⟩), .pointer (some ⟨b9,0,none⟩), .pointer (some ⟨b11,0,none⟩),I (1+x205:Nat),I i]/\
  MG X M m/\DM m (6+i)/\0<m.nodes.length/\q<=p+30+2*i/\Kn g h' ((b14, .inl ⟨[.string ⟨#[120]⟩, .string ⟨#[121]⟩, .string ⟨#[122]⟩, .string ⟨#[109,101,109]⟩],4,false⟩)::(b11, .inl ⟨dg,5,false⟩)::(b9, .inl ⟨aw M,5,false⟩)::(B,rdC s q)::(A++X)))
  ⟨q+1,X,M,m,rfl,o,d.more (by omega),hpos,by omega,K6⟩ ?_
 clear K6 K4 hpos d o hl hdn hq q m M X h4 h6
 rintro i _ h4 nxt hi ⟨q,X,M,m,rfl,o,d,hpos,hq,K4⟩ hnx
 refine⟨_,b9,0,b11,0,_,_,rfl,?_⟩
 have hl:=o.lens
 have hdn:=d.nodes
 by_cases hlt:i<1+x205
 rotate_left
 ·refine aE (by rw [decide_eq_false_iff_not];omega) ?_
  repeat' (refine kr_ ?_)
  refine Dn K4 (by((focus ((repeat first|exact .head|apply Upd.tail);done)))) fun h6 K6=>?_
  exact k h6 q X M m K6.tl.tl.tl o (d.more (by omega)) hpos (by omega)
 refine aM (by rw [decide_eq_true_eq];omega) ?_
 refine ap (fun J=> ∀h5 q X M m,MG X M m->DM m (6+i+1)->0<m.nodes.length->q<=p+30+2*(i+1)->Kn g h5 ((b14, .inl ⟨[.string ⟨#[120]⟩, .string ⟨#[121]⟩, .string ⟨#[122]⟩, .string ⟨#[109,101,109]⟩],4,false⟩)::(b11, .inl ⟨dg,5,false⟩)::(b9, .inl ⟨aw M,5,false⟩)::(B,rdC s q)::(A++X))->J h5)
  (fun h5 q X M m o d hpos hq K5=>?_) (fun J hJ=>?_)
 ·rw [aC (by omega)]
  exact hnx hlt _ _ ⟨q,X,M,m,rfl,o,d,hpos,hq,K5⟩
 refine kp_ ?_
 intro w h5 K5 hw _
 refine⟨_,rfl,?_⟩
 replace hw:w<4:=by have:=hw (by omega);omega
 have hp2:0<2^(1+w):=Nat.two_pow_pos _
 rw [show W (1+(w:Int))=((1+w:Nat):Int) by rw [bU (by omega) (by omega)];omega]
 have fin: ∀(y bn:Nat) (h8:Hp),Kn g h8 ((bn, .inl ⟨[I 34,I 0,I 0,I 0,I (Int.tmod y (2^(1+w):Nat)),I 0,I 0,I (1+w:Nat), .string ⟨#[]⟩],9,false⟩)::(b14, .inl ⟨[.string ⟨#[120]⟩, .string ⟨#[121]⟩, .string ⟨#[122]⟩, .string ⟨#[109,101,109]⟩],4,false⟩)::
   (b11, .inl ⟨dg,5,false⟩)::(b9, .inl ⟨aw M,5,false⟩)::(B,rdC s (q+1+1))::(A++X))->
   co h8 M.no.a M.no.n M.no.c (some (Addr.mk bn 0 none)) 1 9 80 fun a92 n93 k94 h95=> ∃(cs96:List Value) (z97:Nat),h95 b9=some (.inl ⟨cs96,z97,false⟩)/\0+1<=List.length cs96/\cz (h95.row b9 (cA cs96 0 [(.slice a92 n93 k94)]) z97) fun h148=>J h148:=by
  intro y bn h8 K8
  refine lE (H:=_::_::_::_::A) (nd:=⟨34,0,0,0,Int.tmod y (2^(1+w):Nat),0,⟨0,(1+w:Nat)⟩,⟨#[]⟩⟩) o K8 (by omega) (.tail _ (.tail _ (.head _))) fun s' X9 h9 o9 KF=>?_
  have K9:=KF _ (by((focus ((repeat first|exact .head|apply Upd.tail);done))))
  simp only [List.cons_append]at K9
  exact hJ h9 _ X9 _ _ o9 (d.addN (xy (by omega) (by omega) (by omega) (by omega)) (show (0:Nat)<=100 by omega)) (by simp) (by omega) K9
 (refine kr_ ?_)
 refine⟨?_,?_⟩
 ·refine kp_ ?_
  intro y h6 K6 hy _
  refine⟨_,rfl,?_⟩
  repeat' (refine kr_ ?_)
  refine⟨?_,?_⟩
  ·repeat' (refine kr_ ?_)
   rw [cu (by omega),if_neg (by omega),bJ (by omega),if_neg (by omega)]
   refine ce ⟨_,_,rfl,?_⟩
   repeat' (refine kr_ ?_)
   refine Kn.al K6 fun bn h7 K7 l7 hbn=>?_
   repeat' (refine kr_ ?_)
   exact fin y bn h7 K7
  ·refine ce ⟨_,_,rfl,?_⟩
   repeat' (refine kr_ ?_)
   rw [cu (by omega),if_neg (by omega),bJ (by omega),if_neg (by omega)]
   refine Kn.al K6 fun bn h7 K7 l7 hbn=>?_
   repeat' (refine kr_ ?_)
   exact fin y bn h7 K7
 ·repeat' (refine kr_ ?_)
  rw [cu (by omega),if_neg (by omega),bJ (by omega)]
  refine kp_ ?_
  intro y h6 K6 hy _
  refine⟨_,rfl,?_⟩
  repeat' (refine kr_ ?_)
  rw [if_neg (by omega)]
  refine ce ⟨_,_,rfl,?_⟩
  repeat' (refine kr_ ?_)
  refine Kn.al K6 fun bn h7 K7 l7 hbn=>?_
  repeat' (refine kr_ ?_)
  exact fin y bn h7 K7
theorem tJ {c:Prop} [Decidable c] {x t:SortP} (h:(if c then some x else none)=some t):c/\x=t:=by
 by_cases e:c
 ·rw [if_pos e]at h;exact⟨e,Option.some.inj h⟩
 ·rw [if_neg e]at h;cases h
theorem Lt {n:NodeP} {a b c t:SortP} (ha:bT a=true) (hb:2<=ar n.kind->bT b=true) (h:di n a b c=some t):bT t=true:=by
 obtain⟨⟨a1,a2⟩,a3,a4⟩:=lp ha
 unfold di at h
 by_cases e33:n.kind=33
 ·rw [if_pos e33]at h
  obtain⟨_,rfl⟩:=tJ h
  exact hb (by rw [e33];decide)
 rw [if_neg e33]at h
 by_cases e37:n.kind=37
 ·rw [if_pos e37]at h
  obtain⟨_,rfl⟩:=tJ h
  exact nP a3 a4
 rw [if_neg e37]at h
 by_cases e38:n.kind=38
 ·rw [if_pos e38]at h
  obtain⟨_,rfl⟩:=tJ h
  exact ha
 rw [if_neg e38]at h
 by_cases e21:n.kind=21
 ·rw [if_pos e21]at h
  obtain⟨_,rfl⟩:=tJ h
  exact nP (by omega) (by omega)
 rw [if_neg e21]at h
 by_cases ei:0<a.idx\/(ar n.kind=2/\0<b.idx)
 ·rw [if_pos ei]at h;cases h
 rw [if_neg ei]at h
 by_cases e29:n.kind=29
 ·rw [if_pos e29]at h
  obtain⟨e,rfl⟩:=tJ h
  have:=lp (hb (by rw [e29];decide))
  exact nP (by omega) (by omega)
 rw [if_neg e29]at h
 by_cases e30:n.kind=30
 ·rw [if_pos e30]at h
  obtain⟨e,rfl⟩:=tJ h
  exact nP (by omega) (by omega)
 rw [if_neg e30]at h
 by_cases e31:n.kind=31\/n.kind=32
 ·rw [if_pos e31]at h
  obtain⟨e,rfl⟩:=tJ h
  exact nP (by omega) (by omega)
 rw [if_neg e31]at h
 have hw: ∀q:Prop, [Decidable q]->bT (cF (if q then a.wid else 1))=true:=fun q _=>by
  by_cases e:q
  ·rw [if_pos e];exact nP a3 a4
  ·rw [if_neg e];exact nP (by omega) (by omega)
 by_cases e5:n.kind<=5
 ·rw [if_pos e5]at h
  obtain rfl:=Option.some.inj h
  exact hw _
 rw [if_neg e5]at h
 obtain⟨_,rfl⟩:=tJ h
 exact hw _
theorem IU {l:List NodeP} {n:NodeP} {t:SortP} (hk:ar n.kind≠0) (h:cW l n=some t):bT t=true:=by
 unfold cW at h
 by_cases e:l.length<=60/\fk l.length n=true
 ·rw [if_pos e,if_neg hk]at h
  by_cases e2:(bT (aA l n.a)&&((decide (ar n.kind<2)||bT (aA l n.b))&&(decide (ar n.kind<3)||bT (aA l n.c))))=true
  ·rw [if_pos e2]at h
   simp only [Bool.and_eq_true,Bool.or_eq_true,decide_eq_true_eq]at e2
   exact Lt e2.1 (fun h2=>e2.2.1.resolve_left (by omega)) h
  ·rw [if_neg e2]at h;cases h
 ·rw [if_neg e]at h;cases h
set_option maxHeartbeats 2000000 in
theorem Qa {g h:Hp} {A X:List (Nat×Blk)} {B p N:Nat} {s:Sl} {bs:List Nat} {M:MSl} {m:ah} {R:Value->Hp->Prop} (K:Kn g h ((B,rdC s p)::(A++X))) (hb:ByteS g s bs) (o:MG X M m) (d:DM m N) (hN:N<=1000)
  (hne:0<m.nodes.length) (hp:p<=800000)
  (k: ∀h' p' X' M' m',Kn g h' ((B,rdC s p')::(A++X'))->MG X' M' m'->DM m' (N+3)->0<m'.nodes.length->p'<=p+20->R (aQ M') h'):
  oh #[.pointer (some ⟨B,0,none⟩),aQ M] h R:=by
 apply Br
 refine uf_ ?_
 have hl:=o.lens
 have hsm:=d.small (by omega)
 have hdn:=d.nodes
 refine Kn.al K fun b8 h1 K1 l1 hb8=>?_
 refine Kn.al K1 fun b10 h2 K2 l2 hb10=>?_
 clear K K1 l1 l2 hb8 hb10
 refine kp_ ?_
 intro x15 h3 K3 hx15 _
 refine⟨_,rfl,?_⟩
 replace hx15:x15<33:=by have:=hx15 (by omega);omega
 refine Kn.al K3 fun b16 h4 K4 l4 hb16=>?_
 refine kw_ ?_
 intro h5 K5 kpz
 clear kpz
 rw [show W (1+(x15:Int))=((1+x15:Nat):Int) by rw [bU (by omega) (by omega)];omega]at K5
 have K5':Kn g h5 ((b16, .inl ⟨nodeCells ⟨(1+x15:Nat),0,0,0,0,0,⟨0,0⟩,⟨#[]⟩⟩,9,false⟩)::(b10, .inl ⟨dg,5,false⟩)::(b8, .inl ⟨aw M,5,false⟩)::(B,rdC s (p+1))::(A++X)):=K5
 clear K5 K4 K3 K2 l4 hb16 h4 h3 h2 h1 h
 refine kp_ ?_
 intro x24 h6 K6 _ _
 refine⟨_,rfl,?_⟩
 clear K5' h5
 have hk0:ar ((1+x15:Nat):Int)≠0:=by
  unfold ar
  have h1: ¬(34<=((1+x15:Nat):Int)/\((1+x15:Nat):Int)<=36):=by omega
  rw [if_neg h1]
  split
  ·decide
  ·split
   ·decide
   ·split<;>decide
 refine ap (fun J=> ∀(kd:Int) h5 q,ar kd≠0->q<=p+3->Kn g h5 ((b16, .inl ⟨nodeCells ⟨kd,0,0,0,0,0,⟨0,0⟩,⟨#[]⟩⟩,9,false⟩)::(b10, .inl ⟨dg,5,false⟩)::(b8, .inl ⟨aw M,5,false⟩)::(B,rdC s q)::(A++X))->J h5) (fun kd h5 q hkd hq K5=>?_) (fun J hJ=>?_)
 rotate_left
 ·refine ac (fun e=>?_) (fun e=>hJ _ h6 _ hk0 (by omega) K6)
  refine Kn.al K6 fun b27 h7 K7 l7 hb27=>?_
  refine kp_ ?_
  intro x31 h8 K8 hx31 _
  refine⟨_,rfl,?_⟩
  replace hx31:x31<2:=by have:=hx31 (by omega);omega
  clear K7 K6
  refine⟨b27,0,rfl,by omega,by omega,?_⟩
  obtain⟨kd,hkd,hk1⟩: ∃kd:Int,([I 37,I 38]:List Value)[x31]?=some (I kd)/\ar kd≠0:=by
   rcases x31 with _|_|i
   ·exact⟨37,rfl,by decide⟩
   ·exact⟨38,rfl,by decide⟩
   ·omega
  refine⟨kd,by rw [aq (K8.at (.head _)),Int.toNat_natCast,Nat.zero_add,Nat.mul_one];exact hkd,?_⟩
  refine kw_ ?_
  intro h9 K9 kpz
  clear kpz
  exact hJ kd h9 _ hk1 (by omega) K9.tl
 clear K6 hk0 hx15 h6
 (refine kr_ ?_)
 refine kp_ ?_
 intro a h6 K6 ha _
 refine⟨_,rfl,?_⟩
 replace ha:a<m.nodes.length:=by have:=ha (by omega);omega
 clear K5
 refine kw_ ?_
 intro h7 K7 kpz
 clear kpz
 have K7':Kn g h7 ((b16, .inl ⟨nodeCells ⟨kd,a,0,0,0,0,⟨0,0⟩,⟨#[]⟩⟩,9,false⟩)::(b10, .inl ⟨dg,5,false⟩)::(b8, .inl ⟨aw M,5,false⟩)::(B,rdC s (q+1))::(A++X)):=K7
 clear K7 K6 h5 h6
 repeat' (refine kr_ ?_)
 obtain⟨na,hna⟩: ∃n,m.nodes[a]?=some n:=⟨_,List.getElem?_eq_getElem ha⟩
 have hs:=o.modelS (A:=_::_::_::_::A) hsm K7'
 obtain⟨b,oo,ha',e0,e1,e2,e3,e4,e5,e6,e7,e8⟩:=hs.nodes.at hna
 refine⟨b,oo,ha',(by first|omega|(dsimp only;omega)),(by first|omega|(dsimp only;omega)),_,by rw [Int.toNat_natCast];exact e6,_,by rw [Int.toNat_natCast];exact e7,?_⟩
 clear e0 e1 e2 e3 e4 e5 e6 e7 e8 ha' hs
 refine Kn.al K7' fun b54 h8 K8 l8 hb54=>?_
 refine kw_ ?_
 intro h9 K9 kpz
 clear kpz
 have K9':Kn g h9 ((b54, .inl ⟨[I na.sort.idx,I na.sort.wid],2,false⟩)::(b16, .inl ⟨nodeCells ⟨kd,a,0,0,0,0,⟨0,0⟩,⟨#[]⟩⟩,9,false⟩)::(b10, .inl ⟨dg,5,false⟩)::(b8, .inl ⟨aw M,5,false⟩)::(B,rdC s (q+1))::(A++X)):=K9
 clear K9 K8 K7' l8 hb54 h8 h7
 have hst:=rZ d hna
 obtain⟨⟨w1,w2⟩,w3,w4⟩:=lp hst
 refine ap (fun J=> ∀h5 q' X' M' m' (nd:NodeP) (z:Blk),nd.kind=kd->nd.name.size=0->MG X' M' m'->DM m' (N+2)->0<m'.nodes.length->q'<=q+10->Kn g h5 ((b54,z)::(b16, .inl ⟨nodeCells nd,9,false⟩)::(b10, .inl ⟨dg,5,false⟩)::(b8, .inl ⟨aw M',5,false⟩)::(B,rdC s q')::(A++X'))->J b8 0 b10 0 b16 0 h5)
  (fun h5 q' X' M' m' nd z hkd2 hnm o' d' hpos hq' K5=>?_) (fun J hJ=>?_)
 ·clear K9'
  have hl':=o'.lens
  have hdn':=d'.nodes
  have hsm':=d'.small (by omega)
  have hs:=o'.modelS (A:=_::_::_::_::_::A) hsm' K5
  repeat' (refine kr_ ?_)
  refine m8 (n:=nd) hs.nodes (by omega) ?_
  cases hns:cW m'.nodes nd with
  |none=>
   refine⟨_,_,_,rfl,?_⟩
   refine Kn.al K5 fun b327 h6 K6 l6 hb327=>?_
   clear K5
   refine kw_ ?_
   intro h7 K7 kpz
   clear kpz
   clear K6
   rw [ey]
   refine aM rfl (aM rfl ?_)
   repeat' (refine kr_ ?_)
   refine Dn K7 (by((focus ((repeat first|exact .head|apply Upd.tail);done)))) fun h8 K8=>?_
   exact k h8 q' X' M' m' K8.tl.tl.tl.tl.tl o' (d'.more (by omega)) hpos (by omega)
  |some t=>
   refine⟨_,_,_,rfl,?_⟩
   have htok:=IU (by rw [hkd2];exact hkd) hns
   refine Kn.al K5 fun b327 h6 K6 l6 hb327=>?_
   clear K5
   refine kw_ ?_
   intro h7 K7 kpz
   clear kpz
   have K7':Kn g h7 ((b327, .inl ⟨[I t.idx,I t.wid],2,false⟩)::(b54,z)::(b16, .inl ⟨nodeCells nd,9,false⟩)::(b10, .inl ⟨dg,5,false⟩)::(b8, .inl ⟨aw M',5,false⟩)::(B,rdC s q')::(A++X')):=K7
   clear K6 K7
   refine ap (fun J=> ∀c,J c) (fun c=>?_) (fun J hJ=>?_)
   rotate_left
   ·refine aE rfl ?_
    (refine kr_ ?_)
    refine ac (fun _=>hJ _) (fun _=>?_)
    (refine kr_ ?_)
    exact hJ _
   cases c with
   |true=>
    refine aM rfl ?_
    repeat' (refine kr_ ?_)
    refine Dn K7' (by((focus ((repeat first|exact .head|apply Upd.tail);done)))) fun h8 K8=>?_
    exact k h8 q' X' M' m' K8.tl.tl.tl.tl.tl o' (d'.more (by omega)) hpos (by omega)
   |false=>
    refine aE rfl ?_
    repeat' (refine kr_ ?_)
    refine kw_ ?_
    intro h8 K8 kpz
    clear kpz
    have K8':Kn g h8 ((b327, .inl ⟨[I t.idx,I t.wid],2,false⟩)::(b54,z)::(b16, .inl ⟨nodeCells {nd with sort:=t},9,false⟩)::(b10, .inl ⟨dg,5,false⟩)::(b8, .inl ⟨aw M',5,false⟩)::(B,rdC s q')::(A++X')):=K8
    clear K8 K7'
    repeat' (refine kr_ ?_)
    refine Kn.al K8' fun b368 h9 K9 l9 hb368=>?_
    refine lE (H:=_::_::_::_::_::_::A) (nd:={nd with sort:=t}) o' K9 (by omega) (.tail _ (.tail _ (.tail _ (.tail _ (.head _))))) fun s' X9 h10 o9 KF=>?_
    have K10:=KF _ (by((focus ((repeat first|exact .head|apply Upd.tail);done))))
    simp only [List.cons_append]at K10
    clear KF K9 K8'
    repeat' (refine kr_ ?_)
    refine Dn (M:={M' with no:=s'}) K10 (by((focus ((repeat first|exact .head|apply Upd.tail);done)))) fun h11 K11=>?_
    exact k h11 q' X9 _ _ K11.tl.tl.tl.tl.tl o9 ((d'.addN htok (by show nd.name.size<=100;omega)).more (by omega)) (by simp) (by omega)
 (refine kr_ ?_)
 refine ac (fun e=>?_) (fun e=>?_)
 ·repeat' (refine kr_ ?_)
  refine ce ⟨_,_,rfl,?_⟩
  repeat' (refine kr_ ?_)
  refine uL (p:=q+1) (A:=(b54, .inl ⟨[I na.sort.idx,I na.sort.wid],2,false⟩)::(b16, .inl ⟨nodeCells ⟨kd,a,0,0,0,0,⟨0,0⟩,⟨#[]⟩⟩,9,false⟩)::(b10, .inl ⟨dg,5,false⟩)::(b8, .inl ⟨aw M,5,false⟩)::A) (st:=⟨0,1⟩)
   (K9'.perm (z5 _ _ _ _ _ _)) hb o d (by omega) hne (by omega) rfl fun h5 q5 X5 M5 m5 i5 K5 o5 d5 hi5 hl5 hq5=>⟨_,_,_,_,_,_,rfl,?_⟩
  replace K5:=K5.perm (z5 _ _ _ _ _ _).symm
  clear K9'
  refine j3 (M':=M5) K5 (by((focus ((repeat first|exact .head|apply Upd.tail);done)))) rfl fun h6 K6=>?_
  clear K5
  refine kw_ ?_
  intro h7 K7 kpz
  clear kpz
  have K7':Kn g h7 ((b54, .inl ⟨[I na.sort.idx,I na.sort.wid],2,false⟩)::(b16, .inl ⟨nodeCells ⟨kd,i5,0,0,0,0,⟨0,0⟩,⟨#[]⟩⟩,9,false⟩)::(b10, .inl ⟨dg,5,false⟩)::(b8, .inl ⟨aw M5,5,false⟩)::(B,rdC s q5)::(A++X5)):=K7
  clear K6 K7
  have hl5':=o5.lens
  have hdn5:=d5.nodes
  (refine kr_ ?_)
  refine kp_ ?_
  intro x90 h8 K8 hx90 _
  refine⟨_,rfl,?_⟩
  replace hx90:x90<m5.nodes.length:=by have:=hx90 (by omega);omega
  clear K7'
  refine kw_ ?_
  intro h9 K9 kpz
  clear kpz
  have K9':Kn g h9 ((b54, .inl ⟨[I na.sort.idx,I na.sort.wid],2,false⟩)::(b16, .inl ⟨nodeCells ⟨kd,i5,x90,0,0,0,⟨0,0⟩,⟨#[]⟩⟩,9,false⟩)::(b10, .inl ⟨dg,5,false⟩)::(b8, .inl ⟨aw M5,5,false⟩)::(B,rdC s (q5+1))::(A++X5)):=K9
  clear K8 K9
  repeat' (refine kr_ ?_)
  obtain⟨nb,hnb⟩: ∃n,m5.nodes[x90]?=some n:=⟨_,List.getElem?_eq_getElem hx90⟩
  have hs:=o5.modelS (A:=_::_::_::_::_::A) (d5.small (by omega)) K9'
  obtain⟨b,oo,ha',e0,e1,e2,e3,e4,e5,e6,e7,e8⟩:=hs.nodes.at hnb
  refine⟨b,oo,ha',(by first|omega|(dsimp only;omega)),(by first|omega|(dsimp only;omega)),_,by rw [Int.toNat_natCast];exact e6,_,by rw [Int.toNat_natCast];exact e7,?_⟩
  refine uL (p:=q5+1) (A:=(b54, .inl ⟨[I na.sort.idx,I na.sort.wid],2,false⟩)::(b16, .inl ⟨nodeCells ⟨kd,i5,x90,0,0,0,⟨0,0⟩,⟨#[]⟩⟩,9,false⟩)::(b10, .inl ⟨dg,5,false⟩)::(b8, .inl ⟨aw M5,5,false⟩)::A) (st:=nb.sort)
   (K9'.perm (z5 _ _ _ _ _ _)) hb o5 d5 (by omega) (by omega) (by omega) (rZ d5 hnb) fun h5 q6 X6 M6 m6 i6 K5 o6 d6 hi6 hl6 hq6=>⟨_,_,_,_,_,_,rfl,?_⟩
  replace K5:=K5.perm (z5 _ _ _ _ _ _).symm
  clear K9' hs e0 e1 e2 e3 e4 e5 e6 e7 e8
  refine j3 (M':=M6) K5 (by((focus ((repeat first|exact .head|apply Upd.tail);done)))) rfl fun h10 K10=>?_
  clear K5
  refine kw_ ?_
  intro h11 K11 kpz
  clear kpz
  exact hJ h11 q6 X6 M6 m6 ⟨kd,i5,x90,i6,0,0,⟨0,0⟩,⟨#[]⟩⟩ _ rfl rfl o6 d6 (by omega) (by omega) K11
 have hnl:=hdn
 refine ap (fun J=> ∀c,J c) (fun c=>?_) (fun J hJ=>?_)
 rotate_left
 ·(refine kr_ ?_)
  refine ac (fun _=>hJ _) (fun _=>?_)
  (refine kr_ ?_)
  exact hJ _
 refine ac (fun _=>?_) (fun _=>?_)
 ·--arrays
  refine av m.nodes.length (fun i vs h'=> ∃a:Nat,vs= [.pointer (some ⟨B,0,none⟩), .pointer (some ⟨b8,0,none⟩), .pointer (some ⟨b10,0,none⟩), .pointer (some ⟨b16,0,none⟩), .pointer (some ⟨b54,0,none⟩),I i]/\a<m.nodes.length/\
   Kn g h' ((b54, .inl ⟨[I na.sort.idx,I na.sort.wid],2,false⟩)::(b16, .inl ⟨nodeCells ⟨kd,a,0,0,0,0,⟨0,0⟩,⟨#[]⟩⟩,9,false⟩)::(b10, .inl ⟨dg,5,false⟩)::(b8, .inl ⟨aw M,5,false⟩)::(B,rdC s (q+1))::(A++X))) ⟨a,rfl,ha,K9'⟩ ?_
  rintro i _ h4 nxt hi ⟨a',rfl,ha',K4⟩ hnx
  refine⟨_,b8,0,b10,0,b16,0,b54,0,_,rfl,?_⟩
  have hs:=o.modelS (A:=_::_::_::_::_::A) hsm K4
  clear K9'
  (refine kr_ ?_)
  by_cases hlt:i<m.nodes.length
  ·refine aM (by rw [decide_eq_true_eq];omega) ?_
   refine ap (fun J=> ∀h5 (c:Nat),c<m.nodes.length->Kn g h5 ((b54, .inl ⟨[I na.sort.idx,I na.sort.wid],2,false⟩)::(b16, .inl ⟨nodeCells ⟨kd,c,0,0,0,0,⟨0,0⟩,⟨#[]⟩⟩,9,false⟩)::(b10, .inl ⟨dg,5,false⟩)::(b8, .inl ⟨aw M,5,false⟩)::(B,rdC s (q+1))::(A++X))->J h5) (fun h5 c hc K5=>?_) (fun J hJ=>?_)
   ·rw [aC (by omega)]
    exact hnx hlt _ _ ⟨c,rfl,hc,K5⟩
   ·(refine kr_ ?_)
    obtain⟨ni,hni⟩: ∃n,m.nodes[i]?=some n:=⟨_,List.getElem?_eq_getElem hlt⟩
    obtain⟨b,oo,ha2,e0,e1,e2,e3,e4,e5,e6,e7,e8⟩:=hs.nodes.at hni
    refine⟨b,oo,ha2,(by first|omega|(dsimp only;omega)),(by first|omega|(dsimp only;omega)),_,by rw [Int.toNat_natCast];exact e6,?_⟩
    clear e0 e1 e2 e3 e4 e5 e6 e7 e8
    refine ac (fun e=>?_) (fun e=>hJ h4 a' ha' K4)
    refine kw_ ?_
    intro h5 K5 kpz
    clear kpz
    exact hJ h5 i hlt K5
  refine aE (by rw [decide_eq_false_iff_not];omega) ?_
  clear hnx
  repeat' (refine kr_ ?_)
  obtain⟨nb,hnb⟩: ∃n,m.nodes[a']?=some n:=⟨_,List.getElem?_eq_getElem ha'⟩
  obtain⟨b,oo,ha2,e0,e1,e2,e3,e4,e5,e6,e7,e8⟩:=hs.nodes.at hnb
  refine⟨b,oo,ha2,(by first|omega|(dsimp only;omega)),(by first|omega|(dsimp only;omega)),_,by rw [Int.toNat_natCast];exact e6,_,by rw [Int.toNat_natCast];exact e7,?_⟩
  clear e0 e1 e2 e3 e4 e5 e6 e7 e8 hs
  obtain⟨⟨v1,v2⟩,v3,v4⟩:=lp (rZ d hnb)
  refine kw_ ?_
  intro h5 K5 kpz
  clear kpz
  have K5':Kn g h5 ((b54, .inl ⟨[I nb.sort.idx,I nb.sort.wid],2,false⟩)::(b16, .inl ⟨nodeCells ⟨kd,a',0,0,0,0,⟨0,0⟩,⟨#[]⟩⟩,9,false⟩)::(b10, .inl ⟨dg,5,false⟩)::(b8, .inl ⟨aw M,5,false⟩)::(B,rdC s (q+1))::(A++X)):=K5
  clear K5 K4
  (refine kr_ ?_)
  refine ac (fun e=>?_) (fun e=>?_)
  ·repeat' (refine kr_ ?_)
   refine Dn K5' (by((focus ((repeat first|exact .head|apply Upd.tail);done)))) fun h8 K8=>?_
   exact k h8 (q+1) X M m K8.tl.tl.tl.tl o (d.more (by omega)) hne (by omega)
  have hi1:nb.sort.idx≠0:=fun q=>by rw [q]at e;simp at e
  repeat' (refine kr_ ?_)
  refine ce ⟨_,_,rfl,?_⟩
  repeat' (refine kr_ ?_)
  refine uL (p:=q+1) (A:=(b54, .inl ⟨[I nb.sort.idx,I nb.sort.wid],2,false⟩)::(b16, .inl ⟨nodeCells ⟨kd,a',0,0,0,0,⟨0,0⟩,⟨#[]⟩⟩,9,false⟩)::(b10, .inl ⟨dg,5,false⟩)::(b8, .inl ⟨aw M,5,false⟩)::A) (st:=⟨0,nb.sort.idx⟩)
   (K5'.perm (z5 _ _ _ _ _ _)) hb o d (by omega) hne (by omega) (xy (by omega) (by omega) (by omega) (by omega)) fun h6 q6 X6 M6 m6 i6 K6 o6 d6 hi6 hl6 hq6=>⟨_,_,_,_,_,_,rfl,?_⟩
  replace K6:=K6.perm (z5 _ _ _ _ _ _).symm
  clear K5'
  refine j3 (M':=M6) K6 (by((focus ((repeat first|exact .head|apply Upd.tail);done)))) rfl fun h7 K7=>?_
  clear K6
  refine kw_ ?_
  intro h8 K8 kpz
  clear kpz
  have K8':Kn g h8 ((b54, .inl ⟨[I nb.sort.idx,I nb.sort.wid],2,false⟩)::(b16, .inl ⟨nodeCells ⟨kd,a',i6,0,0,0,⟨0,0⟩,⟨#[]⟩⟩,9,false⟩)::(b10, .inl ⟨dg,5,false⟩)::(b8, .inl ⟨aw M6,5,false⟩)::(B,rdC s q6)::(A++X6)):=K8
  clear K8 K7
  (refine kr_ ?_)
  refine ac (fun e=>?_) (fun e=>?_)
  ·repeat' (refine kr_ ?_)
   refine ce ⟨_,_,rfl,?_⟩
   repeat' (refine kr_ ?_)
   refine uL (p:=q6) (A:=(b54, .inl ⟨[I nb.sort.idx,I nb.sort.wid],2,false⟩)::(b16, .inl ⟨nodeCells ⟨kd,a',i6,0,0,0,⟨0,0⟩,⟨#[]⟩⟩,9,false⟩)::(b10, .inl ⟨dg,5,false⟩)::(b8, .inl ⟨aw M6,5,false⟩)::A) (st:=⟨0,nb.sort.wid⟩)
    (K8'.perm (z5 _ _ _ _ _ _)) hb o6 d6 (by omega) (by omega) (by omega) (xy (by omega) (by omega) (by omega) (by omega)) fun h9 q9 X9 M9 m9 i9 K9 o9 d9 hi9 hl9 hq9=>⟨_,_,_,_,_,_,rfl,?_⟩
   replace K9:=K9.perm (z5 _ _ _ _ _ _).symm
   clear K8'
   refine j3 (M':=M9) K9 (by((focus ((repeat first|exact .head|apply Upd.tail);done)))) rfl fun h10 K10=>?_
   clear K9
   refine kw_ ?_
   intro h11 K11 kpz
   clear kpz
   exact hJ h11 q9 X9 M9 m9 ⟨kd,a',i6,i9,0,0,⟨0,0⟩,⟨#[]⟩⟩ _ rfl rfl o9 d9 (by omega) (by omega) K11
  ·exact hJ h8 q6 X6 M6 m6 ⟨kd,a',i6,0,0,0,⟨0,0⟩,⟨#[]⟩⟩ _ rfl rfl o6 (d6.more (by omega)) (by omega) (by omega) K8'
 (refine kr_ ?_)
 refine ac (fun _=>?_) (fun _=>?_)
 ·(refine kr_ ?_)
  refine kp_ ?_
  intro y h10 K10 _ _
  refine⟨_,rfl,?_⟩
  clear K9'
  refine kw_ ?_
  intro h11 K11 kpz
  clear kpz
  exact hJ h11 _ X M m ⟨kd,a,y,0,0,0,⟨0,0⟩,⟨#[]⟩⟩ _ rfl rfl o (d.more (by omega)) hne (by omega) K11
 (refine kr_ ?_)
 refine ac (fun _=>?_) (fun _=>?_)
 ·(refine kr_ ?_)
  refine kp_ ?_
  intro y h10 K10 hy _
  refine⟨_,rfl,?_⟩
  replace hy:(y:Int)<na.sort.wid:=hy (by omega)
  clear K9'
  refine kw_ ?_
  intro h11 K11 kpz
  clear kpz
  have K11':Kn g h11 ((b54, .inl ⟨[I na.sort.idx,I na.sort.wid],2,false⟩)::(b16, .inl ⟨nodeCells ⟨kd,a,0,0,0,y,⟨0,0⟩,⟨#[]⟩⟩,9,false⟩)::(b10, .inl ⟨dg,5,false⟩)::(b8, .inl ⟨aw M,5,false⟩)::(B,rdC s (q+1+1))::(A++X)):=K11
  clear K11 K10
  repeat' (refine kr_ ?_)
  (((with_reducible apply Rn);(assumption);(assumption);((focus ((repeat first|exact .head|apply Upd.tail);done)))))
  ·omega
  ·(show W (na.sort.wid-(y:Int))<=1000000000);rw [bU (by omega) (by omega)];omega
  intro w h12 K12 _ _
  refine⟨_,rfl,?_⟩
  repeat' (refine kr_ ?_)
  clear K11'
  refine kw_ ?_
  intro h13 K13 kpz
  clear kpz
  exact hJ h13 _ X M m ⟨kd,a,0,0,W ((y:Int)+(w:Int)),y,⟨0,0⟩,⟨#[]⟩⟩ _ rfl rfl o (d.more (by omega)) hne (by omega) K13
 refine ap (fun J=> ∀c,J c) (fun c=>?_) (fun J hJ=>?_)
 rotate_left
 ·(refine kr_ ?_)
  refine ac (fun _=>hJ _) (fun _=>?_)
  (refine kr_ ?_)
  exact hJ _
 refine ac (fun _=>?_) (fun _=>?_)
 ·refine kp_ ?_
  intro y h10 K10 _ _
  refine⟨_,rfl,?_⟩
  clear K9'
  refine kw_ ?_
  intro h11 K11 kpz
  clear kpz
  exact hJ h11 _ X M m ⟨kd,a,0,0,y,0,⟨0,0⟩,⟨#[]⟩⟩ _ rfl rfl o (d.more (by omega)) hne (by omega) K11
 (refine kr_ ?_)
 refine lz ⟨_,rfl,?_⟩
 refine ac (fun _=>?_) (fun _=>?_)
 ·repeat' (refine kr_ ?_)
  refine uL (p:=q+1) (A:=(b54, .inl ⟨[I na.sort.idx,I na.sort.wid],2,false⟩)::(b16, .inl ⟨nodeCells ⟨kd,a,0,0,0,0,⟨0,0⟩,⟨#[]⟩⟩,9,false⟩)::(b10, .inl ⟨dg,5,false⟩)::(b8, .inl ⟨aw M,5,false⟩)::A) (st:=na.sort)
   (K9'.perm (z5 _ _ _ _ _ _)) hb o d (by omega) hne (by omega) hst fun h6 q6 X6 M6 m6 i6 K6 o6 d6 hi6 hl6 hq6=>⟨_,_,_,_,_,_,rfl,?_⟩
  replace K6:=K6.perm (z5 _ _ _ _ _ _).symm
  clear K9'
  refine j3 (M':=M6) K6 (by((focus ((repeat first|exact .head|apply Upd.tail);done)))) rfl fun h7 K7=>?_
  clear K6
  refine kw_ ?_
  intro h8 K8 kpz
  clear kpz
  exact hJ h8 q6 X6 M6 m6 ⟨kd,a,i6,0,0,0,⟨0,0⟩,⟨#[]⟩⟩ _ rfl rfl o6 (d6.more (by omega)) (by omega) (by omega) K8
 ·exact hJ h9 _ X M m ⟨kd,a,0,0,0,0,⟨0,0⟩,⟨#[]⟩⟩ _ rfl rfl o (d.more (by omega)) hne (by omega) K9'
end Go.Lead
