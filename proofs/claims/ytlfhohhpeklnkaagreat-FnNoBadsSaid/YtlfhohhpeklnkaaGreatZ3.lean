/- What functions of the program and of the reference come to, walked one by one, and plain laws about it: part 4. No condition is added to the statement. -/
import Derived.Test.YtlfhohhpeklnkaaGreatZ2
namespace Go.Lead
open Go
set_option linter.unusedSimpArgs false
set_option linter.unusedVariables false
set_option maxRecDepth 100000
set_option maxHeartbeats 1000000
def dF (f:Nat->Bool) (c n:Nat):List Value:=(List.range n).map fun i=> .bool (decide (i<c)&&f i)
def j8 (f:Nat->Nat) (c n:Nat):List Value:=(List.range n).map fun i=>I ((if i<c then f i else 0:Nat):Int)
theorem we (f:Nat->Bool) (c n:Nat):(dF f c n).length=n:=by simp [dF]
theorem ML (f:Nat->Nat) (c n:Nat):(j8 f c n).length=n:=by simp [j8]
theorem ke (f:Nat->Bool) (n:Nat):List.replicate n (.bool false)=dF f 0 n:=by
 apply List.ext_getElem
 ·simp [dF]
 ·intro i h1 h2;simp [dF]
theorem B9 (f:Nat->Nat) (n:Nat):List.replicate n (I 0)=j8 f 0 n:=by
 apply List.ext_getElem
 ·simp [j8]
 ·intro i h1 h2;simp [j8]
theorem vQ {f:Nat->Bool} {c n:Nat} (h:c<n):(dF f c n).set c (.bool (f c))=dF f (c+1) n:=by
 apply List.ext_getElem
 ·simp [dF]
 ·intro i h1 h2
  simp only [dF,List.getElem_set,List.getElem_map,List.getElem_range]
  by_cases e:c=i
  ·subst e;simp
  ·rw [if_neg e]
   have:decide (i<c)=decide (i<c+1):=by rw [Bool.eq_iff_iff,decide_eq_true_eq,decide_eq_true_eq];omega
   rw [this]
theorem LQ {f:Nat->Nat} {c n:Nat} (h:c<n):(j8 f c n).set c (I (f c:Nat))=j8 f (c+1) n:=by
 apply List.ext_getElem
 ·simp [j8]
 ·intro i h1 h2
  simp only [j8,List.getElem_set,List.getElem_map,List.getElem_range]
  by_cases e:c=i
  ·subst e;simp
  ·rw [if_neg e]
   by_cases h:i<c
   ·rw [if_pos h,if_pos (by omega)]
   ·rw [if_neg h,if_neg (by omega)]
theorem vX (f:Nat->Bool) (n:Nat):dF f n n=((List.range n).map f).map Value.bool:=by
 apply List.ext_getElem
 ·simp [dF]
 ·intro i h1 h2
  have hi:i<n:=by simpa [dF] using h1
  simp [dF,hi]
theorem MA (f:Nat->Nat) (n:Nat):j8 f n n=(VL ((List.range n).map f)).map I:=by
 apply List.ext_getElem
 ·simp [j8,VL]
 ·intro i h1 h2
  have hi:i<n:=by simpa [j8] using h1
  simp [j8,VL,hi]
theorem fM.keep {h h':Hp} {s:Sl} {vs:List (List Nat)} {b z:Nat} {cs:List Value} {ro:Bool} (e:fM h s vs) (f:h b=some (.inl ⟨cs,z,ro⟩)) (hn:EZ cs) (hsl: ∀(j:Nat) (t:Sl),cs[j]?≠some t.v) (kp: ∀c,c≠b->h' c=h c):fM h' s vs:=by
 refine⟨e.1,e.2.1,fun p hp=>?_⟩
 obtain⟨b',o,t,h1,h2,h3⟩:=e.2.2 p hp
 refine⟨b',o,t,h1,?_,h3.keepN f hn kp⟩
 have hne:b'≠b:=by
  rintro rfl
  rw [am f]at h2
  exact hsl _ _ h2
 unfold Hp.cell at h2⊢
 rw [kp b' hne];exact h2
theorem BM (f:Nat->Bool) (c n:Nat):EZ (dF f c n):=by
 intro j i h
 simp only [dF,List.getElem?_map,Option.map_eq_some_iff]at h
 obtain⟨a,_,h⟩:=h
 cases h
theorem E3 (f:Nat->Bool) (c n:Nat): ∀(j:Nat) (t:Sl),(dF f c n)[j]?≠some t.v:=by
 intro j t h
 simp only [dF,List.getElem?_map,Option.map_eq_some_iff]at h
 obtain⟨a,_,h⟩:=h
 cases h
abbrev Kw (M:MSl) (n k:Int) (st hold bad:Sl) (fixed:Int) (next:Sl) (bf ba:Int):List Value:= [M.no.v,M.ini.v,M.nex.v,M.bad.v,M.hol.v,I n,I k,st.v,hold.v,bad.v,I fixed,next.v,I bf,I ba]
abbrev arr (b n:Nat):Sl:=⟨some ⟨b,0,none⟩,n,n⟩
def rE (m:aj) (bH bB bN c:Nat):List (Nat×Blk):=
 [(bH, .inl ⟨dF (aN m).hold c (2^(au m.nodes 36+au m.nodes 35)),2^(au m.nodes 36+au m.nodes 35),false⟩),
  (bB, .inl ⟨dF (aN m).bad c (2^(au m.nodes 36+au m.nodes 35)),2^(au m.nodes 36+au m.nodes 35),false⟩),
  (bN, .inl ⟨j8 (aN m).next c (2^(au m.nodes 36+au m.nodes 35)),2^(au m.nodes 36+au m.nodes 35),false⟩)]
theorem yV (m:aj) (v:List (List Nat)):decide (GC m v>=0)=(se m v).isSome:=by
 unfold GC
 cases se m v with
 |none=>rfl
 |some d=>simp
theorem Aa {g h:Hp} {M:MSl} {m:aj} {st t:Sl} {b7 b103 bx bH bB bN c:Nat} {n k f0 f1 f2:Int} {z1 z2 z3:Nat} {R:Value->Hp->Prop} (hs:aM g M m) (hm:bT m) (gd:dS m)
  (f7:g b7=some (.inl ⟨av M,z1,false⟩)) (f103:g b103=some (.inl ⟨[.pointer (some ⟨bx,0,none⟩)],z2,false⟩))
  (fx:g bx=some (.inl ⟨Kw M n k st (arr bH (2^(au m.nodes 36+au m.nodes 35))) (arr bB (2^(au m.nodes 36+au m.nodes 35))) f0 (arr bN (2^(au m.nodes 36+au m.nodes 35))) f1 f2,z3,false⟩))
  (hst:IntS g st (VL (stP m))) (hc:c<2^(au m.nodes 36+au m.nodes 35)) (K:Kn g h (rE m bH bB bN c))
  (hpv:fM h t (dc m (c%2^au m.nodes 36) (c/2^au m.nodes 36)))
  (kk: ∀h',Kn (h.wo [bH,bB,bN]) h' (rE m bH bB bN (c+1))->R (.tuple #[]) h'):
  pU #[I c,t.v, .pointer (some ⟨b7,0,none⟩), .pointer (some ⟨b103,0,none⟩)] h R:=by
 apply xm
 refine uf_ ?_
 have a:Az m (dc m (c%2^au m.nodes 36) (c/2^au m.nodes 36)):=eo gd _ _
 have hp13:=KK gd
 have hv1:(aN m).hold c=lm m (dc m (c%2^au m.nodes 36) (c/2^au m.nodes 36)):=rfl
 have hv2:(aN m).bad c=(se m (dc m (c%2^au m.nodes 36) (c/2^au m.nodes 36))).isSome:=rfl
 have hv3:(aN m).next c=dV m.nodes (stP m) (fY m (dc m (c%2^au m.nodes 36) (c/2^au m.nodes 36))):=rfl
 generalize hv:dc m (c%2^au m.nodes 36) (c/2^au m.nodes 36)=v at*
 generalize hN:2^(au m.nodes 36+au m.nodes 35)=N at*
 have lg:g.le (h.wo [bH,bB,bN]):=K.leBase
 have K0:Kn (h.wo [bH,bB,bN]) h (rE m bH bB bN c):=K.base
 unfold rE at K0 kk
 rw [hN]at K0 kk
 clear K
 have hs':=hs.mono lg
 have f7':=lg _ _ f7
 have f103':=lg _ _ f103
 have fx':=lg _ _ fx
 have hst':=hst.mono lg
 have x7:=fK f7'
 have x103:=fK f103'
 have xx:=fK fx'
 generalize h.wo [bH,bB,bN]=g1 at*
 clear lg fx f103 f7 hst hs
 repeat' (refine kr_ ?_)
 refine DU (hs'.mono K0.le) gd hpv a ⟨_,rfl,?_⟩
 repeat' (refine kr_ ?_)
 refine⟨by omega,by dsimp only;omega,?_⟩
 (((with_reducible apply Kn.wr);(assumption);((focus ((repeat first|exact .head|apply Upd.tail);done)))))
 ·rw [we];omega
 intro h24 K1 kp1
 have hpv1:=hpv.keep (K0.at (.head _)) (BM _ _ _) (E3 _ _ _) kp1
 rw [<-hv1,bK,Nat.zero_add,Int.toNat_natCast,Nat.mul_one,vQ hc]at K1
 repeat' (refine kr_ ?_)
 refine JD (hs'.mono K1.le) gd hpv1 a ⟨_,rfl,?_⟩
 repeat' (refine kr_ ?_)
 refine⟨by omega,by dsimp only;omega,?_⟩
 (((with_reducible apply Kn.wr);(assumption);((focus ((repeat first|exact .head|apply Upd.tail);done)))))
 ·rw [we];omega
 intro h42 K2 kp2
 have hpv2:=hpv1.keep (K1.at (.tail _ (.head _))) (BM _ _ _) (E3 _ _ _) kp2
 rw [yV,<-hv2,bK,Nat.zero_add,Int.toNat_natCast,Nat.mul_one,vQ hc]at K2
 repeat' (refine kr_ ?_)
 refine Cb (hs'.mono K2.le) hm gd hpv2 a fun out h63 l63 hout=>⟨out,rfl,?_⟩
 have K3:=K2.mono l63
 repeat' (refine kr_ ?_)
 refine AR (hs'.mono K3.le) hm gd.ok (hst'.mono K3.le) (cG gd 36) (ib gd 36) hout (nE gd a.fit) (by rw [fH gd];have:=gd.n8;omega) ⟨_,rfl,?_⟩
 repeat' (refine kr_ ?_)
 refine⟨by omega,by dsimp only;omega,?_⟩
 (((with_reducible apply Kn.wr);(assumption);((focus ((repeat first|exact .head|apply Upd.tail);done)))))
 ·rw [ML];omega
 intro h72 K4 kp4
 rw [<-hv3,bK,Nat.zero_add,Int.toNat_natCast,Nat.mul_one,LQ hc]at K4
 exact kk h72 K4
def Ac (h:Hp) (t:Sl) (n:Nat) (f:Nat->Nat):Prop:=IntS h t (VL ((List.range n).map f))
theorem Ac.mono {h h':Hp} {t:Sl} {n:Nat} {f:Nat->Nat} (l:h.le h') (e:Ac h t n f):Ac h' t n f:=SlC.mono l e
def ml (h:Hp) (b:Nat) (σ:aA):Prop:= ∃(M:MSl) (st hold bad next:Sl),h b=some (.inl ⟨Kw M σ.n σ.k st hold bad σ.fixed next σ.bfix σ.bas,14,false⟩)/\
 cU h hold (2^(σ.n+σ.k)) σ.hold/\cU h bad (2^(σ.n+σ.k)) σ.bad/\Ac h next (2^(σ.n+σ.k)) σ.next
theorem ml.mono {h h':Hp} {b:Nat} {σ:aA} (l:h.le h') (e:ml h b σ):ml h' b σ:=by
 obtain⟨M,st,hold,bad,next,h1,h2,h3,h4⟩:=e
 exact⟨M,st,hold,bad,next,l _ _ h1,h2.mono l,h3.mono l,h4.mono l⟩
theorem PX {g h:Hp} {L:List (Nat×Blk)} {M:MSl} {m:aj} {kind:Int} {R:Value->Hp->Prop} (K:Kn g h L) (hs:aM g M m) (hm:bT m) (gd:dS m)
  (k: ∀t h' g',Kn g' h' L->IntS g' t (VL (aU m.nodes kind))->g.le g'->h.le h'->R (Sl.v t) h'):bG #[aR M,I kind] h R:=
 lk (hs.mono K.le) hm fun t h' l hn hb=>by
  have l':=Hp.le_trans l (bk _ _)
  have K':=K.mono l'
  refine k t h' _ K'.base ?_ K'.leBase l'
  have:=gd.nl
  exact(hb.wo l K.has).slc_of (by omega)
def AN (m:aj) (j p:Nat):List Nat:=((cn (m.inits.take j) p).map fun k=>lU (aH m.nodes p) ((nh m).getD k [])).getD (List.replicate (aH m.nodes p) 0)
theorem SD (m:aj) (p:Nat):AN m m.inits.length p=(fC m p).getD (List.replicate (aH m.nodes p) 0):=by
 unfold AN fC;rw [List.take_length]
theorem OM {m:aj} (g:dS m) {j:Nat} {b:BindP} (hb:m.inits[j]?=some b) (p:Nat):AN m (j+1) p=if b.state=(p:Int)then lU (aH m.nodes p) ((nh m).getD b.node.toNat [])else AN m j p:=by
 unfold AN
 rw [DL (rp g.twice).2.1 hb]
 split<;>rfl
theorem PN (m:aj) {i p:Nat} (h:(stP m)[i]?=some p):(kI m).getD i []=AN m m.inits.length p:=by
 rw [SD]
 unfold kI jW
 rw [List.getD_eq_getElem?_getD,List.getElem?_map,h];rfl
theorem te {m:aj} (g:dS m) {b:BindP} (hb:b∈m.inits):0<=b.node/\b.node<m.nodes.length/\0<((nh m).getD b.node.toNat []).length/\((nh m).getD b.node.toNat []).length<=4/\0<=b.state/\b.state<m.nodes.length:=by
 obtain⟨q1,q2,q3,q4,_⟩:=ym (g.ini b hb)
 have q2':=eL.1 q2
 have q1':=eL.1 q1
 have hf:=(wl g).fit b.node.toNat (by omega) (by omega)
 have:=(sD g.ok (show b.node.toNat<m.nodes.length by omega) hf).1
 refine⟨q2'.1,q2'.2,hf.pos,?_,q1'.1,q1'.2⟩
 rw [this];exact dl _ _
set_option maxHeartbeats 4000000 in
theorem eE {h:Hp} {M:MSl} {m:aj} {R:Value->Hp->Prop} (hs:aM h M m) (hm:bT m)
  (k0: ∀h',h.le h'->az m≠0->R (.tuple #[.pointer none, .bool false]) h')
  (k1:az m=0->dS m-> ∀b h',h.le h'->ml h' b (aN m)->R (.tuple #[.pointer (some ⟨b,0,none⟩), .bool true]) h'):de #[aR M] h R:=by
 apply AH
 refine uf_ ?_
 have K0:=Kn.nil h
 (with_reducible apply Kn.al);(assumption);(intro b7 h1 K1 l1 hb7)
 repeat' (refine kr_ ?_)
 refine kE (hs.mono l1) hm ⟨_,rfl,ad (fun e=>k0 h1 l1 (gp e)) (fun e=>?_)⟩
 have hcode:=eZ e
 have gd:=cC hcode
 replace k1:=k1 hcode gd
 clear k0 e hcode l1 hb7 K0
 have hn8:=gd.n8
 have hk5:=gd.k5
 have hp13:=KK gd
 have hp13':=bC (au m.nodes 36+au m.nodes 35)
 refine ap (fun J=> ∀(bp bx:Nat) (h' g':Hp) (t:Sl) (L0:List (Nat×Blk)),Kn g' h' L0->(bp, .inl ⟨[.pointer (some ⟨bx,0,none⟩)],1,false⟩)∈L0->
  (bx, .inl ⟨Kw M (au m.nodes 36) (au m.nodes 35) t ⟨none,0,0⟩ ⟨none,0,0⟩ 0 ⟨none,0,0⟩ 0 0,14,false⟩)∈L0->(b7, .inl ⟨av M,5,false⟩)∈L0->h.le g'->IntS g' t (VL (stP m))->J bp 0 h') ?_ (fun J hJ=>?_)
 rotate_left
 ·repeat' (first
   |(refine kr_ ?_)
   |(refine eD (hs.mono (Kn.le (by assumption))) hm ⟨_,rfl,?_⟩)
   |(refine PX (by assumption) hs hm gd fun _ _ _ _ _ _ _=>⟨_,rfl,?_⟩)
   |((with_reducible apply Kn.al);(assumption);(intro _ _ _ _ _))
   |((((with_reducible apply Kn.wr);(assumption);((focus ((repeat first|exact .head|apply Upd.tail);done)))));(exact Nat.le_refl _);(intro _ _ _))
   |((with_reducible apply hJ)<;>first|assumption|((focus ((repeat first|exact .head _|apply List.Mem.tail);done))))
   |(refine And.intro ?_ ?_))
 intro bp bx h2 g2 st L0 K2' mp mx m7 l2 hst
 have K2:Kn g2 h2 [(bp, .inl ⟨[.pointer (some ⟨bx,0,none⟩)],1,false⟩),(bx, .inl ⟨Kw M (au m.nodes 36) (au m.nodes 35) st ⟨none,0,0⟩ ⟨none,0,0⟩ 0 ⟨none,0,0⟩ 0 0,14,false⟩),(b7, .inl ⟨av M,5,false⟩)]:=by
  refine K2'.sub (fun e he=>?_) ?_
  ·simp only [List.mem_cons,List.not_mem_nil,or_false]at he
   rcases he with rfl|rfl|rfl<;>assumption
  ·have n1:=dD (K2'.at mp) (K2'.at mx) (by simp)
   have n2:=dD (K2'.at mp) (K2'.at m7) (by simp)
   have n3:=dD (K2'.at mx) (K2'.at m7) (by simp)
   simp [n1,n2,n3]
 clear K2' mp mx m7 L0 K1
 have hs2:=hs.mono l2
 repeat' (refine kr_ ?_)
 rw [ca (n:=((au m.nodes 36:Nat):Int)+((au m.nodes 35:Nat):Int)) (by omega) (by omega),if_neg (by omega),<-Int.natCast_add,bU (by omega)]
 generalize hN:2^(au m.nodes 36+au m.nodes 35)=N at*
 have tN:Int.toNat (N:Int)=N:=Int.toNat_natCast N
 have nN:N*1=N:=Nat.mul_one N
 have zB:aO #[.bool false] N=dF (aN m).hold 0 N:=by rw [ce,ke]
 have zI:aO #[I 0] N=j8 (aN m).next 0 N:=by rw [ce,B9]
 simp only [tN,nN,zB,zI]
 clear tN nN zB zI
 refine ap (fun J=> ∀(bH bB bN:Nat) (h':Hp) (L0:List (Nat×Blk)),Kn g2 h' L0->(bp, .inl ⟨[.pointer (some ⟨bx,0,none⟩)],1,false⟩)∈L0->
  (bx, .inl ⟨Kw M (au m.nodes 36) (au m.nodes 35) st (arr bH N) (arr bB N) 0 (arr bN N) 0 0,14,false⟩)∈L0->(b7, .inl ⟨av M,5,false⟩)∈L0->
  (bH, .inl ⟨dF (aN m).hold 0 N,N,false⟩)∈L0->(bB, .inl ⟨dF (aN m).hold 0 N,N,false⟩)∈L0->(bN, .inl ⟨j8 (aN m).next 0 N,N,false⟩)∈L0->(bH≠bB/\bH≠bN/\bB≠bN)->J h') ?_ (fun J hJ=>?_)
 rotate_left
 ·repeat' (first
   |(refine kr_ ?_)
   |((with_reducible apply Kn.al);(assumption);(intro _ _ _ _ _))
   |(refine And.intro (by omega) ?_)
   |((((with_reducible apply Kn.wr);(assumption);((focus ((repeat first|exact .head|apply Upd.tail);done)))));(exact of_decide_eq_true rfl);(intro _ _ _))
   |((with_reducible apply hJ)<;>first|assumption|((focus ((repeat first|exact .head _|apply List.Mem.tail);done)))|((have hnd:=Kn.nd (by assumption);simp only [List.map_cons,List.map_nil,List.nodup_cons,List.mem_cons,List.not_mem_nil,not_or,or_false,not_false_eq_true,and_true,List.nodup_nil]at hnd;omega)))
   |(refine And.intro ?_ ?_))
 intro bH bB bN h3 L0 K3' mp mx m7 mH mB mN hne
 have e0:dF (aN m).hold 0 N=dF (aN m).bad 0 N:=by rw [<-ke,<-ke]
 rw [e0]at mB
 have n1:=dD (K3'.at mp) (K3'.at mx) (by simp)
 have n2:=dD (K3'.at mp) (K3'.at m7) (by simp)
 have n3:=dD (K3'.at mx) (K3'.at m7) (by simp)
 have hb1: ∀b∈ [bH,bB,bN],g2 b=none:=by
  intro b hb
  simp only [List.mem_cons,List.not_mem_nil,or_false]at hb
  rcases hb with rfl|rfl|rfl
  ·exact K3'.new _ mH
  ·exact K3'.new _ mB
  ·exact K3'.new _ mN
 have h0b:(dF (aN m).hold 0 N)[0]?=some (.bool false):=by rw [<-ke,List.getElem?_replicate,if_pos hp13']
 have h0b2:(dF (aN m).bad 0 N)[0]?=some (.bool false):=by rw [<-ke,List.getElem?_replicate,if_pos hp13']
 have h0n:(j8 (aN m).next 0 N)[0]?=some (I 0):=by rw [<-B9,List.getElem?_replicate,if_pos hp13']
 have dif: ∀{b c:Nat} {cs ds:List Value} {z y:Nat} {v w:Value},(b, .inl ⟨cs,z,false⟩)∈L0->(c, .inl ⟨ds,y,false⟩)∈L0->cs[0]?=some v->ds[0]?=some w->v≠w->b≠c:=by
  intro b c cs ds z y v w hb hc e1 e2 hvw hbc
  subst hbc
  have:=(K3'.at hb).symm.trans (K3'.at hc)
  simp only [Option.some.injEq,Sum.inl.injEq,Row.mk.injEq]at this
  rw [this.1,e2]at e1
  exact hvw (Option.some.inj e1).symm
 have K3:Kn g2 h3 (rE m bH bB bN 0++ [(bp, .inl ⟨[.pointer (some ⟨bx,0,none⟩)],1,false⟩),(bx, .inl ⟨Kw M (au m.nodes 36) (au m.nodes 35) st (arr bH N) (arr bB N) 0 (arr bN N) 0 0,14,false⟩),(b7, .inl ⟨av M,5,false⟩)]):=by
  refine K3'.sub (fun e he=>?_) ?_
  ·simp only [rE,hN,List.mem_append,List.mem_cons,List.not_mem_nil,or_false]at he
   rcases he with (rfl|rfl|rfl)|rfl|rfl|rfl<;>assumption
  ·have a1:=dif mH mp h0b rfl (by simp)
   have a2:=dif mH mx h0b rfl (by simp)
   have a3:=dif mH m7 h0b rfl (by simp)
   have a4:=dif mB mp h0b2 rfl (by simp)
   have a5:=dif mB mx h0b2 rfl (by simp)
   have a6:=dif mB m7 h0b2 rfl (by simp)
   have a7:=dif mN mp h0n rfl (by simp)
   have a8:=dif mN mx h0n rfl (by simp)
   have a9:=dif mN m7 h0n rfl (by simp)
   simp [rE,hne.1,hne.2.1,hne.2.2,n1,n2,n3,a1,a2,a3,a4,a5,a6,a7,a8,a9]
 clear dif h0b h0b2 h0n e0 n1 n2 n3 mp mx m7 mH mB mN K3' L0 K2
 have Kf:Kn g2 h3 (rE m bH bB bN 0):=K3.sub (fun e he=>List.mem_append_left _ he) (by simp [rE,hne.1,hne.2.1,hne.2.2])
 have nB: ∀b∈ [bp,bx,b7],b∉ [bH,bB,bN]:=by
  have hnd:=K3.nd
  simp only [rE,List.cons_append,List.nil_append,List.map_cons,List.map_nil,List.nodup_cons,List.mem_cons,List.not_mem_nil,not_or,or_false,not_false_eq_true,and_true,List.nodup_nil]at hnd
  intro b hb hb2
  simp only [List.mem_cons,List.not_mem_nil,or_false]at hb hb2
  omega
 have f7:(h3.wo [bH,bB,bN]) b7=some (.inl ⟨av M,5,false⟩):=by
  rw [rA (nB _ (by simp))];exact K3.at (by simp)
 have fp:(h3.wo [bH,bB,bN]) bp=some (.inl ⟨[.pointer (some ⟨bx,0,none⟩)],1,false⟩):=by
  rw [rA (nB _ (by simp))];exact K3.at (by simp)
 have fx:(h3.wo [bH,bB,bN]) bx=some (.inl ⟨Kw M (au m.nodes 36) (au m.nodes 35) st (arr bH N) (arr bB N) 0 (arr bN N) 0 0,14,false⟩):=by
  rw [rA (nB _ (by simp))];exact K3.at (by simp)
 have lB:g2.le (h3.wo [bH,bB,bN]):=Kf.leBase
 have hsB:=hs2.mono lB
 have hstB:=hst.mono lB
 have Kr:=Kn.of (uJ h3 [bH,bB,bN])
 repeat' (refine kr_ ?_)
 subst hN
 refine O4 (B:= [bH,bB,bN]) (st:=fun c h'=>Kn (h3.wo [bH,bB,bN]) h' (rE m bH bB bN c)) hsB hm gd Kf.has (fun c h1 h2 K l=>K.mono l) Kf.base (fun c hc h4 t l4 K hpv R' hR'=>?_) (fun h4 l4 K4=>⟨rfl,?_⟩)
 ·exact Aa hsB hm gd f7 fp fx hstB hc K hpv fun h5 K5=>hR' h5 ⟨Hp.le_trans K.leBase K5.le,K5.mem,fun e he=>by
   have:=K5.nd
   exact aD K.leBase (K5.new e he),K5.nd⟩ K5.le
 have K5:Kn g2 h4 (rE m bH bB bN (2^(au m.nodes 36+au m.nodes 35))++ [(bp, .inl ⟨[.pointer (some ⟨bx,0,none⟩)],1,false⟩),(bx, .inl ⟨Kw M (au m.nodes 36) (au m.nodes 35) st (arr bH (2^(au m.nodes 36+au m.nodes 35))) (arr bB (2^(au m.nodes 36+au m.nodes 35))) 0 (arr bN (2^(au m.nodes 36+au m.nodes 35))) 0 0,14,false⟩),(b7, .inl ⟨av M,5,false⟩)]):=by
  refine⟨Hp.le_trans lB l4,fun e he=>?_,fun e he=>?_,K3.nd⟩
  ·rcases List.mem_append.1 he with he|he
   ·exact K4.mem e he
   ·simp only [List.mem_cons,List.not_mem_nil,or_false]at he
    rcases he with rfl|rfl|rfl
    ·exact l4 _ _ fp
    ·exact l4 _ _ fx
    ·exact l4 _ _ f7
  ·rcases List.mem_append.1 he with he|he
   ·have hm:e.1∈ [bH,bB,bN]:=by
     simp only [rE,List.mem_cons,List.not_mem_nil,or_false]at he
     rcases he with rfl|rfl|rfl<;>simp
    exact hb1 _ hm
   ·exact K3.new e (List.mem_append_right _ he)
 unfold rE at K5
 simp only [List.cons_append,List.nil_append]at K5
 clear K4 Kr hstB hsB lB fx fp f7 nB Kf K3 l4 h3
 have hil:=gd.il
 have hxl:=gd.xl
 have hin:=hs2.inits.len
 have hp36:(stP m).length<=m.nodes.length:=eF m.nodes 36
 have hnl:=gd.nl
 have hstn:st.n=(stP m).length:=by have:=hst.len;rw [bD]at this;exact this
 repeat' (refine kr_ ?_)
 refine vE (hs2.mono K5.le) hm gd (hs2.mono K5.le).nexts (by omega) ⟨_,rfl,?_⟩
 repeat' (refine kr_ ?_)
 refine kw_ ?_
 intro h5 K6 _
 clear K5
 repeat' (refine kr_ ?_)
 refine zG (hs2.mono K6.le) hm gd fun vt h6 l6 hvn hpv=>⟨vt,rfl,?_⟩
 have K7:=K6.mono l6
 clear K6 l6
 have hs6:=hs2.mono K7.le
 have hst6:=hst.mono K7.le
 have f7:h6 b7=some (.inl ⟨av M,5,false⟩):=K7.at (by simp)
 have fp:h6 bp=some (.inl ⟨[.pointer (some ⟨bx,0,none⟩)],1,false⟩):=K7.at (by simp)
 repeat' (refine kr_ ?_)
 refine qS hs6 hm hst6 (cG gd 36) (ib gd 36) fun out ts h7 c1 hon=>⟨out,rfl,?_⟩
 have Kr:=Kn.of (Hp.le_trans c1.le (bk _ _))
 repeat' (refine kr_ ?_)
 have aV:=wl gd
 refine aw m.inits.length (fun j vs h'=> ∃ts:List Sl,vs= [.pointer (some ⟨b7,0,none⟩), .pointer (some ⟨bp,0,none⟩),vt.v,out.v,M.ini.v,I M.ini.n,I j]/\h6.le (h'.offS out)/\Buf h' out 1 (ts.map Sl.v)/\ts.length=(stP m).length/\
  ∀(i p:Nat) (t:Sl),(stP m)[i]?=some p->ts[i]?=some t->IntS (h'.offS out) t (VL (AN m j p))) ⟨ts,rfl,c1.le,c1.buf,by rw [c1.len,lv],fun i p t hp ht=>?_⟩ ?_
 ·obtain⟨b,e1,e2,e3⟩:=c1.row i t ht
  have hz:(cX m.nodes (stP m)).getD i []=AN m 0 p:=by
   unfold cX AN
   rw [List.getD_eq_getElem?_getD,List.getElem?_map,hp];rfl
  have hz4:((cX m.nodes (stP m)).getD i []).length<=4:=by
   unfold cX
   rw [List.getD_eq_getElem?_getD,List.getElem?_map,hp]
   simp only [Option.map_some,Option.getD_some,List.length_replicate]
   exact dl _ _
  rw [hz]at e1 e3 hz4
  rw [e1]
  exact⟨by dsimp only;omega,by simp [bD], .inr ⟨b,0,rfl,ay e3⟩⟩
 clear c1 Kr ts h7
 rintro j _ h8 next hj ⟨ts,rfl,l8,hbuf,htl,hts⟩ hnx
 have lo:=bk h8 out
 have l68:=Hp.le_trans l8 lo
 refine⟨_,_,_,_,vt,out,M.ini,_,_,rfl,?_⟩
 by_cases hlt:j<m.inits.length
 rotate_left
 ·have hje:j=m.inits.length:=by omega
  subst hje
  refine aF (by simp;omega) ?_
  have K9:=K7.mono l68
  have hbl:(kI m).length=(stP m).length:=by unfold kI jW;rw [List.length_map]
  have iss:IntSS h8 out ((kI m).map VL):=⟨ts,by rw [List.length_map,hbl];exact htl,hbuf.slc_of (by rw [hon];have:=ib gd 36;omega),fun i h1 h2=>by
   have hi:i<(stP m).length:=by omega
   have hpi:(stP m)[i]?=some (stP m)[i]:=List.getElem?_eq_getElem hi
   have:=(hts i _ _ hpi (List.getElem?_eq_getElem h1)).mono lo
   rw [<-PN m hpi]at this
   rw [List.getElem_map]
   rwa [List.getD_eq_getElem?_getD,List.getElem?_eq_getElem (by rw [hbl];exact hi)]at this⟩
  have hs8:=hs6.mono l68
  clear hbuf hts
  repeat' (refine kr_ ?_)
  refine vE hs8 hm gd hs8.inits (by omega) ⟨_,rfl,?_⟩
  repeat' (refine kr_ ?_)
  refine AR hs8 hm gd.ok (hst6.mono l68) (cG gd 36) (ib gd 36) iss (wQ gd) (by rw [fH gd];omega) ⟨_,rfl,?_⟩
  repeat' (refine kr_ ?_)
  refine kw_ ?_
  intro h9 K10 _
  repeat' (refine kr_ ?_)
  refine kw_ ?_
  intro h10 K11 _
  repeat' (refine kr_ ?_)
  refine k1 bx h10 (Hp.le_trans l2 K11.le) ⟨M,st,arr bH (2^(au m.nodes 36+au m.nodes 35)),arr bB (2^(au m.nodes 36+au m.nodes 35)),arr bN (2^(au m.nodes 36+au m.nodes 35)),K11.at (by((focus ((repeat first|exact .head _|apply List.Mem.tail);done)))),?_,?_,?_⟩
  ·refine⟨by dsimp only;omega,by simp [aN], .inr ⟨bH,0,rfl,?_⟩⟩
   have:=ay (K11.at (.head _))
   rwa [vX]at this
  ·refine⟨by dsimp only;omega,by simp [aN], .inr ⟨bB,0,rfl,?_⟩⟩
   have:=ay (K11.at (.tail _ (.head _)))
   rwa [vX]at this
  ·refine⟨by dsimp only;omega,by simp [aN,VL], .inr ⟨bN,0,rfl,?_⟩⟩
   have:=ay (K11.at (.tail _ (.tail _ (.head _))))
   rwa [MA]at this
 refine aK (by simp;omega) ?_
 obtain⟨bd,hbd⟩: ∃bd,m.inits[j]?=some bd:=⟨_,List.getElem?_eq_getElem hlt⟩
 obtain⟨v1,v2,v3,v4,s1,s2⟩:=te gd (List.mem_of_getElem? hbd)
 obtain⟨bi,oi,hai,cx1,cx2⟩:=(hs6.mono l68).inits.at hbd
 refine⟨bi,oi,hai,by omega,by omega,_,cx1,_,cx2,?_⟩
 refine ai fun b48 h9 hb48 l9 f48'=>?_
 (with_reducible apply bZ);(exact f48');(exact l9);(exact hb48);(exact Nat.le_refl 2)
 intro h10 f48 kp l10
 have l10o:=bJ out l10
 have f48o:=hbuf.offS_new hb48 f48
 clear f48' kp l9
 have Kr:=Kn.of (Hp.le_trans l68 l10)
 have fx6:=K7.at (b:=bx) (.tail _ (.tail _ (.tail _ (.tail _ (.head _)))))
 repeat' (refine kr_ ?_)
 refine aw (stP m).length (fun q vs h'=> ∃ts:List Sl,vs= [.pointer (some ⟨b7,0,none⟩), .pointer (some ⟨bp,0,none⟩),vt.v,out.v, .pointer (some ⟨b48,0,none⟩),M.ini.v,I M.ini.n,I j,st.v,I st.n,I q]/\h6.le (h'.offS out)/\(h'.offS out) b48=some (.inl ⟨[I bd.state,I bd.node],2,false⟩)/\Buf h' out 1 (ts.map Sl.v)/\ts.length=(stP m).length/\
  ∀(i p:Nat) (t:Sl),(stP m)[i]?=some p->ts[i]?=some t->IntS (h'.offS out) t (VL (if i<q then AN m (j+1) p else AN m j p)))
  ⟨ts,rfl,Hp.le_trans l8 l10o,f48o,hbuf.mono l10,htl,fun i p t hp ht=>by rw [if_neg (by omega)];exact(hts i p t hp ht).mono l10o⟩ ?_
 clear Kr f48o l10o l10 f48 hb48 hbuf htl hts ts l68 lo l8 hai cx1 cx2 h9 h8 h10
 rintro q _ h8 next2 hq ⟨ts,rfl,l8,f48,hbuf,htl,hts⟩ hnx2
 have lo:=bk h8 out
 have l68:=Hp.le_trans l8 lo
 have g48:=lo _ _ f48
 refine⟨_,_,_,_,vt,out,_,_,_,_,_,st,_,_,rfl,?_⟩
 by_cases hlq:q<(stP m).length
 rotate_left
 ·refine aF (by simp;omega) ?_
  rw [aE (by omega)]
  refine hnx hlt _ _ ⟨ts,rfl,l8,hbuf,htl,fun i p t hp ht=>?_⟩
  have:=hts i p t hp ht
  rwa [if_pos (by have:=get_lt hp;omega)]at this
 refine aK (by simp;omega) ?_
 obtain⟨p,hpq⟩: ∃p,(stP m)[q]?=some p:=⟨_,List.getElem?_eq_getElem hlq⟩
 have hpm:=cG gd 36 p (List.mem_of_getElem? hpq)
 obtain⟨bq,oq,hap,hcp⟩:=(hst6.mono l68).get (fX hpq)
 refine ap (fun J=> ∀(ts':List Sl) (h':Hp),h6.le (h'.offS out)->(h'.offS out) b48=some (.inl ⟨[I bd.state,I bd.node],2,false⟩)->Buf h' out 1 (ts'.map Sl.v)->ts'.length=(stP m).length->
  (∀(i p:Nat) (t:Sl),(stP m)[i]?=some p->ts'[i]?=some t->IntS (h'.offS out) t (VL (if i<q+1 then AN m (j+1) p else AN m j p)))->J h') ?_ (fun J hJ=>?_)
 ·intro ts' h' a1 a2 a3 a4 a5
  rw [aE (by omega)]
  exact hnx2 hlq _ _ ⟨ts',rfl,a1,a2,a3,a4,a5⟩
 refine⟨bq,oq,hap,by omega,by omega,_,hcp,?_⟩
 (refine ax ?_)
 have hst':=OM gd hbd p
 refine ad (fun e=>?_) (fun e=>?_)
 ·rw [if_pos (bR e).symm]at hst'
  have f78:=l68 _ _ f7
  (refine ax ?_)
  obtain⟨bn,on,han,hpn',c6,c7,w1,w16⟩:=(hs6.mono l68).nodes.sortc2 hpm gd.ok
  refine⟨bn,on,han,by omega,hpn',_,c6,_,c7,?_⟩
  (refine ax ?_)
  obtain⟨bv,ov,t,hav,hvn',hcv,ht⟩:=(hpv.mono l68).at v1 (by rw [aV.len];exact v2)
  refine⟨bv,ov,hav,v1,hvn',t,hcv,?_⟩
  refine vZ ht v3 v4 fun t2 h9 l9 ht2=>⟨t2,rfl,?_⟩
  rw [qH gd.ok hpm]at ht2
  have l9o:=bJ out l9
  have hbuf9:=hbuf.mono l9
  refine hbuf9.wr (x:=t2) (by omega) fun h10 hbuf' ho=>?_
  refine hJ _ h10 (by rw [ho];exact Hp.le_trans l8 l9o) (by rw [ho];exact l9o _ _ f48) hbuf' (by rw [List.length_set];exact htl) fun i p' u hp' hu=>?_
  rw [ho]
  by_cases hiq:i=q
  ·subst hiq
   rw [hpq]at hp';cases hp'
   rw [List.getElem?_set_self (by omega)]at hu
   obtain rfl:=Option.some.inj hu
   rw [if_pos (by omega),hst']
   exact ht2.offL hbuf9
  ·rw [List.getElem?_set_ne (fun e=>hiq e.symm)]at hu
   have:=(hts i p' u hp' hu).mono l9o
   by_cases h1:i<q
   ·rw [if_pos h1]at this;rw [if_pos (by omega)];exact this
   ·rw [if_neg h1]at this;rw [if_neg (by omega)];exact this
 ·rw [if_neg (fun e'=>aY e e'.symm)]at hst'
  refine hJ ts h8 l8 f48 hbuf htl fun i p' u hp' hu=>?_
  have:=hts i p' u hp' hu
  by_cases hiq:i=q
  ·subst hiq
   rw [hpq]at hp';cases hp'
   rw [if_neg (by omega)]at this
   rw [if_pos (by omega),hst'];exact this
  ·by_cases h1:i<q
   ·rw [if_pos h1]at this;rw [if_pos (by omega)];exact this
   ·rw [if_neg h1]at this;rw [if_neg (by omega)];exact this
theorem fS {h h1 h2 h3:Hp} {b:Nat} {x:Blk} (l:h.le h1) (hb:h1 b=some x) (kp: ∀c,c≠b->h3 c=h2 c):(h2.sub h1).le (h3.sub h):=by
 intro c y e
 have hc:c≠b:=by rintro rfl;rw [kK hb]at e;cases e
 have h1c:h1 c=none:=by
  cases hx:h1 c with
  |none=>rfl
  |some z=>rw [kK hx]at e;cases e
 rw [kx (aD l h1c),kp c hc]
 rw [kx h1c]at e
 exact e
theorem cU.get {h:Hp} {t:Sl} {n:Nat} {T:Nat->Bool} (e:cU h t n T) {i:Nat} (hi:i<n): ∃b o,t.a=some (Addr.mk b o none)/\(i:Int)<(t.n:Int)/\Hp.cell h b (o+Int.toNat (i:Int)*1)=some (.bool (T i)):=by
 have hl:=pR.len e
 rw [List.length_map,List.length_range]at hl
 obtain⟨b,o,ha,hc⟩:=SlC.get e (by omega)
 refine⟨b,o,ha,by omega,?_⟩
 rw [Int.toNat_natCast,Nat.mul_one]
 exact hc i _ (by simp [hi])
theorem cU.len {h:Hp} {t:Sl} {n:Nat} {T:Nat->Bool} (e:cU h t n T):t.n=n:=by
 have hl:=pR.len e
 rwa [List.length_map,List.length_range]at hl
theorem Ac.get {h:Hp} {t:Sl} {n:Nat} {f:Nat->Nat} (e:Ac h t n f) {i:Nat} (hi:i<n): ∃b o,t.a=some (Addr.mk b o none)/\(i:Int)<(t.n:Int)/\Hp.cell h b (o+Int.toNat (i:Int)*1)=some (I (f i:Nat)):=by
 have hl:=IntS.len e
 rw [bD,List.length_map,List.length_range]at hl
 obtain⟨b,o,ha,hc⟩:=SlC.get e (by omega)
 refine⟨b,o,ha,by omega,?_⟩
 rw [Int.toNat_natCast,Nat.mul_one]
 exact hc i _ (by simp [VL,hi])
def Fh (B:Bd) (s:Sl):Value:= .tuple #[.agg #[I B.v,s.v,I B.r], .bool B.ok]
theorem rN {h:Hp} {t:Sl} {n:Nat} {f:Nat->Bool} {R:Value->Hp->Prop} (hn:n<=13) (ht:yN h t n f)
  (k: ∀s h',h.le h'->Own (h'.sub h) s 3 (cd (dp n f).ns)->R (Fh (dp n f) s) h'):et #[t.v] h R:=by
 have e:dp (n:Int) f=match q8 n f with|none=>iq|some r=>⟨n,r.2,r.1,true⟩:=by
  unfold dp;rw [if_pos (by omega),Int.toNat_natCast];cases q8 n f<;>rfl
 refine I2 hn ht (fun h0=>?_) (fun r hr s h' l o=>?_)
 ·have:=k ⟨none,0,0⟩ h (Hp.le_refl _)
  rw [e,h0]at this
  exact this (k7 _ _)
 ·have:=k s h' l
  rw [e,hr]at this
  exact this o
theorem F0 {h:Hp} {b:Nat} {σ:aA} {fid:FuncId} {u w:Array Value} {f:Nat->Bool} {R:Value->Hp->Prop} (hs:ml h b σ) (ok:σ.Ok) (hf:Cu h fid u w (2^σ.n) f)
  (k: ∀s h',h.le h'->Own (h'.sub h) s 3 (cd (dp σ.n f).ns)->R (Fh (dp σ.n f) s) h'):gW #[.pointer (some ⟨b,0,none⟩), .func (.func fid) u w] h R:=by
 apply zF
 refine uf_ ?_
 have h8:=ok.nle
 obtain⟨M,st,hold,bad,next,fx,_,_,_⟩:=hs
 refine ai fun b6 h1 hb6 l1 f6=>?_
 refine dt ?_
 replace fx:=l1 _ _ fx
 (refine ax ?_)
 refine rM (by omega) (fun i hi h' l R k=>hf i hi h' (Hp.le_trans l1 l) R k) fun t h2 l2 ht=>⟨t,rfl,?_⟩
 refine rN (by omega) (ht.mono (sub_le _ _)) fun s h3 l3 o3=>⟨_,_,_,_,rfl,?_⟩
 have l12:=Hp.le_trans l2 l3
 have f62:=l2 _ _ f6
 (with_reducible apply bZ);(exact l3 _ _ f62);(exact Hp.le_trans l1 l12);(exact hb6);(exact Nat.le_refl 3)
 intro h4 f4 kp l4
 refine⟨_,by rw [am f4];rfl,_,by rw [am f4];rfl,_,by rw [am f4];rfl,?_⟩
 exact k s h4 l4 (o3.mono (fS (Hp.le_trans l1 l2) f62 kp))
theorem wB {h:Hp} {b s:Nat} {σ:aA} {R:Value->Hp->Prop} (hs:ml h b σ) (ok:σ.Ok) (hlt:s<2^σ.n) (k:R (.bool (σ.begins s)) h):j4 #[.pointer (some ⟨b,0,none⟩),I s] h R:=by
 apply vv
 refine uf_ ?_
 obtain⟨M,st,hold,bad,next,fx,_,_,_⟩:=hs
 have h8:=Nat.pow_le_pow_right (n:=2) (by omega) ok.nle
 have h82:(2:Nat)^8=256:=rfl
 have hb:=ok.bfix
 have ha:=ok.bas
 refine dt (dt ?_)
 repeat' (refine ax ?_)
 rw [qV (by omega) (by omega)]
 refine df ?_ k
 unfold aA.begins
 rw [Bool.eq_iff_iff,decide_eq_true_eq,beq_iff_eq];omega
theorem IntS.up {h h':Hp} {s:Sl} {xs:List Int} (e:IntS h s xs) (l:h.le h'):IntS h' s xs:=e.mono l
theorem IntSS.up {h h':Hp} {s:Sl} {xs:List (List Int)} (e:IntSS h s xs) (l:h.le h'):IntSS h' s xs:=e.mono l
theorem aM.up {h h':Hp} {M:MSl} {m:aj} (e:aM h M m) (l:h.le h'):aM h' M m:=e.mono l
theorem kpU {h0 h h':Hp} {b:Nat} {x:Blk} {P:Prop} (f:h0 b=some x) (l1:h0.le h') (l2:h0.le h) (k:P):h' b=h b/\P:=⟨by rw [l1 _ _ f,l2 _ _ f],k⟩
theorem kpN {h0 h h':Hp} {b:Nat} {P:Prop} (f:h0 b≠none) (l1:h0.le h') (l2:h0.le h) (k:P):h' b=h b/\P:=by
 refine⟨?_,k⟩
 cases hb:h0 b with
 |none=>exact absurd hb f
 |some x=>rw [l1 _ _ hb,l2 _ _ hb]
theorem rdU {α:Type} {f:α->Value} {h0 h:Hp} {b z o:Nat} {cs:List Value} {ro:Bool} {x:α} {P:α->Prop} (e:h0 b=some (.inl ⟨cs,z,ro⟩)) (l:h0.le h) (c:cs[o]?=some (f x)) (k:P x): ∃y:α,Hp.cell h b o=some (f y)/\P y:=⟨x,by rw [am (l _ _ e)];exact c,k⟩
theorem ku_ {P Q:Prop} (k:Q) (h:Q->P:=by(first
 |((with_reducible apply rdU);(assumption);((focus ((repeat (first|exact Hp.le_refl _|assumption|(refine Hp.le_trans ?_ (by assumption))));done)));(exact rfl))
 |with_reducible exact And.intro (Eq.refl _)
 |with_reducible exact And.intro True.intro
 |with_reducible exact dt
 |((with_reducible apply kpU);(assumption);((focus ((repeat (first|exact Hp.le_refl _|assumption|(refine Hp.le_trans ?_ (by assumption))));done)));((focus ((repeat (first|exact Hp.le_refl _|assumption|(refine Hp.le_trans ?_ (by assumption))));done))))
 |((with_reducible apply kpN);(assumption);((focus ((repeat (first|exact Hp.le_refl _|assumption|(refine Hp.le_trans ?_ (by assumption))));done)));((focus ((repeat (first|exact Hp.le_refl _|assumption|(refine Hp.le_trans ?_ (by assumption))));done))))
 |fail)):P:=h k
set_option maxHeartbeats 2000000 in
theorem xW {h:Hp} {M:MSl} {m:aj} {c:Nat} {R:Value->Hp->Prop} (hs:aM h M m) (hm:bT m) (g:dS m) (hc:c<2^(au m.nodes 36+au m.nodes 35))
  (k: ∀t h',h.le h'->t.n=m.nodes.length->fM h' t (dc m (c%2^au m.nodes 36) (c/2^au m.nodes 36))->US h t->R (Sl.v t) h'):la #[aR M,I c] h R:=by
 apply Cw
 refine uf_ ?_
 have hn8:=g.n8
 have hk5:=g.k5
 have hp13:=KK g
 have hp8:=Yz g
 have h1':c%2^au m.nodes 36<=c:=Nat.mod_le _ _
 have h2':c/2^au m.nodes 36<=c:=Nat.div_le_self _ _
 have hpp:=bC (au m.nodes 36)
 have hs36:cu m.nodes (aU m.nodes 36)<=60:=by have:=fH g;show cu m.nodes (stP m)<=60;omega
 have hs35:cu m.nodes (aU m.nodes 35)<=60:=by have:=DE g;show cu m.nodes (inP m)<=60;omega
 have hshr:nQ (c:Int) ((au m.nodes 36:Nat):Int)=((c/2^au m.nodes 36:Nat):Int):=j7 (by omega)
 have hmod:Int.tmod (c:Int) (((2^au m.nodes 36:Nat)):Int)=((c%2^au m.nodes 36:Nat):Int):=fE _ _
 have hwu:IntKind.wrap .u64 ((au m.nodes 36:Nat):Int)=(au m.nodes 36:Nat):=cz (by omega)
 have hsh1:ar 1 ((au m.nodes 36:Nat):Int)=((2^au m.nodes 36:Nat):Int):=bU (by omega)
 refine ai fun b8 h1 hb8 l1 f8=>?_
 clear hb8
 repeat' (refine ku_ ?_)
 refine fN (hs.mono l1) hm ⟨_,rfl,?_⟩
 simp only [hwu,hsh1,hshr,hmod]
 repeat' (first
  |(refine ku_ ?_)
  |(rw [if_neg (by omega)])
  |(refine cH (hs.up (by((focus ((repeat (first|exact Hp.le_refl _|assumption|(refine Hp.le_trans ?_ (by assumption))));done))))) hm fun _ _ _ _=>⟨_,rfl,?_⟩)
  |(refine fo (hs.up (by((focus ((repeat (first|exact Hp.le_refl _|assumption|(refine Hp.le_trans ?_ (by assumption))));done))))) hm g.ok (IntS.up (by assumption) (by((focus ((repeat (first|exact Hp.le_refl _|assumption|(refine Hp.le_trans ?_ (by assumption))));done))))) (cG g 36) (ib g 36) (by omega) hs36 fun _ _ _ _=>⟨_,rfl,?_⟩)
  |(refine fo (hs.up (by((focus ((repeat (first|exact Hp.le_refl _|assumption|(refine Hp.le_trans ?_ (by assumption))));done))))) hm g.ok (IntS.up (by assumption) (by((focus ((repeat (first|exact Hp.le_refl _|assumption|(refine Hp.le_trans ?_ (by assumption))));done))))) (cG g 35) (ib g 35) (by omega) hs35 fun _ _ _ _=>⟨_,rfl,?_⟩)
  |(refine nP (hs.up (by((focus ((repeat (first|exact Hp.le_refl _|assumption|(refine Hp.le_trans ?_ (by assumption))));done))))) hm g.ok g.nl (IntSS.up (by assumption) (by((focus ((repeat (first|exact Hp.le_refl _|assumption|(refine Hp.le_trans ?_ (by assumption))));done))))) (kA 36 (c%2^au m.nodes 36) g) (IntSS.up (by assumption) (by((focus ((repeat (first|exact Hp.le_refl _|assumption|(refine Hp.le_trans ?_ (by assumption))));done))))) (kA 35 (c/2^au m.nodes 36) g) fun t h' l hn hpv hw=>⟨_,rfl,k t h' (by((focus ((repeat (first|exact Hp.le_refl _|assumption|(refine Hp.le_trans ?_ (by assumption))));done)))) hn hpv fun b o hb=>aD (by((focus ((repeat (first|exact Hp.le_refl _|assumption|(refine Hp.le_trans ?_ (by assumption))));done)))) (hw b o hb)⟩)
  |(refine And.intro ?_ ?_))
def iR (ps:List Nat) (f:Nat->Option (List Nat)) (vs:List (List Nat)) (n:Nat):Bool:=(List.range n).all fun i=>match ps[i]? with
 |some p=>(match f p with|some v=>decide (vs.getD i []=v)|none=>true)
 |none=>true
theorem BL {ps:List Nat} {f:Nat->Option (List Nat)} {vs:List (List Nat)} {i p:Nat} (h:ps[i]?=some p):iR ps f vs (i+1)=(iR ps f vs i&&(match f p with|some v=>decide (vs.getD i []=v)|none=>true)):=by
 unfold iR
 rw [List.range_succ,List.all_append]
 simp only [List.all_cons,List.all_nil,Bool.and_true,h]
theorem nF {ps:List Nat} {f:Nat->Option (List Nat)} {vs:List (List Nat)}:iR ps f vs ps.length=true↔ ∀(i p:Nat),ps[i]?=some p-> ∀v,f p=some v->vs.getD i []=v:=by
 unfold iR
 rw [List.all_eq_true]
 constructor
 ·intro h i p hp v hv
  have:=h i (List.mem_range.2 (get_lt hp))
  rw [hp]at this
  simp only [hv,decide_eq_true_eq]at this
  exact this
 ·intro h i hi
  cases hp:ps[i]? with
  |none=>rfl
  |some p=>
   simp only
   cases hv:f p with
   |none=>rfl
   |some v=>simpa using h i p hp v hv
theorem Hq {ps:List Nat} {f:Nat->Option (List Nat)} {vs:List (List Nat)} {i:Nat} (hi:i<=ps.length) (h:iR ps f vs i=false):iR ps f vs ps.length=false:=by
 unfold iR at h⊢
 rw [List.all_eq_false]at h⊢
 obtain⟨x,hx,hn⟩:=h
 exact⟨x,List.mem_range.2 (by have:=List.mem_range.1 hx;omega),hn⟩
theorem Cl {h:Hp} {M:MSl} {m:aj} {s t:Sl} {ps:List Nat} {vs:List (List Nat)} {R:Value->Hp->Prop} (hs:aM h M m) (hm:bT m) (hok:cl m.nodes=true) (hp:IntS h s (VL ps)) (hps: ∀p∈ps,p<m.nodes.length) (hpl:ps.length<=1048576)
  (hv:IntSS h t (vs.map VL)) (hf:lC m.nodes ps vs) (k:R (.bool true) h):ou #[aR M,s.v,t.v] h R:=by
 refine ACalls.drop (Gg ?_)
 refine uf_ ?_
 have hn:=hs.nodes.len
 have hsn:=hp.len
 rw [bD]at hsn
 have htn:=hv.len
 rw [List.length_map]at htn
 have hvl:=mr hf
 refine ai fun b9 h1 hb9 l1 f9=>?_
 refine aF (by simp;omega) ?_
 refine aw ps.length (fun i ws h'=>h.le h'/\h' b9=some (.inl ⟨av M,5,false⟩)/\ws= [s.v,t.v, .pointer (some ⟨b9,0,none⟩),I i]) ⟨l1,f9,rfl⟩ ?_
 clear f9 l1 hb9 h1
 rintro i _ h1 next hi ⟨l1,f9,rfl⟩ hnx
 refine⟨s,t,_,_,_,rfl,?_⟩
 by_cases hlt:i<ps.length
 rotate_left
 ·exact aF (by simp;omega) ⟨_,l1,k⟩
 refine aK (by simp;omega) ?_
 obtain⟨p,hpi⟩: ∃p,ps[i]?=some p:=⟨_,List.getElem?_eq_getElem hlt⟩
 have hpm:=hps p (List.mem_of_getElem? hpi)
 obtain⟨b,o,ha,hc⟩:=(hp.mono l1).get (fX hpi)
 refine⟨b,o,ha,by omega,by omega,?_⟩
 (refine ax ?_)
 refine⟨_,hc,?_⟩
 obtain⟨bn,on,han,hpn',c6,c7,w1,w16⟩:=(hs.mono l1).nodes.sortc2 hpm hok
 refine⟨bn,on,han,by omega,hpn',_,c6,_,c7,?_⟩
 obtain⟨bt,ot,c,hta,htc,hcv⟩:=(hv.mono l1).getV (i:=i) (by omega)
 have xbt:=gD htc
 have xbn:=gD c6
 have xb:=gD hc
 have xb9:=fK f9
 refine ai fun b36 h2 hb36 l2 f36'=>?_
 have n9:=fresh_ne hb36 f9
 have nt:=uu hb36 htc
 repeat' (((with_reducible apply jZ);(assumption);(assumption)))
 (with_reducible apply bZ);(exact f36');(exact Hp.le_trans l1 l2);(exact aD l1 hb36);(exact Nat.le_refl 2)
 intro h3 f36 kp l3
 have l13:h1.le h3:=dy hb36 l2 kp
 have f93:=l13 _ _ f9
 have f36v:h3 b36=some (.inl ⟨[I (aC m.nodes p).idx,I (cj m.nodes p)],2,false⟩):=f36
 refine⟨bt,ot,hta,by omega,by omega,c,l13.cell htc,?_⟩
 repeat' (refine ax ?_)
 refine eK ⟨_,rfl,?_⟩
 rw [qH hok hpm]
 have hg:=po hf hpi
 have hcn:=hcv.len
 rw [bD]at hcn
 have hcl:=dl m.nodes p
 repeat' (refine ax ?_)
 refine aF (by simp;omega) ?_
 have hcv3:=hcv.mono l13
 refine aw (aH m.nodes p) (fun q ws h'=>h'=h3/\ws= [s.v,t.v, .pointer (some ⟨b9,0,none⟩),I i, .pointer (some ⟨b36,0,none⟩),I q]) ⟨rfl,rfl⟩ ?_
 rintro q _ _ next2 hq ⟨rfl,rfl⟩ hnx2
 rename_i h3
 refine⟨s,t,_,_,_,_,_,_,rfl,?_⟩
 refine⟨bt,ot,hta,by omega,by omega,c,l13.cell htc,?_⟩
 by_cases hlq:q<aH m.nodes p
 rotate_left
 ·refine aF (by simp;omega) ?_
  rw [aE (by omega)]
  exact hnx hlt _ _ ⟨l3,f93,rfl⟩
 refine aK (by simp;omega) ?_
 refine⟨bt,ot,hta,by omega,by omega,?_⟩
 (refine ax ?_)
 refine⟨c,l13.cell htc,?_⟩
 obtain⟨bc,oc,hca,hcc,hln⟩:=hcv3.elt (i:=q) (by omega)
 refine⟨bc,oc,hca,by omega,by omega,_,hcc,?_⟩
 have hlt2:(vs.getD i []).getD q 0<2^cj m.nodes p:=by
  rw [List.getD_eq_getElem?_getD,List.getElem?_eq_getElem (show q<(vs.getD i []).length by omega)]
  exact hg.2 _ (List.getElem_mem _)
 refine cm ⟨_,rfl,aF ?_ ?_⟩
 ·rw [Bool.not_eq_false',jd]
  refine⟨by omega,by omega,?_⟩
  rw [Int.toNat_natCast];omega
 ·rw [aE (by omega)]
  exact hnx2 hlq _ _ ⟨rfl,rfl⟩
theorem fR {h:Hp} {M:MSl} {m:aj} {t:Sl} {vs:List (List Nat)} {R:Value->Hp->Prop} (hs:aM h M m) (hm:bT m) (hc:az m=0)
  (hv:IntSS h t (vs.map VL)) (hf:lC m.nodes (stP m) vs) (k:R (.bool true) h):ff #[aR M,t.v] h R:=by
 refine ACalls.drop (BD ?_)
 refine uf_ ?_
 have g:=cC hc
 refine ai fun b8 h1 hb8 l1 f8=>?_
 repeat' (refine ku_ ?_)
 refine aX (hs.up (by((focus ((repeat (first|exact Hp.le_refl _|assumption|(refine Hp.le_trans ?_ (by assumption))));done))))) hm ⟨_,rfl,aK (by rw [hc];rfl) ?_⟩
 repeat' (refine ku_ ?_)
 refine cH (hs.up (by((focus ((repeat (first|exact Hp.le_refl _|assumption|(refine Hp.le_trans ?_ (by assumption))));done))))) hm fun p h2 l2 i2=>⟨p,rfl,?_⟩
 repeat' (refine ku_ ?_)
 exact Cl (hs.up (by((focus ((repeat (first|exact Hp.le_refl _|assumption|(refine Hp.le_trans ?_ (by assumption))));done))))) hm g.ok i2 (cG g 36) (ib g 36) (hv.up (by((focus ((repeat (first|exact Hp.le_refl _|assumption|(refine Hp.le_trans ?_ (by assumption))));done))))) hf ⟨_,rfl,h,by((focus ((repeat (first|exact Hp.le_refl _|assumption|(refine Hp.le_trans ?_ (by assumption))));done))),k⟩
theorem Mt {m:aj} (g:dS m) {p k:Nat} (h:cn m.inits p=some k):k<m.nodes.length/\0<((nh m).getD k []).length/\((nh m).getD k []).length<=4:=by
 obtain⟨b,hb,_,rfl⟩:=ig h
 obtain⟨v1,v2,v3,v4,_,_⟩:=te g hb
 exact⟨by omega,v3,v4⟩
theorem ly {h:Hp} {M:MSl} {m:aj} {t:Sl} {vs:List (List Nat)} {R:Value->Hp->Prop} (hs:aM h M m) (hm:bT m) (hc:az m=0)
  (hv:IntSS h t (vs.map VL)) (hf:lC m.nodes (stP m) vs) (k:R (.bool (iR (stP m) (fC m) vs (stP m).length)) h):gR #[aR M,t.v] h R:=by
 refine ACalls.drop (CE ?_)
 refine uf_ ?_
 have g:=cC hc
 have hil:=g.il
 have hnl:=g.nl
 have hp36:(stP m).length<=m.nodes.length:=eF m.nodes 36
 have htn:=hv.len
 rw [List.length_map]at htn
 have hvl:=mr hf
 have hbn: ∀b∈m.inits,0<=b.node:=fun b hb=>(te g hb).1
 refine ai fun b8 h1 hb8 l1 f8=>?_
 repeat' (refine ku_ ?_)
 refine fR (hs.up (by((focus ((repeat (first|exact Hp.le_refl _|assumption|(refine Hp.le_trans ?_ (by assumption))));done))))) hm hc (hv.up (by((focus ((repeat (first|exact Hp.le_refl _|assumption|(refine Hp.le_trans ?_ (by assumption))));done))))) hf ⟨_,rfl,aF rfl ?_⟩
 repeat' (refine ku_ ?_)
 refine Je (hs.up (by((focus ((repeat (first|exact Hp.le_refl _|assumption|(refine Hp.le_trans ?_ (by assumption))));done))))) hm g fun vt h2 l2 hvn hpv=>⟨vt,rfl,?_⟩
 repeat' (refine ku_ ?_)
 refine cH (hs.up (by((focus ((repeat (first|exact Hp.le_refl _|assumption|(refine Hp.le_trans ?_ (by assumption))));done))))) hm fun pt h3 l3 ip=>⟨pt,rfl,?_⟩
 have hpn:pt.n=(stP m).length:=by have:=ip.len;rw [bD]at this;exact this
 have f83:=l3 _ _ (l2 _ _ f8)
 have hpv3:=hpv.mono l3
 have l03:=Hp.le_trans l1 (Hp.le_trans l2 l3)
 have aV:=wl g
 clear l2 l3 l1 hb8 f8 hpv h2
 refine aw (stP m).length (fun i ws h'=>h3.le h'/\ws= [t.v, .pointer (some ⟨b8,0,none⟩),vt.v,pt.v,I i]/\iR (stP m) (fC m) vs i=true) ⟨Hp.le_refl _,rfl,rfl⟩ ?_
 rintro i _ h4 next hi ⟨l4,rfl,hg⟩ hnx
 have l04:=Hp.le_trans l03 l4
 refine⟨t,_,_,vt,pt,_,rfl,?_⟩
 by_cases hlt:i<(stP m).length
 rotate_left
 ·have hie:i=(stP m).length:=by omega
  subst hie
  refine aF (by simp;omega) ⟨_,l04,df hg.symm k⟩
 refine aK (by simp;omega) ?_
 obtain⟨p,hpi⟩: ∃p,(stP m)[i]?=some p:=⟨_,List.getElem?_eq_getElem hlt⟩
 have hsucc:=BL (f:=fC m) (vs:=vs) hpi
 rw [hg,Bool.true_and]at hsucc
 obtain⟨b,o,ha,hcc⟩:=(ip.mono l4).get (fX hpi)
 refine⟨b,o,ha,by omega,by omega,?_⟩
 (refine ku_ ?_)
 refine⟨_,hcc,?_⟩
 refine mK (hs.mono l04).inits (by omega) hbn ⟨_,rfl,?_⟩
 refine ap (fun J=> ∀h',h4.le h'->J (!iR (stP m) (fC m) vs (i+1)) h') ?_ (fun J hJ=>?_)
 ·intro h' l'
  refine ad (fun e=>⟨_,Hp.le_trans l04 l',df ?_ k⟩) (fun e=>?_)
  ·symm;exact Hq (i:=i+1) (by omega) (by simpa using e)
  ·rw [aE (by omega)]
   exact hnx hlt _ _ ⟨Hp.le_trans l4 l',rfl,by simpa using e⟩
 cases hbo:cn m.inits p with
 |none=>
  rw [show ie m.inits p= -1 from by unfold ie;rw [hbo]]
  refine aF (by simp) ⟨trivial,?_⟩
  have hn:fC m p=none:=by unfold fC;rw [hbo];rfl
  rw [hn]at hsucc
  have:=hJ h4 (Hp.le_refl _)
  rw [hsucc]at this;exact this
 |some q=>
  rw [show ie m.inits p=(q:Int)from by unfold ie;rw [hbo]]
  refine aK (by simp) ?_
  obtain⟨hq,v3,v4⟩:=Mt g hbo
  have hsm:fC m p=some (lU (aH m.nodes p) ((nh m).getD q [])):=by unfold fC;rw [hbo];rfl
  have hfit:=tm g hsm
  have hcl:=dl m.nodes p
  have hgv:=po hf hpi
  rw [hsm]at hsucc
  obtain⟨bt,ot,c,hta,htc,hcv⟩:=(hv.mono l04).getV (i:=i) (by omega)
  obtain⟨bv,ov,u,hua,hun,huc,huv⟩:=(hpv3.mono l4).at (p:=(q:Int)) (by omega) (by rw [aV.len];omega)
  have hcn:=hcv.len
  rw [bD]at hcn
  refine⟨bt,ot,hta,by omega,by omega,bv,ov,hua,by omega,hun,bt,ot,hta,by omega,by omega,c,htc,u,huc,c,htc,?_⟩
  rw [Int.toNat_natCast]at huv
  rw [hcn,hgv.1]
  have xbt:=gD htc
  refine Cf huv v3 v4 hcl fun w h5 l5 hw=>⟨w,rfl,?_⟩
  repeat' (((with_reducible apply jZ);(assumption);(assumption)))
  refine vN (hcv.mono l5) hw (by rw [bD];omega) (by rw [bD,bD,hgv.1,hfit.1];exact Nat.le_refl _) ⟨_,rfl,?_⟩
  have:=hJ h5 l5
  simp only at hsucc
  rw [hsucc]at this
  have e2:decide (VL (vs.getD i [])=VL (lU (aH m.nodes p) ((nh m).getD q [])))=decide (vs.getD i []=lU (aH m.nodes p) ((nh m).getD q [])):=by
   rw [Bool.eq_iff_iff,decide_eq_true_eq,decide_eq_true_eq,Fy]
  rw [e2];exact this
section
variable {g h h':Hp} {L L' A B X:List (Nat×Blk)}
theorem Kn.app (K:Kn g h L) (l:h.le h') (n: ∀e∈X,h e.1=none) (f: ∀e∈X,h' e.1=some e.2) (nd:(X.map Prod.fst).Nodup):Kn g h' (L++X):=by
 refine⟨Hp.le_trans K.le l,fun e he=>?_,fun e he=>?_,?_⟩
 ·rcases List.mem_append.1 he with he|he
  ·exact l _ _ (K.mem e he)
  ·exact f e he
 ·rcases List.mem_append.1 he with he|he
  ·exact K.new e he
  ·exact aD K.le (n e he)
 ·rw [List.map_append,List.nodup_append]
  refine⟨K.nd,nd,fun a ha b hb hab=>?_⟩
  obtain⟨e,he,rfl⟩:=List.mem_map.1 ha
  obtain⟨e',he',rfl⟩:=List.mem_map.1 hb
  have h1:=K.mem e he
  have h2:=n e' he'
  rw [hab,h2]at h1;cases h1
theorem Kn.split (K:Kn g h (A++B)):Kn (h.wo (B.map Prod.fst)) h B/\Kn g (h.wo (B.map Prod.fst)) A:=by
 have nd:=K.nd
 rw [List.map_append,List.nodup_append]at nd
 refine⟨⟨uJ _ _,fun e he=>K.mem e (List.mem_append_right _ he),fun e he=>eC (List.mem_map.2 ⟨e,he,rfl⟩),nd.2.1⟩,?_,fun e he=>?_,fun e he=>K.new e (List.mem_append_left _ he),nd.1⟩
 ·exact qL K.le fun b hb=>by
   obtain⟨e,he,rfl⟩:=List.mem_map.1 hb
   exact K.new e (List.mem_append_right _ he)
 ·rw [rA]
  ·exact K.mem e (List.mem_append_left _ he)
  ·intro hb
   exact nd.2.2 _ (List.mem_map.2 ⟨e,he,rfl⟩) _ hb rfl
theorem Kn.off (K:Kn g h L) {b:Nat} {x y:Blk} (u:Upd L b x y L') (l:(h.off b).le h') (f:h' b=some y):Kn g h' L':=by
 refine⟨?_,fun e he=>?_,fun e he=>?_,by rw [u.keys];exact K.nd⟩
 ·exact Hp.le_trans (tX (K.new (b,x) u.mem) K.le) l
 ·rcases u.out K.nd e he with rfl|⟨h1,h2⟩
  ·exact f
  ·refine l _ _ ?_
   simp only [Hp.off,Hp.set];rw [if_neg h2];exact K.mem e h1
 ·rcases u.out K.nd e he with rfl|⟨h1,h2⟩
  ·exact K.new (b,x) u.mem
  ·exact K.new e h1
def pw (X:List (Nat×Blk)) (s:Sl) (sz:Nat) (cs:List Value):Prop:=
 cs.length=s.n*sz/\s.n<=9223372036854775807/\((s.n=0/\X= [])\/(s.n≠0/\ ∃b z,s.a=some ⟨b,0,none⟩/\X= [(b, .inl ⟨cs,z,false⟩)]))
theorem Kn.addOwn {s:Sl} {sz:Nat} {cs:List Value} (K:Kn g h L) (l:h.le h') (o:Own (h'.sub h) s sz cs): ∃X,pw X s sz cs/\Kn g h' (L++X):=by
 by_cases h0:s.n=0
 ·exact⟨[],⟨o.1,o.2.1, .inl ⟨h0,rfl⟩⟩,by rw [List.append_nil];exact K.mono l⟩
 ·obtain⟨b,z,ha,hb⟩:=o.2.2.resolve_left h0
  have hn:h b=none:=kL (by rw [hb];simp)
  refine⟨_,⟨o.1,o.2.1, .inr ⟨h0,b,z,ha,rfl⟩⟩,K.app l (fun e he=>?_) (fun e he=>?_) (by simp)⟩
  ·rw [List.mem_singleton.1 he];exact hn
  ·rw [List.mem_singleton.1 he];exact sub_le _ _ _ _ hb
theorem pw.own {s:Sl} {sz:Nat} {cs:List Value} (o:pw X s sz cs) (K:Kn g h (L++X)):Own h s sz cs:=by
 refine⟨o.1,o.2.1,?_⟩
 rcases o.2.2 with ⟨h0,_⟩|⟨_,b,z,ha,rfl⟩
 ·exact .inl h0
 ·exact .inr ⟨b,z,ha,K.at (by simp)⟩
end
theorem list9 {cs:List Value} (h:cs.length=9): ∃a b c d e f g i j,cs= [a,b,c,d,e,f,g,i,j]:=by
 match cs,h with
 | [a,b,c,d,e,f,g,i,j],_=>exact⟨a,b,c,d,e,f,g,i,j,rfl⟩
theorem list2 {cs:List Value} (h:cs.length=2): ∃a b,cs= [a,b]:=by
 match cs,h with
 | [a,b],_=>exact⟨a,b,rfl⟩
theorem Got.flat {P:Program} {W:World} {t e:TypeId} {v:Value} {α:Type} {f:α->List Value} {m:Nat} {p:α->Prop} (hf: ∀x,(f x).length=m) (hpos:0<m) (ht:P.underlying t=some (.slice e)) (hsz:P.cellsOf e=m)
  (hg: ∀ds,Got P W e ds-> ∃x,ds=f x/\p x) (g:Got P W t [v]): ∃(s:Sl) (l:List α),v=s.v/\s.n<=s.c/\SlC (hW W) s m (l.flatMap f)/\ ∀x∈l,p x:=by
 obtain⟨s,hs,hm,hlc,h⟩:=Got.slice ht hsz hpos g
 simp only [List.cons.injEq,and_true]at hs
 rcases h with h|⟨b,o,ha,h⟩
 ·exact⟨s, [],hs,hlc,⟨hm,by simp [h], .inl h⟩,by simp⟩
 obtain⟨xs,hl,hx⟩:=Dx (p:=fun i (x:α)=>(∀(j:Nat) v,(f x)[j]?=some v->Hp.cell (hW W) b (o+i*m+j)=some v)/\p x) s.n fun i hi=>by
  obtain⟨ds,hd,hgd,hc⟩:=h i hi
  obtain⟨x,rfl,hp⟩:=hg ds hgd
  exact⟨x,hc,hp⟩
 refine⟨s,xs,hs,hlc,⟨hm,by rw [hE hf,hl], .inr ⟨b,o,ha,?_⟩⟩,?_⟩
 ·intro i v hv
  have hi:i<(xs.flatMap f).length:=(List.getElem?_eq_some_iff.1 hv).1
  rw [hE hf]at hi
  have hq:i/m<xs.length:=by rw [Nat.div_lt_iff_lt_mul hpos];exact hi
  have hr:i%m<m:=Nat.mod_lt _ hpos
  have he:i=i/m*m+i%m:=by rw [Nat.mul_comm];exact(Nat.div_add_mod _ _).symm
  rw [he,vn hf xs (i/m) xs[i/m] (i%m) (List.getElem?_eq_getElem hq) hr]at hv
  have:=(hx (i/m) hq).1 _ _ hv
  rw [he,<-Nat.add_assoc];exact this
 ·intro x hxm
  obtain⟨i,hi,rfl⟩:=List.getElem_of_mem hxm
  exact(hx i hi).2
def tb (n:Nat) (T:Nat->Bool):List Value:=(List.range n).map fun i=> .bool (T i)
theorem fV (n:Nat) (T:Nat->Bool):(tb n T).length=n:=by simp [tb]
theorem nA {n j:Nat} {T:Nat->Bool} (hj:j<n):(tb n T)[j]?=some (.bool (T j)):=by simp [tb,hj]
theorem Wu {n:Nat} {T U:Nat->Bool} (h: ∀j,j<n->T j=U j):tb n T=tb n U:=by
 refine List.map_congr_left fun j hj=>?_
 rw [h j (List.mem_range.1 hj)]
theorem jE (n:Nat):List.replicate n (.bool false)=tb n fun _=>false:=by
 refine List.ext_getElem (by simp [tb]) fun i h1 h2=>?_
 simp [tb]
theorem kw {n j:Nat} {T:Nat->Bool} {v:Bool}:(tb n T).set j (.bool v)=tb n fun i=>if i=j then v else T i:=by
 refine List.ext_getElem (by simp [tb]) fun i h1 h2=>?_
 rw [List.getElem_set]
 simp only [tb,List.getElem_map,List.getElem_range]
 by_cases e:i=j
 ·rw [if_pos e,if_pos e.symm]
 ·rw [if_neg e,if_neg fun h=>e h.symm]
theorem WW (n:Nat) (T:Nat->Bool):tb n T=((List.range n).map T).map Value.bool:=by simp [tb]
theorem jl {h:Hp} {b n z:Nat} {ro:Bool} {T U:Nat->Bool} (hn:n<=9223372036854775807) (f:h b=some (.inl ⟨tb n T,z,ro⟩)) (e: ∀j,j<n->T j=U j):cU h (arr b n) n U:=by
 refine⟨by dsimp only;omega,by simp, .inr ⟨b,0,rfl,?_⟩⟩
 have:=ay f
 rwa [Wu e,WW]at this
theorem ey {σ:aA} (ok:σ.Ok):2^σ.n<=256:=by
 have:=Nat.pow_le_pow_right (n:=2) (by omega) ok.nle
 simpa using this
theorem Bh {σ:aA} (ok:σ.Ok):2^σ.k<=32:=by
 have:=Nat.pow_le_pow_right (n:=2) (by omega) ok.kle
 simpa using this
theorem pc {σ:aA} (ok:σ.Ok):2^(σ.n+σ.k)<=8192:=by
 have h1:=ok.nle
 have h2:=ok.kle
 have:=Nat.pow_le_pow_right (n:=2) (by omega) (show σ.n+σ.k<=13 by omega)
 simpa using this
theorem Dp {h:Hp} {b s i:Nat} {σ:aA} {R:Value->Hp->Prop} (hs:ml h b σ) (ok:σ.Ok) (h1:s<2^σ.n) (h2:i<2^σ.k) (k:R (I (σ.at_ s i:Nat)) h):
  gm #[.pointer (some ⟨b,0,none⟩),I s,I i] h R:=by
 apply Bs
 refine uf_ ?_
 obtain⟨M,st,hold,bad,next,fx,_,_,_⟩:=hs
 have hn:=ey ok
 have hk:=pc ok
 have hl:=aA.at_lt h1 h2
 have h8:=ok.nle
 unfold aA.at_ at hl k
 refine dt ?_
 (refine ax ?_)
 rw [if_neg (by omega),gV (by omega) (by omega),Ay (by omega) (by omega)]
 refine pG ?_ k
 rw [<-Nat.shiftLeft_eq,<-Nat.shiftLeft_add_eq_or_of_lt h1,Nat.shiftLeft_eq]
theorem H7 {h:Hp} {b c:Nat} {σ:aA} {R:Value->Hp->Prop} (hs:ml h b σ) (hc:c<2^(σ.n+σ.k)) (k:R (.bool (σ.hold c)) h):
  np #[.pointer (some ⟨b,0,none⟩),I c] h R:=by
 apply uW
 refine uf_ ?_
 obtain⟨M,st,hold,bad,next,fx,hh,_,_⟩:=hs
 refine dt ?_
 (refine ax ?_)
 obtain⟨b',o',ha,h1,h2⟩:=hh.get hc
 exact⟨b',o',ha,by omega,h1,_,h2,k⟩
theorem wW {h:Hp} {b c:Nat} {σ:aA} {R:Value->Hp->Prop} (hs:ml h b σ) (hc:c<2^(σ.n+σ.k)) (k:R (.bool (σ.ends c)) h):
  gy #[.pointer (some ⟨b,0,none⟩),I c] h R:=by
 apply yl
 refine uf_ ?_
 obtain⟨M,st,hold,bad,next,fx,hh,hb,_⟩:=hs
 refine dt ?_
 (refine ax ?_)
 obtain⟨b',o',ha,h1,h2⟩:=hh.get hc
 refine⟨b',o',ha,by omega,h1,_,h2,?_⟩
 unfold aA.ends at k
 refine ad (fun e=>?_) (fun e=>?_)
 ·refine dt ?_
  (refine ax ?_)
  obtain⟨b',o',ha,h1,h2⟩:=hb.get hc
  refine⟨b',o',ha,by omega,h1,_,h2,df ?_ k⟩
  rw [e];rfl
 ·rw [e]at k;exact k
def Ye (h:Hp) (fid:FuncId) (u w:Array Value) (σ:aA) (f:Nat->Nat->Bool):Prop:=
 ∀s i:Nat,s<2^σ.n->i<2^σ.k-> ∀h':Hp,h.le h'-> ∀R:Value->Hp->Prop,R (.bool (f s (σ.at_ s i))) h'->ACalls PR fid ((u++ #[I s,I (σ.at_ s i:Nat)])++w) h' R
theorem sK {h:Hp} {b:Nat} {σ:aA} {fid:FuncId} {u w:Array Value} {f:Nat->Nat->Bool} {R:Value->Hp->Prop} (hs:ml h b σ) (ok:σ.Ok) (hf:Ye h fid u w σ f)
  (k: ∀t h',h.le h'->cU (h'.sub h) t (2^σ.n) (σ.some_ f)->R (Sl.v t) h'):ef #[.pointer (some ⟨b,0,none⟩), .func (.func fid) u w] h R:=by
 apply yA
 refine uf_ ?_
 have hn:=ey ok
 have hk:=Bh ok
 have h8:=ok.nle
 have h5:=ok.kle
 obtain⟨M,st,hold,bad,next,fx,_⟩:=id hs
 have K0:=Kn.nil h
 refine dt ?_
 (refine ax ?_)
 rw [if_neg (by omega),bU (by omega)]
 refine⟨Int.natCast_nonneg _,Int.le_refl _,by omega,by omega,?_⟩
 (with_reducible apply Kn.al);(assumption);(intro b10 h1 K1 l1 hb10)
 rw [Int.toNat_natCast,Nat.mul_one,ce,jE]at K1
 rw [Int.toNat_natCast]
 refine aw (2^σ.n) (fun s vs h'=>vs= [.pointer (some ⟨b,0,none⟩), .func (.func fid) u w,(arr b10 (2^σ.n)).v,I (2^σ.n:Nat),I s]/\
  ∃T,Kn h h' [(b10, .inl ⟨tb (2^σ.n) T,2^σ.n,false⟩)]/\(∀j,j<s->T j=σ.some_ f j)/\ ∀j,s<=j->T j=false) ⟨rfl,_,K1,fun j hj=>by omega,fun _ _=>rfl⟩ ?_
 clear K1 K0 l1 hb10 h1
 rintro s _ h1 next hs' ⟨rfl,T,K1,hT1,hT2⟩ hnx
 refine⟨_,_,_,_,arr b10 _,_,_,rfl,?_⟩
 by_cases hlt:s<2^σ.n
 rotate_left
 ·refine aF (by rw [decide_eq_false_iff_not];omega) ?_
  exact k _ h1 K1.le (jl (by omega) (by rw [kx (K1.new _ (.head _))];exact K1.at (.head _)) fun j hj=>hT1 j (by omega))
 refine aK (by rw [decide_eq_true_eq];exact_mod_cast hlt) ?_
 refine dt ?_
 (refine kr_ ?_)
 rw [if_neg (by omega),bU (by omega)]
 refine aw (2^σ.k) (fun i vs h'=>vs= [.pointer (some ⟨b,0,none⟩), .func (.func fid) u w,(arr b10 (2^σ.n)).v,I s,I (2^σ.n:Nat),I s,I (2^σ.k:Nat),I i]/\
  ∃T,Kn h h' [(b10, .inl ⟨tb (2^σ.n) T,2^σ.n,false⟩)]/\(∀j,j<s->T j=σ.some_ f j)/\(∀j,s<j->T j=false)/\T s=mA i fun x=>f s (σ.at_ s x))
  ⟨rfl,T,K1,hT1,fun j hj=>hT2 j (by omega),by rw [hT2 s (Nat.le_refl _)];rfl⟩ ?_
 clear K1 hT1 hT2 T h1
 rintro i _ h1 next2 hi ⟨rfl,T,K1,hT1,hT2,hT3⟩ hnx2
 refine⟨_,_,_,_,arr b10 _,_,_,_,_,_,rfl,?_⟩
 by_cases hli:i<2^σ.k
 rotate_left
 ·refine aF (by rw [decide_eq_false_iff_not];omega) ?_
  have hie:i=2^σ.k:=by omega
  rw [aE (by omega)]
  refine hnx hlt _ _ ⟨rfl,T,K1,fun j hj=>?_,fun j hj=>hT2 j (by omega)⟩
  by_cases e:j=s
  ·rw [e,hT3,hie];rfl
  ·exact hT1 j (by omega)
 refine aK (by rw [decide_eq_true_eq];exact_mod_cast hli) ?_
 have upd: ∀v,v=mA (i+1) (fun x=>f s (σ.at_ s x))-> ∀h',Kn h h' [(b10, .inl ⟨(tb (2^σ.n) T).set s (.bool v),2^σ.n,false⟩)]->
   next2 [.pointer (some ⟨b,0,none⟩), .func (.func fid) u w,(arr b10 (2^σ.n)).v,I s,I (2^σ.n:Nat),I s,I (2^σ.k:Nat),I (W ((i:Int)+1))] h':=by
  intro v hv h' K
  rw [aE (by omega)]
  rw [kw]at K
  exact hnx2 hli _ _ ⟨rfl,_,K,fun j hj=>by rw [if_neg (by omega)];exact hT1 j hj,fun j hj=>by rw [if_neg (by omega)];exact hT2 j hj,by rw [if_pos rfl];exact hv⟩
 refine⟨b10,0,rfl,by omega,by dsimp only;omega,?_⟩
 refine Kn.rd K1 (.head _) (x:=T s) (by rw [Nat.zero_add,Nat.mul_one,Int.toNat_natCast];exact nA hlt) ?_
 refine ad (fun e=>?_) (fun e=>?_)
 ·refine⟨b10,0,rfl,by omega,by dsimp only;omega,?_⟩
  (((with_reducible apply Kn.wr);(assumption);((focus ((repeat first|exact .head|apply Upd.tail);done)))))
  ·rw [fV];omega
  intro h2 K2 _
  rw [bK,Nat.zero_add,Int.toNat_natCast,Nat.mul_one]at K2
  exact upd true (by rw [Hl,<-hT3,e];rfl) h2 K2
 ·refine Dp (hs.mono K1.le) ok hlt hli ⟨_,rfl,?_⟩
  refine hf s i hlt hli h1 K1.le _ ⟨_,rfl,?_⟩
  refine⟨b10,0,rfl,by omega,by dsimp only;omega,?_⟩
  (((with_reducible apply Kn.wr);(assumption);((focus ((repeat first|exact .head|apply Upd.tail);done)))))
  ·rw [fV];omega
  intro h2 K2 _
  rw [bK,Nat.zero_add,Int.toNat_natCast,Nat.mul_one]at K2
  exact upd _ (by rw [Hl,<-hT3,e];rfl) h2 K2
theorem IA {h:Hp} {b:Nat} {s2:Sl} {σ:aA} {S p:Nat->Bool} {fid:FuncId} {u w:Array Value} {R:Value->Hp->Prop} (hs:ml h b σ) (ok:σ.Ok) (hS:cU h s2 (2^σ.n) S)
  (hp:Cu h fid u w (2^(σ.n+σ.k)) p)
  (k: ∀b' T h',Kn h h' [(b', .inl ⟨tb (2^σ.n) T,2^σ.n,false⟩)]->(∀j,j<2^σ.n->T j=σ.fwd p S j)->R (arr b' (2^σ.n)).v h'):
  jC #[.pointer (some ⟨b,0,none⟩),s2.v, .func (.func fid) u w] h R:=by
 apply uO
 refine uf_ ?_
 have hn:=ey ok
 have hk:=Bh ok
 have h8:=ok.nle
 have h5:=ok.kle
 have hl:=hS.len
 obtain⟨M,st,hold,bad,next,fx,_,_,hnt⟩:=id hs
 have K0:=Kn.nil h
 rw [hl]
 refine⟨Int.natCast_nonneg _,Int.le_refl _,by omega,by omega,?_⟩
 (with_reducible apply Kn.al);(assumption);(intro b8 h1 K1 l1 hb8)
 rw [Int.toNat_natCast,Nat.mul_one,ce,jE]at K1
 rw [Int.toNat_natCast]
 refine aw (2^σ.n) (fun s vs h'=>vs= [.pointer (some ⟨b,0,none⟩),s2.v, .func (.func fid) u w,(arr b8 (2^σ.n)).v,s2.v,I (2^σ.n:Nat),I s]/\
  ∃T,Kn h h' [(b8, .inl ⟨tb (2^σ.n) T,2^σ.n,false⟩)]/\ ∀x,T x=true↔ ∃s' i',s'<s/\i'<2^σ.k/\S s'=true/\p (σ.at_ s' i')=true/\σ.next (σ.at_ s' i')=x)
  ⟨rfl,_,K1,fun x=>⟨fun e=>by simp at e,fun⟨s',i',e,_⟩=>by omega⟩⟩ ?_
 clear K1 K0 l1 hb8 h1
 rintro s _ h1 nxt hs' ⟨rfl,T,K1,hT⟩ hnx
 refine⟨_,s2,_,_,_,arr b8 _,s2,_,_,rfl,?_⟩
 by_cases hlt:s<2^σ.n
 rotate_left
 ·refine aF (by rw [decide_eq_false_iff_not];omega) ?_
  have hse:s=2^σ.n:=by omega
  rw [hl]
  refine⟨Int.natCast_nonneg _,Int.le_refl _,by omega,by omega,?_⟩
  (with_reducible apply Kn.al);(assumption);(intro b84 h2 K2 l2 hb84)
  rw [Int.toNat_natCast,Nat.mul_one,ce,jE]at K2
  rw [Int.toNat_natCast]
  refine aw (2^σ.n) (fun t vs h'=>vs= [.pointer (some ⟨b,0,none⟩),(arr b8 (2^σ.n)).v,(arr b84 (2^σ.n)).v,I (2^σ.n:Nat),I t]/\
   ∃U,Kn h h' [(b84, .inl ⟨tb (2^σ.n) U,2^σ.n,false⟩),(b8, .inl ⟨tb (2^σ.n) T,2^σ.n,false⟩)]/\ ∀j,j<t->U j=σ.fwd p S j)
   ⟨rfl,_,K2,fun j hj=>by omega⟩ ?_
  clear K2 l2 hb84 h2
  rintro t _ h2 nxt2 ht ⟨rfl,U,K2,hU⟩ hnx2
  refine⟨_,arr b8 _,arr b84 _,_,_,rfl,?_⟩
  by_cases hlt2:t<2^σ.n
  rotate_left
  ·refine aF (by rw [decide_eq_false_iff_not];omega) ?_
   exact k b84 U h2 (K2.sub (fun e he=>by rw [List.mem_singleton]at he;subst he;exact .head _) (by simp)) fun j hj=>hU j (by omega)
  refine aK (by rw [decide_eq_true_eq];exact_mod_cast hlt2) ?_
  refine dt ?_
  (refine kr_ ?_)
  have hfx:=ok.fixed
  rw [qV (by omega) (by omega)]
  have hle:t&&&σ.fixed<=t:=Nat.and_le_left
  refine⟨b8,0,rfl,by omega,by dsimp only;omega,?_⟩
  refine Kn.rd K2 (.tail _ (.head _)) (x:=T (t&&&σ.fixed)) (by rw [Nat.zero_add,Nat.mul_one,Int.toNat_natCast];exact nA (by omega)) ?_
  refine⟨b84,0,rfl,by omega,by dsimp only;omega,?_⟩
  (((with_reducible apply Kn.wr);(assumption);((focus ((repeat first|exact .head|apply Upd.tail);done)))))
  ·rw [fV];omega
  intro h3 K3 _
  rw [bK,Nat.zero_add,Int.toNat_natCast,Nat.mul_one,kw]at K3
  rw [aE (by omega)]
  refine hnx2 hlt2 _ _ ⟨rfl,_,K3,fun j hj=>?_⟩
  by_cases e:j=t
  ·subst e
   rw [if_pos rfl,Bool.eq_iff_iff,hT,aA.fwd_iff]
   constructor
   ·rintro ⟨s',i',q1,q2,q3,q4,q5⟩
    exact⟨s',i',by omega,q2,q3,q4,by unfold aA.goes;rw [decide_eq_true_eq];exact q5.symm⟩
   ·rintro ⟨s',i',q1,q2,q3,q4,q5⟩
    unfold aA.goes at q5
    rw [decide_eq_true_eq]at q5
    exact⟨s',i',by omega,q2,q3,q4,q5.symm⟩
  ·rw [if_neg e];exact hU j (by omega)
 refine aK (by rw [decide_eq_true_eq];exact_mod_cast hlt) ?_
 obtain⟨bS,oS,ha,hlt',hc⟩:=(hS.mono K1.le).get hlt
 refine⟨bS,oS,ha,by omega,hlt',_,hc,?_⟩
 refine dt ?_
 (refine kr_ ?_)
 rw [if_neg (by omega),bU (by omega)]
 refine aw (2^σ.k) (fun i vs h'=>vs= [.pointer (some ⟨b,0,none⟩),s2.v, .func (.func fid) u w,(arr b8 (2^σ.n)).v,I s, .bool (S s),s2.v,I (2^σ.n:Nat),I s,I (2^σ.k:Nat),I i]/\
  ∃T,Kn h h' [(b8, .inl ⟨tb (2^σ.n) T,2^σ.n,false⟩)]/\ ∀x,T x=true↔ ∃s' i',(s'<s\/s'=s/\i'<i)/\i'<2^σ.k/\S s'=true/\p (σ.at_ s' i')=true/\σ.next (σ.at_ s' i')=x)
  ⟨rfl,T,K1,fun x=>?_⟩ ?_
 ·rw [hT]
  constructor
  ·rintro ⟨s',i',q1,q⟩;exact⟨s',i', .inl q1,q⟩
  ·rintro ⟨s',i',q1,q⟩;exact⟨s',i',by omega,q⟩
 clear K1 hT T h1 hc hlt' ha bS oS
 rintro i _ h1 nxt2 hi ⟨rfl,T,K1,hT⟩ hnx2
 refine⟨_,s2,_,_,_,arr b8 _,_,_,s2,_,_,_,_,rfl,?_⟩
 by_cases hli:i<2^σ.k
 rotate_left
 ·refine aF (by rw [decide_eq_false_iff_not];omega) ?_
  rw [aE (by omega)]
  refine hnx hlt _ _ ⟨rfl,T,K1,fun x=>?_⟩
  rw [hT]
  constructor
  ·rintro ⟨s',i',q1,q⟩;exact⟨s',i',by omega,q⟩
  ·rintro ⟨s',i',q1,q2,q⟩;exact⟨s',i',by omega,q2,q⟩
 refine aK (by rw [decide_eq_true_eq];exact_mod_cast hli) ?_
 have fin: ∀T' h',Kn h h' [(b8, .inl ⟨tb (2^σ.n) T',2^σ.n,false⟩)]->(∀x,T' x=true↔T x=true\/(S s=true/\p (σ.at_ s i)=true/\σ.next (σ.at_ s i)=x))->
   nxt2 [.pointer (some ⟨b,0,none⟩),s2.v, .func (.func fid) u w,(arr b8 (2^σ.n)).v,I s, .bool (S s),s2.v,I (2^σ.n:Nat),I s,I (2^σ.k:Nat),I (W ((i:Int)+1))] h':=by
  intro T' h' K hx
  rw [aE (by omega)]
  refine hnx2 hli _ _ ⟨rfl,T',K,fun x=>?_⟩
  rw [hx,hT]
  constructor
  ·rintro (⟨s',i',q1,q⟩|⟨q1,q2,q3⟩)
   ·exact⟨s',i',by omega,q⟩
   ·exact⟨s,i,by omega,hli,q1,q2,q3⟩
  ·rintro ⟨s',i',q1,q2,q3,q4,q5⟩
   by_cases e:s'=s/\i'=i
   ·obtain⟨rfl,rfl⟩:=e
    exact .inr ⟨q3,q4,q5⟩
   ·exact .inl ⟨s',i',by omega,q2,q3,q4,q5⟩
 rw [dR]
 refine Dp (hs.mono K1.le) ok hlt hli ⟨_,rfl,?_⟩
 rw [dR]
 have hc:=aA.at_lt hlt hli
 refine ad (fun e=>?_) (fun e=>?_)
 ·refine hp _ hc h1 K1.le _ ⟨_,rfl,?_⟩
  refine ad (fun e2=>?_) (fun e2=>?_)
  ·refine dt ?_
   (refine kr_ ?_)
   obtain⟨bx,ox,hax,hx1,hx2⟩:=(hnt.mono K1.le).get hc
   refine⟨bx,ox,hax,by omega,hx1,_,hx2,?_⟩
   have hnl:=ok.next _ hc
   refine⟨b8,0,rfl,by omega,by dsimp only;omega,?_⟩
   (((with_reducible apply Kn.wr);(assumption);((focus ((repeat first|exact .head|apply Upd.tail);done)))))
   ·rw [fV];omega
   intro h2 K2 _
   rw [bK,Nat.zero_add,Int.toNat_natCast,Nat.mul_one,kw]at K2
   refine fin _ h2 K2 fun x=>?_
   by_cases ex:x=σ.next (σ.at_ s i)
   ·rw [if_pos ex];exact⟨fun _=> .inr ⟨e,e2,ex.symm⟩,fun _=>rfl⟩
   ·rw [if_neg ex]
    exact⟨fun q=> .inl q,fun q=>q.resolve_right fun q=>ex q.2.2.symm⟩
  ·exact fin T h1 K1 fun x=>⟨fun q=> .inl q,fun q=>q.resolve_right fun q=>by rw [q.2.1]at e2;cases e2⟩
 ·refine aF rfl ?_
  exact fin T h1 K1 fun x=>⟨fun q=> .inl q,fun q=>q.resolve_right fun q=>by rw [q.1]at e;cases e⟩
theorem MY {h:Hp} {s:Sl} {N:Nat} {T:Nat->Bool} {R:Value->Hp->Prop} (hT:cU h s N T) (hN:N<=1048576) (k1: ∀i:Nat,i<N->T i=true->R (I i) h) (k2:mA N T=false->R (I (-1)) h):
  gH #[s.v, .bool true] h R:=by
 apply rf
 refine uf_ ?_
 have hl:=hT.len
 rw [hl]
 refine aw N (fun i vs h'=>vs= [s.v, .bool true,I N,I i]/\h'=h/\ ∀j,j<i->T j=false) ⟨rfl,rfl,fun j hj=>by omega⟩ ?_
 rintro i _ _ next hi ⟨rfl,rfl,hj⟩ hnx
 refine⟨s,_,_,_,rfl,?_⟩
 by_cases hlt:i<N
 ·refine aK (by rw [decide_eq_true_eq];exact_mod_cast hlt) ?_
  obtain⟨b,o,ha,h1,h2⟩:=hT.get hlt
  refine⟨b,o,ha,by omega,h1,_,h2,?_⟩
  refine ad (fun e=>?_) (fun e=>?_)
  ·exact k1 i hlt (by simpa using e)
  ·rw [aE (by omega)]
   refine hnx hlt _ _ ⟨rfl,rfl,fun j hji=>?_⟩
   by_cases eq:j=i
   ·rw [eq];simpa using e
   ·exact hj j (by omega)
 ·exact aF (by rw [decide_eq_false_iff_not];omega) (k2 (nU.2 fun j hjn=>hj j (by omega)))
theorem xJ {h:Hp} {s:Sl} {N:Nat} {T:Nat->Bool} {R:Value->Hp->Prop} (hT:cU h s N T) (hN:N<=1048576) (k:R (.bool (mA N T)) h):
  d4 #[s.v, .bool true] h R:=by
 apply pI
 refine uf_ ?_
 refine MY hT hN (fun i hi e=>⟨_,rfl,?_⟩) fun e=>⟨_,rfl,?_⟩
 ·refine df ?_ k
  rw [cy.2 ⟨i,hi,e⟩,decide_eq_true_eq];omega
 ·refine df ?_ k
  rw [e];rfl
def zT (h:Hp) (s:Sl) (n m:Nat) (L:Nat->Nat->Bool):Prop:= ∃ts:List Sl,ts.length=m/\SlC h s 1 (ts.map Sl.v)/\ ∀(j:Nat) (t:Sl),ts[j]?=some t->cU h t n (L j)
theorem zT.mono {h h':Hp} {s:Sl} {n m:Nat} {L:Nat->Nat->Bool} (l:h.le h') (e:zT h s n m L):zT h' s n m L:=by
 obtain⟨ts,e1,e2,e3⟩:=e
 exact⟨ts,e1,e2.mono l,fun j t ht=>(e3 j t ht).mono l⟩
theorem zT.len {h:Hp} {s:Sl} {n m:Nat} {L:Nat->Nat->Bool} (e:zT h s n m L):s.n=m:=by
 obtain⟨ts,e1,e2,_⟩:=e
 have:=e2.2.1
 simp at this;omega
theorem zT.get {h:Hp} {s:Sl} {n m i:Nat} {L:Nat->Nat->Bool} (e:zT h s n m L) (hi:i<m):
  ∃b o t,s.a=some (Addr.mk b o none)/\(i:Int)<(s.n:Int)/\Hp.cell h b (o+Int.toNat (i:Int)*1)=some (Sl.v t)/\cU h t n (L i):=by
 have hl:=e.len
 obtain⟨ts,e1,e2,e3⟩:=e
 obtain⟨t,ht⟩: ∃t,ts[i]?=some t:=⟨_,List.getElem?_eq_getElem (by omega)⟩
 obtain⟨b,o,ha,hc⟩:=SlC.get e2 (by omega)
 refine⟨b,o,t,ha,by omega,?_,e3 i t ht⟩
 rw [Int.toNat_natCast,Nat.mul_one]
 exact hc i _ (by simp [ht])
theorem lO {h:Hp} {b:Nat} {σ:aA} {R:Value->Hp->Prop} (hs:ml h b σ) (ok:σ.Ok)
  (k: ∀s h',h.le h'->zT h' s (2^σ.n) σ.nLay σ.front->R (Sl.v s) h'):di #[.pointer (some ⟨b,0,none⟩)] h R:=by
 apply vw
 refine uf_ ?_
 have hn:=ey ok
 have h8:=ok.nle
 obtain⟨M,st,hold,bad,next,fx,_⟩:=id hs
 have K0:=Kn.nil h
 refine dt ?_
 (refine kr_ ?_)
 rw [if_neg (by omega),bU (by omega)]
 refine⟨Int.natCast_nonneg _,Int.le_refl _,by omega,by omega,?_⟩
 (with_reducible apply Kn.al);(assumption);(intro b7 h1 K1 l1 hb7)
 rw [Int.toNat_natCast,Nat.mul_one,ce,jE]at K1
 refine dt ?_
 (refine kr_ ?_)
 rw [if_neg (by omega),bU (by omega)]
 refine⟨Int.natCast_nonneg _,Int.le_refl _,by omega,by omega,?_⟩
 (with_reducible apply Kn.al);(assumption);(intro b13 h2 K2 l2 hb13)
 rw [Int.toNat_natCast,Nat.mul_one,ce,jE]at K2
 rw [Int.toNat_natCast]
 refine aw (2^σ.n) (fun i vs h'=>vs= [.pointer (some ⟨b,0,none⟩),(arr b7 (2^σ.n)).v,(arr b13 (2^σ.n)).v,I (2^σ.n:Nat),I i]/\
  ∃U,Kn h h' [(b13, .inl ⟨tb (2^σ.n) U,2^σ.n,false⟩),(b7, .inl ⟨tb (2^σ.n) fun _=>false,2^σ.n,false⟩)]/\ ∀j,j<i->U j=σ.begins j)
  ⟨rfl,_,K2,fun j hj=>by omega⟩ ?_
 clear K2 K1 K0 l1 l2 hb7 hb13 h1 h2
 rintro i _ h1 nxt hi ⟨rfl,U,K1,hU⟩ hnx
 refine⟨_,arr b7 _,arr b13 _,_,_,rfl,?_⟩
 by_cases hlt:i<2^σ.n
 ·refine aK (by rw [decide_eq_true_eq];exact_mod_cast hlt) ?_
  refine wB (hs.mono K1.le) ok hlt ⟨_,rfl,?_⟩
  refine⟨b13,0,rfl,by omega,by dsimp only;omega,?_⟩
  (((with_reducible apply Kn.wr);(assumption);((focus ((repeat first|exact .head|apply Upd.tail);done)))))
  ·rw [fV];omega
  intro h2 K2 _
  rw [bK,Nat.zero_add,Int.toNat_natCast,Nat.mul_one,kw]at K2
  rw [aE (by omega)]
  refine hnx hlt _ _ ⟨rfl,_,K2,fun j hj=>?_⟩
  by_cases e:j=i
  ·rw [if_pos e,e]
  ·rw [if_neg e];exact hU j (by omega)
 refine aF (by rw [decide_eq_false_iff_not];omega) ?_
 replace hU: ∀j,j<2^σ.n->U j=σ.front 0 j:=fun j hj=>hU j (by omega)
 clear hnx hi hlt
 refine aw (2^σ.n) (fun i vs h'=> ∃(out:Sl) (g:Hp) (bF:Nat) (F V:Nat->Bool) (ts:List Sl),vs= [.pointer (some ⟨b,0,none⟩),(arr b7 (2^σ.n)).v,(arr bF (2^σ.n)).v,out.v]/\
  h.le g/\Kn g (h'.offS out) [(bF, .inl ⟨tb (2^σ.n) F,2^σ.n,false⟩),(b7, .inl ⟨tb (2^σ.n) V,2^σ.n,false⟩)]/\Buf h' out 1 (ts.map Sl.v)/\ts.length=i/\
  (∀(j:Nat) (t:Sl),ts[j]?=some t->cU g t (2^σ.n) (σ.front j))/\(∀j,j<2^σ.n->F j=σ.front i j)/\(∀j,j<2^σ.n->V j=σ.seen i j)/\ ∀j,j<i->σ.live j=true)
  ⟨⟨none,0,0⟩,h,b13,U,_, [],rfl,Hp.le_refl _,K1,ew _ _,rfl,fun j t ht=>by simp at ht,hU,fun _ _=>rfl,fun j hj=>by omega⟩ ?_
 clear K1 hU U h1 b13
 rintro i _ h1 nxt hi ⟨out,g,bF,F,V,ts,rfl,lg,K1,hB,htl,ht,hF,hV,hlive⟩ hnx
 refine⟨_,arr b7 _,arr bF _,out,rfl,?_⟩
 have K1':=K1.mono (bk h1 out)
 have hbF:cU h1 (arr bF (2^σ.n)) (2^σ.n) (σ.front i):=jl (by omega) (K1'.at (.head _)) hF
 have hon:=hB.1
 rw [List.length_map,Nat.mul_one]at hon
 refine xJ hbF (by omega) ⟨_,rfl,?_⟩
 refine ad (fun e=>?_) (fun e=>?_)
 rotate_left
 ·have hnl:σ.nLay=i:=aA.nLay_of hlive e
  exact k out h1 (Hp.le_trans lg K1'.le) ⟨ts,by omega,hB.slc_of (by omega),fun j t hj=>(ht j t hj).mono K1'.le⟩
 have hlive': ∀j,j<i+1->σ.live j=true:=fun j hj=>by
  by_cases e2:j=i
  ·rw [e2];exact e
  ·exact hlive j (by omega)
 have hlt:i<2^σ.n:=aA.live_le hlive'
 refine ai fun b55 h2 hb55 l2 f55=>?_
 refine dk (hB.mono l2) (by omega) (by omega) (by omega) ⟨b55,0,rfl,ay f55⟩ (by simp) rfl ?_
 intro s' h3 hs'n hB' l3 _
 have K2:=K1.mono (Hp.le_trans (bJ out l2) l3)
 obtain⟨K3,K4⟩:=Kn.split (A:= [(bF, .inl ⟨tb (2^σ.n) F,2^σ.n,false⟩)]) (B:= [(b7, .inl ⟨tb (2^σ.n) V,2^σ.n,false⟩)]) K2
 have lg1:=K4.le
 have fF:=K4.at (.head _)
 generalize (h3.offS s').wo (([(b7, .inl ⟨tb (2^σ.n) V,2^σ.n,false⟩)]:List (Nat×Blk)).map Prod.fst)=g1 at*
 have lh:=Hp.le_trans lg lg1
 have lh3:=Hp.le_trans lh (Hp.le_trans K3.le (bk h3 s'))
 have tF:cU g1 (arr bF (2^σ.n)) (2^σ.n) (σ.front i):=jl (by omega) fF hF
 refine IA (hs.mono lh3) ok (tF.mono (Hp.le_trans K3.le (bk h3 s'))) (fun c hc h' l R kk=>H7 ((hs.mono lh3).mono l) hc kk) fun bN T h4 K5 hT=>⟨_,rfl,?_⟩
 have hbN:h3 bN=none:=K5.new _ (.head _)
 have K6:=K3.cons (b:=bN) (aD (bk h3 s') hbN) (bJ s' K5.le) (hB'.offS_new hbN (K5.at (.head _)))
 have hB4:=hB'.mono K5.le
 refine aw (2^σ.n) (fun x vs h'=>vs= [.pointer (some ⟨b,0,none⟩),(arr b7 (2^σ.n)).v,(arr bF (2^σ.n)).v,s'.v,(arr bN (2^σ.n)).v,I (2^σ.n:Nat),I x]/\
  ∃T V,Kn g1 (h'.offS s') [(bN, .inl ⟨tb (2^σ.n) T,2^σ.n,false⟩),(b7, .inl ⟨tb (2^σ.n) V,2^σ.n,false⟩)]/\Buf h' s' 1 (ts.map Sl.v++ [(arr bF (2^σ.n)).v])/\
   (∀j,j<2^σ.n->T j=if j<x then σ.front (i+1) j else σ.fwd σ.hold (σ.front i) j)/\ ∀j,j<2^σ.n->V j=if j<x then σ.seen (i+1) j else σ.seen i j)
  ⟨rfl,T,V,K6,hB4,fun j hj=>by rw [if_neg (by omega)];exact hT j hj,fun j hj=>by rw [if_neg (by omega)];exact hV j hj⟩ ?_
 clear K6 hB4 hT hV K5
 rintro x _ h5 nxt2 hx ⟨rfl,T,V,K,B,hT,hV⟩ hnx2
 refine⟨_,arr b7 _,arr bF _,s',arr bN _,_,_,rfl,?_⟩
 by_cases hlx:x<2^σ.n
 rotate_left
 ·refine aF (by rw [decide_eq_false_iff_not];omega) ?_
  refine hnx hlt _ _ ⟨s',g1,bN,T,V,ts++ [arr bF (2^σ.n)],rfl,lh,K,by rw [List.map_append];exact B,by simp [htl],fun j t hj=>?_,fun j hj=>by rw [hT j hj,if_pos (by omega)],
   fun j hj=>by rw [hV j hj,if_pos (by omega)],hlive'⟩
  by_cases hji:j<i
  ·rw [List.getElem?_append_left (by omega)]at hj
   exact(ht j t hj).mono lg1
  ·have hj2:=get_lt hj
   simp at hj2
   rw [List.getElem?_append_right (by omega),show j-ts.length=0 by omega]at hj
   simp at hj;subst hj
   rw [show j=i by omega];exact tF
 refine aK (by rw [decide_eq_true_eq];exact_mod_cast hlx) ?_
 refine ap (fun J=> ∀h'' V',Kn g1 (h''.offS s') [(bN, .inl ⟨tb (2^σ.n) T,2^σ.n,false⟩),(b7, .inl ⟨tb (2^σ.n) V',2^σ.n,false⟩)]->Buf h'' s' 1 (ts.map Sl.v++ [(arr bF (2^σ.n)).v])->
  (∀j,j<2^σ.n->V' j=if j<x+1 then σ.seen (i+1) j else σ.seen i j)->J h'') (fun h6 V' K6 B6 hV6=>?_) (fun J hJ=>?_)
 ·have hTx:T x=σ.fwd σ.hold (σ.front i) x:=by rw [hT x hlx,if_neg (by omega)]
  have hVx:V' x=σ.seen (i+1) x:=by rw [hV6 x hlx,if_pos (by omega)]
  have fin: ∀v h7,v=σ.front (i+1) x->Kn g1 (h7.offS s') [(bN, .inl ⟨(tb (2^σ.n) T).set x (.bool v),2^σ.n,false⟩),(b7, .inl ⟨tb (2^σ.n) V',2^σ.n,false⟩)]->Buf h7 s' 1 (ts.map Sl.v++ [(arr bF (2^σ.n)).v])->
    nxt2 [.pointer (some ⟨b,0,none⟩),(arr b7 (2^σ.n)).v,(arr bF (2^σ.n)).v,s'.v,(arr bN (2^σ.n)).v,I (2^σ.n:Nat),I (W ((x:Int)+1))] h7:=by
   intro v h7 hv K7 B7
   rw [aE (by omega)]
   rw [kw]at K7
   refine hnx2 hlx _ _ ⟨rfl,_,V',K7,B7,fun j hj=>?_,hV6⟩
   by_cases e2:j=x
   ·rw [if_pos e2,if_pos (by omega),e2];exact hv
   ·rw [if_neg e2,hT j hj]
    by_cases e3:j<x
    ·rw [if_pos e3,if_pos (by omega)]
    ·rw [if_neg e3,if_neg (by omega)]
  have K6':=K6.mono (bk h6 s')
  refine⟨bN,0,rfl,by omega,by dsimp only;omega,?_⟩
  refine Kn.rd K6' (.head _) (x:=T x) (by rw [Nat.zero_add,Nat.mul_one,Int.toNat_natCast];exact nA hlx) ?_
  refine ad (fun e2=>?_) (fun e2=>?_)
  ·refine⟨b7,0,rfl,by omega,by dsimp only;omega,?_⟩
   refine Kn.rd K6' (.tail _ (.head _)) (x:=V' x) (by rw [Nat.zero_add,Nat.mul_one,Int.toNat_natCast];exact nA hlx) ?_
   refine⟨bN,0,rfl,by omega,by dsimp only;omega,?_⟩
   (with_reducible apply Kn.wrS);(exact K6);((focus ((repeat first|exact .head|apply Upd.tail);done)))
   ·rw [fV];omega
   intro h7 K7 B7 _
   rw [bK,Nat.zero_add,Int.toNat_natCast,Nat.mul_one]at K7
   exact fin _ h7 (by rw [aA.front_succ,<-hTx,e2,hVx];rfl) K7 (B7 _ _ B6)
  ·refine⟨bN,0,rfl,by omega,by dsimp only;omega,?_⟩
   (with_reducible apply Kn.wrS);(exact K6);((focus ((repeat first|exact .head|apply Upd.tail);done)))
   ·rw [fV];omega
   intro h7 K7 B7 _
   rw [bK,Nat.zero_add,Int.toNat_natCast,Nat.mul_one]at K7
   exact fin _ h7 (by rw [aA.front_succ,<-hTx,e2];rfl) K7 (B7 _ _ B6)
 ·have hVx:V x=σ.seen i x:=by rw [hV x hlx,if_neg (by omega)]
  have fin: ∀v h7,v=σ.seen (i+1) x->Kn g1 (h7.offS s') [(bN, .inl ⟨tb (2^σ.n) T,2^σ.n,false⟩),(b7, .inl ⟨(tb (2^σ.n) V).set x (.bool v),2^σ.n,false⟩)]->Buf h7 s' 1 (ts.map Sl.v++ [(arr bF (2^σ.n)).v])->J h7:=by
   intro v h7 hv K7 B7
   rw [kw]at K7
   refine hJ h7 _ K7 B7 fun j hj=>?_
   by_cases e2:j=x
   ·rw [if_pos e2,if_pos (by omega),e2];exact hv
   ·rw [if_neg e2,hV j hj]
    by_cases e3:j<x
    ·rw [if_pos e3,if_pos (by omega)]
    ·rw [if_neg e3,if_neg (by omega)]
  have K':=K.mono (bk h5 s')
  refine⟨b7,0,rfl,by omega,by dsimp only;omega,?_⟩
  refine Kn.rd K' (.tail _ (.head _)) (x:=V x) (by rw [Nat.zero_add,Nat.mul_one,Int.toNat_natCast];exact nA hlx) ?_
  refine ad (fun e2=>?_) (fun e2=>?_)
  ·refine⟨b7,0,rfl,by omega,by dsimp only;omega,?_⟩
   (with_reducible apply Kn.wrS);(exact K);((focus ((repeat first|exact .head|apply Upd.tail);done)))
   ·rw [fV];omega
   intro h7 K7 B7 _
   rw [bK,Nat.zero_add,Int.toNat_natCast,Nat.mul_one]at K7
   exact fin _ h7 (by rw [aA.seen_succ,<-hVx,e2];rfl) K7 (B7 _ _ B)
  ·refine⟨bF,0,rfl,by omega,by dsimp only;omega,?_⟩
   refine Kn.rg K' fF (x:=F x) (by rw [Nat.zero_add,Nat.mul_one,Int.toNat_natCast];exact nA hlx) ?_
   refine⟨b7,0,rfl,by omega,by dsimp only;omega,?_⟩
   (with_reducible apply Kn.wrS);(exact K);((focus ((repeat first|exact .head|apply Upd.tail);done)))
   ·rw [fV];omega
   intro h7 K7 B7 _
   rw [bK,Nat.zero_add,Int.toNat_natCast,Nat.mul_one]at K7
   exact fin _ h7 (by rw [aA.seen_succ,<-hVx,e2,hF x hlx];rfl) K7 (B7 _ _ B)
theorem GX {h:Hp} {b4 b z s c:Nat} {σ:aA} {R:Value->Hp->Prop} (hs:ml h b σ) (f:h b4=some (.inl ⟨[.pointer (some ⟨b,0,none⟩)],z,false⟩)) (hc:c<2^(σ.n+σ.k)) (k:R (.bool (σ.ends c)) h):
  mj #[I s,I c, .pointer (some ⟨b4,0,none⟩)] h R:=by
 apply tL
 refine uf_ ?_
 (refine ax ?_)
 exact wW hs hc ⟨_,rfl,k⟩
theorem tT {h:Hp} {b:Nat} {s2:Sl} {σ:aA} {R:Value->Hp->Prop} (hs:ml h b σ) (ok:σ.Ok) (hL:zT h s2 (2^σ.n) σ.nLay σ.front) (k:R (I σ.depthI) h):
  eM #[.pointer (some ⟨b,0,none⟩),s2.v] h R:=by
 refine ACalls.drop (xG ?_)
 refine uf_ ?_
 have hn:=ey ok
 have hnl:=aA.nLay_le σ
 refine ai fun b4 h1 hb4 l1 f4=>?_
 (refine ax ?_)
 refine sK (hs.mono l1) ok (f:=fun _ c=>σ.ends c) (fun s i hs' hi h' l R kk=>GX ((hs.mono l1).mono l) (l _ _ f4) (aA.at_lt hs' hi) kk) fun t h2 l2 ht'=>⟨_,rfl,?_⟩
 have ht:=ht'.mono (sub_le h2 h1)
 have l02:=Hp.le_trans l1 l2
 have hL2:=hL.mono l02
 have hl:=hL.len
 rw [hl]
 refine aw σ.nLay (fun i vs h'=>vs= [t.v,s2.v,I σ.nLay,I i]/\h2=h'/\ ∀j,j<i->σ.hits j=false) ⟨rfl,rfl,fun j hj=>by omega⟩ ?_
 rintro i _ _ nxt hi ⟨rfl,rfl,hno⟩ hnx
 refine⟨t,s2,_,_,rfl,?_⟩
 by_cases hlt:i<σ.nLay
 rotate_left
 ·refine aF (by rw [decide_eq_false_iff_not];omega) ⟨h,l02,?_⟩
  have:σ.depth=none:=aA.find_none.2 fun j hj=>hno j (by omega)
  unfold aA.depthI at k
  rw [this]at k;exact k
 refine aK (by rw [decide_eq_true_eq];exact_mod_cast hlt) ?_
 obtain⟨bl,ol,r,ha,h3,h4,hr⟩:=hL2.get hlt
 refine⟨bl,ol,ha,by omega,h3,r,h4,?_⟩
 have hrl:=hr.len
 rw [hrl]
 refine aw (2^σ.n) (fun j vs h'=>vs= [t.v,I i,s2.v,I σ.nLay,I i,r.v,I (2^σ.n:Nat),I j]/\h2=h'/\ ∀x,x<j->(σ.front i x&&σ.endsAt x)=false) ⟨rfl,rfl,fun j hj=>by omega⟩ ?_
 rintro j _ _ nxt2 hj ⟨rfl,rfl,hno2⟩ hnx2
 refine⟨t,_,s2,_,_,r,_,_,rfl,?_⟩
 by_cases hlj:j<2^σ.n
 rotate_left
 ·refine aF (by rw [decide_eq_false_iff_not];omega) ?_
  rw [aE (by omega)]
  refine hnx hlt _ _ ⟨rfl,rfl,fun x hx=>?_⟩
  by_cases e:x=i
  ·rw [e];exact nU.2 fun y hy=>hno2 y (by omega)
  ·exact hno x (by omega)
 refine aK (by rw [decide_eq_true_eq];exact_mod_cast hlj) ?_
 have go:(σ.front i j&&σ.endsAt j)=false->nxt2 [t.v,I i,s2.v,I σ.nLay,I i,r.v,I (2^σ.n:Nat),I (W ((j:Int)+1))] h2:=fun e=>by
  rw [aE (by omega)]
  refine hnx2 hlj _ _ ⟨rfl,rfl,fun x hx=>?_⟩
  by_cases e2:x=j
  ·rw [e2];exact e
  ·exact hno2 x (by omega)
 obtain⟨br,or,har,hr1,hr2⟩:=hr.get hlj
 refine⟨br,or,har,by omega,hr1,_,hr2,?_⟩
 refine ad (fun e=>?_) (fun e=>?_)
 ·obtain⟨bt,ot,hat,ht1,ht2⟩:=ht.get hlj
  refine⟨bt,ot,hat,by omega,ht1,_,ht2,?_⟩
  have he:σ.some_ (fun _ c=>σ.ends c) j=σ.endsAt j:=rfl
  refine ad (fun e2=>?_) (fun e2=>?_)
  ·refine⟨h,l02,?_⟩
   have:σ.depth=some i:=aA.depth_some.2 ⟨cy.2 ⟨j,hlj,by rw [e,<-he,e2];rfl⟩,fun x hx=>hno x hx⟩
   unfold aA.depthI at k
   rw [this]at k;exact k
  ·exact go (by rw [<-he,e2,Bool.and_false])
 ·exact go (by rw [e];rfl)
theorem jk {h:Hp} {M:MSl} {m:aj} {R:Value->Hp->Prop} (hs:aM h M m) (hm:bT m) (k:R (I (if az m=0 then(aN m).depthI else-1)) h):gQ #[aR M] h R:=by
 refine ACalls.drop (CA ?_)
 refine uf_ ?_
 refine ai fun b7 h1 hb7 l1 f7=>?_
 repeat' (refine ax ?_)
 refine eE (hs.mono l1) hm (fun h2 l2 hc=>⟨_,_,rfl,aK rfl ⟨h,Hp.le_trans l1 l2,?_⟩⟩) (fun hc g bx h2 l2 hx=>⟨_,_,rfl,aF rfl ?_⟩)
 ·rw [if_neg hc]at k;exact k
 ·rw [if_pos hc]at k
  have ok:=gz g
  refine lO hx ok fun s h3 l3 hL=>⟨_,rfl,?_⟩
  exact tT (hx.mono l3) ok hL ⟨_,rfl,h,Hp.le_trans l1 (Hp.le_trans l2 l3),k⟩
def cL (X:List (Nat×Blk)) (s:Sl) (sz:Nat) (cs:List Value):Prop:=
 cs.length=s.n*sz/\s.n<=s.c/\((X= []/\s=⟨none,0,0⟩/\cs= [])\/ ∃b,s.a=some ⟨b,0,none⟩/\X= [(b, .inl ⟨cs,s.c*sz,false⟩)])
theorem cM (sz:Nat):cL [] ⟨none,0,0⟩ sz []:=⟨by simp,Nat.le_refl _, .inl ⟨rfl,rfl,rfl⟩⟩
theorem cL.buf {X:List (Nat×Blk)} {h:Hp} {s:Sl} {sz:Nat} {cs:List Value} (o:cL X s sz cs) (m: ∀e∈X,h e.1=some e.2):Buf h s sz cs:=by
 refine⟨o.1,o.2.1,?_⟩
 rcases o.2.2 with ⟨_,rfl,_⟩|⟨b,ha,rfl⟩
 ·exact .inl ⟨rfl,rfl,rfl⟩
 ·exact .inr ⟨b,ha,m _ (.head _)⟩
theorem Kn.perm {g h:Hp} {L L':List (Nat×Blk)} (K:Kn g h L) (p:L.Perm L'):Kn g h L':=K.sub (fun e he=>p.mem_iff.2 he) ((p.map Prod.fst).nodup_iff.1 K.nd)
theorem Kn.grow {g h:Hp} {X L:List (Nat×Blk)} {s:Sl} {sz by_ m:Nat} {cs news:List Value} {src:Option Addr} {C:Option Addr->Nat->Nat->Hp->Prop}
  (K:Kn g h (X++L)) (o:cL X s sz cs) (hm:0<m) (hsz:(s.n+m)*by_<=140737488355328) (hsz':s.n+m<=9223372036854775807)
  (hs: ∃sb so,src=some ⟨sb,so,none⟩/\ic h sb so news) (hl:news.length=m*sz) (ho:news.all (·.oneCell')=true)
  (k: ∀s' X' h',s'.n=s.n+m->cL X' s' sz (cs++news)->Kn g h' (X'++L)->(h.offS s).le h'->C s'.a s'.n s'.c h'):cf h s.a s.n s.c src m sz by_ C:=by
 refine dk (o.buf fun e he=>K.mem e (List.mem_append_left _ he)) hm hsz hsz' hs hl ho fun s' h' hn B l _=>?_
 have nd:=K.nd
 rw [List.map_append,List.nodup_append]at nd
 have base:g.le (h.offS s)/\ ∀e∈L,(h.offS s) e.1=some e.2:=by
  rcases o.2.2 with ⟨_,rfl,_⟩|⟨b,ha,rfl⟩
  ·exact⟨K.le,fun e he=>K.mem e (List.mem_append_right _ he)⟩
  ·unfold Hp.offS
   rw [ha]
   refine⟨tX (K.new (b,_) (.head _)) K.le,fun e he=>?_⟩
   have hne:e.1≠b:=fun hb=>nd.2.2 b (by simp) e.1 (List.mem_map.2 ⟨e,he,rfl⟩) hb.symm
   simp only [Hp.off,Hp.set]
   rw [if_neg hne];exact K.mem e (List.mem_append_right _ he)
 rcases B.2.2 with ⟨_,h0,_⟩|⟨b,ha,hb⟩
 ·omega
 have hoff:(h'.offS s') b=none:=by simp [Hp.offS,ha,Hp.off,Hp.set]
 refine k s' [(b, .inl ⟨cs++news,s'.c*sz,false⟩)] h' hn ⟨B.1,B.2.1, .inr ⟨b,ha,rfl⟩⟩ ?_ (Hp.le_trans l (bk h' s'))
 have lo:=bk h' s'
 have hg:g b=none:=by
  cases hgb:g b with
  |none=>rfl
  |some x=>rw [l _ _ (base.1 _ _ hgb)]at hoff;cases hoff
 refine⟨Hp.le_trans base.1 (Hp.le_trans l lo),fun e he=>?_,fun e he=>?_,?_⟩
 ·rcases List.mem_cons.1 he with rfl|he
  ·exact hb
  ·exact lo _ _ (l _ _ (base.2 e he))
 ·rcases List.mem_cons.1 he with rfl|he
  ·exact hg
  ·exact K.new e (List.mem_append_right _ he)
 ·show (b::L.map Prod.fst).Nodup
  rw [List.nodup_cons]
  refine⟨fun hm=>?_,nd.2.1⟩
  obtain⟨e,he,heb⟩:=List.mem_map.1 hm
  have:=l _ _ (base.2 e he)
  rw [heb,hoff]at this;cases this
theorem Kn.growIn {g h:Hp} {A X L:List (Nat×Blk)} {s:Sl} {sz by_ m:Nat} {cs news:List Value} {src:Option Addr} {C:Option Addr->Nat->Nat->Hp->Prop}
  (K:Kn g h (A++(X++L))) (o:cL X s sz cs) (hm:0<m) (hsz:(s.n+m)*by_<=140737488355328) (hsz':s.n+m<=9223372036854775807)
  (hs: ∃sb so,src=some ⟨sb,so,none⟩/\ic h sb so news) (hl:news.length=m*sz) (ho:news.all (·.oneCell')=true)
  (k: ∀s' X' h',s'.n=s.n+m->cL X' s' sz (cs++news)->Kn g h' (A++(X'++L))->(h.offS s).le h'->C s'.a s'.n s'.c h'):cf h s.a s.n s.c src m sz by_ C:=by
 have sw: ∀Y:List (Nat×Blk),(A++(Y++L)).Perm (Y++(A++L)):=fun Y=>by
  rw [<-List.append_assoc,<-List.append_assoc]
  exact List.perm_append_comm.append_right L
 exact Kn.grow (K.perm (sw X)) o hm hsz hsz' hs hl ho fun s' X' h' hn o' K' l=>k s' X' h' hn o' (K'.perm (sw X').symm) l
theorem Kn.growIn2 {g h:Hp} {A Y X L:List (Nat×Blk)} {s:Sl} {sz by_ m:Nat} {cs news:List Value} {src:Option Addr} {C:Option Addr->Nat->Nat->Hp->Prop}
  (K:Kn g h (A++(Y++(X++L)))) (o:cL X s sz cs) (hm:0<m) (hsz:(s.n+m)*by_<=140737488355328) (hsz':s.n+m<=9223372036854775807)
  (hs: ∃sb so,src=some ⟨sb,so,none⟩/\ic h sb so news) (hl:news.length=m*sz) (ho:news.all (·.oneCell')=true)
  (k: ∀s' X' h',s'.n=s.n+m->cL X' s' sz (cs++news)->Kn g h' (A++(Y++(X'++L)))->(h.offS s).le h'->C s'.a s'.n s'.c h'):cf h s.a s.n s.c src m sz by_ C:=by
 have sw: ∀Z:List (Nat×Blk),(A++(Y++(Z++L))).Perm (A++(Z++(Y++L))):=fun Z=>by
  refine List.Perm.append_left A ?_
  rw [<-List.append_assoc,<-List.append_assoc]
  exact List.perm_append_comm.append_right L
 exact Kn.growIn (K.perm (sw X)) o hm hsz hsz' hs hl ho fun s' X' h' hn o' K' l=>k s' X' h' hn o' (K'.perm (sw X').symm) l
theorem Kn.growIn3 {g h:Hp} {A Y Z X L:List (Nat×Blk)} {s:Sl} {sz by_ m:Nat} {cs news:List Value} {src:Option Addr} {C:Option Addr->Nat->Nat->Hp->Prop}
  (K:Kn g h (A++(Y++(Z++(X++L))))) (o:cL X s sz cs) (hm:0<m) (hsz:(s.n+m)*by_<=140737488355328) (hsz':s.n+m<=9223372036854775807)
  (hs: ∃sb so,src=some ⟨sb,so,none⟩/\ic h sb so news) (hl:news.length=m*sz) (ho:news.all (·.oneCell')=true)
  (k: ∀s' X' h',s'.n=s.n+m->cL X' s' sz (cs++news)->Kn g h' (A++(Y++(Z++(X'++L))))->(h.offS s).le h'->C s'.a s'.n s'.c h'):cf h s.a s.n s.c src m sz by_ C:=by
 have sw: ∀W:List (Nat×Blk),(A++(Y++(Z++(W++L)))).Perm (A++((Y++Z)++(W++L))):=fun W=>by rw [<-List.append_assoc Y Z]
 exact Kn.growIn2 (K.perm (sw X)) o hm hsz hsz' hs hl ho fun s' X' h' hn o' K' l=>k s' X' h' hn o' (K'.perm (sw X').symm) l
theorem cL.slc {X A L:List (Nat×Blk)} {g h:Hp} {s:Sl} {sz:Nat} {cs:List Value} (o:cL X s sz cs) (K:Kn g h (A++(X++L))) (hn:s.n<=9223372036854775807):SlC h s sz cs:=
 (o.buf fun e he=>K.mem e (List.mem_append_right _ (List.mem_append_left _ he))).slc_of hn
theorem fM.offG {X:List (Nat×Blk)} {h:Hp} {A s:Sl} {f:Nat->Bool} {n:Nat} {vs:List (List Nat)} (e:fM h s vs) (o:cL X A 1 ((List.range n).map fun i=> .bool (f i))) (m: ∀e∈X,h e.1=some e.2):fM (h.offS A) s vs:=by
 rcases o.2.2 with ⟨_,rfl,_⟩|⟨b,ha,rfl⟩
 ·exact e
 ·unfold Hp.offS
  rw [ha]
  refine e.keep (m _ (.head _)) (fun j i hj=>?_) (fun j t hj=>?_) fun c hc=>by simp [Hp.off,Hp.set,hc]
  ·simp only [List.getElem?_map,Option.map_eq_some_iff]at hj
   obtain⟨a,_,hj⟩:=hj
   cases hj
  ·simp only [List.getElem?_map,Option.map_eq_some_iff]at hj
   obtain⟨a,_,hj⟩:=hj
   cases hj
theorem fM.keepB {h h':Hp} {s:Sl} {b:Nat} {vs:List (List Nat)} (e:fM h s vs) (n: ∀o,s.a≠some (Addr.mk b o none)) (kp: ∀c,c≠b->h' c=h c) (ki: ∀o i,Hp.cell h b o=some (I i)->Hp.cell h' b o=some (I i)):fM h' s vs:=by
 have hc: ∀c o i,Hp.cell h c o=some (I i)->Hp.cell h' c o=some (I i):=fun c o i hi=>by
  by_cases e2:c=b
  ·subst e2;exact ki o i hi
  ·unfold Hp.cell at hi⊢;rw [kp c e2];exact hi
 refine⟨e.1,e.2.1,fun p hp=>?_⟩
 obtain⟨b',o,t,h1,h2,h3⟩:=e.2.2 p hp
 refine⟨b',o,t,h1,?_,h3.1,h3.2.1,h3.2.2.imp id ?_⟩
 ·have hne:b'≠b:=by rintro rfl;exact n o h1
  unfold Hp.cell at h2⊢;rw [kp b' hne];exact h2
 ·rintro ⟨c,o',ha,hcs⟩
  refine⟨c,o',ha,fun i v hv=>?_⟩
  have hvI:=hv
  rw [List.getElem?_map,Option.map_eq_some_iff]at hvI
  obtain⟨x,_,rfl⟩:=hvI
  exact hc _ _ _ (hcs i _ hv)
structure zo where
 hs:Sl
 es:Sl
 ns:Sl
 fs:Sl
 bs:Sl
abbrev Aj (σ:aA) (q:zo):List Value:= [I (2^σ.n:Nat),I (2^σ.k:Nat),q.hs.v,q.es.v,q.ns.v,q.fs.v,q.bs.v]
abbrev Df (σ:aA) (q:zo):Value:= .agg #[I (2^σ.n:Nat),I (2^σ.k:Nat),q.hs.v,q.es.v,q.ns.v,q.fs.v,q.bs.v]
def yM (h:Hp) (q:zo) (σ:aA):Prop:=cU h q.hs (2^(σ.n+σ.k)) σ.hold/\cU h q.es (2^(σ.n+σ.k)) σ.ends/\Ac h q.ns (2^(σ.n+σ.k)) σ.next/\
 (∃fm,fm+σ.fixed=2^σ.n-1/\IntS h q.fs (VL (d8 fm)))/\cU h q.bs (2^σ.n) σ.begins
theorem yM.mono {h h':Hp} {q:zo} {σ:aA} (l:h.le h') (e:yM h q σ):yM h' q σ:=by
 obtain⟨a,b,c,⟨fm,d1,d2⟩,f⟩:=e
 exact⟨a.mono l,b.mono l,c.mono l,⟨fm,d1,d2.mono l⟩,f.mono l⟩
theorem qT {α:Type} (f:Nat->α) (c:Nat):(List.range (c+1)).map f=(List.range c).map f++ [f c]:=by rw [List.range_succ,List.map_append];rfl
theorem Ms {m:aj} (g:dS m):jH m+(aN m).fixed=2^(aN m).n-1:=by
 have:=Tz m.nodes (fun p=>(cn m.nexts p).isSome) (stP m)
 have e:=fH g
 show jH m+Mg m m.nexts=2^au m.nodes 36-1
 rw [<-e,<-this,Nat.add_comm];rfl
theorem nT {h:Hp} {M:MSl} {m:aj} {R:Value->Hp->Prop} (hs:aM h M m) (hm:bT m) (hc0:az m=0)
  (k: ∀q h',h.le h'->yM h' q (aN m)->R (Df (aN m) q) h'):gf #[aR M] h R:=by
 apply Ih
 refine uf_ ?_
 have g:=cC hc0
 have hn8:=g.n8
 have hk5':=g.k5
 have ok:=gz g
 have hp8:=ey ok
 have hk5:=Bh ok
 have hp13:=pc ok
 have hnk:=aA.pow_nk (aN m)
 have K0:=Kn.nil h
 (with_reducible apply Kn.al);(assumption);(intro b7 h1 K1 l1 hb7)
 (with_reducible apply Kn.al);(assumption);(intro b9 h2 K2 l2 hb9)
 clear K0 K1 l1 hb7
 repeat' (refine kr_ ?_)
 refine fN (hs.mono K2.le) hm ⟨_,rfl,?_⟩
 repeat' (refine kr_ ?_)
 refine fN (hs.mono K2.le) hm ⟨_,rfl,?_⟩
 rw [cz (by omega),cz (by omega),if_neg (by omega),if_neg (by omega),bU (by omega),bU (by omega),show au m.nodes 36=(aN m).n from rfl,show au m.nodes 35=(aN m).k from rfl]
 repeat' (refine kr_ ?_)
 refine Ik (hs.mono K2.le) hm g fun F h3 l3 hF=>⟨_,rfl,?_⟩
 have hF':IntS (h3.wo (([(b9, .inl ⟨[I 0,I 0, .slice none 0 0, .slice none 0 0, .slice none 0 0, .slice none 0 0, .slice none 0 0],7,false⟩),(b7, .inl ⟨av M,5,false⟩)]:List (Nat×Blk)).map Prod.fst)) F (VL (d8 (jH m))):=
  SlC.mono (qL (sub_le _ _) fun b hb=>by
   cases hx:h2 b with
   |none=>exact absurd hx (K2.has b hb)
   |some x=>exact kK hx) hF
 have K3:=(K2.mono l3).base
 have lg:=(K2.mono l3).leBase
 clear hF K2
 generalize h3.wo (([(b9, .inl ⟨[I 0,I 0, .slice none 0 0, .slice none 0 0, .slice none 0 0, .slice none 0 0, .slice none 0 0],7,false⟩),(b7, .inl ⟨av M,5,false⟩)]:List (Nat×Blk)).map Prod.fst)=g3 at*
 have hs3:=hs.mono lg
 (with_reducible apply Kn.al);(assumption);(intro b38 h4 K4 l4 hb38)
 (((with_reducible apply Kn.wr);(assumption);((focus ((repeat first|exact .head|apply Upd.tail);done)))))
 ·exact Nat.le_refl _
 intro h5 K5 kp5
 simp only [cB,List.set_cons_zero,List.set_cons_succ,Nat.zero_add,Nat.reduceAdd]at K5
 clear kp5 K4 l4 hb38
 refine aw (2^((aN m).n+(aN m).k)) (fun c vs h'=> ∃(A B C:Sl) (XA XB XC:List (Nat×Blk)),vs= [.pointer (some ⟨b7,0,none⟩), .pointer (some ⟨b9,0,none⟩), .pointer (some ⟨b38,0,none⟩),I c]/\
  Kn g3 h' ((b38, .inl ⟨[I (2^(aN m).n:Nat),I (2^(aN m).k:Nat),A.v,B.v,C.v,F.v,(⟨none,0,0⟩:Sl).v],7,false⟩)::(b9, .inl ⟨[I 0,I 0, .slice none 0 0, .slice none 0 0, .slice none 0 0, .slice none 0 0, .slice none 0 0],7,false⟩)::(b7, .inl ⟨av M,5,false⟩)::(XA++(XB++(XC++ []))))/\cL XA A 1 ((List.range c).map fun i=> .bool ((aN m).hold i))/\cL XB B 1 ((List.range c).map fun i=> .bool ((aN m).ends i))/\
   cL XC C 1 ((List.range c).map fun i=>I ((aN m).next i:Nat))) ⟨⟨none,0,0⟩,⟨none,0,0⟩,⟨none,0,0⟩, [], [], [],rfl,K5,cM _,cM _,cM _⟩ ?_
 clear K5 h5
 rintro c _ h5 nxt hc ⟨A,B,C,XA,XB,XC,rfl,K,oA,oB,oC⟩ hnx
 refine⟨b7,0,b9,0,b38,0,_,rfl,?_⟩
 repeat' (refine kr_ ?_)
 have hxy:((2^(aN m).n:Nat):Int)*((2^(aN m).k:Nat):Int)=((2^((aN m).n+(aN m).k):Nat):Int):=by rw [hnk,<-Int.natCast_mul,Nat.mul_comm]
 rw [hxy,ek (by omega)]
 have hAn:A.n=c:=by have:=oA.1;simp at this;omega
 have hBn:B.n=c:=by have:=oB.1;simp at this;omega
 have hCn:C.n=c:=by have:=oC.1;simp at this;omega
 by_cases hlt:c<2^((aN m).n+(aN m).k)
 ·refine aK (by rw [decide_eq_true_eq];exact_mod_cast hlt) ?_
  repeat' (refine kr_ ?_)
  refine xW (hs3.mono K.le) hm g hlt fun t h6 l6 htn hpv hnew=>⟨t,rfl,?_⟩
  have n38: ∀o,t.a≠some (Addr.mk b38 o none):=fun o ho=>by have:=hnew _ _ ho;rw [K.at (.head _)]at this;cases this
  replace K:=K.mono l6
  have a:Az m (dc m (c%2^au m.nodes 36) (c/2^au m.nodes 36)):=eo g _ _
  have hv1:(aN m).hold c=lm m (dc m (c%2^au m.nodes 36) (c/2^au m.nodes 36)):=rfl
  have hv2:(aN m).bad c=(se m (dc m (c%2^au m.nodes 36) (c/2^au m.nodes 36))).isSome:=rfl
  have hv3:(aN m).next c=kV m (c%2^au m.nodes 36) (c/2^au m.nodes 36):=rfl
  repeat' (refine kr_ ?_)
  refine un (hs3.mono K.le) g hpv a ⟨_,rfl,?_⟩
  repeat' (refine kr_ ?_)
  rw [<-hv1]
  refine ai fun b80 h7 hb80 l7 f80=>?_
  replace K:=K.mono l7
  replace hpv:=hpv.mono l7
  refine Kn.growIn (A:= [_,_,_]) K oA (by omega) (by omega) (by omega) ⟨b80,0,rfl,ay f80⟩ rfl rfl fun A' XA' h8 hn' oA' K8 l8=>?_
  replace hpv:=(hpv.offG oA fun e he=>K.mem e (by simp [he])).mono l8
  simp only [List.cons_append,List.nil_append]at K8
  (((with_reducible apply Kn.wr);(assumption);((focus ((repeat first|exact .head|apply Upd.tail);done)))))
  ·simp
  intro h9 K9 kp9
  have f8:=K8.at (.head _)
  have f9:=K9.at (.head _)
  simp only [bK,List.set_cons_zero,List.set_cons_succ,Nat.zero_add,Nat.reduceAdd]at K9
  rw [bK]at f9
  replace hpv:=hpv.keepB n38 kp9 fun o i hi=>by
   rw [am f8]at hi
   rw [am f9,List.getElem?_set]
   by_cases e:0+2=o
   ·subst e;simp at hi
   ·rw [if_neg e];exact hi
  clear f8 f9
  refine ap (fun J=> ∀(B':Sl) (XB':List (Nat×Blk)) (h':Hp),Kn g3 h' ((b38, .inl ⟨[I (2^(aN m).n:Nat),I (2^(aN m).k:Nat),A'.v,B'.v,C.v,F.v,(⟨none,0,0⟩:Sl).v],7,false⟩)::(b9, .inl ⟨[I 0,I 0, .slice none 0 0, .slice none 0 0, .slice none 0 0, .slice none 0 0, .slice none 0 0],7,false⟩)::(b7, .inl ⟨av M,5,false⟩)::(XA'++(XB'++(XC++ []))))->cL XB' B' 1 ((List.range (c+1)).map fun i=> .bool ((aN m).ends i))->J h') (fun B' XB' h10 K10 oB'=>?_) (fun J hJ=>?_)
  ·clear K9 K8 K hpv
   have hcm:c%2^(aN m).n<=c:=Nat.mod_le _ _
   have hcd:c/2^(aN m).n<=c:=Nat.div_le_self _ _
   have hpos:=Nat.two_pow_pos (aN m).n
   repeat' (refine kr_ ?_)
   rw [if_neg (by omega)]
   repeat' (refine kr_ ?_)
   rw [if_neg (by omega),fE,show Int.tdiv (c:Int) ((2^(aN m).n:Nat):Int)=((c/2^(aN m).n:Nat):Int)from rfl,ek (by omega)]
   refine Cc (hs3.mono K10.le) hm g (by omega) (by omega) ⟨_,rfl,?_⟩
   repeat' (refine kr_ ?_)
   refine ai fun b131 h11 hb131 l11 f131=>?_
   have K11:=K10.mono l11
   repeat' (refine kr_ ?_)
   refine Kn.growIn3 (A:= [_,_,_]) K11 oC (by omega) (by omega) (by omega) ⟨b131,0,rfl,ay f131⟩ rfl rfl fun C' XC' h12 hn2 oC' K12 _=>?_
   simp only [List.cons_append,List.nil_append]at K12
   (((with_reducible apply Kn.wr);(assumption);((focus ((repeat first|exact .head|apply Upd.tail);done)))))
   ·simp
   intro h13 K13 _
   simp only [bK,List.set_cons_zero,List.set_cons_succ,Nat.zero_add,Nat.reduceAdd]at K13
   rw [aE (by omega)]
   exact hnx hlt _ _ ⟨A',B',C',XA',XB',XC',rfl,K13,by rw [qT];exact oA',oB',by rw [qT];exact oC'⟩
  ·clear K8 K
   refine ad (fun e1=>?_) (fun e1=>?_)
   ·repeat' (refine kr_ ?_)
    refine yr (hs3.mono K9.le) g hpv a ⟨_,rfl,?_⟩
    repeat' (refine kr_ ?_)
    rw [yV,<-hv2]
    refine ai fun b99 h11 hb99 l11 f99=>?_
    have K11:=K9.mono l11
    repeat' (refine kr_ ?_)
    refine Kn.growIn2 (A:= [_,_,_]) K11 oB (by omega) (by omega) (by omega) ⟨b99,0,rfl,ay f99⟩ rfl rfl fun B' XB' h12 hn2 oB' K12 _=>?_
    simp only [List.cons_append,List.nil_append]at K12
    (((with_reducible apply Kn.wr);(assumption);((focus ((repeat first|exact .head|apply Upd.tail);done)))))
    ·simp
    intro h13 K13 _
    simp only [bK,List.set_cons_zero,List.set_cons_succ,Nat.zero_add,Nat.reduceAdd]at K13
    exact hJ B' XB' h13 K13 (by rw [qT];unfold aA.ends;rw [e1];exact oB')
   ·repeat' (refine kr_ ?_)
    refine ai fun b99 h11 hb99 l11 f99=>?_
    have K11:=K9.mono l11
    repeat' (refine kr_ ?_)
    refine Kn.growIn2 (A:= [_,_,_]) K11 oB (by omega) (by omega) (by omega) ⟨b99,0,rfl,ay f99⟩ rfl rfl fun B' XB' h12 hn2 oB' K12 _=>?_
    simp only [List.cons_append,List.nil_append]at K12
    (((with_reducible apply Kn.wr);(assumption);((focus ((repeat first|exact .head|apply Upd.tail);done)))))
    ·simp
    intro h13 K13 _
    simp only [bK,List.set_cons_zero,List.set_cons_succ,Nat.zero_add,Nat.reduceAdd]at K13
    exact hJ B' XB' h13 K13 (by rw [qT];unfold aA.ends;rw [e1];exact oB')
 ·refine aF (by rw [decide_eq_false_iff_not];omega) ?_
  clear hnx
  have hce:c=2^((aN m).n+(aN m).k):=by omega
  refine aw (2^(aN m).n) (fun d vs h'=> ∃(D:Sl) (XD:List (Nat×Blk)),vs= [.pointer (some ⟨b7,0,none⟩), .pointer (some ⟨b9,0,none⟩), .pointer (some ⟨b38,0,none⟩),I d]/\
   Kn g3 h' ((b38, .inl ⟨[I (2^(aN m).n:Nat),I (2^(aN m).k:Nat),A.v,B.v,C.v,F.v,D.v],7,false⟩)::(b9, .inl ⟨[I 0,I 0, .slice none 0 0, .slice none 0 0, .slice none 0 0, .slice none 0 0, .slice none 0 0],7,false⟩)::(b7, .inl ⟨av M,5,false⟩)::(XD++(XA++(XB++(XC++ [])))))/\cL XD D 1 ((List.range d).map fun i=> .bool ((aN m).begins i))) ⟨⟨none,0,0⟩, [],rfl,K,cM _⟩ ?_
  clear K h5 hlt hc
  rintro d _ h5 nxt2 hd ⟨D,XD,rfl,K,oD⟩ hnx2
  have hDn:D.n=d:=by have:=oD.1;simp at this;omega
  refine⟨b7,0,b9,0,b38,0,_,rfl,?_⟩
  repeat' (refine kr_ ?_)
  by_cases hld:d<2^(aN m).n
  ·refine aK (by rw [decide_eq_true_eq];exact_mod_cast hld) ?_
   repeat' (refine kr_ ?_)
   refine cH (hs3.mono K.le) hm fun p h6 l6 ip=>⟨p,rfl,?_⟩
   have K6:=K.mono l6
   repeat' (refine kr_ ?_)
   refine fo (hs3.mono K6.le) hm g.ok ip (cG g 36) (ib g 36) (by omega) (by have:=fH g;show cu m.nodes (stP m)<=60;omega) fun u h7 l7 iu=>⟨u,rfl,?_⟩
   have K7:=K6.mono l7
   repeat' (refine kr_ ?_)
   refine ly (hs3.mono K7.le) hm hc0 iu (by rw [zx];exact JH _ _ _) ⟨_,rfl,?_⟩
   have hb:iR (stP m) (fC m) (gG m.nodes (aU m.nodes 36) d) (stP m).length=(aN m).begins d:=by
    rw [Bool.eq_iff_iff,nF,Ee g]
   rw [hb]
   repeat' (refine kr_ ?_)
   refine ai fun b184 h8 hb184 l8 f184=>?_
   have K8:=K7.mono l8
   repeat' (refine kr_ ?_)
   refine Kn.growIn (A:= [_,_,_]) K8 oD (by omega) (by omega) (by omega) ⟨b184,0,rfl,ay f184⟩ rfl rfl fun D' XD' h9 hn2 oD' K9 _=>?_
   simp only [List.cons_append,List.nil_append]at K9
   (((with_reducible apply Kn.wr);(assumption);((focus ((repeat first|exact .head|apply Upd.tail);done)))))
   ·simp
   intro h10 K10 _
   simp only [bK,List.set_cons_zero,List.set_cons_succ,Nat.zero_add,Nat.reduceAdd]at K10
   rw [aE (by omega)]
   exact hnx2 hld _ _ ⟨D',XD',rfl,K10,by rw [qT];exact oD'⟩
  ·have hde:d=2^(aN m).n:=by omega
   refine aF (by rw [decide_eq_false_iff_not];omega) ?_
   clear hnx2
   repeat' (refine kr_ ?_)
   (((with_reducible apply Kn.wr);(assumption);((focus ((repeat first|exact .head|apply Upd.tail);done)))))
   ·simp
   intro h6 K6 _
   simp only [cB,List.set_cons_zero,List.set_cons_succ,Nat.zero_add,Nat.reduceAdd]at K6
   repeat' (refine kr_ ?_)
   subst hce hde
   refine k ⟨A,B,C,F,D⟩ h6 (Hp.le_trans lg K6.le) ⟨?_,?_,?_,⟨jH m,Ms g,hF'.mono K6.le⟩,?_⟩
   ·have:=(oA.buf fun e he=>K6.mem e (by simp [he])).slc_of (by omega)
    unfold cU pR;rw [List.map_map];exact this
   ·have:=(oB.buf fun e he=>K6.mem e (by simp [he])).slc_of (by omega)
    unfold cU pR;rw [List.map_map];exact this
   ·have:=(oC.buf fun e he=>K6.mem e (by simp [he])).slc_of (by omega)
    unfold Ac IntS VL;rw [List.map_map,List.map_map];exact this
   ·have:=(oD.buf fun e he=>K6.mem e (by simp [he])).slc_of (by omega)
    unfold cU pR;rw [List.map_map];exact this
theorem IT {h:Hp} {s:Sl} {N:Nat} {T:Nat->Bool} {R:Value->Hp->Prop} (hT:cU h s N T) (hN:N<=1048576) (k:R (.bool (mA N T)) h):qP #[s.v] h R:=by
 apply ES
 refine uf_ ?_
 have hl:=hT.len
 refine aw N (fun i vs h'=>vs= [s.v,I i]/\h=h'/\ ∀j,j<i->T j=false) ⟨rfl,rfl,fun j hj=>by omega⟩ ?_
 rintro i _ _ next hi ⟨rfl,rfl,hj⟩ hnx
 refine⟨s,_,rfl,?_⟩
 by_cases hlt:i<N
 ·refine aK (by rw [decide_eq_true_eq];omega) ?_
  obtain⟨b,o,ha,h1,h2⟩:=hT.get hlt
  refine⟨b,o,ha,by omega,h1,_,h2,?_⟩
  refine ad (fun e=>?_) (fun e=>?_)
  ·rw [cy.2 ⟨i,hlt,e⟩]at k;exact k
  ·rw [aE (by omega)]
   refine hnx hlt _ _ ⟨rfl,rfl,fun j hji=>?_⟩
   by_cases eq:j=i
   ·rw [eq];exact e
   ·exact hj j (by omega)
 ·refine aF (by rw [decide_eq_false_iff_not];omega) ?_
  rw [nU.2 fun j hjn=>hj j (by omega)]at k;exact k
theorem AI {k f:Nat}:f∈d8 k↔f&&&k=f:=by
 unfold d8
 rw [List.mem_filter,List.mem_range,decide_eq_true_eq]
 refine⟨fun h=>h.2,fun h=>⟨?_,h⟩⟩
 have:f&&&k<=k:=Nat.and_le_right
 omega
theorem lR {σ:aA} {fm c t:Nat} (ok:σ.Ok) (hfm:fm+σ.fixed=2^σ.n-1) (hc:c<2^(σ.n+σ.k)) (ht:t<2^σ.n):σ.goes c t=true↔ ∃f,f∈d8 fm/\σ.next c+f=t:=by
 unfold aA.goes
 rw [decide_eq_true_eq,RE (y:=fm) (by omega) ok.fixed ht (ok.next c hc) (ok.held c hc)]
 constructor
 ·rintro ⟨f,h1,h2⟩;exact⟨f,AI.2 h1,h2⟩
 ·rintro ⟨f,h1,h2⟩;exact⟨f,AI.1 h1,h2⟩
theorem zD {σ:aA} {fm c f:Nat} (ok:σ.Ok) (hfm:fm+σ.fixed=2^σ.n-1) (hc:c<2^(σ.n+σ.k)) (hf:f∈d8 fm):σ.next c+f<2^σ.n:=by
 have h1:=AI.1 hf
 have h2:f&&&fm<=fm:=Nat.and_le_right
 have h3:=ok.held c hc
 have h4:σ.next c&&&σ.fixed<=σ.fixed:=Nat.and_le_right
 have:=Nat.two_pow_pos σ.n
 omega
theorem EV {h:Hp} {q:zo} {σ:aA} {s:Sl} {S:Nat->Bool} {R:Value->Hp->Prop} (hq:yM h q σ) (ok:σ.Ok) (hS:cU h s (2^σ.n) S)
  (k: ∀b' T h',Kn h h' [(b', .inl ⟨tb (2^σ.n) T,2^σ.n,false⟩)]->(∀j,j<2^σ.n->T j=σ.fwd σ.hold S j)->R (arr b' (2^σ.n)).v h'):nu #[Df σ q,s.v] h R:=by
 apply A3
 refine uf_ ?_
 have hn:=ey ok
 have hp:=pc ok
 have hpos:=Nat.two_pow_pos σ.n
 obtain⟨hh,_,hx,⟨fm,hfm,hfl⟩,_⟩:=id hq
 have hhl:=hh.len
 have hxl:=IntS.len hx
 rw [bD,List.length_map,List.length_range]at hxl
 have hfll:=IntS.len hfl
 rw [bD]at hfll
 have hfb:(d8 fm).length<=2^σ.n:=by
  have h1:(d8 fm).length<=fm+1:=by unfold d8;have:=List.length_filter_le (fun c=>decide (c&&&fm=c)) (List.range (fm+1));simpa using this
  omega
 have K0:=Kn.nil h
 (with_reducible apply Kn.al);(assumption);(intro b10 h1 K1 l1 hb10)
 (refine kr_ ?_)
 refine⟨Int.natCast_nonneg _,Int.le_refl _,by omega,by omega,?_⟩
 (with_reducible apply Kn.al);(assumption);(intro b14 h2 K2 l2 hb14)
 rw [Int.toNat_natCast,Nat.mul_one,ce,jE]at K2
 rw [Int.toNat_natCast]
 refine aw (2^(σ.n+σ.k)) (fun c vs h'=>vs= [s.v, .pointer (some ⟨b10,0,none⟩),(arr b14 (2^σ.n)).v,I c]/\
  ∃T,Kn h h' [(b14, .inl ⟨tb (2^σ.n) T,2^σ.n,false⟩),(b10, .inl ⟨Aj σ q,7,false⟩)]/\ ∀x,T x=true↔ ∃c',c'<c/\S (c'%2^σ.n)=true/\σ.hold c'=true/\ ∃f,f∈d8 fm/\σ.next c'+f=x)
  ⟨rfl,_,K2,fun x=>⟨fun e=>by simp at e,fun⟨c',e,_⟩=>by omega⟩⟩ ?_
 clear K2 K1 K0 l1 l2 hb10 hb14 h1 h2
 rintro c _ h1 nxt hc ⟨rfl,T,K1,hT⟩ hnx
 refine⟨s,b10,0,arr b14 _,_,rfl,?_⟩
 (refine kr_ ?_)
 by_cases hlt:c<2^(σ.n+σ.k)
 rotate_left
 ·refine aF (by rw [decide_eq_false_iff_not];omega) ?_
  refine k b14 T h1 (K1.sub (fun e he=>by rw [List.mem_singleton]at he;subst he;exact .head _) (by simp)) fun j hj=>?_
  rw [Bool.eq_iff_iff,hT,aA.fwd_iff]
  constructor
  ·rintro ⟨c',q1,q2,q3,q4⟩
   have hc':c'<2^(σ.n+σ.k):=by omega
   obtain⟨a1,a2,a3⟩:=aA.at_of hc'
   exact⟨c'%2^σ.n,c'/2^σ.n,a1,a2,q2,by rw [a3];exact q3,by rw [a3];exact(lR ok hfm hc' hj).2 q4⟩
  ·rintro ⟨s',i',q1,q2,q3,q4,q5⟩
   have hc':=aA.at_lt q1 q2
   exact⟨σ.at_ s' i',by omega,by rw [aA.at_mod q1];exact q3,q4,(lR ok hfm hc' hj).1 q5⟩
 refine aK (by rw [decide_eq_true_eq];omega) ?_
 have skip:(S (c%2^σ.n)&&σ.hold c)=false->nxt [s.v, .pointer (some ⟨b10,0,none⟩),(arr b14 (2^σ.n)).v,I (W ((c:Int)+1))] h1:=fun e=>by
  rw [aE (by omega)]
  refine hnx hlt _ _ ⟨rfl,T,K1,fun x=>?_⟩
  rw [hT]
  constructor
  ·rintro ⟨c',q1,q⟩;exact⟨c',by omega,q⟩
  ·rintro ⟨c',q1,q2,q3,q4⟩
   by_cases e2:c'=c
   ·rw [e2]at q2 q3;rw [q2,q3]at e;cases e
   ·exact⟨c',by omega,q2,q3,q4⟩
 rw [dR]
 (refine kr_ ?_)
 rw [if_neg (by omega),fE]
 obtain⟨b,o,ha,e1,e2⟩:=(hS.mono K1.le).get (i:=c%2^σ.n) (Nat.mod_lt _ hpos)
 refine⟨b,o,ha,by omega,e1,_,e2,?_⟩
 refine ad (fun e=>?_) (fun e=>?_)
 ·exact aK rfl (skip (by have:S (c%2^σ.n)=false:=by simpa using e
                         rw [this];rfl))
 have eS:S (c%2^σ.n)=true:=by simpa using e
 (refine kr_ ?_)
 obtain⟨b,o,ha,e1,e2⟩:=(hh.mono K1.le).get hlt
 refine⟨b,o,ha,by omega,e1,_,e2,?_⟩
 refine ad (fun e=>?_) (fun e=>?_)
 ·exact skip (by have:σ.hold c=false:=by simpa using e
                 rw [this,Bool.and_false])
 have eH:σ.hold c=true:=by simpa using e
 refine aw (d8 fm).length (fun j vs h'=>vs= [s.v, .pointer (some ⟨b10,0,none⟩),(arr b14 (2^σ.n)).v,I c,I j]/\
  ∃U,Kn h h' [(b14, .inl ⟨tb (2^σ.n) U,2^σ.n,false⟩),(b10, .inl ⟨Aj σ q,7,false⟩)]/\ ∀x,U x=true↔T x=true\/ ∃f,f∈(d8 fm).take j/\σ.next c+f=x)
  ⟨rfl,T,K1,fun x=>⟨fun q=> .inl q,fun q=>q.resolve_right fun⟨f,q1,_⟩=>by simp at q1⟩⟩ ?_
 clear skip K1
 rintro j _ h1 nxt2 hj ⟨rfl,U,K1,hU⟩ hnx2
 refine⟨s,b10,0,arr b14 _,_,_,rfl,?_⟩
 (refine kr_ ?_)
 by_cases hlj:j<(d8 fm).length
 rotate_left
 ·refine aF (by rw [decide_eq_false_iff_not];omega) ?_
  rw [aE (by omega)]
  refine hnx hlt _ _ ⟨rfl,U,K1,fun x=>?_⟩
  rw [hU,hT,List.take_of_length_le (by omega)]
  constructor
  ·rintro (⟨c',q1,q⟩|q)
   ·exact⟨c',by omega,q⟩
   ·exact⟨c,by omega,eS,eH,q⟩
  ·rintro ⟨c',q1,q2,q3,q4⟩
   by_cases e2:c'=c
   ·rw [e2]at q4;exact .inr q4
   ·exact .inl ⟨c',by omega,q2,q3,q4⟩
 refine aK (by rw [decide_eq_true_eq];omega) ?_
 (refine kr_ ?_)
 obtain⟨b,o,ha,e1,e2⟩:=Ac.get (hx.mono K1.le) hlt
 refine⟨b,o,ha,by omega,e1,_,e2,?_⟩
 (refine kr_ ?_)
 obtain⟨f,hf⟩: ∃f,(d8 fm)[j]?=some f:=⟨_,List.getElem?_eq_getElem hlj⟩
 obtain⟨b,o,ha,e3⟩:=(hfl.mono K1.le).get (fX hf)
 refine⟨b,o,ha,by omega,by omega,_,e3,?_⟩
 have hlf:=zD ok hfm hlt (List.mem_of_getElem? hf)
 rw [<-Int.natCast_add,ek (by omega)]
 refine⟨b14,0,rfl,by omega,by dsimp only;omega,?_⟩
 (((with_reducible apply Kn.wr);(assumption);((focus ((repeat first|exact .head|apply Upd.tail);done)))))
 ·rw [fV];omega
 intro h2 K2 _
 rw [bK,Nat.zero_add,Int.toNat_natCast,Nat.mul_one,kw]at K2
 rw [aE (by omega)]
 refine hnx2 hlj _ _ ⟨rfl,_,K2,fun x=>?_⟩
 rw [List.take_add_one,hf]
 by_cases ex:x=σ.next c+f
 ·rw [if_pos ex]
  exact⟨fun _=> .inr ⟨f,by simp,ex.symm⟩,fun _=>rfl⟩
 ·rw [if_neg ex,hU]
  constructor
  ·rintro (q|⟨f',q1,q2⟩)
   ·exact .inl q
   ·exact .inr ⟨f',List.mem_append_left _ q1,q2⟩
  ·rintro (q|⟨f',q1,q2⟩)
   ·exact .inl q
   ·rcases List.mem_append.1 q1 with q1|q1
    ·exact .inr ⟨f',q1,q2⟩
    ·simp at q1;subst q1;exact absurd q2.symm ex
theorem mT {h:Hp} {q:zo} {σ:aA} {R:Value->Hp->Prop} (hq:yM h q σ) (ok:σ.Ok)
  (k: ∀s h',h.le h'->zT h' s (2^σ.n) σ.nLay σ.front->R (Sl.v s) h'):gn #[Df σ q] h R:=by
 apply Bk
 refine uf_ ?_
 have hn:=ey ok
 have h8:=ok.nle
 have K0:=Kn.nil h
 (with_reducible apply Kn.al);(assumption);(intro b9 h1 K1 l1 hb9)
 (refine kr_ ?_)
 refine⟨Int.natCast_nonneg _,Int.le_refl _,by omega,by omega,?_⟩
 (with_reducible apply Kn.al);(assumption);(intro b14 h2 K2 l2 hb14)
 rw [Int.toNat_natCast,Nat.mul_one,ce,jE]at K2
 rw [Int.toNat_natCast]
 (refine kr_ ?_)
 refine aw (2^σ.n) (fun i vs h'=> ∃(out fr:Sl) (g:Hp) (V:Nat->Bool) (ts:List Sl),vs= [.pointer (some ⟨b9,0,none⟩),out.v,(arr b14 (2^σ.n)).v,fr.v]/\
  h.le g/\Kn g (h'.offS out) [(b14, .inl ⟨tb (2^σ.n) V,2^σ.n,false⟩),(b9, .inl ⟨Aj σ q,7,false⟩)]/\cU g fr (2^σ.n) (σ.front i)/\Buf h' out 1 (ts.map Sl.v)/\ts.length=i/\
  (∀(j:Nat) (t:Sl),ts[j]?=some t->cU g t (2^σ.n) (σ.front j))/\(∀j,j<2^σ.n->V j=σ.seen i j)/\ ∀j,j<i->σ.live j=true)
  ⟨⟨none,0,0⟩,q.bs,h,_, [],rfl,Hp.le_refl _,K2,hq.2.2.2.2,ew _ _,rfl,fun j t ht=>by simp at ht,fun _ _=>rfl,fun j hj=>by omega⟩ ?_
 clear K2 K1 K0 l1 l2 hb9 hb14 h1 h2
 rintro i _ h1 nxt hi ⟨out,fr,g,V,ts,rfl,lg,K1,hF,hB,htl,ht,hV,hlive⟩ hnx
 refine⟨b9,0,out,arr b14 _,fr,rfl,?_⟩
 have K1':=K1.mono (bk h1 out)
 have hbF:=hF.mono K1'.le
 have hon:=hB.1
 rw [List.length_map,Nat.mul_one]at hon
 refine IT hbF (by omega) ⟨_,rfl,?_⟩
 refine ad (fun e=>?_) (fun e=>?_)
 rotate_left
 ·have hnl:σ.nLay=i:=aA.nLay_of hlive e
  exact k out h1 (Hp.le_trans lg K1'.le) ⟨ts,by omega,hB.slc_of (by omega),fun j t hj=>(ht j t hj).mono K1'.le⟩
 have hlive': ∀j,j<i+1->σ.live j=true:=fun j hj=>by
  by_cases e2:j=i
  ·rw [e2];exact e
  ·exact hlive j (by omega)
 have hlt:i<2^σ.n:=aA.live_le hlive'
 refine ai fun b34 h2 hb34 l2 f34=>?_
 refine dk (hB.mono l2) (by omega) (by omega) (by omega) ⟨b34,0,rfl,ay f34⟩ (by simp) rfl ?_
 intro s' h3 hs'n hB' l3 _
 have K2:=K1.mono (Hp.le_trans (bJ out l2) l3)
 have K2':=K2.mono (bk h3 s')
 repeat' (refine kr_ ?_)
 refine EV (hq.mono (Hp.le_trans lg K2'.le)) ok (hF.mono K2'.le) fun bB T h4 K5 hT=>⟨_,rfl,?_⟩
 have hbB:h3 bB=none:=K5.new _ (.head _)
 have K6:=K2.cons (b:=bB) (aD (bk h3 s') hbB) (bJ s' K5.le) (hB'.offS_new hbB (K5.at (.head _)))
 have hB4:=hB'.mono K5.le
 have K6':=K6.mono (bk h4 s')
 (refine kr_ ?_)
 refine⟨Int.natCast_nonneg _,Int.le_refl _,by omega,by omega,?_⟩
 refine ai fun b53 h5 hb53 l5 f53=>?_
 rw [Int.toNat_natCast,Nat.mul_one,ce,jE]at f53
 rw [Int.toNat_natCast]
 have K7:=K6.cons (b:=b53) (aD (bk h4 s') hb53) (bJ s' l5) (hB4.offS_new hb53 f53)
 have hB5:=hB4.mono l5
 refine aw (2^σ.n) (fun x vs h'=>vs= [.pointer (some ⟨b9,0,none⟩),s'.v,(arr b14 (2^σ.n)).v,fr.v,(arr bB (2^σ.n)).v,(arr b53 (2^σ.n)).v,I x]/\
  ∃V,Kn g (h'.offS s') [(b53, .inl ⟨tb (2^σ.n) fun _=>false,2^σ.n,false⟩),(bB, .inl ⟨tb (2^σ.n) T,2^σ.n,false⟩),(b14, .inl ⟨tb (2^σ.n) V,2^σ.n,false⟩),(b9, .inl ⟨Aj σ q,7,false⟩)]/\
   Buf h' s' 1 (ts.map Sl.v++ [fr.v])/\ ∀j,j<2^σ.n->V j=if j<x then σ.seen (i+1) j else σ.seen i j)
  ⟨rfl,V,K7,hB5,fun j hj=>by rw [if_neg (by omega)];exact hV j hj⟩ ?_
 clear K7 hB5 hB4 K6 K6' K5 hV hbF K1'
 rintro x _ h6 nxt1 hx ⟨rfl,V,K,B,hV⟩ hnx1
 refine⟨b9,0,s',arr b14 _,fr,arr bB _,arr b53 _,_,rfl,?_⟩
 have K':=K.mono (bk h6 s')
 (refine kr_ ?_)
 by_cases hlx:x<2^σ.n
 ·refine aK (by rw [decide_eq_true_eq];exact_mod_cast hlx) ?_
  have hVx:V x=σ.seen i x:=by rw [hV x hlx,if_neg (by omega)]
  have fin: ∀v h7,v=σ.seen (i+1) x->Kn g (h7.offS s') [(b53, .inl ⟨tb (2^σ.n) fun _=>false,2^σ.n,false⟩),(bB, .inl ⟨tb (2^σ.n) T,2^σ.n,false⟩),(b14, .inl ⟨(tb (2^σ.n) V).set x (.bool v),2^σ.n,false⟩),(b9, .inl ⟨Aj σ q,7,false⟩)]->
    Buf h7 s' 1 (ts.map Sl.v++ [fr.v])->nxt1 [.pointer (some ⟨b9,0,none⟩),s'.v,(arr b14 (2^σ.n)).v,fr.v,(arr bB (2^σ.n)).v,(arr b53 (2^σ.n)).v,I (W ((x:Int)+1))] h7:=by
   intro v h7 hv K7 B7
   rw [aE (by omega)]
   rw [kw]at K7
   refine hnx1 hlx _ _ ⟨rfl,_,K7,B7,fun j hj=>?_⟩
   by_cases e2:j=x
   ·rw [if_pos e2,if_pos (by omega),e2];exact hv
   ·rw [if_neg e2,hV j hj]
    by_cases e3:j<x
    ·rw [if_pos e3,if_pos (by omega)]
    ·rw [if_neg e3,if_neg (by omega)]
  refine⟨b14,0,rfl,by omega,by dsimp only;omega,?_⟩
  refine Kn.rd K' (.tail _ (.tail _ (.head _))) (x:=V x) (by rw [Nat.zero_add,Nat.mul_one,Int.toNat_natCast];exact nA hlx) ?_
  refine ad (fun e2=>?_) (fun e2=>?_)
  ·refine⟨b14,0,rfl,by omega,by dsimp only;omega,?_⟩
   (with_reducible apply Kn.wrS);(exact K);((focus ((repeat first|exact .head|apply Upd.tail);done)))
   ·rw [fV];omega
   intro h7 K7 B7 _
   rw [bK,Nat.zero_add,Int.toNat_natCast,Nat.mul_one]at K7
   exact fin _ h7 (by rw [aA.seen_succ,<-hVx,e2];rfl) K7 (B7 _ _ B)
  ·obtain⟨b,o,ha,e3,e4⟩:=(hF.mono K'.le).get hlx
   refine⟨b,o,ha,by omega,e3,_,e4,?_⟩
   refine⟨b14,0,rfl,by omega,by dsimp only;omega,?_⟩
   (with_reducible apply Kn.wrS);(exact K);((focus ((repeat first|exact .head|apply Upd.tail);done)))
   ·rw [fV];omega
   intro h7 K7 B7 _
   rw [bK,Nat.zero_add,Int.toNat_natCast,Nat.mul_one]at K7
   exact fin _ h7 (by rw [aA.seen_succ,<-hVx,e2];rfl) K7 (B7 _ _ B)
 refine aF (by rw [decide_eq_false_iff_not];omega) ?_
 replace hV: ∀j,j<2^σ.n->V j=σ.seen (i+1) j:=fun j hj=>by rw [hV j hj,if_pos (by omega)]
 refine aw (2^σ.n) (fun x vs h'=>vs= [.pointer (some ⟨b9,0,none⟩),s'.v,(arr b14 (2^σ.n)).v,(arr bB (2^σ.n)).v,(arr b53 (2^σ.n)).v,I x]/\
  ∃F,Kn g (h'.offS s') [(b53, .inl ⟨tb (2^σ.n) F,2^σ.n,false⟩),(bB, .inl ⟨tb (2^σ.n) T,2^σ.n,false⟩),(b14, .inl ⟨tb (2^σ.n) V,2^σ.n,false⟩),(b9, .inl ⟨Aj σ q,7,false⟩)]/\
   Buf h' s' 1 (ts.map Sl.v++ [fr.v])/\ ∀j,j<x->F j=σ.front (i+1) j) ⟨rfl,_,K,B,fun j hj=>by omega⟩ ?_
 clear K B K' h6 hnx1 hx hlx
 rintro x _ h6 nxt1 hx ⟨rfl,F,K,B,hFx⟩ hnx1
 refine⟨b9,0,s',arr b14 _,arr bB _,arr b53 _,_,rfl,?_⟩
 have K':=K.mono (bk h6 s')
 (refine kr_ ?_)
 by_cases hlx:x<2^σ.n
 ·refine aK (by rw [decide_eq_true_eq];exact_mod_cast hlx) ?_
  have fin: ∀v h7,v=σ.front (i+1) x->Kn g (h7.offS s') [(b53, .inl ⟨(tb (2^σ.n) F).set x (.bool v),2^σ.n,false⟩),(bB, .inl ⟨tb (2^σ.n) T,2^σ.n,false⟩),(b14, .inl ⟨tb (2^σ.n) V,2^σ.n,false⟩),(b9, .inl ⟨Aj σ q,7,false⟩)]->
    Buf h7 s' 1 (ts.map Sl.v++ [fr.v])->nxt1 [.pointer (some ⟨b9,0,none⟩),s'.v,(arr b14 (2^σ.n)).v,(arr bB (2^σ.n)).v,(arr b53 (2^σ.n)).v,I (W ((x:Int)+1))] h7:=by
   intro v h7 hv K7 B7
   rw [aE (by omega)]
   rw [kw]at K7
   refine hnx1 hlx _ _ ⟨rfl,_,K7,B7,fun j hj=>?_⟩
   by_cases e2:j=x
   ·rw [if_pos e2,e2];exact hv
   ·rw [if_neg e2];exact hFx j (by omega)
  refine⟨bB,0,rfl,by omega,by dsimp only;omega,?_⟩
  refine Kn.rd K' (.tail _ (.head _)) (x:=T x) (by rw [Nat.zero_add,Nat.mul_one,Int.toNat_natCast];exact nA hlx) ?_
  refine ad (fun e2=>?_) (fun e2=>?_)
  ·refine⟨b14,0,rfl,by omega,by dsimp only;omega,?_⟩
   refine Kn.rd K' (.tail _ (.tail _ (.head _))) (x:=V x) (by rw [Nat.zero_add,Nat.mul_one,Int.toNat_natCast];exact nA hlx) ?_
   refine⟨b53,0,rfl,by omega,by dsimp only;omega,?_⟩
   (with_reducible apply Kn.wrS);(exact K);((focus ((repeat first|exact .head|apply Upd.tail);done)))
   ·rw [fV];omega
   intro h7 K7 B7 _
   rw [bK,Nat.zero_add,Int.toNat_natCast,Nat.mul_one]at K7
   exact fin _ h7 (by rw [aA.front_succ,<-hT x hlx,e2,hV x hlx];rfl) K7 (B7 _ _ B)
  ·refine⟨b53,0,rfl,by omega,by dsimp only;omega,?_⟩
   (with_reducible apply Kn.wrS);(exact K);((focus ((repeat first|exact .head|apply Upd.tail);done)))
   ·rw [fV];omega
   intro h7 K7 B7 _
   rw [bK,Nat.zero_add,Int.toNat_natCast,Nat.mul_one]at K7
   exact fin _ h7 (by rw [aA.front_succ,<-hT x hlx,e2];rfl) K7 (B7 _ _ B)
 refine aF (by rw [decide_eq_false_iff_not];omega) ?_
 obtain⟨K3,K4⟩:=Kn.split (A:= [(b53, .inl ⟨tb (2^σ.n) F,2^σ.n,false⟩),(bB, .inl ⟨tb (2^σ.n) T,2^σ.n,false⟩)]) (B:= [(b14, .inl ⟨tb (2^σ.n) V,2^σ.n,false⟩),(b9, .inl ⟨Aj σ q,7,false⟩)]) K
 have fF:=K4.at (.head _)
 refine hnx hlt _ _ ⟨s',arr b53 (2^σ.n),_,V,ts++ [fr],rfl,Hp.le_trans lg K4.le,K3,jl (by omega) fF fun j hj=>hFx j (by omega),by rw [List.map_append];exact B,by simp [htl],fun j t hj=>?_,hV,hlive'⟩
 by_cases hji:j<i
 ·rw [List.getElem?_append_left (by omega)]at hj
  exact(ht j t hj).mono K4.le
 ·have hj2:=get_lt hj
  simp at hj2
  rw [List.getElem?_append_right (by omega),show j-ts.length=0 by omega]at hj
  simp at hj;subst hj
  rw [show j=i by omega];exact hF.mono K4.le
theorem Kn.lower {g h h':Hp} {L:List (Nat×Blk)} (K:Kn h h' L) (lg:g.le h): ∃g',Kn g g' L/\g'.le h'/\ ∀c,h c≠none->g c=none->g' c=none:=by
 refine⟨fun c=>if c∈L.map Prod.fst then h' c else g c,⟨fun c x e=>?_,fun e he=>?_,fun e he=>?_,K.nd⟩,fun c x e=>?_,fun c hc hg=>?_⟩
 ·show (if _ then _ else _)=_
  split
  ·exact K.le _ _ (lg _ _ e)
  ·exact e
 ·show (if _ then _ else _)=_
  rw [if_pos (List.mem_map.2 ⟨e,he,rfl⟩)];exact K.mem e he
 ·exact aD lg (K.new e he)
 ·change (if _ then _ else _)=_ at e
  split at e
  ·exact e
  ·exact K.le _ _ (lg _ _ e)
 ·show (if _ then _ else _)=_
  split
  ·rename_i hm
   obtain⟨e,he,rfl⟩:=List.mem_map.1 hm
   exact absurd (K.new e he) hc
  ·exact hg
theorem xX {g h:Hp} {b:Nat} {s2:Sl} {σ:aA} {S:Nat->Bool} {R:Value->Hp->Prop} (lg:g.le h) (hsg:ml g b σ) (ok:σ.Ok) (hSg:cU g s2 (2^σ.n) S)
  (k: ∀w h' g',h.le h'->g.le g'->g'.le h'->(∀c,h c≠none->g c=none->g' c=none)->Cu g' ct #[] w (2^(σ.n+σ.k)) (σ.leads S)->R (.func (.func ct) #[] w) h'):cA #[.pointer (some ⟨b,0,none⟩),s2.v] h R:=by
 apply uU
 refine uf_ ?_
 have hn:=ey ok
 have hS:=hSg.mono lg
 have hl:=hS.len
 have hfx:=ok.fixed
 obtain⟨M,st,hold,bad,next,fxg,_,_,hnt⟩:=id hsg
 have fx:=lg _ _ fxg
 have K0:=Kn.nil h
 (with_reducible apply Kn.al);(assumption);(intro b4 h1 K1 l1 hb4)
 rw [hl]
 refine⟨Int.natCast_nonneg _,Int.le_refl _,by omega,by omega,?_⟩
 (with_reducible apply Kn.al);(assumption);(intro b7 h2 K2 l2 hb7)
 rw [Int.toNat_natCast,Nat.mul_one,ce,jE]at K2
 rw [Int.toNat_natCast]
 (with_reducible apply Kn.al);(assumption);(intro b9 h3 K3 l3 hb9)
 (((with_reducible apply Kn.wr);(assumption);((focus ((repeat first|exact .head|apply Upd.tail);done)))))
 ·exact Nat.le_refl _
 intro h4 K4 _
 refine aw (2^σ.n) (fun i vs h'=>vs= [.pointer (some ⟨b4,0,none⟩), .pointer (some ⟨b9,0,none⟩),s2.v,I (2^σ.n:Nat),I i]/\
  ∃T,Kn h h' [(b9, .inl ⟨[(arr b7 (2^σ.n)).v],1,false⟩),(b7, .inl ⟨tb (2^σ.n) T,2^σ.n,false⟩),(b4, .inl ⟨[.pointer (some ⟨b,0,none⟩)],1,false⟩)]/\ ∀x,T x=true↔ ∃t,t<i/\S t=true/\t&&&σ.fixed=x)
  ⟨rfl,_,K4,fun x=>⟨fun e=>by simp at e,fun⟨t,e,_⟩=>by omega⟩⟩ ?_
 clear K4 K3 K2 K1 K0 l1 l2 l3 hb4 hb7 hb9
 rintro i _ h5 nxt hi ⟨rfl,T,K,hT⟩ hnx
 refine⟨b4,0,b9,0,s2,_,_,rfl,?_⟩
 by_cases hlt:i<2^σ.n
 ·refine aK (by rw [decide_eq_true_eq];exact_mod_cast hlt) ?_
  rw [dR]
  obtain⟨bS,oS,ha,e1,e2⟩:=(hS.mono K.le).get hlt
  refine⟨bS,oS,ha,by omega,e1,_,e2,?_⟩
  have hle:i&&&σ.fixed<=i:=Nat.and_le_left
  have fin: ∀v h6,v=(T (i&&&σ.fixed)||S i)->Kn h h6 [(b9, .inl ⟨[(arr b7 (2^σ.n)).v],1,false⟩),(b7, .inl ⟨(tb (2^σ.n) T).set (i&&&σ.fixed) (.bool v),2^σ.n,false⟩),(b4, .inl ⟨[.pointer (some ⟨b,0,none⟩)],1,false⟩)]->
    nxt [.pointer (some ⟨b4,0,none⟩), .pointer (some ⟨b9,0,none⟩),s2.v,I (2^σ.n:Nat),I (W ((i:Int)+1))] h6:=by
   intro v h6 hv K6
   rw [aE (by omega)]
   rw [kw]at K6
   refine hnx hlt _ _ ⟨rfl,_,K6,fun x=>?_⟩
   by_cases e:x=i&&&σ.fixed
   ·rw [if_pos e,hv,Bool.or_eq_true,hT,e]
    constructor
    ·rintro (⟨t,q1,q2,q3⟩|q)
     ·exact⟨t,by omega,q2,q3⟩
     ·exact⟨i,by omega,q,rfl⟩
    ·rintro ⟨t,q1,q2,q3⟩
     by_cases e2:t=i
     ·subst e2;exact .inr q2
     ·exact .inl ⟨t,by omega,q2,q3⟩
   ·rw [if_neg e,hT]
    constructor
    ·rintro ⟨t,q1,q⟩;exact⟨t,by omega,q⟩
    ·rintro ⟨t,q1,q2,q3⟩
     by_cases e2:t=i
     ·subst e2;exact absurd q3.symm e
     ·exact⟨t,by omega,q2,q3⟩
  repeat' (refine kr_ ?_)
  rw [qV (by omega) (by omega)]
  refine⟨by omega,by dsimp only;omega,?_⟩
  refine Kn.rd K (.tail _ (.head _)) (x:=T (i&&&σ.fixed)) (by rw [Nat.zero_add,Nat.mul_one,Int.toNat_natCast];exact nA (by omega)) ?_
  refine ad (fun e=>?_) (fun e=>?_)
  ·refine⟨b7,0,rfl,by omega,by dsimp only;omega,?_⟩
   (((with_reducible apply Kn.wr);(assumption);((focus ((repeat first|exact .head|apply Upd.tail);done)))))
   ·rw [fV];omega
   intro h6 K6 _
   rw [bK,Nat.zero_add,Int.toNat_natCast,Nat.mul_one]at K6
   exact fin _ h6 (by rw [e];rfl) K6
  ·refine⟨b7,0,rfl,by omega,by dsimp only;omega,?_⟩
   (((with_reducible apply Kn.wr);(assumption);((focus ((repeat first|exact .head|apply Upd.tail);done)))))
   ·rw [fV];omega
   intro h6 K6 _
   rw [bK,Nat.zero_add,Int.toNat_natCast,Nat.mul_one]at K6
   exact fin _ h6 (by rw [e];rfl) K6
 refine aF (by rw [decide_eq_false_iff_not];omega) ?_
 obtain⟨g',Kg,lg',hnew⟩:=K.lower lg
 refine k _ h5 g' K.le Kg.le lg' hnew fun c hc h' l R' kk=>?_
 apply su
 refine uf_ ?_
 have K':=Kg.mono l
 clear K Kg fx hnx
 have hcn:=ok.next c hc
 repeat' (refine kr_ ?_)
 obtain⟨bx,ox,hax,e1,e2⟩:=Ac.get (hnt.mono K'.le) hc
 refine⟨bx,ox,hax,by omega,e1,_,e2,?_⟩
 refine⟨b7,0,rfl,by omega,by dsimp only;omega,?_⟩
 refine Kn.rd K' (.tail _ (.head _)) (x:=T (σ.next c)) (by rw [Nat.zero_add,Nat.mul_one,Int.toNat_natCast];exact nA (by omega)) ?_
 refine df ?_ kk
 rw [Bool.eq_iff_iff,hT]
 unfold aA.leads
 rw [cy]
 constructor
 ·rintro ⟨t,q1,q2,q3⟩
  exact⟨t,by omega,by unfold aA.goes;rw [q2,q3];simp⟩
 ·rintro ⟨t,q1,q2⟩
  unfold aA.goes at q2
  rw [Bool.and_eq_true,decide_eq_true_eq]at q2
  exact⟨t,by omega,q2.1,q2.2⟩
theorem zW {h:Hp} {b:Nat} {s2:Sl} {σ:aA} {S:Nat->Bool} {R:Value->Hp->Prop} (hs:ml h b σ) (ok:σ.Ok) (hS:cU h s2 (2^σ.n) S)
  (k: ∀w h',h.le h'->Cu h' ct #[] w (2^(σ.n+σ.k)) (σ.leads S)->R (.func (.func ct) #[] w) h'):cA #[.pointer (some ⟨b,0,none⟩),s2.v] h R:=
 xX (Hp.le_refl h) hs ok hS fun w h' g' l _ l2 _ hA=>k w h' l fun c hc h'' l' R' kk=>hA c hc h'' (Hp.le_trans l2 l') R' kk
theorem C5 {h:Hp} {b4 b z s c:Nat} {σ:aA} {R:Value->Hp->Prop} (hs:ml h b σ) (f:h b4=some (.inl ⟨[.pointer (some ⟨b,0,none⟩)],z,false⟩)) (hc:c<2^(σ.n+σ.k)) (k:R (.bool (σ.ends c)) h):
  rz #[I s,I c, .pointer (some ⟨b4,0,none⟩)] h R:=by
 apply zl
 refine uf_ ?_
 (refine ax ?_)
 exact wW hs hc ⟨_,rfl,k⟩
theorem CX {h:Hp} {b4 b5 b z z' s c:Nat} {fid:FuncId} {u w:Array Value} {σ:aA} {P:Nat->Bool} {R:Value->Hp->Prop} (hs:ml h b σ) (f:h b4=some (.inl ⟨[.pointer (some ⟨b,0,none⟩)],z,false⟩))
  (f5:h b5=some (.inl ⟨[.func (.func fid) u w],z',false⟩)) (hA:Cu h fid u w (2^(σ.n+σ.k)) P) (hc:c<2^(σ.n+σ.k)) (k:R (.bool (σ.clean c&&P c)) h):
  rF #[I s,I c, .pointer (some ⟨b4,0,none⟩), .pointer (some ⟨b5,0,none⟩)] h R:=by
 apply zQ
 refine uf_ ?_
 obtain⟨M,st,hold,bad,next,fx,hh,hb,_⟩:=hs
 (refine ax ?_)
 refine dt ?_
 (refine ax ?_)
 obtain⟨b',o',ha,h1,h2⟩:=hh.get hc
 refine⟨b',o',ha,by omega,h1,_,h2,?_⟩
 unfold aA.clean at k
 refine ad (fun e=>?_) (fun e=>?_)
 ·(refine ax ?_)
  refine dt ?_
  (refine ax ?_)
  obtain⟨b',o',ha,h1,h2⟩:=hb.get hc
  refine⟨b',o',ha,by omega,h1,_,h2,?_⟩
  refine ad (fun e2=>?_) (fun e2=>?_)
  ·refine⟨fid,u,w,by rw [am f5];rfl,?_⟩
   refine hA c hc h (Hp.le_refl _) _ ⟨_,rfl,?_⟩
   rw [e,e2]at k;exact k
  ·rw [e,e2]at k;exact k
 ·rw [e]at k;exact k
def D8 (m:aj) (x:Int):Int:=if az m=0/\1<=x/\x<=256 then(aN m).kind x.toNat else-1
def R8 (σ:aA) (n:Nat):Bool:=match σ.depth with|some d=>decide (d<n)|none=>false
theorem rq {h:Hp} {M:MSl} {m:aj} {x:Int} {R:Value->Hp->Prop} (hs:aM h M m) (hm:bT m) (k:R (I (D8 m x)) h):my #[aR M,I x] h R:=by
 refine ACalls.drop (Eb ?_)
 refine uf_ ?_
 have K0:=Kn.nil h
 (with_reducible apply Kn.al);(assumption);(intro b8 h1 K1 l1 hb8)
 repeat' (refine kr_ ?_)
 refine eE (hs.mono K1.le) hm (fun h2 l2 hc=>⟨_,_,rfl,?_⟩) (fun hc g bx h2 l2 hx=>⟨_,_,rfl,?_⟩)
 ·have K2:=K1.mono l2
  refine Kn.al K2 fun b20 h3 K3 l3 hb20=>?_
  (((with_reducible apply Kn.wr);(assumption);((focus ((repeat first|exact .head|apply Upd.tail);done)))))
  ·exact Nat.le_refl _
  intro h4 K4 _
  rw [dR]
  refine aK rfl (aK rfl ⟨h,K4.le,?_⟩)
  unfold D8 at k
  rw [if_neg fun e=>hc e.1]at k;exact k
 have ok:=gz g
 have K2:=K1.mono l2
 refine Kn.al K2 fun b20 h3 K3 l3 hb20=>?_
 (((with_reducible apply Kn.wr);(assumption);((focus ((repeat first|exact .head|apply Upd.tail);done)))))
 ·exact Nat.le_refl _
 intro h4 K4 kp4
 have hx4:ml h4 bx (aN m):=hx.mono (dy hb20 l3 kp4)
 have f20:=K4.at (.head _)
 have lh:=K4.le
 clear K4 kp4 K3 l3 hb20 K2 hx l2 h2 K1 l1 hb8 K0
 unfold D8 at k
 generalize aN m=σ at*
 have hn:=ey ok
 rw [dR]
 refine aF rfl ?_
 refine eV ⟨_,rfl,?_⟩
 refine ad (fun e=>?_) (fun e=>?_)
 ·have e': ¬(1<=x/\x<=256):=by rwa [Bool.not_eq_true',decide_eq_false_iff_not]at e
  refine⟨h,lh,?_⟩
  rw [if_neg fun q=>e' q.2]at k;exact k
 have hx1:1<=x/\x<=256:=by simpa using e
 obtain⟨n,rfl⟩: ∃n:Nat,x=n:=⟨x.toNat,by omega⟩
 rw [if_pos ⟨hc,hx1⟩,Int.toNat_natCast]at k
 repeat' (refine ax ?_)
 refine lO hx4 ok fun s h5 l5 hL=>⟨_,rfl,?_⟩
 have f205:=l5 _ _ f20
 refine⟨by rw [f205,f20],?_⟩
 refine tT (hx4.mono l5) ok hL ⟨_,rfl,?_⟩
 refine ap (fun J=>J (R8 σ n)) ?_ (fun J hJ=>?_)
 rotate_left
 ·unfold R8 at hJ
  unfold aA.depthI
  cases hd:σ.depth with
  |none=>
   rw [hd]at hJ
   exact aF (by simp) hJ
  |some d=>
   rw [hd]at hJ
   refine aK (by rw [decide_eq_true_eq];exact Int.natCast_nonneg _) ?_
   refine eR ?_ hJ
   rw [Bool.eq_iff_iff,decide_eq_true_eq,decide_eq_true_eq];exact Int.ofNat_lt
 have hkind:σ.kind n=if R8 σ n then 1 else if mA (2^σ.n) (σ.back2 n)then 2 else 0:=rfl
 rw [hkind]at k
 refine ad (fun e1=>?_) (fun e1=>?_)
 ·rw [if_pos e1]at k
  exact⟨h,Hp.le_trans lh l5,k⟩
 rw [if_neg (by rw [e1];simp)]at k
 have hx5:=hx4.mono l5
 have lh5:=Hp.le_trans lh l5
 clear hL hx4 l5 f20 lh
 (refine ax ?_)
 refine sK hx5 ok (f:=fun _ c=>σ.ends c) (fun s i hs' hi h' l R kk=>C5 (hx5.mono l) (l _ _ f205) (aA.at_lt hs' hi) kk) fun t h6 l6 ht=>⟨_,rfl,?_⟩
 replace ht:=ht.mono (sub_le h6 h5)
 refine aw n (fun i vs h'=> ∃t:Sl,vs= [.pointer (some ⟨b20,0,none⟩),t.v,I n,I i]/\h5.le h'/\cU h' t (2^σ.n) (σ.back2 i)) ⟨t,rfl,l6,ht⟩ ?_
 clear ht l6 h6 t
 rintro i _ h6 nxt hi ⟨t,rfl,l6,ht⟩ hnx
 refine⟨b20,0,t,_,_,rfl,?_⟩
 by_cases hlt:i<n
 rotate_left
 ·refine aF (by rw [decide_eq_false_iff_not];omega) ?_
  have hie:i=n:=by omega
  subst hie
  refine xJ ht (by omega) ⟨_,rfl,?_⟩
  refine ad (fun e2=>?_) (fun e2=>?_)
  ·rw [if_pos e2]at k;exact⟨h,Hp.le_trans lh5 l6,k⟩
  ·rw [if_neg (by rw [e2];simp)]at k;exact⟨h,Hp.le_trans lh5 l6,k⟩
 refine aK (by rw [decide_eq_true_eq];omega) ?_
 have K:=Kn.of l6
 (refine kr_ ?_)
 refine zW (hx5.mono l6) ok ht fun w h7 l7 hA=>⟨_,_,_,rfl,?_⟩
 have K7:=K.mono l7
 refine Kn.al K7 fun b71 h8 K8 l8 hb71=>?_
 (((with_reducible apply Kn.wr);(assumption);((focus ((repeat first|exact .head|apply Upd.tail);done)))))
 ·exact Nat.le_refl _
 intro h9 K9 kp9
 have l79:h7.le h9:=dy hb71 l8 kp9
 (refine kr_ ?_)
 refine sK (hx5.mono K9.le) ok (f:=fun _ c=>σ.clean c&&σ.leads (σ.back2 i) c) (fun s j hs' hj h' l R kk=>CX ((hx5.mono K9.le).mono l) (l _ _ (K9.le _ _ f205)) (l _ _ (K9.at (.head _)))
  (fun c hc h'' l' R' kk'=>hA c hc h'' (Hp.le_trans (Hp.le_trans l79 l) l') R' kk') (aA.at_lt hs' hj) kk) fun t' h10 l10 ht'=>⟨_,rfl,?_⟩
 rw [aE (by omega)]
 exact hnx hlt _ _ ⟨t',rfl,Hp.le_trans K9.le l10,ht'.mono (sub_le _ _)⟩
theorem cU.wo {g h h':Hp} {L:List (Nat×Blk)} {t:Sl} {n:Nat} {T:Nat->Bool} (K:Kn g h L) (e:cU (h'.sub h) t n T):cU (h'.wo (L.map Prod.fst)) t n T:=
 cU.mono (qL (sub_le _ _) fun b hb=>by
  cases hx:h b with
  |none=>exact absurd hx (K.has b hb)
  |some x=>exact kK hx) e
theorem C0 {h:Hp} {b4 z n c:Nat} {t:Sl} {T:Nat->Bool} {R:Value->Hp->Prop} (f:h b4=some (.inl ⟨[t.v],z,false⟩)) (hT:cU h t n T) (hc:c<n) (k:R (.bool (T c)) h):
  kS #[I c, .pointer (some ⟨b4,0,none⟩)] h R:=by
 apply sg
 refine uf_ ?_
 (refine ax ?_)
 obtain⟨b',o',ha,h1,h2⟩:=hT.get hc
 exact⟨b',o',ha,by omega,h1,_,h2,k⟩
theorem pD {h:Hp} {b:Nat} {t:Sl} {σ:aA} {T:Nat->Bool} {R:Value->Hp->Prop} (hs:ml h b σ) (ok:σ.Ok) (hT:cU h t (2^σ.n) T)
  (k: ∀s h',h.le h'->Own (h'.sub h) s 3 (cd (dp σ.n T).ns)->R (Fh (dp σ.n T) s) h'):eY #[.pointer (some ⟨b,0,none⟩),t.v] h R:=by
 apply uK
 refine uf_ ?_
 have K0:=Kn.nil h
 (with_reducible apply Kn.al);(assumption);(intro b4 h1 K1 l1 hb4)
 (with_reducible apply Kn.al);(assumption);(intro b6 h2 K2 l2 hb6)
 have f4:=K2.at (.tail _ (.head _))
 refine F0 (hs.mono K2.le) ok (fun i hi h' l R kk=>C0 (l _ _ f4) ((hT.mono K2.le).mono l) hi kk) fun s h3 l3 o3=>⟨_,_,_,_,rfl,?_⟩
 have K3:=K2.mono l3
 (((with_reducible apply Kn.wr);(assumption);((focus ((repeat first|exact .head|apply Upd.tail);done)))))
 ·exact Nat.le_refl _
 intro h4 K4 kp
 refine⟨_,by rw [am (K4.at (.head _))];rfl,_,by rw [am (K4.at (.head _))];rfl,_,by rw [am (K4.at (.head _))];rfl,?_⟩
 exact k s h4 K4.le (o3.mono (fS K2.le (K2.at (.head _)) kp))
theorem ur {h:Hp} {n:Nat} {R:Value->Hp->Prop} (hn:n<=16) (k:R (I n) h):jV #[I (2^n:Nat)] h R:=by
 apply EK
 refine uf_ ?_
 refine aw n (fun i vs h'=>vs= [I (2^n:Nat),I i]/\h=h') ⟨rfl,rfl⟩ ?_
 rintro i _ _ nxt hi ⟨rfl,rfl⟩ hnx
 refine⟨_,_,rfl,?_⟩
 rw [cz (by omega),if_neg (by omega),bU (by omega)]
 by_cases hlt:i<n
 ·have:=Nat.pow_lt_pow_right (a:=2) (by omega) hlt
  refine aK (by rw [decide_eq_true_eq];exact_mod_cast this) ?_
  rw [aE (by omega)]
  exact hnx hlt _ _ ⟨rfl,rfl⟩
 ·have hie:i=n:=by omega
  subst hie
  exact aF (by simp) k
theorem Tt {n:Nat} (hn:n<=8) (f:Nat->Bool):(dp n f).ok=true:=by
 have h1:=tq n f 0 []
 have h2:=Nat.pow_le_pow_right (n:=2) (by omega) hn
 have h3: ¬600<(mkD n f 0 []).2.length:=by simp at h1 h2;omega
 unfold dp q8
 rw [if_pos (by omega),Int.toNat_natCast,if_neg h3]
def g9 (m:aj):Bd:=if az m=0 then dp (aN m).n (aN m).reach else iq
def nC (m:aj):Int:=if az m=0 then((aN m).nLay:Int)-1 else 0
abbrev I9 (B:Bd) (l:Int) (s:Sl):Value:= .tuple #[.agg #[I B.v,s.v,I B.r],I l, .bool B.ok]
theorem D0 {h:Hp} {b:Nat} {t:Sl} {σ:aA} {R:Value->Hp->Prop} (hs:ml h b σ) (ok:σ.Ok) (hL:zT h t (2^σ.n) σ.nLay σ.front)
  (k: ∀b' T h',Kn h h' [(b', .inl ⟨tb (2^σ.n) T,2^σ.n,false⟩)]->(∀j,j<2^σ.n->T j=σ.reach j)->R (arr b' (2^σ.n)).v h'):ir #[.pointer (some ⟨b,0,none⟩),t.v] h R:=by
 apply xu
 refine uf_ ?_
 have hn:=ey ok
 have h8:=ok.nle
 have hl:=hL.len
 have hnl:=aA.nLay_le σ
 obtain⟨M,st,hold,bad,next,fx,_⟩:=id hs
 have K0:=Kn.nil h
 refine dt ?_
 (refine kr_ ?_)
 rw [if_neg (by omega),bU (by omega)]
 refine⟨Int.natCast_nonneg _,Int.le_refl _,by omega,by omega,?_⟩
 (with_reducible apply Kn.al);(assumption);(intro b8 h1 K1 l1 hb8)
 rw [Int.toNat_natCast,Nat.mul_one,ce,jE]at K1
 rw [Int.toNat_natCast,hl]
 refine aw σ.nLay (fun i vs h'=>vs= [(arr b8 (2^σ.n)).v,t.v,I σ.nLay,I i]/\
  ∃T,Kn h h' [(b8, .inl ⟨tb (2^σ.n) T,2^σ.n,false⟩)]/\ ∀j,j<2^σ.n->T j=σ.seen i j) ⟨rfl,_,K1,fun j hj=>rfl⟩ ?_
 clear K1 K0 l1 hb8 h1
 rintro i _ h1 nxt hi ⟨rfl,T,K1,hT⟩ hnx
 refine⟨arr b8 _,t,_,_,rfl,?_⟩
 by_cases hlt:i<σ.nLay
 rotate_left
 ·refine aF (by rw [decide_eq_false_iff_not];omega) ?_
  exact k b8 T h1 K1 fun j hj=>by rw [hT j hj,show i=σ.nLay by omega];rfl
 refine aK (by rw [decide_eq_true_eq];exact_mod_cast hlt) ?_
 obtain⟨bl,ol,r',ha,h3,h4,hr'⟩:=hL.get hlt
 refine⟨bl,ol,ha,by omega,by omega,r',K1.le.cell h4,?_⟩
 have hrl:=hr'.len
 rw [hrl]
 refine aw (2^σ.n) (fun j vs h'=>vs= [(arr b8 (2^σ.n)).v,t.v,I σ.nLay,I i,r'.v,I (2^σ.n:Nat),I j]/\
  ∃T,Kn h h' [(b8, .inl ⟨tb (2^σ.n) T,2^σ.n,false⟩)]/\ ∀x,x<2^σ.n->T x=if x<j then σ.seen (i+1) x else σ.seen i x) ⟨rfl,T,K1,fun x hx=>by rw [if_neg (by omega)];exact hT x hx⟩ ?_
 clear hT K1 T h4 ha h3 h1
 rintro j _ h1 nxt2 hj ⟨rfl,T,K1,hT⟩ hnx2
 refine⟨arr b8 _,t,_,_,r',_,_,rfl,?_⟩
 by_cases hlj:j<2^σ.n
 rotate_left
 ·refine aF (by rw [decide_eq_false_iff_not];omega) ?_
  rw [aE (by omega)]
  exact hnx hlt _ _ ⟨rfl,T,K1,fun x hx=>by rw [hT x hx,if_pos (by omega)]⟩
 refine aK (by rw [decide_eq_true_eq];exact_mod_cast hlj) ?_
 obtain⟨br,or,har,hr1,hr2⟩:=(hr'.mono K1.le).get hlj
 refine⟨br,or,har,by omega,hr1,_,hr2,?_⟩
 refine⟨b8,0,rfl,by omega,by dsimp only;omega,?_⟩
 refine Kn.rd K1 (.head _) (x:=T j) (by rw [Nat.zero_add,Nat.mul_one,Int.toNat_natCast];exact nA hlj) ?_
 have fin: ∀v h7,v=σ.seen (i+1) j->Kn h h7 [(b8, .inl ⟨(tb (2^σ.n) T).set j (.bool v),2^σ.n,false⟩)]->
   nxt2 [(arr b8 (2^σ.n)).v,t.v,I σ.nLay,I i,r'.v,I (2^σ.n:Nat),I (W ((j:Int)+1))] h7:=by
  intro v h7 hv K7
  rw [aE (by omega)]
  rw [kw]at K7
  refine hnx2 hlj _ _ ⟨rfl,_,K7,fun x hx=>?_⟩
  by_cases e2:x=j
  ·rw [if_pos e2,if_pos (by omega),e2];exact hv
  ·rw [if_neg e2,hT x hx]
   by_cases e3:x<j
   ·rw [if_pos e3,if_pos (by omega)]
   ·rw [if_neg e3,if_neg (by omega)]
 have hTj:T j=σ.seen i j:=by rw [hT j hlj,if_neg (by omega)]
 refine ad (fun e=>?_) (fun e=>?_)<;>refine⟨b8,0,rfl,by omega,by dsimp only;omega,?_⟩<;>(((with_reducible apply Kn.wr);(assumption);((focus ((repeat first|exact .head|apply Upd.tail);done)))))
 ·rw [fV];omega
 ·intro h7 K7 _
  rw [bK,Nat.zero_add,Int.toNat_natCast,Nat.mul_one]at K7
  exact fin _ h7 (by rw [aA.seen_succ,<-hTj,e];rfl) K7
 ·rw [fV];omega
 ·intro h7 K7 _
  rw [bK,Nat.zero_add,Int.toNat_natCast,Nat.mul_one]at K7
  exact fin _ h7 (by rw [aA.seen_succ,<-hTj,e];rfl) K7
theorem ln {h:Hp} {M:MSl} {m:aj} {R:Value->Hp->Prop} (hs:aM h M m) (hm:bT m)
  (k: ∀s h',h.le h'->Own (h'.sub h) s 3 (cd (g9 m).ns)->R (I9 (g9 m) (nC m) s) h'):fQ #[aR M] h R:=by
 apply Cv
 refine uf_ ?_
 unfold g9 nC at k
 have K0:=Kn.nil h
 (with_reducible apply Kn.al);(assumption);(intro b7 h1 K1 l1 hb7)
 (with_reducible apply Kn.al);(assumption);(intro b9 h2 K2 l2 hb9)
 repeat' (refine kr_ ?_)
 refine aX (hs.mono K2.le) hm ⟨_,rfl,?_⟩
 refine ad (fun e=>?_) (fun e=>?_)
 ·rw [if_neg (gp e),if_neg (gp e)]at k
  (((with_reducible apply Kn.wr);(assumption);((focus ((repeat first|exact .head|apply Upd.tail);done)))))
  ·exact Nat.le_refl _
  intro h3 K3 _
  refine⟨_,by rw [am (K3.at (.head _))];rfl,⟨none,0,0⟩,by rw [am (K3.at (.head _))];rfl,_,by rw [am (K3.at (.head _))];rfl,?_⟩
  exact k ⟨none,0,0⟩ h3 K3.le (k7 _ _)
 have hc:=eZ e
 rw [if_pos hc,if_pos hc]at k
 have ok:=gz (cC hc)
 repeat' (refine kr_ ?_)
 refine nT (hs.mono K2.le) hm hc fun q h3 l3 hq=>⟨_,_,_,_,_,_,_,rfl,?_⟩
 have K3:=K2.mono l3
 have hok:=Tt ok.nle (aN m).reach
 simp only [I9,hok]at k
 generalize aN m=σ at*
 have hn:=ey ok
 have hnl:=aA.nLay_le σ
 refine Kn.al K3 fun b43 h4 K4 l4 hb43=>?_
 refine kw_ ?_
 intro h5 K5 kp5
 simp only [cB,List.set_cons_zero,List.set_cons_succ,Nat.zero_add,Nat.reduceAdd]at K5
 have hq5:=hq.mono (dy hb43 l4 kp5)
 clear K4 K3 kp5
 repeat' (refine kr_ ?_)
 refine mT hq5 ok fun L h6 l6 hL=>⟨_,rfl,?_⟩
 have K6:=K5.mono l6
 have hll:=hL.len
 repeat' (refine kr_ ?_)
 refine⟨Int.natCast_nonneg _,Int.le_refl _,by omega,by omega,?_⟩
 have f43:=K6.at (.head _)
 (with_reducible apply Kn.al);(exact Kn.nil h6);(intro b61 h7 K7 l7 hb61)
 rw [Int.toNat_natCast,Nat.mul_one,ce,jE]at K7
 rw [Int.toNat_natCast]
 clear K5 K1 K0 K2 hb61
 refine aw σ.nLay (fun i vs h'=>vs= [.pointer (some ⟨b9,0,none⟩), .pointer (some ⟨b43,0,none⟩),L.v,(arr b61 (2^σ.n)).v,I i]/\
  ∃T,Kn h6 h' [(b61, .inl ⟨tb (2^σ.n) T,2^σ.n,false⟩)]/\
   ∀j,j<2^σ.n->T j=σ.seen i j) ⟨rfl,_,K7,fun j hj=>rfl⟩ ?_
 clear K7 l7 h7
 rintro i _ h7 nxt hi ⟨rfl,T,K7,hT⟩ hnx
 refine⟨b9,0,b43,0,L,arr b61 _,_,rfl,?_⟩
 by_cases hlt:i<σ.nLay
 ·refine aK (by rw [decide_eq_true_eq];omega) ?_
  obtain⟨bl,ol,r',ha,h3',h4',hr'⟩:=hL.get hlt
  refine aw (2^σ.n) (fun j vs h'=>vs= [.pointer (some ⟨b9,0,none⟩), .pointer (some ⟨b43,0,none⟩),L.v,(arr b61 (2^σ.n)).v,I i,I j]/\
   ∃T,Kn h6 h' [(b61, .inl ⟨tb (2^σ.n) T,2^σ.n,false⟩)]/\
    ∀x,x<2^σ.n->T x=if x<j then σ.seen (i+1) x else σ.seen i x) ⟨rfl,T,K7,fun x hx=>by rw [if_neg (by omega)];exact hT x hx⟩ ?_
  clear hT K7 T h7
  rintro j _ h7 nxt2 hj ⟨rfl,T,K7,hT⟩ hnx2
  refine⟨b9,0,b43,0,L,arr b61 _,_,_,rfl,?_⟩
  (refine kr_ ?_)
  by_cases hlj:j<2^σ.n
  rotate_left
  ·refine aF (by rw [decide_eq_false_iff_not];omega) ?_
   rw [aE (by omega)]
   exact hnx hlt _ _ ⟨rfl,T,K7,fun x hx=>by rw [hT x hx,if_pos (by omega)]⟩
  refine aK (by rw [decide_eq_true_eq];omega) ?_
  have hTj:T j=σ.seen i j:=by rw [hT j hlj,if_neg (by omega)]
  refine ap (fun J=> ∀h8,Kn h6 h8 [(b61, .inl ⟨(tb (2^σ.n) T).set j (.bool (σ.seen (i+1) j)),2^σ.n,false⟩)]->J h8) (fun h8 K8=>?_) (fun J hJ=>?_)
  ·rw [aE (by omega)]
   rw [kw]at K8
   refine hnx2 hlj _ _ ⟨rfl,_,K8,fun x hx=>?_⟩
   by_cases e2:x=j
   ·rw [if_pos e2,if_pos (by omega),e2]
   ·rw [if_neg e2,hT x hx]
    by_cases e3:x<j
    ·rw [if_pos e3,if_pos (by omega)]
    ·rw [if_neg e3,if_neg (by omega)]
  have fin: ∀v h8,v=σ.seen (i+1) j->Kn h6 h8 [(b61, .inl ⟨(tb (2^σ.n) T).set j (.bool v),2^σ.n,false⟩)]->J h8:=fun v h8 hv K8=>hJ h8 (hv▸K8)
  refine⟨b61,0,rfl,by omega,by dsimp only;omega,?_⟩
  refine Kn.rd K7 (.head _) (x:=T j) (by rw [Nat.zero_add,Nat.mul_one,Int.toNat_natCast];exact nA hlj) ?_
  refine ad (fun e=>?_) (fun e=>?_)
  ·refine⟨b61,0,rfl,by omega,by dsimp only;omega,?_⟩
   (((with_reducible apply Kn.wr);(assumption);((focus ((repeat first|exact .head|apply Upd.tail);done)))))
   ·rw [fV];omega
   intro h8 K8 _
   rw [bK,Nat.zero_add,Int.toNat_natCast,Nat.mul_one]at K8
   exact fin _ h8 (by rw [aA.seen_succ,<-hTj,e];rfl) K8
  ·refine⟨bl,ol,ha,by omega,by omega,r',K7.le.cell h4',?_⟩
   obtain⟨br,or,har,hr1,hr2⟩:=(hr'.mono K7.le).get hlj
   refine⟨br,or,har,by omega,hr1,_,hr2,?_⟩
   refine⟨b61,0,rfl,by omega,by dsimp only;omega,?_⟩
   (((with_reducible apply Kn.wr);(assumption);((focus ((repeat first|exact .head|apply Upd.tail);done)))))
   ·rw [fV];omega
   intro h8 K8 _
   rw [bK,Nat.zero_add,Int.toNat_natCast,Nat.mul_one]at K8
   exact fin _ h8 (by rw [aA.seen_succ,<-hTj,e];rfl) K8
 ·refine aF (by rw [decide_eq_false_iff_not];omega) ?_
  repeat' (refine kr_ ?_)
  refine ur (by have:=ok.nle;omega) ⟨_,rfl,?_⟩
  refine AZ (by have:=ok.nle;omega) (jl (by omega) (K7.at (.head _)) fun j hj=>(by rw [hT j hj,show i=σ.nLay by omega];rfl:T j=σ.reach j)) fun s h8 l8 o8=>⟨_,_,_,_,rfl,?_⟩
  have K67:=K6.mono K7.le
  have K8:=K67.mono l8
  refine Kn.al K8 fun b129 h9 K9 l9 hb129=>?_
  refine kw_ ?_
  intro h10 K10 kp10
  rw [hok]
  refine aF rfl ?_
  repeat' (refine kr_ ?_)
  refine kw_ ?_
  intro h11 K11 kp11
  refine⟨_,by rw [am (K11.at (.tail _ (.tail _ (.head _))))];rfl,_,by rw [am (K11.at (.tail _ (.tail _ (.head _))))];rfl,_,by rw [am (K11.at (.tail _ (.tail _ (.head _))))];rfl,?_⟩
  rw [hll,ca (by omega) (by omega)]
  exact k s h11 K11.le (o8.mono (Hp.le_trans (oZ h7 (dy hb129 l9 kp10)) (fS K67.le (K67.at (.tail _ (.head _))) kp11)))
theorem Nh {h:Hp} {b c t:Nat} {σ:aA} {R:Value->Hp->Prop} (hs:ml h b σ) (ok:σ.Ok) (hc:c<2^(σ.n+σ.k)) (ht:t<2^σ.n) (k:R (.bool (σ.goes c t)) h):
  kz #[.pointer (some ⟨b,0,none⟩),I c,I t] h R:=by
 apply xH
 refine uf_ ?_
 obtain⟨M,st,hold,bad,next,fx,_,_,hn⟩:=hs
 have h8:=ey ok
 have hf:=ok.fixed
 have hn':=ok.next c hc
 refine dt (dt ?_)
 repeat' (refine ax ?_)
 obtain⟨b',o',ha,h1,h2⟩:=Ac.get hn hc
 refine⟨b',o',ha,by omega,h1,_,h2,?_⟩
 rw [qV (by omega) (by omega)]
 refine df ?_ k
 unfold aA.goes
 rw [Bool.eq_iff_iff,decide_eq_true_eq,beq_iff_eq];omega
theorem Dd {h:Hp} {b4 b z s c:Nat} {σ:aA} {R:Value->Hp->Prop} (hs:ml h b σ) (f:h b4=some (.inl ⟨[.pointer (some ⟨b,0,none⟩)],z,false⟩)) (hc:c<2^(σ.n+σ.k)) (k:R (.bool (σ.ends c)) h):
  kU #[I s,I c, .pointer (some ⟨b4,0,none⟩)] h R:=by
 apply sk
 refine uf_ ?_
 (refine ax ?_)
 exact wW hs hc ⟨_,rfl,k⟩
theorem CR {h:Hp} {b4 b5 b z z' s c:Nat} {fid:FuncId} {u w:Array Value} {σ:aA} {P:Nat->Bool} {R:Value->Hp->Prop} (hs:ml h b σ) (f:h b4=some (.inl ⟨[.pointer (some ⟨b,0,none⟩)],z,false⟩))
  (f5:h b5=some (.inl ⟨[.func (.func fid) u w],z',false⟩)) (hA:Cu h fid u w (2^(σ.n+σ.k)) P) (hc:c<2^(σ.n+σ.k)) (k:R (.bool (σ.hold c&&P c)) h):
  kW #[I s,I c, .pointer (some ⟨b4,0,none⟩), .pointer (some ⟨b5,0,none⟩)] h R:=by
 apply r6
 refine uf_ ?_
 obtain⟨M,st,hold,bad,next,fx,hh,hb,_⟩:=hs
 (refine ax ?_)
 refine dt ?_
 (refine ax ?_)
 obtain⟨b',o',ha,h1,h2⟩:=hh.get hc
 refine⟨b',o',ha,by omega,h1,_,h2,?_⟩
 refine ad (fun e=>?_) (fun e=>?_)
 ·refine⟨fid,u,w,by rw [am f5];rfl,?_⟩
  refine hA c hc h (Hp.le_refl _) _ ⟨_,rfl,?_⟩
  rw [e]at k;exact k
 ·rw [e]at k;exact k
theorem Cs {h:Hp} {b4 b5 b z z' c:Nat} {fid:FuncId} {u w:Array Value} {σ:aA} {P:Nat->Bool} {R:Value->Hp->Prop} (hs:ml h b σ) (f:h b4=some (.inl ⟨[.pointer (some ⟨b,0,none⟩)],z,false⟩))
  (f5:h b5=some (.inl ⟨[.func (.func fid) u w],z',false⟩)) (hA:Cu h fid u w (2^(σ.n+σ.k)) P) (hc:c<2^(σ.n+σ.k)) (k:R (.bool (σ.hold c&&P c)) h):
  kX #[I c, .pointer (some ⟨b4,0,none⟩), .pointer (some ⟨b5,0,none⟩)] h R:=by
 apply rJ
 refine uf_ ?_
 obtain⟨M,st,hold,bad,next,fx,hh,hb,_⟩:=hs
 (refine ax ?_)
 refine dt ?_
 (refine ax ?_)
 obtain⟨b',o',ha,h1,h2⟩:=hh.get hc
 refine⟨b',o',ha,by omega,h1,_,h2,?_⟩
 refine ad (fun e=>?_) (fun e=>?_)
 ·refine⟨fid,u,w,by rw [am f5];rfl,?_⟩
  refine hA c hc h (Hp.le_refl _) _ ⟨_,rfl,?_⟩
  rw [e]at k;exact k
 ·rw [e]at k;exact k
theorem Db {h:Hp} {b4 b5 b z z' c t:Nat} {σ:aA} {R:Value->Hp->Prop} (hs:ml h b σ) (ok:σ.Ok) (f:h b4=some (.inl ⟨[.pointer (some ⟨b,0,none⟩)],z,false⟩))
  (f5:h b5=some (.inl ⟨[I c],z',false⟩)) (hc:c<2^(σ.n+σ.k)) (ht:t<2^σ.n) (k:R (.bool (σ.goes c t)) h):
  kY #[I t, .pointer (some ⟨b4,0,none⟩), .pointer (some ⟨b5,0,none⟩)] h R:=by
 apply sy
 refine uf_ ?_
 repeat' (refine ax ?_)
 exact Nh hs ok hc ht ⟨_,rfl,k⟩
theorem cL.toOwn {g h:Hp} {A X L:List (Nat×Blk)} {s:Sl} {sz:Nat} {cs:List Value} (o:cL X s sz cs) (hn:s.n<=9223372036854775807) (K:Kn g h (A++(X++L))): ∃X',pw X' s sz cs/\Kn g h (A++(X'++L)):=by
 by_cases h0:s.n=0
 ·refine⟨[],⟨o.1,hn, .inl ⟨h0,rfl⟩⟩,K.sub (fun e he=>?_) ?_⟩
  ·rcases List.mem_append.1 he with he|he
   ·exact List.mem_append_left _ he
   ·exact List.mem_append_right _ (List.mem_append_right _ he)
  ·have nd:=K.nd
   rw [List.map_append,List.map_append]at nd
   rw [List.nil_append,List.map_append]
   exact nd.sublist (List.Sublist.append_left (List.sublist_append_right _ _) _)
 ·rcases o.2.2 with ⟨_,rfl,_⟩|⟨b,ha,rfl⟩
  ·exact absurd rfl h0
  ·exact⟨_,⟨o.1,hn, .inr ⟨h0,b,_,ha,rfl⟩⟩,K⟩
theorem HO {g h h':Hp} {L:List (Nat×Blk)} (K:Kn g h L):(h'.sub h).le (h'.wo (L.map Prod.fst)):=by
 intro c x e
 have hn:h c=none:=kL (by rw [e];simp)
 rw [rA fun hm=>K.has c hm hn]
 exact sub_le _ _ _ _ e
def TrX (h h':Hp) (sS sI:Sl) (l:List (Nat×Nat)):Prop:=
 ∃XS XI,pw XS sS 1 ((VL (l.map Prod.fst)).map I)/\pw XI sI 1 ((VL (l.map Prod.snd)).map I)/\Kn h h' (XS++XI)
def kj (σ:aA) (k:Nat) (fits:Nat->Bool):Nat:=aA.leastB (2^σ.n) fun s=>fits s&&σ.ahead k s
def uR (σ:aA) (k s:Nat):Nat:=aA.leastB (2^σ.k) fun x=>σ.onB k (σ.at_ s x)
theorem cL.at {X:List (Nat×Blk)} {h:Hp} {s t:Sl} {ts:List Sl} {i:Nat} (o:cL X s 1 (ts.map Sl.v)) (m: ∀e∈X,h e.1=some e.2) (hi:ts[i]?=some t):
  ∃b x,s.a=some ⟨b,0,none⟩/\h b=some x/\Hp.cell h b (0+i*1)=some t.v:=by
 have hlt:=get_lt hi
 rcases o.2.2 with ⟨_,_,h0⟩|⟨b,ha,rfl⟩
 ·have:ts.length=0:=by have:=congrArg List.length h0;simpa using this
  omega
 ·have hb:=m _ (.head _)
  refine⟨b,_,ha,hb,?_⟩
  rw [am hb,Nat.zero_add,Nat.mul_one,List.getElem?_map,hi];rfl
theorem VM {h:Hp} {b b4 bl:Nat} {r:Sl} {x4 xl:Blk} {σ:aA} {S:Nat->Bool} {J:Nat->Hp->Prop} (hs:ml h b σ) (ok:σ.Ok) (hr:cU h r (2^σ.n) S) (f4:h b4=some x4) (fl:h bl=some xl)
  (hJ: ∀bc h' w,h.le h'->h' bc=some (.inl ⟨[.func (.func ct) #[] w],1,false⟩)->Cu h' ct #[] w (2^(σ.n+σ.k)) (σ.leads S)->J bc h'):
  (cA #[.pointer (some ⟨b,0,none⟩),r.v] h fun v36 h37=> ∃(f38:FuncId) (u39 w40:Array Value),v36=(.func (.func f38) u39 w40)/\(∀b41:Nat,h37 b41=none->co (h37.row b41 [.nilFunc] 1) fun h42=>h42 bl=h bl/\(h42 b4=h b4/\
   (∃(cs43:List Value) (z44:Nat),h42 b41=some (.inl ⟨cs43,z44,false⟩)/\0+1<=List.length cs43/\co (h42.row b41 (cB cs43 0 [(.func (.func f38) u39 w40)]) z44) fun h45=>J b41 h45))))/\
  (∀b46:Nat,h b46=none->co (h.row b46 [.nilFunc] 1) fun h47=>h47 bl=h bl/\(h47 b4=h b4/\(cA #[.pointer (some ⟨b,0,none⟩),r.v] h47 fun v48 h49=> ∃(f50:FuncId) (u51 w52:Array Value),v48=(.func (.func f50) u51 w52)/\
   (∃(cs53:List Value) (z54:Nat),h49 b46=some (.inl ⟨cs53,z54,false⟩)/\0+1<=List.length cs53/\co (h49.row b46 (cB cs53 0 [(.func (.func f50) u51 w52)]) z54) fun h55=>J b46 h55)))):=by
 refine⟨?_,?_⟩
 ·refine zW hs ok hr fun w h4 l4 hA=>⟨_,_,_,rfl,?_⟩
  refine ai fun b41 h5 hb41 l5 f41=>?_
  have l35:=Hp.le_trans l4 l5
  refine⟨(l35 _ _ fl).trans fl.symm,(l35 _ _ f4).trans f4.symm,?_⟩
  (with_reducible apply bZ);(exact f41);(exact l5);(exact hb41);(exact Nat.le_refl 1)
  intro h6 f6 kp l6
  exact hJ b41 h6 w (Hp.le_trans l4 l6) f6 fun c hc h'' l' R' kk'=>hA c hc h'' (Hp.le_trans l6 l') R' kk'
 ·refine ai fun b46 h4 hb46 l4 f46=>⟨(l4 _ _ fl).trans fl.symm,(l4 _ _ f4).trans f4.symm,?_⟩
  refine xX l4 hs ok hr fun w h5 g' l5 lg lg' hno hA=>⟨_,_,_,rfl,?_⟩
  have hg46:=hno b46 (by rw [f46];simp) hb46
  (with_reducible apply bZ);(exact l5 _ _ f46);(exact Hp.le_trans l4 l5);(exact hb46);(exact Nat.le_refl 1)
  intro h6 f6 kp l6
  have l56:g'.le h6:=fun c x e=>by
   have hne:c≠b46:=by rintro rfl;rw [hg46]at e;cases e
   rw [kp c hne];exact lg' _ _ e
  exact hJ b46 h6 w l6 f6 fun c hc h'' l' R' kk'=>hA c hc h'' (Hp.le_trans l56 l') R' kk'
theorem WP {h g h1 h5:Hp} {b6 b73:Nat} {y:Blk} {sS sI:Sl} {XS XI:List (Nat×Blk)} {pre:List (Nat×Nat)} (lg:h.le g) (h6:g b6≠none) (oS:cL XS sS 1 ((VL (pre.map Prod.fst)).map I)) (oI:cL XI sI 1 ((VL (pre.map Prod.snd)).map I))
  (nS:sS.n<=9223372036854775807) (nI:sI.n<=9223372036854775807) (K:Kn g h1 ((b73,y)::(XS++(XI++ [])))) (l5:h.le h5) (kp: ∀c,c≠b6->h5 c=h1 c):TrX h h5 sS sI pre:=by
 obtain⟨XS',oS',K6⟩:=oS.toOwn nS (A:= [_]) (L:=XI++ []) K
 rw [<-List.append_assoc]at K6
 obtain⟨XI',oI',K7⟩:=oI.toOwn nI K6
 rw [List.append_nil,List.append_assoc]at K7
 have nd:=K7.nd
 have hm: ∀e∈XS'++XI',e∈ [(b73,y)]++(XS'++XI'):=fun e he=>List.mem_append_right _ he
 refine⟨XS',XI',oS',oI',l5,fun e he=>?_,fun e he=>?_,?_⟩
 ·have hne:e.1≠b6:=by
   intro e6
   have h1:=K7.new e (hm e he)
   rw [e6]at h1;exact h6 h1
  rw [kp _ hne];exact K7.mem e (hm e he)
 ·exact aD lg (K7.new e (hm e he))
 ·rw [List.map_append,List.nodup_append]at nd
  exact nd.2.1
set_option maxHeartbeats 2000000 in
theorem Aq {h:Hp} {b d:Nat} {σ:aA} {R:Value->Hp->Prop} (hs:ml h b σ) (ok:σ.Ok) (hd:d<=256) (hw: ∃s,s<2^σ.n/\(σ.begins s&&σ.ahead d s)=true)
  (k: ∀sS sI h',TrX h h' sS sI (σ.wit d σ.begins)->R (.agg #[Sl.v sS,Sl.v sI]) h'):gF #[.pointer (some ⟨b,0,none⟩),I d] h R:=by
 apply uQ
 refine uf_ ?_
 have hn:=ey ok
 have hk:=Bh ok
 have K0:=Kn.nil h
 (with_reducible apply Kn.al);(assumption);(intro b4 h1 K1 l1 hb4)
 (with_reducible apply Kn.al);(assumption);(intro b6 h2 K2 l2 hb6)
 have f4:=K2.at (.tail _ (.head _))
 have f6:=K2.at (.head _)
 have hs2:=hs.mono K2.le
 (refine kr_ ?_)
 refine sK hs2 ok (f:=fun _ c=>σ.ends c) (fun s i hs' hi h' l R kk=>Dd (hs2.mono l) (l _ _ f4) (aA.at_lt hs' hi) kk) fun t0 h3 l3 ht0'=>⟨_,rfl,?_⟩
 have ht0:cU h3 t0 (2^σ.n) (σ.ahead 0):=ht0'.mono (sub_le _ _)
 (with_reducible apply Kn.al);(exact Kn.nil h3);(intro b13 h4 K4 l4 hb13)
 refine aw d (fun i vs h'=> ∃(out:Sl) (ts:List Sl) (X:List (Nat×Blk)) (g:Hp),vs= [I d, .pointer (some ⟨b4,0,none⟩), .pointer (some ⟨b6,0,none⟩),out.v,I d,I i]/\h2.le g/\cL X out 1 (ts.map Sl.v)/\
  ts.length=i+1/\Kn g h' X/\ ∀(j:Nat) (t:Sl),ts[j]?=some t->cU g t (2^σ.n) (σ.ahead j))
  ⟨arr b13 1, [t0],_,h3,rfl,l3,⟨rfl,Nat.le_refl _, .inr ⟨b13,rfl,rfl⟩⟩,rfl,K4,fun j t hj=>?_⟩ ?_
 ·cases j with
  |zero=>simp at hj;subst hj;exact ht0
  |succ j=>simp at hj
 clear K4 l4 hb13 h4 ht0 ht0' l3 h3 t0 b13
 rintro i _ h3 nxt hi ⟨out,ts,X,g,rfl,lg,oX,htl,K,hT⟩ hnx
 have hon:=oX.1
 rw [List.length_map,Nat.mul_one]at hon
 refine⟨_,b4,0,b6,0,out,_,_,rfl,?_⟩
 have f4g:=lg _ _ f4
 have f6g:=lg _ _ f6
 have hsg:=hs2.mono lg
 by_cases hlt:i<d
 ·refine aK (by rw [decide_eq_true_eq];exact_mod_cast hlt) ?_
  obtain⟨t,hti⟩: ∃t,ts[i]?=some t:=⟨_,List.getElem?_eq_getElem (by omega)⟩
  have hTi:=hT i t hti
  have hW:W ((out.n:Int)-1)=(i:Nat):=by rw [ca (by omega) (by omega)];omega
  refine ap (fun J=> ∀bc h4 w,h3.le h4->h4 bc=some (.inl ⟨[.func (.func ct) #[] w],1,false⟩)->Cu h4 ct #[] w (2^(σ.n+σ.k)) (σ.leads (σ.ahead i))->J bc 0 h4)
   (fun bc h4 w l34 fc hA=>?_) (fun J hJ=>?_)
  ·have K4:=K.mono l34
   have hs4:=hsg.mono K4.le
   have f44:=K4.le _ _ f4g
   (refine kr_ ?_)
   refine sK hs4 ok (f:=fun _ c=>σ.hold c&&σ.leads (σ.ahead i) c) (fun s j hs' hj h' l R kk=>CR (hs4.mono l) (l _ _ f44) (l _ _ fc)
    (fun c hc h'' l' R' kk'=>hA c hc h'' (Hp.le_trans l l') R' kk') (aA.at_lt hs' hj) kk) fun t' h5 l5 ht'=>⟨_,rfl,?_⟩
   refine ai fun b64 h6 hb64 l6 f64=>?_
   have K6:=K4.mono (Hp.le_trans l5 l6)
   have hnew:cU (h6.wo (X.map Prod.fst)) t' (2^σ.n) (σ.ahead (i+1)):=ht'.mono (Hp.le_trans (oZ h4 l6) (HO K4))
   have lB:=K6.leBase
   have KB:=K6.base
   generalize h6.wo (X.map Prod.fst)=g6 at*
   rw [show X=X++ []from(List.append_nil _).symm]at KB
   refine Kn.grow KB oX (by omega) (by omega) (by omega) ⟨b64,0,rfl,ay f64⟩ rfl rfl fun out' X' h7 hn' oX' K7 l7=>?_
   rw [aE (by omega)]
   rw [List.append_nil]at K7
   refine hnx hlt _ _ ⟨out',ts++ [t'],X',g6,rfl,Hp.le_trans lg lB,by rw [List.map_append];exact oX',by simp [htl],K7,fun j u hj=>?_⟩
   by_cases e:j<ts.length
   ·rw [List.getElem?_append_left e]at hj
    exact(hT j u hj).mono lB
   ·have h1:=get_lt hj
    simp at h1
    rw [List.getElem?_append_right (by omega),show j-ts.length=0 by omega]at hj
    simp at hj;subst hj
    rw [show j=i+1 by omega];exact hnew
  ·rw [hW]
   obtain⟨bo,xo,hao,hbo,hco⟩:=oX.at (fun e he=>K.mem e he) hti
   refine⟨bo,0,hao,by omega,by omega,?_⟩
   (refine kr_ ?_)
   refine⟨t,by rw [Int.toNat_natCast];exact hco,?_⟩
   exact VM (J:=fun bc h=>J bc 0 h) (hsg.mono K.le) ok (hTi.mono K.le) (K.le _ _ f4g) hbo hJ
 have hie:i=d:=by omega
 subst hie
 refine aF (by simp) ?_
 have hL:zT h3 out (2^σ.n) (i+1) σ.ahead:=⟨ts,htl,(oX.buf fun e he=>K.mem e he).slc_of (by omega),fun j t hj=>(hT j t hj).mono K.le⟩
 have lG:=Hp.le_trans lg K.le
 clear hT K hsg f6g f4g oX hnx hlt hi lg htl hon X g ts
 have f4G:=lG _ _ f4
 have hsG:=hs2.mono lG
 (with_reducible apply Kn.al);(exact Kn.nil h3);(intro b73 h4 K4 l4 hb73)
 (refine kr_ ?_)
 refine nJ (i+1) (fun m vs h'=> ∃(g:Hp) (pre:List (Nat×Nat)) (fid:FuncId) (u w:Array Value) (fits:Nat->Bool) (sS sI:Sl) (XS XI:List (Nat×Blk)),
  vs= [.pointer (some ⟨b4,0,none⟩), .pointer (some ⟨b6,0,none⟩),out.v, .pointer (some ⟨b73,0,none⟩), .func (.func fid) u w,I ((m:Int)-1)]/\h3.le g/\Kn g h' ((b73, .inl ⟨[sS.v,sI.v],2,false⟩)::(XS++(XI++ [])))/\
  cL XS sS 1 ((VL (pre.map Prod.fst)).map I)/\cL XI sI 1 ((VL (pre.map Prod.snd)).map I)/\pre.length+m=i+1/\Cu g fid u w (2^σ.n) fits/\(m=0->pre=σ.wit i σ.begins)/\
  ∀k',m=k'+1->pre++σ.wit k' fits=σ.wit i σ.begins/\ ∃s,s<2^σ.n/\(fits s&&σ.ahead k' s)=true)
  ⟨h3, [],jN, #[.pointer (some ⟨b,0,none⟩)], #[],σ.begins,⟨none,0,0⟩,⟨none,0,0⟩, [], [],by rw [show (((i+1:Nat):Int)-1)=i by omega],Hp.le_refl _,K4,cM 1,cM 1,by simp,fun c hc h' l R' kk=>wB (hsG.mono l) ok hc kk,
   fun e=>by omega,fun k' e=>by obtain rfl:k'=i:=by omega
                                exact⟨rfl,hw⟩⟩ ?_
 clear K4 l4 hb73 h4
 rintro m _ h4 nxt ⟨g,pre,fid,u,w,fits,sS,sI,XS,XI,rfl,lg,K,oS,oI,hpl,hA,hz,hsc⟩ hnx
 refine⟨b4,0,b6,0,out,b73,0,fid,u,w,_,rfl,?_⟩
 have f4g:=lg _ _ f4G
 have hsg:=hsG.mono lg
 have hpl1:=oS.1
 have hpl2:=oI.1
 simp only [List.length_map,bD,Nat.mul_one]at hpl1 hpl2
 cases m with
 |zero=>
  refine aF (by rw [decide_eq_false_iff_not];omega) ?_
  (refine kr_ ?_)
  (refine kr_ ?_)
  have K2':=K2.mono (Hp.le_trans lG (Hp.le_trans lg K.le))
  (with_reducible apply Kn.wr);(exact K2');((focus ((repeat first|exact .head|apply Upd.tail);done)))
  ·exact Nat.le_refl _
  intro h5 K5 kp
  refine⟨sS,by rw [am (K5.at (.head _))];rfl,sI,by rw [am (K5.at (.head _))];rfl,?_⟩
  refine k sS sI h5 ?_
  rw [<-hz rfl]
  exact WP (Hp.le_trans K2.le (Hp.le_trans lG lg)) (by rw [lg _ _ (lG _ _ f6)];simp) oS oI (by omega) (by omega) K K5.le kp
 |succ k=>
 rename_i kf
 obtain⟨hwit,hex⟩:=hsc k rfl
 have hki:k<=i:=by omega
 have hk1:(((k+1:Nat):Int)-1)=k:=by omega
 rw [hk1]
 refine aK (by rw [decide_eq_true_eq];omega) ?_
 obtain⟨hs0,hfit,hno⟩:=aA.leastB_at hex
 rw [show aA.leastB (2^σ.n) (fun s=>fits s&&σ.ahead k s)=kj σ k fits from rfl]at hs0 hfit hno
 obtain⟨hx0,hon,hnx0⟩:=aA.leastB_at (aA.ahead_on.1 (by simp only [Bool.and_eq_true]at hfit;exact hfit.2))
 rw [show aA.leastB (2^σ.k) (fun x=>σ.onB k (σ.at_ (kj σ k fits) x))=uR σ k (kj σ k fits)from rfl]at hx0 hon hnx0
 have hwk: ∀Z,(∀k',k=k'+1->Z=σ.wit k' (σ.goes (σ.at_ (kj σ k fits) (uR σ k (kj σ k fits)))))->(k=0->Z= [])->σ.wit k fits=(kj σ k fits,uR σ k (kj σ k fits))::Z:=by
  intro Z h1 h2
  cases k with
  |zero=>rw [h2 rfl];rfl
  |succ k'=>rw [h1 k' rfl];rfl
 generalize kj σ k fits=s0 at*
 generalize uR σ k s0=x0 at*
 refine aw s0 (fun j vs h'=>vs= [.pointer (some ⟨b4,0,none⟩), .pointer (some ⟨b6,0,none⟩),out.v, .pointer (some ⟨b73,0,none⟩), .func (.func fid) u w,I k,I j]/\h4=h') ⟨rfl,rfl⟩ ?_
 rintro j _ _ nxt2 hj ⟨rfl,rfl⟩ hnx2
 refine⟨b4,0,b6,0,out,b73,0,fid,u,w,_,_,rfl,?_⟩
 refine ap (fun J=>J (!(fits j&&σ.ahead k j)) h4) ?_ (fun J hJ=>?_)
 rotate_left
 ·refine hA j (by omega) h4 K.le _ ⟨_,rfl,?_⟩
  refine ad (fun e=>?_) (fun e=>?_)
  ·rw [show fits j=false by simpa using e]at hJ;exact hJ
  ·rw [show fits j=true by simpa using e,Bool.true_and]at hJ
   obtain⟨bl,ol,r,ha,h3',h4',hr⟩:=hL.get (show k<i+1 by omega)
   have l34:=Hp.le_trans lg K.le
   refine⟨bl,ol,ha,by omega,by omega,r,l34.cell h4',?_⟩
   obtain⟨br,or,har,hr1,hr2⟩:=(hr.mono l34).get (show j<2^σ.n by omega)
   exact⟨br,or,har,by omega,hr1,_,hr2,hJ⟩
 by_cases hlt:j<s0
 ·refine aK (by rw [hno j hlt];rfl) ?_
  rw [aE (by omega)]
  exact hnx2 hlt _ _ ⟨rfl,rfl⟩
 obtain rfl:j=s0:=by omega
 refine aF (by rw [hfit];rfl) ?_
 (refine kr_ ?_)
 clear hnx2 hlt hno hj
 refine ap (fun J=> ∀fid u w h5,h4.le h5->Cu h5 fid u w (2^(σ.n+σ.k)) (σ.onB k)->J fid u w h5) (fun fid2 u2 w2 h5 l45 hA2=>?_) (fun J hJ=>?_)
 rotate_left
 ·have hs4:=hsg.mono K.le
  cases k with
  |zero=>exact aF rfl (hJ _ _ _ h4 (Hp.le_refl _) fun c hc h'' l' R' kk=>wW (hs4.mono l') hc kk)
  |succ k'=>
   refine aK (by rw [decide_eq_true_eq];omega) ?_
   obtain⟨bl,ol,r,ha,h3',h4',hr⟩:=hL.get (show k'<i+1 by omega)
   have hW:W (((k'+1:Nat):Int)-1)=(k':Nat):=by rw [ca (by omega) (by omega)];omega
   rw [hW]
   refine⟨bl,ol,ha,by omega,by omega,?_⟩
   (refine kr_ ?_)
   have l34:=Hp.le_trans lg K.le
   have hc4:=l34.cell h4'
   refine⟨r,hc4,?_⟩
   obtain⟨xl,hxl⟩: ∃xl,h4 bl=some xl:=by
    unfold Hp.cell at hc4
    split at hc4
    ·rename_i x hx;exact⟨_,hx⟩
    ·cases hc4
   refine VM (J:=fun bc h=>J rZ #[] #[.pointer (some ⟨b4,0,none⟩), .pointer (some ⟨bc,0,none⟩)] h) hs4 ok (hr.mono l34) (K.le _ _ f4g) hxl fun bc h5 w l45 fc hA2=>?_
   exact hJ _ _ _ h5 l45 fun c hc h'' l' R' kk=>Cs ((hs4.mono l45).mono l') (l' _ _ (l45 _ _ (K.le _ _ f4g))) (l' _ _ fc) (fun c hc h3 l3 R3 k3=>hA2 c hc h3 (Hp.le_trans l' l3) R3 k3) hc kk
 have KA:=K.mono l45
 clear K hA
 have hs5:=hsg.mono KA.le
 refine aw x0 (fun i vs h'=>vs= [.pointer (some ⟨b4,0,none⟩), .pointer (some ⟨b6,0,none⟩),out.v, .pointer (some ⟨b73,0,none⟩),I k,I j, .func (.func fid2) u2 w2,I i]/\h5=h') ⟨rfl,rfl⟩ ?_
 rintro x _ _ nxt3 hx ⟨rfl,rfl⟩ hnx3
 refine⟨b4,0,b6,0,out,b73,0,_,_,fid2,u2,w2,_,rfl,?_⟩
 have hat:=aA.at_lt hs0 (show x<2^σ.k by omega)
 (refine kr_ ?_)
 refine Dp hs5 ok hs0 (by omega) ⟨_,rfl,?_⟩
 refine hA2 _ hat h5 (Hp.le_refl _) _ ⟨_,rfl,?_⟩
 by_cases hlt:x<x0
 ·refine aK (by rw [hnx0 x hlt];rfl) ?_
  rw [aE (by omega)]
  exact hnx3 hlt _ _ ⟨rfl,rfl⟩
 obtain rfl:x=x0:=by omega
 refine aF (by rw [hon];rfl) ?_
 clear hnx3 hlt hnx0 hx
 (refine kr_ ?_)
 refine Kn.al KA fun b194 h6 K6 l6 hb194=>?_
 have f194:=K6.at (.head _)
 refine Kn.growIn (A:= [_,_]) K6 oS (by omega) (by omega) (by omega) ⟨b194,0,rfl,ay f194⟩ rfl rfl fun sS' XS' h7 hnS oS' K7 l7=>?_
 simp only [List.cons_append,List.nil_append]at K7
 clear K6 l6 hb194 f194 KA
 (((with_reducible apply Kn.wr);(assumption);((focus ((repeat first|exact .head|apply Upd.tail);done)))))
 ·simp
 intro h8 K8 _
 simp only [bK,List.set_cons_zero,List.set_cons_succ,Nat.zero_add,Nat.reduceAdd]at K8
 clear K7 l7
 (refine kr_ ?_)
 refine Kn.al K8 fun b205 h9 K9 l9 hb205=>?_
 have f205:=K9.at (.head _)
 refine Kn.growIn2 (A:= [_,_,_]) K9 oI (by omega) (by omega) (by omega) ⟨b205,0,rfl,ay f205⟩ rfl rfl fun sI' XI' h10 hnI oI' K10 l10=>?_
 simp only [List.cons_append,List.nil_append]at K10
 clear K9 l9 hb205 f205 K8
 (((with_reducible apply Kn.wr);(assumption);((focus ((repeat first|exact .head|apply Upd.tail);done)))))
 ·simp
 intro h11 K11 _
 simp only [bK,List.set_cons_zero,List.set_cons_succ,Nat.zero_add,Nat.reduceAdd]at K11
 clear K10 l10
 (refine kr_ ?_)
 refine Dp (hsg.mono K11.le) ok hs0 hx0 ⟨_,rfl,?_⟩
 refine Kn.al K11 fun b219 h12 K12 l12 hb219=>?_
 (((with_reducible apply Kn.wr);(assumption);((focus ((repeat first|exact .head|apply Upd.tail);done)))))
 ·exact Nat.le_refl _
 intro h13 K13 _
 clear K12 l12 hb219 K11
 have nd:=K13.nd
 have KS:Kn g h13 ([(b219, .inl ⟨[I (σ.at_ j x:Nat)],1,false⟩)]++((b73, .inl ⟨[sS'.v,sI'.v],2,false⟩)::(XS'++(XI'++ [])))):=by
  refine K13.sub (fun e he=>?_) ?_
  ·rcases List.mem_append.1 he with he|he
   ·rw [List.mem_singleton.1 he];exact .head _
   ·exact .tail _ (.tail _ (.tail _ he))
  ·simp only [List.map_cons,List.nodup_cons,List.mem_cons,not_or,List.cons_append,List.nil_append]at nd⊢
   exact⟨⟨nd.1.2.2.1,nd.1.2.2.2⟩,nd.2.2.2⟩
 obtain⟨KM,KF⟩:=Kn.split KS
 generalize h13.wo (List.map Prod.fst ((b73,Sum.inl ⟨[sS'.v,sI'.v],2,false⟩)::(XS'++(XI'++ [])):List (Nat×Blk)))=g' at*
 rw [ca (by omega) (by omega)]
 refine hnx k (by omega) _ _ ⟨g',pre++ [(j,x)],_,_,_,σ.goes (σ.at_ j x),sS',sI',XS',XI',rfl,Hp.le_trans lg KF.le,KM,by simpa [VL] using oS',by simpa [VL] using oI',by simp;omega,
  fun c hc h'' l' R' kk=>Db ((hsg.mono KF.le).mono l') ok (l' _ _ (KF.le _ _ f4g)) (l' _ _ (KF.at (.head _))) (aA.at_lt hs0 hx0) hc kk,fun e=>?_,fun k' e=>⟨?_,?_⟩⟩
 ·rw [<-hwit,hwk [] (fun k' e'=>by omega) fun _=>rfl]
 ·rw [<-hwit,hwk _ (fun k'' e'=>by obtain rfl:k''=k':=by omega
                                   rfl) fun e'=>by omega,List.append_assoc];rfl
 ·subst e
  exact aA.onB_next hon
def TrG (h h':Hp) (sS sI:Sl) (l:List (Nat×Nat)):Prop:=
 ∃XS XI,cL XS sS 1 ((VL (l.map Prod.fst)).map I)/\cL XI sI 1 ((VL (l.map Prod.snd)).map I)/\Kn h h' (XS++(XI++ []))
theorem TrG.nil {h h':Hp} (l:h.le h'):TrG h h' ⟨none,0,0⟩ ⟨none,0,0⟩ []:=⟨[], [],cM 1,cM 1,Kn.of l⟩
theorem TrG.up {h g h1 h5:Hp} {b6:Nat} {sS sI:Sl} {l:List (Nat×Nat)} (t:TrG g h1 sS sI l) (lg:h.le g) (h6:g b6≠none) (l5:h.le h5) (kp: ∀c,c≠b6->h5 c=h1 c):TrG h h5 sS sI l:=by
 obtain⟨XS,XI,oS,oI,K⟩:=t
 refine⟨XS,XI,oS,oI,l5,fun e he=>?_,fun e he=>aD lg (K.new e he),K.nd⟩
 have hne:e.1≠b6:=by
  intro e6
  have h1:=K.new e he
  rw [e6]at h1;exact h6 h1
 rw [kp _ hne];exact K.mem e he
theorem TrG.tr {h h':Hp} {sS sI:Sl} {l:List (Nat×Nat)} (t:TrG h h' sS sI l) (hl:l.length<=1000000):TrX h h' sS sI l:=by
 obtain⟨XS,XI,oS,oI,K⟩:=t
 have h1:=oS.1
 have h2:=oI.1
 simp only [List.length_map,bD,Nat.mul_one]at h1 h2
 obtain⟨XS',oS',K6⟩:=oS.toOwn (by omega) (A:= []) (L:=XI++ []) K
 obtain⟨XI',oI',K7⟩:=oI.toOwn (by omega) (A:=XS') (L:= []) K6
 rw [List.append_nil]at K7
 exact⟨XS',XI',oS',oI',K7⟩
theorem TrX.nil {h h':Hp} (l:h.le h'):TrX h h' ⟨none,0,0⟩ ⟨none,0,0⟩ []:=⟨[], [],⟨rfl,by simp, .inl ⟨rfl,rfl⟩⟩,⟨rfl,by simp, .inl ⟨rfl,rfl⟩⟩,Kn.of l⟩
theorem pe {σ:aA} (ok:σ.Ok) {d:Nat} (h:σ.depth=some d):d<=256:=by
 have h1:=aA.depth_lt h
 have h2:=aA.nLay_le σ
 have h3:=ey ok
 omega
theorem TrX.up {h g h1 h5:Hp} {b6:Nat} {sS sI:Sl} {l:List (Nat×Nat)} (t:TrX g h1 sS sI l) (lg:h.le g) (h6:g b6≠none) (l5:h.le h5) (kp: ∀c,c≠b6->h5 c=h1 c):TrX h h5 sS sI l:=by
 obtain⟨XS,XI,oS,oI,K⟩:=t
 refine⟨XS,XI,oS,oI,l5,fun e he=>?_,fun e he=>aD lg (K.new e he),K.nd⟩
 have hne:e.1≠b6:=by
  intro e6
  have h1:=K.new e he
  rw [e6]at h1;exact h6 h1
 rw [kp _ hne];exact K.mem e he
theorem TrX.mono {h h1 h2:Hp} {sS sI:Sl} {l:List (Nat×Nat)} (t:TrX h h1 sS sI l) (l12:h1.le h2):TrX h h2 sS sI l:=by
 obtain⟨XS,XI,oS,oI,K⟩:=t
 exact⟨XS,XI,oS,oI,K.mono l12⟩
theorem pw.slcOf {X:List (Nat×Blk)} {h:Hp} {s:Sl} {sz:Nat} {cs:List Value} (o:pw X s sz cs) (m: ∀e∈X,h e.1=some e.2):SlC h s sz cs:=by
 refine⟨o.2.1,o.1,?_⟩
 rcases o.2.2 with ⟨h0,_⟩|⟨_,b,z,ha,rfl⟩
 ·exact .inl h0
 ·exact .inr ⟨b,0,ha,ay (m _ (.head _))⟩
theorem TrX.ints {h h1:Hp} {sS sI:Sl} {l:List (Nat×Nat)} (t:TrX h h1 sS sI l):IntS h1 sS (VL (l.map Prod.fst))/\IntS h1 sI (VL (l.map Prod.snd)):=by
 obtain⟨XS,XI,oS,oI,K⟩:=t
 exact⟨oS.slcOf fun e he=>K.mem e (List.mem_append_left _ he),oI.slcOf fun e he=>K.mem e (List.mem_append_right _ he)⟩
theorem TrX.le {h h':Hp} {sS sI:Sl} {l:List (Nat×Nat)} (t:TrX h h' sS sI l):h.le h':=by obtain⟨_,_,_,_,K⟩:=t;exact K.le
theorem TrX.add {g h h':Hp} {L:List (Nat×Blk)} {sS sI:Sl} {l:List (Nat×Nat)} (t:TrX h h' sS sI l) (K:Kn g h L):
  ∃XS XI,pw XS sS 1 ((VL (l.map Prod.fst)).map I)/\pw XI sI 1 ((VL (l.map Prod.snd)).map I)/\Kn g h' (L++(XS++XI)):=by
 obtain⟨XS,XI,oS,oI,K'⟩:=t
 exact⟨XS,XI,oS,oI,K.app K'.le K'.new K'.mem K'.nd⟩
section
variable {g h:Hp} {L XS XI:List (Nat×Blk)} {sS sI tS tI:Sl} {xs ys:List Int} {cS cI:List Value} {k0:Int} {R:Value->Hp->Prop}
end
structure A6 where
 kind:Int
 depth:Int
 tr:List (Nat×Nat)
 bd:Bd
def lK (x:Int):Int:=if(if x<256 then x else 256)>0 then(if x<256 then x else 256)else 0
theorem zd (x:Int):lK x=if(if x<0 then 0 else x)>256 then 256 else(if x<0 then 0 else x):=by
 unfold lK
 by_cases a:x<0
 ·rw [if_pos (show x<256 by omega),if_pos a,if_neg (by omega),if_neg (by omega)]
 rw [if_neg a]
 by_cases b:x<256
 ·rw [if_pos b]
  by_cases c:x>0
  ·rw [if_pos c,if_neg (by omega)]
  ·rw [if_neg c,if_neg (by omega)];omega
 ·rw [if_neg b,if_pos (show (256:Int)>0 by omega)]
  by_cases c:x>256
  ·rw [if_pos c]
  ·rw [if_neg c];omega
def uN (σ:aA) (x:Int):A6:=
 if 0<=σ.depthI/\σ.depthI<=lK x then⟨3,σ.depthI,σ.wit σ.depthI.toNat σ.begins,iq⟩else
 if σ.depthI<0/\(σ.nLay:Int)-1<lK x then⟨2,(σ.nLay:Int)-1, [],dp σ.n σ.reach⟩else⟨1,lK x, [],iq⟩
def dj (m:aj) (x:Int):A6:=if az m=0 then uN (aN m) x else⟨0,0, [],iq⟩
abbrev PH (p:A6) (sS sI sN:Sl):List Value:= [I p.kind,I p.depth,sS.v,sI.v,I p.bd.v,sN.v,I p.bd.r]
abbrev Ie (p:A6) (sS sI sN:Sl):Value:= .agg #[I p.kind,I p.depth,sS.v,sI.v,I p.bd.v,sN.v,I p.bd.r]
def VrX (h h':Hp) (sS sI sN:Sl) (p:A6):Prop:=
 ∃XS XI XN,pw XS sS 1 ((VL (p.tr.map Prod.fst)).map I)/\pw XI sI 1 ((VL (p.tr.map Prod.snd)).map I)/\pw XN sN 3 (cd p.bd.ns)/\Kn h h' (XS++(XI++XN))
theorem VrX.up {h g h1 h5:Hp} {b6:Nat} {sS sI sN:Sl} {p:A6} (t:VrX g h1 sS sI sN p) (lg:h.le g) (h6:g b6≠none) (l5:h.le h5) (kp: ∀c,c≠b6->h5 c=h1 c):VrX h h5 sS sI sN p:=by
 obtain⟨XS,XI,XN,oS,oI,oN,K⟩:=t
 refine⟨XS,XI,XN,oS,oI,oN,l5,fun e he=>?_,fun e he=>aD lg (K.new e he),K.nd⟩
 have hne:e.1≠b6:=by
  intro e6
  have h1:=K.new e he
  rw [e6]at h1;exact h6 h1
 rw [kp _ hne];exact K.mem e he
theorem VrX.mono {h h1 h2:Hp} {sS sI sN:Sl} {p:A6} (t:VrX h h1 sS sI sN p) (l12:h1.le h2):VrX h h2 sS sI sN p:=by
 obtain⟨XS,XI,XN,oS,oI,oN,K⟩:=t
 exact⟨XS,XI,XN,oS,oI,oN,K.mono l12⟩
theorem VrX.le {h h':Hp} {sS sI sN:Sl} {p:A6} (t:VrX h h' sS sI sN p):h.le h':=by obtain⟨_,_,_,_,_,_,K⟩:=t;exact K.le
theorem E8 (sz:Nat):pw [] ⟨none,0,0⟩ sz []:=⟨by simp,by simp, .inl ⟨rfl,rfl⟩⟩
theorem VrX.ofTr {h h':Hp} {sS sI:Sl} {l:List (Nat×Nat)} {k d:Int} (t:TrX h h' sS sI l):VrX h h' sS sI ⟨none,0,0⟩ ⟨k,d,l,iq⟩:=by
 obtain⟨XS,XI,oS,oI,K⟩:=t
 exact⟨XS,XI, [],oS,oI,E8 3,by rw [List.append_nil];exact K⟩
theorem VrX.ofBd {h h':Hp} {s:Sl} {B:Bd} {k d:Int} (l:h.le h') (o:Own (h'.sub h) s 3 (cd B.ns)):VrX h h' ⟨none,0,0⟩ ⟨none,0,0⟩ s ⟨k,d, [],B⟩:=by
 obtain⟨X,oX,K⟩:=(Kn.nil h).addOwn l o
 exact⟨[], [],X,E8 1,E8 1,oX,K⟩
theorem VrX.nil {h h':Hp} {k d:Int} (l:h.le h'):VrX h h' ⟨none,0,0⟩ ⟨none,0,0⟩ ⟨none,0,0⟩ ⟨k,d, [],iq⟩:=VrX.ofTr (TrX.nil l)
theorem pa {σ:aA} (h:0<=σ.depthI): ∃d,σ.depth=some d/\σ.depthI=d:=by
 unfold aA.depthI at h⊢
 cases hd:σ.depth with
 |none=>rw [hd]at h;exact absurd (show (0:Int)<= -1 from h) (by decide)
 |some d=>exact⟨d,rfl,rfl⟩
theorem G3 {h:Hp} {b:Nat} {σ:aA} {x:Int} {R:Value->Hp->Prop} (hs:ml h b σ) (ok:σ.Ok)
  (k: ∀sS sI sN h',VrX h h' sS sI sN (uN σ x)->R (Ie (uN σ x) sS sI sN) h'):kv #[.pointer (some ⟨b,0,none⟩),I x] h R:=by
 apply xj
 refine uf_ ?_
 have hn:=ey ok
 have hnl:=aA.nLay_le σ
 unfold uN at k
 have K0:=Kn.nil h
 (with_reducible apply Kn.al);(assumption);(intro b4 h1 K1 l1 hb4)
 refine lO (hs.mono K1.le) ok fun L h2 l2 hL=>⟨_,rfl,?_⟩
 have K2:=K1.mono l2
 have hs2:=hs.mono K2.le
 have hll:=hL.len
 refine tT hs2 ok hL ⟨_,rfl,?_⟩
 rw [show (if(if x<256 then x else 256)>0 then(if x<256 then x else 256)else 0)=lK x from rfl,hll,ca (n:=(σ.nLay:Int)-1) (by omega) (by omega)]
 generalize lK x=bud at*
 refine ap (fun J=>J (decide (0<=σ.depthI/\σ.depthI<=bud))) ?_ (fun J hJ=>?_)
 rotate_left
 ·refine ad (fun e=>?_) (fun e=>?_)
  ·rw [show decide (0<=σ.depthI/\σ.depthI<=bud)=decide (σ.depthI<=bud)from by rw [decide_eq_true_eq]at e;rw [Bool.eq_iff_iff,decide_eq_true_eq,decide_eq_true_eq];omega]at hJ;exact hJ
  ·rw [show decide (0<=σ.depthI/\σ.depthI<=bud)=false from by rw [decide_eq_false_iff_not]at e⊢;omega]at hJ;exact hJ
 refine ad (fun e=>?_) (fun e=>?_)
 ·have e':=of_decide_eq_true e
  rw [if_pos e']at k
  obtain⟨d,hd,hdI⟩:=pa e'.1
  rw [hdI,Int.toNat_natCast]at k
  rw [hdI]
  refine Aq hs2 ok (pe ok hd) (aA.wit_begins hd) fun sS sI h3 t3=>⟨_,_,rfl,?_⟩
  have K3:=K2.mono t3.le
  refine kw_ ?_
  intro h4 K4 kp
  have K4':Kn h h4 [(b4, .inl ⟨[I 3,I d,sS.v,sI.v,I 0,Sl.v ⟨none,0,0⟩,I 0],7,false⟩)]:=K4
  clear K4 K3 K1
  repeat' (refine kr_ ?_)
  exact k sS sI ⟨none,0,0⟩ h4 ((VrX.ofTr t3).up K2.le (by rw [K2.at (.head _)];simp) K4'.le kp)
 rw [if_neg (of_decide_eq_false e)]at k
 refine ap (fun J=>J (decide (σ.depthI<0/\(σ.nLay:Int)-1<bud))) ?_ (fun J hJ=>?_)
 rotate_left
 ·refine ad (fun e=>?_) (fun e=>?_)
  ·rw [show decide (σ.depthI<0/\(σ.nLay:Int)-1<bud)=decide ((σ.nLay:Int)-1<bud)from by rw [decide_eq_true_eq]at e;rw [Bool.eq_iff_iff,decide_eq_true_eq,decide_eq_true_eq];omega]at hJ;exact hJ
  ·rw [show decide (σ.depthI<0/\(σ.nLay:Int)-1<bud)=false from by rw [decide_eq_false_iff_not]at e⊢;omega]at hJ;exact hJ
 refine ad (fun e=>?_) (fun e=>?_)
 ·rw [if_pos (of_decide_eq_true e)]at k
  refine D0 hs2 ok hL fun bu T h3 K3 hT=>⟨_,rfl,?_⟩
  have hT':cU h3 (arr bu (2^σ.n)) (2^σ.n) σ.reach:=jl (by omega) (K3.at (.head _)) hT
  have l23:=K3.le
  clear K3
  refine pD (hs2.mono l23) ok hT' fun s h4 l4 o4=>⟨_,_,_,_,rfl,?_⟩
  have K23:=K2.mono l23
  have K4:=K23.mono l4
  refine Kn.al K4 fun b47 h5 K5 l5 hb47=>?_
  refine kw_ ?_
  intro h6 K6 kp6
  repeat' (refine kr_ ?_)
  refine kw_ ?_
  intro h7 K7 kp7
  have l46:=dy hb47 l5 kp6
  have K7':Kn h h7 [(b47, .inl ⟨[I (dp σ.n σ.reach).v,s.v,I (dp σ.n σ.reach).r],3,false⟩),(b4, .inl ⟨[I 2,I ((σ.nLay:Int)-1),Sl.v ⟨none,0,0⟩,Sl.v ⟨none,0,0⟩,I (dp σ.n σ.reach).v,s.v,I (dp σ.n σ.reach).r],7,false⟩)]:=K7
  clear K7 K6 K5 K4
  have o7:=o4.mono (Hp.le_trans (oZ h3 l46) (fS K23.le (K23.at (.head _)) kp7))
  clear K23 K2 K1 K0
  repeat' (refine kr_ ?_)
  exact k ⟨none,0,0⟩ ⟨none,0,0⟩ s h7 (VrX.ofBd K7'.le o7)
 ·rw [if_neg (of_decide_eq_false e)]at k
  refine kw_ ?_
  intro h4 K4 kp
  have K4':Kn h h4 [(b4, .inl ⟨[I 1,I bud,Sl.v ⟨none,0,0⟩,Sl.v ⟨none,0,0⟩,I 0,Sl.v ⟨none,0,0⟩,I 0],7,false⟩)]:=K4
  clear K4 K1
  repeat' (refine kr_ ?_)
  exact k ⟨none,0,0⟩ ⟨none,0,0⟩ ⟨none,0,0⟩ h4 (VrX.nil K4'.le)
theorem fP {h:Hp} {M:MSl} {m:aj} {x:Int} {R:Value->Hp->Prop} (hs:aM h M m) (hm:bT m)
  (k: ∀sS sI sN h',VrX h h' sS sI sN (dj m x)->R (Ie (dj m x) sS sI sN) h'):dZ #[aR M,I x] h R:=by
 apply Iy
 refine uf_ ?_
 unfold dj at k
 have K0:=Kn.nil h
 (with_reducible apply Kn.al);(assumption);(intro b8 h1 K1 l1 hb8)
 (with_reducible apply Kn.al);(assumption);(intro b10 h2 K2 l2 hb10)
 repeat' (refine kr_ ?_)
 refine eE (hs.mono K2.le) hm (fun h3 l3 hc=>⟨_,_,rfl,aK rfl ?_⟩) (fun hc g bx h3 l3 hx=>⟨_,_,rfl,aF rfl ?_⟩)
 ·rw [if_neg hc]at k
  have K3:=K2.mono l3
  refine kw_ ?_
  intro h4 K4 kp
  have K4':Kn h h4 [(b10, .inl ⟨[I 0,I 0,Sl.v ⟨none,0,0⟩,Sl.v ⟨none,0,0⟩,I 0,Sl.v ⟨none,0,0⟩,I 0],7,false⟩),(b8, .inl ⟨av M,5,false⟩)]:=K4
  clear K4 K3 K2 K1 K0
  repeat' (refine kr_ ?_)
  exact k ⟨none,0,0⟩ ⟨none,0,0⟩ ⟨none,0,0⟩ h4 (VrX.nil K4'.le)
 ·rw [if_pos hc]at k
  have K3:=K2.mono l3
  refine G3 hx (gz g) fun sS sI sN h4 t4=>⟨_,_,_,_,_,_,_,rfl,?_⟩
  generalize uN (aN m) x=V at*
  have K4:=K3.mono t4.le
  refine kw_ ?_
  intro h5 K5 kp
  have K5':Kn h h5 [(b10, .inl ⟨PH V sS sI sN,7,false⟩),(b8, .inl ⟨av M,5,false⟩)]:=K5
  have t5:=t4.up K3.le (by rw [K3.at (.head _)];simp) K5'.le kp
  clear K5 K4 K3 K2 K1 K0 t4
  repeat' (refine kr_ ?_)
  exact k sS sI sN h5 t5
theorem VrX.add {g h h':Hp} {L:List (Nat×Blk)} {sS sI sN:Sl} {p:A6} (t:VrX h h' sS sI sN p) (K:Kn g h L):
  ∃XS XI XN,pw XS sS 1 ((VL (p.tr.map Prod.fst)).map I)/\pw XI sI 1 ((VL (p.tr.map Prod.snd)).map I)/\pw XN sN 3 (cd p.bd.ns)/\Kn g h' (L++(XS++(XI++XN))):=by
 obtain⟨XS,XI,XN,oS,oI,oN,K'⟩:=t
 exact⟨XS,XI,XN,oS,oI,oN,K.app K'.le K'.new K'.mem K'.nd⟩
def VrS (h:Hp) (sS sI sN:Sl) (p:A6):Prop:=IntS h sS (VL (p.tr.map Prod.fst))/\IntS h sI (VL (p.tr.map Prod.snd))/\SlC h sN 3 (cd p.bd.ns)
theorem VrS.mono {h h':Hp} {sS sI sN:Sl} {p:A6} (l:h.le h') (t:VrS h sS sI sN p):VrS h' sS sI sN p:=⟨t.1.mono l,t.2.1.mono l,t.2.2.mono l⟩
theorem WI {g h:Hp} {L XS XI XN:List (Nat×Blk)} {sS sI sN:Sl} {cS cI cN:List Value} (oS:pw XS sS 1 cS) (oI:pw XI sI 1 cI) (oN:pw XN sN 3 cN) (K:Kn g h (L++(XS++(XI++XN)))):SlC h sS 1 cS/\SlC h sI 1 cI/\SlC h sN 3 cN:=
 ⟨oS.slcOf fun e he=>K.mem e (List.mem_append_right _ (List.mem_append_left _ he)),oI.slcOf fun e he=>K.mem e (List.mem_append_right _ (List.mem_append_right _ (List.mem_append_left _ he))),
  oN.slcOf fun e he=>K.mem e (List.mem_append_right _ (List.mem_append_right _ (List.mem_append_right _ he)))⟩
theorem VrX.vrS {h h':Hp} {sS sI sN:Sl} {p:A6} (t:VrX h h' sS sI sN p):VrS h' sS sI sN p:=by
 obtain⟨XS,XI,XN,oS,oI,oN,K⟩:=t
 exact WI (L:= []) oS oI oN K
namespace aA
theorem run_of_depth {σ:aA} {d:Nat} (h:σ.depth=some d): ∃s,s<2^σ.n/\σ.run d s=true/\σ.endsAt s=true:=by
 obtain⟨s,hs,h1⟩:=cy.1 (depth_some.1 h).1
 rw [Bool.and_eq_true]at h1
 exact⟨s,hs,front_run σ d s h1.1,h1.2⟩
theorem nobad_depth {σ:aA} (h: ∀c,σ.bad c=false):σ.depth=none:=by
 cases hd:σ.depth with
 |none=>rfl
 |some d=>
  obtain⟨s,hs,_,he⟩:=run_of_depth hd
  obtain⟨x,_,_,hb⟩:=endsAt_iff.1 he
  rw [h]at hb;cases hb
theorem nobad_kind {σ:aA} (h: ∀c,σ.bad c=false):σ.kind 1=0:=by
 have h3:mA (2^σ.n) (σ.back2 1)=false:=nU.2 fun s hs=>by
  rw [Bool.eq_false_iff]
  intro h4
  obtain⟨i,t,_,ht,_,h5,_⟩:=bwd_iff.1 h4
  obtain⟨x,_,_,hb⟩:=endsAt_iff.1 h5
  rw [h]at hb;cases hb
 unfold kind
 rw [nobad_depth h,h3];rfl
end aA
theorem L4 :lK 256=256:=by rw [zd];rfl
theorem Qb {σ:aA} (ok:σ.Ok):σ.depthI<=255:=by
 unfold aA.depthI
 cases hd:σ.depth with
 |none=>show (-1:Int)<=255;omega
 |some d=>
  show (d:Int)<=255
  have h1:=aA.depth_lt hd
  have h2:=aA.nLay_le σ
  have h3:=ey ok
  omega
theorem DC {σ:aA} (ok:σ.Ok):uN σ 256=if 0<=σ.depthI then⟨3,σ.depthI,σ.wit σ.depthI.toNat σ.begins,iq⟩else⟨2,(σ.nLay:Int)-1, [],dp σ.n σ.reach⟩:=by
 have h1:=Qb ok
 have h2:=aA.nLay_le σ
 have h3:=ey ok
 unfold uN
 rw [L4]
 by_cases e:0<=σ.depthI
 ·rw [if_pos e,if_pos ⟨e,by omega⟩]
 ·rw [if_neg e,if_neg fun q=>e q.1,if_pos ⟨by omega,by omega⟩]
theorem Ia {m:aj} (g:dS m):az m=0:=by
 unfold az
 have h1:=g.nl;have h2:=g.il;have h3:=g.xl;have h4:=g.bl;have h5:=g.hl;have h6:=g.n8;have h7:=g.k5
 rw [if_neg (by omega),if_neg (by rw [g.ok];simp),if_neg (by rw [g.twice];simp),if_neg ?_,if_neg ?_,if_neg (by omega)]
 ·rw [List.all_eq_true.2 g.bad,List.all_eq_true.2 g.hol];simp
 ·rw [List.all_eq_true.2 g.ini,List.all_eq_true.2 g.nex];simp
theorem Hs {m:aj} (g:dS m) {bs:List Int} (h1:bs.length<=4) (h2: ∀p∈bs,dL m.nodes p=true):dS {m with bads:=bs}:=
 ⟨g.nl,g.il,g.xl,h1,g.hl,g.ok,g.twice,g.ini,g.nex,h2,g.hol,g.n8,g.k5⟩
abbrev rdC (s:Sl) (p:Nat):Blk:= .inl ⟨[s.v,I p],2,false⟩
theorem N7 {g h:Hp} {L L':List (Nat×Blk)} {B p:Nat} {s:Sl} {bs:List Nat} {n:Int} {R:Value->Hp->Prop} (K:Kn g h L) (hb:ByteS g s bs) (u:Upd L B (rdC s p) (rdC s (p+1)) L') (hp:p<=1000000) (hn:n<=1000000000)
  (k: ∀(x:Nat) h',Kn g h' L'->(1<=n->(x:Int)<n)->(n<1->x=0)->R (I x) h'):ah #[.pointer (some ⟨B,0,none⟩),I n] h R:=
 AO ⟨K.at u.mem,hb.mono (tX (K.new (B,_) u.mem) K.le)⟩ (by omega) hn fun x h1 h2=>k x _ (K.set u) h1 h2
theorem kp_ {P Q:Prop} (k:Q) (h:Q->P:=by((with_reducible apply N7);(assumption);(assumption);(((focus ((repeat first|exact .head|apply Upd.tail);done))));(omega);(omega))):P:=h k
def MG (X:List (Nat×Blk)) (M:MSl) (m:aj):Prop:=
 ∃XN XI XE XB XH,X=XN++(XI++(XE++(XB++(XH++ []))))/\cL XN M.no 9 (m.nodes.flatMap nodeCells)/\cL XI M.ini 2 (m.inits.flatMap bindCells)/\cL XE M.nex 2 (m.nexts.flatMap bindCells)/\
  cL XB M.bad 1 (m.bads.map I)/\cL XH M.hol 1 (m.holds.map I)
abbrev noM :MSl:=⟨⟨none,0,0⟩,⟨none,0,0⟩,⟨none,0,0⟩,⟨none,0,0⟩,⟨none,0,0⟩⟩
abbrev noP :aj:=⟨[], [], [], [], []⟩
theorem MG.nil :MG [] noM noP:=⟨[], [], [], [], [],rfl,cM 9,cM 2,cM 2,cM 1,cM 1⟩
section
variable {g h:Hp} {A X:List (Nat×Blk)} {M:MSl} {m:aj}
theorem cL.slcOf {X:List (Nat×Blk)} {s:Sl} {sz:Nat} {cs:List Value} (o:cL X s sz cs) (hn:s.n<=9223372036854775807) (m: ∀e∈X,h e.1=some e.2):SlC h s sz cs:=(o.buf m).slc_of hn
theorem MG.lens (o:MG X M m):M.no.n=m.nodes.length/\M.ini.n=m.inits.length/\M.nex.n=m.nexts.length/\M.bad.n=m.bads.length/\M.hol.n=m.holds.length/\M.no.n<=M.no.c:=by
 obtain⟨XN,XI,XE,XB,XH,_,a,b,c,d,e⟩:=o
 have h1:=a.1;have h2:=b.1;have h3:=c.1;have h4:=d.1;have h5:=e.1;have h6:=a.2.1
 rw [hE (m:=9) (fun _=>rfl)]at h1
 rw [hE (m:=2) (fun _=>rfl)]at h2 h3
 rw [List.length_map]at h4 h5
 omega
theorem MG.blk (o:MG X M m) (hn:0<m.nodes.length): ∃b x,M.no.a=some ⟨b,0,none⟩/\(b,x)∈X:=by
 have hl:=o.lens
 obtain⟨XN,XI,XE,XB,XH,rfl,a,_⟩:=o
 rcases a.2.2 with ⟨_,h0,_⟩|⟨b,ha,rfl⟩
 ·rw [h0]at hl;have:=hl.1;dsimp only at this;omega
 ·exact⟨b,_,ha,List.mem_append_left _ (.head _)⟩
theorem MG.modelS (o:MG X M m) (hm:bT m) (K:Kn g h (A++X)):aM h M m:=by
 have hl:=o.lens
 have hm':=hm.nodes;have h2:=hm.inits;have h3:=hm.nexts;have h4:=hm.bads;have h5:=hm.holds
 obtain⟨XN,XI,XE,XB,XH,rfl,a,b,c,d,e⟩:=o
 have mem: ∀x∈XN++(XI++(XE++(XB++(XH++ [])))),h x.1=some x.2:=fun x hx=>K.mem x (List.mem_append_right _ hx)
 refine⟨a.slcOf (by omega) fun x hx=>mem x (by simp [hx]),b.slcOf (by omega) fun x hx=>mem x (by simp [hx]),c.slcOf (by omega) fun x hx=>mem x (by simp [hx]),
  d.slcOf (by omega) fun x hx=>mem x (by simp [hx]),e.slcOf (by omega) fun x hx=>mem x (by simp [hx]),hl.2.2.2.2.2⟩
theorem MG.appN {b:Nat} {n:NodeP} {C:Option Addr->Nat->Nat->Hp->Prop} (o:MG X M m) (K:Kn g h (A++X)) (hm:m.nodes.length<=100000) (f:h b=some (.inl ⟨nodeCells n,9,false⟩))
  (k: ∀s' X' h',MG X' {M with no:=s'} {m with nodes:=m.nodes++ [n]}->Kn g h' (A++X')->C s'.a s'.n s'.c h'):cf h M.no.a M.no.n M.no.c (some ⟨b,0,none⟩) 1 9 80 C:=by
 have hl:=o.lens
 obtain⟨XN,XI,XE,XB,XH,rfl,a,b',c,d,e⟩:=o
 refine Kn.growIn K a (by omega) (by omega) (by omega) ⟨b,0,rfl,ay f⟩ rfl rfl fun s' X' h' hn a' K' _=>?_
 exact k s' _ h' ⟨X',XI,XE,XB,XH,rfl,by rw [List.flatMap_append];exact a',b',c,d,e⟩ K'
theorem MG.appI {b:Nat} {n:BindP} {C:Option Addr->Nat->Nat->Hp->Prop} (o:MG X M m) (K:Kn g h (A++X)) (hm:m.inits.length<=100000) (f:h b=some (.inl ⟨bindCells n,2,false⟩))
  (k: ∀s' X' h',MG X' {M with ini:=s'} {m with inits:=m.inits++ [n]}->Kn g h' (A++X')->C s'.a s'.n s'.c h'):cf h M.ini.a M.ini.n M.ini.c (some ⟨b,0,none⟩) 1 2 16 C:=by
 have hl:=o.lens
 obtain⟨XN,XI,XE,XB,XH,rfl,a,b',c,d,e⟩:=o
 refine Kn.growIn2 K b' (by omega) (by omega) (by omega) ⟨b,0,rfl,ay f⟩ rfl rfl fun s' X' h' hn a' K' _=>?_
 exact k s' _ h' ⟨XN,X',XE,XB,XH,rfl,a,by rw [List.flatMap_append];exact a',c,d,e⟩ K'
theorem MG.appE {b:Nat} {n:BindP} {C:Option Addr->Nat->Nat->Hp->Prop} (o:MG X M m) (K:Kn g h (A++X)) (hm:m.nexts.length<=100000) (f:h b=some (.inl ⟨bindCells n,2,false⟩))
  (k: ∀s' X' h',MG X' {M with nex:=s'} {m with nexts:=m.nexts++ [n]}->Kn g h' (A++X')->C s'.a s'.n s'.c h'):cf h M.nex.a M.nex.n M.nex.c (some ⟨b,0,none⟩) 1 2 16 C:=by
 have hl:=o.lens
 obtain⟨XN,XI,XE,XB,XH,rfl,a,b',c,d,e⟩:=o
 refine Kn.growIn3 K c (by omega) (by omega) (by omega) ⟨b,0,rfl,ay f⟩ rfl rfl fun s' X' h' hn a' K' _=>?_
 exact k s' _ h' ⟨XN,XI,X',XB,XH,rfl,a,b',by rw [List.flatMap_append];exact a',d,e⟩ K'
theorem MG.appB {b:Nat} {n:Int} {C:Option Addr->Nat->Nat->Hp->Prop} (o:MG X M m) (K:Kn g h (A++X)) (hm:m.bads.length<=100000) (f:h b=some (.inl ⟨[I n],1,false⟩))
  (k: ∀s' X' h',MG X' {M with bad:=s'} {m with bads:=m.bads++ [n]}->Kn g h' (A++X')->C s'.a s'.n s'.c h'):cf h M.bad.a M.bad.n M.bad.c (some ⟨b,0,none⟩) 1 1 8 C:=by
 have hl:=o.lens
 obtain⟨XN,XI,XE,XB,XH,rfl,a,b',c,d,e⟩:=o
 have sw: ∀Z:List (Nat×Blk),A++(XN++(XI++(XE++(Z++(XH++ [])))))=(A++(XN++XI))++(XE++(Z++(XH++ []))):=fun Z=>by simp
 rw [sw]at K
 refine Kn.growIn2 K d (by omega) (by omega) (by omega) ⟨b,0,rfl,ay f⟩ rfl rfl fun s' X' h' hn a' K' _=>?_
 rw [<-sw]at K'
 exact k s' _ h' ⟨XN,XI,XE,X',XH,rfl,a,b',c,by rw [List.map_append];exact a',e⟩ K'
theorem MG.appH {b:Nat} {n:Int} {C:Option Addr->Nat->Nat->Hp->Prop} (o:MG X M m) (K:Kn g h (A++X)) (hm:m.holds.length<=100000) (f:h b=some (.inl ⟨[I n],1,false⟩))
  (k: ∀s' X' h',MG X' {M with hol:=s'} {m with holds:=m.holds++ [n]}->Kn g h' (A++X')->C s'.a s'.n s'.c h'):cf h M.hol.a M.hol.n M.hol.c (some ⟨b,0,none⟩) 1 1 8 C:=by
 have hl:=o.lens
 obtain⟨XN,XI,XE,XB,XH,rfl,a,b',c,d,e⟩:=o
 have sw: ∀Z:List (Nat×Blk),A++(XN++(XI++(XE++(XB++(Z++ [])))))=(A++(XN++XI))++(XE++(XB++(Z++ []))):=fun Z=>by simp
 rw [sw]at K
 refine Kn.growIn3 K e (by omega) (by omega) (by omega) ⟨b,0,rfl,ay f⟩ rfl rfl fun s' X' h' hn a' K' _=>?_
 rw [<-sw]at K'
 exact k s' _ h' ⟨XN,XI,XE,XB,X',rfl,a,b',c,d,by rw [List.map_append];exact a'⟩ K'
end
structure DM (m:aj) (N:Nat):Prop where
 nodes:m.nodes.length<=N
 sorts: ∀n∈m.nodes,bO n.sort=true
 names: ∀n∈m.nodes,n.name.size<=100
 inits:m.inits.length<=N
 nexts:m.nexts.length<=N
 bads:m.bads.length<=N
 holds:m.holds.length<=N
theorem DM.small {m:aj} {N:Nat} (d:DM m N) (hN:N<=100000):bT m:=
 ⟨by have:=d.nodes;omega,by have:=d.inits;omega,by have:=d.nexts;omega,by have:=d.bads;omega,by have:=d.holds;omega,fun n hn=>by have:=d.names n hn;omega⟩
theorem DM.more {m:aj} {N N':Nat} (d:DM m N) (h:N<=N'):DM m N':=
 ⟨Nat.le_trans d.nodes h,d.sorts,d.names,Nat.le_trans d.inits h,Nat.le_trans d.nexts h,Nat.le_trans d.bads h,Nat.le_trans d.holds h⟩
theorem DM.addN {m:aj} {N:Nat} (d:DM m N) {n:NodeP} (h1:bO n.sort=true) (h2:n.name.size<=100):DM {m with nodes:=m.nodes++ [n]} (N+1):=
 ⟨by have:=d.nodes;simp;omega,fun x hx=>by rcases List.mem_append.1 hx with hx|hx;exact d.sorts x hx;rw [List.mem_singleton.1 hx];exact h1,
  fun x hx=>by rcases List.mem_append.1 hx with hx|hx;exact d.names x hx;rw [List.mem_singleton.1 hx];exact h2,
  by have:=d.inits;dsimp only;omega,by have:=d.nexts;dsimp only;omega,by have:=d.bads;dsimp only;omega,by have:=d.holds;dsimp only;omega⟩
theorem Kn.tl {g h:Hp} {L:List (Nat×Blk)} {e:Nat×Blk} (K:Kn g h (e::L)):Kn g h L:=K.sub (fun x hx=> .tail _ hx) (by have:=K.nd;rw [List.map_cons,List.nodup_cons]at this;exact this.2)
theorem Kn.sw {g h:Hp} {L:List (Nat×Blk)} {a b:Nat×Blk} (K:Kn g h (a::b::L)):Kn g h (b::a::L):=K.perm (List.Perm.swap ..)
theorem qq {m:aj} {N:Nat} (d:DM m N) {i:Nat} {n:NodeP} (h:m.nodes[i]?=some n):bO n.sort=true:=d.sorts n (List.mem_of_getElem? h)
theorem lV {s:SortP} (h:bO s=true):(0<=s.idx/\s.idx<=2)/\1<=s.wid/\s.wid<=16:=of_decide_eq_true h
theorem mV {w:Int} (h1:1<=w) (h2:w<=16):bO (cr w)=true:=decide_eq_true ⟨by simp [cr],h1,h2⟩
theorem Upd.mem2 {L L':List (Nat×Blk)} {b:Nat} {x y:Blk} (u:Upd L b x y L'):(b,y)∈L':=by
 induction u with
 |head=>exact .head _
 |tail _ ih=>exact .tail _ ih
section
variable {g h:Hp} {L L':List (Nat×Blk)} {b:Nat} {M M':MSl}
abbrev cV :List Value:= [.slice none 0 0, .slice none 0 0, .slice none 0 0, .slice none 0 0, .slice none 0 0]
theorem jI {cs:List Value} {Q:Hp->Prop} (K:Kn g h L) (u:Upd L b (.inl ⟨cs,5,false⟩) (.inl ⟨av M',5,false⟩) L') (hl:cs.length=5) (k: ∀h',Kn g h' L'->Q h'):
  ∃(cs:List Value) (z:Nat),h b=some (.inl ⟨cs,z,false⟩)/\0+5<=List.length cs/\co (h.row b (cB cs 0 (av M')) z) fun h'=>Q h':=by
 have e:cB cs 0 (av M')=av M':=by
  match cs,hl with
  | [_,_,_,_,_],_=>rfl
 exact Kn.wr (cs:=cs) (z:=5) (o:=0) (vs:=av M') K (L':=L') (by rw [e];exact u) (by omega) fun h' K' _=>k h' K'
theorem Ba {Q:Sl->Sl->Sl->Sl->Sl->Hp->Prop} (K:Kn g h L) (u:Upd L b (.inl ⟨cV,5,false⟩) (.inl ⟨av M,5,false⟩) L') (k: ∀h',Kn g h' L'->Q M.no M.ini M.nex M.bad M.hol h'):
  ∃(cs:List Value) (z:Nat),h b=some (.inl ⟨cs,z,false⟩)/\0+5<=List.length cs/\co (h.row b (cB cs 0 (av M)) z) fun h'=> ∃s1:Sl,Hp.cell h' b 0=some s1.v/\ ∃s2:Sl,Hp.cell h' b 1=some s2.v/\
   ∃s3:Sl,Hp.cell h' b 2=some s3.v/\ ∃s4:Sl,Hp.cell h' b 3=some s4.v/\ ∃s5:Sl,Hp.cell h' b 4=some s5.v/\Q s1 s2 s3 s4 s5 h':=by
 refine jI K u rfl fun h' K'=>?_
 have hm:=u.mem2
 have c:=fun o=>am (K'.at hm) o
 exact⟨_,c 0,_,c 1,_,c 2,_,c 3,_,c 4,k h' K'⟩
end
theorem xO {α:Type} (a b c d e:α) (L:List α):(a::b::c::d::e::L).Perm (e::a::b::c::d::L):=by
 refine((List.Perm.cons a ((List.Perm.cons b ((List.Perm.cons c (List.Perm.swap e d L)).trans (List.Perm.swap e c _))).trans (List.Perm.swap e b _))).trans (List.Perm.swap e a _))
theorem Upd.app {L L' X:List (Nat×Blk)} {b:Nat} {x y:Blk} (u:Upd L b x y L'):Upd (L++X) b x y (L'++X):=by
 induction u with
 |head=>exact .head
 |tail _ ih=>exact .tail ih
theorem ku {g h:Hp} {H X:List (Nat×Blk)} {b bn:Nat} {M:MSl} {m:aj} {nd:NodeP} {J:Hp->Prop} (o:MG X M m) (K:Kn g h ((bn, .inl ⟨nodeCells nd,9,false⟩)::(H++X))) (hm:m.nodes.length<=10000) (hb:(b, .inl ⟨av M,5,false⟩)∈H)
  (k: ∀s' X' h',MG X' {M with no:=s'} {m with nodes:=m.nodes++ [nd]}->(∀H',Upd H b (.inl ⟨av M,5,false⟩) (.inl ⟨av {M with no:=s'},5,false⟩) H'->Kn g h' (H'++X'))->J h'):
  cf h M.no.a M.no.n M.no.c (some ⟨bn,0,none⟩) 1 9 80 fun a n c h95=> ∃(cs:List Value) (z:Nat),h95 b=some (.inl ⟨cs,z,false⟩)/\0+1<=List.length cs/\co (h95.row b (cB cs 0 [.slice a n c]) z) fun h'=>J h':=by
 refine MG.appN (A:=_::H) (n:=nd) o K (by omega) (K.at (.head _)) fun s' X' h7 o' K7=>?_
 rw [List.cons_append]at K7
 have f:=K7.at (.tail _ (List.mem_append_left _ hb))
 exact⟨_,_,f,by simp,k s' X' _ o' fun H' u=>(K7.tl).set (u.app (X:=X'))⟩
set_option maxHeartbeats 1000000 in
theorem td {g h:Hp} {A X:List (Nat×Blk)} {B p N:Nat} {s:Sl} {bs:List Nat} {M:MSl} {m:aj} {st:SortP} {R:Value->Hp->Prop} (K:Kn g h ((B,rdC s p)::(A++X))) (hb:ByteS g s bs) (o:MG X M m) (d:DM m N) (hN:N<=10000)
  (hne:0<m.nodes.length) (hp:p<=900000) (hst:bO st=true)
  (k: ∀h' p' X' M' m' (i:Nat),Kn g h' ((B,rdC s p')::(A++X'))->MG X' M' m'->DM m' (N+1)->i<m'.nodes.length->m.nodes.length<=m'.nodes.length->p'<=p+2->R (.tuple #[aR M',I i]) h'):
  eP #[.pointer (some ⟨B,0,none⟩),aR M,sX st] h R:=by
 apply CF
 refine uf_ ?_
 obtain⟨_,hw1,hw2⟩:=lV hst
 have hl:=o.lens
 have hsm:=d.small (by omega)
 have hdn:=d.nodes
 refine Kn.al K fun b10 h1 K1 l1 hb10=>?_
 refine Kn.al K1 fun b12 h2 K2 l2 hb12=>?_
 refine Kn.al K2 fun b14 h3 K3 l3 hb14=>?_
 clear K K1 K2 l1 l2 l3 hb10 hb12 hb14
 (refine kr_ ?_)
 refine kp_ ?_
 intro x h4 K4 hx _
 refine⟨_,rfl,?_⟩
 replace hx:x<m.nodes.length:=by have:=hx (by omega);omega
 clear K3 h3 h2 h1 h
 have hs:=o.modelS (A:=_::_::_::_::A) hsm K4
 refine aw m.nodes.length (fun i vs h'=>vs= [.pointer (some ⟨B,0,none⟩), .pointer (some ⟨b10,0,none⟩), .pointer (some ⟨b12,0,none⟩), .pointer (some ⟨b14,0,none⟩),I x,I i]/\h4=h') ⟨rfl,rfl⟩ ?_
 rintro i _ _ nxt hi ⟨rfl,rfl⟩ hnx
 refine⟨_,b10,0,b12,0,b14,0,_,_,rfl,?_⟩
 (refine kr_ ?_)
 have same: ∀q:Nat,q<m.nodes.length-> ∃(cs:List Value) (z:Nat),h4 b14=some (.inl ⟨cs,z,false⟩)/\0+5<=List.length cs/\co (h4.row b14 (cB cs 0 (av M)) z) fun h58=> ∃s59:Sl,Hp.cell h58 b14 0=some s59.v/\ ∃s60:Sl,Hp.cell h58 b14 (0+1)=some s60.v/\
   ∃s61:Sl,Hp.cell h58 b14 (0+2)=some s61.v/\ ∃s62:Sl,Hp.cell h58 b14 (0+3)=some s62.v/\ ∃s63:Sl,Hp.cell h58 b14 (0+4)=some s63.v/\R (.tuple #[.agg #[s59.v,s60.v,s61.v,s62.v,s63.v],I q]) h58:=by
  intro q hq
  refine kw_ ?_
  intro h5 K5 _
  have K5':Kn g h5 ((b14, .inl ⟨av M,5,false⟩)::(b12, .inl ⟨[I st.idx,I st.wid],2,false⟩)::(b10, .inl ⟨av M,5,false⟩)::(B,rdC s (p+1))::(A++X)):=K5
  clear K5 K4
  repeat' (refine kr_ ?_)
  exact k h5 (p+1) X M m q K5'.tl.tl.tl o (d.more (by omega)) hq (Nat.le_refl _) (by omega)
 by_cases hlt:i<m.nodes.length
 ·refine aK (by rw [decide_eq_true_eq];omega) ?_
  (refine kr_ ?_)
  rw [if_neg (by omega)]
  (refine kr_ ?_)
  have hq:(x+i)%m.nodes.length<m.nodes.length:=Nat.mod_lt _ hne
  rw [<-Int.natCast_add,ek (by omega),show ((M.no.n:Nat):Int)=(m.nodes.length:Nat) by omega,fE]
  generalize (x+i)%m.nodes.length=q at*
  obtain⟨n,hni⟩: ∃n,m.nodes[q]?=some n:=⟨_,List.getElem?_eq_getElem hq⟩
  obtain⟨b,oo,ha,e0,e1,e2,e3,e4,e5,e6,e7,e8⟩:=hs.nodes.at hni
  rw [Int.toNat_natCast]
  refine⟨b,oo,ha,by omega,by omega,_,e6,_,e7,?_⟩
  (refine kr_ ?_)
  (refine kr_ ?_)
  refine ad (fun e=>?_) (fun e=>?_)
  ·repeat' (refine kr_ ?_)
   exact same q hq
  ·rw [aE (by omega)]
   exact hnx hlt _ _ ⟨rfl,rfl⟩
 refine aF (by rw [decide_eq_false_iff_not];omega) ?_
 clear hnx hlt hi
 (refine kr_ ?_)
 refine ad (fun e=>?_) (fun e=>?_)
 ·repeat' (refine kr_ ?_)
  exact same 0 hne
 have e':=of_decide_eq_false e
 have hi0:st.idx=0:=by have:=(lV hst).1;omega
 clear same hs
 refine ap (fun J=> ∀h5 X' s' p' nd,nd.sort=st->nd.name.size=0->MG X' {M with no:=s'} {m with nodes:=m.nodes++ [nd]}->Kn g h5 ((b14, .inl ⟨[.slice none 0 0, .slice none 0 0, .slice none 0 0, .slice none 0 0, .slice none 0 0],5,false⟩)::(b12, .inl ⟨[I st.idx,I st.wid],2,false⟩)::
  (b10, .inl ⟨av {M with no:=s'},5,false⟩)::(B,rdC s p')::(A++X'))->p'<=p+2->J h5) (fun h5 X' s' p' nd hs1 hs2 o' K5 hp'=>?_) (fun J hJ=>?_)
 ·have hl':=o'.lens
  repeat' (refine kr_ ?_)
  refine kw_ ?_
  intro h6 K6 kp6
  have K6':Kn g h6 ((b14, .inl ⟨av {M with no:=s'},5,false⟩)::(b12, .inl ⟨[I st.idx,I st.wid],2,false⟩)::(b10, .inl ⟨av {M with no:=s'},5,false⟩)::(B,rdC s p')::(A++X')):=K6
  repeat' (refine kr_ ?_)
  clear K5 K6 K4
  repeat' (refine kr_ ?_)
  rw [show W ((s'.n:Int)-1)=(m.nodes.length:Nat) by
   have h1:=hl'.1
   simp at h1
   rw [ca (by omega) (by omega)];omega]
  exact k h6 p' X' _ _ m.nodes.length K6'.tl.tl.tl o' (d.addN (by rw [hs1];exact hst) (by omega)) (by simp) (by simp) hp'
 obtain⟨w,hw⟩: ∃w:Nat,st.wid=w:=⟨st.wid.toNat,by omega⟩
 have hp2:0<2^w:=Nat.two_pow_pos w
 have fin: ∀(y:Nat) (h5 h6:Hp) (q b:Nat),q<=p+2->Kn g h5 ((b14, .inl ⟨[.slice none 0 0, .slice none 0 0, .slice none 0 0, .slice none 0 0, .slice none 0 0],5,false⟩)::(b12, .inl ⟨[I st.idx,I st.wid],2,false⟩)::(b10, .inl ⟨av M,5,false⟩)::(B,rdC s q)::(A++X))->
   Kn g h6 ((b, .inl ⟨[I 34,I 0,I 0,I 0,I (Int.tmod y (2^w:Nat)),I 0,I st.idx,I st.wid, .string ⟨#[]⟩],9,false⟩)::(b14, .inl ⟨[.slice none 0 0, .slice none 0 0, .slice none 0 0, .slice none 0 0, .slice none 0 0],5,false⟩)::(b12, .inl ⟨[I st.idx,I st.wid],2,false⟩)::(b10, .inl ⟨av M,5,false⟩)::(B,rdC s q)::(A++X))->
   cf h6 M.no.a M.no.n M.no.c (some (Addr.mk b 0 none)) 1 9 80 fun a92 n93 k94 h95=> ∃(cs96:List Value) (z97:Nat),h95 b10=some (.inl ⟨cs96,z97,false⟩)/\0+1<=List.length cs96/\co (h95.row b10 (cB cs96 0 [(.slice a92 n93 k94)]) z97) fun h98=>J h98:=by
  intro y h5 h6 q b hq K5 K6
  refine MG.appN (A:=_::_::_::_::_::A) (n:=⟨34,0,0,0,Int.tmod y (2^w:Nat),0,st,⟨#[]⟩⟩) o K6 (by omega) (K6.at (.head _)) fun s' X' h7 o' K7=>?_
  simp only [List.cons_append]at K7
  clear K6 K5 K4
  refine kw_ ?_
  intro h8 K8 _
  exact hJ h8 X' s' q _ rfl rfl o' K8.tl hq
 repeat' (refine kr_ ?_)
 refine⟨?_,?_⟩
 ·refine kp_ ?_
  intro y h5 K5 hy _
  refine⟨_,rfl,?_⟩
  repeat' (refine kr_ ?_)
  rw [hw,cz (by omega),if_neg (by omega),bU (by omega),if_neg (by omega),<-hw]
  refine Kn.al K5 fun b90 h6 K6 l6 hb90=>?_
  (refine kr_ ?_)
  exact fin y h5 h6 (p+2) b90 (Nat.le_refl _) K5 K6
 ·repeat' (refine kr_ ?_)
  rw [hw,cz (by omega),if_neg (by omega),bU (by omega),<-hw]
  refine kp_ ?_
  intro y h5 K5 hy _
  refine⟨_,rfl,?_⟩
  repeat' (refine kr_ ?_)
  rw [if_neg (by omega)]
  refine Kn.al K5 fun b90 h6 K6 l6 hb90=>?_
  (refine kr_ ?_)
  exact fin y h5 h6 (p+2) b90 (Nat.le_refl _) K5 K6
set_option maxHeartbeats 1000000 in
theorem HJ {g h:Hp} {A X:List (Nat×Blk)} {B p N:Nat} {s:Sl} {bs:List Nat} {M:MSl} {m:aj} {R:Value->Hp->Prop} (K:Kn g h ((B,rdC s p)::(A++X))) (hb:ByteS g s bs) (o:MG X M m) (d:DM m N) (hN:N<=1000)
  (hne:0<m.nodes.length) (hp:p<=800000)
  (k: ∀h' p' X' M' m' (i:Nat),Kn g h' ((B,rdC s p')::(A++X'))->MG X' M' m'->DM m' (N+3)->i<m'.nodes.length->m.nodes.length<=m'.nodes.length->p'<=p+2*N+10->R (.tuple #[aR M',I i]) h'):
  kq #[.pointer (some ⟨B,0,none⟩),aR M] h R:=by
 apply AU
 refine uf_ ?_
 have hl:=o.lens
 have hsm:=d.small (by omega)
 have hdn:=d.nodes
 refine Kn.al K fun b8 h1 K1 l1 hb8=>?_
 refine Kn.al K1 fun b10 h2 K2 l2 hb10=>?_
 clear K K1 l1 l2 hb8 hb10
 (refine kr_ ?_)
 rw [show W ((M.no.n:Int)-1)=(m.nodes.length:Int)-1 by rw [ca (by omega) (by omega)];omega]
 refine nJ m.nodes.length (fun i vs h'=>vs= [.pointer (some ⟨B,0,none⟩), .pointer (some ⟨b8,0,none⟩), .pointer (some ⟨b10,0,none⟩),I ((i:Int)-1)]/\i<=m.nodes.length/\
  ∃q,q+i<=p+m.nodes.length/\Kn g h' ((b10, .inl ⟨cV,5,false⟩)::(b8, .inl ⟨av M,5,false⟩)::(B,rdC s q)::(A++X))) ⟨rfl,Nat.le_refl _,p,Nat.le_refl _,K2⟩ ?_
 clear K2 h1 h2 h
 rintro i _ h4 nxt ⟨rfl,hi,q,hq,K4⟩ hnx
 refine⟨_,b8,0,b10,0,_,rfl,?_⟩
 have hs:=o.modelS (A:=_::_::_::A) hsm K4
 cases i with
 |succ i=>
  rw [show (((i+1:Nat):Int)-1)=(i:Nat) by omega]
  refine aK (by rw [decide_eq_true_eq];omega) ?_
  refine ap (fun J=> ∀c h5 q,q+i<=p+m.nodes.length->Kn g h5 ((b10, .inl ⟨cV,5,false⟩)::(b8, .inl ⟨av M,5,false⟩)::(B,rdC s q)::(A++X))->J c h5) (fun c h5 q' hq' K5=>?_) (fun J hJ=>?_)
  ·refine ad (fun e=>?_) (fun e=>?_)
   ·clear K4
    repeat' (refine kr_ ?_)
    refine Ba K5 (by((focus ((repeat first|exact .head|apply Upd.tail);done)))) fun h6 K6=>?_
    exact k h6 q' X M m i K6.tl.tl o (d.more (by omega)) (by omega) (Nat.le_refl _) (by omega)
   ·rw [ca (by omega) (by omega)]
    exact hnx i (by omega) _ _ ⟨rfl,by omega,q',hq',K5⟩
  ·(refine kr_ ?_)
   obtain⟨n,hni⟩: ∃n,m.nodes[i]?=some n:=⟨_,List.getElem?_eq_getElem (by omega)⟩
   obtain⟨b,oo,ha,e0,e1,e2,e3,e4,e5,e6,e7,e8⟩:=hs.nodes.at hni
   refine⟨b,oo,ha,by omega,by omega,_,by rw [Int.toNat_natCast];exact e6,_,by rw [Int.toNat_natCast];exact e7,?_⟩
   refine bW ⟨_,_,rfl,?_⟩
   repeat' (refine kr_ ?_)
   refine ad (fun e=>?_) (fun e=>?_)
   ·(refine kr_ ?_)
    refine⟨b,oo,ha,by omega,by omega,_,by rw [Int.toNat_natCast];exact e0,?_⟩
    refine ad (fun e=>?_) (fun e=>?_)
    ·refine kp_ ?_
     intro x h5 K5 hx _
     exact⟨_,rfl,hJ _ h5 (q+1) (by omega) K5⟩
    ·exact hJ _ h4 q (by omega) K4
   ·exact hJ _ h4 q (by omega) K4
 |zero=>
 refine aF (by rw [decide_eq_false_iff_not];omega) ?_
 clear hnx
 refine aw m.nodes.length (fun i vs h'=> ∃(a q:Nat),vs= [.pointer (some ⟨B,0,none⟩), .pointer (some ⟨b8,0,none⟩), .pointer (some ⟨b10,0,none⟩),I a,I i]/\a<m.nodes.length/\
  q<=p+m.nodes.length+i/\Kn g h' ((b10, .inl ⟨cV,5,false⟩)::(b8, .inl ⟨av M,5,false⟩)::(B,rdC s q)::(A++X))) ⟨0,q,rfl,hne,by omega,K4⟩ ?_
 clear K4 hq hs h4 hi q
 rintro i _ h4 nxt hi ⟨a,q,rfl,ha',hq,K4⟩ hnx
 refine⟨_,b8,0,b10,0,_,_,rfl,?_⟩
 have hs:=o.modelS (A:=_::_::_::A) hsm K4
 (refine kr_ ?_)
 obtain⟨na,hna⟩: ∃n,m.nodes[a]?=some n:=⟨_,List.getElem?_eq_getElem ha'⟩
 by_cases hlt:i<m.nodes.length
 ·refine aK (by rw [decide_eq_true_eq];omega) ?_
  refine ap (fun J=> ∀(c:Nat) h5 q,c<m.nodes.length->q<=p+m.nodes.length+(i+1)->Kn g h5 ((b10, .inl ⟨cV,5,false⟩)::(b8, .inl ⟨av M,5,false⟩)::(B,rdC s q)::(A++X))->J (c:Int) h5) (fun c h5 q' hc hq' K5=>?_) (fun J hJ=>?_)
  ·rw [aE (by omega)]
   exact hnx hlt _ _ ⟨c,q',rfl,hc,hq',K5⟩
  ·(refine kr_ ?_)
   obtain⟨n,hni⟩: ∃n,m.nodes[i]?=some n:=⟨_,List.getElem?_eq_getElem hlt⟩
   obtain⟨b,oo,ha,e0,_⟩:=hs.nodes.at hni
   refine⟨b,oo,ha,by omega,by omega,_,by rw [Int.toNat_natCast];exact e0,?_⟩
   refine ad (fun e=>?_) (fun e=>?_)
   ·(refine kr_ ?_)
    obtain⟨b,oo,ha,e0,_⟩:=hs.nodes.at hna
    refine⟨b,oo,ha,by omega,by omega,_,by rw [Int.toNat_natCast];exact e0,?_⟩
    refine ad (fun e=>?_) (fun e=>?_)
    ·exact hJ i h4 q hlt (by omega) K4
    ·refine kp_ ?_
     intro x h5 K5 hx _
     refine⟨_,rfl,ad (fun e=>?_) (fun e=>?_)⟩
     ·exact hJ i h5 _ hlt (by omega) K5
     ·exact hJ a h5 _ ha' (by omega) K5
   ·exact hJ a h4 q ha' (by omega) K4
 refine aF (by rw [decide_eq_false_iff_not];omega) ?_
 clear hnx
 repeat' (refine kr_ ?_)
 obtain⟨b,oo,ha,e0,e1,e2,e3,e4,e5,e6,e7,e8⟩:=hs.nodes.at hna
 refine⟨b,oo,ha,by omega,by omega,_,by rw [Int.toNat_natCast];exact e6,_,by rw [Int.toNat_natCast];exact e7,?_⟩
 refine td (p:=q) (A:=(b10, .inl ⟨cV,5,false⟩)::(b8, .inl ⟨av M,5,false⟩)::A) (st:=na.sort) (K4.perm ?_) hb o d (by omega) hne (by omega) (qq d hna) fun h5 q5 X5 M5 m5 i5 K5 o5 d5 hi5 hl5 hq5=>⟨_,_,_,_,_,_,rfl,?_⟩
 ·exact(List.Perm.cons _ (List.Perm.swap ..)).trans (List.Perm.swap ..)
 have K5':Kn g h5 ((b10, .inl ⟨cV,5,false⟩)::(b8, .inl ⟨av M,5,false⟩)::(B,rdC s q5)::(A++X5)):=K5.perm ((List.Perm.swap ..).trans (List.Perm.cons _ (List.Perm.swap ..)))
 clear K5 K4 hs e0 e1 e2 e3 e4 e5 e6 e7 e8 ha
 refine jI (M':=M5) K5' (by((focus ((repeat first|exact .head|apply Upd.tail);done)))) rfl fun h6 K6=>?_
 clear K5'
 have hl5':=o5.lens
 have hsm5:=d5.small (by omega)
 have hs6:=o5.modelS (A:=_::_::_::A) hsm5 K6
 obtain⟨nb,hnb⟩: ∃n,m5.nodes[a]?=some n:=⟨_,List.getElem?_eq_getElem (by omega)⟩
 refine ap (fun J=> ∀c,J c) (fun c=>?_) (fun J hJ=>?_)
 rotate_left
 ·refine ad (fun e=>?_) (fun e=>hJ _)
  (refine kr_ ?_)
  obtain⟨b,oo,ha,e0,e1,e2,e3,e4,e5,e6,e7,e8⟩:=hs6.nodes.at hnb
  exact⟨b,oo,ha,by omega,by omega,_,by rw [Int.toNat_natCast];exact e6,hJ _⟩
 have d5n:=d5.nodes
 refine ap (fun J=> ∀(x:Nat) h7 q X7 M7 m7,MG X7 M7 m7->DM m7 (N+2)->x<m7.nodes.length->m5.nodes.length<=m7.nodes.length->q<=q5+1->Kn g h7 ((b10, .inl ⟨cV,5,false⟩)::(b8, .inl ⟨av M7,5,false⟩)::(B,rdC s q)::(A++X7))->J (x:Int) h7)
  (fun x h7 q7 X7 M7 m7 o7 d7 hx7 hl7 hq7 K7=>?_) (fun J hJ=>?_)
 ·clear K6 hs6
  have hl7':=o7.lens
  have d7n:=d7.nodes
  (refine kr_ ?_)
  refine bW ⟨_,_,rfl,?_⟩
  repeat' (refine kr_ ?_)
  refine Kn.al K7 fun b173 h8 K8 l8 hb173=>?_
  repeat' (refine kr_ ?_)
  refine ku (H:=_::_::_::A) (nd:=⟨21,a,x,0,0,0,⟨0,1⟩,⟨#[]⟩⟩) o7 K8 (by omega) (.tail _ (.head _)) fun s' X9 h9 o9 KF=>?_
  have K9:=KF _ (by((focus ((repeat first|exact .head|apply Upd.tail);done))))
  simp only [List.cons_append]at K9
  clear KF K8 K7
  have hl9:=o9.lens
  repeat' (refine kr_ ?_)
  refine jI (M':={M7 with no:=s'}) K9 (by((focus ((repeat first|exact .head|apply Upd.tail);done)))) rfl fun h11 K11=>?_
  repeat' (refine kr_ ?_)
  rw [show W ((s'.n:Int)-1)=(m7.nodes.length:Nat) by
   have h1:=hl9.1
   simp at h1
   rw [ca (by omega) (by omega)];omega]
  exact k h11 q7 X9 _ _ m7.nodes.length K11.tl.tl o9 (d7.addN rfl (show (0:Nat)<=100 by omega)) (by simp) (by simp;omega) (by omega)
 ·refine ad (fun e=>?_) (fun e=>?_)
  rotate_left
  ·exact hJ i5 h6 q5 X5 M5 m5 o5 (d5.more (by omega)) hi5 (Nat.le_refl _) (by omega) K6
  have hok:=qq d5 hnb
  obtain⟨_,hw1,hw2⟩:=lV hok
  obtain⟨b,oo,ha,e0,e1,e2,e3,e4,e5,e6,e7,e8⟩:=hs6.nodes.at hnb
  obtain⟨bN,xN,haN,hmN⟩:=o5.blk (by omega)
  repeat' (refine kr_ ?_)
  refine⟨b,oo,ha,by omega,by omega,_,by rw [Int.toNat_natCast];exact e7,?_⟩
  repeat' (refine kr_ ?_)
  refine⟨b,oo,ha,by omega,by omega,_,by rw [Int.toNat_natCast];exact e6,_,by rw [Int.toNat_natCast];exact e7,?_⟩
  rw [haN]at ha
  cases ha
  obtain⟨w,hw⟩: ∃w:Nat,nb.sort.wid=w:=⟨nb.sort.wid.toNat,by omega⟩
  have hp2:0<2^w:=Nat.two_pow_pos w
  have fin: ∀(y:Nat) (h8:Hp) (b:Nat),Kn g h8 ((b, .inl ⟨[I 34,I 0,I 0,I 0,I (Int.tmod y (2^w:Nat)),I 0,I nb.sort.idx,I nb.sort.wid, .string ⟨#[]⟩],9,false⟩)::(b10, .inl ⟨cV,5,false⟩)::(b8, .inl ⟨av M5,5,false⟩)::(B,rdC s (q5+1))::(A++X5))->
    cf h8 M5.no.a M5.no.n M5.no.c (some (Addr.mk b 0 none)) 1 9 80 fun a92 n93 k94 h95=> ∃(cs96:List Value) (z97:Nat),h95 b8=some (.inl ⟨cs96,z97,false⟩)/\0+1<=List.length cs96/\co (h95.row b8 (cB cs96 0 [(.slice a92 n93 k94)]) z97) fun h148=>
     ∃s150:Sl,Hp.cell h148 b8 0=some s150.v/\J (W ((s150.n:Int)-1)) h148:=by
   intro y h8 b K8
   refine ku (H:=_::_::_::A) (nd:=⟨34,0,0,0,Int.tmod y (2^w:Nat),0,nb.sort,⟨#[]⟩⟩) o5 K8 (by omega) (.tail _ (.head _)) fun s' X9 h9 o9 KF=>?_
   have K9:=KF _ (by((focus ((repeat first|exact .head|apply Upd.tail);done))))
   simp only [List.cons_append]at K9
   clear KF K8 K6
   have hl9:=o9.lens
   (refine kr_ ?_)
   rw [show W ((s'.n:Int)-1)=(m5.nodes.length:Nat) by
    have h1:=hl9.1
    simp at h1
    rw [ca (by omega) (by omega)];omega]
   exact hJ m5.nodes.length h9 (q5+1) X9 _ _ o9 (d5.addN hok (show (0:Nat)<=100 by omega)) (by simp) (by simp) (by omega) K9
  refine⟨?_,?_⟩
  ·refine kp_ ?_
   intro y h7 K7 hy _
   refine⟨_,rfl,?_⟩
   have hq:h7 b=h6 b:=by rw [K7.at (.tail _ (.tail _ (.tail _ (List.mem_append_right _ hmN)))),K6.at (.tail _ (.tail _ (.tail _ (List.mem_append_right _ hmN))))]
   repeat' (first|(refine kr_ ?_)|refine And.intro hq ?_)
   rw [hw,cz (by omega),if_neg (by omega),bU (by omega),if_neg (by omega),<-hw]
   refine Kn.al K7 fun b90 h8 K8 l8 hb90=>?_
   (refine kr_ ?_)
   exact fin y h8 b90 K8
  ·repeat' (refine kr_ ?_)
   rw [hw,cz (by omega),if_neg (by omega),bU (by omega),<-hw]
   refine kp_ ?_
   intro y h7 K7 hy _
   refine⟨_,rfl,?_⟩
   have hq:h7 b=h6 b:=by rw [K7.at (.tail _ (.tail _ (.tail _ (List.mem_append_right _ hmN)))),K6.at (.tail _ (.tail _ (.tail _ (List.mem_append_right _ hmN))))]
   repeat' (first|(refine kr_ ?_)|refine And.intro hq ?_)
   rw [if_neg (by omega)]
   refine Kn.al K7 fun b90 h8 K8 l8 hb90=>?_
   (refine kr_ ?_)
   exact fin y h8 b90 K8
end Go.Lead
