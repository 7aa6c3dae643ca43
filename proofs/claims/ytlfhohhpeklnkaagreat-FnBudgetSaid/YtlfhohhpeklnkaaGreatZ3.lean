/- What functions of the program and of the reference come to, walked one by one, and plain laws about it: part 4. No condition is added to the statement. -/
import Derived.Test.YtlfhohhpeklnkaaGreatZ2
namespace Go.Lead
open Go
set_option linter.unusedSimpArgs false
set_option linter.unusedVariables false
set_option maxRecDepth 100000
set_option maxHeartbeats 1000000
def dJ (f:Nat->Bool) (c n:Nat):List Value:=(List.range n).map fun i=> .bool (decide (i<c)&&f i)
def kJ (f:Nat->Nat) (c n:Nat):List Value:=(List.range n).map fun i=>I ((if i<c then f i else 0:Nat):Int)
theorem wR (f:Nat->Bool) (c n:Nat):(dJ f c n).length=n:=by simp [dJ]
theorem Nx (f:Nat->Nat) (c n:Nat):(kJ f c n).length=n:=by simp [kJ]
theorem kN (f:Nat->Bool) (n:Nat):List.replicate n (.bool false)=dJ f 0 n:=by
 apply List.ext_getElem
 ·simp [dJ]
 ·intro i h1 h2;simp [dJ]
theorem DF (f:Nat->Nat) (n:Nat):List.replicate n (I 0)=kJ f 0 n:=by
 apply List.ext_getElem
 ·simp [kJ]
 ·intro i h1 h2;simp [kJ]
theorem wZ {f:Nat->Bool} {c n:Nat} (h:c<n):(dJ f c n).set c (.bool (f c))=dJ f (c+1) n:=by
 apply List.ext_getElem
 ·simp [dJ]
 ·intro i h1 h2
  simp only [dJ,List.getElem_set,List.getElem_map,List.getElem_range]
  by_cases e:c=i
  ·subst e;simp
  ·rw [if_neg e]
   have:decide (i<c)=decide (i<c+1):=by rw [Bool.eq_iff_iff,decide_eq_true_eq,decide_eq_true_eq];omega
   rw [this]
theorem NV {f:Nat->Nat} {c n:Nat} (h:c<n):(kJ f c n).set c (I (f c:Nat))=kJ f (c+1) n:=by
 apply List.ext_getElem
 ·simp [kJ]
 ·intro i h1 h2
  simp only [kJ,List.getElem_set,List.getElem_map,List.getElem_range]
  by_cases e:c=i
  ·subst e;simp
  ·rw [if_neg e]
   by_cases h:i<c
   ·rw [if_pos h,if_pos (by omega)]
   ·rw [if_neg h,if_neg (by omega)]
theorem xj (f:Nat->Bool) (n:Nat):dJ f n n=((List.range n).map f).map Value.bool:=by
 apply List.ext_getElem
 ·simp [dJ]
 ·intro i h1 h2
  have hi:i<n:=by simpa [dJ] using h1
  simp [dJ,hi]
theorem NT (f:Nat->Nat) (n:Nat):kJ f n n=(VL ((List.range n).map f)).map I:=by
 apply List.ext_getElem
 ·simp [kJ,VL]
 ·intro i h1 h2
  have hi:i<n:=by simpa [kJ] using h1
  simp [kJ,VL,hi]
theorem ge.keep {h h':Hp} {s:Sl} {vs:List (List Nat)} {b z:Nat} {cs:List Value} {ro:Bool} (e:ge h s vs) (f:h b=some (.inl ⟨cs,z,ro⟩)) (hn:yS cs) (hsl: ∀(j:Nat) (t:Sl),cs[j]?≠some t.v) (kp: ∀c,c≠b->h' c=h c):ge h' s vs:=by
 refine⟨e.1,e.2.1,fun p hp=>?_⟩
 obtain⟨b',o,t,h1,h2,h3⟩:=e.2.2 p hp
 refine⟨b',o,t,h1,?_,h3.keepN f hn kp⟩
 have hne:b'≠b:=by
  rintro rfl
  rw [aq f]at h2
  exact hsl _ _ h2
 unfold Hp.cell at h2⊢
 rw [kp b' hne];exact h2
theorem Di (f:Nat->Bool) (c n:Nat):yS (dJ f c n):=by
 intro j i h
 simp only [dJ,List.getElem?_map,Option.map_eq_some_iff]at h
 obtain⟨a,_,h⟩:=h
 cases h
theorem FR (f:Nat->Bool) (c n:Nat): ∀(j:Nat) (t:Sl),(dJ f c n)[j]?≠some t.v:=by
 intro j t h
 simp only [dJ,List.getElem?_map,Option.map_eq_some_iff]at h
 obtain⟨a,_,h⟩:=h
 cases h
abbrev L9 (M:MSl) (n k:Int) (st hold bad:Sl) (fixed:Int) (next:Sl) (bf ba:Int):List Value:= [M.no.v,M.ini.v,M.nex.v,M.bad.v,M.hol.v,I n,I k,st.v,hold.v,bad.v,I fixed,next.v,I bf,I ba]
abbrev arr (b n:Nat):Sl:=⟨some ⟨b,0,none⟩,n,n⟩
def sv (m:ai) (bH bB bN c:Nat):List (Nat×Blk):=
 [(bH, .inl ⟨dJ (aG m).hold c (2^(ak m.nodes 36+ak m.nodes 35)),2^(ak m.nodes 36+ak m.nodes 35),false⟩),
  (bB, .inl ⟨dJ (aG m).bad c (2^(ak m.nodes 36+ak m.nodes 35)),2^(ak m.nodes 36+ak m.nodes 35),false⟩),
  (bN, .inl ⟨kJ (aG m).next c (2^(ak m.nodes 36+ak m.nodes 35)),2^(ak m.nodes 36+ak m.nodes 35),false⟩)]
theorem z8 (m:ai) (v:List (List Nat)):decide (DK m v>=0)=(qq m v).isSome:=by
 unfold DK
 cases qq m v with
 |none=>rfl
 |some d=>simp
theorem BJ {g h:Hp} {M:MSl} {m:ai} {st t:Sl} {b7 b103 bx bH bB bN c:Nat} {n k f0 f1 f2:Int} {z1 z2 z3:Nat} {R:Value->Hp->Prop} (hs:aN g M m) (hm:bW m) (gd:dP m)
  (f7:g b7=some (.inl ⟨aw M,z1,false⟩)) (f103:g b103=some (.inl ⟨[.pointer (some ⟨bx,0,none⟩)],z2,false⟩))
  (fx:g bx=some (.inl ⟨L9 M n k st (arr bH (2^(ak m.nodes 36+ak m.nodes 35))) (arr bB (2^(ak m.nodes 36+ak m.nodes 35))) f0 (arr bN (2^(ak m.nodes 36+ak m.nodes 35))) f1 f2,z3,false⟩))
  (hst:IntS g st (VL (stP m))) (hc:c<2^(ak m.nodes 36+ak m.nodes 35)) (K:Kn g h (sv m bH bB bN c))
  (hpv:ge h t (cK m (c%2^ak m.nodes 36) (c/2^ak m.nodes 36)))
  (kk: ∀h',Kn (h.wo [bH,bB,bN]) h' (sv m bH bB bN (c+1))->R (.tuple #[]) h'):
  qM #[I c,t.v, .pointer (some ⟨b7,0,none⟩), .pointer (some ⟨b103,0,none⟩)] h R:=by
 apply yH
 refine uf_ ?_
 have a:Bj m (cK m (c%2^ak m.nodes 36) (c/2^ak m.nodes 36)):=eA gd _ _
 have hp13:=LW gd
 have hv1:(aG m).hold c=iP m (cK m (c%2^ak m.nodes 36) (c/2^ak m.nodes 36)):=rfl
 have hv2:(aG m).bad c=(qq m (cK m (c%2^ak m.nodes 36) (c/2^ak m.nodes 36))).isSome:=rfl
 have hv3:(aG m).next c=dZ m.nodes (stP m) (gv m (cK m (c%2^ak m.nodes 36) (c/2^ak m.nodes 36))):=rfl
 generalize hv:cK m (c%2^ak m.nodes 36) (c/2^ak m.nodes 36)=v at*
 generalize hN:2^(ak m.nodes 36+ak m.nodes 35)=N at*
 have lg:g.le (h.wo [bH,bB,bN]):=K.leBase
 have K0:Kn (h.wo [bH,bB,bN]) h (sv m bH bB bN c):=K.base
 unfold sv at K0 kk
 rw [hN]at K0 kk
 clear K
 have hs':=hs.mono lg
 have f7':=lg _ _ f7
 have f103':=lg _ _ f103
 have fx':=lg _ _ fx
 have hst':=hst.mono lg
 have x7:=eJ f7'
 have x103:=eJ f103'
 have xx:=eJ fx'
 generalize h.wo [bH,bB,bN]=g1 at*
 clear lg fx f103 f7 hst hs
 repeat' (refine kr_ ?_)
 refine Gh (hs'.mono K0.le) gd hpv a ⟨_,rfl,?_⟩
 repeat' (refine kr_ ?_)
 refine⟨by omega,by dsimp only;omega,?_⟩
 (((with_reducible apply Kn.wr);(assumption);((focus ((repeat first|exact .head|apply Upd.tail);done)))))
 ·rw [wR];omega
 intro h24 K1 kp1
 have hpv1:=hpv.keep (K0.at (.head _)) (Di _ _ _) (FR _ _ _) kp1
 rw [<-hv1,bP,Nat.zero_add,Int.toNat_natCast,Nat.mul_one,wZ hc]at K1
 repeat' (refine kr_ ?_)
 refine ME (hs'.mono K1.le) gd hpv1 a ⟨_,rfl,?_⟩
 repeat' (refine kr_ ?_)
 refine⟨by omega,by dsimp only;omega,?_⟩
 (((with_reducible apply Kn.wr);(assumption);((focus ((repeat first|exact .head|apply Upd.tail);done)))))
 ·rw [wR];omega
 intro h42 K2 kp2
 have hpv2:=hpv1.keep (K1.at (.tail _ (.head _))) (Di _ _ _) (FR _ _ _) kp2
 rw [z8,<-hv2,bP,Nat.zero_add,Int.toNat_natCast,Nat.mul_one,wZ hc]at K2
 repeat' (refine kr_ ?_)
 refine C8 (hs'.mono K2.le) hm gd hpv2 a fun out h63 l63 hout=>⟨out,rfl,?_⟩
 have K3:=K2.mono l63
 repeat' (refine kr_ ?_)
 refine Cw (hs'.mono K3.le) hm gd.ok (hst'.mono K3.le) (cH gd 36) (iw gd 36) hout (oV gd a.fit) (by rw [fy gd];have:=gd.n8;omega) ⟨_,rfl,?_⟩
 repeat' (refine kr_ ?_)
 refine⟨by omega,by dsimp only;omega,?_⟩
 (((with_reducible apply Kn.wr);(assumption);((focus ((repeat first|exact .head|apply Upd.tail);done)))))
 ·rw [Nx];omega
 intro h72 K4 kp4
 rw [<-hv3,bP,Nat.zero_add,Int.toNat_natCast,Nat.mul_one,NV hc]at K4
 exact kk h72 K4
def BG (h:Hp) (t:Sl) (n:Nat) (f:Nat->Nat):Prop:=IntS h t (VL ((List.range n).map f))
theorem BG.mono {h h':Hp} {t:Sl} {n:Nat} {f:Nat->Nat} (l:h.le h') (e:BG h t n f):BG h' t n f:=SlC.mono l e
def nk (h:Hp) (b:Nat) (σ:aC):Prop:= ∃(M:MSl) (st hold bad next:Sl),h b=some (.inl ⟨L9 M σ.n σ.k st hold bad σ.fixed next σ.bfix σ.bas,14,false⟩)/\
 cY h hold (2^(σ.n+σ.k)) σ.hold/\cY h bad (2^(σ.n+σ.k)) σ.bad/\BG h next (2^(σ.n+σ.k)) σ.next
theorem nk.mono {h h':Hp} {b:Nat} {σ:aC} (l:h.le h') (e:nk h b σ):nk h' b σ:=by
 obtain⟨M,st,hold,bad,next,h1,h2,h3,h4⟩:=e
 exact⟨M,st,hold,bad,next,l _ _ h1,h2.mono l,h3.mono l,h4.mono l⟩
theorem QC {g h:Hp} {L:List (Nat×Blk)} {M:MSl} {m:ai} {kind:Int} {R:Value->Hp->Prop} (K:Kn g h L) (hs:aN g M m) (hm:bW m) (gd:dP m)
  (k: ∀t h' g',Kn g' h' L->IntS g' t (VL (aU m.nodes kind))->g.le g'->h.le h'->R (Sl.v t) h'):bJ #[aO M,I kind] h R:=
 lZ (hs.mono K.le) hm fun t h' l hn hb=>by
  have l':=Hp.le_trans l (bk _ _)
  have K':=K.mono l'
  refine k t h' _ K'.base ?_ K'.leBase l'
  have:=gd.nl
  exact(hb.wo l K.has).slc_of (by omega)
def Cd (m:ai) (j p:Nat):List Nat:=((ce (m.inits.take j) p).map fun k=>mO (aK m.nodes p) ((od m).getD k [])).getD (List.replicate (aK m.nodes p) 0)
theorem SG (m:ai) (p:Nat):Cd m m.inits.length p=(eW m p).getD (List.replicate (aK m.nodes p) 0):=by
 unfold Cd eW;rw [List.take_length]
theorem Qf {m:ai} (g:dP m) {j:Nat} {b:BindP} (hb:m.inits[j]?=some b) (p:Nat):Cd m (j+1) p=if b.state=(p:Int)then mO (aK m.nodes p) ((od m).getD b.node.toNat [])else Cd m j p:=by
 unfold Cd
 rw [Fq (qi g.twice).2.1 hb]
 split<;>rfl
theorem Qr (m:ai) {i p:Nat} (h:(stP m)[i]?=some p):(lk m).getD i []=Cd m m.inits.length p:=by
 rw [SG]
 unfold lk kw
 rw [List.getD_eq_getElem?_getD,List.getElem?_map,h];rfl
theorem uj {m:ai} (g:dP m) {b:BindP} (hb:b∈m.inits):0<=b.node/\b.node<m.nodes.length/\0<((od m).getD b.node.toNat []).length/\((od m).getD b.node.toNat []).length<=4/\0<=b.state/\b.state<m.nodes.length:=by
 obtain⟨q1,q2,q3,q4,_⟩:=Al (g.ini b hb)
 have q2':=fg.1 q2
 have q1':=fg.1 q1
 have hf:=(wH g).fit b.node.toNat (by omega) (by omega)
 have:=(ur g.ok (show b.node.toNat<m.nodes.length by omega) hf).1
 refine⟨q2'.1,q2'.2,hf.pos,?_,q1'.1,q1'.2⟩
 rw [this];exact dj _ _
set_option maxHeartbeats 4000000 in
theorem eX {h:Hp} {M:MSl} {m:ai} {R:Value->Hp->Prop} (hs:aN h M m) (hm:bW m)
  (k0: ∀h',h.le h'->ax m≠0->R (.tuple #[.pointer none, .bool false]) h')
  (k1:ax m=0->dP m-> ∀b h',h.le h'->nk h' b (aG m)->R (.tuple #[.pointer (some ⟨b,0,none⟩), .bool true]) h'):dk #[aO M] h R:=by
 apply CB
 refine uf_ ?_
 have K0:=Kn.nil h
 (with_reducible apply Kn.al);(assumption);(intro b7 h1 K1 l1 hb7)
 repeat' (refine kr_ ?_)
 refine lj (hs.mono l1) hm ⟨_,rfl,ac (fun e=>k0 h1 l1 (gH e)) (fun e=>?_)⟩
 have hcode:=fD e
 have gd:=co hcode
 replace k1:=k1 hcode gd
 clear k0 e hcode l1 hb7 K0
 have hn8:=gd.n8
 have hk5:=gd.k5
 have hp13:=LW gd
 have hp13':=bD (ak m.nodes 36+ak m.nodes 35)
 refine ap (fun J=> ∀(bp bx:Nat) (h' g':Hp) (t:Sl) (L0:List (Nat×Blk)),Kn g' h' L0->(bp, .inl ⟨[.pointer (some ⟨bx,0,none⟩)],1,false⟩)∈L0->
  (bx, .inl ⟨L9 M (ak m.nodes 36) (ak m.nodes 35) t ⟨none,0,0⟩ ⟨none,0,0⟩ 0 ⟨none,0,0⟩ 0 0,14,false⟩)∈L0->(b7, .inl ⟨aw M,5,false⟩)∈L0->h.le g'->IntS g' t (VL (stP m))->J bp 0 h') ?_ (fun J hJ=>?_)
 rotate_left
 ·repeat' (first
   |(refine kr_ ?_)
   |(refine eP (hs.mono (Kn.le (by assumption))) hm ⟨_,rfl,?_⟩)
   |(refine QC (by assumption) hs hm gd fun _ _ _ _ _ _ _=>⟨_,rfl,?_⟩)
   |((with_reducible apply Kn.al);(assumption);(intro _ _ _ _ _))
   |((((with_reducible apply Kn.wr);(assumption);((focus ((repeat first|exact .head|apply Upd.tail);done)))));(exact Nat.le_refl _);(intro _ _ _))
   |((with_reducible apply hJ)<;>first|assumption|((focus ((repeat first|exact .head _|apply List.Mem.tail);done))))
   |(refine And.intro ?_ ?_))
 intro bp bx h2 g2 st L0 K2' mp mx m7 l2 hst
 have K2:Kn g2 h2 [(bp, .inl ⟨[.pointer (some ⟨bx,0,none⟩)],1,false⟩),(bx, .inl ⟨L9 M (ak m.nodes 36) (ak m.nodes 35) st ⟨none,0,0⟩ ⟨none,0,0⟩ 0 ⟨none,0,0⟩ 0 0,14,false⟩),(b7, .inl ⟨aw M,5,false⟩)]:=by
  refine K2'.sub (fun e he=>?_) ?_
  ·simp only [List.mem_cons,List.not_mem_nil,or_false]at he
   rcases he with rfl|rfl|rfl<;>assumption
  ·have n1:=dH (K2'.at mp) (K2'.at mx) (by simp)
   have n2:=dH (K2'.at mp) (K2'.at m7) (by simp)
   have n3:=dH (K2'.at mx) (K2'.at m7) (by simp)
   simp [n1,n2,n3]
 clear K2' mp mx m7 L0 K1
 have hs2:=hs.mono l2
 repeat' (refine kr_ ?_)
 rw [bV (n:=((ak m.nodes 36:Nat):Int)+((ak m.nodes 35:Nat):Int)) (by omega) (by omega),if_neg (by omega),<-Int.natCast_add,bG (by omega)]
 generalize hN:2^(ak m.nodes 36+ak m.nodes 35)=N at*
 have tN:Int.toNat (N:Int)=N:=Int.toNat_natCast N
 have nN:N*1=N:=Nat.mul_one N
 have zB:aQ #[.bool false] N=dJ (aG m).hold 0 N:=by rw [cj,kN]
 have zI:aQ #[I 0] N=kJ (aG m).next 0 N:=by rw [cj,DF]
 simp only [tN,nN,zB,zI]
 clear tN nN zB zI
 refine ap (fun J=> ∀(bH bB bN:Nat) (h':Hp) (L0:List (Nat×Blk)),Kn g2 h' L0->(bp, .inl ⟨[.pointer (some ⟨bx,0,none⟩)],1,false⟩)∈L0->
  (bx, .inl ⟨L9 M (ak m.nodes 36) (ak m.nodes 35) st (arr bH N) (arr bB N) 0 (arr bN N) 0 0,14,false⟩)∈L0->(b7, .inl ⟨aw M,5,false⟩)∈L0->
  (bH, .inl ⟨dJ (aG m).hold 0 N,N,false⟩)∈L0->(bB, .inl ⟨dJ (aG m).hold 0 N,N,false⟩)∈L0->(bN, .inl ⟨kJ (aG m).next 0 N,N,false⟩)∈L0->(bH≠bB/\bH≠bN/\bB≠bN)->J h') ?_ (fun J hJ=>?_)
 rotate_left
 ·repeat' (first
   |(refine kr_ ?_)
   |((with_reducible apply Kn.al);(assumption);(intro _ _ _ _ _))
   |(refine And.intro (by omega) ?_)
   |((((with_reducible apply Kn.wr);(assumption);((focus ((repeat first|exact .head|apply Upd.tail);done)))));(exact of_decide_eq_true rfl);(intro _ _ _))
   |((with_reducible apply hJ)<;>first|assumption|((focus ((repeat first|exact .head _|apply List.Mem.tail);done)))|((have hnd:=Kn.nd (by assumption);simp only [List.map_cons,List.map_nil,List.nodup_cons,List.mem_cons,List.not_mem_nil,not_or,or_false,not_false_eq_true,and_true,List.nodup_nil]at hnd;omega)))
   |(refine And.intro ?_ ?_))
 intro bH bB bN h3 L0 K3' mp mx m7 mH mB mN hne
 have e0:dJ (aG m).hold 0 N=dJ (aG m).bad 0 N:=by rw [<-kN,<-kN]
 rw [e0]at mB
 have n1:=dH (K3'.at mp) (K3'.at mx) (by simp)
 have n2:=dH (K3'.at mp) (K3'.at m7) (by simp)
 have n3:=dH (K3'.at mx) (K3'.at m7) (by simp)
 have hb1: ∀b∈ [bH,bB,bN],g2 b=none:=by
  intro b hb
  simp only [List.mem_cons,List.not_mem_nil,or_false]at hb
  rcases hb with rfl|rfl|rfl
  ·exact K3'.new _ mH
  ·exact K3'.new _ mB
  ·exact K3'.new _ mN
 have h0b:(dJ (aG m).hold 0 N)[0]?=some (.bool false):=by rw [<-kN,List.getElem?_replicate,if_pos hp13']
 have h0b2:(dJ (aG m).bad 0 N)[0]?=some (.bool false):=by rw [<-kN,List.getElem?_replicate,if_pos hp13']
 have h0n:(kJ (aG m).next 0 N)[0]?=some (I 0):=by rw [<-DF,List.getElem?_replicate,if_pos hp13']
 have dif: ∀{b c:Nat} {cs ds:List Value} {z y:Nat} {v w:Value},(b, .inl ⟨cs,z,false⟩)∈L0->(c, .inl ⟨ds,y,false⟩)∈L0->cs[0]?=some v->ds[0]?=some w->v≠w->b≠c:=by
  intro b c cs ds z y v w hb hc e1 e2 hvw hbc
  subst hbc
  have:=(K3'.at hb).symm.trans (K3'.at hc)
  simp only [Option.some.injEq,Sum.inl.injEq,Row.mk.injEq]at this
  rw [this.1,e2]at e1
  exact hvw (Option.some.inj e1).symm
 have K3:Kn g2 h3 (sv m bH bB bN 0++ [(bp, .inl ⟨[.pointer (some ⟨bx,0,none⟩)],1,false⟩),(bx, .inl ⟨L9 M (ak m.nodes 36) (ak m.nodes 35) st (arr bH N) (arr bB N) 0 (arr bN N) 0 0,14,false⟩),(b7, .inl ⟨aw M,5,false⟩)]):=by
  refine K3'.sub (fun e he=>?_) ?_
  ·simp only [sv,hN,List.mem_append,List.mem_cons,List.not_mem_nil,or_false]at he
   rcases he with (rfl|rfl|rfl)|rfl|rfl|rfl<;>assumption
  ·have a1:=dif mH mp h0b rfl (by simp)
   have a2:=dif mH mx h0b rfl (by simp)
   have a3:=dif mH m7 h0b rfl (by simp)
   have a4:=dif mB mp h0b2 rfl (by simp)
   have a5:=dif mB mx h0b2 rfl (by simp)
   have a6:=dif mB m7 h0b2 rfl (by simp)
   have a7:=dif mN mp h0n rfl (by simp)
   have a8:=dif mN mx h0n rfl (by simp)
   have a9:=dif mN m7 h0n rfl (by simp)
   simp [sv,hne.1,hne.2.1,hne.2.2,n1,n2,n3,a1,a2,a3,a4,a5,a6,a7,a8,a9]
 clear dif h0b h0b2 h0n e0 n1 n2 n3 mp mx m7 mH mB mN K3' L0 K2
 have Kf:Kn g2 h3 (sv m bH bB bN 0):=K3.sub (fun e he=>List.mem_append_left _ he) (by simp [sv,hne.1,hne.2.1,hne.2.2])
 have nB: ∀b∈ [bp,bx,b7],b∉ [bH,bB,bN]:=by
  have hnd:=K3.nd
  simp only [sv,List.cons_append,List.nil_append,List.map_cons,List.map_nil,List.nodup_cons,List.mem_cons,List.not_mem_nil,not_or,or_false,not_false_eq_true,and_true,List.nodup_nil]at hnd
  intro b hb hb2
  simp only [List.mem_cons,List.not_mem_nil,or_false]at hb hb2
  omega
 have f7:(h3.wo [bH,bB,bN]) b7=some (.inl ⟨aw M,5,false⟩):=by
  rw [rj (nB _ (by simp))];exact K3.at (by simp)
 have fp:(h3.wo [bH,bB,bN]) bp=some (.inl ⟨[.pointer (some ⟨bx,0,none⟩)],1,false⟩):=by
  rw [rj (nB _ (by simp))];exact K3.at (by simp)
 have fx:(h3.wo [bH,bB,bN]) bx=some (.inl ⟨L9 M (ak m.nodes 36) (ak m.nodes 35) st (arr bH N) (arr bB N) 0 (arr bN N) 0 0,14,false⟩):=by
  rw [rj (nB _ (by simp))];exact K3.at (by simp)
 have lB:g2.le (h3.wo [bH,bB,bN]):=Kf.leBase
 have hsB:=hs2.mono lB
 have hstB:=hst.mono lB
 have Kr:=Kn.of (vQ h3 [bH,bB,bN])
 repeat' (refine kr_ ?_)
 subst hN
 refine QM (B:= [bH,bB,bN]) (st:=fun c h'=>Kn (h3.wo [bH,bB,bN]) h' (sv m bH bB bN c)) hsB hm gd Kf.has (fun c h1 h2 K l=>K.mono l) Kf.base (fun c hc h4 t l4 K hpv R' hR'=>?_) (fun h4 l4 K4=>⟨rfl,?_⟩)
 ·exact BJ hsB hm gd f7 fp fx hstB hc K hpv fun h5 K5=>hR' h5 ⟨Hp.le_trans K.leBase K5.le,K5.mem,fun e he=>by
   have:=K5.nd
   exact aF K.leBase (K5.new e he),K5.nd⟩ K5.le
 have K5:Kn g2 h4 (sv m bH bB bN (2^(ak m.nodes 36+ak m.nodes 35))++ [(bp, .inl ⟨[.pointer (some ⟨bx,0,none⟩)],1,false⟩),(bx, .inl ⟨L9 M (ak m.nodes 36) (ak m.nodes 35) st (arr bH (2^(ak m.nodes 36+ak m.nodes 35))) (arr bB (2^(ak m.nodes 36+ak m.nodes 35))) 0 (arr bN (2^(ak m.nodes 36+ak m.nodes 35))) 0 0,14,false⟩),(b7, .inl ⟨aw M,5,false⟩)]):=by
  refine⟨Hp.le_trans lB l4,fun e he=>?_,fun e he=>?_,K3.nd⟩
  ·rcases List.mem_append.1 he with he|he
   ·exact K4.mem e he
   ·simp only [List.mem_cons,List.not_mem_nil,or_false]at he
    rcases he with rfl|rfl|rfl
    ·exact l4 _ _ fp
    ·exact l4 _ _ fx
    ·exact l4 _ _ f7
  ·rcases List.mem_append.1 he with he|he
   ·have hm:e.1∈ [bH,bB,bN]:=by
     simp only [sv,List.mem_cons,List.not_mem_nil,or_false]at he
     rcases he with rfl|rfl|rfl<;>simp
    exact hb1 _ hm
   ·exact K3.new e (List.mem_append_right _ he)
 unfold sv at K5
 simp only [List.cons_append,List.nil_append]at K5
 clear K4 Kr hstB hsB lB fx fp f7 nB Kf K3 l4 h3
 have hil:=gd.il
 have hxl:=gd.xl
 have hin:=hs2.inits.len
 have hp36:(stP m).length<=m.nodes.length:=eU m.nodes 36
 have hnl:=gd.nl
 have hstn:st.n=(stP m).length:=by have:=hst.len;rw [bz]at this;exact this
 repeat' (refine kr_ ?_)
 refine xa (hs2.mono K5.le) hm gd (hs2.mono K5.le).nexts (by omega) ⟨_,rfl,?_⟩
 repeat' (refine kr_ ?_)
 refine kw_ ?_
 intro h5 K6 _
 clear K5
 repeat' (refine kr_ ?_)
 refine Bz (hs2.mono K6.le) hm gd fun vt h6 l6 hvn hpv=>⟨vt,rfl,?_⟩
 have K7:=K6.mono l6
 clear K6 l6
 have hs6:=hs2.mono K7.le
 have hst6:=hst.mono K7.le
 have f7:h6 b7=some (.inl ⟨aw M,5,false⟩):=K7.at (by simp)
 have fp:h6 bp=some (.inl ⟨[.pointer (some ⟨bx,0,none⟩)],1,false⟩):=K7.at (by simp)
 repeat' (refine kr_ ?_)
 refine ri hs6 hm hst6 (cH gd 36) (iw gd 36) fun out ts h7 c1 hon=>⟨out,rfl,?_⟩
 have Kr:=Kn.of (Hp.le_trans c1.le (bk _ _))
 repeat' (refine kr_ ?_)
 have aV:=wH gd
 refine av m.inits.length (fun j vs h'=> ∃ts:List Sl,vs= [.pointer (some ⟨b7,0,none⟩), .pointer (some ⟨bp,0,none⟩),vt.v,out.v,M.ini.v,I M.ini.n,I j]/\h6.le (h'.offS out)/\Buf h' out 1 (ts.map Sl.v)/\ts.length=(stP m).length/\
  ∀(i p:Nat) (t:Sl),(stP m)[i]?=some p->ts[i]?=some t->IntS (h'.offS out) t (VL (Cd m j p))) ⟨ts,rfl,c1.le,c1.buf,by rw [c1.len,mq],fun i p t hp ht=>?_⟩ ?_
 ·obtain⟨b,e1,e2,e3⟩:=c1.row i t ht
  have hz:(da m.nodes (stP m)).getD i []=Cd m 0 p:=by
   unfold da Cd
   rw [List.getD_eq_getElem?_getD,List.getElem?_map,hp];rfl
  have hz4:((da m.nodes (stP m)).getD i []).length<=4:=by
   unfold da
   rw [List.getD_eq_getElem?_getD,List.getElem?_map,hp]
   simp only [Option.map_some,Option.getD_some,List.length_replicate]
   exact dj _ _
  rw [hz]at e1 e3 hz4
  rw [e1]
  exact⟨by dsimp only;omega,by simp [bz], .inr ⟨b,0,rfl,ay e3⟩⟩
 clear c1 Kr ts h7
 rintro j _ h8 next hj ⟨ts,rfl,l8,hbuf,htl,hts⟩ hnx
 have lo:=bk h8 out
 have l68:=Hp.le_trans l8 lo
 refine⟨_,_,_,_,vt,out,M.ini,_,_,rfl,?_⟩
 by_cases hlt:j<m.inits.length
 rotate_left
 ·have hje:j=m.inits.length:=by omega
  subst hje
  refine aD (by simp;omega) ?_
  have K9:=K7.mono l68
  have hbl:(lk m).length=(stP m).length:=by unfold lk kw;rw [List.length_map]
  have iss:IntSS h8 out ((lk m).map VL):=⟨ts,by rw [List.length_map,hbl];exact htl,hbuf.slc_of (by rw [hon];have:=iw gd 36;omega),fun i h1 h2=>by
   have hi:i<(stP m).length:=by omega
   have hpi:(stP m)[i]?=some (stP m)[i]:=List.getElem?_eq_getElem hi
   have:=(hts i _ _ hpi (List.getElem?_eq_getElem h1)).mono lo
   rw [<-Qr m hpi]at this
   rw [List.getElem_map]
   rwa [List.getD_eq_getElem?_getD,List.getElem?_eq_getElem (by rw [hbl];exact hi)]at this⟩
  have hs8:=hs6.mono l68
  clear hbuf hts
  repeat' (refine kr_ ?_)
  refine xa hs8 hm gd hs8.inits (by omega) ⟨_,rfl,?_⟩
  repeat' (refine kr_ ?_)
  refine Cw hs8 hm gd.ok (hst6.mono l68) (cH gd 36) (iw gd 36) iss (xY gd) (by rw [fy gd];omega) ⟨_,rfl,?_⟩
  repeat' (refine kr_ ?_)
  refine kw_ ?_
  intro h9 K10 _
  repeat' (refine kr_ ?_)
  refine kw_ ?_
  intro h10 K11 _
  repeat' (refine kr_ ?_)
  refine k1 bx h10 (Hp.le_trans l2 K11.le) ⟨M,st,arr bH (2^(ak m.nodes 36+ak m.nodes 35)),arr bB (2^(ak m.nodes 36+ak m.nodes 35)),arr bN (2^(ak m.nodes 36+ak m.nodes 35)),K11.at (by((focus ((repeat first|exact .head _|apply List.Mem.tail);done)))),?_,?_,?_⟩
  ·refine⟨by dsimp only;omega,by simp [aG], .inr ⟨bH,0,rfl,?_⟩⟩
   have:=ay (K11.at (.head _))
   rwa [xj]at this
  ·refine⟨by dsimp only;omega,by simp [aG], .inr ⟨bB,0,rfl,?_⟩⟩
   have:=ay (K11.at (.tail _ (.head _)))
   rwa [xj]at this
  ·refine⟨by dsimp only;omega,by simp [aG,VL], .inr ⟨bN,0,rfl,?_⟩⟩
   have:=ay (K11.at (.tail _ (.tail _ (.head _))))
   rwa [NT]at this
 refine aJ (by simp;omega) ?_
 obtain⟨bd,hbd⟩: ∃bd,m.inits[j]?=some bd:=⟨_,List.getElem?_eq_getElem hlt⟩
 obtain⟨v1,v2,v3,v4,s1,s2⟩:=uj gd (List.mem_of_getElem? hbd)
 obtain⟨bi,oi,hai,cx1,cx2⟩:=(hs6.mono l68).inits.at hbd
 refine⟨bi,oi,hai,by omega,by omega,_,cx1,_,cx2,?_⟩
 refine aj fun b48 h9 hb48 l9 f48'=>?_
 (with_reducible apply cb);(exact f48');(exact l9);(exact hb48);(exact Nat.le_refl 2)
 intro h10 f48 kp l10
 have l10o:=bM out l10
 have f48o:=hbuf.offS_new hb48 f48
 clear f48' kp l9
 have Kr:=Kn.of (Hp.le_trans l68 l10)
 have fx6:=K7.at (b:=bx) (.tail _ (.tail _ (.tail _ (.tail _ (.head _)))))
 repeat' (refine kr_ ?_)
 refine av (stP m).length (fun q vs h'=> ∃ts:List Sl,vs= [.pointer (some ⟨b7,0,none⟩), .pointer (some ⟨bp,0,none⟩),vt.v,out.v, .pointer (some ⟨b48,0,none⟩),M.ini.v,I M.ini.n,I j,st.v,I st.n,I q]/\h6.le (h'.offS out)/\(h'.offS out) b48=some (.inl ⟨[I bd.state,I bd.node],2,false⟩)/\Buf h' out 1 (ts.map Sl.v)/\ts.length=(stP m).length/\
  ∀(i p:Nat) (t:Sl),(stP m)[i]?=some p->ts[i]?=some t->IntS (h'.offS out) t (VL (if i<q then Cd m (j+1) p else Cd m j p)))
  ⟨ts,rfl,Hp.le_trans l8 l10o,f48o,hbuf.mono l10,htl,fun i p t hp ht=>by rw [if_neg (by omega)];exact(hts i p t hp ht).mono l10o⟩ ?_
 clear Kr f48o l10o l10 f48 hb48 hbuf htl hts ts l68 lo l8 hai cx1 cx2 h9 h8 h10
 rintro q _ h8 next2 hq ⟨ts,rfl,l8,f48,hbuf,htl,hts⟩ hnx2
 have lo:=bk h8 out
 have l68:=Hp.le_trans l8 lo
 have g48:=lo _ _ f48
 refine⟨_,_,_,_,vt,out,_,_,_,_,_,st,_,_,rfl,?_⟩
 by_cases hlq:q<(stP m).length
 rotate_left
 ·refine aD (by simp;omega) ?_
  rw [aA (by omega)]
  refine hnx hlt _ _ ⟨ts,rfl,l8,hbuf,htl,fun i p t hp ht=>?_⟩
  have:=hts i p t hp ht
  rwa [if_pos (by have:=get_lt hp;omega)]at this
 refine aJ (by simp;omega) ?_
 obtain⟨p,hpq⟩: ∃p,(stP m)[q]?=some p:=⟨_,List.getElem?_eq_getElem hlq⟩
 have hpm:=cH gd 36 p (List.mem_of_getElem? hpq)
 obtain⟨bq,oq,hap,hcp⟩:=(hst6.mono l68).get (gp hpq)
 refine ap (fun J=> ∀(ts':List Sl) (h':Hp),h6.le (h'.offS out)->(h'.offS out) b48=some (.inl ⟨[I bd.state,I bd.node],2,false⟩)->Buf h' out 1 (ts'.map Sl.v)->ts'.length=(stP m).length->
  (∀(i p:Nat) (t:Sl),(stP m)[i]?=some p->ts'[i]?=some t->IntS (h'.offS out) t (VL (if i<q+1 then Cd m (j+1) p else Cd m j p)))->J h') ?_ (fun J hJ=>?_)
 ·intro ts' h' a1 a2 a3 a4 a5
  rw [aA (by omega)]
  exact hnx2 hlq _ _ ⟨ts',rfl,a1,a2,a3,a4,a5⟩
 refine⟨bq,oq,hap,by omega,by omega,_,hcp,?_⟩
 (refine az ?_)
 have hst':=Qf gd hbd p
 refine ac (fun e=>?_) (fun e=>?_)
 ·rw [if_pos (bU e).symm]at hst'
  have f78:=l68 _ _ f7
  (refine az ?_)
  obtain⟨bn,on,han,hpn',c6,c7,w1,w16⟩:=(hs6.mono l68).nodes.sortc2 hpm gd.ok
  refine⟨bn,on,han,by omega,hpn',_,c6,_,c7,?_⟩
  (refine az ?_)
  obtain⟨bv,ov,t,hav,hvn',hcv,ht⟩:=(hpv.mono l68).at v1 (by rw [aV.len];exact v2)
  refine⟨bv,ov,hav,v1,hvn',t,hcv,?_⟩
  refine xz ht v3 v4 fun t2 h9 l9 ht2=>⟨t2,rfl,?_⟩
  rw [pR gd.ok hpm]at ht2
  have l9o:=bM out l9
  have hbuf9:=hbuf.mono l9
  refine hbuf9.wr (x:=t2) (by omega) fun h10 hbuf' ho=>?_
  refine hJ _ h10 (by rw [ho];exact Hp.le_trans l8 l9o) (by rw [ho];exact l9o _ _ f48) hbuf' (by rw [List.length_set];exact htl) fun i p' u hp' hu=>?_
  rw [ho]
  by_cases hiq:i=q
  ·subst hiq
   rw [hpq]at hp';cases hp'
   rw [List.getElem?_set_self (by omega)]at hu
   obtain rfl:=Option.some.inj hu
   rw [if_pos (by omega),hst']
   exact ht2.offL hbuf9
  ·rw [List.getElem?_set_ne (fun e=>hiq e.symm)]at hu
   have:=(hts i p' u hp' hu).mono l9o
   by_cases h1:i<q
   ·rw [if_pos h1]at this;rw [if_pos (by omega)];exact this
   ·rw [if_neg h1]at this;rw [if_neg (by omega)];exact this
 ·rw [if_neg (fun e'=>aZ e e'.symm)]at hst'
  refine hJ ts h8 l8 f48 hbuf htl fun i p' u hp' hu=>?_
  have:=hts i p' u hp' hu
  by_cases hiq:i=q
  ·subst hiq
   rw [hpq]at hp';cases hp'
   rw [if_neg (by omega)]at this
   rw [if_pos (by omega),hst'];exact this
  ·by_cases h1:i<q
   ·rw [if_pos h1]at this;rw [if_pos (by omega)];exact this
   ·rw [if_neg h1]at this;rw [if_neg (by omega)];exact this
theorem gk {h h1 h2 h3:Hp} {b:Nat} {x:Blk} (l:h.le h1) (hb:h1 b=some x) (kp: ∀c,c≠b->h3 c=h2 c):(h2.sub h1).le (h3.sub h):=by
 intro c y e
 have hc:c≠b:=by rintro rfl;rw [lP hb]at e;cases e
 have h1c:h1 c=none:=by
  cases hx:h1 c with
  |none=>rfl
  |some z=>rw [lP hx]at e;cases e
 rw [lv (aF l h1c),kp c hc]
 rw [lv h1c]at e
 exact e
theorem cY.get {h:Hp} {t:Sl} {n:Nat} {T:Nat->Bool} (e:cY h t n T) {i:Nat} (hi:i<n): ∃b o,t.a=some (Addr.mk b o none)/\(i:Int)<(t.n:Int)/\Hp.cell h b (o+Int.toNat (i:Int)*1)=some (.bool (T i)):=by
 have hl:=qK.len e
 rw [List.length_map,List.length_range]at hl
 obtain⟨b,o,ha,hc⟩:=SlC.get e (by omega)
 refine⟨b,o,ha,by omega,?_⟩
 rw [Int.toNat_natCast,Nat.mul_one]
 exact hc i _ (by simp [hi])
theorem cY.len {h:Hp} {t:Sl} {n:Nat} {T:Nat->Bool} (e:cY h t n T):t.n=n:=by
 have hl:=qK.len e
 rwa [List.length_map,List.length_range]at hl
theorem BG.get {h:Hp} {t:Sl} {n:Nat} {f:Nat->Nat} (e:BG h t n f) {i:Nat} (hi:i<n): ∃b o,t.a=some (Addr.mk b o none)/\(i:Int)<(t.n:Int)/\Hp.cell h b (o+Int.toNat (i:Int)*1)=some (I (f i:Nat)):=by
 have hl:=IntS.len e
 rw [bz,List.length_map,List.length_range]at hl
 obtain⟨b,o,ha,hc⟩:=SlC.get e (by omega)
 refine⟨b,o,ha,by omega,?_⟩
 rw [Int.toNat_natCast,Nat.mul_one]
 exact hc i _ (by simp [VL,hi])
def wl (B:Bd) (s:Sl):Value:= .tuple #[.agg #[I B.v,s.v,I B.r], .bool B.ok]
theorem tO {h:Hp} {t:Sl} {n:Nat} {f:Nat->Bool} {R:Value->Hp->Prop} (hn:n<=13) (ht:zQ h t n f)
  (k: ∀s h',h.le h'->Own (h'.sub h) s 3 (bK (cO n f).ns)->R (wl (cO n f) s) h'):eC #[t.v] h R:=by
 have e:cO (n:Int) f=match oe n f with|none=>iW|some r=>⟨n,r.2,r.1,true⟩:=by
  unfold cO;rw [if_pos (by omega),Int.toNat_natCast];cases oe n f<;>rfl
 refine Km hn ht (fun h0=>?_) (fun r hr s h' l o=>?_)
 ·have:=k ⟨none,0,0⟩ h (Hp.le_refl _)
  rw [e,h0]at this
  exact this (mj _ _)
 ·have:=k s h' l
  rw [e,hr]at this
  exact this o
theorem Gj {h:Hp} {b:Nat} {σ:aC} {fid:FuncId} {u w:Array Value} {f:Nat->Bool} {R:Value->Hp->Prop} (hs:nk h b σ) (ok:σ.Ok) (hf:D8 h fid u w (2^σ.n) f)
  (k: ∀s h',h.le h'->Own (h'.sub h) s 3 (bK (cO σ.n f).ns)->R (wl (cO σ.n f) s) h'):iG #[.pointer (some ⟨b,0,none⟩), .func (.func fid) u w] h R:=by
 apply AG
 refine uf_ ?_
 have h8:=ok.nle
 obtain⟨M,st,hold,bad,next,fx,_,_,_⟩:=hs
 refine aj fun b6 h1 hb6 l1 f6=>?_
 refine dw ?_
 replace fx:=l1 _ _ fx
 (refine az ?_)
 refine tj (by omega) (fun i hi h' l R k=>hf i hi h' (Hp.le_trans l1 l) R k) fun t h2 l2 ht=>⟨t,rfl,?_⟩
 refine tO (by omega) (ht.mono (sub_le _ _)) fun s h3 l3 o3=>⟨_,_,_,_,rfl,?_⟩
 have l12:=Hp.le_trans l2 l3
 have f62:=l2 _ _ f6
 (with_reducible apply cb);(exact l3 _ _ f62);(exact Hp.le_trans l1 l12);(exact hb6);(exact Nat.le_refl 3)
 intro h4 f4 kp l4
 refine⟨_,by rw [aq f4];rfl,_,by rw [aq f4];rfl,_,by rw [aq f4];rfl,?_⟩
 exact k s h4 l4 (o3.mono (gk (Hp.le_trans l1 l2) f62 kp))
theorem wE {h:Hp} {b s:Nat} {σ:aC} {R:Value->Hp->Prop} (hs:nk h b σ) (ok:σ.Ok) (hlt:s<2^σ.n) (k:R (.bool (σ.begins s)) h):kE #[.pointer (some ⟨b,0,none⟩),I s] h R:=by
 apply wY
 refine uf_ ?_
 obtain⟨M,st,hold,bad,next,fx,_,_,_⟩:=hs
 have h8:=Nat.pow_le_pow_right (n:=2) (by omega) ok.nle
 have h82:(2:Nat)^8=256:=rfl
 have hb:=ok.bfix
 have ha:=ok.bas
 refine dw (dw ?_)
 repeat' (refine az ?_)
 rw [r8 (by omega) (by omega)]
 refine di ?_ k
 unfold aC.begins
 rw [Bool.eq_iff_iff,decide_eq_true_eq,beq_iff_eq];omega
theorem IntS.up {h h':Hp} {s:Sl} {xs:List Int} (e:IntS h s xs) (l:h.le h'):IntS h' s xs:=e.mono l
theorem IntSS.up {h h':Hp} {s:Sl} {xs:List (List Int)} (e:IntSS h s xs) (l:h.le h'):IntSS h' s xs:=e.mono l
theorem aN.up {h h':Hp} {M:MSl} {m:ai} (e:aN h M m) (l:h.le h'):aN h' M m:=e.mono l
theorem kpU {h0 h h':Hp} {b:Nat} {x:Blk} {P:Prop} (f:h0 b=some x) (l1:h0.le h') (l2:h0.le h) (k:P):h' b=h b/\P:=⟨by rw [l1 _ _ f,l2 _ _ f],k⟩
theorem kpN {h0 h h':Hp} {b:Nat} {P:Prop} (f:h0 b≠none) (l1:h0.le h') (l2:h0.le h) (k:P):h' b=h b/\P:=by
 refine⟨?_,k⟩
 cases hb:h0 b with
 |none=>exact absurd hb f
 |some x=>rw [l1 _ _ hb,l2 _ _ hb]
theorem rdU {α:Type} {f:α->Value} {h0 h:Hp} {b z o:Nat} {cs:List Value} {ro:Bool} {x:α} {P:α->Prop} (e:h0 b=some (.inl ⟨cs,z,ro⟩)) (l:h0.le h) (c:cs[o]?=some (f x)) (k:P x): ∃y:α,Hp.cell h b o=some (f y)/\P y:=⟨x,by rw [aq (l _ _ e)];exact c,k⟩
theorem ku_ {P Q:Prop} (k:Q) (h:Q->P:=by(first
 |((with_reducible apply rdU);(assumption);((focus ((repeat (first|exact Hp.le_refl _|assumption|(refine Hp.le_trans ?_ (by assumption))));done)));(exact rfl))
 |with_reducible exact And.intro (Eq.refl _)
 |with_reducible exact And.intro True.intro
 |with_reducible exact dw
 |((with_reducible apply kpU);(assumption);((focus ((repeat (first|exact Hp.le_refl _|assumption|(refine Hp.le_trans ?_ (by assumption))));done)));((focus ((repeat (first|exact Hp.le_refl _|assumption|(refine Hp.le_trans ?_ (by assumption))));done))))
 |((with_reducible apply kpN);(assumption);((focus ((repeat (first|exact Hp.le_refl _|assumption|(refine Hp.le_trans ?_ (by assumption))));done)));((focus ((repeat (first|exact Hp.le_refl _|assumption|(refine Hp.le_trans ?_ (by assumption))));done))))
 |fail)):P:=h k
set_option maxHeartbeats 2000000 in
theorem zj {h:Hp} {M:MSl} {m:ai} {c:Nat} {R:Value->Hp->Prop} (hs:aN h M m) (hm:bW m) (g:dP m) (hc:c<2^(ak m.nodes 36+ak m.nodes 35))
  (k: ∀t h',h.le h'->t.n=m.nodes.length->ge h' t (cK m (c%2^ak m.nodes 36) (c/2^ak m.nodes 36))->Wm h t->R (Sl.v t) h'):mg #[aO M,I c] h R:=by
 apply DU
 refine uf_ ?_
 have hn8:=g.n8
 have hk5:=g.k5
 have hp13:=LW g
 have hp8:=aal g
 have h1':c%2^ak m.nodes 36<=c:=Nat.mod_le _ _
 have h2':c/2^ak m.nodes 36<=c:=Nat.div_le_self _ _
 have hpp:=bD (ak m.nodes 36)
 have hs36:cw m.nodes (aU m.nodes 36)<=60:=by have:=fy g;show cw m.nodes (stP m)<=60;omega
 have hs35:cw m.nodes (aU m.nodes 35)<=60:=by have:=EM g;show cw m.nodes (inP m)<=60;omega
 have hshr:pe (c:Int) ((ak m.nodes 36:Nat):Int)=((c/2^ak m.nodes 36:Nat):Int):=kj (by omega)
 have hmod:Int.tmod (c:Int) (((2^ak m.nodes 36:Nat)):Int)=((c%2^ak m.nodes 36:Nat):Int):=eV _ _
 have hwu:IntKind.wrap .u64 ((ak m.nodes 36:Nat):Int)=(ak m.nodes 36:Nat):=cl (by omega)
 have hsh1:au 1 ((ak m.nodes 36:Nat):Int)=((2^ak m.nodes 36:Nat):Int):=bG (by omega)
 refine aj fun b8 h1 hb8 l1 f8=>?_
 clear hb8
 repeat' (refine ku_ ?_)
 refine gf (hs.mono l1) hm ⟨_,rfl,?_⟩
 simp only [hwu,hsh1,hshr,hmod]
 repeat' (first
  |(refine ku_ ?_)
  |(rw [if_neg (by omega)])
  |(refine cP (hs.up (by((focus ((repeat (first|exact Hp.le_refl _|assumption|(refine Hp.le_trans ?_ (by assumption))));done))))) hm fun _ _ _ _=>⟨_,rfl,?_⟩)
  |(refine fK (hs.up (by((focus ((repeat (first|exact Hp.le_refl _|assumption|(refine Hp.le_trans ?_ (by assumption))));done))))) hm g.ok (IntS.up (by assumption) (by((focus ((repeat (first|exact Hp.le_refl _|assumption|(refine Hp.le_trans ?_ (by assumption))));done))))) (cH g 36) (iw g 36) (by omega) hs36 fun _ _ _ _=>⟨_,rfl,?_⟩)
  |(refine fK (hs.up (by((focus ((repeat (first|exact Hp.le_refl _|assumption|(refine Hp.le_trans ?_ (by assumption))));done))))) hm g.ok (IntS.up (by assumption) (by((focus ((repeat (first|exact Hp.le_refl _|assumption|(refine Hp.le_trans ?_ (by assumption))));done))))) (cH g 35) (iw g 35) (by omega) hs35 fun _ _ _ _=>⟨_,rfl,?_⟩)
  |(refine ph (hs.up (by((focus ((repeat (first|exact Hp.le_refl _|assumption|(refine Hp.le_trans ?_ (by assumption))));done))))) hm g.ok g.nl (IntSS.up (by assumption) (by((focus ((repeat (first|exact Hp.le_refl _|assumption|(refine Hp.le_trans ?_ (by assumption))));done))))) (k8 36 (c%2^ak m.nodes 36) g) (IntSS.up (by assumption) (by((focus ((repeat (first|exact Hp.le_refl _|assumption|(refine Hp.le_trans ?_ (by assumption))));done))))) (k8 35 (c/2^ak m.nodes 36) g) fun t h' l hn hpv hw=>⟨_,rfl,k t h' (by((focus ((repeat (first|exact Hp.le_refl _|assumption|(refine Hp.le_trans ?_ (by assumption))));done)))) hn hpv fun b o hb=>aF (by((focus ((repeat (first|exact Hp.le_refl _|assumption|(refine Hp.le_trans ?_ (by assumption))));done)))) (hw b o hb)⟩)
  |(refine And.intro ?_ ?_))
def hG (ps:List Nat) (f:Nat->Option (List Nat)) (vs:List (List Nat)) (n:Nat):Bool:=(List.range n).all fun i=>match ps[i]? with
 |some p=>(match f p with|some v=>decide (vs.getD i []=v)|none=>true)
 |none=>true
theorem Dc {ps:List Nat} {f:Nat->Option (List Nat)} {vs:List (List Nat)} {i p:Nat} (h:ps[i]?=some p):hG ps f vs (i+1)=(hG ps f vs i&&(match f p with|some v=>decide (vs.getD i []=v)|none=>true)):=by
 unfold hG
 rw [List.range_succ,List.all_append]
 simp only [List.all_cons,List.all_nil,Bool.and_true,h]
theorem kH {ps:List Nat} {f:Nat->Option (List Nat)} {vs:List (List Nat)}:hG ps f vs ps.length=true↔ ∀(i p:Nat),ps[i]?=some p-> ∀v,f p=some v->vs.getD i []=v:=by
 unfold hG
 rw [List.all_eq_true]
 constructor
 ·intro h i p hp v hv
  have:=h i (List.mem_range.2 (get_lt hp))
  rw [hp]at this
  simp only [hv,decide_eq_true_eq]at this
  exact this
 ·intro h i hi
  cases hp:ps[i]? with
  |none=>rfl
  |some p=>
   simp only
   cases hv:f p with
   |none=>rfl
   |some v=>simpa using h i p hp v hv
theorem Jq {ps:List Nat} {f:Nat->Option (List Nat)} {vs:List (List Nat)} {i:Nat} (hi:i<=ps.length) (h:hG ps f vs i=false):hG ps f vs ps.length=false:=by
 unfold hG at h⊢
 rw [List.all_eq_false]at h⊢
 obtain⟨x,hx,hn⟩:=h
 exact⟨x,List.mem_range.2 (by have:=List.mem_range.1 hx;omega),hn⟩
theorem Dt {h:Hp} {M:MSl} {m:ai} {s t:Sl} {ps:List Nat} {vs:List (List Nat)} {R:Value->Hp->Prop} (hs:aN h M m) (hm:bW m) (hok:cm m.nodes=true) (hp:IntS h s (VL ps)) (hps: ∀p∈ps,p<m.nodes.length) (hpl:ps.length<=1048576)
  (hv:IntSS h t (vs.map VL)) (hf:mt m.nodes ps vs) (k:R (.bool true) h):po #[aO M,s.v,t.v] h R:=by
 refine ACalls.drop (H7 ?_)
 refine uf_ ?_
 have hn:=hs.nodes.len
 have hsn:=hp.len
 rw [bz]at hsn
 have htn:=hv.len
 rw [List.length_map]at htn
 have hvl:=nX hf
 refine aj fun b9 h1 hb9 l1 f9=>?_
 refine aD (by simp;omega) ?_
 refine av ps.length (fun i ws h'=>h.le h'/\h' b9=some (.inl ⟨aw M,5,false⟩)/\ws= [s.v,t.v, .pointer (some ⟨b9,0,none⟩),I i]) ⟨l1,f9,rfl⟩ ?_
 clear f9 l1 hb9 h1
 rintro i _ h1 next hi ⟨l1,f9,rfl⟩ hnx
 refine⟨s,t,_,_,_,rfl,?_⟩
 by_cases hlt:i<ps.length
 rotate_left
 ·exact aD (by simp;omega) ⟨_,l1,k⟩
 refine aJ (by simp;omega) ?_
 obtain⟨p,hpi⟩: ∃p,ps[i]?=some p:=⟨_,List.getElem?_eq_getElem hlt⟩
 have hpm:=hps p (List.mem_of_getElem? hpi)
 obtain⟨b,o,ha,hc⟩:=(hp.mono l1).get (gp hpi)
 refine⟨b,o,ha,by omega,by omega,?_⟩
 (refine az ?_)
 refine⟨_,hc,?_⟩
 obtain⟨bn,on,han,hpn',c6,c7,w1,w16⟩:=(hs.mono l1).nodes.sortc2 hpm hok
 refine⟨bn,on,han,by omega,hpn',_,c6,_,c7,?_⟩
 obtain⟨bt,ot,c,hta,htc,hcv⟩:=(hv.mono l1).getV (i:=i) (by omega)
 have xbt:=gy htc
 have xbn:=gy c6
 have xb:=gy hc
 have xb9:=eJ f9
 refine aj fun b36 h2 hb36 l2 f36'=>?_
 have n9:=fresh_ne hb36 f9
 have nt:=ve hb36 htc
 repeat' (((with_reducible apply kl);(assumption);(assumption)))
 (with_reducible apply cb);(exact f36');(exact Hp.le_trans l1 l2);(exact aF l1 hb36);(exact Nat.le_refl 2)
 intro h3 f36 kp l3
 have l13:h1.le h3:=cF hb36 l2 kp
 have f93:=l13 _ _ f9
 have f36v:h3 b36=some (.inl ⟨[I (aE m.nodes p).idx,I (cc m.nodes p)],2,false⟩):=f36
 refine⟨bt,ot,hta,by omega,by omega,c,l13.cell htc,?_⟩
 repeat' (refine az ?_)
 refine ff ⟨_,rfl,?_⟩
 rw [pR hok hpm]
 have hg:=qe hf hpi
 have hcn:=hcv.len
 rw [bz]at hcn
 have hcl:=dj m.nodes p
 repeat' (refine az ?_)
 refine aD (by simp;omega) ?_
 have hcv3:=hcv.mono l13
 refine av (aK m.nodes p) (fun q ws h'=>h'=h3/\ws= [s.v,t.v, .pointer (some ⟨b9,0,none⟩),I i, .pointer (some ⟨b36,0,none⟩),I q]) ⟨rfl,rfl⟩ ?_
 rintro q _ _ next2 hq ⟨rfl,rfl⟩ hnx2
 rename_i h3
 refine⟨s,t,_,_,_,_,_,_,rfl,?_⟩
 refine⟨bt,ot,hta,by omega,by omega,c,l13.cell htc,?_⟩
 by_cases hlq:q<aK m.nodes p
 rotate_left
 ·refine aD (by simp;omega) ?_
  rw [aA (by omega)]
  exact hnx hlt _ _ ⟨l3,f93,rfl⟩
 refine aJ (by simp;omega) ?_
 refine⟨bt,ot,hta,by omega,by omega,?_⟩
 (refine az ?_)
 refine⟨c,l13.cell htc,?_⟩
 obtain⟨bc,oc,hca,hcc,hln⟩:=hcv3.elt (i:=q) (by omega)
 refine⟨bc,oc,hca,by omega,by omega,_,hcc,?_⟩
 have hlt2:(vs.getD i []).getD q 0<2^cc m.nodes p:=by
  rw [List.getD_eq_getElem?_getD,List.getElem?_eq_getElem (show q<(vs.getD i []).length by omega)]
  exact hg.2 _ (List.getElem_mem _)
 refine cr ⟨_,rfl,aD ?_ ?_⟩
 ·rw [Bool.not_eq_false',jy]
  refine⟨by omega,by omega,?_⟩
  rw [Int.toNat_natCast];omega
 ·rw [aA (by omega)]
  exact hnx2 hlq _ _ ⟨rfl,rfl⟩
theorem gi {h:Hp} {M:MSl} {m:ai} {t:Sl} {vs:List (List Nat)} {R:Value->Hp->Prop} (hs:aN h M m) (hm:bW m) (hc:ax m=0)
  (hv:IntSS h t (vs.map VL)) (hf:mt m.nodes (stP m) vs) (k:R (.bool true) h):fH #[aO M,t.v] h R:=by
 refine ACalls.drop (CR ?_)
 refine uf_ ?_
 have g:=co hc
 refine aj fun b8 h1 hb8 l1 f8=>?_
 repeat' (refine ku_ ?_)
 refine aX (hs.up (by((focus ((repeat (first|exact Hp.le_refl _|assumption|(refine Hp.le_trans ?_ (by assumption))));done))))) hm ⟨_,rfl,aJ (by rw [hc];rfl) ?_⟩
 repeat' (refine ku_ ?_)
 refine cP (hs.up (by((focus ((repeat (first|exact Hp.le_refl _|assumption|(refine Hp.le_trans ?_ (by assumption))));done))))) hm fun p h2 l2 i2=>⟨p,rfl,?_⟩
 repeat' (refine ku_ ?_)
 exact Dt (hs.up (by((focus ((repeat (first|exact Hp.le_refl _|assumption|(refine Hp.le_trans ?_ (by assumption))));done))))) hm g.ok i2 (cH g 36) (iw g 36) (hv.up (by((focus ((repeat (first|exact Hp.le_refl _|assumption|(refine Hp.le_trans ?_ (by assumption))));done))))) hf ⟨_,rfl,h,by((focus ((repeat (first|exact Hp.le_refl _|assumption|(refine Hp.le_trans ?_ (by assumption))));done))),k⟩
theorem NC {m:ai} (g:dP m) {p k:Nat} (h:ce m.inits p=some k):k<m.nodes.length/\0<((od m).getD k []).length/\((od m).getD k []).length<=4:=by
 obtain⟨b,hb,_,rfl⟩:=gO h
 obtain⟨v1,v2,v3,v4,_,_⟩:=uj g hb
 exact⟨by omega,v3,v4⟩
theorem jB {h:Hp} {M:MSl} {m:ai} {t:Sl} {vs:List (List Nat)} {R:Value->Hp->Prop} (hs:aN h M m) (hm:bW m) (hc:ax m=0)
  (hv:IntSS h t (vs.map VL)) (hf:mt m.nodes (stP m) vs) (k:R (.bool (hG (stP m) (eW m) vs (stP m).length)) h):ig #[aO M,t.v] h R:=by
 refine ACalls.drop (Eg ?_)
 refine uf_ ?_
 have g:=co hc
 have hil:=g.il
 have hnl:=g.nl
 have hp36:(stP m).length<=m.nodes.length:=eU m.nodes 36
 have htn:=hv.len
 rw [List.length_map]at htn
 have hvl:=nX hf
 have hbn: ∀b∈m.inits,0<=b.node:=fun b hb=>(uj g hb).1
 refine aj fun b8 h1 hb8 l1 f8=>?_
 repeat' (refine ku_ ?_)
 refine gi (hs.up (by((focus ((repeat (first|exact Hp.le_refl _|assumption|(refine Hp.le_trans ?_ (by assumption))));done))))) hm hc (hv.up (by((focus ((repeat (first|exact Hp.le_refl _|assumption|(refine Hp.le_trans ?_ (by assumption))));done))))) hf ⟨_,rfl,aD rfl ?_⟩
 repeat' (refine ku_ ?_)
 refine JN (hs.up (by((focus ((repeat (first|exact Hp.le_refl _|assumption|(refine Hp.le_trans ?_ (by assumption))));done))))) hm g fun vt h2 l2 hvn hpv=>⟨vt,rfl,?_⟩
 repeat' (refine ku_ ?_)
 refine cP (hs.up (by((focus ((repeat (first|exact Hp.le_refl _|assumption|(refine Hp.le_trans ?_ (by assumption))));done))))) hm fun pt h3 l3 ip=>⟨pt,rfl,?_⟩
 have hpn:pt.n=(stP m).length:=by have:=ip.len;rw [bz]at this;exact this
 have f83:=l3 _ _ (l2 _ _ f8)
 have hpv3:=hpv.mono l3
 have l03:=Hp.le_trans l1 (Hp.le_trans l2 l3)
 have aV:=wH g
 clear l2 l3 l1 hb8 f8 hpv h2
 refine av (stP m).length (fun i ws h'=>h3.le h'/\ws= [t.v, .pointer (some ⟨b8,0,none⟩),vt.v,pt.v,I i]/\hG (stP m) (eW m) vs i=true) ⟨Hp.le_refl _,rfl,rfl⟩ ?_
 rintro i _ h4 next hi ⟨l4,rfl,hg⟩ hnx
 have l04:=Hp.le_trans l03 l4
 refine⟨t,_,_,vt,pt,_,rfl,?_⟩
 by_cases hlt:i<(stP m).length
 rotate_left
 ·have hie:i=(stP m).length:=by omega
  subst hie
  refine aD (by simp;omega) ⟨_,l04,di hg.symm k⟩
 refine aJ (by simp;omega) ?_
 obtain⟨p,hpi⟩: ∃p,(stP m)[i]?=some p:=⟨_,List.getElem?_eq_getElem hlt⟩
 have hsucc:=Dc (f:=eW m) (vs:=vs) hpi
 rw [hg,Bool.true_and]at hsucc
 obtain⟨b,o,ha,hcc⟩:=(ip.mono l4).get (gp hpi)
 refine⟨b,o,ha,by omega,by omega,?_⟩
 (refine ku_ ?_)
 refine⟨_,hcc,?_⟩
 refine mV (hs.mono l04).inits (by omega) hbn ⟨_,rfl,?_⟩
 refine ap (fun J=> ∀h',h4.le h'->J (!hG (stP m) (eW m) vs (i+1)) h') ?_ (fun J hJ=>?_)
 ·intro h' l'
  refine ac (fun e=>⟨_,Hp.le_trans l04 l',di ?_ k⟩) (fun e=>?_)
  ·symm;exact Jq (i:=i+1) (by omega) (by simpa using e)
  ·rw [aA (by omega)]
   exact hnx hlt _ _ ⟨Hp.le_trans l4 l',rfl,by simpa using e⟩
 cases hbo:ce m.inits p with
 |none=>
  rw [show iO m.inits p= -1 from by unfold iO;rw [hbo]]
  refine aD (by simp) ⟨trivial,?_⟩
  have hn:eW m p=none:=by unfold eW;rw [hbo];rfl
  rw [hn]at hsucc
  have:=hJ h4 (Hp.le_refl _)
  rw [hsucc]at this;exact this
 |some q=>
  rw [show iO m.inits p=(q:Int)from by unfold iO;rw [hbo]]
  refine aJ (by simp) ?_
  obtain⟨hq,v3,v4⟩:=NC g hbo
  have hsm:eW m p=some (mO (aK m.nodes p) ((od m).getD q [])):=by unfold eW;rw [hbo];rfl
  have hfit:=ra g hsm
  have hcl:=dj m.nodes p
  have hgv:=qe hf hpi
  rw [hsm]at hsucc
  obtain⟨bt,ot,c,hta,htc,hcv⟩:=(hv.mono l04).getV (i:=i) (by omega)
  obtain⟨bv,ov,u,hua,hun,huc,huv⟩:=(hpv3.mono l4).at (p:=(q:Int)) (by omega) (by rw [aV.len];omega)
  have hcn:=hcv.len
  rw [bz]at hcn
  refine⟨bt,ot,hta,by omega,by omega,bv,ov,hua,by omega,hun,bt,ot,hta,by omega,by omega,c,htc,u,huc,c,htc,?_⟩
  rw [Int.toNat_natCast]at huv
  rw [hcn,hgv.1]
  have xbt:=gy htc
  refine Dp huv v3 v4 hcl fun w h5 l5 hw=>⟨w,rfl,?_⟩
  repeat' (((with_reducible apply kl);(assumption);(assumption)))
  refine xf (hcv.mono l5) hw (by rw [bz];omega) (by rw [bz,bz,hgv.1,hfit.1];exact Nat.le_refl _) ⟨_,rfl,?_⟩
  have:=hJ h5 l5
  simp only at hsucc
  rw [hsucc]at this
  have e2:decide (VL (vs.getD i [])=VL (mO (aK m.nodes p) ((od m).getD q [])))=decide (vs.getD i []=mO (aK m.nodes p) ((od m).getD q [])):=by
   rw [Bool.eq_iff_iff,decide_eq_true_eq,decide_eq_true_eq,GM]
  rw [e2];exact this
section
variable {g h h':Hp} {L L' A B X:List (Nat×Blk)}
theorem Kn.app (K:Kn g h L) (l:h.le h') (n: ∀e∈X,h e.1=none) (f: ∀e∈X,h' e.1=some e.2) (nd:(X.map Prod.fst).Nodup):Kn g h' (L++X):=by
 refine⟨Hp.le_trans K.le l,fun e he=>?_,fun e he=>?_,?_⟩
 ·rcases List.mem_append.1 he with he|he
  ·exact l _ _ (K.mem e he)
  ·exact f e he
 ·rcases List.mem_append.1 he with he|he
  ·exact K.new e he
  ·exact aF K.le (n e he)
 ·rw [List.map_append,List.nodup_append]
  refine⟨K.nd,nd,fun a ha b hb hab=>?_⟩
  obtain⟨e,he,rfl⟩:=List.mem_map.1 ha
  obtain⟨e',he',rfl⟩:=List.mem_map.1 hb
  have h1:=K.mem e he
  have h2:=n e' he'
  rw [hab,h2]at h1;cases h1
theorem Kn.split (K:Kn g h (A++B)):Kn (h.wo (B.map Prod.fst)) h B/\Kn g (h.wo (B.map Prod.fst)) A:=by
 have nd:=K.nd
 rw [List.map_append,List.nodup_append]at nd
 refine⟨⟨vQ _ _,fun e he=>K.mem e (List.mem_append_right _ he),fun e he=>eQ (List.mem_map.2 ⟨e,he,rfl⟩),nd.2.1⟩,?_,fun e he=>?_,fun e he=>K.new e (List.mem_append_left _ he),nd.1⟩
 ·exact rU K.le fun b hb=>by
   obtain⟨e,he,rfl⟩:=List.mem_map.1 hb
   exact K.new e (List.mem_append_right _ he)
 ·rw [rj]
  ·exact K.mem e (List.mem_append_left _ he)
  ·intro hb
   exact nd.2.2 _ (List.mem_map.2 ⟨e,he,rfl⟩) _ hb rfl
theorem Kn.off (K:Kn g h L) {b:Nat} {x y:Blk} (u:Upd L b x y L') (l:(h.off b).le h') (f:h' b=some y):Kn g h' L':=by
 refine⟨?_,fun e he=>?_,fun e he=>?_,by rw [u.keys];exact K.nd⟩
 ·exact Hp.le_trans (uR (K.new (b,x) u.mem) K.le) l
 ·rcases u.out K.nd e he with rfl|⟨h1,h2⟩
  ·exact f
  ·refine l _ _ ?_
   simp only [Hp.off,Hp.set];rw [if_neg h2];exact K.mem e h1
 ·rcases u.out K.nd e he with rfl|⟨h1,h2⟩
  ·exact K.new (b,x) u.mem
  ·exact K.new e h1
def pa (X:List (Nat×Blk)) (s:Sl) (sz:Nat) (cs:List Value):Prop:=
 cs.length=s.n*sz/\s.n<=9223372036854775807/\((s.n=0/\X= [])\/(s.n≠0/\ ∃b z,s.a=some ⟨b,0,none⟩/\X= [(b, .inl ⟨cs,z,false⟩)]))
theorem Kn.addOwn {s:Sl} {sz:Nat} {cs:List Value} (K:Kn g h L) (l:h.le h') (o:Own (h'.sub h) s sz cs): ∃X,pa X s sz cs/\Kn g h' (L++X):=by
 by_cases h0:s.n=0
 ·exact⟨[],⟨o.1,o.2.1, .inl ⟨h0,rfl⟩⟩,by rw [List.append_nil];exact K.mono l⟩
 ·obtain⟨b,z,ha,hb⟩:=o.2.2.resolve_left h0
  have hn:h b=none:=lF (by rw [hb];simp)
  refine⟨_,⟨o.1,o.2.1, .inr ⟨h0,b,z,ha,rfl⟩⟩,K.app l (fun e he=>?_) (fun e he=>?_) (by simp)⟩
  ·rw [List.mem_singleton.1 he];exact hn
  ·rw [List.mem_singleton.1 he];exact sub_le _ _ _ _ hb
theorem pa.own {s:Sl} {sz:Nat} {cs:List Value} (o:pa X s sz cs) (K:Kn g h (L++X)):Own h s sz cs:=by
 refine⟨o.1,o.2.1,?_⟩
 rcases o.2.2 with ⟨h0,_⟩|⟨_,b,z,ha,rfl⟩
 ·exact .inl h0
 ·exact .inr ⟨b,z,ha,K.at (by simp)⟩
end
theorem list9 {cs:List Value} (h:cs.length=9): ∃a b c d e f g i j,cs= [a,b,c,d,e,f,g,i,j]:=by
 match cs,h with
 | [a,b,c,d,e,f,g,i,j],_=>exact⟨a,b,c,d,e,f,g,i,j,rfl⟩
theorem list2 {cs:List Value} (h:cs.length=2): ∃a b,cs= [a,b]:=by
 match cs,h with
 | [a,b],_=>exact⟨a,b,rfl⟩
theorem Got.flat {P:Program} {W:World} {t e:TypeId} {v:Value} {α:Type} {f:α->List Value} {m:Nat} {p:α->Prop} (hf: ∀x,(f x).length=m) (hpos:0<m) (ht:P.underlying t=some (.slice e)) (hsz:P.cellsOf e=m)
  (hg: ∀ds,Got P W e ds-> ∃x,ds=f x/\p x) (g:Got P W t [v]): ∃(s:Sl) (l:List α),v=s.v/\s.n<=s.c/\SlC (hW W) s m (l.flatMap f)/\ ∀x∈l,p x:=by
 obtain⟨s,hs,hm,hlc,h⟩:=Got.slice ht hsz hpos g
 simp only [List.cons.injEq,and_true]at hs
 rcases h with h|⟨b,o,ha,h⟩
 ·exact⟨s, [],hs,hlc,⟨hm,by simp [h], .inl h⟩,by simp⟩
 obtain⟨xs,hl,hx⟩:=EQ (p:=fun i (x:α)=>(∀(j:Nat) v,(f x)[j]?=some v->Hp.cell (hW W) b (o+i*m+j)=some v)/\p x) s.n fun i hi=>by
  obtain⟨ds,hd,hgd,hc⟩:=h i hi
  obtain⟨x,rfl,hp⟩:=hg ds hgd
  exact⟨x,hc,hp⟩
 refine⟨s,xs,hs,hlc,⟨hm,by rw [iq hf,hl], .inr ⟨b,o,ha,?_⟩⟩,?_⟩
 ·intro i v hv
  have hi:i<(xs.flatMap f).length:=(List.getElem?_eq_some_iff.1 hv).1
  rw [iq hf]at hi
  have hq:i/m<xs.length:=by rw [Nat.div_lt_iff_lt_mul hpos];exact hi
  have hr:i%m<m:=Nat.mod_lt _ hpos
  have he:i=i/m*m+i%m:=by rw [Nat.mul_comm];exact(Nat.div_add_mod _ _).symm
  rw [he,wG hf xs (i/m) xs[i/m] (i%m) (List.getElem?_eq_getElem hq) hr]at hv
  have:=(hx (i/m) hq).1 _ _ hv
  rw [he,<-Nat.add_assoc];exact this
 ·intro x hxm
  obtain⟨i,hi,rfl⟩:=List.getElem_of_mem hxm
  exact(hx i hi).2
def tb (n:Nat) (T:Nat->Bool):List Value:=(List.range n).map fun i=> .bool (T i)
theorem gw (n:Nat) (T:Nat->Bool):(tb n T).length=n:=by simp [tb]
theorem pc {n j:Nat} {T:Nat->Bool} (hj:j<n):(tb n T)[j]?=some (.bool (T j)):=by simp [tb,hj]
theorem YB {n:Nat} {T U:Nat->Bool} (h: ∀j,j<n->T j=U j):tb n T=tb n U:=by
 refine List.map_congr_left fun j hj=>?_
 rw [h j (List.mem_range.1 hj)]
theorem kb (n:Nat):List.replicate n (.bool false)=tb n fun _=>false:=by
 refine List.ext_getElem (by simp [tb]) fun i h1 h2=>?_
 simp [tb]
theorem ln {n j:Nat} {T:Nat->Bool} {v:Bool}:(tb n T).set j (.bool v)=tb n fun i=>if i=j then v else T i:=by
 refine List.ext_getElem (by simp [tb]) fun i h1 h2=>?_
 rw [List.getElem_set]
 simp only [tb,List.getElem_map,List.getElem_range]
 by_cases e:i=j
 ·rw [if_pos e,if_pos e.symm]
 ·rw [if_neg e,if_neg fun h=>e h.symm]
theorem XU (n:Nat) (T:Nat->Bool):tb n T=((List.range n).map T).map Value.bool:=by simp [tb]
theorem jV {h:Hp} {b n z:Nat} {ro:Bool} {T U:Nat->Bool} (hn:n<=9223372036854775807) (f:h b=some (.inl ⟨tb n T,z,ro⟩)) (e: ∀j,j<n->T j=U j):cY h (arr b n) n U:=by
 refine⟨by dsimp only;omega,by simp, .inr ⟨b,0,rfl,?_⟩⟩
 have:=ay f
 rwa [YB e,XU]at this
theorem eO {σ:aC} (ok:σ.Ok):2^σ.n<=256:=by
 have:=Nat.pow_le_pow_right (n:=2) (by omega) ok.nle
 simpa using this
theorem CK {σ:aC} (ok:σ.Ok):2^σ.k<=32:=by
 have:=Nat.pow_le_pow_right (n:=2) (by omega) ok.kle
 simpa using this
theorem pK {σ:aC} (ok:σ.Ok):2^(σ.n+σ.k)<=8192:=by
 have h1:=ok.nle
 have h2:=ok.kle
 have:=Nat.pow_le_pow_right (n:=2) (by omega) (show σ.n+σ.k<=13 by omega)
 simpa using this
theorem EW {h:Hp} {b s i:Nat} {σ:aC} {R:Value->Hp->Prop} (hs:nk h b σ) (ok:σ.Ok) (h1:s<2^σ.n) (h2:i<2^σ.k) (k:R (I (σ.at_ s i:Nat)) h):
  gG #[.pointer (some ⟨b,0,none⟩),I s,I i] h R:=by
 apply BV
 refine uf_ ?_
 obtain⟨M,st,hold,bad,next,fx,_,_,_⟩:=hs
 have hn:=eO ok
 have hk:=pK ok
 have hl:=aC.at_lt h1 h2
 have h8:=ok.nle
 unfold aC.at_ at hl k
 refine dw ?_
 (refine az ?_)
 rw [if_neg (by omega),gJ (by omega) (by omega),Bh (by omega) (by omega)]
 refine qw ?_ k
 rw [<-Nat.shiftLeft_eq,<-Nat.shiftLeft_add_eq_or_of_lt h1,Nat.shiftLeft_eq]
theorem KW {h:Hp} {b c:Nat} {σ:aC} {R:Value->Hp->Prop} (hs:nk h b σ) (hc:c<2^(σ.n+σ.k)) (k:R (.bool (σ.hold c)) h):
  oh #[.pointer (some ⟨b,0,none⟩),I c] h R:=by
 apply wk
 refine uf_ ?_
 obtain⟨M,st,hold,bad,next,fx,hh,_,_⟩:=hs
 refine dw ?_
 (refine az ?_)
 obtain⟨b',o',ha,h1,h2⟩:=hh.get hc
 exact⟨b',o',ha,by omega,h1,_,h2,k⟩
theorem yl {h:Hp} {b c:Nat} {σ:aC} {R:Value->Hp->Prop} (hs:nk h b σ) (hc:c<2^(σ.n+σ.k)) (k:R (.bool (σ.ends c)) h):
  gL #[.pointer (some ⟨b,0,none⟩),I c] h R:=by
 apply zT
 refine uf_ ?_
 obtain⟨M,st,hold,bad,next,fx,hh,hb,_⟩:=hs
 refine dw ?_
 (refine az ?_)
 obtain⟨b',o',ha,h1,h2⟩:=hh.get hc
 refine⟨b',o',ha,by omega,h1,_,h2,?_⟩
 unfold aC.ends at k
 refine ac (fun e=>?_) (fun e=>?_)
 ·refine dw ?_
  (refine az ?_)
  obtain⟨b',o',ha,h1,h2⟩:=hb.get hc
  refine⟨b',o',ha,by omega,h1,_,h2,di ?_ k⟩
  rw [e];rfl
 ·rw [e]at k;exact k
def ZE (h:Hp) (fid:FuncId) (u w:Array Value) (σ:aC) (f:Nat->Nat->Bool):Prop:=
 ∀s i:Nat,s<2^σ.n->i<2^σ.k-> ∀h':Hp,h.le h'-> ∀R:Value->Hp->Prop,R (.bool (f s (σ.at_ s i))) h'->ACalls PR fid ((u++ #[I s,I (σ.at_ s i:Nat)])++w) h' R
theorem um {h:Hp} {b:Nat} {σ:aC} {fid:FuncId} {u w:Array Value} {f:Nat->Nat->Bool} {R:Value->Hp->Prop} (hs:nk h b σ) (ok:σ.Ok) (hf:ZE h fid u w σ f)
  (k: ∀t h',h.le h'->cY (h'.sub h) t (2^σ.n) (σ.some_ f)->R (Sl.v t) h'):ez #[.pointer (some ⟨b,0,none⟩), .func (.func fid) u w] h R:=by
 apply zx
 refine uf_ ?_
 have hn:=eO ok
 have hk:=CK ok
 have h8:=ok.nle
 have h5:=ok.kle
 obtain⟨M,st,hold,bad,next,fx,_⟩:=id hs
 have K0:=Kn.nil h
 refine dw ?_
 (refine az ?_)
 rw [if_neg (by omega),bG (by omega)]
 refine⟨Int.natCast_nonneg _,Int.le_refl _,by omega,by omega,?_⟩
 (with_reducible apply Kn.al);(assumption);(intro b10 h1 K1 l1 hb10)
 rw [Int.toNat_natCast,Nat.mul_one,cj,kb]at K1
 rw [Int.toNat_natCast]
 refine av (2^σ.n) (fun s vs h'=>vs= [.pointer (some ⟨b,0,none⟩), .func (.func fid) u w,(arr b10 (2^σ.n)).v,I (2^σ.n:Nat),I s]/\
  ∃T,Kn h h' [(b10, .inl ⟨tb (2^σ.n) T,2^σ.n,false⟩)]/\(∀j,j<s->T j=σ.some_ f j)/\ ∀j,s<=j->T j=false) ⟨rfl,_,K1,fun j hj=>by omega,fun _ _=>rfl⟩ ?_
 clear K1 K0 l1 hb10 h1
 rintro s _ h1 next hs' ⟨rfl,T,K1,hT1,hT2⟩ hnx
 refine⟨_,_,_,_,arr b10 _,_,_,rfl,?_⟩
 by_cases hlt:s<2^σ.n
 rotate_left
 ·refine aD (by rw [decide_eq_false_iff_not];omega) ?_
  exact k _ h1 K1.le (jV (by omega) (by rw [lv (K1.new _ (.head _))];exact K1.at (.head _)) fun j hj=>hT1 j (by omega))
 refine aJ (by rw [decide_eq_true_eq];exact_mod_cast hlt) ?_
 refine dw ?_
 (refine kr_ ?_)
 rw [if_neg (by omega),bG (by omega)]
 refine av (2^σ.k) (fun i vs h'=>vs= [.pointer (some ⟨b,0,none⟩), .func (.func fid) u w,(arr b10 (2^σ.n)).v,I s,I (2^σ.n:Nat),I s,I (2^σ.k:Nat),I i]/\
  ∃T,Kn h h' [(b10, .inl ⟨tb (2^σ.n) T,2^σ.n,false⟩)]/\(∀j,j<s->T j=σ.some_ f j)/\(∀j,s<j->T j=false)/\T s=nJ i fun x=>f s (σ.at_ s x))
  ⟨rfl,T,K1,hT1,fun j hj=>hT2 j (by omega),by rw [hT2 s (Nat.le_refl _)];rfl⟩ ?_
 clear K1 hT1 hT2 T h1
 rintro i _ h1 next2 hi ⟨rfl,T,K1,hT1,hT2,hT3⟩ hnx2
 refine⟨_,_,_,_,arr b10 _,_,_,_,_,_,rfl,?_⟩
 by_cases hli:i<2^σ.k
 rotate_left
 ·refine aD (by rw [decide_eq_false_iff_not];omega) ?_
  have hie:i=2^σ.k:=by omega
  rw [aA (by omega)]
  refine hnx hlt _ _ ⟨rfl,T,K1,fun j hj=>?_,fun j hj=>hT2 j (by omega)⟩
  by_cases e:j=s
  ·rw [e,hT3,hie];rfl
  ·exact hT1 j (by omega)
 refine aJ (by rw [decide_eq_true_eq];exact_mod_cast hli) ?_
 have upd: ∀v,v=nJ (i+1) (fun x=>f s (σ.at_ s x))-> ∀h',Kn h h' [(b10, .inl ⟨(tb (2^σ.n) T).set s (.bool v),2^σ.n,false⟩)]->
   next2 [.pointer (some ⟨b,0,none⟩), .func (.func fid) u w,(arr b10 (2^σ.n)).v,I s,I (2^σ.n:Nat),I s,I (2^σ.k:Nat),I (W ((i:Int)+1))] h':=by
  intro v hv h' K
  rw [aA (by omega)]
  rw [ln]at K
  exact hnx2 hli _ _ ⟨rfl,_,K,fun j hj=>by rw [if_neg (by omega)];exact hT1 j hj,fun j hj=>by rw [if_neg (by omega)];exact hT2 j hj,by rw [if_pos rfl];exact hv⟩
 refine⟨b10,0,rfl,by omega,by dsimp only;omega,?_⟩
 refine Kn.rd K1 (.head _) (x:=T s) (by rw [Nat.zero_add,Nat.mul_one,Int.toNat_natCast];exact pc hlt) ?_
 refine ac (fun e=>?_) (fun e=>?_)
 ·refine⟨b10,0,rfl,by omega,by dsimp only;omega,?_⟩
  (((with_reducible apply Kn.wr);(assumption);((focus ((repeat first|exact .head|apply Upd.tail);done)))))
  ·rw [gw];omega
  intro h2 K2 _
  rw [bP,Nat.zero_add,Int.toNat_natCast,Nat.mul_one]at K2
  exact upd true (by rw [I5,<-hT3,e];rfl) h2 K2
 ·refine EW (hs.mono K1.le) ok hlt hli ⟨_,rfl,?_⟩
  refine hf s i hlt hli h1 K1.le _ ⟨_,rfl,?_⟩
  refine⟨b10,0,rfl,by omega,by dsimp only;omega,?_⟩
  (((with_reducible apply Kn.wr);(assumption);((focus ((repeat first|exact .head|apply Upd.tail);done)))))
  ·rw [gw];omega
  intro h2 K2 _
  rw [bP,Nat.zero_add,Int.toNat_natCast,Nat.mul_one]at K2
  exact upd _ (by rw [I5,<-hT3,e];rfl) h2 K2
theorem KD {h:Hp} {b:Nat} {s2:Sl} {σ:aC} {S p:Nat->Bool} {fid:FuncId} {u w:Array Value} {R:Value->Hp->Prop} (hs:nk h b σ) (ok:σ.Ok) (hS:cY h s2 (2^σ.n) S)
  (hp:D8 h fid u w (2^(σ.n+σ.k)) p)
  (k: ∀b' T h',Kn h h' [(b', .inl ⟨tb (2^σ.n) T,2^σ.n,false⟩)]->(∀j,j<2^σ.n->T j=σ.fwd p S j)->R (arr b' (2^σ.n)).v h'):
  j9 #[.pointer (some ⟨b,0,none⟩),s2.v, .func (.func fid) u w] h R:=by
 apply vX
 refine uf_ ?_
 have hn:=eO ok
 have hk:=CK ok
 have h8:=ok.nle
 have h5:=ok.kle
 have hl:=hS.len
 obtain⟨M,st,hold,bad,next,fx,_,_,hnt⟩:=id hs
 have K0:=Kn.nil h
 rw [hl]
 refine⟨Int.natCast_nonneg _,Int.le_refl _,by omega,by omega,?_⟩
 (with_reducible apply Kn.al);(assumption);(intro b8 h1 K1 l1 hb8)
 rw [Int.toNat_natCast,Nat.mul_one,cj,kb]at K1
 rw [Int.toNat_natCast]
 refine av (2^σ.n) (fun s vs h'=>vs= [.pointer (some ⟨b,0,none⟩),s2.v, .func (.func fid) u w,(arr b8 (2^σ.n)).v,s2.v,I (2^σ.n:Nat),I s]/\
  ∃T,Kn h h' [(b8, .inl ⟨tb (2^σ.n) T,2^σ.n,false⟩)]/\ ∀x,T x=true↔ ∃s' i',s'<s/\i'<2^σ.k/\S s'=true/\p (σ.at_ s' i')=true/\σ.next (σ.at_ s' i')=x)
  ⟨rfl,_,K1,fun x=>⟨fun e=>by simp at e,fun⟨s',i',e,_⟩=>by omega⟩⟩ ?_
 clear K1 K0 l1 hb8 h1
 rintro s _ h1 nxt hs' ⟨rfl,T,K1,hT⟩ hnx
 refine⟨_,s2,_,_,_,arr b8 _,s2,_,_,rfl,?_⟩
 by_cases hlt:s<2^σ.n
 rotate_left
 ·refine aD (by rw [decide_eq_false_iff_not];omega) ?_
  have hse:s=2^σ.n:=by omega
  rw [hl]
  refine⟨Int.natCast_nonneg _,Int.le_refl _,by omega,by omega,?_⟩
  (with_reducible apply Kn.al);(assumption);(intro b84 h2 K2 l2 hb84)
  rw [Int.toNat_natCast,Nat.mul_one,cj,kb]at K2
  rw [Int.toNat_natCast]
  refine av (2^σ.n) (fun t vs h'=>vs= [.pointer (some ⟨b,0,none⟩),(arr b8 (2^σ.n)).v,(arr b84 (2^σ.n)).v,I (2^σ.n:Nat),I t]/\
   ∃U,Kn h h' [(b84, .inl ⟨tb (2^σ.n) U,2^σ.n,false⟩),(b8, .inl ⟨tb (2^σ.n) T,2^σ.n,false⟩)]/\ ∀j,j<t->U j=σ.fwd p S j)
   ⟨rfl,_,K2,fun j hj=>by omega⟩ ?_
  clear K2 l2 hb84 h2
  rintro t _ h2 nxt2 ht ⟨rfl,U,K2,hU⟩ hnx2
  refine⟨_,arr b8 _,arr b84 _,_,_,rfl,?_⟩
  by_cases hlt2:t<2^σ.n
  rotate_left
  ·refine aD (by rw [decide_eq_false_iff_not];omega) ?_
   exact k b84 U h2 (K2.sub (fun e he=>by rw [List.mem_singleton]at he;subst he;exact .head _) (by simp)) fun j hj=>hU j (by omega)
  refine aJ (by rw [decide_eq_true_eq];exact_mod_cast hlt2) ?_
  refine dw ?_
  (refine kr_ ?_)
  have hfx:=ok.fixed
  rw [r8 (by omega) (by omega)]
  have hle:t&&&σ.fixed<=t:=Nat.and_le_left
  refine⟨b8,0,rfl,by omega,by dsimp only;omega,?_⟩
  refine Kn.rd K2 (.tail _ (.head _)) (x:=T (t&&&σ.fixed)) (by rw [Nat.zero_add,Nat.mul_one,Int.toNat_natCast];exact pc (by omega)) ?_
  refine⟨b84,0,rfl,by omega,by dsimp only;omega,?_⟩
  (((with_reducible apply Kn.wr);(assumption);((focus ((repeat first|exact .head|apply Upd.tail);done)))))
  ·rw [gw];omega
  intro h3 K3 _
  rw [bP,Nat.zero_add,Int.toNat_natCast,Nat.mul_one,ln]at K3
  rw [aA (by omega)]
  refine hnx2 hlt2 _ _ ⟨rfl,_,K3,fun j hj=>?_⟩
  by_cases e:j=t
  ·subst e
   rw [if_pos rfl,Bool.eq_iff_iff,hT,aC.fwd_iff]
   constructor
   ·rintro ⟨s',i',q1,q2,q3,q4,q5⟩
    exact⟨s',i',by omega,q2,q3,q4,by unfold aC.goes;rw [decide_eq_true_eq];exact q5.symm⟩
   ·rintro ⟨s',i',q1,q2,q3,q4,q5⟩
    unfold aC.goes at q5
    rw [decide_eq_true_eq]at q5
    exact⟨s',i',by omega,q2,q3,q4,q5.symm⟩
  ·rw [if_neg e];exact hU j (by omega)
 refine aJ (by rw [decide_eq_true_eq];exact_mod_cast hlt) ?_
 obtain⟨bS,oS,ha,hlt',hc⟩:=(hS.mono K1.le).get hlt
 refine⟨bS,oS,ha,by omega,hlt',_,hc,?_⟩
 refine dw ?_
 (refine kr_ ?_)
 rw [if_neg (by omega),bG (by omega)]
 refine av (2^σ.k) (fun i vs h'=>vs= [.pointer (some ⟨b,0,none⟩),s2.v, .func (.func fid) u w,(arr b8 (2^σ.n)).v,I s, .bool (S s),s2.v,I (2^σ.n:Nat),I s,I (2^σ.k:Nat),I i]/\
  ∃T,Kn h h' [(b8, .inl ⟨tb (2^σ.n) T,2^σ.n,false⟩)]/\ ∀x,T x=true↔ ∃s' i',(s'<s\/s'=s/\i'<i)/\i'<2^σ.k/\S s'=true/\p (σ.at_ s' i')=true/\σ.next (σ.at_ s' i')=x)
  ⟨rfl,T,K1,fun x=>?_⟩ ?_
 ·rw [hT]
  constructor
  ·rintro ⟨s',i',q1,q⟩;exact⟨s',i', .inl q1,q⟩
  ·rintro ⟨s',i',q1,q⟩;exact⟨s',i',by omega,q⟩
 clear K1 hT T h1 hc hlt' ha bS oS
 rintro i _ h1 nxt2 hi ⟨rfl,T,K1,hT⟩ hnx2
 refine⟨_,s2,_,_,_,arr b8 _,_,_,s2,_,_,_,_,rfl,?_⟩
 by_cases hli:i<2^σ.k
 rotate_left
 ·refine aD (by rw [decide_eq_false_iff_not];omega) ?_
  rw [aA (by omega)]
  refine hnx hlt _ _ ⟨rfl,T,K1,fun x=>?_⟩
  rw [hT]
  constructor
  ·rintro ⟨s',i',q1,q⟩;exact⟨s',i',by omega,q⟩
  ·rintro ⟨s',i',q1,q2,q⟩;exact⟨s',i',by omega,q2,q⟩
 refine aJ (by rw [decide_eq_true_eq];exact_mod_cast hli) ?_
 have fin: ∀T' h',Kn h h' [(b8, .inl ⟨tb (2^σ.n) T',2^σ.n,false⟩)]->(∀x,T' x=true↔T x=true\/(S s=true/\p (σ.at_ s i)=true/\σ.next (σ.at_ s i)=x))->
   nxt2 [.pointer (some ⟨b,0,none⟩),s2.v, .func (.func fid) u w,(arr b8 (2^σ.n)).v,I s, .bool (S s),s2.v,I (2^σ.n:Nat),I s,I (2^σ.k:Nat),I (W ((i:Int)+1))] h':=by
  intro T' h' K hx
  rw [aA (by omega)]
  refine hnx2 hli _ _ ⟨rfl,T',K,fun x=>?_⟩
  rw [hx,hT]
  constructor
  ·rintro (⟨s',i',q1,q⟩|⟨q1,q2,q3⟩)
   ·exact⟨s',i',by omega,q⟩
   ·exact⟨s,i,by omega,hli,q1,q2,q3⟩
  ·rintro ⟨s',i',q1,q2,q3,q4,q5⟩
   by_cases e:s'=s/\i'=i
   ·obtain⟨rfl,rfl⟩:=e
    exact .inr ⟨q3,q4,q5⟩
   ·exact .inl ⟨s',i',by omega,q2,q3,q4,q5⟩
 rw [dW]
 refine EW (hs.mono K1.le) ok hlt hli ⟨_,rfl,?_⟩
 rw [dW]
 have hc:=aC.at_lt hlt hli
 refine ac (fun e=>?_) (fun e=>?_)
 ·refine hp _ hc h1 K1.le _ ⟨_,rfl,?_⟩
  refine ac (fun e2=>?_) (fun e2=>?_)
  ·refine dw ?_
   (refine kr_ ?_)
   obtain⟨bx,ox,hax,hx1,hx2⟩:=(hnt.mono K1.le).get hc
   refine⟨bx,ox,hax,by omega,hx1,_,hx2,?_⟩
   have hnl:=ok.next _ hc
   refine⟨b8,0,rfl,by omega,by dsimp only;omega,?_⟩
   (((with_reducible apply Kn.wr);(assumption);((focus ((repeat first|exact .head|apply Upd.tail);done)))))
   ·rw [gw];omega
   intro h2 K2 _
   rw [bP,Nat.zero_add,Int.toNat_natCast,Nat.mul_one,ln]at K2
   refine fin _ h2 K2 fun x=>?_
   by_cases ex:x=σ.next (σ.at_ s i)
   ·rw [if_pos ex];exact⟨fun _=> .inr ⟨e,e2,ex.symm⟩,fun _=>rfl⟩
   ·rw [if_neg ex]
    exact⟨fun q=> .inl q,fun q=>q.resolve_right fun q=>ex q.2.2.symm⟩
  ·exact fin T h1 K1 fun x=>⟨fun q=> .inl q,fun q=>q.resolve_right fun q=>by rw [q.2.1]at e2;cases e2⟩
 ·refine aD rfl ?_
  exact fin T h1 K1 fun x=>⟨fun q=> .inl q,fun q=>q.resolve_right fun q=>by rw [q.1]at e;cases e⟩
theorem Ou {h:Hp} {s:Sl} {N:Nat} {T:Nat->Bool} {R:Value->Hp->Prop} (hT:cY h s N T) (hN:N<=1048576) (k1: ∀i:Nat,i<N->T i=true->R (I i) h) (k2:nJ N T=false->R (I (-1)) h):
  hE #[s.v, .bool true] h R:=by
 apply sf
 refine uf_ ?_
 have hl:=hT.len
 rw [hl]
 refine av N (fun i vs h'=>vs= [s.v, .bool true,I N,I i]/\h'=h/\ ∀j,j<i->T j=false) ⟨rfl,rfl,fun j hj=>by omega⟩ ?_
 rintro i _ _ next hi ⟨rfl,rfl,hj⟩ hnx
 refine⟨s,_,_,_,rfl,?_⟩
 by_cases hlt:i<N
 ·refine aJ (by rw [decide_eq_true_eq];exact_mod_cast hlt) ?_
  obtain⟨b,o,ha,h1,h2⟩:=hT.get hlt
  refine⟨b,o,ha,by omega,h1,_,h2,?_⟩
  refine ac (fun e=>?_) (fun e=>?_)
  ·exact k1 i hlt (by simpa using e)
  ·rw [aA (by omega)]
   refine hnx hlt _ _ ⟨rfl,rfl,fun j hji=>?_⟩
   by_cases eq:j=i
   ·rw [eq];simpa using e
   ·exact hj j (by omega)
 ·exact aD (by rw [decide_eq_false_iff_not];omega) (k2 (pC.2 fun j hjn=>hj j (by omega)))
theorem zk {h:Hp} {s:Sl} {N:Nat} {T:Nat->Bool} {R:Value->Hp->Prop} (hT:cY h s N T) (hN:N<=1048576) (k:R (.bool (nJ N T)) h):
  en #[s.v, .bool true] h R:=by
 apply qm
 refine uf_ ?_
 refine Ou hT hN (fun i hi e=>⟨_,rfl,?_⟩) fun e=>⟨_,rfl,?_⟩
 ·refine di ?_ k
  rw [cy.2 ⟨i,hi,e⟩,decide_eq_true_eq];omega
 ·refine di ?_ k
  rw [e];rfl
def AO (h:Hp) (s:Sl) (n m:Nat) (L:Nat->Nat->Bool):Prop:= ∃ts:List Sl,ts.length=m/\SlC h s 1 (ts.map Sl.v)/\ ∀(j:Nat) (t:Sl),ts[j]?=some t->cY h t n (L j)
theorem AO.mono {h h':Hp} {s:Sl} {n m:Nat} {L:Nat->Nat->Bool} (l:h.le h') (e:AO h s n m L):AO h' s n m L:=by
 obtain⟨ts,e1,e2,e3⟩:=e
 exact⟨ts,e1,e2.mono l,fun j t ht=>(e3 j t ht).mono l⟩
theorem AO.len {h:Hp} {s:Sl} {n m:Nat} {L:Nat->Nat->Bool} (e:AO h s n m L):s.n=m:=by
 obtain⟨ts,e1,e2,_⟩:=e
 have:=e2.2.1
 simp at this;omega
theorem AO.get {h:Hp} {s:Sl} {n m i:Nat} {L:Nat->Nat->Bool} (e:AO h s n m L) (hi:i<m):
  ∃b o t,s.a=some (Addr.mk b o none)/\(i:Int)<(s.n:Int)/\Hp.cell h b (o+Int.toNat (i:Int)*1)=some (Sl.v t)/\cY h t n (L i):=by
 have hl:=e.len
 obtain⟨ts,e1,e2,e3⟩:=e
 obtain⟨t,ht⟩: ∃t,ts[i]?=some t:=⟨_,List.getElem?_eq_getElem (by omega)⟩
 obtain⟨b,o,ha,hc⟩:=SlC.get e2 (by omega)
 refine⟨b,o,t,ha,by omega,?_,e3 i t ht⟩
 rw [Int.toNat_natCast,Nat.mul_one]
 exact hc i _ (by simp [ht])
theorem mI {h:Hp} {b:Nat} {σ:aC} {R:Value->Hp->Prop} (hs:nk h b σ) (ok:σ.Ok)
  (k: ∀s h',h.le h'->AO h' s (2^σ.n) σ.nLay σ.front->R (Sl.v s) h'):dn #[.pointer (some ⟨b,0,none⟩)] h R:=by
 apply xe
 refine uf_ ?_
 have hn:=eO ok
 have h8:=ok.nle
 obtain⟨M,st,hold,bad,next,fx,_⟩:=id hs
 have K0:=Kn.nil h
 refine dw ?_
 (refine kr_ ?_)
 rw [if_neg (by omega),bG (by omega)]
 refine⟨Int.natCast_nonneg _,Int.le_refl _,by omega,by omega,?_⟩
 (with_reducible apply Kn.al);(assumption);(intro b7 h1 K1 l1 hb7)
 rw [Int.toNat_natCast,Nat.mul_one,cj,kb]at K1
 refine dw ?_
 (refine kr_ ?_)
 rw [if_neg (by omega),bG (by omega)]
 refine⟨Int.natCast_nonneg _,Int.le_refl _,by omega,by omega,?_⟩
 (with_reducible apply Kn.al);(assumption);(intro b13 h2 K2 l2 hb13)
 rw [Int.toNat_natCast,Nat.mul_one,cj,kb]at K2
 rw [Int.toNat_natCast]
 refine av (2^σ.n) (fun i vs h'=>vs= [.pointer (some ⟨b,0,none⟩),(arr b7 (2^σ.n)).v,(arr b13 (2^σ.n)).v,I (2^σ.n:Nat),I i]/\
  ∃U,Kn h h' [(b13, .inl ⟨tb (2^σ.n) U,2^σ.n,false⟩),(b7, .inl ⟨tb (2^σ.n) fun _=>false,2^σ.n,false⟩)]/\ ∀j,j<i->U j=σ.begins j)
  ⟨rfl,_,K2,fun j hj=>by omega⟩ ?_
 clear K2 K1 K0 l1 l2 hb7 hb13 h1 h2
 rintro i _ h1 nxt hi ⟨rfl,U,K1,hU⟩ hnx
 refine⟨_,arr b7 _,arr b13 _,_,_,rfl,?_⟩
 by_cases hlt:i<2^σ.n
 ·refine aJ (by rw [decide_eq_true_eq];exact_mod_cast hlt) ?_
  refine wE (hs.mono K1.le) ok hlt ⟨_,rfl,?_⟩
  refine⟨b13,0,rfl,by omega,by dsimp only;omega,?_⟩
  (((with_reducible apply Kn.wr);(assumption);((focus ((repeat first|exact .head|apply Upd.tail);done)))))
  ·rw [gw];omega
  intro h2 K2 _
  rw [bP,Nat.zero_add,Int.toNat_natCast,Nat.mul_one,ln]at K2
  rw [aA (by omega)]
  refine hnx hlt _ _ ⟨rfl,_,K2,fun j hj=>?_⟩
  by_cases e:j=i
  ·rw [if_pos e,e]
  ·rw [if_neg e];exact hU j (by omega)
 refine aD (by rw [decide_eq_false_iff_not];omega) ?_
 replace hU: ∀j,j<2^σ.n->U j=σ.front 0 j:=fun j hj=>hU j (by omega)
 clear hnx hi hlt
 refine av (2^σ.n) (fun i vs h'=> ∃(out:Sl) (g:Hp) (bF:Nat) (F V:Nat->Bool) (ts:List Sl),vs= [.pointer (some ⟨b,0,none⟩),(arr b7 (2^σ.n)).v,(arr bF (2^σ.n)).v,out.v]/\
  h.le g/\Kn g (h'.offS out) [(bF, .inl ⟨tb (2^σ.n) F,2^σ.n,false⟩),(b7, .inl ⟨tb (2^σ.n) V,2^σ.n,false⟩)]/\Buf h' out 1 (ts.map Sl.v)/\ts.length=i/\
  (∀(j:Nat) (t:Sl),ts[j]?=some t->cY g t (2^σ.n) (σ.front j))/\(∀j,j<2^σ.n->F j=σ.front i j)/\(∀j,j<2^σ.n->V j=σ.seen i j)/\ ∀j,j<i->σ.live j=true)
  ⟨⟨none,0,0⟩,h,b13,U,_, [],rfl,Hp.le_refl _,K1,eF _ _,rfl,fun j t ht=>by simp at ht,hU,fun _ _=>rfl,fun j hj=>by omega⟩ ?_
 clear K1 hU U h1 b13
 rintro i _ h1 nxt hi ⟨out,g,bF,F,V,ts,rfl,lg,K1,hB,htl,ht,hF,hV,hlive⟩ hnx
 refine⟨_,arr b7 _,arr bF _,out,rfl,?_⟩
 have K1':=K1.mono (bk h1 out)
 have hbF:cY h1 (arr bF (2^σ.n)) (2^σ.n) (σ.front i):=jV (by omega) (K1'.at (.head _)) hF
 have hon:=hB.1
 rw [List.length_map,Nat.mul_one]at hon
 refine zk hbF (by omega) ⟨_,rfl,?_⟩
 refine ac (fun e=>?_) (fun e=>?_)
 rotate_left
 ·have hnl:σ.nLay=i:=aC.nLay_of hlive e
  exact k out h1 (Hp.le_trans lg K1'.le) ⟨ts,by omega,hB.slc_of (by omega),fun j t hj=>(ht j t hj).mono K1'.le⟩
 have hlive': ∀j,j<i+1->σ.live j=true:=fun j hj=>by
  by_cases e2:j=i
  ·rw [e2];exact e
  ·exact hlive j (by omega)
 have hlt:i<2^σ.n:=aC.live_le hlive'
 refine aj fun b55 h2 hb55 l2 f55=>?_
 refine dp (hB.mono l2) (by omega) (by omega) (by omega) ⟨b55,0,rfl,ay f55⟩ (by simp) rfl ?_
 intro s' h3 hs'n hB' l3 _
 have K2:=K1.mono (Hp.le_trans (bM out l2) l3)
 obtain⟨K3,K4⟩:=Kn.split (A:= [(bF, .inl ⟨tb (2^σ.n) F,2^σ.n,false⟩)]) (B:= [(b7, .inl ⟨tb (2^σ.n) V,2^σ.n,false⟩)]) K2
 have lg1:=K4.le
 have fF:=K4.at (.head _)
 generalize (h3.offS s').wo (([(b7, .inl ⟨tb (2^σ.n) V,2^σ.n,false⟩)]:List (Nat×Blk)).map Prod.fst)=g1 at*
 have lh:=Hp.le_trans lg lg1
 have lh3:=Hp.le_trans lh (Hp.le_trans K3.le (bk h3 s'))
 have tF:cY g1 (arr bF (2^σ.n)) (2^σ.n) (σ.front i):=jV (by omega) fF hF
 refine KD (hs.mono lh3) ok (tF.mono (Hp.le_trans K3.le (bk h3 s'))) (fun c hc h' l R kk=>KW ((hs.mono lh3).mono l) hc kk) fun bN T h4 K5 hT=>⟨_,rfl,?_⟩
 have hbN:h3 bN=none:=K5.new _ (.head _)
 have K6:=K3.cons (b:=bN) (aF (bk h3 s') hbN) (bM s' K5.le) (hB'.offS_new hbN (K5.at (.head _)))
 have hB4:=hB'.mono K5.le
 refine av (2^σ.n) (fun x vs h'=>vs= [.pointer (some ⟨b,0,none⟩),(arr b7 (2^σ.n)).v,(arr bF (2^σ.n)).v,s'.v,(arr bN (2^σ.n)).v,I (2^σ.n:Nat),I x]/\
  ∃T V,Kn g1 (h'.offS s') [(bN, .inl ⟨tb (2^σ.n) T,2^σ.n,false⟩),(b7, .inl ⟨tb (2^σ.n) V,2^σ.n,false⟩)]/\Buf h' s' 1 (ts.map Sl.v++ [(arr bF (2^σ.n)).v])/\
   (∀j,j<2^σ.n->T j=if j<x then σ.front (i+1) j else σ.fwd σ.hold (σ.front i) j)/\ ∀j,j<2^σ.n->V j=if j<x then σ.seen (i+1) j else σ.seen i j)
  ⟨rfl,T,V,K6,hB4,fun j hj=>by rw [if_neg (by omega)];exact hT j hj,fun j hj=>by rw [if_neg (by omega)];exact hV j hj⟩ ?_
 clear K6 hB4 hT hV K5
 rintro x _ h5 nxt2 hx ⟨rfl,T,V,K,B,hT,hV⟩ hnx2
 refine⟨_,arr b7 _,arr bF _,s',arr bN _,_,_,rfl,?_⟩
 by_cases hlx:x<2^σ.n
 rotate_left
 ·refine aD (by rw [decide_eq_false_iff_not];omega) ?_
  refine hnx hlt _ _ ⟨s',g1,bN,T,V,ts++ [arr bF (2^σ.n)],rfl,lh,K,by rw [List.map_append];exact B,by simp [htl],fun j t hj=>?_,fun j hj=>by rw [hT j hj,if_pos (by omega)],
   fun j hj=>by rw [hV j hj,if_pos (by omega)],hlive'⟩
  by_cases hji:j<i
  ·rw [List.getElem?_append_left (by omega)]at hj
   exact(ht j t hj).mono lg1
  ·have hj2:=get_lt hj
   simp at hj2
   rw [List.getElem?_append_right (by omega),show j-ts.length=0 by omega]at hj
   simp at hj;subst hj
   rw [show j=i by omega];exact tF
 refine aJ (by rw [decide_eq_true_eq];exact_mod_cast hlx) ?_
 refine ap (fun J=> ∀h'' V',Kn g1 (h''.offS s') [(bN, .inl ⟨tb (2^σ.n) T,2^σ.n,false⟩),(b7, .inl ⟨tb (2^σ.n) V',2^σ.n,false⟩)]->Buf h'' s' 1 (ts.map Sl.v++ [(arr bF (2^σ.n)).v])->
  (∀j,j<2^σ.n->V' j=if j<x+1 then σ.seen (i+1) j else σ.seen i j)->J h'') (fun h6 V' K6 B6 hV6=>?_) (fun J hJ=>?_)
 ·have hTx:T x=σ.fwd σ.hold (σ.front i) x:=by rw [hT x hlx,if_neg (by omega)]
  have hVx:V' x=σ.seen (i+1) x:=by rw [hV6 x hlx,if_pos (by omega)]
  have fin: ∀v h7,v=σ.front (i+1) x->Kn g1 (h7.offS s') [(bN, .inl ⟨(tb (2^σ.n) T).set x (.bool v),2^σ.n,false⟩),(b7, .inl ⟨tb (2^σ.n) V',2^σ.n,false⟩)]->Buf h7 s' 1 (ts.map Sl.v++ [(arr bF (2^σ.n)).v])->
    nxt2 [.pointer (some ⟨b,0,none⟩),(arr b7 (2^σ.n)).v,(arr bF (2^σ.n)).v,s'.v,(arr bN (2^σ.n)).v,I (2^σ.n:Nat),I (W ((x:Int)+1))] h7:=by
   intro v h7 hv K7 B7
   rw [aA (by omega)]
   rw [ln]at K7
   refine hnx2 hlx _ _ ⟨rfl,_,V',K7,B7,fun j hj=>?_,hV6⟩
   by_cases e2:j=x
   ·rw [if_pos e2,if_pos (by omega),e2];exact hv
   ·rw [if_neg e2,hT j hj]
    by_cases e3:j<x
    ·rw [if_pos e3,if_pos (by omega)]
    ·rw [if_neg e3,if_neg (by omega)]
  have K6':=K6.mono (bk h6 s')
  refine⟨bN,0,rfl,by omega,by dsimp only;omega,?_⟩
  refine Kn.rd K6' (.head _) (x:=T x) (by rw [Nat.zero_add,Nat.mul_one,Int.toNat_natCast];exact pc hlx) ?_
  refine ac (fun e2=>?_) (fun e2=>?_)
  ·refine⟨b7,0,rfl,by omega,by dsimp only;omega,?_⟩
   refine Kn.rd K6' (.tail _ (.head _)) (x:=V' x) (by rw [Nat.zero_add,Nat.mul_one,Int.toNat_natCast];exact pc hlx) ?_
   refine⟨bN,0,rfl,by omega,by dsimp only;omega,?_⟩
   (with_reducible apply Kn.wrS);(exact K6);((focus ((repeat first|exact .head|apply Upd.tail);done)))
   ·rw [gw];omega
   intro h7 K7 B7 _
   rw [bP,Nat.zero_add,Int.toNat_natCast,Nat.mul_one]at K7
   exact fin _ h7 (by rw [aC.front_succ,<-hTx,e2,hVx];rfl) K7 (B7 _ _ B6)
  ·refine⟨bN,0,rfl,by omega,by dsimp only;omega,?_⟩
   (with_reducible apply Kn.wrS);(exact K6);((focus ((repeat first|exact .head|apply Upd.tail);done)))
   ·rw [gw];omega
   intro h7 K7 B7 _
   rw [bP,Nat.zero_add,Int.toNat_natCast,Nat.mul_one]at K7
   exact fin _ h7 (by rw [aC.front_succ,<-hTx,e2];rfl) K7 (B7 _ _ B6)
 ·have hVx:V x=σ.seen i x:=by rw [hV x hlx,if_neg (by omega)]
  have fin: ∀v h7,v=σ.seen (i+1) x->Kn g1 (h7.offS s') [(bN, .inl ⟨tb (2^σ.n) T,2^σ.n,false⟩),(b7, .inl ⟨(tb (2^σ.n) V).set x (.bool v),2^σ.n,false⟩)]->Buf h7 s' 1 (ts.map Sl.v++ [(arr bF (2^σ.n)).v])->J h7:=by
   intro v h7 hv K7 B7
   rw [ln]at K7
   refine hJ h7 _ K7 B7 fun j hj=>?_
   by_cases e2:j=x
   ·rw [if_pos e2,if_pos (by omega),e2];exact hv
   ·rw [if_neg e2,hV j hj]
    by_cases e3:j<x
    ·rw [if_pos e3,if_pos (by omega)]
    ·rw [if_neg e3,if_neg (by omega)]
  have K':=K.mono (bk h5 s')
  refine⟨b7,0,rfl,by omega,by dsimp only;omega,?_⟩
  refine Kn.rd K' (.tail _ (.head _)) (x:=V x) (by rw [Nat.zero_add,Nat.mul_one,Int.toNat_natCast];exact pc hlx) ?_
  refine ac (fun e2=>?_) (fun e2=>?_)
  ·refine⟨b7,0,rfl,by omega,by dsimp only;omega,?_⟩
   (with_reducible apply Kn.wrS);(exact K);((focus ((repeat first|exact .head|apply Upd.tail);done)))
   ·rw [gw];omega
   intro h7 K7 B7 _
   rw [bP,Nat.zero_add,Int.toNat_natCast,Nat.mul_one]at K7
   exact fin _ h7 (by rw [aC.seen_succ,<-hVx,e2];rfl) K7 (B7 _ _ B)
  ·refine⟨bF,0,rfl,by omega,by dsimp only;omega,?_⟩
   refine Kn.rg K' fF (x:=F x) (by rw [Nat.zero_add,Nat.mul_one,Int.toNat_natCast];exact pc hlx) ?_
   refine⟨b7,0,rfl,by omega,by dsimp only;omega,?_⟩
   (with_reducible apply Kn.wrS);(exact K);((focus ((repeat first|exact .head|apply Upd.tail);done)))
   ·rw [gw];omega
   intro h7 K7 B7 _
   rw [bP,Nat.zero_add,Int.toNat_natCast,Nat.mul_one]at K7
   exact fin _ h7 (by rw [aC.seen_succ,<-hVx,e2,hF x hlx];rfl) K7 (B7 _ _ B)
theorem H0 {h:Hp} {b4 b z s c:Nat} {σ:aC} {R:Value->Hp->Prop} (hs:nk h b σ) (f:h b4=some (.inl ⟨[.pointer (some ⟨b,0,none⟩)],z,false⟩)) (hc:c<2^(σ.n+σ.k)) (k:R (.bool (σ.ends c)) h):
  nV #[I s,I c, .pointer (some ⟨b4,0,none⟩)] h R:=by
 apply uv
 refine uf_ ?_
 (refine az ?_)
 exact yl hs hc ⟨_,rfl,k⟩
theorem uN {h:Hp} {b:Nat} {s2:Sl} {σ:aC} {R:Value->Hp->Prop} (hs:nk h b σ) (ok:σ.Ok) (hL:AO h s2 (2^σ.n) σ.nLay σ.front) (k:R (I σ.depthI) h):
  eZ #[.pointer (some ⟨b,0,none⟩),s2.v] h R:=by
 refine ACalls.drop (yE ?_)
 refine uf_ ?_
 have hn:=eO ok
 have hnl:=aC.nLay_le σ
 refine aj fun b4 h1 hb4 l1 f4=>?_
 (refine az ?_)
 refine um (hs.mono l1) ok (f:=fun _ c=>σ.ends c) (fun s i hs' hi h' l R kk=>H0 ((hs.mono l1).mono l) (l _ _ f4) (aC.at_lt hs' hi) kk) fun t h2 l2 ht'=>⟨_,rfl,?_⟩
 have ht:=ht'.mono (sub_le h2 h1)
 have l02:=Hp.le_trans l1 l2
 have hL2:=hL.mono l02
 have hl:=hL.len
 rw [hl]
 refine av σ.nLay (fun i vs h'=>vs= [t.v,s2.v,I σ.nLay,I i]/\h2=h'/\ ∀j,j<i->σ.hits j=false) ⟨rfl,rfl,fun j hj=>by omega⟩ ?_
 rintro i _ _ nxt hi ⟨rfl,rfl,hno⟩ hnx
 refine⟨t,s2,_,_,rfl,?_⟩
 by_cases hlt:i<σ.nLay
 rotate_left
 ·refine aD (by rw [decide_eq_false_iff_not];omega) ⟨h,l02,?_⟩
  have:σ.depth=none:=aC.find_none.2 fun j hj=>hno j (by omega)
  unfold aC.depthI at k
  rw [this]at k;exact k
 refine aJ (by rw [decide_eq_true_eq];exact_mod_cast hlt) ?_
 obtain⟨bl,ol,r,ha,h3,h4,hr⟩:=hL2.get hlt
 refine⟨bl,ol,ha,by omega,h3,r,h4,?_⟩
 have hrl:=hr.len
 rw [hrl]
 refine av (2^σ.n) (fun j vs h'=>vs= [t.v,I i,s2.v,I σ.nLay,I i,r.v,I (2^σ.n:Nat),I j]/\h2=h'/\ ∀x,x<j->(σ.front i x&&σ.endsAt x)=false) ⟨rfl,rfl,fun j hj=>by omega⟩ ?_
 rintro j _ _ nxt2 hj ⟨rfl,rfl,hno2⟩ hnx2
 refine⟨t,_,s2,_,_,r,_,_,rfl,?_⟩
 by_cases hlj:j<2^σ.n
 rotate_left
 ·refine aD (by rw [decide_eq_false_iff_not];omega) ?_
  rw [aA (by omega)]
  refine hnx hlt _ _ ⟨rfl,rfl,fun x hx=>?_⟩
  by_cases e:x=i
  ·rw [e];exact pC.2 fun y hy=>hno2 y (by omega)
  ·exact hno x (by omega)
 refine aJ (by rw [decide_eq_true_eq];exact_mod_cast hlj) ?_
 have go:(σ.front i j&&σ.endsAt j)=false->nxt2 [t.v,I i,s2.v,I σ.nLay,I i,r.v,I (2^σ.n:Nat),I (W ((j:Int)+1))] h2:=fun e=>by
  rw [aA (by omega)]
  refine hnx2 hlj _ _ ⟨rfl,rfl,fun x hx=>?_⟩
  by_cases e2:x=j
  ·rw [e2];exact e
  ·exact hno2 x (by omega)
 obtain⟨br,or,har,hr1,hr2⟩:=hr.get hlj
 refine⟨br,or,har,by omega,hr1,_,hr2,?_⟩
 refine ac (fun e=>?_) (fun e=>?_)
 ·obtain⟨bt,ot,hat,ht1,ht2⟩:=ht.get hlj
  refine⟨bt,ot,hat,by omega,ht1,_,ht2,?_⟩
  have he:σ.some_ (fun _ c=>σ.ends c) j=σ.endsAt j:=rfl
  refine ac (fun e2=>?_) (fun e2=>?_)
  ·refine⟨h,l02,?_⟩
   have:σ.depth=some i:=aC.depth_some.2 ⟨cy.2 ⟨j,hlj,by rw [e,<-he,e2];rfl⟩,fun x hx=>hno x hx⟩
   unfold aC.depthI at k
   rw [this]at k;exact k
  ·exact go (by rw [<-he,e2,Bool.and_false])
 ·exact go (by rw [e];rfl)
def cE (X:List (Nat×Blk)) (s:Sl) (sz:Nat) (cs:List Value):Prop:=
 cs.length=s.n*sz/\s.n<=s.c/\((X= []/\s=⟨none,0,0⟩/\cs= [])\/ ∃b,s.a=some ⟨b,0,none⟩/\X= [(b, .inl ⟨cs,s.c*sz,false⟩)])
theorem cD (sz:Nat):cE [] ⟨none,0,0⟩ sz []:=⟨by simp,Nat.le_refl _, .inl ⟨rfl,rfl,rfl⟩⟩
theorem cE.buf {X:List (Nat×Blk)} {h:Hp} {s:Sl} {sz:Nat} {cs:List Value} (o:cE X s sz cs) (m: ∀e∈X,h e.1=some e.2):Buf h s sz cs:=by
 refine⟨o.1,o.2.1,?_⟩
 rcases o.2.2 with ⟨_,rfl,_⟩|⟨b,ha,rfl⟩
 ·exact .inl ⟨rfl,rfl,rfl⟩
 ·exact .inr ⟨b,ha,m _ (.head _)⟩
theorem Kn.perm {g h:Hp} {L L':List (Nat×Blk)} (K:Kn g h L) (p:L.Perm L'):Kn g h L':=K.sub (fun e he=>p.mem_iff.2 he) ((p.map Prod.fst).nodup_iff.1 K.nd)
theorem Kn.grow {g h:Hp} {X L:List (Nat×Blk)} {s:Sl} {sz by_ m:Nat} {cs news:List Value} {src:Option Addr} {C:Option Addr->Nat->Nat->Hp->Prop}
  (K:Kn g h (X++L)) (o:cE X s sz cs) (hm:0<m) (hsz:(s.n+m)*by_<=140737488355328) (hsz':s.n+m<=9223372036854775807)
  (hs: ∃sb so,src=some ⟨sb,so,none⟩/\gT h sb so news) (hl:news.length=m*sz) (ho:news.all (·.oneCell')=true)
  (k: ∀s' X' h',s'.n=s.n+m->cE X' s' sz (cs++news)->Kn g h' (X'++L)->(h.offS s).le h'->C s'.a s'.n s'.c h'):ck h s.a s.n s.c src m sz by_ C:=by
 refine dp (o.buf fun e he=>K.mem e (List.mem_append_left _ he)) hm hsz hsz' hs hl ho fun s' h' hn B l _=>?_
 have nd:=K.nd
 rw [List.map_append,List.nodup_append]at nd
 have base:g.le (h.offS s)/\ ∀e∈L,(h.offS s) e.1=some e.2:=by
  rcases o.2.2 with ⟨_,rfl,_⟩|⟨b,ha,rfl⟩
  ·exact⟨K.le,fun e he=>K.mem e (List.mem_append_right _ he)⟩
  ·unfold Hp.offS
   rw [ha]
   refine⟨uR (K.new (b,_) (.head _)) K.le,fun e he=>?_⟩
   have hne:e.1≠b:=fun hb=>nd.2.2 b (by simp) e.1 (List.mem_map.2 ⟨e,he,rfl⟩) hb.symm
   simp only [Hp.off,Hp.set]
   rw [if_neg hne];exact K.mem e (List.mem_append_right _ he)
 rcases B.2.2 with ⟨_,h0,_⟩|⟨b,ha,hb⟩
 ·omega
 have hoff:(h'.offS s') b=none:=by simp [Hp.offS,ha,Hp.off,Hp.set]
 refine k s' [(b, .inl ⟨cs++news,s'.c*sz,false⟩)] h' hn ⟨B.1,B.2.1, .inr ⟨b,ha,rfl⟩⟩ ?_ (Hp.le_trans l (bk h' s'))
 have lo:=bk h' s'
 have hg:g b=none:=by
  cases hgb:g b with
  |none=>rfl
  |some x=>rw [l _ _ (base.1 _ _ hgb)]at hoff;cases hoff
 refine⟨Hp.le_trans base.1 (Hp.le_trans l lo),fun e he=>?_,fun e he=>?_,?_⟩
 ·rcases List.mem_cons.1 he with rfl|he
  ·exact hb
  ·exact lo _ _ (l _ _ (base.2 e he))
 ·rcases List.mem_cons.1 he with rfl|he
  ·exact hg
  ·exact K.new e (List.mem_append_right _ he)
 ·show (b::L.map Prod.fst).Nodup
  rw [List.nodup_cons]
  refine⟨fun hm=>?_,nd.2.1⟩
  obtain⟨e,he,heb⟩:=List.mem_map.1 hm
  have:=l _ _ (base.2 e he)
  rw [heb,hoff]at this;cases this
theorem Kn.growIn {g h:Hp} {A X L:List (Nat×Blk)} {s:Sl} {sz by_ m:Nat} {cs news:List Value} {src:Option Addr} {C:Option Addr->Nat->Nat->Hp->Prop}
  (K:Kn g h (A++(X++L))) (o:cE X s sz cs) (hm:0<m) (hsz:(s.n+m)*by_<=140737488355328) (hsz':s.n+m<=9223372036854775807)
  (hs: ∃sb so,src=some ⟨sb,so,none⟩/\gT h sb so news) (hl:news.length=m*sz) (ho:news.all (·.oneCell')=true)
  (k: ∀s' X' h',s'.n=s.n+m->cE X' s' sz (cs++news)->Kn g h' (A++(X'++L))->(h.offS s).le h'->C s'.a s'.n s'.c h'):ck h s.a s.n s.c src m sz by_ C:=by
 have sw: ∀Y:List (Nat×Blk),(A++(Y++L)).Perm (Y++(A++L)):=fun Y=>by
  rw [<-List.append_assoc,<-List.append_assoc]
  exact List.perm_append_comm.append_right L
 exact Kn.grow (K.perm (sw X)) o hm hsz hsz' hs hl ho fun s' X' h' hn o' K' l=>k s' X' h' hn o' (K'.perm (sw X').symm) l
theorem Kn.growIn2 {g h:Hp} {A Y X L:List (Nat×Blk)} {s:Sl} {sz by_ m:Nat} {cs news:List Value} {src:Option Addr} {C:Option Addr->Nat->Nat->Hp->Prop}
  (K:Kn g h (A++(Y++(X++L)))) (o:cE X s sz cs) (hm:0<m) (hsz:(s.n+m)*by_<=140737488355328) (hsz':s.n+m<=9223372036854775807)
  (hs: ∃sb so,src=some ⟨sb,so,none⟩/\gT h sb so news) (hl:news.length=m*sz) (ho:news.all (·.oneCell')=true)
  (k: ∀s' X' h',s'.n=s.n+m->cE X' s' sz (cs++news)->Kn g h' (A++(Y++(X'++L)))->(h.offS s).le h'->C s'.a s'.n s'.c h'):ck h s.a s.n s.c src m sz by_ C:=by
 have sw: ∀Z:List (Nat×Blk),(A++(Y++(Z++L))).Perm (A++(Z++(Y++L))):=fun Z=>by
  refine List.Perm.append_left A ?_
  rw [<-List.append_assoc,<-List.append_assoc]
  exact List.perm_append_comm.append_right L
 exact Kn.growIn (K.perm (sw X)) o hm hsz hsz' hs hl ho fun s' X' h' hn o' K' l=>k s' X' h' hn o' (K'.perm (sw X').symm) l
theorem Kn.growIn3 {g h:Hp} {A Y Z X L:List (Nat×Blk)} {s:Sl} {sz by_ m:Nat} {cs news:List Value} {src:Option Addr} {C:Option Addr->Nat->Nat->Hp->Prop}
  (K:Kn g h (A++(Y++(Z++(X++L))))) (o:cE X s sz cs) (hm:0<m) (hsz:(s.n+m)*by_<=140737488355328) (hsz':s.n+m<=9223372036854775807)
  (hs: ∃sb so,src=some ⟨sb,so,none⟩/\gT h sb so news) (hl:news.length=m*sz) (ho:news.all (·.oneCell')=true)
  (k: ∀s' X' h',s'.n=s.n+m->cE X' s' sz (cs++news)->Kn g h' (A++(Y++(Z++(X'++L))))->(h.offS s).le h'->C s'.a s'.n s'.c h'):ck h s.a s.n s.c src m sz by_ C:=by
 have sw: ∀W:List (Nat×Blk),(A++(Y++(Z++(W++L)))).Perm (A++((Y++Z)++(W++L))):=fun W=>by rw [<-List.append_assoc Y Z]
 exact Kn.growIn2 (K.perm (sw X)) o hm hsz hsz' hs hl ho fun s' X' h' hn o' K' l=>k s' X' h' hn o' (K'.perm (sw X').symm) l
theorem cE.slc {X A L:List (Nat×Blk)} {g h:Hp} {s:Sl} {sz:Nat} {cs:List Value} (o:cE X s sz cs) (K:Kn g h (A++(X++L))) (hn:s.n<=9223372036854775807):SlC h s sz cs:=
 (o.buf fun e he=>K.mem e (List.mem_append_right _ (List.mem_append_left _ he))).slc_of hn
theorem ge.offG {X:List (Nat×Blk)} {h:Hp} {A s:Sl} {f:Nat->Bool} {n:Nat} {vs:List (List Nat)} (e:ge h s vs) (o:cE X A 1 ((List.range n).map fun i=> .bool (f i))) (m: ∀e∈X,h e.1=some e.2):ge (h.offS A) s vs:=by
 rcases o.2.2 with ⟨_,rfl,_⟩|⟨b,ha,rfl⟩
 ·exact e
 ·unfold Hp.offS
  rw [ha]
  refine e.keep (m _ (.head _)) (fun j i hj=>?_) (fun j t hj=>?_) fun c hc=>by simp [Hp.off,Hp.set,hc]
  ·simp only [List.getElem?_map,Option.map_eq_some_iff]at hj
   obtain⟨a,_,hj⟩:=hj
   cases hj
  ·simp only [List.getElem?_map,Option.map_eq_some_iff]at hj
   obtain⟨a,_,hj⟩:=hj
   cases hj
theorem ge.keepB {h h':Hp} {s:Sl} {b:Nat} {vs:List (List Nat)} (e:ge h s vs) (n: ∀o,s.a≠some (Addr.mk b o none)) (kp: ∀c,c≠b->h' c=h c) (ki: ∀o i,Hp.cell h b o=some (I i)->Hp.cell h' b o=some (I i)):ge h' s vs:=by
 have hc: ∀c o i,Hp.cell h c o=some (I i)->Hp.cell h' c o=some (I i):=fun c o i hi=>by
  by_cases e2:c=b
  ·subst e2;exact ki o i hi
  ·unfold Hp.cell at hi⊢;rw [kp c e2];exact hi
 refine⟨e.1,e.2.1,fun p hp=>?_⟩
 obtain⟨b',o,t,h1,h2,h3⟩:=e.2.2 p hp
 refine⟨b',o,t,h1,?_,h3.1,h3.2.1,h3.2.2.imp id ?_⟩
 ·have hne:b'≠b:=by rintro rfl;exact n o h1
  unfold Hp.cell at h2⊢;rw [kp b' hne];exact h2
 ·rintro ⟨c,o',ha,hcs⟩
  refine⟨c,o',ha,fun i v hv=>?_⟩
  have hvI:=hv
  rw [List.getElem?_map,Option.map_eq_some_iff]at hvI
  obtain⟨x,_,rfl⟩:=hvI
  exact hc _ _ _ (hcs i _ hv)
structure Bb where
 hs:Sl
 es:Sl
 ns:Sl
 fs:Sl
 bs:Sl
abbrev AM (σ:aC) (q:Bb):List Value:= [I (2^σ.n:Nat),I (2^σ.k:Nat),q.hs.v,q.es.v,q.ns.v,q.fs.v,q.bs.v]
abbrev DJ (σ:aC) (q:Bb):Value:= .agg #[I (2^σ.n:Nat),I (2^σ.k:Nat),q.hs.v,q.es.v,q.ns.v,q.fs.v,q.bs.v]
def z7 (h:Hp) (q:Bb) (σ:aC):Prop:=cY h q.hs (2^(σ.n+σ.k)) σ.hold/\cY h q.es (2^(σ.n+σ.k)) σ.ends/\BG h q.ns (2^(σ.n+σ.k)) σ.next/\
 (∃fm,fm+σ.fixed=2^σ.n-1/\IntS h q.fs (VL (eu fm)))/\cY h q.bs (2^σ.n) σ.begins
theorem z7.mono {h h':Hp} {q:Bb} {σ:aC} (l:h.le h') (e:z7 h q σ):z7 h' q σ:=by
 obtain⟨a,b,c,⟨fm,d1,d2⟩,f⟩:=e
 exact⟨a.mono l,b.mono l,c.mono l,⟨fm,d1,d2.mono l⟩,f.mono l⟩
theorem rM {α:Type} (f:Nat->α) (c:Nat):(List.range (c+1)).map f=(List.range c).map f++ [f c]:=by rw [List.range_succ,List.map_append];rfl
theorem Oa {m:ai} (g:dP m):kc m+(aG m).fixed=2^(aG m).n-1:=by
 have:=TE m.nodes (fun p=>(ce m.nexts p).isSome) (stP m)
 have e:=fy g
 show kc m+Od m m.nexts=2^ak m.nodes 36-1
 rw [<-e,<-this,Nat.add_comm];rfl
theorem oM {h:Hp} {M:MSl} {m:ai} {R:Value->Hp->Prop} (hs:aN h M m) (hm:bW m) (hc0:ax m=0)
  (k: ∀q h',h.le h'->z7 h' q (aG m)->R (DJ (aG m) q) h'):gn #[aO M] h R:=by
 apply Ky
 refine uf_ ?_
 have g:=co hc0
 have hn8:=g.n8
 have hk5':=g.k5
 have ok:=gq g
 have hp8:=eO ok
 have hk5:=CK ok
 have hp13:=pK ok
 have hnk:=aC.pow_nk (aG m)
 have K0:=Kn.nil h
 (with_reducible apply Kn.al);(assumption);(intro b7 h1 K1 l1 hb7)
 (with_reducible apply Kn.al);(assumption);(intro b9 h2 K2 l2 hb9)
 clear K0 K1 l1 hb7
 repeat' (refine kr_ ?_)
 refine gf (hs.mono K2.le) hm ⟨_,rfl,?_⟩
 repeat' (refine kr_ ?_)
 refine gf (hs.mono K2.le) hm ⟨_,rfl,?_⟩
 rw [cl (by omega),cl (by omega),if_neg (by omega),if_neg (by omega),bG (by omega),bG (by omega),show ak m.nodes 36=(aG m).n from rfl,show ak m.nodes 35=(aG m).k from rfl]
 repeat' (refine kr_ ?_)
 refine J4 (hs.mono K2.le) hm g fun F h3 l3 hF=>⟨_,rfl,?_⟩
 have hF':IntS (h3.wo (([(b9, .inl ⟨[I 0,I 0, .slice none 0 0, .slice none 0 0, .slice none 0 0, .slice none 0 0, .slice none 0 0],7,false⟩),(b7, .inl ⟨aw M,5,false⟩)]:List (Nat×Blk)).map Prod.fst)) F (VL (eu (kc m))):=
  SlC.mono (rU (sub_le _ _) fun b hb=>by
   cases hx:h2 b with
   |none=>exact absurd hx (K2.has b hb)
   |some x=>exact lP hx) hF
 have K3:=(K2.mono l3).base
 have lg:=(K2.mono l3).leBase
 clear hF K2
 generalize h3.wo (([(b9, .inl ⟨[I 0,I 0, .slice none 0 0, .slice none 0 0, .slice none 0 0, .slice none 0 0, .slice none 0 0],7,false⟩),(b7, .inl ⟨aw M,5,false⟩)]:List (Nat×Blk)).map Prod.fst)=g3 at*
 have hs3:=hs.mono lg
 (with_reducible apply Kn.al);(assumption);(intro b38 h4 K4 l4 hb38)
 (((with_reducible apply Kn.wr);(assumption);((focus ((repeat first|exact .head|apply Upd.tail);done)))))
 ·exact Nat.le_refl _
 intro h5 K5 kp5
 simp only [cv,List.set_cons_zero,List.set_cons_succ,Nat.zero_add,Nat.reduceAdd]at K5
 clear kp5 K4 l4 hb38
 refine av (2^((aG m).n+(aG m).k)) (fun c vs h'=> ∃(A B C:Sl) (XA XB XC:List (Nat×Blk)),vs= [.pointer (some ⟨b7,0,none⟩), .pointer (some ⟨b9,0,none⟩), .pointer (some ⟨b38,0,none⟩),I c]/\
  Kn g3 h' ((b38, .inl ⟨[I (2^(aG m).n:Nat),I (2^(aG m).k:Nat),A.v,B.v,C.v,F.v,(⟨none,0,0⟩:Sl).v],7,false⟩)::(b9, .inl ⟨[I 0,I 0, .slice none 0 0, .slice none 0 0, .slice none 0 0, .slice none 0 0, .slice none 0 0],7,false⟩)::(b7, .inl ⟨aw M,5,false⟩)::(XA++(XB++(XC++ []))))/\cE XA A 1 ((List.range c).map fun i=> .bool ((aG m).hold i))/\cE XB B 1 ((List.range c).map fun i=> .bool ((aG m).ends i))/\
   cE XC C 1 ((List.range c).map fun i=>I ((aG m).next i:Nat))) ⟨⟨none,0,0⟩,⟨none,0,0⟩,⟨none,0,0⟩, [], [], [],rfl,K5,cD _,cD _,cD _⟩ ?_
 clear K5 h5
 rintro c _ h5 nxt hc ⟨A,B,C,XA,XB,XC,rfl,K,oA,oB,oC⟩ hnx
 refine⟨b7,0,b9,0,b38,0,_,rfl,?_⟩
 repeat' (refine kr_ ?_)
 have hxy:((2^(aG m).n:Nat):Int)*((2^(aG m).k:Nat):Int)=((2^((aG m).n+(aG m).k):Nat):Int):=by rw [hnk,<-Int.natCast_mul,Nat.mul_comm]
 rw [hxy,et (by omega)]
 have hAn:A.n=c:=by have:=oA.1;simp at this;omega
 have hBn:B.n=c:=by have:=oB.1;simp at this;omega
 have hCn:C.n=c:=by have:=oC.1;simp at this;omega
 by_cases hlt:c<2^((aG m).n+(aG m).k)
 ·refine aJ (by rw [decide_eq_true_eq];exact_mod_cast hlt) ?_
  repeat' (refine kr_ ?_)
  refine zj (hs3.mono K.le) hm g hlt fun t h6 l6 htn hpv hnew=>⟨t,rfl,?_⟩
  have n38: ∀o,t.a≠some (Addr.mk b38 o none):=fun o ho=>by have:=hnew _ _ ho;rw [K.at (.head _)]at this;cases this
  replace K:=K.mono l6
  have a:Bj m (cK m (c%2^ak m.nodes 36) (c/2^ak m.nodes 36)):=eA g _ _
  have hv1:(aG m).hold c=iP m (cK m (c%2^ak m.nodes 36) (c/2^ak m.nodes 36)):=rfl
  have hv2:(aG m).bad c=(qq m (cK m (c%2^ak m.nodes 36) (c/2^ak m.nodes 36))).isSome:=rfl
  have hv3:(aG m).next c=lR m (c%2^ak m.nodes 36) (c/2^ak m.nodes 36):=rfl
  repeat' (refine kr_ ?_)
  refine uF (hs3.mono K.le) g hpv a ⟨_,rfl,?_⟩
  repeat' (refine kr_ ?_)
  rw [<-hv1]
  refine aj fun b80 h7 hb80 l7 f80=>?_
  replace K:=K.mono l7
  replace hpv:=hpv.mono l7
  refine Kn.growIn (A:= [_,_,_]) K oA (by omega) (by omega) (by omega) ⟨b80,0,rfl,ay f80⟩ rfl rfl fun A' XA' h8 hn' oA' K8 l8=>?_
  replace hpv:=(hpv.offG oA fun e he=>K.mem e (by simp [he])).mono l8
  simp only [List.cons_append,List.nil_append]at K8
  (((with_reducible apply Kn.wr);(assumption);((focus ((repeat first|exact .head|apply Upd.tail);done)))))
  ·simp
  intro h9 K9 kp9
  have f8:=K8.at (.head _)
  have f9:=K9.at (.head _)
  simp only [bP,List.set_cons_zero,List.set_cons_succ,Nat.zero_add,Nat.reduceAdd]at K9
  rw [bP]at f9
  replace hpv:=hpv.keepB n38 kp9 fun o i hi=>by
   rw [aq f8]at hi
   rw [aq f9,List.getElem?_set]
   by_cases e:0+2=o
   ·subst e;simp at hi
   ·rw [if_neg e];exact hi
  clear f8 f9
  refine ap (fun J=> ∀(B':Sl) (XB':List (Nat×Blk)) (h':Hp),Kn g3 h' ((b38, .inl ⟨[I (2^(aG m).n:Nat),I (2^(aG m).k:Nat),A'.v,B'.v,C.v,F.v,(⟨none,0,0⟩:Sl).v],7,false⟩)::(b9, .inl ⟨[I 0,I 0, .slice none 0 0, .slice none 0 0, .slice none 0 0, .slice none 0 0, .slice none 0 0],7,false⟩)::(b7, .inl ⟨aw M,5,false⟩)::(XA'++(XB'++(XC++ []))))->cE XB' B' 1 ((List.range (c+1)).map fun i=> .bool ((aG m).ends i))->J h') (fun B' XB' h10 K10 oB'=>?_) (fun J hJ=>?_)
  ·clear K9 K8 K hpv
   have hcm:c%2^(aG m).n<=c:=Nat.mod_le _ _
   have hcd:c/2^(aG m).n<=c:=Nat.div_le_self _ _
   have hpos:=Nat.two_pow_pos (aG m).n
   repeat' (refine kr_ ?_)
   rw [if_neg (by omega)]
   repeat' (refine kr_ ?_)
   rw [if_neg (by omega),eV,show Int.tdiv (c:Int) ((2^(aG m).n:Nat):Int)=((c/2^(aG m).n:Nat):Int)from rfl,et (by omega)]
   refine Dh (hs3.mono K10.le) hm g (by omega) (by omega) ⟨_,rfl,?_⟩
   repeat' (refine kr_ ?_)
   refine aj fun b131 h11 hb131 l11 f131=>?_
   have K11:=K10.mono l11
   repeat' (refine kr_ ?_)
   refine Kn.growIn3 (A:= [_,_,_]) K11 oC (by omega) (by omega) (by omega) ⟨b131,0,rfl,ay f131⟩ rfl rfl fun C' XC' h12 hn2 oC' K12 _=>?_
   simp only [List.cons_append,List.nil_append]at K12
   (((with_reducible apply Kn.wr);(assumption);((focus ((repeat first|exact .head|apply Upd.tail);done)))))
   ·simp
   intro h13 K13 _
   simp only [bP,List.set_cons_zero,List.set_cons_succ,Nat.zero_add,Nat.reduceAdd]at K13
   rw [aA (by omega)]
   exact hnx hlt _ _ ⟨A',B',C',XA',XB',XC',rfl,K13,by rw [rM];exact oA',oB',by rw [rM];exact oC'⟩
  ·clear K8 K
   refine ac (fun e1=>?_) (fun e1=>?_)
   ·repeat' (refine kr_ ?_)
    refine Ab (hs3.mono K9.le) g hpv a ⟨_,rfl,?_⟩
    repeat' (refine kr_ ?_)
    rw [z8,<-hv2]
    refine aj fun b99 h11 hb99 l11 f99=>?_
    have K11:=K9.mono l11
    repeat' (refine kr_ ?_)
    refine Kn.growIn2 (A:= [_,_,_]) K11 oB (by omega) (by omega) (by omega) ⟨b99,0,rfl,ay f99⟩ rfl rfl fun B' XB' h12 hn2 oB' K12 _=>?_
    simp only [List.cons_append,List.nil_append]at K12
    (((with_reducible apply Kn.wr);(assumption);((focus ((repeat first|exact .head|apply Upd.tail);done)))))
    ·simp
    intro h13 K13 _
    simp only [bP,List.set_cons_zero,List.set_cons_succ,Nat.zero_add,Nat.reduceAdd]at K13
    exact hJ B' XB' h13 K13 (by rw [rM];unfold aC.ends;rw [e1];exact oB')
   ·repeat' (refine kr_ ?_)
    refine aj fun b99 h11 hb99 l11 f99=>?_
    have K11:=K9.mono l11
    repeat' (refine kr_ ?_)
    refine Kn.growIn2 (A:= [_,_,_]) K11 oB (by omega) (by omega) (by omega) ⟨b99,0,rfl,ay f99⟩ rfl rfl fun B' XB' h12 hn2 oB' K12 _=>?_
    simp only [List.cons_append,List.nil_append]at K12
    (((with_reducible apply Kn.wr);(assumption);((focus ((repeat first|exact .head|apply Upd.tail);done)))))
    ·simp
    intro h13 K13 _
    simp only [bP,List.set_cons_zero,List.set_cons_succ,Nat.zero_add,Nat.reduceAdd]at K13
    exact hJ B' XB' h13 K13 (by rw [rM];unfold aC.ends;rw [e1];exact oB')
 ·refine aD (by rw [decide_eq_false_iff_not];omega) ?_
  clear hnx
  have hce:c=2^((aG m).n+(aG m).k):=by omega
  refine av (2^(aG m).n) (fun d vs h'=> ∃(D:Sl) (XD:List (Nat×Blk)),vs= [.pointer (some ⟨b7,0,none⟩), .pointer (some ⟨b9,0,none⟩), .pointer (some ⟨b38,0,none⟩),I d]/\
   Kn g3 h' ((b38, .inl ⟨[I (2^(aG m).n:Nat),I (2^(aG m).k:Nat),A.v,B.v,C.v,F.v,D.v],7,false⟩)::(b9, .inl ⟨[I 0,I 0, .slice none 0 0, .slice none 0 0, .slice none 0 0, .slice none 0 0, .slice none 0 0],7,false⟩)::(b7, .inl ⟨aw M,5,false⟩)::(XD++(XA++(XB++(XC++ [])))))/\cE XD D 1 ((List.range d).map fun i=> .bool ((aG m).begins i))) ⟨⟨none,0,0⟩, [],rfl,K,cD _⟩ ?_
  clear K h5 hlt hc
  rintro d _ h5 nxt2 hd ⟨D,XD,rfl,K,oD⟩ hnx2
  have hDn:D.n=d:=by have:=oD.1;simp at this;omega
  refine⟨b7,0,b9,0,b38,0,_,rfl,?_⟩
  repeat' (refine kr_ ?_)
  by_cases hld:d<2^(aG m).n
  ·refine aJ (by rw [decide_eq_true_eq];exact_mod_cast hld) ?_
   repeat' (refine kr_ ?_)
   refine cP (hs3.mono K.le) hm fun p h6 l6 ip=>⟨p,rfl,?_⟩
   have K6:=K.mono l6
   repeat' (refine kr_ ?_)
   refine fK (hs3.mono K6.le) hm g.ok ip (cH g 36) (iw g 36) (by omega) (by have:=fy g;show cw m.nodes (stP m)<=60;omega) fun u h7 l7 iu=>⟨u,rfl,?_⟩
   have K7:=K6.mono l7
   repeat' (refine kr_ ?_)
   refine jB (hs3.mono K7.le) hm hc0 iu (by rw [sq];exact MH _ _ _) ⟨_,rfl,?_⟩
   have hb:hG (stP m) (eW m) (gh m.nodes (aU m.nodes 36) d) (stP m).length=(aG m).begins d:=by
    rw [Bool.eq_iff_iff,kH,uG g]
   rw [hb]
   repeat' (refine kr_ ?_)
   refine aj fun b184 h8 hb184 l8 f184=>?_
   have K8:=K7.mono l8
   repeat' (refine kr_ ?_)
   refine Kn.growIn (A:= [_,_,_]) K8 oD (by omega) (by omega) (by omega) ⟨b184,0,rfl,ay f184⟩ rfl rfl fun D' XD' h9 hn2 oD' K9 _=>?_
   simp only [List.cons_append,List.nil_append]at K9
   (((with_reducible apply Kn.wr);(assumption);((focus ((repeat first|exact .head|apply Upd.tail);done)))))
   ·simp
   intro h10 K10 _
   simp only [bP,List.set_cons_zero,List.set_cons_succ,Nat.zero_add,Nat.reduceAdd]at K10
   rw [aA (by omega)]
   exact hnx2 hld _ _ ⟨D',XD',rfl,K10,by rw [rM];exact oD'⟩
  ·have hde:d=2^(aG m).n:=by omega
   refine aD (by rw [decide_eq_false_iff_not];omega) ?_
   clear hnx2
   repeat' (refine kr_ ?_)
   (((with_reducible apply Kn.wr);(assumption);((focus ((repeat first|exact .head|apply Upd.tail);done)))))
   ·simp
   intro h6 K6 _
   simp only [cv,List.set_cons_zero,List.set_cons_succ,Nat.zero_add,Nat.reduceAdd]at K6
   repeat' (refine kr_ ?_)
   subst hce hde
   refine k ⟨A,B,C,F,D⟩ h6 (Hp.le_trans lg K6.le) ⟨?_,?_,?_,⟨kc m,Oa g,hF'.mono K6.le⟩,?_⟩
   ·have:=(oA.buf fun e he=>K6.mem e (by simp [he])).slc_of (by omega)
    unfold cY qK;rw [List.map_map];exact this
   ·have:=(oB.buf fun e he=>K6.mem e (by simp [he])).slc_of (by omega)
    unfold cY qK;rw [List.map_map];exact this
   ·have:=(oC.buf fun e he=>K6.mem e (by simp [he])).slc_of (by omega)
    unfold BG IntS VL;rw [List.map_map,List.map_map];exact this
   ·have:=(oD.buf fun e he=>K6.mem e (by simp [he])).slc_of (by omega)
    unfold cY qK;rw [List.map_map];exact this
theorem Ko {h:Hp} {s:Sl} {N:Nat} {T:Nat->Bool} {R:Value->Hp->Prop} (hT:cY h s N T) (hN:N<=1048576) (k:R (.bool (nJ N T)) h):rl #[s.v] h R:=by
 apply F7
 refine uf_ ?_
 have hl:=hT.len
 refine av N (fun i vs h'=>vs= [s.v,I i]/\h=h'/\ ∀j,j<i->T j=false) ⟨rfl,rfl,fun j hj=>by omega⟩ ?_
 rintro i _ _ next hi ⟨rfl,rfl,hj⟩ hnx
 refine⟨s,_,rfl,?_⟩
 by_cases hlt:i<N
 ·refine aJ (by rw [decide_eq_true_eq];omega) ?_
  obtain⟨b,o,ha,h1,h2⟩:=hT.get hlt
  refine⟨b,o,ha,by omega,h1,_,h2,?_⟩
  refine ac (fun e=>?_) (fun e=>?_)
  ·rw [cy.2 ⟨i,hlt,e⟩]at k;exact k
  ·rw [aA (by omega)]
   refine hnx hlt _ _ ⟨rfl,rfl,fun j hji=>?_⟩
   by_cases eq:j=i
   ·rw [eq];exact e
   ·exact hj j (by omega)
 ·refine aD (by rw [decide_eq_false_iff_not];omega) ?_
  rw [pC.2 fun j hjn=>hj j (by omega)]at k;exact k
theorem Jj {σ:aC} (S:Nat->Bool):nJ (2^(σ.n+σ.k)) (fun c=>S (c%2^σ.n)&&σ.ends c)=σ.met S:=by
 rw [Bool.eq_iff_iff,cy]
 unfold aC.met
 rw [cy]
 constructor
 ·rintro ⟨c,hc,e⟩
  rw [Bool.and_eq_true]at e
  obtain⟨h1,h2,h3⟩:=aC.at_of hc
  refine⟨c%2^σ.n,h1,?_⟩
  rw [e.1,Bool.true_and,aC.endsAt_iff]
  have:=e.2
  unfold aC.ends at this
  rw [Bool.and_eq_true]at this
  exact⟨c/2^σ.n,h2,by rw [h3];exact this⟩
 ·rintro ⟨s,hs,e⟩
  rw [Bool.and_eq_true,aC.endsAt_iff]at e
  obtain⟨e1,x,hx,e2,e3⟩:=e
  refine⟨σ.at_ s x,aC.at_lt hs hx,?_⟩
  unfold aC.ends
  rw [aC.at_mod hs,e1,e2,e3];rfl
theorem wA {h:Hp} {q:Bb} {σ:aC} {s:Sl} {S:Nat->Bool} {R:Value->Hp->Prop} (hq:z7 h q σ) (ok:σ.Ok) (hS:cY h s (2^σ.n) S) (k:R (.bool (σ.met S)) h):
  lQ #[DJ σ q,s.v] h R:=by
 refine ACalls.drop (H2 ?_)
 refine uf_ ?_
 have hn:=eO ok
 have hp:=pK ok
 have hpos:=Nat.two_pow_pos σ.n
 refine aj fun b10 h1 hb10 l1 f10=>?_
 have he:=hq.2.1.mono l1
 have hS1:=hS.mono l1
 have hel:=he.len
 refine av (2^(σ.n+σ.k)) (fun i vs h'=>vs= [s.v, .pointer (some ⟨b10,0,none⟩),I i]/\h1=h'/\ ∀j,j<i->(S (j%2^σ.n)&&σ.ends j)=false) ⟨rfl,rfl,fun j hj=>by omega⟩ ?_
 rintro i _ _ next hi ⟨rfl,rfl,hj⟩ hnx
 refine⟨s,b10,0,_,rfl,?_⟩
 (refine az ?_)
 by_cases hlt:i<2^(σ.n+σ.k)
 ·refine aJ (by rw [decide_eq_true_eq];omega) ?_
  have go:(S (i%2^σ.n)&&σ.ends i)=false->next [s.v, .pointer (some ⟨b10,0,none⟩),I (W ((i:Int)+1))] h1:=fun e=>by
   rw [aA (by omega)]
   refine hnx hlt _ _ ⟨rfl,rfl,fun j hji=>?_⟩
   by_cases eq:j=i
   ·rw [eq];exact e
   ·exact hj j (by omega)
  (refine az ?_)
  rw [if_neg (by omega),eV]
  obtain⟨b,o,ha,h2,h3⟩:=hS1.get (i:=i%2^σ.n) (Nat.mod_lt _ hpos)
  refine⟨b,o,ha,by omega,h2,_,h3,?_⟩
  refine ac (fun e=>?_) (fun e=>?_)
  ·(refine az ?_)
   obtain⟨b,o,ha,h2,h3⟩:=he.get hlt
   refine⟨b,o,ha,by omega,h2,_,h3,?_⟩
   refine ac (fun e2=>?_) (fun e2=>?_)
   ·refine⟨h,l1,?_⟩
    rw [<-Jj,cy.2 ⟨i,hlt,by rw [e,e2];rfl⟩]at k;exact k
   ·exact go (by rw [e2,Bool.and_false])
  ·exact go (by rw [e];rfl)
 ·refine aD (by rw [decide_eq_false_iff_not];omega) ⟨h,l1,?_⟩
  rw [<-Jj,pC.2 fun j hjn=>hj j (by omega)]at k;exact k
theorem B9 {k f:Nat}:f∈eu k↔f&&&k=f:=by
 unfold eu
 rw [List.mem_filter,List.mem_range,decide_eq_true_eq]
 refine⟨fun h=>h.2,fun h=>⟨?_,h⟩⟩
 have:f&&&k<=k:=Nat.and_le_right
 omega
theorem mM {σ:aC} {fm c t:Nat} (ok:σ.Ok) (hfm:fm+σ.fixed=2^σ.n-1) (hc:c<2^(σ.n+σ.k)) (ht:t<2^σ.n):σ.goes c t=true↔ ∃f,f∈eu fm/\σ.next c+f=t:=by
 unfold aC.goes
 rw [decide_eq_true_eq,UT (y:=fm) (by omega) ok.fixed ht (ok.next c hc) (ok.held c hc)]
 constructor
 ·rintro ⟨f,h1,h2⟩;exact⟨f,B9.2 h1,h2⟩
 ·rintro ⟨f,h1,h2⟩;exact⟨f,B9.1 h1,h2⟩
theorem A2 {σ:aC} {fm c f:Nat} (ok:σ.Ok) (hfm:fm+σ.fixed=2^σ.n-1) (hc:c<2^(σ.n+σ.k)) (hf:f∈eu fm):σ.next c+f<2^σ.n:=by
 have h1:=B9.1 hf
 have h2:f&&&fm<=fm:=Nat.and_le_right
 have h3:=ok.held c hc
 have h4:σ.next c&&&σ.fixed<=σ.fixed:=Nat.and_le_right
 have:=Nat.two_pow_pos σ.n
 omega
theorem Fr {h:Hp} {q:Bb} {σ:aC} {s:Sl} {S:Nat->Bool} {R:Value->Hp->Prop} (hq:z7 h q σ) (ok:σ.Ok) (hS:cY h s (2^σ.n) S)
  (k: ∀b' T h',Kn h h' [(b', .inl ⟨tb (2^σ.n) T,2^σ.n,false⟩)]->(∀j,j<2^σ.n->T j=σ.fwd σ.hold S j)->R (arr b' (2^σ.n)).v h'):pg #[DJ σ q,s.v] h R:=by
 apply Cu
 refine uf_ ?_
 have hn:=eO ok
 have hp:=pK ok
 have hpos:=Nat.two_pow_pos σ.n
 obtain⟨hh,_,hx,⟨fm,hfm,hfl⟩,_⟩:=id hq
 have hhl:=hh.len
 have hxl:=IntS.len hx
 rw [bz,List.length_map,List.length_range]at hxl
 have hfll:=IntS.len hfl
 rw [bz]at hfll
 have hfb:(eu fm).length<=2^σ.n:=by
  have h1:(eu fm).length<=fm+1:=by unfold eu;have:=List.length_filter_le (fun c=>decide (c&&&fm=c)) (List.range (fm+1));simpa using this
  omega
 have K0:=Kn.nil h
 (with_reducible apply Kn.al);(assumption);(intro b10 h1 K1 l1 hb10)
 (refine kr_ ?_)
 refine⟨Int.natCast_nonneg _,Int.le_refl _,by omega,by omega,?_⟩
 (with_reducible apply Kn.al);(assumption);(intro b14 h2 K2 l2 hb14)
 rw [Int.toNat_natCast,Nat.mul_one,cj,kb]at K2
 rw [Int.toNat_natCast]
 refine av (2^(σ.n+σ.k)) (fun c vs h'=>vs= [s.v, .pointer (some ⟨b10,0,none⟩),(arr b14 (2^σ.n)).v,I c]/\
  ∃T,Kn h h' [(b14, .inl ⟨tb (2^σ.n) T,2^σ.n,false⟩),(b10, .inl ⟨AM σ q,7,false⟩)]/\ ∀x,T x=true↔ ∃c',c'<c/\S (c'%2^σ.n)=true/\σ.hold c'=true/\ ∃f,f∈eu fm/\σ.next c'+f=x)
  ⟨rfl,_,K2,fun x=>⟨fun e=>by simp at e,fun⟨c',e,_⟩=>by omega⟩⟩ ?_
 clear K2 K1 K0 l1 l2 hb10 hb14 h1 h2
 rintro c _ h1 nxt hc ⟨rfl,T,K1,hT⟩ hnx
 refine⟨s,b10,0,arr b14 _,_,rfl,?_⟩
 (refine kr_ ?_)
 by_cases hlt:c<2^(σ.n+σ.k)
 rotate_left
 ·refine aD (by rw [decide_eq_false_iff_not];omega) ?_
  refine k b14 T h1 (K1.sub (fun e he=>by rw [List.mem_singleton]at he;subst he;exact .head _) (by simp)) fun j hj=>?_
  rw [Bool.eq_iff_iff,hT,aC.fwd_iff]
  constructor
  ·rintro ⟨c',q1,q2,q3,q4⟩
   have hc':c'<2^(σ.n+σ.k):=by omega
   obtain⟨a1,a2,a3⟩:=aC.at_of hc'
   exact⟨c'%2^σ.n,c'/2^σ.n,a1,a2,q2,by rw [a3];exact q3,by rw [a3];exact(mM ok hfm hc' hj).2 q4⟩
  ·rintro ⟨s',i',q1,q2,q3,q4,q5⟩
   have hc':=aC.at_lt q1 q2
   exact⟨σ.at_ s' i',by omega,by rw [aC.at_mod q1];exact q3,q4,(mM ok hfm hc' hj).1 q5⟩
 refine aJ (by rw [decide_eq_true_eq];omega) ?_
 have skip:(S (c%2^σ.n)&&σ.hold c)=false->nxt [s.v, .pointer (some ⟨b10,0,none⟩),(arr b14 (2^σ.n)).v,I (W ((c:Int)+1))] h1:=fun e=>by
  rw [aA (by omega)]
  refine hnx hlt _ _ ⟨rfl,T,K1,fun x=>?_⟩
  rw [hT]
  constructor
  ·rintro ⟨c',q1,q⟩;exact⟨c',by omega,q⟩
  ·rintro ⟨c',q1,q2,q3,q4⟩
   by_cases e2:c'=c
   ·rw [e2]at q2 q3;rw [q2,q3]at e;cases e
   ·exact⟨c',by omega,q2,q3,q4⟩
 rw [dW]
 (refine kr_ ?_)
 rw [if_neg (by omega),eV]
 obtain⟨b,o,ha,e1,e2⟩:=(hS.mono K1.le).get (i:=c%2^σ.n) (Nat.mod_lt _ hpos)
 refine⟨b,o,ha,by omega,e1,_,e2,?_⟩
 refine ac (fun e=>?_) (fun e=>?_)
 ·exact aJ rfl (skip (by have:S (c%2^σ.n)=false:=by simpa using e
                         rw [this];rfl))
 have eS:S (c%2^σ.n)=true:=by simpa using e
 (refine kr_ ?_)
 obtain⟨b,o,ha,e1,e2⟩:=(hh.mono K1.le).get hlt
 refine⟨b,o,ha,by omega,e1,_,e2,?_⟩
 refine ac (fun e=>?_) (fun e=>?_)
 ·exact skip (by have:σ.hold c=false:=by simpa using e
                 rw [this,Bool.and_false])
 have eH:σ.hold c=true:=by simpa using e
 refine av (eu fm).length (fun j vs h'=>vs= [s.v, .pointer (some ⟨b10,0,none⟩),(arr b14 (2^σ.n)).v,I c,I j]/\
  ∃U,Kn h h' [(b14, .inl ⟨tb (2^σ.n) U,2^σ.n,false⟩),(b10, .inl ⟨AM σ q,7,false⟩)]/\ ∀x,U x=true↔T x=true\/ ∃f,f∈(eu fm).take j/\σ.next c+f=x)
  ⟨rfl,T,K1,fun x=>⟨fun q=> .inl q,fun q=>q.resolve_right fun⟨f,q1,_⟩=>by simp at q1⟩⟩ ?_
 clear skip K1
 rintro j _ h1 nxt2 hj ⟨rfl,U,K1,hU⟩ hnx2
 refine⟨s,b10,0,arr b14 _,_,_,rfl,?_⟩
 (refine kr_ ?_)
 by_cases hlj:j<(eu fm).length
 rotate_left
 ·refine aD (by rw [decide_eq_false_iff_not];omega) ?_
  rw [aA (by omega)]
  refine hnx hlt _ _ ⟨rfl,U,K1,fun x=>?_⟩
  rw [hU,hT,List.take_of_length_le (by omega)]
  constructor
  ·rintro (⟨c',q1,q⟩|q)
   ·exact⟨c',by omega,q⟩
   ·exact⟨c,by omega,eS,eH,q⟩
  ·rintro ⟨c',q1,q2,q3,q4⟩
   by_cases e2:c'=c
   ·rw [e2]at q4;exact .inr q4
   ·exact .inl ⟨c',by omega,q2,q3,q4⟩
 refine aJ (by rw [decide_eq_true_eq];omega) ?_
 (refine kr_ ?_)
 obtain⟨b,o,ha,e1,e2⟩:=BG.get (hx.mono K1.le) hlt
 refine⟨b,o,ha,by omega,e1,_,e2,?_⟩
 (refine kr_ ?_)
 obtain⟨f,hf⟩: ∃f,(eu fm)[j]?=some f:=⟨_,List.getElem?_eq_getElem hlj⟩
 obtain⟨b,o,ha,e3⟩:=(hfl.mono K1.le).get (gp hf)
 refine⟨b,o,ha,by omega,by omega,_,e3,?_⟩
 have hlf:=A2 ok hfm hlt (List.mem_of_getElem? hf)
 rw [<-Int.natCast_add,et (by omega)]
 refine⟨b14,0,rfl,by omega,by dsimp only;omega,?_⟩
 (((with_reducible apply Kn.wr);(assumption);((focus ((repeat first|exact .head|apply Upd.tail);done)))))
 ·rw [gw];omega
 intro h2 K2 _
 rw [bP,Nat.zero_add,Int.toNat_natCast,Nat.mul_one,ln]at K2
 rw [aA (by omega)]
 refine hnx2 hlj _ _ ⟨rfl,_,K2,fun x=>?_⟩
 rw [List.take_add_one,hf]
 by_cases ex:x=σ.next c+f
 ·rw [if_pos ex]
  exact⟨fun _=> .inr ⟨f,by simp,ex.symm⟩,fun _=>rfl⟩
 ·rw [if_neg ex,hU]
  constructor
  ·rintro (q|⟨f',q1,q2⟩)
   ·exact .inl q
   ·exact .inr ⟨f',List.mem_append_left _ q1,q2⟩
  ·rintro (q|⟨f',q1,q2⟩)
   ·exact .inl q
   ·rcases List.mem_append.1 q1 with q1|q1
    ·exact .inr ⟨f',q1,q2⟩
    ·simp at q1;subst q1;exact absurd q2.symm ex
theorem mY {h:Hp} {q:Bb} {σ:aC} {R:Value->Hp->Prop} (hq:z7 h q σ) (ok:σ.Ok)
  (k: ∀s h',h.le h'->AO h' s (2^σ.n) σ.nLay σ.front->R (Sl.v s) h'):gC #[DJ σ q] h R:=by
 apply CD
 refine uf_ ?_
 have hn:=eO ok
 have h8:=ok.nle
 have K0:=Kn.nil h
 (with_reducible apply Kn.al);(assumption);(intro b9 h1 K1 l1 hb9)
 (refine kr_ ?_)
 refine⟨Int.natCast_nonneg _,Int.le_refl _,by omega,by omega,?_⟩
 (with_reducible apply Kn.al);(assumption);(intro b14 h2 K2 l2 hb14)
 rw [Int.toNat_natCast,Nat.mul_one,cj,kb]at K2
 rw [Int.toNat_natCast]
 (refine kr_ ?_)
 refine av (2^σ.n) (fun i vs h'=> ∃(out fr:Sl) (g:Hp) (V:Nat->Bool) (ts:List Sl),vs= [.pointer (some ⟨b9,0,none⟩),out.v,(arr b14 (2^σ.n)).v,fr.v]/\
  h.le g/\Kn g (h'.offS out) [(b14, .inl ⟨tb (2^σ.n) V,2^σ.n,false⟩),(b9, .inl ⟨AM σ q,7,false⟩)]/\cY g fr (2^σ.n) (σ.front i)/\Buf h' out 1 (ts.map Sl.v)/\ts.length=i/\
  (∀(j:Nat) (t:Sl),ts[j]?=some t->cY g t (2^σ.n) (σ.front j))/\(∀j,j<2^σ.n->V j=σ.seen i j)/\ ∀j,j<i->σ.live j=true)
  ⟨⟨none,0,0⟩,q.bs,h,_, [],rfl,Hp.le_refl _,K2,hq.2.2.2.2,eF _ _,rfl,fun j t ht=>by simp at ht,fun _ _=>rfl,fun j hj=>by omega⟩ ?_
 clear K2 K1 K0 l1 l2 hb9 hb14 h1 h2
 rintro i _ h1 nxt hi ⟨out,fr,g,V,ts,rfl,lg,K1,hF,hB,htl,ht,hV,hlive⟩ hnx
 refine⟨b9,0,out,arr b14 _,fr,rfl,?_⟩
 have K1':=K1.mono (bk h1 out)
 have hbF:=hF.mono K1'.le
 have hon:=hB.1
 rw [List.length_map,Nat.mul_one]at hon
 refine Ko hbF (by omega) ⟨_,rfl,?_⟩
 refine ac (fun e=>?_) (fun e=>?_)
 rotate_left
 ·have hnl:σ.nLay=i:=aC.nLay_of hlive e
  exact k out h1 (Hp.le_trans lg K1'.le) ⟨ts,by omega,hB.slc_of (by omega),fun j t hj=>(ht j t hj).mono K1'.le⟩
 have hlive': ∀j,j<i+1->σ.live j=true:=fun j hj=>by
  by_cases e2:j=i
  ·rw [e2];exact e
  ·exact hlive j (by omega)
 have hlt:i<2^σ.n:=aC.live_le hlive'
 refine aj fun b34 h2 hb34 l2 f34=>?_
 refine dp (hB.mono l2) (by omega) (by omega) (by omega) ⟨b34,0,rfl,ay f34⟩ (by simp) rfl ?_
 intro s' h3 hs'n hB' l3 _
 have K2:=K1.mono (Hp.le_trans (bM out l2) l3)
 have K2':=K2.mono (bk h3 s')
 repeat' (refine kr_ ?_)
 refine Fr (hq.mono (Hp.le_trans lg K2'.le)) ok (hF.mono K2'.le) fun bB T h4 K5 hT=>⟨_,rfl,?_⟩
 have hbB:h3 bB=none:=K5.new _ (.head _)
 have K6:=K2.cons (b:=bB) (aF (bk h3 s') hbB) (bM s' K5.le) (hB'.offS_new hbB (K5.at (.head _)))
 have hB4:=hB'.mono K5.le
 have K6':=K6.mono (bk h4 s')
 (refine kr_ ?_)
 refine⟨Int.natCast_nonneg _,Int.le_refl _,by omega,by omega,?_⟩
 refine aj fun b53 h5 hb53 l5 f53=>?_
 rw [Int.toNat_natCast,Nat.mul_one,cj,kb]at f53
 rw [Int.toNat_natCast]
 have K7:=K6.cons (b:=b53) (aF (bk h4 s') hb53) (bM s' l5) (hB4.offS_new hb53 f53)
 have hB5:=hB4.mono l5
 refine av (2^σ.n) (fun x vs h'=>vs= [.pointer (some ⟨b9,0,none⟩),s'.v,(arr b14 (2^σ.n)).v,fr.v,(arr bB (2^σ.n)).v,(arr b53 (2^σ.n)).v,I x]/\
  ∃V,Kn g (h'.offS s') [(b53, .inl ⟨tb (2^σ.n) fun _=>false,2^σ.n,false⟩),(bB, .inl ⟨tb (2^σ.n) T,2^σ.n,false⟩),(b14, .inl ⟨tb (2^σ.n) V,2^σ.n,false⟩),(b9, .inl ⟨AM σ q,7,false⟩)]/\
   Buf h' s' 1 (ts.map Sl.v++ [fr.v])/\ ∀j,j<2^σ.n->V j=if j<x then σ.seen (i+1) j else σ.seen i j)
  ⟨rfl,V,K7,hB5,fun j hj=>by rw [if_neg (by omega)];exact hV j hj⟩ ?_
 clear K7 hB5 hB4 K6 K6' K5 hV hbF K1'
 rintro x _ h6 nxt1 hx ⟨rfl,V,K,B,hV⟩ hnx1
 refine⟨b9,0,s',arr b14 _,fr,arr bB _,arr b53 _,_,rfl,?_⟩
 have K':=K.mono (bk h6 s')
 (refine kr_ ?_)
 by_cases hlx:x<2^σ.n
 ·refine aJ (by rw [decide_eq_true_eq];exact_mod_cast hlx) ?_
  have hVx:V x=σ.seen i x:=by rw [hV x hlx,if_neg (by omega)]
  have fin: ∀v h7,v=σ.seen (i+1) x->Kn g (h7.offS s') [(b53, .inl ⟨tb (2^σ.n) fun _=>false,2^σ.n,false⟩),(bB, .inl ⟨tb (2^σ.n) T,2^σ.n,false⟩),(b14, .inl ⟨(tb (2^σ.n) V).set x (.bool v),2^σ.n,false⟩),(b9, .inl ⟨AM σ q,7,false⟩)]->
    Buf h7 s' 1 (ts.map Sl.v++ [fr.v])->nxt1 [.pointer (some ⟨b9,0,none⟩),s'.v,(arr b14 (2^σ.n)).v,fr.v,(arr bB (2^σ.n)).v,(arr b53 (2^σ.n)).v,I (W ((x:Int)+1))] h7:=by
   intro v h7 hv K7 B7
   rw [aA (by omega)]
   rw [ln]at K7
   refine hnx1 hlx _ _ ⟨rfl,_,K7,B7,fun j hj=>?_⟩
   by_cases e2:j=x
   ·rw [if_pos e2,if_pos (by omega),e2];exact hv
   ·rw [if_neg e2,hV j hj]
    by_cases e3:j<x
    ·rw [if_pos e3,if_pos (by omega)]
    ·rw [if_neg e3,if_neg (by omega)]
  refine⟨b14,0,rfl,by omega,by dsimp only;omega,?_⟩
  refine Kn.rd K' (.tail _ (.tail _ (.head _))) (x:=V x) (by rw [Nat.zero_add,Nat.mul_one,Int.toNat_natCast];exact pc hlx) ?_
  refine ac (fun e2=>?_) (fun e2=>?_)
  ·refine⟨b14,0,rfl,by omega,by dsimp only;omega,?_⟩
   (with_reducible apply Kn.wrS);(exact K);((focus ((repeat first|exact .head|apply Upd.tail);done)))
   ·rw [gw];omega
   intro h7 K7 B7 _
   rw [bP,Nat.zero_add,Int.toNat_natCast,Nat.mul_one]at K7
   exact fin _ h7 (by rw [aC.seen_succ,<-hVx,e2];rfl) K7 (B7 _ _ B)
  ·obtain⟨b,o,ha,e3,e4⟩:=(hF.mono K'.le).get hlx
   refine⟨b,o,ha,by omega,e3,_,e4,?_⟩
   refine⟨b14,0,rfl,by omega,by dsimp only;omega,?_⟩
   (with_reducible apply Kn.wrS);(exact K);((focus ((repeat first|exact .head|apply Upd.tail);done)))
   ·rw [gw];omega
   intro h7 K7 B7 _
   rw [bP,Nat.zero_add,Int.toNat_natCast,Nat.mul_one]at K7
   exact fin _ h7 (by rw [aC.seen_succ,<-hVx,e2];rfl) K7 (B7 _ _ B)
 refine aD (by rw [decide_eq_false_iff_not];omega) ?_
 replace hV: ∀j,j<2^σ.n->V j=σ.seen (i+1) j:=fun j hj=>by rw [hV j hj,if_pos (by omega)]
 refine av (2^σ.n) (fun x vs h'=>vs= [.pointer (some ⟨b9,0,none⟩),s'.v,(arr b14 (2^σ.n)).v,(arr bB (2^σ.n)).v,(arr b53 (2^σ.n)).v,I x]/\
  ∃F,Kn g (h'.offS s') [(b53, .inl ⟨tb (2^σ.n) F,2^σ.n,false⟩),(bB, .inl ⟨tb (2^σ.n) T,2^σ.n,false⟩),(b14, .inl ⟨tb (2^σ.n) V,2^σ.n,false⟩),(b9, .inl ⟨AM σ q,7,false⟩)]/\
   Buf h' s' 1 (ts.map Sl.v++ [fr.v])/\ ∀j,j<x->F j=σ.front (i+1) j) ⟨rfl,_,K,B,fun j hj=>by omega⟩ ?_
 clear K B K' h6 hnx1 hx hlx
 rintro x _ h6 nxt1 hx ⟨rfl,F,K,B,hFx⟩ hnx1
 refine⟨b9,0,s',arr b14 _,arr bB _,arr b53 _,_,rfl,?_⟩
 have K':=K.mono (bk h6 s')
 (refine kr_ ?_)
 by_cases hlx:x<2^σ.n
 ·refine aJ (by rw [decide_eq_true_eq];exact_mod_cast hlx) ?_
  have fin: ∀v h7,v=σ.front (i+1) x->Kn g (h7.offS s') [(b53, .inl ⟨(tb (2^σ.n) F).set x (.bool v),2^σ.n,false⟩),(bB, .inl ⟨tb (2^σ.n) T,2^σ.n,false⟩),(b14, .inl ⟨tb (2^σ.n) V,2^σ.n,false⟩),(b9, .inl ⟨AM σ q,7,false⟩)]->
    Buf h7 s' 1 (ts.map Sl.v++ [fr.v])->nxt1 [.pointer (some ⟨b9,0,none⟩),s'.v,(arr b14 (2^σ.n)).v,(arr bB (2^σ.n)).v,(arr b53 (2^σ.n)).v,I (W ((x:Int)+1))] h7:=by
   intro v h7 hv K7 B7
   rw [aA (by omega)]
   rw [ln]at K7
   refine hnx1 hlx _ _ ⟨rfl,_,K7,B7,fun j hj=>?_⟩
   by_cases e2:j=x
   ·rw [if_pos e2,e2];exact hv
   ·rw [if_neg e2];exact hFx j (by omega)
  refine⟨bB,0,rfl,by omega,by dsimp only;omega,?_⟩
  refine Kn.rd K' (.tail _ (.head _)) (x:=T x) (by rw [Nat.zero_add,Nat.mul_one,Int.toNat_natCast];exact pc hlx) ?_
  refine ac (fun e2=>?_) (fun e2=>?_)
  ·refine⟨b14,0,rfl,by omega,by dsimp only;omega,?_⟩
   refine Kn.rd K' (.tail _ (.tail _ (.head _))) (x:=V x) (by rw [Nat.zero_add,Nat.mul_one,Int.toNat_natCast];exact pc hlx) ?_
   refine⟨b53,0,rfl,by omega,by dsimp only;omega,?_⟩
   (with_reducible apply Kn.wrS);(exact K);((focus ((repeat first|exact .head|apply Upd.tail);done)))
   ·rw [gw];omega
   intro h7 K7 B7 _
   rw [bP,Nat.zero_add,Int.toNat_natCast,Nat.mul_one]at K7
   exact fin _ h7 (by rw [aC.front_succ,<-hT x hlx,e2,hV x hlx];rfl) K7 (B7 _ _ B)
  ·refine⟨b53,0,rfl,by omega,by dsimp only;omega,?_⟩
   (with_reducible apply Kn.wrS);(exact K);((focus ((repeat first|exact .head|apply Upd.tail);done)))
   ·rw [gw];omega
   intro h7 K7 B7 _
   rw [bP,Nat.zero_add,Int.toNat_natCast,Nat.mul_one]at K7
   exact fin _ h7 (by rw [aC.front_succ,<-hT x hlx,e2];rfl) K7 (B7 _ _ B)
 refine aD (by rw [decide_eq_false_iff_not];omega) ?_
 obtain⟨K3,K4⟩:=Kn.split (A:= [(b53, .inl ⟨tb (2^σ.n) F,2^σ.n,false⟩),(bB, .inl ⟨tb (2^σ.n) T,2^σ.n,false⟩)]) (B:= [(b14, .inl ⟨tb (2^σ.n) V,2^σ.n,false⟩),(b9, .inl ⟨AM σ q,7,false⟩)]) K
 have fF:=K4.at (.head _)
 refine hnx hlt _ _ ⟨s',arr b53 (2^σ.n),_,V,ts++ [fr],rfl,Hp.le_trans lg K4.le,K3,jV (by omega) fF fun j hj=>hFx j (by omega),by rw [List.map_append];exact B,by simp [htl],fun j t hj=>?_,hV,hlive'⟩
 by_cases hji:j<i
 ·rw [List.getElem?_append_left (by omega)]at hj
  exact(ht j t hj).mono K4.le
 ·have hj2:=get_lt hj
  simp at hj2
  rw [List.getElem?_append_right (by omega),show j-ts.length=0 by omega]at hj
  simp at hj;subst hj
  rw [show j=i by omega];exact hF.mono K4.le
theorem tM {h:Hp} {q:Bb} {σ:aC} {R:Value->Hp->Prop} (hq:z7 h q σ) (ok:σ.Ok) (k:R (I σ.depthI) h):jR #[DJ σ q] h R:=by
 refine ACalls.drop (DV ?_)
 refine uf_ ?_
 have hn:=eO ok
 have hnl:=aC.nLay_le σ
 refine aj fun b9 h1 hb9 l1 f9=>?_
 repeat' (refine az ?_)
 refine mY (hq.mono l1) ok fun t h2 l2 hL=>⟨_,rfl,?_⟩
 have l02:=Hp.le_trans l1 l2
 replace f9:=l2 _ _ f9
 have hl:=hL.len
 refine av σ.nLay (fun i vs h'=>vs= [.pointer (some ⟨b9,0,none⟩),t.v,I i]/\h2=h'/\ ∀j,j<i->σ.hits j=false) ⟨rfl,rfl,fun j hj=>by omega⟩ ?_
 rintro i _ _ nxt hi ⟨rfl,rfl,hno⟩ hnx
 refine⟨b9,0,t,_,rfl,?_⟩
 by_cases hlt:i<σ.nLay
 rotate_left
 ·refine aD (by rw [decide_eq_false_iff_not];omega) ⟨h,l02,?_⟩
  have:σ.depth=none:=aC.find_none.2 fun j hj=>hno j (by omega)
  unfold aC.depthI at k
  rw [this]at k;exact k
 refine aJ (by rw [decide_eq_true_eq];omega) ?_
 obtain⟨bl,ol,r,ha,h3,h4,hr⟩:=hL.get hlt
 refine⟨bl,ol,ha,by omega,h3,?_⟩
 repeat' (refine az ?_)
 refine⟨r,h4,?_⟩
 refine wA (hq.mono l02) ok hr ⟨_,rfl,?_⟩
 refine ac (fun e=>?_) (fun e=>?_)
 ·refine⟨h,l02,?_⟩
  have:σ.depth=some i:=aC.depth_some.2 ⟨e,fun x hx=>hno x hx⟩
  unfold aC.depthI at k
  rw [this]at k;exact k
 ·rw [aA (by omega)]
  refine hnx hlt _ _ ⟨rfl,rfl,fun x hx=>?_⟩
  by_cases e2:x=i
  ·rw [e2];exact e
  ·exact hno x (by omega)
theorem Kn.lower {g h h':Hp} {L:List (Nat×Blk)} (K:Kn h h' L) (lg:g.le h): ∃g',Kn g g' L/\g'.le h'/\ ∀c,h c≠none->g c=none->g' c=none:=by
 refine⟨fun c=>if c∈L.map Prod.fst then h' c else g c,⟨fun c x e=>?_,fun e he=>?_,fun e he=>?_,K.nd⟩,fun c x e=>?_,fun c hc hg=>?_⟩
 ·show (if _ then _ else _)=_
  split
  ·exact K.le _ _ (lg _ _ e)
  ·exact e
 ·show (if _ then _ else _)=_
  rw [if_pos (List.mem_map.2 ⟨e,he,rfl⟩)];exact K.mem e he
 ·exact aF lg (K.new e he)
 ·change (if _ then _ else _)=_ at e
  split at e
  ·exact e
  ·exact K.le _ _ (lg _ _ e)
 ·show (if _ then _ else _)=_
  split
  ·rename_i hm
   obtain⟨e,he,rfl⟩:=List.mem_map.1 hm
   exact absurd (K.new e he) hc
  ·exact hg
theorem zd {g h:Hp} {b:Nat} {s2:Sl} {σ:aC} {S:Nat->Bool} {R:Value->Hp->Prop} (lg:g.le h) (hsg:nk g b σ) (ok:σ.Ok) (hSg:cY g s2 (2^σ.n) S)
  (k: ∀w h' g',h.le h'->g.le g'->g'.le h'->(∀c,h c≠none->g c=none->g' c=none)->D8 g' cz #[] w (2^(σ.n+σ.k)) (σ.leads S)->R (.func (.func cz) #[] w) h'):cG #[.pointer (some ⟨b,0,none⟩),s2.v] h R:=by
 apply vW
 refine uf_ ?_
 have hn:=eO ok
 have hS:=hSg.mono lg
 have hl:=hS.len
 have hfx:=ok.fixed
 obtain⟨M,st,hold,bad,next,fxg,_,_,hnt⟩:=id hsg
 have fx:=lg _ _ fxg
 have K0:=Kn.nil h
 (with_reducible apply Kn.al);(assumption);(intro b4 h1 K1 l1 hb4)
 rw [hl]
 refine⟨Int.natCast_nonneg _,Int.le_refl _,by omega,by omega,?_⟩
 (with_reducible apply Kn.al);(assumption);(intro b7 h2 K2 l2 hb7)
 rw [Int.toNat_natCast,Nat.mul_one,cj,kb]at K2
 rw [Int.toNat_natCast]
 (with_reducible apply Kn.al);(assumption);(intro b9 h3 K3 l3 hb9)
 (((with_reducible apply Kn.wr);(assumption);((focus ((repeat first|exact .head|apply Upd.tail);done)))))
 ·exact Nat.le_refl _
 intro h4 K4 _
 refine av (2^σ.n) (fun i vs h'=>vs= [.pointer (some ⟨b4,0,none⟩), .pointer (some ⟨b9,0,none⟩),s2.v,I (2^σ.n:Nat),I i]/\
  ∃T,Kn h h' [(b9, .inl ⟨[(arr b7 (2^σ.n)).v],1,false⟩),(b7, .inl ⟨tb (2^σ.n) T,2^σ.n,false⟩),(b4, .inl ⟨[.pointer (some ⟨b,0,none⟩)],1,false⟩)]/\ ∀x,T x=true↔ ∃t,t<i/\S t=true/\t&&&σ.fixed=x)
  ⟨rfl,_,K4,fun x=>⟨fun e=>by simp at e,fun⟨t,e,_⟩=>by omega⟩⟩ ?_
 clear K4 K3 K2 K1 K0 l1 l2 l3 hb4 hb7 hb9
 rintro i _ h5 nxt hi ⟨rfl,T,K,hT⟩ hnx
 refine⟨b4,0,b9,0,s2,_,_,rfl,?_⟩
 by_cases hlt:i<2^σ.n
 ·refine aJ (by rw [decide_eq_true_eq];exact_mod_cast hlt) ?_
  rw [dW]
  obtain⟨bS,oS,ha,e1,e2⟩:=(hS.mono K.le).get hlt
  refine⟨bS,oS,ha,by omega,e1,_,e2,?_⟩
  have hle:i&&&σ.fixed<=i:=Nat.and_le_left
  have fin: ∀v h6,v=(T (i&&&σ.fixed)||S i)->Kn h h6 [(b9, .inl ⟨[(arr b7 (2^σ.n)).v],1,false⟩),(b7, .inl ⟨(tb (2^σ.n) T).set (i&&&σ.fixed) (.bool v),2^σ.n,false⟩),(b4, .inl ⟨[.pointer (some ⟨b,0,none⟩)],1,false⟩)]->
    nxt [.pointer (some ⟨b4,0,none⟩), .pointer (some ⟨b9,0,none⟩),s2.v,I (2^σ.n:Nat),I (W ((i:Int)+1))] h6:=by
   intro v h6 hv K6
   rw [aA (by omega)]
   rw [ln]at K6
   refine hnx hlt _ _ ⟨rfl,_,K6,fun x=>?_⟩
   by_cases e:x=i&&&σ.fixed
   ·rw [if_pos e,hv,Bool.or_eq_true,hT,e]
    constructor
    ·rintro (⟨t,q1,q2,q3⟩|q)
     ·exact⟨t,by omega,q2,q3⟩
     ·exact⟨i,by omega,q,rfl⟩
    ·rintro ⟨t,q1,q2,q3⟩
     by_cases e2:t=i
     ·subst e2;exact .inr q2
     ·exact .inl ⟨t,by omega,q2,q3⟩
   ·rw [if_neg e,hT]
    constructor
    ·rintro ⟨t,q1,q⟩;exact⟨t,by omega,q⟩
    ·rintro ⟨t,q1,q2,q3⟩
     by_cases e2:t=i
     ·subst e2;exact absurd q3.symm e
     ·exact⟨t,by omega,q2,q3⟩
  repeat' (refine kr_ ?_)
  rw [r8 (by omega) (by omega)]
  refine⟨by omega,by dsimp only;omega,?_⟩
  refine Kn.rd K (.tail _ (.head _)) (x:=T (i&&&σ.fixed)) (by rw [Nat.zero_add,Nat.mul_one,Int.toNat_natCast];exact pc (by omega)) ?_
  refine ac (fun e=>?_) (fun e=>?_)
  ·refine⟨b7,0,rfl,by omega,by dsimp only;omega,?_⟩
   (((with_reducible apply Kn.wr);(assumption);((focus ((repeat first|exact .head|apply Upd.tail);done)))))
   ·rw [gw];omega
   intro h6 K6 _
   rw [bP,Nat.zero_add,Int.toNat_natCast,Nat.mul_one]at K6
   exact fin _ h6 (by rw [e];rfl) K6
  ·refine⟨b7,0,rfl,by omega,by dsimp only;omega,?_⟩
   (((with_reducible apply Kn.wr);(assumption);((focus ((repeat first|exact .head|apply Upd.tail);done)))))
   ·rw [gw];omega
   intro h6 K6 _
   rw [bP,Nat.zero_add,Int.toNat_natCast,Nat.mul_one]at K6
   exact fin _ h6 (by rw [e];rfl) K6
 refine aD (by rw [decide_eq_false_iff_not];omega) ?_
 obtain⟨g',Kg,lg',hnew⟩:=K.lower lg
 refine k _ h5 g' K.le Kg.le lg' hnew fun c hc h' l R' kk=>?_
 apply tE
 refine uf_ ?_
 have K':=Kg.mono l
 clear K Kg fx hnx
 have hcn:=ok.next c hc
 repeat' (refine kr_ ?_)
 obtain⟨bx,ox,hax,e1,e2⟩:=BG.get (hnt.mono K'.le) hc
 refine⟨bx,ox,hax,by omega,e1,_,e2,?_⟩
 refine⟨b7,0,rfl,by omega,by dsimp only;omega,?_⟩
 refine Kn.rd K' (.tail _ (.head _)) (x:=T (σ.next c)) (by rw [Nat.zero_add,Nat.mul_one,Int.toNat_natCast];exact pc (by omega)) ?_
 refine di ?_ kk
 rw [Bool.eq_iff_iff,hT]
 unfold aC.leads
 rw [cy]
 constructor
 ·rintro ⟨t,q1,q2,q3⟩
  exact⟨t,by omega,by unfold aC.goes;rw [q2,q3];simp⟩
 ·rintro ⟨t,q1,q2⟩
  unfold aC.goes at q2
  rw [Bool.and_eq_true,decide_eq_true_eq]at q2
  exact⟨t,by omega,q2.1,q2.2⟩
theorem A8 {h:Hp} {b:Nat} {s2:Sl} {σ:aC} {S:Nat->Bool} {R:Value->Hp->Prop} (hs:nk h b σ) (ok:σ.Ok) (hS:cY h s2 (2^σ.n) S)
  (k: ∀w h',h.le h'->D8 h' cz #[] w (2^(σ.n+σ.k)) (σ.leads S)->R (.func (.func cz) #[] w) h'):cG #[.pointer (some ⟨b,0,none⟩),s2.v] h R:=
 zd (Hp.le_refl h) hs ok hS fun w h' g' l _ l2 _ hA=>k w h' l fun c hc h'' l' R' kk=>hA c hc h'' (Hp.le_trans l2 l') R' kk
theorem Rt {h:Hp} {t:Sl} {n:Nat} {T U:Nat->Bool} (e:cY h t n T) (f: ∀j,j<n->T j=U j):cY h t n U:=by
 unfold cY at e⊢
 rwa [show (List.range n).map U=(List.range n).map T from List.map_congr_left fun j hj=>(f j (List.mem_range.1 hj)).symm]
theorem cY.wo {g h h':Hp} {L:List (Nat×Blk)} {t:Sl} {n:Nat} {T:Nat->Bool} (K:Kn g h L) (e:cY (h'.sub h) t n T):cY (h'.wo (L.map Prod.fst)) t n T:=
 cY.mono (rU (sub_le _ _) fun b hb=>by
  cases hx:h b with
  |none=>exact absurd hx (K.has b hb)
  |some x=>exact lP hx) e
theorem Em {h:Hp} {b4 z n c:Nat} {t:Sl} {T:Nat->Bool} {R:Value->Hp->Prop} (f:h b4=some (.inl ⟨[t.v],z,false⟩)) (hT:cY h t n T) (hc:c<n) (k:R (.bool (T c)) h):
  lC #[I c, .pointer (some ⟨b4,0,none⟩)] h R:=by
 apply tL
 refine uf_ ?_
 (refine az ?_)
 obtain⟨b',o',ha,h1,h2⟩:=hT.get hc
 exact⟨b',o',ha,by omega,h1,_,h2,k⟩
theorem qy {h:Hp} {b:Nat} {t:Sl} {σ:aC} {T:Nat->Bool} {R:Value->Hp->Prop} (hs:nk h b σ) (ok:σ.Ok) (hT:cY h t (2^σ.n) T)
  (k: ∀s h',h.le h'->Own (h'.sub h) s 3 (bK (cO σ.n T).ns)->R (wl (cO σ.n T) s) h'):fB #[.pointer (some ⟨b,0,none⟩),t.v] h R:=by
 apply vZ
 refine uf_ ?_
 have K0:=Kn.nil h
 (with_reducible apply Kn.al);(assumption);(intro b4 h1 K1 l1 hb4)
 (with_reducible apply Kn.al);(assumption);(intro b6 h2 K2 l2 hb6)
 have f4:=K2.at (.tail _ (.head _))
 refine Gj (hs.mono K2.le) ok (fun i hi h' l R kk=>Em (l _ _ f4) ((hT.mono K2.le).mono l) hi kk) fun s h3 l3 o3=>⟨_,_,_,_,rfl,?_⟩
 have K3:=K2.mono l3
 (((with_reducible apply Kn.wr);(assumption);((focus ((repeat first|exact .head|apply Upd.tail);done)))))
 ·exact Nat.le_refl _
 intro h4 K4 kp
 refine⟨_,by rw [aq (K4.at (.head _))];rfl,_,by rw [aq (K4.at (.head _))];rfl,_,by rw [aq (K4.at (.head _))];rfl,?_⟩
 exact k s h4 K4.le (o3.mono (gk K2.le (K2.at (.head _)) kp))
theorem uy {h:Hp} {n:Nat} {R:Value->Hp->Prop} (hn:n<=16) (k:R (I n) h):ko #[I (2^n:Nat)] h R:=by
 apply Hs
 refine uf_ ?_
 refine av n (fun i vs h'=>vs= [I (2^n:Nat),I i]/\h=h') ⟨rfl,rfl⟩ ?_
 rintro i _ _ nxt hi ⟨rfl,rfl⟩ hnx
 refine⟨_,_,rfl,?_⟩
 rw [cl (by omega),if_neg (by omega),bG (by omega)]
 by_cases hlt:i<n
 ·have:=Nat.pow_lt_pow_right (a:=2) (by omega) hlt
  refine aJ (by rw [decide_eq_true_eq];exact_mod_cast this) ?_
  rw [aA (by omega)]
  exact hnx hlt _ _ ⟨rfl,rfl⟩
 ·have hie:i=n:=by omega
  subst hie
  exact aD (by simp) k
theorem Ut {n:Nat} (hn:n<=8) (f:Nat->Bool):(cO n f).ok=true:=by
 have h1:=sK n f 0 []
 have h2:=Nat.pow_le_pow_right (n:=2) (by omega) hn
 have h3: ¬600<(mkD n f 0 []).2.length:=by simp at h1 h2;omega
 unfold cO oe
 rw [if_pos (by omega),Int.toNat_natCast,if_neg h3]
def dX (m:ai):Bd:=if ax m=0 then cO (aG m).n (aG m).reach else iW
def j6 (m:ai):Int:=if ax m=0 then((aG m).nLay:Int)-1 else 0
abbrev F0 (B:Bd) (l:Int) (s:Sl):Value:= .tuple #[.agg #[I B.v,s.v,I B.r],I l, .bool B.ok]
theorem Gq {h:Hp} {b:Nat} {t:Sl} {σ:aC} {R:Value->Hp->Prop} (hs:nk h b σ) (ok:σ.Ok) (hL:AO h t (2^σ.n) σ.nLay σ.front)
  (k: ∀b' T h',Kn h h' [(b', .inl ⟨tb (2^σ.n) T,2^σ.n,false⟩)]->(∀j,j<2^σ.n->T j=σ.reach j)->R (arr b' (2^σ.n)).v h'):iY #[.pointer (some ⟨b,0,none⟩),t.v] h R:=by
 apply yM
 refine uf_ ?_
 have hn:=eO ok
 have h8:=ok.nle
 have hl:=hL.len
 have hnl:=aC.nLay_le σ
 obtain⟨M,st,hold,bad,next,fx,_⟩:=id hs
 have K0:=Kn.nil h
 refine dw ?_
 (refine kr_ ?_)
 rw [if_neg (by omega),bG (by omega)]
 refine⟨Int.natCast_nonneg _,Int.le_refl _,by omega,by omega,?_⟩
 (with_reducible apply Kn.al);(assumption);(intro b8 h1 K1 l1 hb8)
 rw [Int.toNat_natCast,Nat.mul_one,cj,kb]at K1
 rw [Int.toNat_natCast,hl]
 refine av σ.nLay (fun i vs h'=>vs= [(arr b8 (2^σ.n)).v,t.v,I σ.nLay,I i]/\
  ∃T,Kn h h' [(b8, .inl ⟨tb (2^σ.n) T,2^σ.n,false⟩)]/\ ∀j,j<2^σ.n->T j=σ.seen i j) ⟨rfl,_,K1,fun j hj=>rfl⟩ ?_
 clear K1 K0 l1 hb8 h1
 rintro i _ h1 nxt hi ⟨rfl,T,K1,hT⟩ hnx
 refine⟨arr b8 _,t,_,_,rfl,?_⟩
 by_cases hlt:i<σ.nLay
 rotate_left
 ·refine aD (by rw [decide_eq_false_iff_not];omega) ?_
  exact k b8 T h1 K1 fun j hj=>by rw [hT j hj,show i=σ.nLay by omega];rfl
 refine aJ (by rw [decide_eq_true_eq];exact_mod_cast hlt) ?_
 obtain⟨bl,ol,r',ha,h3,h4,hr'⟩:=hL.get hlt
 refine⟨bl,ol,ha,by omega,by omega,r',K1.le.cell h4,?_⟩
 have hrl:=hr'.len
 rw [hrl]
 refine av (2^σ.n) (fun j vs h'=>vs= [(arr b8 (2^σ.n)).v,t.v,I σ.nLay,I i,r'.v,I (2^σ.n:Nat),I j]/\
  ∃T,Kn h h' [(b8, .inl ⟨tb (2^σ.n) T,2^σ.n,false⟩)]/\ ∀x,x<2^σ.n->T x=if x<j then σ.seen (i+1) x else σ.seen i x) ⟨rfl,T,K1,fun x hx=>by rw [if_neg (by omega)];exact hT x hx⟩ ?_
 clear hT K1 T h4 ha h3 h1
 rintro j _ h1 nxt2 hj ⟨rfl,T,K1,hT⟩ hnx2
 refine⟨arr b8 _,t,_,_,r',_,_,rfl,?_⟩
 by_cases hlj:j<2^σ.n
 rotate_left
 ·refine aD (by rw [decide_eq_false_iff_not];omega) ?_
  rw [aA (by omega)]
  exact hnx hlt _ _ ⟨rfl,T,K1,fun x hx=>by rw [hT x hx,if_pos (by omega)]⟩
 refine aJ (by rw [decide_eq_true_eq];exact_mod_cast hlj) ?_
 obtain⟨br,or,har,hr1,hr2⟩:=(hr'.mono K1.le).get hlj
 refine⟨br,or,har,by omega,hr1,_,hr2,?_⟩
 refine⟨b8,0,rfl,by omega,by dsimp only;omega,?_⟩
 refine Kn.rd K1 (.head _) (x:=T j) (by rw [Nat.zero_add,Nat.mul_one,Int.toNat_natCast];exact pc hlj) ?_
 have fin: ∀v h7,v=σ.seen (i+1) j->Kn h h7 [(b8, .inl ⟨(tb (2^σ.n) T).set j (.bool v),2^σ.n,false⟩)]->
   nxt2 [(arr b8 (2^σ.n)).v,t.v,I σ.nLay,I i,r'.v,I (2^σ.n:Nat),I (W ((j:Int)+1))] h7:=by
  intro v h7 hv K7
  rw [aA (by omega)]
  rw [ln]at K7
  refine hnx2 hlj _ _ ⟨rfl,_,K7,fun x hx=>?_⟩
  by_cases e2:x=j
  ·rw [if_pos e2,if_pos (by omega),e2];exact hv
  ·rw [if_neg e2,hT x hx]
   by_cases e3:x<j
   ·rw [if_pos e3,if_pos (by omega)]
   ·rw [if_neg e3,if_neg (by omega)]
 have hTj:T j=σ.seen i j:=by rw [hT j hlj,if_neg (by omega)]
 refine ac (fun e=>?_) (fun e=>?_)<;>refine⟨b8,0,rfl,by omega,by dsimp only;omega,?_⟩<;>(((with_reducible apply Kn.wr);(assumption);((focus ((repeat first|exact .head|apply Upd.tail);done)))))
 ·rw [gw];omega
 ·intro h7 K7 _
  rw [bP,Nat.zero_add,Int.toNat_natCast,Nat.mul_one]at K7
  exact fin _ h7 (by rw [aC.seen_succ,<-hTj,e];rfl) K7
 ·rw [gw];omega
 ·intro h7 K7 _
  rw [bP,Nat.zero_add,Int.toNat_natCast,Nat.mul_one]at K7
  exact fin _ h7 (by rw [aC.seen_succ,<-hTj,e];rfl) K7
theorem jH {h:Hp} {M:MSl} {m:ai} {R:Value->Hp->Prop} (hs:aN h M m) (hm:bW m)
  (k: ∀s h',h.le h'->Own (h'.sub h) s 3 (bK (dX m).ns)->R (F0 (dX m) (j6 m) s) h'):fh #[aO M] h R:=by
 apply EF
 refine uf_ ?_
 unfold dX j6 at k
 have K0:=Kn.nil h
 (with_reducible apply Kn.al);(assumption);(intro b7 h1 K1 l1 hb7)
 (with_reducible apply Kn.al);(assumption);(intro b9 h2 K2 l2 hb9)
 repeat' (refine kr_ ?_)
 refine aX (hs.mono K2.le) hm ⟨_,rfl,?_⟩
 refine ac (fun e=>?_) (fun e=>?_)
 ·rw [if_neg (gH e),if_neg (gH e)]at k
  (((with_reducible apply Kn.wr);(assumption);((focus ((repeat first|exact .head|apply Upd.tail);done)))))
  ·exact Nat.le_refl _
  intro h3 K3 _
  refine⟨_,by rw [aq (K3.at (.head _))];rfl,⟨none,0,0⟩,by rw [aq (K3.at (.head _))];rfl,_,by rw [aq (K3.at (.head _))];rfl,?_⟩
  exact k ⟨none,0,0⟩ h3 K3.le (mj _ _)
 have hc:=fD e
 rw [if_pos hc,if_pos hc]at k
 have ok:=gq (co hc)
 repeat' (refine kr_ ?_)
 refine oM (hs.mono K2.le) hm hc fun q h3 l3 hq=>⟨_,_,_,_,_,_,_,rfl,?_⟩
 have K3:=K2.mono l3
 have hok:=Ut ok.nle (aG m).reach
 simp only [F0,hok]at k
 generalize aG m=σ at*
 have hn:=eO ok
 have hnl:=aC.nLay_le σ
 refine Kn.al K3 fun b43 h4 K4 l4 hb43=>?_
 refine kw_ ?_
 intro h5 K5 kp5
 simp only [cv,List.set_cons_zero,List.set_cons_succ,Nat.zero_add,Nat.reduceAdd]at K5
 have hq5:=hq.mono (cF hb43 l4 kp5)
 clear K4 K3 kp5
 repeat' (refine kr_ ?_)
 refine mY hq5 ok fun L h6 l6 hL=>⟨_,rfl,?_⟩
 have K6:=K5.mono l6
 have hll:=hL.len
 repeat' (refine kr_ ?_)
 refine⟨Int.natCast_nonneg _,Int.le_refl _,by omega,by omega,?_⟩
 have f43:=K6.at (.head _)
 (with_reducible apply Kn.al);(exact Kn.nil h6);(intro b61 h7 K7 l7 hb61)
 rw [Int.toNat_natCast,Nat.mul_one,cj,kb]at K7
 rw [Int.toNat_natCast]
 clear K5 K1 K0 K2 hb61
 refine av σ.nLay (fun i vs h'=>vs= [.pointer (some ⟨b9,0,none⟩), .pointer (some ⟨b43,0,none⟩),L.v,(arr b61 (2^σ.n)).v,I i]/\
  ∃T,Kn h6 h' [(b61, .inl ⟨tb (2^σ.n) T,2^σ.n,false⟩)]/\
   ∀j,j<2^σ.n->T j=σ.seen i j) ⟨rfl,_,K7,fun j hj=>rfl⟩ ?_
 clear K7 l7 h7
 rintro i _ h7 nxt hi ⟨rfl,T,K7,hT⟩ hnx
 refine⟨b9,0,b43,0,L,arr b61 _,_,rfl,?_⟩
 by_cases hlt:i<σ.nLay
 ·refine aJ (by rw [decide_eq_true_eq];omega) ?_
  obtain⟨bl,ol,r',ha,h3',h4',hr'⟩:=hL.get hlt
  refine av (2^σ.n) (fun j vs h'=>vs= [.pointer (some ⟨b9,0,none⟩), .pointer (some ⟨b43,0,none⟩),L.v,(arr b61 (2^σ.n)).v,I i,I j]/\
   ∃T,Kn h6 h' [(b61, .inl ⟨tb (2^σ.n) T,2^σ.n,false⟩)]/\
    ∀x,x<2^σ.n->T x=if x<j then σ.seen (i+1) x else σ.seen i x) ⟨rfl,T,K7,fun x hx=>by rw [if_neg (by omega)];exact hT x hx⟩ ?_
  clear hT K7 T h7
  rintro j _ h7 nxt2 hj ⟨rfl,T,K7,hT⟩ hnx2
  refine⟨b9,0,b43,0,L,arr b61 _,_,_,rfl,?_⟩
  (refine kr_ ?_)
  by_cases hlj:j<2^σ.n
  rotate_left
  ·refine aD (by rw [decide_eq_false_iff_not];omega) ?_
   rw [aA (by omega)]
   exact hnx hlt _ _ ⟨rfl,T,K7,fun x hx=>by rw [hT x hx,if_pos (by omega)]⟩
  refine aJ (by rw [decide_eq_true_eq];omega) ?_
  have hTj:T j=σ.seen i j:=by rw [hT j hlj,if_neg (by omega)]
  refine ap (fun J=> ∀h8,Kn h6 h8 [(b61, .inl ⟨(tb (2^σ.n) T).set j (.bool (σ.seen (i+1) j)),2^σ.n,false⟩)]->J h8) (fun h8 K8=>?_) (fun J hJ=>?_)
  ·rw [aA (by omega)]
   rw [ln]at K8
   refine hnx2 hlj _ _ ⟨rfl,_,K8,fun x hx=>?_⟩
   by_cases e2:x=j
   ·rw [if_pos e2,if_pos (by omega),e2]
   ·rw [if_neg e2,hT x hx]
    by_cases e3:x<j
    ·rw [if_pos e3,if_pos (by omega)]
    ·rw [if_neg e3,if_neg (by omega)]
  have fin: ∀v h8,v=σ.seen (i+1) j->Kn h6 h8 [(b61, .inl ⟨(tb (2^σ.n) T).set j (.bool v),2^σ.n,false⟩)]->J h8:=fun v h8 hv K8=>hJ h8 (hv▸K8)
  refine⟨b61,0,rfl,by omega,by dsimp only;omega,?_⟩
  refine Kn.rd K7 (.head _) (x:=T j) (by rw [Nat.zero_add,Nat.mul_one,Int.toNat_natCast];exact pc hlj) ?_
  refine ac (fun e=>?_) (fun e=>?_)
  ·refine⟨b61,0,rfl,by omega,by dsimp only;omega,?_⟩
   (((with_reducible apply Kn.wr);(assumption);((focus ((repeat first|exact .head|apply Upd.tail);done)))))
   ·rw [gw];omega
   intro h8 K8 _
   rw [bP,Nat.zero_add,Int.toNat_natCast,Nat.mul_one]at K8
   exact fin _ h8 (by rw [aC.seen_succ,<-hTj,e];rfl) K8
  ·refine⟨bl,ol,ha,by omega,by omega,r',K7.le.cell h4',?_⟩
   obtain⟨br,or,har,hr1,hr2⟩:=(hr'.mono K7.le).get hlj
   refine⟨br,or,har,by omega,hr1,_,hr2,?_⟩
   refine⟨b61,0,rfl,by omega,by dsimp only;omega,?_⟩
   (((with_reducible apply Kn.wr);(assumption);((focus ((repeat first|exact .head|apply Upd.tail);done)))))
   ·rw [gw];omega
   intro h8 K8 _
   rw [bP,Nat.zero_add,Int.toNat_natCast,Nat.mul_one]at K8
   exact fin _ h8 (by rw [aC.seen_succ,<-hTj,e];rfl) K8
 ·refine aD (by rw [decide_eq_false_iff_not];omega) ?_
  repeat' (refine kr_ ?_)
  refine uy (by have:=ok.nle;omega) ⟨_,rfl,?_⟩
  refine CM (by have:=ok.nle;omega) (jV (by omega) (K7.at (.head _)) fun j hj=>(by rw [hT j hj,show i=σ.nLay by omega];rfl:T j=σ.reach j)) fun s h8 l8 o8=>⟨_,_,_,_,rfl,?_⟩
  have K67:=K6.mono K7.le
  have K8:=K67.mono l8
  refine Kn.al K8 fun b129 h9 K9 l9 hb129=>?_
  refine kw_ ?_
  intro h10 K10 kp10
  rw [hok]
  refine aD rfl ?_
  repeat' (refine kr_ ?_)
  refine kw_ ?_
  intro h11 K11 kp11
  refine⟨_,by rw [aq (K11.at (.tail _ (.tail _ (.head _))))];rfl,_,by rw [aq (K11.at (.tail _ (.tail _ (.head _))))];rfl,_,by rw [aq (K11.at (.tail _ (.tail _ (.head _))))];rfl,?_⟩
  rw [hll,bV (by omega) (by omega)]
  exact k s h11 K11.le (o8.mono (Hp.le_trans (ql h7 (cF hb129 l9 kp10)) (gk K67.le (K67.at (.tail _ (.head _))) kp11)))
theorem NF {h:Hp} {b c t:Nat} {σ:aC} {R:Value->Hp->Prop} (hs:nk h b σ) (ok:σ.Ok) (hc:c<2^(σ.n+σ.k)) (ht:t<2^σ.n) (k:R (.bool (σ.goes c t)) h):
  lb #[.pointer (some ⟨b,0,none⟩),I c,I t] h R:=by
 apply yL
 refine uf_ ?_
 obtain⟨M,st,hold,bad,next,fx,_,_,hn⟩:=hs
 have h8:=eO ok
 have hf:=ok.fixed
 have hn':=ok.next c hc
 refine dw (dw ?_)
 repeat' (refine az ?_)
 obtain⟨b',o',ha,h1,h2⟩:=BG.get hn hc
 refine⟨b',o',ha,by omega,h1,_,h2,?_⟩
 rw [r8 (by omega) (by omega)]
 refine di ?_ k
 unfold aC.goes
 rw [Bool.eq_iff_iff,decide_eq_true_eq,beq_iff_eq];omega
theorem DS {h:Hp} {b4 b z s c:Nat} {σ:aC} {R:Value->Hp->Prop} (hs:nk h b σ) (f:h b4=some (.inl ⟨[.pointer (some ⟨b,0,none⟩)],z,false⟩)) (hc:c<2^(σ.n+σ.k)) (k:R (.bool (σ.ends c)) h):
  lA #[I s,I c, .pointer (some ⟨b4,0,none⟩)] h R:=by
 apply tQ
 refine uf_ ?_
 (refine az ?_)
 exact yl hs hc ⟨_,rfl,k⟩
theorem EG {h:Hp} {b4 b5 b z z' s c:Nat} {fid:FuncId} {u w:Array Value} {σ:aC} {P:Nat->Bool} {R:Value->Hp->Prop} (hs:nk h b σ) (f:h b4=some (.inl ⟨[.pointer (some ⟨b,0,none⟩)],z,false⟩))
  (f5:h b5=some (.inl ⟨[.func (.func fid) u w],z',false⟩)) (hA:D8 h fid u w (2^(σ.n+σ.k)) P) (hc:c<2^(σ.n+σ.k)) (k:R (.bool (σ.hold c&&P c)) h):
  lw #[I s,I c, .pointer (some ⟨b4,0,none⟩), .pointer (some ⟨b5,0,none⟩)] h R:=by
 apply sZ
 refine uf_ ?_
 obtain⟨M,st,hold,bad,next,fx,hh,hb,_⟩:=hs
 (refine az ?_)
 refine dw ?_
 (refine az ?_)
 obtain⟨b',o',ha,h1,h2⟩:=hh.get hc
 refine⟨b',o',ha,by omega,h1,_,h2,?_⟩
 refine ac (fun e=>?_) (fun e=>?_)
 ·refine⟨fid,u,w,by rw [aq f5];rfl,?_⟩
  refine hA c hc h (Hp.le_refl _) _ ⟨_,rfl,?_⟩
  rw [e]at k;exact k
 ·rw [e]at k;exact k
theorem Ez {h:Hp} {b4 b5 b z z' c:Nat} {fid:FuncId} {u w:Array Value} {σ:aC} {P:Nat->Bool} {R:Value->Hp->Prop} (hs:nk h b σ) (f:h b4=some (.inl ⟨[.pointer (some ⟨b,0,none⟩)],z,false⟩))
  (f5:h b5=some (.inl ⟨[.func (.func fid) u w],z',false⟩)) (hA:D8 h fid u w (2^(σ.n+σ.k)) P) (hc:c<2^(σ.n+σ.k)) (k:R (.bool (σ.hold c&&P c)) h):
  lz #[I c, .pointer (some ⟨b4,0,none⟩), .pointer (some ⟨b5,0,none⟩)] h R:=by
 apply td
 refine uf_ ?_
 obtain⟨M,st,hold,bad,next,fx,hh,hb,_⟩:=hs
 (refine az ?_)
 refine dw ?_
 (refine az ?_)
 obtain⟨b',o',ha,h1,h2⟩:=hh.get hc
 refine⟨b',o',ha,by omega,h1,_,h2,?_⟩
 refine ac (fun e=>?_) (fun e=>?_)
 ·refine⟨fid,u,w,by rw [aq f5];rfl,?_⟩
  refine hA c hc h (Hp.le_refl _) _ ⟨_,rfl,?_⟩
  rw [e]at k;exact k
 ·rw [e]at k;exact k
theorem EK {h:Hp} {b4 b5 b z z' c t:Nat} {σ:aC} {R:Value->Hp->Prop} (hs:nk h b σ) (ok:σ.Ok) (f:h b4=some (.inl ⟨[.pointer (some ⟨b,0,none⟩)],z,false⟩))
  (f5:h b5=some (.inl ⟨[I c],z',false⟩)) (hc:c<2^(σ.n+σ.k)) (ht:t<2^σ.n) (k:R (.bool (σ.goes c t)) h):
  lT #[I t, .pointer (some ⟨b4,0,none⟩), .pointer (some ⟨b5,0,none⟩)] h R:=by
 apply tz
 refine uf_ ?_
 repeat' (refine az ?_)
 exact NF hs ok hc ht ⟨_,rfl,k⟩
theorem cE.toOwn {g h:Hp} {A X L:List (Nat×Blk)} {s:Sl} {sz:Nat} {cs:List Value} (o:cE X s sz cs) (hn:s.n<=9223372036854775807) (K:Kn g h (A++(X++L))): ∃X',pa X' s sz cs/\Kn g h (A++(X'++L)):=by
 by_cases h0:s.n=0
 ·refine⟨[],⟨o.1,hn, .inl ⟨h0,rfl⟩⟩,K.sub (fun e he=>?_) ?_⟩
  ·rcases List.mem_append.1 he with he|he
   ·exact List.mem_append_left _ he
   ·exact List.mem_append_right _ (List.mem_append_right _ he)
  ·have nd:=K.nd
   rw [List.map_append,List.map_append]at nd
   rw [List.nil_append,List.map_append]
   exact nd.sublist (List.Sublist.append_left (List.sublist_append_right _ _) _)
 ·rcases o.2.2 with ⟨_,rfl,_⟩|⟨b,ha,rfl⟩
  ·exact absurd rfl h0
  ·exact⟨_,⟨o.1,hn, .inr ⟨h0,b,_,ha,rfl⟩⟩,K⟩
theorem Cv {g h h':Hp} {L:List (Nat×Blk)} (K:Kn g h L):(h'.sub h).le (h'.wo (L.map Prod.fst)):=by
 intro c x e
 have hn:h c=none:=lF (by rw [e];simp)
 rw [rj fun hm=>K.has c hm hn]
 exact sub_le _ _ _ _ e
def TrX (h h':Hp) (sS sI:Sl) (l:List (Nat×Nat)):Prop:=
 ∃XS XI,pa XS sS 1 ((VL (l.map Prod.fst)).map I)/\pa XI sI 1 ((VL (l.map Prod.snd)).map I)/\Kn h h' (XS++XI)
theorem uQ (σ:aC): ∀k fits,(σ.wit k fits).length=k+1:=by
 intro k
 induction k with
 |zero=>intro fits;rfl
 |succ k ih=>intro fits;show (_::σ.wit k _).length=_;rw [List.length_cons,ih]
def kP (σ:aC) (k:Nat) (fits:Nat->Bool):Nat:=aC.leastB (2^σ.n) fun s=>fits s&&σ.ahead k s
def wm (σ:aC) (k s:Nat):Nat:=aC.leastB (2^σ.k) fun x=>σ.onB k (σ.at_ s x)
theorem Lq (σ:aC) (k:Nat) (fits:Nat->Bool):σ.wit (k+1) fits=(kP σ (k+1) fits,wm σ (k+1) (kP σ (k+1) fits))::σ.wit k (σ.goes (σ.at_ (kP σ (k+1) fits) (wm σ (k+1) (kP σ (k+1) fits)))):=rfl
theorem cE.at {X:List (Nat×Blk)} {h:Hp} {s t:Sl} {ts:List Sl} {i:Nat} (o:cE X s 1 (ts.map Sl.v)) (m: ∀e∈X,h e.1=some e.2) (hi:ts[i]?=some t):
  ∃b x,s.a=some ⟨b,0,none⟩/\h b=some x/\Hp.cell h b (0+i*1)=some t.v:=by
 have hlt:=get_lt hi
 rcases o.2.2 with ⟨_,_,h0⟩|⟨b,ha,rfl⟩
 ·have:ts.length=0:=by have:=congrArg List.length h0;simpa using this
  omega
 ·have hb:=m _ (.head _)
  refine⟨b,_,ha,hb,?_⟩
  rw [aq hb,Nat.zero_add,Nat.mul_one,List.getElem?_map,hi];rfl
theorem Xb {h:Hp} {b b4 bl:Nat} {r:Sl} {x4 xl:Blk} {σ:aC} {S:Nat->Bool} {J:Nat->Hp->Prop} (hs:nk h b σ) (ok:σ.Ok) (hr:cY h r (2^σ.n) S) (f4:h b4=some x4) (fl:h bl=some xl)
  (hJ: ∀bc h' w,h.le h'->h' bc=some (.inl ⟨[.func (.func cz) #[] w],1,false⟩)->D8 h' cz #[] w (2^(σ.n+σ.k)) (σ.leads S)->J bc h'):
  (cG #[.pointer (some ⟨b,0,none⟩),r.v] h fun v36 h37=> ∃(f38:FuncId) (u39 w40:Array Value),v36=(.func (.func f38) u39 w40)/\(∀b41:Nat,h37 b41=none->cu (h37.row b41 [.nilFunc] 1) fun h42=>h42 bl=h bl/\(h42 b4=h b4/\
   (∃(cs43:List Value) (z44:Nat),h42 b41=some (.inl ⟨cs43,z44,false⟩)/\0+1<=List.length cs43/\cu (h42.row b41 (cv cs43 0 [(.func (.func f38) u39 w40)]) z44) fun h45=>J b41 h45))))/\
  (∀b46:Nat,h b46=none->cu (h.row b46 [.nilFunc] 1) fun h47=>h47 bl=h bl/\(h47 b4=h b4/\(cG #[.pointer (some ⟨b,0,none⟩),r.v] h47 fun v48 h49=> ∃(f50:FuncId) (u51 w52:Array Value),v48=(.func (.func f50) u51 w52)/\
   (∃(cs53:List Value) (z54:Nat),h49 b46=some (.inl ⟨cs53,z54,false⟩)/\0+1<=List.length cs53/\cu (h49.row b46 (cv cs53 0 [(.func (.func f50) u51 w52)]) z54) fun h55=>J b46 h55)))):=by
 refine⟨?_,?_⟩
 ·refine A8 hs ok hr fun w h4 l4 hA=>⟨_,_,_,rfl,?_⟩
  refine aj fun b41 h5 hb41 l5 f41=>?_
  have l35:=Hp.le_trans l4 l5
  refine⟨(l35 _ _ fl).trans fl.symm,(l35 _ _ f4).trans f4.symm,?_⟩
  (with_reducible apply cb);(exact f41);(exact l5);(exact hb41);(exact Nat.le_refl 1)
  intro h6 f6 kp l6
  exact hJ b41 h6 w (Hp.le_trans l4 l6) f6 fun c hc h'' l' R' kk'=>hA c hc h'' (Hp.le_trans l6 l') R' kk'
 ·refine aj fun b46 h4 hb46 l4 f46=>⟨(l4 _ _ fl).trans fl.symm,(l4 _ _ f4).trans f4.symm,?_⟩
  refine zd l4 hs ok hr fun w h5 g' l5 lg lg' hno hA=>⟨_,_,_,rfl,?_⟩
  have hg46:=hno b46 (by rw [f46];simp) hb46
  (with_reducible apply cb);(exact l5 _ _ f46);(exact Hp.le_trans l4 l5);(exact hb46);(exact Nat.le_refl 1)
  intro h6 f6 kp l6
  have l56:g'.le h6:=fun c x e=>by
   have hne:c≠b46:=by rintro rfl;rw [hg46]at e;cases e
   rw [kp c hne];exact lg' _ _ e
  exact hJ b46 h6 w l6 f6 fun c hc h'' l' R' kk'=>hA c hc h'' (Hp.le_trans l56 l') R' kk'
theorem YG {h g h1 h5:Hp} {b6 b73:Nat} {y:Blk} {sS sI:Sl} {XS XI:List (Nat×Blk)} {pre:List (Nat×Nat)} (lg:h.le g) (h6:g b6≠none) (oS:cE XS sS 1 ((VL (pre.map Prod.fst)).map I)) (oI:cE XI sI 1 ((VL (pre.map Prod.snd)).map I))
  (nS:sS.n<=9223372036854775807) (nI:sI.n<=9223372036854775807) (K:Kn g h1 ((b73,y)::(XS++(XI++ [])))) (l5:h.le h5) (kp: ∀c,c≠b6->h5 c=h1 c):TrX h h5 sS sI pre:=by
 obtain⟨XS',oS',K6⟩:=oS.toOwn nS (A:= [_]) (L:=XI++ []) K
 rw [<-List.append_assoc]at K6
 obtain⟨XI',oI',K7⟩:=oI.toOwn nI K6
 rw [List.append_nil,List.append_assoc]at K7
 have nd:=K7.nd
 have hm: ∀e∈XS'++XI',e∈ [(b73,y)]++(XS'++XI'):=fun e he=>List.mem_append_right _ he
 refine⟨XS',XI',oS',oI',l5,fun e he=>?_,fun e he=>?_,?_⟩
 ·have hne:e.1≠b6:=by
   intro e6
   have h1:=K7.new e (hm e he)
   rw [e6]at h1;exact h6 h1
  rw [kp _ hne];exact K7.mem e (hm e he)
 ·exact aF lg (K7.new e (hm e he))
 ·rw [List.map_append,List.nodup_append]at nd
  exact nd.2.1
set_option maxHeartbeats 2000000 in
theorem Ay {h:Hp} {b d:Nat} {σ:aC} {R:Value->Hp->Prop} (hs:nk h b σ) (ok:σ.Ok) (hd:d<=256) (hw: ∃s,s<2^σ.n/\(σ.begins s&&σ.ahead d s)=true)
  (k: ∀sS sI h',TrX h h' sS sI (σ.wit d σ.begins)->R (.agg #[Sl.v sS,Sl.v sI]) h'):gY #[.pointer (some ⟨b,0,none⟩),I d] h R:=by
 apply v5
 refine uf_ ?_
 have hn:=eO ok
 have hk:=CK ok
 have K0:=Kn.nil h
 (with_reducible apply Kn.al);(assumption);(intro b4 h1 K1 l1 hb4)
 (with_reducible apply Kn.al);(assumption);(intro b6 h2 K2 l2 hb6)
 have f4:=K2.at (.tail _ (.head _))
 have f6:=K2.at (.head _)
 have hs2:=hs.mono K2.le
 (refine kr_ ?_)
 refine um hs2 ok (f:=fun _ c=>σ.ends c) (fun s i hs' hi h' l R kk=>DS (hs2.mono l) (l _ _ f4) (aC.at_lt hs' hi) kk) fun t0 h3 l3 ht0'=>⟨_,rfl,?_⟩
 have ht0:cY h3 t0 (2^σ.n) (σ.ahead 0):=ht0'.mono (sub_le _ _)
 (with_reducible apply Kn.al);(exact Kn.nil h3);(intro b13 h4 K4 l4 hb13)
 refine av d (fun i vs h'=> ∃(out:Sl) (ts:List Sl) (X:List (Nat×Blk)) (g:Hp),vs= [I d, .pointer (some ⟨b4,0,none⟩), .pointer (some ⟨b6,0,none⟩),out.v,I d,I i]/\h2.le g/\cE X out 1 (ts.map Sl.v)/\
  ts.length=i+1/\Kn g h' X/\ ∀(j:Nat) (t:Sl),ts[j]?=some t->cY g t (2^σ.n) (σ.ahead j))
  ⟨arr b13 1, [t0],_,h3,rfl,l3,⟨rfl,Nat.le_refl _, .inr ⟨b13,rfl,rfl⟩⟩,rfl,K4,fun j t hj=>?_⟩ ?_
 ·cases j with
  |zero=>simp at hj;subst hj;exact ht0
  |succ j=>simp at hj
 clear K4 l4 hb13 h4 ht0 ht0' l3 h3 t0 b13
 rintro i _ h3 nxt hi ⟨out,ts,X,g,rfl,lg,oX,htl,K,hT⟩ hnx
 have hon:=oX.1
 rw [List.length_map,Nat.mul_one]at hon
 refine⟨_,b4,0,b6,0,out,_,_,rfl,?_⟩
 have f4g:=lg _ _ f4
 have f6g:=lg _ _ f6
 have hsg:=hs2.mono lg
 by_cases hlt:i<d
 ·refine aJ (by rw [decide_eq_true_eq];exact_mod_cast hlt) ?_
  obtain⟨t,hti⟩: ∃t,ts[i]?=some t:=⟨_,List.getElem?_eq_getElem (by omega)⟩
  have hTi:=hT i t hti
  have hW:W ((out.n:Int)-1)=(i:Nat):=by rw [bV (by omega) (by omega)];omega
  refine ap (fun J=> ∀bc h4 w,h3.le h4->h4 bc=some (.inl ⟨[.func (.func cz) #[] w],1,false⟩)->D8 h4 cz #[] w (2^(σ.n+σ.k)) (σ.leads (σ.ahead i))->J bc 0 h4)
   (fun bc h4 w l34 fc hA=>?_) (fun J hJ=>?_)
  ·have K4:=K.mono l34
   have hs4:=hsg.mono K4.le
   have f44:=K4.le _ _ f4g
   (refine kr_ ?_)
   refine um hs4 ok (f:=fun _ c=>σ.hold c&&σ.leads (σ.ahead i) c) (fun s j hs' hj h' l R kk=>EG (hs4.mono l) (l _ _ f44) (l _ _ fc)
    (fun c hc h'' l' R' kk'=>hA c hc h'' (Hp.le_trans l l') R' kk') (aC.at_lt hs' hj) kk) fun t' h5 l5 ht'=>⟨_,rfl,?_⟩
   refine aj fun b64 h6 hb64 l6 f64=>?_
   have K6:=K4.mono (Hp.le_trans l5 l6)
   have hnew:cY (h6.wo (X.map Prod.fst)) t' (2^σ.n) (σ.ahead (i+1)):=ht'.mono (Hp.le_trans (ql h4 l6) (Cv K4))
   have lB:=K6.leBase
   have KB:=K6.base
   generalize h6.wo (X.map Prod.fst)=g6 at*
   rw [show X=X++ []from(List.append_nil _).symm]at KB
   refine Kn.grow KB oX (by omega) (by omega) (by omega) ⟨b64,0,rfl,ay f64⟩ rfl rfl fun out' X' h7 hn' oX' K7 l7=>?_
   rw [aA (by omega)]
   rw [List.append_nil]at K7
   refine hnx hlt _ _ ⟨out',ts++ [t'],X',g6,rfl,Hp.le_trans lg lB,by rw [List.map_append];exact oX',by simp [htl],K7,fun j u hj=>?_⟩
   by_cases e:j<ts.length
   ·rw [List.getElem?_append_left e]at hj
    exact(hT j u hj).mono lB
   ·have h1:=get_lt hj
    simp at h1
    rw [List.getElem?_append_right (by omega),show j-ts.length=0 by omega]at hj
    simp at hj;subst hj
    rw [show j=i+1 by omega];exact hnew
  ·rw [hW]
   obtain⟨bo,xo,hao,hbo,hco⟩:=oX.at (fun e he=>K.mem e he) hti
   refine⟨bo,0,hao,by omega,by omega,?_⟩
   (refine kr_ ?_)
   refine⟨t,by rw [Int.toNat_natCast];exact hco,?_⟩
   exact Xb (J:=fun bc h=>J bc 0 h) (hsg.mono K.le) ok (hTi.mono K.le) (K.le _ _ f4g) hbo hJ
 have hie:i=d:=by omega
 subst hie
 refine aD (by simp) ?_
 have hL:AO h3 out (2^σ.n) (i+1) σ.ahead:=⟨ts,htl,(oX.buf fun e he=>K.mem e he).slc_of (by omega),fun j t hj=>(hT j t hj).mono K.le⟩
 have lG:=Hp.le_trans lg K.le
 clear hT K hsg f6g f4g oX hnx hlt hi lg htl hon X g ts
 have f4G:=lG _ _ f4
 have hsG:=hs2.mono lG
 (with_reducible apply Kn.al);(exact Kn.nil h3);(intro b73 h4 K4 l4 hb73)
 (refine kr_ ?_)
 refine oR (i+1) (fun m vs h'=> ∃(g:Hp) (pre:List (Nat×Nat)) (fid:FuncId) (u w:Array Value) (fits:Nat->Bool) (sS sI:Sl) (XS XI:List (Nat×Blk)),
  vs= [.pointer (some ⟨b4,0,none⟩), .pointer (some ⟨b6,0,none⟩),out.v, .pointer (some ⟨b73,0,none⟩), .func (.func fid) u w,I ((m:Int)-1)]/\h3.le g/\Kn g h' ((b73, .inl ⟨[sS.v,sI.v],2,false⟩)::(XS++(XI++ [])))/\
  cE XS sS 1 ((VL (pre.map Prod.fst)).map I)/\cE XI sI 1 ((VL (pre.map Prod.snd)).map I)/\pre.length+m=i+1/\D8 g fid u w (2^σ.n) fits/\(m=0->pre=σ.wit i σ.begins)/\
  ∀k',m=k'+1->pre++σ.wit k' fits=σ.wit i σ.begins/\ ∃s,s<2^σ.n/\(fits s&&σ.ahead k' s)=true)
  ⟨h3, [],ku, #[.pointer (some ⟨b,0,none⟩)], #[],σ.begins,⟨none,0,0⟩,⟨none,0,0⟩, [], [],by rw [show (((i+1:Nat):Int)-1)=i by omega],Hp.le_refl _,K4,cD 1,cD 1,by simp,fun c hc h' l R' kk=>wE (hsG.mono l) ok hc kk,
   fun e=>by omega,fun k' e=>by obtain rfl:k'=i:=by omega
                                exact⟨rfl,hw⟩⟩ ?_
 clear K4 l4 hb73 h4
 rintro m _ h4 nxt ⟨g,pre,fid,u,w,fits,sS,sI,XS,XI,rfl,lg,K,oS,oI,hpl,hA,hz,hsc⟩ hnx
 refine⟨b4,0,b6,0,out,b73,0,fid,u,w,_,rfl,?_⟩
 have f4g:=lg _ _ f4G
 have hsg:=hsG.mono lg
 have hpl1:=oS.1
 have hpl2:=oI.1
 simp only [List.length_map,bz,Nat.mul_one]at hpl1 hpl2
 cases m with
 |zero=>
  refine aD (by rw [decide_eq_false_iff_not];omega) ?_
  (refine kr_ ?_)
  (refine kr_ ?_)
  have K2':=K2.mono (Hp.le_trans lG (Hp.le_trans lg K.le))
  (with_reducible apply Kn.wr);(exact K2');((focus ((repeat first|exact .head|apply Upd.tail);done)))
  ·exact Nat.le_refl _
  intro h5 K5 kp
  refine⟨sS,by rw [aq (K5.at (.head _))];rfl,sI,by rw [aq (K5.at (.head _))];rfl,?_⟩
  refine k sS sI h5 ?_
  rw [<-hz rfl]
  exact YG (Hp.le_trans K2.le (Hp.le_trans lG lg)) (by rw [lg _ _ (lG _ _ f6)];simp) oS oI (by omega) (by omega) K K5.le kp
 |succ k=>
 rename_i kf
 obtain⟨hwit,hex⟩:=hsc k rfl
 have hki:k<=i:=by omega
 have hk1:(((k+1:Nat):Int)-1)=k:=by omega
 rw [hk1]
 refine aJ (by rw [decide_eq_true_eq];omega) ?_
 obtain⟨hs0,hfit,hno⟩:=aC.leastB_at hex
 rw [show aC.leastB (2^σ.n) (fun s=>fits s&&σ.ahead k s)=kP σ k fits from rfl]at hs0 hfit hno
 obtain⟨hx0,hon,hnx0⟩:=aC.leastB_at (aC.ahead_on.1 (by simp only [Bool.and_eq_true]at hfit;exact hfit.2))
 rw [show aC.leastB (2^σ.k) (fun x=>σ.onB k (σ.at_ (kP σ k fits) x))=wm σ k (kP σ k fits)from rfl]at hx0 hon hnx0
 have hwk: ∀Z,(∀k',k=k'+1->Z=σ.wit k' (σ.goes (σ.at_ (kP σ k fits) (wm σ k (kP σ k fits)))))->(k=0->Z= [])->σ.wit k fits=(kP σ k fits,wm σ k (kP σ k fits))::Z:=by
  intro Z h1 h2
  cases k with
  |zero=>rw [h2 rfl];rfl
  |succ k'=>rw [h1 k' rfl];rfl
 generalize kP σ k fits=s0 at*
 generalize wm σ k s0=x0 at*
 refine av s0 (fun j vs h'=>vs= [.pointer (some ⟨b4,0,none⟩), .pointer (some ⟨b6,0,none⟩),out.v, .pointer (some ⟨b73,0,none⟩), .func (.func fid) u w,I k,I j]/\h4=h') ⟨rfl,rfl⟩ ?_
 rintro j _ _ nxt2 hj ⟨rfl,rfl⟩ hnx2
 refine⟨b4,0,b6,0,out,b73,0,fid,u,w,_,_,rfl,?_⟩
 refine ap (fun J=>J (!(fits j&&σ.ahead k j)) h4) ?_ (fun J hJ=>?_)
 rotate_left
 ·refine hA j (by omega) h4 K.le _ ⟨_,rfl,?_⟩
  refine ac (fun e=>?_) (fun e=>?_)
  ·rw [show fits j=false by simpa using e]at hJ;exact hJ
  ·rw [show fits j=true by simpa using e,Bool.true_and]at hJ
   obtain⟨bl,ol,r,ha,h3',h4',hr⟩:=hL.get (show k<i+1 by omega)
   have l34:=Hp.le_trans lg K.le
   refine⟨bl,ol,ha,by omega,by omega,r,l34.cell h4',?_⟩
   obtain⟨br,or,har,hr1,hr2⟩:=(hr.mono l34).get (show j<2^σ.n by omega)
   exact⟨br,or,har,by omega,hr1,_,hr2,hJ⟩
 by_cases hlt:j<s0
 ·refine aJ (by rw [hno j hlt];rfl) ?_
  rw [aA (by omega)]
  exact hnx2 hlt _ _ ⟨rfl,rfl⟩
 obtain rfl:j=s0:=by omega
 refine aD (by rw [hfit];rfl) ?_
 (refine kr_ ?_)
 clear hnx2 hlt hno hj
 refine ap (fun J=> ∀fid u w h5,h4.le h5->D8 h5 fid u w (2^(σ.n+σ.k)) (σ.onB k)->J fid u w h5) (fun fid2 u2 w2 h5 l45 hA2=>?_) (fun J hJ=>?_)
 rotate_left
 ·have hs4:=hsg.mono K.le
  cases k with
  |zero=>exact aD rfl (hJ _ _ _ h4 (Hp.le_refl _) fun c hc h'' l' R' kk=>yl (hs4.mono l') hc kk)
  |succ k'=>
   refine aJ (by rw [decide_eq_true_eq];omega) ?_
   obtain⟨bl,ol,r,ha,h3',h4',hr⟩:=hL.get (show k'<i+1 by omega)
   have hW:W (((k'+1:Nat):Int)-1)=(k':Nat):=by rw [bV (by omega) (by omega)];omega
   rw [hW]
   refine⟨bl,ol,ha,by omega,by omega,?_⟩
   (refine kr_ ?_)
   have l34:=Hp.le_trans lg K.le
   have hc4:=l34.cell h4'
   refine⟨r,hc4,?_⟩
   obtain⟨xl,hxl⟩: ∃xl,h4 bl=some xl:=by
    unfold Hp.cell at hc4
    split at hc4
    ·rename_i x hx;exact⟨_,hx⟩
    ·cases hc4
   refine Xb (J:=fun bc h=>J sU #[] #[.pointer (some ⟨b4,0,none⟩), .pointer (some ⟨bc,0,none⟩)] h) hs4 ok (hr.mono l34) (K.le _ _ f4g) hxl fun bc h5 w l45 fc hA2=>?_
   exact hJ _ _ _ h5 l45 fun c hc h'' l' R' kk=>Ez ((hs4.mono l45).mono l') (l' _ _ (l45 _ _ (K.le _ _ f4g))) (l' _ _ fc) (fun c hc h3 l3 R3 k3=>hA2 c hc h3 (Hp.le_trans l' l3) R3 k3) hc kk
 have KA:=K.mono l45
 clear K hA
 have hs5:=hsg.mono KA.le
 refine av x0 (fun i vs h'=>vs= [.pointer (some ⟨b4,0,none⟩), .pointer (some ⟨b6,0,none⟩),out.v, .pointer (some ⟨b73,0,none⟩),I k,I j, .func (.func fid2) u2 w2,I i]/\h5=h') ⟨rfl,rfl⟩ ?_
 rintro x _ _ nxt3 hx ⟨rfl,rfl⟩ hnx3
 refine⟨b4,0,b6,0,out,b73,0,_,_,fid2,u2,w2,_,rfl,?_⟩
 have hat:=aC.at_lt hs0 (show x<2^σ.k by omega)
 (refine kr_ ?_)
 refine EW hs5 ok hs0 (by omega) ⟨_,rfl,?_⟩
 refine hA2 _ hat h5 (Hp.le_refl _) _ ⟨_,rfl,?_⟩
 by_cases hlt:x<x0
 ·refine aJ (by rw [hnx0 x hlt];rfl) ?_
  rw [aA (by omega)]
  exact hnx3 hlt _ _ ⟨rfl,rfl⟩
 obtain rfl:x=x0:=by omega
 refine aD (by rw [hon];rfl) ?_
 clear hnx3 hlt hnx0 hx
 (refine kr_ ?_)
 refine Kn.al KA fun b194 h6 K6 l6 hb194=>?_
 have f194:=K6.at (.head _)
 refine Kn.growIn (A:= [_,_]) K6 oS (by omega) (by omega) (by omega) ⟨b194,0,rfl,ay f194⟩ rfl rfl fun sS' XS' h7 hnS oS' K7 l7=>?_
 simp only [List.cons_append,List.nil_append]at K7
 clear K6 l6 hb194 f194 KA
 (((with_reducible apply Kn.wr);(assumption);((focus ((repeat first|exact .head|apply Upd.tail);done)))))
 ·simp
 intro h8 K8 _
 simp only [bP,List.set_cons_zero,List.set_cons_succ,Nat.zero_add,Nat.reduceAdd]at K8
 clear K7 l7
 (refine kr_ ?_)
 refine Kn.al K8 fun b205 h9 K9 l9 hb205=>?_
 have f205:=K9.at (.head _)
 refine Kn.growIn2 (A:= [_,_,_]) K9 oI (by omega) (by omega) (by omega) ⟨b205,0,rfl,ay f205⟩ rfl rfl fun sI' XI' h10 hnI oI' K10 l10=>?_
 simp only [List.cons_append,List.nil_append]at K10
 clear K9 l9 hb205 f205 K8
 (((with_reducible apply Kn.wr);(assumption);((focus ((repeat first|exact .head|apply Upd.tail);done)))))
 ·simp
 intro h11 K11 _
 simp only [bP,List.set_cons_zero,List.set_cons_succ,Nat.zero_add,Nat.reduceAdd]at K11
 clear K10 l10
 (refine kr_ ?_)
 refine EW (hsg.mono K11.le) ok hs0 hx0 ⟨_,rfl,?_⟩
 refine Kn.al K11 fun b219 h12 K12 l12 hb219=>?_
 (((with_reducible apply Kn.wr);(assumption);((focus ((repeat first|exact .head|apply Upd.tail);done)))))
 ·exact Nat.le_refl _
 intro h13 K13 _
 clear K12 l12 hb219 K11
 have nd:=K13.nd
 have KS:Kn g h13 ([(b219, .inl ⟨[I (σ.at_ j x:Nat)],1,false⟩)]++((b73, .inl ⟨[sS'.v,sI'.v],2,false⟩)::(XS'++(XI'++ [])))):=by
  refine K13.sub (fun e he=>?_) ?_
  ·rcases List.mem_append.1 he with he|he
   ·rw [List.mem_singleton.1 he];exact .head _
   ·exact .tail _ (.tail _ (.tail _ he))
  ·simp only [List.map_cons,List.nodup_cons,List.mem_cons,not_or,List.cons_append,List.nil_append]at nd⊢
   exact⟨⟨nd.1.2.2.1,nd.1.2.2.2⟩,nd.2.2.2⟩
 obtain⟨KM,KF⟩:=Kn.split KS
 generalize h13.wo (List.map Prod.fst ((b73,Sum.inl ⟨[sS'.v,sI'.v],2,false⟩)::(XS'++(XI'++ [])):List (Nat×Blk)))=g' at*
 rw [bV (by omega) (by omega)]
 refine hnx k (by omega) _ _ ⟨g',pre++ [(j,x)],_,_,_,σ.goes (σ.at_ j x),sS',sI',XS',XI',rfl,Hp.le_trans lg KF.le,KM,by simpa [VL] using oS',by simpa [VL] using oI',by simp;omega,
  fun c hc h'' l' R' kk=>EK ((hsg.mono KF.le).mono l') ok (l' _ _ (KF.le _ _ f4g)) (l' _ _ (KF.at (.head _))) (aC.at_lt hs0 hx0) hc kk,fun e=>?_,fun k' e=>⟨?_,?_⟩⟩
 ·rw [<-hwit,hwk [] (fun k' e'=>by omega) fun _=>rfl]
 ·rw [<-hwit,hwk _ (fun k'' e'=>by obtain rfl:k''=k':=by omega
                                   rfl) fun e'=>by omega,List.append_assoc];rfl
 ·subst e
  exact aC.onB_next hon
theorem I1 {σ:aC} {fm:Nat} (hfm:fm+σ.fixed=2^σ.n-1):(eu fm).length<=2^σ.n:=by
 have:=Nat.two_pow_pos σ.n
 have h1:(eu fm).length<=fm+1:=by unfold eu;have:=List.length_filter_le (fun c=>decide (c&&&fm=c)) (List.range (fm+1));simpa using this
 omega
theorem UQ {σ:aC} {fm c i:Nat} (ok:σ.Ok) (hfm:fm+σ.fixed=2^σ.n-1) (hc:c<2^(σ.n+σ.k)):σ.onB (i+1) c=true↔σ.hold c=true/\ ∃f,f∈eu fm/\σ.ahead i (σ.next c+f)=true:=by
 simp only [aC.onB,Bool.and_eq_true,aC.leads,cy]
 refine and_congr_right fun _=>?_
 constructor
 ·rintro ⟨t,ht,h1,h2⟩
  obtain⟨f,hf,rfl⟩:=(mM ok hfm hc ht).1 h2
  exact⟨f,hf,h1⟩
 ·rintro ⟨f,hf,h1⟩
  have hl:=A2 ok hfm hc hf
  exact⟨_,hl,h1,(mM ok hfm hc hl).2 ⟨f,hf,rfl⟩⟩
set_option maxHeartbeats 1000000 in
theorem FT {h:Hp} {q:Bb} {σ:aC} {d:Nat} {R:Value->Hp->Prop} (hq:z7 h q σ) (ok:σ.Ok) (hd:d<=256)
  (k: ∀s h',h.le h'->AO h' s (2^σ.n) (d+1) σ.ahead->R (Sl.v s) h'):pb #[DJ σ q,I d] h R:=by
 apply B5
 refine uf_ ?_
 have hn:=eO ok
 have hp:=pK ok
 have hpos:=Nat.two_pow_pos σ.n
 obtain⟨hh,hen,hx,⟨fm,hfm,hfl⟩,_⟩:=id hq
 have hhl:=hh.len
 have hel:=hen.len
 have hxl:=IntS.len hx
 rw [bz,List.length_map,List.length_range]at hxl
 have hfll:=IntS.len hfl
 rw [bz]at hfll
 have hfb:=I1 hfm
 have K0:=Kn.nil h
 (with_reducible apply Kn.al);(assumption);(intro b10 h1 K1 l1 hb10)
 have f10:=K1.at (.head _)
 have lh1:=K1.le
 clear K0 K1 hb10 l1
 refine av (d+1) (fun i vs h'=> ∃(out:Sl) (ts:List Sl) (X:List (Nat×Blk)) (g:Hp),vs= [I d, .pointer (some ⟨b10,0,none⟩),out.v,I i]/\h1.le g/\cE X out 1 (ts.map Sl.v)/\
  ts.length=i/\Kn g h' X/\ ∀(j:Nat) (t:Sl),ts[j]?=some t->cY g t (2^σ.n) (σ.ahead j))
  ⟨⟨none,0,0⟩, [], [],h1,rfl,Hp.le_refl _,cD 1,rfl,Kn.nil h1,fun j t hj=>by simp at hj⟩ ?_
 rintro i _ h2 nxt hi ⟨out,ts,X,g,rfl,lg,oX,htl,K,hT⟩ hnx
 have hon:=oX.1
 rw [List.length_map,Nat.mul_one]at hon
 refine⟨_,b10,0,out,_,rfl,?_⟩
 have l12:=Hp.le_trans lg K.le
 by_cases hlt:i<d+1
 rotate_left
 ·refine aD (by rw [decide_eq_false_iff_not];omega) ?_
  exact k out h2 (Hp.le_trans lh1 l12) ⟨ts,by omega,(oX.buf fun e he=>K.mem e he).slc_of (by omega),fun j t hj=>(hT j t hj).mono K.le⟩
 refine aJ (by rw [decide_eq_true_eq];omega) ?_
 have f10g:=lg _ _ f10
 (refine kr_ ?_)
 refine⟨Int.natCast_nonneg _,Int.le_refl _,by omega,by omega,?_⟩
 (with_reducible apply Kn.al);(exact Kn.nil h2);(intro b28 h3 K3 l3 hb28)
 rw [Int.toNat_natCast,Nat.mul_one,cj,kb]at K3
 rw [Int.toNat_natCast]
 have f102:=l12 _ _ f10
 have hq2:=hq.mono (Hp.le_trans lh1 l12)
 obtain⟨hh2,hen2,hx2,_,_⟩:=id hq2
 have hfl2:=hfl.mono (Hp.le_trans lh1 l12)
 refine av (2^(σ.n+σ.k)) (fun c vs h'=>vs= [I d, .pointer (some ⟨b10,0,none⟩),out.v,I i,(arr b28 (2^σ.n)).v,I c]/\
  ∃T,Kn h2 h' [(b28, .inl ⟨tb (2^σ.n) T,2^σ.n,false⟩)]/\ ∀x,T x=true↔ ∃c',c'<c/\c'%2^σ.n=x/\σ.onB i c'=true)
  ⟨rfl,_,K3,fun x=>⟨fun e=>by simp at e,fun⟨c',e,_⟩=>by omega⟩⟩ ?_
 clear K3 l3 hb28 h3
 rintro c _ h3 nxt2 hc ⟨rfl,T,K3,hT3⟩ hnx2
 refine⟨_,b10,0,out,_,arr b28 _,_,rfl,?_⟩
 (refine kr_ ?_)
 by_cases hltc:c<2^(σ.n+σ.k)
 rotate_left
 ·refine aD (by rw [decide_eq_false_iff_not];omega) ?_
  refine aj fun b111 h4 hb111 l4 f111=>?_
  have K4:=K3.mono l4
  have KX:=K.mono K4.le
  have hnew:cY h4 (arr b28 (2^σ.n)) (2^σ.n) (σ.ahead i):=jV (by omega) (K4.at (.head _)) fun s hs=>by
   rw [Bool.eq_iff_iff,hT3,aC.ahead_on]
   constructor
   ·rintro ⟨c',h1,h2,h3⟩
    have hc':c'<2^(σ.n+σ.k):=by omega
    obtain⟨a1,a2,a3⟩:=aC.at_of hc'
    exact⟨_,a2,by rw [<-h2,a3];exact h3⟩
   ·rintro ⟨x,hx,h3⟩
    have:=aC.at_lt hs hx
    exact⟨_,by omega,aC.at_mod hs,h3⟩
  have hnew2:cY (h4.wo (X.map Prod.fst)) (arr b28 (2^σ.n)) (2^σ.n) (σ.ahead i):=by
   have h5:cY (h4.sub h2) (arr b28 (2^σ.n)) (2^σ.n) T:=jV (by omega) (by rw [lv (K4.new _ (.head _))];exact K4.at (.head _)) fun j _=>rfl
   exact Rt (h5.mono (Cv K)) fun j hj=>by
    rw [Bool.eq_iff_iff,hT3,aC.ahead_on]
    constructor
    ·rintro ⟨c',h1,h2,h3⟩
     have hc':c'<2^(σ.n+σ.k):=by omega
     obtain⟨a1,a2,a3⟩:=aC.at_of hc'
     exact⟨_,a2,by rw [<-h2,a3];exact h3⟩
    ·rintro ⟨x,hx,h3⟩
     have:=aC.at_lt hj hx
     exact⟨_,by omega,aC.at_mod hj,h3⟩
  have lB:=KX.leBase
  have KB:=KX.base
  clear hnew
  generalize h4.wo (X.map Prod.fst)=g6 at*
  rw [show X=X++ []from(List.append_nil _).symm]at KB
  refine Kn.grow KB oX (by omega) (by omega) (by omega) ⟨b111,0,rfl,ay f111⟩ rfl rfl fun out' X' h7 hn' oX' K7 l7=>?_
  rw [aA (by omega)]
  rw [List.append_nil]at K7
  refine hnx hlt _ _ ⟨out',ts++ [arr b28 (2^σ.n)],X',g6,rfl,Hp.le_trans lg lB,by rw [List.map_append];exact oX',by simp [htl],K7,fun j u hj=>?_⟩
  by_cases e:j<ts.length
  ·rw [List.getElem?_append_left e]at hj
   exact(hT j u hj).mono lB
  ·have h1:=get_lt hj
   simp at h1
   rw [List.getElem?_append_right (by omega),show j-ts.length=0 by omega]at hj
   simp at hj;subst hj
   rw [show j=i by omega];exact hnew2
 refine aJ (by rw [decide_eq_true_eq];omega) ?_
 have hmod:=Nat.mod_lt c hpos
 refine ap (fun J=>J (decide (i=0)&&σ.ends c)) ?_ (fun J hJ=>?_)
 rotate_left
 ·refine ac (fun e=>?_) (fun e=>?_)
  ·have e0:i=0:=by have:=beq_iff_eq.1 e;omega
   (refine kr_ ?_)
   obtain⟨b,o,ha,e1,e2⟩:=(hen2.mono K3.le).get hltc
   refine⟨b,o,ha,by omega,e1,_,e2,?_⟩
   rw [decide_eq_true e0,Bool.true_and]at hJ;exact hJ
  ·have e0: ¬i=0:=fun q=>by rw [q]at e;simp at e
   rw [decide_eq_false e0,Bool.false_and]at hJ;exact hJ
 refine ap (fun J=> ∀h4 U,Kn h2 h4 [(b28, .inl ⟨tb (2^σ.n) U,2^σ.n,false⟩)]->(∀x,U x=true↔T x=true\/(x=c%2^σ.n/\i=0/\σ.ends c=true))->J h4) (fun h4 U K4 hU=>?_) (fun J hJ=>?_)
 rotate_left
 ·refine ac (fun e=>?_) (fun e=>?_)
  ·rw [Bool.and_eq_true,decide_eq_true_eq]at e
   (refine kr_ ?_)
   rw [if_neg (by omega),eV]
   refine⟨b28,0,rfl,by omega,by dsimp only;omega,?_⟩
   (((with_reducible apply Kn.wr);(assumption);((focus ((repeat first|exact .head|apply Upd.tail);done)))))
   ·rw [gw];omega
   intro h4 K4 _
   rw [bP,Nat.zero_add,Int.toNat_natCast,Nat.mul_one,ln]at K4
   refine hJ h4 _ K4 fun x=>?_
   by_cases ex:x=c%2^σ.n
   ·rw [if_pos ex];exact⟨fun _=> .inr ⟨ex,e⟩,fun _=>rfl⟩
   ·rw [if_neg ex];exact⟨.inl,fun q=>q.resolve_right fun q2=>ex q2.1⟩
  ·refine hJ h3 T K3 fun x=>⟨.inl,fun q=>q.resolve_right fun⟨_,q2,q3⟩=>?_⟩
   rw [decide_eq_true q2,q3]at e;cases e
 clear K3
 refine av (eu fm).length (fun j vs h'=>vs= [I d, .pointer (some ⟨b10,0,none⟩),out.v,I i,(arr b28 (2^σ.n)).v,I c,I j]/\
  ∃V,Kn h2 h' [(b28, .inl ⟨tb (2^σ.n) V,2^σ.n,false⟩)]/\ ∀x,V x=true↔U x=true\/(x=c%2^σ.n/\ ∃i',i=i'+1/\σ.hold c=true/\ ∃f,f∈(eu fm).take j/\σ.ahead i' (σ.next c+f)=true))
  ⟨rfl,U,K4,fun x=>⟨.inl,fun q=>q.resolve_right fun⟨_,_,_,_,f,hf,_⟩=>by simp at hf⟩⟩ ?_
 clear K4 h3 h4
 rintro j _ h3 nxt3 hj ⟨rfl,V,K3,hV⟩ hnx3
 refine⟨_,b10,0,out,_,arr b28 _,_,_,rfl,?_⟩
 have fin:(i=0\/σ.hold c=false\/j=(eu fm).length)->nxt2 [I d, .pointer (some ⟨b10,0,none⟩),out.v,I i,(arr b28 (2^σ.n)).v,I (W ((c:Int)+1))] h3:=fun hend=>by
  rw [aA (by omega)]
  refine hnx2 hltc _ _ ⟨rfl,V,K3,fun x=>?_⟩
  have hcc:σ.onB i c=true↔(i=0/\σ.ends c=true)\/ ∃i',i=i'+1/\σ.hold c=true/\ ∃f,f∈(eu fm).take j/\σ.ahead i' (σ.next c+f)=true:=by
   cases i with
   |zero=>
    refine⟨fun q=> .inl ⟨rfl,q⟩,fun q=>?_⟩
    rcases q with q|⟨i',q,_⟩
    ·exact q.2
    ·omega
   |succ i'=>
    rw [UQ ok hfm hltc]
    constructor
    ·rintro ⟨q1,q2⟩
     rcases hend with q|q|q
     ·omega
     ·rw [q1]at q;cases q
     ·exact .inr ⟨i',rfl,q1,by rw [q,List.take_of_length_le (Nat.le_refl _)];exact q2⟩
    ·rintro (q|⟨i'',q,q1,f,q2,q3⟩)
     ·omega
     ·obtain rfl:i''=i':=by omega
      exact⟨q1,f,List.mem_of_mem_take q2,q3⟩
  rw [hV,hU,hT3]
  constructor
  ·rintro ((⟨c',q1,q⟩|⟨q1,q2⟩)|⟨q1,q2⟩)
   ·exact⟨c',by omega,q⟩
   ·exact⟨c,by omega,q1.symm,hcc.2 (.inl q2)⟩
   ·exact⟨c,by omega,q1.symm,hcc.2 (.inr q2)⟩
  ·rintro ⟨c',q1,q2,q3⟩
   by_cases e2:c'=c
   ·subst e2
    rcases hcc.1 q3 with q|q
    ·exact .inl (.inr ⟨q2.symm,q⟩)
    ·exact .inr ⟨q2.symm,q⟩
   ·exact .inl (.inl ⟨c',by omega,q2,q3⟩)
 have go: ∀c80,(c80=true-> ∃i',i=i'+1/\σ.hold c=true/\j<(eu fm).length)->(c80=false->(i=0\/σ.hold c=false\/j=(eu fm).length))->c80=(decide (j<(eu fm).length)&&(decide (0<i)&&σ.hold c))->True:=fun _ _ _ _=>trivial
 clear go
 refine ap (fun J=>J (decide (j<(eu fm).length)&&(decide (0<i)&&σ.hold c))) ?_ (fun J hJ=>?_)
 rotate_left
 ·(refine kr_ ?_)
  refine ac (fun e=>?_) (fun e=>?_)
  ·rw [show decide (j<(eu fm).length)=true by rw [decide_eq_true_eq]at e⊢;omega,Bool.true_and]at hJ
   refine ac (fun e2=>?_) (fun e2=>?_)
   ·rw [show decide (0<i)=true by rw [decide_eq_true_eq]at e2⊢;omega,Bool.true_and]at hJ
    (refine kr_ ?_)
    obtain⟨b,o,ha,e1,e2⟩:=(hh2.mono K3.le).get hltc
    exact⟨b,o,ha,by omega,e1,_,e2,hJ⟩
   ·rw [show decide (0<i)=false by rw [decide_eq_false_iff_not]at e2⊢;omega,Bool.false_and]at hJ;exact hJ
  ·rw [show decide (j<(eu fm).length)=false by rw [decide_eq_false_iff_not]at e⊢;omega,Bool.false_and]at hJ;exact hJ
 refine ac (fun e=>?_) (fun e=>?_)
 rotate_left
 ·refine fin ?_
  by_cases q0:i=0
  ·exact .inl q0
  ·rw [show decide (0<i)=true by rw [decide_eq_true_eq];omega,Bool.true_and]at e
   cases hhc:σ.hold c with
   |false=>exact .inr (.inl rfl)
   |true=>
    rw [hhc,Bool.and_true,decide_eq_false_iff_not]at e
    exact .inr (.inr (by omega))
 simp only [Bool.and_eq_true,decide_eq_true_eq]at e
 obtain⟨hlj,hi0,eH⟩:=e
 clear fin
 obtain⟨i',rfl⟩: ∃i',i=i'+1:=⟨i-1,by omega⟩
 have hW:W (((i'+1:Nat):Int)-1)=(i':Nat):=by rw [bV (by omega) (by omega)];omega
 rw [hW]
 obtain⟨t,hti⟩: ∃t,ts[i']?=some t:=⟨_,List.getElem?_eq_getElem (by omega)⟩
 obtain⟨bo,xo,hao,hbo,hco⟩:=oX.at (fun e he=>K.mem e he) hti
 refine⟨bo,0,hao,by omega,by omega,t,by rw [Int.toNat_natCast];exact K3.le.cell hco,?_⟩
 (refine kr_ ?_)
 obtain⟨b,o,ha,e1,e2⟩:=BG.get (hx2.mono K3.le) hltc
 refine⟨b,o,ha,by omega,e1,_,e2,?_⟩
 (refine kr_ ?_)
 obtain⟨f,hf⟩: ∃f,(eu fm)[j]?=some f:=⟨_,List.getElem?_eq_getElem hlj⟩
 obtain⟨b,o,ha,e3⟩:=(hfl2.mono K3.le).get (gp hf)
 refine⟨b,o,ha,by omega,by omega,_,e3,?_⟩
 have hlf:=A2 ok hfm hltc (List.mem_of_getElem? hf)
 rw [<-Int.natCast_add,et (by omega)]
 obtain⟨b,o,ha,e4,e5⟩:=(((hT i' t hti).mono K.le).mono K3.le).get hlf
 refine⟨b,o,ha,by omega,e4,_,e5,?_⟩
 have next: ∀V' h4,Kn h2 h4 [(b28, .inl ⟨tb (2^σ.n) V',2^σ.n,false⟩)]->(∀x,V' x=true↔V x=true\/(x=c%2^σ.n/\σ.ahead i' (σ.next c+f)=true))->
   nxt3 [I d, .pointer (some ⟨b10,0,none⟩),out.v,I (i'+1:Nat),(arr b28 (2^σ.n)).v,I c,I (W ((j:Int)+1))] h4:=fun V' h4 K4 hV'=>by
  rw [aA (by omega)]
  refine hnx3 hlj _ _ ⟨rfl,V',K4,fun x=>?_⟩
  rw [hV',hV,List.take_add_one,hf]
  constructor
  ·rintro ((q|⟨q1,i'',q2,q3,f',q4,q5⟩)|⟨q1,q2⟩)
   ·exact .inl q
   ·exact .inr ⟨q1,i'',q2,q3,f',List.mem_append_left _ q4,q5⟩
   ·exact .inr ⟨q1,i',rfl,eH,f,by simp,q2⟩
  ·rintro (q|⟨q1,i'',q2,q3,f',q4,q5⟩)
   ·exact .inl (.inl q)
   ·rcases List.mem_append.1 q4 with q4|q4
    ·exact .inl (.inr ⟨q1,i'',q2,q3,f',q4,q5⟩)
    ·simp at q4;subst q4
     obtain rfl:i''=i':=by omega
     exact .inr ⟨q1,q5⟩
 refine ac (fun e=>?_) (fun e=>?_)
 ·(refine kr_ ?_)
  rw [if_neg (by omega),eV]
  refine⟨b28,0,rfl,by omega,by dsimp only;omega,?_⟩
  (((with_reducible apply Kn.wr);(assumption);((focus ((repeat first|exact .head|apply Upd.tail);done)))))
  ·rw [gw];omega
  intro h4 K4 _
  rw [bP,Nat.zero_add,Int.toNat_natCast,Nat.mul_one,ln]at K4
  refine next _ h4 K4 fun x=>?_
  by_cases ex:x=c%2^σ.n
  ·rw [if_pos ex];exact⟨fun _=> .inr ⟨ex,e⟩,fun _=>rfl⟩
  ·rw [if_neg ex];exact⟨.inl,fun q=>q.resolve_right fun q2=>ex q2.1⟩
 ·exact next V h3 K3 fun x=>⟨.inl,fun q=>q.resolve_right fun q2=>by rw [q2.2]at e;cases e⟩
theorem EJ {h:Hp} {q:Bb} {σ:aC} {s x t:Nat} {R:Value->Hp->Prop} (hq:z7 h q σ) (ok:σ.Ok) (hs:s<2^σ.n) (hx':x<2^σ.k) (ht:t<2^σ.n) (k:R (.bool (σ.goes (σ.at_ s x) t)) h):
  nc #[DJ σ q,I s,I x,I t] h R:=by
 refine ACalls.drop (Ba ?_)
 refine uf_ ?_
 have hn:=eO ok
 have hk:=CK ok
 have hp:=pK ok
 obtain⟨hh,hen,hx,⟨fm,hfm,hfl⟩,_⟩:=id hq
 have hxl:=IntS.len hx
 rw [bz,List.length_map,List.length_range]at hxl
 have hfll:=IntS.len hfl
 rw [bz]at hfll
 have hfb:=I1 hfm
 have hc:=aC.at_lt hs hx'
 have K0:=Kn.nil h
 (with_reducible apply Kn.al);(assumption);(intro b12 h1 K1 l1 hb12)
 clear K0 hb12
 refine av (eu fm).length (fun j vs h'=>vs= [I s,I x,I t, .pointer (some ⟨b12,0,none⟩),I j]/\h1=h'/\ ∀f,f∈(eu fm).take j->σ.next (σ.at_ s x)+f≠t) ⟨rfl,rfl,fun f hf=>by simp at hf⟩ ?_
 rintro j _ _ nxt hj ⟨rfl,rfl,hno⟩ hnx
 refine⟨_,_,_,b12,0,_,rfl,?_⟩
 (refine kr_ ?_)
 by_cases hlj:j<(eu fm).length
 ·refine aJ (by rw [decide_eq_true_eq];omega) ?_
  (refine kr_ ?_)
  (refine kr_ ?_)
  have e8:W (W ((x:Int)*((2^σ.n:Nat):Int))+(s:Int))=((σ.at_ s x:Nat):Int):=by
   have h2:x*2^σ.n+s<8192:=by unfold aC.at_ at hc;omega
   rw [<-Int.natCast_mul,et (by omega),<-Int.natCast_add,et (by omega)];rfl
  rw [e8]
  obtain⟨b,o,ha,e1,e2⟩:=BG.get (hx.mono K1.le) hc
  refine⟨b,o,ha,by omega,e1,_,e2,?_⟩
  (refine kr_ ?_)
  obtain⟨f,hf⟩: ∃f,(eu fm)[j]?=some f:=⟨_,List.getElem?_eq_getElem hlj⟩
  obtain⟨b,o,ha,e3⟩:=(hfl.mono K1.le).get (gp hf)
  refine⟨b,o,ha,by omega,by omega,_,e3,?_⟩
  have hlf:=A2 ok hfm hc (List.mem_of_getElem? hf)
  rw [<-Int.natCast_add,et (by omega)]
  refine ac (fun e=>?_) (fun e=>?_)
  ·refine⟨h,K1.le,?_⟩
   have e':=beq_iff_eq.1 e
   rw [(mM ok hfm hc ht).2 ⟨f,List.mem_of_getElem? hf,by omega⟩]at k;exact k
  ·rw [aA (by omega)]
   refine hnx hlj _ _ ⟨rfl,rfl,fun f' hf'=>?_⟩
   rw [List.take_add_one,hf]at hf'
   rcases List.mem_append.1 hf' with h5|h5
   ·exact hno f' h5
   ·simp at h5;subst h5
    intro q
    rw [<-q]at e
    simp at e
 ·refine aD (by rw [decide_eq_false_iff_not];omega) ⟨h,K1.le,?_⟩
  rw [show σ.goes (σ.at_ s x) t=false from by
   rw [Bool.eq_false_iff]
   intro q
   obtain⟨f,hf,e⟩:=(mM ok hfm hc ht).1 q
   exact hno f (by rw [List.take_of_length_le (by omega)];exact hf) e]at k
  exact k
set_option maxHeartbeats 1000000 in
theorem OB {h:Hp} {q:Bb} {σ:aC} {w:Sl} {s l m:Nat} {R:Value->Hp->Prop} (hq:z7 h q σ) (ok:σ.Ok) (hs:s<2^σ.n) (hw:AO h w (2^σ.n) m σ.ahead) (hl:l<m) (hm:m<=1000) (ha:σ.ahead l s=true)
  (k:R (.tuple #[I (wm σ l s),I ((if l=0 then 0 else kP σ (l-1) (σ.goes (σ.at_ s (wm σ l s))):Nat):Int)]) h):ux #[DJ σ q,I s,I l,w.v] h R:=by
 refine ACalls.drop (JD ?_)
 refine uf_ ?_
 have hn:=eO ok
 have hk:=CK ok
 have hp:=pK ok
 obtain⟨hh,hen,hx,_,_⟩:=id hq
 have hhl:=hh.len
 have hel:=hen.len
 have hwl:=hw.len
 obtain⟨hx0,hon,hnx0⟩:=aC.leastB_at (aC.ahead_on.1 ha)
 rw [show aC.leastB (2^σ.k) (fun x=>σ.onB l (σ.at_ s x))=wm σ l s from rfl]at hx0 hon hnx0
 generalize wm σ l s=x0 at*
 have K0:=Kn.nil h
 (with_reducible apply Kn.al);(assumption);(intro b12 h1 K1 l1 hb12)
 clear K0 hb12
 have hq1:=hq.mono K1.le
 refine av x0 (fun x vs h'=>vs= [I s,I l,w.v, .pointer (some ⟨b12,0,none⟩),I x]/\h1=h') ⟨rfl,rfl⟩ ?_
 rintro x _ _ nxt hx' ⟨rfl,rfl⟩ hnx
 refine⟨_,_,w,b12,0,_,rfl,?_⟩
 (refine kr_ ?_)
 refine aJ (by rw [decide_eq_true_eq];omega) ?_
 have hat:=aC.at_lt hs (show x<2^σ.k by omega)
 have e8:W (W ((x:Int)*((2^σ.n:Nat):Int))+(s:Int))=((σ.at_ s x:Nat):Int):=by
  have h2:x*2^σ.n+s<8192:=by unfold aC.at_ at hat;omega
  rw [<-Int.natCast_mul,et (by omega),<-Int.natCast_add,et (by omega)];rfl
 refine ap (fun J=>J (decide (l=0)&&σ.ends (σ.at_ s x))) ?_ (fun J hJ=>?_)
 rotate_left
 ·refine ac (fun e=>?_) (fun e=>?_)
  ·have e0:l=0:=by have:=beq_iff_eq.1 e;omega
   (refine kr_ ?_)
   (refine kr_ ?_)
   rw [e8]
   obtain⟨b,o,ha,e1,e2⟩:=(hen.mono K1.le).get hat
   refine⟨b,o,ha,by omega,e1,_,e2,?_⟩
   rw [decide_eq_true e0,Bool.true_and]at hJ;exact hJ
  ·have e0: ¬l=0:=fun q=>by rw [q]at e;simp at e
   rw [decide_eq_false e0,Bool.false_and]at hJ;exact hJ
 have skip:σ.onB l (σ.at_ s x)=false->nxt [I s,I l,w.v, .pointer (some ⟨b12,0,none⟩),I (W ((x:Int)+1))] h1:=fun e=>by
  rw [aA (by omega)]
  refine hnx ?_ _ _ ⟨rfl,rfl⟩
  rcases Nat.lt_or_ge x x0 with q|q
  ·exact q
  ·obtain rfl:x=x0:=by omega
   rw [hon]at e;cases e
 refine ac (fun e=>?_) (fun e=>?_)
 ·rw [Bool.and_eq_true,decide_eq_true_eq]at e
  obtain⟨rfl,e⟩:=e
  have hxe:x=x0:=by
   rcases Nat.lt_or_ge x x0 with q|q
   ·have:=hnx0 x q;rw [show σ.onB 0 (σ.at_ s x)=σ.ends (σ.at_ s x)from rfl,e]at this;cases this
   ·omega
  rw [if_pos rfl,<-hxe]at k
  exact⟨h,K1.le,k⟩
 refine ap (fun J=>J (decide (l=0)|| !σ.hold (σ.at_ s x))) ?_ (fun J hJ=>?_)
 rotate_left
 ·refine ac (fun e=>?_) (fun e=>?_)
  ·have e0:l=0:=by have:=beq_iff_eq.1 e;omega
   rw [decide_eq_true e0,Bool.true_or]at hJ;exact hJ
  ·have e0: ¬l=0:=fun q=>by rw [q]at e;simp at e
   rw [decide_eq_false e0,Bool.false_or]at hJ
   (refine kr_ ?_)
   (refine kr_ ?_)
   rw [e8]
   obtain⟨b,o,ha,e1,e2⟩:=(hh.mono K1.le).get hat
   exact⟨b,o,ha,by omega,e1,_,e2,hJ⟩
 refine ac (fun e2=>?_) (fun e2=>?_)
 ·refine skip ?_
  cases l with
  |zero=>
   have e3:σ.ends (σ.at_ s x)=false:=by simpa using e
   exact e3
  |succ l'=>
   have:σ.hold (σ.at_ s x)=false:=by simpa using e2
   simp [aC.onB,this]
 obtain⟨l',rfl⟩: ∃l',l=l'+1:=⟨l-1,by
  have: ¬l=0:=fun q=>by rw [q]at e2;simp at e2
  omega⟩
 have eH:σ.hold (σ.at_ s x)=true:=by simpa using e2
 have hW:W (((l'+1:Nat):Int)-1)=(l':Nat):=by rw [bV (by omega) (by omega)];omega
 rw [if_neg (by omega),Nat.add_sub_cancel]at k
 refine av (2^σ.n) (fun t vs h'=>vs= [I s,I (l'+1:Nat),w.v, .pointer (some ⟨b12,0,none⟩),I x,I t]/\h1=h'/\ ∀t',t'<t->(σ.goes (σ.at_ s x) t'&&σ.ahead l' t')=false) ⟨rfl,rfl,fun t' e=>by omega⟩ ?_
 rintro t _ _ nxt2 ht ⟨rfl,rfl,hno⟩ hnx2
 refine⟨_,_,w,b12,0,_,_,rfl,?_⟩
 (refine kr_ ?_)
 by_cases hlt:t<2^σ.n
 rotate_left
 ·refine aD (by rw [decide_eq_false_iff_not];omega) ?_
  refine skip ?_
  rw [Bool.eq_false_iff]
  intro q
  obtain⟨t',ht',q2⟩:=aC.onB_next q
  rw [hno t' (by omega)]at q2;cases q2
 refine aJ (by rw [decide_eq_true_eq];exact_mod_cast hlt) ?_
 refine ap (fun J=>J (σ.goes (σ.at_ s x) t&&σ.ahead l' t) h1) ?_ (fun J hJ=>?_)
 rotate_left
 ·rw [hW]
  obtain⟨bl,ol,r,ha,h3',h4',hr⟩:=hw.get (show l'<m by omega)
  refine⟨bl,ol,ha,by omega,by omega,r,K1.le.cell h4',?_⟩
  obtain⟨br,or,har,hr1,hr2⟩:=(hr.mono K1.le).get hlt
  refine⟨br,or,har,by omega,hr1,_,hr2,?_⟩
  refine ac (fun e3=>?_) (fun e3=>?_)
  ·rw [e3,Bool.and_true]at hJ
   repeat' (refine kr_ ?_)
   exact EJ hq1 ok hs (by omega) hlt ⟨_,rfl,hJ⟩
  ·rw [e3,Bool.and_false]at hJ;exact hJ
 refine ac (fun e3=>?_) (fun e3=>?_)
 ·have hxe:x=x0:=by
   rcases Nat.lt_or_ge x x0 with q|q
   ·have h5:=hnx0 x q
    rw [Bool.and_eq_true]at e3
    have:σ.onB (l'+1) (σ.at_ s x)=true:=by
     simp only [aC.onB,Bool.and_eq_true,aC.leads,cy]
     exact⟨eH,t,hlt,e3.2,e3.1⟩
    rw [this]at h5;cases h5
   ·omega
  subst hxe
  rw [show kP σ l' (σ.goes (σ.at_ s x))=t from aC.leastB_of hlt e3 hno]at k
  exact⟨h,K1.le,k⟩
 ·rw [aA (by omega)]
  refine hnx2 hlt _ _ ⟨rfl,rfl,fun t' ht'=>?_⟩
  by_cases q:t'=t
  ·rw [q];exact e3
  ·exact hno t' (by omega)
def TrG (h h':Hp) (sS sI:Sl) (l:List (Nat×Nat)):Prop:=
 ∃XS XI,cE XS sS 1 ((VL (l.map Prod.fst)).map I)/\cE XI sI 1 ((VL (l.map Prod.snd)).map I)/\Kn h h' (XS++(XI++ []))
theorem Um {h g h1 h5:Hp} {b6 b73:Nat} {y:Blk} {sS sI:Sl} {XS XI:List (Nat×Blk)} {pre:List (Nat×Nat)} (lg:h.le g) (h6:g b6≠none) (oS:cE XS sS 1 ((VL (pre.map Prod.fst)).map I)) (oI:cE XI sI 1 ((VL (pre.map Prod.snd)).map I))
  (K:Kn g h1 ((b73,y)::(XS++(XI++ [])))) (l5:h.le h5) (kp: ∀c,c≠b6->h5 c=h1 c):TrG h h5 sS sI pre:=by
 refine⟨XS,XI,oS,oI,l5,fun e he=>?_,fun e he=>aF lg (K.new e (.tail _ he)),?_⟩
 ·have hne:e.1≠b6:=by
   intro e6
   have h1:=K.new e (.tail _ he)
   rw [e6]at h1;exact h6 h1
  rw [kp _ hne];exact K.mem e (.tail _ he)
 ·have nd:=K.nd
  rw [List.map_cons,List.nodup_cons]at nd
  exact nd.2
theorem TrG.nil {h h':Hp} (l:h.le h'):TrG h h' ⟨none,0,0⟩ ⟨none,0,0⟩ []:=⟨[], [],cD 1,cD 1,Kn.of l⟩
theorem TrG.up {h g h1 h5:Hp} {b6:Nat} {sS sI:Sl} {l:List (Nat×Nat)} (t:TrG g h1 sS sI l) (lg:h.le g) (h6:g b6≠none) (l5:h.le h5) (kp: ∀c,c≠b6->h5 c=h1 c):TrG h h5 sS sI l:=by
 obtain⟨XS,XI,oS,oI,K⟩:=t
 refine⟨XS,XI,oS,oI,l5,fun e he=>?_,fun e he=>aF lg (K.new e he),K.nd⟩
 have hne:e.1≠b6:=by
  intro e6
  have h1:=K.new e he
  rw [e6]at h1;exact h6 h1
 rw [kp _ hne];exact K.mem e he
theorem TrG.tr {h h':Hp} {sS sI:Sl} {l:List (Nat×Nat)} (t:TrG h h' sS sI l) (hl:l.length<=1000000):TrX h h' sS sI l:=by
 obtain⟨XS,XI,oS,oI,K⟩:=t
 have h1:=oS.1
 have h2:=oI.1
 simp only [List.length_map,bz,Nat.mul_one]at h1 h2
 obtain⟨XS',oS',K6⟩:=oS.toOwn (by omega) (A:= []) (L:=XI++ []) K
 obtain⟨XI',oI',K7⟩:=oI.toOwn (by omega) (A:=XS') (L:= []) K6
 rw [List.append_nil]at K7
 exact⟨XS',XI',oS',oI',K7⟩
set_option maxHeartbeats 1000000 in
theorem BD {h:Hp} {q:Bb} {σ:aC} {d:Nat} {R:Value->Hp->Prop} (hq:z7 h q σ) (ok:σ.Ok) (hd:d<=256) (hw: ∃s,s<2^σ.n/\(σ.begins s&&σ.ahead d s)=true)
  (k: ∀sS sI h',TrG h h' sS sI (σ.wit d σ.begins)->R (.agg #[Sl.v sS,Sl.v sI]) h'):jW #[DJ σ q,I d] h R:=by
 apply Ex
 refine uf_ ?_
 have hn:=eO ok
 have K0:=Kn.nil h
 (with_reducible apply Kn.al);(assumption);(intro b10 h1 K1 l1 hb10)
 (with_reducible apply Kn.al);(assumption);(intro b12 h2 K2 l2 hb12)
 repeat' (refine kr_ ?_)
 refine FT (hq.mono K2.le) ok hd fun w h3 l3 hL=>⟨_,rfl,?_⟩
 have hq3:=hq.mono (Hp.le_trans K2.le l3)
 have f10:=l3 _ _ (K2.at (.tail _ (.head _)))
 have f12:=l3 _ _ (K2.at (.head _))
 have hwl:=hL.len
 obtain⟨hs0,hfit,hno⟩:=aC.leastB_at hw
 have hW0:aC.leastB (2^σ.n) (fun s=>σ.begins s&&σ.ahead d s)=kP σ d σ.begins:=rfl
 rw [hW0]at hs0 hfit hno
 clear hW0
 have hS0:kP σ d σ.begins=kP σ d σ.begins:=rfl
 generalize hse:kP σ d σ.begins=s0 at hs0 hfit hno
 clear hS0
 refine av s0 (fun s vs h'=>vs= [I d, .pointer (some ⟨b10,0,none⟩), .pointer (some ⟨b12,0,none⟩),w.v,I s]/\h3=h') ⟨rfl,rfl⟩ ?_
 rintro s _ _ nxt hs ⟨rfl,rfl⟩ hnx
 refine⟨_,b10,0,b12,0,w,_,rfl,?_⟩
 have K3:=Kn.nil h3
 refine ap (fun J=>J (!(σ.begins s&&σ.ahead d s))) ?_ (fun J hJ=>?_)
 rotate_left
 ·(refine kr_ ?_)
  obtain⟨b,o,ha,e1,e2⟩:=hq3.2.2.2.2.get (show s<2^σ.n by omega)
  refine⟨b,o,ha,by omega,e1,_,e2,?_⟩
  refine ac (fun e=>?_) (fun e=>?_)
  ·rw [show σ.begins s=false by simpa using e]at hJ;exact hJ
  ·rw [show σ.begins s=true by simpa using e,Bool.true_and]at hJ
   obtain⟨bl,ol,r,ha,h3',h4',hr⟩:=hL.get (show d<d+1 by omega)
   refine⟨bl,ol,ha,by omega,by omega,r,h4',?_⟩
   obtain⟨br,or,har,hr1,hr2⟩:=hr.get (show s<2^σ.n by omega)
   exact⟨br,or,har,by omega,hr1,_,hr2,hJ⟩
 by_cases hlt:s<s0
 ·refine aJ (by rw [hno s hlt];rfl) ?_
  rw [aA (by omega)]
  exact hnx hlt _ _ ⟨rfl,rfl⟩
 obtain rfl:s=s0:=by omega
 refine aD (by rw [hfit];rfl) ?_
 clear hnx hlt hs K3
 (with_reducible apply Kn.al);(exact Kn.nil h3);(intro b54 h4 K4 l4 hb54)
 refine oR (d+1) (fun m vs h'=> ∃(pre:List (Nat×Nat)) (cur:Nat) (fits:Nat->Bool) (sS sI:Sl) (XS XI:List (Nat×Blk)),
  vs= [.pointer (some ⟨b10,0,none⟩), .pointer (some ⟨b12,0,none⟩),w.v,I cur, .pointer (some ⟨b54,0,none⟩),I ((m:Int)-1)]/\Kn h3 h' ((b54, .inl ⟨[sS.v,sI.v],2,false⟩)::(XS++(XI++ [])))/\
  cE XS sS 1 ((VL (pre.map Prod.fst)).map I)/\cE XI sI 1 ((VL (pre.map Prod.snd)).map I)/\pre.length+m=d+1/\(m=0->pre=σ.wit d σ.begins)/\
  ∀k',m=k'+1->cur=kP σ k' fits/\pre++σ.wit k' fits=σ.wit d σ.begins/\ ∃s,s<2^σ.n/\(fits s&&σ.ahead k' s)=true)
  ⟨[],s,σ.begins,⟨none,0,0⟩,⟨none,0,0⟩, [], [],by rw [show (((d+1:Nat):Int)-1)=d by omega],K4,cD 1,cD 1,by simp,
   fun e=>by omega,fun k' e=>by obtain rfl:k'=d:=by omega
                                exact⟨hse.symm,rfl,hw⟩⟩ ?_
 clear K4 l4 hb54 h4
 rintro m _ h4 nxt ⟨pre,cur,fits,sS,sI,XS,XI,rfl,K,oS,oI,hpl,hz,hsc⟩ hnx
 refine⟨b10,0,b12,0,w,_,b54,0,_,rfl,?_⟩
 have hpl1:=oS.1
 have hpl2:=oI.1
 simp only [List.length_map,bz,Nat.mul_one]at hpl1 hpl2
 cases m with
 |zero=>
  refine aD (by rw [decide_eq_false_iff_not];omega) ?_
  (refine kr_ ?_)
  (refine kr_ ?_)
  have K2':=K2.mono (Hp.le_trans l3 K.le)
  (with_reducible apply Kn.wr);(exact K2');((focus ((repeat first|exact .head|apply Upd.tail);done)))
  ·exact Nat.le_refl _
  intro h5 K5 kp
  refine⟨sS,by rw [aq (K5.at (.head _))];rfl,sI,by rw [aq (K5.at (.head _))];rfl,?_⟩
  refine k sS sI h5 ?_
  rw [<-hz rfl]
  exact Um (Hp.le_trans K2.le l3) (by rw [f12];simp) oS oI K K5.le kp
 |succ k=>
 rename_i kf
 obtain⟨rfl,hwit,hex⟩:=hsc k rfl
 have hk1:(((k+1:Nat):Int)-1)=k:=by omega
 rw [hk1]
 refine aJ (by rw [decide_eq_true_eq];omega) ?_
 obtain⟨hc0,hcf,_⟩:=aC.leastB_at hex
 rw [show aC.leastB (2^σ.n) (fun s=>fits s&&σ.ahead k s)=kP σ k fits from rfl]at hc0 hcf
 rw [Bool.and_eq_true]at hcf
 obtain⟨hx0,hon,_⟩:=aC.leastB_at (aC.ahead_on.1 hcf.2)
 rw [show aC.leastB (2^σ.k) (fun x=>σ.onB k (σ.at_ (kP σ k fits) x))=wm σ k (kP σ k fits)from rfl]at hx0 hon
 repeat' (refine kr_ ?_)
 refine OB (hq3.mono K.le) ok hc0 (hL.mono K.le) (by omega) (by omega) hcf.2 ⟨_,_,rfl,?_⟩
 (refine kr_ ?_)
 refine Kn.al K fun b87 h6 K6 l6 hb87=>?_
 have f87:=K6.at (.head _)
 refine Kn.growIn (A:= [_,_]) K6 oS (by omega) (by omega) (by omega) ⟨b87,0,rfl,ay f87⟩ rfl rfl fun sS' XS' h7 hnS oS' K7 l7=>?_
 simp only [List.cons_append,List.nil_append]at K7
 clear K6 l6 hb87 f87 K
 (((with_reducible apply Kn.wr);(assumption);((focus ((repeat first|exact .head|apply Upd.tail);done)))))
 ·simp
 intro h8 K8 _
 simp only [bP,List.set_cons_zero,List.set_cons_succ,Nat.zero_add,Nat.reduceAdd]at K8
 clear K7 l7
 (refine kr_ ?_)
 refine Kn.al K8 fun b98 h9 K9 l9 hb98=>?_
 have f98:=K9.at (.head _)
 refine Kn.growIn2 (A:= [_,_,_]) K9 oI (by omega) (by omega) (by omega) ⟨b98,0,rfl,ay f98⟩ rfl rfl fun sI' XI' h10 hnI oI' K10 l10=>?_
 simp only [List.cons_append,List.nil_append]at K10
 clear K9 l9 hb98 f98 K8
 (((with_reducible apply Kn.wr);(assumption);((focus ((repeat first|exact .head|apply Upd.tail);done)))))
 ·simp
 intro h11 K11 _
 simp only [bP,List.set_cons_zero,List.set_cons_succ,Nat.zero_add,Nat.reduceAdd]at K11
 clear K10 l10
 have nd:=K11.nd
 have KS:Kn h3 h11 ((b54, .inl ⟨[sS'.v,sI'.v],2,false⟩)::(XS'++(XI'++ []))):=by
  refine K11.sub (fun e he=> .tail _ (.tail _ he)) ?_
  simp only [List.map_cons,List.nodup_cons]at nd⊢
  exact nd.2.2
 rw [bV (by omega) (by omega)]
 refine hnx k (by omega) _ _ ⟨pre++ [(kP σ k fits,wm σ k (kP σ k fits))],_,σ.goes (σ.at_ (kP σ k fits) (wm σ k (kP σ k fits))),sS',sI',XS',XI',rfl,KS,by simpa [VL] using oS',by simpa [VL] using oI',by simp;omega,fun e=>?_,fun k' e=>⟨?_,?_,?_⟩⟩
 ·subst e;exact hwit
 ·subst e;rw [if_neg (by omega)];rfl
 ·subst e;rw [<-hwit,Lq,List.append_assoc];rfl
 ·subst e
  exact aC.onB_next hon
theorem Ig {h:Hp} {q:Bb} {σ:aC} {d:Nat} {R:Value->Hp->Prop} (hq:z7 h q σ) (ok:σ.Ok) (hd:d<=256) (hw: ∃s,s<2^σ.n/\(σ.begins s&&σ.ahead d s)=true)
  (k: ∀sS sI h',TrX h h' sS sI (σ.wit d σ.begins)->R (.agg #[Sl.v sS,Sl.v sI]) h'):jW #[DJ σ q,I d] h R:=
 BD hq ok hd hw fun sS sI h' t=>k sS sI h' (t.tr (by rw [uQ];omega))
theorem TrX.nil {h h':Hp} (l:h.le h'):TrX h h' ⟨none,0,0⟩ ⟨none,0,0⟩ []:=⟨[], [],⟨rfl,by simp, .inl ⟨rfl,rfl⟩⟩,⟨rfl,by simp, .inl ⟨rfl,rfl⟩⟩,Kn.of l⟩
theorem pU {σ:aC} (ok:σ.Ok) {d:Nat} (h:σ.depth=some d):d<=256:=by
 have h1:=aC.depth_lt h
 have h2:=aC.nLay_le σ
 have h3:=eO ok
 omega
theorem TrX.up {h g h1 h5:Hp} {b6:Nat} {sS sI:Sl} {l:List (Nat×Nat)} (t:TrX g h1 sS sI l) (lg:h.le g) (h6:g b6≠none) (l5:h.le h5) (kp: ∀c,c≠b6->h5 c=h1 c):TrX h h5 sS sI l:=by
 obtain⟨XS,XI,oS,oI,K⟩:=t
 refine⟨XS,XI,oS,oI,l5,fun e he=>?_,fun e he=>aF lg (K.new e he),K.nd⟩
 have hne:e.1≠b6:=by
  intro e6
  have h1:=K.new e he
  rw [e6]at h1;exact h6 h1
 rw [kp _ hne];exact K.mem e he
theorem TrX.mono {h h1 h2:Hp} {sS sI:Sl} {l:List (Nat×Nat)} (t:TrX h h1 sS sI l) (l12:h1.le h2):TrX h h2 sS sI l:=by
 obtain⟨XS,XI,oS,oI,K⟩:=t
 exact⟨XS,XI,oS,oI,K.mono l12⟩
theorem pa.slcOf {X:List (Nat×Blk)} {h:Hp} {s:Sl} {sz:Nat} {cs:List Value} (o:pa X s sz cs) (m: ∀e∈X,h e.1=some e.2):SlC h s sz cs:=by
 refine⟨o.2.1,o.1,?_⟩
 rcases o.2.2 with ⟨h0,_⟩|⟨_,b,z,ha,rfl⟩
 ·exact .inl h0
 ·exact .inr ⟨b,0,ha,ay (m _ (.head _))⟩
theorem TrX.ints {h h1:Hp} {sS sI:Sl} {l:List (Nat×Nat)} (t:TrX h h1 sS sI l):IntS h1 sS (VL (l.map Prod.fst))/\IntS h1 sI (VL (l.map Prod.snd)):=by
 obtain⟨XS,XI,oS,oI,K⟩:=t
 exact⟨oS.slcOf fun e he=>K.mem e (List.mem_append_left _ he),oI.slcOf fun e he=>K.mem e (List.mem_append_right _ he)⟩
theorem TrX.le {h h':Hp} {sS sI:Sl} {l:List (Nat×Nat)} (t:TrX h h' sS sI l):h.le h':=by obtain⟨_,_,_,_,K⟩:=t;exact K.le
theorem TrX.add {g h h':Hp} {L:List (Nat×Blk)} {sS sI:Sl} {l:List (Nat×Nat)} (t:TrX h h' sS sI l) (K:Kn g h L):
  ∃XS XI,pa XS sS 1 ((VL (l.map Prod.fst)).map I)/\pa XI sI 1 ((VL (l.map Prod.snd)).map I)/\Kn g h' (L++(XS++XI)):=by
 obtain⟨XS,XI,oS,oI,K'⟩:=t
 exact⟨XS,XI,oS,oI,K.app K'.le K'.new K'.mem K'.nd⟩
section
variable {g h:Hp} {L XS XI:List (Nat×Blk)} {sS sI tS tI:Sl} {xs ys:List Int} {cS cI:List Value} {k0:Int} {R:Value->Hp->Prop}
end
structure Cr where
 kind:Int
 depth:Int
 tr:List (Nat×Nat)
 bd:Bd
def mz (x:Int):Int:=if(if x<256 then x else 256)>0 then(if x<256 then x else 256)else 0
theorem BF (x:Int):mz x=if(if x<0 then 0 else x)>256 then 256 else(if x<0 then 0 else x):=by
 unfold mz
 by_cases a:x<0
 ·rw [if_pos (show x<256 by omega),if_pos a,if_neg (by omega),if_neg (by omega)]
 rw [if_neg a]
 by_cases b:x<256
 ·rw [if_pos b]
  by_cases c:x>0
  ·rw [if_pos c,if_neg (by omega)]
  ·rw [if_neg c,if_neg (by omega)];omega
 ·rw [if_neg b,if_pos (show (256:Int)>0 by omega)]
  by_cases c:x>256
  ·rw [if_pos c]
  ·rw [if_neg c];omega
def wj (σ:aC) (x:Int):Cr:=
 if 0<=σ.depthI/\σ.depthI<=mz x then⟨3,σ.depthI,σ.wit σ.depthI.toNat σ.begins,iW⟩else
 if σ.depthI<0/\(σ.nLay:Int)-1<mz x then⟨2,(σ.nLay:Int)-1, [],cO σ.n σ.reach⟩else⟨1,mz x, [],iW⟩
def dm (m:ai) (x:Int):Cr:=if ax m=0 then wj (aG m) x else⟨0,0, [],iW⟩
abbrev P8 (p:Cr) (sS sI sN:Sl):List Value:= [I p.kind,I p.depth,sS.v,sI.v,I p.bd.v,sN.v,I p.bd.r]
abbrev Ke (p:Cr) (sS sI sN:Sl):Value:= .agg #[I p.kind,I p.depth,sS.v,sI.v,I p.bd.v,sN.v,I p.bd.r]
def VrX (h h':Hp) (sS sI sN:Sl) (p:Cr):Prop:=
 ∃XS XI XN,pa XS sS 1 ((VL (p.tr.map Prod.fst)).map I)/\pa XI sI 1 ((VL (p.tr.map Prod.snd)).map I)/\pa XN sN 3 (bK p.bd.ns)/\Kn h h' (XS++(XI++XN))
theorem VrX.up {h g h1 h5:Hp} {b6:Nat} {sS sI sN:Sl} {p:Cr} (t:VrX g h1 sS sI sN p) (lg:h.le g) (h6:g b6≠none) (l5:h.le h5) (kp: ∀c,c≠b6->h5 c=h1 c):VrX h h5 sS sI sN p:=by
 obtain⟨XS,XI,XN,oS,oI,oN,K⟩:=t
 refine⟨XS,XI,XN,oS,oI,oN,l5,fun e he=>?_,fun e he=>aF lg (K.new e he),K.nd⟩
 have hne:e.1≠b6:=by
  intro e6
  have h1:=K.new e he
  rw [e6]at h1;exact h6 h1
 rw [kp _ hne];exact K.mem e he
theorem VrX.mono {h h1 h2:Hp} {sS sI sN:Sl} {p:Cr} (t:VrX h h1 sS sI sN p) (l12:h1.le h2):VrX h h2 sS sI sN p:=by
 obtain⟨XS,XI,XN,oS,oI,oN,K⟩:=t
 exact⟨XS,XI,XN,oS,oI,oN,K.mono l12⟩
theorem VrX.le {h h':Hp} {sS sI sN:Sl} {p:Cr} (t:VrX h h' sS sI sN p):h.le h':=by obtain⟨_,_,_,_,_,_,K⟩:=t;exact K.le
theorem Fe (sz:Nat):pa [] ⟨none,0,0⟩ sz []:=⟨by simp,by simp, .inl ⟨rfl,rfl⟩⟩
theorem VrX.ofTr {h h':Hp} {sS sI:Sl} {l:List (Nat×Nat)} {k d:Int} (t:TrX h h' sS sI l):VrX h h' sS sI ⟨none,0,0⟩ ⟨k,d,l,iW⟩:=by
 obtain⟨XS,XI,oS,oI,K⟩:=t
 exact⟨XS,XI, [],oS,oI,Fe 3,by rw [List.append_nil];exact K⟩
theorem VrX.ofBd {h h':Hp} {s:Sl} {B:Bd} {k d:Int} (l:h.le h') (o:Own (h'.sub h) s 3 (bK B.ns)):VrX h h' ⟨none,0,0⟩ ⟨none,0,0⟩ s ⟨k,d, [],B⟩:=by
 obtain⟨X,oX,K⟩:=(Kn.nil h).addOwn l o
 exact⟨[], [],X,Fe 1,Fe 1,oX,K⟩
theorem VrX.nil {h h':Hp} {k d:Int} (l:h.le h'):VrX h h' ⟨none,0,0⟩ ⟨none,0,0⟩ ⟨none,0,0⟩ ⟨k,d, [],iW⟩:=VrX.ofTr (TrX.nil l)
theorem qa {σ:aC} (h:0<=σ.depthI): ∃d,σ.depth=some d/\σ.depthI=d:=by
 unfold aC.depthI at h⊢
 cases hd:σ.depth with
 |none=>rw [hd]at h;exact absurd (show (0:Int)<= -1 from h) (by decide)
 |some d=>exact⟨d,rfl,rfl⟩
theorem HN {h:Hp} {b:Nat} {σ:aC} {x:Int} {R:Value->Hp->Prop} (hs:nk h b σ) (ok:σ.Ok)
  (k: ∀sS sI sN h',VrX h h' sS sI sN (wj σ x)->R (Ke (wj σ x) sS sI sN) h'):k7 #[.pointer (some ⟨b,0,none⟩),I x] h R:=by
 apply yR
 refine uf_ ?_
 have hn:=eO ok
 have hnl:=aC.nLay_le σ
 unfold wj at k
 have K0:=Kn.nil h
 (with_reducible apply Kn.al);(assumption);(intro b4 h1 K1 l1 hb4)
 refine mI (hs.mono K1.le) ok fun L h2 l2 hL=>⟨_,rfl,?_⟩
 have K2:=K1.mono l2
 have hs2:=hs.mono K2.le
 have hll:=hL.len
 refine uN hs2 ok hL ⟨_,rfl,?_⟩
 rw [show (if(if x<256 then x else 256)>0 then(if x<256 then x else 256)else 0)=mz x from rfl,hll,bV (n:=(σ.nLay:Int)-1) (by omega) (by omega)]
 generalize mz x=bud at*
 refine ap (fun J=>J (decide (0<=σ.depthI/\σ.depthI<=bud))) ?_ (fun J hJ=>?_)
 rotate_left
 ·refine ac (fun e=>?_) (fun e=>?_)
  ·rw [show decide (0<=σ.depthI/\σ.depthI<=bud)=decide (σ.depthI<=bud)from by rw [decide_eq_true_eq]at e;rw [Bool.eq_iff_iff,decide_eq_true_eq,decide_eq_true_eq];omega]at hJ;exact hJ
  ·rw [show decide (0<=σ.depthI/\σ.depthI<=bud)=false from by rw [decide_eq_false_iff_not]at e⊢;omega]at hJ;exact hJ
 refine ac (fun e=>?_) (fun e=>?_)
 ·have e':=of_decide_eq_true e
  rw [if_pos e']at k
  obtain⟨d,hd,hdI⟩:=qa e'.1
  rw [hdI,Int.toNat_natCast]at k
  rw [hdI]
  refine Ay hs2 ok (pU ok hd) (aC.wit_begins hd) fun sS sI h3 t3=>⟨_,_,rfl,?_⟩
  have K3:=K2.mono t3.le
  refine kw_ ?_
  intro h4 K4 kp
  have K4':Kn h h4 [(b4, .inl ⟨[I 3,I d,sS.v,sI.v,I 0,Sl.v ⟨none,0,0⟩,I 0],7,false⟩)]:=K4
  clear K4 K3 K1
  repeat' (refine kr_ ?_)
  exact k sS sI ⟨none,0,0⟩ h4 ((VrX.ofTr t3).up K2.le (by rw [K2.at (.head _)];simp) K4'.le kp)
 rw [if_neg (of_decide_eq_false e)]at k
 refine ap (fun J=>J (decide (σ.depthI<0/\(σ.nLay:Int)-1<bud))) ?_ (fun J hJ=>?_)
 rotate_left
 ·refine ac (fun e=>?_) (fun e=>?_)
  ·rw [show decide (σ.depthI<0/\(σ.nLay:Int)-1<bud)=decide ((σ.nLay:Int)-1<bud)from by rw [decide_eq_true_eq]at e;rw [Bool.eq_iff_iff,decide_eq_true_eq,decide_eq_true_eq];omega]at hJ;exact hJ
  ·rw [show decide (σ.depthI<0/\(σ.nLay:Int)-1<bud)=false from by rw [decide_eq_false_iff_not]at e⊢;omega]at hJ;exact hJ
 refine ac (fun e=>?_) (fun e=>?_)
 ·rw [if_pos (of_decide_eq_true e)]at k
  refine Gq hs2 ok hL fun bu T h3 K3 hT=>⟨_,rfl,?_⟩
  have hT':cY h3 (arr bu (2^σ.n)) (2^σ.n) σ.reach:=jV (by omega) (K3.at (.head _)) hT
  have l23:=K3.le
  clear K3
  refine qy (hs2.mono l23) ok hT' fun s h4 l4 o4=>⟨_,_,_,_,rfl,?_⟩
  have K23:=K2.mono l23
  have K4:=K23.mono l4
  refine Kn.al K4 fun b47 h5 K5 l5 hb47=>?_
  refine kw_ ?_
  intro h6 K6 kp6
  repeat' (refine kr_ ?_)
  refine kw_ ?_
  intro h7 K7 kp7
  have l46:=cF hb47 l5 kp6
  have K7':Kn h h7 [(b47, .inl ⟨[I (cO σ.n σ.reach).v,s.v,I (cO σ.n σ.reach).r],3,false⟩),(b4, .inl ⟨[I 2,I ((σ.nLay:Int)-1),Sl.v ⟨none,0,0⟩,Sl.v ⟨none,0,0⟩,I (cO σ.n σ.reach).v,s.v,I (cO σ.n σ.reach).r],7,false⟩)]:=K7
  clear K7 K6 K5 K4
  have o7:=o4.mono (Hp.le_trans (ql h3 l46) (gk K23.le (K23.at (.head _)) kp7))
  clear K23 K2 K1 K0
  repeat' (refine kr_ ?_)
  exact k ⟨none,0,0⟩ ⟨none,0,0⟩ s h7 (VrX.ofBd K7'.le o7)
 ·rw [if_neg (of_decide_eq_false e)]at k
  refine kw_ ?_
  intro h4 K4 kp
  have K4':Kn h h4 [(b4, .inl ⟨[I 1,I bud,Sl.v ⟨none,0,0⟩,Sl.v ⟨none,0,0⟩,I 0,Sl.v ⟨none,0,0⟩,I 0],7,false⟩)]:=K4
  clear K4 K1
  repeat' (refine kr_ ?_)
  exact k ⟨none,0,0⟩ ⟨none,0,0⟩ ⟨none,0,0⟩ h4 (VrX.nil K4'.le)
theorem fX {h:Hp} {M:MSl} {m:ai} {x:Int} {R:Value->Hp->Prop} (hs:aN h M m) (hm:bW m)
  (k: ∀sS sI sN h',VrX h h' sS sI sN (dm m x)->R (Ke (dm m x) sS sI sN) h'):eo #[aO M,I x] h R:=by
 apply Kt
 refine uf_ ?_
 unfold dm at k
 have K0:=Kn.nil h
 (with_reducible apply Kn.al);(assumption);(intro b8 h1 K1 l1 hb8)
 (with_reducible apply Kn.al);(assumption);(intro b10 h2 K2 l2 hb10)
 repeat' (refine kr_ ?_)
 refine eX (hs.mono K2.le) hm (fun h3 l3 hc=>⟨_,_,rfl,aJ rfl ?_⟩) (fun hc g bx h3 l3 hx=>⟨_,_,rfl,aD rfl ?_⟩)
 ·rw [if_neg hc]at k
  have K3:=K2.mono l3
  refine kw_ ?_
  intro h4 K4 kp
  have K4':Kn h h4 [(b10, .inl ⟨[I 0,I 0,Sl.v ⟨none,0,0⟩,Sl.v ⟨none,0,0⟩,I 0,Sl.v ⟨none,0,0⟩,I 0],7,false⟩),(b8, .inl ⟨aw M,5,false⟩)]:=K4
  clear K4 K3 K2 K1 K0
  repeat' (refine kr_ ?_)
  exact k ⟨none,0,0⟩ ⟨none,0,0⟩ ⟨none,0,0⟩ h4 (VrX.nil K4'.le)
 ·rw [if_pos hc]at k
  have K3:=K2.mono l3
  refine HN hx (gq g) fun sS sI sN h4 t4=>⟨_,_,_,_,_,_,_,rfl,?_⟩
  generalize wj (aG m) x=V at*
  have K4:=K3.mono t4.le
  refine kw_ ?_
  intro h5 K5 kp
  have K5':Kn h h5 [(b10, .inl ⟨P8 V sS sI sN,7,false⟩),(b8, .inl ⟨aw M,5,false⟩)]:=K5
  have t5:=t4.up K3.le (by rw [K3.at (.head _)];simp) K5'.le kp
  clear K5 K4 K3 K2 K1 K0 t4
  repeat' (refine kr_ ?_)
  exact k sS sI sN h5 t5
theorem JF {h:Hp} {x:Int} {R:Value->Hp->Prop} (k:R (I (if x<0 then 0 else x)) h):rO #[I x] h R:=by
 apply Fj
 refine uf_ ?_
 refine ac (fun e=>?_) (fun e=>?_)
 ·rw [if_pos (of_decide_eq_true e)]at k;exact k
 ·rw [if_neg (of_decide_eq_false e)]at k;exact k
set_option maxHeartbeats 1000000 in
theorem vG {h:Hp} {M:MSl} {m:ai} {x:Int} {R:Value->Hp->Prop} (hs:aN h M m) (hm:bW m)
  (k: ∀sS sI sN h',VrX h h' sS sI sN (dm m x)->R (Ke (dm m x) sS sI sN) h'):kV #[aO M,I x] h R:=by
 apply Kc
 refine uf_ ?_
 unfold dm at k
 have K0:=Kn.nil h
 (with_reducible apply Kn.al);(assumption);(intro b8 h1 K1 l1 hb8)
 (with_reducible apply Kn.al);(assumption);(intro b10 h2 K2 l2 hb10)
 repeat' (refine kr_ ?_)
 refine aX (hs.mono K2.le) hm ⟨_,rfl,?_⟩
 refine ac (fun e=>?_) (fun e=>?_)
 ·rw [if_neg (gH e)]at k
  refine kw_ ?_
  intro h4 K4 kp
  have K4':Kn h h4 [(b10, .inl ⟨[I 0,I 0,Sl.v ⟨none,0,0⟩,Sl.v ⟨none,0,0⟩,I 0,Sl.v ⟨none,0,0⟩,I 0],7,false⟩),(b8, .inl ⟨aw M,5,false⟩)]:=K4
  clear K4 K2 K1 K0
  repeat' (refine kr_ ?_)
  exact k ⟨none,0,0⟩ ⟨none,0,0⟩ ⟨none,0,0⟩ h4 (VrX.nil K4'.le)
 have hc:=fD e
 rw [if_pos hc]at k
 have ok:=gq (co hc)
 have hrs: ∀{h':Hp} {R':Value->Hp->Prop},aN h' M m->(∀s h'',h'.le h''->Own (h''.sub h') s 3 (bK (cO (aG m).n (aG m).reach).ns)->R' (F0 (cO (aG m).n (aG m).reach) (((aG m).nLay:Int)-1) s) h'')->fh #[aO M] h' R':=by
  intro h' R' a b
  refine jH a hm ?_
  unfold dX j6
  rw [if_pos hc,if_pos hc];exact b
 have hof: ∀{h':Hp} {R':Value->Hp->Prop},aN h' M m->(∀q h'',h'.le h''->z7 h'' q (aG m)->R' (DJ (aG m) q) h'')->gn #[aO M] h' R':=fun a b=>oM a hm hc b
 generalize aG m=σ at*
 have hn:=eO ok
 have hnl:=aC.nLay_le σ
 have hnp:=aC.nLay_pos ok
 unfold wj at k
 refine ap (fun J=>J (if x<0 then 0 else x)) ?_ (fun J hJ=>?_)
 rotate_left
 ·refine ac (fun e=>?_) (fun e=>?_)
  ·rw [if_pos (of_decide_eq_true e)]at hJ;exact hJ
  ·rw [if_neg (of_decide_eq_false e)]at hJ;exact hJ
 refine ap (fun J=>J (mz x)) ?_ (fun J hJ=>?_)
 rotate_left
 ·refine ac (fun e=>?_) (fun e=>?_)
  ·rw [show mz x=256 from by rw [BF,if_pos (of_decide_eq_true e)]]at hJ;exact hJ
  ·rw [show mz x=(if x<0 then 0 else x)from by rw [BF,if_neg (of_decide_eq_false e)]]at hJ;exact hJ
 generalize mz x=bud at*
 repeat' (refine kr_ ?_)
 refine hof (hs.mono K2.le) fun q h3 l3 hq=>⟨_,_,_,_,_,_,_,rfl,?_⟩
 have K3:=K2.mono l3
 refine Kn.al K3 fun b56 h4 K4 l4 hb56=>?_
 refine kw_ ?_
 intro h5 K5 kp5
 simp only [cv,List.set_cons_zero,List.set_cons_succ,Nat.zero_add,Nat.reduceAdd]at K5
 have hq5:=hq.mono (cF hb56 l4 kp5)
 clear K4 K3 kp5
 repeat' (refine kr_ ?_)
 refine tM hq5 ok ⟨_,rfl,?_⟩
 repeat' (refine kr_ ?_)
 refine mY hq5 ok fun L h6 l6 hL=>⟨_,rfl,?_⟩
 have K6:=K5.mono l6
 have hq6:=hq5.mono l6
 have hll:=hL.len
 have f10:=K6.at (.tail _ (.head _))
 clear K5 K2 K1 K0
 rw [hll,bV (n:=(σ.nLay:Int)-1) (by omega) (by omega)]
 refine ap (fun J=>J (decide (0<=σ.depthI/\σ.depthI<=bud))) ?_ (fun J hJ=>?_)
 rotate_left
 ·refine ac (fun e=>?_) (fun e=>?_)
  ·rw [show decide (0<=σ.depthI/\σ.depthI<=bud)=decide (σ.depthI<=bud)from by rw [decide_eq_true_eq]at e;rw [Bool.eq_iff_iff,decide_eq_true_eq,decide_eq_true_eq];omega]at hJ;exact hJ
  ·rw [show decide (0<=σ.depthI/\σ.depthI<=bud)=false from by rw [decide_eq_false_iff_not]at e⊢;omega]at hJ;exact hJ
 refine ac (fun e=>?_) (fun e=>?_)
 ·have e':=of_decide_eq_true e
  rw [if_pos e']at k
  obtain⟨d,hd,hdI⟩:=qa e'.1
  rw [hdI,Int.toNat_natCast]at k
  rw [hdI]
  repeat' (refine kr_ ?_)
  refine Ig hq6 ok (pU ok hd) (aC.wit_begins hd) fun sS sI h7 t7=>⟨_,_,rfl,?_⟩
  have K7:=K6.mono t7.le
  refine kw_ ?_
  intro h8 K8 kp
  have K8':Kn h h8 [(b56, .inl ⟨AM σ q,7,false⟩),(b10, .inl ⟨[I 3,I d,sS.v,sI.v,I 0,Sl.v ⟨none,0,0⟩,I 0],7,false⟩),(b8, .inl ⟨aw M,5,false⟩)]:=K8
  have t8:=(VrX.ofTr (k:=3) (d:=d) t7).up K6.le (by rw [f10];simp) K8'.le kp
  clear K8 K7 K6
  repeat' (refine kr_ ?_)
  exact k sS sI ⟨none,0,0⟩ h8 t8
 rw [if_neg (of_decide_eq_false e)]at k
 refine ap (fun J=>J (decide (σ.depthI<0/\(σ.nLay:Int)-1<bud))) ?_ (fun J hJ=>?_)
 rotate_left
 ·refine ac (fun e=>?_) (fun e=>?_)
  ·rw [show decide (σ.depthI<0/\(σ.nLay:Int)-1<bud)=decide ((σ.nLay:Int)-1<bud)from by rw [decide_eq_true_eq]at e;rw [Bool.eq_iff_iff,decide_eq_true_eq,decide_eq_true_eq];omega]at hJ;exact hJ
  ·rw [show decide (σ.depthI<0/\(σ.nLay:Int)-1<bud)=false from by rw [decide_eq_false_iff_not]at e⊢;omega]at hJ;exact hJ
 refine ac (fun e=>?_) (fun e=>?_)
 ·rw [if_pos (of_decide_eq_true e)]at k
  repeat' (refine kr_ ?_)
  refine hrs (hs.mono K6.le) fun s h7 l7 o7=>⟨_,_,_,_,_,rfl,?_⟩
  have K7:=K6.mono l7
  refine Kn.al K7 fun b124 h8 K8 l8 hb124=>?_
  refine kw_ ?_
  intro h9 K9 kp9
  repeat' (refine kr_ ?_)
  refine JF ⟨_,rfl,?_⟩
  rw [if_neg (by omega)]
  repeat' (refine kr_ ?_)
  refine kw_ ?_
  intro h10 K10 kp10
  have l79:=cF hb124 l8 kp9
  have K10':Kn h h10 [(b124, .inl ⟨[I (cO σ.n σ.reach).v,s.v,I (cO σ.n σ.reach).r],3,false⟩),(b56, .inl ⟨AM σ q,7,false⟩),
   (b10, .inl ⟨[I 2,I ((σ.nLay:Int)-1),Sl.v ⟨none,0,0⟩,Sl.v ⟨none,0,0⟩,I (cO σ.n σ.reach).v,s.v,I (cO σ.n σ.reach).r],7,false⟩),(b8, .inl ⟨aw M,5,false⟩)]:=K10
  have o10:=o7.mono (Hp.le_trans (ql h6 l79) (gk K6.le f10 kp10))
  clear K10 K9 K8 K7 K6
  repeat' (refine kr_ ?_)
  exact k ⟨none,0,0⟩ ⟨none,0,0⟩ s h10 (VrX.ofBd K10'.le o10)
 ·rw [if_neg (of_decide_eq_false e)]at k
  refine kw_ ?_
  intro h7 K7 kp
  have K7':Kn h h7 [(b56, .inl ⟨AM σ q,7,false⟩),(b10, .inl ⟨[I 1,I bud,Sl.v ⟨none,0,0⟩,Sl.v ⟨none,0,0⟩,I 0,Sl.v ⟨none,0,0⟩,I 0],7,false⟩),(b8, .inl ⟨aw M,5,false⟩)]:=K7
  clear K7 K6
  repeat' (refine kr_ ?_)
  exact k ⟨none,0,0⟩ ⟨none,0,0⟩ ⟨none,0,0⟩ h7 (VrX.nil K7'.le)
theorem VrX.add {g h h':Hp} {L:List (Nat×Blk)} {sS sI sN:Sl} {p:Cr} (t:VrX h h' sS sI sN p) (K:Kn g h L):
  ∃XS XI XN,pa XS sS 1 ((VL (p.tr.map Prod.fst)).map I)/\pa XI sI 1 ((VL (p.tr.map Prod.snd)).map I)/\pa XN sN 3 (bK p.bd.ns)/\Kn g h' (L++(XS++(XI++XN))):=by
 obtain⟨XS,XI,XN,oS,oI,oN,K'⟩:=t
 exact⟨XS,XI,XN,oS,oI,oN,K.app K'.le K'.new K'.mem K'.nd⟩
def VrS (h:Hp) (sS sI sN:Sl) (p:Cr):Prop:=IntS h sS (VL (p.tr.map Prod.fst))/\IntS h sI (VL (p.tr.map Prod.snd))/\SlC h sN 3 (bK p.bd.ns)
theorem VrS.mono {h h':Hp} {sS sI sN:Sl} {p:Cr} (l:h.le h') (t:VrS h sS sI sN p):VrS h' sS sI sN p:=⟨t.1.mono l,t.2.1.mono l,t.2.2.mono l⟩
theorem Yt {g h:Hp} {L XS XI XN:List (Nat×Blk)} {sS sI sN:Sl} {cS cI cN:List Value} (oS:pa XS sS 1 cS) (oI:pa XI sI 1 cI) (oN:pa XN sN 3 cN) (K:Kn g h (L++(XS++(XI++XN)))):SlC h sS 1 cS/\SlC h sI 1 cI/\SlC h sN 3 cN:=
 ⟨oS.slcOf fun e he=>K.mem e (List.mem_append_right _ (List.mem_append_left _ he)),oI.slcOf fun e he=>K.mem e (List.mem_append_right _ (List.mem_append_right _ (List.mem_append_left _ he))),
  oN.slcOf fun e he=>K.mem e (List.mem_append_right _ (List.mem_append_right _ (List.mem_append_right _ he)))⟩
theorem VrX.vrS {h h':Hp} {sS sI sN:Sl} {p:Cr} (t:VrX h h' sS sI sN p):VrS h' sS sI sN p:=by
 obtain⟨XS,XI,XN,oS,oI,oN,K⟩:=t
 exact Yt (L:= []) oS oI oN K
namespace aC
end aC
theorem Rc (x:Int):mz x<=256:=by
 rw [BF];split<;>omega
theorem NW :mz 256=256:=by rw [BF];rfl
theorem Rw {σ:aC} (ok:σ.Ok):σ.depthI<=255:=by
 unfold aC.depthI
 cases hd:σ.depth with
 |none=>show (-1:Int)<=255;omega
 |some d=>
  show (d:Int)<=255
  have h1:=aC.depth_lt hd
  have h2:=aC.nLay_le σ
  have h3:=eO ok
  omega
theorem ER {σ:aC} (ok:σ.Ok):wj σ 256=if 0<=σ.depthI then⟨3,σ.depthI,σ.wit σ.depthI.toNat σ.begins,iW⟩else⟨2,(σ.nLay:Int)-1, [],cO σ.n σ.reach⟩:=by
 have h1:=Rw ok
 have h2:=aC.nLay_le σ
 have h3:=eO ok
 unfold wj
 rw [NW]
 by_cases e:0<=σ.depthI
 ·rw [if_pos e,if_pos ⟨e,by omega⟩]
 ·rw [if_neg e,if_neg fun q=>e q.1,if_pos ⟨by omega,by omega⟩]
theorem NM {σ:aC} (ok:σ.Ok) (x:Int):(wj σ x).kind=1\/wj σ x=wj σ 256:=by
 have h1:=Rc x
 rw [ER ok]
 unfold wj
 by_cases e:0<=σ.depthI/\σ.depthI<=mz x
 ·rw [if_pos e,if_pos e.1];exact .inr rfl
 ·rw [if_neg e]
  by_cases e2:σ.depthI<0/\(σ.nLay:Int)-1<mz x
  ·rw [if_pos e2,if_neg (by omega)];exact .inr rfl
  ·rw [if_neg e2];exact .inl rfl
theorem Tf (σ:aC) (x:Int):(wj σ x).kind≠0:=by
 unfold wj
 split
 ·show (3:Int)≠0;decide
 ·split
  ·show (2:Int)≠0;decide
  ·show (1:Int)≠0;decide
end Go.Lead
