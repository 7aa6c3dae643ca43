/- What functions of the program and of the reference come to, walked one by one, and plain laws about it: part 4. No condition is added to the statement. -/
import Derived.Test.YthfcbpocfmjefaaGreatZ2
namespace Go.Lead
open Go
set_option linter.unusedSimpArgs false
set_option linter.unusedVariables false
set_option maxRecDepth 100000
set_option maxHeartbeats 1000000
def vw (f:Nat->Bool) (c n:Nat):List Value:=(List.range n).map fun i=> .int .u8 (if(decide (i<c)&&f i)=true then 1 else 0)
theorem HK (f:Nat->Bool) (c n:Nat):(vw f c n).length=n:=by simp [vw]
theorem YY {f:Nat->Bool} {c n:Nat} (h:c<n):(vw f c n).set c (.int .u8 (if f c=true then 1 else 0))=vw f (c+1) n:=by
 apply List.ext_getElem
 ·simp [vw]
 ·intro i h1 h2
  simp only [vw,List.getElem_set,List.getElem_map,List.getElem_range]
  by_cases e:c=i
  ·subst e;simp
  ·rw [if_neg e]
   have:decide (i<c)=decide (i<c+1):=by rw [Bool.eq_iff_iff,decide_eq_true_eq,decide_eq_true_eq];omega
   rw [this]
theorem VI (f:Nat->Bool) (n:Nat):List.replicate n (Value.int .u8 0)=vw f 0 n:=by
 apply List.ext_getElem
 ·simp [vw]
 ·intro i h1 h2;simp [vw]
theorem YQ (f:Nat->Bool) (n:Nat):vw f (2^n) (2^n)=eh n f:=by
 unfold vw eh
 refine List.map_congr_left fun i hi=>?_
 rw [decide_eq_true (List.mem_range.1 hi),Bool.true_and]
theorem W4 (f:Nat->Bool) (c n:Nat):ww (vw f c n):=by
 intro j i h
 simp only [vw,List.getElem?_map,Option.map_eq_some_iff]at h
 obtain⟨a,_,h⟩:=h
 cases h
theorem acj (f:Nat->Bool) (c n:Nat): ∀(j:Nat) (t:Sl),(vw f c n)[j]?≠some t.v:=by
 intro j t h
 simp only [vw,List.getElem?_map,Option.map_eq_some_iff]at h
 obtain⟨a,_,h⟩:=h
 cases h
def yg (f:Nat->Nat->Bool) (K c k N:Nat):List (List Value):=(List.range K).map fun j=>vw (f j) (if j<k then c+1 else c) N
theorem Hx (f:Nat->Nat->Bool) (K c k N:Nat):(yg f K c k N).length=K:=by unfold yg;rw [List.length_map,List.length_range]
theorem ze {f:Nat->Nat->Bool} {K c k N j:Nat} (h:j<K):(yg f K c k N)[j]?=some (vw (f j) (if j<k then c+1 else c) N):=by
 unfold yg;rw [List.getElem?_map,List.getElem?_range h];rfl
theorem UA {f:Nat->Nat->Bool} {K c k N:Nat} (h:k<K):(yg f K c k N).set k (vw (f k) (c+1) N)=yg f K c (k+1) N:=by
 refine List.ext_getElem? fun j=>?_
 by_cases hj:j<K
 ·by_cases e:k=j
  ·subst e
   rw [List.getElem?_set_self (by rw [Hx];exact h),ze h,if_pos (by omega)]
  ·rw [List.getElem?_set_ne e,ze hj,ze hj]
   by_cases h2:j<k
   ·rw [if_pos h2,if_pos (by omega)]
   ·rw [if_neg h2,if_neg (by omega)]
 ·rw [List.getElem?_eq_none (by rw [List.length_set,Hx];omega),List.getElem?_eq_none (by rw [Hx];omega)]
theorem ZY (f:Nat->Nat->Bool) (K c N:Nat):yg f K c K N=yg f K (c+1) 0 N:=by
 unfold yg
 refine List.map_congr_left fun j hj=>?_
 rw [if_pos (List.mem_range.1 hj),if_neg (by omega)]
theorem ael (x w:Nat) (hx:x<65536) (hw:w<=64):IntKind.wrap .u8 (sD (mG (x:Int) (w:Int)) 1)=if x.testBit w=true then 1 else 0:=by
 rw [jn hw,Zo (by have:=Nat.div_le_self x (2^w);omega)]
 have e:x.testBit w=decide (x/2^w%2=1):=Nat.testBit_eq_decide_div_mod_eq ..
 rw [e]
 rcases Nat.mod_two_eq_zero_or_one (x/2^w)with h|h<;>rw [h]<;>rfl
set_option maxHeartbeats 1000000 in
theorem D0 {gB h:Hp} {m:ah} {vt:Sl} {ts:List Sl} {Xs:List (List (Nat×Blk))} {b54 b10 b41 b52 c a:Nat} {B:List Nat} {z1 z2 z3 z4:Nat} {R:Value->Hp->Prop} (g:cC m) (ha:a<m.nodes.length)
  (f54:gB b54=some (.inl ⟨[(arr b52 (nbA m.nodes a)).v],z1,false⟩)) (f10:gB b10=some (.inl ⟨[I (a:Nat)],z2,false⟩)) (f41:gB b41=some (.inl ⟨[I (az m.nodes a).idx,I (bG m.nodes a:Nat)],z3,false⟩))
  (f52:gB b52=some (.inl ⟨ts.map Sl.v,z4,false⟩)) (htl:ts.length=nbA m.nodes a) (hc:c<2^fh m) (hB:Xs.flatten.map Prod.fst=B) (oX:gX Xs ts 1 (yg (qe m a) (nbA m.nodes a) c 0 (2^fh m))) (K:Kn gB h Xs.flatten)
  (hpv:gD h vt (bR m (c%2^am m.nodes 36) (c/2^am m.nodes 36)))
  (kk: ∀h' Xs',Xs'.flatten.map Prod.fst=B->gX Xs' ts 1 (yg (qe m a) (nbA m.nodes a) (c+1) 0 (2^fh m))->Kn (h.wo B) h' Xs'.flatten->R (.tuple #[]) h'):
  tJ #[I (c:Nat),vt.v, .pointer (some ⟨b54,0,none⟩), .pointer (some ⟨b10,0,none⟩), .pointer (some ⟨b41,0,none⟩)] h R:=by
 apply BR
 refine uf_ ?_
 obtain⟨hK,hw1,hw2⟩:=Jw g ha
 have hp13:2^fh m<=2^13:=Nat.pow_le_pow_right (by omega) (by have:=g.n8;have:=g.k5;show am m.nodes 36+am m.nodes 35<=13;omega)
 have lB:gB.le (h.wo B):=hB▸K.leBase
 have KB:Kn (h.wo B) h Xs.flatten:=hB▸K.base
 have aV:=dk g (c%2^am m.nodes 36) (c/2^am m.nodes 36)
 have hfit:=oJ g.ok ha (aV.fit a ha ha)
 clear K
 generalize h.wo B=g5 at*
 replace f54:=lB _ _ f54
 replace f10:=lB _ _ f10
 replace f41:=lB _ _ f41
 replace f52:=lB _ _ f52
 (refine kr_ ?_)
 refine ar (nbA m.nodes a) (fun q vs h'=> ∃Xs:List (List (Nat×Blk)),vs= [I (c:Nat),vt.v, .pointer (some ⟨b54,0,none⟩), .pointer (some ⟨b10,0,none⟩), .pointer (some ⟨b41,0,none⟩),I (nbA m.nodes a:Nat),I (q:Nat)]/\Xs.flatten.map Prod.fst=B/\
  gX Xs ts 1 (yg (qe m a) (nbA m.nodes a) c q (2^fh m))/\Kn g5 h' Xs.flatten/\gD h' vt (bR m (c%2^am m.nodes 36) (c/2^am m.nodes 36))) ⟨Xs,rfl,hB,oX,KB,hpv⟩ ?_
 clear KB oX hB hpv Xs lB
 rintro q _ h2 next hq ⟨Xs,rfl,hB,oX,K2,hpv⟩ hnx
 refine⟨_,vt,b54,0,b10,0,b41,0,_,_,rfl,?_⟩
 by_cases hlq:q<nbA m.nodes a
 rotate_left
 ·obtain rfl:q=nbA m.nodes a:=by omega
  refine aA (decide_eq_false (by omega)) ?_
  rw [ZY]at oX
  exact kk h2 Xs hB oX K2
 refine aL (decide_eq_true (by omega)) ?_
 obtain⟨t,ht⟩: ∃t,ts[q]?=some t:=⟨_,List.getElem?_eq_getElem (by omega)⟩
 have f522:=K2.le _ _ f52
 have hcq:=ze (f:=qe m a) (c:=c) (k:=q) (N:=2^fh m) hlq
 rw [if_neg (by omega)]at hcq
 (refine kr_ ?_)
 refine⟨b52,0,rfl,by omega,by show _<((nbA m.nodes a:Nat):Int);omega,t,by rw [av f522,Int.toNat_natCast,Nat.zero_add,Nat.mul_one,List.getElem?_map,ht];rfl,?_⟩
 (refine kr_ ?_)
 obtain⟨bv,ov,u,hav,hvn',hcv,hu⟩:=hpv.at (p:=(a:Nat)) (by omega) (by rw [aV.len];omega)
 rw [Int.toNat_natCast]at hu
 have hun:=hu.len
 rw [aY,hfit.1]at hun
 refine⟨bv,ov,hav,by omega,hvn',u,hcv,?_⟩
 have hqc:q/bG m.nodes a<aE m.nodes a:=by
  unfold nbA at hlq
  exact Nat.div_lt_of_lt_mul hlq
 have hq1:W (Int.tdiv (q:Int) (bG m.nodes a:Nat))=((q/bG m.nodes a:Nat):Int):=by
  rw [tm,fj]
  have:=Nat.div_le_self q (bG m.nodes a)
  omega
 (refine kr_ ?_)
 rw [if_neg (by omega),hq1]
 obtain⟨bu,ou,hau,hcu,hiu⟩:=hu.elt (i:=q/bG m.nodes a) (by rw [hfit.1];exact hqc)
 refine⟨bu,ou,hau,Int.natCast_nonneg _,Int.ofNat_lt.2 (by rw [hun];exact hqc),_,by rw [Int.toNat_natCast];exact hcu,?_⟩
 (refine kr_ ?_)
 rw [if_neg (by omega),ee,if_neg (Int.not_lt.2 (Int.natCast_nonneg _))]
 repeat' (refine kr_ ?_)
 have hxlt:((bR m (c%2^am m.nodes 36) (c/2^am m.nodes 36)).getD a []).getD (q/bG m.nodes a) 0<65536:=by
  have hl:q/bG m.nodes a<((bR m (c%2^am m.nodes 36) (c/2^am m.nodes 36)).getD a []).length:=by rw [hfit.1];exact hqc
  generalize (bR m (c%2^am m.nodes 36) (c/2^am m.nodes 36)).getD a []=xs at*
  have:=hfit.2 (xs.getD (q/bG m.nodes a) 0) (by rw [List.getD_eq_getElem?_getD,List.getElem?_eq_getElem hl];exact List.getElem_mem hl)
  have hp:=Nat.pow_le_pow_right (n:=2) (by omega) hw2
  omega
 rw [ael _ _ hxlt (by have:=Nat.mod_lt q (show 0<bG m.nodes a by omega);omega)]
 obtain⟨b,Xs',hta,oX',up⟩:=oX.upd (A:= []) (i:=c) (v:= .int .u8 (if qe m a q c=true then 1 else 0)) ht hcq (by rw [HK];exact hc)
 have hB':=gX.keys up
 rw [YY hc,UA hlq]at oX'
 have hfb:=K2.at (show _∈Xs.flatten from up.mem)
 have htn:t.n=2^fh m:=by
  obtain⟨X,_,oXq⟩:=oX.get ht hcq
  have:=oXq.1
  rw [HK]at this;omega
 refine⟨b,0,hta,by omega,by omega,?_⟩
 rw [show (0+Int.toNat (c:Int)*1)=c by simp]
 have u':Upd Xs.flatten b (.inl ⟨vw (qe m a q) c (2^fh m),t.c*1,false⟩) (.inl ⟨cl (vw (qe m a q) c (2^fh m)) c [.int .u8 (if qe m a q c=true then 1 else 0)],t.c*1,false⟩) Xs'.flatten:=up
 refine K2.wr u' (by rw [HK];omega) fun h3 K3 kp=>?_
 rw [aw (by omega)]
 exact hnx hlq _ _ ⟨Xs',rfl,hB'.trans hB,oX',K3,hpv.keep hfb (W4 _ _ _) (acj _ _ _) kp⟩
theorem gX.snoc {Xs:List (List (Nat×Blk))} {ts:List Sl} {sz:Nat} {css:List (List Value)} {X:List (Nat×Blk)} {t:Sl} {cs:List Value} (o:gX Xs ts sz css) (g:bW X t sz cs):gX (Xs++ [X]) (ts++ [t]) sz (css++ [cs]):=by
 have e1:=o.l1
 have e2:=o.l2
 refine⟨by simp [e1],by simp [e2],fun k Y u ds hY hu hd=>?_⟩
 by_cases hk:k<ts.length
 ·rw [List.getElem?_append_left (by omega)]at hY hu hd
  exact o.at_ k Y u ds hY hu hd
 ·have:=get_lt hu
  simp at this
  obtain rfl:k=ts.length:=by omega
  rw [List.getElem?_append_right (by omega),show ts.length-Xs.length=0 by omega]at hY
  rw [List.getElem?_append_right (Nat.le_refl _),Nat.sub_self]at hu
  rw [List.getElem?_append_right (by omega),show ts.length-css.length=0 by omega]at hd
  simp at hY hu hd
  subst hY;subst hu;subst hd
  exact g
theorem VM (f:Nat->Nat->Bool) (K N:Nat):yg f (K+1) 0 0 N=yg f K 0 0 N++ [vw (f K) 0 N]:=by
 unfold yg
 rw [List.range_succ,List.map_append];rfl
set_option maxHeartbeats 4000000 in
theorem t9 {h:Hp} {M:MSl} {m:ah} {x:Int} {R:Value->Hp->Prop} (hs:aM h M m) (hm:bP m)
  (k: ∀s h' X XO Xs ts,Kn h h' X->xL X s (rf m x) XO Xs ts->R (.tuple #[Sl.v s, .bool (i7 m x)]) h'):jf #[aQ M,I x] h R:=by
 apply F7
 refine uf_ ?_
 (with_reducible apply Kn.al);(exact Kn.nil h);(intro b8 h1 K1 l1 hb8)
 refine Kn.al K1 fun b10 h2 K2 l2 hb10=>?_
 clear K1
 have hnn:=hs.nodes.len
 have hns:=hm.nodes
 have no: ∀{h':Hp},i7 m x=false->h.le h'->R (.tuple #[.slice none 0 0, .bool false]) h':=by
  intro h' e l
  have:=k ⟨none,0,0⟩ h' [] [] [] [] (Kn.of l) (by rw [I9 e];exact Gd)
  rw [e]at this
  exact this
 refine aq (fun J=> ∀c,(c=true->i7 m x=false)->(c=false->aD m=0/\0<=x/\x<m.nodes.length)->J c h2) (fun c hc1 hc2=>ad (fun e=>no (hc1 e) K2.le) (fun e=>?_)) (fun J hJ=>?_)
 rotate_left
 ·repeat' (refine kr_ ?_)
  refine ib (hs.mono K2.le) hm ⟨_,rfl,ad (fun e=>hJ _ (fun _=>?_) (fun e=>nomatch e)) (fun e=>?_)⟩
  ·unfold i7
   rw [decide_eq_false (jT e),Bool.false_and]
  repeat' (refine kr_ ?_)
  refine sP hnn hm.nodes ⟨_,rfl,hJ _ (fun q=>?_) (fun q=>?_)⟩
  ·unfold i7
   rw [Bool.not_eq_true',Bool.eq_false_iff]at q
   rw [decide_eq_false (p:=0<=x/\x<=(m.nodes.length:Int)-1) (fun r=>q (eU.2 (by omega))),Bool.false_and,Bool.and_false]
  ·rw [Bool.not_eq_false']at q
   have:=eU.1 q
   exact⟨ja e,this.1,this.2⟩
 obtain⟨hc,x0,x1⟩:=hc2 e
 clear hc1 hc2 e c
 obtain⟨a,rfl⟩: ∃a:Nat,x=a:=⟨x.toNat,by omega⟩
 have ha:a<m.nodes.length:=by omega
 have g:=cH hc
 have n8:=g.n8
 have k5:=g.k5
 obtain⟨hK,hw1,hw2⟩:=Jw g ha
 have hok:i7 m (a:Nat)=(sq m a).all (·.ok):=by
  unfold i7
  rw [decide_eq_true hc,decide_eq_true ⟨by omega,by omega⟩,Bool.true_and,Bool.true_and,Int.toNat_natCast]
 have hR:i7 m (a:Nat)=true->rf m (a:Nat)=sq m a:=fun e=>by unfold rf;rw [e,if_pos rfl,Int.toNat_natCast]
 have hp13:2^fh m<=2^13:=Nat.pow_le_pow_right (by omega) (by show am m.nodes 36+am m.nodes 35<=13;omega)
 have hv13:fh m<=13:=by show am m.nodes 36+am m.nodes 35<=13;omega
 repeat' (refine kr_ ?_)
 obtain⟨bn,on,han,hpn',c6,c7,w1,w16⟩:=(hs.mono K2.le).nodes.sortc2 ha g.ok
 refine⟨bn,on,han,by omega,hpn',_,c6,_,c7,?_⟩
 refine Kn.al K2 fun b41 h3 K3 l3 hb41=>?_
 refine kw_ ?_
 intro h4 K4 _
 simp only [cl,List.set_cons_zero,List.set_cons_succ,Nat.zero_add,Nat.reduceAdd]at K4
 clear K2 K3 c6 c7 han hpn'
 repeat' (refine kr_ ?_)
 refine nF ⟨_,rfl,?_⟩
 have e1:dx ⟨(az m.nodes a).idx,(bG m.nodes a:Nat)⟩=nbA m.nodes a:=by
  unfold dx nbA
  rw [mW g.ok ha,Int.toNat_natCast,Nat.mul_comm]
 rw [e1]
 refine⟨by omega,by omega,by omega,by omega,?_⟩
 rw [Int.toNat_natCast,Nat.mul_one,cr]
 refine Kn.al K4 fun b52 h5 K5 l5 hb52=>?_
 refine Kn.al K5 fun b54 h6 K6 l6 hb54=>?_
 clear K4 K5
 refine kw_ ?_
 intro h7 K7 _
 simp only [cl,List.set_cons_zero,List.set_cons_succ,Nat.zero_add,Nat.reduceAdd]at K7
 clear K6
 replace K7:Kn h h7 ((b54, .inl ⟨[(arr b52 (nbA m.nodes a)).v],1,false⟩)::(b52, .inl ⟨List.replicate (nbA m.nodes a) (.slice none 0 0),nbA m.nodes a,false⟩)::(b41, .inl ⟨[I (az m.nodes a).idx,I (bG m.nodes a:Nat)],2,false⟩)::(b10, .inl ⟨[I (a:Nat)],1,false⟩)::(b8, .inl ⟨aG M,5,false⟩):: []):=K7
 (refine kr_ ?_)
 obtain⟨gA,KA,KL⟩:=Kn.cut (A:= [(b54, .inl ⟨[(arr b52 (nbA m.nodes a)).v],1,false⟩),(b41, .inl ⟨[I (az m.nodes a).idx,I (bG m.nodes a:Nat)],2,false⟩),(b10, .inl ⟨[I (a:Nat)],1,false⟩),(b8, .inl ⟨aG M,5,false⟩)])
  (L:= [(b52, .inl ⟨List.replicate (nbA m.nodes a) (.slice none 0 0),nbA m.nodes a,false⟩)]) (K7.perm (List.Perm.cons _ (List.perm_append_comm (l₁:= [_]))))
 have f54:=KA.at (b:=b54) (by((focus ((repeat first|exact .head _|apply List.Mem.tail);done))))
 have f41:=KA.at (b:=b41) (by((focus ((repeat first|exact .head _|apply List.Mem.tail);done))))
 have f10:=KA.at (b:=b10) (by((focus ((repeat first|exact .head _|apply List.Mem.tail);done))))
 have f8:=KA.at (b:=b8) (by((focus ((repeat first|exact .head _|apply List.Mem.tail);done))))
 have x54:=bV f54
 have x41:=bV f41
 have x10:=bV f10
 have x8:=bV f8
 have hsA:=hs.mono KA.le
 have l0A:=KA.le
 clear K7 KA
 have hsum:W (((am m.nodes 36:Nat):Int)+((am m.nodes 35:Nat):Int))=((fh m:Nat):Int):=by rw [bQ (by omega) (by omega)];show _=((am m.nodes 36+am m.nodes 35:Nat):Int);omega
 refine ar (nbA m.nodes a) (fun i vs h'=> ∃(us:List Sl) (Xs:List (List (Nat×Blk))),vs= [.pointer (some ⟨b8,0,none⟩), .pointer (some ⟨b10,0,none⟩), .pointer (some ⟨b41,0,none⟩), .pointer (some ⟨b54,0,none⟩),I (nbA m.nodes a:Nat),I (i:Nat)]/\us.length=i/\
  Kn gA h' ((b52, .inl ⟨us.map Sl.v++List.replicate (nbA m.nodes a-i) (.slice none 0 0),nbA m.nodes a,false⟩)::Xs.flatten)/\gX Xs us 1 (yg (qe m a) i 0 0 (2^fh m)))
  ⟨[], [],rfl,rfl,by simpa using KL,⟨rfl,rfl,fun k X t cs h=>by simp at h⟩⟩ ?_
 clear KL
 rintro i _ h8 next hi ⟨us,Xs,rfl,hul,K8,oX⟩ hnx
 refine⟨b8,0,b10,0,b41,0,b54,0,_,_,rfl,?_⟩
 by_cases hlt:i<nbA m.nodes a
 ·refine aL (decide_eq_true (by omega)) ?_
  repeat' (refine kr_ ?_)
  refine fI (hsA.mono K8.le) hm ⟨_,rfl,?_⟩
  repeat' (refine kr_ ?_)
  refine fI (hsA.mono K8.le) hm ⟨_,rfl,?_⟩
  repeat' (refine kr_ ?_)
  rw [hsum,if_neg (by omega),cg (by omega)]
  refine⟨Int.natCast_nonneg _,Int.le_refl _,by omega,by omega,?_⟩
  rw [Int.toNat_natCast,Nat.mul_one,cr]
  refine Kn.al K8 fun b97 h9 K9 l9 hb97=>?_
  repeat' (refine kr_ ?_)
  clear K8
  refine⟨by omega,by show _<((nbA m.nodes a:Nat):Int);omega,?_⟩
  rw [show (0+Int.toNat (i:Int)*1)=i by simp]
  (((with_reducible apply Kn.wr);(assumption);((focus ((repeat first|exact .head|apply Upd.tail);done)))))
  ·simp;omega
  intro h10 K10 _
  rw [aw (by omega)]
  have hset:cl (us.map Sl.v++List.replicate (nbA m.nodes a-i) (.slice none 0 0)) i [.slice (some (Addr.mk b97 0 none)) (2^fh m) (2^fh m)]=(us++ [arr b97 (2^fh m)]).map Sl.v++List.replicate (nbA m.nodes a-(i+1)) (.slice none 0 0):=by
   rw [bD,List.set_append_right _ _ (by simp;omega),List.length_map,hul,Nat.sub_self,show nbA m.nodes a-i=(nbA m.nodes a-(i+1))+1 by omega,List.replicate_succ,List.set_cons_zero,List.map_append,List.append_assoc];rfl
  rw [hset]at K10
  refine hnx hlt _ _ ⟨us++ [arr b97 (2^fh m)],Xs++ [[(b97, .inl ⟨List.replicate (2^fh m) (.int .u8 0),2^fh m,false⟩)]],rfl,by simp [hul],?_,?_⟩
  ·rw [List.flatten_append,List.flatten_cons,List.flatten_nil,List.append_nil]
   refine K10.perm ?_
   refine(List.Perm.swap _ _ _).trans (List.Perm.cons _ ?_)
   exact List.perm_append_comm (l₁:= [_])
  ·rw [VM]
   refine oX.snoc ?_
   rw [<-VI]
   exact⟨by simp,Nat.le_refl _, .inr ⟨b97,rfl,by rw [Nat.mul_one]⟩⟩
 refine aA (decide_eq_false (by omega)) ?_
 obtain rfl:i=nbA m.nodes a:=by omega
 clear hnx hlt hi
 rw [Nat.sub_self,List.replicate_zero,List.append_nil]at K8
 obtain⟨g0,KB,KL⟩:=Kn.cut (A:= [_]) K8
 have f52:=KB.at (.head _)
 have lA0:=KB.le
 replace f54:=lA0 _ _ f54
 replace f41:=lA0 _ _ f41
 replace f10:=lA0 _ _ f10
 replace f8:=lA0 _ _ f8
 have hs0:=hsA.mono lA0
 have l00:=Hp.le_trans l0A lA0
 clear K8 KB
 repeat' (refine kr_ ?_)
 refine LG (B:=Xs.flatten.map Prod.fst) (st:=fun c h'=> ∃Xs',Xs'.flatten.map Prod.fst=Xs.flatten.map Prod.fst/\gX Xs' us 1 (yg (qe m a) (nbA m.nodes a) c 0 (2^fh m))/\Kn g0 h' Xs'.flatten) (hs0.mono KL.leBase) hm g KL.has
  (fun c h1 h2 ⟨Xs',e1,e2,e3⟩ l=>⟨Xs',e1,e2,e3.mono l⟩) ⟨Xs,rfl,oX,KL⟩ (fun c hc' h1 t l ⟨Xs',e1,e2,e3⟩ hpv R' kk=>?_) (fun h9 l9 ⟨Xs',e1,e2,e3⟩=>⟨rfl,?_⟩)
 ·exact D0 g ha f54 f10 f41 f52 hul hc' e1 e2 e3 hpv fun h2 Xs2 q1 q2 q3=>kk h2 ⟨Xs2,q1,q2,q3.weak (e1▸e3.leBase)⟩ q3.le
 replace e2:gX Xs' us 1 (yg (qe m a) (nbA m.nodes a) (2^fh m) 0 (2^fh m)):=e2
 have hT: ∀q t,us[q]?=some t->Bl h9 t (fh m) (qe m a q):=by
  intro q t ht
  have hql:=get_lt ht
  have hcq:=ze (f:=qe m a) (c:=2^fh m) (k:=0) (N:=2^fh m) (show q<nbA m.nodes a by omega)
  rw [if_neg (by omega),YQ]at hcq
  obtain⟨X,hX,oXq⟩:=e2.get ht hcq
  have hn:=oXq.1
  rw [xu]at hn
  exact(oXq.buf fun e he=>e3.mem e (List.mem_flatten.2 ⟨X,List.mem_of_getElem? hX,he⟩)).slc_of (by omega)
 have f529:=e3.le _ _ f52
 have l09:=Hp.le_trans l00 e3.le
 have K9:=Kn.of e3.le
 (refine kr_ ?_)
 clear K9 e2 e3 oX KL l9
 refine ar (nbA m.nodes a) (fun q vs h'=> ∃(s:Sl) (X XO:List (Nat×Blk)) (Xs:List (List (Nat×Blk))) (ws:List Sl),vs= [s.v,(arr b52 (nbA m.nodes a)).v,I (nbA m.nodes a:Nat),I (q:Nat)]/\Kn h9 h' X/\xL X s ((sq m a).take q) XO Xs ws/\((sq m a).take q).all (·.ok)=true)
  ⟨⟨none,0,0⟩, [], [], [], [],rfl,Kn.nil h9,Gd,rfl⟩ ?_
 rintro q _ h5 next hq ⟨s,X,XO,Xs,ws,rfl,K5,oB,hall⟩ hnx
 refine⟨s,arr b52 (nbA m.nodes a),_,_,rfl,?_⟩
 by_cases hlq:q<nbA m.nodes a
 rotate_left
 ·refine aA (decide_eq_false (by omega)) ?_
  rw [List.take_of_length_le (by rw [qB];omega)]at oB hall
  have e:=hok.trans hall
  have:=k s h5 X XO Xs ws (K5.weak l09) (by rw [hR e];exact oB)
  rwa [e]at this
 refine aL (decide_eq_true (by omega)) ?_
 obtain⟨t,ht⟩: ∃t,us[q]?=some t:=⟨_,List.getElem?_eq_getElem (by omega)⟩
 have hd:=EB (m:=m) (a:=a) hlq
 refine⟨b52,0,rfl,by omega,by show _<((nbA m.nodes a:Nat):Int);omega,t,by rw [av (K5.le _ _ f529),Int.toNat_natCast,Nat.zero_add,Nat.mul_one,List.getElem?_map,ht];rfl,?_⟩
 refine Km hv13 ((hT q t ht).mono K5.le) fun w h6 l6 ow=>⟨_,_,_,_,rfl,?_⟩
 have htk:=qw hd
 generalize dY (fh m:Nat) (qe m a q)=d at*
 obtain⟨Y,oY,K6⟩:=K5.addOwn l6 ow
 clear K5
 refine Kn.al K6 fun b164 h7 K7 l7 hb164=>?_
 clear K6
 refine kw_ ?_
 intro h8 K8 _
 simp only [cl,List.set_cons_zero,List.set_cons_succ,Nat.zero_add,Nat.reduceAdd]at K8
 clear K7
 refine ad (fun e=>no ?_ (Hp.le_trans l09 K8.le)) (fun e=>?_)
 ·rw [Bool.not_eq_true']at e
  rw [hok]
  exact pU hd e
 rw [Bool.not_eq_false']at e
 repeat' (refine kr_ ?_)
 refine Kn.al K8 fun b176 h9' K9 l9 hb176=>?_
 clear K8
 have f176:=K9.at (.head _)
 rw [oB.eq]at K9
 rw [List.append_assoc]at K9
 have lens:=oB.out.1
 have e1:=oB.l2
 rw [List.length_take,qB]at e1
 refine Kn.growIn (A:= [_,_]) K9 oB.out (by omega) ?_ ?_ ⟨b176,0,rfl,au f176⟩ rfl rfl fun s' XO' h10 hn' oO' K10 l10=>?_
 ·rw [ce (m:=3) (fun _=>rfl),List.length_zip]at lens
  have:=oB.l2
  omega
 ·rw [ce (m:=3) (fun _=>rfl),List.length_zip]at lens
  have:=oB.l2
  omega
 rw [aw (by omega)]
 refine hnx hlq _ _ ⟨s',XO'++(Xs++ [Y]).flatten,XO',Xs++ [Y],ws++ [w],rfl,?_,?_,?_⟩
 ·have:=K10.tl.tl
  rw [List.flatten_append,List.flatten_cons,List.flatten_nil,List.append_nil]
  exact this
 ·rw [htk];exact oB.snoc oY oO'
 ·rw [htk,List.all_append,hall];simp [e]
theorem xL.get {X XO:List (Nat×Blk)} {Xs:List (List (Nat×Blk))} {ts:List Sl} {s:Sl} {ds:List Bd} {g h:Hp} {k:Nat} {d:Bd} (o:xL X s ds XO Xs ts) (K:Kn g h X) (hl:ds.length<=1000) (hk:ds[k]?=some d):
  ∃b q t,s.a=some (Addr.mk b q none)/\(0:Int)<=(k:Nat)/\((k:Nat):Int)<(s.n:Int)/\Hp.cell h b (q+Int.toNat ((k:Nat):Int)*3)=some (I d.v)/\Hp.cell h b ((q+Int.toNat ((k:Nat):Int)*3)+1)=some (Sl.v t)/\Hp.cell h b ((q+Int.toNat ((k:Nat):Int)*3)+2)=some (I d.r)/\SlC h t 3 (cP d.ns):=by
 have hkl:=get_lt hk
 have e1:=o.l1
 have e2:=o.l2
 obtain⟨t,ht⟩: ∃t,ts[k]?=some t:=⟨_,List.getElem?_eq_getElem (by omega)⟩
 obtain⟨Y,hY⟩: ∃Y,Xs[k]?=some Y:=⟨_,List.getElem?_eq_getElem (by omega)⟩
 have oY:=o.inn k Y t d hY ht hk
 have lo:=o.out.1
 rw [ce (m:=3) (fun _=>rfl),List.length_zip]at lo
 have hm1: ∀e∈XO,h e.1=some e.2:=fun e he=>K.mem e (by rw [o.eq];exact List.mem_append_left _ he)
 have hm2: ∀e∈Y,h e.1=some e.2:=fun e he=>K.mem e (by rw [o.eq];exact List.mem_append_right _ (List.mem_flatten.2 ⟨Y,List.mem_of_getElem? hY,he⟩))
 obtain⟨b,q,ha,hcc⟩:=SlC.get ((o.out.buf hm1).slc_of (by omega)) (by omega)
 have hz:(ts.zip ds)[k]?=some (t,d):=by
  rw [List.getElem?_zip_eq_some];exact⟨ht,hk⟩
 have cc: ∀j v,j<3-> [I d.v,t.v,I d.r][j]?=some v->Hp.cell h b ((q+k*3)+j)=some v:=fun j v hj hv=>by
  rw [Nat.add_assoc]
  refine hcc _ _ ?_
  rw [lw (m:=3) (fun _=>rfl) (ts.zip ds) k (t,d) j hz hj];exact hv
 refine⟨b,q,t,ha,by omega,by omega,?_,?_,?_,oY.slcOf hm2⟩
 ·rw [Int.toNat_natCast];exact cc 0 _ (by omega) rfl
 ·rw [Int.toNat_natCast];exact cc 1 _ (by omega) rfl
 ·rw [Int.toNat_natCast];exact cc 2 _ (by omega) rfl
theorem xL.len {X XO:List (Nat×Blk)} {Xs:List (List (Nat×Blk))} {ts:List Sl} {s:Sl} {ds:List Bd} (o:xL X s ds XO Xs ts):s.n=ds.length:=by
 have lo:=o.out.1
 have:=o.l2
 rw [ce (m:=3) (fun _=>rfl),List.length_zip]at lo
 omega
def rR (ts:List Sl) (es:List (Int×Int×List Value)):List Value:=(ts.zip es).flatMap fun e=> [I e.2.1,e.1.v,I e.2.2.1]
theorem sU (t:Sl) (ts:List Sl) (e:Int×Int×List Value) (es:List (Int×Int×List Value)):rR (t::ts) (e::es)=I e.1::t.v::I e.2.1::rR ts es:=rfl
theorem Dr {ts:List Sl} {es:List (Int×Int×List Value)} {k:Nat} {t:Sl} {e:Int×Int×List Value} (ht:ts[k]?=some t) (he:es[k]?=some e) (j:Nat) (v:Value) (hj:j<3) (hv: [I e.1,t.v,I e.2.1][j]?=some v):(rR ts es)[k*3+j]?=some v:=by
 unfold rR
 rw [lw (m:=3) (fun _=>rfl) (ts.zip es) k (t,e) j (by rw [List.getElem?_zip_eq_some];exact⟨ht,he⟩) hj];exact hv
theorem LA : ∀{ts:List Sl} {es:List (Int×Int×List Value)} {k:Nat} {e:Int×Int×List Value} (x:Int),ts.length=es.length->es[k]?=some e->(rR ts es).set (k*3) (I x)=rR ts (es.set k (x,e.2))
 | [], [],k,e,x,_,h=>by simp at h
 | [],_::_,k,e,x,hl,h=>by simp at hl
 |_::_, [],k,e,x,hl,h=>by simp at hl
 |t::ts,e0::es,0,e,x,_,h=>by cases h;rfl
 |t::ts,e0::es,k+1,e,x,hl,h=>by
  rw [show (k+1)*3=k*3+3 by omega,List.set_cons_succ,sU,sU,List.set_cons_succ,List.set_cons_succ,List.set_cons_succ,LA x (by simpa using hl) (by simpa using h)]
theorem Mv : ∀{ts:List Sl} {es:List (Int×Int×List Value)} {k:Nat} {e:Int×Int×List Value} (x:Int),ts.length=es.length->es[k]?=some e->(rR ts es).set (k*3+2) (I x)=rR ts (es.set k (e.1,x,e.2.2))
 | [], [],k,e,x,_,h=>by simp at h
 | [],_::_,k,e,x,hl,h=>by simp at hl
 |_::_, [],k,e,x,hl,h=>by simp at hl
 |t::ts,e0::es,0,e,x,_,h=>by cases h;rfl
 |t::ts,e0::es,k+1,e,x,hl,h=>by
  rw [show (k+1)*3+2=k*3+2+3 by omega,List.set_cons_succ,sU,sU,List.set_cons_succ,List.set_cons_succ,List.set_cons_succ,Mv x (by simpa using hl) (by simpa using h)]
theorem Lt : ∀{ts:List Sl} {es:List (Int×Int×List Value)} {k:Nat} {e:Int×Int×List Value} (cs:List Value),es[k]?=some e->rR ts (es.set k (e.1,e.2.1,cs))=rR ts es
 | [],_,k,e,cs,_=>rfl
 |_::_, [],k,e,cs,_=>by simp
 |t::ts,e0::es,0,e,cs,h=>by cases h;rfl
 |t::ts,e0::es,k+1,e,cs,h=>by
  rw [List.set_cons_succ,sU,sU,Lt cs (by simpa using h)]
structure Bw (X:List (Nat×Blk)) (s:Sl) (es:List (Int×Int×List Value)) (XO:List (Nat×Blk)) (Xs:List (List (Nat×Blk))) (ts:List Sl):Prop where
 eq:X=XO++Xs.flatten
 l1:Xs.length=ts.length
 l2:es.length=ts.length
 out:bW XO s 3 (rR ts es)
 inn: ∀(k:Nat) Y t e,Xs[k]?=some Y->ts[k]?=some t->es[k]?=some e->k8 Y t 3 e.2.2
theorem xL.toC {X XO:List (Nat×Blk)} {Xs:List (List (Nat×Blk))} {ts:List Sl} {s:Sl} {ds:List Bd} (o:xL X s ds XO Xs ts):Bw X s (ds.map fun d=>(d.v,d.r,cP d.ns)) XO Xs ts:=by
 refine⟨o.eq,o.l1,by rw [List.length_map];exact o.l2,?_,fun k Y t e hY ht he=>?_⟩
 ·have:=o.out
  unfold rR
  rw [List.zip_map_right,List.flatMap_map]
  exact this
 ·rw [List.getElem?_map]at he
  obtain⟨d,hd,rfl⟩:=Option.map_eq_some_iff.1 he
  exact o.inn k Y t d hY ht hd
theorem Bw.len {X XO:List (Nat×Blk)} {Xs:List (List (Nat×Blk))} {ts:List Sl} {s:Sl} {es:List (Int×Int×List Value)} (o:Bw X s es XO Xs ts):s.n=ts.length:=by
 have h1:=o.out.1
 have h2:=o.l2
 unfold rR at h1
 rw [ce (m:=3) (fun _=>rfl),List.length_zip]at h1
 omega
theorem Bw.inner {g h h':Hp} {A X XO:List (Nat×Blk)} {Xs:List (List (Nat×Blk))} {ts:List Sl} {s t:Sl} {es:List (Int×Int×List Value)} {e:Int×Int×List Value} {k:Nat} {cs':List Value}
  (o:Bw X s es XO Xs ts) (K:Kn g h (A++X)) (ht:ts[k]?=some t) (he:es[k]?=some e) (l:(h.wo t.used).le h') (o':Own h' t 3 cs'):
  ∃X' Xs',Bw X' s (es.set k (e.1,e.2.1,cs')) XO Xs' ts/\Kn g h' (A++X'):=by
 have e1:=o.l1
 have hk:=get_lt ht
 obtain⟨Y,hY⟩: ∃Y,Xs[k]?=some Y:=⟨_,List.getElem?_eq_getElem (by omega)⟩
 have oY:=o.inn k Y t e hY ht he
 have K1:Kn g h ((A++XO++(Xs.take k).flatten++(Xs.drop (k+1)).flatten)++Y):=K.perm (by
  rw [o.eq,ub hY]
  simp only [List.append_assoc]
  exact((List.perm_append_comm.append_left _).append_left _).append_left _)
 obtain⟨Y',oY',K2⟩:=oY.mark K1 l o'
 refine⟨XO++(Xs.set k Y').flatten,Xs.set k Y',⟨rfl,by simp [o.l1],by simp [o.l2],by rw [Lt _ he];exact o.out,fun j Z u e' hZ hu he'=>?_⟩,K2.perm ?_⟩
 ·by_cases q:k=j
  ·subst q
   rw [List.getElem?_set_self (get_lt hY)]at hZ
   rw [List.getElem?_set_self (get_lt he)]at he'
   cases hZ;cases he'
   rw [ht]at hu;cases hu
   exact oY'
  ·rw [List.getElem?_set_ne q]at hZ he'
   exact o.inn j Z u e' hZ hu he'
 ·rw [Jc (by omega)]
  simp only [List.append_assoc]
  exact((List.perm_append_comm.append_left _).append_left _).append_left _
theorem Bw.own {g h:Hp} {A X XO:List (Nat×Blk)} {Xs:List (List (Nat×Blk))} {ts:List Sl} {s t:Sl} {es:List (Int×Int×List Value)} {e:Int×Int×List Value} {k:Nat}
  (o:Bw X s es XO Xs ts) (K:Kn g h (A++X)) (ht:ts[k]?=some t) (he:es[k]?=some e):Own h t 3 e.2.2:=by
 have e1:=o.l1
 have hk:=get_lt ht
 obtain⟨Y,hY⟩: ∃Y,Xs[k]?=some Y:=⟨_,List.getElem?_eq_getElem (by omega)⟩
 have oY:=o.inn k Y t e hY ht he
 have K1:Kn g h ((A++XO++(Xs.take k).flatten++(Xs.drop (k+1)).flatten)++Y):=K.perm (by
  rw [o.eq,ub hY]
  simp only [List.append_assoc]
  exact((List.perm_append_comm.append_left _).append_left _).append_left _)
 exact oY.own K1
theorem Bw.put {X XO:List (Nat×Blk)} {Xs:List (List (Nat×Blk))} {ts:List Sl} {s:Sl} {es es':List (Int×Int×List Value)} {b:Nat} (o:Bw X s es XO Xs ts) (ha:s.a=some ⟨b,0,none⟩)
  (hl:es'.length=es.length) (hc: ∀(k:Nat) e',es'[k]?=some e'-> ∃e,es[k]?=some e/\e.2.2=e'.2.2):
  Bw ([(b, .inl ⟨rR ts es',s.c*3,false⟩)]++Xs.flatten) s es' [(b, .inl ⟨rR ts es',s.c*3,false⟩)] Xs ts:=by
 refine⟨rfl,o.l1,by rw [hl];exact o.l2,⟨?_,o.out.2.1, .inr ⟨b,ha,rfl⟩⟩,fun k Y t e hY ht he=>?_⟩
 ·rw [o.len]
  unfold rR
  rw [ce (m:=3) (fun _=>rfl),List.length_zip,hl,o.l2,Nat.min_self]
 ·obtain⟨e0,h0,h1⟩:=hc k e he
  rw [<-h1]
  exact o.inn k Y t e0 hY ht h0
theorem S4 {es:List (Int×Int×List Value)} {k:Nat} {e:Int×Int×List Value} (he:es[k]?=some e) (x y:Int): ∀(j:Nat) e',(es.set k (x,y,e.2.2))[j]?=some e'-> ∃e,es[j]?=some e/\e.2.2=e'.2.2:=by
 intro j e' h
 by_cases q:k=j
 ·subst q
  rw [List.getElem?_set_self (get_lt he)]at h
  cases h
  exact⟨e,he,rfl⟩
 ·rw [List.getElem?_set_ne q]at h
  exact⟨e',h,rfl⟩
def kA (ts:List Sl) (j:Nat):Nat:=1+((ts.take j).map fun t=>t.n*3+2).sum
theorem TM {ts:List Sl} {j:Nat} {t:Sl} (h:ts[j]?=some t):kA ts (j+1)=kA ts j+(t.n*3+2):=by
 unfold kA
 rw [qw h,List.map_append,List.sum_append]
 simp;omega
theorem ac4 {ts:List Sl} (hb: ∀t∈ts,t.n<=1000) (hl:ts.length<=1000) (j:Nat):kA ts j<=3100000:=by
 have hsum: ∀l:List Sl,(∀t∈l,t.n<=1000)->(l.map fun t=>t.n*3+2).sum<=l.length*3002:=by
  intro l
  induction l with
  |nil=>intro _;simp
  |cons t l ih=>
   intro h
   have h1:=h t (.head _)
   have h2:=ih fun u hu=>h u (.tail _ hu)
   rw [List.map_cons,List.sum_cons,List.length_cons]
   omega
 have h1:=hsum (ts.take j) fun t ht=>hb t (List.mem_of_mem_take ht)
 have h2:(ts.take j).length<=1000:=by rw [List.length_take];omega
 unfold kA
 omega
def Mkd (ts:List Sl) (es:List (Int×Int×List Value)) (j:Nat):Prop:= ∀i t,i<j->ts[i]?=some t->es[i]?=some (((kA ts i:Nat):Int),((kA ts i+1+t.n*3:Nat):Int),cj ((kA ts i+1:Nat):Int) (t.n*3))
set_option maxHeartbeats 1000000 in
theorem Kg {g h:Hp} {A X XO:List (Nat×Blk)} {Xs:List (List (Nat×Blk))} {ts:List Sl} {s:Sl} {es:List (Int×Int×List Value)} {R:Value->Hp->Prop}
  (o:Bw X s es XO Xs ts) (K:Kn g h (A++X)) (hl:ts.length<=1000) (hb: ∀t∈ts,t.n<=1000)
  (k: ∀h' X' XO' Xs' es',Bw X' s es' XO' Xs' ts->Mkd ts es' ts.length->Kn g h' (A++X')->R (I (kA ts ts.length:Nat)) h'):rP #[s.v,I 1] h R:=by
 apply FB
 refine uf_ ?_
 have hn:=o.len
 refine ar ts.length (fun i vs h'=>vs= [s.v,I (kA ts i:Nat),I (i:Nat)]/\ ∃X XO Xs es,Bw X s es XO Xs ts/\Mkd ts es i/\Kn g h' (A++X)) ⟨rfl,X,XO,Xs,es,o,fun i t h=>by omega,K⟩ ?_
 clear o K X XO Xs es
 rintro i _ h1 next hi ⟨rfl,X,XO,Xs,es,o,M,K⟩ hnx
 refine⟨s,_,_,rfl,?_⟩
 by_cases hlt:i<ts.length
 rotate_left
 ·obtain rfl:i=ts.length:=by omega
  exact aA (decide_eq_false (by omega)) (k h1 X XO Xs es o M K)
 refine aL (decide_eq_true (by omega)) ?_
 obtain⟨t,ht⟩: ∃t,ts[i]?=some t:=⟨_,List.getElem?_eq_getElem (by omega)⟩
 obtain⟨e,he⟩: ∃e,es[i]?=some e:=⟨_,List.getElem?_eq_getElem (by rw [o.l2];omega)⟩
 have htb:=hb t (List.mem_of_getElem? ht)
 have hka:=ac4 hb hl i
 obtain⟨b,ha,hXO⟩:=o.out.one (by omega)
 have hi0:0+Int.toNat (i:Int)*3=i*3:=by simp
 have hlen:(rR ts es).length=ts.length*3:=by have:=o.out.1;rw [hn]at this;exact this
 refine⟨b,0,ha,by omega,by omega,?_⟩
 have u:Upd (A++X) b (.inl ⟨rR ts es,s.c*3,false⟩) (.inl ⟨cl (rR ts es) (0+Int.toNat (i:Int)*3) [I (kA ts i:Nat)],s.c*3,false⟩) (A++([(b, .inl ⟨rR ts (es.set i ((kA ts i:Nat),e.2)),s.c*3,false⟩)]++Xs.flatten)):=by
  rw [o.eq,hXO,hi0,bD,LA _ (by rw [o.l2]) he]
  exact Upd.back .head A
 refine K.wr u (by omega) fun h2 K2 _=>?_
 have o2:=o.put ha (es':=es.set i ((kA ts i:Nat),e.2)) (by simp) (S4 he _ _)
 clear u K
 have he2:(es.set i (((kA ts i:Nat):Int),e.2))[i]?=some (((kA ts i:Nat):Int),e.2):=List.getElem?_set_self (get_lt he)
 have hlen2:(rR ts (es.set i (((kA ts i:Nat):Int),e.2))).length=ts.length*3:=by have:=o2.out.1;rw [hn]at this;exact this
 have f2:=K2.at (b:=b) (List.mem_append_right _ (List.mem_append_left _ (.head _)))
 refine⟨b,0,ha,by omega,by omega,t,by rw [av f2,hi0];exact Dr ht he2 1 _ (by omega) rfl,?_⟩
 rw [aw (by omega)]
 refine CE (o2.own K2 ht he2) (by omega) (by omega) fun h3 l3 ow3=>⟨_,rfl,?_⟩
 obtain⟨X3,Xs3,o3,K3⟩:=o2.inner K2 ht he2 l3 ow3
 clear o2 K2 l3 ow3 f2
 rw [List.set_set]at o3
 dsimp only at o3
 have he3:(es.set i (((kA ts i:Nat):Int),e.2.1,cj ((kA ts i+1:Nat):Int) (t.n*3)))[i]?=some (((kA ts i:Nat):Int),e.2.1,cj ((kA ts i+1:Nat):Int) (t.n*3)):=List.getElem?_set_self (get_lt he)
 have hr:((kA ts i+1:Nat):Int)+(t.n:Int)*3=((kA ts i+1+t.n*3:Nat):Int):=by omega
 rw [hr]
 refine⟨b,0,ha,by omega,by omega,?_⟩
 have u:Upd (A++X3) b (.inl ⟨rR ts (es.set i (((kA ts i:Nat):Int),e.2.1,cj ((kA ts i+1:Nat):Int) (t.n*3))),s.c*3,false⟩) (.inl ⟨cl (rR ts (es.set i (((kA ts i:Nat):Int),e.2.1,cj ((kA ts i+1:Nat):Int) (t.n*3)))) (0+Int.toNat (i:Int)*3+2) [I ((kA ts i+1+t.n*3:Nat):Int)],s.c*3,false⟩)
   (A++([(b, .inl ⟨rR ts (es.set i (((kA ts i:Nat):Int),((kA ts i+1+t.n*3:Nat):Int),cj ((kA ts i+1:Nat):Int) (t.n*3))),s.c*3,false⟩)]++Xs3.flatten)):=by
  obtain⟨b3,ha3,hX3⟩:=o3.out.one (by omega)
  rw [ha]at ha3
  cases ha3
  rw [o3.eq,hX3,hi0,bD,Mv _ (by rw [o3.l2]) he3,List.set_set]
  exact Upd.back .head A
 have hlen3:(rR ts (es.set i (((kA ts i:Nat):Int),e.2.1,cj ((kA ts i+1:Nat):Int) (t.n*3)))).length=ts.length*3:=by have:=o3.out.1;rw [hn]at this;exact this
 refine K3.wr u (by omega) fun h4 K4 _=>?_
 have o4:=o3.put ha (es':=(es.set i (((kA ts i:Nat):Int),e.2.1,cj ((kA ts i+1:Nat):Int) (t.n*3))).set i (((kA ts i:Nat):Int),((kA ts i+1+t.n*3:Nat):Int),cj ((kA ts i+1:Nat):Int) (t.n*3))) (by simp) (S4 he3 _ _)
 rw [List.set_set]at o4
 rw [aw (by omega),aw (by omega),show kA ts i+1+t.n*3+1=kA ts (i+1) by rw [TM ht];omega]
 refine hnx hlt _ _ ⟨rfl,_,_,_,_,o4,fun j v hj hv=>?_,K4⟩
 by_cases q:i=j
 ·subst q
  rw [ht]at hv;cases hv
  exact List.getElem?_set_self (get_lt he)
 ·rw [List.getElem?_set_ne q]
  exact M j v (by omega) hv
theorem AU {g h:Hp} {A X XO:List (Nat×Blk)} {Xs:List (List (Nat×Blk))} {ts:List Sl} {s:Sl} {es:List (Int×Int×List Value)} {R:Value->Hp->Prop}
  (o:Bw X s es XO Xs ts) (K:Kn g h (A++X)) (M:Mkd ts es ts.length) (hl:ts.length<=1000) (hb: ∀t∈ts,t.n<=1000)
  (k:R (I (kA ts ts.length:Nat)) h):nk #[s.v,I 1] h R:=by
 apply FG
 refine uf_ ?_
 have hn:=o.len
 refine ar ts.length (fun i vs h'=>vs= [s.v,I (kA ts i:Nat),I (i:Nat)]/\h'=h) ⟨rfl,rfl⟩ ?_
 rintro i _ h1 next hi ⟨rfl,e1⟩ hnx
 rw [e1]
 clear e1 h1
 refine⟨s,_,_,rfl,?_⟩
 by_cases hlt:i<ts.length
 rotate_left
 ·obtain rfl:i=ts.length:=by omega
  exact aA (decide_eq_false (by omega)) k
 refine aL (decide_eq_true (by omega)) ?_
 obtain⟨t,ht⟩: ∃t,ts[i]?=some t:=⟨_,List.getElem?_eq_getElem (by omega)⟩
 have he:=M i t hlt ht
 have htb:=hb t (List.mem_of_getElem? ht)
 have hka:=ac4 hb hl i
 obtain⟨b,ha,hXO⟩:=o.out.one (by omega)
 have hi0:0+Int.toNat (i:Int)*3=i*3:=by simp
 have f:=K.at (b:=b) (by rw [o.eq,hXO];exact List.mem_append_right _ (List.mem_append_left _ (.head _)))
 refine⟨b,0,ha,by omega,by omega,_,by rw [av f,hi0];exact Dr ht he 0 _ (by omega) rfl,aA (by simp) ?_⟩
 refine⟨b,0,ha,by omega,by omega,t,by rw [av f,hi0];exact Dr ht he 1 _ (by omega) rfl,?_⟩
 rw [aw (by omega)]
 have hr:((kA ts i+1:Nat):Int)+(t.n:Int)*3=((kA ts i+1+t.n*3:Nat):Int):=by omega
 refine CM (o.own K ht he).slc (by omega) (by omega) ⟨_,rfl,aA (decide_eq_false (by omega)) ?_⟩
 rw [hr]
 refine⟨b,0,ha,by omega,by omega,_,by rw [av f,hi0];exact Dr ht he 2 _ (by omega) rfl,aA (by simp) ?_⟩
 rw [aw (by omega),aw (by omega),show kA ts i+1+t.n*3+1=kA ts (i+1) by rw [TM ht];omega]
 exact hnx hlt _ _ ⟨rfl,rfl⟩
def Ux (h:Hp) (s:Sl) (ds:List Bd):Prop:=s.n=ds.length/\ ∀(k:Nat) d,ds[k]?=some d-> ∃b q t,s.a=some (Addr.mk b q none)/\Hp.cell h b (q+k*3)=some (I d.v)/\Hp.cell h b (q+k*3+1)=some (Sl.v t)/\Hp.cell h b (q+k*3+2)=some (I d.r)/\SlC h t 3 (cP d.ns)
theorem Ux.mono {h h':Hp} {s:Sl} {ds:List Bd} (o:Ux h s ds) (l:h.le h'):Ux h' s ds:=by
 refine⟨o.1,fun k d hk=>?_⟩
 obtain⟨b,q,t,ha,c0,c1,c2,hs⟩:=o.2 k d hk
 exact⟨b,q,t,ha,l.cell c0,l.cell c1,l.cell c2,hs.mono l⟩
theorem xL.toR {g h:Hp} {A X XO:List (Nat×Blk)} {Xs:List (List (Nat×Blk))} {ts:List Sl} {s:Sl} {ds:List Bd} (o:xL X s ds XO Xs ts) (K:Kn g h (A++X)) (hl:ds.length<=1000):Ux h s ds:=by
 refine⟨o.len,fun k d hk=>?_⟩
 have nd:=K.nd
 rw [List.map_append,List.nodup_append]at nd
 obtain⟨b,q,t,ha,_,_,c0,c1,c2,hs⟩:=o.get (K.sub (fun e he=>List.mem_append_right _ he) nd.2.1) hl hk
 rw [Int.toNat_natCast]at c0 c1 c2
 exact⟨b,q,t,ha,c0,c1,c2,hs⟩
theorem zd {h:Hp} {s t:Sl} {ds:List Bd} {R:Value->Hp->Prop} (hs:Ux h s ds) (ht:Ux h t ds) (hl:ds.length<=1000) (k:R (.bool true) h):mT #[s.v,t.v] h R:=by
 apply JS
 refine uf_ ?_
 have h1:=hs.1
 have h2:=ht.1
 refine aA (by rw [h1,h2,bne_self_eq_false]) ?_
 refine ar ds.length (fun i vs h'=>vs= [s.v,t.v,I (i:Nat)]/\h'=h) ⟨rfl,rfl⟩ ?_
 rintro i _ h1 next hi ⟨rfl,e1⟩ hnx
 rw [e1]
 clear e1 h1
 refine⟨s,t,_,rfl,?_⟩
 by_cases hlt:i<ds.length
 rotate_left
 ·exact aA (decide_eq_false (by omega)) k
 refine aL (decide_eq_true (by omega)) ?_
 obtain⟨d,hd⟩: ∃d,ds[i]?=some d:=⟨_,List.getElem?_eq_getElem hlt⟩
 obtain⟨b,q,u,ha,c0,c1,c2,hu⟩:=hs.2 i d hd
 obtain⟨b',q',u',ha',c0',c1',c2',hu'⟩:=ht.2 i d hd
 refine⟨b,q,ha,by omega,by omega,b',q',ha',by omega,by omega,?_⟩
 rw [Int.toNat_natCast]
 refine⟨_,c0,u,c1,_,c2,_,c0',u',c1',_,c2',?_⟩
 refine Sx hu hu' ⟨_,rfl,aA (by simp) ?_⟩
 rw [aw (by omega)]
 exact hnx hlt _ _ ⟨rfl,rfl⟩
theorem Vh (m:ah) (x:Int):(rf m x).length<=64:=by
 unfold rf
 split
 ·rename_i h
  unfold i7 at h
  simp only [Bool.and_eq_true,decide_eq_true_eq]at h
  rw [qB]
  exact(Jw (cH h.1) (by omega)).1
 ·exact Nat.zero_le _
theorem YO (m:ah) (x:Int): ∀d∈rf m x,d.ns.length<=600:=by
 unfold rf
 split
 ·intro d hd
  obtain⟨k,_,rfl⟩:=List.mem_map.1 hd
  exact ko _ _
 ·intro d hd;cases hd
theorem xL.small {X XO:List (Nat×Blk)} {Xs:List (List (Nat×Blk))} {ts:List Sl} {s:Sl} {ds:List Bd} (o:xL X s ds XO Xs ts) (hd: ∀d∈ds,d.ns.length<=600): ∀t∈ts,t.n<=1000:=by
 intro t ht
 obtain⟨k,hk⟩:=List.mem_iff_getElem?.1 ht
 have hl:=get_lt hk
 have e1:=o.l1
 have e2:=o.l2
 obtain⟨Y,hY⟩: ∃Y,Xs[k]?=some Y:=⟨_,List.getElem?_eq_getElem (by omega)⟩
 obtain⟨d,hdk⟩: ∃d,ds[k]?=some d:=⟨_,List.getElem?_eq_getElem (by omega)⟩
 have h1:=(o.inn k Y t d hY hk hdk).1
 rw [lM]at h1
 have:=hd d (List.mem_of_getElem? hdk)
 omega
set_option maxHeartbeats 1000000 in
theorem FnExactNodeBits_spec {h:Hp} {M:MSl} {m:ah} {x:Int} {R:Value->Hp->Prop} (hs:aM h M m) (hsz: ∀n∈m.nodes,n.name.size<=9223372036854775807)
  (k:R (.bool true) h):oZ #[aQ M,I x] h R:=by
 refine ACalls.drop (xQ ?_)
 refine uf_ ?_
 have K0:=Kn.nil h
 (with_reducible apply Kn.al);(assumption);(intro b7 h1 K1 l1 hb7)
 clear K0 hb7
 repeat' (refine kr_ ?_)
 refine Cr (hs.mono K1.le) hsz fun r hr=>⟨_,rfl,ad (fun e=>⟨_,K1.le,k⟩) (fun e=>?_)⟩
 have hm:bP m:=(hr.resolve_left (of_decide_eq_false e)).2.2
 clear hr e r
 repeat' (refine kr_ ?_)
 refine gy (hs.mono K1.le) hm fun n1 i1 x1 d1 e1 h2 KA=>⟨_,_,_,_,_,rfl,?_⟩
 have KA':Kn h1 h2 (yL m n1 i1 x1 d1 e1++ []):=by rw [List.append_nil];exact KA
 refine uu (Hb KA' hm) hm fun w0 h3 XW XOW XsW usW KW oW=>⟨_,_,rfl,?_⟩
 have hI: ∀{h':Hp} {M':MSl} {R':Value->Hp->Prop},aM h' M' m->(∀s h'' X XO Xs ts,Kn h' h'' X->xL X s (rf m x) XO Xs ts->R' (.tuple #[Sl.v s, .bool (i7 m x)]) h'')->jf #[aQ M',I x] h' R':=fun a b=>t9 a hm b
 have hlen:(rf m x).length<=1000:=Nat.le_trans (Vh m x) (by omega)
 have hns:=YO m x
 generalize rf m x=B at*
 generalize i7 m x=c at*
 have K3:=K1.mono (Hp.le_trans KA.le KW.le)
 have bw3:=oW.toR (A:= []) KW hlen
 clear oW KW KA' KA K1 l1
 have f7:=K3.at (.head _)
 have hs3:=hs.mono K3.le
 have l03:=K3.le
 repeat' (refine kr_ ?_)
 clear K3
 refine gy hs3 hm fun bn bi bx bb bh h6 KB=>⟨_,_,_,_,_,rfl,?_⟩
 refine Kn.al KB fun b53 h7 K7 l7 hb53=>?_
 refine kw_ ?_
 intro h8 K8 _
 clear K7 KB l7 hb53
 repeat' (refine kr_ ?_)
 have nd8:=K8.nd
 rw [List.map_cons,List.nodup_cons]at nd8
 have K8':Kn h3 h8 (yL m bn bi bx bb bh++ []):=K8.sub (fun e he=> .tail _ (by rwa [List.append_nil]at he)) (by rw [List.append_nil];exact nd8.2)
 refine hI (Hb K8' hm) fun g0 h9 XG XOG XsG usG KG oG=>⟨_,_,rfl,?_⟩
 have K9:=K8.app KG.le (fun e he=>KG.new e he) (fun e he=>KG.mem e he) KG.nd
 have hul:usG.length<=1000:=by rw [<-oG.l2];exact hlen
 have hub:=oG.small hns
 clear K8 K8' nd8 KG
 obtain⟨KM,KF⟩:=Kn.split (A:= [(b53, .inl ⟨aG (Pe m bn bi bx bb bh),5,false⟩)]) (B:=yL m bn bi bx bb bh++XG) K9
 generalize h9.wo ((yL m bn bi bx bb bh++XG).map Prod.fst)=gB at*
 have f53:=KF.at (.head _)
 replace f7:=KF.le _ _ f7
 have x53:=bV f53
 have x7:=bV f7
 have hsB:=hs3.mono KF.le
 have bwB:=bw3.mono KF.le
 have l0B:=Hp.le_trans l03 KF.le
 clear KF K9 bw3 hs3 l03
 refine aq (fun J=>J false h9) ?_ (fun J hJ=>?_)
 rotate_left
 ·refine zd (oG.toR KM hlen) (bwB.mono KM.le) hlen ⟨_,rfl,aA rfl ?_⟩
  simpa using hJ
 refine aA rfl ?_
 repeat' (refine kr_ ?_)
 refine gy (hsB.mono KM.le) hm fun n2 i2 x2 d2 e2 h12 KC=>⟨_,_,_,_,_,rfl,?_⟩
 have KC':Kn h9 h12 (yL m n2 i2 x2 d2 e2++ []):=by rw [List.append_nil];exact KC
 have KM12:=KM.mono KC.le
 repeat' (refine kr_ ?_)
 refine Cd (Hb KM12 hm) (Hb KC' hm) ⟨_,rfl,aA rfl ?_⟩
 clear KC' KC KM
 repeat' (refine kr_ ?_)
 refine GD KM12 hm fun h13 L' hL' KM13 r hr=>⟨_,rfl,?_⟩
 clear KM12
 refine aq (fun J=>J false h13) ?_ (fun J hJ=>?_)
 rotate_left
 ·refine aA (by simp;omega) ?_
  refine zd (oG.toR KM13 hlen) (bwB.mono KM13.le) hlen ⟨_,rfl,aA rfl ?_⟩
  simpa using hJ
 refine aA rfl ?_
 refine Kg oG.toC KM13 hul hub fun h14 X' XO' Xs' es' oC mk KM14=>⟨_,rfl,?_⟩
 clear KM13
 refine AU oC KM14 mk hul hub ⟨_,rfl,aA (decide_eq_false (by omega)) (aA (by simp) ?_)⟩
 repeat' (refine kr_ ?_)
 refine gy (hsB.mono KM14.le) hm fun n3 i3 x3 d3 e3 h15 KD=>⟨_,_,_,_,_,rfl,?_⟩
 have KD':Kn h14 h15 (yL m n3 i3 x3 d3 e3++ []):=by rw [List.append_nil];exact KD
 refine hI (Hb KD' hm) fun w1 h16 X1 XO1 Xs1 us1 K1 o1=>⟨_,_,rfl,?_⟩
 have KM16:=KM14.mono (Hp.le_trans KD.le K1.le)
 clear KD' KM14
 refine aq (fun J=>J false h16) ?_ (fun J hJ=>?_)
 rotate_left
 ·refine zd (o1.toR (A:= []) K1 hlen) (bwB.mono KM16.le) hlen ⟨_,rfl,aA rfl ?_⟩
  simpa using hJ
 refine aA rfl ?_
 refine AU oC KM16 mk hul hub ⟨_,rfl,aA (decide_eq_false (by omega)) (aA (by simp) ⟨_,Hp.le_trans l0B KM16.le,k⟩)⟩
end Go.Lead
