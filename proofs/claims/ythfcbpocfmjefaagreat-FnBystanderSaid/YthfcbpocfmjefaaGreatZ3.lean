/- What functions of the program and of the reference come to, walked one by one, and plain laws about it: part 4. No condition is added to the statement. -/
import Derived.Test.YthfcbpocfmjefaaGreatZ2
namespace Go.Lead
open Go
set_option linter.unusedSimpArgs false
set_option linter.unusedVariables false
set_option maxRecDepth 100000
set_option maxHeartbeats 1000000
theorem Ra {h:Hp} {b:Nat} {s2:Sl} {σ:aL} {S p:Nat->Bool} {fid:FuncId} {u w:Array Value} {R:Value->Hp->Prop} (hs:FV h b σ) (ok:σ.Ok) (hS:fq h s2 (2^σ.n) S)
  (hp:aiX h fid u w (2^(σ.n+σ.k)) p)
  (k: ∀b' T h',Kn h h' [(b', .inl ⟨tb (2^σ.n) T,2^σ.n,false⟩)]->(∀j,j<2^σ.n->T j=σ.fwd p S j)->R (arr b' (2^σ.n)).v h'):
  mt #[.pointer (some ⟨b,0,none⟩),s2.v, .func (.func fid) u w] h R:=by
 apply Ai
 refine uf_ ?_
 have hn:=mT ok
 have hk:=Jr ok
 have h8:=ok.nle
 have h5:=ok.kle
 have hl:=hS.len
 obtain⟨M,st,hold,bad,next,fx,_,_,hnt⟩:=id hs
 have K0:=Kn.nil h
 rw [hl]
 refine⟨Int.natCast_nonneg _,Int.le_refl _,by omega,by omega,?_⟩
 (with_reducible apply Kn.al);(assumption);(intro b8 h1 K1 l1 hb8)
 rw [Int.toNat_natCast,Nat.mul_one,cE,uL]at K1
 rw [Int.toNat_natCast]
 refine au (2^σ.n) (fun s vs h'=>vs= [.pointer (some ⟨b,0,none⟩),s2.v, .func (.func fid) u w,(arr b8 (2^σ.n)).v,s2.v,I (2^σ.n:Nat),I s]/\
  ∃T,Kn h h' [(b8, .inl ⟨tb (2^σ.n) T,2^σ.n,false⟩)]/\ ∀x,T x=true↔ ∃s' i',s'<s/\i'<2^σ.k/\S s'=true/\p (σ.at_ s' i')=true/\σ.next (σ.at_ s' i')=x)
  ⟨rfl,_,K1,fun x=>⟨fun e=>by simp at e,fun⟨s',i',e,_⟩=>by omega⟩⟩ ?_
 clear K1 K0 l1 hb8 h1
 rintro s _ h1 nxt hs' ⟨rfl,T,K1,hT⟩ hnx
 refine⟨_,s2,_,_,_,arr b8 _,s2,_,_,rfl,?_⟩
 by_cases hlt:s<2^σ.n
 rotate_left
 ·refine aC (by rw [decide_eq_false_iff_not];omega) ?_
  have hse:s=2^σ.n:=by omega
  rw [hl]
  refine⟨Int.natCast_nonneg _,Int.le_refl _,by omega,by omega,?_⟩
  (with_reducible apply Kn.al);(assumption);(intro b84 h2 K2 l2 hb84)
  rw [Int.toNat_natCast,Nat.mul_one,cE,uL]at K2
  rw [Int.toNat_natCast]
  refine au (2^σ.n) (fun t vs h'=>vs= [.pointer (some ⟨b,0,none⟩),(arr b8 (2^σ.n)).v,(arr b84 (2^σ.n)).v,I (2^σ.n:Nat),I t]/\
   ∃U,Kn h h' [(b84, .inl ⟨tb (2^σ.n) U,2^σ.n,false⟩),(b8, .inl ⟨tb (2^σ.n) T,2^σ.n,false⟩)]/\ ∀j,j<t->U j=σ.fwd p S j)
   ⟨rfl,_,K2,fun j hj=>by omega⟩ ?_
  clear K2 l2 hb84 h2
  rintro t _ h2 nxt2 ht ⟨rfl,U,K2,hU⟩ hnx2
  refine⟨_,arr b8 _,arr b84 _,_,_,rfl,?_⟩
  by_cases hlt2:t<2^σ.n
  rotate_left
  ·refine aC (by rw [decide_eq_false_iff_not];omega) ?_
   exact k b84 U h2 (K2.sub (fun e he=>by rw [List.mem_singleton]at he;subst he;exact .head _) (by simp)) fun j hj=>hU j (by omega)
  refine aM (by rw [decide_eq_true_eq];exact_mod_cast hlt2) ?_
  refine gT ?_
  (refine kr_ ?_)
  have hfx:=ok.fixed
  rw [Bc (by omega) (by omega)]
  have hle:t&&&σ.fixed<=t:=Nat.and_le_left
  refine⟨b8,0,rfl,by omega,by dsimp only;omega,?_⟩
  refine Kn.rd K2 (.tail _ (.head _)) (x:=T (t&&&σ.fixed)) (by rw [Nat.zero_add,Nat.mul_one,Int.toNat_natCast];exact zk (by omega)) ?_
  refine⟨b84,0,rfl,by omega,by dsimp only;omega,?_⟩
  (((with_reducible apply Kn.wr);(assumption);((focus ((repeat first|exact .head|apply Upd.tail);done)))))
  ·rw [oP];omega
  intro h3 K3 _
  rw [bG,Nat.zero_add,Int.toNat_natCast,Nat.mul_one,u9]at K3
  rw [ay (by omega)]
  refine hnx2 hlt2 _ _ ⟨rfl,_,K3,fun j hj=>?_⟩
  by_cases e:j=t
  ·subst e
   rw [if_pos rfl,Bool.eq_iff_iff,hT,aL.fwd_iff]
   constructor
   ·rintro ⟨s',i',q1,q2,q3,q4,q5⟩
    exact⟨s',i',by omega,q2,q3,q4,by unfold aL.goes;rw [decide_eq_true_eq];exact q5.symm⟩
   ·rintro ⟨s',i',q1,q2,q3,q4,q5⟩
    unfold aL.goes at q5
    rw [decide_eq_true_eq]at q5
    exact⟨s',i',by omega,q2,q3,q4,q5.symm⟩
  ·rw [if_neg e];exact hU j (by omega)
 refine aM (by rw [decide_eq_true_eq];exact_mod_cast hlt) ?_
 obtain⟨bS,oS,ha,hlt',hc⟩:=(hS.mono K1.le).get hlt
 refine⟨bS,oS,ha,by omega,hlt',_,hc,?_⟩
 refine gT ?_
 (refine kr_ ?_)
 rw [if_neg (by omega),cw (by omega)]
 refine au (2^σ.k) (fun i vs h'=>vs= [.pointer (some ⟨b,0,none⟩),s2.v, .func (.func fid) u w,(arr b8 (2^σ.n)).v,I s, .bool (S s),s2.v,I (2^σ.n:Nat),I s,I (2^σ.k:Nat),I i]/\
  ∃T,Kn h h' [(b8, .inl ⟨tb (2^σ.n) T,2^σ.n,false⟩)]/\ ∀x,T x=true↔ ∃s' i',(s'<s\/s'=s/\i'<i)/\i'<2^σ.k/\S s'=true/\p (σ.at_ s' i')=true/\σ.next (σ.at_ s' i')=x)
  ⟨rfl,T,K1,fun x=>?_⟩ ?_
 ·rw [hT]
  constructor
  ·rintro ⟨s',i',q1,q⟩;exact⟨s',i', .inl q1,q⟩
  ·rintro ⟨s',i',q1,q⟩;exact⟨s',i',by omega,q⟩
 clear K1 hT T h1 hc hlt' ha bS oS
 rintro i _ h1 nxt2 hi ⟨rfl,T,K1,hT⟩ hnx2
 refine⟨_,s2,_,_,_,arr b8 _,_,_,s2,_,_,_,_,rfl,?_⟩
 by_cases hli:i<2^σ.k
 rotate_left
 ·refine aC (by rw [decide_eq_false_iff_not];omega) ?_
  rw [ay (by omega)]
  refine hnx hlt _ _ ⟨rfl,T,K1,fun x=>?_⟩
  rw [hT]
  constructor
  ·rintro ⟨s',i',q1,q⟩;exact⟨s',i',by omega,q⟩
  ·rintro ⟨s',i',q1,q2,q⟩;exact⟨s',i',by omega,q2,q⟩
 refine aM (by rw [decide_eq_true_eq];exact_mod_cast hli) ?_
 have fin: ∀T' h',Kn h h' [(b8, .inl ⟨tb (2^σ.n) T',2^σ.n,false⟩)]->(∀x,T' x=true↔T x=true\/(S s=true/\p (σ.at_ s i)=true/\σ.next (σ.at_ s i)=x))->
   nxt2 [.pointer (some ⟨b,0,none⟩),s2.v, .func (.func fid) u w,(arr b8 (2^σ.n)).v,I s, .bool (S s),s2.v,I (2^σ.n:Nat),I s,I (2^σ.k:Nat),I (W ((i:Int)+1))] h':=by
  intro T' h' K hx
  rw [ay (by omega)]
  refine hnx2 hli _ _ ⟨rfl,T',K,fun x=>?_⟩
  rw [hx,hT]
  constructor
  ·rintro (⟨s',i',q1,q⟩|⟨q1,q2,q3⟩)
   ·exact⟨s',i',by omega,q⟩
   ·exact⟨s,i,by omega,hli,q1,q2,q3⟩
  ·rintro ⟨s',i',q1,q2,q3,q4,q5⟩
   by_cases e:s'=s/\i'=i
   ·obtain⟨rfl,rfl⟩:=e
    exact .inr ⟨q3,q4,q5⟩
   ·exact .inl ⟨s',i',by omega,q2,q3,q4,q5⟩
 rw [jB]
 refine WL (hs.mono K1.le) ok hlt hli ⟨_,rfl,?_⟩
 rw [jB]
 have hc:=aL.at_lt hlt hli
 refine ad (fun e=>?_) (fun e=>?_)
 ·refine hp _ hc h1 K1.le _ ⟨_,rfl,?_⟩
  refine ad (fun e2=>?_) (fun e2=>?_)
  ·refine gT ?_
   (refine kr_ ?_)
   obtain⟨bx,ox,hax,hx1,hx2⟩:=(hnt.mono K1.le).get hc
   refine⟨bx,ox,hax,by omega,hx1,_,hx2,?_⟩
   have hnl:=ok.next _ hc
   refine⟨b8,0,rfl,by omega,by dsimp only;omega,?_⟩
   (((with_reducible apply Kn.wr);(assumption);((focus ((repeat first|exact .head|apply Upd.tail);done)))))
   ·rw [oP];omega
   intro h2 K2 _
   rw [bG,Nat.zero_add,Int.toNat_natCast,Nat.mul_one,u9]at K2
   refine fin _ h2 K2 fun x=>?_
   by_cases ex:x=σ.next (σ.at_ s i)
   ·rw [if_pos ex];exact⟨fun _=> .inr ⟨e,e2,ex.symm⟩,fun _=>rfl⟩
   ·rw [if_neg ex]
    exact⟨fun q=> .inl q,fun q=>q.resolve_right fun q=>ex q.2.2.symm⟩
  ·exact fin T h1 K1 fun x=>⟨fun q=> .inl q,fun q=>q.resolve_right fun q=>by rw [q.2.1]at e2;cases e2⟩
 ·refine aC rfl ?_
  exact fin T h1 K1 fun x=>⟨fun q=> .inl q,fun q=>q.resolve_right fun q=>by rw [q.1]at e;cases e⟩
theorem UC {h:Hp} {s:Sl} {N:Nat} {T:Nat->Bool} {R:Value->Hp->Prop} (hT:fq h s N T) (hN:N<=1048576) (k1: ∀i:Nat,i<N->T i=true->R (I i) h) (k2:rz N T=false->R (I (-1)) h):
  jS #[s.v, .bool true] h R:=by
 apply wC
 refine uf_ ?_
 have hl:=hT.len
 rw [hl]
 refine au N (fun i vs h'=>vs= [s.v, .bool true,I N,I i]/\h'=h/\ ∀j,j<i->T j=false) ⟨rfl,rfl,fun j hj=>by omega⟩ ?_
 rintro i _ _ next hi ⟨rfl,rfl,hj⟩ hnx
 refine⟨s,_,_,_,rfl,?_⟩
 by_cases hlt:i<N
 ·refine aM (by rw [decide_eq_true_eq];exact_mod_cast hlt) ?_
  obtain⟨b,o,ha,h1,h2⟩:=hT.get hlt
  refine⟨b,o,ha,by omega,h1,_,h2,?_⟩
  refine ad (fun e=>?_) (fun e=>?_)
  ·exact k1 i hlt (by simpa using e)
  ·rw [ay (by omega)]
   refine hnx hlt _ _ ⟨rfl,rfl,fun j hji=>?_⟩
   by_cases eq:j=i
   ·rw [eq];simpa using e
   ·exact hj j (by omega)
 ·exact aC (by rw [decide_eq_false_iff_not];omega) (k2 (sD.2 fun j hjn=>hj j (by omega)))
theorem Nh {h:Hp} {s:Sl} {N:Nat} {T:Nat->Bool} {R:Value->Hp->Prop} (hT:fq h s N T) (hN:N<=1048576) (k:R (.bool (rz N T)) h):
  jg #[s.v, .bool true] h R:=by
 apply tR
 refine uf_ ?_
 refine UC hT hN (fun i hi e=>⟨_,rfl,?_⟩) fun e=>⟨_,rfl,?_⟩
 ·refine dK ?_ k
  rw [db.2 ⟨i,hi,e⟩,decide_eq_true_eq];omega
 ·refine dK ?_ k
  rw [e];rfl
def Ik (h:Hp) (s:Sl) (n m:Nat) (L:Nat->Nat->Bool):Prop:= ∃ts:List Sl,ts.length=m/\SlC h s 1 (ts.map Sl.v)/\ ∀(j:Nat) (t:Sl),ts[j]?=some t->fq h t n (L j)
theorem Ik.mono {h h':Hp} {s:Sl} {n m:Nat} {L:Nat->Nat->Bool} (l:h.le h') (e:Ik h s n m L):Ik h' s n m L:=by
 obtain⟨ts,e1,e2,e3⟩:=e
 exact⟨ts,e1,e2.mono l,fun j t ht=>(e3 j t ht).mono l⟩
theorem Ik.len {h:Hp} {s:Sl} {n m:Nat} {L:Nat->Nat->Bool} (e:Ik h s n m L):s.n=m:=by
 obtain⟨ts,e1,e2,_⟩:=e
 have:=e2.2.1
 simp at this;omega
theorem Ik.get {h:Hp} {s:Sl} {n m i:Nat} {L:Nat->Nat->Bool} (e:Ik h s n m L) (hi:i<m):
  ∃b o t,s.a=some (Addr.mk b o none)/\(i:Int)<(s.n:Int)/\Hp.cell h b (o+Int.toNat (i:Int)*1)=some (Sl.v t)/\fq h t n (L i):=by
 have hl:=e.len
 obtain⟨ts,e1,e2,e3⟩:=e
 obtain⟨t,ht⟩: ∃t,ts[i]?=some t:=⟨_,List.getElem?_eq_getElem (by omega)⟩
 obtain⟨b,o,ha,hc⟩:=SlC.get e2 (by omega)
 refine⟨b,o,t,ha,by omega,?_,e3 i t ht⟩
 rw [Int.toNat_natCast,Nat.mul_one]
 exact hc i _ (by simp [ht])
theorem Sa {h:Hp} {b:Nat} {σ:aL} {R:Value->Hp->Prop} (hs:FV h b σ) (ok:σ.Ok)
  (k: ∀s h',h.le h'->Ik h' s (2^σ.n) σ.nLay σ.front->R (Sl.v s) h'):nh #[.pointer (some ⟨b,0,none⟩)] h R:=by
 apply Bh
 refine uf_ ?_
 have hn:=mT ok
 have h8:=ok.nle
 obtain⟨M,st,hold,bad,next,fx,_⟩:=id hs
 have K0:=Kn.nil h
 refine gT ?_
 (refine kr_ ?_)
 rw [if_neg (by omega),cw (by omega)]
 refine⟨Int.natCast_nonneg _,Int.le_refl _,by omega,by omega,?_⟩
 (with_reducible apply Kn.al);(assumption);(intro b7 h1 K1 l1 hb7)
 rw [Int.toNat_natCast,Nat.mul_one,cE,uL]at K1
 refine gT ?_
 (refine kr_ ?_)
 rw [if_neg (by omega),cw (by omega)]
 refine⟨Int.natCast_nonneg _,Int.le_refl _,by omega,by omega,?_⟩
 (with_reducible apply Kn.al);(assumption);(intro b13 h2 K2 l2 hb13)
 rw [Int.toNat_natCast,Nat.mul_one,cE,uL]at K2
 rw [Int.toNat_natCast]
 refine au (2^σ.n) (fun i vs h'=>vs= [.pointer (some ⟨b,0,none⟩),(arr b7 (2^σ.n)).v,(arr b13 (2^σ.n)).v,I (2^σ.n:Nat),I i]/\
  ∃U,Kn h h' [(b13, .inl ⟨tb (2^σ.n) U,2^σ.n,false⟩),(b7, .inl ⟨tb (2^σ.n) fun _=>false,2^σ.n,false⟩)]/\ ∀j,j<i->U j=σ.begins j)
  ⟨rfl,_,K2,fun j hj=>by omega⟩ ?_
 clear K2 K1 K0 l1 l2 hb7 hb13 h1 h2
 rintro i _ h1 nxt hi ⟨rfl,U,K1,hU⟩ hnx
 refine⟨_,arr b7 _,arr b13 _,_,_,rfl,?_⟩
 by_cases hlt:i<2^σ.n
 ·refine aM (by rw [decide_eq_true_eq];exact_mod_cast hlt) ?_
  refine RR (hs.mono K1.le) ok hlt ⟨_,rfl,?_⟩
  refine⟨b13,0,rfl,by omega,by dsimp only;omega,?_⟩
  (((with_reducible apply Kn.wr);(assumption);((focus ((repeat first|exact .head|apply Upd.tail);done)))))
  ·rw [oP];omega
  intro h2 K2 _
  rw [bG,Nat.zero_add,Int.toNat_natCast,Nat.mul_one,u9]at K2
  rw [ay (by omega)]
  refine hnx hlt _ _ ⟨rfl,_,K2,fun j hj=>?_⟩
  by_cases e:j=i
  ·rw [if_pos e,e]
  ·rw [if_neg e];exact hU j (by omega)
 refine aC (by rw [decide_eq_false_iff_not];omega) ?_
 replace hU: ∀j,j<2^σ.n->U j=σ.front 0 j:=fun j hj=>hU j (by omega)
 clear hnx hi hlt
 refine au (2^σ.n) (fun i vs h'=> ∃(out:Sl) (g:Hp) (bF:Nat) (F V:Nat->Bool) (ts:List Sl),vs= [.pointer (some ⟨b,0,none⟩),(arr b7 (2^σ.n)).v,(arr bF (2^σ.n)).v,out.v]/\
  h.le g/\Kn g (h'.offS out) [(bF, .inl ⟨tb (2^σ.n) F,2^σ.n,false⟩),(b7, .inl ⟨tb (2^σ.n) V,2^σ.n,false⟩)]/\Buf h' out 1 (ts.map Sl.v)/\ts.length=i/\
  (∀(j:Nat) (t:Sl),ts[j]?=some t->fq g t (2^σ.n) (σ.front j))/\(∀j,j<2^σ.n->F j=σ.front i j)/\(∀j,j<2^σ.n->V j=σ.seen i j)/\ ∀j,j<i->σ.live j=true)
  ⟨⟨none,0,0⟩,h,b13,U,_, [],rfl,Hp.le_refl _,K1,fG _ _,rfl,fun j t ht=>by simp at ht,hU,fun _ _=>rfl,fun j hj=>by omega⟩ ?_
 clear K1 hU U h1 b13
 rintro i _ h1 nxt hi ⟨out,g,bF,F,V,ts,rfl,lg,K1,hB,htl,ht,hF,hV,hlive⟩ hnx
 refine⟨_,arr b7 _,arr bF _,out,rfl,?_⟩
 have K1':=K1.mono (aW h1 out)
 have hbF:fq h1 (arr bF (2^σ.n)) (2^σ.n) (σ.front i):=xZ (by omega) (K1'.at (.head _)) hF
 have hon:=hB.1
 rw [List.length_map,Nat.mul_one]at hon
 refine Nh hbF (by omega) ⟨_,rfl,?_⟩
 refine ad (fun e=>?_) (fun e=>?_)
 rotate_left
 ·have hnl:σ.nLay=i:=aL.nLay_of hlive e
  exact k out h1 (Hp.le_trans lg K1'.le) ⟨ts,by omega,hB.slc_of (by omega),fun j t hj=>(ht j t hj).mono K1'.le⟩
 have hlive': ∀j,j<i+1->σ.live j=true:=fun j hj=>by
  by_cases e2:j=i
  ·rw [e2];exact e
  ·exact hlive j (by omega)
 have hlt:i<2^σ.n:=aL.live_le hlive'
 refine aj fun b55 h2 hb55 l2 f55=>?_
 refine dG (hB.mono l2) (by omega) (by omega) (by omega) ⟨b55,0,rfl,aw f55⟩ (by simp) rfl ?_
 intro s' h3 hs'n hB' l3 _
 have K2:=K1.mono (Hp.le_trans (bC out l2) l3)
 obtain⟨K3,K4⟩:=Kn.split (A:= [(bF, .inl ⟨tb (2^σ.n) F,2^σ.n,false⟩)]) (B:= [(b7, .inl ⟨tb (2^σ.n) V,2^σ.n,false⟩)]) K2
 have lg1:=K4.le
 have fF:=K4.at (.head _)
 generalize (h3.offS s').wo (([(b7, .inl ⟨tb (2^σ.n) V,2^σ.n,false⟩)]:List (Nat×Blk)).map Prod.fst)=g1 at*
 have lh:=Hp.le_trans lg lg1
 have lh3:=Hp.le_trans lh (Hp.le_trans K3.le (aW h3 s'))
 have tF:fq g1 (arr bF (2^σ.n)) (2^σ.n) (σ.front i):=xZ (by omega) fF hF
 refine Ra (hs.mono lh3) ok (tF.mono (Hp.le_trans K3.le (aW h3 s'))) (fun c hc h' l R kk=>P0 ((hs.mono lh3).mono l) hc kk) fun bN T h4 K5 hT=>⟨_,rfl,?_⟩
 have hbN:h3 bN=none:=K5.new _ (.head _)
 have K6:=K3.cons (b:=bN) (aF (aW h3 s') hbN) (bC s' K5.le) (hB'.offS_new hbN (K5.at (.head _)))
 have hB4:=hB'.mono K5.le
 refine au (2^σ.n) (fun x vs h'=>vs= [.pointer (some ⟨b,0,none⟩),(arr b7 (2^σ.n)).v,(arr bF (2^σ.n)).v,s'.v,(arr bN (2^σ.n)).v,I (2^σ.n:Nat),I x]/\
  ∃T V,Kn g1 (h'.offS s') [(bN, .inl ⟨tb (2^σ.n) T,2^σ.n,false⟩),(b7, .inl ⟨tb (2^σ.n) V,2^σ.n,false⟩)]/\Buf h' s' 1 (ts.map Sl.v++ [(arr bF (2^σ.n)).v])/\
   (∀j,j<2^σ.n->T j=if j<x then σ.front (i+1) j else σ.fwd σ.hold (σ.front i) j)/\ ∀j,j<2^σ.n->V j=if j<x then σ.seen (i+1) j else σ.seen i j)
  ⟨rfl,T,V,K6,hB4,fun j hj=>by rw [if_neg (by omega)];exact hT j hj,fun j hj=>by rw [if_neg (by omega)];exact hV j hj⟩ ?_
 clear K6 hB4 hT hV K5
 rintro x _ h5 nxt2 hx ⟨rfl,T,V,K,B,hT,hV⟩ hnx2
 refine⟨_,arr b7 _,arr bF _,s',arr bN _,_,_,rfl,?_⟩
 by_cases hlx:x<2^σ.n
 rotate_left
 ·refine aC (by rw [decide_eq_false_iff_not];omega) ?_
  refine hnx hlt _ _ ⟨s',g1,bN,T,V,ts++ [arr bF (2^σ.n)],rfl,lh,K,by rw [List.map_append];exact B,by simp [htl],fun j t hj=>?_,fun j hj=>by rw [hT j hj,if_pos (by omega)],
   fun j hj=>by rw [hV j hj,if_pos (by omega)],hlive'⟩
  by_cases hji:j<i
  ·rw [List.getElem?_append_left (by omega)]at hj
   exact(ht j t hj).mono lg1
  ·have hj2:=get_lt hj
   simp at hj2
   rw [List.getElem?_append_right (by omega),show j-ts.length=0 by omega]at hj
   simp at hj;subst hj
   rw [show j=i by omega];exact tF
 refine aM (by rw [decide_eq_true_eq];exact_mod_cast hlx) ?_
 refine ap (fun J=> ∀h'' V',Kn g1 (h''.offS s') [(bN, .inl ⟨tb (2^σ.n) T,2^σ.n,false⟩),(b7, .inl ⟨tb (2^σ.n) V',2^σ.n,false⟩)]->Buf h'' s' 1 (ts.map Sl.v++ [(arr bF (2^σ.n)).v])->
  (∀j,j<2^σ.n->V' j=if j<x+1 then σ.seen (i+1) j else σ.seen i j)->J h'') (fun h6 V' K6 B6 hV6=>?_) (fun J hJ=>?_)
 ·have hTx:T x=σ.fwd σ.hold (σ.front i) x:=by rw [hT x hlx,if_neg (by omega)]
  have hVx:V' x=σ.seen (i+1) x:=by rw [hV6 x hlx,if_pos (by omega)]
  have fin: ∀v h7,v=σ.front (i+1) x->Kn g1 (h7.offS s') [(bN, .inl ⟨(tb (2^σ.n) T).set x (.bool v),2^σ.n,false⟩),(b7, .inl ⟨tb (2^σ.n) V',2^σ.n,false⟩)]->Buf h7 s' 1 (ts.map Sl.v++ [(arr bF (2^σ.n)).v])->
    nxt2 [.pointer (some ⟨b,0,none⟩),(arr b7 (2^σ.n)).v,(arr bF (2^σ.n)).v,s'.v,(arr bN (2^σ.n)).v,I (2^σ.n:Nat),I (W ((x:Int)+1))] h7:=by
   intro v h7 hv K7 B7
   rw [ay (by omega)]
   rw [u9]at K7
   refine hnx2 hlx _ _ ⟨rfl,_,V',K7,B7,fun j hj=>?_,hV6⟩
   by_cases e2:j=x
   ·rw [if_pos e2,if_pos (by omega),e2];exact hv
   ·rw [if_neg e2,hT j hj]
    by_cases e3:j<x
    ·rw [if_pos e3,if_pos (by omega)]
    ·rw [if_neg e3,if_neg (by omega)]
  have K6':=K6.mono (aW h6 s')
  refine⟨bN,0,rfl,by omega,by dsimp only;omega,?_⟩
  refine Kn.rd K6' (.head _) (x:=T x) (by rw [Nat.zero_add,Nat.mul_one,Int.toNat_natCast];exact zk hlx) ?_
  refine ad (fun e2=>?_) (fun e2=>?_)
  ·refine⟨b7,0,rfl,by omega,by dsimp only;omega,?_⟩
   refine Kn.rd K6' (.tail _ (.head _)) (x:=V' x) (by rw [Nat.zero_add,Nat.mul_one,Int.toNat_natCast];exact zk hlx) ?_
   refine⟨bN,0,rfl,by omega,by dsimp only;omega,?_⟩
   (with_reducible apply Kn.wrS);(exact K6);((focus ((repeat first|exact .head|apply Upd.tail);done)))
   ·rw [oP];omega
   intro h7 K7 B7 _
   rw [bG,Nat.zero_add,Int.toNat_natCast,Nat.mul_one]at K7
   exact fin _ h7 (by rw [aL.front_succ,<-hTx,e2,hVx];rfl) K7 (B7 _ _ B6)
  ·refine⟨bN,0,rfl,by omega,by dsimp only;omega,?_⟩
   (with_reducible apply Kn.wrS);(exact K6);((focus ((repeat first|exact .head|apply Upd.tail);done)))
   ·rw [oP];omega
   intro h7 K7 B7 _
   rw [bG,Nat.zero_add,Int.toNat_natCast,Nat.mul_one]at K7
   exact fin _ h7 (by rw [aL.front_succ,<-hTx,e2];rfl) K7 (B7 _ _ B6)
 ·have hVx:V x=σ.seen i x:=by rw [hV x hlx,if_neg (by omega)]
  have fin: ∀v h7,v=σ.seen (i+1) x->Kn g1 (h7.offS s') [(bN, .inl ⟨tb (2^σ.n) T,2^σ.n,false⟩),(b7, .inl ⟨(tb (2^σ.n) V).set x (.bool v),2^σ.n,false⟩)]->Buf h7 s' 1 (ts.map Sl.v++ [(arr bF (2^σ.n)).v])->J h7:=by
   intro v h7 hv K7 B7
   rw [u9]at K7
   refine hJ h7 _ K7 B7 fun j hj=>?_
   by_cases e2:j=x
   ·rw [if_pos e2,if_pos (by omega),e2];exact hv
   ·rw [if_neg e2,hV j hj]
    by_cases e3:j<x
    ·rw [if_pos e3,if_pos (by omega)]
    ·rw [if_neg e3,if_neg (by omega)]
  have K':=K.mono (aW h5 s')
  refine⟨b7,0,rfl,by omega,by dsimp only;omega,?_⟩
  refine Kn.rd K' (.tail _ (.head _)) (x:=V x) (by rw [Nat.zero_add,Nat.mul_one,Int.toNat_natCast];exact zk hlx) ?_
  refine ad (fun e2=>?_) (fun e2=>?_)
  ·refine⟨b7,0,rfl,by omega,by dsimp only;omega,?_⟩
   (with_reducible apply Kn.wrS);(exact K);((focus ((repeat first|exact .head|apply Upd.tail);done)))
   ·rw [oP];omega
   intro h7 K7 B7 _
   rw [bG,Nat.zero_add,Int.toNat_natCast,Nat.mul_one]at K7
   exact fin _ h7 (by rw [aL.seen_succ,<-hVx,e2];rfl) K7 (B7 _ _ B)
  ·refine⟨bF,0,rfl,by omega,by dsimp only;omega,?_⟩
   refine Kn.rg K' fF (x:=F x) (by rw [Nat.zero_add,Nat.mul_one,Int.toNat_natCast];exact zk hlx) ?_
   refine⟨b7,0,rfl,by omega,by dsimp only;omega,?_⟩
   (with_reducible apply Kn.wrS);(exact K);((focus ((repeat first|exact .head|apply Upd.tail);done)))
   ·rw [oP];omega
   intro h7 K7 B7 _
   rw [bG,Nat.zero_add,Int.toNat_natCast,Nat.mul_one]at K7
   exact fin _ h7 (by rw [aL.seen_succ,<-hVx,e2,hF x hlx];rfl) K7 (B7 _ _ B)
theorem NI {h:Hp} {b4 b z s c:Nat} {σ:aL} {R:Value->Hp->Prop} (hs:FV h b σ) (f:h b4=some (.inl ⟨[.pointer (some ⟨b,0,none⟩)],z,false⟩)) (hc:c<2^(σ.n+σ.k)) (k:R (.bool (σ.ends c)) h):
  qP #[I s,I c, .pointer (some ⟨b4,0,none⟩)] h R:=by
 apply zd
 refine uf_ ?_
 (refine aD ?_)
 exact Yb hs hc ⟨_,rfl,k⟩
theorem UA {h:Hp} {b:Nat} {s2:Sl} {σ:aL} {R:Value->Hp->Prop} (hs:FV h b σ) (ok:σ.Ok) (hL:Ik h s2 (2^σ.n) σ.nLay σ.front) (k:R (I σ.depthI) h):
  oV #[.pointer (some ⟨b,0,none⟩),s2.v] h R:=by
 refine ACalls.drop (CC ?_)
 refine uf_ ?_
 have hn:=mT ok
 have hnl:=aL.nLay_le σ
 refine aj fun b4 h1 hb4 l1 f4=>?_
 (refine aD ?_)
 refine YU (hs.mono l1) ok (f:=fun _ c=>σ.ends c) (fun s i hs' hi h' l R kk=>NI ((hs.mono l1).mono l) (l _ _ f4) (aL.at_lt hs' hi) kk) fun t h2 l2 ht'=>⟨_,rfl,?_⟩
 have ht:=ht'.mono (sub_le h2 h1)
 have l02:=Hp.le_trans l1 l2
 have hL2:=hL.mono l02
 have hl:=hL.len
 rw [hl]
 refine au σ.nLay (fun i vs h'=>vs= [t.v,s2.v,I σ.nLay,I i]/\h2=h'/\ ∀j,j<i->σ.hits j=false) ⟨rfl,rfl,fun j hj=>by omega⟩ ?_
 rintro i _ _ nxt hi ⟨rfl,rfl,hno⟩ hnx
 refine⟨t,s2,_,_,rfl,?_⟩
 by_cases hlt:i<σ.nLay
 rotate_left
 ·refine aC (by rw [decide_eq_false_iff_not];omega) ⟨h,l02,?_⟩
  have:σ.depth=none:=aL.find_none.2 fun j hj=>hno j (by omega)
  unfold aL.depthI at k
  rw [this]at k;exact k
 refine aM (by rw [decide_eq_true_eq];exact_mod_cast hlt) ?_
 obtain⟨bl,ol,r,ha,h3,h4,hr⟩:=hL2.get hlt
 refine⟨bl,ol,ha,by omega,h3,r,h4,?_⟩
 have hrl:=hr.len
 rw [hrl]
 refine au (2^σ.n) (fun j vs h'=>vs= [t.v,I i,s2.v,I σ.nLay,I i,r.v,I (2^σ.n:Nat),I j]/\h2=h'/\ ∀x,x<j->(σ.front i x&&σ.endsAt x)=false) ⟨rfl,rfl,fun j hj=>by omega⟩ ?_
 rintro j _ _ nxt2 hj ⟨rfl,rfl,hno2⟩ hnx2
 refine⟨t,_,s2,_,_,r,_,_,rfl,?_⟩
 by_cases hlj:j<2^σ.n
 rotate_left
 ·refine aC (by rw [decide_eq_false_iff_not];omega) ?_
  rw [ay (by omega)]
  refine hnx hlt _ _ ⟨rfl,rfl,fun x hx=>?_⟩
  by_cases e:x=i
  ·rw [e];exact sD.2 fun y hy=>hno2 y (by omega)
  ·exact hno x (by omega)
 refine aM (by rw [decide_eq_true_eq];exact_mod_cast hlj) ?_
 have go:(σ.front i j&&σ.endsAt j)=false->nxt2 [t.v,I i,s2.v,I σ.nLay,I i,r.v,I (2^σ.n:Nat),I (W ((j:Int)+1))] h2:=fun e=>by
  rw [ay (by omega)]
  refine hnx2 hlj _ _ ⟨rfl,rfl,fun x hx=>?_⟩
  by_cases e2:x=j
  ·rw [e2];exact e
  ·exact hno2 x (by omega)
 obtain⟨br,or,har,hr1,hr2⟩:=hr.get hlj
 refine⟨br,or,har,by omega,hr1,_,hr2,?_⟩
 refine ad (fun e=>?_) (fun e=>?_)
 ·obtain⟨bt,ot,hat,ht1,ht2⟩:=ht.get hlj
  refine⟨bt,ot,hat,by omega,ht1,_,ht2,?_⟩
  have he:σ.some_ (fun _ c=>σ.ends c) j=σ.endsAt j:=rfl
  refine ad (fun e2=>?_) (fun e2=>?_)
  ·refine⟨h,l02,?_⟩
   have:σ.depth=some i:=aL.depth_some.2 ⟨db.2 ⟨j,hlj,by rw [e,<-he,e2];rfl⟩,fun x hx=>hno x hx⟩
   unfold aL.depthI at k
   rw [this]at k;exact k
  ·exact go (by rw [<-he,e2,Bool.and_false])
 ·exact go (by rw [e];rfl)
theorem pX {h:Hp} {M:MSl} {m:ah} {R:Value->Hp->Prop} (hs:aO h M m) (hm:bT m) (k:R (I (if aG m=0 then(aZ m).depthI else-1)) h):lM #[aQ M] h R:=by
 refine ACalls.drop (Ie ?_)
 refine uf_ ?_
 refine aj fun b7 h1 hb7 l1 f7=>?_
 repeat' (refine aD ?_)
 refine JH (hs.mono l1) hm (fun h2 l2 hc=>⟨_,_,rfl,aM rfl ⟨h,Hp.le_trans l1 l2,?_⟩⟩) (fun hc g bx h2 l2 hx=>⟨_,_,rfl,aC rfl ?_⟩)
 ·rw [if_neg hc]at k;exact k
 ·rw [if_pos hc]at k
  have ok:=yS g
  refine Sa hx ok fun s h3 l3 hL=>⟨_,rfl,?_⟩
  exact UA (hx.mono l3) ok hL ⟨_,rfl,h,Hp.le_trans l1 (Hp.le_trans l2 l3),k⟩
def bR (X:List (Nat×Blk)) (s:Sl) (sz:Nat) (cs:List Value):Prop:=
 cs.length=s.n*sz/\s.n<=s.c/\((X= []/\s=⟨none,0,0⟩/\cs= [])\/ ∃b,s.a=some ⟨b,0,none⟩/\X= [(b, .inl ⟨cs,s.c*sz,false⟩)])
theorem cF (sz:Nat):bR [] ⟨none,0,0⟩ sz []:=⟨by simp,Nat.le_refl _, .inl ⟨rfl,rfl,rfl⟩⟩
theorem bR.buf {X:List (Nat×Blk)} {h:Hp} {s:Sl} {sz:Nat} {cs:List Value} (o:bR X s sz cs) (m: ∀e∈X,h e.1=some e.2):Buf h s sz cs:=by
 refine⟨o.1,o.2.1,?_⟩
 rcases o.2.2 with ⟨_,rfl,_⟩|⟨b,ha,rfl⟩
 ·exact .inl ⟨rfl,rfl,rfl⟩
 ·exact .inr ⟨b,ha,m _ (.head _)⟩
theorem Kn.perm {g h:Hp} {L L':List (Nat×Blk)} (K:Kn g h L) (p:L.Perm L'):Kn g h L':=K.sub (fun e he=>p.mem_iff.2 he) ((p.map Prod.fst).nodup_iff.1 K.nd)
theorem Kn.grow {g h:Hp} {X L:List (Nat×Blk)} {s:Sl} {sz by_ m:Nat} {cs news:List Value} {src:Option Addr} {C:Option Addr->Nat->Nat->Hp->Prop}
  (K:Kn g h (X++L)) (o:bR X s sz cs) (hm:0<m) (hsz:(s.n+m)*by_<=140737488355328) (hsz':s.n+m<=9223372036854775807)
  (hs: ∃sb so,src=some ⟨sb,so,none⟩/\ji h sb so news) (hl:news.length=m*sz) (ho:news.all (·.oneCell')=true)
  (k: ∀s' X' h',s'.n=s.n+m->bR X' s' sz (cs++news)->Kn g h' (X'++L)->(h.offS s).le h'->C s'.a s'.n s'.c h'):cy h s.a s.n s.c src m sz by_ C:=by
 refine dG (o.buf fun e he=>K.mem e (List.mem_append_left _ he)) hm hsz hsz' hs hl ho fun s' h' hn B l _=>?_
 have nd:=K.nd
 rw [List.map_append,List.nodup_append]at nd
 have base:g.le (h.offS s)/\ ∀e∈L,(h.offS s) e.1=some e.2:=by
  rcases o.2.2 with ⟨_,rfl,_⟩|⟨b,ha,rfl⟩
  ·exact⟨K.le,fun e he=>K.mem e (List.mem_append_right _ he)⟩
  ·unfold Hp.offS
   rw [ha]
   refine⟨zP (K.new (b,_) (.head _)) K.le,fun e he=>?_⟩
   have hne:e.1≠b:=fun hb=>nd.2.2 b (by simp) e.1 (List.mem_map.2 ⟨e,he,rfl⟩) hb.symm
   simp only [Hp.off,Hp.set]
   rw [if_neg hne];exact K.mem e (List.mem_append_right _ he)
 rcases B.2.2 with ⟨_,h0,_⟩|⟨b,ha,hb⟩
 ·omega
 have hoff:(h'.offS s') b=none:=by simp [Hp.offS,ha,Hp.off,Hp.set]
 refine k s' [(b, .inl ⟨cs++news,s'.c*sz,false⟩)] h' hn ⟨B.1,B.2.1, .inr ⟨b,ha,rfl⟩⟩ ?_ (Hp.le_trans l (aW h' s'))
 have lo:=aW h' s'
 have hg:g b=none:=by
  cases hgb:g b with
  |none=>rfl
  |some x=>rw [l _ _ (base.1 _ _ hgb)]at hoff;cases hoff
 refine⟨Hp.le_trans base.1 (Hp.le_trans l lo),fun e he=>?_,fun e he=>?_,?_⟩
 ·rcases List.mem_cons.1 he with rfl|he
  ·exact hb
  ·exact lo _ _ (l _ _ (base.2 e he))
 ·rcases List.mem_cons.1 he with rfl|he
  ·exact hg
  ·exact K.new e (List.mem_append_right _ he)
 ·show (b::L.map Prod.fst).Nodup
  rw [List.nodup_cons]
  refine⟨fun hm=>?_,nd.2.1⟩
  obtain⟨e,he,heb⟩:=List.mem_map.1 hm
  have:=l _ _ (base.2 e he)
  rw [heb,hoff]at this;cases this
theorem Kn.growIn {g h:Hp} {A X L:List (Nat×Blk)} {s:Sl} {sz by_ m:Nat} {cs news:List Value} {src:Option Addr} {C:Option Addr->Nat->Nat->Hp->Prop}
  (K:Kn g h (A++(X++L))) (o:bR X s sz cs) (hm:0<m) (hsz:(s.n+m)*by_<=140737488355328) (hsz':s.n+m<=9223372036854775807)
  (hs: ∃sb so,src=some ⟨sb,so,none⟩/\ji h sb so news) (hl:news.length=m*sz) (ho:news.all (·.oneCell')=true)
  (k: ∀s' X' h',s'.n=s.n+m->bR X' s' sz (cs++news)->Kn g h' (A++(X'++L))->(h.offS s).le h'->C s'.a s'.n s'.c h'):cy h s.a s.n s.c src m sz by_ C:=by
 have sw: ∀Y:List (Nat×Blk),(A++(Y++L)).Perm (Y++(A++L)):=fun Y=>by
  rw [<-List.append_assoc,<-List.append_assoc]
  exact List.perm_append_comm.append_right L
 exact Kn.grow (K.perm (sw X)) o hm hsz hsz' hs hl ho fun s' X' h' hn o' K' l=>k s' X' h' hn o' (K'.perm (sw X').symm) l
theorem Kn.growIn2 {g h:Hp} {A Y X L:List (Nat×Blk)} {s:Sl} {sz by_ m:Nat} {cs news:List Value} {src:Option Addr} {C:Option Addr->Nat->Nat->Hp->Prop}
  (K:Kn g h (A++(Y++(X++L)))) (o:bR X s sz cs) (hm:0<m) (hsz:(s.n+m)*by_<=140737488355328) (hsz':s.n+m<=9223372036854775807)
  (hs: ∃sb so,src=some ⟨sb,so,none⟩/\ji h sb so news) (hl:news.length=m*sz) (ho:news.all (·.oneCell')=true)
  (k: ∀s' X' h',s'.n=s.n+m->bR X' s' sz (cs++news)->Kn g h' (A++(Y++(X'++L)))->(h.offS s).le h'->C s'.a s'.n s'.c h'):cy h s.a s.n s.c src m sz by_ C:=by
 have sw: ∀Z:List (Nat×Blk),(A++(Y++(Z++L))).Perm (A++(Z++(Y++L))):=fun Z=>by
  refine List.Perm.append_left A ?_
  rw [<-List.append_assoc,<-List.append_assoc]
  exact List.perm_append_comm.append_right L
 exact Kn.growIn (K.perm (sw X)) o hm hsz hsz' hs hl ho fun s' X' h' hn o' K' l=>k s' X' h' hn o' (K'.perm (sw X').symm) l
theorem Kn.growIn3 {g h:Hp} {A Y Z X L:List (Nat×Blk)} {s:Sl} {sz by_ m:Nat} {cs news:List Value} {src:Option Addr} {C:Option Addr->Nat->Nat->Hp->Prop}
  (K:Kn g h (A++(Y++(Z++(X++L))))) (o:bR X s sz cs) (hm:0<m) (hsz:(s.n+m)*by_<=140737488355328) (hsz':s.n+m<=9223372036854775807)
  (hs: ∃sb so,src=some ⟨sb,so,none⟩/\ji h sb so news) (hl:news.length=m*sz) (ho:news.all (·.oneCell')=true)
  (k: ∀s' X' h',s'.n=s.n+m->bR X' s' sz (cs++news)->Kn g h' (A++(Y++(Z++(X'++L))))->(h.offS s).le h'->C s'.a s'.n s'.c h'):cy h s.a s.n s.c src m sz by_ C:=by
 have sw: ∀W:List (Nat×Blk),(A++(Y++(Z++(W++L)))).Perm (A++((Y++Z)++(W++L))):=fun W=>by rw [<-List.append_assoc Y Z]
 exact Kn.growIn2 (K.perm (sw X)) o hm hsz hsz' hs hl ho fun s' X' h' hn o' K' l=>k s' X' h' hn o' (K'.perm (sw X').symm) l
theorem bR.slc {X A L:List (Nat×Blk)} {g h:Hp} {s:Sl} {sz:Nat} {cs:List Value} (o:bR X s sz cs) (K:Kn g h (A++(X++L))) (hn:s.n<=9223372036854775807):SlC h s sz cs:=
 (o.buf fun e he=>K.mem e (List.mem_append_right _ (List.mem_append_left _ he))).slc_of hn
theorem gR.offG {X:List (Nat×Blk)} {h:Hp} {A s:Sl} {f:Nat->Bool} {n:Nat} {vs:List (List Nat)} (e:gR h s vs) (o:bR X A 1 ((List.range n).map fun i=> .bool (f i))) (m: ∀e∈X,h e.1=some e.2):gR (h.offS A) s vs:=by
 rcases o.2.2 with ⟨_,rfl,_⟩|⟨b,ha,rfl⟩
 ·exact e
 ·unfold Hp.offS
  rw [ha]
  refine e.keep (m _ (.head _)) (fun j i hj=>?_) (fun j t hj=>?_) fun c hc=>by simp [Hp.off,Hp.set,hc]
  ·simp only [List.getElem?_map,Option.map_eq_some_iff]at hj
   obtain⟨a,_,hj⟩:=hj
   cases hj
  ·simp only [List.getElem?_map,Option.map_eq_some_iff]at hj
   obtain⟨a,_,hj⟩:=hj
   cases hj
theorem gR.keepB {h h':Hp} {s:Sl} {b:Nat} {vs:List (List Nat)} (e:gR h s vs) (n: ∀o,s.a≠some (Addr.mk b o none)) (kp: ∀c,c≠b->h' c=h c) (ki: ∀o i,Hp.cell h b o=some (I i)->Hp.cell h' b o=some (I i)):gR h' s vs:=by
 have hc: ∀c o i,Hp.cell h c o=some (I i)->Hp.cell h' c o=some (I i):=fun c o i hi=>by
  by_cases e2:c=b
  ·subst e2;exact ki o i hi
  ·unfold Hp.cell at hi⊢;rw [kp c e2];exact hi
 refine⟨e.1,e.2.1,fun p hp=>?_⟩
 obtain⟨b',o,t,h1,h2,h3⟩:=e.2.2 p hp
 refine⟨b',o,t,h1,?_,h3.1,h3.2.1,h3.2.2.imp id ?_⟩
 ·have hne:b'≠b:=by rintro rfl;exact n o h1
  unfold Hp.cell at h2⊢;rw [kp b' hne];exact h2
 ·rintro ⟨c,o',ha,hcs⟩
  refine⟨c,o',ha,fun i v hv=>?_⟩
  have hvI:=hv
  rw [List.getElem?_map,Option.map_eq_some_iff]at hvI
  obtain⟨x,_,rfl⟩:=hvI
  exact hc _ _ _ (hcs i _ hv)
structure FN where
 hs:Sl
 es:Sl
 ns:Sl
 fs:Sl
 bs:Sl
abbrev S7 (σ:aL) (q:FN):List Value:= [I (2^σ.n:Nat),I (2^σ.k:Nat),q.hs.v,q.es.v,q.ns.v,q.fs.v,q.bs.v]
abbrev NM (σ:aL) (q:FN):Value:= .agg #[I (2^σ.n:Nat),I (2^σ.k:Nat),q.hs.v,q.es.v,q.ns.v,q.fs.v,q.bs.v]
def G4 (h:Hp) (q:FN) (σ:aL):Prop:=fq h q.hs (2^(σ.n+σ.k)) σ.hold/\fq h q.es (2^(σ.n+σ.k)) σ.ends/\Ks h q.ns (2^(σ.n+σ.k)) σ.next/\
 (∃fm,fm+σ.fixed=2^σ.n-1/\IntS h q.fs (VL (iZ fm)))/\fq h q.bs (2^σ.n) σ.begins
theorem G4.mono {h h':Hp} {q:FN} {σ:aL} (l:h.le h') (e:G4 h q σ):G4 h' q σ:=by
 obtain⟨a,b,c,⟨fm,d1,d2⟩,f⟩:=e
 exact⟨a.mono l,b.mono l,c.mono l,⟨fm,d1,d2.mono l⟩,f.mono l⟩
theorem wg {α:Type} (f:Nat->α) (c:Nat):(List.range (c+1)).map f=(List.range c).map f++ [f c]:=by rw [List.range_succ,List.map_append];rfl
theorem Ur {m:ah} (g:cr m):mD m+(aZ m).fixed=2^(aZ m).n-1:=by
 have:=acI m.nodes (fun p=>(bO m.nexts p).isSome) (stP m)
 have e:=eM g
 show mD m+UW m m.nexts=2^ak m.nodes 36-1
 rw [<-e,<-this,Nat.add_comm];rfl
theorem Lw {h:Hp} {M:MSl} {m:ah} {R:Value->Hp->Prop} (hs:aO h M m) (hm:bT m) (hc0:aG m=0)
  (k: ∀q h',h.le h'->G4 h' q (aZ m)->R (NM (aZ m) q) h'):uA #[aQ M] h R:=by
 apply Ql
 refine uf_ ?_
 have g:=cD hc0
 have hn8:=g.n8
 have hk5':=g.k5
 have ok:=yS g
 have hp8:=mT ok
 have hk5:=Jr ok
 have hp13:=vu ok
 have hnk:=aL.pow_nk (aZ m)
 have K0:=Kn.nil h
 (with_reducible apply Kn.al);(assumption);(intro b7 h1 K1 l1 hb7)
 (with_reducible apply Kn.al);(assumption);(intro b9 h2 K2 l2 hb9)
 clear K0 K1 l1 hb7
 repeat' (refine kr_ ?_)
 refine je (hs.mono K2.le) hm ⟨_,rfl,?_⟩
 repeat' (refine kr_ ?_)
 refine je (hs.mono K2.le) hm ⟨_,rfl,?_⟩
 rw [cZ (by omega),cZ (by omega),if_neg (by omega),if_neg (by omega),cw (by omega),cw (by omega),show ak m.nodes 36=(aZ m).n from rfl,show ak m.nodes 35=(aZ m).k from rfl]
 repeat' (refine kr_ ?_)
 refine QY (hs.mono K2.le) hm g fun F h3 l3 hF=>⟨_,rfl,?_⟩
 have hF':IntS (h3.wo (([(b9, .inl ⟨[I 0,I 0, .slice none 0 0, .slice none 0 0, .slice none 0 0, .slice none 0 0, .slice none 0 0],7,false⟩),(b7, .inl ⟨aH M,5,false⟩)]:List (Nat×Blk)).map Prod.fst)) F (VL (iZ (mD m))):=
  SlC.mono (vH (sub_le _ _) fun b hb=>by
   cases hx:h2 b with
   |none=>exact absurd hx (K2.has b hb)
   |some x=>exact mP hx) hF
 have K3:=(K2.mono l3).base
 have lg:=(K2.mono l3).leBase
 clear hF K2
 generalize h3.wo (([(b9, .inl ⟨[I 0,I 0, .slice none 0 0, .slice none 0 0, .slice none 0 0, .slice none 0 0, .slice none 0 0],7,false⟩),(b7, .inl ⟨aH M,5,false⟩)]:List (Nat×Blk)).map Prod.fst)=g3 at*
 have hs3:=hs.mono lg
 (with_reducible apply Kn.al);(assumption);(intro b38 h4 K4 l4 hb38)
 (((with_reducible apply Kn.wr);(assumption);((focus ((repeat first|exact .head|apply Upd.tail);done)))))
 ·exact Nat.le_refl _
 intro h5 K5 kp5
 simp only [bX,List.set_cons_zero,List.set_cons_succ,Nat.zero_add,Nat.reduceAdd]at K5
 clear kp5 K4 l4 hb38
 refine au (2^((aZ m).n+(aZ m).k)) (fun c vs h'=> ∃(A B C:Sl) (XA XB XC:List (Nat×Blk)),vs= [.pointer (some ⟨b7,0,none⟩), .pointer (some ⟨b9,0,none⟩), .pointer (some ⟨b38,0,none⟩),I c]/\
  Kn g3 h' ((b38, .inl ⟨[I (2^(aZ m).n:Nat),I (2^(aZ m).k:Nat),A.v,B.v,C.v,F.v,(⟨none,0,0⟩:Sl).v],7,false⟩)::(b9, .inl ⟨[I 0,I 0, .slice none 0 0, .slice none 0 0, .slice none 0 0, .slice none 0 0, .slice none 0 0],7,false⟩)::(b7, .inl ⟨aH M,5,false⟩)::(XA++(XB++(XC++ []))))/\bR XA A 1 ((List.range c).map fun i=> .bool ((aZ m).hold i))/\bR XB B 1 ((List.range c).map fun i=> .bool ((aZ m).ends i))/\
   bR XC C 1 ((List.range c).map fun i=>I ((aZ m).next i:Nat))) ⟨⟨none,0,0⟩,⟨none,0,0⟩,⟨none,0,0⟩, [], [], [],rfl,K5,cF _,cF _,cF _⟩ ?_
 clear K5 h5
 rintro c _ h5 nxt hc ⟨A,B,C,XA,XB,XC,rfl,K,oA,oB,oC⟩ hnx
 refine⟨b7,0,b9,0,b38,0,_,rfl,?_⟩
 repeat' (refine kr_ ?_)
 have hxy:((2^(aZ m).n:Nat):Int)*((2^(aZ m).k:Nat):Int)=((2^((aZ m).n+(aZ m).k):Nat):Int):=by rw [hnk,<-Int.natCast_mul,Nat.mul_comm]
 rw [hxy,fV (by omega)]
 have hAn:A.n=c:=by have:=oA.1;simp at this;omega
 have hBn:B.n=c:=by have:=oB.1;simp at this;omega
 have hCn:C.n=c:=by have:=oC.1;simp at this;omega
 by_cases hlt:c<2^((aZ m).n+(aZ m).k)
 ·refine aM (by rw [decide_eq_true_eq];exact_mod_cast hlt) ?_
  repeat' (refine kr_ ?_)
  refine CU (hs3.mono K.le) hm g hlt fun t h6 l6 htn hpv hnew=>⟨t,rfl,?_⟩
  have n38: ∀o,t.a≠some (Addr.mk b38 o none):=fun o ho=>by have:=hnew _ _ ho;rw [K.at (.head _)]at this;cases this
  replace K:=K.mono l6
  have a:Gs m (bL m (c%2^ak m.nodes 36) (c/2^ak m.nodes 36)):=dr g _ _
  have hv1:(aZ m).hold c=iG m (bL m (c%2^ak m.nodes 36) (c/2^ak m.nodes 36)):=rfl
  have hv2:(aZ m).bad c=(t7 m (bL m (c%2^ak m.nodes 36) (c/2^ak m.nodes 36))).isSome:=rfl
  have hv3:(aZ m).next c=nf m (c%2^ak m.nodes 36) (c/2^ak m.nodes 36):=rfl
  repeat' (refine kr_ ?_)
  refine Fv (hs3.mono K.le) g hpv a ⟨_,rfl,?_⟩
  repeat' (refine kr_ ?_)
  rw [<-hv1]
  refine aj fun b80 h7 hb80 l7 f80=>?_
  replace K:=K.mono l7
  replace hpv:=hpv.mono l7
  refine Kn.growIn (A:= [_,_,_]) K oA (by omega) (by omega) (by omega) ⟨b80,0,rfl,aw f80⟩ rfl rfl fun A' XA' h8 hn' oA' K8 l8=>?_
  replace hpv:=(hpv.offG oA fun e he=>K.mem e (by simp [he])).mono l8
  simp only [List.cons_append,List.nil_append]at K8
  (((with_reducible apply Kn.wr);(assumption);((focus ((repeat first|exact .head|apply Upd.tail);done)))))
  ·simp
  intro h9 K9 kp9
  have f8:=K8.at (.head _)
  have f9:=K9.at (.head _)
  simp only [bG,List.set_cons_zero,List.set_cons_succ,Nat.zero_add,Nat.reduceAdd]at K9
  rw [bG]at f9
  replace hpv:=hpv.keepB n38 kp9 fun o i hi=>by
   rw [ax f8]at hi
   rw [ax f9,List.getElem?_set]
   by_cases e:0+2=o
   ·subst e;simp at hi
   ·rw [if_neg e];exact hi
  clear f8 f9
  refine ap (fun J=> ∀(B':Sl) (XB':List (Nat×Blk)) (h':Hp),Kn g3 h' ((b38, .inl ⟨[I (2^(aZ m).n:Nat),I (2^(aZ m).k:Nat),A'.v,B'.v,C.v,F.v,(⟨none,0,0⟩:Sl).v],7,false⟩)::(b9, .inl ⟨[I 0,I 0, .slice none 0 0, .slice none 0 0, .slice none 0 0, .slice none 0 0, .slice none 0 0],7,false⟩)::(b7, .inl ⟨aH M,5,false⟩)::(XA'++(XB'++(XC++ []))))->bR XB' B' 1 ((List.range (c+1)).map fun i=> .bool ((aZ m).ends i))->J h') (fun B' XB' h10 K10 oB'=>?_) (fun J hJ=>?_)
  ·clear K9 K8 K hpv
   have hcm:c%2^(aZ m).n<=c:=Nat.mod_le _ _
   have hcd:c/2^(aZ m).n<=c:=Nat.div_le_self _ _
   have hpos:=Nat.two_pow_pos (aZ m).n
   repeat' (refine kr_ ?_)
   rw [if_neg (by omega)]
   repeat' (refine kr_ ?_)
   rw [if_neg (by omega),eP,show Int.tdiv (c:Int) ((2^(aZ m).n:Nat):Int)=((c/2^(aZ m).n:Nat):Int)from rfl,fV (by omega)]
   refine wE (hs3.mono K10.le) hm g (by omega) (by omega) ⟨_,rfl,?_⟩
   repeat' (refine kr_ ?_)
   refine aj fun b131 h11 hb131 l11 f131=>?_
   have K11:=K10.mono l11
   repeat' (refine kr_ ?_)
   refine Kn.growIn3 (A:= [_,_,_]) K11 oC (by omega) (by omega) (by omega) ⟨b131,0,rfl,aw f131⟩ rfl rfl fun C' XC' h12 hn2 oC' K12 _=>?_
   simp only [List.cons_append,List.nil_append]at K12
   (((with_reducible apply Kn.wr);(assumption);((focus ((repeat first|exact .head|apply Upd.tail);done)))))
   ·simp
   intro h13 K13 _
   simp only [bG,List.set_cons_zero,List.set_cons_succ,Nat.zero_add,Nat.reduceAdd]at K13
   rw [ay (by omega)]
   exact hnx hlt _ _ ⟨A',B',C',XA',XB',XC',rfl,K13,by rw [wg];exact oA',oB',by rw [wg];exact oC'⟩
  ·clear K8 K
   refine ad (fun e1=>?_) (fun e1=>?_)
   ·repeat' (refine kr_ ?_)
    refine Mz (hs3.mono K9.le) g hpv a ⟨_,rfl,?_⟩
    repeat' (refine kr_ ?_)
    rw [La,<-hv2]
    refine aj fun b99 h11 hb99 l11 f99=>?_
    have K11:=K9.mono l11
    repeat' (refine kr_ ?_)
    refine Kn.growIn2 (A:= [_,_,_]) K11 oB (by omega) (by omega) (by omega) ⟨b99,0,rfl,aw f99⟩ rfl rfl fun B' XB' h12 hn2 oB' K12 _=>?_
    simp only [List.cons_append,List.nil_append]at K12
    (((with_reducible apply Kn.wr);(assumption);((focus ((repeat first|exact .head|apply Upd.tail);done)))))
    ·simp
    intro h13 K13 _
    simp only [bG,List.set_cons_zero,List.set_cons_succ,Nat.zero_add,Nat.reduceAdd]at K13
    exact hJ B' XB' h13 K13 (by rw [wg];unfold aL.ends;rw [e1];exact oB')
   ·repeat' (refine kr_ ?_)
    refine aj fun b99 h11 hb99 l11 f99=>?_
    have K11:=K9.mono l11
    repeat' (refine kr_ ?_)
    refine Kn.growIn2 (A:= [_,_,_]) K11 oB (by omega) (by omega) (by omega) ⟨b99,0,rfl,aw f99⟩ rfl rfl fun B' XB' h12 hn2 oB' K12 _=>?_
    simp only [List.cons_append,List.nil_append]at K12
    (((with_reducible apply Kn.wr);(assumption);((focus ((repeat first|exact .head|apply Upd.tail);done)))))
    ·simp
    intro h13 K13 _
    simp only [bG,List.set_cons_zero,List.set_cons_succ,Nat.zero_add,Nat.reduceAdd]at K13
    exact hJ B' XB' h13 K13 (by rw [wg];unfold aL.ends;rw [e1];exact oB')
 ·refine aC (by rw [decide_eq_false_iff_not];omega) ?_
  clear hnx
  have hce:c=2^((aZ m).n+(aZ m).k):=by omega
  refine au (2^(aZ m).n) (fun d vs h'=> ∃(D:Sl) (XD:List (Nat×Blk)),vs= [.pointer (some ⟨b7,0,none⟩), .pointer (some ⟨b9,0,none⟩), .pointer (some ⟨b38,0,none⟩),I d]/\
   Kn g3 h' ((b38, .inl ⟨[I (2^(aZ m).n:Nat),I (2^(aZ m).k:Nat),A.v,B.v,C.v,F.v,D.v],7,false⟩)::(b9, .inl ⟨[I 0,I 0, .slice none 0 0, .slice none 0 0, .slice none 0 0, .slice none 0 0, .slice none 0 0],7,false⟩)::(b7, .inl ⟨aH M,5,false⟩)::(XD++(XA++(XB++(XC++ [])))))/\bR XD D 1 ((List.range d).map fun i=> .bool ((aZ m).begins i))) ⟨⟨none,0,0⟩, [],rfl,K,cF _⟩ ?_
  clear K h5 hlt hc
  rintro d _ h5 nxt2 hd ⟨D,XD,rfl,K,oD⟩ hnx2
  have hDn:D.n=d:=by have:=oD.1;simp at this;omega
  refine⟨b7,0,b9,0,b38,0,_,rfl,?_⟩
  repeat' (refine kr_ ?_)
  by_cases hld:d<2^(aZ m).n
  ·refine aM (by rw [decide_eq_true_eq];exact_mod_cast hld) ?_
   repeat' (refine kr_ ?_)
   refine cJ (hs3.mono K.le) hm fun p h6 l6 ip=>⟨p,rfl,?_⟩
   have K6:=K.mono l6
   repeat' (refine kr_ ?_)
   refine fP (hs3.mono K6.le) hm g.ok ip (bV g 36) (gh g 36) (by omega) (by have:=eM g;show cH m.nodes (stP m)<=60;omega) fun u h7 l7 iu=>⟨u,rfl,?_⟩
   have K7:=K6.mono l7
   repeat' (refine kr_ ?_)
   refine vr (hs3.mono K7.le) hm hc0 iu (by rw [jN];exact JU _ _ _) ⟨_,rfl,?_⟩
   have hb:ic (stP m) (dZ m) (dM m.nodes (av m.nodes 36) d) (stP m).length=(aZ m).begins d:=by
    rw [Bool.eq_iff_iff,jC,vD g]
   rw [hb]
   repeat' (refine kr_ ?_)
   refine aj fun b184 h8 hb184 l8 f184=>?_
   have K8:=K7.mono l8
   repeat' (refine kr_ ?_)
   refine Kn.growIn (A:= [_,_,_]) K8 oD (by omega) (by omega) (by omega) ⟨b184,0,rfl,aw f184⟩ rfl rfl fun D' XD' h9 hn2 oD' K9 _=>?_
   simp only [List.cons_append,List.nil_append]at K9
   (((with_reducible apply Kn.wr);(assumption);((focus ((repeat first|exact .head|apply Upd.tail);done)))))
   ·simp
   intro h10 K10 _
   simp only [bG,List.set_cons_zero,List.set_cons_succ,Nat.zero_add,Nat.reduceAdd]at K10
   rw [ay (by omega)]
   exact hnx2 hld _ _ ⟨D',XD',rfl,K10,by rw [wg];exact oD'⟩
  ·have hde:d=2^(aZ m).n:=by omega
   refine aC (by rw [decide_eq_false_iff_not];omega) ?_
   clear hnx2
   repeat' (refine kr_ ?_)
   (((with_reducible apply Kn.wr);(assumption);((focus ((repeat first|exact .head|apply Upd.tail);done)))))
   ·simp
   intro h6 K6 _
   simp only [bX,List.set_cons_zero,List.set_cons_succ,Nat.zero_add,Nat.reduceAdd]at K6
   repeat' (refine kr_ ?_)
   subst hce hde
   refine k ⟨A,B,C,F,D⟩ h6 (Hp.le_trans lg K6.le) ⟨?_,?_,?_,⟨mD m,Ur g,hF'.mono K6.le⟩,?_⟩
   ·have:=(oA.buf fun e he=>K6.mem e (by simp [he])).slc_of (by omega)
    unfold fq tu;rw [List.map_map];exact this
   ·have:=(oB.buf fun e he=>K6.mem e (by simp [he])).slc_of (by omega)
    unfold fq tu;rw [List.map_map];exact this
   ·have:=(oC.buf fun e he=>K6.mem e (by simp [he])).slc_of (by omega)
    unfold Ks IntS VL;rw [List.map_map,List.map_map];exact this
   ·have:=(oD.buf fun e he=>K6.mem e (by simp [he])).slc_of (by omega)
    unfold fq tu;rw [List.map_map];exact this
theorem PY {h:Hp} {s:Sl} {N:Nat} {T:Nat->Bool} {R:Value->Hp->Prop} (hT:fq h s N T) (hN:N<=1048576) (k:R (.bool (rz N T)) h):vq #[s.v] h R:=by
 apply Jc
 refine uf_ ?_
 have hl:=hT.len
 refine au N (fun i vs h'=>vs= [s.v,I i]/\h=h'/\ ∀j,j<i->T j=false) ⟨rfl,rfl,fun j hj=>by omega⟩ ?_
 rintro i _ _ next hi ⟨rfl,rfl,hj⟩ hnx
 refine⟨s,_,rfl,?_⟩
 by_cases hlt:i<N
 ·refine aM (by rw [decide_eq_true_eq];omega) ?_
  obtain⟨b,o,ha,h1,h2⟩:=hT.get hlt
  refine⟨b,o,ha,by omega,h1,_,h2,?_⟩
  refine ad (fun e=>?_) (fun e=>?_)
  ·rw [db.2 ⟨i,hlt,e⟩]at k;exact k
  ·rw [ay (by omega)]
   refine hnx hlt _ _ ⟨rfl,rfl,fun j hji=>?_⟩
   by_cases eq:j=i
   ·rw [eq];exact e
   ·exact hj j (by omega)
 ·refine aC (by rw [decide_eq_false_iff_not];omega) ?_
  rw [sD.2 fun j hjn=>hj j (by omega)]at k;exact k
theorem Ph {σ:aL} (S:Nat->Bool):rz (2^(σ.n+σ.k)) (fun c=>S (c%2^σ.n)&&σ.ends c)=σ.met S:=by
 rw [Bool.eq_iff_iff,db]
 unfold aL.met
 rw [db]
 constructor
 ·rintro ⟨c,hc,e⟩
  rw [Bool.and_eq_true]at e
  obtain⟨h1,h2,h3⟩:=aL.at_of hc
  refine⟨c%2^σ.n,h1,?_⟩
  rw [e.1,Bool.true_and,aL.endsAt_iff]
  have:=e.2
  unfold aL.ends at this
  rw [Bool.and_eq_true]at this
  exact⟨c/2^σ.n,h2,by rw [h3];exact this⟩
 ·rintro ⟨s,hs,e⟩
  rw [Bool.and_eq_true,aL.endsAt_iff]at e
  obtain⟨e1,x,hx,e2,e3⟩:=e
  refine⟨σ.at_ s x,aL.at_lt hs hx,?_⟩
  unfold aL.ends
  rw [aL.at_mod hs,e1,e2,e3];rfl
theorem SQ {h:Hp} {q:FN} {σ:aL} {s:Sl} {S:Nat->Bool} {R:Value->Hp->Prop} (hq:G4 h q σ) (ok:σ.Ok) (hS:fq h s (2^σ.n) S) (k:R (.bool (σ.met S)) h):
  xm #[NM σ q,s.v] h R:=by
 refine ACalls.drop (MQ ?_)
 refine uf_ ?_
 have hn:=mT ok
 have hp:=vu ok
 have hpos:=Nat.two_pow_pos σ.n
 refine aj fun b10 h1 hb10 l1 f10=>?_
 have he:=hq.2.1.mono l1
 have hS1:=hS.mono l1
 have hel:=he.len
 refine au (2^(σ.n+σ.k)) (fun i vs h'=>vs= [s.v, .pointer (some ⟨b10,0,none⟩),I i]/\h1=h'/\ ∀j,j<i->(S (j%2^σ.n)&&σ.ends j)=false) ⟨rfl,rfl,fun j hj=>by omega⟩ ?_
 rintro i _ _ next hi ⟨rfl,rfl,hj⟩ hnx
 refine⟨s,b10,0,_,rfl,?_⟩
 (refine aD ?_)
 by_cases hlt:i<2^(σ.n+σ.k)
 ·refine aM (by rw [decide_eq_true_eq];omega) ?_
  have go:(S (i%2^σ.n)&&σ.ends i)=false->next [s.v, .pointer (some ⟨b10,0,none⟩),I (W ((i:Int)+1))] h1:=fun e=>by
   rw [ay (by omega)]
   refine hnx hlt _ _ ⟨rfl,rfl,fun j hji=>?_⟩
   by_cases eq:j=i
   ·rw [eq];exact e
   ·exact hj j (by omega)
  (refine aD ?_)
  rw [if_neg (by omega),eP]
  obtain⟨b,o,ha,h2,h3⟩:=hS1.get (i:=i%2^σ.n) (Nat.mod_lt _ hpos)
  refine⟨b,o,ha,by omega,h2,_,h3,?_⟩
  refine ad (fun e=>?_) (fun e=>?_)
  ·(refine aD ?_)
   obtain⟨b,o,ha,h2,h3⟩:=he.get hlt
   refine⟨b,o,ha,by omega,h2,_,h3,?_⟩
   refine ad (fun e2=>?_) (fun e2=>?_)
   ·refine⟨h,l1,?_⟩
    rw [<-Ph,db.2 ⟨i,hlt,by rw [e,e2];rfl⟩]at k;exact k
   ·exact go (by rw [e2,Bool.and_false])
  ·exact go (by rw [e];rfl)
 ·refine aC (by rw [decide_eq_false_iff_not];omega) ⟨h,l1,?_⟩
  rw [<-Ph,sD.2 fun j hjn=>hj j (by omega)]at k;exact k
theorem GA {k f:Nat}:f∈iZ k↔f&&&k=f:=by
 unfold iZ
 rw [List.mem_filter,List.mem_range,decide_eq_true_eq]
 refine⟨fun h=>h.2,fun h=>⟨?_,h⟩⟩
 have:f&&&k<=k:=Nat.and_le_right
 omega
theorem uW {σ:aL} {fm c t:Nat} (ok:σ.Ok) (hfm:fm+σ.fixed=2^σ.n-1) (hc:c<2^(σ.n+σ.k)) (ht:t<2^σ.n):σ.goes c t=true↔ ∃f,f∈iZ fm/\σ.next c+f=t:=by
 unfold aL.goes
 rw [decide_eq_true_eq,adj (y:=fm) (by omega) ok.fixed ht (ok.next c hc) (ok.held c hc)]
 constructor
 ·rintro ⟨f,h1,h2⟩;exact⟨f,GA.2 h1,h2⟩
 ·rintro ⟨f,h1,h2⟩;exact⟨f,GA.1 h1,h2⟩
theorem IK {σ:aL} {fm c f:Nat} (ok:σ.Ok) (hfm:fm+σ.fixed=2^σ.n-1) (hc:c<2^(σ.n+σ.k)) (hf:f∈iZ fm):σ.next c+f<2^σ.n:=by
 have h1:=GA.1 hf
 have h2:f&&&fm<=fm:=Nat.and_le_right
 have h3:=ok.held c hc
 have h4:σ.next c&&&σ.fixed<=σ.fixed:=Nat.and_le_right
 have:=Nat.two_pow_pos σ.n
 omega
theorem Mg {h:Hp} {q:FN} {σ:aL} {s:Sl} {S:Nat->Bool} {R:Value->Hp->Prop} (hq:G4 h q σ) (ok:σ.Ok) (hS:fq h s (2^σ.n) S)
  (k: ∀b' T h',Kn h h' [(b', .inl ⟨tb (2^σ.n) T,2^σ.n,false⟩)]->(∀j,j<2^σ.n->T j=σ.fwd σ.hold S j)->R (arr b' (2^σ.n)).v h'):rL #[NM σ q,s.v] h R:=by
 apply Gp
 refine uf_ ?_
 have hn:=mT ok
 have hp:=vu ok
 have hpos:=Nat.two_pow_pos σ.n
 obtain⟨hh,_,hx,⟨fm,hfm,hfl⟩,_⟩:=id hq
 have hhl:=hh.len
 have hxl:=IntS.len hx
 rw [aX,List.length_map,List.length_range]at hxl
 have hfll:=IntS.len hfl
 rw [aX]at hfll
 have hfb:(iZ fm).length<=2^σ.n:=by
  have h1:(iZ fm).length<=fm+1:=by unfold iZ;have:=List.length_filter_le (fun c=>decide (c&&&fm=c)) (List.range (fm+1));simpa using this
  omega
 have K0:=Kn.nil h
 (with_reducible apply Kn.al);(assumption);(intro b10 h1 K1 l1 hb10)
 (refine kr_ ?_)
 refine⟨Int.natCast_nonneg _,Int.le_refl _,by omega,by omega,?_⟩
 (with_reducible apply Kn.al);(assumption);(intro b14 h2 K2 l2 hb14)
 rw [Int.toNat_natCast,Nat.mul_one,cE,uL]at K2
 rw [Int.toNat_natCast]
 refine au (2^(σ.n+σ.k)) (fun c vs h'=>vs= [s.v, .pointer (some ⟨b10,0,none⟩),(arr b14 (2^σ.n)).v,I c]/\
  ∃T,Kn h h' [(b14, .inl ⟨tb (2^σ.n) T,2^σ.n,false⟩),(b10, .inl ⟨S7 σ q,7,false⟩)]/\ ∀x,T x=true↔ ∃c',c'<c/\S (c'%2^σ.n)=true/\σ.hold c'=true/\ ∃f,f∈iZ fm/\σ.next c'+f=x)
  ⟨rfl,_,K2,fun x=>⟨fun e=>by simp at e,fun⟨c',e,_⟩=>by omega⟩⟩ ?_
 clear K2 K1 K0 l1 l2 hb10 hb14 h1 h2
 rintro c _ h1 nxt hc ⟨rfl,T,K1,hT⟩ hnx
 refine⟨s,b10,0,arr b14 _,_,rfl,?_⟩
 (refine kr_ ?_)
 by_cases hlt:c<2^(σ.n+σ.k)
 rotate_left
 ·refine aC (by rw [decide_eq_false_iff_not];omega) ?_
  refine k b14 T h1 (K1.sub (fun e he=>by rw [List.mem_singleton]at he;subst he;exact .head _) (by simp)) fun j hj=>?_
  rw [Bool.eq_iff_iff,hT,aL.fwd_iff]
  constructor
  ·rintro ⟨c',q1,q2,q3,q4⟩
   have hc':c'<2^(σ.n+σ.k):=by omega
   obtain⟨a1,a2,a3⟩:=aL.at_of hc'
   exact⟨c'%2^σ.n,c'/2^σ.n,a1,a2,q2,by rw [a3];exact q3,by rw [a3];exact(uW ok hfm hc' hj).2 q4⟩
  ·rintro ⟨s',i',q1,q2,q3,q4,q5⟩
   have hc':=aL.at_lt q1 q2
   exact⟨σ.at_ s' i',by omega,by rw [aL.at_mod q1];exact q3,q4,(uW ok hfm hc' hj).1 q5⟩
 refine aM (by rw [decide_eq_true_eq];omega) ?_
 have skip:(S (c%2^σ.n)&&σ.hold c)=false->nxt [s.v, .pointer (some ⟨b10,0,none⟩),(arr b14 (2^σ.n)).v,I (W ((c:Int)+1))] h1:=fun e=>by
  rw [ay (by omega)]
  refine hnx hlt _ _ ⟨rfl,T,K1,fun x=>?_⟩
  rw [hT]
  constructor
  ·rintro ⟨c',q1,q⟩;exact⟨c',by omega,q⟩
  ·rintro ⟨c',q1,q2,q3,q4⟩
   by_cases e2:c'=c
   ·rw [e2]at q2 q3;rw [q2,q3]at e;cases e
   ·exact⟨c',by omega,q2,q3,q4⟩
 rw [jB]
 (refine kr_ ?_)
 rw [if_neg (by omega),eP]
 obtain⟨b,o,ha,e1,e2⟩:=(hS.mono K1.le).get (i:=c%2^σ.n) (Nat.mod_lt _ hpos)
 refine⟨b,o,ha,by omega,e1,_,e2,?_⟩
 refine ad (fun e=>?_) (fun e=>?_)
 ·exact aM rfl (skip (by have:S (c%2^σ.n)=false:=by simpa using e
                         rw [this];rfl))
 have eS:S (c%2^σ.n)=true:=by simpa using e
 (refine kr_ ?_)
 obtain⟨b,o,ha,e1,e2⟩:=(hh.mono K1.le).get hlt
 refine⟨b,o,ha,by omega,e1,_,e2,?_⟩
 refine ad (fun e=>?_) (fun e=>?_)
 ·exact skip (by have:σ.hold c=false:=by simpa using e
                 rw [this,Bool.and_false])
 have eH:σ.hold c=true:=by simpa using e
 refine au (iZ fm).length (fun j vs h'=>vs= [s.v, .pointer (some ⟨b10,0,none⟩),(arr b14 (2^σ.n)).v,I c,I j]/\
  ∃U,Kn h h' [(b14, .inl ⟨tb (2^σ.n) U,2^σ.n,false⟩),(b10, .inl ⟨S7 σ q,7,false⟩)]/\ ∀x,U x=true↔T x=true\/ ∃f,f∈(iZ fm).take j/\σ.next c+f=x)
  ⟨rfl,T,K1,fun x=>⟨fun q=> .inl q,fun q=>q.resolve_right fun⟨f,q1,_⟩=>by simp at q1⟩⟩ ?_
 clear skip K1
 rintro j _ h1 nxt2 hj ⟨rfl,U,K1,hU⟩ hnx2
 refine⟨s,b10,0,arr b14 _,_,_,rfl,?_⟩
 (refine kr_ ?_)
 by_cases hlj:j<(iZ fm).length
 rotate_left
 ·refine aC (by rw [decide_eq_false_iff_not];omega) ?_
  rw [ay (by omega)]
  refine hnx hlt _ _ ⟨rfl,U,K1,fun x=>?_⟩
  rw [hU,hT,List.take_of_length_le (by omega)]
  constructor
  ·rintro (⟨c',q1,q⟩|q)
   ·exact⟨c',by omega,q⟩
   ·exact⟨c,by omega,eS,eH,q⟩
  ·rintro ⟨c',q1,q2,q3,q4⟩
   by_cases e2:c'=c
   ·rw [e2]at q4;exact .inr q4
   ·exact .inl ⟨c',by omega,q2,q3,q4⟩
 refine aM (by rw [decide_eq_true_eq];omega) ?_
 (refine kr_ ?_)
 obtain⟨b,o,ha,e1,e2⟩:=Ks.get (hx.mono K1.le) hlt
 refine⟨b,o,ha,by omega,e1,_,e2,?_⟩
 (refine kr_ ?_)
 obtain⟨f,hf⟩: ∃f,(iZ fm)[j]?=some f:=⟨_,List.getElem?_eq_getElem hlj⟩
 obtain⟨b,o,ha,e3⟩:=(hfl.mono K1.le).get (ir hf)
 refine⟨b,o,ha,by omega,by omega,_,e3,?_⟩
 have hlf:=IK ok hfm hlt (List.mem_of_getElem? hf)
 rw [<-Int.natCast_add,fV (by omega)]
 refine⟨b14,0,rfl,by omega,by dsimp only;omega,?_⟩
 (((with_reducible apply Kn.wr);(assumption);((focus ((repeat first|exact .head|apply Upd.tail);done)))))
 ·rw [oP];omega
 intro h2 K2 _
 rw [bG,Nat.zero_add,Int.toNat_natCast,Nat.mul_one,u9]at K2
 rw [ay (by omega)]
 refine hnx2 hlj _ _ ⟨rfl,_,K2,fun x=>?_⟩
 rw [List.take_add_one,hf]
 by_cases ex:x=σ.next c+f
 ·rw [if_pos ex]
  exact⟨fun _=> .inr ⟨f,by simp,ex.symm⟩,fun _=>rfl⟩
 ·rw [if_neg ex,hU]
  constructor
  ·rintro (q|⟨f',q1,q2⟩)
   ·exact .inl q
   ·exact .inr ⟨f',List.mem_append_left _ q1,q2⟩
  ·rintro (q|⟨f',q1,q2⟩)
   ·exact .inl q
   ·rcases List.mem_append.1 q1 with q1|q1
    ·exact .inr ⟨f',q1,q2⟩
    ·simp at q1;subst q1;exact absurd q2.symm ex
theorem Lg {h:Hp} {q:FN} {σ:aL} {R:Value->Hp->Prop} (hq:G4 h q σ) (ok:σ.Ok)
  (k: ∀s h',h.le h'->Ik h' s (2^σ.n) σ.nLay σ.front->R (Sl.v s) h'):rY #[NM σ q] h R:=by
 apply Gj
 refine uf_ ?_
 have hn:=mT ok
 have h8:=ok.nle
 have K0:=Kn.nil h
 (with_reducible apply Kn.al);(assumption);(intro b9 h1 K1 l1 hb9)
 (refine kr_ ?_)
 refine⟨Int.natCast_nonneg _,Int.le_refl _,by omega,by omega,?_⟩
 (with_reducible apply Kn.al);(assumption);(intro b14 h2 K2 l2 hb14)
 rw [Int.toNat_natCast,Nat.mul_one,cE,uL]at K2
 rw [Int.toNat_natCast]
 (refine kr_ ?_)
 refine au (2^σ.n) (fun i vs h'=> ∃(out fr:Sl) (g:Hp) (V:Nat->Bool) (ts:List Sl),vs= [.pointer (some ⟨b9,0,none⟩),out.v,(arr b14 (2^σ.n)).v,fr.v]/\
  h.le g/\Kn g (h'.offS out) [(b14, .inl ⟨tb (2^σ.n) V,2^σ.n,false⟩),(b9, .inl ⟨S7 σ q,7,false⟩)]/\fq g fr (2^σ.n) (σ.front i)/\Buf h' out 1 (ts.map Sl.v)/\ts.length=i/\
  (∀(j:Nat) (t:Sl),ts[j]?=some t->fq g t (2^σ.n) (σ.front j))/\(∀j,j<2^σ.n->V j=σ.seen i j)/\ ∀j,j<i->σ.live j=true)
  ⟨⟨none,0,0⟩,q.bs,h,_, [],rfl,Hp.le_refl _,K2,hq.2.2.2.2,fG _ _,rfl,fun j t ht=>by simp at ht,fun _ _=>rfl,fun j hj=>by omega⟩ ?_
 clear K2 K1 K0 l1 l2 hb9 hb14 h1 h2
 rintro i _ h1 nxt hi ⟨out,fr,g,V,ts,rfl,lg,K1,hF,hB,htl,ht,hV,hlive⟩ hnx
 refine⟨b9,0,out,arr b14 _,fr,rfl,?_⟩
 have K1':=K1.mono (aW h1 out)
 have hbF:=hF.mono K1'.le
 have hon:=hB.1
 rw [List.length_map,Nat.mul_one]at hon
 refine PY hbF (by omega) ⟨_,rfl,?_⟩
 refine ad (fun e=>?_) (fun e=>?_)
 rotate_left
 ·have hnl:σ.nLay=i:=aL.nLay_of hlive e
  exact k out h1 (Hp.le_trans lg K1'.le) ⟨ts,by omega,hB.slc_of (by omega),fun j t hj=>(ht j t hj).mono K1'.le⟩
 have hlive': ∀j,j<i+1->σ.live j=true:=fun j hj=>by
  by_cases e2:j=i
  ·rw [e2];exact e
  ·exact hlive j (by omega)
 have hlt:i<2^σ.n:=aL.live_le hlive'
 refine aj fun b34 h2 hb34 l2 f34=>?_
 refine dG (hB.mono l2) (by omega) (by omega) (by omega) ⟨b34,0,rfl,aw f34⟩ (by simp) rfl ?_
 intro s' h3 hs'n hB' l3 _
 have K2:=K1.mono (Hp.le_trans (bC out l2) l3)
 have K2':=K2.mono (aW h3 s')
 repeat' (refine kr_ ?_)
 refine Mg (hq.mono (Hp.le_trans lg K2'.le)) ok (hF.mono K2'.le) fun bB T h4 K5 hT=>⟨_,rfl,?_⟩
 have hbB:h3 bB=none:=K5.new _ (.head _)
 have K6:=K2.cons (b:=bB) (aF (aW h3 s') hbB) (bC s' K5.le) (hB'.offS_new hbB (K5.at (.head _)))
 have hB4:=hB'.mono K5.le
 have K6':=K6.mono (aW h4 s')
 (refine kr_ ?_)
 refine⟨Int.natCast_nonneg _,Int.le_refl _,by omega,by omega,?_⟩
 refine aj fun b53 h5 hb53 l5 f53=>?_
 rw [Int.toNat_natCast,Nat.mul_one,cE,uL]at f53
 rw [Int.toNat_natCast]
 have K7:=K6.cons (b:=b53) (aF (aW h4 s') hb53) (bC s' l5) (hB4.offS_new hb53 f53)
 have hB5:=hB4.mono l5
 refine au (2^σ.n) (fun x vs h'=>vs= [.pointer (some ⟨b9,0,none⟩),s'.v,(arr b14 (2^σ.n)).v,fr.v,(arr bB (2^σ.n)).v,(arr b53 (2^σ.n)).v,I x]/\
  ∃V,Kn g (h'.offS s') [(b53, .inl ⟨tb (2^σ.n) fun _=>false,2^σ.n,false⟩),(bB, .inl ⟨tb (2^σ.n) T,2^σ.n,false⟩),(b14, .inl ⟨tb (2^σ.n) V,2^σ.n,false⟩),(b9, .inl ⟨S7 σ q,7,false⟩)]/\
   Buf h' s' 1 (ts.map Sl.v++ [fr.v])/\ ∀j,j<2^σ.n->V j=if j<x then σ.seen (i+1) j else σ.seen i j)
  ⟨rfl,V,K7,hB5,fun j hj=>by rw [if_neg (by omega)];exact hV j hj⟩ ?_
 clear K7 hB5 hB4 K6 K6' K5 hV hbF K1'
 rintro x _ h6 nxt1 hx ⟨rfl,V,K,B,hV⟩ hnx1
 refine⟨b9,0,s',arr b14 _,fr,arr bB _,arr b53 _,_,rfl,?_⟩
 have K':=K.mono (aW h6 s')
 (refine kr_ ?_)
 by_cases hlx:x<2^σ.n
 ·refine aM (by rw [decide_eq_true_eq];exact_mod_cast hlx) ?_
  have hVx:V x=σ.seen i x:=by rw [hV x hlx,if_neg (by omega)]
  have fin: ∀v h7,v=σ.seen (i+1) x->Kn g (h7.offS s') [(b53, .inl ⟨tb (2^σ.n) fun _=>false,2^σ.n,false⟩),(bB, .inl ⟨tb (2^σ.n) T,2^σ.n,false⟩),(b14, .inl ⟨(tb (2^σ.n) V).set x (.bool v),2^σ.n,false⟩),(b9, .inl ⟨S7 σ q,7,false⟩)]->
    Buf h7 s' 1 (ts.map Sl.v++ [fr.v])->nxt1 [.pointer (some ⟨b9,0,none⟩),s'.v,(arr b14 (2^σ.n)).v,fr.v,(arr bB (2^σ.n)).v,(arr b53 (2^σ.n)).v,I (W ((x:Int)+1))] h7:=by
   intro v h7 hv K7 B7
   rw [ay (by omega)]
   rw [u9]at K7
   refine hnx1 hlx _ _ ⟨rfl,_,K7,B7,fun j hj=>?_⟩
   by_cases e2:j=x
   ·rw [if_pos e2,if_pos (by omega),e2];exact hv
   ·rw [if_neg e2,hV j hj]
    by_cases e3:j<x
    ·rw [if_pos e3,if_pos (by omega)]
    ·rw [if_neg e3,if_neg (by omega)]
  refine⟨b14,0,rfl,by omega,by dsimp only;omega,?_⟩
  refine Kn.rd K' (.tail _ (.tail _ (.head _))) (x:=V x) (by rw [Nat.zero_add,Nat.mul_one,Int.toNat_natCast];exact zk hlx) ?_
  refine ad (fun e2=>?_) (fun e2=>?_)
  ·refine⟨b14,0,rfl,by omega,by dsimp only;omega,?_⟩
   (with_reducible apply Kn.wrS);(exact K);((focus ((repeat first|exact .head|apply Upd.tail);done)))
   ·rw [oP];omega
   intro h7 K7 B7 _
   rw [bG,Nat.zero_add,Int.toNat_natCast,Nat.mul_one]at K7
   exact fin _ h7 (by rw [aL.seen_succ,<-hVx,e2];rfl) K7 (B7 _ _ B)
  ·obtain⟨b,o,ha,e3,e4⟩:=(hF.mono K'.le).get hlx
   refine⟨b,o,ha,by omega,e3,_,e4,?_⟩
   refine⟨b14,0,rfl,by omega,by dsimp only;omega,?_⟩
   (with_reducible apply Kn.wrS);(exact K);((focus ((repeat first|exact .head|apply Upd.tail);done)))
   ·rw [oP];omega
   intro h7 K7 B7 _
   rw [bG,Nat.zero_add,Int.toNat_natCast,Nat.mul_one]at K7
   exact fin _ h7 (by rw [aL.seen_succ,<-hVx,e2];rfl) K7 (B7 _ _ B)
 refine aC (by rw [decide_eq_false_iff_not];omega) ?_
 replace hV: ∀j,j<2^σ.n->V j=σ.seen (i+1) j:=fun j hj=>by rw [hV j hj,if_pos (by omega)]
 refine au (2^σ.n) (fun x vs h'=>vs= [.pointer (some ⟨b9,0,none⟩),s'.v,(arr b14 (2^σ.n)).v,(arr bB (2^σ.n)).v,(arr b53 (2^σ.n)).v,I x]/\
  ∃F,Kn g (h'.offS s') [(b53, .inl ⟨tb (2^σ.n) F,2^σ.n,false⟩),(bB, .inl ⟨tb (2^σ.n) T,2^σ.n,false⟩),(b14, .inl ⟨tb (2^σ.n) V,2^σ.n,false⟩),(b9, .inl ⟨S7 σ q,7,false⟩)]/\
   Buf h' s' 1 (ts.map Sl.v++ [fr.v])/\ ∀j,j<x->F j=σ.front (i+1) j) ⟨rfl,_,K,B,fun j hj=>by omega⟩ ?_
 clear K B K' h6 hnx1 hx hlx
 rintro x _ h6 nxt1 hx ⟨rfl,F,K,B,hFx⟩ hnx1
 refine⟨b9,0,s',arr b14 _,arr bB _,arr b53 _,_,rfl,?_⟩
 have K':=K.mono (aW h6 s')
 (refine kr_ ?_)
 by_cases hlx:x<2^σ.n
 ·refine aM (by rw [decide_eq_true_eq];exact_mod_cast hlx) ?_
  have fin: ∀v h7,v=σ.front (i+1) x->Kn g (h7.offS s') [(b53, .inl ⟨(tb (2^σ.n) F).set x (.bool v),2^σ.n,false⟩),(bB, .inl ⟨tb (2^σ.n) T,2^σ.n,false⟩),(b14, .inl ⟨tb (2^σ.n) V,2^σ.n,false⟩),(b9, .inl ⟨S7 σ q,7,false⟩)]->
    Buf h7 s' 1 (ts.map Sl.v++ [fr.v])->nxt1 [.pointer (some ⟨b9,0,none⟩),s'.v,(arr b14 (2^σ.n)).v,(arr bB (2^σ.n)).v,(arr b53 (2^σ.n)).v,I (W ((x:Int)+1))] h7:=by
   intro v h7 hv K7 B7
   rw [ay (by omega)]
   rw [u9]at K7
   refine hnx1 hlx _ _ ⟨rfl,_,K7,B7,fun j hj=>?_⟩
   by_cases e2:j=x
   ·rw [if_pos e2,e2];exact hv
   ·rw [if_neg e2];exact hFx j (by omega)
  refine⟨bB,0,rfl,by omega,by dsimp only;omega,?_⟩
  refine Kn.rd K' (.tail _ (.head _)) (x:=T x) (by rw [Nat.zero_add,Nat.mul_one,Int.toNat_natCast];exact zk hlx) ?_
  refine ad (fun e2=>?_) (fun e2=>?_)
  ·refine⟨b14,0,rfl,by omega,by dsimp only;omega,?_⟩
   refine Kn.rd K' (.tail _ (.tail _ (.head _))) (x:=V x) (by rw [Nat.zero_add,Nat.mul_one,Int.toNat_natCast];exact zk hlx) ?_
   refine⟨b53,0,rfl,by omega,by dsimp only;omega,?_⟩
   (with_reducible apply Kn.wrS);(exact K);((focus ((repeat first|exact .head|apply Upd.tail);done)))
   ·rw [oP];omega
   intro h7 K7 B7 _
   rw [bG,Nat.zero_add,Int.toNat_natCast,Nat.mul_one]at K7
   exact fin _ h7 (by rw [aL.front_succ,<-hT x hlx,e2,hV x hlx];rfl) K7 (B7 _ _ B)
  ·refine⟨b53,0,rfl,by omega,by dsimp only;omega,?_⟩
   (with_reducible apply Kn.wrS);(exact K);((focus ((repeat first|exact .head|apply Upd.tail);done)))
   ·rw [oP];omega
   intro h7 K7 B7 _
   rw [bG,Nat.zero_add,Int.toNat_natCast,Nat.mul_one]at K7
   exact fin _ h7 (by rw [aL.front_succ,<-hT x hlx,e2];rfl) K7 (B7 _ _ B)
 refine aC (by rw [decide_eq_false_iff_not];omega) ?_
 obtain⟨K3,K4⟩:=Kn.split (A:= [(b53, .inl ⟨tb (2^σ.n) F,2^σ.n,false⟩),(bB, .inl ⟨tb (2^σ.n) T,2^σ.n,false⟩)]) (B:= [(b14, .inl ⟨tb (2^σ.n) V,2^σ.n,false⟩),(b9, .inl ⟨S7 σ q,7,false⟩)]) K
 have fF:=K4.at (.head _)
 refine hnx hlt _ _ ⟨s',arr b53 (2^σ.n),_,V,ts++ [fr],rfl,Hp.le_trans lg K4.le,K3,xZ (by omega) fF fun j hj=>hFx j (by omega),by rw [List.map_append];exact B,by simp [htl],fun j t hj=>?_,hV,hlive'⟩
 by_cases hji:j<i
 ·rw [List.getElem?_append_left (by omega)]at hj
  exact(ht j t hj).mono K4.le
 ·have hj2:=get_lt hj
  simp at hj2
  rw [List.getElem?_append_right (by omega),show j-ts.length=0 by omega]at hj
  simp at hj;subst hj
  rw [show j=i by omega];exact hF.mono K4.le
theorem C8 {h:Hp} {q:FN} {σ:aL} {R:Value->Hp->Prop} (hq:G4 h q σ) (ok:σ.Ok) (k:R (I σ.depthI) h):pL #[NM σ q] h R:=by
 refine ACalls.drop (Iq ?_)
 refine uf_ ?_
 have hn:=mT ok
 have hnl:=aL.nLay_le σ
 refine aj fun b9 h1 hb9 l1 f9=>?_
 repeat' (refine aD ?_)
 refine Lg (hq.mono l1) ok fun t h2 l2 hL=>⟨_,rfl,?_⟩
 have l02:=Hp.le_trans l1 l2
 replace f9:=l2 _ _ f9
 have hl:=hL.len
 refine au σ.nLay (fun i vs h'=>vs= [.pointer (some ⟨b9,0,none⟩),t.v,I i]/\h2=h'/\ ∀j,j<i->σ.hits j=false) ⟨rfl,rfl,fun j hj=>by omega⟩ ?_
 rintro i _ _ nxt hi ⟨rfl,rfl,hno⟩ hnx
 refine⟨b9,0,t,_,rfl,?_⟩
 by_cases hlt:i<σ.nLay
 rotate_left
 ·refine aC (by rw [decide_eq_false_iff_not];omega) ⟨h,l02,?_⟩
  have:σ.depth=none:=aL.find_none.2 fun j hj=>hno j (by omega)
  unfold aL.depthI at k
  rw [this]at k;exact k
 refine aM (by rw [decide_eq_true_eq];omega) ?_
 obtain⟨bl,ol,r,ha,h3,h4,hr⟩:=hL.get hlt
 refine⟨bl,ol,ha,by omega,h3,?_⟩
 repeat' (refine aD ?_)
 refine⟨r,h4,?_⟩
 refine SQ (hq.mono l02) ok hr ⟨_,rfl,?_⟩
 refine ad (fun e=>?_) (fun e=>?_)
 ·refine⟨h,l02,?_⟩
  have:σ.depth=some i:=aL.depth_some.2 ⟨e,fun x hx=>hno x hx⟩
  unfold aL.depthI at k
  rw [this]at k;exact k
 ·rw [ay (by omega)]
  refine hnx hlt _ _ ⟨rfl,rfl,fun x hx=>?_⟩
  by_cases e2:x=i
  ·rw [e2];exact e
  ·exact hno x (by omega)
theorem D5 {h:Hp} {M:MSl} {m:ah} {R:Value->Hp->Prop} (hs:aO h M m) (hm:bT m) (k:R (I (if aG m=0 then(aZ m).depthI else-1)) h):uc #[aQ M] h R:=by
 refine ACalls.drop (HX ?_)
 refine uf_ ?_
 refine aj fun b7 h1 hb7 l1 f7=>?_
 repeat' (refine aD ?_)
 refine cj (hs.mono l1) hm ⟨_,rfl,?_⟩
 refine ad (fun e=>?_) (fun e=>?_)
 ·rw [if_neg (iV e)]at k
  exact⟨h,l1,k⟩
 ·have hc:=fY e
  rw [if_pos hc]at k
  repeat' (refine aD ?_)
  refine Lw (hs.mono l1) hm hc fun q h2 l2 hq=>⟨_,_,_,_,_,_,_,rfl,?_⟩
  exact C8 hq (yS (cD hc)) ⟨_,rfl,h,Hp.le_trans l1 l2,k⟩
theorem fq.wo {g h h':Hp} {L:List (Nat×Blk)} {t:Sl} {n:Nat} {T:Nat->Bool} (K:Kn g h L) (e:fq (h'.sub h) t n T):fq (h'.wo (L.map Prod.fst)) t n T:=
 fq.mono (vH (sub_le _ _) fun b hb=>by
  cases hx:h b with
  |none=>exact absurd hx (K.has b hb)
  |some x=>exact mP hx) e
theorem bR.toOwn {g h:Hp} {A X L:List (Nat×Blk)} {s:Sl} {sz:Nat} {cs:List Value} (o:bR X s sz cs) (hn:s.n<=9223372036854775807) (K:Kn g h (A++(X++L))): ∃X',mv X' s sz cs/\Kn g h (A++(X'++L)):=by
 by_cases h0:s.n=0
 ·refine⟨[],⟨o.1,hn, .inl ⟨h0,rfl⟩⟩,K.sub (fun e he=>?_) ?_⟩
  ·rcases List.mem_append.1 he with he|he
   ·exact List.mem_append_left _ he
   ·exact List.mem_append_right _ (List.mem_append_right _ he)
  ·have nd:=K.nd
   rw [List.map_append,List.map_append]at nd
   rw [List.nil_append,List.map_append]
   exact nd.sublist (List.Sublist.append_left (List.sublist_append_right _ _) _)
 ·rcases o.2.2 with ⟨_,rfl,_⟩|⟨b,ha,rfl⟩
  ·exact absurd rfl h0
  ·exact⟨_,⟨o.1,hn, .inr ⟨h0,b,_,ha,rfl⟩⟩,K⟩
theorem ya {g h h':Hp} {L:List (Nat×Blk)} (K:Kn g h L):(h'.sub h).le (h'.wo (L.map Prod.fst)):=by
 intro c x e
 have hn:h c=none:=mb (by rw [e];simp)
 rw [vV fun hm=>K.has c hm hn]
 exact sub_le _ _ _ _ e
def TrX (h h':Hp) (sS sI:Sl) (l:List (Nat×Nat)):Prop:=
 ∃XS XI,mv XS sS 1 ((VL (l.map Prod.fst)).map I)/\mv XI sI 1 ((VL (l.map Prod.snd)).map I)/\Kn h h' (XS++XI)
theorem bR.at {X:List (Nat×Blk)} {h:Hp} {s t:Sl} {ts:List Sl} {i:Nat} (o:bR X s 1 (ts.map Sl.v)) (m: ∀e∈X,h e.1=some e.2) (hi:ts[i]?=some t):
  ∃b x,s.a=some ⟨b,0,none⟩/\h b=some x/\Hp.cell h b (0+i*1)=some t.v:=by
 have hlt:=get_lt hi
 rcases o.2.2 with ⟨_,_,h0⟩|⟨b,ha,rfl⟩
 ·have:ts.length=0:=by have:=congrArg List.length h0;simpa using this
  omega
 ·have hb:=m _ (.head _)
  refine⟨b,_,ha,hb,?_⟩
  rw [ax hb,Nat.zero_add,Nat.mul_one,List.getElem?_map,hi];rfl
def TrG (h h':Hp) (sS sI:Sl) (l:List (Nat×Nat)):Prop:=
 ∃XS XI,bR XS sS 1 ((VL (l.map Prod.fst)).map I)/\bR XI sI 1 ((VL (l.map Prod.snd)).map I)/\Kn h h' (XS++(XI++ []))
theorem TrG.nil {h h':Hp} (l:h.le h'):TrG h h' ⟨none,0,0⟩ ⟨none,0,0⟩ []:=⟨[], [],cF 1,cF 1,Kn.of l⟩
theorem TrG.up {h g h1 h5:Hp} {b6:Nat} {sS sI:Sl} {l:List (Nat×Nat)} (t:TrG g h1 sS sI l) (lg:h.le g) (h6:g b6≠none) (l5:h.le h5) (kp: ∀c,c≠b6->h5 c=h1 c):TrG h h5 sS sI l:=by
 obtain⟨XS,XI,oS,oI,K⟩:=t
 refine⟨XS,XI,oS,oI,l5,fun e he=>?_,fun e he=>aF lg (K.new e he),K.nd⟩
 have hne:e.1≠b6:=by
  intro e6
  have h1:=K.new e he
  rw [e6]at h1;exact h6 h1
 rw [kp _ hne];exact K.mem e he
theorem TrG.tr {h h':Hp} {sS sI:Sl} {l:List (Nat×Nat)} (t:TrG h h' sS sI l) (hl:l.length<=1000000):TrX h h' sS sI l:=by
 obtain⟨XS,XI,oS,oI,K⟩:=t
 have h1:=oS.1
 have h2:=oI.1
 simp only [List.length_map,aX,Nat.mul_one]at h1 h2
 obtain⟨XS',oS',K6⟩:=oS.toOwn (by omega) (A:= []) (L:=XI++ []) K
 obtain⟨XI',oI',K7⟩:=oI.toOwn (by omega) (A:=XS') (L:= []) K6
 rw [List.append_nil]at K7
 exact⟨XS',XI',oS',oI',K7⟩
theorem TrX.nil {h h':Hp} (l:h.le h'):TrX h h' ⟨none,0,0⟩ ⟨none,0,0⟩ []:=⟨[], [],⟨rfl,by simp, .inl ⟨rfl,rfl⟩⟩,⟨rfl,by simp, .inl ⟨rfl,rfl⟩⟩,Kn.of l⟩
theorem TrX.up {h g h1 h5:Hp} {b6:Nat} {sS sI:Sl} {l:List (Nat×Nat)} (t:TrX g h1 sS sI l) (lg:h.le g) (h6:g b6≠none) (l5:h.le h5) (kp: ∀c,c≠b6->h5 c=h1 c):TrX h h5 sS sI l:=by
 obtain⟨XS,XI,oS,oI,K⟩:=t
 refine⟨XS,XI,oS,oI,l5,fun e he=>?_,fun e he=>aF lg (K.new e he),K.nd⟩
 have hne:e.1≠b6:=by
  intro e6
  have h1:=K.new e he
  rw [e6]at h1;exact h6 h1
 rw [kp _ hne];exact K.mem e he
theorem TrX.mono {h h1 h2:Hp} {sS sI:Sl} {l:List (Nat×Nat)} (t:TrX h h1 sS sI l) (l12:h1.le h2):TrX h h2 sS sI l:=by
 obtain⟨XS,XI,oS,oI,K⟩:=t
 exact⟨XS,XI,oS,oI,K.mono l12⟩
theorem mv.slcOf {X:List (Nat×Blk)} {h:Hp} {s:Sl} {sz:Nat} {cs:List Value} (o:mv X s sz cs) (m: ∀e∈X,h e.1=some e.2):SlC h s sz cs:=by
 refine⟨o.2.1,o.1,?_⟩
 rcases o.2.2 with ⟨h0,_⟩|⟨_,b,z,ha,rfl⟩
 ·exact .inl h0
 ·exact .inr ⟨b,0,ha,aw (m _ (.head _))⟩
theorem TrX.ints {h h1:Hp} {sS sI:Sl} {l:List (Nat×Nat)} (t:TrX h h1 sS sI l):IntS h1 sS (VL (l.map Prod.fst))/\IntS h1 sI (VL (l.map Prod.snd)):=by
 obtain⟨XS,XI,oS,oI,K⟩:=t
 exact⟨oS.slcOf fun e he=>K.mem e (List.mem_append_left _ he),oI.slcOf fun e he=>K.mem e (List.mem_append_right _ he)⟩
theorem TrX.le {h h':Hp} {sS sI:Sl} {l:List (Nat×Nat)} (t:TrX h h' sS sI l):h.le h':=by obtain⟨_,_,_,_,K⟩:=t;exact K.le
theorem TrX.add {g h h':Hp} {L:List (Nat×Blk)} {sS sI:Sl} {l:List (Nat×Nat)} (t:TrX h h' sS sI l) (K:Kn g h L):
  ∃XS XI,mv XS sS 1 ((VL (l.map Prod.fst)).map I)/\mv XI sI 1 ((VL (l.map Prod.snd)).map I)/\Kn g h' (L++(XS++XI)):=by
 obtain⟨XS,XI,oS,oI,K'⟩:=t
 exact⟨XS,XI,oS,oI,K.app K'.le K'.new K'.mem K'.nd⟩
section
variable {g h:Hp} {L XS XI:List (Nat×Blk)} {sS sI tS tI:Sl} {xs ys:List Int} {cS cI:List Value} {k0:Int} {R:Value->Hp->Prop}
end
structure HZ where
 kind:Int
 depth:Int
 tr:List (Nat×Nat)
 bd:Bd
def VrX (h h':Hp) (sS sI sN:Sl) (p:HZ):Prop:=
 ∃XS XI XN,mv XS sS 1 ((VL (p.tr.map Prod.fst)).map I)/\mv XI sI 1 ((VL (p.tr.map Prod.snd)).map I)/\mv XN sN 3 (cW p.bd.ns)/\Kn h h' (XS++(XI++XN))
theorem VrX.up {h g h1 h5:Hp} {b6:Nat} {sS sI sN:Sl} {p:HZ} (t:VrX g h1 sS sI sN p) (lg:h.le g) (h6:g b6≠none) (l5:h.le h5) (kp: ∀c,c≠b6->h5 c=h1 c):VrX h h5 sS sI sN p:=by
 obtain⟨XS,XI,XN,oS,oI,oN,K⟩:=t
 refine⟨XS,XI,XN,oS,oI,oN,l5,fun e he=>?_,fun e he=>aF lg (K.new e he),K.nd⟩
 have hne:e.1≠b6:=by
  intro e6
  have h1:=K.new e he
  rw [e6]at h1;exact h6 h1
 rw [kp _ hne];exact K.mem e he
theorem VrX.mono {h h1 h2:Hp} {sS sI sN:Sl} {p:HZ} (t:VrX h h1 sS sI sN p) (l12:h1.le h2):VrX h h2 sS sI sN p:=by
 obtain⟨XS,XI,XN,oS,oI,oN,K⟩:=t
 exact⟨XS,XI,XN,oS,oI,oN,K.mono l12⟩
theorem VrX.le {h h':Hp} {sS sI sN:Sl} {p:HZ} (t:VrX h h' sS sI sN p):h.le h':=by obtain⟨_,_,_,_,_,_,K⟩:=t;exact K.le
theorem JL (sz:Nat):mv [] ⟨none,0,0⟩ sz []:=⟨by simp,by simp, .inl ⟨rfl,rfl⟩⟩
theorem VrX.ofTr {h h':Hp} {sS sI:Sl} {l:List (Nat×Nat)} {k d:Int} (t:TrX h h' sS sI l):VrX h h' sS sI ⟨none,0,0⟩ ⟨k,d,l,km⟩:=by
 obtain⟨XS,XI,oS,oI,K⟩:=t
 exact⟨XS,XI, [],oS,oI,JL 3,by rw [List.append_nil];exact K⟩
theorem VrX.nil {h h':Hp} {k d:Int} (l:h.le h'):VrX h h' ⟨none,0,0⟩ ⟨none,0,0⟩ ⟨none,0,0⟩ ⟨k,d, [],km⟩:=VrX.ofTr (TrX.nil l)
theorem VrX.add {g h h':Hp} {L:List (Nat×Blk)} {sS sI sN:Sl} {p:HZ} (t:VrX h h' sS sI sN p) (K:Kn g h L):
  ∃XS XI XN,mv XS sS 1 ((VL (p.tr.map Prod.fst)).map I)/\mv XI sI 1 ((VL (p.tr.map Prod.snd)).map I)/\mv XN sN 3 (cW p.bd.ns)/\Kn g h' (L++(XS++(XI++XN))):=by
 obtain⟨XS,XI,XN,oS,oI,oN,K'⟩:=t
 exact⟨XS,XI,XN,oS,oI,oN,K.app K'.le K'.new K'.mem K'.nd⟩
def VrS (h:Hp) (sS sI sN:Sl) (p:HZ):Prop:=IntS h sS (VL (p.tr.map Prod.fst))/\IntS h sI (VL (p.tr.map Prod.snd))/\SlC h sN 3 (cW p.bd.ns)
theorem VrS.mono {h h':Hp} {sS sI sN:Sl} {p:HZ} (l:h.le h') (t:VrS h sS sI sN p):VrS h' sS sI sN p:=⟨t.1.mono l,t.2.1.mono l,t.2.2.mono l⟩
namespace aL
theorem run_seen {σ:aL}: ∀i s,σ.run i s=true->σ.seen (i+1) s=true:=by
 intro i
 induction i with
 |zero=>intro s h;rw [seen_succ,show σ.front 0 s=true from h,Bool.or_true]
 |succ i ih=>exact fun s h=>seen_fwd _ _ (fwd_mono (fun c _ h=>h) (fun s _ h=>ih s h) h)
theorem depth_of_run {σ:aL} {i s:Nat} (hs:s<2^σ.n) (h:σ.run i s=true) (he:σ.endsAt s=true): ∃d,σ.depth=some d/\d<=i:=by
 obtain⟨j,hj,hf⟩:=seen_iff.1 (run_seen i s h)
 have hh:σ.hits j=true:=db.2 ⟨s,hs,by rw [hf,he];rfl⟩
 cases hd:σ.depth with
 |none=>rw [depth_none.1 hd j]at hh;cases hh
 |some d=>
  refine⟨d,rfl,?_⟩
  rcases Nat.lt_or_ge j d with e|e
  ·rw [(depth_some.1 hd).2 j e]at hh;cases hh
  ·omega
theorem run_of_depth {σ:aL} {d:Nat} (h:σ.depth=some d): ∃s,s<2^σ.n/\σ.run d s=true/\σ.endsAt s=true:=by
 obtain⟨s,hs,h1⟩:=db.1 (depth_some.1 h).1
 rw [Bool.and_eq_true]at h1
 exact⟨s,hs,front_run σ d s h1.1,h1.2⟩
end aL
abbrev rdC (s:Sl) (p:Nat):Blk:= .inl ⟨[s.v,I p],2,false⟩
theorem V7 {g h:Hp} {L L':List (Nat×Blk)} {B p:Nat} {s:Sl} {bs:List Nat} {n:Int} {R:Value->Hp->Prop} (K:Kn g h L) (hb:ByteS g s bs) (u:Upd L B (rdC s p) (rdC s (p+1)) L') (hp:p<=1000000) (hn:n<=1000000000)
  (k: ∀(x:Nat) h',Kn g h' L'->(1<=n->(x:Int)<n)->(n<1->x=0)->R (I x) h'):am #[.pointer (some ⟨B,0,none⟩),I n] h R:=
 GF ⟨K.at u.mem,hb.mono (zP (K.new (B,_) u.mem) K.le)⟩ (by omega) hn fun x h1 h2=>k x _ (K.set u) h1 h2
theorem kp_ {P Q:Prop} (k:Q) (h:Q->P:=by((with_reducible apply V7);(assumption);(assumption);(((focus ((repeat first|exact .head|apply Upd.tail);done))));(omega);(omega))):P:=h k
def MG (X:List (Nat×Blk)) (M:MSl) (m:ah):Prop:=
 ∃XN XI XE XB XH,X=XN++(XI++(XE++(XB++(XH++ []))))/\bR XN M.no 9 (m.nodes.flatMap nodeCells)/\bR XI M.ini 2 (m.inits.flatMap bindCells)/\bR XE M.nex 2 (m.nexts.flatMap bindCells)/\
  bR XB M.bad 1 (m.bads.map I)/\bR XH M.hol 1 (m.holds.map I)
abbrev noM :MSl:=⟨⟨none,0,0⟩,⟨none,0,0⟩,⟨none,0,0⟩,⟨none,0,0⟩,⟨none,0,0⟩⟩
abbrev noP :ah:=⟨[], [], [], [], []⟩
theorem MG.nil :MG [] noM noP:=⟨[], [], [], [], [],rfl,cF 9,cF 2,cF 2,cF 1,cF 1⟩
section
variable {g h:Hp} {A X:List (Nat×Blk)} {M:MSl} {m:ah}
theorem bR.slcOf {X:List (Nat×Blk)} {s:Sl} {sz:Nat} {cs:List Value} (o:bR X s sz cs) (hn:s.n<=9223372036854775807) (m: ∀e∈X,h e.1=some e.2):SlC h s sz cs:=(o.buf m).slc_of hn
theorem MG.lens (o:MG X M m):M.no.n=m.nodes.length/\M.ini.n=m.inits.length/\M.nex.n=m.nexts.length/\M.bad.n=m.bads.length/\M.hol.n=m.holds.length/\M.no.n<=M.no.c:=by
 obtain⟨XN,XI,XE,XB,XH,_,a,b,c,d,e⟩:=o
 have h1:=a.1;have h2:=b.1;have h3:=c.1;have h4:=d.1;have h5:=e.1;have h6:=a.2.1
 rw [ck (m:=9) (fun _=>rfl)]at h1
 rw [ck (m:=2) (fun _=>rfl)]at h2 h3
 rw [List.length_map]at h4 h5
 omega
theorem MG.blk (o:MG X M m) (hn:0<m.nodes.length): ∃b x,M.no.a=some ⟨b,0,none⟩/\(b,x)∈X:=by
 have hl:=o.lens
 obtain⟨XN,XI,XE,XB,XH,rfl,a,_⟩:=o
 rcases a.2.2 with ⟨_,h0,_⟩|⟨b,ha,rfl⟩
 ·rw [h0]at hl;have:=hl.1;dsimp only at this;omega
 ·exact⟨b,_,ha,List.mem_append_left _ (.head _)⟩
theorem MG.modelS (o:MG X M m) (hm:bT m) (K:Kn g h (A++X)):aO h M m:=by
 have hl:=o.lens
 have hm':=hm.nodes;have h2:=hm.inits;have h3:=hm.nexts;have h4:=hm.bads;have h5:=hm.holds
 obtain⟨XN,XI,XE,XB,XH,rfl,a,b,c,d,e⟩:=o
 have mem: ∀x∈XN++(XI++(XE++(XB++(XH++ [])))),h x.1=some x.2:=fun x hx=>K.mem x (List.mem_append_right _ hx)
 refine⟨a.slcOf (by omega) fun x hx=>mem x (by simp [hx]),b.slcOf (by omega) fun x hx=>mem x (by simp [hx]),c.slcOf (by omega) fun x hx=>mem x (by simp [hx]),
  d.slcOf (by omega) fun x hx=>mem x (by simp [hx]),e.slcOf (by omega) fun x hx=>mem x (by simp [hx]),hl.2.2.2.2.2⟩
theorem MG.appN {b:Nat} {n:NodeP} {C:Option Addr->Nat->Nat->Hp->Prop} (o:MG X M m) (K:Kn g h (A++X)) (hm:m.nodes.length<=100000) (f:h b=some (.inl ⟨nodeCells n,9,false⟩))
  (k: ∀s' X' h',MG X' {M with no:=s'} {m with nodes:=m.nodes++ [n]}->Kn g h' (A++X')->C s'.a s'.n s'.c h'):cy h M.no.a M.no.n M.no.c (some ⟨b,0,none⟩) 1 9 80 C:=by
 have hl:=o.lens
 obtain⟨XN,XI,XE,XB,XH,rfl,a,b',c,d,e⟩:=o
 refine Kn.growIn K a (by omega) (by omega) (by omega) ⟨b,0,rfl,aw f⟩ rfl rfl fun s' X' h' hn a' K' _=>?_
 exact k s' _ h' ⟨X',XI,XE,XB,XH,rfl,by rw [List.flatMap_append];exact a',b',c,d,e⟩ K'
theorem MG.appI {b:Nat} {n:BindP} {C:Option Addr->Nat->Nat->Hp->Prop} (o:MG X M m) (K:Kn g h (A++X)) (hm:m.inits.length<=100000) (f:h b=some (.inl ⟨bindCells n,2,false⟩))
  (k: ∀s' X' h',MG X' {M with ini:=s'} {m with inits:=m.inits++ [n]}->Kn g h' (A++X')->C s'.a s'.n s'.c h'):cy h M.ini.a M.ini.n M.ini.c (some ⟨b,0,none⟩) 1 2 16 C:=by
 have hl:=o.lens
 obtain⟨XN,XI,XE,XB,XH,rfl,a,b',c,d,e⟩:=o
 refine Kn.growIn2 K b' (by omega) (by omega) (by omega) ⟨b,0,rfl,aw f⟩ rfl rfl fun s' X' h' hn a' K' _=>?_
 exact k s' _ h' ⟨XN,X',XE,XB,XH,rfl,a,by rw [List.flatMap_append];exact a',c,d,e⟩ K'
theorem MG.appE {b:Nat} {n:BindP} {C:Option Addr->Nat->Nat->Hp->Prop} (o:MG X M m) (K:Kn g h (A++X)) (hm:m.nexts.length<=100000) (f:h b=some (.inl ⟨bindCells n,2,false⟩))
  (k: ∀s' X' h',MG X' {M with nex:=s'} {m with nexts:=m.nexts++ [n]}->Kn g h' (A++X')->C s'.a s'.n s'.c h'):cy h M.nex.a M.nex.n M.nex.c (some ⟨b,0,none⟩) 1 2 16 C:=by
 have hl:=o.lens
 obtain⟨XN,XI,XE,XB,XH,rfl,a,b',c,d,e⟩:=o
 refine Kn.growIn3 K c (by omega) (by omega) (by omega) ⟨b,0,rfl,aw f⟩ rfl rfl fun s' X' h' hn a' K' _=>?_
 exact k s' _ h' ⟨XN,XI,X',XB,XH,rfl,a,b',by rw [List.flatMap_append];exact a',d,e⟩ K'
theorem MG.appB {b:Nat} {n:Int} {C:Option Addr->Nat->Nat->Hp->Prop} (o:MG X M m) (K:Kn g h (A++X)) (hm:m.bads.length<=100000) (f:h b=some (.inl ⟨[I n],1,false⟩))
  (k: ∀s' X' h',MG X' {M with bad:=s'} {m with bads:=m.bads++ [n]}->Kn g h' (A++X')->C s'.a s'.n s'.c h'):cy h M.bad.a M.bad.n M.bad.c (some ⟨b,0,none⟩) 1 1 8 C:=by
 have hl:=o.lens
 obtain⟨XN,XI,XE,XB,XH,rfl,a,b',c,d,e⟩:=o
 have sw: ∀Z:List (Nat×Blk),A++(XN++(XI++(XE++(Z++(XH++ [])))))=(A++(XN++XI))++(XE++(Z++(XH++ []))):=fun Z=>by simp
 rw [sw]at K
 refine Kn.growIn2 K d (by omega) (by omega) (by omega) ⟨b,0,rfl,aw f⟩ rfl rfl fun s' X' h' hn a' K' _=>?_
 rw [<-sw]at K'
 exact k s' _ h' ⟨XN,XI,XE,X',XH,rfl,a,b',c,by rw [List.map_append];exact a',e⟩ K'
theorem MG.appH {b:Nat} {n:Int} {C:Option Addr->Nat->Nat->Hp->Prop} (o:MG X M m) (K:Kn g h (A++X)) (hm:m.holds.length<=100000) (f:h b=some (.inl ⟨[I n],1,false⟩))
  (k: ∀s' X' h',MG X' {M with hol:=s'} {m with holds:=m.holds++ [n]}->Kn g h' (A++X')->C s'.a s'.n s'.c h'):cy h M.hol.a M.hol.n M.hol.c (some ⟨b,0,none⟩) 1 1 8 C:=by
 have hl:=o.lens
 obtain⟨XN,XI,XE,XB,XH,rfl,a,b',c,d,e⟩:=o
 have sw: ∀Z:List (Nat×Blk),A++(XN++(XI++(XE++(XB++(Z++ [])))))=(A++(XN++XI))++(XE++(XB++(Z++ []))):=fun Z=>by simp
 rw [sw]at K
 refine Kn.growIn3 K e (by omega) (by omega) (by omega) ⟨b,0,rfl,aw f⟩ rfl rfl fun s' X' h' hn a' K' _=>?_
 rw [<-sw]at K'
 exact k s' _ h' ⟨XN,XI,XE,XB,X',rfl,a,b',c,d,by rw [List.map_append];exact a'⟩ K'
end
structure DM (m:ah) (N:Nat):Prop where
 nodes:m.nodes.length<=N
 sorts: ∀n∈m.nodes,bW n.sort=true
 names: ∀n∈m.nodes,n.name.size<=100
 inits:m.inits.length<=N
 nexts:m.nexts.length<=N
 bads:m.bads.length<=N
 holds:m.holds.length<=N
theorem DM.small {m:ah} {N:Nat} (d:DM m N) (hN:N<=100000):bT m:=
 ⟨by have:=d.nodes;omega,by have:=d.inits;omega,by have:=d.nexts;omega,by have:=d.bads;omega,by have:=d.holds;omega,fun n hn=>by have:=d.names n hn;omega⟩
theorem DM.more {m:ah} {N N':Nat} (d:DM m N) (h:N<=N'):DM m N':=
 ⟨Nat.le_trans d.nodes h,d.sorts,d.names,Nat.le_trans d.inits h,Nat.le_trans d.nexts h,Nat.le_trans d.bads h,Nat.le_trans d.holds h⟩
theorem DM.addN {m:ah} {N:Nat} (d:DM m N) {n:NodeP} (h1:bW n.sort=true) (h2:n.name.size<=100):DM {m with nodes:=m.nodes++ [n]} (N+1):=
 ⟨by have:=d.nodes;simp;omega,fun x hx=>by rcases List.mem_append.1 hx with hx|hx;exact d.sorts x hx;rw [List.mem_singleton.1 hx];exact h1,
  fun x hx=>by rcases List.mem_append.1 hx with hx|hx;exact d.names x hx;rw [List.mem_singleton.1 hx];exact h2,
  by have:=d.inits;dsimp only;omega,by have:=d.nexts;dsimp only;omega,by have:=d.bads;dsimp only;omega,by have:=d.holds;dsimp only;omega⟩
theorem Kn.tl {g h:Hp} {L:List (Nat×Blk)} {e:Nat×Blk} (K:Kn g h (e::L)):Kn g h L:=K.sub (fun x hx=> .tail _ hx) (by have:=K.nd;rw [List.map_cons,List.nodup_cons]at this;exact this.2)
theorem Kn.sw {g h:Hp} {L:List (Nat×Blk)} {a b:Nat×Blk} (K:Kn g h (a::b::L)):Kn g h (b::a::L):=K.perm (List.Perm.swap ..)
theorem uV {m:ah} {N:Nat} (d:DM m N) {i:Nat} {n:NodeP} (h:m.nodes[i]?=some n):bW n.sort=true:=d.sorts n (List.mem_of_getElem? h)
theorem nr {s:SortP} (h:bW s=true):(0<=s.idx/\s.idx<=2)/\1<=s.wid/\s.wid<=16:=of_decide_eq_true h
theorem qF {w:Int} (h1:1<=w) (h2:w<=16):bW (cR w)=true:=decide_eq_true ⟨by simp [cR],h1,h2⟩
theorem Upd.mem2 {L L':List (Nat×Blk)} {b:Nat} {x y:Blk} (u:Upd L b x y L'):(b,y)∈L':=by
 induction u with
 |head=>exact .head _
 |tail _ ih=>exact .tail _ ih
section
variable {g h:Hp} {L L':List (Nat×Blk)} {b:Nat} {M M':MSl}
abbrev eA :List Value:= [.slice none 0 0, .slice none 0 0, .slice none 0 0, .slice none 0 0, .slice none 0 0]
theorem vY {cs:List Value} {Q:Hp->Prop} (K:Kn g h L) (u:Upd L b (.inl ⟨cs,5,false⟩) (.inl ⟨aH M',5,false⟩) L') (hl:cs.length=5) (k: ∀h',Kn g h' L'->Q h'):
  ∃(cs:List Value) (z:Nat),h b=some (.inl ⟨cs,z,false⟩)/\0+5<=List.length cs/\cM (h.row b (bX cs 0 (aH M')) z) fun h'=>Q h':=by
 have e:bX cs 0 (aH M')=aH M':=by
  match cs,hl with
  | [_,_,_,_,_],_=>rfl
 exact Kn.wr (cs:=cs) (z:=5) (o:=0) (vs:=aH M') K (L':=L') (by rw [e];exact u) (by omega) fun h' K' _=>k h' K'
theorem GG {Q:Sl->Sl->Sl->Sl->Sl->Hp->Prop} (K:Kn g h L) (u:Upd L b (.inl ⟨eA,5,false⟩) (.inl ⟨aH M,5,false⟩) L') (k: ∀h',Kn g h' L'->Q M.no M.ini M.nex M.bad M.hol h'):
  ∃(cs:List Value) (z:Nat),h b=some (.inl ⟨cs,z,false⟩)/\0+5<=List.length cs/\cM (h.row b (bX cs 0 (aH M)) z) fun h'=> ∃s1:Sl,Hp.cell h' b 0=some s1.v/\ ∃s2:Sl,Hp.cell h' b 1=some s2.v/\
   ∃s3:Sl,Hp.cell h' b 2=some s3.v/\ ∃s4:Sl,Hp.cell h' b 3=some s4.v/\ ∃s5:Sl,Hp.cell h' b 4=some s5.v/\Q s1 s2 s3 s4 s5 h':=by
 refine vY K u rfl fun h' K'=>?_
 have hm:=u.mem2
 have c:=fun o=>ax (K'.at hm) o
 exact⟨_,c 0,_,c 1,_,c 2,_,c 3,_,c 4,k h' K'⟩
end
theorem CZ {α:Type} (a b c d e:α) (L:List α):(a::b::c::d::e::L).Perm (e::a::b::c::d::L):=by
 refine((List.Perm.cons a ((List.Perm.cons b ((List.Perm.cons c (List.Perm.swap e d L)).trans (List.Perm.swap e c _))).trans (List.Perm.swap e b _))).trans (List.Perm.swap e a _))
theorem Upd.app {L L' X:List (Nat×Blk)} {b:Nat} {x y:Blk} (u:Upd L b x y L'):Upd (L++X) b x y (L'++X):=by
 induction u with
 |head=>exact .head
 |tail _ ih=>exact .tail ih
theorem nA {g h:Hp} {H X:List (Nat×Blk)} {b bn:Nat} {M:MSl} {m:ah} {nd:NodeP} {J:Hp->Prop} (o:MG X M m) (K:Kn g h ((bn, .inl ⟨nodeCells nd,9,false⟩)::(H++X))) (hm:m.nodes.length<=10000) (hb:(b, .inl ⟨aH M,5,false⟩)∈H)
  (k: ∀s' X' h',MG X' {M with no:=s'} {m with nodes:=m.nodes++ [nd]}->(∀H',Upd H b (.inl ⟨aH M,5,false⟩) (.inl ⟨aH {M with no:=s'},5,false⟩) H'->Kn g h' (H'++X'))->J h'):
  cy h M.no.a M.no.n M.no.c (some ⟨bn,0,none⟩) 1 9 80 fun a n c h95=> ∃(cs:List Value) (z:Nat),h95 b=some (.inl ⟨cs,z,false⟩)/\0+1<=List.length cs/\cM (h95.row b (bX cs 0 [.slice a n c]) z) fun h'=>J h':=by
 refine MG.appN (A:=_::H) (n:=nd) o K (by omega) (K.at (.head _)) fun s' X' h7 o' K7=>?_
 rw [List.cons_append]at K7
 have f:=K7.at (.tail _ (List.mem_append_left _ hb))
 exact⟨_,_,f,by simp,k s' X' _ o' fun H' u=>(K7.tl).set (u.app (X:=X'))⟩
set_option maxHeartbeats 1000000 in
theorem yu {g h:Hp} {A X:List (Nat×Blk)} {B p N:Nat} {s:Sl} {bs:List Nat} {M:MSl} {m:ah} {st:SortP} {R:Value->Hp->Prop} (K:Kn g h ((B,rdC s p)::(A++X))) (hb:ByteS g s bs) (o:MG X M m) (d:DM m N) (hN:N<=10000)
  (hne:0<m.nodes.length) (hp:p<=900000) (hst:bW st=true)
  (k: ∀h' p' X' M' m' (i:Nat),Kn g h' ((B,rdC s p')::(A++X'))->MG X' M' m'->DM m' (N+1)->i<m'.nodes.length->m.nodes.length<=m'.nodes.length->p'<=p+2->R (.tuple #[aQ M',I i]) h'):
  gM #[.pointer (some ⟨B,0,none⟩),aQ M,ul st] h R:=by
 apply H7
 refine uf_ ?_
 obtain⟨_,hw1,hw2⟩:=nr hst
 have hl:=o.lens
 have hsm:=d.small (by omega)
 have hdn:=d.nodes
 refine Kn.al K fun b10 h1 K1 l1 hb10=>?_
 refine Kn.al K1 fun b12 h2 K2 l2 hb12=>?_
 refine Kn.al K2 fun b14 h3 K3 l3 hb14=>?_
 clear K K1 K2 l1 l2 l3 hb10 hb12 hb14
 (refine kr_ ?_)
 refine kp_ ?_
 intro x h4 K4 hx _
 refine⟨_,rfl,?_⟩
 replace hx:x<m.nodes.length:=by have:=hx (by omega);omega
 clear K3 h3 h2 h1 h
 have hs:=o.modelS (A:=_::_::_::_::A) hsm K4
 refine au m.nodes.length (fun i vs h'=>vs= [.pointer (some ⟨B,0,none⟩), .pointer (some ⟨b10,0,none⟩), .pointer (some ⟨b12,0,none⟩), .pointer (some ⟨b14,0,none⟩),I x,I i]/\h4=h') ⟨rfl,rfl⟩ ?_
 rintro i _ _ nxt hi ⟨rfl,rfl⟩ hnx
 refine⟨_,b10,0,b12,0,b14,0,_,_,rfl,?_⟩
 (refine kr_ ?_)
 have same: ∀q:Nat,q<m.nodes.length-> ∃(cs:List Value) (z:Nat),h4 b14=some (.inl ⟨cs,z,false⟩)/\0+5<=List.length cs/\cM (h4.row b14 (bX cs 0 (aH M)) z) fun h58=> ∃s59:Sl,Hp.cell h58 b14 0=some s59.v/\ ∃s60:Sl,Hp.cell h58 b14 (0+1)=some s60.v/\
   ∃s61:Sl,Hp.cell h58 b14 (0+2)=some s61.v/\ ∃s62:Sl,Hp.cell h58 b14 (0+3)=some s62.v/\ ∃s63:Sl,Hp.cell h58 b14 (0+4)=some s63.v/\R (.tuple #[.agg #[s59.v,s60.v,s61.v,s62.v,s63.v],I q]) h58:=by
  intro q hq
  refine kw_ ?_
  intro h5 K5 _
  have K5':Kn g h5 ((b14, .inl ⟨aH M,5,false⟩)::(b12, .inl ⟨[I st.idx,I st.wid],2,false⟩)::(b10, .inl ⟨aH M,5,false⟩)::(B,rdC s (p+1))::(A++X)):=K5
  clear K5 K4
  repeat' (refine kr_ ?_)
  exact k h5 (p+1) X M m q K5'.tl.tl.tl o (d.more (by omega)) hq (Nat.le_refl _) (by omega)
 by_cases hlt:i<m.nodes.length
 ·refine aM (by rw [decide_eq_true_eq];omega) ?_
  (refine kr_ ?_)
  rw [if_neg (by omega)]
  (refine kr_ ?_)
  have hq:(x+i)%m.nodes.length<m.nodes.length:=Nat.mod_lt _ hne
  rw [<-Int.natCast_add,fV (by omega),show ((M.no.n:Nat):Int)=(m.nodes.length:Nat) by omega,eP]
  generalize (x+i)%m.nodes.length=q at*
  obtain⟨n,hni⟩: ∃n,m.nodes[q]?=some n:=⟨_,List.getElem?_eq_getElem hq⟩
  obtain⟨b,oo,ha,e0,e1,e2,e3,e4,e5,e6,e7,e8⟩:=hs.nodes.at hni
  rw [Int.toNat_natCast]
  refine⟨b,oo,ha,by omega,by omega,_,e6,_,e7,?_⟩
  (refine kr_ ?_)
  (refine kr_ ?_)
  refine ad (fun e=>?_) (fun e=>?_)
  ·repeat' (refine kr_ ?_)
   exact same q hq
  ·rw [ay (by omega)]
   exact hnx hlt _ _ ⟨rfl,rfl⟩
 refine aC (by rw [decide_eq_false_iff_not];omega) ?_
 clear hnx hlt hi
 (refine kr_ ?_)
 refine ad (fun e=>?_) (fun e=>?_)
 ·repeat' (refine kr_ ?_)
  exact same 0 hne
 have e':=of_decide_eq_false e
 have hi0:st.idx=0:=by have:=(nr hst).1;omega
 clear same hs
 refine ap (fun J=> ∀h5 X' s' p' nd,nd.sort=st->nd.name.size=0->MG X' {M with no:=s'} {m with nodes:=m.nodes++ [nd]}->Kn g h5 ((b14, .inl ⟨[.slice none 0 0, .slice none 0 0, .slice none 0 0, .slice none 0 0, .slice none 0 0],5,false⟩)::(b12, .inl ⟨[I st.idx,I st.wid],2,false⟩)::
  (b10, .inl ⟨aH {M with no:=s'},5,false⟩)::(B,rdC s p')::(A++X'))->p'<=p+2->J h5) (fun h5 X' s' p' nd hs1 hs2 o' K5 hp'=>?_) (fun J hJ=>?_)
 ·have hl':=o'.lens
  repeat' (refine kr_ ?_)
  refine kw_ ?_
  intro h6 K6 kp6
  have K6':Kn g h6 ((b14, .inl ⟨aH {M with no:=s'},5,false⟩)::(b12, .inl ⟨[I st.idx,I st.wid],2,false⟩)::(b10, .inl ⟨aH {M with no:=s'},5,false⟩)::(B,rdC s p')::(A++X')):=K6
  repeat' (refine kr_ ?_)
  clear K5 K6 K4
  repeat' (refine kr_ ?_)
  rw [show W ((s'.n:Int)-1)=(m.nodes.length:Nat) by
   have h1:=hl'.1
   simp at h1
   rw [cd (by omega) (by omega)];omega]
  exact k h6 p' X' _ _ m.nodes.length K6'.tl.tl.tl o' (d.addN (by rw [hs1];exact hst) (by omega)) (by simp) (by simp) hp'
 obtain⟨w,hw⟩: ∃w:Nat,st.wid=w:=⟨st.wid.toNat,by omega⟩
 have hp2:0<2^w:=Nat.two_pow_pos w
 have fin: ∀(y:Nat) (h5 h6:Hp) (q b:Nat),q<=p+2->Kn g h5 ((b14, .inl ⟨[.slice none 0 0, .slice none 0 0, .slice none 0 0, .slice none 0 0, .slice none 0 0],5,false⟩)::(b12, .inl ⟨[I st.idx,I st.wid],2,false⟩)::(b10, .inl ⟨aH M,5,false⟩)::(B,rdC s q)::(A++X))->
   Kn g h6 ((b, .inl ⟨[I 34,I 0,I 0,I 0,I (Int.tmod y (2^w:Nat)),I 0,I st.idx,I st.wid, .string ⟨#[]⟩],9,false⟩)::(b14, .inl ⟨[.slice none 0 0, .slice none 0 0, .slice none 0 0, .slice none 0 0, .slice none 0 0],5,false⟩)::(b12, .inl ⟨[I st.idx,I st.wid],2,false⟩)::(b10, .inl ⟨aH M,5,false⟩)::(B,rdC s q)::(A++X))->
   cy h6 M.no.a M.no.n M.no.c (some (Addr.mk b 0 none)) 1 9 80 fun a92 n93 k94 h95=> ∃(cs96:List Value) (z97:Nat),h95 b10=some (.inl ⟨cs96,z97,false⟩)/\0+1<=List.length cs96/\cM (h95.row b10 (bX cs96 0 [(.slice a92 n93 k94)]) z97) fun h98=>J h98:=by
  intro y h5 h6 q b hq K5 K6
  refine MG.appN (A:=_::_::_::_::_::A) (n:=⟨34,0,0,0,Int.tmod y (2^w:Nat),0,st,⟨#[]⟩⟩) o K6 (by omega) (K6.at (.head _)) fun s' X' h7 o' K7=>?_
  simp only [List.cons_append]at K7
  clear K6 K5 K4
  refine kw_ ?_
  intro h8 K8 _
  exact hJ h8 X' s' q _ rfl rfl o' K8.tl hq
 repeat' (refine kr_ ?_)
 refine⟨?_,?_⟩
 ·refine kp_ ?_
  intro y h5 K5 hy _
  refine⟨_,rfl,?_⟩
  repeat' (refine kr_ ?_)
  rw [hw,cZ (by omega),if_neg (by omega),cw (by omega),if_neg (by omega),<-hw]
  refine Kn.al K5 fun b90 h6 K6 l6 hb90=>?_
  (refine kr_ ?_)
  exact fin y h5 h6 (p+2) b90 (Nat.le_refl _) K5 K6
 ·repeat' (refine kr_ ?_)
  rw [hw,cZ (by omega),if_neg (by omega),cw (by omega),<-hw]
  refine kp_ ?_
  intro y h5 K5 hy _
  refine⟨_,rfl,?_⟩
  repeat' (refine kr_ ?_)
  rw [if_neg (by omega)]
  refine Kn.al K5 fun b90 h6 K6 l6 hb90=>?_
  (refine kr_ ?_)
  exact fin y h5 h6 (p+2) b90 (Nat.le_refl _) K5 K6
set_option maxHeartbeats 1000000 in
theorem O9 {g h:Hp} {A X:List (Nat×Blk)} {B p N:Nat} {s:Sl} {bs:List Nat} {M:MSl} {m:ah} {R:Value->Hp->Prop} (K:Kn g h ((B,rdC s p)::(A++X))) (hb:ByteS g s bs) (o:MG X M m) (d:DM m N) (hN:N<=1000)
  (hne:0<m.nodes.length) (hp:p<=800000)
  (k: ∀h' p' X' M' m' (i:Nat),Kn g h' ((B,rdC s p')::(A++X'))->MG X' M' m'->DM m' (N+3)->i<m'.nodes.length->m.nodes.length<=m'.nodes.length->p'<=p+2*N+10->R (.tuple #[aQ M',I i]) h'):
  nO #[.pointer (some ⟨B,0,none⟩),aQ M] h R:=by
 apply GL
 refine uf_ ?_
 have hl:=o.lens
 have hsm:=d.small (by omega)
 have hdn:=d.nodes
 refine Kn.al K fun b8 h1 K1 l1 hb8=>?_
 refine Kn.al K1 fun b10 h2 K2 l2 hb10=>?_
 clear K K1 l1 l2 hb8 hb10
 (refine kr_ ?_)
 rw [show W ((M.no.n:Int)-1)=(m.nodes.length:Int)-1 by rw [cd (by omega) (by omega)];omega]
 refine nF m.nodes.length (fun i vs h'=>vs= [.pointer (some ⟨B,0,none⟩), .pointer (some ⟨b8,0,none⟩), .pointer (some ⟨b10,0,none⟩),I ((i:Int)-1)]/\i<=m.nodes.length/\
  ∃q,q+i<=p+m.nodes.length/\Kn g h' ((b10, .inl ⟨eA,5,false⟩)::(b8, .inl ⟨aH M,5,false⟩)::(B,rdC s q)::(A++X))) ⟨rfl,Nat.le_refl _,p,Nat.le_refl _,K2⟩ ?_
 clear K2 h1 h2 h
 rintro i _ h4 nxt ⟨rfl,hi,q,hq,K4⟩ hnx
 refine⟨_,b8,0,b10,0,_,rfl,?_⟩
 have hs:=o.modelS (A:=_::_::_::A) hsm K4
 cases i with
 |succ i=>
  rw [show (((i+1:Nat):Int)-1)=(i:Nat) by omega]
  refine aM (by rw [decide_eq_true_eq];omega) ?_
  refine ap (fun J=> ∀c h5 q,q+i<=p+m.nodes.length->Kn g h5 ((b10, .inl ⟨eA,5,false⟩)::(b8, .inl ⟨aH M,5,false⟩)::(B,rdC s q)::(A++X))->J c h5) (fun c h5 q' hq' K5=>?_) (fun J hJ=>?_)
  ·refine ad (fun e=>?_) (fun e=>?_)
   ·clear K4
    repeat' (refine kr_ ?_)
    refine GG K5 (by((focus ((repeat first|exact .head|apply Upd.tail);done)))) fun h6 K6=>?_
    exact k h6 q' X M m i K6.tl.tl o (d.more (by omega)) (by omega) (Nat.le_refl _) (by omega)
   ·rw [cd (by omega) (by omega)]
    exact hnx i (by omega) _ _ ⟨rfl,by omega,q',hq',K5⟩
  ·(refine kr_ ?_)
   obtain⟨n,hni⟩: ∃n,m.nodes[i]?=some n:=⟨_,List.getElem?_eq_getElem (by omega)⟩
   obtain⟨b,oo,ha,e0,e1,e2,e3,e4,e5,e6,e7,e8⟩:=hs.nodes.at hni
   refine⟨b,oo,ha,by omega,by omega,_,by rw [Int.toNat_natCast];exact e6,_,by rw [Int.toNat_natCast];exact e7,?_⟩
   refine cm ⟨_,_,rfl,?_⟩
   repeat' (refine kr_ ?_)
   refine ad (fun e=>?_) (fun e=>?_)
   ·(refine kr_ ?_)
    refine⟨b,oo,ha,by omega,by omega,_,by rw [Int.toNat_natCast];exact e0,?_⟩
    refine ad (fun e=>?_) (fun e=>?_)
    ·refine kp_ ?_
     intro x h5 K5 hx _
     exact⟨_,rfl,hJ _ h5 (q+1) (by omega) K5⟩
    ·exact hJ _ h4 q (by omega) K4
   ·exact hJ _ h4 q (by omega) K4
 |zero=>
 refine aC (by rw [decide_eq_false_iff_not];omega) ?_
 clear hnx
 refine au m.nodes.length (fun i vs h'=> ∃(a q:Nat),vs= [.pointer (some ⟨B,0,none⟩), .pointer (some ⟨b8,0,none⟩), .pointer (some ⟨b10,0,none⟩),I a,I i]/\a<m.nodes.length/\
  q<=p+m.nodes.length+i/\Kn g h' ((b10, .inl ⟨eA,5,false⟩)::(b8, .inl ⟨aH M,5,false⟩)::(B,rdC s q)::(A++X))) ⟨0,q,rfl,hne,by omega,K4⟩ ?_
 clear K4 hq hs h4 hi q
 rintro i _ h4 nxt hi ⟨a,q,rfl,ha',hq,K4⟩ hnx
 refine⟨_,b8,0,b10,0,_,_,rfl,?_⟩
 have hs:=o.modelS (A:=_::_::_::A) hsm K4
 (refine kr_ ?_)
 obtain⟨na,hna⟩: ∃n,m.nodes[a]?=some n:=⟨_,List.getElem?_eq_getElem ha'⟩
 by_cases hlt:i<m.nodes.length
 ·refine aM (by rw [decide_eq_true_eq];omega) ?_
  refine ap (fun J=> ∀(c:Nat) h5 q,c<m.nodes.length->q<=p+m.nodes.length+(i+1)->Kn g h5 ((b10, .inl ⟨eA,5,false⟩)::(b8, .inl ⟨aH M,5,false⟩)::(B,rdC s q)::(A++X))->J (c:Int) h5) (fun c h5 q' hc hq' K5=>?_) (fun J hJ=>?_)
  ·rw [ay (by omega)]
   exact hnx hlt _ _ ⟨c,q',rfl,hc,hq',K5⟩
  ·(refine kr_ ?_)
   obtain⟨n,hni⟩: ∃n,m.nodes[i]?=some n:=⟨_,List.getElem?_eq_getElem hlt⟩
   obtain⟨b,oo,ha,e0,_⟩:=hs.nodes.at hni
   refine⟨b,oo,ha,by omega,by omega,_,by rw [Int.toNat_natCast];exact e0,?_⟩
   refine ad (fun e=>?_) (fun e=>?_)
   ·(refine kr_ ?_)
    obtain⟨b,oo,ha,e0,_⟩:=hs.nodes.at hna
    refine⟨b,oo,ha,by omega,by omega,_,by rw [Int.toNat_natCast];exact e0,?_⟩
    refine ad (fun e=>?_) (fun e=>?_)
    ·exact hJ i h4 q hlt (by omega) K4
    ·refine kp_ ?_
     intro x h5 K5 hx _
     refine⟨_,rfl,ad (fun e=>?_) (fun e=>?_)⟩
     ·exact hJ i h5 _ hlt (by omega) K5
     ·exact hJ a h5 _ ha' (by omega) K5
   ·exact hJ a h4 q ha' (by omega) K4
 refine aC (by rw [decide_eq_false_iff_not];omega) ?_
 clear hnx
 repeat' (refine kr_ ?_)
 obtain⟨b,oo,ha,e0,e1,e2,e3,e4,e5,e6,e7,e8⟩:=hs.nodes.at hna
 refine⟨b,oo,ha,by omega,by omega,_,by rw [Int.toNat_natCast];exact e6,_,by rw [Int.toNat_natCast];exact e7,?_⟩
 refine yu (p:=q) (A:=(b10, .inl ⟨eA,5,false⟩)::(b8, .inl ⟨aH M,5,false⟩)::A) (st:=na.sort) (K4.perm ?_) hb o d (by omega) hne (by omega) (uV d hna) fun h5 q5 X5 M5 m5 i5 K5 o5 d5 hi5 hl5 hq5=>⟨_,_,_,_,_,_,rfl,?_⟩
 ·exact(List.Perm.cons _ (List.Perm.swap ..)).trans (List.Perm.swap ..)
 have K5':Kn g h5 ((b10, .inl ⟨eA,5,false⟩)::(b8, .inl ⟨aH M,5,false⟩)::(B,rdC s q5)::(A++X5)):=K5.perm ((List.Perm.swap ..).trans (List.Perm.cons _ (List.Perm.swap ..)))
 clear K5 K4 hs e0 e1 e2 e3 e4 e5 e6 e7 e8 ha
 refine vY (M':=M5) K5' (by((focus ((repeat first|exact .head|apply Upd.tail);done)))) rfl fun h6 K6=>?_
 clear K5'
 have hl5':=o5.lens
 have hsm5:=d5.small (by omega)
 have hs6:=o5.modelS (A:=_::_::_::A) hsm5 K6
 obtain⟨nb,hnb⟩: ∃n,m5.nodes[a]?=some n:=⟨_,List.getElem?_eq_getElem (by omega)⟩
 refine ap (fun J=> ∀c,J c) (fun c=>?_) (fun J hJ=>?_)
 rotate_left
 ·refine ad (fun e=>?_) (fun e=>hJ _)
  (refine kr_ ?_)
  obtain⟨b,oo,ha,e0,e1,e2,e3,e4,e5,e6,e7,e8⟩:=hs6.nodes.at hnb
  exact⟨b,oo,ha,by omega,by omega,_,by rw [Int.toNat_natCast];exact e6,hJ _⟩
 have d5n:=d5.nodes
 refine ap (fun J=> ∀(x:Nat) h7 q X7 M7 m7,MG X7 M7 m7->DM m7 (N+2)->x<m7.nodes.length->m5.nodes.length<=m7.nodes.length->q<=q5+1->Kn g h7 ((b10, .inl ⟨eA,5,false⟩)::(b8, .inl ⟨aH M7,5,false⟩)::(B,rdC s q)::(A++X7))->J (x:Int) h7)
  (fun x h7 q7 X7 M7 m7 o7 d7 hx7 hl7 hq7 K7=>?_) (fun J hJ=>?_)
 ·clear K6 hs6
  have hl7':=o7.lens
  have d7n:=d7.nodes
  (refine kr_ ?_)
  refine cm ⟨_,_,rfl,?_⟩
  repeat' (refine kr_ ?_)
  refine Kn.al K7 fun b173 h8 K8 l8 hb173=>?_
  repeat' (refine kr_ ?_)
  refine nA (H:=_::_::_::A) (nd:=⟨21,a,x,0,0,0,⟨0,1⟩,⟨#[]⟩⟩) o7 K8 (by omega) (.tail _ (.head _)) fun s' X9 h9 o9 KF=>?_
  have K9:=KF _ (by((focus ((repeat first|exact .head|apply Upd.tail);done))))
  simp only [List.cons_append]at K9
  clear KF K8 K7
  have hl9:=o9.lens
  repeat' (refine kr_ ?_)
  refine vY (M':={M7 with no:=s'}) K9 (by((focus ((repeat first|exact .head|apply Upd.tail);done)))) rfl fun h11 K11=>?_
  repeat' (refine kr_ ?_)
  rw [show W ((s'.n:Int)-1)=(m7.nodes.length:Nat) by
   have h1:=hl9.1
   simp at h1
   rw [cd (by omega) (by omega)];omega]
  exact k h11 q7 X9 _ _ m7.nodes.length K11.tl.tl o9 (d7.addN rfl (show (0:Nat)<=100 by omega)) (by simp) (by simp;omega) (by omega)
 ·refine ad (fun e=>?_) (fun e=>?_)
  rotate_left
  ·exact hJ i5 h6 q5 X5 M5 m5 o5 (d5.more (by omega)) hi5 (Nat.le_refl _) (by omega) K6
  have hok:=uV d5 hnb
  obtain⟨_,hw1,hw2⟩:=nr hok
  obtain⟨b,oo,ha,e0,e1,e2,e3,e4,e5,e6,e7,e8⟩:=hs6.nodes.at hnb
  obtain⟨bN,xN,haN,hmN⟩:=o5.blk (by omega)
  repeat' (refine kr_ ?_)
  refine⟨b,oo,ha,by omega,by omega,_,by rw [Int.toNat_natCast];exact e7,?_⟩
  repeat' (refine kr_ ?_)
  refine⟨b,oo,ha,by omega,by omega,_,by rw [Int.toNat_natCast];exact e6,_,by rw [Int.toNat_natCast];exact e7,?_⟩
  rw [haN]at ha
  cases ha
  obtain⟨w,hw⟩: ∃w:Nat,nb.sort.wid=w:=⟨nb.sort.wid.toNat,by omega⟩
  have hp2:0<2^w:=Nat.two_pow_pos w
  have fin: ∀(y:Nat) (h8:Hp) (b:Nat),Kn g h8 ((b, .inl ⟨[I 34,I 0,I 0,I 0,I (Int.tmod y (2^w:Nat)),I 0,I nb.sort.idx,I nb.sort.wid, .string ⟨#[]⟩],9,false⟩)::(b10, .inl ⟨eA,5,false⟩)::(b8, .inl ⟨aH M5,5,false⟩)::(B,rdC s (q5+1))::(A++X5))->
    cy h8 M5.no.a M5.no.n M5.no.c (some (Addr.mk b 0 none)) 1 9 80 fun a92 n93 k94 h95=> ∃(cs96:List Value) (z97:Nat),h95 b8=some (.inl ⟨cs96,z97,false⟩)/\0+1<=List.length cs96/\cM (h95.row b8 (bX cs96 0 [(.slice a92 n93 k94)]) z97) fun h148=>
     ∃s150:Sl,Hp.cell h148 b8 0=some s150.v/\J (W ((s150.n:Int)-1)) h148:=by
   intro y h8 b K8
   refine nA (H:=_::_::_::A) (nd:=⟨34,0,0,0,Int.tmod y (2^w:Nat),0,nb.sort,⟨#[]⟩⟩) o5 K8 (by omega) (.tail _ (.head _)) fun s' X9 h9 o9 KF=>?_
   have K9:=KF _ (by((focus ((repeat first|exact .head|apply Upd.tail);done))))
   simp only [List.cons_append]at K9
   clear KF K8 K6
   have hl9:=o9.lens
   (refine kr_ ?_)
   rw [show W ((s'.n:Int)-1)=(m5.nodes.length:Nat) by
    have h1:=hl9.1
    simp at h1
    rw [cd (by omega) (by omega)];omega]
   exact hJ m5.nodes.length h9 (q5+1) X9 _ _ o9 (d5.addN hok (show (0:Nat)<=100 by omega)) (by simp) (by simp) (by omega) K9
  refine⟨?_,?_⟩
  ·refine kp_ ?_
   intro y h7 K7 hy _
   refine⟨_,rfl,?_⟩
   have hq:h7 b=h6 b:=by rw [K7.at (.tail _ (.tail _ (.tail _ (List.mem_append_right _ hmN)))),K6.at (.tail _ (.tail _ (.tail _ (List.mem_append_right _ hmN))))]
   repeat' (first|(refine kr_ ?_)|refine And.intro hq ?_)
   rw [hw,cZ (by omega),if_neg (by omega),cw (by omega),if_neg (by omega),<-hw]
   refine Kn.al K7 fun b90 h8 K8 l8 hb90=>?_
   (refine kr_ ?_)
   exact fin y h8 b90 K8
  ·repeat' (refine kr_ ?_)
   rw [hw,cZ (by omega),if_neg (by omega),cw (by omega),<-hw]
   refine kp_ ?_
   intro y h7 K7 hy _
   refine⟨_,rfl,?_⟩
   have hq:h7 b=h6 b:=by rw [K7.at (.tail _ (.tail _ (.tail _ (List.mem_append_right _ hmN)))),K6.at (.tail _ (.tail _ (.tail _ (List.mem_append_right _ hmN))))]
   repeat' (first|(refine kr_ ?_)|refine And.intro hq ?_)
   rw [if_neg (by omega)]
   refine Kn.al K7 fun b90 h8 K8 l8 hb90=>?_
   (refine kr_ ?_)
   exact fin y h8 b90 K8
theorem ahq :DM noP 0:=⟨by simp,fun n hn=>by simp at hn,fun n hn=>by simp at hn,by simp,by simp,by simp,by simp⟩
theorem ai2 {i:Nat} (h:i<4): ∃s:ByteArray,([.string ⟨#[120]⟩, .string ⟨#[121]⟩, .string ⟨#[122]⟩, .string ⟨#[109,101,109]⟩]:List Value)[i]?=some (.string s)/\s.size<=100:=by
 rcases i with _|_|_|_|i
 ·exact⟨_,rfl,by decide⟩
 ·exact⟨_,rfl,by decide⟩
 ·exact⟨_,rfl,by decide⟩
 ·exact⟨_,rfl,by decide⟩
 ·omega
theorem aiT {i:Nat} (h:i<2): ∃s:ByteArray,([.string ⟨#[103,111]⟩, .string ⟨#[105,110]⟩]:List Value)[i]?=some (.string s)/\s.size<=100:=by
 rcases i with _|_|i
 ·exact⟨_,rfl,by decide⟩
 ·exact⟨_,rfl,by decide⟩
 ·omega
theorem A2 {a b:Int} (h1:0<=a) (h2:a<=2) (h3:1<=b) (h4:b<=16):bW ⟨a,b⟩=true:=decide_eq_true ⟨⟨h1,h2⟩,h3,h4⟩
set_option maxHeartbeats 2000000 in
theorem Qy {g h:Hp} {A:List (Nat×Blk)} {B p:Nat} {s:Sl} {bs:List Nat} {big:Bool} {R:Value->Hp->Prop} (K:Kn g h ((B,rdC s p)::A)) (hb:ByteS g s bs) (hp:p<=800000)
  (k: ∀h' p' X' M' m',Kn g h' ((B,rdC s p')::(A++X'))->MG X' M' m'->DM m' 12->0<m'.nodes.length->p'<=p+60->R (aQ M') h'):
  oJ #[.pointer (some ⟨B,0,none⟩),aQ noM, .bool big] h R:=by
 apply Cx
 refine uf_ ?_
 refine Kn.al K fun b9 h1 K1 l1 hb9=>?_
 refine Kn.al K1 fun b11 h2 K2 l2 hb11=>?_
 refine Kn.al K2 fun b14 h3 K3 l3 hb14=>?_
 clear K K1 K2 l1 l2 l3 hb9 hb11 hb14
 refine ap (fun J=> ∀x:Int,J x) (fun x20=>?_) (fun J hJ=>ad (fun _=>hJ _) (fun _=>hJ _))
 refine kp_ ?_
 intro x24 h4 K4 hx24 _
 refine⟨_,rfl,?_⟩
 replace hx24:x24<3:=by have:=hx24 (by omega);omega
 clear K3 h3 h2 h1 h
 rw [show W (1+(x24:Int))=((1+x24:Nat):Int) by rw [cd (by omega) (by omega)];omega]
 refine au (1+x24) (fun i vs h'=> ∃(bits:Int) (q:Nat) (X:List (Nat×Blk)) (M:MSl) (m:ah),vs= [.pointer (some ⟨B,0,none⟩), .pointer (some ⟨b9,0,none⟩), .pointer (some ⟨b11,0,none⟩),(arr b14 4).v,I bits,I (1+x24:Nat),I i]/\
  MG X M m/\DM m i/\q<=p+1+4*i/\Kn g h' ((b14, .inl ⟨[.string ⟨#[120]⟩, .string ⟨#[121]⟩, .string ⟨#[122]⟩, .string ⟨#[109,101,109]⟩],4,false⟩)::(b11, .inl ⟨eA,5,false⟩)::(b9, .inl ⟨aH M,5,false⟩)::(B,rdC s q)::(A++X)))
  ⟨x20,p+1, [],noM,noP,rfl,MG.nil,ahq,by omega,by rw [List.append_nil];exact K4⟩ ?_
 clear K4 h4
 rintro i _ h4 nxt hi ⟨bits,q,X,M,m,rfl,o,d,hq,K4⟩ hnx
 refine⟨_,b9,0,b11,0,arr b14 4,_,_,_,rfl,?_⟩
 have hl:=o.lens
 have hdn:=d.nodes
 by_cases hlt:i<1+x24
 ·refine aM (by rw [decide_eq_true_eq];omega) ?_
  have hi4:i<4:=by omega
  refine ap (fun J=> ∀(bits:Int) h5 q X M m,MG X M m->DM m (i+1)->q<=p+1+4*(i+1)->Kn g h5 ((b14, .inl ⟨[.string ⟨#[120]⟩, .string ⟨#[121]⟩, .string ⟨#[122]⟩, .string ⟨#[109,101,109]⟩],4,false⟩)::(b11, .inl ⟨eA,5,false⟩)::(b9, .inl ⟨aH M,5,false⟩)::(B,rdC s q)::(A++X))->J bits h5)
   (fun bits h5 q X M m o d hq K5=>?_) (fun J hJ=>?_)
  ·rw [ay (by omega)]
   exact hnx hlt _ _ ⟨bits,q,X,M,m,rfl,o,d,hq,K5⟩
  ·refine kp_ ?_
   intro x45 h5 K5 hx45 _
   refine⟨_,rfl,?_⟩
   replace hx45:x45<4:=by have:=hx45 (by omega);omega
   refine Kn.al K5 fun b46 h6 K6 l6 hb46=>?_
   clear K5 K4
   refine kw_ ?_
   intro h7 K7 _
   clear K6 l6 hb46
   refine kp_ ?_
   intro x54 h8 K8 _ _
   refine⟨_,rfl,?_⟩
   clear K7
   refine ap (fun J=> ∀(a w:Int) h9 q',0<=a->a<=2->1<=w->w<=16->q'<=q+4->Kn g h9 ((b46, .inl ⟨[I a,I w],2,false⟩)::(b14, .inl ⟨[.string ⟨#[120]⟩, .string ⟨#[121]⟩, .string ⟨#[122]⟩, .string ⟨#[109,101,109]⟩],4,false⟩)::(b11, .inl ⟨eA,5,false⟩)::(b9, .inl ⟨aH M,5,false⟩)::(B,rdC s q')::(A++X))->J h9)
    (fun a w h9 q' a1 a2 w1 w2 hq' K9=>?_) (fun J hJ=>?_)
   ·repeat' (refine kr_ ?_)
    refine jE ⟨_,rfl,?_⟩
    refine ad (fun e=>?_) (fun e=>hJ _ _ q' X M m o (d.more (by omega)) (by omega) K9.tl)
    repeat' (refine kr_ ?_)
    refine jE ⟨_,rfl,?_⟩
    refine⟨b14,0,rfl,by omega,by dsimp only;omega,?_⟩
    repeat' (refine kr_ ?_)
    obtain⟨nm,hnm,hsz⟩:=ai2 hi4
    refine⟨nm,by rw [ax (K9.at (.tail _ (.head _))),Int.toNat_natCast,Nat.zero_add,Nat.mul_one];exact hnm,?_⟩
    refine Kn.al K9 fun b86 h10 K10 l10 hb86=>?_
    repeat' (refine kr_ ?_)
    refine nA (H:=_::_::_::_::_::A) (nd:=⟨36,0,0,0,0,0,⟨a,w⟩,nm⟩) o K10 (by omega) (.tail _ (.tail _ (.tail _ (.head _)))) fun s' X9 h11 o9 KF=>?_
    have K11:=KF _ (by((focus ((repeat first|exact .head|apply Upd.tail);done))))
    simp only [List.cons_append]at K11
    exact hJ _ h11 q' X9 _ _ o9 (d.addN (A2 a1 a2 w1 w2) hsz) (by omega) K11.tl
   ·refine ad (fun e=>?_) (fun e=>?_)
    ·refine kp_ ?_
     intro x59 h9 K9 hx59 _
     refine⟨_,rfl,?_⟩
     refine kp_ ?_
     intro x62 h10 K10 hx62 _
     refine⟨_,rfl,?_⟩
     replace hx59:x59<2:=by have:=hx59 (by omega);omega
     replace hx62:x62<2:=by have:=hx62 (by omega);omega
     clear K9 K8
     refine kw_ ?_
     intro h11 K11 _
     refine hJ (W (1+(x59:Int))) (W (1+(x62:Int))) h11 _ ?_ ?_ ?_ ?_ ?_ K11
     ·rw [cd (by omega) (by omega)];omega
     ·rw [cd (by omega) (by omega)];omega
     ·rw [cd (by omega) (by omega)];omega
     ·rw [cd (by omega) (by omega)];omega
     ·omega
    ·refine hJ 0 (W (1+(x45:Int))) h8 _ (by omega) (by omega) ?_ ?_ ?_ K8
     ·rw [cd (by omega) (by omega)];omega
     ·rw [cd (by omega) (by omega)];omega
     ·omega
 refine aC (by rw [decide_eq_false_iff_not];omega) ?_
 clear hnx
 (refine kr_ ?_)
 refine ap (fun J=> ∀h5 X M m,MG X M m->DM m 4->0<m.nodes.length->Kn g h5 ((b14, .inl ⟨[.string ⟨#[120]⟩, .string ⟨#[121]⟩, .string ⟨#[122]⟩, .string ⟨#[109,101,109]⟩],4,false⟩)::(b11, .inl ⟨eA,5,false⟩)::(b9, .inl ⟨aH M,5,false⟩)::(B,rdC s q)::(A++X))->J h5)
  (fun h5 X1 M1 m1 o1 d1 hpos K5=>?_) (fun J hJ=>?_)
 rotate_left
 ·refine ad (fun e=>?_) (fun e=>?_)
  ·(refine kr_ ?_)
   refine cm ⟨_,_,rfl,?_⟩
   repeat' (refine kr_ ?_)
   refine Kn.al K4 fun b109 h5 K5 l5 hb109=>?_
   repeat' (refine kr_ ?_)
   refine nA (H:=_::_::_::_::A) (nd:=⟨36,0,0,0,0,0,⟨0,2⟩,⟨#[120]⟩⟩) o K5 (by omega) (.tail _ (.tail _ (.head _))) fun s' X9 h11 o9 KF=>?_
   have K11:=KF _ (by((focus ((repeat first|exact .head|apply Upd.tail);done))))
   simp only [List.cons_append]at K11
   have hl9:=o9.lens
   exact hJ h11 X9 _ _ o9 ((d.addN (n:=⟨36,0,0,0,0,0,⟨0,2⟩,⟨#[120]⟩⟩) rfl (show (1:Nat)<=100 by omega)).more (by omega)) (by simp) K11
  ·have:m.nodes.length≠0:=fun q=>by rw [show M.no.n=0 by omega]at e;simp at e
   exact hJ h4 X M m o (d.more (by omega)) (by omega) K4
 clear K4 hdn hl d o h4
 refine kp_ ?_
 intro x122 h6 K6 hx122 _
 refine⟨_,rfl,?_⟩
 replace hx122:x122<3:=by have:=hx122 (by omega);omega
 refine au x122 (fun i vs h'=> ∃(q:Nat) (X:List (Nat×Blk)) (M:MSl) (m:ah),vs= [.pointer (some ⟨B,0,none⟩), .pointer (some ⟨b9,0,none⟩), .pointer (some ⟨b11,0,none⟩),I x122,I i]/\
  MG X M m/\DM m (4+i)/\0<m.nodes.length/\q<=p+20+i/\Kn g h' ((b14, .inl ⟨[.string ⟨#[120]⟩, .string ⟨#[121]⟩, .string ⟨#[122]⟩, .string ⟨#[109,101,109]⟩],4,false⟩)::(b11, .inl ⟨eA,5,false⟩)::(b9, .inl ⟨aH M,5,false⟩)::(B,rdC s q)::(A++X)))
  ⟨q+1,X1,M1,m1,rfl,o1,d1,hpos,by omega,K6⟩ ?_
 clear K6 K5 hpos d1 o1 hq q m1 M1 X1 h5 h6 m M X
 rintro j _ h4 nxt hj ⟨q,X,M,m,rfl,o,d,hpos,hq,K4⟩ hnx
 refine⟨_,b9,0,b11,0,_,_,rfl,?_⟩
 have hl:=o.lens
 have hdn:=d.nodes
 by_cases hlt:j<x122
 ·refine aM (by rw [decide_eq_true_eq];omega) ?_
  have hj2:j<2:=by omega
  refine ap (fun J=> ∀h5 q X M m,MG X M m->DM m (4+j+1)->0<m.nodes.length->q<=p+20+(j+1)->Kn g h5 ((b14, .inl ⟨[.string ⟨#[120]⟩, .string ⟨#[121]⟩, .string ⟨#[122]⟩, .string ⟨#[109,101,109]⟩],4,false⟩)::(b11, .inl ⟨eA,5,false⟩)::(b9, .inl ⟨aH M,5,false⟩)::(B,rdC s q)::(A++X))->J h5)
   (fun h5 q X M m o d hpos hq K5=>?_) (fun J hJ=>?_)
  ·rw [ay (by omega)]
   exact hnx hlt _ _ ⟨q,X,M,m,rfl,o,d,hpos,hq,K5⟩
  obtain⟨nm,hnm,hsz⟩:=aiT hj2
  have fin: ∀(x bn bg:Nat) (h8:Hp),x<2->Kn g h8 ((bn, .inl ⟨[I 35,I 0,I 0,I 0,I 0,I 0,I 0,I (W (1+(x:Int))), .string nm],9,false⟩)::(bg, .inl ⟨[.string ⟨#[103,111]⟩, .string ⟨#[105,110]⟩],2,false⟩)::(b14, .inl ⟨[.string ⟨#[120]⟩, .string ⟨#[121]⟩, .string ⟨#[122]⟩, .string ⟨#[109,101,109]⟩],4,false⟩)::
    (b11, .inl ⟨eA,5,false⟩)::(b9, .inl ⟨aH M,5,false⟩)::(B,rdC s (q+1))::(A++X))->
    cy h8 M.no.a M.no.n M.no.c (some (Addr.mk bn 0 none)) 1 9 80 fun a92 n93 k94 h95=> ∃(cs96:List Value) (z97:Nat),h95 b9=some (.inl ⟨cs96,z97,false⟩)/\0+1<=List.length cs96/\cM (h95.row b9 (bX cs96 0 [(.slice a92 n93 k94)]) z97) fun h148=>J h148:=by
   intro x bn bg h8 hx K8
   refine nA (H:=_::_::_::_::_::A) (nd:=⟨35,0,0,0,0,0,⟨0,W (1+(x:Int))⟩,nm⟩) o K8 (by omega) (.tail _ (.tail _ (.tail _ (.head _)))) fun s' X9 h9 o9 KF=>?_
   have K9:=KF _ (by((focus ((repeat first|exact .head|apply Upd.tail);done))))
   simp only [List.cons_append]at K9
   exact hJ h9 (q+1) X9 _ _ o9 (d.addN (A2 (by omega) (by omega) (by rw [cd (by omega) (by omega)];omega) (by rw [cd (by omega) (by omega)];omega)) hsz) (by simp) (by omega) K9.tl
  have rd: ∀{h':Hp} {L:List (Nat×Blk)} {bg:Nat} {Q:ByteArray->Prop},Kn g h' ((bg, .inl ⟨[.string ⟨#[103,111]⟩, .string ⟨#[105,110]⟩],2,false⟩)::L)->Q nm-> ∃y:ByteArray,Hp.cell h' bg (0+Int.toNat (j:Int)*1)=some (.string y)/\Q y:=fun K' q=>⟨nm,by rw [ax (K'.at (.head _)),Int.toNat_natCast,Nat.zero_add,Nat.mul_one];exact hnm,q⟩
  (refine kr_ ?_)
  refine⟨?_,?_⟩
  ·refine kp_ ?_
   intro x h5 K5 hx _
   refine⟨_,rfl,?_⟩
   replace hx:x<2:=by have:=hx (by omega);omega
   repeat' (refine kr_ ?_)
   refine⟨?_,?_⟩
   ·refine cm ⟨_,_,rfl,?_⟩
    repeat' (refine kr_ ?_)
    refine Kn.al K5 fun bg h6 K6 l6 hbg=>?_
    repeat' (refine kr_ ?_)
    refine⟨by omega,by omega,?_⟩
    refine rd K6 ?_
    refine Kn.al K6 fun bn h7 K7 l7 hbn=>?_
    repeat' (refine kr_ ?_)
    exact fin x bn bg h7 hx K7
   ·refine Kn.al K5 fun bg h6 K6 l6 hbg=>?_
    repeat' (refine kr_ ?_)
    refine⟨by omega,by omega,?_⟩
    refine rd K6 ?_
    refine cm ⟨_,_,rfl,?_⟩
    repeat' (refine kr_ ?_)
    refine Kn.al K6 fun bn h7 K7 l7 hbn=>?_
    repeat' (refine kr_ ?_)
    exact fin x bn bg h7 hx K7
  ·refine Kn.al K4 fun bg h5 K5 l5 hbg=>?_
   repeat' (refine kr_ ?_)
   refine⟨by omega,by omega,?_⟩
   refine rd K5 ?_
   refine kp_ ?_
   intro x h6 K6 hx _
   refine⟨_,rfl,?_⟩
   replace hx:x<2:=by have:=hx (by omega);omega
   repeat' (refine kr_ ?_)
   refine cm ⟨_,_,rfl,?_⟩
   repeat' (refine kr_ ?_)
   refine Kn.al K6 fun bn h7 K7 l7 hbn=>?_
   repeat' (refine kr_ ?_)
   exact fin x bn bg h7 hx K7
 refine aC (by rw [decide_eq_false_iff_not];omega) ?_
 clear hnx
 refine kp_ ?_
 intro x205 h6 K6 hx205 _
 refine⟨_,rfl,?_⟩
 replace hx205:x205<3:=by have:=hx205 (by omega);omega
 rw [show W (1+(x205:Int))=((1+x205:Nat):Int) by rw [cd (by omega) (by omega)];omega]
 refine au (1+x205) (fun i vs h'=> ∃(q:Nat) (X:List (Nat×Blk)) (M:MSl) (m:ah),vs= [.pointer (some ⟨B,0,none⟩), .pointer (some ⟨b9,0,none⟩), .pointer (some ⟨b11,0,none⟩),I (1+x205:Nat),I i]/\
  MG X M m/\DM m (6+i)/\0<m.nodes.length/\q<=p+30+2*i/\Kn g h' ((b14, .inl ⟨[.string ⟨#[120]⟩, .string ⟨#[121]⟩, .string ⟨#[122]⟩, .string ⟨#[109,101,109]⟩],4,false⟩)::(b11, .inl ⟨eA,5,false⟩)::(b9, .inl ⟨aH M,5,false⟩)::(B,rdC s q)::(A++X)))
  ⟨q+1,X,M,m,rfl,o,d.more (by omega),hpos,by omega,K6⟩ ?_
 clear K6 K4 hpos d o hl hdn hq q m M X h4 h6
 rintro i _ h4 nxt hi ⟨q,X,M,m,rfl,o,d,hpos,hq,K4⟩ hnx
 refine⟨_,b9,0,b11,0,_,_,rfl,?_⟩
 have hl:=o.lens
 have hdn:=d.nodes
 by_cases hlt:i<1+x205
 rotate_left
 ·refine aC (by rw [decide_eq_false_iff_not];omega) ?_
  repeat' (refine kr_ ?_)
  refine GG K4 (by((focus ((repeat first|exact .head|apply Upd.tail);done)))) fun h6 K6=>?_
  exact k h6 q X M m K6.tl.tl.tl o (d.more (by omega)) hpos (by omega)
 refine aM (by rw [decide_eq_true_eq];omega) ?_
 refine ap (fun J=> ∀h5 q X M m,MG X M m->DM m (6+i+1)->0<m.nodes.length->q<=p+30+2*(i+1)->Kn g h5 ((b14, .inl ⟨[.string ⟨#[120]⟩, .string ⟨#[121]⟩, .string ⟨#[122]⟩, .string ⟨#[109,101,109]⟩],4,false⟩)::(b11, .inl ⟨eA,5,false⟩)::(b9, .inl ⟨aH M,5,false⟩)::(B,rdC s q)::(A++X))->J h5)
  (fun h5 q X M m o d hpos hq K5=>?_) (fun J hJ=>?_)
 ·rw [ay (by omega)]
  exact hnx hlt _ _ ⟨q,X,M,m,rfl,o,d,hpos,hq,K5⟩
 refine kp_ ?_
 intro w h5 K5 hw _
 refine⟨_,rfl,?_⟩
 replace hw:w<4:=by have:=hw (by omega);omega
 have hp2:0<2^(1+w):=Nat.two_pow_pos _
 rw [show W (1+(w:Int))=((1+w:Nat):Int) by rw [cd (by omega) (by omega)];omega]
 have fin: ∀(y bn:Nat) (h8:Hp),Kn g h8 ((bn, .inl ⟨[I 34,I 0,I 0,I 0,I (Int.tmod y (2^(1+w):Nat)),I 0,I 0,I (1+w:Nat), .string ⟨#[]⟩],9,false⟩)::(b14, .inl ⟨[.string ⟨#[120]⟩, .string ⟨#[121]⟩, .string ⟨#[122]⟩, .string ⟨#[109,101,109]⟩],4,false⟩)::
   (b11, .inl ⟨eA,5,false⟩)::(b9, .inl ⟨aH M,5,false⟩)::(B,rdC s (q+1+1))::(A++X))->
   cy h8 M.no.a M.no.n M.no.c (some (Addr.mk bn 0 none)) 1 9 80 fun a92 n93 k94 h95=> ∃(cs96:List Value) (z97:Nat),h95 b9=some (.inl ⟨cs96,z97,false⟩)/\0+1<=List.length cs96/\cM (h95.row b9 (bX cs96 0 [(.slice a92 n93 k94)]) z97) fun h148=>J h148:=by
  intro y bn h8 K8
  refine nA (H:=_::_::_::_::A) (nd:=⟨34,0,0,0,Int.tmod y (2^(1+w):Nat),0,⟨0,(1+w:Nat)⟩,⟨#[]⟩⟩) o K8 (by omega) (.tail _ (.tail _ (.head _))) fun s' X9 h9 o9 KF=>?_
  have K9:=KF _ (by((focus ((repeat first|exact .head|apply Upd.tail);done))))
  simp only [List.cons_append]at K9
  exact hJ h9 _ X9 _ _ o9 (d.addN (A2 (by omega) (by omega) (by omega) (by omega)) (show (0:Nat)<=100 by omega)) (by simp) (by omega) K9
 (refine kr_ ?_)
 refine⟨?_,?_⟩
 ·refine kp_ ?_
  intro y h6 K6 hy _
  refine⟨_,rfl,?_⟩
  repeat' (refine kr_ ?_)
  refine⟨?_,?_⟩
  ·repeat' (refine kr_ ?_)
   rw [cZ (by omega),if_neg (by omega),cw (by omega),if_neg (by omega)]
   refine cm ⟨_,_,rfl,?_⟩
   repeat' (refine kr_ ?_)
   refine Kn.al K6 fun bn h7 K7 l7 hbn=>?_
   repeat' (refine kr_ ?_)
   exact fin y bn h7 K7
  ·refine cm ⟨_,_,rfl,?_⟩
   repeat' (refine kr_ ?_)
   rw [cZ (by omega),if_neg (by omega),cw (by omega),if_neg (by omega)]
   refine Kn.al K6 fun bn h7 K7 l7 hbn=>?_
   repeat' (refine kr_ ?_)
   exact fin y bn h7 K7
 ·repeat' (refine kr_ ?_)
  rw [cZ (by omega),if_neg (by omega),cw (by omega)]
  refine kp_ ?_
  intro y h6 K6 hy _
  refine⟨_,rfl,?_⟩
  repeat' (refine kr_ ?_)
  rw [if_neg (by omega)]
  refine cm ⟨_,_,rfl,?_⟩
  repeat' (refine kr_ ?_)
  refine Kn.al K6 fun bn h7 K7 l7 hbn=>?_
  repeat' (refine kr_ ?_)
  exact fin y bn h7 K7
theorem wK {c:Prop} [Decidable c] {x t:SortP} (h:(if c then some x else none)=some t):c/\x=t:=by
 by_cases e:c
 ·rw [if_pos e]at h;exact⟨e,Option.some.inj h⟩
 ·rw [if_neg e]at h;cases h
theorem QV {n:NodeP} {a b c t:SortP} (ha:bW a=true) (hb:2<=ai n.kind->bW b=true) (h:dh n a b c=some t):bW t=true:=by
 obtain⟨⟨a1,a2⟩,a3,a4⟩:=nr ha
 unfold dh at h
 by_cases e33:n.kind=33
 ·rw [if_pos e33]at h
  obtain⟨_,rfl⟩:=wK h
  exact hb (by rw [e33];decide)
 rw [if_neg e33]at h
 by_cases e37:n.kind=37
 ·rw [if_pos e37]at h
  obtain⟨_,rfl⟩:=wK h
  exact qF a3 a4
 rw [if_neg e37]at h
 by_cases e38:n.kind=38
 ·rw [if_pos e38]at h
  obtain⟨_,rfl⟩:=wK h
  exact ha
 rw [if_neg e38]at h
 by_cases e21:n.kind=21
 ·rw [if_pos e21]at h
  obtain⟨_,rfl⟩:=wK h
  exact qF (by omega) (by omega)
 rw [if_neg e21]at h
 by_cases ei:0<a.idx\/(ai n.kind=2/\0<b.idx)
 ·rw [if_pos ei]at h;cases h
 rw [if_neg ei]at h
 by_cases e29:n.kind=29
 ·rw [if_pos e29]at h
  obtain⟨e,rfl⟩:=wK h
  have:=nr (hb (by rw [e29];decide))
  exact qF (by omega) (by omega)
 rw [if_neg e29]at h
 by_cases e30:n.kind=30
 ·rw [if_pos e30]at h
  obtain⟨e,rfl⟩:=wK h
  exact qF (by omega) (by omega)
 rw [if_neg e30]at h
 by_cases e31:n.kind=31\/n.kind=32
 ·rw [if_pos e31]at h
  obtain⟨e,rfl⟩:=wK h
  exact qF (by omega) (by omega)
 rw [if_neg e31]at h
 have hw: ∀q:Prop, [Decidable q]->bW (cR (if q then a.wid else 1))=true:=fun q _=>by
  by_cases e:q
  ·rw [if_pos e];exact qF a3 a4
  ·rw [if_neg e];exact qF (by omega) (by omega)
 by_cases e5:n.kind<=5
 ·rw [if_pos e5]at h
  obtain rfl:=Option.some.inj h
  exact hw _
 rw [if_neg e5]at h
 obtain⟨_,rfl⟩:=wK h
 exact hw _
theorem MZ {l:List NodeP} {n:NodeP} {t:SortP} (hk:ai n.kind≠0) (h:dc l n=some t):bW t=true:=by
 unfold dc at h
 by_cases e:l.length<=60/\fR l.length n=true
 ·rw [if_pos e,if_neg hk]at h
  by_cases e2:(bW (ar l n.a)&&((decide (ai n.kind<2)||bW (ar l n.b))&&(decide (ai n.kind<3)||bW (ar l n.c))))=true
  ·rw [if_pos e2]at h
   simp only [Bool.and_eq_true,Bool.or_eq_true,decide_eq_true_eq]at e2
   exact QV e2.1 (fun h2=>e2.2.1.resolve_left (by omega)) h
  ·rw [if_neg e2]at h;cases h
 ·rw [if_neg e]at h;cases h
set_option maxHeartbeats 2000000 in
theorem VF {g h:Hp} {A X:List (Nat×Blk)} {B p N:Nat} {s:Sl} {bs:List Nat} {M:MSl} {m:ah} {R:Value->Hp->Prop} (K:Kn g h ((B,rdC s p)::(A++X))) (hb:ByteS g s bs) (o:MG X M m) (d:DM m N) (hN:N<=1000)
  (hne:0<m.nodes.length) (hp:p<=800000)
  (k: ∀h' p' X' M' m',Kn g h' ((B,rdC s p')::(A++X'))->MG X' M' m'->DM m' (N+3)->0<m'.nodes.length->p'<=p+20->R (aQ M') h'):
  qQ #[.pointer (some ⟨B,0,none⟩),aQ M] h R:=by
 apply E7
 refine uf_ ?_
 have hl:=o.lens
 have hsm:=d.small (by omega)
 have hdn:=d.nodes
 refine Kn.al K fun b8 h1 K1 l1 hb8=>?_
 refine Kn.al K1 fun b10 h2 K2 l2 hb10=>?_
 clear K K1 l1 l2 hb8 hb10
 refine kp_ ?_
 intro x15 h3 K3 hx15 _
 refine⟨_,rfl,?_⟩
 replace hx15:x15<33:=by have:=hx15 (by omega);omega
 refine Kn.al K3 fun b16 h4 K4 l4 hb16=>?_
 refine kw_ ?_
 intro h5 K5 kpz
 clear kpz
 rw [show W (1+(x15:Int))=((1+x15:Nat):Int) by rw [cd (by omega) (by omega)];omega]at K5
 have K5':Kn g h5 ((b16, .inl ⟨nodeCells ⟨(1+x15:Nat),0,0,0,0,0,⟨0,0⟩,⟨#[]⟩⟩,9,false⟩)::(b10, .inl ⟨eA,5,false⟩)::(b8, .inl ⟨aH M,5,false⟩)::(B,rdC s (p+1))::(A++X)):=K5
 clear K5 K4 K3 K2 l4 hb16 h4 h3 h2 h1 h
 refine kp_ ?_
 intro x24 h6 K6 _ _
 refine⟨_,rfl,?_⟩
 clear K5' h5
 have hk0:ai ((1+x15:Nat):Int)≠0:=by
  unfold ai
  have h1: ¬(34<=((1+x15:Nat):Int)/\((1+x15:Nat):Int)<=36):=by omega
  rw [if_neg h1]
  split
  ·decide
  ·split
   ·decide
   ·split<;>decide
 refine ap (fun J=> ∀(kd:Int) h5 q,ai kd≠0->q<=p+3->Kn g h5 ((b16, .inl ⟨nodeCells ⟨kd,0,0,0,0,0,⟨0,0⟩,⟨#[]⟩⟩,9,false⟩)::(b10, .inl ⟨eA,5,false⟩)::(b8, .inl ⟨aH M,5,false⟩)::(B,rdC s q)::(A++X))->J h5) (fun kd h5 q hkd hq K5=>?_) (fun J hJ=>?_)
 rotate_left
 ·refine ad (fun e=>?_) (fun e=>hJ _ h6 _ hk0 (by omega) K6)
  refine Kn.al K6 fun b27 h7 K7 l7 hb27=>?_
  refine kp_ ?_
  intro x31 h8 K8 hx31 _
  refine⟨_,rfl,?_⟩
  replace hx31:x31<2:=by have:=hx31 (by omega);omega
  clear K7 K6
  refine⟨b27,0,rfl,by omega,by omega,?_⟩
  obtain⟨kd,hkd,hk1⟩: ∃kd:Int,([I 37,I 38]:List Value)[x31]?=some (I kd)/\ai kd≠0:=by
   rcases x31 with _|_|i
   ·exact⟨37,rfl,by decide⟩
   ·exact⟨38,rfl,by decide⟩
   ·omega
  refine⟨kd,by rw [ax (K8.at (.head _)),Int.toNat_natCast,Nat.zero_add,Nat.mul_one];exact hkd,?_⟩
  refine kw_ ?_
  intro h9 K9 kpz
  clear kpz
  exact hJ kd h9 _ hk1 (by omega) K9.tl
 clear K6 hk0 hx15 h6
 (refine kr_ ?_)
 refine kp_ ?_
 intro a h6 K6 ha _
 refine⟨_,rfl,?_⟩
 replace ha:a<m.nodes.length:=by have:=ha (by omega);omega
 clear K5
 refine kw_ ?_
 intro h7 K7 kpz
 clear kpz
 have K7':Kn g h7 ((b16, .inl ⟨nodeCells ⟨kd,a,0,0,0,0,⟨0,0⟩,⟨#[]⟩⟩,9,false⟩)::(b10, .inl ⟨eA,5,false⟩)::(b8, .inl ⟨aH M,5,false⟩)::(B,rdC s (q+1))::(A++X)):=K7
 clear K7 K6 h5 h6
 repeat' (refine kr_ ?_)
 obtain⟨na,hna⟩: ∃n,m.nodes[a]?=some n:=⟨_,List.getElem?_eq_getElem ha⟩
 have hs:=o.modelS (A:=_::_::_::_::A) hsm K7'
 obtain⟨b,oo,ha',e0,e1,e2,e3,e4,e5,e6,e7,e8⟩:=hs.nodes.at hna
 refine⟨b,oo,ha',(by first|omega|(dsimp only;omega)),(by first|omega|(dsimp only;omega)),_,by rw [Int.toNat_natCast];exact e6,_,by rw [Int.toNat_natCast];exact e7,?_⟩
 clear e0 e1 e2 e3 e4 e5 e6 e7 e8 ha' hs
 refine Kn.al K7' fun b54 h8 K8 l8 hb54=>?_
 refine kw_ ?_
 intro h9 K9 kpz
 clear kpz
 have K9':Kn g h9 ((b54, .inl ⟨[I na.sort.idx,I na.sort.wid],2,false⟩)::(b16, .inl ⟨nodeCells ⟨kd,a,0,0,0,0,⟨0,0⟩,⟨#[]⟩⟩,9,false⟩)::(b10, .inl ⟨eA,5,false⟩)::(b8, .inl ⟨aH M,5,false⟩)::(B,rdC s (q+1))::(A++X)):=K9
 clear K9 K8 K7' l8 hb54 h8 h7
 have hst:=uV d hna
 obtain⟨⟨w1,w2⟩,w3,w4⟩:=nr hst
 refine ap (fun J=> ∀h5 q' X' M' m' (nd:NodeP) (z:Blk),nd.kind=kd->nd.name.size=0->MG X' M' m'->DM m' (N+2)->0<m'.nodes.length->q'<=q+10->Kn g h5 ((b54,z)::(b16, .inl ⟨nodeCells nd,9,false⟩)::(b10, .inl ⟨eA,5,false⟩)::(b8, .inl ⟨aH M',5,false⟩)::(B,rdC s q')::(A++X'))->J b8 0 b10 0 b16 0 h5)
  (fun h5 q' X' M' m' nd z hkd2 hnm o' d' hpos hq' K5=>?_) (fun J hJ=>?_)
 ·clear K9'
  have hl':=o'.lens
  have hdn':=d'.nodes
  have hsm':=d'.small (by omega)
  have hs:=o'.modelS (A:=_::_::_::_::_::A) hsm' K5
  repeat' (refine kr_ ?_)
  refine qb (n:=nd) hs.nodes (by omega) ?_
  cases hns:dc m'.nodes nd with
  |none=>
   refine⟨_,_,_,rfl,?_⟩
   refine Kn.al K5 fun b327 h6 K6 l6 hb327=>?_
   clear K5
   refine kw_ ?_
   intro h7 K7 kpz
   clear kpz
   clear K6
   rw [jB]
   refine aM rfl (aM rfl ?_)
   repeat' (refine kr_ ?_)
   refine GG K7 (by((focus ((repeat first|exact .head|apply Upd.tail);done)))) fun h8 K8=>?_
   exact k h8 q' X' M' m' K8.tl.tl.tl.tl.tl o' (d'.more (by omega)) hpos (by omega)
  |some t=>
   refine⟨_,_,_,rfl,?_⟩
   have htok:=MZ (by rw [hkd2];exact hkd) hns
   refine Kn.al K5 fun b327 h6 K6 l6 hb327=>?_
   clear K5
   refine kw_ ?_
   intro h7 K7 kpz
   clear kpz
   have K7':Kn g h7 ((b327, .inl ⟨[I t.idx,I t.wid],2,false⟩)::(b54,z)::(b16, .inl ⟨nodeCells nd,9,false⟩)::(b10, .inl ⟨eA,5,false⟩)::(b8, .inl ⟨aH M',5,false⟩)::(B,rdC s q')::(A++X')):=K7
   clear K6 K7
   refine ap (fun J=> ∀c,J c) (fun c=>?_) (fun J hJ=>?_)
   rotate_left
   ·refine aC rfl ?_
    (refine kr_ ?_)
    refine ad (fun _=>hJ _) (fun _=>?_)
    (refine kr_ ?_)
    exact hJ _
   cases c with
   |true=>
    refine aM rfl ?_
    repeat' (refine kr_ ?_)
    refine GG K7' (by((focus ((repeat first|exact .head|apply Upd.tail);done)))) fun h8 K8=>?_
    exact k h8 q' X' M' m' K8.tl.tl.tl.tl.tl o' (d'.more (by omega)) hpos (by omega)
   |false=>
    refine aC rfl ?_
    repeat' (refine kr_ ?_)
    refine kw_ ?_
    intro h8 K8 kpz
    clear kpz
    have K8':Kn g h8 ((b327, .inl ⟨[I t.idx,I t.wid],2,false⟩)::(b54,z)::(b16, .inl ⟨nodeCells {nd with sort:=t},9,false⟩)::(b10, .inl ⟨eA,5,false⟩)::(b8, .inl ⟨aH M',5,false⟩)::(B,rdC s q')::(A++X')):=K8
    clear K8 K7'
    repeat' (refine kr_ ?_)
    refine Kn.al K8' fun b368 h9 K9 l9 hb368=>?_
    refine nA (H:=_::_::_::_::_::_::A) (nd:={nd with sort:=t}) o' K9 (by omega) (.tail _ (.tail _ (.tail _ (.tail _ (.head _))))) fun s' X9 h10 o9 KF=>?_
    have K10:=KF _ (by((focus ((repeat first|exact .head|apply Upd.tail);done))))
    simp only [List.cons_append]at K10
    clear KF K9 K8'
    repeat' (refine kr_ ?_)
    refine GG (M:={M' with no:=s'}) K10 (by((focus ((repeat first|exact .head|apply Upd.tail);done)))) fun h11 K11=>?_
    exact k h11 q' X9 _ _ K11.tl.tl.tl.tl.tl o9 ((d'.addN htok (by show nd.name.size<=100;omega)).more (by omega)) (by simp) (by omega)
 (refine kr_ ?_)
 refine ad (fun e=>?_) (fun e=>?_)
 ·repeat' (refine kr_ ?_)
  refine cm ⟨_,_,rfl,?_⟩
  repeat' (refine kr_ ?_)
  refine yu (p:=q+1) (A:=(b54, .inl ⟨[I na.sort.idx,I na.sort.wid],2,false⟩)::(b16, .inl ⟨nodeCells ⟨kd,a,0,0,0,0,⟨0,0⟩,⟨#[]⟩⟩,9,false⟩)::(b10, .inl ⟨eA,5,false⟩)::(b8, .inl ⟨aH M,5,false⟩)::A) (st:=⟨0,1⟩)
   (K9'.perm (CZ _ _ _ _ _ _)) hb o d (by omega) hne (by omega) rfl fun h5 q5 X5 M5 m5 i5 K5 o5 d5 hi5 hl5 hq5=>⟨_,_,_,_,_,_,rfl,?_⟩
  replace K5:=K5.perm (CZ _ _ _ _ _ _).symm
  clear K9'
  refine vY (M':=M5) K5 (by((focus ((repeat first|exact .head|apply Upd.tail);done)))) rfl fun h6 K6=>?_
  clear K5
  refine kw_ ?_
  intro h7 K7 kpz
  clear kpz
  have K7':Kn g h7 ((b54, .inl ⟨[I na.sort.idx,I na.sort.wid],2,false⟩)::(b16, .inl ⟨nodeCells ⟨kd,i5,0,0,0,0,⟨0,0⟩,⟨#[]⟩⟩,9,false⟩)::(b10, .inl ⟨eA,5,false⟩)::(b8, .inl ⟨aH M5,5,false⟩)::(B,rdC s q5)::(A++X5)):=K7
  clear K6 K7
  have hl5':=o5.lens
  have hdn5:=d5.nodes
  (refine kr_ ?_)
  refine kp_ ?_
  intro x90 h8 K8 hx90 _
  refine⟨_,rfl,?_⟩
  replace hx90:x90<m5.nodes.length:=by have:=hx90 (by omega);omega
  clear K7'
  refine kw_ ?_
  intro h9 K9 kpz
  clear kpz
  have K9':Kn g h9 ((b54, .inl ⟨[I na.sort.idx,I na.sort.wid],2,false⟩)::(b16, .inl ⟨nodeCells ⟨kd,i5,x90,0,0,0,⟨0,0⟩,⟨#[]⟩⟩,9,false⟩)::(b10, .inl ⟨eA,5,false⟩)::(b8, .inl ⟨aH M5,5,false⟩)::(B,rdC s (q5+1))::(A++X5)):=K9
  clear K8 K9
  repeat' (refine kr_ ?_)
  obtain⟨nb,hnb⟩: ∃n,m5.nodes[x90]?=some n:=⟨_,List.getElem?_eq_getElem hx90⟩
  have hs:=o5.modelS (A:=_::_::_::_::_::A) (d5.small (by omega)) K9'
  obtain⟨b,oo,ha',e0,e1,e2,e3,e4,e5,e6,e7,e8⟩:=hs.nodes.at hnb
  refine⟨b,oo,ha',(by first|omega|(dsimp only;omega)),(by first|omega|(dsimp only;omega)),_,by rw [Int.toNat_natCast];exact e6,_,by rw [Int.toNat_natCast];exact e7,?_⟩
  refine yu (p:=q5+1) (A:=(b54, .inl ⟨[I na.sort.idx,I na.sort.wid],2,false⟩)::(b16, .inl ⟨nodeCells ⟨kd,i5,x90,0,0,0,⟨0,0⟩,⟨#[]⟩⟩,9,false⟩)::(b10, .inl ⟨eA,5,false⟩)::(b8, .inl ⟨aH M5,5,false⟩)::A) (st:=nb.sort)
   (K9'.perm (CZ _ _ _ _ _ _)) hb o5 d5 (by omega) (by omega) (by omega) (uV d5 hnb) fun h5 q6 X6 M6 m6 i6 K5 o6 d6 hi6 hl6 hq6=>⟨_,_,_,_,_,_,rfl,?_⟩
  replace K5:=K5.perm (CZ _ _ _ _ _ _).symm
  clear K9' hs e0 e1 e2 e3 e4 e5 e6 e7 e8
  refine vY (M':=M6) K5 (by((focus ((repeat first|exact .head|apply Upd.tail);done)))) rfl fun h10 K10=>?_
  clear K5
  refine kw_ ?_
  intro h11 K11 kpz
  clear kpz
  exact hJ h11 q6 X6 M6 m6 ⟨kd,i5,x90,i6,0,0,⟨0,0⟩,⟨#[]⟩⟩ _ rfl rfl o6 d6 (by omega) (by omega) K11
 have hnl:=hdn
 refine ap (fun J=> ∀c,J c) (fun c=>?_) (fun J hJ=>?_)
 rotate_left
 ·(refine kr_ ?_)
  refine ad (fun _=>hJ _) (fun _=>?_)
  (refine kr_ ?_)
  exact hJ _
 refine ad (fun _=>?_) (fun _=>?_)
 ·--arrays
  refine au m.nodes.length (fun i vs h'=> ∃a:Nat,vs= [.pointer (some ⟨B,0,none⟩), .pointer (some ⟨b8,0,none⟩), .pointer (some ⟨b10,0,none⟩), .pointer (some ⟨b16,0,none⟩), .pointer (some ⟨b54,0,none⟩),I i]/\a<m.nodes.length/\
   Kn g h' ((b54, .inl ⟨[I na.sort.idx,I na.sort.wid],2,false⟩)::(b16, .inl ⟨nodeCells ⟨kd,a,0,0,0,0,⟨0,0⟩,⟨#[]⟩⟩,9,false⟩)::(b10, .inl ⟨eA,5,false⟩)::(b8, .inl ⟨aH M,5,false⟩)::(B,rdC s (q+1))::(A++X))) ⟨a,rfl,ha,K9'⟩ ?_
  rintro i _ h4 nxt hi ⟨a',rfl,ha',K4⟩ hnx
  refine⟨_,b8,0,b10,0,b16,0,b54,0,_,rfl,?_⟩
  have hs:=o.modelS (A:=_::_::_::_::_::A) hsm K4
  clear K9'
  (refine kr_ ?_)
  by_cases hlt:i<m.nodes.length
  ·refine aM (by rw [decide_eq_true_eq];omega) ?_
   refine ap (fun J=> ∀h5 (c:Nat),c<m.nodes.length->Kn g h5 ((b54, .inl ⟨[I na.sort.idx,I na.sort.wid],2,false⟩)::(b16, .inl ⟨nodeCells ⟨kd,c,0,0,0,0,⟨0,0⟩,⟨#[]⟩⟩,9,false⟩)::(b10, .inl ⟨eA,5,false⟩)::(b8, .inl ⟨aH M,5,false⟩)::(B,rdC s (q+1))::(A++X))->J h5) (fun h5 c hc K5=>?_) (fun J hJ=>?_)
   ·rw [ay (by omega)]
    exact hnx hlt _ _ ⟨c,rfl,hc,K5⟩
   ·(refine kr_ ?_)
    obtain⟨ni,hni⟩: ∃n,m.nodes[i]?=some n:=⟨_,List.getElem?_eq_getElem hlt⟩
    obtain⟨b,oo,ha2,e0,e1,e2,e3,e4,e5,e6,e7,e8⟩:=hs.nodes.at hni
    refine⟨b,oo,ha2,(by first|omega|(dsimp only;omega)),(by first|omega|(dsimp only;omega)),_,by rw [Int.toNat_natCast];exact e6,?_⟩
    clear e0 e1 e2 e3 e4 e5 e6 e7 e8
    refine ad (fun e=>?_) (fun e=>hJ h4 a' ha' K4)
    refine kw_ ?_
    intro h5 K5 kpz
    clear kpz
    exact hJ h5 i hlt K5
  refine aC (by rw [decide_eq_false_iff_not];omega) ?_
  clear hnx
  repeat' (refine kr_ ?_)
  obtain⟨nb,hnb⟩: ∃n,m.nodes[a']?=some n:=⟨_,List.getElem?_eq_getElem ha'⟩
  obtain⟨b,oo,ha2,e0,e1,e2,e3,e4,e5,e6,e7,e8⟩:=hs.nodes.at hnb
  refine⟨b,oo,ha2,(by first|omega|(dsimp only;omega)),(by first|omega|(dsimp only;omega)),_,by rw [Int.toNat_natCast];exact e6,_,by rw [Int.toNat_natCast];exact e7,?_⟩
  clear e0 e1 e2 e3 e4 e5 e6 e7 e8 hs
  obtain⟨⟨v1,v2⟩,v3,v4⟩:=nr (uV d hnb)
  refine kw_ ?_
  intro h5 K5 kpz
  clear kpz
  have K5':Kn g h5 ((b54, .inl ⟨[I nb.sort.idx,I nb.sort.wid],2,false⟩)::(b16, .inl ⟨nodeCells ⟨kd,a',0,0,0,0,⟨0,0⟩,⟨#[]⟩⟩,9,false⟩)::(b10, .inl ⟨eA,5,false⟩)::(b8, .inl ⟨aH M,5,false⟩)::(B,rdC s (q+1))::(A++X)):=K5
  clear K5 K4
  (refine kr_ ?_)
  refine ad (fun e=>?_) (fun e=>?_)
  ·repeat' (refine kr_ ?_)
   refine GG K5' (by((focus ((repeat first|exact .head|apply Upd.tail);done)))) fun h8 K8=>?_
   exact k h8 (q+1) X M m K8.tl.tl.tl.tl o (d.more (by omega)) hne (by omega)
  have hi1:nb.sort.idx≠0:=fun q=>by rw [q]at e;simp at e
  repeat' (refine kr_ ?_)
  refine cm ⟨_,_,rfl,?_⟩
  repeat' (refine kr_ ?_)
  refine yu (p:=q+1) (A:=(b54, .inl ⟨[I nb.sort.idx,I nb.sort.wid],2,false⟩)::(b16, .inl ⟨nodeCells ⟨kd,a',0,0,0,0,⟨0,0⟩,⟨#[]⟩⟩,9,false⟩)::(b10, .inl ⟨eA,5,false⟩)::(b8, .inl ⟨aH M,5,false⟩)::A) (st:=⟨0,nb.sort.idx⟩)
   (K5'.perm (CZ _ _ _ _ _ _)) hb o d (by omega) hne (by omega) (A2 (by omega) (by omega) (by omega) (by omega)) fun h6 q6 X6 M6 m6 i6 K6 o6 d6 hi6 hl6 hq6=>⟨_,_,_,_,_,_,rfl,?_⟩
  replace K6:=K6.perm (CZ _ _ _ _ _ _).symm
  clear K5'
  refine vY (M':=M6) K6 (by((focus ((repeat first|exact .head|apply Upd.tail);done)))) rfl fun h7 K7=>?_
  clear K6
  refine kw_ ?_
  intro h8 K8 kpz
  clear kpz
  have K8':Kn g h8 ((b54, .inl ⟨[I nb.sort.idx,I nb.sort.wid],2,false⟩)::(b16, .inl ⟨nodeCells ⟨kd,a',i6,0,0,0,⟨0,0⟩,⟨#[]⟩⟩,9,false⟩)::(b10, .inl ⟨eA,5,false⟩)::(b8, .inl ⟨aH M6,5,false⟩)::(B,rdC s q6)::(A++X6)):=K8
  clear K8 K7
  (refine kr_ ?_)
  refine ad (fun e=>?_) (fun e=>?_)
  ·repeat' (refine kr_ ?_)
   refine cm ⟨_,_,rfl,?_⟩
   repeat' (refine kr_ ?_)
   refine yu (p:=q6) (A:=(b54, .inl ⟨[I nb.sort.idx,I nb.sort.wid],2,false⟩)::(b16, .inl ⟨nodeCells ⟨kd,a',i6,0,0,0,⟨0,0⟩,⟨#[]⟩⟩,9,false⟩)::(b10, .inl ⟨eA,5,false⟩)::(b8, .inl ⟨aH M6,5,false⟩)::A) (st:=⟨0,nb.sort.wid⟩)
    (K8'.perm (CZ _ _ _ _ _ _)) hb o6 d6 (by omega) (by omega) (by omega) (A2 (by omega) (by omega) (by omega) (by omega)) fun h9 q9 X9 M9 m9 i9 K9 o9 d9 hi9 hl9 hq9=>⟨_,_,_,_,_,_,rfl,?_⟩
   replace K9:=K9.perm (CZ _ _ _ _ _ _).symm
   clear K8'
   refine vY (M':=M9) K9 (by((focus ((repeat first|exact .head|apply Upd.tail);done)))) rfl fun h10 K10=>?_
   clear K9
   refine kw_ ?_
   intro h11 K11 kpz
   clear kpz
   exact hJ h11 q9 X9 M9 m9 ⟨kd,a',i6,i9,0,0,⟨0,0⟩,⟨#[]⟩⟩ _ rfl rfl o9 d9 (by omega) (by omega) K11
  ·exact hJ h8 q6 X6 M6 m6 ⟨kd,a',i6,0,0,0,⟨0,0⟩,⟨#[]⟩⟩ _ rfl rfl o6 (d6.more (by omega)) (by omega) (by omega) K8'
 (refine kr_ ?_)
 refine ad (fun _=>?_) (fun _=>?_)
 ·(refine kr_ ?_)
  refine kp_ ?_
  intro y h10 K10 _ _
  refine⟨_,rfl,?_⟩
  clear K9'
  refine kw_ ?_
  intro h11 K11 kpz
  clear kpz
  exact hJ h11 _ X M m ⟨kd,a,y,0,0,0,⟨0,0⟩,⟨#[]⟩⟩ _ rfl rfl o (d.more (by omega)) hne (by omega) K11
 (refine kr_ ?_)
 refine ad (fun _=>?_) (fun _=>?_)
 ·(refine kr_ ?_)
  refine kp_ ?_
  intro y h10 K10 hy _
  refine⟨_,rfl,?_⟩
  replace hy:(y:Int)<na.sort.wid:=hy (by omega)
  clear K9'
  refine kw_ ?_
  intro h11 K11 kpz
  clear kpz
  have K11':Kn g h11 ((b54, .inl ⟨[I na.sort.idx,I na.sort.wid],2,false⟩)::(b16, .inl ⟨nodeCells ⟨kd,a,0,0,0,y,⟨0,0⟩,⟨#[]⟩⟩,9,false⟩)::(b10, .inl ⟨eA,5,false⟩)::(b8, .inl ⟨aH M,5,false⟩)::(B,rdC s (q+1+1))::(A++X)):=K11
  clear K11 K10
  repeat' (refine kr_ ?_)
  (((with_reducible apply V7);(assumption);(assumption);((focus ((repeat first|exact .head|apply Upd.tail);done)))))
  ·omega
  ·(show W (na.sort.wid-(y:Int))<=1000000000);rw [cd (by omega) (by omega)];omega
  intro w h12 K12 _ _
  refine⟨_,rfl,?_⟩
  repeat' (refine kr_ ?_)
  clear K11'
  refine kw_ ?_
  intro h13 K13 kpz
  clear kpz
  exact hJ h13 _ X M m ⟨kd,a,0,0,W ((y:Int)+(w:Int)),y,⟨0,0⟩,⟨#[]⟩⟩ _ rfl rfl o (d.more (by omega)) hne (by omega) K13
 refine ap (fun J=> ∀c,J c) (fun c=>?_) (fun J hJ=>?_)
 rotate_left
 ·(refine kr_ ?_)
  refine ad (fun _=>hJ _) (fun _=>?_)
  (refine kr_ ?_)
  exact hJ _
 refine ad (fun _=>?_) (fun _=>?_)
 ·refine kp_ ?_
  intro y h10 K10 _ _
  refine⟨_,rfl,?_⟩
  clear K9'
  refine kw_ ?_
  intro h11 K11 kpz
  clear kpz
  exact hJ h11 _ X M m ⟨kd,a,0,0,y,0,⟨0,0⟩,⟨#[]⟩⟩ _ rfl rfl o (d.more (by omega)) hne (by omega) K11
 (refine kr_ ?_)
 refine lD ⟨_,rfl,?_⟩
 refine ad (fun _=>?_) (fun _=>?_)
 ·repeat' (refine kr_ ?_)
  refine yu (p:=q+1) (A:=(b54, .inl ⟨[I na.sort.idx,I na.sort.wid],2,false⟩)::(b16, .inl ⟨nodeCells ⟨kd,a,0,0,0,0,⟨0,0⟩,⟨#[]⟩⟩,9,false⟩)::(b10, .inl ⟨eA,5,false⟩)::(b8, .inl ⟨aH M,5,false⟩)::A) (st:=na.sort)
   (K9'.perm (CZ _ _ _ _ _ _)) hb o d (by omega) hne (by omega) hst fun h6 q6 X6 M6 m6 i6 K6 o6 d6 hi6 hl6 hq6=>⟨_,_,_,_,_,_,rfl,?_⟩
  replace K6:=K6.perm (CZ _ _ _ _ _ _).symm
  clear K9'
  refine vY (M':=M6) K6 (by((focus ((repeat first|exact .head|apply Upd.tail);done)))) rfl fun h7 K7=>?_
  clear K6
  refine kw_ ?_
  intro h8 K8 kpz
  clear kpz
  exact hJ h8 q6 X6 M6 m6 ⟨kd,a,i6,0,0,0,⟨0,0⟩,⟨#[]⟩⟩ _ rfl rfl o6 (d6.more (by omega)) (by omega) (by omega) K8
 ·exact hJ h9 _ X M m ⟨kd,a,0,0,0,0,⟨0,0⟩,⟨#[]⟩⟩ _ rfl rfl o (d.more (by omega)) hne (by omega) K9'
theorem DM.addI {m:ah} {N:Nat} (d:DM m N) (x:BindP):DM {m with inits:=m.inits++ [x]} (N+1):=
 ⟨Nat.le_succ_of_le d.nodes,d.sorts,d.names,by have:=d.inits;simp;omega,Nat.le_succ_of_le d.nexts,Nat.le_succ_of_le d.bads,Nat.le_succ_of_le d.holds⟩
theorem DM.addE {m:ah} {N:Nat} (d:DM m N) (x:BindP):DM {m with nexts:=m.nexts++ [x]} (N+1):=
 ⟨Nat.le_succ_of_le d.nodes,d.sorts,d.names,Nat.le_succ_of_le d.inits,by have:=d.nexts;simp;omega,Nat.le_succ_of_le d.bads,Nat.le_succ_of_le d.holds⟩
theorem DM.addB {m:ah} {N:Nat} (d:DM m N) (x:Int):DM {m with bads:=m.bads++ [x]} (N+1):=
 ⟨Nat.le_succ_of_le d.nodes,d.sorts,d.names,Nat.le_succ_of_le d.inits,Nat.le_succ_of_le d.nexts,by have:=d.bads;simp;omega,Nat.le_succ_of_le d.holds⟩
theorem DM.addH {m:ah} {N:Nat} (d:DM m N) (x:Int):DM {m with holds:=m.holds++ [x]} (N+1):=
 ⟨Nat.le_succ_of_le d.nodes,d.sorts,d.names,Nat.le_succ_of_le d.inits,Nat.le_succ_of_le d.nexts,Nat.le_succ_of_le d.bads,by have:=d.holds;simp;omega⟩
theorem Wc {g h:Hp} {H X:List (Nat×Blk)} {b bn:Nat} {M:MSl} {m:ah} {nd:BindP} {J:Hp->Prop} (o:MG X M m) (K:Kn g h ((bn, .inl ⟨bindCells nd,2,false⟩)::(H++X))) (hm:m.inits.length<=10000) (hb:(b, .inl ⟨aH M,5,false⟩)∈H)
  (k: ∀s' X' h',MG X' {M with ini:=s'} {m with inits:=m.inits++ [nd]}->(∀H',Upd H b (.inl ⟨aH M,5,false⟩) (.inl ⟨aH {M with ini:=s'},5,false⟩) H'->Kn g h' (H'++X'))->J h'):
  cy h M.ini.a M.ini.n M.ini.c (some ⟨bn,0,none⟩) 1 2 16 fun a n c h95=> ∃(cs:List Value) (z:Nat),h95 b=some (.inl ⟨cs,z,false⟩)/\(0+1)+1<=List.length cs/\cM (h95.row b (bX cs (0+1) [.slice a n c]) z) fun h'=>J h':=by
 refine MG.appI (A:=_::H) (n:=nd) o K (by omega) (K.at (.head _)) fun s' X' h7 o' K7=>?_
 rw [List.cons_append]at K7
 have f:=K7.at (.tail _ (List.mem_append_left _ hb))
 exact⟨_,_,f,by simp,k s' X' _ o' fun H' u=>(K7.tl).set (u.app (X:=X'))⟩
theorem VU {g h:Hp} {H X:List (Nat×Blk)} {b bn:Nat} {M:MSl} {m:ah} {nd:BindP} {J:Hp->Prop} (o:MG X M m) (K:Kn g h ((bn, .inl ⟨bindCells nd,2,false⟩)::(H++X))) (hm:m.nexts.length<=10000) (hb:(b, .inl ⟨aH M,5,false⟩)∈H)
  (k: ∀s' X' h',MG X' {M with nex:=s'} {m with nexts:=m.nexts++ [nd]}->(∀H',Upd H b (.inl ⟨aH M,5,false⟩) (.inl ⟨aH {M with nex:=s'},5,false⟩) H'->Kn g h' (H'++X'))->J h'):
  cy h M.nex.a M.nex.n M.nex.c (some ⟨bn,0,none⟩) 1 2 16 fun a n c h95=> ∃(cs:List Value) (z:Nat),h95 b=some (.inl ⟨cs,z,false⟩)/\(0+2)+1<=List.length cs/\cM (h95.row b (bX cs (0+2) [.slice a n c]) z) fun h'=>J h':=by
 refine MG.appE (A:=_::H) (n:=nd) o K (by omega) (K.at (.head _)) fun s' X' h7 o' K7=>?_
 rw [List.cons_append]at K7
 have f:=K7.at (.tail _ (List.mem_append_left _ hb))
 exact⟨_,_,f,by simp,k s' X' _ o' fun H' u=>(K7.tl).set (u.app (X:=X'))⟩
theorem acf {g h:Hp} {H X:List (Nat×Blk)} {b bn:Nat} {M:MSl} {m:ah} {nd:Int} {J:Hp->Prop} (o:MG X M m) (K:Kn g h ((bn, .inl ⟨[I nd],1,false⟩)::(H++X))) (hm:m.bads.length<=10000) (hb:(b, .inl ⟨aH M,5,false⟩)∈H)
  (k: ∀s' X' h',MG X' {M with bad:=s'} {m with bads:=m.bads++ [nd]}->(∀H',Upd H b (.inl ⟨aH M,5,false⟩) (.inl ⟨aH {M with bad:=s'},5,false⟩) H'->Kn g h' (H'++X'))->J h'):
  cy h M.bad.a M.bad.n M.bad.c (some ⟨bn,0,none⟩) 1 1 8 fun a n c h95=> ∃(cs:List Value) (z:Nat),h95 b=some (.inl ⟨cs,z,false⟩)/\(0+3)+1<=List.length cs/\cM (h95.row b (bX cs (0+3) [.slice a n c]) z) fun h'=>J h':=by
 refine MG.appB (A:=_::H) (n:=nd) o K (by omega) (K.at (.head _)) fun s' X' h7 o' K7=>?_
 rw [List.cons_append]at K7
 have f:=K7.at (.tail _ (List.mem_append_left _ hb))
 exact⟨_,_,f,by simp,k s' X' _ o' fun H' u=>(K7.tl).set (u.app (X:=X'))⟩
theorem WG {g h:Hp} {H X:List (Nat×Blk)} {b bn:Nat} {M:MSl} {m:ah} {nd:Int} {J:Hp->Prop} (o:MG X M m) (K:Kn g h ((bn, .inl ⟨[I nd],1,false⟩)::(H++X))) (hm:m.holds.length<=10000) (hb:(b, .inl ⟨aH M,5,false⟩)∈H)
  (k: ∀s' X' h',MG X' {M with hol:=s'} {m with holds:=m.holds++ [nd]}->(∀H',Upd H b (.inl ⟨aH M,5,false⟩) (.inl ⟨aH {M with hol:=s'},5,false⟩) H'->Kn g h' (H'++X'))->J h'):
  cy h M.hol.a M.hol.n M.hol.c (some ⟨bn,0,none⟩) 1 1 8 fun a n c h95=> ∃(cs:List Value) (z:Nat),h95 b=some (.inl ⟨cs,z,false⟩)/\(0+4)+1<=List.length cs/\cM (h95.row b (bX cs (0+4) [.slice a n c]) z) fun h'=>J h':=by
 refine MG.appH (A:=_::H) (n:=nd) o K (by omega) (K.at (.head _)) fun s' X' h7 o' K7=>?_
 rw [List.cons_append]at K7
 have f:=K7.at (.tail _ (List.mem_append_left _ hb))
 exact⟨_,_,f,by simp,k s' X' _ o' fun H' u=>(K7.tl).set (u.app (X:=X'))⟩
set_option maxHeartbeats 2000000 in
theorem UB {g h:Hp} {A X:List (Nat×Blk)} {B p N:Nat} {s:Sl} {bs:List Nat} {M:MSl} {m:ah} {R:Value->Hp->Prop} (K:Kn g h ((B,rdC s p)::(A++X))) (hb:ByteS g s bs) (o:MG X M m) (d:DM m N) (hN:N<=100)
  (hne:0<m.nodes.length) (hp:p<=100000)
  (k: ∀h' p' X' M' m',Kn g h' ((B,rdC s p')::(A++X'))->MG X' M' m'->DM m' (6*N)->0<m'.nodes.length->p'<=p+N*1000->R (aQ M') h'):
  rk #[.pointer (some ⟨B,0,none⟩),aQ M] h R:=by
 apply EO
 refine uf_ ?_
 have hl:=o.lens
 have hsm:=d.small (by omega)
 have hdn:=d.nodes
 refine Kn.al K fun b8 h1 K1 l1 hb8=>?_
 refine Kn.al K1 fun b10 h2 K2 l2 hb10=>?_
 clear K K1 l1 l2 hb8 hb10
 (refine kr_ ?_)
 refine au m.nodes.length (fun i vs h'=> ∃q X' M' m',vs= [.pointer (some ⟨B,0,none⟩), .pointer (some ⟨b8,0,none⟩), .pointer (some ⟨b10,0,none⟩),I (M.no.n:Nat),I i]/\MG X' M' m'/\DM m' (N+5*i)/\m.nodes.length<=m'.nodes.length/\q<=p+i*1000/\
  Kn g h' ((b10, .inl ⟨eA,5,false⟩)::(b8, .inl ⟨aH M',5,false⟩)::(B,rdC s q)::(A++X'))) ⟨p,X,M,m,rfl,o,d,Nat.le_refl _,by omega,K2⟩ ?_
 clear K2 h1 h2 h
 rintro i _ h4 nxt hi ⟨q,X',M',m',rfl,o',d',hle,hq,K4⟩ hnx
 refine⟨_,b8,0,b10,0,_,_,rfl,?_⟩
 have hl':=o'.lens
 have hdn':=d'.nodes
 have hsm':=d'.small (by omega)
 by_cases hlt:i<m.nodes.length
 rotate_left
 ·refine aC (by rw [decide_eq_false_iff_not];omega) ?_
  repeat' (refine kr_ ?_)
  refine GG K4 (by((focus ((repeat first|exact .head|apply Upd.tail);done)))) fun h6 K6=>?_
  exact k h6 q X' M' m' K6.tl.tl o' (d'.more (by omega)) (by omega) (by omega)
 refine aM (by rw [decide_eq_true_eq];omega) ?_
 refine ap (fun J=> ∀h5 q X M1 m1,MG X M1 m1->DM m1 (N+5*(i+1))->m.nodes.length<=m1.nodes.length->q<=p+(i+1)*1000->Kn g h5 ((b10, .inl ⟨eA,5,false⟩)::(b8, .inl ⟨aH M1,5,false⟩)::(B,rdC s q)::(A++X))->J (some ⟨B,0,none⟩) b8 0 b10 0 (M.no.n:Nat) i h5)
  (fun h5 q X M1 m1 o1 d1 hl1 hq1 K5=>?_) (fun J hJ=>?_)
 ·rw [ay (by omega)]
  exact hnx hlt _ _ ⟨q,X,M1,m1,rfl,o1,d1,hl1,hq1,K5⟩
 clear hnx
 have hs:=o'.modelS (A:=_::_::_::A) hsm' K4
 obtain⟨ni,hni⟩: ∃n,m'.nodes[i]?=some n:=⟨_,List.getElem?_eq_getElem (by omega)⟩
 have hst:=uV d' hni
 obtain⟨b,oo,ha,e0,e1,e2,e3,e4,e5,e6,e7,e8⟩:=hs.nodes.at hni
 (refine kr_ ?_)
 refine⟨b,oo,ha,by omega,by omega,_,by rw [Int.toNat_natCast];exact e0,?_⟩
 refine ad (fun _=>hJ h4 q X' M' m' o' (d'.more (by omega)) hle (by omega) K4) (fun hkn=>?_)
 (refine kr_ ?_)
 refine⟨b,oo,ha,by omega,by omega,_,by rw [Int.toNat_natCast];exact e6,_,by rw [Int.toNat_natCast];exact e7,?_⟩
 generalize ni.sort=st at*
 clear hkn e0 e1 e2 e3 e4 e5 e6 e7 e8 hs hni ha ni oo b
 refine Kn.al K4 fun b41 h5 K5 l5 hb5=>?_
 refine kw_ ?_
 intro h6 K6 kpz
 clear kpz
 have K6':Kn g h6 ((b41, .inl ⟨[I st.idx,I st.wid],2,false⟩)::(b10, .inl ⟨eA,5,false⟩)::(b8, .inl ⟨aH M',5,false⟩)::(B,rdC s q)::(A++X')):=K6
 clear K6 K5 K4 l5 hb5
 obtain⟨_,hw1,hw2⟩:=nr hst
 refine kp_ ?_
 intro x49 h7 K7 hx49 _
 refine⟨_,rfl,?_⟩
 clear K6'
 refine ap (fun J2=> ∀h8 q2 X2 M2 m2,MG X2 M2 m2->DM m2 (N+5*i+2)->m.nodes.length<=m2.nodes.length->q2<=p+i*1000+2->Kn g h8 ((b41, .inl ⟨[I st.idx,I st.wid],2,false⟩)::(b10, .inl ⟨eA,5,false⟩)::(b8, .inl ⟨aH M2,5,false⟩)::(B,rdC s q2)::(A++X2))->J2 h8)
  (fun h8 q2 X2 M2 m2 o2 d2 hl2 hq2 K8=>?_) (fun J2 hJ2=>?_)
 rotate_left
 ·refine ad (fun _=>?_) (fun _=>hJ2 h7 _ X' M' m' o' (d'.more (by omega)) hle (by omega) K7)
  refine ap (fun J3=> ∀h8 s2 X2 q2 nd,MG X2 {M' with no:=s2} {m' with nodes:=m'.nodes++ [nd]}->bW nd.sort=true->nd.name.size=0->q2<=p+i*1000+2->
   Kn g h8 ((b41, .inl ⟨[I st.idx,I st.wid],2,false⟩)::(b10, .inl ⟨eA,5,false⟩)::(b8, .inl ⟨aH {M' with no:=s2},5,false⟩)::(B,rdC s q2)::(A++X2))->J3 h8) (fun h8 s2 X2 q2 nd o2 hs2 hn2 hq2 K8=>?_) (fun J3 hJ3=>?_)
  ·have hdi:=d'.inits
   (refine kr_ ?_)
   (refine kr_ ?_)
   refine Kn.al K8 fun b104 h9 K9 l9 hb9=>?_
   refine Wc (H:=_::_::_::_::A) (nd:=⟨i,W ((s2.n:Int)-1)⟩) o2 K9 (by dsimp only;omega) (.tail _ (.tail _ (.head _))) fun s3 X3 h10 o3 KF=>?_
   have K10:=KF _ (by((focus ((repeat first|exact .head|apply Upd.tail);done))))
   simp only [List.cons_append]at K10
   clear KF K9 K8 K7
   refine hJ2 h10 q2 X3 _ _ o3 (((d'.addN hs2 (by omega)).addI _).more (by omega)) (by simp;omega) hq2 K10
  obtain⟨w,hw⟩: ∃w:Nat,st.wid=w:=⟨st.wid.toNat,by omega⟩
  have hp2:0<2^w:=Nat.two_pow_pos w
  have fin: ∀(y:Nat) (h5 h6:Hp) (q2 b:Nat),q2<=p+i*1000+2->
    Kn g h6 ((b, .inl ⟨[I 34,I 0,I 0,I 0,I (Int.tmod y (2^w:Nat)),I 0,I 0,I st.wid, .string ⟨#[]⟩],9,false⟩)::(b41, .inl ⟨[I st.idx,I st.wid],2,false⟩)::(b10, .inl ⟨eA,5,false⟩)::(b8, .inl ⟨aH M',5,false⟩)::(B,rdC s q2)::(A++X'))->
    cy h6 M'.no.a M'.no.n M'.no.c (some (Addr.mk b 0 none)) 1 9 80 fun a92 n93 k94 h95=> ∃(cs96:List Value) (z97:Nat),h95 b8=some (.inl ⟨cs96,z97,false⟩)/\0+1<=List.length cs96/\cM (h95.row b8 (bX cs96 0 [(.slice a92 n93 k94)]) z97) fun h98=>J3 h98:=by
   intro y h5 h6 q2 b hq2 K6
   refine nA (H:=_::_::_::_::A) (nd:=⟨34,0,0,0,Int.tmod y (2^w:Nat),0,cR st.wid,⟨#[]⟩⟩) o' K6 (by omega) (.tail _ (.tail _ (.head _))) fun s2 X2 h8 o2 KF=>?_
   have K8:=KF _ (by((focus ((repeat first|exact .head|apply Upd.tail);done))))
   simp only [List.cons_append]at K8
   exact hJ3 h8 s2 X2 q2 _ o2 (qF hw1 hw2) rfl hq2 K8
  repeat' (refine kr_ ?_)
  refine⟨?_,?_⟩
  ·refine kp_ ?_
   intro y h8 K8 hy _
   refine⟨_,rfl,?_⟩
   repeat' (refine kr_ ?_)
   refine⟨?_,?_⟩
   ·repeat' (refine kr_ ?_)
    rw [hw,cZ (by omega),if_neg (by omega),cw (by omega),if_neg (by omega),<-hw]
    refine cm ⟨_,_,rfl,?_⟩
    repeat' (refine kr_ ?_)
    refine Kn.al K8 fun b90 h9 K9 l9 hb90=>?_
    (refine kr_ ?_)
    exact fin y h8 h9 _ b90 (by omega) K9
   ·repeat' (refine kr_ ?_)
    refine cm ⟨_,_,rfl,?_⟩
    repeat' (refine kr_ ?_)
    rw [hw,cZ (by omega),if_neg (by omega),cw (by omega),if_neg (by omega),<-hw]
    refine Kn.al K8 fun b90 h9 K9 l9 hb90=>?_
    (refine kr_ ?_)
    exact fin y h8 h9 _ b90 (by omega) K9
  ·repeat' (refine kr_ ?_)
   rw [hw,cZ (by omega),if_neg (by omega),cw (by omega),<-hw]
   refine kp_ ?_
   intro y h8 K8 hy _
   refine⟨_,rfl,?_⟩
   repeat' (refine kr_ ?_)
   rw [if_neg (by omega)]
   refine cm ⟨_,_,rfl,?_⟩
   repeat' (refine kr_ ?_)
   refine Kn.al K8 fun b90 h9 K9 l9 hb90=>?_
   (refine kr_ ?_)
   exact fin y h8 h9 _ b90 (by omega) K9
 clear K7 h7 hsm' hdn' hl' hq d' o' hle X' M' m' q
 have hl':=o2.lens
 have hdn':=d2.nodes
 have hsm':=d2.small (by omega)
 refine kp_ ?_
 intro x118 h9 K9 _ _
 refine⟨_,rfl,?_⟩
 refine ad (fun _=>hJ h9 _ X2 M2 m2 o2 (d2.more (by omega)) hl2 (by omega) K9.tl) (fun _=>?_)
 clear K8
 refine au m2.nodes.length (fun j vs h'=> ∃(a q:Nat),vs= [.pointer (some ⟨B,0,none⟩), .pointer (some ⟨b8,0,none⟩), .pointer (some ⟨b10,0,none⟩),I (M.no.n:Nat),I i, .pointer (some ⟨b41,0,none⟩),I a,I j]/\a<m2.nodes.length/\q<=p+i*1000+3+j/\
  Kn g h' ((b41, .inl ⟨[I st.idx,I st.wid],2,false⟩)::(b10, .inl ⟨eA,5,false⟩)::(b8, .inl ⟨aH M2,5,false⟩)::(B,rdC s q)::(A++X2))) ⟨i,_,rfl,by omega,by omega,K9⟩ ?_
 clear K9 h9 h8 hq2
 rintro j _ h8 nxt hj ⟨a,q,rfl,haL,hq,K8⟩ hnx
 refine⟨_,b8,0,b10,0,_,_,b41,0,_,_,rfl,?_⟩
 have hs:=o2.modelS (A:=_::_::_::_::A) hsm' K8
 (refine kr_ ?_)
 by_cases hlj:j<m2.nodes.length
 ·refine aM (by rw [decide_eq_true_eq];omega) ?_
  refine ap (fun J3=> ∀(c:Nat) h5 q,c<m2.nodes.length->q<=p+i*1000+3+(j+1)->Kn g h5 ((b41, .inl ⟨[I st.idx,I st.wid],2,false⟩)::(b10, .inl ⟨eA,5,false⟩)::(b8, .inl ⟨aH M2,5,false⟩)::(B,rdC s q)::(A++X2))->J3 (c:Int) h5) (fun c h5 q' hc hq' K5=>?_) (fun J3 hJ3=>?_)
  ·rw [ay (by omega)]
   exact hnx hlj _ _ ⟨c,q',rfl,hc,hq',K5⟩
  ·(refine kr_ ?_)
   obtain⟨nj,hnj⟩: ∃n,m2.nodes[j]?=some n:=⟨_,List.getElem?_eq_getElem hlj⟩
   obtain⟨b,oo,ha,e0,e1,e2,e3,e4,e5,e6,e7,e8⟩:=hs.nodes.at hnj
   refine⟨b,oo,ha,by omega,by omega,_,by rw [Int.toNat_natCast];exact e6,_,by rw [Int.toNat_natCast];exact e7,?_⟩
   (refine kr_ ?_)
   (refine kr_ ?_)
   refine ad (fun e=>?_) (fun e=>?_)
   ·(refine kr_ ?_)
    refine⟨b,oo,ha,by omega,by omega,_,by rw [Int.toNat_natCast];exact e0,?_⟩
    refine ad (fun e=>?_) (fun e=>?_)
    ·refine ad (fun e=>?_) (fun e=>?_)
     ·exact hJ3 _ h8 q hlj (by omega) K8
     refine kp_ ?_
     intro x h5 K5 hx _
     refine⟨_,rfl,?_⟩
     exact ad (fun e=>hJ3 _ h5 (q+1) hlj (by omega) K5) (fun e=>hJ3 _ h5 (q+1) haL (by omega) K5)
    ·exact hJ3 _ h8 q haL (by omega) K8
   ·exact hJ3 _ h8 q haL (by omega) K8
 refine aC (by rw [decide_eq_false_iff_not];omega) ?_
 clear hnx hs
 refine ap (fun J3=> ∀(c:Bool) h5 q,q<=p+i*1000+4+m2.nodes.length->Kn g h5 ((b41, .inl ⟨[I st.idx,I st.wid],2,false⟩)::(b10, .inl ⟨eA,5,false⟩)::(b8, .inl ⟨aH M2,5,false⟩)::(B,rdC s q)::(A++X2))->J3 c h5) (fun c h5 q' hq' K5=>?_) (fun J3 hJ3=>?_)
 rotate_left
 ·refine ad (fun e=>?_) (fun e=>hJ3 _ h8 q (by omega) K8)
  repeat' (refine kr_ ?_)
  refine ad (fun e=>?_) (fun e=>hJ3 _ h8 q (by omega) K8)
  refine kp_ ?_
  intro x h5 K5 hx _
  exact⟨_,rfl,hJ3 _ h5 (q+1) (by omega) K5⟩
 clear K8 hq q h8
 refine ap (fun J3=> ∀(x:Int) h5 q X3 M3 m3,MG X3 M3 m3->DM m3 (N+5*i+4)->m.nodes.length<=m3.nodes.length->q<=p+i*1000+4+m2.nodes.length->Kn g h5 ((b41, .inl ⟨[I st.idx,I st.wid],2,false⟩)::(b10, .inl ⟨eA,5,false⟩)::(b8, .inl ⟨aH M3,5,false⟩)::(B,rdC s q)::(A++X3))->J3 x h5)
  (fun x h6 q X3 M3 m3 o3 d3 hl3 hq3 K6=>?_) (fun J3 hJ3=>?_)
 ·have hde:=d3.nexts
  (refine kr_ ?_)
  refine Kn.al K6 fun b202 h9 K9 l9 hb9=>?_
  refine VU (H:=_::_::_::_::A) (nd:=⟨i,x⟩) o3 K9 (by omega) (.tail _ (.tail _ (.head _))) fun s3 X4 h10 o4 KF=>?_
  have K10:=KF _ (by((focus ((repeat first|exact .head|apply Upd.tail);done))))
  simp only [List.cons_append]at K10
  exact hJ h10 q X4 _ _ o4 ((d3.addE _).more (by omega)) (by simp;omega) (by omega) K10.tl
 refine ad (fun e=>?_) (fun e=>hJ3 _ h5 q' X2 M2 m2 o2 (d2.more (by omega)) hl2 (by omega) K5)
 repeat' (refine kr_ ?_)
 refine Kn.al K5 fun b173 h6 K6 l6 hb6=>?_
 refine nA (H:=_::_::_::_::A) (nd:=⟨34,0,0,0,1,0,st,⟨#[]⟩⟩) o2 K6 (by omega) (.tail _ (.tail _ (.head _))) fun s3 X3 h7 o3 KF=>?_
 have K7:=KF _ (by((focus ((repeat first|exact .head|apply Upd.tail);done))))
 simp only [List.cons_append]at K7
 clear KF K6 K5
 repeat' (refine kr_ ?_)
 refine Kn.al K7 fun b187 h8 K8 l8 hb8=>?_
 refine nA (H:=_::_::_::_::A) (nd:=⟨9,i,W ((s3.n:Int)-1),0,0,0,st,⟨#[]⟩⟩) o3 K8 (by simp;omega) (.tail _ (.tail _ (.head _))) fun s4 X4 h9 o4 KF=>?_
 have K9:=KF _ (by((focus ((repeat first|exact .head|apply Upd.tail);done))))
 simp only [List.cons_append]at K9
 clear KF K8 K7
 repeat' (refine kr_ ?_)
 have dA:=d2.addN (n:=⟨34,0,0,0,1,0,st,⟨#[]⟩⟩) hst (show (0:Nat)<=100 by omega)
 have dB:=dA.addN (n:=⟨9,i,W ((s3.n:Int)-1),0,0,0,st,⟨#[]⟩⟩) hst (show (0:Nat)<=100 by omega)
 exact hJ3 _ h9 q' X4 _ _ o4 (dB.more (by omega)) (by simp;omega) (by omega) K9
inductive Pk {α:Type}:List α->α->List α->Prop
 |head {L:List α} {a:α}:Pk (a::L) a L
 |tail {L L':List α} {a e:α}:Pk L a L'->Pk (e::L) a (e::L')
theorem Pk.perm {α:Type} {L L':List α} {a:α} (u:Pk L a L'):L.Perm (a::L'):=by
 induction u with
 |head=>exact List.Perm.refl _
 |tail _ ih=>exact(List.Perm.cons _ ih).trans (List.Perm.swap ..)
abbrev aim (w:Int):List NodeP:= [⟨36,0,0,0,0,0,⟨0,w⟩,⟨#[120]⟩⟩,⟨34,0,0,0,0,0,⟨0,w⟩,⟨#[]⟩⟩,⟨34,0,0,0,1,0,⟨0,w⟩,⟨#[]⟩⟩,⟨34,0,0,0,3,0,⟨0,w⟩,⟨#[]⟩⟩,⟨35,0,0,0,0,0,⟨0,1⟩,⟨#[103,111]⟩⟩,
 ⟨9,0,2,0,0,0,⟨0,w⟩,⟨#[]⟩⟩,⟨33,4,5,0,0,0,⟨0,w⟩,⟨#[]⟩⟩,⟨21,0,3,0,0,0,⟨0,1⟩,⟨#[]⟩⟩]
abbrev aiY (w:Int):ah:=⟨aim w, [⟨0,1⟩], [⟨0,6⟩], [7], []⟩
abbrev aiq (w:Int):List Value:=(aim w).flatMap nodeCells
set_option maxHeartbeats 4000000 in
theorem xL {g h:Hp} {A:List (Nat×Blk)} {B p:Nat} {s:Sl} {bs:List Nat} {R:Value->Hp->Prop} (K:Kn g h ((B,rdC s p)::A)) (hb:ByteS g s bs) (hp:p<=900000)
  (k: ∀h' p' X' M' m',Kn g h' ((B,rdC s p')::(A++X'))->MG X' M' m'->DM m' 8->aG m'=0->0<m'.nodes.length->p'<=p+1->R (aQ M') h'):
  iA #[.pointer (some ⟨B,0,none⟩)] h R:=by
 apply Bf
 refine uf_ ?_
 refine Kn.al K fun b3 h1 K1 l1 hb3=>?_
 clear K l1 hb3
 refine kp_ ?_
 intro x h2 K2 hx _
 refine⟨_,rfl,?_⟩
 have hx':x<2:=by have:=hx (by omega);omega
 clear K1
 refine cm ⟨_,_,rfl,?_⟩
 refine Kn.al K2 fun b14 h3 K3 l3 hb14=>?_
 refine kw_ ?_
 intro h4 K4 kpz
 clear kpz
 obtain⟨w,hw,hw2⟩: ∃w:Int,W (2+(x:Int))=w/\(w=2\/w=3):=⟨_,rfl,by rw [cd (by omega) (by omega)];omega⟩
 rw [hw]at K4
 have K4':Kn g h4 ((b14, .inl ⟨[I 0,I w],2,false⟩)::(b3, .inl ⟨eA,5,false⟩)::(B,rdC s (p+1))::A):=K4
 clear K4 K3 K2
 refine ap (fun J=> ∀h5 (bN bI bE bB:Nat),Kn g h5 ((bN, .inl ⟨aiq w,72,false⟩)::(bI, .inl ⟨[I 0,I 1],2,false⟩)::(bE, .inl ⟨[I 0,I 6],2,false⟩)::(bB, .inl ⟨[I 7],1,false⟩)::(b14, .inl ⟨[I 0,I w],2,false⟩)::
   (b3, .inl ⟨aH ⟨⟨some ⟨bN,0,none⟩,8,8⟩,⟨some ⟨bI,0,none⟩,1,1⟩,⟨some ⟨bE,0,none⟩,1,1⟩,⟨some ⟨bB,0,none⟩,1,1⟩,⟨none,0,0⟩⟩,5,false⟩)::(B,rdC s (p+1))::A)->J h5) (fun h5 bN bI bE bB K5=>?_) (fun J hJ=>?_)
 ·clear K4'
  repeat' (refine kr_ ?_)
  have K6:=(K5.perm (List.perm_append_comm (l₁:= [_,_,_,_]) (l₂:=_::_::_::A))).tl.tl
  refine k h5 (p+1) _ ⟨⟨some ⟨bN,0,none⟩,8,8⟩,⟨some ⟨bI,0,none⟩,1,1⟩,⟨some ⟨bE,0,none⟩,1,1⟩,⟨some ⟨bB,0,none⟩,1,1⟩,⟨none,0,0⟩⟩ (aiY w) K6 ?_ ?_ ?_ ?_ (Nat.le_refl _)
  ·exact⟨[_], [_], [_], [_], [],rfl,⟨rfl,Nat.le_refl _, .inr ⟨bN,rfl,rfl⟩⟩,⟨rfl,Nat.le_refl _, .inr ⟨bI,rfl,rfl⟩⟩,⟨rfl,Nat.le_refl _, .inr ⟨bE,rfl,rfl⟩⟩,⟨rfl,Nat.le_refl _, .inr ⟨bB,rfl,rfl⟩⟩,cF 1⟩
  ·refine⟨Nat.le_refl _,?_,?_,show (1:Nat)<=8 by omega,show (1:Nat)<=8 by omega,show (1:Nat)<=8 by omega,show (0:Nat)<=8 by omega⟩
   ·rcases hw2 with rfl|rfl<;>decide
   ·rcases hw2 with rfl|rfl<;>decide
  ·rcases hw2 with rfl|rfl<;>decide
  ·exact Nat.succ_pos _
 have leaf: ∀h5 L L1 L2 L3 (bN bI bE bB:Nat),Kn g h5 L->Pk L (bN, .inl ⟨aiq w,72,false⟩) L1->Pk L1 (bI, .inl ⟨[I 0,I 1],2,false⟩) L2->Pk L2 (bE, .inl ⟨[I 0,I 6],2,false⟩) L3->
   Pk L3 (bB, .inl ⟨[I 7],1,false⟩) ((b14, .inl ⟨[I 0,I w],2,false⟩)::(b3, .inl ⟨eA,5,false⟩)::(B,rdC s (p+1))::A)->
   ∃(cs:List Value) (z:Nat),h5 b3=some (.inl ⟨cs,z,false⟩)/\0+5<=List.length cs/\cM (h5.row b3 (bX cs 0 [.slice (some ⟨bN,0,none⟩) 8 8, .slice (some ⟨bI,0,none⟩) 1 1, .slice (some ⟨bE,0,none⟩) 1 1, .slice (some ⟨bB,0,none⟩) 1 1, .slice none 0 0]) z) fun h'=>J h':=by
  intro h5 L L1 L2 L3 bN bI bE bB K p1 p2 p3 p4
  have K':=K.perm (p1.perm.trans (List.Perm.cons _ (p2.perm.trans (List.Perm.cons _ (p3.perm.trans (List.Perm.cons _ p4.perm))))))
  refine vY (M':=⟨⟨some ⟨bN,0,none⟩,8,8⟩,⟨some ⟨bI,0,none⟩,1,1⟩,⟨some ⟨bE,0,none⟩,1,1⟩,⟨some ⟨bB,0,none⟩,1,1⟩,⟨none,0,0⟩⟩) K' (by((focus ((repeat first|exact .head|apply Upd.tail);done)))) rfl fun h6 K6=>?_
  exact hJ h6 bN bI bE bB K6
 clear k hJ hw2 hw hx' hx
 repeat' (refine kr_ ?_)
 repeat' first
  |(refine kr_ ?_)
  |refine cm ⟨_,_,rfl,?_⟩
  |((with_reducible apply Kn.al);(assumption);(intro b hN KN lN hbN))
  |(refine leaf _ _ _ _ _ _ _ _ _ (by assumption) (by((focus ((repeat first|exact .head|apply Pk.tail);done)))) (by((focus ((repeat first|exact .head|apply Pk.tail);done)))) (by((focus ((repeat first|exact .head|apply Pk.tail);done)))) (by((focus ((repeat first|exact .head|apply Pk.tail);done)))))
  |refine⟨?_,?_⟩
theorem Kn.subl {g h:Hp} {L L':List (Nat×Blk)} (K:Kn g h L) (s:L'.Sublist L):Kn g h L':=K.sub (fun e he=>s.subset he) (List.Nodup.sublist (s.map _) K.nd)
theorem IQ {g h:Hp} {L:List (Nat×Blk)} {s:Sl} {bs:List Nat} {R:Value->Hp->Prop} (K:Kn g h L) (hcap:s.n<=s.c) (hs:ByteS g s bs)
  (k: ∀B h' s' bs',ByteS g s' bs'->Kn g h' ((B,rdC s' 0)::L)->R (.pointer (some ⟨B,0,none⟩)) h'):jK #[s.v] h R:=by
 apply Bq
 refine uf_ ?_
 have hl:=hs.len
 refine ad (fun e=>?_) (fun e=>?_)
 ·have e':2000<s.n:=by simp at e;omega
  obtain⟨b,o,ha,hc⟩:=SlC.get hs.1 (by omega)
  refine⟨by simp,by simp,by omega, .inr ⟨b,o,ha,?_⟩⟩
  refine Kn.al K fun B h1 K1 l1 hB=>?_
  have e0:(if s.c=(Int.ofNat 0).toNat then o else o+(Int.ofNat 0).toNat*1)=o:=by split<;>simp
  rw [e0]at K1
  refine k B h1 ⟨some ⟨b,o,none⟩,2000,s.c⟩ (bs.take 2000) ?_ K1
  refine⟨⟨by simp,by simp;omega, .inr ⟨b,o,rfl,?_⟩⟩,fun x hx=>hs.2 x (List.mem_of_mem_take hx)⟩
  intro i v hv
  refine hc i v ?_
  rw [List.map_take,List.getElem?_take]at hv
  split at hv
  ·exact hv
  ·cases hv
 ·refine Kn.al K fun B h1 K1 l1 hB=>?_
  exact k B h1 s bs hs K1
theorem CV {α:Type} (a b c:α) (L:List α):(a::b::c::L).Perm (c::a::b::L):=(List.Perm.cons a (List.Perm.swap c b L)).trans (List.Perm.swap c a _)
set_option maxHeartbeats 2000000 in
theorem LD {g h:Hp} {A:List (Nat×Blk)} {B p:Nat} {s:Sl} {bs:List Nat} {R:Value->Hp->Prop} (K:Kn g h ((B,rdC s p)::A)) (hb:ByteS g s bs) (hp:p<=10000)
  (k: ∀h' p' X' M' m',Kn g h' ((B,rdC s p')::(A++X'))->MG X' M' m'->DM m' 400->aG m'=0->0<m'.nodes.length->p'<=p+100000->R (aQ M') h'):
  my #[.pointer (some ⟨B,0,none⟩)] h R:=by
 apply E2
 refine uf_ ?_
 refine Kn.al K fun b3 h1 K1 l1 hb3=>?_
 clear K l1 hb3
 refine kp_ ?_
 intro x h2 K2 _ _
 refine⟨_,rfl,?_⟩
 clear K1
 refine Qy (A:=(b3, .inl ⟨eA,5,false⟩)::A) K2.sw hb (by omega) fun h3 p3 X3 M3 m3 K3 o3 d3 n3 hp3=>⟨_,_,_,_,_,rfl,?_⟩
 replace K3:Kn g h3 ((b3, .inl ⟨eA,5,false⟩)::(B,rdC s p3)::(A++X3)):=K3.sw
 clear K2
 refine Kn.al K3 fun b16 h4 K4 l4 hb16=>?_
 clear K3 l4 hb16
 refine vY (M':=M3) K4 (by((focus ((repeat first|exact .head|apply Upd.tail);done)))) rfl fun h5 K5=>?_
 clear K4
 refine kp_ ?_
 intro n h6 K6 hn _
 refine⟨_,rfl,?_⟩
 replace hn:n<14:=by have:=hn (by omega);omega
 clear K5
 refine au n (fun i vs h'=> ∃q X' M' m',vs= [.pointer (some ⟨B,0,none⟩), .pointer (some ⟨b3,0,none⟩), .pointer (some ⟨b16,0,none⟩),I n,I i]/\MG X' M' m'/\DM m' (12+3*i)/\0<m'.nodes.length/\q<=p+100+i*20/\
  Kn g h' ((b16, .inl ⟨aH M',5,false⟩)::(b3, .inl ⟨eA,5,false⟩)::(B,rdC s q)::(A++X'))) ⟨p3+1,X3,M3,m3,rfl,o3,d3,n3,by omega,K6⟩ ?_
 clear K6 hp3 n3 d3 o3 m3 M3 X3 p3 h6 h5 h4 h3 h2 h1 h
 rintro i _ h4 nxt hi ⟨q,X',M',m',rfl,o',d',hle,hq,K4⟩ hnx
 refine⟨_,b3,0,b16,0,_,_,rfl,?_⟩
 by_cases hlt:i<n
 ·refine aM (by rw [decide_eq_true_eq];omega) ?_
  repeat' (refine kr_ ?_)
  refine VF (A:=(b16, .inl ⟨aH M',5,false⟩)::(b3, .inl ⟨eA,5,false⟩)::A) (K4.perm (CV _ _ _ _)) hb o' d' (by omega) hle (by omega) fun h5 q5 X5 M5 m5 K5 o5 d5 n5 hq5=>⟨_,_,_,_,_,rfl,?_⟩
  replace K5:=K5.perm (CV _ _ _ _).symm
  refine vY (M':=M5) K5 (by((focus ((repeat first|exact .head|apply Upd.tail);done)))) rfl fun h6 K6=>?_
  rw [ay (by omega)]
  exact hnx hlt _ _ ⟨q5,X5,M5,m5,rfl,o5,d5.more (by omega),n5,by omega,K6⟩
 refine aC (by rw [decide_eq_false_iff_not];omega) ?_
 clear hnx
 repeat' (refine kr_ ?_)
 refine UB (N:=51) (A:=(b16, .inl ⟨aH M',5,false⟩)::(b3, .inl ⟨eA,5,false⟩)::A) (K4.perm (CV _ _ _ _)) hb o' (d'.more (by omega)) (by omega) hle (by omega) fun h5 q5 X5 M5 m5 K5 o5 d5 n5 hq5=>⟨_,_,_,_,_,rfl,?_⟩
 replace K5:=K5.perm (CV _ _ _ _).symm
 clear K4
 refine vY (M':=M5) K5 (by((focus ((repeat first|exact .head|apply Upd.tail);done)))) rfl fun h6 K6=>?_
 clear K5
 refine kp_ ?_
 intro x76 h7 K7 hx76 _
 refine⟨_,rfl,?_⟩
 clear K6
 refine kp_ ?_
 intro x80 h8 K8 _ _
 refine⟨_,rfl,?_⟩
 clear K7
 refine ap (fun J=> ∀c:Nat,c<=2->J (c:Int)) (fun c hc=>?_) (fun J hJ=>?_)
 rotate_left
 ·refine ad (fun _=>hJ 0 (by omega)) (fun _=>?_)
  have:=hx76 (by omega)
  rw [show (1:Int)+(x76:Nat)=((1+x76:Nat):Int) by omega,fV (by omega)]
  exact hJ _ (by omega)
 refine au c (fun i vs h'=> ∃q X' M' m',vs= [.pointer (some ⟨B,0,none⟩), .pointer (some ⟨b3,0,none⟩), .pointer (some ⟨b16,0,none⟩),I c,I i]/\MG X' M' m'/\DM m' (306+4*i)/\0<m'.nodes.length/\q<=p+51500+i*2000/\
  Kn g h' ((b16, .inl ⟨aH M',5,false⟩)::(b3, .inl ⟨eA,5,false⟩)::(B,rdC s q)::(A++X'))) ⟨_,X5,M5,m5,rfl,o5,d5,n5,by omega,K8⟩ ?_
 clear K8 hq5 n5 d5 o5 m5 M5 X5 q5 h8 h7 h6 h5 hq d' o' hle hx76 hlt hi
 clear M' m' X' q h4 nxt i
 rintro i _ h4 nxt hi ⟨q,X',M',m',rfl,o',d',hle,hq,K4⟩ hnx
 refine⟨_,b3,0,b16,0,_,_,rfl,?_⟩
 by_cases hlt:i<c
 ·refine aM (by rw [decide_eq_true_eq];omega) ?_
  repeat' (refine kr_ ?_)
  refine O9 (A:=(b16, .inl ⟨aH M',5,false⟩)::(b3, .inl ⟨eA,5,false⟩)::A) (K4.perm (CV _ _ _ _)) hb o' d' (by omega) hle (by omega) fun h5 q5 X5 M5 m5 i5 K5 o5 d5 hi5 hl5 hq5=>⟨_,_,_,_,_,_,rfl,?_⟩
  replace K5:=K5.perm (CV _ _ _ _).symm
  clear K4
  refine vY (M':=M5) K5 (by((focus ((repeat first|exact .head|apply Upd.tail);done)))) rfl fun h6 K6=>?_
  clear K5
  have hdb:=d5.bads
  (refine kr_ ?_)
  refine Kn.al K6 fun b119 h7 K7 l7 hb7=>?_
  refine acf (H:=_::_::_::A) (nd:=(i5:Nat)) o5 K7 (by omega) (.head _) fun s8 X8 h8 o8 KF=>?_
  have K8:=KF _ (by((focus ((repeat first|exact .head|apply Upd.tail);done))))
  simp only [List.cons_append]at K8
  rw [ay (by omega)]
  exact hnx hlt _ _ ⟨q5,X8,_,_,rfl,o8,(d5.addB _).more (by omega),by dsimp only;omega,by omega,K8⟩
 refine aC (by rw [decide_eq_false_iff_not];omega) ?_
 clear hnx
 refine kp_ ?_
 intro x132 h5 K5 _ _
 refine⟨_,rfl,?_⟩
 clear K4
 refine ap (fun J=> ∀h5 q X' M' m',MG X' M' m'->DM m' 400->0<m'.nodes.length->q<=p+60000->Kn g h5 ((b16, .inl ⟨aH M',5,false⟩)::(b3, .inl ⟨eA,5,false⟩)::(B,rdC s q)::(A++X'))->J h5)
  (fun h5 q X' M' m' o' d' hle hq K5=>?_) (fun J hJ=>?_)
 ·have hs:=o'.modelS (A:=_::_::_::A) (d'.small (by omega)) K5
  repeat' (refine kr_ ?_)
  refine cj hs (d'.small (by omega)) ⟨_,rfl,?_⟩
  refine ad (fun e=>?_) (fun e=>?_)
  ·refine xL (A:=(b3, .inl ⟨eA,5,false⟩)::(A++X')) K5.tl.sw hb (by omega) fun h6 q6 X6 M6 m6 K6 o6 d6 c6 n6 hq6=>⟨_,_,_,_,_,rfl,?_⟩
   replace K6:Kn g h6 ((b3, .inl ⟨eA,5,false⟩)::(B,rdC s q6)::((A++X')++X6)):=K6.sw
   refine GG (M:=M6) K6 (by((focus ((repeat first|exact .head|apply Upd.tail);done)))) fun h7 K7=>?_
   refine k h7 q6 X6 M6 m6 (K7.tl.subl ?_) o6 (d6.more (by omega)) c6 n6 (by omega)
   exact List.Sublist.cons_cons _ (List.Sublist.append_right (List.sublist_append_left _ _) _)
  ·repeat' (refine kr_ ?_)
   refine GG (M:=M') K5 (by((focus ((repeat first|exact .head|apply Upd.tail);done)))) fun h7 K7=>?_
   exact k h7 q X' M' m' K7.tl.tl o' d' (by simpa using e) hle (by omega)
 refine ad (fun e=>?_) (fun e=>hJ _ _ _ _ _ o' (d'.more (by omega)) hle (by omega) K5)
 repeat' (refine kr_ ?_)
 refine O9 (A:=(b16, .inl ⟨aH M',5,false⟩)::(b3, .inl ⟨eA,5,false⟩)::A) (K5.perm (CV _ _ _ _)) hb o' d' (by omega) hle (by omega) fun h6 q6 X6 M6 m6 i6 K6 o6 d6 hi6 hl6 hq6=>⟨_,_,_,_,_,_,rfl,?_⟩
 replace K6:=K6.perm (CV _ _ _ _).symm
 clear K5
 refine vY (M':=M6) K6 (by((focus ((repeat first|exact .head|apply Upd.tail);done)))) rfl fun h7 K7=>?_
 clear K6
 refine kp_ ?_
 intro x155 h8 K8 _ _
 refine⟨_,rfl,?_⟩
 clear K7
 refine ap (fun J2=> ∀(y:Int) h5 q X' M' m',MG X' M' m'->DM m' 330->0<m'.nodes.length->q<=p+60000->Kn g h5 ((b16, .inl ⟨aH M',5,false⟩)::(b3, .inl ⟨eA,5,false⟩)::(B,rdC s q)::(A++X'))->J2 y h5)
  (fun y h9 q9 X9 M9 m9 o9 d9 hle9 hq9 K9=>?_) (fun J2 hJ2=>?_)
 ·have hdh:=d9.holds
  (refine kr_ ?_)
  refine Kn.al K9 fun b119 h10 K10 l10 hb10=>?_
  refine WG (H:=_::_::_::A) (nd:=y) o9 K10 (by omega) (.head _) fun s8 X8 h8 o8 KF=>?_
  have K11:=KF _ (by((focus ((repeat first|exact .head|apply Upd.tail);done))))
  simp only [List.cons_append]at K11
  exact hJ _ _ _ _ _ o8 ((d9.addH _).more (by omega)) (by dsimp only;omega) (by omega) K11
 refine ad (fun e=>?_) (fun e=>hJ2 _ _ _ _ _ _ o6 (d6.more (by omega)) (by omega) (by omega) K8)
 have hdn:=d6.nodes
 (refine kr_ ?_)
 refine cm ⟨_,_,rfl,?_⟩
 repeat' (refine kr_ ?_)
 refine Kn.al K8 fun b163 h9 K9 l9 hb9=>?_
 (refine kr_ ?_)
 refine nA (H:=_::_::_::A) (nd:=⟨1,(i6:Nat),0,0,0,0,cR 1,⟨#[]⟩⟩) o6 K9 (by omega) (.head _) fun s10 X10 h10 o10 KF=>?_
 have K10:=KF _ (by((focus ((repeat first|exact .head|apply Upd.tail);done))))
 simp only [List.cons_append]at K10
 clear K9 K8
 repeat' (refine kr_ ?_)
 have dA:=d6.addN (n:=⟨1,(i6:Nat),0,0,0,0,cR 1,⟨#[]⟩⟩) (qF (by omega) (by omega)) (show (0:Nat)<=100 by omega)
 exact hJ2 _ _ _ _ _ _ o10 (dA.more (by omega)) (by simp) (by omega) K10
theorem Ia {h:Hp} {s:Sl} {bs:List Nat} {R:Value->Hp->Prop} (hcap:s.n<=s.c) (hs:ByteS h s bs)
  (k: ∀h' M m,h.le h'->aO h' M m->bT m->aG m=0->R (aQ M) h'):rR #[s.v] h R:=by
 apply GJ
 refine uf_ ?_
 (with_reducible apply Kn.al);(exact Kn.nil h);(intro b3 h1 K1 l1 hb3)
 refine IQ K1 hcap hs fun B h2 s' bs' hb K2=>⟨_,rfl,?_⟩
 clear K1
 refine kp_ ?_
 intro x h3 K3 _ _
 refine⟨_,rfl,?_⟩
 refine ad (fun e=>?_) (fun e=>?_)
 ·refine xL (A:= [(b3, .inl ⟨eA,5,false⟩)]) K3 hb (by omega) fun h6 q6 X6 M6 m6 K6 o6 d6 c6 n6 hq6=>⟨_,_,_,_,_,rfl,?_⟩
  replace K6:Kn h h6 ((b3, .inl ⟨eA,5,false⟩)::(B,rdC s' q6)::X6):=K6.sw
  refine GG (M:=M6) K6 (by((focus ((repeat first|exact .head|apply Upd.tail);done)))) fun h7 K7=>?_
  exact k h7 M6 m6 K7.le (o6.modelS (A:= [_,_]) (d6.small (by omega)) K7) (d6.small (by omega)) c6
 ·refine LD (A:= [(b3, .inl ⟨eA,5,false⟩)]) K3 hb (by omega) fun h6 q6 X6 M6 m6 K6 o6 d6 c6 n6 hq6=>⟨_,_,_,_,_,rfl,?_⟩
  replace K6:Kn h h6 ((b3, .inl ⟨eA,5,false⟩)::(B,rdC s' q6)::X6):=K6.sw
  refine GG (M:=M6) K6 (by((focus ((repeat first|exact .head|apply Upd.tail);done)))) fun h7 K7=>?_
  exact k h7 M6 m6 K7.le (o6.modelS (A:= [_,_]) (d6.small (by omega)) K7) (d6.small (by omega)) c6
theorem wJ {h:Hp} {s t:Sl} {xs:List Int} {R:Value->Hp->Prop} (hs:IntS h s xs) (ht:IntS h t xs) (k:R (.bool true) h):kg #[s.v,t.v] h R:=by
 refine C4 ?_
 refine uf_ ?_
 have ls:=hs.len
 have lt:=ht.len
 have hb:=hs.bound
 refine aC (by simp [ls,lt]) ?_
 refine au xs.length (fun i vs h'=>vs= [s.v,t.v,I i]/\h'=h) ⟨rfl,rfl⟩ ?_
 rintro i _ _ next hi ⟨rfl,rfl⟩ hn
 refine⟨_,_,_,rfl,?_⟩
 by_cases hlt:i<xs.length
 ·obtain⟨b,o,ha,hc⟩:=hs.at hlt
  obtain⟨b',o',ha',hc'⟩:=ht.at hlt
  refine aM (by simp [ls,hlt]) ?_
  simp only [vm,ls,lt,ha,ha',hc,hc',ay (n:=i) (by omega)]
  exact⟨by omega,by omega,aC (by simp) (hn hlt _ _ ⟨rfl,rfl⟩)⟩
 ·exact aC (by simp [ls];omega) k
structure DZ (m:ah) (N:Nat):Prop where
 nodes:m.nodes.length<=N
 names: ∀n∈m.nodes,n.name.size<=100
 inits:m.inits.length<=N
 nexts:m.nexts.length<=N
 bads:m.bads.length<=N
 holds:m.holds.length<=N
theorem DZ.small {m:ah} {N:Nat} (d:DZ m N) (hN:N<=100000):bT m:=
 ⟨by have:=d.nodes;omega,by have:=d.inits;omega,by have:=d.nexts;omega,by have:=d.bads;omega,by have:=d.holds;omega,fun n hn=>by have:=d.names n hn;omega⟩
theorem DZ.more {m:ah} {N N':Nat} (d:DZ m N) (h:N<=N'):DZ m N':=
 ⟨Nat.le_trans d.nodes h,d.names,Nat.le_trans d.inits h,Nat.le_trans d.nexts h,Nat.le_trans d.bads h,Nat.le_trans d.holds h⟩
theorem DZ.addN {m:ah} {N:Nat} (d:DZ m N) {n:NodeP} (h2:n.name.size<=100):DZ {m with nodes:=m.nodes++ [n]} (N+1):=
 ⟨by have:=d.nodes;simp;omega,fun x hx=>by rcases List.mem_append.1 hx with hx|hx;exact d.names x hx;rw [List.mem_singleton.1 hx];exact h2,
  Nat.le_succ_of_le d.inits,Nat.le_succ_of_le d.nexts,Nat.le_succ_of_le d.bads,Nat.le_succ_of_le d.holds⟩
theorem DZ.set {m:ah} {N i:Nat} (d:DZ m N) {n:NodeP} (h2:n.name.size<=100):DZ {m with nodes:=m.nodes.set i n} N:=
 ⟨by have:=d.nodes;simp;omega,fun x hx=>by rcases List.mem_or_eq_of_mem_set hx with hx|rfl;exact d.names x hx;exact h2,d.inits,d.nexts,d.bads,d.holds⟩
theorem DZ.addI {m:ah} {N:Nat} (d:DZ m N) (x:BindP):DZ {m with inits:=m.inits++ [x]} (N+1):=
 ⟨Nat.le_succ_of_le d.nodes,d.names,by have:=d.inits;simp;omega,Nat.le_succ_of_le d.nexts,Nat.le_succ_of_le d.bads,Nat.le_succ_of_le d.holds⟩
theorem DZ.addE {m:ah} {N:Nat} (d:DZ m N) (x:BindP):DZ {m with nexts:=m.nexts++ [x]} (N+1):=
 ⟨Nat.le_succ_of_le d.nodes,d.names,Nat.le_succ_of_le d.inits,by have:=d.nexts;simp;omega,Nat.le_succ_of_le d.bads,Nat.le_succ_of_le d.holds⟩
theorem DZ.addB {m:ah} {N:Nat} (d:DZ m N) (xs:List Int) (hx:xs.length<=N):DZ {m with bads:=m.bads++xs} (2*N):=
 ⟨by have:=d.nodes;dsimp only;omega,d.names,by have:=d.inits;dsimp only;omega,by have:=d.nexts;dsimp only;omega,by have:=d.bads;simp;omega,by have:=d.holds;dsimp only;omega⟩
theorem DZ.addH {m:ah} {N:Nat} (d:DZ m N) (x:Int):DZ {m with holds:=m.holds++ [x]} (N+1):=
 ⟨Nat.le_succ_of_le d.nodes,d.names,Nat.le_succ_of_le d.inits,Nat.le_succ_of_le d.nexts,Nat.le_succ_of_le d.bads,by have:=d.holds;simp;omega⟩
theorem Fm {m:ah} {s x:Nat} (hs:s<2^ak m.nodes 36):(aZ m).hold ((aZ m).at_ s x)=iG m (bL m s x)/\(aZ m).bad ((aZ m).at_ s x)=(t7 m (bL m s x)).isSome:=by
 have h1:(x*2^ak m.nodes 36+s)%2^ak m.nodes 36=s:=by rw [Nat.mul_add_mod_self_right,Nat.mod_eq_of_lt hs]
 have h2:(x*2^ak m.nodes 36+s)/2^ak m.nodes 36=x:=by
  rw [Nat.mul_comm,Nat.mul_add_div (Nat.two_pow_pos _),Nat.div_eq_of_lt hs,Nat.add_zero]
 constructor
 ·show iG m (bL m ((x*2^ak m.nodes 36+s)%2^ak m.nodes 36) ((x*2^ak m.nodes 36+s)/2^ak m.nodes 36))=_
  rw [h1,h2]
 ·show (t7 m (bL m ((x*2^ak m.nodes 36+s)%2^ak m.nodes 36) ((x*2^ak m.nodes 36+s)/2^ak m.nodes 36))).isSome=_
  rw [h1,h2]
theorem P4 {binds:List BindP} (ag:gQ (binds.map (·.state))=false) {b:BindP} (hb:b∈binds) {p:Nat} (e:b.state=(p:Int)):bO binds p=some b.node.toNat:=by
 cases hx:bO binds p with
 |none=>exact absurd e (Vb hx b hb)
 |some k=>
  obtain⟨b',hb',hs',rfl⟩:=dV hx
  obtain⟨i,hi⟩:=List.getElem?_of_mem hb
  obtain⟨j,hj⟩:=List.getElem?_of_mem hb'
  have key: ∀{i j:Nat} {x y:BindP},binds[i]?=some x->binds[j]?=some y->x.state=y.state-> ¬i<j:= @fun i j x y hi hj e h=>by
   refine G0 ag hj _ ?_ e
   have h1:=get_lt hi
   refine List.mem_of_getElem? (i:=i) ?_
   rw [List.getElem?_take,if_pos h];exact hi
  have h1:=key hi hj (e.trans hs'.symm)
  have h2:=key hj hi (hs'.trans e.symm)
  obtain rfl:i=j:=by omega
  rw [hi]at hj
  rw [Option.some.inj hj]
theorem gR.out {h:Hp} {t:Sl} {vs:List (List Nat)} {X:List (Nat×Blk)} {s:Sl} {ts:List Sl} (e:gR h t vs) (he: ∀p,p<vs.length->0<(vs.getD p []).length) (o:bR X s 1 (ts.map Sl.v)) (m: ∀e∈X,h e.1=some e.2)
  (hts: ∀(j:Nat) (u:Sl),ts[j]?=some u-> ∃ws,(0<vs.length->0<ws.length)/\gR h u ws):gR (h.wo (X.map Prod.fst)) t vs:=by
 rcases o.2.2 with ⟨rfl,_,_⟩|⟨b,_,rfl⟩
 ·exact e.mono fun c x hc=>by simp [Hp.wo,hc]
 have hb:=m _ (.head _)
 have kp: ∀c,c≠b->(h.wo [b]) c=h c:=fun c hc=>by simp [Hp.wo,hc]
 refine⟨e.1,e.2.1,fun p hp=>?_⟩
 obtain⟨b',o',t',h1,h2,h3⟩:=e.2.2 p hp
 refine⟨b',o',t',h1,?_,h3.keepN hb (xR ts) kp⟩
 have hne:b'≠b:=by
  rintro rfl
  rw [ax hb,List.getElem?_map,Option.map_eq_some_iff]at h2
  obtain⟨u,hu,hv⟩:=h2
  obtain⟨ws,hw,hpw⟩:=hts _ u hu
  obtain rfl:u=t':=by
   obtain⟨a1,a2,a3⟩:=u
   obtain⟨c1,c2,c3⟩:=t'
   cases hv;rfl
  obtain⟨b2,o2,u2,g1,g2,_⟩:=hpw.2.2 0 (hw (by omega))
  obtain⟨b3,o3,g3,g4,_⟩:=IntS.elt h3 (i:=0) (he p hp)
  rw [g1]at g3
  cases g3
  rw [g2]at g4
  cases g4
 unfold Hp.cell at h2⊢
 rw [show (Hp.wo h (List.map Prod.fst [(b,(Sum.inl ⟨ts.map Sl.v,s.c*1,false⟩:Blk))])) b'=h b' from kp b' hne]
 exact h2
theorem ql {l:List NodeP} {ps:List Nat} {i p:Nat} (h:ps[i]?=some p):(ct l ps).getD i []=List.replicate (aE l p) 0:=by
 unfold ct
 rw [List.getD_eq_getElem?_getD,List.getElem?_map,h];rfl
theorem bR.one {X:List (Nat×Blk)} {s:Sl} {sz:Nat} {cs:List Value} (o:bR X s sz cs) (hn:s.n≠0): ∃b,s.a=some ⟨b,0,none⟩/\X= [(b, .inl ⟨cs,s.c*sz,false⟩)]:=by
 rcases o.2.2 with ⟨_,rfl,_⟩|h
 ·exact absurd rfl hn
 ·exact h
theorem Kn.ints {g h:Hp} {L:List (Nat×Blk)} {s:Sl} {b z:Nat} {ro:Bool} {xs:List Int} (K:Kn g h L) (m:(b, .inl ⟨xs.map I,z,ro⟩)∈L) (ha:s.a=some ⟨b,0,none⟩) (hn:xs.length=s.n) (hl:s.n<=1000000):IntS h s xs:=
 ⟨by omega,by rw [List.length_map,Nat.mul_one];exact hn, .inr ⟨b,0,ha,aw (K.at m)⟩⟩
theorem Kn.cut {g h:Hp} {A L:List (Nat×Blk)} (K:Kn g h (A++L)): ∃g0,Kn g g0 A/\Kn g0 h L:=by
 have nd:=K.nd
 rw [List.map_append,List.nodup_append]at nd
 have KL:Kn g h L:=K.sub (fun e he=>List.mem_append_right _ he) nd.2.1
 refine⟨h.wo (L.map Prod.fst),⟨KL.leBase,fun e he=>?_,fun e he=>K.new e (List.mem_append_left _ he),nd.1⟩,KL.base⟩
 rw [vV fun hm=>nd.2.2 e.1 (List.mem_map.2 ⟨e,he,rfl⟩) e.1 hm rfl]
 exact K.mem e (List.mem_append_left _ he)
inductive Ord (ns:List Nd):Nat->List Nat->List Nat->Prop
 |leaf {r:Nat} {d:List Nat}:r<2->Ord ns r d d
 |seen {r:Nat} {d:List Nat}:2<=r->r∈d->Ord ns r d d
 |node {r:Nat} {d d1 d2:List Nat} {nd:Nd}:2<=r->r∉d->ns[r-2]?=some nd->Ord ns nd.lo d d1->Ord ns nd.hi d1 d2->Ord ns r d (d2++ [r])
theorem Kn.weak {g g0 h:Hp} {L:List (Nat×Blk)} (K:Kn g0 h L) (l:g.le g0):Kn g h L:=⟨Hp.le_trans l K.le,K.mem,fun e he=>aF l (K.new e he),K.nd⟩
theorem Ord.len {ns:List Nd} {r:Nat} {d o:List Nat} (h:Ord ns r d o):d.length<=o.length:=by
 induction h with
 |leaf=>exact Nat.le_refl _
 |seen=>exact Nat.le_refl _
 |node _ _ _ _ _ i1 i2=>rw [List.length_append];omega
theorem Upd.back {L L':List (Nat×Blk)} {b:Nat} {x y:Blk} (u:Upd L b x y L'): ∀A:List (Nat×Blk),Upd (A++L) b x y (A++L'):=by
 intro A
 induction A with
 |nil=>exact u
 |cons e A ih=>exact .tail ih
structure jd (Xs:List (List (Nat×Blk))) (ts:List Sl) (sz:Nat) (css:List (List Value)):Prop where
 l1:Xs.length=ts.length
 l2:css.length=ts.length
 at_: ∀(k:Nat) X t cs,Xs[k]?=some X->ts[k]?=some t->css[k]?=some cs->bR X t sz cs
theorem vO {α:Type} {Xs:List (List α)} {k:Nat} {X:List α} (h:Xs[k]?=some X):Xs.flatten=(Xs.take k).flatten++(X++(Xs.drop (k+1)).flatten):=by
 have hl:=get_lt h
 rw [List.getElem?_eq_getElem hl]at h
 conv=>lhs;rw [<-List.take_append_drop k Xs,List.flatten_append,List.drop_eq_getElem_cons hl,List.flatten_cons,Option.some.inj h]
theorem KZ {α:Type} {Xs:List (List α)} {k:Nat} (hk:k<Xs.length) (X':List α):(Xs.set k X').flatten=(Xs.take k).flatten++(X'++(Xs.drop (k+1)).flatten):=by
 have h:(Xs.set k X')[k]?=some X':=by rw [List.getElem?_set_self hk]
 rw [vO h,List.take_set_of_le (Nat.le_refl k),List.drop_set_of_lt (by omega)]
theorem jd.set {Xs:List (List (Nat×Blk))} {ts:List Sl} {sz:Nat} {css:List (List Value)} (o:jd Xs ts sz css) (k:Nat) {X:List (Nat×Blk)} {t:Sl} {cs:List Value} (g:bR X t sz cs):jd (Xs.set k X) (ts.set k t) sz (css.set k cs):=by
 refine⟨by simp [o.l1],by simp [o.l2],fun j Y u ds hY hu hd=>?_⟩
 by_cases e:k=j
 ·subst e
  have h1:=get_lt hY
  rw [List.length_set]at h1
  have e1:=o.l1
  have e2:=o.l2
  rw [List.getElem?_set_self h1]at hY
  rw [List.getElem?_set_self (by omega)]at hu hd
  cases hY;cases hu;cases hd
  exact g
 ·rw [List.getElem?_set_ne e]at hY hu hd
  exact o.at_ j Y u ds hY hu hd
theorem jd.get {Xs:List (List (Nat×Blk))} {ts:List Sl} {sz:Nat} {css:List (List Value)} (o:jd Xs ts sz css) {k:Nat} {t:Sl} {cs:List Value} (ht:ts[k]?=some t) (hc:css[k]?=some cs): ∃X,Xs[k]?=some X/\bR X t sz cs:=by
 obtain⟨X,hX⟩: ∃X,Xs[k]?=some X:=⟨_,List.getElem?_eq_getElem (by have:=get_lt ht;have:=o.l1;omega)⟩
 exact⟨X,hX,o.at_ k X t cs hX ht hc⟩
theorem jd.keys {Xs Xs':List (List (Nat×Blk))} {b:Nat} {x y:Blk} {A:List (Nat×Blk)} (u:Upd (A++Xs.flatten) b x y (A++Xs'.flatten)):Xs'.flatten.map Prod.fst=Xs.flatten.map Prod.fst:=by
 have:=u.keys
 rw [List.map_append,List.map_append]at this
 exact List.append_cancel_left this
structure zo (X:List (Nat×Blk)) (s:Sl) (ds:List Bd) (XO:List (Nat×Blk)) (Xs:List (List (Nat×Blk))) (ts:List Sl):Prop where
 eq:X=XO++Xs.flatten
 l1:Xs.length=ts.length
 l2:ds.length=ts.length
 out:bR XO s 3 ((ts.zip ds).flatMap fun e=> [I e.2.v,e.1.v,I e.2.r])
 inn: ∀(k:Nat) Y t d,Xs[k]?=some Y->ts[k]?=some t->ds[k]?=some d->mv Y t 3 (cW d.ns)
theorem IntS.woN {h:Hp} {t:Sl} {xs:List Int} {L:List (Nat×Blk)} (e:IntS h t xs) (m: ∀x∈L,h x.1=some x.2) (hn: ∀x∈L,∃cs z ro,x.2= .inl ⟨cs,z,ro⟩/\xV cs):IntS (h.wo (L.map Prod.fst)) t xs:=by
 refine⟨e.1,e.2.1,?_⟩
 rcases e.2.2 with h0|⟨b,o,ha,hc⟩
 ·exact .inl h0
 by_cases hx:xs= []
 ·subst hx
  exact .inl (by have:=e.len;simpa using this)
 refine .inr ⟨b,o,ha,fun i v hv=>?_⟩
 have hne:b∉L.map Prod.fst:=by
  intro hm
  obtain⟨y,hy,rfl⟩:=List.mem_map.1 hm
  obtain⟨cs,z,ro,hr,hno⟩:=hn y hy
  have hb:=m y hy
  rw [hr]at hb
  obtain⟨x,xs',rfl⟩:=List.exists_cons_of_ne_nil hx
  have:=hc 0 (I x) rfl
  rw [ax hb]at this
  exact hno _ _ this
 have:=hc i v hv
 unfold Hp.cell at this⊢
 rw [vV hne];exact this
theorem Hr (n:Nat) (f:Nat->Bool):xV ((List.range n).map fun c=> .bool (f c)):=by
 intro j i h
 rw [List.getElem?_map,Option.map_eq_some_iff]at h
 obtain⟨x,_,e⟩:=h
 cases e
theorem zo.snoc {X XO Y:List (Nat×Blk)} {Xs:List (List (Nat×Blk))} {ts:List Sl} {s s' t:Sl} {ds:List Bd} {d:Bd} {XO':List (Nat×Blk)} (o:zo X s ds XO Xs ts) (oY:mv Y t 3 (cW d.ns))
  (oO:bR XO' s' 3 (((ts.zip ds).flatMap fun e=> [I e.2.v,e.1.v,I e.2.r])++ [I d.v,t.v,I d.r])):zo (XO'++(Xs++ [Y]).flatten) s' (ds++ [d]) XO' (Xs++ [Y]) (ts++ [t]):=by
 refine⟨rfl,by simp [o.l1],by simp [o.l2],?_,fun k Z u e hZ hu he=>?_⟩
 ·rw [List.zip_append o.l2.symm,List.flatMap_append]
  simpa using oO
 ·have e1:=o.l1
  have e2:=o.l2
  by_cases hk:k<ts.length
  ·rw [List.getElem?_append_left (by omega)]at hZ hu he
   exact o.inn k Z u e hZ hu he
  ·have:=get_lt hu
   simp at this
   obtain rfl:k=ts.length:=by omega
   rw [List.getElem?_append_right (by omega),show ts.length-Xs.length=0 by omega]at hZ
   rw [List.getElem?_append_right (Nat.le_refl _),Nat.sub_self]at hu
   rw [List.getElem?_append_right (by omega),show ts.length-ds.length=0 by omega]at he
   simp at hZ hu he
   subst hZ;subst hu;subst he
   exact oY
theorem sk {α:Type} {l:List α} {i:Nat} {x:α} (h:l[i]?=some x):l.take (i+1)=l.take i++ [x]:=by rw [List.take_add_one,h];rfl
theorem jd.snoc {Xs:List (List (Nat×Blk))} {ts:List Sl} {sz:Nat} {css:List (List Value)} {X:List (Nat×Blk)} {t:Sl} {cs:List Value} (o:jd Xs ts sz css) (g:bR X t sz cs):jd (Xs++ [X]) (ts++ [t]) sz (css++ [cs]):=by
 have e1:=o.l1
 have e2:=o.l2
 refine⟨by simp [e1],by simp [e2],fun k Y u ds hY hu hd=>?_⟩
 by_cases hk:k<ts.length
 ·rw [List.getElem?_append_left (by omega)]at hY hu hd
  exact o.at_ k Y u ds hY hu hd
 ·have:=get_lt hu
  simp at this
  obtain rfl:k=ts.length:=by omega
  rw [List.getElem?_append_right (by omega),show ts.length-Xs.length=0 by omega]at hY
  rw [List.getElem?_append_right (Nat.le_refl _),Nat.sub_self]at hu
  rw [List.getElem?_append_right (by omega),show ts.length-css.length=0 by omega]at hd
  simp at hY hu hd
  subst hY;subst hu;subst hd
  exact g
theorem zo.get {X XO:List (Nat×Blk)} {Xs:List (List (Nat×Blk))} {ts:List Sl} {s:Sl} {ds:List Bd} {g h:Hp} {k:Nat} {d:Bd} (o:zo X s ds XO Xs ts) (K:Kn g h X) (hl:ds.length<=1000) (hk:ds[k]?=some d):
  ∃b q t,s.a=some (Addr.mk b q none)/\(0:Int)<=(k:Nat)/\((k:Nat):Int)<(s.n:Int)/\Hp.cell h b (q+Int.toNat ((k:Nat):Int)*3)=some (I d.v)/\Hp.cell h b ((q+Int.toNat ((k:Nat):Int)*3)+1)=some (Sl.v t)/\Hp.cell h b ((q+Int.toNat ((k:Nat):Int)*3)+2)=some (I d.r)/\SlC h t 3 (cW d.ns):=by
 have hkl:=get_lt hk
 have e1:=o.l1
 have e2:=o.l2
 obtain⟨t,ht⟩: ∃t,ts[k]?=some t:=⟨_,List.getElem?_eq_getElem (by omega)⟩
 obtain⟨Y,hY⟩: ∃Y,Xs[k]?=some Y:=⟨_,List.getElem?_eq_getElem (by omega)⟩
 have oY:=o.inn k Y t d hY ht hk
 have lo:=o.out.1
 rw [ck (m:=3) (fun _=>rfl),List.length_zip]at lo
 have hm1: ∀e∈XO,h e.1=some e.2:=fun e he=>K.mem e (by rw [o.eq];exact List.mem_append_left _ he)
 have hm2: ∀e∈Y,h e.1=some e.2:=fun e he=>K.mem e (by rw [o.eq];exact List.mem_append_right _ (List.mem_flatten.2 ⟨Y,List.mem_of_getElem? hY,he⟩))
 obtain⟨b,q,ha,hcc⟩:=SlC.get ((o.out.buf hm1).slc_of (by omega)) (by omega)
 have hz:(ts.zip ds)[k]?=some (t,d):=by
  rw [List.getElem?_zip_eq_some];exact⟨ht,hk⟩
 have cc: ∀j v,j<3-> [I d.v,t.v,I d.r][j]?=some v->Hp.cell h b ((q+k*3)+j)=some v:=fun j v hj hv=>by
  rw [Nat.add_assoc]
  refine hcc _ _ ?_
  rw [mL (m:=3) (fun _=>rfl) (ts.zip ds) k (t,d) j hz hj];exact hv
 refine⟨b,q,t,ha,by omega,by omega,?_,?_,?_,oY.slcOf hm2⟩
 ·rw [Int.toNat_natCast];exact cc 0 _ (by omega) rfl
 ·rw [Int.toNat_natCast];exact cc 1 _ (by omega) rfl
 ·rw [Int.toNat_natCast];exact cc 2 _ (by omega) rfl
theorem zo.len {X XO:List (Nat×Blk)} {Xs:List (List (Nat×Blk))} {ts:List Sl} {s:Sl} {ds:List Bd} (o:zo X s ds XO Xs ts):s.n=ds.length:=by
 have lo:=o.out.1
 have:=o.l2
 rw [ck (m:=3) (fun _=>rfl),List.length_zip]at lo
 omega
def ua (ts:List Sl) (es:List (Int×Int×List Value)):List Value:=(ts.zip es).flatMap fun e=> [I e.2.1,e.1.v,I e.2.2.1]
theorem uQ (t:Sl) (ts:List Sl) (e:Int×Int×List Value) (es:List (Int×Int×List Value)):ua (t::ts) (e::es)=I e.1::t.v::I e.2.1::ua ts es:=rfl
theorem Ow : ∀{ts:List Sl} {es:List (Int×Int×List Value)} {k:Nat} {e:Int×Int×List Value} (cs:List Value),es[k]?=some e->ua ts (es.set k (e.1,e.2.1,cs))=ua ts es
 | [],_,k,e,cs,_=>rfl
 |_::_, [],k,e,cs,_=>by simp
 |t::ts,e0::es,0,e,cs,h=>by cases h;rfl
 |t::ts,e0::es,k+1,e,cs,h=>by
  rw [List.set_cons_succ,uQ,uQ,Ow cs (by simpa using h)]
structure DG (X:List (Nat×Blk)) (s:Sl) (es:List (Int×Int×List Value)) (XO:List (Nat×Blk)) (Xs:List (List (Nat×Blk))) (ts:List Sl):Prop where
 eq:X=XO++Xs.flatten
 l1:Xs.length=ts.length
 l2:es.length=ts.length
 out:bR XO s 3 (ua ts es)
 inn: ∀(k:Nat) Y t e,Xs[k]?=some Y->ts[k]?=some t->es[k]?=some e->mv Y t 3 e.2.2
theorem DG.len {X XO:List (Nat×Blk)} {Xs:List (List (Nat×Blk))} {ts:List Sl} {s:Sl} {es:List (Int×Int×List Value)} (o:DG X s es XO Xs ts):s.n=ts.length:=by
 have h1:=o.out.1
 have h2:=o.l2
 unfold ua at h1
 rw [ck (m:=3) (fun _=>rfl),List.length_zip]at h1
 omega
theorem DG.inner {g h h':Hp} {A X XO:List (Nat×Blk)} {Xs:List (List (Nat×Blk))} {ts:List Sl} {s t:Sl} {es:List (Int×Int×List Value)} {e:Int×Int×List Value} {k:Nat} {cs':List Value}
  (o:DG X s es XO Xs ts) (K:Kn g h (A++X)) (ht:ts[k]?=some t) (he:es[k]?=some e) (l:(h.wo t.used).le h') (o':Own h' t 3 cs'):
  ∃X' Xs',DG X' s (es.set k (e.1,e.2.1,cs')) XO Xs' ts/\Kn g h' (A++X'):=by
 have e1:=o.l1
 have hk:=get_lt ht
 obtain⟨Y,hY⟩: ∃Y,Xs[k]?=some Y:=⟨_,List.getElem?_eq_getElem (by omega)⟩
 have oY:=o.inn k Y t e hY ht he
 have K1:Kn g h ((A++XO++(Xs.take k).flatten++(Xs.drop (k+1)).flatten)++Y):=K.perm (by
  rw [o.eq,vO hY]
  simp only [List.append_assoc]
  exact((List.perm_append_comm.append_left _).append_left _).append_left _)
 obtain⟨Y',oY',K2⟩:=oY.mark K1 l o'
 refine⟨XO++(Xs.set k Y').flatten,Xs.set k Y',⟨rfl,by simp [o.l1],by simp [o.l2],by rw [Ow _ he];exact o.out,fun j Z u e' hZ hu he'=>?_⟩,K2.perm ?_⟩
 ·by_cases q:k=j
  ·subst q
   rw [List.getElem?_set_self (get_lt hY)]at hZ
   rw [List.getElem?_set_self (get_lt he)]at he'
   cases hZ;cases he'
   rw [ht]at hu;cases hu
   exact oY'
  ·rw [List.getElem?_set_ne q]at hZ he'
   exact o.inn j Z u e' hZ hu he'
 ·rw [KZ (by omega)]
  simp only [List.append_assoc]
  exact((List.perm_append_comm.append_left _).append_left _).append_left _
theorem DG.own {g h:Hp} {A X XO:List (Nat×Blk)} {Xs:List (List (Nat×Blk))} {ts:List Sl} {s t:Sl} {es:List (Int×Int×List Value)} {e:Int×Int×List Value} {k:Nat}
  (o:DG X s es XO Xs ts) (K:Kn g h (A++X)) (ht:ts[k]?=some t) (he:es[k]?=some e):Own h t 3 e.2.2:=by
 have e1:=o.l1
 have hk:=get_lt ht
 obtain⟨Y,hY⟩: ∃Y,Xs[k]?=some Y:=⟨_,List.getElem?_eq_getElem (by omega)⟩
 have oY:=o.inn k Y t e hY ht he
 have K1:Kn g h ((A++XO++(Xs.take k).flatten++(Xs.drop (k+1)).flatten)++Y):=K.perm (by
  rw [o.eq,vO hY]
  simp only [List.append_assoc]
  exact((List.perm_append_comm.append_left _).append_left _).append_left _)
 exact oY.own K1
def ZM (h:Hp) (s:Sl) (ds:List Bd):Prop:=s.n=ds.length/\ ∀(k:Nat) d,ds[k]?=some d-> ∃b q t,s.a=some (Addr.mk b q none)/\Hp.cell h b (q+k*3)=some (I d.v)/\Hp.cell h b (q+k*3+1)=some (Sl.v t)/\Hp.cell h b (q+k*3+2)=some (I d.r)/\SlC h t 3 (cW d.ns)
theorem ZM.mono {h h':Hp} {s:Sl} {ds:List Bd} (o:ZM h s ds) (l:h.le h'):ZM h' s ds:=by
 refine⟨o.1,fun k d hk=>?_⟩
 obtain⟨b,q,t,ha,c0,c1,c2,hs⟩:=o.2 k d hk
 exact⟨b,q,t,ha,l.cell c0,l.cell c1,l.cell c2,hs.mono l⟩
theorem zo.small {X XO:List (Nat×Blk)} {Xs:List (List (Nat×Blk))} {ts:List Sl} {s:Sl} {ds:List Bd} (o:zo X s ds XO Xs ts) (hd: ∀d∈ds,d.ns.length<=600): ∀t∈ts,t.n<=1000:=by
 intro t ht
 obtain⟨k,hk⟩:=List.mem_iff_getElem?.1 ht
 have hl:=get_lt hk
 have e1:=o.l1
 have e2:=o.l2
 obtain⟨Y,hY⟩: ∃Y,Xs[k]?=some Y:=⟨_,List.getElem?_eq_getElem (by omega)⟩
 obtain⟨d,hdk⟩: ∃d,ds[k]?=some d:=⟨_,List.getElem?_eq_getElem (by omega)⟩
 have h1:=(o.inn k Y t d hY hk hdk).1
 rw [mM]at h1
 have:=hd d (List.mem_of_getElem? hdk)
 omega
inductive kX (m:ah):Nat->Prop
 |bad {p:Int}:p∈m.bads->kX m p.toNat
 |hold {p:Int}:p∈m.holds->kX m p.toNat
 |part {a b:Nat} {n:NodeP}:kX m a->m.nodes[a]?=some n->b∈dP n->kX m b
 |ini {a:Nat} {b:BindP}:kX m a->b∈m.inits->b.state=(a:Int)->kX m b.node.toNat
 |nex {a:Nat} {b:BindP}:kX m a->b∈m.nexts->b.state=(a:Int)->kX m b.node.toNat
noncomputable def cP (m:ah) (i:Nat):Bool:= @decide (kX m i) (Classical.propDecidable _)
theorem fh {m:ah} {i:Nat}:cP m i=true↔kX m i:=by
 unfold cP;exact @decide_eq_true_iff _ (Classical.propDecidable _)
theorem zK {m:ah} (g:cr m) {i:Nat} (h:kX m i):i<m.nodes.length:=by
 have pl: ∀{p:Int},cT m.nodes p=true->p.toNat<m.nodes.length:=fun hp=>by have:=eE hp;omega
 have pr: ∀{p:Int},da m.nodes p=true->p.toNat<m.nodes.length:=fun hp=>by
  unfold da at hp
  exact pl (Bool.and_eq_true_iff.1 hp).1
 cases h with
 |bad h=>exact pr (g.bad _ h)
 |hold h=>exact pr (g.hol _ h)
 |part ha hn hb=>
  have:=(dH g.ok _ _ hn).2 _ hb
  have:=get_lt hn
  omega
 |ini ha hb e=>exact pl (eO (g.ini _ hb)).2.1
 |nex ha hb e=>exact pl (dn (g.nex _ hb)).2.1
def I6 (l:List NodeP) (f:Nat->Bool):Prop:= ∀(a b:Nat) (n:NodeP),f a=true->l[a]?=some n->b∈dP n->f b=true
def IJ (m:ah) (f:Nat->Bool) (a:Nat):Prop:=f a=true->(∀b∈m.inits,b.state=(a:Int)->f b.node.toNat=true)/\ ∀b∈m.nexts,b.state=(a:Int)->f b.node.toNat=true
theorem acv {m:ah} {f:Nat->Bool} (h1: ∀p∈m.bads,f p.toNat=true) (h2: ∀p∈m.holds,f p.toNat=true) (h3:I6 m.nodes f) (h4: ∀a,IJ m f a) {i:Nat} (h:kX m i):f i=true:=by
 induction h with
 |bad h=>exact h1 _ h
 |hold h=>exact h2 _ h
 |part ha hn hb ih=>exact h3 _ _ _ ih hn hb
 |ini ha hb e ih=>exact(h4 _ ih).1 _ hb e
 |nex ha hb e ih=>exact(h4 _ ih).2 _ hb e
theorem WU {m:ah} {f:Nat->Bool} (h1: ∀p∈m.bads,f p.toNat=true) (h2: ∀p∈m.holds,f p.toNat=true) (h3:I6 m.nodes f) (h4: ∀a,IJ m f a) (h5: ∀i,f i=true->kX m i):f=cP m:=by
 funext i
 have a:= @acv m f h1 h2 h3 h4 i
 have b:=h5 i
 cases h:f i
 ·symm
  rw [Bool.eq_false_iff]
  intro e
  rw [a (fh.1 e)]at h;cases h
 ·exact(fh.2 (b h)).symm
def z7 (l:List NodeP) (a:Nat):Nat->Bool:=kl l (a+1) fun j=>decide (j=a)
theorem Sw {l:List NodeP}: ∀{i:Nat} {S:Nat->Bool} {j:Nat},S j=true->kl l i S j=true:=by
 intro i
 induction i with
 |zero=>intro S j h;exact h
 |succ i ih=>
  intro S j h
  simp only [kl]
  refine ih ?_
  split
  ·show (S j||_)=true
   rw [h,Bool.true_or]
  ·exact h
theorem PA {l:List NodeP} (ha:Fj l): ∀{i:Nat} {S:Nat->Bool} {j:Nat},i<=j->kl l i S j=S j:=by
 intro i
 induction i with
 |zero=>intro S j _;rfl
 |succ i ih=>
  intro S j h
  simp only [kl]
  rw [ih (by omega)]
  split
  ·have:(match l[i]? with|some n=>(dP n).contains j|none=>false)=false:=by
    cases hn:l[i]? with
    |none=>rfl
    |some n=>
     show (dP n).contains j=false
     rw [Bool.eq_false_iff]
     intro hc
     have:=(ha i n hn).2 j (by simpa using hc)
     omega
   show (S j||(match l[i]? with|some n=>(dP n).contains j|none=>false))=S j
   rw [this,Bool.or_false]
  ·rfl
theorem TT {l:List NodeP} (ha:Fj l): ∀{i:Nat} {S:Nat->Bool} {k b:Nat} {n:NodeP},k<i->kl l i S k=true->l[k]?=some n->b∈dP n->kl l i S b=true:=by
 intro i
 induction i with
 |zero=>intro S k b n h;omega
 |succ i ih=>
  intro S k b n h hk hn hb
  simp only [kl]at hk⊢
  by_cases e:k=i
  ·subst e
   rw [PA ha (Nat.le_refl _)]at hk
   by_cases hS:S k=true
   ·rw [if_pos hS]
    refine Sw ?_
    simp [hn,hb]
   ·rw [if_neg hS]at hk
    exact absurd hk hS
  ·exact ih (by omega) hk hn hb
theorem abL {l:List NodeP} {P:Nat->Prop} (hP: ∀(i b:Nat) (n:NodeP),P i->l[i]?=some n->b∈dP n->P b): ∀{i:Nat} {S:Nat->Bool},(∀j,S j=true->P j)-> ∀j,kl l i S j=true->P j:=by
 intro i
 induction i with
 |zero=>intro S h j hj;exact h j hj
 |succ i ih=>
  intro S h j hj
  simp only [kl]at hj
  refine ih ?_ j hj
  intro q hq
  by_cases hS:S i=true
  ·rw [if_pos hS]at hq
   rcases Bool.or_eq_true_iff.1 hq with hq|hq
   ·exact h q hq
   ·cases hn:l[i]? with
    |none=>rw [hn]at hq;cases hq
    |some n=>
     rw [hn]at hq
     exact hP i q n (h i hS) hn (by simpa using hq)
  ·rw [if_neg hS]at hq
   exact h q hq
theorem zR (l:List NodeP) (a:Nat):z7 l a a=true:=Sw (by simp)
theorem SK {l:List NodeP} (ha:Fj l) {a j:Nat} (h:z7 l a j=true):j<=a:=by
 refine Classical.byContradiction fun hc=>?_
 unfold z7 at h
 rw [PA ha (by omega)]at h
 simp at h;omega
theorem Ry {l:List NodeP} (ha:Fj l) (a:Nat):I6 l (z7 l a):=fun k b n hk hn hb=>TT ha (by have:=SK ha hk;omega) hk hn hb
theorem Va {m:ah} {a:Nat} (h:kX m a) {j:Nat} (hj:z7 m.nodes a j=true):kX m j:=
 abL (P:=kX m) (fun i b n hi hn hb=> .part hi hn hb) (fun j hj=>by rw [decide_eq_true_eq]at hj;rw [hj];exact h) j hj
def pg (f:Nat->Bool):Nat->Nat
 |0=>0
 |n+1=>pg f n+(if f n then 0 else 1)
theorem wv {f f':Nat->Bool} (h: ∀j,f j=true->f' j=true): ∀n,pg f' n<=pg f n:=by
 intro n
 induction n with
 |zero=>exact Nat.le_refl _
 |succ n ih=>
  unfold pg
  by_cases e:f n=true
  ·rw [if_pos e,if_pos (h n e)];omega
  ·rw [if_neg e];split<;>omega
theorem Ky {f f':Nat->Bool} (h: ∀j,f j=true->f' j=true) {k:Nat} (h1:f k=false) (h2:f' k=true): ∀n,k<n->pg f' n<pg f n:=by
 intro n
 induction n with
 |zero=>intro hk;omega
 |succ n ih=>
  intro hk
  unfold pg
  by_cases e:k=n
  ·subst e
   have:=wv h k
   rw [if_pos h2,if_neg (by rw [h1];decide)];omega
  ·have:=ih (by omega)
   by_cases e:f n=true
   ·rw [if_pos e,if_pos (h n e)];omega
   ·rw [if_neg e];split<;>omega
theorem Vq {h:Hp} {s:Sl} {l:List NodeP} {a:Nat} {R:Value->Hp->Prop} (hs:gD h s l) (hl:l.length<=1048576) (hok:bQ l=true) (hat:a<l.length)
  (k: ∀b5 h',h.le h'->h b5=none->h' b5=some (.inl ⟨mkC l.length (kl l (a+1) fun j=>decide (j=a)),l.length,false⟩)->R (Sl.v (arr b5 l.length)) h'):pz #[s.v,I a] h R:=by
 apply CP
 refine uf_ ?_
 have hn:=hs.len
 have hah:=dH hok
 obtain⟨F,hF⟩: ∃F,F=kl l (a+1) fun j=>decide (j=a):=⟨_,rfl⟩
 rw [<-hF]at k
 refine⟨by omega,by omega,by omega,by omega,?_⟩
 refine aj fun b5 h1 hb5 l1 f5=>?_
 rw [Int.toNat_natCast,Nat.mul_one,cE,BQ]at f5
 refine⟨b5,0,rfl,by omega,by rw [Int.toNat_natCast];omega,?_⟩
 (with_reducible apply cC);(exact f5);(exact l1);(exact hb5);(rw [xd,Int.toNat_natCast];omega)
 intro h2 f5' kp l2
 simp only [vm]at f5'
 rw [bG,B1]at f5'
 clear kp f5 l1
 simp only [Int.toNat_natCast]
 refine nF (a+1) (fun i vs h'=> ∃S:Nat->Bool,vs= [s.v, .slice (some ⟨b5,0,none⟩) s.n s.n,I ((i:Int)-1)]/\h.le h'/\h' b5=some (.inl ⟨mkC s.n S,s.n,false⟩)/\i<=a+1/\
  kl l i S=F) ⟨fun j=>false||decide (j=a),?_,l2,f5',by omega,?_⟩ ?_
 ·rw [show (((a+1:Nat):Int)-1)=(a:Int) by omega]
 ·rw [hF];simp only [Bool.false_or]
 clear f5' l2 h1 h2
 rintro i _ h1 next ⟨S,rfl,l1,f5,hi,hd⟩ hnx
 refine⟨s,⟨some ⟨b5,0,none⟩,s.n,s.n⟩,_,rfl,?_⟩
 cases i with
 |zero=>
  refine aC (by simp) ?_
  have:=k b5 h1 l1 hb5 (by rw [<-hd,<-hn];exact f5)
  rw [<-hn]at this
  exact this
 |succ i=>
  have ei:(((i+1:Nat):Int)-1)=(i:Int):=by omega
  rw [ei]
  have wi:W ((i:Int)-1)=(i:Int)-1:=cd (by omega) (by omega)
  refine aM (by simp) ?_
  have ci:Hp.cell h1 b5 i=some (.bool (S i)):=by rw [ax f5];exact pC S (by omega)
  simp only [vm,ci]
  refine⟨by omega,?_⟩
  obtain⟨n,hni⟩: ∃n,l[i]?=some n:=⟨_,List.getElem?_eq_getElem (by omega)⟩
  have hf:=fU hok hni
  have hk:=fD hf
  have hk3:=iY n.kind
  simp only [kl]at hd
  refine ad (fun e=>?_) (fun e=>?_)
  ·rw [wi]
   refine hnx i (by omega) _ _ ⟨S,rfl,l1,f5,by omega,?_⟩
   rw [show S i=false by simpa using e]at hd
   simpa using hd
  ·have hS:S i=true:=by simpa using e
   rw [hS]at hd
   simp only [if_true,hni]at hd
   obtain⟨b,o,ha,c0,c1,c2,c3,_⟩:=(hs.mono l1).at hni
   refine⟨b,o,ha,by omega,b,o,ha,by omega,b,o,ha,by omega,_,c1,_,c2,_,c3,?_⟩
   refine aj fun b9 h2 hb9 l2 f9=>?_
   refine au (ai n.kind).toNat (fun q vs h'=>vs= [s.v, .slice (some ⟨b5,0,none⟩) s.n s.n,I i, .slice (some ⟨b9,0,none⟩) 3 3,I q]/\h.le h'/\
    h' b5=some (.inl ⟨mkC s.n (fun j=>S j||((dP n).take q).contains j),s.n,false⟩)/\h' b9=some (.inl ⟨[I n.a,I n.b,I n.c],3,false⟩)) ⟨rfl,Hp.le_trans l1 l2,?_,f9⟩ ?_
   ·simp only [List.take_zero,List.contains_nil,Bool.or_false];exact l2 _ _ f5
   have n9:b9≠b5:=(fresh_ne hb9 f5).symm
   rintro q _ h3 next2 hq ⟨rfl,l3,f5',f9'⟩ hnx2
   refine⟨s,⟨some ⟨b5,0,none⟩,s.n,s.n⟩,_,⟨some ⟨b9,0,none⟩,3,3⟩,_,rfl,?_⟩
   obtain⟨b',o',ha',c0',_⟩:=(hs.mono l3).at hni
   refine⟨b',o',ha',by omega,by omega,_,c0',lD ⟨_,rfl,?_⟩⟩
   by_cases hqlt:q<(ai n.kind).toNat
   ·have h3':q<3:=by omega
    refine aM (by simp;omega) ?_
    have hr:=iU hf h3' (by omega)
    have cp:=nD f9' h3'
    refine⟨b9,0,rfl,by omega,by dsimp only;omega,_,by simpa using cp,b5,0,rfl,hr.1,by dsimp only;omega,?_⟩
    (with_reducible apply cC);(exact f5');(exact l3);(exact hb5);(rw [xd];omega)
    intro h4 f5'' kp l4
    simp only [vm]at f5''
    rw [bG,B1]at f5''
    rw [ay (by omega)]
    refine hnx2 hqlt _ _ ⟨rfl,l4,?_,cB kp n9 f9'⟩
    rw [f5'']
    congr 4
    funext j
    rw [List.take_add_one,Ge hk hqlt]
    simp [Bool.or_assoc]
   ·have hqe:q=(ai n.kind).toNat:=by omega
    subst hqe
    refine aC (by simp;omega) ?_
    rw [wi]
    refine hnx i (by omega) _ _ ⟨_,rfl,l3,f5',by omega,?_⟩
    rw [List.take_of_length_le (by rw [D3 hk];omega)]
    exact hd
theorem wO {g h:Hp} {M:MSl} {m:ah} {b a:Nat} {f:Nat->Bool} {R:Value->Hp->Prop} (hs:aO g M m) (hm:bT m) (gd:cr m)
  (K:Kn g h [(b, .inl ⟨mkC m.nodes.length f,m.nodes.length,false⟩)]) (ha:a<m.nodes.length)
  (k: ∀h' c,Kn g h' [(b, .inl ⟨mkC m.nodes.length (fun j=>f j||z7 m.nodes a j),m.nodes.length,false⟩)]->(c=false-> ∀j,z7 m.nodes a j=true->f j=true)->
   (c=true-> ∃j,j<m.nodes.length/\z7 m.nodes a j=true/\f j=false)->R (.bool c) h'):mh #[aQ M,(arr b m.nodes.length).v,I (a:Nat)] h R:=by
 apply NC
 refine uf_ ?_
 have hN:=hm.nodes
 have hd:=gd.nl
 refine Kn.al K fun b9 h1 K1 l1 hb9=>?_
 repeat' (refine kr_ ?_)
 refine Vq (hs.mono K1.le).nodes hm.nodes gd.ok ha fun b5 h2 l2 hb5 f5=>⟨_,rfl,?_⟩
 have K2:=(K1.tl).cons hb5 l2 f5
 clear K K1 f5 hb5 l2 hb9 l1
 have hle:=fun j (h:z7 m.nodes a j=true)=>SK (dH gd.ok) h
 have eD:(kl m.nodes (a+1) fun j=>decide (j=a))=z7 m.nodes a:=rfl
 rw [eD]at K2
 generalize z7 m.nodes a=D at*
 generalize m.nodes.length=N at*
 refine au (a+1) (fun i vs h'=> ∃c:Bool,vs= [(arr b N).v,I (a:Nat),(arr b5 N).v, .bool c,I (i:Nat)]/\Kn g h' [(b5, .inl ⟨mkC N D,N,false⟩),(b, .inl ⟨mkC N (fun j=>f j||(decide (j<i)&&D j)),N,false⟩)]/\
  (c=false-> ∀j,j<i->D j=true->f j=true)/\(c=true-> ∃j,j<N/\D j=true/\f j=false))
  ⟨false,rfl,?_,fun _ j hj=>by omega,fun e=>nomatch e⟩ ?_
 ·have:(fun j=>f j||(decide (j<0)&&D j))=f:=by funext j;simp
  rw [this];exact K2
 clear K2 h2
 rintro i _ h3 next hi ⟨c,rfl,K3,q1,q2⟩ hnx
 refine⟨arr b N,_,arr b5 N,c,_,rfl,?_⟩
 by_cases hlt:i<a+1
 rotate_left
 ·refine aC (decide_eq_false (by omega)) (k h3 c ?_ (fun e j hj=>q1 e j (by have:=hle j hj;omega) hj) q2)
  have e:(fun j=>f j||(decide (j<i)&&D j))=fun j=>f j||D j:=by
   funext j
   cases hD:D j
   ·rw [Bool.and_false]
   ·rw [decide_eq_true (by have:=hle j hD;omega),Bool.true_and]
  rw [<-e];exact K3.tl
 refine aM (decide_eq_true (by omega)) ?_
 have f5:=K3.at (.head _)
 have fb:=K3.at (.tail _ (.head _))
 refine ap (fun J=>J (D i&& !f i)) (ad (fun e=>?_) (fun e=>?_)) (fun J hJ=>?_)
 ·rw [Bool.and_eq_true,Bool.not_eq_true']at e
  refine⟨b,0,rfl,by omega,by show _<(N:Int);omega,?_⟩
  clear f5 fb
  (((with_reducible apply Kn.wr);(assumption);((focus ((repeat first|exact .head|apply Upd.tail);done)))))
  ·rw [xd];omega
  intro h4 K4 _
  rw [show (0+Int.toNat (i:Int)*1)=i by simp,bG,B1]at K4
  rw [ay (by omega)]
  refine hnx hlt _ _ ⟨true,rfl,?_,(fun e=>nomatch e),fun _=>⟨i,by omega,e.1,e.2⟩⟩
  have e':(fun j=>(f j||(decide (j<i)&&D j))||decide (j=i))=fun j=>f j||(decide (j<i+1)&&D j):=by
   funext j
   by_cases q:j=i
   ·subst q;simp [e.1]
   ·rw [decide_eq_false q,Bool.or_false]
    by_cases q':j<i
    ·rw [decide_eq_true q',decide_eq_true (show j<i+1 by omega)]
    ·rw [decide_eq_false q',decide_eq_false (show¬j<i+1 by omega)]
  rw [<-e'];exact K4
 ·rw [ay (by omega)]
  have hfD:D i=true->f i=true:=fun h=>by
   rw [h,Bool.true_and]at e
   simpa using e
  refine hnx hlt _ _ ⟨c,rfl,?_,fun ec j hj hD=>?_,q2⟩
  ·have e':(fun j=>f j||(decide (j<i)&&D j))=fun j=>f j||(decide (j<i+1)&&D j):=by
    funext j
    by_cases q:j=i
    ·subst q
     cases hD:D j
     ·simp
     ·rw [hfD hD];simp
    ·by_cases q':j<i
     ·rw [decide_eq_true q',decide_eq_true (show j<i+1 by omega)]
     ·rw [decide_eq_false q',decide_eq_false (show¬j<i+1 by omega)]
   rw [<-e'];exact K3
  ·by_cases q:j=i
   ·subst q;exact hfD hD
   ·exact q1 ec j (by omega) hD
 ·refine⟨b5,0,rfl,by omega,by show _<(N:Int);omega,D i,by rw [ax f5,show (0+Int.toNat (i:Int)*1)=i by simp];exact pC D (by omega),?_⟩
  refine ad (fun e=>?_) (fun e=>?_)
  ·refine⟨b,0,rfl,by omega,by show _<(N:Int);omega,f i||(decide (i<i)&&D i),by rw [ax fb,show (0+Int.toNat (i:Int)*1)=i by simp];exact pC _ (by omega),?_⟩
   rw [decide_eq_false (Nat.lt_irrefl i),Bool.false_and,Bool.or_false]
   rw [e,Bool.true_and]at hJ
   exact hJ
  ·rw [e,Bool.false_and]at hJ
   exact hJ
end Go.Lead
