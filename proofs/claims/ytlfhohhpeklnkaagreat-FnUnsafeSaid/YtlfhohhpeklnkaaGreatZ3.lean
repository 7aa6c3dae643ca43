/- What functions of the program and of the reference come to, walked one by one, and plain laws about it: part 4. No condition is added to the statement. -/
import Derived.Test.YtlfhohhpeklnkaaGreatZ2
namespace Go.Lead
open Go
set_option linter.unusedSimpArgs false
set_option linter.unusedVariables false
set_option maxRecDepth 100000
set_option maxHeartbeats 1000000
theorem Ma {h:Hp} {b:Nat} {s2:Sl} {σ:aD} {S p:Nat->Bool} {fid:FuncId} {u w:Array Value} {R:Value->Hp->Prop} (hs:oy h b σ) (ok:σ.Ok) (hS:dc h s2 (2^σ.n) S)
  (hp:Fp h fid u w (2^(σ.n+σ.k)) p)
  (k: ∀b' T h',Kn h h' [(b', .inl ⟨tb (2^σ.n) T,2^σ.n,false⟩)]->(∀j,j<2^σ.n->T j=σ.fwd p S j)->R (arr b' (2^σ.n)).v h'):
  kF #[.pointer (some ⟨b,0,none⟩),s2.v, .func (.func fid) u w] h R:=by
 apply wV
 refine uf_ ?_
 have hn:=fh ok
 have hk:=Df ok
 have h8:=ok.nle
 have h5:=ok.kle
 have hl:=hS.len
 obtain⟨M,st,hold,bad,next,fx,_,_,hnt⟩:=id hs
 have K0:=Kn.nil h
 rw [hl]
 refine⟨Int.natCast_nonneg _,Int.le_refl _,by omega,by omega,?_⟩
 (with_reducible apply Kn.al);(assumption);(intro b8 h1 K1 l1 hb8)
 rw [Int.toNat_natCast,Nat.mul_one,cn,kI]at K1
 rw [Int.toNat_natCast]
 refine av (2^σ.n) (fun s vs h'=>vs= [.pointer (some ⟨b,0,none⟩),s2.v, .func (.func fid) u w,(arr b8 (2^σ.n)).v,s2.v,I (2^σ.n:Nat),I s]/\
  ∃T,Kn h h' [(b8, .inl ⟨tb (2^σ.n) T,2^σ.n,false⟩)]/\ ∀x,T x=true↔ ∃s' i',s'<s/\i'<2^σ.k/\S s'=true/\p (σ.at_ s' i')=true/\σ.next (σ.at_ s' i')=x)
  ⟨rfl,_,K1,fun x=>⟨fun e=>by simp at e,fun⟨s',i',e,_⟩=>by omega⟩⟩ ?_
 clear K1 K0 l1 hb8 h1
 rintro s _ h1 nxt hs' ⟨rfl,T,K1,hT⟩ hnx
 refine⟨_,s2,_,_,_,arr b8 _,s2,_,_,rfl,?_⟩
 by_cases hlt:s<2^σ.n
 rotate_left
 ·refine aE (by rw [decide_eq_false_iff_not];omega) ?_
  have hse:s=2^σ.n:=by omega
  rw [hl]
  refine⟨Int.natCast_nonneg _,Int.le_refl _,by omega,by omega,?_⟩
  (with_reducible apply Kn.al);(assumption);(intro b84 h2 K2 l2 hb84)
  rw [Int.toNat_natCast,Nat.mul_one,cn,kI]at K2
  rw [Int.toNat_natCast]
  refine av (2^σ.n) (fun t vs h'=>vs= [.pointer (some ⟨b,0,none⟩),(arr b8 (2^σ.n)).v,(arr b84 (2^σ.n)).v,I (2^σ.n:Nat),I t]/\
   ∃U,Kn h h' [(b84, .inl ⟨tb (2^σ.n) U,2^σ.n,false⟩),(b8, .inl ⟨tb (2^σ.n) T,2^σ.n,false⟩)]/\ ∀j,j<t->U j=σ.fwd p S j)
   ⟨rfl,_,K2,fun j hj=>by omega⟩ ?_
  clear K2 l2 hb84 h2
  rintro t _ h2 nxt2 ht ⟨rfl,U,K2,hU⟩ hnx2
  refine⟨_,arr b8 _,arr b84 _,_,_,rfl,?_⟩
  by_cases hlt2:t<2^σ.n
  rotate_left
  ·refine aE (by rw [decide_eq_false_iff_not];omega) ?_
   exact k b84 U h2 (K2.sub (fun e he=>by rw [List.mem_singleton]at he;subst he;exact .head _) (by simp)) fun j hj=>hU j (by omega)
  refine aM (by rw [decide_eq_true_eq];exact_mod_cast hlt2) ?_
  refine dF ?_
  (refine kr_ ?_)
  have hfx:=ok.fixed
  rw [sP (by omega) (by omega)]
  have hle:t&&&σ.fixed<=t:=Nat.and_le_left
  refine⟨b8,0,rfl,by omega,by dsimp only;omega,?_⟩
  refine Kn.rd K2 (.tail _ (.head _)) (x:=T (t&&&σ.fixed)) (by rw [Nat.zero_add,Nat.mul_one,Int.toNat_natCast];exact pQ (by omega)) ?_
  refine⟨b84,0,rfl,by omega,by dsimp only;omega,?_⟩
  (((with_reducible apply Kn.wr);(assumption);((focus ((repeat first|exact .head|apply Upd.tail);done)))))
  ·rw [gR];omega
  intro h3 K3 _
  rw [bG,Nat.zero_add,Int.toNat_natCast,Nat.mul_one,lP]at K3
  rw [aC (by omega)]
  refine hnx2 hlt2 _ _ ⟨rfl,_,K3,fun j hj=>?_⟩
  by_cases e:j=t
  ·subst e
   rw [if_pos rfl,Bool.eq_iff_iff,hT,aD.fwd_iff]
   constructor
   ·rintro ⟨s',i',q1,q2,q3,q4,q5⟩
    exact⟨s',i',by omega,q2,q3,q4,by unfold aD.goes;rw [decide_eq_true_eq];exact q5.symm⟩
   ·rintro ⟨s',i',q1,q2,q3,q4,q5⟩
    unfold aD.goes at q5
    rw [decide_eq_true_eq]at q5
    exact⟨s',i',by omega,q2,q3,q4,q5.symm⟩
  ·rw [if_neg e];exact hU j (by omega)
 refine aM (by rw [decide_eq_true_eq];exact_mod_cast hlt) ?_
 obtain⟨bS,oS,ha,hlt',hc⟩:=(hS.mono K1.le).get hlt
 refine⟨bS,oS,ha,by omega,hlt',_,hc,?_⟩
 refine dF ?_
 (refine kr_ ?_)
 rw [if_neg (by omega),bK (by omega)]
 refine av (2^σ.k) (fun i vs h'=>vs= [.pointer (some ⟨b,0,none⟩),s2.v, .func (.func fid) u w,(arr b8 (2^σ.n)).v,I s, .bool (S s),s2.v,I (2^σ.n:Nat),I s,I (2^σ.k:Nat),I i]/\
  ∃T,Kn h h' [(b8, .inl ⟨tb (2^σ.n) T,2^σ.n,false⟩)]/\ ∀x,T x=true↔ ∃s' i',(s'<s\/s'=s/\i'<i)/\i'<2^σ.k/\S s'=true/\p (σ.at_ s' i')=true/\σ.next (σ.at_ s' i')=x)
  ⟨rfl,T,K1,fun x=>?_⟩ ?_
 ·rw [hT]
  constructor
  ·rintro ⟨s',i',q1,q⟩;exact⟨s',i', .inl q1,q⟩
  ·rintro ⟨s',i',q1,q⟩;exact⟨s',i',by omega,q⟩
 clear K1 hT T h1 hc hlt' ha bS oS
 rintro i _ h1 nxt2 hi ⟨rfl,T,K1,hT⟩ hnx2
 refine⟨_,s2,_,_,_,arr b8 _,_,_,s2,_,_,_,_,rfl,?_⟩
 by_cases hli:i<2^σ.k
 rotate_left
 ·refine aE (by rw [decide_eq_false_iff_not];omega) ?_
  rw [aC (by omega)]
  refine hnx hlt _ _ ⟨rfl,T,K1,fun x=>?_⟩
  rw [hT]
  constructor
  ·rintro ⟨s',i',q1,q⟩;exact⟨s',i',by omega,q⟩
  ·rintro ⟨s',i',q1,q2,q⟩;exact⟨s',i',by omega,q2,q⟩
 refine aM (by rw [decide_eq_true_eq];exact_mod_cast hli) ?_
 have fin: ∀T' h',Kn h h' [(b8, .inl ⟨tb (2^σ.n) T',2^σ.n,false⟩)]->(∀x,T' x=true↔T x=true\/(S s=true/\p (σ.at_ s i)=true/\σ.next (σ.at_ s i)=x))->
   nxt2 [.pointer (some ⟨b,0,none⟩),s2.v, .func (.func fid) u w,(arr b8 (2^σ.n)).v,I s, .bool (S s),s2.v,I (2^σ.n:Nat),I s,I (2^σ.k:Nat),I (W ((i:Int)+1))] h':=by
  intro T' h' K hx
  rw [aC (by omega)]
  refine hnx2 hli _ _ ⟨rfl,T',K,fun x=>?_⟩
  rw [hx,hT]
  constructor
  ·rintro (⟨s',i',q1,q⟩|⟨q1,q2,q3⟩)
   ·exact⟨s',i',by omega,q⟩
   ·exact⟨s,i,by omega,hli,q1,q2,q3⟩
  ·rintro ⟨s',i',q1,q2,q3,q4,q5⟩
   by_cases e:s'=s/\i'=i
   ·obtain⟨rfl,rfl⟩:=e
    exact .inr ⟨q3,q4,q5⟩
   ·exact .inl ⟨s',i',by omega,q2,q3,q4,q5⟩
 rw [ey]
 refine FL (hs.mono K1.le) ok hlt hli ⟨_,rfl,?_⟩
 rw [ey]
 have hc:=aD.at_lt hlt hli
 refine ac (fun e=>?_) (fun e=>?_)
 ·refine hp _ hc h1 K1.le _ ⟨_,rfl,?_⟩
  refine ac (fun e2=>?_) (fun e2=>?_)
  ·refine dF ?_
   (refine kr_ ?_)
   obtain⟨bx,ox,hax,hx1,hx2⟩:=(hnt.mono K1.le).get hc
   refine⟨bx,ox,hax,by omega,hx1,_,hx2,?_⟩
   have hnl:=ok.next _ hc
   refine⟨b8,0,rfl,by omega,by dsimp only;omega,?_⟩
   (((with_reducible apply Kn.wr);(assumption);((focus ((repeat first|exact .head|apply Upd.tail);done)))))
   ·rw [gR];omega
   intro h2 K2 _
   rw [bG,Nat.zero_add,Int.toNat_natCast,Nat.mul_one,lP]at K2
   refine fin _ h2 K2 fun x=>?_
   by_cases ex:x=σ.next (σ.at_ s i)
   ·rw [if_pos ex];exact⟨fun _=> .inr ⟨e,e2,ex.symm⟩,fun _=>rfl⟩
   ·rw [if_neg ex]
    exact⟨fun q=> .inl q,fun q=>q.resolve_right fun q=>ex q.2.2.symm⟩
  ·exact fin T h1 K1 fun x=>⟨fun q=> .inl q,fun q=>q.resolve_right fun q=>by rw [q.2.1]at e2;cases e2⟩
 ·refine aE rfl ?_
  exact fin T h1 K1 fun x=>⟨fun q=> .inl q,fun q=>q.resolve_right fun q=>by rw [q.1]at e;cases e⟩
theorem QH {h:Hp} {s:Sl} {N:Nat} {T:Nat->Bool} {R:Value->Hp->Prop} (hT:dc h s N T) (hN:N<=1048576) (k1: ∀i:Nat,i<N->T i=true->R (I i) h) (k2:pd N T=false->R (I (-1)) h):
  iG #[s.v, .bool true] h R:=by
 apply tj
 refine uf_ ?_
 have hl:=hT.len
 rw [hl]
 refine av N (fun i vs h'=>vs= [s.v, .bool true,I N,I i]/\h'=h/\ ∀j,j<i->T j=false) ⟨rfl,rfl,fun j hj=>by omega⟩ ?_
 rintro i _ _ next hi ⟨rfl,rfl,hj⟩ hnx
 refine⟨s,_,_,_,rfl,?_⟩
 by_cases hlt:i<N
 ·refine aM (by rw [decide_eq_true_eq];exact_mod_cast hlt) ?_
  obtain⟨b,o,ha,h1,h2⟩:=hT.get hlt
  refine⟨b,o,ha,by omega,h1,_,h2,?_⟩
  refine ac (fun e=>?_) (fun e=>?_)
  ·exact k1 i hlt (by simpa using e)
  ·rw [aC (by omega)]
   refine hnx hlt _ _ ⟨rfl,rfl,fun j hji=>?_⟩
   by_cases eq:j=i
   ·rw [eq];simpa using e
   ·exact hj j (by omega)
 ·exact aE (by rw [decide_eq_false_iff_not];omega) (k2 (qm.2 fun j hjn=>hj j (by omega)))
theorem zY {h:Hp} {s:Sl} {N:Nat} {T:Nat->Bool} {R:Value->Hp->Prop} (hT:dc h s N T) (hN:N<=1048576) (k:R (.bool (pd N T)) h):
  eF #[s.v, .bool true] h R:=by
 apply qY
 refine uf_ ?_
 refine QH hT hN (fun i hi e=>⟨_,rfl,?_⟩) fun e=>⟨_,rfl,?_⟩
 ·refine dq ?_ k
  rw [cF.2 ⟨i,hi,e⟩,decide_eq_true_eq];omega
 ·refine dq ?_ k
  rw [e];rfl
def BX (h:Hp) (s:Sl) (n m:Nat) (L:Nat->Nat->Bool):Prop:= ∃ts:List Sl,ts.length=m/\SlC h s 1 (ts.map Sl.v)/\ ∀(j:Nat) (t:Sl),ts[j]?=some t->dc h t n (L j)
theorem BX.mono {h h':Hp} {s:Sl} {n m:Nat} {L:Nat->Nat->Bool} (l:h.le h') (e:BX h s n m L):BX h' s n m L:=by
 obtain⟨ts,e1,e2,e3⟩:=e
 exact⟨ts,e1,e2.mono l,fun j t ht=>(e3 j t ht).mono l⟩
theorem BX.len {h:Hp} {s:Sl} {n m:Nat} {L:Nat->Nat->Bool} (e:BX h s n m L):s.n=m:=by
 obtain⟨ts,e1,e2,_⟩:=e
 have:=e2.2.1
 simp at this;omega
theorem BX.get {h:Hp} {s:Sl} {n m i:Nat} {L:Nat->Nat->Bool} (e:BX h s n m L) (hi:i<m):
  ∃b o t,s.a=some (Addr.mk b o none)/\(i:Int)<(s.n:Int)/\Hp.cell h b (o+Int.toNat (i:Int)*1)=some (Sl.v t)/\dc h t n (L i):=by
 have hl:=e.len
 obtain⟨ts,e1,e2,e3⟩:=e
 obtain⟨t,ht⟩: ∃t,ts[i]?=some t:=⟨_,List.getElem?_eq_getElem (by omega)⟩
 obtain⟨b,o,ha,hc⟩:=SlC.get e2 (by omega)
 refine⟨b,o,t,ha,by omega,?_,e3 i t ht⟩
 rw [Int.toNat_natCast,Nat.mul_one]
 exact hc i _ (by simp [ht])
theorem nD {h:Hp} {b:Nat} {σ:aD} {R:Value->Hp->Prop} (hs:oy h b σ) (ok:σ.Ok)
  (k: ∀s h',h.le h'->BX h' s (2^σ.n) σ.nLay σ.front->R (Sl.v s) h'):dx #[.pointer (some ⟨b,0,none⟩)] h R:=by
 apply xG
 refine uf_ ?_
 have hn:=fh ok
 have h8:=ok.nle
 obtain⟨M,st,hold,bad,next,fx,_⟩:=id hs
 have K0:=Kn.nil h
 refine dF ?_
 (refine kr_ ?_)
 rw [if_neg (by omega),bK (by omega)]
 refine⟨Int.natCast_nonneg _,Int.le_refl _,by omega,by omega,?_⟩
 (with_reducible apply Kn.al);(assumption);(intro b7 h1 K1 l1 hb7)
 rw [Int.toNat_natCast,Nat.mul_one,cn,kI]at K1
 refine dF ?_
 (refine kr_ ?_)
 rw [if_neg (by omega),bK (by omega)]
 refine⟨Int.natCast_nonneg _,Int.le_refl _,by omega,by omega,?_⟩
 (with_reducible apply Kn.al);(assumption);(intro b13 h2 K2 l2 hb13)
 rw [Int.toNat_natCast,Nat.mul_one,cn,kI]at K2
 rw [Int.toNat_natCast]
 refine av (2^σ.n) (fun i vs h'=>vs= [.pointer (some ⟨b,0,none⟩),(arr b7 (2^σ.n)).v,(arr b13 (2^σ.n)).v,I (2^σ.n:Nat),I i]/\
  ∃U,Kn h h' [(b13, .inl ⟨tb (2^σ.n) U,2^σ.n,false⟩),(b7, .inl ⟨tb (2^σ.n) fun _=>false,2^σ.n,false⟩)]/\ ∀j,j<i->U j=σ.begins j)
  ⟨rfl,_,K2,fun j hj=>by omega⟩ ?_
 clear K2 K1 K0 l1 l2 hb7 hb13 h1 h2
 rintro i _ h1 nxt hi ⟨rfl,U,K1,hU⟩ hnx
 refine⟨_,arr b7 _,arr b13 _,_,_,rfl,?_⟩
 by_cases hlt:i<2^σ.n
 ·refine aM (by rw [decide_eq_true_eq];exact_mod_cast hlt) ?_
  refine yA (hs.mono K1.le) ok hlt ⟨_,rfl,?_⟩
  refine⟨b13,0,rfl,by omega,by dsimp only;omega,?_⟩
  (((with_reducible apply Kn.wr);(assumption);((focus ((repeat first|exact .head|apply Upd.tail);done)))))
  ·rw [gR];omega
  intro h2 K2 _
  rw [bG,Nat.zero_add,Int.toNat_natCast,Nat.mul_one,lP]at K2
  rw [aC (by omega)]
  refine hnx hlt _ _ ⟨rfl,_,K2,fun j hj=>?_⟩
  by_cases e:j=i
  ·rw [if_pos e,e]
  ·rw [if_neg e];exact hU j (by omega)
 refine aE (by rw [decide_eq_false_iff_not];omega) ?_
 replace hU: ∀j,j<2^σ.n->U j=σ.front 0 j:=fun j hj=>hU j (by omega)
 clear hnx hi hlt
 refine av (2^σ.n) (fun i vs h'=> ∃(out:Sl) (g:Hp) (bF:Nat) (F V:Nat->Bool) (ts:List Sl),vs= [.pointer (some ⟨b,0,none⟩),(arr b7 (2^σ.n)).v,(arr bF (2^σ.n)).v,out.v]/\
  h.le g/\Kn g (h'.offS out) [(bF, .inl ⟨tb (2^σ.n) F,2^σ.n,false⟩),(b7, .inl ⟨tb (2^σ.n) V,2^σ.n,false⟩)]/\Buf h' out 1 (ts.map Sl.v)/\ts.length=i/\
  (∀(j:Nat) (t:Sl),ts[j]?=some t->dc g t (2^σ.n) (σ.front j))/\(∀j,j<2^σ.n->F j=σ.front i j)/\(∀j,j<2^σ.n->V j=σ.seen i j)/\ ∀j,j<i->σ.live j=true)
  ⟨⟨none,0,0⟩,h,b13,U,_, [],rfl,Hp.le_refl _,K1,eZ _ _,rfl,fun j t ht=>by simp at ht,hU,fun _ _=>rfl,fun j hj=>by omega⟩ ?_
 clear K1 hU U h1 b13
 rintro i _ h1 nxt hi ⟨out,g,bF,F,V,ts,rfl,lg,K1,hB,htl,ht,hF,hV,hlive⟩ hnx
 refine⟨_,arr b7 _,arr bF _,out,rfl,?_⟩
 have K1':=K1.mono (bz h1 out)
 have hbF:dc h1 (arr bF (2^σ.n)) (2^σ.n) (σ.front i):=km (by omega) (K1'.at (.head _)) hF
 have hon:=hB.1
 rw [List.length_map,Nat.mul_one]at hon
 refine zY hbF (by omega) ⟨_,rfl,?_⟩
 refine ac (fun e=>?_) (fun e=>?_)
 rotate_left
 ·have hnl:σ.nLay=i:=aD.nLay_of hlive e
  exact k out h1 (Hp.le_trans lg K1'.le) ⟨ts,by omega,hB.slc_of (by omega),fun j t hj=>(ht j t hj).mono K1'.le⟩
 have hlive': ∀j,j<i+1->σ.live j=true:=fun j hj=>by
  by_cases e2:j=i
  ·rw [e2];exact e
  ·exact hlive j (by omega)
 have hlt:i<2^σ.n:=aD.live_le hlive'
 refine aj fun b55 h2 hb55 l2 f55=>?_
 refine dw (hB.mono l2) (by omega) (by omega) (by omega) ⟨b55,0,rfl,ay f55⟩ (by simp) rfl ?_
 intro s' h3 hs'n hB' l3 _
 have K2:=K1.mono (Hp.le_trans (bP out l2) l3)
 obtain⟨K3,K4⟩:=Kn.split (A:= [(bF, .inl ⟨tb (2^σ.n) F,2^σ.n,false⟩)]) (B:= [(b7, .inl ⟨tb (2^σ.n) V,2^σ.n,false⟩)]) K2
 have lg1:=K4.le
 have fF:=K4.at (.head _)
 generalize (h3.offS s').wo (([(b7, .inl ⟨tb (2^σ.n) V,2^σ.n,false⟩)]:List (Nat×Blk)).map Prod.fst)=g1 at*
 have lh:=Hp.le_trans lg lg1
 have lh3:=Hp.le_trans lh (Hp.le_trans K3.le (bz h3 s'))
 have tF:dc g1 (arr bF (2^σ.n)) (2^σ.n) (σ.front i):=km (by omega) fF hF
 refine Ma (hs.mono lh3) ok (tF.mono (Hp.le_trans K3.le (bz h3 s'))) (fun c hc h' l R kk=>Mn ((hs.mono lh3).mono l) hc kk) fun bN T h4 K5 hT=>⟨_,rfl,?_⟩
 have hbN:h3 bN=none:=K5.new _ (.head _)
 have K6:=K3.cons (b:=bN) (aF (bz h3 s') hbN) (bP s' K5.le) (hB'.offS_new hbN (K5.at (.head _)))
 have hB4:=hB'.mono K5.le
 refine av (2^σ.n) (fun x vs h'=>vs= [.pointer (some ⟨b,0,none⟩),(arr b7 (2^σ.n)).v,(arr bF (2^σ.n)).v,s'.v,(arr bN (2^σ.n)).v,I (2^σ.n:Nat),I x]/\
  ∃T V,Kn g1 (h'.offS s') [(bN, .inl ⟨tb (2^σ.n) T,2^σ.n,false⟩),(b7, .inl ⟨tb (2^σ.n) V,2^σ.n,false⟩)]/\Buf h' s' 1 (ts.map Sl.v++ [(arr bF (2^σ.n)).v])/\
   (∀j,j<2^σ.n->T j=if j<x then σ.front (i+1) j else σ.fwd σ.hold (σ.front i) j)/\ ∀j,j<2^σ.n->V j=if j<x then σ.seen (i+1) j else σ.seen i j)
  ⟨rfl,T,V,K6,hB4,fun j hj=>by rw [if_neg (by omega)];exact hT j hj,fun j hj=>by rw [if_neg (by omega)];exact hV j hj⟩ ?_
 clear K6 hB4 hT hV K5
 rintro x _ h5 nxt2 hx ⟨rfl,T,V,K,B,hT,hV⟩ hnx2
 refine⟨_,arr b7 _,arr bF _,s',arr bN _,_,_,rfl,?_⟩
 by_cases hlx:x<2^σ.n
 rotate_left
 ·refine aE (by rw [decide_eq_false_iff_not];omega) ?_
  refine hnx hlt _ _ ⟨s',g1,bN,T,V,ts++ [arr bF (2^σ.n)],rfl,lh,K,by rw [List.map_append];exact B,by simp [htl],fun j t hj=>?_,fun j hj=>by rw [hT j hj,if_pos (by omega)],
   fun j hj=>by rw [hV j hj,if_pos (by omega)],hlive'⟩
  by_cases hji:j<i
  ·rw [List.getElem?_append_left (by omega)]at hj
   exact(ht j t hj).mono lg1
  ·have hj2:=get_lt hj
   simp at hj2
   rw [List.getElem?_append_right (by omega),show j-ts.length=0 by omega]at hj
   simp at hj;subst hj
   rw [show j=i by omega];exact tF
 refine aM (by rw [decide_eq_true_eq];exact_mod_cast hlx) ?_
 refine ap (fun J=> ∀h'' V',Kn g1 (h''.offS s') [(bN, .inl ⟨tb (2^σ.n) T,2^σ.n,false⟩),(b7, .inl ⟨tb (2^σ.n) V',2^σ.n,false⟩)]->Buf h'' s' 1 (ts.map Sl.v++ [(arr bF (2^σ.n)).v])->
  (∀j,j<2^σ.n->V' j=if j<x+1 then σ.seen (i+1) j else σ.seen i j)->J h'') (fun h6 V' K6 B6 hV6=>?_) (fun J hJ=>?_)
 ·have hTx:T x=σ.fwd σ.hold (σ.front i) x:=by rw [hT x hlx,if_neg (by omega)]
  have hVx:V' x=σ.seen (i+1) x:=by rw [hV6 x hlx,if_pos (by omega)]
  have fin: ∀v h7,v=σ.front (i+1) x->Kn g1 (h7.offS s') [(bN, .inl ⟨(tb (2^σ.n) T).set x (.bool v),2^σ.n,false⟩),(b7, .inl ⟨tb (2^σ.n) V',2^σ.n,false⟩)]->Buf h7 s' 1 (ts.map Sl.v++ [(arr bF (2^σ.n)).v])->
    nxt2 [.pointer (some ⟨b,0,none⟩),(arr b7 (2^σ.n)).v,(arr bF (2^σ.n)).v,s'.v,(arr bN (2^σ.n)).v,I (2^σ.n:Nat),I (W ((x:Int)+1))] h7:=by
   intro v h7 hv K7 B7
   rw [aC (by omega)]
   rw [lP]at K7
   refine hnx2 hlx _ _ ⟨rfl,_,V',K7,B7,fun j hj=>?_,hV6⟩
   by_cases e2:j=x
   ·rw [if_pos e2,if_pos (by omega),e2];exact hv
   ·rw [if_neg e2,hT j hj]
    by_cases e3:j<x
    ·rw [if_pos e3,if_pos (by omega)]
    ·rw [if_neg e3,if_neg (by omega)]
  have K6':=K6.mono (bz h6 s')
  refine⟨bN,0,rfl,by omega,by dsimp only;omega,?_⟩
  refine Kn.rd K6' (.head _) (x:=T x) (by rw [Nat.zero_add,Nat.mul_one,Int.toNat_natCast];exact pQ hlx) ?_
  refine ac (fun e2=>?_) (fun e2=>?_)
  ·refine⟨b7,0,rfl,by omega,by dsimp only;omega,?_⟩
   refine Kn.rd K6' (.tail _ (.head _)) (x:=V' x) (by rw [Nat.zero_add,Nat.mul_one,Int.toNat_natCast];exact pQ hlx) ?_
   refine⟨bN,0,rfl,by omega,by dsimp only;omega,?_⟩
   (with_reducible apply Kn.wrS);(exact K6);((focus ((repeat first|exact .head|apply Upd.tail);done)))
   ·rw [gR];omega
   intro h7 K7 B7 _
   rw [bG,Nat.zero_add,Int.toNat_natCast,Nat.mul_one]at K7
   exact fin _ h7 (by rw [aD.front_succ,<-hTx,e2,hVx];rfl) K7 (B7 _ _ B6)
  ·refine⟨bN,0,rfl,by omega,by dsimp only;omega,?_⟩
   (with_reducible apply Kn.wrS);(exact K6);((focus ((repeat first|exact .head|apply Upd.tail);done)))
   ·rw [gR];omega
   intro h7 K7 B7 _
   rw [bG,Nat.zero_add,Int.toNat_natCast,Nat.mul_one]at K7
   exact fin _ h7 (by rw [aD.front_succ,<-hTx,e2];rfl) K7 (B7 _ _ B6)
 ·have hVx:V x=σ.seen i x:=by rw [hV x hlx,if_neg (by omega)]
  have fin: ∀v h7,v=σ.seen (i+1) x->Kn g1 (h7.offS s') [(bN, .inl ⟨tb (2^σ.n) T,2^σ.n,false⟩),(b7, .inl ⟨(tb (2^σ.n) V).set x (.bool v),2^σ.n,false⟩)]->Buf h7 s' 1 (ts.map Sl.v++ [(arr bF (2^σ.n)).v])->J h7:=by
   intro v h7 hv K7 B7
   rw [lP]at K7
   refine hJ h7 _ K7 B7 fun j hj=>?_
   by_cases e2:j=x
   ·rw [if_pos e2,if_pos (by omega),e2];exact hv
   ·rw [if_neg e2,hV j hj]
    by_cases e3:j<x
    ·rw [if_pos e3,if_pos (by omega)]
    ·rw [if_neg e3,if_neg (by omega)]
  have K':=K.mono (bz h5 s')
  refine⟨b7,0,rfl,by omega,by dsimp only;omega,?_⟩
  refine Kn.rd K' (.tail _ (.head _)) (x:=V x) (by rw [Nat.zero_add,Nat.mul_one,Int.toNat_natCast];exact pQ hlx) ?_
  refine ac (fun e2=>?_) (fun e2=>?_)
  ·refine⟨b7,0,rfl,by omega,by dsimp only;omega,?_⟩
   (with_reducible apply Kn.wrS);(exact K);((focus ((repeat first|exact .head|apply Upd.tail);done)))
   ·rw [gR];omega
   intro h7 K7 B7 _
   rw [bG,Nat.zero_add,Int.toNat_natCast,Nat.mul_one]at K7
   exact fin _ h7 (by rw [aD.seen_succ,<-hVx,e2];rfl) K7 (B7 _ _ B)
  ·refine⟨bF,0,rfl,by omega,by dsimp only;omega,?_⟩
   refine Kn.rg K' fF (x:=F x) (by rw [Nat.zero_add,Nat.mul_one,Int.toNat_natCast];exact pQ hlx) ?_
   refine⟨b7,0,rfl,by omega,by dsimp only;omega,?_⟩
   (with_reducible apply Kn.wrS);(exact K);((focus ((repeat first|exact .head|apply Upd.tail);done)))
   ·rw [gR];omega
   intro h7 K7 B7 _
   rw [bG,Nat.zero_add,Int.toNat_natCast,Nat.mul_one]at K7
   exact fin _ h7 (by rw [aD.seen_succ,<-hVx,e2,hF x hlx];rfl) K7 (B7 _ _ B)
theorem Jy {h:Hp} {b4 b z s c:Nat} {σ:aD} {R:Value->Hp->Prop} (hs:oy h b σ) (f:h b4=some (.inl ⟨[.pointer (some ⟨b,0,none⟩)],z,false⟩)) (hc:c<2^(σ.n+σ.k)) (k:R (.bool (σ.ends c)) h):
  nR #[I s,I c, .pointer (some ⟨b4,0,none⟩)] h R:=by
 apply vG
 refine uf_ ?_
 (refine az ?_)
 exact yR hs hc ⟨_,rfl,k⟩
theorem vC {h:Hp} {b:Nat} {s2:Sl} {σ:aD} {R:Value->Hp->Prop} (hs:oy h b σ) (ok:σ.Ok) (hL:BX h s2 (2^σ.n) σ.nLay σ.front) (k:R (I σ.depthI) h):
  fA #[.pointer (some ⟨b,0,none⟩),s2.v] h R:=by
 refine ACalls.drop (zz ?_)
 refine uf_ ?_
 have hn:=fh ok
 have hnl:=aD.nLay_le σ
 refine aj fun b4 h1 hb4 l1 f4=>?_
 (refine az ?_)
 refine uF (hs.mono l1) ok (f:=fun _ c=>σ.ends c) (fun s i hs' hi h' l R kk=>Jy ((hs.mono l1).mono l) (l _ _ f4) (aD.at_lt hs' hi) kk) fun t h2 l2 ht'=>⟨_,rfl,?_⟩
 have ht:=ht'.mono (sub_le h2 h1)
 have l02:=Hp.le_trans l1 l2
 have hL2:=hL.mono l02
 have hl:=hL.len
 rw [hl]
 refine av σ.nLay (fun i vs h'=>vs= [t.v,s2.v,I σ.nLay,I i]/\h2=h'/\ ∀j,j<i->σ.hits j=false) ⟨rfl,rfl,fun j hj=>by omega⟩ ?_
 rintro i _ _ nxt hi ⟨rfl,rfl,hno⟩ hnx
 refine⟨t,s2,_,_,rfl,?_⟩
 by_cases hlt:i<σ.nLay
 rotate_left
 ·refine aE (by rw [decide_eq_false_iff_not];omega) ⟨h,l02,?_⟩
  have:σ.depth=none:=aD.find_none.2 fun j hj=>hno j (by omega)
  unfold aD.depthI at k
  rw [this]at k;exact k
 refine aM (by rw [decide_eq_true_eq];exact_mod_cast hlt) ?_
 obtain⟨bl,ol,r,ha,h3,h4,hr⟩:=hL2.get hlt
 refine⟨bl,ol,ha,by omega,h3,r,h4,?_⟩
 have hrl:=hr.len
 rw [hrl]
 refine av (2^σ.n) (fun j vs h'=>vs= [t.v,I i,s2.v,I σ.nLay,I i,r.v,I (2^σ.n:Nat),I j]/\h2=h'/\ ∀x,x<j->(σ.front i x&&σ.endsAt x)=false) ⟨rfl,rfl,fun j hj=>by omega⟩ ?_
 rintro j _ _ nxt2 hj ⟨rfl,rfl,hno2⟩ hnx2
 refine⟨t,_,s2,_,_,r,_,_,rfl,?_⟩
 by_cases hlj:j<2^σ.n
 rotate_left
 ·refine aE (by rw [decide_eq_false_iff_not];omega) ?_
  rw [aC (by omega)]
  refine hnx hlt _ _ ⟨rfl,rfl,fun x hx=>?_⟩
  by_cases e:x=i
  ·rw [e];exact qm.2 fun y hy=>hno2 y (by omega)
  ·exact hno x (by omega)
 refine aM (by rw [decide_eq_true_eq];exact_mod_cast hlj) ?_
 have go:(σ.front i j&&σ.endsAt j)=false->nxt2 [t.v,I i,s2.v,I σ.nLay,I i,r.v,I (2^σ.n:Nat),I (W ((j:Int)+1))] h2:=fun e=>by
  rw [aC (by omega)]
  refine hnx2 hlj _ _ ⟨rfl,rfl,fun x hx=>?_⟩
  by_cases e2:x=j
  ·rw [e2];exact e
  ·exact hno2 x (by omega)
 obtain⟨br,or,har,hr1,hr2⟩:=hr.get hlj
 refine⟨br,or,har,by omega,hr1,_,hr2,?_⟩
 refine ac (fun e=>?_) (fun e=>?_)
 ·obtain⟨bt,ot,hat,ht1,ht2⟩:=ht.get hlj
  refine⟨bt,ot,hat,by omega,ht1,_,ht2,?_⟩
  have he:σ.some_ (fun _ c=>σ.ends c) j=σ.endsAt j:=rfl
  refine ac (fun e2=>?_) (fun e2=>?_)
  ·refine⟨h,l02,?_⟩
   have:σ.depth=some i:=aD.depth_some.2 ⟨cF.2 ⟨j,hlj,by rw [e,<-he,e2];rfl⟩,fun x hx=>hno x hx⟩
   unfold aD.depthI at k
   rw [this]at k;exact k
  ·exact go (by rw [<-he,e2,Bool.and_false])
 ·exact go (by rw [e];rfl)
def cw (X:List (Nat×Blk)) (s:Sl) (sz:Nat) (cs:List Value):Prop:=
 cs.length=s.n*sz/\s.n<=s.c/\((X= []/\s=⟨none,0,0⟩/\cs= [])\/ ∃b,s.a=some ⟨b,0,none⟩/\X= [(b, .inl ⟨cs,s.c*sz,false⟩)])
theorem cD (sz:Nat):cw [] ⟨none,0,0⟩ sz []:=⟨by simp,Nat.le_refl _, .inl ⟨rfl,rfl,rfl⟩⟩
theorem cw.buf {X:List (Nat×Blk)} {h:Hp} {s:Sl} {sz:Nat} {cs:List Value} (o:cw X s sz cs) (m: ∀e∈X,h e.1=some e.2):Buf h s sz cs:=by
 refine⟨o.1,o.2.1,?_⟩
 rcases o.2.2 with ⟨_,rfl,_⟩|⟨b,ha,rfl⟩
 ·exact .inl ⟨rfl,rfl,rfl⟩
 ·exact .inr ⟨b,ha,m _ (.head _)⟩
theorem Kn.perm {g h:Hp} {L L':List (Nat×Blk)} (K:Kn g h L) (p:L.Perm L'):Kn g h L':=K.sub (fun e he=>p.mem_iff.2 he) ((p.map Prod.fst).nodup_iff.1 K.nd)
theorem Kn.grow {g h:Hp} {X L:List (Nat×Blk)} {s:Sl} {sz by_ m:Nat} {cs news:List Value} {src:Option Addr} {C:Option Addr->Nat->Nat->Hp->Prop}
  (K:Kn g h (X++L)) (o:cw X s sz cs) (hm:0<m) (hsz:(s.n+m)*by_<=140737488355328) (hsz':s.n+m<=9223372036854775807)
  (hs: ∃sb so,src=some ⟨sb,so,none⟩/\gO h sb so news) (hl:news.length=m*sz) (ho:news.all (·.oneCell')=true)
  (k: ∀s' X' h',s'.n=s.n+m->cw X' s' sz (cs++news)->Kn g h' (X'++L)->(h.offS s).le h'->C s'.a s'.n s'.c h'):co h s.a s.n s.c src m sz by_ C:=by
 refine dw (o.buf fun e he=>K.mem e (List.mem_append_left _ he)) hm hsz hsz' hs hl ho fun s' h' hn B l _=>?_
 have nd:=K.nd
 rw [List.map_append,List.nodup_append]at nd
 have base:g.le (h.offS s)/\ ∀e∈L,(h.offS s) e.1=some e.2:=by
  rcases o.2.2 with ⟨_,rfl,_⟩|⟨b,ha,rfl⟩
  ·exact⟨K.le,fun e he=>K.mem e (List.mem_append_right _ he)⟩
  ·unfold Hp.offS
   rw [ha]
   refine⟨vU (K.new (b,_) (.head _)) K.le,fun e he=>?_⟩
   have hne:e.1≠b:=fun hb=>nd.2.2 b (by simp) e.1 (List.mem_map.2 ⟨e,he,rfl⟩) hb.symm
   simp only [Hp.off,Hp.set]
   rw [if_neg hne];exact K.mem e (List.mem_append_right _ he)
 rcases B.2.2 with ⟨_,h0,_⟩|⟨b,ha,hb⟩
 ·omega
 have hoff:(h'.offS s') b=none:=by simp [Hp.offS,ha,Hp.off,Hp.set]
 refine k s' [(b, .inl ⟨cs++news,s'.c*sz,false⟩)] h' hn ⟨B.1,B.2.1, .inr ⟨b,ha,rfl⟩⟩ ?_ (Hp.le_trans l (bz h' s'))
 have lo:=bz h' s'
 have hg:g b=none:=by
  cases hgb:g b with
  |none=>rfl
  |some x=>rw [l _ _ (base.1 _ _ hgb)]at hoff;cases hoff
 refine⟨Hp.le_trans base.1 (Hp.le_trans l lo),fun e he=>?_,fun e he=>?_,?_⟩
 ·rcases List.mem_cons.1 he with rfl|he
  ·exact hb
  ·exact lo _ _ (l _ _ (base.2 e he))
 ·rcases List.mem_cons.1 he with rfl|he
  ·exact hg
  ·exact K.new e (List.mem_append_right _ he)
 ·show (b::L.map Prod.fst).Nodup
  rw [List.nodup_cons]
  refine⟨fun hm=>?_,nd.2.1⟩
  obtain⟨e,he,heb⟩:=List.mem_map.1 hm
  have:=l _ _ (base.2 e he)
  rw [heb,hoff]at this;cases this
theorem Kn.growIn {g h:Hp} {A X L:List (Nat×Blk)} {s:Sl} {sz by_ m:Nat} {cs news:List Value} {src:Option Addr} {C:Option Addr->Nat->Nat->Hp->Prop}
  (K:Kn g h (A++(X++L))) (o:cw X s sz cs) (hm:0<m) (hsz:(s.n+m)*by_<=140737488355328) (hsz':s.n+m<=9223372036854775807)
  (hs: ∃sb so,src=some ⟨sb,so,none⟩/\gO h sb so news) (hl:news.length=m*sz) (ho:news.all (·.oneCell')=true)
  (k: ∀s' X' h',s'.n=s.n+m->cw X' s' sz (cs++news)->Kn g h' (A++(X'++L))->(h.offS s).le h'->C s'.a s'.n s'.c h'):co h s.a s.n s.c src m sz by_ C:=by
 have sw: ∀Y:List (Nat×Blk),(A++(Y++L)).Perm (Y++(A++L)):=fun Y=>by
  rw [<-List.append_assoc,<-List.append_assoc]
  exact List.perm_append_comm.append_right L
 exact Kn.grow (K.perm (sw X)) o hm hsz hsz' hs hl ho fun s' X' h' hn o' K' l=>k s' X' h' hn o' (K'.perm (sw X').symm) l
theorem Kn.growIn2 {g h:Hp} {A Y X L:List (Nat×Blk)} {s:Sl} {sz by_ m:Nat} {cs news:List Value} {src:Option Addr} {C:Option Addr->Nat->Nat->Hp->Prop}
  (K:Kn g h (A++(Y++(X++L)))) (o:cw X s sz cs) (hm:0<m) (hsz:(s.n+m)*by_<=140737488355328) (hsz':s.n+m<=9223372036854775807)
  (hs: ∃sb so,src=some ⟨sb,so,none⟩/\gO h sb so news) (hl:news.length=m*sz) (ho:news.all (·.oneCell')=true)
  (k: ∀s' X' h',s'.n=s.n+m->cw X' s' sz (cs++news)->Kn g h' (A++(Y++(X'++L)))->(h.offS s).le h'->C s'.a s'.n s'.c h'):co h s.a s.n s.c src m sz by_ C:=by
 have sw: ∀Z:List (Nat×Blk),(A++(Y++(Z++L))).Perm (A++(Z++(Y++L))):=fun Z=>by
  refine List.Perm.append_left A ?_
  rw [<-List.append_assoc,<-List.append_assoc]
  exact List.perm_append_comm.append_right L
 exact Kn.growIn (K.perm (sw X)) o hm hsz hsz' hs hl ho fun s' X' h' hn o' K' l=>k s' X' h' hn o' (K'.perm (sw X').symm) l
theorem Kn.growIn3 {g h:Hp} {A Y Z X L:List (Nat×Blk)} {s:Sl} {sz by_ m:Nat} {cs news:List Value} {src:Option Addr} {C:Option Addr->Nat->Nat->Hp->Prop}
  (K:Kn g h (A++(Y++(Z++(X++L))))) (o:cw X s sz cs) (hm:0<m) (hsz:(s.n+m)*by_<=140737488355328) (hsz':s.n+m<=9223372036854775807)
  (hs: ∃sb so,src=some ⟨sb,so,none⟩/\gO h sb so news) (hl:news.length=m*sz) (ho:news.all (·.oneCell')=true)
  (k: ∀s' X' h',s'.n=s.n+m->cw X' s' sz (cs++news)->Kn g h' (A++(Y++(Z++(X'++L))))->(h.offS s).le h'->C s'.a s'.n s'.c h'):co h s.a s.n s.c src m sz by_ C:=by
 have sw: ∀W:List (Nat×Blk),(A++(Y++(Z++(W++L)))).Perm (A++((Y++Z)++(W++L))):=fun W=>by rw [<-List.append_assoc Y Z]
 exact Kn.growIn2 (K.perm (sw X)) o hm hsz hsz' hs hl ho fun s' X' h' hn o' K' l=>k s' X' h' hn o' (K'.perm (sw X').symm) l
theorem gD.offG {X:List (Nat×Blk)} {h:Hp} {A s:Sl} {f:Nat->Bool} {n:Nat} {vs:List (List Nat)} (e:gD h s vs) (o:cw X A 1 ((List.range n).map fun i=> .bool (f i))) (m: ∀e∈X,h e.1=some e.2):gD (h.offS A) s vs:=by
 rcases o.2.2 with ⟨_,rfl,_⟩|⟨b,ha,rfl⟩
 ·exact e
 ·unfold Hp.offS
  rw [ha]
  refine e.keep (m _ (.head _)) (fun j i hj=>?_) (fun j t hj=>?_) fun c hc=>by simp [Hp.off,Hp.set,hc]
  ·simp only [List.getElem?_map,Option.map_eq_some_iff]at hj
   obtain⟨a,_,hj⟩:=hj
   cases hj
  ·simp only [List.getElem?_map,Option.map_eq_some_iff]at hj
   obtain⟨a,_,hj⟩:=hj
   cases hj
theorem gD.keepB {h h':Hp} {s:Sl} {b:Nat} {vs:List (List Nat)} (e:gD h s vs) (n: ∀o,s.a≠some (Addr.mk b o none)) (kp: ∀c,c≠b->h' c=h c) (ki: ∀o i,Hp.cell h b o=some (I i)->Hp.cell h' b o=some (I i)):gD h' s vs:=by
 have hc: ∀c o i,Hp.cell h c o=some (I i)->Hp.cell h' c o=some (I i):=fun c o i hi=>by
  by_cases e2:c=b
  ·subst e2;exact ki o i hi
  ·unfold Hp.cell at hi⊢;rw [kp c e2];exact hi
 refine⟨e.1,e.2.1,fun p hp=>?_⟩
 obtain⟨b',o,t,h1,h2,h3⟩:=e.2.2 p hp
 refine⟨b',o,t,h1,?_,h3.1,h3.2.1,h3.2.2.imp id ?_⟩
 ·have hne:b'≠b:=by rintro rfl;exact n o h1
  unfold Hp.cell at h2⊢;rw [kp b' hne];exact h2
 ·rintro ⟨c,o',ha,hcs⟩
  refine⟨c,o',ha,fun i v hv=>?_⟩
  have hvI:=hv
  rw [List.getElem?_map,Option.map_eq_some_iff]at hvI
  obtain⟨x,_,rfl⟩:=hvI
  exact hc _ _ _ (hcs i _ hv)
structure Cm where
 hs:Sl
 es:Sl
 ns:Sl
 fs:Sl
 bs:Sl
abbrev CC (σ:aD) (q:Cm):List Value:= [I (2^σ.n:Nat),I (2^σ.k:Nat),q.hs.v,q.es.v,q.ns.v,q.fs.v,q.bs.v]
abbrev EL (σ:aD) (q:Cm):Value:= .agg #[I (2^σ.n:Nat),I (2^σ.k:Nat),q.hs.v,q.es.v,q.ns.v,q.fs.v,q.bs.v]
def A5 (h:Hp) (q:Cm) (σ:aD):Prop:=dc h q.hs (2^(σ.n+σ.k)) σ.hold/\dc h q.es (2^(σ.n+σ.k)) σ.ends/\Bi h q.ns (2^(σ.n+σ.k)) σ.next/\
 (∃fm,fm+σ.fixed=2^σ.n-1/\IntS h q.fs (VL (eM fm)))/\dc h q.bs (2^σ.n) σ.begins
theorem A5.mono {h h':Hp} {q:Cm} {σ:aD} (l:h.le h') (e:A5 h q σ):A5 h' q σ:=by
 obtain⟨a,b,c,⟨fm,d1,d2⟩,f⟩:=e
 exact⟨a.mono l,b.mono l,c.mono l,⟨fm,d1,d2.mono l⟩,f.mono l⟩
theorem r6 {α:Type} (f:Nat->α) (c:Nat):(List.range (c+1)).map f=(List.range c).map f++ [f c]:=by rw [List.range_succ,List.map_append];rfl
theorem Qu {m:ah} (g:dj m):kL m+(aG m).fixed=2^(aG m).n-1:=by
 have:=Wh m.nodes (fun p=>(cf m.nexts p).isSome) (stP m)
 have e:=fq g
 show kL m+PW m m.nexts=2^ak m.nodes 36-1
 rw [<-e,<-this,Nat.add_comm];rfl
theorem pP {h:Hp} {M:MSl} {m:ah} {R:Value->Hp->Prop} (hs:aO h M m) (hm:bW m) (hc0:ax m=0)
  (k: ∀q h',h.le h'->A5 h' q (aG m)->R (EL (aG m) q) h'):gW #[aQ M] h R:=by
 apply Mt
 refine uf_ ?_
 have g:=cr hc0
 have hn8:=g.n8
 have hk5':=g.k5
 have ok:=gX g
 have hp8:=fh ok
 have hk5:=Df ok
 have hp13:=qR ok
 have hnk:=aD.pow_nk (aG m)
 have K0:=Kn.nil h
 (with_reducible apply Kn.al);(assumption);(intro b7 h1 K1 l1 hb7)
 (with_reducible apply Kn.al);(assumption);(intro b9 h2 K2 l2 hb9)
 clear K0 K1 l1 hb7
 repeat' (refine kr_ ?_)
 refine gC (hs.mono K2.le) hm ⟨_,rfl,?_⟩
 repeat' (refine kr_ ?_)
 refine gC (hs.mono K2.le) hm ⟨_,rfl,?_⟩
 rw [cu (by omega),cu (by omega),if_neg (by omega),if_neg (by omega),bK (by omega),bK (by omega),show ak m.nodes 36=(aG m).n from rfl,show ak m.nodes 35=(aG m).k from rfl]
 repeat' (refine kr_ ?_)
 refine LV (hs.mono K2.le) hm g fun F h3 l3 hF=>⟨_,rfl,?_⟩
 have hF':IntS (h3.wo (([(b9, .inl ⟨[I 0,I 0, .slice none 0 0, .slice none 0 0, .slice none 0 0, .slice none 0 0, .slice none 0 0],7,false⟩),(b7, .inl ⟨aw M,5,false⟩)]:List (Nat×Blk)).map Prod.fst)) F (VL (eM (kL m))):=
  SlC.mono (sW (sub_le _ _) fun b hb=>by
   cases hx:h2 b with
   |none=>exact absurd hx (K2.has b hb)
   |some x=>exact mC hx) hF
 have K3:=(K2.mono l3).base
 have lg:=(K2.mono l3).leBase
 clear hF K2
 generalize h3.wo (([(b9, .inl ⟨[I 0,I 0, .slice none 0 0, .slice none 0 0, .slice none 0 0, .slice none 0 0, .slice none 0 0],7,false⟩),(b7, .inl ⟨aw M,5,false⟩)]:List (Nat×Blk)).map Prod.fst)=g3 at*
 have hs3:=hs.mono lg
 (with_reducible apply Kn.al);(assumption);(intro b38 h4 K4 l4 hb38)
 (((with_reducible apply Kn.wr);(assumption);((focus ((repeat first|exact .head|apply Upd.tail);done)))))
 ·exact Nat.le_refl _
 intro h5 K5 kp5
 simp only [cz,List.set_cons_zero,List.set_cons_succ,Nat.zero_add,Nat.reduceAdd]at K5
 clear kp5 K4 l4 hb38
 refine av (2^((aG m).n+(aG m).k)) (fun c vs h'=> ∃(A B C:Sl) (XA XB XC:List (Nat×Blk)),vs= [.pointer (some ⟨b7,0,none⟩), .pointer (some ⟨b9,0,none⟩), .pointer (some ⟨b38,0,none⟩),I c]/\
  Kn g3 h' ((b38, .inl ⟨[I (2^(aG m).n:Nat),I (2^(aG m).k:Nat),A.v,B.v,C.v,F.v,(⟨none,0,0⟩:Sl).v],7,false⟩)::(b9, .inl ⟨[I 0,I 0, .slice none 0 0, .slice none 0 0, .slice none 0 0, .slice none 0 0, .slice none 0 0],7,false⟩)::(b7, .inl ⟨aw M,5,false⟩)::(XA++(XB++(XC++ []))))/\cw XA A 1 ((List.range c).map fun i=> .bool ((aG m).hold i))/\cw XB B 1 ((List.range c).map fun i=> .bool ((aG m).ends i))/\
   cw XC C 1 ((List.range c).map fun i=>I ((aG m).next i:Nat))) ⟨⟨none,0,0⟩,⟨none,0,0⟩,⟨none,0,0⟩, [], [], [],rfl,K5,cD _,cD _,cD _⟩ ?_
 clear K5 h5
 rintro c _ h5 nxt hc ⟨A,B,C,XA,XB,XC,rfl,K,oA,oB,oC⟩ hnx
 refine⟨b7,0,b9,0,b38,0,_,rfl,?_⟩
 repeat' (refine kr_ ?_)
 have hxy:((2^(aG m).n:Nat):Int)*((2^(aG m).k:Nat):Int)=((2^((aG m).n+(aG m).k):Nat):Int):=by rw [hnk,<-Int.natCast_mul,Nat.mul_comm]
 rw [hxy,eO (by omega)]
 have hAn:A.n=c:=by have:=oA.1;simp at this;omega
 have hBn:B.n=c:=by have:=oB.1;simp at this;omega
 have hCn:C.n=c:=by have:=oC.1;simp at this;omega
 by_cases hlt:c<2^((aG m).n+(aG m).k)
 ·refine aM (by rw [decide_eq_true_eq];exact_mod_cast hlt) ?_
  repeat' (refine kr_ ?_)
  refine z9 (hs3.mono K.le) hm g hlt fun t h6 l6 htn hpv hnew=>⟨t,rfl,?_⟩
  have n38: ∀o,t.a≠some (Addr.mk b38 o none):=fun o ho=>by have:=hnew _ _ ho;rw [K.at (.head _)]at this;cases this
  replace K:=K.mono l6
  have a:CA m (cl m (c%2^ak m.nodes 36) (c/2^ak m.nodes 36)):=eD g _ _
  have hv1:(aG m).hold c=gZ m (cl m (c%2^ak m.nodes 36) (c/2^ak m.nodes 36)):=rfl
  have hv2:(aG m).bad c=(qC m (cl m (c%2^ak m.nodes 36) (c/2^ak m.nodes 36))).isSome:=rfl
  have hv3:(aG m).next c=mr m (c%2^ak m.nodes 36) (c/2^ak m.nodes 36):=rfl
  repeat' (refine kr_ ?_)
  refine v5 (hs3.mono K.le) g hpv a ⟨_,rfl,?_⟩
  repeat' (refine kr_ ?_)
  rw [<-hv1]
  refine aj fun b80 h7 hb80 l7 f80=>?_
  replace K:=K.mono l7
  replace hpv:=hpv.mono l7
  refine Kn.growIn (A:= [_,_,_]) K oA (by omega) (by omega) (by omega) ⟨b80,0,rfl,ay f80⟩ rfl rfl fun A' XA' h8 hn' oA' K8 l8=>?_
  replace hpv:=(hpv.offG oA fun e he=>K.mem e (by simp [he])).mono l8
  simp only [List.cons_append,List.nil_append]at K8
  (((with_reducible apply Kn.wr);(assumption);((focus ((repeat first|exact .head|apply Upd.tail);done)))))
  ·simp
  intro h9 K9 kp9
  have f8:=K8.at (.head _)
  have f9:=K9.at (.head _)
  simp only [bG,List.set_cons_zero,List.set_cons_succ,Nat.zero_add,Nat.reduceAdd]at K9
  rw [bG]at f9
  replace hpv:=hpv.keepB n38 kp9 fun o i hi=>by
   rw [aq f8]at hi
   rw [aq f9,List.getElem?_set]
   by_cases e:0+2=o
   ·subst e;simp at hi
   ·rw [if_neg e];exact hi
  clear f8 f9
  refine ap (fun J=> ∀(B':Sl) (XB':List (Nat×Blk)) (h':Hp),Kn g3 h' ((b38, .inl ⟨[I (2^(aG m).n:Nat),I (2^(aG m).k:Nat),A'.v,B'.v,C.v,F.v,(⟨none,0,0⟩:Sl).v],7,false⟩)::(b9, .inl ⟨[I 0,I 0, .slice none 0 0, .slice none 0 0, .slice none 0 0, .slice none 0 0, .slice none 0 0],7,false⟩)::(b7, .inl ⟨aw M,5,false⟩)::(XA'++(XB'++(XC++ []))))->cw XB' B' 1 ((List.range (c+1)).map fun i=> .bool ((aG m).ends i))->J h') (fun B' XB' h10 K10 oB'=>?_) (fun J hJ=>?_)
  ·clear K9 K8 K hpv
   have hcm:c%2^(aG m).n<=c:=Nat.mod_le _ _
   have hcd:c/2^(aG m).n<=c:=Nat.div_le_self _ _
   have hpos:=Nat.two_pow_pos (aG m).n
   repeat' (refine kr_ ?_)
   rw [if_neg (by omega)]
   repeat' (refine kr_ ?_)
   rw [if_neg (by omega),eU,show Int.tdiv (c:Int) ((2^(aG m).n:Nat):Int)=((c/2^(aG m).n:Nat):Int)from rfl,eO (by omega)]
   refine EG (hs3.mono K10.le) hm g (by omega) (by omega) ⟨_,rfl,?_⟩
   repeat' (refine kr_ ?_)
   refine aj fun b131 h11 hb131 l11 f131=>?_
   have K11:=K10.mono l11
   repeat' (refine kr_ ?_)
   refine Kn.growIn3 (A:= [_,_,_]) K11 oC (by omega) (by omega) (by omega) ⟨b131,0,rfl,ay f131⟩ rfl rfl fun C' XC' h12 hn2 oC' K12 _=>?_
   simp only [List.cons_append,List.nil_append]at K12
   (((with_reducible apply Kn.wr);(assumption);((focus ((repeat first|exact .head|apply Upd.tail);done)))))
   ·simp
   intro h13 K13 _
   simp only [bG,List.set_cons_zero,List.set_cons_succ,Nat.zero_add,Nat.reduceAdd]at K13
   rw [aC (by omega)]
   exact hnx hlt _ _ ⟨A',B',C',XA',XB',XC',rfl,K13,by rw [r6];exact oA',oB',by rw [r6];exact oC'⟩
  ·clear K8 K
   refine ac (fun e1=>?_) (fun e1=>?_)
   ·repeat' (refine kr_ ?_)
    refine Ar (hs3.mono K9.le) g hpv a ⟨_,rfl,?_⟩
    repeat' (refine kr_ ?_)
    rw [AW,<-hv2]
    refine aj fun b99 h11 hb99 l11 f99=>?_
    have K11:=K9.mono l11
    repeat' (refine kr_ ?_)
    refine Kn.growIn2 (A:= [_,_,_]) K11 oB (by omega) (by omega) (by omega) ⟨b99,0,rfl,ay f99⟩ rfl rfl fun B' XB' h12 hn2 oB' K12 _=>?_
    simp only [List.cons_append,List.nil_append]at K12
    (((with_reducible apply Kn.wr);(assumption);((focus ((repeat first|exact .head|apply Upd.tail);done)))))
    ·simp
    intro h13 K13 _
    simp only [bG,List.set_cons_zero,List.set_cons_succ,Nat.zero_add,Nat.reduceAdd]at K13
    exact hJ B' XB' h13 K13 (by rw [r6];unfold aD.ends;rw [e1];exact oB')
   ·repeat' (refine kr_ ?_)
    refine aj fun b99 h11 hb99 l11 f99=>?_
    have K11:=K9.mono l11
    repeat' (refine kr_ ?_)
    refine Kn.growIn2 (A:= [_,_,_]) K11 oB (by omega) (by omega) (by omega) ⟨b99,0,rfl,ay f99⟩ rfl rfl fun B' XB' h12 hn2 oB' K12 _=>?_
    simp only [List.cons_append,List.nil_append]at K12
    (((with_reducible apply Kn.wr);(assumption);((focus ((repeat first|exact .head|apply Upd.tail);done)))))
    ·simp
    intro h13 K13 _
    simp only [bG,List.set_cons_zero,List.set_cons_succ,Nat.zero_add,Nat.reduceAdd]at K13
    exact hJ B' XB' h13 K13 (by rw [r6];unfold aD.ends;rw [e1];exact oB')
 ·refine aE (by rw [decide_eq_false_iff_not];omega) ?_
  clear hnx
  have hce:c=2^((aG m).n+(aG m).k):=by omega
  refine av (2^(aG m).n) (fun d vs h'=> ∃(D:Sl) (XD:List (Nat×Blk)),vs= [.pointer (some ⟨b7,0,none⟩), .pointer (some ⟨b9,0,none⟩), .pointer (some ⟨b38,0,none⟩),I d]/\
   Kn g3 h' ((b38, .inl ⟨[I (2^(aG m).n:Nat),I (2^(aG m).k:Nat),A.v,B.v,C.v,F.v,D.v],7,false⟩)::(b9, .inl ⟨[I 0,I 0, .slice none 0 0, .slice none 0 0, .slice none 0 0, .slice none 0 0, .slice none 0 0],7,false⟩)::(b7, .inl ⟨aw M,5,false⟩)::(XD++(XA++(XB++(XC++ [])))))/\cw XD D 1 ((List.range d).map fun i=> .bool ((aG m).begins i))) ⟨⟨none,0,0⟩, [],rfl,K,cD _⟩ ?_
  clear K h5 hlt hc
  rintro d _ h5 nxt2 hd ⟨D,XD,rfl,K,oD⟩ hnx2
  have hDn:D.n=d:=by have:=oD.1;simp at this;omega
  refine⟨b7,0,b9,0,b38,0,_,rfl,?_⟩
  repeat' (refine kr_ ?_)
  by_cases hld:d<2^(aG m).n
  ·refine aM (by rw [decide_eq_true_eq];exact_mod_cast hld) ?_
   repeat' (refine kr_ ?_)
   refine cU (hs3.mono K.le) hm fun p h6 l6 ip=>⟨p,rfl,?_⟩
   have K6:=K.mono l6
   repeat' (refine kr_ ?_)
   refine gf (hs3.mono K6.le) hm g.ok ip (cO g 36) (jb g 36) (by omega) (by have:=fq g;show cC m.nodes (stP m)<=60;omega) fun u h7 l7 iu=>⟨u,rfl,?_⟩
   have K7:=K6.mono l7
   repeat' (refine kr_ ?_)
   refine kb (hs3.mono K7.le) hm hc0 iu (by rw [qi];exact Nk _ _ _) ⟨_,rfl,?_⟩
   have hb:gj (stP m) (ez m) (fy m.nodes (aH m.nodes 36) d) (stP m).length=(aG m).begins d:=by
    rw [Bool.eq_iff_iff,jl,wh g]
   rw [hb]
   repeat' (refine kr_ ?_)
   refine aj fun b184 h8 hb184 l8 f184=>?_
   have K8:=K7.mono l8
   repeat' (refine kr_ ?_)
   refine Kn.growIn (A:= [_,_,_]) K8 oD (by omega) (by omega) (by omega) ⟨b184,0,rfl,ay f184⟩ rfl rfl fun D' XD' h9 hn2 oD' K9 _=>?_
   simp only [List.cons_append,List.nil_append]at K9
   (((with_reducible apply Kn.wr);(assumption);((focus ((repeat first|exact .head|apply Upd.tail);done)))))
   ·simp
   intro h10 K10 _
   simp only [bG,List.set_cons_zero,List.set_cons_succ,Nat.zero_add,Nat.reduceAdd]at K10
   rw [aC (by omega)]
   exact hnx2 hld _ _ ⟨D',XD',rfl,K10,by rw [r6];exact oD'⟩
  ·have hde:d=2^(aG m).n:=by omega
   refine aE (by rw [decide_eq_false_iff_not];omega) ?_
   clear hnx2
   repeat' (refine kr_ ?_)
   (((with_reducible apply Kn.wr);(assumption);((focus ((repeat first|exact .head|apply Upd.tail);done)))))
   ·simp
   intro h6 K6 _
   simp only [cz,List.set_cons_zero,List.set_cons_succ,Nat.zero_add,Nat.reduceAdd]at K6
   repeat' (refine kr_ ?_)
   subst hce hde
   refine k ⟨A,B,C,F,D⟩ h6 (Hp.le_trans lg K6.le) ⟨?_,?_,?_,⟨kL m,Qu g,hF'.mono K6.le⟩,?_⟩
   ·have:=(oA.buf fun e he=>K6.mem e (by simp [he])).slc_of (by omega)
    unfold dc rD;rw [List.map_map];exact this
   ·have:=(oB.buf fun e he=>K6.mem e (by simp [he])).slc_of (by omega)
    unfold dc rD;rw [List.map_map];exact this
   ·have:=(oC.buf fun e he=>K6.mem e (by simp [he])).slc_of (by omega)
    unfold Bi IntS VL;rw [List.map_map,List.map_map];exact this
   ·have:=(oD.buf fun e he=>K6.mem e (by simp [he])).slc_of (by omega)
    unfold dc rD;rw [List.map_map];exact this
theorem Lt {h:Hp} {s:Sl} {N:Nat} {T:Nat->Bool} {R:Value->Hp->Prop} (hT:dc h s N T) (hN:N<=1048576) (k:R (.bool (pd N T)) h):sZ #[s.v] h R:=by
 apply Ho
 refine uf_ ?_
 have hl:=hT.len
 refine av N (fun i vs h'=>vs= [s.v,I i]/\h=h'/\ ∀j,j<i->T j=false) ⟨rfl,rfl,fun j hj=>by omega⟩ ?_
 rintro i _ _ next hi ⟨rfl,rfl,hj⟩ hnx
 refine⟨s,_,rfl,?_⟩
 by_cases hlt:i<N
 ·refine aM (by rw [decide_eq_true_eq];omega) ?_
  obtain⟨b,o,ha,h1,h2⟩:=hT.get hlt
  refine⟨b,o,ha,by omega,h1,_,h2,?_⟩
  refine ac (fun e=>?_) (fun e=>?_)
  ·rw [cF.2 ⟨i,hlt,e⟩]at k;exact k
  ·rw [aC (by omega)]
   refine hnx hlt _ _ ⟨rfl,rfl,fun j hji=>?_⟩
   by_cases eq:j=i
   ·rw [eq];exact e
   ·exact hj j (by omega)
 ·refine aE (by rw [decide_eq_false_iff_not];omega) ?_
  rw [qm.2 fun j hjn=>hj j (by omega)]at k;exact k
theorem JZ {σ:aD} (S:Nat->Bool):pd (2^(σ.n+σ.k)) (fun c=>S (c%2^σ.n)&&σ.ends c)=σ.met S:=by
 rw [Bool.eq_iff_iff,cF]
 unfold aD.met
 rw [cF]
 constructor
 ·rintro ⟨c,hc,e⟩
  rw [Bool.and_eq_true]at e
  obtain⟨h1,h2,h3⟩:=aD.at_of hc
  refine⟨c%2^σ.n,h1,?_⟩
  rw [e.1,Bool.true_and,aD.endsAt_iff]
  have:=e.2
  unfold aD.ends at this
  rw [Bool.and_eq_true]at this
  exact⟨c/2^σ.n,h2,by rw [h3];exact this⟩
 ·rintro ⟨s,hs,e⟩
  rw [Bool.and_eq_true,aD.endsAt_iff]at e
  obtain⟨e1,x,hx,e2,e3⟩:=e
  refine⟨σ.at_ s x,aD.at_lt hs hx,?_⟩
  unfold aD.ends
  rw [aD.at_mod hs,e1,e2,e3];rfl
theorem xz {h:Hp} {q:Cm} {σ:aD} {s:Sl} {S:Nat->Bool} {R:Value->Hp->Prop} (hq:A5 h q σ) (ok:σ.Ok) (hS:dc h s (2^σ.n) S) (k:R (.bool (σ.met S)) h):
  mz #[EL σ q,s.v] h R:=by
 refine ACalls.drop (IZ ?_)
 refine uf_ ?_
 have hn:=fh ok
 have hp:=qR ok
 have hpos:=Nat.two_pow_pos σ.n
 refine aj fun b10 h1 hb10 l1 f10=>?_
 have he:=hq.2.1.mono l1
 have hS1:=hS.mono l1
 have hel:=he.len
 refine av (2^(σ.n+σ.k)) (fun i vs h'=>vs= [s.v, .pointer (some ⟨b10,0,none⟩),I i]/\h1=h'/\ ∀j,j<i->(S (j%2^σ.n)&&σ.ends j)=false) ⟨rfl,rfl,fun j hj=>by omega⟩ ?_
 rintro i _ _ next hi ⟨rfl,rfl,hj⟩ hnx
 refine⟨s,b10,0,_,rfl,?_⟩
 (refine az ?_)
 by_cases hlt:i<2^(σ.n+σ.k)
 ·refine aM (by rw [decide_eq_true_eq];omega) ?_
  have go:(S (i%2^σ.n)&&σ.ends i)=false->next [s.v, .pointer (some ⟨b10,0,none⟩),I (W ((i:Int)+1))] h1:=fun e=>by
   rw [aC (by omega)]
   refine hnx hlt _ _ ⟨rfl,rfl,fun j hji=>?_⟩
   by_cases eq:j=i
   ·rw [eq];exact e
   ·exact hj j (by omega)
  (refine az ?_)
  rw [if_neg (by omega),eU]
  obtain⟨b,o,ha,h2,h3⟩:=hS1.get (i:=i%2^σ.n) (Nat.mod_lt _ hpos)
  refine⟨b,o,ha,by omega,h2,_,h3,?_⟩
  refine ac (fun e=>?_) (fun e=>?_)
  ·(refine az ?_)
   obtain⟨b,o,ha,h2,h3⟩:=he.get hlt
   refine⟨b,o,ha,by omega,h2,_,h3,?_⟩
   refine ac (fun e2=>?_) (fun e2=>?_)
   ·refine⟨h,l1,?_⟩
    rw [<-JZ,cF.2 ⟨i,hlt,by rw [e,e2];rfl⟩]at k;exact k
   ·exact go (by rw [e2,Bool.and_false])
  ·exact go (by rw [e];rfl)
 ·refine aE (by rw [decide_eq_false_iff_not];omega) ⟨h,l1,?_⟩
  rw [<-JZ,qm.2 fun j hjn=>hj j (by omega)]at k;exact k
theorem CT {k f:Nat}:f∈eM k↔f&&&k=f:=by
 unfold eM
 rw [List.mem_filter,List.mem_range,decide_eq_true_eq]
 refine⟨fun h=>h.2,fun h=>⟨?_,h⟩⟩
 have:f&&&k<=k:=Nat.and_le_right
 omega
theorem nA {σ:aD} {fm c t:Nat} (ok:σ.Ok) (hfm:fm+σ.fixed=2^σ.n-1) (hc:c<2^(σ.n+σ.k)) (ht:t<2^σ.n):σ.goes c t=true↔ ∃f,f∈eM fm/\σ.next c+f=t:=by
 unfold aD.goes
 rw [decide_eq_true_eq,WH (y:=fm) (by omega) ok.fixed ht (ok.next c hc) (ok.held c hc)]
 constructor
 ·rintro ⟨f,h1,h2⟩;exact⟨f,CT.2 h1,h2⟩
 ·rintro ⟨f,h1,h2⟩;exact⟨f,CT.1 h1,h2⟩
theorem Bu {σ:aD} {fm c f:Nat} (ok:σ.Ok) (hfm:fm+σ.fixed=2^σ.n-1) (hc:c<2^(σ.n+σ.k)) (hf:f∈eM fm):σ.next c+f<2^σ.n:=by
 have h1:=CT.1 hf
 have h2:f&&&fm<=fm:=Nat.and_le_right
 have h3:=ok.held c hc
 have h4:σ.next c&&&σ.fixed<=σ.fixed:=Nat.and_le_right
 have:=Nat.two_pow_pos σ.n
 omega
theorem H9 {h:Hp} {q:Cm} {σ:aD} {s:Sl} {S:Nat->Bool} {R:Value->Hp->Prop} (hq:A5 h q σ) (ok:σ.Ok) (hS:dc h s (2^σ.n) S)
  (k: ∀b' T h',Kn h h' [(b', .inl ⟨tb (2^σ.n) T,2^σ.n,false⟩)]->(∀j,j<2^σ.n->T j=σ.fwd σ.hold S j)->R (arr b' (2^σ.n)).v h'):pL #[EL σ q,s.v] h R:=by
 apply Dc
 refine uf_ ?_
 have hn:=fh ok
 have hp:=qR ok
 have hpos:=Nat.two_pow_pos σ.n
 obtain⟨hh,_,hx,⟨fm,hfm,hfl⟩,_⟩:=id hq
 have hhl:=hh.len
 have hxl:=IntS.len hx
 rw [aY,List.length_map,List.length_range]at hxl
 have hfll:=IntS.len hfl
 rw [aY]at hfll
 have hfb:(eM fm).length<=2^σ.n:=by
  have h1:(eM fm).length<=fm+1:=by unfold eM;have:=List.length_filter_le (fun c=>decide (c&&&fm=c)) (List.range (fm+1));simpa using this
  omega
 have K0:=Kn.nil h
 (with_reducible apply Kn.al);(assumption);(intro b10 h1 K1 l1 hb10)
 (refine kr_ ?_)
 refine⟨Int.natCast_nonneg _,Int.le_refl _,by omega,by omega,?_⟩
 (with_reducible apply Kn.al);(assumption);(intro b14 h2 K2 l2 hb14)
 rw [Int.toNat_natCast,Nat.mul_one,cn,kI]at K2
 rw [Int.toNat_natCast]
 refine av (2^(σ.n+σ.k)) (fun c vs h'=>vs= [s.v, .pointer (some ⟨b10,0,none⟩),(arr b14 (2^σ.n)).v,I c]/\
  ∃T,Kn h h' [(b14, .inl ⟨tb (2^σ.n) T,2^σ.n,false⟩),(b10, .inl ⟨CC σ q,7,false⟩)]/\ ∀x,T x=true↔ ∃c',c'<c/\S (c'%2^σ.n)=true/\σ.hold c'=true/\ ∃f,f∈eM fm/\σ.next c'+f=x)
  ⟨rfl,_,K2,fun x=>⟨fun e=>by simp at e,fun⟨c',e,_⟩=>by omega⟩⟩ ?_
 clear K2 K1 K0 l1 l2 hb10 hb14 h1 h2
 rintro c _ h1 nxt hc ⟨rfl,T,K1,hT⟩ hnx
 refine⟨s,b10,0,arr b14 _,_,rfl,?_⟩
 (refine kr_ ?_)
 by_cases hlt:c<2^(σ.n+σ.k)
 rotate_left
 ·refine aE (by rw [decide_eq_false_iff_not];omega) ?_
  refine k b14 T h1 (K1.sub (fun e he=>by rw [List.mem_singleton]at he;subst he;exact .head _) (by simp)) fun j hj=>?_
  rw [Bool.eq_iff_iff,hT,aD.fwd_iff]
  constructor
  ·rintro ⟨c',q1,q2,q3,q4⟩
   have hc':c'<2^(σ.n+σ.k):=by omega
   obtain⟨a1,a2,a3⟩:=aD.at_of hc'
   exact⟨c'%2^σ.n,c'/2^σ.n,a1,a2,q2,by rw [a3];exact q3,by rw [a3];exact(nA ok hfm hc' hj).2 q4⟩
  ·rintro ⟨s',i',q1,q2,q3,q4,q5⟩
   have hc':=aD.at_lt q1 q2
   exact⟨σ.at_ s' i',by omega,by rw [aD.at_mod q1];exact q3,q4,(nA ok hfm hc' hj).1 q5⟩
 refine aM (by rw [decide_eq_true_eq];omega) ?_
 have skip:(S (c%2^σ.n)&&σ.hold c)=false->nxt [s.v, .pointer (some ⟨b10,0,none⟩),(arr b14 (2^σ.n)).v,I (W ((c:Int)+1))] h1:=fun e=>by
  rw [aC (by omega)]
  refine hnx hlt _ _ ⟨rfl,T,K1,fun x=>?_⟩
  rw [hT]
  constructor
  ·rintro ⟨c',q1,q⟩;exact⟨c',by omega,q⟩
  ·rintro ⟨c',q1,q2,q3,q4⟩
   by_cases e2:c'=c
   ·rw [e2]at q2 q3;rw [q2,q3]at e;cases e
   ·exact⟨c',by omega,q2,q3,q4⟩
 rw [ey]
 (refine kr_ ?_)
 rw [if_neg (by omega),eU]
 obtain⟨b,o,ha,e1,e2⟩:=(hS.mono K1.le).get (i:=c%2^σ.n) (Nat.mod_lt _ hpos)
 refine⟨b,o,ha,by omega,e1,_,e2,?_⟩
 refine ac (fun e=>?_) (fun e=>?_)
 ·exact aM rfl (skip (by have:S (c%2^σ.n)=false:=by simpa using e
                         rw [this];rfl))
 have eS:S (c%2^σ.n)=true:=by simpa using e
 (refine kr_ ?_)
 obtain⟨b,o,ha,e1,e2⟩:=(hh.mono K1.le).get hlt
 refine⟨b,o,ha,by omega,e1,_,e2,?_⟩
 refine ac (fun e=>?_) (fun e=>?_)
 ·exact skip (by have:σ.hold c=false:=by simpa using e
                 rw [this,Bool.and_false])
 have eH:σ.hold c=true:=by simpa using e
 refine av (eM fm).length (fun j vs h'=>vs= [s.v, .pointer (some ⟨b10,0,none⟩),(arr b14 (2^σ.n)).v,I c,I j]/\
  ∃U,Kn h h' [(b14, .inl ⟨tb (2^σ.n) U,2^σ.n,false⟩),(b10, .inl ⟨CC σ q,7,false⟩)]/\ ∀x,U x=true↔T x=true\/ ∃f,f∈(eM fm).take j/\σ.next c+f=x)
  ⟨rfl,T,K1,fun x=>⟨fun q=> .inl q,fun q=>q.resolve_right fun⟨f,q1,_⟩=>by simp at q1⟩⟩ ?_
 clear skip K1
 rintro j _ h1 nxt2 hj ⟨rfl,U,K1,hU⟩ hnx2
 refine⟨s,b10,0,arr b14 _,_,_,rfl,?_⟩
 (refine kr_ ?_)
 by_cases hlj:j<(eM fm).length
 rotate_left
 ·refine aE (by rw [decide_eq_false_iff_not];omega) ?_
  rw [aC (by omega)]
  refine hnx hlt _ _ ⟨rfl,U,K1,fun x=>?_⟩
  rw [hU,hT,List.take_of_length_le (by omega)]
  constructor
  ·rintro (⟨c',q1,q⟩|q)
   ·exact⟨c',by omega,q⟩
   ·exact⟨c,by omega,eS,eH,q⟩
  ·rintro ⟨c',q1,q2,q3,q4⟩
   by_cases e2:c'=c
   ·rw [e2]at q4;exact .inr q4
   ·exact .inl ⟨c',by omega,q2,q3,q4⟩
 refine aM (by rw [decide_eq_true_eq];omega) ?_
 (refine kr_ ?_)
 obtain⟨b,o,ha,e1,e2⟩:=Bi.get (hx.mono K1.le) hlt
 refine⟨b,o,ha,by omega,e1,_,e2,?_⟩
 (refine kr_ ?_)
 obtain⟨f,hf⟩: ∃f,(eM fm)[j]?=some f:=⟨_,List.getElem?_eq_getElem hlj⟩
 obtain⟨b,o,ha,e3⟩:=(hfl.mono K1.le).get (gU hf)
 refine⟨b,o,ha,by omega,by omega,_,e3,?_⟩
 have hlf:=Bu ok hfm hlt (List.mem_of_getElem? hf)
 rw [<-Int.natCast_add,eO (by omega)]
 refine⟨b14,0,rfl,by omega,by dsimp only;omega,?_⟩
 (((with_reducible apply Kn.wr);(assumption);((focus ((repeat first|exact .head|apply Upd.tail);done)))))
 ·rw [gR];omega
 intro h2 K2 _
 rw [bG,Nat.zero_add,Int.toNat_natCast,Nat.mul_one,lP]at K2
 rw [aC (by omega)]
 refine hnx2 hlj _ _ ⟨rfl,_,K2,fun x=>?_⟩
 rw [List.take_add_one,hf]
 by_cases ex:x=σ.next c+f
 ·rw [if_pos ex]
  exact⟨fun _=> .inr ⟨f,by simp,ex.symm⟩,fun _=>rfl⟩
 ·rw [if_neg ex,hU]
  constructor
  ·rintro (q|⟨f',q1,q2⟩)
   ·exact .inl q
   ·exact .inr ⟨f',List.mem_append_left _ q1,q2⟩
  ·rintro (q|⟨f',q1,q2⟩)
   ·exact .inl q
   ·rcases List.mem_append.1 q1 with q1|q1
    ·exact .inr ⟨f',q1,q2⟩
    ·simp at q1;subst q1;exact absurd q2.symm ex
theorem oK {h:Hp} {q:Cm} {σ:aD} {R:Value->Hp->Prop} (hq:A5 h q σ) (ok:σ.Ok)
  (k: ∀s h',h.le h'->BX h' s (2^σ.n) σ.nLay σ.front->R (Sl.v s) h'):ie #[EL σ q] h R:=by
 apply Dp
 refine uf_ ?_
 have hn:=fh ok
 have h8:=ok.nle
 have K0:=Kn.nil h
 (with_reducible apply Kn.al);(assumption);(intro b9 h1 K1 l1 hb9)
 (refine kr_ ?_)
 refine⟨Int.natCast_nonneg _,Int.le_refl _,by omega,by omega,?_⟩
 (with_reducible apply Kn.al);(assumption);(intro b14 h2 K2 l2 hb14)
 rw [Int.toNat_natCast,Nat.mul_one,cn,kI]at K2
 rw [Int.toNat_natCast]
 (refine kr_ ?_)
 refine av (2^σ.n) (fun i vs h'=> ∃(out fr:Sl) (g:Hp) (V:Nat->Bool) (ts:List Sl),vs= [.pointer (some ⟨b9,0,none⟩),out.v,(arr b14 (2^σ.n)).v,fr.v]/\
  h.le g/\Kn g (h'.offS out) [(b14, .inl ⟨tb (2^σ.n) V,2^σ.n,false⟩),(b9, .inl ⟨CC σ q,7,false⟩)]/\dc g fr (2^σ.n) (σ.front i)/\Buf h' out 1 (ts.map Sl.v)/\ts.length=i/\
  (∀(j:Nat) (t:Sl),ts[j]?=some t->dc g t (2^σ.n) (σ.front j))/\(∀j,j<2^σ.n->V j=σ.seen i j)/\ ∀j,j<i->σ.live j=true)
  ⟨⟨none,0,0⟩,q.bs,h,_, [],rfl,Hp.le_refl _,K2,hq.2.2.2.2,eZ _ _,rfl,fun j t ht=>by simp at ht,fun _ _=>rfl,fun j hj=>by omega⟩ ?_
 clear K2 K1 K0 l1 l2 hb9 hb14 h1 h2
 rintro i _ h1 nxt hi ⟨out,fr,g,V,ts,rfl,lg,K1,hF,hB,htl,ht,hV,hlive⟩ hnx
 refine⟨b9,0,out,arr b14 _,fr,rfl,?_⟩
 have K1':=K1.mono (bz h1 out)
 have hbF:=hF.mono K1'.le
 have hon:=hB.1
 rw [List.length_map,Nat.mul_one]at hon
 refine Lt hbF (by omega) ⟨_,rfl,?_⟩
 refine ac (fun e=>?_) (fun e=>?_)
 rotate_left
 ·have hnl:σ.nLay=i:=aD.nLay_of hlive e
  exact k out h1 (Hp.le_trans lg K1'.le) ⟨ts,by omega,hB.slc_of (by omega),fun j t hj=>(ht j t hj).mono K1'.le⟩
 have hlive': ∀j,j<i+1->σ.live j=true:=fun j hj=>by
  by_cases e2:j=i
  ·rw [e2];exact e
  ·exact hlive j (by omega)
 have hlt:i<2^σ.n:=aD.live_le hlive'
 refine aj fun b34 h2 hb34 l2 f34=>?_
 refine dw (hB.mono l2) (by omega) (by omega) (by omega) ⟨b34,0,rfl,ay f34⟩ (by simp) rfl ?_
 intro s' h3 hs'n hB' l3 _
 have K2:=K1.mono (Hp.le_trans (bP out l2) l3)
 have K2':=K2.mono (bz h3 s')
 repeat' (refine kr_ ?_)
 refine H9 (hq.mono (Hp.le_trans lg K2'.le)) ok (hF.mono K2'.le) fun bB T h4 K5 hT=>⟨_,rfl,?_⟩
 have hbB:h3 bB=none:=K5.new _ (.head _)
 have K6:=K2.cons (b:=bB) (aF (bz h3 s') hbB) (bP s' K5.le) (hB'.offS_new hbB (K5.at (.head _)))
 have hB4:=hB'.mono K5.le
 have K6':=K6.mono (bz h4 s')
 (refine kr_ ?_)
 refine⟨Int.natCast_nonneg _,Int.le_refl _,by omega,by omega,?_⟩
 refine aj fun b53 h5 hb53 l5 f53=>?_
 rw [Int.toNat_natCast,Nat.mul_one,cn,kI]at f53
 rw [Int.toNat_natCast]
 have K7:=K6.cons (b:=b53) (aF (bz h4 s') hb53) (bP s' l5) (hB4.offS_new hb53 f53)
 have hB5:=hB4.mono l5
 refine av (2^σ.n) (fun x vs h'=>vs= [.pointer (some ⟨b9,0,none⟩),s'.v,(arr b14 (2^σ.n)).v,fr.v,(arr bB (2^σ.n)).v,(arr b53 (2^σ.n)).v,I x]/\
  ∃V,Kn g (h'.offS s') [(b53, .inl ⟨tb (2^σ.n) fun _=>false,2^σ.n,false⟩),(bB, .inl ⟨tb (2^σ.n) T,2^σ.n,false⟩),(b14, .inl ⟨tb (2^σ.n) V,2^σ.n,false⟩),(b9, .inl ⟨CC σ q,7,false⟩)]/\
   Buf h' s' 1 (ts.map Sl.v++ [fr.v])/\ ∀j,j<2^σ.n->V j=if j<x then σ.seen (i+1) j else σ.seen i j)
  ⟨rfl,V,K7,hB5,fun j hj=>by rw [if_neg (by omega)];exact hV j hj⟩ ?_
 clear K7 hB5 hB4 K6 K6' K5 hV hbF K1'
 rintro x _ h6 nxt1 hx ⟨rfl,V,K,B,hV⟩ hnx1
 refine⟨b9,0,s',arr b14 _,fr,arr bB _,arr b53 _,_,rfl,?_⟩
 have K':=K.mono (bz h6 s')
 (refine kr_ ?_)
 by_cases hlx:x<2^σ.n
 ·refine aM (by rw [decide_eq_true_eq];exact_mod_cast hlx) ?_
  have hVx:V x=σ.seen i x:=by rw [hV x hlx,if_neg (by omega)]
  have fin: ∀v h7,v=σ.seen (i+1) x->Kn g (h7.offS s') [(b53, .inl ⟨tb (2^σ.n) fun _=>false,2^σ.n,false⟩),(bB, .inl ⟨tb (2^σ.n) T,2^σ.n,false⟩),(b14, .inl ⟨(tb (2^σ.n) V).set x (.bool v),2^σ.n,false⟩),(b9, .inl ⟨CC σ q,7,false⟩)]->
    Buf h7 s' 1 (ts.map Sl.v++ [fr.v])->nxt1 [.pointer (some ⟨b9,0,none⟩),s'.v,(arr b14 (2^σ.n)).v,fr.v,(arr bB (2^σ.n)).v,(arr b53 (2^σ.n)).v,I (W ((x:Int)+1))] h7:=by
   intro v h7 hv K7 B7
   rw [aC (by omega)]
   rw [lP]at K7
   refine hnx1 hlx _ _ ⟨rfl,_,K7,B7,fun j hj=>?_⟩
   by_cases e2:j=x
   ·rw [if_pos e2,if_pos (by omega),e2];exact hv
   ·rw [if_neg e2,hV j hj]
    by_cases e3:j<x
    ·rw [if_pos e3,if_pos (by omega)]
    ·rw [if_neg e3,if_neg (by omega)]
  refine⟨b14,0,rfl,by omega,by dsimp only;omega,?_⟩
  refine Kn.rd K' (.tail _ (.tail _ (.head _))) (x:=V x) (by rw [Nat.zero_add,Nat.mul_one,Int.toNat_natCast];exact pQ hlx) ?_
  refine ac (fun e2=>?_) (fun e2=>?_)
  ·refine⟨b14,0,rfl,by omega,by dsimp only;omega,?_⟩
   (with_reducible apply Kn.wrS);(exact K);((focus ((repeat first|exact .head|apply Upd.tail);done)))
   ·rw [gR];omega
   intro h7 K7 B7 _
   rw [bG,Nat.zero_add,Int.toNat_natCast,Nat.mul_one]at K7
   exact fin _ h7 (by rw [aD.seen_succ,<-hVx,e2];rfl) K7 (B7 _ _ B)
  ·obtain⟨b,o,ha,e3,e4⟩:=(hF.mono K'.le).get hlx
   refine⟨b,o,ha,by omega,e3,_,e4,?_⟩
   refine⟨b14,0,rfl,by omega,by dsimp only;omega,?_⟩
   (with_reducible apply Kn.wrS);(exact K);((focus ((repeat first|exact .head|apply Upd.tail);done)))
   ·rw [gR];omega
   intro h7 K7 B7 _
   rw [bG,Nat.zero_add,Int.toNat_natCast,Nat.mul_one]at K7
   exact fin _ h7 (by rw [aD.seen_succ,<-hVx,e2];rfl) K7 (B7 _ _ B)
 refine aE (by rw [decide_eq_false_iff_not];omega) ?_
 replace hV: ∀j,j<2^σ.n->V j=σ.seen (i+1) j:=fun j hj=>by rw [hV j hj,if_pos (by omega)]
 refine av (2^σ.n) (fun x vs h'=>vs= [.pointer (some ⟨b9,0,none⟩),s'.v,(arr b14 (2^σ.n)).v,(arr bB (2^σ.n)).v,(arr b53 (2^σ.n)).v,I x]/\
  ∃F,Kn g (h'.offS s') [(b53, .inl ⟨tb (2^σ.n) F,2^σ.n,false⟩),(bB, .inl ⟨tb (2^σ.n) T,2^σ.n,false⟩),(b14, .inl ⟨tb (2^σ.n) V,2^σ.n,false⟩),(b9, .inl ⟨CC σ q,7,false⟩)]/\
   Buf h' s' 1 (ts.map Sl.v++ [fr.v])/\ ∀j,j<x->F j=σ.front (i+1) j) ⟨rfl,_,K,B,fun j hj=>by omega⟩ ?_
 clear K B K' h6 hnx1 hx hlx
 rintro x _ h6 nxt1 hx ⟨rfl,F,K,B,hFx⟩ hnx1
 refine⟨b9,0,s',arr b14 _,arr bB _,arr b53 _,_,rfl,?_⟩
 have K':=K.mono (bz h6 s')
 (refine kr_ ?_)
 by_cases hlx:x<2^σ.n
 ·refine aM (by rw [decide_eq_true_eq];exact_mod_cast hlx) ?_
  have fin: ∀v h7,v=σ.front (i+1) x->Kn g (h7.offS s') [(b53, .inl ⟨(tb (2^σ.n) F).set x (.bool v),2^σ.n,false⟩),(bB, .inl ⟨tb (2^σ.n) T,2^σ.n,false⟩),(b14, .inl ⟨tb (2^σ.n) V,2^σ.n,false⟩),(b9, .inl ⟨CC σ q,7,false⟩)]->
    Buf h7 s' 1 (ts.map Sl.v++ [fr.v])->nxt1 [.pointer (some ⟨b9,0,none⟩),s'.v,(arr b14 (2^σ.n)).v,(arr bB (2^σ.n)).v,(arr b53 (2^σ.n)).v,I (W ((x:Int)+1))] h7:=by
   intro v h7 hv K7 B7
   rw [aC (by omega)]
   rw [lP]at K7
   refine hnx1 hlx _ _ ⟨rfl,_,K7,B7,fun j hj=>?_⟩
   by_cases e2:j=x
   ·rw [if_pos e2,e2];exact hv
   ·rw [if_neg e2];exact hFx j (by omega)
  refine⟨bB,0,rfl,by omega,by dsimp only;omega,?_⟩
  refine Kn.rd K' (.tail _ (.head _)) (x:=T x) (by rw [Nat.zero_add,Nat.mul_one,Int.toNat_natCast];exact pQ hlx) ?_
  refine ac (fun e2=>?_) (fun e2=>?_)
  ·refine⟨b14,0,rfl,by omega,by dsimp only;omega,?_⟩
   refine Kn.rd K' (.tail _ (.tail _ (.head _))) (x:=V x) (by rw [Nat.zero_add,Nat.mul_one,Int.toNat_natCast];exact pQ hlx) ?_
   refine⟨b53,0,rfl,by omega,by dsimp only;omega,?_⟩
   (with_reducible apply Kn.wrS);(exact K);((focus ((repeat first|exact .head|apply Upd.tail);done)))
   ·rw [gR];omega
   intro h7 K7 B7 _
   rw [bG,Nat.zero_add,Int.toNat_natCast,Nat.mul_one]at K7
   exact fin _ h7 (by rw [aD.front_succ,<-hT x hlx,e2,hV x hlx];rfl) K7 (B7 _ _ B)
  ·refine⟨b53,0,rfl,by omega,by dsimp only;omega,?_⟩
   (with_reducible apply Kn.wrS);(exact K);((focus ((repeat first|exact .head|apply Upd.tail);done)))
   ·rw [gR];omega
   intro h7 K7 B7 _
   rw [bG,Nat.zero_add,Int.toNat_natCast,Nat.mul_one]at K7
   exact fin _ h7 (by rw [aD.front_succ,<-hT x hlx,e2];rfl) K7 (B7 _ _ B)
 refine aE (by rw [decide_eq_false_iff_not];omega) ?_
 obtain⟨K3,K4⟩:=Kn.split (A:= [(b53, .inl ⟨tb (2^σ.n) F,2^σ.n,false⟩),(bB, .inl ⟨tb (2^σ.n) T,2^σ.n,false⟩)]) (B:= [(b14, .inl ⟨tb (2^σ.n) V,2^σ.n,false⟩),(b9, .inl ⟨CC σ q,7,false⟩)]) K
 have fF:=K4.at (.head _)
 refine hnx hlt _ _ ⟨s',arr b53 (2^σ.n),_,V,ts++ [fr],rfl,Hp.le_trans lg K4.le,K3,km (by omega) fF fun j hj=>hFx j (by omega),by rw [List.map_append];exact B,by simp [htl],fun j t hj=>?_,hV,hlive'⟩
 by_cases hji:j<i
 ·rw [List.getElem?_append_left (by omega)]at hj
  exact(ht j t hj).mono K4.le
 ·have hj2:=get_lt hj
  simp at hj2
  rw [List.getElem?_append_right (by omega),show j-ts.length=0 by omega]at hj
  simp at hj;subst hj
  rw [show j=i by omega];exact hF.mono K4.le
theorem uo {h:Hp} {q:Cm} {σ:aD} {R:Value->Hp->Prop} (hq:A5 h q σ) (ok:σ.Ok) (k:R (I σ.depthI) h):kj #[EL σ q] h R:=by
 refine ACalls.drop (EO ?_)
 refine uf_ ?_
 have hn:=fh ok
 have hnl:=aD.nLay_le σ
 refine aj fun b9 h1 hb9 l1 f9=>?_
 repeat' (refine az ?_)
 refine oK (hq.mono l1) ok fun t h2 l2 hL=>⟨_,rfl,?_⟩
 have l02:=Hp.le_trans l1 l2
 replace f9:=l2 _ _ f9
 have hl:=hL.len
 refine av σ.nLay (fun i vs h'=>vs= [.pointer (some ⟨b9,0,none⟩),t.v,I i]/\h2=h'/\ ∀j,j<i->σ.hits j=false) ⟨rfl,rfl,fun j hj=>by omega⟩ ?_
 rintro i _ _ nxt hi ⟨rfl,rfl,hno⟩ hnx
 refine⟨b9,0,t,_,rfl,?_⟩
 by_cases hlt:i<σ.nLay
 rotate_left
 ·refine aE (by rw [decide_eq_false_iff_not];omega) ⟨h,l02,?_⟩
  have:σ.depth=none:=aD.find_none.2 fun j hj=>hno j (by omega)
  unfold aD.depthI at k
  rw [this]at k;exact k
 refine aM (by rw [decide_eq_true_eq];omega) ?_
 obtain⟨bl,ol,r,ha,h3,h4,hr⟩:=hL.get hlt
 refine⟨bl,ol,ha,by omega,h3,?_⟩
 repeat' (refine az ?_)
 refine⟨r,h4,?_⟩
 refine xz (hq.mono l02) ok hr ⟨_,rfl,?_⟩
 refine ac (fun e=>?_) (fun e=>?_)
 ·refine⟨h,l02,?_⟩
  have:σ.depth=some i:=aD.depth_some.2 ⟨e,fun x hx=>hno x hx⟩
  unfold aD.depthI at k
  rw [this]at k;exact k
 ·rw [aC (by omega)]
  refine hnx hlt _ _ ⟨rfl,rfl,fun x hx=>?_⟩
  by_cases e2:x=i
  ·rw [e2];exact e
  ·exact hno x (by omega)
theorem Kn.lower {g h h':Hp} {L:List (Nat×Blk)} (K:Kn h h' L) (lg:g.le h): ∃g',Kn g g' L/\g'.le h'/\ ∀c,h c≠none->g c=none->g' c=none:=by
 refine⟨fun c=>if c∈L.map Prod.fst then h' c else g c,⟨fun c x e=>?_,fun e he=>?_,fun e he=>?_,K.nd⟩,fun c x e=>?_,fun c hc hg=>?_⟩
 ·show (if _ then _ else _)=_
  split
  ·exact K.le _ _ (lg _ _ e)
  ·exact e
 ·show (if _ then _ else _)=_
  rw [if_pos (List.mem_map.2 ⟨e,he,rfl⟩)];exact K.mem e he
 ·exact aF lg (K.new e he)
 ·change (if _ then _ else _)=_ at e
  split at e
  ·exact e
  ·exact K.le _ _ (lg _ _ e)
 ·show (if _ then _ else _)=_
  split
  ·rename_i hm
   obtain⟨e,he,rfl⟩:=List.mem_map.1 hm
   exact absurd (K.new e he) hc
  ·exact hg
theorem zR {g h:Hp} {b:Nat} {s2:Sl} {σ:aD} {S:Nat->Bool} {R:Value->Hp->Prop} (lg:g.le h) (hsg:oy g b σ) (ok:σ.Ok) (hSg:dc g s2 (2^σ.n) S)
  (k: ∀w h' g',h.le h'->g.le g'->g'.le h'->(∀c,h c≠none->g c=none->g' c=none)->Fp g' cG #[] w (2^(σ.n+σ.k)) (σ.leads S)->R (.func (.func cG) #[] w) h'):cM #[.pointer (some ⟨b,0,none⟩),s2.v] h R:=by
 apply wZ
 refine uf_ ?_
 have hn:=fh ok
 have hS:=hSg.mono lg
 have hl:=hS.len
 have hfx:=ok.fixed
 obtain⟨M,st,hold,bad,next,fxg,_,_,hnt⟩:=id hsg
 have fx:=lg _ _ fxg
 have K0:=Kn.nil h
 (with_reducible apply Kn.al);(assumption);(intro b4 h1 K1 l1 hb4)
 rw [hl]
 refine⟨Int.natCast_nonneg _,Int.le_refl _,by omega,by omega,?_⟩
 (with_reducible apply Kn.al);(assumption);(intro b7 h2 K2 l2 hb7)
 rw [Int.toNat_natCast,Nat.mul_one,cn,kI]at K2
 rw [Int.toNat_natCast]
 (with_reducible apply Kn.al);(assumption);(intro b9 h3 K3 l3 hb9)
 (((with_reducible apply Kn.wr);(assumption);((focus ((repeat first|exact .head|apply Upd.tail);done)))))
 ·exact Nat.le_refl _
 intro h4 K4 _
 refine av (2^σ.n) (fun i vs h'=>vs= [.pointer (some ⟨b4,0,none⟩), .pointer (some ⟨b9,0,none⟩),s2.v,I (2^σ.n:Nat),I i]/\
  ∃T,Kn h h' [(b9, .inl ⟨[(arr b7 (2^σ.n)).v],1,false⟩),(b7, .inl ⟨tb (2^σ.n) T,2^σ.n,false⟩),(b4, .inl ⟨[.pointer (some ⟨b,0,none⟩)],1,false⟩)]/\ ∀x,T x=true↔ ∃t,t<i/\S t=true/\t&&&σ.fixed=x)
  ⟨rfl,_,K4,fun x=>⟨fun e=>by simp at e,fun⟨t,e,_⟩=>by omega⟩⟩ ?_
 clear K4 K3 K2 K1 K0 l1 l2 l3 hb4 hb7 hb9
 rintro i _ h5 nxt hi ⟨rfl,T,K,hT⟩ hnx
 refine⟨b4,0,b9,0,s2,_,_,rfl,?_⟩
 by_cases hlt:i<2^σ.n
 ·refine aM (by rw [decide_eq_true_eq];exact_mod_cast hlt) ?_
  rw [ey]
  obtain⟨bS,oS,ha,e1,e2⟩:=(hS.mono K.le).get hlt
  refine⟨bS,oS,ha,by omega,e1,_,e2,?_⟩
  have hle:i&&&σ.fixed<=i:=Nat.and_le_left
  have fin: ∀v h6,v=(T (i&&&σ.fixed)||S i)->Kn h h6 [(b9, .inl ⟨[(arr b7 (2^σ.n)).v],1,false⟩),(b7, .inl ⟨(tb (2^σ.n) T).set (i&&&σ.fixed) (.bool v),2^σ.n,false⟩),(b4, .inl ⟨[.pointer (some ⟨b,0,none⟩)],1,false⟩)]->
    nxt [.pointer (some ⟨b4,0,none⟩), .pointer (some ⟨b9,0,none⟩),s2.v,I (2^σ.n:Nat),I (W ((i:Int)+1))] h6:=by
   intro v h6 hv K6
   rw [aC (by omega)]
   rw [lP]at K6
   refine hnx hlt _ _ ⟨rfl,_,K6,fun x=>?_⟩
   by_cases e:x=i&&&σ.fixed
   ·rw [if_pos e,hv,Bool.or_eq_true,hT,e]
    constructor
    ·rintro (⟨t,q1,q2,q3⟩|q)
     ·exact⟨t,by omega,q2,q3⟩
     ·exact⟨i,by omega,q,rfl⟩
    ·rintro ⟨t,q1,q2,q3⟩
     by_cases e2:t=i
     ·subst e2;exact .inr q2
     ·exact .inl ⟨t,by omega,q2,q3⟩
   ·rw [if_neg e,hT]
    constructor
    ·rintro ⟨t,q1,q⟩;exact⟨t,by omega,q⟩
    ·rintro ⟨t,q1,q2,q3⟩
     by_cases e2:t=i
     ·subst e2;exact absurd q3.symm e
     ·exact⟨t,by omega,q2,q3⟩
  repeat' (refine kr_ ?_)
  rw [sP (by omega) (by omega)]
  refine⟨by omega,by dsimp only;omega,?_⟩
  refine Kn.rd K (.tail _ (.head _)) (x:=T (i&&&σ.fixed)) (by rw [Nat.zero_add,Nat.mul_one,Int.toNat_natCast];exact pQ (by omega)) ?_
  refine ac (fun e=>?_) (fun e=>?_)
  ·refine⟨b7,0,rfl,by omega,by dsimp only;omega,?_⟩
   (((with_reducible apply Kn.wr);(assumption);((focus ((repeat first|exact .head|apply Upd.tail);done)))))
   ·rw [gR];omega
   intro h6 K6 _
   rw [bG,Nat.zero_add,Int.toNat_natCast,Nat.mul_one]at K6
   exact fin _ h6 (by rw [e];rfl) K6
  ·refine⟨b7,0,rfl,by omega,by dsimp only;omega,?_⟩
   (((with_reducible apply Kn.wr);(assumption);((focus ((repeat first|exact .head|apply Upd.tail);done)))))
   ·rw [gR];omega
   intro h6 K6 _
   rw [bG,Nat.zero_add,Int.toNat_natCast,Nat.mul_one]at K6
   exact fin _ h6 (by rw [e];rfl) K6
 refine aE (by rw [decide_eq_false_iff_not];omega) ?_
 obtain⟨g',Kg,lg',hnew⟩:=K.lower lg
 refine k _ h5 g' K.le Kg.le lg' hnew fun c hc h' l R' kk=>?_
 apply uq
 refine uf_ ?_
 have K':=Kg.mono l
 clear K Kg fx hnx
 have hcn:=ok.next c hc
 repeat' (refine kr_ ?_)
 obtain⟨bx,ox,hax,e1,e2⟩:=Bi.get (hnt.mono K'.le) hc
 refine⟨bx,ox,hax,by omega,e1,_,e2,?_⟩
 refine⟨b7,0,rfl,by omega,by dsimp only;omega,?_⟩
 refine Kn.rd K' (.tail _ (.head _)) (x:=T (σ.next c)) (by rw [Nat.zero_add,Nat.mul_one,Int.toNat_natCast];exact pQ (by omega)) ?_
 refine dq ?_ kk
 rw [Bool.eq_iff_iff,hT]
 unfold aD.leads
 rw [cF]
 constructor
 ·rintro ⟨t,q1,q2,q3⟩
  exact⟨t,by omega,by unfold aD.goes;rw [q2,q3];simp⟩
 ·rintro ⟨t,q1,q2⟩
  unfold aD.goes at q2
  rw [Bool.and_eq_true,decide_eq_true_eq]at q2
  exact⟨t,by omega,q2.1,q2.2⟩
theorem BR {h:Hp} {b:Nat} {s2:Sl} {σ:aD} {S:Nat->Bool} {R:Value->Hp->Prop} (hs:oy h b σ) (ok:σ.Ok) (hS:dc h s2 (2^σ.n) S)
  (k: ∀w h',h.le h'->Fp h' cG #[] w (2^(σ.n+σ.k)) (σ.leads S)->R (.func (.func cG) #[] w) h'):cM #[.pointer (some ⟨b,0,none⟩),s2.v] h R:=
 zR (Hp.le_refl h) hs ok hS fun w h' g' l _ l2 _ hA=>k w h' l fun c hc h'' l' R' kk=>hA c hc h'' (Hp.le_trans l2 l') R' kk
theorem SM {h:Hp} {t:Sl} {n:Nat} {T U:Nat->Bool} (e:dc h t n T) (f: ∀j,j<n->T j=U j):dc h t n U:=by
 unfold dc at e⊢
 rwa [show (List.range n).map U=(List.range n).map T from List.map_congr_left fun j hj=>(f j (List.mem_range.1 hj)).symm]
theorem ET {h:Hp} {b4 z n c:Nat} {t:Sl} {T:Nat->Bool} {R:Value->Hp->Prop} (f:h b4=some (.inl ⟨[t.v],z,false⟩)) (hT:dc h t n T) (hc:c<n) (k:R (.bool (T c)) h):
  mh #[I c, .pointer (some ⟨b4,0,none⟩)] h R:=by
 apply ur
 refine uf_ ?_
 (refine az ?_)
 obtain⟨b',o',ha,h1,h2⟩:=hT.get hc
 exact⟨b',o',ha,by omega,h1,_,h2,k⟩
theorem rc {h:Hp} {b:Nat} {t:Sl} {σ:aD} {T:Nat->Bool} {R:Value->Hp->Prop} (hs:oy h b σ) (ok:σ.Ok) (hT:dc h t (2^σ.n) T)
  (k: ∀s h',h.le h'->Own (h'.sub h) s 3 (bD (cQ σ.n T).ns)->R (w9 (cQ σ.n T) s) h'):fN #[.pointer (some ⟨b,0,none⟩),t.v] h R:=by
 apply wX
 refine uf_ ?_
 have K0:=Kn.nil h
 (with_reducible apply Kn.al);(assumption);(intro b4 h1 K1 l1 hb4)
 (with_reducible apply Kn.al);(assumption);(intro b6 h2 K2 l2 hb6)
 have f4:=K2.at (.tail _ (.head _))
 refine Hy (hs.mono K2.le) ok (fun i hi h' l R kk=>ET (l _ _ f4) ((hT.mono K2.le).mono l) hi kk) fun s h3 l3 o3=>⟨_,_,_,_,rfl,?_⟩
 have K3:=K2.mono l3
 (((with_reducible apply Kn.wr);(assumption);((focus ((repeat first|exact .head|apply Upd.tail);done)))))
 ·exact Nat.le_refl _
 intro h4 K4 kp
 refine⟨_,by rw [aq (K4.at (.head _))];rfl,_,by rw [aq (K4.at (.head _))];rfl,_,by rw [aq (K4.at (.head _))];rfl,?_⟩
 exact k s h4 K4.le (o3.mono (gJ K2.le (K2.at (.head _)) kp))
theorem HF {h:Hp} {b:Nat} {t:Sl} {σ:aD} {R:Value->Hp->Prop} (hs:oy h b σ) (ok:σ.Ok) (hL:BX h t (2^σ.n) σ.nLay σ.front)
  (k: ∀b' T h',Kn h h' [(b', .inl ⟨tb (2^σ.n) T,2^σ.n,false⟩)]->(∀j,j<2^σ.n->T j=σ.reach j)->R (arr b' (2^σ.n)).v h'):jt #[.pointer (some ⟨b,0,none⟩),t.v] h R:=by
 apply zG
 refine uf_ ?_
 have hn:=fh ok
 have h8:=ok.nle
 have hl:=hL.len
 have hnl:=aD.nLay_le σ
 obtain⟨M,st,hold,bad,next,fx,_⟩:=id hs
 have K0:=Kn.nil h
 refine dF ?_
 (refine kr_ ?_)
 rw [if_neg (by omega),bK (by omega)]
 refine⟨Int.natCast_nonneg _,Int.le_refl _,by omega,by omega,?_⟩
 (with_reducible apply Kn.al);(assumption);(intro b8 h1 K1 l1 hb8)
 rw [Int.toNat_natCast,Nat.mul_one,cn,kI]at K1
 rw [Int.toNat_natCast,hl]
 refine av σ.nLay (fun i vs h'=>vs= [(arr b8 (2^σ.n)).v,t.v,I σ.nLay,I i]/\
  ∃T,Kn h h' [(b8, .inl ⟨tb (2^σ.n) T,2^σ.n,false⟩)]/\ ∀j,j<2^σ.n->T j=σ.seen i j) ⟨rfl,_,K1,fun j hj=>rfl⟩ ?_
 clear K1 K0 l1 hb8 h1
 rintro i _ h1 nxt hi ⟨rfl,T,K1,hT⟩ hnx
 refine⟨arr b8 _,t,_,_,rfl,?_⟩
 by_cases hlt:i<σ.nLay
 rotate_left
 ·refine aE (by rw [decide_eq_false_iff_not];omega) ?_
  exact k b8 T h1 K1 fun j hj=>by rw [hT j hj,show i=σ.nLay by omega];rfl
 refine aM (by rw [decide_eq_true_eq];exact_mod_cast hlt) ?_
 obtain⟨bl,ol,r',ha,h3,h4,hr'⟩:=hL.get hlt
 refine⟨bl,ol,ha,by omega,by omega,r',K1.le.cell h4,?_⟩
 have hrl:=hr'.len
 rw [hrl]
 refine av (2^σ.n) (fun j vs h'=>vs= [(arr b8 (2^σ.n)).v,t.v,I σ.nLay,I i,r'.v,I (2^σ.n:Nat),I j]/\
  ∃T,Kn h h' [(b8, .inl ⟨tb (2^σ.n) T,2^σ.n,false⟩)]/\ ∀x,x<2^σ.n->T x=if x<j then σ.seen (i+1) x else σ.seen i x) ⟨rfl,T,K1,fun x hx=>by rw [if_neg (by omega)];exact hT x hx⟩ ?_
 clear hT K1 T h4 ha h3 h1
 rintro j _ h1 nxt2 hj ⟨rfl,T,K1,hT⟩ hnx2
 refine⟨arr b8 _,t,_,_,r',_,_,rfl,?_⟩
 by_cases hlj:j<2^σ.n
 rotate_left
 ·refine aE (by rw [decide_eq_false_iff_not];omega) ?_
  rw [aC (by omega)]
  exact hnx hlt _ _ ⟨rfl,T,K1,fun x hx=>by rw [hT x hx,if_pos (by omega)]⟩
 refine aM (by rw [decide_eq_true_eq];exact_mod_cast hlj) ?_
 obtain⟨br,or,har,hr1,hr2⟩:=(hr'.mono K1.le).get hlj
 refine⟨br,or,har,by omega,hr1,_,hr2,?_⟩
 refine⟨b8,0,rfl,by omega,by dsimp only;omega,?_⟩
 refine Kn.rd K1 (.head _) (x:=T j) (by rw [Nat.zero_add,Nat.mul_one,Int.toNat_natCast];exact pQ hlj) ?_
 have fin: ∀v h7,v=σ.seen (i+1) j->Kn h h7 [(b8, .inl ⟨(tb (2^σ.n) T).set j (.bool v),2^σ.n,false⟩)]->
   nxt2 [(arr b8 (2^σ.n)).v,t.v,I σ.nLay,I i,r'.v,I (2^σ.n:Nat),I (W ((j:Int)+1))] h7:=by
  intro v h7 hv K7
  rw [aC (by omega)]
  rw [lP]at K7
  refine hnx2 hlj _ _ ⟨rfl,_,K7,fun x hx=>?_⟩
  by_cases e2:x=j
  ·rw [if_pos e2,if_pos (by omega),e2];exact hv
  ·rw [if_neg e2,hT x hx]
   by_cases e3:x<j
   ·rw [if_pos e3,if_pos (by omega)]
   ·rw [if_neg e3,if_neg (by omega)]
 have hTj:T j=σ.seen i j:=by rw [hT j hlj,if_neg (by omega)]
 refine ac (fun e=>?_) (fun e=>?_)<;>refine⟨b8,0,rfl,by omega,by dsimp only;omega,?_⟩<;>(((with_reducible apply Kn.wr);(assumption);((focus ((repeat first|exact .head|apply Upd.tail);done)))))
 ·rw [gR];omega
 ·intro h7 K7 _
  rw [bG,Nat.zero_add,Int.toNat_natCast,Nat.mul_one]at K7
  exact fin _ h7 (by rw [aD.seen_succ,<-hTj,e];rfl) K7
 ·rw [gR];omega
 ·intro h7 K7 _
  rw [bG,Nat.zero_add,Int.toNat_natCast,Nat.mul_one]at K7
  exact fin _ h7 (by rw [aD.seen_succ,<-hTj,e];rfl) K7
theorem PK {h:Hp} {b c t:Nat} {σ:aD} {R:Value->Hp->Prop} (hs:oy h b σ) (ok:σ.Ok) (hc:c<2^(σ.n+σ.k)) (ht:t<2^σ.n) (k:R (.bool (σ.goes c t)) h):
  ma #[.pointer (some ⟨b,0,none⟩),I c,I t] h R:=by
 apply zo
 refine uf_ ?_
 obtain⟨M,st,hold,bad,next,fx,_,_,hn⟩:=hs
 have h8:=fh ok
 have hf:=ok.fixed
 have hn':=ok.next c hc
 refine dF (dF ?_)
 repeat' (refine az ?_)
 obtain⟨b',o',ha,h1,h2⟩:=Bi.get hn hc
 refine⟨b',o',ha,by omega,h1,_,h2,?_⟩
 rw [sP (by omega) (by omega)]
 refine dq ?_ k
 unfold aD.goes
 rw [Bool.eq_iff_iff,decide_eq_true_eq,beq_iff_eq];omega
theorem E1 {h:Hp} {b4 b z s c:Nat} {σ:aD} {R:Value->Hp->Prop} (hs:oy h b σ) (f:h b4=some (.inl ⟨[.pointer (some ⟨b,0,none⟩)],z,false⟩)) (hc:c<2^(σ.n+σ.k)) (k:R (.bool (σ.ends c)) h):
  mj #[I s,I c, .pointer (some ⟨b4,0,none⟩)] h R:=by
 apply tV
 refine uf_ ?_
 (refine az ?_)
 exact yR hs hc ⟨_,rfl,k⟩
theorem EX {h:Hp} {b4 b5 b z z' s c:Nat} {fid:FuncId} {u w:Array Value} {σ:aD} {P:Nat->Bool} {R:Value->Hp->Prop} (hs:oy h b σ) (f:h b4=some (.inl ⟨[.pointer (some ⟨b,0,none⟩)],z,false⟩))
  (f5:h b5=some (.inl ⟨[.func (.func fid) u w],z',false⟩)) (hA:Fp h fid u w (2^(σ.n+σ.k)) P) (hc:c<2^(σ.n+σ.k)) (k:R (.bool (σ.hold c&&P c)) h):
  mv #[I s,I c, .pointer (some ⟨b4,0,none⟩), .pointer (some ⟨b5,0,none⟩)] h R:=by
 apply uy
 refine uf_ ?_
 obtain⟨M,st,hold,bad,next,fx,hh,hb,_⟩:=hs
 (refine az ?_)
 refine dF ?_
 (refine az ?_)
 obtain⟨b',o',ha,h1,h2⟩:=hh.get hc
 refine⟨b',o',ha,by omega,h1,_,h2,?_⟩
 refine ac (fun e=>?_) (fun e=>?_)
 ·refine⟨fid,u,w,by rw [aq f5];rfl,?_⟩
  refine hA c hc h (Hp.le_refl _) _ ⟨_,rfl,?_⟩
  rw [e]at k;exact k
 ·rw [e]at k;exact k
theorem Fe {h:Hp} {b4 b5 b z z' c:Nat} {fid:FuncId} {u w:Array Value} {σ:aD} {P:Nat->Bool} {R:Value->Hp->Prop} (hs:oy h b σ) (f:h b4=some (.inl ⟨[.pointer (some ⟨b,0,none⟩)],z,false⟩))
  (f5:h b5=some (.inl ⟨[.func (.func fid) u w],z',false⟩)) (hA:Fp h fid u w (2^(σ.n+σ.k)) P) (hc:c<2^(σ.n+σ.k)) (k:R (.bool (σ.hold c&&P c)) h):
  mw #[I c, .pointer (some ⟨b4,0,none⟩), .pointer (some ⟨b5,0,none⟩)] h R:=by
 apply uw
 refine uf_ ?_
 obtain⟨M,st,hold,bad,next,fx,hh,hb,_⟩:=hs
 (refine az ?_)
 refine dF ?_
 (refine az ?_)
 obtain⟨b',o',ha,h1,h2⟩:=hh.get hc
 refine⟨b',o',ha,by omega,h1,_,h2,?_⟩
 refine ac (fun e=>?_) (fun e=>?_)
 ·refine⟨fid,u,w,by rw [aq f5];rfl,?_⟩
  refine hA c hc h (Hp.le_refl _) _ ⟨_,rfl,?_⟩
  rw [e]at k;exact k
 ·rw [e]at k;exact k
theorem Fy {h:Hp} {b4 b5 b z z' c t:Nat} {σ:aD} {R:Value->Hp->Prop} (hs:oy h b σ) (ok:σ.Ok) (f:h b4=some (.inl ⟨[.pointer (some ⟨b,0,none⟩)],z,false⟩))
  (f5:h b5=some (.inl ⟨[I c],z',false⟩)) (hc:c<2^(σ.n+σ.k)) (ht:t<2^σ.n) (k:R (.bool (σ.goes c t)) h):
  mn #[I t, .pointer (some ⟨b4,0,none⟩), .pointer (some ⟨b5,0,none⟩)] h R:=by
 apply ut
 refine uf_ ?_
 repeat' (refine az ?_)
 exact PK hs ok hc ht ⟨_,rfl,k⟩
theorem cw.toOwn {g h:Hp} {A X L:List (Nat×Blk)} {s:Sl} {sz:Nat} {cs:List Value} (o:cw X s sz cs) (hn:s.n<=9223372036854775807) (K:Kn g h (A++(X++L))): ∃X',pm X' s sz cs/\Kn g h (A++(X'++L)):=by
 by_cases h0:s.n=0
 ·refine⟨[],⟨o.1,hn, .inl ⟨h0,rfl⟩⟩,K.sub (fun e he=>?_) ?_⟩
  ·rcases List.mem_append.1 he with he|he
   ·exact List.mem_append_left _ he
   ·exact List.mem_append_right _ (List.mem_append_right _ he)
  ·have nd:=K.nd
   rw [List.map_append,List.map_append]at nd
   rw [List.nil_append,List.map_append]
   exact nd.sublist (List.Sublist.append_left (List.sublist_append_right _ _) _)
 ·rcases o.2.2 with ⟨_,rfl,_⟩|⟨b,ha,rfl⟩
  ·exact absurd rfl h0
  ·exact⟨_,⟨o.1,hn, .inr ⟨h0,b,_,ha,rfl⟩⟩,K⟩
theorem yW {g h h':Hp} {L:List (Nat×Blk)} (K:Kn g h L):(h'.sub h).le (h'.wo (L.map Prod.fst)):=by
 intro c x e
 have hn:h c=none:=mg (by rw [e];simp)
 rw [sy fun hm=>K.has c hm hn]
 exact sub_le _ _ _ _ e
def TrX (h h':Hp) (sS sI:Sl) (l:List (Nat×Nat)):Prop:=
 ∃XS XI,pm XS sS 1 ((VL (l.map Prod.fst)).map I)/\pm XI sI 1 ((VL (l.map Prod.snd)).map I)/\Kn h h' (XS++XI)
theorem vq (σ:aD): ∀k fits,(σ.wit k fits).length=k+1:=by
 intro k
 induction k with
 |zero=>intro fits;rfl
 |succ k ih=>intro fits;show (_::σ.wit k _).length=_;rw [List.length_cons,ih]
def ln (σ:aD) (k:Nat) (fits:Nat->Bool):Nat:=aD.leastB (2^σ.n) fun s=>fits s&&σ.ahead k s
def xc (σ:aD) (k s:Nat):Nat:=aD.leastB (2^σ.k) fun x=>σ.onB k (σ.at_ s x)
theorem NS (σ:aD) (k:Nat) (fits:Nat->Bool):σ.wit (k+1) fits=(ln σ (k+1) fits,xc σ (k+1) (ln σ (k+1) fits))::σ.wit k (σ.goes (σ.at_ (ln σ (k+1) fits) (xc σ (k+1) (ln σ (k+1) fits)))):=rfl
theorem cw.at {X:List (Nat×Blk)} {h:Hp} {s t:Sl} {ts:List Sl} {i:Nat} (o:cw X s 1 (ts.map Sl.v)) (m: ∀e∈X,h e.1=some e.2) (hi:ts[i]?=some t):
  ∃b x,s.a=some ⟨b,0,none⟩/\h b=some x/\Hp.cell h b (0+i*1)=some t.v:=by
 have hlt:=get_lt hi
 rcases o.2.2 with ⟨_,_,h0⟩|⟨b,ha,rfl⟩
 ·have:ts.length=0:=by have:=congrArg List.length h0;simpa using this
  omega
 ·have hb:=m _ (.head _)
  refine⟨b,_,ha,hb,?_⟩
  rw [aq hb,Nat.zero_add,Nat.mul_one,List.getElem?_map,hi];rfl
theorem ZH {h:Hp} {b b4 bl:Nat} {r:Sl} {x4 xl:Blk} {σ:aD} {S:Nat->Bool} {J:Nat->Hp->Prop} (hs:oy h b σ) (ok:σ.Ok) (hr:dc h r (2^σ.n) S) (f4:h b4=some x4) (fl:h bl=some xl)
  (hJ: ∀bc h' w,h.le h'->h' bc=some (.inl ⟨[.func (.func cG) #[] w],1,false⟩)->Fp h' cG #[] w (2^(σ.n+σ.k)) (σ.leads S)->J bc h'):
  (cM #[.pointer (some ⟨b,0,none⟩),r.v] h fun v36 h37=> ∃(f38:FuncId) (u39 w40:Array Value),v36=(.func (.func f38) u39 w40)/\(∀b41:Nat,h37 b41=none->cA (h37.row b41 [.nilFunc] 1) fun h42=>h42 bl=h bl/\(h42 b4=h b4/\
   (∃(cs43:List Value) (z44:Nat),h42 b41=some (.inl ⟨cs43,z44,false⟩)/\0+1<=List.length cs43/\cA (h42.row b41 (cz cs43 0 [(.func (.func f38) u39 w40)]) z44) fun h45=>J b41 h45))))/\
  (∀b46:Nat,h b46=none->cA (h.row b46 [.nilFunc] 1) fun h47=>h47 bl=h bl/\(h47 b4=h b4/\(cM #[.pointer (some ⟨b,0,none⟩),r.v] h47 fun v48 h49=> ∃(f50:FuncId) (u51 w52:Array Value),v48=(.func (.func f50) u51 w52)/\
   (∃(cs53:List Value) (z54:Nat),h49 b46=some (.inl ⟨cs53,z54,false⟩)/\0+1<=List.length cs53/\cA (h49.row b46 (cz cs53 0 [(.func (.func f50) u51 w52)]) z54) fun h55=>J b46 h55)))):=by
 refine⟨?_,?_⟩
 ·refine BR hs ok hr fun w h4 l4 hA=>⟨_,_,_,rfl,?_⟩
  refine aj fun b41 h5 hb41 l5 f41=>?_
  have l35:=Hp.le_trans l4 l5
  refine⟨(l35 _ _ fl).trans fl.symm,(l35 _ _ f4).trans f4.symm,?_⟩
  (with_reducible apply bZ);(exact f41);(exact l5);(exact hb41);(exact Nat.le_refl 1)
  intro h6 f6 kp l6
  exact hJ b41 h6 w (Hp.le_trans l4 l6) f6 fun c hc h'' l' R' kk'=>hA c hc h'' (Hp.le_trans l6 l') R' kk'
 ·refine aj fun b46 h4 hb46 l4 f46=>⟨(l4 _ _ fl).trans fl.symm,(l4 _ _ f4).trans f4.symm,?_⟩
  refine zR l4 hs ok hr fun w h5 g' l5 lg lg' hno hA=>⟨_,_,_,rfl,?_⟩
  have hg46:=hno b46 (by rw [f46];simp) hb46
  (with_reducible apply bZ);(exact l5 _ _ f46);(exact Hp.le_trans l4 l5);(exact hb46);(exact Nat.le_refl 1)
  intro h6 f6 kp l6
  have l56:g'.le h6:=fun c x e=>by
   have hne:c≠b46:=by rintro rfl;rw [hg46]at e;cases e
   rw [kp c hne];exact lg' _ _ e
  exact hJ b46 h6 w l6 f6 fun c hc h'' l' R' kk'=>hA c hc h'' (Hp.le_trans l56 l') R' kk'
theorem aa5 {h g h1 h5:Hp} {b6 b73:Nat} {y:Blk} {sS sI:Sl} {XS XI:List (Nat×Blk)} {pre:List (Nat×Nat)} (lg:h.le g) (h6:g b6≠none) (oS:cw XS sS 1 ((VL (pre.map Prod.fst)).map I)) (oI:cw XI sI 1 ((VL (pre.map Prod.snd)).map I))
  (nS:sS.n<=9223372036854775807) (nI:sI.n<=9223372036854775807) (K:Kn g h1 ((b73,y)::(XS++(XI++ [])))) (l5:h.le h5) (kp: ∀c,c≠b6->h5 c=h1 c):TrX h h5 sS sI pre:=by
 obtain⟨XS',oS',K6⟩:=oS.toOwn nS (A:= [_]) (L:=XI++ []) K
 rw [<-List.append_assoc]at K6
 obtain⟨XI',oI',K7⟩:=oI.toOwn nI K6
 rw [List.append_nil,List.append_assoc]at K7
 have nd:=K7.nd
 have hm: ∀e∈XS'++XI',e∈ [(b73,y)]++(XS'++XI'):=fun e he=>List.mem_append_right _ he
 refine⟨XS',XI',oS',oI',l5,fun e he=>?_,fun e he=>?_,?_⟩
 ·have hne:e.1≠b6:=by
   intro e6
   have h1:=K7.new e (hm e he)
   rw [e6]at h1;exact h6 h1
  rw [kp _ hne];exact K7.mem e (hm e he)
 ·exact aF lg (K7.new e (hm e he))
 ·rw [List.map_append,List.nodup_append]at nd
  exact nd.2.1
set_option maxHeartbeats 2000000 in
theorem Bw {h:Hp} {b d:Nat} {σ:aD} {R:Value->Hp->Prop} (hs:oy h b σ) (ok:σ.Ok) (hd:d<=256) (hw: ∃s,s<2^σ.n/\(σ.begins s&&σ.ahead d s)=true)
  (k: ∀sS sI h',TrX h h' sS sI (σ.wit d σ.begins)->R (.agg #[Sl.v sS,Sl.v sI]) h'):iC #[.pointer (some ⟨b,0,none⟩),I d] h R:=by
 apply wW
 refine uf_ ?_
 have hn:=fh ok
 have hk:=Df ok
 have K0:=Kn.nil h
 (with_reducible apply Kn.al);(assumption);(intro b4 h1 K1 l1 hb4)
 (with_reducible apply Kn.al);(assumption);(intro b6 h2 K2 l2 hb6)
 have f4:=K2.at (.tail _ (.head _))
 have f6:=K2.at (.head _)
 have hs2:=hs.mono K2.le
 (refine kr_ ?_)
 refine uF hs2 ok (f:=fun _ c=>σ.ends c) (fun s i hs' hi h' l R kk=>E1 (hs2.mono l) (l _ _ f4) (aD.at_lt hs' hi) kk) fun t0 h3 l3 ht0'=>⟨_,rfl,?_⟩
 have ht0:dc h3 t0 (2^σ.n) (σ.ahead 0):=ht0'.mono (sub_le _ _)
 (with_reducible apply Kn.al);(exact Kn.nil h3);(intro b13 h4 K4 l4 hb13)
 refine av d (fun i vs h'=> ∃(out:Sl) (ts:List Sl) (X:List (Nat×Blk)) (g:Hp),vs= [I d, .pointer (some ⟨b4,0,none⟩), .pointer (some ⟨b6,0,none⟩),out.v,I d,I i]/\h2.le g/\cw X out 1 (ts.map Sl.v)/\
  ts.length=i+1/\Kn g h' X/\ ∀(j:Nat) (t:Sl),ts[j]?=some t->dc g t (2^σ.n) (σ.ahead j))
  ⟨arr b13 1, [t0],_,h3,rfl,l3,⟨rfl,Nat.le_refl _, .inr ⟨b13,rfl,rfl⟩⟩,rfl,K4,fun j t hj=>?_⟩ ?_
 ·cases j with
  |zero=>simp at hj;subst hj;exact ht0
  |succ j=>simp at hj
 clear K4 l4 hb13 h4 ht0 ht0' l3 h3 t0 b13
 rintro i _ h3 nxt hi ⟨out,ts,X,g,rfl,lg,oX,htl,K,hT⟩ hnx
 have hon:=oX.1
 rw [List.length_map,Nat.mul_one]at hon
 refine⟨_,b4,0,b6,0,out,_,_,rfl,?_⟩
 have f4g:=lg _ _ f4
 have f6g:=lg _ _ f6
 have hsg:=hs2.mono lg
 by_cases hlt:i<d
 ·refine aM (by rw [decide_eq_true_eq];exact_mod_cast hlt) ?_
  obtain⟨t,hti⟩: ∃t,ts[i]?=some t:=⟨_,List.getElem?_eq_getElem (by omega)⟩
  have hTi:=hT i t hti
  have hW:W ((out.n:Int)-1)=(i:Nat):=by rw [bU (by omega) (by omega)];omega
  refine ap (fun J=> ∀bc h4 w,h3.le h4->h4 bc=some (.inl ⟨[.func (.func cG) #[] w],1,false⟩)->Fp h4 cG #[] w (2^(σ.n+σ.k)) (σ.leads (σ.ahead i))->J bc 0 h4)
   (fun bc h4 w l34 fc hA=>?_) (fun J hJ=>?_)
  ·have K4:=K.mono l34
   have hs4:=hsg.mono K4.le
   have f44:=K4.le _ _ f4g
   (refine kr_ ?_)
   refine uF hs4 ok (f:=fun _ c=>σ.hold c&&σ.leads (σ.ahead i) c) (fun s j hs' hj h' l R kk=>EX (hs4.mono l) (l _ _ f44) (l _ _ fc)
    (fun c hc h'' l' R' kk'=>hA c hc h'' (Hp.le_trans l l') R' kk') (aD.at_lt hs' hj) kk) fun t' h5 l5 ht'=>⟨_,rfl,?_⟩
   refine aj fun b64 h6 hb64 l6 f64=>?_
   have K6:=K4.mono (Hp.le_trans l5 l6)
   have hnew:dc (h6.wo (X.map Prod.fst)) t' (2^σ.n) (σ.ahead (i+1)):=ht'.mono (Hp.le_trans (qx h4 l6) (yW K4))
   have lB:=K6.leBase
   have KB:=K6.base
   generalize h6.wo (X.map Prod.fst)=g6 at*
   rw [show X=X++ []from(List.append_nil _).symm]at KB
   refine Kn.grow KB oX (by omega) (by omega) (by omega) ⟨b64,0,rfl,ay f64⟩ rfl rfl fun out' X' h7 hn' oX' K7 l7=>?_
   rw [aC (by omega)]
   rw [List.append_nil]at K7
   refine hnx hlt _ _ ⟨out',ts++ [t'],X',g6,rfl,Hp.le_trans lg lB,by rw [List.map_append];exact oX',by simp [htl],K7,fun j u hj=>?_⟩
   by_cases e:j<ts.length
   ·rw [List.getElem?_append_left e]at hj
    exact(hT j u hj).mono lB
   ·have h1:=get_lt hj
    simp at h1
    rw [List.getElem?_append_right (by omega),show j-ts.length=0 by omega]at hj
    simp at hj;subst hj
    rw [show j=i+1 by omega];exact hnew
  ·rw [hW]
   obtain⟨bo,xo,hao,hbo,hco⟩:=oX.at (fun e he=>K.mem e he) hti
   refine⟨bo,0,hao,by omega,by omega,?_⟩
   (refine kr_ ?_)
   refine⟨t,by rw [Int.toNat_natCast];exact hco,?_⟩
   exact ZH (J:=fun bc h=>J bc 0 h) (hsg.mono K.le) ok (hTi.mono K.le) (K.le _ _ f4g) hbo hJ
 have hie:i=d:=by omega
 subst hie
 refine aE (by simp) ?_
 have hL:BX h3 out (2^σ.n) (i+1) σ.ahead:=⟨ts,htl,(oX.buf fun e he=>K.mem e he).slc_of (by omega),fun j t hj=>(hT j t hj).mono K.le⟩
 have lG:=Hp.le_trans lg K.le
 clear hT K hsg f6g f4g oX hnx hlt hi lg htl hon X g ts
 have f4G:=lG _ _ f4
 have hsG:=hs2.mono lG
 (with_reducible apply Kn.al);(exact Kn.nil h3);(intro b73 h4 K4 l4 hb73)
 (refine kr_ ?_)
 refine nz (i+1) (fun m vs h'=> ∃(g:Hp) (pre:List (Nat×Nat)) (fid:FuncId) (u w:Array Value) (fits:Nat->Bool) (sS sI:Sl) (XS XI:List (Nat×Blk)),
  vs= [.pointer (some ⟨b4,0,none⟩), .pointer (some ⟨b6,0,none⟩),out.v, .pointer (some ⟨b73,0,none⟩), .func (.func fid) u w,I ((m:Int)-1)]/\h3.le g/\Kn g h' ((b73, .inl ⟨[sS.v,sI.v],2,false⟩)::(XS++(XI++ [])))/\
  cw XS sS 1 ((VL (pre.map Prod.fst)).map I)/\cw XI sI 1 ((VL (pre.map Prod.snd)).map I)/\pre.length+m=i+1/\Fp g fid u w (2^σ.n) fits/\(m=0->pre=σ.wit i σ.begins)/\
  ∀k',m=k'+1->pre++σ.wit k' fits=σ.wit i σ.begins/\ ∃s,s<2^σ.n/\(fits s&&σ.ahead k' s)=true)
  ⟨h3, [],kO, #[.pointer (some ⟨b,0,none⟩)], #[],σ.begins,⟨none,0,0⟩,⟨none,0,0⟩, [], [],by rw [show (((i+1:Nat):Int)-1)=i by omega],Hp.le_refl _,K4,cD 1,cD 1,by simp,fun c hc h' l R' kk=>yA (hsG.mono l) ok hc kk,
   fun e=>by omega,fun k' e=>by obtain rfl:k'=i:=by omega
                                exact⟨rfl,hw⟩⟩ ?_
 clear K4 l4 hb73 h4
 rintro m _ h4 nxt ⟨g,pre,fid,u,w,fits,sS,sI,XS,XI,rfl,lg,K,oS,oI,hpl,hA,hz,hsc⟩ hnx
 refine⟨b4,0,b6,0,out,b73,0,fid,u,w,_,rfl,?_⟩
 have f4g:=lg _ _ f4G
 have hsg:=hsG.mono lg
 have hpl1:=oS.1
 have hpl2:=oI.1
 simp only [List.length_map,aY,Nat.mul_one]at hpl1 hpl2
 cases m with
 |zero=>
  refine aE (by rw [decide_eq_false_iff_not];omega) ?_
  (refine kr_ ?_)
  (refine kr_ ?_)
  have K2':=K2.mono (Hp.le_trans lG (Hp.le_trans lg K.le))
  (with_reducible apply Kn.wr);(exact K2');((focus ((repeat first|exact .head|apply Upd.tail);done)))
  ·exact Nat.le_refl _
  intro h5 K5 kp
  refine⟨sS,by rw [aq (K5.at (.head _))];rfl,sI,by rw [aq (K5.at (.head _))];rfl,?_⟩
  refine k sS sI h5 ?_
  rw [<-hz rfl]
  exact aa5 (Hp.le_trans K2.le (Hp.le_trans lG lg)) (by rw [lg _ _ (lG _ _ f6)];simp) oS oI (by omega) (by omega) K K5.le kp
 |succ k=>
 rename_i kf
 obtain⟨hwit,hex⟩:=hsc k rfl
 have hki:k<=i:=by omega
 have hk1:(((k+1:Nat):Int)-1)=k:=by omega
 rw [hk1]
 refine aM (by rw [decide_eq_true_eq];omega) ?_
 obtain⟨hs0,hfit,hno⟩:=aD.leastB_at hex
 rw [show aD.leastB (2^σ.n) (fun s=>fits s&&σ.ahead k s)=ln σ k fits from rfl]at hs0 hfit hno
 obtain⟨hx0,hon,hnx0⟩:=aD.leastB_at (aD.ahead_on.1 (by simp only [Bool.and_eq_true]at hfit;exact hfit.2))
 rw [show aD.leastB (2^σ.k) (fun x=>σ.onB k (σ.at_ (ln σ k fits) x))=xc σ k (ln σ k fits)from rfl]at hx0 hon hnx0
 have hwk: ∀Z,(∀k',k=k'+1->Z=σ.wit k' (σ.goes (σ.at_ (ln σ k fits) (xc σ k (ln σ k fits)))))->(k=0->Z= [])->σ.wit k fits=(ln σ k fits,xc σ k (ln σ k fits))::Z:=by
  intro Z h1 h2
  cases k with
  |zero=>rw [h2 rfl];rfl
  |succ k'=>rw [h1 k' rfl];rfl
 generalize ln σ k fits=s0 at*
 generalize xc σ k s0=x0 at*
 refine av s0 (fun j vs h'=>vs= [.pointer (some ⟨b4,0,none⟩), .pointer (some ⟨b6,0,none⟩),out.v, .pointer (some ⟨b73,0,none⟩), .func (.func fid) u w,I k,I j]/\h4=h') ⟨rfl,rfl⟩ ?_
 rintro j _ _ nxt2 hj ⟨rfl,rfl⟩ hnx2
 refine⟨b4,0,b6,0,out,b73,0,fid,u,w,_,_,rfl,?_⟩
 refine ap (fun J=>J (!(fits j&&σ.ahead k j)) h4) ?_ (fun J hJ=>?_)
 rotate_left
 ·refine hA j (by omega) h4 K.le _ ⟨_,rfl,?_⟩
  refine ac (fun e=>?_) (fun e=>?_)
  ·rw [show fits j=false by simpa using e]at hJ;exact hJ
  ·rw [show fits j=true by simpa using e,Bool.true_and]at hJ
   obtain⟨bl,ol,r,ha,h3',h4',hr⟩:=hL.get (show k<i+1 by omega)
   have l34:=Hp.le_trans lg K.le
   refine⟨bl,ol,ha,by omega,by omega,r,l34.cell h4',?_⟩
   obtain⟨br,or,har,hr1,hr2⟩:=(hr.mono l34).get (show j<2^σ.n by omega)
   exact⟨br,or,har,by omega,hr1,_,hr2,hJ⟩
 by_cases hlt:j<s0
 ·refine aM (by rw [hno j hlt];rfl) ?_
  rw [aC (by omega)]
  exact hnx2 hlt _ _ ⟨rfl,rfl⟩
 obtain rfl:j=s0:=by omega
 refine aE (by rw [hfit];rfl) ?_
 (refine kr_ ?_)
 clear hnx2 hlt hno hj
 refine ap (fun J=> ∀fid u w h5,h4.le h5->Fp h5 fid u w (2^(σ.n+σ.k)) (σ.onB k)->J fid u w h5) (fun fid2 u2 w2 h5 l45 hA2=>?_) (fun J hJ=>?_)
 rotate_left
 ·have hs4:=hsg.mono K.le
  cases k with
  |zero=>exact aE rfl (hJ _ _ _ h4 (Hp.le_refl _) fun c hc h'' l' R' kk=>yR (hs4.mono l') hc kk)
  |succ k'=>
   refine aM (by rw [decide_eq_true_eq];omega) ?_
   obtain⟨bl,ol,r,ha,h3',h4',hr⟩:=hL.get (show k'<i+1 by omega)
   have hW:W (((k'+1:Nat):Int)-1)=(k':Nat):=by rw [bU (by omega) (by omega)];omega
   rw [hW]
   refine⟨bl,ol,ha,by omega,by omega,?_⟩
   (refine kr_ ?_)
   have l34:=Hp.le_trans lg K.le
   have hc4:=l34.cell h4'
   refine⟨r,hc4,?_⟩
   obtain⟨xl,hxl⟩: ∃xl,h4 bl=some xl:=by
    unfold Hp.cell at hc4
    split at hc4
    ·rename_i x hx;exact⟨_,hx⟩
    ·cases hc4
   refine ZH (J:=fun bc h=>J tZ #[] #[.pointer (some ⟨b4,0,none⟩), .pointer (some ⟨bc,0,none⟩)] h) hs4 ok (hr.mono l34) (K.le _ _ f4g) hxl fun bc h5 w l45 fc hA2=>?_
   exact hJ _ _ _ h5 l45 fun c hc h'' l' R' kk=>Fe ((hs4.mono l45).mono l') (l' _ _ (l45 _ _ (K.le _ _ f4g))) (l' _ _ fc) (fun c hc h3 l3 R3 k3=>hA2 c hc h3 (Hp.le_trans l' l3) R3 k3) hc kk
 have KA:=K.mono l45
 clear K hA
 have hs5:=hsg.mono KA.le
 refine av x0 (fun i vs h'=>vs= [.pointer (some ⟨b4,0,none⟩), .pointer (some ⟨b6,0,none⟩),out.v, .pointer (some ⟨b73,0,none⟩),I k,I j, .func (.func fid2) u2 w2,I i]/\h5=h') ⟨rfl,rfl⟩ ?_
 rintro x _ _ nxt3 hx ⟨rfl,rfl⟩ hnx3
 refine⟨b4,0,b6,0,out,b73,0,_,_,fid2,u2,w2,_,rfl,?_⟩
 have hat:=aD.at_lt hs0 (show x<2^σ.k by omega)
 (refine kr_ ?_)
 refine FL hs5 ok hs0 (by omega) ⟨_,rfl,?_⟩
 refine hA2 _ hat h5 (Hp.le_refl _) _ ⟨_,rfl,?_⟩
 by_cases hlt:x<x0
 ·refine aM (by rw [hnx0 x hlt];rfl) ?_
  rw [aC (by omega)]
  exact hnx3 hlt _ _ ⟨rfl,rfl⟩
 obtain rfl:x=x0:=by omega
 refine aE (by rw [hon];rfl) ?_
 clear hnx3 hlt hnx0 hx
 (refine kr_ ?_)
 refine Kn.al KA fun b194 h6 K6 l6 hb194=>?_
 have f194:=K6.at (.head _)
 refine Kn.growIn (A:= [_,_]) K6 oS (by omega) (by omega) (by omega) ⟨b194,0,rfl,ay f194⟩ rfl rfl fun sS' XS' h7 hnS oS' K7 l7=>?_
 simp only [List.cons_append,List.nil_append]at K7
 clear K6 l6 hb194 f194 KA
 (((with_reducible apply Kn.wr);(assumption);((focus ((repeat first|exact .head|apply Upd.tail);done)))))
 ·simp
 intro h8 K8 _
 simp only [bG,List.set_cons_zero,List.set_cons_succ,Nat.zero_add,Nat.reduceAdd]at K8
 clear K7 l7
 (refine kr_ ?_)
 refine Kn.al K8 fun b205 h9 K9 l9 hb205=>?_
 have f205:=K9.at (.head _)
 refine Kn.growIn2 (A:= [_,_,_]) K9 oI (by omega) (by omega) (by omega) ⟨b205,0,rfl,ay f205⟩ rfl rfl fun sI' XI' h10 hnI oI' K10 l10=>?_
 simp only [List.cons_append,List.nil_append]at K10
 clear K9 l9 hb205 f205 K8
 (((with_reducible apply Kn.wr);(assumption);((focus ((repeat first|exact .head|apply Upd.tail);done)))))
 ·simp
 intro h11 K11 _
 simp only [bG,List.set_cons_zero,List.set_cons_succ,Nat.zero_add,Nat.reduceAdd]at K11
 clear K10 l10
 (refine kr_ ?_)
 refine FL (hsg.mono K11.le) ok hs0 hx0 ⟨_,rfl,?_⟩
 refine Kn.al K11 fun b219 h12 K12 l12 hb219=>?_
 (((with_reducible apply Kn.wr);(assumption);((focus ((repeat first|exact .head|apply Upd.tail);done)))))
 ·exact Nat.le_refl _
 intro h13 K13 _
 clear K12 l12 hb219 K11
 have nd:=K13.nd
 have KS:Kn g h13 ([(b219, .inl ⟨[I (σ.at_ j x:Nat)],1,false⟩)]++((b73, .inl ⟨[sS'.v,sI'.v],2,false⟩)::(XS'++(XI'++ [])))):=by
  refine K13.sub (fun e he=>?_) ?_
  ·rcases List.mem_append.1 he with he|he
   ·rw [List.mem_singleton.1 he];exact .head _
   ·exact .tail _ (.tail _ (.tail _ he))
  ·simp only [List.map_cons,List.nodup_cons,List.mem_cons,not_or,List.cons_append,List.nil_append]at nd⊢
   exact⟨⟨nd.1.2.2.1,nd.1.2.2.2⟩,nd.2.2.2⟩
 obtain⟨KM,KF⟩:=Kn.split KS
 generalize h13.wo (List.map Prod.fst ((b73,Sum.inl ⟨[sS'.v,sI'.v],2,false⟩)::(XS'++(XI'++ [])):List (Nat×Blk)))=g' at*
 rw [bU (by omega) (by omega)]
 refine hnx k (by omega) _ _ ⟨g',pre++ [(j,x)],_,_,_,σ.goes (σ.at_ j x),sS',sI',XS',XI',rfl,Hp.le_trans lg KF.le,KM,by simpa [VL] using oS',by simpa [VL] using oI',by simp;omega,
  fun c hc h'' l' R' kk=>Fy ((hsg.mono KF.le).mono l') ok (l' _ _ (KF.le _ _ f4g)) (l' _ _ (KF.at (.head _))) (aD.at_lt hs0 hx0) hc kk,fun e=>?_,fun k' e=>⟨?_,?_⟩⟩
 ·rw [<-hwit,hwk [] (fun k' e'=>by omega) fun _=>rfl]
 ·rw [<-hwit,hwk _ (fun k'' e'=>by obtain rfl:k''=k':=by omega
                                   rfl) fun e'=>by omega,List.append_assoc];rfl
 ·subst e
  exact aD.onB_next hon
theorem Kt {σ:aD} {fm:Nat} (hfm:fm+σ.fixed=2^σ.n-1):(eM fm).length<=2^σ.n:=by
 have:=Nat.two_pow_pos σ.n
 have h1:(eM fm).length<=fm+1:=by unfold eM;have:=List.length_filter_le (fun c=>decide (c&&&fm=c)) (List.range (fm+1));simpa using this
 omega
theorem VH {σ:aD} {fm c i:Nat} (ok:σ.Ok) (hfm:fm+σ.fixed=2^σ.n-1) (hc:c<2^(σ.n+σ.k)):σ.onB (i+1) c=true↔σ.hold c=true/\ ∃f,f∈eM fm/\σ.ahead i (σ.next c+f)=true:=by
 simp only [aD.onB,Bool.and_eq_true,aD.leads,cF]
 refine and_congr_right fun _=>?_
 constructor
 ·rintro ⟨t,ht,h1,h2⟩
  obtain⟨f,hf,rfl⟩:=(nA ok hfm hc ht).1 h2
  exact⟨f,hf,h1⟩
 ·rintro ⟨f,hf,h1⟩
  have hl:=Bu ok hfm hc hf
  exact⟨_,hl,h1,(nA ok hfm hc hl).2 ⟨f,hf,rfl⟩⟩
set_option maxHeartbeats 1000000 in
theorem Hn {h:Hp} {q:Cm} {σ:aD} {d:Nat} {R:Value->Hp->Prop} (hq:A5 h q σ) (ok:σ.Ok) (hd:d<=256)
  (k: ∀s h',h.le h'->BX h' s (2^σ.n) (d+1) σ.ahead->R (Sl.v s) h'):pR #[EL σ q,I d] h R:=by
 apply CL
 refine uf_ ?_
 have hn:=fh ok
 have hp:=qR ok
 have hpos:=Nat.two_pow_pos σ.n
 obtain⟨hh,hen,hx,⟨fm,hfm,hfl⟩,_⟩:=id hq
 have hhl:=hh.len
 have hel:=hen.len
 have hxl:=IntS.len hx
 rw [aY,List.length_map,List.length_range]at hxl
 have hfll:=IntS.len hfl
 rw [aY]at hfll
 have hfb:=Kt hfm
 have K0:=Kn.nil h
 (with_reducible apply Kn.al);(assumption);(intro b10 h1 K1 l1 hb10)
 have f10:=K1.at (.head _)
 have lh1:=K1.le
 clear K0 K1 hb10 l1
 refine av (d+1) (fun i vs h'=> ∃(out:Sl) (ts:List Sl) (X:List (Nat×Blk)) (g:Hp),vs= [I d, .pointer (some ⟨b10,0,none⟩),out.v,I i]/\h1.le g/\cw X out 1 (ts.map Sl.v)/\
  ts.length=i/\Kn g h' X/\ ∀(j:Nat) (t:Sl),ts[j]?=some t->dc g t (2^σ.n) (σ.ahead j))
  ⟨⟨none,0,0⟩, [], [],h1,rfl,Hp.le_refl _,cD 1,rfl,Kn.nil h1,fun j t hj=>by simp at hj⟩ ?_
 rintro i _ h2 nxt hi ⟨out,ts,X,g,rfl,lg,oX,htl,K,hT⟩ hnx
 have hon:=oX.1
 rw [List.length_map,Nat.mul_one]at hon
 refine⟨_,b10,0,out,_,rfl,?_⟩
 have l12:=Hp.le_trans lg K.le
 by_cases hlt:i<d+1
 rotate_left
 ·refine aE (by rw [decide_eq_false_iff_not];omega) ?_
  exact k out h2 (Hp.le_trans lh1 l12) ⟨ts,by omega,(oX.buf fun e he=>K.mem e he).slc_of (by omega),fun j t hj=>(hT j t hj).mono K.le⟩
 refine aM (by rw [decide_eq_true_eq];omega) ?_
 have f10g:=lg _ _ f10
 (refine kr_ ?_)
 refine⟨Int.natCast_nonneg _,Int.le_refl _,by omega,by omega,?_⟩
 (with_reducible apply Kn.al);(exact Kn.nil h2);(intro b28 h3 K3 l3 hb28)
 rw [Int.toNat_natCast,Nat.mul_one,cn,kI]at K3
 rw [Int.toNat_natCast]
 have f102:=l12 _ _ f10
 have hq2:=hq.mono (Hp.le_trans lh1 l12)
 obtain⟨hh2,hen2,hx2,_,_⟩:=id hq2
 have hfl2:=hfl.mono (Hp.le_trans lh1 l12)
 refine av (2^(σ.n+σ.k)) (fun c vs h'=>vs= [I d, .pointer (some ⟨b10,0,none⟩),out.v,I i,(arr b28 (2^σ.n)).v,I c]/\
  ∃T,Kn h2 h' [(b28, .inl ⟨tb (2^σ.n) T,2^σ.n,false⟩)]/\ ∀x,T x=true↔ ∃c',c'<c/\c'%2^σ.n=x/\σ.onB i c'=true)
  ⟨rfl,_,K3,fun x=>⟨fun e=>by simp at e,fun⟨c',e,_⟩=>by omega⟩⟩ ?_
 clear K3 l3 hb28 h3
 rintro c _ h3 nxt2 hc ⟨rfl,T,K3,hT3⟩ hnx2
 refine⟨_,b10,0,out,_,arr b28 _,_,rfl,?_⟩
 (refine kr_ ?_)
 by_cases hltc:c<2^(σ.n+σ.k)
 rotate_left
 ·refine aE (by rw [decide_eq_false_iff_not];omega) ?_
  refine aj fun b111 h4 hb111 l4 f111=>?_
  have K4:=K3.mono l4
  have KX:=K.mono K4.le
  have hnew:dc h4 (arr b28 (2^σ.n)) (2^σ.n) (σ.ahead i):=km (by omega) (K4.at (.head _)) fun s hs=>by
   rw [Bool.eq_iff_iff,hT3,aD.ahead_on]
   constructor
   ·rintro ⟨c',h1,h2,h3⟩
    have hc':c'<2^(σ.n+σ.k):=by omega
    obtain⟨a1,a2,a3⟩:=aD.at_of hc'
    exact⟨_,a2,by rw [<-h2,a3];exact h3⟩
   ·rintro ⟨x,hx,h3⟩
    have:=aD.at_lt hs hx
    exact⟨_,by omega,aD.at_mod hs,h3⟩
  have hnew2:dc (h4.wo (X.map Prod.fst)) (arr b28 (2^σ.n)) (2^σ.n) (σ.ahead i):=by
   have h5:dc (h4.sub h2) (arr b28 (2^σ.n)) (2^σ.n) T:=km (by omega) (by rw [lR (K4.new _ (.head _))];exact K4.at (.head _)) fun j _=>rfl
   exact SM (h5.mono (yW K)) fun j hj=>by
    rw [Bool.eq_iff_iff,hT3,aD.ahead_on]
    constructor
    ·rintro ⟨c',h1,h2,h3⟩
     have hc':c'<2^(σ.n+σ.k):=by omega
     obtain⟨a1,a2,a3⟩:=aD.at_of hc'
     exact⟨_,a2,by rw [<-h2,a3];exact h3⟩
    ·rintro ⟨x,hx,h3⟩
     have:=aD.at_lt hj hx
     exact⟨_,by omega,aD.at_mod hj,h3⟩
  have lB:=KX.leBase
  have KB:=KX.base
  clear hnew
  generalize h4.wo (X.map Prod.fst)=g6 at*
  rw [show X=X++ []from(List.append_nil _).symm]at KB
  refine Kn.grow KB oX (by omega) (by omega) (by omega) ⟨b111,0,rfl,ay f111⟩ rfl rfl fun out' X' h7 hn' oX' K7 l7=>?_
  rw [aC (by omega)]
  rw [List.append_nil]at K7
  refine hnx hlt _ _ ⟨out',ts++ [arr b28 (2^σ.n)],X',g6,rfl,Hp.le_trans lg lB,by rw [List.map_append];exact oX',by simp [htl],K7,fun j u hj=>?_⟩
  by_cases e:j<ts.length
  ·rw [List.getElem?_append_left e]at hj
   exact(hT j u hj).mono lB
  ·have h1:=get_lt hj
   simp at h1
   rw [List.getElem?_append_right (by omega),show j-ts.length=0 by omega]at hj
   simp at hj;subst hj
   rw [show j=i by omega];exact hnew2
 refine aM (by rw [decide_eq_true_eq];omega) ?_
 have hmod:=Nat.mod_lt c hpos
 refine ap (fun J=>J (decide (i=0)&&σ.ends c)) ?_ (fun J hJ=>?_)
 rotate_left
 ·refine ac (fun e=>?_) (fun e=>?_)
  ·have e0:i=0:=by have:=beq_iff_eq.1 e;omega
   (refine kr_ ?_)
   obtain⟨b,o,ha,e1,e2⟩:=(hen2.mono K3.le).get hltc
   refine⟨b,o,ha,by omega,e1,_,e2,?_⟩
   rw [decide_eq_true e0,Bool.true_and]at hJ;exact hJ
  ·have e0: ¬i=0:=fun q=>by rw [q]at e;simp at e
   rw [decide_eq_false e0,Bool.false_and]at hJ;exact hJ
 refine ap (fun J=> ∀h4 U,Kn h2 h4 [(b28, .inl ⟨tb (2^σ.n) U,2^σ.n,false⟩)]->(∀x,U x=true↔T x=true\/(x=c%2^σ.n/\i=0/\σ.ends c=true))->J h4) (fun h4 U K4 hU=>?_) (fun J hJ=>?_)
 rotate_left
 ·refine ac (fun e=>?_) (fun e=>?_)
  ·rw [Bool.and_eq_true,decide_eq_true_eq]at e
   (refine kr_ ?_)
   rw [if_neg (by omega),eU]
   refine⟨b28,0,rfl,by omega,by dsimp only;omega,?_⟩
   (((with_reducible apply Kn.wr);(assumption);((focus ((repeat first|exact .head|apply Upd.tail);done)))))
   ·rw [gR];omega
   intro h4 K4 _
   rw [bG,Nat.zero_add,Int.toNat_natCast,Nat.mul_one,lP]at K4
   refine hJ h4 _ K4 fun x=>?_
   by_cases ex:x=c%2^σ.n
   ·rw [if_pos ex];exact⟨fun _=> .inr ⟨ex,e⟩,fun _=>rfl⟩
   ·rw [if_neg ex];exact⟨.inl,fun q=>q.resolve_right fun q2=>ex q2.1⟩
  ·refine hJ h3 T K3 fun x=>⟨.inl,fun q=>q.resolve_right fun⟨_,q2,q3⟩=>?_⟩
   rw [decide_eq_true q2,q3]at e;cases e
 clear K3
 refine av (eM fm).length (fun j vs h'=>vs= [I d, .pointer (some ⟨b10,0,none⟩),out.v,I i,(arr b28 (2^σ.n)).v,I c,I j]/\
  ∃V,Kn h2 h' [(b28, .inl ⟨tb (2^σ.n) V,2^σ.n,false⟩)]/\ ∀x,V x=true↔U x=true\/(x=c%2^σ.n/\ ∃i',i=i'+1/\σ.hold c=true/\ ∃f,f∈(eM fm).take j/\σ.ahead i' (σ.next c+f)=true))
  ⟨rfl,U,K4,fun x=>⟨.inl,fun q=>q.resolve_right fun⟨_,_,_,_,f,hf,_⟩=>by simp at hf⟩⟩ ?_
 clear K4 h3 h4
 rintro j _ h3 nxt3 hj ⟨rfl,V,K3,hV⟩ hnx3
 refine⟨_,b10,0,out,_,arr b28 _,_,_,rfl,?_⟩
 have fin:(i=0\/σ.hold c=false\/j=(eM fm).length)->nxt2 [I d, .pointer (some ⟨b10,0,none⟩),out.v,I i,(arr b28 (2^σ.n)).v,I (W ((c:Int)+1))] h3:=fun hend=>by
  rw [aC (by omega)]
  refine hnx2 hltc _ _ ⟨rfl,V,K3,fun x=>?_⟩
  have hcc:σ.onB i c=true↔(i=0/\σ.ends c=true)\/ ∃i',i=i'+1/\σ.hold c=true/\ ∃f,f∈(eM fm).take j/\σ.ahead i' (σ.next c+f)=true:=by
   cases i with
   |zero=>
    refine⟨fun q=> .inl ⟨rfl,q⟩,fun q=>?_⟩
    rcases q with q|⟨i',q,_⟩
    ·exact q.2
    ·omega
   |succ i'=>
    rw [VH ok hfm hltc]
    constructor
    ·rintro ⟨q1,q2⟩
     rcases hend with q|q|q
     ·omega
     ·rw [q1]at q;cases q
     ·exact .inr ⟨i',rfl,q1,by rw [q,List.take_of_length_le (Nat.le_refl _)];exact q2⟩
    ·rintro (q|⟨i'',q,q1,f,q2,q3⟩)
     ·omega
     ·obtain rfl:i''=i':=by omega
      exact⟨q1,f,List.mem_of_mem_take q2,q3⟩
  rw [hV,hU,hT3]
  constructor
  ·rintro ((⟨c',q1,q⟩|⟨q1,q2⟩)|⟨q1,q2⟩)
   ·exact⟨c',by omega,q⟩
   ·exact⟨c,by omega,q1.symm,hcc.2 (.inl q2)⟩
   ·exact⟨c,by omega,q1.symm,hcc.2 (.inr q2)⟩
  ·rintro ⟨c',q1,q2,q3⟩
   by_cases e2:c'=c
   ·subst e2
    rcases hcc.1 q3 with q|q
    ·exact .inl (.inr ⟨q2.symm,q⟩)
    ·exact .inr ⟨q2.symm,q⟩
   ·exact .inl (.inl ⟨c',by omega,q2,q3⟩)
 have go: ∀c80,(c80=true-> ∃i',i=i'+1/\σ.hold c=true/\j<(eM fm).length)->(c80=false->(i=0\/σ.hold c=false\/j=(eM fm).length))->c80=(decide (j<(eM fm).length)&&(decide (0<i)&&σ.hold c))->True:=fun _ _ _ _=>trivial
 clear go
 refine ap (fun J=>J (decide (j<(eM fm).length)&&(decide (0<i)&&σ.hold c))) ?_ (fun J hJ=>?_)
 rotate_left
 ·(refine kr_ ?_)
  refine ac (fun e=>?_) (fun e=>?_)
  ·rw [show decide (j<(eM fm).length)=true by rw [decide_eq_true_eq]at e⊢;omega,Bool.true_and]at hJ
   refine ac (fun e2=>?_) (fun e2=>?_)
   ·rw [show decide (0<i)=true by rw [decide_eq_true_eq]at e2⊢;omega,Bool.true_and]at hJ
    (refine kr_ ?_)
    obtain⟨b,o,ha,e1,e2⟩:=(hh2.mono K3.le).get hltc
    exact⟨b,o,ha,by omega,e1,_,e2,hJ⟩
   ·rw [show decide (0<i)=false by rw [decide_eq_false_iff_not]at e2⊢;omega,Bool.false_and]at hJ;exact hJ
  ·rw [show decide (j<(eM fm).length)=false by rw [decide_eq_false_iff_not]at e⊢;omega,Bool.false_and]at hJ;exact hJ
 refine ac (fun e=>?_) (fun e=>?_)
 rotate_left
 ·refine fin ?_
  by_cases q0:i=0
  ·exact .inl q0
  ·rw [show decide (0<i)=true by rw [decide_eq_true_eq];omega,Bool.true_and]at e
   cases hhc:σ.hold c with
   |false=>exact .inr (.inl rfl)
   |true=>
    rw [hhc,Bool.and_true,decide_eq_false_iff_not]at e
    exact .inr (.inr (by omega))
 simp only [Bool.and_eq_true,decide_eq_true_eq]at e
 obtain⟨hlj,hi0,eH⟩:=e
 clear fin
 obtain⟨i',rfl⟩: ∃i',i=i'+1:=⟨i-1,by omega⟩
 have hW:W (((i'+1:Nat):Int)-1)=(i':Nat):=by rw [bU (by omega) (by omega)];omega
 rw [hW]
 obtain⟨t,hti⟩: ∃t,ts[i']?=some t:=⟨_,List.getElem?_eq_getElem (by omega)⟩
 obtain⟨bo,xo,hao,hbo,hco⟩:=oX.at (fun e he=>K.mem e he) hti
 refine⟨bo,0,hao,by omega,by omega,t,by rw [Int.toNat_natCast];exact K3.le.cell hco,?_⟩
 (refine kr_ ?_)
 obtain⟨b,o,ha,e1,e2⟩:=Bi.get (hx2.mono K3.le) hltc
 refine⟨b,o,ha,by omega,e1,_,e2,?_⟩
 (refine kr_ ?_)
 obtain⟨f,hf⟩: ∃f,(eM fm)[j]?=some f:=⟨_,List.getElem?_eq_getElem hlj⟩
 obtain⟨b,o,ha,e3⟩:=(hfl2.mono K3.le).get (gU hf)
 refine⟨b,o,ha,by omega,by omega,_,e3,?_⟩
 have hlf:=Bu ok hfm hltc (List.mem_of_getElem? hf)
 rw [<-Int.natCast_add,eO (by omega)]
 obtain⟨b,o,ha,e4,e5⟩:=(((hT i' t hti).mono K.le).mono K3.le).get hlf
 refine⟨b,o,ha,by omega,e4,_,e5,?_⟩
 have next: ∀V' h4,Kn h2 h4 [(b28, .inl ⟨tb (2^σ.n) V',2^σ.n,false⟩)]->(∀x,V' x=true↔V x=true\/(x=c%2^σ.n/\σ.ahead i' (σ.next c+f)=true))->
   nxt3 [I d, .pointer (some ⟨b10,0,none⟩),out.v,I (i'+1:Nat),(arr b28 (2^σ.n)).v,I c,I (W ((j:Int)+1))] h4:=fun V' h4 K4 hV'=>by
  rw [aC (by omega)]
  refine hnx3 hlj _ _ ⟨rfl,V',K4,fun x=>?_⟩
  rw [hV',hV,List.take_add_one,hf]
  constructor
  ·rintro ((q|⟨q1,i'',q2,q3,f',q4,q5⟩)|⟨q1,q2⟩)
   ·exact .inl q
   ·exact .inr ⟨q1,i'',q2,q3,f',List.mem_append_left _ q4,q5⟩
   ·exact .inr ⟨q1,i',rfl,eH,f,by simp,q2⟩
  ·rintro (q|⟨q1,i'',q2,q3,f',q4,q5⟩)
   ·exact .inl (.inl q)
   ·rcases List.mem_append.1 q4 with q4|q4
    ·exact .inl (.inr ⟨q1,i'',q2,q3,f',q4,q5⟩)
    ·simp at q4;subst q4
     obtain rfl:i''=i':=by omega
     exact .inr ⟨q1,q5⟩
 refine ac (fun e=>?_) (fun e=>?_)
 ·(refine kr_ ?_)
  rw [if_neg (by omega),eU]
  refine⟨b28,0,rfl,by omega,by dsimp only;omega,?_⟩
  (((with_reducible apply Kn.wr);(assumption);((focus ((repeat first|exact .head|apply Upd.tail);done)))))
  ·rw [gR];omega
  intro h4 K4 _
  rw [bG,Nat.zero_add,Int.toNat_natCast,Nat.mul_one,lP]at K4
  refine next _ h4 K4 fun x=>?_
  by_cases ex:x=c%2^σ.n
  ·rw [if_pos ex];exact⟨fun _=> .inr ⟨ex,e⟩,fun _=>rfl⟩
  ·rw [if_neg ex];exact⟨.inl,fun q=>q.resolve_right fun q2=>ex q2.1⟩
 ·exact next V h3 K3 fun x=>⟨.inl,fun q=>q.resolve_right fun q2=>by rw [q2.2]at e;cases e⟩
theorem Fj {h:Hp} {q:Cm} {σ:aD} {s x t:Nat} {R:Value->Hp->Prop} (hq:A5 h q σ) (ok:σ.Ok) (hs:s<2^σ.n) (hx':x<2^σ.k) (ht:t<2^σ.n) (k:R (.bool (σ.goes (σ.at_ s x) t)) h):
  pc #[EL σ q,I s,I x,I t] h R:=by
 refine ACalls.drop (Bj ?_)
 refine uf_ ?_
 have hn:=fh ok
 have hk:=Df ok
 have hp:=qR ok
 obtain⟨hh,hen,hx,⟨fm,hfm,hfl⟩,_⟩:=id hq
 have hxl:=IntS.len hx
 rw [aY,List.length_map,List.length_range]at hxl
 have hfll:=IntS.len hfl
 rw [aY]at hfll
 have hfb:=Kt hfm
 have hc:=aD.at_lt hs hx'
 have K0:=Kn.nil h
 (with_reducible apply Kn.al);(assumption);(intro b12 h1 K1 l1 hb12)
 clear K0 hb12
 refine av (eM fm).length (fun j vs h'=>vs= [I s,I x,I t, .pointer (some ⟨b12,0,none⟩),I j]/\h1=h'/\ ∀f,f∈(eM fm).take j->σ.next (σ.at_ s x)+f≠t) ⟨rfl,rfl,fun f hf=>by simp at hf⟩ ?_
 rintro j _ _ nxt hj ⟨rfl,rfl,hno⟩ hnx
 refine⟨_,_,_,b12,0,_,rfl,?_⟩
 (refine kr_ ?_)
 by_cases hlj:j<(eM fm).length
 ·refine aM (by rw [decide_eq_true_eq];omega) ?_
  (refine kr_ ?_)
  (refine kr_ ?_)
  have e8:W (W ((x:Int)*((2^σ.n:Nat):Int))+(s:Int))=((σ.at_ s x:Nat):Int):=by
   have h2:x*2^σ.n+s<8192:=by unfold aD.at_ at hc;omega
   rw [<-Int.natCast_mul,eO (by omega),<-Int.natCast_add,eO (by omega)];rfl
  rw [e8]
  obtain⟨b,o,ha,e1,e2⟩:=Bi.get (hx.mono K1.le) hc
  refine⟨b,o,ha,by omega,e1,_,e2,?_⟩
  (refine kr_ ?_)
  obtain⟨f,hf⟩: ∃f,(eM fm)[j]?=some f:=⟨_,List.getElem?_eq_getElem hlj⟩
  obtain⟨b,o,ha,e3⟩:=(hfl.mono K1.le).get (gU hf)
  refine⟨b,o,ha,by omega,by omega,_,e3,?_⟩
  have hlf:=Bu ok hfm hc (List.mem_of_getElem? hf)
  rw [<-Int.natCast_add,eO (by omega)]
  refine ac (fun e=>?_) (fun e=>?_)
  ·refine⟨h,K1.le,?_⟩
   have e':=beq_iff_eq.1 e
   rw [(nA ok hfm hc ht).2 ⟨f,List.mem_of_getElem? hf,by omega⟩]at k;exact k
  ·rw [aC (by omega)]
   refine hnx hlj _ _ ⟨rfl,rfl,fun f' hf'=>?_⟩
   rw [List.take_add_one,hf]at hf'
   rcases List.mem_append.1 hf' with h5|h5
   ·exact hno f' h5
   ·simp at h5;subst h5
    intro q
    rw [<-q]at e
    simp at e
 ·refine aE (by rw [decide_eq_false_iff_not];omega) ⟨h,K1.le,?_⟩
  rw [show σ.goes (σ.at_ s x) t=false from by
   rw [Bool.eq_false_iff]
   intro q
   obtain⟨f,hf,e⟩:=(nA ok hfm hc ht).1 q
   exact hno f (by rw [List.take_of_length_le (by omega)];exact hf) e]at k
  exact k
set_option maxHeartbeats 1000000 in
theorem Qs {h:Hp} {q:Cm} {σ:aD} {w:Sl} {s l m:Nat} {R:Value->Hp->Prop} (hq:A5 h q σ) (ok:σ.Ok) (hs:s<2^σ.n) (hw:BX h w (2^σ.n) m σ.ahead) (hl:l<m) (hm:m<=1000) (ha:σ.ahead l s=true)
  (k:R (.tuple #[I (xc σ l s),I ((if l=0 then 0 else ln σ (l-1) (σ.goes (σ.at_ s (xc σ l s))):Nat):Int)]) h):wv #[EL σ q,I s,I l,w.v] h R:=by
 refine ACalls.drop (MD ?_)
 refine uf_ ?_
 have hn:=fh ok
 have hk:=Df ok
 have hp:=qR ok
 obtain⟨hh,hen,hx,_,_⟩:=id hq
 have hhl:=hh.len
 have hel:=hen.len
 have hwl:=hw.len
 obtain⟨hx0,hon,hnx0⟩:=aD.leastB_at (aD.ahead_on.1 ha)
 rw [show aD.leastB (2^σ.k) (fun x=>σ.onB l (σ.at_ s x))=xc σ l s from rfl]at hx0 hon hnx0
 generalize xc σ l s=x0 at*
 have K0:=Kn.nil h
 (with_reducible apply Kn.al);(assumption);(intro b12 h1 K1 l1 hb12)
 clear K0 hb12
 have hq1:=hq.mono K1.le
 refine av x0 (fun x vs h'=>vs= [I s,I l,w.v, .pointer (some ⟨b12,0,none⟩),I x]/\h1=h') ⟨rfl,rfl⟩ ?_
 rintro x _ _ nxt hx' ⟨rfl,rfl⟩ hnx
 refine⟨_,_,w,b12,0,_,rfl,?_⟩
 (refine kr_ ?_)
 refine aM (by rw [decide_eq_true_eq];omega) ?_
 have hat:=aD.at_lt hs (show x<2^σ.k by omega)
 have e8:W (W ((x:Int)*((2^σ.n:Nat):Int))+(s:Int))=((σ.at_ s x:Nat):Int):=by
  have h2:x*2^σ.n+s<8192:=by unfold aD.at_ at hat;omega
  rw [<-Int.natCast_mul,eO (by omega),<-Int.natCast_add,eO (by omega)];rfl
 refine ap (fun J=>J (decide (l=0)&&σ.ends (σ.at_ s x))) ?_ (fun J hJ=>?_)
 rotate_left
 ·refine ac (fun e=>?_) (fun e=>?_)
  ·have e0:l=0:=by have:=beq_iff_eq.1 e;omega
   (refine kr_ ?_)
   (refine kr_ ?_)
   rw [e8]
   obtain⟨b,o,ha,e1,e2⟩:=(hen.mono K1.le).get hat
   refine⟨b,o,ha,by omega,e1,_,e2,?_⟩
   rw [decide_eq_true e0,Bool.true_and]at hJ;exact hJ
  ·have e0: ¬l=0:=fun q=>by rw [q]at e;simp at e
   rw [decide_eq_false e0,Bool.false_and]at hJ;exact hJ
 have skip:σ.onB l (σ.at_ s x)=false->nxt [I s,I l,w.v, .pointer (some ⟨b12,0,none⟩),I (W ((x:Int)+1))] h1:=fun e=>by
  rw [aC (by omega)]
  refine hnx ?_ _ _ ⟨rfl,rfl⟩
  rcases Nat.lt_or_ge x x0 with q|q
  ·exact q
  ·obtain rfl:x=x0:=by omega
   rw [hon]at e;cases e
 refine ac (fun e=>?_) (fun e=>?_)
 ·rw [Bool.and_eq_true,decide_eq_true_eq]at e
  obtain⟨rfl,e⟩:=e
  have hxe:x=x0:=by
   rcases Nat.lt_or_ge x x0 with q|q
   ·have:=hnx0 x q;rw [show σ.onB 0 (σ.at_ s x)=σ.ends (σ.at_ s x)from rfl,e]at this;cases this
   ·omega
  rw [if_pos rfl,<-hxe]at k
  exact⟨h,K1.le,k⟩
 refine ap (fun J=>J (decide (l=0)|| !σ.hold (σ.at_ s x))) ?_ (fun J hJ=>?_)
 rotate_left
 ·refine ac (fun e=>?_) (fun e=>?_)
  ·have e0:l=0:=by have:=beq_iff_eq.1 e;omega
   rw [decide_eq_true e0,Bool.true_or]at hJ;exact hJ
  ·have e0: ¬l=0:=fun q=>by rw [q]at e;simp at e
   rw [decide_eq_false e0,Bool.false_or]at hJ
   (refine kr_ ?_)
   (refine kr_ ?_)
   rw [e8]
   obtain⟨b,o,ha,e1,e2⟩:=(hh.mono K1.le).get hat
   exact⟨b,o,ha,by omega,e1,_,e2,hJ⟩
 refine ac (fun e2=>?_) (fun e2=>?_)
 ·refine skip ?_
  cases l with
  |zero=>
   have e3:σ.ends (σ.at_ s x)=false:=by simpa using e
   exact e3
  |succ l'=>
   have:σ.hold (σ.at_ s x)=false:=by simpa using e2
   simp [aD.onB,this]
 obtain⟨l',rfl⟩: ∃l',l=l'+1:=⟨l-1,by
  have: ¬l=0:=fun q=>by rw [q]at e2;simp at e2
  omega⟩
 have eH:σ.hold (σ.at_ s x)=true:=by simpa using e2
 have hW:W (((l'+1:Nat):Int)-1)=(l':Nat):=by rw [bU (by omega) (by omega)];omega
 rw [if_neg (by omega),Nat.add_sub_cancel]at k
 refine av (2^σ.n) (fun t vs h'=>vs= [I s,I (l'+1:Nat),w.v, .pointer (some ⟨b12,0,none⟩),I x,I t]/\h1=h'/\ ∀t',t'<t->(σ.goes (σ.at_ s x) t'&&σ.ahead l' t')=false) ⟨rfl,rfl,fun t' e=>by omega⟩ ?_
 rintro t _ _ nxt2 ht ⟨rfl,rfl,hno⟩ hnx2
 refine⟨_,_,w,b12,0,_,_,rfl,?_⟩
 (refine kr_ ?_)
 by_cases hlt:t<2^σ.n
 rotate_left
 ·refine aE (by rw [decide_eq_false_iff_not];omega) ?_
  refine skip ?_
  rw [Bool.eq_false_iff]
  intro q
  obtain⟨t',ht',q2⟩:=aD.onB_next q
  rw [hno t' (by omega)]at q2;cases q2
 refine aM (by rw [decide_eq_true_eq];exact_mod_cast hlt) ?_
 refine ap (fun J=>J (σ.goes (σ.at_ s x) t&&σ.ahead l' t) h1) ?_ (fun J hJ=>?_)
 rotate_left
 ·rw [hW]
  obtain⟨bl,ol,r,ha,h3',h4',hr⟩:=hw.get (show l'<m by omega)
  refine⟨bl,ol,ha,by omega,by omega,r,K1.le.cell h4',?_⟩
  obtain⟨br,or,har,hr1,hr2⟩:=(hr.mono K1.le).get hlt
  refine⟨br,or,har,by omega,hr1,_,hr2,?_⟩
  refine ac (fun e3=>?_) (fun e3=>?_)
  ·rw [e3,Bool.and_true]at hJ
   repeat' (refine kr_ ?_)
   exact Fj hq1 ok hs (by omega) hlt ⟨_,rfl,hJ⟩
  ·rw [e3,Bool.and_false]at hJ;exact hJ
 refine ac (fun e3=>?_) (fun e3=>?_)
 ·have hxe:x=x0:=by
   rcases Nat.lt_or_ge x x0 with q|q
   ·have h5:=hnx0 x q
    rw [Bool.and_eq_true]at e3
    have:σ.onB (l'+1) (σ.at_ s x)=true:=by
     simp only [aD.onB,Bool.and_eq_true,aD.leads,cF]
     exact⟨eH,t,hlt,e3.2,e3.1⟩
    rw [this]at h5;cases h5
   ·omega
  subst hxe
  rw [show ln σ l' (σ.goes (σ.at_ s x))=t from aD.leastB_of hlt e3 hno]at k
  exact⟨h,K1.le,k⟩
 ·rw [aC (by omega)]
  refine hnx2 hlt _ _ ⟨rfl,rfl,fun t' ht'=>?_⟩
  by_cases q:t'=t
  ·rw [q];exact e3
  ·exact hno t' (by omega)
def TrG (h h':Hp) (sS sI:Sl) (l:List (Nat×Nat)):Prop:=
 ∃XS XI,cw XS sS 1 ((VL (l.map Prod.fst)).map I)/\cw XI sI 1 ((VL (l.map Prod.snd)).map I)/\Kn h h' (XS++(XI++ []))
theorem UK {h g h1 h5:Hp} {b6 b73:Nat} {y:Blk} {sS sI:Sl} {XS XI:List (Nat×Blk)} {pre:List (Nat×Nat)} (lg:h.le g) (h6:g b6≠none) (oS:cw XS sS 1 ((VL (pre.map Prod.fst)).map I)) (oI:cw XI sI 1 ((VL (pre.map Prod.snd)).map I))
  (K:Kn g h1 ((b73,y)::(XS++(XI++ [])))) (l5:h.le h5) (kp: ∀c,c≠b6->h5 c=h1 c):TrG h h5 sS sI pre:=by
 refine⟨XS,XI,oS,oI,l5,fun e he=>?_,fun e he=>aF lg (K.new e (.tail _ he)),?_⟩
 ·have hne:e.1≠b6:=by
   intro e6
   have h1:=K.new e (.tail _ he)
   rw [e6]at h1;exact h6 h1
  rw [kp _ hne];exact K.mem e (.tail _ he)
 ·have nd:=K.nd
  rw [List.map_cons,List.nodup_cons]at nd
  exact nd.2
theorem TrG.nil {h h':Hp} (l:h.le h'):TrG h h' ⟨none,0,0⟩ ⟨none,0,0⟩ []:=⟨[], [],cD 1,cD 1,Kn.of l⟩
theorem TrG.up {h g h1 h5:Hp} {b6:Nat} {sS sI:Sl} {l:List (Nat×Nat)} (t:TrG g h1 sS sI l) (lg:h.le g) (h6:g b6≠none) (l5:h.le h5) (kp: ∀c,c≠b6->h5 c=h1 c):TrG h h5 sS sI l:=by
 obtain⟨XS,XI,oS,oI,K⟩:=t
 refine⟨XS,XI,oS,oI,l5,fun e he=>?_,fun e he=>aF lg (K.new e he),K.nd⟩
 have hne:e.1≠b6:=by
  intro e6
  have h1:=K.new e he
  rw [e6]at h1;exact h6 h1
 rw [kp _ hne];exact K.mem e he
set_option maxHeartbeats 1000000 in
theorem Bg {h:Hp} {q:Cm} {σ:aD} {d:Nat} {R:Value->Hp->Prop} (hq:A5 h q σ) (ok:σ.Ok) (hd:d<=256) (hw: ∃s,s<2^σ.n/\(σ.begins s&&σ.ahead d s)=true)
  (k: ∀sS sI h',TrG h h' sS sI (σ.wit d σ.begins)->R (.agg #[Sl.v sS,Sl.v sI]) h'):kg #[EL σ q,I d] h R:=by
 apply E6
 refine uf_ ?_
 have hn:=fh ok
 have K0:=Kn.nil h
 (with_reducible apply Kn.al);(assumption);(intro b10 h1 K1 l1 hb10)
 (with_reducible apply Kn.al);(assumption);(intro b12 h2 K2 l2 hb12)
 repeat' (refine kr_ ?_)
 refine Hn (hq.mono K2.le) ok hd fun w h3 l3 hL=>⟨_,rfl,?_⟩
 have hq3:=hq.mono (Hp.le_trans K2.le l3)
 have f10:=l3 _ _ (K2.at (.tail _ (.head _)))
 have f12:=l3 _ _ (K2.at (.head _))
 have hwl:=hL.len
 obtain⟨hs0,hfit,hno⟩:=aD.leastB_at hw
 have hW0:aD.leastB (2^σ.n) (fun s=>σ.begins s&&σ.ahead d s)=ln σ d σ.begins:=rfl
 rw [hW0]at hs0 hfit hno
 clear hW0
 have hS0:ln σ d σ.begins=ln σ d σ.begins:=rfl
 generalize hse:ln σ d σ.begins=s0 at hs0 hfit hno
 clear hS0
 refine av s0 (fun s vs h'=>vs= [I d, .pointer (some ⟨b10,0,none⟩), .pointer (some ⟨b12,0,none⟩),w.v,I s]/\h3=h') ⟨rfl,rfl⟩ ?_
 rintro s _ _ nxt hs ⟨rfl,rfl⟩ hnx
 refine⟨_,b10,0,b12,0,w,_,rfl,?_⟩
 have K3:=Kn.nil h3
 refine ap (fun J=>J (!(σ.begins s&&σ.ahead d s))) ?_ (fun J hJ=>?_)
 rotate_left
 ·(refine kr_ ?_)
  obtain⟨b,o,ha,e1,e2⟩:=hq3.2.2.2.2.get (show s<2^σ.n by omega)
  refine⟨b,o,ha,by omega,e1,_,e2,?_⟩
  refine ac (fun e=>?_) (fun e=>?_)
  ·rw [show σ.begins s=false by simpa using e]at hJ;exact hJ
  ·rw [show σ.begins s=true by simpa using e,Bool.true_and]at hJ
   obtain⟨bl,ol,r,ha,h3',h4',hr⟩:=hL.get (show d<d+1 by omega)
   refine⟨bl,ol,ha,by omega,by omega,r,h4',?_⟩
   obtain⟨br,or,har,hr1,hr2⟩:=hr.get (show s<2^σ.n by omega)
   exact⟨br,or,har,by omega,hr1,_,hr2,hJ⟩
 by_cases hlt:s<s0
 ·refine aM (by rw [hno s hlt];rfl) ?_
  rw [aC (by omega)]
  exact hnx hlt _ _ ⟨rfl,rfl⟩
 obtain rfl:s=s0:=by omega
 refine aE (by rw [hfit];rfl) ?_
 clear hnx hlt hs K3
 (with_reducible apply Kn.al);(exact Kn.nil h3);(intro b54 h4 K4 l4 hb54)
 refine nz (d+1) (fun m vs h'=> ∃(pre:List (Nat×Nat)) (cur:Nat) (fits:Nat->Bool) (sS sI:Sl) (XS XI:List (Nat×Blk)),
  vs= [.pointer (some ⟨b10,0,none⟩), .pointer (some ⟨b12,0,none⟩),w.v,I cur, .pointer (some ⟨b54,0,none⟩),I ((m:Int)-1)]/\Kn h3 h' ((b54, .inl ⟨[sS.v,sI.v],2,false⟩)::(XS++(XI++ [])))/\
  cw XS sS 1 ((VL (pre.map Prod.fst)).map I)/\cw XI sI 1 ((VL (pre.map Prod.snd)).map I)/\pre.length+m=d+1/\(m=0->pre=σ.wit d σ.begins)/\
  ∀k',m=k'+1->cur=ln σ k' fits/\pre++σ.wit k' fits=σ.wit d σ.begins/\ ∃s,s<2^σ.n/\(fits s&&σ.ahead k' s)=true)
  ⟨[],s,σ.begins,⟨none,0,0⟩,⟨none,0,0⟩, [], [],by rw [show (((d+1:Nat):Int)-1)=d by omega],K4,cD 1,cD 1,by simp,
   fun e=>by omega,fun k' e=>by obtain rfl:k'=d:=by omega
                                exact⟨hse.symm,rfl,hw⟩⟩ ?_
 clear K4 l4 hb54 h4
 rintro m _ h4 nxt ⟨pre,cur,fits,sS,sI,XS,XI,rfl,K,oS,oI,hpl,hz,hsc⟩ hnx
 refine⟨b10,0,b12,0,w,_,b54,0,_,rfl,?_⟩
 have hpl1:=oS.1
 have hpl2:=oI.1
 simp only [List.length_map,aY,Nat.mul_one]at hpl1 hpl2
 cases m with
 |zero=>
  refine aE (by rw [decide_eq_false_iff_not];omega) ?_
  (refine kr_ ?_)
  (refine kr_ ?_)
  have K2':=K2.mono (Hp.le_trans l3 K.le)
  (with_reducible apply Kn.wr);(exact K2');((focus ((repeat first|exact .head|apply Upd.tail);done)))
  ·exact Nat.le_refl _
  intro h5 K5 kp
  refine⟨sS,by rw [aq (K5.at (.head _))];rfl,sI,by rw [aq (K5.at (.head _))];rfl,?_⟩
  refine k sS sI h5 ?_
  rw [<-hz rfl]
  exact UK (Hp.le_trans K2.le l3) (by rw [f12];simp) oS oI K K5.le kp
 |succ k=>
 rename_i kf
 obtain⟨rfl,hwit,hex⟩:=hsc k rfl
 have hk1:(((k+1:Nat):Int)-1)=k:=by omega
 rw [hk1]
 refine aM (by rw [decide_eq_true_eq];omega) ?_
 obtain⟨hc0,hcf,_⟩:=aD.leastB_at hex
 rw [show aD.leastB (2^σ.n) (fun s=>fits s&&σ.ahead k s)=ln σ k fits from rfl]at hc0 hcf
 rw [Bool.and_eq_true]at hcf
 obtain⟨hx0,hon,_⟩:=aD.leastB_at (aD.ahead_on.1 hcf.2)
 rw [show aD.leastB (2^σ.k) (fun x=>σ.onB k (σ.at_ (ln σ k fits) x))=xc σ k (ln σ k fits)from rfl]at hx0 hon
 repeat' (refine kr_ ?_)
 refine Qs (hq3.mono K.le) ok hc0 (hL.mono K.le) (by omega) (by omega) hcf.2 ⟨_,_,rfl,?_⟩
 (refine kr_ ?_)
 refine Kn.al K fun b87 h6 K6 l6 hb87=>?_
 have f87:=K6.at (.head _)
 refine Kn.growIn (A:= [_,_]) K6 oS (by omega) (by omega) (by omega) ⟨b87,0,rfl,ay f87⟩ rfl rfl fun sS' XS' h7 hnS oS' K7 l7=>?_
 simp only [List.cons_append,List.nil_append]at K7
 clear K6 l6 hb87 f87 K
 (((with_reducible apply Kn.wr);(assumption);((focus ((repeat first|exact .head|apply Upd.tail);done)))))
 ·simp
 intro h8 K8 _
 simp only [bG,List.set_cons_zero,List.set_cons_succ,Nat.zero_add,Nat.reduceAdd]at K8
 clear K7 l7
 (refine kr_ ?_)
 refine Kn.al K8 fun b98 h9 K9 l9 hb98=>?_
 have f98:=K9.at (.head _)
 refine Kn.growIn2 (A:= [_,_,_]) K9 oI (by omega) (by omega) (by omega) ⟨b98,0,rfl,ay f98⟩ rfl rfl fun sI' XI' h10 hnI oI' K10 l10=>?_
 simp only [List.cons_append,List.nil_append]at K10
 clear K9 l9 hb98 f98 K8
 (((with_reducible apply Kn.wr);(assumption);((focus ((repeat first|exact .head|apply Upd.tail);done)))))
 ·simp
 intro h11 K11 _
 simp only [bG,List.set_cons_zero,List.set_cons_succ,Nat.zero_add,Nat.reduceAdd]at K11
 clear K10 l10
 have nd:=K11.nd
 have KS:Kn h3 h11 ((b54, .inl ⟨[sS'.v,sI'.v],2,false⟩)::(XS'++(XI'++ []))):=by
  refine K11.sub (fun e he=> .tail _ (.tail _ he)) ?_
  simp only [List.map_cons,List.nodup_cons]at nd⊢
  exact nd.2.2
 rw [bU (by omega) (by omega)]
 refine hnx k (by omega) _ _ ⟨pre++ [(ln σ k fits,xc σ k (ln σ k fits))],_,σ.goes (σ.at_ (ln σ k fits) (xc σ k (ln σ k fits))),sS',sI',XS',XI',rfl,KS,by simpa [VL] using oS',by simpa [VL] using oI',by simp;omega,fun e=>?_,fun k' e=>⟨?_,?_,?_⟩⟩
 ·subst e;exact hwit
 ·subst e;rw [if_neg (by omega)];rfl
 ·subst e;rw [<-hwit,NS,List.append_assoc];rfl
 ·subst e
  exact aD.onB_next hon
def pI (m:ah) (x:Int):List (Nat×Nat):=match (aG m).depth with|some d=>if ax m=0/\(d:Int)<=x then(aG m).wit d (aG m).begins else []|none=> []
def rH (m:ah) (x:Int):Bool:=match (aG m).depth with|some d=>decide (ax m=0/\(d:Int)<=x)|none=>false
theorem DG {m:ah} {x:Int} (h: ¬(ax m=0/\0<=(aG m).depthI/\(aG m).depthI<=x)):pI m x= []/\rH m x=false:=by
 unfold pI rH
 unfold aD.depthI at h
 cases hd:(aG m).depth with
 |none=>exact⟨rfl,rfl⟩
 |some d=>
  rw [hd]at h
  have: ¬(ax m=0/\(d:Int)<=x):=fun q=>h ⟨q.1,Int.natCast_nonneg _,q.2⟩
  exact⟨if_neg this,decide_eq_false this⟩
theorem AV {m:ah} {x:Int} (h:ax m=0/\0<=(aG m).depthI/\(aG m).depthI<=x): ∃d,(aG m).depth=some d/\(aG m).depthI=d/\pI m x=(aG m).wit d (aG m).begins/\rH m x=true:=by
 unfold pI rH
 unfold aD.depthI at h⊢
 cases hd:(aG m).depth with
 |none=>rw [hd]at h;exact absurd (show (0:Int)<= -1 from h.2.1) (by decide)
 |some d=>
  rw [hd]at h
  have:ax m=0/\(d:Int)<=x:=⟨h.1,h.2.2⟩
  exact⟨d,rfl,rfl,if_pos this,decide_eq_true this⟩
abbrev F9 (sS sI:Sl) (b:Bool):Value:= .tuple #[.agg #[sS.v,sI.v], .bool b]
theorem TrX.nil {h h':Hp} (l:h.le h'):TrX h h' ⟨none,0,0⟩ ⟨none,0,0⟩ []:=⟨[], [],⟨rfl,by simp, .inl ⟨rfl,rfl⟩⟩,⟨rfl,by simp, .inl ⟨rfl,rfl⟩⟩,Kn.of l⟩
theorem qq {σ:aD} (ok:σ.Ok) {d:Nat} (h:σ.depth=some d):d<=256:=by
 have h1:=aD.depth_lt h
 have h2:=aD.nLay_le σ
 have h3:=fh ok
 omega
theorem TrX.up {h g h1 h5:Hp} {b6:Nat} {sS sI:Sl} {l:List (Nat×Nat)} (t:TrX g h1 sS sI l) (lg:h.le g) (h6:g b6≠none) (l5:h.le h5) (kp: ∀c,c≠b6->h5 c=h1 c):TrX h h5 sS sI l:=by
 obtain⟨XS,XI,oS,oI,K⟩:=t
 refine⟨XS,XI,oS,oI,l5,fun e he=>?_,fun e he=>aF lg (K.new e he),K.nd⟩
 have hne:e.1≠b6:=by
  intro e6
  have h1:=K.new e he
  rw [e6]at h1;exact h6 h1
 rw [kp _ hne];exact K.mem e he
theorem TrX.mono {h h1 h2:Hp} {sS sI:Sl} {l:List (Nat×Nat)} (t:TrX h h1 sS sI l) (l12:h1.le h2):TrX h h2 sS sI l:=by
 obtain⟨XS,XI,oS,oI,K⟩:=t
 exact⟨XS,XI,oS,oI,K.mono l12⟩
theorem pm.slcOf {X:List (Nat×Blk)} {h:Hp} {s:Sl} {sz:Nat} {cs:List Value} (o:pm X s sz cs) (m: ∀e∈X,h e.1=some e.2):SlC h s sz cs:=by
 refine⟨o.2.1,o.1,?_⟩
 rcases o.2.2 with ⟨h0,_⟩|⟨_,b,z,ha,rfl⟩
 ·exact .inl h0
 ·exact .inr ⟨b,0,ha,ay (m _ (.head _))⟩
theorem TrX.ints {h h1:Hp} {sS sI:Sl} {l:List (Nat×Nat)} (t:TrX h h1 sS sI l):IntS h1 sS (VL (l.map Prod.fst))/\IntS h1 sI (VL (l.map Prod.snd)):=by
 obtain⟨XS,XI,oS,oI,K⟩:=t
 exact⟨oS.slcOf fun e he=>K.mem e (List.mem_append_left _ he),oI.slcOf fun e he=>K.mem e (List.mem_append_right _ he)⟩
theorem wJ {h g:Hp} {sS sI:Sl} {l:List (Nat×Nat)} {R:Value->Hp->Prop} (t:TrX g h sS sI l) (hl:l.length<=1048576)
  (k: ∀sS sI h',TrX h h' sS sI l->sS.n<=sS.c->R (.agg #[Sl.v sS,Sl.v sI]) h'):iv #[.agg #[sS.v,sI.v]] h R:=by
 apply Ap
 refine uf_ ?_
 obtain⟨iS,iI⟩:=t.ints
 have K0:=Kn.nil h
 (with_reducible apply Kn.al);(assumption);(intro b4 h1 K1 l1 hb4)
 (with_reducible apply Kn.al);(assumption);(intro b6 h2 K2 l2 hb6)
 repeat' (refine kr_ ?_)
 refine oh (iS.mono K2.le) (by simp [VL];omega) fun tS h3 l3 bS=>⟨_,rfl,?_⟩
 have K3:=K2.mono l3
 repeat' (refine kr_ ?_)
 refine oh (iI.mono K3.le) (by simp [VL];omega) fun tI h4 l4 bI=>⟨_,rfl,?_⟩
 have K4:=K3.mono l4
 (((with_reducible apply Kn.wr);(assumption);((focus ((repeat first|exact .head|apply Upd.tail);done)))))
 ·exact Nat.le_refl _
 intro h5 K5 kp
 refine⟨tS,by rw [aq (K5.at (.head _))];rfl,tI,by rw [aq (K5.at (.head _))];rfl,?_⟩
 have nS:tS.n<=1048576:=by have:=bS.1;simp [VL]at this;omega
 have nI:tI.n<=1048576:=by have:=bI.1;simp [VL]at this;omega
 obtain⟨XS,oS,KS⟩:=(Kn.nil h2).addOwn l3 (bS.own (by omega))
 obtain⟨XI,oI,KI⟩:=KS.addOwn l4 (bI.own (by omega))
 rw [List.nil_append]at KI
 exact k tS tI h5 (TrX.up ⟨XS,XI,oS,oI,KI⟩ K2.le (by rw [K2.at (.head _)];simp) K5.le kp) bS.2.1
theorem Dh {h g:Hp} {sS sI:Sl} {l:List (Nat×Nat)} {R:Value->Hp->Prop} (t:TrX g h sS sI l) (hl:l.length<=1048576)
  (k: ∀sS sI h',TrX h h' sS sI l->R (.agg #[Sl.v sS,Sl.v sI]) h'):iv #[.agg #[sS.v,sI.v]] h R:=wJ t hl fun sS sI h' t _=>k sS sI h' t
theorem su {h:Hp} {M:MSl} {m:ah} {x:Int} {R:Value->Hp->Prop} (hs:aO h M m) (hm:bW m)
  (k: ∀sS sI h',TrX h h' sS sI (pI m x)->R (F9 sS sI (rH m x)) h'):mL #[aQ M,I x] h R:=by
 apply Fu
 refine uf_ ?_
 have K0:=Kn.nil h
 (with_reducible apply Kn.al);(assumption);(intro b8 h1 K1 l1 hb8)
 (with_reducible apply Kn.al);(assumption);(intro b10 h2 K2 l2 hb10)
 repeat' (refine kr_ ?_)
 have no: ∀h3,Kn h h3 [(b10, .inl ⟨[.slice none 0 0, .slice none 0 0],2,false⟩),(b8, .inl ⟨aw M,5,false⟩)]-> ¬(ax m=0/\0<=(aG m).depthI/\(aG m).depthI<=x)->
   ∃(cs:List Value) (z:Nat),h3 b10=some (.inl ⟨cs,z,false⟩)/\0+2<=List.length cs/\cA (h3.row b10 (cz cs 0 [.slice none 0 0, .slice none 0 0]) z) fun h28=> ∃s29:Sl,Hp.cell h28 b10 0=some s29.v/\ ∃s30:Sl,Hp.cell h28 b10 1=some s30.v/\
    R (.tuple #[.agg #[s29.v,s30.v], .bool false]) h28:=by
  intro h3 K3 hn
  obtain⟨e1,e2⟩:=DG hn
  rw [e1,e2]at k
  (((with_reducible apply Kn.wr);(assumption);((focus ((repeat first|exact .head|apply Upd.tail);done)))))
  ·exact Nat.le_refl _
  intro h4 K4 _
  refine⟨⟨none,0,0⟩,by rw [aq (K4.at (.head _))];rfl,⟨none,0,0⟩,by rw [aq (K4.at (.head _))];rfl,?_⟩
  exact k ⟨none,0,0⟩ ⟨none,0,0⟩ h4 (TrX.nil K4.le)
 refine fj (hs.mono K2.le) hm (fun h3 l3 hc=>⟨_,_,rfl,aM rfl (no h3 (K2.mono l3) fun e=>hc e.1)⟩) (fun hc g bx h3 l3 hx=>⟨_,_,rfl,aE rfl ?_⟩)
 have ok:=gX g
 refine nD hx ok fun L h4 l4 hL=>⟨_,rfl,?_⟩
 refine vC (hx.mono l4) ok hL ⟨_,rfl,?_⟩
 have K4:=K2.mono (Hp.le_trans l3 l4)
 refine ap (fun J=>J (decide (¬(0<=(aG m).depthI/\(aG m).depthI<=x)))) ?_ (fun J hJ=>?_)
 rotate_left
 ·refine ac (fun e=>?_) (fun e=>?_)
  ·rw [show decide (¬(0<=(aG m).depthI/\(aG m).depthI<=x))=true from by rw [decide_eq_true_eq]at e⊢;omega]at hJ;exact hJ
  ·rw [show decide (¬(0<=(aG m).depthI/\(aG m).depthI<=x))=decide ((aG m).depthI>x)from by rw [decide_eq_false_iff_not]at e;rw [Bool.eq_iff_iff,decide_eq_true_eq,decide_eq_true_eq];omega]at hJ;exact hJ
 refine ac (fun e=>no h4 K4 fun q=>(of_decide_eq_true e) q.2) (fun e=>?_)
 have e':=Decidable.not_not.1 (of_decide_eq_false e)
 obtain⟨d,hd,hdI,e1,e2⟩:=AV ⟨hc,e'⟩
 rw [e1,e2]at k
 rw [hdI]
 refine Bw (hx.mono l4) ok (qq ok hd) (aD.wit_begins hd) fun sS sI h5 t5=>⟨_,_,rfl,?_⟩
 refine Dh t5 (by rw [vq];have:=qq ok hd;omega) fun tS tI h6 t6=>⟨_,_,rfl,?_⟩
 obtain⟨_,_,_,_,K5⟩:=t5
 have l56:h5.le h6:=by obtain⟨_,_,_,_,K6⟩:=t6;exact K6.le
 have K6:=K4.mono (Hp.le_trans K5.le l56)
 have f10:=K4.at (.head _)
 (((with_reducible apply Kn.wr);(assumption);((focus ((repeat first|exact .head|apply Upd.tail);done)))))
 ·exact Nat.le_refl _
 intro h7 K7 kp
 refine⟨tS,by rw [aq (K7.at (.head _))];rfl,tI,by rw [aq (K7.at (.head _))];rfl,?_⟩
 exact k tS tI h7 (t6.up (Hp.le_trans K4.le K5.le) (by rw [K5.le _ _ f10];simp) K7.le kp)
theorem tG {h:Hp} {M:MSl} {m:ah} {x:Int} {R:Value->Hp->Prop} (hs:aO h M m) (hm:bW m)
  (k: ∀sS sI h',TrG h h' sS sI (pI m x)->R (F9 sS sI (rH m x)) h'):kr #[aQ M,I x] h R:=by
 apply EK
 refine uf_ ?_
 have K0:=Kn.nil h
 (with_reducible apply Kn.al);(assumption);(intro b8 h1 K1 l1 hb8)
 (with_reducible apply Kn.al);(assumption);(intro b10 h2 K2 l2 hb10)
 repeat' (refine kr_ ?_)
 refine aX (hs.mono K2.le) hm ⟨_,rfl,?_⟩
 refine ac (fun e=>?_) (fun e=>?_)
 ·obtain⟨e1,e2⟩:=DG (m:=m) (x:=x) fun q=>ig e q.1
  rw [e1,e2]at k
  (((with_reducible apply Kn.wr);(assumption);((focus ((repeat first|exact .head|apply Upd.tail);done)))))
  ·exact Nat.le_refl _
  intro h3 K3 _
  refine⟨⟨none,0,0⟩,by rw [aq (K3.at (.head _))];rfl,⟨none,0,0⟩,by rw [aq (K3.at (.head _))];rfl,?_⟩
  exact k ⟨none,0,0⟩ ⟨none,0,0⟩ h3 (TrG.nil K3.le)
 have hc:=fW e
 have ok:=gX (cr hc)
 repeat' (refine kr_ ?_)
 refine pP (hs.mono K2.le) hm hc fun q h3 l3 hq=>⟨_,_,_,_,_,_,_,rfl,?_⟩
 have K3:=K2.mono l3
 refine Kn.al K3 fun b43 h4 K4 l4 hb43=>?_
 refine kw_ ?_
 intro h5 K5 kp5
 simp only [cz,List.set_cons_zero,List.set_cons_succ,Nat.zero_add,Nat.reduceAdd]at K5
 have hq5:=hq.mono (cL hb43 l4 kp5)
 clear K4 K3 kp5
 repeat' (refine kr_ ?_)
 refine uo hq5 ok ⟨_,rfl,?_⟩
 refine ap (fun J=>J (decide (¬(0<=(aG m).depthI/\(aG m).depthI<=x)))) ?_ (fun J hJ=>?_)
 rotate_left
 ·refine ac (fun e=>?_) (fun e=>?_)
  ·rw [show decide (¬(0<=(aG m).depthI/\(aG m).depthI<=x))=true from by rw [decide_eq_true_eq]at e⊢;omega]at hJ;exact hJ
  ·rw [show decide (¬(0<=(aG m).depthI/\(aG m).depthI<=x))=decide ((aG m).depthI>x)from by rw [decide_eq_false_iff_not]at e;rw [Bool.eq_iff_iff,decide_eq_true_eq,decide_eq_true_eq];omega]at hJ;exact hJ
 refine ac (fun e=>?_) (fun e=>?_)
 ·obtain⟨e1,e2⟩:=DG (m:=m) (x:=x) fun q=>(of_decide_eq_true e) q.2
  rw [e1,e2]at k
  refine kw_ ?_
  intro h6 K6 _
  refine⟨⟨none,0,0⟩,by rw [aq (K6.at (.tail _ (.head _)))];rfl,⟨none,0,0⟩,by rw [aq (K6.at (.tail _ (.head _)))];rfl,?_⟩
  exact k ⟨none,0,0⟩ ⟨none,0,0⟩ h6 (TrG.nil K6.le)
 have e':=Decidable.not_not.1 (of_decide_eq_false e)
 obtain⟨d,hd,hdI,e1,e2⟩:=AV ⟨hc,e'⟩
 rw [e1,e2]at k
 rw [hdI]
 repeat' (refine kr_ ?_)
 refine Bg hq5 ok (qq ok hd) (aD.wit_begins hd) fun sS sI h6 t6=>⟨_,_,rfl,?_⟩
 have l56:h5.le h6:=by obtain⟨_,_,_,_,K6⟩:=t6;exact K6.le
 have K6:=K5.mono l56
 have f10:=K5.at (.tail _ (.head _))
 refine kw_ ?_
 intro h7 K7 kp
 refine⟨sS,by rw [aq (K7.at (.tail _ (.head _)))];rfl,sI,by rw [aq (K7.at (.tail _ (.head _)))];rfl,?_⟩
 exact k sS sI h7 (t6.up K5.le (by rw [f10];simp) K7.le kp)
theorem Kj (m:ah) (x:Int):(pI m x).length<=257:=by
 unfold pI
 cases hd:(aG m).depth with
 |none=>exact Nat.zero_le _
 |some d=>
  dsimp only
  split
  ·rename_i e
   rw [vq]
   have:=qq (gX (cr e.1)) hd
   omega
  ·exact Nat.zero_le _
theorem TrX.le {h h':Hp} {sS sI:Sl} {l:List (Nat×Nat)} (t:TrX h h' sS sI l):h.le h':=by obtain⟨_,_,_,_,K⟩:=t;exact K.le
section
variable {g h:Hp} {L XS XI:List (Nat×Blk)} {sS sI tS tI:Sl} {xs ys:List Int} {cS cI:List Value} {k0:Int} {R:Value->Hp->Prop}
end
structure Ds where
 kind:Int
 depth:Int
 tr:List (Nat×Nat)
 bd:Bd
def m4 (x:Int):Int:=if(if x<256 then x else 256)>0 then(if x<256 then x else 256)else 0
theorem BO (x:Int):m4 x=if(if x<0 then 0 else x)>256 then 256 else(if x<0 then 0 else x):=by
 unfold m4
 by_cases a:x<0
 ·rw [if_pos (show x<256 by omega),if_pos a,if_neg (by omega),if_neg (by omega)]
 rw [if_neg a]
 by_cases b:x<256
 ·rw [if_pos b]
  by_cases c:x>0
  ·rw [if_pos c,if_neg (by omega)]
  ·rw [if_neg c,if_neg (by omega)];omega
 ·rw [if_neg b,if_pos (show (256:Int)>0 by omega)]
  by_cases c:x>256
  ·rw [if_pos c]
  ·rw [if_neg c];omega
def wT (σ:aD) (x:Int):Ds:=
 if 0<=σ.depthI/\σ.depthI<=m4 x then⟨3,σ.depthI,σ.wit σ.depthI.toNat σ.begins,js⟩else
 if σ.depthI<0/\(σ.nLay:Int)-1<m4 x then⟨2,(σ.nLay:Int)-1, [],cQ σ.n σ.reach⟩else⟨1,m4 x, [],js⟩
def dy (m:ah) (x:Int):Ds:=if ax m=0 then wT (aG m) x else⟨0,0, [],js⟩
abbrev SJ (p:Ds) (sS sI sN:Sl):List Value:= [I p.kind,I p.depth,sS.v,sI.v,I p.bd.v,sN.v,I p.bd.r]
abbrev LX (p:Ds) (sS sI sN:Sl):Value:= .agg #[I p.kind,I p.depth,sS.v,sI.v,I p.bd.v,sN.v,I p.bd.r]
def VrX (h h':Hp) (sS sI sN:Sl) (p:Ds):Prop:=
 ∃XS XI XN,pm XS sS 1 ((VL (p.tr.map Prod.fst)).map I)/\pm XI sI 1 ((VL (p.tr.map Prod.snd)).map I)/\pm XN sN 3 (bD p.bd.ns)/\Kn h h' (XS++(XI++XN))
theorem VrX.up {h g h1 h5:Hp} {b6:Nat} {sS sI sN:Sl} {p:Ds} (t:VrX g h1 sS sI sN p) (lg:h.le g) (h6:g b6≠none) (l5:h.le h5) (kp: ∀c,c≠b6->h5 c=h1 c):VrX h h5 sS sI sN p:=by
 obtain⟨XS,XI,XN,oS,oI,oN,K⟩:=t
 refine⟨XS,XI,XN,oS,oI,oN,l5,fun e he=>?_,fun e he=>aF lg (K.new e he),K.nd⟩
 have hne:e.1≠b6:=by
  intro e6
  have h1:=K.new e he
  rw [e6]at h1;exact h6 h1
 rw [kp _ hne];exact K.mem e he
theorem VrX.mono {h h1 h2:Hp} {sS sI sN:Sl} {p:Ds} (t:VrX h h1 sS sI sN p) (l12:h1.le h2):VrX h h2 sS sI sN p:=by
 obtain⟨XS,XI,XN,oS,oI,oN,K⟩:=t
 exact⟨XS,XI,XN,oS,oI,oN,K.mono l12⟩
theorem VrX.le {h h':Hp} {sS sI sN:Sl} {p:Ds} (t:VrX h h' sS sI sN p):h.le h':=by obtain⟨_,_,_,_,_,_,K⟩:=t;exact K.le
theorem G8 (sz:Nat):pm [] ⟨none,0,0⟩ sz []:=⟨by simp,by simp, .inl ⟨rfl,rfl⟩⟩
theorem VrX.ofTr {h h':Hp} {sS sI:Sl} {l:List (Nat×Nat)} {k d:Int} (t:TrX h h' sS sI l):VrX h h' sS sI ⟨none,0,0⟩ ⟨k,d,l,js⟩:=by
 obtain⟨XS,XI,oS,oI,K⟩:=t
 exact⟨XS,XI, [],oS,oI,G8 3,by rw [List.append_nil];exact K⟩
theorem VrX.ofBd {h h':Hp} {s:Sl} {B:Bd} {k d:Int} (l:h.le h') (o:Own (h'.sub h) s 3 (bD B.ns)):VrX h h' ⟨none,0,0⟩ ⟨none,0,0⟩ s ⟨k,d, [],B⟩:=by
 obtain⟨X,oX,K⟩:=(Kn.nil h).addOwn l o
 exact⟨[], [],X,G8 1,G8 1,oX,K⟩
theorem VrX.nil {h h':Hp} {k d:Int} (l:h.le h'):VrX h h' ⟨none,0,0⟩ ⟨none,0,0⟩ ⟨none,0,0⟩ ⟨k,d, [],js⟩:=VrX.ofTr (TrX.nil l)
theorem qJ {σ:aD} (h:0<=σ.depthI): ∃d,σ.depth=some d/\σ.depthI=d:=by
 unfold aD.depthI at h⊢
 cases hd:σ.depth with
 |none=>rw [hd]at h;exact absurd (show (0:Int)<= -1 from h) (by decide)
 |some d=>exact⟨d,rfl,rfl⟩
theorem IO {h:Hp} {b:Nat} {σ:aD} {x:Int} {R:Value->Hp->Prop} (hs:oy h b σ) (ok:σ.Ok)
  (k: ∀sS sI sN h',VrX h h' sS sI sN (wT σ x)->R (LX (wT σ x) sS sI sN) h'):lW #[.pointer (some ⟨b,0,none⟩),I x] h R:=by
 apply zr
 refine uf_ ?_
 have hn:=fh ok
 have hnl:=aD.nLay_le σ
 unfold wT at k
 have K0:=Kn.nil h
 (with_reducible apply Kn.al);(assumption);(intro b4 h1 K1 l1 hb4)
 refine nD (hs.mono K1.le) ok fun L h2 l2 hL=>⟨_,rfl,?_⟩
 have K2:=K1.mono l2
 have hs2:=hs.mono K2.le
 have hll:=hL.len
 refine vC hs2 ok hL ⟨_,rfl,?_⟩
 rw [show (if(if x<256 then x else 256)>0 then(if x<256 then x else 256)else 0)=m4 x from rfl,hll,bU (n:=(σ.nLay:Int)-1) (by omega) (by omega)]
 generalize m4 x=bud at*
 refine ap (fun J=>J (decide (0<=σ.depthI/\σ.depthI<=bud))) ?_ (fun J hJ=>?_)
 rotate_left
 ·refine ac (fun e=>?_) (fun e=>?_)
  ·rw [show decide (0<=σ.depthI/\σ.depthI<=bud)=decide (σ.depthI<=bud)from by rw [decide_eq_true_eq]at e;rw [Bool.eq_iff_iff,decide_eq_true_eq,decide_eq_true_eq];omega]at hJ;exact hJ
  ·rw [show decide (0<=σ.depthI/\σ.depthI<=bud)=false from by rw [decide_eq_false_iff_not]at e⊢;omega]at hJ;exact hJ
 refine ac (fun e=>?_) (fun e=>?_)
 ·have e':=of_decide_eq_true e
  rw [if_pos e']at k
  obtain⟨d,hd,hdI⟩:=qJ e'.1
  rw [hdI,Int.toNat_natCast]at k
  rw [hdI]
  refine Bw hs2 ok (qq ok hd) (aD.wit_begins hd) fun sS sI h3 t3=>⟨_,_,rfl,?_⟩
  have K3:=K2.mono t3.le
  refine kw_ ?_
  intro h4 K4 kp
  have K4':Kn h h4 [(b4, .inl ⟨[I 3,I d,sS.v,sI.v,I 0,Sl.v ⟨none,0,0⟩,I 0],7,false⟩)]:=K4
  clear K4 K3 K1
  repeat' (refine kr_ ?_)
  exact k sS sI ⟨none,0,0⟩ h4 ((VrX.ofTr t3).up K2.le (by rw [K2.at (.head _)];simp) K4'.le kp)
 rw [if_neg (of_decide_eq_false e)]at k
 refine ap (fun J=>J (decide (σ.depthI<0/\(σ.nLay:Int)-1<bud))) ?_ (fun J hJ=>?_)
 rotate_left
 ·refine ac (fun e=>?_) (fun e=>?_)
  ·rw [show decide (σ.depthI<0/\(σ.nLay:Int)-1<bud)=decide ((σ.nLay:Int)-1<bud)from by rw [decide_eq_true_eq]at e;rw [Bool.eq_iff_iff,decide_eq_true_eq,decide_eq_true_eq];omega]at hJ;exact hJ
  ·rw [show decide (σ.depthI<0/\(σ.nLay:Int)-1<bud)=false from by rw [decide_eq_false_iff_not]at e⊢;omega]at hJ;exact hJ
 refine ac (fun e=>?_) (fun e=>?_)
 ·rw [if_pos (of_decide_eq_true e)]at k
  refine HF hs2 ok hL fun bu T h3 K3 hT=>⟨_,rfl,?_⟩
  have hT':dc h3 (arr bu (2^σ.n)) (2^σ.n) σ.reach:=km (by omega) (K3.at (.head _)) hT
  have l23:=K3.le
  clear K3
  refine rc (hs2.mono l23) ok hT' fun s h4 l4 o4=>⟨_,_,_,_,rfl,?_⟩
  have K23:=K2.mono l23
  have K4:=K23.mono l4
  refine Kn.al K4 fun b47 h5 K5 l5 hb47=>?_
  refine kw_ ?_
  intro h6 K6 kp6
  repeat' (refine kr_ ?_)
  refine kw_ ?_
  intro h7 K7 kp7
  have l46:=cL hb47 l5 kp6
  have K7':Kn h h7 [(b47, .inl ⟨[I (cQ σ.n σ.reach).v,s.v,I (cQ σ.n σ.reach).r],3,false⟩),(b4, .inl ⟨[I 2,I ((σ.nLay:Int)-1),Sl.v ⟨none,0,0⟩,Sl.v ⟨none,0,0⟩,I (cQ σ.n σ.reach).v,s.v,I (cQ σ.n σ.reach).r],7,false⟩)]:=K7
  clear K7 K6 K5 K4
  have o7:=o4.mono (Hp.le_trans (qx h3 l46) (gJ K23.le (K23.at (.head _)) kp7))
  clear K23 K2 K1 K0
  repeat' (refine kr_ ?_)
  exact k ⟨none,0,0⟩ ⟨none,0,0⟩ s h7 (VrX.ofBd K7'.le o7)
 ·rw [if_neg (of_decide_eq_false e)]at k
  refine kw_ ?_
  intro h4 K4 kp
  have K4':Kn h h4 [(b4, .inl ⟨[I 1,I bud,Sl.v ⟨none,0,0⟩,Sl.v ⟨none,0,0⟩,I 0,Sl.v ⟨none,0,0⟩,I 0],7,false⟩)]:=K4
  clear K4 K1
  repeat' (refine kr_ ?_)
  exact k ⟨none,0,0⟩ ⟨none,0,0⟩ ⟨none,0,0⟩ h4 (VrX.nil K4'.le)
theorem gA {h:Hp} {M:MSl} {m:ah} {x:Int} {R:Value->Hp->Prop} (hs:aO h M m) (hm:bW m)
  (k: ∀sS sI sN h',VrX h h' sS sI sN (dy m x)->R (LX (dy m x) sS sI sN) h'):eG #[aQ M,I x] h R:=by
 apply Mf
 refine uf_ ?_
 unfold dy at k
 have K0:=Kn.nil h
 (with_reducible apply Kn.al);(assumption);(intro b8 h1 K1 l1 hb8)
 (with_reducible apply Kn.al);(assumption);(intro b10 h2 K2 l2 hb10)
 repeat' (refine kr_ ?_)
 refine fj (hs.mono K2.le) hm (fun h3 l3 hc=>⟨_,_,rfl,aM rfl ?_⟩) (fun hc g bx h3 l3 hx=>⟨_,_,rfl,aE rfl ?_⟩)
 ·rw [if_neg hc]at k
  have K3:=K2.mono l3
  refine kw_ ?_
  intro h4 K4 kp
  have K4':Kn h h4 [(b10, .inl ⟨[I 0,I 0,Sl.v ⟨none,0,0⟩,Sl.v ⟨none,0,0⟩,I 0,Sl.v ⟨none,0,0⟩,I 0],7,false⟩),(b8, .inl ⟨aw M,5,false⟩)]:=K4
  clear K4 K3 K2 K1 K0
  repeat' (refine kr_ ?_)
  exact k ⟨none,0,0⟩ ⟨none,0,0⟩ ⟨none,0,0⟩ h4 (VrX.nil K4'.le)
 ·rw [if_pos hc]at k
  have K3:=K2.mono l3
  refine IO hx (gX g) fun sS sI sN h4 t4=>⟨_,_,_,_,_,_,_,rfl,?_⟩
  generalize wT (aG m) x=V at*
  have K4:=K3.mono t4.le
  refine kw_ ?_
  intro h5 K5 kp
  have K5':Kn h h5 [(b10, .inl ⟨SJ V sS sI sN,7,false⟩),(b8, .inl ⟨aw M,5,false⟩)]:=K5
  have t5:=t4.up K3.le (by rw [K3.at (.head _)];simp) K5'.le kp
  clear K5 K4 K3 K2 K1 K0 t4
  repeat' (refine kr_ ?_)
  exact k sS sI sN h5 t5
def VrS (h:Hp) (sS sI sN:Sl) (p:Ds):Prop:=IntS h sS (VL (p.tr.map Prod.fst))/\IntS h sI (VL (p.tr.map Prod.snd))/\SlC h sN 3 (bD p.bd.ns)
theorem aa3 {g h:Hp} {L XS XI XN:List (Nat×Blk)} {sS sI sN:Sl} {cS cI cN:List Value} (oS:pm XS sS 1 cS) (oI:pm XI sI 1 cI) (oN:pm XN sN 3 cN) (K:Kn g h (L++(XS++(XI++XN)))):SlC h sS 1 cS/\SlC h sI 1 cI/\SlC h sN 3 cN:=
 ⟨oS.slcOf fun e he=>K.mem e (List.mem_append_right _ (List.mem_append_left _ he)),oI.slcOf fun e he=>K.mem e (List.mem_append_right _ (List.mem_append_right _ (List.mem_append_left _ he))),
  oN.slcOf fun e he=>K.mem e (List.mem_append_right _ (List.mem_append_right _ (List.mem_append_right _ he)))⟩
theorem VrX.vrS {h h':Hp} {sS sI sN:Sl} {p:Ds} (t:VrX h h' sS sI sN p):VrS h' sS sI sN p:=by
 obtain⟨XS,XI,XN,oS,oI,oN,K⟩:=t
 exact aa3 (L:= []) oS oI oN K
namespace aD
theorem run_seen {σ:aD}: ∀i s,σ.run i s=true->σ.seen (i+1) s=true:=by
 intro i
 induction i with
 |zero=>intro s h;rw [seen_succ,show σ.front 0 s=true from h,Bool.or_true]
 |succ i ih=>exact fun s h=>seen_fwd _ _ (fwd_mono (fun c _ h=>h) (fun s _ h=>ih s h) h)
theorem depth_of_run {σ:aD} {i s:Nat} (hs:s<2^σ.n) (h:σ.run i s=true) (he:σ.endsAt s=true): ∃d,σ.depth=some d/\d<=i:=by
 obtain⟨j,hj,hf⟩:=seen_iff.1 (run_seen i s h)
 have hh:σ.hits j=true:=cF.2 ⟨s,hs,by rw [hf,he];rfl⟩
 cases hd:σ.depth with
 |none=>rw [depth_none.1 hd j]at hh;cases hh
 |some d=>
  refine⟨d,rfl,?_⟩
  rcases Nat.lt_or_ge j d with e|e
  ·rw [(depth_some.1 hd).2 j e]at hh;cases hh
  ·omega
end aD
theorem P4 :m4 256=256:=by rw [BO];rfl
theorem Td {σ:aD} (ok:σ.Ok):σ.depthI<=255:=by
 unfold aD.depthI
 cases hd:σ.depth with
 |none=>show (-1:Int)<=255;omega
 |some d=>
  show (d:Int)<=255
  have h1:=aD.depth_lt hd
  have h2:=aD.nLay_le σ
  have h3:=fh ok
  omega
theorem FC {σ:aD} (ok:σ.Ok):wT σ 256=if 0<=σ.depthI then⟨3,σ.depthI,σ.wit σ.depthI.toNat σ.begins,js⟩else⟨2,(σ.nLay:Int)-1, [],cQ σ.n σ.reach⟩:=by
 have h1:=Td ok
 have h2:=aD.nLay_le σ
 have h3:=fh ok
 unfold wT
 rw [P4]
 by_cases e:0<=σ.depthI
 ·rw [if_pos e,if_pos ⟨e,by omega⟩]
 ·rw [if_neg e,if_neg fun q=>e q.1,if_pos ⟨by omega,by omega⟩]
def aD.Path (σ:aD):(Nat->Bool)->List (Nat×Nat)->Prop
 |_, []=>False
 |fits, [(s,x)]=>s<2^σ.n/\x<2^σ.k/\fits s=true/\σ.ends (σ.at_ s x)=true
 |fits,(s,x)::b::r=>s<2^σ.n/\x<2^σ.k/\fits s=true/\σ.hold (σ.at_ s x)=true/\aD.Path σ (σ.goes (σ.at_ s x)) (b::r)
theorem V5 {σ:aD}: ∀(l:List (Nat×Nat)) (i:Nat) (fits:Nat->Bool) (a:Nat×Nat),(∀s,s<2^σ.n->fits s=true->σ.run i s=true)->σ.Path fits (a::l)-> ∃d,σ.depth=some d/\d<=i+l.length:=by
 intro l
 induction l with
 |nil=>
  rintro i fits ⟨s,x⟩ hf h
  exact aD.depth_of_run h.1 (hf s h.1 h.2.2.1) (aD.endsAt_iff.2 ⟨x,h.2.1,by have:=h.2.2.2;simpa [aD.ends] using this⟩)
 |cons b r ih=>
  rintro i fits ⟨s,x⟩ hf h
  obtain⟨d,hd,hle⟩:=ih (i+1) _ b (fun t ht hg=>aD.fwd_iff.2 ⟨s,x,h.1,h.2.1,hf s h.1 h.2.2.1,h.2.2.2.1,hg⟩) h.2.2.2.2
  exact⟨d,hd,by rw [List.length_cons];omega⟩
theorem F1 {σ:aD} {l:List (Nat×Nat)} (h:σ.Path σ.begins l): ∃d,σ.depth=some d/\d+1<=l.length:=by
 cases l with
 |nil=>exact h.elim
 |cons a l=>
  obtain⟨d,hd,hle⟩:=V5 l 0 σ.begins a (fun s _ hb=>hb) h
  exact⟨d,hd,by rw [List.length_cons];omega⟩
theorem XQ {σ:aD}: ∀(l:List (Nat×Nat)) (fits:Nat->Bool),(∃a,l[0]?=some a/\fits a.1=true)->(∀a∈l,a.1<2^σ.n/\a.2<2^σ.k/\σ.hold (σ.at_ a.1 a.2)=true)->
  (∀(i:Nat) (a b:Nat×Nat),l[i]?=some a->l[i+1]?=some b->σ.goes (σ.at_ a.1 a.2) b.1=true)->(∃a,l[l.length-1]?=some a/\σ.bad (σ.at_ a.1 a.2)=true)->σ.Path fits l:=by
 intro l
 induction l with
 |nil=>rintro fits ⟨a,h,_⟩;simp at h
 |cons a r ih=>
  rintro fits ⟨a',h0,hf⟩ hall hgo ⟨z,hz,hbad⟩
  simp at h0;subst h0
  obtain⟨s,x⟩:=a
  have ha:=hall _ (List.mem_cons_self ..)
  cases r with
  |nil=>
   simp at hz;subst hz
   exact⟨ha.1,ha.2.1,hf,by unfold aD.ends;rw [ha.2.2,hbad];rfl⟩
  |cons b r=>
   refine⟨ha.1,ha.2.1,hf,ha.2.2,ih _ ⟨b,rfl,hgo 0 _ _ rfl rfl⟩ (fun c hc=>hall c (List.mem_cons_of_mem _ hc)) (fun i c d hc hd=>hgo (i+1) c d (by simpa using hc) (by simpa using hd)) ⟨z,?_,hbad⟩⟩
   simpa using hz
abbrev rdC (s:Sl) (p:Nat):Blk:= .inl ⟨[s.v,I p],2,false⟩
theorem Ro {g h:Hp} {L L':List (Nat×Blk)} {B p:Nat} {s:Sl} {bs:List Nat} {n:Int} {R:Value->Hp->Prop} (K:Kn g h L) (hb:ByteS g s bs) (u:Upd L B (rdC s p) (rdC s (p+1)) L') (hp:p<=1000000) (hn:n<=1000000000)
  (k: ∀(x:Nat) h',Kn g h' L'->(1<=n->(x:Int)<n)->(n<1->x=0)->R (I x) h'):ai #[.pointer (some ⟨B,0,none⟩),I n] h R:=
 DJ ⟨K.at u.mem,hb.mono (vU (K.new (B,_) u.mem) K.le)⟩ (by omega) hn fun x h1 h2=>k x _ (K.set u) h1 h2
theorem kp_ {P Q:Prop} (k:Q) (h:Q->P:=by((with_reducible apply Ro);(assumption);(assumption);(((focus ((repeat first|exact .head|apply Upd.tail);done))));(omega);(omega))):P:=h k
def MG (X:List (Nat×Blk)) (M:MSl) (m:ah):Prop:=
 ∃XN XI XE XB XH,X=XN++(XI++(XE++(XB++(XH++ []))))/\cw XN M.no 9 (m.nodes.flatMap nodeCells)/\cw XI M.ini 2 (m.inits.flatMap bindCells)/\cw XE M.nex 2 (m.nexts.flatMap bindCells)/\
  cw XB M.bad 1 (m.bads.map I)/\cw XH M.hol 1 (m.holds.map I)
abbrev noM :MSl:=⟨⟨none,0,0⟩,⟨none,0,0⟩,⟨none,0,0⟩,⟨none,0,0⟩,⟨none,0,0⟩⟩
abbrev noP :ah:=⟨[], [], [], [], []⟩
theorem MG.nil :MG [] noM noP:=⟨[], [], [], [], [],rfl,cD 9,cD 2,cD 2,cD 1,cD 1⟩
section
variable {g h:Hp} {A X:List (Nat×Blk)} {M:MSl} {m:ah}
theorem cw.slcOf {X:List (Nat×Blk)} {s:Sl} {sz:Nat} {cs:List Value} (o:cw X s sz cs) (hn:s.n<=9223372036854775807) (m: ∀e∈X,h e.1=some e.2):SlC h s sz cs:=(o.buf m).slc_of hn
theorem MG.lens (o:MG X M m):M.no.n=m.nodes.length/\M.ini.n=m.inits.length/\M.nex.n=m.nexts.length/\M.bad.n=m.bads.length/\M.hol.n=m.holds.length/\M.no.n<=M.no.c:=by
 obtain⟨XN,XI,XE,XB,XH,_,a,b,c,d,e⟩:=o
 have h1:=a.1;have h2:=b.1;have h3:=c.1;have h4:=d.1;have h5:=e.1;have h6:=a.2.1
 rw [eV (m:=9) (fun _=>rfl)]at h1
 rw [eV (m:=2) (fun _=>rfl)]at h2 h3
 rw [List.length_map]at h4 h5
 omega
theorem MG.blk (o:MG X M m) (hn:0<m.nodes.length): ∃b x,M.no.a=some ⟨b,0,none⟩/\(b,x)∈X:=by
 have hl:=o.lens
 obtain⟨XN,XI,XE,XB,XH,rfl,a,_⟩:=o
 rcases a.2.2 with ⟨_,h0,_⟩|⟨b,ha,rfl⟩
 ·rw [h0]at hl;have:=hl.1;dsimp only at this;omega
 ·exact⟨b,_,ha,List.mem_append_left _ (.head _)⟩
theorem MG.modelS (o:MG X M m) (hm:bW m) (K:Kn g h (A++X)):aO h M m:=by
 have hl:=o.lens
 have hm':=hm.nodes;have h2:=hm.inits;have h3:=hm.nexts;have h4:=hm.bads;have h5:=hm.holds
 obtain⟨XN,XI,XE,XB,XH,rfl,a,b,c,d,e⟩:=o
 have mem: ∀x∈XN++(XI++(XE++(XB++(XH++ [])))),h x.1=some x.2:=fun x hx=>K.mem x (List.mem_append_right _ hx)
 refine⟨a.slcOf (by omega) fun x hx=>mem x (by simp [hx]),b.slcOf (by omega) fun x hx=>mem x (by simp [hx]),c.slcOf (by omega) fun x hx=>mem x (by simp [hx]),
  d.slcOf (by omega) fun x hx=>mem x (by simp [hx]),e.slcOf (by omega) fun x hx=>mem x (by simp [hx]),hl.2.2.2.2.2⟩
theorem MG.appN {b:Nat} {n:NodeP} {C:Option Addr->Nat->Nat->Hp->Prop} (o:MG X M m) (K:Kn g h (A++X)) (hm:m.nodes.length<=100000) (f:h b=some (.inl ⟨nodeCells n,9,false⟩))
  (k: ∀s' X' h',MG X' {M with no:=s'} {m with nodes:=m.nodes++ [n]}->Kn g h' (A++X')->C s'.a s'.n s'.c h'):co h M.no.a M.no.n M.no.c (some ⟨b,0,none⟩) 1 9 80 C:=by
 have hl:=o.lens
 obtain⟨XN,XI,XE,XB,XH,rfl,a,b',c,d,e⟩:=o
 refine Kn.growIn K a (by omega) (by omega) (by omega) ⟨b,0,rfl,ay f⟩ rfl rfl fun s' X' h' hn a' K' _=>?_
 exact k s' _ h' ⟨X',XI,XE,XB,XH,rfl,by rw [List.flatMap_append];exact a',b',c,d,e⟩ K'
theorem MG.appI {b:Nat} {n:BindP} {C:Option Addr->Nat->Nat->Hp->Prop} (o:MG X M m) (K:Kn g h (A++X)) (hm:m.inits.length<=100000) (f:h b=some (.inl ⟨bindCells n,2,false⟩))
  (k: ∀s' X' h',MG X' {M with ini:=s'} {m with inits:=m.inits++ [n]}->Kn g h' (A++X')->C s'.a s'.n s'.c h'):co h M.ini.a M.ini.n M.ini.c (some ⟨b,0,none⟩) 1 2 16 C:=by
 have hl:=o.lens
 obtain⟨XN,XI,XE,XB,XH,rfl,a,b',c,d,e⟩:=o
 refine Kn.growIn2 K b' (by omega) (by omega) (by omega) ⟨b,0,rfl,ay f⟩ rfl rfl fun s' X' h' hn a' K' _=>?_
 exact k s' _ h' ⟨XN,X',XE,XB,XH,rfl,a,by rw [List.flatMap_append];exact a',c,d,e⟩ K'
theorem MG.appE {b:Nat} {n:BindP} {C:Option Addr->Nat->Nat->Hp->Prop} (o:MG X M m) (K:Kn g h (A++X)) (hm:m.nexts.length<=100000) (f:h b=some (.inl ⟨bindCells n,2,false⟩))
  (k: ∀s' X' h',MG X' {M with nex:=s'} {m with nexts:=m.nexts++ [n]}->Kn g h' (A++X')->C s'.a s'.n s'.c h'):co h M.nex.a M.nex.n M.nex.c (some ⟨b,0,none⟩) 1 2 16 C:=by
 have hl:=o.lens
 obtain⟨XN,XI,XE,XB,XH,rfl,a,b',c,d,e⟩:=o
 refine Kn.growIn3 K c (by omega) (by omega) (by omega) ⟨b,0,rfl,ay f⟩ rfl rfl fun s' X' h' hn a' K' _=>?_
 exact k s' _ h' ⟨XN,XI,X',XB,XH,rfl,a,b',by rw [List.flatMap_append];exact a',d,e⟩ K'
theorem MG.appB {b:Nat} {n:Int} {C:Option Addr->Nat->Nat->Hp->Prop} (o:MG X M m) (K:Kn g h (A++X)) (hm:m.bads.length<=100000) (f:h b=some (.inl ⟨[I n],1,false⟩))
  (k: ∀s' X' h',MG X' {M with bad:=s'} {m with bads:=m.bads++ [n]}->Kn g h' (A++X')->C s'.a s'.n s'.c h'):co h M.bad.a M.bad.n M.bad.c (some ⟨b,0,none⟩) 1 1 8 C:=by
 have hl:=o.lens
 obtain⟨XN,XI,XE,XB,XH,rfl,a,b',c,d,e⟩:=o
 have sw: ∀Z:List (Nat×Blk),A++(XN++(XI++(XE++(Z++(XH++ [])))))=(A++(XN++XI))++(XE++(Z++(XH++ []))):=fun Z=>by simp
 rw [sw]at K
 refine Kn.growIn2 K d (by omega) (by omega) (by omega) ⟨b,0,rfl,ay f⟩ rfl rfl fun s' X' h' hn a' K' _=>?_
 rw [<-sw]at K'
 exact k s' _ h' ⟨XN,XI,XE,X',XH,rfl,a,b',c,by rw [List.map_append];exact a',e⟩ K'
theorem MG.appH {b:Nat} {n:Int} {C:Option Addr->Nat->Nat->Hp->Prop} (o:MG X M m) (K:Kn g h (A++X)) (hm:m.holds.length<=100000) (f:h b=some (.inl ⟨[I n],1,false⟩))
  (k: ∀s' X' h',MG X' {M with hol:=s'} {m with holds:=m.holds++ [n]}->Kn g h' (A++X')->C s'.a s'.n s'.c h'):co h M.hol.a M.hol.n M.hol.c (some ⟨b,0,none⟩) 1 1 8 C:=by
 have hl:=o.lens
 obtain⟨XN,XI,XE,XB,XH,rfl,a,b',c,d,e⟩:=o
 have sw: ∀Z:List (Nat×Blk),A++(XN++(XI++(XE++(XB++(Z++ [])))))=(A++(XN++XI))++(XE++(XB++(Z++ []))):=fun Z=>by simp
 rw [sw]at K
 refine Kn.growIn3 K e (by omega) (by omega) (by omega) ⟨b,0,rfl,ay f⟩ rfl rfl fun s' X' h' hn a' K' _=>?_
 rw [<-sw]at K'
 exact k s' _ h' ⟨XN,XI,XE,XB,X',rfl,a,b',c,d,by rw [List.map_append];exact a'⟩ K'
end
structure DM (m:ah) (N:Nat):Prop where
 nodes:m.nodes.length<=N
 sorts: ∀n∈m.nodes,bR n.sort=true
 names: ∀n∈m.nodes,n.name.size<=100
 inits:m.inits.length<=N
 nexts:m.nexts.length<=N
 bads:m.bads.length<=N
 holds:m.holds.length<=N
theorem DM.small {m:ah} {N:Nat} (d:DM m N) (hN:N<=100000):bW m:=
 ⟨by have:=d.nodes;omega,by have:=d.inits;omega,by have:=d.nexts;omega,by have:=d.bads;omega,by have:=d.holds;omega,fun n hn=>by have:=d.names n hn;omega⟩
theorem DM.more {m:ah} {N N':Nat} (d:DM m N) (h:N<=N'):DM m N':=
 ⟨Nat.le_trans d.nodes h,d.sorts,d.names,Nat.le_trans d.inits h,Nat.le_trans d.nexts h,Nat.le_trans d.bads h,Nat.le_trans d.holds h⟩
theorem DM.addN {m:ah} {N:Nat} (d:DM m N) {n:NodeP} (h1:bR n.sort=true) (h2:n.name.size<=100):DM {m with nodes:=m.nodes++ [n]} (N+1):=
 ⟨by have:=d.nodes;simp;omega,fun x hx=>by rcases List.mem_append.1 hx with hx|hx;exact d.sorts x hx;rw [List.mem_singleton.1 hx];exact h1,
  fun x hx=>by rcases List.mem_append.1 hx with hx|hx;exact d.names x hx;rw [List.mem_singleton.1 hx];exact h2,
  by have:=d.inits;dsimp only;omega,by have:=d.nexts;dsimp only;omega,by have:=d.bads;dsimp only;omega,by have:=d.holds;dsimp only;omega⟩
theorem Kn.tl {g h:Hp} {L:List (Nat×Blk)} {e:Nat×Blk} (K:Kn g h (e::L)):Kn g h L:=K.sub (fun x hx=> .tail _ hx) (by have:=K.nd;rw [List.map_cons,List.nodup_cons]at this;exact this.2)
theorem Kn.sw {g h:Hp} {L:List (Nat×Blk)} {a b:Nat×Blk} (K:Kn g h (a::b::L)):Kn g h (b::a::L):=K.perm (List.Perm.swap ..)
theorem rW {m:ah} {N:Nat} (d:DM m N) {i:Nat} {n:NodeP} (h:m.nodes[i]?=some n):bR n.sort=true:=d.sorts n (List.mem_of_getElem? h)
theorem lp {s:SortP} (h:bR s=true):(0<=s.idx/\s.idx<=2)/\1<=s.wid/\s.wid<=16:=of_decide_eq_true h
theorem oZ {w:Int} (h1:1<=w) (h2:w<=16):bR (cE w)=true:=decide_eq_true ⟨by simp [cE],h1,h2⟩
theorem Upd.mem2 {L L':List (Nat×Blk)} {b:Nat} {x y:Blk} (u:Upd L b x y L'):(b,y)∈L':=by
 induction u with
 |head=>exact .head _
 |tail _ ih=>exact .tail _ ih
section
variable {g h:Hp} {L L':List (Nat×Blk)} {b:Nat} {M M':MSl}
abbrev df :List Value:= [.slice none 0 0, .slice none 0 0, .slice none 0 0, .slice none 0 0, .slice none 0 0]
theorem j6 {cs:List Value} {Q:Hp->Prop} (K:Kn g h L) (u:Upd L b (.inl ⟨cs,5,false⟩) (.inl ⟨aw M',5,false⟩) L') (hl:cs.length=5) (k: ∀h',Kn g h' L'->Q h'):
  ∃(cs:List Value) (z:Nat),h b=some (.inl ⟨cs,z,false⟩)/\0+5<=List.length cs/\cA (h.row b (cz cs 0 (aw M')) z) fun h'=>Q h':=by
 have e:cz cs 0 (aw M')=aw M':=by
  match cs,hl with
  | [_,_,_,_,_],_=>rfl
 exact Kn.wr (cs:=cs) (z:=5) (o:=0) (vs:=aw M') K (L':=L') (by rw [e];exact u) (by omega) fun h' K' _=>k h' K'
theorem DN {Q:Sl->Sl->Sl->Sl->Sl->Hp->Prop} (K:Kn g h L) (u:Upd L b (.inl ⟨df,5,false⟩) (.inl ⟨aw M,5,false⟩) L') (k: ∀h',Kn g h' L'->Q M.no M.ini M.nex M.bad M.hol h'):
  ∃(cs:List Value) (z:Nat),h b=some (.inl ⟨cs,z,false⟩)/\0+5<=List.length cs/\cA (h.row b (cz cs 0 (aw M)) z) fun h'=> ∃s1:Sl,Hp.cell h' b 0=some s1.v/\ ∃s2:Sl,Hp.cell h' b 1=some s2.v/\
   ∃s3:Sl,Hp.cell h' b 2=some s3.v/\ ∃s4:Sl,Hp.cell h' b 3=some s4.v/\ ∃s5:Sl,Hp.cell h' b 4=some s5.v/\Q s1 s2 s3 s4 s5 h':=by
 refine j6 K u rfl fun h' K'=>?_
 have hm:=u.mem2
 have c:=fun o=>aq (K'.at hm) o
 exact⟨_,c 0,_,c 1,_,c 2,_,c 3,_,c 4,k h' K'⟩
end
theorem zZ {α:Type} (a b c d e:α) (L:List α):(a::b::c::d::e::L).Perm (e::a::b::c::d::L):=by
 refine((List.Perm.cons a ((List.Perm.cons b ((List.Perm.cons c (List.Perm.swap e d L)).trans (List.Perm.swap e c _))).trans (List.Perm.swap e b _))).trans (List.Perm.swap e a _))
theorem Upd.app {L L' X:List (Nat×Blk)} {b:Nat} {x y:Blk} (u:Upd L b x y L'):Upd (L++X) b x y (L'++X):=by
 induction u with
 |head=>exact .head
 |tail _ ih=>exact .tail ih
theorem ll {g h:Hp} {H X:List (Nat×Blk)} {b bn:Nat} {M:MSl} {m:ah} {nd:NodeP} {J:Hp->Prop} (o:MG X M m) (K:Kn g h ((bn, .inl ⟨nodeCells nd,9,false⟩)::(H++X))) (hm:m.nodes.length<=10000) (hb:(b, .inl ⟨aw M,5,false⟩)∈H)
  (k: ∀s' X' h',MG X' {M with no:=s'} {m with nodes:=m.nodes++ [nd]}->(∀H',Upd H b (.inl ⟨aw M,5,false⟩) (.inl ⟨aw {M with no:=s'},5,false⟩) H'->Kn g h' (H'++X'))->J h'):
  co h M.no.a M.no.n M.no.c (some ⟨bn,0,none⟩) 1 9 80 fun a n c h95=> ∃(cs:List Value) (z:Nat),h95 b=some (.inl ⟨cs,z,false⟩)/\0+1<=List.length cs/\cA (h95.row b (cz cs 0 [.slice a n c]) z) fun h'=>J h':=by
 refine MG.appN (A:=_::H) (n:=nd) o K (by omega) (K.at (.head _)) fun s' X' h7 o' K7=>?_
 rw [List.cons_append]at K7
 have f:=K7.at (.tail _ (List.mem_append_left _ hb))
 exact⟨_,_,f,by simp,k s' X' _ o' fun H' u=>(K7.tl).set (u.app (X:=X'))⟩
set_option maxHeartbeats 1000000 in
theorem uV {g h:Hp} {A X:List (Nat×Blk)} {B p N:Nat} {s:Sl} {bs:List Nat} {M:MSl} {m:ah} {st:SortP} {R:Value->Hp->Prop} (K:Kn g h ((B,rdC s p)::(A++X))) (hb:ByteS g s bs) (o:MG X M m) (d:DM m N) (hN:N<=10000)
  (hne:0<m.nodes.length) (hp:p<=900000) (hst:bR st=true)
  (k: ∀h' p' X' M' m' (i:Nat),Kn g h' ((B,rdC s p')::(A++X'))->MG X' M' m'->DM m' (N+1)->i<m'.nodes.length->m.nodes.length<=m'.nodes.length->p'<=p+2->R (.tuple #[aQ M',I i]) h'):
  fE #[.pointer (some ⟨B,0,none⟩),aQ M,uP st] h R:=by
 apply FA
 refine uf_ ?_
 obtain⟨_,hw1,hw2⟩:=lp hst
 have hl:=o.lens
 have hsm:=d.small (by omega)
 have hdn:=d.nodes
 refine Kn.al K fun b10 h1 K1 l1 hb10=>?_
 refine Kn.al K1 fun b12 h2 K2 l2 hb12=>?_
 refine Kn.al K2 fun b14 h3 K3 l3 hb14=>?_
 clear K K1 K2 l1 l2 l3 hb10 hb12 hb14
 (refine kr_ ?_)
 refine kp_ ?_
 intro x h4 K4 hx _
 refine⟨_,rfl,?_⟩
 replace hx:x<m.nodes.length:=by have:=hx (by omega);omega
 clear K3 h3 h2 h1 h
 have hs:=o.modelS (A:=_::_::_::_::A) hsm K4
 refine av m.nodes.length (fun i vs h'=>vs= [.pointer (some ⟨B,0,none⟩), .pointer (some ⟨b10,0,none⟩), .pointer (some ⟨b12,0,none⟩), .pointer (some ⟨b14,0,none⟩),I x,I i]/\h4=h') ⟨rfl,rfl⟩ ?_
 rintro i _ _ nxt hi ⟨rfl,rfl⟩ hnx
 refine⟨_,b10,0,b12,0,b14,0,_,_,rfl,?_⟩
 (refine kr_ ?_)
 have same: ∀q:Nat,q<m.nodes.length-> ∃(cs:List Value) (z:Nat),h4 b14=some (.inl ⟨cs,z,false⟩)/\0+5<=List.length cs/\cA (h4.row b14 (cz cs 0 (aw M)) z) fun h58=> ∃s59:Sl,Hp.cell h58 b14 0=some s59.v/\ ∃s60:Sl,Hp.cell h58 b14 (0+1)=some s60.v/\
   ∃s61:Sl,Hp.cell h58 b14 (0+2)=some s61.v/\ ∃s62:Sl,Hp.cell h58 b14 (0+3)=some s62.v/\ ∃s63:Sl,Hp.cell h58 b14 (0+4)=some s63.v/\R (.tuple #[.agg #[s59.v,s60.v,s61.v,s62.v,s63.v],I q]) h58:=by
  intro q hq
  refine kw_ ?_
  intro h5 K5 _
  have K5':Kn g h5 ((b14, .inl ⟨aw M,5,false⟩)::(b12, .inl ⟨[I st.idx,I st.wid],2,false⟩)::(b10, .inl ⟨aw M,5,false⟩)::(B,rdC s (p+1))::(A++X)):=K5
  clear K5 K4
  repeat' (refine kr_ ?_)
  exact k h5 (p+1) X M m q K5'.tl.tl.tl o (d.more (by omega)) hq (Nat.le_refl _) (by omega)
 by_cases hlt:i<m.nodes.length
 ·refine aM (by rw [decide_eq_true_eq];omega) ?_
  (refine kr_ ?_)
  rw [if_neg (by omega)]
  (refine kr_ ?_)
  have hq:(x+i)%m.nodes.length<m.nodes.length:=Nat.mod_lt _ hne
  rw [<-Int.natCast_add,eO (by omega),show ((M.no.n:Nat):Int)=(m.nodes.length:Nat) by omega,eU]
  generalize (x+i)%m.nodes.length=q at*
  obtain⟨n,hni⟩: ∃n,m.nodes[q]?=some n:=⟨_,List.getElem?_eq_getElem hq⟩
  obtain⟨b,oo,ha,e0,e1,e2,e3,e4,e5,e6,e7,e8⟩:=hs.nodes.at hni
  rw [Int.toNat_natCast]
  refine⟨b,oo,ha,by omega,by omega,_,e6,_,e7,?_⟩
  (refine kr_ ?_)
  (refine kr_ ?_)
  refine ac (fun e=>?_) (fun e=>?_)
  ·repeat' (refine kr_ ?_)
   exact same q hq
  ·rw [aC (by omega)]
   exact hnx hlt _ _ ⟨rfl,rfl⟩
 refine aE (by rw [decide_eq_false_iff_not];omega) ?_
 clear hnx hlt hi
 (refine kr_ ?_)
 refine ac (fun e=>?_) (fun e=>?_)
 ·repeat' (refine kr_ ?_)
  exact same 0 hne
 have e':=of_decide_eq_false e
 have hi0:st.idx=0:=by have:=(lp hst).1;omega
 clear same hs
 refine ap (fun J=> ∀h5 X' s' p' nd,nd.sort=st->nd.name.size=0->MG X' {M with no:=s'} {m with nodes:=m.nodes++ [nd]}->Kn g h5 ((b14, .inl ⟨[.slice none 0 0, .slice none 0 0, .slice none 0 0, .slice none 0 0, .slice none 0 0],5,false⟩)::(b12, .inl ⟨[I st.idx,I st.wid],2,false⟩)::
  (b10, .inl ⟨aw {M with no:=s'},5,false⟩)::(B,rdC s p')::(A++X'))->p'<=p+2->J h5) (fun h5 X' s' p' nd hs1 hs2 o' K5 hp'=>?_) (fun J hJ=>?_)
 ·have hl':=o'.lens
  repeat' (refine kr_ ?_)
  refine kw_ ?_
  intro h6 K6 kp6
  have K6':Kn g h6 ((b14, .inl ⟨aw {M with no:=s'},5,false⟩)::(b12, .inl ⟨[I st.idx,I st.wid],2,false⟩)::(b10, .inl ⟨aw {M with no:=s'},5,false⟩)::(B,rdC s p')::(A++X')):=K6
  repeat' (refine kr_ ?_)
  clear K5 K6 K4
  repeat' (refine kr_ ?_)
  rw [show W ((s'.n:Int)-1)=(m.nodes.length:Nat) by
   have h1:=hl'.1
   simp at h1
   rw [bU (by omega) (by omega)];omega]
  exact k h6 p' X' _ _ m.nodes.length K6'.tl.tl.tl o' (d.addN (by rw [hs1];exact hst) (by omega)) (by simp) (by simp) hp'
 obtain⟨w,hw⟩: ∃w:Nat,st.wid=w:=⟨st.wid.toNat,by omega⟩
 have hp2:0<2^w:=Nat.two_pow_pos w
 have fin: ∀(y:Nat) (h5 h6:Hp) (q b:Nat),q<=p+2->Kn g h5 ((b14, .inl ⟨[.slice none 0 0, .slice none 0 0, .slice none 0 0, .slice none 0 0, .slice none 0 0],5,false⟩)::(b12, .inl ⟨[I st.idx,I st.wid],2,false⟩)::(b10, .inl ⟨aw M,5,false⟩)::(B,rdC s q)::(A++X))->
   Kn g h6 ((b, .inl ⟨[I 34,I 0,I 0,I 0,I (Int.tmod y (2^w:Nat)),I 0,I st.idx,I st.wid, .string ⟨#[]⟩],9,false⟩)::(b14, .inl ⟨[.slice none 0 0, .slice none 0 0, .slice none 0 0, .slice none 0 0, .slice none 0 0],5,false⟩)::(b12, .inl ⟨[I st.idx,I st.wid],2,false⟩)::(b10, .inl ⟨aw M,5,false⟩)::(B,rdC s q)::(A++X))->
   co h6 M.no.a M.no.n M.no.c (some (Addr.mk b 0 none)) 1 9 80 fun a92 n93 k94 h95=> ∃(cs96:List Value) (z97:Nat),h95 b10=some (.inl ⟨cs96,z97,false⟩)/\0+1<=List.length cs96/\cA (h95.row b10 (cz cs96 0 [(.slice a92 n93 k94)]) z97) fun h98=>J h98:=by
  intro y h5 h6 q b hq K5 K6
  refine MG.appN (A:=_::_::_::_::_::A) (n:=⟨34,0,0,0,Int.tmod y (2^w:Nat),0,st,⟨#[]⟩⟩) o K6 (by omega) (K6.at (.head _)) fun s' X' h7 o' K7=>?_
  simp only [List.cons_append]at K7
  clear K6 K5 K4
  refine kw_ ?_
  intro h8 K8 _
  exact hJ h8 X' s' q _ rfl rfl o' K8.tl hq
 repeat' (refine kr_ ?_)
 refine⟨?_,?_⟩
 ·refine kp_ ?_
  intro y h5 K5 hy _
  refine⟨_,rfl,?_⟩
  repeat' (refine kr_ ?_)
  rw [hw,cu (by omega),if_neg (by omega),bK (by omega),if_neg (by omega),<-hw]
  refine Kn.al K5 fun b90 h6 K6 l6 hb90=>?_
  (refine kr_ ?_)
  exact fin y h5 h6 (p+2) b90 (Nat.le_refl _) K5 K6
 ·repeat' (refine kr_ ?_)
  rw [hw,cu (by omega),if_neg (by omega),bK (by omega),<-hw]
  refine kp_ ?_
  intro y h5 K5 hy _
  refine⟨_,rfl,?_⟩
  repeat' (refine kr_ ?_)
  rw [if_neg (by omega)]
  refine Kn.al K5 fun b90 h6 K6 l6 hb90=>?_
  (refine kr_ ?_)
  exact fin y h5 h6 (p+2) b90 (Nat.le_refl _) K5 K6
set_option maxHeartbeats 1000000 in
theorem JT {g h:Hp} {A X:List (Nat×Blk)} {B p N:Nat} {s:Sl} {bs:List Nat} {M:MSl} {m:ah} {R:Value->Hp->Prop} (K:Kn g h ((B,rdC s p)::(A++X))) (hb:ByteS g s bs) (o:MG X M m) (d:DM m N) (hN:N<=1000)
  (hne:0<m.nodes.length) (hp:p<=800000)
  (k: ∀h' p' X' M' m' (i:Nat),Kn g h' ((B,rdC s p')::(A++X'))->MG X' M' m'->DM m' (N+3)->i<m'.nodes.length->m.nodes.length<=m'.nodes.length->p'<=p+2*N+10->R (.tuple #[aQ M',I i]) h'):
  lv #[.pointer (some ⟨B,0,none⟩),aQ M] h R:=by
 apply C9
 refine uf_ ?_
 have hl:=o.lens
 have hsm:=d.small (by omega)
 have hdn:=d.nodes
 refine Kn.al K fun b8 h1 K1 l1 hb8=>?_
 refine Kn.al K1 fun b10 h2 K2 l2 hb10=>?_
 clear K K1 l1 l2 hb8 hb10
 (refine kr_ ?_)
 rw [show W ((M.no.n:Int)-1)=(m.nodes.length:Int)-1 by rw [bU (by omega) (by omega)];omega]
 refine nz m.nodes.length (fun i vs h'=>vs= [.pointer (some ⟨B,0,none⟩), .pointer (some ⟨b8,0,none⟩), .pointer (some ⟨b10,0,none⟩),I ((i:Int)-1)]/\i<=m.nodes.length/\
  ∃q,q+i<=p+m.nodes.length/\Kn g h' ((b10, .inl ⟨df,5,false⟩)::(b8, .inl ⟨aw M,5,false⟩)::(B,rdC s q)::(A++X))) ⟨rfl,Nat.le_refl _,p,Nat.le_refl _,K2⟩ ?_
 clear K2 h1 h2 h
 rintro i _ h4 nxt ⟨rfl,hi,q,hq,K4⟩ hnx
 refine⟨_,b8,0,b10,0,_,rfl,?_⟩
 have hs:=o.modelS (A:=_::_::_::A) hsm K4
 cases i with
 |succ i=>
  rw [show (((i+1:Nat):Int)-1)=(i:Nat) by omega]
  refine aM (by rw [decide_eq_true_eq];omega) ?_
  refine ap (fun J=> ∀c h5 q,q+i<=p+m.nodes.length->Kn g h5 ((b10, .inl ⟨df,5,false⟩)::(b8, .inl ⟨aw M,5,false⟩)::(B,rdC s q)::(A++X))->J c h5) (fun c h5 q' hq' K5=>?_) (fun J hJ=>?_)
  ·refine ac (fun e=>?_) (fun e=>?_)
   ·clear K4
    repeat' (refine kr_ ?_)
    refine DN K5 (by((focus ((repeat first|exact .head|apply Upd.tail);done)))) fun h6 K6=>?_
    exact k h6 q' X M m i K6.tl.tl o (d.more (by omega)) (by omega) (Nat.le_refl _) (by omega)
   ·rw [bU (by omega) (by omega)]
    exact hnx i (by omega) _ _ ⟨rfl,by omega,q',hq',K5⟩
  ·(refine kr_ ?_)
   obtain⟨n,hni⟩: ∃n,m.nodes[i]?=some n:=⟨_,List.getElem?_eq_getElem (by omega)⟩
   obtain⟨b,oo,ha,e0,e1,e2,e3,e4,e5,e6,e7,e8⟩:=hs.nodes.at hni
   refine⟨b,oo,ha,by omega,by omega,_,by rw [Int.toNat_natCast];exact e6,_,by rw [Int.toNat_natCast];exact e7,?_⟩
   refine ce ⟨_,_,rfl,?_⟩
   repeat' (refine kr_ ?_)
   refine ac (fun e=>?_) (fun e=>?_)
   ·(refine kr_ ?_)
    refine⟨b,oo,ha,by omega,by omega,_,by rw [Int.toNat_natCast];exact e0,?_⟩
    refine ac (fun e=>?_) (fun e=>?_)
    ·refine kp_ ?_
     intro x h5 K5 hx _
     exact⟨_,rfl,hJ _ h5 (q+1) (by omega) K5⟩
    ·exact hJ _ h4 q (by omega) K4
   ·exact hJ _ h4 q (by omega) K4
 |zero=>
 refine aE (by rw [decide_eq_false_iff_not];omega) ?_
 clear hnx
 refine av m.nodes.length (fun i vs h'=> ∃(a q:Nat),vs= [.pointer (some ⟨B,0,none⟩), .pointer (some ⟨b8,0,none⟩), .pointer (some ⟨b10,0,none⟩),I a,I i]/\a<m.nodes.length/\
  q<=p+m.nodes.length+i/\Kn g h' ((b10, .inl ⟨df,5,false⟩)::(b8, .inl ⟨aw M,5,false⟩)::(B,rdC s q)::(A++X))) ⟨0,q,rfl,hne,by omega,K4⟩ ?_
 clear K4 hq hs h4 hi q
 rintro i _ h4 nxt hi ⟨a,q,rfl,ha',hq,K4⟩ hnx
 refine⟨_,b8,0,b10,0,_,_,rfl,?_⟩
 have hs:=o.modelS (A:=_::_::_::A) hsm K4
 (refine kr_ ?_)
 obtain⟨na,hna⟩: ∃n,m.nodes[a]?=some n:=⟨_,List.getElem?_eq_getElem ha'⟩
 by_cases hlt:i<m.nodes.length
 ·refine aM (by rw [decide_eq_true_eq];omega) ?_
  refine ap (fun J=> ∀(c:Nat) h5 q,c<m.nodes.length->q<=p+m.nodes.length+(i+1)->Kn g h5 ((b10, .inl ⟨df,5,false⟩)::(b8, .inl ⟨aw M,5,false⟩)::(B,rdC s q)::(A++X))->J (c:Int) h5) (fun c h5 q' hc hq' K5=>?_) (fun J hJ=>?_)
  ·rw [aC (by omega)]
   exact hnx hlt _ _ ⟨c,q',rfl,hc,hq',K5⟩
  ·(refine kr_ ?_)
   obtain⟨n,hni⟩: ∃n,m.nodes[i]?=some n:=⟨_,List.getElem?_eq_getElem hlt⟩
   obtain⟨b,oo,ha,e0,_⟩:=hs.nodes.at hni
   refine⟨b,oo,ha,by omega,by omega,_,by rw [Int.toNat_natCast];exact e0,?_⟩
   refine ac (fun e=>?_) (fun e=>?_)
   ·(refine kr_ ?_)
    obtain⟨b,oo,ha,e0,_⟩:=hs.nodes.at hna
    refine⟨b,oo,ha,by omega,by omega,_,by rw [Int.toNat_natCast];exact e0,?_⟩
    refine ac (fun e=>?_) (fun e=>?_)
    ·exact hJ i h4 q hlt (by omega) K4
    ·refine kp_ ?_
     intro x h5 K5 hx _
     refine⟨_,rfl,ac (fun e=>?_) (fun e=>?_)⟩
     ·exact hJ i h5 _ hlt (by omega) K5
     ·exact hJ a h5 _ ha' (by omega) K5
   ·exact hJ a h4 q ha' (by omega) K4
 refine aE (by rw [decide_eq_false_iff_not];omega) ?_
 clear hnx
 repeat' (refine kr_ ?_)
 obtain⟨b,oo,ha,e0,e1,e2,e3,e4,e5,e6,e7,e8⟩:=hs.nodes.at hna
 refine⟨b,oo,ha,by omega,by omega,_,by rw [Int.toNat_natCast];exact e6,_,by rw [Int.toNat_natCast];exact e7,?_⟩
 refine uV (p:=q) (A:=(b10, .inl ⟨df,5,false⟩)::(b8, .inl ⟨aw M,5,false⟩)::A) (st:=na.sort) (K4.perm ?_) hb o d (by omega) hne (by omega) (rW d hna) fun h5 q5 X5 M5 m5 i5 K5 o5 d5 hi5 hl5 hq5=>⟨_,_,_,_,_,_,rfl,?_⟩
 ·exact(List.Perm.cons _ (List.Perm.swap ..)).trans (List.Perm.swap ..)
 have K5':Kn g h5 ((b10, .inl ⟨df,5,false⟩)::(b8, .inl ⟨aw M,5,false⟩)::(B,rdC s q5)::(A++X5)):=K5.perm ((List.Perm.swap ..).trans (List.Perm.cons _ (List.Perm.swap ..)))
 clear K5 K4 hs e0 e1 e2 e3 e4 e5 e6 e7 e8 ha
 refine j6 (M':=M5) K5' (by((focus ((repeat first|exact .head|apply Upd.tail);done)))) rfl fun h6 K6=>?_
 clear K5'
 have hl5':=o5.lens
 have hsm5:=d5.small (by omega)
 have hs6:=o5.modelS (A:=_::_::_::A) hsm5 K6
 obtain⟨nb,hnb⟩: ∃n,m5.nodes[a]?=some n:=⟨_,List.getElem?_eq_getElem (by omega)⟩
 refine ap (fun J=> ∀c,J c) (fun c=>?_) (fun J hJ=>?_)
 rotate_left
 ·refine ac (fun e=>?_) (fun e=>hJ _)
  (refine kr_ ?_)
  obtain⟨b,oo,ha,e0,e1,e2,e3,e4,e5,e6,e7,e8⟩:=hs6.nodes.at hnb
  exact⟨b,oo,ha,by omega,by omega,_,by rw [Int.toNat_natCast];exact e6,hJ _⟩
 have d5n:=d5.nodes
 refine ap (fun J=> ∀(x:Nat) h7 q X7 M7 m7,MG X7 M7 m7->DM m7 (N+2)->x<m7.nodes.length->m5.nodes.length<=m7.nodes.length->q<=q5+1->Kn g h7 ((b10, .inl ⟨df,5,false⟩)::(b8, .inl ⟨aw M7,5,false⟩)::(B,rdC s q)::(A++X7))->J (x:Int) h7)
  (fun x h7 q7 X7 M7 m7 o7 d7 hx7 hl7 hq7 K7=>?_) (fun J hJ=>?_)
 ·clear K6 hs6
  have hl7':=o7.lens
  have d7n:=d7.nodes
  (refine kr_ ?_)
  refine ce ⟨_,_,rfl,?_⟩
  repeat' (refine kr_ ?_)
  refine Kn.al K7 fun b173 h8 K8 l8 hb173=>?_
  repeat' (refine kr_ ?_)
  refine ll (H:=_::_::_::A) (nd:=⟨21,a,x,0,0,0,⟨0,1⟩,⟨#[]⟩⟩) o7 K8 (by omega) (.tail _ (.head _)) fun s' X9 h9 o9 KF=>?_
  have K9:=KF _ (by((focus ((repeat first|exact .head|apply Upd.tail);done))))
  simp only [List.cons_append]at K9
  clear KF K8 K7
  have hl9:=o9.lens
  repeat' (refine kr_ ?_)
  refine j6 (M':={M7 with no:=s'}) K9 (by((focus ((repeat first|exact .head|apply Upd.tail);done)))) rfl fun h11 K11=>?_
  repeat' (refine kr_ ?_)
  rw [show W ((s'.n:Int)-1)=(m7.nodes.length:Nat) by
   have h1:=hl9.1
   simp at h1
   rw [bU (by omega) (by omega)];omega]
  exact k h11 q7 X9 _ _ m7.nodes.length K11.tl.tl o9 (d7.addN rfl (show (0:Nat)<=100 by omega)) (by simp) (by simp;omega) (by omega)
 ·refine ac (fun e=>?_) (fun e=>?_)
  rotate_left
  ·exact hJ i5 h6 q5 X5 M5 m5 o5 (d5.more (by omega)) hi5 (Nat.le_refl _) (by omega) K6
  have hok:=rW d5 hnb
  obtain⟨_,hw1,hw2⟩:=lp hok
  obtain⟨b,oo,ha,e0,e1,e2,e3,e4,e5,e6,e7,e8⟩:=hs6.nodes.at hnb
  obtain⟨bN,xN,haN,hmN⟩:=o5.blk (by omega)
  repeat' (refine kr_ ?_)
  refine⟨b,oo,ha,by omega,by omega,_,by rw [Int.toNat_natCast];exact e7,?_⟩
  repeat' (refine kr_ ?_)
  refine⟨b,oo,ha,by omega,by omega,_,by rw [Int.toNat_natCast];exact e6,_,by rw [Int.toNat_natCast];exact e7,?_⟩
  rw [haN]at ha
  cases ha
  obtain⟨w,hw⟩: ∃w:Nat,nb.sort.wid=w:=⟨nb.sort.wid.toNat,by omega⟩
  have hp2:0<2^w:=Nat.two_pow_pos w
  have fin: ∀(y:Nat) (h8:Hp) (b:Nat),Kn g h8 ((b, .inl ⟨[I 34,I 0,I 0,I 0,I (Int.tmod y (2^w:Nat)),I 0,I nb.sort.idx,I nb.sort.wid, .string ⟨#[]⟩],9,false⟩)::(b10, .inl ⟨df,5,false⟩)::(b8, .inl ⟨aw M5,5,false⟩)::(B,rdC s (q5+1))::(A++X5))->
    co h8 M5.no.a M5.no.n M5.no.c (some (Addr.mk b 0 none)) 1 9 80 fun a92 n93 k94 h95=> ∃(cs96:List Value) (z97:Nat),h95 b8=some (.inl ⟨cs96,z97,false⟩)/\0+1<=List.length cs96/\cA (h95.row b8 (cz cs96 0 [(.slice a92 n93 k94)]) z97) fun h148=>
     ∃s150:Sl,Hp.cell h148 b8 0=some s150.v/\J (W ((s150.n:Int)-1)) h148:=by
   intro y h8 b K8
   refine ll (H:=_::_::_::A) (nd:=⟨34,0,0,0,Int.tmod y (2^w:Nat),0,nb.sort,⟨#[]⟩⟩) o5 K8 (by omega) (.tail _ (.head _)) fun s' X9 h9 o9 KF=>?_
   have K9:=KF _ (by((focus ((repeat first|exact .head|apply Upd.tail);done))))
   simp only [List.cons_append]at K9
   clear KF K8 K6
   have hl9:=o9.lens
   (refine kr_ ?_)
   rw [show W ((s'.n:Int)-1)=(m5.nodes.length:Nat) by
    have h1:=hl9.1
    simp at h1
    rw [bU (by omega) (by omega)];omega]
   exact hJ m5.nodes.length h9 (q5+1) X9 _ _ o9 (d5.addN hok (show (0:Nat)<=100 by omega)) (by simp) (by simp) (by omega) K9
  refine⟨?_,?_⟩
  ·refine kp_ ?_
   intro y h7 K7 hy _
   refine⟨_,rfl,?_⟩
   have hq:h7 b=h6 b:=by rw [K7.at (.tail _ (.tail _ (.tail _ (List.mem_append_right _ hmN)))),K6.at (.tail _ (.tail _ (.tail _ (List.mem_append_right _ hmN))))]
   repeat' (first|(refine kr_ ?_)|refine And.intro hq ?_)
   rw [hw,cu (by omega),if_neg (by omega),bK (by omega),if_neg (by omega),<-hw]
   refine Kn.al K7 fun b90 h8 K8 l8 hb90=>?_
   (refine kr_ ?_)
   exact fin y h8 b90 K8
  ·repeat' (refine kr_ ?_)
   rw [hw,cu (by omega),if_neg (by omega),bK (by omega),<-hw]
   refine kp_ ?_
   intro y h7 K7 hy _
   refine⟨_,rfl,?_⟩
   have hq:h7 b=h6 b:=by rw [K7.at (.tail _ (.tail _ (.tail _ (List.mem_append_right _ hmN)))),K6.at (.tail _ (.tail _ (.tail _ (List.mem_append_right _ hmN))))]
   repeat' (first|(refine kr_ ?_)|refine And.intro hq ?_)
   rw [if_neg (by omega)]
   refine Kn.al K7 fun b90 h8 K8 l8 hb90=>?_
   (refine kr_ ?_)
   exact fin y h8 b90 K8
theorem aa6 :DM noP 0:=⟨by simp,fun n hn=>by simp at hn,fun n hn=>by simp at hn,by simp,by simp,by simp,by simp⟩
theorem ac9 {i:Nat} (h:i<4): ∃s:ByteArray,([.string ⟨#[120]⟩, .string ⟨#[121]⟩, .string ⟨#[122]⟩, .string ⟨#[109,101,109]⟩]:List Value)[i]?=some (.string s)/\s.size<=100:=by
 rcases i with _|_|_|_|i
 ·exact⟨_,rfl,by decide⟩
 ·exact⟨_,rfl,by decide⟩
 ·exact⟨_,rfl,by decide⟩
 ·exact⟨_,rfl,by decide⟩
 ·omega
theorem ac1 {i:Nat} (h:i<2): ∃s:ByteArray,([.string ⟨#[103,111]⟩, .string ⟨#[105,110]⟩]:List Value)[i]?=some (.string s)/\s.size<=100:=by
 rcases i with _|_|i
 ·exact⟨_,rfl,by decide⟩
 ·exact⟨_,rfl,by decide⟩
 ·omega
theorem xW {a b:Int} (h1:0<=a) (h2:a<=2) (h3:1<=b) (h4:b<=16):bR ⟨a,b⟩=true:=decide_eq_true ⟨⟨h1,h2⟩,h3,h4⟩
set_option maxHeartbeats 2000000 in
theorem Lx {g h:Hp} {A:List (Nat×Blk)} {B p:Nat} {s:Sl} {bs:List Nat} {big:Bool} {R:Value->Hp->Prop} (K:Kn g h ((B,rdC s p)::A)) (hb:ByteS g s bs) (hp:p<=800000)
  (k: ∀h' p' X' M' m',Kn g h' ((B,rdC s p')::(A++X'))->MG X' M' m'->DM m' 12->0<m'.nodes.length->p'<=p+60->R (aQ M') h'):
  lQ #[.pointer (some ⟨B,0,none⟩),aQ noM, .bool big] h R:=by
 apply zt
 refine uf_ ?_
 refine Kn.al K fun b9 h1 K1 l1 hb9=>?_
 refine Kn.al K1 fun b11 h2 K2 l2 hb11=>?_
 refine Kn.al K2 fun b14 h3 K3 l3 hb14=>?_
 clear K K1 K2 l1 l2 l3 hb9 hb11 hb14
 refine ap (fun J=> ∀x:Int,J x) (fun x20=>?_) (fun J hJ=>ac (fun _=>hJ _) (fun _=>hJ _))
 refine kp_ ?_
 intro x24 h4 K4 hx24 _
 refine⟨_,rfl,?_⟩
 replace hx24:x24<3:=by have:=hx24 (by omega);omega
 clear K3 h3 h2 h1 h
 rw [show W (1+(x24:Int))=((1+x24:Nat):Int) by rw [bU (by omega) (by omega)];omega]
 refine av (1+x24) (fun i vs h'=> ∃(bits:Int) (q:Nat) (X:List (Nat×Blk)) (M:MSl) (m:ah),vs= [.pointer (some ⟨B,0,none⟩), .pointer (some ⟨b9,0,none⟩), .pointer (some ⟨b11,0,none⟩),(arr b14 4).v,I bits,I (1+x24:Nat),I i]/\
  MG X M m/\DM m i/\q<=p+1+4*i/\Kn g h' ((b14, .inl ⟨[.string ⟨#[120]⟩, .string ⟨#[121]⟩, .string ⟨#[122]⟩, .string ⟨#[109,101,109]⟩],4,false⟩)::(b11, .inl ⟨df,5,false⟩)::(b9, .inl ⟨aw M,5,false⟩)::(B,rdC s q)::(A++X)))
  ⟨x20,p+1, [],noM,noP,rfl,MG.nil,aa6,by omega,by rw [List.append_nil];exact K4⟩ ?_
 clear K4 h4
 rintro i _ h4 nxt hi ⟨bits,q,X,M,m,rfl,o,d,hq,K4⟩ hnx
 refine⟨_,b9,0,b11,0,arr b14 4,_,_,_,rfl,?_⟩
 have hl:=o.lens
 have hdn:=d.nodes
 by_cases hlt:i<1+x24
 ·refine aM (by rw [decide_eq_true_eq];omega) ?_
  have hi4:i<4:=by omega
  refine ap (fun J=> ∀(bits:Int) h5 q X M m,MG X M m->DM m (i+1)->q<=p+1+4*(i+1)->Kn g h5 ((b14, .inl ⟨[.string ⟨#[120]⟩, .string ⟨#[121]⟩, .string ⟨#[122]⟩, .string ⟨#[109,101,109]⟩],4,false⟩)::(b11, .inl ⟨df,5,false⟩)::(b9, .inl ⟨aw M,5,false⟩)::(B,rdC s q)::(A++X))->J bits h5)
   (fun bits h5 q X M m o d hq K5=>?_) (fun J hJ=>?_)
  ·rw [aC (by omega)]
   exact hnx hlt _ _ ⟨bits,q,X,M,m,rfl,o,d,hq,K5⟩
  ·refine kp_ ?_
   intro x45 h5 K5 hx45 _
   refine⟨_,rfl,?_⟩
   replace hx45:x45<4:=by have:=hx45 (by omega);omega
   refine Kn.al K5 fun b46 h6 K6 l6 hb46=>?_
   clear K5 K4
   refine kw_ ?_
   intro h7 K7 _
   clear K6 l6 hb46
   refine kp_ ?_
   intro x54 h8 K8 _ _
   refine⟨_,rfl,?_⟩
   clear K7
   refine ap (fun J=> ∀(a w:Int) h9 q',0<=a->a<=2->1<=w->w<=16->q'<=q+4->Kn g h9 ((b46, .inl ⟨[I a,I w],2,false⟩)::(b14, .inl ⟨[.string ⟨#[120]⟩, .string ⟨#[121]⟩, .string ⟨#[122]⟩, .string ⟨#[109,101,109]⟩],4,false⟩)::(b11, .inl ⟨df,5,false⟩)::(b9, .inl ⟨aw M,5,false⟩)::(B,rdC s q')::(A++X))->J h9)
    (fun a w h9 q' a1 a2 w1 w2 hq' K9=>?_) (fun J hJ=>?_)
   ·repeat' (refine kr_ ?_)
    refine ij ⟨_,rfl,?_⟩
    refine ac (fun e=>?_) (fun e=>hJ _ _ q' X M m o (d.more (by omega)) (by omega) K9.tl)
    repeat' (refine kr_ ?_)
    refine ij ⟨_,rfl,?_⟩
    refine⟨b14,0,rfl,by omega,by dsimp only;omega,?_⟩
    repeat' (refine kr_ ?_)
    obtain⟨nm,hnm,hsz⟩:=ac9 hi4
    refine⟨nm,by rw [aq (K9.at (.tail _ (.head _))),Int.toNat_natCast,Nat.zero_add,Nat.mul_one];exact hnm,?_⟩
    refine Kn.al K9 fun b86 h10 K10 l10 hb86=>?_
    repeat' (refine kr_ ?_)
    refine ll (H:=_::_::_::_::_::A) (nd:=⟨36,0,0,0,0,0,⟨a,w⟩,nm⟩) o K10 (by omega) (.tail _ (.tail _ (.tail _ (.head _)))) fun s' X9 h11 o9 KF=>?_
    have K11:=KF _ (by((focus ((repeat first|exact .head|apply Upd.tail);done))))
    simp only [List.cons_append]at K11
    exact hJ _ h11 q' X9 _ _ o9 (d.addN (xW a1 a2 w1 w2) hsz) (by omega) K11.tl
   ·refine ac (fun e=>?_) (fun e=>?_)
    ·refine kp_ ?_
     intro x59 h9 K9 hx59 _
     refine⟨_,rfl,?_⟩
     refine kp_ ?_
     intro x62 h10 K10 hx62 _
     refine⟨_,rfl,?_⟩
     replace hx59:x59<2:=by have:=hx59 (by omega);omega
     replace hx62:x62<2:=by have:=hx62 (by omega);omega
     clear K9 K8
     refine kw_ ?_
     intro h11 K11 _
     refine hJ (W (1+(x59:Int))) (W (1+(x62:Int))) h11 _ ?_ ?_ ?_ ?_ ?_ K11
     ·rw [bU (by omega) (by omega)];omega
     ·rw [bU (by omega) (by omega)];omega
     ·rw [bU (by omega) (by omega)];omega
     ·rw [bU (by omega) (by omega)];omega
     ·omega
    ·refine hJ 0 (W (1+(x45:Int))) h8 _ (by omega) (by omega) ?_ ?_ ?_ K8
     ·rw [bU (by omega) (by omega)];omega
     ·rw [bU (by omega) (by omega)];omega
     ·omega
 refine aE (by rw [decide_eq_false_iff_not];omega) ?_
 clear hnx
 (refine kr_ ?_)
 refine ap (fun J=> ∀h5 X M m,MG X M m->DM m 4->0<m.nodes.length->Kn g h5 ((b14, .inl ⟨[.string ⟨#[120]⟩, .string ⟨#[121]⟩, .string ⟨#[122]⟩, .string ⟨#[109,101,109]⟩],4,false⟩)::(b11, .inl ⟨df,5,false⟩)::(b9, .inl ⟨aw M,5,false⟩)::(B,rdC s q)::(A++X))->J h5)
  (fun h5 X1 M1 m1 o1 d1 hpos K5=>?_) (fun J hJ=>?_)
 rotate_left
 ·refine ac (fun e=>?_) (fun e=>?_)
  ·(refine kr_ ?_)
   refine ce ⟨_,_,rfl,?_⟩
   repeat' (refine kr_ ?_)
   refine Kn.al K4 fun b109 h5 K5 l5 hb109=>?_
   repeat' (refine kr_ ?_)
   refine ll (H:=_::_::_::_::A) (nd:=⟨36,0,0,0,0,0,⟨0,2⟩,⟨#[120]⟩⟩) o K5 (by omega) (.tail _ (.tail _ (.head _))) fun s' X9 h11 o9 KF=>?_
   have K11:=KF _ (by((focus ((repeat first|exact .head|apply Upd.tail);done))))
   simp only [List.cons_append]at K11
   have hl9:=o9.lens
   exact hJ h11 X9 _ _ o9 ((d.addN (n:=⟨36,0,0,0,0,0,⟨0,2⟩,⟨#[120]⟩⟩) rfl (show (1:Nat)<=100 by omega)).more (by omega)) (by simp) K11
  ·have:m.nodes.length≠0:=fun q=>by rw [show M.no.n=0 by omega]at e;simp at e
   exact hJ h4 X M m o (d.more (by omega)) (by omega) K4
 clear K4 hdn hl d o h4
 refine kp_ ?_
 intro x122 h6 K6 hx122 _
 refine⟨_,rfl,?_⟩
 replace hx122:x122<3:=by have:=hx122 (by omega);omega
 refine av x122 (fun i vs h'=> ∃(q:Nat) (X:List (Nat×Blk)) (M:MSl) (m:ah),vs= [.pointer (some ⟨B,0,none⟩), .pointer (some ⟨b9,0,none⟩), .pointer (some ⟨b11,0,none⟩),I x122,I i]/\
  MG X M m/\DM m (4+i)/\0<m.nodes.length/\q<=p+20+i/\Kn g h' ((b14, .inl ⟨[.string ⟨#[120]⟩, .string ⟨#[121]⟩, .string ⟨#[122]⟩, .string ⟨#[109,101,109]⟩],4,false⟩)::(b11, .inl ⟨df,5,false⟩)::(b9, .inl ⟨aw M,5,false⟩)::(B,rdC s q)::(A++X)))
  ⟨q+1,X1,M1,m1,rfl,o1,d1,hpos,by omega,K6⟩ ?_
 clear K6 K5 hpos d1 o1 hq q m1 M1 X1 h5 h6 m M X
 rintro j _ h4 nxt hj ⟨q,X,M,m,rfl,o,d,hpos,hq,K4⟩ hnx
 refine⟨_,b9,0,b11,0,_,_,rfl,?_⟩
 have hl:=o.lens
 have hdn:=d.nodes
 by_cases hlt:j<x122
 ·refine aM (by rw [decide_eq_true_eq];omega) ?_
  have hj2:j<2:=by omega
  refine ap (fun J=> ∀h5 q X M m,MG X M m->DM m (4+j+1)->0<m.nodes.length->q<=p+20+(j+1)->Kn g h5 ((b14, .inl ⟨[.string ⟨#[120]⟩, .string ⟨#[121]⟩, .string ⟨#[122]⟩, .string ⟨#[109,101,109]⟩],4,false⟩)::(b11, .inl ⟨df,5,false⟩)::(b9, .inl ⟨aw M,5,false⟩)::(B,rdC s q)::(A++X))->J h5)
   (fun h5 q X M m o d hpos hq K5=>?_) (fun J hJ=>?_)
  ·rw [aC (by omega)]
   exact hnx hlt _ _ ⟨q,X,M,m,rfl,o,d,hpos,hq,K5⟩
  obtain⟨nm,hnm,hsz⟩:=ac1 hj2
  have fin: ∀(x bn bg:Nat) (h8:Hp),x<2->Kn g h8 ((bn, .inl ⟨[I 35,I 0,I 0,I 0,I 0,I 0,I 0,I (W (1+(x:Int))), .string nm],9,false⟩)::(bg, .inl ⟨[.string ⟨#[103,111]⟩, .string ⟨#[105,110]⟩],2,false⟩)::(b14, .inl ⟨[.string ⟨#[120]⟩, .string ⟨#[121]⟩, .string ⟨#[122]⟩, .string ⟨#[109,101,109]⟩],4,false⟩)::
    (b11, .inl ⟨df,5,false⟩)::(b9, .inl ⟨aw M,5,false⟩)::(B,rdC s (q+1))::(A++X))->
    co h8 M.no.a M.no.n M.no.c (some (Addr.mk bn 0 none)) 1 9 80 fun a92 n93 k94 h95=> ∃(cs96:List Value) (z97:Nat),h95 b9=some (.inl ⟨cs96,z97,false⟩)/\0+1<=List.length cs96/\cA (h95.row b9 (cz cs96 0 [(.slice a92 n93 k94)]) z97) fun h148=>J h148:=by
   intro x bn bg h8 hx K8
   refine ll (H:=_::_::_::_::_::A) (nd:=⟨35,0,0,0,0,0,⟨0,W (1+(x:Int))⟩,nm⟩) o K8 (by omega) (.tail _ (.tail _ (.tail _ (.head _)))) fun s' X9 h9 o9 KF=>?_
   have K9:=KF _ (by((focus ((repeat first|exact .head|apply Upd.tail);done))))
   simp only [List.cons_append]at K9
   exact hJ h9 (q+1) X9 _ _ o9 (d.addN (xW (by omega) (by omega) (by rw [bU (by omega) (by omega)];omega) (by rw [bU (by omega) (by omega)];omega)) hsz) (by simp) (by omega) K9.tl
  have rd: ∀{h':Hp} {L:List (Nat×Blk)} {bg:Nat} {Q:ByteArray->Prop},Kn g h' ((bg, .inl ⟨[.string ⟨#[103,111]⟩, .string ⟨#[105,110]⟩],2,false⟩)::L)->Q nm-> ∃y:ByteArray,Hp.cell h' bg (0+Int.toNat (j:Int)*1)=some (.string y)/\Q y:=fun K' q=>⟨nm,by rw [aq (K'.at (.head _)),Int.toNat_natCast,Nat.zero_add,Nat.mul_one];exact hnm,q⟩
  (refine kr_ ?_)
  refine⟨?_,?_⟩
  ·refine kp_ ?_
   intro x h5 K5 hx _
   refine⟨_,rfl,?_⟩
   replace hx:x<2:=by have:=hx (by omega);omega
   repeat' (refine kr_ ?_)
   refine⟨?_,?_⟩
   ·refine ce ⟨_,_,rfl,?_⟩
    repeat' (refine kr_ ?_)
    refine Kn.al K5 fun bg h6 K6 l6 hbg=>?_
    repeat' (refine kr_ ?_)
    refine⟨by omega,by omega,?_⟩
    refine rd K6 ?_
    refine Kn.al K6 fun bn h7 K7 l7 hbn=>?_
    repeat' (refine kr_ ?_)
    exact fin x bn bg h7 hx K7
   ·refine Kn.al K5 fun bg h6 K6 l6 hbg=>?_
    repeat' (refine kr_ ?_)
    refine⟨by omega,by omega,?_⟩
    refine rd K6 ?_
    refine ce ⟨_,_,rfl,?_⟩
    repeat' (refine kr_ ?_)
    refine Kn.al K6 fun bn h7 K7 l7 hbn=>?_
    repeat' (refine kr_ ?_)
    exact fin x bn bg h7 hx K7
  ·refine Kn.al K4 fun bg h5 K5 l5 hbg=>?_
   repeat' (refine kr_ ?_)
   refine⟨by omega,by omega,?_⟩
   refine rd K5 ?_
   refine kp_ ?_
   intro x h6 K6 hx _
   refine⟨_,rfl,?_⟩
   replace hx:x<2:=by have:=hx (by omega);omega
   repeat' (refine kr_ ?_)
   refine ce ⟨_,_,rfl,?_⟩
   repeat' (refine kr_ ?_)
   refine Kn.al K6 fun bn h7 K7 l7 hbn=>?_
   repeat' (refine kr_ ?_)
   exact fin x bn bg h7 hx K7
 refine aE (by rw [decide_eq_false_iff_not];omega) ?_
 clear hnx
 refine kp_ ?_
 intro x205 h6 K6 hx205 _
 refine⟨_,rfl,?_⟩
 replace hx205:x205<3:=by have:=hx205 (by omega);omega
 rw [show W (1+(x205:Int))=((1+x205:Nat):Int) by rw [bU (by omega) (by omega)];omega]
 refine av (1+x205) (fun i vs h'=> ∃(q:Nat) (X:List (Nat×Blk)) (M:MSl) (m:ah),vs= [.pointer (some ⟨B,0,none⟩), .pointer (some ⟨b9,0,none⟩), .pointer (some ⟨b11,0,none⟩),I (1+x205:Nat),I i]/\
  MG X M m/\DM m (6+i)/\0<m.nodes.length/\q<=p+30+2*i/\Kn g h' ((b14, .inl ⟨[.string ⟨#[120]⟩, .string ⟨#[121]⟩, .string ⟨#[122]⟩, .string ⟨#[109,101,109]⟩],4,false⟩)::(b11, .inl ⟨df,5,false⟩)::(b9, .inl ⟨aw M,5,false⟩)::(B,rdC s q)::(A++X)))
  ⟨q+1,X,M,m,rfl,o,d.more (by omega),hpos,by omega,K6⟩ ?_
 clear K6 K4 hpos d o hl hdn hq q m M X h4 h6
 rintro i _ h4 nxt hi ⟨q,X,M,m,rfl,o,d,hpos,hq,K4⟩ hnx
 refine⟨_,b9,0,b11,0,_,_,rfl,?_⟩
 have hl:=o.lens
 have hdn:=d.nodes
 by_cases hlt:i<1+x205
 rotate_left
 ·refine aE (by rw [decide_eq_false_iff_not];omega) ?_
  repeat' (refine kr_ ?_)
  refine DN K4 (by((focus ((repeat first|exact .head|apply Upd.tail);done)))) fun h6 K6=>?_
  exact k h6 q X M m K6.tl.tl.tl o (d.more (by omega)) hpos (by omega)
 refine aM (by rw [decide_eq_true_eq];omega) ?_
 refine ap (fun J=> ∀h5 q X M m,MG X M m->DM m (6+i+1)->0<m.nodes.length->q<=p+30+2*(i+1)->Kn g h5 ((b14, .inl ⟨[.string ⟨#[120]⟩, .string ⟨#[121]⟩, .string ⟨#[122]⟩, .string ⟨#[109,101,109]⟩],4,false⟩)::(b11, .inl ⟨df,5,false⟩)::(b9, .inl ⟨aw M,5,false⟩)::(B,rdC s q)::(A++X))->J h5)
  (fun h5 q X M m o d hpos hq K5=>?_) (fun J hJ=>?_)
 ·rw [aC (by omega)]
  exact hnx hlt _ _ ⟨q,X,M,m,rfl,o,d,hpos,hq,K5⟩
 refine kp_ ?_
 intro w h5 K5 hw _
 refine⟨_,rfl,?_⟩
 replace hw:w<4:=by have:=hw (by omega);omega
 have hp2:0<2^(1+w):=Nat.two_pow_pos _
 rw [show W (1+(w:Int))=((1+w:Nat):Int) by rw [bU (by omega) (by omega)];omega]
 have fin: ∀(y bn:Nat) (h8:Hp),Kn g h8 ((bn, .inl ⟨[I 34,I 0,I 0,I 0,I (Int.tmod y (2^(1+w):Nat)),I 0,I 0,I (1+w:Nat), .string ⟨#[]⟩],9,false⟩)::(b14, .inl ⟨[.string ⟨#[120]⟩, .string ⟨#[121]⟩, .string ⟨#[122]⟩, .string ⟨#[109,101,109]⟩],4,false⟩)::
   (b11, .inl ⟨df,5,false⟩)::(b9, .inl ⟨aw M,5,false⟩)::(B,rdC s (q+1+1))::(A++X))->
   co h8 M.no.a M.no.n M.no.c (some (Addr.mk bn 0 none)) 1 9 80 fun a92 n93 k94 h95=> ∃(cs96:List Value) (z97:Nat),h95 b9=some (.inl ⟨cs96,z97,false⟩)/\0+1<=List.length cs96/\cA (h95.row b9 (cz cs96 0 [(.slice a92 n93 k94)]) z97) fun h148=>J h148:=by
  intro y bn h8 K8
  refine ll (H:=_::_::_::_::A) (nd:=⟨34,0,0,0,Int.tmod y (2^(1+w):Nat),0,⟨0,(1+w:Nat)⟩,⟨#[]⟩⟩) o K8 (by omega) (.tail _ (.tail _ (.head _))) fun s' X9 h9 o9 KF=>?_
  have K9:=KF _ (by((focus ((repeat first|exact .head|apply Upd.tail);done))))
  simp only [List.cons_append]at K9
  exact hJ h9 _ X9 _ _ o9 (d.addN (xW (by omega) (by omega) (by omega) (by omega)) (show (0:Nat)<=100 by omega)) (by simp) (by omega) K9
 (refine kr_ ?_)
 refine⟨?_,?_⟩
 ·refine kp_ ?_
  intro y h6 K6 hy _
  refine⟨_,rfl,?_⟩
  repeat' (refine kr_ ?_)
  refine⟨?_,?_⟩
  ·repeat' (refine kr_ ?_)
   rw [cu (by omega),if_neg (by omega),bK (by omega),if_neg (by omega)]
   refine ce ⟨_,_,rfl,?_⟩
   repeat' (refine kr_ ?_)
   refine Kn.al K6 fun bn h7 K7 l7 hbn=>?_
   repeat' (refine kr_ ?_)
   exact fin y bn h7 K7
  ·refine ce ⟨_,_,rfl,?_⟩
   repeat' (refine kr_ ?_)
   rw [cu (by omega),if_neg (by omega),bK (by omega),if_neg (by omega)]
   refine Kn.al K6 fun bn h7 K7 l7 hbn=>?_
   repeat' (refine kr_ ?_)
   exact fin y bn h7 K7
 ·repeat' (refine kr_ ?_)
  rw [cu (by omega),if_neg (by omega),bK (by omega)]
  refine kp_ ?_
  intro y h6 K6 hy _
  refine⟨_,rfl,?_⟩
  repeat' (refine kr_ ?_)
  rw [if_neg (by omega)]
  refine ce ⟨_,_,rfl,?_⟩
  repeat' (refine kr_ ?_)
  refine Kn.al K6 fun bn h7 K7 l7 hbn=>?_
  repeat' (refine kr_ ?_)
  exact fin y bn h7 K7
end Go.Lead
