/- What functions of the program and of the reference come to, walked one by one, and plain laws about it: part 5. No condition is added to the statement. -/
import Derived.Test.YthfcbpocfmjefaaGreatZ3
namespace Go.Lead
open Go
set_option linter.unusedSimpArgs false
set_option linter.unusedVariables false
set_option maxRecDepth 100000
set_option maxHeartbeats 1000000
theorem bT.one {X:List (Nat×Blk)} {s:Sl} {sz:Nat} {cs:List Value} (o:bT X s sz cs) (hn:s.n≠0): ∃b,s.a=some ⟨b,0,none⟩/\X= [(b, .inl ⟨cs,s.c*sz,false⟩)]:=by
 rcases o.2.2 with ⟨_,rfl,_⟩|h
 ·exact absurd rfl hn
 ·exact h
theorem Kn.ints {g h:Hp} {L:List (Nat×Blk)} {s:Sl} {b z:Nat} {ro:Bool} {xs:List Int} (K:Kn g h L) (m:(b, .inl ⟨xs.map I,z,ro⟩)∈L) (ha:s.a=some ⟨b,0,none⟩) (hn:xs.length=s.n) (hl:s.n<=1000000):IntS h s xs:=
 ⟨by omega,by rw [List.length_map,Nat.mul_one];exact hn, .inr ⟨b,0,ha,aw (K.at m)⟩⟩
theorem ii (a b:Sl):xX [a.v,b.v]:=yC [a,b]
abbrev TrR (g:Hp) (R:Value->Hp->Prop):Prop:= ∀tS tI us vs h',g.le h'->IntS h' tS us->IntS h' tI vs->tS.n<=tS.c->tI.n<=tI.c->us.length<=400->vs.length<=400->R (.agg #[Sl.v tS,Sl.v tI]) h'
set_option maxHeartbeats 4000000 in
theorem OJ {g h:Hp} {B p:Nat} {s sS sI:Sl} {bs:List Nat} {XS XI:List (Nat×Blk)} {xs ys:List Int} {R:Value->Hp->Prop} (hb:ByteS g s bs) (K:Kn g h ((B,rdC s p)::(XS++(XI++ []))))
  (oS:bT XS sS 1 (xs.map I)) (oI:bT XI sI 1 (ys.map I)) (hl:ys.length=xs.length) (hn:xs.length<=302) (hp:p<=500000) (k:TrR g R):mz #[.pointer (some ⟨B,0,none⟩), .agg #[sS.v,sI.v]] h R:=by
 apply Fs
 refine uf_ ?_
 have nS:=oS.1
 have nI:=oI.1
 have cS:=oS.2.1
 have cI:=oI.2.1
 rw [List.length_map,Nat.mul_one]at nS nI
 refine Kn.al K fun b5 h1 K1 l1 hb5=>?_
 refine Kn.al K1 fun b7 h2 K2 l2 hb7=>?_
 clear K K1
 have leaf: ∀{tS tI:Sl} {us vs:List Int} {h':Hp} {L:List (Nat×Blk)},Kn g h' ((b7, .inl ⟨[(⟨none,0,0⟩:Sl).v,(⟨none,0,0⟩:Sl).v],2,false⟩)::(b5, .inl ⟨[tS.v,tI.v],2,false⟩)::L)->IntS h' tS us->IntS h' tI vs->tS.n<=tS.c->tI.n<=tI.c->us.length<=400->vs.length<=400->
   ∃s1:Sl,Hp.cell h' b5 0=some s1.v/\ ∃s2:Sl,Hp.cell h' b5 1=some s2.v/\ ∃(cs:List Value) (z:Nat),h' b7=some (.inl ⟨cs,z,false⟩)/\0+2<=cs.length/\cM (h'.row b7 (bX cs 0 [s1.v,s2.v]) z) fun h3=>
    ∃s3:Sl,Hp.cell h3 b7 0=some s3.v/\ ∃s4:Sl,Hp.cell h3 b7 1=some s4.v/\R (.agg #[s3.v,s4.v]) h3:=by
  intro tS tI us vs h' L K' iS iI c1 c2 n1 n2
  refine⟨tS,by rw [ax (K'.at (.tail _ (.head _)))];rfl,tI,by rw [ax (K'.at (.tail _ (.head _)))];rfl,?_⟩
  have f7:=K'.at (.head _)
  refine kw_ ?_
  intro h3 K3 kp
  refine⟨tS,by rw [ax (K3.at (.head _))];rfl,tI,by rw [ax (K3.at (.head _))];rfl,?_⟩
  exact k tS tI us vs h3 K3.le (iS.keepN f7 (ii _ _) kp) (iI.keepN f7 (ii _ _) kp) c1 c2 n1 n2
 refine ap (fun J=> ∀(c:Bool) h' p',(c=false->sS.n≠0)->p'<=p+1->Kn g h' ((b7, .inl ⟨[(⟨none,0,0⟩:Sl).v,(⟨none,0,0⟩:Sl).v],2,false⟩)::(b5, .inl ⟨[sS.v,sI.v],2,false⟩)::(B,rdC s p')::(XS++(XI++ [])))->J c h')
  (fun c h3 p' hc hp' K3=>?_) (fun J hJ=>?_)
 rotate_left
 ·repeat' (refine kr_ ?_)
  refine ad (fun e=>hJ true h2 p (fun e=>nomatch e) (by omega) K2) (fun e=>?_)
  have e':sS.n≠0:=by
   intro q
   rw [q]at e;exact absurd e (by decide)
  refine kp_ ?_
  intro z h3 K3 _ _
  exact⟨_,rfl,hJ _ h3 _ (fun _=>e') (Nat.le_refl _) K3⟩
 clear K2
 refine ad (fun e=>?_) (fun e=>?_)
 ·have iS:IntS h3 sS xs:=(oS.buf fun e he=>K3.mem e (by simp [he])).slc_of (by omega)
  have iI:IntS h3 sI ys:=(oI.buf fun e he=>K3.mem e (by simp [he])).slc_of (by omega)
  exact leaf K3 iS iI cS cI (by omega) (by omega)
 have hn0:=hc e
 clear e hc
 obtain⟨bS,aS,rfl⟩:=oS.one hn0
 obtain⟨bI,aI,rfl⟩:=oI.one (by omega)
 simp only [List.cons_append,List.nil_append]at K3
 have oS0:=oS
 have oI0:=oI
 repeat' (refine kr_ ?_)
 refine kp_ ?_
 intro x h4 K4 hx hx0
 replace hx:x<sS.n:=by have:=hx (by omega);omega
 clear hx0
 refine⟨_,rfl,?_⟩
 clear K3
 refine kp_ ?_
 intro y h5 K5 _ _
 refine⟨_,rfl,?_⟩
 clear K4
 refine ap (fun J=> ∀{tS tI:Sl} {us vs:List Int} {h':Hp} {L:List (Nat×Blk)},Kn g h' ((b7, .inl ⟨[(⟨none,0,0⟩:Sl).v,(⟨none,0,0⟩:Sl).v],2,false⟩)::(b5, .inl ⟨[tS.v,tI.v],2,false⟩)::L)->IntS h' tS us->IntS h' tI vs->tS.n<=tS.c->tI.n<=tI.c->us.length<=400->vs.length<=400->J b5 0 b7 0 h')
  (fun {tS tI us vs h' L} K' iS iI c1 c2 n1 n2=>leaf K' iS iI c1 c2 n1 n2) (fun J hJ=>?_)
 clear leaf
 have iS:IntS h5 sS xs:=K5.ints (.tail _ (.tail _ (.tail _ (.head _)))) aS (by omega) (by omega)
 have iI:IntS h5 sI ys:=K5.ints (.tail _ (.tail _ (.tail _ (.tail _ (.head _))))) aI (by omega) (by omega)
 have wrS: ∀{L L':List (Nat×Blk)} {h':Hp} {v:Int} {b:Nat} {c:Sl} {zs:List Int} {P:Hp->Prop},Kn g h' L->c.a=some ⟨b,0,none⟩->x<zs.length->zs.length=c.n->Upd L b (.inl ⟨zs.map I,c.c*1,false⟩) (.inl ⟨(zs.set x v).map I,c.c*1,false⟩) L'->(∀h'',Kn g h'' L'->P h'')->
   ∃b' o':Nat,c.a=some ⟨b',o',none⟩/\(0:Int)<=(x:Int)/\(x:Int)<((c.n:Nat):Int)/\ ∃(cs:List Value) (z:Nat),h' b'=some (.inl ⟨cs,z,false⟩)/\(o'+Int.toNat (x:Int)*1)+1<=cs.length/\cM (h'.row b' (bX cs (o'+Int.toNat (x:Int)*1) [I v]) z) P:=by
  intro L L' h' v b c zs P K' ha hx hz u kk
  refine⟨b,0,ha,by omega,by omega,?_⟩
  rw [show (0+Int.toNat (x:Int)*1)=x by simp]
  have u':Upd L b (.inl ⟨zs.map I,c.c*1,false⟩) (.inl ⟨bX (zs.map I) x [I v],c.c*1,false⟩) L':=by
   rw [bG,<-List.map_set];exact u
  exact K'.wr u' (by rw [List.length_map];omega) fun h'' K'' _=>kk h'' K''
 refine ad (fun e=>?_) (fun e=>?_)
 ·repeat' (refine kr_ ?_)
  refine kp_ ?_
  intro z h6 K6 _ _
  refine⟨_,rfl,?_⟩
  repeat' (refine kr_ ?_)
  clear K5
  refine wrS (zs:=xs) K6 aS (by omega) (by omega) (by((focus ((repeat first|exact .head|apply Upd.tail);done)))) fun h7 K7=>?_
  exact hJ (us:=xs.set x _) (vs:=ys) K7 (K7.ints (.tail _ (.tail _ (.tail _ (.head _)))) aS (by rw [List.length_set];omega) (by omega)) (K7.ints (.tail _ (.tail _ (.tail _ (.tail _ (.head _))))) aI (by omega) (by omega)) cS cI (by rw [List.length_set];omega) (by omega)
 clear e
 refine ad (fun e=>?_) (fun e=>?_)
 ·repeat' (refine kr_ ?_)
  refine kp_ ?_
  intro z h6 K6 _ _
  refine⟨_,rfl,?_⟩
  repeat' (refine kr_ ?_)
  clear K5
  have hx':x<sI.n:=by omega
  refine wrS (zs:=ys) K6 aI (by omega) (by omega) (by((focus ((repeat first|exact .head|apply Upd.tail);done)))) fun h7 K7=>?_
  exact hJ (us:=xs) (vs:=ys.set x _) K7 (K7.ints (.tail _ (.tail _ (.tail _ (.head _)))) aS (by omega) (by omega)) (K7.ints (.tail _ (.tail _ (.tail _ (.tail _ (.head _))))) aI (by rw [List.length_set];omega) (by omega)) cS cI (by omega) (by rw [List.length_set];omega)
 clear e wrS
 have f5:=K5.at (b:=b5) (.tail _ (.head _))
 refine ad (fun e=>?_) (fun e=>?_)
 ·(refine kr_ ?_)
  refine⟨by omega,by simp;omega,by simp;omega, .inr ⟨bS,0,aS,?_⟩⟩
  refine kw_ ?_
  intro h6 K6 kp
  have iS6:=iS.keepN f5 (ii _ _) kp
  have iI6:=iI.keepN f5 (ii _ _) kp
  refine hJ (tS:=⟨_,_,_⟩) (us:=xs.drop 1) K6 ?_ iI6 ?_ cI (by simp;omega) (by omega)
  ·refine⟨by simp;omega,by simp;omega, .inr ⟨bS,_,rfl,?_⟩⟩
   intro i v hv
   rw [List.getElem?_map,List.getElem?_drop,Option.map_eq_some_iff]at hv
   obtain⟨w,hw,rfl⟩:=hv
   have:=get_lt hw
   rw [if_neg (by simp;omega)]
   rw [ax (K6.at (b:=bS) (.tail _ (.tail _ (.tail _ (.head _)))))]
   simp only [Nat.zero_add,List.getElem?_map]
   rw [show Int.toNat 1*1+i=1+i by simp,hw];rfl
  ·simp;omega
 clear e
 refine ad (fun e=>?_) (fun e=>?_)
 ·have tk: ∀{c:Sl} {b:Nat} {zs:List Int} {h':Hp},IntS h' c zs->c.a=some ⟨b,0,none⟩->x<zs.length->zs.length<=302->IntS h' ⟨some ⟨b,(if c.c=Int.toNat (Int.ofNat 0)then 0 else 0+Int.toNat (Int.ofNat 0)*1),none⟩,Int.toNat (x:Int)-Int.toNat (Int.ofNat 0),c.c-Int.toNat (Int.ofNat 0)⟩ (zs.take x):=by
   intro c b zs h' hz ha hx hzl
   have e0:(if c.c=Int.toNat (Int.ofNat 0)then 0 else 0+Int.toNat (Int.ofNat 0)*1)=0:=by split<;>simp
   rw [e0]
   obtain⟨b',o',ha',hcc⟩:=SlC.get hz (by have:=hz.len;omega)
   rw [ha]at ha'
   cases ha'
   refine⟨by simp;omega,by simp;omega, .inr ⟨b,0,rfl,fun i v hv=>?_⟩⟩
   rw [List.map_take,List.getElem?_take]at hv
   split at hv
   ·exact hcc i v hv
   ·cases hv
  refine ap (fun J=> ∀{tS:Sl} {h':Hp} {L:List (Nat×Blk)},Kn g h' ((b7, .inl ⟨[(⟨none,0,0⟩:Sl).v,(⟨none,0,0⟩:Sl).v],2,false⟩)::(b5, .inl ⟨[tS.v,sI.v],2,false⟩)::L)->IntS h' tS (xs.take x)->IntS h' sI ys->tS.n<=tS.c->J h')
   (fun {tS h' L} K6 iS6 iI6 c1=>?_) (fun J88 hJ88=>?_)
  ·have g5:=K6.at (b:=b5) (.tail _ (.head _))
   clear K5
   (refine kr_ ?_)
   refine⟨by simp,by simp,by omega, .inr ⟨bI,0,aI,?_⟩⟩
   refine kw_ ?_
   intro h7 K7 kp
   exact hJ (tI:=⟨_,_,_⟩) K7 (iS6.keepN g5 (ii _ _) kp) (tk (iI6.keepN g5 (ii _ _) kp) aI (by omega) (by omega)) c1 (by simp;omega) (by simp;omega) (by simp;omega)
  ·(refine kr_ ?_)
   refine⟨by simp,by simp,by omega, .inr ⟨bS,0,aS,?_⟩⟩
   refine kw_ ?_
   intro h6 K6 kp
   exact hJ88 (tS:=⟨_,_,_⟩) K6 (tk (iS.keepN f5 (ii _ _) kp) aS (by omega) (by omega)) (iI.keepN f5 (ii _ _) kp) (by simp;omega)
 clear e
 refine ad (fun e=>?_) (fun e=>hJ K5 iS iI cS cI (by omega) (by omega))
 clear e f5 iS iI
 refine nr (303-xs.length) (fun m vs h'=> ∃(sS sI:Sl) (XS XI:List (Nat×Blk)) (xs ys:List Int) (q:Nat),vs= [.pointer (some ⟨B,0,none⟩), .pointer (some ⟨b5,0,none⟩), .pointer (some ⟨b7,0,none⟩)]/\
  Kn g h' ((b7, .inl ⟨[(⟨none,0,0⟩:Sl).v,(⟨none,0,0⟩:Sl).v],2,false⟩)::(b5, .inl ⟨[sS.v,sI.v],2,false⟩)::(B,rdC s q)::(XS++(XI++ [])))/\bT XS sS 1 (xs.map I)/\bT XI sI 1 (ys.map I)/\ys.length=xs.length/\xs.length≠0/\xs.length+m=303/\q+m<=600000)
  ⟨sS,sI,_,_,xs,ys,_,rfl,K5,oS0,oI0,hl,by omega,by omega,by omega⟩ ?_
 clear K5 oS0 oI0 oS oI nS nI cS cI hl hn hn0 hx aS aI xs ys sS sI
 rintro m _ h3 nxt ⟨sS,sI,XS,XI,xs,ys,q,rfl,K,oS,oI,hl,hn0,hm,hq⟩ hnx
 refine⟨_,b5,0,b7,0,rfl,?_⟩
 have nS:=oS.1
 have nI:=oI.1
 have cS:=oS.2.1
 have cI:=oI.2.1
 rw [List.length_map,Nat.mul_one]at nS nI
 repeat' (refine kr_ ?_)
 refine kp_ ?_
 intro z h4 K4 hz _
 replace hz:z<2:=by have:=hz (by omega);omega
 refine⟨_,rfl,?_⟩
 repeat' (refine kr_ ?_)
 clear K
 rw [cd (by omega) (by omega)]
 have mS: ∀{h':Hp} {A L:List (Nat×Blk)},Kn g h' (A++(XS++L))-> ∀e∈XS,h' e.1=some e.2:=fun K e he=>K.mem e (by simp [he])
 have iS:IntS h4 sS xs:=(oS.buf fun e he=>K4.mem e (by simp [he])).slc_of (by omega)
 have iI:IntS h4 sI ys:=(oI.buf fun e he=>K4.mem e (by simp [he])).slc_of (by omega)
 by_cases hlt:xs.length<301+z
 rotate_left
 ·refine aC (decide_eq_false (by omega)) ?_
  exact hJ K4 iS iI cS cI (by omega) (by omega)
 refine aM (decide_eq_true (by omega)) ?_
 obtain⟨x0,hx0⟩: ∃x0,xs[0]?=some x0:=⟨_,List.getElem?_eq_getElem (by omega)⟩
 obtain⟨y0,hy0⟩: ∃y0,ys[0]?=some y0:=⟨_,List.getElem?_eq_getElem (by omega)⟩
 repeat' (refine kr_ ?_)
 obtain⟨ba,oa,ha,hca⟩:=iS.get hx0
 refine⟨ba,oa,ha,by omega,by omega,_,hca,?_⟩
 refine Kn.al K4 fun b112 h5 K5 l5 hb112=>?_
 have f112:=K5.at (.head _)
 repeat' (refine kr_ ?_)
 refine Kn.growIn (A:= [_,_,_,_]) K5 oS (by omega) (by omega) (by omega) ⟨b112,0,rfl,aw f112⟩ rfl rfl fun sS' XS' h6 hnS oS' K6 l6=>?_
 simp only [List.cons_append,List.nil_append]at K6
 clear K5 l5 hb112 f112 K4 iS iI ha hca
 refine kw_ ?_
 intro h7 K7 _
 simp only [bG,List.set_cons_zero,List.set_cons_succ,Nat.zero_add,Nat.reduceAdd]at K7
 clear K6 l6
 have iI:IntS h7 sI ys:=(oI.buf fun e he=>K7.mem e (by simp [he])).slc_of (by omega)
 repeat' (refine kr_ ?_)
 obtain⟨ba,oa,ha,hca⟩:=iI.get hy0
 refine⟨ba,oa,ha,by omega,by omega,_,hca,?_⟩
 refine Kn.al K7 fun b127 h8 K8 l8 hb127=>?_
 have f127:=K8.at (.head _)
 repeat' (refine kr_ ?_)
 refine Kn.growIn2 (A:= [_,_,_,_,_]) K8 oI (by omega) (by omega) (by omega) ⟨b127,0,rfl,aw f127⟩ rfl rfl fun sI' XI' h9 hnI oI' K9 l9=>?_
 simp only [List.cons_append,List.nil_append]at K9
 clear K8 l8 hb127 f127 K7 iI ha hca
 refine kw_ ?_
 intro h10 K10 _
 simp only [bG,List.set_cons_zero,List.set_cons_succ,Nat.zero_add,Nat.reduceAdd]at K10
 clear K9 l9
 have nd:=K10.nd
 refine hnx (m-1) (by omega) _ _ ⟨sS',sI',XS',XI',xs++ [x0],ys++ [y0],q+1,rfl,?_,by rw [List.map_append];exact oS',by rw [List.map_append];exact oI',by simp;omega,by simp,by simp;omega,by omega⟩
 refine K10.sub (fun e he=> .tail _ (.tail _ he)) ?_
 simp only [List.map_cons,List.nodup_cons]at nd⊢
 exact nd.2.2
theorem Kn.cut {g h:Hp} {A L:List (Nat×Blk)} (K:Kn g h (A++L)): ∃g0,Kn g g0 A/\Kn g0 h L:=by
 have nd:=K.nd
 rw [List.map_append,List.nodup_append]at nd
 have KL:Kn g h L:=K.sub (fun e he=>List.mem_append_right _ he) nd.2.1
 refine⟨h.wo (L.map Prod.fst),⟨KL.leBase,fun e he=>?_,fun e he=>K.new e (List.mem_append_left _ he),nd.1⟩,KL.base⟩
 rw [vD fun hm=>nd.2.2 e.1 (List.mem_map.2 ⟨e,he,rfl⟩) e.1 hm rfl]
 exact K.mem e (List.mem_append_left _ he)
set_option maxHeartbeats 4000000 in
theorem JO {g h:Hp} {B p:Nat} {s:Sl} {bs:List Nat} {M:MSl} {m:ah} {R:Value->Hp->Prop} (hb:ByteS g s bs) (K:Kn g h [(B,rdC s p)]) (hs:aO g M m) (hm:bR m) (hp:p<=400000) (k:TrR g R):
  lC #[.pointer (some ⟨B,0,none⟩),aQ M] h R:=by
 apply DS
 refine uf_ ?_
 refine Kn.al K fun b8 h1 K1 l1 hb8=>?_
 refine Kn.al K1 fun b10 h2 K2 l2 hb10=>?_
 clear K K1 l1 l2 hb8 hb10
 have n10:=K2.new (b10,_) (.head _)
 have fin: ∀{g0 h':Hp} {uS uI:Sl} {us vs:List Int},g.le g0->g0 b10=some (.inl ⟨[(⟨none,0,0⟩:Sl).v,(⟨none,0,0⟩:Sl).v],2,false⟩)->g0.le h'->IntS h' uS us->IntS h' uI vs->uS.n<=uS.c->uI.n<=uI.c->us.length<=400->vs.length<=400->
   ∃(cs:List Value) (z:Nat),h' b10=some (.inl ⟨cs,z,false⟩)/\0+2<=cs.length/\cM (h'.row b10 (bX cs 0 [uS.v,uI.v]) z) fun h3=> ∃s3:Sl,Hp.cell h3 b10 0=some s3.v/\ ∃s4:Sl,Hp.cell h3 b10 1=some s4.v/\R (.agg #[s3.v,s4.v]) h3:=by
  intro g0 h' uS uI us vs lg f10 l i1 i2 c1 c2 n1 n2
  (with_reducible apply cC);(exact l _ _ f10);(exact Hp.le_trans lg l);(exact n10);(exact of_decide_eq_true rfl)
  intro h6 f6 kp l6
  exact⟨uS,by rw [ax f6];rfl,uI,by rw [ax f6];rfl,k uS uI us vs h6 l6 (i1.keepN (l _ _ f10) (ii _ _) kp) (i2.keepN (l _ _ f10) (ii _ _) kp) c1 c2 n1 n2⟩
 repeat' (refine kr_ ?_)
 refine cj (hs.mono K2.le) hm ⟨_,rfl,ad (fun e=>?_) (fun e=>?_)⟩
 ·refine Kn.al K2 fun b23 h3 K3 l3 hb23=>?_
  refine Kn.al K3 fun b25 h4 K4 l4 hb25=>?_
  clear K2 K3
  refine kw_ ?_
  intro h5 K5 _
  exact⟨⟨some ⟨b23,0,none⟩,1,1⟩,by rw [ax (K5.at (b:=b10) (.tail _ (.tail _ (.head _))))];rfl,⟨some ⟨b25,0,none⟩,1,1⟩,by rw [ax (K5.at (b:=b10) (.tail _ (.tail _ (.head _))))];rfl,
   k _ _ [0] [0] h5 K5.le (IntS.one (K5.at (.tail _ (.head _)))) (IntS.one (K5.at (.head _))) (Nat.le_refl _) (Nat.le_refl _) (by simp) (by simp)⟩
 have hc:=fZ e
 have gd:=cD hc
 have n8:=gd.n8
 have k5:=gd.k5
 have hp5:2^ak m.nodes 35<=2^5:=Nat.pow_le_pow_right (by omega) k5
 clear e
 repeat' (refine kr_ ?_)
 refine w9 (hs.mono K2.le) hm fun tS tI h3 t3=>⟨_,_,_,rfl,?_⟩
 have hlen:=PA m 256
 obtain⟨XS,XI,oS,oI,K3'⟩:=t3
 have K3:=K2.app K3'.le K3'.new K3'.mem K3'.nd
 simp only [List.cons_append,List.nil_append]at K3
 clear K3' K2
 generalize tR m 256=tl at*
 generalize wV m 256=tb
 refine Kn.al K3 fun b43 h4 K4 l4 hb43=>?_
 clear K3
 refine kw_ ?_
 intro h5 K5 _
 simp only [bX,List.set_cons_zero,List.set_cons_succ,Nat.zero_add,Nat.reduceAdd]at K5
 clear K4
 refine ap (fun J=> ∀(c:Bool) h' p',p'<=p+1->Kn g h' ((b43, .inl ⟨[tS.v,tI.v],2,false⟩)::(b10, .inl ⟨[(⟨none,0,0⟩:Sl).v,(⟨none,0,0⟩:Sl).v],2,false⟩)::(b8, .inl ⟨aH M,5,false⟩)::(B,rdC s p')::(XS++(XI++ [])))->J c h')
  (fun c h6 p6 hp6 K6=>?_) (fun J hJ=>?_)
 rotate_left
 ·refine ad (fun _=>?_) (fun _=>hJ false h5 p (by omega) K5)
  refine kp_ ?_
  intro z h6 K6 _ _
  exact⟨_,rfl,hJ _ h6 _ (Nat.le_refl _) K6⟩
 clear K5
 have lS:=oS.1
 have lI:=oI.1
 simp only [List.length_map,aX,Nat.mul_one]at lS lI
 refine ad (fun _=>?_) (fun _=>?_)
 ·repeat' (refine kr_ ?_)
  obtain⟨g0,KA,KL⟩:=Kn.cut (A:= [_,_,_]) K6
  refine OJ (hb.mono KA.le) KL oS oI (by simp [aX]) (by simp [aX];omega) (by omega) fun uS uI us vs h7 l7 i1 i2 c1 c2 n1 n2=>⟨_,_,rfl,?_⟩
  exact fin KA.le (KA.at (.tail _ (.head _))) l7 i1 i2 c1 c2 n1 n2
 replace K6:Kn g h6 ((b10, .inl ⟨[(⟨none,0,0⟩:Sl).v,(⟨none,0,0⟩:Sl).v],2,false⟩)::(b8, .inl ⟨aH M,5,false⟩)::(B,rdC s p6):: []):=K6.subl (List.Sublist.cons _ (List.Sublist.cons_cons _ (List.Sublist.cons_cons _ (List.Sublist.cons_cons _ (List.nil_sublist _)))))
 clear oS oI lS lI hlen
 repeat' (refine kr_ ?_)
 refine cJ (hs.mono K6.le) hm fun pt h7 l7 ip=>⟨_,rfl,?_⟩
 have K7:=K6.mono l7
 repeat' (refine kr_ ?_)
 refine yP (hs.mono K7.le) hm gd fun ot h8 l8 io=>⟨_,rfl,?_⟩
 have K8:=K7.mono l8
 repeat' (refine kr_ ?_)
 clear K7 K6
 refine qo (hs.mono K8.le) hm gd.ok (ip.mono l8) (bV gd 36) (ge gd 36) io (rU gd) (by rw [eM gd];omega) ⟨_,rfl,?_⟩
 generalize dX m.nodes (stP m) (fL m)=st0
 refine kp_ ?_
 intro z h9 K9 hz _
 replace hz:z<6:=by have:=hz (by omega);omega
 refine⟨_,rfl,?_⟩
 clear K8
 rw [cd (by omega) (by omega)]
 refine au (1+z) (fun i vs h'=> ∃(inS:Sl) (ins:List Int) (XL:List (Nat×Blk)) (q:Nat),vs= [.pointer (some ⟨B,0,none⟩), .pointer (some ⟨b8,0,none⟩), .pointer (some ⟨b10,0,none⟩),I st0,I (1+(z:Int)),inS.v,I (i:Nat)]/\
  Kn g h' ((b10, .inl ⟨[(⟨none,0,0⟩:Sl).v,(⟨none,0,0⟩:Sl).v],2,false⟩)::(b8, .inl ⟨aH M,5,false⟩)::(B,rdC s q)::(XL++ []))/\bT XL inS 1 (ins.map I)/\ins.length=i/\q<=p6+1+i)
  ⟨⟨none,0,0⟩, [], [],_,rfl,K9,cF 1,rfl,Nat.le_refl _⟩ ?_
 clear K9
 rintro i _ h7 next hi ⟨inS,ins,XL,q,rfl,K7,oL,hil,hq⟩ hnx
 refine⟨_,b8,0,b10,0,_,_,inS,_,rfl,?_⟩
 have lL:=oL.1
 simp only [List.length_map,Nat.mul_one]at lL
 by_cases hlt:i<1+z
 ·refine aM (by rw [decide_eq_true_eq];omega) ?_
  repeat' (refine kr_ ?_)
  refine ja (hs.mono K7.le) hm ⟨_,rfl,?_⟩
  rw [cX (by omega),if_neg (by omega),cw (by omega)]
  refine kp_ ?_
  intro y h8 K8 _ _
  refine⟨_,rfl,?_⟩
  clear K7
  refine Kn.al K8 fun b126 h9 K9 l9 hb126=>?_
  have f126:=K9.at (.head _)
  refine Kn.growIn (A:= [_,_,_,_]) K9 oL (by omega) (by omega) (by omega) ⟨b126,0,rfl,aw f126⟩ rfl rfl fun s' X' h10 hn' o' K10 l10=>?_
  rw [ay (by omega)]
  exact hnx hlt _ _ ⟨s',ins++ [(y:Int)],X',_,rfl,K10.tl,by rw [List.map_append];exact o',by simp;omega,by omega⟩
 refine aC (by rw [decide_eq_false_iff_not];omega) ?_
 clear hnx
 repeat' (refine kr_ ?_)
 have il:IntS h7 inS ins:=(oL.buf fun e he=>K7.mem e (by simp [he])).slc_of (by omega)
 refine D5 (hs.mono K7.le) hm il fun uS uI h8 t8=>⟨_,_,_,rfl,?_⟩
 have hrl:(A5 m st0 ins).length<=7:=by
  unfold A5
  split
  ·rw [RQ];omega
  ·exact Nat.zero_le _
 obtain⟨XS,XI,oS,oI,K8'⟩:=t8
 have K8:=K7.app K8'.le K8'.new K8'.mem K8'.nd
 simp only [List.cons_append,List.append_nil,List.append_assoc]at K8
 clear K8' K7
 generalize A5 m st0 ins=tl at*
 generalize Af m st0 ins=tb
 refine Kn.al K8 fun b144 h9 K9 l9 hb144=>?_
 clear K8
 refine kw_ ?_
 intro h10 K10 _
 simp only [bX,List.set_cons_zero,List.set_cons_succ,Nat.zero_add,Nat.reduceAdd]at K10
 clear K9 l9 hb144
 repeat' (refine kr_ ?_)
 have lS:=oS.1
 have lI:=oI.1
 simp only [List.length_map,aX,Nat.mul_one]at lS lI
 replace K10:Kn g h10 ((b144, .inl ⟨[uS.v,uI.v],2,false⟩)::(b10, .inl ⟨[(⟨none,0,0⟩:Sl).v,(⟨none,0,0⟩:Sl).v],2,false⟩)::(b8, .inl ⟨aH M,5,false⟩)::(B,rdC s q)::(XS++(XI++ []))):=by
  rw [List.append_nil]
  exact K10.subl (List.Sublist.cons_cons _ (List.Sublist.cons_cons _ (List.Sublist.cons_cons _ (List.Sublist.cons_cons _ (List.sublist_append_right _ _)))))
 obtain⟨g0,KA,KL⟩:=Kn.cut (A:= [_,_,_]) K10
 refine OJ (hb.mono KA.le) KL oS oI (by simp [aX]) (by simp [aX];omega) (by omega) fun wS wI us vs h11 l11 i1 i2 c1 c2 n1 n2=>⟨_,_,rfl,?_⟩
 exact fin KA.le (KA.at (.tail _ (.head _))) l11 i1 i2 c1 c2 n1 n2
theorem yJ (a b c d e:Sl):xX [a.v,b.v,c.v,d.v,e.v]:=yC [a,b,c,d,e]
theorem xa {m:ah} {xs ys:List Int} (h:dN m xs ys=0):pS m xs ys=true:=by
 unfold dN at h
 obtain⟨h1,_⟩:=lT (by decide) h
 rwa [Bool.not_eq_false]at h1
theorem nG (xs ys:List Int):(jm xs ys).length=xs.length:=by rw [List.length_map,List.length_range]
theorem rG {l:List (Nat×Nat)} {f:Nat×Nat->Nat} {i:Nat} {a:Nat×Nat} (h:l[i]?=some a):(VL (l.map f))[i]?=some ((f a:Nat):Int):=N9 (by rw [List.getElem?_map,h];rfl)
theorem Kn.weak {g g0 h:Hp} {L:List (Nat×Blk)} (K:Kn g0 h L) (l:g.le g0):Kn g h L:=⟨Hp.le_trans l K.le,K.mem,fun e he=>aG l (K.new e he),K.nd⟩
theorem Upd.back {L L':List (Nat×Blk)} {b:Nat} {x y:Blk} (u:Upd L b x y L'): ∀A:List (Nat×Blk),Upd (A++L) b x y (A++L'):=by
 intro A
 induction A with
 |nil=>exact u
 |cons e A ih=>exact .tail ih
theorem IntS.woN {h:Hp} {t:Sl} {xs:List Int} {L:List (Nat×Blk)} (e:IntS h t xs) (m: ∀x∈L,h x.1=some x.2) (hn: ∀x∈L,∃cs z ro,x.2= .inl ⟨cs,z,ro⟩/\xX cs):IntS (h.wo (L.map Prod.fst)) t xs:=by
 refine⟨e.1,e.2.1,?_⟩
 rcases e.2.2 with h0|⟨b,o,ha,hc⟩
 ·exact .inl h0
 by_cases hx:xs= []
 ·subst hx
  exact .inl (by have:=e.len;simpa using this)
 refine .inr ⟨b,o,ha,fun i v hv=>?_⟩
 have hne:b∉L.map Prod.fst:=by
  intro hm
  obtain⟨y,hy,rfl⟩:=List.mem_map.1 hm
  obtain⟨cs,z,ro,hr,hno⟩:=hn y hy
  have hb:=m y hy
  rw [hr]at hb
  obtain⟨x,xs',rfl⟩:=List.exists_cons_of_ne_nil hx
  have:=hc 0 (I x) rfl
  rw [ax hb]at this
  exact hno _ _ this
 have:=hc i v hv
 unfold Hp.cell at this⊢
 rw [vD hne];exact this
theorem Hl (n:Nat) (f:Nat->Bool):xX ((List.range n).map fun c=> .bool (f c)):=by
 intro j i h
 rw [List.getElem?_map,Option.map_eq_some_iff]at h
 obtain⟨x,_,e⟩:=h
 cases e
theorem si {α:Type} {l:List α} {i:Nat} {x:α} (h:l[i]?=some x):l.take (i+1)=l.take i++ [x]:=by rw [List.take_add_one,h];rfl
inductive kY (m:ah):Nat->Prop
 |bad {p:Int}:p∈m.bads->kY m p.toNat
 |hold {p:Int}:p∈m.holds->kY m p.toNat
 |part {a b:Nat} {n:NodeP}:kY m a->m.nodes[a]?=some n->b∈dM n->kY m b
 |ini {a:Nat} {b:BindP}:kY m a->b∈m.inits->b.state=(a:Int)->kY m b.node.toNat
 |nex {a:Nat} {b:BindP}:kY m a->b∈m.nexts->b.state=(a:Int)->kY m b.node.toNat
noncomputable def cP (m:ah) (i:Nat):Bool:= @decide (kY m i) (Classical.propDecidable _)
theorem fe {m:ah} {i:Nat}:cP m i=true↔kY m i:=by
 unfold cP;exact @decide_eq_true_iff _ (Classical.propDecidable _)
theorem zh {m:ah} (g:cr m) {i:Nat} (h:kY m i):i<m.nodes.length:=by
 have pl: ∀{p:Int},cT m.nodes p=true->p.toNat<m.nodes.length:=fun hp=>by have:=eF hp;omega
 have pr: ∀{p:Int},da m.nodes p=true->p.toNat<m.nodes.length:=fun hp=>by
  unfold da at hp
  exact pl (Bool.and_eq_true_iff.1 hp).1
 cases h with
 |bad h=>exact pr (g.bad _ h)
 |hold h=>exact pr (g.hol _ h)
 |part ha hn hb=>
  have:=(dH g.ok _ _ hn).2 _ hb
  have:=get_lt hn
  omega
 |ini ha hb e=>exact pl (eR (g.ini _ hb)).2.1
 |nex ha hb e=>exact pl (dm (g.nex _ hb)).2.1
def I4 (l:List NodeP) (f:Nat->Bool):Prop:= ∀(a b:Nat) (n:NodeP),f a=true->l[a]?=some n->b∈dM n->f b=true
def IE (m:ah) (f:Nat->Bool) (a:Nat):Prop:=f a=true->(∀b∈m.inits,b.state=(a:Int)->f b.node.toNat=true)/\ ∀b∈m.nexts,b.state=(a:Int)->f b.node.toNat=true
theorem abF {m:ah} {f:Nat->Bool} (h1: ∀p∈m.bads,f p.toNat=true) (h2: ∀p∈m.holds,f p.toNat=true) (h3:I4 m.nodes f) (h4: ∀a,IE m f a) {i:Nat} (h:kY m i):f i=true:=by
 induction h with
 |bad h=>exact h1 _ h
 |hold h=>exact h2 _ h
 |part ha hn hb ih=>exact h3 _ _ _ ih hn hb
 |ini ha hb e ih=>exact(h4 _ ih).1 _ hb e
 |nex ha hb e ih=>exact(h4 _ ih).2 _ hb e
theorem WN {m:ah} {f:Nat->Bool} (h1: ∀p∈m.bads,f p.toNat=true) (h2: ∀p∈m.holds,f p.toNat=true) (h3:I4 m.nodes f) (h4: ∀a,IE m f a) (h5: ∀i,f i=true->kY m i):f=cP m:=by
 funext i
 have a:= @abF m f h1 h2 h3 h4 i
 have b:=h5 i
 cases h:f i
 ·symm
  rw [Bool.eq_false_iff]
  intro e
  rw [a (fe.1 e)]at h;cases h
 ·exact(fe.2 (b h)).symm
def Ae (l:List NodeP) (a:Nat):Nat->Bool:=kl l (a+1) fun j=>decide (j=a)
theorem RL {l:List NodeP}: ∀{i:Nat} {S:Nat->Bool} {j:Nat},S j=true->kl l i S j=true:=by
 intro i
 induction i with
 |zero=>intro S j h;exact h
 |succ i ih=>
  intro S j h
  simp only [kl]
  refine ih ?_
  split
  ·show (S j||_)=true
   rw [h,Bool.true_or]
  ·exact h
theorem Pw {l:List NodeP} (ha:Ep l): ∀{i:Nat} {S:Nat->Bool} {j:Nat},i<=j->kl l i S j=S j:=by
 intro i
 induction i with
 |zero=>intro S j _;rfl
 |succ i ih=>
  intro S j h
  simp only [kl]
  rw [ih (by omega)]
  split
  ·have:(match l[i]? with|some n=>(dM n).contains j|none=>false)=false:=by
    cases hn:l[i]? with
    |none=>rfl
    |some n=>
     show (dM n).contains j=false
     rw [Bool.eq_false_iff]
     intro hc
     have:=(ha i n hn).2 j (by simpa using hc)
     omega
   show (S j||(match l[i]? with|some n=>(dM n).contains j|none=>false))=S j
   rw [this,Bool.or_false]
  ·rfl
theorem T9 {l:List NodeP} (ha:Ep l): ∀{i:Nat} {S:Nat->Bool} {k b:Nat} {n:NodeP},k<i->kl l i S k=true->l[k]?=some n->b∈dM n->kl l i S b=true:=by
 intro i
 induction i with
 |zero=>intro S k b n h;omega
 |succ i ih=>
  intro S k b n h hk hn hb
  simp only [kl]at hk⊢
  by_cases e:k=i
  ·subst e
   rw [Pw ha (Nat.le_refl _)]at hk
   by_cases hS:S k=true
   ·rw [if_pos hS]
    refine RL ?_
    simp [hn,hb]
   ·rw [if_neg hS]at hk
    exact absurd hk hS
  ·exact ih (by omega) hk hn hb
theorem abI {l:List NodeP} {P:Nat->Prop} (hP: ∀(i b:Nat) (n:NodeP),P i->l[i]?=some n->b∈dM n->P b): ∀{i:Nat} {S:Nat->Bool},(∀j,S j=true->P j)-> ∀j,kl l i S j=true->P j:=by
 intro i
 induction i with
 |zero=>intro S h j hj;exact h j hj
 |succ i ih=>
  intro S h j hj
  simp only [kl]at hj
  refine ih ?_ j hj
  intro q hq
  by_cases hS:S i=true
  ·rw [if_pos hS]at hq
   rcases Bool.or_eq_true_iff.1 hq with hq|hq
   ·exact h q hq
   ·cases hn:l[i]? with
    |none=>rw [hn]at hq;cases hq
    |some n=>
     rw [hn]at hq
     exact hP i q n (h i hS) hn (by simpa using hq)
  ·rw [if_neg hS]at hq
   exact h q hq
theorem yM (l:List NodeP) (a:Nat):Ae l a a=true:=RL (by simp)
theorem Ts {l:List NodeP} (ha:Ep l) {a j:Nat} (h:Ae l a j=true):j<=a:=by
 refine Classical.byContradiction fun hc=>?_
 unfold Ae at h
 rw [Pw ha (by omega)]at h
 simp at h;omega
theorem Sc {l:List NodeP} (ha:Ep l) (a:Nat):I4 l (Ae l a):=fun k b n hk hn hb=>T9 ha (by have:=Ts ha hk;omega) hk hn hb
theorem Ve {m:ah} {a:Nat} (h:kY m a) {j:Nat} (hj:Ae m.nodes a j=true):kY m j:=
 abI (P:=kY m) (fun i b n hi hn hb=> .part hi hn hb) (fun j hj=>by rw [decide_eq_true_eq]at hj;rw [hj];exact h) j hj
def pe (f:Nat->Bool):Nat->Nat
 |0=>0
 |n+1=>pe f n+(if f n then 0 else 1)
theorem ve {f f':Nat->Bool} (h: ∀j,f j=true->f' j=true): ∀n,pe f' n<=pe f n:=by
 intro n
 induction n with
 |zero=>exact Nat.le_refl _
 |succ n ih=>
  unfold pe
  by_cases e:f n=true
  ·rw [if_pos e,if_pos (h n e)];omega
  ·rw [if_neg e];split<;>omega
theorem Lo {f f':Nat->Bool} (h: ∀j,f j=true->f' j=true) {k:Nat} (h1:f k=false) (h2:f' k=true): ∀n,k<n->pe f' n<pe f n:=by
 intro n
 induction n with
 |zero=>intro hk;omega
 |succ n ih=>
  intro hk
  unfold pe
  by_cases e:k=n
  ·subst e
   have:=ve h k
   rw [if_pos h2,if_neg (by rw [h1];decide)];omega
  ·have:=ih (by omega)
   by_cases e:f n=true
   ·rw [if_pos e,if_pos (h n e)];omega
   ·rw [if_neg e];split<;>omega
theorem US {h:Hp} {s:Sl} {l:List NodeP} {a:Nat} {R:Value->Hp->Prop} (hs:gy h s l) (hl:l.length<=1048576) (hok:bQ l=true) (hat:a<l.length)
  (k: ∀b5 h',h.le h'->h b5=none->h' b5=some (.inl ⟨mkC l.length (kl l (a+1) fun j=>decide (j=a)),l.length,false⟩)->R (Sl.v (arr b5 l.length)) h'):pd #[s.v,I a] h R:=by
 apply CY
 refine uf_ ?_
 have hn:=hs.len
 have hah:=dH hok
 obtain⟨F,hF⟩: ∃F,F=kl l (a+1) fun j=>decide (j=a):=⟨_,rfl⟩
 rw [<-hF]at k
 refine⟨by omega,by omega,by omega,by omega,?_⟩
 refine aj fun b5 h1 hb5 l1 f5=>?_
 rw [Int.toNat_natCast,Nat.mul_one,cE,BK]at f5
 refine⟨b5,0,rfl,by omega,by rw [Int.toNat_natCast];omega,?_⟩
 (with_reducible apply cC);(exact f5);(exact l1);(exact hb5);(rw [wG,Int.toNat_natCast];omega)
 intro h2 f5' kp l2
 simp only [vm]at f5'
 rw [bG,B2]at f5'
 clear kp f5 l1
 simp only [Int.toNat_natCast]
 refine nr (a+1) (fun i vs h'=> ∃S:Nat->Bool,vs= [s.v, .slice (some ⟨b5,0,none⟩) s.n s.n,I ((i:Int)-1)]/\h.le h'/\h' b5=some (.inl ⟨mkC s.n S,s.n,false⟩)/\i<=a+1/\
  kl l i S=F) ⟨fun j=>false||decide (j=a),?_,l2,f5',by omega,?_⟩ ?_
 ·rw [show (((a+1:Nat):Int)-1)=(a:Int) by omega]
 ·rw [hF];simp only [Bool.false_or]
 clear f5' l2 h1 h2
 rintro i _ h1 next ⟨S,rfl,l1,f5,hi,hd⟩ hnx
 refine⟨s,⟨some ⟨b5,0,none⟩,s.n,s.n⟩,_,rfl,?_⟩
 cases i with
 |zero=>
  refine aC (by simp) ?_
  have:=k b5 h1 l1 hb5 (by rw [<-hd,<-hn];exact f5)
  rw [<-hn]at this
  exact this
 |succ i=>
  have ei:(((i+1:Nat):Int)-1)=(i:Int):=by omega
  rw [ei]
  have wi:W ((i:Int)-1)=(i:Int)-1:=cd (by omega) (by omega)
  refine aM (by simp) ?_
  have ci:Hp.cell h1 b5 i=some (.bool (S i)):=by rw [ax f5];exact pL S (by omega)
  simp only [vm,ci]
  refine⟨by omega,?_⟩
  obtain⟨n,hni⟩: ∃n,l[i]?=some n:=⟨_,List.getElem?_eq_getElem (by omega)⟩
  have hf:=fS hok hni
  have hk:=fA hf
  have hk3:=iX n.kind
  simp only [kl]at hd
  refine ad (fun e=>?_) (fun e=>?_)
  ·rw [wi]
   refine hnx i (by omega) _ _ ⟨S,rfl,l1,f5,by omega,?_⟩
   rw [show S i=false by simpa using e]at hd
   simpa using hd
  ·have hS:S i=true:=by simpa using e
   rw [hS]at hd
   simp only [if_true,hni]at hd
   obtain⟨b,o,ha,c0,c1,c2,c3,_⟩:=(hs.mono l1).at hni
   refine⟨b,o,ha,by omega,b,o,ha,by omega,b,o,ha,by omega,_,c1,_,c2,_,c3,?_⟩
   refine aj fun b9 h2 hb9 l2 f9=>?_
   refine au (ai n.kind).toNat (fun q vs h'=>vs= [s.v, .slice (some ⟨b5,0,none⟩) s.n s.n,I i, .slice (some ⟨b9,0,none⟩) 3 3,I q]/\h.le h'/\
    h' b5=some (.inl ⟨mkC s.n (fun j=>S j||((dM n).take q).contains j),s.n,false⟩)/\h' b9=some (.inl ⟨[I n.a,I n.b,I n.c],3,false⟩)) ⟨rfl,Hp.le_trans l1 l2,?_,f9⟩ ?_
   ·simp only [List.take_zero,List.contains_nil,Bool.or_false];exact l2 _ _ f5
   have n9:b9≠b5:=(fresh_ne hb9 f5).symm
   rintro q _ h3 next2 hq ⟨rfl,l3,f5',f9'⟩ hnx2
   refine⟨s,⟨some ⟨b5,0,none⟩,s.n,s.n⟩,_,⟨some ⟨b9,0,none⟩,3,3⟩,_,rfl,?_⟩
   obtain⟨b',o',ha',c0',_⟩:=(hs.mono l3).at hni
   refine⟨b',o',ha',by omega,by omega,_,c0',lE ⟨_,rfl,?_⟩⟩
   by_cases hqlt:q<(ai n.kind).toNat
   ·have h3':q<3:=by omega
    refine aM (by simp;omega) ?_
    have hr:=iQ hf h3' (by omega)
    have cp:=nO f9' h3'
    refine⟨b9,0,rfl,by omega,by dsimp only;omega,_,by simpa using cp,b5,0,rfl,hr.1,by dsimp only;omega,?_⟩
    (with_reducible apply cC);(exact f5');(exact l3);(exact hb5);(rw [wG];omega)
    intro h4 f5'' kp l4
    simp only [vm]at f5''
    rw [bG,B2]at f5''
    rw [ay (by omega)]
    refine hnx2 hqlt _ _ ⟨rfl,l4,?_,cB kp n9 f9'⟩
    rw [f5'']
    congr 4
    funext j
    rw [List.take_add_one,GA hk hqlt]
    simp [Bool.or_assoc]
   ·have hqe:q=(ai n.kind).toNat:=by omega
    subst hqe
    refine aC (by simp;omega) ?_
    rw [wi]
    refine hnx i (by omega) _ _ ⟨_,rfl,l3,f5',by omega,?_⟩
    rw [List.take_of_length_le (by rw [DI hk];omega)]
    exact hd
theorem wP {g h:Hp} {M:MSl} {m:ah} {b a:Nat} {f:Nat->Bool} {R:Value->Hp->Prop} (hs:aO g M m) (hm:bR m) (gd:cr m)
  (K:Kn g h [(b, .inl ⟨mkC m.nodes.length f,m.nodes.length,false⟩)]) (ha:a<m.nodes.length)
  (k: ∀h' c,Kn g h' [(b, .inl ⟨mkC m.nodes.length (fun j=>f j||Ae m.nodes a j),m.nodes.length,false⟩)]->(c=false-> ∀j,Ae m.nodes a j=true->f j=true)->
   (c=true-> ∃j,j<m.nodes.length/\Ae m.nodes a j=true/\f j=false)->R (.bool c) h'):ma #[aQ M,(arr b m.nodes.length).v,I (a:Nat)] h R:=by
 apply M0
 refine uf_ ?_
 have hN:=hm.nodes
 have hd:=gd.nl
 refine Kn.al K fun b9 h1 K1 l1 hb9=>?_
 repeat' (refine kr_ ?_)
 refine US (hs.mono K1.le).nodes hm.nodes gd.ok ha fun b5 h2 l2 hb5 f5=>⟨_,rfl,?_⟩
 have K2:=(K1.tl).cons hb5 l2 f5
 clear K K1 f5 hb5 l2 hb9 l1
 have hle:=fun j (h:Ae m.nodes a j=true)=>Ts (dH gd.ok) h
 have eD:(kl m.nodes (a+1) fun j=>decide (j=a))=Ae m.nodes a:=rfl
 rw [eD]at K2
 generalize Ae m.nodes a=D at*
 generalize m.nodes.length=N at*
 refine au (a+1) (fun i vs h'=> ∃c:Bool,vs= [(arr b N).v,I (a:Nat),(arr b5 N).v, .bool c,I (i:Nat)]/\Kn g h' [(b5, .inl ⟨mkC N D,N,false⟩),(b, .inl ⟨mkC N (fun j=>f j||(decide (j<i)&&D j)),N,false⟩)]/\
  (c=false-> ∀j,j<i->D j=true->f j=true)/\(c=true-> ∃j,j<N/\D j=true/\f j=false))
  ⟨false,rfl,?_,fun _ j hj=>by omega,fun e=>nomatch e⟩ ?_
 ·have:(fun j=>f j||(decide (j<0)&&D j))=f:=by funext j;simp
  rw [this];exact K2
 clear K2 h2
 rintro i _ h3 next hi ⟨c,rfl,K3,q1,q2⟩ hnx
 refine⟨arr b N,_,arr b5 N,c,_,rfl,?_⟩
 by_cases hlt:i<a+1
 rotate_left
 ·refine aC (decide_eq_false (by omega)) (k h3 c ?_ (fun e j hj=>q1 e j (by have:=hle j hj;omega) hj) q2)
  have e:(fun j=>f j||(decide (j<i)&&D j))=fun j=>f j||D j:=by
   funext j
   cases hD:D j
   ·rw [Bool.and_false]
   ·rw [decide_eq_true (by have:=hle j hD;omega),Bool.true_and]
  rw [<-e];exact K3.tl
 refine aM (decide_eq_true (by omega)) ?_
 have f5:=K3.at (.head _)
 have fb:=K3.at (.tail _ (.head _))
 refine ap (fun J=>J (D i&& !f i)) (ad (fun e=>?_) (fun e=>?_)) (fun J hJ=>?_)
 ·rw [Bool.and_eq_true,Bool.not_eq_true']at e
  refine⟨b,0,rfl,by omega,by show _<(N:Int);omega,?_⟩
  clear f5 fb
  (((with_reducible apply Kn.wr);(assumption);((focus ((repeat first|exact .head|apply Upd.tail);done)))))
  ·rw [wG];omega
  intro h4 K4 _
  rw [show (0+Int.toNat (i:Int)*1)=i by simp,bG,B2]at K4
  rw [ay (by omega)]
  refine hnx hlt _ _ ⟨true,rfl,?_,(fun e=>nomatch e),fun _=>⟨i,by omega,e.1,e.2⟩⟩
  have e':(fun j=>(f j||(decide (j<i)&&D j))||decide (j=i))=fun j=>f j||(decide (j<i+1)&&D j):=by
   funext j
   by_cases q:j=i
   ·subst q;simp [e.1]
   ·rw [decide_eq_false q,Bool.or_false]
    by_cases q':j<i
    ·rw [decide_eq_true q',decide_eq_true (show j<i+1 by omega)]
    ·rw [decide_eq_false q',decide_eq_false (show¬j<i+1 by omega)]
  rw [<-e'];exact K4
 ·rw [ay (by omega)]
  have hfD:D i=true->f i=true:=fun h=>by
   rw [h,Bool.true_and]at e
   simpa using e
  refine hnx hlt _ _ ⟨c,rfl,?_,fun ec j hj hD=>?_,q2⟩
  ·have e':(fun j=>f j||(decide (j<i)&&D j))=fun j=>f j||(decide (j<i+1)&&D j):=by
    funext j
    by_cases q:j=i
    ·subst q
     cases hD:D j
     ·simp
     ·rw [hfD hD];simp
    ·by_cases q':j<i
     ·rw [decide_eq_true q',decide_eq_true (show j<i+1 by omega)]
     ·rw [decide_eq_false q',decide_eq_false (show¬j<i+1 by omega)]
   rw [<-e'];exact K3
  ·by_cases q:j=i
   ·subst q;exact hfD hD
   ·exact q1 ec j (by omega) hD
 ·refine⟨b5,0,rfl,by omega,by show _<(N:Int);omega,D i,by rw [ax f5,show (0+Int.toNat (i:Int)*1)=i by simp];exact pL D (by omega),?_⟩
  refine ad (fun e=>?_) (fun e=>?_)
  ·refine⟨b,0,rfl,by omega,by show _<(N:Int);omega,f i||(decide (i<i)&&D i),by rw [ax fb,show (0+Int.toNat (i:Int)*1)=i by simp];exact pL _ (by omega),?_⟩
   rw [decide_eq_false (Nat.lt_irrefl i),Bool.false_and,Bool.or_false]
   rw [e,Bool.true_and]at hJ
   exact hJ
  ·rw [e,Bool.false_and]at hJ
   exact hJ
def En (m:ah) (f:Nat->Bool):Prop:=I4 m.nodes f/\ ∀i,f i=true->kY m i
theorem En.join {m:ah} (gd:cr m) {f:Nat->Bool} (V0:En m f) {a:Nat} (ha:kY m a):En m fun j=>f j||Ae m.nodes a j:=by
 refine⟨fun k b n hk hn hb=>?_,fun i hi=>?_⟩
 ·rcases Bool.or_eq_true_iff.1 hk with hk|hk
  ·exact Bool.or_eq_true_iff.2 (.inl (V0.1 k b n hk hn hb))
  ·exact Bool.or_eq_true_iff.2 (.inr (Sc (dH gd.ok) a k b n hk hn hb))
 ·rcases Bool.or_eq_true_iff.1 hi with hi|hi
  ·exact V0.2 i hi
  ·exact Ve ha hi
theorem or_self {f D:Nat->Bool} (h: ∀j,D j=true->f j=true):(fun j=>f j||D j)=f:=by
 funext j
 cases hD:D j
 ·rw [Bool.or_false]
 ·rw [h j hD,Bool.true_or]
theorem BW {binds:List BindP} {a:Nat}:0<=ig binds a↔ ∃k:Nat,bO binds a=some k:=by
 unfold ig
 cases bO binds a with
 |none=>simp
 |some k=>simp
theorem VU {m:ah} {binds:List BindP} (ag:gO (binds.map (·.state))=false) {f:Nat->Bool} {a:Nat} (h: ∀k:Nat,bO binds a=some k->f k=true): ∀b∈binds,b.state=(a:Int)->f b.node.toNat=true:=
 fun b hb e=>h _ (Q8 ag hb e)
set_option maxHeartbeats 1000000 in
theorem BC {h:Hp} {M:MSl} {m:ah} {R:Value->Hp->Prop} (hs:aO h M m) (hm:bR m) (gd:cr m)
  (k: ∀h' b,Kn h h' [(b, .inl ⟨mkC m.nodes.length (cP m),m.nodes.length,false⟩)]->R (Sl.v (arr b m.nodes.length)) h'):sr #[aQ M] h R:=by
 apply MS
 refine uf_ ?_
 have hn:=hs.nodes.len
 have hN:=gd.nl
 (with_reducible apply Kn.al);(exact Kn.nil h);(intro b7 h1 K1 l1 hb7)
 repeat' (refine kr_ ?_)
 rw [hn]
 refine⟨by omega,by omega,by omega,by omega,?_⟩
 rw [Int.toNat_natCast,Nat.mul_one,cE,BK]
 refine Kn.al K1 fun b11 h2 K2 l2 hb11=>?_
 obtain⟨g0,KA,KL⟩:=Kn.cut (A:= [_]) (L:= [_]) K2.sw
 clear K1 K2 l1 l2 hb7 hb11
 have f7:=KA.at (.head _)
 have x7:=cf f7
 have hs0:=hs.mono KA.le
 have l00:=KA.le
 clear KA
 have lt_of: ∀{i:Nat},kY m i->i<m.nodes.length:=fun h=>zh gd h
 have hbn:=hs.bads.len
 have hhn:=hs.holds.len
 have hbl:=gd.bl
 have hhl:=gd.hl
 refine au m.bads.length (fun i vs h'=>vs= [.pointer (some ⟨b7,0,none⟩),(arr b11 m.nodes.length).v,I (i:Nat)]/\ ∃f,En m f/\(∀j p,j<i->m.bads[j]?=some p->f p.toNat=true)/\Kn g0 h' [(b11, .inl ⟨mkC m.nodes.length f,m.nodes.length,false⟩)])
  ⟨rfl,fun _=>false,⟨(fun _ _ _ e=>nomatch e),(fun _ e=>nomatch e)⟩,(fun j p hj=>by omega),KL⟩ ?_
 clear KL h1 h2
 rintro i _ h1 next hi ⟨rfl,f,V0,hb,K⟩ hnx
 refine⟨b7,0,_,_,rfl,?_⟩
 repeat' (refine kr_ ?_)
 by_cases hlt:i<m.bads.length
 ·refine aM (decide_eq_true (by omega)) ?_
  repeat' (refine kr_ ?_)
  obtain⟨p,hp⟩: ∃p,m.bads[i]?=some p:=⟨_,List.getElem?_eq_getElem hlt⟩
  obtain⟨b,o,ha,hc⟩:=(hs0.mono K.le).bads.get hp
  refine⟨b,o,ha,by omega,by omega,p,by rw [Int.toNat_natCast];exact hc,?_⟩
  have hpm:=List.mem_of_getElem? hp
  have hpp:=gd.bad p hpm
  have hpn:=lt_of (.bad hpm)
  obtain⟨q,rfl⟩: ∃q:Nat,p=q:=⟨p.toNat,by
   unfold da at hpp
   have:=eF (Bool.and_eq_true_iff.1 hpp).1
   omega⟩
  rw [Int.toNat_natCast]at hpn
  refine wP hs0 hm gd K hpn fun h2 c K2 _ _=>⟨c,rfl,?_⟩
  rw [ay (by omega)]
  refine hnx hlt _ _ ⟨rfl,_,V0.join gd (by have:=kY.bad hpm;rwa [Int.toNat_natCast]at this),fun j p' hj hp'=>?_,K2⟩
  by_cases e:j=i
  ·subst e
   rw [hp]at hp';cases hp'
   rw [Int.toNat_natCast,yM,Bool.or_true]
  ·rw [hb j p' (by omega) hp',Bool.true_or]
 refine aC (decide_eq_false (by omega)) ?_
 obtain rfl:i=m.bads.length:=by omega
 have hb': ∀p∈m.bads,f p.toNat=true:=fun p hp=>by
  obtain⟨j,hj⟩:=List.mem_iff_getElem?.1 hp
  exact hb j p (get_lt hj) hj
 clear hnx hlt hi hb next
 refine au m.holds.length (fun i vs h'=>vs= [.pointer (some ⟨b7,0,none⟩),(arr b11 m.nodes.length).v,I (i:Nat)]/\ ∃f,En m f/\(∀p∈m.bads,f p.toNat=true)/\(∀j p,j<i->m.holds[j]?=some p->f p.toNat=true)/\Kn g0 h' [(b11, .inl ⟨mkC m.nodes.length f,m.nodes.length,false⟩)])
  ⟨rfl,f,V0,hb',(fun j p hj=>by omega),K⟩ ?_
 clear K V0 hb' f h1
 rintro i _ h1 next hi ⟨rfl,f,V0,hb',hb,K⟩ hnx
 refine⟨b7,0,_,_,rfl,?_⟩
 repeat' (refine kr_ ?_)
 by_cases hlt:i<m.holds.length
 ·refine aM (decide_eq_true (by omega)) ?_
  repeat' (refine kr_ ?_)
  obtain⟨p,hp⟩: ∃p,m.holds[i]?=some p:=⟨_,List.getElem?_eq_getElem hlt⟩
  obtain⟨b,o,ha,hc⟩:=(hs0.mono K.le).holds.get hp
  refine⟨b,o,ha,by omega,by omega,p,by rw [Int.toNat_natCast];exact hc,?_⟩
  have hpm:=List.mem_of_getElem? hp
  have hpp:=gd.hol p hpm
  have hpn:=lt_of (.hold hpm)
  obtain⟨q,rfl⟩: ∃q:Nat,p=q:=⟨p.toNat,by
   unfold da at hpp
   have:=eF (Bool.and_eq_true_iff.1 hpp).1
   omega⟩
  rw [Int.toNat_natCast]at hpn
  refine wP hs0 hm gd K hpn fun h2 c K2 _ _=>⟨c,rfl,?_⟩
  rw [ay (by omega)]
  refine hnx hlt _ _ ⟨rfl,_,V0.join gd (by have:=kY.hold hpm;rwa [Int.toNat_natCast]at this),(fun p hp=>by rw [hb' p hp,Bool.true_or]),fun j p' hj hp'=>?_,K2⟩
  by_cases e:j=i
  ·subst e
   rw [hp]at hp';cases hp'
   rw [Int.toNat_natCast,yM,Bool.or_true]
  ·rw [hb j p' (by omega) hp',Bool.true_or]
 refine aC (decide_eq_false (by omega)) ?_
 obtain rfl:i=m.holds.length:=by omega
 have hh': ∀p∈m.holds,f p.toNat=true:=fun p hp=>by
  obtain⟨j,hj⟩:=List.mem_iff_getElem?.1 hp
  exact hb j p (get_lt hj) hj
 clear hnx hlt hi hb next
 refine nr (pe f m.nodes.length+1) (fun q vs h'=> ∃(c:Bool) (f:Nat->Bool),q=(if c then pe f m.nodes.length+1 else 0)/\vs= [.pointer (some ⟨b7,0,none⟩),(arr b11 m.nodes.length).v, .bool c]/\En m f/\(∀p∈m.bads,f p.toNat=true)/\(∀p∈m.holds,f p.toNat=true)/\
  (c=false-> ∀a,a<m.nodes.length->IE m f a)/\Kn g0 h' [(b11, .inl ⟨mkC m.nodes.length f,m.nodes.length,false⟩)]) ⟨true,f,rfl,rfl,V0,hb',hh',(fun e=>nomatch e),K⟩ ?_
 clear K V0 hb' hh' f h1
 rintro q _ h1 next ⟨c,f,eq,rfl,V0,hb',hh',hc,K⟩ hnx
 refine⟨b7,0,arr b11 _,c,rfl,?_⟩
 cases c
 ·refine aC rfl ?_
  have:=WN hb' hh' V0.1 (fun a=>(fun e=>hc rfl a (lt_of (V0.2 a e)) e)) V0.2
  subst this
  exact k h1 b11 (K.weak l00)
 refine aM rfl ?_
 rw [if_pos rfl]at eq
 subst eq
 clear hc
 obtain⟨_,agi,agx⟩:=j9 gd.twice
 have hil:=gd.il
 have hxl:=gd.xl
 have ini0: ∀b∈m.inits,0<=b.node:=fun b hb=>by have:=eF (eR (gd.ini b hb)).2.1;omega
 have nex0: ∀b∈m.nexts,0<=b.node:=fun b hb=>by have:=eF (dm (gd.nex b hb)).2.1;omega
 refine au m.nodes.length (fun i vs h'=> ∃(c:Bool) (f':Nat->Bool),vs= [.pointer (some ⟨b7,0,none⟩),(arr b11 m.nodes.length).v, .bool c,I (i:Nat)]/\En m f'/\(∀p∈m.bads,f' p.toNat=true)/\(∀p∈m.holds,f' p.toNat=true)/\
  (pe f' m.nodes.length<=pe f m.nodes.length)/\(c=true->pe f' m.nodes.length<pe f m.nodes.length)/\(c=false-> ∀a,a<i->IE m f' a)/\Kn g0 h' [(b11, .inl ⟨mkC m.nodes.length f',m.nodes.length,false⟩)])
  ⟨false,f,rfl,V0,hb',hh',Nat.le_refl _,(fun e=>nomatch e),(fun _ a ha=>by omega),K⟩ ?_
 clear K V0 hb' hh' h1
 rintro i _ h1 next2 hi ⟨c,f',rfl,V0,hb',hh',hle,hct,hcf,K⟩ hnx2
 refine⟨b7,0,arr b11 _,c,_,rfl,?_⟩
 repeat' (refine kr_ ?_)
 by_cases hlt:i<m.nodes.length
 rotate_left
 ·refine aC (decide_eq_false (by omega)) ?_
  obtain rfl:i=m.nodes.length:=by omega
  refine hnx (if c then pe f' m.nodes.length+1 else 0) ?_ _ _ ⟨c,f',rfl,rfl,V0,hb',hh',hcf,K⟩
  cases c
  ·show 0<_;omega
  ·have:=hct rfl
   show pe f' m.nodes.length+1<_;omega
 refine aM (decide_eq_true (by omega)) ?_
 have fb:=K.at (.head _)
 obtain⟨n,hni⟩: ∃n,m.nodes[i]?=some n:=⟨_,List.getElem?_eq_getElem hlt⟩
 refine ap (fun J=>J (!(f' i&&decide (n.kind=36)))) (ad (fun e=>?_) (fun e=>?_)) (fun J hJ=>?_)
 ·rw [ay (by omega)]
  refine hnx2 hlt _ _ ⟨c,f',rfl,V0,hb',hh',hle,hct,fun ec a ha=>?_,K⟩
  by_cases q:a=i
  ·subst q
   intro hf
   rw [hf,Bool.true_and,Bool.not_eq_true',decide_eq_false_iff_not]at e
   have kk:gu m.nodes (a:Nat)=n.kind:=by
    unfold gu;simp [hni]
   exact⟨fun b hb es=>absurd (by have:=(eR (gd.ini b hb)).2.2.1;rw [es,kk]at this;exact this) e,fun b hb es=>absurd (by have:=(dm (gd.nex b hb)).2.2.1;rw [es,kk]at this;exact this) e⟩
  ·exact hcf ec a (by omega)
 ·rw [Bool.not_eq_false',Bool.and_eq_true,decide_eq_true_eq]at e
  have hNi:=V0.2 i e.1
  repeat' (refine kr_ ?_)
  refine ly (hs0.mono K.le).inits hm.inits ini0 ⟨_,rfl,?_⟩
  repeat' (refine kr_ ?_)
  refine ly (hs0.mono K.le).nexts hm.nexts nex0 ⟨_,rfl,?_⟩
  refine ap (fun J=> ∀h' c1 f1,En m f1->(∀j,f' j=true->f1 j=true)->(c1=true->pe f1 m.nodes.length<pe f' m.nodes.length)->(c1=false->f1=f')->(∀k:Nat,bO m.inits i=some k->f1 k=true)->
   Kn g0 h' [(b11, .inl ⟨mkC m.nodes.length f1,m.nodes.length,false⟩)]->J c1 h') ?_ (fun J hJ=>?_)
  rotate_left
  ·refine ad (fun eb=>?_) (fun eb=>?_)
   ·rw [decide_eq_true_eq]at eb
    obtain⟨q,hq⟩:=BW.1 eb
    have hqI:ig m.inits i=(q:Nat):=by unfold ig;rw [hq]
    obtain⟨b,hbm,hbs,hbn⟩:=dW hq
    have hNq:kY m q:=hbn▸kY.ini hNi hbm hbs
    rw [hqI]
    repeat' (refine kr_ ?_)
    refine wP hs0 hm gd K (lt_of hNq) fun h2 c2 K2 r1 r2=>⟨c2,rfl,?_⟩
    refine hJ h2 c2 _ (V0.join gd hNq) (fun j hj=>by rw [hj,Bool.true_or]) (fun ec=>?_) (fun ec=>or_self (r1 ec)) (fun k hk=>?_) K2
    ·obtain⟨j,j1,j2,j3⟩:=r2 ec
     exact Lo (fun j hj=>by rw [hj,Bool.true_or]) j3 (by rw [j2,Bool.or_true]) _ j1
    ·rw [hq]at hk;cases hk
     rw [yM,Bool.or_true]
   ·refine hJ h1 false f' V0 (fun j hj=>hj) (fun e=>nomatch e) (fun _=>rfl) (fun k hk=>?_) K
    rw [decide_eq_false_iff_not]at eb
    exact absurd (BW.2 ⟨k,hk⟩) eb
  intro h2 c1 f1 I1 s1 t1 u1 v1 K2
  clear K fb
  refine ap (fun J=>J (c||c1)) ?_ (fun J hJ=>?_)
  rotate_left
  ·refine ad (fun ec=>?_) (fun ec=>?_)
   ·rw [ec,Bool.or_true]at hJ;exact hJ
   ·rw [ec,Bool.or_false]at hJ;exact hJ
  refine ap (fun J=> ∀h' c2 f2,En m f2->(∀j,f1 j=true->f2 j=true)->(c2=true->pe f2 m.nodes.length<pe f1 m.nodes.length)->(c2=false->f2=f1)->(∀k:Nat,bO m.nexts i=some k->f2 k=true)->
   Kn g0 h' [(b11, .inl ⟨mkC m.nodes.length f2,m.nodes.length,false⟩)]->J c2 h') ?_ (fun J hJ=>?_)
  rotate_left
  ·refine ad (fun eb=>?_) (fun eb=>?_)
   ·rw [decide_eq_true_eq]at eb
    obtain⟨q,hq⟩:=BW.1 eb
    have hqI:ig m.nexts i=(q:Nat):=by unfold ig;rw [hq]
    obtain⟨b,hbm,hbs,hbn⟩:=dW hq
    have hNq:kY m q:=hbn▸kY.nex hNi hbm hbs
    rw [hqI]
    repeat' (refine kr_ ?_)
    refine wP hs0 hm gd K2 (lt_of hNq) fun h3 c2 K3 r1 r2=>⟨c2,rfl,?_⟩
    refine hJ h3 c2 _ (I1.join gd hNq) (fun j hj=>by rw [hj,Bool.true_or]) (fun ec=>?_) (fun ec=>or_self (r1 ec)) (fun k hk=>?_) K3
    ·obtain⟨j,j1,j2,j3⟩:=r2 ec
     exact Lo (fun j hj=>by rw [hj,Bool.true_or]) j3 (by rw [j2,Bool.or_true]) _ j1
    ·rw [hq]at hk;cases hk
     rw [yM,Bool.or_true]
   ·refine hJ h2 false f1 I1 (fun j hj=>hj) (fun e=>nomatch e) (fun _=>rfl) (fun k hk=>?_) K2
    rw [decide_eq_false_iff_not]at eb
    exact absurd (BW.2 ⟨k,hk⟩) eb
  intro h3 c2 f2 I2 s2 t2 u2 v2 K3
  have m1:=ve s1 m.nodes.length
  have m2:=ve s2 m.nodes.length
  have fin: ∀c':Bool,c'=(c||c1||c2)->next2 [.pointer (some ⟨b7,0,none⟩),(arr b11 m.nodes.length).v, .bool c',I ((i+1:Nat):Int)] h3:=by
   intro c' ec'
   refine hnx2 hlt _ _ ⟨c',f2,rfl,I2,(fun p hp=>s2 _ (s1 _ (hb' p hp))),(fun p hp=>s2 _ (s1 _ (hh' p hp))),by omega,fun ec=>?_,fun ec a ha=>?_,K3⟩
   ·rw [ec']at ec
    rcases Bool.or_eq_true_iff.1 ec with ec|ec
    ·rcases Bool.or_eq_true_iff.1 ec with ec|ec
     ·have:=hct ec;omega
     ·have:=t1 ec;omega
    ·have:=t2 ec;omega
   ·rw [ec',Bool.or_eq_false_iff,Bool.or_eq_false_iff]at ec
    obtain⟨⟨e1,e2⟩,e3⟩:=ec
    have g1:=u1 e2
    have g2:=u2 e3
    subst g1
    subst g2
    by_cases q:a=i
    ·subst q
     exact fun _=>⟨VU (m:=m) agi v1,VU (m:=m) agx v2⟩
    ·exact hcf e1 a (by omega)
  rw [ay (by omega)]
  refine ad (fun ec=>?_) (fun ec=>?_)
  ·exact fin true (by rw [ec,Bool.or_true])
  ·exact fin (c||c1) (by rw [ec,Bool.or_false])
 ·refine⟨b11,0,rfl,by omega,by show _<((m.nodes.length:Nat):Int);omega,f' i,by rw [ax fb,show (0+Int.toNat (i:Int)*1)=i by simp];exact pL f' hlt,?_⟩
  refine ad (fun e=>?_) (fun e=>?_)
  ·rw [Bool.not_eq_true']at e
   rw [e]at hJ
   exact hJ
  ·rw [Bool.not_eq_false']at e
   rw [e,Bool.true_and]at hJ
   repeat' (refine kr_ ?_)
   obtain⟨b,o,ha,c0,_⟩:=(hs0.mono K.le).nodes.at hni
   refine⟨b,o,ha,by omega,by omega,n.kind,by rw [Int.toNat_natCast];exact c0,?_⟩
   have:(n.kind !=36)= !decide (n.kind=36):=by
    by_cases q:n.kind=36
    ·rw [q];rfl
    ·rw [decide_eq_false q];simpa using q
   rw [this];exact hJ
structure HL (g h:Hp) (s:Sl) (cs:List Value):Prop where
 le:g.le h
 len:cs.length=s.n*2
 room:s.n<=s.c
 row:(s.a=none/\s.n=0/\s.c=0)\/ ∃b all,s.a=some ⟨b,0,none⟩/\g b=none/\h b=some (.inl ⟨all,s.c*2,false⟩)/\s.n*2<=all.length/\all.take (s.n*2)=cs
theorem HL.sub {g h:Hp} {s:Sl} {cs:List Value} (e:HL g h s cs) (hn:s.n<=9223372036854775807):SlC (h.sub g) s 2 cs:=by
 refine⟨hn,e.len,?_⟩
 rcases e.row with ⟨_,h0,_⟩|⟨b,all,ha,hg,hb,_,ht⟩
 ·exact .inl h0
 ·refine .inr ⟨b,0,ha,fun i v hv=>?_⟩
  have hs:(h.sub g) b=some (.inl ⟨all,s.c*2,false⟩):=by unfold Hp.sub;rw [hg];exact hb
  rw [Nat.zero_add,ax hs]
  rw [<-ht]at hv
  rw [List.getElem?_take]at hv
  split at hv
  ·exact hv
  ·cases hv
theorem VB {g h:Hp} {s:Sl} {by_ m:Nat} {cs news:List Value} {src:Option Addr} {K:Option Addr->Nat->Nat->Hp->Prop}
  (hb:HL g h s cs) (hsz:(s.n+m)*by_<=140737488355328) (hsz':s.n+m<=9223372036854775807)
  (hs:0<m-> ∃sb so,src=some ⟨sb,so,none⟩/\ji g sb so news) (hl:news.length=m*2) (ho:news.all (·.oneCell')=true)
  (k: ∀(s':Sl) (h':Hp),s'.n=s.n+m->HL g h' s' (cs++news)->K s'.a s'.n s'.c h'):cy h s.a s.n s.c src m 2 by_ K:=by
 by_cases h0:m=0
 ·subst h0
  have:news= []:=List.eq_nil_of_length_eq_zero (by omega)
  subst this
  refine .inl ⟨rfl,hb.room,k s h rfl ?_⟩
  rw [List.append_nil];exact hb
 ·obtain⟨sb,so,hsa,hsc⟩:=hs (by omega)
  refine .inr ⟨by omega,hsz,hsz',sb,so,news,hsa,by omega,fun i v hv=>hb.le.cell (hsc i v hv),ho,?_⟩
  rcases hb.row with ⟨ha,hn,hc⟩|⟨b,all,ha,hg,hbb,hall,ht⟩
  ·have hcs:cs= []:=List.eq_nil_of_length_eq_zero (by rw [hb.len,hn])
   subst hcs
   refine .inl ⟨by omega, [],?_,fun _=>⟨hn,hc⟩,fun b c hbn hle=>?_⟩
   ·rw [hn];simp [pJ]
   ·rw [hn,Nat.zero_add]
    refine k ⟨some ⟨b,0,none⟩,m,c⟩ _ (by dsimp only;omega) ⟨ez _ _ (aG hb.le hbn) hb.le,by simp;omega,by dsimp only;omega, .inr ⟨b,news,rfl,aG hb.le hbn,?_,by dsimp only;omega,?_⟩⟩
    ·rw [bU];simp
    ·simp [<-hl]
  ·refine .inr ⟨b,all,ha,hbb,by omega,fun b' c hb' hle=>?_⟩
   rw [ht]
   have hgb:g b'=none:=by
    rcases hb' with rfl|hb'
    ·exact hg
    ·exact aG hb.le hb'
   refine k ⟨some ⟨b',0,none⟩,s.n+m,c⟩ _ rfl ⟨?_,by simp [hb.len,hl];omega,by dsimp only;omega, .inr ⟨b',cs++news,rfl,hgb,bU _ _ _ _,by simp [hb.len,hl];omega,?_⟩⟩
   ·exact mq _ (mq _ hb.le hg) hgb
   ·exact List.take_of_length_le (by simp [hb.len,hl];omega)
theorem NY {h:Hp} {n:Nat} {R:Value->Hp->Prop} (hn:n<=4194304) (k: ∀s h',HL h h' s []->R (Sl.v s) h'):fX #[.slice none 0 0,I n] h R:=by
 refine qb (s1:=⟨none,0,0⟩) ?_
 refine uf_ ?_
 have hw:W ((n:Int)-W (((0:Nat):Int)-((0:Nat):Int)))=n:=by
  rw [cd (n:=((0:Nat):Int)-((0:Nat):Int)) (by omega) (by omega),cd (by omega) (by omega)];omega
 refine aC (by simp) ?_
 simp only [hw]
 refine ad (fun e=>?_) (fun e=>?_)
 ·have e':0<n:=by simpa using e
  refine⟨by decide,by decide,by omega, .inl ⟨by(first|trivial|rfl|omega|decide),by(first|trivial|rfl|omega|decide),by(first|trivial|rfl|omega|decide),by(first|trivial|rfl|omega|decide),by(first|trivial|rfl|omega|decide),by(first|trivial|rfl|omega|decide),by(first|trivial|rfl|omega|decide),by(first|trivial|rfl|omega|decide),fun b c hb hc=>?_⟩⟩
  refine⟨by decide,by decide,by omega, .inr ⟨b,0,rfl,?_⟩⟩
  have hif:(if c=Int.toNat (Int.ofNat 0)then 0 else 0+Int.toNat (Int.ofNat 0)*2)=0:=by split<;>rfl
  rw [hif]
  refine k ⟨some ⟨b,0,none⟩,0,c⟩ _ ⟨gq _ _ hb,rfl,by dsimp only;omega, .inr ⟨b,_,rfl,hb,bU _ _ _ _,by dsimp only;omega,by dsimp only;rw [Nat.zero_mul,List.take_zero]⟩⟩
 ·exact k ⟨none,0,0⟩ h ⟨Hp.le_refl _,rfl,Nat.le_refl _, .inl ⟨rfl,rfl,rfl⟩⟩
theorem GT {h:Hp} {b:Nat} {s1 s2:Sl} {xs ys:List BindP} {R:Value->Hp->Prop} (hb:h b=some (.inl ⟨[s1.v,s2.v],2,false⟩)) (h1:iL h s1 xs) (h2:iL h s2 ys)
  (hx:xs.length<=1048576) (hy:ys.length<=1048576) (k: ∀t h',h.le h'->iL (h'.sub h) t (xs++ys)->R (Sl.v t) h'):fv #[.slice (some ⟨b,0,none⟩) 2 2] h R:=by
 refine oK (s1:=⟨some ⟨b,0,none⟩,2,2⟩) ?_
 refine uf_ ?_
 have n1:=h1.len
 have n2:=h2.len
 let sl:Nat->Sl:=fun i=>if i=0 then s1 else s2
 let ls:Nat->List BindP:=fun i=>if i=0 then xs else ys
 have hc: ∀i,i<2-> ∀h',h.le h'->Hp.cell h' b i=some (sl i).v:=fun i hi h' l'=>by
  rw [ax (l' _ _ hb)]
  obtain rfl|rfl:i=0\/i=1:=by omega
  all_goals rfl
 have hls: ∀i,(sl i).n=(ls i).length/\(ls i).length<=1048576/\iL h (sl i) (ls i):=fun i=>by
  by_cases h0:i=0
  ·subst h0;exact⟨n1,hx,h1⟩
  ·simp only [sl,ls,if_neg h0];exact⟨n2,hy,h2⟩
 let tot:Nat->Nat:=fun i=>if i=0 then 0 else if i=1 then xs.length else xs.length+ys.length
 let cat:Nat->List BindP:=fun i=>if i=0 then []else if i=1 then xs else xs++ys
 have htot: ∀i,i<2->tot i+(ls i).length=tot (i+1)/\cat i++ls i=cat (i+1)/\(cat i).length=tot i/\tot i<=2097152:=fun i hi=>by
  obtain rfl|rfl:i=0\/i=1:=by omega
  ·refine⟨?_,?_,rfl,?_⟩<;>simp [tot,ls,cat]
  ·refine⟨?_,?_,rfl,?_⟩<;>simp [tot,ls,cat]
   omega
 refine au 2 (fun i vs h'=>vs= [.slice (some ⟨b,0,none⟩) 2 2,I (tot i), .slice (some ⟨b,0,none⟩) 2 2,I 2,I i]/\h'=h) ⟨rfl,rfl⟩ ?_
 rintro i _ h' next hi ⟨rfl,rfl⟩ hnx
 refine⟨⟨some ⟨b,0,none⟩,2,2⟩,_,⟨some ⟨b,0,none⟩,2,2⟩,_,_,rfl,?_⟩
 by_cases hlt:i<2
 ·refine aM (by simp;omega) ?_
  have:=hls i
  have ht:=htot i hlt
  refine⟨b,0,rfl,by omega,by dsimp only;omega,sl i,by have:=hc i hlt h' (Hp.le_refl _);simpa using this,?_⟩
  rw [show W ((tot i:Int)+((sl i).n:Int))=((tot (i+1):Nat):Int) by rw [cd (by omega) (by omega)];omega,ay (by omega)]
  exact aC (by simp) (hnx hlt _ _ ⟨rfl,rfl⟩)
 ·have hi2:i=2:=by omega
  subst hi2
  refine aC (by simp) ?_
  refine NY (by simp [tot];omega) fun t h1' hp=>⟨t,rfl,?_⟩
  refine au 2 (fun i vs h2'=> ∃u:Sl,vs= [u.v, .slice (some ⟨b,0,none⟩) 2 2,I 2,I i]/\HL h' h2' u ((cat i).flatMap bindCells)) ⟨t,rfl,hp⟩ ?_
  clear hp
  rintro i _ h2' next2 hi ⟨u,rfl,hp⟩ hnx2
  refine⟨u,⟨some ⟨b,0,none⟩,2,2⟩,_,_,rfl,?_⟩
  by_cases hlt2:i<2
  ·refine aM (by simp;omega) ?_
   have hli:=hls i
   have ht:=htot i hlt2
   have hun:=hp.len
   rw [ck (m:=2) (fun _=>rfl)]at hun
   refine⟨b,0,rfl,by omega,by dsimp only;omega,sl i,by have:=hc i hlt2 h2' hp.le;simpa using this,?_⟩
   refine VB (news:=(ls i).flatMap bindCells) hp (by omega) (by omega) (fun hpos=>?_) (by rw [ck (m:=2) (fun _=>rfl)];omega) (by rw [List.all_eq_true];intro v hv;obtain⟨x,_,hx⟩:=List.mem_flatMap.1 hv;simp at hx;rcases hx with rfl|rfl<;>rfl) fun s' h3 hs' hp'=>?_
   ·obtain⟨sb,so,e1,e2⟩:=SlC.get hli.2.2 (by omega)
    exact⟨sb,so,e1,e2⟩
   ·rw [ay (by omega)]
    refine hnx2 hlt2 _ _ ⟨s',rfl,?_⟩
    rw [<-ht.2.1,List.flatMap_append];exact hp'
  ·have hi2:i=2:=by omega
   subst hi2
   refine aC (by simp) (k u h2' hp.le ?_)
   have hun:=hp.len
   have:cat 2=xs++ys:=rfl
   rw [this]at hun hp
   rw [ck (m:=2) (fun _=>rfl),List.length_append]at hun
   exact hp.sub (by omega)
def P1 (m:ah) (f:Nat->Bool) (j:Nat):Prop:=
 (∀(n:NodeP) (b:Nat),m.nodes[j]?=some n->b∈dM n->f b=true)/\(∀b∈m.inits,b.state=(j:Int)->f b.node.toNat=true)/\ ∀b∈m.nexts,b.state=(j:Int)->f b.node.toNat=true
theorem P1.up {m:ah} {f f':Nat->Bool} {j:Nat} (s: ∀j,f j=true->f' j=true) (c:P1 m f j):P1 m f' j:=
 ⟨fun n b hn hb=>s _ (c.1 n b hn hb),fun b hb e=>s _ (c.2.1 b hb e),fun b hb e=>s _ (c.2.2 b hb e)⟩
structure vd (m:ah) (f f':Nat->Bool):Prop where
 sub: ∀j,f j=true->f' j=true
 done: ∀j,f' j=true->f j=false->P1 m f' j
 need: ∀j,f' j=true->f j=true\/kY m j
theorem vd.refl (m:ah) (f:Nat->Bool):vd m f f:=⟨fun _ h=>h,fun j h1 h2=>by(rw [h1]at h2;cases h2),fun _ h=> .inl h⟩
theorem vd.trans {m:ah} {f f1 f2:Nat->Bool} (a:vd m f f1) (b:vd m f1 f2):vd m f f2:=by
 refine⟨fun j h=>b.sub j (a.sub j h),fun j h2 h0=>?_,fun j h=>?_⟩
 ·cases h1:f1 j
  ·exact b.done j h2 h1
  ·exact(a.done j h1 h0).up b.sub
 ·rcases b.need j h with h|h
  ·exact a.need j h
  ·exact .inr h
abbrev af6 (b13 b7 b19:Nat):Value:= .func (.func tu) #[] #[.pointer (some ⟨b13,0,none⟩), .pointer (some ⟨b7,0,none⟩), .pointer (some ⟨b19,0,none⟩)]
set_option maxHeartbeats 2000000 in
theorem QJ {M:MSl} {m:ah} {b11 b13 b7 b19 z1 z2 z3:Nat} (hm:bR m) (gd:cr m): ∀(cn:Nat) {g0 h:Hp} {f:Nat->Bool} {a:Nat} {R:Value->Hp->Prop},pe f m.nodes.length=cn->
  aO g0 M m->g0 b13=some (.inl ⟨[(arr b11 m.nodes.length).v],z1,false⟩)->g0 b7=some (.inl ⟨aH M,z2,false⟩)->g0 b19=some (.inl ⟨[af6 b13 b7 b19],z3,false⟩)->
  Kn g0 h [(b11, .inl ⟨mkC m.nodes.length f,m.nodes.length,false⟩)]->kY m a->
  (∀h' f',Kn g0 h' [(b11, .inl ⟨mkC m.nodes.length f',m.nodes.length,false⟩)]->vd m f f'->f' a=true->R (.tuple #[]) h')->
  tD #[I (a:Nat), .pointer (some ⟨b13,0,none⟩), .pointer (some ⟨b7,0,none⟩), .pointer (some ⟨b19,0,none⟩)] h R:=by
 intro cn
 induction cn using Nat.strongRecOn with
 |_ cn ih=>
 intro g0 h f a R hcn hs0 f13 f7 f19 K hN kk
 apply A7
 refine uf_ ?_
 have hlt:=zh gd hN
 have hN60:=gd.nl
 have x13:=cf f13
 have x7:=cf f7
 have x19:=cf f19
 have hnl:=hs0.nodes.len
 repeat' (refine kr_ ?_)
 refine⟨by omega,by show _<((m.nodes.length:Nat):Int);omega,f a,by rw [ax (K.at (.head _)),show (0+Int.toNat (a:Int)*1)=a by simp];exact pL f hlt,?_⟩
 refine ad (fun e=>kk h f K (vd.refl m f) e) (fun e=>?_)
 repeat' (refine kr_ ?_)
 refine⟨by omega,by show _<((m.nodes.length:Nat):Int);omega,?_⟩
 (((with_reducible apply Kn.wr);(assumption);((focus ((repeat first|exact .head|apply Upd.tail);done)))))
 ·rw [wG];simp;omega
 intro h1 K1 _
 rw [show (0+Int.toNat (a:Int)*1)=a by simp,bG,B2]at K1
 have s01: ∀j,f j=true->(f j||decide (j=a))=true:=fun j hj=>by rw [hj,Bool.true_or]
 have hc1:pe (fun j=>f j||decide (j=a)) m.nodes.length<cn:=hcn▸Lo s01 e (by simp) _ hlt
 clear K
 obtain⟨nd,hni⟩: ∃n,m.nodes[a]?=some n:=⟨_,List.getElem?_eq_getElem hlt⟩
 repeat' (refine kr_ ?_)
 obtain⟨b,o,ha,c0,c1,c2,c3,c4,c5,c6,c7,c8⟩:=(hs0.mono K1.le).nodes.at hni
 refine⟨b,o,ha,by omega,by omega,?_⟩
 rw [Int.toNat_natCast]
 refine⟨_,c0,_,c1,_,c2,_,c3,_,c4,_,c5,_,c6,_,c7,_,c8,?_⟩
 refine Kn.al K1 fun b34 h2 K2 l2 hb34=>?_
 refine kw_ ?_
 intro h3 K3 _
 simp only [bX,List.set_cons_zero,List.set_cons_succ,Nat.zero_add,Nat.reduceAdd]at K3
 clear K1 K2 l2 hb34 ha c0 c1 c2 c3 c4 c5 c6 c7 c8 b o
 have hf:=fS gd.ok hni
 have hk:=fA hf
 have hk3:=iX nd.kind
 generalize ef1:(fun j=>f j||decide (j=a))=f1 at*
 refine ap (fun J=> ∀b44 h',Kn g0 h' ((b44, .inl ⟨[I nd.a,I nd.b,I nd.c],3,false⟩):: [(b11, .inl ⟨mkC m.nodes.length f1,m.nodes.length,false⟩)])->J (Sl.mk (some ⟨b44,0,none⟩) (ai nd.kind).toNat 3) (((ai nd.kind).toNat:Nat):Int) h') ?_ (fun J hJ=>?_)
 rotate_left
 ·repeat' (refine kr_ ?_)
  constructor
  ·refine Kn.al K3 fun b44 h4 K4 l4 hb44=>?_
   repeat' (refine kr_ ?_)
   refine dZ ⟨_,rfl,?_⟩
   repeat' (refine kr_ ?_)
   refine⟨by decide,by simpa using hk,by simpa using hk3, .inr ⟨_,_,rfl,?_⟩⟩
   exact hJ b44 h4 (K4.sub (fun x hx=>by rcases List.mem_cons.1 hx with rfl|hx;exact .head _;exact .tail _ (.tail _ hx)) (by have:=K4.nd;simp only [List.map_cons,List.nodup_cons,List.mem_cons,not_or,List.map_nil]at this⊢;exact⟨this.1.2,this.2.2⟩))
  ·refine dZ ⟨_,rfl,?_⟩
   repeat' (refine kr_ ?_)
   refine Kn.al K3 fun b44 h4 K4 l4 hb44=>?_
   repeat' (refine kr_ ?_)
   refine⟨by decide,by simpa using hk,by simpa using hk3, .inr ⟨_,_,rfl,?_⟩⟩
   exact hJ b44 h4 (K4.sub (fun x hx=>by rcases List.mem_cons.1 hx with rfl|hx;exact .head _;exact .tail _ (.tail _ hx)) (by have:=K4.nd;simp only [List.map_cons,List.nodup_cons,List.mem_cons,not_or,List.map_nil]at this⊢;exact⟨this.1.2,this.2.2⟩))
 intro b44 h4 K4
 clear K3
 obtain⟨g1,KA,KB⟩:=Kn.cut (A:= [_]) (L:= [_]) K4
 have f44:=KA.at (.head _)
 have l01:=KA.le
 clear K4 KA
 replace f13:=l01 _ _ f13
 replace f7:=l01 _ _ f7
 replace f19:=l01 _ _ f19
 have hs1:=hs0.mono l01
 refine au (ai nd.kind).toNat (fun q vs h'=>vs= [I (a:Nat), .pointer (some ⟨b7,0,none⟩), .pointer (some ⟨b19,0,none⟩),(Sl.mk (some ⟨b44,0,none⟩) (ai nd.kind).toNat 3).v,I (((ai nd.kind).toNat:Nat):Int),I (q:Nat)]/\
  ∃f2,vd m f1 f2/\(∀(j p:Nat),j<q->(dM nd)[j]?=some p->f2 p=true)/\Kn g1 h' [(b11, .inl ⟨mkC m.nodes.length f2,m.nodes.length,false⟩)])
  ⟨rfl,f1,vd.refl m f1,(fun j p hj=>by omega),KB⟩ ?_
 clear KB
 rintro q _ h4 next hq ⟨rfl,f2,M2,hp2,K4⟩ hnx
 refine⟨_,b7,0,b19,0,Sl.mk (some ⟨b44,0,none⟩) (ai nd.kind).toNat 3,_,_,rfl,?_⟩
 by_cases hlq:q<(ai nd.kind).toNat
 ·refine aM (decide_eq_true (by omega)) ?_
  have cp:=nO (K4.le _ _ f44) (i:=q) (by omega)
  refine⟨b44,0,rfl,by omega,by show _<(((ai nd.kind).toNat:Nat):Int);omega,az nd q,by simpa using cp,?_⟩
  refine⟨_,_,_,by rw [ax (K4.le _ _ f19)];rfl,?_⟩
  have hr:=iQ hf (i:=q) (by omega) (by omega)
  have hpq:=GA hk hlq
  obtain⟨p,hp⟩: ∃p:Nat,az nd q=p:=⟨(az nd q).toNat,by omega⟩
  rw [hp]at hpq⊢
  rw [Int.toNat_natCast]at hpq
  have hNp:kY m p:= .part hN hni (List.mem_of_getElem? hpq)
  have hc2:=ve M2.sub m.nodes.length
  refine ih _ (by omega) rfl hs1 f13 f7 f19 K4 hNp fun h5 f3 K5 M3 e3=>⟨rfl,?_⟩
  rw [ay (by omega)]
  refine hnx hlq _ _ ⟨rfl,f3,M2.trans M3,fun j p' hj hp'=>?_,K5⟩
  by_cases ej:j=q
  ·subst ej
   rw [hpq]at hp';cases hp'
   exact e3
  ·exact M3.sub _ (hp2 j p' (by omega) hp')
 refine aC (decide_eq_false (by omega)) ?_
 obtain rfl:q=(ai nd.kind).toNat:=by omega
 have hparts: ∀p∈dM nd,f2 p=true:=fun p hp=>by
  obtain⟨j,hj⟩:=List.mem_iff_getElem?.1 hp
  exact hp2 j p (by have:=get_lt hj;rwa [DI hk]at this) hj
 clear hnx hq hlq hp2 next
 repeat' (refine kr_ ?_)
 refine Kn.al K4 fun b90 h5 K5 l5 hb90=>?_
 have hil:=gd.il
 have hxl:=gd.xl
 refine GT (K5.at (.head _)) (hs1.mono K5.le).inits (hs1.mono K5.le).nexts hm.inits hm.nexts fun t h6 l6 ht=>⟨t,rfl,?_⟩
 replace K5:=K5.tl
 have ht2:=ht.mono (xU K5)
 have K6:=(K5.mono l6).base
 have l12:=(K5.mono l6).leBase
 clear K4 K5 ht l5 hb90 l6
 generalize h6.wo ([(b11,(Sum.inl ⟨mkC m.nodes.length f2,m.nodes.length,false⟩:Blk))].map Prod.fst)=g2 at*
 replace f13:=l12 _ _ f13
 replace f7:=l12 _ _ f7
 replace f19:=l12 _ _ f19
 have hs2:=hs1.mono l12
 have htn:=ht2.len
 have hapl:(m.inits++m.nexts).length<=120:=by rw [List.length_append];omega
 refine au (m.inits++m.nexts).length (fun q vs h'=>vs= [I (a:Nat), .pointer (some ⟨b19,0,none⟩),t.v,I ((t.n:Nat):Int),I (q:Nat)]/\
  ∃f3,vd m f1 f3/\(∀p∈dM nd,f3 p=true)/\(∀(j:Nat) (b:BindP),j<q->(m.inits++m.nexts)[j]?=some b->b.state=(a:Int)->f3 b.node.toNat=true)/\Kn g2 h' [(b11, .inl ⟨mkC m.nodes.length f3,m.nodes.length,false⟩)])
  ⟨rfl,f2,M2,hparts,(fun j p hj=>by omega),K6⟩ ?_
 clear K6 M2 hparts
 rintro q _ h4 next hq ⟨rfl,f3,M3,hparts,hb3,K4⟩ hnx
 refine⟨_,b19,0,t,_,_,rfl,?_⟩
 by_cases hlq:q<(m.inits++m.nexts).length
 ·refine aM (decide_eq_true (by omega)) ?_
  obtain⟨x,hxi⟩: ∃x,(m.inits++m.nexts)[q]?=some x:=⟨_,List.getElem?_eq_getElem hlq⟩
  obtain⟨b,o,ha,c0,c1⟩:=(ht2.mono K4.le).at hxi
  refine⟨b,o,ha,by omega,by omega,x.state,by rw [Int.toNat_natCast];exact c0,x.node,by rw [Int.toNat_natCast];exact c1,?_⟩
  refine Kn.al K4 fun b112 h5 K5 l5 hb112=>?_
  refine kw_ ?_
  intro h6 K6 _
  simp only [bX,List.set_cons_zero,List.set_cons_succ,Nat.zero_add,Nat.reduceAdd]at K6
  clear K4 K5 l5 hb112 ha c0 c1
  repeat' (refine kr_ ?_)
  refine ad (fun e1=>?_) (fun e1=>?_)
  ·rw [beq_iff_eq]at e1
   refine⟨_,_,_,by rw [ax (K6.le _ _ f19)];rfl,?_⟩
   repeat' (refine kr_ ?_)
   have hxm:=List.mem_append.1 (List.mem_of_getElem? hxi)
   have hx0:0<=x.node:=by
    rcases hxm with hx|hx
    ·have:=eF (eR (gd.ini x hx)).2.1;omega
    ·have:=eF (dm (gd.nex x hx)).2.1;omega
   have hNx:kY m x.node.toNat:=by
    rcases hxm with hx|hx
    ·exact .ini hN hx e1
    ·exact .nex hN hx e1
   obtain⟨p,hp⟩: ∃p:Nat,x.node=p:=⟨x.node.toNat,by omega⟩
   rw [hp]at hNx⊢
   rw [Int.toNat_natCast]at hNx
   have hc3:=ve M3.sub m.nodes.length
   refine ih _ (by omega) rfl hs2 f13 f7 f19 K6.tl hNx fun h7 f4 K7 M4 e4=>⟨rfl,?_⟩
   rw [ay (by omega)]
   refine hnx hlq _ _ ⟨rfl,f4,M3.trans M4,(fun p hp=>M4.sub _ (hparts p hp)),fun j x' hj hx' es=>?_,K7⟩
   by_cases ej:j=q
   ·subst ej
    rw [hxi]at hx';cases hx'
    rw [hp,Int.toNat_natCast]
    exact e4
   ·exact M4.sub _ (hb3 j x' (by omega) hx' es)
  ·rw [ay (by omega)]
   refine hnx hlq _ _ ⟨rfl,f3,M3,hparts,fun j x' hj hx' es=>?_,K6.tl⟩
   by_cases ej:j=q
   ·subst ej
    rw [hxi]at hx';cases hx'
    rw [es]at e1
    simp at e1
   ·exact hb3 j x' (by omega) hx' es
 refine aC (decide_eq_false (by omega)) ?_
 obtain rfl:q=(m.inits++m.nexts).length:=by omega
 have hbinds: ∀x∈m.inits++m.nexts,x.state=(a:Int)->f3 x.node.toNat=true:=fun x hx=>by
  obtain⟨j,hj⟩:=List.mem_iff_getElem?.1 hx
  exact hb3 j x (get_lt hj) hj
 have e1a: ∀j,f1 j=true->f j=true\/j=a:=fun j hj=>by
  rw [<-ef1]at hj
  simpa using hj
 have e1b: ∀j,f j=true->f1 j=true:=fun j hj=>by rw [<-ef1];exact s01 j hj
 refine kk h4 f3 (K4.weak (Hp.le_trans l01 l12)) ⟨fun j hj=>M3.sub j (e1b j hj),fun j h3 h0=>?_,fun j h3=>?_⟩ (M3.sub a (by rw [<-ef1];simp))
 ·cases hj1:f1 j
  ·exact M3.done j h3 hj1
  ·rcases e1a j hj1 with hj|rfl
   ·rw [hj]at h0;cases h0
   ·refine⟨fun n b hn hb=>?_,fun b hb e=>hbinds b (List.mem_append_left _ hb) e,fun b hb e=>hbinds b (List.mem_append_right _ hb) e⟩
    rw [hni]at hn;cases hn
    exact hparts b hb
 ·rcases M3.need j h3 with hj|hj
  ·rcases e1a j hj with hj|rfl
   ·exact .inl hj
   ·exact .inr hN
  ·exact .inr hj
theorem Xl (n:Nat) (f:Nat->Bool):xX (mkC n f):=Hl n f
theorem Pe {h:Hp} {M:MSl} {m:ah} {R:Value->Hp->Prop} (hs:aO h M m) (hm:bR m) (gd:cr m)
  (k: ∀h' b,Kn h h' [(b, .inl ⟨mkC m.nodes.length (cP m),m.nodes.length,false⟩)]->R (Sl.v (arr b m.nodes.length)) h'):my #[aQ M] h R:=by
 apply ER
 refine uf_ ?_
 have hn:=hs.nodes.len
 have hN:=gd.nl
 (with_reducible apply Kn.al);(exact Kn.nil h);(intro b7 h1 K1 l1 hb7)
 repeat' (refine kr_ ?_)
 rw [hn]
 refine⟨by omega,by omega,by omega,by omega,?_⟩
 rw [Int.toNat_natCast,Nat.mul_one,cE,BK]
 refine Kn.al K1 fun b11 h2 K2 l2 hb11=>?_
 refine Kn.al K2 fun b13 h3 K3 l3 hb13=>?_
 refine kw_ ?_
 intro h4 K4 _
 refine Kn.al K4 fun b19 h5 K5 l5 hb19=>?_
 refine kw_ ?_
 intro h6 K6 _
 simp only [bX,List.set_cons_zero,List.set_cons_succ,Nat.zero_add,Nat.reduceAdd]at K6
 clear K1 K2 K3 K4 K5
 repeat' (refine kr_ ?_)
 refine Kn.al K6 fun b28 h7 K7 l7 hb28=>?_
 refine Aa (K7.at (.head _)) (hs.mono K7.le).bads (hs.mono K7.le).holds hm.bads hm.holds fun t h8 l8 ht=>⟨t,rfl,?_⟩
 replace K7:=(K7.mono l8).tl
 clear K6 l8 l7 hb28
 obtain⟨g0,KA,KL⟩:=Kn.cut (A:= [(b19, .inl ⟨[af6 b13 b7 b19],1,false⟩),(b13, .inl ⟨[(arr b11 m.nodes.length).v],1,false⟩),(b7, .inl ⟨aH M,5,false⟩)]) (L:= [(b11, .inl ⟨mkC m.nodes.length fun _=>false,m.nodes.length,false⟩)])
  (K7.perm (List.Perm.cons _ (List.Perm.cons _ (List.Perm.swap _ _ _))))
 have ht2:=ht.woN (L:= [(b11, .inl ⟨mkC m.nodes.length fun _=>false,m.nodes.length,false⟩)]) (fun x hx=>KL.mem x hx) fun x hx=>by
  rw [List.mem_singleton.1 hx]
  exact⟨_,_,_,rfl,Xl _ _⟩
 have lB:=KL.leBase
 have KB:=KL.base
 have l0A:=KA.le
 have f19:=lB _ _ (KA.at (b:=b19) (by((focus ((repeat first|exact .head _|apply List.Mem.tail);done)))))
 have f13:=lB _ _ (KA.at (b:=b13) (by((focus ((repeat first|exact .head _|apply List.Mem.tail);done)))))
 have f7:=lB _ _ (KA.at (b:=b7) (by((focus ((repeat first|exact .head _|apply List.Mem.tail);done)))))
 have hsB:=hs.mono (Hp.le_trans l0A lB)
 have l0B:=Hp.le_trans l0A lB
 clear K7 KA KL ht lB l0A g0
 generalize h8.wo ([(b11,(Sum.inl ⟨mkC m.nodes.length fun _=>false,m.nodes.length,false⟩:Blk))].map Prod.fst)=g2 at*
 have x19:=cf f19
 have x13:=cf f13
 have x7:=cf f7
 have htn:=ht2.len
 have hapl:(m.bads++m.holds).length<=8:=by have:=gd.bl;have:=gd.hl;rw [List.length_append];omega
 have hpok: ∀p∈m.bads++m.holds,0<=p/\kY m p.toNat:=fun p hp=>by
  rcases List.mem_append.1 hp with hp|hp
  ·have hpp:=gd.bad p hp
   unfold da at hpp
   exact⟨(eF (Bool.and_eq_true_iff.1 hpp).1).1, .bad hp⟩
  ·have hpp:=gd.hol p hp
   unfold da at hpp
   exact⟨(eF (Bool.and_eq_true_iff.1 hpp).1).1, .hold hp⟩
 refine au (m.bads++m.holds).length (fun q vs h'=>vs= [.pointer (some ⟨b13,0,none⟩), .pointer (some ⟨b19,0,none⟩),t.v,I ((t.n:Nat):Int),I (q:Nat)]/\
  ∃f,vd m (fun _=>false) f/\(∀(j:Nat) (p:Int),j<q->(m.bads++m.holds)[j]?=some p->f p.toNat=true)/\Kn g2 h' [(b11, .inl ⟨mkC m.nodes.length f,m.nodes.length,false⟩)])
  ⟨rfl,_,vd.refl m _,(fun j p hj=>by omega),KB⟩ ?_
 clear KB
 rintro q _ h9 next hq ⟨rfl,f,Mk,hp,K⟩ hnx
 refine⟨b13,0,b19,0,t,_,_,rfl,?_⟩
 by_cases hlq:q<(m.bads++m.holds).length
 ·refine aM (decide_eq_true (by omega)) ?_
  obtain⟨x,hxi⟩: ∃x,(m.bads++m.holds)[q]?=some x:=⟨_,List.getElem?_eq_getElem hlq⟩
  obtain⟨b,o,ha,c0⟩:=(ht2.mono K.le).get hxi
  refine⟨b,o,ha,by omega,by omega,x,by rw [Int.toNat_natCast];exact c0,?_⟩
  refine⟨_,_,_,by rw [ax (K.le _ _ f19)];rfl,?_⟩
  obtain⟨hx0,hNx⟩:=hpok x (List.mem_of_getElem? hxi)
  obtain⟨p,rfl⟩: ∃p:Nat,x=p:=⟨x.toNat,by omega⟩
  rw [Int.toNat_natCast]at hNx
  refine QJ hm gd _ rfl hsB f13 f7 f19 K hNx fun h10 f' K' M' e'=>⟨rfl,?_⟩
  rw [ay (by omega)]
  refine hnx hlq _ _ ⟨rfl,f',Mk.trans M',fun j x' hj hx'=>?_,K'⟩
  by_cases ej:j=q
  ·subst ej
   rw [hxi]at hx';cases hx'
   rw [Int.toNat_natCast];exact e'
  ·exact M'.sub _ (hp j x' (by omega) hx')
 refine aC (decide_eq_false (by omega)) ?_
 obtain rfl:q=(m.bads++m.holds).length:=by omega
 repeat' (refine kr_ ?_)
 have hall: ∀p∈m.bads++m.holds,f p.toNat=true:=fun p hp'=>by
  obtain⟨j,hj⟩:=List.mem_iff_getElem?.1 hp'
  exact hp j p (get_lt hj) hj
 have ef:f=cP m:=WN (fun p hp=>hall p (List.mem_append_left _ hp)) (fun p hp=>hall p (List.mem_append_right _ hp))
  (fun a b n ha hn hb=>(Mk.done a ha rfl).1 n b hn hb) (fun a ha=>(Mk.done a ha rfl).2) (fun i hi=>(Mk.need i hi).resolve_left (by simp))
 subst ef
 exact k h9 b11 (K.weak l0B)
def cA (f:Nat->Int) (n:NodeP):NodeP:={n with a:=if 0<ai n.kind then f n.a.toNat else n.a,b:=if 1<ai n.kind then f n.b.toNat else n.b,c:=if 2<ai n.kind then f n.c.toNat else n.c}
abbrev pF (n:NodeP):Value:= .agg #[I n.kind,I n.a,I n.b,I n.c,I n.n,I n.m,I n.sort.idx,I n.sort.wid, .string n.name]
def dv (to:List Int) (i:Nat):Int:=to.getD i 0
theorem abE {to:List Int} {i:Nat} (h:i<to.length):to[i]?=some (dv to i):=by
 unfold dv
 rw [List.getD_eq_getElem?_getD,List.getElem?_eq_getElem h];rfl
theorem IntS.rd {h:Hp} {t:Sl} {to:List Int} (e:IntS h t to) {p:Int} (h0:0<=p) (hp:p<to.length):
  ∃b o,t.a=some (Addr.mk b o none)/\(0:Int)<=p/\p<(t.n:Int)/\Hp.cell h b (o+Int.toNat p*1)=some (I (dv to p.toNat)):=by
 obtain⟨b,o,ha,hc⟩:=e.get (abE (to:=to) (i:=p.toNat) (by omega))
 exact⟨b,o,ha,h0,by rw [e.len];exact hp,hc⟩
set_option maxHeartbeats 1000000 in
theorem Qo {h:Hp} {n:NodeP} {t:Sl} {to:List Int} {R:Value->Hp->Prop} (ht:IntS h t to) (hk:0<=ai n.kind) (hp: ∀i:Nat,i<3->(i:Int)<ai n.kind->0<=az n i/\az n i<to.length)
  (k:R (pF (cA (dv to) n)) h):vE #[pF n,t.v] h R:=by
 refine ACalls.drop (LG ?_)
 refine uf_ ?_
 (with_reducible apply Kn.al);(exact Kn.nil h);(intro b12 h1 K1 l1 hb12)
 refine Kn.al K1 fun b14 h2 K2 l2 hb14=>?_
 clear K1
 repeat' (refine kr_ ?_)
 refine lE ⟨_,rfl,?_⟩
 have r0:=fun h=>hp 0 (by omega) h
 have r1:=fun h=>hp 1 (by omega) h
 have r2:=fun h=>hp 2 (by omega) h
 have e0:az n 0=n.a:=rfl
 have e1:az n 1=n.b:=rfl
 have e2:az n 2=n.c:=rfl
 rw [e0]at r0
 rw [e1]at r1
 rw [e2]at r2
 obtain⟨A,hA⟩: ∃A,A=(if 0<ai n.kind then dv to n.a.toNat else n.a):=⟨_,rfl⟩
 obtain⟨B,hB⟩: ∃B,B=(if 1<ai n.kind then dv to n.b.toNat else n.b):=⟨_,rfl⟩
 obtain⟨C,hC⟩: ∃C,C=(if 2<ai n.kind then dv to n.c.toNat else n.c):=⟨_,rfl⟩
 have hres:cA (dv to) n={n with a:=A,b:=B,c:=C}:=by unfold cA;rw [hA,hB,hC]
 rw [hres]at k
 clear hres
 refine ap (fun J=> ∀h',Kn h h' ((b14, .inl ⟨[I 0,I 0,I 0,I 0,I 0,I 0,I 0,I 0, .string ⟨#[]⟩],9,false⟩)::(b12, .inl ⟨[I n.kind,I A,I n.b,I n.c,I n.n,I n.m,I n.sort.idx,I n.sort.wid, .string n.name],9,false⟩):: [])->J h') ?_ (fun J hJ=>?_)
 rotate_left
 ·refine ad (fun e=>?_) (fun e=>?_)
  ·rw [decide_eq_true_eq]at e
   have r:=r0 e
   repeat' (refine kr_ ?_)
   obtain⟨b,o,ha,q0,q1,hc⟩:=(ht.mono K2.le).rd r.1 r.2
   refine⟨b,o,ha,q0,q1,_,hc,?_⟩
   refine kw_ ?_
   intro h3 K3 _
   simp only [bX,List.set_cons_zero,List.set_cons_succ,Nat.zero_add,Nat.reduceAdd]at K3
   rw [if_pos e]at hA
   rw [<-hA]at K3
   exact hJ h3 K3
  ·rw [decide_eq_false_iff_not]at e
   rw [if_neg e]at hA
   rw [hA]at hJ
   exact hJ h2 K2
 intro h3 K3
 clear K2 hA r0
 refine ap (fun J=> ∀h',Kn h h' ((b14, .inl ⟨[I 0,I 0,I 0,I 0,I 0,I 0,I 0,I 0, .string ⟨#[]⟩],9,false⟩)::(b12, .inl ⟨[I n.kind,I A,I B,I n.c,I n.n,I n.m,I n.sort.idx,I n.sort.wid, .string n.name],9,false⟩):: [])->J h') ?_ (fun J hJ=>?_)
 rotate_left
 ·refine ad (fun e=>?_) (fun e=>?_)
  ·rw [decide_eq_true_eq]at e
   have r:=r1 e
   repeat' (refine kr_ ?_)
   obtain⟨b,o,ha,q0,q1,hc⟩:=(ht.mono K3.le).rd r.1 r.2
   refine⟨b,o,ha,q0,q1,_,hc,?_⟩
   refine kw_ ?_
   intro h4 K4 _
   simp only [bX,List.set_cons_zero,List.set_cons_succ,Nat.zero_add,Nat.reduceAdd]at K4
   rw [if_pos e]at hB
   rw [<-hB]at K4
   exact hJ h4 K4
  ·rw [decide_eq_false_iff_not]at e
   rw [if_neg e]at hB
   rw [hB]at hJ
   exact hJ h3 K3
 intro h4 K4
 clear K3 hB r1
 refine ap (fun J=> ∀h',Kn h h' ((b14, .inl ⟨[I 0,I 0,I 0,I 0,I 0,I 0,I 0,I 0, .string ⟨#[]⟩],9,false⟩)::(b12, .inl ⟨[I n.kind,I A,I B,I C,I n.n,I n.m,I n.sort.idx,I n.sort.wid, .string n.name],9,false⟩):: [])->J h') ?_ (fun J hJ=>?_)
 rotate_left
 ·refine ad (fun e=>?_) (fun e=>?_)
  ·rw [decide_eq_true_eq]at e
   have r:=r2 e
   repeat' (refine kr_ ?_)
   obtain⟨b,o,ha,q0,q1,hc⟩:=(ht.mono K4.le).rd r.1 r.2
   refine⟨b,o,ha,q0,q1,_,hc,?_⟩
   refine kw_ ?_
   intro h5 K5 _
   simp only [bX,List.set_cons_zero,List.set_cons_succ,Nat.zero_add,Nat.reduceAdd]at K5
   rw [if_pos e]at hC
   rw [<-hC]at K5
   exact hJ h5 K5
  ·rw [decide_eq_false_iff_not]at e
   rw [if_neg e]at hC
   rw [hC]at hJ
   exact hJ h4 K4
 intro h5 K5
 clear K4 hC r2
 repeat' (refine kr_ ?_)
 refine kw_ ?_
 intro h6 K6 _
 simp only [bX,List.set_cons_zero,List.set_cons_succ,Nat.zero_add,Nat.reduceAdd]at K6
 clear K5
 repeat' (refine kr_ ?_)
 exact⟨h,K6.le,k⟩
theorem EM {h:Hp} {s t:Sl} {l to:List Int} {R:Value->Hp->Prop} (hs:IntS h s l) (ht:IntS h t to) (hl:l.length<=1048576) (hp: ∀p∈l,0<=p/\p<to.length)
  (k: ∀s' h' X,Kn h h' X->bT X s' 1 ((l.map fun p=>dv to p.toNat).map I)->R (Sl.v s') h'):qy #[s.v,t.v] h R:=by
 apply Kj
 refine uf_ ?_
 have hn:=hs.len
 refine au l.length (fun i vs h'=> ∃(s':Sl) (X:List (Nat×Blk)),vs= [s.v,t.v,s'.v,I (i:Nat)]/\Kn h h' X/\bT X s' 1 (((l.take i).map fun p=>dv to p.toNat).map I)) ⟨⟨none,0,0⟩, [],rfl,Kn.nil h,cF 1⟩ ?_
 rintro i _ h1 next hi ⟨s',X,rfl,K,o⟩ hnx
 refine⟨s,t,s',_,rfl,?_⟩
 by_cases hlt:i<l.length
 rotate_left
 ·refine aC (decide_eq_false (by omega)) (k s' h1 X K ?_)
  rwa [List.take_of_length_le (by omega)]at o
 refine aM (decide_eq_true (by omega)) ?_
 obtain⟨p,hpi⟩: ∃p,l[i]?=some p:=⟨_,List.getElem?_eq_getElem hlt⟩
 obtain⟨b,o1,ha,hc⟩:=(hs.mono K.le).get hpi
 refine⟨b,o1,ha,by omega,by omega,p,by rw [Int.toNat_natCast];exact hc,?_⟩
 obtain⟨b2,o2,ha2,q0,q1,hc2⟩:=(ht.mono K.le).rd (hp p (List.mem_of_getElem? hpi)).1 (hp p (List.mem_of_getElem? hpi)).2
 refine⟨b2,o2,ha2,q0,q1,_,hc2,?_⟩
 have hsn:=o.1
 rw [List.length_map,List.length_map,List.length_take]at hsn
 refine Kn.al K fun b24 h2 K2 l2 hb24=>?_
 refine Kn.growIn (A:= [(b24, .inl ⟨[I (dv to p.toNat)],1,false⟩)]) (L:= []) (by rw [List.append_nil];exact K2) o (by omega) (by omega) (by omega) ⟨b24,0,rfl,aw (K2.at (.head _))⟩ rfl rfl fun s2 X2 h3 hn2 o2 K3 _=>?_
 rw [ay (by omega)]
 refine hnx hlt _ _ ⟨s2,X2,rfl,?_,?_⟩
 ·rw [List.append_nil]at K3;exact K3.tl
 ·rw [si hpi,List.map_append,List.map_append]
  exact o2
theorem EZ {h:Hp} {s t:Sl} {l:List BindP} {to:List Int} {R:Value->Hp->Prop} (hs:iL h s l) (ht:IntS h t to) (hl:l.length<=1048576) (hp: ∀b∈l,(0<=b.state/\b.state<to.length)/\0<=b.node/\b.node<to.length)
  (k: ∀s' h' X,Kn h h' X->bT X s' 2 (((l.filter fun b=>decide (0<=dv to b.state.toNat)).map fun b=>(⟨dv to b.state.toNat,dv to b.node.toNat⟩:BindP)).flatMap bindCells)->R (Sl.v s') h'):qO #[s.v,t.v] h R:=by
 apply L8
 refine uf_ ?_
 have hn:=hs.len
 refine au l.length (fun i vs h'=> ∃(s':Sl) (X:List (Nat×Blk)),vs= [s.v,t.v,s'.v,I (i:Nat)]/\s'.n<=i/\Kn h h' X/\bT X s' 2 ((((l.take i).filter fun b=>decide (0<=dv to b.state.toNat)).map fun b=>(⟨dv to b.state.toNat,dv to b.node.toNat⟩:BindP)).flatMap bindCells)) ⟨⟨none,0,0⟩, [],rfl,Nat.le_refl _,Kn.nil h,cF 2⟩ ?_
 rintro i _ h1 next hi ⟨s',X,rfl,hsn,K,o⟩ hnx
 refine⟨s,t,s',_,rfl,?_⟩
 by_cases hlt:i<l.length
 rotate_left
 ·refine aC (decide_eq_false (by omega)) (k s' h1 X K ?_)
  rwa [List.take_of_length_le (by omega)]at o
 refine aM (decide_eq_true (by omega)) ?_
 obtain⟨x,hxi⟩: ∃x,l[i]?=some x:=⟨_,List.getElem?_eq_getElem hlt⟩
 obtain⟨r1,r2⟩:=hp x (List.mem_of_getElem? hxi)
 obtain⟨b,o1,ha,c0,c1⟩:=(hs.mono K.le).at hxi
 obtain⟨b2,o2,ha2,q0,q1,hc2⟩:=(ht.mono K.le).rd r1.1 r1.2
 obtain⟨b3,o3,ha3,q2,q3,hc3⟩:=(ht.mono K.le).rd r2.1 r2.2
 refine⟨b,o1,ha,by omega,by omega,x.state,by rw [Int.toNat_natCast];exact c0,b2,o2,ha2,q0,q1,_,hc2,?_⟩
 refine ad (fun e=>?_) (fun e=>?_)
 ·rw [decide_eq_true_eq]at e
  refine⟨b,o1,ha,by omega,by omega,b,o1,ha,by omega,by omega,x.state,by rw [Int.toNat_natCast];exact c0,b2,o2,ha2,q0,q1,_,hc2,x.node,by rw [Int.toNat_natCast];exact c1,b3,o3,ha3,q2,q3,_,hc3,?_⟩
  refine Kn.al K fun b36 h2 K2 l2 hb36=>?_
  refine Kn.growIn (A:= [(b36, .inl ⟨[I (dv to x.state.toNat),I (dv to x.node.toNat)],2,false⟩)]) (L:= []) (by rw [List.append_nil];exact K2) o (by omega) (by omega) (by omega) ⟨b36,0,rfl,aw (K2.at (.head _))⟩ rfl rfl fun s2 X2 h3 hn2 o2 K3 _=>?_
  rw [ay (by omega)]
  refine hnx hlt _ _ ⟨s2,X2,rfl,by omega,?_,?_⟩
  ·rw [List.append_nil]at K3;exact K3.tl
  ·rw [si hxi,List.filter_append,List.filter_cons_of_pos (by simpa using e),List.filter_nil,List.map_append,List.flatMap_append]
   exact o2
 ·rw [decide_eq_false_iff_not]at e
  rw [ay (by omega)]
  refine hnx hlt _ _ ⟨s',X,rfl,by omega,K,?_⟩
  rw [si hxi,List.filter_append,List.filter_cons_of_neg (by simpa using e),List.filter_nil,List.append_nil]
  exact o
noncomputable def fu (m:ah) (i:Nat):Nat:=((List.range i).filter (cP m)).length
def Fh (m:ah) (j:Nat):NodeP:=(m.nodes[j]?).getD ⟨0,0,0,0,0,0,⟨0,0⟩,⟨#[]⟩⟩
noncomputable def gZ (m:ah) (i:Nat):List NodeP:=((List.range i).filter (cP m)).map fun j=>cA (fun p=>(fu m p:Int)) (Fh m j)
noncomputable def jr (m:ah) (l:List BindP):List BindP:=(l.filter fun b=>cP m b.state.toNat).map fun b=>⟨fu m b.state.toNat,fu m b.node.toNat⟩
noncomputable def de (m:ah):ah:=⟨gZ m m.nodes.length,jr m m.inits,jr m m.nexts,m.bads.map fun p=>(fu m p.toNat:Int),m.holds.map fun p=>(fu m p.toNat:Int)⟩
noncomputable def i7 (m:ah):ah:=if aF m=0 then de m else⟨[], [], [], [], []⟩
noncomputable def toL (m:ah) (i:Nat):List Int:=(List.range i).map fun j=>if cP m j=true then(fu m j:Int)else-1
theorem xY {m:ah} {j:Nat} {n:NodeP} (h:m.nodes[j]?=some n):Fh m j=n:=by unfold Fh;rw [h];rfl
theorem E3 {m:ah} {i:Nat} (h:cP m i=true):fu m (i+1)=fu m i+1:=by
 unfold fu
 rw [List.range_succ,List.filter_append,List.length_append];simp [h]
theorem Wg {m:ah} {i:Nat} (h:cP m i=false):fu m (i+1)=fu m i:=by
 unfold fu
 rw [List.range_succ,List.filter_append,List.length_append];simp [h]
theorem PB (m:ah) (i:Nat):fu m i<=i:=by
 unfold fu
 exact Nat.le_trans (List.length_filter_le _ _) (by rw [List.length_range];exact Nat.le_refl _)
theorem rW {m:ah} {i:Nat} (h:cP m i=true):gZ m (i+1)=gZ m i++ [cA (fun p=>(fu m p:Int)) (Fh m i)]:=by
 unfold gZ
 rw [List.range_succ,List.filter_append,List.map_append];simp [h]
theorem uV {m:ah} {i:Nat} (h:cP m i=false):gZ m (i+1)=gZ m i:=by
 unfold gZ
 rw [List.range_succ,List.filter_append,List.map_append];simp [h]
theorem lq (m:ah) (i:Nat):(gZ m i).length=fu m i:=by unfold gZ fu;rw [List.length_map]
theorem BR (m:ah) (i:Nat):(toL m i).length=i:=by unfold toL;rw [List.length_map,List.length_range]
theorem R6 (m:ah) (i:Nat):toL m (i+1)=toL m i++ [if cP m i=true then(fu m i:Int)else-1]:=by
 unfold toL;rw [List.range_succ,List.map_append];rfl
theorem Ll {m:ah} {i p:Nat} (h:p<i):dv (toL m i) p=if cP m p=true then(fu m p:Int)else-1:=by
 unfold dv toL
 rw [List.getD_eq_getElem?_getD,List.getElem?_map,List.getElem?_range h];rfl
theorem zA {f g:Nat->Int} {n:NodeP} (hk:0<=ai n.kind) (h: ∀p∈dM n,f p=g p):cA f n=cA g n:=by
 have a:=fun(e:0<ai n.kind)=>h n.a.toNat ((fz hk).2 ⟨0,by omega,e,rfl⟩)
 have b:=fun(e:1<ai n.kind)=>h n.b.toNat ((fz hk).2 ⟨1,by omega,e,rfl⟩)
 have c:=fun(e:2<ai n.kind)=>h n.c.toNat ((fz hk).2 ⟨2,by omega,e,rfl⟩)
 unfold cA
 congr 1
 ·split
  ·rename_i e;exact a e
  ·rfl
 ·split
  ·rename_i e;exact b e
  ·rfl
 ·split
  ·rename_i e;exact c e
  ·rfl
theorem kg {l:List NodeP} {p:Int} (h:da l p=true):0<=p/\p<l.length:=by
 unfold da at h
 have:=eF (Bool.and_eq_true_iff.1 h).1
 exact⟨this.1,this.2.1⟩
theorem LZ {m:ah} {l:List Int} (h: ∀p∈l,0<=p/\p<m.nodes.length/\kY m p.toNat):(l.map fun p=>dv (toL m m.nodes.length) p.toNat)=l.map fun p=>(fu m p.toNat:Int):=by
 refine List.map_congr_left fun p hp=>?_
 obtain⟨h0,h1,h2⟩:=h p hp
 rw [Ll (by omega),if_pos (fe.2 h2)]
theorem Lw {m:ah} {l:List BindP} (h: ∀b∈l,(0<=b.state/\b.state<m.nodes.length)/\(0<=b.node/\b.node<m.nodes.length)/\(kY m b.state.toNat->kY m b.node.toNat)):
  ((l.filter fun b=>decide (0<=dv (toL m m.nodes.length) b.state.toNat)).map fun b=>(⟨dv (toL m m.nodes.length) b.state.toNat,dv (toL m m.nodes.length) b.node.toNat⟩:BindP))=jr m l:=by
 unfold jr
 have e:l.filter (fun b=>decide (0<=dv (toL m m.nodes.length) b.state.toNat))=l.filter fun b=>cP m b.state.toNat:=by
  refine List.filter_congr fun b hb=>?_
  obtain⟨h1,_,_⟩:=h b hb
  rw [Ll (by omega)]
  cases cP m b.state.toNat
  ·rfl
  ·rw [if_pos rfl,decide_eq_true (by omega)]
 rw [e]
 refine List.map_congr_left fun b hb=>?_
 obtain⟨hb,hn⟩:=List.mem_filter.1 hb
 obtain⟨h1,h2,h3⟩:=h b hb
 rw [Ll (by omega),Ll (by omega),if_pos hn,if_pos (fe.2 (h3 (fe.1 hn)))]
theorem fY {m:ah} (gd:cr m) {b:BindP} (hb:b∈m.inits\/b∈m.nexts):(0<=b.state/\b.state<m.nodes.length)/\(0<=b.node/\b.node<m.nodes.length)/\(kY m b.state.toNat->kY m b.node.toNat):=by
 rcases hb with hb|hb
 ·have h1:=eF (eR (gd.ini b hb)).1
  have h2:=eF (eR (gd.ini b hb)).2.1
  exact⟨⟨h1.1,h1.2.1⟩,⟨h2.1,h2.2.1⟩,fun h=> .ini h hb (by omega)⟩
 ·have h1:=eF (dm (gd.nex b hb)).1
  have h2:=eF (dm (gd.nex b hb)).2.1
  exact⟨⟨h1.1,h1.2.1⟩,⟨h2.1,h2.2.1⟩,fun h=> .nex h hb (by omega)⟩
theorem Kn.shift {g h h' h0:Hp} {L X:List (Nat×Blk)} {s:Sl} {sz:Nat} {cs:List Value} (l0:h0.le g) (K:Kn g h L) (K':Kn h h' X) (o:bT X s sz cs) (hn:s.n<=9223372036854775807): ∃g',g.le g'/\Kn g' h' L/\SlC (g'.sub h0) s sz cs:=by
 have hsub: ∀e∈X,(h'.sub h) e.1=some e.2:=fun e he=>by
  unfold Hp.sub
  rw [K'.new e he]
  exact K'.mem e he
 refine⟨_,(K.mono K'.le).leBase,(K.mono K'.le).base,(o.slcOf hn hsub).mono fun c x e=>?_⟩
 have e2:=xU K c x e
 have e0:h0 c=none:=aG (Hp.le_trans l0 K.le) (lZ (by rw [e];simp))
 rw [ln e0];exact e2
abbrev slN :Value:= .slice none 0 0
theorem Bm (h:Hp):aO h ⟨⟨none,0,0⟩,⟨none,0,0⟩,⟨none,0,0⟩,⟨none,0,0⟩,⟨none,0,0⟩⟩ ⟨[], [], [], [], []⟩:=by
 have z: ∀sz,SlC h ⟨none,0,0⟩ sz []:=fun sz=>⟨by simp,by simp, .inl rfl⟩
 exact⟨z 9,z 2,z 2,z 1,z 1,Nat.le_refl _⟩
set_option maxHeartbeats 2000000 in
theorem vB {h:Hp} {M:MSl} {m:ah} {R:Value->Hp->Prop} (hs:aO h M m) (hm:bR m)
  (k: ∀M' h',h.le h'->aO (h'.sub h) M' (i7 m)->R (aQ M') h'):ia #[aQ M] h R:=by
 apply Gn
 refine uf_ ?_
 (with_reducible apply Kn.al);(exact Kn.nil h);(intro b7 h1 K1 l1 hb7)
 refine Kn.al K1 fun b9 h2 K2 l2 hb9=>?_
 clear K1
 repeat' (refine kr_ ?_)
 refine cj (hs.mono K2.le) hm ⟨_,rfl,?_⟩
 unfold i7 at k
 refine ad (fun e=>?_) (fun e=>?_)
 ·rw [if_neg (iW e)]at k
  refine kw_ ?_
  intro h3 K3 _
  simp only [bX,List.set_cons_zero,List.set_cons_succ,Nat.zero_add,Nat.reduceAdd]at K3
  refine⟨⟨none,0,0⟩,by rw [ax (K3.at (.head _))];rfl,⟨none,0,0⟩,by rw [ax (K3.at (.head _))];rfl,⟨none,0,0⟩,by rw [ax (K3.at (.head _))];rfl,⟨none,0,0⟩,by rw [ax (K3.at (.head _))];rfl,⟨none,0,0⟩,by rw [ax (K3.at (.head _))];rfl,?_⟩
  exact k _ h3 K3.le (Bm _)
 have hc:=fZ e
 rw [if_pos hc]at k
 have gd:=cD hc
 have hN:=gd.nl
 have hah:=dH gd.ok
 repeat' (refine kr_ ?_)
 refine BC (hs.mono K2.le) hm gd fun h3 bn Kn3=>⟨_,rfl,?_⟩
 have K3:=K2.app Kn3.le (fun e he=>Kn3.new e he) (fun e he=>Kn3.mem e he) Kn3.nd
 clear K2 Kn3
 refine Kn.al K3 fun b40 h4 K4 l4 hb40=>?_
 obtain⟨g2,KA,KL⟩:=Kn.cut (A:= [(b7, .inl ⟨aH M,5,false⟩),(bn, .inl ⟨mkC m.nodes.length (cP m),m.nodes.length,false⟩)]) (L:= [(b40, .inl ⟨[slN,slN,slN,slN,slN],5,false⟩),(b9, .inl ⟨[slN,slN,slN,slN,slN],5,false⟩)])
  (K4.perm (List.perm_append_comm (l₁:= [_,_]) (l₂:= [_,_])))
 clear K3 K4 l4 hb40
 have f7:=KA.at (b:=b7) (by((focus ((repeat first|exact .head _|apply List.Mem.tail);done))))
 have fn:=KA.at (b:=bn) (by((focus ((repeat first|exact .head _|apply List.Mem.tail);done))))
 have x7:=cf f7
 have xn:=cf fn
 have hs2:=hs.mono KA.le
 have l02:=KA.le
 have hnl:=hs2.nodes.len
 clear KA
 refine au m.nodes.length (fun i vs h'=> ∃(sN sT:Sl) (XN XT:List (Nat×Blk)),vs= [.pointer (some ⟨b7,0,none⟩), .pointer (some ⟨b9,0,none⟩),(arr bn m.nodes.length).v, .pointer (some ⟨b40,0,none⟩),sT.v,I (i:Nat)]/\
  Kn g2 h' ((b40, .inl ⟨[sN.v,slN,slN,slN,slN],5,false⟩)::(b9, .inl ⟨[slN,slN,slN,slN,slN],5,false⟩)::(XN++XT))/\bT XN sN 9 ((gZ m i).flatMap nodeCells)/\bT XT sT 1 ((toL m i).map I))
  ⟨⟨none,0,0⟩,⟨none,0,0⟩, [], [],rfl,KL,cF 9,cF 1⟩ ?_
 clear KL
 rintro i _ h5 next hi ⟨sN,sT,XN,XT,rfl,K5,oN,oT⟩ hnx
 refine⟨b7,0,b9,0,arr bn _,b40,0,sT,_,rfl,?_⟩
 have hsN:=oN.1
 rw [ck (m:=9) (fun _=>rfl),lq]at hsN
 have hsT:=oT.1
 rw [List.length_map,BR]at hsT
 have hcp:=PB m i
 by_cases hlt:i<m.nodes.length
 ·refine aM (decide_eq_true (by show _<((m.nodes.length:Nat):Int);omega)) ?_
  refine ap (fun J=> ∀(sN' sT':Sl) (XN' XT':List (Nat×Blk)) h',Kn g2 h' ((b40, .inl ⟨[sN'.v,slN,slN,slN,slN],5,false⟩)::(b9, .inl ⟨[slN,slN,slN,slN,slN],5,false⟩)::(XN'++XT'))->
   bT XN' sN' 9 ((gZ m (i+1)).flatMap nodeCells)->bT XT' sT' 1 ((toL m (i+1)).map I)->J sT' h') (fun sN' sT' XN' XT' h' K' a' b'=>?_) (fun J hJ=>?_)
  ·rw [ay (by omega)]
   exact hnx hlt _ _ ⟨sN',sT',XN',XT',rfl,K',a',b'⟩
  refine⟨bn,0,rfl,by omega,by show _<((m.nodes.length:Nat):Int);omega,cP m i,by rw [ax (K5.le _ _ fn),show (0+Int.toNat (i:Int)*1)=i by simp];exact pL _ hlt,?_⟩
  refine ad (fun e=>?_) (fun e=>?_)
  ·rw [Bool.not_eq_true']at e
   refine Kn.al K5 fun b66 h6 K6 l6 hb66=>?_
   refine Kn.growIn (A:= [(b66, .inl ⟨[I (-1)],1,false⟩),(b40, .inl ⟨[sN.v,slN,slN,slN,slN],5,false⟩),(b9, .inl ⟨[slN,slN,slN,slN,slN],5,false⟩)]++XN) (L:= []) (by rw [List.append_nil,List.append_assoc];exact K6) oT (by omega) (by omega) (by omega)
    ⟨b66,0,rfl,aw (K6.at (.head _))⟩ rfl rfl fun sT' XT' h7 hn7 oT' K7 _=>?_
   refine hJ sN sT' XN XT' h7 ?_ (by rw [uV e];exact oN) (by rw [R6,e,List.map_append];exact oT')
   rw [List.append_nil,List.append_assoc]at K7
   exact K7.tl
  ·rw [Bool.not_eq_false']at e
   obtain⟨nd,hni⟩: ∃n,m.nodes[i]?=some n:=⟨_,List.getElem?_eq_getElem hlt⟩
   repeat' (refine kr_ ?_)
   obtain⟨b,o,ha,c0,c1,c2,c3,c4,c5,c6,c7,c8⟩:=(hs2.mono K5.le).nodes.at hni
   refine⟨b,o,ha,by omega,by omega,?_⟩
   rw [Int.toNat_natCast]
   refine⟨_,c0,_,c1,_,c2,_,c3,_,c4,_,c5,_,c6,_,c7,_,c8,?_⟩
   have hf:=fS gd.ok hni
   have hk:=fA hf
   have hT:IntS h5 sT (toL m i):=oT.slcOf (by omega) fun x hx=>K5.mem x (.tail _ (.tail _ (List.mem_append_right _ hx)))
   refine Qo hT hk (fun j h3 hj=>by have:=iQ hf h3 hj;rw [BR];exact⟨this.1,by omega⟩) ⟨_,_,_,_,_,_,_,_,_,rfl,?_⟩
   have hpt:cA (dv (toL m i)) nd=cA (fun p=>(fu m p:Int)) nd:=zA hk fun p hp=>by
    have hpi:=(hah i nd hni).2 p hp
    rw [Ll hpi,if_pos (fe.2 (.part (fe.1 e) hni hp))]
   rw [hpt]
   have hne:=rW e
   rw [xY hni]at hne
   generalize cA (fun p=>(fu m p:Int)) nd=nn at*
   clear hpt ha c0 c1 c2 c3 c4 c5 c6 c7 c8 hT
   repeat' (refine kr_ ?_)
   refine Kn.al K5 fun b97 h6 K6 l6 hb97=>?_
   repeat' (refine kr_ ?_)
   refine Kn.growIn (A:= [(b97, .inl ⟨nodeCells nn,9,false⟩),(b40, .inl ⟨[sN.v,slN,slN,slN,slN],5,false⟩),(b9, .inl ⟨[slN,slN,slN,slN,slN],5,false⟩)]) (L:=XT) K6 oN (by omega) (by omega) (by omega)
    ⟨b97,0,rfl,aw (K6.at (.head _))⟩ rfl rfl fun sN' XN' h7 hn7 oN' K7 _=>?_
   clear K5 K6
   simp only [List.cons_append,List.nil_append]at K7
   refine kw_ ?_
   intro h8 K8 _
   rw [bG,List.set_cons_zero,show (Value.slice sN'.a sN'.n sN'.c)=sN'.v from rfl]at K8
   replace K8:=K8.tl
   clear K7
   repeat' (refine kr_ ?_)
   have hw:W (((sN'.n:Nat):Int)-1)=((fu m i:Nat):Int):=by rw [cd (by omega) (by omega)];omega
   rw [hw]
   refine Kn.al K8 fun b108 h9 K9 l9 hb108=>?_
   refine Kn.growIn (A:= [(b108, .inl ⟨[I (fu m i:Nat)],1,false⟩),(b40, .inl ⟨[sN'.v,slN,slN,slN,slN],5,false⟩),(b9, .inl ⟨[slN,slN,slN,slN,slN],5,false⟩)]++XN') (L:= []) (by rw [List.append_nil,List.append_assoc];exact K9) oT (by omega) (by omega) (by omega)
    ⟨b108,0,rfl,aw (K9.at (.head _))⟩ rfl rfl fun sT' XT' h10 hn10 oT' K10 _=>?_
   refine hJ sN' sT' XN' XT' h10 ?_ (by rw [hne,List.flatMap_append];exact oN') (by rw [R6,if_pos e,List.map_append];exact oT')
   rw [List.append_nil,List.append_assoc]at K10
   exact K10.tl
 refine aC (decide_eq_false (by show¬_<((m.nodes.length:Nat):Int);omega)) ?_
 obtain rfl:i=m.nodes.length:=by omega
 clear hnx hlt hi next
 obtain⟨g3,KA,KL⟩:=Kn.cut (A:=XN++XT) (L:= [(b40, .inl ⟨[sN.v,slN,slN,slN,slN],5,false⟩),(b9, .inl ⟨[slN,slN,slN,slN,slN],5,false⟩)]) (K5.perm (List.perm_append_comm (l₁:= [_,_])))
 have hNo:gy (g3.sub h) sN (gZ m m.nodes.length):=oN.slcOf (by omega) fun x hx=>by rw [ln (aG l02 (KA.new x (List.mem_append_left _ hx)))];exact KA.mem x (List.mem_append_left _ hx)
 have hT:IntS g3 sT (toL m m.nodes.length):=oT.slcOf (by omega) fun x hx=>KA.mem x (List.mem_append_right _ hx)
 have l23:=KA.le
 have hcap:=oN.2.1
 clear K5 KA oN oT
 replace f7:=l23 _ _ f7
 replace hs2:=hs2.mono l23
 replace l02:=Hp.le_trans l02 l23
 clear l23 fn xn x7
 have hbi:=fun b (hb:b∈m.inits)=>fY gd (.inl hb)
 have hbx:=fun b (hb:b∈m.nexts)=>fY gd (.inr hb)
 have hpb: ∀p∈m.bads,0<=p/\p<m.nodes.length/\kY m p.toNat:=fun p hp=>⟨(kg (gd.bad p hp)).1,(kg (gd.bad p hp)).2, .bad hp⟩
 have hph: ∀p∈m.holds,0<=p/\p<m.nodes.length/\kY m p.toNat:=fun p hp=>⟨(kg (gd.hol p hp)).1,(kg (gd.hol p hp)).2, .hold hp⟩
 have eI:=Lw hbi
 have eX:=Lw hbx
 have eB:=LZ hpb
 have eH:=LZ hph
 have hil:=gd.il
 have hxl:=gd.xl
 have hbl:=gd.bl
 have hhl:=gd.hl
 repeat' (refine kr_ ?_)
 refine EZ (hs2.mono KL.le).inits (hT.mono KL.le) hm.inits (fun b hb=>by rw [BR];exact⟨(hbi b hb).1,(hbi b hb).2.1⟩) fun s1 h6 X1 KX o1=>⟨_,rfl,?_⟩
 rw [eI]at o1
 have hl1:s1.n<=60:=by
  have:=o1.1
  rw [ck (m:=2) (fun _=>rfl)]at this
  unfold jr at this
  rw [List.length_map]at this
  have:=List.length_filter_le (fun b=>cP m b.state.toNat) m.inits
  omega
 obtain⟨g4,l34,K6,hI⟩:=Kn.shift l02 KL KX o1 (by omega)
 clear KL KX o1
 replace f7:=l34 _ _ f7
 replace hs2:=hs2.mono l34
 replace l02:=Hp.le_trans l02 l34
 replace hNo:=hNo.mono (eO h l34)
 replace hT:=hT.mono l34
 clear l34
 refine kw_ ?_
 intro h7 K7 _
 simp only [bX,List.set_cons_zero,List.set_cons_succ,Nat.zero_add,Nat.reduceAdd]at K7
 clear K6
 repeat' (refine kr_ ?_)
 refine EZ (hs2.mono K7.le).nexts (hT.mono K7.le) hm.nexts (fun b hb=>by rw [BR];exact⟨(hbx b hb).1,(hbx b hb).2.1⟩) fun s2 h8 X2 KX o2=>⟨_,rfl,?_⟩
 rw [eX]at o2
 have hl2:s2.n<=60:=by
  have:=o2.1
  rw [ck (m:=2) (fun _=>rfl)]at this
  unfold jr at this
  rw [List.length_map]at this
  have:=List.length_filter_le (fun b=>cP m b.state.toNat) m.nexts
  omega
 obtain⟨g5,l45,K8,hX⟩:=Kn.shift l02 K7 KX o2 (by omega)
 clear K7 KX o2
 replace f7:=l45 _ _ f7
 replace hs2:=hs2.mono l45
 replace l02:=Hp.le_trans l02 l45
 replace hNo:=hNo.mono (eO h l45)
 replace hT:=hT.mono l45
 replace hI:=hI.mono (eO h l45)
 clear l45
 refine kw_ ?_
 intro h9 K9 _
 simp only [bX,List.set_cons_zero,List.set_cons_succ,Nat.zero_add,Nat.reduceAdd]at K9
 clear K8
 repeat' (refine kr_ ?_)
 refine EM (hs2.mono K9.le).bads (hT.mono K9.le) hm.bads (fun p hp=>by rw [BR];exact⟨(hpb p hp).1,(hpb p hp).2.1⟩) fun s3 h10 X3 KX o3=>⟨_,rfl,?_⟩
 rw [eB]at o3
 have hl3:s3.n<=60:=by
  have:=o3.1
  rw [List.length_map,List.length_map]at this
  omega
 obtain⟨g6,l56,K10,hB⟩:=Kn.shift l02 K9 KX o3 (by omega)
 clear K9 KX o3
 replace f7:=l56 _ _ f7
 replace hs2:=hs2.mono l56
 replace l02:=Hp.le_trans l02 l56
 replace hNo:=hNo.mono (eO h l56)
 replace hT:=hT.mono l56
 replace hI:=hI.mono (eO h l56)
 replace hX:=hX.mono (eO h l56)
 clear l56
 refine kw_ ?_
 intro h11 K11 _
 simp only [bX,List.set_cons_zero,List.set_cons_succ,Nat.zero_add,Nat.reduceAdd]at K11
 clear K10
 repeat' (refine kr_ ?_)
 refine EM (hs2.mono K11.le).holds (hT.mono K11.le) hm.holds (fun p hp=>by rw [BR];exact⟨(hph p hp).1,(hph p hp).2.1⟩) fun s4 h12 X4 KX o4=>⟨_,rfl,?_⟩
 rw [eH]at o4
 have hl4:s4.n<=60:=by
  have:=o4.1
  rw [List.length_map,List.length_map]at this
  omega
 obtain⟨g7,l67,K12,hH⟩:=Kn.shift l02 K11 KX o4 (by omega)
 clear K11 KX o4
 replace l02:=Hp.le_trans l02 l67
 replace hNo:=hNo.mono (eO h l67)
 replace hI:=hI.mono (eO h l67)
 replace hX:=hX.mono (eO h l67)
 replace hB:=hB.mono (eO h l67)
 clear l67 f7 hs2 hT
 refine kw_ ?_
 intro h13 K13 _
 simp only [bX,List.set_cons_zero,List.set_cons_succ,Nat.zero_add,Nat.reduceAdd]at K13
 clear K12
 repeat' (refine kr_ ?_)
 refine kw_ ?_
 intro h14 K14 _
 simp only [bX,List.set_cons_zero,List.set_cons_succ,Nat.zero_add,Nat.reduceAdd]at K14
 clear K13
 repeat' (refine kr_ ?_)
 exact k ⟨sN,s1,s2,s3,s4⟩ h14 (Hp.le_trans l02 K14.le) ⟨hNo.mono (eO h K14.le),hI.mono (eO h K14.le),hX.mono (eO h K14.le),hB.mono (eO h K14.le),hH.mono (eO h K14.le),hcap⟩
theorem kv {h:Hp} {M:MSl} {m:ah} {R:Value->Hp->Prop} (hs:aO h M m) (hm:bR m)
  (k: ∀M' h',h.le h'->aO h' M' (i7 m)->R (aQ M') h'):ia #[aQ M] h R:=
 vB hs hm fun M' h' l hM=>k M' h' l (hM.mono (sub_le _ _))
theorem Kn.copy {g h:Hp} {L:List (Nat×Blk)} {s:Sl} {sz by_:Nat} {cs:List Value} {C:Option Addr->Nat->Nat->Hp->Prop} (K:Kn g h L) (hs:SlC h s sz cs) (hsz:s.n*by_<=140737488355328) (ho:cs.all (·.oneCell')=true)
  (k: ∀s' X' h',bT X' s' sz cs->Kn g h' (L++X')->s'.n=s.n->C s'.a s'.n s'.c h'):cy h none 0 0 s.a s.n sz by_ C:=by
 by_cases h0:s.n=0
 ·have hc:cs= []:=List.eq_nil_of_length_eq_zero (by rw [hs.2.1,h0,Nat.zero_mul])
  subst hc
  rw [h0]
  exact .inl ⟨rfl,Nat.le_refl _,k ⟨none,0,0⟩ [] h (cF sz) (by rw [List.append_nil];exact K) h0.symm⟩
 ·obtain⟨b,o,ha,hc⟩:=hs.get (by omega)
  refine Kn.growIn (A:=L) (X:= []) (L:= []) (s:=⟨none,0,0⟩) (cs:= []) (by simpa using K) (cF sz) (by omega) (by rw [Nat.zero_add];exact hsz) (by have:=hs.1;dsimp only;omega) ⟨b,o,ha,hc⟩ hs.2.1 ho fun s' X' h' hn o' K' _=>?_
  rw [List.append_nil]at K'
  rw [List.nil_append]at o'
  exact k s' X' h' o' K' (by dsimp only at hn;omega)
theorem Pv (l:List BindP):(l.flatMap bindCells).all (·.oneCell')=true:=by
 rw [List.all_eq_true];intro v hv;obtain⟨x,_,hx⟩:=List.mem_flatMap.1 hv;simp at hx;rcases hx with rfl|rfl<;>rfl
theorem aa3 (l:List Int):(l.map I).all (·.oneCell')=true:=by
 rw [List.all_eq_true];intro v hv;obtain⟨x,_,rfl⟩:=List.mem_map.1 hv;rfl
theorem Px (l:List NodeP):(l.flatMap nodeCells).all (·.oneCell')=true:=by
 rw [List.all_eq_true];intro v hv;obtain⟨x,_,hx⟩:=List.mem_flatMap.1 hv
 simp at hx;rcases hx with rfl|rfl|rfl|rfl|rfl|rfl|rfl|rfl|rfl<;>rfl
theorem CR {g h:Hp} {L:List (Nat×Blk)} {s:Sl} {l:List BindP} {R:Value->Hp->Prop} (K:Kn g h L) (hs:iL h s l) (hl:l.length<=1048576)
  (k: ∀s' X' h',bT X' s' 2 (l.flatMap bindCells)->Kn g h' (L++X')->R (Sl.v s') h'):mF #[s.v] h R:=by
 apply E7
 refine uf_ ?_
 have:=hs.len
 exact K.copy hs (by omega) (Pv l) fun s' X' h' o K' _=>k s' X' h' o K'
theorem Eg {g h:Hp} {L:List (Nat×Blk)} {s:Sl} {l:List Int} {R:Value->Hp->Prop} (K:Kn g h L) (hs:IntS h s l) (hl:l.length<=1048576)
  (k: ∀s' X' h',bT X' s' 1 (l.map I)->Kn g h' (L++X')->R (Sl.v s') h'):et #[s.v] h R:=by
 apply xR
 refine uf_ ?_
 have:=hs.len
 exact K.copy hs (by omega) (aa3 l) fun s' X' h' o K' _=>k s' X' h' o K'
structure agM (XN XI XX XB XH:List (Nat×Blk)) (M:MSl) (m:ah):Prop where
 no:bT XN M.no 9 (m.nodes.flatMap nodeCells)
 ini:bT XI M.ini 2 (m.inits.flatMap bindCells)
 nex:bT XX M.nex 2 (m.nexts.flatMap bindCells)
 bad:bT XB M.bad 1 (m.bads.map I)
 hol:bT XH M.hol 1 (m.holds.map I)
set_option maxHeartbeats 1000000 in
theorem nu {h:Hp} {M:MSl} {m:ah} {R:Value->Hp->Prop} (hs:aO h M m) (hm:bR m)
  (k: ∀M' XN XI XX XB XH h',agM XN XI XX XB XH M' m->Kn h h' (XN++(XI++(XX++(XB++XH))))->R (aQ M') h'):hG #[aQ M] h R:=by
 apply Dk
 refine uf_ ?_
 (with_reducible apply Kn.al);(exact Kn.nil h);(intro b7 h1 K1 l1 hb7)
 refine Kn.al K1 fun b9 h2 K2 l2 hb9=>?_
 clear K1
 obtain⟨g1,KA,K⟩:=Kn.cut (A:= [(b7, .inl ⟨aH M,5,false⟩)]) (L:= [(b9, .inl ⟨[slN,slN,slN,slN,slN],5,false⟩)]) K2.sw
 have f7:=KA.at (.head _)
 have x7:=cf f7
 have hs1:=hs.mono KA.le
 have l01:=KA.le
 clear K2 KA
 have n1:=hs.nodes.len
 have n2:=hm.nodes
 repeat' (refine kr_ ?_)
 refine K.copy (hs1.mono K.le).nodes (by omega) (Px _) fun sN XN h3 oN K3 _=>?_
 repeat' (refine kr_ ?_)
 refine CR K3 (hs1.mono K3.le).inits hm.inits fun sI XI h4 oI K4=>⟨_,rfl,?_⟩
 repeat' (refine kr_ ?_)
 refine CR K4 (hs1.mono K4.le).nexts hm.nexts fun sX XX h5 oX K5=>⟨_,rfl,?_⟩
 repeat' (refine kr_ ?_)
 refine Eg K5 (hs1.mono K5.le).bads hm.bads fun sB XB h6 oB K6=>⟨_,rfl,?_⟩
 repeat' (refine kr_ ?_)
 refine Eg K6 (hs1.mono K6.le).holds hm.holds fun sH XH h7 oH K7=>⟨_,rfl,?_⟩
 clear K K3 K4 K5 K6
 simp only [List.cons_append,List.nil_append,List.append_assoc]at K7
 refine kw_ ?_
 intro h8 K8 _
 simp only [bX,List.set_cons_zero,List.set_cons_succ,Nat.zero_add,Nat.reduceAdd]at K8
 replace K8:Kn g1 h8 ((b9, .inl ⟨[sN.v,sI.v,sX.v,sB.v,sH.v],5,false⟩)::(XN++(XI++(XX++(XB++XH))))):=K8
 clear K7
 repeat' (refine kr_ ?_)
 exact k ⟨sN,sI,sX,sB,sH⟩ XN XI XX XB XH h8 ⟨oN,oI,oX,oB,oH⟩ (K8.tl.weak l01)
theorem Qy {h:Hp} {b3 bk z n:Nat} {f:Nat->Bool} {x:BindP} {R:Value->Hp->Prop} (f3:h b3=some (.inl ⟨[(arr bk n).v],z,false⟩)) (fk:h bk=some (.inl ⟨mkC n f,n,false⟩)) (h0:0<=x.state) (hx:x.state<n)
  (k:R (.bool (!f x.state.toNat)) h):uo #[wH x, .pointer (some ⟨b3,0,none⟩)] h R:=by
 refine ACalls.drop (Ci ?_)
 refine uf_ ?_
 (with_reducible apply Kn.al);(exact Kn.nil h);(intro b6 h1 K1 l1 hb6)
 have x3:=cf f3
 repeat' (refine kr_ ?_)
 refine⟨h0,by show _<((n:Nat):Int);omega,f x.state.toNat,by rw [ax (l1 _ _ fk),Nat.zero_add,Nat.mul_one];exact pL f (by omega),h,l1,k⟩
set_option maxHeartbeats 1000000 in
theorem Hs {h:Hp} {n:NodeP} {t:Sl} {to:List Int} {R:Value->Hp->Prop} (ht:IntS h t to) (hk:0<=ai n.kind) (hp: ∀i:Nat,i<3->(i:Int)<ai n.kind->0<=az n i/\az n i<to.length)
  (k:R (pF (cA (dv to) n)) h):lF #[pF n,t.v] h R:=by
 refine ACalls.drop (DD ?_)
 refine uf_ ?_
 (with_reducible apply Kn.al);(exact Kn.nil h);(intro b12 h1 K1 l1 hb12)
 refine Kn.al K1 fun b14 h2 K2 l2 hb14=>?_
 refine Kn.al K2 fun b17 h3 K3 l3 hb17=>?_
 clear K1 K2
 obtain⟨P,hP⟩: ∃P:Nat->Int,P=fun(i:Nat)=>if(i:Int)<ai n.kind then dv to (az n i).toNat else az n i:=⟨_,rfl⟩
 have hres:cA (dv to) n={n with a:=P 0,b:=P 1,c:=P 2}:=by rw [hP];rfl
 rw [hres]at k
 clear hres
 have hP1: ∀i:Nat,(i:Int)<ai n.kind->P i=dv to (az n i).toNat:=fun i hi=>by rw [hP];exact if_pos hi
 have hP2: ∀i:Nat,¬(i:Int)<ai n.kind->P i=az n i:=fun i hi=>by rw [hP];exact if_neg hi
 clear hP
 let Q:Nat->Nat->Int:=fun i j=>if j<i then P j else az n j
 refine au 3 (fun i vs h'=>vs= [t.v, .pointer (some ⟨b12,0,none⟩), .pointer (some ⟨b14,0,none⟩),(arr b17 3).v,I 3,I (i:Nat)]/\
  Kn h h' ((b17, .inl ⟨[.pointer (some ⟨b12,1,none⟩), .pointer (some ⟨b12,2,none⟩), .pointer (some ⟨b12,3,none⟩)],3,false⟩)::(b14, .inl ⟨[I 0,I 0,I 0,I 0,I 0,I 0,I 0,I 0, .string ⟨#[]⟩],9,false⟩)::
   (b12, .inl ⟨[I n.kind,I (Q i 0),I (Q i 1),I (Q i 2),I n.n,I n.m,I n.sort.idx,I n.sort.wid, .string n.name],9,false⟩):: [])) ⟨rfl,K3⟩ ?_
 clear K3
 rintro i _ h4 next hi ⟨rfl,K4⟩ hnx
 refine⟨t,b12,0,b14,0,arr b17 3,_,_,rfl,?_⟩
 by_cases hlt:i<3
 rotate_left
 ·obtain rfl:i=3:=by omega
  refine aC (by decide) ?_
  repeat' (refine kr_ ?_)
  refine kw_ ?_
  intro h5 K5 _
  simp only [bX,List.set_cons_zero,List.set_cons_succ,Nat.zero_add,Nat.reduceAdd]at K5
  clear K4
  repeat' (refine kr_ ?_)
  exact⟨h,K5.le,k⟩
 refine aM (decide_eq_true (by omega)) ?_
 have hQ: ∀j,j≠i->Q i j=Q (i+1) j:=fun j hj=>by
  show (if j<i then P j else az n j)=(if j<i+1 then P j else az n j)
  by_cases q:j<i
  ·rw [if_pos q,if_pos (by omega)]
  ·rw [if_neg q,if_neg (by omega)]
 have hQi:Q i i=az n i:=if_neg (Nat.lt_irrefl i)
 have hQs:Q (i+1) i=P i:=if_pos (Nat.lt_succ_self i)
 refine ap (fun J=> ∀h',Kn h h' ((b17, .inl ⟨[.pointer (some ⟨b12,1,none⟩), .pointer (some ⟨b12,2,none⟩), .pointer (some ⟨b12,3,none⟩)],3,false⟩)::(b14, .inl ⟨[I 0,I 0,I 0,I 0,I 0,I 0,I 0,I 0, .string ⟨#[]⟩],9,false⟩)::
   (b12, .inl ⟨[I n.kind,I (Q (i+1) 0),I (Q (i+1) 1),I (Q (i+1) 2),I n.n,I n.m,I n.sort.idx,I n.sort.wid, .string n.name],9,false⟩):: [])->J h') (fun h' K'=>?_) (fun J hJ=>?_)
 ·rw [ay (by omega)]
  exact hnx hlt _ _ ⟨rfl,K'⟩
 have f17:=K4.at (.head _)
 have fb:=K4.at (.tail _ (.tail _ (.head _)))
 refine⟨b17,0,rfl,by omega,by show _<((3:Nat):Int);omega,some ⟨b12,i+1,none⟩,?_,?_⟩
 ·rw [ax f17]
  obtain rfl|rfl|rfl:i=0\/i=1\/i=2:=by omega
  all_goals rfl
 repeat' (refine kr_ ?_)
 refine dZ ⟨_,rfl,?_⟩
 refine ad (fun e=>?_) (fun e=>?_)
 ·rw [decide_eq_true_eq]at e
  have hr:=hp i hlt e
  obtain⟨b,o,ha,q0,q1,hc⟩:=(ht.mono K4.le).rd hr.1 hr.2
  refine⟨b12,i+1,rfl,az n i,?_,b,o,ha,q0,q1,_,hc,b12,i+1,rfl,?_⟩
  ·rw [ax fb,<-hQi]
   obtain rfl|rfl|rfl:i=0\/i=1\/i=2:=by omega
   all_goals rfl
  clear f17 fb
  rw [<-hP1 i e,<-hQs]
  (((with_reducible apply Kn.wr);(assumption);((focus ((repeat first|exact .head|apply Upd.tail);done)))))
  ·show i+1+1<=9;omega
  intro h5 K5 _
  refine hJ h5 ?_
  rw [bG]at K5
  obtain rfl|rfl|rfl:i=0\/i=1\/i=2:=by omega
  ·rw [hQ 1 (by omega),hQ 2 (by omega)]at K5;exact K5
  ·rw [hQ 0 (by omega),hQ 2 (by omega)]at K5;exact K5
  ·rw [hQ 0 (by omega),hQ 1 (by omega)]at K5;exact K5
 ·rw [decide_eq_false_iff_not]at e
  refine hJ h4 ?_
  have hsame: ∀j,Q i j=Q (i+1) j:=fun j=>by
   by_cases q:j=i
   ·subst q;rw [hQi,hQs,hP2 j e]
   ·exact hQ j q
  rw [hsame 0,hsame 1,hsame 2]at K4;exact K4
theorem Gb : ∀{ys:List BindP} {m:Nat} {x:BindP},m<ys.length->bX (ys.flatMap bindCells) (m*2) [I x.state,I x.node]=(ys.set m x).flatMap bindCells
 | [],m,x,h=>by simp at h
 |y::ys,0,x,_=>rfl
 |y::ys,m+1,x,h=>by
  have ih:=Gb (ys:=ys) (m:=m) (x:=x) (by simpa using h)
  simp only [bX]at ih⊢
  rw [show (m+1)*2=m*2+2 by omega,List.flatMap_cons,List.set_cons_succ,List.flatMap_cons,<-ih]
  rfl
set_option maxHeartbeats 1000000 in
theorem DW {g h:Hp} {b c:Nat} {xs:List BindP} {f:FuncId} {u w:Array Value} (p:BindP->Bool) {R:Value->Hp->Prop} (K:Kn g h [(b, .inl ⟨xs.flatMap bindCells,c*2,false⟩)]) (hcap:xs.length<=c) (hl:xs.length<=1048576)
  (hf: ∀x∈xs,∀h',g.le h'-> ∀R:Value->Hp->Prop,R (.bool (p x)) h'->ACalls PR f ((u++ #[wH x])++w) h' R)
  (k: ∀(s':Sl) h' cs',Kn g h' [(b, .inl ⟨cs',c*2,false⟩)]->(∀g':Hp,g' b=some (.inl ⟨cs',c*2,false⟩)->iL g' s' (xs.filter fun x=> !p x))->R (Sl.v s') h'):
  cU #[(Sl.mk (some ⟨b,0,none⟩) xs.length c).v, .func (.func f) u w] h R:=by
 refine gV (s1:=⟨some ⟨b,0,none⟩,xs.length,c⟩) ?_
 refine uf_ ?_
 have hs:iL h ⟨some ⟨b,0,none⟩,xs.length,c⟩ xs:=⟨by show xs.length<=_;omega,ck (m:=2) (fun _=>rfl) xs, .inr ⟨b,0,rfl,aw (K.at (.head _))⟩⟩
 refine om p hs hl (fun x hx R k=>hf x hx h K.le R k) ⟨_,rfl,?_⟩
 by_cases hany:xs.any p=false
 ·rw [uL hany]
  refine aM rfl (k _ h _ K fun g' f=>?_)
  have:(xs.filter fun x=> !p x)=xs:=by
   rw [List.filter_eq_self]
   intro x hx
   rw [List.any_eq_false]at hany
   simpa using hany x hx
  rw [this]
  exact⟨by show xs.length<=_;omega,ck (m:=2) (fun _=>rfl) xs, .inr ⟨b,0,rfl,aw f⟩⟩
 rcases Sr p xs with hno|⟨q,hq,hpq,hbef⟩
 ·exact absurd (List.any_eq_false.2 fun x hx=>by simp [hno x hx]) hany
 have htk:(xs.take q).any p=false:=by
  rw [List.any_eq_false]
  intro x hx
  obtain⟨j,hj,rfl⟩:=List.getElem_of_mem hx
  simp only [List.length_take]at hj
  rw [List.getElem_take]
  simp [hbef j (by omega) (by omega)]
 rw [BQ hq htk hpq]
 refine aC (by simp) ?_
 rw [ay (by omega)]
 have hft:((xs.take q).filter fun x=> !p x)=xs.take q:=by
  rw [List.filter_eq_self]
  intro x hx
  rw [List.any_eq_false]at htk
  simpa using htk x hx
 have hft2:((xs.take (q+1)).filter fun x=> !p x)=xs.take q:=by
  rw [List.take_succ_eq_append_getElem hq,List.filter_append,hft];simp [hpq]
 refine nr (xs.length-(q+1)) (fun r vs h'=> ∃(m j:Nat) (ys:List BindP),vs= [(Sl.mk (some ⟨b,0,none⟩) xs.length c).v, .func (.func f) u w,I (m:Nat),I (j:Nat)]/\Kn g h' [(b, .inl ⟨ys.flatMap bindCells,c*2,false⟩)]/\ys.length=xs.length/\j<=xs.length/\m<j/\
   ys.take m=((xs.take j).filter fun x=> !p x)/\ys.drop j=xs.drop j/\r=xs.length-j/\((xs.take j).filter fun x=> !p x).length=m)
  ⟨q,q+1,xs,rfl,K,rfl,by omega,by omega,hft2.symm,rfl,rfl,by rw [hft2];simp;omega⟩ ?_
 clear K hs
 rintro r _ h1 next ⟨m,j,ys,rfl,K,hyl,hj,hmj,htake,hdrop,rfl,hlen⟩ hnx
 refine⟨⟨some ⟨b,0,none⟩,xs.length,c⟩,_,_,_,_,_,rfl,?_⟩
 by_cases hlt:j<xs.length
 ·obtain⟨x,hx⟩: ∃x,xs[j]?=some x:=⟨_,List.getElem?_eq_getElem hlt⟩
  have hxy:ys[j]?=some x:=by
   have:=congrArg (fun l:List BindP=>l[0]?) hdrop
   simp only [List.getElem?_drop,Nat.add_zero]at this
   rw [this];exact hx
  have hxs:xs[j]=x:=by rw [List.getElem?_eq_getElem hlt]at hx;exact Option.some.inj hx
  refine aM (decide_eq_true (by show _<((xs.length:Nat):Int);omega)) ?_
  have fb:=K.at (.head _)
  refine⟨b,0,rfl,by omega,by show _<((xs.length:Nat):Int);omega,x.state,?_,x.node,?_,?_⟩
  ·rw [ax fb,show (0+Int.toNat (j:Int)*2)=j*2+0 by simp,mP (m:=2) (fun _=>rfl) ys j x 0 hxy (by omega)];rfl
  ·rw [ax fb,show (0+Int.toNat (j:Int)*2+1)=j*2+1 by simp,mP (m:=2) (fun _=>rfl) ys j x 1 hxy (by omega)];rfl
  refine Kn.al K fun b31 h2 K2 l2 hb31=>?_
  clear fb
  refine kw_ ?_
  intro h3 K3 _
  simp only [bX,List.set_cons_zero,List.set_cons_succ,Nat.zero_add,Nat.reduceAdd]at K3
  clear K K2
  repeat' (refine kr_ ?_)
  refine hf x (List.mem_of_getElem? hx) h3 K3.le _ ⟨_,rfl,ad (fun he=>?_) (fun he=>?_)⟩
  ·have he':p xs[j]=false:=by rw [hxs];simpa using he
   repeat' (refine kr_ ?_)
   refine⟨by omega,by show _<((xs.length:Nat):Int);omega,?_⟩
   (((with_reducible apply Kn.wr);(assumption);((focus ((repeat first|exact .head|apply Upd.tail);done)))))
   ·rw [ck (m:=2) (fun _=>rfl)];simp;omega
   intro h4 K4 _
   rw [show (0+Int.toNat (m:Int)*2)=m*2 by simp,Gb (by omega)]at K4
   rw [ay (by omega),ay (by omega)]
   refine hnx (xs.length-(j+1)) (by omega) _ _ ⟨m+1,j+1,ys.set m x,rfl,K4.tl,by simpa using hyl,by omega,by omega,?_,?_,rfl,?_⟩
   ·rw [pq _ (by omega),htake,List.take_succ_eq_append_getElem hlt,List.filter_append,hxs];rw [hxs]at he';simp [he']
   ·rw [List.drop_set_of_lt (by omega),<-List.drop_drop (i:=1) (j:=j),hdrop,List.drop_drop]
   ·rw [List.take_succ_eq_append_getElem hlt,List.filter_append,List.length_append,hlen];simp [he']
  ·have he':p xs[j]=true:=by rw [hxs];simpa using he
   rw [ay (by omega)]
   refine hnx (xs.length-(j+1)) (by omega) _ _ ⟨m,j+1,ys,rfl,K3.tl,hyl,by omega,by omega,?_,?_,rfl,?_⟩
   ·rw [htake,List.take_succ_eq_append_getElem hlt,List.filter_append];simp [he']
   ·rw [<-List.drop_drop (i:=1) (j:=j),hdrop,List.drop_drop]
   ·rw [List.take_succ_eq_append_getElem hlt,List.filter_append,List.length_append,hlen];simp [he']
 ·obtain rfl:j=xs.length:=by omega
  rw [List.take_length]at htake hlen
  refine aC (decide_eq_false (by show¬_<((xs.length:Nat):Int);omega)) ?_
  refine ap (fun J=> ∀h' cs',Kn g h' [(b, .inl ⟨cs',c*2,false⟩)]->cs'.take (m*2)=(xs.filter fun x=> !p x).flatMap bindCells->J h') ?_ ?_
  ·intro h' cs' K' ht'
   have e0:(if c=(Int.ofNat 0).toNat then 0 else 0+(Int.ofNat 0).toNat*2)=0:=by split<;>rfl
   refine⟨by decide,by show (0:Int)<=(m:Nat);omega,by show ((m:Nat):Int)<=((c:Nat):Int);omega, .inr ⟨b,0,rfl,?_⟩⟩
   dsimp only
   rw [e0]
   have hm:Int.toNat ((m:Nat):Int)-Int.toNat (Int.ofNat 0)=m:=by simp
   rw [hm]
   refine k ⟨some ⟨b,0,none⟩,m,c-Int.toNat (Int.ofNat 0)⟩ h' cs' K' fun g' f=>⟨by show m<=_;omega,by rw [ck (m:=2) (fun _=>rfl),hlen], .inr ⟨b,0,rfl,?_⟩⟩
   intro i v hv
   rw [ax f,Nat.zero_add,<-hv,<-ht',List.getElem?_take_of_lt]
   rw [<-ht']at hv
   have:=(List.getElem?_eq_some_iff.1 hv).1
   simp at this;omega
  ·intro J hJ
   have hcl:(ys.flatMap bindCells).length=xs.length*2:=by rw [ck (m:=2) (fun _=>rfl),hyl]
   have htk2:(ys.flatMap bindCells).take (m*2)=(xs.filter fun x=> !p x).flatMap bindCells:=by
    rw [<-htake]
    have e:ys.flatMap bindCells=(ys.take m).flatMap bindCells++(ys.drop m).flatMap bindCells:=by rw [<-List.flatMap_append,List.take_append_drop]
    have hl2:((ys.take m).flatMap bindCells).length=m*2:=by rw [ck (m:=2) (fun _=>rfl),List.length_take];omega
    rw [e,List.take_append_of_le_length (by omega),List.take_of_length_le (by omega)]
   have hz:(Int.ofNat xs.length).toNat-Int.toNat ((m:Nat):Int)=xs.length-m:=by simp
   refine⟨by omega,by show ((m:Nat):Int)<=((xs.length:Nat):Int);omega,by show ((xs.length:Nat):Int)<=((c:Nat):Int);omega, .inr ⟨b,0,rfl, .inr ?_⟩⟩
   dsimp only
   rw [hz,if_neg (by rw [Int.toNat_natCast];omega)]
   have hm2:0+Int.toNat ((m:Nat):Int)*2=m*2:=by simp
   rw [hm2]
   refine⟨b,m*2,ys.flatMap bindCells,c*2,rfl,K.at (.head _),by omega,rfl,by omega,?_⟩
   have K':=K.set (Upd.head (b:=b) (x:= .inl ⟨ys.flatMap bindCells,c*2,false⟩) (y:= .inl ⟨bX (ys.flatMap bindCells) (m*2) (aR #[I 0,I 0] ((xs.length-m)*2)),c*2,false⟩) (L:= []))
   exact hJ _ _ K' (by rw [(Yt _ _ _).1];exact htk2)
theorem tq {g h:Hp} {A X B:List (Nat×Blk)} {s:Sl} {xs:List BindP} {f:FuncId} {u w:Array Value} (p:BindP->Bool) {R:Value->Hp->Prop} (K:Kn g h (A++(X++B))) (o:bT X s 2 (xs.flatMap bindCells)) (hl:xs.length<=1048576)
  (hf: ∀x∈xs,∀h',g.le h'-> ∀R:Value->Hp->Prop,R (.bool (p x)) h'->ACalls PR f ((u++ #[wH x])++w) h' R)
  (k: ∀(s':Sl) g' h',g.le g'->Kn g' h' (A++B)->iL g' s' (xs.filter fun x=> !p x)->R (Sl.v s') h'):
  cU #[s.v, .func (.func f) u w] h R:=by
 have hn:=o.1
 rw [ck (m:=2) (fun _=>rfl)]at hn
 rcases o.2.2 with ⟨rfl,rfl,hc⟩|⟨b,ha,rfl⟩
 ·have hx:xs= []:=List.eq_nil_of_length_eq_zero (by dsimp only at hn;omega)
  subst hx
  refine gV (s1:=⟨none,0,0⟩) ?_
  refine uf_ ?_
  have z: ∀h:Hp,iL h ⟨none,0,0⟩ []:=fun h=>⟨by simp,by simp, .inl rfl⟩
  refine om p (z h) hl (fun x hx=>nomatch hx) ⟨_,rfl,?_⟩
  rw [uL rfl]
  exact aM rfl (k ⟨none,0,0⟩ g h (Hp.le_refl g) K (z g))
 ·obtain⟨sa,sn,sc⟩:=s
  dsimp only at ha hn K
  subst ha
  obtain rfl:sn=xs.length:=by omega
  obtain⟨g1,KA,KX⟩:=Kn.cut (A:=A++B) (L:= [(b, .inl ⟨xs.flatMap bindCells,sc*2,false⟩)]) (K.perm (by
   rw [List.append_assoc]
   exact List.perm_append_comm.append_left _))
  refine DW p KX o.2.1 hl (fun x hx h' l=>hf x hx h' (Hp.le_trans KA.le l)) fun s' h' cs' K' hB=>?_
  have KM:=KA.app K'.le (fun e he=>K'.new e he) (fun e he=>K'.mem e he) K'.nd
  obtain⟨g2,KC,KD⟩:=Kn.cut (A:= [(b, .inl ⟨cs',sc*2,false⟩)]) (L:=A++B) (KM.perm List.perm_append_comm)
  exact k s' g2 h' KC.le KD (hB g2 (KC.at (.head _)))
theorem S3 {α:Type} {f:α->α} {l:List α} {q:Nat} {x:α} (h:l[q]?=some x):((l.take q).map f++l.drop q).set q (f x)=(l.take (q+1)).map f++l.drop (q+1):=by
 have hq:=get_lt h
 have hl:((l.take q).map f).length=q:=by rw [List.length_map,List.length_take];omega
 rw [List.set_append_right _ _ (by omega),hl,Nat.sub_self,List.drop_eq_getElem_cons hq,List.set_cons_zero,si h,List.map_append,List.append_assoc];rfl
theorem SR {α:Type} {f:α->α} {l:List α} {q:Nat} {x:α} (h:l[q]?=some x):((l.take q).map f++l.drop q)[q]?=some x:=by
 have hq:=get_lt h
 have hl:((l.take q).map f).length=q:=by rw [List.length_map,List.length_take];omega
 rw [List.getElem?_append_right (by omega),hl,Nat.sub_self,List.getElem?_drop,Nat.add_zero];exact h
theorem R7 {α:Type} {f:α->α} {l:List α} {q:Nat}:((l.take q).map f++l.drop q).length=l.length:=by
 rw [List.length_append,List.length_map,List.length_take,List.length_drop];omega
def mvB (to:List Int) (b:BindP):BindP:=⟨dv to b.state.toNat,dv to b.node.toNat⟩
def mvI (to:List Int) (p:Int):Int:=dv to p.toNat
def F0 (to:List Int) (p:Int):Prop:=0<=p/\p<to.length
def mvM (to:List Int) (nds:List NodeP) (m:ah):ah:=⟨nds,m.inits.map (mvB to),m.nexts.map (mvB to),m.bads.map (mvI to),m.holds.map (mvI to)⟩
set_option maxHeartbeats 4000000 in
theorem Mi {h:Hp} {M:MSl} {m:ah} {sN t:Sl} {nds:List NodeP} {to:List Int} {R:Value->Hp->Prop} (hs:aO h M m) (hm:bR m) (hN:gy h sN nds) (hcap:sN.n<=sN.c) (ht:IntS h t to)
  (hi: ∀b∈m.inits,F0 to b.state/\F0 to b.node) (hx: ∀b∈m.nexts,F0 to b.state/\F0 to b.node) (hb: ∀p∈m.bads,F0 to p) (hh: ∀p∈m.holds,F0 to p)
  (k: ∀M' h',h.le h'->aO h' M' (mvM to nds m)->R (aQ M') h'):lw #[aQ M,sN.v,t.v] h R:=by
 apply DU
 refine uf_ ?_
 (with_reducible apply Kn.al);(exact Kn.nil h);(intro b9 h1 K1 l1 hb9)
 refine Kn.al K1 fun b11 h2 K2 l2 hb11=>?_
 clear K1
 repeat' (refine kr_ ?_)
 refine nu (hs.mono K2.le) hm fun M1 XN XI XX XB XH h3 o K3=>⟨_,_,_,_,_,rfl,?_⟩
 have K4:=K2.app K3.le (fun e he=>K3.new e he) (fun e he=>K3.mem e he) K3.nd
 clear K2 K3
 refine Kn.al K4 fun b26 h4 K5 l4 hb26=>?_
 clear K4
 refine kw_ ?_
 intro h5 K6 _
 simp only [bX,List.set_cons_zero,List.set_cons_succ,Nat.zero_add,Nat.reduceAdd]at K6
 clear K5
 refine kw_ ?_
 intro h6 K7 _
 simp only [bX,List.set_cons_zero,List.set_cons_succ,Nat.zero_add,Nat.reduceAdd]at K7
 clear K6
 repeat' (refine kr_ ?_)
 refine Kn.al K7 fun b38 h7 K8 l7 hb38=>?_
 clear K7
 obtain⟨g1,KA,K⟩:=Kn.cut (A:= [(b38, .inl ⟨[M1.ini.v,M1.nex.v],2,false⟩),(b26, .inl ⟨[sN.v,M1.ini.v,M1.nex.v,M1.bad.v,M1.hol.v],5,false⟩),(b9, .inl ⟨aH M,5,false⟩)]++XN) (L:=(b11, .inl ⟨[slN,slN,slN,slN,slN],5,false⟩)::(XI++(XX++(XB++XH))))
  (K8.perm (by
   simp only [List.cons_append,List.nil_append]
   refine List.Perm.cons _ (List.Perm.cons _ ?_)
   refine(List.Perm.swap _ _ _).trans (List.Perm.cons _ ?_)
   exact List.perm_middle.symm))
 clear K8
 have f38:=KA.at (b:=b38) (List.mem_append_left _ (by((focus ((repeat first|exact .head _|apply List.Mem.tail);done)))))
 have f26:=KA.at (b:=b26) (List.mem_append_left _ (by((focus ((repeat first|exact .head _|apply List.Mem.tail);done)))))
 have l01:=KA.le
 clear KA
 have ht1:=ht.mono l01
 have hN1:=hN.mono l01
 have oI:=o.ini
 have oX:=o.nex
 have oB:=o.bad
 have oH:=o.hol
 clear o
 have n1:=hm.inits
 have n2:=hm.nexts
 have n3:=hm.bads
 have n4:=hm.holds
 have htl:=ht.len
 let lI:Nat->List BindP:=fun i=>if 0<i then m.inits.map (mvB to)else m.inits
 let lX:Nat->List BindP:=fun i=>if 1<i then m.nexts.map (mvB to)else m.nexts
 refine au 2 (fun i vs h'=> ∃XI XX,vs= [t.v, .pointer (some ⟨b11,0,none⟩), .pointer (some ⟨b26,0,none⟩),(arr b38 2).v,I 2,I (i:Nat)]/\bT XI M1.ini 2 ((lI i).flatMap bindCells)/\bT XX M1.nex 2 ((lX i).flatMap bindCells)/\
  Kn g1 h' ((b11, .inl ⟨[slN,slN,slN,slN,slN],5,false⟩)::(XI++(XX++(XB++XH))))) ⟨XI,XX,rfl,oI,oX,K⟩ ?_
 clear K oI oX XI XX
 rintro i _ h8 next hi2 ⟨XI,XX,rfl,oI,oX,K⟩ hnx
 refine⟨t,b11,0,b26,0,arr b38 2,_,_,rfl,?_⟩
 by_cases hlt:i<2
 ·refine aM (decide_eq_true (by omega)) ?_
  obtain⟨s,l,A,X,B,hcell,oS,hl,hr,KS,hnext⟩: ∃(s:Sl) (l:List BindP) (A X B:List (Nat×Blk)), [M1.ini.v,M1.nex.v][i]?=some s.v/\bT X s 2 (l.flatMap bindCells)/\l.length<=1048576/\(∀b∈l,F0 to b.state/\F0 to b.node)/\Kn g1 h8 (A++(X++B))/\
    ∀X' h',bT X' s 2 ((l.map (mvB to)).flatMap bindCells)->Kn g1 h' (A++(X'++B))->next [t.v, .pointer (some ⟨b11,0,none⟩), .pointer (some ⟨b26,0,none⟩),(arr b38 2).v,I 2,I ((i+1:Nat):Int)] h':=by
   obtain rfl|rfl:i=0\/i=1:=by omega
   ·exact⟨M1.ini,m.inits, [(b11, .inl ⟨[slN,slN,slN,slN,slN],5,false⟩)],XI,XX++(XB++XH),rfl,oI,n1,hi,K,fun X' h' o' K'=>hnx hlt _ _ ⟨X',XX,rfl,o',oX,K'⟩⟩
   ·exact⟨M1.nex,m.nexts,(b11, .inl ⟨[slN,slN,slN,slN,slN],5,false⟩)::XI,XX,XB++XH,rfl,oX,n2,hx,K,fun X' h' o' K'=>hnx hlt _ _ ⟨XI,X',rfl,oI,o',K'⟩⟩
  clear hnx oI oX
  refine⟨b38,0,rfl,by omega,by show _<((2:Nat):Int);omega,s,by rw [ax (K.le _ _ f38),show (0+Int.toNat (i:Int)*1)=i by simp];exact hcell,?_⟩
  clear K
  have hsn:=oS.1
  rw [ck (m:=2) (fun _=>rfl)]at hsn
  refine au l.length (fun q vs h'=> ∃X,vs= [t.v, .pointer (some ⟨b11,0,none⟩), .pointer (some ⟨b26,0,none⟩),s.v,(arr b38 2).v,I 2,I (i:Nat),s.v,I ((s.n:Nat):Int),I (q:Nat)]/\bT X s 2 (((l.take q).map (mvB to)++l.drop q).flatMap bindCells)/\Kn g1 h' (A++(X++B)))
   ⟨X,rfl,oS,KS⟩ ?_
  clear oS KS X
  rintro q _ h9 next2 hq ⟨X,rfl,oS,K⟩ hnx2
  refine⟨t,b11,0,b26,0,s,arr b38 2,_,_,s,_,_,rfl,?_⟩
  by_cases hlq:q<l.length
  rotate_left
  ·refine aC (decide_eq_false (by omega)) ?_
   obtain rfl:q=l.length:=by omega
   rw [List.take_length,List.drop_length,List.append_nil]at oS
   rw [ay (by omega)]
   exact hnext X h9 oS K
  refine aM (decide_eq_true (by omega)) ?_
  obtain⟨x,hxq⟩: ∃x,l[q]?=some x:=⟨_,List.getElem?_eq_getElem hlq⟩
  obtain⟨r1,r2⟩:=hr x (List.mem_of_getElem? hxq)
  obtain⟨b,ha,rfl⟩:=oS.one (by omega)
  have hg:=SR (f:=mvB to) hxq
  have hst:=S3 (f:=mvB to) hxq
  have hhl:=R7 (f:=mvB to) (l:=l) (q:=q)
  generalize (l.take q).map (mvB to)++l.drop q=ys at*
  have fb:=K.at (b:=b) (List.mem_append_right _ (.head _))
  refine⟨b,0,ha,by omega,by omega,x.state,?_,x.node,?_,?_⟩
  ·rw [ax fb,show (0+Int.toNat (q:Int)*2)=q*2+0 by simp,mP (m:=2) (fun _=>rfl) ys q x 0 hg (by omega)];rfl
  ·rw [ax fb,show (0+Int.toNat (q:Int)*2+1)=q*2+1 by simp,mP (m:=2) (fun _=>rfl) ys q x 1 hg (by omega)];rfl
  refine Kn.al K fun b84 h10 K10 l10 hb84=>?_
  clear fb K
  refine kw_ ?_
  intro h11 K11 _
  simp only [bX,List.set_cons_zero,List.set_cons_succ,Nat.zero_add,Nat.reduceAdd]at K11
  clear K10
  obtain⟨b2,o2,ha2,q0,q1,hc2⟩:=(ht1.mono K11.le).rd r1.1 r1.2
  obtain⟨b3,o3,ha3,q2,q3,hc3⟩:=(ht1.mono K11.le).rd r2.1 r2.2
  repeat' (refine kr_ ?_)
  refine⟨b2,o2,ha2,q0,q1,_,hc2,?_⟩
  repeat' (refine kr_ ?_)
  refine⟨b3,o3,ha3,q2,q3,_,hc3,b,0,ha,by omega,by omega,?_⟩
  have u:Upd ((b84, .inl ⟨[I x.state,I x.node],2,false⟩)::(A++([(b, .inl ⟨ys.flatMap bindCells,s.c*2,false⟩)]++B))) b (.inl ⟨ys.flatMap bindCells,s.c*2,false⟩) (.inl ⟨bX (ys.flatMap bindCells) (0+Int.toNat (q:Int)*2) [I (dv to x.state.toNat),I (dv to x.node.toNat)],s.c*2,false⟩)
    ((b84, .inl ⟨[I x.state,I x.node],2,false⟩)::(A++([(b, .inl ⟨(ys.set q (mvB to x)).flatMap bindCells,s.c*2,false⟩)]++B))):=by
   rw [show (0+Int.toNat (q:Int)*2)=q*2 by simp,show ([I (dv to x.state.toNat),I (dv to x.node.toNat)]:List Value)= [I (mvB to x).state,I (mvB to x).node]from rfl,Gb (by omega)]
   exact .tail (Upd.back .head A)
  refine K11.wr u (by rw [ck (m:=2) (fun _=>rfl)];simp;omega) fun h12 K12 _=>?_
  rw [ay (by omega)]
  refine hnx2 hlq _ _ ⟨_,rfl,?_,K12.tl⟩
  rw [<-hst]
  exact⟨by rw [ck (m:=2) (fun _=>rfl),List.length_set,hhl];exact hsn,oS.2.1, .inr ⟨b,ha,rfl⟩⟩
 refine aC (decide_eq_false (by omega)) ?_
 obtain rfl:i=2:=by omega
 clear hnx hlt hi2 next
 replace oI:bT XI M1.ini 2 ((m.inits.map (mvB to)).flatMap bindCells):=oI
 replace oX:bT XX M1.nex 2 ((m.nexts.map (mvB to)).flatMap bindCells):=oX
 have x26:=cf f26
 repeat' (refine kr_ ?_)
 refine Kn.al K fun b108 h9 K9 l9 hb108=>?_
 clear K
 obtain⟨g2,KA,K⟩:=Kn.cut (A:=(b108, .inl ⟨[M1.bad.v,M1.hol.v],2,false⟩)::(XI++XX)) (L:=(b11, .inl ⟨[slN,slN,slN,slN,slN],5,false⟩)::(XB++XH))
  (K9.perm (by
   refine List.Perm.cons _ ?_
   have:=(List.perm_middle (a:=((b11, .inl ⟨[slN,slN,slN,slN,slN],5,false⟩):Nat×Blk)) (l₁:=XI++XX) (l₂:=XB++XH)).symm
   rw [List.append_assoc]at this
   exact this))
 clear K9
 have f108:=KA.at (b:=b108) (.head _)
 have hI2:iL g2 M1.ini (m.inits.map (mvB to)):=oI.slcOf (by have:=oI.1;rw [ck (m:=2) (fun _=>rfl),List.length_map]at this;omega) fun x hx=>KA.mem x (.tail _ (List.mem_append_left _ hx))
 have hX2:iL g2 M1.nex (m.nexts.map (mvB to)):=oX.slcOf (by have:=oX.1;rw [ck (m:=2) (fun _=>rfl),List.length_map]at this;omega) fun x hx=>KA.mem x (.tail _ (List.mem_append_right _ hx))
 have l12:=KA.le
 clear KA oI oX x26
 replace f26:=l12 _ _ f26
 have ht2:=ht1.mono l12
 have hN2:=hN1.mono l12
 have l02:=Hp.le_trans l01 l12
 let lB:Nat->List Int:=fun i=>if 0<i then m.bads.map (mvI to)else m.bads
 let lH:Nat->List Int:=fun i=>if 1<i then m.holds.map (mvI to)else m.holds
 refine au 2 (fun i vs h'=> ∃XB XH,vs= [t.v, .pointer (some ⟨b11,0,none⟩), .pointer (some ⟨b26,0,none⟩),(arr b108 2).v,I 2,I (i:Nat)]/\bT XB M1.bad 1 ((lB i).map I)/\bT XH M1.hol 1 ((lH i).map I)/\
  Kn g2 h' ((b11, .inl ⟨[slN,slN,slN,slN,slN],5,false⟩)::(XB++XH))) ⟨XB,XH,rfl,oB,oH,K⟩ ?_
 clear K oB oH
 rintro i _ h8 next hi2 ⟨XB,XH,rfl,oB,oH,K⟩ hnx
 refine⟨t,b11,0,b26,0,arr b108 2,_,_,rfl,?_⟩
 by_cases hlt:i<2
 ·refine aM (decide_eq_true (by omega)) ?_
  obtain⟨s,l,A,X,B,hcell,oS,hl,hr,KS,hnext⟩: ∃(s:Sl) (l:List Int) (A X B:List (Nat×Blk)), [M1.bad.v,M1.hol.v][i]?=some s.v/\bT X s 1 (l.map I)/\l.length<=1048576/\(∀p∈l,F0 to p)/\Kn g2 h8 (A++(X++B))/\
    ∀X' h',bT X' s 1 ((l.map (mvI to)).map I)->Kn g2 h' (A++(X'++B))->next [t.v, .pointer (some ⟨b11,0,none⟩), .pointer (some ⟨b26,0,none⟩),(arr b108 2).v,I 2,I ((i+1:Nat):Int)] h':=by
   obtain rfl|rfl:i=0\/i=1:=by omega
   ·exact⟨M1.bad,m.bads, [(b11, .inl ⟨[slN,slN,slN,slN,slN],5,false⟩)],XB,XH,rfl,oB,n3,hb,K,fun X' h' o' K'=>hnx hlt _ _ ⟨X',XH,rfl,o',oH,K'⟩⟩
   ·exact⟨M1.hol,m.holds,(b11, .inl ⟨[slN,slN,slN,slN,slN],5,false⟩)::XB,XH, [],rfl,oH,n4,hh,by rw [List.append_nil];exact K,fun X' h' o' K'=>hnx hlt _ _ ⟨XB,X',rfl,oB,o',by rw [List.append_nil]at K';exact K'⟩⟩
  clear hnx oB oH
  refine⟨b108,0,rfl,by omega,by show _<((2:Nat):Int);omega,s,by rw [ax (K.le _ _ f108),show (0+Int.toNat (i:Int)*1)=i by simp];exact hcell,?_⟩
  clear K
  have hsn:=oS.1
  rw [List.length_map]at hsn
  refine au l.length (fun q vs h'=> ∃X,vs= [t.v, .pointer (some ⟨b11,0,none⟩), .pointer (some ⟨b26,0,none⟩),s.v,(arr b108 2).v,I 2,I (i:Nat),s.v,I ((s.n:Nat):Int),I (q:Nat)]/\bT X s 1 (((l.take q).map (mvI to)++l.drop q).map I)/\Kn g2 h' (A++(X++B)))
   ⟨X,rfl,oS,KS⟩ ?_
  clear oS KS X
  rintro q _ h9 next2 hq ⟨X,rfl,oS,K⟩ hnx2
  refine⟨t,b11,0,b26,0,s,arr b108 2,_,_,s,_,_,rfl,?_⟩
  by_cases hlq:q<l.length
  rotate_left
  ·refine aC (decide_eq_false (by omega)) ?_
   obtain rfl:q=l.length:=by omega
   rw [List.take_length,List.drop_length,List.append_nil]at oS
   rw [ay (by omega)]
   exact hnext X h9 oS K
  refine aM (decide_eq_true (by omega)) ?_
  obtain⟨x,hxq⟩: ∃x,l[q]?=some x:=⟨_,List.getElem?_eq_getElem hlq⟩
  have r1:=hr x (List.mem_of_getElem? hxq)
  obtain⟨b,ha,rfl⟩:=oS.one (by omega)
  have hg:=SR (f:=mvI to) hxq
  have hst:=S3 (f:=mvI to) hxq
  have hhl:=R7 (f:=mvI to) (l:=l) (q:=q)
  generalize (l.take q).map (mvI to)++l.drop q=ys at*
  have fb:=K.at (b:=b) (List.mem_append_right _ (.head _))
  have hq1:0+Int.toNat (q:Int)*1=q:=by simp
  refine⟨b,0,ha,by omega,by omega,x,by rw [ax fb,hq1,List.getElem?_map,hg];rfl,?_⟩
  obtain⟨b2,o2,ha2,q0,q1,hc2⟩:=(ht2.mono K.le).rd r1.1 r1.2
  refine⟨b2,o2,ha2,q0,q1,_,hc2,b,0,ha,by omega,by omega,?_⟩
  have u:Upd (A++([(b, .inl ⟨ys.map I,s.c*1,false⟩)]++B)) b (.inl ⟨ys.map I,s.c*1,false⟩) (.inl ⟨bX (ys.map I) (0+Int.toNat (q:Int)*1) [I (dv to x.toNat)],s.c*1,false⟩)
    (A++([(b, .inl ⟨(ys.set q (mvI to x)).map I,s.c*1,false⟩)]++B)):=by
   rw [hq1,bG,List.map_set]
   exact Upd.back .head A
  refine K.wr u (by rw [List.length_map];omega) fun h12 K12 _=>?_
  rw [ay (by omega)]
  refine hnx2 hlq _ _ ⟨_,rfl,?_,K12⟩
  rw [<-hst]
  exact⟨by rw [List.length_map,List.length_set,hhl];exact hsn,oS.2.1, .inr ⟨b,ha,rfl⟩⟩
 refine aC (decide_eq_false (by omega)) ?_
 obtain rfl:i=2:=by omega
 clear hnx hlt hi2 next
 replace oB:bT XB M1.bad 1 ((m.bads.map (mvI to)).map I):=oB
 replace oH:bT XH M1.hol 1 ((m.holds.map (mvI to)).map I):=oH
 have x26:=cf f26
 repeat' (refine kr_ ?_)
 obtain⟨g3,KA,K'⟩:=Kn.cut (A:=XB++XH) (L:= [(b11, .inl ⟨[slN,slN,slN,slN,slN],5,false⟩)]) (K.perm (List.perm_append_comm (l₁:= [_])))
 clear K
 have hB3:IntS g3 M1.bad (m.bads.map (mvI to)):=oB.slcOf (by have:=oB.1;rw [List.length_map,List.length_map]at this;omega) fun x hx=>KA.mem x (List.mem_append_left _ hx)
 have hH3:IntS g3 M1.hol (m.holds.map (mvI to)):=oH.slcOf (by have:=oH.1;rw [List.length_map,List.length_map]at this;omega) fun x hx=>KA.mem x (List.mem_append_right _ hx)
 have l23:=KA.le
 clear KA
 refine kw_ ?_
 intro h12 K12 _
 simp only [bX,List.set_cons_zero,List.set_cons_succ,Nat.zero_add,Nat.reduceAdd]at K12
 clear K'
 repeat' (refine kr_ ?_)
 have l3:=K12.le
 have l2:=Hp.le_trans l23 l3
 exact k ⟨sN,M1.ini,M1.nex,M1.bad,M1.hol⟩ h12 (Hp.le_trans l02 l2) ⟨hN2.mono l2,hI2.mono l2,hX2.mono l2,hB3.mono l3,hH3.mono l3,hcap⟩
noncomputable def toZ (m:ah) (i:Nat):List Int:=(List.range m.nodes.length).map fun j=>if j<i then(fu m j:Int)else 0
theorem Fq (m:ah) (i:Nat):(toZ m i).length=m.nodes.length:=by unfold toZ;rw [List.length_map,List.length_range]
theorem abK (m:ah):(toZ m 0).map I=List.replicate m.nodes.length (I 0):=by
 unfold toZ
 refine List.ext_getElem (by simp) fun j h1 h2=>?_
 simp
theorem ae0 {m:ah} {i:Nat} (h:i<m.nodes.length):((toZ m i).map I).set i (I (fu m i:Nat))=(toZ m (i+1)).map I:=by
 unfold toZ
 refine List.ext_getElem (by simp) fun j h1 h2=>?_
 rw [List.getElem_set]
 simp only [List.getElem_map,List.getElem_range]
 by_cases e:i=j
 ·subst e
  rw [if_pos rfl,if_pos (Nat.lt_succ_self i)]
 ·rw [if_neg e]
  by_cases q:j<i
  ·rw [if_pos q,if_pos (by omega)]
  ·rw [if_neg q,if_neg (by omega)]
theorem Jz {m:ah} {i p:Nat} (hp:p<i) (hn:p<m.nodes.length):dv (toZ m i) p=(fu m p:Int):=by
 unfold dv toZ
 rw [List.getD_eq_getElem?_getD,List.getElem?_map,List.getElem?_range hn]
 show (if p<i then(fu m p:Int)else 0)=_
 rw [if_pos hp]
theorem agM.modelS {XN XI XX XB XH:List (Nat×Blk)} {M:MSl} {m:ah} {g h:Hp} (o:agM XN XI XX XB XH M m) (K:Kn g h (XN++(XI++(XX++(XB++XH))))) (hm:bR m):aO h M m:=by
 obtain⟨a,b,c,d,e⟩:=o
 have n1:=a.1
 have n2:=b.1
 have n3:=c.1
 have n4:=d.1
 have n5:=e.1
 rw [ck (m:=9) (fun _=>rfl)]at n1
 rw [ck (m:=2) (fun _=>rfl)]at n2 n3
 rw [List.length_map]at n4 n5
 have h1:=hm.nodes
 have h2:=hm.inits
 have h3:=hm.nexts
 have h4:=hm.bads
 have h5:=hm.holds
 refine⟨a.slcOf (by omega) fun x hx=>K.mem x ?_,b.slcOf (by omega) fun x hx=>K.mem x ?_,c.slcOf (by omega) fun x hx=>K.mem x ?_,d.slcOf (by omega) fun x hx=>K.mem x ?_,e.slcOf (by omega) fun x hx=>K.mem x ?_,a.2.1⟩
 ·exact List.mem_append_left _ hx
 ·exact List.mem_append_right _ (List.mem_append_left _ hx)
 ·exact List.mem_append_right _ (List.mem_append_right _ (List.mem_append_left _ hx))
 ·exact List.mem_append_right _ (List.mem_append_right _ (List.mem_append_right _ (List.mem_append_left _ hx)))
 ·exact List.mem_append_right _ (List.mem_append_right _ (List.mem_append_right _ (List.mem_append_right _ hx)))
theorem abV {m:ah} (gd:cr m):mvM (toZ m m.nodes.length) (gZ m m.nodes.length) ⟨m.nodes,m.inits.filter fun b=> !!cP m b.state.toNat,m.nexts.filter fun b=> !!cP m b.state.toNat,m.bads,m.holds⟩=de m:=by
 have hb: ∀l:List BindP,(∀b∈l,b∈m.inits\/b∈m.nexts)->(l.filter fun b=> !!cP m b.state.toNat).map (mvB (toZ m m.nodes.length))=jr m l:=by
  intro l hl
  unfold jr
  have e:(l.filter fun b=> !!cP m b.state.toNat)=l.filter fun b=>cP m b.state.toNat:=by simp only [Bool.not_not]
  rw [e]
  refine List.map_congr_left fun b hb=>?_
  obtain⟨h1,h2,_⟩:=fY gd (hl b (List.mem_filter.1 hb).1)
  unfold mvB
  rw [Jz (by omega) (by omega),Jz (by omega) (by omega)]
 unfold mvM de
 rw [hb m.inits fun b h=> .inl h,hb m.nexts fun b h=> .inr h]
 congr 1
 ·refine List.map_congr_left fun p hp=>?_
  have:=kg (gd.bad p hp)
  unfold mvI
  rw [Jz (by omega) (by omega)]
 ·refine List.map_congr_left fun p hp=>?_
  have:=kg (gd.hol p hp)
  unfold mvI
  rw [Jz (by omega) (by omega)]
theorem kc {m:ah} (gd:cr m) (hm:bR m):bR (de m):=by
 have h0:=PB m m.nodes.length
 have:=gd.nl
 refine⟨by show (gZ m m.nodes.length).length<=_;rw [lq];omega,?_,?_,?_,?_,fun n hn=>?_⟩
 ·show (jr m m.inits).length<=_
  unfold jr
  rw [List.length_map]
  exact Nat.le_trans (List.length_filter_le _ _) hm.inits
 ·show (jr m m.nexts).length<=_
  unfold jr
  rw [List.length_map]
  exact Nat.le_trans (List.length_filter_le _ _) hm.nexts
 ·show (m.bads.map _).length<=_
  rw [List.length_map];exact hm.bads
 ·show (m.holds.map _).length<=_
  rw [List.length_map];exact hm.holds
 ·obtain⟨j,hj,rfl⟩:=List.mem_map.1 hn
  have hjl:=List.mem_range.1 (List.mem_filter.1 hj).1
  show (Fh m j).name.size<=_
  rw [xY (List.getElem?_eq_getElem hjl)]
  exact hm.names _ (List.getElem_mem hjl)
set_option maxHeartbeats 400000 in
theorem ug {h:Hp} {M:MSl} {m:ah} {R:Value->Hp->Prop} (hs:aO h M m) (hm:bR m)
  (k: ∀M' h',h.le h'->aO h' M' (i7 m)->R (aQ M') h'):nP #[aQ M] h R:=by
 apply FJ
 refine uf_ ?_
 (with_reducible apply Kn.al);(exact Kn.nil h);(intro b7 h1 K1 l1 hb7)
 refine Kn.al K1 fun b9 h2 K2 l2 hb9=>?_
 clear K1
 repeat' (refine kr_ ?_)
 refine gG (hs.mono K2.le) hm ⟨_,rfl,?_⟩
 unfold i7 at k
 refine ad (fun e=>?_) (fun e=>?_)
 ·rw [if_neg (iW e)]at k
  refine kw_ ?_
  intro h3 K3 _
  simp only [bX,List.set_cons_zero,List.set_cons_succ,Nat.zero_add,Nat.reduceAdd]at K3
  refine⟨⟨none,0,0⟩,by rw [ax (K3.at (.head _))];rfl,⟨none,0,0⟩,by rw [ax (K3.at (.head _))];rfl,⟨none,0,0⟩,by rw [ax (K3.at (.head _))];rfl,⟨none,0,0⟩,by rw [ax (K3.at (.head _))];rfl,⟨none,0,0⟩,by rw [ax (K3.at (.head _))];rfl,?_⟩
  exact k _ h3 K3.le (Bm h3)
 have hc:=fZ e
 rw [if_pos hc]at k
 have gd:=cD hc
 have hN:=gd.nl
 have hah:=dH gd.ok
 have hnl:=hs.nodes.len
 repeat' (refine kr_ ?_)
 refine Pe (hs.mono K2.le) hm gd fun h3 bn Kn3=>⟨_,rfl,?_⟩
 have K3:=K2.app Kn3.le (fun e he=>Kn3.new e he) (fun e he=>Kn3.mem e he) Kn3.nd
 clear K2 Kn3
 refine Kn.al K3 fun b39 h4 K4 l4 hb39=>?_
 clear K3
 refine kw_ ?_
 intro h5 K5 _
 simp only [bX,List.set_cons_zero,List.set_cons_succ,Nat.zero_add,Nat.reduceAdd]at K5
 clear K4
 repeat' (refine kr_ ?_)
 rw [hnl]
 refine⟨by omega,by omega,by omega,by omega,?_⟩
 rw [Int.toNat_natCast,Nat.mul_one,cE,<-abK m]
 refine Kn.al K5 fun b46 h6 K6 l6 hb46=>?_
 clear K5
 obtain⟨g2,KA,KL⟩:=Kn.cut (A:= [(b39, .inl ⟨[(arr bn m.nodes.length).v],1,false⟩),(b7, .inl ⟨aH M,5,false⟩),(bn, .inl ⟨mkC m.nodes.length (cP m),m.nodes.length,false⟩)])
  (L:= [(b46, .inl ⟨(toZ m 0).map I,m.nodes.length,false⟩),(b9, .inl ⟨[slN,slN,slN,slN,slN],5,false⟩)])
  (K6.perm (by
   refine(List.Perm.swap _ _ _).trans (List.Perm.cons _ ?_)
   refine List.Perm.trans ?_ (List.perm_append_comm (l₁:= [_,_]) (l₂:= [_,_]))
   exact List.Perm.refl _))
 clear K6
 have f39:=KA.at (b:=b39) (by((focus ((repeat first|exact .head _|apply List.Mem.tail);done))))
 have f7:=KA.at (b:=b7) (by((focus ((repeat first|exact .head _|apply List.Mem.tail);done))))
 have fn:=KA.at (b:=bn) (by((focus ((repeat first|exact .head _|apply List.Mem.tail);done))))
 have hs2:=hs.mono KA.le
 have l02:=KA.le
 have x39:=cf f39
 have x7:=cf f7
 clear KA
 repeat' (refine kr_ ?_)
 refine au m.nodes.length (fun i vs h'=> ∃(sN:Sl) (XN:List (Nat×Blk)),vs= [.pointer (some ⟨b7,0,none⟩), .pointer (some ⟨b9,0,none⟩), .pointer (some ⟨b39,0,none⟩),(arr b46 m.nodes.length).v,sN.v,M.no.v,I (m.nodes.length:Nat),I (i:Nat)]/\
  Kn g2 h' ((b46, .inl ⟨(toZ m i).map I,m.nodes.length,false⟩)::(b9, .inl ⟨[slN,slN,slN,slN,slN],5,false⟩)::XN)/\bT XN sN 9 ((gZ m i).flatMap nodeCells))
  ⟨⟨none,0,0⟩, [],by rw [hnl];rfl,KL,cF 9⟩ ?_
 clear KL
 rintro i _ h7 next hi ⟨sN,XN,rfl,K7,oN⟩ hnx
 refine⟨b7,0,b9,0,b39,0,arr b46 _,sN,M.no,_,_,rfl,?_⟩
 have hsN:=oN.1
 rw [ck (m:=9) (fun _=>rfl),lq]at hsN
 have hcp:=PB m i
 by_cases hlt:i<m.nodes.length
 ·refine aM (decide_eq_true (by omega)) ?_
  refine ap (fun J=> ∀(sN':Sl) (XN':List (Nat×Blk)) h',Kn g2 h' ((b46, .inl ⟨(toZ m (i+1)).map I,m.nodes.length,false⟩)::(b9, .inl ⟨[slN,slN,slN,slN,slN],5,false⟩)::XN')->bT XN' sN' 9 ((gZ m (i+1)).flatMap nodeCells)->J sN' h') (fun sN' XN' h' K' o'=>?_) (fun J hJ=>?_)
  ·rw [ay (by omega)]
   exact hnx hlt _ _ ⟨sN',XN',rfl,K',o'⟩
  obtain⟨nd,hni⟩: ∃n,m.nodes[i]?=some n:=⟨_,List.getElem?_eq_getElem hlt⟩
  obtain⟨b,o,ha,c0,c1,c2,c3,c4,c5,c6,c7,c8⟩:=(hs2.mono K7.le).nodes.at hni
  refine⟨b,o,ha,by omega,by omega,?_⟩
  rw [Int.toNat_natCast]
  refine⟨_,c0,_,c1,_,c2,_,c3,_,c4,_,c5,_,c6,_,c7,_,c8,?_⟩
  refine Kn.al K7 fun b81 h8 K8 l8 hb81=>?_
  clear K7 ha c0 c1 c2 c3 c4 c5 c6 c7 c8
  refine kw_ ?_
  intro h9 K9 _
  simp only [bX,List.set_cons_zero,List.set_cons_succ,Nat.zero_add,Nat.reduceAdd]at K9
  clear K8
  refine⟨b46,0,rfl,by omega,by show _<((m.nodes.length:Nat):Int);omega,?_⟩
  have hi1:0+Int.toNat (i:Int)*1=i:=by simp
  (((with_reducible apply Kn.wr);(assumption);((focus ((repeat first|exact .head|apply Upd.tail);done)))))
  ·rw [List.length_map,Fq];omega
  intro h10 K10 _
  rw [Nat.zero_add,Nat.mul_one,bG,show ((sN.n:Nat):Int)=((fu m i:Nat):Int) by omega,ae0 hlt]at K10
  clear K9
  repeat' (refine kr_ ?_)
  refine⟨by omega,by show _<((m.nodes.length:Nat):Int);omega,cP m i,by rw [ax (K10.le _ _ fn),Nat.zero_add,Nat.mul_one];exact pL _ hlt,?_⟩
  refine ad (fun e=>?_) (fun e=>?_)
  ·repeat' (refine kr_ ?_)
   have hf:=fS gd.ok hni
   have hk:=fA hf
   have f46:=K10.at (b:=b46) (by((focus ((repeat first|exact .head _|apply List.Mem.tail);done))))
   have hT:IntS h10 (arr b46 m.nodes.length) (toZ m (i+1)):=⟨by show m.nodes.length<=_;omega,by rw [List.length_map,Fq,Nat.mul_one], .inr ⟨b46,0,rfl,aw f46⟩⟩
   refine Hs hT hk (fun j h3 hj=>by have:=iQ hf h3 hj;rw [Fq];exact⟨this.1,by omega⟩) ⟨_,_,_,_,_,_,_,_,_,rfl,?_⟩
   have hpt:cA (dv (toZ m (i+1))) nd=cA (fun p=>(fu m p:Int)) nd:=zA hk fun p hp=>by
    have hpi:=(hah i nd hni).2 p hp
    exact Jz (by omega) (by omega)
   rw [hpt]
   have hne:=rW e
   rw [xY hni]at hne
   generalize cA (fun p=>(fu m p:Int)) nd=nn at*
   clear hpt f46 hT
   refine Kn.al K10 fun b118 h11 K11 l11 hb118=>?_
   clear K10
   refine Kn.growIn (A:= [(b118, .inl ⟨nodeCells nn,9,false⟩),(b81, .inl ⟨nodeCells nd,9,false⟩),(b46, .inl ⟨(toZ m (i+1)).map I,m.nodes.length,false⟩),(b9, .inl ⟨[slN,slN,slN,slN,slN],5,false⟩)]) (L:= []) (by rw [List.append_nil];exact K11) oN (by omega) (by omega) (by omega)
    ⟨b118,0,rfl,aw (K11.at (.head _))⟩ rfl rfl fun sN' XN' h12 hn12 oN' K12 _=>?_
   rw [List.append_nil]at K12
   refine hJ sN' XN' h12 ?_ (by rw [hne,List.flatMap_append];exact oN')
   exact K12.tl.tl
  ·refine hJ sN XN h10 K10.tl (by rw [uV e];exact oN)
 refine aC (decide_eq_false (by omega)) ?_
 obtain rfl:i=m.nodes.length:=by omega
 clear hnx hlt hi next
 repeat' (refine kr_ ?_)
 obtain⟨g3,KA,K⟩:=Kn.cut (A:=(b46, .inl ⟨(toZ m m.nodes.length).map I,m.nodes.length,false⟩)::XN) (L:= [(b9, .inl ⟨[slN,slN,slN,slN,slN],5,false⟩)]) (K7.perm (by
  refine List.Perm.cons _ ?_
  exact List.perm_append_comm (l₁:= [_])))
 clear K7
 have hNs:gy g3 sN (gZ m m.nodes.length):=oN.slcOf (by omega) fun x hx=>KA.mem x (.tail _ hx)
 have hT:IntS g3 (arr b46 m.nodes.length) (toZ m m.nodes.length):=⟨by show m.nodes.length<=_;omega,by rw [List.length_map,Fq,Nat.mul_one], .inr ⟨b46,0,rfl,aw (KA.at (.head _))⟩⟩
 have hcap:=oN.2.1
 have l23:=KA.le
 clear KA oN
 replace f39:=l23 _ _ f39
 replace fn:=l23 _ _ fn
 replace hs2:=hs2.mono l23
 replace l02:=Hp.le_trans l02 l23
 clear l23 x39 x7 f7
 refine nu (hs2.mono K.le) hm fun M1 YN YI YX YB YH h8 o K8=>⟨_,_,_,_,_,rfl,?_⟩
 have K9:=K.app K8.le (fun e he=>K8.new e he) (fun e he=>K8.mem e he) K8.nd
 clear K K8
 refine Kn.al K9 fun b141 h9 K10 l9 hb141=>?_
 clear K9
 refine kw_ ?_
 intro h10 K11 _
 simp only [bX,List.set_cons_zero,List.set_cons_succ,Nat.zero_add,Nat.reduceAdd]at K11
 clear K10
 repeat' (refine kr_ ?_)
 have oI:=o.ini
 have oX:=o.nex
 have oB:=o.bad
 have oH:=o.hol
 have oNo:=o.no
 clear o
 have hdel: ∀{g h':Hp} {x:BindP} {R:Value->Hp->Prop},g3.le g->g.le h'->(x∈m.inits\/x∈m.nexts)->R (.bool (!cP m x.state.toNat)) h'->ACalls PR jh ((#[]++ #[wH x])++ #[.pointer (some ⟨b39,0,none⟩)]) h' R:=fun l1 l2 hx kk=>by
  have hp:=fY gd hx
  exact Qy (l2 _ _ (l1 _ _ f39)) (l2 _ _ (l1 _ _ fn)) hp.1.1 hp.1.2 kk
 refine tq (f:=jh) (u:= #[]) (w:= #[.pointer (some ⟨b39,0,none⟩)]) (A:=(b141, .inl ⟨aH M1,5,false⟩)::(b9, .inl ⟨[slN,slN,slN,slN,slN],5,false⟩)::YN) (B:=YX++(YB++YH)) (fun b=> !cP m b.state.toNat) K11 oI hm.inits
  (fun x hx h' l R kk=>hdel (Hp.le_refl _) l (.inl hx) kk) fun sI g4 h11 l34 K12 hI=>⟨_,rfl,?_⟩
 have k141:=K11.at (.head _)
 have k141':=K12.at (.head _)
 refine⟨by rw [k141,k141'],?_⟩
 clear K11 oI k141 k141'
 refine tq (f:=jh) (u:= #[]) (w:= #[.pointer (some ⟨b39,0,none⟩)]) (A:=(b141, .inl ⟨aH M1,5,false⟩)::(b9, .inl ⟨[slN,slN,slN,slN,slN],5,false⟩)::YN) (B:=YB++YH) (fun b=> !cP m b.state.toNat) K12 oX hm.nexts
  (fun x hx h' l R kk=>hdel l34 l (.inr hx) kk) fun sX g5 h12 l45 K13 hX=>⟨_,rfl,?_⟩
 clear K12 oX hdel
 simp only [List.cons_append,List.nil_append]at K13
 refine kw_ ?_
 intro h13 K14 _
 simp only [bX,List.set_cons_zero,List.set_cons_succ,Nat.zero_add,Nat.reduceAdd]at K14
 clear K13
 refine kw_ ?_
 intro h14 K15 _
 simp only [bX,List.set_cons_zero,List.set_cons_succ,Nat.zero_add,Nat.reduceAdd]at K15
 clear K14
 repeat' (refine kr_ ?_)
 obtain⟨g6,KA,K⟩:=Kn.cut (A:=(b141, .inl ⟨[M1.no.v,sI.v,sX.v,M1.bad.v,M1.hol.v],5,false⟩)::(YN++(YB++YH))) (L:= [(b9, .inl ⟨[slN,slN,slN,slN,slN],5,false⟩)]) (K15.perm (by
  refine List.Perm.cons _ ?_
  exact List.perm_append_comm (l₁:= [_])))
 clear K15
 have l56:=KA.le
 have l36:=Hp.le_trans l34 (Hp.le_trans l45 l56)
 have n1:=oNo.1
 have n4:=oB.1
 have n5:=oH.1
 rw [ck (m:=9) (fun _=>rfl)]at n1
 rw [List.length_map]at n4 n5
 have hbl:=gd.bl
 have hhl:=gd.hl
 have hM6:aO g6 ⟨M1.no,sI,sX,M1.bad,M1.hol⟩ ⟨m.nodes,m.inits.filter fun b=> !!cP m b.state.toNat,m.nexts.filter fun b=> !!cP m b.state.toNat,m.bads,m.holds⟩:=
  ⟨oNo.slcOf (by omega) fun x hx=>KA.mem x (.tail _ (List.mem_append_left _ hx)),hI.mono (Hp.le_trans l45 l56),hX.mono l56,oB.slcOf (by omega) fun x hx=>KA.mem x (.tail _ (List.mem_append_right _ (List.mem_append_left _ hx))),oH.slcOf (by omega) fun x hx=>KA.mem x (.tail _ (List.mem_append_right _ (List.mem_append_right _ hx))),oNo.2.1⟩
 clear KA
 have sm6:bR ⟨m.nodes,m.inits.filter fun b=> !!cP m b.state.toNat,m.nexts.filter fun b=> !!cP m b.state.toNat,m.bads,m.holds⟩:=
  ⟨hm.nodes,Nat.le_trans (List.length_filter_le _ _) hm.inits,Nat.le_trans (List.length_filter_le _ _) hm.nexts,hm.bads,hm.holds,hm.names⟩
 have inT: ∀p:Int,(0<=p/\p<m.nodes.length)->F0 (toZ m m.nodes.length) p:=fun p hp=>by unfold F0;rw [Fq];exact hp
 refine Mi (M:=⟨M1.no,sI,sX,M1.bad,M1.hol⟩) (sN:=sN) (t:=arr b46 m.nodes.length) (hM6.mono K.le) sm6 ((hNs.mono l36).mono K.le) hcap ((hT.mono l36).mono K.le)
  (fun b hb=>by have:=fY gd (.inl (List.mem_filter.1 hb).1);exact⟨inT _ this.1,inT _ this.2.1⟩) (fun b hb=>by have:=fY gd (.inr (List.mem_filter.1 hb).1);exact⟨inT _ this.1,inT _ this.2.1⟩)
  (fun p hp=>inT p (kg (gd.bad p hp))) (fun p hp=>inT p (kg (gd.hol p hp))) fun M2 h15 l15 hM2=>⟨_,_,_,_,_,rfl,?_⟩
 rw [abV gd]at hM2
 have K16:=K.mono l15
 clear K
 refine nu hM2 (kc gd hm) fun M3 ZN ZI ZX ZB ZH h16 o3 K17=>⟨_,_,_,_,_,rfl,?_⟩
 have hM3:=o3.modelS K17 (kc gd hm)
 have K18:=K16.app K17.le (fun e he=>K17.new e he) (fun e he=>K17.mem e he) K17.nd
 clear K16 K17
 refine kw_ ?_
 intro h17 K19 _
 simp only [bX,List.set_cons_zero,List.set_cons_succ,Nat.zero_add,Nat.reduceAdd]at K19
 clear K18
 repeat' (refine kr_ ?_)
 have l06:=Hp.le_trans l02 l36
 exact k M3 h17 (Hp.le_trans l06 K19.le) (o3.modelS (K19.tl) (kc gd hm))
theorem OH {m:ah} {p:Nat} (hn:cP m p=true): ∀i,p<i->(gZ m i)[fu m p]?=some (cA (fun p=>(fu m p:Int)) (Fh m p)):=by
 intro i
 induction i with
 |zero=>intro h;omega
 |succ i ih=>
  intro h
  by_cases e:p=i
  ·subst e
   rw [rW hn,List.getElem?_append_right (by rw [lq];exact Nat.le_refl _),lq,Nat.sub_self];rfl
  ·have:=ih (by omega)
   have hl:=get_lt this
   cases hi:cP m i
   ·rw [uV hi];exact this
   ·rw [rW hi,List.getElem?_append_left hl];exact this
theorem OI {m:ah} {i j:Nat} (h:i<=j):fu m i<=fu m j:=by
 obtain⟨d,rfl⟩:=Nat.exists_eq_add_of_le h
 induction d with
 |zero=>exact Nat.le_refl _
 |succ d ih=>
  refine Nat.le_trans (ih (by omega)) ?_
  rw [<-Nat.add_assoc]
  cases e:cP m (i+d)
  ·rw [Wg e];exact Nat.le_refl _
  ·rw [E3 e];omega
theorem Qw {m:ah} {i j:Nat} (h:i<j) (hn:cP m i=true):fu m i<fu m j:=by
 have:=OI (m:=m) (i:=i+1) (j:=j) (by omega)
 rw [E3 hn]at this;omega
theorem abR {m:ah} {p q:Nat} (hp:cP m p=true) (hq:cP m q=true) (h:fu m p=fu m q):p=q:=by
 rcases Nat.lt_trichotomy p q with l|l|l
 ·have:=Qw l hp;omega
 ·exact l
 ·have:=Qw l hq;omega
theorem RA (m:ah) {i j:Nat} (h:i<=j):(gZ m j).take (fu m i)=gZ m i:=by
 obtain⟨d,rfl⟩:=Nat.exists_eq_add_of_le h
 induction d with
 |zero=>exact List.take_of_length_le (by rw [lq];exact Nat.le_refl _)
 |succ d ih=>
  have ih:=ih (by omega)
  have hl:fu m i<=(gZ m (i+d)).length:=by rw [lq];exact OI (by omega)
  rw [<-Nat.add_assoc]
  cases e:cP m (i+d)
  ·rw [uV e];exact ih
  ·rw [rW e,List.take_append_of_le_length hl];exact ih
theorem Rf (f:Nat->Int) (n:NodeP):(cA f n).kind=n.kind/\(cA f n).n=n.n/\(cA f n).m=n.m/\(cA f n).sort=n.sort:=⟨rfl,rfl,rfl,rfl⟩
theorem wD (A:List NodeP) (x:NodeP) (kind:Int):av (A++ [x]) kind=av A kind++if x.kind=kind then [A.length]else []:=by
 have:=jc (l:=A++ [x]) (kind:=kind) (i:=A.length) (n:=x) (by rw [List.getElem?_append_right (Nat.le_refl _),Nat.sub_self];rfl)
 rwa [List.take_append_of_le_length (Nat.le_refl _),List.take_length,List.take_of_length_le (by simp)]at this
theorem Bg {m:ah} (kind:Int): ∀i,i<=m.nodes.length->av (gZ m i) kind=((av (m.nodes.take i) kind).filter (cP m)).map (fu m):=by
 intro i
 induction i with
 |zero=>intro _;rfl
 |succ i ih=>
  intro h
  have ih:=ih (by omega)
  have hn:m.nodes[i]?=some m.nodes[i]:=List.getElem?_eq_getElem (by omega)
  rw [jc hn,List.filter_append,List.map_append,<-ih]
  cases e:cP m i
  ·rw [uV e]
   have:List.filter (cP m) (if m.nodes[i].kind=kind then [i]else [])= []:=by
    split
    ·simp [e]
    ·rfl
   rw [this,List.map_nil,List.append_nil]
  ·rw [rW e,wD,xY hn,lq]
   congr 1
   show (if m.nodes[i].kind=kind then [fu m i]else [])=_
   split
   ·simp [e]
   ·rfl
theorem BF (m:ah):(de m).nodes=gZ m m.nodes.length:=rfl
theorem N8 {m:ah} {p:Nat} (hn:cP m p=true) (hp:p<m.nodes.length):ar (de m).nodes ((fu m p:Nat):Int)=ar m.nodes (p:Int):=by
 unfold ar
 rw [BF,Int.toNat_natCast,Int.toNat_natCast,OH hn _ hp,List.getElem?_eq_getElem hp,xY (List.getElem?_eq_getElem hp)];rfl
theorem yU {m:ah} {p:Nat} (hn:cP m p=true) (hp:p<m.nodes.length):aE (de m).nodes (fu m p)=aE m.nodes p/\bK (de m).nodes (fu m p)=bK m.nodes p:=by
 unfold aE bK
 rw [N8 hn hp];exact⟨rfl,rfl⟩
theorem uG {l L:List NodeP} {n:NodeP} {f:Nat->Nat} {v v':List (List Nat)} (hk:0<=ai n.kind) (h35: ¬n.kind=35) (h36: ¬n.kind=36)
  (h: ∀p∈dM n,v'.getD (f p) []=v.getD p []/\ar L ((f p:Nat):Int)=ar l (p:Int)):bz L (cA (fun p=>(f p:Int)) n) v'=bz l n v:=by
 have st: ∀(l:List NodeP) (x:Int),ar l ((x.toNat:Nat):Int)=ar l x:=fun l x=>by unfold ar;rw [Int.toNat_natCast]
 have a:=fun(e:0<ai n.kind)=>h n.a.toNat ((fz hk).2 ⟨0,by omega,e,rfl⟩)
 have b:=fun(e:1<ai n.kind)=>h n.b.toNat ((fz hk).2 ⟨1,by omega,e,rfl⟩)
 have c:=fun(e:2<ai n.kind)=>h n.c.toNat ((fz hk).2 ⟨2,by omega,e,rfl⟩)
 by_cases h34:n.kind=34
 ·unfold bz
  rw [(Rf _ n).1,if_pos h34,if_pos h34];rfl
 have hp:0<ai n.kind:=by
  rcases qu n.kind with e|e|e|e|e
  ·unfold ai at e
   split at e
   ·omega
   ·split at e
    ·omega
    ·split at e
     ·omega
     ·split at e
      ·omega
      ·omega
  all_goals omega
 have a:=a hp
 have ea:(cA (fun p=>(f p:Int)) n).a=(f n.a.toNat:Nat):=by unfold cA;exact if_pos hp
 have eb:1<ai n.kind->(cA (fun p=>(f p:Int)) n).b=(f n.b.toNat:Nat):=fun e=>by unfold cA;exact if_pos e
 have ec:2<ai n.kind->(cA (fun p=>(f p:Int)) n).c=(f n.c.toNat:Nat):=fun e=>by unfold cA;exact if_pos e
 have ek:(cA (fun p=>(f p:Int)) n).kind=n.kind:=rfl
 have en:(cA (fun p=>(f p:Int)) n).n=n.n:=rfl
 have em:(cA (fun p=>(f p:Int)) n).m=n.m:=rfl
 generalize cA (fun p=>(f p:Int)) n=nn at*
 have ga:v'.getD nn.a.toNat []=v.getD n.a.toNat []:=by rw [ea,Int.toNat_natCast];exact a.1
 have gb:1<ai n.kind->v'.getD nn.b.toNat []=v.getD n.b.toNat []:=fun e=>by rw [eb e,Int.toNat_natCast];exact(b e).1
 have gc:2<ai n.kind->v'.getD nn.c.toNat []=v.getD n.c.toNat []:=fun e=>by rw [ec e,Int.toNat_natCast];exact(c e).1
 have sa:ar L nn.a=ar l n.a:=by rw [ea,a.2,st]
 have sb:1<ai n.kind->ar L nn.b=ar l n.b:=fun e=>by rw [eb e,(b e).2,st]
 have ca:aK v' nn.a=aK v n.a:=by unfold aK;rw [ga]
 have cb:1<ai n.kind->aK v' nn.b=aK v n.b:=fun e=>by unfold aK;rw [gb e]
 have cc:2<ai n.kind->aK v' nn.c=aK v n.c:=fun e=>by unfold aK;rw [gc e]
 unfold bz
 rw [ek,en,em,ca,sa]
 rcases ju hp with ⟨h1,h2,h3⟩|⟨h1,h2,h3⟩|⟨h1,h2,h3⟩|⟨h1,h3⟩|⟨h1,h3⟩|⟨h1,h3⟩
 ·simp only [if_neg h34,if_neg (show¬n.kind=33 by omega),if_neg (show¬n.kind=21 by omega),if_neg (show¬n.kind=37 by omega),if_neg (show¬n.kind=38 by omega),if_neg (show¬n.kind=29 by omega),if_pos h3]
 ·rw [cb (by omega),gb (by omega),ga,sb (by omega)]
  simp only [if_neg h34,if_neg (show¬n.kind=33 by omega),if_neg (show¬n.kind=38 by omega)]
 ·simp only [if_neg h34,if_neg (show¬n.kind=33 by omega),if_neg (show¬n.kind=21 by omega),if_neg (show¬n.kind=37 by omega),if_neg (show¬n.kind=38 by omega),if_neg (show¬n.kind=29 by omega),if_pos h3]
 ·simp only [if_neg h34,if_pos h1,gb (show 1<ai n.kind by omega),gc (show 2<ai n.kind by omega)]
 ·simp only [if_neg h34,if_neg (show¬n.kind=33 by omega),if_neg (show¬n.kind=21 by omega),if_pos h1,ga,cb (show 1<ai n.kind by omega)]
 ·simp only [if_neg h34,if_neg (show¬n.kind=33 by omega),if_neg (show¬n.kind=21 by omega),if_neg (show¬n.kind=37 by omega),if_pos h1,ga,cb (show 1<ai n.kind by omega),cc (show 2<ai n.kind by omega)]
def N6 (m:ah) (kind:Int) (s t:List (List Nat)):Prop:= ∀p n,m.nodes[p]?=some n->n.kind=kind->cP m p=true->
 t.getD (av (gZ m p) kind).length []=s.getD (av (m.nodes.take p) kind).length []
theorem AZ {α:Type} {a:List α} {x d:α}:(a++ [x]).getD a.length d=x:=by simp [List.getD_eq_getElem?_getD]
theorem V4 {α:Type} {a:List α} {k:Nat} {x d:α} (h:a.length=k):(a++ [x]).getD k d=x:=by subst h;exact AZ
theorem Xj {m:ah} (g:cr m) {s i s' i':List (List Nat)} (hs:N6 m 36 s s') (hi:N6 m 35 i i'): ∀k,k<=m.nodes.length-> ∀p,p<k->cP m p=true->
  (du (de m).nodes s' i' (fu m k)).getD (fu m p) []=(du m.nodes s i k).getD p []:=by
 intro k
 induction k with
 |zero=>intro _ p h;omega
 |succ k ih=>
  intro hk p hp hn
  have ih:=ih (by omega)
  obtain⟨n,hni⟩: ∃n,m.nodes[k]?=some n:=⟨_,List.getElem?_eq_getElem (by omega)⟩
  by_cases e:p=k
  ·subst e
   have hc:=OH hn m.nodes.length (by omega)
   rw [xY hni]at hc
   rw [E3 hn,jI hni,jI (l:=(de m).nodes) hc,V4 (dE ..),V4 (dE ..),BF,RA m (by omega)]
   have hf:=fS g.ok hni
   have hkk:=fA hf
   show (if n.kind=36 then _ else if n.kind=35 then _ else _)=_
   by_cases h36:n.kind=36
   ·rw [if_pos h36,if_pos h36];exact hs p n hni h36 hn
   rw [if_neg h36,if_neg h36]
   by_cases h35:n.kind=35
   ·rw [if_pos h35,if_pos h35];exact hi p n hni h35 hn
   rw [if_neg h35,if_neg h35]
   refine uG hkk h35 h36 fun q hq=>?_
   have hql:=(dH g.ok p n hni).2 q hq
   have hqn:cP m q=true:=fe.2 (.part (fe.1 hn) hni hq)
   exact⟨ih q hql hqn,N8 hqn (by omega)⟩
  ·have hpk:p<k:=by omega
   rw [nH m.nodes s i 1 k p hpk]
   cases e2:cP m k
   ·rw [Wg e2];exact ih p hpk hn
   ·rw [E3 e2,nH (de m).nodes s' i' 1 _ _ (Qw hpk hn)];exact ih p hpk hn
theorem Pp {m:ah} (g:cr m) {s i s' i':List (List Nat)} (hs:N6 m 36 s s') (hi:N6 m 35 i i') {p:Nat} (hn:cP m p=true):
  (wF (de m) s' i').getD (fu m p) []=(wF m s i).getD p []:=by
 unfold wF
 rw [show (de m).nodes.length=fu m m.nodes.length from lq m m.nodes.length]
 exact Xj g hs hi _ (Nat.le_refl _) p (zh g (fe.1 hn)) hn
def MR (f:Nat->Bool) (ps:List Nat) (some all:List (List Nat)):List (List Nat):=
 (List.range ps.length).map fun i=>if f (ps.getD i 0)=true then some.getD ((ps.take i).filter f).length []else all.getD i []
theorem AB (f:Nat->Bool) (ps:List Nat) (some all:List (List Nat)):(MR f ps some all).length=ps.length:=by unfold MR;rw [List.length_map,List.length_range]
theorem ET {f:Nat->Bool} {ps:List Nat} {some all:List (List Nat)} {i p:Nat} (h:ps[i]?= .some p):(MR f ps some all).getD i []=if f p=true then some.getD ((ps.take i).filter f).length []else all.getD i []:=by
 unfold MR
 rw [List.getD_eq_getElem?_getD,List.getElem?_map,List.getElem?_range (get_lt h)]
 show (if f (ps.getD i 0)=true then _ else _)=_
 rw [List.getD_eq_getElem?_getD (l:=ps),h];rfl
theorem OT {f:Nat->Bool}: ∀{ps:List Nat} {i p:Nat},ps[i]?=some p->f p=true->(ps.filter f)[((ps.take i).filter f).length]?=some p:=by
 intro ps
 induction ps with
 |nil=>intro i p h;simp at h
 |cons q ps ih=>
  intro i p h hf
  cases i with
  |zero=>
   simp at h;subst h
   simp [hf]
  |succ i=>
   have h':ps[i]?=some p:=by simpa using h
   have:=ih h' hf
   rw [List.take_succ_cons,List.filter_cons,List.filter_cons]
   cases f q
   ·simpa using this
   ·simpa using this
noncomputable def upL (m:ah) (kind:Int) (c:Nat) (o:List (List Nat)):List (List Nat):=MR (cP m) (av m.nodes kind) (dL (de m).nodes (av (de m).nodes kind) c) o
theorem zl {m:ah} (kind:Int):av (de m).nodes kind=((av m.nodes kind).filter (cP m)).map (fu m):=by
 rw [BF,Bg kind _ (Nat.le_refl _),List.take_length]
theorem Ez {m:ah} {kind:Int} {i p:Nat} (h:(av m.nodes kind)[i]?=some p) (hn:cP m p=true):
  (av (de m).nodes kind)[(((av m.nodes kind).take i).filter (cP m)).length]?=some (fu m p):=by
 rw [zl,List.getElem?_map,OT h hn];rfl
theorem IW {m:ah} {kind:Int} {c i p:Nat} {o:List (List Nat)} (h:(av m.nodes kind)[i]?=some p) (hn:cP m p=true):
  (upL m kind c o).getD i []=(dL (de m).nodes (av (de m).nodes kind) c).getD (((av m.nodes kind).take i).filter (cP m)).length []:=by
 unfold upL;rw [ET h,if_pos hn]
theorem Si {m:ah} {kind:Int} {c i p:Nat} {o:List (List Nat)} (h:(av m.nodes kind)[i]?=some p) (hn:cP m p=false):(upL m kind c o).getD i []=o.getD i []:=by
 unfold upL;rw [ET h,if_neg (by rw [hn];decide)]
theorem xj {m:ah} {kind:Int} {c:Nat} {o:List (List Nat)} (ho:jS m.nodes (av m.nodes kind) o):jS m.nodes (av m.nodes kind) (upL m kind c o):=by
 refine Wz (AB ..) fun i p h=>?_
 cases hn:cP m p
 ·rw [Si h hn];exact lU ho h
 ·rw [IW h hn]
  have hp:=ld (List.mem_of_getElem? h)
  have:=lU (kK (de m) (av (de m).nodes kind) c) (Ez h hn)
  rwa [(yU hn hp).1,(yU hn hp).2]at this
theorem Ht {m:ah} {kind:Int} {p:Nat} {n:NodeP} (h:m.nodes[p]?=some n) (hk:n.kind=kind):(av m.nodes kind).take (av (m.nodes.take p) kind).length=av (m.nodes.take p) kind:=by
 have hl:=get_lt h
 obtain⟨r,hr⟩:=HB m.nodes kind (m.nodes.length-p) p (by omega)
 rw [hr,List.take_left]
theorem VT (m:ah) (kind:Int) (c:Nat) (o:List (List Nat)):N6 m kind (upL m kind c o) (dL (de m).nodes (av (de m).nodes kind) c):=by
 intro p n hn hk hnd
 have hl:=get_lt hn
 rw [IW (qn hn hk) hnd,Ht hn hk,Bg kind p (by omega),List.length_map]
theorem Kd (m:ah) (kind:Int):N6 m kind (ct m.nodes (av m.nodes kind)) (ct (de m).nodes (av (de m).nodes kind)):=by
 intro p n hn hk hnd
 have hl:=get_lt hn
 have hi:=qn hn hk
 have hj:=Ez hi hnd
 rw [Ht hn hk]at hj
 rw [Bg kind p (by omega),List.length_map,qq hi,qq hj,(yU hnd hl).1]
noncomputable def upS (m:ah) (c:Nat) (o:List (List Nat)):Nat:=dX m.nodes (stP m) (upL m 36 c o)
noncomputable def upI (m:ah) (d:Nat):Nat:=dX m.nodes (inP m) (upL m 35 d (ct m.nodes (inP m)))
noncomputable def qv (m:ah):List (List Nat)->List (Nat×Nat)->List (Nat×Nat)
 |_, []=> []
 |o,(c,d)::r=>(upS m c o,upI m d)::qv m (eg m (bL m (upS m c o) (upI m d))) r
noncomputable def gp (m:ah) (xs ys:List Int):Bool:=decide (aF m=0)&&pS (i7 m) xs ys
noncomputable def ph (m:ah) (xs ys:List Int):List (Nat×Nat):=if gp m xs ys then qv m (fL m) (jm xs ys)else []
theorem J7 {m:ah} {xs ys:List Int} (h:gp m xs ys=false):ph m xs ys= []:=by unfold ph;rw [h];rfl
theorem O9 (m:ah): ∀(r:List (Nat×Nat)) (o:List (List Nat)),(qv m o r).length=r.length:=by
 intro r
 induction r with
 |nil=>intro o;rfl
 |cons a r ih=>intro o;obtain⟨c,d⟩:=a;show (_::qv m _ r).length=_;rw [List.length_cons,ih,List.length_cons]
theorem PT {m:ah} (g:cr m) {c:Nat} {o:List (List Nat)} (ho:jS m.nodes (stP m) o):upS m c o<2^ak m.nodes 36:=by
 have:=xP (xj (c:=c) ho)
 rwa [eM g]at this
theorem PO {m:ah} (g:cr m) (d:Nat):upI m d<2^ak m.nodes 35:=by
 have:=xP (xj (c:=d) (ey m.nodes (inP m)))
 rwa [xd g]at this
theorem Qj {m:ah} {c:Nat} {o:List (List Nat)} (ho:jS m.nodes (stP m) o):dL m.nodes (stP m) (upS m c o)=upL m 36 c o:=by
 rw [jN];exact nv (xj ho)
theorem WB (m:ah) (d:Nat):dL m.nodes (inP m) (upI m d)=upL m 35 d (ct m.nodes (inP m)):=by
 rw [jN];exact nv (xj (ey m.nodes (inP m)))
structure yW (m:ah) (o:List (List Nat)) (a b:Nat×Nat):Prop where
 fit:jS m.nodes (stP m) o
 s:b.1=upS m a.1 o
 i:b.2=upI m a.2
theorem afh {m:ah} (g:cr m): ∀(r:List (Nat×Nat)) (o:List (List Nat)),jS m.nodes (stP m) o-> ∀(i:Nat) (a:Nat×Nat),r[i]?=some a->
  ∃o' b,(qv m o r)[i]?=some b/\yW m o' a b/\(i=0->o'=o)/\ ∀a',r[i+1]?=some a'-> ∃b',(qv m o r)[i+1]?=some b'/\yW m (eg m (bL m b.1 b.2)) a' b':=by
 intro r
 induction r with
 |nil=>intro o _ i a h;simp at h
 |cons x r ih=>
  intro o ho i a h
  obtain⟨c,d⟩:=x
  have hf:jS m.nodes (stP m) (eg m (bL m (upS m c o) (upI m d))):=jB g (dr g _ _).fit
  cases i with
  |zero=>
   simp at h;subst h
   refine⟨o,(upS m c o,upI m d),rfl,⟨ho,rfl,rfl⟩,fun _=>rfl,fun a' ha=>?_⟩
   have ha':r[0]?=some a':=by simpa using ha
   obtain⟨o',b,h1,h2,h3,_⟩:=ih _ hf 0 a' ha'
   rw [h3 rfl]at h2
   exact⟨b,by simpa [qv] using h1,h2⟩
  |succ i=>
   have h':r[i]?=some a:=by simpa using h
   obtain⟨o',b,h1,h2,_,h4⟩:=ih _ hf i a h'
   exact⟨o',b,by simpa [qv] using h1,h2,fun e=>by omega,fun a' ha=>by
    obtain⟨b',q1,q2⟩:=h4 a' (by simpa using ha)
    exact⟨b',by simpa [qv] using q1,q2⟩⟩
theorem RW {m:ah} (g:cr m) {o:List (List Nat)} {a b:Nat×Nat} (h:yW m o a b) {p:Nat} (hn:cP m p=true):
  (bL (de m) a.1 a.2).getD (fu m p) []=(bL m b.1 b.2).getD p []:=by
 unfold bL
 refine Pp g ?_ ?_ hn
 ·rw [h.s,Qj h.fit];exact VT m 36 a.1 o
 ·rw [h.i,WB];exact VT m 35 a.2 _
theorem OR {m:ah} (g:cr m) {o:List (List Nat)} {a b:Nat×Nat} (h:yW m o a b) {p:Int} (hn:kY m p.toNat):
  aK (bL (de m) a.1 a.2) (fu m p.toNat:Int)=aK (bL m b.1 b.2) p:=by
 unfold aK
 rw [Int.toNat_natCast,RW g h (fe.2 hn)]
theorem Vp {m:ah} (g:cr m) {o:List (List Nat)} {a b:Nat×Nat} (h:yW m o a b):iG (de m) (bL (de m) a.1 a.2)=iG m (bL m b.1 b.2):=by
 unfold iG
 show (m.holds.map _).all _=_
 rw [List.all_map]
 rw [Bool.eq_iff_iff,List.all_eq_true,List.all_eq_true]
 refine forall_congr' fun p=>forall_congr' fun hp=>?_
 show decide _=true↔decide _=true
 rw [OR g h (.hold hp)]
theorem Aw {α:Type} {l:List α} {f q:α->Bool} (h: ∀x∈l,f x=q x):l.findIdx? f=l.findIdx? q:=by
 induction l with
 |nil=>rfl
 |cons x l ih=>rw [List.findIdx?_cons,List.findIdx?_cons,h x (.head _),ih fun y hy=>h y (.tail _ hy)]
theorem Sb {m:ah} (g:cr m) {o:List (List Nat)} {a b:Nat×Nat} (h:yW m o a b):xB (de m) (bL (de m) a.1 a.2)=xB m (bL m b.1 b.2):=by
 unfold xB tQ
 have:(de m).bads.findIdx? (fun p=>decide (aK (bL (de m) a.1 a.2) p=1))=m.bads.findIdx? fun p=>decide (aK (bL m b.1 b.2) p=1):=by
  show (m.bads.map _).findIdx? _=_
  rw [List.findIdx?_map]
  refine Aw fun p hp=>?_
  show decide _=_
  rw [OR g h (.bad hp)]
 rw [this]
theorem LT {m:ah} {l:List BindP} (h: ∀b∈l,0<=b.state) {p:Nat} (hn:cP m p=true):bO (jr m l) (fu m p)=(bO l p).map (fu m):=by
 induction l with
 |nil=>rfl
 |cons b l ih=>
  have ih:=ih fun x hx=>h x (.tail _ hx)
  have hb:=h b (.head _)
  rw [sj b l p]
  unfold jr at ih⊢
  rw [List.filter_cons]
  by_cases e:cP m b.state.toNat=true
  ·rw [if_pos e,List.map_cons,sj]
   by_cases q:b.state=(p:Int)
   ·rw [if_pos q,if_pos (by rw [q,Int.toNat_natCast])]
    rfl
   ·rw [if_neg q,if_neg ?_,ih]
    show¬((fu m b.state.toNat:Nat):Int)=(fu m p:Nat)
    intro hc
    have:=abR e hn (by omega)
    omega
  ·rw [if_neg e,if_neg ?_,ih]
   intro q
   rw [q,Int.toNat_natCast]at e
   exact e hn
theorem Vz {m:ah} (g:cr m) {p:Nat} (hn:cP m p=true):dY (de m) (fu m p)=dY m p:=by
 have hp:=zh g (fe.1 hn)
 unfold dY
 rw [(yU hn hp).1]
 have hb:=LT (m:=m) (l:=m.inits) (fun b hb=>(fY g (.inl hb)).1.1) hn
 rw [show (de m).inits=jr m m.inits from rfl,hb]
 cases e:bO m.inits p with
 |none=>rfl
 |some k=>
  obtain⟨b,hbm,h1,h2⟩:=dW e
  have hk:cP m k=true:=by
   rw [<-h2]
   exact fe.2 (.ini (fe.1 hn) hbm h1)
  have hv:(kV (de m)).getD (fu m k) []=(kV m).getD k []:=Pp g (Kd m 36) (Kd m 35) hk
  show some (kJ (aE m.nodes p) ((kV (de m)).getD (fu m k) []))=some (kJ (aE m.nodes p) ((kV m).getD k []))
  rw [hv]
theorem TN {m:ah} (g:cr m) {o:List (List Nat)} {a b:Nat×Nat} (h:yW m o a b) {p:Nat} (hn:cP m p=true):gt (de m) (bL (de m) a.1 a.2) (fu m p)=gt m (bL m b.1 b.2) p:=by
 unfold gt
 have hb:=LT (m:=m) (l:=m.nexts) (fun b hb=>(fY g (.inr hb)).1.1) hn
 rw [show (de m).nexts=jr m m.nexts from rfl,hb]
 cases e:bO m.nexts p with
 |none=>rfl
 |some k=>
  obtain⟨b',hbm,h1,h2⟩:=dW e
  have hk:cP m k=true:=by
   rw [<-h2]
   exact fe.2 (.nex (fe.1 hn) hbm h1)
  show some ((bL (de m) a.1 a.2).getD (fu m k) [])=some ((bL m b.1 b.2).getD k [])
  rw [RW g h hk]
theorem LA {m:ah} {c:Nat} {o:List (List Nat)} (ho:jS m.nodes (stP m) o) {F G:Nat->Option (List Nat)} (hFG: ∀p,cP m p=true->G (fu m p)=F p)
  (hoF: ∀i p,(stP m)[i]?=some p-> ∀v,F p=some v->o.getD i []=v):
  g9 (stP m) F (dL m.nodes (stP m) (upS m c o)) (stP m).length=g9 (stP (de m)) G (dL (de m).nodes (stP (de m)) c) (stP (de m)).length:=by
 rw [Qj ho,Bool.eq_iff_iff,jF,jF]
 constructor
 ·intro h i q hq v hv
  have hq':q∈((av m.nodes 36).filter (cP m)).map (fu m):=by rw [<-zl];exact List.mem_of_getElem? hq
  obtain⟨p,hp,rfl⟩:=List.mem_map.1 hq'
  obtain⟨hp1,hn⟩:=List.mem_filter.1 hp
  obtain⟨j,hj⟩:=List.getElem?_of_mem hp1
  rw [hFG p hn]at hv
  have:=h j p hj v hv
  rw [IW hj hn]at this
  rwa [EK (yi (de m).nodes 36) hq (Ez hj hn)]
 ·intro h i p hp v hv
  cases hn:cP m p
  ·rw [Si hp hn];exact hoF i p hp v hv
  ·rw [IW hp hn]
   exact h _ _ (Ez hp hn) v (by rw [hFG p hn];exact hv)
theorem Xy {m:ah} {xs ys:List Int} (hok:gp m xs ys=true):(ph m xs ys).length=xs.length/\
  dN m (VL ((ph m xs ys).map Prod.fst)) (VL ((ph m xs ys).map Prod.snd))=dN (i7 m) xs ys/\
  xB m (bL m (cAt (VL ((ph m xs ys).map Prod.fst)) (xs.length-1)) (cAt (VL ((ph m xs ys).map Prod.snd)) (xs.length-1)))=xB (i7 m) (bL (i7 m) (cAt xs (xs.length-1)) (cAt ys (xs.length-1))):=by
 unfold ph
 rw [hok,if_pos rfl]
 unfold gp at hok
 simp only [Bool.and_eq_true,decide_eq_true_eq]at hok
 obtain⟨hc,hsh⟩:=hok
 have g:=cD hc
 rw [show i7 m=de m by unfold i7;rw [if_pos hc]]at hsh⊢
 obtain⟨_,hx1,hx2,hyl,hxs,hys⟩:=gN hsh
 have hat:=afh g (jm xs ys) (fL m) (rU g)
 have hrl:=O9 m (jm xs ys) (fL m)
 rw [nG]at hrl
 generalize qv m (fL m) (jm xs ys)=rr at*
 have hal:(VL (rr.map Prod.fst)).length=xs.length:=by rw [aX,List.length_map];exact hrl
 have hbl:(VL (rr.map Prod.snd)).length=xs.length:=by rw [aX,List.length_map];exact hrl
 have hgs: ∀i b,rr[i]?=some b->cAt (VL (rr.map Prod.fst)) i=b.1/\cAt (VL (rr.map Prod.snd)) i=b.2:=fun i b hb=>by
  unfold cAt
  rw [List.getD_eq_getElem?_getD,List.getD_eq_getElem?_getD,rG hb,rG hb];exact⟨rfl,rfl⟩
 have hmom: ∀i,i<xs.length-> ∃o,yW m o (cAt xs i,cAt ys i) (cAt (VL (rr.map Prod.fst)) i,cAt (VL (rr.map Prod.snd)) i)/\(i=0->o=fL m)/\
   (i+1<xs.length->yW m (eg m (bL m (cAt (VL (rr.map Prod.fst)) i) (cAt (VL (rr.map Prod.snd)) i))) (cAt xs (i+1),cAt ys (i+1)) (cAt (VL (rr.map Prod.fst)) (i+1),cAt (VL (rr.map Prod.snd)) (i+1))):=fun i hi=>by
  obtain⟨o,b,h1,h2,h3,h4⟩:=hat i _ (uQ hi)
  refine⟨o,?_,h3,fun hi1=>?_⟩
  ·rw [(hgs i b h1).1,(hgs i b h1).2];exact h2
  ·obtain⟨b',q1,q2⟩:=h4 _ (uQ hi1)
   rw [(hgs i b h1).1,(hgs i b h1).2,(hgs _ b' q1).1,(hgs _ b' q1).2];exact q2
 have hsm:pS m (VL (rr.map Prod.fst)) (VL (rr.map Prod.snd))=true:=by
  unfold pS
  rw [hal,hbl,decide_eq_true hc,decide_eq_true (show 1<=((xs.length:Nat):Int)/\((xs.length:Nat):Int)<=301 by omega),decide_eq_true rfl]
  simp only [Bool.true_and,Bool.and_eq_true]
  rw [List.all_eq_true,List.all_eq_true]
  refine⟨fun v hv=>?_,fun v hv=>?_⟩
  ·obtain⟨i,hi⟩:=List.getElem?_of_mem hv
   have hil:=get_lt hi
   obtain⟨b,hb⟩: ∃b,rr[i]?=some b:=⟨_,List.getElem?_eq_getElem (by omega)⟩
   rw [rG hb]at hi
   obtain rfl:=Option.some.inj hi
   obtain⟨o,h1,_⟩:=hmom i (by omega)
   have:=PT g (c:=cAt xs i) h1.fit
   rw [<-h1.s]at this
   show k9 _ ((b.1:Nat):Int)=true
   rw [<-(hgs i b hb).1]
   exact jU.2 ⟨by omega,by show ((cAt (VL (rr.map Prod.fst)) i:Nat):Int)<_;have:cAt (VL (rr.map Prod.fst)) i<_:=this;omega⟩
  ·obtain⟨i,hi⟩:=List.getElem?_of_mem hv
   have hil:=get_lt hi
   obtain⟨b,hb⟩: ∃b,rr[i]?=some b:=⟨_,List.getElem?_eq_getElem (by omega)⟩
   rw [rG hb]at hi
   obtain rfl:=Option.some.inj hi
   obtain⟨o,h1,_⟩:=hmom i (by omega)
   have:=PO g (cAt ys i)
   rw [<-h1.i]at this
   show k9 _ ((b.2:Nat):Int)=true
   rw [<-(hgs i b hb).2]
   exact jU.2 ⟨by omega,by show ((cAt (VL (rr.map Prod.snd)) i:Nat):Int)<_;have:cAt (VL (rr.map Prod.snd)) i<_:=this;omega⟩
 refine⟨hrl,?_,?_⟩
 rotate_left
 ·obtain⟨o,h1,_⟩:=hmom (xs.length-1) (by omega)
  exact(Sb g h1).symm
 have e1:g9 (stP m) (dY m) (dL m.nodes (stP m) (cAt (VL (rr.map Prod.fst)) 0)) (stP m).length=g9 (stP (de m)) (dY (de m)) (dL (de m).nodes (stP (de m)) (cAt xs 0)) (stP (de m)).length:=by
  obtain⟨o,h1,h2,_⟩:=hmom 0 (by omega)
  obtain rfl:=h2 rfl
  have hs:cAt (VL (rr.map Prod.fst)) 0=upS m (cAt xs 0) (fL m):=h1.s
  rw [hs]
  refine LA h1.fit (fun p hn=>Vz g hn) fun i p hp v hv=>?_
  rw [Sd m hp,hv];rfl
 have e2:(List.range (xs.length-1)).all (CV m (VL (rr.map Prod.fst)) (VL (rr.map Prod.snd)))=(List.range (xs.length-1)).all (CV (de m) xs ys):=by
  rw [Bool.eq_iff_iff,List.all_eq_true,List.all_eq_true]
  refine forall_congr' fun i=>forall_congr' fun hi=>?_
  have hi':=List.mem_range.1 hi
  obtain⟨o,h1,_,h3⟩:=hmom i (by omega)
  have h3:=h3 (by omega)
  unfold CV
  have hs:cAt (VL (rr.map Prod.fst)) (i+1)=upS m (cAt xs (i+1)) (eg m (bL m (cAt (VL (rr.map Prod.fst)) i) (cAt (VL (rr.map Prod.snd)) i))):=h3.s
  rw [hs,LA h3.fit (F:=gt m (bL m (cAt (VL (rr.map Prod.fst)) i) (cAt (VL (rr.map Prod.snd)) i))) (G:=gt (de m) (bL (de m) (cAt xs i) (cAt ys i))) (fun p hn=>TN g h1 hn) fun j p hp v hv=>?_]
  unfold eg mG
  rw [List.getD_eq_getElem?_getD,List.getElem?_map,hp]
  simp [hv]
 have e3:(List.range xs.length).all (HH m (VL (rr.map Prod.fst)) (VL (rr.map Prod.snd)))=(List.range xs.length).all (HH (de m) xs ys):=by
  rw [Bool.eq_iff_iff,List.all_eq_true,List.all_eq_true]
  refine forall_congr' fun i=>forall_congr' fun hi=>?_
  obtain⟨o,h1,_⟩:=hmom i (List.mem_range.1 hi)
  unfold HH
  rw [Vp g h1]
 obtain⟨o,h1,_⟩:=hmom (xs.length-1) (by omega)
 have e4:=Sb g h1
 unfold dN
 rw [hal,hsm,hsh,e1,e2,e3,e4]
theorem SA {f:Nat->Bool} {ps:List Nat} {i p:Nat} (h:ps[i]?=some p) (hf:f p=true):((ps.take (i+1)).filter f).length=((ps.take i).filter f).length+1/\((ps.take i).filter f).length<(ps.filter f).length:=by
 have hi:=get_lt h
 have e:ps.take (i+1)=ps.take i++ [p]:=by
  rw [List.take_succ_eq_append_getElem hi]
  rw [List.getElem?_eq_getElem hi]at h
  rw [Option.some.inj h]
 refine⟨by rw [e,List.filter_append,List.length_append];simp [hf],get_lt (OT h hf)⟩
theorem WJ {f:Nat->Bool} {ps:List Nat} {i p:Nat} (h:ps[i]?=some p) (hf:f p=false):((ps.take (i+1)).filter f).length=((ps.take i).filter f).length:=by
 have hi:=get_lt h
 have e:ps.take (i+1)=ps.take i++ [p]:=by
  rw [List.take_succ_eq_append_getElem hi]
  rw [List.getElem?_eq_getElem hi]at h
  rw [Option.some.inj h]
 rw [e,List.filter_append,List.length_append];simp [hf]
theorem Ec {α:Type} {l:List α} {i:Nat} {d:α} (h:i<l.length):l.getD i d∈l:=by
 rw [List.getD_eq_getElem?_getD,List.getElem?_eq_getElem h];exact List.getElem_mem h
theorem ux {h:Hp} {M:MSl} {m:ah} {kind:Int} {b:Nat} {f:Nat->Bool} {sK sO:Sl} {kept others:List (List Nat)} {R:Value->Hp->Prop} (hs:aO h M m) (hm:bR m) (g:cr m)
  (fb:h b=some (.inl ⟨mkC m.nodes.length f,m.nodes.length,false⟩)) (iK:IntSS h sK (kept.map VL)) (iO:IntSS h sO (others.map VL)) (hk:((av m.nodes kind).filter f).length=kept.length) (ho:others.length=(av m.nodes kind).length)
  (k4: ∀x∈kept,x.length<=4) (o4: ∀x∈others,x.length<=4)
  (k: ∀out h',h.le h'->IntSS h' out ((MR f (av m.nodes kind) kept others).map VL)->R (Sl.v out) h'):qG #[aQ M,I kind,(arr b m.nodes.length).v,sK.v,sO.v] h R:=by
 apply Ka
 refine uf_ ?_
 have hpl:=dV m.nodes kind
 have hnl:=g.nl
 have K0:=Kn.nil h
 (with_reducible apply Kn.al);(assumption);(intro b11 h1 K1 l1 hb11)
 clear K0
 repeat' (refine kr_ ?_)
 refine cJ (hs.mono K1.le) hm fun pt h2 l2 ip=>⟨_,rfl,?_⟩
 have l02:=Hp.le_trans K1.le l2
 have hpn:pt.n=(av m.nodes kind).length:=by have:=ip.len;rw [aX]at this;exact this
 have hkn:=iK.len
 have hon':=iO.len
 rw [List.length_map]at hkn hon'
 clear K1 l1 hb11 l2
 have iK2:=iK.mono l02
 have iO2:=iO.mono l02
 have fb2:=l02 _ _ fb
 refine au (av m.nodes kind).length (fun i vs h'=> ∃(ts:List Sl) (out:Sl),vs= [(arr b m.nodes.length).v,sK.v,sO.v,pt.v,out.v,I ((((av m.nodes kind).take i).filter f).length:Nat),I (i:Nat)]/\h2.le (h'.offS out)/\out.n=i/\ts.length=i/\Buf h' out 1 (ts.map Sl.v)/\
  (∀(j:Nat) (t:Sl),ts[j]?=some t->IntS (h'.offS out) t (VL ((MR f (av m.nodes kind) kept others).getD j [])))) ⟨[],⟨none,0,0⟩,rfl,Hp.le_refl _,rfl,rfl,fD _ _,fun j t ht=>by simp at ht⟩ ?_
 rintro i _ h3 next hi ⟨ts,out,rfl,l3',hon,htl,hbuf,hts⟩ hnx
 have l23:=Hp.le_trans l3' (aW h3 out)
 refine⟨arr b m.nodes.length,sK,sO,pt,out,_,_,rfl,?_⟩
 by_cases hlt:i<(av m.nodes kind).length
 rotate_left
 ·obtain rfl:i=(av m.nodes kind).length:=by omega
  refine aC (by rw [decide_eq_false_iff_not];omega) ?_
  refine k out h3 (Hp.le_trans l02 l23) ⟨ts,by rw [List.length_map,AB];exact htl,hbuf.slc_of (by omega),fun j h1 h2=>?_⟩
  have:=(hts j _ (List.getElem?_eq_getElem h1)).mono (aW h3 out)
  rw [List.getElem_map]
  rwa [List.getD_eq_getElem?_getD,List.getElem?_eq_getElem (by rw [AB];omega)]at this
 refine aM (by rw [decide_eq_true_eq];omega) ?_
 obtain⟨p,hpi⟩: ∃p,(av m.nodes kind)[i]?=some p:=⟨_,List.getElem?_eq_getElem hlt⟩
 have hpm:=bV g kind p (List.mem_of_getElem? hpi)
 obtain⟨bp,op,hap,hcp⟩:=(ip.mono l23).get (iq hpi)
 have hfl:(((av m.nodes kind).take i).filter f).length<=i:=Nat.le_trans (List.length_filter_le _ _) (by rw [List.length_take];omega)
 refine⟨bp,op,hap,by omega,by omega,?_⟩
 refine⟨_,by rw [Int.toNat_natCast];exact hcp,?_⟩
 refine⟨b,0,rfl,by omega,by show _<((m.nodes.length:Nat):Int);omega,?_⟩
 refine⟨f p,by rw [ax (l23 _ _ fb2),Int.toNat_natCast,Nat.zero_add,Nat.mul_one];exact pL _ hpm,?_⟩
 have hmix:=ET (f:=f) (some:=kept) (all:=others) hpi
 have fin: ∀(cnt:Nat) (t0:Sl) (x:List Nat),IntS h3 t0 (VL x)->x.length<=4->(MR f (av m.nodes kind) kept others).getD i []=x->(((av m.nodes kind).take (i+1)).filter f).length=cnt->
   eW #[.agg #[t0.v]] h3 fun v50 h50=> ∃s51:Sl,v50= .agg #[s51.v]/\ ∀b52:Nat,h50 b52=none->cM (h50.row b52 [s51.v] 1) fun h53=>cy h53 out.a out.n out.c (some (Addr.mk b52 0 none)) 1 1 24 fun a54 n55 k56 h57=>
    next [(arr b m.nodes.length).v,sK.v,sO.v,pt.v, .slice a54 n55 k56,I (cnt:Nat),I (W ((i:Int)+1))] h57:=by
  intro cnt t0 x hx h4 hxm hcnt
  refine qj hx (by rw [aX];omega) fun t h5 l5 hb5=>⟨_,rfl,?_⟩
  have l5o:=bC out l5
  have hbuf5:=hbuf.mono l5
  have ht5:IntS (h5.offS out) t (VL x):=SlC.mono hbuf.sub_offS (hb5.slc (by have:=hb5.1;rw [List.length_map,aX]at this;omega))
  refine aj fun b52 h6 hb6 l6 f6=>?_
  refine dG (hbuf5.mono l6) (by omega) (by omega) (by omega) ⟨b52,0,rfl,aw f6⟩ (by simp) rfl ?_
  intro s' h7 hs'n hbuf' l7 _
  rw [ay (by omega)]
  have l37:=Hp.le_trans (Hp.le_trans l5o (bC out l6)) l7
  have hbuf'':Buf h7 s' 1 ((ts++ [t]).map Sl.v):=by rw [List.map_append];exact hbuf'
  refine hnx hlt _ _ ⟨ts++ [t],s',by rw [hcnt],Hp.le_trans l3' l37,by omega,by simp;omega,hbuf'',fun j u hu=>?_⟩
  by_cases hj:j<i
  ·rw [List.getElem?_append_left (by omega)]at hu
   exact(hts j u hu).mono l37
  ·have hju:=get_lt hu
   simp at hju
   obtain rfl:j=i:=by omega
   rw [List.getElem?_append_right (by omega),htl,Nat.sub_self]at hu
   simp at hu;subst hu
   rw [hxm]
   exact ht5.mono (Hp.le_trans (bC out l6) l7)
 refine ad (fun e=>?_) (fun e=>?_)
 ·obtain⟨e1,e2⟩:=SA hpi e
  rw [if_pos e]at hmix
  obtain⟨bk,ok,t,hak,hck,hit⟩:=(iK2.mono l23).getV (i:=(((av m.nodes kind).take i).filter f).length) (by omega)
  refine⟨bk,ok,hak,by omega,by omega,t,by rw [Int.toNat_natCast];exact hck,?_⟩
  rw [ay (by omega)]
  exact fin _ t _ hit (k4 _ (Ec (by omega))) hmix e1
 ·rw [if_neg (by rw [e];decide)]at hmix
  obtain⟨bk,ok,t,hak,hck,hit⟩:=(iO2.mono l23).getV (i:=i) (by omega)
  refine⟨bk,ok,hak,by omega,by omega,t,by rw [Int.toNat_natCast];exact hck,?_⟩
  exact fin _ t _ hit (o4 _ (Ec (by omega))) hmix (WJ hpi e)
theorem Gg {h:Hp} {M:MSl} {m:ah} {kind:Int} {R:Value->Hp->Prop} (hs:aO h M m) (hm:bR m) (g:cr m)
  (k: ∀out h',h.le h'->IntSS h' out ((ct m.nodes (av m.nodes kind)).map VL)->R (Sl.v out) h'):mb #[aQ M,I kind] h R:=by
 refine BD hs hm g fun out ts h' l hon htl hbuf hts=>k out h' (Hp.le_trans l (aW _ _)) ⟨ts,by rw [List.length_map,fy];exact htl,hbuf.slc_of (by have:=dV m.nodes kind;have:=g.nl;omega),fun i h1 h2=>?_⟩
 have:=(hts i _ (List.getElem?_eq_getElem h1)).mono (aW h' out)
 rw [List.getElem_map]
 rwa [List.getD_eq_getElem?_getD,List.getElem?_eq_getElem (by rw [fy];omega)]at this
theorem vN {l:List NodeP} {ps:List Nat} {o:List (List Nat)} (ho:jS l ps o): ∀x∈o,x.length<=4:=fun x hx=>by
 obtain⟨i,hi⟩:=List.getElem?_of_mem hx
 have hl:=get_lt hi
 rw [jZ ho]at hl
 have:=(lU ho (List.getElem?_eq_getElem hl)).1
 rw [List.getD_eq_getElem?_getD,hi]at this
 have c4:=dk l ps[i]
 have:x.length=aE l ps[i]:=this
 omega
theorem v5 (m:ah) (kind:Int) (c:Nat):((av m.nodes kind).filter (cP m)).length=(dL (de m).nodes (av (de m).nodes kind) c).length:=by
 rw [j6,zl,List.length_map]
theorem zz {xs ys:List Int} {i:Nat} (h:i<xs.length):(jm xs ys).drop i=(cAt xs i,cAt ys i)::(jm xs ys).drop (i+1):=by
 have hb:=uQ (ys:=ys) h
 rw [List.drop_eq_getElem_cons (by rw [nG];omega)]
 rw [List.getElem?_eq_getElem (by rw [nG];omega)]at hb
 rw [Option.some.inj hb]
theorem JH {m:ah} (g:cr m) (s i:Nat):dL m.nodes (stP m) (nc m s i)=eg m (bL m s i):=by
 rw [jN];exact nv (jB g (dr g s i).fit)
set_option maxHeartbeats 2000000 in
theorem nX {h:Hp} {M:MSl} {m:ah} {sS sI:Sl} {xs ys:List Int} {R:Value->Hp->Prop} (hs:aO h M m) (hm:bR m) (h1:IntS h sS xs) (h2:IntS h sI ys)
  (k: ∀tS tI h',TrG h h' tS tI (ph m xs ys)->R (A0 tS tI (gp m xs ys)) h'):ff #[aQ M, .agg #[sS.v,sI.v]] h R:=by
 apply yl
 refine uf_ ?_
 have hn:=h1.len
 (with_reducible apply Kn.al);(exact Kn.nil h);(intro b9 h3 K1 l3 hb9)
 refine Kn.al K1 fun b11 h4 K2 l4 hb11=>?_
 refine Kn.al K2 fun b13 h5 K3 l5 hb13=>?_
 repeat' (refine kr_ ?_)
 clear K1 K2 l3 l4 l5 hb9 hb11 hb13
 refine kv (hs.mono K3.le) hm fun C h6 l6 hC=>⟨_,_,_,_,_,rfl,?_⟩
 have K6:=K3.mono l6
 clear K3
 refine Kn.al K6 fun b28 h7 K7 l7 hb28=>?_
 clear K6
 refine kw_ ?_
 intro h8 K8 kp8
 simp only [bX,List.set_cons_zero,List.set_cons_succ,Nat.zero_add,Nat.reduceAdd]at K8
 have hC8:aO h8 C (i7 m):=hC.mono (im hb28 l7 kp8)
 clear K7 kp8 hC l6 l7 hb28
 refine ap (fun J=> ∀(c:Bool),c=(!gp m xs ys)->J c h8) (fun c hc0=>?_) (fun J hJ=>?_)
 rotate_left
 ·repeat' (refine kr_ ?_)
  refine cj (hs.mono K8.le) hm ⟨_,rfl,?_⟩
  by_cases hc:aF m=0
  rotate_left
  ·refine aM (by rw [bne_iff_ne];exact hc) (hJ true ?_)
   unfold gp
   rw [decide_eq_false hc,Bool.false_and];rfl
  refine aC (by rw [hc];rfl) ?_
  repeat' (refine kr_ ?_)
  have smC:bR (i7 m):=by unfold i7;rw [if_pos hc];exact kc (cD hc) hm
  refine zW hC8 smC (h1.mono K8.le) (h2.mono K8.le) ⟨_,rfl,hJ _ ?_⟩
  unfold gp
  rw [decide_eq_true hc,Bool.true_and]
 refine ad (fun e=>?_) (fun e=>?_)
 ·have e':gp m xs ys=false:=by rw [e]at hc0;simpa using hc0.symm
  rw [J7 e',e']at k
  refine kw_ ?_
  intro h9 K9 _
  exact⟨⟨none,0,0⟩,by rw [ax (K9.at (.tail _ (.head _)))];rfl,⟨none,0,0⟩,by rw [ax (K9.at (.tail _ (.head _)))];rfl,k ⟨none,0,0⟩ ⟨none,0,0⟩ h9 (TrG.nil K9.le)⟩
 have hok:gp m xs ys=true:=by rw [e]at hc0;simpa using hc0.symm
 clear e hc0 c
 rw [hok]at k
 unfold ph at k
 rw [hok,if_pos rfl]at k
 unfold gp at hok
 simp only [Bool.and_eq_true,decide_eq_true_eq]at hok
 obtain⟨hc,hsh⟩:=hok
 have g:=cD hc
 rw [show i7 m=de m by unfold i7;rw [if_pos hc]]at hsh hC8
 obtain⟨hcc,hx1,hx2,hyl,hxs,hys⟩:=gN hsh
 have gC:=cD hcc
 have smC:=kc g hm
 have n8:=g.n8
 have k5:=g.k5
 have hp8:2^ak m.nodes 36<=2^8:=Nat.pow_le_pow_right (by omega) n8
 have hp5:2^ak m.nodes 35<=2^5:=Nat.pow_le_pow_right (by omega) k5
 repeat' (refine kr_ ?_)
 refine BC (hs.mono K8.le) hm g fun h9 bn Kn9=>⟨_,rfl,?_⟩
 have K9:=K8.mono Kn9.le
 have fb9:=Kn9.at (.head _)
 have hC9:=hC8.mono Kn9.le
 repeat' (refine kr_ ?_)
 clear Kn9 K8 hC8
 refine cJ (hs.mono K9.le) hm fun pt h10 l10 ips=>⟨_,rfl,?_⟩
 have K10:=K9.mono l10
 repeat' (refine kr_ ?_)
 refine cJ (hs.mono K10.le) hm fun pi h11 l11 ipi=>⟨_,rfl,?_⟩
 have K11:=K10.mono l11
 repeat' (refine kr_ ?_)
 refine yP (hs.mono K11.le) hm g fun o0 h12 l12 io0=>⟨_,rfl,?_⟩
 have K12:=K11.mono l12
 replace ips:=ips.mono (Hp.le_trans l11 l12)
 replace ipi:=ipi.mono l12
 have l912:=Hp.le_trans l10 (Hp.le_trans l11 l12)
 have fb:=l912 _ _ fb9
 have hCb:=hC9.mono l912
 clear K9 K10 K11 l10 l11 l12 l912 fb9 hC9
 (with_reducible apply Kn.al);(exact Kn.nil h12);(intro b98 h13 K13 l13 hb98)
 have f9:=K12.at (b:=b9) (by((focus ((repeat first|exact .head _|apply List.Mem.tail);done))))
 have f11:=K12.at (b:=b11) (by((focus ((repeat first|exact .head _|apply List.Mem.tail);done))))
 have f13:=K12.at (b:=b13) (by((focus ((repeat first|exact .head _|apply List.Mem.tail);done))))
 have f28:=K12.at (b:=b28) (by((focus ((repeat first|exact .head _|apply List.Mem.tail);done))))
 have x9:=cf f9
 have x11:=cf f11
 have x28:=cf f28
 have hsb:=hs.mono K12.le
 have h1b:=h1.mono K12.le
 have h2b:=h2.mono K12.le
 refine au xs.length (fun i vs h'=> ∃(pre:List (Nat×Nat)) (o:List (List Nat)) (sO tS tI:Sl) (XS XI:List (Nat×Blk)),
  vs= [.pointer (some ⟨b9,0,none⟩), .pointer (some ⟨b11,0,none⟩), .pointer (some ⟨b13,0,none⟩), .pointer (some ⟨b28,0,none⟩),(arr bn m.nodes.length).v,pt.v,pi.v,sO.v, .pointer (some ⟨b98,0,none⟩),I (i:Nat)]/\Kn h12 h' ((b98, .inl ⟨[tS.v,tI.v],2,false⟩)::(XS++(XI++ [])))/\
  bT XS tS 1 ((VL (pre.map Prod.fst)).map I)/\bT XI tI 1 ((VL (pre.map Prod.snd)).map I)/\pre.length=i/\IntSS h' sO (o.map VL)/\jS m.nodes (stP m) o/\pre++qv m o ((jm xs ys).drop i)=qv m (fL m) (jm xs ys))
  ⟨[],fL m,o0,⟨none,0,0⟩,⟨none,0,0⟩, [], [],rfl,K13,cF 1,cF 1,rfl,io0.mono l13,rU g,rfl⟩ ?_
 clear K13 l13 hb98 io0 o0
 rintro i _ h14 next hi ⟨pre,o,sO,tS,tI,XS,XI,rfl,K,oS,oI,hpl,io,fo,hrun⟩ hnx
 refine⟨b9,0,b11,0,b13,0,b28,0,arr bn m.nodes.length,pt,pi,sO,b98,0,_,rfl,?_⟩
 have hpl1:=oS.1
 have hpl2:=oI.1
 simp only [List.length_map,aX,Nat.mul_one]at hpl1 hpl2
 repeat' (refine kr_ ?_)
 rw [hn]
 by_cases hlt:i<xs.length
 rotate_left
 ·obtain rfl:i=xs.length:=by omega
  refine aC (by rw [decide_eq_false_iff_not];omega) ?_
  have hd:(jm xs ys).drop xs.length= []:=by rw [<-nG xs ys,List.drop_length]
  rw [hd]at hrun
  replace hrun:pre=qv m (fL m) (jm xs ys):=by rw [<-hrun];exact(List.append_nil pre).symm
  (refine kr_ ?_)
  (refine kr_ ?_)
  have K2':=K12.mono K.le
  (with_reducible apply Kn.wr);(exact K2');((focus ((repeat first|exact .head|apply Upd.tail);done)))
  ·exact of_decide_eq_true rfl
  intro h15 K15 kp
  refine⟨tS,by rw [ax (K15.at (b:=b13) (by((focus ((repeat first|exact .head _|apply List.Mem.tail);done)))))];rfl,tI,by rw [ax (K15.at (b:=b13) (by((focus ((repeat first|exact .head _|apply List.Mem.tail);done)))))];rfl,?_⟩
  have t:=Qe (b6:=b13) K12.le (by rw [f13];simp) oS oI K K15.le kp
  rw [hrun]at t
  exact k tS tI h15 t
 clear K12
 refine aM (by rw [decide_eq_true_eq];omega) ?_
 obtain⟨hxi,hxl⟩:=hxs i hlt
 obtain⟨hyi,hyll⟩:=hys i hlt
 repeat' (refine kr_ ?_)
 refine BN (hCb.mono K.le) smC gC (h1b.mono K.le) (h2b.mono K.le) hxi hyi hxl hyll fun u1 u2 h15 l15 iu1 iu2=>⟨_,_,rfl,?_⟩
 have K15:=K.mono l15
 replace io:=io.mono l15
 repeat' (refine kr_ ?_)
 refine ux (hsb.mono K15.le) hm g (K15.le _ _ fb) iu1 io (v5 m 36 _) (by rw [jZ fo]) yD (vN fo) fun w1 h16 l16 iw1=>⟨_,rfl,?_⟩
 have K16:=K15.mono l16
 replace iu2:=iu2.mono l16
 repeat' (refine kr_ ?_)
 clear io
 have f1:=xj (c:=cAt xs i) fo
 refine qo (vs:=upL m 36 (cAt xs i) o) (hsb.mono K16.le) hm g.ok (ips.mono K16.le) (bV g 36) (ge g 36) iw1 f1 (by rw [eM g];omega) ⟨_,rfl,?_⟩
 repeat' (refine kr_ ?_)
 refine Gg (hsb.mono K16.le) hm g fun z1 h17 l17 iz1=>⟨_,rfl,?_⟩
 have K17:=K16.mono l17
 replace iu2:=iu2.mono l17
 repeat' (refine kr_ ?_)
 refine ux (hsb.mono K17.le) hm g (K17.le _ _ fb) iu2 iz1 (v5 m 35 _) (by rw [fy]) yD (vN (ey _ _)) fun w2 h18 l18 iw2=>⟨_,rfl,?_⟩
 have K18:=K17.mono l18
 repeat' (refine kr_ ?_)
 have f2:=xj (c:=cAt ys i) (ey m.nodes (inP m))
 refine qo (vs:=upL m 35 (cAt ys i) (ct m.nodes (inP m))) (hsb.mono K18.le) hm g.ok (ipi.mono K18.le) (bV g 35) (ge g 35) iw2 f2 (by rw [xd g];omega) ⟨_,rfl,?_⟩
 have hsl:upS m (cAt xs i) o<2^ak m.nodes 36:=PT g fo
 have hil:upI m (cAt ys i)<2^ak m.nodes 35:=PO g _
 rw [show dX m.nodes (av m.nodes 36) (upL m 36 (cAt xs i) o)=upS m (cAt xs i) o from rfl]
 rw [show dX m.nodes (av m.nodes 35) (upL m 35 (cAt ys i) (ct m.nodes (inP m)))=upI m (cAt ys i)from rfl]
 generalize hus:upS m (cAt xs i) o=us at*
 generalize hui:upI m (cAt ys i)=ui at*
 (refine kr_ ?_)
 refine Kn.al K18 fun b180 h19 K19 l19 hb180=>?_
 have f180:=K19.at (.head _)
 refine Kn.growIn (A:= [_,_]) K19 oS (by omega) (by omega) (by omega) ⟨b180,0,rfl,aw f180⟩ rfl rfl fun tS' XS' h20 hnS oS' K20 l20=>?_
 simp only [List.cons_append,List.nil_append]at K20
 clear K19 l19 hb180 f180 K18 K15 K16 K17 K iw1 iw2 iz1 iu1 iu2
 (((with_reducible apply Kn.wr);(assumption);((focus ((repeat first|exact .head|apply Upd.tail);done)))))
 ·simp
 intro h21 K21 _
 simp only [bG,List.set_cons_zero,List.set_cons_succ,Nat.zero_add,Nat.reduceAdd]at K21
 clear K20 l20
 (refine kr_ ?_)
 refine Kn.al K21 fun b191 h22 K22 l22 hb191=>?_
 have f191:=K22.at (.head _)
 refine Kn.growIn2 (A:= [_,_,_]) K22 oI (by omega) (by omega) (by omega) ⟨b191,0,rfl,aw f191⟩ rfl rfl fun tI' XI' h23 hnI oI' K23 l23=>?_
 simp only [List.cons_append,List.nil_append]at K23
 clear K22 l22 hb191 f191 K21
 (((with_reducible apply Kn.wr);(assumption);((focus ((repeat first|exact .head|apply Upd.tail);done)))))
 ·simp
 intro h24 K24 _
 simp only [bG,List.set_cons_zero,List.set_cons_succ,Nat.zero_add,Nat.reduceAdd]at K24
 clear K23 l23
 have nd:=K24.nd
 have KS:Kn h12 h24 ((b98, .inl ⟨[tS'.v,tI'.v],2,false⟩)::(XS'++(XI'++ []))):=by
  refine K24.sub (fun e he=> .tail _ (.tail _ he)) ?_
  simp only [List.map_cons,List.nodup_cons]at nd⊢
  exact nd.2.2
 repeat' (refine kr_ ?_)
 clear K24 nd
 refine wW (hsb.mono KS.le) hm g (by omega) (by omega) ⟨_,rfl,?_⟩
 have hnl:=xc g us ui
 repeat' (refine kr_ ?_)
 refine fM (hsb.mono KS.le) hm g.ok (ips.mono KS.le) (bV g 36) (ge g 36) (by omega) (by rw [eM g];omega) fun sO' h25 l25 io'=>⟨_,rfl,?_⟩
 have K25:=KS.mono l25
 rw [ay (by omega)]
 rw [JH g]at io'
 refine hnx hlt _ _ ⟨pre++ [(us,ui)],eg m (bL m us ui),sO',tS',tI',XS',XI',rfl,K25,by simpa [VL] using oS',by simpa [VL] using oI',by simp;omega,io',jB g (dr g _ _).fit,?_⟩
 rw [<-hrun,zz hlt,List.append_assoc]
 rw [<-hus,<-hui];rfl
theorem sub_offS (h g:Hp) (s:Sl):(h.sub g).offS s=(h.offS s).sub g:=by
 unfold Hp.offS
 cases s.a with
 |none=>rfl
 |some a=>
  funext c
  simp only [Hp.off,Hp.set,Hp.sub]
  cases g c<;>simp
theorem Buf.sub_offS' {h h' h0:Hp} {s:Sl} {sz:Nat} {cs:List Value} (e:Buf h s sz cs) (l:h0.le h):(h'.sub h).le ((h'.sub h0).offS s):=by
 unfold Hp.offS
 rcases e.2.2 with ⟨h1,_⟩|⟨b,ha,hb⟩
 ·rw [h1];exact sP _ l
 ·rw [ha];exact abU l hb
theorem rD.newS {h0 h:Hp} {out:Sl} {ts:List Sl} {vs:List (List Nat)} (e:rD h0 h out ts vs) (hl: ∀v∈vs,v.length<=1048576) (hn:out.n<=1048576):IntSS (h.sub h0) out (vs.map VL):=by
 refine⟨ts,by rw [List.length_map];exact e.len,(e.buf.subOf e.le).slc (by omega),fun i h1 h2=>?_⟩
 rw [List.length_map]at h2
 obtain⟨b,e1,e2,e3⟩:=e.row i _ (List.getElem?_eq_getElem h1)
 rw [List.getElem_map,e1]
 have hg:vs.getD i []=vs[i]:=by rw [List.getD_eq_getElem?_getD,List.getElem?_eq_getElem h2];rfl
 have h4:=hl _ (List.getElem_mem h2)
 rw [hg]at e3⊢
 refine⟨by dsimp only;omega,by simp [aX], .inr ⟨b,0,rfl,aw (n:=vs[i].length) (ro:=false) ?_⟩⟩
 rw [ln e2]
 exact aW _ _ _ _ e3
theorem ab3 {h:Hp} {M:MSl} {m:ah} {s:Sl} {ps:List Nat} {code:Nat} {R:Value->Hp->Prop} (hs:aO h M m) (hm:bR m) (hok:bQ m.nodes=true) (hp:IntS h s (VL ps)) (hps: ∀p∈ps,p<m.nodes.length) (hpl:ps.length<=1048576)
  (hcode:code<=1048576) (k: ∀out h',h.le h'->IntSS (h'.sub h) out ((dL m.nodes ps code).map VL)->out.n<=out.c->R (Sl.v out) h'):dz #[aQ M,s.v,I code] h R:=by
 apply zZ
 refine uf_ ?_
 have hn:=hs.nodes.len
 have hns:=hm.nodes
 have hsn:=hp.len
 rw [aX]at hsn
 refine aj fun b9 h1 hb9 l1 f9=>?_
 repeat' (refine aD ?_)
 refine m4 (hs.mono l1) hm (hp.mono l1) hps hpl fun out ts h2 hC hon=>⟨out,rfl,?_⟩
 refine au ps.length (fun i vs h'=>vs= [I (code/2^cH m.nodes (ps.take i):Nat), .pointer (some ⟨b9,0,none⟩),out.v,s.v,I s.n,I i]/\rD h1 h' out ts (rY m.nodes ps code i)) ⟨?_,?_⟩ ?_
 ·simp [cH]
 ·have:rY m.nodes ps code 0=ct m.nodes ps:=by simp [rY]
  rw [this];exact hC
 clear hC h2
 rintro i _ h2 next hi ⟨rfl,hC⟩ hnx
 have hle:=Hp.le_trans hC.le (aW _ _)
 have f9':=hle _ _ f9
 refine⟨_,_,_,out,s,_,_,rfl,?_⟩
 by_cases hlt:i<ps.length
 rotate_left
 ·have hie:i=ps.length:=by omega
  subst hie
  refine aC (by simp;omega) (k out h2 (Hp.le_trans l1 hle) ?_ hC.buf.2.1)
  have:rY m.nodes ps code ps.length=dL m.nodes ps code:=by
   unfold rY
   rw [List.take_of_length_le (by rw [j6];omega),List.drop_of_length_le (by rw [fy];omega),List.append_nil]
  rw [this]at hC
  exact(hC.newS (fun v hv=>by have:=RF hv;omega) (by omega)).mono (sP h2 l1)
 refine aM (by simp;omega) ?_
 obtain⟨p,hpi⟩: ∃p,ps[i]?=some p:=⟨_,List.getElem?_eq_getElem hlt⟩
 have hpm:=hps p (List.mem_of_getElem? hpi)
 obtain⟨b,o,ha,hc⟩:=((hp.mono l1).mono hle).get (iq hpi)
 refine⟨b,o,ha,by omega,by omega,_,hc,?_⟩
 (refine aD ?_)
 obtain⟨bn,on,han,hpn,c7,w1,w16⟩:=((hs.mono l1).mono hle).nodes.widc hpm hok
 refine⟨bn,on,han,by omega,hpn,_,c7,?_⟩
 have hol:=Rz m.nodes ps code i (by omega)
 obtain⟨bi,hti,hbi,hri⟩:=hC.blk (i:=i) (by omega)
 rw [Ff hpi,yI (Nat.zero_le _)]at hti
 obtain⟨bo,hoa,hob⟩: ∃bo,out.a=some ⟨bo,0,none⟩/\h2 bo=some (.inl ⟨ts.map Sl.v,out.c*1,false⟩):=by
  rcases hC.buf.2.2 with ⟨_,h0,_⟩|h0
  ·omega
  ·exact h0
 have hcell:Hp.cell h2 bo (0+Int.toNat (i:Int)*1)=some (Sl.v ⟨some ⟨bi,0,none⟩,aE m.nodes p,aE m.nodes p⟩):=by
  rw [ax hob,Nat.zero_add,Int.toNat_natCast,Nat.mul_one,List.getElem?_map,hti];rfl
 refine⟨bo,0,hoa,by omega,by omega,_,hcell,?_⟩
 have hcl:=dk m.nodes p
 generalize hci:code/2^cH m.nodes (ps.take i)=ci
 have hcile:ci<=code:=by rw [<-hci];exact Nat.div_le_self _ _
 refine au (aE m.nodes p) (fun k vs h'=>vs= [I (ci/2^(bK m.nodes p*k):Nat), .pointer (some ⟨b9,0,none⟩),out.v,I i,I (bK m.nodes p),s.v,I s.n,I i,I (aE m.nodes p:Nat),I k]/\
  rD h1 h' out ts ((rY m.nodes ps code i).set i (pX m.nodes p ci k))) ⟨by simp,?_⟩ ?_
 ·rw [<-hci,<-Ff hpi]
  have:(rY m.nodes ps code i).set i ((rY m.nodes ps code i).getD i [])=rY m.nodes ps code i:=by
   rw [List.getD_eq_getElem?_getD,List.getElem?_eq_getElem (by omega)];simp
  rw [this];exact hC
 clear hC hle f9' hri hob hcell ha hc han hpn c7 h2
 rintro q _ h2 next2 hq ⟨rfl,hC⟩ hnx2
 have hle:=Hp.le_trans hC.le (aW _ _)
 have f9':=hle _ _ f9
 have hdiv:ci/2^(bK m.nodes p*q)<=ci:=Nat.div_le_self _ _
 refine⟨_,_,_,out,_,_,s,_,_,_,_,rfl,?_⟩
 have hgs:((rY m.nodes ps code i).set i (pX m.nodes p ci q)).getD i []=pX m.nodes p ci q:=by
  rw [List.getD_eq_getElem?_getD,List.getElem?_set_self (by omega)];rfl
 by_cases hlq:q<aE m.nodes p
 rotate_left
 ·have hqe:q=aE m.nodes p:=by omega
  subst hqe
  refine aC (by simp) ?_
  rw [ay (by omega)]
  refine hnx hlt _ _ ⟨?_,?_⟩
  ·rw [nU hpi,Nat.pow_add,<-Nat.div_div_eq_div_mul,hci]
  ·rw [<-hci]at hC
   rw [<-R9 hpi];exact hC
 refine aM (by simp;omega) ?_
 obtain⟨bo',hoa',hob'⟩: ∃bo,out.a=some ⟨bo,0,none⟩/\h2 bo=some (.inl ⟨ts.map Sl.v,out.c*1,false⟩):=by
  rcases hC.buf.2.2 with ⟨_,h0,_⟩|h0
  ·omega
  ·exact h0
 have hcell':Hp.cell h2 bo' (0+Int.toNat (i:Int)*1)=some (Sl.v ⟨some ⟨bi,0,none⟩,aE m.nodes p,aE m.nodes p⟩):=by
  rw [ax hob',Nat.zero_add,Int.toNat_natCast,Nat.mul_one,List.getElem?_map,hti];rfl
 refine⟨bo',0,hoa',by omega,by omega,_,hcell',?_⟩
 refine dF (by omega) ⟨_,rfl,rfl,bi,0,rfl,by omega,by dsimp only;omega,?_⟩
 rw [ie (by omega),nC,jK (by omega),Nat.div_div_eq_div_mul,<-Nat.pow_add]
 refine hC.wr hti (by rw [List.length_set];omega) (by rw [hgs,yI (by omega)];exact hlq) fun h3 hC'=>?_
 rw [if_neg (by omega),ay (by omega)]
 refine hnx2 hlq _ _ ⟨by rw [Nat.mul_add,Nat.mul_one],?_⟩
 rw [hgs,List.set_set,Lb hlq]at hC'
 exact hC'
theorem GM {h:Hp} {s:Sl} {vs:List (List Nat)} {R:Value->Hp->Prop} (hs:IntSS h s (vs.map VL)) (hl:vs.length<=1000) (h4: ∀x∈vs,x.length<=4)
  (k: ∀(out:Sl) (ts:List Sl) (h':Hp),h.le (h'.offS out)->out.n=vs.length->ts.length=vs.length->Buf h' out 1 (ts.map Sl.v)->
   (∀(j:Nat) (t:Sl),ts[j]?=some t->IntS ((h'.offS out).sub h) t (VL (vs.getD j [])))->R (Sl.v out) h'):pV #[s.v] h R:=by
 apply De
 refine uf_ ?_
 have hn:=hs.len
 rw [List.length_map]at hn
 refine au vs.length (fun i ws h'=> ∃(ts:List Sl) (out:Sl),ws= [out.v,s.v,I s.n,I (i:Nat)]/\h.le (h'.offS out)/\out.n=i/\ts.length=i/\Buf h' out 1 (ts.map Sl.v)/\
  (∀(j:Nat) (t:Sl),ts[j]?=some t->IntS ((h'.offS out).sub h) t (VL (vs.getD j [])))) ⟨[],⟨none,0,0⟩,rfl,Hp.le_refl _,rfl,rfl,fD _ _,fun j t ht=>by simp at ht⟩ ?_
 rintro i _ h3 next hi ⟨ts,out,rfl,l3,hon,htl,hbuf,hts⟩ hnx
 have lo:=aW h3 out
 refine⟨out,s,_,_,rfl,?_⟩
 by_cases hlt:i<vs.length
 rotate_left
 ·obtain rfl:i=vs.length:=by omega
  exact aC (by rw [decide_eq_false_iff_not];omega) (k out ts h3 l3 hon htl hbuf hts)
 refine aM (by rw [decide_eq_true_eq];omega) ?_
 obtain⟨b,o,t0,ha,hc,ht0⟩:=(hs.mono (Hp.le_trans l3 lo)).getV hlt
 refine⟨b,o,ha,by omega,by omega,t0,by rw [Int.toNat_natCast];exact hc,?_⟩
 refine aj fun b20 h5 hb20 l5 f20'=>?_
 have l5o:=bC out l5
 have f20o:=hbuf.offS_new hb20 f20'
 rw [yO (hbuf.fresh_ne hb20),f20']at f20o
 have f20o:(h5.offS out) b20=some (.inl ⟨[.slice none 0 0],1,false⟩):=by rw [yO (hbuf.fresh_ne hb20)];exact f20'
 (with_reducible apply xM);(exact f20o);(exact l5o);(exact aG lo hb20);(exact Nat.le_refl 1)
 intro h6 f20 kp l6 hbk
 have hbuf6:=hbk _ _ (hbuf.mono l5)
 have l6l:=aW h6 out
 refine⟨t0,by rw [ax (l6l _ _ f20)];rfl,?_⟩
 obtain⟨b',o',t0',ha',hc',ht0'⟩:=(hs.mono l3).getV hlt
 have e00:t0=t0':=by
  rw [ha]at ha';cases ha'
  have:=lo.cell hc'
  rw [hc]at this
  rcases t0 with ⟨ta,tn,tc⟩;rcases t0' with ⟨ta',tn',tc'⟩
  simpa using this
 rw [<-e00]at ht0'
 refine kO ((ht0'.mono l6).mono l6l) (by rw [aX];have:=h4 _ (Ec (d:= []) hlt);omega) fun c h7 l7 hb7=>⟨c,rfl,?_⟩
 have l7o:=bC out l7
 have hc7:IntS ((h7.offS out).sub h) c (VL (vs.getD i [])):=SlC.mono (by rw [<-sub_offS];exact hbuf6.sub_offS' (Hp.le_trans (Hp.le_trans l3 l6) l6l)) (hb7.slc (by have:=hb7.1;rw [List.length_map,aX]at this;have:=h4 _ (Ec (d:= []) hlt);omega))
 refine aj fun b30 h8 hb30 l8 f30=>?_
 refine dG ((hbuf6.mono l7).mono l8) (by omega) (by omega) (by omega) ⟨b30,0,rfl,aw f30⟩ (by simp) rfl ?_
 intro s' h9 hs'n hbuf' l9 _
 rw [ay (by omega)]
 have l69:=Hp.le_trans (Hp.le_trans l7o (bC out l8)) l9
 have l39:=Hp.le_trans l6 l69
 have hbuf'':Buf h9 s' 1 ((ts++ [c]).map Sl.v):=by rw [List.map_append];exact hbuf'
 refine hnx hlt _ _ ⟨ts++ [c],s',rfl,Hp.le_trans l3 l39,by omega,by simp;omega,hbuf'',fun j u hu=>?_⟩
 by_cases hj:j<i
 ·rw [List.getElem?_append_left (by omega)]at hu
  exact(hts j u hu).mono (eO h l39)
 ·have hju:=get_lt hu
  simp at hju
  obtain rfl:j=i:=by omega
  rw [List.getElem?_append_right (by omega),htl,Nat.sub_self]at hu
  simp at hu;subst hu
  exact hc7.mono (eO h (Hp.le_trans (bC out l8) l9))
theorem Hq {g0 h:Hp} {M:MSl} {m:ah} {kind:Int} {b:Nat} {f:Nat->Bool} {sK sO:Sl} {kept others:List (List Nat)} {R:Value->Hp->Prop} (hs:aO h M m) (hm:bR m) (g:cr m)
  (fb:h b=some (.inl ⟨mkC m.nodes.length f,m.nodes.length,false⟩)) (lg:g0.le h) (iK:IntSS (h.sub g0) sK (kept.map VL)) (cK:sK.n<=sK.c) (iO:IntSS h sO (others.map VL)) (hk:((av m.nodes kind).filter f).length=kept.length) (ho:others.length=(av m.nodes kind).length)
  (o4: ∀x∈others,x.length<=4)
  (k: ∀out h',h.le h'->IntSS (h'.sub g0) out ((MR f (av m.nodes kind) kept others).map VL)->out.n<=out.c->R (Sl.v out) h'):kq #[aQ M,I kind,(arr b m.nodes.length).v,sO.v,sK.v] h R:=by
 apply Ct
 refine uf_ ?_
 have hpl:=dV m.nodes kind
 have hnl:=g.nl
 (with_reducible apply Kn.al);(exact Kn.nil h);(intro b11 h1 K1 l1 hb11)
 refine GM (iO.mono K1.le) (by omega) o4 fun out ts0 h2 l2 hon htl0 hbuf0 hts0=>⟨_,rfl,?_⟩
 have K2:=K1.mono (Hp.le_trans l2 (aW _ _))
 have l02:h.le (h2.offS out):=Hp.le_trans K1.le l2
 have lK:=K1.le
 clear K1 l1 hb11
 repeat' (refine kr_ ?_)
 refine lR (hs.mono K2.le) hm fun pt h3 l3' hpt3 hbp=>⟨_,rfl,?_⟩
 have l3:=Hp.le_trans l3' (aW _ _)
 have ip:IntS (h3.offS out) pt (VL (av m.nodes kind)):=SlC.mono hbuf0.sub_offS ((hbp.subOf l3').slc (by omega))
 clear hbp l3' hpt3
 have l3o:=bC out l3
 have l03:=Hp.le_trans l02 l3o
 clear K2
 have hpn:pt.n=(av m.nodes kind).length:=by have:=ip.len;rw [aX]at this;exact this
 refine au (av m.nodes kind).length (fun i vs h'=> ∃(ts:List Sl) (u:Sl),vs= [(arr b m.nodes.length).v,u.v,out.v,pt.v,I pt.n,I (i:Nat)]/\(h3.offS out).le (h'.offS out)/\Buf h' out 1 (ts.map Sl.v)/\ts.length=(av m.nodes kind).length/\
  IntSS (h.sub g0) u ((kept.drop (((av m.nodes kind).take i).filter f).length).map VL)/\u.n<=u.c/\
  (∀(j:Nat) (t:Sl),ts[j]?=some t->IntS ((h'.offS out).sub g0) t (VL (if j<i then(MR f (av m.nodes kind) kept others).getD j []else others.getD j []))))
  ⟨ts0,sK,rfl,Hp.le_refl _,hbuf0.mono l3,by omega,by simpa using iK,cK,fun j t ht=>by rw [if_neg (by omega)];exact(hts0 j t ht).mono (Hp.le_trans (sP _ (Hp.le_trans lg lK)) (eO g0 l3o))⟩ ?_
 clear hts0 hbuf0 htl0 ts0 l2
 rintro i _ h4 next hi ⟨ts,u,rfl,l4,hbuf,htl,iu,cu,hts⟩ hnx
 have lo:=aW h4 out
 have l04:=Hp.le_trans l03 l4
 have l04':=Hp.le_trans l04 lo
 refine⟨arr b m.nodes.length,u,out,pt,_,_,rfl,?_⟩
 by_cases hlt:i<(av m.nodes kind).length
 rotate_left
 ·obtain rfl:i=(av m.nodes kind).length:=by omega
  refine aC (by rw [decide_eq_false_iff_not];omega) ?_
  refine k out h4 l04' ⟨ts,by rw [List.length_map,AB];exact htl,(hbuf.subOf (Hp.le_trans lg l04)).slc (by omega),fun j h1 h2=>?_⟩ hbuf.2.1
  have:=(hts j _ (List.getElem?_eq_getElem h1)).mono (eO g0 lo)
  rw [if_pos (by omega)]at this
  rw [List.getElem_map]
  rwa [List.getD_eq_getElem?_getD,List.getElem?_eq_getElem (by rw [AB];omega)]at this
 refine aM (by rw [decide_eq_true_eq];omega) ?_
 obtain⟨p,hpi⟩: ∃p,(av m.nodes kind)[i]?=some p:=⟨_,List.getElem?_eq_getElem hlt⟩
 have hpm:=bV g kind p (List.mem_of_getElem? hpi)
 obtain⟨bp,op,hap,hcp⟩:=(ip.mono (Hp.le_trans l4 lo)).get (iq hpi)
 refine⟨bp,op,hap,by omega,by omega,_,by rw [Int.toNat_natCast];exact hcp,?_⟩
 refine⟨b,0,rfl,by omega,by show _<((m.nodes.length:Nat):Int);omega,f p,by rw [ax (l04' _ _ fb),Int.toNat_natCast,Nat.zero_add,Nat.mul_one];exact pL _ hpm,?_⟩
 have hmix:=ET (f:=f) (some:=kept) (all:=others) hpi
 refine ad (fun e=>?_) (fun e=>?_)
 ·obtain⟨e1,e2⟩:=SA hpi e
  rw [if_pos e]at hmix
  rw [GW [] (by omega:(((av m.nodes kind).take i).filter f).length<kept.length),List.map_cons]at iu
  obtain⟨bk,ok,t,hak,hkn,hck,hit⟩:=iu.head
  refine⟨bk,ok,hak,by omega,by omega,by omega,by simp only [Int.ofNat_eq_natCast];omega,by simp only [Int.ofNat_eq_natCast];omega, .inr ⟨bk,ok,hak,t,l04'.cell ((sub_le _ _).cell hck),?_⟩⟩
  refine hbuf.wr (x:=t) (by omega) fun h5 hbuf' ho5=>?_
  rw [ay (by omega)]
  have iu':=iu.tail cu hak
  refine hnx hlt _ _ ⟨ts.set i t,⟨some ⟨bk,if u.c=1 then ok else ok+1*1,none⟩,u.n-1,u.c-1⟩,rfl,by rw [ho5];exact l4,hbuf',by rw [List.length_set];exact htl,by rw [e1];exact iu',by dsimp only;omega,fun j w hw=>?_⟩
  rw [ho5]
  by_cases hji:j=i
  ·subst hji
   rw [List.getElem?_set_self (by omega)]at hw
   obtain rfl:=Option.some.inj hw
   rw [if_pos (by omega),hmix]
   exact hit.mono (eO g0 l04)
  ·rw [List.getElem?_set_ne (fun e=>hji e.symm)]at hw
   have:=hts j w hw
   by_cases hj:j<i
   ·rw [if_pos hj]at this;rw [if_pos (by omega)];exact this
   ·rw [if_neg hj]at this;rw [if_neg (by omega)];exact this
 ·rw [if_neg (by rw [e];decide)]at hmix
  rw [ay (by omega)]
  refine hnx hlt _ _ ⟨ts,u,rfl,l4,hbuf,htl,by rw [WJ hpi e];exact iu,cu,fun j w hw=>?_⟩
  have:=hts j w hw
  by_cases hji:j=i
  ·subst hji
   rw [if_neg (by omega)]at this
   rw [if_pos (by omega),hmix];exact this
  ·by_cases hj:j<i
   ·rw [if_pos hj]at this;rw [if_pos (by omega)];exact this
   ·rw [if_neg hj]at this;rw [if_neg (by omega)];exact this
end Go.Lead
