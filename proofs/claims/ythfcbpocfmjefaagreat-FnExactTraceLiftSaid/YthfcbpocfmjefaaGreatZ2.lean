/- What functions of the program and of the reference come to, walked one by one, and plain laws about it: part 3. No condition is added to the statement. -/
import Derived.Test.YthfcbpocfmjefaaGreatZ1
namespace Go.Lead
open Go
set_option linter.unusedSimpArgs false
set_option linter.unusedVariables false
set_option maxRecDepth 100000
set_option maxHeartbeats 1000000
theorem xA (ts:List Sl):xB (ts.map Sl.v):=by
 have:=Ft ts 0
 simpa using this
theorem IntS.offL {h:Hp} {s t:Sl} {xs:List Int} {ts:List Sl} (e:IntS h t xs) (hb:Buf h s 1 (ts.map Sl.v)):IntS (h.offS s) t xs:=by
 rcases hb.2.2 with ⟨ha,_,_⟩|⟨b,ha,hbb⟩
 ·unfold Hp.offS;rw [ha];exact e
 ·have ho:h.offS s=h.off b:=by unfold Hp.offS;rw [ha]
  rw [ho]
  refine e.keepN hbb (xA ts) fun c hc=>?_
  simp only [Hp.off,Hp.set];rw [if_neg hc]
theorem Buf.pval {h:Hp} {s:Sl} {ts:List Sl} {vs:List (List Nat)} (e:Buf h s 1 (ts.map Sl.v)) (hlen:ts.length=vs.length) (hn:s.n<=1048576) (ht: ∀(j:Nat) (t:Sl),ts[j]?=some t->IntS h t (VL (vs.getD j []))):gQ h s vs:=by
 have hl:=e.1
 simp at hl
 refine⟨by omega,hn,fun p hp=>?_⟩
 rcases e.2.2 with ⟨_,h0,_⟩|⟨b,ha,hbb⟩
 ·omega
 ·refine⟨b,0,ts[p]'(by omega),ha,?_,ht p _ (List.getElem?_eq_getElem (by omega))⟩
  rw [ax hbb,Nat.zero_add,Nat.mul_one,List.getElem?_map,List.getElem?_eq_getElem (by omega)];rfl
def afa (h:Hp) (s:Sl):Prop:= ∀b o,s.a=some (Addr.mk b o none)->h b=none
theorem pw {h:Hp} {M:MSl} {m:ah} {sS sI:Sl} {st inp:List (List Nat)} {R:Value->Hp->Prop} (hs:aO h M m) (hm:bU m) (hok:bQ m.nodes=true) (hl:m.nodes.length<=60)
  (h1:IntSS h sS (st.map VL)) (f1:my m.nodes 36 st) (h2:IntSS h sI (inp.map VL)) (f2:my m.nodes 35 inp)
  (k: ∀t h',h.le h'->t.n=m.nodes.length->gQ h' t (dp m.nodes st inp m.nodes.length)->afa h t->R (Sl.v t) h'):dn #[aQ M,sS.v,sI.v] h R:=by
 apply O9
 refine uf_ ?_
 have hn:=hs.nodes.len
 have hsn:sS.n=st.length:=by obtain⟨ts,e1,e2,_⟩:=h1;have:=e2.2.1;simp at this e1;omega
 have hin:sI.n=inp.length:=by obtain⟨ts,e1,e2,_⟩:=h2;have:=e2.2.1;simp at this e1;omega
 refine aj fun b9 h3 hb9 l3 f9=>?_
 refine au m.nodes.length (fun i vs h'=> ∃(ts:List Sl) (out:Sl),vs= [sS.v,sI.v, .pointer (some ⟨b9,0,none⟩),out.v,I (av (m.nodes.take i) 36).length,I (av (m.nodes.take i) 35).length,I i]/\
  h.le (h'.offS out)/\(h'.offS out) b9=some (.inl ⟨aH M,5,false⟩)/\out.n=i/\ts.length=i/\Buf h' out 1 (ts.map Sl.v)/\
  (∀(j:Nat) (t:Sl),ts[j]?=some t->IntS (h'.offS out) t (VL ((dp m.nodes st inp i).getD j []))))
  ⟨[],⟨none,0,0⟩,rfl,l3,f9,rfl,rfl,fu _ _,fun j t ht=>by simp at ht⟩ ?_
 clear f9 l3 hb9 h3
 rintro i _ h3 next hi ⟨ts,out,rfl,l3,f9,hon,htl,hbuf,hts⟩ hnx
 have lo:=aW h3 out
 have f9':=lo _ _ f9
 have l3':=Hp.le_trans l3 lo
 refine⟨sS,sI,_,_,out,_,_,_,rfl,?_⟩
 (refine aD ?_)
 by_cases hlt:i<m.nodes.length
 rotate_left
 ·have hie:i=m.nodes.length:=by omega
  subst hie
  refine aC (by simp;omega) (k out h3 l3' hon ?_ fun b o hb=>?_)
  ·exact hbuf.pval (by rw [dD];omega) (by omega) fun j t ht=>(hts j t ht).mono lo
  ·cases hx:h b with
   |none=>rfl
   |some x=>have:=l3 _ _ hx;simp [Hp.offS,hb,Hp.off,Hp.set]at this
 refine aN (by simp;omega) ?_
 obtain⟨n,hni⟩: ∃n,m.nodes[i]?=some n:=⟨_,List.getElem?_eq_getElem hlt⟩
 obtain⟨b,o,ha,e0,e1,e2,e3,e4,e5,e6,e7,e8⟩:=(hs.nodes.mono l3').at hni
 (refine aD ?_)
 refine⟨b,o,ha,by omega,by omega,_,e0,_,e1,_,e2,_,e3,_,e4,_,e5,_,e6,_,e7,_,e8,?_⟩
 refine aj fun b44 h4 hb44 l4 f44'=>?_
 (with_reducible apply cB);(exact f44');(exact l4);(exact hb44);(exact Nat.le_refl 9)
 intro h5 f44 kp l5
 clear f44' kp l4
 refine aj fun b50 h6 hb50 l6 f50'=>?_
 have n44:=fresh_ne hb50 f44
 have b50n:=aF l5 hb50
 replace f44:=l6 _ _ f44
 (with_reducible apply cB);(exact f50');(exact Hp.le_trans l5 l6);(exact b50n);(exact Nat.le_refl 1)
 intro h7 f50 kp l7
 replace f44:=cA kp n44 f44
 have f50v:h7 b50=some (.inl ⟨[.slice none 0 0],1,false⟩):=f50
 have f9'':=l7 _ _ f9'
 clear f50 f50' kp l5 l6 hb44 hb50 h4 h5 h6
 have l07:=Hp.le_trans l3' l7
 have hnext36:=wk (kind:=36) hni
 have hnext35:=wk (kind:=35) hni
 have hev:=jz (s:=st) (inp:=inp) hni
 have hb36:(av (m.nodes.take i) 36).length<=i:=by
  unfold av
  refine Nat.le_trans (List.length_filter_le _ _) ?_
  rw [List.length_range,List.length_take];omega
 have hb35:(av (m.nodes.take i) 35).length<=i:=by
  unfold av
  refine Nat.le_trans (List.length_filter_le _ _) ?_
  rw [List.length_range,List.length_take];omega
 (refine aD ?_)
 refine ar (fun J=> ∀(t:Sl) (x:List Nat) (h8:Hp),h3.le h8->h8 b50=some (.inl ⟨[t.v],1,false⟩)->IntS h8 t (VL x)->dp m.nodes st inp (i+1)=dp m.nodes st inp i++ [x]->
  J ((av (m.nodes.take (i+1)) 36).length:Nat) ((av (m.nodes.take (i+1)) 35).length:Nat) h8) ?_ (fun J hJ=>?_)
 ·intro t x h8 l8 g50 hval hev'
  (refine aD ?_)
  refine aj fun b113 h9 hb113 l9 f113=>?_
  have l39:=Hp.le_trans l8 l9
  have l39o:=bA out l39
  refine dF (hbuf.mono l39) (by omega) (by omega) (by omega) ⟨b113,0,rfl,aw f113⟩ (by simp) rfl ?_
  intro s' h10 hs'n hbuf' l10 _
  rw [ay (by omega)]
  have l310:=Hp.le_trans l39o l10
  have hbuf'':Buf h10 s' 1 ((ts++ [t]).map Sl.v):=by rw [List.map_append];exact hbuf'
  refine hnx hlt _ _ ⟨ts++ [t],s',rfl,Hp.le_trans l3 l310,l310 _ _ f9,by omega,by simp;omega,hbuf'',fun j u hu=>?_⟩
  by_cases hj:j<i
  ·rw [List.getElem?_append_left (by omega)]at hu
   rw [hev',g9 (by rw [dD];omega)]
   exact(hts j u hu).mono l310
  ·have hju:=get_lt hu
   simp at hju
   have hje:j=i:=by omega
   subst hje
   rw [List.getElem?_append_right (by omega),htl,Nat.sub_self]at hu
   simp at hu;subst hu
   rw [hev',List.getD_eq_getElem?_getD,List.getElem?_append_right (by rw [dD];omega),dD,Nat.sub_self]
   exact((hval.mono l9).offL (hbuf.mono l39)).mono l10
 have put: ∀(h8:Hp) (t:Sl) (x:List Nat) (P:Hp->Prop),h7.le h8->IntS h8 t (VL x)->(∀h9,h3.le h9->h9 b50=some (.inl ⟨[t.v],1,false⟩)->IntS h9 t (VL x)->P h9)->
   ∃(cs:List Value) (z:Nat),h8 b50=some (.inl ⟨cs,z,false⟩)/\0+1<=List.length cs/\cL (h8.row b50 (ce cs 0 [t.v]) z) fun h'=>P h':=by
  intro h8 t x P l8 hval hP
  have g50:=l8 _ _ f50v
  (with_reducible apply cB);(exact g50);(exact Hp.le_trans l7 l8);(exact b50n);(exact Nat.le_refl 1)
  intro h9 g kp l9
  exact hP h9 l9 g (hval.keep g50 kp)
 have hpv7:gQ h7 out (dp m.nodes st inp i):=(hbuf.pval (by rw [dD];omega) (by omega) fun j t ht=>(hts j t ht).mono lo).mono l7
 have hfit:=xv hok f1 f2 i (Nat.le_of_lt hlt)
 have htyp:=gM hok hni
 refine ad (fun e=>?_) (fun e34=>?_)
 ·have e:=bW e
  rw [if_neg (by omega)]at hnext36 hnext35
  rw [if_neg (by omega),if_neg (by omega)]at hev
  obtain⟨c1,c2⟩:=htyp.const e
  have:=iT.1 c2
  have hx:bC m.nodes n (dp m.nodes st inp i)= [n.n.toNat]:=by unfold bC;rw [if_pos e]
  (refine aD ?_)
  refine Ly fun t h8 l8 hval=>⟨t,rfl,put h8 t [n.n.toNat] _ l8 ?_ fun h9 l9 g50 hv9=>?_⟩
  ·have:VL [n.n.toNat]= [n.n]:=by simp [VL];omega
   rw [this];exact hval
  ·have:=hJ t _ h9 l9 g50 hv9 (by rw [hev,hx])
   rw [hnext36,hnext35,Nat.add_zero,Nat.add_zero]at this;exact this
 replace e34:=bz e34
 refine ad (fun e=>?_) (fun e36=>?_)
 ·have e:=bW e
  rw [if_pos e]at hnext36 hev
  rw [if_neg (by omega)]at hnext35
  have hlt36:=BA hni e
  have hfk:=f1.2 _ _ (pS hni e)
  have hfs:aq m.nodes ((i:Nat):Int)=n.sort:=by unfold aq;rw [Int.toNat_natCast,hni]
  rw [hfs]at hfk
  rw [<-f1.1]at hlt36
  obtain⟨bs,os,t,ha,hc,ht⟩:=(h1.mono l07).at (i:=(av (m.nodes.take i) 36).length) (by simpa using hlt36)
  have hst:(st.map VL)[(av (m.nodes.take i) 36).length]'(by simpa using hlt36)=VL (st.getD (av (m.nodes.take i) 36).length []):=by
   rw [List.getElem_map,List.getD_eq_getElem?_getD,List.getElem?_eq_getElem hlt36];rfl
  rw [hst]at ht
  have hso:=bD.1 htyp.sort
  have hlen4:(st.getD (av (m.nodes.take i) 36).length []).length<=4:=by
   rw [hfk.len];have:=Nat.pow_le_pow_right (n:=2) (by omega) (show n.sort.idx.toNat<=2 by omega);simpa using this
  refine⟨bs,os,ha,by omega,by omega,t,by rw [Int.toNat_natCast,Nat.mul_one];exact hc,?_⟩
  refine pQ ht (by rw [aX];omega) fun c h8 l8 hb8=>⟨c,rfl,put h8 c _ _ l8 (hb8.slS (by have:=hb8.1;rw [List.length_map,aX]at this;omega)) fun h9 l9 g50 hv9=>?_⟩
  have:=hJ c _ h9 l9 g50 hv9 hev
  rw [hnext36,hnext35,Nat.add_zero]at this
  rw [ay (by omega)];exact this
 replace e36:=bz e36
 rw [if_neg e36]at hnext36 hev
 refine ad (fun e=>?_) (fun e35=>?_)
 ·have e:=bW e
  rw [if_pos e]at hnext35 hev
  have hlt35:=BA hni e
  have hfk:=f2.2 _ _ (pS hni e)
  have hfs:aq m.nodes ((i:Nat):Int)=n.sort:=by unfold aq;rw [Int.toNat_natCast,hni]
  rw [hfs]at hfk
  rw [<-f2.1]at hlt35
  obtain⟨bs,os,t,ha,hc,ht⟩:=(h2.mono l07).at (i:=(av (m.nodes.take i) 35).length) (by simpa using hlt35)
  have hst:(inp.map VL)[(av (m.nodes.take i) 35).length]'(by simpa using hlt35)=VL (inp.getD (av (m.nodes.take i) 35).length []):=by
   rw [List.getElem_map,List.getD_eq_getElem?_getD,List.getElem?_eq_getElem hlt35];rfl
  rw [hst]at ht
  have hso:=bD.1 htyp.sort
  have hlen4:(inp.getD (av (m.nodes.take i) 35).length []).length<=4:=by
   rw [hfk.len];have:=Nat.pow_le_pow_right (n:=2) (by omega) (show n.sort.idx.toNat<=2 by omega);simpa using this
  refine⟨bs,os,ha,by omega,by omega,t,by rw [Int.toNat_natCast,Nat.mul_one];exact hc,?_⟩
  refine pQ ht (by rw [aX];omega) fun c h8 l8 hb8=>⟨c,rfl,put h8 c _ _ l8 (hb8.slS (by have:=hb8.1;rw [List.length_map,aX]at this;omega)) fun h9 l9 g50 hv9=>?_⟩
  have:=hJ c _ h9 l9 g50 hv9 hev
  rw [hnext36,hnext35,Nat.add_zero]at this
  rw [ay (by omega)];exact this
 replace e35:=bz e35
 rw [if_neg e35]at hnext35 hev
 repeat' (refine aD ?_)
 refine QO (n:=n) hl (Nat.le_of_lt hlt) htyp hfit (dD _ _ _ _) (hs.nodes.mono l07) hpv7 e34 e35 e36 fun t h8 l8 hval=>⟨t,rfl,put h8 t _ _ l8 hval fun h9 l9 g50 hv9=>?_⟩
 have:=hJ t _ h9 l9 g50 hv9 hev
 rw [hnext36,hnext35,Nat.add_zero,Nat.add_zero]at this;exact this
theorem CF {l:List NodeP} {kind:Int} {p:Nat} (h:p∈av l kind): ∃n,l[p]?=some n/\n.kind=kind:=by
 unfold av at h
 rw [List.mem_filter,List.mem_range]at h
 cases hn:l[p]? with
 |none=>rw [hn]at h;exact absurd h.2 Bool.false_ne_true
 |some n=>rw [hn]at h;exact⟨n,rfl,by simpa using h.2⟩
theorem wA (l:List NodeP) (hok:bQ l=true) (kind:Int):cH l (av l kind)=ak l kind:=by
 have key: ∀i,i<=l.length->cH l (av (l.take i) kind)=ak (l.take i) kind:=by
  intro i
  induction i with
  |zero=>intro _;simp [av,cH,ak]
  |succ i ih=>
   intro hi
   obtain⟨n,hn⟩: ∃n,l[i]?=some n:=⟨_,List.getElem?_eq_getElem (by omega)⟩
   rw [iV hn,FA kind hn,<-ih (by omega)]
   have hs:=bD.1 (gM hok hn).sort
   have hsa:aq l ((i:Nat):Int)=n.sort:=by unfold aq;rw [Int.toNat_natCast,hn]
   by_cases hk:n.kind=kind
   ·rw [if_pos hk,if_pos hk]
    unfold cH
    rw [List.map_append,List.sum_append]
    simp only [List.map_cons,List.map_nil,List.sum_cons,List.sum_nil,Nat.add_zero]
    unfold bJ aE dT
    rw [hsa,Nat.mul_comm]
   ·rw [if_neg hk,if_neg hk,List.append_nil,Nat.add_zero]
 have:=key l.length (Nat.le_refl _)
 rwa [List.take_of_length_le (Nat.le_refl _)]at this
theorem Il {l:List NodeP} (hok:bQ l=true) (kind:Int) (code:Nat):my l kind (dM l (av l kind) code):=by
 refine⟨jV _ _ _,fun k p hp=>?_⟩
 rw [DG hp]
 obtain⟨n,hn,_⟩:=CF (List.mem_of_getElem? hp)
 have hsa:aq l ((p:Nat):Int)=n.sort:=by unfold aq;rw [Int.toNat_natCast,hn]
 have hso:=(gM hok hn).sort
 refine⟨?_,fun x hx=>Wi hx⟩
 rw [sA]
 unfold aE di
 rw [hsa,if_pos hso]
theorem xL (a b:List Nat):VL (a++b)=VL a++VL b:=by simp [VL]
theorem lM {h:Hp} {M:MSl} {m:ah} {kind:Int} {R:Value->Hp->Prop} (hs:aO h M m) (hm:bU m)
  (k: ∀t h',h.le (h'.offS t)->t.n<=m.nodes.length->Buf h' t 1 ((VL (av m.nodes kind)).map I)->R (Sl.v t) h'):aY #[aQ M,I kind] h R:=by
 apply BZ
 refine uf_ ?_
 have hn:=hs.nodes.len
 have hns:=hm.nodes
 refine aj fun b8 h1 hb8 l1 f8=>?_
 (refine aD ?_)
 refine au m.nodes.length (fun i vs h'=> ∃out:Sl,vs= [I kind,out.v,M.no.v,I M.no.n,I i]/\h.le (h'.offS out)/\out.n<=i/\Buf h' out 1 ((VL (av (m.nodes.take i) kind)).map I)) ⟨⟨none,0,0⟩,rfl,l1,Nat.le_refl _,by simp [av,VL];exact fu _ _⟩ ?_
 clear l1 f8 hb8 h1
 rintro i _ h1 next hi ⟨out,rfl,l1,hon,hbuf⟩ hnx
 have lo:=aW h1 out
 have l1':=Hp.le_trans l1 lo
 refine⟨_,out,M.no,_,_,rfl,?_⟩
 by_cases hlt:i<m.nodes.length
 ·refine aN (by simp;omega) ?_
  obtain⟨n,hni⟩: ∃n,m.nodes[i]?=some n:=⟨_,List.getElem?_eq_getElem hlt⟩
  obtain⟨b,o,ha,e0,e1,e2,e3,e4,e5,e6,e7,e8⟩:=(hs.nodes.mono l1').at hni
  refine⟨b,o,ha,by omega,by omega,_,e0,_,e1,_,e2,_,e3,_,e4,_,e5,_,e6,_,e7,_,e8,?_⟩
  refine aj fun b36 h2 hb36 l2 f36=>?_
  (with_reducible apply cB);(exact f36);(exact l2);(exact hb36);(exact Nat.le_refl 9)
  intro h3 f36' kp l3
  have hpre:=iV (kind:=kind) hni
  have l3o:=bA out l3
  (refine aD ?_)
  rw [ay (by omega)]
  refine ad (fun e=>?_) (fun e=>?_)
  ·rw [if_pos (bW e)]at hpre
   refine aj fun b44 h4 hb44 l4 f44=>?_
   have l4o:=bA out l4
   refine dF (hbuf.mono (Hp.le_trans l3 l4)) (by omega) (by omega) (by omega) ⟨b44,0,rfl,aw f44⟩ (by simp) rfl ?_
   intro s' h5 hs'n hbuf' l5 _
   refine hnx hlt _ _ ⟨s',rfl,Hp.le_trans l1 (Hp.le_trans l3o (Hp.le_trans l4o l5)),by omega,?_⟩
   rw [hpre,xL,List.map_append];exact hbuf'
  ·rw [if_neg (bz e),List.append_nil]at hpre
   refine hnx hlt _ _ ⟨out,rfl,Hp.le_trans l1 l3o,by omega,?_⟩
   rw [hpre];exact hbuf.mono l3
 ·refine aC (by simp;omega) (k out h1 l1 (by omega) ?_)
  rw [List.take_of_length_le (by omega)]at hbuf
  exact hbuf
theorem dk {h:Hp} {M:MSl} {m:ah} {kind:Int} {R:Value->Hp->Prop} (hs:aO h M m) (hm:bU m)
  (k: ∀t h',h.le h'->IntS h' t (VL (av m.nodes kind))->R (Sl.v t) h'):aY #[aQ M,I kind] h R:=
 lM hs hm fun t h' l hn hb=>k t h' (Hp.le_trans l (aW _ _)) (hb.slc_of (by have:=hm.nodes;omega))
theorem cJ {h:Hp} {M:MSl} {m:ah} {kind:Int} {R:Value->Hp->Prop} (hs:aO h M m) (hm:bU m)
  (k: ∀t h',h.le h'->IntS h' t (VL (av m.nodes kind))->R (Sl.v t) h'):aU #[aQ M,I kind] h R:=by
 apply Ht
 refine uf_ ?_
 have hn:=hs.nodes.len
 have hns:=hm.nodes
 refine aj fun b8 h1 hb8 l1 f8=>?_
 refine au m.nodes.length (fun i vs h'=> ∃out:Sl,vs= [I kind, .pointer (some ⟨b8,0,none⟩),out.v,I i]/\h.le (h'.offS out)/\(h'.offS out) b8=some (.inl ⟨aH M,5,false⟩)/\out.n<=i/\Buf h' out 1 ((VL (av (m.nodes.take i) kind)).map I)) ⟨⟨none,0,0⟩,rfl,l1,f8,Nat.le_refl _,by simp [av,VL];exact fu _ _⟩ ?_
 clear l1 f8 hb8 h1
 rintro i _ h1 next hi ⟨out,rfl,l1,f8,hon,hbuf⟩ hnx
 have lo:=aW h1 out
 have l1':=Hp.le_trans l1 lo
 have f8':=lo _ _ f8
 refine⟨_,_,_,out,_,rfl,?_⟩
 (refine aD ?_)
 by_cases hlt:i<m.nodes.length
 ·refine aN (by simp;omega) ?_
  obtain⟨n,hni⟩: ∃n,m.nodes[i]?=some n:=⟨_,List.getElem?_eq_getElem hlt⟩
  obtain⟨b,o,ha,e0,_⟩:=(hs.nodes.mono l1').at hni
  have hpre:=iV (kind:=kind) hni
  (refine aD ?_)
  refine⟨b,o,ha,by omega,by omega,_,e0,?_⟩
  rw [ay (by omega)]
  refine ad (fun e=>?_) (fun e=>?_)
  ·rw [if_pos (bW e)]at hpre
   refine aj fun b44 h4 hb44 l4 f44=>?_
   have l4o:=bA out l4
   refine dF (hbuf.mono l4) (by omega) (by omega) (by omega) ⟨b44,0,rfl,aw f44⟩ (by simp) rfl ?_
   intro s' h5 hs'n hbuf' l5 _
   have l15:=Hp.le_trans l4o l5
   refine hnx hlt _ _ ⟨s',rfl,Hp.le_trans l1 l15,l15 _ _ f8,by omega,?_⟩
   rw [hpre,xL,List.map_append];exact hbuf'
  ·rw [if_neg (bz e),List.append_nil]at hpre
   refine hnx hlt _ _ ⟨out,rfl,l1,f8,by omega,?_⟩
   rw [hpre];exact hbuf
 ·refine aC (by simp;omega) (k out h1 l1' ?_)
  rw [List.take_of_length_le (by omega)]at hbuf
  exact hbuf.slc_of (by omega)
structure qW (h0 h:Hp) (out:Sl) (ts:List Sl) (vs:List (List Nat)):Prop where
 len:ts.length=vs.length
 row: ∀(i:Nat) (t:Sl),ts[i]?=some t-> ∃b,t=⟨some ⟨b,0,none⟩,(vs.getD i []).length,(vs.getD i []).length⟩/\h0 b=none/\
  (h.offS out) b=some (.inl ⟨(VL (vs.getD i [])).map I,(vs.getD i []).length,false⟩)
 dis: ∀(i j:Nat) (t u:Sl),ts[i]?=some t->ts[j]?=some u->t.a=u.a->i=j
 buf:Buf h out 1 (ts.map Sl.v)
 le:h0.le (h.offS out)
theorem qW.ints {h0 h:Hp} {out:Sl} {ts:List Sl} {vs:List (List Nat)} (e:qW h0 h out ts vs) (hl: ∀v∈vs,v.length<=1048576) (hn:out.n<=1048576):IntSS h out (vs.map VL):=by
 refine⟨ts,by rw [List.length_map];exact e.len,e.buf.slc_of (by omega),fun i h1 h2=>?_⟩
 obtain⟨b,ht,_,hr⟩:=e.row i _ (List.getElem?_eq_getElem h1)
 have hi:i<vs.length:=by rw [List.length_map]at h2;exact h2
 have hv:(vs.map VL)[i]=VL (vs.getD i []):=by
  rw [List.getElem_map,List.getD_eq_getElem?_getD,List.getElem?_eq_getElem hi];rfl
 have hvl:(vs.getD i []).length<=1048576:=by
  rw [List.getD_eq_getElem?_getD,List.getElem?_eq_getElem hi];exact hl _ (List.getElem_mem hi)
 rw [ht,hv]
 refine⟨by dsimp only;omega,by simp [aX], .inr ⟨b,0,rfl,aw (aW _ _ _ _ hr)⟩⟩
def cy (l:List NodeP) (ps:List Nat):List (List Nat):=ps.map fun p=>List.replicate (aE l p) 0
theorem dj (l:List NodeP) (p:Nat):aE l p<=4:=zq _
theorem ic {ps:List Nat} {i p:Nat} (h:ps[i]?=some p):(VL ps)[i]?=some ((p:Nat):Int):=by simp [VL,h]
theorem gE.sortc {h:Hp} {s:Sl} {l:List NodeP} (e:gE h s l) {p:Nat} (hp:p<l.length):
  ∃b o,s.a=some (Addr.mk b o none)/\(p:Int)<(s.n:Int)/\Hp.cell h b ((o+Int.toNat (p:Int)*9)+6)=some (I (aq l p).idx)/\Hp.cell h b ((o+Int.toNat (p:Int)*9)+6+1)=some (I (aq l p).wid):=by
 obtain⟨n,hn1⟩: ∃n,l[p]?=some n:=⟨_,List.getElem?_eq_getElem hp⟩
 obtain⟨ba,oa,ha1,_,_,_,_,_,_,c6,c7,_⟩:=e.at hn1
 have hsa:aq l ((p:Nat):Int)=n.sort:=by unfold aq;rw [Int.toNat_natCast,hn1]
 refine⟨ba,oa,ha1,by have:=e.len;omega,?_⟩
 rw [hsa];exact⟨c6,c7⟩
theorem mT {h:Hp} {M:MSl} {m:ah} {s:Sl} {ps:List Nat} {R:Value->Hp->Prop} (hs:aO h M m) (hm:bU m) (hp:IntS h s (VL ps)) (hps: ∀p∈ps,p<m.nodes.length) (hpl:ps.length<=1048576)
  (k: ∀out ts h',qW h h' out ts (cy m.nodes ps)->out.n=ps.length->R (Sl.v out) h'):dV #[aQ M,s.v] h R:=by
 apply Ds
 refine uf_ ?_
 have hn:=hs.nodes.len
 have hns:=hm.nodes
 have hsn:=hp.len
 rw [aX]at hsn
 refine aj fun b8 h1 hb8 l1 f8=>?_
 refine au ps.length (fun i vs h'=> ∃(out:Sl) (ts:List Sl),vs= [.pointer (some ⟨b8,0,none⟩),out.v,s.v,I s.n,I i]/\qW h h' out ts (cy m.nodes (ps.take i))/\out.n=i/\(h'.offS out) b8=some (.inl ⟨aH M,5,false⟩))
  ⟨⟨none,0,0⟩, [],rfl,⟨rfl,fun i t ht=>by simp at ht,fun i j t u ht=>by simp at ht,fu _ _,l1⟩,rfl,f8⟩ ?_
 clear l1 f8 hb8 h1
 rintro i _ h1 next hi ⟨out,ts,rfl,hC,hon,f8⟩ hnx
 have lo:=aW h1 out
 have l1:=Hp.le_trans hC.le lo
 have f8':=lo _ _ f8
 refine⟨_,_,out,s,_,_,rfl,?_⟩
 by_cases hlt:i<ps.length
 ·refine aN (by simp;omega) ?_
  obtain⟨p,hpi⟩: ∃p,ps[i]?=some p:=⟨_,List.getElem?_eq_getElem hlt⟩
  have hpm:=hps p (List.mem_of_getElem? hpi)
  obtain⟨b,o,ha,hc⟩:=(hp.mono l1).get (ic hpi)
  refine⟨b,o,ha,by omega,by omega,_,hc,?_⟩
  (refine aD ?_)
  obtain⟨bn,on,han,hpn,c6,c7⟩:=(hs.nodes.mono l1).sortc hpm
  refine⟨bn,on,han,by omega,hpn,_,c6,_,c7,?_⟩
  refine nH ⟨_,rfl,?_⟩
  have hce:di ⟨(aq m.nodes p).idx,(aq m.nodes p).wid⟩=aE m.nodes p:=rfl
  rw [hce]
  have hc4:=dj m.nodes p
  refine⟨by omega,by omega,by omega,by omega,?_⟩
  refine aj fun b38 h2 hb38 l2 f38=>?_
  refine aj fun b40 h3 hb40 l3 f40=>?_
  have l13:=Hp.le_trans l2 l3
  have l13o:=bA out l13
  replace f38:=l3 _ _ f38
  rw [Int.toNat_natCast,Nat.mul_one,cD]at f38
  rw [Int.toNat_natCast]at f40
  have hno: ∀a,out.a=some a->a.block≠b38:=by
   intro a ha' e
   rcases hC.buf.2.2 with ⟨h0,_⟩|⟨c,hc',hcb⟩
   ·rw [h0]at ha';cases ha'
   ·rw [hc']at ha';cases ha'
    subst e
    rw [hb38]at hcb;cases hcb
  have f38o:(h3.offS out) b38=some (.inl ⟨List.replicate (aE m.nodes p) (I 0),aE m.nodes p,false⟩):=by rw [yX hno];exact f38
  refine dF (hC.buf.mono l13) (by omega) (by omega) (by omega) ⟨b40,0,rfl,aw f40⟩ (by simp) rfl ?_
  intro s' h4 hs'n hbuf' l4 _
  have l14:=Hp.le_trans l13o l4
  rw [ay (by omega)]
  have hvs:cy m.nodes (ps.take (i+1))=cy m.nodes (ps.take i)++ [List.replicate (aE m.nodes p) 0]:=by
   unfold cy
   rw [List.take_succ_eq_append_getElem hlt,List.map_append]
   rw [List.getElem?_eq_getElem hlt]at hpi
   rw [Option.some.inj hpi];rfl
  have hlen:=hC.len
  have hzl:(cy m.nodes (ps.take i)).length=i:=by unfold cy;simp;omega
  have b38h:h b38=none:=aF l1 hb38
  refine hnx hlt _ _ ⟨s',ts++ [⟨some ⟨b38,0,none⟩,aE m.nodes p,aE m.nodes p⟩],rfl,⟨?_,fun j t ht=>?_,fun j j' t u ht hu hau=>?_,by rw [List.map_append];exact hbuf',Hp.le_trans hC.le l14⟩,by omega,l14 _ _ f8⟩
  ·rw [hvs,List.length_append,List.length_append,hlen];rfl
  ·by_cases hj:j<i
   ·rw [List.getElem?_append_left (by omega)]at ht
    obtain⟨b',e1,e2,e3⟩:=hC.row j t ht
    rw [hvs,g9 (by omega)]
    exact⟨b',e1,e2,l14 _ _ e3⟩
   ·have hju:=get_lt ht
    simp at hju
    have hje:j=i:=by omega
    subst hje
    rw [List.getElem?_append_right (by omega),show j-ts.length=0 by omega]at ht
    simp at ht;subst ht
    rw [hvs,List.getD_eq_getElem?_getD,List.getElem?_append_right (by omega),hzl,Nat.sub_self]
    refine⟨b38,by simp,b38h,?_⟩
    have:=l4 _ _ f38o
    simpa [VL] using this
  ·have hb: ∀(q:Nat) (z:Sl),ts[q]?=some z->z.a≠some ⟨b38,0,none⟩:=by
    intro q z hz he
    obtain⟨b',e1,e2,e3⟩:=hC.row q z hz
    rw [e1]at he
    have hbb:b'=b38:=by simpa using he
    subst hbb
    have:=lo _ _ e3
    rw [hb38]at this;cases this
   by_cases hj:j<i
   ·rw [List.getElem?_append_left (by omega)]at ht
    by_cases hj':j'<i
    ·rw [List.getElem?_append_left (by omega)]at hu
     exact hC.dis j j' t u ht hu hau
    ·have hju:=get_lt hu
     simp at hju
     rw [List.getElem?_append_right (by omega),show j'-ts.length=0 by omega]at hu
     simp at hu;subst hu
     exact absurd hau (hb j t ht)
   ·have hjt:=get_lt ht
    simp at hjt
    by_cases hj':j'<i
    ·rw [List.getElem?_append_left (by omega)]at hu
     rw [List.getElem?_append_right (by omega),show j-ts.length=0 by omega]at ht
     simp at ht;subst ht
     exact absurd hau.symm (hb j' u hu)
    ·have hju:=get_lt hu
     simp at hju
     omega
 ·have hie:i=ps.length:=by omega
  subst hie
  rw [List.take_of_length_le (Nat.le_refl _)]at hC
  exact aC (by simp;omega) (k out ts h1 hC hon)
structure cr (m:ah):Prop where
 nl:m.nodes.length<=60
 il:m.inits.length<=60
 xl:m.nexts.length<=60
 bl:m.bads.length<=4
 hl:m.holds.length<=4
 ok:bQ m.nodes=true
 twice:uH m=false
 ini: ∀b∈m.inits,jd m.nodes b=true
 nex: ∀b∈m.nexts,ge m.nodes b=true
 bad: ∀p∈m.bads,de m.nodes p=true
 hol: ∀p∈m.holds,de m.nodes p=true
 n8:ak m.nodes 36<=8
 k5:ak m.nodes 35<=5
theorem lC {c:Prop} [Decidable c] {x y:Int} (hx:x≠0) (h:(if c then x else y)=0): ¬c/\y=0:=by
 split at h
 ·exact absurd h hx
 ·rename_i hc;exact⟨hc,h⟩
theorem cE {m:ah} (h:aG m=0):cr m:=by
 unfold aG at h
 obtain⟨h1,h⟩:=lC (by decide) h
 obtain⟨h2,h⟩:=lC (by decide) h
 obtain⟨h3,h⟩:=lC (by decide) h
 obtain⟨h4,h⟩:=lC (by decide) h
 obtain⟨h5,h⟩:=lC (by decide) h
 obtain⟨h6,h⟩:=lC (by decide) h
 simp only [Bool.not_eq_false,Bool.and_eq_true,List.all_eq_true,Bool.not_eq_true]at h2 h3 h4 h5
 exact⟨by omega,by omega,by omega,by omega,by omega,h2,h3,h4.1,h4.2,h5.1,h5.2,by omega,by omega⟩
theorem sd {l:List NodeP} (hok:bQ l=true) {p:Nat} (hp:p<l.length):bV (aq l p)=true:=by
 have hn:l[p]?=some l[p]:=List.getElem?_eq_getElem hp
 have:aq l ((p:Nat):Int)=l[p].sort:=by unfold aq;rw [Int.toNat_natCast,hn]
 rw [this];exact(gM hok hn).sort
theorem pW {l:List NodeP} (hok:bQ l=true) {p:Nat} (hp:p<l.length) {v:List Nat} (h:Fit (aq l p) v):v.length=aE l p/\ ∀x∈v,x<2^bJ l p:=by
 refine⟨?_,h.lt⟩
 unfold aE di
 rw [if_pos (sd hok hp),h.len]
theorem Xd {l:List NodeP} (hok:bQ l=true) {p:Nat} (hp:p<l.length) {v:List Nat} (h:v.length=aE l p/\ ∀x∈v,x<2^bJ l p):Fit (aq l p) v:=by
 refine⟨?_,h.2⟩
 have:=h.1
 unfold aE di at this
 rwa [if_pos (sd hok hp)]at this
theorem kZ {l:List NodeP} {kind:Int} {p:Nat} (h:p∈av l kind):p<l.length:=by
 obtain⟨n,hn,_⟩:=CF h
 exact get_lt hn
theorem rY {l:List NodeP} (hok:bQ l=true) {kind:Int} {vs:List (List Nat)} (h:jM l (av l kind) vs):my l kind vs:=by
 refine⟨jX h,fun k p hp=>?_⟩
 exact Xd hok (kZ (List.mem_of_getElem? hp)) (lF h hp)
def ww (m:ah) (s i:List (List Nat)):List (List Nat):=dp m.nodes s i m.nodes.length
abbrev stP (m:ah):List Nat:=av m.nodes 36
abbrev inP (m:ah):List Nat:=av m.nodes 35
def bL (m:ah) (s i:Nat):List (List Nat):=ww m (dM m.nodes (stP m) s) (dM m.nodes (inP m) i)
def gm (m:ah) (v:List (List Nat)) (p:Nat):Option (List Nat):=(bO m.nexts p).map fun k=>v.getD k []
def eh (m:ah) (v:List (List Nat)):List (List Nat):=mu m.nodes (gm m v) (stP m)
def kH (c:Nat) (v:List Nat):List Nat:=v++List.replicate (c-v.length) (v.getD 0 0)
def kC (m:ah):List (List Nat):=ww m (cy m.nodes (stP m)) (cy m.nodes (inP m))
def dZ (m:ah) (p:Nat):Option (List Nat):=(bO m.inits p).map fun k=>kH (aE m.nodes p) ((kC m).getD k [])
def fG (m:ah):List (List Nat):=mu m.nodes (dZ m) (stP m)
theorem dW {binds:List BindP} {p k:Nat} (h:bO binds p=some k): ∃b∈binds,b.state=(p:Int)/\b.node.toNat=k:=by
 unfold bO at h
 rw [Option.map_eq_some_iff]at h
 obtain⟨b,hb,hk⟩:=h
 exact⟨b,List.mem_of_find?_eq_some hb,by simpa using List.find?_some hb,hk⟩
theorem Tp {binds:List BindP} {p:Nat} (h:bO binds p=none): ∀b∈binds,b.state≠(p:Int):=by
 unfold bO at h
 rw [Option.map_eq_none_iff,List.find?_eq_none]at h
 intro b hb e
 have:=h b hb
 simp [e]at this
theorem dC {l:List NodeP} {b:BindP} (h:ge l b=true):cV l b.state=true/\cV l b.node=true/\gt l b.state=36/\aq l b.state=aq l b.node:=by
 unfold ge at h
 simp only [Bool.and_eq_true,decide_eq_true_eq]at h
 exact⟨h.1.1.1,h.1.1.2,h.1.2,h.2⟩
theorem fR {l:List NodeP} {b:BindP} (h:jd l b=true):cV l b.state=true/\cV l b.node=true/\gt l b.state=36/\(aq l b.state=aq l b.node\/aq l b.node=cT (aq l b.state).wid)/\(dR l l.length).getD b.node.toNat false=false:=by
 unfold jd at h
 simp only [Bool.and_eq_true,Bool.or_eq_true,decide_eq_true_eq,Bool.not_eq_true']at h
 exact⟨h.1.1.1,h.1.1.2,h.1.2,h.2.1,h.2.2⟩
theorem eG {l:List NodeP} {p:Int}:cV l p=true↔0<=p/\p<l.length:=by
 unfold cV;rw [decide_eq_true_eq];omega
theorem Bw {m:ah} (g:cr m) (s i:Nat):zO m.nodes m.nodes.length (bL m s i):=
 xv g.ok (Il g.ok 36 s) (Il g.ok 35 i) _ (Nat.le_refl _)
theorem eW (l:List NodeP) (ps:List Nat):jM l ps (cy l ps):=by
 induction ps with
 |nil=>rfl
 |cons p ps ih=>
  refine⟨_,_,rfl,by simp,fun x hx=>?_,ih⟩
  simp at hx
  rw [hx.2];exact bP _
theorem Q2 {m:ah} (g:cr m) {s i:List (List Nat)} (hs:jM m.nodes (stP m) s) (hi:jM m.nodes (inP m) i):zO m.nodes m.nodes.length (ww m s i):=
 xv g.ok (rY g.ok hs) (rY g.ok hi) _ (Nat.le_refl _)
theorem N9 (m:ah) (s i:List (List Nat)):(ww m s i).length=m.nodes.length:=dD _ _ _ _
theorem xy {m:ah} (g:cr m) {v:List (List Nat)} (hv:zO m.nodes m.nodes.length v) {p:Nat} {x:List Nat} (h:gm m v p=some x):x.length=aE m.nodes p/\ ∀y∈x,y<2^bJ m.nodes p:=by
 unfold gm at h
 rw [Option.map_eq_some_iff]at h
 obtain⟨k,hk,rfl⟩:=h
 obtain⟨b,hb,hs,rfl⟩:=dW hk
 obtain⟨h1,h2,h3,h4⟩:=dC (g.nex b hb)
 have h2':=eG.1 h2
 have h1':=eG.1 h1
 have hn:((b.node.toNat:Nat):Int)=b.node:=by omega
 have:=hv b.node.toNat (by omega) (by omega)
 rw [hn,<-h4,hs]at this
 exact pW g.ok (by omega) this
theorem uu {m:ah} (g:cr m) {p:Nat} {x:List Nat} (h:dZ m p=some x):x.length=aE m.nodes p/\ ∀y∈x,y<2^bJ m.nodes p:=by
 unfold dZ at h
 rw [Option.map_eq_some_iff]at h
 obtain⟨k,hk,rfl⟩:=h
 obtain⟨b,hb,hs,rfl⟩:=dW hk
 obtain⟨h1,h2,h3,h4,_⟩:=fR (g.ini b hb)
 have h2':=eG.1 h2
 have h1':=eG.1 h1
 have hn:((b.node.toNat:Nat):Int)=b.node:=by omega
 have hv:=Q2 g (eW m.nodes (stP m)) (eW m.nodes (inP m)) b.node.toNat (by omega) (by omega)
 have hf:=pW g.ok (show b.node.toNat<m.nodes.length by omega) hv
 rw [hn]at hv
 have hwid:bJ m.nodes b.node.toNat=bJ m.nodes p/\aE m.nodes b.node.toNat<=aE m.nodes p:=by
  unfold bJ aE
  rw [hn,<-hs]
  rcases h4 with h4|h4
  ·rw [h4];exact⟨rfl,Nat.le_refl _⟩
  ·rw [h4]
   refine⟨rfl,?_⟩
   have ho:bV (aq m.nodes b.state)=true:=by rw [hs];exact sd g.ok (by omega)
   have ho2:bV (cT (aq m.nodes b.state).wid)=true:=by
    have:=bD.1 ho
    exact bD.2 ⟨by simp [cT],by simp only [cT];omega⟩
   unfold di
   rw [if_pos ho,if_pos ho2]
   exact bP _
 refine⟨?_,fun y hy=>?_⟩
 ·unfold kH
  rw [List.length_append,List.length_replicate]
  have:=hf.1;show ((kC m).getD b.node.toNat []).length+(aE m.nodes p-((kC m).getD b.node.toNat []).length)=_
  unfold kC;omega
 ·unfold kH at hy
  rw [List.mem_append,List.mem_replicate]at hy
  rw [<-hwid.1]
  rcases hy with hy|⟨_,rfl⟩
  ·exact hf.2 y hy
  ·exact hv.get_lt hv.pos|>fun h=>by
    have e:bJ m.nodes b.node.toNat=(aq m.nodes b.node).wid.toNat:=by unfold bJ;rw [hn]
    rw [e];exact h
theorem jD {m:ah} (g:cr m) {v:List (List Nat)} (hv:zO m.nodes m.nodes.length v):jM m.nodes (stP m) (eh m v):=F3 fun p _ x hx=>xy g hv hx
theorem rz {m:ah} (g:cr m):jM m.nodes (stP m) (fG m):=F3 fun p _ x hx=>uu g hx
theorem eK {m:ah} (g:cr m):cH m.nodes (stP m)=ak m.nodes 36:=wA _ g.ok 36
theorem wK {m:ah} (g:cr m):cH m.nodes (inP m)=ak m.nodes 35:=wA _ g.ok 35
theorem Ga {binds:List BindP} (h:gH (binds.map (·.state))=false) {j:Nat} {b:BindP} (hb:binds[j]?=some b): ∀x∈binds.take j,x.state≠b.state:=by
 intro x hx e
 have:gH (binds.map (·.state))=true:=xV.2 ⟨j,b.state,by simp [hb],by
  rw [<-List.map_take,<-e];exact List.mem_map.2 ⟨x,hx,rfl⟩⟩
 rw [h]at this;cases this
theorem LL {binds:List BindP} (h:gH (binds.map (·.state))=false) {j:Nat} {b:BindP} (hb:binds[j]?=some b) (p:Nat):
  bO (binds.take (j+1)) p=if b.state=(p:Int)then some b.node.toNat else bO (binds.take j) p:=by
 have hlt:=get_lt hb
 have hg:binds[j]=b:=by rw [List.getElem?_eq_getElem hlt]at hb;exact Option.some.inj hb
 unfold bO
 rw [List.take_succ_eq_append_getElem hlt,List.find?_append,hg]
 by_cases e:b.state=(p:Int)
 ·rw [if_pos e]
  have hn:(binds.take j).find? (fun b=>decide (b.state=(p:Int)))=none:=by
   rw [List.find?_eq_none]
   intro x hx
   have:=Ga h hb x hx
   simp;omega
  rw [hn];simp [e]
 ·rw [if_neg e]
  have:([b]:List BindP).find? (fun b=>decide (b.state=(p:Int)))=none:=by simp [e]
  rw [this,Option.or_none]
theorem kS {m:ah} (h:uH m=false):fD m.nodes=false/\gH (m.inits.map (·.state))=false/\gH (m.nexts.map (·.state))=false:=by
 rw [Gf]at h
 simp only [Bool.or_eq_false_iff]at h
 exact h
theorem qW.blk {h0 h:Hp} {out:Sl} {ts:List Sl} {vs:List (List Nat)} (e:qW h0 h out ts vs) {i:Nat} (hi:i<vs.length):
  ∃b,ts[i]?=some ⟨some ⟨b,0,none⟩,(vs.getD i []).length,(vs.getD i []).length⟩/\h0 b=none/\(h.offS out) b=some (.inl ⟨(VL (vs.getD i [])).map I,(vs.getD i []).length,false⟩):=by
 have hl:=e.len
 obtain⟨b,h1,h2,h3⟩:=e.row i _ (List.getElem?_eq_getElem (show i<ts.length by omega))
 exact⟨b,by rw [List.getElem?_eq_getElem (show i<ts.length by omega),h1],h2,h3⟩
theorem qW.wr {h0 h:Hp} {out:Sl} {ts:List Sl} {vs:List (List Nat)} {b n c i k x:Nat} {P:Hp->Prop} (e:qW h0 h out ts vs) (ht:ts[i]?=some ⟨some ⟨b,0,none⟩,n,c⟩) (hi:i<vs.length) (hk:k<(vs.getD i []).length)
  (kk: ∀h',qW h0 h' out ts (vs.set i ((vs.getD i []).set k x))->P h'):
  ∃(cs:List Value) (z:Nat),h b=some (.inl ⟨cs,z,false⟩)/\(0+Int.toNat (k:Int)*1)+1<=List.length cs/\cL (h.row b (ce cs (0+Int.toNat (k:Int)*1) [I x]) z) P:=by
 obtain⟨b',h1,h2,h3⟩:=e.blk hi
 rw [ht]at h1
 simp only [Option.some.injEq,Sl.mk.injEq,Addr.mk.injEq,and_true,true_and]at h1
 obtain⟨rfl,rfl,rfl⟩:=h1
 refine⟨_,_,aW _ _ _ _ h3,?_,?_⟩
 ·rw [List.length_map,aX,Int.toNat_natCast];omega
 rw [VY]
 refine kk _ ⟨by rw [List.length_set];exact e.len,fun j t hj=>?_,e.dis,e.buf.row _ _ h3,?_⟩
 ·obtain⟨bj,g1,g2,g3⟩:=e.row j t hj
  by_cases hji:j=i
  ·subst hji
   rw [ht]at hj
   obtain rfl:=(Option.some.inj hj).symm
   simp only [Sl.mk.injEq,Option.some.injEq,Addr.mk.injEq,and_true,true_and]at g1
   obtain⟨rfl,_⟩:=g1
   have hv:(vs.set j ((vs.getD j []).set k x)).getD j []=(vs.getD j []).set k x:=by
    rw [List.getD_eq_getElem?_getD,List.getElem?_set_self (by omega)];rfl
   rw [hv,List.length_set]
   refine⟨b,rfl,g2,?_⟩
   rw [sL _ _ h3,bT]
   simp [VL,List.map_set,bK]
  ·have hv:(vs.set i ((vs.getD i []).set k x)).getD j []=vs.getD j []:=by
    rw [List.getD_eq_getElem?_getD,List.getElem?_set_ne (Ne.symm hji),<-List.getD_eq_getElem?_getD]
   rw [hv]
   refine⟨bj,g1,g2,?_⟩
   rw [sL _ _ h3,ck]
   ·exact g3
   ·rintro rfl
    refine hji (e.dis j i t _ hj ht ?_)
    rw [g1]
 ·rw [sL _ _ h3]
  exact ew _ _ h2 e.le
def rG (l:List NodeP) (ps:List Nat) (code i:Nat):List (List Nat):=(dM l ps code).take i++(cy l ps).drop i
def pJ (l:List NodeP) (p code k:Nat):List Nat:=np (bJ l p) k code++List.replicate (aE l p-k) 0
theorem QT (l:List NodeP) (ps:List Nat) (code i:Nat) (hi:i<=ps.length):(rG l ps code i).length=ps.length:=by
 unfold rG;rw [List.length_append,List.length_take,List.length_drop,jV,cy,List.length_map];omega
theorem DC {l:List NodeP} {ps:List Nat} {code i p:Nat} (h:ps[i]?=some p):(rG l ps code i).getD i []=pJ l p (code/2^cH l (ps.take i)) 0:=by
 have hlt:=get_lt h
 unfold rG pJ
 rw [List.getD_eq_getElem?_getD,List.getElem?_append_right (by rw [List.length_take,jV];omega),List.length_take,jV,Nat.min_eq_left (by omega),Nat.sub_self,List.getElem?_drop,Nat.add_zero,cy,List.getElem?_map,h]
 rfl
theorem Rf {l:List NodeP} {ps:List Nat} {code i p:Nat} (h:ps[i]?=some p):(rG l ps code i).set i (pJ l p (code/2^cH l (ps.take i)) (aE l p))=rG l ps code (i+1):=by
 have hlt:=get_lt h
 have hu:(dM l ps code)[i]?=some (np (bJ l p) (aE l p) (code/2^cH l (ps.take i))):=by
  have:=DG (l:=l) (code:=code) h
  rw [List.getD_eq_getElem?_getD,List.getElem?_eq_getElem (by rw [jV];exact hlt)]at this
  rw [List.getElem?_eq_getElem (by rw [jV];exact hlt)]
  exact congrArg some this
 unfold rG pJ
 rw [Nat.sub_self,List.replicate_zero,List.append_nil,List.set_append_right _ _ (by rw [List.length_take,jV];omega),List.length_take,jV,Nat.min_eq_left (by omega),Nat.sub_self]
 have hd:(cy l ps).drop i=List.replicate (aE l p) 0::(cy l ps).drop (i+1):=by
  rw [<-List.getElem_cons_drop (show i<(cy l ps).length by rw [cy,List.length_map];exact hlt)]
  congr 1
  unfold cy
  rw [List.getElem_map]
  rw [List.getElem?_eq_getElem hlt]at h
  rw [Option.some.inj h]
 rw [hd,List.set_cons_zero,List.take_add_one,hu]
 simp
theorem JB {l:List NodeP} {p code k:Nat} (hk:k<aE l p):(pJ l p code k).set k (code/2^(bJ l p*k)%2^bJ l p)=pJ l p code (k+1):=by
 unfold pJ
 rw [List.set_append_right _ _ (by rw [sA];omega),sA,Nat.sub_self]
 obtain⟨d,hd⟩: ∃d,aE l p-k=d+1:=⟨aE l p-k-1,by omega⟩
 rw [hd,List.replicate_succ,List.set_cons_zero,show aE l p-(k+1)=d by omega,np,List.append_assoc];rfl
theorem yq {l:List NodeP} {p code k:Nat} (hk:k<=aE l p):(pJ l p code k).length=aE l p:=by
 unfold pJ;rw [List.length_append,sA,List.length_replicate];omega
theorem gE.widc {h:Hp} {s:Sl} {l:List NodeP} (e:gE h s l) {p:Nat} (hp:p<l.length) (hok:bQ l=true):
  ∃b o,s.a=some (Addr.mk b o none)/\(p:Int)<(s.n:Int)/\Hp.cell h b (((o+Int.toNat (p:Int)*9)+6)+1)=some (I (bJ l p))/\1<=bJ l p/\bJ l p<=16:=by
 obtain⟨b,o,h1,h2,h3,h4⟩:=e.sortc hp
 have:=bD.1 (sd hok hp)
 have hw:(aq l p).wid=((bJ l p:Nat):Int):=by unfold bJ;omega
 exact⟨b,o,h1,h2,by rw [<-hw];exact h4,by unfold bJ;omega,by unfold bJ;omega⟩
theorem RH {l:List NodeP} {ps:List Nat} {code:Nat} {v:List Nat} (h:v∈dM l ps code):v.length<=4:=by
 unfold dM at h
 obtain⟨i,_,rfl⟩:=List.mem_map.1 h
 rw [sA];exact dj _ _
theorem fq (l:List NodeP) (ps:List Nat):(cy l ps).length=ps.length:=by simp [cy]
theorem gE.sortc2 {h:Hp} {s:Sl} {l:List NodeP} (e:gE h s l) {p:Nat} (hp:p<l.length) (hok:bQ l=true):
  ∃b o,s.a=some (Addr.mk b o none)/\(p:Int)<(s.n:Int)/\Hp.cell h b ((o+Int.toNat (p:Int)*9)+6)=some (I (aq l p).idx)/\Hp.cell h b (((o+Int.toNat (p:Int)*9)+6)+1)=some (I (bJ l p))/\1<=bJ l p/\bJ l p<=16:=by
 obtain⟨b,o,h1,h2,h3,h4⟩:=e.sortc hp
 have:=bD.1 (sd hok hp)
 have hw:(aq l p).wid=((bJ l p:Nat):Int):=by unfold bJ;omega
 exact⟨b,o,h1,h2,h3,by rw [<-hw];exact h4,by unfold bJ;omega,by unfold bJ;omega⟩
theorem nY {l:List NodeP} {p:Nat} (hok:bQ l=true) (hp:p<l.length):di ⟨(aq l p).idx,(bJ l p:Nat)⟩=aE l p:=by
 have:=bD.1 (sd hok hp)
 have hw:((bJ l p:Nat):Int)=(aq l p).wid:=by unfold bJ;omega
 rw [hw];rfl
theorem aaT (w k ci:Nat):(VL (np w k ci)).map I++ [I ((ci/2^(w*k)%2^w:Nat):Int)]=(VL (np w (k+1) ci)).map I:=by
 rw [np,xL,List.map_append];rfl
theorem fI {h:Hp} {M:MSl} {m:ah} {s:Sl} {ps:List Nat} {code:Nat} {R:Value->Hp->Prop} (hs:aO h M m) (hm:bU m) (hok:bQ m.nodes=true) (hp:IntS h s (VL ps)) (hps: ∀p∈ps,p<m.nodes.length) (hpl:ps.length<=1048576)
  (hcode:code<=1048576) (hsum:cH m.nodes ps<=60) (k: ∀out h',h.le h'->IntSS h' out ((dM m.nodes ps code).map VL)->R (Sl.v out) h'):bM #[aQ M,s.v,I code] h R:=by
 apply HJ
 refine uf_ ?_
 have hn:=hs.nodes.len
 have hns:=hm.nodes
 have hsn:=hp.len
 rw [aX]at hsn
 refine aj fun b9 h1 hb9 l1 f9=>?_
 refine au ps.length (fun i vs h'=> ∃(ts:List Sl) (out:Sl),vs= [s.v,I code, .pointer (some ⟨b9,0,none⟩),out.v,I (cH m.nodes (ps.take i):Nat),I i]/\
  h.le (h'.offS out)/\(h'.offS out) b9=some (.inl ⟨aH M,5,false⟩)/\out.n=i/\ts.length=i/\Buf h' out 1 (ts.map Sl.v)/\
  (∀(j:Nat) (t:Sl),ts[j]?=some t->IntS (h'.offS out) t (VL ((dM m.nodes ps code).getD j []))))
  ⟨[],⟨none,0,0⟩,by simp [cH],l1,f9,rfl,rfl,fu _ _,fun j t ht=>by simp at ht⟩ ?_
 clear f9 l1 hb9 h1
 rintro i _ h3 next hi ⟨ts,out,rfl,l3,f9,hon,htl,hbuf,hts⟩ hnx
 have lo:=aW h3 out
 have f9':=lo _ _ f9
 have l3':=Hp.le_trans l3 lo
 have hsi:=Ik m.nodes ps i
 refine⟨s,_,_,_,out,_,_,rfl,?_⟩
 by_cases hlt:i<ps.length
 rotate_left
 ·have hie:i=ps.length:=by omega
  subst hie
  refine aC (by simp;omega) (k out h3 l3' ⟨ts,by simp [jV];omega,hbuf.slc_of (by omega),fun j h1 h2=>?_⟩)
  have:=(hts j _ (List.getElem?_eq_getElem h1)).mono lo
  have hju:j<(dM m.nodes ps code).length:=by rw [jV];omega
  rw [List.getElem_map]
  rwa [List.getD_eq_getElem?_getD,List.getElem?_eq_getElem hju]at this
 refine aN (by simp;omega) ?_
 obtain⟨p,hpi⟩: ∃p,ps[i]?=some p:=⟨_,List.getElem?_eq_getElem hlt⟩
 have hpm:=hps p (List.mem_of_getElem? hpi)
 obtain⟨b,o,ha,hc⟩:=(hp.mono l3').get (ic hpi)
 refine⟨b,o,ha,by omega,by omega,?_⟩
 (refine aD ?_)
 refine⟨_,hc,?_⟩
 obtain⟨bn,on,han,hpn,c6,c7,w1,w16⟩:=(hs.mono l3').nodes.sortc2 hpm hok
 refine⟨bn,on,han,by omega,hpn,_,c6,_,c7,?_⟩
 have xb:=gf hc
 have xbn:=gf c6
 have xb9:=cf f9'
 refine aj fun b37 h4 hb37 l4 f37=>?_
 repeat' (((with_reducible apply mV);(assumption);(assumption)))
 (with_reducible apply cB);(exact f37);(exact l4);(exact hb37);(exact Nat.le_refl 2)
 intro h5 f37b kp l5
 clear f37 kp l4 h4
 refine aj fun b43 h6 hb43 l6 f43=>?_
 have n37:=fresh_ne hb43 f37b
 have hb43':=aF l5 hb43
 (with_reducible apply cB);(exact f43);(exact Hp.le_trans l5 l6);(exact hb43');(exact Nat.le_refl 1)
 intro h7 f43b kp l7
 have f37c:h7 b37=some (.inl ⟨[I (aq m.nodes p).idx,I (bJ m.nodes p)],2,false⟩):=cA kp n37 (l6 _ _ f37b)
 have f43c:h7 b43=some (.inl ⟨[(⟨none,0,0⟩:Sl).v],1,false⟩):=f43b
 clear f43 f43b f37b kp l6 l5
 have hcl:=dj m.nodes p
 have hcm:=nY hok hpm
 have hstep:=ny (l:=m.nodes) hpi
 have hsi1:=Ik m.nodes ps (i+1)
 obtain⟨ci,hci⟩: ∃ci,ci=code/2^cH m.nodes (ps.take i):=⟨_,rfl⟩
 refine au (aE m.nodes p) (fun q vs h'=> ∃sl:Sl,vs= [s.v,I code, .pointer (some ⟨b9,0,none⟩),out.v,I (cH m.nodes (ps.take i)+bJ m.nodes p*q:Nat),I i, .pointer (some ⟨b37,0,none⟩), .pointer (some ⟨b43,0,none⟩),I q]/\
  h3.le (h'.offS sl)/\(h'.offS sl) b37=some (.inl ⟨[I (aq m.nodes p).idx,I (bJ m.nodes p)],2,false⟩)/\(h'.offS sl) b43=some (.inl ⟨[sl.v],1,false⟩)/\sl.n=q/\Buf h' sl 1 ((VL (np (bJ m.nodes p) q ci)).map I))
  ⟨⟨none,0,0⟩,by simp,l7,f37c,f43c,rfl,fu _ _⟩ ?_
 clear f37c f43c l7 h7
 rintro q _ h7 next2 hq ⟨sl,rfl,l7,f37,f43,hsl,hbufl⟩ hnx2
 have los:=aW h7 sl
 have f37':=los _ _ f37
 have f43':=los _ _ f43
 refine⟨s,_,_,_,out,_,_,_,_,_,_,_,rfl,?_⟩
 repeat' (refine aD ?_)
 refine gy ⟨_,rfl,?_⟩
 rw [hcm]
 by_cases hlq:q<aE m.nodes p
 rotate_left
 ·have hqe:q=aE m.nodes p:=by omega
  subst hqe
  refine aC (by simp) ?_
  (refine aD ?_)
  refine aj fun b103 h8 hb103 l8 f103=>?_
  have l38:=Hp.le_trans l7 (Hp.le_trans los l8)
  have l38o:=bA out l38
  refine dF (hbuf.mono l38) (by omega) (by omega) (by omega) ⟨b103,0,rfl,aw f103⟩ (by simp) rfl ?_
  intro s' h10 hs'n hbuf' l10 _
  rw [ay (by omega)]
  have l310:=Hp.le_trans l38o l10
  have hbuf'':Buf h10 s' 1 ((ts++ [sl]).map Sl.v):=by rw [List.map_append];exact hbuf'
  have hval:IntS h8 sl (VL (np (bJ m.nodes p) (aE m.nodes p) ci)):=SlC.mono l8 (hbufl.slc_of (by omega))
  rw [<-hstep]
  refine hnx hlt _ _ ⟨ts++ [sl],s',rfl,Hp.le_trans l3 l310,l310 _ _ f9,by omega,by simp;omega,hbuf'',fun j u hu=>?_⟩
  by_cases hj:j<i
  ·rw [List.getElem?_append_left (by omega)]at hu
   exact(hts j u hu).mono l310
  ·have hju:=get_lt hu
   simp at hju
   have hje:j=i:=by omega
   subst hje
   rw [List.getElem?_append_right (by omega),htl,Nat.sub_self]at hu
   simp at hu;subst hu
   rw [DG hpi,<-hci]
   exact(hval.offL (hbuf.mono l38)).mono l10
 refine aN (by simp;omega) ?_
 have hmul:bJ m.nodes p*q<=bJ m.nodes p*aE m.nodes p:=Nat.mul_le_mul_left _ hq
 have hmul2:bJ m.nodes p*(q+1)<=bJ m.nodes p*aE m.nodes p:=Nat.mul_le_mul_left _ hlq
 have hp16:=Ap w16
 have hpp:=bP (bJ m.nodes p)
 refine ar (fun J=> ∀(sl':Sl) (h':Hp),h3.le (h'.offS sl')->(h'.offS sl') b37=some (.inl ⟨[I (aq m.nodes p).idx,I (bJ m.nodes p)],2,false⟩)->(h'.offS sl') b43=some (.inl ⟨[sl'.v],1,false⟩)->sl'.n=q+1->
   Buf h' sl' 1 ((VL (np (bJ m.nodes p) (q+1) ci)).map I)->J (cH m.nodes (ps.take i)+bJ m.nodes p*(q+1):Nat) h') ?_ (fun J hJ=>?_)
 ·intro sl' h' g1 g2 g3 g4 g5
  rw [ay (by omega)]
  exact hnx2 hlq _ _ ⟨sl',rfl,g1,g2,g3,g4,g5⟩
 have xb60:=cf f37'
 have xb62:=cf f43'
 rw [cX (n:=cH m.nodes (ps.take i)+bJ m.nodes p*q) (by omega)]
 repeat' (refine aD ?_)
 rw [cX (n:=bJ m.nodes p) (by omega)]
 rw [jE (by omega),cv (by omega),eQ]
 have hval:code/2^(cH m.nodes (ps.take i)+bJ m.nodes p*q)=ci/2^(bJ m.nodes p*q):=by
  rw [hci,Nat.div_div_eq_div_mul,<-Nat.pow_add]
 rw [hval]
 have app: ∀(K:Option Addr->Nat->Nat->Hp->Prop) (h8:Hp) (b75:Nat),h7.le h8->h8 b75=some (.inl ⟨[I ((ci/2^(bJ m.nodes p*q)%2^bJ m.nodes p:Nat):Int)],1,false⟩)->
   (∀(s':Sl) (h9:Hp),s'.n=q+1->h3.le (h9.offS s')->(h9.offS s') b37=some (.inl ⟨[I (aq m.nodes p).idx,I (bJ m.nodes p)],2,false⟩)->(h9.offS s') b43=some (.inl ⟨[sl.v],1,false⟩)->Buf h9 s' 1 ((VL (np (bJ m.nodes p) (q+1) ci)).map I)->K s'.a s'.n s'.c h9)->
   cx h8 sl.a sl.n sl.c (some ⟨b75,0,none⟩) 1 1 8 K:=by
  intro K h8 b75 l8 f75 hK
  have l78:=bA sl l8
  refine dF (hbufl.mono l8) (by omega) (by omega) (by omega) ⟨b75,0,rfl,aw f75⟩ (by simp) rfl ?_
  intro s' h9 hs'n hbuf' l9 _
  have l79:=Hp.le_trans l78 l9
  refine hK s' h9 (by omega) (Hp.le_trans l7 l79) (l79 _ _ f37) (l79 _ _ f43) ?_
  rw [<-aaT];exact hbuf'
 have fin: ∀(s':Sl) (h9:Hp),s'.n=q+1->h3.le (h9.offS s')->(h9.offS s') b37=some (.inl ⟨[I (aq m.nodes p).idx,I (bJ m.nodes p)],2,false⟩)->(h9.offS s') b43=some (.inl ⟨[sl.v],1,false⟩)->Buf h9 s' 1 ((VL (np (bJ m.nodes p) (q+1) ci)).map I)->
   ∃(cs:List Value) (z:Nat),h9 b43=some (.inl ⟨cs,z,false⟩)/\0+1<=List.length cs/\cL (h9.row b43 (ce cs 0 [.slice s'.a s'.n s'.c]) z) fun h83=> ∃(x85:Int),Hp.cell h83 b37 (0+1)=some (I x85)/\(J (W (((cH m.nodes (ps.take i)+bJ m.nodes p*q:Nat):Int)+x85)) h83):=by
  intro s' h9 g1 g2 g3 g4 g5
  (with_reducible apply xe);(exact g4);(exact g2);(exact hb43');(exact Nat.le_refl 1)
  intro h10 e43 kp l10 hbk
  have e37:(h10.offS s') b37=some (.inl ⟨[I (aq m.nodes p).idx,I (bJ m.nodes p)],2,false⟩):=by rw [kp _ n37];exact g3
  refine⟨_,by rw [ax (aW _ _ _ _ e37)];rfl,?_⟩
  have:W (((cH m.nodes (ps.take i)+bJ m.nodes p*q:Nat):Int)+((bJ m.nodes p:Nat):Int))=((cH m.nodes (ps.take i)+bJ m.nodes p*(q+1):Nat):Int):=by
   rw [bX (by omega) (by omega),Nat.mul_add,Nat.mul_one];omega
  rw [this]
  exact hJ s' h10 l10 e37 e43 g1 (hbk _ _ g5)
 constructor
 ·repeat' (refine aD ?_)
  rw [if_neg (by omega)]
  repeat' (refine aD ?_)
  rw [if_neg (by omega),if_neg (by omega)]
  refine aj fun b75 h8 hb75 l8 f75=>?_
  (((with_reducible apply mV);(assumption);(assumption)))
  exact app _ h8 b75 l8 f75 fun s' h9 g1 g2 g3 g4 g5=>fin s' h9 g1 g2 g3 g4 g5
 ·repeat' (refine aD ?_)
  rw [if_neg (by omega)]
  repeat' (refine aD ?_)
  rw [if_neg (by omega),if_neg (by omega)]
  refine aj fun b75 h8 hb75 l8 f75=>?_
  (((with_reducible apply mV);(assumption);(assumption)))
  exact app _ h8 b75 l8 f75 fun s' h9 g1 g2 g3 g4 g5=>fin s' h9 g1 g2 g3 g4 g5
theorem Uk {a n x:Nat} (h:a<2^n):a|||(x*2^n)=a+x*2^n:=by
 rw [Nat.or_comm,Nat.mul_comm,<-Nat.two_pow_add_eq_or_of_lt h,Nat.add_comm]
theorem Km {l:List NodeP} {ps:List Nat} {vs:List (List Nat)} {i p:Nat} (h:ps[i]?=some p) (hf:jM l ps vs):
  dX l (ps.take (i+1)) (vs.take (i+1))=dX l (ps.take i) (vs.take i)+2^cH l (ps.take i)*gO (bJ l p) (vs.getD i []):=by
 have hlt:=get_lt h
 have hl:=jX hf
 rw [List.getElem?_eq_getElem hlt]at h
 rw [List.take_succ_eq_append_getElem hlt,List.take_succ_eq_append_getElem (show i<vs.length by omega),TF (by rw [List.length_take,List.length_take];omega),Option.some.inj h]
 rw [List.getD_eq_getElem?_getD,List.getElem?_eq_getElem (show i<vs.length by omega)];rfl
theorem TM {w:Nat} {v:List Nat} {q:Nat} (h:q<v.length):gO w (v.take (q+1))=gO w (v.take q)+2^(w*q)*v.getD q 0:=by
 rw [List.take_succ_eq_append_getElem h,Kv,List.length_take,Nat.min_eq_left (by omega),List.getD_eq_getElem?_getD,List.getElem?_eq_getElem h];rfl
theorem yB {l:List NodeP} {ps:List Nat} {vs:List (List Nat)} {i p q:Nat} (h:ps[i]?=some p) (hf:jM l ps vs) (hq:q<=aE l p):
  dX l (ps.take i) (vs.take i)+2^cH l (ps.take i)*gO (bJ l p) ((vs.getD i []).take q)<2^(cH l (ps.take i)+bJ l p*q):=by
 have h1:=xK (YC hf i)
 have h2:=lF hf h
 have h3:=A2 (w:=bJ l p) (xs:=(vs.getD i []).take q) fun x hx=>h2.2 x (List.mem_of_mem_take hx)
 rw [List.length_take,Nat.min_eq_left (by omega)]at h3
 rw [Nat.pow_add]
 have h4:=Nat.mul_le_mul_left (2^cH l (ps.take i)) (Nat.succ_le_of_lt h3)
 rw [Nat.succ_eq_add_one,Nat.mul_add,Nat.mul_one]at h4
 omega
theorem IntSS.getV {h:Hp} {s:Sl} {vs:List (List Nat)} (e:IntSS h s (vs.map VL)) {i:Nat} (hi:i<vs.length):
  ∃b o t,s.a=some (Addr.mk b o none)/\Hp.cell h b (o+i*1)=some (Sl.v t)/\IntS h t (VL (vs.getD i [])):=by
 obtain⟨b,o,t,h1,h2,h3⟩:=e.at (i:=i) (by rw [List.length_map];exact hi)
 refine⟨b,o,t,h1,by rw [Nat.mul_one];exact h2,?_⟩
 rw [List.getElem_map]at h3
 rwa [List.getD_eq_getElem?_getD,List.getElem?_eq_getElem hi]
theorem BM {l:List NodeP} {ps:List Nat} {i p q:Nat} (h:ps[i]?=some p) (hq:q<=aE l p):cH l (ps.take i)+bJ l p*q<=cH l ps:=by
 have h1:=ny (l:=l) h
 have h2:=Ik l ps (i+1)
 have h3:=Nat.mul_le_mul_left (bJ l p) hq
 omega
theorem E5 {n:Nat} (h:n<=60):2^n<=1152921504606846976:=by
 have:=Nat.pow_le_pow_right (n:=2) (by omega) h
 simpa using this
theorem Bo {l:List NodeP} {ps:List Nat} {vs:List (List Nat)} {i p q:Nat} (h:ps[i]?=some p) (hf:jM l ps vs) (hq:q<aE l p):
  dX l (ps.take i) (vs.take i)+2^cH l (ps.take i)*gO (bJ l p) ((vs.getD i []).take (q+1))=
   (dX l (ps.take i) (vs.take i)+2^cH l (ps.take i)*gO (bJ l p) ((vs.getD i []).take q))+(vs.getD i []).getD q 0*2^(cH l (ps.take i)+bJ l p*q):=by
 have h2:=lF hf h
 rw [TM (by omega),Nat.mul_add,Nat.add_assoc,<-Nat.mul_assoc,<-Nat.pow_add,Nat.mul_comm (2^(cH l (ps.take i)+bJ l p*q))]
theorem Bt {h:Hp} {M:MSl} {m:ah} {s t:Sl} {ps:List Nat} {vs:List (List Nat)} {R:Value->Hp->Prop} (hs:aO h M m) (hm:bU m) (hok:bQ m.nodes=true) (hp:IntS h s (VL ps)) (hps: ∀p∈ps,p<m.nodes.length) (hpl:ps.length<=1048576)
  (hv:IntSS h t (vs.map VL)) (hf:jM m.nodes ps vs) (hsum:cH m.nodes ps<=60) (k:R (I (dX m.nodes ps vs)) h):iJ #[aQ M,s.v,t.v] h R:=by
 refine ACalls.drop (D2 ?_)
 refine uf_ ?_
 have hn:=hs.nodes.len
 have hns:=hm.nodes
 have hsn:=hp.len
 rw [aX]at hsn
 have htn:=hv.len
 rw [List.length_map]at htn
 have hvl:=jX hf
 have hsum60:=E5 hsum
 refine aj fun b9 h1 hb9 l1 f9=>?_
 refine au ps.length (fun i ws h'=>h'=h1/\ws= [t.v, .pointer (some ⟨b9,0,none⟩),I (dX m.nodes (ps.take i) (vs.take i):Nat),I (cH m.nodes (ps.take i):Nat),s.v,I s.n,I i]) ⟨rfl,by simp [dX,cH]⟩ ?_
 rintro i _ _ next hi ⟨rfl,rfl⟩ hnx
 rename_i h1
 refine⟨t,_,_,_,_,s,_,_,rfl,?_⟩
 by_cases hlt:i<ps.length
 rotate_left
 ·have hie:i=ps.length:=by omega
  subst hie
  refine aC (by simp;omega) ⟨_,l1,?_⟩
  rw [List.take_of_length_le (Nat.le_refl _),List.take_of_length_le (by omega)];exact k
 refine aN (by simp;omega) ?_
 obtain⟨p,hpi⟩: ∃p,ps[i]?=some p:=⟨_,List.getElem?_eq_getElem hlt⟩
 have hpm:=hps p (List.mem_of_getElem? hpi)
 obtain⟨b,o,ha,hc⟩:=(hp.mono l1).get (ic hpi)
 refine⟨b,o,ha,by omega,by omega,_,hc,?_⟩
 obtain⟨bt,ot,c,hta,htc,hcv⟩:=(hv.mono l1).getV (i:=i) (by omega)
 refine⟨bt,ot,hta,by omega,by omega,c,htc,?_⟩
 obtain⟨bn,on,han,hpn,c7,w1,w16⟩:=(hs.mono l1).nodes.widc hpm hok
 have hg:=lF hf hpi
 have hcn:=hcv.len
 rw [aX]at hcn
 have hcl:=dj m.nodes p
 refine au (aE m.nodes p) (fun q ws h'=>h'=h1/\ws= [t.v, .pointer (some ⟨b9,0,none⟩),I (dX m.nodes (ps.take i) (vs.take i)+2^cH m.nodes (ps.take i)*gO (bJ m.nodes p) ((vs.getD i []).take q):Nat),
  I (cH m.nodes (ps.take i)+bJ m.nodes p*q:Nat),I p,s.v,I s.n,I i,c.v,I c.n,I q]) ⟨rfl,by simp [gO]⟩ ?_
 rintro q _ _ next2 hq ⟨rfl,rfl⟩ hnx2
 rename_i h1
 refine⟨t,_,_,_,_,_,s,_,_,c,_,_,rfl,?_⟩
 by_cases hlq:q<aE m.nodes p
 rotate_left
 ·have hqe:q=aE m.nodes p:=by omega
  subst hqe
  refine aC (by simp;omega) ?_
  rw [ay (by omega)]
  refine hnx hlt _ _ ⟨rfl,?_⟩
  rw [Km hpi hf,ny hpi,List.take_of_length_le (l:=vs.getD i []) (by omega)]
 refine aN (by simp;omega) ?_
 obtain⟨bc,oc,hca,hcc,hln⟩:=hcv.elt (i:=q) (by omega)
 refine⟨bc,oc,hca,by omega,by omega,_,hcc,?_⟩
 have hb1:=yB hpi hf (Nat.le_of_lt hlq)
 have hb2:=yB (q:=q+1) hpi hf hlq
 rw [Bo hpi hf hlq]at hb2
 have hs1:=BM hpi (Nat.le_of_lt hlq)
 have hs2:=BM (q:=q+1) hpi hlq
 have hp1:=E5 (n:=cH m.nodes (ps.take i)+bJ m.nodes p*(q+1)) (by omega)
 have hp2:=E5 (n:=cH m.nodes (ps.take i)+bJ m.nodes p*q) (by omega)
 rw [if_neg (by omega)]
 (refine aD ?_)
 refine⟨bn,on,han,by omega,hpn,_,c7,?_⟩
 rw [iZ (by omega) (by omega),Ex (by omega) (by omega),Uk hb1,<-Bo hpi hf hlq,bX (n:=((cH m.nodes (ps.take i)+bJ m.nodes p*q:Nat):Int)+(bJ m.nodes p:Nat)) (by omega) (by omega),ay (by omega)]
 refine hnx2 hlq _ _ ⟨rfl,?_⟩
 rw [Nat.mul_add,Nat.mul_one,<-Nat.add_assoc,Int.natCast_add (cH m.nodes (ps.take i)+bJ m.nodes p*q)]
theorem pN {h:Hp} {M:MSl} {m:ah} {s t:Sl} {ps:List Nat} {vs:List (List Nat)} {R:Value->Hp->Prop} (hs:aO h M m) (hm:bU m) (hok:bQ m.nodes=true) (hp:IntS h s (VL ps)) (hps: ∀p∈ps,p<m.nodes.length) (hpl:ps.length<=1048576)
  (hv:IntSS h t (vs.map VL)) (hf:jM m.nodes ps vs) (hsum:cH m.nodes ps<=60) (k:R (I (dX m.nodes ps vs)) h):lQ #[aQ M,s.v,t.v] h R:=by
 refine ACalls.drop (MZ ?_)
 refine uf_ ?_
 have hn:=hs.nodes.len
 have hns:=hm.nodes
 have hsn:=hp.len
 rw [aX]at hsn
 have htn:=hv.len
 rw [List.length_map]at htn
 have hvl:=jX hf
 have hsum60:=E5 hsum
 refine aj fun b9 h1 hb9 l1 f9=>?_
 refine au ps.length (fun i ws h'=>h'=h1/\ws= [s.v,t.v, .pointer (some ⟨b9,0,none⟩),I (dX m.nodes (ps.take i) (vs.take i):Nat),I (cH m.nodes (ps.take i):Nat),I i]) ⟨rfl,by simp [dX,cH]⟩ ?_
 rintro i _ _ next hi ⟨rfl,rfl⟩ hnx
 rename_i h1
 refine⟨s,t,_,_,_,_,_,rfl,?_⟩
 by_cases hlt:i<ps.length
 rotate_left
 ·have hie:i=ps.length:=by omega
  subst hie
  refine aC (by simp;omega) ⟨_,l1,?_⟩
  rw [List.take_of_length_le (Nat.le_refl _),List.take_of_length_le (by omega)];exact k
 refine aN (by simp;omega) ?_
 obtain⟨p,hpi⟩: ∃p,ps[i]?=some p:=⟨_,List.getElem?_eq_getElem hlt⟩
 have hpm:=hps p (List.mem_of_getElem? hpi)
 obtain⟨b,o,ha,hc⟩:=(hp.mono l1).get (ic hpi)
 refine⟨b,o,ha,by omega,by omega,?_⟩
 (refine aD ?_)
 refine⟨_,hc,?_⟩
 obtain⟨bn,on,han,hpn,c7,w1,w16⟩:=(hs.mono l1).nodes.widc hpm hok
 refine⟨bn,on,han,by omega,hpn,_,c7,?_⟩
 obtain⟨bt,ot,c,hta,htc,hcv⟩:=(hv.mono l1).getV (i:=i) (by omega)
 have hg:=lF hf hpi
 have hcn:=hcv.len
 rw [aX]at hcn
 have hcl:=dj m.nodes p
 refine au (aE m.nodes p) (fun q ws h'=>h'=h1/\ws= [s.v,t.v, .pointer (some ⟨b9,0,none⟩),I (dX m.nodes (ps.take i) (vs.take i)+2^cH m.nodes (ps.take i)*gO (bJ m.nodes p) ((vs.getD i []).take q):Nat),
  I (cH m.nodes (ps.take i)+bJ m.nodes p*q:Nat),I i,I (bJ m.nodes p),I q]) ⟨rfl,by simp [gO]⟩ ?_
 rintro q _ _ next2 hq ⟨rfl,rfl⟩ hnx2
 rename_i h1
 refine⟨s,t,_,_,_,_,_,_,_,rfl,?_⟩
 refine⟨bt,ot,hta,by omega,by omega,c,htc,?_⟩
 by_cases hlq:q<aE m.nodes p
 rotate_left
 ·have hqe:q=aE m.nodes p:=by omega
  subst hqe
  refine aC (by simp;omega) ?_
  rw [ay (by omega)]
  refine hnx hlt _ _ ⟨rfl,?_⟩
  rw [Km hpi hf,ny hpi,List.take_of_length_le (l:=vs.getD i []) (by omega)]
 refine aN (by simp;omega) ?_
 refine⟨bt,ot,hta,by omega,by omega,c,htc,?_⟩
 obtain⟨bc,oc,hca,hcc,hln⟩:=hcv.elt (i:=q) (by omega)
 refine⟨bc,oc,hca,by omega,by omega,_,hcc,?_⟩
 have hb1:=yB hpi hf (Nat.le_of_lt hlq)
 have hb2:=yB (q:=q+1) hpi hf hlq
 rw [Bo hpi hf hlq]at hb2
 have hs1:=BM hpi (Nat.le_of_lt hlq)
 have hs2:=BM (q:=q+1) hpi hlq
 have hp1:=E5 (n:=cH m.nodes (ps.take i)+bJ m.nodes p*(q+1)) (by omega)
 have hp2:=E5 (n:=cH m.nodes (ps.take i)+bJ m.nodes p*q) (by omega)
 rw [cX (n:=cH m.nodes (ps.take i)+bJ m.nodes p*q) (by omega),if_neg (by omega)]
 rw [iZ (by omega) (by omega),<-Int.natCast_add,fP (by omega),<-Bo hpi hf hlq,bX (n:=((cH m.nodes (ps.take i)+bJ m.nodes p*q:Nat):Int)+(bJ m.nodes p:Nat)) (by omega) (by omega),ay (by omega)]
 refine hnx2 hlq _ _ ⟨rfl,?_⟩
 rw [Nat.mul_add,Nat.mul_one,<-Nat.add_assoc,Int.natCast_add (cH m.nodes (ps.take i)+bJ m.nodes p*q)]
structure Fq (m:ah) (v:List (List Nat)):Prop where
 len:v.length=m.nodes.length
 fit:zO m.nodes m.nodes.length v
theorem dq {m:ah} (g:cr m) (s i:Nat):Fq m (bL m s i):=⟨N9 _ _ _,Bw g s i⟩
theorem xQ {m:ah} (g:cr m):Fq m (kC m):=⟨N9 _ _ _,Q2 g (eW m.nodes (stP m)) (eW m.nodes (inP m))⟩
def gX (binds:List BindP) (p:Nat):Int:=match bO binds p with|some k=>k|none=> -1
theorem rC (b:BindP) (r:List BindP) (p:Nat):bO (b::r) p=if b.state=(p:Int)then some b.node.toNat else bO r p:=by
 unfold bO
 rw [List.find?_cons]
 by_cases e:b.state=(p:Int)<;>simp [e]
theorem lm {h:Hp} {s:Sl} {binds:List BindP} {p:Nat} {R:Value->Hp->Prop} (hs:ii h s binds) (hl:binds.length<=1048576) (h0: ∀b∈binds,0<=b.node)
  (k:R (I (gX binds p)) h):gn #[s.v,I p] h R:=by
 apply LP
 refine uf_ ?_
 have hn:=hs.len
 refine au binds.length (fun i vs h'=>h'=h/\vs= [s.v,I p,I i]/\bO (binds.drop i) p=bO binds p) ⟨rfl,rfl,rfl⟩ ?_
 rintro i _ _ next hi ⟨rfl,rfl,hall⟩ hnx
 rename_i h
 refine⟨s,_,_,rfl,?_⟩
 by_cases hlt:i<binds.length
 rotate_left
 ·refine aC (by simp;omega) (td ?_ k)
  rw [List.drop_of_length_le (by omega)]at hall
  unfold gX
  rw [<-hall];rfl
 refine aN (by simp;omega) ?_
 obtain⟨x,hxi⟩: ∃x,binds[i]?=some x:=⟨_,List.getElem?_eq_getElem hlt⟩
 have hx0:=h0 x (List.mem_of_getElem? hxi)
 obtain⟨b,o,ha,c1,c2⟩:=hs.at hxi
 have hd:binds.drop i=x::binds.drop (i+1):=by
  rw [List.drop_eq_getElem_cons hlt]
  rw [List.getElem?_eq_getElem hlt]at hxi
  rw [Option.some.inj hxi]
 rw [hd,rC]at hall
 refine⟨b,o,ha,by omega,by omega,_,c1,?_⟩
 refine ad (fun e=>?_) (fun e=>?_)
 ·refine⟨b,o,ha,by omega,by omega,_,c2,td ?_ k⟩
  rw [if_pos (bW e)]at hall
  unfold gX
  rw [<-hall]
  show x.node=((x.node.toNat:Nat):Int)
  omega
 ·rw [ay (by omega)]
  rw [if_neg (bz e)]at hall
  exact hnx hlt _ _ ⟨rfl,rfl,hall⟩
theorem OP (h:Hp) (s t:Sl):(h.offS s).offS t=(h.offS t).offS s:=by
 unfold Hp.offS
 cases s.a<;>cases t.a<;>first|rfl|exact acf _ _ _
theorem Buf.beside {h:Hp} {s t:Sl} {sz sz':Nat} {cs ds:List Value} (e:Buf h s sz cs) (f:Buf (h.offS s) t sz' ds):Buf (h.offS t) s sz cs:=by
 refine⟨e.1,e.2.1,e.2.2.imp id ?_⟩
 rintro ⟨b,hb,hbb⟩
 refine⟨b,hb,?_⟩
 rcases f.2.2 with ⟨h0,_⟩|⟨c,hc,hcc⟩
 ·unfold Hp.offS;rw [h0];exact hbb
 ·have hne:c≠b:=by
   rintro rfl
   simp only [Hp.offS,hb,vG]at hcc;cases hcc
  simp only [Hp.offS,hc,Hp.off,Hp.set]
  rw [if_neg (fun e=>hne e.symm)];exact hbb
theorem bR {m:ah} (g:cr m) (kind:Int): ∀p∈av m.nodes kind,p<m.nodes.length:=fun p hp=>kZ hp
theorem dU (l:List NodeP) (kind:Int):(av l kind).length<=l.length:=by
 unfold av
 refine Nat.le_trans (List.length_filter_le _ _) ?_
 rw [List.length_range];omega
theorem Gm {l:List NodeP} {ps:List Nat} {v:List Nat} (h:v∈cy l ps):v.length<=4:=by
 unfold cy at h
 obtain⟨p,_,rfl⟩:=List.mem_map.1 h
 rw [List.length_replicate];exact dj _ _
theorem zu {h:Hp} {M:MSl} {m:ah} {R:Value->Hp->Prop} (hs:aO h M m) (hm:bU m) (g:cr m)
  (k: ∀t h',h.le h'->t.n=m.nodes.length->gQ h' t (kC m)->R (Sl.v t) h'):iq #[aQ M] h R:=by
 apply A7
 refine uf_ ?_
 have hp36:=dU m.nodes 36
 have hp35:=dU m.nodes 35
 have hns:=hm.nodes
 refine aj fun b7 h1 hb7 l1 f7=>?_
 have x7:=cf f7
 repeat' (refine aD ?_)
 refine dk (hs.mono l1) hm fun t1 h2 l2 p1=>⟨t1,rfl,?_⟩
 repeat' (((with_reducible apply mV);(assumption);(assumption)))
 have l12:=Hp.le_trans l1 l2
 refine mT (hs.mono l12) hm p1 (bR g 36) (by omega) fun o1 ts1 h3 c1 n1=>⟨o1,rfl,?_⟩
 have l23:=Hp.le_trans c1.le (aW _ _)
 have l13:=Hp.le_trans l2 l23
 repeat' (((with_reducible apply mV);(assumption);(assumption)))
 refine dk (hs.mono (Hp.le_trans l1 l13)) hm fun t2 h4 l4 p2=>⟨t2,rfl,?_⟩
 have l14:=Hp.le_trans l13 l4
 repeat' (((with_reducible apply mV);(assumption);(assumption)))
 refine mT (hs.mono (Hp.le_trans l1 l14)) hm p2 (bR g 35) (by omega) fun o2 ts2 h5 c2 n2=>⟨o2,rfl,?_⟩
 have l45:=Hp.le_trans c2.le (aW _ _)
 have l15:=Hp.le_trans l14 l45
 (((with_reducible apply mV);(assumption);(assumption)))
 have i1:IntSS h5 o1 ((cy m.nodes (stP m)).map VL):=(c1.ints (fun v hv=>by have:=Gm hv;omega) (by omega)).mono (Hp.le_trans l4 l45)
 have i2:IntSS h5 o2 ((cy m.nodes (inP m)).map VL):=c2.ints (fun v hv=>by have:=Gm hv;omega) (by omega)
 exact xS (hs.mono (Hp.le_trans l1 l15)) hm g.ok g.nl i1 c1.buf.2.1 (rY g.ok (eW _ _)) i2 c2.buf.2.1 (rY g.ok (eW _ _)) fun t h6 l6 hn hpv=>⟨t,rfl,k t h6 (Hp.le_trans l1 (Hp.le_trans l15 l6)) hn hpv⟩
theorem L9 (l:List NodeP) (a b:List Nat):cy l (a++b)=cy l a++cy l b:=by simp [cy]
structure ZS (l:List NodeP) (g:Hp) (ps:List Nat) (ts:List Sl):Prop where
 len:ts.length=ps.length
 val: ∀(j:Nat) (t:Sl),ts[j]?=some t->IntS g t (VL ((cy l ps).getD j []))
theorem ZS.mono {l:List NodeP} {g g':Hp} {ps:List Nat} {ts:List Sl} (le:g.le g') (e:ZS l g ps ts):ZS l g' ps ts:=⟨e.len,fun j t h=>(e.val j t h).mono le⟩
theorem ZS.snoc {l:List NodeP} {g:Hp} {ps:List Nat} {ts:List Sl} {p:Nat} {t:Sl} (e:ZS l g ps ts) (h:IntS g t (VL (List.replicate (aE l p) 0))):ZS l g (ps++ [p]) (ts++ [t]):=by
 refine⟨by simp [e.len],fun j u hu=>?_⟩
 rw [L9]
 by_cases hj:j<ts.length
 ·rw [List.getElem?_append_left hj]at hu
  rw [g9 (by rw [fq,<-e.len];exact hj)]
  exact e.val j u hu
 ·have hju:=get_lt hu
  simp at hju
  have hje:j=ts.length:=by omega
  subst hje
  rw [List.getElem?_append_right (Nat.le_refl _),Nat.sub_self]at hu
  simp at hu;subst hu
  rw [List.getD_eq_getElem?_getD,List.getElem?_append_right (by rw [fq,e.len];exact Nat.le_refl _),fq,e.len,Nat.sub_self]
  exact h
theorem ZS.ints {l:List NodeP} {g h:Hp} {ps:List Nat} {ts:List Sl} {s:Sl} (e:ZS l g ps ts) (le:g.le h) (hb:Buf h s 1 (ts.map Sl.v)) (hn:s.n<=1048576):IntSS h s ((cy l ps).map VL):=by
 refine⟨ts,by rw [List.length_map,fq];exact e.len,hb.slc_of (by omega),fun i h1 h2=>?_⟩
 have:=(e.val i _ (List.getElem?_eq_getElem h1)).mono le
 have hi:i<(cy l ps).length:=by rw [List.length_map]at h2;exact h2
 rw [List.getElem_map]
 rwa [List.getD_eq_getElem?_getD,List.getElem?_eq_getElem hi]at this
theorem GU {h:Hp} {M:MSl} {m:ah} {R:Value->Hp->Prop} (hs:aO h M m) (hm:bU m) (g:cr m)
  (k: ∀t h',h.le h'->t.n=m.nodes.length->gQ h' t (kC m)->afa h t->R (Sl.v t) h'):mL #[aQ M] h R:=by
 apply JX
 refine uf_ ?_
 have hn:=hs.nodes.len
 have hns:=hm.nodes
 refine aj fun b7 h1 hb7 l1 f7=>?_
 refine au m.nodes.length (fun i vs h'=> ∃(ts us:List Sl) (sS sI:Sl),vs= [.pointer (some ⟨b7,0,none⟩),sS.v,sI.v,I i]/\h.le ((h'.offS sS).offS sI)/\((h'.offS sS).offS sI) b7=some (.inl ⟨aH M,5,false⟩)/\
  Buf h' sS 1 (ts.map Sl.v)/\Buf (h'.offS sS) sI 1 (us.map Sl.v)/\ZS m.nodes ((h'.offS sS).offS sI) (av (m.nodes.take i) 36) ts/\ZS m.nodes ((h'.offS sS).offS sI) (av (m.nodes.take i) 35) us/\sS.n<=i/\sI.n<=i)
  ⟨[], [],⟨none,0,0⟩,⟨none,0,0⟩,rfl,l1,f7,fu _ _,fu _ _,⟨rfl,fun j t ht=>by simp at ht⟩,⟨rfl,fun j t ht=>by simp at ht⟩,Nat.le_refl _,Nat.le_refl _⟩ ?_
 clear f7 l1 hb7 h1
 rintro i _ h1 next hi ⟨ts,us,sS,sI,rfl,l1,f7,bS,bI,zS,zI,nS,nI⟩ hnx
 have lo:=Hp.le_trans (aW (h1.offS sS) sI) (aW h1 sS)
 have l1':=Hp.le_trans l1 lo
 have f7':=lo _ _ f7
 refine⟨_,_,sS,sI,_,rfl,?_⟩
 repeat' (refine aD ?_)
 by_cases hlt:i<m.nodes.length
 rotate_left
 ·have hie:i=m.nodes.length:=by omega
  subst hie
  refine aC (by simp;omega) ?_
  repeat' (refine aD ?_)
  rw [List.take_of_length_le (Nat.le_refl _)]at zS zI
  have i1:=zS.ints lo bS (by omega)
  have i2:=zI.ints lo (bI.mono (aW _ _)) (by omega)
  exact pw (hs.mono l1') hm g.ok g.nl i1 (rY g.ok (eW _ _)) i2 (rY g.ok (eW _ _)) fun t h6 l6 hn hpv pn=>⟨t,rfl,k t h6 (Hp.le_trans l1' l6) hn hpv fun b o e=>aF l1' (pn b o e)⟩
 refine aN (by simp;omega) ?_
 obtain⟨n,hni⟩: ∃n,m.nodes[i]?=some n:=⟨_,List.getElem?_eq_getElem hlt⟩
 (refine aD ?_)
 obtain⟨bn,on,han,e0,e1,e2,e3,e4,e5,e6,e7,e8⟩:=(hs.nodes.mono l1').at hni
 have hsa:aq m.nodes ((i:Nat):Int)=n.sort:=by unfold aq;rw [Int.toNat_natCast,hni]
 refine⟨bn,on,han,by omega,by omega,_,e6,_,e7,?_⟩
 refine gy ⟨_,rfl,?_⟩
 have hce:di ⟨n.sort.idx,n.sort.wid⟩=aE m.nodes i:=by unfold aE;rw [hsa]
 rw [hce]
 have hc4:=dj m.nodes i
 refine⟨by omega,by omega,by omega,by omega,?_⟩
 refine aj fun b33 h2 hb33 l2 f33=>?_
 rw [Int.toNat_natCast,Nat.mul_one,cD]at f33
 refine aj fun b35 h3 hb35 l3 f35'=>?_
 have n33:=fresh_ne hb35 f33
 have b35n:=aF l2 hb35
 replace f33:=l3 _ _ f33
 (with_reducible apply cB);(exact f35');(exact Hp.le_trans l2 l3);(exact b35n);(exact Nat.le_refl 1)
 intro h4 f35 kp l4
 replace f33:=cA kp n33 f33
 have f35v:h4 b35=some (.inl ⟨[(⟨some ⟨b33,0,none⟩,aE m.nodes i,aE m.nodes i⟩:Sl).v],1,false⟩):=f35
 have hz4:IntS h4 ⟨some ⟨b33,0,none⟩,aE m.nodes i,aE m.nodes i⟩ (VL (List.replicate (aE m.nodes i) 0)):=by
  refine⟨by dsimp only;omega,by simp [aX], .inr ⟨b33,0,rfl,?_⟩⟩
  have hc:(VL (List.replicate (aE m.nodes i) 0)).map I=List.replicate (aE m.nodes i) (I 0):=by simp [VL]
  rw [hc];exact aw f33
 clear f35 f35' kp l2 l3 hb33 hb35 h2 h3
 have bS4:=bS.mono l4
 have bI4:=bI.mono (bA sS l4)
 have l4o:=bA sI (bA sS l4)
 have hz4o:IntS ((h4.offS sS).offS sI) ⟨some ⟨b33,0,none⟩,aE m.nodes i,aE m.nodes i⟩ (VL (List.replicate (aE m.nodes i) 0)):=(hz4.offL bS4).offL bI4
 have f35o:((h4.offS sS).offS sI) b35=some (.inl ⟨[(⟨some ⟨b33,0,none⟩,aE m.nodes i,aE m.nodes i⟩:Sl).v],1,false⟩):=by
  have d: ∀{s:Sl} {gg:Hp} {cs:List Value},gg.le h1->Buf gg s 1 cs-> ∀a,s.a=some a->a.block≠b35:=by
   intro s gg cs hg hb a ha e
   rcases hb.2.2 with ⟨h0,_⟩|⟨c,hc,hcb⟩
   ·rw [h0]at ha;cases ha
   ·rw [hc]at ha;cases ha
    subst e
    have:=hg _ _ hcb
    rw [b35n]at this;cases this
  rw [yX (d (aW _ _) bI),yX (d (Hp.le_refl _) bS)];exact f35v
 have hp36:=iV (kind:=36) hni
 have hp35:=iV (kind:=35) hni
 have f7'':=l4 _ _ f7'
 repeat' (refine aD ?_)
 refine⟨bn,on,han,by omega,by omega,_,l4.cell e0,?_⟩
 refine ar (fun J=> ∀(sS':Sl) (ts':List Sl) (h5:Hp),((h4.offS sS).offS sI).le ((h5.offS sS').offS sI)->Buf h5 sS' 1 (ts'.map Sl.v)->Buf (h5.offS sS') sI 1 (us.map Sl.v)->ZS m.nodes ((h5.offS sS').offS sI) (av (m.nodes.take (i+1)) 36) ts'->sS'.n<=i+1->J sS' h5) ?_ (fun J hJ=>?_)
 ·intro sS' ts' h5 l5 bS5 bI5 zS5 nS5
  have lo5:=Hp.le_trans (aW (h5.offS sS') sI) (aW h5 sS')
  have l15:=Hp.le_trans l4o l5
  have g7:=lo5 _ _ (l5 _ _ (l4o _ _ f7))
  have g35:=lo5 _ _ (l5 _ _ f35o)
  have e0':=(Hp.le_trans (Hp.le_trans l1 l15) lo5)
  obtain⟨bn',on',han',q0,_⟩:=(hs.nodes.mono e0').at hni
  (refine aD ?_)
  refine⟨bn',on',han',by omega,by omega,_,q0,?_⟩
  refine ad (fun e=>?_) (fun e=>?_)
  ·rw [if_pos (bW e)]at hp35
   (refine aD ?_)
   refine aj fun b63 h6 hb63 l6 f63=>?_
   have l6o:=bA sS' l6
   have l6o2:=bA sI (bA sS' l6)
   have bS6:=bS5.mono l6
   have bI6:=bI5.mono l6o
   have bS6':=bS6.beside bI6
   refine dF (bI5.mono (Hp.le_trans l6o (aW _ _))) (by omega) (by omega) (by omega) ⟨b63,0,rfl,aw f63⟩ (by simp) rfl ?_
   intro s' h7 hs'n hbuf' l7 _
   rw [ay (by omega)]
   have bS7:Buf (h7.offS s') sS' 1 (ts'.map Sl.v):=bS6'.mono l7
   have bI7:Buf (h7.offS sS') s' 1 ((us++ [(⟨some ⟨b33,0,none⟩,aE m.nodes i,aE m.nodes i⟩:Sl)]).map Sl.v):=by
    rw [List.map_append];exact hbuf'.beside bS7
   have l57:((h5.offS sS').offS sI).le ((h7.offS sS').offS s'):=by
    have:=Hp.le_trans l6o2 (show ((h6.offS sS').offS sI).le ((h7.offS sS').offS s') by
     rw [OP h6,OP h7];exact bA sS' l7)
    exact this
   have l17:=Hp.le_trans l15 l57
   refine hnx hlt _ _ ⟨ts',_,sS',s',rfl,Hp.le_trans l1 l17,l17 _ _ f7,bS7.mono (aW _ _),bI7,zS5.mono l57,?_,nS5,by omega⟩
   rw [hp35]
   exact(zI.mono l17).snoc (hz4o.mono (Hp.le_trans l5 l57))
  ·rw [if_neg (bz e),List.append_nil]at hp35
   rw [ay (by omega)]
   refine hnx hlt _ _ ⟨ts',us,sS',sI,rfl,Hp.le_trans l1 l15,l15 _ _ f7,bS5,bI5,zS5,?_,nS5,by omega⟩
   rw [hp35];exact zI.mono l15
 ·refine ad (fun e=>?_) (fun e=>?_)
  ·rw [if_pos (bW e)]at hp36
   have f35c:=(Hp.le_trans (aW (h4.offS sS) sI) (aW h4 sS)) _ _ f35o
   (refine aD ?_)
   refine aj fun b48 h6 hb48 l6 f48=>?_
   have l6o:=bA sS l6
   have l6o2:=bA sI l6o
   refine dF (bS4.mono l6) (by omega) (by omega) (by omega) ⟨b48,0,rfl,aw f48⟩ (by simp) rfl ?_
   intro s' h7 hs'n hbuf' l7 _
   have l47:=Hp.le_trans l6o2 (bA sI l7)
   have bI7:Buf (h7.offS s') sI 1 (us.map Sl.v):=bI4.mono (Hp.le_trans l6o l7)
   refine hJ s' (ts++ [(⟨some ⟨b33,0,none⟩,aE m.nodes i,aE m.nodes i⟩:Sl)]) h7 l47 (by rw [List.map_append];exact hbuf') bI7 ?_ (by omega)
   rw [hp36]
   exact(zS.mono (Hp.le_trans l4o l47)).snoc (hz4o.mono l47)
  ·rw [if_neg (bz e),List.append_nil]at hp36
   refine hJ sS ts h4 (Hp.le_refl _) bS4 bI4 ?_ (by omega)
   rw [hp36];exact zS.mono l4o
theorem Buf.fresh_ne {h:Hp} {s:Sl} {sz b:Nat} {cs:List Value} (e:Buf h s sz cs) (hb:h b=none): ∀a,s.a=some a->a.block≠b:=by
 intro a ha hab
 rcases e.2.2 with ⟨h0,_⟩|⟨c,hc,hcb⟩
 ·rw [h0]at ha;cases ha
 ·rw [hc]at ha;cases ha
  subst hab
  rw [hb]at hcb;cases hcb
theorem Buf.offS_new {h h':Hp} {s:Sl} {sz b:Nat} {cs:List Value} {x:Blk} (e:Buf h s sz cs) (hb:h b=none) (f:h' b=some x):(h'.offS s) b=some x:=by
 rw [yX (e.fresh_ne hb)];exact f
theorem Buf.sub_le {h h':Hp} {s:Sl} {sz:Nat} {cs:List Value} (e:Buf (h'.sub h) s sz cs) (l:h.le h'):h.le (h'.offS s):=by
 unfold Hp.offS
 rcases e.2.2 with ⟨h0,_⟩|⟨b,ha,hb⟩
 ·rw [h0];exact l
 ·rw [ha]
  refine zx ?_ l
  cases hx:h b with
  |none=>rfl
  |some x=>rw [mM hx]at hb;cases hb
theorem Buf.sub_buf {h h':Hp} {s:Sl} {sz:Nat} {cs:List Value} (e:Buf (h'.sub h) s sz cs):Buf h' s sz cs:=e.mono (Go.Lead.sub_le _ _)
theorem Buf.wr {h:Hp} {out x:Sl} {ts:List Sl} {q:Nat} {P:Hp->Prop} (e:Buf h out 1 (ts.map Sl.v)) (hq:q<ts.length)
  (k: ∀h',Buf h' out 1 ((ts.set q x).map Sl.v)->h'.offS out=h.offS out->P h'):
  ∃b o:Nat,out.a=some (Addr.mk b o none)/\(0:Int)<=(q:Int)/\(q:Int)<((out.n:Nat):Int)/\
   ∃(cs:List Value) (z:Nat),h b=some (.inl ⟨cs,z,false⟩)/\(o+Int.toNat (q:Int)*1)+1<=List.length cs/\cL (h.row b (ce cs (o+Int.toNat (q:Int)*1) [x.v]) z) P:=by
 have hl:=e.1
 rw [List.length_map]at hl
 rcases e.2.2 with ⟨_,h0,_⟩|⟨b,ha,hb⟩
 ·omega
 ·refine⟨b,0,ha,by omega,by omega,_,_,hb,by rw [List.length_map,Int.toNat_natCast];omega,?_⟩
  rw [VY]
  refine k _ ⟨by rw [List.length_map,List.length_set];omega,e.2.1, .inr ⟨b,ha,?_⟩⟩ ?_
  ·rw [bT,bK,Int.toNat_natCast,Nat.zero_add,Nat.mul_one,List.map_set]
  ·unfold Hp.offS;rw [ha];exact zv _ _ _ _
theorem Ss (v:List Nat) (i x:Nat):(VL (v++List.replicate i x)).map I++ [I (x:Int)]=(VL (v++List.replicate (i+1) x)).map I:=by
 rw [List.replicate_succ',<-List.append_assoc,xL (v++List.replicate i x),List.map_append];rfl
theorem wh {h:Hp} {s:Sl} {v:List Nat} {i w:Int} {R:Value->Hp->Prop} (hs:IntS h s (VL v)) (h0:0<v.length) (hl:v.length<=4)
  (k: ∀t h',h.le h'->IntS h' t (VL (kH (di ⟨i,w⟩) v))->R (.agg #[Sl.v t]) h'):lR #[.agg #[I i,I w], .agg #[s.v]] h R:=by
 apply L8
 refine uf_ ?_
 refine aj fun b5 h1 hb5 l1 f5=>?_
 refine aj fun b7 h2 hb7 l2 f7=>?_
 replace f5:=l2 _ _ f5
 have l02:=Hp.le_trans l1 l2
 have b7n:=aF l1 hb7
 refine aj fun b9 h3 hb9 l3 f9=>?_
 have n59:=fresh_ne hb9 f5
 have n79:=fresh_ne hb9 f7
 have b9n:=aF l02 hb9
 replace f5:=l3 _ _ f5
 replace f7:=l3 _ _ f7
 have l03:=Hp.le_trans l02 l3
 (refine aD ?_)
 refine kv (hs.mono l03) (by rw [aX];omega) fun c h4 l4 hb4=>⟨c,rfl,?_⟩
 have l4o:=hb4.sub_le l4
 have hb4':=hb4.sub_buf
 refine aj fun b16 h5 hb16 l5 f16'=>?_
 have b16n:=aF l4 hb16
 have l5o:=Hp.le_trans l4o (bA c l5)
 have f16o:=hb4'.offS_new hb16 f16'
 (with_reducible apply xe);(exact f16o);(exact l5o);(exact b16n);(exact Nat.le_refl 1)
 intro h6 f16 kp l6 hbk
 have hbuf:=hbk _ _ (hb4'.mono l5)
 have hcn:=hbuf.1
 rw [List.length_map,aX]at hcn
 have hc4:=zq ⟨i,w⟩
 refine au (di ⟨i,w⟩-v.length) (fun q vs h'=> ∃sl:Sl,vs= [.pointer (some ⟨b5,0,none⟩), .pointer (some ⟨b7,0,none⟩), .pointer (some ⟨b9,0,none⟩), .pointer (some ⟨b16,0,none⟩)]/\h3.le (h'.offS sl)/\
  (h'.offS sl) b16=some (.inl ⟨[sl.v],1,false⟩)/\sl.n=v.length+q/\Buf h' sl 1 ((VL (v++List.replicate q (v.getD 0 0))).map I)) ⟨c,rfl,l6,f16,by omega,by simpa using hbuf⟩ ?_
 clear hbuf hbk kp l6 f16 f16o l5o f16' l5 hb16 hb4' l4o hb4 l4 hcn h4 h5 h6
 rintro q _ h4 next hq ⟨sl,rfl,l4,f16,hsl,hbuf⟩ hnx
 have lo:=aW h4 sl
 have l4':=Hp.le_trans l4 lo
 have g5:=l4' _ _ f5
 have g7:=l4' _ _ f7
 have g16:=lo _ _ f16
 refine⟨_,_,_,_,_,_,_,_,rfl,?_⟩
 repeat' (refine aD ?_)
 refine nH ⟨_,rfl,rfl,?_⟩
 by_cases hlt:q<di ⟨i,w⟩-v.length
 ·refine aN (by simp;omega) ?_
  repeat' (refine aD ?_)
  obtain⟨b,o,ha,hc,hln⟩:=((hs.mono l03).mono l4').elt (i:=0) h0
  refine⟨b,o,ha,by omega,by omega,_,hc,?_⟩
  have x16:=cf g16
  refine aj fun b48 h5 hb48 l5 f48=>?_
  (((with_reducible apply mV);(assumption);(assumption)))
  have l5o:=bA sl l5
  refine dF (hbuf.mono l5) (by omega) (by omega) (by omega) ⟨b48,0,rfl,aw f48⟩ (by simp) rfl ?_
  intro s' h6 hs'n hbuf' l6 _
  have l46:=Hp.le_trans l5o l6
  (with_reducible apply xe);(exact l46 _ _ f16);(exact Hp.le_trans l4 l46);(exact b16n);(exact Nat.le_refl 1)
  intro h7 e16 kp l7 hbk
  refine hnx hlt _ _ ⟨s',rfl,l7,e16,by omega,hbk _ _ ?_⟩
  rw [<-Ss];exact hbuf'
 ·have hqe:q=di ⟨i,w⟩-v.length:=by omega
  subst hqe
  refine aC (by simp;omega) ?_
  repeat' (refine aD ?_)
  have f9o:(h4.offS sl) b9=some (.inl ⟨[.slice none 0 0],1,false⟩):=l4 _ _ f9
  (with_reducible apply xe);(exact f9o);(exact Hp.le_trans l03 l4);(exact b9n);(exact Nat.le_refl 1)
  intro h7 e9 kp l7 hbk
  have e9':=aW _ _ _ _ e9
  refine⟨sl,by rw [ax e9'];rfl,k sl h7 (Hp.le_trans l7 (aW _ _)) ((hbk _ _ hbuf).slc_of (by omega))⟩
theorem GY {h:Hp} {s:Sl} {v:List Nat} {c:Nat} {R:Value->Hp->Prop} (hs:IntS h s (VL v)) (h0:0<v.length) (hl:v.length<=4) (hc4:c<=4)
  (k: ∀t h',h.le h'->IntS h' t (VL (kH c v))->R (.agg #[Sl.v t]) h'):rO #[.agg #[s.v],I c] h R:=by
 apply Mv
 refine uf_ ?_
 refine aj fun b7 h2 hb7 l2 f7=>?_
 refine aj fun b9 h3 hb9 l3 f9=>?_
 have n79:=fresh_ne hb9 f7
 have b9n:=aF l2 hb9
 replace f7:=l3 _ _ f7
 have l03:=Hp.le_trans l2 l3
 (refine aD ?_)
 refine pQ (hs.mono l03) (by rw [aX];omega) fun c0 h4 l4 hb4=>⟨c0,rfl,?_⟩
 have l4o:=hb4.sub_le l4
 have hb4':=hb4.sub_buf
 refine aj fun b16 h5 hb16 l5 f16'=>?_
 have b16n:=aF l4 hb16
 have l5o:=Hp.le_trans l4o (bA c0 l5)
 have f16o:=hb4'.offS_new hb16 f16'
 (with_reducible apply xe);(exact f16o);(exact l5o);(exact b16n);(exact Nat.le_refl 1)
 intro h6 f16 kp l6 hbk
 have hbuf:=hbk _ _ (hb4'.mono l5)
 have hcn:=hbuf.1
 rw [List.length_map,aX]at hcn
 refine au (c-v.length) (fun q vs h'=> ∃sl:Sl,vs= [I c, .pointer (some ⟨b7,0,none⟩), .pointer (some ⟨b9,0,none⟩), .pointer (some ⟨b16,0,none⟩)]/\h3.le (h'.offS sl)/\
  (h'.offS sl) b16=some (.inl ⟨[sl.v],1,false⟩)/\sl.n=v.length+q/\Buf h' sl 1 ((VL (v++List.replicate q (v.getD 0 0))).map I)) ⟨c0,rfl,l6,f16,by omega,by simpa using hbuf⟩ ?_
 clear hbuf hbk kp l6 f16 f16o l5o f16' l5 hb16 hb4' l4o hb4 l4 hcn h4 h5 h6
 rintro q _ h4 next hq ⟨sl,rfl,l4,f16,hsl,hbuf⟩ hnx
 have lo:=aW h4 sl
 have l4':=Hp.le_trans l4 lo
 have g7:=l4' _ _ f7
 have g16:=lo _ _ f16
 refine⟨_,_,_,_,_,_,_,rfl,?_⟩
 (refine aD ?_)
 by_cases hlt:q<c-v.length
 ·refine aN (by simp;omega) ?_
  repeat' (refine aD ?_)
  obtain⟨b,o,ha,hc,hln⟩:=((hs.mono l03).mono l4').elt (i:=0) h0
  refine⟨b,o,ha,by omega,by omega,_,hc,?_⟩
  have x16:=cf g16
  refine aj fun b48 h5 hb48 l5 f48=>?_
  (((with_reducible apply mV);(assumption);(assumption)))
  have l5o:=bA sl l5
  refine dF (hbuf.mono l5) (by omega) (by omega) (by omega) ⟨b48,0,rfl,aw f48⟩ (by simp) rfl ?_
  intro s' h6 hs'n hbuf' l6 _
  have l46:=Hp.le_trans l5o l6
  (with_reducible apply xe);(exact l46 _ _ f16);(exact Hp.le_trans l4 l46);(exact b16n);(exact Nat.le_refl 1)
  intro h7 e16 kp l7 hbk
  refine hnx hlt _ _ ⟨s',rfl,l7,e16,by omega,hbk _ _ ?_⟩
  rw [<-Ss];exact hbuf'
 ·have hqe:q=c-v.length:=by omega
  subst hqe
  refine aC (by simp;omega) ?_
  repeat' (refine aD ?_)
  have f9o:(h4.offS sl) b9=some (.inl ⟨[.slice none 0 0],1,false⟩):=l4 _ _ f9
  (with_reducible apply xe);(exact f9o);(exact Hp.le_trans l03 l4);(exact b9n);(exact Nat.le_refl 1)
  intro h7 e9 kp l7 hbk
  have e9':=aW _ _ _ _ e9
  refine⟨sl,by rw [ax e9'];rfl,k sl h7 (Hp.le_trans l7 (aW _ _)) ((hbk _ _ hbuf).slc_of (by omega))⟩
def Dq (m:ah) (v:List (List Nat)) (j p:Nat):List Nat:=((bO (m.nexts.take j) p).map fun k=>v.getD k []).getD (List.replicate (aE m.nodes p) 0)
theorem SE (m:ah) (v:List (List Nat)) (p:Nat):Dq m v m.nexts.length p=(gm m v p).getD (List.replicate (aE m.nodes p) 0):=by
 unfold Dq gm;rw [List.take_length]
theorem YJ {m:ah} (g:cr m) (v:List (List Nat)) {j:Nat} {b:BindP} (hb:m.nexts[j]?=some b) (p:Nat):Dq m v (j+1) p=if b.state=(p:Int)then v.getD b.node.toNat []else Dq m v j p:=by
 unfold Dq
 rw [LL (kS g.twice).2.2 hb]
 split<;>rfl
theorem aeH {m:ah} (g:cr m) {v:List (List Nat)} (a:Fq m v) {j p:Nat}:(Dq m v j p).length<=4:=by
 unfold Dq
 cases hb:bO (m.nexts.take j) p with
 |none=>simp only [Option.map_none,Option.getD_none,List.length_replicate];exact dj _ _
 |some k=>
  simp only [Option.map_some,Option.getD_some]
  obtain⟨b,hm,_,rfl⟩:=dW hb
  have hp:=eG.1 (dC (g.nex b (List.mem_of_mem_take hm))).2.1
  have:=pW g.ok (show b.node.toNat<m.nodes.length by omega) (a.fit b.node.toNat (by omega) (by omega))
  rw [this.1];exact dj _ _
theorem JW (m:ah) (v:List (List Nat)) {i p:Nat} (h:(stP m)[i]?=some p):(eh m v).getD i []=Dq m v m.nexts.length p:=by
 rw [SE]
 unfold eh mu
 rw [List.getD_eq_getElem?_getD,List.getElem?_map,h];rfl
theorem fW {m:ah} (g:cr m) (kind:Int):(av m.nodes kind).length<=1048576:=by have:=dU m.nodes kind;have:=g.nl;omega
theorem G4 {h:Hp} {M:MSl} {m:ah} {s:Sl} {v:List (List Nat)} {R:Value->Hp->Prop} (hs:aO h M m) (hm:bU m) (g:cr m) (hpv:gQ h s v) (a:Fq m v)
  (k: ∀out h',h.le h'->IntSS h' out ((eh m v).map VL)->R (Sl.v out) h'):ke #[aQ M,s.v] h R:=by
 apply B4
 refine uf_ ?_
 have hp36:(stP m).length<=m.nodes.length:=dU m.nodes 36
 have hnl:=g.nl
 have hxl:=g.xl
 have hxn:=hs.nexts.len
 refine aj fun b8 h1 hb8 l1 f8=>?_
 repeat' (refine aD ?_)
 refine dk (hs.mono l1) hm fun pt h2 l2 hp=>⟨pt,rfl,?_⟩
 replace f8:=l2 _ _ f8
 have l02:=Hp.le_trans l1 l2
 repeat' (refine aD ?_)
 refine mT (hs.mono l02) hm hp (bR g 36) (fW g 36) fun out ts h3 c1 hon=>⟨out,rfl,?_⟩
 have hpn:pt.n=(stP m).length:=by have:=hp.len;rw [aX]at this;exact this
 have f83:=aW _ _ _ _ (c1.le _ _ f8)
 (refine aD ?_)
 have hs2:=hs.mono l02
 have hpv2:=hpv.mono l02
 refine au m.nexts.length (fun j vs h'=> ∃ts:List Sl,vs= [s.v,pt.v,out.v,M.nex.v,I M.nex.n,I j]/\h2.le (h'.offS out)/\Buf h' out 1 (ts.map Sl.v)/\ts.length=(stP m).length/\
  ∀(i p:Nat) (t:Sl),(stP m)[i]?=some p->ts[i]?=some t->IntS (h'.offS out) t (VL (Dq m v j p))) ⟨ts,rfl,c1.le,c1.buf,by rw [c1.len,fq],fun i p t hp ht=>?_⟩ ?_
 ·obtain⟨b,e1,e2,e3⟩:=c1.row i t ht
  have hz:(cy m.nodes (stP m)).getD i []=Dq m v 0 p:=by
   unfold cy Dq
   rw [List.getD_eq_getElem?_getD,List.getElem?_map,hp];rfl
  rw [hz]at e1 e3
  rw [e1]
  have:=aeH g a (j:=0) (p:=p)
  exact⟨by dsimp only;omega,by simp [aX], .inr ⟨b,0,rfl,aw e3⟩⟩
 clear c1 f83 ts h3
 rintro j _ h3 next hj ⟨ts,rfl,l3,hbuf,htl,hts⟩ hnx
 have lo:=aW h3 out
 have l23:=Hp.le_trans l3 lo
 refine⟨s,pt,out,M.nex,_,_,rfl,?_⟩
 by_cases hlt:j<m.nexts.length
 rotate_left
 ·have hje:j=m.nexts.length:=by omega
  subst hje
  refine aC (by simp;omega) (k out h3 (Hp.le_trans l02 l23) ⟨ts,by unfold eh mu;rw [List.length_map,List.length_map];exact htl,hbuf.slc_of (by rw [hon];have:=fW g 36;omega),fun i h1 h2=>?_⟩)
  have hi:i<(stP m).length:=by omega
  have hpi:(stP m)[i]?=some (stP m)[i]:=List.getElem?_eq_getElem hi
  have:=(hts i _ _ hpi (List.getElem?_eq_getElem h1)).mono lo
  rw [<-JW m v hpi]at this
  rw [List.getElem_map]
  rwa [List.getD_eq_getElem?_getD,List.getElem?_eq_getElem (by unfold eh mu;simp;exact hi)]at this
 refine aN (by simp;omega) ?_
 obtain⟨bd,hbd⟩: ∃bd,m.nexts[j]?=some bd:=⟨_,List.getElem?_eq_getElem hlt⟩
 obtain⟨q1,q2,q3,q4⟩:=dC (g.nex bd (List.mem_of_getElem? hbd))
 have q2':=eG.1 q2
 obtain⟨bx,ox,hax,cx1,cx2⟩:=(hs2.mono l23).nexts.at hbd
 refine⟨bx,ox,hax,by omega,by omega,_,cx1,_,cx2,?_⟩
 refine aj fun b48 h4 hb48 l4 f48'=>?_
 (with_reducible apply cB);(exact f48');(exact l4);(exact hb48);(exact Nat.le_refl 2)
 intro h5 f48 kp l5
 have l5o:=bA out l5
 have f48o:=hbuf.offS_new hb48 f48
 clear f48' kp l4
 refine au (stP m).length (fun q vs h'=> ∃ts:List Sl,vs= [s.v,pt.v,out.v, .pointer (some ⟨b48,0,none⟩),M.nex.v,I M.nex.n,I j,pt.v,I pt.n,I q]/\h2.le (h'.offS out)/\(h'.offS out) b48=some (.inl ⟨[I bd.state,I bd.node],2,false⟩)/\Buf h' out 1 (ts.map Sl.v)/\ts.length=(stP m).length/\
  ∀(i p:Nat) (t:Sl),(stP m)[i]?=some p->ts[i]?=some t->IntS (h'.offS out) t (VL (if i<q then Dq m v (j+1) p else Dq m v j p)))
  ⟨ts,rfl,Hp.le_trans l3 l5o,f48o,hbuf.mono l5,htl,fun i p t hp ht=>by rw [if_neg (by omega)];exact(hts i p t hp ht).mono l5o⟩ ?_
 clear f48o l5o l5 f48 hb48 hbuf htl hts ts l23 lo l3 hax cx1 cx2 h3 h4 h5
 rintro q _ h3 next2 hq ⟨ts,rfl,l3,f48,hbuf,htl,hts⟩ hnx2
 have lo:=aW h3 out
 have l23:=Hp.le_trans l3 lo
 have g48:=lo _ _ f48
 refine⟨s,pt,out,_,_,_,_,_,pt,_,_,rfl,?_⟩
 by_cases hlq:q<(stP m).length
 rotate_left
 ·refine aC (by simp;omega) ?_
  rw [ay (by omega)]
  refine hnx hlt _ _ ⟨ts,rfl,l3,hbuf,htl,fun i p t hp ht=>?_⟩
  have:=hts i p t hp ht
  rwa [if_pos (by have:=get_lt hp;omega)]at this
 refine aN (by simp;omega) ?_
 obtain⟨p,hpq⟩: ∃p,(stP m)[q]?=some p:=⟨_,List.getElem?_eq_getElem hlq⟩
 obtain⟨bp,op,hap,hcp⟩:=(hp.mono l23).get (ic hpq)
 refine ar (fun J=> ∀(ts':List Sl) (h':Hp),h2.le (h'.offS out)->(h'.offS out) b48=some (.inl ⟨[I bd.state,I bd.node],2,false⟩)->Buf h' out 1 (ts'.map Sl.v)->ts'.length=(stP m).length->
  (∀(i p:Nat) (t:Sl),(stP m)[i]?=some p->ts'[i]?=some t->IntS (h'.offS out) t (VL (if i<q+1 then Dq m v (j+1) p else Dq m v j p)))->J h') ?_ (fun J hJ=>?_)
 ·intro ts' h' a1 a2 a3 a4 a5
  rw [ay (by omega)]
  exact hnx2 hlq _ _ ⟨ts',rfl,a1,a2,a3,a4,a5⟩
 refine⟨bp,op,hap,by omega,by omega,_,hcp,?_⟩
 (refine aD ?_)
 have hst:=YJ g v hbd p
 refine ad (fun e=>?_) (fun e=>?_)
 ·rw [if_pos (bW e).symm]at hst
  (refine aD ?_)
  obtain⟨bv,ov,t,hav,hvn,hcv,ht⟩:=(hpv2.mono l23).at q2'.1 (by rw [a.len];exact q2'.2)
  refine⟨bv,ov,hav,q2'.1,hvn,t,hcv,?_⟩
  refine hbuf.wr (x:=t) (by omega) fun h4 hbuf' ho=>?_
  refine hJ _ h4 (by rw [ho];exact l3) (by rw [ho];exact f48) hbuf' (by rw [List.length_set];exact htl) fun i p' u hp' hu=>?_
  rw [ho]
  by_cases hiq:i=q
  ·subst hiq
   rw [hpq]at hp';cases hp'
   rw [List.getElem?_set_self (by omega)]at hu
   obtain rfl:=Option.some.inj hu
   rw [if_pos (by omega),hst]
   obtain⟨bv',ov',t',hav',_,hcv',ht'⟩:=(hpv2.mono l3).at q2'.1 (by rw [a.len];exact q2'.2)
   rw [hav]at hav';cases hav'
   have:=lo.cell hcv'
   rw [hcv]at this
   have htt:t=t':=by
    rcases t with ⟨ta,tn,tc⟩;rcases t' with ⟨ta',tn',tc'⟩
    simpa using this
   rw [htt];exact ht'
  ·rw [List.getElem?_set_ne (fun e=>hiq e.symm)]at hu
   have:=hts i p' u hp' hu
   by_cases h1:i<q
   ·rw [if_pos h1]at this;rw [if_pos (by omega)];exact this
   ·rw [if_neg h1]at this;rw [if_neg (by omega)];exact this
 ·rw [if_neg (fun e'=>bz e e'.symm)]at hst
  refine hJ ts h3 l3 f48 hbuf htl fun i p' u hp' hu=>?_
  have:=hts i p' u hp' hu
  by_cases hiq:i=q
  ·subst hiq
   rw [hpq]at hp';cases hp'
   rw [if_neg (by omega)]at this
   rw [if_pos (by omega),hst];exact this
  ·by_cases h1:i<q
   ·rw [if_pos h1]at this;rw [if_pos (by omega)];exact this
   ·rw [if_neg h1]at this;rw [if_neg (by omega)];exact this
theorem Kc {m:ah} (g:cr m) {p k:Nat} (h:bO m.nexts p=some k):k<m.nodes.length:=by
 obtain⟨b,hb,_,rfl⟩:=dW h
 have:=eG.1 (dC (g.nex b hb)).2.1
 omega
def mQ (m:ah) (s i:Nat):Nat:=dX m.nodes (stP m) (eh m (bL m s i))
theorem jK {m:ah} (kind:Int) (code:Nat) (g:cr m):my m.nodes kind (dM m.nodes (av m.nodes kind) code):=Il g.ok kind code
theorem vX {h:Hp} {M:MSl} {m:ah} {st inp:Nat} {R:Value->Hp->Prop} (hs:aO h M m) (hm:bU m) (g:cr m) (h1:st<=1048576) (h2:inp<=1048576)
  (k:R (I (mQ m st inp)) h):oR #[aQ M,I st,I inp] h R:=by
 refine ACalls.drop (Mq ?_)
 refine uf_ ?_
 have hp36:(stP m).length<=m.nodes.length:=dU m.nodes 36
 have hp35:(inP m).length<=m.nodes.length:=dU m.nodes 35
 have hnl:=g.nl
 have hn8:=g.n8
 have hk5:=g.k5
 have hxl:=g.xl
 refine aj fun b9 g1 hb9 l1 f9=>?_
 have x9:=cf f9
 repeat' (refine aD ?_)
 refine cJ (hs.mono l1) hm fun p1 g2 l2 i1=>⟨p1,rfl,?_⟩
 have f92:=l2 _ _ f9
 have x92:=cf f92
 repeat' (refine aD ?_)
 have l02:=Hp.le_trans l1 l2
 refine fI (hs.mono l02) hm g.ok i1 (bR g 36) (fW g 36) h1 (by rw [eK g];omega) fun u1 g3 l3 hu1=>⟨u1,rfl,?_⟩
 repeat' (((with_reducible apply mV);(assumption);(assumption)))
 have l03:=Hp.le_trans l02 l3
 refine cJ (hs.mono l03) hm fun p2 g4 l4 i2=>⟨p2,rfl,?_⟩
 have l24:=Hp.le_trans l3 l4
 repeat' (((with_reducible apply mV);(assumption);(assumption)))
 have l04:=Hp.le_trans l03 l4
 refine fI (hs.mono l04) hm g.ok i2 (bR g 35) (fW g 35) h2 (by rw [wK g];omega) fun u2 g5 l5 hu2=>⟨u2,rfl,?_⟩
 have l25:=Hp.le_trans l24 l5
 (((with_reducible apply mV);(assumption);(assumption)))
 have l05:=Hp.le_trans l04 l5
 refine pw (hs.mono l05) hm g.ok g.nl (hu1.mono (Hp.le_trans l4 l5)) (jK 36 st g) hu2 (jK 35 inp g) fun vt g6 l6 hvn hpv _=>⟨vt,rfl,?_⟩
 have a:Fq m (bL m st inp):=dq g st inp
 have hpv':gQ g6 vt (bL m st inp):=hpv
 have hbn: ∀b∈m.nexts,0<=b.node:=fun b hb=>(eG.1 (dC (g.nex b hb)).2.1).1
 have l06:=Hp.le_trans l05 l6
 have f96:=l6 _ _ (l25 _ _ f92)
 have i16:=i1.mono (Hp.le_trans l25 l6)
 have hpn:p1.n=(stP m).length:=by have:=i1.len;rw [aX]at this;exact this
 unfold mQ at k
 generalize bL m st inp=v at*
 have hs6:=hs.mono l06
 refine au (stP m).length (fun i vs h'=> ∃(ts:List Sl) (out:Sl),vs= [.pointer (some ⟨b9,0,none⟩),p1.v,vt.v,out.v,I i]/\g6.le (h'.offS out)/\out.n=i/\ts.length=i/\Buf h' out 1 (ts.map Sl.v)/\
  (∀(j:Nat) (t:Sl),ts[j]?=some t->IntS (h'.offS out) t (VL ((eh m v).getD j [])))) ⟨[],⟨none,0,0⟩,rfl,Hp.le_refl _,rfl,rfl,fu _ _,fun j t ht=>by simp at ht⟩ ?_
 rintro i _ h3 next hi ⟨ts,out,rfl,l3',hon,htl,hbuf,hts⟩ hnx
 have lo:=aW h3 out
 have l63:=Hp.le_trans l3' lo
 have f93:=l63 _ _ f96
 refine⟨_,_,p1,vt,out,_,rfl,?_⟩
 by_cases hlt:i<(stP m).length
 rotate_left
 ·have hie:i=(stP m).length:=by omega
  subst hie
  refine aC (by simp;omega) ?_
  repeat' (refine aD ?_)
  have hfl:(eh m v).length=(stP m).length:=by unfold eh mu;simp
  have iss:IntSS h3 out ((eh m v).map VL):=⟨ts,by simp;omega,hbuf.slc_of (by omega),fun j h1 h2=>by
   have:=(hts j _ (List.getElem?_eq_getElem h1)).mono lo
   rw [List.getElem_map]
   rwa [List.getD_eq_getElem?_getD,List.getElem?_eq_getElem (by rw [hfl];omega)]at this⟩
  exact pN (hs6.mono l63) hm g.ok (i16.mono l63) (bR g 36) (fW g 36) iss (jD g a.fit) (by rw [eK g];omega) ⟨_,rfl,_,Hp.le_trans l06 l63,k⟩
 refine aN (by simp;omega) ?_
 obtain⟨p,hpi⟩: ∃p,(stP m)[i]?=some p:=⟨_,List.getElem?_eq_getElem hlt⟩
 have hpm:=bR g 36 p (List.mem_of_getElem? hpi)
 obtain⟨bp,op,hap,hcp⟩:=(i16.mono l63).get (ic hpi)
 refine⟨bp,op,hap,by omega,by omega,?_⟩
 (refine aD ?_)
 refine⟨_,hcp,?_⟩
 refine lm (hs6.mono l63).nexts (by omega) hbn ⟨_,rfl,?_⟩
 have hfg:=JW m v hpi
 rw [SE]at hfg
 have app: ∀(t:Sl) (h4:Hp),h3.le h4->IntS h4 t (VL ((eh m v).getD i []))-> ∀(b:Nat),h4 b=none->cL (h4.row b [t.v] 1) fun h5=>cx h5 out.a out.n out.c (some ⟨b,0,none⟩) 1 1 24 fun a n k h6=>next [.pointer (some ⟨b9,0,none⟩),p1.v,vt.v, .slice a n k,I (W ((i:Int)+1))] h6:=by
  intro t h4 l4' ht
  refine aj fun b h5 hb l5' f5=>?_
  have l35:=Hp.le_trans l4' l5'
  have l35o:=bA out l35
  refine dF (hbuf.mono l35) (by omega) (by omega) (by omega) ⟨b,0,rfl,aw f5⟩ (by simp) rfl ?_
  intro s' h6 hs'n hbuf' l6' _
  rw [ay (by omega)]
  have l36:=Hp.le_trans l35o l6'
  have hbuf'':Buf h6 s' 1 ((ts++ [t]).map Sl.v):=by rw [List.map_append];exact hbuf'
  refine hnx hlt _ _ ⟨ts++ [t],s',rfl,Hp.le_trans l3' l36,by omega,by simp;omega,hbuf'',fun j u hu=>?_⟩
  by_cases hj:j<i
  ·rw [List.getElem?_append_left (by omega)]at hu
   exact(hts j u hu).mono l36
  ·have hju:=get_lt hu
   simp at hju
   have hje:j=i:=by omega
   subst hje
   rw [List.getElem?_append_right (by omega),htl,Nat.sub_self]at hu
   simp at hu;subst hu
   exact((ht.mono l5').offL (hbuf.mono l35)).mono l6'
 cases hbo:bO m.nexts p with
 |some q=>
  rw [show gX m.nexts p=(q:Int)from by unfold gX;rw [hbo]]
  refine aN (by simp) ?_
  have hqn:=Kc g hbo
  obtain⟨bv,ov,t,hav,hvn',hcv,ht⟩:=(hpv'.mono l63).at (p:=(q:Int)) (by omega) (by rw [a.len];omega)
  refine⟨bv,ov,hav,by omega,hvn',t,hcv,?_⟩
  refine app t h3 (Hp.le_refl _) ?_
  rw [hfg]
  unfold gm
  rw [hbo]
  simpa using ht
 |none=>
  rw [show gX m.nexts p= -1 from by unfold gX;rw [hbo]]
  refine aC (by simp) ?_
  refine⟨bp,op,hap,by omega,by omega,?_⟩
  (refine aD ?_)
  refine⟨_,hcp,?_⟩
  obtain⟨bn,on,han,hpn',c6,c7,w1,w16⟩:=(hs6.mono l63).nodes.sortc2 hpm g.ok
  refine⟨bn,on,han,by omega,hpn',_,c6,_,c7,?_⟩
  refine gy ⟨_,rfl,?_⟩
  rw [nY g.ok hpm]
  have hc4:=dj m.nodes p
  refine⟨by omega,by omega,by omega,by omega,?_⟩
  refine aj fun b33 h4 hb33 l4' f33=>?_
  rw [Int.toNat_natCast,Nat.mul_one,cD]at f33
  refine app ⟨some ⟨b33,0,none⟩,aE m.nodes p,aE m.nodes p⟩ h4 l4' ?_
  rw [hfg]
  unfold gm
  rw [hbo]
  simp only [Option.map_none,Option.getD_none]
  refine⟨by dsimp only;omega,by simp [aX], .inr ⟨b33,0,rfl,?_⟩⟩
  have hc:(VL (List.replicate (aE m.nodes p) 0)).map I=List.replicate (aE m.nodes p) (I 0):=by simp [VL]
  rw [hc];exact aw f33
structure Kn (g h:Hp) (L:List (Nat×Blk)):Prop where
 le:g.le h
 mem: ∀e∈L,h e.1=some e.2
 new: ∀e∈L,g e.1=none
 nd:(L.map Prod.fst).Nodup
inductive Upd :List (Nat×Blk)->Nat->Blk->Blk->List (Nat×Blk)->Prop
 |head {L:List (Nat×Blk)} {b:Nat} {x y:Blk}:Upd ((b,x)::L) b x y ((b,y)::L)
 |tail {L L':List (Nat×Blk)} {b:Nat} {x y:Blk} {e:Nat×Blk}:Upd L b x y L'->Upd (e::L) b x y (e::L')
theorem Kn.nil (h:Hp):Kn h h []:=⟨Hp.le_refl _,fun e h=>(by simp at h),fun e h=>(by simp at h),List.nodup_nil⟩
theorem Kn.of {g h:Hp} (l:g.le h):Kn g h []:=⟨l,fun e h=>(by simp at h),fun e h=>(by simp at h),List.nodup_nil⟩
section
variable {g h h':Hp} {L L':List (Nat×Blk)}
theorem Kn.at (K:Kn g h L) {b:Nat} {x:Blk} (e:(b,x)∈L):h b=some x:=K.mem _ e
theorem Kn.mono (K:Kn g h L) (l:h.le h'):Kn g h' L:=⟨Hp.le_trans K.le l,fun e he=>l _ _ (K.mem e he),K.new,K.nd⟩
theorem Kn.cons (K:Kn g h L) {b:Nat} {x:Blk} (hb:h b=none) (l:h.le h') (f:h' b=some x):Kn g h' ((b,x)::L):=by
 refine⟨Hp.le_trans K.le l,fun e he=>?_,fun e he=>?_,?_⟩
 ·rcases List.mem_cons.1 he with rfl|he
  ·exact f
  ·exact l _ _ (K.mem e he)
 ·rcases List.mem_cons.1 he with rfl|he
  ·exact aF K.le hb
  ·exact K.new e he
 ·rw [List.map_cons,List.nodup_cons]
  refine⟨fun hm=>?_,K.nd⟩
  obtain⟨e,he,heb⟩:=List.mem_map.1 hm
  have:=K.mem e he
  rw [show e.1=b from heb,hb]at this;cases this
theorem Kn.al (K:Kn g h L) {cs:Nat->List Value} {n:Nat->Nat} {P:Nat->Hp->Prop} (k: ∀b h',Kn g h' ((b, .inl ⟨cs b,n b,false⟩)::L)->h.le h'->h b=none->P b h'):
  ∀b,h b=none->cL (h.row b (cs b) (n b)) fun h'=>P b h':=
 fun b hb=>k b _ (K.cons hb (gk _ _ hb) (bT _ _ _ _)) (gk _ _ hb) hb
theorem Upd.mem {b:Nat} {x y:Blk} (u:Upd L b x y L'):(b,x)∈L:=by
 induction u with
 |head=>exact .head _
 |tail _ ih=>exact .tail _ ih
theorem Upd.keys {b:Nat} {x y:Blk} (u:Upd L b x y L'):L'.map Prod.fst=L.map Prod.fst:=by
 induction u with
 |head=>rfl
 |tail _ ih=>rw [List.map_cons,List.map_cons,ih]
theorem Upd.out {b:Nat} {x y:Blk} (u:Upd L b x y L') (nd:(L.map Prod.fst).Nodup): ∀e∈L',e=(b,y)\/(e∈L/\e.1≠b):=by
 induction u with
 |head=>
  intro e he
  rcases List.mem_cons.1 he with rfl|he
  ·exact .inl rfl
  ·rw [List.map_cons,List.nodup_cons]at nd
   exact .inr ⟨.tail _ he,fun eb=>nd.1 (List.mem_map.2 ⟨e,he,eb⟩)⟩
 |tail u ih=>
  rename_i L L' b x y e0
  rw [List.map_cons,List.nodup_cons]at nd
  intro e he
  rcases List.mem_cons.1 he with rfl|he
  ·exact .inr ⟨.head _,fun eb=>nd.1 (List.mem_map.2 ⟨_,u.mem,eb.symm⟩)⟩
  ·rcases ih nd.2 e he with h|⟨h1,h2⟩
   ·exact .inl h
   ·exact .inr ⟨.tail _ h1,h2⟩
theorem Kn.set (K:Kn g h L) {b z z':Nat} {cs cs':List Value} {ro:Bool} (u:Upd L b (.inl ⟨cs,z,ro⟩) (.inl ⟨cs',z',false⟩) L'):Kn g (h.row b cs' z') L':=by
 have hb:=K.new _ u.mem
 refine⟨ew _ _ hb K.le,fun e he=>?_,fun e he=>?_,by rw [u.keys];exact K.nd⟩
 ·rcases u.out K.nd e he with rfl|⟨h1,h2⟩
  ·exact bT _ _ _ _
  ·rw [ck _ _ h2];exact K.mem e h1
 ·rcases u.out K.nd e he with rfl|⟨h1,h2⟩
  ·exact hb
  ·exact K.new e h1
theorem Kn.wr (K:Kn g h L) {b z o m:Nat} {cs vs:List Value} {P:Hp->Prop} (u:Upd L b (.inl ⟨cs,z,false⟩) (.inl ⟨ce cs o vs,z,false⟩) L') (hl:m<=cs.length)
  (k: ∀h',Kn g h' L'->(∀c,c≠b->h' c=h c)->P h'):
  ∃(cs':List Value) (z':Nat),h b=some (.inl ⟨cs',z',false⟩)/\m<=List.length cs'/\cL (h.row b (ce cs' o vs) z') fun h'=>P h':=
 ⟨cs,z,K.at u.mem,hl,k _ (K.set u) fun c hc=>ck _ _ hc⟩
theorem Kn.base (K:Kn g h L):Kn (h.wo (L.map Prod.fst)) h L:=⟨tW _ _,K.mem,fun e he=>fN (List.mem_map.2 ⟨e,he,rfl⟩),K.nd⟩
theorem Kn.leBase (K:Kn g h L):g.le (h.wo (L.map Prod.fst)):=uP K.le fun b hb=>by
 obtain⟨e,he,rfl⟩:=List.mem_map.1 hb
 exact K.new e he
theorem Kn.has (K:Kn g h L): ∀b∈L.map Prod.fst,h b≠none:=fun b hb=>by
 obtain⟨e,he,rfl⟩:=List.mem_map.1 hb
 rw [K.mem e he];simp
theorem Kn.eq {g':Hp} (K':Kn g' h' L') (K:Kn g h L) {b:Nat} {x:Blk} {P:Prop} (e':(b,x)∈L') (e:(b,x)∈L) (k:P):h' b=h b/\P:=⟨by rw [K'.at e',K.at e],k⟩
theorem Kn.eqg (K':Kn g h' L') (K:Kn g h L) {b:Nat} {P:Prop} (e:g b≠none) (k:P):h' b=h b/\P:=by
 refine⟨?_,k⟩
 cases hb:g b with
 |none=>exact absurd hb e
 |some x=>rw [K'.le _ _ hb,K.le _ _ hb]
theorem Kn.sub (K:Kn g h L) (m: ∀e∈L',e∈L) (nd:(L'.map Prod.fst).Nodup):Kn g h L':=⟨K.le,fun e he=>K.mem e (m e he),fun e he=>K.new e (m e he),nd⟩
end
theorem gL {b o:Nat} {P:Nat->Nat->Prop} (k:P b o): ∃b' o':Nat,some (Addr.mk b o none)=some (Addr.mk b' o' none)/\P b' o':=⟨b,o,rfl,k⟩
theorem Kn.rd {α:Type} {f:α->Value} {g h:Hp} {L:List (Nat×Blk)} (K:Kn g h L) {b z o:Nat} {cs:List Value} {ro:Bool} {x:α} {P:α->Prop} (e:(b, .inl ⟨cs,z,ro⟩)∈L) (c:cs[o]?=some (f x)) (k:P x): ∃y:α,Hp.cell h b o=some (f y)/\P y:=⟨x,by rw [ax (K.at e)];exact c,k⟩
theorem Kn.rg {α:Type} {f:α->Value} {g h:Hp} {L:List (Nat×Blk)} (K:Kn g h L) {b z o:Nat} {cs:List Value} {ro:Bool} {x:α} {P:α->Prop} (e:g b=some (.inl ⟨cs,z,ro⟩)) (c:cs[o]?=some (f x)) (k:P x): ∃y:α,Hp.cell h b o=some (f y)/\P y:=⟨x,by rw [ax (K.le _ _ e)];exact c,k⟩
theorem kr_ {P Q:Prop} (k:Q) (h:Q->P:=by(first
 |((with_reducible apply Kn.rd);(assumption);((focus ((repeat first|exact .head _|apply List.Mem.tail);done)));(exact rfl))
 |((with_reducible apply Kn.rg);(assumption);(assumption);(exact rfl))
 |with_reducible exact And.intro (Eq.refl _)
 |with_reducible exact And.intro True.intro
 |with_reducible exact gL
 |((with_reducible apply Kn.eq);(assumption);(assumption);((focus ((repeat first|exact .head _|apply List.Mem.tail);done)));((focus ((repeat first|exact .head _|apply List.Mem.tail);done))))
 |((with_reducible apply Kn.eqg);(assumption);(assumption);(assumption))
 |fail)):P:=h k
theorem kw_ {P Q:Prop} (k:Q) (h:Q->P:=by((with_reducible apply Kn.wr);(assumption);(((focus ((repeat first|exact .head|apply Upd.tail);done))));(exact of_decide_eq_true rfl))):P:=h k
def iL (k:Nat):List Nat:=(List.range (k+1)).filter fun c=>decide (c&&&k=c)
theorem Buf.subOf {h h':Hp} {s:Sl} {sz:Nat} {cs:List Value} (e:Buf h' s sz cs) (l:h.le (h'.offS s)):Buf (h'.sub h) s sz cs:=by
 refine⟨e.1,e.2.1,e.2.2.imp id ?_⟩
 rintro ⟨b,ha,hb⟩
 refine⟨b,ha,?_⟩
 have hoff:(h'.offS s) b=none:=by simp [Hp.offS,ha,Hp.off,Hp.set]
 have hn:h b=none:=by
  cases hx:h b with
  |none=>rfl
  |some x=>rw [l _ _ hx]at hoff;cases hoff
 rw [k8 hn];exact hb
theorem Buf.wo {h h':Hp} {t:Sl} {sz:Nat} {cs:List Value} {B:List Nat} (e:Buf h' t sz cs) (l:h.le (h'.offS t)) (hB: ∀b∈B,h b≠none):Buf (h'.wo B) t sz cs:=by
 refine⟨e.1,e.2.1,e.2.2.imp id ?_⟩
 rintro ⟨b,ha,hb⟩
 refine⟨b,ha,?_⟩
 rw [uW]
 ·exact hb
 ·intro hm
  have:=hB b hm
  cases hx:h b with
  |none=>exact this hx
  |some x=>
   have:=l _ _ hx
   simp [Hp.offS,ha,Hp.off,Hp.set]at this
theorem gQ.keep {h h':Hp} {s:Sl} {vs:List (List Nat)} {b z:Nat} {cs:List Value} {ro:Bool} (e:gQ h s vs) (f:h b=some (.inl ⟨cs,z,ro⟩)) (hn:xB cs) (hsl: ∀(j:Nat) (t:Sl),cs[j]?≠some t.v) (kp: ∀c,c≠b->h' c=h c):gQ h' s vs:=by
 refine⟨e.1,e.2.1,fun p hp=>?_⟩
 obtain⟨b',o,t,h1,h2,h3⟩:=e.2.2 p hp
 refine⟨b',o,t,h1,?_,h3.keepN f hn kp⟩
 have hne:b'≠b:=by
  rintro rfl
  rw [ax f]at h2
  exact hsl _ _ h2
 unfold Hp.cell at h2⊢
 rw [kp b' hne];exact h2
abbrev QS (M:MSl) (n k:Int) (st hold bad:Sl) (fixed:Int) (next:Sl) (bf ba:Int):List Value:= [M.no.v,M.ini.v,M.nex.v,M.bad.v,M.hol.v,I n,I k,st.v,hold.v,bad.v,I fixed,next.v,I bf,I ba]
abbrev arr (b n:Nat):Sl:=⟨some ⟨b,0,none⟩,n,n⟩
def Kg (h:Hp) (t:Sl) (n:Nat) (f:Nat->Nat):Prop:=IntS h t (VL ((List.range n).map f))
theorem Kg.mono {h h':Hp} {t:Sl} {n:Nat} {f:Nat->Nat} (l:h.le h') (e:Kg h t n f):Kg h' t n f:=SlC.mono l e
def Gp (h:Hp) (b:Nat) (σ:aL):Prop:= ∃(M:MSl) (st hold bad next:Sl),h b=some (.inl ⟨QS M σ.n σ.k st hold bad σ.fixed next σ.bfix σ.bas,14,false⟩)/\
 fg h hold (2^(σ.n+σ.k)) σ.hold/\fg h bad (2^(σ.n+σ.k)) σ.bad/\Kg h next (2^(σ.n+σ.k)) σ.next
theorem Gp.mono {h h':Hp} {b:Nat} {σ:aL} (l:h.le h') (e:Gp h b σ):Gp h' b σ:=by
 obtain⟨M,st,hold,bad,next,h1,h2,h3,h4⟩:=e
 exact⟨M,st,hold,bad,next,l _ _ h1,h2.mono l,h3.mono l,h4.mono l⟩
def Ce (m:ah) (j p:Nat):List Nat:=((bO (m.inits.take j) p).map fun k=>kH (aE m.nodes p) ((kC m).getD k [])).getD (List.replicate (aE m.nodes p) 0)
theorem aaS (m:ah) (p:Nat):Ce m m.inits.length p=(dZ m p).getD (List.replicate (aE m.nodes p) 0):=by
 unfold Ce dZ;rw [List.take_length]
theorem Fn {m:ah} (g:cr m) {j:Nat} {b:BindP} (hb:m.inits[j]?=some b) (p:Nat):Ce m (j+1) p=if b.state=(p:Int)then kH (aE m.nodes p) ((kC m).getD b.node.toNat [])else Ce m j p:=by
 unfold Ce
 rw [LL (kS g.twice).2.1 hb]
 split<;>rfl
theorem Ov (m:ah) {i p:Nat} (h:(stP m)[i]?=some p):(fG m).getD i []=Ce m m.inits.length p:=by
 rw [aaS]
 unfold fG mu
 rw [List.getD_eq_getElem?_getD,List.getElem?_map,h];rfl
theorem xD {m:ah} (g:cr m) {b:BindP} (hb:b∈m.inits):0<=b.node/\b.node<m.nodes.length/\0<((kC m).getD b.node.toNat []).length/\((kC m).getD b.node.toNat []).length<=4/\0<=b.state/\b.state<m.nodes.length:=by
 obtain⟨q1,q2,q3,q4,_⟩:=fR (g.ini b hb)
 have q2':=eG.1 q2
 have q1':=eG.1 q1
 have hf:=(xQ g).fit b.node.toNat (by omega) (by omega)
 have:=(pW g.ok (show b.node.toNat<m.nodes.length by omega) hf).1
 refine⟨q2'.1,q2'.2,hf.pos,?_,q1'.1,q1'.2⟩
 rw [this];exact dj _ _
theorem fg.get {h:Hp} {t:Sl} {n:Nat} {T:Nat->Bool} (e:fg h t n T) {i:Nat} (hi:i<n): ∃b o,t.a=some (Addr.mk b o none)/\(i:Int)<(t.n:Int)/\Hp.cell h b (o+Int.toNat (i:Int)*1)=some (.bool (T i)):=by
 have hl:=sD.len e
 rw [List.length_map,List.length_range]at hl
 obtain⟨b,o,ha,hc⟩:=SlC.get e (by omega)
 refine⟨b,o,ha,by omega,?_⟩
 rw [Int.toNat_natCast,Nat.mul_one]
 exact hc i _ (by simp [hi])
theorem fg.len {h:Hp} {t:Sl} {n:Nat} {T:Nat->Bool} (e:fg h t n T):t.n=n:=by
 have hl:=sD.len e
 rwa [List.length_map,List.length_range]at hl
theorem Kg.get {h:Hp} {t:Sl} {n:Nat} {f:Nat->Nat} (e:Kg h t n f) {i:Nat} (hi:i<n): ∃b o,t.a=some (Addr.mk b o none)/\(i:Int)<(t.n:Int)/\Hp.cell h b (o+Int.toNat (i:Int)*1)=some (I (f i:Nat)):=by
 have hl:=IntS.len e
 rw [aX,List.length_map,List.length_range]at hl
 obtain⟨b,o,ha,hc⟩:=SlC.get e (by omega)
 refine⟨b,o,ha,by omega,?_⟩
 rw [Int.toNat_natCast,Nat.mul_one]
 exact hc i _ (by simp [VL,hi])
theorem IntS.up {h h':Hp} {s:Sl} {xs:List Int} (e:IntS h s xs) (l:h.le h'):IntS h' s xs:=e.mono l
theorem IntSS.up {h h':Hp} {s:Sl} {xs:List (List Int)} (e:IntSS h s xs) (l:h.le h'):IntSS h' s xs:=e.mono l
theorem aO.up {h h':Hp} {M:MSl} {m:ah} (e:aO h M m) (l:h.le h'):aO h' M m:=e.mono l
section
variable {g h h':Hp} {L L' A B X:List (Nat×Blk)}
theorem Kn.app (K:Kn g h L) (l:h.le h') (n: ∀e∈X,h e.1=none) (f: ∀e∈X,h' e.1=some e.2) (nd:(X.map Prod.fst).Nodup):Kn g h' (L++X):=by
 refine⟨Hp.le_trans K.le l,fun e he=>?_,fun e he=>?_,?_⟩
 ·rcases List.mem_append.1 he with he|he
  ·exact l _ _ (K.mem e he)
  ·exact f e he
 ·rcases List.mem_append.1 he with he|he
  ·exact K.new e he
  ·exact aF K.le (n e he)
 ·rw [List.map_append,List.nodup_append]
  refine⟨K.nd,nd,fun a ha b hb hab=>?_⟩
  obtain⟨e,he,rfl⟩:=List.mem_map.1 ha
  obtain⟨e',he',rfl⟩:=List.mem_map.1 hb
  have h1:=K.mem e he
  have h2:=n e' he'
  rw [hab,h2]at h1;cases h1
theorem Kn.split (K:Kn g h (A++B)):Kn (h.wo (B.map Prod.fst)) h B/\Kn g (h.wo (B.map Prod.fst)) A:=by
 have nd:=K.nd
 rw [List.map_append,List.nodup_append]at nd
 refine⟨⟨tW _ _,fun e he=>K.mem e (List.mem_append_right _ he),fun e he=>fN (List.mem_map.2 ⟨e,he,rfl⟩),nd.2.1⟩,?_,fun e he=>?_,fun e he=>K.new e (List.mem_append_left _ he),nd.1⟩
 ·exact uP K.le fun b hb=>by
   obtain⟨e,he,rfl⟩:=List.mem_map.1 hb
   exact K.new e (List.mem_append_right _ he)
 ·rw [uW]
  ·exact K.mem e (List.mem_append_left _ he)
  ·intro hb
   exact nd.2.2 _ (List.mem_map.2 ⟨e,he,rfl⟩) _ hb rfl
theorem Kn.off (K:Kn g h L) {b:Nat} {x y:Blk} (u:Upd L b x y L') (l:(h.off b).le h') (f:h' b=some y):Kn g h' L':=by
 refine⟨?_,fun e he=>?_,fun e he=>?_,by rw [u.keys];exact K.nd⟩
 ·exact Hp.le_trans (zx (K.new (b,x) u.mem) K.le) l
 ·rcases u.out K.nd e he with rfl|⟨h1,h2⟩
  ·exact f
  ·refine l _ _ ?_
   simp only [Hp.off,Hp.set];rw [if_neg h2];exact K.mem e h1
 ·rcases u.out K.nd e he with rfl|⟨h1,h2⟩
  ·exact K.new (b,x) u.mem
  ·exact K.new e h1
def mf (X:List (Nat×Blk)) (s:Sl) (sz:Nat) (cs:List Value):Prop:=
 cs.length=s.n*sz/\s.n<=9223372036854775807/\((s.n=0/\X= [])\/(s.n≠0/\ ∃b z,s.a=some ⟨b,0,none⟩/\X= [(b, .inl ⟨cs,z,false⟩)]))
theorem Kn.addOwn {s:Sl} {sz:Nat} {cs:List Value} (K:Kn g h L) (l:h.le h') (o:Own (h'.sub h) s sz cs): ∃X,mf X s sz cs/\Kn g h' (L++X):=by
 by_cases h0:s.n=0
 ·exact⟨[],⟨o.1,o.2.1, .inl ⟨h0,rfl⟩⟩,by rw [List.append_nil];exact K.mono l⟩
 ·obtain⟨b,z,ha,hb⟩:=o.2.2.resolve_left h0
  have hn:h b=none:=lO (by rw [hb];simp)
  refine⟨_,⟨o.1,o.2.1, .inr ⟨h0,b,z,ha,rfl⟩⟩,K.app l (fun e he=>?_) (fun e he=>?_) (by simp)⟩
  ·rw [List.mem_singleton.1 he];exact hn
  ·rw [List.mem_singleton.1 he];exact sub_le _ _ _ _ hb
theorem mf.own {s:Sl} {sz:Nat} {cs:List Value} (o:mf X s sz cs) (K:Kn g h (L++X)):Own h s sz cs:=by
 refine⟨o.1,o.2.1,?_⟩
 rcases o.2.2 with ⟨h0,_⟩|⟨_,b,z,ha,rfl⟩
 ·exact .inl h0
 ·exact .inr ⟨b,z,ha,K.at (by simp)⟩
theorem mf.mark {s:Sl} {sz:Nat} {cs cs':List Value} (o:mf X s sz cs) (K:Kn g h (L++X)) (l:(h.wo s.used).le h') (o':Own h' s sz cs'): ∃X',mf X' s sz cs'/\Kn g h' (L++X'):=by
 rcases o.2.2 with ⟨h0,rfl⟩|⟨h0,b,z,ha,rfl⟩
 ·refine⟨[],⟨o'.1,o'.2.1, .inl ⟨h0,rfl⟩⟩,K.mono ?_⟩
  have:s.used= []:=by unfold Sl.used;rw [if_pos h0]
  rw [this]at l
  exact Hp.le_trans (uP (Hp.le_refl _) (fun b hb=>by simp at hb)) l
 ·obtain⟨b',z',ha',hb'⟩:=o'.2.2.resolve_left h0
  rw [ha]at ha';cases ha'
  refine⟨_,⟨o'.1,o'.2.1, .inr ⟨h0,b,z',ha,rfl⟩⟩,?_⟩
  have hu:s.used= [b]:=by unfold Sl.used Sl.blk;rw [if_neg h0,ha]
  rw [hu]at l
  have nd:=K.nd
  rw [List.map_append,List.nodup_append]at nd
  have hbn:g b=none:=K.new (b, .inl ⟨cs,z,false⟩) (List.mem_append_right _ (by simp))
  have hne: ∀e∈L,e.1≠b:=fun e he hb=>nd.2.2 _ (List.mem_map.2 ⟨e,he,rfl⟩) b (by simp) hb
  have hwo: ∀c,c≠b->(h.wo [b]) c=h c:=fun c hc=>uW (by simpa using hc)
  refine⟨?_,fun e he=>?_,fun e he=>?_,?_⟩
  ·exact Hp.le_trans (uP K.le fun c hc=>by rw [List.mem_singleton.1 hc];exact hbn) l
  ·rcases List.mem_append.1 he with he|he
   ·exact l _ _ (by rw [hwo _ (hne e he)];exact K.mem e (List.mem_append_left _ he))
   ·rw [List.mem_singleton.1 he];exact hb'
  ·rcases List.mem_append.1 he with he|he
   ·exact K.new e (List.mem_append_left _ he)
   ·rw [List.mem_singleton.1 he];exact hbn
  ·rw [List.map_append,List.nodup_append]
   exact⟨nd.1,by simp,fun a ha c hc=>nd.2.2 a ha c (by simpa using hc)⟩
end
theorem Q1 {h:Hp} {n:NodeP} {left:Int} {R:Value->Hp->Prop} (hsz:n.name.size<=9223372036854775807) (h0:0<=left) (h1:left<=1048576)
  (k: ∀r:Int,(r<0\/(0<=r/\r<=left/\n.name.size<=1048576))->R (I r) h):wM #[wu n,I left] h R:=by
 refine ACalls.drop (MB ?_)
 refine uf_ ?_
 refine aj fun b h2 hb l f=>?_
 (refine aD ?_)
 rw [bX (by omega) (by omega)]
 refine ad (fun e=>⟨_,l,k _ (.inl (by omega))⟩) (fun e=>⟨_,l,k _ (.inr ?_)⟩)
 have:=of_decide_eq_false e
 omega
theorem Qr {h:Hp} {s:Sl} {l:List NodeP} {left:Int} {R:Value->Hp->Prop} (hs:gE h s l) (hsz: ∀n∈l,n.name.size<=9223372036854775807) (h0:0<=left) (h1:left<=1048576)
  (k: ∀r:Int,(r<0\/(0<=r/\r<=left/\l.length<=1048576/\ ∀n∈l,n.name.size<=1048576))->R (I r) h):vw #[s.v,I left] h R:=by
 apply II
 refine uf_ ?_
 have hn:=hs.len
 have hb:=hs.1
 rw [bX (by omega) (by omega)]
 refine ad (fun e=>k _ (.inl (by omega))) (fun e=>?_)
 have e':=of_decide_eq_false e
 refine au l.length (fun i vs h'=> ∃r:Int,vs= [s.v,I r,I i]/\h'=h/\0<=r/\r<=left/\ ∀n∈l.take i,n.name.size<=1048576) ⟨_,rfl,rfl,by omega,by omega,fun n hn=>by simp at hn⟩ ?_
 rintro i _ _ next hi ⟨r,rfl,rfl,r0,r1,hall⟩ hnx
 rename_i h
 refine⟨s,_,_,rfl,?_⟩
 by_cases hlt:i<l.length
 rotate_left
 ·refine aC (by simp;omega) (k r (.inr ⟨r0,r1,by omega,?_⟩))
  rwa [List.take_of_length_le (by omega)]at hall
 refine aN (by simp;omega) ?_
 obtain⟨n,hni⟩: ∃n,l[i]?=some n:=⟨_,List.getElem?_eq_getElem hlt⟩
 obtain⟨b,o,ha,c0,c1,c2,c3,c4,c5,c6,c7,c8⟩:=hs.at hni
 refine⟨b,o,ha,by omega,by omega,_,c0,_,c1,_,c2,_,c3,_,c4,_,c5,_,c6,_,c7,_,c8,?_⟩
 refine Q1 (n:=n) (hsz n (List.mem_of_getElem? hni)) r0 (by omega) fun q hq=>⟨_,rfl,ad (fun e=>k _ (.inl (by omega))) (fun e=>?_)⟩
 have:=of_decide_eq_false e
 rcases hq with hq|⟨q0,q1,q2⟩
 ·omega
 rw [ay (by omega)]
 refine hnx hlt _ _ ⟨q,rfl,rfl,q0,by omega,fun n' hn'=>?_⟩
 rw [List.getElem?_eq_getElem hlt]at hni
 rw [List.take_succ_eq_append_getElem hlt,List.mem_append,List.mem_singleton,Option.some.inj hni]at hn'
 rcases hn' with hn'|rfl
 ·exact hall n' hn'
 ·exact q2
theorem E0 {h:Hp} {s:Sl} {l:List BindP} {left:Int} {R:Value->Hp->Prop} (hs:ii h s l) (h0:0<=left) (h1:left<=1048576)
  (k: ∀r:Int,(r<0\/(0<=r/\r<=left/\l.length<=1048576))->R (I r) h):qr #[s.v,I left] h R:=by
 apply JT
 refine uf_ ?_
 have hn:=hs.len
 have hb:=hs.1
 rw [bX (by omega) (by omega)]
 refine ad (fun e=>k _ (.inl (by omega))) (fun e=>k _ (.inr ?_))
 have:=of_decide_eq_false e
 omega
theorem Eu {h:Hp} {M:MSl} {m:ah} {R:Value->Hp->Prop} (hs:aO h M m) (hsz: ∀n∈m.nodes,n.name.size<=9223372036854775807)
  (k: ∀r:Int,(r<0\/(0<=r/\r<=1048576/\bU m))->R (I r) h):qF #[aQ M,I 1048576] h R:=by
 refine ACalls.drop (IA ?_)
 refine uf_ ?_
 refine aj fun b8 h1 hb8 l1 f8=>?_
 have neg: ∀{h':Hp},h.le h'-> ∃h'':Hp,h''.le h'/\R (I (-1)) h'':=fun l=>⟨_,l,k _ (.inl (by omega))⟩
 (refine aD ?_)
 refine Qr (hs.mono l1).nodes hsz (by omega) (by omega) fun r1 q1=>⟨_,rfl,ad (fun e=>neg l1) (fun e1=>?_)⟩
 have e1:=of_decide_eq_false e1
 obtain⟨a1,a2,a3,a4⟩:=q1.resolve_left e1
 (refine aD ?_)
 refine E0 (hs.mono l1).inits a1 (by omega) fun r2 q2=>⟨_,rfl,ad (fun e=>neg l1) (fun e2=>?_)⟩
 have e2:=of_decide_eq_false e2
 obtain⟨b1,b2,b3⟩:=q2.resolve_left e2
 (refine aD ?_)
 refine E0 (hs.mono l1).nexts b1 (by omega) fun r3 q3=>⟨_,rfl,ad (fun e=>neg l1) (fun e3=>?_)⟩
 have e3:=of_decide_eq_false e3
 obtain⟨c1,c2,c3⟩:=q3.resolve_left e3
 (refine aD ?_)
 refine wg (hs.mono l1).bads c1 (by omega) fun r4 q4=>⟨_,rfl,ad (fun e=>neg l1) (fun e4=>?_)⟩
 have e4:=of_decide_eq_false e4
 have d1:=q4.resolve_left e4
 (refine aD ?_)
 refine wg (hs.mono l1).holds d1.1 (by omega) fun r5 q5=>⟨_,rfl,ad (fun e=>neg l1) (fun e5=>⟨_,l1,k _ (.inr ?_)⟩)⟩
 have e5:=of_decide_eq_false e5
 have f1:=q5.resolve_left e5
 exact⟨f1.1,by omega,⟨a3,b3,c3,by omega,by omega,a4⟩⟩
theorem QI {h:Hp} {i w:Int} {R:Value->Hp->Prop} (k:R (.agg #[I i,I w]) h):wU #[.agg #[I i,I w]] h R:=by
 refine ACalls.drop (MN ?_)
 refine uf_ ?_
 have K0:=Kn.nil h
 (with_reducible apply Kn.al);(assumption);(intro b4 h1 K1 l1 hb4)
 (with_reducible apply Kn.al);(assumption);(intro b6 h2 K2 l2 hb6)
 (with_reducible apply Kn.al);(assumption);(intro b9 h3 K3 l3 hb9)
 repeat' (first|(refine kr_ ?_)|((((with_reducible apply Kn.wr);(assumption);((focus ((repeat first|exact .head|apply Upd.tail);done)))));(exact of_decide_eq_true rfl);(intro _ _ _)))
 exact⟨_,Kn.le (by assumption),k⟩
theorem RS {h:Hp} {b:BindP} {R:Value->Hp->Prop} (k:R (we b) h):xc #[we b] h R:=by
 refine ACalls.drop (Mn ?_)
 refine uf_ ?_
 have K0:=Kn.nil h
 (with_reducible apply Kn.al);(assumption);(intro b4 h1 K1 l1 hb4)
 (with_reducible apply Kn.al);(assumption);(intro b6 h2 K2 l2 hb6)
 (with_reducible apply Kn.al);(assumption);(intro b9 h3 K3 l3 hb9)
 repeat' (first|(refine kr_ ?_)|((((with_reducible apply Kn.wr);(assumption);((focus ((repeat first|exact .head|apply Upd.tail);done)))));(exact of_decide_eq_true rfl);(intro _ _ _)))
 exact⟨_,Kn.le (by assumption),k⟩
theorem Oz : ∀(vs cs:List Value) (o:Nat),o+vs.length<=cs.length->(ce cs o vs).take (o+vs.length)=cs.take o++vs:=by
 intro vs
 induction vs with
 |nil=>intro cs o _;simp [LK]
 |cons v r ih=>
  intro cs o h
  rw [List.length_cons]at h⊢
  rw [q8,show o+(r.length+1)=(o+1)+r.length by omega,ih _ _ (by rw [List.length_set];omega),oJ v (by omega),List.append_assoc];rfl
theorem R1 {h:Hp} {n:NodeP} {R:Value->Hp->Prop} (k:R (wu n) h):xf #[wu n] h R:=by
 refine ACalls.drop (ML ?_)
 refine uf_ ?_
 have K0:=Kn.nil h
 (with_reducible apply Kn.al);(assumption);(intro b4 h1 K1 l1 hb4)
 (with_reducible apply Kn.al);(assumption);(intro b6 h2 K2 l2 hb6)
 (with_reducible apply Kn.al);(assumption);(intro b9 h3 K3 l3 hb9)
 repeat' (first|(refine kr_ ?_)|((((with_reducible apply Kn.wr);(assumption);((focus ((repeat first|exact .head|apply Upd.tail);done)))));(exact of_decide_eq_true rfl);(intro _ _ _))|(refine QI ⟨_,_,rfl,?_⟩))
 exact⟨_,Kn.le (by assumption),k⟩
theorem NQ {α:Type} {f:α->List Value} {l:List α} {i:Nat} {x:α} (h:l[i]?=some x):(l.take (i+1)).flatMap f=(l.take i).flatMap f++f x:=by
 have hlt:=get_lt h
 rw [List.getElem?_eq_getElem hlt]at h
 rw [List.take_succ_eq_append_getElem hlt,List.flatMap_append,Option.some.inj h];simp
theorem z7 (z:Array Value) (n:Nat):(aR z n).length=n:=by simp [aR]
theorem OT {h:Hp} {s:Sl} {l:List NodeP} {R:Value->Hp->Prop} (hs:gE h s l) (hl:l.length<=1048576)
  (k: ∀b h',h b=none->h.le h'->h' b=some (.inl ⟨l.flatMap nodeCells,l.length*9,false⟩)->R (Sl.v (arr b l.length)) h'):vP #[s.v] h R:=by
 apply Jt
 refine uf_ ?_
 have hn:=hs.len
 refine⟨by omega,by omega,by omega,by omega,?_⟩
 rw [Int.toNat_natCast,hn]
 refine aj fun b h1 hb l1 f1=>?_
 refine au l.length (fun i vs h'=>vs= [s.v,(arr b l.length).v,I i]/\h.le h'/\ ∃cs,h' b=some (.inl ⟨cs,l.length*9,false⟩)/\cs.length=l.length*9/\cs.take (i*9)=(l.take i).flatMap nodeCells) ⟨rfl,l1,_,f1,z7 _ _,by simp⟩ ?_
 clear f1 l1 h1
 rintro i _ h1 next hi ⟨rfl,l1,cs,f1,hcl,htk⟩ hnx
 refine⟨s,arr b _,_,rfl,?_⟩
 by_cases hlt:i<l.length
 rotate_left
 ·have hie:i=l.length:=by omega
  subst hie
  refine aC (by simp;omega) (k b h1 hb l1 ?_)
  rw [List.take_of_length_le (by omega),List.take_length]at htk
  rw [<-htk];exact f1
 refine aN (by simp;omega) ?_
 obtain⟨n,hni⟩: ∃n,l[i]?=some n:=⟨_,List.getElem?_eq_getElem hlt⟩
 obtain⟨bn,o,ha,c0,c1,c2,c3,c4,c5,c6,c7,c8⟩:=(hs.mono l1).at hni
 refine⟨bn,o,ha,by omega,by omega,_,c0,_,c1,_,c2,_,c3,_,c4,_,c5,_,c6,_,c7,_,c8,?_⟩
 refine R1 (n:=n) ⟨_,_,_,_,_,_,_,_,_,rfl,?_⟩
 refine gL ⟨by omega,by dsimp only;omega,?_⟩
 (with_reducible apply cB);(exact f1);(exact l1);(exact hb);(rw [Int.toNat_natCast];omega)
 intro h2 f2 kp l2
 rw [ay (by omega)]
 refine hnx hlt _ _ ⟨rfl,l2,_,f2,by rw [iB];exact hcl,?_⟩
 have:=Oz (nodeCells n) cs (i*9) (by show i*9+9<=_;omega)
 rw [Int.toNat_natCast,Nat.zero_add]
 rw [NQ hni,<-htk,show (i+1)*9=i*9+(nodeCells n).length by show _=i*9+9;omega]
 exact this
theorem ES {h:Hp} {s:Sl} {l:List BindP} {R:Value->Hp->Prop} (hs:ii h s l) (hl:l.length<=1048576)
  (k: ∀b h',h b=none->h.le h'->h' b=some (.inl ⟨l.flatMap bindCells,l.length*2,false⟩)->R (Sl.v (arr b l.length)) h'):ql #[s.v] h R:=by
 apply Ip
 refine uf_ ?_
 have hn:=hs.len
 refine⟨by omega,by omega,by omega,by omega,?_⟩
 rw [Int.toNat_natCast,hn]
 refine aj fun b h1 hb l1 f1=>?_
 refine au l.length (fun i vs h'=>vs= [s.v,(arr b l.length).v,I i]/\h.le h'/\ ∃cs,h' b=some (.inl ⟨cs,l.length*2,false⟩)/\cs.length=l.length*2/\cs.take (i*2)=(l.take i).flatMap bindCells) ⟨rfl,l1,_,f1,z7 _ _,by simp⟩ ?_
 clear f1 l1 h1
 rintro i _ h1 next hi ⟨rfl,l1,cs,f1,hcl,htk⟩ hnx
 refine⟨s,arr b _,_,rfl,?_⟩
 by_cases hlt:i<l.length
 rotate_left
 ·have hie:i=l.length:=by omega
  subst hie
  refine aC (by simp;omega) (k b h1 hb l1 ?_)
  rw [List.take_of_length_le (by omega),List.take_length]at htk
  rw [<-htk];exact f1
 refine aN (by simp;omega) ?_
 obtain⟨n,hni⟩: ∃n,l[i]?=some n:=⟨_,List.getElem?_eq_getElem hlt⟩
 obtain⟨bn,o,ha,c0,c1⟩:=(hs.mono l1).at hni
 refine⟨bn,o,ha,by omega,by omega,_,c0,_,c1,?_⟩
 refine RS (b:=n) ⟨_,_,rfl,?_⟩
 refine gL ⟨by omega,by dsimp only;omega,?_⟩
 (with_reducible apply cB);(exact f1);(exact l1);(exact hb);(rw [Int.toNat_natCast];omega)
 intro h2 f2 kp l2
 rw [ay (by omega)]
 refine hnx hlt _ _ ⟨rfl,l2,_,f2,by rw [iB];exact hcl,?_⟩
 have:=Oz (bindCells n) cs (i*2) (by show i*2+2<=_;omega)
 rw [Int.toNat_natCast,Nat.zero_add]
 rw [NQ hni,<-htk,show (i+1)*2=i*2+(bindCells n).length by show _=i*2+2;omega]
 exact this
theorem yP {h:Hp} {s:Sl} {l:List Int} {R:Value->Hp->Prop} (hs:IntS h s l) (hl:l.length<=1048576)
  (k: ∀b h',h b=none->h.le h'->h' b=some (.inl ⟨l.map I,l.length*1,false⟩)->R (Sl.v (arr b l.length)) h'):jl #[s.v] h R:=by
 apply Ct
 refine uf_ ?_
 have hn:=hs.len
 refine⟨by omega,by omega,by omega,by omega,?_⟩
 rw [Int.toNat_natCast,hn]
 refine aj fun b h1 hb l1 f1=>?_
 refine au l.length (fun i vs h'=>vs= [s.v,(arr b l.length).v,I i]/\h.le h'/\ ∃cs,h' b=some (.inl ⟨cs,l.length*1,false⟩)/\cs.length=l.length/\cs.take i=(l.take i).map I) ⟨rfl,l1,_,f1,by rw [z7,Nat.mul_one],by simp⟩ ?_
 clear f1 l1 h1
 rintro i _ h1 next hi ⟨rfl,l1,cs,f1,hcl,htk⟩ hnx
 refine⟨s,arr b _,_,rfl,?_⟩
 by_cases hlt:i<l.length
 rotate_left
 ·have hie:i=l.length:=by omega
  subst hie
  refine aC (by simp;omega) (k b h1 hb l1 ?_)
  rw [List.take_of_length_le (by omega),List.take_length]at htk
  rw [<-htk];exact f1
 refine aN (by simp;omega) ?_
 obtain⟨n,hni⟩: ∃n,l[i]?=some n:=⟨_,List.getElem?_eq_getElem hlt⟩
 obtain⟨bn,o,ha,c0⟩:=(hs.mono l1).get hni
 refine⟨bn,o,ha,by omega,by omega,_,c0,?_⟩
 refine gL ⟨by omega,by dsimp only;omega,?_⟩
 (with_reducible apply cB);(exact f1);(exact l1);(exact hb);(rw [Int.toNat_natCast];omega)
 intro h2 f2 kp l2
 rw [ay (by omega)]
 refine hnx hlt _ _ ⟨rfl,l2,_,f2,by rw [iB];exact hcl,?_⟩
 rw [Int.toNat_natCast,Nat.zero_add,Nat.mul_one,bK,oJ _ (by omega),htk,List.take_succ_eq_append_getElem hlt,List.map_append]
 rw [List.getElem?_eq_getElem hlt]at hni
 rw [Option.some.inj hni];rfl
def Bg (m:ah) (bn bi bx bb bh:Nat):List (Nat×Blk):=
 [(bn, .inl ⟨m.nodes.flatMap nodeCells,m.nodes.length*9,false⟩),(bi, .inl ⟨m.inits.flatMap bindCells,m.inits.length*2,false⟩),(bx, .inl ⟨m.nexts.flatMap bindCells,m.nexts.length*2,false⟩),
  (bb, .inl ⟨m.bads.map I,m.bads.length*1,false⟩),(bh, .inl ⟨m.holds.map I,m.holds.length*1,false⟩)]
abbrev SP (m:ah) (bn bi bx bb bh:Nat):MSl:=⟨arr bn m.nodes.length,arr bi m.inits.length,arr bx m.nexts.length,arr bb m.bads.length,arr bh m.holds.length⟩
theorem ig {h:Hp} {M:MSl} {m:ah} {R:Value->Hp->Prop} (hs:aO h M m) (hm:bU m)
  (k: ∀bn bi bx bb bh h',Kn h h' (Bg m bn bi bx bb bh)->R (aQ (SP m bn bi bx bb bh)) h'):ed #[aQ M] h R:=by
 apply IU
 refine uf_ ?_
 have K0:=Kn.nil h
 (with_reducible apply Kn.al);(assumption);(intro b7 h1 K1 l1 hb7)
 (with_reducible apply Kn.al);(assumption);(intro b9 h2 K2 l2 hb9)
 (with_reducible apply Kn.al);(assumption);(intro b12 h3 K3 l3 hb12)
 repeat' (refine kr_ ?_)
 refine OT (hs.mono K3.le).nodes hm.nodes fun bn h4 hbn l4 f4=>⟨_,rfl,?_⟩
 have K4:=K3.cons hbn l4 f4
 refine kw_ ?_
 intro h5 K5 _
 repeat' (refine kr_ ?_)
 refine ES (hs.mono K5.le).inits hm.inits fun bi h6 hbi l6 f6=>⟨_,rfl,?_⟩
 have K6:=K5.cons hbi l6 f6
 refine kw_ ?_
 intro h7 K7 _
 repeat' (refine kr_ ?_)
 refine ES (hs.mono K7.le).nexts hm.nexts fun bx h8 hbx l8 f8=>⟨_,rfl,?_⟩
 have K8:=K7.cons hbx l8 f8
 refine kw_ ?_
 intro h9 K9 _
 repeat' (refine kr_ ?_)
 refine yP (hs.mono K9.le).bads hm.bads fun bb h10 hbb l10 f10=>⟨_,rfl,?_⟩
 have K10:=K9.cons hbb l10 f10
 refine kw_ ?_
 intro h11 K11 _
 repeat' (refine kr_ ?_)
 refine yP (hs.mono K11.le).holds hm.holds fun bh h12 hbh l12 f12=>⟨_,rfl,?_⟩
 have K12:=K11.cons hbh l12 f12
 refine kw_ ?_
 intro h13 K13 _
 repeat' (refine kr_ ?_)
 refine kw_ ?_
 intro h14 K14 _
 repeat' (refine kr_ ?_)
 refine k bn bi bx bb bh h14 (K14.sub (fun e he=>?_) ?_)
 ·simp only [Bg,List.mem_cons,List.not_mem_nil,or_false]at he
  rcases he with rfl|rfl|rfl|rfl|rfl
  ·exact .tail _ (.tail _ (.tail _ (.tail _ (.head _))))
  ·exact .tail _ (.tail _ (.tail _ (.head _)))
  ·exact .tail _ (.tail _ (.head _))
  ·exact .tail _ (.head _)
  ·exact .head _
 ·have nd:([bh,bb,bx,bi,bn]++ [b12,b9,b7]).Nodup:=K14.nd
  have nd2:([bh,bb,bx,bi,bn]:List Nat).reverse.Nodup:=(List.reverse_perm _).nodup_iff.2 (List.nodup_append.1 nd).1
  exact nd2
theorem Ki {g h:Hp} {X:List (Nat×Blk)} {m:ah} {bn bi bx bb bh:Nat} (K:Kn g h (Bg m bn bi bx bb bh++X)) (hm:bU m):aO h (SP m bn bi bx bb bh) m:=by
 have g1:=hm.nodes
 have g2:=hm.inits
 have g3:=hm.nexts
 have g4:=hm.bads
 have g5:=hm.holds
 refine⟨⟨by dsimp only;omega,by rw [cm (m:=9) (fun _=>rfl)], .inr ⟨bn,0,rfl,aw (K.at (List.mem_append_left _ (.head _)))⟩⟩,
  ⟨by dsimp only;omega,by rw [cm (m:=2) (fun _=>rfl)], .inr ⟨bi,0,rfl,aw (K.at (List.mem_append_left _ (.tail _ (.head _))))⟩⟩,
  ⟨by dsimp only;omega,by rw [cm (m:=2) (fun _=>rfl)], .inr ⟨bx,0,rfl,aw (K.at (List.mem_append_left _ (.tail _ (.tail _ (.head _)))))⟩⟩,
  ⟨by dsimp only;omega,by simp, .inr ⟨bb,0,rfl,aw (K.at (List.mem_append_left _ (.tail _ (.tail _ (.tail _ (.head _))))))⟩⟩,
  ⟨by dsimp only;omega,by simp, .inr ⟨bh,0,rfl,aw (K.at (List.mem_append_left _ (.tail _ (.tail _ (.tail _ (.tail _ (.head _)))))))⟩⟩,Nat.le_refl _⟩
theorem Sd {h:Hp} {i w:Int} {R:Value->Hp->Prop} (k:R (.bool true) h):wY #[.agg #[I i,I w], .agg #[I i,I w]] h R:=by
 refine ACalls.drop (Md ?_)
 refine uf_ ?_
 have K0:=Kn.nil h
 (with_reducible apply Kn.al);(assumption);(intro b4 h1 K1 l1 hb4)
 (with_reducible apply Kn.al);(assumption);(intro b6 h2 K2 l2 hb6)
 repeat' (first|(refine kr_ ?_)|(refine aC (by simp) ?_))
 exact⟨_,K2.le,k⟩
theorem Sv {h:Hp} {b:BindP} {R:Value->Hp->Prop} (k:R (.bool true) h):xi #[we b,we b] h R:=by
 refine ACalls.drop (MF ?_)
 refine uf_ ?_
 have K0:=Kn.nil h
 (with_reducible apply Kn.al);(assumption);(intro b4 h1 K1 l1 hb4)
 (with_reducible apply Kn.al);(assumption);(intro b6 h2 K2 l2 hb6)
 repeat' (first|(refine kr_ ?_)|(refine aC (by simp) ?_))
 exact⟨_,K2.le,k⟩
theorem RJ {h:Hp} {n:NodeP} {R:Value->Hp->Prop} (k:R (.bool true) h):wP #[wu n,wu n] h R:=by
 refine ACalls.drop (Mu ?_)
 refine uf_ ?_
 have K0:=Kn.nil h
 (with_reducible apply Kn.al);(assumption);(intro b4 h1 K1 l1 hb4)
 (with_reducible apply Kn.al);(assumption);(intro b6 h2 K2 l2 hb6)
 repeat' (first|(refine kr_ ?_)|(refine aC (by simp) ?_)|(refine Sd ⟨_,rfl,?_⟩))
 exact⟨_,K2.le,k⟩
theorem PJ {h:Hp} {s t:Sl} {l:List NodeP} {R:Value->Hp->Prop} (hs:gE h s l) (ht:gE h t l) (k:R (.bool true) h):uU #[s.v,t.v] h R:=by
 apply I8
 refine uf_ ?_
 have hn:=hs.len
 have hn2:=ht.len
 have hb:=hs.1
 refine aC (by simp;omega) ?_
 refine au l.length (fun i vs h'=>vs= [s.v,t.v,I i]/\h'=h) ⟨rfl,rfl⟩ ?_
 rintro i _ _ next hi ⟨rfl,rfl⟩ hnx
 rename_i h
 refine⟨s,t,_,rfl,?_⟩
 by_cases hlt:i<l.length
 ·refine aN (by simp;omega) ?_
  obtain⟨n,hni⟩: ∃n,l[i]?=some n:=⟨_,List.getElem?_eq_getElem hlt⟩
  obtain⟨b,o,ha,c0,c1,c2,c3,c4,c5,c6,c7,c8⟩:=hs.at hni
  obtain⟨b',o',ha',d0,d1,d2,d3,d4,d5,d6,d7,d8⟩:=ht.at hni
  refine⟨b,o,ha,by omega,by omega,b',o',ha',by omega,by omega,_,c0,_,c1,_,c2,_,c3,_,c4,_,c5,_,c6,_,c7,_,c8,_,d0,_,d1,_,d2,_,d3,_,d4,_,d5,_,d6,_,d7,_,d8,?_⟩
  refine RJ (n:=n) ⟨_,rfl,aC rfl ?_⟩
  rw [ay (by omega)]
  exact hnx hlt _ _ ⟨rfl,rfl⟩
 ·exact aC (by simp;omega) k
theorem EP {h:Hp} {s t:Sl} {l:List BindP} {R:Value->Hp->Prop} (hs:ii h s l) (ht:ii h t l) (k:R (.bool true) h):p9 #[s.v,t.v] h R:=by
 apply Ja
 refine uf_ ?_
 have hn:=hs.len
 have hn2:=ht.len
 have hb:=hs.1
 refine aC (by simp;omega) ?_
 refine au l.length (fun i vs h'=>vs= [s.v,t.v,I i]/\h'=h) ⟨rfl,rfl⟩ ?_
 rintro i _ _ next hi ⟨rfl,rfl⟩ hnx
 rename_i h
 refine⟨s,t,_,rfl,?_⟩
 by_cases hlt:i<l.length
 ·refine aN (by simp;omega) ?_
  obtain⟨n,hni⟩: ∃n,l[i]?=some n:=⟨_,List.getElem?_eq_getElem hlt⟩
  obtain⟨b,o,ha,c0,c1⟩:=hs.at hni
  obtain⟨b',o',ha',d0,d1⟩:=ht.at hni
  refine⟨b,o,ha,by omega,by omega,b',o',ha',by omega,by omega,_,c0,_,c1,_,d0,_,d1,?_⟩
  refine Sv (b:=n) ⟨_,rfl,aC rfl ?_⟩
  rw [ay (by omega)]
  exact hnx hlt _ _ ⟨rfl,rfl⟩
 ·exact aC (by simp;omega) k
theorem Ee {h:Hp} {M M':MSl} {m:ah} {R:Value->Hp->Prop} (hs:aO h M m) (ht:aO h M' m) (k:R (.bool true) h):qP #[aQ M,aQ M'] h R:=by
 refine ACalls.drop (LM ?_)
 refine uf_ ?_
 have K0:=Kn.nil h
 (with_reducible apply Kn.al);(assumption);(intro b4 h1 K1 l1 hb4)
 (with_reducible apply Kn.al);(assumption);(intro b6 h2 K2 l2 hb6)
 have hs2:=hs.mono K2.le
 have ht2:=ht.mono K2.le
 repeat' (refine kr_ ?_)
 refine PJ hs2.nodes ht2.nodes ⟨_,rfl,aC rfl ?_⟩
 repeat' (refine kr_ ?_)
 refine EP hs2.inits ht2.inits ⟨_,rfl,aC rfl ?_⟩
 repeat' (refine kr_ ?_)
 refine EP hs2.nexts ht2.nexts ⟨_,rfl,aC rfl ?_⟩
 repeat' (refine kr_ ?_)
 refine wm hs2.bads ht2.bads ⟨_,rfl,aC (by simp) ?_⟩
 repeat' (refine kr_ ?_)
 refine wm hs2.holds ht2.holds ⟨_,rfl,aC (by simp) ?_⟩
 exact⟨_,K2.le,k⟩
theorem Mc {h:Hp} {x:Int} {R:Value->Hp->Prop} (hx:x<=9223372036854775000) (k: ∀s:ByteArray,R (.string s) h):tA #[I x] h R:=by
 refine ACalls.drop (Hk ?_)
 refine uf_ ?_
 refine ad (fun e=>⟨_,Hp.le_refl _,k _⟩) (fun e=>?_)
 have e:=of_decide_eq_false e
 obtain⟨n,rfl⟩: ∃n:Nat,x=n:=⟨x.toNat,by omega⟩
 refine m4 n (fun q vs h'=> ∃s:ByteArray,vs= [I q, .string s]/\h.le h'/\s.size+q<=9223372036854775000) ⟨_,rfl,Hp.le_refl _,by show 0+n<=_;omega⟩ ?_
 rintro q _ h1 next ⟨s,rfl,l1,hsz⟩ hnx
 refine⟨_,s,rfl,?_⟩
 refine ad (fun e=>?_) (fun e=>?_)
 ·have e:=of_decide_eq_true e
  refine aj fun b h2 hb l2 f2=>?_
  have hm:Int.tmod (q:Int) 10=((q%10:Nat):Int):=eQ q 10
  have hd:Int.tdiv (q:Int) 10=((q/10:Nat):Int):=vr q 10
  have hmod:q%10<10:=Nat.mod_lt _ (by omega)
  have hw:IntKind.wrap .u8 (W (48+((q%10:Nat):Int)))=((48+q%10:Nat):Int):=by
   rw [bX (by omega) (by omega),IntKind.wrap_u8];omega
  rw [hm,hw]at f2
  refine⟨[UInt8.ofNat (48+q%10)],⟨rfl, .inr ⟨b,0,rfl,?_⟩⟩,?_⟩
  ·have hc:fC [UInt8.ofNat (48+q%10)]= [.int .u8 ((48+q%10:Nat):Int)]:=by
    unfold fC
    rw [List.map_cons,List.map_nil]
    have:(UInt8.ofNat (48+q%10)).toNat=48+q%10:=by rw [UInt8.toNat_ofNat'];omega
    rw [this];rfl
   rw [hc];exact aw f2
  ·have h1s:(⟨[UInt8.ofNat (48+q%10)].toArray⟩:ByteArray).size=1:=rfl
   rw [h1s,hd,fP (by omega)]
   refine⟨by omega,hnx (q/10) (by omega) _ _ ⟨_,rfl,Hp.le_trans l1 l2,?_⟩⟩
   rw [ByteArray.size_append,h1s]
   omega
 ·have h1s:(⟨#[109]⟩:ByteArray).size=1:=rfl
  exact⟨by rw [h1s];omega,_,l1,k _⟩
theorem TH {x:Int} (h0:0<=x) (h:x<=9223372036854775000):W (x+1)=x+1:=bX (by omega) (by omega)
theorem Ax {h:Hp} {b n z:Nat} {cs:List Value} {k0:Int} {R:Value->Hp->Prop} (f:h b=some (.inl ⟨cs,z,false⟩)) (hl:cs.length=n*9) (h0:0<=k0) (hk:k0+n*9<=1000000000000)
  (k: ∀h' cs',(h.off b).le h'->h' b=some (.inl ⟨cs',z,false⟩)->cs'.length=n*9->R (I (k0+n*9)) h'):rq #[(arr b n).v,I k0] h R:=by
 apply Fe
 refine uf_ ?_
 refine au n (fun i vs h'=>vs= [(arr b n).v,I (k0+i*9),I i]/\ ∃cs,Kn (h.off b) h' [(b, .inl ⟨cs,z,false⟩)]/\cs.length=n*9) ⟨by simp,cs,?_,hl⟩ ?_
 ·exact⟨FM _ _,fun e he=>by rw [List.mem_singleton.1 he];exact f,fun e he=>by rw [List.mem_singleton.1 he];exact vG _ _,by simp⟩
 clear f hl cs
 rintro i _ h1 next hi ⟨rfl,cs,K,hl⟩ hnx
 refine⟨arr b n,_,_,rfl,?_⟩
 by_cases hlt:i<n
 rotate_left
 ·have hie:i=n:=by omega
  subst hie
  exact aC (by simp) (k h1 cs K.le (K.at (.head _)) hl)
 refine aN (by simp;omega) ?_
 simp (disch:=omega) only [TH]
 have hnat:Int.toNat (i:Int)=i:=Int.toNat_natCast i
 rw [hnat]
 repeat' (first
  |(refine gL ⟨by omega,by first|omega|(dsimp only;omega),?_⟩)
  |((((with_reducible apply Kn.wr);(assumption);((focus ((repeat first|exact .head|apply Upd.tail);done)))));(first|omega|(simp only [iB];omega));(intro _ _ _)))
 refine Mc (by omega) fun s=>⟨s,rfl,?_⟩
 refine gL ⟨by omega,by first|omega|(dsimp only;omega),?_⟩
 (((with_reducible apply Kn.wr);(assumption);((focus ((repeat first|exact .head|apply Upd.tail);done)))))
 ·first|omega|(simp only [iB];omega)
 intro h2 K2 _
 have hni:((i:Int)+1)=((i+1:Nat):Int):=by omega
 have:=hnx hlt _ _ ⟨rfl,_,K2,by first|exact hl|(simp only [iB];exact hl)⟩
 have hke:k0+(i:Int)*9+1+1+1+1+1+1+1+1+1=k0+((i+1:Nat):Int)*9:=by omega
 rw [hni,hke];exact this
theorem qG {h:Hp} {b n z:Nat} {cs:List Value} {k0:Int} {R:Value->Hp->Prop} (f:h b=some (.inl ⟨cs,z,false⟩)) (hl:cs.length=n*2) (h0:0<=k0) (hk:k0+n*2<=1000000000000)
  (k: ∀h' cs',(h.off b).le h'->h' b=some (.inl ⟨cs',z,false⟩)->cs'.length=n*2->R (I (k0+n*2)) h'):nc #[(arr b n).v,I k0] h R:=by
 apply Gn
 refine uf_ ?_
 refine au n (fun i vs h'=>vs= [(arr b n).v,I (k0+i*2),I i]/\ ∃cs,Kn (h.off b) h' [(b, .inl ⟨cs,z,false⟩)]/\cs.length=n*2) ⟨by simp,cs,?_,hl⟩ ?_
 ·exact⟨FM _ _,fun e he=>by rw [List.mem_singleton.1 he];exact f,fun e he=>by rw [List.mem_singleton.1 he];exact vG _ _,by simp⟩
 clear f hl cs
 rintro i _ h1 next hi ⟨rfl,cs,K,hl⟩ hnx
 refine⟨arr b n,_,_,rfl,?_⟩
 by_cases hlt:i<n
 rotate_left
 ·have hie:i=n:=by omega
  subst hie
  exact aC (by simp) (k h1 cs K.le (K.at (.head _)) hl)
 refine aN (by simp;omega) ?_
 simp (disch:=omega) only [TH]
 have hnat:Int.toNat (i:Int)=i:=Int.toNat_natCast i
 rw [hnat]
 repeat' (first
  |(refine gL ⟨by omega,by first|omega|(dsimp only;omega),?_⟩)
  |((((with_reducible apply Kn.wr);(assumption);((focus ((repeat first|exact .head|apply Upd.tail);done)))));(first|omega|(simp only [iB];omega));(intro _ _ _)))
 have hni:((i:Int)+1)=((i+1:Nat):Int):=by omega
 have hke:k0+(i:Int)*2+1+1=k0+((i+1:Nat):Int)*2:=by omega
 rw [hni,hke]
 refine hnx hlt _ _ ⟨rfl,_,by assumption,by first|exact hl|(simp only [iB];exact hl)⟩
theorem mZ {h:Hp} {b n z:Nat} {cs:List Value} {k0:Int} {R:Value->Hp->Prop} (f:h b=some (.inl ⟨cs,z,false⟩)) (hl:cs.length=n) (h0:0<=k0) (hk:k0+n<=1000000000000)
  (k: ∀h' cs',(h.off b).le h'->h' b=some (.inl ⟨cs',z,false⟩)->cs'.length=n->R (I (k0+n)) h'):gD #[(arr b n).v,I k0] h R:=by
 apply zK
 refine uf_ ?_
 refine au n (fun i vs h'=>vs= [(arr b n).v,I (k0+i),I i]/\ ∃cs,Kn (h.off b) h' [(b, .inl ⟨cs,z,false⟩)]/\cs.length=n) ⟨by simp,cs,?_,hl⟩ ?_
 ·exact⟨FM _ _,fun e he=>by rw [List.mem_singleton.1 he];exact f,fun e he=>by rw [List.mem_singleton.1 he];exact vG _ _,by simp⟩
 clear f hl cs
 rintro i _ h1 next hi ⟨rfl,cs,K,hl⟩ hnx
 refine⟨arr b n,_,_,rfl,?_⟩
 by_cases hlt:i<n
 rotate_left
 ·have hie:i=n:=by omega
  subst hie
  exact aC (by simp) (k h1 cs K.le (K.at (.head _)) hl)
 refine aN (by simp;omega) ?_
 simp (disch:=omega) only [TH]
 have hnat:Int.toNat (i:Int)=i:=Int.toNat_natCast i
 rw [hnat]
 repeat' (first
  |(refine gL ⟨by omega,by first|omega|(dsimp only;omega),?_⟩)
  |((((with_reducible apply Kn.wr);(assumption);((focus ((repeat first|exact .head|apply Upd.tail);done)))));(first|omega|(simp only [iB];omega));(intro _ _ _)))
 have hni:((i:Int)+1)=((i+1:Nat):Int):=by omega
 have hke:k0+(i:Int)+1=k0+((i+1:Nat):Int):=by omega
 rw [hke,hni]
 refine hnx hlt _ _ ⟨rfl,_,by assumption,by first|exact hl|(simp only [iB];exact hl)⟩
theorem list9 {cs:List Value} (h:cs.length=9): ∃a b c d e f g i j,cs= [a,b,c,d,e,f,g,i,j]:=by
 match cs,h with
 | [a,b,c,d,e,f,g,i,j],_=>exact⟨a,b,c,d,e,f,g,i,j,rfl⟩
theorem list2 {cs:List Value} (h:cs.length=2): ∃a b,cs= [a,b]:=by
 match cs,h with
 | [a,b],_=>exact⟨a,b,rfl⟩
theorem Got.flat {P:Program} {W:World} {t e:TypeId} {v:Value} {α:Type} {f:α->List Value} {m:Nat} {p:α->Prop} (hf: ∀x,(f x).length=m) (hpos:0<m) (ht:P.underlying t=some (.slice e)) (hsz:P.cellsOf e=m)
  (hg: ∀ds,Got P W e ds-> ∃x,ds=f x/\p x) (g:Got P W t [v]): ∃(s:Sl) (l:List α),v=s.v/\s.n<=s.c/\SlC (hW W) s m (l.flatMap f)/\ ∀x∈l,p x:=by
 obtain⟨s,hs,hm,hlc,h⟩:=Got.slice ht hsz hpos g
 simp only [List.cons.injEq,and_true]at hs
 rcases h with h|⟨b,o,ha,h⟩
 ·exact⟨s, [],hs,hlc,⟨hm,by simp [h], .inl h⟩,by simp⟩
 obtain⟨xs,hl,hx⟩:=H4 (p:=fun i (x:α)=>(∀(j:Nat) v,(f x)[j]?=some v->Hp.cell (hW W) b (o+i*m+j)=some v)/\p x) s.n fun i hi=>by
  obtain⟨ds,hd,hgd,hc⟩:=h i hi
  obtain⟨x,rfl,hp⟩:=hg ds hgd
  exact⟨x,hc,hp⟩
 refine⟨s,xs,hs,hlc,⟨hm,by rw [cm hf,hl], .inr ⟨b,o,ha,?_⟩⟩,?_⟩
 ·intro i v hv
  have hi:i<(xs.flatMap f).length:=(List.getElem?_eq_some_iff.1 hv).1
  rw [cm hf]at hi
  have hq:i/m<xs.length:=by rw [Nat.div_lt_iff_lt_mul hpos];exact hi
  have hr:i%m<m:=Nat.mod_lt _ hpos
  have he:i=i/m*m+i%m:=by rw [Nat.mul_comm];exact(Nat.div_add_mod _ _).symm
  rw [he,mA hf xs (i/m) xs[i/m] (i%m) (List.getElem?_eq_getElem hq) hr]at hv
  have:=(hx (i/m) hq).1 _ _ hv
  rw [he,<-Nat.add_assoc];exact this
 ·intro x hxm
  obtain⟨i,hi,rfl⟩:=List.getElem_of_mem hxm
  exact(hx i hi).2
def tb (n:Nat) (T:Nat->Bool):List Value:=(List.range n).map fun i=> .bool (T i)
def Hn (h:Hp) (s:Sl) (n m:Nat) (L:Nat->Nat->Bool):Prop:= ∃ts:List Sl,ts.length=m/\SlC h s 1 (ts.map Sl.v)/\ ∀(j:Nat) (t:Sl),ts[j]?=some t->fg h t n (L j)
theorem Hn.mono {h h':Hp} {s:Sl} {n m:Nat} {L:Nat->Nat->Bool} (l:h.le h') (e:Hn h s n m L):Hn h' s n m L:=by
 obtain⟨ts,e1,e2,e3⟩:=e
 exact⟨ts,e1,e2.mono l,fun j t ht=>(e3 j t ht).mono l⟩
theorem Hn.len {h:Hp} {s:Sl} {n m:Nat} {L:Nat->Nat->Bool} (e:Hn h s n m L):s.n=m:=by
 obtain⟨ts,e1,e2,_⟩:=e
 have:=e2.2.1
 simp at this;omega
theorem Hn.get {h:Hp} {s:Sl} {n m i:Nat} {L:Nat->Nat->Bool} (e:Hn h s n m L) (hi:i<m):
  ∃b o t,s.a=some (Addr.mk b o none)/\(i:Int)<(s.n:Int)/\Hp.cell h b (o+Int.toNat (i:Int)*1)=some (Sl.v t)/\fg h t n (L i):=by
 have hl:=e.len
 obtain⟨ts,e1,e2,e3⟩:=e
 obtain⟨t,ht⟩: ∃t,ts[i]?=some t:=⟨_,List.getElem?_eq_getElem (by omega)⟩
 obtain⟨b,o,ha,hc⟩:=SlC.get e2 (by omega)
 refine⟨b,o,t,ha,by omega,?_,e3 i t ht⟩
 rw [Int.toNat_natCast,Nat.mul_one]
 exact hc i _ (by simp [ht])
def cd (X:List (Nat×Blk)) (s:Sl) (sz:Nat) (cs:List Value):Prop:=
 cs.length=s.n*sz/\s.n<=s.c/\((X= []/\s=⟨none,0,0⟩/\cs= [])\/ ∃b,s.a=some ⟨b,0,none⟩/\X= [(b, .inl ⟨cs,s.c*sz,false⟩)])
theorem cG (sz:Nat):cd [] ⟨none,0,0⟩ sz []:=⟨by simp,Nat.le_refl _, .inl ⟨rfl,rfl,rfl⟩⟩
theorem cd.buf {X:List (Nat×Blk)} {h:Hp} {s:Sl} {sz:Nat} {cs:List Value} (o:cd X s sz cs) (m: ∀e∈X,h e.1=some e.2):Buf h s sz cs:=by
 refine⟨o.1,o.2.1,?_⟩
 rcases o.2.2 with ⟨_,rfl,_⟩|⟨b,ha,rfl⟩
 ·exact .inl ⟨rfl,rfl,rfl⟩
 ·exact .inr ⟨b,ha,m _ (.head _)⟩
theorem Kn.perm {g h:Hp} {L L':List (Nat×Blk)} (K:Kn g h L) (p:L.Perm L'):Kn g h L':=K.sub (fun e he=>p.mem_iff.2 he) ((p.map Prod.fst).nodup_iff.1 K.nd)
theorem Kn.grow {g h:Hp} {X L:List (Nat×Blk)} {s:Sl} {sz by_ m:Nat} {cs news:List Value} {src:Option Addr} {C:Option Addr->Nat->Nat->Hp->Prop}
  (K:Kn g h (X++L)) (o:cd X s sz cs) (hm:0<m) (hsz:(s.n+m)*by_<=140737488355328) (hsz':s.n+m<=9223372036854775807)
  (hs: ∃sb so,src=some ⟨sb,so,none⟩/\jb h sb so news) (hl:news.length=m*sz) (ho:news.all (·.oneCell')=true)
  (k: ∀s' X' h',s'.n=s.n+m->cd X' s' sz (cs++news)->Kn g h' (X'++L)->(h.offS s).le h'->C s'.a s'.n s'.c h'):cx h s.a s.n s.c src m sz by_ C:=by
 refine dF (o.buf fun e he=>K.mem e (List.mem_append_left _ he)) hm hsz hsz' hs hl ho fun s' h' hn B l _=>?_
 have nd:=K.nd
 rw [List.map_append,List.nodup_append]at nd
 have base:g.le (h.offS s)/\ ∀e∈L,(h.offS s) e.1=some e.2:=by
  rcases o.2.2 with ⟨_,rfl,_⟩|⟨b,ha,rfl⟩
  ·exact⟨K.le,fun e he=>K.mem e (List.mem_append_right _ he)⟩
  ·unfold Hp.offS
   rw [ha]
   refine⟨zx (K.new (b,_) (.head _)) K.le,fun e he=>?_⟩
   have hne:e.1≠b:=fun hb=>nd.2.2 b (by simp) e.1 (List.mem_map.2 ⟨e,he,rfl⟩) hb.symm
   simp only [Hp.off,Hp.set]
   rw [if_neg hne];exact K.mem e (List.mem_append_right _ he)
 rcases B.2.2 with ⟨_,h0,_⟩|⟨b,ha,hb⟩
 ·omega
 have hoff:(h'.offS s') b=none:=by simp [Hp.offS,ha,Hp.off,Hp.set]
 refine k s' [(b, .inl ⟨cs++news,s'.c*sz,false⟩)] h' hn ⟨B.1,B.2.1, .inr ⟨b,ha,rfl⟩⟩ ?_ (Hp.le_trans l (aW h' s'))
 have lo:=aW h' s'
 have hg:g b=none:=by
  cases hgb:g b with
  |none=>rfl
  |some x=>rw [l _ _ (base.1 _ _ hgb)]at hoff;cases hoff
 refine⟨Hp.le_trans base.1 (Hp.le_trans l lo),fun e he=>?_,fun e he=>?_,?_⟩
 ·rcases List.mem_cons.1 he with rfl|he
  ·exact hb
  ·exact lo _ _ (l _ _ (base.2 e he))
 ·rcases List.mem_cons.1 he with rfl|he
  ·exact hg
  ·exact K.new e (List.mem_append_right _ he)
 ·show (b::L.map Prod.fst).Nodup
  rw [List.nodup_cons]
  refine⟨fun hm=>?_,nd.2.1⟩
  obtain⟨e,he,heb⟩:=List.mem_map.1 hm
  have:=l _ _ (base.2 e he)
  rw [heb,hoff]at this;cases this
theorem Kn.growIn {g h:Hp} {A X L:List (Nat×Blk)} {s:Sl} {sz by_ m:Nat} {cs news:List Value} {src:Option Addr} {C:Option Addr->Nat->Nat->Hp->Prop}
  (K:Kn g h (A++(X++L))) (o:cd X s sz cs) (hm:0<m) (hsz:(s.n+m)*by_<=140737488355328) (hsz':s.n+m<=9223372036854775807)
  (hs: ∃sb so,src=some ⟨sb,so,none⟩/\jb h sb so news) (hl:news.length=m*sz) (ho:news.all (·.oneCell')=true)
  (k: ∀s' X' h',s'.n=s.n+m->cd X' s' sz (cs++news)->Kn g h' (A++(X'++L))->(h.offS s).le h'->C s'.a s'.n s'.c h'):cx h s.a s.n s.c src m sz by_ C:=by
 have sw: ∀Y:List (Nat×Blk),(A++(Y++L)).Perm (Y++(A++L)):=fun Y=>by
  rw [<-List.append_assoc,<-List.append_assoc]
  exact List.perm_append_comm.append_right L
 exact Kn.grow (K.perm (sw X)) o hm hsz hsz' hs hl ho fun s' X' h' hn o' K' l=>k s' X' h' hn o' (K'.perm (sw X').symm) l
theorem Kn.growIn2 {g h:Hp} {A Y X L:List (Nat×Blk)} {s:Sl} {sz by_ m:Nat} {cs news:List Value} {src:Option Addr} {C:Option Addr->Nat->Nat->Hp->Prop}
  (K:Kn g h (A++(Y++(X++L)))) (o:cd X s sz cs) (hm:0<m) (hsz:(s.n+m)*by_<=140737488355328) (hsz':s.n+m<=9223372036854775807)
  (hs: ∃sb so,src=some ⟨sb,so,none⟩/\jb h sb so news) (hl:news.length=m*sz) (ho:news.all (·.oneCell')=true)
  (k: ∀s' X' h',s'.n=s.n+m->cd X' s' sz (cs++news)->Kn g h' (A++(Y++(X'++L)))->(h.offS s).le h'->C s'.a s'.n s'.c h'):cx h s.a s.n s.c src m sz by_ C:=by
 have sw: ∀Z:List (Nat×Blk),(A++(Y++(Z++L))).Perm (A++(Z++(Y++L))):=fun Z=>by
  refine List.Perm.append_left A ?_
  rw [<-List.append_assoc,<-List.append_assoc]
  exact List.perm_append_comm.append_right L
 exact Kn.growIn (K.perm (sw X)) o hm hsz hsz' hs hl ho fun s' X' h' hn o' K' l=>k s' X' h' hn o' (K'.perm (sw X').symm) l
theorem cd.slc {X A L:List (Nat×Blk)} {g h:Hp} {s:Sl} {sz:Nat} {cs:List Value} (o:cd X s sz cs) (K:Kn g h (A++(X++L))) (hn:s.n<=9223372036854775807):SlC h s sz cs:=
 (o.buf fun e he=>K.mem e (List.mem_append_right _ (List.mem_append_left _ he))).slc_of hn
structure F0 where
 hs:Sl
 es:Sl
 ns:Sl
 fs:Sl
 bs:Sl
def F5 (h:Hp) (q:F0) (σ:aL):Prop:=fg h q.hs (2^(σ.n+σ.k)) σ.hold/\fg h q.es (2^(σ.n+σ.k)) σ.ends/\Kg h q.ns (2^(σ.n+σ.k)) σ.next/\
 (∃fm,fm+σ.fixed=2^σ.n-1/\IntS h q.fs (VL (iL fm)))/\fg h q.bs (2^σ.n) σ.begins
theorem F5.mono {h h':Hp} {q:F0} {σ:aL} (l:h.le h') (e:F5 h q σ):F5 h' q σ:=by
 obtain⟨a,b,c,⟨fm,d1,d2⟩,f⟩:=e
 exact⟨a.mono l,b.mono l,c.mono l,⟨fm,d1,d2.mono l⟩,f.mono l⟩
theorem fg.wo {g h h':Hp} {L:List (Nat×Blk)} {t:Sl} {n:Nat} {T:Nat->Bool} (K:Kn g h L) (e:fg (h'.sub h) t n T):fg (h'.wo (L.map Prod.fst)) t n T:=
 fg.mono (uP (sub_le _ _) fun b hb=>by
  cases hx:h b with
  |none=>exact absurd hx (K.has b hb)
  |some x=>exact mM hx) e
theorem cd.toOwn {g h:Hp} {A X L:List (Nat×Blk)} {s:Sl} {sz:Nat} {cs:List Value} (o:cd X s sz cs) (hn:s.n<=9223372036854775807) (K:Kn g h (A++(X++L))): ∃X',mf X' s sz cs/\Kn g h (A++(X'++L)):=by
 by_cases h0:s.n=0
 ·refine⟨[],⟨o.1,hn, .inl ⟨h0,rfl⟩⟩,K.sub (fun e he=>?_) ?_⟩
  ·rcases List.mem_append.1 he with he|he
   ·exact List.mem_append_left _ he
   ·exact List.mem_append_right _ (List.mem_append_right _ he)
  ·have nd:=K.nd
   rw [List.map_append,List.map_append]at nd
   rw [List.nil_append,List.map_append]
   exact nd.sublist (List.Sublist.append_left (List.sublist_append_right _ _) _)
 ·rcases o.2.2 with ⟨_,rfl,_⟩|⟨b,ha,rfl⟩
  ·exact absurd rfl h0
  ·exact⟨_,⟨o.1,hn, .inr ⟨h0,b,_,ha,rfl⟩⟩,K⟩
theorem xU {g h h':Hp} {L:List (Nat×Blk)} (K:Kn g h L):(h'.sub h).le (h'.wo (L.map Prod.fst)):=by
 intro c x e
 have hn:h c=none:=lO (by rw [e];simp)
 rw [uW fun hm=>K.has c hm hn]
 exact sub_le _ _ _ _ e
def TrX (h h':Hp) (sS sI:Sl) (l:List (Nat×Nat)):Prop:=
 ∃XS XI,mf XS sS 1 ((VL (l.map Prod.fst)).map I)/\mf XI sI 1 ((VL (l.map Prod.snd)).map I)/\Kn h h' (XS++XI)
theorem cd.at {X:List (Nat×Blk)} {h:Hp} {s t:Sl} {ts:List Sl} {i:Nat} (o:cd X s 1 (ts.map Sl.v)) (m: ∀e∈X,h e.1=some e.2) (hi:ts[i]?=some t):
  ∃b x,s.a=some ⟨b,0,none⟩/\h b=some x/\Hp.cell h b (0+i*1)=some t.v:=by
 have hlt:=get_lt hi
 rcases o.2.2 with ⟨_,_,h0⟩|⟨b,ha,rfl⟩
 ·have:ts.length=0:=by have:=congrArg List.length h0;simpa using this
  omega
 ·have hb:=m _ (.head _)
  refine⟨b,_,ha,hb,?_⟩
  rw [ax hb,Nat.zero_add,Nat.mul_one,List.getElem?_map,hi];rfl
def TrG (h h':Hp) (sS sI:Sl) (l:List (Nat×Nat)):Prop:=
 ∃XS XI,cd XS sS 1 ((VL (l.map Prod.fst)).map I)/\cd XI sI 1 ((VL (l.map Prod.snd)).map I)/\Kn h h' (XS++(XI++ []))
theorem PU {h g h1 h5:Hp} {b6 b73:Nat} {y:Blk} {sS sI:Sl} {XS XI:List (Nat×Blk)} {pre:List (Nat×Nat)} (lg:h.le g) (h6:g b6≠none) (oS:cd XS sS 1 ((VL (pre.map Prod.fst)).map I)) (oI:cd XI sI 1 ((VL (pre.map Prod.snd)).map I))
  (K:Kn g h1 ((b73,y)::(XS++(XI++ [])))) (l5:h.le h5) (kp: ∀c,c≠b6->h5 c=h1 c):TrG h h5 sS sI pre:=by
 refine⟨XS,XI,oS,oI,l5,fun e he=>?_,fun e he=>aF lg (K.new e (.tail _ he)),?_⟩
 ·have hne:e.1≠b6:=by
   intro e6
   have h1:=K.new e (.tail _ he)
   rw [e6]at h1;exact h6 h1
  rw [kp _ hne];exact K.mem e (.tail _ he)
 ·have nd:=K.nd
  rw [List.map_cons,List.nodup_cons]at nd
  exact nd.2
theorem TrG.nil {h h':Hp} (l:h.le h'):TrG h h' ⟨none,0,0⟩ ⟨none,0,0⟩ []:=⟨[], [],cG 1,cG 1,Kn.of l⟩
theorem TrG.up {h g h1 h5:Hp} {b6:Nat} {sS sI:Sl} {l:List (Nat×Nat)} (t:TrG g h1 sS sI l) (lg:h.le g) (h6:g b6≠none) (l5:h.le h5) (kp: ∀c,c≠b6->h5 c=h1 c):TrG h h5 sS sI l:=by
 obtain⟨XS,XI,oS,oI,K⟩:=t
 refine⟨XS,XI,oS,oI,l5,fun e he=>?_,fun e he=>aF lg (K.new e he),K.nd⟩
 have hne:e.1≠b6:=by
  intro e6
  have h1:=K.new e he
  rw [e6]at h1;exact h6 h1
 rw [kp _ hne];exact K.mem e he
theorem TrG.tr {h h':Hp} {sS sI:Sl} {l:List (Nat×Nat)} (t:TrG h h' sS sI l) (hl:l.length<=1000000):TrX h h' sS sI l:=by
 obtain⟨XS,XI,oS,oI,K⟩:=t
 have h1:=oS.1
 have h2:=oI.1
 simp only [List.length_map,aX,Nat.mul_one]at h1 h2
 obtain⟨XS',oS',K6⟩:=oS.toOwn (by omega) (A:= []) (L:=XI++ []) K
 obtain⟨XI',oI',K7⟩:=oI.toOwn (by omega) (A:=XS') (L:= []) K6
 rw [List.append_nil]at K7
 exact⟨XS',XI',oS',oI',K7⟩
abbrev AU (sS sI:Sl) (b:Bool):Value:= .tuple #[.agg #[sS.v,sI.v], .bool b]
theorem TrX.nil {h h':Hp} (l:h.le h'):TrX h h' ⟨none,0,0⟩ ⟨none,0,0⟩ []:=⟨[], [],⟨rfl,by simp, .inl ⟨rfl,rfl⟩⟩,⟨rfl,by simp, .inl ⟨rfl,rfl⟩⟩,Kn.of l⟩
theorem TrX.up {h g h1 h5:Hp} {b6:Nat} {sS sI:Sl} {l:List (Nat×Nat)} (t:TrX g h1 sS sI l) (lg:h.le g) (h6:g b6≠none) (l5:h.le h5) (kp: ∀c,c≠b6->h5 c=h1 c):TrX h h5 sS sI l:=by
 obtain⟨XS,XI,oS,oI,K⟩:=t
 refine⟨XS,XI,oS,oI,l5,fun e he=>?_,fun e he=>aF lg (K.new e he),K.nd⟩
 have hne:e.1≠b6:=by
  intro e6
  have h1:=K.new e he
  rw [e6]at h1;exact h6 h1
 rw [kp _ hne];exact K.mem e he
theorem TrX.mono {h h1 h2:Hp} {sS sI:Sl} {l:List (Nat×Nat)} (t:TrX h h1 sS sI l) (l12:h1.le h2):TrX h h2 sS sI l:=by
 obtain⟨XS,XI,oS,oI,K⟩:=t
 exact⟨XS,XI,oS,oI,K.mono l12⟩
theorem mf.slcOf {X:List (Nat×Blk)} {h:Hp} {s:Sl} {sz:Nat} {cs:List Value} (o:mf X s sz cs) (m: ∀e∈X,h e.1=some e.2):SlC h s sz cs:=by
 refine⟨o.2.1,o.1,?_⟩
 rcases o.2.2 with ⟨h0,_⟩|⟨_,b,z,ha,rfl⟩
 ·exact .inl h0
 ·exact .inr ⟨b,0,ha,aw (m _ (.head _))⟩
theorem TrX.ints {h h1:Hp} {sS sI:Sl} {l:List (Nat×Nat)} (t:TrX h h1 sS sI l):IntS h1 sS (VL (l.map Prod.fst))/\IntS h1 sI (VL (l.map Prod.snd)):=by
 obtain⟨XS,XI,oS,oI,K⟩:=t
 exact⟨oS.slcOf fun e he=>K.mem e (List.mem_append_left _ he),oI.slcOf fun e he=>K.mem e (List.mem_append_right _ he)⟩
theorem zN {h g:Hp} {sS sI:Sl} {l:List (Nat×Nat)} {R:Value->Hp->Prop} (t:TrX g h sS sI l) (hl:l.length<=1048576)
  (k: ∀sS sI h',TrX h h' sS sI l->sS.n<=sS.c->R (.agg #[Sl.v sS,Sl.v sI]) h'):ln #[.agg #[sS.v,sI.v]] h R:=by
 apply C0
 refine uf_ ?_
 obtain⟨iS,iI⟩:=t.ints
 have K0:=Kn.nil h
 (with_reducible apply Kn.al);(assumption);(intro b4 h1 K1 l1 hb4)
 (with_reducible apply Kn.al);(assumption);(intro b6 h2 K2 l2 hb6)
 repeat' (refine kr_ ?_)
 refine kv (iS.mono K2.le) (by simp [VL];omega) fun tS h3 l3 bS=>⟨_,rfl,?_⟩
 have K3:=K2.mono l3
 repeat' (refine kr_ ?_)
 refine kv (iI.mono K3.le) (by simp [VL];omega) fun tI h4 l4 bI=>⟨_,rfl,?_⟩
 have K4:=K3.mono l4
 (((with_reducible apply Kn.wr);(assumption);((focus ((repeat first|exact .head|apply Upd.tail);done)))))
 ·exact Nat.le_refl _
 intro h5 K5 kp
 refine⟨tS,by rw [ax (K5.at (.head _))];rfl,tI,by rw [ax (K5.at (.head _))];rfl,?_⟩
 have nS:tS.n<=1048576:=by have:=bS.1;simp [VL]at this;omega
 have nI:tI.n<=1048576:=by have:=bI.1;simp [VL]at this;omega
 obtain⟨XS,oS,KS⟩:=(Kn.nil h2).addOwn l3 (bS.own (by omega))
 obtain⟨XI,oI,KI⟩:=KS.addOwn l4 (bI.own (by omega))
 rw [List.nil_append]at KI
 exact k tS tI h5 (TrX.up ⟨XS,XI,oS,oI,KI⟩ K2.le (by rw [K2.at (.head _)];simp) K5.le kp) bS.2.1
theorem TrX.le {h h':Hp} {sS sI:Sl} {l:List (Nat×Nat)} (t:TrX h h' sS sI l):h.le h':=by obtain⟨_,_,_,_,K⟩:=t;exact K.le
theorem TrX.add {g h h':Hp} {L:List (Nat×Blk)} {sS sI:Sl} {l:List (Nat×Nat)} (t:TrX h h' sS sI l) (K:Kn g h L):
  ∃XS XI,mf XS sS 1 ((VL (l.map Prod.fst)).map I)/\mf XI sI 1 ((VL (l.map Prod.snd)).map I)/\Kn g h' (L++(XS++XI)):=by
 obtain⟨XS,XI,oS,oI,K'⟩:=t
 exact⟨XS,XI,oS,oI,K.app K'.le K'.new K'.mem K'.nd⟩
section
variable {g h:Hp} {L XS XI:List (Nat×Blk)} {sS sI tS tI:Sl} {xs ys:List Int} {cS cI:List Value} {k0:Int} {R:Value->Hp->Prop}
theorem ue (h1:IntS h sS xs/\IntS h sI ys) (h2:IntS h tS xs/\IntS h tI ys) (k:R (.bool true) h):kI #[.agg #[sS.v,sI.v], .agg #[tS.v,tI.v]] h R:=by
 refine ACalls.drop (LV ?_)
 refine uf_ ?_
 have K0:=Kn.nil h
 (with_reducible apply Kn.al);(assumption);(intro b6 h3 K1 l1 hb6)
 (with_reducible apply Kn.al);(assumption);(intro b8 h4 K2 l2 hb8)
 repeat' (refine kr_ ?_)
 refine wm (h1.1.mono K2.le) (h2.1.mono K2.le) ⟨_,rfl,aC (by simp) ?_⟩
 repeat' (refine kr_ ?_)
 refine wm (h1.2.mono K2.le) (h2.2.mono K2.le) ⟨_,rfl,aC (by simp) ⟨h,K2.le,k⟩⟩
theorem Et {A X B:List (Nat×Blk)} {s:Sl} {cs:List Value} (o:mf X s 1 cs) (K:Kn g h (A++(X++B))) (h0:0<=k0) (hk:k0+s.n<=9223372036854775807)
  (k: ∀h' X',mf X' s 1 (cw k0 s.n)->Kn g h' (A++(X'++B))->R (I (k0+s.n)) h'):gD #[s.v,I k0] h R:=by
 have sw: ∀Y:List (Nat×Blk),(A++(Y++B)).Perm ((A++B)++Y):=fun Y=>by
  rw [List.append_assoc]
  exact List.Perm.append_left A List.perm_append_comm
 have K':=K.perm (sw X)
 refine MQ (o.own K') h0 hk fun h' l o' _=>?_
 obtain⟨X',oX',K2⟩:=o.mark K' l o'
 exact k h' X' oX' (K2.perm (sw X').symm)
theorem LI {Z:List (Nat×Blk)} (oS:mf XS sS 1 cS) (oI:mf XI sI 1 cI) (K:Kn g h (L++(XS++(XI++Z)))) (h0:0<=k0) (hk:k0+sS.n+sI.n<=9223372036854775807)
  (k: ∀h' XS' XI',mf XS' sS 1 (cw k0 sS.n)->mf XI' sI 1 (cw (k0+sS.n) sI.n)->Kn g h' (L++(XS'++(XI'++Z)))->R (I (k0+sS.n+sI.n)) h'):kO #[.agg #[sS.v,sI.v],I k0] h R:=by
 refine xu ?_
 refine uf_ ?_
 refine Kn.al K fun b5 h1 K1 l1 hb5=>?_
 (refine kr_ ?_)
 refine Et (A:=(b5, .inl ⟨[sS.v,sI.v],2,false⟩)::L) oS K1 h0 (by omega) fun h2 XS' oS' K2=>⟨_,rfl,?_⟩
 refine Kn.rd K2 (.head _) (x:=sI) rfl ?_
 rw [<-List.append_assoc]at K2
 refine Et oI K2 (by omega) (by omega) fun h3 XI' oI' K3=>⟨_,rfl,?_⟩
 rw [List.append_assoc]at K3
 have nd:=K3.nd
 rw [List.cons_append,List.map_cons,List.nodup_cons]at nd
 exact k h3 XS' XI' oS' oI' (K3.sub (fun e he=> .tail _ he) nd.2)
theorem Aa (h1:SlC h sS 1 (cw k0 sS.n)) (h2:SlC h sI 1 (cw (k0+sS.n) sI.n)) (h0:0<=k0) (hk:k0+sS.n+sI.n<=9223372036854775807)
  (k:R (I (k0+sS.n+sI.n)) h):nC #[.agg #[sS.v,sI.v],I k0] h R:=by
 refine ACalls.drop (Gl ?_)
 refine uf_ ?_
 have K0:=Kn.nil h
 (with_reducible apply Kn.al);(assumption);(intro b5 h3 K1 l1 hb5)
 (refine kr_ ?_)
 refine Cr (h1.mono K1.le) h0 (by omega) ⟨_,rfl,aC (by rw [decide_eq_false_iff_not];omega) ?_⟩
 (refine kr_ ?_)
 refine Cr (h2.mono K1.le) (by omega) (by omega) ⟨_,rfl,aC (by rw [decide_eq_false_iff_not];omega) ⟨h,K1.le,k⟩⟩
end
structure Hw where
 kind:Int
 depth:Int
 tr:List (Nat×Nat)
 bd:Bd
def VrX (h h':Hp) (sS sI sN:Sl) (p:Hw):Prop:=
 ∃XS XI XN,mf XS sS 1 ((VL (p.tr.map Prod.fst)).map I)/\mf XI sI 1 ((VL (p.tr.map Prod.snd)).map I)/\mf XN sN 3 (cW p.bd.ns)/\Kn h h' (XS++(XI++XN))
theorem VrX.up {h g h1 h5:Hp} {b6:Nat} {sS sI sN:Sl} {p:Hw} (t:VrX g h1 sS sI sN p) (lg:h.le g) (h6:g b6≠none) (l5:h.le h5) (kp: ∀c,c≠b6->h5 c=h1 c):VrX h h5 sS sI sN p:=by
 obtain⟨XS,XI,XN,oS,oI,oN,K⟩:=t
 refine⟨XS,XI,XN,oS,oI,oN,l5,fun e he=>?_,fun e he=>aF lg (K.new e he),K.nd⟩
 have hne:e.1≠b6:=by
  intro e6
  have h1:=K.new e he
  rw [e6]at h1;exact h6 h1
 rw [kp _ hne];exact K.mem e he
theorem VrX.mono {h h1 h2:Hp} {sS sI sN:Sl} {p:Hw} (t:VrX h h1 sS sI sN p) (l12:h1.le h2):VrX h h2 sS sI sN p:=by
 obtain⟨XS,XI,XN,oS,oI,oN,K⟩:=t
 exact⟨XS,XI,XN,oS,oI,oN,K.mono l12⟩
theorem VrX.le {h h':Hp} {sS sI sN:Sl} {p:Hw} (t:VrX h h' sS sI sN p):h.le h':=by obtain⟨_,_,_,_,_,_,K⟩:=t;exact K.le
theorem LS (sz:Nat):mf [] ⟨none,0,0⟩ sz []:=⟨by simp,by simp, .inl ⟨rfl,rfl⟩⟩
theorem VrX.ofTr {h h':Hp} {sS sI:Sl} {l:List (Nat×Nat)} {k d:Int} (t:TrX h h' sS sI l):VrX h h' sS sI ⟨none,0,0⟩ ⟨k,d,l,kc⟩:=by
 obtain⟨XS,XI,oS,oI,K⟩:=t
 exact⟨XS,XI, [],oS,oI,LS 3,by rw [List.append_nil];exact K⟩
theorem VrX.nil {h h':Hp} {k d:Int} (l:h.le h'):VrX h h' ⟨none,0,0⟩ ⟨none,0,0⟩ ⟨none,0,0⟩ ⟨k,d, [],kc⟩:=VrX.ofTr (TrX.nil l)
theorem VrX.add {g h h':Hp} {L:List (Nat×Blk)} {sS sI sN:Sl} {p:Hw} (t:VrX h h' sS sI sN p) (K:Kn g h L):
  ∃XS XI XN,mf XS sS 1 ((VL (p.tr.map Prod.fst)).map I)/\mf XI sI 1 ((VL (p.tr.map Prod.snd)).map I)/\mf XN sN 3 (cW p.bd.ns)/\Kn g h' (L++(XS++(XI++XN))):=by
 obtain⟨XS,XI,XN,oS,oI,oN,K'⟩:=t
 exact⟨XS,XI,XN,oS,oI,oN,K.app K'.le K'.new K'.mem K'.nd⟩
def VrS (h:Hp) (sS sI sN:Sl) (p:Hw):Prop:=IntS h sS (VL (p.tr.map Prod.fst))/\IntS h sI (VL (p.tr.map Prod.snd))/\SlC h sN 3 (cW p.bd.ns)
theorem VrS.mono {h h':Hp} {sS sI sN:Sl} {p:Hw} (l:h.le h') (t:VrS h sS sI sN p):VrS h' sS sI sN p:=⟨t.1.mono l,t.2.1.mono l,t.2.2.mono l⟩
def MG (X:List (Nat×Blk)) (M:MSl) (m:ah):Prop:=
 ∃XN XI XE XB XH,X=XN++(XI++(XE++(XB++(XH++ []))))/\cd XN M.no 9 (m.nodes.flatMap nodeCells)/\cd XI M.ini 2 (m.inits.flatMap bindCells)/\cd XE M.nex 2 (m.nexts.flatMap bindCells)/\
  cd XB M.bad 1 (m.bads.map I)/\cd XH M.hol 1 (m.holds.map I)
abbrev noM :MSl:=⟨⟨none,0,0⟩,⟨none,0,0⟩,⟨none,0,0⟩,⟨none,0,0⟩,⟨none,0,0⟩⟩
abbrev noP :ah:=⟨[], [], [], [], []⟩
theorem MG.nil :MG [] noM noP:=⟨[], [], [], [], [],rfl,cG 9,cG 2,cG 2,cG 1,cG 1⟩
section
variable {g h:Hp} {A X:List (Nat×Blk)} {M:MSl} {m:ah}
theorem cd.slcOf {X:List (Nat×Blk)} {s:Sl} {sz:Nat} {cs:List Value} (o:cd X s sz cs) (hn:s.n<=9223372036854775807) (m: ∀e∈X,h e.1=some e.2):SlC h s sz cs:=(o.buf m).slc_of hn
theorem MG.lens (o:MG X M m):M.no.n=m.nodes.length/\M.ini.n=m.inits.length/\M.nex.n=m.nexts.length/\M.bad.n=m.bads.length/\M.hol.n=m.holds.length/\M.no.n<=M.no.c:=by
 obtain⟨XN,XI,XE,XB,XH,_,a,b,c,d,e⟩:=o
 have h1:=a.1;have h2:=b.1;have h3:=c.1;have h4:=d.1;have h5:=e.1;have h6:=a.2.1
 rw [cm (m:=9) (fun _=>rfl)]at h1
 rw [cm (m:=2) (fun _=>rfl)]at h2 h3
 rw [List.length_map]at h4 h5
 omega
theorem MG.blk (o:MG X M m) (hn:0<m.nodes.length): ∃b x,M.no.a=some ⟨b,0,none⟩/\(b,x)∈X:=by
 have hl:=o.lens
 obtain⟨XN,XI,XE,XB,XH,rfl,a,_⟩:=o
 rcases a.2.2 with ⟨_,h0,_⟩|⟨b,ha,rfl⟩
 ·rw [h0]at hl;have:=hl.1;dsimp only at this;omega
 ·exact⟨b,_,ha,List.mem_append_left _ (.head _)⟩
theorem MG.modelS (o:MG X M m) (hm:bU m) (K:Kn g h (A++X)):aO h M m:=by
 have hl:=o.lens
 have hm':=hm.nodes;have h2:=hm.inits;have h3:=hm.nexts;have h4:=hm.bads;have h5:=hm.holds
 obtain⟨XN,XI,XE,XB,XH,rfl,a,b,c,d,e⟩:=o
 have mem: ∀x∈XN++(XI++(XE++(XB++(XH++ [])))),h x.1=some x.2:=fun x hx=>K.mem x (List.mem_append_right _ hx)
 refine⟨a.slcOf (by omega) fun x hx=>mem x (by simp [hx]),b.slcOf (by omega) fun x hx=>mem x (by simp [hx]),c.slcOf (by omega) fun x hx=>mem x (by simp [hx]),
  d.slcOf (by omega) fun x hx=>mem x (by simp [hx]),e.slcOf (by omega) fun x hx=>mem x (by simp [hx]),hl.2.2.2.2.2⟩
end
theorem Kn.tl {g h:Hp} {L:List (Nat×Blk)} {e:Nat×Blk} (K:Kn g h (e::L)):Kn g h L:=K.sub (fun x hx=> .tail _ hx) (by have:=K.nd;rw [List.map_cons,List.nodup_cons]at this;exact this.2)
theorem Kn.sw {g h:Hp} {L:List (Nat×Blk)} {a b:Nat×Blk} (K:Kn g h (a::b::L)):Kn g h (b::a::L):=K.perm (List.Perm.swap ..)
section
variable {g h:Hp} {L L':List (Nat×Blk)} {b:Nat} {M M':MSl}
end
theorem Upd.app {L L' X:List (Nat×Blk)} {b:Nat} {x y:Blk} (u:Upd L b x y L'):Upd (L++X) b x y (L'++X):=by
 induction u with
 |head=>exact .head
 |tail _ ih=>exact .tail ih
inductive Pk {α:Type}:List α->α->List α->Prop
 |head {L:List α} {a:α}:Pk (a::L) a L
 |tail {L L':List α} {a e:α}:Pk L a L'->Pk (e::L) a (e::L')
theorem Pk.perm {α:Type} {L L':List α} {a:α} (u:Pk L a L'):L.Perm (a::L'):=by
 induction u with
 |head=>exact List.Perm.refl _
 |tail _ ih=>exact(List.Perm.cons _ ih).trans (List.Perm.swap ..)
structure DZ (m:ah) (N:Nat):Prop where
 nodes:m.nodes.length<=N
 names: ∀n∈m.nodes,n.name.size<=100
 inits:m.inits.length<=N
 nexts:m.nexts.length<=N
 bads:m.bads.length<=N
 holds:m.holds.length<=N
theorem DZ.set {m:ah} {N i:Nat} (d:DZ m N) {n:NodeP} (h2:n.name.size<=100):DZ {m with nodes:=m.nodes.set i n} N:=
 ⟨by have:=d.nodes;simp;omega,fun x hx=>by rcases List.mem_or_eq_of_mem_set hx with hx|rfl;exact d.names x hx;exact h2,d.inits,d.nexts,d.bads,d.holds⟩
theorem DS {h:Hp} {M:MSl} {m:ah} {x:Int} {R:Value->Hp->Prop} (hs:aO h M m) (hm:bU m) (hc:aG m=0)
  (kf: ∀h',¬(0<=x/\x<(2^ak m.nodes 36:Nat))->h.le h'->R (.tuple #[.slice none 0 0, .bool false]) h')
  (kt: ∀(c:Nat) out h',x=c->c<2^ak m.nodes 36->h.le h'->IntSS h' out ((dM m.nodes (stP m) c).map VL)->R (.tuple #[Sl.v out, .bool true]) h'):jB #[aQ M,I x] h R:=by
 apply AK
 refine uf_ ?_
 have g:=cE hc
 have n8:=g.n8
 have hp2:2^ak m.nodes 36<=2^8:=Nat.pow_le_pow_right (by omega) n8
 have hp0:0<2^ak m.nodes 36:=Nat.two_pow_pos _
 have K0:=Kn.nil h
 (with_reducible apply Kn.al);(assumption);(intro b8 h1 K1 l1 hb8)
 clear K0
 have hs1:=hs.mono K1.le
 refine ar (fun J=>J (!decide (0<=x/\x<=((2^ak m.nodes 36:Nat):Int)-1)) h1) ?_ (fun J hJ=>?_)
 rotate_left
 ·repeat' (refine kr_ ?_)
  refine cj hs1 hm ⟨_,rfl,?_⟩
  refine aC (by rw [hc];rfl) ?_
  repeat' (refine kr_ ?_)
  refine iU hs1 hm ⟨_,rfl,?_⟩
  rw [cX (by omega),if_neg (by omega),cv (by omega),bX (by omega) (by omega)]
  exact eu ⟨_,rfl,hJ⟩
 refine ad (fun e=>kf h1 (fun q=>by
  have e':decide (0<=x/\x<=((2^ak m.nodes 36:Nat):Int)-1)=false:=by rw [Bool.not_eq_true']at e;exact e
  have:=of_decide_eq_false e'
  omega) K1.le) (fun e=>?_)
 have hx:0<=x/\x<(2^ak m.nodes 36:Nat):=by
  have:decide (0<=x/\x<=((2^ak m.nodes 36:Nat):Int)-1)=true:=by simpa using e
  have:=of_decide_eq_true this
  omega
 clear e kf
 obtain⟨c,rfl⟩: ∃c:Nat,x=c:=⟨x.toNat,by omega⟩
 repeat' (refine kr_ ?_)
 refine cJ hs1 hm fun t h2 l2 it=>⟨_,rfl,?_⟩
 have K2:=K1.mono l2
 (refine kr_ ?_)
 refine fI (hs1.mono l2) hm g.ok it (fun p hp=>kZ hp) (fW g 36) (by omega) (by rw [eK g];omega) fun out h3 l3 io=>⟨_,rfl,?_⟩
 exact kt c out h3 rfl (by omega) (Hp.le_trans K2.le l3) io
theorem EG {h:Hp} {M:MSl} {m:ah} {x:Int} {R:Value->Hp->Prop} (hs:aO h M m) (hm:bU m) (hc:aG m=0)
  (kf: ∀h',¬(0<=x/\x<(2^ak m.nodes 35:Nat))->h.le h'->R (.tuple #[.slice none 0 0, .bool false]) h')
  (kt: ∀(c:Nat) out h',x=c->c<2^ak m.nodes 35->h.le h'->IntSS h' out ((dM m.nodes (inP m) c).map VL)->R (.tuple #[Sl.v out, .bool true]) h'):kx #[aQ M,I x] h R:=by
 apply Je
 refine uf_ ?_
 have g:=cE hc
 have n8:=g.k5
 have hp2:2^ak m.nodes 35<=2^5:=Nat.pow_le_pow_right (by omega) n8
 have hp0:0<2^ak m.nodes 35:=Nat.two_pow_pos _
 have K0:=Kn.nil h
 (with_reducible apply Kn.al);(assumption);(intro b8 h1 K1 l1 hb8)
 clear K0
 have hs1:=hs.mono K1.le
 refine ar (fun J=>J (!decide (0<=x/\x<=((2^ak m.nodes 35:Nat):Int)-1)) h1) ?_ (fun J hJ=>?_)
 rotate_left
 ·repeat' (refine kr_ ?_)
  refine cj hs1 hm ⟨_,rfl,?_⟩
  refine aC (by rw [hc];rfl) ?_
  repeat' (refine kr_ ?_)
  refine iU hs1 hm ⟨_,rfl,?_⟩
  rw [cX (by omega),if_neg (by omega),cv (by omega),bX (by omega) (by omega)]
  exact eu ⟨_,rfl,hJ⟩
 refine ad (fun e=>kf h1 (fun q=>by
  have e':decide (0<=x/\x<=((2^ak m.nodes 35:Nat):Int)-1)=false:=by rw [Bool.not_eq_true']at e;exact e
  have:=of_decide_eq_false e'
  omega) K1.le) (fun e=>?_)
 have hx:0<=x/\x<(2^ak m.nodes 35:Nat):=by
  have:decide (0<=x/\x<=((2^ak m.nodes 35:Nat):Int)-1)=true:=by simpa using e
  have:=of_decide_eq_true this
  omega
 clear e kf
 obtain⟨c,rfl⟩: ∃c:Nat,x=c:=⟨x.toNat,by omega⟩
 repeat' (refine kr_ ?_)
 refine cJ hs1 hm fun t h2 l2 it=>⟨_,rfl,?_⟩
 have K2:=K1.mono l2
 (refine kr_ ?_)
 refine fI (hs1.mono l2) hm g.ok it (fun p hp=>kZ hp) (fW g 35) (by omega) (by rw [wK g];omega) fun out h3 l3 io=>⟨_,rfl,?_⟩
 exact kt c out h3 rfl (by omega) (Hp.le_trans K2.le l3) io
set_option maxHeartbeats 1000000 in
theorem BD {h:Hp} {M:MSl} {m:ah} {sS sI:Sl} {xs ys:List Int} {i c d:Nat} {R:Value->Hp->Prop} (hs:aO h M m) (hm:bU m) (g:cr m) (h1:IntS h sS xs) (h2:IntS h sI ys)
  (hc:xs[i]?=some (c:Int)) (hd:ys[i]?=some (d:Int)) (hcl:c<2^ak m.nodes 36) (hdl:d<2^ak m.nodes 35)
  (k: ∀s t h',h.le h'->IntSS h' s ((dM m.nodes (stP m) c).map VL)->IntSS h' t ((dM m.nodes (inP m) d).map VL)->R (.tuple #[Sl.v s,Sl.v t]) h'):
  ji #[aQ M, .agg #[sS.v,sI.v],I (i:Nat)] h R:=by
 apply SL
 refine uf_ ?_
 have n8:=g.n8
 have k5:=g.k5
 have hp8:2^ak m.nodes 36<=2^8:=Nat.pow_le_pow_right (by omega) n8
 have hp5:2^ak m.nodes 35<=2^5:=Nat.pow_le_pow_right (by omega) k5
 have K0:=Kn.nil h
 (with_reducible apply Kn.al);(assumption);(intro b10 g1 K1 l1 hb10)
 (with_reducible apply Kn.al);(assumption);(intro b12 g2 K2 l2 hb12)
 clear K1 K0
 have hs2:=hs.mono K2.le
 have ls:=h1.len
 have lt:=h2.len
 have i1:=get_lt hc
 have i2:=get_lt hd
 obtain⟨b26,o26,ha,hca⟩:=h1.get hc
 obtain⟨b40,o40,hb,hcb⟩:=h2.get hd
 have x26:=gf hca
 have x40:=gf hcb
 replace hca:=K2.le.cell hca
 replace hcb:=K2.le.cell hcb
 repeat' (refine kr_ ?_)
 refine⟨b26,o26,ha,by omega,by omega,_,by rw [Int.toNat_natCast];exact hca,?_⟩
 repeat' (refine kr_ ?_)
 refine⟨b40,o40,hb,by omega,by omega,_,by rw [Int.toNat_natCast];exact hcb,?_⟩
 refine cJ hs2 hm fun t1 g3 l3 it=>⟨_,rfl,?_⟩
 have K3:=K2.mono l3
 repeat' (refine kr_ ?_)
 refine fI (hs2.mono l3) hm g.ok it (fun p hp=>kZ hp) (fW g 36) (by omega) (by rw [eK g];omega) fun out1 g4 l4 io1=>⟨_,rfl,?_⟩
 have K4:=K3.mono l4
 clear K3
 repeat' (refine kr_ ?_)
 refine cJ (hs.mono K4.le) hm fun t2 g5 l5 it2=>⟨_,rfl,?_⟩
 have K5:=K4.mono l5
 clear K4
 repeat' (refine kr_ ?_)
 refine fI (hs.mono K5.le) hm g.ok it2 (fun p hp=>kZ hp) (fW g 35) (by omega) (by rw [wK g];omega) fun out2 g6 l6 io2=>⟨_,rfl,?_⟩
 exact k out1 out2 g6 (Hp.le_trans K5.le l6) (io1.mono (Hp.le_trans l5 l6)) io2
def pK (m:ah) (xs ys:List Int):Bool:=
 (decide (aG m=0)&&(decide (1<=(xs.length:Int)/\(xs.length:Int)<=301)&&decide (ys.length=xs.length)))&&(xs.all (kR (ak m.nodes 36))&&ys.all (kR (ak m.nodes 35)))
theorem yc {h:Hp} {M:MSl} {m:ah} {sS sI:Sl} {xs ys:List Int} {R:Value->Hp->Prop} (hs:aO h M m) (hm:bU m) (h1:IntS h sS xs) (h2:IntS h sI ys)
  (k:R (.bool (pK m xs ys)) h):kg #[.agg #[sS.v,sI.v],aQ M] h R:=by
 refine ACalls.drop (B5 ?_)
 refine uf_ ?_
 have K0:=Kn.nil h
 (with_reducible apply Kn.al);(assumption);(intro b9 g1 K1 l1 hb9)
 (with_reducible apply Kn.al);(assumption);(intro b11 g2 K2 l2 hb11)
 clear K1 K0
 have hs2:=hs.mono K2.le
 have ls:=h1.len
 have lt:=h2.len
 unfold pK at k
 repeat' (refine kr_ ?_)
 refine iY hs2 hm ⟨_,rfl,?_⟩
 refine ad (fun e=>?_) (fun e=>?_)
 rotate_left
 ·repeat' (refine kr_ ?_)
  rw [decide_eq_false (fun q=>by rw [q]at e;simp at e)]at k
  exact⟨h,K2.le,k⟩
 have hc:aG m=0:=by simpa using e
 have g:=cE hc
 have n8:=g.n8
 have k5:=g.k5
 rw [decide_eq_true hc,Bool.true_and]at k
 repeat' (refine kr_ ?_)
 rw [ls]
 refine iM ⟨_,rfl,ad (fun e=>?_) (fun e=>?_)⟩
 rotate_left
 ·repeat' (refine kr_ ?_)
  rw [e]at k
  exact⟨h,K2.le,k⟩
 rw [e,Bool.true_and]at k
 repeat' (refine kr_ ?_)
 refine ad (fun e=>?_) (fun e=>?_)
 rotate_left
 ·repeat' (refine kr_ ?_)
  rw [decide_eq_false (fun q=>by rw [lt,q,ls]at e;simp at e)]at k
  exact⟨h,K2.le,k⟩
 rw [decide_eq_true (show ys.length=xs.length by have:=of_decide_eq_true e;omega),Bool.true_and]at k
 repeat' (refine kr_ ?_)
 refine gu hs2 hm ⟨_,rfl,?_⟩
 repeat' (refine kr_ ?_)
 refine KZ (h1.mono K2.le) (by omega) ⟨_,rfl,ad (fun e=>?_) (fun e=>?_)⟩
 rotate_left
 ·repeat' (refine kr_ ?_)
  rw [e]at k
  exact⟨h,K2.le,k⟩
 rw [e,Bool.true_and]at k
 repeat' (refine kr_ ?_)
 refine gu hs2 hm ⟨_,rfl,?_⟩
 repeat' (refine kr_ ?_)
 exact KZ (h2.mono K2.le) (by omega) ⟨_,rfl,⟨h,K2.le,k⟩⟩
theorem jR {n:Nat} {x:Int}:kR n x=true↔0<=x/\x<(2^n:Nat):=by
 unfold kR
 rw [decide_eq_true_eq];omega
theorem GT {h:Hp} {M:MSl} {m:ah} {x:Int} {R:Value->Hp->Prop} (hs:aO h M m) (hm:bU m) (hc:aG m=0)
  (k: ∀s h',h.le h'->R (.tuple #[Sl.v s, .bool (kR (ak m.nodes 36) x)]) h'):jB #[aQ M,I x] h R:=by
 refine DS hs hm hc (fun h' e l=>?_) (fun c out h' e hlt l io=>?_)
 ·have:=k ⟨none,0,0⟩ h' l
  rw [Bool.eq_false_iff.2 fun q=>e (jR.1 q)]at this
  exact this
 ·have:=k out h' l
  rw [jR.2 ⟨by omega,by omega⟩]at this
  exact this
theorem Gu {h:Hp} {M:MSl} {m:ah} {x:Int} {R:Value->Hp->Prop} (hs:aO h M m) (hm:bU m) (hc:aG m=0)
  (k: ∀s h',h.le h'->R (.tuple #[Sl.v s, .bool (kR (ak m.nodes 35) x)]) h'):kx #[aQ M,I x] h R:=by
 refine EG hs hm hc (fun h' e l=>?_) (fun c out h' e hlt l io=>?_)
 ·have:=k ⟨none,0,0⟩ h' l
  rw [Bool.eq_false_iff.2 fun q=>e (jR.1 q)]at this
  exact this
 ·have:=k out h' l
  rw [jR.2 ⟨by omega,by omega⟩]at this
  exact this
theorem qc {α:Type} {l:List α} {p:α->Bool} {i:Nat} {x:α} (h:l[i]?=some x) (e:p x=false):l.all p=false:=by
 rw [Bool.eq_false_iff]
 intro q
 rw [List.all_eq_true.1 q x (List.mem_of_getElem? h)]at e;cases e
theorem FS {α:Type} {l:List α} {p:α->Bool} {i:Nat} {x:α} (h:l[i]?=some x) (e:p x=true) (q:(l.take i).all p=true):(l.take (i+1)).all p=true:=by
 rw [List.take_add_one,h,List.all_append,q]
 simp [e]
def Dx (m:ah) (xs ys:List Int):Bool:=decide (aG m=0)&&(decide (1<=(xs.length:Int)/\(xs.length:Int)<=301)&&decide (ys.length=xs.length))
set_option maxHeartbeats 1000000 in
theorem yZ {h:Hp} {M:MSl} {m:ah} {sS sI:Sl} {xs ys:List Int} {R:Value->Hp->Prop} (hs:aO h M m) (hm:bU m) (h1:IntS h sS xs) (h2:IntS h sI ys)
  (k:R (.bool (pK m xs ys)) h):qL #[aQ M, .agg #[sS.v,sI.v]] h R:=by
 refine ACalls.drop (JZ ?_)
 refine uf_ ?_
 have K0:=Kn.nil h
 (with_reducible apply Kn.al);(assumption);(intro b9 g1 K1 l1 hb9)
 (with_reducible apply Kn.al);(assumption);(intro b11 g2 K2 l2 hb11)
 clear K1 K0
 have hs2:=hs.mono K2.le
 have ls:=h1.len
 have lt:=h2.len
 replace k:R (.bool (Dx m xs ys&&(xs.all (kR (ak m.nodes 36))&&ys.all (kR (ak m.nodes 35))))) h:=k
 refine ar (fun J=>(Dx m xs ys=false->J true g2)/\
  (aG m=0->xs.length<=301->ys.length=xs.length->Dx m xs ys=true->J false g2)) ⟨fun e=>?_,fun hc hl hl2 e=>?_⟩ (fun J hJ=>?_)
 ·rw [e]at k
  exact aN rfl ⟨h,K2.le,k⟩
 ·rw [e,Bool.true_and]at k
  refine aC rfl ?_
  have g:=cE hc
  refine au xs.length (fun i vs h'=>vs= [.pointer (some ⟨b9,0,none⟩), .pointer (some ⟨b11,0,none⟩),I (i:Nat)]/\(xs.take i).all (kR (ak m.nodes 36))=true/\(ys.take i).all (kR (ak m.nodes 35))=true/\
   Kn h h' ((b11, .inl ⟨[sS.v,sI.v],2,false⟩)::(b9, .inl ⟨aH M,5,false⟩):: [])) ⟨rfl,by simp,by simp,K2⟩ ?_
  clear K2
  rintro i _ h3 next hi ⟨rfl,a1,a2,K3⟩ hnx
  refine⟨b9,0,b11,0,_,rfl,?_⟩
  (refine kr_ ?_)
  by_cases hlt:i<xs.length
  rotate_left
  ·refine aC (by simp [ls];omega) ?_
   rw [List.take_of_length_le (by omega)]at a1 a2
   rw [a1,a2]at k
   exact⟨h,K3.le,k⟩
  refine aN (by simp [ls];omega) ?_
  obtain⟨x,hx⟩: ∃x,xs[i]?=some x:=⟨_,List.getElem?_eq_getElem hlt⟩
  obtain⟨y,hy⟩: ∃y,ys[i]?=some y:=⟨_,List.getElem?_eq_getElem (by omega)⟩
  obtain⟨b,o,ha,hca⟩:=(h1.mono K3.le).get hx
  repeat' (refine kr_ ?_)
  refine⟨b,o,ha,by omega,by omega,_,by rw [Int.toNat_natCast];exact hca,?_⟩
  refine GT (hs.mono K3.le) hm hc fun s1 h4 l4=>⟨_,_,rfl,?_⟩
  have K4:=K3.mono l4
  clear K3 hca ha o b
  obtain⟨b,o,ha,hca⟩:=(h2.mono K4.le).get hy
  repeat' (refine kr_ ?_)
  refine⟨b,o,ha,by omega,by omega,_,by rw [Int.toNat_natCast];exact hca,?_⟩
  refine Gu (hs.mono K4.le) hm hc fun s2 h5 l5=>⟨_,_,rfl,?_⟩
  have K5:=K4.mono l5
  clear K4
  refine ar (fun J=>J (!(kR (ak m.nodes 36) x&&kR (ak m.nodes 35) y))) ?_ (fun J hJ=>?_)
  ·refine ad (fun e=>?_) (fun e=>?_)
   ·rw [Bool.not_eq_true',Bool.and_eq_false_iff]at e
    have:(xs.all (kR (ak m.nodes 36))&&ys.all (kR (ak m.nodes 35)))=false:=by
     rcases e with e|e
     ·rw [qc hx e,Bool.false_and]
     ·rw [qc hy e,Bool.and_false]
    rw [this]at k
    exact⟨h,K5.le,k⟩
   ·rw [Bool.not_eq_false',Bool.and_eq_true]at e
    rw [ay (by omega)]
    exact hnx hlt _ _ ⟨rfl,FS hx e.1 a1,FS hy e.2 a2,K5⟩
  ·refine ad (fun e=>?_) (fun e=>?_)
   ·rw [Bool.not_eq_true']at e;rw [e]at hJ;exact hJ
   ·rw [Bool.not_eq_false']at e;rw [e,Bool.true_and]at hJ;exact hJ
 ·repeat' (refine kr_ ?_)
  refine cj hs2 hm ⟨_,rfl,?_⟩
  refine ad (fun e=>hJ.1 (by unfold Dx;rw [decide_eq_false (fun q=>by rw [q]at e;simp at e)];rfl)) (fun e=>?_)
  have hc:aG m=0:=by simpa using e
  repeat' (refine kr_ ?_)
  rw [ls]
  refine eu ⟨_,rfl,ad (fun e=>hJ.1 (by rw [Bool.not_eq_true']at e;unfold Dx;rw [e,Bool.false_and,Bool.and_false])) (fun e=>?_)⟩
  rw [Bool.not_eq_false']at e
  have e2:=of_decide_eq_true e
  repeat' (refine kr_ ?_)
  by_cases hl:ys.length=xs.length
  ·rw [show ((sI.n:Int) !=((sS.n:Nat):Int))=false by rw [lt,ls,hl];simp]
   exact hJ.2 hc (by omega) hl (by unfold Dx;rw [decide_eq_true hc,e,decide_eq_true hl];rfl)
  ·rw [show ((sI.n:Int) !=((sS.n:Nat):Int))=true by rw [lt,ls,bne_iff_ne];omega]
   exact hJ.1 (by unfold Dx;rw [decide_eq_false hl,Bool.and_false,Bool.and_false])
theorem kz (m:ah) (ps:List Nat) (c:Nat):jM m.nodes ps (dM m.nodes ps c):=by rw [jI];exact LG _ _ _
abbrev cAt (xs:List Int) (i:Nat):Nat:=(xs.getD i 0).toNat
theorem gF {m:ah} {xs ys:List Int} (h:pK m xs ys=true):aG m=0/\1<=xs.length/\xs.length<=301/\ys.length=xs.length/\
  (∀i,i<xs.length->xs[i]?=some ((cAt xs i:Nat):Int)/\cAt xs i<2^ak m.nodes 36)/\ ∀i,i<xs.length->ys[i]?=some ((cAt ys i:Nat):Int)/\cAt ys i<2^ak m.nodes 35:=by
 unfold pK at h
 simp only [Bool.and_eq_true,decide_eq_true_eq]at h
 obtain⟨⟨h1,⟨h2,h3⟩,h4⟩,h5,h6⟩:=h
 have key: ∀{n:Nat} {l:List Int},l.all (kR n)=true-> ∀i,i<l.length->l[i]?=some ((cAt l i:Nat):Int)/\cAt l i<2^n:=by
  intro n l ha i hi
  have e:l[i]?=some l[i]:=List.getElem?_eq_getElem hi
  have hb:=jR.1 (List.all_eq_true.1 ha _ (List.getElem_mem hi))
  have hc:cAt l i=l[i].toNat:=by unfold cAt;rw [List.getD_eq_getElem?_getD,e];rfl
  rw [hc,e]
  exact⟨by rw [Int.toNat_of_nonneg hb.1],by omega⟩
 exact⟨h1,by omega,by omega,h4,key h5,fun i hi=>key h6 i (by omega)⟩
theorem Dm {h:Hp} {s:Sl} {xs:List Int} {x:Int} {i:Nat} {R:Value->Hp->Prop} (hs:IntS h s xs) (hi:xs[i]?=some x) (hf: ∀j,j<i->xs[j]?≠some x) (k:R (I (i:Nat)) h):dL #[s.v,I x] h R:=by
 apply pV
 refine uf_ ?_
 have ls:=hs.len
 have hb:=hs.bound
 have hil:=get_lt hi
 refine au i (fun j vs h'=>vs= [s.v,I x,I (s.n:Nat),I (j:Nat)]/\h'=h) ⟨rfl,rfl⟩ ?_
 rintro j _ _ next hj ⟨rfl,rfl⟩ hnx
 refine⟨s,_,_,_,rfl,?_⟩
 refine aN (by rw [decide_eq_true_eq];omega) ?_
 obtain⟨y,hy⟩: ∃y,xs[j]?=some y:=⟨_,List.getElem?_eq_getElem (by omega)⟩
 obtain⟨b,o,ha,hc⟩:=hs.get hy
 refine⟨b,o,ha,by omega,by omega,_,by rw [Int.toNat_natCast];exact hc,?_⟩
 by_cases hlt:j<i
 ·refine aC (by rw [beq_eq_false_iff_ne];exact fun e=>hf j hlt (by rw [e];exact hy)) ?_
  rw [ay (by omega)]
  exact hnx hlt _ _ ⟨rfl,rfl⟩
 ·obtain rfl:j=i:=by omega
  rw [hi]at hy
  obtain rfl:=Option.some.inj hy
  exact aN (by simp) k
abbrev jc (xs ys:List Int):List (Nat×Nat):=(List.range xs.length).map fun i=>(cAt xs i,cAt ys i)
theorem ux {xs ys:List Int} {i:Nat} (h:i<xs.length):(jc xs ys)[i]?=some (cAt xs i,cAt ys i):=by
 rw [List.getElem?_map,List.getElem?_range h];rfl
theorem xq (l:List NodeP) (k:Int):(av l k).Nodup:=List.Nodup.sublist List.filter_sublist List.nodup_range
theorem Ew {α:Type} {l:List α} (nd:l.Nodup) {i:Nat} {p:α} (h:l[i]?=some p): ∀j,j<i->l[j]?≠some p:=by
 intro j hj e
 have h1:=get_lt h
 have h2:=get_lt e
 rw [List.getElem?_eq_getElem h1]at h
 rw [List.getElem?_eq_getElem h2]at e
 exact absurd ((List.getElem_inj nd (h₀:=h2) (h₁:=h1)).1 ((Option.some.inj e).trans (Option.some.inj h).symm)) (by omega)
theorem DP {α:Type} {l:List α} (nd:l.Nodup) {i j:Nat} {p:α} (h:l[i]?=some p) (e:l[j]?=some p):i=j:=by
 rcases Nat.lt_trichotomy i j with h1|h1|h1
 ·exact absurd h (Ew nd e i h1)
 ·exact h1
 ·exact absurd e (Ew nd h j h1)
theorem P1 {binds:List BindP} (ag:gH (binds.map (·.state))=false) {b:BindP} (hb:b∈binds) {p:Nat} (e:b.state=(p:Int)):bO binds p=some b.node.toNat:=by
 cases hx:bO binds p with
 |none=>exact absurd e (Tp hx b hb)
 |some k=>
  obtain⟨b',hb',hs',rfl⟩:=dW hx
  obtain⟨i,hi⟩:=List.getElem?_of_mem hb
  obtain⟨j,hj⟩:=List.getElem?_of_mem hb'
  have key: ∀{i j:Nat} {x y:BindP},binds[i]?=some x->binds[j]?=some y->x.state=y.state-> ¬i<j:= @fun i j x y hi hj e h=>by
   refine Ga ag hj _ ?_ e
   have h1:=get_lt hi
   refine List.mem_of_getElem? (i:=i) ?_
   rw [List.getElem?_take,if_pos h];exact hi
  have h1:=key hi hj (e.trans hs'.symm)
  have h2:=key hj hi (hs'.trans e.symm)
  obtain rfl:i=j:=by omega
  rw [hi]at hj
  rw [Option.some.inj hj]
theorem Nu {l:List Nat} {i:Nat} {x:Nat} (h:l[i]?=some x):(VL l)[i]?=some (x:Int):=by unfold VL;rw [List.getElem?_map,h];rfl
theorem afe {l:List Nat} {i:Nat} {x:Nat} (h:(VL l)[i]?=some (x:Int)):l[i]?=some x:=by
 unfold VL at h
 rw [List.getElem?_map,Option.map_eq_some_iff]at h
 obtain⟨y,hy,e⟩:=h
 rw [hy];exact congrArg some (by omega)
theorem gQ.out {h:Hp} {t:Sl} {vs:List (List Nat)} {X:List (Nat×Blk)} {s:Sl} {ts:List Sl} (e:gQ h t vs) (he: ∀p,p<vs.length->0<(vs.getD p []).length) (o:cd X s 1 (ts.map Sl.v)) (m: ∀e∈X,h e.1=some e.2)
  (hts: ∀(j:Nat) (u:Sl),ts[j]?=some u-> ∃ws,(0<vs.length->0<ws.length)/\gQ h u ws):gQ (h.wo (X.map Prod.fst)) t vs:=by
 rcases o.2.2 with ⟨rfl,_,_⟩|⟨b,_,rfl⟩
 ·exact e.mono fun c x hc=>by simp [Hp.wo,hc]
 have hb:=m _ (.head _)
 have kp: ∀c,c≠b->(h.wo [b]) c=h c:=fun c hc=>by simp [Hp.wo,hc]
 refine⟨e.1,e.2.1,fun p hp=>?_⟩
 obtain⟨b',o',t',h1,h2,h3⟩:=e.2.2 p hp
 refine⟨b',o',t',h1,?_,h3.keepN hb (xA ts) kp⟩
 have hne:b'≠b:=by
  rintro rfl
  rw [ax hb,List.getElem?_map,Option.map_eq_some_iff]at h2
  obtain⟨u,hu,hv⟩:=h2
  obtain⟨ws,hw,hpw⟩:=hts _ u hu
  obtain rfl:u=t':=by
   obtain⟨a1,a2,a3⟩:=u
   obtain⟨c1,c2,c3⟩:=t'
   cases hv;rfl
  obtain⟨b2,o2,u2,g1,g2,_⟩:=hpw.2.2 0 (hw (by omega))
  obtain⟨b3,o3,g3,g4,_⟩:=IntS.elt h3 (i:=0) (he p hp)
  rw [g1]at g3
  cases g3
  rw [g2]at g4
  cases g4
 unfold Hp.cell at h2⊢
 rw [show (Hp.wo h (List.map Prod.fst [(b,(Sum.inl ⟨ts.map Sl.v,s.c*1,false⟩:Blk))])) b'=h b' from kp b' hne]
 exact h2
theorem xM {m:ah} {ps:List Nat} {c:Nat}: ∀x∈dM m.nodes ps c,x.length<=4:=by
 intro x hx
 unfold dM at hx
 obtain⟨i,_,rfl⟩:=List.mem_map.1 hx
 rw [sA]
 exact dj m.nodes (ps.getD i 0)
theorem LQ {l:List NodeP} {s:Int} (h:cV l s=true) (hk:gt l s=36): ∃p:Nat,s=(p:Int)/\p∈av l 36:=by
 have hp:=eG.1 h
 refine⟨s.toNat,by omega,?_⟩
 unfold av
 rw [List.mem_filter,List.mem_range]
 have hl:s.toNat<l.length:=by omega
 refine⟨hl,?_⟩
 unfold gt at hk
 rw [List.getElem?_eq_getElem hl]at hk⊢
 simpa using hk
theorem P8 {m:ah} (g:cr m): ∀b∈m.inits,∃p:Nat,b.state=(p:Int)/\p∈stP m/\0<=b.node/\b.node<(kC m).length/\0<((kC m).getD b.node.toNat []).length/\((kC m).getD b.node.toNat []).length<=4/\
  dZ m p=some (kH (aE m.nodes p) ((kC m).getD b.node.toNat [])):=by
 intro b hb
 obtain⟨q1,q2,q3,_⟩:=fR (g.ini b hb)
 obtain⟨p,ep,hp⟩:=LQ q1 q3
 obtain⟨v1,v2,v3,v4,_⟩:=xD g hb
 refine⟨p,ep,hp,v1,by rw [(xQ g).len];exact v2,v3,v4,?_⟩
 unfold dZ
 rw [P1 (kS g.twice).2.1 hb ep];rfl
theorem pX {l:List NodeP} {ps:List Nat} {i p:Nat} (h:ps[i]?=some p):(cy l ps).getD i []=List.replicate (aE l p) 0:=by
 unfold cy
 rw [List.getD_eq_getElem?_getD,List.getElem?_map,h];rfl
theorem PX (b n:Nat) {h:Hp} {z:Nat} {ro:Bool} (hn:n<=1000) (f:h b=some (.inl ⟨aR #[I 0] n,z,ro⟩)):IntS h ⟨some ⟨b,0,none⟩,n,n⟩ (VL (List.replicate n 0)):=by
 rw [cD]at f
 refine⟨by dsimp only;omega,by simp [aX], .inr ⟨b,0,rfl,?_⟩⟩
 have hc:(VL (List.replicate n 0)).map I=List.replicate n (I 0):=by simp [VL]
 rw [hc];exact aw f
theorem gQ.offB {h0 h:Hp} {t out:Sl} {ts:List Sl} {vs:List (List Nat)} (e:gQ h t vs) (pn:afa h0 t) (b0:Buf h0 out 1 (ts.map Sl.v)) (b1:Buf h out 1 (ts.map Sl.v)):gQ (h.offS out) t vs:=by
 refine⟨e.1,e.2.1,fun p hp=>?_⟩
 obtain⟨b,o,t',h1,h2,h3⟩:=e.2.2 p hp
 refine⟨b,o,t',h1,?_,h3.offL b1⟩
 have hn:=pn b o h1
 have:(h.offS out) b=h b:=yX (b0.fresh_ne hn)
 unfold Hp.cell at h2⊢
 rw [this];exact h2
set_option maxHeartbeats 1000000 in
theorem A0 {h:Hp} {M:MSl} {m:ah} {kind:Int} {R:Value->Hp->Prop} (hs:aO h M m) (hm:bU m) (g:cr m)
  (k: ∀(out:Sl) (ts:List Sl) (h':Hp),h.le (h'.offS out)->out.n=(av m.nodes kind).length->ts.length=(av m.nodes kind).length->Buf h' out 1 (ts.map Sl.v)->
   (∀(j:Nat) (t:Sl),ts[j]?=some t->IntS (h'.offS out) t (VL ((cy m.nodes (av m.nodes kind)).getD j [])))->R (Sl.v out) h'):ma #[aQ M,I kind] h R:=by
 apply Nh
 refine uf_ ?_
 have hpl:=dU m.nodes kind
 have hnl:=g.nl
 have K0:=Kn.nil h
 (with_reducible apply Kn.al);(assumption);(intro b8 h1 K1 l1 hb8)
 clear K0
 repeat' (refine kr_ ?_)
 refine cJ (hs.mono K1.le) hm fun pt h2 l2 ip=>⟨_,rfl,?_⟩
 have f8:=l2 _ _ (K1.at (.head _))
 have hs2:=hs.mono (Hp.le_trans K1.le l2)
 have l02:=Hp.le_trans K1.le l2
 have hpn:pt.n=(av m.nodes kind).length:=by have:=ip.len;rw [aX]at this;exact this
 clear K1 l1 hb8 l2
 refine au (av m.nodes kind).length (fun i vs h'=> ∃(ts:List Sl) (out:Sl),vs= [.pointer (some ⟨b8,0,none⟩),pt.v,out.v,I (i:Nat)]/\h2.le (h'.offS out)/\out.n=i/\ts.length=i/\Buf h' out 1 (ts.map Sl.v)/\
  (∀(j:Nat) (t:Sl),ts[j]?=some t->IntS (h'.offS out) t (VL ((cy m.nodes (av m.nodes kind)).getD j [])))) ⟨[],⟨none,0,0⟩,rfl,Hp.le_refl _,rfl,rfl,fu _ _,fun j t ht=>by simp at ht⟩ ?_
 rintro i _ h3 next hi ⟨ts,out,rfl,l3',hon,htl,hbuf,hts⟩ hnx
 have l23:=Hp.le_trans l3' (aW h3 out)
 refine⟨b8,0,pt,out,_,rfl,?_⟩
 by_cases hlt:i<(av m.nodes kind).length
 rotate_left
 ·obtain rfl:i=(av m.nodes kind).length:=by omega
  refine aC (by rw [decide_eq_false_iff_not];omega) ?_
  exact k out ts h3 (Hp.le_trans l02 l3') hon htl hbuf hts
 refine aN (by rw [decide_eq_true_eq];omega) ?_
 obtain⟨p,hpi⟩: ∃p,(av m.nodes kind)[i]?=some p:=⟨_,List.getElem?_eq_getElem hlt⟩
 have hpm:=bR g kind p (List.mem_of_getElem? hpi)
 obtain⟨bp,op,hap,hcp⟩:=(ip.mono l23).get (ic hpi)
 refine⟨bp,op,hap,by omega,by omega,?_⟩
 have K3:=Kn.of l23
 (refine kr_ ?_)
 refine⟨_,by rw [Int.toNat_natCast];exact hcp,?_⟩
 obtain⟨bn,on,han,hpn',c6,c7,w1,w16⟩:=(hs2.mono l23).nodes.sortc2 hpm g.ok
 refine⟨bn,on,han,by omega,hpn',_,c6,_,c7,?_⟩
 refine gy ⟨_,rfl,?_⟩
 rw [nY g.ok hpm]
 have hc4:=dj m.nodes p
 refine⟨by omega,by omega,by omega,by omega,?_⟩
 refine aj fun b33 h4 hb33 l4 f33=>?_
 rw [Int.toNat_natCast,Nat.mul_one]at f33
 have ht:=PX b33 _ (by omega) f33
 rw [Int.toNat_natCast]
 refine aj fun b h5 hb l5 f5=>?_
 have l35:=Hp.le_trans l4 l5
 have l35o:=bA out l35
 refine dF (hbuf.mono l35) (by omega) (by omega) (by omega) ⟨b,0,rfl,aw f5⟩ (by simp) rfl ?_
 intro s' h6 hs'n hbuf' l6' _
 rw [ay (by omega)]
 have l36:=Hp.le_trans l35o l6'
 have hbuf'':Buf h6 s' 1 ((ts++ [(⟨some ⟨b33,0,none⟩,aE m.nodes p,aE m.nodes p⟩:Sl)]).map Sl.v):=by rw [List.map_append];exact hbuf'
 refine hnx hlt _ _ ⟨ts++ [⟨some ⟨b33,0,none⟩,aE m.nodes p,aE m.nodes p⟩],s',rfl,Hp.le_trans l3' l36,by omega,by simp;omega,hbuf'',fun j u hu=>?_⟩
 by_cases hj:j<i
 ·rw [List.getElem?_append_left (by omega)]at hu
  exact(hts j u hu).mono l36
 ·have hju:=get_lt hu
  simp at hju
  obtain rfl:j=i:=by omega
  rw [List.getElem?_append_right (by omega),htl,Nat.sub_self]at hu
  simp at hu;subst hu
  rw [pX hpi]
  exact((ht.mono l5).offL (hbuf.mono l35)).mono l6'
theorem Lc {m:ah} (g:cr m) {p q:Nat} (h:bO m.inits p=some q):q<m.nodes.length/\0<((kC m).getD q []).length/\((kC m).getD q []).length<=4:=by
 obtain⟨b,hb,_,rfl⟩:=dW h
 obtain⟨v1,v2,v3,v4,_⟩:=xD g hb
 exact⟨by omega,v3,v4⟩
theorem So (m:ah) {i p:Nat} (h:(stP m)[i]?=some p):(fG m).getD i []=(dZ m p).getD (List.replicate (aE m.nodes p) 0):=by
 unfold fG mu
 rw [List.getD_eq_getElem?_getD,List.getElem?_map,h];rfl
theorem Bv (m:ah):(fG m).length=(stP m).length:=by unfold fG mu;rw [List.length_map]
set_option maxHeartbeats 1000000 in
theorem zi {h:Hp} {M:MSl} {m:ah} {R:Value->Hp->Prop} (hs:aO h M m) (hm:bU m) (g:cr m)
  (k: ∀out h',h.le h'->IntSS h' out ((fG m).map VL)->R (Sl.v out) h'):qN #[aQ M] h R:=by
 apply LR
 refine uf_ ?_
 have hpl:(stP m).length<=m.nodes.length:=dU m.nodes 36
 have hnl:=g.nl
 have hil:=g.il
 have K0:=Kn.nil h
 (with_reducible apply Kn.al);(assumption);(intro b7 h1 K1 l1 hb7)
 clear K0
 repeat' (refine kr_ ?_)
 refine cJ (hs.mono K1.le) hm fun pt h2 l2 ip=>⟨_,rfl,?_⟩
 have K2:=K1.mono l2
 clear K1
 repeat' (refine kr_ ?_)
 refine A0 (hs.mono K2.le) hm g fun out ts h3 l3 hon htl hbuf hts=>⟨_,rfl,?_⟩
 have l3':=Hp.le_trans l3 (aW _ _)
 replace hon:out.n=(stP m).length:=hon
 replace htl:ts.length=(stP m).length:=htl
 have K3:=K2.mono l3'
 repeat' (refine kr_ ?_)
 refine GU (hs.mono K3.le) hm g fun vt h4 l4 hvn hpv pn=>⟨_,rfl,?_⟩
 have f7:=l4 _ _ (K3.at (.head _))
 have hpn:pt.n=(stP m).length:=by have:=ip.len;rw [aX]at this;exact this
 have f7o:(h4.offS out) b7=some (.inl ⟨aH M,5,false⟩):=bA out l4 _ _ (l3 _ _ (K2.at (.head _)))
 have hpvo:gQ (h4.offS out) vt (kC m):=hpv.offB pn hbuf (hbuf.mono l4)
 replace hbuf:=hbuf.mono l4
 replace hts: ∀(j p:Nat) (t:Sl),(stP m)[j]?=some p->ts[j]?=some t->IntS (h4.offS out) t (VL (List.replicate (aE m.nodes p) 0)):=fun j p t hp ht=>by
  have:=(hts j t ht).mono (bA out l4)
  rwa [pX hp]at this
 have l04:h.le (h4.offS out):=Hp.le_trans K2.le (Hp.le_trans l3 (bA out l4))
 have ipo:IntS (h4.offS out) pt (VL (stP m)):=ip.mono (Hp.le_trans l3 (bA out l4))
 clear K3 K2 hb7 l1 l2 l3' hpv pn ip l4 l3 f7
 refine au (stP m).length (fun i vs h'=> ∃ts:List Sl,vs= [.pointer (some ⟨b7,0,none⟩),pt.v,out.v,vt.v,I (i:Nat)]/\(h4.offS out).le (h'.offS out)/\Buf h' out 1 (ts.map Sl.v)/\ts.length=(stP m).length/\
  ∀(j p:Nat) (t:Sl),(stP m)[j]?=some p->ts[j]?=some t->IntS (h'.offS out) t (VL (if j<i then(dZ m p).getD (List.replicate (aE m.nodes p) 0)else List.replicate (aE m.nodes p) 0)))
  ⟨ts,rfl,Hp.le_refl _,hbuf,htl,fun j p t hp ht=>by rw [if_neg (by omega)];exact hts j p t hp ht⟩ ?_
 clear hbuf hts htl ts
 rintro i _ h5 next hi ⟨ts,rfl,l45,hbuf,htl,hts⟩ hnx
 have lo:=aW h5 out
 have l5:=Hp.le_trans l45 lo
 refine⟨b7,0,pt,out,vt,_,rfl,?_⟩
 by_cases hlt:i<(stP m).length
 rotate_left
 ·obtain rfl:i=(stP m).length:=by omega
  refine aC (by rw [decide_eq_false_iff_not];omega) ?_
  refine k out h5 (Hp.le_trans l04 l5) ⟨ts,by rw [List.length_map,Bv];exact htl,hbuf.slc_of (by omega),fun j h1 h2=>?_⟩
  have hj:j<(stP m).length:=by omega
  obtain⟨p,hp⟩: ∃p,(stP m)[j]?=some p:=⟨_,List.getElem?_eq_getElem hj⟩
  have:=(hts j p _ hp (List.getElem?_eq_getElem h1)).mono lo
  rw [if_pos hj,<-So m hp,List.getD_eq_getElem?_getD,List.getElem?_eq_getElem (by rw [Bv];exact hj)]at this
  rw [List.getElem_map];exact this
 refine aN (by rw [decide_eq_true_eq];omega) ?_
 obtain⟨p,hpi⟩: ∃p,(stP m)[i]?=some p:=⟨_,List.getElem?_eq_getElem hlt⟩
 have hpm:=bR g 36 p (List.mem_of_getElem? hpi)
 obtain⟨bp,op,hap,hcp⟩:=(ipo.mono l5).get (ic hpi)
 have K5:=Kn.of l5
 have f7:=l5 _ _ f7o
 have K05:=Kn.of (g:=h4.offS out) l5
 refine⟨bp,op,hap,by omega,by omega,?_⟩
 repeat' (refine kr_ ?_)
 refine⟨_,by rw [Int.toNat_natCast];exact hcp,?_⟩
 have hbn: ∀b∈m.inits,0<=b.node:=fun b hb=>(xD g hb).1
 refine lm (hs.mono (Hp.le_trans l04 l5)).inits (by omega) hbn ⟨_,rfl,?_⟩
 cases hbo:bO m.inits p with
 |none=>
  rw [show gX m.inits p= -1 from by unfold gX;rw [hbo]]
  refine aC (by simp) ?_
  rw [ay (by omega)]
  refine hnx hlt _ _ ⟨ts,rfl,l45,hbuf,htl,fun j p' t hp ht=>?_⟩
  have:=hts j p' t hp ht
  by_cases hj:j<i
  ·rw [if_pos hj]at this;rw [if_pos (by omega)];exact this
  ·rw [if_neg hj]at this
   by_cases hj2:j=i
   ·subst hj2
    rw [hpi]at hp
    obtain rfl:=Option.some.inj hp
    rw [if_pos (by omega),show dZ m p=none by unfold dZ;rw [hbo];rfl];exact this
   ·rw [if_neg (by omega)];exact this
 |some q=>
  rw [show gX m.inits p=(q:Int)from by unfold gX;rw [hbo]]
  refine aN (by simp) ?_
  obtain⟨hq,v3,v4⟩:=Lc g hbo
  obtain⟨bv,ov,u,hua,hun,huc,huv⟩:=(hpvo.mono l5).at (p:=(q:Int)) (by omega) (by rw [(xQ g).len];omega)
  rw [Int.toNat_natCast]at huv
  obtain⟨t,hti⟩: ∃t,ts[i]?=some t:=⟨_,List.getElem?_eq_getElem (by omega)⟩
  have htI:=hts i p t hpi hti
  rw [if_neg (by omega)]at htI
  have htn:=htI.len
  rw [aX,List.length_replicate]at htn
  have hc4:=dj m.nodes p
  refine⟨bv,ov,hua,by omega,hun,?_⟩
  rcases hbuf.2.2 with ⟨_,h0,_⟩|⟨bo,hao,hbo'⟩
  ·omega
  refine⟨bo,0,hao,by omega,by omega,u,huc,t,by rw [ax hbo',Int.toNat_natCast,Nat.zero_add,Nat.mul_one,List.getElem?_map,hti];rfl,?_⟩
  rw [htn]
  refine GY huv v3 v4 hc4 fun t2 h6 l6 ht2=>⟨_,rfl,?_⟩
  have l6o:=bA out l6
  have hbuf6:=hbuf.mono l6
  refine hbuf6.wr (x:=t2) (by omega) fun h7 hbuf' ho=>?_
  rw [ay (by omega)]
  refine hnx hlt _ _ ⟨ts.set i t2,rfl,by rw [ho];exact Hp.le_trans l45 l6o,hbuf',by rw [List.length_set];exact htl,fun j p' w hp hw=>?_⟩
  rw [ho]
  by_cases hji:j=i
  ·subst hji
   rw [hpi]at hp
   obtain rfl:=Option.some.inj hp
   rw [List.getElem?_set_self (by omega)]at hw
   obtain rfl:=Option.some.inj hw
   rw [if_pos (by omega),show dZ m p=some (kH (aE m.nodes p) ((kC m).getD q [])) by unfold dZ;rw [hbo];rfl]
   exact ht2.offL hbuf6
  ·rw [List.getElem?_set_ne (fun e=>hji e.symm)]at hw
   have:=(hts j p' w hp hw).mono l6o
   by_cases hj:j<i
   ·rw [if_pos hj]at this;rw [if_pos (by omega)];exact this
   ·rw [if_neg hj]at this;rw [if_neg (by omega)];exact this
theorem wv {m:ah} (g:cr m) (s i:Nat):mQ m s i<2^ak m.nodes 36:=by
 have:=xK (jD g (dq g s i).fit)
 rwa [eK g]at this
theorem cd.one {X:List (Nat×Blk)} {s:Sl} {sz:Nat} {cs:List Value} (o:cd X s sz cs) (hn:s.n≠0): ∃b,s.a=some ⟨b,0,none⟩/\X= [(b, .inl ⟨cs,s.c*sz,false⟩)]:=by
 rcases o.2.2 with ⟨_,rfl,_⟩|h
 ·exact absurd rfl hn
 ·exact h
theorem Kn.ints {g h:Hp} {L:List (Nat×Blk)} {s:Sl} {b z:Nat} {ro:Bool} {xs:List Int} (K:Kn g h L) (m:(b, .inl ⟨xs.map I,z,ro⟩)∈L) (ha:s.a=some ⟨b,0,none⟩) (hn:xs.length=s.n) (hl:s.n<=1000000):IntS h s xs:=
 ⟨by omega,by rw [List.length_map,Nat.mul_one];exact hn, .inr ⟨b,0,ha,aw (K.at m)⟩⟩
theorem jp (a b:Sl):xB [a.v,b.v]:=xA [a,b]
theorem Kn.cut {g h:Hp} {A L:List (Nat×Blk)} (K:Kn g h (A++L)): ∃g0,Kn g g0 A/\Kn g0 h L:=by
 have nd:=K.nd
 rw [List.map_append,List.nodup_append]at nd
 have KL:Kn g h L:=K.sub (fun e he=>List.mem_append_right _ he) nd.2.1
 refine⟨h.wo (L.map Prod.fst),⟨KL.leBase,fun e he=>?_,fun e he=>K.new e (List.mem_append_left _ he),nd.1⟩,KL.base⟩
 rw [uW fun hm=>nd.2.2 e.1 (List.mem_map.2 ⟨e,he,rfl⟩) e.1 hm rfl]
 exact K.mem e (List.mem_append_left _ he)
theorem nA (xs ys:List Int):(jc xs ys).length=xs.length:=by rw [List.length_map,List.length_range]
inductive Ord (ns:List Nd):Nat->List Nat->List Nat->Prop
 |leaf {r:Nat} {d:List Nat}:r<2->Ord ns r d d
 |seen {r:Nat} {d:List Nat}:2<=r->r∈d->Ord ns r d d
 |node {r:Nat} {d d1 d2:List Nat} {nd:Nd}:2<=r->r∉d->ns[r-2]?=some nd->Ord ns nd.lo d d1->Ord ns nd.hi d1 d2->Ord ns r d (d2++ [r])
theorem Kn.weak {g g0 h:Hp} {L:List (Nat×Blk)} (K:Kn g0 h L) (l:g.le g0):Kn g h L:=⟨Hp.le_trans l K.le,K.mem,fun e he=>aF l (K.new e he),K.nd⟩
theorem Ord.len {ns:List Nd} {r:Nat} {d o:List Nat} (h:Ord ns r d o):d.length<=o.length:=by
 induction h with
 |leaf=>exact Nat.le_refl _
 |seen=>exact Nat.le_refl _
 |node _ _ _ _ _ i1 i2=>rw [List.length_append];omega
theorem Upd.back {L L':List (Nat×Blk)} {b:Nat} {x y:Blk} (u:Upd L b x y L'): ∀A:List (Nat×Blk),Upd (A++L) b x y (A++L'):=by
 intro A
 induction A with
 |nil=>exact u
 |cons e A ih=>exact .tail ih
structure iX (Xs:List (List (Nat×Blk))) (ts:List Sl) (sz:Nat) (css:List (List Value)):Prop where
 l1:Xs.length=ts.length
 l2:css.length=ts.length
 at_: ∀(k:Nat) X t cs,Xs[k]?=some X->ts[k]?=some t->css[k]?=some cs->cd X t sz cs
theorem uN {α:Type} {Xs:List (List α)} {k:Nat} {X:List α} (h:Xs[k]?=some X):Xs.flatten=(Xs.take k).flatten++(X++(Xs.drop (k+1)).flatten):=by
 have hl:=get_lt h
 rw [List.getElem?_eq_getElem hl]at h
 conv=>lhs;rw [<-List.take_append_drop k Xs,List.flatten_append,List.drop_eq_getElem_cons hl,List.flatten_cons,Option.some.inj h]
theorem Ll {α:Type} {Xs:List (List α)} {k:Nat} (hk:k<Xs.length) (X':List α):(Xs.set k X').flatten=(Xs.take k).flatten++(X'++(Xs.drop (k+1)).flatten):=by
 have h:(Xs.set k X')[k]?=some X':=by rw [List.getElem?_set_self hk]
 rw [uN h,List.take_set_of_le (Nat.le_refl k),List.drop_set_of_lt (by omega)]
theorem iX.set {Xs:List (List (Nat×Blk))} {ts:List Sl} {sz:Nat} {css:List (List Value)} (o:iX Xs ts sz css) (k:Nat) {X:List (Nat×Blk)} {t:Sl} {cs:List Value} (g:cd X t sz cs):iX (Xs.set k X) (ts.set k t) sz (css.set k cs):=by
 refine⟨by simp [o.l1],by simp [o.l2],fun j Y u ds hY hu hd=>?_⟩
 by_cases e:k=j
 ·subst e
  have h1:=get_lt hY
  rw [List.length_set]at h1
  have e1:=o.l1
  have e2:=o.l2
  rw [List.getElem?_set_self h1]at hY
  rw [List.getElem?_set_self (by omega)]at hu hd
  cases hY;cases hu;cases hd
  exact g
 ·rw [List.getElem?_set_ne e]at hY hu hd
  exact o.at_ j Y u ds hY hu hd
theorem iX.get {Xs:List (List (Nat×Blk))} {ts:List Sl} {sz:Nat} {css:List (List Value)} (o:iX Xs ts sz css) {k:Nat} {t:Sl} {cs:List Value} (ht:ts[k]?=some t) (hc:css[k]?=some cs): ∃X,Xs[k]?=some X/\cd X t sz cs:=by
 obtain⟨X,hX⟩: ∃X,Xs[k]?=some X:=⟨_,List.getElem?_eq_getElem (by have:=get_lt ht;have:=o.l1;omega)⟩
 exact⟨X,hX,o.at_ k X t cs hX ht hc⟩
theorem iX.keys {Xs Xs':List (List (Nat×Blk))} {b:Nat} {x y:Blk} {A:List (Nat×Blk)} (u:Upd (A++Xs.flatten) b x y (A++Xs'.flatten)):Xs'.flatten.map Prod.fst=Xs.flatten.map Prod.fst:=by
 have:=u.keys
 rw [List.map_append,List.map_append]at this
 exact List.append_cancel_left this
structure ze (X:List (Nat×Blk)) (s:Sl) (ds:List Bd) (XO:List (Nat×Blk)) (Xs:List (List (Nat×Blk))) (ts:List Sl):Prop where
 eq:X=XO++Xs.flatten
 l1:Xs.length=ts.length
 l2:ds.length=ts.length
 out:cd XO s 3 ((ts.zip ds).flatMap fun e=> [I e.2.v,e.1.v,I e.2.r])
 inn: ∀(k:Nat) Y t d,Xs[k]?=some Y->ts[k]?=some t->ds[k]?=some d->mf Y t 3 (cW d.ns)
theorem IntS.woN {h:Hp} {t:Sl} {xs:List Int} {L:List (Nat×Blk)} (e:IntS h t xs) (m: ∀x∈L,h x.1=some x.2) (hn: ∀x∈L,∃cs z ro,x.2= .inl ⟨cs,z,ro⟩/\xB cs):IntS (h.wo (L.map Prod.fst)) t xs:=by
 refine⟨e.1,e.2.1,?_⟩
 rcases e.2.2 with h0|⟨b,o,ha,hc⟩
 ·exact .inl h0
 by_cases hx:xs= []
 ·subst hx
  exact .inl (by have:=e.len;simpa using this)
 refine .inr ⟨b,o,ha,fun i v hv=>?_⟩
 have hne:b∉L.map Prod.fst:=by
  intro hm
  obtain⟨y,hy,rfl⟩:=List.mem_map.1 hm
  obtain⟨cs,z,ro,hr,hno⟩:=hn y hy
  have hb:=m y hy
  rw [hr]at hb
  obtain⟨x,xs',rfl⟩:=List.exists_cons_of_ne_nil hx
  have:=hc 0 (I x) rfl
  rw [ax hb]at this
  exact hno _ _ this
 have:=hc i v hv
 unfold Hp.cell at this⊢
 rw [uW hne];exact this
theorem G7 (n:Nat) (f:Nat->Bool):xB ((List.range n).map fun c=> .bool (f c)):=by
 intro j i h
 rw [List.getElem?_map,Option.map_eq_some_iff]at h
 obtain⟨x,_,e⟩:=h
 cases e
theorem ze.snoc {X XO Y:List (Nat×Blk)} {Xs:List (List (Nat×Blk))} {ts:List Sl} {s s' t:Sl} {ds:List Bd} {d:Bd} {XO':List (Nat×Blk)} (o:ze X s ds XO Xs ts) (oY:mf Y t 3 (cW d.ns))
  (oO:cd XO' s' 3 (((ts.zip ds).flatMap fun e=> [I e.2.v,e.1.v,I e.2.r])++ [I d.v,t.v,I d.r])):ze (XO'++(Xs++ [Y]).flatten) s' (ds++ [d]) XO' (Xs++ [Y]) (ts++ [t]):=by
 refine⟨rfl,by simp [o.l1],by simp [o.l2],?_,fun k Z u e hZ hu he=>?_⟩
 ·rw [List.zip_append o.l2.symm,List.flatMap_append]
  simpa using oO
 ·have e1:=o.l1
  have e2:=o.l2
  by_cases hk:k<ts.length
  ·rw [List.getElem?_append_left (by omega)]at hZ hu he
   exact o.inn k Z u e hZ hu he
  ·have:=get_lt hu
   simp at this
   obtain rfl:k=ts.length:=by omega
   rw [List.getElem?_append_right (by omega),show ts.length-Xs.length=0 by omega]at hZ
   rw [List.getElem?_append_right (Nat.le_refl _),Nat.sub_self]at hu
   rw [List.getElem?_append_right (by omega),show ts.length-ds.length=0 by omega]at he
   simp at hZ hu he
   subst hZ;subst hu;subst he
   exact oY
theorem rD {α:Type} {l:List α} {i:Nat} {x:α} (h:l[i]?=some x):l.take (i+1)=l.take i++ [x]:=by rw [List.take_add_one,h];rfl
theorem iX.snoc {Xs:List (List (Nat×Blk))} {ts:List Sl} {sz:Nat} {css:List (List Value)} {X:List (Nat×Blk)} {t:Sl} {cs:List Value} (o:iX Xs ts sz css) (g:cd X t sz cs):iX (Xs++ [X]) (ts++ [t]) sz (css++ [cs]):=by
 have e1:=o.l1
 have e2:=o.l2
 refine⟨by simp [e1],by simp [e2],fun k Y u ds hY hu hd=>?_⟩
 by_cases hk:k<ts.length
 ·rw [List.getElem?_append_left (by omega)]at hY hu hd
  exact o.at_ k Y u ds hY hu hd
 ·have:=get_lt hu
  simp at this
  obtain rfl:k=ts.length:=by omega
  rw [List.getElem?_append_right (by omega),show ts.length-Xs.length=0 by omega]at hY
  rw [List.getElem?_append_right (Nat.le_refl _),Nat.sub_self]at hu
  rw [List.getElem?_append_right (by omega),show ts.length-css.length=0 by omega]at hd
  simp at hY hu hd
  subst hY;subst hu;subst hd
  exact g
theorem ze.get {X XO:List (Nat×Blk)} {Xs:List (List (Nat×Blk))} {ts:List Sl} {s:Sl} {ds:List Bd} {g h:Hp} {k:Nat} {d:Bd} (o:ze X s ds XO Xs ts) (K:Kn g h X) (hl:ds.length<=1000) (hk:ds[k]?=some d):
  ∃b q t,s.a=some (Addr.mk b q none)/\(0:Int)<=(k:Nat)/\((k:Nat):Int)<(s.n:Int)/\Hp.cell h b (q+Int.toNat ((k:Nat):Int)*3)=some (I d.v)/\Hp.cell h b ((q+Int.toNat ((k:Nat):Int)*3)+1)=some (Sl.v t)/\Hp.cell h b ((q+Int.toNat ((k:Nat):Int)*3)+2)=some (I d.r)/\SlC h t 3 (cW d.ns):=by
 have hkl:=get_lt hk
 have e1:=o.l1
 have e2:=o.l2
 obtain⟨t,ht⟩: ∃t,ts[k]?=some t:=⟨_,List.getElem?_eq_getElem (by omega)⟩
 obtain⟨Y,hY⟩: ∃Y,Xs[k]?=some Y:=⟨_,List.getElem?_eq_getElem (by omega)⟩
 have oY:=o.inn k Y t d hY ht hk
 have lo:=o.out.1
 rw [cm (m:=3) (fun _=>rfl),List.length_zip]at lo
 have hm1: ∀e∈XO,h e.1=some e.2:=fun e he=>K.mem e (by rw [o.eq];exact List.mem_append_left _ he)
 have hm2: ∀e∈Y,h e.1=some e.2:=fun e he=>K.mem e (by rw [o.eq];exact List.mem_append_right _ (List.mem_flatten.2 ⟨Y,List.mem_of_getElem? hY,he⟩))
 obtain⟨b,q,ha,hcc⟩:=SlC.get ((o.out.buf hm1).slc_of (by omega)) (by omega)
 have hz:(ts.zip ds)[k]?=some (t,d):=by
  rw [List.getElem?_zip_eq_some];exact⟨ht,hk⟩
 have cc: ∀j v,j<3-> [I d.v,t.v,I d.r][j]?=some v->Hp.cell h b ((q+k*3)+j)=some v:=fun j v hj hv=>by
  rw [Nat.add_assoc]
  refine hcc _ _ ?_
  rw [mA (m:=3) (fun _=>rfl) (ts.zip ds) k (t,d) j hz hj];exact hv
 refine⟨b,q,t,ha,by omega,by omega,?_,?_,?_,oY.slcOf hm2⟩
 ·rw [Int.toNat_natCast];exact cc 0 _ (by omega) rfl
 ·rw [Int.toNat_natCast];exact cc 1 _ (by omega) rfl
 ·rw [Int.toNat_natCast];exact cc 2 _ (by omega) rfl
theorem ze.len {X XO:List (Nat×Blk)} {Xs:List (List (Nat×Blk))} {ts:List Sl} {s:Sl} {ds:List Bd} (o:ze X s ds XO Xs ts):s.n=ds.length:=by
 have lo:=o.out.1
 have:=o.l2
 rw [cm (m:=3) (fun _=>rfl),List.length_zip]at lo
 omega
def sY (ts:List Sl) (es:List (Int×Int×List Value)):List Value:=(ts.zip es).flatMap fun e=> [I e.2.1,e.1.v,I e.2.2.1]
theorem uo (t:Sl) (ts:List Sl) (e:Int×Int×List Value) (es:List (Int×Int×List Value)):sY (t::ts) (e::es)=I e.1::t.v::I e.2.1::sY ts es:=rfl
theorem NS : ∀{ts:List Sl} {es:List (Int×Int×List Value)} {k:Nat} {e:Int×Int×List Value} (cs:List Value),es[k]?=some e->sY ts (es.set k (e.1,e.2.1,cs))=sY ts es
 | [],_,k,e,cs,_=>rfl
 |_::_, [],k,e,cs,_=>by simp
 |t::ts,e0::es,0,e,cs,h=>by cases h;rfl
 |t::ts,e0::es,k+1,e,cs,h=>by
  rw [List.set_cons_succ,uo,uo,NS cs (by simpa using h)]
structure CM (X:List (Nat×Blk)) (s:Sl) (es:List (Int×Int×List Value)) (XO:List (Nat×Blk)) (Xs:List (List (Nat×Blk))) (ts:List Sl):Prop where
 eq:X=XO++Xs.flatten
 l1:Xs.length=ts.length
 l2:es.length=ts.length
 out:cd XO s 3 (sY ts es)
 inn: ∀(k:Nat) Y t e,Xs[k]?=some Y->ts[k]?=some t->es[k]?=some e->mf Y t 3 e.2.2
theorem CM.len {X XO:List (Nat×Blk)} {Xs:List (List (Nat×Blk))} {ts:List Sl} {s:Sl} {es:List (Int×Int×List Value)} (o:CM X s es XO Xs ts):s.n=ts.length:=by
 have h1:=o.out.1
 have h2:=o.l2
 unfold sY at h1
 rw [cm (m:=3) (fun _=>rfl),List.length_zip]at h1
 omega
theorem CM.inner {g h h':Hp} {A X XO:List (Nat×Blk)} {Xs:List (List (Nat×Blk))} {ts:List Sl} {s t:Sl} {es:List (Int×Int×List Value)} {e:Int×Int×List Value} {k:Nat} {cs':List Value}
  (o:CM X s es XO Xs ts) (K:Kn g h (A++X)) (ht:ts[k]?=some t) (he:es[k]?=some e) (l:(h.wo t.used).le h') (o':Own h' t 3 cs'):
  ∃X' Xs',CM X' s (es.set k (e.1,e.2.1,cs')) XO Xs' ts/\Kn g h' (A++X'):=by
 have e1:=o.l1
 have hk:=get_lt ht
 obtain⟨Y,hY⟩: ∃Y,Xs[k]?=some Y:=⟨_,List.getElem?_eq_getElem (by omega)⟩
 have oY:=o.inn k Y t e hY ht he
 have K1:Kn g h ((A++XO++(Xs.take k).flatten++(Xs.drop (k+1)).flatten)++Y):=K.perm (by
  rw [o.eq,uN hY]
  simp only [List.append_assoc]
  exact((List.perm_append_comm.append_left _).append_left _).append_left _)
 obtain⟨Y',oY',K2⟩:=oY.mark K1 l o'
 refine⟨XO++(Xs.set k Y').flatten,Xs.set k Y',⟨rfl,by simp [o.l1],by simp [o.l2],by rw [NS _ he];exact o.out,fun j Z u e' hZ hu he'=>?_⟩,K2.perm ?_⟩
 ·by_cases q:k=j
  ·subst q
   rw [List.getElem?_set_self (get_lt hY)]at hZ
   rw [List.getElem?_set_self (get_lt he)]at he'
   cases hZ;cases he'
   rw [ht]at hu;cases hu
   exact oY'
  ·rw [List.getElem?_set_ne q]at hZ he'
   exact o.inn j Z u e' hZ hu he'
 ·rw [Ll (by omega)]
  simp only [List.append_assoc]
  exact((List.perm_append_comm.append_left _).append_left _).append_left _
theorem CM.own {g h:Hp} {A X XO:List (Nat×Blk)} {Xs:List (List (Nat×Blk))} {ts:List Sl} {s t:Sl} {es:List (Int×Int×List Value)} {e:Int×Int×List Value} {k:Nat}
  (o:CM X s es XO Xs ts) (K:Kn g h (A++X)) (ht:ts[k]?=some t) (he:es[k]?=some e):Own h t 3 e.2.2:=by
 have e1:=o.l1
 have hk:=get_lt ht
 obtain⟨Y,hY⟩: ∃Y,Xs[k]?=some Y:=⟨_,List.getElem?_eq_getElem (by omega)⟩
 have oY:=o.inn k Y t e hY ht he
 have K1:Kn g h ((A++XO++(Xs.take k).flatten++(Xs.drop (k+1)).flatten)++Y):=K.perm (by
  rw [o.eq,uN hY]
  simp only [List.append_assoc]
  exact((List.perm_append_comm.append_left _).append_left _).append_left _)
 exact oY.own K1
def Xr (h:Hp) (s:Sl) (ds:List Bd):Prop:=s.n=ds.length/\ ∀(k:Nat) d,ds[k]?=some d-> ∃b q t,s.a=some (Addr.mk b q none)/\Hp.cell h b (q+k*3)=some (I d.v)/\Hp.cell h b (q+k*3+1)=some (Sl.v t)/\Hp.cell h b (q+k*3+2)=some (I d.r)/\SlC h t 3 (cW d.ns)
theorem Xr.mono {h h':Hp} {s:Sl} {ds:List Bd} (o:Xr h s ds) (l:h.le h'):Xr h' s ds:=by
 refine⟨o.1,fun k d hk=>?_⟩
 obtain⟨b,q,t,ha,c0,c1,c2,hs⟩:=o.2 k d hk
 exact⟨b,q,t,ha,l.cell c0,l.cell c1,l.cell c2,hs.mono l⟩
end Go.Lead
