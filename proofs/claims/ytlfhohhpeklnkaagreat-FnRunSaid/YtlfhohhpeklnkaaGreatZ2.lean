/- What functions of the program and of the reference come to, walked one by one, and plain laws about it: part 3. No condition is added to the statement. -/
import Derived.Test.YtlfhohhpeklnkaaGreatZ1
namespace Go.Lead
open Go
set_option linter.unusedSimpArgs false
set_option linter.unusedVariables false
set_option maxRecDepth 100000
set_option maxHeartbeats 1000000
theorem ue (ts:List Sl):zi (ts.map Sl.v):=by
 have:=CL ts 0
 simpa using this
theorem IntS.offL {h:Hp} {s t:Sl} {xs:List Int} {ts:List Sl} (e:IntS h t xs) (hb:Buf h s 1 (ts.map Sl.v)):IntS (h.offS s) t xs:=by
 rcases hb.2.2 with ⟨ha,_,_⟩|⟨b,ha,hbb⟩
 ·unfold Hp.offS;rw [ha];exact e
 ·have ho:h.offS s=h.off b:=by unfold Hp.offS;rw [ha]
  rw [ho]
  refine e.keepN hbb (ue ts) fun c hc=>?_
  simp only [Hp.off,Hp.set];rw [if_neg hc]
theorem Buf.pval {h:Hp} {s:Sl} {ts:List Sl} {vs:List (List Nat)} (e:Buf h s 1 (ts.map Sl.v)) (hlen:ts.length=vs.length) (hn:s.n<=1048576) (ht: ∀(j:Nat) (t:Sl),ts[j]?=some t->IntS h t (VL (vs.getD j []))):fX h s vs:=by
 have hl:=e.1
 simp at hl
 refine⟨by omega,hn,fun p hp=>?_⟩
 rcases e.2.2 with ⟨_,h0,_⟩|⟨b,ha,hbb⟩
 ·omega
 ·refine⟨b,0,ts[p]'(by omega),ha,?_,ht p _ (List.getElem?_eq_getElem (by omega))⟩
  rw [aq hbb,Nat.zero_add,Nat.mul_one,List.getElem?_map,List.getElem?_eq_getElem (by omega)];rfl
def Ww (h:Hp) (s:Sl):Prop:= ∀b o,s.a=some (Addr.mk b o none)->h b=none
theorem oy {h:Hp} {M:MSl} {m:ai} {sS sI:Sl} {st inp:List (List Nat)} {R:Value->Hp->Prop} (hs:aN h M m) (hm:bW m) (hok:cm m.nodes=true) (hl:m.nodes.length<=60)
  (h1:IntSS h sS (st.map VL)) (f1:zf m.nodes 36 st) (h2:IntSS h sI (inp.map VL)) (f2:zf m.nodes 35 inp)
  (k: ∀t h',h.le h'->t.n=m.nodes.length->fX h' t (gT m.nodes st inp m.nodes.length)->Ww h t->R (Sl.v t) h'):cY #[aO M,sS.v,sI.v] h R:=by
 apply JH
 refine uf_ ?_
 have hn:=hs.nodes.len
 have hsn:sS.n=st.length:=by obtain⟨ts,e1,e2,_⟩:=h1;have:=e2.2.1;simp at this e1;omega
 have hin:sI.n=inp.length:=by obtain⟨ts,e1,e2,_⟩:=h2;have:=e2.2.1;simp at this e1;omega
 refine aj fun b9 h3 hb9 l3 f9=>?_
 refine av m.nodes.length (fun i vs h'=> ∃(ts:List Sl) (out:Sl),vs= [sS.v,sI.v, .pointer (some ⟨b9,0,none⟩),out.v,I (aU (m.nodes.take i) 36).length,I (aU (m.nodes.take i) 35).length,I i]/\
  h.le (h'.offS out)/\(h'.offS out) b9=some (.inl ⟨aw M,5,false⟩)/\out.n=i/\ts.length=i/\Buf h' out 1 (ts.map Sl.v)/\
  (∀(j:Nat) (t:Sl),ts[j]?=some t->IntS (h'.offS out) t (VL ((gT m.nodes st inp i).getD j []))))
  ⟨[],⟨none,0,0⟩,rfl,l3,f9,rfl,rfl,eG _ _,fun j t ht=>by simp at ht⟩ ?_
 clear f9 l3 hb9 h3
 rintro i _ h3 next hi ⟨ts,out,rfl,l3,f9,hon,htl,hbuf,hts⟩ hnx
 have lo:=bk h3 out
 have f9':=lo _ _ f9
 have l3':=Hp.le_trans l3 lo
 refine⟨sS,sI,_,_,out,_,_,_,rfl,?_⟩
 (refine az ?_)
 by_cases hlt:i<m.nodes.length
 rotate_left
 ·have hie:i=m.nodes.length:=by omega
  subst hie
  refine aD (by simp;omega) (k out h3 l3' hon ?_ fun b o hb=>?_)
  ·exact hbuf.pval (by rw [eE];omega) (by omega) fun j t ht=>(hts j t ht).mono lo
  ·cases hx:h b with
   |none=>rfl
   |some x=>have:=l3 _ _ hx;simp [Hp.offS,hb,Hp.off,Hp.set]at this
 refine aJ (by simp;omega) ?_
 obtain⟨n,hni⟩: ∃n,m.nodes[i]?=some n:=⟨_,List.getElem?_eq_getElem hlt⟩
 obtain⟨b,o,ha,e0,e1,e2,e3,e4,e5,e6,e7,e8⟩:=(hs.nodes.mono l3').at hni
 (refine az ?_)
 refine⟨b,o,ha,by omega,by omega,_,e0,_,e1,_,e2,_,e3,_,e4,_,e5,_,e6,_,e7,_,e8,?_⟩
 refine aj fun b44 h4 hb44 l4 f44'=>?_
 (with_reducible apply cb);(exact f44');(exact l4);(exact hb44);(exact Nat.le_refl 9)
 intro h5 f44 kp l5
 clear f44' kp l4
 refine aj fun b50 h6 hb50 l6 f50'=>?_
 have n44:=fresh_ne hb50 f44
 have b50n:=aF l5 hb50
 replace f44:=l6 _ _ f44
 (with_reducible apply cb);(exact f50');(exact Hp.le_trans l5 l6);(exact b50n);(exact Nat.le_refl 1)
 intro h7 f50 kp l7
 replace f44:=cf kp n44 f44
 have f50v:h7 b50=some (.inl ⟨[.slice none 0 0],1,false⟩):=f50
 have f9'':=l7 _ _ f9'
 clear f50 f50' kp l5 l6 hb44 hb50 h4 h5 h6
 have l07:=Hp.le_trans l3' l7
 have hnext36:=sv (kind:=36) hni
 have hnext35:=sv (kind:=35) hni
 have hev:=Gx (s:=st) (inp:=inp) hni
 have hb36:(aU (m.nodes.take i) 36).length<=i:=by
  unfold aU
  refine Nat.le_trans (List.length_filter_le _ _) ?_
  rw [List.length_range,List.length_take];omega
 have hb35:(aU (m.nodes.take i) 35).length<=i:=by
  unfold aU
  refine Nat.le_trans (List.length_filter_le _ _) ?_
  rw [List.length_range,List.length_take];omega
 (refine az ?_)
 refine ap (fun J=> ∀(t:Sl) (x:List Nat) (h8:Hp),h3.le h8->h8 b50=some (.inl ⟨[t.v],1,false⟩)->IntS h8 t (VL x)->gT m.nodes st inp (i+1)=gT m.nodes st inp i++ [x]->
  J ((aU (m.nodes.take (i+1)) 36).length:Nat) ((aU (m.nodes.take (i+1)) 35).length:Nat) h8) ?_ (fun J hJ=>?_)
 ·intro t x h8 l8 g50 hval hev'
  (refine az ?_)
  refine aj fun b113 h9 hb113 l9 f113=>?_
  have l39:=Hp.le_trans l8 l9
  have l39o:=bM out l39
  refine dp (hbuf.mono l39) (by omega) (by omega) (by omega) ⟨b113,0,rfl,ay f113⟩ (by simp) rfl ?_
  intro s' h10 hs'n hbuf' l10 _
  rw [aA (by omega)]
  have l310:=Hp.le_trans l39o l10
  have hbuf'':Buf h10 s' 1 ((ts++ [t]).map Sl.v):=by rw [List.map_append];exact hbuf'
  refine hnx hlt _ _ ⟨ts++ [t],s',rfl,Hp.le_trans l3 l310,l310 _ _ f9,by omega,by simp;omega,hbuf'',fun j u hu=>?_⟩
  by_cases hj:j<i
  ·rw [List.getElem?_append_left (by omega)]at hu
   rw [hev',gD (by rw [eE];omega)]
   exact(hts j u hu).mono l310
  ·have hju:=get_lt hu
   simp at hju
   have hje:j=i:=by omega
   subst hje
   rw [List.getElem?_append_right (by omega),htl,Nat.sub_self]at hu
   simp at hu;subst hu
   rw [hev',List.getD_eq_getElem?_getD,List.getElem?_append_right (by rw [eE];omega),eE,Nat.sub_self]
   exact((hval.mono l9).offL (hbuf.mono l39)).mono l10
 have put: ∀(h8:Hp) (t:Sl) (x:List Nat) (P:Hp->Prop),h7.le h8->IntS h8 t (VL x)->(∀h9,h3.le h9->h9 b50=some (.inl ⟨[t.v],1,false⟩)->IntS h9 t (VL x)->P h9)->
   ∃(cs:List Value) (z:Nat),h8 b50=some (.inl ⟨cs,z,false⟩)/\0+1<=List.length cs/\cu (h8.row b50 (cv cs 0 [t.v]) z) fun h'=>P h':=by
  intro h8 t x P l8 hval hP
  have g50:=l8 _ _ f50v
  (with_reducible apply cb);(exact g50);(exact Hp.le_trans l7 l8);(exact b50n);(exact Nat.le_refl 1)
  intro h9 g kp l9
  exact hP h9 l9 g (hval.keep g50 kp)
 have hpv7:fX h7 out (gT m.nodes st inp i):=(hbuf.pval (by rw [eE];omega) (by omega) fun j t ht=>(hts j t ht).mono lo).mono l7
 have hfit:=yc hok f1 f2 i (Nat.le_of_lt hlt)
 have htyp:=tU hok hni
 refine ac (fun e=>?_) (fun e34=>?_)
 ·have e:=bU e
  rw [if_neg (by omega)]at hnext36 hnext35
  rw [if_neg (by omega),if_neg (by omega)]at hev
  obtain⟨c1,c2⟩:=htyp.const e
  have:=jL.1 c2
  have hx:gP m.nodes n (gT m.nodes st inp i)= [n.n.toNat]:=by unfold gP;rw [if_pos e]
  (refine az ?_)
  refine FO fun t h8 l8 hval=>⟨t,rfl,put h8 t [n.n.toNat] _ l8 ?_ fun h9 l9 g50 hv9=>?_⟩
  ·have:VL [n.n.toNat]= [n.n]:=by simp [VL];omega
   rw [this];exact hval
  ·have:=hJ t _ h9 l9 g50 hv9 (by rw [hev,hx])
   rw [hnext36,hnext35,Nat.add_zero,Nat.add_zero]at this;exact this
 replace e34:=aZ e34
 refine ac (fun e=>?_) (fun e36=>?_)
 ·have e:=bU e
  rw [if_pos e]at hnext36 hev
  rw [if_neg (by omega)]at hnext35
  have hlt36:=yi hni e
  have hfk:=f1.2 _ _ (ui hni e)
  have hfs:aE m.nodes ((i:Nat):Int)=n.sort:=by unfold aE;rw [Int.toNat_natCast,hni]
  rw [hfs]at hfk
  rw [<-f1.1]at hlt36
  obtain⟨bs,os,t,ha,hc,ht⟩:=(h1.mono l07).at (i:=(aU (m.nodes.take i) 36).length) (by simpa using hlt36)
  have hst:(st.map VL)[(aU (m.nodes.take i) 36).length]'(by simpa using hlt36)=VL (st.getD (aU (m.nodes.take i) 36).length []):=by
   rw [List.getElem_map,List.getD_eq_getElem?_getD,List.getElem?_eq_getElem hlt36];rfl
  rw [hst]at ht
  have hso:=bZ.1 htyp.sort
  have hlen4:(st.getD (aU (m.nodes.take i) 36).length []).length<=4:=by
   rw [hfk.len];have:=Nat.pow_le_pow_right (n:=2) (by omega) (show n.sort.idx.toNat<=2 by omega);simpa using this
  refine⟨bs,os,ha,by omega,by omega,t,by rw [Int.toNat_natCast,Nat.mul_one];exact hc,?_⟩
  refine pI ht (by rw [bz];omega) fun c h8 l8 hb8=>⟨c,rfl,put h8 c _ _ l8 (hb8.slS (by have:=hb8.1;rw [List.length_map,bz]at this;omega)) fun h9 l9 g50 hv9=>?_⟩
  have:=hJ c _ h9 l9 g50 hv9 hev
  rw [hnext36,hnext35,Nat.add_zero]at this
  rw [aA (by omega)];exact this
 replace e36:=aZ e36
 rw [if_neg e36]at hnext36 hev
 refine ac (fun e=>?_) (fun e35=>?_)
 ·have e:=bU e
  rw [if_pos e]at hnext35 hev
  have hlt35:=yi hni e
  have hfk:=f2.2 _ _ (ui hni e)
  have hfs:aE m.nodes ((i:Nat):Int)=n.sort:=by unfold aE;rw [Int.toNat_natCast,hni]
  rw [hfs]at hfk
  rw [<-f2.1]at hlt35
  obtain⟨bs,os,t,ha,hc,ht⟩:=(h2.mono l07).at (i:=(aU (m.nodes.take i) 35).length) (by simpa using hlt35)
  have hst:(inp.map VL)[(aU (m.nodes.take i) 35).length]'(by simpa using hlt35)=VL (inp.getD (aU (m.nodes.take i) 35).length []):=by
   rw [List.getElem_map,List.getD_eq_getElem?_getD,List.getElem?_eq_getElem hlt35];rfl
  rw [hst]at ht
  have hso:=bZ.1 htyp.sort
  have hlen4:(inp.getD (aU (m.nodes.take i) 35).length []).length<=4:=by
   rw [hfk.len];have:=Nat.pow_le_pow_right (n:=2) (by omega) (show n.sort.idx.toNat<=2 by omega);simpa using this
  refine⟨bs,os,ha,by omega,by omega,t,by rw [Int.toNat_natCast,Nat.mul_one];exact hc,?_⟩
  refine pI ht (by rw [bz];omega) fun c h8 l8 hb8=>⟨c,rfl,put h8 c _ _ l8 (hb8.slS (by have:=hb8.1;rw [List.length_map,bz]at this;omega)) fun h9 l9 g50 hv9=>?_⟩
  have:=hJ c _ h9 l9 g50 hv9 hev
  rw [hnext36,hnext35,Nat.add_zero]at this
  rw [aA (by omega)];exact this
 replace e35:=aZ e35
 rw [if_neg e35]at hnext35 hev
 repeat' (refine az ?_)
 refine Mj (n:=n) hl (Nat.le_of_lt hlt) htyp hfit (eE _ _ _ _) (hs.nodes.mono l07) hpv7 e34 e35 e36 fun t h8 l8 hval=>⟨t,rfl,put h8 t _ _ l8 hval fun h9 l9 g50 hv9=>?_⟩
 have:=hJ t _ h9 l9 g50 hv9 hev
 rw [hnext36,hnext35,Nat.add_zero,Nat.add_zero]at this;exact this
theorem G8 {l:List NodeP} {kind:Int} {p:Nat} (h:p∈aU l kind): ∃n,l[p]?=some n/\n.kind=kind:=by
 unfold aU at h
 rw [List.mem_filter,List.mem_range]at h
 cases hn:l[p]? with
 |none=>rw [hn]at h;exact absurd h.2 Bool.false_ne_true
 |some n=>rw [hn]at h;exact⟨n,rfl,by simpa using h.2⟩
theorem Dc (l:List NodeP) (hok:cm l=true) (kind:Int):cw l (aU l kind)=ak l kind:=by
 have key: ∀i,i<=l.length->cw l (aU (l.take i) kind)=ak (l.take i) kind:=by
  intro i
  induction i with
  |zero=>intro _;simp [aU,cw,ak]
  |succ i ih=>
   intro hi
   obtain⟨n,hn⟩: ∃n,l[i]?=some n:=⟨_,List.getElem?_eq_getElem (by omega)⟩
   rw [kw hn,B5 kind hn,<-ih (by omega)]
   have hs:=bZ.1 (tU hok hn).sort
   have hsa:aE l ((i:Nat):Int)=n.sort:=by unfold aE;rw [Int.toNat_natCast,hn]
   by_cases hk:n.kind=kind
   ·rw [if_pos hk,if_pos hk]
    unfold cw
    rw [List.map_append,List.sum_append]
    simp only [List.map_cons,List.map_nil,List.sum_cons,List.sum_nil,Nat.add_zero]
    unfold cc aK dH
    rw [hsa,Nat.mul_comm]
   ·rw [if_neg hk,if_neg hk,List.append_nil,Nat.add_zero]
 have:=key l.length (Nat.le_refl _)
 rwa [List.take_of_length_le (Nat.le_refl _)]at this
theorem Hu {l:List NodeP} (hok:cm l=true) (kind:Int) (code:Nat):zf l kind (gj l (aU l kind) code):=by
 refine⟨kA _ _ _,fun k p hp=>?_⟩
 rw [Fl hp]
 obtain⟨n,hn,_⟩:=G8 (List.mem_of_getElem? hp)
 have hsa:aE l ((p:Nat):Int)=n.sort:=by unfold aE;rw [Int.toNat_natCast,hn]
 have hso:=(tU hok hn).sort
 refine⟨?_,fun x hx=>PO hx⟩
 rw [pZ]
 unfold aK cL
 rw [hsa,if_pos hso]
theorem uq (a b:List Nat):VL (a++b)=VL a++VL b:=by simp [VL]
theorem mg {h:Hp} {M:MSl} {m:ai} {kind:Int} {R:Value->Hp->Prop} (hs:aN h M m) (hm:bW m)
  (k: ∀t h',h.le (h'.offS t)->t.n<=m.nodes.length->Buf h' t 1 ((VL (aU m.nodes kind)).map I)->R (Sl.v t) h'):bK #[aO M,I kind] h R:=by
 apply yC
 refine uf_ ?_
 have hn:=hs.nodes.len
 have hns:=hm.nodes
 refine aj fun b8 h1 hb8 l1 f8=>?_
 (refine az ?_)
 refine av m.nodes.length (fun i vs h'=> ∃out:Sl,vs= [I kind,out.v,M.no.v,I M.no.n,I i]/\h.le (h'.offS out)/\out.n<=i/\Buf h' out 1 ((VL (aU (m.nodes.take i) kind)).map I)) ⟨⟨none,0,0⟩,rfl,l1,Nat.le_refl _,by simp [aU,VL];exact eG _ _⟩ ?_
 clear l1 f8 hb8 h1
 rintro i _ h1 next hi ⟨out,rfl,l1,hon,hbuf⟩ hnx
 have lo:=bk h1 out
 have l1':=Hp.le_trans l1 lo
 refine⟨_,out,M.no,_,_,rfl,?_⟩
 by_cases hlt:i<m.nodes.length
 ·refine aJ (by simp;omega) ?_
  obtain⟨n,hni⟩: ∃n,m.nodes[i]?=some n:=⟨_,List.getElem?_eq_getElem hlt⟩
  obtain⟨b,o,ha,e0,e1,e2,e3,e4,e5,e6,e7,e8⟩:=(hs.nodes.mono l1').at hni
  refine⟨b,o,ha,by omega,by omega,_,e0,_,e1,_,e2,_,e3,_,e4,_,e5,_,e6,_,e7,_,e8,?_⟩
  refine aj fun b36 h2 hb36 l2 f36=>?_
  (with_reducible apply cb);(exact f36);(exact l2);(exact hb36);(exact Nat.le_refl 9)
  intro h3 f36' kp l3
  have hpre:=kw (kind:=kind) hni
  have l3o:=bM out l3
  (refine az ?_)
  rw [aA (by omega)]
  refine ac (fun e=>?_) (fun e=>?_)
  ·rw [if_pos (bU e)]at hpre
   refine aj fun b44 h4 hb44 l4 f44=>?_
   have l4o:=bM out l4
   refine dp (hbuf.mono (Hp.le_trans l3 l4)) (by omega) (by omega) (by omega) ⟨b44,0,rfl,ay f44⟩ (by simp) rfl ?_
   intro s' h5 hs'n hbuf' l5 _
   refine hnx hlt _ _ ⟨s',rfl,Hp.le_trans l1 (Hp.le_trans l3o (Hp.le_trans l4o l5)),by omega,?_⟩
   rw [hpre,uq,List.map_append];exact hbuf'
  ·rw [if_neg (aZ e),List.append_nil]at hpre
   refine hnx hlt _ _ ⟨out,rfl,Hp.le_trans l1 l3o,by omega,?_⟩
   rw [hpre];exact hbuf.mono l3
 ·refine aD (by simp;omega) (k out h1 l1 (by omega) ?_)
  rw [List.take_of_length_le (by omega)]at hbuf
  exact hbuf
theorem dS {h:Hp} {M:MSl} {m:ai} {kind:Int} {R:Value->Hp->Prop} (hs:aN h M m) (hm:bW m)
  (k: ∀t h',h.le h'->IntS h' t (VL (aU m.nodes kind))->R (Sl.v t) h'):bK #[aO M,I kind] h R:=
 mg hs hm fun t h' l hn hb=>k t h' (Hp.le_trans l (bk _ _)) (hb.slc_of (by have:=hm.nodes;omega))
theorem cO {h:Hp} {M:MSl} {m:ai} {kind:Int} {R:Value->Hp->Prop} (hs:aN h M m) (hm:bW m)
  (k: ∀t h',h.le h'->IntS h' t (VL (aU m.nodes kind))->R (Sl.v t) h'):aR #[aO M,I kind] h R:=by
 apply Ek
 refine uf_ ?_
 have hn:=hs.nodes.len
 have hns:=hm.nodes
 refine aj fun b8 h1 hb8 l1 f8=>?_
 refine av m.nodes.length (fun i vs h'=> ∃out:Sl,vs= [I kind, .pointer (some ⟨b8,0,none⟩),out.v,I i]/\h.le (h'.offS out)/\(h'.offS out) b8=some (.inl ⟨aw M,5,false⟩)/\out.n<=i/\Buf h' out 1 ((VL (aU (m.nodes.take i) kind)).map I)) ⟨⟨none,0,0⟩,rfl,l1,f8,Nat.le_refl _,by simp [aU,VL];exact eG _ _⟩ ?_
 clear l1 f8 hb8 h1
 rintro i _ h1 next hi ⟨out,rfl,l1,f8,hon,hbuf⟩ hnx
 have lo:=bk h1 out
 have l1':=Hp.le_trans l1 lo
 have f8':=lo _ _ f8
 refine⟨_,_,_,out,_,rfl,?_⟩
 (refine az ?_)
 by_cases hlt:i<m.nodes.length
 ·refine aJ (by simp;omega) ?_
  obtain⟨n,hni⟩: ∃n,m.nodes[i]?=some n:=⟨_,List.getElem?_eq_getElem hlt⟩
  obtain⟨b,o,ha,e0,_⟩:=(hs.nodes.mono l1').at hni
  have hpre:=kw (kind:=kind) hni
  (refine az ?_)
  refine⟨b,o,ha,by omega,by omega,_,e0,?_⟩
  rw [aA (by omega)]
  refine ac (fun e=>?_) (fun e=>?_)
  ·rw [if_pos (bU e)]at hpre
   refine aj fun b44 h4 hb44 l4 f44=>?_
   have l4o:=bM out l4
   refine dp (hbuf.mono l4) (by omega) (by omega) (by omega) ⟨b44,0,rfl,ay f44⟩ (by simp) rfl ?_
   intro s' h5 hs'n hbuf' l5 _
   have l15:=Hp.le_trans l4o l5
   refine hnx hlt _ _ ⟨s',rfl,Hp.le_trans l1 l15,l15 _ _ f8,by omega,?_⟩
   rw [hpre,uq,List.map_append];exact hbuf'
  ·rw [if_neg (aZ e),List.append_nil]at hpre
   refine hnx hlt _ _ ⟨out,rfl,l1,f8,by omega,?_⟩
   rw [hpre];exact hbuf
 ·refine aD (by simp;omega) (k out h1 l1' ?_)
  rw [List.take_of_length_le (by omega)]at hbuf
  exact hbuf.slc_of (by omega)
structure sG (h0 h:Hp) (out:Sl) (ts:List Sl) (vs:List (List Nat)):Prop where
 len:ts.length=vs.length
 row: ∀(i:Nat) (t:Sl),ts[i]?=some t-> ∃b,t=⟨some ⟨b,0,none⟩,(vs.getD i []).length,(vs.getD i []).length⟩/\h0 b=none/\
  (h.offS out) b=some (.inl ⟨(VL (vs.getD i [])).map I,(vs.getD i []).length,false⟩)
 dis: ∀(i j:Nat) (t u:Sl),ts[i]?=some t->ts[j]?=some u->t.a=u.a->i=j
 buf:Buf h out 1 (ts.map Sl.v)
 le:h0.le (h.offS out)
theorem sG.ints {h0 h:Hp} {out:Sl} {ts:List Sl} {vs:List (List Nat)} (e:sG h0 h out ts vs) (hl: ∀v∈vs,v.length<=1048576) (hn:out.n<=1048576):IntSS h out (vs.map VL):=by
 refine⟨ts,by rw [List.length_map];exact e.len,e.buf.slc_of (by omega),fun i h1 h2=>?_⟩
 obtain⟨b,ht,_,hr⟩:=e.row i _ (List.getElem?_eq_getElem h1)
 have hi:i<vs.length:=by rw [List.length_map]at h2;exact h2
 have hv:(vs.map VL)[i]=VL (vs.getD i []):=by
  rw [List.getElem_map,List.getD_eq_getElem?_getD,List.getElem?_eq_getElem hi];rfl
 have hvl:(vs.getD i []).length<=1048576:=by
  rw [List.getD_eq_getElem?_getD,List.getElem?_eq_getElem hi];exact hl _ (List.getElem_mem hi)
 rw [ht,hv]
 refine⟨by dsimp only;omega,by simp [bz], .inr ⟨b,0,rfl,ay (bk _ _ _ _ hr)⟩⟩
def cZ (l:List NodeP) (ps:List Nat):List (List Nat):=ps.map fun p=>List.replicate (aK l p) 0
theorem dj (l:List NodeP) (p:Nat):aK l p<=4:=uM _
theorem gn {ps:List Nat} {i p:Nat} (h:ps[i]?=some p):(VL ps)[i]?=some ((p:Nat):Int):=by simp [VL,h]
theorem ji.sortc {h:Hp} {s:Sl} {l:List NodeP} (e:ji h s l) {p:Nat} (hp:p<l.length):
  ∃b o,s.a=some (Addr.mk b o none)/\(p:Int)<(s.n:Int)/\Hp.cell h b ((o+Int.toNat (p:Int)*9)+6)=some (I (aE l p).idx)/\Hp.cell h b ((o+Int.toNat (p:Int)*9)+6+1)=some (I (aE l p).wid):=by
 obtain⟨n,hn1⟩: ∃n,l[p]?=some n:=⟨_,List.getElem?_eq_getElem hp⟩
 obtain⟨ba,oa,ha1,_,_,_,_,_,_,c6,c7,_⟩:=e.at hn1
 have hsa:aE l ((p:Nat):Int)=n.sort:=by unfold aE;rw [Int.toNat_natCast,hn1]
 refine⟨ba,oa,ha1,by have:=e.len;omega,?_⟩
 rw [hsa];exact⟨c6,c7⟩
theorem rV {h:Hp} {M:MSl} {m:ai} {s:Sl} {ps:List Nat} {R:Value->Hp->Prop} (hs:aN h M m) (hm:bW m) (hp:IntS h s (VL ps)) (hps: ∀p∈ps,p<m.nodes.length) (hpl:ps.length<=1048576)
  (k: ∀out ts h',sG h h' out ts (cZ m.nodes ps)->out.n=ps.length->R (Sl.v out) h'):ew #[aO M,s.v] h R:=by
 apply Al
 refine uf_ ?_
 have hn:=hs.nodes.len
 have hns:=hm.nodes
 have hsn:=hp.len
 rw [bz]at hsn
 refine aj fun b8 h1 hb8 l1 f8=>?_
 refine av ps.length (fun i vs h'=> ∃(out:Sl) (ts:List Sl),vs= [.pointer (some ⟨b8,0,none⟩),out.v,s.v,I s.n,I i]/\sG h h' out ts (cZ m.nodes (ps.take i))/\out.n=i/\(h'.offS out) b8=some (.inl ⟨aw M,5,false⟩))
  ⟨⟨none,0,0⟩, [],rfl,⟨rfl,fun i t ht=>by simp at ht,fun i j t u ht=>by simp at ht,eG _ _,l1⟩,rfl,f8⟩ ?_
 clear l1 f8 hb8 h1
 rintro i _ h1 next hi ⟨out,ts,rfl,hC,hon,f8⟩ hnx
 have lo:=bk h1 out
 have l1:=Hp.le_trans hC.le lo
 have f8':=lo _ _ f8
 refine⟨_,_,out,s,_,_,rfl,?_⟩
 by_cases hlt:i<ps.length
 ·refine aJ (by simp;omega) ?_
  obtain⟨p,hpi⟩: ∃p,ps[i]?=some p:=⟨_,List.getElem?_eq_getElem hlt⟩
  have hpm:=hps p (List.mem_of_getElem? hpi)
  obtain⟨b,o,ha,hc⟩:=(hp.mono l1).get (gn hpi)
  refine⟨b,o,ha,by omega,by omega,_,hc,?_⟩
  (refine az ?_)
  obtain⟨bn,on,han,hpn,c6,c7⟩:=(hs.nodes.mono l1).sortc hpm
  refine⟨bn,on,han,by omega,hpn,_,c6,_,c7,?_⟩
  refine lv ⟨_,rfl,?_⟩
  have hce:cL ⟨(aE m.nodes p).idx,(aE m.nodes p).wid⟩=aK m.nodes p:=rfl
  rw [hce]
  have hc4:=dj m.nodes p
  refine⟨by omega,by omega,by omega,by omega,?_⟩
  refine aj fun b38 h2 hb38 l2 f38=>?_
  refine aj fun b40 h3 hb40 l3 f40=>?_
  have l13:=Hp.le_trans l2 l3
  have l13o:=bM out l13
  replace f38:=l3 _ _ f38
  rw [Int.toNat_natCast,Nat.mul_one,cj]at f38
  rw [Int.toNat_natCast]at f40
  have hno: ∀a,out.a=some a->a.block≠b38:=by
   intro a ha' e
   rcases hC.buf.2.2 with ⟨h0,_⟩|⟨c,hc',hcb⟩
   ·rw [h0]at ha';cases ha'
   ·rw [hc']at ha';cases ha'
    subst e
    rw [hb38]at hcb;cases hcb
  have f38o:(h3.offS out) b38=some (.inl ⟨List.replicate (aK m.nodes p) (I 0),aK m.nodes p,false⟩):=by rw [Au hno];exact f38
  refine dp (hC.buf.mono l13) (by omega) (by omega) (by omega) ⟨b40,0,rfl,ay f40⟩ (by simp) rfl ?_
  intro s' h4 hs'n hbuf' l4 _
  have l14:=Hp.le_trans l13o l4
  rw [aA (by omega)]
  have hvs:cZ m.nodes (ps.take (i+1))=cZ m.nodes (ps.take i)++ [List.replicate (aK m.nodes p) 0]:=by
   unfold cZ
   rw [List.take_succ_eq_append_getElem hlt,List.map_append]
   rw [List.getElem?_eq_getElem hlt]at hpi
   rw [Option.some.inj hpi];rfl
  have hlen:=hC.len
  have hzl:(cZ m.nodes (ps.take i)).length=i:=by unfold cZ;simp;omega
  have b38h:h b38=none:=aF l1 hb38
  refine hnx hlt _ _ ⟨s',ts++ [⟨some ⟨b38,0,none⟩,aK m.nodes p,aK m.nodes p⟩],rfl,⟨?_,fun j t ht=>?_,fun j j' t u ht hu hau=>?_,by rw [List.map_append];exact hbuf',Hp.le_trans hC.le l14⟩,by omega,l14 _ _ f8⟩
  ·rw [hvs,List.length_append,List.length_append,hlen];rfl
  ·by_cases hj:j<i
   ·rw [List.getElem?_append_left (by omega)]at ht
    obtain⟨b',e1,e2,e3⟩:=hC.row j t ht
    rw [hvs,gD (by omega)]
    exact⟨b',e1,e2,l14 _ _ e3⟩
   ·have hju:=get_lt ht
    simp at hju
    have hje:j=i:=by omega
    subst hje
    rw [List.getElem?_append_right (by omega),show j-ts.length=0 by omega]at ht
    simp at ht;subst ht
    rw [hvs,List.getD_eq_getElem?_getD,List.getElem?_append_right (by omega),hzl,Nat.sub_self]
    refine⟨b38,by simp,b38h,?_⟩
    have:=l4 _ _ f38o
    simpa [VL] using this
  ·have hb: ∀(q:Nat) (z:Sl),ts[q]?=some z->z.a≠some ⟨b38,0,none⟩:=by
    intro q z hz he
    obtain⟨b',e1,e2,e3⟩:=hC.row q z hz
    rw [e1]at he
    have hbb:b'=b38:=by simpa using he
    subst hbb
    have:=lo _ _ e3
    rw [hb38]at this;cases this
   by_cases hj:j<i
   ·rw [List.getElem?_append_left (by omega)]at ht
    by_cases hj':j'<i
    ·rw [List.getElem?_append_left (by omega)]at hu
     exact hC.dis j j' t u ht hu hau
    ·have hju:=get_lt hu
     simp at hju
     rw [List.getElem?_append_right (by omega),show j'-ts.length=0 by omega]at hu
     simp at hu;subst hu
     exact absurd hau (hb j t ht)
   ·have hjt:=get_lt ht
    simp at hjt
    by_cases hj':j'<i
    ·rw [List.getElem?_append_left (by omega)]at hu
     rw [List.getElem?_append_right (by omega),show j-ts.length=0 by omega]at ht
     simp at ht;subst ht
     exact absurd hau.symm (hb j' u hu)
    ·have hju:=get_lt hu
     simp at hju
     omega
 ·have hie:i=ps.length:=by omega
  subst hie
  rw [List.take_of_length_le (Nat.le_refl _)]at hC
  exact aD (by simp;omega) (k out ts h1 hC hon)
structure dP (m:ai):Prop where
 nl:m.nodes.length<=60
 il:m.inits.length<=60
 xl:m.nexts.length<=60
 bl:m.bads.length<=4
 hl:m.holds.length<=4
 ok:cm m.nodes=true
 twice:tC m=false
 ini: ∀b∈m.inits,ir m.nodes b=true
 nex: ∀b∈m.nexts,fy m.nodes b=true
 bad: ∀p∈m.bads,dV m.nodes p=true
 hol: ∀p∈m.holds,dV m.nodes p=true
 n8:ak m.nodes 36<=8
 k5:ak m.nodes 35<=5
theorem jX {c:Prop} [Decidable c] {x y:Int} (hx:x≠0) (h:(if c then x else y)=0): ¬c/\y=0:=by
 split at h
 ·exact absurd h hx
 ·rename_i hc;exact⟨hc,h⟩
theorem co {m:ai} (h:ax m=0):dP m:=by
 unfold ax at h
 obtain⟨h1,h⟩:=jX (by decide) h
 obtain⟨h2,h⟩:=jX (by decide) h
 obtain⟨h3,h⟩:=jX (by decide) h
 obtain⟨h4,h⟩:=jX (by decide) h
 obtain⟨h5,h⟩:=jX (by decide) h
 obtain⟨h6,h⟩:=jX (by decide) h
 simp only [Bool.not_eq_false,Bool.and_eq_true,List.all_eq_true,Bool.not_eq_true]at h2 h3 h4 h5
 exact⟨by omega,by omega,by omega,by omega,by omega,h2,h3,h4.1,h4.2,h5.1,h5.2,by omega,by omega⟩
theorem dP.small {m:ai} (g:dP m): ∀n∈m.nodes,n.name.size<=8:=by
 intro n hn
 obtain⟨i,hi,e⟩:=List.getElem_of_mem hn
 have hf:=kP g.ok (i:=i) (n:=n) (by rw [List.getElem?_eq_getElem hi,e])
 unfold eW at hf
 simp only [Bool.and_eq_true]at hf
 have hf':=hf.1.1.2
 split at hf'
 ·unfold fL at hf'
  simp only [Bool.and_eq_true,decide_eq_true_eq]at hf';omega
 ·simp only [decide_eq_true_eq]at hf';omega
theorem qc {l:List NodeP} (hok:cm l=true) {p:Nat} (hp:p<l.length):bQ (aE l p)=true:=by
 have hn:l[p]?=some l[p]:=List.getElem?_eq_getElem hp
 have:aE l ((p:Nat):Int)=l[p].sort:=by unfold aE;rw [Int.toNat_natCast,hn]
 rw [this];exact(tU hok hn).sort
theorem uo {l:List NodeP} (hok:cm l=true) {p:Nat} (hp:p<l.length) {v:List Nat} (h:Fit (aE l p) v):v.length=aK l p/\ ∀x∈v,x<2^cc l p:=by
 refine⟨?_,h.lt⟩
 unfold aK cL
 rw [if_pos (qc hok hp),h.len]
theorem Rn {l:List NodeP} (hok:cm l=true) {p:Nat} (hp:p<l.length) {v:List Nat} (h:v.length=aK l p/\ ∀x∈v,x<2^cc l p):Fit (aE l p) v:=by
 refine⟨?_,h.2⟩
 have:=h.1
 unfold aK cL at this
 rwa [if_pos (qc hok hp)]at this
theorem mu {l:List NodeP} {kind:Int} {p:Nat} (h:p∈aU l kind):p<l.length:=by
 obtain⟨n,hn,_⟩:=G8 h
 exact get_lt hn
theorem xO {l:List NodeP} (hok:cm l=true) {kind:Int} {vs:List (List Nat)} (h:mA l (aU l kind) vs):zf l kind vs:=by
 refine⟨nv h,fun k p hp=>?_⟩
 exact Rn hok (mu (List.mem_of_getElem? hp)) (qa h hp)
def Gf (m:ai) (s i:List (List Nat)):List (List Nat):=gT m.nodes s i m.nodes.length
abbrev stP (m:ai):List Nat:=aU m.nodes 36
abbrev inP (m:ai):List Nat:=aU m.nodes 35
def cK (m:ai) (s i:Nat):List (List Nat):=Gf m (gj m.nodes (stP m) s) (gj m.nodes (inP m) i)
def iP (m:ai) (v:List (List Nat)):Bool:=m.holds.all fun p=>decide (cU v p=1)
def qz (m:ai) (v:List (List Nat)):Option Nat:=m.bads.findIdx? fun p=>decide (cU v p=1)
def Ey (m:ai) (v:List (List Nat)):Int:=match qz m v with|some d=>d|none=> -1
def iV (m:ai) (v:List (List Nat)) (p:Nat):Option (List Nat):=(ce m.nexts p).map fun k=>v.getD k []
def gv (m:ai) (v:List (List Nat)):List (List Nat):=kJ m.nodes (iV m v) (stP m)
def mT (c:Nat) (v:List Nat):List Nat:=v++List.replicate (c-v.length) (v.getD 0 0)
def od (m:ai):List (List Nat):=Gf m (cZ m.nodes (stP m)) (cZ m.nodes (inP m))
def eU (m:ai) (p:Nat):Option (List Nat):=(ce m.inits p).map fun k=>mT (aK m.nodes p) ((od m).getD k [])
def lk (m:ai):List (List Nat):=kJ m.nodes (eU m) (stP m)
theorem gU {binds:List BindP} {p k:Nat} (h:ce binds p=some k): ∃b∈binds,b.state=(p:Int)/\b.node.toNat=k:=by
 unfold ce at h
 rw [Option.map_eq_some_iff]at h
 obtain⟨b,hb,hk⟩:=h
 exact⟨b,List.mem_of_find?_eq_some hb,by simpa using List.find?_some hb,hk⟩
theorem Nr {binds:List BindP} {p:Nat} (h:ce binds p=none): ∀b∈binds,b.state≠(p:Int):=by
 unfold ce at h
 rw [Option.map_eq_none_iff,List.find?_eq_none]at h
 intro b hb e
 have:=h b hb
 simp [e]at this
theorem jO {l:List NodeP} {b:BindP} (h:fy l b=true):cW l b.state=true/\cW l b.node=true/\jA l b.state=36/\aE l b.state=aE l b.node:=by
 unfold fy at h
 simp only [Bool.and_eq_true,decide_eq_true_eq]at h
 exact⟨h.1.1.1,h.1.1.2,h.1.2,h.2⟩
theorem zZ {l:List NodeP} {b:BindP} (h:ir l b=true):cW l b.state=true/\cW l b.node=true/\jA l b.state=36/\(aE l b.state=aE l b.node\/aE l b.node=cy (aE l b.state).wid)/\(dE l l.length).getD b.node.toNat false=false:=by
 unfold ir at h
 simp only [Bool.and_eq_true,Bool.or_eq_true,decide_eq_true_eq,Bool.not_eq_true']at h
 exact⟨h.1.1.1,h.1.1.2,h.1.2,h.2.1,h.2.2⟩
theorem fg {l:List NodeP} {p:Int}:cW l p=true↔0<=p/\p<l.length:=by
 unfold cW;rw [decide_eq_true_eq];omega
theorem xQ {m:ai} (g:dP m) (s i:Nat):wU m.nodes m.nodes.length (cK m s i):=
 yc g.ok (Hu g.ok 36 s) (Hu g.ok 35 i) _ (Nat.le_refl _)
theorem mI (l:List NodeP) (ps:List Nat):mA l ps (cZ l ps):=by
 induction ps with
 |nil=>rfl
 |cons p ps ih=>
  refine⟨_,_,rfl,by simp,fun x hx=>?_,ih⟩
  simp at hx
  rw [hx.2];exact bG _
theorem MZ {m:ai} (g:dP m) {s i:List (List Nat)} (hs:mA m.nodes (stP m) s) (hi:mA m.nodes (inP m) i):wU m.nodes m.nodes.length (Gf m s i):=
 yc g.ok (xO g.ok hs) (xO g.ok hi) _ (Nat.le_refl _)
theorem Jq (m:ai) (s i:List (List Nat)):(Gf m s i).length=m.nodes.length:=eE _ _ _ _
theorem uk {m:ai} (g:dP m) {v:List (List Nat)} (hv:wU m.nodes m.nodes.length v) {p:Nat} {x:List Nat} (h:iV m v p=some x):x.length=aK m.nodes p/\ ∀y∈x,y<2^cc m.nodes p:=by
 unfold iV at h
 rw [Option.map_eq_some_iff]at h
 obtain⟨k,hk,rfl⟩:=h
 obtain⟨b,hb,hs,rfl⟩:=gU hk
 obtain⟨h1,h2,h3,h4⟩:=jO (g.nex b hb)
 have h2':=fg.1 h2
 have h1':=fg.1 h1
 have hn:((b.node.toNat:Nat):Int)=b.node:=by omega
 have:=hv b.node.toNat (by omega) (by omega)
 rw [hn,<-h4,hs]at this
 exact uo g.ok (by omega) this
theorem qX {m:ai} (g:dP m) {p:Nat} {x:List Nat} (h:eU m p=some x):x.length=aK m.nodes p/\ ∀y∈x,y<2^cc m.nodes p:=by
 unfold eU at h
 rw [Option.map_eq_some_iff]at h
 obtain⟨k,hk,rfl⟩:=h
 obtain⟨b,hb,hs,rfl⟩:=gU hk
 obtain⟨h1,h2,h3,h4,_⟩:=zZ (g.ini b hb)
 have h2':=fg.1 h2
 have h1':=fg.1 h1
 have hn:((b.node.toNat:Nat):Int)=b.node:=by omega
 have hv:=MZ g (mI m.nodes (stP m)) (mI m.nodes (inP m)) b.node.toNat (by omega) (by omega)
 have hf:=uo g.ok (show b.node.toNat<m.nodes.length by omega) hv
 rw [hn]at hv
 have hwid:cc m.nodes b.node.toNat=cc m.nodes p/\aK m.nodes b.node.toNat<=aK m.nodes p:=by
  unfold cc aK
  rw [hn,<-hs]
  rcases h4 with h4|h4
  ·rw [h4];exact⟨rfl,Nat.le_refl _⟩
  ·rw [h4]
   refine⟨rfl,?_⟩
   have ho:bQ (aE m.nodes b.state)=true:=by rw [hs];exact qc g.ok (by omega)
   have ho2:bQ (cy (aE m.nodes b.state).wid)=true:=by
    have:=bZ.1 ho
    exact bZ.2 ⟨by simp [cy],by simp only [cy];omega⟩
   unfold cL
   rw [if_pos ho,if_pos ho2]
   exact bG _
 refine⟨?_,fun y hy=>?_⟩
 ·unfold mT
  rw [List.length_append,List.length_replicate]
  have:=hf.1;show ((od m).getD b.node.toNat []).length+(aK m.nodes p-((od m).getD b.node.toNat []).length)=_
  unfold od;omega
 ·unfold mT at hy
  rw [List.mem_append,List.mem_replicate]at hy
  rw [<-hwid.1]
  rcases hy with hy|⟨_,rfl⟩
  ·exact hf.2 y hy
  ·exact hv.get_lt hv.pos|>fun h=>by
    have e:cc m.nodes b.node.toNat=(aE m.nodes b.node).wid.toNat:=by unfold cc;rw [hn]
    rw [e];exact h
theorem oW {m:ai} (g:dP m) {v:List (List Nat)} (hv:wU m.nodes m.nodes.length v):mA m.nodes (stP m) (gv m v):=CD fun p _ x hx=>uk g hv hx
theorem yn {m:ai} (g:dP m):mA m.nodes (stP m) (lk m):=CD fun p _ x hx=>qX g hx
theorem fu {m:ai} (g:dP m):cw m.nodes (stP m)=ak m.nodes 36:=Dc _ g.ok 36
theorem EP {m:ai} (g:dP m):cw m.nodes (inP m)=ak m.nodes 35:=Dc _ g.ok 35
theorem CN {binds:List BindP} (h:jE (binds.map (·.state))=false) {j:Nat} {b:BindP} (hb:binds[j]?=some b): ∀x∈binds.take j,x.state≠b.state:=by
 intro x hx e
 have:jE (binds.map (·.state))=true:=uu.2 ⟨j,b.state,by simp [hb],by
  rw [<-List.map_take,<-e];exact List.mem_map.2 ⟨x,hx,rfl⟩⟩
 rw [h]at this;cases this
theorem Gk {binds:List BindP} (h:jE (binds.map (·.state))=false) {j:Nat} {b:BindP} (hb:binds[j]?=some b) (p:Nat):
  ce (binds.take (j+1)) p=if b.state=(p:Int)then some b.node.toNat else ce (binds.take j) p:=by
 have hlt:=get_lt hb
 have hg:binds[j]=b:=by rw [List.getElem?_eq_getElem hlt]at hb;exact Option.some.inj hb
 unfold ce
 rw [List.take_succ_eq_append_getElem hlt,List.find?_append,hg]
 by_cases e:b.state=(p:Int)
 ·rw [if_pos e]
  have hn:(binds.take j).find? (fun b=>decide (b.state=(p:Int)))=none:=by
   rw [List.find?_eq_none]
   intro x hx
   have:=CN h hb x hx
   simp;omega
  rw [hn];simp [e]
 ·rw [if_neg e]
  have:([b]:List BindP).find? (fun b=>decide (b.state=(p:Int)))=none:=by simp [e]
  rw [this,Option.or_none]
theorem pT {m:ai} (h:tC m=false):k4 m.nodes=false/\jE (m.inits.map (·.state))=false/\jE (m.nexts.map (·.state))=false:=by
 rw [B8]at h
 simp only [Bool.or_eq_false_iff]at h
 exact h
theorem sG.blk {h0 h:Hp} {out:Sl} {ts:List Sl} {vs:List (List Nat)} (e:sG h0 h out ts vs) {i:Nat} (hi:i<vs.length):
  ∃b,ts[i]?=some ⟨some ⟨b,0,none⟩,(vs.getD i []).length,(vs.getD i []).length⟩/\h0 b=none/\(h.offS out) b=some (.inl ⟨(VL (vs.getD i [])).map I,(vs.getD i []).length,false⟩):=by
 have hl:=e.len
 obtain⟨b,h1,h2,h3⟩:=e.row i _ (List.getElem?_eq_getElem (show i<ts.length by omega))
 exact⟨b,by rw [List.getElem?_eq_getElem (show i<ts.length by omega),h1],h2,h3⟩
theorem sG.wr {h0 h:Hp} {out:Sl} {ts:List Sl} {vs:List (List Nat)} {b n c i k x:Nat} {P:Hp->Prop} (e:sG h0 h out ts vs) (ht:ts[i]?=some ⟨some ⟨b,0,none⟩,n,c⟩) (hi:i<vs.length) (hk:k<(vs.getD i []).length)
  (kk: ∀h',sG h0 h' out ts (vs.set i ((vs.getD i []).set k x))->P h'):
  ∃(cs:List Value) (z:Nat),h b=some (.inl ⟨cs,z,false⟩)/\(0+Int.toNat (k:Int)*1)+1<=List.length cs/\cu (h.row b (cv cs (0+Int.toNat (k:Int)*1) [I x]) z) P:=by
 obtain⟨b',h1,h2,h3⟩:=e.blk hi
 rw [ht]at h1
 simp only [Option.some.injEq,Sl.mk.injEq,Addr.mk.injEq,and_true,true_and]at h1
 obtain⟨rfl,rfl,rfl⟩:=h1
 refine⟨_,_,bk _ _ _ _ h3,?_,?_⟩
 ·rw [List.length_map,bz,Int.toNat_natCast];omega
 rw [Pu]
 refine kk _ ⟨by rw [List.length_set];exact e.len,fun j t hj=>?_,e.dis,e.buf.row _ _ h3,?_⟩
 ·obtain⟨bj,g1,g2,g3⟩:=e.row j t hj
  by_cases hji:j=i
  ·subst hji
   rw [ht]at hj
   obtain rfl:=(Option.some.inj hj).symm
   simp only [Sl.mk.injEq,Option.some.injEq,Addr.mk.injEq,and_true,true_and]at g1
   obtain⟨rfl,_⟩:=g1
   have hv:(vs.set j ((vs.getD j []).set k x)).getD j []=(vs.getD j []).set k x:=by
    rw [List.getD_eq_getElem?_getD,List.getElem?_set_self (by omega)];rfl
   rw [hv,List.length_set]
   refine⟨b,rfl,g2,?_⟩
   rw [pG _ _ h3,bR]
   simp [VL,List.map_set,bP]
  ·have hv:(vs.set i ((vs.getD i []).set k x)).getD j []=vs.getD j []:=by
    rw [List.getD_eq_getElem?_getD,List.getElem?_set_ne (Ne.symm hji),<-List.getD_eq_getElem?_getD]
   rw [hv]
   refine⟨bj,g1,g2,?_⟩
   rw [pG _ _ h3,bX]
   ·exact g3
   ·rintro rfl
    refine hji (e.dis j i t _ hj ht ?_)
    rw [g1]
 ·rw [pG _ _ h3]
  exact eg _ _ h2 e.le
def xr (l:List NodeP) (ps:List Nat) (code i:Nat):List (List Nat):=(gj l ps code).take i++(cZ l ps).drop i
def qn (l:List NodeP) (p code k:Nat):List Nat:=kZ (cc l p) k code++List.replicate (aK l p-k) 0
theorem ST (l:List NodeP) (ps:List Nat) (code i:Nat) (hi:i<=ps.length):(xr l ps code i).length=ps.length:=by
 unfold xr;rw [List.length_append,List.length_take,List.length_drop,kA,cZ,List.length_map];omega
theorem LR {l:List NodeP} {ps:List Nat} {code i p:Nat} (h:ps[i]?=some p):(xr l ps code i).getD i []=qn l p (code/2^cw l (ps.take i)) 0:=by
 have hlt:=get_lt h
 unfold xr qn
 rw [List.getD_eq_getElem?_getD,List.getElem?_append_right (by rw [List.length_take,kA];omega),List.length_take,kA,Nat.min_eq_left (by omega),Nat.sub_self,List.getElem?_drop,Nat.add_zero,cZ,List.getElem?_map,h]
 rfl
theorem Th {l:List NodeP} {ps:List Nat} {code i p:Nat} (h:ps[i]?=some p):(xr l ps code i).set i (qn l p (code/2^cw l (ps.take i)) (aK l p))=xr l ps code (i+1):=by
 have hlt:=get_lt h
 have hu:(gj l ps code)[i]?=some (kZ (cc l p) (aK l p) (code/2^cw l (ps.take i))):=by
  have:=Fl (l:=l) (code:=code) h
  rw [List.getD_eq_getElem?_getD,List.getElem?_eq_getElem (by rw [kA];exact hlt)]at this
  rw [List.getElem?_eq_getElem (by rw [kA];exact hlt)]
  exact congrArg some this
 unfold xr qn
 rw [Nat.sub_self,List.replicate_zero,List.append_nil,List.set_append_right _ _ (by rw [List.length_take,kA];omega),List.length_take,kA,Nat.min_eq_left (by omega),Nat.sub_self]
 have hd:(cZ l ps).drop i=List.replicate (aK l p) 0::(cZ l ps).drop (i+1):=by
  rw [<-List.getElem_cons_drop (show i<(cZ l ps).length by rw [cZ,List.length_map];exact hlt)]
  congr 1
  unfold cZ
  rw [List.getElem_map]
  rw [List.getElem?_eq_getElem hlt]at h
  rw [Option.some.inj h]
 rw [hd,List.set_cons_zero,List.take_add_one,hu]
 simp
theorem OU {l:List NodeP} {p code k:Nat} (hk:k<aK l p):(qn l p code k).set k (code/2^(cc l p*k)%2^cc l p)=qn l p code (k+1):=by
 unfold qn
 rw [List.set_append_right _ _ (by rw [pZ];omega),pZ,Nat.sub_self]
 obtain⟨d,hd⟩: ∃d,aK l p-k=d+1:=⟨aK l p-k-1,by omega⟩
 rw [hd,List.replicate_succ,List.set_cons_zero,show aK l p-(k+1)=d by omega,kZ,List.append_assoc];rfl
theorem FX {l:List NodeP} {p code k:Nat} (hk:k<=aK l p):(qn l p code k).length=aK l p:=by
 unfold qn;rw [List.length_append,pZ,List.length_replicate];omega
theorem ji.widc {h:Hp} {s:Sl} {l:List NodeP} (e:ji h s l) {p:Nat} (hp:p<l.length) (hok:cm l=true):
  ∃b o,s.a=some (Addr.mk b o none)/\(p:Int)<(s.n:Int)/\Hp.cell h b (((o+Int.toNat (p:Int)*9)+6)+1)=some (I (cc l p))/\1<=cc l p/\cc l p<=16:=by
 obtain⟨b,o,h1,h2,h3,h4⟩:=e.sortc hp
 have:=bZ.1 (qc hok hp)
 have hw:(aE l p).wid=((cc l p:Nat):Int):=by unfold cc;omega
 exact⟨b,o,h1,h2,by rw [<-hw];exact h4,by unfold cc;omega,by unfold cc;omega⟩
theorem Tl {l:List NodeP} {ps:List Nat} {code:Nat} {v:List Nat} (h:v∈gj l ps code):v.length<=4:=by
 unfold gj at h
 obtain⟨i,_,rfl⟩:=List.mem_map.1 h
 rw [pZ];exact dj _ _
theorem mq (l:List NodeP) (ps:List Nat):(cZ l ps).length=ps.length:=by simp [cZ]
theorem sm {h:Hp} {M:MSl} {m:ai} {s:Sl} {ps:List Nat} {code:Nat} {R:Value->Hp->Prop} (hs:aN h M m) (hm:bW m) (hok:cm m.nodes=true) (hp:IntS h s (VL ps)) (hps: ∀p∈ps,p<m.nodes.length) (hpl:ps.length<=1048576)
  (hcode:code<=1048576) (k: ∀out h',h.le h'->IntSS h' out ((gj m.nodes ps code).map VL)->out.n<=out.c->R (Sl.v out) h'):dN #[aO M,s.v,I code] h R:=by
 apply EI
 refine uf_ ?_
 have hn:=hs.nodes.len
 have hns:=hm.nodes
 have hsn:=hp.len
 rw [bz]at hsn
 refine aj fun b9 h1 hb9 l1 f9=>?_
 repeat' (refine az ?_)
 refine rV (hs.mono l1) hm (hp.mono l1) hps hpl fun out ts h2 hC hon=>⟨out,rfl,?_⟩
 refine av ps.length (fun i vs h'=>vs= [I (code/2^cw m.nodes (ps.take i):Nat), .pointer (some ⟨b9,0,none⟩),out.v,s.v,I s.n,I i]/\sG h1 h' out ts (xr m.nodes ps code i)) ⟨?_,?_⟩ ?_
 ·simp [cw]
 ·have:xr m.nodes ps code 0=cZ m.nodes ps:=by simp [xr]
  rw [this];exact hC
 clear hC h2
 rintro i _ h2 next hi ⟨rfl,hC⟩ hnx
 have hle:=Hp.le_trans hC.le (bk _ _)
 have f9':=hle _ _ f9
 refine⟨_,_,_,out,s,_,_,rfl,?_⟩
 by_cases hlt:i<ps.length
 rotate_left
 ·have hie:i=ps.length:=by omega
  subst hie
  refine aD (by simp;omega) (k out h2 (Hp.le_trans l1 hle) ?_ hC.buf.2.1)
  have:xr m.nodes ps code ps.length=gj m.nodes ps code:=by
   unfold xr
   rw [List.take_of_length_le (by rw [kA];omega),List.drop_of_length_le (by rw [mq];omega),List.append_nil]
  rw [this]at hC
  refine hC.ints (fun v hv=>?_) (by omega)
  have:=Tl hv;omega
 refine aJ (by simp;omega) ?_
 obtain⟨p,hpi⟩: ∃p,ps[i]?=some p:=⟨_,List.getElem?_eq_getElem hlt⟩
 have hpm:=hps p (List.mem_of_getElem? hpi)
 obtain⟨b,o,ha,hc⟩:=((hp.mono l1).mono hle).get (gn hpi)
 refine⟨b,o,ha,by omega,by omega,_,hc,?_⟩
 (refine az ?_)
 obtain⟨bn,on,han,hpn,c7,w1,w16⟩:=((hs.mono l1).mono hle).nodes.widc hpm hok
 refine⟨bn,on,han,by omega,hpn,_,c7,?_⟩
 have hol:=ST m.nodes ps code i (by omega)
 obtain⟨bi,hti,hbi,hri⟩:=hC.blk (i:=i) (by omega)
 rw [LR hpi,FX (Nat.zero_le _)]at hti
 obtain⟨bo,hoa,hob⟩: ∃bo,out.a=some ⟨bo,0,none⟩/\h2 bo=some (.inl ⟨ts.map Sl.v,out.c*1,false⟩):=by
  rcases hC.buf.2.2 with ⟨_,h0,_⟩|h0
  ·omega
  ·exact h0
 have hcell:Hp.cell h2 bo (0+Int.toNat (i:Int)*1)=some (Sl.v ⟨some ⟨bi,0,none⟩,aK m.nodes p,aK m.nodes p⟩):=by
  rw [aq hob,Nat.zero_add,Int.toNat_natCast,Nat.mul_one,List.getElem?_map,hti];rfl
 refine⟨bo,0,hoa,by omega,by omega,_,hcell,?_⟩
 have hcl:=dj m.nodes p
 generalize hci:code/2^cw m.nodes (ps.take i)=ci
 have hcile:ci<=code:=by rw [<-hci];exact Nat.div_le_self _ _
 refine av (aK m.nodes p) (fun k vs h'=>vs= [I (ci/2^(cc m.nodes p*k):Nat), .pointer (some ⟨b9,0,none⟩),out.v,I i,I (cc m.nodes p),s.v,I s.n,I i,I (aK m.nodes p:Nat),I k]/\
  sG h1 h' out ts ((xr m.nodes ps code i).set i (qn m.nodes p ci k))) ⟨by simp,?_⟩ ?_
 ·rw [<-hci,<-LR hpi]
  have:(xr m.nodes ps code i).set i ((xr m.nodes ps code i).getD i [])=xr m.nodes ps code i:=by
   rw [List.getD_eq_getElem?_getD,List.getElem?_eq_getElem (by omega)];simp
  rw [this];exact hC
 clear hC hle f9' hri hob hcell ha hc han hpn c7 h2
 rintro q _ h2 next2 hq ⟨rfl,hC⟩ hnx2
 have hle:=Hp.le_trans hC.le (bk _ _)
 have f9':=hle _ _ f9
 have hdiv:ci/2^(cc m.nodes p*q)<=ci:=Nat.div_le_self _ _
 refine⟨_,_,_,out,_,_,s,_,_,_,_,rfl,?_⟩
 have hgs:((xr m.nodes ps code i).set i (qn m.nodes p ci q)).getD i []=qn m.nodes p ci q:=by
  rw [List.getD_eq_getElem?_getD,List.getElem?_set_self (by omega)];rfl
 by_cases hlq:q<aK m.nodes p
 rotate_left
 ·have hqe:q=aK m.nodes p:=by omega
  subst hqe
  refine aD (by simp) ?_
  rw [aA (by omega)]
  refine hnx hlt _ _ ⟨?_,?_⟩
  ·rw [mL hpi,Nat.pow_add,<-Nat.div_div_eq_div_mul,hci]
  ·rw [<-hci]at hC
   rw [<-Th hpi];exact hC
 refine aJ (by simp;omega) ?_
 obtain⟨bo',hoa',hob'⟩: ∃bo,out.a=some ⟨bo,0,none⟩/\h2 bo=some (.inl ⟨ts.map Sl.v,out.c*1,false⟩):=by
  rcases hC.buf.2.2 with ⟨_,h0,_⟩|h0
  ·omega
  ·exact h0
 have hcell':Hp.cell h2 bo' (0+Int.toNat (i:Int)*1)=some (Sl.v ⟨some ⟨bi,0,none⟩,aK m.nodes p,aK m.nodes p⟩):=by
  rw [aq hob',Nat.zero_add,Int.toNat_natCast,Nat.mul_one,List.getElem?_map,hti];rfl
 refine⟨bo',0,hoa',by omega,by omega,_,hcell',?_⟩
 refine dz (by omega) ⟨_,rfl,rfl,bi,0,rfl,by omega,by dsimp only;omega,?_⟩
 rw [gF (by omega),oP,kx (by omega),Nat.div_div_eq_div_mul,<-Nat.pow_add]
 refine hC.wr hti (by rw [List.length_set];omega) (by rw [hgs,FX (by omega)];exact hlq) fun h3 hC'=>?_
 rw [if_neg (by omega),aA (by omega)]
 refine hnx2 hlq _ _ ⟨by rw [Nat.mul_add,Nat.mul_one],?_⟩
 rw [hgs,List.set_set,OU hlq]at hC'
 exact hC'
theorem ji.sortc2 {h:Hp} {s:Sl} {l:List NodeP} (e:ji h s l) {p:Nat} (hp:p<l.length) (hok:cm l=true):
  ∃b o,s.a=some (Addr.mk b o none)/\(p:Int)<(s.n:Int)/\Hp.cell h b ((o+Int.toNat (p:Int)*9)+6)=some (I (aE l p).idx)/\Hp.cell h b (((o+Int.toNat (p:Int)*9)+6)+1)=some (I (cc l p))/\1<=cc l p/\cc l p<=16:=by
 obtain⟨b,o,h1,h2,h3,h4⟩:=e.sortc hp
 have:=bZ.1 (qc hok hp)
 have hw:(aE l p).wid=((cc l p:Nat):Int):=by unfold cc;omega
 exact⟨b,o,h1,h2,h3,by rw [<-hw];exact h4,by unfold cc;omega,by unfold cc;omega⟩
theorem qi {l:List NodeP} {p:Nat} (hok:cm l=true) (hp:p<l.length):cL ⟨(aE l p).idx,(cc l p:Nat)⟩=aK l p:=by
 have:=bZ.1 (qc hok hp)
 have hw:((cc l p:Nat):Int)=(aE l p).wid:=by unfold cc;omega
 rw [hw];rfl
theorem SR (w k ci:Nat):(VL (kZ w k ci)).map I++ [I ((ci/2^(w*k)%2^w:Nat):Int)]=(VL (kZ w (k+1) ci)).map I:=by
 rw [kZ,uq,List.map_append];rfl
theorem fM {h:Hp} {M:MSl} {m:ai} {s:Sl} {ps:List Nat} {code:Nat} {R:Value->Hp->Prop} (hs:aN h M m) (hm:bW m) (hok:cm m.nodes=true) (hp:IntS h s (VL ps)) (hps: ∀p∈ps,p<m.nodes.length) (hpl:ps.length<=1048576)
  (hcode:code<=1048576) (hsum:cw m.nodes ps<=60) (k: ∀out h',h.le h'->IntSS h' out ((gj m.nodes ps code).map VL)->R (Sl.v out) h'):bC #[aO M,s.v,I code] h R:=by
 apply DP
 refine uf_ ?_
 have hn:=hs.nodes.len
 have hns:=hm.nodes
 have hsn:=hp.len
 rw [bz]at hsn
 refine aj fun b9 h1 hb9 l1 f9=>?_
 refine av ps.length (fun i vs h'=> ∃(ts:List Sl) (out:Sl),vs= [s.v,I code, .pointer (some ⟨b9,0,none⟩),out.v,I (cw m.nodes (ps.take i):Nat),I i]/\
  h.le (h'.offS out)/\(h'.offS out) b9=some (.inl ⟨aw M,5,false⟩)/\out.n=i/\ts.length=i/\Buf h' out 1 (ts.map Sl.v)/\
  (∀(j:Nat) (t:Sl),ts[j]?=some t->IntS (h'.offS out) t (VL ((gj m.nodes ps code).getD j []))))
  ⟨[],⟨none,0,0⟩,by simp [cw],l1,f9,rfl,rfl,eG _ _,fun j t ht=>by simp at ht⟩ ?_
 clear f9 l1 hb9 h1
 rintro i _ h3 next hi ⟨ts,out,rfl,l3,f9,hon,htl,hbuf,hts⟩ hnx
 have lo:=bk h3 out
 have f9':=lo _ _ f9
 have l3':=Hp.le_trans l3 lo
 have hsi:=EZ m.nodes ps i
 refine⟨s,_,_,_,out,_,_,rfl,?_⟩
 by_cases hlt:i<ps.length
 rotate_left
 ·have hie:i=ps.length:=by omega
  subst hie
  refine aD (by simp;omega) (k out h3 l3' ⟨ts,by simp [kA];omega,hbuf.slc_of (by omega),fun j h1 h2=>?_⟩)
  have:=(hts j _ (List.getElem?_eq_getElem h1)).mono lo
  have hju:j<(gj m.nodes ps code).length:=by rw [kA];omega
  rw [List.getElem_map]
  rwa [List.getD_eq_getElem?_getD,List.getElem?_eq_getElem hju]at this
 refine aJ (by simp;omega) ?_
 obtain⟨p,hpi⟩: ∃p,ps[i]?=some p:=⟨_,List.getElem?_eq_getElem hlt⟩
 have hpm:=hps p (List.mem_of_getElem? hpi)
 obtain⟨b,o,ha,hc⟩:=(hp.mono l3').get (gn hpi)
 refine⟨b,o,ha,by omega,by omega,?_⟩
 (refine az ?_)
 refine⟨_,hc,?_⟩
 obtain⟨bn,on,han,hpn,c6,c7,w1,w16⟩:=(hs.mono l3').nodes.sortc2 hpm hok
 refine⟨bn,on,han,by omega,hpn,_,c6,_,c7,?_⟩
 have xb:=gp hc
 have xbn:=gp c6
 have xb9:=eF f9'
 refine aj fun b37 h4 hb37 l4 f37=>?_
 repeat' (((with_reducible apply kB);(assumption);(assumption)))
 (with_reducible apply cb);(exact f37);(exact l4);(exact hb37);(exact Nat.le_refl 2)
 intro h5 f37b kp l5
 clear f37 kp l4 h4
 refine aj fun b43 h6 hb43 l6 f43=>?_
 have n37:=fresh_ne hb43 f37b
 have hb43':=aF l5 hb43
 (with_reducible apply cb);(exact f43);(exact Hp.le_trans l5 l6);(exact hb43');(exact Nat.le_refl 1)
 intro h7 f43b kp l7
 have f37c:h7 b37=some (.inl ⟨[I (aE m.nodes p).idx,I (cc m.nodes p)],2,false⟩):=cf kp n37 (l6 _ _ f37b)
 have f43c:h7 b43=some (.inl ⟨[(⟨none,0,0⟩:Sl).v],1,false⟩):=f43b
 clear f43 f43b f37b kp l6 l5
 have hcl:=dj m.nodes p
 have hcm:=qi hok hpm
 have hstep:=mL (l:=m.nodes) hpi
 have hsi1:=EZ m.nodes ps (i+1)
 obtain⟨ci,hci⟩: ∃ci,ci=code/2^cw m.nodes (ps.take i):=⟨_,rfl⟩
 refine av (aK m.nodes p) (fun q vs h'=> ∃sl:Sl,vs= [s.v,I code, .pointer (some ⟨b9,0,none⟩),out.v,I (cw m.nodes (ps.take i)+cc m.nodes p*q:Nat),I i, .pointer (some ⟨b37,0,none⟩), .pointer (some ⟨b43,0,none⟩),I q]/\
  h3.le (h'.offS sl)/\(h'.offS sl) b37=some (.inl ⟨[I (aE m.nodes p).idx,I (cc m.nodes p)],2,false⟩)/\(h'.offS sl) b43=some (.inl ⟨[sl.v],1,false⟩)/\sl.n=q/\Buf h' sl 1 ((VL (kZ (cc m.nodes p) q ci)).map I))
  ⟨⟨none,0,0⟩,by simp,l7,f37c,f43c,rfl,eG _ _⟩ ?_
 clear f37c f43c l7 h7
 rintro q _ h7 next2 hq ⟨sl,rfl,l7,f37,f43,hsl,hbufl⟩ hnx2
 have los:=bk h7 sl
 have f37':=los _ _ f37
 have f43':=los _ _ f43
 refine⟨s,_,_,_,out,_,_,_,_,_,_,_,rfl,?_⟩
 repeat' (refine az ?_)
 refine fe ⟨_,rfl,?_⟩
 rw [hcm]
 by_cases hlq:q<aK m.nodes p
 rotate_left
 ·have hqe:q=aK m.nodes p:=by omega
  subst hqe
  refine aD (by simp) ?_
  (refine az ?_)
  refine aj fun b103 h8 hb103 l8 f103=>?_
  have l38:=Hp.le_trans l7 (Hp.le_trans los l8)
  have l38o:=bM out l38
  refine dp (hbuf.mono l38) (by omega) (by omega) (by omega) ⟨b103,0,rfl,ay f103⟩ (by simp) rfl ?_
  intro s' h10 hs'n hbuf' l10 _
  rw [aA (by omega)]
  have l310:=Hp.le_trans l38o l10
  have hbuf'':Buf h10 s' 1 ((ts++ [sl]).map Sl.v):=by rw [List.map_append];exact hbuf'
  have hval:IntS h8 sl (VL (kZ (cc m.nodes p) (aK m.nodes p) ci)):=SlC.mono l8 (hbufl.slc_of (by omega))
  rw [<-hstep]
  refine hnx hlt _ _ ⟨ts++ [sl],s',rfl,Hp.le_trans l3 l310,l310 _ _ f9,by omega,by simp;omega,hbuf'',fun j u hu=>?_⟩
  by_cases hj:j<i
  ·rw [List.getElem?_append_left (by omega)]at hu
   exact(hts j u hu).mono l310
  ·have hju:=get_lt hu
   simp at hju
   have hje:j=i:=by omega
   subst hje
   rw [List.getElem?_append_right (by omega),htl,Nat.sub_self]at hu
   simp at hu;subst hu
   rw [Fl hpi,<-hci]
   exact(hval.offL (hbuf.mono l38)).mono l10
 refine aJ (by simp;omega) ?_
 have hmul:cc m.nodes p*q<=cc m.nodes p*aK m.nodes p:=Nat.mul_le_mul_left _ hq
 have hmul2:cc m.nodes p*(q+1)<=cc m.nodes p*aK m.nodes p:=Nat.mul_le_mul_left _ hlq
 have hp16:=ze w16
 have hpp:=bG (cc m.nodes p)
 refine ap (fun J=> ∀(sl':Sl) (h':Hp),h3.le (h'.offS sl')->(h'.offS sl') b37=some (.inl ⟨[I (aE m.nodes p).idx,I (cc m.nodes p)],2,false⟩)->(h'.offS sl') b43=some (.inl ⟨[sl'.v],1,false⟩)->sl'.n=q+1->
   Buf h' sl' 1 ((VL (kZ (cc m.nodes p) (q+1) ci)).map I)->J (cw m.nodes (ps.take i)+cc m.nodes p*(q+1):Nat) h') ?_ (fun J hJ=>?_)
 ·intro sl' h' g1 g2 g3 g4 g5
  rw [aA (by omega)]
  exact hnx2 hlq _ _ ⟨sl',rfl,g1,g2,g3,g4,g5⟩
 have xb60:=eF f37'
 have xb62:=eF f43'
 rw [cl (n:=cw m.nodes (ps.take i)+cc m.nodes p*q) (by omega)]
 repeat' (refine az ?_)
 rw [cl (n:=cc m.nodes p) (by omega)]
 rw [kx (by omega),bD (by omega),eV]
 have hval:code/2^(cw m.nodes (ps.take i)+cc m.nodes p*q)=ci/2^(cc m.nodes p*q):=by
  rw [hci,Nat.div_div_eq_div_mul,<-Nat.pow_add]
 rw [hval]
 have app: ∀(K:Option Addr->Nat->Nat->Hp->Prop) (h8:Hp) (b75:Nat),h7.le h8->h8 b75=some (.inl ⟨[I ((ci/2^(cc m.nodes p*q)%2^cc m.nodes p:Nat):Int)],1,false⟩)->
   (∀(s':Sl) (h9:Hp),s'.n=q+1->h3.le (h9.offS s')->(h9.offS s') b37=some (.inl ⟨[I (aE m.nodes p).idx,I (cc m.nodes p)],2,false⟩)->(h9.offS s') b43=some (.inl ⟨[sl.v],1,false⟩)->Buf h9 s' 1 ((VL (kZ (cc m.nodes p) (q+1) ci)).map I)->K s'.a s'.n s'.c h9)->
   ck h8 sl.a sl.n sl.c (some ⟨b75,0,none⟩) 1 1 8 K:=by
  intro K h8 b75 l8 f75 hK
  have l78:=bM sl l8
  refine dp (hbufl.mono l8) (by omega) (by omega) (by omega) ⟨b75,0,rfl,ay f75⟩ (by simp) rfl ?_
  intro s' h9 hs'n hbuf' l9 _
  have l79:=Hp.le_trans l78 l9
  refine hK s' h9 (by omega) (Hp.le_trans l7 l79) (l79 _ _ f37) (l79 _ _ f43) ?_
  rw [<-SR];exact hbuf'
 have fin: ∀(s':Sl) (h9:Hp),s'.n=q+1->h3.le (h9.offS s')->(h9.offS s') b37=some (.inl ⟨[I (aE m.nodes p).idx,I (cc m.nodes p)],2,false⟩)->(h9.offS s') b43=some (.inl ⟨[sl.v],1,false⟩)->Buf h9 s' 1 ((VL (kZ (cc m.nodes p) (q+1) ci)).map I)->
   ∃(cs:List Value) (z:Nat),h9 b43=some (.inl ⟨cs,z,false⟩)/\0+1<=List.length cs/\cu (h9.row b43 (cv cs 0 [.slice s'.a s'.n s'.c]) z) fun h83=> ∃(x85:Int),Hp.cell h83 b37 (0+1)=some (I x85)/\(J (W (((cw m.nodes (ps.take i)+cc m.nodes p*q:Nat):Int)+x85)) h83):=by
  intro s' h9 g1 g2 g3 g4 g5
  (with_reducible apply uY);(exact g4);(exact g2);(exact hb43');(exact Nat.le_refl 1)
  intro h10 e43 kp l10 hbk
  have e37:(h10.offS s') b37=some (.inl ⟨[I (aE m.nodes p).idx,I (cc m.nodes p)],2,false⟩):=by rw [kp _ n37];exact g3
  refine⟨_,by rw [aq (bk _ _ _ _ e37)];rfl,?_⟩
  have:W (((cw m.nodes (ps.take i)+cc m.nodes p*q:Nat):Int)+((cc m.nodes p:Nat):Int))=((cw m.nodes (ps.take i)+cc m.nodes p*(q+1):Nat):Int):=by
   rw [bV (by omega) (by omega),Nat.mul_add,Nat.mul_one];omega
  rw [this]
  exact hJ s' h10 l10 e37 e43 g1 (hbk _ _ g5)
 constructor
 ·repeat' (refine az ?_)
  rw [if_neg (by omega)]
  repeat' (refine az ?_)
  rw [if_neg (by omega),if_neg (by omega)]
  refine aj fun b75 h8 hb75 l8 f75=>?_
  (((with_reducible apply kB);(assumption);(assumption)))
  exact app _ h8 b75 l8 f75 fun s' h9 g1 g2 g3 g4 g5=>fin s' h9 g1 g2 g3 g4 g5
 ·repeat' (refine az ?_)
  rw [if_neg (by omega)]
  repeat' (refine az ?_)
  rw [if_neg (by omega),if_neg (by omega)]
  refine aj fun b75 h8 hb75 l8 f75=>?_
  (((with_reducible apply kB);(assumption);(assumption)))
  exact app _ h8 b75 l8 f75 fun s' h9 g1 g2 g3 g4 g5=>fin s' h9 g1 g2 g3 g4 g5
theorem NO {a n x:Nat} (h:a<2^n):a|||(x*2^n)=a+x*2^n:=by
 rw [Nat.or_comm,Nat.mul_comm,<-Nat.two_pow_add_eq_or_of_lt h,Nat.add_comm]
theorem GT {l:List NodeP} {ps:List Nat} {vs:List (List Nat)} {i p:Nat} (h:ps[i]?=some p) (hf:mA l ps vs):
  dZ l (ps.take (i+1)) (vs.take (i+1))=dZ l (ps.take i) (vs.take i)+2^cw l (ps.take i)*fz (cc l p) (vs.getD i []):=by
 have hlt:=get_lt h
 have hl:=nv hf
 rw [List.getElem?_eq_getElem hlt]at h
 rw [List.take_succ_eq_append_getElem hlt,List.take_succ_eq_append_getElem (show i<vs.length by omega),Np (by rw [List.length_take,List.length_take];omega),Option.some.inj h]
 rw [List.getD_eq_getElem?_getD,List.getElem?_eq_getElem (show i<vs.length by omega)];rfl
theorem Ow {w:Nat} {v:List Nat} {q:Nat} (h:q<v.length):fz w (v.take (q+1))=fz w (v.take q)+2^(w*q)*v.getD q 0:=by
 rw [List.take_succ_eq_append_getElem h,Ff,List.length_take,Nat.min_eq_left (by omega),List.getD_eq_getElem?_getD,List.getElem?_eq_getElem h];rfl
theorem vz {l:List NodeP} {ps:List Nat} {vs:List (List Nat)} {i p q:Nat} (h:ps[i]?=some p) (hf:mA l ps vs) (hq:q<=aK l p):
  dZ l (ps.take i) (vs.take i)+2^cw l (ps.take i)*fz (cc l p) ((vs.getD i []).take q)<2^(cw l (ps.take i)+cc l p*q):=by
 have h1:=Ax (Qd hf i)
 have h2:=qa hf h
 have h3:=xz (w:=cc l p) (xs:=(vs.getD i []).take q) fun x hx=>h2.2 x (List.mem_of_mem_take hx)
 rw [List.length_take,Nat.min_eq_left (by omega)]at h3
 rw [Nat.pow_add]
 have h4:=Nat.mul_le_mul_left (2^cw l (ps.take i)) (Nat.succ_le_of_lt h3)
 rw [Nat.succ_eq_add_one,Nat.mul_add,Nat.mul_one]at h4
 omega
theorem IntSS.getV {h:Hp} {s:Sl} {vs:List (List Nat)} (e:IntSS h s (vs.map VL)) {i:Nat} (hi:i<vs.length):
  ∃b o t,s.a=some (Addr.mk b o none)/\Hp.cell h b (o+i*1)=some (Sl.v t)/\IntS h t (VL (vs.getD i [])):=by
 obtain⟨b,o,t,h1,h2,h3⟩:=e.at (i:=i) (by rw [List.length_map];exact hi)
 refine⟨b,o,t,h1,by rw [Nat.mul_one];exact h2,?_⟩
 rw [List.getElem_map]at h3
 rwa [List.getD_eq_getElem?_getD,List.getElem?_eq_getElem hi]
theorem yb {l:List NodeP} {ps:List Nat} {i p q:Nat} (h:ps[i]?=some p) (hq:q<=aK l p):cw l (ps.take i)+cc l p*q<=cw l ps:=by
 have h1:=mL (l:=l) h
 have h2:=EZ l ps (i+1)
 have h3:=Nat.mul_le_mul_left (cc l p) hq
 omega
theorem AV {n:Nat} (h:n<=60):2^n<=1152921504606846976:=by
 have:=Nat.pow_le_pow_right (n:=2) (by omega) h
 simpa using this
theorem ya {l:List NodeP} {ps:List Nat} {vs:List (List Nat)} {i p q:Nat} (h:ps[i]?=some p) (hf:mA l ps vs) (hq:q<aK l p):
  dZ l (ps.take i) (vs.take i)+2^cw l (ps.take i)*fz (cc l p) ((vs.getD i []).take (q+1))=
   (dZ l (ps.take i) (vs.take i)+2^cw l (ps.take i)*fz (cc l p) ((vs.getD i []).take q))+(vs.getD i []).getD q 0*2^(cw l (ps.take i)+cc l p*q):=by
 have h2:=qa hf h
 rw [Ow (by omega),Nat.mul_add,Nat.add_assoc,<-Nat.mul_assoc,<-Nat.pow_add,Nat.mul_comm (2^(cw l (ps.take i)+cc l p*q))]
theorem BM {h:Hp} {M:MSl} {m:ai} {s t:Sl} {ps:List Nat} {vs:List (List Nat)} {R:Value->Hp->Prop} (hs:aN h M m) (hm:bW m) (hok:cm m.nodes=true) (hp:IntS h s (VL ps)) (hps: ∀p∈ps,p<m.nodes.length) (hpl:ps.length<=1048576)
  (hv:IntSS h t (vs.map VL)) (hf:mA m.nodes ps vs) (hsum:cw m.nodes ps<=60) (k:R (I (dZ m.nodes ps vs)) h):iz #[aO M,s.v,t.v] h R:=by
 refine ACalls.drop (Bp ?_)
 refine uf_ ?_
 have hn:=hs.nodes.len
 have hns:=hm.nodes
 have hsn:=hp.len
 rw [bz]at hsn
 have htn:=hv.len
 rw [List.length_map]at htn
 have hvl:=nv hf
 have hsum60:=AV hsum
 refine aj fun b9 h1 hb9 l1 f9=>?_
 refine av ps.length (fun i ws h'=>h'=h1/\ws= [t.v, .pointer (some ⟨b9,0,none⟩),I (dZ m.nodes (ps.take i) (vs.take i):Nat),I (cw m.nodes (ps.take i):Nat),s.v,I s.n,I i]) ⟨rfl,by simp [dZ,cw]⟩ ?_
 rintro i _ _ next hi ⟨rfl,rfl⟩ hnx
 rename_i h1
 refine⟨t,_,_,_,_,s,_,_,rfl,?_⟩
 by_cases hlt:i<ps.length
 rotate_left
 ·have hie:i=ps.length:=by omega
  subst hie
  refine aD (by simp;omega) ⟨_,l1,?_⟩
  rw [List.take_of_length_le (Nat.le_refl _),List.take_of_length_le (by omega)];exact k
 refine aJ (by simp;omega) ?_
 obtain⟨p,hpi⟩: ∃p,ps[i]?=some p:=⟨_,List.getElem?_eq_getElem hlt⟩
 have hpm:=hps p (List.mem_of_getElem? hpi)
 obtain⟨b,o,ha,hc⟩:=(hp.mono l1).get (gn hpi)
 refine⟨b,o,ha,by omega,by omega,_,hc,?_⟩
 obtain⟨bt,ot,c,hta,htc,hcv⟩:=(hv.mono l1).getV (i:=i) (by omega)
 refine⟨bt,ot,hta,by omega,by omega,c,htc,?_⟩
 obtain⟨bn,on,han,hpn,c7,w1,w16⟩:=(hs.mono l1).nodes.widc hpm hok
 have hg:=qa hf hpi
 have hcn:=hcv.len
 rw [bz]at hcn
 have hcl:=dj m.nodes p
 refine av (aK m.nodes p) (fun q ws h'=>h'=h1/\ws= [t.v, .pointer (some ⟨b9,0,none⟩),I (dZ m.nodes (ps.take i) (vs.take i)+2^cw m.nodes (ps.take i)*fz (cc m.nodes p) ((vs.getD i []).take q):Nat),
  I (cw m.nodes (ps.take i)+cc m.nodes p*q:Nat),I p,s.v,I s.n,I i,c.v,I c.n,I q]) ⟨rfl,by simp [fz]⟩ ?_
 rintro q _ _ next2 hq ⟨rfl,rfl⟩ hnx2
 rename_i h1
 refine⟨t,_,_,_,_,_,s,_,_,c,_,_,rfl,?_⟩
 by_cases hlq:q<aK m.nodes p
 rotate_left
 ·have hqe:q=aK m.nodes p:=by omega
  subst hqe
  refine aD (by simp;omega) ?_
  rw [aA (by omega)]
  refine hnx hlt _ _ ⟨rfl,?_⟩
  rw [GT hpi hf,mL hpi,List.take_of_length_le (l:=vs.getD i []) (by omega)]
 refine aJ (by simp;omega) ?_
 obtain⟨bc,oc,hca,hcc,hln⟩:=hcv.elt (i:=q) (by omega)
 refine⟨bc,oc,hca,by omega,by omega,_,hcc,?_⟩
 have hb1:=vz hpi hf (Nat.le_of_lt hlq)
 have hb2:=vz (q:=q+1) hpi hf hlq
 rw [ya hpi hf hlq]at hb2
 have hs1:=yb hpi (Nat.le_of_lt hlq)
 have hs2:=yb (q:=q+1) hpi hlq
 have hp1:=AV (n:=cw m.nodes (ps.take i)+cc m.nodes p*(q+1)) (by omega)
 have hp2:=AV (n:=cw m.nodes (ps.take i)+cc m.nodes p*q) (by omega)
 rw [if_neg (by omega)]
 (refine az ?_)
 refine⟨bn,on,han,by omega,hpn,_,c7,?_⟩
 rw [gJ (by omega) (by omega),AX (by omega) (by omega),NO hb1,<-ya hpi hf hlq,bV (n:=((cw m.nodes (ps.take i)+cc m.nodes p*q:Nat):Int)+(cc m.nodes p:Nat)) (by omega) (by omega),aA (by omega)]
 refine hnx2 hlq _ _ ⟨rfl,?_⟩
 rw [Nat.mul_add,Nat.mul_one,<-Nat.add_assoc,Int.natCast_add (cw m.nodes (ps.take i)+cc m.nodes p*q)]
theorem xv {h:Hp} {M:MSl} {m:ai} {s t:Sl} {ps:List Nat} {vs:List (List Nat)} {R:Value->Hp->Prop} (hs:aN h M m) (hm:bW m) (hok:cm m.nodes=true) (hp:IntS h s (VL ps)) (hps: ∀p∈ps,p<m.nodes.length) (hpl:ps.length<=1048576)
  (hv:IntSS h t (vs.map VL)) (hf:mA m.nodes ps vs) (hsum:cw m.nodes ps<=60) (k:R (I (dZ m.nodes ps vs)) h):ly #[aO M,s.v,t.v] h R:=by
 refine ACalls.drop (Ik ?_)
 refine uf_ ?_
 have hn:=hs.nodes.len
 have hns:=hm.nodes
 have hsn:=hp.len
 rw [bz]at hsn
 have htn:=hv.len
 rw [List.length_map]at htn
 have hvl:=nv hf
 have hsum60:=AV hsum
 refine aj fun b9 h1 hb9 l1 f9=>?_
 refine av ps.length (fun i ws h'=>h'=h1/\ws= [s.v,t.v, .pointer (some ⟨b9,0,none⟩),I (dZ m.nodes (ps.take i) (vs.take i):Nat),I (cw m.nodes (ps.take i):Nat),I i]) ⟨rfl,by simp [dZ,cw]⟩ ?_
 rintro i _ _ next hi ⟨rfl,rfl⟩ hnx
 rename_i h1
 refine⟨s,t,_,_,_,_,_,rfl,?_⟩
 by_cases hlt:i<ps.length
 rotate_left
 ·have hie:i=ps.length:=by omega
  subst hie
  refine aD (by simp;omega) ⟨_,l1,?_⟩
  rw [List.take_of_length_le (Nat.le_refl _),List.take_of_length_le (by omega)];exact k
 refine aJ (by simp;omega) ?_
 obtain⟨p,hpi⟩: ∃p,ps[i]?=some p:=⟨_,List.getElem?_eq_getElem hlt⟩
 have hpm:=hps p (List.mem_of_getElem? hpi)
 obtain⟨b,o,ha,hc⟩:=(hp.mono l1).get (gn hpi)
 refine⟨b,o,ha,by omega,by omega,?_⟩
 (refine az ?_)
 refine⟨_,hc,?_⟩
 obtain⟨bn,on,han,hpn,c7,w1,w16⟩:=(hs.mono l1).nodes.widc hpm hok
 refine⟨bn,on,han,by omega,hpn,_,c7,?_⟩
 obtain⟨bt,ot,c,hta,htc,hcv⟩:=(hv.mono l1).getV (i:=i) (by omega)
 have hg:=qa hf hpi
 have hcn:=hcv.len
 rw [bz]at hcn
 have hcl:=dj m.nodes p
 refine av (aK m.nodes p) (fun q ws h'=>h'=h1/\ws= [s.v,t.v, .pointer (some ⟨b9,0,none⟩),I (dZ m.nodes (ps.take i) (vs.take i)+2^cw m.nodes (ps.take i)*fz (cc m.nodes p) ((vs.getD i []).take q):Nat),
  I (cw m.nodes (ps.take i)+cc m.nodes p*q:Nat),I i,I (cc m.nodes p),I q]) ⟨rfl,by simp [fz]⟩ ?_
 rintro q _ _ next2 hq ⟨rfl,rfl⟩ hnx2
 rename_i h1
 refine⟨s,t,_,_,_,_,_,_,_,rfl,?_⟩
 refine⟨bt,ot,hta,by omega,by omega,c,htc,?_⟩
 by_cases hlq:q<aK m.nodes p
 rotate_left
 ·have hqe:q=aK m.nodes p:=by omega
  subst hqe
  refine aD (by simp;omega) ?_
  rw [aA (by omega)]
  refine hnx hlt _ _ ⟨rfl,?_⟩
  rw [GT hpi hf,mL hpi,List.take_of_length_le (l:=vs.getD i []) (by omega)]
 refine aJ (by simp;omega) ?_
 refine⟨bt,ot,hta,by omega,by omega,c,htc,?_⟩
 obtain⟨bc,oc,hca,hcc,hln⟩:=hcv.elt (i:=q) (by omega)
 refine⟨bc,oc,hca,by omega,by omega,_,hcc,?_⟩
 have hb1:=vz hpi hf (Nat.le_of_lt hlq)
 have hb2:=vz (q:=q+1) hpi hf hlq
 rw [ya hpi hf hlq]at hb2
 have hs1:=yb hpi (Nat.le_of_lt hlq)
 have hs2:=yb (q:=q+1) hpi hlq
 have hp1:=AV (n:=cw m.nodes (ps.take i)+cc m.nodes p*(q+1)) (by omega)
 have hp2:=AV (n:=cw m.nodes (ps.take i)+cc m.nodes p*q) (by omega)
 rw [cl (n:=cw m.nodes (ps.take i)+cc m.nodes p*q) (by omega),if_neg (by omega)]
 rw [gJ (by omega) (by omega),<-Int.natCast_add,et (by omega),<-ya hpi hf hlq,bV (n:=((cw m.nodes (ps.take i)+cc m.nodes p*q:Nat):Int)+(cc m.nodes p:Nat)) (by omega) (by omega),aA (by omega)]
 refine hnx2 hlq _ _ ⟨rfl,?_⟩
 rw [Nat.mul_add,Nat.mul_one,<-Nat.add_assoc,Int.natCast_add (cw m.nodes (ps.take i)+cc m.nodes p*q)]
structure AY (m:ai) (v:List (List Nat)):Prop where
 len:v.length=m.nodes.length
 fit:wU m.nodes m.nodes.length v
theorem eD {m:ai} (g:dP m) (s i:Nat):AY m (cK m s i):=⟨Jq _ _ _,xQ g s i⟩
theorem ww {m:ai} (g:dP m):AY m (od m):=⟨Jq _ _ _,MZ g (mI m.nodes (stP m)) (mI m.nodes (inP m))⟩
theorem EV {m:ai} {v:List (List Nat)} (a:AY m v) {p:Int} (h:dV m.nodes p=true):0<=p/\p<v.length/\0<(v.getD p.toNat []).length/\cU v p<2:=by
 unfold dV at h
 simp only [Bool.and_eq_true,decide_eq_true_eq]at h
 have hp:=fg.1 h.1
 have hn:((p.toNat:Nat):Int)=p:=by omega
 have hf:=a.fit p.toNat (by omega) (by omega)
 rw [hn,h.2]at hf
 have:=hf.cell
 exact⟨hp.1,by rw [a.len];exact hp.2,hf.pos,by unfold cU;exact this⟩
theorem Gh {h:Hp} {s:Sl} {v:List (List Nat)} {p:Int} {R:Value->Hp->Prop} (hpv:fX h s v) (h0:0<=p) (hp:p<v.length) (hne:0<(v.getD p.toNat []).length)
  (k:R (.bool (decide (cU v p=1))) h):qO #[s.v,I p] h R:=by
 apply KG
 refine uf_ ?_
 obtain⟨b,o,t,ha,hlt,hc,ht⟩:=hpv.at h0 hp
 refine⟨b,o,ha,h0,hlt,t,hc,?_⟩
 obtain⟨b2,o2,ha2,hc2,hl2⟩:=ht.elt hne
 refine⟨b2,o2,ha2,by omega,by omega,_,hc2,di ?_ k⟩
 rw [Bool.eq_iff_iff,decide_eq_true_eq,beq_iff_eq]
 unfold cU;omega
theorem GG {h:Hp} {M:MSl} {m:ai} {s:Sl} {v:List (List Nat)} {R:Value->Hp->Prop} (hs:aN h M m) (g:dP m) (hpv:fX h s v) (a:AY m v)
  (k:R (.bool (iP m v)) h):jD #[aO M,s.v] h R:=by
 refine ACalls.drop (Ai ?_)
 refine uf_ ?_
 refine aj fun b8 h1 hb8 l1 f8=>?_
 refine aj fun b10 h2 hb10 l2 f10=>?_
 replace f8:=l2 _ _ f8
 replace l2:=Hp.le_trans l1 l2
 (refine az ?_)
 refine oh (fun p=> !decide (cU v p=1)) (hs.mono l2).holds (fun p hp R k=>?_) ⟨_,rfl,_,l2,di ?_ k⟩
 ·obtain⟨h1,h2,h3,_⟩:=EV a (g.hol p hp)
  apply vX
  refine uf_ ?_
  (refine az ?_)
  exact Gh (hpv.mono l2) h1 h2 h3 ⟨_,rfl,k⟩
 ·rw [EK,Bool.not_not];rfl
theorem MA {h:Hp} {M:MSl} {m:ai} {s:Sl} {v:List (List Nat)} {R:Value->Hp->Prop} (hs:aN h M m) (g:dP m) (hpv:fX h s v) (a:AY m v)
  (k:R (I (Ey m v)) h):kM #[aO M,s.v] h R:=by
 refine ACalls.drop (B0 ?_)
 refine uf_ ?_
 refine aj fun b8 h1 hb8 l1 f8=>?_
 refine aj fun b10 h2 hb10 l2 f10=>?_
 replace f8:=l2 _ _ f8
 replace l2:=Hp.le_trans l1 l2
 (refine az ?_)
 refine rh (fun p=>decide (cU v p=1)) (hs.mono l2).bads (fun p hp R k=>?_) ⟨_,rfl,_,l2,qr ?_ k⟩
 ·obtain⟨h1,h2,h3,_⟩:=EV a (g.bad p hp)
  apply yM
  refine uf_ ?_
  (refine az ?_)
  exact Gh (hpv.mono l2) h1 h2 h3 ⟨_,rfl,k⟩
 ·unfold Ge Ey qz
  cases List.findIdx? (fun p=>decide (cU v p=1)) m.bads<;>rfl
def iL (binds:List BindP) (p:Nat):Int:=match ce binds p with|some k=>k|none=> -1
theorem F5 (b:BindP) (r:List BindP) (p:Nat):ce (b::r) p=if b.state=(p:Int)then some b.node.toNat else ce r p:=by
 unfold ce
 rw [List.find?_cons]
 by_cases e:b.state=(p:Int)<;>simp [e]
theorem m8 {h:Hp} {s:Sl} {binds:List BindP} {p:Nat} {R:Value->Hp->Prop} (hs:qH h s binds) (hl:binds.length<=1048576) (h0: ∀b∈binds,0<=b.node)
  (k:R (I (iL binds p)) h):gR #[s.v,I p] h R:=by
 apply Fz
 refine uf_ ?_
 have hn:=hs.len
 refine av binds.length (fun i vs h'=>h'=h/\vs= [s.v,I p,I i]/\ce (binds.drop i) p=ce binds p) ⟨rfl,rfl,rfl⟩ ?_
 rintro i _ _ next hi ⟨rfl,rfl,hall⟩ hnx
 rename_i h
 refine⟨s,_,_,rfl,?_⟩
 by_cases hlt:i<binds.length
 rotate_left
 ·refine aD (by simp;omega) (qr ?_ k)
  rw [List.drop_of_length_le (by omega)]at hall
  unfold iL
  rw [<-hall];rfl
 refine aJ (by simp;omega) ?_
 obtain⟨x,hxi⟩: ∃x,binds[i]?=some x:=⟨_,List.getElem?_eq_getElem hlt⟩
 have hx0:=h0 x (List.mem_of_getElem? hxi)
 obtain⟨b,o,ha,c1,c2⟩:=hs.at hxi
 have hd:binds.drop i=x::binds.drop (i+1):=by
  rw [List.drop_eq_getElem_cons hlt]
  rw [List.getElem?_eq_getElem hlt]at hxi
  rw [Option.some.inj hxi]
 rw [hd,F5]at hall
 refine⟨b,o,ha,by omega,by omega,_,c1,?_⟩
 refine ac (fun e=>?_) (fun e=>?_)
 ·refine⟨b,o,ha,by omega,by omega,_,c2,qr ?_ k⟩
  rw [if_pos (bU e)]at hall
  unfold iL
  rw [<-hall]
  show x.node=((x.node.toNat:Nat):Int)
  omega
 ·rw [aA (by omega)]
  rw [if_neg (aZ e)]at hall
  exact hnx hlt _ _ ⟨rfl,rfl,hall⟩
theorem IL (h:Hp) (s t:Sl):(h.offS s).offS t=(h.offS t).offS s:=by
 unfold Hp.offS
 cases s.a<;>cases t.a<;>first|rfl|exact UC _ _ _
theorem Buf.beside {h:Hp} {s t:Sl} {sz sz':Nat} {cs ds:List Value} (e:Buf h s sz cs) (f:Buf (h.offS s) t sz' ds):Buf (h.offS t) s sz cs:=by
 refine⟨e.1,e.2.1,e.2.2.imp id ?_⟩
 rintro ⟨b,hb,hbb⟩
 refine⟨b,hb,?_⟩
 rcases f.2.2 with ⟨h0,_⟩|⟨c,hc,hcc⟩
 ·unfold Hp.offS;rw [h0];exact hbb
 ·have hne:c≠b:=by
   rintro rfl
   simp only [Hp.offS,hb,wP]at hcc;cases hcc
  simp only [Hp.offS,hc,Hp.off,Hp.set]
  rw [if_neg (fun e=>hne e.symm)];exact hbb
theorem cH {m:ai} (g:dP m) (kind:Int): ∀p∈aU m.nodes kind,p<m.nodes.length:=fun p hp=>mu hp
theorem eY (l:List NodeP) (kind:Int):(aU l kind).length<=l.length:=by
 unfold aU
 refine Nat.le_trans (List.length_filter_le _ _) ?_
 rw [List.length_range];omega
theorem IR {l:List NodeP} {ps:List Nat} {v:List Nat} (h:v∈cZ l ps):v.length<=4:=by
 unfold cZ at h
 obtain⟨p,_,rfl⟩:=List.mem_map.1 h
 rw [List.length_replicate];exact dj _ _
theorem A1 {h:Hp} {M:MSl} {m:ai} {R:Value->Hp->Prop} (hs:aN h M m) (hm:bW m) (g:dP m)
  (k: ∀t h',h.le h'->t.n=m.nodes.length->fX h' t (od m)->R (Sl.v t) h'):iE #[aO M] h R:=by
 apply xM
 refine uf_ ?_
 have hp36:=eY m.nodes 36
 have hp35:=eY m.nodes 35
 have hns:=hm.nodes
 refine aj fun b7 h1 hb7 l1 f7=>?_
 have x7:=eF f7
 repeat' (refine az ?_)
 refine dS (hs.mono l1) hm fun t1 h2 l2 p1=>⟨t1,rfl,?_⟩
 repeat' (((with_reducible apply kB);(assumption);(assumption)))
 have l12:=Hp.le_trans l1 l2
 refine rV (hs.mono l12) hm p1 (cH g 36) (by omega) fun o1 ts1 h3 c1 n1=>⟨o1,rfl,?_⟩
 have l23:=Hp.le_trans c1.le (bk _ _)
 have l13:=Hp.le_trans l2 l23
 repeat' (((with_reducible apply kB);(assumption);(assumption)))
 refine dS (hs.mono (Hp.le_trans l1 l13)) hm fun t2 h4 l4 p2=>⟨t2,rfl,?_⟩
 have l14:=Hp.le_trans l13 l4
 repeat' (((with_reducible apply kB);(assumption);(assumption)))
 refine rV (hs.mono (Hp.le_trans l1 l14)) hm p2 (cH g 35) (by omega) fun o2 ts2 h5 c2 n2=>⟨o2,rfl,?_⟩
 have l45:=Hp.le_trans c2.le (bk _ _)
 have l15:=Hp.le_trans l14 l45
 (((with_reducible apply kB);(assumption);(assumption)))
 have i1:IntSS h5 o1 ((cZ m.nodes (stP m)).map VL):=(c1.ints (fun v hv=>by have:=IR hv;omega) (by omega)).mono (Hp.le_trans l4 l45)
 have i2:IntSS h5 o2 ((cZ m.nodes (inP m)).map VL):=c2.ints (fun v hv=>by have:=IR hv;omega) (by omega)
 exact xV (hs.mono (Hp.le_trans l1 l15)) hm g.ok g.nl i1 c1.buf.2.1 (xO g.ok (mI _ _)) i2 c2.buf.2.1 (xO g.ok (mI _ _)) fun t h6 l6 hn hpv=>⟨t,rfl,k t h6 (Hp.le_trans l1 (Hp.le_trans l15 l6)) hn hpv⟩
theorem Ix (l:List NodeP) (a b:List Nat):cZ l (a++b)=cZ l a++cZ l b:=by simp [cZ]
structure ZS (l:List NodeP) (g:Hp) (ps:List Nat) (ts:List Sl):Prop where
 len:ts.length=ps.length
 val: ∀(j:Nat) (t:Sl),ts[j]?=some t->IntS g t (VL ((cZ l ps).getD j []))
theorem ZS.mono {l:List NodeP} {g g':Hp} {ps:List Nat} {ts:List Sl} (le:g.le g') (e:ZS l g ps ts):ZS l g' ps ts:=⟨e.len,fun j t h=>(e.val j t h).mono le⟩
theorem ZS.snoc {l:List NodeP} {g:Hp} {ps:List Nat} {ts:List Sl} {p:Nat} {t:Sl} (e:ZS l g ps ts) (h:IntS g t (VL (List.replicate (aK l p) 0))):ZS l g (ps++ [p]) (ts++ [t]):=by
 refine⟨by simp [e.len],fun j u hu=>?_⟩
 rw [Ix]
 by_cases hj:j<ts.length
 ·rw [List.getElem?_append_left hj]at hu
  rw [gD (by rw [mq,<-e.len];exact hj)]
  exact e.val j u hu
 ·have hju:=get_lt hu
  simp at hju
  have hje:j=ts.length:=by omega
  subst hje
  rw [List.getElem?_append_right (Nat.le_refl _),Nat.sub_self]at hu
  simp at hu;subst hu
  rw [List.getD_eq_getElem?_getD,List.getElem?_append_right (by rw [mq,e.len];exact Nat.le_refl _),mq,e.len,Nat.sub_self]
  exact h
theorem ZS.ints {l:List NodeP} {g h:Hp} {ps:List Nat} {ts:List Sl} {s:Sl} (e:ZS l g ps ts) (le:g.le h) (hb:Buf h s 1 (ts.map Sl.v)) (hn:s.n<=1048576):IntSS h s ((cZ l ps).map VL):=by
 refine⟨ts,by rw [List.length_map,mq];exact e.len,hb.slc_of (by omega),fun i h1 h2=>?_⟩
 have:=(e.val i _ (List.getElem?_eq_getElem h1)).mono le
 have hi:i<(cZ l ps).length:=by rw [List.length_map]at h2;exact h2
 rw [List.getElem_map]
 rwa [List.getD_eq_getElem?_getD,List.getElem?_eq_getElem hi]at this
theorem C5 {h:Hp} {M:MSl} {m:ai} {R:Value->Hp->Prop} (hs:aN h M m) (hm:bW m) (g:dP m)
  (k: ∀t h',h.le h'->t.n=m.nodes.length->fX h' t (od m)->Ww h t->R (Sl.v t) h'):ky #[aO M] h R:=by
 apply Gc
 refine uf_ ?_
 have hn:=hs.nodes.len
 have hns:=hm.nodes
 refine aj fun b7 h1 hb7 l1 f7=>?_
 refine av m.nodes.length (fun i vs h'=> ∃(ts us:List Sl) (sS sI:Sl),vs= [.pointer (some ⟨b7,0,none⟩),sS.v,sI.v,I i]/\h.le ((h'.offS sS).offS sI)/\((h'.offS sS).offS sI) b7=some (.inl ⟨aw M,5,false⟩)/\
  Buf h' sS 1 (ts.map Sl.v)/\Buf (h'.offS sS) sI 1 (us.map Sl.v)/\ZS m.nodes ((h'.offS sS).offS sI) (aU (m.nodes.take i) 36) ts/\ZS m.nodes ((h'.offS sS).offS sI) (aU (m.nodes.take i) 35) us/\sS.n<=i/\sI.n<=i)
  ⟨[], [],⟨none,0,0⟩,⟨none,0,0⟩,rfl,l1,f7,eG _ _,eG _ _,⟨rfl,fun j t ht=>by simp at ht⟩,⟨rfl,fun j t ht=>by simp at ht⟩,Nat.le_refl _,Nat.le_refl _⟩ ?_
 clear f7 l1 hb7 h1
 rintro i _ h1 next hi ⟨ts,us,sS,sI,rfl,l1,f7,bS,bI,zS,zI,nS,nI⟩ hnx
 have lo:=Hp.le_trans (bk (h1.offS sS) sI) (bk h1 sS)
 have l1':=Hp.le_trans l1 lo
 have f7':=lo _ _ f7
 refine⟨_,_,sS,sI,_,rfl,?_⟩
 repeat' (refine az ?_)
 by_cases hlt:i<m.nodes.length
 rotate_left
 ·have hie:i=m.nodes.length:=by omega
  subst hie
  refine aD (by simp;omega) ?_
  repeat' (refine az ?_)
  rw [List.take_of_length_le (Nat.le_refl _)]at zS zI
  have i1:=zS.ints lo bS (by omega)
  have i2:=zI.ints lo (bI.mono (bk _ _)) (by omega)
  exact oy (hs.mono l1') hm g.ok g.nl i1 (xO g.ok (mI _ _)) i2 (xO g.ok (mI _ _)) fun t h6 l6 hn hpv pn=>⟨t,rfl,k t h6 (Hp.le_trans l1' l6) hn hpv fun b o e=>aF l1' (pn b o e)⟩
 refine aJ (by simp;omega) ?_
 obtain⟨n,hni⟩: ∃n,m.nodes[i]?=some n:=⟨_,List.getElem?_eq_getElem hlt⟩
 (refine az ?_)
 obtain⟨bn,on,han,e0,e1,e2,e3,e4,e5,e6,e7,e8⟩:=(hs.nodes.mono l1').at hni
 have hsa:aE m.nodes ((i:Nat):Int)=n.sort:=by unfold aE;rw [Int.toNat_natCast,hni]
 refine⟨bn,on,han,by omega,by omega,_,e6,_,e7,?_⟩
 refine fe ⟨_,rfl,?_⟩
 have hce:cL ⟨n.sort.idx,n.sort.wid⟩=aK m.nodes i:=by unfold aK;rw [hsa]
 rw [hce]
 have hc4:=dj m.nodes i
 refine⟨by omega,by omega,by omega,by omega,?_⟩
 refine aj fun b33 h2 hb33 l2 f33=>?_
 rw [Int.toNat_natCast,Nat.mul_one,cj]at f33
 refine aj fun b35 h3 hb35 l3 f35'=>?_
 have n33:=fresh_ne hb35 f33
 have b35n:=aF l2 hb35
 replace f33:=l3 _ _ f33
 (with_reducible apply cb);(exact f35');(exact Hp.le_trans l2 l3);(exact b35n);(exact Nat.le_refl 1)
 intro h4 f35 kp l4
 replace f33:=cf kp n33 f33
 have f35v:h4 b35=some (.inl ⟨[(⟨some ⟨b33,0,none⟩,aK m.nodes i,aK m.nodes i⟩:Sl).v],1,false⟩):=f35
 have hz4:IntS h4 ⟨some ⟨b33,0,none⟩,aK m.nodes i,aK m.nodes i⟩ (VL (List.replicate (aK m.nodes i) 0)):=by
  refine⟨by dsimp only;omega,by simp [bz], .inr ⟨b33,0,rfl,?_⟩⟩
  have hc:(VL (List.replicate (aK m.nodes i) 0)).map I=List.replicate (aK m.nodes i) (I 0):=by simp [VL]
  rw [hc];exact ay f33
 clear f35 f35' kp l2 l3 hb33 hb35 h2 h3
 have bS4:=bS.mono l4
 have bI4:=bI.mono (bM sS l4)
 have l4o:=bM sI (bM sS l4)
 have hz4o:IntS ((h4.offS sS).offS sI) ⟨some ⟨b33,0,none⟩,aK m.nodes i,aK m.nodes i⟩ (VL (List.replicate (aK m.nodes i) 0)):=(hz4.offL bS4).offL bI4
 have f35o:((h4.offS sS).offS sI) b35=some (.inl ⟨[(⟨some ⟨b33,0,none⟩,aK m.nodes i,aK m.nodes i⟩:Sl).v],1,false⟩):=by
  have d: ∀{s:Sl} {gg:Hp} {cs:List Value},gg.le h1->Buf gg s 1 cs-> ∀a,s.a=some a->a.block≠b35:=by
   intro s gg cs hg hb a ha e
   rcases hb.2.2 with ⟨h0,_⟩|⟨c,hc,hcb⟩
   ·rw [h0]at ha;cases ha
   ·rw [hc]at ha;cases ha
    subst e
    have:=hg _ _ hcb
    rw [b35n]at this;cases this
  rw [Au (d (bk _ _) bI),Au (d (Hp.le_refl _) bS)];exact f35v
 have hp36:=kw (kind:=36) hni
 have hp35:=kw (kind:=35) hni
 have f7'':=l4 _ _ f7'
 repeat' (refine az ?_)
 refine⟨bn,on,han,by omega,by omega,_,l4.cell e0,?_⟩
 refine ap (fun J=> ∀(sS':Sl) (ts':List Sl) (h5:Hp),((h4.offS sS).offS sI).le ((h5.offS sS').offS sI)->Buf h5 sS' 1 (ts'.map Sl.v)->Buf (h5.offS sS') sI 1 (us.map Sl.v)->ZS m.nodes ((h5.offS sS').offS sI) (aU (m.nodes.take (i+1)) 36) ts'->sS'.n<=i+1->J sS' h5) ?_ (fun J hJ=>?_)
 ·intro sS' ts' h5 l5 bS5 bI5 zS5 nS5
  have lo5:=Hp.le_trans (bk (h5.offS sS') sI) (bk h5 sS')
  have l15:=Hp.le_trans l4o l5
  have g7:=lo5 _ _ (l5 _ _ (l4o _ _ f7))
  have g35:=lo5 _ _ (l5 _ _ f35o)
  have e0':=(Hp.le_trans (Hp.le_trans l1 l15) lo5)
  obtain⟨bn',on',han',q0,_⟩:=(hs.nodes.mono e0').at hni
  (refine az ?_)
  refine⟨bn',on',han',by omega,by omega,_,q0,?_⟩
  refine ac (fun e=>?_) (fun e=>?_)
  ·rw [if_pos (bU e)]at hp35
   (refine az ?_)
   refine aj fun b63 h6 hb63 l6 f63=>?_
   have l6o:=bM sS' l6
   have l6o2:=bM sI (bM sS' l6)
   have bS6:=bS5.mono l6
   have bI6:=bI5.mono l6o
   have bS6':=bS6.beside bI6
   refine dp (bI5.mono (Hp.le_trans l6o (bk _ _))) (by omega) (by omega) (by omega) ⟨b63,0,rfl,ay f63⟩ (by simp) rfl ?_
   intro s' h7 hs'n hbuf' l7 _
   rw [aA (by omega)]
   have bS7:Buf (h7.offS s') sS' 1 (ts'.map Sl.v):=bS6'.mono l7
   have bI7:Buf (h7.offS sS') s' 1 ((us++ [(⟨some ⟨b33,0,none⟩,aK m.nodes i,aK m.nodes i⟩:Sl)]).map Sl.v):=by
    rw [List.map_append];exact hbuf'.beside bS7
   have l57:((h5.offS sS').offS sI).le ((h7.offS sS').offS s'):=by
    have:=Hp.le_trans l6o2 (show ((h6.offS sS').offS sI).le ((h7.offS sS').offS s') by
     rw [IL h6,IL h7];exact bM sS' l7)
    exact this
   have l17:=Hp.le_trans l15 l57
   refine hnx hlt _ _ ⟨ts',_,sS',s',rfl,Hp.le_trans l1 l17,l17 _ _ f7,bS7.mono (bk _ _),bI7,zS5.mono l57,?_,nS5,by omega⟩
   rw [hp35]
   exact(zI.mono l17).snoc (hz4o.mono (Hp.le_trans l5 l57))
  ·rw [if_neg (aZ e),List.append_nil]at hp35
   rw [aA (by omega)]
   refine hnx hlt _ _ ⟨ts',us,sS',sI,rfl,Hp.le_trans l1 l15,l15 _ _ f7,bS5,bI5,zS5,?_,nS5,by omega⟩
   rw [hp35];exact zI.mono l15
 ·refine ac (fun e=>?_) (fun e=>?_)
  ·rw [if_pos (bU e)]at hp36
   have f35c:=(Hp.le_trans (bk (h4.offS sS) sI) (bk h4 sS)) _ _ f35o
   (refine az ?_)
   refine aj fun b48 h6 hb48 l6 f48=>?_
   have l6o:=bM sS l6
   have l6o2:=bM sI l6o
   refine dp (bS4.mono l6) (by omega) (by omega) (by omega) ⟨b48,0,rfl,ay f48⟩ (by simp) rfl ?_
   intro s' h7 hs'n hbuf' l7 _
   have l47:=Hp.le_trans l6o2 (bM sI l7)
   have bI7:Buf (h7.offS s') sI 1 (us.map Sl.v):=bI4.mono (Hp.le_trans l6o l7)
   refine hJ s' (ts++ [(⟨some ⟨b33,0,none⟩,aK m.nodes i,aK m.nodes i⟩:Sl)]) h7 l47 (by rw [List.map_append];exact hbuf') bI7 ?_ (by omega)
   rw [hp36]
   exact(zS.mono (Hp.le_trans l4o l47)).snoc (hz4o.mono l47)
  ·rw [if_neg (aZ e),List.append_nil]at hp36
   refine hJ sS ts h4 (Hp.le_refl _) bS4 bI4 ?_ (by omega)
   rw [hp36];exact zS.mono l4o
theorem Ks {h:Hp} {M:MSl} {m:ai} {R:Value->Hp->Prop} (hs:aN h M m) (hm:bW m) (g:dP m)
  (k: ∀t h',h.le h'->t.n=m.nodes.length->fX h' t (od m)->R (Sl.v t) h'):ky #[aO M] h R:=
 C5 hs hm g fun t h' l hn hpv _=>k t h' l hn hpv
theorem Buf.fresh_ne {h:Hp} {s:Sl} {sz b:Nat} {cs:List Value} (e:Buf h s sz cs) (hb:h b=none): ∀a,s.a=some a->a.block≠b:=by
 intro a ha hab
 rcases e.2.2 with ⟨h0,_⟩|⟨c,hc,hcb⟩
 ·rw [h0]at ha;cases ha
 ·rw [hc]at ha;cases ha
  subst hab
  rw [hb]at hcb;cases hcb
theorem Buf.offS_new {h h':Hp} {s:Sl} {sz b:Nat} {cs:List Value} {x:Blk} (e:Buf h s sz cs) (hb:h b=none) (f:h' b=some x):(h'.offS s) b=some x:=by
 rw [Au (e.fresh_ne hb)];exact f
theorem Buf.sub_le {h h':Hp} {s:Sl} {sz:Nat} {cs:List Value} (e:Buf (h'.sub h) s sz cs) (l:h.le h'):h.le (h'.offS s):=by
 unfold Hp.offS
 rcases e.2.2 with ⟨h0,_⟩|⟨b,ha,hb⟩
 ·rw [h0];exact l
 ·rw [ha]
  refine vu ?_ l
  cases hx:h b with
  |none=>rfl
  |some x=>rw [lR hx]at hb;cases hb
theorem Buf.sub_buf {h h':Hp} {s:Sl} {sz:Nat} {cs:List Value} (e:Buf (h'.sub h) s sz cs):Buf h' s sz cs:=e.mono (Go.Lead.sub_le _ _)
theorem Buf.wr {h:Hp} {out x:Sl} {ts:List Sl} {q:Nat} {P:Hp->Prop} (e:Buf h out 1 (ts.map Sl.v)) (hq:q<ts.length)
  (k: ∀h',Buf h' out 1 ((ts.set q x).map Sl.v)->h'.offS out=h.offS out->P h'):
  ∃b o:Nat,out.a=some (Addr.mk b o none)/\(0:Int)<=(q:Int)/\(q:Int)<((out.n:Nat):Int)/\
   ∃(cs:List Value) (z:Nat),h b=some (.inl ⟨cs,z,false⟩)/\(o+Int.toNat (q:Int)*1)+1<=List.length cs/\cu (h.row b (cv cs (o+Int.toNat (q:Int)*1) [x.v]) z) P:=by
 have hl:=e.1
 rw [List.length_map]at hl
 rcases e.2.2 with ⟨_,h0,_⟩|⟨b,ha,hb⟩
 ·omega
 ·refine⟨b,0,ha,by omega,by omega,_,_,hb,by rw [List.length_map,Int.toNat_natCast];omega,?_⟩
  rw [Pu]
  refine k _ ⟨by rw [List.length_map,List.length_set];omega,e.2.1, .inr ⟨b,ha,?_⟩⟩ ?_
  ·rw [bR,bP,Int.toNat_natCast,Nat.zero_add,Nat.mul_one,List.map_set]
  ·unfold Hp.offS;rw [ha];exact uG _ _ _ _
theorem LN (v:List Nat) (i x:Nat):(VL (v++List.replicate i x)).map I++ [I (x:Int)]=(VL (v++List.replicate (i+1) x)).map I:=by
 rw [List.replicate_succ',<-List.append_assoc,uq (v++List.replicate i x),List.map_append];rfl
theorem xB {h:Hp} {s:Sl} {v:List Nat} {i w:Int} {R:Value->Hp->Prop} (hs:IntS h s (VL v)) (h0:0<v.length) (hl:v.length<=4)
  (k: ∀t h',h.le h'->IntS h' t (VL (mT (cL ⟨i,w⟩) v))->R (.agg #[Sl.v t]) h'):lJ #[.agg #[I i,I w], .agg #[s.v]] h R:=by
 apply HR
 refine uf_ ?_
 refine aj fun b5 h1 hb5 l1 f5=>?_
 refine aj fun b7 h2 hb7 l2 f7=>?_
 replace f5:=l2 _ _ f5
 have l02:=Hp.le_trans l1 l2
 have b7n:=aF l1 hb7
 refine aj fun b9 h3 hb9 l3 f9=>?_
 have n59:=fresh_ne hb9 f5
 have n79:=fresh_ne hb9 f7
 have b9n:=aF l02 hb9
 replace f5:=l3 _ _ f5
 replace f7:=l3 _ _ f7
 have l03:=Hp.le_trans l02 l3
 (refine az ?_)
 refine ny (hs.mono l03) (by rw [bz];omega) fun c h4 l4 hb4=>⟨c,rfl,?_⟩
 have l4o:=hb4.sub_le l4
 have hb4':=hb4.sub_buf
 refine aj fun b16 h5 hb16 l5 f16'=>?_
 have b16n:=aF l4 hb16
 have l5o:=Hp.le_trans l4o (bM c l5)
 have f16o:=hb4'.offS_new hb16 f16'
 (with_reducible apply uY);(exact f16o);(exact l5o);(exact b16n);(exact Nat.le_refl 1)
 intro h6 f16 kp l6 hbk
 have hbuf:=hbk _ _ (hb4'.mono l5)
 have hcn:=hbuf.1
 rw [List.length_map,bz]at hcn
 have hc4:=uM ⟨i,w⟩
 refine av (cL ⟨i,w⟩-v.length) (fun q vs h'=> ∃sl:Sl,vs= [.pointer (some ⟨b5,0,none⟩), .pointer (some ⟨b7,0,none⟩), .pointer (some ⟨b9,0,none⟩), .pointer (some ⟨b16,0,none⟩)]/\h3.le (h'.offS sl)/\
  (h'.offS sl) b16=some (.inl ⟨[sl.v],1,false⟩)/\sl.n=v.length+q/\Buf h' sl 1 ((VL (v++List.replicate q (v.getD 0 0))).map I)) ⟨c,rfl,l6,f16,by omega,by simpa using hbuf⟩ ?_
 clear hbuf hbk kp l6 f16 f16o l5o f16' l5 hb16 hb4' l4o hb4 l4 hcn h4 h5 h6
 rintro q _ h4 next hq ⟨sl,rfl,l4,f16,hsl,hbuf⟩ hnx
 have lo:=bk h4 sl
 have l4':=Hp.le_trans l4 lo
 have g5:=l4' _ _ f5
 have g7:=l4' _ _ f7
 have g16:=lo _ _ f16
 refine⟨_,_,_,_,_,_,_,_,rfl,?_⟩
 repeat' (refine az ?_)
 refine lv ⟨_,rfl,rfl,?_⟩
 by_cases hlt:q<cL ⟨i,w⟩-v.length
 ·refine aJ (by simp;omega) ?_
  repeat' (refine az ?_)
  obtain⟨b,o,ha,hc,hln⟩:=((hs.mono l03).mono l4').elt (i:=0) h0
  refine⟨b,o,ha,by omega,by omega,_,hc,?_⟩
  have x16:=eF g16
  refine aj fun b48 h5 hb48 l5 f48=>?_
  (((with_reducible apply kB);(assumption);(assumption)))
  have l5o:=bM sl l5
  refine dp (hbuf.mono l5) (by omega) (by omega) (by omega) ⟨b48,0,rfl,ay f48⟩ (by simp) rfl ?_
  intro s' h6 hs'n hbuf' l6 _
  have l46:=Hp.le_trans l5o l6
  (with_reducible apply uY);(exact l46 _ _ f16);(exact Hp.le_trans l4 l46);(exact b16n);(exact Nat.le_refl 1)
  intro h7 e16 kp l7 hbk
  refine hnx hlt _ _ ⟨s',rfl,l7,e16,by omega,hbk _ _ ?_⟩
  rw [<-LN];exact hbuf'
 ·have hqe:q=cL ⟨i,w⟩-v.length:=by omega
  subst hqe
  refine aD (by simp;omega) ?_
  repeat' (refine az ?_)
  have f9o:(h4.offS sl) b9=some (.inl ⟨[.slice none 0 0],1,false⟩):=l4 _ _ f9
  (with_reducible apply uY);(exact f9o);(exact Hp.le_trans l03 l4);(exact b9n);(exact Nat.le_refl 1)
  intro h7 e9 kp l7 hbk
  have e9':=bk _ _ _ _ e9
  refine⟨sl,by rw [aq e9'];rfl,k sl h7 (Hp.le_trans l7 (bk _ _)) ((hbk _ _ hbuf).slc_of (by omega))⟩
theorem DE {h:Hp} {s:Sl} {v:List Nat} {c:Nat} {R:Value->Hp->Prop} (hs:IntS h s (VL v)) (h0:0<v.length) (hl:v.length<=4) (hc4:c<=4)
  (k: ∀t h',h.le h'->IntS h' t (VL (mT c v))->R (.agg #[Sl.v t]) h'):pj #[.agg #[s.v],I c] h R:=by
 apply Iv
 refine uf_ ?_
 refine aj fun b7 h2 hb7 l2 f7=>?_
 refine aj fun b9 h3 hb9 l3 f9=>?_
 have n79:=fresh_ne hb9 f7
 have b9n:=aF l2 hb9
 replace f7:=l3 _ _ f7
 have l03:=Hp.le_trans l2 l3
 (refine az ?_)
 refine pI (hs.mono l03) (by rw [bz];omega) fun c0 h4 l4 hb4=>⟨c0,rfl,?_⟩
 have l4o:=hb4.sub_le l4
 have hb4':=hb4.sub_buf
 refine aj fun b16 h5 hb16 l5 f16'=>?_
 have b16n:=aF l4 hb16
 have l5o:=Hp.le_trans l4o (bM c0 l5)
 have f16o:=hb4'.offS_new hb16 f16'
 (with_reducible apply uY);(exact f16o);(exact l5o);(exact b16n);(exact Nat.le_refl 1)
 intro h6 f16 kp l6 hbk
 have hbuf:=hbk _ _ (hb4'.mono l5)
 have hcn:=hbuf.1
 rw [List.length_map,bz]at hcn
 refine av (c-v.length) (fun q vs h'=> ∃sl:Sl,vs= [I c, .pointer (some ⟨b7,0,none⟩), .pointer (some ⟨b9,0,none⟩), .pointer (some ⟨b16,0,none⟩)]/\h3.le (h'.offS sl)/\
  (h'.offS sl) b16=some (.inl ⟨[sl.v],1,false⟩)/\sl.n=v.length+q/\Buf h' sl 1 ((VL (v++List.replicate q (v.getD 0 0))).map I)) ⟨c0,rfl,l6,f16,by omega,by simpa using hbuf⟩ ?_
 clear hbuf hbk kp l6 f16 f16o l5o f16' l5 hb16 hb4' l4o hb4 l4 hcn h4 h5 h6
 rintro q _ h4 next hq ⟨sl,rfl,l4,f16,hsl,hbuf⟩ hnx
 have lo:=bk h4 sl
 have l4':=Hp.le_trans l4 lo
 have g7:=l4' _ _ f7
 have g16:=lo _ _ f16
 refine⟨_,_,_,_,_,_,_,rfl,?_⟩
 (refine az ?_)
 by_cases hlt:q<c-v.length
 ·refine aJ (by simp;omega) ?_
  repeat' (refine az ?_)
  obtain⟨b,o,ha,hc,hln⟩:=((hs.mono l03).mono l4').elt (i:=0) h0
  refine⟨b,o,ha,by omega,by omega,_,hc,?_⟩
  have x16:=eF g16
  refine aj fun b48 h5 hb48 l5 f48=>?_
  (((with_reducible apply kB);(assumption);(assumption)))
  have l5o:=bM sl l5
  refine dp (hbuf.mono l5) (by omega) (by omega) (by omega) ⟨b48,0,rfl,ay f48⟩ (by simp) rfl ?_
  intro s' h6 hs'n hbuf' l6 _
  have l46:=Hp.le_trans l5o l6
  (with_reducible apply uY);(exact l46 _ _ f16);(exact Hp.le_trans l4 l46);(exact b16n);(exact Nat.le_refl 1)
  intro h7 e16 kp l7 hbk
  refine hnx hlt _ _ ⟨s',rfl,l7,e16,by omega,hbk _ _ ?_⟩
  rw [<-LN];exact hbuf'
 ·have hqe:q=c-v.length:=by omega
  subst hqe
  refine aD (by simp;omega) ?_
  repeat' (refine az ?_)
  have f9o:(h4.offS sl) b9=some (.inl ⟨[.slice none 0 0],1,false⟩):=l4 _ _ f9
  (with_reducible apply uY);(exact f9o);(exact Hp.le_trans l03 l4);(exact b9n);(exact Nat.le_refl 1)
  intro h7 e9 kp l7 hbk
  have e9':=bk _ _ _ _ e9
  refine⟨sl,by rw [aq e9'];rfl,k sl h7 (Hp.le_trans l7 (bk _ _)) ((hbk _ _ hbuf).slc_of (by omega))⟩
def zO (m:ai) (v:List (List Nat)) (j p:Nat):List Nat:=((ce (m.nexts.take j) p).map fun k=>v.getD k []).getD (List.replicate (aK m.nodes p) 0)
theorem Mg (m:ai) (v:List (List Nat)) (p:Nat):zO m v m.nexts.length p=(iV m v p).getD (List.replicate (aK m.nodes p) 0):=by
 unfold zO iV;rw [List.take_length]
theorem Qw {m:ai} (g:dP m) (v:List (List Nat)) {j:Nat} {b:BindP} (hb:m.nexts[j]?=some b) (p:Nat):zO m v (j+1) p=if b.state=(p:Int)then v.getD b.node.toNat []else zO m v j p:=by
 unfold zO
 rw [Gk (pT g.twice).2.2 hb]
 split<;>rfl
theorem Wc {m:ai} (g:dP m) {v:List (List Nat)} (a:AY m v) {j p:Nat}:(zO m v j p).length<=4:=by
 unfold zO
 cases hb:ce (m.nexts.take j) p with
 |none=>simp only [Option.map_none,Option.getD_none,List.length_replicate];exact dj _ _
 |some k=>
  simp only [Option.map_some,Option.getD_some]
  obtain⟨b,hm,_,rfl⟩:=gU hb
  have hp:=fg.1 (jO (g.nex b (List.mem_of_mem_take hm))).2.1
  have:=uo g.ok (show b.node.toNat<m.nodes.length by omega) (a.fit b.node.toNat (by omega) (by omega))
  rw [this.1];exact dj _ _
theorem Hr (m:ai) (v:List (List Nat)) {i p:Nat} (h:(stP m)[i]?=some p):(gv m v).getD i []=zO m v m.nexts.length p:=by
 rw [Mg]
 unfold gv kJ
 rw [List.getD_eq_getElem?_getD,List.getElem?_map,h];rfl
theorem iw {m:ai} (g:dP m) (kind:Int):(aU m.nodes kind).length<=1048576:=by have:=eY m.nodes kind;have:=g.nl;omega
theorem DC {h:Hp} {M:MSl} {m:ai} {s:Sl} {v:List (List Nat)} {R:Value->Hp->Prop} (hs:aN h M m) (hm:bW m) (g:dP m) (hpv:fX h s v) (a:AY m v)
  (k: ∀out h',h.le h'->IntSS h' out ((gv m v).map VL)->R (Sl.v out) h'):iY #[aO M,s.v] h R:=by
 apply yI
 refine uf_ ?_
 have hp36:(stP m).length<=m.nodes.length:=eY m.nodes 36
 have hnl:=g.nl
 have hxl:=g.xl
 have hxn:=hs.nexts.len
 refine aj fun b8 h1 hb8 l1 f8=>?_
 repeat' (refine az ?_)
 refine dS (hs.mono l1) hm fun pt h2 l2 hp=>⟨pt,rfl,?_⟩
 replace f8:=l2 _ _ f8
 have l02:=Hp.le_trans l1 l2
 repeat' (refine az ?_)
 refine rV (hs.mono l02) hm hp (cH g 36) (iw g 36) fun out ts h3 c1 hon=>⟨out,rfl,?_⟩
 have hpn:pt.n=(stP m).length:=by have:=hp.len;rw [bz]at this;exact this
 have f83:=bk _ _ _ _ (c1.le _ _ f8)
 (refine az ?_)
 have hs2:=hs.mono l02
 have hpv2:=hpv.mono l02
 refine av m.nexts.length (fun j vs h'=> ∃ts:List Sl,vs= [s.v,pt.v,out.v,M.nex.v,I M.nex.n,I j]/\h2.le (h'.offS out)/\Buf h' out 1 (ts.map Sl.v)/\ts.length=(stP m).length/\
  ∀(i p:Nat) (t:Sl),(stP m)[i]?=some p->ts[i]?=some t->IntS (h'.offS out) t (VL (zO m v j p))) ⟨ts,rfl,c1.le,c1.buf,by rw [c1.len,mq],fun i p t hp ht=>?_⟩ ?_
 ·obtain⟨b,e1,e2,e3⟩:=c1.row i t ht
  have hz:(cZ m.nodes (stP m)).getD i []=zO m v 0 p:=by
   unfold cZ zO
   rw [List.getD_eq_getElem?_getD,List.getElem?_map,hp];rfl
  rw [hz]at e1 e3
  rw [e1]
  have:=Wc g a (j:=0) (p:=p)
  exact⟨by dsimp only;omega,by simp [bz], .inr ⟨b,0,rfl,ay e3⟩⟩
 clear c1 f83 ts h3
 rintro j _ h3 next hj ⟨ts,rfl,l3,hbuf,htl,hts⟩ hnx
 have lo:=bk h3 out
 have l23:=Hp.le_trans l3 lo
 refine⟨s,pt,out,M.nex,_,_,rfl,?_⟩
 by_cases hlt:j<m.nexts.length
 rotate_left
 ·have hje:j=m.nexts.length:=by omega
  subst hje
  refine aD (by simp;omega) (k out h3 (Hp.le_trans l02 l23) ⟨ts,by unfold gv kJ;rw [List.length_map,List.length_map];exact htl,hbuf.slc_of (by rw [hon];have:=iw g 36;omega),fun i h1 h2=>?_⟩)
  have hi:i<(stP m).length:=by omega
  have hpi:(stP m)[i]?=some (stP m)[i]:=List.getElem?_eq_getElem hi
  have:=(hts i _ _ hpi (List.getElem?_eq_getElem h1)).mono lo
  rw [<-Hr m v hpi]at this
  rw [List.getElem_map]
  rwa [List.getD_eq_getElem?_getD,List.getElem?_eq_getElem (by unfold gv kJ;simp;exact hi)]at this
 refine aJ (by simp;omega) ?_
 obtain⟨bd,hbd⟩: ∃bd,m.nexts[j]?=some bd:=⟨_,List.getElem?_eq_getElem hlt⟩
 obtain⟨q1,q2,q3,q4⟩:=jO (g.nex bd (List.mem_of_getElem? hbd))
 have q2':=fg.1 q2
 obtain⟨bx,ox,hax,cx1,cx2⟩:=(hs2.mono l23).nexts.at hbd
 refine⟨bx,ox,hax,by omega,by omega,_,cx1,_,cx2,?_⟩
 refine aj fun b48 h4 hb48 l4 f48'=>?_
 (with_reducible apply cb);(exact f48');(exact l4);(exact hb48);(exact Nat.le_refl 2)
 intro h5 f48 kp l5
 have l5o:=bM out l5
 have f48o:=hbuf.offS_new hb48 f48
 clear f48' kp l4
 refine av (stP m).length (fun q vs h'=> ∃ts:List Sl,vs= [s.v,pt.v,out.v, .pointer (some ⟨b48,0,none⟩),M.nex.v,I M.nex.n,I j,pt.v,I pt.n,I q]/\h2.le (h'.offS out)/\(h'.offS out) b48=some (.inl ⟨[I bd.state,I bd.node],2,false⟩)/\Buf h' out 1 (ts.map Sl.v)/\ts.length=(stP m).length/\
  ∀(i p:Nat) (t:Sl),(stP m)[i]?=some p->ts[i]?=some t->IntS (h'.offS out) t (VL (if i<q then zO m v (j+1) p else zO m v j p)))
  ⟨ts,rfl,Hp.le_trans l3 l5o,f48o,hbuf.mono l5,htl,fun i p t hp ht=>by rw [if_neg (by omega)];exact(hts i p t hp ht).mono l5o⟩ ?_
 clear f48o l5o l5 f48 hb48 hbuf htl hts ts l23 lo l3 hax cx1 cx2 h3 h4 h5
 rintro q _ h3 next2 hq ⟨ts,rfl,l3,f48,hbuf,htl,hts⟩ hnx2
 have lo:=bk h3 out
 have l23:=Hp.le_trans l3 lo
 have g48:=lo _ _ f48
 refine⟨s,pt,out,_,_,_,_,_,pt,_,_,rfl,?_⟩
 by_cases hlq:q<(stP m).length
 rotate_left
 ·refine aD (by simp;omega) ?_
  rw [aA (by omega)]
  refine hnx hlt _ _ ⟨ts,rfl,l3,hbuf,htl,fun i p t hp ht=>?_⟩
  have:=hts i p t hp ht
  rwa [if_pos (by have:=get_lt hp;omega)]at this
 refine aJ (by simp;omega) ?_
 obtain⟨p,hpq⟩: ∃p,(stP m)[q]?=some p:=⟨_,List.getElem?_eq_getElem hlq⟩
 obtain⟨bp,op,hap,hcp⟩:=(hp.mono l23).get (gn hpq)
 refine ap (fun J=> ∀(ts':List Sl) (h':Hp),h2.le (h'.offS out)->(h'.offS out) b48=some (.inl ⟨[I bd.state,I bd.node],2,false⟩)->Buf h' out 1 (ts'.map Sl.v)->ts'.length=(stP m).length->
  (∀(i p:Nat) (t:Sl),(stP m)[i]?=some p->ts'[i]?=some t->IntS (h'.offS out) t (VL (if i<q+1 then zO m v (j+1) p else zO m v j p)))->J h') ?_ (fun J hJ=>?_)
 ·intro ts' h' a1 a2 a3 a4 a5
  rw [aA (by omega)]
  exact hnx2 hlq _ _ ⟨ts',rfl,a1,a2,a3,a4,a5⟩
 refine⟨bp,op,hap,by omega,by omega,_,hcp,?_⟩
 (refine az ?_)
 have hst:=Qw g v hbd p
 refine ac (fun e=>?_) (fun e=>?_)
 ·rw [if_pos (bU e).symm]at hst
  (refine az ?_)
  obtain⟨bv,ov,t,hav,hvn,hcv,ht⟩:=(hpv2.mono l23).at q2'.1 (by rw [a.len];exact q2'.2)
  refine⟨bv,ov,hav,q2'.1,hvn,t,hcv,?_⟩
  refine hbuf.wr (x:=t) (by omega) fun h4 hbuf' ho=>?_
  refine hJ _ h4 (by rw [ho];exact l3) (by rw [ho];exact f48) hbuf' (by rw [List.length_set];exact htl) fun i p' u hp' hu=>?_
  rw [ho]
  by_cases hiq:i=q
  ·subst hiq
   rw [hpq]at hp';cases hp'
   rw [List.getElem?_set_self (by omega)]at hu
   obtain rfl:=Option.some.inj hu
   rw [if_pos (by omega),hst]
   obtain⟨bv',ov',t',hav',_,hcv',ht'⟩:=(hpv2.mono l3).at q2'.1 (by rw [a.len];exact q2'.2)
   rw [hav]at hav';cases hav'
   have:=lo.cell hcv'
   rw [hcv]at this
   have htt:t=t':=by
    rcases t with ⟨ta,tn,tc⟩;rcases t' with ⟨ta',tn',tc'⟩
    simpa using this
   rw [htt];exact ht'
  ·rw [List.getElem?_set_ne (fun e=>hiq e.symm)]at hu
   have:=hts i p' u hp' hu
   by_cases h1:i<q
   ·rw [if_pos h1]at this;rw [if_pos (by omega)];exact this
   ·rw [if_neg h1]at this;rw [if_neg (by omega)];exact this
 ·rw [if_neg (fun e'=>aZ e e'.symm)]at hst
  refine hJ ts h3 l3 f48 hbuf htl fun i p' u hp' hu=>?_
  have:=hts i p' u hp' hu
  by_cases hiq:i=q
  ·subst hiq
   rw [hpq]at hp';cases hp'
   rw [if_neg (by omega)]at this
   rw [if_pos (by omega),hst];exact this
  ·by_cases h1:i<q
   ·rw [if_pos h1]at this;rw [if_pos (by omega)];exact this
   ·rw [if_neg h1]at this;rw [if_neg (by omega)];exact this
theorem Ob {m:ai} (g:dP m) {p k:Nat} (h:ce m.nexts p=some k):k<m.nodes.length:=by
 obtain⟨b,hb,_,rfl⟩:=gU h
 have:=fg.1 (jO (g.nex b hb)).2.1
 omega
def lK (m:ai) (s i:Nat):Nat:=dZ m.nodes (stP m) (gv m (cK m s i))
theorem lc {m:ai} (kind:Int) (code:Nat) (g:dP m):zf m.nodes kind (gj m.nodes (aU m.nodes kind) code):=Hu g.ok kind code
theorem Dt {h:Hp} {M:MSl} {m:ai} {st inp:Nat} {R:Value->Hp->Prop} (hs:aN h M m) (hm:bW m) (g:dP m) (h1:st<=1048576) (h2:inp<=1048576)
  (k:R (I (lK m st inp)) h):pE #[aO M,I st,I inp] h R:=by
 refine ACalls.drop (Iw ?_)
 refine uf_ ?_
 have hp36:(stP m).length<=m.nodes.length:=eY m.nodes 36
 have hp35:(inP m).length<=m.nodes.length:=eY m.nodes 35
 have hnl:=g.nl
 have hn8:=g.n8
 have hk5:=g.k5
 have hxl:=g.xl
 refine aj fun b9 g1 hb9 l1 f9=>?_
 have x9:=eF f9
 repeat' (refine az ?_)
 refine cO (hs.mono l1) hm fun p1 g2 l2 i1=>⟨p1,rfl,?_⟩
 have f92:=l2 _ _ f9
 have x92:=eF f92
 repeat' (refine az ?_)
 have l02:=Hp.le_trans l1 l2
 refine fM (hs.mono l02) hm g.ok i1 (cH g 36) (iw g 36) h1 (by rw [fu g];omega) fun u1 g3 l3 hu1=>⟨u1,rfl,?_⟩
 repeat' (((with_reducible apply kB);(assumption);(assumption)))
 have l03:=Hp.le_trans l02 l3
 refine cO (hs.mono l03) hm fun p2 g4 l4 i2=>⟨p2,rfl,?_⟩
 have l24:=Hp.le_trans l3 l4
 repeat' (((with_reducible apply kB);(assumption);(assumption)))
 have l04:=Hp.le_trans l03 l4
 refine fM (hs.mono l04) hm g.ok i2 (cH g 35) (iw g 35) h2 (by rw [EP g];omega) fun u2 g5 l5 hu2=>⟨u2,rfl,?_⟩
 have l25:=Hp.le_trans l24 l5
 (((with_reducible apply kB);(assumption);(assumption)))
 have l05:=Hp.le_trans l04 l5
 refine oy (hs.mono l05) hm g.ok g.nl (hu1.mono (Hp.le_trans l4 l5)) (lc 36 st g) hu2 (lc 35 inp g) fun vt g6 l6 hvn hpv _=>⟨vt,rfl,?_⟩
 have a:AY m (cK m st inp):=eD g st inp
 have hpv':fX g6 vt (cK m st inp):=hpv
 have hbn: ∀b∈m.nexts,0<=b.node:=fun b hb=>(fg.1 (jO (g.nex b hb)).2.1).1
 have l06:=Hp.le_trans l05 l6
 have f96:=l6 _ _ (l25 _ _ f92)
 have i16:=i1.mono (Hp.le_trans l25 l6)
 have hpn:p1.n=(stP m).length:=by have:=i1.len;rw [bz]at this;exact this
 unfold lK at k
 generalize cK m st inp=v at*
 have hs6:=hs.mono l06
 refine av (stP m).length (fun i vs h'=> ∃(ts:List Sl) (out:Sl),vs= [.pointer (some ⟨b9,0,none⟩),p1.v,vt.v,out.v,I i]/\g6.le (h'.offS out)/\out.n=i/\ts.length=i/\Buf h' out 1 (ts.map Sl.v)/\
  (∀(j:Nat) (t:Sl),ts[j]?=some t->IntS (h'.offS out) t (VL ((gv m v).getD j [])))) ⟨[],⟨none,0,0⟩,rfl,Hp.le_refl _,rfl,rfl,eG _ _,fun j t ht=>by simp at ht⟩ ?_
 rintro i _ h3 next hi ⟨ts,out,rfl,l3',hon,htl,hbuf,hts⟩ hnx
 have lo:=bk h3 out
 have l63:=Hp.le_trans l3' lo
 have f93:=l63 _ _ f96
 refine⟨_,_,p1,vt,out,_,rfl,?_⟩
 by_cases hlt:i<(stP m).length
 rotate_left
 ·have hie:i=(stP m).length:=by omega
  subst hie
  refine aD (by simp;omega) ?_
  repeat' (refine az ?_)
  have hfl:(gv m v).length=(stP m).length:=by unfold gv kJ;simp
  have iss:IntSS h3 out ((gv m v).map VL):=⟨ts,by simp;omega,hbuf.slc_of (by omega),fun j h1 h2=>by
   have:=(hts j _ (List.getElem?_eq_getElem h1)).mono lo
   rw [List.getElem_map]
   rwa [List.getD_eq_getElem?_getD,List.getElem?_eq_getElem (by rw [hfl];omega)]at this⟩
  exact xv (hs6.mono l63) hm g.ok (i16.mono l63) (cH g 36) (iw g 36) iss (oW g a.fit) (by rw [fu g];omega) ⟨_,rfl,_,Hp.le_trans l06 l63,k⟩
 refine aJ (by simp;omega) ?_
 obtain⟨p,hpi⟩: ∃p,(stP m)[i]?=some p:=⟨_,List.getElem?_eq_getElem hlt⟩
 have hpm:=cH g 36 p (List.mem_of_getElem? hpi)
 obtain⟨bp,op,hap,hcp⟩:=(i16.mono l63).get (gn hpi)
 refine⟨bp,op,hap,by omega,by omega,?_⟩
 (refine az ?_)
 refine⟨_,hcp,?_⟩
 refine m8 (hs6.mono l63).nexts (by omega) hbn ⟨_,rfl,?_⟩
 have hfg:=Hr m v hpi
 rw [Mg]at hfg
 have app: ∀(t:Sl) (h4:Hp),h3.le h4->IntS h4 t (VL ((gv m v).getD i []))-> ∀(b:Nat),h4 b=none->cu (h4.row b [t.v] 1) fun h5=>ck h5 out.a out.n out.c (some ⟨b,0,none⟩) 1 1 24 fun a n k h6=>next [.pointer (some ⟨b9,0,none⟩),p1.v,vt.v, .slice a n k,I (W ((i:Int)+1))] h6:=by
  intro t h4 l4' ht
  refine aj fun b h5 hb l5' f5=>?_
  have l35:=Hp.le_trans l4' l5'
  have l35o:=bM out l35
  refine dp (hbuf.mono l35) (by omega) (by omega) (by omega) ⟨b,0,rfl,ay f5⟩ (by simp) rfl ?_
  intro s' h6 hs'n hbuf' l6' _
  rw [aA (by omega)]
  have l36:=Hp.le_trans l35o l6'
  have hbuf'':Buf h6 s' 1 ((ts++ [t]).map Sl.v):=by rw [List.map_append];exact hbuf'
  refine hnx hlt _ _ ⟨ts++ [t],s',rfl,Hp.le_trans l3' l36,by omega,by simp;omega,hbuf'',fun j u hu=>?_⟩
  by_cases hj:j<i
  ·rw [List.getElem?_append_left (by omega)]at hu
   exact(hts j u hu).mono l36
  ·have hju:=get_lt hu
   simp at hju
   have hje:j=i:=by omega
   subst hje
   rw [List.getElem?_append_right (by omega),htl,Nat.sub_self]at hu
   simp at hu;subst hu
   exact((ht.mono l5').offL (hbuf.mono l35)).mono l6'
 cases hbo:ce m.nexts p with
 |some q=>
  rw [show iL m.nexts p=(q:Int)from by unfold iL;rw [hbo]]
  refine aJ (by simp) ?_
  have hqn:=Ob g hbo
  obtain⟨bv,ov,t,hav,hvn',hcv,ht⟩:=(hpv'.mono l63).at (p:=(q:Int)) (by omega) (by rw [a.len];omega)
  refine⟨bv,ov,hav,by omega,hvn',t,hcv,?_⟩
  refine app t h3 (Hp.le_refl _) ?_
  rw [hfg]
  unfold iV
  rw [hbo]
  simpa using ht
 |none=>
  rw [show iL m.nexts p= -1 from by unfold iL;rw [hbo]]
  refine aD (by simp) ?_
  refine⟨bp,op,hap,by omega,by omega,?_⟩
  (refine az ?_)
  refine⟨_,hcp,?_⟩
  obtain⟨bn,on,han,hpn',c6,c7,w1,w16⟩:=(hs6.mono l63).nodes.sortc2 hpm g.ok
  refine⟨bn,on,han,by omega,hpn',_,c6,_,c7,?_⟩
  refine fe ⟨_,rfl,?_⟩
  rw [qi g.ok hpm]
  have hc4:=dj m.nodes p
  refine⟨by omega,by omega,by omega,by omega,?_⟩
  refine aj fun b33 h4 hb33 l4' f33=>?_
  rw [Int.toNat_natCast,Nat.mul_one,cj]at f33
  refine app ⟨some ⟨b33,0,none⟩,aK m.nodes p,aK m.nodes p⟩ h4 l4' ?_
  rw [hfg]
  unfold iV
  rw [hbo]
  simp only [Option.map_none,Option.getD_none]
  refine⟨by dsimp only;omega,by simp [bz], .inr ⟨b33,0,rfl,?_⟩⟩
  have hc:(VL (List.replicate (aK m.nodes p) 0)).map I=List.replicate (aK m.nodes p) (I 0):=by simp [VL]
  rw [hc];exact ay f33
structure Kn (g h:Hp) (L:List (Nat×Blk)):Prop where
 le:g.le h
 mem: ∀e∈L,h e.1=some e.2
 new: ∀e∈L,g e.1=none
 nd:(L.map Prod.fst).Nodup
inductive Upd :List (Nat×Blk)->Nat->Blk->Blk->List (Nat×Blk)->Prop
 |head {L:List (Nat×Blk)} {b:Nat} {x y:Blk}:Upd ((b,x)::L) b x y ((b,y)::L)
 |tail {L L':List (Nat×Blk)} {b:Nat} {x y:Blk} {e:Nat×Blk}:Upd L b x y L'->Upd (e::L) b x y (e::L')
theorem Kn.nil (h:Hp):Kn h h []:=⟨Hp.le_refl _,fun e h=>(by simp at h),fun e h=>(by simp at h),List.nodup_nil⟩
theorem Kn.of {g h:Hp} (l:g.le h):Kn g h []:=⟨l,fun e h=>(by simp at h),fun e h=>(by simp at h),List.nodup_nil⟩
section
variable {g h h':Hp} {L L':List (Nat×Blk)}
theorem Kn.at (K:Kn g h L) {b:Nat} {x:Blk} (e:(b,x)∈L):h b=some x:=K.mem _ e
theorem Kn.mono (K:Kn g h L) (l:h.le h'):Kn g h' L:=⟨Hp.le_trans K.le l,fun e he=>l _ _ (K.mem e he),K.new,K.nd⟩
theorem Kn.cons (K:Kn g h L) {b:Nat} {x:Blk} (hb:h b=none) (l:h.le h') (f:h' b=some x):Kn g h' ((b,x)::L):=by
 refine⟨Hp.le_trans K.le l,fun e he=>?_,fun e he=>?_,?_⟩
 ·rcases List.mem_cons.1 he with rfl|he
  ·exact f
  ·exact l _ _ (K.mem e he)
 ·rcases List.mem_cons.1 he with rfl|he
  ·exact aF K.le hb
  ·exact K.new e he
 ·rw [List.map_cons,List.nodup_cons]
  refine⟨fun hm=>?_,K.nd⟩
  obtain⟨e,he,heb⟩:=List.mem_map.1 hm
  have:=K.mem e he
  rw [show e.1=b from heb,hb]at this;cases this
theorem Kn.al (K:Kn g h L) {cs:Nat->List Value} {n:Nat->Nat} {P:Nat->Hp->Prop} (k: ∀b h',Kn g h' ((b, .inl ⟨cs b,n b,false⟩)::L)->h.le h'->h b=none->P b h'):
  ∀b,h b=none->cu (h.row b (cs b) (n b)) fun h'=>P b h':=
 fun b hb=>k b _ (K.cons hb (eO _ _ hb) (bR _ _ _ _)) (eO _ _ hb) hb
theorem Upd.mem {b:Nat} {x y:Blk} (u:Upd L b x y L'):(b,x)∈L:=by
 induction u with
 |head=>exact .head _
 |tail _ ih=>exact .tail _ ih
theorem Upd.keys {b:Nat} {x y:Blk} (u:Upd L b x y L'):L'.map Prod.fst=L.map Prod.fst:=by
 induction u with
 |head=>rfl
 |tail _ ih=>rw [List.map_cons,List.map_cons,ih]
theorem Upd.out {b:Nat} {x y:Blk} (u:Upd L b x y L') (nd:(L.map Prod.fst).Nodup): ∀e∈L',e=(b,y)\/(e∈L/\e.1≠b):=by
 induction u with
 |head=>
  intro e he
  rcases List.mem_cons.1 he with rfl|he
  ·exact .inl rfl
  ·rw [List.map_cons,List.nodup_cons]at nd
   exact .inr ⟨.tail _ he,fun eb=>nd.1 (List.mem_map.2 ⟨e,he,eb⟩)⟩
 |tail u ih=>
  rename_i L L' b x y e0
  rw [List.map_cons,List.nodup_cons]at nd
  intro e he
  rcases List.mem_cons.1 he with rfl|he
  ·exact .inr ⟨.head _,fun eb=>nd.1 (List.mem_map.2 ⟨_,u.mem,eb.symm⟩)⟩
  ·rcases ih nd.2 e he with h|⟨h1,h2⟩
   ·exact .inl h
   ·exact .inr ⟨.tail _ h1,h2⟩
theorem Kn.set (K:Kn g h L) {b z z':Nat} {cs cs':List Value} {ro:Bool} (u:Upd L b (.inl ⟨cs,z,ro⟩) (.inl ⟨cs',z',false⟩) L'):Kn g (h.row b cs' z') L':=by
 have hb:=K.new _ u.mem
 refine⟨eg _ _ hb K.le,fun e he=>?_,fun e he=>?_,by rw [u.keys];exact K.nd⟩
 ·rcases u.out K.nd e he with rfl|⟨h1,h2⟩
  ·exact bR _ _ _ _
  ·rw [bX _ _ h2];exact K.mem e h1
 ·rcases u.out K.nd e he with rfl|⟨h1,h2⟩
  ·exact hb
  ·exact K.new e h1
theorem Kn.wr (K:Kn g h L) {b z o m:Nat} {cs vs:List Value} {P:Hp->Prop} (u:Upd L b (.inl ⟨cs,z,false⟩) (.inl ⟨cv cs o vs,z,false⟩) L') (hl:m<=cs.length)
  (k: ∀h',Kn g h' L'->(∀c,c≠b->h' c=h c)->P h'):
  ∃(cs':List Value) (z':Nat),h b=some (.inl ⟨cs',z',false⟩)/\m<=List.length cs'/\cu (h.row b (cv cs' o vs) z') fun h'=>P h':=
 ⟨cs,z,K.at u.mem,hl,k _ (K.set u) fun c hc=>bX _ _ hc⟩
theorem Kn.base (K:Kn g h L):Kn (h.wo (L.map Prod.fst)) h L:=⟨vQ _ _,K.mem,fun e he=>eX (List.mem_map.2 ⟨e,he,rfl⟩),K.nd⟩
theorem Kn.leBase (K:Kn g h L):g.le (h.wo (L.map Prod.fst)):=rF K.le fun b hb=>by
 obtain⟨e,he,rfl⟩:=List.mem_map.1 hb
 exact K.new e he
theorem Kn.has (K:Kn g h L): ∀b∈L.map Prod.fst,h b≠none:=fun b hb=>by
 obtain⟨e,he,rfl⟩:=List.mem_map.1 hb
 rw [K.mem e he];simp
theorem Kn.eq {g':Hp} (K':Kn g' h' L') (K:Kn g h L) {b:Nat} {x:Blk} {P:Prop} (e':(b,x)∈L') (e:(b,x)∈L) (k:P):h' b=h b/\P:=⟨by rw [K'.at e',K.at e],k⟩
theorem Kn.eqg (K':Kn g h' L') (K:Kn g h L) {b:Nat} {P:Prop} (e:g b≠none) (k:P):h' b=h b/\P:=by
 refine⟨?_,k⟩
 cases hb:g b with
 |none=>exact absurd hb e
 |some x=>rw [K'.le _ _ hb,K.le _ _ hb]
theorem Kn.sub (K:Kn g h L) (m: ∀e∈L',e∈L) (nd:(L'.map Prod.fst).Nodup):Kn g h L':=⟨K.le,fun e he=>K.mem e (m e he),fun e he=>K.new e (m e he),nd⟩
end
theorem du {b o:Nat} {P:Nat->Nat->Prop} (k:P b o): ∃b' o':Nat,some (Addr.mk b o none)=some (Addr.mk b' o' none)/\P b' o':=⟨b,o,rfl,k⟩
theorem Kn.rd {α:Type} {f:α->Value} {g h:Hp} {L:List (Nat×Blk)} (K:Kn g h L) {b z o:Nat} {cs:List Value} {ro:Bool} {x:α} {P:α->Prop} (e:(b, .inl ⟨cs,z,ro⟩)∈L) (c:cs[o]?=some (f x)) (k:P x): ∃y:α,Hp.cell h b o=some (f y)/\P y:=⟨x,by rw [aq (K.at e)];exact c,k⟩
theorem Kn.rg {α:Type} {f:α->Value} {g h:Hp} {L:List (Nat×Blk)} (K:Kn g h L) {b z o:Nat} {cs:List Value} {ro:Bool} {x:α} {P:α->Prop} (e:g b=some (.inl ⟨cs,z,ro⟩)) (c:cs[o]?=some (f x)) (k:P x): ∃y:α,Hp.cell h b o=some (f y)/\P y:=⟨x,by rw [aq (K.le _ _ e)];exact c,k⟩
theorem kr_ {P Q:Prop} (k:Q) (h:Q->P:=by(first
 |((with_reducible apply Kn.rd);(assumption);((focus ((repeat first|exact .head _|apply List.Mem.tail);done)));(exact rfl))
 |((with_reducible apply Kn.rg);(assumption);(assumption);(exact rfl))
 |with_reducible exact And.intro (Eq.refl _)
 |with_reducible exact And.intro True.intro
 |with_reducible exact du
 |((with_reducible apply Kn.eq);(assumption);(assumption);((focus ((repeat first|exact .head _|apply List.Mem.tail);done)));((focus ((repeat first|exact .head _|apply List.Mem.tail);done))))
 |((with_reducible apply Kn.eqg);(assumption);(assumption);(assumption))
 |fail)):P:=h k
theorem kw_ {P Q:Prop} (k:Q) (h:Q->P:=by((with_reducible apply Kn.wr);(assumption);(((focus ((repeat first|exact .head|apply Upd.tail);done))));(exact of_decide_eq_true rfl))):P:=h k
def eu (k:Nat):List Nat:=(List.range (k+1)).filter fun c=>decide (c&&&k=c)
theorem Buf.wo {h h':Hp} {t:Sl} {sz:Nat} {cs:List Value} {B:List Nat} (e:Buf h' t sz cs) (l:h.le (h'.offS t)) (hB: ∀b∈B,h b≠none):Buf (h'.wo B) t sz cs:=by
 refine⟨e.1,e.2.1,e.2.2.imp id ?_⟩
 rintro ⟨b,ha,hb⟩
 refine⟨b,ha,?_⟩
 rw [rx]
 ·exact hb
 ·intro hm
  have:=hB b hm
  cases hx:h b with
  |none=>exact this hx
  |some x=>
   have:=l _ _ hx
   simp [Hp.offS,ha,Hp.off,Hp.set]at this
theorem fX.keep {h h':Hp} {s:Sl} {vs:List (List Nat)} {b z:Nat} {cs:List Value} {ro:Bool} (e:fX h s vs) (f:h b=some (.inl ⟨cs,z,ro⟩)) (hn:zi cs) (hsl: ∀(j:Nat) (t:Sl),cs[j]?≠some t.v) (kp: ∀c,c≠b->h' c=h c):fX h' s vs:=by
 refine⟨e.1,e.2.1,fun p hp=>?_⟩
 obtain⟨b',o,t,h1,h2,h3⟩:=e.2.2 p hp
 refine⟨b',o,t,h1,?_,h3.keepN f hn kp⟩
 have hne:b'≠b:=by
  rintro rfl
  rw [aq f]at h2
  exact hsl _ _ h2
 unfold Hp.cell at h2⊢
 rw [kp b' hne];exact h2
abbrev LL (M:MSl) (n k:Int) (st hold bad:Sl) (fixed:Int) (next:Sl) (bf ba:Int):List Value:= [M.no.v,M.ini.v,M.nex.v,M.bad.v,M.hol.v,I n,I k,st.v,hold.v,bad.v,I fixed,next.v,I bf,I ba]
abbrev arr (b n:Nat):Sl:=⟨some ⟨b,0,none⟩,n,n⟩
def Bk (h:Hp) (t:Sl) (n:Nat) (f:Nat->Nat):Prop:=IntS h t (VL ((List.range n).map f))
theorem Bk.mono {h h':Hp} {t:Sl} {n:Nat} {f:Nat->Nat} (l:h.le h') (e:Bk h t n f):Bk h' t n f:=SlC.mono l e
def nJ (h:Hp) (b:Nat) (σ:aC):Prop:= ∃(M:MSl) (st hold bad next:Sl),h b=some (.inl ⟨LL M σ.n σ.k st hold bad σ.fixed next σ.bfix σ.bas,14,false⟩)/\
 cX h hold (2^(σ.n+σ.k)) σ.hold/\cX h bad (2^(σ.n+σ.k)) σ.bad/\Bk h next (2^(σ.n+σ.k)) σ.next
theorem nJ.mono {h h':Hp} {b:Nat} {σ:aC} (l:h.le h') (e:nJ h b σ):nJ h' b σ:=by
 obtain⟨M,st,hold,bad,next,h1,h2,h3,h4⟩:=e
 exact⟨M,st,hold,bad,next,l _ _ h1,h2.mono l,h3.mono l,h4.mono l⟩
theorem tW {m:ai} (g:dP m) {b:BindP} (hb:b∈m.inits):0<=b.node/\b.node<m.nodes.length/\0<((od m).getD b.node.toNat []).length/\((od m).getD b.node.toNat []).length<=4/\0<=b.state/\b.state<m.nodes.length:=by
 obtain⟨q1,q2,q3,q4,_⟩:=zZ (g.ini b hb)
 have q2':=fg.1 q2
 have q1':=fg.1 q1
 have hf:=(ww g).fit b.node.toNat (by omega) (by omega)
 have:=(uo g.ok (show b.node.toNat<m.nodes.length by omega) hf).1
 refine⟨q2'.1,q2'.2,hf.pos,?_,q1'.1,q1'.2⟩
 rw [this];exact dj _ _
theorem cX.get {h:Hp} {t:Sl} {n:Nat} {T:Nat->Bool} (e:cX h t n T) {i:Nat} (hi:i<n): ∃b o,t.a=some (Addr.mk b o none)/\(i:Int)<(t.n:Int)/\Hp.cell h b (o+Int.toNat (i:Int)*1)=some (.bool (T i)):=by
 have hl:=qI.len e
 rw [List.length_map,List.length_range]at hl
 obtain⟨b,o,ha,hc⟩:=SlC.get e (by omega)
 refine⟨b,o,ha,by omega,?_⟩
 rw [Int.toNat_natCast,Nat.mul_one]
 exact hc i _ (by simp [hi])
theorem cX.len {h:Hp} {t:Sl} {n:Nat} {T:Nat->Bool} (e:cX h t n T):t.n=n:=by
 have hl:=qI.len e
 rwa [List.length_map,List.length_range]at hl
theorem Bk.get {h:Hp} {t:Sl} {n:Nat} {f:Nat->Nat} (e:Bk h t n f) {i:Nat} (hi:i<n): ∃b o,t.a=some (Addr.mk b o none)/\(i:Int)<(t.n:Int)/\Hp.cell h b (o+Int.toNat (i:Int)*1)=some (I (f i:Nat)):=by
 have hl:=IntS.len e
 rw [bz,List.length_map,List.length_range]at hl
 obtain⟨b,o,ha,hc⟩:=SlC.get e (by omega)
 refine⟨b,o,ha,by omega,?_⟩
 rw [Int.toNat_natCast,Nat.mul_one]
 exact hc i _ (by simp [VL,hi])
theorem IntS.up {h h':Hp} {s:Sl} {xs:List Int} (e:IntS h s xs) (l:h.le h'):IntS h' s xs:=e.mono l
theorem IntSS.up {h h':Hp} {s:Sl} {xs:List (List Int)} (e:IntSS h s xs) (l:h.le h'):IntSS h' s xs:=e.mono l
theorem aN.up {h h':Hp} {M:MSl} {m:ai} (e:aN h M m) (l:h.le h'):aN h' M m:=e.mono l
theorem kpU {h0 h h':Hp} {b:Nat} {x:Blk} {P:Prop} (f:h0 b=some x) (l1:h0.le h') (l2:h0.le h) (k:P):h' b=h b/\P:=⟨by rw [l1 _ _ f,l2 _ _ f],k⟩
theorem kpN {h0 h h':Hp} {b:Nat} {P:Prop} (f:h0 b≠none) (l1:h0.le h') (l2:h0.le h) (k:P):h' b=h b/\P:=by
 refine⟨?_,k⟩
 cases hb:h0 b with
 |none=>exact absurd hb f
 |some x=>rw [l1 _ _ hb,l2 _ _ hb]
theorem rdU {α:Type} {f:α->Value} {h0 h:Hp} {b z o:Nat} {cs:List Value} {ro:Bool} {x:α} {P:α->Prop} (e:h0 b=some (.inl ⟨cs,z,ro⟩)) (l:h0.le h) (c:cs[o]?=some (f x)) (k:P x): ∃y:α,Hp.cell h b o=some (f y)/\P y:=⟨x,by rw [aq (l _ _ e)];exact c,k⟩
theorem ku_ {P Q:Prop} (k:Q) (h:Q->P:=by(first
 |((with_reducible apply rdU);(assumption);((focus ((repeat (first|exact Hp.le_refl _|assumption|(refine Hp.le_trans ?_ (by assumption))));done)));(exact rfl))
 |with_reducible exact And.intro (Eq.refl _)
 |with_reducible exact And.intro True.intro
 |with_reducible exact du
 |((with_reducible apply kpU);(assumption);((focus ((repeat (first|exact Hp.le_refl _|assumption|(refine Hp.le_trans ?_ (by assumption))));done)));((focus ((repeat (first|exact Hp.le_refl _|assumption|(refine Hp.le_trans ?_ (by assumption))));done))))
 |((with_reducible apply kpN);(assumption);((focus ((repeat (first|exact Hp.le_refl _|assumption|(refine Hp.le_trans ?_ (by assumption))));done)));((focus ((repeat (first|exact Hp.le_refl _|assumption|(refine Hp.le_trans ?_ (by assumption))));done))))
 |fail)):P:=h k
def hG (ps:List Nat) (f:Nat->Option (List Nat)) (vs:List (List Nat)) (n:Nat):Bool:=(List.range n).all fun i=>match ps[i]? with
 |some p=>(match f p with|some v=>decide (vs.getD i []=v)|none=>true)
 |none=>true
theorem C7 {ps:List Nat} {f:Nat->Option (List Nat)} {vs:List (List Nat)} {i p:Nat} (h:ps[i]?=some p):hG ps f vs (i+1)=(hG ps f vs i&&(match f p with|some v=>decide (vs.getD i []=v)|none=>true)):=by
 unfold hG
 rw [List.range_succ,List.all_append]
 simp only [List.all_cons,List.all_nil,Bool.and_true,h]
theorem kj {ps:List Nat} {f:Nat->Option (List Nat)} {vs:List (List Nat)}:hG ps f vs ps.length=true↔ ∀(i p:Nat),ps[i]?=some p-> ∀v,f p=some v->vs.getD i []=v:=by
 unfold hG
 rw [List.all_eq_true]
 constructor
 ·intro h i p hp v hv
  have:=h i (List.mem_range.2 (get_lt hp))
  rw [hp]at this
  simp only [hv,decide_eq_true_eq]at this
  exact this
 ·intro h i hi
  cases hp:ps[i]? with
  |none=>rfl
  |some p=>
   simp only
   cases hv:f p with
   |none=>rfl
   |some v=>simpa using h i p hp v hv
theorem IT {ps:List Nat} {f:Nat->Option (List Nat)} {vs:List (List Nat)} {i:Nat} (hi:i<=ps.length) (h:hG ps f vs i=false):hG ps f vs ps.length=false:=by
 unfold hG at h⊢
 rw [List.all_eq_false]at h⊢
 obtain⟨x,hx,hn⟩:=h
 exact⟨x,List.mem_range.2 (by have:=List.mem_range.1 hx;omega),hn⟩
theorem Dm {h:Hp} {M:MSl} {m:ai} {s t:Sl} {ps:List Nat} {vs:List (List Nat)} {R:Value->Hp->Prop} (hs:aN h M m) (hm:bW m) (hok:cm m.nodes=true) (hp:IntS h s (VL ps)) (hps: ∀p∈ps,p<m.nodes.length) (hpl:ps.length<=1048576)
  (hv:IntSS h t (vs.map VL)) (hf:mA m.nodes ps vs) (k:R (.bool true) h):pq #[aO M,s.v,t.v] h R:=by
 refine ACalls.drop (HF ?_)
 refine uf_ ?_
 have hn:=hs.nodes.len
 have hsn:=hp.len
 rw [bz]at hsn
 have htn:=hv.len
 rw [List.length_map]at htn
 have hvl:=nv hf
 refine aj fun b9 h1 hb9 l1 f9=>?_
 refine aD (by simp;omega) ?_
 refine av ps.length (fun i ws h'=>h.le h'/\h' b9=some (.inl ⟨aw M,5,false⟩)/\ws= [s.v,t.v, .pointer (some ⟨b9,0,none⟩),I i]) ⟨l1,f9,rfl⟩ ?_
 clear f9 l1 hb9 h1
 rintro i _ h1 next hi ⟨l1,f9,rfl⟩ hnx
 refine⟨s,t,_,_,_,rfl,?_⟩
 by_cases hlt:i<ps.length
 rotate_left
 ·exact aD (by simp;omega) ⟨_,l1,k⟩
 refine aJ (by simp;omega) ?_
 obtain⟨p,hpi⟩: ∃p,ps[i]?=some p:=⟨_,List.getElem?_eq_getElem hlt⟩
 have hpm:=hps p (List.mem_of_getElem? hpi)
 obtain⟨b,o,ha,hc⟩:=(hp.mono l1).get (gn hpi)
 refine⟨b,o,ha,by omega,by omega,?_⟩
 (refine az ?_)
 refine⟨_,hc,?_⟩
 obtain⟨bn,on,han,hpn',c6,c7,w1,w16⟩:=(hs.mono l1).nodes.sortc2 hpm hok
 refine⟨bn,on,han,by omega,hpn',_,c6,_,c7,?_⟩
 obtain⟨bt,ot,c,hta,htc,hcv⟩:=(hv.mono l1).getV (i:=i) (by omega)
 have xbt:=gp htc
 have xbn:=gp c6
 have xb:=gp hc
 have xb9:=eF f9
 refine aj fun b36 h2 hb36 l2 f36'=>?_
 have n9:=fresh_ne hb36 f9
 have nt:=uR hb36 htc
 repeat' (((with_reducible apply kB);(assumption);(assumption)))
 (with_reducible apply cb);(exact f36');(exact Hp.le_trans l1 l2);(exact aF l1 hb36);(exact Nat.le_refl 2)
 intro h3 f36 kp l3
 have l13:h1.le h3:=cF hb36 l2 kp
 have f93:=l13 _ _ f9
 have f36v:h3 b36=some (.inl ⟨[I (aE m.nodes p).idx,I (cc m.nodes p)],2,false⟩):=f36
 refine⟨bt,ot,hta,by omega,by omega,c,l13.cell htc,?_⟩
 repeat' (refine az ?_)
 refine fe ⟨_,rfl,?_⟩
 rw [qi hok hpm]
 have hg:=qa hf hpi
 have hcn:=hcv.len
 rw [bz]at hcn
 have hcl:=dj m.nodes p
 repeat' (refine az ?_)
 refine aD (by simp;omega) ?_
 have hcv3:=hcv.mono l13
 refine av (aK m.nodes p) (fun q ws h'=>h'=h3/\ws= [s.v,t.v, .pointer (some ⟨b9,0,none⟩),I i, .pointer (some ⟨b36,0,none⟩),I q]) ⟨rfl,rfl⟩ ?_
 rintro q _ _ next2 hq ⟨rfl,rfl⟩ hnx2
 rename_i h3
 refine⟨s,t,_,_,_,_,_,_,rfl,?_⟩
 refine⟨bt,ot,hta,by omega,by omega,c,l13.cell htc,?_⟩
 by_cases hlq:q<aK m.nodes p
 rotate_left
 ·refine aD (by simp;omega) ?_
  rw [aA (by omega)]
  exact hnx hlt _ _ ⟨l3,f93,rfl⟩
 refine aJ (by simp;omega) ?_
 refine⟨bt,ot,hta,by omega,by omega,?_⟩
 (refine az ?_)
 refine⟨c,l13.cell htc,?_⟩
 obtain⟨bc,oc,hca,hcc,hln⟩:=hcv3.elt (i:=q) (by omega)
 refine⟨bc,oc,hca,by omega,by omega,_,hcc,?_⟩
 have hlt2:(vs.getD i []).getD q 0<2^cc m.nodes p:=by
  rw [List.getD_eq_getElem?_getD,List.getElem?_eq_getElem (show q<(vs.getD i []).length by omega)]
  exact hg.2 _ (List.getElem_mem _)
 refine cr ⟨_,rfl,aD ?_ ?_⟩
 ·rw [Bool.not_eq_false',jL]
  refine⟨by omega,by omega,?_⟩
  rw [Int.toNat_natCast];omega
 ·rw [aA (by omega)]
  exact hnx2 hlq _ _ ⟨rfl,rfl⟩
theorem gk {h:Hp} {M:MSl} {m:ai} {t:Sl} {vs:List (List Nat)} {R:Value->Hp->Prop} (hs:aN h M m) (hm:bW m) (hc:ax m=0)
  (hv:IntSS h t (vs.map VL)) (hf:mA m.nodes (stP m) vs) (k:R (.bool true) h):fH #[aO M,t.v] h R:=by
 refine ACalls.drop (CT ?_)
 refine uf_ ?_
 have g:=co hc
 refine aj fun b8 h1 hb8 l1 f8=>?_
 repeat' (refine ku_ ?_)
 refine aX (hs.up (by((focus ((repeat (first|exact Hp.le_refl _|assumption|(refine Hp.le_trans ?_ (by assumption))));done))))) hm ⟨_,rfl,aJ (by rw [hc];rfl) ?_⟩
 repeat' (refine ku_ ?_)
 refine cO (hs.up (by((focus ((repeat (first|exact Hp.le_refl _|assumption|(refine Hp.le_trans ?_ (by assumption))));done))))) hm fun p h2 l2 i2=>⟨p,rfl,?_⟩
 repeat' (refine ku_ ?_)
 exact Dm (hs.up (by((focus ((repeat (first|exact Hp.le_refl _|assumption|(refine Hp.le_trans ?_ (by assumption))));done))))) hm g.ok i2 (cH g 36) (iw g 36) (hv.up (by((focus ((repeat (first|exact Hp.le_refl _|assumption|(refine Hp.le_trans ?_ (by assumption))));done))))) hf ⟨_,rfl,h,by((focus ((repeat (first|exact Hp.le_refl _|assumption|(refine Hp.le_trans ?_ (by assumption))));done))),k⟩
theorem On {m:ai} (g:dP m) {p k:Nat} (h:ce m.inits p=some k):k<m.nodes.length/\0<((od m).getD k []).length/\((od m).getD k []).length<=4:=by
 obtain⟨b,hb,_,rfl⟩:=gU h
 obtain⟨v1,v2,v3,v4,_,_⟩:=tW g hb
 exact⟨by omega,v3,v4⟩
theorem jK {h:Hp} {M:MSl} {m:ai} {t:Sl} {vs:List (List Nat)} {R:Value->Hp->Prop} (hs:aN h M m) (hm:bW m) (hc:ax m=0)
  (hv:IntSS h t (vs.map VL)) (hf:mA m.nodes (stP m) vs) (k:R (.bool (hG (stP m) (eU m) vs (stP m).length)) h):ij #[aO M,t.v] h R:=by
 refine ACalls.drop (Es ?_)
 refine uf_ ?_
 have g:=co hc
 have hil:=g.il
 have hnl:=g.nl
 have hp36:(stP m).length<=m.nodes.length:=eY m.nodes 36
 have htn:=hv.len
 rw [List.length_map]at htn
 have hvl:=nv hf
 have hbn: ∀b∈m.inits,0<=b.node:=fun b hb=>(tW g hb).1
 refine aj fun b8 h1 hb8 l1 f8=>?_
 repeat' (refine ku_ ?_)
 refine gk (hs.up (by((focus ((repeat (first|exact Hp.le_refl _|assumption|(refine Hp.le_trans ?_ (by assumption))));done))))) hm hc (hv.up (by((focus ((repeat (first|exact Hp.le_refl _|assumption|(refine Hp.le_trans ?_ (by assumption))));done))))) hf ⟨_,rfl,aD rfl ?_⟩
 repeat' (refine ku_ ?_)
 refine Ks (hs.up (by((focus ((repeat (first|exact Hp.le_refl _|assumption|(refine Hp.le_trans ?_ (by assumption))));done))))) hm g fun vt h2 l2 hvn hpv=>⟨vt,rfl,?_⟩
 repeat' (refine ku_ ?_)
 refine cO (hs.up (by((focus ((repeat (first|exact Hp.le_refl _|assumption|(refine Hp.le_trans ?_ (by assumption))));done))))) hm fun pt h3 l3 ip=>⟨pt,rfl,?_⟩
 have hpn:pt.n=(stP m).length:=by have:=ip.len;rw [bz]at this;exact this
 have f83:=l3 _ _ (l2 _ _ f8)
 have hpv3:=hpv.mono l3
 have l03:=Hp.le_trans l1 (Hp.le_trans l2 l3)
 have aV:=ww g
 clear l2 l3 l1 hb8 f8 hpv h2
 refine av (stP m).length (fun i ws h'=>h3.le h'/\ws= [t.v, .pointer (some ⟨b8,0,none⟩),vt.v,pt.v,I i]/\hG (stP m) (eU m) vs i=true) ⟨Hp.le_refl _,rfl,rfl⟩ ?_
 rintro i _ h4 next hi ⟨l4,rfl,hg⟩ hnx
 have l04:=Hp.le_trans l03 l4
 refine⟨t,_,_,vt,pt,_,rfl,?_⟩
 by_cases hlt:i<(stP m).length
 rotate_left
 ·have hie:i=(stP m).length:=by omega
  subst hie
  refine aD (by simp;omega) ⟨_,l04,di hg.symm k⟩
 refine aJ (by simp;omega) ?_
 obtain⟨p,hpi⟩: ∃p,(stP m)[i]?=some p:=⟨_,List.getElem?_eq_getElem hlt⟩
 have hsucc:=C7 (f:=eU m) (vs:=vs) hpi
 rw [hg,Bool.true_and]at hsucc
 obtain⟨b,o,ha,hcc⟩:=(ip.mono l4).get (gn hpi)
 refine⟨b,o,ha,by omega,by omega,?_⟩
 (refine ku_ ?_)
 refine⟨_,hcc,?_⟩
 refine m8 (hs.mono l04).inits (by omega) hbn ⟨_,rfl,?_⟩
 refine ap (fun J=> ∀h',h4.le h'->J (!hG (stP m) (eU m) vs (i+1)) h') ?_ (fun J hJ=>?_)
 ·intro h' l'
  refine ac (fun e=>⟨_,Hp.le_trans l04 l',di ?_ k⟩) (fun e=>?_)
  ·symm;exact IT (i:=i+1) (by omega) (by simpa using e)
  ·rw [aA (by omega)]
   exact hnx hlt _ _ ⟨Hp.le_trans l4 l',rfl,by simpa using e⟩
 cases hbo:ce m.inits p with
 |none=>
  rw [show iL m.inits p= -1 from by unfold iL;rw [hbo]]
  refine aD (by simp) ⟨trivial,?_⟩
  have hn:eU m p=none:=by unfold eU;rw [hbo];rfl
  rw [hn]at hsucc
  have:=hJ h4 (Hp.le_refl _)
  rw [hsucc]at this;exact this
 |some q=>
  rw [show iL m.inits p=(q:Int)from by unfold iL;rw [hbo]]
  refine aJ (by simp) ?_
  obtain⟨hq,v3,v4⟩:=On g hbo
  have hsm:eU m p=some (mT (aK m.nodes p) ((od m).getD q [])):=by unfold eU;rw [hbo];rfl
  have hfit:=qX g hsm
  have hcl:=dj m.nodes p
  have hgv:=qa hf hpi
  rw [hsm]at hsucc
  obtain⟨bt,ot,c,hta,htc,hcv⟩:=(hv.mono l04).getV (i:=i) (by omega)
  obtain⟨bv,ov,u,hua,hun,huc,huv⟩:=(hpv3.mono l4).at (p:=(q:Int)) (by omega) (by rw [aV.len];omega)
  have hcn:=hcv.len
  rw [bz]at hcn
  refine⟨bt,ot,hta,by omega,by omega,bv,ov,hua,by omega,hun,bt,ot,hta,by omega,by omega,c,htc,u,huc,c,htc,?_⟩
  rw [Int.toNat_natCast]at huv
  rw [hcn,hgv.1]
  have xbt:=gp htc
  refine DE huv v3 v4 hcl fun w h5 l5 hw=>⟨w,rfl,?_⟩
  repeat' (((with_reducible apply kB);(assumption);(assumption)))
  refine wA (hcv.mono l5) hw (by rw [bz];omega) (by rw [bz,bz,hgv.1,hfit.1];exact Nat.le_refl _) ⟨_,rfl,?_⟩
  have:=hJ h5 l5
  simp only at hsucc
  rw [hsucc]at this
  have e2:decide (VL (vs.getD i [])=VL (mT (aK m.nodes p) ((od m).getD q [])))=decide (vs.getD i []=mT (aK m.nodes p) ((od m).getD q [])):=by
   rw [Bool.eq_iff_iff,decide_eq_true_eq,decide_eq_true_eq,F9]
  rw [e2];exact this
section
variable {g h h':Hp} {L L' A B X:List (Nat×Blk)}
theorem Kn.app (K:Kn g h L) (l:h.le h') (n: ∀e∈X,h e.1=none) (f: ∀e∈X,h' e.1=some e.2) (nd:(X.map Prod.fst).Nodup):Kn g h' (L++X):=by
 refine⟨Hp.le_trans K.le l,fun e he=>?_,fun e he=>?_,?_⟩
 ·rcases List.mem_append.1 he with he|he
  ·exact l _ _ (K.mem e he)
  ·exact f e he
 ·rcases List.mem_append.1 he with he|he
  ·exact K.new e he
  ·exact aF K.le (n e he)
 ·rw [List.map_append,List.nodup_append]
  refine⟨K.nd,nd,fun a ha b hb hab=>?_⟩
  obtain⟨e,he,rfl⟩:=List.mem_map.1 ha
  obtain⟨e',he',rfl⟩:=List.mem_map.1 hb
  have h1:=K.mem e he
  have h2:=n e' he'
  rw [hab,h2]at h1;cases h1
theorem Kn.off (K:Kn g h L) {b:Nat} {x y:Blk} (u:Upd L b x y L') (l:(h.off b).le h') (f:h' b=some y):Kn g h' L':=by
 refine⟨?_,fun e he=>?_,fun e he=>?_,by rw [u.keys];exact K.nd⟩
 ·exact Hp.le_trans (vu (K.new (b,x) u.mem) K.le) l
 ·rcases u.out K.nd e he with rfl|⟨h1,h2⟩
  ·exact f
  ·refine l _ _ ?_
   simp only [Hp.off,Hp.set];rw [if_neg h2];exact K.mem e h1
 ·rcases u.out K.nd e he with rfl|⟨h1,h2⟩
  ·exact K.new (b,x) u.mem
  ·exact K.new e h1
def pa (X:List (Nat×Blk)) (s:Sl) (sz:Nat) (cs:List Value):Prop:=
 cs.length=s.n*sz/\s.n<=9223372036854775807/\((s.n=0/\X= [])\/(s.n≠0/\ ∃b z,s.a=some ⟨b,0,none⟩/\X= [(b, .inl ⟨cs,z,false⟩)]))
theorem Kn.addOwn {s:Sl} {sz:Nat} {cs:List Value} (K:Kn g h L) (l:h.le h') (o:Own (h'.sub h) s sz cs): ∃X,pa X s sz cs/\Kn g h' (L++X):=by
 by_cases h0:s.n=0
 ·exact⟨[],⟨o.1,o.2.1, .inl ⟨h0,rfl⟩⟩,by rw [List.append_nil];exact K.mono l⟩
 ·obtain⟨b,z,ha,hb⟩:=o.2.2.resolve_left h0
  have hn:h b=none:=lz (by rw [hb];simp)
  refine⟨_,⟨o.1,o.2.1, .inr ⟨h0,b,z,ha,rfl⟩⟩,K.app l (fun e he=>?_) (fun e he=>?_) (by simp)⟩
  ·rw [List.mem_singleton.1 he];exact hn
  ·rw [List.mem_singleton.1 he];exact sub_le _ _ _ _ hb
theorem pa.own {s:Sl} {sz:Nat} {cs:List Value} (o:pa X s sz cs) (K:Kn g h (L++X)):Own h s sz cs:=by
 refine⟨o.1,o.2.1,?_⟩
 rcases o.2.2 with ⟨h0,_⟩|⟨_,b,z,ha,rfl⟩
 ·exact .inl h0
 ·exact .inr ⟨b,z,ha,K.at (by simp)⟩
end
theorem list9 {cs:List Value} (h:cs.length=9): ∃a b c d e f g i j,cs= [a,b,c,d,e,f,g,i,j]:=by
 match cs,h with
 | [a,b,c,d,e,f,g,i,j],_=>exact⟨a,b,c,d,e,f,g,i,j,rfl⟩
theorem list2 {cs:List Value} (h:cs.length=2): ∃a b,cs= [a,b]:=by
 match cs,h with
 | [a,b],_=>exact⟨a,b,rfl⟩
theorem Got.flat {P:Program} {W:World} {t e:TypeId} {v:Value} {α:Type} {f:α->List Value} {m:Nat} {p:α->Prop} (hf: ∀x,(f x).length=m) (hpos:0<m) (ht:P.underlying t=some (.slice e)) (hsz:P.cellsOf e=m)
  (hg: ∀ds,Got P W e ds-> ∃x,ds=f x/\p x) (g:Got P W t [v]): ∃(s:Sl) (l:List α),v=s.v/\s.n<=s.c/\SlC (hW W) s m (l.flatMap f)/\ ∀x∈l,p x:=by
 obtain⟨s,hs,hm,hlc,h⟩:=Got.slice ht hsz hpos g
 simp only [List.cons.injEq,and_true]at hs
 rcases h with h|⟨b,o,ha,h⟩
 ·exact⟨s, [],hs,hlc,⟨hm,by simp [h], .inl h⟩,by simp⟩
 obtain⟨xs,hl,hx⟩:=EY (p:=fun i (x:α)=>(∀(j:Nat) v,(f x)[j]?=some v->Hp.cell (hW W) b (o+i*m+j)=some v)/\p x) s.n fun i hi=>by
  obtain⟨ds,hd,hgd,hc⟩:=h i hi
  obtain⟨x,rfl,hp⟩:=hg ds hgd
  exact⟨x,hc,hp⟩
 refine⟨s,xs,hs,hlc,⟨hm,by rw [iJ hf,hl], .inr ⟨b,o,ha,?_⟩⟩,?_⟩
 ·intro i v hv
  have hi:i<(xs.flatMap f).length:=(List.getElem?_eq_some_iff.1 hv).1
  rw [iJ hf]at hi
  have hq:i/m<xs.length:=by rw [Nat.div_lt_iff_lt_mul hpos];exact hi
  have hr:i%m<m:=Nat.mod_lt _ hpos
  have he:i=i/m*m+i%m:=by rw [Nat.mul_comm];exact(Nat.div_add_mod _ _).symm
  rw [he,wK hf xs (i/m) xs[i/m] (i%m) (List.getElem?_eq_getElem hq) hr]at hv
  have:=(hx (i/m) hq).1 _ _ hv
  rw [he,<-Nat.add_assoc];exact this
 ·intro x hxm
  obtain⟨i,hi,rfl⟩:=List.getElem_of_mem hxm
  exact(hx i hi).2
def tb (n:Nat) (T:Nat->Bool):List Value:=(List.range n).map fun i=> .bool (T i)
def AP (h:Hp) (s:Sl) (n m:Nat) (L:Nat->Nat->Bool):Prop:= ∃ts:List Sl,ts.length=m/\SlC h s 1 (ts.map Sl.v)/\ ∀(j:Nat) (t:Sl),ts[j]?=some t->cX h t n (L j)
theorem AP.mono {h h':Hp} {s:Sl} {n m:Nat} {L:Nat->Nat->Bool} (l:h.le h') (e:AP h s n m L):AP h' s n m L:=by
 obtain⟨ts,e1,e2,e3⟩:=e
 exact⟨ts,e1,e2.mono l,fun j t ht=>(e3 j t ht).mono l⟩
theorem AP.len {h:Hp} {s:Sl} {n m:Nat} {L:Nat->Nat->Bool} (e:AP h s n m L):s.n=m:=by
 obtain⟨ts,e1,e2,_⟩:=e
 have:=e2.2.1
 simp at this;omega
theorem AP.get {h:Hp} {s:Sl} {n m i:Nat} {L:Nat->Nat->Bool} (e:AP h s n m L) (hi:i<m):
  ∃b o t,s.a=some (Addr.mk b o none)/\(i:Int)<(s.n:Int)/\Hp.cell h b (o+Int.toNat (i:Int)*1)=some (Sl.v t)/\cX h t n (L i):=by
 have hl:=e.len
 obtain⟨ts,e1,e2,e3⟩:=e
 obtain⟨t,ht⟩: ∃t,ts[i]?=some t:=⟨_,List.getElem?_eq_getElem (by omega)⟩
 obtain⟨b,o,ha,hc⟩:=SlC.get e2 (by omega)
 refine⟨b,o,t,ha,by omega,?_,e3 i t ht⟩
 rw [Int.toNat_natCast,Nat.mul_one]
 exact hc i _ (by simp [ht])
def cD (X:List (Nat×Blk)) (s:Sl) (sz:Nat) (cs:List Value):Prop:=
 cs.length=s.n*sz/\s.n<=s.c/\((X= []/\s=⟨none,0,0⟩/\cs= [])\/ ∃b,s.a=some ⟨b,0,none⟩/\X= [(b, .inl ⟨cs,s.c*sz,false⟩)])
theorem cE (sz:Nat):cD [] ⟨none,0,0⟩ sz []:=⟨by simp,Nat.le_refl _, .inl ⟨rfl,rfl,rfl⟩⟩
theorem cD.buf {X:List (Nat×Blk)} {h:Hp} {s:Sl} {sz:Nat} {cs:List Value} (o:cD X s sz cs) (m: ∀e∈X,h e.1=some e.2):Buf h s sz cs:=by
 refine⟨o.1,o.2.1,?_⟩
 rcases o.2.2 with ⟨_,rfl,_⟩|⟨b,ha,rfl⟩
 ·exact .inl ⟨rfl,rfl,rfl⟩
 ·exact .inr ⟨b,ha,m _ (.head _)⟩
theorem Kn.perm {g h:Hp} {L L':List (Nat×Blk)} (K:Kn g h L) (p:L.Perm L'):Kn g h L':=K.sub (fun e he=>p.mem_iff.2 he) ((p.map Prod.fst).nodup_iff.1 K.nd)
theorem Kn.grow {g h:Hp} {X L:List (Nat×Blk)} {s:Sl} {sz by_ m:Nat} {cs news:List Value} {src:Option Addr} {C:Option Addr->Nat->Nat->Hp->Prop}
  (K:Kn g h (X++L)) (o:cD X s sz cs) (hm:0<m) (hsz:(s.n+m)*by_<=140737488355328) (hsz':s.n+m<=9223372036854775807)
  (hs: ∃sb so,src=some ⟨sb,so,none⟩/\gO h sb so news) (hl:news.length=m*sz) (ho:news.all (·.oneCell')=true)
  (k: ∀s' X' h',s'.n=s.n+m->cD X' s' sz (cs++news)->Kn g h' (X'++L)->(h.offS s).le h'->C s'.a s'.n s'.c h'):ck h s.a s.n s.c src m sz by_ C:=by
 refine dp (o.buf fun e he=>K.mem e (List.mem_append_left _ he)) hm hsz hsz' hs hl ho fun s' h' hn B l _=>?_
 have nd:=K.nd
 rw [List.map_append,List.nodup_append]at nd
 have base:g.le (h.offS s)/\ ∀e∈L,(h.offS s) e.1=some e.2:=by
  rcases o.2.2 with ⟨_,rfl,_⟩|⟨b,ha,rfl⟩
  ·exact⟨K.le,fun e he=>K.mem e (List.mem_append_right _ he)⟩
  ·unfold Hp.offS
   rw [ha]
   refine⟨vu (K.new (b,_) (.head _)) K.le,fun e he=>?_⟩
   have hne:e.1≠b:=fun hb=>nd.2.2 b (by simp) e.1 (List.mem_map.2 ⟨e,he,rfl⟩) hb.symm
   simp only [Hp.off,Hp.set]
   rw [if_neg hne];exact K.mem e (List.mem_append_right _ he)
 rcases B.2.2 with ⟨_,h0,_⟩|⟨b,ha,hb⟩
 ·omega
 have hoff:(h'.offS s') b=none:=by simp [Hp.offS,ha,Hp.off,Hp.set]
 refine k s' [(b, .inl ⟨cs++news,s'.c*sz,false⟩)] h' hn ⟨B.1,B.2.1, .inr ⟨b,ha,rfl⟩⟩ ?_ (Hp.le_trans l (bk h' s'))
 have lo:=bk h' s'
 have hg:g b=none:=by
  cases hgb:g b with
  |none=>rfl
  |some x=>rw [l _ _ (base.1 _ _ hgb)]at hoff;cases hoff
 refine⟨Hp.le_trans base.1 (Hp.le_trans l lo),fun e he=>?_,fun e he=>?_,?_⟩
 ·rcases List.mem_cons.1 he with rfl|he
  ·exact hb
  ·exact lo _ _ (l _ _ (base.2 e he))
 ·rcases List.mem_cons.1 he with rfl|he
  ·exact hg
  ·exact K.new e (List.mem_append_right _ he)
 ·show (b::L.map Prod.fst).Nodup
  rw [List.nodup_cons]
  refine⟨fun hm=>?_,nd.2.1⟩
  obtain⟨e,he,heb⟩:=List.mem_map.1 hm
  have:=l _ _ (base.2 e he)
  rw [heb,hoff]at this;cases this
theorem Kn.growIn {g h:Hp} {A X L:List (Nat×Blk)} {s:Sl} {sz by_ m:Nat} {cs news:List Value} {src:Option Addr} {C:Option Addr->Nat->Nat->Hp->Prop}
  (K:Kn g h (A++(X++L))) (o:cD X s sz cs) (hm:0<m) (hsz:(s.n+m)*by_<=140737488355328) (hsz':s.n+m<=9223372036854775807)
  (hs: ∃sb so,src=some ⟨sb,so,none⟩/\gO h sb so news) (hl:news.length=m*sz) (ho:news.all (·.oneCell')=true)
  (k: ∀s' X' h',s'.n=s.n+m->cD X' s' sz (cs++news)->Kn g h' (A++(X'++L))->(h.offS s).le h'->C s'.a s'.n s'.c h'):ck h s.a s.n s.c src m sz by_ C:=by
 have sw: ∀Y:List (Nat×Blk),(A++(Y++L)).Perm (Y++(A++L)):=fun Y=>by
  rw [<-List.append_assoc,<-List.append_assoc]
  exact List.perm_append_comm.append_right L
 exact Kn.grow (K.perm (sw X)) o hm hsz hsz' hs hl ho fun s' X' h' hn o' K' l=>k s' X' h' hn o' (K'.perm (sw X').symm) l
theorem Kn.growIn2 {g h:Hp} {A Y X L:List (Nat×Blk)} {s:Sl} {sz by_ m:Nat} {cs news:List Value} {src:Option Addr} {C:Option Addr->Nat->Nat->Hp->Prop}
  (K:Kn g h (A++(Y++(X++L)))) (o:cD X s sz cs) (hm:0<m) (hsz:(s.n+m)*by_<=140737488355328) (hsz':s.n+m<=9223372036854775807)
  (hs: ∃sb so,src=some ⟨sb,so,none⟩/\gO h sb so news) (hl:news.length=m*sz) (ho:news.all (·.oneCell')=true)
  (k: ∀s' X' h',s'.n=s.n+m->cD X' s' sz (cs++news)->Kn g h' (A++(Y++(X'++L)))->(h.offS s).le h'->C s'.a s'.n s'.c h'):ck h s.a s.n s.c src m sz by_ C:=by
 have sw: ∀Z:List (Nat×Blk),(A++(Y++(Z++L))).Perm (A++(Z++(Y++L))):=fun Z=>by
  refine List.Perm.append_left A ?_
  rw [<-List.append_assoc,<-List.append_assoc]
  exact List.perm_append_comm.append_right L
 exact Kn.growIn (K.perm (sw X)) o hm hsz hsz' hs hl ho fun s' X' h' hn o' K' l=>k s' X' h' hn o' (K'.perm (sw X').symm) l
theorem Kn.growIn3 {g h:Hp} {A Y Z X L:List (Nat×Blk)} {s:Sl} {sz by_ m:Nat} {cs news:List Value} {src:Option Addr} {C:Option Addr->Nat->Nat->Hp->Prop}
  (K:Kn g h (A++(Y++(Z++(X++L))))) (o:cD X s sz cs) (hm:0<m) (hsz:(s.n+m)*by_<=140737488355328) (hsz':s.n+m<=9223372036854775807)
  (hs: ∃sb so,src=some ⟨sb,so,none⟩/\gO h sb so news) (hl:news.length=m*sz) (ho:news.all (·.oneCell')=true)
  (k: ∀s' X' h',s'.n=s.n+m->cD X' s' sz (cs++news)->Kn g h' (A++(Y++(Z++(X'++L))))->(h.offS s).le h'->C s'.a s'.n s'.c h'):ck h s.a s.n s.c src m sz by_ C:=by
 have sw: ∀W:List (Nat×Blk),(A++(Y++(Z++(W++L)))).Perm (A++((Y++Z)++(W++L))):=fun W=>by rw [<-List.append_assoc Y Z]
 exact Kn.growIn2 (K.perm (sw X)) o hm hsz hsz' hs hl ho fun s' X' h' hn o' K' l=>k s' X' h' hn o' (K'.perm (sw X').symm) l
theorem cD.slc {X A L:List (Nat×Blk)} {g h:Hp} {s:Sl} {sz:Nat} {cs:List Value} (o:cD X s sz cs) (K:Kn g h (A++(X++L))) (hn:s.n<=9223372036854775807):SlC h s sz cs:=
 (o.buf fun e he=>K.mem e (List.mem_append_right _ (List.mem_append_left _ he))).slc_of hn
structure AN where
 hs:Sl
 es:Sl
 ns:Sl
 fs:Sl
 bs:Sl
def zw (h:Hp) (q:AN) (σ:aC):Prop:=cX h q.hs (2^(σ.n+σ.k)) σ.hold/\cX h q.es (2^(σ.n+σ.k)) σ.ends/\Bk h q.ns (2^(σ.n+σ.k)) σ.next/\
 (∃fm,fm+σ.fixed=2^σ.n-1/\IntS h q.fs (VL (eu fm)))/\cX h q.bs (2^σ.n) σ.begins
theorem zw.mono {h h':Hp} {q:AN} {σ:aC} (l:h.le h') (e:zw h q σ):zw h' q σ:=by
 obtain⟨a,b,c,⟨fm,d1,d2⟩,f⟩:=e
 exact⟨a.mono l,b.mono l,c.mono l,⟨fm,d1,d2.mono l⟩,f.mono l⟩
theorem cX.wo {g h h':Hp} {L:List (Nat×Blk)} {t:Sl} {n:Nat} {T:Nat->Bool} (K:Kn g h L) (e:cX (h'.sub h) t n T):cX (h'.wo (L.map Prod.fst)) t n T:=
 cX.mono (rF (sub_le _ _) fun b hb=>by
  cases hx:h b with
  |none=>exact absurd hx (K.has b hb)
  |some x=>exact lR hx) e
theorem cD.toOwn {g h:Hp} {A X L:List (Nat×Blk)} {s:Sl} {sz:Nat} {cs:List Value} (o:cD X s sz cs) (hn:s.n<=9223372036854775807) (K:Kn g h (A++(X++L))): ∃X',pa X' s sz cs/\Kn g h (A++(X'++L)):=by
 by_cases h0:s.n=0
 ·refine⟨[],⟨o.1,hn, .inl ⟨h0,rfl⟩⟩,K.sub (fun e he=>?_) ?_⟩
  ·rcases List.mem_append.1 he with he|he
   ·exact List.mem_append_left _ he
   ·exact List.mem_append_right _ (List.mem_append_right _ he)
  ·have nd:=K.nd
   rw [List.map_append,List.map_append]at nd
   rw [List.nil_append,List.map_append]
   exact nd.sublist (List.Sublist.append_left (List.sublist_append_right _ _) _)
 ·rcases o.2.2 with ⟨_,rfl,_⟩|⟨b,ha,rfl⟩
  ·exact absurd rfl h0
  ·exact⟨_,⟨o.1,hn, .inr ⟨h0,b,_,ha,rfl⟩⟩,K⟩
def TrX (h h':Hp) (sS sI:Sl) (l:List (Nat×Nat)):Prop:=
 ∃XS XI,pa XS sS 1 ((VL (l.map Prod.fst)).map I)/\pa XI sI 1 ((VL (l.map Prod.snd)).map I)/\Kn h h' (XS++XI)
theorem cD.at {X:List (Nat×Blk)} {h:Hp} {s t:Sl} {ts:List Sl} {i:Nat} (o:cD X s 1 (ts.map Sl.v)) (m: ∀e∈X,h e.1=some e.2) (hi:ts[i]?=some t):
  ∃b x,s.a=some ⟨b,0,none⟩/\h b=some x/\Hp.cell h b (0+i*1)=some t.v:=by
 have hlt:=get_lt hi
 rcases o.2.2 with ⟨_,_,h0⟩|⟨b,ha,rfl⟩
 ·have:ts.length=0:=by have:=congrArg List.length h0;simpa using this
  omega
 ·have hb:=m _ (.head _)
  refine⟨b,_,ha,hb,?_⟩
  rw [aq hb,Nat.zero_add,Nat.mul_one,List.getElem?_map,hi];rfl
def TrG (h h':Hp) (sS sI:Sl) (l:List (Nat×Nat)):Prop:=
 ∃XS XI,cD XS sS 1 ((VL (l.map Prod.fst)).map I)/\cD XI sI 1 ((VL (l.map Prod.snd)).map I)/\Kn h h' (XS++(XI++ []))
theorem UV {h g h1 h5:Hp} {b6 b73:Nat} {y:Blk} {sS sI:Sl} {XS XI:List (Nat×Blk)} {pre:List (Nat×Nat)} (lg:h.le g) (h6:g b6≠none) (oS:cD XS sS 1 ((VL (pre.map Prod.fst)).map I)) (oI:cD XI sI 1 ((VL (pre.map Prod.snd)).map I))
  (K:Kn g h1 ((b73,y)::(XS++(XI++ [])))) (l5:h.le h5) (kp: ∀c,c≠b6->h5 c=h1 c):TrG h h5 sS sI pre:=by
 refine⟨XS,XI,oS,oI,l5,fun e he=>?_,fun e he=>aF lg (K.new e (.tail _ he)),?_⟩
 ·have hne:e.1≠b6:=by
   intro e6
   have h1:=K.new e (.tail _ he)
   rw [e6]at h1;exact h6 h1
  rw [kp _ hne];exact K.mem e (.tail _ he)
 ·have nd:=K.nd
  rw [List.map_cons,List.nodup_cons]at nd
  exact nd.2
theorem TrG.nil {h h':Hp} (l:h.le h'):TrG h h' ⟨none,0,0⟩ ⟨none,0,0⟩ []:=⟨[], [],cE 1,cE 1,Kn.of l⟩
theorem TrG.up {h g h1 h5:Hp} {b6:Nat} {sS sI:Sl} {l:List (Nat×Nat)} (t:TrG g h1 sS sI l) (lg:h.le g) (h6:g b6≠none) (l5:h.le h5) (kp: ∀c,c≠b6->h5 c=h1 c):TrG h h5 sS sI l:=by
 obtain⟨XS,XI,oS,oI,K⟩:=t
 refine⟨XS,XI,oS,oI,l5,fun e he=>?_,fun e he=>aF lg (K.new e he),K.nd⟩
 have hne:e.1≠b6:=by
  intro e6
  have h1:=K.new e he
  rw [e6]at h1;exact h6 h1
 rw [kp _ hne];exact K.mem e he
theorem TrG.tr {h h':Hp} {sS sI:Sl} {l:List (Nat×Nat)} (t:TrG h h' sS sI l) (hl:l.length<=1000000):TrX h h' sS sI l:=by
 obtain⟨XS,XI,oS,oI,K⟩:=t
 have h1:=oS.1
 have h2:=oI.1
 simp only [List.length_map,bz,Nat.mul_one]at h1 h2
 obtain⟨XS',oS',K6⟩:=oS.toOwn (by omega) (A:= []) (L:=XI++ []) K
 obtain⟨XI',oI',K7⟩:=oI.toOwn (by omega) (A:=XS') (L:= []) K6
 rw [List.append_nil]at K7
 exact⟨XS',XI',oS',oI',K7⟩
abbrev Gy (sS sI:Sl) (b:Bool):Value:= .tuple #[.agg #[sS.v,sI.v], .bool b]
theorem TrX.nil {h h':Hp} (l:h.le h'):TrX h h' ⟨none,0,0⟩ ⟨none,0,0⟩ []:=⟨[], [],⟨rfl,by simp, .inl ⟨rfl,rfl⟩⟩,⟨rfl,by simp, .inl ⟨rfl,rfl⟩⟩,Kn.of l⟩
theorem TrX.up {h g h1 h5:Hp} {b6:Nat} {sS sI:Sl} {l:List (Nat×Nat)} (t:TrX g h1 sS sI l) (lg:h.le g) (h6:g b6≠none) (l5:h.le h5) (kp: ∀c,c≠b6->h5 c=h1 c):TrX h h5 sS sI l:=by
 obtain⟨XS,XI,oS,oI,K⟩:=t
 refine⟨XS,XI,oS,oI,l5,fun e he=>?_,fun e he=>aF lg (K.new e he),K.nd⟩
 have hne:e.1≠b6:=by
  intro e6
  have h1:=K.new e he
  rw [e6]at h1;exact h6 h1
 rw [kp _ hne];exact K.mem e he
theorem TrX.mono {h h1 h2:Hp} {sS sI:Sl} {l:List (Nat×Nat)} (t:TrX h h1 sS sI l) (l12:h1.le h2):TrX h h2 sS sI l:=by
 obtain⟨XS,XI,oS,oI,K⟩:=t
 exact⟨XS,XI,oS,oI,K.mono l12⟩
theorem pa.slcOf {X:List (Nat×Blk)} {h:Hp} {s:Sl} {sz:Nat} {cs:List Value} (o:pa X s sz cs) (m: ∀e∈X,h e.1=some e.2):SlC h s sz cs:=by
 refine⟨o.2.1,o.1,?_⟩
 rcases o.2.2 with ⟨h0,_⟩|⟨_,b,z,ha,rfl⟩
 ·exact .inl h0
 ·exact .inr ⟨b,0,ha,ay (m _ (.head _))⟩
theorem TrX.ints {h h1:Hp} {sS sI:Sl} {l:List (Nat×Nat)} (t:TrX h h1 sS sI l):IntS h1 sS (VL (l.map Prod.fst))/\IntS h1 sI (VL (l.map Prod.snd)):=by
 obtain⟨XS,XI,oS,oI,K⟩:=t
 exact⟨oS.slcOf fun e he=>K.mem e (List.mem_append_left _ he),oI.slcOf fun e he=>K.mem e (List.mem_append_right _ he)⟩
theorem vH {h g:Hp} {sS sI:Sl} {l:List (Nat×Nat)} {R:Value->Hp->Prop} (t:TrX g h sS sI l) (hl:l.length<=1048576)
  (k: ∀sS sI h',TrX h h' sS sI l->sS.n<=sS.c->R (.agg #[Sl.v sS,Sl.v sI]) h'):gX #[.agg #[sS.v,sI.v]] h R:=by
 apply zq
 refine uf_ ?_
 obtain⟨iS,iI⟩:=t.ints
 have K0:=Kn.nil h
 (with_reducible apply Kn.al);(assumption);(intro b4 h1 K1 l1 hb4)
 (with_reducible apply Kn.al);(assumption);(intro b6 h2 K2 l2 hb6)
 repeat' (refine kr_ ?_)
 refine ny (iS.mono K2.le) (by simp [VL];omega) fun tS h3 l3 bS=>⟨_,rfl,?_⟩
 have K3:=K2.mono l3
 repeat' (refine kr_ ?_)
 refine ny (iI.mono K3.le) (by simp [VL];omega) fun tI h4 l4 bI=>⟨_,rfl,?_⟩
 have K4:=K3.mono l4
 (((with_reducible apply Kn.wr);(assumption);((focus ((repeat first|exact .head|apply Upd.tail);done)))))
 ·exact Nat.le_refl _
 intro h5 K5 kp
 refine⟨tS,by rw [aq (K5.at (.head _))];rfl,tI,by rw [aq (K5.at (.head _))];rfl,?_⟩
 have nS:tS.n<=1048576:=by have:=bS.1;simp [VL]at this;omega
 have nI:tI.n<=1048576:=by have:=bI.1;simp [VL]at this;omega
 obtain⟨XS,oS,KS⟩:=(Kn.nil h2).addOwn l3 (bS.own (by omega))
 obtain⟨XI,oI,KI⟩:=KS.addOwn l4 (bI.own (by omega))
 rw [List.nil_append]at KI
 exact k tS tI h5 (TrX.up ⟨XS,XI,oS,oI,KI⟩ K2.le (by rw [K2.at (.head _)];simp) K5.le kp) bS.2.1
theorem TrX.le {h h':Hp} {sS sI:Sl} {l:List (Nat×Nat)} (t:TrX h h' sS sI l):h.le h':=by obtain⟨_,_,_,_,K⟩:=t;exact K.le
theorem TrX.add {g h h':Hp} {L:List (Nat×Blk)} {sS sI:Sl} {l:List (Nat×Nat)} (t:TrX h h' sS sI l) (K:Kn g h L):
  ∃XS XI,pa XS sS 1 ((VL (l.map Prod.fst)).map I)/\pa XI sI 1 ((VL (l.map Prod.snd)).map I)/\Kn g h' (L++(XS++XI)):=by
 obtain⟨XS,XI,oS,oI,K'⟩:=t
 exact⟨XS,XI,oS,oI,K.app K'.le K'.new K'.mem K'.nd⟩
section
variable {g h:Hp} {L XS XI:List (Nat×Blk)} {sS sI tS tI:Sl} {xs ys:List Int} {cS cI:List Value} {k0:Int} {R:Value->Hp->Prop}
end
structure Cq where
 kind:Int
 depth:Int
 tr:List (Nat×Nat)
 bd:Bd
def VrX (h h':Hp) (sS sI sN:Sl) (p:Cq):Prop:=
 ∃XS XI XN,pa XS sS 1 ((VL (p.tr.map Prod.fst)).map I)/\pa XI sI 1 ((VL (p.tr.map Prod.snd)).map I)/\pa XN sN 3 (bJ p.bd.ns)/\Kn h h' (XS++(XI++XN))
theorem VrX.up {h g h1 h5:Hp} {b6:Nat} {sS sI sN:Sl} {p:Cq} (t:VrX g h1 sS sI sN p) (lg:h.le g) (h6:g b6≠none) (l5:h.le h5) (kp: ∀c,c≠b6->h5 c=h1 c):VrX h h5 sS sI sN p:=by
 obtain⟨XS,XI,XN,oS,oI,oN,K⟩:=t
 refine⟨XS,XI,XN,oS,oI,oN,l5,fun e he=>?_,fun e he=>aF lg (K.new e he),K.nd⟩
 have hne:e.1≠b6:=by
  intro e6
  have h1:=K.new e he
  rw [e6]at h1;exact h6 h1
 rw [kp _ hne];exact K.mem e he
theorem VrX.mono {h h1 h2:Hp} {sS sI sN:Sl} {p:Cq} (t:VrX h h1 sS sI sN p) (l12:h1.le h2):VrX h h2 sS sI sN p:=by
 obtain⟨XS,XI,XN,oS,oI,oN,K⟩:=t
 exact⟨XS,XI,XN,oS,oI,oN,K.mono l12⟩
theorem VrX.le {h h':Hp} {sS sI sN:Sl} {p:Cq} (t:VrX h h' sS sI sN p):h.le h':=by obtain⟨_,_,_,_,_,_,K⟩:=t;exact K.le
theorem FI (sz:Nat):pa [] ⟨none,0,0⟩ sz []:=⟨by simp,by simp, .inl ⟨rfl,rfl⟩⟩
theorem VrX.ofTr {h h':Hp} {sS sI:Sl} {l:List (Nat×Nat)} {k d:Int} (t:TrX h h' sS sI l):VrX h h' sS sI ⟨none,0,0⟩ ⟨k,d,l,iW⟩:=by
 obtain⟨XS,XI,oS,oI,K⟩:=t
 exact⟨XS,XI, [],oS,oI,FI 3,by rw [List.append_nil];exact K⟩
theorem VrX.nil {h h':Hp} {k d:Int} (l:h.le h'):VrX h h' ⟨none,0,0⟩ ⟨none,0,0⟩ ⟨none,0,0⟩ ⟨k,d, [],iW⟩:=VrX.ofTr (TrX.nil l)
theorem VrX.add {g h h':Hp} {L:List (Nat×Blk)} {sS sI sN:Sl} {p:Cq} (t:VrX h h' sS sI sN p) (K:Kn g h L):
  ∃XS XI XN,pa XS sS 1 ((VL (p.tr.map Prod.fst)).map I)/\pa XI sI 1 ((VL (p.tr.map Prod.snd)).map I)/\pa XN sN 3 (bJ p.bd.ns)/\Kn g h' (L++(XS++(XI++XN))):=by
 obtain⟨XS,XI,XN,oS,oI,oN,K'⟩:=t
 exact⟨XS,XI,XN,oS,oI,oN,K.app K'.le K'.new K'.mem K'.nd⟩
def VrS (h:Hp) (sS sI sN:Sl) (p:Cq):Prop:=IntS h sS (VL (p.tr.map Prod.fst))/\IntS h sI (VL (p.tr.map Prod.snd))/\SlC h sN 3 (bJ p.bd.ns)
theorem VrS.mono {h h':Hp} {sS sI sN:Sl} {p:Cq} (l:h.le h') (t:VrS h sS sI sN p):VrS h' sS sI sN p:=⟨t.1.mono l,t.2.1.mono l,t.2.2.mono l⟩
abbrev rdC (s:Sl) (p:Nat):Blk:= .inl ⟨[s.v,I p],2,false⟩
theorem O3 {g h:Hp} {L L':List (Nat×Blk)} {B p:Nat} {s:Sl} {bs:List Nat} {n:Int} {R:Value->Hp->Prop} (K:Kn g h L) (hb:ByteS g s bs) (u:Upd L B (rdC s p) (rdC s (p+1)) L') (hp:p<=1000000) (hn:n<=1000000000)
  (k: ∀(x:Nat) h',Kn g h' L'->(1<=n->(x:Int)<n)->(n<1->x=0)->R (I x) h'):ah #[.pointer (some ⟨B,0,none⟩),I n] h R:=
 CI ⟨K.at u.mem,hb.mono (vu (K.new (B,_) u.mem) K.le)⟩ (by omega) hn fun x h1 h2=>k x _ (K.set u) h1 h2
theorem kp_ {P Q:Prop} (k:Q) (h:Q->P:=by((with_reducible apply O3);(assumption);(assumption);(((focus ((repeat first|exact .head|apply Upd.tail);done))));(omega);(omega))):P:=h k
def MG (X:List (Nat×Blk)) (M:MSl) (m:ai):Prop:=
 ∃XN XI XE XB XH,X=XN++(XI++(XE++(XB++(XH++ []))))/\cD XN M.no 9 (m.nodes.flatMap nodeCells)/\cD XI M.ini 2 (m.inits.flatMap bindCells)/\cD XE M.nex 2 (m.nexts.flatMap bindCells)/\
  cD XB M.bad 1 (m.bads.map I)/\cD XH M.hol 1 (m.holds.map I)
abbrev noM :MSl:=⟨⟨none,0,0⟩,⟨none,0,0⟩,⟨none,0,0⟩,⟨none,0,0⟩,⟨none,0,0⟩⟩
abbrev noP :ai:=⟨[], [], [], [], []⟩
theorem MG.nil :MG [] noM noP:=⟨[], [], [], [], [],rfl,cE 9,cE 2,cE 2,cE 1,cE 1⟩
section
variable {g h:Hp} {A X:List (Nat×Blk)} {M:MSl} {m:ai}
theorem cD.slcOf {X:List (Nat×Blk)} {s:Sl} {sz:Nat} {cs:List Value} (o:cD X s sz cs) (hn:s.n<=9223372036854775807) (m: ∀e∈X,h e.1=some e.2):SlC h s sz cs:=(o.buf m).slc_of hn
theorem MG.lens (o:MG X M m):M.no.n=m.nodes.length/\M.ini.n=m.inits.length/\M.nex.n=m.nexts.length/\M.bad.n=m.bads.length/\M.hol.n=m.holds.length/\M.no.n<=M.no.c:=by
 obtain⟨XN,XI,XE,XB,XH,_,a,b,c,d,e⟩:=o
 have h1:=a.1;have h2:=b.1;have h3:=c.1;have h4:=d.1;have h5:=e.1;have h6:=a.2.1
 rw [iJ (m:=9) (fun _=>rfl)]at h1
 rw [iJ (m:=2) (fun _=>rfl)]at h2 h3
 rw [List.length_map]at h4 h5
 omega
theorem MG.blk (o:MG X M m) (hn:0<m.nodes.length): ∃b x,M.no.a=some ⟨b,0,none⟩/\(b,x)∈X:=by
 have hl:=o.lens
 obtain⟨XN,XI,XE,XB,XH,rfl,a,_⟩:=o
 rcases a.2.2 with ⟨_,h0,_⟩|⟨b,ha,rfl⟩
 ·rw [h0]at hl;have:=hl.1;dsimp only at this;omega
 ·exact⟨b,_,ha,List.mem_append_left _ (.head _)⟩
theorem MG.modelS (o:MG X M m) (hm:bW m) (K:Kn g h (A++X)):aN h M m:=by
 have hl:=o.lens
 have hm':=hm.nodes;have h2:=hm.inits;have h3:=hm.nexts;have h4:=hm.bads;have h5:=hm.holds
 obtain⟨XN,XI,XE,XB,XH,rfl,a,b,c,d,e⟩:=o
 have mem: ∀x∈XN++(XI++(XE++(XB++(XH++ [])))),h x.1=some x.2:=fun x hx=>K.mem x (List.mem_append_right _ hx)
 refine⟨a.slcOf (by omega) fun x hx=>mem x (by simp [hx]),b.slcOf (by omega) fun x hx=>mem x (by simp [hx]),c.slcOf (by omega) fun x hx=>mem x (by simp [hx]),
  d.slcOf (by omega) fun x hx=>mem x (by simp [hx]),e.slcOf (by omega) fun x hx=>mem x (by simp [hx]),hl.2.2.2.2.2⟩
theorem MG.appN {b:Nat} {n:NodeP} {C:Option Addr->Nat->Nat->Hp->Prop} (o:MG X M m) (K:Kn g h (A++X)) (hm:m.nodes.length<=100000) (f:h b=some (.inl ⟨nodeCells n,9,false⟩))
  (k: ∀s' X' h',MG X' {M with no:=s'} {m with nodes:=m.nodes++ [n]}->Kn g h' (A++X')->C s'.a s'.n s'.c h'):ck h M.no.a M.no.n M.no.c (some ⟨b,0,none⟩) 1 9 80 C:=by
 have hl:=o.lens
 obtain⟨XN,XI,XE,XB,XH,rfl,a,b',c,d,e⟩:=o
 refine Kn.growIn K a (by omega) (by omega) (by omega) ⟨b,0,rfl,ay f⟩ rfl rfl fun s' X' h' hn a' K' _=>?_
 exact k s' _ h' ⟨X',XI,XE,XB,XH,rfl,by rw [List.flatMap_append];exact a',b',c,d,e⟩ K'
theorem MG.appI {b:Nat} {n:BindP} {C:Option Addr->Nat->Nat->Hp->Prop} (o:MG X M m) (K:Kn g h (A++X)) (hm:m.inits.length<=100000) (f:h b=some (.inl ⟨bindCells n,2,false⟩))
  (k: ∀s' X' h',MG X' {M with ini:=s'} {m with inits:=m.inits++ [n]}->Kn g h' (A++X')->C s'.a s'.n s'.c h'):ck h M.ini.a M.ini.n M.ini.c (some ⟨b,0,none⟩) 1 2 16 C:=by
 have hl:=o.lens
 obtain⟨XN,XI,XE,XB,XH,rfl,a,b',c,d,e⟩:=o
 refine Kn.growIn2 K b' (by omega) (by omega) (by omega) ⟨b,0,rfl,ay f⟩ rfl rfl fun s' X' h' hn a' K' _=>?_
 exact k s' _ h' ⟨XN,X',XE,XB,XH,rfl,a,by rw [List.flatMap_append];exact a',c,d,e⟩ K'
theorem MG.appE {b:Nat} {n:BindP} {C:Option Addr->Nat->Nat->Hp->Prop} (o:MG X M m) (K:Kn g h (A++X)) (hm:m.nexts.length<=100000) (f:h b=some (.inl ⟨bindCells n,2,false⟩))
  (k: ∀s' X' h',MG X' {M with nex:=s'} {m with nexts:=m.nexts++ [n]}->Kn g h' (A++X')->C s'.a s'.n s'.c h'):ck h M.nex.a M.nex.n M.nex.c (some ⟨b,0,none⟩) 1 2 16 C:=by
 have hl:=o.lens
 obtain⟨XN,XI,XE,XB,XH,rfl,a,b',c,d,e⟩:=o
 refine Kn.growIn3 K c (by omega) (by omega) (by omega) ⟨b,0,rfl,ay f⟩ rfl rfl fun s' X' h' hn a' K' _=>?_
 exact k s' _ h' ⟨XN,XI,X',XB,XH,rfl,a,b',by rw [List.flatMap_append];exact a',d,e⟩ K'
theorem MG.appB {b:Nat} {n:Int} {C:Option Addr->Nat->Nat->Hp->Prop} (o:MG X M m) (K:Kn g h (A++X)) (hm:m.bads.length<=100000) (f:h b=some (.inl ⟨[I n],1,false⟩))
  (k: ∀s' X' h',MG X' {M with bad:=s'} {m with bads:=m.bads++ [n]}->Kn g h' (A++X')->C s'.a s'.n s'.c h'):ck h M.bad.a M.bad.n M.bad.c (some ⟨b,0,none⟩) 1 1 8 C:=by
 have hl:=o.lens
 obtain⟨XN,XI,XE,XB,XH,rfl,a,b',c,d,e⟩:=o
 have sw: ∀Z:List (Nat×Blk),A++(XN++(XI++(XE++(Z++(XH++ [])))))=(A++(XN++XI))++(XE++(Z++(XH++ []))):=fun Z=>by simp
 rw [sw]at K
 refine Kn.growIn2 K d (by omega) (by omega) (by omega) ⟨b,0,rfl,ay f⟩ rfl rfl fun s' X' h' hn a' K' _=>?_
 rw [<-sw]at K'
 exact k s' _ h' ⟨XN,XI,XE,X',XH,rfl,a,b',c,by rw [List.map_append];exact a',e⟩ K'
theorem MG.appH {b:Nat} {n:Int} {C:Option Addr->Nat->Nat->Hp->Prop} (o:MG X M m) (K:Kn g h (A++X)) (hm:m.holds.length<=100000) (f:h b=some (.inl ⟨[I n],1,false⟩))
  (k: ∀s' X' h',MG X' {M with hol:=s'} {m with holds:=m.holds++ [n]}->Kn g h' (A++X')->C s'.a s'.n s'.c h'):ck h M.hol.a M.hol.n M.hol.c (some ⟨b,0,none⟩) 1 1 8 C:=by
 have hl:=o.lens
 obtain⟨XN,XI,XE,XB,XH,rfl,a,b',c,d,e⟩:=o
 have sw: ∀Z:List (Nat×Blk),A++(XN++(XI++(XE++(XB++(Z++ [])))))=(A++(XN++XI))++(XE++(XB++(Z++ []))):=fun Z=>by simp
 rw [sw]at K
 refine Kn.growIn3 K e (by omega) (by omega) (by omega) ⟨b,0,rfl,ay f⟩ rfl rfl fun s' X' h' hn a' K' _=>?_
 rw [<-sw]at K'
 exact k s' _ h' ⟨XN,XI,XE,XB,X',rfl,a,b',c,d,by rw [List.map_append];exact a'⟩ K'
end
structure DM (m:ai) (N:Nat):Prop where
 nodes:m.nodes.length<=N
 sorts: ∀n∈m.nodes,bQ n.sort=true
 names: ∀n∈m.nodes,n.name.size<=100
 inits:m.inits.length<=N
 nexts:m.nexts.length<=N
 bads:m.bads.length<=N
 holds:m.holds.length<=N
theorem DM.small {m:ai} {N:Nat} (d:DM m N) (hN:N<=100000):bW m:=
 ⟨by have:=d.nodes;omega,by have:=d.inits;omega,by have:=d.nexts;omega,by have:=d.bads;omega,by have:=d.holds;omega,fun n hn=>by have:=d.names n hn;omega⟩
theorem DM.more {m:ai} {N N':Nat} (d:DM m N) (h:N<=N'):DM m N':=
 ⟨Nat.le_trans d.nodes h,d.sorts,d.names,Nat.le_trans d.inits h,Nat.le_trans d.nexts h,Nat.le_trans d.bads h,Nat.le_trans d.holds h⟩
theorem DM.addN {m:ai} {N:Nat} (d:DM m N) {n:NodeP} (h1:bQ n.sort=true) (h2:n.name.size<=100):DM {m with nodes:=m.nodes++ [n]} (N+1):=
 ⟨by have:=d.nodes;simp;omega,fun x hx=>by rcases List.mem_append.1 hx with hx|hx;exact d.sorts x hx;rw [List.mem_singleton.1 hx];exact h1,
  fun x hx=>by rcases List.mem_append.1 hx with hx|hx;exact d.names x hx;rw [List.mem_singleton.1 hx];exact h2,
  by have:=d.inits;dsimp only;omega,by have:=d.nexts;dsimp only;omega,by have:=d.bads;dsimp only;omega,by have:=d.holds;dsimp only;omega⟩
theorem Kn.tl {g h:Hp} {L:List (Nat×Blk)} {e:Nat×Blk} (K:Kn g h (e::L)):Kn g h L:=K.sub (fun x hx=> .tail _ hx) (by have:=K.nd;rw [List.map_cons,List.nodup_cons]at this;exact this.2)
theorem Kn.sw {g h:Hp} {L:List (Nat×Blk)} {a b:Nat×Blk} (K:Kn g h (a::b::L)):Kn g h (b::a::L):=K.perm (List.Perm.swap ..)
theorem ra {m:ai} {N:Nat} (d:DM m N) {i:Nat} {n:NodeP} (h:m.nodes[i]?=some n):bQ n.sort=true:=d.sorts n (List.mem_of_getElem? h)
theorem kL {s:SortP} (h:bQ s=true):(0<=s.idx/\s.idx<=2)/\1<=s.wid/\s.wid<=16:=of_decide_eq_true h
theorem nE {w:Int} (h1:1<=w) (h2:w<=16):bQ (cy w)=true:=decide_eq_true ⟨by simp [cy],h1,h2⟩
theorem Upd.mem2 {L L':List (Nat×Blk)} {b:Nat} {x y:Blk} (u:Upd L b x y L'):(b,y)∈L':=by
 induction u with
 |head=>exact .head _
 |tail _ ih=>exact .tail _ ih
section
variable {g h:Hp} {L L':List (Nat×Blk)} {b:Nat} {M M':MSl}
abbrev da :List Value:= [.slice none 0 0, .slice none 0 0, .slice none 0 0, .slice none 0 0, .slice none 0 0]
theorem jB {cs:List Value} {Q:Hp->Prop} (K:Kn g h L) (u:Upd L b (.inl ⟨cs,5,false⟩) (.inl ⟨aw M',5,false⟩) L') (hl:cs.length=5) (k: ∀h',Kn g h' L'->Q h'):
  ∃(cs:List Value) (z:Nat),h b=some (.inl ⟨cs,z,false⟩)/\0+5<=List.length cs/\cu (h.row b (cv cs 0 (aw M')) z) fun h'=>Q h':=by
 have e:cv cs 0 (aw M')=aw M':=by
  match cs,hl with
  | [_,_,_,_,_],_=>rfl
 exact Kn.wr (cs:=cs) (z:=5) (o:=0) (vs:=aw M') K (L':=L') (by rw [e];exact u) (by omega) fun h' K' _=>k h' K'
theorem CB {Q:Sl->Sl->Sl->Sl->Sl->Hp->Prop} (K:Kn g h L) (u:Upd L b (.inl ⟨da,5,false⟩) (.inl ⟨aw M,5,false⟩) L') (k: ∀h',Kn g h' L'->Q M.no M.ini M.nex M.bad M.hol h'):
  ∃(cs:List Value) (z:Nat),h b=some (.inl ⟨cs,z,false⟩)/\0+5<=List.length cs/\cu (h.row b (cv cs 0 (aw M)) z) fun h'=> ∃s1:Sl,Hp.cell h' b 0=some s1.v/\ ∃s2:Sl,Hp.cell h' b 1=some s2.v/\
   ∃s3:Sl,Hp.cell h' b 2=some s3.v/\ ∃s4:Sl,Hp.cell h' b 3=some s4.v/\ ∃s5:Sl,Hp.cell h' b 4=some s5.v/\Q s1 s2 s3 s4 s5 h':=by
 refine jB K u rfl fun h' K'=>?_
 have hm:=u.mem2
 have c:=fun o=>aq (K'.at hm) o
 exact⟨_,c 0,_,c 1,_,c 2,_,c 3,_,c 4,k h' K'⟩
end
theorem zg {α:Type} (a b c d e:α) (L:List α):(a::b::c::d::e::L).Perm (e::a::b::c::d::L):=by
 refine((List.Perm.cons a ((List.Perm.cons b ((List.Perm.cons c (List.Perm.swap e d L)).trans (List.Perm.swap e c _))).trans (List.Perm.swap e b _))).trans (List.Perm.swap e a _))
theorem Upd.app {L L' X:List (Nat×Blk)} {b:Nat} {x y:Blk} (u:Upd L b x y L'):Upd (L++X) b x y (L'++X):=by
 induction u with
 |head=>exact .head
 |tail _ ih=>exact .tail ih
theorem kX {g h:Hp} {H X:List (Nat×Blk)} {b bn:Nat} {M:MSl} {m:ai} {nd:NodeP} {J:Hp->Prop} (o:MG X M m) (K:Kn g h ((bn, .inl ⟨nodeCells nd,9,false⟩)::(H++X))) (hm:m.nodes.length<=10000) (hb:(b, .inl ⟨aw M,5,false⟩)∈H)
  (k: ∀s' X' h',MG X' {M with no:=s'} {m with nodes:=m.nodes++ [nd]}->(∀H',Upd H b (.inl ⟨aw M,5,false⟩) (.inl ⟨aw {M with no:=s'},5,false⟩) H'->Kn g h' (H'++X'))->J h'):
  ck h M.no.a M.no.n M.no.c (some ⟨bn,0,none⟩) 1 9 80 fun a n c h95=> ∃(cs:List Value) (z:Nat),h95 b=some (.inl ⟨cs,z,false⟩)/\0+1<=List.length cs/\cu (h95.row b (cv cs 0 [.slice a n c]) z) fun h'=>J h':=by
 refine MG.appN (A:=_::H) (n:=nd) o K (by omega) (K.at (.head _)) fun s' X' h7 o' K7=>?_
 rw [List.cons_append]at K7
 have f:=K7.at (.tail _ (List.mem_append_left _ hb))
 exact⟨_,_,f,by simp,k s' X' _ o' fun H' u=>(K7.tl).set (u.app (X:=X'))⟩
set_option maxHeartbeats 1000000 in
theorem uj {g h:Hp} {A X:List (Nat×Blk)} {B p N:Nat} {s:Sl} {bs:List Nat} {M:MSl} {m:ai} {st:SortP} {R:Value->Hp->Prop} (K:Kn g h ((B,rdC s p)::(A++X))) (hb:ByteS g s bs) (o:MG X M m) (d:DM m N) (hN:N<=10000)
  (hne:0<m.nodes.length) (hp:p<=900000) (hst:bQ st=true)
  (k: ∀h' p' X' M' m' (i:Nat),Kn g h' ((B,rdC s p')::(A++X'))->MG X' M' m'->DM m' (N+1)->i<m'.nodes.length->m.nodes.length<=m'.nodes.length->p'<=p+2->R (.tuple #[aO M',I i]) h'):
  fj #[.pointer (some ⟨B,0,none⟩),aO M,un st] h R:=by
 apply DH
 refine uf_ ?_
 obtain⟨_,hw1,hw2⟩:=kL hst
 have hl:=o.lens
 have hsm:=d.small (by omega)
 have hdn:=d.nodes
 refine Kn.al K fun b10 h1 K1 l1 hb10=>?_
 refine Kn.al K1 fun b12 h2 K2 l2 hb12=>?_
 refine Kn.al K2 fun b14 h3 K3 l3 hb14=>?_
 clear K K1 K2 l1 l2 l3 hb10 hb12 hb14
 (refine kr_ ?_)
 refine kp_ ?_
 intro x h4 K4 hx _
 refine⟨_,rfl,?_⟩
 replace hx:x<m.nodes.length:=by have:=hx (by omega);omega
 clear K3 h3 h2 h1 h
 have hs:=o.modelS (A:=_::_::_::_::A) hsm K4
 refine av m.nodes.length (fun i vs h'=>vs= [.pointer (some ⟨B,0,none⟩), .pointer (some ⟨b10,0,none⟩), .pointer (some ⟨b12,0,none⟩), .pointer (some ⟨b14,0,none⟩),I x,I i]/\h4=h') ⟨rfl,rfl⟩ ?_
 rintro i _ _ nxt hi ⟨rfl,rfl⟩ hnx
 refine⟨_,b10,0,b12,0,b14,0,_,_,rfl,?_⟩
 (refine kr_ ?_)
 have same: ∀q:Nat,q<m.nodes.length-> ∃(cs:List Value) (z:Nat),h4 b14=some (.inl ⟨cs,z,false⟩)/\0+5<=List.length cs/\cu (h4.row b14 (cv cs 0 (aw M)) z) fun h58=> ∃s59:Sl,Hp.cell h58 b14 0=some s59.v/\ ∃s60:Sl,Hp.cell h58 b14 (0+1)=some s60.v/\
   ∃s61:Sl,Hp.cell h58 b14 (0+2)=some s61.v/\ ∃s62:Sl,Hp.cell h58 b14 (0+3)=some s62.v/\ ∃s63:Sl,Hp.cell h58 b14 (0+4)=some s63.v/\R (.tuple #[.agg #[s59.v,s60.v,s61.v,s62.v,s63.v],I q]) h58:=by
  intro q hq
  refine kw_ ?_
  intro h5 K5 _
  have K5':Kn g h5 ((b14, .inl ⟨aw M,5,false⟩)::(b12, .inl ⟨[I st.idx,I st.wid],2,false⟩)::(b10, .inl ⟨aw M,5,false⟩)::(B,rdC s (p+1))::(A++X)):=K5
  clear K5 K4
  repeat' (refine kr_ ?_)
  exact k h5 (p+1) X M m q K5'.tl.tl.tl o (d.more (by omega)) hq (Nat.le_refl _) (by omega)
 by_cases hlt:i<m.nodes.length
 ·refine aJ (by rw [decide_eq_true_eq];omega) ?_
  (refine kr_ ?_)
  rw [if_neg (by omega)]
  (refine kr_ ?_)
  have hq:(x+i)%m.nodes.length<m.nodes.length:=Nat.mod_lt _ hne
  rw [<-Int.natCast_add,et (by omega),show ((M.no.n:Nat):Int)=(m.nodes.length:Nat) by omega,eV]
  generalize (x+i)%m.nodes.length=q at*
  obtain⟨n,hni⟩: ∃n,m.nodes[q]?=some n:=⟨_,List.getElem?_eq_getElem hq⟩
  obtain⟨b,oo,ha,e0,e1,e2,e3,e4,e5,e6,e7,e8⟩:=hs.nodes.at hni
  rw [Int.toNat_natCast]
  refine⟨b,oo,ha,by omega,by omega,_,e6,_,e7,?_⟩
  (refine kr_ ?_)
  (refine kr_ ?_)
  refine ac (fun e=>?_) (fun e=>?_)
  ·repeat' (refine kr_ ?_)
   exact same q hq
  ·rw [aA (by omega)]
   exact hnx hlt _ _ ⟨rfl,rfl⟩
 refine aD (by rw [decide_eq_false_iff_not];omega) ?_
 clear hnx hlt hi
 (refine kr_ ?_)
 refine ac (fun e=>?_) (fun e=>?_)
 ·repeat' (refine kr_ ?_)
  exact same 0 hne
 have e':=of_decide_eq_false e
 have hi0:st.idx=0:=by have:=(kL hst).1;omega
 clear same hs
 refine ap (fun J=> ∀h5 X' s' p' nd,nd.sort=st->nd.name.size=0->MG X' {M with no:=s'} {m with nodes:=m.nodes++ [nd]}->Kn g h5 ((b14, .inl ⟨[.slice none 0 0, .slice none 0 0, .slice none 0 0, .slice none 0 0, .slice none 0 0],5,false⟩)::(b12, .inl ⟨[I st.idx,I st.wid],2,false⟩)::
  (b10, .inl ⟨aw {M with no:=s'},5,false⟩)::(B,rdC s p')::(A++X'))->p'<=p+2->J h5) (fun h5 X' s' p' nd hs1 hs2 o' K5 hp'=>?_) (fun J hJ=>?_)
 ·have hl':=o'.lens
  repeat' (refine kr_ ?_)
  refine kw_ ?_
  intro h6 K6 kp6
  have K6':Kn g h6 ((b14, .inl ⟨aw {M with no:=s'},5,false⟩)::(b12, .inl ⟨[I st.idx,I st.wid],2,false⟩)::(b10, .inl ⟨aw {M with no:=s'},5,false⟩)::(B,rdC s p')::(A++X')):=K6
  repeat' (refine kr_ ?_)
  clear K5 K6 K4
  repeat' (refine kr_ ?_)
  rw [show W ((s'.n:Int)-1)=(m.nodes.length:Nat) by
   have h1:=hl'.1
   simp at h1
   rw [bV (by omega) (by omega)];omega]
  exact k h6 p' X' _ _ m.nodes.length K6'.tl.tl.tl o' (d.addN (by rw [hs1];exact hst) (by omega)) (by simp) (by simp) hp'
 obtain⟨w,hw⟩: ∃w:Nat,st.wid=w:=⟨st.wid.toNat,by omega⟩
 have hp2:0<2^w:=Nat.two_pow_pos w
 have fin: ∀(y:Nat) (h5 h6:Hp) (q b:Nat),q<=p+2->Kn g h5 ((b14, .inl ⟨[.slice none 0 0, .slice none 0 0, .slice none 0 0, .slice none 0 0, .slice none 0 0],5,false⟩)::(b12, .inl ⟨[I st.idx,I st.wid],2,false⟩)::(b10, .inl ⟨aw M,5,false⟩)::(B,rdC s q)::(A++X))->
   Kn g h6 ((b, .inl ⟨[I 34,I 0,I 0,I 0,I (Int.tmod y (2^w:Nat)),I 0,I st.idx,I st.wid, .string ⟨#[]⟩],9,false⟩)::(b14, .inl ⟨[.slice none 0 0, .slice none 0 0, .slice none 0 0, .slice none 0 0, .slice none 0 0],5,false⟩)::(b12, .inl ⟨[I st.idx,I st.wid],2,false⟩)::(b10, .inl ⟨aw M,5,false⟩)::(B,rdC s q)::(A++X))->
   ck h6 M.no.a M.no.n M.no.c (some (Addr.mk b 0 none)) 1 9 80 fun a92 n93 k94 h95=> ∃(cs96:List Value) (z97:Nat),h95 b10=some (.inl ⟨cs96,z97,false⟩)/\0+1<=List.length cs96/\cu (h95.row b10 (cv cs96 0 [(.slice a92 n93 k94)]) z97) fun h98=>J h98:=by
  intro y h5 h6 q b hq K5 K6
  refine MG.appN (A:=_::_::_::_::_::A) (n:=⟨34,0,0,0,Int.tmod y (2^w:Nat),0,st,⟨#[]⟩⟩) o K6 (by omega) (K6.at (.head _)) fun s' X' h7 o' K7=>?_
  simp only [List.cons_append]at K7
  clear K6 K5 K4
  refine kw_ ?_
  intro h8 K8 _
  exact hJ h8 X' s' q _ rfl rfl o' K8.tl hq
 repeat' (refine kr_ ?_)
 refine⟨?_,?_⟩
 ·refine kp_ ?_
  intro y h5 K5 hy _
  refine⟨_,rfl,?_⟩
  repeat' (refine kr_ ?_)
  rw [hw,cl (by omega),if_neg (by omega),bD (by omega),if_neg (by omega),<-hw]
  refine Kn.al K5 fun b90 h6 K6 l6 hb90=>?_
  (refine kr_ ?_)
  exact fin y h5 h6 (p+2) b90 (Nat.le_refl _) K5 K6
 ·repeat' (refine kr_ ?_)
  rw [hw,cl (by omega),if_neg (by omega),bD (by omega),<-hw]
  refine kp_ ?_
  intro y h5 K5 hy _
  refine⟨_,rfl,?_⟩
  repeat' (refine kr_ ?_)
  rw [if_neg (by omega)]
  refine Kn.al K5 fun b90 h6 K6 l6 hb90=>?_
  (refine kr_ ?_)
  exact fin y h5 h6 (p+2) b90 (Nat.le_refl _) K5 K6
set_option maxHeartbeats 1000000 in
theorem Jp {g h:Hp} {A X:List (Nat×Blk)} {B p N:Nat} {s:Sl} {bs:List Nat} {M:MSl} {m:ai} {R:Value->Hp->Prop} (K:Kn g h ((B,rdC s p)::(A++X))) (hb:ByteS g s bs) (o:MG X M m) (d:DM m N) (hN:N<=1000)
  (hne:0<m.nodes.length) (hp:p<=800000)
  (k: ∀h' p' X' M' m' (i:Nat),Kn g h' ((B,rdC s p')::(A++X'))->MG X' M' m'->DM m' (N+3)->i<m'.nodes.length->m.nodes.length<=m'.nodes.length->p'<=p+2*N+10->R (.tuple #[aO M',I i]) h'):
  kR #[.pointer (some ⟨B,0,none⟩),aO M] h R:=by
 apply BT
 refine uf_ ?_
 have hl:=o.lens
 have hsm:=d.small (by omega)
 have hdn:=d.nodes
 refine Kn.al K fun b8 h1 K1 l1 hb8=>?_
 refine Kn.al K1 fun b10 h2 K2 l2 hb10=>?_
 clear K K1 l1 l2 hb8 hb10
 (refine kr_ ?_)
 rw [show W ((M.no.n:Int)-1)=(m.nodes.length:Int)-1 by rw [bV (by omega) (by omega)];omega]
 refine oJ m.nodes.length (fun i vs h'=>vs= [.pointer (some ⟨B,0,none⟩), .pointer (some ⟨b8,0,none⟩), .pointer (some ⟨b10,0,none⟩),I ((i:Int)-1)]/\i<=m.nodes.length/\
  ∃q,q+i<=p+m.nodes.length/\Kn g h' ((b10, .inl ⟨da,5,false⟩)::(b8, .inl ⟨aw M,5,false⟩)::(B,rdC s q)::(A++X))) ⟨rfl,Nat.le_refl _,p,Nat.le_refl _,K2⟩ ?_
 clear K2 h1 h2 h
 rintro i _ h4 nxt ⟨rfl,hi,q,hq,K4⟩ hnx
 refine⟨_,b8,0,b10,0,_,rfl,?_⟩
 have hs:=o.modelS (A:=_::_::_::A) hsm K4
 cases i with
 |succ i=>
  rw [show (((i+1:Nat):Int)-1)=(i:Nat) by omega]
  refine aJ (by rw [decide_eq_true_eq];omega) ?_
  refine ap (fun J=> ∀c h5 q,q+i<=p+m.nodes.length->Kn g h5 ((b10, .inl ⟨da,5,false⟩)::(b8, .inl ⟨aw M,5,false⟩)::(B,rdC s q)::(A++X))->J c h5) (fun c h5 q' hq' K5=>?_) (fun J hJ=>?_)
  ·refine ac (fun e=>?_) (fun e=>?_)
   ·clear K4
    repeat' (refine kr_ ?_)
    refine CB K5 (by((focus ((repeat first|exact .head|apply Upd.tail);done)))) fun h6 K6=>?_
    exact k h6 q' X M m i K6.tl.tl o (d.more (by omega)) (by omega) (Nat.le_refl _) (by omega)
   ·rw [bV (by omega) (by omega)]
    exact hnx i (by omega) _ _ ⟨rfl,by omega,q',hq',K5⟩
  ·(refine kr_ ?_)
   obtain⟨n,hni⟩: ∃n,m.nodes[i]?=some n:=⟨_,List.getElem?_eq_getElem (by omega)⟩
   obtain⟨b,oo,ha,e0,e1,e2,e3,e4,e5,e6,e7,e8⟩:=hs.nodes.at hni
   refine⟨b,oo,ha,by omega,by omega,_,by rw [Int.toNat_natCast];exact e6,_,by rw [Int.toNat_natCast];exact e7,?_⟩
   refine ca ⟨_,_,rfl,?_⟩
   repeat' (refine kr_ ?_)
   refine ac (fun e=>?_) (fun e=>?_)
   ·(refine kr_ ?_)
    refine⟨b,oo,ha,by omega,by omega,_,by rw [Int.toNat_natCast];exact e0,?_⟩
    refine ac (fun e=>?_) (fun e=>?_)
    ·refine kp_ ?_
     intro x h5 K5 hx _
     exact⟨_,rfl,hJ _ h5 (q+1) (by omega) K5⟩
    ·exact hJ _ h4 q (by omega) K4
   ·exact hJ _ h4 q (by omega) K4
 |zero=>
 refine aD (by rw [decide_eq_false_iff_not];omega) ?_
 clear hnx
 refine av m.nodes.length (fun i vs h'=> ∃(a q:Nat),vs= [.pointer (some ⟨B,0,none⟩), .pointer (some ⟨b8,0,none⟩), .pointer (some ⟨b10,0,none⟩),I a,I i]/\a<m.nodes.length/\
  q<=p+m.nodes.length+i/\Kn g h' ((b10, .inl ⟨da,5,false⟩)::(b8, .inl ⟨aw M,5,false⟩)::(B,rdC s q)::(A++X))) ⟨0,q,rfl,hne,by omega,K4⟩ ?_
 clear K4 hq hs h4 hi q
 rintro i _ h4 nxt hi ⟨a,q,rfl,ha',hq,K4⟩ hnx
 refine⟨_,b8,0,b10,0,_,_,rfl,?_⟩
 have hs:=o.modelS (A:=_::_::_::A) hsm K4
 (refine kr_ ?_)
 obtain⟨na,hna⟩: ∃n,m.nodes[a]?=some n:=⟨_,List.getElem?_eq_getElem ha'⟩
 by_cases hlt:i<m.nodes.length
 ·refine aJ (by rw [decide_eq_true_eq];omega) ?_
  refine ap (fun J=> ∀(c:Nat) h5 q,c<m.nodes.length->q<=p+m.nodes.length+(i+1)->Kn g h5 ((b10, .inl ⟨da,5,false⟩)::(b8, .inl ⟨aw M,5,false⟩)::(B,rdC s q)::(A++X))->J (c:Int) h5) (fun c h5 q' hc hq' K5=>?_) (fun J hJ=>?_)
  ·rw [aA (by omega)]
   exact hnx hlt _ _ ⟨c,q',rfl,hc,hq',K5⟩
  ·(refine kr_ ?_)
   obtain⟨n,hni⟩: ∃n,m.nodes[i]?=some n:=⟨_,List.getElem?_eq_getElem hlt⟩
   obtain⟨b,oo,ha,e0,_⟩:=hs.nodes.at hni
   refine⟨b,oo,ha,by omega,by omega,_,by rw [Int.toNat_natCast];exact e0,?_⟩
   refine ac (fun e=>?_) (fun e=>?_)
   ·(refine kr_ ?_)
    obtain⟨b,oo,ha,e0,_⟩:=hs.nodes.at hna
    refine⟨b,oo,ha,by omega,by omega,_,by rw [Int.toNat_natCast];exact e0,?_⟩
    refine ac (fun e=>?_) (fun e=>?_)
    ·exact hJ i h4 q hlt (by omega) K4
    ·refine kp_ ?_
     intro x h5 K5 hx _
     refine⟨_,rfl,ac (fun e=>?_) (fun e=>?_)⟩
     ·exact hJ i h5 _ hlt (by omega) K5
     ·exact hJ a h5 _ ha' (by omega) K5
   ·exact hJ a h4 q ha' (by omega) K4
 refine aD (by rw [decide_eq_false_iff_not];omega) ?_
 clear hnx
 repeat' (refine kr_ ?_)
 obtain⟨b,oo,ha,e0,e1,e2,e3,e4,e5,e6,e7,e8⟩:=hs.nodes.at hna
 refine⟨b,oo,ha,by omega,by omega,_,by rw [Int.toNat_natCast];exact e6,_,by rw [Int.toNat_natCast];exact e7,?_⟩
 refine uj (p:=q) (A:=(b10, .inl ⟨da,5,false⟩)::(b8, .inl ⟨aw M,5,false⟩)::A) (st:=na.sort) (K4.perm ?_) hb o d (by omega) hne (by omega) (ra d hna) fun h5 q5 X5 M5 m5 i5 K5 o5 d5 hi5 hl5 hq5=>⟨_,_,_,_,_,_,rfl,?_⟩
 ·exact(List.Perm.cons _ (List.Perm.swap ..)).trans (List.Perm.swap ..)
 have K5':Kn g h5 ((b10, .inl ⟨da,5,false⟩)::(b8, .inl ⟨aw M,5,false⟩)::(B,rdC s q5)::(A++X5)):=K5.perm ((List.Perm.swap ..).trans (List.Perm.cons _ (List.Perm.swap ..)))
 clear K5 K4 hs e0 e1 e2 e3 e4 e5 e6 e7 e8 ha
 refine jB (M':=M5) K5' (by((focus ((repeat first|exact .head|apply Upd.tail);done)))) rfl fun h6 K6=>?_
 clear K5'
 have hl5':=o5.lens
 have hsm5:=d5.small (by omega)
 have hs6:=o5.modelS (A:=_::_::_::A) hsm5 K6
 obtain⟨nb,hnb⟩: ∃n,m5.nodes[a]?=some n:=⟨_,List.getElem?_eq_getElem (by omega)⟩
 refine ap (fun J=> ∀c,J c) (fun c=>?_) (fun J hJ=>?_)
 rotate_left
 ·refine ac (fun e=>?_) (fun e=>hJ _)
  (refine kr_ ?_)
  obtain⟨b,oo,ha,e0,e1,e2,e3,e4,e5,e6,e7,e8⟩:=hs6.nodes.at hnb
  exact⟨b,oo,ha,by omega,by omega,_,by rw [Int.toNat_natCast];exact e6,hJ _⟩
 have d5n:=d5.nodes
 refine ap (fun J=> ∀(x:Nat) h7 q X7 M7 m7,MG X7 M7 m7->DM m7 (N+2)->x<m7.nodes.length->m5.nodes.length<=m7.nodes.length->q<=q5+1->Kn g h7 ((b10, .inl ⟨da,5,false⟩)::(b8, .inl ⟨aw M7,5,false⟩)::(B,rdC s q)::(A++X7))->J (x:Int) h7)
  (fun x h7 q7 X7 M7 m7 o7 d7 hx7 hl7 hq7 K7=>?_) (fun J hJ=>?_)
 ·clear K6 hs6
  have hl7':=o7.lens
  have d7n:=d7.nodes
  (refine kr_ ?_)
  refine ca ⟨_,_,rfl,?_⟩
  repeat' (refine kr_ ?_)
  refine Kn.al K7 fun b173 h8 K8 l8 hb173=>?_
  repeat' (refine kr_ ?_)
  refine kX (H:=_::_::_::A) (nd:=⟨21,a,x,0,0,0,⟨0,1⟩,⟨#[]⟩⟩) o7 K8 (by omega) (.tail _ (.head _)) fun s' X9 h9 o9 KF=>?_
  have K9:=KF _ (by((focus ((repeat first|exact .head|apply Upd.tail);done))))
  simp only [List.cons_append]at K9
  clear KF K8 K7
  have hl9:=o9.lens
  repeat' (refine kr_ ?_)
  refine jB (M':={M7 with no:=s'}) K9 (by((focus ((repeat first|exact .head|apply Upd.tail);done)))) rfl fun h11 K11=>?_
  repeat' (refine kr_ ?_)
  rw [show W ((s'.n:Int)-1)=(m7.nodes.length:Nat) by
   have h1:=hl9.1
   simp at h1
   rw [bV (by omega) (by omega)];omega]
  exact k h11 q7 X9 _ _ m7.nodes.length K11.tl.tl o9 (d7.addN rfl (show (0:Nat)<=100 by omega)) (by simp) (by simp;omega) (by omega)
 ·refine ac (fun e=>?_) (fun e=>?_)
  rotate_left
  ·exact hJ i5 h6 q5 X5 M5 m5 o5 (d5.more (by omega)) hi5 (Nat.le_refl _) (by omega) K6
  have hok:=ra d5 hnb
  obtain⟨_,hw1,hw2⟩:=kL hok
  obtain⟨b,oo,ha,e0,e1,e2,e3,e4,e5,e6,e7,e8⟩:=hs6.nodes.at hnb
  obtain⟨bN,xN,haN,hmN⟩:=o5.blk (by omega)
  repeat' (refine kr_ ?_)
  refine⟨b,oo,ha,by omega,by omega,_,by rw [Int.toNat_natCast];exact e7,?_⟩
  repeat' (refine kr_ ?_)
  refine⟨b,oo,ha,by omega,by omega,_,by rw [Int.toNat_natCast];exact e6,_,by rw [Int.toNat_natCast];exact e7,?_⟩
  rw [haN]at ha
  cases ha
  obtain⟨w,hw⟩: ∃w:Nat,nb.sort.wid=w:=⟨nb.sort.wid.toNat,by omega⟩
  have hp2:0<2^w:=Nat.two_pow_pos w
  have fin: ∀(y:Nat) (h8:Hp) (b:Nat),Kn g h8 ((b, .inl ⟨[I 34,I 0,I 0,I 0,I (Int.tmod y (2^w:Nat)),I 0,I nb.sort.idx,I nb.sort.wid, .string ⟨#[]⟩],9,false⟩)::(b10, .inl ⟨da,5,false⟩)::(b8, .inl ⟨aw M5,5,false⟩)::(B,rdC s (q5+1))::(A++X5))->
    ck h8 M5.no.a M5.no.n M5.no.c (some (Addr.mk b 0 none)) 1 9 80 fun a92 n93 k94 h95=> ∃(cs96:List Value) (z97:Nat),h95 b8=some (.inl ⟨cs96,z97,false⟩)/\0+1<=List.length cs96/\cu (h95.row b8 (cv cs96 0 [(.slice a92 n93 k94)]) z97) fun h148=>
     ∃s150:Sl,Hp.cell h148 b8 0=some s150.v/\J (W ((s150.n:Int)-1)) h148:=by
   intro y h8 b K8
   refine kX (H:=_::_::_::A) (nd:=⟨34,0,0,0,Int.tmod y (2^w:Nat),0,nb.sort,⟨#[]⟩⟩) o5 K8 (by omega) (.tail _ (.head _)) fun s' X9 h9 o9 KF=>?_
   have K9:=KF _ (by((focus ((repeat first|exact .head|apply Upd.tail);done))))
   simp only [List.cons_append]at K9
   clear KF K8 K6
   have hl9:=o9.lens
   (refine kr_ ?_)
   rw [show W ((s'.n:Int)-1)=(m5.nodes.length:Nat) by
    have h1:=hl9.1
    simp at h1
    rw [bV (by omega) (by omega)];omega]
   exact hJ m5.nodes.length h9 (q5+1) X9 _ _ o9 (d5.addN hok (show (0:Nat)<=100 by omega)) (by simp) (by simp) (by omega) K9
  refine⟨?_,?_⟩
  ·refine kp_ ?_
   intro y h7 K7 hy _
   refine⟨_,rfl,?_⟩
   have hq:h7 b=h6 b:=by rw [K7.at (.tail _ (.tail _ (.tail _ (List.mem_append_right _ hmN)))),K6.at (.tail _ (.tail _ (.tail _ (List.mem_append_right _ hmN))))]
   repeat' (first|(refine kr_ ?_)|refine And.intro hq ?_)
   rw [hw,cl (by omega),if_neg (by omega),bD (by omega),if_neg (by omega),<-hw]
   refine Kn.al K7 fun b90 h8 K8 l8 hb90=>?_
   (refine kr_ ?_)
   exact fin y h8 b90 K8
  ·repeat' (refine kr_ ?_)
   rw [hw,cl (by omega),if_neg (by omega),bD (by omega),<-hw]
   refine kp_ ?_
   intro y h7 K7 hy _
   refine⟨_,rfl,?_⟩
   have hq:h7 b=h6 b:=by rw [K7.at (.tail _ (.tail _ (.tail _ (List.mem_append_right _ hmN)))),K6.at (.tail _ (.tail _ (.tail _ (List.mem_append_right _ hmN))))]
   repeat' (first|(refine kr_ ?_)|refine And.intro hq ?_)
   rw [if_neg (by omega)]
   refine Kn.al K7 fun b90 h8 K8 l8 hb90=>?_
   (refine kr_ ?_)
   exact fin y h8 b90 K8
theorem Yi :DM noP 0:=⟨by simp,fun n hn=>by simp at hn,fun n hn=>by simp at hn,by simp,by simp,by simp,by simp⟩
theorem aar {i:Nat} (h:i<4): ∃s:ByteArray,([.string ⟨#[120]⟩, .string ⟨#[121]⟩, .string ⟨#[122]⟩, .string ⟨#[109,101,109]⟩]:List Value)[i]?=some (.string s)/\s.size<=100:=by
 rcases i with _|_|_|_|i
 ·exact⟨_,rfl,by decide⟩
 ·exact⟨_,rfl,by decide⟩
 ·exact⟨_,rfl,by decide⟩
 ·exact⟨_,rfl,by decide⟩
 ·omega
theorem aah {i:Nat} (h:i<2): ∃s:ByteArray,([.string ⟨#[103,111]⟩, .string ⟨#[105,110]⟩]:List Value)[i]?=some (.string s)/\s.size<=100:=by
 rcases i with _|_|i
 ·exact⟨_,rfl,by decide⟩
 ·exact⟨_,rfl,by decide⟩
 ·omega
theorem xF {a b:Int} (h1:0<=a) (h2:a<=2) (h3:1<=b) (h4:b<=16):bQ ⟨a,b⟩=true:=decide_eq_true ⟨⟨h1,h2⟩,h3,h4⟩
set_option maxHeartbeats 2000000 in
theorem Kq {g h:Hp} {A:List (Nat×Blk)} {B p:Nat} {s:Sl} {bs:List Nat} {big:Bool} {R:Value->Hp->Prop} (K:Kn g h ((B,rdC s p)::A)) (hb:ByteS g s bs) (hp:p<=800000)
  (k: ∀h' p' X' M' m',Kn g h' ((B,rdC s p')::(A++X'))->MG X' M' m'->DM m' 12->0<m'.nodes.length->p'<=p+60->R (aO M') h'):
  lb #[.pointer (some ⟨B,0,none⟩),aO noM, .bool big] h R:=by
 apply yK
 refine uf_ ?_
 refine Kn.al K fun b9 h1 K1 l1 hb9=>?_
 refine Kn.al K1 fun b11 h2 K2 l2 hb11=>?_
 refine Kn.al K2 fun b14 h3 K3 l3 hb14=>?_
 clear K K1 K2 l1 l2 l3 hb9 hb11 hb14
 refine ap (fun J=> ∀x:Int,J x) (fun x20=>?_) (fun J hJ=>ac (fun _=>hJ _) (fun _=>hJ _))
 refine kp_ ?_
 intro x24 h4 K4 hx24 _
 refine⟨_,rfl,?_⟩
 replace hx24:x24<3:=by have:=hx24 (by omega);omega
 clear K3 h3 h2 h1 h
 rw [show W (1+(x24:Int))=((1+x24:Nat):Int) by rw [bV (by omega) (by omega)];omega]
 refine av (1+x24) (fun i vs h'=> ∃(bits:Int) (q:Nat) (X:List (Nat×Blk)) (M:MSl) (m:ai),vs= [.pointer (some ⟨B,0,none⟩), .pointer (some ⟨b9,0,none⟩), .pointer (some ⟨b11,0,none⟩),(arr b14 4).v,I bits,I (1+x24:Nat),I i]/\
  MG X M m/\DM m i/\q<=p+1+4*i/\Kn g h' ((b14, .inl ⟨[.string ⟨#[120]⟩, .string ⟨#[121]⟩, .string ⟨#[122]⟩, .string ⟨#[109,101,109]⟩],4,false⟩)::(b11, .inl ⟨da,5,false⟩)::(b9, .inl ⟨aw M,5,false⟩)::(B,rdC s q)::(A++X)))
  ⟨x20,p+1, [],noM,noP,rfl,MG.nil,Yi,by omega,by rw [List.append_nil];exact K4⟩ ?_
 clear K4 h4
 rintro i _ h4 nxt hi ⟨bits,q,X,M,m,rfl,o,d,hq,K4⟩ hnx
 refine⟨_,b9,0,b11,0,arr b14 4,_,_,_,rfl,?_⟩
 have hl:=o.lens
 have hdn:=d.nodes
 by_cases hlt:i<1+x24
 ·refine aJ (by rw [decide_eq_true_eq];omega) ?_
  have hi4:i<4:=by omega
  refine ap (fun J=> ∀(bits:Int) h5 q X M m,MG X M m->DM m (i+1)->q<=p+1+4*(i+1)->Kn g h5 ((b14, .inl ⟨[.string ⟨#[120]⟩, .string ⟨#[121]⟩, .string ⟨#[122]⟩, .string ⟨#[109,101,109]⟩],4,false⟩)::(b11, .inl ⟨da,5,false⟩)::(b9, .inl ⟨aw M,5,false⟩)::(B,rdC s q)::(A++X))->J bits h5)
   (fun bits h5 q X M m o d hq K5=>?_) (fun J hJ=>?_)
  ·rw [aA (by omega)]
   exact hnx hlt _ _ ⟨bits,q,X,M,m,rfl,o,d,hq,K5⟩
  ·refine kp_ ?_
   intro x45 h5 K5 hx45 _
   refine⟨_,rfl,?_⟩
   replace hx45:x45<4:=by have:=hx45 (by omega);omega
   refine Kn.al K5 fun b46 h6 K6 l6 hb46=>?_
   clear K5 K4
   refine kw_ ?_
   intro h7 K7 _
   clear K6 l6 hb46
   refine kp_ ?_
   intro x54 h8 K8 _ _
   refine⟨_,rfl,?_⟩
   clear K7
   refine ap (fun J=> ∀(a w:Int) h9 q',0<=a->a<=2->1<=w->w<=16->q'<=q+4->Kn g h9 ((b46, .inl ⟨[I a,I w],2,false⟩)::(b14, .inl ⟨[.string ⟨#[120]⟩, .string ⟨#[121]⟩, .string ⟨#[122]⟩, .string ⟨#[109,101,109]⟩],4,false⟩)::(b11, .inl ⟨da,5,false⟩)::(b9, .inl ⟨aw M,5,false⟩)::(B,rdC s q')::(A++X))->J h9)
    (fun a w h9 q' a1 a2 w1 w2 hq' K9=>?_) (fun J hJ=>?_)
   ·repeat' (refine kr_ ?_)
    refine gM ⟨_,rfl,?_⟩
    refine ac (fun e=>?_) (fun e=>hJ _ _ q' X M m o (d.more (by omega)) (by omega) K9.tl)
    repeat' (refine kr_ ?_)
    refine gM ⟨_,rfl,?_⟩
    refine⟨b14,0,rfl,by omega,by dsimp only;omega,?_⟩
    repeat' (refine kr_ ?_)
    obtain⟨nm,hnm,hsz⟩:=aar hi4
    refine⟨nm,by rw [aq (K9.at (.tail _ (.head _))),Int.toNat_natCast,Nat.zero_add,Nat.mul_one];exact hnm,?_⟩
    refine Kn.al K9 fun b86 h10 K10 l10 hb86=>?_
    repeat' (refine kr_ ?_)
    refine kX (H:=_::_::_::_::_::A) (nd:=⟨36,0,0,0,0,0,⟨a,w⟩,nm⟩) o K10 (by omega) (.tail _ (.tail _ (.tail _ (.head _)))) fun s' X9 h11 o9 KF=>?_
    have K11:=KF _ (by((focus ((repeat first|exact .head|apply Upd.tail);done))))
    simp only [List.cons_append]at K11
    exact hJ _ h11 q' X9 _ _ o9 (d.addN (xF a1 a2 w1 w2) hsz) (by omega) K11.tl
   ·refine ac (fun e=>?_) (fun e=>?_)
    ·refine kp_ ?_
     intro x59 h9 K9 hx59 _
     refine⟨_,rfl,?_⟩
     refine kp_ ?_
     intro x62 h10 K10 hx62 _
     refine⟨_,rfl,?_⟩
     replace hx59:x59<2:=by have:=hx59 (by omega);omega
     replace hx62:x62<2:=by have:=hx62 (by omega);omega
     clear K9 K8
     refine kw_ ?_
     intro h11 K11 _
     refine hJ (W (1+(x59:Int))) (W (1+(x62:Int))) h11 _ ?_ ?_ ?_ ?_ ?_ K11
     ·rw [bV (by omega) (by omega)];omega
     ·rw [bV (by omega) (by omega)];omega
     ·rw [bV (by omega) (by omega)];omega
     ·rw [bV (by omega) (by omega)];omega
     ·omega
    ·refine hJ 0 (W (1+(x45:Int))) h8 _ (by omega) (by omega) ?_ ?_ ?_ K8
     ·rw [bV (by omega) (by omega)];omega
     ·rw [bV (by omega) (by omega)];omega
     ·omega
 refine aD (by rw [decide_eq_false_iff_not];omega) ?_
 clear hnx
 (refine kr_ ?_)
 refine ap (fun J=> ∀h5 X M m,MG X M m->DM m 4->0<m.nodes.length->Kn g h5 ((b14, .inl ⟨[.string ⟨#[120]⟩, .string ⟨#[121]⟩, .string ⟨#[122]⟩, .string ⟨#[109,101,109]⟩],4,false⟩)::(b11, .inl ⟨da,5,false⟩)::(b9, .inl ⟨aw M,5,false⟩)::(B,rdC s q)::(A++X))->J h5)
  (fun h5 X1 M1 m1 o1 d1 hpos K5=>?_) (fun J hJ=>?_)
 rotate_left
 ·refine ac (fun e=>?_) (fun e=>?_)
  ·(refine kr_ ?_)
   refine ca ⟨_,_,rfl,?_⟩
   repeat' (refine kr_ ?_)
   refine Kn.al K4 fun b109 h5 K5 l5 hb109=>?_
   repeat' (refine kr_ ?_)
   refine kX (H:=_::_::_::_::A) (nd:=⟨36,0,0,0,0,0,⟨0,2⟩,⟨#[120]⟩⟩) o K5 (by omega) (.tail _ (.tail _ (.head _))) fun s' X9 h11 o9 KF=>?_
   have K11:=KF _ (by((focus ((repeat first|exact .head|apply Upd.tail);done))))
   simp only [List.cons_append]at K11
   have hl9:=o9.lens
   exact hJ h11 X9 _ _ o9 ((d.addN (n:=⟨36,0,0,0,0,0,⟨0,2⟩,⟨#[120]⟩⟩) rfl (show (1:Nat)<=100 by omega)).more (by omega)) (by simp) K11
  ·have:m.nodes.length≠0:=fun q=>by rw [show M.no.n=0 by omega]at e;simp at e
   exact hJ h4 X M m o (d.more (by omega)) (by omega) K4
 clear K4 hdn hl d o h4
 refine kp_ ?_
 intro x122 h6 K6 hx122 _
 refine⟨_,rfl,?_⟩
 replace hx122:x122<3:=by have:=hx122 (by omega);omega
 refine av x122 (fun i vs h'=> ∃(q:Nat) (X:List (Nat×Blk)) (M:MSl) (m:ai),vs= [.pointer (some ⟨B,0,none⟩), .pointer (some ⟨b9,0,none⟩), .pointer (some ⟨b11,0,none⟩),I x122,I i]/\
  MG X M m/\DM m (4+i)/\0<m.nodes.length/\q<=p+20+i/\Kn g h' ((b14, .inl ⟨[.string ⟨#[120]⟩, .string ⟨#[121]⟩, .string ⟨#[122]⟩, .string ⟨#[109,101,109]⟩],4,false⟩)::(b11, .inl ⟨da,5,false⟩)::(b9, .inl ⟨aw M,5,false⟩)::(B,rdC s q)::(A++X)))
  ⟨q+1,X1,M1,m1,rfl,o1,d1,hpos,by omega,K6⟩ ?_
 clear K6 K5 hpos d1 o1 hq q m1 M1 X1 h5 h6 m M X
 rintro j _ h4 nxt hj ⟨q,X,M,m,rfl,o,d,hpos,hq,K4⟩ hnx
 refine⟨_,b9,0,b11,0,_,_,rfl,?_⟩
 have hl:=o.lens
 have hdn:=d.nodes
 by_cases hlt:j<x122
 ·refine aJ (by rw [decide_eq_true_eq];omega) ?_
  have hj2:j<2:=by omega
  refine ap (fun J=> ∀h5 q X M m,MG X M m->DM m (4+j+1)->0<m.nodes.length->q<=p+20+(j+1)->Kn g h5 ((b14, .inl ⟨[.string ⟨#[120]⟩, .string ⟨#[121]⟩, .string ⟨#[122]⟩, .string ⟨#[109,101,109]⟩],4,false⟩)::(b11, .inl ⟨da,5,false⟩)::(b9, .inl ⟨aw M,5,false⟩)::(B,rdC s q)::(A++X))->J h5)
   (fun h5 q X M m o d hpos hq K5=>?_) (fun J hJ=>?_)
  ·rw [aA (by omega)]
   exact hnx hlt _ _ ⟨q,X,M,m,rfl,o,d,hpos,hq,K5⟩
  obtain⟨nm,hnm,hsz⟩:=aah hj2
  have fin: ∀(x bn bg:Nat) (h8:Hp),x<2->Kn g h8 ((bn, .inl ⟨[I 35,I 0,I 0,I 0,I 0,I 0,I 0,I (W (1+(x:Int))), .string nm],9,false⟩)::(bg, .inl ⟨[.string ⟨#[103,111]⟩, .string ⟨#[105,110]⟩],2,false⟩)::(b14, .inl ⟨[.string ⟨#[120]⟩, .string ⟨#[121]⟩, .string ⟨#[122]⟩, .string ⟨#[109,101,109]⟩],4,false⟩)::
    (b11, .inl ⟨da,5,false⟩)::(b9, .inl ⟨aw M,5,false⟩)::(B,rdC s (q+1))::(A++X))->
    ck h8 M.no.a M.no.n M.no.c (some (Addr.mk bn 0 none)) 1 9 80 fun a92 n93 k94 h95=> ∃(cs96:List Value) (z97:Nat),h95 b9=some (.inl ⟨cs96,z97,false⟩)/\0+1<=List.length cs96/\cu (h95.row b9 (cv cs96 0 [(.slice a92 n93 k94)]) z97) fun h148=>J h148:=by
   intro x bn bg h8 hx K8
   refine kX (H:=_::_::_::_::_::A) (nd:=⟨35,0,0,0,0,0,⟨0,W (1+(x:Int))⟩,nm⟩) o K8 (by omega) (.tail _ (.tail _ (.tail _ (.head _)))) fun s' X9 h9 o9 KF=>?_
   have K9:=KF _ (by((focus ((repeat first|exact .head|apply Upd.tail);done))))
   simp only [List.cons_append]at K9
   exact hJ h9 (q+1) X9 _ _ o9 (d.addN (xF (by omega) (by omega) (by rw [bV (by omega) (by omega)];omega) (by rw [bV (by omega) (by omega)];omega)) hsz) (by simp) (by omega) K9.tl
  have rd: ∀{h':Hp} {L:List (Nat×Blk)} {bg:Nat} {Q:ByteArray->Prop},Kn g h' ((bg, .inl ⟨[.string ⟨#[103,111]⟩, .string ⟨#[105,110]⟩],2,false⟩)::L)->Q nm-> ∃y:ByteArray,Hp.cell h' bg (0+Int.toNat (j:Int)*1)=some (.string y)/\Q y:=fun K' q=>⟨nm,by rw [aq (K'.at (.head _)),Int.toNat_natCast,Nat.zero_add,Nat.mul_one];exact hnm,q⟩
  (refine kr_ ?_)
  refine⟨?_,?_⟩
  ·refine kp_ ?_
   intro x h5 K5 hx _
   refine⟨_,rfl,?_⟩
   replace hx:x<2:=by have:=hx (by omega);omega
   repeat' (refine kr_ ?_)
   refine⟨?_,?_⟩
   ·refine ca ⟨_,_,rfl,?_⟩
    repeat' (refine kr_ ?_)
    refine Kn.al K5 fun bg h6 K6 l6 hbg=>?_
    repeat' (refine kr_ ?_)
    refine⟨by omega,by omega,?_⟩
    refine rd K6 ?_
    refine Kn.al K6 fun bn h7 K7 l7 hbn=>?_
    repeat' (refine kr_ ?_)
    exact fin x bn bg h7 hx K7
   ·refine Kn.al K5 fun bg h6 K6 l6 hbg=>?_
    repeat' (refine kr_ ?_)
    refine⟨by omega,by omega,?_⟩
    refine rd K6 ?_
    refine ca ⟨_,_,rfl,?_⟩
    repeat' (refine kr_ ?_)
    refine Kn.al K6 fun bn h7 K7 l7 hbn=>?_
    repeat' (refine kr_ ?_)
    exact fin x bn bg h7 hx K7
  ·refine Kn.al K4 fun bg h5 K5 l5 hbg=>?_
   repeat' (refine kr_ ?_)
   refine⟨by omega,by omega,?_⟩
   refine rd K5 ?_
   refine kp_ ?_
   intro x h6 K6 hx _
   refine⟨_,rfl,?_⟩
   replace hx:x<2:=by have:=hx (by omega);omega
   repeat' (refine kr_ ?_)
   refine ca ⟨_,_,rfl,?_⟩
   repeat' (refine kr_ ?_)
   refine Kn.al K6 fun bn h7 K7 l7 hbn=>?_
   repeat' (refine kr_ ?_)
   exact fin x bn bg h7 hx K7
 refine aD (by rw [decide_eq_false_iff_not];omega) ?_
 clear hnx
 refine kp_ ?_
 intro x205 h6 K6 hx205 _
 refine⟨_,rfl,?_⟩
 replace hx205:x205<3:=by have:=hx205 (by omega);omega
 rw [show W (1+(x205:Int))=((1+x205:Nat):Int) by rw [bV (by omega) (by omega)];omega]
 refine av (1+x205) (fun i vs h'=> ∃(q:Nat) (X:List (Nat×Blk)) (M:MSl) (m:ai),vs= [.pointer (some ⟨B,0,none⟩), .pointer (some ⟨b9,0,none⟩), .pointer (some ⟨b11,0,none⟩),I (1+x205:Nat),I i]/\
  MG X M m/\DM m (6+i)/\0<m.nodes.length/\q<=p+30+2*i/\Kn g h' ((b14, .inl ⟨[.string ⟨#[120]⟩, .string ⟨#[121]⟩, .string ⟨#[122]⟩, .string ⟨#[109,101,109]⟩],4,false⟩)::(b11, .inl ⟨da,5,false⟩)::(b9, .inl ⟨aw M,5,false⟩)::(B,rdC s q)::(A++X)))
  ⟨q+1,X,M,m,rfl,o,d.more (by omega),hpos,by omega,K6⟩ ?_
 clear K6 K4 hpos d o hl hdn hq q m M X h4 h6
 rintro i _ h4 nxt hi ⟨q,X,M,m,rfl,o,d,hpos,hq,K4⟩ hnx
 refine⟨_,b9,0,b11,0,_,_,rfl,?_⟩
 have hl:=o.lens
 have hdn:=d.nodes
 by_cases hlt:i<1+x205
 rotate_left
 ·refine aD (by rw [decide_eq_false_iff_not];omega) ?_
  repeat' (refine kr_ ?_)
  refine CB K4 (by((focus ((repeat first|exact .head|apply Upd.tail);done)))) fun h6 K6=>?_
  exact k h6 q X M m K6.tl.tl.tl o (d.more (by omega)) hpos (by omega)
 refine aJ (by rw [decide_eq_true_eq];omega) ?_
 refine ap (fun J=> ∀h5 q X M m,MG X M m->DM m (6+i+1)->0<m.nodes.length->q<=p+30+2*(i+1)->Kn g h5 ((b14, .inl ⟨[.string ⟨#[120]⟩, .string ⟨#[121]⟩, .string ⟨#[122]⟩, .string ⟨#[109,101,109]⟩],4,false⟩)::(b11, .inl ⟨da,5,false⟩)::(b9, .inl ⟨aw M,5,false⟩)::(B,rdC s q)::(A++X))->J h5)
  (fun h5 q X M m o d hpos hq K5=>?_) (fun J hJ=>?_)
 ·rw [aA (by omega)]
  exact hnx hlt _ _ ⟨q,X,M,m,rfl,o,d,hpos,hq,K5⟩
 refine kp_ ?_
 intro w h5 K5 hw _
 refine⟨_,rfl,?_⟩
 replace hw:w<4:=by have:=hw (by omega);omega
 have hp2:0<2^(1+w):=Nat.two_pow_pos _
 rw [show W (1+(w:Int))=((1+w:Nat):Int) by rw [bV (by omega) (by omega)];omega]
 have fin: ∀(y bn:Nat) (h8:Hp),Kn g h8 ((bn, .inl ⟨[I 34,I 0,I 0,I 0,I (Int.tmod y (2^(1+w):Nat)),I 0,I 0,I (1+w:Nat), .string ⟨#[]⟩],9,false⟩)::(b14, .inl ⟨[.string ⟨#[120]⟩, .string ⟨#[121]⟩, .string ⟨#[122]⟩, .string ⟨#[109,101,109]⟩],4,false⟩)::
   (b11, .inl ⟨da,5,false⟩)::(b9, .inl ⟨aw M,5,false⟩)::(B,rdC s (q+1+1))::(A++X))->
   ck h8 M.no.a M.no.n M.no.c (some (Addr.mk bn 0 none)) 1 9 80 fun a92 n93 k94 h95=> ∃(cs96:List Value) (z97:Nat),h95 b9=some (.inl ⟨cs96,z97,false⟩)/\0+1<=List.length cs96/\cu (h95.row b9 (cv cs96 0 [(.slice a92 n93 k94)]) z97) fun h148=>J h148:=by
  intro y bn h8 K8
  refine kX (H:=_::_::_::_::A) (nd:=⟨34,0,0,0,Int.tmod y (2^(1+w):Nat),0,⟨0,(1+w:Nat)⟩,⟨#[]⟩⟩) o K8 (by omega) (.tail _ (.tail _ (.head _))) fun s' X9 h9 o9 KF=>?_
  have K9:=KF _ (by((focus ((repeat first|exact .head|apply Upd.tail);done))))
  simp only [List.cons_append]at K9
  exact hJ h9 _ X9 _ _ o9 (d.addN (xF (by omega) (by omega) (by omega) (by omega)) (show (0:Nat)<=100 by omega)) (by simp) (by omega) K9
 (refine kr_ ?_)
 refine⟨?_,?_⟩
 ·refine kp_ ?_
  intro y h6 K6 hy _
  refine⟨_,rfl,?_⟩
  repeat' (refine kr_ ?_)
  refine⟨?_,?_⟩
  ·repeat' (refine kr_ ?_)
   rw [cl (by omega),if_neg (by omega),bD (by omega),if_neg (by omega)]
   refine ca ⟨_,_,rfl,?_⟩
   repeat' (refine kr_ ?_)
   refine Kn.al K6 fun bn h7 K7 l7 hbn=>?_
   repeat' (refine kr_ ?_)
   exact fin y bn h7 K7
  ·refine ca ⟨_,_,rfl,?_⟩
   repeat' (refine kr_ ?_)
   rw [cl (by omega),if_neg (by omega),bD (by omega),if_neg (by omega)]
   refine Kn.al K6 fun bn h7 K7 l7 hbn=>?_
   repeat' (refine kr_ ?_)
   exact fin y bn h7 K7
 ·repeat' (refine kr_ ?_)
  rw [cl (by omega),if_neg (by omega),bD (by omega)]
  refine kp_ ?_
  intro y h6 K6 hy _
  refine⟨_,rfl,?_⟩
  repeat' (refine kr_ ?_)
  rw [if_neg (by omega)]
  refine ca ⟨_,_,rfl,?_⟩
  repeat' (refine kr_ ?_)
  refine Kn.al K6 fun bn h7 K7 l7 hbn=>?_
  repeat' (refine kr_ ?_)
  exact fin y bn h7 K7
theorem sD {c:Prop} [Decidable c] {x t:SortP} (h:(if c then some x else none)=some t):c/\x=t:=by
 by_cases e:c
 ·rw [if_pos e]at h;exact⟨e,Option.some.inj h⟩
 ·rw [if_neg e]at h;cases h
theorem J0 {n:NodeP} {a b c t:SortP} (ha:bQ a=true) (hb:2<=ar n.kind->bQ b=true) (h:de n a b c=some t):bQ t=true:=by
 obtain⟨⟨a1,a2⟩,a3,a4⟩:=kL ha
 unfold de at h
 by_cases e33:n.kind=33
 ·rw [if_pos e33]at h
  obtain⟨_,rfl⟩:=sD h
  exact hb (by rw [e33];decide)
 rw [if_neg e33]at h
 by_cases e37:n.kind=37
 ·rw [if_pos e37]at h
  obtain⟨_,rfl⟩:=sD h
  exact nE a3 a4
 rw [if_neg e37]at h
 by_cases e38:n.kind=38
 ·rw [if_pos e38]at h
  obtain⟨_,rfl⟩:=sD h
  exact ha
 rw [if_neg e38]at h
 by_cases e21:n.kind=21
 ·rw [if_pos e21]at h
  obtain⟨_,rfl⟩:=sD h
  exact nE (by omega) (by omega)
 rw [if_neg e21]at h
 by_cases ei:0<a.idx\/(ar n.kind=2/\0<b.idx)
 ·rw [if_pos ei]at h;cases h
 rw [if_neg ei]at h
 by_cases e29:n.kind=29
 ·rw [if_pos e29]at h
  obtain⟨e,rfl⟩:=sD h
  have:=kL (hb (by rw [e29];decide))
  exact nE (by omega) (by omega)
 rw [if_neg e29]at h
 by_cases e30:n.kind=30
 ·rw [if_pos e30]at h
  obtain⟨e,rfl⟩:=sD h
  exact nE (by omega) (by omega)
 rw [if_neg e30]at h
 by_cases e31:n.kind=31\/n.kind=32
 ·rw [if_pos e31]at h
  obtain⟨e,rfl⟩:=sD h
  exact nE (by omega) (by omega)
 rw [if_neg e31]at h
 have hw: ∀q:Prop, [Decidable q]->bQ (cy (if q then a.wid else 1))=true:=fun q _=>by
  by_cases e:q
  ·rw [if_pos e];exact nE a3 a4
  ·rw [if_neg e];exact nE (by omega) (by omega)
 by_cases e5:n.kind<=5
 ·rw [if_pos e5]at h
  obtain rfl:=Option.some.inj h
  exact hw _
 rw [if_neg e5]at h
 obtain⟨_,rfl⟩:=sD h
 exact hw _
theorem Iz {l:List NodeP} {n:NodeP} {t:SortP} (hk:ar n.kind≠0) (h:cQ l n=some t):bQ t=true:=by
 unfold cQ at h
 by_cases e:l.length<=60/\eW l.length n=true
 ·rw [if_pos e,if_neg hk]at h
  by_cases e2:(bQ (aE l n.a)&&((decide (ar n.kind<2)||bQ (aE l n.b))&&(decide (ar n.kind<3)||bQ (aE l n.c))))=true
  ·rw [if_pos e2]at h
   simp only [Bool.and_eq_true,Bool.or_eq_true,decide_eq_true_eq]at e2
   exact J0 e2.1 (fun h2=>e2.2.1.resolve_left (by omega)) h
  ·rw [if_neg e2]at h;cases h
 ·rw [if_neg e]at h;cases h
set_option maxHeartbeats 2000000 in
theorem Oi {g h:Hp} {A X:List (Nat×Blk)} {B p N:Nat} {s:Sl} {bs:List Nat} {M:MSl} {m:ai} {R:Value->Hp->Prop} (K:Kn g h ((B,rdC s p)::(A++X))) (hb:ByteS g s bs) (o:MG X M m) (d:DM m N) (hN:N<=1000)
  (hne:0<m.nodes.length) (hp:p<=800000)
  (k: ∀h' p' X' M' m',Kn g h' ((B,rdC s p')::(A++X'))->MG X' M' m'->DM m' (N+3)->0<m'.nodes.length->p'<=p+20->R (aO M') h'):
  nr #[.pointer (some ⟨B,0,none⟩),aO M] h R:=by
 apply AU
 refine uf_ ?_
 have hl:=o.lens
 have hsm:=d.small (by omega)
 have hdn:=d.nodes
 refine Kn.al K fun b8 h1 K1 l1 hb8=>?_
 refine Kn.al K1 fun b10 h2 K2 l2 hb10=>?_
 clear K K1 l1 l2 hb8 hb10
 refine kp_ ?_
 intro x15 h3 K3 hx15 _
 refine⟨_,rfl,?_⟩
 replace hx15:x15<33:=by have:=hx15 (by omega);omega
 refine Kn.al K3 fun b16 h4 K4 l4 hb16=>?_
 refine kw_ ?_
 intro h5 K5 kpz
 clear kpz
 rw [show W (1+(x15:Int))=((1+x15:Nat):Int) by rw [bV (by omega) (by omega)];omega]at K5
 have K5':Kn g h5 ((b16, .inl ⟨nodeCells ⟨(1+x15:Nat),0,0,0,0,0,⟨0,0⟩,⟨#[]⟩⟩,9,false⟩)::(b10, .inl ⟨da,5,false⟩)::(b8, .inl ⟨aw M,5,false⟩)::(B,rdC s (p+1))::(A++X)):=K5
 clear K5 K4 K3 K2 l4 hb16 h4 h3 h2 h1 h
 refine kp_ ?_
 intro x24 h6 K6 _ _
 refine⟨_,rfl,?_⟩
 clear K5' h5
 have hk0:ar ((1+x15:Nat):Int)≠0:=by
  unfold ar
  have h1: ¬(34<=((1+x15:Nat):Int)/\((1+x15:Nat):Int)<=36):=by omega
  rw [if_neg h1]
  split
  ·decide
  ·split
   ·decide
   ·split<;>decide
 refine ap (fun J=> ∀(kd:Int) h5 q,ar kd≠0->q<=p+3->Kn g h5 ((b16, .inl ⟨nodeCells ⟨kd,0,0,0,0,0,⟨0,0⟩,⟨#[]⟩⟩,9,false⟩)::(b10, .inl ⟨da,5,false⟩)::(b8, .inl ⟨aw M,5,false⟩)::(B,rdC s q)::(A++X))->J h5) (fun kd h5 q hkd hq K5=>?_) (fun J hJ=>?_)
 rotate_left
 ·refine ac (fun e=>?_) (fun e=>hJ _ h6 _ hk0 (by omega) K6)
  refine Kn.al K6 fun b27 h7 K7 l7 hb27=>?_
  refine kp_ ?_
  intro x31 h8 K8 hx31 _
  refine⟨_,rfl,?_⟩
  replace hx31:x31<2:=by have:=hx31 (by omega);omega
  clear K7 K6
  refine⟨b27,0,rfl,by omega,by omega,?_⟩
  obtain⟨kd,hkd,hk1⟩: ∃kd:Int,([I 37,I 38]:List Value)[x31]?=some (I kd)/\ar kd≠0:=by
   rcases x31 with _|_|i
   ·exact⟨37,rfl,by decide⟩
   ·exact⟨38,rfl,by decide⟩
   ·omega
  refine⟨kd,by rw [aq (K8.at (.head _)),Int.toNat_natCast,Nat.zero_add,Nat.mul_one];exact hkd,?_⟩
  refine kw_ ?_
  intro h9 K9 kpz
  clear kpz
  exact hJ kd h9 _ hk1 (by omega) K9.tl
 clear K6 hk0 hx15 h6
 (refine kr_ ?_)
 refine kp_ ?_
 intro a h6 K6 ha _
 refine⟨_,rfl,?_⟩
 replace ha:a<m.nodes.length:=by have:=ha (by omega);omega
 clear K5
 refine kw_ ?_
 intro h7 K7 kpz
 clear kpz
 have K7':Kn g h7 ((b16, .inl ⟨nodeCells ⟨kd,a,0,0,0,0,⟨0,0⟩,⟨#[]⟩⟩,9,false⟩)::(b10, .inl ⟨da,5,false⟩)::(b8, .inl ⟨aw M,5,false⟩)::(B,rdC s (q+1))::(A++X)):=K7
 clear K7 K6 h5 h6
 repeat' (refine kr_ ?_)
 obtain⟨na,hna⟩: ∃n,m.nodes[a]?=some n:=⟨_,List.getElem?_eq_getElem ha⟩
 have hs:=o.modelS (A:=_::_::_::_::A) hsm K7'
 obtain⟨b,oo,ha',e0,e1,e2,e3,e4,e5,e6,e7,e8⟩:=hs.nodes.at hna
 refine⟨b,oo,ha',(by first|omega|(dsimp only;omega)),(by first|omega|(dsimp only;omega)),_,by rw [Int.toNat_natCast];exact e6,_,by rw [Int.toNat_natCast];exact e7,?_⟩
 clear e0 e1 e2 e3 e4 e5 e6 e7 e8 ha' hs
 refine Kn.al K7' fun b54 h8 K8 l8 hb54=>?_
 refine kw_ ?_
 intro h9 K9 kpz
 clear kpz
 have K9':Kn g h9 ((b54, .inl ⟨[I na.sort.idx,I na.sort.wid],2,false⟩)::(b16, .inl ⟨nodeCells ⟨kd,a,0,0,0,0,⟨0,0⟩,⟨#[]⟩⟩,9,false⟩)::(b10, .inl ⟨da,5,false⟩)::(b8, .inl ⟨aw M,5,false⟩)::(B,rdC s (q+1))::(A++X)):=K9
 clear K9 K8 K7' l8 hb54 h8 h7
 have hst:=ra d hna
 obtain⟨⟨w1,w2⟩,w3,w4⟩:=kL hst
 refine ap (fun J=> ∀h5 q' X' M' m' (nd:NodeP) (z:Blk),nd.kind=kd->nd.name.size=0->MG X' M' m'->DM m' (N+2)->0<m'.nodes.length->q'<=q+10->Kn g h5 ((b54,z)::(b16, .inl ⟨nodeCells nd,9,false⟩)::(b10, .inl ⟨da,5,false⟩)::(b8, .inl ⟨aw M',5,false⟩)::(B,rdC s q')::(A++X'))->J b8 0 b10 0 b16 0 h5)
  (fun h5 q' X' M' m' nd z hkd2 hnm o' d' hpos hq' K5=>?_) (fun J hJ=>?_)
 ·clear K9'
  have hl':=o'.lens
  have hdn':=d'.nodes
  have hsm':=d'.small (by omega)
  have hs:=o'.modelS (A:=_::_::_::_::_::A) hsm' K5
  repeat' (refine kr_ ?_)
  refine mn (n:=nd) hs.nodes (by omega) ?_
  cases hns:cQ m'.nodes nd with
  |none=>
   refine⟨_,_,_,rfl,?_⟩
   refine Kn.al K5 fun b327 h6 K6 l6 hb327=>?_
   clear K5
   refine kw_ ?_
   intro h7 K7 kpz
   clear kpz
   clear K6
   rw [dW]
   refine aJ rfl (aJ rfl ?_)
   repeat' (refine kr_ ?_)
   refine CB K7 (by((focus ((repeat first|exact .head|apply Upd.tail);done)))) fun h8 K8=>?_
   exact k h8 q' X' M' m' K8.tl.tl.tl.tl.tl o' (d'.more (by omega)) hpos (by omega)
  |some t=>
   refine⟨_,_,_,rfl,?_⟩
   have htok:=Iz (by rw [hkd2];exact hkd) hns
   refine Kn.al K5 fun b327 h6 K6 l6 hb327=>?_
   clear K5
   refine kw_ ?_
   intro h7 K7 kpz
   clear kpz
   have K7':Kn g h7 ((b327, .inl ⟨[I t.idx,I t.wid],2,false⟩)::(b54,z)::(b16, .inl ⟨nodeCells nd,9,false⟩)::(b10, .inl ⟨da,5,false⟩)::(b8, .inl ⟨aw M',5,false⟩)::(B,rdC s q')::(A++X')):=K7
   clear K6 K7
   refine ap (fun J=> ∀c,J c) (fun c=>?_) (fun J hJ=>?_)
   rotate_left
   ·refine aD rfl ?_
    (refine kr_ ?_)
    refine ac (fun _=>hJ _) (fun _=>?_)
    (refine kr_ ?_)
    exact hJ _
   cases c with
   |true=>
    refine aJ rfl ?_
    repeat' (refine kr_ ?_)
    refine CB K7' (by((focus ((repeat first|exact .head|apply Upd.tail);done)))) fun h8 K8=>?_
    exact k h8 q' X' M' m' K8.tl.tl.tl.tl.tl o' (d'.more (by omega)) hpos (by omega)
   |false=>
    refine aD rfl ?_
    repeat' (refine kr_ ?_)
    refine kw_ ?_
    intro h8 K8 kpz
    clear kpz
    have K8':Kn g h8 ((b327, .inl ⟨[I t.idx,I t.wid],2,false⟩)::(b54,z)::(b16, .inl ⟨nodeCells {nd with sort:=t},9,false⟩)::(b10, .inl ⟨da,5,false⟩)::(b8, .inl ⟨aw M',5,false⟩)::(B,rdC s q')::(A++X')):=K8
    clear K8 K7'
    repeat' (refine kr_ ?_)
    refine Kn.al K8' fun b368 h9 K9 l9 hb368=>?_
    refine kX (H:=_::_::_::_::_::_::A) (nd:={nd with sort:=t}) o' K9 (by omega) (.tail _ (.tail _ (.tail _ (.tail _ (.head _))))) fun s' X9 h10 o9 KF=>?_
    have K10:=KF _ (by((focus ((repeat first|exact .head|apply Upd.tail);done))))
    simp only [List.cons_append]at K10
    clear KF K9 K8'
    repeat' (refine kr_ ?_)
    refine CB (M:={M' with no:=s'}) K10 (by((focus ((repeat first|exact .head|apply Upd.tail);done)))) fun h11 K11=>?_
    exact k h11 q' X9 _ _ K11.tl.tl.tl.tl.tl o9 ((d'.addN htok (by show nd.name.size<=100;omega)).more (by omega)) (by simp) (by omega)
 (refine kr_ ?_)
 refine ac (fun e=>?_) (fun e=>?_)
 ·repeat' (refine kr_ ?_)
  refine ca ⟨_,_,rfl,?_⟩
  repeat' (refine kr_ ?_)
  refine uj (p:=q+1) (A:=(b54, .inl ⟨[I na.sort.idx,I na.sort.wid],2,false⟩)::(b16, .inl ⟨nodeCells ⟨kd,a,0,0,0,0,⟨0,0⟩,⟨#[]⟩⟩,9,false⟩)::(b10, .inl ⟨da,5,false⟩)::(b8, .inl ⟨aw M,5,false⟩)::A) (st:=⟨0,1⟩)
   (K9'.perm (zg _ _ _ _ _ _)) hb o d (by omega) hne (by omega) rfl fun h5 q5 X5 M5 m5 i5 K5 o5 d5 hi5 hl5 hq5=>⟨_,_,_,_,_,_,rfl,?_⟩
  replace K5:=K5.perm (zg _ _ _ _ _ _).symm
  clear K9'
  refine jB (M':=M5) K5 (by((focus ((repeat first|exact .head|apply Upd.tail);done)))) rfl fun h6 K6=>?_
  clear K5
  refine kw_ ?_
  intro h7 K7 kpz
  clear kpz
  have K7':Kn g h7 ((b54, .inl ⟨[I na.sort.idx,I na.sort.wid],2,false⟩)::(b16, .inl ⟨nodeCells ⟨kd,i5,0,0,0,0,⟨0,0⟩,⟨#[]⟩⟩,9,false⟩)::(b10, .inl ⟨da,5,false⟩)::(b8, .inl ⟨aw M5,5,false⟩)::(B,rdC s q5)::(A++X5)):=K7
  clear K6 K7
  have hl5':=o5.lens
  have hdn5:=d5.nodes
  (refine kr_ ?_)
  refine kp_ ?_
  intro x90 h8 K8 hx90 _
  refine⟨_,rfl,?_⟩
  replace hx90:x90<m5.nodes.length:=by have:=hx90 (by omega);omega
  clear K7'
  refine kw_ ?_
  intro h9 K9 kpz
  clear kpz
  have K9':Kn g h9 ((b54, .inl ⟨[I na.sort.idx,I na.sort.wid],2,false⟩)::(b16, .inl ⟨nodeCells ⟨kd,i5,x90,0,0,0,⟨0,0⟩,⟨#[]⟩⟩,9,false⟩)::(b10, .inl ⟨da,5,false⟩)::(b8, .inl ⟨aw M5,5,false⟩)::(B,rdC s (q5+1))::(A++X5)):=K9
  clear K8 K9
  repeat' (refine kr_ ?_)
  obtain⟨nb,hnb⟩: ∃n,m5.nodes[x90]?=some n:=⟨_,List.getElem?_eq_getElem hx90⟩
  have hs:=o5.modelS (A:=_::_::_::_::_::A) (d5.small (by omega)) K9'
  obtain⟨b,oo,ha',e0,e1,e2,e3,e4,e5,e6,e7,e8⟩:=hs.nodes.at hnb
  refine⟨b,oo,ha',(by first|omega|(dsimp only;omega)),(by first|omega|(dsimp only;omega)),_,by rw [Int.toNat_natCast];exact e6,_,by rw [Int.toNat_natCast];exact e7,?_⟩
  refine uj (p:=q5+1) (A:=(b54, .inl ⟨[I na.sort.idx,I na.sort.wid],2,false⟩)::(b16, .inl ⟨nodeCells ⟨kd,i5,x90,0,0,0,⟨0,0⟩,⟨#[]⟩⟩,9,false⟩)::(b10, .inl ⟨da,5,false⟩)::(b8, .inl ⟨aw M5,5,false⟩)::A) (st:=nb.sort)
   (K9'.perm (zg _ _ _ _ _ _)) hb o5 d5 (by omega) (by omega) (by omega) (ra d5 hnb) fun h5 q6 X6 M6 m6 i6 K5 o6 d6 hi6 hl6 hq6=>⟨_,_,_,_,_,_,rfl,?_⟩
  replace K5:=K5.perm (zg _ _ _ _ _ _).symm
  clear K9' hs e0 e1 e2 e3 e4 e5 e6 e7 e8
  refine jB (M':=M6) K5 (by((focus ((repeat first|exact .head|apply Upd.tail);done)))) rfl fun h10 K10=>?_
  clear K5
  refine kw_ ?_
  intro h11 K11 kpz
  clear kpz
  exact hJ h11 q6 X6 M6 m6 ⟨kd,i5,x90,i6,0,0,⟨0,0⟩,⟨#[]⟩⟩ _ rfl rfl o6 d6 (by omega) (by omega) K11
 have hnl:=hdn
 refine ap (fun J=> ∀c,J c) (fun c=>?_) (fun J hJ=>?_)
 rotate_left
 ·(refine kr_ ?_)
  refine ac (fun _=>hJ _) (fun _=>?_)
  (refine kr_ ?_)
  exact hJ _
 refine ac (fun _=>?_) (fun _=>?_)
 ·--arrays
  refine av m.nodes.length (fun i vs h'=> ∃a:Nat,vs= [.pointer (some ⟨B,0,none⟩), .pointer (some ⟨b8,0,none⟩), .pointer (some ⟨b10,0,none⟩), .pointer (some ⟨b16,0,none⟩), .pointer (some ⟨b54,0,none⟩),I i]/\a<m.nodes.length/\
   Kn g h' ((b54, .inl ⟨[I na.sort.idx,I na.sort.wid],2,false⟩)::(b16, .inl ⟨nodeCells ⟨kd,a,0,0,0,0,⟨0,0⟩,⟨#[]⟩⟩,9,false⟩)::(b10, .inl ⟨da,5,false⟩)::(b8, .inl ⟨aw M,5,false⟩)::(B,rdC s (q+1))::(A++X))) ⟨a,rfl,ha,K9'⟩ ?_
  rintro i _ h4 nxt hi ⟨a',rfl,ha',K4⟩ hnx
  refine⟨_,b8,0,b10,0,b16,0,b54,0,_,rfl,?_⟩
  have hs:=o.modelS (A:=_::_::_::_::_::A) hsm K4
  clear K9'
  (refine kr_ ?_)
  by_cases hlt:i<m.nodes.length
  ·refine aJ (by rw [decide_eq_true_eq];omega) ?_
   refine ap (fun J=> ∀h5 (c:Nat),c<m.nodes.length->Kn g h5 ((b54, .inl ⟨[I na.sort.idx,I na.sort.wid],2,false⟩)::(b16, .inl ⟨nodeCells ⟨kd,c,0,0,0,0,⟨0,0⟩,⟨#[]⟩⟩,9,false⟩)::(b10, .inl ⟨da,5,false⟩)::(b8, .inl ⟨aw M,5,false⟩)::(B,rdC s (q+1))::(A++X))->J h5) (fun h5 c hc K5=>?_) (fun J hJ=>?_)
   ·rw [aA (by omega)]
    exact hnx hlt _ _ ⟨c,rfl,hc,K5⟩
   ·(refine kr_ ?_)
    obtain⟨ni,hni⟩: ∃n,m.nodes[i]?=some n:=⟨_,List.getElem?_eq_getElem hlt⟩
    obtain⟨b,oo,ha2,e0,e1,e2,e3,e4,e5,e6,e7,e8⟩:=hs.nodes.at hni
    refine⟨b,oo,ha2,(by first|omega|(dsimp only;omega)),(by first|omega|(dsimp only;omega)),_,by rw [Int.toNat_natCast];exact e6,?_⟩
    clear e0 e1 e2 e3 e4 e5 e6 e7 e8
    refine ac (fun e=>?_) (fun e=>hJ h4 a' ha' K4)
    refine kw_ ?_
    intro h5 K5 kpz
    clear kpz
    exact hJ h5 i hlt K5
  refine aD (by rw [decide_eq_false_iff_not];omega) ?_
  clear hnx
  repeat' (refine kr_ ?_)
  obtain⟨nb,hnb⟩: ∃n,m.nodes[a']?=some n:=⟨_,List.getElem?_eq_getElem ha'⟩
  obtain⟨b,oo,ha2,e0,e1,e2,e3,e4,e5,e6,e7,e8⟩:=hs.nodes.at hnb
  refine⟨b,oo,ha2,(by first|omega|(dsimp only;omega)),(by first|omega|(dsimp only;omega)),_,by rw [Int.toNat_natCast];exact e6,_,by rw [Int.toNat_natCast];exact e7,?_⟩
  clear e0 e1 e2 e3 e4 e5 e6 e7 e8 hs
  obtain⟨⟨v1,v2⟩,v3,v4⟩:=kL (ra d hnb)
  refine kw_ ?_
  intro h5 K5 kpz
  clear kpz
  have K5':Kn g h5 ((b54, .inl ⟨[I nb.sort.idx,I nb.sort.wid],2,false⟩)::(b16, .inl ⟨nodeCells ⟨kd,a',0,0,0,0,⟨0,0⟩,⟨#[]⟩⟩,9,false⟩)::(b10, .inl ⟨da,5,false⟩)::(b8, .inl ⟨aw M,5,false⟩)::(B,rdC s (q+1))::(A++X)):=K5
  clear K5 K4
  (refine kr_ ?_)
  refine ac (fun e=>?_) (fun e=>?_)
  ·repeat' (refine kr_ ?_)
   refine CB K5' (by((focus ((repeat first|exact .head|apply Upd.tail);done)))) fun h8 K8=>?_
   exact k h8 (q+1) X M m K8.tl.tl.tl.tl o (d.more (by omega)) hne (by omega)
  have hi1:nb.sort.idx≠0:=fun q=>by rw [q]at e;simp at e
  repeat' (refine kr_ ?_)
  refine ca ⟨_,_,rfl,?_⟩
  repeat' (refine kr_ ?_)
  refine uj (p:=q+1) (A:=(b54, .inl ⟨[I nb.sort.idx,I nb.sort.wid],2,false⟩)::(b16, .inl ⟨nodeCells ⟨kd,a',0,0,0,0,⟨0,0⟩,⟨#[]⟩⟩,9,false⟩)::(b10, .inl ⟨da,5,false⟩)::(b8, .inl ⟨aw M,5,false⟩)::A) (st:=⟨0,nb.sort.idx⟩)
   (K5'.perm (zg _ _ _ _ _ _)) hb o d (by omega) hne (by omega) (xF (by omega) (by omega) (by omega) (by omega)) fun h6 q6 X6 M6 m6 i6 K6 o6 d6 hi6 hl6 hq6=>⟨_,_,_,_,_,_,rfl,?_⟩
  replace K6:=K6.perm (zg _ _ _ _ _ _).symm
  clear K5'
  refine jB (M':=M6) K6 (by((focus ((repeat first|exact .head|apply Upd.tail);done)))) rfl fun h7 K7=>?_
  clear K6
  refine kw_ ?_
  intro h8 K8 kpz
  clear kpz
  have K8':Kn g h8 ((b54, .inl ⟨[I nb.sort.idx,I nb.sort.wid],2,false⟩)::(b16, .inl ⟨nodeCells ⟨kd,a',i6,0,0,0,⟨0,0⟩,⟨#[]⟩⟩,9,false⟩)::(b10, .inl ⟨da,5,false⟩)::(b8, .inl ⟨aw M6,5,false⟩)::(B,rdC s q6)::(A++X6)):=K8
  clear K8 K7
  (refine kr_ ?_)
  refine ac (fun e=>?_) (fun e=>?_)
  ·repeat' (refine kr_ ?_)
   refine ca ⟨_,_,rfl,?_⟩
   repeat' (refine kr_ ?_)
   refine uj (p:=q6) (A:=(b54, .inl ⟨[I nb.sort.idx,I nb.sort.wid],2,false⟩)::(b16, .inl ⟨nodeCells ⟨kd,a',i6,0,0,0,⟨0,0⟩,⟨#[]⟩⟩,9,false⟩)::(b10, .inl ⟨da,5,false⟩)::(b8, .inl ⟨aw M6,5,false⟩)::A) (st:=⟨0,nb.sort.wid⟩)
    (K8'.perm (zg _ _ _ _ _ _)) hb o6 d6 (by omega) (by omega) (by omega) (xF (by omega) (by omega) (by omega) (by omega)) fun h9 q9 X9 M9 m9 i9 K9 o9 d9 hi9 hl9 hq9=>⟨_,_,_,_,_,_,rfl,?_⟩
   replace K9:=K9.perm (zg _ _ _ _ _ _).symm
   clear K8'
   refine jB (M':=M9) K9 (by((focus ((repeat first|exact .head|apply Upd.tail);done)))) rfl fun h10 K10=>?_
   clear K9
   refine kw_ ?_
   intro h11 K11 kpz
   clear kpz
   exact hJ h11 q9 X9 M9 m9 ⟨kd,a',i6,i9,0,0,⟨0,0⟩,⟨#[]⟩⟩ _ rfl rfl o9 d9 (by omega) (by omega) K11
  ·exact hJ h8 q6 X6 M6 m6 ⟨kd,a',i6,0,0,0,⟨0,0⟩,⟨#[]⟩⟩ _ rfl rfl o6 (d6.more (by omega)) (by omega) (by omega) K8'
 (refine kr_ ?_)
 refine ac (fun _=>?_) (fun _=>?_)
 ·(refine kr_ ?_)
  refine kp_ ?_
  intro y h10 K10 _ _
  refine⟨_,rfl,?_⟩
  clear K9'
  refine kw_ ?_
  intro h11 K11 kpz
  clear kpz
  exact hJ h11 _ X M m ⟨kd,a,y,0,0,0,⟨0,0⟩,⟨#[]⟩⟩ _ rfl rfl o (d.more (by omega)) hne (by omega) K11
 (refine kr_ ?_)
 refine ac (fun _=>?_) (fun _=>?_)
 ·(refine kr_ ?_)
  refine kp_ ?_
  intro y h10 K10 hy _
  refine⟨_,rfl,?_⟩
  replace hy:(y:Int)<na.sort.wid:=hy (by omega)
  clear K9'
  refine kw_ ?_
  intro h11 K11 kpz
  clear kpz
  have K11':Kn g h11 ((b54, .inl ⟨[I na.sort.idx,I na.sort.wid],2,false⟩)::(b16, .inl ⟨nodeCells ⟨kd,a,0,0,0,y,⟨0,0⟩,⟨#[]⟩⟩,9,false⟩)::(b10, .inl ⟨da,5,false⟩)::(b8, .inl ⟨aw M,5,false⟩)::(B,rdC s (q+1+1))::(A++X)):=K11
  clear K11 K10
  repeat' (refine kr_ ?_)
  (((with_reducible apply O3);(assumption);(assumption);((focus ((repeat first|exact .head|apply Upd.tail);done)))))
  ·omega
  ·(show W (na.sort.wid-(y:Int))<=1000000000);rw [bV (by omega) (by omega)];omega
  intro w h12 K12 _ _
  refine⟨_,rfl,?_⟩
  repeat' (refine kr_ ?_)
  clear K11'
  refine kw_ ?_
  intro h13 K13 kpz
  clear kpz
  exact hJ h13 _ X M m ⟨kd,a,0,0,W ((y:Int)+(w:Int)),y,⟨0,0⟩,⟨#[]⟩⟩ _ rfl rfl o (d.more (by omega)) hne (by omega) K13
 refine ap (fun J=> ∀c,J c) (fun c=>?_) (fun J hJ=>?_)
 rotate_left
 ·(refine kr_ ?_)
  refine ac (fun _=>hJ _) (fun _=>?_)
  (refine kr_ ?_)
  exact hJ _
 refine ac (fun _=>?_) (fun _=>?_)
 ·refine kp_ ?_
  intro y h10 K10 _ _
  refine⟨_,rfl,?_⟩
  clear K9'
  refine kw_ ?_
  intro h11 K11 kpz
  clear kpz
  exact hJ h11 _ X M m ⟨kd,a,0,0,y,0,⟨0,0⟩,⟨#[]⟩⟩ _ rfl rfl o (d.more (by omega)) hne (by omega) K11
 (refine kr_ ?_)
 refine nw ⟨_,rfl,?_⟩
 refine ac (fun _=>?_) (fun _=>?_)
 ·repeat' (refine kr_ ?_)
  refine uj (p:=q+1) (A:=(b54, .inl ⟨[I na.sort.idx,I na.sort.wid],2,false⟩)::(b16, .inl ⟨nodeCells ⟨kd,a,0,0,0,0,⟨0,0⟩,⟨#[]⟩⟩,9,false⟩)::(b10, .inl ⟨da,5,false⟩)::(b8, .inl ⟨aw M,5,false⟩)::A) (st:=na.sort)
   (K9'.perm (zg _ _ _ _ _ _)) hb o d (by omega) hne (by omega) hst fun h6 q6 X6 M6 m6 i6 K6 o6 d6 hi6 hl6 hq6=>⟨_,_,_,_,_,_,rfl,?_⟩
  replace K6:=K6.perm (zg _ _ _ _ _ _).symm
  clear K9'
  refine jB (M':=M6) K6 (by((focus ((repeat first|exact .head|apply Upd.tail);done)))) rfl fun h7 K7=>?_
  clear K6
  refine kw_ ?_
  intro h8 K8 kpz
  clear kpz
  exact hJ h8 q6 X6 M6 m6 ⟨kd,a,i6,0,0,0,⟨0,0⟩,⟨#[]⟩⟩ _ rfl rfl o6 (d6.more (by omega)) (by omega) (by omega) K8
 ·exact hJ h9 _ X M m ⟨kd,a,0,0,0,0,⟨0,0⟩,⟨#[]⟩⟩ _ rfl rfl o (d.more (by omega)) hne (by omega) K9'
end Go.Lead
