/- What functions of the program and of the reference come to, walked one by one, and plain laws about it: part 6. No condition is added to the statement. -/
import Derived.Test.YthfcbpocfmjefaaGreatZ4
namespace Go.Lead
open Go
set_option linter.unusedSimpArgs false
set_option linter.unusedVariables false
set_option maxRecDepth 100000
set_option maxHeartbeats 1000000
theorem Kn.low {g g1 h':Hp} {L:List (Nat×Blk)} (l:g.le g1) (K:Kn g1 h' L):Kn g h' L:=⟨Hp.le_trans l K.le,K.mem,fun e he=>aG l (K.new e he),K.nd⟩
set_option maxHeartbeats 4000000 in
theorem uj {h:Hp} {M:MSl} {m:ah} {sS sI:Sl} {xs ys:List Int} {R:Value->Hp->Prop} (hs:aO h M m) (hm:bR m) (h1:IntS h sS xs) (h2:IntS h sI ys)
  (k: ∀tS tI h',TrX h h' tS tI (ph m xs ys)->tS.n<=tS.c->R (A0 tS tI (gp m xs ys)) h'):fg #[aQ M, .agg #[sS.v,sI.v]] h R:=by
 apply GU
 refine uf_ ?_
 have hn:=h1.len
 have hni:=h2.len
 (with_reducible apply Kn.al);(exact Kn.nil h);(intro b9 h3 K1 l3 hb9)
 refine Kn.al K1 fun b11 h4 K2 l4 hb11=>?_
 refine Kn.al K2 fun b13 h5 K3 l5 hb13=>?_
 repeat' (refine kr_ ?_)
 clear K1 K2 l3 l4 l5 hb9 hb11 hb13
 refine ug (hs.mono K3.le) hm fun C h6 l6 hC=>⟨_,_,_,_,_,rfl,?_⟩
 have K6:=K3.mono l6
 clear K3
 refine Kn.al K6 fun b28 h7 K7 l7 hb28=>?_
 clear K6
 refine kw_ ?_
 intro h8 K8 kp8
 simp only [bX,List.set_cons_zero,List.set_cons_succ,Nat.zero_add,Nat.reduceAdd]at K8
 have hC8:aO h8 C (i7 m):=hC.mono (im hb28 l7 kp8)
 clear K7 kp8 hC l6 l7 hb28
 refine ap (fun J=> ∀(c:Bool),c=(!gp m xs ys)->J c h8) (fun c hc0=>?_) (fun J hJ=>?_)
 rotate_left
 ·repeat' (refine kr_ ?_)
  refine gG (hs.mono K8.le) hm ⟨_,rfl,?_⟩
  by_cases hc:aF m=0
  rotate_left
  ·refine aM (by rw [bne_iff_ne];exact hc) (hJ true ?_)
   unfold gp
   rw [decide_eq_false hc,Bool.false_and];rfl
  refine aC (by rw [hc];rfl) ?_
  repeat' (refine kr_ ?_)
  have smC:bR (i7 m):=by unfold i7;rw [if_pos hc];exact kc (cD hc) hm
  refine yq hC8 smC (h1.mono K8.le) (h2.mono K8.le) ⟨_,rfl,hJ _ ?_⟩
  unfold gp
  rw [decide_eq_true hc,Bool.true_and]
 refine ad (fun e=>?_) (fun e=>?_)
 ·have e':gp m xs ys=false:=by rw [e]at hc0;simpa using hc0.symm
  rw [J7 e',e']at k
  refine kw_ ?_
  intro h9 K9 _
  exact⟨⟨none,0,0⟩,by rw [ax (K9.at (.tail _ (.head _)))];rfl,⟨none,0,0⟩,by rw [ax (K9.at (.tail _ (.head _)))];rfl,k ⟨none,0,0⟩ ⟨none,0,0⟩ h9 (TrX.nil K9.le) (Nat.le_refl _)⟩
 have hok:gp m xs ys=true:=by rw [e]at hc0;simpa using hc0.symm
 clear e hc0 c
 rw [hok]at k
 unfold ph at k
 rw [hok,if_pos rfl]at k
 unfold gp at hok
 simp only [Bool.and_eq_true,decide_eq_true_eq]at hok
 obtain⟨hc,hsh⟩:=hok
 have g:=cD hc
 rw [show i7 m=de m by unfold i7;rw [if_pos hc]]at hsh hC8
 obtain⟨hcc,hx1,hx2,hyl,hxs,hys⟩:=gN hsh
 have gC:=cD hcc
 have smC:=kc g hm
 have n8:=g.n8
 have k5:=g.k5
 have n8C:=gC.n8
 have k5C:=gC.k5
 have hp8:2^ak m.nodes 36<=2^8:=Nat.pow_le_pow_right (by omega) n8
 have hp5:2^ak m.nodes 35<=2^5:=Nat.pow_le_pow_right (by omega) k5
 have hp8C:2^ak (de m).nodes 36<=2^8:=Nat.pow_le_pow_right (by omega) n8C
 have hp5C:2^ak (de m).nodes 35<=2^5:=Nat.pow_le_pow_right (by omega) k5C
 have hil:=g.il
 have hnl:=g.nl
 repeat' (refine kr_ ?_)
 refine Pe (hs.mono K8.le) hm g fun h9 bn Kn9=>⟨_,rfl,?_⟩
 have K9:=K8.mono Kn9.le
 have fb9:=Kn9.at (.head _)
 have hC9:=hC8.mono Kn9.le
 repeat' (refine kr_ ?_)
 clear Kn9 K8 hC8
 refine dj (hs.mono K9.le) hm fun pt h10 l10 ips=>⟨_,rfl,?_⟩
 have K10:=K9.mono l10
 repeat' (refine kr_ ?_)
 refine dj (hs.mono K10.le) hm fun pi h11 l11 ipi=>⟨_,rfl,?_⟩
 have K11:=K10.mono l11
 repeat' (refine kr_ ?_)
 refine zR (hs.mono K11.le) hm g fun vt h12 l12 hvn hpv=>⟨_,rfl,?_⟩
 have K12:=K11.mono l12
 replace ips:=ips.mono (Hp.le_trans l11 l12)
 replace ipi:=ipi.mono l12
 have l912:=Hp.le_trans l10 (Hp.le_trans l11 l12)
 have fb:=l912 _ _ fb9
 have hCb:=hC9.mono l912
 clear K9 K10 K11 l10 l11 l12 l912 fb9 hC9
 have hsb:=hs.mono K12.le
 have h1b:=h1.mono K12.le
 have h2b:=h2.mono K12.le
 have hpsn:pt.n=(stP m).length:=by have:=ips.len;rw [aX]at this;exact this
 have hinn:=hsb.inits.len
 have hp36:(stP m).length<=m.nodes.length:=dV m.nodes 36
 have f9:=K12.at (b:=b9) (by((focus ((repeat first|exact .head _|apply List.Mem.tail);done))))
 have f11:=K12.at (b:=b11) (by((focus ((repeat first|exact .head _|apply List.Mem.tail);done))))
 have f13:=K12.at (b:=b13) (by((focus ((repeat first|exact .head _|apply List.Mem.tail);done))))
 have f28:=K12.at (b:=b28) (by((focus ((repeat first|exact .head _|apply List.Mem.tail);done))))
 repeat' (refine kr_ ?_)
 refine m4 hsb hm ips (bV g 36) (ge g 36) fun out ts h13 c1 hon=>⟨out,rfl,?_⟩
 have l012:=K12.le
 have Kr:=Kn.of (Hp.le_trans c1.le (aW _ _))
 have aV:=yg g
 have nd:=yi m.nodes 36
 repeat' (refine kr_ ?_)
 refine au m.inits.length (fun j vs h'=> ∃ts:List Sl,vs= [.pointer (some ⟨b9,0,none⟩), .pointer (some ⟨b11,0,none⟩), .pointer (some ⟨b13,0,none⟩), .pointer (some ⟨b28,0,none⟩),(arr bn m.nodes.length).v,pt.v,pi.v,vt.v,out.v,M.ini.v,I M.ini.n,I (j:Nat)]/\h12.le (h'.offS out)/\Buf h' out 1 (ts.map Sl.v)/\ts.length=(stP m).length/\
  ∀(i p:Nat) (t:Sl),(stP m)[i]?=some p->ts[i]?=some t->IntS (h'.offS out) t (VL (Cl m j p))) ⟨ts,rfl,c1.le,c1.buf,by rw [c1.len,fy],fun i p t hp ht=>?_⟩ ?_
 ·obtain⟨b,e1,e2,e3⟩:=c1.row i t ht
  have hz:(ct m.nodes (stP m)).getD i []=Cl m 0 p:=by
   unfold ct Cl
   rw [List.getD_eq_getElem?_getD,List.getElem?_map,hp];rfl
  have hz4:((ct m.nodes (stP m)).getD i []).length<=4:=by
   unfold ct
   rw [List.getD_eq_getElem?_getD,List.getElem?_map,hp]
   simp only [Option.map_some,Option.getD_some,List.length_replicate]
   exact dk _ _
  rw [hz]at e1 e3 hz4
  rw [e1]
  exact⟨by dsimp only;omega,by simp [aX], .inr ⟨b,0,rfl,aw e3⟩⟩
 clear c1 Kr ts h13
 rintro j _ h13 next hj ⟨ts,rfl,l13,hbuf,htl,hts⟩ hnx
 have lo:=aW h13 out
 have l1213:=Hp.le_trans l13 lo
 refine⟨b9,0,b11,0,b13,0,b28,0,arr bn m.nodes.length,pt,pi,vt,out,M.ini,_,_,rfl,?_⟩
 by_cases hlt:j<m.inits.length
 ·refine aM (by rw [decide_eq_true_eq];omega) ?_
  obtain⟨bd,hbd⟩: ∃bd,m.inits[j]?=some bd:=⟨_,List.getElem?_eq_getElem hlt⟩
  obtain⟨p,ep,hp,n0,n1,v0,v4,hFp⟩:=QP g bd (List.mem_of_getElem? hbd)
  obtain⟨t,ht⟩:=List.getElem?_of_mem hp
  have htl':=get_lt ht
  have hpm:=bV g 36 p hp
  obtain⟨bi,oi,hai,cx1,cx2⟩:=(hsb.mono l1213).inits.at hbd
  refine⟨bi,oi,hai,by omega,by omega,_,by rw [Int.toNat_natCast];exact cx1,_,by rw [Int.toNat_natCast];exact cx2,?_⟩
  clear hai cx1 cx2 bi oi
  obtain⟨bn2,on2,han,hpn',c6,c7,w1,w16⟩:=hsb.nodes.sortc2 hpm g.ok
  obtain⟨bv,ov,u,hav,hvn',hcv,hu⟩:=hpv.at n0 n1
  have xbn:=fR c6
  have xbv:=fR hcv
  have x9:=cf f9
  have Kr:=Kn.of l1213
  refine Kn.al Kr fun b135 h14 K14 l14 hb135=>?_
  refine kw_ ?_
  intro h15 K15 kp15
  simp only [bX,List.set_cons_zero,List.set_cons_succ,Nat.zero_add,Nat.reduceAdd]at K15
  have l1315:h13.le h15:=im hb135 l14 kp15
  clear K14 kp15 l14 hb135 h14
  have l15:=K15.le
  have hst:=GG g hbd p
  rw [ep]at K15
  repeat' (refine kr_ ?_)
  refine⟨bn2,on2,han,by omega,hpn',_,l15.cell c6,_,l15.cell c7,?_⟩
  repeat' (refine kr_ ?_)
  refine⟨bv,ov,hav,n0,hvn',u,l15.cell hcv,?_⟩
  refine Dl (ips.mono l15) (N9 ht) (fun j hj e=>D9 nd ht j hj (af0 e)) ⟨_,rfl,?_⟩
  repeat' (refine kr_ ?_)
  refine wQ (hu.mono l15) v0 v4 fun t2 h16 l16 ht2=>⟨_,rfl,?_⟩
  rw [pg g.ok hpm]at ht2
  have hbuf16:=hbuf.mono (Hp.le_trans l1315 l16)
  have ht2o:=ht2.offL hbuf16
  have l1316o:=bC out (Hp.le_trans l1315 l16)
  refine hbuf16.wr (x:=t2) (by omega) fun h17 hbuf' ho=>?_
  rw [ay (by omega)]
  refine hnx hlt _ _ ⟨ts.set t t2,rfl,by rw [ho];exact Hp.le_trans l13 l1316o,hbuf',by rw [List.length_set];exact htl,fun i p' w hp' hw=>?_⟩
  rw [ho]
  have hst':=GG g hbd p'
  by_cases hit:i=t
  ·subst hit
   rw [ht]at hp'
   obtain rfl:=Option.some.inj hp'
   rw [List.getElem?_set_self (by omega)]at hw
   obtain rfl:=Option.some.inj hw
   rw [hst',if_pos ep];exact ht2o
  ·rw [List.getElem?_set_ne (fun e=>hit e.symm)]at hw
   have hne: ¬bd.state=(p':Int):=fun e=>hit (EK nd hp' (by rw [show p'=p by omega];exact ht))
   rw [hst',if_neg hne]
   exact(hts i p' w hp' hw).mono l1316o
 refine aC (by rw [decide_eq_false_iff_not];omega) ?_
 obtain rfl:j=m.inits.length:=by omega
 clear hnx hlt hj next
 have io0:IntSS h13 out ((fL m).map VL):=⟨ts,by rw [List.length_map,BT];exact htl,hbuf.slc_of (by rw [hon];have:=ge g 36;omega),fun i h1 h2=>by
  have hi:i<(stP m).length:=by omega
  have hpi:(stP m)[i]?=some (stP m)[i]:=List.getElem?_eq_getElem hi
  have:=(hts i _ _ hpi (List.getElem?_eq_getElem h1)).mono lo
  rw [<-Pm m hpi]at this
  rw [List.getElem_map]
  rwa [List.getD_eq_getElem?_getD,List.getElem?_eq_getElem (by rw [BT];exact hi)]at this⟩
 clear hbuf hts htl l13 lo hpv aV
 have K13:=Kn.of l1213
 refine Kn.al K13 fun b165 h14 K14 l14 hb165=>?_
 repeat' (refine kr_ ?_)
 clear K13
 rw [hn]
 refine au xs.length (fun i vs h'=> ∃(pre:List (Nat×Nat)) (o:List (List Nat)) (sO tS tI:Sl) (XS XI:List (Nat×Blk)),
  vs= [.pointer (some ⟨b9,0,none⟩), .pointer (some ⟨b11,0,none⟩), .pointer (some ⟨b13,0,none⟩), .pointer (some ⟨b28,0,none⟩),(arr bn m.nodes.length).v,pt.v,pi.v,sO.v, .pointer (some ⟨b165,0,none⟩),sS.v,I ((xs.length:Nat):Int),I (i:Nat)]/\Kn h12 h' ((b165, .inl ⟨[tS.v,tI.v],2,false⟩)::(XS++(XI++ [])))/\
  bT XS tS 1 ((VL (pre.map Prod.fst)).map I)/\bT XI tI 1 ((VL (pre.map Prod.snd)).map I)/\pre.length=i/\IntSS h' sO (o.map VL)/\jS m.nodes (stP m) o/\pre++qv m o ((jm xs ys).drop i)=qv m (fL m) (jm xs ys))
  ⟨[],fL m,out,⟨none,0,0⟩,⟨none,0,0⟩, [], [],rfl,K14,cF 1,cF 1,rfl,io0.mono l14,rU g,rfl⟩ ?_
 clear K14 l14 hb165 io0 l1213 h14
 rintro i _ h14 next hi ⟨pre,o,sO,tS,tI,XS,XI,rfl,K,oS,oI,hpl,io,fo,hrun⟩ hnx
 refine⟨b9,0,b11,0,b13,0,b28,0,arr bn m.nodes.length,pt,pi,sO,b165,0,sS,_,_,rfl,?_⟩
 have hpl1:=oS.1
 have hpl2:=oI.1
 simp only [List.length_map,aX,Nat.mul_one]at hpl1 hpl2
 by_cases hlt:i<xs.length
 rotate_left
 ·obtain rfl:i=xs.length:=by omega
  refine aC (by rw [decide_eq_false_iff_not];omega) ?_
  have hd:(jm xs ys).drop xs.length= []:=by rw [<-nG xs ys,List.drop_length]
  rw [hd]at hrun
  replace hrun:pre=qv m (fL m) (jm xs ys):=by rw [<-hrun];exact(List.append_nil pre).symm
  repeat' (refine kr_ ?_)
  have t:TrG h12 h14 tS tI pre:=by
   have nd:=K.nd
   rw [List.map_cons,List.nodup_cons]at nd
   exact⟨XS,XI,oS,oI,K.le,fun e he=>K.mem e (.tail _ he),fun e he=>K.new e (.tail _ he),nd.2⟩
  refine Ab (t.tr (by omega)) (by omega) fun uS uI h15 t6 c6=>⟨_,_,rfl,?_⟩
  have K15:=K12.mono (Hp.le_trans K.le t6.le)
  (with_reducible apply Kn.wr);(exact K15);((focus ((repeat first|exact .head|apply Upd.tail);done)))
  ·exact of_decide_eq_true rfl
  intro h16 K16 kp
  refine⟨uS,by rw [ax (K16.at (b:=b13) (by((focus ((repeat first|exact .head _|apply List.Mem.tail);done)))))];rfl,uI,by rw [ax (K16.at (b:=b13) (by((focus ((repeat first|exact .head _|apply List.Mem.tail);done)))))];rfl,?_⟩
  refine k uS uI h16 ?_ c6
  rw [<-hrun]
  exact t6.up (Hp.le_trans l012 K.le) (by rw [K.le _ _ f13];simp) K16.le kp
 clear K12
 refine aM (by rw [decide_eq_true_eq];omega) ?_
 obtain⟨hxi,hxl⟩:=hxs i hlt
 obtain⟨hyi,hyll⟩:=hys i hlt
 obtain⟨ba,oa,ha,hca⟩:=(h1b.mono K.le).get hxi
 refine⟨ba,oa,ha,by omega,by omega,_,by rw [Int.toNat_natCast];exact hca,?_⟩
 clear ha hca
 have x9:=cf f9
 have x11:=cf f11
 have x28:=cf f28
 repeat' (refine kr_ ?_)
 refine dj (hCb.mono K.le) smC fun qs h15 l15 iqs=>⟨_,rfl,?_⟩
 have K15:=K.mono l15
 repeat' (refine kr_ ?_)
 refine ab3 (hCb.mono K15.le) smC gC.ok iqs (bV gC 36) (ge gC 36) (by omega) fun u1 h16 l16 iu1 cu1=>⟨_,rfl,?_⟩
 have K16:=K15.mono l16
 have io16:=io.mono (Hp.le_trans l15 l16)
 have l1416:=Hp.le_trans l15 l16
 replace iu1:=iu1.mono (sP h16 l15)
 repeat' (refine kr_ ?_)
 refine Hq (g0:=h14) (hsb.mono K16.le) hm g (K16.le _ _ fb) l1416 iu1 cu1 io16 (v5 m 36 _) (by rw [jZ fo]) (vN fo) fun w1 h17 l17 iw1 cw1=>⟨_,rfl,?_⟩
 have K17:=K16.mono l17
 have l1417:=Hp.le_trans l1416 l17
 clear io16 io l15 l16 l17 l1416
 have f1:=xj (c:=cAt xs i) fo
 obtain⟨by_,oy,hay,hcy⟩:=h2b.get hyi
 have xby:=fR hcy
 repeat' (refine kr_ ?_)
 refine⟨by_,oy,hay,by omega,by omega,_,by rw [Int.toNat_natCast];exact K17.le.cell hcy,?_⟩
 refine m4 (hsb.mono K17.le) hm (ipi.mono K17.le) (bV g 35) (ge g 35) fun z1 tz h18 cz hzn=>⟨_,rfl,?_⟩
 have iz1:=cz.ints (fun v hv=>by have:=F6 hv;omega) (by rw [hzn];exact ge g 35)
 have l1718:=Hp.le_trans cz.le (aW _ _)
 have K18:=K17.mono l1718
 repeat' (refine kr_ ?_)
 clear cz
 refine dj (hCb.mono K18.le) smC fun qi h19 l19 iqi=>⟨_,rfl,?_⟩
 have K19:=K18.mono l19
 replace iz1:=iz1.mono l19
 repeat' (refine kr_ ?_)
 refine ab3 (hCb.mono K19.le) smC gC.ok iqi (bV gC 35) (ge gC 35) (by omega) fun u2 h20 l20 iu2 cu2=>⟨_,rfl,?_⟩
 have K20:=K19.mono l20
 replace iz1:=iz1.mono l20
 have l1420:=Hp.le_trans l1417 (Hp.le_trans l1718 (Hp.le_trans l19 l20))
 replace iu2:=iu2.mono (sP h20 (Hp.le_trans l1417 (Hp.le_trans l1718 l19)))
 replace iw1:=iw1.mono (eO h14 (Hp.le_trans l1718 (Hp.le_trans l19 l20)))
 repeat' (refine kr_ ?_)
 clear l19 l20 l1718 l1417
 refine Hq (g0:=h14) (hsb.mono K20.le) hm g (K20.le _ _ fb) l1420 iu2 cu2 iz1 (v5 m 35 _) (by rw [fy]) (vN (ey _ _)) fun w2 h21 l21 iw2 cw2=>⟨_,rfl,?_⟩
 have f2:=xj (c:=cAt ys i) (ey m.nodes (inP m))
 have K21:=K20.mono l21
 replace iw1:=iw1.mono (eO h14 l21)
 clear iu1 iu2 iz1 l21 l1420
 have lsb:=xU (h':=h21) K
 have KB:=K21.base
 have lB:=K21.leBase
 replace iw1:=iw1.mono lsb
 replace iw2:=iw2.mono lsb
 generalize h21.wo (List.map Prod.fst ((b165,Sum.inl ⟨[tS.v,tI.v],2,false⟩)::(XS++(XI++ []))))=gB at*
 clear lsb K21 K20 K19 K18 K17 K16 K15 K
 have hsB:=hsb.mono lB
 have ipsB:=ips.mono lB
 have ipiB:=ipi.mono lB
 have f9B:=lB _ _ f9
 have x9B:=cf f9B
 have hsl:upS m (cAt xs i) o<2^ak m.nodes 36:=PT g fo
 have hil2:upI m (cAt ys i)<2^ak m.nodes 35:=PO g _
 repeat' (refine kr_ ?_)
 refine BS (vs:=upL m 36 (cAt xs i) o) (hsB.mono KB.le) hm g.ok (ipsB.mono KB.le) (bV g 36) (ge g 36) (iw1.mono KB.le) f1 (by rw [eM g];omega) ⟨_,rfl,?_⟩
 rw [show dX m.nodes (av m.nodes 36) (upL m 36 (cAt xs i) o)=upS m (cAt xs i) o from rfl]
 repeat' (refine kr_ ?_)
 refine Kn.al KB fun b269 h22 K22 l22 hb269=>?_
 have f269:=K22.at (.head _)
 repeat' (refine kr_ ?_)
 refine Kn.growIn (A:= [_,_]) K22 oS (by omega) (by omega) (by omega) ⟨b269,0,rfl,aw f269⟩ rfl rfl fun tS' XS' h23 hnS oS' K23 l23=>?_
 simp only [List.cons_append,List.nil_append]at K23
 clear K22 l22 hb269 f269 KB
 (((with_reducible apply Kn.wr);(assumption);((focus ((repeat first|exact .head|apply Upd.tail);done)))))
 ·simp
 intro h24 K24 _
 simp only [bG,List.set_cons_zero,List.set_cons_succ,Nat.zero_add,Nat.reduceAdd]at K24
 repeat' (refine kr_ ?_)
 clear K23 l23
 refine BS (vs:=upL m 35 (cAt ys i) (ct m.nodes (inP m))) (hsB.mono K24.le) hm g.ok (ipiB.mono K24.le) (bV g 35) (ge g 35) (iw2.mono K24.le) f2 (by rw [xd g];omega) ⟨_,rfl,?_⟩
 rw [show dX m.nodes (av m.nodes 35) (upL m 35 (cAt ys i) (ct m.nodes (inP m)))=upI m (cAt ys i)from rfl]
 repeat' (refine kr_ ?_)
 refine Kn.al K24 fun b288 h25 K25 l25 hb288=>?_
 have f288:=K25.at (.head _)
 repeat' (refine kr_ ?_)
 refine Kn.growIn2 (A:= [_,_,_]) K25 oI (by omega) (by omega) (by omega) ⟨b288,0,rfl,aw f288⟩ rfl rfl fun tI' XI' h26 hnI oI' K26 l26=>?_
 simp only [List.cons_append,List.nil_append]at K26
 clear K25 l25 hb288 f288 K24
 (((with_reducible apply Kn.wr);(assumption);((focus ((repeat first|exact .head|apply Upd.tail);done)))))
 ·simp
 intro h27 K27 _
 simp only [bG,List.set_cons_zero,List.set_cons_succ,Nat.zero_add,Nat.reduceAdd]at K27
 clear K26 l26
 have nd2:=K27.nd
 have KS:Kn gB h27 ((b165, .inl ⟨[tS'.v,tI'.v],2,false⟩)::(XS'++(XI'++ []))):=by
  refine K27.sub (fun e he=> .tail _ (.tail _ he)) ?_
  simp only [List.map_cons,List.nodup_cons]at nd2⊢
  exact nd2.2.2
 clear K27 nd2
 have e1:dL m.nodes (stP m) (upS m (cAt xs i) o)=upL m 36 (cAt xs i) o:=Qj fo
 have e2:dL m.nodes (inP m) (upI m (cAt ys i))=upL m 35 (cAt ys i) (ct m.nodes (inP m)):=WB m _
 replace iw1:IntSS gB w1 ((upL m 36 (cAt xs i) o).map VL):=iw1
 replace iw2:IntSS gB w2 ((upL m 35 (cAt ys i) (ct m.nodes (inP m))).map VL):=iw2
 rw [<-e1]at iw1
 rw [<-e2]at iw2
 repeat' (refine kr_ ?_)
 refine yB (hsB.mono KS.le) hm g.ok g.nl (iw1.mono KS.le) cw1 (jT 36 _ g) (iw2.mono KS.le) cw2 (jT 35 _ g) fun t h28 l28 _ hpv=>⟨_,rfl,?_⟩
 have K28:=KS.mono l28
 replace hpv:gP h28 t (bL m (upS m (cAt xs i) o) (upI m (cAt ys i))):=hpv
 repeat' (refine kr_ ?_)
 refine HJ (hsB.mono K28.le) hm g hpv (dr g _ _) fun sO' h29 l29 io'=>⟨_,rfl,?_⟩
 have K29:=(K28.mono l29).low lB
 rw [ay (by omega)]
 refine hnx hlt _ _ ⟨pre++ [(upS m (cAt xs i) o,upI m (cAt ys i))],eg m (bL m (upS m (cAt xs i) o) (upI m (cAt ys i))),sO',tS',tI',XS',XI',rfl,K29,by simpa [VL] using oS',by simpa [VL] using oI',by simp;omega,io',jB g (dr g _ _).fit,?_⟩
 rw [<-hrun,zz hlt,List.append_assoc];rfl
theorem Gt {m:ah} {xs ys:List Int}:(ph m xs ys).length<=301:=by
 unfold ph
 split
 ·rename_i h
  rw [O9,nG]
  unfold gp at h
  have:=(gN (Bool.and_eq_true_iff.1 h).2).2.2.1
  omega
 ·simp
def fK (m:ah) (xs ys:List Int):Int:=if dN m xs ys=0 then xB m (bL m (cAt xs (xs.length-1)) (cAt ys (xs.length-1)))else-1
theorem pQ {h:Hp} {M:MSl} {m:ah} {sS sI:Sl} {xs ys:List Int} {R:Value->Hp->Prop} (hs:aO h M m) (hm:bR m) (h1:IntS h sS xs) (h2:IntS h sI ys)
  (k:R (I (fK m xs ys)) h):lQ #[aQ M, .agg #[sS.v,sI.v]] h R:=by
 refine ACalls.drop (Ip ?_)
 refine uf_ ?_
 have hn:=h1.len
 have fin: ∀h' L,Kn h h' L-> ∃h'',h''.le h'/\R (I (fK m xs ys)) h'':=fun h' L K=>⟨h,K.le,k⟩
 (with_reducible apply Kn.al);(exact Kn.nil h);(intro b9 h3 K1 l3 hb9)
 refine Kn.al K1 fun b11 h4 K2 l4 hb11=>?_
 clear K1
 repeat' (refine kr_ ?_)
 refine oM (hs.mono K2.le) hm (h1.mono K2.le) (h2.mono K2.le) ⟨_,rfl,ad (fun e=>?_) (fun e=>?_)⟩
 ·have:=fin _ _ K2
  unfold fK at this
  rwa [if_neg (iW e)]at this
 have e0:=fZ e
 obtain⟨hc,_,hx1,hx2,hyl,hxs,hys⟩:=And.intro (gN (xa e0)).1 (gN (xa e0))
 have g:=cD hc
 repeat' (refine kr_ ?_)
 obtain⟨a1,a2⟩:=hxs (xs.length-1) (by omega)
 obtain⟨c1,c2⟩:=hys (xs.length-1) (by omega)
 rw [show W (((sS.n:Nat):Int)-1)=((xs.length-1:Nat):Int) by rw [cd (by omega) (by omega)];omega]
 refine BN (hs.mono K2.le) hm g (h1.mono K2.le) (h2.mono K2.le) a1 c1 a2 c2 fun u w h5 l5 iu iw=>⟨_,_,rfl,?_⟩
 have K5:=K2.mono l5
 clear K2
 repeat' (refine kr_ ?_)
 refine Fu (hs.mono K5.le) hm hc iu iw ⟨_,rfl,?_⟩
 have:=fin _ _ K5
 unfold fK at this
 rwa [if_pos e0]at this
theorem pT {h:Hp} {M:MSl} {m:ah} {sS sI:Sl} {xs ys:List Int} {R:Value->Hp->Prop} (hs:aO h M m) (hm:bR m) (h1:IntS h sS xs) (h2:IntS h sI ys) (hcap:sS.n<=sS.c)
  (k:R (I (fK m xs ys)) h):lO #[aQ M, .agg #[sS.v,sI.v]] h R:=by
 refine ACalls.drop (H1 ?_)
 refine uf_ ?_
 have hn:=h1.len
 have hni:=h2.len
 have fin: ∀h' L,Kn h h' L-> ∃h'',h''.le h'/\R (I (fK m xs ys)) h'':=fun h' L K=>⟨h,K.le,k⟩
 (with_reducible apply Kn.al);(exact Kn.nil h);(intro b9 h3 K1 l3 hb9)
 refine Kn.al K1 fun b11 h4 K2 l4 hb11=>?_
 clear K1
 repeat' (refine kr_ ?_)
 refine kx (hs.mono K2.le) hm (h1.mono K2.le) (h2.mono K2.le) hcap ⟨_,rfl,ad (fun e=>?_) (fun e=>?_)⟩
 ·have:=fin _ _ K2
  unfold fK at this
  rwa [if_neg (iW e)]at this
 have e0:=fZ e
 obtain⟨hc,_,hx1,hx2,hyl,hxs,hys⟩:=And.intro (gN (xa e0)).1 (gN (xa e0))
 have g:=cD hc
 have n8:=g.n8
 have k5:=g.k5
 have hp8:2^ak m.nodes 36<=2^8:=Nat.pow_le_pow_right (by omega) n8
 have hp5:2^ak m.nodes 35<=2^5:=Nat.pow_le_pow_right (by omega) k5
 repeat' (refine kr_ ?_)
 obtain⟨a1,a2⟩:=hxs (xs.length-1) (by omega)
 obtain⟨c1,c2⟩:=hys (xs.length-1) (by omega)
 rw [show W (((sS.n:Nat):Int)-1)=((xs.length-1:Nat):Int) by rw [cd (by omega) (by omega)];omega]
 obtain⟨bx,ox,hax,hcx⟩:=h1.get a1
 obtain⟨by_,oy,hay,hcy⟩:=h2.get c1
 have xbx:=fR hcx
 have xby:=fR hcy
 refine⟨bx,ox,hax,by omega,by omega,_,by rw [Int.toNat_natCast];exact K2.le.cell hcx,?_⟩
 repeat' (refine kr_ ?_)
 refine⟨by_,oy,hay,by omega,by omega,_,by rw [Int.toNat_natCast];exact K2.le.cell hcy,?_⟩
 refine dj (hs.mono K2.le) hm fun p1 h5 l5 ip1=>⟨_,rfl,?_⟩
 have K5:=K2.mono l5
 repeat' (refine kr_ ?_)
 refine wK (hs.mono K5.le) hm g.ok ip1 (bV g 36) (ge g 36) (by omega) fun u1 h6 l6 iu1 cu1=>⟨_,rfl,?_⟩
 have K6:=K5.mono l6
 repeat' (refine kr_ ?_)
 refine dj (hs.mono K6.le) hm fun p2 h7 l7 ip2=>⟨_,rfl,?_⟩
 have K7:=K6.mono l7
 repeat' (refine kr_ ?_)
 refine wK (hs.mono K7.le) hm g.ok ip2 (bV g 35) (ge g 35) (by omega) fun u2 h8 l8 iu2 cu2=>⟨_,rfl,?_⟩
 have K8:=K7.mono l8
 repeat' (refine kr_ ?_)
 refine yB (hs.mono K8.le) hm g.ok g.nl (iu1.mono (Hp.le_trans l7 l8)) cu1 (jT 36 _ g) iu2 cu2 (jT 35 _ g) fun t h9 l9 _ hpv=>⟨_,rfl,?_⟩
 have K9:=K8.mono l9
 replace hpv:gP h9 t (bL m (cAt xs (xs.length-1)) (cAt ys (xs.length-1))):=hpv
 repeat' (refine kr_ ?_)
 refine I9 (hs.mono K9.le) g hpv (dr g _ _) ⟨_,rfl,?_⟩
 have:=fin _ _ K9
 unfold fK at this
 rwa [if_pos e0]at this
theorem He {m:ah} (hm:bR m):bR (i7 m):=by
 unfold i7
 split
 ·rename_i hc;exact kc (cD hc) hm
 ·exact⟨by simp,by simp,by simp,by simp,by simp,fun n hn=>by simp at hn⟩
theorem DK {h:Hp} {s:Sl} {bs:List Nat} {R:Value->Hp->Prop} (hcap:s.n<=s.c) (hs:ByteS h s bs)
  (k: ∀(h':Hp) (M:MSl) (m:ah) (sS sI:Sl) (us vs:List Int),h.le h'->aO h' M m->bR m->IntS h' sS us->IntS h' sI vs->sS.n<=sS.c->sI.n<=sI.c->us.length<=400->vs.length<=400->
   R (.tuple #[aQ M, .agg #[sS.v,sI.v]]) h'):mQ #[s.v] h R:=by
 apply AU
 refine uf_ ?_
 (with_reducible apply Kn.al);(exact Kn.nil h);(intro b3 h1 K1 l1 hb3)
 refine Kn.al K1 fun b5 h2 K2 l2 hb5=>?_
 refine IC K2 hcap hs fun B h3 s' bs' hb K3=>⟨_,rfl,?_⟩
 clear K1 K2
 refine Bo K3 hb (by omega) fun h4 q X M m K4 o d hq=>⟨_,_,_,_,_,rfl,?_⟩
 clear K3
 refine Kn.al K4 fun b19 h5 K5 l5 hb19=>?_
 refine vu (M':=M) K5 (by((focus ((repeat first|exact .head|apply Upd.tail);done)))) rfl fun h6 K6=>?_
 clear K4 K5 l5 hb19
 simp only [List.cons_append,List.nil_append]at K6
 repeat' (refine kr_ ?_)
 have K7:Kn h h6 (((b19, .inl ⟨aH M,5,false⟩)::(b5, .inl ⟨[(⟨none,0,0⟩:Sl).v,(⟨none,0,0⟩:Sl).v],2,false⟩)::(b3, .inl ⟨eA,5,false⟩)::X)++ [(B,rdC s' q)]):=by
  refine K6.perm ?_
  refine List.Perm.trans ?_ (List.perm_append_comm (l₁:= [(B,rdC s' q)]))
  exact List.Perm.swap _ _ _
 obtain⟨g0,KA,KL⟩:=Kn.cut K7
 clear K7
 have hm:=d.small (by omega)
 refine vB ((o.modelS (A:= [_,_,_]) hm KA).mono KL.le) hm fun C h7 l7 hC=>⟨_,_,_,_,_,rfl,?_⟩
 have K67:=K6.mono l7
 have KL7:=KL.mono l7
 have hC7:=hC.mono (xU KL)
 have lB:=KL7.leBase
 have KB:=KL7.base
 have sv:=And.intro KB KA
 clear KL KL7 KB KA
 repeat' (refine kr_ ?_)
 obtain⟨KB,KA⟩:=sv
 generalize h7.wo (List.map Prod.fst [(B,rdC s' q)])=g1 at*
 refine JO (hb.mono (Hp.le_trans KA.le lB)) KB hC7 (He hm) (by omega) fun sS sI us vs h8 l8 i1 i2 c1 c2 n1 n2=>⟨_,_,rfl,?_⟩
 have K8:=KA.mono (Hp.le_trans lB l8)
 clear KB KA K67 hC7 hC
 repeat' (refine kr_ ?_)
 clear K6
 have f3:=K8.at (b:=b3) (.tail _ (.tail _ (.head _)))
 refine kw_ ?_
 intro h9 K9 kp9
 simp only [bX,List.set_cons_zero,List.set_cons_succ,Nat.zero_add,Nat.reduceAdd]at K9
 replace i1:=i1.keepN f3 (yJ ⟨none,0,0⟩ ⟨none,0,0⟩ ⟨none,0,0⟩ ⟨none,0,0⟩ ⟨none,0,0⟩) kp9
 replace i2:=i2.keepN f3 (yJ ⟨none,0,0⟩ ⟨none,0,0⟩ ⟨none,0,0⟩ ⟨none,0,0⟩ ⟨none,0,0⟩) kp9
 have f5:=K9.at (b:=b5) (.tail _ (.head _))
 clear K8 kp9 f3
 refine kw_ ?_
 intro h10 K10 kp10
 simp only [bX,List.set_cons_zero,List.set_cons_succ,Nat.zero_add,Nat.reduceAdd]at K10
 replace i1:=i1.keepN f5 (ii ⟨none,0,0⟩ ⟨none,0,0⟩) kp10
 replace i2:=i2.keepN f5 (ii ⟨none,0,0⟩ ⟨none,0,0⟩) kp10
 clear K9 kp10 f5
 repeat' (refine kr_ ?_)
 exact k h10 M m sS sI us vs K10.le (o.modelS (A:= [_,_,_]) hm K10) hm i1 i2 c1 c2 n1 n2
set_option maxHeartbeats 1000000 in
theorem FnLift_spec {h:Hp} {s:Sl} {bs:List Nat} {R:Value->Hp->Prop} (hcap:s.n<=s.c) (hs:ByteS h s bs) (k:R (.bool true) h):CJ #[s.v] h R:=by
 refine ACalls.drop (NI ?_)
 refine uf_ ?_
 refine ad (fun _=>⟨h,Hp.le_refl _,k⟩) (fun _=>?_)
 refine DK hcap hs fun h1 M m sS sI us vs l1 hM hm i1 i2 c1 c2 n1 n2=>⟨_,_,_,_,_,_,_,rfl,?_⟩
 have fin: ∀h' L,Kn h1 h' L-> ∃h'',h''.le h'/\R (.bool true) h'':=fun h' L K=>⟨h,Hp.le_trans l1 K.le,k⟩
 (with_reducible apply Kn.al);(exact Kn.nil h1);(intro b16 h2 K1 l2 hb16)
 refine Kn.al K1 fun b18 h3 K2 l3 hb18=>?_
 refine vu (M':=M) K2 (by((focus ((repeat first|exact .head|apply Upd.tail);done)))) rfl fun h4 K4=>?_
 clear K1 K2
 refine kw_ ?_
 intro h5 K5 _
 simp only [bX,List.set_cons_zero,List.set_cons_succ,Nat.zero_add,Nat.reduceAdd]at K5
 clear K4
 have ls:=i1.len
 have hlen:=Gt (m:=m) (xs:=us) (ys:=vs)
 repeat' (refine kr_ ?_)
 refine uj (M:=M) (sS:=sS) (sI:=sI) (hM.mono K5.le) hm (i1.mono K5.le) (i2.mono K5.le) fun gS gI h6 tg cg=>⟨_,_,_,rfl,?_⟩
 have K6:=K5.mono tg.le
 clear K5
 refine Kn.al K6 fun b39 h7 K7 l7 hb39=>?_
 refine kw_ ?_
 intro h8 K8 kp8
 simp only [bX,List.set_cons_zero,List.set_cons_succ,Nat.zero_add,Nat.reduceAdd]at K8
 have hg:=(tg.mono (im hb39 l7 kp8)).ints
 clear K6 K7 kp8 l7 hb39 tg h7
 repeat' (refine kr_ ?_)
 refine nX (M:=M) (sS:=sS) (sI:=sI) (hM.mono K8.le) hm (i1.mono K8.le) (i2.mono K8.le) fun wS wI h9 tw0=>⟨_,_,_,rfl,?_⟩
 have tw:=tw0.tr (by omega)
 clear tw0
 have K9:=K8.mono tw.le
 replace hg:IntS h9 gS _/\IntS h9 gI _:=⟨hg.1.mono tw.le,hg.2.mono tw.le⟩
 clear K8
 refine Kn.al K9 fun b57 h10 K10 l10 hb57=>?_
 refine kw_ ?_
 intro h11 K11 kp11
 simp only [bX,List.set_cons_zero,List.set_cons_succ,Nat.zero_add,Nat.reduceAdd]at K11
 have l9:=im hb57 l10 kp11
 have hw:=(tw.mono l9).ints
 replace hg:IntS h11 gS _/\IntS h11 gI _:=⟨hg.1.mono l9,hg.2.mono l9⟩
 clear K9 K10 kp11 hb57 l10 l9 tw
 refine ap (fun J=>J false h11) (aC rfl ?_) (fun J hJ=>?_)
 rotate_left
 ·refine aC (by simp) ?_
  repeat' (refine kr_ ?_)
  exact Qz hg hw ⟨_,rfl,hJ⟩
 clear hw
 refine ad (fun _=>fin _ _ K11) (fun e=>?_)
 have hok:gp m us vs=true:=by simpa using e
 clear e
 obtain⟨q1,q2,q3⟩:=Xy hok
 repeat' (refine kr_ ?_)
 refine kv (M:=M) (hM.mono K11.le) hm fun C h12 l12 hC=>⟨_,_,_,_,_,rfl,?_⟩
 have K12:=K11.mono l12
 refine Kn.al K12 fun b90 h13 K13 l13 hb90=>?_
 refine kw_ ?_
 intro h14 K14 kp14
 simp only [bX,List.set_cons_zero,List.set_cons_succ,Nat.zero_add,Nat.reduceAdd]at K14
 have l1214:=im hb90 l13 kp14
 replace hC:=hC.mono l1214
 replace hg:IntS h14 gS _/\IntS h14 gI _:=⟨hg.1.mono (Hp.le_trans l12 l1214),hg.2.mono (Hp.le_trans l12 l1214)⟩
 have x11:=K11
 clear K12 K13 kp14 hb90 l13 l1214 l12 x11
 have smC:=He hm
 repeat' (refine kr_ ?_)
 refine oM (M:=C) (sS:=sS) (sI:=sI) hC smC (i1.mono K14.le) (i2.mono K14.le) ⟨_,rfl,?_⟩
 repeat' (refine kr_ ?_)
 have hgn:=hg.1.len
 rw [aX,List.length_map,q1]at hgn
 refine aM (by rw [beq_iff_eq];omega) ?_
 repeat' (refine kr_ ?_)
 refine kx (M:=M) (sS:=gS) (sI:=gI) (hM.mono K14.le) hm hg.1 hg.2 cg ⟨_,rfl,?_⟩
 refine aM (by rw [q2];simp) ?_
 repeat' (refine kr_ ?_)
 refine pT (M:=M) (sS:=gS) (sI:=gI) (hM.mono K14.le) hm hg.1 hg.2 cg ⟨_,rfl,?_⟩
 repeat' (refine kr_ ?_)
 refine pQ (M:=C) (sS:=sS) (sI:=sI) hC smC (i1.mono K14.le) (i2.mono K14.le) ⟨_,rfl,?_⟩
 have e:fK m (VL ((ph m us vs).map Prod.fst)) (VL ((ph m us vs).map Prod.snd))=fK (i7 m) us vs:=by
  unfold fK
  rw [q2,aX,List.length_map,q1,q3]
 rw [e,show ((fK (i7 m) us vs==fK (i7 m) us vs)=true) by simp]
 exact fin _ _ K14
end Go.Lead
