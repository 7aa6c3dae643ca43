/- What functions of the program and of the reference come to, walked one by one, and plain laws about it: part 3. No condition is added to the statement. -/
import Derived.Test.YtlfhohhpeklnkaaGreatZ1
namespace Go.Lead
open Go
set_option linter.unusedSimpArgs false
set_option linter.unusedVariables false
set_option maxRecDepth 100000
set_option maxHeartbeats 1000000
theorem Buf.slS {h h0:Hp} {s:Sl} {xs:List Int} (e:Buf (h.sub h0) s 1 (xs.map I)) (hn:s.n<=9223372036854775807):IntS h s xs:=(Buf.slc_of e hn).mono (sub_le _ _)
theorem jq.wid {h:Hp} {s:Sl} {l:List NodeP} (e:jq h s l) {p:Int} (h0:0<=p) (hp:p<l.length):
  ∃b o,s.a=some (Addr.mk b o none)/\p<(s.n:Int)/\Hp.cell h b ((o+p.toNat*9)+6+1)=some (I (aA l p).wid):=by
 obtain⟨n,hn1⟩: ∃n,l[p.toNat]?=some n:=⟨_,List.getElem?_eq_getElem (by omega)⟩
 obtain⟨ba,oa,ha1,_,_,_,_,_,_,c6,c7,_⟩:=e.at hn1
 refine⟨ba,oa,ha1,by have:=e.len;omega,?_⟩
 rw [qs hn1];exact c7
theorem Oq {h:Hp} {l:List NodeP} {i:Nat} {n:NodeP} {sn s:Sl} {v:List (List Nat)} {R:Value->Hp->Prop} (hl:l.length<=60) (hi:i<=l.length)
  (ht:NL l i n) (hv:yg l i v) (hvl:v.length=i) (hsn:jq h sn l) (hpv:gD h s v) (hk34: ¬n.kind=34) (hk35: ¬n.kind=35) (hk36: ¬n.kind=36)
  (k: ∀t h',h.le h'->IntS h' t (VL (fu l n v))->R (.agg #[Sl.v t]) h'):ub #[sn.v,EF n,s.v] h R:=by
 obtain⟨val,hnv⟩: ∃val,val=fu l n v:=⟨_,rfl⟩
 rw [<-hnv]at k
 unfold fu at hnv
 apply Jj
 refine uf_ ?_
 have hk:=ht.kind
 have hp:0<ar n.kind:=by
  have:ar n.kind≠0:=by intro h0;revert h0;unfold ar;(repeat' split)<;>(intro h;omega)
  omega
 have pk:=ht.part
 have pf: ∀j:Nat,j<3->(j:Int)<ar n.kind->Fit (aA l (aW n j)) (v.getD (aW n j).toNat []):=fun j h1 h2=>hv.part ht hi h1 h2
 refine aj fun b13 h1 hb13 l1 f13=>?_
 refine aj fun b15 h2 hb15 l2 f15=>?_
 have n13:=fresh_ne hb15 f13
 have b15n:=aF l1 hb15
 replace f13:=l2 _ _ f13
 replace l2:=Hp.le_trans l1 l2
 (refine az ?_)
 obtain⟨ba,oa,ta,ha,h1',hca,hta⟩:=(hpv.mono l2).at (pk 0 (by omega) (by omega)).1 (by have:=(pk 0 (by omega) (by omega)).2.1;omega)
 refine⟨ba,oa,ha,(pk 0 (by omega) (by omega)).1,h1',ta,hca,?_⟩
 refine aj fun b22 h3 hb22 l3 f22'=>?_
 have n22:=fresh_ne hb22 f13
 have n22':=fresh_ne hb22 f15
 have b22n:=aF l2 hb22
 (with_reducible apply bZ);(exact f22');(exact l3);(exact hb22);(exact Nat.le_refl 1)
 intro h4 f22 kp l4
 replace f13:=l4 _ _ f13
 replace f15:=l4 _ _ f15
 have l0:=Hp.le_trans l2 l4
 replace hta:=hta.mono l4
 have f22v:h4 b22=some (.inl ⟨[ta.v],1,false⟩):=f22
 clear f22 f22' l1 l2 l3 l4 hb13 hb15 hb22 h1 h2 h3 hca kp
 have res: ∀(h5:Hp) (t:Sl),h.le h5->h5 b15=some (.inl ⟨[.slice none 0 0],1,false⟩)->IntS h5 t (VL val)->
   ∃(cs:List Value) (z:Nat),h5 b15=some (.inl ⟨cs,z,false⟩)/\0+1<=List.length cs/\cA (h5.row b15 (cz cs 0 [t.v]) z) fun h'=> ∃(s:Sl),Hp.cell h' b15 0=some s.v/\R (.agg #[s.v]) h':=by
  intro h5 t l5 g15 hval
  (with_reducible apply bZ);(exact g15);(exact l5);(exact b15n);(exact Nat.le_refl 1)
  intro h6 g kp l6
  exact⟨t,by rw [aq g];rfl,k t h6 l6 (hval.keep g15 kp)⟩
 clear k
 have wres: ∀(x:Nat) (z:Int),z=x->val= [x]->jX #[I z] h4 fun v30 h31=> ∃(s32:Sl),v30=(.agg #[s32.v])/\(∃(cs33:List Value) (z34:Nat),h31 b15=some (.inl ⟨cs33,z34,false⟩)/\0+1<=List.length cs33/\cA (h31.row b15 (cz cs33 0 [s32.v]) z34) fun h35=> ∃(s36:Sl),Hp.cell h35 b15 0=some s36.v/\(R (.agg #[s36.v]) h35)):=by
  intro x z hz hx
  subst hz
  refine GS fun t h5 l5 hval=>⟨t,rfl,res h5 t (Hp.le_trans l0 l5) (l5 _ _ f15) ?_⟩
  rw [hx];exact hval
 have cres: ∀(s0:Sl) (x:List Nat),IntS h4 s0 (VL x)->x.length<=4->val=x->gi #[.agg #[s0.v]] h4 fun v30 h31=> ∃(s32:Sl),v30=(.agg #[s32.v])/\(∃(cs33:List Value) (z34:Nat),h31 b15=some (.inl ⟨cs33,z34,false⟩)/\0+1<=List.length cs33/\cA (h31.row b15 (cz cs33 0 [s32.v]) z34) fun h35=> ∃(s36:Sl),Hp.cell h35 b15 0=some s36.v/\(R (.agg #[s36.v]) h35)):=by
  intro s0 x hs0 hx hval
  refine qP hs0 (by rw [aY];omega) fun t h5 l5 hb=>⟨t,rfl,res h5 t (Hp.le_trans l0 l5) (l5 _ _ f15) ?_⟩
  rw [hval];exact hb.slS (by have:=hb.1;rw [List.length_map,aY]at this;omega)
 have hpv4:=hpv.mono l0
 have vat: ∀j:Nat,j<3->(j:Int)<ar n.kind->_:=fun j h1 h2=>hpv4.at (pk j h1 h2).1 (by have:=(pk j h1 h2).2.1;omega)
 have hres:=ht.res hp
 have oa':=cd.1 (pk 0 (by omega) hp).2.2
 rw [if_neg hk34]at hnv
 have hkinds:=kN hp
 have len4: ∀j:Nat,j<3->(j:Int)<ar n.kind->(v.getD (aW n j).toNat []).length<=4:=fun j h1 h2=>by
  have o:=cd.1 (pk j h1 h2).2.2
  rw [(pf j h1 h2).len]
  have:=Nat.pow_le_pow_right (n:=2) (by omega) (show (aA l (aW n j)).idx.toNat<=2 by omega);simpa using this
 obtain⟨bw,ow,hwa,hwl,hwc⟩:=(hsn.mono l0).wid (pk 0 (by omega) (by omega)).1 (by have:=(pk 0 (by omega) (by omega)).2.1;omega)
 (refine az ?_)
 refine⟨bw,ow,hwa,(pk 0 (by omega) (by omega)).1,hwl,_,hwc,?_⟩
 have ta0:=hta.elt (pf 0 (by omega) (by omega)).pos
 obtain⟨b0,o0,a0,e0,m0⟩:=ta0
 refine ap (fun J=> ∀x:Nat,val= [x]->J x h4) ?_ (fun J hJ=>?_)
 ·intro x hx;exact wres x x rfl hx
 (refine az ?_)
 refine ac (fun e=>?_) (fun e33=>?_)
 ·have e:=bV e
  have hp3:ar n.kind=3:=by omega
  rw [if_pos e]at hnv
  (refine az ?_)
  refine⟨b0,o0,a0,by omega,by omega,_,e0,?_⟩
  refine ac (fun e=>?_) (fun e=>?_)
  ·(refine az ?_)
   obtain⟨b,o,t,ha,h1,h2,h3'⟩:=vat 1 (by omega) (by omega)
   refine⟨b,o,ha,(pk 1 (by omega) (by omega)).1,h1,t,h2,cres t _ h3' (len4 1 (by omega) (by omega)) ?_⟩
   have:cB v n.a=1:=by have:=bV e;unfold cB;simp only [aW]at this;omega
   rw [hnv,if_pos this];rfl
  ·(refine az ?_)
   obtain⟨b,o,t,ha,h1,h2,h3'⟩:=vat 2 (by omega) (by omega)
   refine⟨b,o,ha,(pk 2 (by omega) (by omega)).1,h1,t,h2,cres t _ h3' (len4 2 (by omega) (by omega)) ?_⟩
   have: ¬cB v n.a=1:=by have:=bk e;unfold cB;simp only [aW]at this;omega
   rw [hnv,if_neg this];rfl
 replace e33:=bk e33
 rw [if_neg e33]at hnv
 (refine az ?_)
 refine ac (fun e=>?_) (fun e37=>?_)
 ·have e:=bV e
  have hp2:ar n.kind=2:=by omega
  obtain⟨r1,r2,r3⟩:=Ry e hres
  rw [if_neg (show¬n.kind=21 by omega),if_pos e]at hnv
  repeat' (refine az ?_)
  obtain⟨b,o,t,ha,h1,h2,h3'⟩:=vat 1 (by omega) (by omega)
  obtain⟨b2,o2,ha2,hc2,hl2⟩:=h3'.elt (pf 1 (by omega) (by omega)).pos
  refine⟨b,o,ha,(pk 1 (by omega) (by omega)).1,h1,t,h2,b2,o2,ha2,by omega,by omega,_,hc2,?_⟩
  have fb:=(pf 1 (by omega) (by omega)).cell
  have fa:=(pf 0 (by omega) (by omega)).len
  simp only [aW]at fb fa hta
  rw [r2]at fb
  have hlt:cB v n.b<(v.getD n.a.toNat []).length:=by rw [fa];exact fb
  obtain⟨b3,o3,ha3,hc3,hl3⟩:=hta.elt hlt
  refine⟨b3,o3,ha3,by omega,by show (cB v n.b:Int)<_;omega,_,hc3,?_⟩
  exact wres _ _ rfl hnv
 replace e37:=bk e37
 (refine az ?_)
 refine ac (fun e=>?_) (fun e38=>?_)
 ·have e:=bV e
  have hp3:ar n.kind=3:=by omega
  obtain⟨r1,r2,r3,r4⟩:=Rp e hres
  rw [if_neg (show¬n.kind=21 by omega),if_neg e37,if_pos e]at hnv
  repeat' (refine az ?_)
  have fb:=(pf 1 (by omega) (by omega)).cell
  have fa:=(pf 0 (by omega) (by omega)).len
  have hle4:=len4 0 (by omega) (by omega)
  simp only [aW]at fb fa hta hle4
  rw [r2]at fb
  have hlt:cB v n.b<(v.getD n.a.toNat []).length:=by rw [fa];exact fb
  refine qP hta (by rw [aY];omega) fun c h5 l5 hb5=>⟨c,rfl,?_⟩
  have hcn:c.n=(v.getD n.a.toNat []).length:=by have:=hb5.1;rw [List.length_map,aY]at this;omega
  obtain⟨bc,hca,hcrow⟩: ∃bc,c.a=some ⟨bc,0,none⟩/\(h5.sub h4) bc=some (.inl ⟨(VL (v.getD n.a.toNat [])).map I,c.c*1,false⟩):=by
   rcases hb5.2.2 with ⟨_,h0,_⟩|h0
   ·omega
   ·exact h0
  have hc5:h5 bc=some (.inl ⟨(VL (v.getD n.a.toNat [])).map I,c.c*1,false⟩):=sub_le _ _ _ _ hcrow
  have hc3:h4 bc=none:=by
   cases hx:h4 bc with
   |none=>rfl
   |some x=>rw [mC hx]at hcrow;cases hcrow
  have g13:=l5 _ _ f13
  have g15:=l5 _ _ f15
  refine aj fun b24 h6 hb24 l6 f24'=>?_
  have m13:=fresh_ne hb24 g13
  have m15:=fresh_ne hb24 g15
  have mc:=fresh_ne hb24 hc5
  have hb24n:=aF l5 hb24
  (with_reducible apply bZ);(exact f24');(exact Hp.le_trans l5 l6);(exact hb24n);(exact Nat.le_refl 1)
  intro h7 f24 kp l7
  replace g13:=ck kp m13 (l6 _ _ g13)
  replace g15:=ck kp m15 (l6 _ _ g15)
  have gc:=ck kp mc (l6 _ _ hc5)
  have hpv7:=hpv4.mono l7
  refine⟨c,by rw [aq f24];rfl,?_⟩
  (refine az ?_)
  obtain⟨b,o,t,ha,h1,h2,h3'⟩:=hpv7.at (pk 1 (by omega) (by omega)).1 (by have:=(pk 1 (by omega) (by omega)).2.1;omega)
  obtain⟨b2,o2,ha2,hc2,hl2⟩:=h3'.elt (pf 1 (by omega) (by omega)).pos
  refine⟨b,o,ha,(pk 1 (by omega) (by omega)).1,h1,t,h2,b2,o2,ha2,by omega,by omega,_,hc2,?_⟩
  (refine az ?_)
  obtain⟨b',o',t',ha',h1',h2',h3''⟩:=hpv7.at (pk 2 (by omega) (by omega)).1 (by have:=(pk 2 (by omega) (by omega)).2.1;omega)
  obtain⟨b2',o2',ha2',hc2',hl2'⟩:=h3''.elt (pf 2 (by omega) (by omega)).pos
  refine⟨b',o',ha',(pk 2 (by omega) (by omega)).1,h1',t',h2',b2',o2',ha2',by omega,by omega,_,hc2',?_⟩
  refine⟨bc,0,hca,by omega,by show (cB v n.b:Int)<_;omega,?_⟩
  (with_reducible apply bZ);(exact gc);(exact l7);(exact hc3);(rw [List.length_map,aY];show 0+Int.toNat (cB v n.b:Int)*1+1<=_;omega)
  intro h8 gc' kp8 l8
  have n24:b24≠bc:=fun e=>mc e.symm
  have n15c:b15≠bc:=fun e=>by subst e;rw [hc3]at f15;cases f15
  replace f24:=ck kp8 n24 f24
  refine⟨c,by rw [aq f24];rfl,?_⟩
  refine res h8 c (Hp.le_trans l0 l8) (ck kp8 n15c g15) ?_
  have hcells:cz ((VL (v.getD n.a.toNat [])).map I) (0+Int.toNat (cB v n.b:Int)*1) [I (cB v n.c)]=(VL val).map I:=by
   rw [hnv,bG,Int.toNat_natCast,Nat.mul_one,Nat.zero_add]
   simp [VL,List.map_set]
  have gc2:h8 bc=some (.inl ⟨cz ((VL (v.getD n.a.toNat [])).map I) (0+Int.toNat (cB v n.b:Int)*1) [I (cB v n.c)],c.c*1,false⟩):=gc'
  rw [hcells]at gc2
  refine⟨by omega,by simp [aY,hnv,hcn], .inr ⟨bc,0,hca,ay gc2⟩⟩
 replace e38:=bk e38
 (refine az ?_)
 refine ac (fun e=>?_) (fun e21=>?_)
 ·have e:=bV e
  have hp2:ar n.kind=2:=by omega
  obtain⟨r1,_⟩:=U2 e hres
  rw [if_pos e]at hnv
  repeat' (refine az ?_)
  obtain⟨b',o',t',ha',h1',h2',h3''⟩:=vat 1 (by omega) (by omega)
  refine⟨b',o',ha',(pk 1 (by omega) (by omega)).1,h1',t',h2',?_⟩
  have hl4:=len4 0 (by omega) (by omega)
  have fl:=(pf 0 (by omega) (by omega)).len
  have fl':=(pf 1 (by omega) (by omega)).len
  simp only [aW]at fl fl'
  rw [<-r1]at fl'
  refine xt hta h3'' (by rw [aY];omega) (by rw [aY,aY];simp only [aW];omega) ⟨_,rfl,pw ⟨_,rfl,?_⟩⟩
  refine wres _ _ ?_ hnv
  simp only [aW,Iz]
  split<;>simp_all
 replace e21:=bk e21
 rw [if_neg e21,if_neg e37,if_neg e38]at hnv
 simp only [aW]at oa'
 have word0: ∀wn:Nat,(aA l n.a).wid=wn->WO wn (cB v n.a):=fun wn hw=>by
  have:=(pf 0 (by omega) (by omega)).cell
  simp only [aW]at this
  rw [hw]at this
  exact⟨by omega,this⟩
 obtain⟨wa,hwa'⟩: ∃wn:Nat,(aA l n.a).wid=wn:=⟨(aA l n.a).wid.toNat,by omega⟩
 have hwo:=word0 wa hwa'
 have h16:=hwo.pow
 have hlta:=hwo.2
 rw [hwa',Int.toNat_natCast]at hnv
 have e0':Hp.cell h4 b0 (o0+0*1)=some (I (cB v n.a)):=e0
 have hsw:(aA l (aW n 0)).wid=(wa:Int):=hwa'
 rw [hsw]
 (refine az ?_)
 refine ac (fun e=>?_) (fun e29=>?_)
 ·have e:=bV e
  have hp2:ar n.kind=2:=by omega
  obtain⟨r1,r2,r3,r4⟩:=RJ e hres
  rw [if_pos e]at hnv
  have ob:=cd.1 (pk 1 (by omega) (by omega)).2.2
  simp only [aW]at ob
  obtain⟨wb,hwb⟩: ∃wn:Nat,(aA l n.b).wid=wn:=⟨(aA l n.b).wid.toNat,by omega⟩
  have hltb:=(pf 1 (by omega) (by omega)).cell
  simp only [aW]at hltb
  rw [hwb,Int.toNat_natCast]at hltb
  rw [hwb,Int.toNat_natCast]at hnv
  obtain⟨bw2,ow2,hwa2,hwl2,hwc2⟩:=(hsn.mono l0).wid (pk 1 (by omega) (by omega)).1 (by have:=(pk 1 (by omega) (by omega)).2.1;omega)
  simp only [aW]at hwc2
  rw [hwb]at hwc2
  (refine az ?_)
  refine⟨b0,o0,a0,by omega,by omega,_,e0',?_⟩
  (refine az ?_)
  refine⟨bw2,ow2,hwa2,(pk 1 (by omega) (by omega)).1,hwl2,_,hwc2,?_⟩
  (refine az ?_)
  obtain⟨b',o',t',ha',h1',h2',h3''⟩:=vat 1 (by omega) (by omega)
  obtain⟨b2',o2',ha2',hc2',hl2'⟩:=h3''.elt (pf 1 (by omega) (by omega)).pos
  refine⟨b',o',ha',(pk 1 (by omega) (by omega)).1,h1',t',h2',b2',o2',ha2',by omega,by omega,_,hc2',?_⟩
  exact IV hwo ⟨by omega,hltb⟩ (by omega) ⟨_,_,_,rfl,hJ _ hnv⟩
 replace e29:=bk e29
 rw [if_neg e29]at hnv
 (refine az ?_)
 refine ac (fun e=>?_) (fun e30=>?_)
 ·have e:=bV e
  obtain⟨r1,r2,r3⟩:=Q5 e hres
  rw [if_pos e]at hnv
  obtain⟨lo,hlo⟩: ∃z:Nat,n.m=z:=⟨n.m.toNat,by omega⟩
  obtain⟨hh,hhh⟩: ∃z:Nat,n.n=z:=⟨n.n.toNat,by omega⟩
  (refine az ?_)
  refine⟨b0,o0,a0,by omega,by omega,_,e0',?_⟩
  repeat' (refine az ?_)
  rw [hlo,hhh]
  refine Gf hwo (by omega) (by omega) ⟨_,_,_,rfl,hJ _ ?_⟩
  rw [hnv,hlo,hhh]
  unfold PH
  rw [Int.toNat_natCast,show ((hh:Int)-(lo:Int)+1).toNat=hh-lo+1 by omega]
 replace e30:=bk e30
 rw [if_neg e30]at hnv
 refine ap (fun J=>J (decide (n.kind=31\/n.kind=32))) ?_ (fun J2 hJ2=>?_)
 rotate_left
 ·clear res wres cres vat hJ
  repeat' (first|(with_reducible first|refine aM (b:=true) rfl ?_|refine aE (b:=false) rfl ?_|refine ac (fun _=>?_) fun _=>?_)|(refine az ?_)|(refine fJ ?_ hJ2))
  all_goals (clear hJ2;rw [Bool.eq_iff_iff];simp_all)
 refine ac (fun e=>?_) (fun e31=>?_)
 ·have e:=of_decide_eq_true e
  obtain⟨r1,r2,r3⟩:=Q7 e hres
  rw [if_pos e]at hnv
  obtain⟨mo,hmo⟩: ∃z:Nat,n.n=z:=⟨n.n.toNat,by omega⟩
  (refine az ?_)
  refine⟨b0,o0,a0,by omega,by omega,_,e0',?_⟩
  repeat' (refine az ?_)
  rw [hmo]
  refine IQ hwo (by omega) ⟨_,_,_,rfl,hJ _ ?_⟩
  rw [hnv,hmo,Int.toNat_natCast];rfl
 replace e31:=of_decide_eq_false e31
 rw [if_neg e31]at hnv
 (refine az ?_)
 refine lK ⟨_,rfl,ac (fun e=>?_) (fun e1=>?_)⟩
 ·have e:=bV e
  rw [if_pos e]at hnv
  repeat' (refine az ?_)
  refine⟨b0,o0,a0,by omega,by omega,_,e0',?_⟩
  exact Cc (by omega) hwo ⟨_,_,_,rfl,hJ _ hnv⟩
 ·replace e1:=bk e1
  rw [if_neg e1]at hnv
  have hp2:ar n.kind=2:=by omega
  obtain⟨r1,r2,r3⟩:=Yt (by omega) hres
  have hltb:=(pf 1 (by omega) (by omega)).cell
  simp only [aW]at hltb
  rw [<-r2,hwa',Int.toNat_natCast]at hltb
  repeat' (refine az ?_)
  refine⟨b0,o0,a0,by omega,by omega,_,e0',?_⟩
  (refine az ?_)
  obtain⟨b',o',t',ha',h1',h2',h3''⟩:=vat 1 (by omega) (by omega)
  obtain⟨b2',o2',ha2',hc2',hl2'⟩:=h3''.elt (pf 1 (by omega) (by omega)).pos
  refine⟨b',o',ha',(pk 1 (by omega) (by omega)).1,h1',t',h2',b2',o2',ha2',by omega,by omega,_,hc2',?_⟩
  exact Bq (by omega) hwo ⟨hwo.1,hltb⟩ ⟨_,_,_,rfl,hJ _ hnv⟩
theorem uL (ts:List Sl):wK (ts.map Sl.v):=by
 have:=CQ ts 0
 simpa using this
theorem IntS.offL {h:Hp} {s t:Sl} {xs:List Int} {ts:List Sl} (e:IntS h t xs) (hb:Buf h s 1 (ts.map Sl.v)):IntS (h.offS s) t xs:=by
 rcases hb.2.2 with ⟨ha,_,_⟩|⟨b,ha,hbb⟩
 ·unfold Hp.offS;rw [ha];exact e
 ·have ho:h.offS s=h.off b:=by unfold Hp.offS;rw [ha]
  rw [ho]
  refine e.keepN hbb (uL ts) fun c hc=>?_
  simp only [Hp.off,Hp.set];rw [if_neg hc]
theorem Buf.pval {h:Hp} {s:Sl} {ts:List Sl} {vs:List (List Nat)} (e:Buf h s 1 (ts.map Sl.v)) (hlen:ts.length=vs.length) (hn:s.n<=1048576) (ht: ∀(j:Nat) (t:Sl),ts[j]?=some t->IntS h t (VL (vs.getD j []))):gD h s vs:=by
 have hl:=e.1
 simp at hl
 refine⟨by omega,hn,fun p hp=>?_⟩
 rcases e.2.2 with ⟨_,h0,_⟩|⟨b,ha,hbb⟩
 ·omega
 ·refine⟨b,0,ts[p]'(by omega),ha,?_,ht p _ (List.getElem?_eq_getElem (by omega))⟩
  rw [aq hbb,Nat.zero_add,Nat.mul_one,List.getElem?_map,List.getElem?_eq_getElem (by omega)];rfl
def XG (h:Hp) (s:Sl):Prop:= ∀b o,s.a=some (Addr.mk b o none)->h b=none
theorem pV {h:Hp} {M:MSl} {m:ah} {sS sI:Sl} {st inp:List (List Nat)} {R:Value->Hp->Prop} (hs:aO h M m) (hm:bW m) (hok:cv m.nodes=true) (hl:m.nodes.length<=60)
  (h1:IntSS h sS (st.map VL)) (f1:zV m.nodes 36 st) (h2:IntSS h sI (inp.map VL)) (f2:zV m.nodes 35 inp)
  (k: ∀t h',h.le h'->t.n=m.nodes.length->gD h' t (fX m.nodes st inp m.nodes.length)->XG h t->R (Sl.v t) h'):de #[aQ M,sS.v,sI.v] h R:=by
 apply Lw
 refine uf_ ?_
 have hn:=hs.nodes.len
 have hsn:sS.n=st.length:=by obtain⟨ts,e1,e2,_⟩:=h1;have:=e2.2.1;simp at this e1;omega
 have hin:sI.n=inp.length:=by obtain⟨ts,e1,e2,_⟩:=h2;have:=e2.2.1;simp at this e1;omega
 refine aj fun b9 h3 hb9 l3 f9=>?_
 refine av m.nodes.length (fun i vs h'=> ∃(ts:List Sl) (out:Sl),vs= [sS.v,sI.v, .pointer (some ⟨b9,0,none⟩),out.v,I (aH (m.nodes.take i) 36).length,I (aH (m.nodes.take i) 35).length,I i]/\
  h.le (h'.offS out)/\(h'.offS out) b9=some (.inl ⟨aw M,5,false⟩)/\out.n=i/\ts.length=i/\Buf h' out 1 (ts.map Sl.v)/\
  (∀(j:Nat) (t:Sl),ts[j]?=some t->IntS (h'.offS out) t (VL ((fX m.nodes st inp i).getD j []))))
  ⟨[],⟨none,0,0⟩,rfl,l3,f9,rfl,rfl,eZ _ _,fun j t ht=>by simp at ht⟩ ?_
 clear f9 l3 hb9 h3
 rintro i _ h3 next hi ⟨ts,out,rfl,l3,f9,hon,htl,hbuf,hts⟩ hnx
 have lo:=bz h3 out
 have f9':=lo _ _ f9
 have l3':=Hp.le_trans l3 lo
 refine⟨sS,sI,_,_,out,_,_,_,rfl,?_⟩
 (refine az ?_)
 by_cases hlt:i<m.nodes.length
 rotate_left
 ·have hie:i=m.nodes.length:=by omega
  subst hie
  refine aE (by simp;omega) (k out h3 l3' hon ?_ fun b o hb=>?_)
  ·exact hbuf.pval (by rw [dr];omega) (by omega) fun j t ht=>(hts j t ht).mono lo
  ·cases hx:h b with
   |none=>rfl
   |some x=>have:=l3 _ _ hx;simp [Hp.offS,hb,Hp.off,Hp.set]at this
 refine aM (by simp;omega) ?_
 obtain⟨n,hni⟩: ∃n,m.nodes[i]?=some n:=⟨_,List.getElem?_eq_getElem hlt⟩
 obtain⟨b,o,ha,e0,e1,e2,e3,e4,e5,e6,e7,e8⟩:=(hs.nodes.mono l3').at hni
 (refine az ?_)
 refine⟨b,o,ha,by omega,by omega,_,e0,_,e1,_,e2,_,e3,_,e4,_,e5,_,e6,_,e7,_,e8,?_⟩
 refine aj fun b44 h4 hb44 l4 f44'=>?_
 (with_reducible apply bZ);(exact f44');(exact l4);(exact hb44);(exact Nat.le_refl 9)
 intro h5 f44 kp l5
 clear f44' kp l4
 refine aj fun b50 h6 hb50 l6 f50'=>?_
 have n44:=fresh_ne hb50 f44
 have b50n:=aF l5 hb50
 replace f44:=l6 _ _ f44
 (with_reducible apply bZ);(exact f50');(exact Hp.le_trans l5 l6);(exact b50n);(exact Nat.le_refl 1)
 intro h7 f50 kp l7
 replace f44:=ck kp n44 f44
 have f50v:h7 b50=some (.inl ⟨[.slice none 0 0],1,false⟩):=f50
 have f9'':=l7 _ _ f9'
 clear f50 f50' kp l5 l6 hb44 hb50 h4 h5 h6
 have l07:=Hp.le_trans l3' l7
 have hnext36:=tu (kind:=36) hni
 have hnext35:=tu (kind:=35) hni
 have hev:=vN (s:=st) (inp:=inp) hni
 have hb36:(aH (m.nodes.take i) 36).length<=i:=by
  unfold aH
  refine Nat.le_trans (List.length_filter_le _ _) ?_
  rw [List.length_range,List.length_take];omega
 have hb35:(aH (m.nodes.take i) 35).length<=i:=by
  unfold aH
  refine Nat.le_trans (List.length_filter_le _ _) ?_
  rw [List.length_range,List.length_take];omega
 (refine az ?_)
 refine ap (fun J=> ∀(t:Sl) (x:List Nat) (h8:Hp),h3.le h8->h8 b50=some (.inl ⟨[t.v],1,false⟩)->IntS h8 t (VL x)->fX m.nodes st inp (i+1)=fX m.nodes st inp i++ [x]->
  J ((aH (m.nodes.take (i+1)) 36).length:Nat) ((aH (m.nodes.take (i+1)) 35).length:Nat) h8) ?_ (fun J hJ=>?_)
 ·intro t x h8 l8 g50 hval hev'
  (refine az ?_)
  refine aj fun b113 h9 hb113 l9 f113=>?_
  have l39:=Hp.le_trans l8 l9
  have l39o:=bP out l39
  refine dw (hbuf.mono l39) (by omega) (by omega) (by omega) ⟨b113,0,rfl,ay f113⟩ (by simp) rfl ?_
  intro s' h10 hs'n hbuf' l10 _
  rw [aC (by omega)]
  have l310:=Hp.le_trans l39o l10
  have hbuf'':Buf h10 s' 1 ((ts++ [t]).map Sl.v):=by rw [List.map_append];exact hbuf'
  refine hnx hlt _ _ ⟨ts++ [t],s',rfl,Hp.le_trans l3 l310,l310 _ _ f9,by omega,by simp;omega,hbuf'',fun j u hu=>?_⟩
  by_cases hj:j<i
  ·rw [List.getElem?_append_left (by omega)]at hu
   rw [hev',ib (by rw [dr];omega)]
   exact(hts j u hu).mono l310
  ·have hju:=get_lt hu
   simp at hju
   have hje:j=i:=by omega
   subst hje
   rw [List.getElem?_append_right (by omega),htl,Nat.sub_self]at hu
   simp at hu;subst hu
   rw [hev',List.getD_eq_getElem?_getD,List.getElem?_append_right (by rw [dr];omega),dr,Nat.sub_self]
   exact((hval.mono l9).offL (hbuf.mono l39)).mono l10
 have put: ∀(h8:Hp) (t:Sl) (x:List Nat) (P:Hp->Prop),h7.le h8->IntS h8 t (VL x)->(∀h9,h3.le h9->h9 b50=some (.inl ⟨[t.v],1,false⟩)->IntS h9 t (VL x)->P h9)->
   ∃(cs:List Value) (z:Nat),h8 b50=some (.inl ⟨cs,z,false⟩)/\0+1<=List.length cs/\cA (h8.row b50 (cz cs 0 [t.v]) z) fun h'=>P h':=by
  intro h8 t x P l8 hval hP
  have g50:=l8 _ _ f50v
  (with_reducible apply bZ);(exact g50);(exact Hp.le_trans l7 l8);(exact b50n);(exact Nat.le_refl 1)
  intro h9 g kp l9
  exact hP h9 l9 g (hval.keep g50 kp)
 have hpv7:gD h7 out (fX m.nodes st inp i):=(hbuf.pval (by rw [dr];omega) (by omega) fun j t ht=>(hts j t ht).mono lo).mono l7
 have hfit:=yQ hok f1 f2 i (Nat.le_of_lt hlt)
 have htyp:=uW hok hni
 refine ac (fun e=>?_) (fun e34=>?_)
 ·have e:=bV e
  rw [if_neg (by omega)]at hnext36 hnext35
  rw [if_neg (by omega),if_neg (by omega)]at hev
  obtain⟨c1,c2⟩:=htyp.const e
  have:=j4.1 c2
  have hx:fu m.nodes n (fX m.nodes st inp i)= [n.n.toNat]:=by unfold fu;rw [if_pos e]
  (refine az ?_)
  refine GS fun t h8 l8 hval=>⟨t,rfl,put h8 t [n.n.toNat] _ l8 ?_ fun h9 l9 g50 hv9=>?_⟩
  ·have:VL [n.n.toNat]= [n.n]:=by simp [VL];omega
   rw [this];exact hval
  ·have:=hJ t _ h9 l9 g50 hv9 (by rw [hev,hx])
   rw [hnext36,hnext35,Nat.add_zero,Nat.add_zero]at this;exact this
 replace e34:=bk e34
 refine ac (fun e=>?_) (fun e36=>?_)
 ·have e:=bV e
  rw [if_pos e]at hnext36 hev
  rw [if_neg (by omega)]at hnext35
  have hlt36:=yU hni e
  have hfk:=f1.2 _ _ (pS hni e)
  have hfs:aA m.nodes ((i:Nat):Int)=n.sort:=by unfold aA;rw [Int.toNat_natCast,hni]
  rw [hfs]at hfk
  rw [<-f1.1]at hlt36
  obtain⟨bs,os,t,ha,hc,ht⟩:=(h1.mono l07).at (i:=(aH (m.nodes.take i) 36).length) (by simpa using hlt36)
  have hst:(st.map VL)[(aH (m.nodes.take i) 36).length]'(by simpa using hlt36)=VL (st.getD (aH (m.nodes.take i) 36).length []):=by
   rw [List.getElem_map,List.getD_eq_getElem?_getD,List.getElem?_eq_getElem hlt36];rfl
  rw [hst]at ht
  have hso:=cd.1 htyp.sort
  have hlen4:(st.getD (aH (m.nodes.take i) 36).length []).length<=4:=by
   rw [hfk.len];have:=Nat.pow_le_pow_right (n:=2) (by omega) (show n.sort.idx.toNat<=2 by omega);simpa using this
  refine⟨bs,os,ha,by omega,by omega,t,by rw [Int.toNat_natCast,Nat.mul_one];exact hc,?_⟩
  refine qP ht (by rw [aY];omega) fun c h8 l8 hb8=>⟨c,rfl,put h8 c _ _ l8 (hb8.slS (by have:=hb8.1;rw [List.length_map,aY]at this;omega)) fun h9 l9 g50 hv9=>?_⟩
  have:=hJ c _ h9 l9 g50 hv9 hev
  rw [hnext36,hnext35,Nat.add_zero]at this
  rw [aC (by omega)];exact this
 replace e36:=bk e36
 rw [if_neg e36]at hnext36 hev
 refine ac (fun e=>?_) (fun e35=>?_)
 ·have e:=bV e
  rw [if_pos e]at hnext35 hev
  have hlt35:=yU hni e
  have hfk:=f2.2 _ _ (pS hni e)
  have hfs:aA m.nodes ((i:Nat):Int)=n.sort:=by unfold aA;rw [Int.toNat_natCast,hni]
  rw [hfs]at hfk
  rw [<-f2.1]at hlt35
  obtain⟨bs,os,t,ha,hc,ht⟩:=(h2.mono l07).at (i:=(aH (m.nodes.take i) 35).length) (by simpa using hlt35)
  have hst:(inp.map VL)[(aH (m.nodes.take i) 35).length]'(by simpa using hlt35)=VL (inp.getD (aH (m.nodes.take i) 35).length []):=by
   rw [List.getElem_map,List.getD_eq_getElem?_getD,List.getElem?_eq_getElem hlt35];rfl
  rw [hst]at ht
  have hso:=cd.1 htyp.sort
  have hlen4:(inp.getD (aH (m.nodes.take i) 35).length []).length<=4:=by
   rw [hfk.len];have:=Nat.pow_le_pow_right (n:=2) (by omega) (show n.sort.idx.toNat<=2 by omega);simpa using this
  refine⟨bs,os,ha,by omega,by omega,t,by rw [Int.toNat_natCast,Nat.mul_one];exact hc,?_⟩
  refine qP ht (by rw [aY];omega) fun c h8 l8 hb8=>⟨c,rfl,put h8 c _ _ l8 (hb8.slS (by have:=hb8.1;rw [List.length_map,aY]at this;omega)) fun h9 l9 g50 hv9=>?_⟩
  have:=hJ c _ h9 l9 g50 hv9 hev
  rw [hnext36,hnext35,Nat.add_zero]at this
  rw [aC (by omega)];exact this
 replace e35:=bk e35
 rw [if_neg e35]at hnext35 hev
 repeat' (refine az ?_)
 refine Oq (n:=n) hl (Nat.le_of_lt hlt) htyp hfit (dr _ _ _ _) (hs.nodes.mono l07) hpv7 e34 e35 e36 fun t h8 l8 hval=>⟨t,rfl,put h8 t _ _ l8 hval fun h9 l9 g50 hv9=>?_⟩
 have:=hJ t _ h9 l9 g50 hv9 hev
 rw [hnext36,hnext35,Nat.add_zero,Nat.add_zero]at this;exact this
theorem Hc {l:List NodeP} {kind:Int} {p:Nat} (h:p∈aH l kind): ∃n,l[p]?=some n/\n.kind=kind:=by
 unfold aH at h
 rw [List.mem_filter,List.mem_range]at h
 cases hn:l[p]? with
 |none=>rw [hn]at h;exact absurd h.2 Bool.false_ne_true
 |some n=>rw [hn]at h;exact⟨n,rfl,by simpa using h.2⟩
theorem Es (l:List NodeP) (hok:cv l=true) (kind:Int):cC l (aH l kind)=ak l kind:=by
 have key: ∀i,i<=l.length->cC l (aH (l.take i) kind)=ak (l.take i) kind:=by
  intro i
  induction i with
  |zero=>intro _;simp [aH,cC,ak]
  |succ i ih=>
   intro hi
   obtain⟨n,hn⟩: ∃n,l[i]?=some n:=⟨_,List.getElem?_eq_getElem (by omega)⟩
   rw [jo hn,CX kind hn,<-ih (by omega)]
   have hs:=cd.1 (uW hok hn).sort
   have hsa:aA l ((i:Nat):Int)=n.sort:=by unfold aA;rw [Int.toNat_natCast,hn]
   by_cases hk:n.kind=kind
   ·rw [if_pos hk,if_pos hk]
    unfold cC
    rw [List.map_append,List.sum_append]
    simp only [List.map_cons,List.map_nil,List.sum_cons,List.sum_nil,Nat.add_zero]
    unfold cj aK dQ
    rw [hsa,Nat.mul_comm]
   ·rw [if_neg hk,if_neg hk,List.append_nil,Nat.add_zero]
 have:=key l.length (Nat.le_refl _)
 rwa [List.take_of_length_le (Nat.le_refl _)]at this
theorem H3 {l:List NodeP} (hok:cv l=true) (kind:Int) (code:Nat):zV l kind (fy l (aH l kind) code):=by
 refine⟨kW _ _ _,fun k p hp=>?_⟩
 rw [GL hp]
 obtain⟨n,hn,_⟩:=Hc (List.mem_of_getElem? hp)
 have hsa:aA l ((p:Nat):Int)=n.sort:=by unfold aA;rw [Int.toNat_natCast,hn]
 have hso:=(uW hok hn).sort
 refine⟨?_,fun x hx=>RH hx⟩
 rw [qp]
 unfold aK cT
 rw [hsa,if_pos hso]
theorem uJ (a b:List Nat):VL (a++b)=VL a++VL b:=by simp [VL]
theorem mQ {h:Hp} {M:MSl} {m:ah} {kind:Int} {R:Value->Hp->Prop} (hs:aO h M m) (hm:bW m)
  (k: ∀t h',h.le (h'.offS t)->t.n<=m.nodes.length->Buf h' t 1 ((VL (aH m.nodes kind)).map I)->R (Sl.v t) h'):bO #[aQ M,I kind] h R:=by
 apply zL
 refine uf_ ?_
 have hn:=hs.nodes.len
 have hns:=hm.nodes
 refine aj fun b8 h1 hb8 l1 f8=>?_
 (refine az ?_)
 refine av m.nodes.length (fun i vs h'=> ∃out:Sl,vs= [I kind,out.v,M.no.v,I M.no.n,I i]/\h.le (h'.offS out)/\out.n<=i/\Buf h' out 1 ((VL (aH (m.nodes.take i) kind)).map I)) ⟨⟨none,0,0⟩,rfl,l1,Nat.le_refl _,by simp [aH,VL];exact eZ _ _⟩ ?_
 clear l1 f8 hb8 h1
 rintro i _ h1 next hi ⟨out,rfl,l1,hon,hbuf⟩ hnx
 have lo:=bz h1 out
 have l1':=Hp.le_trans l1 lo
 refine⟨_,out,M.no,_,_,rfl,?_⟩
 by_cases hlt:i<m.nodes.length
 ·refine aM (by simp;omega) ?_
  obtain⟨n,hni⟩: ∃n,m.nodes[i]?=some n:=⟨_,List.getElem?_eq_getElem hlt⟩
  obtain⟨b,o,ha,e0,e1,e2,e3,e4,e5,e6,e7,e8⟩:=(hs.nodes.mono l1').at hni
  refine⟨b,o,ha,by omega,by omega,_,e0,_,e1,_,e2,_,e3,_,e4,_,e5,_,e6,_,e7,_,e8,?_⟩
  refine aj fun b36 h2 hb36 l2 f36=>?_
  (with_reducible apply bZ);(exact f36);(exact l2);(exact hb36);(exact Nat.le_refl 9)
  intro h3 f36' kp l3
  have hpre:=jo (kind:=kind) hni
  have l3o:=bP out l3
  (refine az ?_)
  rw [aC (by omega)]
  refine ac (fun e=>?_) (fun e=>?_)
  ·rw [if_pos (bV e)]at hpre
   refine aj fun b44 h4 hb44 l4 f44=>?_
   have l4o:=bP out l4
   refine dw (hbuf.mono (Hp.le_trans l3 l4)) (by omega) (by omega) (by omega) ⟨b44,0,rfl,ay f44⟩ (by simp) rfl ?_
   intro s' h5 hs'n hbuf' l5 _
   refine hnx hlt _ _ ⟨s',rfl,Hp.le_trans l1 (Hp.le_trans l3o (Hp.le_trans l4o l5)),by omega,?_⟩
   rw [hpre,uJ,List.map_append];exact hbuf'
  ·rw [if_neg (bk e),List.append_nil]at hpre
   refine hnx hlt _ _ ⟨out,rfl,Hp.le_trans l1 l3o,by omega,?_⟩
   rw [hpre];exact hbuf.mono l3
 ·refine aE (by simp;omega) (k out h1 l1 (by omega) ?_)
  rw [List.take_of_length_le (by omega)]at hbuf
  exact hbuf
theorem eu {h:Hp} {M:MSl} {m:ah} {kind:Int} {R:Value->Hp->Prop} (hs:aO h M m) (hm:bW m)
  (k: ∀t h',h.le h'->IntS h' t (VL (aH m.nodes kind))->R (Sl.v t) h'):bO #[aQ M,I kind] h R:=
 mQ hs hm fun t h' l hn hb=>k t h' (Hp.le_trans l (bz _ _)) (hb.slc_of (by have:=hm.nodes;omega))
theorem cU {h:Hp} {M:MSl} {m:ah} {kind:Int} {R:Value->Hp->Prop} (hs:aO h M m) (hm:bW m)
  (k: ∀t h',h.le h'->IntS h' t (VL (aH m.nodes kind))->R (Sl.v t) h'):aU #[aQ M,I kind] h R:=by
 apply Fi
 refine uf_ ?_
 have hn:=hs.nodes.len
 have hns:=hm.nodes
 refine aj fun b8 h1 hb8 l1 f8=>?_
 refine av m.nodes.length (fun i vs h'=> ∃out:Sl,vs= [I kind, .pointer (some ⟨b8,0,none⟩),out.v,I i]/\h.le (h'.offS out)/\(h'.offS out) b8=some (.inl ⟨aw M,5,false⟩)/\out.n<=i/\Buf h' out 1 ((VL (aH (m.nodes.take i) kind)).map I)) ⟨⟨none,0,0⟩,rfl,l1,f8,Nat.le_refl _,by simp [aH,VL];exact eZ _ _⟩ ?_
 clear l1 f8 hb8 h1
 rintro i _ h1 next hi ⟨out,rfl,l1,f8,hon,hbuf⟩ hnx
 have lo:=bz h1 out
 have l1':=Hp.le_trans l1 lo
 have f8':=lo _ _ f8
 refine⟨_,_,_,out,_,rfl,?_⟩
 (refine az ?_)
 by_cases hlt:i<m.nodes.length
 ·refine aM (by simp;omega) ?_
  obtain⟨n,hni⟩: ∃n,m.nodes[i]?=some n:=⟨_,List.getElem?_eq_getElem hlt⟩
  obtain⟨b,o,ha,e0,_⟩:=(hs.nodes.mono l1').at hni
  have hpre:=jo (kind:=kind) hni
  (refine az ?_)
  refine⟨b,o,ha,by omega,by omega,_,e0,?_⟩
  rw [aC (by omega)]
  refine ac (fun e=>?_) (fun e=>?_)
  ·rw [if_pos (bV e)]at hpre
   refine aj fun b44 h4 hb44 l4 f44=>?_
   have l4o:=bP out l4
   refine dw (hbuf.mono l4) (by omega) (by omega) (by omega) ⟨b44,0,rfl,ay f44⟩ (by simp) rfl ?_
   intro s' h5 hs'n hbuf' l5 _
   have l15:=Hp.le_trans l4o l5
   refine hnx hlt _ _ ⟨s',rfl,Hp.le_trans l1 l15,l15 _ _ f8,by omega,?_⟩
   rw [hpre,uJ,List.map_append];exact hbuf'
  ·rw [if_neg (bk e),List.append_nil]at hpre
   refine hnx hlt _ _ ⟨out,rfl,l1,f8,by omega,?_⟩
   rw [hpre];exact hbuf
 ·refine aE (by simp;omega) (k out h1 l1' ?_)
  rw [List.take_of_length_le (by omega)]at hbuf
  exact hbuf.slc_of (by omega)
structure tM (h0 h:Hp) (out:Sl) (ts:List Sl) (vs:List (List Nat)):Prop where
 len:ts.length=vs.length
 row: ∀(i:Nat) (t:Sl),ts[i]?=some t-> ∃b,t=⟨some ⟨b,0,none⟩,(vs.getD i []).length,(vs.getD i []).length⟩/\h0 b=none/\
  (h.offS out) b=some (.inl ⟨(VL (vs.getD i [])).map I,(vs.getD i []).length,false⟩)
 dis: ∀(i j:Nat) (t u:Sl),ts[i]?=some t->ts[j]?=some u->t.a=u.a->i=j
 buf:Buf h out 1 (ts.map Sl.v)
 le:h0.le (h.offS out)
theorem tM.ints {h0 h:Hp} {out:Sl} {ts:List Sl} {vs:List (List Nat)} (e:tM h0 h out ts vs) (hl: ∀v∈vs,v.length<=1048576) (hn:out.n<=1048576):IntSS h out (vs.map VL):=by
 refine⟨ts,by rw [List.length_map];exact e.len,e.buf.slc_of (by omega),fun i h1 h2=>?_⟩
 obtain⟨b,ht,_,hr⟩:=e.row i _ (List.getElem?_eq_getElem h1)
 have hi:i<vs.length:=by rw [List.length_map]at h2;exact h2
 have hv:(vs.map VL)[i]=VL (vs.getD i []):=by
  rw [List.getElem_map,List.getD_eq_getElem?_getD,List.getElem?_eq_getElem hi];rfl
 have hvl:(vs.getD i []).length<=1048576:=by
  rw [List.getD_eq_getElem?_getD,List.getElem?_eq_getElem hi];exact hl _ (List.getElem_mem hi)
 rw [ht,hv]
 refine⟨by dsimp only;omega,by simp [aY], .inr ⟨b,0,rfl,ay (bz _ _ _ _ hr)⟩⟩
def cX (l:List NodeP) (ps:List Nat):List (List Nat):=ps.map fun p=>List.replicate (aK l p) 0
theorem dm (l:List NodeP) (p:Nat):aK l p<=4:=vh _
theorem gU {ps:List Nat} {i p:Nat} (h:ps[i]?=some p):(VL ps)[i]?=some ((p:Nat):Int):=by simp [VL,h]
theorem jq.sortc {h:Hp} {s:Sl} {l:List NodeP} (e:jq h s l) {p:Nat} (hp:p<l.length):
  ∃b o,s.a=some (Addr.mk b o none)/\(p:Int)<(s.n:Int)/\Hp.cell h b ((o+Int.toNat (p:Int)*9)+6)=some (I (aA l p).idx)/\Hp.cell h b ((o+Int.toNat (p:Int)*9)+6+1)=some (I (aA l p).wid):=by
 obtain⟨n,hn1⟩: ∃n,l[p]?=some n:=⟨_,List.getElem?_eq_getElem hp⟩
 obtain⟨ba,oa,ha1,_,_,_,_,_,_,c6,c7,_⟩:=e.at hn1
 have hsa:aA l ((p:Nat):Int)=n.sort:=by unfold aA;rw [Int.toNat_natCast,hn1]
 refine⟨ba,oa,ha1,by have:=e.len;omega,?_⟩
 rw [hsa];exact⟨c6,c7⟩
theorem sq {h:Hp} {M:MSl} {m:ah} {s:Sl} {ps:List Nat} {R:Value->Hp->Prop} (hs:aO h M m) (hm:bW m) (hp:IntS h s (VL ps)) (hps: ∀p∈ps,p<m.nodes.length) (hpl:ps.length<=1048576)
  (k: ∀out ts h',tM h h' out ts (cX m.nodes ps)->out.n=ps.length->R (Sl.v out) h'):eP #[aQ M,s.v] h R:=by
 apply AD
 refine uf_ ?_
 have hn:=hs.nodes.len
 have hns:=hm.nodes
 have hsn:=hp.len
 rw [aY]at hsn
 refine aj fun b8 h1 hb8 l1 f8=>?_
 refine av ps.length (fun i vs h'=> ∃(out:Sl) (ts:List Sl),vs= [.pointer (some ⟨b8,0,none⟩),out.v,s.v,I s.n,I i]/\tM h h' out ts (cX m.nodes (ps.take i))/\out.n=i/\(h'.offS out) b8=some (.inl ⟨aw M,5,false⟩))
  ⟨⟨none,0,0⟩, [],rfl,⟨rfl,fun i t ht=>by simp at ht,fun i j t u ht=>by simp at ht,eZ _ _,l1⟩,rfl,f8⟩ ?_
 clear l1 f8 hb8 h1
 rintro i _ h1 next hi ⟨out,ts,rfl,hC,hon,f8⟩ hnx
 have lo:=bz h1 out
 have l1:=Hp.le_trans hC.le lo
 have f8':=lo _ _ f8
 refine⟨_,_,out,s,_,_,rfl,?_⟩
 by_cases hlt:i<ps.length
 ·refine aM (by simp;omega) ?_
  obtain⟨p,hpi⟩: ∃p,ps[i]?=some p:=⟨_,List.getElem?_eq_getElem hlt⟩
  have hpm:=hps p (List.mem_of_getElem? hpi)
  obtain⟨b,o,ha,hc⟩:=(hp.mono l1).get (gU hpi)
  refine⟨b,o,ha,by omega,by omega,_,hc,?_⟩
  (refine az ?_)
  obtain⟨bn,on,han,hpn,c6,c7⟩:=(hs.nodes.mono l1).sortc hpm
  refine⟨bn,on,han,by omega,hpn,_,c6,_,c7,?_⟩
  refine lZ ⟨_,rfl,?_⟩
  have hce:cT ⟨(aA m.nodes p).idx,(aA m.nodes p).wid⟩=aK m.nodes p:=rfl
  rw [hce]
  have hc4:=dm m.nodes p
  refine⟨by omega,by omega,by omega,by omega,?_⟩
  refine aj fun b38 h2 hb38 l2 f38=>?_
  refine aj fun b40 h3 hb40 l3 f40=>?_
  have l13:=Hp.le_trans l2 l3
  have l13o:=bP out l13
  replace f38:=l3 _ _ f38
  rw [Int.toNat_natCast,Nat.mul_one,cn]at f38
  rw [Int.toNat_natCast]at f40
  have hno: ∀a,out.a=some a->a.block≠b38:=by
   intro a ha' e
   rcases hC.buf.2.2 with ⟨h0,_⟩|⟨c,hc',hcb⟩
   ·rw [h0]at ha';cases ha'
   ·rw [hc']at ha';cases ha'
    subst e
    rw [hb38]at hcb;cases hcb
  have f38o:(h3.offS out) b38=some (.inl ⟨List.replicate (aK m.nodes p) (I 0),aK m.nodes p,false⟩):=by rw [BQ hno];exact f38
  refine dw (hC.buf.mono l13) (by omega) (by omega) (by omega) ⟨b40,0,rfl,ay f40⟩ (by simp) rfl ?_
  intro s' h4 hs'n hbuf' l4 _
  have l14:=Hp.le_trans l13o l4
  rw [aC (by omega)]
  have hvs:cX m.nodes (ps.take (i+1))=cX m.nodes (ps.take i)++ [List.replicate (aK m.nodes p) 0]:=by
   unfold cX
   rw [List.take_succ_eq_append_getElem hlt,List.map_append]
   rw [List.getElem?_eq_getElem hlt]at hpi
   rw [Option.some.inj hpi];rfl
  have hlen:=hC.len
  have hzl:(cX m.nodes (ps.take i)).length=i:=by unfold cX;simp;omega
  have b38h:h b38=none:=aF l1 hb38
  refine hnx hlt _ _ ⟨s',ts++ [⟨some ⟨b38,0,none⟩,aK m.nodes p,aK m.nodes p⟩],rfl,⟨?_,fun j t ht=>?_,fun j j' t u ht hu hau=>?_,by rw [List.map_append];exact hbuf',Hp.le_trans hC.le l14⟩,by omega,l14 _ _ f8⟩
  ·rw [hvs,List.length_append,List.length_append,hlen];rfl
  ·by_cases hj:j<i
   ·rw [List.getElem?_append_left (by omega)]at ht
    obtain⟨b',e1,e2,e3⟩:=hC.row j t ht
    rw [hvs,ib (by omega)]
    exact⟨b',e1,e2,l14 _ _ e3⟩
   ·have hju:=get_lt ht
    simp at hju
    have hje:j=i:=by omega
    subst hje
    rw [List.getElem?_append_right (by omega),show j-ts.length=0 by omega]at ht
    simp at ht;subst ht
    rw [hvs,List.getD_eq_getElem?_getD,List.getElem?_append_right (by omega),hzl,Nat.sub_self]
    refine⟨b38,by simp,b38h,?_⟩
    have:=l4 _ _ f38o
    simpa [VL] using this
  ·have hb: ∀(q:Nat) (z:Sl),ts[q]?=some z->z.a≠some ⟨b38,0,none⟩:=by
    intro q z hz he
    obtain⟨b',e1,e2,e3⟩:=hC.row q z hz
    rw [e1]at he
    have hbb:b'=b38:=by simpa using he
    subst hbb
    have:=lo _ _ e3
    rw [hb38]at this;cases this
   by_cases hj:j<i
   ·rw [List.getElem?_append_left (by omega)]at ht
    by_cases hj':j'<i
    ·rw [List.getElem?_append_left (by omega)]at hu
     exact hC.dis j j' t u ht hu hau
    ·have hju:=get_lt hu
     simp at hju
     rw [List.getElem?_append_right (by omega),show j'-ts.length=0 by omega]at hu
     simp at hu;subst hu
     exact absurd hau (hb j t ht)
   ·have hjt:=get_lt ht
    simp at hjt
    by_cases hj':j'<i
    ·rw [List.getElem?_append_left (by omega)]at hu
     rw [List.getElem?_append_right (by omega),show j-ts.length=0 by omega]at ht
     simp at ht;subst ht
     exact absurd hau.symm (hb j' u hu)
    ·have hju:=get_lt hu
     simp at hju
     omega
 ·have hie:i=ps.length:=by omega
  subst hie
  rw [List.take_of_length_le (Nat.le_refl _)]at hC
  exact aE (by simp;omega) (k out ts h1 hC hon)
structure dj (m:ah):Prop where
 nl:m.nodes.length<=60
 il:m.inits.length<=60
 xl:m.nexts.length<=60
 bl:m.bads.length<=4
 hl:m.holds.length<=4
 ok:cv m.nodes=true
 twice:tX m=false
 ini: ∀b∈m.inits,je m.nodes b=true
 nex: ∀b∈m.nexts,fL m.nodes b=true
 bad: ∀p∈m.bads,dD m.nodes p=true
 hol: ∀p∈m.holds,dD m.nodes p=true
 n8:ak m.nodes 36<=8
 k5:ak m.nodes 35<=5
theorem ku {c:Prop} [Decidable c] {x y:Int} (hx:x≠0) (h:(if c then x else y)=0): ¬c/\y=0:=by
 split at h
 ·exact absurd h hx
 ·rename_i hc;exact⟨hc,h⟩
theorem cr {m:ah} (h:ax m=0):dj m:=by
 unfold ax at h
 obtain⟨h1,h⟩:=ku (by decide) h
 obtain⟨h2,h⟩:=ku (by decide) h
 obtain⟨h3,h⟩:=ku (by decide) h
 obtain⟨h4,h⟩:=ku (by decide) h
 obtain⟨h5,h⟩:=ku (by decide) h
 obtain⟨h6,h⟩:=ku (by decide) h
 simp only [Bool.not_eq_false,Bool.and_eq_true,List.all_eq_true,Bool.not_eq_true]at h2 h3 h4 h5
 exact⟨by omega,by omega,by omega,by omega,by omega,h2,h3,h4.1,h4.2,h5.1,h5.2,by omega,by omega⟩
theorem qu {l:List NodeP} (hok:cv l=true) {p:Nat} (hp:p<l.length):bR (aA l p)=true:=by
 have hn:l[p]?=some l[p]:=List.getElem?_eq_getElem hp
 have:aA l ((p:Nat):Int)=l[p].sort:=by unfold aA;rw [Int.toNat_natCast,hn]
 rw [this];exact(uW hok hn).sort
theorem uK {l:List NodeP} (hok:cv l=true) {p:Nat} (hp:p<l.length) {v:List Nat} (h:Fit (aA l p) v):v.length=aK l p/\ ∀x∈v,x<2^cj l p:=by
 refine⟨?_,h.lt⟩
 unfold aK cT
 rw [if_pos (qu hok hp),h.len]
theorem SL {l:List NodeP} (hok:cv l=true) {p:Nat} (hp:p<l.length) {v:List Nat} (h:v.length=aK l p/\ ∀x∈v,x<2^cj l p):Fit (aA l p) v:=by
 refine⟨?_,h.2⟩
 have:=h.1
 unfold aK cT at this
 rwa [if_pos (qu hok hp)]at this
theorem kV {l:List NodeP} {kind:Int} {p:Nat} (h:p∈aH l kind):p<l.length:=by
 obtain⟨n,hn,_⟩:=Hc h
 exact get_lt hn
theorem yV {l:List NodeP} (hok:cv l=true) {kind:Int} {vs:List (List Nat)} (h:j7 l (aH l kind) vs):zV l kind vs:=by
 refine⟨oP h,fun k p hp=>?_⟩
 exact SL hok (kV (List.mem_of_getElem? hp)) (mu h hp)
def Af (m:ah) (s i:List (List Nat)):List (List Nat):=fX m.nodes s i m.nodes.length
abbrev stP (m:ah):List Nat:=aH m.nodes 36
abbrev inP (m:ah):List Nat:=aH m.nodes 35
def cl (m:ah) (s i:Nat):List (List Nat):=Af m (fy m.nodes (stP m) s) (fy m.nodes (inP m) i)
def gZ (m:ah) (v:List (List Nat)):Bool:=m.holds.all fun p=>decide (cB v p=1)
def qC (m:ah) (v:List (List Nat)):Option Nat:=m.bads.findIdx? fun p=>decide (cB v p=1)
def xQ (m:ah) (v:List (List Nat)):Int:=match qC m v with|some d=>d|none=> -1
def gH (m:ah) (v:List (List Nat)) (p:Nat):Option (List Nat):=(cf m.nexts p).map fun k=>v.getD k []
def eK (m:ah) (v:List (List Nat)):List (List Nat):=kJ m.nodes (gH m v) (stP m)
def nw (c:Nat) (v:List Nat):List Nat:=v++List.replicate (c-v.length) (v.getD 0 0)
def pa (m:ah):List (List Nat):=Af m (cX m.nodes (stP m)) (cX m.nodes (inP m))
def ez (m:ah) (p:Nat):Option (List Nat):=(cf m.inits p).map fun k=>nw (aK m.nodes p) ((pa m).getD k [])
def iJ (m:ah):List (List Nat):=kJ m.nodes (ez m) (stP m)
def PW (m:ah) (binds:List BindP):Nat:=fZ m.nodes (fun p=>(cf binds p).isSome) (stP m)
def aG (m:ah):aD where
 n:=ak m.nodes 36
 k:=ak m.nodes 35
 hold c:=gZ m (cl m (c%2^ak m.nodes 36) (c/2^ak m.nodes 36))
 bad c:=(qC m (cl m (c%2^ak m.nodes 36) (c/2^ak m.nodes 36))).isSome
 next c:=dZ m.nodes (stP m) (eK m (cl m (c%2^ak m.nodes 36) (c/2^ak m.nodes 36)))
 fixed:=PW m m.nexts
 bfix:=PW m m.inits
 bas:=dZ m.nodes (stP m) (iJ m)
theorem fS {binds:List BindP} {p k:Nat} (h:cf binds p=some k): ∃b∈binds,b.state=(p:Int)/\b.node.toNat=k:=by
 unfold cf at h
 rw [Option.map_eq_some_iff]at h
 obtain⟨b,hb,hk⟩:=h
 exact⟨b,List.mem_of_find?_eq_some hb,by simpa using List.find?_some hb,hk⟩
theorem P7 {binds:List BindP} {p:Nat} (h:cf binds p=none): ∀b∈binds,b.state≠(p:Int):=by
 unfold cf at h
 rw [Option.map_eq_none_iff,List.find?_eq_none]at h
 intro b hb e
 have:=h b hb
 simp [e]at this
theorem gz {l:List NodeP} {b:BindP} (h:fL l b=true):cY l b.state=true/\cY l b.node=true/\jW l b.state=36/\aA l b.state=aA l b.node:=by
 unfold fL at h
 simp only [Bool.and_eq_true,decide_eq_true_eq]at h
 exact⟨h.1.1.1,h.1.1.2,h.1.2,h.2⟩
theorem pE {l:List NodeP} {b:BindP} (h:je l b=true):cY l b.state=true/\cY l b.node=true/\jW l b.state=36/\(aA l b.state=aA l b.node\/aA l b.node=cE (aA l b.state).wid)/\(dL l l.length).getD b.node.toNat false=false:=by
 unfold je at h
 simp only [Bool.and_eq_true,Bool.or_eq_true,decide_eq_true_eq,Bool.not_eq_true']at h
 exact⟨h.1.1.1,h.1.1.2,h.1.2,h.2.1,h.2.2⟩
theorem fC {l:List NodeP} {p:Int}:cY l p=true↔0<=p/\p<l.length:=by
 unfold cY;rw [decide_eq_true_eq];omega
theorem yN {m:ah} (g:dj m) (s i:Nat):yg m.nodes m.nodes.length (cl m s i):=
 yQ g.ok (H3 g.ok 36 s) (H3 g.ok 35 i) _ (Nat.le_refl _)
theorem kx (l:List NodeP) (ps:List Nat):j7 l ps (cX l ps):=by
 induction ps with
 |nil=>rfl
 |cons p ps ih=>
  refine⟨_,_,rfl,by simp,fun x hx=>?_,ih⟩
  simp at hx
  rw [hx.2];exact bJ _
theorem MX {m:ah} (g:dj m) {s i:List (List Nat)} (hs:j7 m.nodes (stP m) s) (hi:j7 m.nodes (inP m) i):yg m.nodes m.nodes.length (Af m s i):=
 yQ g.ok (yV g.ok hs) (yV g.ok hi) _ (Nat.le_refl _)
theorem JL (m:ah) (s i:List (List Nat)):(Af m s i).length=m.nodes.length:=dr _ _ _ _
theorem uR {m:ah} (g:dj m) {v:List (List Nat)} (hv:yg m.nodes m.nodes.length v) {p:Nat} {x:List Nat} (h:gH m v p=some x):x.length=aK m.nodes p/\ ∀y∈x,y<2^cj m.nodes p:=by
 unfold gH at h
 rw [Option.map_eq_some_iff]at h
 obtain⟨k,hk,rfl⟩:=h
 obtain⟨b,hb,hs,rfl⟩:=fS hk
 obtain⟨h1,h2,h3,h4⟩:=gz (g.nex b hb)
 have h2':=fC.1 h2
 have h1':=fC.1 h1
 have hn:((b.node.toNat:Nat):Int)=b.node:=by omega
 have:=hv b.node.toNat (by omega) (by omega)
 rw [hn,<-h4,hs]at this
 exact uK g.ok (by omega) this
theorem rV {m:ah} (g:dj m) {p:Nat} {x:List Nat} (h:ez m p=some x):x.length=aK m.nodes p/\ ∀y∈x,y<2^cj m.nodes p:=by
 unfold ez at h
 rw [Option.map_eq_some_iff]at h
 obtain⟨k,hk,rfl⟩:=h
 obtain⟨b,hb,hs,rfl⟩:=fS hk
 obtain⟨h1,h2,h3,h4,_⟩:=pE (g.ini b hb)
 have h2':=fC.1 h2
 have h1':=fC.1 h1
 have hn:((b.node.toNat:Nat):Int)=b.node:=by omega
 have hv:=MX g (kx m.nodes (stP m)) (kx m.nodes (inP m)) b.node.toNat (by omega) (by omega)
 have hf:=uK g.ok (show b.node.toNat<m.nodes.length by omega) hv
 rw [hn]at hv
 have hwid:cj m.nodes b.node.toNat=cj m.nodes p/\aK m.nodes b.node.toNat<=aK m.nodes p:=by
  unfold cj aK
  rw [hn,<-hs]
  rcases h4 with h4|h4
  ·rw [h4];exact⟨rfl,Nat.le_refl _⟩
  ·rw [h4]
   refine⟨rfl,?_⟩
   have ho:bR (aA m.nodes b.state)=true:=by rw [hs];exact qu g.ok (by omega)
   have ho2:bR (cE (aA m.nodes b.state).wid)=true:=by
    have:=cd.1 ho
    exact cd.2 ⟨by simp [cE],by simp only [cE];omega⟩
   unfold cT
   rw [if_pos ho,if_pos ho2]
   exact bJ _
 refine⟨?_,fun y hy=>?_⟩
 ·unfold nw
  rw [List.length_append,List.length_replicate]
  have:=hf.1;show ((pa m).getD b.node.toNat []).length+(aK m.nodes p-((pa m).getD b.node.toNat []).length)=_
  unfold pa;omega
 ·unfold nw at hy
  rw [List.mem_append,List.mem_replicate]at hy
  rw [<-hwid.1]
  rcases hy with hy|⟨_,rfl⟩
  ·exact hf.2 y hy
  ·exact hv.get_lt hv.pos|>fun h=>by
    have e:cj m.nodes b.node.toNat=(aA m.nodes b.node).wid.toNat:=by unfold cj;rw [hn]
    rw [e];exact h
theorem mZ {m:ah} (g:dj m) {v:List (List Nat)} (hv:yg m.nodes m.nodes.length v):j7 m.nodes (stP m) (eK m v):=C2 fun p _ x hx=>uR g hv hx
theorem uU {m:ah} (g:dj m):j7 m.nodes (stP m) (iJ m):=C2 fun p _ x hx=>rV g hx
theorem Io (m:ah) (v:List (List Nat)):(fun p=>(gH m v p).isSome)=fun p=>(cf m.nexts p).isSome:=by funext p;unfold gH;simp
theorem Gm (m:ah):(fun p=>(ez m p).isSome)=fun p=>(cf m.inits p).isSome:=by funext p;unfold ez;simp
theorem fq {m:ah} (g:dj m):cC m.nodes (stP m)=ak m.nodes 36:=Es _ g.ok 36
theorem Co {m:ah} (g:dj m):cC m.nodes (inP m)=ak m.nodes 35:=Es _ g.ok 35
theorem gX {m:ah} (g:dj m):(aG m).Ok where
 nle:=g.n8
 kle:=g.k5
 fixed:=by have:=xX m.nodes (fun p=>(cf m.nexts p).isSome) (stP m);rwa [fq g]at this
 bfix:=by have:=xX m.nodes (fun p=>(cf m.inits p).isSome) (stP m);rwa [fq g]at this
 next c _:=by have:=uB (mZ g (yN g (c%2^ak m.nodes 36) (c/2^ak m.nodes 36)));rwa [fq g]at this
 held c _:=by
  have:=NX (l:=m.nodes) (f:=gH m (cl m (c%2^ak m.nodes 36) (c/2^ak m.nodes 36))) (ps:=stP m) fun p _ x hx=>uR g (yN g _ _) hx
  rw [Io]at this
  exact this
 bas:=by have:=uB (uU g);rwa [fq g]at this
 bheld:=by
  have:=NX (l:=m.nodes) (f:=ez m) (ps:=stP m) fun p _ x hx=>rV g hx
  rw [Gm]at this
  exact this
theorem wh {m:ah} (g:dj m) (s:Nat):(aG m).begins s=true↔ ∀(i p:Nat),(stP m)[i]?=some p-> ∀v,ez m p=some v->(fy m.nodes (stP m) s).getD i []=v:=by
 have:=Dv (l:=m.nodes) (f:=ez m) (ps:=stP m) s fun p _ x hx=>rV g hx
 rw [Gm]at this
 rw [qi,<-this]
 unfold aD.begins
 rw [decide_eq_true_eq];rfl
theorem Ox {m:ah} (g:dj m) {s i:Nat} (hs:s<2^ak m.nodes 36) (t:Nat):(aG m).goes ((aG m).at_ s i) t=true↔ ∀(j p:Nat),(stP m)[j]?=some p-> ∀v,gH m (cl m s i) p=some v->(fy m.nodes (stP m) t).getD j []=v:=by
 have:=Dv (l:=m.nodes) (f:=gH m (cl m s i)) (ps:=stP m) t fun p _ x hx=>uR g (yN g _ _) hx
 rw [Io]at this
 rw [qi,<-this]
 unfold aD.goes
 rw [decide_eq_true_eq]
 have e1:(aG m).at_ s i%2^ak m.nodes 36=s:=aD.at_mod (σ:=aG m) hs
 have e2:(aG m).at_ s i/2^ak m.nodes 36=i:=aD.at_div (σ:=aG m) hs
 show _=dZ m.nodes (stP m) (eK m (cl m ((aG m).at_ s i%2^ak m.nodes 36) ((aG m).at_ s i/2^ak m.nodes 36)))↔_
 rw [e1,e2];rfl
theorem CU {binds:List BindP} (h:jK (binds.map (·.state))=false) {j:Nat} {b:BindP} (hb:binds[j]?=some b): ∀x∈binds.take j,x.state≠b.state:=by
 intro x hx e
 have:jK (binds.map (·.state))=true:=uZ.2 ⟨j,b.state,by simp [hb],by
  rw [<-List.map_take,<-e];exact List.mem_map.2 ⟨x,hx,rfl⟩⟩
 rw [h]at this;cases this
theorem Gx {binds:List BindP} (h:jK (binds.map (·.state))=false) {j:Nat} {b:BindP} (hb:binds[j]?=some b) (p:Nat):
  cf (binds.take (j+1)) p=if b.state=(p:Int)then some b.node.toNat else cf (binds.take j) p:=by
 have hlt:=get_lt hb
 have hg:binds[j]=b:=by rw [List.getElem?_eq_getElem hlt]at hb;exact Option.some.inj hb
 unfold cf
 rw [List.take_succ_eq_append_getElem hlt,List.find?_append,hg]
 by_cases e:b.state=(p:Int)
 ·rw [if_pos e]
  have hn:(binds.take j).find? (fun b=>decide (b.state=(p:Int)))=none:=by
   rw [List.find?_eq_none]
   intro x hx
   have:=CU h hb x hx
   simp;omega
  rw [hn];simp [e]
 ·rw [if_neg e]
  have:([b]:List BindP).find? (fun b=>decide (b.state=(p:Int)))=none:=by simp [e]
  rw [this,Option.or_none]
theorem qO {m:ah} (h:tX m=false):lE m.nodes=false/\jK (m.inits.map (·.state))=false/\jK (m.nexts.map (·.state))=false:=by
 rw [De]at h
 simp only [Bool.or_eq_false_iff]at h
 exact h
theorem tM.blk {h0 h:Hp} {out:Sl} {ts:List Sl} {vs:List (List Nat)} (e:tM h0 h out ts vs) {i:Nat} (hi:i<vs.length):
  ∃b,ts[i]?=some ⟨some ⟨b,0,none⟩,(vs.getD i []).length,(vs.getD i []).length⟩/\h0 b=none/\(h.offS out) b=some (.inl ⟨(VL (vs.getD i [])).map I,(vs.getD i []).length,false⟩):=by
 have hl:=e.len
 obtain⟨b,h1,h2,h3⟩:=e.row i _ (List.getElem?_eq_getElem (show i<ts.length by omega))
 exact⟨b,by rw [List.getElem?_eq_getElem (show i<ts.length by omega),h1],h2,h3⟩
theorem tM.wr {h0 h:Hp} {out:Sl} {ts:List Sl} {vs:List (List Nat)} {b n c i k x:Nat} {P:Hp->Prop} (e:tM h0 h out ts vs) (ht:ts[i]?=some ⟨some ⟨b,0,none⟩,n,c⟩) (hi:i<vs.length) (hk:k<(vs.getD i []).length)
  (kk: ∀h',tM h0 h' out ts (vs.set i ((vs.getD i []).set k x))->P h'):
  ∃(cs:List Value) (z:Nat),h b=some (.inl ⟨cs,z,false⟩)/\(0+Int.toNat (k:Int)*1)+1<=List.length cs/\cA (h.row b (cz cs (0+Int.toNat (k:Int)*1) [I x]) z) P:=by
 obtain⟨b',h1,h2,h3⟩:=e.blk hi
 rw [ht]at h1
 simp only [Option.some.injEq,Sl.mk.injEq,Addr.mk.injEq,and_true,true_and]at h1
 obtain⟨rfl,rfl,rfl⟩:=h1
 refine⟨_,_,bz _ _ _ _ h3,?_,?_⟩
 ·rw [List.length_map,aY,Int.toNat_natCast];omega
 rw [Ra]
 refine kk _ ⟨by rw [List.length_set];exact e.len,fun j t hj=>?_,e.dis,e.buf.row _ _ h3,?_⟩
 ·obtain⟨bj,g1,g2,g3⟩:=e.row j t hj
  by_cases hji:j=i
  ·subst hji
   rw [ht]at hj
   obtain rfl:=(Option.some.inj hj).symm
   simp only [Sl.mk.injEq,Option.some.injEq,Addr.mk.injEq,and_true,true_and]at g1
   obtain⟨rfl,_⟩:=g1
   have hv:(vs.set j ((vs.getD j []).set k x)).getD j []=(vs.getD j []).set k x:=by
    rw [List.getD_eq_getElem?_getD,List.getElem?_set_self (by omega)];rfl
   rw [hv,List.length_set]
   refine⟨b,rfl,g2,?_⟩
   rw [qL _ _ h3,bM]
   simp [VL,List.map_set,bG]
  ·have hv:(vs.set i ((vs.getD i []).set k x)).getD j []=vs.getD j []:=by
    rw [List.getD_eq_getElem?_getD,List.getElem?_set_ne (Ne.symm hji),<-List.getD_eq_getElem?_getD]
   rw [hv]
   refine⟨bj,g1,g2,?_⟩
   rw [qL _ _ h3,bX]
   ·exact g3
   ·rintro rfl
    refine hji (e.dis j i t _ hj ht ?_)
    rw [g1]
 ·rw [qL _ _ h3]
  exact et _ _ h2 e.le
def yf (l:List NodeP) (ps:List Nat) (code i:Nat):List (List Nat):=(fy l ps code).take i++(cX l ps).drop i
def qW (l:List NodeP) (p code k:Nat):List Nat:=lq (cj l p) k code++List.replicate (aK l p-k) 0
theorem UQ (l:List NodeP) (ps:List Nat) (code i:Nat) (hi:i<=ps.length):(yf l ps code i).length=ps.length:=by
 unfold yf;rw [List.length_append,List.length_take,List.length_drop,kW,cX,List.length_map];omega
theorem NO {l:List NodeP} {ps:List Nat} {code i p:Nat} (h:ps[i]?=some p):(yf l ps code i).getD i []=qW l p (code/2^cC l (ps.take i)) 0:=by
 have hlt:=get_lt h
 unfold yf qW
 rw [List.getD_eq_getElem?_getD,List.getElem?_append_right (by rw [List.length_take,kW];omega),List.length_take,kW,Nat.min_eq_left (by omega),Nat.sub_self,List.getElem?_drop,Nat.add_zero,cX,List.getElem?_map,h]
 rfl
theorem VE {l:List NodeP} {ps:List Nat} {code i p:Nat} (h:ps[i]?=some p):(yf l ps code i).set i (qW l p (code/2^cC l (ps.take i)) (aK l p))=yf l ps code (i+1):=by
 have hlt:=get_lt h
 have hu:(fy l ps code)[i]?=some (lq (cj l p) (aK l p) (code/2^cC l (ps.take i))):=by
  have:=GL (l:=l) (code:=code) h
  rw [List.getD_eq_getElem?_getD,List.getElem?_eq_getElem (by rw [kW];exact hlt)]at this
  rw [List.getElem?_eq_getElem (by rw [kW];exact hlt)]
  exact congrArg some this
 unfold yf qW
 rw [Nat.sub_self,List.replicate_zero,List.append_nil,List.set_append_right _ _ (by rw [List.length_take,kW];omega),List.length_take,kW,Nat.min_eq_left (by omega),Nat.sub_self]
 have hd:(cX l ps).drop i=List.replicate (aK l p) 0::(cX l ps).drop (i+1):=by
  rw [<-List.getElem_cons_drop (show i<(cX l ps).length by rw [cX,List.length_map];exact hlt)]
  congr 1
  unfold cX
  rw [List.getElem_map]
  rw [List.getElem?_eq_getElem hlt]at h
  rw [Option.some.inj h]
 rw [hd,List.set_cons_zero,List.take_add_one,hu]
 simp
theorem Pg {l:List NodeP} {p code k:Nat} (hk:k<aK l p):(qW l p code k).set k (code/2^(cj l p*k)%2^cj l p)=qW l p code (k+1):=by
 unfold qW
 rw [List.set_append_right _ _ (by rw [qp];omega),qp,Nat.sub_self]
 obtain⟨d,hd⟩: ∃d,aK l p-k=d+1:=⟨aK l p-k-1,by omega⟩
 rw [hd,List.replicate_succ,List.set_cons_zero,show aK l p-(k+1)=d by omega,lq,List.append_assoc];rfl
theorem Ib {l:List NodeP} {p code k:Nat} (hk:k<=aK l p):(qW l p code k).length=aK l p:=by
 unfold qW;rw [List.length_append,qp,List.length_replicate];omega
theorem jq.widc {h:Hp} {s:Sl} {l:List NodeP} (e:jq h s l) {p:Nat} (hp:p<l.length) (hok:cv l=true):
  ∃b o,s.a=some (Addr.mk b o none)/\(p:Int)<(s.n:Int)/\Hp.cell h b (((o+Int.toNat (p:Int)*9)+6)+1)=some (I (cj l p))/\1<=cj l p/\cj l p<=16:=by
 obtain⟨b,o,h1,h2,h3,h4⟩:=e.sortc hp
 have:=cd.1 (qu hok hp)
 have hw:(aA l p).wid=((cj l p:Nat):Int):=by unfold cj;omega
 exact⟨b,o,h1,h2,by rw [<-hw];exact h4,by unfold cj;omega,by unfold cj;omega⟩
theorem V6 {l:List NodeP} {ps:List Nat} {code:Nat} {v:List Nat} (h:v∈fy l ps code):v.length<=4:=by
 unfold fy at h
 obtain⟨i,_,rfl⟩:=List.mem_map.1 h
 rw [qp];exact dm _ _
theorem m8 (l:List NodeP) (ps:List Nat):(cX l ps).length=ps.length:=by simp [cX]
theorem tD {h:Hp} {M:MSl} {m:ah} {s:Sl} {ps:List Nat} {code:Nat} {R:Value->Hp->Prop} (hs:aO h M m) (hm:bW m) (hok:cv m.nodes=true) (hp:IntS h s (VL ps)) (hps: ∀p∈ps,p<m.nodes.length) (hpl:ps.length<=1048576)
  (hcode:code<=1048576) (k: ∀out h',h.le h'->IntSS h' out ((fy m.nodes ps code).map VL)->out.n<=out.c->R (Sl.v out) h'):dW #[aQ M,s.v,I code] h R:=by
 apply Fg
 refine uf_ ?_
 have hn:=hs.nodes.len
 have hns:=hm.nodes
 have hsn:=hp.len
 rw [aY]at hsn
 refine aj fun b9 h1 hb9 l1 f9=>?_
 repeat' (refine az ?_)
 refine sq (hs.mono l1) hm (hp.mono l1) hps hpl fun out ts h2 hC hon=>⟨out,rfl,?_⟩
 refine av ps.length (fun i vs h'=>vs= [I (code/2^cC m.nodes (ps.take i):Nat), .pointer (some ⟨b9,0,none⟩),out.v,s.v,I s.n,I i]/\tM h1 h' out ts (yf m.nodes ps code i)) ⟨?_,?_⟩ ?_
 ·simp [cC]
 ·have:yf m.nodes ps code 0=cX m.nodes ps:=by simp [yf]
  rw [this];exact hC
 clear hC h2
 rintro i _ h2 next hi ⟨rfl,hC⟩ hnx
 have hle:=Hp.le_trans hC.le (bz _ _)
 have f9':=hle _ _ f9
 refine⟨_,_,_,out,s,_,_,rfl,?_⟩
 by_cases hlt:i<ps.length
 rotate_left
 ·have hie:i=ps.length:=by omega
  subst hie
  refine aE (by simp;omega) (k out h2 (Hp.le_trans l1 hle) ?_ hC.buf.2.1)
  have:yf m.nodes ps code ps.length=fy m.nodes ps code:=by
   unfold yf
   rw [List.take_of_length_le (by rw [kW];omega),List.drop_of_length_le (by rw [m8];omega),List.append_nil]
  rw [this]at hC
  refine hC.ints (fun v hv=>?_) (by omega)
  have:=V6 hv;omega
 refine aM (by simp;omega) ?_
 obtain⟨p,hpi⟩: ∃p,ps[i]?=some p:=⟨_,List.getElem?_eq_getElem hlt⟩
 have hpm:=hps p (List.mem_of_getElem? hpi)
 obtain⟨b,o,ha,hc⟩:=((hp.mono l1).mono hle).get (gU hpi)
 refine⟨b,o,ha,by omega,by omega,_,hc,?_⟩
 (refine az ?_)
 obtain⟨bn,on,han,hpn,c7,w1,w16⟩:=((hs.mono l1).mono hle).nodes.widc hpm hok
 refine⟨bn,on,han,by omega,hpn,_,c7,?_⟩
 have hol:=UQ m.nodes ps code i (by omega)
 obtain⟨bi,hti,hbi,hri⟩:=hC.blk (i:=i) (by omega)
 rw [NO hpi,Ib (Nat.zero_le _)]at hti
 obtain⟨bo,hoa,hob⟩: ∃bo,out.a=some ⟨bo,0,none⟩/\h2 bo=some (.inl ⟨ts.map Sl.v,out.c*1,false⟩):=by
  rcases hC.buf.2.2 with ⟨_,h0,_⟩|h0
  ·omega
  ·exact h0
 have hcell:Hp.cell h2 bo (0+Int.toNat (i:Int)*1)=some (Sl.v ⟨some ⟨bi,0,none⟩,aK m.nodes p,aK m.nodes p⟩):=by
  rw [aq hob,Nat.zero_add,Int.toNat_natCast,Nat.mul_one,List.getElem?_map,hti];rfl
 refine⟨bo,0,hoa,by omega,by omega,_,hcell,?_⟩
 have hcl:=dm m.nodes p
 generalize hci:code/2^cC m.nodes (ps.take i)=ci
 have hcile:ci<=code:=by rw [<-hci];exact Nat.div_le_self _ _
 refine av (aK m.nodes p) (fun k vs h'=>vs= [I (ci/2^(cj m.nodes p*k):Nat), .pointer (some ⟨b9,0,none⟩),out.v,I i,I (cj m.nodes p),s.v,I s.n,I i,I (aK m.nodes p:Nat),I k]/\
  tM h1 h' out ts ((yf m.nodes ps code i).set i (qW m.nodes p ci k))) ⟨by simp,?_⟩ ?_
 ·rw [<-hci,<-NO hpi]
  have:(yf m.nodes ps code i).set i ((yf m.nodes ps code i).getD i [])=yf m.nodes ps code i:=by
   rw [List.getD_eq_getElem?_getD,List.getElem?_eq_getElem (by omega)];simp
  rw [this];exact hC
 clear hC hle f9' hri hob hcell ha hc han hpn c7 h2
 rintro q _ h2 next2 hq ⟨rfl,hC⟩ hnx2
 have hle:=Hp.le_trans hC.le (bz _ _)
 have f9':=hle _ _ f9
 have hdiv:ci/2^(cj m.nodes p*q)<=ci:=Nat.div_le_self _ _
 refine⟨_,_,_,out,_,_,s,_,_,_,_,rfl,?_⟩
 have hgs:((yf m.nodes ps code i).set i (qW m.nodes p ci q)).getD i []=qW m.nodes p ci q:=by
  rw [List.getD_eq_getElem?_getD,List.getElem?_set_self (by omega)];rfl
 by_cases hlq:q<aK m.nodes p
 rotate_left
 ·have hqe:q=aK m.nodes p:=by omega
  subst hqe
  refine aE (by simp) ?_
  rw [aC (by omega)]
  refine hnx hlt _ _ ⟨?_,?_⟩
  ·rw [nv hpi,Nat.pow_add,<-Nat.div_div_eq_div_mul,hci]
  ·rw [<-hci]at hC
   rw [<-VE hpi];exact hC
 refine aM (by simp;omega) ?_
 obtain⟨bo',hoa',hob'⟩: ∃bo,out.a=some ⟨bo,0,none⟩/\h2 bo=some (.inl ⟨ts.map Sl.v,out.c*1,false⟩):=by
  rcases hC.buf.2.2 with ⟨_,h0,_⟩|h0
  ·omega
  ·exact h0
 have hcell':Hp.cell h2 bo' (0+Int.toNat (i:Int)*1)=some (Sl.v ⟨some ⟨bi,0,none⟩,aK m.nodes p,aK m.nodes p⟩):=by
  rw [aq hob',Nat.zero_add,Int.toNat_natCast,Nat.mul_one,List.getElem?_map,hti];rfl
 refine⟨bo',0,hoa',by omega,by omega,_,hcell',?_⟩
 refine dI (by omega) ⟨_,rfl,rfl,bi,0,rfl,by omega,by dsimp only;omega,?_⟩
 rw [ia (by omega),pz,jw (by omega),Nat.div_div_eq_div_mul,<-Nat.pow_add]
 refine hC.wr hti (by rw [List.length_set];omega) (by rw [hgs,Ib (by omega)];exact hlq) fun h3 hC'=>?_
 rw [if_neg (by omega),aC (by omega)]
 refine hnx2 hlq _ _ ⟨by rw [Nat.mul_add,Nat.mul_one],?_⟩
 rw [hgs,List.set_set,Pg hlq]at hC'
 exact hC'
theorem jq.sortc2 {h:Hp} {s:Sl} {l:List NodeP} (e:jq h s l) {p:Nat} (hp:p<l.length) (hok:cv l=true):
  ∃b o,s.a=some (Addr.mk b o none)/\(p:Int)<(s.n:Int)/\Hp.cell h b ((o+Int.toNat (p:Int)*9)+6)=some (I (aA l p).idx)/\Hp.cell h b (((o+Int.toNat (p:Int)*9)+6)+1)=some (I (cj l p))/\1<=cj l p/\cj l p<=16:=by
 obtain⟨b,o,h1,h2,h3,h4⟩:=e.sortc hp
 have:=cd.1 (qu hok hp)
 have hw:(aA l p).wid=((cj l p:Nat):Int):=by unfold cj;omega
 exact⟨b,o,h1,h2,h3,by rw [<-hw];exact h4,by unfold cj;omega,by unfold cj;omega⟩
theorem qN {l:List NodeP} {p:Nat} (hok:cv l=true) (hp:p<l.length):cT ⟨(aA l p).idx,(cj l p:Nat)⟩=aK l p:=by
 have:=cd.1 (qu hok hp)
 have hw:((cj l p:Nat):Int)=(aA l p).wid:=by unfold cj;omega
 rw [hw];rfl
theorem VD (w k ci:Nat):(VL (lq w k ci)).map I++ [I ((ci/2^(w*k)%2^w:Nat):Int)]=(VL (lq w (k+1) ci)).map I:=by
 rw [lq,uJ,List.map_append];rfl
theorem gf {h:Hp} {M:MSl} {m:ah} {s:Sl} {ps:List Nat} {code:Nat} {R:Value->Hp->Prop} (hs:aO h M m) (hm:bW m) (hok:cv m.nodes=true) (hp:IntS h s (VL ps)) (hps: ∀p∈ps,p<m.nodes.length) (hpl:ps.length<=1048576)
  (hcode:code<=1048576) (hsum:cC m.nodes ps<=60) (k: ∀out h',h.le h'->IntSS h' out ((fy m.nodes ps code).map VL)->R (Sl.v out) h'):bC #[aQ M,s.v,I code] h R:=by
 apply E7
 refine uf_ ?_
 have hn:=hs.nodes.len
 have hns:=hm.nodes
 have hsn:=hp.len
 rw [aY]at hsn
 refine aj fun b9 h1 hb9 l1 f9=>?_
 refine av ps.length (fun i vs h'=> ∃(ts:List Sl) (out:Sl),vs= [s.v,I code, .pointer (some ⟨b9,0,none⟩),out.v,I (cC m.nodes (ps.take i):Nat),I i]/\
  h.le (h'.offS out)/\(h'.offS out) b9=some (.inl ⟨aw M,5,false⟩)/\out.n=i/\ts.length=i/\Buf h' out 1 (ts.map Sl.v)/\
  (∀(j:Nat) (t:Sl),ts[j]?=some t->IntS (h'.offS out) t (VL ((fy m.nodes ps code).getD j []))))
  ⟨[],⟨none,0,0⟩,by simp [cC],l1,f9,rfl,rfl,eZ _ _,fun j t ht=>by simp at ht⟩ ?_
 clear f9 l1 hb9 h1
 rintro i _ h3 next hi ⟨ts,out,rfl,l3,f9,hon,htl,hbuf,hts⟩ hnx
 have lo:=bz h3 out
 have f9':=lo _ _ f9
 have l3':=Hp.le_trans l3 lo
 have hsi:=FD m.nodes ps i
 refine⟨s,_,_,_,out,_,_,rfl,?_⟩
 by_cases hlt:i<ps.length
 rotate_left
 ·have hie:i=ps.length:=by omega
  subst hie
  refine aE (by simp;omega) (k out h3 l3' ⟨ts,by simp [kW];omega,hbuf.slc_of (by omega),fun j h1 h2=>?_⟩)
  have:=(hts j _ (List.getElem?_eq_getElem h1)).mono lo
  have hju:j<(fy m.nodes ps code).length:=by rw [kW];omega
  rw [List.getElem_map]
  rwa [List.getD_eq_getElem?_getD,List.getElem?_eq_getElem hju]at this
 refine aM (by simp;omega) ?_
 obtain⟨p,hpi⟩: ∃p,ps[i]?=some p:=⟨_,List.getElem?_eq_getElem hlt⟩
 have hpm:=hps p (List.mem_of_getElem? hpi)
 obtain⟨b,o,ha,hc⟩:=(hp.mono l3').get (gU hpi)
 refine⟨b,o,ha,by omega,by omega,?_⟩
 (refine az ?_)
 refine⟨_,hc,?_⟩
 obtain⟨bn,on,han,hpn,c6,c7,w1,w16⟩:=(hs.mono l3').nodes.sortc2 hpm hok
 refine⟨bn,on,han,by omega,hpn,_,c6,_,c7,?_⟩
 have xb:=gY hc
 have xbn:=gY c6
 have xb9:=eY f9'
 refine aj fun b37 h4 hb37 l4 f37=>?_
 repeat' (((with_reducible apply lb);(assumption);(assumption)))
 (with_reducible apply bZ);(exact f37);(exact l4);(exact hb37);(exact Nat.le_refl 2)
 intro h5 f37b kp l5
 clear f37 kp l4 h4
 refine aj fun b43 h6 hb43 l6 f43=>?_
 have n37:=fresh_ne hb43 f37b
 have hb43':=aF l5 hb43
 (with_reducible apply bZ);(exact f43);(exact Hp.le_trans l5 l6);(exact hb43');(exact Nat.le_refl 1)
 intro h7 f43b kp l7
 have f37c:h7 b37=some (.inl ⟨[I (aA m.nodes p).idx,I (cj m.nodes p)],2,false⟩):=ck kp n37 (l6 _ _ f37b)
 have f43c:h7 b43=some (.inl ⟨[(⟨none,0,0⟩:Sl).v],1,false⟩):=f43b
 clear f43 f43b f37b kp l6 l5
 have hcl:=dm m.nodes p
 have hcm:=qN hok hpm
 have hstep:=nv (l:=m.nodes) hpi
 have hsi1:=FD m.nodes ps (i+1)
 obtain⟨ci,hci⟩: ∃ci,ci=code/2^cC m.nodes (ps.take i):=⟨_,rfl⟩
 refine av (aK m.nodes p) (fun q vs h'=> ∃sl:Sl,vs= [s.v,I code, .pointer (some ⟨b9,0,none⟩),out.v,I (cC m.nodes (ps.take i)+cj m.nodes p*q:Nat),I i, .pointer (some ⟨b37,0,none⟩), .pointer (some ⟨b43,0,none⟩),I q]/\
  h3.le (h'.offS sl)/\(h'.offS sl) b37=some (.inl ⟨[I (aA m.nodes p).idx,I (cj m.nodes p)],2,false⟩)/\(h'.offS sl) b43=some (.inl ⟨[sl.v],1,false⟩)/\sl.n=q/\Buf h' sl 1 ((VL (lq (cj m.nodes p) q ci)).map I))
  ⟨⟨none,0,0⟩,by simp,l7,f37c,f43c,rfl,eZ _ _⟩ ?_
 clear f37c f43c l7 h7
 rintro q _ h7 next2 hq ⟨sl,rfl,l7,f37,f43,hsl,hbufl⟩ hnx2
 have los:=bz h7 sl
 have f37':=los _ _ f37
 have f43':=los _ _ f43
 refine⟨s,_,_,_,out,_,_,_,_,_,_,_,rfl,?_⟩
 repeat' (refine az ?_)
 refine fD ⟨_,rfl,?_⟩
 rw [hcm]
 by_cases hlq:q<aK m.nodes p
 rotate_left
 ·have hqe:q=aK m.nodes p:=by omega
  subst hqe
  refine aE (by simp) ?_
  (refine az ?_)
  refine aj fun b103 h8 hb103 l8 f103=>?_
  have l38:=Hp.le_trans l7 (Hp.le_trans los l8)
  have l38o:=bP out l38
  refine dw (hbuf.mono l38) (by omega) (by omega) (by omega) ⟨b103,0,rfl,ay f103⟩ (by simp) rfl ?_
  intro s' h10 hs'n hbuf' l10 _
  rw [aC (by omega)]
  have l310:=Hp.le_trans l38o l10
  have hbuf'':Buf h10 s' 1 ((ts++ [sl]).map Sl.v):=by rw [List.map_append];exact hbuf'
  have hval:IntS h8 sl (VL (lq (cj m.nodes p) (aK m.nodes p) ci)):=SlC.mono l8 (hbufl.slc_of (by omega))
  rw [<-hstep]
  refine hnx hlt _ _ ⟨ts++ [sl],s',rfl,Hp.le_trans l3 l310,l310 _ _ f9,by omega,by simp;omega,hbuf'',fun j u hu=>?_⟩
  by_cases hj:j<i
  ·rw [List.getElem?_append_left (by omega)]at hu
   exact(hts j u hu).mono l310
  ·have hju:=get_lt hu
   simp at hju
   have hje:j=i:=by omega
   subst hje
   rw [List.getElem?_append_right (by omega),htl,Nat.sub_self]at hu
   simp at hu;subst hu
   rw [GL hpi,<-hci]
   exact(hval.offL (hbuf.mono l38)).mono l10
 refine aM (by simp;omega) ?_
 have hmul:cj m.nodes p*q<=cj m.nodes p*aK m.nodes p:=Nat.mul_le_mul_left _ hq
 have hmul2:cj m.nodes p*(q+1)<=cj m.nodes p*aK m.nodes p:=Nat.mul_le_mul_left _ hlq
 have hp16:=z8 w16
 have hpp:=bJ (cj m.nodes p)
 refine ap (fun J=> ∀(sl':Sl) (h':Hp),h3.le (h'.offS sl')->(h'.offS sl') b37=some (.inl ⟨[I (aA m.nodes p).idx,I (cj m.nodes p)],2,false⟩)->(h'.offS sl') b43=some (.inl ⟨[sl'.v],1,false⟩)->sl'.n=q+1->
   Buf h' sl' 1 ((VL (lq (cj m.nodes p) (q+1) ci)).map I)->J (cC m.nodes (ps.take i)+cj m.nodes p*(q+1):Nat) h') ?_ (fun J hJ=>?_)
 ·intro sl' h' g1 g2 g3 g4 g5
  rw [aC (by omega)]
  exact hnx2 hlq _ _ ⟨sl',rfl,g1,g2,g3,g4,g5⟩
 have xb60:=eY f37'
 have xb62:=eY f43'
 rw [cu (n:=cC m.nodes (ps.take i)+cj m.nodes p*q) (by omega)]
 repeat' (refine az ?_)
 rw [cu (n:=cj m.nodes p) (by omega)]
 rw [jw (by omega),bK (by omega),eU]
 have hval:code/2^(cC m.nodes (ps.take i)+cj m.nodes p*q)=ci/2^(cj m.nodes p*q):=by
  rw [hci,Nat.div_div_eq_div_mul,<-Nat.pow_add]
 rw [hval]
 have app: ∀(K:Option Addr->Nat->Nat->Hp->Prop) (h8:Hp) (b75:Nat),h7.le h8->h8 b75=some (.inl ⟨[I ((ci/2^(cj m.nodes p*q)%2^cj m.nodes p:Nat):Int)],1,false⟩)->
   (∀(s':Sl) (h9:Hp),s'.n=q+1->h3.le (h9.offS s')->(h9.offS s') b37=some (.inl ⟨[I (aA m.nodes p).idx,I (cj m.nodes p)],2,false⟩)->(h9.offS s') b43=some (.inl ⟨[sl.v],1,false⟩)->Buf h9 s' 1 ((VL (lq (cj m.nodes p) (q+1) ci)).map I)->K s'.a s'.n s'.c h9)->
   co h8 sl.a sl.n sl.c (some ⟨b75,0,none⟩) 1 1 8 K:=by
  intro K h8 b75 l8 f75 hK
  have l78:=bP sl l8
  refine dw (hbufl.mono l8) (by omega) (by omega) (by omega) ⟨b75,0,rfl,ay f75⟩ (by simp) rfl ?_
  intro s' h9 hs'n hbuf' l9 _
  have l79:=Hp.le_trans l78 l9
  refine hK s' h9 (by omega) (Hp.le_trans l7 l79) (l79 _ _ f37) (l79 _ _ f43) ?_
  rw [<-VD];exact hbuf'
 have fin: ∀(s':Sl) (h9:Hp),s'.n=q+1->h3.le (h9.offS s')->(h9.offS s') b37=some (.inl ⟨[I (aA m.nodes p).idx,I (cj m.nodes p)],2,false⟩)->(h9.offS s') b43=some (.inl ⟨[sl.v],1,false⟩)->Buf h9 s' 1 ((VL (lq (cj m.nodes p) (q+1) ci)).map I)->
   ∃(cs:List Value) (z:Nat),h9 b43=some (.inl ⟨cs,z,false⟩)/\0+1<=List.length cs/\cA (h9.row b43 (cz cs 0 [.slice s'.a s'.n s'.c]) z) fun h83=> ∃(x85:Int),Hp.cell h83 b37 (0+1)=some (I x85)/\(J (W (((cC m.nodes (ps.take i)+cj m.nodes p*q:Nat):Int)+x85)) h83):=by
  intro s' h9 g1 g2 g3 g4 g5
  (with_reducible apply ww);(exact g4);(exact g2);(exact hb43');(exact Nat.le_refl 1)
  intro h10 e43 kp l10 hbk
  have e37:(h10.offS s') b37=some (.inl ⟨[I (aA m.nodes p).idx,I (cj m.nodes p)],2,false⟩):=by rw [kp _ n37];exact g3
  refine⟨_,by rw [aq (bz _ _ _ _ e37)];rfl,?_⟩
  have:W (((cC m.nodes (ps.take i)+cj m.nodes p*q:Nat):Int)+((cj m.nodes p:Nat):Int))=((cC m.nodes (ps.take i)+cj m.nodes p*(q+1):Nat):Int):=by
   rw [bU (by omega) (by omega),Nat.mul_add,Nat.mul_one];omega
  rw [this]
  exact hJ s' h10 l10 e37 e43 g1 (hbk _ _ g5)
 constructor
 ·repeat' (refine az ?_)
  rw [if_neg (by omega)]
  repeat' (refine az ?_)
  rw [if_neg (by omega),if_neg (by omega)]
  refine aj fun b75 h8 hb75 l8 f75=>?_
  (((with_reducible apply lb);(assumption);(assumption)))
  exact app _ h8 b75 l8 f75 fun s' h9 g1 g2 g3 g4 g5=>fin s' h9 g1 g2 g3 g4 g5
 ·repeat' (refine az ?_)
  rw [if_neg (by omega)]
  repeat' (refine az ?_)
  rw [if_neg (by omega),if_neg (by omega)]
  refine aj fun b75 h8 hb75 l8 f75=>?_
  (((with_reducible apply lb);(assumption);(assumption)))
  exact app _ h8 b75 l8 f75 fun s' h9 g1 g2 g3 g4 g5=>fin s' h9 g1 g2 g3 g4 g5
theorem P8 {a n x:Nat} (h:a<2^n):a|||(x*2^n)=a+x*2^n:=by
 rw [Nat.or_comm,Nat.mul_comm,<-Nat.two_pow_add_eq_or_of_lt h,Nat.add_comm]
theorem Hh {l:List NodeP} {ps:List Nat} {vs:List (List Nat)} {i p:Nat} (h:ps[i]?=some p) (hf:j7 l ps vs):
  dZ l (ps.take (i+1)) (vs.take (i+1))=dZ l (ps.take i) (vs.take i)+2^cC l (ps.take i)*fP (cj l p) (vs.getD i []):=by
 have hlt:=get_lt h
 have hl:=oP hf
 rw [List.getElem?_eq_getElem hlt]at h
 rw [List.take_succ_eq_append_getElem hlt,List.take_succ_eq_append_getElem (show i<vs.length by omega),O7 (by rw [List.length_take,List.length_take];omega),Option.some.inj h]
 rw [List.getD_eq_getElem?_getD,List.getElem?_eq_getElem (show i<vs.length by omega)];rfl
theorem Ph {w:Nat} {v:List Nat} {q:Nat} (h:q<v.length):fP w (v.take (q+1))=fP w (v.take q)+2^(w*q)*v.getD q 0:=by
 rw [List.take_succ_eq_append_getElem h,GZ,List.length_take,Nat.min_eq_left (by omega),List.getD_eq_getElem?_getD,List.getElem?_eq_getElem h];rfl
theorem wl {l:List NodeP} {ps:List Nat} {vs:List (List Nat)} {i p q:Nat} (h:ps[i]?=some p) (hf:j7 l ps vs) (hq:q<=aK l p):
  dZ l (ps.take i) (vs.take i)+2^cC l (ps.take i)*fP (cj l p) ((vs.getD i []).take q)<2^(cC l (ps.take i)+cj l p*q):=by
 have h1:=uB (Tn hf i)
 have h2:=mu hf h
 have h3:=xn (w:=cj l p) (xs:=(vs.getD i []).take q) fun x hx=>h2.2 x (List.mem_of_mem_take hx)
 rw [List.length_take,Nat.min_eq_left (by omega)]at h3
 rw [Nat.pow_add]
 have h4:=Nat.mul_le_mul_left (2^cC l (ps.take i)) (Nat.succ_le_of_lt h3)
 rw [Nat.succ_eq_add_one,Nat.mul_add,Nat.mul_one]at h4
 omega
theorem IntSS.getV {h:Hp} {s:Sl} {vs:List (List Nat)} (e:IntSS h s (vs.map VL)) {i:Nat} (hi:i<vs.length):
  ∃b o t,s.a=some (Addr.mk b o none)/\Hp.cell h b (o+i*1)=some (Sl.v t)/\IntS h t (VL (vs.getD i [])):=by
 obtain⟨b,o,t,h1,h2,h3⟩:=e.at (i:=i) (by rw [List.length_map];exact hi)
 refine⟨b,o,t,h1,by rw [Nat.mul_one];exact h2,?_⟩
 rw [List.getElem_map]at h3
 rwa [List.getD_eq_getElem?_getD,List.getElem?_eq_getElem hi]
theorem yJ {l:List NodeP} {ps:List Nat} {i p q:Nat} (h:ps[i]?=some p) (hq:q<=aK l p):cC l (ps.take i)+cj l p*q<=cC l ps:=by
 have h1:=nv (l:=l) h
 have h2:=FD l ps (i+1)
 have h3:=Nat.mul_le_mul_left (cj l p) hq
 omega
theorem Cx {n:Nat} (h:n<=60):2^n<=1152921504606846976:=by
 have:=Nat.pow_le_pow_right (n:=2) (by omega) h
 simpa using this
theorem yS {l:List NodeP} {ps:List Nat} {vs:List (List Nat)} {i p q:Nat} (h:ps[i]?=some p) (hf:j7 l ps vs) (hq:q<aK l p):
  dZ l (ps.take i) (vs.take i)+2^cC l (ps.take i)*fP (cj l p) ((vs.getD i []).take (q+1))=
   (dZ l (ps.take i) (vs.take i)+2^cC l (ps.take i)*fP (cj l p) ((vs.getD i []).take q))+(vs.getD i []).getD q 0*2^(cC l (ps.take i)+cj l p*q):=by
 have h2:=mu hf h
 rw [Ph (by omega),Nat.mul_add,Nat.add_assoc,<-Nat.mul_assoc,<-Nat.pow_add,Nat.mul_comm (2^(cC l (ps.take i)+cj l p*q))]
theorem CJ {h:Hp} {M:MSl} {m:ah} {s t:Sl} {ps:List Nat} {vs:List (List Nat)} {R:Value->Hp->Prop} (hs:aO h M m) (hm:bW m) (hok:cv m.nodes=true) (hp:IntS h s (VL ps)) (hps: ∀p∈ps,p<m.nodes.length) (hpl:ps.length<=1048576)
  (hv:IntSS h t (vs.map VL)) (hf:j7 m.nodes ps vs) (hsum:cC m.nodes ps<=60) (k:R (I (dZ m.nodes ps vs)) h):ja #[aQ M,s.v,t.v] h R:=by
 refine ACalls.drop (BZ ?_)
 refine uf_ ?_
 have hn:=hs.nodes.len
 have hns:=hm.nodes
 have hsn:=hp.len
 rw [aY]at hsn
 have htn:=hv.len
 rw [List.length_map]at htn
 have hvl:=oP hf
 have hsum60:=Cx hsum
 refine aj fun b9 h1 hb9 l1 f9=>?_
 refine av ps.length (fun i ws h'=>h'=h1/\ws= [t.v, .pointer (some ⟨b9,0,none⟩),I (dZ m.nodes (ps.take i) (vs.take i):Nat),I (cC m.nodes (ps.take i):Nat),s.v,I s.n,I i]) ⟨rfl,by simp [dZ,cC]⟩ ?_
 rintro i _ _ next hi ⟨rfl,rfl⟩ hnx
 rename_i h1
 refine⟨t,_,_,_,_,s,_,_,rfl,?_⟩
 by_cases hlt:i<ps.length
 rotate_left
 ·have hie:i=ps.length:=by omega
  subst hie
  refine aE (by simp;omega) ⟨_,l1,?_⟩
  rw [List.take_of_length_le (Nat.le_refl _),List.take_of_length_le (by omega)];exact k
 refine aM (by simp;omega) ?_
 obtain⟨p,hpi⟩: ∃p,ps[i]?=some p:=⟨_,List.getElem?_eq_getElem hlt⟩
 have hpm:=hps p (List.mem_of_getElem? hpi)
 obtain⟨b,o,ha,hc⟩:=(hp.mono l1).get (gU hpi)
 refine⟨b,o,ha,by omega,by omega,_,hc,?_⟩
 obtain⟨bt,ot,c,hta,htc,hcv⟩:=(hv.mono l1).getV (i:=i) (by omega)
 refine⟨bt,ot,hta,by omega,by omega,c,htc,?_⟩
 obtain⟨bn,on,han,hpn,c7,w1,w16⟩:=(hs.mono l1).nodes.widc hpm hok
 have hg:=mu hf hpi
 have hcn:=hcv.len
 rw [aY]at hcn
 have hcl:=dm m.nodes p
 refine av (aK m.nodes p) (fun q ws h'=>h'=h1/\ws= [t.v, .pointer (some ⟨b9,0,none⟩),I (dZ m.nodes (ps.take i) (vs.take i)+2^cC m.nodes (ps.take i)*fP (cj m.nodes p) ((vs.getD i []).take q):Nat),
  I (cC m.nodes (ps.take i)+cj m.nodes p*q:Nat),I p,s.v,I s.n,I i,c.v,I c.n,I q]) ⟨rfl,by simp [fP]⟩ ?_
 rintro q _ _ next2 hq ⟨rfl,rfl⟩ hnx2
 rename_i h1
 refine⟨t,_,_,_,_,_,s,_,_,c,_,_,rfl,?_⟩
 by_cases hlq:q<aK m.nodes p
 rotate_left
 ·have hqe:q=aK m.nodes p:=by omega
  subst hqe
  refine aE (by simp;omega) ?_
  rw [aC (by omega)]
  refine hnx hlt _ _ ⟨rfl,?_⟩
  rw [Hh hpi hf,nv hpi,List.take_of_length_le (l:=vs.getD i []) (by omega)]
 refine aM (by simp;omega) ?_
 obtain⟨bc,oc,hca,hcc,hln⟩:=hcv.elt (i:=q) (by omega)
 refine⟨bc,oc,hca,by omega,by omega,_,hcc,?_⟩
 have hb1:=wl hpi hf (Nat.le_of_lt hlq)
 have hb2:=wl (q:=q+1) hpi hf hlq
 rw [yS hpi hf hlq]at hb2
 have hs1:=yJ hpi (Nat.le_of_lt hlq)
 have hs2:=yJ (q:=q+1) hpi hlq
 have hp1:=Cx (n:=cC m.nodes (ps.take i)+cj m.nodes p*(q+1)) (by omega)
 have hp2:=Cx (n:=cC m.nodes (ps.take i)+cj m.nodes p*q) (by omega)
 rw [if_neg (by omega)]
 (refine az ?_)
 refine⟨bn,on,han,by omega,hpn,_,c7,?_⟩
 rw [ir (by omega) (by omega),Bs (by omega) (by omega),P8 hb1,<-yS hpi hf hlq,bU (n:=((cC m.nodes (ps.take i)+cj m.nodes p*q:Nat):Int)+(cj m.nodes p:Nat)) (by omega) (by omega),aC (by omega)]
 refine hnx2 hlq _ _ ⟨rfl,?_⟩
 rw [Nat.mul_add,Nat.mul_one,<-Nat.add_assoc,Int.natCast_add (cC m.nodes (ps.take i)+cj m.nodes p*q)]
theorem yy {h:Hp} {M:MSl} {m:ah} {s t:Sl} {ps:List Nat} {vs:List (List Nat)} {R:Value->Hp->Prop} (hs:aO h M m) (hm:bW m) (hok:cv m.nodes=true) (hp:IntS h s (VL ps)) (hps: ∀p∈ps,p<m.nodes.length) (hpl:ps.length<=1048576)
  (hv:IntSS h t (vs.map VL)) (hf:j7 m.nodes ps vs) (hsum:cC m.nodes ps<=60) (k:R (I (dZ m.nodes ps vs)) h):ml #[aQ M,s.v,t.v] h R:=by
 refine ACalls.drop (Jo ?_)
 refine uf_ ?_
 have hn:=hs.nodes.len
 have hns:=hm.nodes
 have hsn:=hp.len
 rw [aY]at hsn
 have htn:=hv.len
 rw [List.length_map]at htn
 have hvl:=oP hf
 have hsum60:=Cx hsum
 refine aj fun b9 h1 hb9 l1 f9=>?_
 refine av ps.length (fun i ws h'=>h'=h1/\ws= [s.v,t.v, .pointer (some ⟨b9,0,none⟩),I (dZ m.nodes (ps.take i) (vs.take i):Nat),I (cC m.nodes (ps.take i):Nat),I i]) ⟨rfl,by simp [dZ,cC]⟩ ?_
 rintro i _ _ next hi ⟨rfl,rfl⟩ hnx
 rename_i h1
 refine⟨s,t,_,_,_,_,_,rfl,?_⟩
 by_cases hlt:i<ps.length
 rotate_left
 ·have hie:i=ps.length:=by omega
  subst hie
  refine aE (by simp;omega) ⟨_,l1,?_⟩
  rw [List.take_of_length_le (Nat.le_refl _),List.take_of_length_le (by omega)];exact k
 refine aM (by simp;omega) ?_
 obtain⟨p,hpi⟩: ∃p,ps[i]?=some p:=⟨_,List.getElem?_eq_getElem hlt⟩
 have hpm:=hps p (List.mem_of_getElem? hpi)
 obtain⟨b,o,ha,hc⟩:=(hp.mono l1).get (gU hpi)
 refine⟨b,o,ha,by omega,by omega,?_⟩
 (refine az ?_)
 refine⟨_,hc,?_⟩
 obtain⟨bn,on,han,hpn,c7,w1,w16⟩:=(hs.mono l1).nodes.widc hpm hok
 refine⟨bn,on,han,by omega,hpn,_,c7,?_⟩
 obtain⟨bt,ot,c,hta,htc,hcv⟩:=(hv.mono l1).getV (i:=i) (by omega)
 have hg:=mu hf hpi
 have hcn:=hcv.len
 rw [aY]at hcn
 have hcl:=dm m.nodes p
 refine av (aK m.nodes p) (fun q ws h'=>h'=h1/\ws= [s.v,t.v, .pointer (some ⟨b9,0,none⟩),I (dZ m.nodes (ps.take i) (vs.take i)+2^cC m.nodes (ps.take i)*fP (cj m.nodes p) ((vs.getD i []).take q):Nat),
  I (cC m.nodes (ps.take i)+cj m.nodes p*q:Nat),I i,I (cj m.nodes p),I q]) ⟨rfl,by simp [fP]⟩ ?_
 rintro q _ _ next2 hq ⟨rfl,rfl⟩ hnx2
 rename_i h1
 refine⟨s,t,_,_,_,_,_,_,_,rfl,?_⟩
 refine⟨bt,ot,hta,by omega,by omega,c,htc,?_⟩
 by_cases hlq:q<aK m.nodes p
 rotate_left
 ·have hqe:q=aK m.nodes p:=by omega
  subst hqe
  refine aE (by simp;omega) ?_
  rw [aC (by omega)]
  refine hnx hlt _ _ ⟨rfl,?_⟩
  rw [Hh hpi hf,nv hpi,List.take_of_length_le (l:=vs.getD i []) (by omega)]
 refine aM (by simp;omega) ?_
 refine⟨bt,ot,hta,by omega,by omega,c,htc,?_⟩
 obtain⟨bc,oc,hca,hcc,hln⟩:=hcv.elt (i:=q) (by omega)
 refine⟨bc,oc,hca,by omega,by omega,_,hcc,?_⟩
 have hb1:=wl hpi hf (Nat.le_of_lt hlq)
 have hb2:=wl (q:=q+1) hpi hf hlq
 rw [yS hpi hf hlq]at hb2
 have hs1:=yJ hpi (Nat.le_of_lt hlq)
 have hs2:=yJ (q:=q+1) hpi hlq
 have hp1:=Cx (n:=cC m.nodes (ps.take i)+cj m.nodes p*(q+1)) (by omega)
 have hp2:=Cx (n:=cC m.nodes (ps.take i)+cj m.nodes p*q) (by omega)
 rw [cu (n:=cC m.nodes (ps.take i)+cj m.nodes p*q) (by omega),if_neg (by omega)]
 rw [ir (by omega) (by omega),<-Int.natCast_add,eO (by omega),<-yS hpi hf hlq,bU (n:=((cC m.nodes (ps.take i)+cj m.nodes p*q:Nat):Int)+(cj m.nodes p:Nat)) (by omega) (by omega),aC (by omega)]
 refine hnx2 hlq _ _ ⟨rfl,?_⟩
 rw [Nat.mul_add,Nat.mul_one,<-Nat.add_assoc,Int.natCast_add (cC m.nodes (ps.take i)+cj m.nodes p*q)]
structure CA (m:ah) (v:List (List Nat)):Prop where
 len:v.length=m.nodes.length
 fit:yg m.nodes m.nodes.length v
theorem eD {m:ah} (g:dj m) (s i:Nat):CA m (cl m s i):=⟨JL _ _ _,yN g s i⟩
theorem xY {m:ah} (g:dj m):CA m (pa m):=⟨JL _ _ _,MX g (kx m.nodes (stP m)) (kx m.nodes (inP m))⟩
theorem FN {m:ah} {v:List (List Nat)} (a:CA m v) {p:Int} (h:dD m.nodes p=true):0<=p/\p<v.length/\0<(v.getD p.toNat []).length/\cB v p<2:=by
 unfold dD at h
 simp only [Bool.and_eq_true,decide_eq_true_eq]at h
 have hp:=fC.1 h.1
 have hn:((p.toNat:Nat):Int)=p:=by omega
 have hf:=a.fit p.toNat (by omega) (by omega)
 rw [hn,h.2]at hf
 have:=hf.cell
 exact⟨hp.1,by rw [a.len];exact hp.2,hf.pos,by unfold cB;exact this⟩
theorem Hd {h:Hp} {s:Sl} {v:List (List Nat)} {p:Int} {R:Value->Hp->Prop} (hpv:gD h s v) (h0:0<=p) (hp:p<v.length) (hne:0<(v.getD p.toNat []).length)
  (k:R (.bool (decide (cB v p=1))) h):rM #[s.v,I p] h R:=by
 apply Mu
 refine uf_ ?_
 obtain⟨b,o,t,ha,hlt,hc,ht⟩:=hpv.at h0 hp
 refine⟨b,o,ha,h0,hlt,t,hc,?_⟩
 obtain⟨b2,o2,ha2,hc2,hl2⟩:=ht.elt hne
 refine⟨b2,o2,ha2,by omega,by omega,_,hc2,dq ?_ k⟩
 rw [Bool.eq_iff_iff,decide_eq_true_eq,beq_iff_eq]
 unfold cB;omega
theorem Ge {h:Hp} {M:MSl} {m:ah} {s:Sl} {v:List (List Nat)} {R:Value->Hp->Prop} (hs:aO h M m) (g:dj m) (hpv:gD h s v) (a:CA m v)
  (k:R (.bool (gZ m v)) h):j8 #[aQ M,s.v] h R:=by
 refine ACalls.drop (AH ?_)
 refine uf_ ?_
 refine aj fun b8 h1 hb8 l1 f8=>?_
 refine aj fun b10 h2 hb10 l2 f10=>?_
 replace f8:=l2 _ _ f8
 replace l2:=Hp.le_trans l1 l2
 (refine az ?_)
 refine po (fun p=> !decide (cB v p=1)) (hs.mono l2).holds (fun p hp R k=>?_) ⟨_,rfl,_,l2,dq ?_ k⟩
 ·obtain⟨h1,h2,h3,_⟩:=FN a (g.hol p hp)
  apply xf
  refine uf_ ?_
  (refine az ?_)
  exact Hd (hpv.mono l2) h1 h2 h3 ⟨_,rfl,k⟩
 ·rw [FH,Bool.not_not];rfl
theorem M4 {h:Hp} {M:MSl} {m:ah} {s:Sl} {v:List (List Nat)} {R:Value->Hp->Prop} (hs:aO h M m) (g:dj m) (hpv:gD h s v) (a:CA m v)
  (k:R (I (xQ m v)) h):lk #[aQ M,s.v] h R:=by
 refine ACalls.drop (Dr ?_)
 refine uf_ ?_
 refine aj fun b8 h1 hb8 l1 f8=>?_
 refine aj fun b10 h2 hb10 l2 f10=>?_
 replace f8:=l2 _ _ f8
 replace l2:=Hp.le_trans l1 l2
 (refine az ?_)
 refine sA (fun p=>decide (cB v p=1)) (hs.mono l2).bads (fun p hp R k=>?_) ⟨_,rfl,_,l2,rb ?_ k⟩
 ·obtain⟨h1,h2,h3,_⟩:=FN a (g.bad p hp)
  apply zv
  refine uf_ ?_
  (refine az ?_)
  exact Hd (hpv.mono l2) h1 h2 h3 ⟨_,rfl,k⟩
 ·unfold F4 xQ qC
  cases List.findIdx? (fun p=>decide (cB v p=1)) m.bads<;>rfl
theorem v5 {h:Hp} {M:MSl} {m:ah} {s:Sl} {v:List (List Nat)} {R:Value->Hp->Prop} (hs:aO h M m) (g:dj m) (hpv:gD h s v) (a:CA m v)
  (k:R (.bool (gZ m v)) h):kR #[aQ M,s.v] h R:=by
 refine ACalls.drop (G2 ?_)
 refine uf_ ?_
 have hhn:=hs.holds.len
 have hhl:=g.hl
 refine aj fun b8 h1 hb8 l1 f8=>?_
 refine av m.holds.length (fun i vs h'=>h'=h1/\vs= [s.v, .pointer (some ⟨b8,0,none⟩),I i]/\(m.holds.take i).all (fun p=>decide (cB v p=1))=true) ⟨rfl,rfl,rfl⟩ ?_
 rintro i _ _ next hi ⟨rfl,rfl,hall⟩ hnx
 rename_i h1
 refine⟨s,_,_,_,rfl,?_⟩
 repeat' (refine az ?_)
 by_cases hlt:i<m.holds.length
 rotate_left
 ·refine aE (by simp;omega) ⟨_,l1,dq ?_ k⟩
  rw [List.take_of_length_le (by omega)]at hall
  exact hall.symm
 refine aM (by simp;omega) ?_
 obtain⟨p,hpi⟩: ∃p,m.holds[i]?=some p:=⟨_,List.getElem?_eq_getElem hlt⟩
 obtain⟨e0,e1,e2,e3⟩:=FN a (g.hol p (List.mem_of_getElem? hpi))
 obtain⟨b,o,ha,hc⟩:=(hs.mono l1).holds.get hpi
 (refine az ?_)
 refine⟨b,o,ha,by omega,by omega,_,hc,?_⟩
 obtain⟨b1,o1,t,ha1,hlt1,hc1,ht⟩:=(hpv.mono l1).at e0 e1
 refine⟨b1,o1,ha1,e0,hlt1,t,hc1,?_⟩
 obtain⟨b2,o2,ha2,hc2,hl2⟩:=ht.elt e2
 refine⟨b2,o2,ha2,by omega,by omega,_,hc2,?_⟩
 refine ac (fun e=>⟨_,l1,dq ?_ k⟩) (fun e=>?_)
 ·have e':=bV e
  symm
  refine DQ hpi ?_
  rw [decide_eq_false_iff_not]
  unfold cB;omega
 ·have e':=bk e
  rw [aC (by omega)]
  refine hnx hlt _ _ ⟨rfl,rfl,?_⟩
  rw [yZ hpi,hall,Bool.true_and,decide_eq_true_eq]
  unfold cB at e3⊢;omega
theorem I9 {α:Type} {p:α->Bool} {xs:List α} {i:Nat} {x:α} (hx:xs[i]?=some x) (hp:p x=true) (h:(xs.take i).any p=false):xs.findIdx? p=some i:=by
 have hlt:=get_lt hx
 have he:xs[i]=x:=by rw [List.getElem?_eq_getElem hlt]at hx;exact Option.some.inj hx
 rw [List.findIdx?_eq_some_iff_getElem]
 refine⟨hlt,by rw [he];exact hp,fun j hj=>?_⟩
 rw [List.any_eq_false]at h
 have:=h xs[j] (by rw [List.mem_take_iff_getElem];exact⟨j,by omega,rfl⟩)
 simpa using this
theorem NU {α:Type} {p:α->Bool} {xs:List α} (h:xs.any p=false):xs.findIdx? p=none:=by
 rw [List.findIdx?_eq_none_iff]
 rw [List.any_eq_false]at h
 intro x hx;simpa using h x hx
theorem S3 {α:Type} {l:List α} {p:α->Bool} {i:Nat} {x:α} (hx:l[i]?=some x):(l.take (i+1)).any p=((l.take i).any p||p x):=by
 have hlt:=get_lt hx
 rw [List.getElem?_eq_getElem hlt]at hx
 rw [List.take_succ_eq_append_getElem hlt,List.any_append,Option.some.inj hx];simp
theorem Ar {h:Hp} {M:MSl} {m:ah} {s:Sl} {v:List (List Nat)} {R:Value->Hp->Prop} (hs:aO h M m) (g:dj m) (hpv:gD h s v) (a:CA m v)
  (k:R (I (xQ m v)) h):oJ #[aQ M,s.v] h R:=by
 refine ACalls.drop (Lo ?_)
 refine uf_ ?_
 have hhn:=hs.bads.len
 have hhl:=g.bl
 refine aj fun b8 h1 hb8 l1 f8=>?_
 refine av m.bads.length (fun i vs h'=>h'=h1/\vs= [s.v, .pointer (some ⟨b8,0,none⟩),I i]/\(m.bads.take i).any (fun p=>decide (cB v p=1))=false) ⟨rfl,rfl,rfl⟩ ?_
 rintro i _ _ next hi ⟨rfl,rfl,hall⟩ hnx
 rename_i h1
 refine⟨s,_,_,_,rfl,?_⟩
 repeat' (refine az ?_)
 by_cases hlt:i<m.bads.length
 rotate_left
 ·refine aE (by simp;omega) ⟨_,l1,rb ?_ k⟩
  rw [List.take_of_length_le (by omega)]at hall
  unfold xQ qC
  rw [NU hall]
 refine aM (by simp;omega) ?_
 obtain⟨p,hpi⟩: ∃p,m.bads[i]?=some p:=⟨_,List.getElem?_eq_getElem hlt⟩
 obtain⟨e0,e1,e2,e3⟩:=FN a (g.bad p (List.mem_of_getElem? hpi))
 obtain⟨b,o,ha,hc⟩:=(hs.mono l1).bads.get hpi
 (refine az ?_)
 refine⟨b,o,ha,by omega,by omega,_,hc,?_⟩
 obtain⟨b1,o1,t,ha1,hlt1,hc1,ht⟩:=(hpv.mono l1).at e0 e1
 refine⟨b1,o1,ha1,e0,hlt1,t,hc1,?_⟩
 obtain⟨b2,o2,ha2,hc2,hl2⟩:=ht.elt e2
 refine⟨b2,o2,ha2,by omega,by omega,_,hc2,?_⟩
 refine ac (fun e=>⟨_,l1,rb ?_ k⟩) (fun e=>?_)
 ·have e':=bV e
  unfold xQ qC
  rw [I9 hpi (by rw [decide_eq_true_eq];unfold cB;omega) hall]
 ·have e':=bk e
  rw [aC (by omega)]
  refine hnx hlt _ _ ⟨rfl,rfl,?_⟩
  rw [S3 hpi,hall,Bool.false_or,decide_eq_false_iff_not]
  unfold cB;omega
def iq (binds:List BindP) (p:Nat):Int:=match cf binds p with|some k=>k|none=> -1
theorem wx (b:BindP) (r:List BindP) (p:Nat):cf (b::r) p=if b.state=(p:Int)then some b.node.toNat else cf r p:=by
 unfold cf
 rw [List.find?_cons]
 by_cases e:b.state=(p:Int)<;>simp [e]
theorem oU {h:Hp} {s:Sl} {binds:List BindP} {p:Nat} {R:Value->Hp->Prop} (hs:rA h s binds) (hl:binds.length<=1048576) (h0: ∀b∈binds,0<=b.node)
  (k:R (I (iq binds p)) h):ii #[s.v,I p] h R:=by
 apply HK
 refine uf_ ?_
 have hn:=hs.len
 refine av binds.length (fun i vs h'=>h'=h/\vs= [s.v,I p,I i]/\cf (binds.drop i) p=cf binds p) ⟨rfl,rfl,rfl⟩ ?_
 rintro i _ _ next hi ⟨rfl,rfl,hall⟩ hnx
 rename_i h
 refine⟨s,_,_,rfl,?_⟩
 by_cases hlt:i<binds.length
 rotate_left
 ·refine aE (by simp;omega) (rb ?_ k)
  rw [List.drop_of_length_le (by omega)]at hall
  unfold iq
  rw [<-hall];rfl
 refine aM (by simp;omega) ?_
 obtain⟨x,hxi⟩: ∃x,binds[i]?=some x:=⟨_,List.getElem?_eq_getElem hlt⟩
 have hx0:=h0 x (List.mem_of_getElem? hxi)
 obtain⟨b,o,ha,c1,c2⟩:=hs.at hxi
 have hd:binds.drop i=x::binds.drop (i+1):=by
  rw [List.drop_eq_getElem_cons hlt]
  rw [List.getElem?_eq_getElem hlt]at hxi
  rw [Option.some.inj hxi]
 rw [hd,wx]at hall
 refine⟨b,o,ha,by omega,by omega,_,c1,?_⟩
 refine ac (fun e=>?_) (fun e=>?_)
 ·refine⟨b,o,ha,by omega,by omega,_,c2,rb ?_ k⟩
  rw [if_pos (bV e)]at hall
  unfold iq
  rw [<-hall]
  show x.node=((x.node.toNat:Nat):Int)
  omega
 ·rw [aC (by omega)]
  rw [if_neg (bk e)]at hall
  exact hnx hlt _ _ ⟨rfl,rfl,hall⟩
theorem Lc (h:Hp) (s t:Sl):(h.offS s).offS t=(h.offS t).offS s:=by
 unfold Hp.offS
 cases s.a<;>cases t.a<;>first|rfl|exact Wu _ _ _
theorem Buf.beside {h:Hp} {s t:Sl} {sz sz':Nat} {cs ds:List Value} (e:Buf h s sz cs) (f:Buf (h.offS s) t sz' ds):Buf (h.offS t) s sz cs:=by
 refine⟨e.1,e.2.1,e.2.2.imp id ?_⟩
 rintro ⟨b,hb,hbb⟩
 refine⟨b,hb,?_⟩
 rcases f.2.2 with ⟨h0,_⟩|⟨c,hc,hcc⟩
 ·unfold Hp.offS;rw [h0];exact hbb
 ·have hne:c≠b:=by
   rintro rfl
   simp only [Hp.offS,hb,yq]at hcc;cases hcc
  simp only [Hp.offS,hc,Hp.off,Hp.set]
  rw [if_neg (fun e=>hne e.symm)];exact hbb
theorem cO {m:ah} (g:dj m) (kind:Int): ∀p∈aH m.nodes kind,p<m.nodes.length:=fun p hp=>kV hp
theorem fz (l:List NodeP) (kind:Int):(aH l kind).length<=l.length:=by
 unfold aH
 refine Nat.le_trans (List.length_filter_le _ _) ?_
 rw [List.length_range];omega
theorem JE {l:List NodeP} {ps:List Nat} {v:List Nat} (h:v∈cX l ps):v.length<=4:=by
 unfold cX at h
 obtain⟨p,_,rfl⟩:=List.mem_map.1 h
 rw [List.length_replicate];exact dm _ _
theorem Ck {h:Hp} {M:MSl} {m:ah} {R:Value->Hp->Prop} (hs:aO h M m) (hm:bW m) (g:dj m)
  (k: ∀t h',h.le h'->t.n=m.nodes.length->gD h' t (pa m)->R (Sl.v t) h'):jc #[aQ M] h R:=by
 apply yj
 refine uf_ ?_
 have hp36:=fz m.nodes 36
 have hp35:=fz m.nodes 35
 have hns:=hm.nodes
 refine aj fun b7 h1 hb7 l1 f7=>?_
 have x7:=eY f7
 repeat' (refine az ?_)
 refine eu (hs.mono l1) hm fun t1 h2 l2 p1=>⟨t1,rfl,?_⟩
 repeat' (((with_reducible apply lb);(assumption);(assumption)))
 have l12:=Hp.le_trans l1 l2
 refine sq (hs.mono l12) hm p1 (cO g 36) (by omega) fun o1 ts1 h3 c1 n1=>⟨o1,rfl,?_⟩
 have l23:=Hp.le_trans c1.le (bz _ _)
 have l13:=Hp.le_trans l2 l23
 repeat' (((with_reducible apply lb);(assumption);(assumption)))
 refine eu (hs.mono (Hp.le_trans l1 l13)) hm fun t2 h4 l4 p2=>⟨t2,rfl,?_⟩
 have l14:=Hp.le_trans l13 l4
 repeat' (((with_reducible apply lb);(assumption);(assumption)))
 refine sq (hs.mono (Hp.le_trans l1 l14)) hm p2 (cO g 35) (by omega) fun o2 ts2 h5 c2 n2=>⟨o2,rfl,?_⟩
 have l45:=Hp.le_trans c2.le (bz _ _)
 have l15:=Hp.le_trans l14 l45
 (((with_reducible apply lb);(assumption);(assumption)))
 have i1:IntSS h5 o1 ((cX m.nodes (stP m)).map VL):=(c1.ints (fun v hv=>by have:=JE hv;omega) (by omega)).mono (Hp.le_trans l4 l45)
 have i2:IntSS h5 o2 ((cX m.nodes (inP m)).map VL):=c2.ints (fun v hv=>by have:=JE hv;omega) (by omega)
 exact zf (hs.mono (Hp.le_trans l1 l15)) hm g.ok g.nl i1 c1.buf.2.1 (yV g.ok (kx _ _)) i2 c2.buf.2.1 (yV g.ok (kx _ _)) fun t h6 l6 hn hpv=>⟨t,rfl,k t h6 (Hp.le_trans l1 (Hp.le_trans l15 l6)) hn hpv⟩
theorem Jg (l:List NodeP) (a b:List Nat):cX l (a++b)=cX l a++cX l b:=by simp [cX]
structure ZS (l:List NodeP) (g:Hp) (ps:List Nat) (ts:List Sl):Prop where
 len:ts.length=ps.length
 val: ∀(j:Nat) (t:Sl),ts[j]?=some t->IntS g t (VL ((cX l ps).getD j []))
theorem ZS.mono {l:List NodeP} {g g':Hp} {ps:List Nat} {ts:List Sl} (le:g.le g') (e:ZS l g ps ts):ZS l g' ps ts:=⟨e.len,fun j t h=>(e.val j t h).mono le⟩
theorem ZS.snoc {l:List NodeP} {g:Hp} {ps:List Nat} {ts:List Sl} {p:Nat} {t:Sl} (e:ZS l g ps ts) (h:IntS g t (VL (List.replicate (aK l p) 0))):ZS l g (ps++ [p]) (ts++ [t]):=by
 refine⟨by simp [e.len],fun j u hu=>?_⟩
 rw [Jg]
 by_cases hj:j<ts.length
 ·rw [List.getElem?_append_left hj]at hu
  rw [ib (by rw [m8,<-e.len];exact hj)]
  exact e.val j u hu
 ·have hju:=get_lt hu
  simp at hju
  have hje:j=ts.length:=by omega
  subst hje
  rw [List.getElem?_append_right (Nat.le_refl _),Nat.sub_self]at hu
  simp at hu;subst hu
  rw [List.getD_eq_getElem?_getD,List.getElem?_append_right (by rw [m8,e.len];exact Nat.le_refl _),m8,e.len,Nat.sub_self]
  exact h
theorem ZS.ints {l:List NodeP} {g h:Hp} {ps:List Nat} {ts:List Sl} {s:Sl} (e:ZS l g ps ts) (le:g.le h) (hb:Buf h s 1 (ts.map Sl.v)) (hn:s.n<=1048576):IntSS h s ((cX l ps).map VL):=by
 refine⟨ts,by rw [List.length_map,m8];exact e.len,hb.slc_of (by omega),fun i h1 h2=>?_⟩
 have:=(e.val i _ (List.getElem?_eq_getElem h1)).mono le
 have hi:i<(cX l ps).length:=by rw [List.length_map]at h2;exact h2
 rw [List.getElem_map]
 rwa [List.getD_eq_getElem?_getD,List.getElem?_eq_getElem hi]at this
theorem Ew {h:Hp} {M:MSl} {m:ah} {R:Value->Hp->Prop} (hs:aO h M m) (hm:bW m) (g:dj m)
  (k: ∀t h',h.le h'->t.n=m.nodes.length->gD h' t (pa m)->XG h t->R (Sl.v t) h'):lj #[aQ M] h R:=by
 apply H4
 refine uf_ ?_
 have hn:=hs.nodes.len
 have hns:=hm.nodes
 refine aj fun b7 h1 hb7 l1 f7=>?_
 refine av m.nodes.length (fun i vs h'=> ∃(ts us:List Sl) (sS sI:Sl),vs= [.pointer (some ⟨b7,0,none⟩),sS.v,sI.v,I i]/\h.le ((h'.offS sS).offS sI)/\((h'.offS sS).offS sI) b7=some (.inl ⟨aw M,5,false⟩)/\
  Buf h' sS 1 (ts.map Sl.v)/\Buf (h'.offS sS) sI 1 (us.map Sl.v)/\ZS m.nodes ((h'.offS sS).offS sI) (aH (m.nodes.take i) 36) ts/\ZS m.nodes ((h'.offS sS).offS sI) (aH (m.nodes.take i) 35) us/\sS.n<=i/\sI.n<=i)
  ⟨[], [],⟨none,0,0⟩,⟨none,0,0⟩,rfl,l1,f7,eZ _ _,eZ _ _,⟨rfl,fun j t ht=>by simp at ht⟩,⟨rfl,fun j t ht=>by simp at ht⟩,Nat.le_refl _,Nat.le_refl _⟩ ?_
 clear f7 l1 hb7 h1
 rintro i _ h1 next hi ⟨ts,us,sS,sI,rfl,l1,f7,bS,bI,zS,zI,nS,nI⟩ hnx
 have lo:=Hp.le_trans (bz (h1.offS sS) sI) (bz h1 sS)
 have l1':=Hp.le_trans l1 lo
 have f7':=lo _ _ f7
 refine⟨_,_,sS,sI,_,rfl,?_⟩
 repeat' (refine az ?_)
 by_cases hlt:i<m.nodes.length
 rotate_left
 ·have hie:i=m.nodes.length:=by omega
  subst hie
  refine aE (by simp;omega) ?_
  repeat' (refine az ?_)
  rw [List.take_of_length_le (Nat.le_refl _)]at zS zI
  have i1:=zS.ints lo bS (by omega)
  have i2:=zI.ints lo (bI.mono (bz _ _)) (by omega)
  exact pV (hs.mono l1') hm g.ok g.nl i1 (yV g.ok (kx _ _)) i2 (yV g.ok (kx _ _)) fun t h6 l6 hn hpv pn=>⟨t,rfl,k t h6 (Hp.le_trans l1' l6) hn hpv fun b o e=>aF l1' (pn b o e)⟩
 refine aM (by simp;omega) ?_
 obtain⟨n,hni⟩: ∃n,m.nodes[i]?=some n:=⟨_,List.getElem?_eq_getElem hlt⟩
 (refine az ?_)
 obtain⟨bn,on,han,e0,e1,e2,e3,e4,e5,e6,e7,e8⟩:=(hs.nodes.mono l1').at hni
 have hsa:aA m.nodes ((i:Nat):Int)=n.sort:=by unfold aA;rw [Int.toNat_natCast,hni]
 refine⟨bn,on,han,by omega,by omega,_,e6,_,e7,?_⟩
 refine fD ⟨_,rfl,?_⟩
 have hce:cT ⟨n.sort.idx,n.sort.wid⟩=aK m.nodes i:=by unfold aK;rw [hsa]
 rw [hce]
 have hc4:=dm m.nodes i
 refine⟨by omega,by omega,by omega,by omega,?_⟩
 refine aj fun b33 h2 hb33 l2 f33=>?_
 rw [Int.toNat_natCast,Nat.mul_one,cn]at f33
 refine aj fun b35 h3 hb35 l3 f35'=>?_
 have n33:=fresh_ne hb35 f33
 have b35n:=aF l2 hb35
 replace f33:=l3 _ _ f33
 (with_reducible apply bZ);(exact f35');(exact Hp.le_trans l2 l3);(exact b35n);(exact Nat.le_refl 1)
 intro h4 f35 kp l4
 replace f33:=ck kp n33 f33
 have f35v:h4 b35=some (.inl ⟨[(⟨some ⟨b33,0,none⟩,aK m.nodes i,aK m.nodes i⟩:Sl).v],1,false⟩):=f35
 have hz4:IntS h4 ⟨some ⟨b33,0,none⟩,aK m.nodes i,aK m.nodes i⟩ (VL (List.replicate (aK m.nodes i) 0)):=by
  refine⟨by dsimp only;omega,by simp [aY], .inr ⟨b33,0,rfl,?_⟩⟩
  have hc:(VL (List.replicate (aK m.nodes i) 0)).map I=List.replicate (aK m.nodes i) (I 0):=by simp [VL]
  rw [hc];exact ay f33
 clear f35 f35' kp l2 l3 hb33 hb35 h2 h3
 have bS4:=bS.mono l4
 have bI4:=bI.mono (bP sS l4)
 have l4o:=bP sI (bP sS l4)
 have hz4o:IntS ((h4.offS sS).offS sI) ⟨some ⟨b33,0,none⟩,aK m.nodes i,aK m.nodes i⟩ (VL (List.replicate (aK m.nodes i) 0)):=(hz4.offL bS4).offL bI4
 have f35o:((h4.offS sS).offS sI) b35=some (.inl ⟨[(⟨some ⟨b33,0,none⟩,aK m.nodes i,aK m.nodes i⟩:Sl).v],1,false⟩):=by
  have d: ∀{s:Sl} {gg:Hp} {cs:List Value},gg.le h1->Buf gg s 1 cs-> ∀a,s.a=some a->a.block≠b35:=by
   intro s gg cs hg hb a ha e
   rcases hb.2.2 with ⟨h0,_⟩|⟨c,hc,hcb⟩
   ·rw [h0]at ha;cases ha
   ·rw [hc]at ha;cases ha
    subst e
    have:=hg _ _ hcb
    rw [b35n]at this;cases this
  rw [BQ (d (bz _ _) bI),BQ (d (Hp.le_refl _) bS)];exact f35v
 have hp36:=jo (kind:=36) hni
 have hp35:=jo (kind:=35) hni
 have f7'':=l4 _ _ f7'
 repeat' (refine az ?_)
 refine⟨bn,on,han,by omega,by omega,_,l4.cell e0,?_⟩
 refine ap (fun J=> ∀(sS':Sl) (ts':List Sl) (h5:Hp),((h4.offS sS).offS sI).le ((h5.offS sS').offS sI)->Buf h5 sS' 1 (ts'.map Sl.v)->Buf (h5.offS sS') sI 1 (us.map Sl.v)->ZS m.nodes ((h5.offS sS').offS sI) (aH (m.nodes.take (i+1)) 36) ts'->sS'.n<=i+1->J sS' h5) ?_ (fun J hJ=>?_)
 ·intro sS' ts' h5 l5 bS5 bI5 zS5 nS5
  have lo5:=Hp.le_trans (bz (h5.offS sS') sI) (bz h5 sS')
  have l15:=Hp.le_trans l4o l5
  have g7:=lo5 _ _ (l5 _ _ (l4o _ _ f7))
  have g35:=lo5 _ _ (l5 _ _ f35o)
  have e0':=(Hp.le_trans (Hp.le_trans l1 l15) lo5)
  obtain⟨bn',on',han',q0,_⟩:=(hs.nodes.mono e0').at hni
  (refine az ?_)
  refine⟨bn',on',han',by omega,by omega,_,q0,?_⟩
  refine ac (fun e=>?_) (fun e=>?_)
  ·rw [if_pos (bV e)]at hp35
   (refine az ?_)
   refine aj fun b63 h6 hb63 l6 f63=>?_
   have l6o:=bP sS' l6
   have l6o2:=bP sI (bP sS' l6)
   have bS6:=bS5.mono l6
   have bI6:=bI5.mono l6o
   have bS6':=bS6.beside bI6
   refine dw (bI5.mono (Hp.le_trans l6o (bz _ _))) (by omega) (by omega) (by omega) ⟨b63,0,rfl,ay f63⟩ (by simp) rfl ?_
   intro s' h7 hs'n hbuf' l7 _
   rw [aC (by omega)]
   have bS7:Buf (h7.offS s') sS' 1 (ts'.map Sl.v):=bS6'.mono l7
   have bI7:Buf (h7.offS sS') s' 1 ((us++ [(⟨some ⟨b33,0,none⟩,aK m.nodes i,aK m.nodes i⟩:Sl)]).map Sl.v):=by
    rw [List.map_append];exact hbuf'.beside bS7
   have l57:((h5.offS sS').offS sI).le ((h7.offS sS').offS s'):=by
    have:=Hp.le_trans l6o2 (show ((h6.offS sS').offS sI).le ((h7.offS sS').offS s') by
     rw [Lc h6,Lc h7];exact bP sS' l7)
    exact this
   have l17:=Hp.le_trans l15 l57
   refine hnx hlt _ _ ⟨ts',_,sS',s',rfl,Hp.le_trans l1 l17,l17 _ _ f7,bS7.mono (bz _ _),bI7,zS5.mono l57,?_,nS5,by omega⟩
   rw [hp35]
   exact(zI.mono l17).snoc (hz4o.mono (Hp.le_trans l5 l57))
  ·rw [if_neg (bk e),List.append_nil]at hp35
   rw [aC (by omega)]
   refine hnx hlt _ _ ⟨ts',us,sS',sI,rfl,Hp.le_trans l1 l15,l15 _ _ f7,bS5,bI5,zS5,?_,nS5,by omega⟩
   rw [hp35];exact zI.mono l15
 ·refine ac (fun e=>?_) (fun e=>?_)
  ·rw [if_pos (bV e)]at hp36
   have f35c:=(Hp.le_trans (bz (h4.offS sS) sI) (bz h4 sS)) _ _ f35o
   (refine az ?_)
   refine aj fun b48 h6 hb48 l6 f48=>?_
   have l6o:=bP sS l6
   have l6o2:=bP sI l6o
   refine dw (bS4.mono l6) (by omega) (by omega) (by omega) ⟨b48,0,rfl,ay f48⟩ (by simp) rfl ?_
   intro s' h7 hs'n hbuf' l7 _
   have l47:=Hp.le_trans l6o2 (bP sI l7)
   have bI7:Buf (h7.offS s') sI 1 (us.map Sl.v):=bI4.mono (Hp.le_trans l6o l7)
   refine hJ s' (ts++ [(⟨some ⟨b33,0,none⟩,aK m.nodes i,aK m.nodes i⟩:Sl)]) h7 l47 (by rw [List.map_append];exact hbuf') bI7 ?_ (by omega)
   rw [hp36]
   exact(zS.mono (Hp.le_trans l4o l47)).snoc (hz4o.mono l47)
  ·rw [if_neg (bk e),List.append_nil]at hp36
   refine hJ sS ts h4 (Hp.le_refl _) bS4 bI4 ?_ (by omega)
   rw [hp36];exact zS.mono l4o
theorem Ml {h:Hp} {M:MSl} {m:ah} {R:Value->Hp->Prop} (hs:aO h M m) (hm:bW m) (g:dj m)
  (k: ∀t h',h.le h'->t.n=m.nodes.length->gD h' t (pa m)->R (Sl.v t) h'):lj #[aQ M] h R:=
 Ew hs hm g fun t h' l hn hpv _=>k t h' l hn hpv
theorem Buf.fresh_ne {h:Hp} {s:Sl} {sz b:Nat} {cs:List Value} (e:Buf h s sz cs) (hb:h b=none): ∀a,s.a=some a->a.block≠b:=by
 intro a ha hab
 rcases e.2.2 with ⟨h0,_⟩|⟨c,hc,hcb⟩
 ·rw [h0]at ha;cases ha
 ·rw [hc]at ha;cases ha
  subst hab
  rw [hb]at hcb;cases hcb
theorem Buf.offS_new {h h':Hp} {s:Sl} {sz b:Nat} {cs:List Value} {x:Blk} (e:Buf h s sz cs) (hb:h b=none) (f:h' b=some x):(h'.offS s) b=some x:=by
 rw [BQ (e.fresh_ne hb)];exact f
theorem Buf.sub_le {h h':Hp} {s:Sl} {sz:Nat} {cs:List Value} (e:Buf (h'.sub h) s sz cs) (l:h.le h'):h.le (h'.offS s):=by
 unfold Hp.offS
 rcases e.2.2 with ⟨h0,_⟩|⟨b,ha,hb⟩
 ·rw [h0];exact l
 ·rw [ha]
  refine vU ?_ l
  cases hx:h b with
  |none=>rfl
  |some x=>rw [mC hx]at hb;cases hb
theorem Buf.sub_buf {h h':Hp} {s:Sl} {sz:Nat} {cs:List Value} (e:Buf (h'.sub h) s sz cs):Buf h' s sz cs:=e.mono (Go.Lead.sub_le _ _)
theorem Buf.wr {h:Hp} {out x:Sl} {ts:List Sl} {q:Nat} {P:Hp->Prop} (e:Buf h out 1 (ts.map Sl.v)) (hq:q<ts.length)
  (k: ∀h',Buf h' out 1 ((ts.set q x).map Sl.v)->h'.offS out=h.offS out->P h'):
  ∃b o:Nat,out.a=some (Addr.mk b o none)/\(0:Int)<=(q:Int)/\(q:Int)<((out.n:Nat):Int)/\
   ∃(cs:List Value) (z:Nat),h b=some (.inl ⟨cs,z,false⟩)/\(o+Int.toNat (q:Int)*1)+1<=List.length cs/\cA (h.row b (cz cs (o+Int.toNat (q:Int)*1) [x.v]) z) P:=by
 have hl:=e.1
 rw [List.length_map]at hl
 rcases e.2.2 with ⟨_,h0,_⟩|⟨b,ha,hb⟩
 ·omega
 ·refine⟨b,0,ha,by omega,by omega,_,_,hb,by rw [List.length_map,Int.toNat_natCast];omega,?_⟩
  rw [Ra]
  refine k _ ⟨by rw [List.length_map,List.length_set];omega,e.2.1, .inr ⟨b,ha,?_⟩⟩ ?_
  ·rw [bM,bG,Int.toNat_natCast,Nat.zero_add,Nat.mul_one,List.map_set]
  ·unfold Hp.offS;rw [ha];exact vw _ _ _ _
theorem Nh (v:List Nat) (i x:Nat):(VL (v++List.replicate i x)).map I++ [I (x:Int)]=(VL (v++List.replicate (i+1) x)).map I:=by
 rw [List.replicate_succ',<-List.append_assoc,uJ (v++List.replicate i x),List.map_append];rfl
theorem yB {h:Hp} {s:Sl} {v:List Nat} {i w:Int} {R:Value->Hp->Prop} (hs:IntS h s (VL v)) (h0:0<v.length) (hl:v.length<=4)
  (k: ∀t h',h.le h'->IntS h' t (VL (nw (cT ⟨i,w⟩) v))->R (.agg #[Sl.v t]) h'):mD #[.agg #[I i,I w], .agg #[s.v]] h R:=by
 apply IP
 refine uf_ ?_
 refine aj fun b5 h1 hb5 l1 f5=>?_
 refine aj fun b7 h2 hb7 l2 f7=>?_
 replace f5:=l2 _ _ f5
 have l02:=Hp.le_trans l1 l2
 have b7n:=aF l1 hb7
 refine aj fun b9 h3 hb9 l3 f9=>?_
 have n59:=fresh_ne hb9 f5
 have n79:=fresh_ne hb9 f7
 have b9n:=aF l02 hb9
 replace f5:=l3 _ _ f5
 replace f7:=l3 _ _ f7
 have l03:=Hp.le_trans l02 l3
 (refine az ?_)
 refine oh (hs.mono l03) (by rw [aY];omega) fun c h4 l4 hb4=>⟨c,rfl,?_⟩
 have l4o:=hb4.sub_le l4
 have hb4':=hb4.sub_buf
 refine aj fun b16 h5 hb16 l5 f16'=>?_
 have b16n:=aF l4 hb16
 have l5o:=Hp.le_trans l4o (bP c l5)
 have f16o:=hb4'.offS_new hb16 f16'
 (with_reducible apply ww);(exact f16o);(exact l5o);(exact b16n);(exact Nat.le_refl 1)
 intro h6 f16 kp l6 hbk
 have hbuf:=hbk _ _ (hb4'.mono l5)
 have hcn:=hbuf.1
 rw [List.length_map,aY]at hcn
 have hc4:=vh ⟨i,w⟩
 refine av (cT ⟨i,w⟩-v.length) (fun q vs h'=> ∃sl:Sl,vs= [.pointer (some ⟨b5,0,none⟩), .pointer (some ⟨b7,0,none⟩), .pointer (some ⟨b9,0,none⟩), .pointer (some ⟨b16,0,none⟩)]/\h3.le (h'.offS sl)/\
  (h'.offS sl) b16=some (.inl ⟨[sl.v],1,false⟩)/\sl.n=v.length+q/\Buf h' sl 1 ((VL (v++List.replicate q (v.getD 0 0))).map I)) ⟨c,rfl,l6,f16,by omega,by simpa using hbuf⟩ ?_
 clear hbuf hbk kp l6 f16 f16o l5o f16' l5 hb16 hb4' l4o hb4 l4 hcn h4 h5 h6
 rintro q _ h4 next hq ⟨sl,rfl,l4,f16,hsl,hbuf⟩ hnx
 have lo:=bz h4 sl
 have l4':=Hp.le_trans l4 lo
 have g5:=l4' _ _ f5
 have g7:=l4' _ _ f7
 have g16:=lo _ _ f16
 refine⟨_,_,_,_,_,_,_,_,rfl,?_⟩
 repeat' (refine az ?_)
 refine lZ ⟨_,rfl,rfl,?_⟩
 by_cases hlt:q<cT ⟨i,w⟩-v.length
 ·refine aM (by simp;omega) ?_
  repeat' (refine az ?_)
  obtain⟨b,o,ha,hc,hln⟩:=((hs.mono l03).mono l4').elt (i:=0) h0
  refine⟨b,o,ha,by omega,by omega,_,hc,?_⟩
  have x16:=eY g16
  refine aj fun b48 h5 hb48 l5 f48=>?_
  (((with_reducible apply lb);(assumption);(assumption)))
  have l5o:=bP sl l5
  refine dw (hbuf.mono l5) (by omega) (by omega) (by omega) ⟨b48,0,rfl,ay f48⟩ (by simp) rfl ?_
  intro s' h6 hs'n hbuf' l6 _
  have l46:=Hp.le_trans l5o l6
  (with_reducible apply ww);(exact l46 _ _ f16);(exact Hp.le_trans l4 l46);(exact b16n);(exact Nat.le_refl 1)
  intro h7 e16 kp l7 hbk
  refine hnx hlt _ _ ⟨s',rfl,l7,e16,by omega,hbk _ _ ?_⟩
  rw [<-Nh];exact hbuf'
 ·have hqe:q=cT ⟨i,w⟩-v.length:=by omega
  subst hqe
  refine aE (by simp;omega) ?_
  repeat' (refine az ?_)
  have f9o:(h4.offS sl) b9=some (.inl ⟨[.slice none 0 0],1,false⟩):=l4 _ _ f9
  (with_reducible apply ww);(exact f9o);(exact Hp.le_trans l03 l4);(exact b9n);(exact Nat.le_refl 1)
  intro h7 e9 kp l7 hbk
  have e9':=bz _ _ _ _ e9
  refine⟨sl,by rw [aq e9'];rfl,k sl h7 (Hp.le_trans l7 (bz _ _)) ((hbk _ _ hbuf).slc_of (by omega))⟩
theorem DW {h:Hp} {s:Sl} {v:List Nat} {c:Nat} {R:Value->Hp->Prop} (hs:IntS h s (VL v)) (h0:0<v.length) (hl:v.length<=4) (hc4:c<=4)
  (k: ∀t h',h.le h'->IntS h' t (VL (nw c v))->R (.agg #[Sl.v t]) h'):qe #[.agg #[s.v],I c] h R:=by
 apply Jf
 refine uf_ ?_
 refine aj fun b7 h2 hb7 l2 f7=>?_
 refine aj fun b9 h3 hb9 l3 f9=>?_
 have n79:=fresh_ne hb9 f7
 have b9n:=aF l2 hb9
 replace f7:=l3 _ _ f7
 have l03:=Hp.le_trans l2 l3
 (refine az ?_)
 refine qP (hs.mono l03) (by rw [aY];omega) fun c0 h4 l4 hb4=>⟨c0,rfl,?_⟩
 have l4o:=hb4.sub_le l4
 have hb4':=hb4.sub_buf
 refine aj fun b16 h5 hb16 l5 f16'=>?_
 have b16n:=aF l4 hb16
 have l5o:=Hp.le_trans l4o (bP c0 l5)
 have f16o:=hb4'.offS_new hb16 f16'
 (with_reducible apply ww);(exact f16o);(exact l5o);(exact b16n);(exact Nat.le_refl 1)
 intro h6 f16 kp l6 hbk
 have hbuf:=hbk _ _ (hb4'.mono l5)
 have hcn:=hbuf.1
 rw [List.length_map,aY]at hcn
 refine av (c-v.length) (fun q vs h'=> ∃sl:Sl,vs= [I c, .pointer (some ⟨b7,0,none⟩), .pointer (some ⟨b9,0,none⟩), .pointer (some ⟨b16,0,none⟩)]/\h3.le (h'.offS sl)/\
  (h'.offS sl) b16=some (.inl ⟨[sl.v],1,false⟩)/\sl.n=v.length+q/\Buf h' sl 1 ((VL (v++List.replicate q (v.getD 0 0))).map I)) ⟨c0,rfl,l6,f16,by omega,by simpa using hbuf⟩ ?_
 clear hbuf hbk kp l6 f16 f16o l5o f16' l5 hb16 hb4' l4o hb4 l4 hcn h4 h5 h6
 rintro q _ h4 next hq ⟨sl,rfl,l4,f16,hsl,hbuf⟩ hnx
 have lo:=bz h4 sl
 have l4':=Hp.le_trans l4 lo
 have g7:=l4' _ _ f7
 have g16:=lo _ _ f16
 refine⟨_,_,_,_,_,_,_,rfl,?_⟩
 (refine az ?_)
 by_cases hlt:q<c-v.length
 ·refine aM (by simp;omega) ?_
  repeat' (refine az ?_)
  obtain⟨b,o,ha,hc,hln⟩:=((hs.mono l03).mono l4').elt (i:=0) h0
  refine⟨b,o,ha,by omega,by omega,_,hc,?_⟩
  have x16:=eY g16
  refine aj fun b48 h5 hb48 l5 f48=>?_
  (((with_reducible apply lb);(assumption);(assumption)))
  have l5o:=bP sl l5
  refine dw (hbuf.mono l5) (by omega) (by omega) (by omega) ⟨b48,0,rfl,ay f48⟩ (by simp) rfl ?_
  intro s' h6 hs'n hbuf' l6 _
  have l46:=Hp.le_trans l5o l6
  (with_reducible apply ww);(exact l46 _ _ f16);(exact Hp.le_trans l4 l46);(exact b16n);(exact Nat.le_refl 1)
  intro h7 e16 kp l7 hbk
  refine hnx hlt _ _ ⟨s',rfl,l7,e16,by omega,hbk _ _ ?_⟩
  rw [<-Nh];exact hbuf'
 ·have hqe:q=c-v.length:=by omega
  subst hqe
  refine aE (by simp;omega) ?_
  repeat' (refine az ?_)
  have f9o:(h4.offS sl) b9=some (.inl ⟨[.slice none 0 0],1,false⟩):=l4 _ _ f9
  (with_reducible apply ww);(exact f9o);(exact Hp.le_trans l03 l4);(exact b9n);(exact Nat.le_refl 1)
  intro h7 e9 kp l7 hbk
  have e9':=bz _ _ _ _ e9
  refine⟨sl,by rw [aq e9'];rfl,k sl h7 (Hp.le_trans l7 (bz _ _)) ((hbk _ _ hbuf).slc_of (by omega))⟩
def AR (m:ah) (v:List (List Nat)) (j p:Nat):List Nat:=((cf (m.nexts.take j) p).map fun k=>v.getD k []).getD (List.replicate (aK m.nodes p) 0)
theorem Nf (m:ah) (v:List (List Nat)) (p:Nat):AR m v m.nexts.length p=(gH m v p).getD (List.replicate (aK m.nodes p) 0):=by
 unfold AR gH;rw [List.take_length]
theorem Sv {m:ah} (g:dj m) (v:List (List Nat)) {j:Nat} {b:BindP} (hb:m.nexts[j]?=some b) (p:Nat):AR m v (j+1) p=if b.state=(p:Int)then v.getD b.node.toNat []else AR m v j p:=by
 unfold AR
 rw [Gx (qO g.twice).2.2 hb]
 split<;>rfl
theorem Yv {m:ah} (g:dj m) {v:List (List Nat)} (a:CA m v) {j p:Nat}:(AR m v j p).length<=4:=by
 unfold AR
 cases hb:cf (m.nexts.take j) p with
 |none=>simp only [Option.map_none,Option.getD_none,List.length_replicate];exact dm _ _
 |some k=>
  simp only [Option.map_some,Option.getD_some]
  obtain⟨b,hm,_,rfl⟩:=fS hb
  have hp:=fC.1 (gz (g.nex b (List.mem_of_mem_take hm))).2.1
  have:=uK g.ok (show b.node.toNat<m.nodes.length by omega) (a.fit b.node.toNat (by omega) (by omega))
  rw [this.1];exact dm _ _
theorem GW (m:ah) (v:List (List Nat)) {i p:Nat} (h:(stP m)[i]?=some p):(eK m v).getD i []=AR m v m.nexts.length p:=by
 rw [Nf]
 unfold eK kJ
 rw [List.getD_eq_getElem?_getD,List.getElem?_map,h];rfl
theorem jb {m:ah} (g:dj m) (kind:Int):(aH m.nodes kind).length<=1048576:=by have:=fz m.nodes kind;have:=g.nl;omega
theorem DY {h:Hp} {M:MSl} {m:ah} {s:Sl} {v:List (List Nat)} {R:Value->Hp->Prop} (hs:aO h M m) (hm:bW m) (g:dj m) (hpv:gD h s v) (a:CA m v)
  (k: ∀out h',h.le h'->IntSS h' out ((eK m v).map VL)->R (Sl.v out) h'):jv #[aQ M,s.v] h R:=by
 apply zF
 refine uf_ ?_
 have hp36:(stP m).length<=m.nodes.length:=fz m.nodes 36
 have hnl:=g.nl
 have hxl:=g.xl
 have hxn:=hs.nexts.len
 refine aj fun b8 h1 hb8 l1 f8=>?_
 repeat' (refine az ?_)
 refine eu (hs.mono l1) hm fun pt h2 l2 hp=>⟨pt,rfl,?_⟩
 replace f8:=l2 _ _ f8
 have l02:=Hp.le_trans l1 l2
 repeat' (refine az ?_)
 refine sq (hs.mono l02) hm hp (cO g 36) (jb g 36) fun out ts h3 c1 hon=>⟨out,rfl,?_⟩
 have hpn:pt.n=(stP m).length:=by have:=hp.len;rw [aY]at this;exact this
 have f83:=bz _ _ _ _ (c1.le _ _ f8)
 (refine az ?_)
 have hs2:=hs.mono l02
 have hpv2:=hpv.mono l02
 refine av m.nexts.length (fun j vs h'=> ∃ts:List Sl,vs= [s.v,pt.v,out.v,M.nex.v,I M.nex.n,I j]/\h2.le (h'.offS out)/\Buf h' out 1 (ts.map Sl.v)/\ts.length=(stP m).length/\
  ∀(i p:Nat) (t:Sl),(stP m)[i]?=some p->ts[i]?=some t->IntS (h'.offS out) t (VL (AR m v j p))) ⟨ts,rfl,c1.le,c1.buf,by rw [c1.len,m8],fun i p t hp ht=>?_⟩ ?_
 ·obtain⟨b,e1,e2,e3⟩:=c1.row i t ht
  have hz:(cX m.nodes (stP m)).getD i []=AR m v 0 p:=by
   unfold cX AR
   rw [List.getD_eq_getElem?_getD,List.getElem?_map,hp];rfl
  rw [hz]at e1 e3
  rw [e1]
  have:=Yv g a (j:=0) (p:=p)
  exact⟨by dsimp only;omega,by simp [aY], .inr ⟨b,0,rfl,ay e3⟩⟩
 clear c1 f83 ts h3
 rintro j _ h3 next hj ⟨ts,rfl,l3,hbuf,htl,hts⟩ hnx
 have lo:=bz h3 out
 have l23:=Hp.le_trans l3 lo
 refine⟨s,pt,out,M.nex,_,_,rfl,?_⟩
 by_cases hlt:j<m.nexts.length
 rotate_left
 ·have hje:j=m.nexts.length:=by omega
  subst hje
  refine aE (by simp;omega) (k out h3 (Hp.le_trans l02 l23) ⟨ts,by unfold eK kJ;rw [List.length_map,List.length_map];exact htl,hbuf.slc_of (by rw [hon];have:=jb g 36;omega),fun i h1 h2=>?_⟩)
  have hi:i<(stP m).length:=by omega
  have hpi:(stP m)[i]?=some (stP m)[i]:=List.getElem?_eq_getElem hi
  have:=(hts i _ _ hpi (List.getElem?_eq_getElem h1)).mono lo
  rw [<-GW m v hpi]at this
  rw [List.getElem_map]
  rwa [List.getD_eq_getElem?_getD,List.getElem?_eq_getElem (by unfold eK kJ;simp;exact hi)]at this
 refine aM (by simp;omega) ?_
 obtain⟨bd,hbd⟩: ∃bd,m.nexts[j]?=some bd:=⟨_,List.getElem?_eq_getElem hlt⟩
 obtain⟨q1,q2,q3,q4⟩:=gz (g.nex bd (List.mem_of_getElem? hbd))
 have q2':=fC.1 q2
 obtain⟨bx,ox,hax,cx1,cx2⟩:=(hs2.mono l23).nexts.at hbd
 refine⟨bx,ox,hax,by omega,by omega,_,cx1,_,cx2,?_⟩
 refine aj fun b48 h4 hb48 l4 f48'=>?_
 (with_reducible apply bZ);(exact f48');(exact l4);(exact hb48);(exact Nat.le_refl 2)
 intro h5 f48 kp l5
 have l5o:=bP out l5
 have f48o:=hbuf.offS_new hb48 f48
 clear f48' kp l4
 refine av (stP m).length (fun q vs h'=> ∃ts:List Sl,vs= [s.v,pt.v,out.v, .pointer (some ⟨b48,0,none⟩),M.nex.v,I M.nex.n,I j,pt.v,I pt.n,I q]/\h2.le (h'.offS out)/\(h'.offS out) b48=some (.inl ⟨[I bd.state,I bd.node],2,false⟩)/\Buf h' out 1 (ts.map Sl.v)/\ts.length=(stP m).length/\
  ∀(i p:Nat) (t:Sl),(stP m)[i]?=some p->ts[i]?=some t->IntS (h'.offS out) t (VL (if i<q then AR m v (j+1) p else AR m v j p)))
  ⟨ts,rfl,Hp.le_trans l3 l5o,f48o,hbuf.mono l5,htl,fun i p t hp ht=>by rw [if_neg (by omega)];exact(hts i p t hp ht).mono l5o⟩ ?_
 clear f48o l5o l5 f48 hb48 hbuf htl hts ts l23 lo l3 hax cx1 cx2 h3 h4 h5
 rintro q _ h3 next2 hq ⟨ts,rfl,l3,f48,hbuf,htl,hts⟩ hnx2
 have lo:=bz h3 out
 have l23:=Hp.le_trans l3 lo
 have g48:=lo _ _ f48
 refine⟨s,pt,out,_,_,_,_,_,pt,_,_,rfl,?_⟩
 by_cases hlq:q<(stP m).length
 rotate_left
 ·refine aE (by simp;omega) ?_
  rw [aC (by omega)]
  refine hnx hlt _ _ ⟨ts,rfl,l3,hbuf,htl,fun i p t hp ht=>?_⟩
  have:=hts i p t hp ht
  rwa [if_pos (by have:=get_lt hp;omega)]at this
 refine aM (by simp;omega) ?_
 obtain⟨p,hpq⟩: ∃p,(stP m)[q]?=some p:=⟨_,List.getElem?_eq_getElem hlq⟩
 obtain⟨bp,op,hap,hcp⟩:=(hp.mono l23).get (gU hpq)
 refine ap (fun J=> ∀(ts':List Sl) (h':Hp),h2.le (h'.offS out)->(h'.offS out) b48=some (.inl ⟨[I bd.state,I bd.node],2,false⟩)->Buf h' out 1 (ts'.map Sl.v)->ts'.length=(stP m).length->
  (∀(i p:Nat) (t:Sl),(stP m)[i]?=some p->ts'[i]?=some t->IntS (h'.offS out) t (VL (if i<q+1 then AR m v (j+1) p else AR m v j p)))->J h') ?_ (fun J hJ=>?_)
 ·intro ts' h' a1 a2 a3 a4 a5
  rw [aC (by omega)]
  exact hnx2 hlq _ _ ⟨ts',rfl,a1,a2,a3,a4,a5⟩
 refine⟨bp,op,hap,by omega,by omega,_,hcp,?_⟩
 (refine az ?_)
 have hst:=Sv g v hbd p
 refine ac (fun e=>?_) (fun e=>?_)
 ·rw [if_pos (bV e).symm]at hst
  (refine az ?_)
  obtain⟨bv,ov,t,hav,hvn,hcv,ht⟩:=(hpv2.mono l23).at q2'.1 (by rw [a.len];exact q2'.2)
  refine⟨bv,ov,hav,q2'.1,hvn,t,hcv,?_⟩
  refine hbuf.wr (x:=t) (by omega) fun h4 hbuf' ho=>?_
  refine hJ _ h4 (by rw [ho];exact l3) (by rw [ho];exact f48) hbuf' (by rw [List.length_set];exact htl) fun i p' u hp' hu=>?_
  rw [ho]
  by_cases hiq:i=q
  ·subst hiq
   rw [hpq]at hp';cases hp'
   rw [List.getElem?_set_self (by omega)]at hu
   obtain rfl:=Option.some.inj hu
   rw [if_pos (by omega),hst]
   obtain⟨bv',ov',t',hav',_,hcv',ht'⟩:=(hpv2.mono l3).at q2'.1 (by rw [a.len];exact q2'.2)
   rw [hav]at hav';cases hav'
   have:=lo.cell hcv'
   rw [hcv]at this
   have htt:t=t':=by
    rcases t with ⟨ta,tn,tc⟩;rcases t' with ⟨ta',tn',tc'⟩
    simpa using this
   rw [htt];exact ht'
  ·rw [List.getElem?_set_ne (fun e=>hiq e.symm)]at hu
   have:=hts i p' u hp' hu
   by_cases h1:i<q
   ·rw [if_pos h1]at this;rw [if_pos (by omega)];exact this
   ·rw [if_neg h1]at this;rw [if_neg (by omega)];exact this
 ·rw [if_neg (fun e'=>bk e e'.symm)]at hst
  refine hJ ts h3 l3 f48 hbuf htl fun i p' u hp' hu=>?_
  have:=hts i p' u hp' hu
  by_cases hiq:i=q
  ·subst hiq
   rw [hpq]at hp';cases hp'
   rw [if_neg (by omega)]at this
   rw [if_pos (by omega),hst];exact this
  ·by_cases h1:i<q
   ·rw [if_pos h1]at this;rw [if_pos (by omega)];exact this
   ·rw [if_neg h1]at this;rw [if_neg (by omega)];exact this
theorem Qi {m:ah} (g:dj m) {p k:Nat} (h:cf m.nexts p=some k):k<m.nodes.length:=by
 obtain⟨b,hb,_,rfl⟩:=fS h
 have:=fC.1 (gz (g.nex b hb)).2.1
 omega
def mr (m:ah) (s i:Nat):Nat:=dZ m.nodes (stP m) (eK m (cl m s i))
theorem lO {m:ah} (kind:Int) (code:Nat) (g:dj m):zV m.nodes kind (fy m.nodes (aH m.nodes kind) code):=H3 g.ok kind code
theorem EG {h:Hp} {M:MSl} {m:ah} {st inp:Nat} {R:Value->Hp->Prop} (hs:aO h M m) (hm:bW m) (g:dj m) (h1:st<=1048576) (h2:inp<=1048576)
  (k:R (I (mr m st inp)) h):pY #[aQ M,I st,I inp] h R:=by
 refine ACalls.drop (I2 ?_)
 refine uf_ ?_
 have hp36:(stP m).length<=m.nodes.length:=fz m.nodes 36
 have hp35:(inP m).length<=m.nodes.length:=fz m.nodes 35
 have hnl:=g.nl
 have hn8:=g.n8
 have hk5:=g.k5
 have hxl:=g.xl
 refine aj fun b9 g1 hb9 l1 f9=>?_
 have x9:=eY f9
 repeat' (refine az ?_)
 refine cU (hs.mono l1) hm fun p1 g2 l2 i1=>⟨p1,rfl,?_⟩
 have f92:=l2 _ _ f9
 have x92:=eY f92
 repeat' (refine az ?_)
 have l02:=Hp.le_trans l1 l2
 refine gf (hs.mono l02) hm g.ok i1 (cO g 36) (jb g 36) h1 (by rw [fq g];omega) fun u1 g3 l3 hu1=>⟨u1,rfl,?_⟩
 repeat' (((with_reducible apply lb);(assumption);(assumption)))
 have l03:=Hp.le_trans l02 l3
 refine cU (hs.mono l03) hm fun p2 g4 l4 i2=>⟨p2,rfl,?_⟩
 have l24:=Hp.le_trans l3 l4
 repeat' (((with_reducible apply lb);(assumption);(assumption)))
 have l04:=Hp.le_trans l03 l4
 refine gf (hs.mono l04) hm g.ok i2 (cO g 35) (jb g 35) h2 (by rw [Co g];omega) fun u2 g5 l5 hu2=>⟨u2,rfl,?_⟩
 have l25:=Hp.le_trans l24 l5
 (((with_reducible apply lb);(assumption);(assumption)))
 have l05:=Hp.le_trans l04 l5
 refine pV (hs.mono l05) hm g.ok g.nl (hu1.mono (Hp.le_trans l4 l5)) (lO 36 st g) hu2 (lO 35 inp g) fun vt g6 l6 hvn hpv _=>⟨vt,rfl,?_⟩
 have a:CA m (cl m st inp):=eD g st inp
 have hpv':gD g6 vt (cl m st inp):=hpv
 have hbn: ∀b∈m.nexts,0<=b.node:=fun b hb=>(fC.1 (gz (g.nex b hb)).2.1).1
 have l06:=Hp.le_trans l05 l6
 have f96:=l6 _ _ (l25 _ _ f92)
 have i16:=i1.mono (Hp.le_trans l25 l6)
 have hpn:p1.n=(stP m).length:=by have:=i1.len;rw [aY]at this;exact this
 unfold mr at k
 generalize cl m st inp=v at*
 have hs6:=hs.mono l06
 refine av (stP m).length (fun i vs h'=> ∃(ts:List Sl) (out:Sl),vs= [.pointer (some ⟨b9,0,none⟩),p1.v,vt.v,out.v,I i]/\g6.le (h'.offS out)/\out.n=i/\ts.length=i/\Buf h' out 1 (ts.map Sl.v)/\
  (∀(j:Nat) (t:Sl),ts[j]?=some t->IntS (h'.offS out) t (VL ((eK m v).getD j [])))) ⟨[],⟨none,0,0⟩,rfl,Hp.le_refl _,rfl,rfl,eZ _ _,fun j t ht=>by simp at ht⟩ ?_
 rintro i _ h3 next hi ⟨ts,out,rfl,l3',hon,htl,hbuf,hts⟩ hnx
 have lo:=bz h3 out
 have l63:=Hp.le_trans l3' lo
 have f93:=l63 _ _ f96
 refine⟨_,_,p1,vt,out,_,rfl,?_⟩
 by_cases hlt:i<(stP m).length
 rotate_left
 ·have hie:i=(stP m).length:=by omega
  subst hie
  refine aE (by simp;omega) ?_
  repeat' (refine az ?_)
  have hfl:(eK m v).length=(stP m).length:=by unfold eK kJ;simp
  have iss:IntSS h3 out ((eK m v).map VL):=⟨ts,by simp;omega,hbuf.slc_of (by omega),fun j h1 h2=>by
   have:=(hts j _ (List.getElem?_eq_getElem h1)).mono lo
   rw [List.getElem_map]
   rwa [List.getD_eq_getElem?_getD,List.getElem?_eq_getElem (by rw [hfl];omega)]at this⟩
  exact yy (hs6.mono l63) hm g.ok (i16.mono l63) (cO g 36) (jb g 36) iss (mZ g a.fit) (by rw [fq g];omega) ⟨_,rfl,_,Hp.le_trans l06 l63,k⟩
 refine aM (by simp;omega) ?_
 obtain⟨p,hpi⟩: ∃p,(stP m)[i]?=some p:=⟨_,List.getElem?_eq_getElem hlt⟩
 have hpm:=cO g 36 p (List.mem_of_getElem? hpi)
 obtain⟨bp,op,hap,hcp⟩:=(i16.mono l63).get (gU hpi)
 refine⟨bp,op,hap,by omega,by omega,?_⟩
 (refine az ?_)
 refine⟨_,hcp,?_⟩
 refine oU (hs6.mono l63).nexts (by omega) hbn ⟨_,rfl,?_⟩
 have hfg:=GW m v hpi
 rw [Nf]at hfg
 have app: ∀(t:Sl) (h4:Hp),h3.le h4->IntS h4 t (VL ((eK m v).getD i []))-> ∀(b:Nat),h4 b=none->cA (h4.row b [t.v] 1) fun h5=>co h5 out.a out.n out.c (some ⟨b,0,none⟩) 1 1 24 fun a n k h6=>next [.pointer (some ⟨b9,0,none⟩),p1.v,vt.v, .slice a n k,I (W ((i:Int)+1))] h6:=by
  intro t h4 l4' ht
  refine aj fun b h5 hb l5' f5=>?_
  have l35:=Hp.le_trans l4' l5'
  have l35o:=bP out l35
  refine dw (hbuf.mono l35) (by omega) (by omega) (by omega) ⟨b,0,rfl,ay f5⟩ (by simp) rfl ?_
  intro s' h6 hs'n hbuf' l6' _
  rw [aC (by omega)]
  have l36:=Hp.le_trans l35o l6'
  have hbuf'':Buf h6 s' 1 ((ts++ [t]).map Sl.v):=by rw [List.map_append];exact hbuf'
  refine hnx hlt _ _ ⟨ts++ [t],s',rfl,Hp.le_trans l3' l36,by omega,by simp;omega,hbuf'',fun j u hu=>?_⟩
  by_cases hj:j<i
  ·rw [List.getElem?_append_left (by omega)]at hu
   exact(hts j u hu).mono l36
  ·have hju:=get_lt hu
   simp at hju
   have hje:j=i:=by omega
   subst hje
   rw [List.getElem?_append_right (by omega),htl,Nat.sub_self]at hu
   simp at hu;subst hu
   exact((ht.mono l5').offL (hbuf.mono l35)).mono l6'
 cases hbo:cf m.nexts p with
 |some q=>
  rw [show iq m.nexts p=(q:Int)from by unfold iq;rw [hbo]]
  refine aM (by simp) ?_
  have hqn:=Qi g hbo
  obtain⟨bv,ov,t,hav,hvn',hcv,ht⟩:=(hpv'.mono l63).at (p:=(q:Int)) (by omega) (by rw [a.len];omega)
  refine⟨bv,ov,hav,by omega,hvn',t,hcv,?_⟩
  refine app t h3 (Hp.le_refl _) ?_
  rw [hfg]
  unfold gH
  rw [hbo]
  simpa using ht
 |none=>
  rw [show iq m.nexts p= -1 from by unfold iq;rw [hbo]]
  refine aE (by simp) ?_
  refine⟨bp,op,hap,by omega,by omega,?_⟩
  (refine az ?_)
  refine⟨_,hcp,?_⟩
  obtain⟨bn,on,han,hpn',c6,c7,w1,w16⟩:=(hs6.mono l63).nodes.sortc2 hpm g.ok
  refine⟨bn,on,han,by omega,hpn',_,c6,_,c7,?_⟩
  refine fD ⟨_,rfl,?_⟩
  rw [qN g.ok hpm]
  have hc4:=dm m.nodes p
  refine⟨by omega,by omega,by omega,by omega,?_⟩
  refine aj fun b33 h4 hb33 l4' f33=>?_
  rw [Int.toNat_natCast,Nat.mul_one,cn]at f33
  refine app ⟨some ⟨b33,0,none⟩,aK m.nodes p,aK m.nodes p⟩ h4 l4' ?_
  rw [hfg]
  unfold gH
  rw [hbo]
  simp only [Option.map_none,Option.getD_none]
  refine⟨by dsimp only;omega,by simp [aY], .inr ⟨b33,0,rfl,?_⟩⟩
  have hc:(VL (List.replicate (aK m.nodes p) 0)).map I=List.replicate (aK m.nodes p) (I 0):=by simp [VL]
  rw [hc];exact ay f33
structure Kn (g h:Hp) (L:List (Nat×Blk)):Prop where
 le:g.le h
 mem: ∀e∈L,h e.1=some e.2
 new: ∀e∈L,g e.1=none
 nd:(L.map Prod.fst).Nodup
inductive Upd :List (Nat×Blk)->Nat->Blk->Blk->List (Nat×Blk)->Prop
 |head {L:List (Nat×Blk)} {b:Nat} {x y:Blk}:Upd ((b,x)::L) b x y ((b,y)::L)
 |tail {L L':List (Nat×Blk)} {b:Nat} {x y:Blk} {e:Nat×Blk}:Upd L b x y L'->Upd (e::L) b x y (e::L')
theorem Kn.nil (h:Hp):Kn h h []:=⟨Hp.le_refl _,fun e h=>(by simp at h),fun e h=>(by simp at h),List.nodup_nil⟩
theorem Kn.of {g h:Hp} (l:g.le h):Kn g h []:=⟨l,fun e h=>(by simp at h),fun e h=>(by simp at h),List.nodup_nil⟩
section
variable {g h h':Hp} {L L':List (Nat×Blk)}
theorem Kn.at (K:Kn g h L) {b:Nat} {x:Blk} (e:(b,x)∈L):h b=some x:=K.mem _ e
theorem Kn.mono (K:Kn g h L) (l:h.le h'):Kn g h' L:=⟨Hp.le_trans K.le l,fun e he=>l _ _ (K.mem e he),K.new,K.nd⟩
theorem Kn.cons (K:Kn g h L) {b:Nat} {x:Blk} (hb:h b=none) (l:h.le h') (f:h' b=some x):Kn g h' ((b,x)::L):=by
 refine⟨Hp.le_trans K.le l,fun e he=>?_,fun e he=>?_,?_⟩
 ·rcases List.mem_cons.1 he with rfl|he
  ·exact f
  ·exact l _ _ (K.mem e he)
 ·rcases List.mem_cons.1 he with rfl|he
  ·exact aF K.le hb
  ·exact K.new e he
 ·rw [List.map_cons,List.nodup_cons]
  refine⟨fun hm=>?_,K.nd⟩
  obtain⟨e,he,heb⟩:=List.mem_map.1 hm
  have:=K.mem e he
  rw [show e.1=b from heb,hb]at this;cases this
theorem Kn.al (K:Kn g h L) {cs:Nat->List Value} {n:Nat->Nat} {P:Nat->Hp->Prop} (k: ∀b h',Kn g h' ((b, .inl ⟨cs b,n b,false⟩)::L)->h.le h'->h b=none->P b h'):
  ∀b,h b=none->cA (h.row b (cs b) (n b)) fun h'=>P b h':=
 fun b hb=>k b _ (K.cons hb (fg _ _ hb) (bM _ _ _ _)) (fg _ _ hb) hb
theorem Upd.mem {b:Nat} {x y:Blk} (u:Upd L b x y L'):(b,x)∈L:=by
 induction u with
 |head=>exact .head _
 |tail _ ih=>exact .tail _ ih
theorem Upd.keys {b:Nat} {x y:Blk} (u:Upd L b x y L'):L'.map Prod.fst=L.map Prod.fst:=by
 induction u with
 |head=>rfl
 |tail _ ih=>rw [List.map_cons,List.map_cons,ih]
theorem Upd.out {b:Nat} {x y:Blk} (u:Upd L b x y L') (nd:(L.map Prod.fst).Nodup): ∀e∈L',e=(b,y)\/(e∈L/\e.1≠b):=by
 induction u with
 |head=>
  intro e he
  rcases List.mem_cons.1 he with rfl|he
  ·exact .inl rfl
  ·rw [List.map_cons,List.nodup_cons]at nd
   exact .inr ⟨.tail _ he,fun eb=>nd.1 (List.mem_map.2 ⟨e,he,eb⟩)⟩
 |tail u ih=>
  rename_i L L' b x y e0
  rw [List.map_cons,List.nodup_cons]at nd
  intro e he
  rcases List.mem_cons.1 he with rfl|he
  ·exact .inr ⟨.head _,fun eb=>nd.1 (List.mem_map.2 ⟨_,u.mem,eb.symm⟩)⟩
  ·rcases ih nd.2 e he with h|⟨h1,h2⟩
   ·exact .inl h
   ·exact .inr ⟨.tail _ h1,h2⟩
theorem Kn.set (K:Kn g h L) {b z z':Nat} {cs cs':List Value} {ro:Bool} (u:Upd L b (.inl ⟨cs,z,ro⟩) (.inl ⟨cs',z',false⟩) L'):Kn g (h.row b cs' z') L':=by
 have hb:=K.new _ u.mem
 refine⟨et _ _ hb K.le,fun e he=>?_,fun e he=>?_,by rw [u.keys];exact K.nd⟩
 ·rcases u.out K.nd e he with rfl|⟨h1,h2⟩
  ·exact bM _ _ _ _
  ·rw [bX _ _ h2];exact K.mem e h1
 ·rcases u.out K.nd e he with rfl|⟨h1,h2⟩
  ·exact hb
  ·exact K.new e h1
theorem Kn.wr (K:Kn g h L) {b z o m:Nat} {cs vs:List Value} {P:Hp->Prop} (u:Upd L b (.inl ⟨cs,z,false⟩) (.inl ⟨cz cs o vs,z,false⟩) L') (hl:m<=cs.length)
  (k: ∀h',Kn g h' L'->(∀c,c≠b->h' c=h c)->P h'):
  ∃(cs':List Value) (z':Nat),h b=some (.inl ⟨cs',z',false⟩)/\m<=List.length cs'/\cA (h.row b (cz cs' o vs) z') fun h'=>P h':=
 ⟨cs,z,K.at u.mem,hl,k _ (K.set u) fun c hc=>bX _ _ hc⟩
theorem Kn.base (K:Kn g h L):Kn (h.wo (L.map Prod.fst)) h L:=⟨wD _ _,K.mem,fun e he=>fo (List.mem_map.2 ⟨e,he,rfl⟩),K.nd⟩
theorem Kn.leBase (K:Kn g h L):g.le (h.wo (L.map Prod.fst)):=sW K.le fun b hb=>by
 obtain⟨e,he,rfl⟩:=List.mem_map.1 hb
 exact K.new e he
theorem Kn.has (K:Kn g h L): ∀b∈L.map Prod.fst,h b≠none:=fun b hb=>by
 obtain⟨e,he,rfl⟩:=List.mem_map.1 hb
 rw [K.mem e he];simp
theorem Kn.eq {g':Hp} (K':Kn g' h' L') (K:Kn g h L) {b:Nat} {x:Blk} {P:Prop} (e':(b,x)∈L') (e:(b,x)∈L) (k:P):h' b=h b/\P:=⟨by rw [K'.at e',K.at e],k⟩
theorem Kn.eqg (K':Kn g h' L') (K:Kn g h L) {b:Nat} {P:Prop} (e:g b≠none) (k:P):h' b=h b/\P:=by
 refine⟨?_,k⟩
 cases hb:g b with
 |none=>exact absurd hb e
 |some x=>rw [K'.le _ _ hb,K.le _ _ hb]
theorem Kn.sub (K:Kn g h L) (m: ∀e∈L',e∈L) (nd:(L'.map Prod.fst).Nodup):Kn g h L':=⟨K.le,fun e he=>K.mem e (m e he),fun e he=>K.new e (m e he),nd⟩
theorem Kn.wrS {s:Sl} (K:Kn g (h.offS s) L) {b z o m:Nat} {cs vs:List Value} {P:Hp->Prop} (u:Upd L b (.inl ⟨cs,z,false⟩) (.inl ⟨cz cs o vs,z,false⟩) L') (hl:m<=cs.length)
  (k: ∀h',Kn g (h'.offS s) L'->(∀sz bs,Buf h s sz bs->Buf h' s sz bs)->(∀c,c≠b->(h'.offS s) c=(h.offS s) c)->P h'):
  ∃(cs':List Value) (z':Nat),h b=some (.inl ⟨cs',z',false⟩)/\m<=List.length cs'/\cA (h.row b (cz cs' o vs) z') fun h'=>P h':=by
 have f:=K.at u.mem
 refine⟨cs,z,bz _ _ _ _ f,hl,k _ ?_ (fun sz bs e=>e.row _ _ f) fun c hc=>?_⟩
 ·rw [qL _ _ f];exact K.set u
 ·rw [qL _ _ f,bX _ _ hc]
end
theorem dF {b o:Nat} {P:Nat->Nat->Prop} (k:P b o): ∃b' o':Nat,some (Addr.mk b o none)=some (Addr.mk b' o' none)/\P b' o':=⟨b,o,rfl,k⟩
theorem Kn.rd {α:Type} {f:α->Value} {g h:Hp} {L:List (Nat×Blk)} (K:Kn g h L) {b z o:Nat} {cs:List Value} {ro:Bool} {x:α} {P:α->Prop} (e:(b, .inl ⟨cs,z,ro⟩)∈L) (c:cs[o]?=some (f x)) (k:P x): ∃y:α,Hp.cell h b o=some (f y)/\P y:=⟨x,by rw [aq (K.at e)];exact c,k⟩
theorem Kn.rg {α:Type} {f:α->Value} {g h:Hp} {L:List (Nat×Blk)} (K:Kn g h L) {b z o:Nat} {cs:List Value} {ro:Bool} {x:α} {P:α->Prop} (e:g b=some (.inl ⟨cs,z,ro⟩)) (c:cs[o]?=some (f x)) (k:P x): ∃y:α,Hp.cell h b o=some (f y)/\P y:=⟨x,by rw [aq (K.le _ _ e)];exact c,k⟩
theorem kr_ {P Q:Prop} (k:Q) (h:Q->P:=by(first
 |((with_reducible apply Kn.rd);(assumption);((focus ((repeat first|exact .head _|apply List.Mem.tail);done)));(exact rfl))
 |((with_reducible apply Kn.rg);(assumption);(assumption);(exact rfl))
 |with_reducible exact And.intro (Eq.refl _)
 |with_reducible exact And.intro True.intro
 |with_reducible exact dF
 |((with_reducible apply Kn.eq);(assumption);(assumption);((focus ((repeat first|exact .head _|apply List.Mem.tail);done)));((focus ((repeat first|exact .head _|apply List.Mem.tail);done))))
 |((with_reducible apply Kn.eqg);(assumption);(assumption);(assumption))
 |fail)):P:=h k
theorem kw_ {P Q:Prop} (k:Q) (h:Q->P:=by((with_reducible apply Kn.wr);(assumption);(((focus ((repeat first|exact .head|apply Upd.tail);done))));(exact of_decide_eq_true rfl))):P:=h k
theorem Qn (l:List NodeP) (c:Nat->Bool) (p:Nat): ∀ps,fZ l c (ps++ [p])=fZ l c ps+2^cC l ps*(if c p then 2^nbA l p-1 else 0):=by
 intro ps
 induction ps with
 |nil=>simp [fZ,cC]
 |cons q ps ih=>
  simp only [List.cons_append,fZ]
  rw [ih,pC,Nat.pow_add,Nat.mul_add,Nat.mul_assoc,Nat.add_assoc]
theorem Iq {l:List NodeP} {ps:List Nat} {c:Nat->Bool} {i p:Nat} (h:ps[i]?=some p):fZ l c (ps.take (i+1))=fZ l c (ps.take i)+2^cC l (ps.take i)*(if c p then 2^nbA l p-1 else 0):=by
 have hlt:=get_lt h
 rw [List.getElem?_eq_getElem hlt]at h
 rw [List.take_succ_eq_append_getElem hlt,Qn,Option.some.inj h]
theorem Qa {binds:List BindP} {j:Nat} {b:BindP} (hb:binds[j]?=some b) (p:Nat):(cf (binds.take (j+1)) p).isSome=((cf (binds.take j) p).isSome||decide (b.state=(p:Int))):=by
 have hlt:=get_lt hb
 have hg:binds[j]=b:=by rw [List.getElem?_eq_getElem hlt]at hb;exact Option.some.inj hb
 unfold cf
 rw [List.take_succ_eq_append_getElem hlt,List.find?_append,hg]
 cases hf:(binds.take j).find? (fun b=>decide (b.state=(p:Int)))with
 |some x=>simp
 |none=>
  by_cases e:b.state=(p:Int)<;>simp [e]
theorem YA {l:List NodeP} {p:Nat}:dQ (aA l p)=nbA l p:=by unfold dQ nbA cj aK;rw [Nat.mul_comm]
theorem WT {l:List NodeP} {ps:List Nat} {i p:Nat} (h:ps[i]?=some p):cC l (ps.take i)+nbA l p<=cC l ps:=by
 have:=nv (l:=l) h
 have:=FD l ps (i+1)
 unfold nbA;omega
theorem Z2 {l:List NodeP} {p:Nat} (hok:cv l=true) (hp:p<l.length):dQ ⟨(aA l p).idx,(cj l p:Nat)⟩=nbA l p:=by
 have:=cd.1 (qu hok hp)
 have hw:((cj l p:Nat):Int)=(aA l p).wid:=by unfold cj;omega
 rw [hw];exact YA
theorem yu {h:Hp} {M:MSl} {m:ah} {s:Sl} {binds:List BindP} {R:Value->Hp->Prop} (hs:aO h M m) (hm:bW m) (g:dj m) (hb:rA h s binds) (hbl:binds.length<=1048576)
  (k:R (I (PW m binds)) h):gV #[aQ M,s.v] h R:=by
 refine ACalls.drop (wy ?_)
 refine uf_ ?_
 have hn8:=g.n8
 have hsw:=fq g
 have hbn:=hb.len
 have hp36:(stP m).length<=m.nodes.length:=fz m.nodes 36
 have hnl:=g.nl
 refine aj fun b8 h1 hb8 l1 f8=>?_
 repeat' (refine az ?_)
 refine eu (hs.mono l1) hm fun pt h2 l2 hp=>⟨pt,rfl,?_⟩
 have hpn:pt.n=(stP m).length:=by have:=hp.len;rw [aY]at this;exact this
 have l02:=Hp.le_trans l1 l2
 replace f8:=l2 _ _ f8
 refine av (stP m).length (fun i vs h'=>vs= [s.v, .pointer (some ⟨b8,0,none⟩),I (fZ m.nodes (fun p=>(cf binds p).isSome) ((stP m).take i):Nat),I (cC m.nodes ((stP m).take i):Nat),pt.v,I pt.n,I i]/\h2.le h') ⟨by simp [fZ,cC],Hp.le_refl _⟩ ?_
 rintro i _ h3 next hi ⟨rfl,l3⟩ hnx
 refine⟨s,_,_,_,_,pt,_,_,rfl,?_⟩
 have l03:=Hp.le_trans l02 l3
 have f83:=l3 _ _ f8
 by_cases hlt:i<(stP m).length
 rotate_left
 ·have hie:i=(stP m).length:=by omega
  subst hie
  refine aE (by simp;omega) ⟨_,l03,?_⟩
  rw [List.take_of_length_le (Nat.le_refl _)];exact k
 refine aM (by simp;omega) ?_
 obtain⟨p,hpi⟩: ∃p,(stP m)[i]?=some p:=⟨_,List.getElem?_eq_getElem hlt⟩
 have hpm:=cO g 36 p (List.mem_of_getElem? hpi)
 obtain⟨b,o,ha,hc⟩:=(hp.mono l3).get (gU hpi)
 refine⟨b,o,ha,by omega,by omega,_,hc,?_⟩
 (refine az ?_)
 obtain⟨bn,on,han,hpn',c6,c7,w1,w16⟩:=(hs.mono l03).nodes.sortc2 hpm g.ok
 refine⟨bn,on,han,by omega,hpn',_,c6,_,c7,?_⟩
 refine r8 ⟨_,rfl,?_⟩
 rw [Z2 g.ok hpm]
 have hnb:=WT (l:=m.nodes) hpi
 have hlo:=xX m.nodes (fun p=>(cf binds p).isSome) ((stP m).take i)
 have hpp:=Cx (n:=cC m.nodes ((stP m).take i)) (by omega)
 have hpb:=Cx (n:=nbA m.nodes p) (by omega)
 have hpb1:=bJ (nbA m.nodes p)
 have hmul:(2^nbA m.nodes p-1)*2^cC m.nodes ((stP m).take i)<1048576:=by
  have h1:(2^nbA m.nodes p-1)*2^cC m.nodes ((stP m).take i)<=2^nbA m.nodes p*2^cC m.nodes ((stP m).take i):=Nat.mul_le_mul_right _ (Nat.sub_le _ _)
  rw [<-Nat.pow_add]at h1
  have h2:=Nat.pow_le_pow_right (n:=2) (by omega) (show nbA m.nodes p+cC m.nodes ((stP m).take i)<=8 by omega)
  have h3:(2:Nat)^8=256:=rfl
  omega
 have hlo2:fZ m.nodes (fun p=>(cf binds p).isSome) ((stP m).take i)<1048576:=by
  have h2:=Nat.pow_le_pow_right (n:=2) (by omega) (show cC m.nodes ((stP m).take i)<=8 by omega)
  have h3:(2:Nat)^8=256:=rfl
  omega
 have hstep:=Iq (l:=m.nodes) (c:=fun p=>(cf binds p).isSome) hpi
 generalize hmi:fZ m.nodes (fun p=>(cf binds p).isSome) ((stP m).take i)=mi at*
 generalize hat:cC m.nodes ((stP m).take i)=at_ at*
 refine av binds.length (fun j vs h'=>vs= [s.v, .pointer (some ⟨b8,0,none⟩),I (mi+(if(cf (binds.take j) p).isSome then(2^nbA m.nodes p-1)*2^at_ else 0):Nat),I at_,I p,I (nbA m.nodes p),pt.v,I pt.n,I i,s.v,I s.n,I j]/\h2.le h') ⟨by simp [cf],l3⟩ ?_
 clear hc ha c6 c7 han hpn' f83 l03 l3 h3
 rintro j _ h3 next2 hj ⟨rfl,l3⟩ hnx2
 have l03:=Hp.le_trans l02 l3
 refine⟨s,_,_,_,_,_,_,pt,_,_,s,_,_,rfl,?_⟩
 by_cases hlj:j<binds.length
 rotate_left
 ·have hje:j=binds.length:=by omega
  subst hje
  refine aE (by simp;omega) ?_
  rw [List.take_length,aC (by omega),bU (n:=(at_:Int)+(nbA m.nodes p:Nat)) (by omega) (by omega)]
  refine hnx hlt _ _ ⟨?_,l3⟩
  rw [hstep,nv hpi,hat,Nat.mul_comm (2^at_)]
  have:at_+cj m.nodes p*aK m.nodes p=at_+nbA m.nodes p:=rfl
  rw [this]
  have e2:(if(cf binds p).isSome=true then 2^nbA m.nodes p-1 else 0)*2^at_=if(cf binds p).isSome=true then(2^nbA m.nodes p-1)*2^at_ else 0:=by split<;>simp
  rw [e2];rfl
 refine aM (by simp;omega) ?_
 obtain⟨bd,hbd⟩: ∃bd,binds[j]?=some bd:=⟨_,List.getElem?_eq_getElem hlj⟩
 obtain⟨bx,ox,hax,cx1,cx2⟩:=(hb.mono l03).at hbd
 have hmore:=Qa hbd p
 refine ap (fun J=> ∀h',h2.le h'->J ((mi+(if(cf (binds.take (j+1)) p).isSome then(2^nbA m.nodes p-1)*2^at_ else 0):Nat):Int) h') ?_ (fun J hJ=>?_)
 ·intro h' l'
  rw [aC (by omega)]
  exact hnx2 hlj _ _ ⟨rfl,l'⟩
 refine⟨bx,ox,hax,by omega,by omega,_,cx1,_,cx2,?_⟩
 refine aj fun b74 h4 hb74 l4 f74=>?_
 (with_reducible apply bZ);(exact f74);(exact Hp.le_trans l3 l4);(exact aF l3 hb74);(exact Nat.le_refl 2)
 intro h5 f74' kp l5
 refine⟨_,by rw [aq f74'];rfl,?_⟩
 refine ac (fun e=>?_) (fun e=>?_)
 ·rw [decide_eq_true (bV e),Bool.or_true]at hmore
  refine dI (by omega) ⟨_,rfl,?_⟩
  rw [if_neg (by omega)]
  have hm1:(((2^nbA m.nodes p:Nat):Int)-1)=((2^nbA m.nodes p-1:Nat):Int):=by omega
  have:=hJ h5 l5
  rw [hmore,if_pos rfl]at this
  rw [hm1,ir (by omega) (by omega),Bs (by split<;>omega) (by omega)]
  have e3:(mi+(if(cf (binds.take j) p).isSome=true then(2^nbA m.nodes p-1)*2^at_ else 0))|||(2^nbA m.nodes p-1)*2^at_=mi+(2^nbA m.nodes p-1)*2^at_:=by
   split
   ·rw [<-P8 hlo,Nat.or_assoc,Nat.or_self]
   ·rw [Nat.add_zero,P8 hlo]
  rw [e3];exact this
 ·rw [decide_eq_false (bk e),Bool.or_false]at hmore
  have:=hJ h5 l5
  rw [hmore]at this
  exact this
def kL (m:ah):Nat:=fZ m.nodes (fun p=> !(cf m.nexts p).isSome) (stP m)
def eM (k:Nat):List Nat:=(List.range (k+1)).filter fun c=>decide (c&&&k=c)
theorem YM {c k:Nat} (hc:c<256):c&&&k=c↔ ∀i,i<8->(c.testBit i=true->k.testBit i=true):=by
 constructor
 ·intro h i _ hi
  rw [<-h,Nat.testBit_and,Bool.and_eq_true]at hi
  exact hi.2
 ·intro h
  apply Nat.eq_of_testBit_eq
  intro i
  rw [Nat.testBit_and]
  by_cases hi:i<8
  ·have:=h i hi
   cases hc:c.testBit i with
   |false=>rfl
   |true=>rw [this hc];rfl
  ·rw [Nat.testBit_lt_two_pow (Nat.lt_of_lt_of_le hc (by have:=Nat.pow_le_pow_right (n:=2) (by omega) (show 8<=i by omega);simpa using this))];rfl
theorem UB {m:ah} (g:dj m):kL m<256:=by
 have h:=xX m.nodes (fun p=> !(cf m.nexts p).isSome) (stP m)
 rw [fq g]at h
 have:=Nat.pow_le_pow_right (n:=2) (by omega) g.n8
 have h3:(2:Nat)^8=256:=rfl
 unfold kL;omega
theorem Pr {binds:List BindP} {p:Nat}:decide (iq binds p<0)= !(cf binds p).isSome:=by
 unfold iq
 cases cf binds p with
 |none=>rfl
 |some k=>simp
def J5 (k i:Nat):List Nat:=(List.range i).filter fun c=>decide (c&&&k=c)
theorem PV (k i:Nat):J5 k (i+1)=J5 k i++if i&&&k=i then [i]else []:=by
 unfold J5
 rw [List.range_succ,List.filter_append]
 by_cases h:i&&&k=i<;>simp [h]
theorem Buf.subOf {h h':Hp} {s:Sl} {sz:Nat} {cs:List Value} (e:Buf h' s sz cs) (l:h.le (h'.offS s)):Buf (h'.sub h) s sz cs:=by
 refine⟨e.1,e.2.1,e.2.2.imp id ?_⟩
 rintro ⟨b,ha,hb⟩
 refine⟨b,ha,?_⟩
 have hoff:(h'.offS s) b=none:=by simp [Hp.offS,ha,Hp.off,Hp.set]
 have hn:h b=none:=by
  cases hx:h b with
  |none=>rfl
  |some x=>rw [l _ _ hx]at hoff;cases hoff
 rw [lR hn];exact hb
theorem LV {h:Hp} {M:MSl} {m:ah} {R:Value->Hp->Prop} (hs:aO h M m) (hm:bW m) (g:dj m)
  (k: ∀t h',h.le h'->IntS (h'.sub h) t (VL (eM (kL m)))->R (Sl.v t) h'):sU #[aQ M] h R:=by
 apply Gg
 refine uf_ ?_
 have hn8:=g.n8
 have hsw:=fq g
 have hp36:(stP m).length<=m.nodes.length:=fz m.nodes 36
 have hnl:=g.nl
 have hxl:=g.xl
 have hbn: ∀b∈m.nexts,0<=b.node:=fun b hb=>(fC.1 (gz (g.nex b hb)).2.1).1
 refine aj fun b8 h1 hb8 l1 f8=>?_
 repeat' (refine az ?_)
 refine cU (hs.mono l1) hm fun pt h2 l2 hp=>⟨pt,rfl,?_⟩
 have hpn:pt.n=(stP m).length:=by have:=hp.len;rw [aY]at this;exact this
 have l02:=Hp.le_trans l1 l2
 replace f8:=l2 _ _ f8
 refine av (stP m).length (fun i vs h'=>vs= [.pointer (some ⟨b8,0,none⟩),pt.v,I (fZ m.nodes (fun p=> !(cf m.nexts p).isSome) ((stP m).take i):Nat),I (cC m.nodes ((stP m).take i):Nat),I i]/\h'=h2) ⟨by simp [fZ,cC],rfl⟩ ?_
 rintro i _ _ next hi ⟨rfl,rfl⟩ hnx
 rename_i h2
 refine⟨_,_,pt,_,_,_,rfl,?_⟩
 by_cases hlt:i<(stP m).length
 ·refine aM (by simp;omega) ?_
  obtain⟨p,hpi⟩: ∃p,(stP m)[i]?=some p:=⟨_,List.getElem?_eq_getElem hlt⟩
  have hpm:=cO g 36 p (List.mem_of_getElem? hpi)
  obtain⟨b,o,ha,hc⟩:=hp.get (gU hpi)
  refine⟨b,o,ha,by omega,by omega,?_⟩
  (refine az ?_)
  refine⟨_,hc,?_⟩
  obtain⟨bn,on,han,hpn',c6,c7,w1,w16⟩:=(hs.mono l02).nodes.sortc2 hpm g.ok
  refine⟨bn,on,han,by omega,hpn',_,c6,_,c7,?_⟩
  refine ij ⟨_,rfl,?_⟩
  rw [Z2 g.ok hpm]
  refine⟨b,o,ha,by omega,by omega,?_⟩
  (refine az ?_)
  refine⟨_,hc,?_⟩
  refine oU (hs.mono l02).nexts (by omega) hbn ⟨_,rfl,?_⟩
  rw [Pr]
  have hnb:=WT (l:=m.nodes) hpi
  have hlo:=xX m.nodes (fun p=> !(cf m.nexts p).isSome) ((stP m).take i)
  have hpb:=Cx (n:=nbA m.nodes p) (by omega)
  have hpb1:=bJ (nbA m.nodes p)
  have hmul:(2^nbA m.nodes p-1)*2^cC m.nodes ((stP m).take i)<1048576:=by
   have h1:(2^nbA m.nodes p-1)*2^cC m.nodes ((stP m).take i)<=2^nbA m.nodes p*2^cC m.nodes ((stP m).take i):=Nat.mul_le_mul_right _ (Nat.sub_le _ _)
   rw [<-Nat.pow_add]at h1
   have h2:=Nat.pow_le_pow_right (n:=2) (by omega) (show nbA m.nodes p+cC m.nodes ((stP m).take i)<=8 by omega)
   have h3:(2:Nat)^8=256:=rfl
   omega
  have hlo2:fZ m.nodes (fun p=> !(cf m.nexts p).isSome) ((stP m).take i)<1048576:=by
   have h2:=Nat.pow_le_pow_right (n:=2) (by omega) (show cC m.nodes ((stP m).take i)<=8 by omega)
   have h3:(2:Nat)^8=256:=rfl
   omega
  have hstep:=Iq (l:=m.nodes) (c:=fun p=> !(cf m.nexts p).isSome) hpi
  have hst2:=nv (l:=m.nodes) hpi
  rw [show cj m.nodes p*aK m.nodes p=nbA m.nodes p from rfl]at hst2
  rw [cu (n:=nbA m.nodes p) (by omega),cu (n:=cC m.nodes ((stP m).take i)) (by omega)]
  have fin:=hnx hlt
  have hat:W (((cC m.nodes ((stP m).take i):Nat):Int)+((nbA m.nodes p:Nat):Int))=((cC m.nodes ((stP m).take (i+1)):Nat):Int):=by
   rw [bU (by omega) (by omega),hst2];omega
  rw [hat,aC (by omega)]
  refine ac (fun e=>?_) (fun e=>?_)
  ·rw [if_neg (by omega),if_neg (by omega),bK (by omega),bU (n:=((2^nbA m.nodes p:Nat):Int)-1) (by omega) (by omega)]
   have hm1:(((2^nbA m.nodes p:Nat):Int)-1)=((2^nbA m.nodes p-1:Nat):Int):=by omega
   rw [if_pos e,Nat.mul_comm]at hstep
   rw [hm1,ir (by omega) (by omega),<-Int.natCast_add,eO (by omega),<-hstep]
   exact fin _ _ ⟨rfl,rfl⟩
  ·have hs2:fZ m.nodes (fun p=> !(cf m.nexts p).isSome) ((stP m).take (i+1))=fZ m.nodes (fun p=> !(cf m.nexts p).isSome) ((stP m).take i):=by
    rw [hstep,if_neg (by rw [e];decide)];simp
   rw [<-hs2]
   exact fin _ _ ⟨rfl,rfl⟩
 have hie:i=(stP m).length:=by omega
 subst hie
 refine aE (by simp;omega) ?_
 rw [List.take_of_length_le (Nat.le_refl _)]
 have hfm:=UB g
 show aN _ [I (kL m:Nat), .slice none 0 0,I 0] h2
 refine av (kL m+1) (fun c vs h'=> ∃out:Sl,vs= [I (kL m:Nat),out.v,I c]/\h2.le (h'.offS out)/\out.n<=c/\Buf h' out 1 ((VL (J5 (kL m) c)).map I)) ⟨⟨none,0,0⟩,rfl,Hp.le_refl _,Nat.le_refl _,eZ _ _⟩ ?_
 rintro c _ h3 next2 hc ⟨out,rfl,l3,hon,hbuf⟩ hnx2
 have l23:=Hp.le_trans l3 (bz _ _)
 refine⟨_,out,_,rfl,?_⟩
 by_cases hlc:c<kL m+1
 rotate_left
 ·have hce:c=kL m+1:=by omega
  subst hce
  exact aE (by simp;omega) (k out h3 (Hp.le_trans l02 l23) ((hbuf.subOf (Hp.le_trans l02 l3)).slc_of (by omega)))
 refine aM (by simp;omega) ?_
 refine av 8 (fun j vs h'=>vs= [I (kL m:Nat),out.v,I c, .bool ((List.range j).all fun i=> !c.testBit i||(kL m).testBit i),I j]/\h'=h3) ⟨rfl,rfl⟩ ?_
 rintro j _ _ next3 hj ⟨rfl,rfl⟩ hnx3
 rename_i h3
 refine⟨_,out,_,_,_,rfl,?_⟩
 by_cases hlj:j<8
 ·refine aM (by simp;omega) ?_
  have hsucc:(List.range (j+1)).all (fun i=> !c.testBit i||(kL m).testBit i)=((List.range j).all (fun i=> !c.testBit i||(kL m).testBit i)&&(!c.testBit j||(kL m).testBit j)):=by
   rw [List.range_succ,List.all_append];simp
  have fin:=hnx3 hlj
  rw [hsucc]at fin
  refine ac (fun e=>?_) (fun e=>?_)
  ·rw [e]at fin
   rw [Bool.true_and]at fin
   refine jn (by omega) ⟨_,rfl,?_⟩
   refine jn (by omega) ⟨_,rfl,?_⟩
   rw [aC (by omega)]
   have:decide ((if c.testBit j then(1:Int)else 0)<=(if(kL m).testBit j then(1:Int)else 0))=(!c.testBit j||(kL m).testBit j):=by
    cases c.testBit j<;>cases (kL m).testBit j<;>rfl
   rw [this]
   exact fin _ _ ⟨rfl,rfl⟩
  ·rw [e]at fin
   rw [Bool.false_and]at fin
   rw [aC (by omega)]
   exact fin _ _ ⟨rfl,rfl⟩
 have hje:j=8:=by omega
 subst hje
 refine aE (by simp) ?_
 have hcond:((List.range 8).all fun i=> !c.testBit i||(kL m).testBit i)=decide (c&&&kL m=c):=by
  rw [Bool.eq_iff_iff,decide_eq_true_eq,YM (by omega),List.all_eq_true]
  constructor
  ·intro h i hi hb
   have:=h i (List.mem_range.2 hi)
   rw [hb]at this;simpa using this
  ·intro h i hi
   have:=h i (List.mem_range.1 hi)
   cases hb:c.testBit i with
   |false=>rfl
   |true=>rw [this hb];rfl
 rw [hcond,aC (by omega)]
 have hft:=PV (kL m) c
 refine ac (fun e=>?_) (fun e=>?_)
 ·rw [if_pos (of_decide_eq_true e)]at hft
  refine aj fun b92 h4 hb92 l4 f92=>?_
  refine dw (hbuf.mono l4) (by omega) (by omega) (by omega) ⟨b92,0,rfl,ay f92⟩ (by simp) rfl ?_
  intro s' h5 hs'n hbuf' l5 _
  refine hnx2 hlc _ _ ⟨s',rfl,Hp.le_trans l3 (Hp.le_trans (bP out l4) l5),by omega,?_⟩
  rw [hft,uJ,List.map_append];exact hbuf'
 ·rw [if_neg (of_decide_eq_false e),List.append_nil]at hft
  refine hnx2 hlc _ _ ⟨out,rfl,l3,by omega,?_⟩
  rw [hft];exact hbuf
theorem Buf.wo {h h':Hp} {t:Sl} {sz:Nat} {cs:List Value} {B:List Nat} (e:Buf h' t sz cs) (l:h.le (h'.offS t)) (hB: ∀b∈B,h b≠none):Buf (h'.wo B) t sz cs:=by
 refine⟨e.1,e.2.1,e.2.2.imp id ?_⟩
 rintro ⟨b,ha,hb⟩
 refine⟨b,ha,?_⟩
 rw [sy]
 ·exact hb
 ·intro hm
  have:=hB b hm
  cases hx:h b with
  |none=>exact this hx
  |some x=>
   have:=l _ _ hx
   simp [Hp.offS,ha,Hp.off,Hp.set]at this
theorem NM {m:ah} (g:dj m):2^(ak m.nodes 36+ak m.nodes 35)<=8192:=by
 have h1:=g.n8
 have h2:=g.k5
 have:=Nat.pow_le_pow_right (n:=2) (by omega) (show ak m.nodes 36+ak m.nodes 35<=13 by omega)
 simpa using this
theorem ac8 {m:ah} (g:dj m):2^ak m.nodes 36<=256:=by
 have h1:=g.n8
 have:=Nat.pow_le_pow_right (n:=2) (by omega) h1
 simpa using this
theorem RT {h:Hp} {M:MSl} {m:ah} {fid:FuncId} {u w:Array Value} {B:List Nat} {st:Nat->Hp->Prop} {R:Value->Hp->Prop} (hs:aO (h.wo B) M m) (hm:bW m) (g:dj m)
  (hB: ∀b∈B,h b≠none) (mono: ∀c h1 h2,st c h1->h1.le h2->st c h2) (h0:st 0 h)
  (step: ∀c,c<2^(ak m.nodes 36+ak m.nodes 35)-> ∀h1 t,(h.wo B).le h1->st c h1->gD h1 t (cl m (c%2^ak m.nodes 36) (c/2^ak m.nodes 36))-> ∀R':Value->Hp->Prop,
   (∀h2,st (c+1) h2->(h1.wo B).le h2->R' (.tuple #[]) h2)->ACalls PR fid ((u++ #[I c,Sl.v t])++w) h1 R')
  (k: ∀h',(h.wo B).le h'->st (2^(ak m.nodes 36+ak m.nodes 35)) h'->R (.tuple #[]) h'):oE #[aQ M, .func (.func fid) u w] h R:=by
 apply BB
 refine uf_ ?_
 have hn8:=g.n8
 have hk5:=g.k5
 have hp13:=NM g
 have hs0:aO h M m:=hs.mono (wD _ _)
 refine aj fun b10 h1 hb10 l1 f10=>?_
 have x10:=eY f10
 repeat' (refine az ?_)
 refine fk (hs0.mono l1) hm ⟨_,rfl,rfl,fk (hs0.mono l1) hm ⟨_,rfl,?_⟩⟩
 repeat' (refine az ?_)
 refine mQ (hs0.mono l1) hm fun p1 h2 l2 n1 b1=>⟨p1,rfl,?_⟩
 have l2':=Hp.le_trans l2 (bz _ _)
 (((with_reducible apply lb);(assumption);(assumption)))
 refine mQ ((hs0.mono l1).mono l2') hm fun p2 h3 l3 n2 b2=>⟨p2,rfl,?_⟩
 have l3':=Hp.le_trans l3 (bz _ _)
 have l13:=Hp.le_trans l2' l3'
 have l03:=Hp.le_trans l1 l13
 rw [bU (n:=((ak m.nodes 36:Nat):Int)+((ak m.nodes 35:Nat):Int)) (by omega) (by omega),if_neg (by omega),<-Int.natCast_add,bK (by omega)]
 have hB1: ∀b∈B,h1 b≠none:=fun b hb=>by
  cases hx:h b with
  |none=>exact absurd hx (hB b hb)
  |some x=>rw [l1 _ _ hx];simp
 have hB2: ∀b∈B,h2 b≠none:=fun b hb=>by
  cases hx:h1 b with
  |none=>exact absurd hx (hB1 b hb)
  |some x=>rw [l2' _ _ hx];simp
 have b1w:Buf (h3.wo B) p1 1 ((VL (aH m.nodes 36)).map I):=(b1.wo l2 hB1).mono (sW (Hp.le_trans (wD _ _) l3') fun b hb=>fo hb)
 have b2w:Buf (h3.wo B) p2 1 ((VL (aH m.nodes 35)).map I):=b2.wo l3 hB2
 have hnl:=g.nl
 have i1:IntS (h3.wo B) p1 (VL (aH m.nodes 36)):=b1w.slc_of (by omega)
 have i2:IntS (h3.wo B) p2 (VL (aH m.nodes 35)):=b2w.slc_of (by omega)
 have hs3:aO (h3.wo B) M m:=hs.mono (sW (Hp.le_trans (wD _ _) l03) fun b hb=>fo hb)
 have f10w:(h3.wo B) b10=some (.inl ⟨aw M,5,false⟩):=by
  rw [sy (fun hb=>hB _ hb hb10)];exact l13 _ _ f10
 have hw:(h.wo B).le (h3.wo B):=sW (Hp.le_trans (wD _ _) l03) fun b hb=>fo hb
 refine av (2^(ak m.nodes 36+ak m.nodes 35)) (fun c vs h'=>vs= [.func (.func fid) u w, .pointer (some ⟨b10,0,none⟩),I (ak m.nodes 36),p1.v,p2.v,I (2^(ak m.nodes 36+ak m.nodes 35):Nat),I c]/\(h3.wo B).le h'/\st c h')
  ⟨rfl,wD _ _,mono _ _ _ h0 l03⟩ ?_
 clear f10 x10 b1 b2 l1 l2 l2' l3 l13 l3' hs hs0 h0
 rintro c _ h4 next hc ⟨rfl,l4,hst⟩ hnx
 refine⟨_,_,_,_,_,_,p1,p2,_,_,rfl,?_⟩
 by_cases hlt:c<2^(ak m.nodes 36+ak m.nodes 35)
 rotate_left
 ·have hce:c=2^(ak m.nodes 36+ak m.nodes 35):=by omega
  subst hce
  exact aE (by simp) (k h4 (Hp.le_trans hw l4) hst)
 refine aM (by rw [decide_eq_true_eq];exact_mod_cast hlt) ?_
 rw [if_neg (by omega)]
 have f104:=l4 _ _ f10w
 have x104:=eY f104
 repeat' (refine az ?_)
 refine dI (by omega) ⟨_,rfl,?_⟩
 repeat' (refine az ?_)
 rw [ia (by omega),pz,jw (by omega)]
 have h1':c%2^ak m.nodes 36<=c:=Nat.mod_le _ _
 have h2':c/2^ak m.nodes 36<=c:=Nat.div_le_self _ _
 refine tD (hs3.mono l4) hm g.ok (i1.mono l4) (cO g 36) (jb g 36) (by omega) fun o1 h5 l5 v1 c1=>⟨o1,rfl,?_⟩
 repeat' (((with_reducible apply lb);(assumption);(assumption)))
 have l45:=Hp.le_trans l4 l5
 refine tD (hs3.mono l45) hm g.ok (i2.mono l45) (cO g 35) (jb g 35) (by omega) fun o2 h6 l6 v2 c2=>⟨o2,rfl,?_⟩
 have l56:=Hp.le_trans l5 l6
 (((with_reducible apply lb);(assumption);(assumption)))
 have l46:=Hp.le_trans l4 l56
 refine zf (hs3.mono l46) hm g.ok g.nl (v1.mono l6) c1 (lO 36 _ g) v2 c2 (lO 35 _ g) fun t h7 l7 hn hpv=>⟨t,rfl,?_⟩
 have l47:=Hp.le_trans l56 l7
 refine step c hlt h7 t (Hp.le_trans hw (Hp.le_trans l4 l47)) (mono _ _ _ hst l47) hpv _ fun h8 hst8 l8=>⟨rfl,?_⟩
 rw [aC (by omega)]
 exact hnx hlt _ _ ⟨rfl,Hp.le_trans (sW (Hp.le_trans l4 l47) fun b hb=>fo hb) l8,hst8⟩
def dS (f:Nat->Bool) (c n:Nat):List Value:=(List.range n).map fun i=> .bool (decide (i<c)&&f i)
def kQ (f:Nat->Nat) (c n:Nat):List Value:=(List.range n).map fun i=>I ((if i<c then f i else 0:Nat):Int)
theorem yE (f:Nat->Bool) (c n:Nat):(dS f c n).length=n:=by simp [dS]
theorem O0 (f:Nat->Nat) (c n:Nat):(kQ f c n).length=n:=by simp [kQ]
theorem lC (f:Nat->Bool) (n:Nat):List.replicate n (.bool false)=dS f 0 n:=by
 apply List.ext_getElem
 ·simp [dS]
 ·intro i h1 h2;simp [dS]
theorem Eg (f:Nat->Nat) (n:Nat):List.replicate n (I 0)=kQ f 0 n:=by
 apply List.ext_getElem
 ·simp [kQ]
 ·intro i h1 h2;simp [kQ]
theorem xJ {f:Nat->Bool} {c n:Nat} (h:c<n):(dS f c n).set c (.bool (f c))=dS f (c+1) n:=by
 apply List.ext_getElem
 ·simp [dS]
 ·intro i h1 h2
  simp only [dS,List.getElem_set,List.getElem_map,List.getElem_range]
  by_cases e:c=i
  ·subst e;simp
  ·rw [if_neg e]
   have:decide (i<c)=decide (i<c+1):=by rw [Bool.eq_iff_iff,decide_eq_true_eq,decide_eq_true_eq];omega
   rw [this]
theorem Qx {f:Nat->Nat} {c n:Nat} (h:c<n):(kQ f c n).set c (I (f c:Nat))=kQ f (c+1) n:=by
 apply List.ext_getElem
 ·simp [kQ]
 ·intro i h1 h2
  simp only [kQ,List.getElem_set,List.getElem_map,List.getElem_range]
  by_cases e:c=i
  ·subst e;simp
  ·rw [if_neg e]
   by_cases h:i<c
   ·rw [if_pos h,if_pos (by omega)]
   ·rw [if_neg h,if_neg (by omega)]
theorem xr (f:Nat->Bool) (n:Nat):dS f n n=((List.range n).map f).map Value.bool:=by
 apply List.ext_getElem
 ·simp [dS]
 ·intro i h1 h2
  have hi:i<n:=by simpa [dS] using h1
  simp [dS,hi]
theorem QD (f:Nat->Nat) (n:Nat):kQ f n n=(VL ((List.range n).map f)).map I:=by
 apply List.ext_getElem
 ·simp [kQ,VL]
 ·intro i h1 h2
  have hi:i<n:=by simpa [kQ] using h1
  simp [kQ,VL,hi]
theorem gD.keep {h h':Hp} {s:Sl} {vs:List (List Nat)} {b z:Nat} {cs:List Value} {ro:Bool} (e:gD h s vs) (f:h b=some (.inl ⟨cs,z,ro⟩)) (hn:wK cs) (hsl: ∀(j:Nat) (t:Sl),cs[j]?≠some t.v) (kp: ∀c,c≠b->h' c=h c):gD h' s vs:=by
 refine⟨e.1,e.2.1,fun p hp=>?_⟩
 obtain⟨b',o,t,h1,h2,h3⟩:=e.2.2 p hp
 refine⟨b',o,t,h1,?_,h3.keepN f hn kp⟩
 have hne:b'≠b:=by
  rintro rfl
  rw [aq f]at h2
  exact hsl _ _ h2
 unfold Hp.cell at h2⊢
 rw [kp b' hne];exact h2
theorem Et (f:Nat->Bool) (c n:Nat):wK (dS f c n):=by
 intro j i h
 simp only [dS,List.getElem?_map,Option.map_eq_some_iff]at h
 obtain⟨a,_,h⟩:=h
 cases h
theorem HU (f:Nat->Bool) (c n:Nat): ∀(j:Nat) (t:Sl),(dS f c n)[j]?≠some t.v:=by
 intro j t h
 simp only [dS,List.getElem?_map,Option.map_eq_some_iff]at h
 obtain⟨a,_,h⟩:=h
 cases h
abbrev N2 (M:MSl) (n k:Int) (st hold bad:Sl) (fixed:Int) (next:Sl) (bf ba:Int):List Value:= [M.no.v,M.ini.v,M.nex.v,M.bad.v,M.hol.v,I n,I k,st.v,hold.v,bad.v,I fixed,next.v,I bf,I ba]
abbrev arr (b n:Nat):Sl:=⟨some ⟨b,0,none⟩,n,n⟩
def tR (m:ah) (bH bB bN c:Nat):List (Nat×Blk):=
 [(bH, .inl ⟨dS (aG m).hold c (2^(ak m.nodes 36+ak m.nodes 35)),2^(ak m.nodes 36+ak m.nodes 35),false⟩),
  (bB, .inl ⟨dS (aG m).bad c (2^(ak m.nodes 36+ak m.nodes 35)),2^(ak m.nodes 36+ak m.nodes 35),false⟩),
  (bN, .inl ⟨kQ (aG m).next c (2^(ak m.nodes 36+ak m.nodes 35)),2^(ak m.nodes 36+ak m.nodes 35),false⟩)]
theorem AW (m:ah) (v:List (List Nat)):decide (xQ m v>=0)=(qC m v).isSome:=by
 unfold xQ
 cases qC m v with
 |none=>rfl
 |some d=>simp
theorem BU {g h:Hp} {M:MSl} {m:ah} {st t:Sl} {b7 b103 bx bH bB bN c:Nat} {n k f0 f1 f2:Int} {z1 z2 z3:Nat} {R:Value->Hp->Prop} (hs:aO g M m) (hm:bW m) (gd:dj m)
  (f7:g b7=some (.inl ⟨aw M,z1,false⟩)) (f103:g b103=some (.inl ⟨[.pointer (some ⟨bx,0,none⟩)],z2,false⟩))
  (fx:g bx=some (.inl ⟨N2 M n k st (arr bH (2^(ak m.nodes 36+ak m.nodes 35))) (arr bB (2^(ak m.nodes 36+ak m.nodes 35))) f0 (arr bN (2^(ak m.nodes 36+ak m.nodes 35))) f1 f2,z3,false⟩))
  (hst:IntS g st (VL (stP m))) (hc:c<2^(ak m.nodes 36+ak m.nodes 35)) (K:Kn g h (tR m bH bB bN c))
  (hpv:gD h t (cl m (c%2^ak m.nodes 36) (c/2^ak m.nodes 36)))
  (kk: ∀h',Kn (h.wo [bH,bB,bN]) h' (tR m bH bB bN (c+1))->R (.tuple #[]) h'):
  rz #[I c,t.v, .pointer (some ⟨b7,0,none⟩), .pointer (some ⟨b103,0,none⟩)] h R:=by
 apply zp
 refine uf_ ?_
 have a:CA m (cl m (c%2^ak m.nodes 36) (c/2^ak m.nodes 36)):=eD gd _ _
 have hp13:=NM gd
 have hv1:(aG m).hold c=gZ m (cl m (c%2^ak m.nodes 36) (c/2^ak m.nodes 36)):=rfl
 have hv2:(aG m).bad c=(qC m (cl m (c%2^ak m.nodes 36) (c/2^ak m.nodes 36))).isSome:=rfl
 have hv3:(aG m).next c=dZ m.nodes (stP m) (eK m (cl m (c%2^ak m.nodes 36) (c/2^ak m.nodes 36))):=rfl
 generalize hv:cl m (c%2^ak m.nodes 36) (c/2^ak m.nodes 36)=v at*
 generalize hN:2^(ak m.nodes 36+ak m.nodes 35)=N at*
 have lg:g.le (h.wo [bH,bB,bN]):=K.leBase
 have K0:Kn (h.wo [bH,bB,bN]) h (tR m bH bB bN c):=K.base
 unfold tR at K0 kk
 rw [hN]at K0 kk
 clear K
 have hs':=hs.mono lg
 have f7':=lg _ _ f7
 have f103':=lg _ _ f103
 have fx':=lg _ _ fx
 have hst':=hst.mono lg
 have x7:=eY f7'
 have x103:=eY f103'
 have xx:=eY fx'
 generalize h.wo [bH,bB,bN]=g1 at*
 clear lg fx f103 f7 hst hs
 repeat' (refine kr_ ?_)
 refine Ge (hs'.mono K0.le) gd hpv a ⟨_,rfl,?_⟩
 repeat' (refine kr_ ?_)
 refine⟨by omega,by dsimp only;omega,?_⟩
 (((with_reducible apply Kn.wr);(assumption);((focus ((repeat first|exact .head|apply Upd.tail);done)))))
 ·rw [yE];omega
 intro h24 K1 kp1
 have hpv1:=hpv.keep (K0.at (.head _)) (Et _ _ _) (HU _ _ _) kp1
 rw [<-hv1,bG,Nat.zero_add,Int.toNat_natCast,Nat.mul_one,xJ hc]at K1
 repeat' (refine kr_ ?_)
 refine M4 (hs'.mono K1.le) gd hpv1 a ⟨_,rfl,?_⟩
 repeat' (refine kr_ ?_)
 refine⟨by omega,by dsimp only;omega,?_⟩
 (((with_reducible apply Kn.wr);(assumption);((focus ((repeat first|exact .head|apply Upd.tail);done)))))
 ·rw [yE];omega
 intro h42 K2 kp2
 have hpv2:=hpv1.keep (K1.at (.tail _ (.head _))) (Et _ _ _) (HU _ _ _) kp2
 rw [AW,<-hv2,bG,Nat.zero_add,Int.toNat_natCast,Nat.mul_one,xJ hc]at K2
 repeat' (refine kr_ ?_)
 refine DY (hs'.mono K2.le) hm gd hpv2 a fun out h63 l63 hout=>⟨out,rfl,?_⟩
 have K3:=K2.mono l63
 repeat' (refine kr_ ?_)
 refine CJ (hs'.mono K3.le) hm gd.ok (hst'.mono K3.le) (cO gd 36) (jb gd 36) hout (mZ gd a.fit) (by rw [fq gd];have:=gd.n8;omega) ⟨_,rfl,?_⟩
 repeat' (refine kr_ ?_)
 refine⟨by omega,by dsimp only;omega,?_⟩
 (((with_reducible apply Kn.wr);(assumption);((focus ((repeat first|exact .head|apply Upd.tail);done)))))
 ·rw [O0];omega
 intro h72 K4 kp4
 rw [<-hv3,bG,Nat.zero_add,Int.toNat_natCast,Nat.mul_one,Qx hc]at K4
 exact kk h72 K4
def Bi (h:Hp) (t:Sl) (n:Nat) (f:Nat->Nat):Prop:=IntS h t (VL ((List.range n).map f))
theorem Bi.mono {h h':Hp} {t:Sl} {n:Nat} {f:Nat->Nat} (l:h.le h') (e:Bi h t n f):Bi h' t n f:=SlC.mono l e
def oy (h:Hp) (b:Nat) (σ:aD):Prop:= ∃(M:MSl) (st hold bad next:Sl),h b=some (.inl ⟨N2 M σ.n σ.k st hold bad σ.fixed next σ.bfix σ.bas,14,false⟩)/\
 dc h hold (2^(σ.n+σ.k)) σ.hold/\dc h bad (2^(σ.n+σ.k)) σ.bad/\Bi h next (2^(σ.n+σ.k)) σ.next
theorem oy.mono {h h':Hp} {b:Nat} {σ:aD} (l:h.le h') (e:oy h b σ):oy h' b σ:=by
 obtain⟨M,st,hold,bad,next,h1,h2,h3,h4⟩:=e
 exact⟨M,st,hold,bad,next,l _ _ h1,h2.mono l,h3.mono l,h4.mono l⟩
theorem SA {g h:Hp} {L:List (Nat×Blk)} {M:MSl} {m:ah} {kind:Int} {R:Value->Hp->Prop} (K:Kn g h L) (hs:aO g M m) (hm:bW m) (gd:dj m)
  (k: ∀t h' g',Kn g' h' L->IntS g' t (VL (aH m.nodes kind))->g.le g'->h.le h'->R (Sl.v t) h'):bO #[aQ M,I kind] h R:=
 mQ (hs.mono K.le) hm fun t h' l hn hb=>by
  have l':=Hp.le_trans l (bz _ _)
  have K':=K.mono l'
  refine k t h' _ K'.base ?_ K'.leBase l'
  have:=gd.nl
  exact(hb.wo l K.has).slc_of (by omega)
def Dt (m:ah) (j p:Nat):List Nat:=((cf (m.inits.take j) p).map fun k=>nw (aK m.nodes p) ((pa m).getD k [])).getD (List.replicate (aK m.nodes p) 0)
theorem Vy (m:ah) (p:Nat):Dt m m.inits.length p=(ez m p).getD (List.replicate (aK m.nodes p) 0):=by
 unfold Dt ez;rw [List.take_length]
theorem TB {m:ah} (g:dj m) {j:Nat} {b:BindP} (hb:m.inits[j]?=some b) (p:Nat):Dt m (j+1) p=if b.state=(p:Int)then nw (aK m.nodes p) ((pa m).getD b.node.toNat [])else Dt m j p:=by
 unfold Dt
 rw [Gx (qO g.twice).2.1 hb]
 split<;>rfl
theorem R7 (m:ah) {i p:Nat} (h:(stP m)[i]?=some p):(iJ m).getD i []=Dt m m.inits.length p:=by
 rw [Vy]
 unfold iJ kJ
 rw [List.getD_eq_getElem?_getD,List.getElem?_map,h];rfl
theorem uH {m:ah} (g:dj m) {b:BindP} (hb:b∈m.inits):0<=b.node/\b.node<m.nodes.length/\0<((pa m).getD b.node.toNat []).length/\((pa m).getD b.node.toNat []).length<=4/\0<=b.state/\b.state<m.nodes.length:=by
 obtain⟨q1,q2,q3,q4,_⟩:=pE (g.ini b hb)
 have q2':=fC.1 q2
 have q1':=fC.1 q1
 have hf:=(xY g).fit b.node.toNat (by omega) (by omega)
 have:=(uK g.ok (show b.node.toNat<m.nodes.length by omega) hf).1
 refine⟨q2'.1,q2'.2,hf.pos,?_,q1'.1,q1'.2⟩
 rw [this];exact dm _ _
set_option maxHeartbeats 4000000 in
theorem fj {h:Hp} {M:MSl} {m:ah} {R:Value->Hp->Prop} (hs:aO h M m) (hm:bW m)
  (k0: ∀h',h.le h'->ax m≠0->R (.tuple #[.pointer none, .bool false]) h')
  (k1:ax m=0->dj m-> ∀b h',h.le h'->oy h' b (aG m)->R (.tuple #[.pointer (some ⟨b,0,none⟩), .bool true]) h'):dn #[aQ M] h R:=by
 apply Di
 refine uf_ ?_
 have K0:=Kn.nil h
 (with_reducible apply Kn.al);(assumption);(intro b7 h1 K1 l1 hb7)
 repeat' (refine kr_ ?_)
 refine mb (hs.mono l1) hm ⟨_,rfl,ac (fun e=>k0 h1 l1 (ig e)) (fun e=>?_)⟩
 have hcode:=fW e
 have gd:=cr hcode
 replace k1:=k1 hcode gd
 clear k0 e hcode l1 hb7 K0
 have hn8:=gd.n8
 have hk5:=gd.k5
 have hp13:=NM gd
 have hp13':=bJ (ak m.nodes 36+ak m.nodes 35)
 refine ap (fun J=> ∀(bp bx:Nat) (h' g':Hp) (t:Sl) (L0:List (Nat×Blk)),Kn g' h' L0->(bp, .inl ⟨[.pointer (some ⟨bx,0,none⟩)],1,false⟩)∈L0->
  (bx, .inl ⟨N2 M (ak m.nodes 36) (ak m.nodes 35) t ⟨none,0,0⟩ ⟨none,0,0⟩ 0 ⟨none,0,0⟩ 0 0,14,false⟩)∈L0->(b7, .inl ⟨aw M,5,false⟩)∈L0->h.le g'->IntS g' t (VL (stP m))->J bp 0 h') ?_ (fun J hJ=>?_)
 rotate_left
 ·repeat' (first
   |(refine kr_ ?_)
   |(refine fk (hs.mono (Kn.le (by assumption))) hm ⟨_,rfl,?_⟩)
   |(refine SA (by assumption) hs hm gd fun _ _ _ _ _ _ _=>⟨_,rfl,?_⟩)
   |((with_reducible apply Kn.al);(assumption);(intro _ _ _ _ _))
   |((((with_reducible apply Kn.wr);(assumption);((focus ((repeat first|exact .head|apply Upd.tail);done)))));(exact Nat.le_refl _);(intro _ _ _))
   |((with_reducible apply hJ)<;>first|assumption|((focus ((repeat first|exact .head _|apply List.Mem.tail);done))))
   |(refine And.intro ?_ ?_))
 intro bp bx h2 g2 st L0 K2' mp mx m7 l2 hst
 have K2:Kn g2 h2 [(bp, .inl ⟨[.pointer (some ⟨bx,0,none⟩)],1,false⟩),(bx, .inl ⟨N2 M (ak m.nodes 36) (ak m.nodes 35) st ⟨none,0,0⟩ ⟨none,0,0⟩ 0 ⟨none,0,0⟩ 0 0,14,false⟩),(b7, .inl ⟨aw M,5,false⟩)]:=by
  refine K2'.sub (fun e he=>?_) ?_
  ·simp only [List.mem_cons,List.not_mem_nil,or_false]at he
   rcases he with rfl|rfl|rfl<;>assumption
  ·have n1:=dR (K2'.at mp) (K2'.at mx) (by simp)
   have n2:=dR (K2'.at mp) (K2'.at m7) (by simp)
   have n3:=dR (K2'.at mx) (K2'.at m7) (by simp)
   simp [n1,n2,n3]
 clear K2' mp mx m7 L0 K1
 have hs2:=hs.mono l2
 repeat' (refine kr_ ?_)
 rw [bU (n:=((ak m.nodes 36:Nat):Int)+((ak m.nodes 35:Nat):Int)) (by omega) (by omega),if_neg (by omega),<-Int.natCast_add,bK (by omega)]
 generalize hN:2^(ak m.nodes 36+ak m.nodes 35)=N at*
 have tN:Int.toNat (N:Int)=N:=Int.toNat_natCast N
 have nN:N*1=N:=Nat.mul_one N
 have zB:aR #[.bool false] N=dS (aG m).hold 0 N:=by rw [cn,lC]
 have zI:aR #[I 0] N=kQ (aG m).next 0 N:=by rw [cn,Eg]
 simp only [tN,nN,zB,zI]
 clear tN nN zB zI
 refine ap (fun J=> ∀(bH bB bN:Nat) (h':Hp) (L0:List (Nat×Blk)),Kn g2 h' L0->(bp, .inl ⟨[.pointer (some ⟨bx,0,none⟩)],1,false⟩)∈L0->
  (bx, .inl ⟨N2 M (ak m.nodes 36) (ak m.nodes 35) st (arr bH N) (arr bB N) 0 (arr bN N) 0 0,14,false⟩)∈L0->(b7, .inl ⟨aw M,5,false⟩)∈L0->
  (bH, .inl ⟨dS (aG m).hold 0 N,N,false⟩)∈L0->(bB, .inl ⟨dS (aG m).hold 0 N,N,false⟩)∈L0->(bN, .inl ⟨kQ (aG m).next 0 N,N,false⟩)∈L0->(bH≠bB/\bH≠bN/\bB≠bN)->J h') ?_ (fun J hJ=>?_)
 rotate_left
 ·repeat' (first
   |(refine kr_ ?_)
   |((with_reducible apply Kn.al);(assumption);(intro _ _ _ _ _))
   |(refine And.intro (by omega) ?_)
   |((((with_reducible apply Kn.wr);(assumption);((focus ((repeat first|exact .head|apply Upd.tail);done)))));(exact of_decide_eq_true rfl);(intro _ _ _))
   |((with_reducible apply hJ)<;>first|assumption|((focus ((repeat first|exact .head _|apply List.Mem.tail);done)))|((have hnd:=Kn.nd (by assumption);simp only [List.map_cons,List.map_nil,List.nodup_cons,List.mem_cons,List.not_mem_nil,not_or,or_false,not_false_eq_true,and_true,List.nodup_nil]at hnd;omega)))
   |(refine And.intro ?_ ?_))
 intro bH bB bN h3 L0 K3' mp mx m7 mH mB mN hne
 have e0:dS (aG m).hold 0 N=dS (aG m).bad 0 N:=by rw [<-lC,<-lC]
 rw [e0]at mB
 have n1:=dR (K3'.at mp) (K3'.at mx) (by simp)
 have n2:=dR (K3'.at mp) (K3'.at m7) (by simp)
 have n3:=dR (K3'.at mx) (K3'.at m7) (by simp)
 have hb1: ∀b∈ [bH,bB,bN],g2 b=none:=by
  intro b hb
  simp only [List.mem_cons,List.not_mem_nil,or_false]at hb
  rcases hb with rfl|rfl|rfl
  ·exact K3'.new _ mH
  ·exact K3'.new _ mB
  ·exact K3'.new _ mN
 have h0b:(dS (aG m).hold 0 N)[0]?=some (.bool false):=by rw [<-lC,List.getElem?_replicate,if_pos hp13']
 have h0b2:(dS (aG m).bad 0 N)[0]?=some (.bool false):=by rw [<-lC,List.getElem?_replicate,if_pos hp13']
 have h0n:(kQ (aG m).next 0 N)[0]?=some (I 0):=by rw [<-Eg,List.getElem?_replicate,if_pos hp13']
 have dif: ∀{b c:Nat} {cs ds:List Value} {z y:Nat} {v w:Value},(b, .inl ⟨cs,z,false⟩)∈L0->(c, .inl ⟨ds,y,false⟩)∈L0->cs[0]?=some v->ds[0]?=some w->v≠w->b≠c:=by
  intro b c cs ds z y v w hb hc e1 e2 hvw hbc
  subst hbc
  have:=(K3'.at hb).symm.trans (K3'.at hc)
  simp only [Option.some.injEq,Sum.inl.injEq,Row.mk.injEq]at this
  rw [this.1,e2]at e1
  exact hvw (Option.some.inj e1).symm
 have K3:Kn g2 h3 (tR m bH bB bN 0++ [(bp, .inl ⟨[.pointer (some ⟨bx,0,none⟩)],1,false⟩),(bx, .inl ⟨N2 M (ak m.nodes 36) (ak m.nodes 35) st (arr bH N) (arr bB N) 0 (arr bN N) 0 0,14,false⟩),(b7, .inl ⟨aw M,5,false⟩)]):=by
  refine K3'.sub (fun e he=>?_) ?_
  ·simp only [tR,hN,List.mem_append,List.mem_cons,List.not_mem_nil,or_false]at he
   rcases he with (rfl|rfl|rfl)|rfl|rfl|rfl<;>assumption
  ·have a1:=dif mH mp h0b rfl (by simp)
   have a2:=dif mH mx h0b rfl (by simp)
   have a3:=dif mH m7 h0b rfl (by simp)
   have a4:=dif mB mp h0b2 rfl (by simp)
   have a5:=dif mB mx h0b2 rfl (by simp)
   have a6:=dif mB m7 h0b2 rfl (by simp)
   have a7:=dif mN mp h0n rfl (by simp)
   have a8:=dif mN mx h0n rfl (by simp)
   have a9:=dif mN m7 h0n rfl (by simp)
   simp [tR,hne.1,hne.2.1,hne.2.2,n1,n2,n3,a1,a2,a3,a4,a5,a6,a7,a8,a9]
 clear dif h0b h0b2 h0n e0 n1 n2 n3 mp mx m7 mH mB mN K3' L0 K2
 have Kf:Kn g2 h3 (tR m bH bB bN 0):=K3.sub (fun e he=>List.mem_append_left _ he) (by simp [tR,hne.1,hne.2.1,hne.2.2])
 have nB: ∀b∈ [bp,bx,b7],b∉ [bH,bB,bN]:=by
  have hnd:=K3.nd
  simp only [tR,List.cons_append,List.nil_append,List.map_cons,List.map_nil,List.nodup_cons,List.mem_cons,List.not_mem_nil,not_or,or_false,not_false_eq_true,and_true,List.nodup_nil]at hnd
  intro b hb hb2
  simp only [List.mem_cons,List.not_mem_nil,or_false]at hb hb2
  omega
 have f7:(h3.wo [bH,bB,bN]) b7=some (.inl ⟨aw M,5,false⟩):=by
  rw [sy (nB _ (by simp))];exact K3.at (by simp)
 have fp:(h3.wo [bH,bB,bN]) bp=some (.inl ⟨[.pointer (some ⟨bx,0,none⟩)],1,false⟩):=by
  rw [sy (nB _ (by simp))];exact K3.at (by simp)
 have fx:(h3.wo [bH,bB,bN]) bx=some (.inl ⟨N2 M (ak m.nodes 36) (ak m.nodes 35) st (arr bH N) (arr bB N) 0 (arr bN N) 0 0,14,false⟩):=by
  rw [sy (nB _ (by simp))];exact K3.at (by simp)
 have lB:g2.le (h3.wo [bH,bB,bN]):=Kf.leBase
 have hsB:=hs2.mono lB
 have hstB:=hst.mono lB
 have Kr:=Kn.of (wD h3 [bH,bB,bN])
 repeat' (refine kr_ ?_)
 subst hN
 refine RT (B:= [bH,bB,bN]) (st:=fun c h'=>Kn (h3.wo [bH,bB,bN]) h' (tR m bH bB bN c)) hsB hm gd Kf.has (fun c h1 h2 K l=>K.mono l) Kf.base (fun c hc h4 t l4 K hpv R' hR'=>?_) (fun h4 l4 K4=>⟨rfl,?_⟩)
 ·exact BU hsB hm gd f7 fp fx hstB hc K hpv fun h5 K5=>hR' h5 ⟨Hp.le_trans K.leBase K5.le,K5.mem,fun e he=>by
   have:=K5.nd
   exact aF K.leBase (K5.new e he),K5.nd⟩ K5.le
 have K5:Kn g2 h4 (tR m bH bB bN (2^(ak m.nodes 36+ak m.nodes 35))++ [(bp, .inl ⟨[.pointer (some ⟨bx,0,none⟩)],1,false⟩),(bx, .inl ⟨N2 M (ak m.nodes 36) (ak m.nodes 35) st (arr bH (2^(ak m.nodes 36+ak m.nodes 35))) (arr bB (2^(ak m.nodes 36+ak m.nodes 35))) 0 (arr bN (2^(ak m.nodes 36+ak m.nodes 35))) 0 0,14,false⟩),(b7, .inl ⟨aw M,5,false⟩)]):=by
  refine⟨Hp.le_trans lB l4,fun e he=>?_,fun e he=>?_,K3.nd⟩
  ·rcases List.mem_append.1 he with he|he
   ·exact K4.mem e he
   ·simp only [List.mem_cons,List.not_mem_nil,or_false]at he
    rcases he with rfl|rfl|rfl
    ·exact l4 _ _ fp
    ·exact l4 _ _ fx
    ·exact l4 _ _ f7
  ·rcases List.mem_append.1 he with he|he
   ·have hm:e.1∈ [bH,bB,bN]:=by
     simp only [tR,List.mem_cons,List.not_mem_nil,or_false]at he
     rcases he with rfl|rfl|rfl<;>simp
    exact hb1 _ hm
   ·exact K3.new e (List.mem_append_right _ he)
 unfold tR at K5
 simp only [List.cons_append,List.nil_append]at K5
 clear K4 Kr hstB hsB lB fx fp f7 nB Kf K3 l4 h3
 have hil:=gd.il
 have hxl:=gd.xl
 have hin:=hs2.inits.len
 have hp36:(stP m).length<=m.nodes.length:=fz m.nodes 36
 have hnl:=gd.nl
 have hstn:st.n=(stP m).length:=by have:=hst.len;rw [aY]at this;exact this
 repeat' (refine kr_ ?_)
 refine yu (hs2.mono K5.le) hm gd (hs2.mono K5.le).nexts (by omega) ⟨_,rfl,?_⟩
 repeat' (refine kr_ ?_)
 refine kw_ ?_
 intro h5 K6 _
 clear K5
 repeat' (refine kr_ ?_)
 refine Ck (hs2.mono K6.le) hm gd fun vt h6 l6 hvn hpv=>⟨vt,rfl,?_⟩
 have K7:=K6.mono l6
 clear K6 l6
 have hs6:=hs2.mono K7.le
 have hst6:=hst.mono K7.le
 have f7:h6 b7=some (.inl ⟨aw M,5,false⟩):=K7.at (by simp)
 have fp:h6 bp=some (.inl ⟨[.pointer (some ⟨bx,0,none⟩)],1,false⟩):=K7.at (by simp)
 repeat' (refine kr_ ?_)
 refine sq hs6 hm hst6 (cO gd 36) (jb gd 36) fun out ts h7 c1 hon=>⟨out,rfl,?_⟩
 have Kr:=Kn.of (Hp.le_trans c1.le (bz _ _))
 repeat' (refine kr_ ?_)
 have aV:=xY gd
 refine av m.inits.length (fun j vs h'=> ∃ts:List Sl,vs= [.pointer (some ⟨b7,0,none⟩), .pointer (some ⟨bp,0,none⟩),vt.v,out.v,M.ini.v,I M.ini.n,I j]/\h6.le (h'.offS out)/\Buf h' out 1 (ts.map Sl.v)/\ts.length=(stP m).length/\
  ∀(i p:Nat) (t:Sl),(stP m)[i]?=some p->ts[i]?=some t->IntS (h'.offS out) t (VL (Dt m j p))) ⟨ts,rfl,c1.le,c1.buf,by rw [c1.len,m8],fun i p t hp ht=>?_⟩ ?_
 ·obtain⟨b,e1,e2,e3⟩:=c1.row i t ht
  have hz:(cX m.nodes (stP m)).getD i []=Dt m 0 p:=by
   unfold cX Dt
   rw [List.getD_eq_getElem?_getD,List.getElem?_map,hp];rfl
  have hz4:((cX m.nodes (stP m)).getD i []).length<=4:=by
   unfold cX
   rw [List.getD_eq_getElem?_getD,List.getElem?_map,hp]
   simp only [Option.map_some,Option.getD_some,List.length_replicate]
   exact dm _ _
  rw [hz]at e1 e3 hz4
  rw [e1]
  exact⟨by dsimp only;omega,by simp [aY], .inr ⟨b,0,rfl,ay e3⟩⟩
 clear c1 Kr ts h7
 rintro j _ h8 next hj ⟨ts,rfl,l8,hbuf,htl,hts⟩ hnx
 have lo:=bz h8 out
 have l68:=Hp.le_trans l8 lo
 refine⟨_,_,_,_,vt,out,M.ini,_,_,rfl,?_⟩
 by_cases hlt:j<m.inits.length
 rotate_left
 ·have hje:j=m.inits.length:=by omega
  subst hje
  refine aE (by simp;omega) ?_
  have K9:=K7.mono l68
  have hbl:(iJ m).length=(stP m).length:=by unfold iJ kJ;rw [List.length_map]
  have iss:IntSS h8 out ((iJ m).map VL):=⟨ts,by rw [List.length_map,hbl];exact htl,hbuf.slc_of (by rw [hon];have:=jb gd 36;omega),fun i h1 h2=>by
   have hi:i<(stP m).length:=by omega
   have hpi:(stP m)[i]?=some (stP m)[i]:=List.getElem?_eq_getElem hi
   have:=(hts i _ _ hpi (List.getElem?_eq_getElem h1)).mono lo
   rw [<-R7 m hpi]at this
   rw [List.getElem_map]
   rwa [List.getD_eq_getElem?_getD,List.getElem?_eq_getElem (by rw [hbl];exact hi)]at this⟩
  have hs8:=hs6.mono l68
  clear hbuf hts
  repeat' (refine kr_ ?_)
  refine yu hs8 hm gd hs8.inits (by omega) ⟨_,rfl,?_⟩
  repeat' (refine kr_ ?_)
  refine CJ hs8 hm gd.ok (hst6.mono l68) (cO gd 36) (jb gd 36) iss (uU gd) (by rw [fq gd];omega) ⟨_,rfl,?_⟩
  repeat' (refine kr_ ?_)
  refine kw_ ?_
  intro h9 K10 _
  repeat' (refine kr_ ?_)
  refine kw_ ?_
  intro h10 K11 _
  repeat' (refine kr_ ?_)
  refine k1 bx h10 (Hp.le_trans l2 K11.le) ⟨M,st,arr bH (2^(ak m.nodes 36+ak m.nodes 35)),arr bB (2^(ak m.nodes 36+ak m.nodes 35)),arr bN (2^(ak m.nodes 36+ak m.nodes 35)),K11.at (by((focus ((repeat first|exact .head _|apply List.Mem.tail);done)))),?_,?_,?_⟩
  ·refine⟨by dsimp only;omega,by simp [aG], .inr ⟨bH,0,rfl,?_⟩⟩
   have:=ay (K11.at (.head _))
   rwa [xr]at this
  ·refine⟨by dsimp only;omega,by simp [aG], .inr ⟨bB,0,rfl,?_⟩⟩
   have:=ay (K11.at (.tail _ (.head _)))
   rwa [xr]at this
  ·refine⟨by dsimp only;omega,by simp [aG,VL], .inr ⟨bN,0,rfl,?_⟩⟩
   have:=ay (K11.at (.tail _ (.tail _ (.head _))))
   rwa [QD]at this
 refine aM (by simp;omega) ?_
 obtain⟨bd,hbd⟩: ∃bd,m.inits[j]?=some bd:=⟨_,List.getElem?_eq_getElem hlt⟩
 obtain⟨v1,v2,v3,v4,s1,s2⟩:=uH gd (List.mem_of_getElem? hbd)
 obtain⟨bi,oi,hai,cx1,cx2⟩:=(hs6.mono l68).inits.at hbd
 refine⟨bi,oi,hai,by omega,by omega,_,cx1,_,cx2,?_⟩
 refine aj fun b48 h9 hb48 l9 f48'=>?_
 (with_reducible apply bZ);(exact f48');(exact l9);(exact hb48);(exact Nat.le_refl 2)
 intro h10 f48 kp l10
 have l10o:=bP out l10
 have f48o:=hbuf.offS_new hb48 f48
 clear f48' kp l9
 have Kr:=Kn.of (Hp.le_trans l68 l10)
 have fx6:=K7.at (b:=bx) (.tail _ (.tail _ (.tail _ (.tail _ (.head _)))))
 repeat' (refine kr_ ?_)
 refine av (stP m).length (fun q vs h'=> ∃ts:List Sl,vs= [.pointer (some ⟨b7,0,none⟩), .pointer (some ⟨bp,0,none⟩),vt.v,out.v, .pointer (some ⟨b48,0,none⟩),M.ini.v,I M.ini.n,I j,st.v,I st.n,I q]/\h6.le (h'.offS out)/\(h'.offS out) b48=some (.inl ⟨[I bd.state,I bd.node],2,false⟩)/\Buf h' out 1 (ts.map Sl.v)/\ts.length=(stP m).length/\
  ∀(i p:Nat) (t:Sl),(stP m)[i]?=some p->ts[i]?=some t->IntS (h'.offS out) t (VL (if i<q then Dt m (j+1) p else Dt m j p)))
  ⟨ts,rfl,Hp.le_trans l8 l10o,f48o,hbuf.mono l10,htl,fun i p t hp ht=>by rw [if_neg (by omega)];exact(hts i p t hp ht).mono l10o⟩ ?_
 clear Kr f48o l10o l10 f48 hb48 hbuf htl hts ts l68 lo l8 hai cx1 cx2 h9 h8 h10
 rintro q _ h8 next2 hq ⟨ts,rfl,l8,f48,hbuf,htl,hts⟩ hnx2
 have lo:=bz h8 out
 have l68:=Hp.le_trans l8 lo
 have g48:=lo _ _ f48
 refine⟨_,_,_,_,vt,out,_,_,_,_,_,st,_,_,rfl,?_⟩
 by_cases hlq:q<(stP m).length
 rotate_left
 ·refine aE (by simp;omega) ?_
  rw [aC (by omega)]
  refine hnx hlt _ _ ⟨ts,rfl,l8,hbuf,htl,fun i p t hp ht=>?_⟩
  have:=hts i p t hp ht
  rwa [if_pos (by have:=get_lt hp;omega)]at this
 refine aM (by simp;omega) ?_
 obtain⟨p,hpq⟩: ∃p,(stP m)[q]?=some p:=⟨_,List.getElem?_eq_getElem hlq⟩
 have hpm:=cO gd 36 p (List.mem_of_getElem? hpq)
 obtain⟨bq,oq,hap,hcp⟩:=(hst6.mono l68).get (gU hpq)
 refine ap (fun J=> ∀(ts':List Sl) (h':Hp),h6.le (h'.offS out)->(h'.offS out) b48=some (.inl ⟨[I bd.state,I bd.node],2,false⟩)->Buf h' out 1 (ts'.map Sl.v)->ts'.length=(stP m).length->
  (∀(i p:Nat) (t:Sl),(stP m)[i]?=some p->ts'[i]?=some t->IntS (h'.offS out) t (VL (if i<q+1 then Dt m (j+1) p else Dt m j p)))->J h') ?_ (fun J hJ=>?_)
 ·intro ts' h' a1 a2 a3 a4 a5
  rw [aC (by omega)]
  exact hnx2 hlq _ _ ⟨ts',rfl,a1,a2,a3,a4,a5⟩
 refine⟨bq,oq,hap,by omega,by omega,_,hcp,?_⟩
 (refine az ?_)
 have hst':=TB gd hbd p
 refine ac (fun e=>?_) (fun e=>?_)
 ·rw [if_pos (bV e).symm]at hst'
  have f78:=l68 _ _ f7
  (refine az ?_)
  obtain⟨bn,on,han,hpn',c6,c7,w1,w16⟩:=(hs6.mono l68).nodes.sortc2 hpm gd.ok
  refine⟨bn,on,han,by omega,hpn',_,c6,_,c7,?_⟩
  (refine az ?_)
  obtain⟨bv,ov,t,hav,hvn',hcv,ht⟩:=(hpv.mono l68).at v1 (by rw [aV.len];exact v2)
  refine⟨bv,ov,hav,v1,hvn',t,hcv,?_⟩
  refine yB ht v3 v4 fun t2 h9 l9 ht2=>⟨t2,rfl,?_⟩
  rw [qN gd.ok hpm]at ht2
  have l9o:=bP out l9
  have hbuf9:=hbuf.mono l9
  refine hbuf9.wr (x:=t2) (by omega) fun h10 hbuf' ho=>?_
  refine hJ _ h10 (by rw [ho];exact Hp.le_trans l8 l9o) (by rw [ho];exact l9o _ _ f48) hbuf' (by rw [List.length_set];exact htl) fun i p' u hp' hu=>?_
  rw [ho]
  by_cases hiq:i=q
  ·subst hiq
   rw [hpq]at hp';cases hp'
   rw [List.getElem?_set_self (by omega)]at hu
   obtain rfl:=Option.some.inj hu
   rw [if_pos (by omega),hst']
   exact ht2.offL hbuf9
  ·rw [List.getElem?_set_ne (fun e=>hiq e.symm)]at hu
   have:=(hts i p' u hp' hu).mono l9o
   by_cases h1:i<q
   ·rw [if_pos h1]at this;rw [if_pos (by omega)];exact this
   ·rw [if_neg h1]at this;rw [if_neg (by omega)];exact this
 ·rw [if_neg (fun e'=>bk e e'.symm)]at hst'
  refine hJ ts h8 l8 f48 hbuf htl fun i p' u hp' hu=>?_
  have:=hts i p' u hp' hu
  by_cases hiq:i=q
  ·subst hiq
   rw [hpq]at hp';cases hp'
   rw [if_neg (by omega)]at this
   rw [if_pos (by omega),hst'];exact this
  ·by_cases h1:i<q
   ·rw [if_pos h1]at this;rw [if_pos (by omega)];exact this
   ·rw [if_neg h1]at this;rw [if_neg (by omega)];exact this
theorem gJ {h h1 h2 h3:Hp} {b:Nat} {x:Blk} (l:h.le h1) (hb:h1 b=some x) (kp: ∀c,c≠b->h3 c=h2 c):(h2.sub h1).le (h3.sub h):=by
 intro c y e
 have hc:c≠b:=by rintro rfl;rw [mC hb]at e;cases e
 have h1c:h1 c=none:=by
  cases hx:h1 c with
  |none=>rfl
  |some z=>rw [mC hx]at e;cases e
 rw [lR (aF l h1c),kp c hc]
 rw [lR h1c]at e
 exact e
theorem dc.get {h:Hp} {t:Sl} {n:Nat} {T:Nat->Bool} (e:dc h t n T) {i:Nat} (hi:i<n): ∃b o,t.a=some (Addr.mk b o none)/\(i:Int)<(t.n:Int)/\Hp.cell h b (o+Int.toNat (i:Int)*1)=some (.bool (T i)):=by
 have hl:=rD.len e
 rw [List.length_map,List.length_range]at hl
 obtain⟨b,o,ha,hc⟩:=SlC.get e (by omega)
 refine⟨b,o,ha,by omega,?_⟩
 rw [Int.toNat_natCast,Nat.mul_one]
 exact hc i _ (by simp [hi])
theorem dc.len {h:Hp} {t:Sl} {n:Nat} {T:Nat->Bool} (e:dc h t n T):t.n=n:=by
 have hl:=rD.len e
 rwa [List.length_map,List.length_range]at hl
theorem Bi.get {h:Hp} {t:Sl} {n:Nat} {f:Nat->Nat} (e:Bi h t n f) {i:Nat} (hi:i<n): ∃b o,t.a=some (Addr.mk b o none)/\(i:Int)<(t.n:Int)/\Hp.cell h b (o+Int.toNat (i:Int)*1)=some (I (f i:Nat)):=by
 have hl:=IntS.len e
 rw [aY,List.length_map,List.length_range]at hl
 obtain⟨b,o,ha,hc⟩:=SlC.get e (by omega)
 refine⟨b,o,ha,by omega,?_⟩
 rw [Int.toNat_natCast,Nat.mul_one]
 exact hc i _ (by simp [VL,hi])
def w9 (B:Bd) (s:Sl):Value:= .tuple #[.agg #[I B.v,s.v,I B.r], .bool B.ok]
theorem uu {h:Hp} {t:Sl} {n:Nat} {f:Nat->Bool} {R:Value->Hp->Prop} (hn:n<=13) (ht:AN h t n f)
  (k: ∀s h',h.le h'->Own (h'.sub h) s 3 (bD (cQ n f).ns)->R (w9 (cQ n f) s) h'):eX #[t.v] h R:=by
 have e:cQ (n:Int) f=match pu n f with|none=>js|some r=>⟨n,r.2,r.1,true⟩:=by
  unfold cQ;rw [if_pos (by omega),Int.toNat_natCast];cases pu n f<;>rfl
 refine LA hn ht (fun h0=>?_) (fun r hr s h' l o=>?_)
 ·have:=k ⟨none,0,0⟩ h (Hp.le_refl _)
  rw [e,h0]at this
  exact this (mO _ _)
 ·have:=k s h' l
  rw [e,hr]at this
  exact this o
theorem Hy {h:Hp} {b:Nat} {σ:aD} {fid:FuncId} {u w:Array Value} {f:Nat->Bool} {R:Value->Hp->Prop} (hs:oy h b σ) (ok:σ.Ok) (hf:Fp h fid u w (2^σ.n) f)
  (k: ∀s h',h.le h'->Own (h'.sub h) s 3 (bD (cQ σ.n f).ns)->R (w9 (cQ σ.n f) s) h'):jh #[.pointer (some ⟨b,0,none⟩), .func (.func fid) u w] h R:=by
 apply Cf
 refine uf_ ?_
 have h8:=ok.nle
 obtain⟨M,st,hold,bad,next,fx,_,_,_⟩:=hs
 refine aj fun b6 h1 hb6 l1 f6=>?_
 refine dF ?_
 replace fx:=l1 _ _ fx
 (refine az ?_)
 refine ug (by omega) (fun i hi h' l R k=>hf i hi h' (Hp.le_trans l1 l) R k) fun t h2 l2 ht=>⟨t,rfl,?_⟩
 refine uu (by omega) (ht.mono (sub_le _ _)) fun s h3 l3 o3=>⟨_,_,_,_,rfl,?_⟩
 have l12:=Hp.le_trans l2 l3
 have f62:=l2 _ _ f6
 (with_reducible apply bZ);(exact l3 _ _ f62);(exact Hp.le_trans l1 l12);(exact hb6);(exact Nat.le_refl 3)
 intro h4 f4 kp l4
 refine⟨_,by rw [aq f4];rfl,_,by rw [aq f4];rfl,_,by rw [aq f4];rfl,?_⟩
 exact k s h4 l4 (o3.mono (gJ (Hp.le_trans l1 l2) f62 kp))
theorem yA {h:Hp} {b s:Nat} {σ:aD} {R:Value->Hp->Prop} (hs:oy h b σ) (ok:σ.Ok) (hlt:s<2^σ.n) (k:R (.bool (σ.begins s)) h):kP #[.pointer (some ⟨b,0,none⟩),I s] h R:=by
 apply yd
 refine uf_ ?_
 obtain⟨M,st,hold,bad,next,fx,_,_,_⟩:=hs
 have h8:=Nat.pow_le_pow_right (n:=2) (by omega) ok.nle
 have h82:(2:Nat)^8=256:=rfl
 have hb:=ok.bfix
 have ha:=ok.bas
 refine dF (dF ?_)
 repeat' (refine az ?_)
 rw [sP (by omega) (by omega)]
 refine dq ?_ k
 unfold aD.begins
 rw [Bool.eq_iff_iff,decide_eq_true_eq,beq_iff_eq];omega
theorem IntS.up {h h':Hp} {s:Sl} {xs:List Int} (e:IntS h s xs) (l:h.le h'):IntS h' s xs:=e.mono l
theorem IntSS.up {h h':Hp} {s:Sl} {xs:List (List Int)} (e:IntSS h s xs) (l:h.le h'):IntSS h' s xs:=e.mono l
theorem aO.up {h h':Hp} {M:MSl} {m:ah} (e:aO h M m) (l:h.le h'):aO h' M m:=e.mono l
theorem kpU {h0 h h':Hp} {b:Nat} {x:Blk} {P:Prop} (f:h0 b=some x) (l1:h0.le h') (l2:h0.le h) (k:P):h' b=h b/\P:=⟨by rw [l1 _ _ f,l2 _ _ f],k⟩
theorem kpN {h0 h h':Hp} {b:Nat} {P:Prop} (f:h0 b≠none) (l1:h0.le h') (l2:h0.le h) (k:P):h' b=h b/\P:=by
 refine⟨?_,k⟩
 cases hb:h0 b with
 |none=>exact absurd hb f
 |some x=>rw [l1 _ _ hb,l2 _ _ hb]
theorem rdU {α:Type} {f:α->Value} {h0 h:Hp} {b z o:Nat} {cs:List Value} {ro:Bool} {x:α} {P:α->Prop} (e:h0 b=some (.inl ⟨cs,z,ro⟩)) (l:h0.le h) (c:cs[o]?=some (f x)) (k:P x): ∃y:α,Hp.cell h b o=some (f y)/\P y:=⟨x,by rw [aq (l _ _ e)];exact c,k⟩
theorem ku_ {P Q:Prop} (k:Q) (h:Q->P:=by(first
 |((with_reducible apply rdU);(assumption);((focus ((repeat (first|exact Hp.le_refl _|assumption|(refine Hp.le_trans ?_ (by assumption))));done)));(exact rfl))
 |with_reducible exact And.intro (Eq.refl _)
 |with_reducible exact And.intro True.intro
 |with_reducible exact dF
 |((with_reducible apply kpU);(assumption);((focus ((repeat (first|exact Hp.le_refl _|assumption|(refine Hp.le_trans ?_ (by assumption))));done)));((focus ((repeat (first|exact Hp.le_refl _|assumption|(refine Hp.le_trans ?_ (by assumption))));done))))
 |((with_reducible apply kpN);(assumption);((focus ((repeat (first|exact Hp.le_refl _|assumption|(refine Hp.le_trans ?_ (by assumption))));done)));((focus ((repeat (first|exact Hp.le_refl _|assumption|(refine Hp.le_trans ?_ (by assumption))));done))))
 |fail)):P:=h k
set_option maxHeartbeats 2000000 in
theorem z9 {h:Hp} {M:MSl} {m:ah} {c:Nat} {R:Value->Hp->Prop} (hs:aO h M m) (hm:bW m) (g:dj m) (hc:c<2^(ak m.nodes 36+ak m.nodes 35))
  (k: ∀t h',h.le h'->t.n=m.nodes.length->gD h' t (cl m (c%2^ak m.nodes 36) (c/2^ak m.nodes 36))->XG h t->R (Sl.v t) h'):mG #[aQ M,I c] h R:=by
 apply EP
 refine uf_ ?_
 have hn8:=g.n8
 have hk5:=g.k5
 have hp13:=NM g
 have hp8:=ac8 g
 have h1':c%2^ak m.nodes 36<=c:=Nat.mod_le _ _
 have h2':c/2^ak m.nodes 36<=c:=Nat.div_le_self _ _
 have hpp:=bJ (ak m.nodes 36)
 have hs36:cC m.nodes (aH m.nodes 36)<=60:=by have:=fq g;show cC m.nodes (stP m)<=60;omega
 have hs35:cC m.nodes (aH m.nodes 35)<=60:=by have:=Co g;show cC m.nodes (inP m)<=60;omega
 have hshr:nY (c:Int) ((ak m.nodes 36:Nat):Int)=((c/2^ak m.nodes 36:Nat):Int):=jw (by omega)
 have hmod:Int.tmod (c:Int) (((2^ak m.nodes 36:Nat)):Int)=((c%2^ak m.nodes 36:Nat):Int):=eU _ _
 have hwu:IntKind.wrap .u64 ((ak m.nodes 36:Nat):Int)=(ak m.nodes 36:Nat):=cu (by omega)
 have hsh1:au 1 ((ak m.nodes 36:Nat):Int)=((2^ak m.nodes 36:Nat):Int):=bK (by omega)
 refine aj fun b8 h1 hb8 l1 f8=>?_
 clear hb8
 repeat' (refine ku_ ?_)
 refine gC (hs.mono l1) hm ⟨_,rfl,?_⟩
 simp only [hwu,hsh1,hshr,hmod]
 repeat' (first
  |(refine ku_ ?_)
  |(rw [if_neg (by omega)])
  |(refine cU (hs.up (by((focus ((repeat (first|exact Hp.le_refl _|assumption|(refine Hp.le_trans ?_ (by assumption))));done))))) hm fun _ _ _ _=>⟨_,rfl,?_⟩)
  |(refine gf (hs.up (by((focus ((repeat (first|exact Hp.le_refl _|assumption|(refine Hp.le_trans ?_ (by assumption))));done))))) hm g.ok (IntS.up (by assumption) (by((focus ((repeat (first|exact Hp.le_refl _|assumption|(refine Hp.le_trans ?_ (by assumption))));done))))) (cO g 36) (jb g 36) (by omega) hs36 fun _ _ _ _=>⟨_,rfl,?_⟩)
  |(refine gf (hs.up (by((focus ((repeat (first|exact Hp.le_refl _|assumption|(refine Hp.le_trans ?_ (by assumption))));done))))) hm g.ok (IntS.up (by assumption) (by((focus ((repeat (first|exact Hp.le_refl _|assumption|(refine Hp.le_trans ?_ (by assumption))));done))))) (cO g 35) (jb g 35) (by omega) hs35 fun _ _ _ _=>⟨_,rfl,?_⟩)
  |(refine pV (hs.up (by((focus ((repeat (first|exact Hp.le_refl _|assumption|(refine Hp.le_trans ?_ (by assumption))));done))))) hm g.ok g.nl (IntSS.up (by assumption) (by((focus ((repeat (first|exact Hp.le_refl _|assumption|(refine Hp.le_trans ?_ (by assumption))));done))))) (lO 36 (c%2^ak m.nodes 36) g) (IntSS.up (by assumption) (by((focus ((repeat (first|exact Hp.le_refl _|assumption|(refine Hp.le_trans ?_ (by assumption))));done))))) (lO 35 (c/2^ak m.nodes 36) g) fun t h' l hn hpv hw=>⟨_,rfl,k t h' (by((focus ((repeat (first|exact Hp.le_refl _|assumption|(refine Hp.le_trans ?_ (by assumption))));done)))) hn hpv fun b o hb=>aF (by((focus ((repeat (first|exact Hp.le_refl _|assumption|(refine Hp.le_trans ?_ (by assumption))));done)))) (hw b o hb)⟩)
  |(refine And.intro ?_ ?_))
def gj (ps:List Nat) (f:Nat->Option (List Nat)) (vs:List (List Nat)) (n:Nat):Bool:=(List.range n).all fun i=>match ps[i]? with
 |some p=>(match f p with|some v=>decide (vs.getD i []=v)|none=>true)
 |none=>true
theorem Ea {ps:List Nat} {f:Nat->Option (List Nat)} {vs:List (List Nat)} {i p:Nat} (h:ps[i]?=some p):gj ps f vs (i+1)=(gj ps f vs i&&(match f p with|some v=>decide (vs.getD i []=v)|none=>true)):=by
 unfold gj
 rw [List.range_succ,List.all_append]
 simp only [List.all_cons,List.all_nil,Bool.and_true,h]
theorem jl {ps:List Nat} {f:Nat->Option (List Nat)} {vs:List (List Nat)}:gj ps f vs ps.length=true↔ ∀(i p:Nat),ps[i]?=some p-> ∀v,f p=some v->vs.getD i []=v:=by
 unfold gj
 rw [List.all_eq_true]
 constructor
 ·intro h i p hp v hv
  have:=h i (List.mem_range.2 (get_lt hp))
  rw [hp]at this
  simp only [hv,decide_eq_true_eq]at this
  exact this
 ·intro h i hi
  cases hp:ps[i]? with
  |none=>rfl
  |some p=>
   simp only
   cases hv:f p with
   |none=>rfl
   |some v=>simpa using h i p hp v hv
theorem Ke {ps:List Nat} {f:Nat->Option (List Nat)} {vs:List (List Nat)} {i:Nat} (hi:i<=ps.length) (h:gj ps f vs i=false):gj ps f vs ps.length=false:=by
 unfold gj at h⊢
 rw [List.all_eq_false]at h⊢
 obtain⟨x,hx,hn⟩:=h
 exact⟨x,List.mem_range.2 (by have:=List.mem_range.1 hx;omega),hn⟩
theorem Ef {h:Hp} {M:MSl} {m:ah} {s t:Sl} {ps:List Nat} {vs:List (List Nat)} {R:Value->Hp->Prop} (hs:aO h M m) (hm:bW m) (hok:cv m.nodes=true) (hp:IntS h s (VL ps)) (hps: ∀p∈ps,p<m.nodes.length) (hpl:ps.length<=1048576)
  (hv:IntSS h t (vs.map VL)) (hf:j7 m.nodes ps vs) (k:R (.bool true) h):qh #[aQ M,s.v,t.v] h R:=by
 refine ACalls.drop (II ?_)
 refine uf_ ?_
 have hn:=hs.nodes.len
 have hsn:=hp.len
 rw [aY]at hsn
 have htn:=hv.len
 rw [List.length_map]at htn
 have hvl:=oP hf
 refine aj fun b9 h1 hb9 l1 f9=>?_
 refine aE (by simp;omega) ?_
 refine av ps.length (fun i ws h'=>h.le h'/\h' b9=some (.inl ⟨aw M,5,false⟩)/\ws= [s.v,t.v, .pointer (some ⟨b9,0,none⟩),I i]) ⟨l1,f9,rfl⟩ ?_
 clear f9 l1 hb9 h1
 rintro i _ h1 next hi ⟨l1,f9,rfl⟩ hnx
 refine⟨s,t,_,_,_,rfl,?_⟩
 by_cases hlt:i<ps.length
 rotate_left
 ·exact aE (by simp;omega) ⟨_,l1,k⟩
 refine aM (by simp;omega) ?_
 obtain⟨p,hpi⟩: ∃p,ps[i]?=some p:=⟨_,List.getElem?_eq_getElem hlt⟩
 have hpm:=hps p (List.mem_of_getElem? hpi)
 obtain⟨b,o,ha,hc⟩:=(hp.mono l1).get (gU hpi)
 refine⟨b,o,ha,by omega,by omega,?_⟩
 (refine az ?_)
 refine⟨_,hc,?_⟩
 obtain⟨bn,on,han,hpn',c6,c7,w1,w16⟩:=(hs.mono l1).nodes.sortc2 hpm hok
 refine⟨bn,on,han,by omega,hpn',_,c6,_,c7,?_⟩
 obtain⟨bt,ot,c,hta,htc,hcv⟩:=(hv.mono l1).getV (i:=i) (by omega)
 have xbt:=gY htc
 have xbn:=gY c6
 have xb:=gY hc
 have xb9:=eY f9
 refine aj fun b36 h2 hb36 l2 f36'=>?_
 have n9:=fresh_ne hb36 f9
 have nt:=vF hb36 htc
 repeat' (((with_reducible apply lb);(assumption);(assumption)))
 (with_reducible apply bZ);(exact f36');(exact Hp.le_trans l1 l2);(exact aF l1 hb36);(exact Nat.le_refl 2)
 intro h3 f36 kp l3
 have l13:h1.le h3:=cL hb36 l2 kp
 have f93:=l13 _ _ f9
 have f36v:h3 b36=some (.inl ⟨[I (aA m.nodes p).idx,I (cj m.nodes p)],2,false⟩):=f36
 refine⟨bt,ot,hta,by omega,by omega,c,l13.cell htc,?_⟩
 repeat' (refine az ?_)
 refine fD ⟨_,rfl,?_⟩
 rw [qN hok hpm]
 have hg:=mu hf hpi
 have hcn:=hcv.len
 rw [aY]at hcn
 have hcl:=dm m.nodes p
 repeat' (refine az ?_)
 refine aE (by simp;omega) ?_
 have hcv3:=hcv.mono l13
 refine av (aK m.nodes p) (fun q ws h'=>h'=h3/\ws= [s.v,t.v, .pointer (some ⟨b9,0,none⟩),I i, .pointer (some ⟨b36,0,none⟩),I q]) ⟨rfl,rfl⟩ ?_
 rintro q _ _ next2 hq ⟨rfl,rfl⟩ hnx2
 rename_i h3
 refine⟨s,t,_,_,_,_,_,_,rfl,?_⟩
 refine⟨bt,ot,hta,by omega,by omega,c,l13.cell htc,?_⟩
 by_cases hlq:q<aK m.nodes p
 rotate_left
 ·refine aE (by simp;omega) ?_
  rw [aC (by omega)]
  exact hnx hlt _ _ ⟨l3,f93,rfl⟩
 refine aM (by simp;omega) ?_
 refine⟨bt,ot,hta,by omega,by omega,?_⟩
 (refine az ?_)
 refine⟨c,l13.cell htc,?_⟩
 obtain⟨bc,oc,hca,hcc,hln⟩:=hcv3.elt (i:=q) (by omega)
 refine⟨bc,oc,hca,by omega,by omega,_,hcc,?_⟩
 have hlt2:(vs.getD i []).getD q 0<2^cj m.nodes p:=by
  rw [List.getD_eq_getElem?_getD,List.getElem?_eq_getElem (show q<(vs.getD i []).length by omega)]
  exact hg.2 _ (List.getElem_mem _)
 refine cy ⟨_,rfl,aE ?_ ?_⟩
 ·rw [Bool.not_eq_false',j4]
  refine⟨by omega,by omega,?_⟩
  rw [Int.toNat_natCast];omega
 ·rw [aC (by omega)]
  exact hnx2 hlq _ _ ⟨rfl,rfl⟩
theorem gM {h:Hp} {M:MSl} {m:ah} {t:Sl} {vs:List (List Nat)} {R:Value->Hp->Prop} (hs:aO h M m) (hm:bW m) (hc:ax m=0)
  (hv:IntSS h t (vs.map VL)) (hf:j7 m.nodes (stP m) vs) (k:R (.bool true) h):fQ #[aQ M,t.v] h R:=by
 refine ACalls.drop (Dj ?_)
 refine uf_ ?_
 have g:=cr hc
 refine aj fun b8 h1 hb8 l1 f8=>?_
 repeat' (refine ku_ ?_)
 refine aX (hs.up (by((focus ((repeat (first|exact Hp.le_refl _|assumption|(refine Hp.le_trans ?_ (by assumption))));done))))) hm ⟨_,rfl,aM (by rw [hc];rfl) ?_⟩
 repeat' (refine ku_ ?_)
 refine cU (hs.up (by((focus ((repeat (first|exact Hp.le_refl _|assumption|(refine Hp.le_trans ?_ (by assumption))));done))))) hm fun p h2 l2 i2=>⟨p,rfl,?_⟩
 repeat' (refine ku_ ?_)
 exact Ef (hs.up (by((focus ((repeat (first|exact Hp.le_refl _|assumption|(refine Hp.le_trans ?_ (by assumption))));done))))) hm g.ok i2 (cO g 36) (jb g 36) (hv.up (by((focus ((repeat (first|exact Hp.le_refl _|assumption|(refine Hp.le_trans ?_ (by assumption))));done))))) hf ⟨_,rfl,h,by((focus ((repeat (first|exact Hp.le_refl _|assumption|(refine Hp.le_trans ?_ (by assumption))));done))),k⟩
theorem Qo {m:ah} (g:dj m) {p k:Nat} (h:cf m.inits p=some k):k<m.nodes.length/\0<((pa m).getD k []).length/\((pa m).getD k []).length<=4:=by
 obtain⟨b,hb,_,rfl⟩:=fS h
 obtain⟨v1,v2,v3,v4,_,_⟩:=uH g hb
 exact⟨by omega,v3,v4⟩
theorem kb {h:Hp} {M:MSl} {m:ah} {t:Sl} {vs:List (List Nat)} {R:Value->Hp->Prop} (hs:aO h M m) (hm:bW m) (hc:ax m=0)
  (hv:IntSS h t (vs.map VL)) (hf:j7 m.nodes (stP m) vs) (k:R (.bool (gj (stP m) (ez m) vs (stP m).length)) h):iP #[aQ M,t.v] h R:=by
 refine ACalls.drop (EJ ?_)
 refine uf_ ?_
 have g:=cr hc
 have hil:=g.il
 have hnl:=g.nl
 have hp36:(stP m).length<=m.nodes.length:=fz m.nodes 36
 have htn:=hv.len
 rw [List.length_map]at htn
 have hvl:=oP hf
 have hbn: ∀b∈m.inits,0<=b.node:=fun b hb=>(uH g hb).1
 refine aj fun b8 h1 hb8 l1 f8=>?_
 repeat' (refine ku_ ?_)
 refine gM (hs.up (by((focus ((repeat (first|exact Hp.le_refl _|assumption|(refine Hp.le_trans ?_ (by assumption))));done))))) hm hc (hv.up (by((focus ((repeat (first|exact Hp.le_refl _|assumption|(refine Hp.le_trans ?_ (by assumption))));done))))) hf ⟨_,rfl,aE rfl ?_⟩
 repeat' (refine ku_ ?_)
 refine Ml (hs.up (by((focus ((repeat (first|exact Hp.le_refl _|assumption|(refine Hp.le_trans ?_ (by assumption))));done))))) hm g fun vt h2 l2 hvn hpv=>⟨vt,rfl,?_⟩
 repeat' (refine ku_ ?_)
 refine cU (hs.up (by((focus ((repeat (first|exact Hp.le_refl _|assumption|(refine Hp.le_trans ?_ (by assumption))));done))))) hm fun pt h3 l3 ip=>⟨pt,rfl,?_⟩
 have hpn:pt.n=(stP m).length:=by have:=ip.len;rw [aY]at this;exact this
 have f83:=l3 _ _ (l2 _ _ f8)
 have hpv3:=hpv.mono l3
 have l03:=Hp.le_trans l1 (Hp.le_trans l2 l3)
 have aV:=xY g
 clear l2 l3 l1 hb8 f8 hpv h2
 refine av (stP m).length (fun i ws h'=>h3.le h'/\ws= [t.v, .pointer (some ⟨b8,0,none⟩),vt.v,pt.v,I i]/\gj (stP m) (ez m) vs i=true) ⟨Hp.le_refl _,rfl,rfl⟩ ?_
 rintro i _ h4 next hi ⟨l4,rfl,hg⟩ hnx
 have l04:=Hp.le_trans l03 l4
 refine⟨t,_,_,vt,pt,_,rfl,?_⟩
 by_cases hlt:i<(stP m).length
 rotate_left
 ·have hie:i=(stP m).length:=by omega
  subst hie
  refine aE (by simp;omega) ⟨_,l04,dq hg.symm k⟩
 refine aM (by simp;omega) ?_
 obtain⟨p,hpi⟩: ∃p,(stP m)[i]?=some p:=⟨_,List.getElem?_eq_getElem hlt⟩
 have hsucc:=Ea (f:=ez m) (vs:=vs) hpi
 rw [hg,Bool.true_and]at hsucc
 obtain⟨b,o,ha,hcc⟩:=(ip.mono l4).get (gU hpi)
 refine⟨b,o,ha,by omega,by omega,?_⟩
 (refine ku_ ?_)
 refine⟨_,hcc,?_⟩
 refine oU (hs.mono l04).inits (by omega) hbn ⟨_,rfl,?_⟩
 refine ap (fun J=> ∀h',h4.le h'->J (!gj (stP m) (ez m) vs (i+1)) h') ?_ (fun J hJ=>?_)
 ·intro h' l'
  refine ac (fun e=>⟨_,Hp.le_trans l04 l',dq ?_ k⟩) (fun e=>?_)
  ·symm;exact Ke (i:=i+1) (by omega) (by simpa using e)
  ·rw [aC (by omega)]
   exact hnx hlt _ _ ⟨Hp.le_trans l4 l',rfl,by simpa using e⟩
 cases hbo:cf m.inits p with
 |none=>
  rw [show iq m.inits p= -1 from by unfold iq;rw [hbo]]
  refine aE (by simp) ⟨trivial,?_⟩
  have hn:ez m p=none:=by unfold ez;rw [hbo];rfl
  rw [hn]at hsucc
  have:=hJ h4 (Hp.le_refl _)
  rw [hsucc]at this;exact this
 |some q=>
  rw [show iq m.inits p=(q:Int)from by unfold iq;rw [hbo]]
  refine aM (by simp) ?_
  obtain⟨hq,v3,v4⟩:=Qo g hbo
  have hsm:ez m p=some (nw (aK m.nodes p) ((pa m).getD q [])):=by unfold ez;rw [hbo];rfl
  have hfit:=rV g hsm
  have hcl:=dm m.nodes p
  have hgv:=mu hf hpi
  rw [hsm]at hsucc
  obtain⟨bt,ot,c,hta,htc,hcv⟩:=(hv.mono l04).getV (i:=i) (by omega)
  obtain⟨bv,ov,u,hua,hun,huc,huv⟩:=(hpv3.mono l4).at (p:=(q:Int)) (by omega) (by rw [aV.len];omega)
  have hcn:=hcv.len
  rw [aY]at hcn
  refine⟨bt,ot,hta,by omega,by omega,bv,ov,hua,by omega,hun,bt,ot,hta,by omega,by omega,c,htc,u,huc,c,htc,?_⟩
  rw [Int.toNat_natCast]at huv
  rw [hcn,hgv.1]
  have xbt:=gY htc
  refine DW huv v3 v4 hcl fun w h5 l5 hw=>⟨w,rfl,?_⟩
  repeat' (((with_reducible apply lb);(assumption);(assumption)))
  refine xt (hcv.mono l5) hw (by rw [aY];omega) (by rw [aY,aY,hgv.1,hfit.1];exact Nat.le_refl _) ⟨_,rfl,?_⟩
  have:=hJ h5 l5
  simp only at hsucc
  rw [hsucc]at this
  have e2:decide (VL (vs.getD i [])=VL (nw (aK m.nodes p) ((pa m).getD q [])))=decide (vs.getD i []=nw (aK m.nodes p) ((pa m).getD q [])):=by
   rw [Bool.eq_iff_iff,decide_eq_true_eq,decide_eq_true_eq,Iz]
  rw [e2];exact this
section
variable {g h h':Hp} {L L' A B X:List (Nat×Blk)}
theorem Kn.app (K:Kn g h L) (l:h.le h') (n: ∀e∈X,h e.1=none) (f: ∀e∈X,h' e.1=some e.2) (nd:(X.map Prod.fst).Nodup):Kn g h' (L++X):=by
 refine⟨Hp.le_trans K.le l,fun e he=>?_,fun e he=>?_,?_⟩
 ·rcases List.mem_append.1 he with he|he
  ·exact l _ _ (K.mem e he)
  ·exact f e he
 ·rcases List.mem_append.1 he with he|he
  ·exact K.new e he
  ·exact aF K.le (n e he)
 ·rw [List.map_append,List.nodup_append]
  refine⟨K.nd,nd,fun a ha b hb hab=>?_⟩
  obtain⟨e,he,rfl⟩:=List.mem_map.1 ha
  obtain⟨e',he',rfl⟩:=List.mem_map.1 hb
  have h1:=K.mem e he
  have h2:=n e' he'
  rw [hab,h2]at h1;cases h1
theorem Kn.split (K:Kn g h (A++B)):Kn (h.wo (B.map Prod.fst)) h B/\Kn g (h.wo (B.map Prod.fst)) A:=by
 have nd:=K.nd
 rw [List.map_append,List.nodup_append]at nd
 refine⟨⟨wD _ _,fun e he=>K.mem e (List.mem_append_right _ he),fun e he=>fo (List.mem_map.2 ⟨e,he,rfl⟩),nd.2.1⟩,?_,fun e he=>?_,fun e he=>K.new e (List.mem_append_left _ he),nd.1⟩
 ·exact sW K.le fun b hb=>by
   obtain⟨e,he,rfl⟩:=List.mem_map.1 hb
   exact K.new e (List.mem_append_right _ he)
 ·rw [sy]
  ·exact K.mem e (List.mem_append_left _ he)
  ·intro hb
   exact nd.2.2 _ (List.mem_map.2 ⟨e,he,rfl⟩) _ hb rfl
def pm (X:List (Nat×Blk)) (s:Sl) (sz:Nat) (cs:List Value):Prop:=
 cs.length=s.n*sz/\s.n<=9223372036854775807/\((s.n=0/\X= [])\/(s.n≠0/\ ∃b z,s.a=some ⟨b,0,none⟩/\X= [(b, .inl ⟨cs,z,false⟩)]))
theorem Kn.addOwn {s:Sl} {sz:Nat} {cs:List Value} (K:Kn g h L) (l:h.le h') (o:Own (h'.sub h) s sz cs): ∃X,pm X s sz cs/\Kn g h' (L++X):=by
 by_cases h0:s.n=0
 ·exact⟨[],⟨o.1,o.2.1, .inl ⟨h0,rfl⟩⟩,by rw [List.append_nil];exact K.mono l⟩
 ·obtain⟨b,z,ha,hb⟩:=o.2.2.resolve_left h0
  have hn:h b=none:=mg (by rw [hb];simp)
  refine⟨_,⟨o.1,o.2.1, .inr ⟨h0,b,z,ha,rfl⟩⟩,K.app l (fun e he=>?_) (fun e he=>?_) (by simp)⟩
  ·rw [List.mem_singleton.1 he];exact hn
  ·rw [List.mem_singleton.1 he];exact sub_le _ _ _ _ hb
end
theorem list9 {cs:List Value} (h:cs.length=9): ∃a b c d e f g i j,cs= [a,b,c,d,e,f,g,i,j]:=by
 match cs,h with
 | [a,b,c,d,e,f,g,i,j],_=>exact⟨a,b,c,d,e,f,g,i,j,rfl⟩
theorem list2 {cs:List Value} (h:cs.length=2): ∃a b,cs= [a,b]:=by
 match cs,h with
 | [a,b],_=>exact⟨a,b,rfl⟩
theorem Got.flat {P:Program} {W:World} {t e:TypeId} {v:Value} {α:Type} {f:α->List Value} {m:Nat} {p:α->Prop} (hf: ∀x,(f x).length=m) (hpos:0<m) (ht:P.underlying t=some (.slice e)) (hsz:P.cellsOf e=m)
  (hg: ∀ds,Got P W e ds-> ∃x,ds=f x/\p x) (g:Got P W t [v]): ∃(s:Sl) (l:List α),v=s.v/\s.n<=s.c/\SlC (hW W) s m (l.flatMap f)/\ ∀x∈l,p x:=by
 obtain⟨s,hs,hm,hlc,h⟩:=Got.slice ht hsz hpos g
 simp only [List.cons.injEq,and_true]at hs
 rcases h with h|⟨b,o,ha,h⟩
 ·exact⟨s, [],hs,hlc,⟨hm,by simp [h], .inl h⟩,by simp⟩
 obtain⟨xs,hl,hx⟩:=FV (p:=fun i (x:α)=>(∀(j:Nat) v,(f x)[j]?=some v->Hp.cell (hW W) b (o+i*m+j)=some v)/\p x) s.n fun i hi=>by
  obtain⟨ds,hd,hgd,hc⟩:=h i hi
  obtain⟨x,rfl,hp⟩:=hg ds hgd
  exact⟨x,hc,hp⟩
 refine⟨s,xs,hs,hlc,⟨hm,by rw [eV hf,hl], .inr ⟨b,o,ha,?_⟩⟩,?_⟩
 ·intro i v hv
  have hi:i<(xs.flatMap f).length:=(List.getElem?_eq_some_iff.1 hv).1
  rw [eV hf]at hi
  have hq:i/m<xs.length:=by rw [Nat.div_lt_iff_lt_mul hpos];exact hi
  have hr:i%m<m:=Nat.mod_lt _ hpos
  have he:i=i/m*m+i%m:=by rw [Nat.mul_comm];exact(Nat.div_add_mod _ _).symm
  rw [he,sj hf xs (i/m) xs[i/m] (i%m) (List.getElem?_eq_getElem hq) hr]at hv
  have:=(hx (i/m) hq).1 _ _ hv
  rw [he,<-Nat.add_assoc];exact this
 ·intro x hxm
  obtain⟨i,hi,rfl⟩:=List.getElem_of_mem hxm
  exact(hx i hi).2
def tb (n:Nat) (T:Nat->Bool):List Value:=(List.range n).map fun i=> .bool (T i)
theorem gR (n:Nat) (T:Nat->Bool):(tb n T).length=n:=by simp [tb]
theorem pQ {n j:Nat} {T:Nat->Bool} (hj:j<n):(tb n T)[j]?=some (.bool (T j)):=by simp [tb,hj]
theorem aay {n:Nat} {T U:Nat->Bool} (h: ∀j,j<n->T j=U j):tb n T=tb n U:=by
 refine List.map_congr_left fun j hj=>?_
 rw [h j (List.mem_range.1 hj)]
theorem kI (n:Nat):List.replicate n (.bool false)=tb n fun _=>false:=by
 refine List.ext_getElem (by simp [tb]) fun i h1 h2=>?_
 simp [tb]
theorem lP {n j:Nat} {T:Nat->Bool} {v:Bool}:(tb n T).set j (.bool v)=tb n fun i=>if i=j then v else T i:=by
 refine List.ext_getElem (by simp [tb]) fun i h1 h2=>?_
 rw [List.getElem_set]
 simp only [tb,List.getElem_map,List.getElem_range]
 by_cases e:i=j
 ·rw [if_pos e,if_pos e.symm]
 ·rw [if_neg e,if_neg fun h=>e h.symm]
theorem aa1 (n:Nat) (T:Nat->Bool):tb n T=((List.range n).map T).map Value.bool:=by simp [tb]
theorem km {h:Hp} {b n z:Nat} {ro:Bool} {T U:Nat->Bool} (hn:n<=9223372036854775807) (f:h b=some (.inl ⟨tb n T,z,ro⟩)) (e: ∀j,j<n->T j=U j):dc h (arr b n) n U:=by
 refine⟨by dsimp only;omega,by simp, .inr ⟨b,0,rfl,?_⟩⟩
 have:=ay f
 rwa [aay e,aa1]at this
theorem fh {σ:aD} (ok:σ.Ok):2^σ.n<=256:=by
 have:=Nat.pow_le_pow_right (n:=2) (by omega) ok.nle
 simpa using this
theorem Df {σ:aD} (ok:σ.Ok):2^σ.k<=32:=by
 have:=Nat.pow_le_pow_right (n:=2) (by omega) ok.kle
 simpa using this
theorem qR {σ:aD} (ok:σ.Ok):2^(σ.n+σ.k)<=8192:=by
 have h1:=ok.nle
 have h2:=ok.kle
 have:=Nat.pow_le_pow_right (n:=2) (by omega) (show σ.n+σ.k<=13 by omega)
 simpa using this
theorem FL {h:Hp} {b s i:Nat} {σ:aD} {R:Value->Hp->Prop} (hs:oy h b σ) (ok:σ.Ok) (h1:s<2^σ.n) (h2:i<2^σ.k) (k:R (I (σ.at_ s i:Nat)) h):
  hR #[.pointer (some ⟨b,0,none⟩),I s,I i] h R:=by
 apply Dz
 refine uf_ ?_
 obtain⟨M,st,hold,bad,next,fx,_,_,_⟩:=hs
 have hn:=fh ok
 have hk:=qR ok
 have hl:=aD.at_lt h1 h2
 have h8:=ok.nle
 unfold aD.at_ at hl k
 refine dF ?_
 (refine az ?_)
 rw [if_neg (by omega),ir (by omega) (by omega),Bs (by omega) (by omega)]
 refine rb ?_ k
 rw [<-Nat.shiftLeft_eq,<-Nat.shiftLeft_add_eq_or_of_lt h1,Nat.shiftLeft_eq]
theorem Mn {h:Hp} {b c:Nat} {σ:aD} {R:Value->Hp->Prop} (hs:oy h b σ) (hc:c<2^(σ.n+σ.k)) (k:R (.bool (σ.hold c)) h):
  pq #[.pointer (some ⟨b,0,none⟩),I c] h R:=by
 apply xe
 refine uf_ ?_
 obtain⟨M,st,hold,bad,next,fx,hh,_,_⟩:=hs
 refine dF ?_
 (refine az ?_)
 obtain⟨b',o',ha,h1,h2⟩:=hh.get hc
 exact⟨b',o',ha,by omega,h1,_,h2,k⟩
theorem yR {h:Hp} {b c:Nat} {σ:aD} {R:Value->Hp->Prop} (hs:oy h b σ) (hc:c<2^(σ.n+σ.k)) (k:R (.bool (σ.ends c)) h):
  ik #[.pointer (some ⟨b,0,none⟩),I c] h R:=by
 apply Aq
 refine uf_ ?_
 obtain⟨M,st,hold,bad,next,fx,hh,hb,_⟩:=hs
 refine dF ?_
 (refine az ?_)
 obtain⟨b',o',ha,h1,h2⟩:=hh.get hc
 refine⟨b',o',ha,by omega,h1,_,h2,?_⟩
 unfold aD.ends at k
 refine ac (fun e=>?_) (fun e=>?_)
 ·refine dF ?_
  (refine az ?_)
  obtain⟨b',o',ha,h1,h2⟩:=hb.get hc
  refine⟨b',o',ha,by omega,h1,_,h2,dq ?_ k⟩
  rw [e];rfl
 ·rw [e]at k;exact k
def acm (h:Hp) (fid:FuncId) (u w:Array Value) (σ:aD) (f:Nat->Nat->Bool):Prop:=
 ∀s i:Nat,s<2^σ.n->i<2^σ.k-> ∀h':Hp,h.le h'-> ∀R:Value->Hp->Prop,R (.bool (f s (σ.at_ s i))) h'->ACalls PR fid ((u++ #[I s,I (σ.at_ s i:Nat)])++w) h' R
theorem uF {h:Hp} {b:Nat} {σ:aD} {fid:FuncId} {u w:Array Value} {f:Nat->Nat->Bool} {R:Value->Hp->Prop} (hs:oy h b σ) (ok:σ.Ok) (hf:acm h fid u w σ f)
  (k: ∀t h',h.le h'->dc (h'.sub h) t (2^σ.n) (σ.some_ f)->R (Sl.v t) h'):eQ #[.pointer (some ⟨b,0,none⟩), .func (.func fid) u w] h R:=by
 apply AO
 refine uf_ ?_
 have hn:=fh ok
 have hk:=Df ok
 have h8:=ok.nle
 have h5:=ok.kle
 obtain⟨M,st,hold,bad,next,fx,_⟩:=id hs
 have K0:=Kn.nil h
 refine dF ?_
 (refine az ?_)
 rw [if_neg (by omega),bK (by omega)]
 refine⟨Int.natCast_nonneg _,Int.le_refl _,by omega,by omega,?_⟩
 (with_reducible apply Kn.al);(assumption);(intro b10 h1 K1 l1 hb10)
 rw [Int.toNat_natCast,Nat.mul_one,cn,kI]at K1
 rw [Int.toNat_natCast]
 refine av (2^σ.n) (fun s vs h'=>vs= [.pointer (some ⟨b,0,none⟩), .func (.func fid) u w,(arr b10 (2^σ.n)).v,I (2^σ.n:Nat),I s]/\
  ∃T,Kn h h' [(b10, .inl ⟨tb (2^σ.n) T,2^σ.n,false⟩)]/\(∀j,j<s->T j=σ.some_ f j)/\ ∀j,s<=j->T j=false) ⟨rfl,_,K1,fun j hj=>by omega,fun _ _=>rfl⟩ ?_
 clear K1 K0 l1 hb10 h1
 rintro s _ h1 next hs' ⟨rfl,T,K1,hT1,hT2⟩ hnx
 refine⟨_,_,_,_,arr b10 _,_,_,rfl,?_⟩
 by_cases hlt:s<2^σ.n
 rotate_left
 ·refine aE (by rw [decide_eq_false_iff_not];omega) ?_
  exact k _ h1 K1.le (km (by omega) (by rw [lR (K1.new _ (.head _))];exact K1.at (.head _)) fun j hj=>hT1 j (by omega))
 refine aM (by rw [decide_eq_true_eq];exact_mod_cast hlt) ?_
 refine dF ?_
 (refine kr_ ?_)
 rw [if_neg (by omega),bK (by omega)]
 refine av (2^σ.k) (fun i vs h'=>vs= [.pointer (some ⟨b,0,none⟩), .func (.func fid) u w,(arr b10 (2^σ.n)).v,I s,I (2^σ.n:Nat),I s,I (2^σ.k:Nat),I i]/\
  ∃T,Kn h h' [(b10, .inl ⟨tb (2^σ.n) T,2^σ.n,false⟩)]/\(∀j,j<s->T j=σ.some_ f j)/\(∀j,s<j->T j=false)/\T s=pd i fun x=>f s (σ.at_ s x))
  ⟨rfl,T,K1,hT1,fun j hj=>hT2 j (by omega),by rw [hT2 s (Nat.le_refl _)];rfl⟩ ?_
 clear K1 hT1 hT2 T h1
 rintro i _ h1 next2 hi ⟨rfl,T,K1,hT1,hT2,hT3⟩ hnx2
 refine⟨_,_,_,_,arr b10 _,_,_,_,_,_,rfl,?_⟩
 by_cases hli:i<2^σ.k
 rotate_left
 ·refine aE (by rw [decide_eq_false_iff_not];omega) ?_
  have hie:i=2^σ.k:=by omega
  rw [aC (by omega)]
  refine hnx hlt _ _ ⟨rfl,T,K1,fun j hj=>?_,fun j hj=>hT2 j (by omega)⟩
  by_cases e:j=s
  ·rw [e,hT3,hie];rfl
  ·exact hT1 j (by omega)
 refine aM (by rw [decide_eq_true_eq];exact_mod_cast hli) ?_
 have upd: ∀v,v=pd (i+1) (fun x=>f s (σ.at_ s x))-> ∀h',Kn h h' [(b10, .inl ⟨(tb (2^σ.n) T).set s (.bool v),2^σ.n,false⟩)]->
   next2 [.pointer (some ⟨b,0,none⟩), .func (.func fid) u w,(arr b10 (2^σ.n)).v,I s,I (2^σ.n:Nat),I s,I (2^σ.k:Nat),I (W ((i:Int)+1))] h':=by
  intro v hv h' K
  rw [aC (by omega)]
  rw [lP]at K
  exact hnx2 hli _ _ ⟨rfl,_,K,fun j hj=>by rw [if_neg (by omega)];exact hT1 j hj,fun j hj=>by rw [if_neg (by omega)];exact hT2 j hj,by rw [if_pos rfl];exact hv⟩
 refine⟨b10,0,rfl,by omega,by dsimp only;omega,?_⟩
 refine Kn.rd K1 (.head _) (x:=T s) (by rw [Nat.zero_add,Nat.mul_one,Int.toNat_natCast];exact pQ hlt) ?_
 refine ac (fun e=>?_) (fun e=>?_)
 ·refine⟨b10,0,rfl,by omega,by dsimp only;omega,?_⟩
  (((with_reducible apply Kn.wr);(assumption);((focus ((repeat first|exact .head|apply Upd.tail);done)))))
  ·rw [gR];omega
  intro h2 K2 _
  rw [bG,Nat.zero_add,Int.toNat_natCast,Nat.mul_one]at K2
  exact upd true (by rw [Kp,<-hT3,e];rfl) h2 K2
 ·refine FL (hs.mono K1.le) ok hlt hli ⟨_,rfl,?_⟩
  refine hf s i hlt hli h1 K1.le _ ⟨_,rfl,?_⟩
  refine⟨b10,0,rfl,by omega,by dsimp only;omega,?_⟩
  (((with_reducible apply Kn.wr);(assumption);((focus ((repeat first|exact .head|apply Upd.tail);done)))))
  ·rw [gR];omega
  intro h2 K2 _
  rw [bG,Nat.zero_add,Int.toNat_natCast,Nat.mul_one]at K2
  exact upd _ (by rw [Kp,<-hT3,e];rfl) h2 K2
end Go.Lead
