/- What functions of the program and of the reference come to, walked one by one, and plain laws about it: part 3. No condition is added to the statement. -/
import Derived.Test.YtlfhohhpeklnkaaGreatZ1
namespace Go.Lead
open Go
set_option linter.unusedSimpArgs false
set_option linter.unusedVariables false
set_option maxRecDepth 100000
set_option maxHeartbeats 1000000
theorem Buf.slS {h h0:Hp} {s:Sl} {xs:List Int} (e:Buf (h.sub h0) s 1 (xs.map I)) (hn:s.n<=9223372036854775807):IntS h s xs:=(Buf.slc_of e hn).mono (sub_le _ _)
theorem jm.wid {h:Hp} {s:Sl} {l:List NodeP} (e:jm h s l) {p:Int} (h0:0<=p) (hp:p<l.length):
  ∃b o,s.a=some (Addr.mk b o none)/\p<(s.n:Int)/\Hp.cell h b ((o+p.toNat*9)+6+1)=some (I (aE l p).wid):=by
 obtain⟨n,hn1⟩: ∃n,l[p.toNat]?=some n:=⟨_,List.getElem?_eq_getElem (by omega)⟩
 obtain⟨ba,oa,ha1,_,_,_,_,_,_,c6,c7,_⟩:=e.at hn1
 refine⟨ba,oa,ha1,by have:=e.len;omega,?_⟩
 rw [pN hn1];exact c7
theorem Mc {h:Hp} {l:List NodeP} {i:Nat} {n:NodeP} {sn s:Sl} {v:List (List Nat)} {R:Value->Hp->Prop} (hl:l.length<=60) (hi:i<=l.length)
  (ht:Mj l i n) (hv:xM l i v) (hvl:v.length=i) (hsn:jm h sn l) (hpv:ge h s v) (hk34: ¬n.kind=34) (hk35: ¬n.kind=35) (hk36: ¬n.kind=36)
  (k: ∀t h',h.le h'->IntS h' t (VL (gQ l n v))->R (.agg #[Sl.v t]) h'):th #[sn.v,Di n,s.v] h R:=by
 obtain⟨val,hnv⟩: ∃val,val=gQ l n v:=⟨_,rfl⟩
 rw [<-hnv]at k
 unfold gQ at hnv
 apply HQ
 refine uf_ ?_
 have hk:=ht.kind
 have hp:0<ar n.kind:=by
  have:ar n.kind≠0:=by intro h0;revert h0;unfold ar;(repeat' split)<;>(intro h;omega)
  omega
 have pk:=ht.part
 have pf: ∀j:Nat,j<3->(j:Int)<ar n.kind->Fit (aE l (aW n j)) (v.getD (aW n j).toNat []):=fun j h1 h2=>hv.part ht hi h1 h2
 refine aj fun b13 h1 hb13 l1 f13=>?_
 refine aj fun b15 h2 hb15 l2 f15=>?_
 have n13:=fresh_ne hb15 f13
 have b15n:=aF l1 hb15
 replace f13:=l2 _ _ f13
 replace l2:=Hp.le_trans l1 l2
 (refine az ?_)
 obtain⟨ba,oa,ta,ha,h1',hca,hta⟩:=(hpv.mono l2).at (pk 0 (by omega) (by omega)).1 (by have:=(pk 0 (by omega) (by omega)).2.1;omega)
 refine⟨ba,oa,ha,(pk 0 (by omega) (by omega)).1,h1',ta,hca,?_⟩
 refine aj fun b22 h3 hb22 l3 f22'=>?_
 have n22:=fresh_ne hb22 f13
 have n22':=fresh_ne hb22 f15
 have b22n:=aF l2 hb22
 (with_reducible apply cb);(exact f22');(exact l3);(exact hb22);(exact Nat.le_refl 1)
 intro h4 f22 kp l4
 replace f13:=l4 _ _ f13
 replace f15:=l4 _ _ f15
 have l0:=Hp.le_trans l2 l4
 replace hta:=hta.mono l4
 have f22v:h4 b22=some (.inl ⟨[ta.v],1,false⟩):=f22
 clear f22 f22' l1 l2 l3 l4 hb13 hb15 hb22 h1 h2 h3 hca kp
 have res: ∀(h5:Hp) (t:Sl),h.le h5->h5 b15=some (.inl ⟨[.slice none 0 0],1,false⟩)->IntS h5 t (VL val)->
   ∃(cs:List Value) (z:Nat),h5 b15=some (.inl ⟨cs,z,false⟩)/\0+1<=List.length cs/\cu (h5.row b15 (cv cs 0 [t.v]) z) fun h'=> ∃(s:Sl),Hp.cell h' b15 0=some s.v/\R (.agg #[s.v]) h':=by
  intro h5 t l5 g15 hval
  (with_reducible apply cb);(exact g15);(exact l5);(exact b15n);(exact Nat.le_refl 1)
  intro h6 g kp l6
  exact⟨t,by rw [aq g];rfl,k t h6 l6 (hval.keep g15 kp)⟩
 clear k
 have wres: ∀(x:Nat) (z:Int),z=x->val= [x]->jz #[I z] h4 fun v30 h31=> ∃(s32:Sl),v30=(.agg #[s32.v])/\(∃(cs33:List Value) (z34:Nat),h31 b15=some (.inl ⟨cs33,z34,false⟩)/\0+1<=List.length cs33/\cu (h31.row b15 (cv cs33 0 [s32.v]) z34) fun h35=> ∃(s36:Sl),Hp.cell h35 b15 0=some s36.v/\(R (.agg #[s36.v]) h35)):=by
  intro x z hz hx
  subst hz
  refine Gu fun t h5 l5 hval=>⟨t,rfl,res h5 t (Hp.le_trans l0 l5) (l5 _ _ f15) ?_⟩
  rw [hx];exact hval
 have cres: ∀(s0:Sl) (x:List Nat),IntS h4 s0 (VL x)->x.length<=4->val=x->fM #[.agg #[s0.v]] h4 fun v30 h31=> ∃(s32:Sl),v30=(.agg #[s32.v])/\(∃(cs33:List Value) (z34:Nat),h31 b15=some (.inl ⟨cs33,z34,false⟩)/\0+1<=List.length cs33/\cu (h31.row b15 (cv cs33 0 [s32.v]) z34) fun h35=> ∃(s36:Sl),Hp.cell h35 b15 0=some s36.v/\(R (.agg #[s36.v]) h35)):=by
  intro s0 x hs0 hx hval
  refine qh hs0 (by rw [bz];omega) fun t h5 l5 hb=>⟨t,rfl,res h5 t (Hp.le_trans l0 l5) (l5 _ _ f15) ?_⟩
  rw [hval];exact hb.slS (by have:=hb.1;rw [List.length_map,bz]at this;omega)
 have hpv4:=hpv.mono l0
 have vat: ∀j:Nat,j<3->(j:Int)<ar n.kind->_:=fun j h1 h2=>hpv4.at (pk j h1 h2).1 (by have:=(pk j h1 h2).2.1;omega)
 have hres:=ht.res hp
 have oa':=bZ.1 (pk 0 (by omega) hp).2.2
 rw [if_neg hk34]at hnv
 have hkinds:=mT hp
 have len4: ∀j:Nat,j<3->(j:Int)<ar n.kind->(v.getD (aW n j).toNat []).length<=4:=fun j h1 h2=>by
  have o:=bZ.1 (pk j h1 h2).2.2
  rw [(pf j h1 h2).len]
  have:=Nat.pow_le_pow_right (n:=2) (by omega) (show (aE l (aW n j)).idx.toNat<=2 by omega);simpa using this
 obtain⟨bw,ow,hwa,hwl,hwc⟩:=(hsn.mono l0).wid (pk 0 (by omega) (by omega)).1 (by have:=(pk 0 (by omega) (by omega)).2.1;omega)
 (refine az ?_)
 refine⟨bw,ow,hwa,(pk 0 (by omega) (by omega)).1,hwl,_,hwc,?_⟩
 have ta0:=hta.elt (pf 0 (by omega) (by omega)).pos
 obtain⟨b0,o0,a0,e0,m0⟩:=ta0
 refine ap (fun J=> ∀x:Nat,val= [x]->J x h4) ?_ (fun J hJ=>?_)
 ·intro x hx;exact wres x x rfl hx
 (refine az ?_)
 refine ac (fun e=>?_) (fun e33=>?_)
 ·have e:=bU e
  have hp3:ar n.kind=3:=by omega
  rw [if_pos e]at hnv
  (refine az ?_)
  refine⟨b0,o0,a0,by omega,by omega,_,e0,?_⟩
  refine ac (fun e=>?_) (fun e=>?_)
  ·(refine az ?_)
   obtain⟨b,o,t,ha,h1,h2,h3'⟩:=vat 1 (by omega) (by omega)
   refine⟨b,o,ha,(pk 1 (by omega) (by omega)).1,h1,t,h2,cres t _ h3' (len4 1 (by omega) (by omega)) ?_⟩
   have:cU v n.a=1:=by have:=bU e;unfold cU;simp only [aW]at this;omega
   rw [hnv,if_pos this];rfl
  ·(refine az ?_)
   obtain⟨b,o,t,ha,h1,h2,h3'⟩:=vat 2 (by omega) (by omega)
   refine⟨b,o,ha,(pk 2 (by omega) (by omega)).1,h1,t,h2,cres t _ h3' (len4 2 (by omega) (by omega)) ?_⟩
   have: ¬cU v n.a=1:=by have:=aY e;unfold cU;simp only [aW]at this;omega
   rw [hnv,if_neg this];rfl
 replace e33:=aY e33
 rw [if_neg e33]at hnv
 (refine az ?_)
 refine ac (fun e=>?_) (fun e37=>?_)
 ·have e:=bU e
  have hp2:ar n.kind=2:=by omega
  obtain⟨r1,r2,r3⟩:=PM e hres
  rw [if_neg (show¬n.kind=21 by omega),if_pos e]at hnv
  repeat' (refine az ?_)
  obtain⟨b,o,t,ha,h1,h2,h3'⟩:=vat 1 (by omega) (by omega)
  obtain⟨b2,o2,ha2,hc2,hl2⟩:=h3'.elt (pf 1 (by omega) (by omega)).pos
  refine⟨b,o,ha,(pk 1 (by omega) (by omega)).1,h1,t,h2,b2,o2,ha2,by omega,by omega,_,hc2,?_⟩
  have fb:=(pf 1 (by omega) (by omega)).cell
  have fa:=(pf 0 (by omega) (by omega)).len
  simp only [aW]at fb fa hta
  rw [r2]at fb
  have hlt:cU v n.b<(v.getD n.a.toNat []).length:=by rw [fa];exact fb
  obtain⟨b3,o3,ha3,hc3,hl3⟩:=hta.elt hlt
  refine⟨b3,o3,ha3,by omega,by show (cU v n.b:Int)<_;omega,_,hc3,?_⟩
  exact wres _ _ rfl hnv
 replace e37:=aY e37
 (refine az ?_)
 refine ac (fun e=>?_) (fun e38=>?_)
 ·have e:=bU e
  have hp3:ar n.kind=3:=by omega
  obtain⟨r1,r2,r3,r4⟩:=PD e hres
  rw [if_neg (show¬n.kind=21 by omega),if_neg e37,if_pos e]at hnv
  repeat' (refine az ?_)
  have fb:=(pf 1 (by omega) (by omega)).cell
  have fa:=(pf 0 (by omega) (by omega)).len
  have hle4:=len4 0 (by omega) (by omega)
  simp only [aW]at fb fa hta hle4
  rw [r2]at fb
  have hlt:cU v n.b<(v.getD n.a.toNat []).length:=by rw [fa];exact fb
  refine qh hta (by rw [bz];omega) fun c h5 l5 hb5=>⟨c,rfl,?_⟩
  have hcn:c.n=(v.getD n.a.toNat []).length:=by have:=hb5.1;rw [List.length_map,bz]at this;omega
  obtain⟨bc,hca,hcrow⟩: ∃bc,c.a=some ⟨bc,0,none⟩/\(h5.sub h4) bc=some (.inl ⟨(VL (v.getD n.a.toNat [])).map I,c.c*1,false⟩):=by
   rcases hb5.2.2 with ⟨_,h0,_⟩|h0
   ·omega
   ·exact h0
  have hc5:h5 bc=some (.inl ⟨(VL (v.getD n.a.toNat [])).map I,c.c*1,false⟩):=sub_le _ _ _ _ hcrow
  have hc3:h4 bc=none:=by
   cases hx:h4 bc with
   |none=>rfl
   |some x=>rw [lE hx]at hcrow;cases hcrow
  have g13:=l5 _ _ f13
  have g15:=l5 _ _ f15
  refine aj fun b24 h6 hb24 l6 f24'=>?_
  have m13:=fresh_ne hb24 g13
  have m15:=fresh_ne hb24 g15
  have mc:=fresh_ne hb24 hc5
  have hb24n:=aF l5 hb24
  (with_reducible apply cb);(exact f24');(exact Hp.le_trans l5 l6);(exact hb24n);(exact Nat.le_refl 1)
  intro h7 f24 kp l7
  replace g13:=cf kp m13 (l6 _ _ g13)
  replace g15:=cf kp m15 (l6 _ _ g15)
  have gc:=cf kp mc (l6 _ _ hc5)
  have hpv7:=hpv4.mono l7
  refine⟨c,by rw [aq f24];rfl,?_⟩
  (refine az ?_)
  obtain⟨b,o,t,ha,h1,h2,h3'⟩:=hpv7.at (pk 1 (by omega) (by omega)).1 (by have:=(pk 1 (by omega) (by omega)).2.1;omega)
  obtain⟨b2,o2,ha2,hc2,hl2⟩:=h3'.elt (pf 1 (by omega) (by omega)).pos
  refine⟨b,o,ha,(pk 1 (by omega) (by omega)).1,h1,t,h2,b2,o2,ha2,by omega,by omega,_,hc2,?_⟩
  (refine az ?_)
  obtain⟨b',o',t',ha',h1',h2',h3''⟩:=hpv7.at (pk 2 (by omega) (by omega)).1 (by have:=(pk 2 (by omega) (by omega)).2.1;omega)
  obtain⟨b2',o2',ha2',hc2',hl2'⟩:=h3''.elt (pf 2 (by omega) (by omega)).pos
  refine⟨b',o',ha',(pk 2 (by omega) (by omega)).1,h1',t',h2',b2',o2',ha2',by omega,by omega,_,hc2',?_⟩
  refine⟨bc,0,hca,by omega,by show (cU v n.b:Int)<_;omega,?_⟩
  (with_reducible apply cb);(exact gc);(exact l7);(exact hc3);(rw [List.length_map,bz];show 0+Int.toNat (cU v n.b:Int)*1+1<=_;omega)
  intro h8 gc' kp8 l8
  have n24:b24≠bc:=fun e=>mc e.symm
  have n15c:b15≠bc:=fun e=>by subst e;rw [hc3]at f15;cases f15
  replace f24:=cf kp8 n24 f24
  refine⟨c,by rw [aq f24];rfl,?_⟩
  refine res h8 c (Hp.le_trans l0 l8) (cf kp8 n15c g15) ?_
  have hcells:cv ((VL (v.getD n.a.toNat [])).map I) (0+Int.toNat (cU v n.b:Int)*1) [I (cU v n.c)]=(VL val).map I:=by
   rw [hnv,bO,Int.toNat_natCast,Nat.mul_one,Nat.zero_add]
   simp [VL,List.map_set]
  have gc2:h8 bc=some (.inl ⟨cv ((VL (v.getD n.a.toNat [])).map I) (0+Int.toNat (cU v n.b:Int)*1) [I (cU v n.c)],c.c*1,false⟩):=gc'
  rw [hcells]at gc2
  refine⟨by omega,by simp [bz,hnv,hcn], .inr ⟨bc,0,hca,ay gc2⟩⟩
 replace e38:=aY e38
 (refine az ?_)
 refine ac (fun e=>?_) (fun e21=>?_)
 ·have e:=bU e
  have hp2:ar n.kind=2:=by omega
  obtain⟨r1,_⟩:=SJ e hres
  rw [if_pos e]at hnv
  repeat' (refine az ?_)
  obtain⟨b',o',t',ha',h1',h2',h3''⟩:=vat 1 (by omega) (by omega)
  refine⟨b',o',ha',(pk 1 (by omega) (by omega)).1,h1',t',h2',?_⟩
  have hl4:=len4 0 (by omega) (by omega)
  have fl:=(pf 0 (by omega) (by omega)).len
  have fl':=(pf 1 (by omega) (by omega)).len
  simp only [aW]at fl fl'
  rw [<-r1]at fl'
  refine xv hta h3'' (by rw [bz];omega) (by rw [bz,bz];simp only [aW];omega) ⟨_,rfl,pa ⟨_,rfl,?_⟩⟩
  refine wres _ _ ?_ hnv
  simp only [aW,Gl]
  split<;>simp_all
 replace e21:=aY e21
 rw [if_neg e21,if_neg e37,if_neg e38]at hnv
 simp only [aW]at oa'
 have word0: ∀wn:Nat,(aE l n.a).wid=wn->WO wn (cU v n.a):=fun wn hw=>by
  have:=(pf 0 (by omega) (by omega)).cell
  simp only [aW]at this
  rw [hw]at this
  exact⟨by omega,this⟩
 obtain⟨wa,hwa'⟩: ∃wn:Nat,(aE l n.a).wid=wn:=⟨(aE l n.a).wid.toNat,by omega⟩
 have hwo:=word0 wa hwa'
 have h16:=hwo.pow
 have hlta:=hwo.2
 rw [hwa',Int.toNat_natCast]at hnv
 have e0':Hp.cell h4 b0 (o0+0*1)=some (I (cU v n.a)):=e0
 have hsw:(aE l (aW n 0)).wid=(wa:Int):=hwa'
 rw [hsw]
 (refine az ?_)
 refine ac (fun e=>?_) (fun e29=>?_)
 ·have e:=bU e
  have hp2:ar n.kind=2:=by omega
  obtain⟨r1,r2,r3,r4⟩:=O4 e hres
  rw [if_pos e]at hnv
  have ob:=bZ.1 (pk 1 (by omega) (by omega)).2.2
  simp only [aW]at ob
  obtain⟨wb,hwb⟩: ∃wn:Nat,(aE l n.b).wid=wn:=⟨(aE l n.b).wid.toNat,by omega⟩
  have hltb:=(pf 1 (by omega) (by omega)).cell
  simp only [aW]at hltb
  rw [hwb,Int.toNat_natCast]at hltb
  rw [hwb,Int.toNat_natCast]at hnv
  obtain⟨bw2,ow2,hwa2,hwl2,hwc2⟩:=(hsn.mono l0).wid (pk 1 (by omega) (by omega)).1 (by have:=(pk 1 (by omega) (by omega)).2.1;omega)
  simp only [aW]at hwc2
  rw [hwb]at hwc2
  (refine az ?_)
  refine⟨b0,o0,a0,by omega,by omega,_,e0',?_⟩
  (refine az ?_)
  refine⟨bw2,ow2,hwa2,(pk 1 (by omega) (by omega)).1,hwl2,_,hwc2,?_⟩
  (refine az ?_)
  obtain⟨b',o',t',ha',h1',h2',h3''⟩:=vat 1 (by omega) (by omega)
  obtain⟨b2',o2',ha2',hc2',hl2'⟩:=h3''.elt (pf 1 (by omega) (by omega)).pos
  refine⟨b',o',ha',(pk 1 (by omega) (by omega)).1,h1',t',h2',b2',o2',ha2',by omega,by omega,_,hc2',?_⟩
  exact HU hwo ⟨by omega,hltb⟩ (by omega) ⟨_,_,_,rfl,hJ _ hnv⟩
 replace e29:=aY e29
 rw [if_neg e29]at hnv
 (refine az ?_)
 refine ac (fun e=>?_) (fun e30=>?_)
 ·have e:=bU e
  obtain⟨r1,r2,r3⟩:=PT e hres
  rw [if_pos e]at hnv
  obtain⟨lo,hlo⟩: ∃z:Nat,n.m=z:=⟨n.m.toNat,by omega⟩
  obtain⟨hh,hhh⟩: ∃z:Nat,n.n=z:=⟨n.n.toNat,by omega⟩
  (refine az ?_)
  refine⟨b0,o0,a0,by omega,by omega,_,e0',?_⟩
  repeat' (refine az ?_)
  rw [hlo,hhh]
  refine Gw hwo (by omega) (by omega) ⟨_,_,_,rfl,hJ _ ?_⟩
  rw [hnv,hlo,hhh]
  unfold Nt
  rw [Int.toNat_natCast,show ((hh:Int)-(lo:Int)+1).toNat=hh-lo+1 by omega]
 replace e30:=aY e30
 rw [if_neg e30]at hnv
 refine ap (fun J=>J (decide (n.kind=31\/n.kind=32))) ?_ (fun J2 hJ2=>?_)
 rotate_left
 ·clear res wres cres vat hJ
  repeat' (first|(with_reducible first|refine aJ (b:=true) rfl ?_|refine aD (b:=false) rfl ?_|refine ac (fun _=>?_) fun _=>?_)|(refine az ?_)|(refine fq ?_ hJ2))
  all_goals (clear hJ2;rw [Bool.eq_iff_iff];simp_all)
 refine ac (fun e=>?_) (fun e31=>?_)
 ·have e:=of_decide_eq_true e
  obtain⟨r1,r2,r3⟩:=PL e hres
  rw [if_pos e]at hnv
  obtain⟨mo,hmo⟩: ∃z:Nat,n.n=z:=⟨n.n.toNat,by omega⟩
  (refine az ?_)
  refine⟨b0,o0,a0,by omega,by omega,_,e0',?_⟩
  repeat' (refine az ?_)
  rw [hmo]
  refine HZ hwo (by omega) ⟨_,_,_,rfl,hJ _ ?_⟩
  rw [hnv,hmo,Int.toNat_natCast];rfl
 replace e31:=of_decide_eq_false e31
 rw [if_neg e31]at hnv
 (refine az ?_)
 refine mV ⟨_,rfl,ac (fun e=>?_) (fun e1=>?_)⟩
 ·have e:=bU e
  rw [if_pos e]at hnv
  repeat' (refine az ?_)
  refine⟨b0,o0,a0,by omega,by omega,_,e0',?_⟩
  exact Bh (by omega) hwo ⟨_,_,_,rfl,hJ _ hnv⟩
 ·replace e1:=aY e1
  rw [if_neg e1]at hnv
  have hp2:ar n.kind=2:=by omega
  obtain⟨r1,r2,r3⟩:=VP (by omega) hres
  have hltb:=(pf 1 (by omega) (by omega)).cell
  simp only [aW]at hltb
  rw [<-r2,hwa',Int.toNat_natCast]at hltb
  repeat' (refine az ?_)
  refine⟨b0,o0,a0,by omega,by omega,_,e0',?_⟩
  (refine az ?_)
  obtain⟨b',o',t',ha',h1',h2',h3''⟩:=vat 1 (by omega) (by omega)
  obtain⟨b2',o2',ha2',hc2',hl2'⟩:=h3''.elt (pf 1 (by omega) (by omega)).pos
  refine⟨b',o',ha',(pk 1 (by omega) (by omega)).1,h1',t',h2',b2',o2',ha2',by omega,by omega,_,hc2',?_⟩
  exact Ar (by omega) hwo ⟨hwo.1,hltb⟩ ⟨_,_,_,rfl,hJ _ hnv⟩
theorem uh (ts:List Sl):yS (ts.map Sl.v):=by
 have:=B8 ts 0
 simpa using this
theorem IntS.offL {h:Hp} {s t:Sl} {xs:List Int} {ts:List Sl} (e:IntS h t xs) (hb:Buf h s 1 (ts.map Sl.v)):IntS (h.offS s) t xs:=by
 rcases hb.2.2 with ⟨ha,_,_⟩|⟨b,ha,hbb⟩
 ·unfold Hp.offS;rw [ha];exact e
 ·have ho:h.offS s=h.off b:=by unfold Hp.offS;rw [ha]
  rw [ho]
  refine e.keepN hbb (uh ts) fun c hc=>?_
  simp only [Hp.off,Hp.set];rw [if_neg hc]
theorem Buf.pval {h:Hp} {s:Sl} {ts:List Sl} {vs:List (List Nat)} (e:Buf h s 1 (ts.map Sl.v)) (hlen:ts.length=vs.length) (hn:s.n<=1048576) (ht: ∀(j:Nat) (t:Sl),ts[j]?=some t->IntS h t (VL (vs.getD j []))):ge h s vs:=by
 have hl:=e.1
 simp at hl
 refine⟨by omega,hn,fun p hp=>?_⟩
 rcases e.2.2 with ⟨_,h0,_⟩|⟨b,ha,hbb⟩
 ·omega
 ·refine⟨b,0,ts[p]'(by omega),ha,?_,ht p _ (List.getElem?_eq_getElem (by omega))⟩
  rw [aq hbb,Nat.zero_add,Nat.mul_one,List.getElem?_map,List.getElem?_eq_getElem (by omega)];rfl
def WH (h:Hp) (s:Sl):Prop:= ∀b o,s.a=some (Addr.mk b o none)->h b=none
theorem ph {h:Hp} {M:MSl} {m:ai} {sS sI:Sl} {st inp:List (List Nat)} {R:Value->Hp->Prop} (hs:aN h M m) (hm:bW m) (hok:co m.nodes=true) (hl:m.nodes.length<=60)
  (h1:IntSS h sS (st.map VL)) (f1:yZ m.nodes 36 st) (h2:IntSS h sI (inp.map VL)) (f2:yZ m.nodes 35 inp)
  (k: ∀t h',h.le h'->t.n=m.nodes.length->ge h' t (gL m.nodes st inp m.nodes.length)->WH h t->R (Sl.v t) h'):cX #[aO M,sS.v,sI.v] h R:=by
 apply JR
 refine uf_ ?_
 have hn:=hs.nodes.len
 have hsn:sS.n=st.length:=by obtain⟨ts,e1,e2,_⟩:=h1;have:=e2.2.1;simp at this e1;omega
 have hin:sI.n=inp.length:=by obtain⟨ts,e1,e2,_⟩:=h2;have:=e2.2.1;simp at this e1;omega
 refine aj fun b9 h3 hb9 l3 f9=>?_
 refine av m.nodes.length (fun i vs h'=> ∃(ts:List Sl) (out:Sl),vs= [sS.v,sI.v, .pointer (some ⟨b9,0,none⟩),out.v,I (aU (m.nodes.take i) 36).length,I (aU (m.nodes.take i) 35).length,I i]/\
  h.le (h'.offS out)/\(h'.offS out) b9=some (.inl ⟨aw M,5,false⟩)/\out.n=i/\ts.length=i/\Buf h' out 1 (ts.map Sl.v)/\
  (∀(j:Nat) (t:Sl),ts[j]?=some t->IntS (h'.offS out) t (VL ((gL m.nodes st inp i).getD j []))))
  ⟨[],⟨none,0,0⟩,rfl,l3,f9,rfl,rfl,eG _ _,fun j t ht=>by simp at ht⟩ ?_
 clear f9 l3 hb9 h3
 rintro i _ h3 next hi ⟨ts,out,rfl,l3,f9,hon,htl,hbuf,hts⟩ hnx
 have lo:=bk h3 out
 have f9':=lo _ _ f9
 have l3':=Hp.le_trans l3 lo
 refine⟨sS,sI,_,_,out,_,_,_,rfl,?_⟩
 (refine az ?_)
 by_cases hlt:i<m.nodes.length
 rotate_left
 ·have hie:i=m.nodes.length:=by omega
  subst hie
  refine aD (by simp;omega) (k out h3 l3' hon ?_ fun b o hb=>?_)
  ·exact hbuf.pval (by rw [eA];omega) (by omega) fun j t ht=>(hts j t ht).mono lo
  ·cases hx:h b with
   |none=>rfl
   |some x=>have:=l3 _ _ hx;simp [Hp.offS,hb,Hp.off,Hp.set]at this
 refine aJ (by simp;omega) ?_
 obtain⟨n,hni⟩: ∃n,m.nodes[i]?=some n:=⟨_,List.getElem?_eq_getElem hlt⟩
 obtain⟨b,o,ha,e0,e1,e2,e3,e4,e5,e6,e7,e8⟩:=(hs.nodes.mono l3').at hni
 (refine az ?_)
 refine⟨b,o,ha,by omega,by omega,_,e0,_,e1,_,e2,_,e3,_,e4,_,e5,_,e6,_,e7,_,e8,?_⟩
 refine aj fun b44 h4 hb44 l4 f44'=>?_
 (with_reducible apply cb);(exact f44');(exact l4);(exact hb44);(exact Nat.le_refl 9)
 intro h5 f44 kp l5
 clear f44' kp l4
 refine aj fun b50 h6 hb50 l6 f50'=>?_
 have n44:=fresh_ne hb50 f44
 have b50n:=aF l5 hb50
 replace f44:=l6 _ _ f44
 (with_reducible apply cb);(exact f50');(exact Hp.le_trans l5 l6);(exact b50n);(exact Nat.le_refl 1)
 intro h7 f50 kp l7
 replace f44:=cf kp n44 f44
 have f50v:h7 b50=some (.inl ⟨[.slice none 0 0],1,false⟩):=f50
 have f9'':=l7 _ _ f9'
 clear f50 f50' kp l5 l6 hb44 hb50 h4 h5 h6
 have l07:=Hp.le_trans l3' l7
 have hnext36:=sg (kind:=36) hni
 have hnext35:=sg (kind:=35) hni
 have hev:=Fr (s:=st) (inp:=inp) hni
 have hb36:(aU (m.nodes.take i) 36).length<=i:=by
  unfold aU
  refine Nat.le_trans (List.length_filter_le _ _) ?_
  rw [List.length_range,List.length_take];omega
 have hb35:(aU (m.nodes.take i) 35).length<=i:=by
  unfold aU
  refine Nat.le_trans (List.length_filter_le _ _) ?_
  rw [List.length_range,List.length_take];omega
 (refine az ?_)
 refine ap (fun J=> ∀(t:Sl) (x:List Nat) (h8:Hp),h3.le h8->h8 b50=some (.inl ⟨[t.v],1,false⟩)->IntS h8 t (VL x)->gL m.nodes st inp (i+1)=gL m.nodes st inp i++ [x]->
  J ((aU (m.nodes.take (i+1)) 36).length:Nat) ((aU (m.nodes.take (i+1)) 35).length:Nat) h8) ?_ (fun J hJ=>?_)
 ·intro t x h8 l8 g50 hval hev'
  (refine az ?_)
  refine aj fun b113 h9 hb113 l9 f113=>?_
  have l39:=Hp.le_trans l8 l9
  have l39o:=bM out l39
  refine dm (hbuf.mono l39) (by omega) (by omega) (by omega) ⟨b113,0,rfl,ay f113⟩ (by simp) rfl ?_
  intro s' h10 hs'n hbuf' l10 _
  rw [aA (by omega)]
  have l310:=Hp.le_trans l39o l10
  have hbuf'':Buf h10 s' 1 ((ts++ [t]).map Sl.v):=by rw [List.map_append];exact hbuf'
  refine hnx hlt _ _ ⟨ts++ [t],s',rfl,Hp.le_trans l3 l310,l310 _ _ f9,by omega,by simp;omega,hbuf'',fun j u hu=>?_⟩
  by_cases hj:j<i
  ·rw [List.getElem?_append_left (by omega)]at hu
   rw [hev',gH (by rw [eA];omega)]
   exact(hts j u hu).mono l310
  ·have hju:=get_lt hu
   simp at hju
   have hje:j=i:=by omega
   subst hje
   rw [List.getElem?_append_right (by omega),htl,Nat.sub_self]at hu
   simp at hu;subst hu
   rw [hev',List.getD_eq_getElem?_getD,List.getElem?_append_right (by rw [eA];omega),eA,Nat.sub_self]
   exact((hval.mono l9).offL (hbuf.mono l39)).mono l10
 have put: ∀(h8:Hp) (t:Sl) (x:List Nat) (P:Hp->Prop),h7.le h8->IntS h8 t (VL x)->(∀h9,h3.le h9->h9 b50=some (.inl ⟨[t.v],1,false⟩)->IntS h9 t (VL x)->P h9)->
   ∃(cs:List Value) (z:Nat),h8 b50=some (.inl ⟨cs,z,false⟩)/\0+1<=List.length cs/\cu (h8.row b50 (cv cs 0 [t.v]) z) fun h'=>P h':=by
  intro h8 t x P l8 hval hP
  have g50:=l8 _ _ f50v
  (with_reducible apply cb);(exact g50);(exact Hp.le_trans l7 l8);(exact b50n);(exact Nat.le_refl 1)
  intro h9 g kp l9
  exact hP h9 l9 g (hval.keep g50 kp)
 have hpv7:ge h7 out (gL m.nodes st inp i):=(hbuf.pval (by rw [eA];omega) (by omega) fun j t ht=>(hts j t ht).mono lo).mono l7
 have hfit:=yc hok f1 f2 i (Nat.le_of_lt hlt)
 have htyp:=tV hok hni
 refine ac (fun e=>?_) (fun e34=>?_)
 ·have e:=bU e
  rw [if_neg (by omega)]at hnext36 hnext35
  rw [if_neg (by omega),if_neg (by omega)]at hev
  obtain⟨c1,c2⟩:=htyp.const e
  have:=jP.1 c2
  have hx:gQ m.nodes n (gL m.nodes st inp i)= [n.n.toNat]:=by unfold gQ;rw [if_pos e]
  (refine az ?_)
  refine Gu fun t h8 l8 hval=>⟨t,rfl,put h8 t [n.n.toNat] _ l8 ?_ fun h9 l9 g50 hv9=>?_⟩
  ·have:VL [n.n.toNat]= [n.n]:=by simp [VL];omega
   rw [this];exact hval
  ·have:=hJ t _ h9 l9 g50 hv9 (by rw [hev,hx])
   rw [hnext36,hnext35,Nat.add_zero,Nat.add_zero]at this;exact this
 replace e34:=aY e34
 refine ac (fun e=>?_) (fun e36=>?_)
 ·have e:=bU e
  rw [if_pos e]at hnext36 hev
  rw [if_neg (by omega)]at hnext35
  have hlt36:=xZ hni e
  have hfk:=f1.2 _ _ (ue hni e)
  have hfs:aE m.nodes ((i:Nat):Int)=n.sort:=by unfold aE;rw [Int.toNat_natCast,hni]
  rw [hfs]at hfk
  rw [<-f1.1]at hlt36
  obtain⟨bs,os,t,ha,hc,ht⟩:=(h1.mono l07).at (i:=(aU (m.nodes.take i) 36).length) (by simpa using hlt36)
  have hst:(st.map VL)[(aU (m.nodes.take i) 36).length]'(by simpa using hlt36)=VL (st.getD (aU (m.nodes.take i) 36).length []):=by
   rw [List.getElem_map,List.getD_eq_getElem?_getD,List.getElem?_eq_getElem hlt36];rfl
  rw [hst]at ht
  have hso:=bZ.1 htyp.sort
  have hlen4:(st.getD (aU (m.nodes.take i) 36).length []).length<=4:=by
   rw [hfk.len];have:=Nat.pow_le_pow_right (n:=2) (by omega) (show n.sort.idx.toNat<=2 by omega);simpa using this
  refine⟨bs,os,ha,by omega,by omega,t,by rw [Int.toNat_natCast,Nat.mul_one];exact hc,?_⟩
  refine qh ht (by rw [bz];omega) fun c h8 l8 hb8=>⟨c,rfl,put h8 c _ _ l8 (hb8.slS (by have:=hb8.1;rw [List.length_map,bz]at this;omega)) fun h9 l9 g50 hv9=>?_⟩
  have:=hJ c _ h9 l9 g50 hv9 hev
  rw [hnext36,hnext35,Nat.add_zero]at this
  rw [aA (by omega)];exact this
 replace e36:=aY e36
 rw [if_neg e36]at hnext36 hev
 refine ac (fun e=>?_) (fun e35=>?_)
 ·have e:=bU e
  rw [if_pos e]at hnext35 hev
  have hlt35:=xZ hni e
  have hfk:=f2.2 _ _ (ue hni e)
  have hfs:aE m.nodes ((i:Nat):Int)=n.sort:=by unfold aE;rw [Int.toNat_natCast,hni]
  rw [hfs]at hfk
  rw [<-f2.1]at hlt35
  obtain⟨bs,os,t,ha,hc,ht⟩:=(h2.mono l07).at (i:=(aU (m.nodes.take i) 35).length) (by simpa using hlt35)
  have hst:(inp.map VL)[(aU (m.nodes.take i) 35).length]'(by simpa using hlt35)=VL (inp.getD (aU (m.nodes.take i) 35).length []):=by
   rw [List.getElem_map,List.getD_eq_getElem?_getD,List.getElem?_eq_getElem hlt35];rfl
  rw [hst]at ht
  have hso:=bZ.1 htyp.sort
  have hlen4:(inp.getD (aU (m.nodes.take i) 35).length []).length<=4:=by
   rw [hfk.len];have:=Nat.pow_le_pow_right (n:=2) (by omega) (show n.sort.idx.toNat<=2 by omega);simpa using this
  refine⟨bs,os,ha,by omega,by omega,t,by rw [Int.toNat_natCast,Nat.mul_one];exact hc,?_⟩
  refine qh ht (by rw [bz];omega) fun c h8 l8 hb8=>⟨c,rfl,put h8 c _ _ l8 (hb8.slS (by have:=hb8.1;rw [List.length_map,bz]at this;omega)) fun h9 l9 g50 hv9=>?_⟩
  have:=hJ c _ h9 l9 g50 hv9 hev
  rw [hnext36,hnext35,Nat.add_zero]at this
  rw [aA (by omega)];exact this
 replace e35:=aY e35
 rw [if_neg e35]at hnext35 hev
 repeat' (refine az ?_)
 refine Mc (n:=n) hl (Nat.le_of_lt hlt) htyp hfit (eA _ _ _ _) (hs.nodes.mono l07) hpv7 e34 e35 e36 fun t h8 l8 hval=>⟨t,rfl,put h8 t _ _ l8 hval fun h9 l9 g50 hv9=>?_⟩
 have:=hJ t _ h9 l9 g50 hv9 hev
 rw [hnext36,hnext35,Nat.add_zero,Nat.add_zero]at this;exact this
theorem FR {l:List NodeP} {kind:Int} {p:Nat} (h:p∈aU l kind): ∃n,l[p]?=some n/\n.kind=kind:=by
 unfold aU at h
 rw [List.mem_filter,List.mem_range]at h
 cases hn:l[p]? with
 |none=>rw [hn]at h;exact absurd h.2 Bool.false_ne_true
 |some n=>rw [hn]at h;exact⟨n,rfl,by simpa using h.2⟩
theorem Dp (l:List NodeP) (hok:co l=true) (kind:Int):cw l (aU l kind)=ak l kind:=by
 have key: ∀i,i<=l.length->cw l (aU (l.take i) kind)=ak (l.take i) kind:=by
  intro i
  induction i with
  |zero=>intro _;simp [aU,cw,ak]
  |succ i ih=>
   intro hi
   obtain⟨n,hn⟩: ∃n,l[i]?=some n:=⟨_,List.getElem?_eq_getElem (by omega)⟩
   rw [kD hn,BP kind hn,<-ih (by omega)]
   have hs:=bZ.1 (tV hok hn).sort
   have hsa:aE l ((i:Nat):Int)=n.sort:=by unfold aE;rw [Int.toNat_natCast,hn]
   by_cases hk:n.kind=kind
   ·rw [if_pos hk,if_pos hk]
    unfold cw
    rw [List.map_append,List.sum_append]
    simp only [List.map_cons,List.map_nil,List.sum_cons,List.sum_nil,Nat.add_zero]
    unfold cc aK dG
    rw [hsa,Nat.mul_comm]
   ·rw [if_neg hk,if_neg hk,List.append_nil,Nat.add_zero]
 have:=key l.length (Nat.le_refl _)
 rwa [List.take_of_length_le (Nat.le_refl _)]at this
theorem FU {l:List NodeP} (hok:co l=true) (kind:Int) (code:Nat):yZ l kind (gj l (aU l kind) code):=by
 refine⟨ky _ _ _,fun k p hp=>?_⟩
 rw [GS hp]
 obtain⟨n,hn,_⟩:=FR (List.mem_of_getElem? hp)
 have hsa:aE l ((p:Nat):Int)=n.sort:=by unfold aE;rw [Int.toNat_natCast,hn]
 have hso:=(tV hok hn).sort
 refine⟨?_,fun x hx=>Ph hx⟩
 rw [qf]
 unfold aK cL
 rw [hsa,if_pos hso]
theorem uo (a b:List Nat):VL (a++b)=VL a++VL b:=by simp [VL]
theorem lV {h:Hp} {M:MSl} {m:ai} {kind:Int} {R:Value->Hp->Prop} (hs:aN h M m) (hm:bW m)
  (k: ∀t h',h.le (h'.offS t)->t.n<=m.nodes.length->Buf h' t 1 ((VL (aU m.nodes kind)).map I)->R (Sl.v t) h'):bJ #[aO M,I kind] h R:=by
 apply yR
 refine uf_ ?_
 have hn:=hs.nodes.len
 have hns:=hm.nodes
 refine aj fun b8 h1 hb8 l1 f8=>?_
 (refine az ?_)
 refine av m.nodes.length (fun i vs h'=> ∃out:Sl,vs= [I kind,out.v,M.no.v,I M.no.n,I i]/\h.le (h'.offS out)/\out.n<=i/\Buf h' out 1 ((VL (aU (m.nodes.take i) kind)).map I)) ⟨⟨none,0,0⟩,rfl,l1,Nat.le_refl _,by simp [aU,VL];exact eG _ _⟩ ?_
 clear l1 f8 hb8 h1
 rintro i _ h1 next hi ⟨out,rfl,l1,hon,hbuf⟩ hnx
 have lo:=bk h1 out
 have l1':=Hp.le_trans l1 lo
 refine⟨_,out,M.no,_,_,rfl,?_⟩
 by_cases hlt:i<m.nodes.length
 ·refine aJ (by simp;omega) ?_
  obtain⟨n,hni⟩: ∃n,m.nodes[i]?=some n:=⟨_,List.getElem?_eq_getElem hlt⟩
  obtain⟨b,o,ha,e0,e1,e2,e3,e4,e5,e6,e7,e8⟩:=(hs.nodes.mono l1').at hni
  refine⟨b,o,ha,by omega,by omega,_,e0,_,e1,_,e2,_,e3,_,e4,_,e5,_,e6,_,e7,_,e8,?_⟩
  refine aj fun b36 h2 hb36 l2 f36=>?_
  (with_reducible apply cb);(exact f36);(exact l2);(exact hb36);(exact Nat.le_refl 9)
  intro h3 f36' kp l3
  have hpre:=kD (kind:=kind) hni
  have l3o:=bM out l3
  (refine az ?_)
  rw [aA (by omega)]
  refine ac (fun e=>?_) (fun e=>?_)
  ·rw [if_pos (bU e)]at hpre
   refine aj fun b44 h4 hb44 l4 f44=>?_
   have l4o:=bM out l4
   refine dm (hbuf.mono (Hp.le_trans l3 l4)) (by omega) (by omega) (by omega) ⟨b44,0,rfl,ay f44⟩ (by simp) rfl ?_
   intro s' h5 hs'n hbuf' l5 _
   refine hnx hlt _ _ ⟨s',rfl,Hp.le_trans l1 (Hp.le_trans l3o (Hp.le_trans l4o l5)),by omega,?_⟩
   rw [hpre,uo,List.map_append];exact hbuf'
  ·rw [if_neg (aY e),List.append_nil]at hpre
   refine hnx hlt _ _ ⟨out,rfl,Hp.le_trans l1 l3o,by omega,?_⟩
   rw [hpre];exact hbuf.mono l3
 ·refine aD (by simp;omega) (k out h1 l1 (by omega) ?_)
  rw [List.take_of_length_le (by omega)]at hbuf
  exact hbuf
theorem dS {h:Hp} {M:MSl} {m:ai} {kind:Int} {R:Value->Hp->Prop} (hs:aN h M m) (hm:bW m)
  (k: ∀t h',h.le h'->IntS h' t (VL (aU m.nodes kind))->R (Sl.v t) h'):bJ #[aO M,I kind] h R:=
 lV hs hm fun t h' l hn hb=>k t h' (Hp.le_trans l (bk _ _)) (hb.slc_of (by have:=hm.nodes;omega))
theorem cO {h:Hp} {M:MSl} {m:ai} {kind:Int} {R:Value->Hp->Prop} (hs:aN h M m) (hm:bW m)
  (k: ∀t h',h.le h'->IntS h' t (VL (aU m.nodes kind))->R (Sl.v t) h'):aR #[aO M,I kind] h R:=by
 apply EE
 refine uf_ ?_
 have hn:=hs.nodes.len
 have hns:=hm.nodes
 refine aj fun b8 h1 hb8 l1 f8=>?_
 refine av m.nodes.length (fun i vs h'=> ∃out:Sl,vs= [I kind, .pointer (some ⟨b8,0,none⟩),out.v,I i]/\h.le (h'.offS out)/\(h'.offS out) b8=some (.inl ⟨aw M,5,false⟩)/\out.n<=i/\Buf h' out 1 ((VL (aU (m.nodes.take i) kind)).map I)) ⟨⟨none,0,0⟩,rfl,l1,f8,Nat.le_refl _,by simp [aU,VL];exact eG _ _⟩ ?_
 clear l1 f8 hb8 h1
 rintro i _ h1 next hi ⟨out,rfl,l1,f8,hon,hbuf⟩ hnx
 have lo:=bk h1 out
 have l1':=Hp.le_trans l1 lo
 have f8':=lo _ _ f8
 refine⟨_,_,_,out,_,rfl,?_⟩
 (refine az ?_)
 by_cases hlt:i<m.nodes.length
 ·refine aJ (by simp;omega) ?_
  obtain⟨n,hni⟩: ∃n,m.nodes[i]?=some n:=⟨_,List.getElem?_eq_getElem hlt⟩
  obtain⟨b,o,ha,e0,_⟩:=(hs.nodes.mono l1').at hni
  have hpre:=kD (kind:=kind) hni
  (refine az ?_)
  refine⟨b,o,ha,by omega,by omega,_,e0,?_⟩
  rw [aA (by omega)]
  refine ac (fun e=>?_) (fun e=>?_)
  ·rw [if_pos (bU e)]at hpre
   refine aj fun b44 h4 hb44 l4 f44=>?_
   have l4o:=bM out l4
   refine dm (hbuf.mono l4) (by omega) (by omega) (by omega) ⟨b44,0,rfl,ay f44⟩ (by simp) rfl ?_
   intro s' h5 hs'n hbuf' l5 _
   have l15:=Hp.le_trans l4o l5
   refine hnx hlt _ _ ⟨s',rfl,Hp.le_trans l1 l15,l15 _ _ f8,by omega,?_⟩
   rw [hpre,uo,List.map_append];exact hbuf'
  ·rw [if_neg (aY e),List.append_nil]at hpre
   refine hnx hlt _ _ ⟨out,rfl,l1,f8,by omega,?_⟩
   rw [hpre];exact hbuf
 ·refine aD (by simp;omega) (k out h1 l1' ?_)
  rw [List.take_of_length_le (by omega)]at hbuf
  exact hbuf.slc_of (by omega)
structure su (h0 h:Hp) (out:Sl) (ts:List Sl) (vs:List (List Nat)):Prop where
 len:ts.length=vs.length
 row: ∀(i:Nat) (t:Sl),ts[i]?=some t-> ∃b,t=⟨some ⟨b,0,none⟩,(vs.getD i []).length,(vs.getD i []).length⟩/\h0 b=none/\
  (h.offS out) b=some (.inl ⟨(VL (vs.getD i [])).map I,(vs.getD i []).length,false⟩)
 dis: ∀(i j:Nat) (t u:Sl),ts[i]?=some t->ts[j]?=some u->t.a=u.a->i=j
 buf:Buf h out 1 (ts.map Sl.v)
 le:h0.le (h.offS out)
theorem su.ints {h0 h:Hp} {out:Sl} {ts:List Sl} {vs:List (List Nat)} (e:su h0 h out ts vs) (hl: ∀v∈vs,v.length<=1048576) (hn:out.n<=1048576):IntSS h out (vs.map VL):=by
 refine⟨ts,by rw [List.length_map];exact e.len,e.buf.slc_of (by omega),fun i h1 h2=>?_⟩
 obtain⟨b,ht,_,hr⟩:=e.row i _ (List.getElem?_eq_getElem h1)
 have hi:i<vs.length:=by rw [List.length_map]at h2;exact h2
 have hv:(vs.map VL)[i]=VL (vs.getD i []):=by
  rw [List.getElem_map,List.getD_eq_getElem?_getD,List.getElem?_eq_getElem hi];rfl
 have hvl:(vs.getD i []).length<=1048576:=by
  rw [List.getD_eq_getElem?_getD,List.getElem?_eq_getElem hi];exact hl _ (List.getElem_mem hi)
 rw [ht,hv]
 refine⟨by dsimp only;omega,by simp [bz], .inr ⟨b,0,rfl,ay (bk _ _ _ _ hr)⟩⟩
def da (l:List NodeP) (ps:List Nat):List (List Nat):=ps.map fun p=>List.replicate (aK l p) 0
theorem di (l:List NodeP) (p:Nat):aK l p<=4:=uv _
theorem gp {ps:List Nat} {i p:Nat} (h:ps[i]?=some p):(VL ps)[i]?=some ((p:Nat):Int):=by simp [VL,h]
theorem jm.sortc {h:Hp} {s:Sl} {l:List NodeP} (e:jm h s l) {p:Nat} (hp:p<l.length):
  ∃b o,s.a=some (Addr.mk b o none)/\(p:Int)<(s.n:Int)/\Hp.cell h b ((o+Int.toNat (p:Int)*9)+6)=some (I (aE l p).idx)/\Hp.cell h b ((o+Int.toNat (p:Int)*9)+6+1)=some (I (aE l p).wid):=by
 obtain⟨n,hn1⟩: ∃n,l[p]?=some n:=⟨_,List.getElem?_eq_getElem hp⟩
 obtain⟨ba,oa,ha1,_,_,_,_,_,_,c6,c7,_⟩:=e.at hn1
 have hsa:aE l ((p:Nat):Int)=n.sort:=by unfold aE;rw [Int.toNat_natCast,hn1]
 refine⟨ba,oa,ha1,by have:=e.len;omega,?_⟩
 rw [hsa];exact⟨c6,c7⟩
theorem rH {h:Hp} {M:MSl} {m:ai} {s:Sl} {ps:List Nat} {R:Value->Hp->Prop} (hs:aN h M m) (hm:bW m) (hp:IntS h s (VL ps)) (hps: ∀p∈ps,p<m.nodes.length) (hpl:ps.length<=1048576)
  (k: ∀out ts h',su h h' out ts (da m.nodes ps)->out.n=ps.length->R (Sl.v out) h'):ew #[aO M,s.v] h R:=by
 apply zR
 refine uf_ ?_
 have hn:=hs.nodes.len
 have hns:=hm.nodes
 have hsn:=hp.len
 rw [bz]at hsn
 refine aj fun b8 h1 hb8 l1 f8=>?_
 refine av ps.length (fun i vs h'=> ∃(out:Sl) (ts:List Sl),vs= [.pointer (some ⟨b8,0,none⟩),out.v,s.v,I s.n,I i]/\su h h' out ts (da m.nodes (ps.take i))/\out.n=i/\(h'.offS out) b8=some (.inl ⟨aw M,5,false⟩))
  ⟨⟨none,0,0⟩, [],rfl,⟨rfl,fun i t ht=>by simp at ht,fun i j t u ht=>by simp at ht,eG _ _,l1⟩,rfl,f8⟩ ?_
 clear l1 f8 hb8 h1
 rintro i _ h1 next hi ⟨out,ts,rfl,hC,hon,f8⟩ hnx
 have lo:=bk h1 out
 have l1:=Hp.le_trans hC.le lo
 have f8':=lo _ _ f8
 refine⟨_,_,out,s,_,_,rfl,?_⟩
 by_cases hlt:i<ps.length
 ·refine aJ (by simp;omega) ?_
  obtain⟨p,hpi⟩: ∃p,ps[i]?=some p:=⟨_,List.getElem?_eq_getElem hlt⟩
  have hpm:=hps p (List.mem_of_getElem? hpi)
  obtain⟨b,o,ha,hc⟩:=(hp.mono l1).get (gp hpi)
  refine⟨b,o,ha,by omega,by omega,_,hc,?_⟩
  (refine az ?_)
  obtain⟨bn,on,han,hpn,c6,c7⟩:=(hs.nodes.mono l1).sortc hpm
  refine⟨bn,on,han,by omega,hpn,_,c6,_,c7,?_⟩
  refine la ⟨_,rfl,?_⟩
  have hce:cL ⟨(aE m.nodes p).idx,(aE m.nodes p).wid⟩=aK m.nodes p:=rfl
  rw [hce]
  have hc4:=di m.nodes p
  refine⟨by omega,by omega,by omega,by omega,?_⟩
  refine aj fun b38 h2 hb38 l2 f38=>?_
  refine aj fun b40 h3 hb40 l3 f40=>?_
  have l13:=Hp.le_trans l2 l3
  have l13o:=bM out l13
  replace f38:=l3 _ _ f38
  rw [Int.toNat_natCast,Nat.mul_one,cj]at f38
  rw [Int.toNat_natCast]at f40
  have hno: ∀a,out.a=some a->a.block≠b38:=by
   intro a ha' e
   rcases hC.buf.2.2 with ⟨h0,_⟩|⟨c,hc',hcb⟩
   ·rw [h0]at ha';cases ha'
   ·rw [hc']at ha';cases ha'
    subst e
    rw [hb38]at hcb;cases hcb
  have f38o:(h3.offS out) b38=some (.inl ⟨List.replicate (aK m.nodes p) (I 0),aK m.nodes p,false⟩):=by rw [BH hno];exact f38
  refine dm (hC.buf.mono l13) (by omega) (by omega) (by omega) ⟨b40,0,rfl,ay f40⟩ (by simp) rfl ?_
  intro s' h4 hs'n hbuf' l4 _
  have l14:=Hp.le_trans l13o l4
  rw [aA (by omega)]
  have hvs:da m.nodes (ps.take (i+1))=da m.nodes (ps.take i)++ [List.replicate (aK m.nodes p) 0]:=by
   unfold da
   rw [List.take_succ_eq_append_getElem hlt,List.map_append]
   rw [List.getElem?_eq_getElem hlt]at hpi
   rw [Option.some.inj hpi];rfl
  have hlen:=hC.len
  have hzl:(da m.nodes (ps.take i)).length=i:=by unfold da;simp;omega
  have b38h:h b38=none:=aF l1 hb38
  refine hnx hlt _ _ ⟨s',ts++ [⟨some ⟨b38,0,none⟩,aK m.nodes p,aK m.nodes p⟩],rfl,⟨?_,fun j t ht=>?_,fun j j' t u ht hu hau=>?_,by rw [List.map_append];exact hbuf',Hp.le_trans hC.le l14⟩,by omega,l14 _ _ f8⟩
  ·rw [hvs,List.length_append,List.length_append,hlen];rfl
  ·by_cases hj:j<i
   ·rw [List.getElem?_append_left (by omega)]at ht
    obtain⟨b',e1,e2,e3⟩:=hC.row j t ht
    rw [hvs,gH (by omega)]
    exact⟨b',e1,e2,l14 _ _ e3⟩
   ·have hju:=get_lt ht
    simp at hju
    have hje:j=i:=by omega
    subst hje
    rw [List.getElem?_append_right (by omega),show j-ts.length=0 by omega]at ht
    simp at ht;subst ht
    rw [hvs,List.getD_eq_getElem?_getD,List.getElem?_append_right (by omega),hzl,Nat.sub_self]
    refine⟨b38,by simp,b38h,?_⟩
    have:=l4 _ _ f38o
    simpa [VL] using this
  ·have hb: ∀(q:Nat) (z:Sl),ts[q]?=some z->z.a≠some ⟨b38,0,none⟩:=by
    intro q z hz he
    obtain⟨b',e1,e2,e3⟩:=hC.row q z hz
    rw [e1]at he
    have hbb:b'=b38:=by simpa using he
    subst hbb
    have:=lo _ _ e3
    rw [hb38]at this;cases this
   by_cases hj:j<i
   ·rw [List.getElem?_append_left (by omega)]at ht
    by_cases hj':j'<i
    ·rw [List.getElem?_append_left (by omega)]at hu
     exact hC.dis j j' t u ht hu hau
    ·have hju:=get_lt hu
     simp at hju
     rw [List.getElem?_append_right (by omega),show j'-ts.length=0 by omega]at hu
     simp at hu;subst hu
     exact absurd hau (hb j t ht)
   ·have hjt:=get_lt ht
    simp at hjt
    by_cases hj':j'<i
    ·rw [List.getElem?_append_left (by omega)]at hu
     rw [List.getElem?_append_right (by omega),show j-ts.length=0 by omega]at ht
     simp at ht;subst ht
     exact absurd hau.symm (hb j' u hu)
    ·have hju:=get_lt hu
     simp at hju
     omega
 ·have hie:i=ps.length:=by omega
  subst hie
  rw [List.take_of_length_le (Nat.le_refl _)]at hC
  exact aD (by simp;omega) (k out ts h1 hC hon)
structure dP (m:ai):Prop where
 nl:m.nodes.length<=60
 il:m.inits.length<=60
 xl:m.nexts.length<=60
 bl:m.bads.length<=4
 hl:m.holds.length<=4
 ok:co m.nodes=true
 twice:tf m=false
 ini: ∀b∈m.inits,iG m.nodes b=true
 nex: ∀b∈m.nexts,fy m.nodes b=true
 bad: ∀p∈m.bads,dR m.nodes p=true
 hol: ∀p∈m.holds,dR m.nodes p=true
 n8:ak m.nodes 36<=8
 k5:ak m.nodes 35<=5
theorem jT {c:Prop} [Decidable c] {x y:Int} (hx:x≠0) (h:(if c then x else y)=0): ¬c/\y=0:=by
 split at h
 ·exact absurd h hx
 ·rename_i hc;exact⟨hc,h⟩
theorem cn {m:ai} (h:ax m=0):dP m:=by
 unfold ax at h
 obtain⟨h1,h⟩:=jT (by decide) h
 obtain⟨h2,h⟩:=jT (by decide) h
 obtain⟨h3,h⟩:=jT (by decide) h
 obtain⟨h4,h⟩:=jT (by decide) h
 obtain⟨h5,h⟩:=jT (by decide) h
 obtain⟨h6,h⟩:=jT (by decide) h
 simp only [Bool.not_eq_false,Bool.and_eq_true,List.all_eq_true,Bool.not_eq_true]at h2 h3 h4 h5
 exact⟨by omega,by omega,by omega,by omega,by omega,h2,h3,h4.1,h4.2,h5.1,h5.2,by omega,by omega⟩
theorem dP.small {m:ai} (g:dP m): ∀n∈m.nodes,n.name.size<=8:=by
 intro n hn
 obtain⟨i,hi,e⟩:=List.getElem_of_mem hn
 have hf:=kN g.ok (i:=i) (n:=n) (by rw [List.getElem?_eq_getElem hi,e])
 unfold eU at hf
 simp only [Bool.and_eq_true]at hf
 have hf':=hf.1.1.2
 split at hf'
 ·unfold fL at hf'
  simp only [Bool.and_eq_true,decide_eq_true_eq]at hf';omega
 ·simp only [decide_eq_true_eq]at hf';omega
theorem pX {l:List NodeP} (hok:co l=true) {p:Nat} (hp:p<l.length):bR (aE l p)=true:=by
 have hn:l[p]?=some l[p]:=List.getElem?_eq_getElem hp
 have:aE l ((p:Nat):Int)=l[p].sort:=by unfold aE;rw [Int.toNat_natCast,hn]
 rw [this];exact(tV hok hn).sort
theorem uc {l:List NodeP} (hok:co l=true) {p:Nat} (hp:p<l.length) {v:List Nat} (h:Fit (aE l p) v):v.length=aK l p/\ ∀x∈v,x<2^cc l p:=by
 refine⟨?_,h.lt⟩
 unfold aK cL
 rw [if_pos (pX hok hp),h.len]
theorem RA {l:List NodeP} (hok:co l=true) {p:Nat} (hp:p<l.length) {v:List Nat} (h:v.length=aK l p/\ ∀x∈v,x<2^cc l p):Fit (aE l p) v:=by
 refine⟨?_,h.2⟩
 have:=h.1
 unfold aK cL at this
 rwa [if_pos (pX hok hp)]at this
theorem mu {l:List NodeP} {kind:Int} {p:Nat} (h:p∈aU l kind):p<l.length:=by
 obtain⟨n,hn,_⟩:=FR h
 exact get_lt hn
theorem xY {l:List NodeP} (hok:co l=true) {kind:Int} {vs:List (List Nat)} (h:mw l (aU l kind) vs):yZ l kind vs:=by
 refine⟨nZ h,fun k p hp=>?_⟩
 exact RA hok (mu (List.mem_of_getElem? hp)) (pJ h hp)
def FN (m:ai) (s i:List (List Nat)):List (List Nat):=gL m.nodes s i m.nodes.length
abbrev stP (m:ai):List Nat:=aU m.nodes 36
abbrev inP (m:ai):List Nat:=aU m.nodes 35
def cK (m:ai) (s i:Nat):List (List Nat):=FN m (gj m.nodes (stP m) s) (gj m.nodes (inP m) i)
def iR (m:ai) (v:List (List Nat)):Bool:=m.holds.all fun p=>decide (cU v p=1)
def qp (m:ai) (v:List (List Nat)):Option Nat:=m.bads.findIdx? fun p=>decide (cU v p=1)
def DT (m:ai) (v:List (List Nat)):Int:=match qp m v with|some d=>d|none=> -1
def iV (m:ai) (v:List (List Nat)) (p:Nat):Option (List Nat):=(ce m.nexts p).map fun k=>v.getD k []
def gn (m:ai) (v:List (List Nat)):List (List Nat):=kz m.nodes (iV m v) (stP m)
def mL (c:Nat) (v:List Nat):List Nat:=v++List.replicate (c-v.length) (v.getD 0 0)
def od (m:ai):List (List Nat):=FN m (da m.nodes (stP m)) (da m.nodes (inP m))
def eV (m:ai) (p:Nat):Option (List Nat):=(ce m.inits p).map fun k=>mL (aK m.nodes p) ((od m).getD k [])
def ln (m:ai):List (List Nat):=kz m.nodes (eV m) (stP m)
def Oi (m:ai) (binds:List BindP):Nat:=fI m.nodes (fun p=>(ce binds p).isSome) (stP m)
def aG (m:ai):aC where
 n:=ak m.nodes 36
 k:=ak m.nodes 35
 hold c:=iR m (cK m (c%2^ak m.nodes 36) (c/2^ak m.nodes 36))
 bad c:=(qp m (cK m (c%2^ak m.nodes 36) (c/2^ak m.nodes 36))).isSome
 next c:=dZ m.nodes (stP m) (gn m (cK m (c%2^ak m.nodes 36) (c/2^ak m.nodes 36)))
 fixed:=Oi m m.nexts
 bfix:=Oi m m.inits
 bas:=dZ m.nodes (stP m) (ln m)
theorem gP {binds:List BindP} {p k:Nat} (h:ce binds p=some k): ∃b∈binds,b.state=(p:Int)/\b.node.toNat=k:=by
 unfold ce at h
 rw [Option.map_eq_some_iff]at h
 obtain⟨b,hb,hk⟩:=h
 exact⟨b,List.mem_of_find?_eq_some hb,by simpa using List.find?_some hb,hk⟩
theorem jA {l:List NodeP} {b:BindP} (h:fy l b=true):cW l b.state=true/\cW l b.node=true/\jI l b.state=36/\aE l b.state=aE l b.node:=by
 unfold fy at h
 simp only [Bool.and_eq_true,decide_eq_true_eq]at h
 exact⟨h.1.1.1,h.1.1.2,h.1.2,h.2⟩
theorem zZ {l:List NodeP} {b:BindP} (h:iG l b=true):cW l b.state=true/\cW l b.node=true/\jI l b.state=36/\(aE l b.state=aE l b.node\/aE l b.node=cx (aE l b.state).wid)/\(dE l l.length).getD b.node.toNat false=false:=by
 unfold iG at h
 simp only [Bool.and_eq_true,Bool.or_eq_true,decide_eq_true_eq,Bool.not_eq_true']at h
 exact⟨h.1.1.1,h.1.1.2,h.1.2,h.2.1,h.2.2⟩
theorem eZ {l:List NodeP} {p:Int}:cW l p=true↔0<=p/\p<l.length:=by
 unfold cW;rw [decide_eq_true_eq];omega
theorem xQ {m:ai} (g:dP m) (s i:Nat):xM m.nodes m.nodes.length (cK m s i):=
 yc g.ok (FU g.ok 36 s) (FU g.ok 35 i) _ (Nat.le_refl _)
theorem mQ (l:List NodeP) (ps:List Nat):mw l ps (da l ps):=by
 induction ps with
 |nil=>rfl
 |cons p ps ih=>
  refine⟨_,_,rfl,by simp,fun x hx=>?_,ih⟩
  simp at hx
  rw [hx.2];exact bD _
theorem Mq {m:ai} (g:dP m) {s i:List (List Nat)} (hs:mw m.nodes (stP m) s) (hi:mw m.nodes (inP m) i):xM m.nodes m.nodes.length (FN m s i):=
 yc g.ok (xY g.ok hs) (xY g.ok hi) _ (Nat.le_refl _)
theorem IM (m:ai) (s i:List (List Nat)):(FN m s i).length=m.nodes.length:=eA _ _ _ _
theorem ub {m:ai} (g:dP m) {v:List (List Nat)} (hv:xM m.nodes m.nodes.length v) {p:Nat} {x:List Nat} (h:iV m v p=some x):x.length=aK m.nodes p/\ ∀y∈x,y<2^cc m.nodes p:=by
 unfold iV at h
 rw [Option.map_eq_some_iff]at h
 obtain⟨k,hk,rfl⟩:=h
 obtain⟨b,hb,hs,rfl⟩:=gP hk
 obtain⟨h1,h2,h3,h4⟩:=jA (g.nex b hb)
 have h2':=eZ.1 h2
 have h1':=eZ.1 h1
 have hn:((b.node.toNat:Nat):Int)=b.node:=by omega
 have:=hv b.node.toNat (by omega) (by omega)
 rw [hn,<-h4,hs]at this
 exact uc g.ok (by omega) this
theorem qX {m:ai} (g:dP m) {p:Nat} {x:List Nat} (h:eV m p=some x):x.length=aK m.nodes p/\ ∀y∈x,y<2^cc m.nodes p:=by
 unfold eV at h
 rw [Option.map_eq_some_iff]at h
 obtain⟨k,hk,rfl⟩:=h
 obtain⟨b,hb,hs,rfl⟩:=gP hk
 obtain⟨h1,h2,h3,h4,_⟩:=zZ (g.ini b hb)
 have h2':=eZ.1 h2
 have h1':=eZ.1 h1
 have hn:((b.node.toNat:Nat):Int)=b.node:=by omega
 have hv:=Mq g (mQ m.nodes (stP m)) (mQ m.nodes (inP m)) b.node.toNat (by omega) (by omega)
 have hf:=uc g.ok (show b.node.toNat<m.nodes.length by omega) hv
 rw [hn]at hv
 have hwid:cc m.nodes b.node.toNat=cc m.nodes p/\aK m.nodes b.node.toNat<=aK m.nodes p:=by
  unfold cc aK
  rw [hn,<-hs]
  rcases h4 with h4|h4
  ·rw [h4];exact⟨rfl,Nat.le_refl _⟩
  ·rw [h4]
   refine⟨rfl,?_⟩
   have ho:bR (aE m.nodes b.state)=true:=by rw [hs];exact pX g.ok (by omega)
   have ho2:bR (cx (aE m.nodes b.state).wid)=true:=by
    have:=bZ.1 ho
    exact bZ.2 ⟨by simp [cx],by simp only [cx];omega⟩
   unfold cL
   rw [if_pos ho,if_pos ho2]
   exact bD _
 refine⟨?_,fun y hy=>?_⟩
 ·unfold mL
  rw [List.length_append,List.length_replicate]
  have:=hf.1;show ((od m).getD b.node.toNat []).length+(aK m.nodes p-((od m).getD b.node.toNat []).length)=_
  unfold od;omega
 ·unfold mL at hy
  rw [List.mem_append,List.mem_replicate]at hy
  rw [<-hwid.1]
  rcases hy with hy|⟨_,rfl⟩
  ·exact hf.2 y hy
  ·exact hv.get_lt hv.pos|>fun h=>by
    have e:cc m.nodes b.node.toNat=(aE m.nodes b.node).wid.toNat:=by unfold cc;rw [hn]
    rw [e];exact h
theorem oP {m:ai} (g:dP m) {v:List (List Nat)} (hv:xM m.nodes m.nodes.length v):mw m.nodes (stP m) (gn m v):=Cq fun p _ x hx=>ub g hv hx
theorem yf {m:ai} (g:dP m):mw m.nodes (stP m) (ln m):=Cq fun p _ x hx=>qX g hx
theorem Hk (m:ai) (v:List (List Nat)):(fun p=>(iV m v p).isSome)=fun p=>(ce m.nexts p).isSome:=by funext p;unfold iV;simp
theorem FY (m:ai):(fun p=>(eV m p).isSome)=fun p=>(ce m.inits p).isSome:=by funext p;unfold eV;simp
theorem fu {m:ai} (g:dP m):cw m.nodes (stP m)=ak m.nodes 36:=Dp _ g.ok 36
theorem EV {m:ai} (g:dP m):cw m.nodes (inP m)=ak m.nodes 35:=Dp _ g.ok 35
theorem gu {m:ai} (g:dP m):(aG m).Ok where
 nle:=g.n8
 kle:=g.k5
 fixed:=by have:=wU m.nodes (fun p=>(ce m.nexts p).isSome) (stP m);rwa [fu g]at this
 bfix:=by have:=wU m.nodes (fun p=>(ce m.inits p).isSome) (stP m);rwa [fu g]at this
 next c _:=by have:=A0 (oP g (xQ g (c%2^ak m.nodes 36) (c/2^ak m.nodes 36)));rwa [fu g]at this
 held c _:=by
  have:=MJ (l:=m.nodes) (f:=iV m (cK m (c%2^ak m.nodes 36) (c/2^ak m.nodes 36))) (ps:=stP m) fun p _ x hx=>ub g (xQ g _ _) hx
  rw [Hk]at this
  exact this
 bas:=by have:=A0 (yf g);rwa [fu g]at this
 bheld:=by
  have:=MJ (l:=m.nodes) (f:=eV m) (ps:=stP m) fun p _ x hx=>qX g hx
  rw [FY]at this
  exact this
theorem vd {m:ai} (g:dP m) (s:Nat):(aG m).begins s=true↔ ∀(i p:Nat),(stP m)[i]?=some p-> ∀v,eV m p=some v->(gj m.nodes (stP m) s).getD i []=v:=by
 have:=CT (l:=m.nodes) (f:=eV m) (ps:=stP m) s fun p _ x hx=>qX g hx
 rw [FY]at this
 rw [sk,<-this]
 unfold aC.begins
 rw [decide_eq_true_eq];rfl
theorem Ms {m:ai} (g:dP m) {s i:Nat} (hs:s<2^ak m.nodes 36) (t:Nat):(aG m).goes ((aG m).at_ s i) t=true↔ ∀(j p:Nat),(stP m)[j]?=some p-> ∀v,iV m (cK m s i) p=some v->(gj m.nodes (stP m) t).getD j []=v:=by
 have:=CT (l:=m.nodes) (f:=iV m (cK m s i)) (ps:=stP m) t fun p _ x hx=>ub g (xQ g _ _) hx
 rw [Hk]at this
 rw [sk,<-this]
 unfold aC.goes
 rw [decide_eq_true_eq]
 have e1:(aG m).at_ s i%2^ak m.nodes 36=s:=aC.at_mod (σ:=aG m) hs
 have e2:(aG m).at_ s i/2^ak m.nodes 36=i:=aC.at_div (σ:=aG m) hs
 show _=dZ m.nodes (stP m) (gn m (cK m ((aG m).at_ s i%2^ak m.nodes 36) ((aG m).at_ s i/2^ak m.nodes 36)))↔_
 rw [e1,e2];rfl
theorem Cn {binds:List BindP} (h:jD (binds.map (·.state))=false) {j:Nat} {b:BindP} (hb:binds[j]?=some b): ∀x∈binds.take j,x.state≠b.state:=by
 intro x hx e
 have:jD (binds.map (·.state))=true:=tT.2 ⟨j,b.state,by simp [hb],by
  rw [<-List.map_take,<-e];exact List.mem_map.2 ⟨x,hx,rfl⟩⟩
 rw [h]at this;cases this
theorem Fn {binds:List BindP} (h:jD (binds.map (·.state))=false) {j:Nat} {b:BindP} (hb:binds[j]?=some b) (p:Nat):
  ce (binds.take (j+1)) p=if b.state=(p:Int)then some b.node.toNat else ce (binds.take j) p:=by
 have hlt:=get_lt hb
 have hg:binds[j]=b:=by rw [List.getElem?_eq_getElem hlt]at hb;exact Option.some.inj hb
 unfold ce
 rw [List.take_succ_eq_append_getElem hlt,List.find?_append,hg]
 by_cases e:b.state=(p:Int)
 ·rw [if_pos e]
  have hn:(binds.take j).find? (fun b=>decide (b.state=(p:Int)))=none:=by
   rw [List.find?_eq_none]
   intro x hx
   have:=Cn h hb x hx
   simp;omega
  rw [hn];simp [e]
 ·rw [if_neg e]
  have:([b]:List BindP).find? (fun b=>decide (b.state=(p:Int)))=none:=by simp [e]
  rw [this,Option.or_none]
theorem pP {m:ai} (h:tf m=false):kW m.nodes=false/\jD (m.inits.map (·.state))=false/\jD (m.nexts.map (·.state))=false:=by
 rw [CG]at h
 simp only [Bool.or_eq_false_iff]at h
 exact h
theorem su.blk {h0 h:Hp} {out:Sl} {ts:List Sl} {vs:List (List Nat)} (e:su h0 h out ts vs) {i:Nat} (hi:i<vs.length):
  ∃b,ts[i]?=some ⟨some ⟨b,0,none⟩,(vs.getD i []).length,(vs.getD i []).length⟩/\h0 b=none/\(h.offS out) b=some (.inl ⟨(VL (vs.getD i [])).map I,(vs.getD i []).length,false⟩):=by
 have hl:=e.len
 obtain⟨b,h1,h2,h3⟩:=e.row i _ (List.getElem?_eq_getElem (show i<ts.length by omega))
 exact⟨b,by rw [List.getElem?_eq_getElem (show i<ts.length by omega),h1],h2,h3⟩
theorem su.wr {h0 h:Hp} {out:Sl} {ts:List Sl} {vs:List (List Nat)} {b n c i k x:Nat} {P:Hp->Prop} (e:su h0 h out ts vs) (ht:ts[i]?=some ⟨some ⟨b,0,none⟩,n,c⟩) (hi:i<vs.length) (hk:k<(vs.getD i []).length)
  (kk: ∀h',su h0 h' out ts (vs.set i ((vs.getD i []).set k x))->P h'):
  ∃(cs:List Value) (z:Nat),h b=some (.inl ⟨cs,z,false⟩)/\(0+Int.toNat (k:Int)*1)+1<=List.length cs/\cu (h.row b (cv cs (0+Int.toNat (k:Int)*1) [I x]) z) P:=by
 obtain⟨b',h1,h2,h3⟩:=e.blk hi
 rw [ht]at h1
 simp only [Option.some.injEq,Sl.mk.injEq,Addr.mk.injEq,and_true,true_and]at h1
 obtain⟨rfl,rfl,rfl⟩:=h1
 refine⟨_,_,bk _ _ _ _ h3,?_,?_⟩
 ·rw [List.length_map,bz,Int.toNat_natCast];omega
 rw [Pv]
 refine kk _ ⟨by rw [List.length_set];exact e.len,fun j t hj=>?_,e.dis,e.buf.row _ _ h3,?_⟩
 ·obtain⟨bj,g1,g2,g3⟩:=e.row j t hj
  by_cases hji:j=i
  ·subst hji
   rw [ht]at hj
   obtain rfl:=(Option.some.inj hj).symm
   simp only [Sl.mk.injEq,Option.some.injEq,Addr.mk.injEq,and_true,true_and]at g1
   obtain⟨rfl,_⟩:=g1
   have hv:(vs.set j ((vs.getD j []).set k x)).getD j []=(vs.getD j []).set k x:=by
    rw [List.getD_eq_getElem?_getD,List.getElem?_set_self (by omega)];rfl
   rw [hv,List.length_set]
   refine⟨b,rfl,g2,?_⟩
   rw [ql _ _ h3,bT]
   simp [VL,List.map_set,bO]
  ·have hv:(vs.set i ((vs.getD i []).set k x)).getD j []=vs.getD j []:=by
    rw [List.getD_eq_getElem?_getD,List.getElem?_set_ne (Ne.symm hji),<-List.getD_eq_getElem?_getD]
   rw [hv]
   refine⟨bj,g1,g2,?_⟩
   rw [ql _ _ h3,bX]
   ·exact g3
   ·rintro rfl
    refine hji (e.dis j i t _ hj ht ?_)
    rw [g1]
 ·rw [ql _ _ h3]
  exact eg _ _ h2 e.le
def wB (l:List NodeP) (ps:List Nat) (code i:Nat):List (List Nat):=(gj l ps code).take i++(da l ps).drop i
def qq (l:List NodeP) (p code k:Nat):List Nat:=kU (cc l p) k code++List.replicate (aK l p-k) 0
theorem TM (l:List NodeP) (ps:List Nat) (code i:Nat) (hi:i<=ps.length):(wB l ps code i).length=ps.length:=by
 unfold wB;rw [List.length_append,List.length_take,List.length_drop,ky,da,List.length_map];omega
theorem MR {l:List NodeP} {ps:List Nat} {code i p:Nat} (h:ps[i]?=some p):(wB l ps code i).getD i []=qq l p (code/2^cw l (ps.take i)) 0:=by
 have hlt:=get_lt h
 unfold wB qq
 rw [List.getD_eq_getElem?_getD,List.getElem?_append_right (by rw [List.length_take,ky];omega),List.length_take,ky,Nat.min_eq_left (by omega),Nat.sub_self,List.getElem?_drop,Nat.add_zero,da,List.getElem?_map,h]
 rfl
theorem Tn {l:List NodeP} {ps:List Nat} {code i p:Nat} (h:ps[i]?=some p):(wB l ps code i).set i (qq l p (code/2^cw l (ps.take i)) (aK l p))=wB l ps code (i+1):=by
 have hlt:=get_lt h
 have hu:(gj l ps code)[i]?=some (kU (cc l p) (aK l p) (code/2^cw l (ps.take i))):=by
  have:=GS (l:=l) (code:=code) h
  rw [List.getD_eq_getElem?_getD,List.getElem?_eq_getElem (by rw [ky];exact hlt)]at this
  rw [List.getElem?_eq_getElem (by rw [ky];exact hlt)]
  exact congrArg some this
 unfold wB qq
 rw [Nat.sub_self,List.replicate_zero,List.append_nil,List.set_append_right _ _ (by rw [List.length_take,ky];omega),List.length_take,ky,Nat.min_eq_left (by omega),Nat.sub_self]
 have hd:(da l ps).drop i=List.replicate (aK l p) 0::(da l ps).drop (i+1):=by
  rw [<-List.getElem_cons_drop (show i<(da l ps).length by rw [da,List.length_map];exact hlt)]
  congr 1
  unfold da
  rw [List.getElem_map]
  rw [List.getElem?_eq_getElem hlt]at h
  rw [Option.some.inj h]
 rw [hd,List.set_cons_zero,List.take_add_one,hu]
 simp
theorem NA {l:List NodeP} {p code k:Nat} (hk:k<aK l p):(qq l p code k).set k (code/2^(cc l p*k)%2^cc l p)=qq l p code (k+1):=by
 unfold qq
 rw [List.set_append_right _ _ (by rw [qf];omega),qf,Nat.sub_self]
 obtain⟨d,hd⟩: ∃d,aK l p-k=d+1:=⟨aK l p-k-1,by omega⟩
 rw [hd,List.replicate_succ,List.set_cons_zero,show aK l p-(k+1)=d by omega,kU,List.append_assoc];rfl
theorem Hx {l:List NodeP} {p code k:Nat} (hk:k<=aK l p):(qq l p code k).length=aK l p:=by
 unfold qq;rw [List.length_append,qf,List.length_replicate];omega
theorem jm.widc {h:Hp} {s:Sl} {l:List NodeP} (e:jm h s l) {p:Nat} (hp:p<l.length) (hok:co l=true):
  ∃b o,s.a=some (Addr.mk b o none)/\(p:Int)<(s.n:Int)/\Hp.cell h b (((o+Int.toNat (p:Int)*9)+6)+1)=some (I (cc l p))/\1<=cc l p/\cc l p<=16:=by
 obtain⟨b,o,h1,h2,h3,h4⟩:=e.sortc hp
 have:=bZ.1 (pX hok hp)
 have hw:(aE l p).wid=((cc l p:Nat):Int):=by unfold cc;omega
 exact⟨b,o,h1,h2,by rw [<-hw];exact h4,by unfold cc;omega,by unfold cc;omega⟩
theorem T2 {l:List NodeP} {ps:List Nat} {code:Nat} {v:List Nat} (h:v∈gj l ps code):v.length<=4:=by
 unfold gj at h
 obtain⟨i,_,rfl⟩:=List.mem_map.1 h
 rw [qf];exact di _ _
theorem mA (l:List NodeP) (ps:List Nat):(da l ps).length=ps.length:=by simp [da]
theorem sO {h:Hp} {M:MSl} {m:ai} {s:Sl} {ps:List Nat} {code:Nat} {R:Value->Hp->Prop} (hs:aN h M m) (hm:bW m) (hok:co m.nodes=true) (hp:IntS h s (VL ps)) (hps: ∀p∈ps,p<m.nodes.length) (hpl:ps.length<=1048576)
  (hcode:code<=1048576) (k: ∀out h',h.le h'->IntSS h' out ((gj m.nodes ps code).map VL)->out.n<=out.c->R (Sl.v out) h'):dN #[aO M,s.v,I code] h R:=by
 apply Eo
 refine uf_ ?_
 have hn:=hs.nodes.len
 have hns:=hm.nodes
 have hsn:=hp.len
 rw [bz]at hsn
 refine aj fun b9 h1 hb9 l1 f9=>?_
 repeat' (refine az ?_)
 refine rH (hs.mono l1) hm (hp.mono l1) hps hpl fun out ts h2 hC hon=>⟨out,rfl,?_⟩
 refine av ps.length (fun i vs h'=>vs= [I (code/2^cw m.nodes (ps.take i):Nat), .pointer (some ⟨b9,0,none⟩),out.v,s.v,I s.n,I i]/\su h1 h' out ts (wB m.nodes ps code i)) ⟨?_,?_⟩ ?_
 ·simp [cw]
 ·have:wB m.nodes ps code 0=da m.nodes ps:=by simp [wB]
  rw [this];exact hC
 clear hC h2
 rintro i _ h2 next hi ⟨rfl,hC⟩ hnx
 have hle:=Hp.le_trans hC.le (bk _ _)
 have f9':=hle _ _ f9
 refine⟨_,_,_,out,s,_,_,rfl,?_⟩
 by_cases hlt:i<ps.length
 rotate_left
 ·have hie:i=ps.length:=by omega
  subst hie
  refine aD (by simp;omega) (k out h2 (Hp.le_trans l1 hle) ?_ hC.buf.2.1)
  have:wB m.nodes ps code ps.length=gj m.nodes ps code:=by
   unfold wB
   rw [List.take_of_length_le (by rw [ky];omega),List.drop_of_length_le (by rw [mA];omega),List.append_nil]
  rw [this]at hC
  refine hC.ints (fun v hv=>?_) (by omega)
  have:=T2 hv;omega
 refine aJ (by simp;omega) ?_
 obtain⟨p,hpi⟩: ∃p,ps[i]?=some p:=⟨_,List.getElem?_eq_getElem hlt⟩
 have hpm:=hps p (List.mem_of_getElem? hpi)
 obtain⟨b,o,ha,hc⟩:=((hp.mono l1).mono hle).get (gp hpi)
 refine⟨b,o,ha,by omega,by omega,_,hc,?_⟩
 (refine az ?_)
 obtain⟨bn,on,han,hpn,c7,w1,w16⟩:=((hs.mono l1).mono hle).nodes.widc hpm hok
 refine⟨bn,on,han,by omega,hpn,_,c7,?_⟩
 have hol:=TM m.nodes ps code i (by omega)
 obtain⟨bi,hti,hbi,hri⟩:=hC.blk (i:=i) (by omega)
 rw [MR hpi,Hx (Nat.zero_le _)]at hti
 obtain⟨bo,hoa,hob⟩: ∃bo,out.a=some ⟨bo,0,none⟩/\h2 bo=some (.inl ⟨ts.map Sl.v,out.c*1,false⟩):=by
  rcases hC.buf.2.2 with ⟨_,h0,_⟩|h0
  ·omega
  ·exact h0
 have hcell:Hp.cell h2 bo (0+Int.toNat (i:Int)*1)=some (Sl.v ⟨some ⟨bi,0,none⟩,aK m.nodes p,aK m.nodes p⟩):=by
  rw [aq hob,Nat.zero_add,Int.toNat_natCast,Nat.mul_one,List.getElem?_map,hti];rfl
 refine⟨bo,0,hoa,by omega,by omega,_,hcell,?_⟩
 have hcl:=di m.nodes p
 generalize hci:code/2^cw m.nodes (ps.take i)=ci
 have hcile:ci<=code:=by rw [<-hci];exact Nat.div_le_self _ _
 refine av (aK m.nodes p) (fun k vs h'=>vs= [I (ci/2^(cc m.nodes p*k):Nat), .pointer (some ⟨b9,0,none⟩),out.v,I i,I (cc m.nodes p),s.v,I s.n,I i,I (aK m.nodes p:Nat),I k]/\
  su h1 h' out ts ((wB m.nodes ps code i).set i (qq m.nodes p ci k))) ⟨by simp,?_⟩ ?_
 ·rw [<-hci,<-MR hpi]
  have:(wB m.nodes ps code i).set i ((wB m.nodes ps code i).getD i [])=wB m.nodes ps code i:=by
   rw [List.getD_eq_getElem?_getD,List.getElem?_eq_getElem (by omega)];simp
  rw [this];exact hC
 clear hC hle f9' hri hob hcell ha hc han hpn c7 h2
 rintro q _ h2 next2 hq ⟨rfl,hC⟩ hnx2
 have hle:=Hp.le_trans hC.le (bk _ _)
 have f9':=hle _ _ f9
 have hdiv:ci/2^(cc m.nodes p*q)<=ci:=Nat.div_le_self _ _
 refine⟨_,_,_,out,_,_,s,_,_,_,_,rfl,?_⟩
 have hgs:((wB m.nodes ps code i).set i (qq m.nodes p ci q)).getD i []=qq m.nodes p ci q:=by
  rw [List.getD_eq_getElem?_getD,List.getElem?_set_self (by omega)];rfl
 by_cases hlq:q<aK m.nodes p
 rotate_left
 ·have hqe:q=aK m.nodes p:=by omega
  subst hqe
  refine aD (by simp) ?_
  rw [aA (by omega)]
  refine hnx hlt _ _ ⟨?_,?_⟩
  ·rw [mO hpi,Nat.pow_add,<-Nat.div_div_eq_div_mul,hci]
  ·rw [<-hci]at hC
   rw [<-Tn hpi];exact hC
 refine aJ (by simp;omega) ?_
 obtain⟨bo',hoa',hob'⟩: ∃bo,out.a=some ⟨bo,0,none⟩/\h2 bo=some (.inl ⟨ts.map Sl.v,out.c*1,false⟩):=by
  rcases hC.buf.2.2 with ⟨_,h0,_⟩|h0
  ·omega
  ·exact h0
 have hcell':Hp.cell h2 bo' (0+Int.toNat (i:Int)*1)=some (Sl.v ⟨some ⟨bi,0,none⟩,aK m.nodes p,aK m.nodes p⟩):=by
  rw [aq hob',Nat.zero_add,Int.toNat_natCast,Nat.mul_one,List.getElem?_map,hti];rfl
 refine⟨bo',0,hoa',by omega,by omega,_,hcell',?_⟩
 refine dy (by omega) ⟨_,rfl,rfl,bi,0,rfl,by omega,by dsimp only;omega,?_⟩
 rw [gG (by omega),oK,kr (by omega),Nat.div_div_eq_div_mul,<-Nat.pow_add]
 refine hC.wr hti (by rw [List.length_set];omega) (by rw [hgs,Hx (by omega)];exact hlq) fun h3 hC'=>?_
 rw [if_neg (by omega),aA (by omega)]
 refine hnx2 hlq _ _ ⟨by rw [Nat.mul_add,Nat.mul_one],?_⟩
 rw [hgs,List.set_set,NA hlq]at hC'
 exact hC'
theorem jm.sortc2 {h:Hp} {s:Sl} {l:List NodeP} (e:jm h s l) {p:Nat} (hp:p<l.length) (hok:co l=true):
  ∃b o,s.a=some (Addr.mk b o none)/\(p:Int)<(s.n:Int)/\Hp.cell h b ((o+Int.toNat (p:Int)*9)+6)=some (I (aE l p).idx)/\Hp.cell h b (((o+Int.toNat (p:Int)*9)+6)+1)=some (I (cc l p))/\1<=cc l p/\cc l p<=16:=by
 obtain⟨b,o,h1,h2,h3,h4⟩:=e.sortc hp
 have:=bZ.1 (pX hok hp)
 have hw:(aE l p).wid=((cc l p:Nat):Int):=by unfold cc;omega
 exact⟨b,o,h1,h2,h3,by rw [<-hw];exact h4,by unfold cc;omega,by unfold cc;omega⟩
theorem qi {l:List NodeP} {p:Nat} (hok:co l=true) (hp:p<l.length):cL ⟨(aE l p).idx,(cc l p:Nat)⟩=aK l p:=by
 have:=bZ.1 (pX hok hp)
 have hw:((cc l p:Nat):Int)=(aE l p).wid:=by unfold cc;omega
 rw [hw];rfl
theorem US (w k ci:Nat):(VL (kU w k ci)).map I++ [I ((ci/2^(w*k)%2^w:Nat):Int)]=(VL (kU w (k+1) ci)).map I:=by
 rw [kU,uo,List.map_append];rfl
theorem fK {h:Hp} {M:MSl} {m:ai} {s:Sl} {ps:List Nat} {code:Nat} {R:Value->Hp->Prop} (hs:aN h M m) (hm:bW m) (hok:co m.nodes=true) (hp:IntS h s (VL ps)) (hps: ∀p∈ps,p<m.nodes.length) (hpl:ps.length<=1048576)
  (hcode:code<=1048576) (hsum:cw m.nodes ps<=60) (k: ∀out h',h.le h'->IntSS h' out ((gj m.nodes ps code).map VL)->R (Sl.v out) h'):bC #[aO M,s.v,I code] h R:=by
 apply Ek
 refine uf_ ?_
 have hn:=hs.nodes.len
 have hns:=hm.nodes
 have hsn:=hp.len
 rw [bz]at hsn
 refine aj fun b9 h1 hb9 l1 f9=>?_
 refine av ps.length (fun i vs h'=> ∃(ts:List Sl) (out:Sl),vs= [s.v,I code, .pointer (some ⟨b9,0,none⟩),out.v,I (cw m.nodes (ps.take i):Nat),I i]/\
  h.le (h'.offS out)/\(h'.offS out) b9=some (.inl ⟨aw M,5,false⟩)/\out.n=i/\ts.length=i/\Buf h' out 1 (ts.map Sl.v)/\
  (∀(j:Nat) (t:Sl),ts[j]?=some t->IntS (h'.offS out) t (VL ((gj m.nodes ps code).getD j []))))
  ⟨[],⟨none,0,0⟩,by simp [cw],l1,f9,rfl,rfl,eG _ _,fun j t ht=>by simp at ht⟩ ?_
 clear f9 l1 hb9 h1
 rintro i _ h3 next hi ⟨ts,out,rfl,l3,f9,hon,htl,hbuf,hts⟩ hnx
 have lo:=bk h3 out
 have f9':=lo _ _ f9
 have l3':=Hp.le_trans l3 lo
 have hsi:=E2 m.nodes ps i
 refine⟨s,_,_,_,out,_,_,rfl,?_⟩
 by_cases hlt:i<ps.length
 rotate_left
 ·have hie:i=ps.length:=by omega
  subst hie
  refine aD (by simp;omega) (k out h3 l3' ⟨ts,by simp [ky];omega,hbuf.slc_of (by omega),fun j h1 h2=>?_⟩)
  have:=(hts j _ (List.getElem?_eq_getElem h1)).mono lo
  have hju:j<(gj m.nodes ps code).length:=by rw [ky];omega
  rw [List.getElem_map]
  rwa [List.getD_eq_getElem?_getD,List.getElem?_eq_getElem hju]at this
 refine aJ (by simp;omega) ?_
 obtain⟨p,hpi⟩: ∃p,ps[i]?=some p:=⟨_,List.getElem?_eq_getElem hlt⟩
 have hpm:=hps p (List.mem_of_getElem? hpi)
 obtain⟨b,o,ha,hc⟩:=(hp.mono l3').get (gp hpi)
 refine⟨b,o,ha,by omega,by omega,?_⟩
 (refine az ?_)
 refine⟨_,hc,?_⟩
 obtain⟨bn,on,han,hpn,c6,c7,w1,w16⟩:=(hs.mono l3').nodes.sortc2 hpm hok
 refine⟨bn,on,han,by omega,hpn,_,c6,_,c7,?_⟩
 have xb:=gq hc
 have xbn:=gq c6
 have xb9:=eJ f9'
 refine aj fun b37 h4 hb37 l4 f37=>?_
 repeat' (((with_reducible apply kJ);(assumption);(assumption)))
 (with_reducible apply cb);(exact f37);(exact l4);(exact hb37);(exact Nat.le_refl 2)
 intro h5 f37b kp l5
 clear f37 kp l4 h4
 refine aj fun b43 h6 hb43 l6 f43=>?_
 have n37:=fresh_ne hb43 f37b
 have hb43':=aF l5 hb43
 (with_reducible apply cb);(exact f43);(exact Hp.le_trans l5 l6);(exact hb43');(exact Nat.le_refl 1)
 intro h7 f43b kp l7
 have f37c:h7 b37=some (.inl ⟨[I (aE m.nodes p).idx,I (cc m.nodes p)],2,false⟩):=cf kp n37 (l6 _ _ f37b)
 have f43c:h7 b43=some (.inl ⟨[(⟨none,0,0⟩:Sl).v],1,false⟩):=f43b
 clear f43 f43b f37b kp l6 l5
 have hcl:=di m.nodes p
 have hcm:=qi hok hpm
 have hstep:=mO (l:=m.nodes) hpi
 have hsi1:=E2 m.nodes ps (i+1)
 obtain⟨ci,hci⟩: ∃ci,ci=code/2^cw m.nodes (ps.take i):=⟨_,rfl⟩
 refine av (aK m.nodes p) (fun q vs h'=> ∃sl:Sl,vs= [s.v,I code, .pointer (some ⟨b9,0,none⟩),out.v,I (cw m.nodes (ps.take i)+cc m.nodes p*q:Nat),I i, .pointer (some ⟨b37,0,none⟩), .pointer (some ⟨b43,0,none⟩),I q]/\
  h3.le (h'.offS sl)/\(h'.offS sl) b37=some (.inl ⟨[I (aE m.nodes p).idx,I (cc m.nodes p)],2,false⟩)/\(h'.offS sl) b43=some (.inl ⟨[sl.v],1,false⟩)/\sl.n=q/\Buf h' sl 1 ((VL (kU (cc m.nodes p) q ci)).map I))
  ⟨⟨none,0,0⟩,by simp,l7,f37c,f43c,rfl,eG _ _⟩ ?_
 clear f37c f43c l7 h7
 rintro q _ h7 next2 hq ⟨sl,rfl,l7,f37,f43,hsl,hbufl⟩ hnx2
 have los:=bk h7 sl
 have f37':=los _ _ f37
 have f43':=los _ _ f43
 refine⟨s,_,_,_,out,_,_,_,_,_,_,_,rfl,?_⟩
 repeat' (refine az ?_)
 refine ff ⟨_,rfl,?_⟩
 rw [hcm]
 by_cases hlq:q<aK m.nodes p
 rotate_left
 ·have hqe:q=aK m.nodes p:=by omega
  subst hqe
  refine aD (by simp) ?_
  (refine az ?_)
  refine aj fun b103 h8 hb103 l8 f103=>?_
  have l38:=Hp.le_trans l7 (Hp.le_trans los l8)
  have l38o:=bM out l38
  refine dm (hbuf.mono l38) (by omega) (by omega) (by omega) ⟨b103,0,rfl,ay f103⟩ (by simp) rfl ?_
  intro s' h10 hs'n hbuf' l10 _
  rw [aA (by omega)]
  have l310:=Hp.le_trans l38o l10
  have hbuf'':Buf h10 s' 1 ((ts++ [sl]).map Sl.v):=by rw [List.map_append];exact hbuf'
  have hval:IntS h8 sl (VL (kU (cc m.nodes p) (aK m.nodes p) ci)):=SlC.mono l8 (hbufl.slc_of (by omega))
  rw [<-hstep]
  refine hnx hlt _ _ ⟨ts++ [sl],s',rfl,Hp.le_trans l3 l310,l310 _ _ f9,by omega,by simp;omega,hbuf'',fun j u hu=>?_⟩
  by_cases hj:j<i
  ·rw [List.getElem?_append_left (by omega)]at hu
   exact(hts j u hu).mono l310
  ·have hju:=get_lt hu
   simp at hju
   have hje:j=i:=by omega
   subst hje
   rw [List.getElem?_append_right (by omega),htl,Nat.sub_self]at hu
   simp at hu;subst hu
   rw [GS hpi,<-hci]
   exact(hval.offL (hbuf.mono l38)).mono l10
 refine aJ (by simp;omega) ?_
 have hmul:cc m.nodes p*q<=cc m.nodes p*aK m.nodes p:=Nat.mul_le_mul_left _ hq
 have hmul2:cc m.nodes p*(q+1)<=cc m.nodes p*aK m.nodes p:=Nat.mul_le_mul_left _ hlq
 have hp16:=zm w16
 have hpp:=bD (cc m.nodes p)
 refine ap (fun J=> ∀(sl':Sl) (h':Hp),h3.le (h'.offS sl')->(h'.offS sl') b37=some (.inl ⟨[I (aE m.nodes p).idx,I (cc m.nodes p)],2,false⟩)->(h'.offS sl') b43=some (.inl ⟨[sl'.v],1,false⟩)->sl'.n=q+1->
   Buf h' sl' 1 ((VL (kU (cc m.nodes p) (q+1) ci)).map I)->J (cw m.nodes (ps.take i)+cc m.nodes p*(q+1):Nat) h') ?_ (fun J hJ=>?_)
 ·intro sl' h' g1 g2 g3 g4 g5
  rw [aA (by omega)]
  exact hnx2 hlq _ _ ⟨sl',rfl,g1,g2,g3,g4,g5⟩
 have xb60:=eJ f37'
 have xb62:=eJ f43'
 rw [cl (n:=cw m.nodes (ps.take i)+cc m.nodes p*q) (by omega)]
 repeat' (refine az ?_)
 rw [cl (n:=cc m.nodes p) (by omega)]
 rw [kr (by omega),bG (by omega),eY]
 have hval:code/2^(cw m.nodes (ps.take i)+cc m.nodes p*q)=ci/2^(cc m.nodes p*q):=by
  rw [hci,Nat.div_div_eq_div_mul,<-Nat.pow_add]
 rw [hval]
 have app: ∀(K:Option Addr->Nat->Nat->Hp->Prop) (h8:Hp) (b75:Nat),h7.le h8->h8 b75=some (.inl ⟨[I ((ci/2^(cc m.nodes p*q)%2^cc m.nodes p:Nat):Int)],1,false⟩)->
   (∀(s':Sl) (h9:Hp),s'.n=q+1->h3.le (h9.offS s')->(h9.offS s') b37=some (.inl ⟨[I (aE m.nodes p).idx,I (cc m.nodes p)],2,false⟩)->(h9.offS s') b43=some (.inl ⟨[sl.v],1,false⟩)->Buf h9 s' 1 ((VL (kU (cc m.nodes p) (q+1) ci)).map I)->K s'.a s'.n s'.c h9)->
   ck h8 sl.a sl.n sl.c (some ⟨b75,0,none⟩) 1 1 8 K:=by
  intro K h8 b75 l8 f75 hK
  have l78:=bM sl l8
  refine dm (hbufl.mono l8) (by omega) (by omega) (by omega) ⟨b75,0,rfl,ay f75⟩ (by simp) rfl ?_
  intro s' h9 hs'n hbuf' l9 _
  have l79:=Hp.le_trans l78 l9
  refine hK s' h9 (by omega) (Hp.le_trans l7 l79) (l79 _ _ f37) (l79 _ _ f43) ?_
  rw [<-US];exact hbuf'
 have fin: ∀(s':Sl) (h9:Hp),s'.n=q+1->h3.le (h9.offS s')->(h9.offS s') b37=some (.inl ⟨[I (aE m.nodes p).idx,I (cc m.nodes p)],2,false⟩)->(h9.offS s') b43=some (.inl ⟨[sl.v],1,false⟩)->Buf h9 s' 1 ((VL (kU (cc m.nodes p) (q+1) ci)).map I)->
   ∃(cs:List Value) (z:Nat),h9 b43=some (.inl ⟨cs,z,false⟩)/\0+1<=List.length cs/\cu (h9.row b43 (cv cs 0 [.slice s'.a s'.n s'.c]) z) fun h83=> ∃(x85:Int),Hp.cell h83 b37 (0+1)=some (I x85)/\(J (W (((cw m.nodes (ps.take i)+cc m.nodes p*q:Nat):Int)+x85)) h83):=by
  intro s' h9 g1 g2 g3 g4 g5
  (with_reducible apply uW);(exact g4);(exact g2);(exact hb43');(exact Nat.le_refl 1)
  intro h10 e43 kp l10 hbk
  have e37:(h10.offS s') b37=some (.inl ⟨[I (aE m.nodes p).idx,I (cc m.nodes p)],2,false⟩):=by rw [kp _ n37];exact g3
  refine⟨_,by rw [aq (bk _ _ _ _ e37)];rfl,?_⟩
  have:W (((cw m.nodes (ps.take i)+cc m.nodes p*q:Nat):Int)+((cc m.nodes p:Nat):Int))=((cw m.nodes (ps.take i)+cc m.nodes p*(q+1):Nat):Int):=by
   rw [bV (by omega) (by omega),Nat.mul_add,Nat.mul_one];omega
  rw [this]
  exact hJ s' h10 l10 e37 e43 g1 (hbk _ _ g5)
 constructor
 ·repeat' (refine az ?_)
  rw [if_neg (by omega)]
  repeat' (refine az ?_)
  rw [if_neg (by omega),if_neg (by omega)]
  refine aj fun b75 h8 hb75 l8 f75=>?_
  (((with_reducible apply kJ);(assumption);(assumption)))
  exact app _ h8 b75 l8 f75 fun s' h9 g1 g2 g3 g4 g5=>fin s' h9 g1 g2 g3 g4 g5
 ·repeat' (refine az ?_)
  rw [if_neg (by omega)]
  repeat' (refine az ?_)
  rw [if_neg (by omega),if_neg (by omega)]
  refine aj fun b75 h8 hb75 l8 f75=>?_
  (((with_reducible apply kJ);(assumption);(assumption)))
  exact app _ h8 b75 l8 f75 fun s' h9 g1 g2 g3 g4 g5=>fin s' h9 g1 g2 g3 g4 g5
theorem NH {a n x:Nat} (h:a<2^n):a|||(x*2^n)=a+x*2^n:=by
 rw [Nat.or_comm,Nat.mul_comm,<-Nat.two_pow_add_eq_or_of_lt h,Nat.add_comm]
theorem Hc {l:List NodeP} {ps:List Nat} {vs:List (List Nat)} {i p:Nat} (h:ps[i]?=some p) (hf:mw l ps vs):
  dZ l (ps.take (i+1)) (vs.take (i+1))=dZ l (ps.take i) (vs.take i)+2^cw l (ps.take i)*fz (cc l p) (vs.getD i []):=by
 have hlt:=get_lt h
 have hl:=nZ hf
 rw [List.getElem?_eq_getElem hlt]at h
 rw [List.take_succ_eq_append_getElem hlt,List.take_succ_eq_append_getElem (show i<vs.length by omega),OU (by rw [List.length_take,List.length_take];omega),Option.some.inj h]
 rw [List.getD_eq_getElem?_getD,List.getElem?_eq_getElem (show i<vs.length by omega)];rfl
theorem Nr {w:Nat} {v:List Nat} {q:Nat} (h:q<v.length):fz w (v.take (q+1))=fz w (v.take q)+2^(w*q)*v.getD q 0:=by
 rw [List.take_succ_eq_append_getElem h,Gb,List.length_take,Nat.min_eq_left (by omega),List.getD_eq_getElem?_getD,List.getElem?_eq_getElem h];rfl
theorem vg {l:List NodeP} {ps:List Nat} {vs:List (List Nat)} {i p q:Nat} (h:ps[i]?=some p) (hf:mw l ps vs) (hq:q<=aK l p):
  dZ l (ps.take i) (vs.take i)+2^cw l (ps.take i)*fz (cc l p) ((vs.getD i []).take q)<2^(cw l (ps.take i)+cc l p*q):=by
 have h1:=A0 (Qn hf i)
 have h2:=pJ hf h
 have h3:=wF (w:=cc l p) (xs:=(vs.getD i []).take q) fun x hx=>h2.2 x (List.mem_of_mem_take hx)
 rw [List.length_take,Nat.min_eq_left (by omega)]at h3
 rw [Nat.pow_add]
 have h4:=Nat.mul_le_mul_left (2^cw l (ps.take i)) (Nat.succ_le_of_lt h3)
 rw [Nat.succ_eq_add_one,Nat.mul_add,Nat.mul_one]at h4
 omega
theorem IntSS.getV {h:Hp} {s:Sl} {vs:List (List Nat)} (e:IntSS h s (vs.map VL)) {i:Nat} (hi:i<vs.length):
  ∃b o t,s.a=some (Addr.mk b o none)/\Hp.cell h b (o+i*1)=some (Sl.v t)/\IntS h t (VL (vs.getD i [])):=by
 obtain⟨b,o,t,h1,h2,h3⟩:=e.at (i:=i) (by rw [List.length_map];exact hi)
 refine⟨b,o,t,h1,by rw [Nat.mul_one];exact h2,?_⟩
 rw [List.getElem_map]at h3
 rwa [List.getD_eq_getElem?_getD,List.getElem?_eq_getElem hi]
theorem yp {l:List NodeP} {ps:List Nat} {i p q:Nat} (h:ps[i]?=some p) (hq:q<=aK l p):cw l (ps.take i)+cc l p*q<=cw l ps:=by
 have h1:=mO (l:=l) h
 have h2:=E2 l ps (i+1)
 have h3:=Nat.mul_le_mul_left (cc l p) hq
 omega
theorem BL {n:Nat} (h:n<=60):2^n<=1152921504606846976:=by
 have:=Nat.pow_le_pow_right (n:=2) (by omega) h
 simpa using this
theorem yj {l:List NodeP} {ps:List Nat} {vs:List (List Nat)} {i p q:Nat} (h:ps[i]?=some p) (hf:mw l ps vs) (hq:q<aK l p):
  dZ l (ps.take i) (vs.take i)+2^cw l (ps.take i)*fz (cc l p) ((vs.getD i []).take (q+1))=
   (dZ l (ps.take i) (vs.take i)+2^cw l (ps.take i)*fz (cc l p) ((vs.getD i []).take q))+(vs.getD i []).getD q 0*2^(cw l (ps.take i)+cc l p*q):=by
 have h2:=pJ hf h
 rw [Nr (by omega),Nat.mul_add,Nat.add_assoc,<-Nat.mul_assoc,<-Nat.pow_add,Nat.mul_comm (2^(cw l (ps.take i)+cc l p*q))]
theorem Cb {h:Hp} {M:MSl} {m:ai} {s t:Sl} {ps:List Nat} {vs:List (List Nat)} {R:Value->Hp->Prop} (hs:aN h M m) (hm:bW m) (hok:co m.nodes=true) (hp:IntS h s (VL ps)) (hps: ∀p∈ps,p<m.nodes.length) (hpl:ps.length<=1048576)
  (hv:IntSS h t (vs.map VL)) (hf:mw m.nodes ps vs) (hsum:cw m.nodes ps<=60) (k:R (I (dZ m.nodes ps vs)) h):iA #[aO M,s.v,t.v] h R:=by
 refine ACalls.drop (Bg ?_)
 refine uf_ ?_
 have hn:=hs.nodes.len
 have hns:=hm.nodes
 have hsn:=hp.len
 rw [bz]at hsn
 have htn:=hv.len
 rw [List.length_map]at htn
 have hvl:=nZ hf
 have hsum60:=BL hsum
 refine aj fun b9 h1 hb9 l1 f9=>?_
 refine av ps.length (fun i ws h'=>h'=h1/\ws= [t.v, .pointer (some ⟨b9,0,none⟩),I (dZ m.nodes (ps.take i) (vs.take i):Nat),I (cw m.nodes (ps.take i):Nat),s.v,I s.n,I i]) ⟨rfl,by simp [dZ,cw]⟩ ?_
 rintro i _ _ next hi ⟨rfl,rfl⟩ hnx
 rename_i h1
 refine⟨t,_,_,_,_,s,_,_,rfl,?_⟩
 by_cases hlt:i<ps.length
 rotate_left
 ·have hie:i=ps.length:=by omega
  subst hie
  refine aD (by simp;omega) ⟨_,l1,?_⟩
  rw [List.take_of_length_le (Nat.le_refl _),List.take_of_length_le (by omega)];exact k
 refine aJ (by simp;omega) ?_
 obtain⟨p,hpi⟩: ∃p,ps[i]?=some p:=⟨_,List.getElem?_eq_getElem hlt⟩
 have hpm:=hps p (List.mem_of_getElem? hpi)
 obtain⟨b,o,ha,hc⟩:=(hp.mono l1).get (gp hpi)
 refine⟨b,o,ha,by omega,by omega,_,hc,?_⟩
 obtain⟨bt,ot,c,hta,htc,hcv⟩:=(hv.mono l1).getV (i:=i) (by omega)
 refine⟨bt,ot,hta,by omega,by omega,c,htc,?_⟩
 obtain⟨bn,on,han,hpn,c7,w1,w16⟩:=(hs.mono l1).nodes.widc hpm hok
 have hg:=pJ hf hpi
 have hcn:=hcv.len
 rw [bz]at hcn
 have hcl:=di m.nodes p
 refine av (aK m.nodes p) (fun q ws h'=>h'=h1/\ws= [t.v, .pointer (some ⟨b9,0,none⟩),I (dZ m.nodes (ps.take i) (vs.take i)+2^cw m.nodes (ps.take i)*fz (cc m.nodes p) ((vs.getD i []).take q):Nat),
  I (cw m.nodes (ps.take i)+cc m.nodes p*q:Nat),I p,s.v,I s.n,I i,c.v,I c.n,I q]) ⟨rfl,by simp [fz]⟩ ?_
 rintro q _ _ next2 hq ⟨rfl,rfl⟩ hnx2
 rename_i h1
 refine⟨t,_,_,_,_,_,s,_,_,c,_,_,rfl,?_⟩
 by_cases hlq:q<aK m.nodes p
 rotate_left
 ·have hqe:q=aK m.nodes p:=by omega
  subst hqe
  refine aD (by simp;omega) ?_
  rw [aA (by omega)]
  refine hnx hlt _ _ ⟨rfl,?_⟩
  rw [Hc hpi hf,mO hpi,List.take_of_length_le (l:=vs.getD i []) (by omega)]
 refine aJ (by simp;omega) ?_
 obtain⟨bc,oc,hca,hcc,hln⟩:=hcv.elt (i:=q) (by omega)
 refine⟨bc,oc,hca,by omega,by omega,_,hcc,?_⟩
 have hb1:=vg hpi hf (Nat.le_of_lt hlq)
 have hb2:=vg (q:=q+1) hpi hf hlq
 rw [yj hpi hf hlq]at hb2
 have hs1:=yp hpi (Nat.le_of_lt hlq)
 have hs2:=yp (q:=q+1) hpi hlq
 have hp1:=BL (n:=cw m.nodes (ps.take i)+cc m.nodes p*(q+1)) (by omega)
 have hp2:=BL (n:=cw m.nodes (ps.take i)+cc m.nodes p*q) (by omega)
 rw [if_neg (by omega)]
 (refine az ?_)
 refine⟨bn,on,han,by omega,hpn,_,c7,?_⟩
 rw [gW (by omega) (by omega),Au (by omega) (by omega),NH hb1,<-yj hpi hf hlq,bV (n:=((cw m.nodes (ps.take i)+cc m.nodes p*q:Nat):Int)+(cc m.nodes p:Nat)) (by omega) (by omega),aA (by omega)]
 refine hnx2 hlq _ _ ⟨rfl,?_⟩
 rw [Nat.mul_add,Nat.mul_one,<-Nat.add_assoc,Int.natCast_add (cw m.nodes (ps.take i)+cc m.nodes p*q)]
theorem xg {h:Hp} {M:MSl} {m:ai} {s t:Sl} {ps:List Nat} {vs:List (List Nat)} {R:Value->Hp->Prop} (hs:aN h M m) (hm:bW m) (hok:co m.nodes=true) (hp:IntS h s (VL ps)) (hps: ∀p∈ps,p<m.nodes.length) (hpl:ps.length<=1048576)
  (hv:IntSS h t (vs.map VL)) (hf:mw m.nodes ps vs) (hsum:cw m.nodes ps<=60) (k:R (I (dZ m.nodes ps vs)) h):lQ #[aO M,s.v,t.v] h R:=by
 refine ACalls.drop (HR ?_)
 refine uf_ ?_
 have hn:=hs.nodes.len
 have hns:=hm.nodes
 have hsn:=hp.len
 rw [bz]at hsn
 have htn:=hv.len
 rw [List.length_map]at htn
 have hvl:=nZ hf
 have hsum60:=BL hsum
 refine aj fun b9 h1 hb9 l1 f9=>?_
 refine av ps.length (fun i ws h'=>h'=h1/\ws= [s.v,t.v, .pointer (some ⟨b9,0,none⟩),I (dZ m.nodes (ps.take i) (vs.take i):Nat),I (cw m.nodes (ps.take i):Nat),I i]) ⟨rfl,by simp [dZ,cw]⟩ ?_
 rintro i _ _ next hi ⟨rfl,rfl⟩ hnx
 rename_i h1
 refine⟨s,t,_,_,_,_,_,rfl,?_⟩
 by_cases hlt:i<ps.length
 rotate_left
 ·have hie:i=ps.length:=by omega
  subst hie
  refine aD (by simp;omega) ⟨_,l1,?_⟩
  rw [List.take_of_length_le (Nat.le_refl _),List.take_of_length_le (by omega)];exact k
 refine aJ (by simp;omega) ?_
 obtain⟨p,hpi⟩: ∃p,ps[i]?=some p:=⟨_,List.getElem?_eq_getElem hlt⟩
 have hpm:=hps p (List.mem_of_getElem? hpi)
 obtain⟨b,o,ha,hc⟩:=(hp.mono l1).get (gp hpi)
 refine⟨b,o,ha,by omega,by omega,?_⟩
 (refine az ?_)
 refine⟨_,hc,?_⟩
 obtain⟨bn,on,han,hpn,c7,w1,w16⟩:=(hs.mono l1).nodes.widc hpm hok
 refine⟨bn,on,han,by omega,hpn,_,c7,?_⟩
 obtain⟨bt,ot,c,hta,htc,hcv⟩:=(hv.mono l1).getV (i:=i) (by omega)
 have hg:=pJ hf hpi
 have hcn:=hcv.len
 rw [bz]at hcn
 have hcl:=di m.nodes p
 refine av (aK m.nodes p) (fun q ws h'=>h'=h1/\ws= [s.v,t.v, .pointer (some ⟨b9,0,none⟩),I (dZ m.nodes (ps.take i) (vs.take i)+2^cw m.nodes (ps.take i)*fz (cc m.nodes p) ((vs.getD i []).take q):Nat),
  I (cw m.nodes (ps.take i)+cc m.nodes p*q:Nat),I i,I (cc m.nodes p),I q]) ⟨rfl,by simp [fz]⟩ ?_
 rintro q _ _ next2 hq ⟨rfl,rfl⟩ hnx2
 rename_i h1
 refine⟨s,t,_,_,_,_,_,_,_,rfl,?_⟩
 refine⟨bt,ot,hta,by omega,by omega,c,htc,?_⟩
 by_cases hlq:q<aK m.nodes p
 rotate_left
 ·have hqe:q=aK m.nodes p:=by omega
  subst hqe
  refine aD (by simp;omega) ?_
  rw [aA (by omega)]
  refine hnx hlt _ _ ⟨rfl,?_⟩
  rw [Hc hpi hf,mO hpi,List.take_of_length_le (l:=vs.getD i []) (by omega)]
 refine aJ (by simp;omega) ?_
 refine⟨bt,ot,hta,by omega,by omega,c,htc,?_⟩
 obtain⟨bc,oc,hca,hcc,hln⟩:=hcv.elt (i:=q) (by omega)
 refine⟨bc,oc,hca,by omega,by omega,_,hcc,?_⟩
 have hb1:=vg hpi hf (Nat.le_of_lt hlq)
 have hb2:=vg (q:=q+1) hpi hf hlq
 rw [yj hpi hf hlq]at hb2
 have hs1:=yp hpi (Nat.le_of_lt hlq)
 have hs2:=yp (q:=q+1) hpi hlq
 have hp1:=BL (n:=cw m.nodes (ps.take i)+cc m.nodes p*(q+1)) (by omega)
 have hp2:=BL (n:=cw m.nodes (ps.take i)+cc m.nodes p*q) (by omega)
 rw [cl (n:=cw m.nodes (ps.take i)+cc m.nodes p*q) (by omega),if_neg (by omega)]
 rw [gW (by omega) (by omega),<-Int.natCast_add,eu (by omega),<-yj hpi hf hlq,bV (n:=((cw m.nodes (ps.take i)+cc m.nodes p*q:Nat):Int)+(cc m.nodes p:Nat)) (by omega) (by omega),aA (by omega)]
 refine hnx2 hlq _ _ ⟨rfl,?_⟩
 rw [Nat.mul_add,Nat.mul_one,<-Nat.add_assoc,Int.natCast_add (cw m.nodes (ps.take i)+cc m.nodes p*q)]
structure AV (m:ai) (v:List (List Nat)):Prop where
 len:v.length=m.nodes.length
 fit:xM m.nodes m.nodes.length v
theorem eC {m:ai} (g:dP m) (s i:Nat):AV m (cK m s i):=⟨IM _ _ _,xQ g s i⟩
theorem wO {m:ai} (g:dP m):AV m (od m):=⟨IM _ _ _,Mq g (mQ m.nodes (stP m)) (mQ m.nodes (inP m))⟩
theorem ET {m:ai} {v:List (List Nat)} (a:AV m v) {p:Int} (h:dR m.nodes p=true):0<=p/\p<v.length/\0<(v.getD p.toNat []).length/\cU v p<2:=by
 unfold dR at h
 simp only [Bool.and_eq_true,decide_eq_true_eq]at h
 have hp:=eZ.1 h.1
 have hn:((p.toNat:Nat):Int)=p:=by omega
 have hf:=a.fit p.toNat (by omega) (by omega)
 rw [hn,h.2]at hf
 have:=hf.cell
 exact⟨hp.1,by rw [a.len];exact hp.2,hf.pos,by unfold cU;exact this⟩
theorem Hg {h:Hp} {s:Sl} {v:List (List Nat)} {p:Int} {R:Value->Hp->Prop} (hpv:ge h s v) (h0:0<=p) (hp:p<v.length) (hne:0<(v.getD p.toNat []).length)
  (k:R (.bool (decide (cU v p=1))) h):qT #[s.v,I p] h R:=by
 apply JS
 refine uf_ ?_
 obtain⟨b,o,t,ha,hlt,hc,ht⟩:=hpv.at h0 hp
 refine⟨b,o,ha,h0,hlt,t,hc,?_⟩
 obtain⟨b2,o2,ha2,hc2,hl2⟩:=ht.elt hne
 refine⟨b2,o2,ha2,by omega,by omega,_,hc2,dj ?_ k⟩
 rw [Bool.eq_iff_iff,decide_eq_true_eq,beq_iff_eq]
 unfold cU;omega
theorem Fq {h:Hp} {M:MSl} {m:ai} {s:Sl} {v:List (List Nat)} {R:Value->Hp->Prop} (hs:aN h M m) (g:dP m) (hpv:ge h s v) (a:AV m v)
  (k:R (.bool (iR m v)) h):jJ #[aO M,s.v] h R:=by
 refine ACalls.drop (zF ?_)
 refine uf_ ?_
 refine aj fun b8 h1 hb8 l1 f8=>?_
 refine aj fun b10 h2 hb10 l2 f10=>?_
 replace f8:=l2 _ _ f8
 replace l2:=Hp.le_trans l1 l2
 (refine az ?_)
 refine oh (fun p=> !decide (cU v p=1)) (hs.mono l2).holds (fun p hp R k=>?_) ⟨_,rfl,_,l2,dj ?_ k⟩
 ·obtain⟨h1,h2,h3,_⟩:=ET a (g.hol p hp)
  apply wm
  refine uf_ ?_
  (refine az ?_)
  exact Hg (hpv.mono l2) h1 h2 h3 ⟨_,rfl,k⟩
 ·rw [ER,Bool.not_not];rfl
theorem Mf {h:Hp} {M:MSl} {m:ai} {s:Sl} {v:List (List Nat)} {R:Value->Hp->Prop} (hs:aN h M m) (g:dP m) (hpv:ge h s v) (a:AV m v)
  (k:R (I (DT m v)) h):kS #[aO M,s.v] h R:=by
 refine ACalls.drop (BN ?_)
 refine uf_ ?_
 refine aj fun b8 h1 hb8 l1 f8=>?_
 refine aj fun b10 h2 hb10 l2 f10=>?_
 replace f8:=l2 _ _ f8
 replace l2:=Hp.le_trans l1 l2
 (refine az ?_)
 refine rf (fun p=>decide (cU v p=1)) (hs.mono l2).bads (fun p hp R k=>?_) ⟨_,rfl,_,l2,qo ?_ k⟩
 ·obtain⟨h1,h2,h3,_⟩:=ET a (g.bad p hp)
  apply yy
  refine uf_ ?_
  (refine az ?_)
  exact Hg (hpv.mono l2) h1 h2 h3 ⟨_,rfl,k⟩
 ·unfold GM DT qp
  cases List.findIdx? (fun p=>decide (cU v p=1)) m.bads<;>rfl
theorem uD {h:Hp} {M:MSl} {m:ai} {s:Sl} {v:List (List Nat)} {R:Value->Hp->Prop} (hs:aN h M m) (g:dP m) (hpv:ge h s v) (a:AV m v)
  (k:R (.bool (iR m v)) h):kE #[aO M,s.v] h R:=by
 refine ACalls.drop (Hs ?_)
 refine uf_ ?_
 have hhn:=hs.holds.len
 have hhl:=g.hl
 refine aj fun b8 h1 hb8 l1 f8=>?_
 refine av m.holds.length (fun i vs h'=>h'=h1/\vs= [s.v, .pointer (some ⟨b8,0,none⟩),I i]/\(m.holds.take i).all (fun p=>decide (cU v p=1))=true) ⟨rfl,rfl,rfl⟩ ?_
 rintro i _ _ next hi ⟨rfl,rfl,hall⟩ hnx
 rename_i h1
 refine⟨s,_,_,_,rfl,?_⟩
 repeat' (refine az ?_)
 by_cases hlt:i<m.holds.length
 rotate_left
 ·refine aD (by simp;omega) ⟨_,l1,dj ?_ k⟩
  rw [List.take_of_length_le (by omega)]at hall
  exact hall.symm
 refine aJ (by simp;omega) ?_
 obtain⟨p,hpi⟩: ∃p,m.holds[i]?=some p:=⟨_,List.getElem?_eq_getElem hlt⟩
 obtain⟨e0,e1,e2,e3⟩:=ET a (g.hol p (List.mem_of_getElem? hpi))
 obtain⟨b,o,ha,hc⟩:=(hs.mono l1).holds.get hpi
 (refine az ?_)
 refine⟨b,o,ha,by omega,by omega,_,hc,?_⟩
 obtain⟨b1,o1,t,ha1,hlt1,hc1,ht⟩:=(hpv.mono l1).at e0 e1
 refine⟨b1,o1,ha1,e0,hlt1,t,hc1,?_⟩
 obtain⟨b2,o2,ha2,hc2,hl2⟩:=ht.elt e2
 refine⟨b2,o2,ha2,by omega,by omega,_,hc2,?_⟩
 refine ac (fun e=>⟨_,l1,dj ?_ k⟩) (fun e=>?_)
 ·have e':=bU e
  symm
  refine BQ hpi ?_
  rw [decide_eq_false_iff_not]
  unfold cU;omega
 ·have e':=aY e
  rw [aA (by omega)]
  refine hnx hlt _ _ ⟨rfl,rfl,?_⟩
  rw [yn hpi,hall,Bool.true_and,decide_eq_true_eq]
  unfold cU at e3⊢;omega
theorem H0 {α:Type} {p:α->Bool} {xs:List α} {i:Nat} {x:α} (hx:xs[i]?=some x) (hp:p x=true) (h:(xs.take i).any p=false):xs.findIdx? p=some i:=by
 have hlt:=get_lt hx
 have he:xs[i]=x:=by rw [List.getElem?_eq_getElem hlt]at hx;exact Option.some.inj hx
 rw [List.findIdx?_eq_some_iff_getElem]
 refine⟨hlt,by rw [he];exact hp,fun j hj=>?_⟩
 rw [List.any_eq_false]at h
 have:=h xs[j] (by rw [List.mem_take_iff_getElem];exact⟨j,by omega,rfl⟩)
 simpa using this
theorem Mn {α:Type} {p:α->Bool} {xs:List α} (h:xs.any p=false):xs.findIdx? p=none:=by
 rw [List.findIdx?_eq_none_iff]
 rw [List.any_eq_false]at h
 intro x hx;simpa using h x hx
theorem Qp {α:Type} {l:List α} {p:α->Bool} {i:Nat} {x:α} (hx:l[i]?=some x):(l.take (i+1)).any p=((l.take i).any p||p x):=by
 have hlt:=get_lt hx
 rw [List.getElem?_eq_getElem hlt]at hx
 rw [List.take_succ_eq_append_getElem hlt,List.any_append,Option.some.inj hx];simp
theorem Aj {h:Hp} {M:MSl} {m:ai} {s:Sl} {v:List (List Nat)} {R:Value->Hp->Prop} (hs:aN h M m) (g:dP m) (hpv:ge h s v) (a:AV m v)
  (k:R (I (DT m v)) h):nY #[aO M,s.v] h R:=by
 refine ACalls.drop (Kp ?_)
 refine uf_ ?_
 have hhn:=hs.bads.len
 have hhl:=g.bl
 refine aj fun b8 h1 hb8 l1 f8=>?_
 refine av m.bads.length (fun i vs h'=>h'=h1/\vs= [s.v, .pointer (some ⟨b8,0,none⟩),I i]/\(m.bads.take i).any (fun p=>decide (cU v p=1))=false) ⟨rfl,rfl,rfl⟩ ?_
 rintro i _ _ next hi ⟨rfl,rfl,hall⟩ hnx
 rename_i h1
 refine⟨s,_,_,_,rfl,?_⟩
 repeat' (refine az ?_)
 by_cases hlt:i<m.bads.length
 rotate_left
 ·refine aD (by simp;omega) ⟨_,l1,qo ?_ k⟩
  rw [List.take_of_length_le (by omega)]at hall
  unfold DT qp
  rw [Mn hall]
 refine aJ (by simp;omega) ?_
 obtain⟨p,hpi⟩: ∃p,m.bads[i]?=some p:=⟨_,List.getElem?_eq_getElem hlt⟩
 obtain⟨e0,e1,e2,e3⟩:=ET a (g.bad p (List.mem_of_getElem? hpi))
 obtain⟨b,o,ha,hc⟩:=(hs.mono l1).bads.get hpi
 (refine az ?_)
 refine⟨b,o,ha,by omega,by omega,_,hc,?_⟩
 obtain⟨b1,o1,t,ha1,hlt1,hc1,ht⟩:=(hpv.mono l1).at e0 e1
 refine⟨b1,o1,ha1,e0,hlt1,t,hc1,?_⟩
 obtain⟨b2,o2,ha2,hc2,hl2⟩:=ht.elt e2
 refine⟨b2,o2,ha2,by omega,by omega,_,hc2,?_⟩
 refine ac (fun e=>⟨_,l1,qo ?_ k⟩) (fun e=>?_)
 ·have e':=bU e
  unfold DT qp
  rw [H0 hpi (by rw [decide_eq_true_eq];unfold cU;omega) hall]
 ·have e':=aY e
  rw [aA (by omega)]
  refine hnx hlt _ _ ⟨rfl,rfl,?_⟩
  rw [Qp hpi,hall,Bool.false_or,decide_eq_false_iff_not]
  unfold cU;omega
def iO (binds:List BindP) (p:Nat):Int:=match ce binds p with|some k=>k|none=> -1
theorem G5 (b:BindP) (r:List BindP) (p:Nat):ce (b::r) p=if b.state=(p:Int)then some b.node.toNat else ce r p:=by
 unfold ce
 rw [List.find?_cons]
 by_cases e:b.state=(p:Int)<;>simp [e]
theorem nr {h:Hp} {s:Sl} {binds:List BindP} {p:Nat} {R:Value->Hp->Prop} (hs:qJ h s binds) (hl:binds.length<=1048576) (h0: ∀b∈binds,0<=b.node)
  (k:R (I (iO binds p)) h):gX #[s.v,I p] h R:=by
 apply GH
 refine uf_ ?_
 have hn:=hs.len
 refine av binds.length (fun i vs h'=>h'=h/\vs= [s.v,I p,I i]/\ce (binds.drop i) p=ce binds p) ⟨rfl,rfl,rfl⟩ ?_
 rintro i _ _ next hi ⟨rfl,rfl,hall⟩ hnx
 rename_i h
 refine⟨s,_,_,rfl,?_⟩
 by_cases hlt:i<binds.length
 rotate_left
 ·refine aD (by simp;omega) (qo ?_ k)
  rw [List.drop_of_length_le (by omega)]at hall
  unfold iO
  rw [<-hall];rfl
 refine aJ (by simp;omega) ?_
 obtain⟨x,hxi⟩: ∃x,binds[i]?=some x:=⟨_,List.getElem?_eq_getElem hlt⟩
 have hx0:=h0 x (List.mem_of_getElem? hxi)
 obtain⟨b,o,ha,c1,c2⟩:=hs.at hxi
 have hd:binds.drop i=x::binds.drop (i+1):=by
  rw [List.drop_eq_getElem_cons hlt]
  rw [List.getElem?_eq_getElem hlt]at hxi
  rw [Option.some.inj hxi]
 rw [hd,G5]at hall
 refine⟨b,o,ha,by omega,by omega,_,c1,?_⟩
 refine ac (fun e=>?_) (fun e=>?_)
 ·refine⟨b,o,ha,by omega,by omega,_,c2,qo ?_ k⟩
  rw [if_pos (bU e)]at hall
  unfold iO
  rw [<-hall]
  show x.node=((x.node.toNat:Nat):Int)
  omega
 ·rw [aA (by omega)]
  rw [if_neg (aY e)]at hall
  exact hnx hlt _ _ ⟨rfl,rfl,hall⟩
theorem I4 (h:Hp) (s t:Sl):(h.offS s).offS t=(h.offS t).offS s:=by
 unfold Hp.offS
 cases s.a<;>cases t.a<;>first|rfl|exact Tu _ _ _
theorem Buf.beside {h:Hp} {s t:Sl} {sz sz':Nat} {cs ds:List Value} (e:Buf h s sz cs) (f:Buf (h.offS s) t sz' ds):Buf (h.offS t) s sz cs:=by
 refine⟨e.1,e.2.1,e.2.2.imp id ?_⟩
 rintro ⟨b,hb,hbb⟩
 refine⟨b,hb,?_⟩
 rcases f.2.2 with ⟨h0,_⟩|⟨c,hc,hcc⟩
 ·unfold Hp.offS;rw [h0];exact hbb
 ·have hne:c≠b:=by
   rintro rfl
   simp only [Hp.offS,hb,xy]at hcc;cases hcc
  simp only [Hp.offS,hc,Hp.off,Hp.set]
  rw [if_neg (fun e=>hne e.symm)];exact hbb
theorem cH {m:ai} (g:dP m) (kind:Int): ∀p∈aU m.nodes kind,p<m.nodes.length:=fun p hp=>mu hp
theorem eP (l:List NodeP) (kind:Int):(aU l kind).length<=l.length:=by
 unfold aU
 refine Nat.le_trans (List.length_filter_le _ _) ?_
 rw [List.length_range];omega
theorem IG {l:List NodeP} {ps:List Nat} {v:List Nat} (h:v∈da l ps):v.length<=4:=by
 unfold da at h
 obtain⟨p,_,rfl⟩:=List.mem_map.1 h
 rw [List.length_replicate];exact di _ _
theorem Bv {h:Hp} {M:MSl} {m:ai} {R:Value->Hp->Prop} (hs:aN h M m) (hm:bW m) (g:dP m)
  (k: ∀t h',h.le h'->t.n=m.nodes.length->ge h' t (od m)->R (Sl.v t) h'):ir #[aO M] h R:=by
 apply wP
 refine uf_ ?_
 have hp36:=eP m.nodes 36
 have hp35:=eP m.nodes 35
 have hns:=hm.nodes
 refine aj fun b7 h1 hb7 l1 f7=>?_
 have x7:=eJ f7
 repeat' (refine az ?_)
 refine dS (hs.mono l1) hm fun t1 h2 l2 p1=>⟨t1,rfl,?_⟩
 repeat' (((with_reducible apply kJ);(assumption);(assumption)))
 have l12:=Hp.le_trans l1 l2
 refine rH (hs.mono l12) hm p1 (cH g 36) (by omega) fun o1 ts1 h3 c1 n1=>⟨o1,rfl,?_⟩
 have l23:=Hp.le_trans c1.le (bk _ _)
 have l13:=Hp.le_trans l2 l23
 repeat' (((with_reducible apply kJ);(assumption);(assumption)))
 refine dS (hs.mono (Hp.le_trans l1 l13)) hm fun t2 h4 l4 p2=>⟨t2,rfl,?_⟩
 have l14:=Hp.le_trans l13 l4
 repeat' (((with_reducible apply kJ);(assumption);(assumption)))
 refine rH (hs.mono (Hp.le_trans l1 l14)) hm p2 (cH g 35) (by omega) fun o2 ts2 h5 c2 n2=>⟨o2,rfl,?_⟩
 have l45:=Hp.le_trans c2.le (bk _ _)
 have l15:=Hp.le_trans l14 l45
 (((with_reducible apply kJ);(assumption);(assumption)))
 have i1:IntSS h5 o1 ((da m.nodes (stP m)).map VL):=(c1.ints (fun v hv=>by have:=IG hv;omega) (by omega)).mono (Hp.le_trans l4 l45)
 have i2:IntSS h5 o2 ((da m.nodes (inP m)).map VL):=c2.ints (fun v hv=>by have:=IG hv;omega) (by omega)
 exact xV (hs.mono (Hp.le_trans l1 l15)) hm g.ok g.nl i1 c1.buf.2.1 (xY g.ok (mQ _ _)) i2 c2.buf.2.1 (xY g.ok (mQ _ _)) fun t h6 l6 hn hpv=>⟨t,rfl,k t h6 (Hp.le_trans l1 (Hp.le_trans l15 l6)) hn hpv⟩
theorem HO (l:List NodeP) (a b:List Nat):da l (a++b)=da l a++da l b:=by simp [da]
structure ZS (l:List NodeP) (g:Hp) (ps:List Nat) (ts:List Sl):Prop where
 len:ts.length=ps.length
 val: ∀(j:Nat) (t:Sl),ts[j]?=some t->IntS g t (VL ((da l ps).getD j []))
theorem ZS.mono {l:List NodeP} {g g':Hp} {ps:List Nat} {ts:List Sl} (le:g.le g') (e:ZS l g ps ts):ZS l g' ps ts:=⟨e.len,fun j t h=>(e.val j t h).mono le⟩
theorem ZS.snoc {l:List NodeP} {g:Hp} {ps:List Nat} {ts:List Sl} {p:Nat} {t:Sl} (e:ZS l g ps ts) (h:IntS g t (VL (List.replicate (aK l p) 0))):ZS l g (ps++ [p]) (ts++ [t]):=by
 refine⟨by simp [e.len],fun j u hu=>?_⟩
 rw [HO]
 by_cases hj:j<ts.length
 ·rw [List.getElem?_append_left hj]at hu
  rw [gH (by rw [mA,<-e.len];exact hj)]
  exact e.val j u hu
 ·have hju:=get_lt hu
  simp at hju
  have hje:j=ts.length:=by omega
  subst hje
  rw [List.getElem?_append_right (Nat.le_refl _),Nat.sub_self]at hu
  simp at hu;subst hu
  rw [List.getD_eq_getElem?_getD,List.getElem?_append_right (by rw [mA,e.len];exact Nat.le_refl _),mA,e.len,Nat.sub_self]
  exact h
theorem ZS.ints {l:List NodeP} {g h:Hp} {ps:List Nat} {ts:List Sl} {s:Sl} (e:ZS l g ps ts) (le:g.le h) (hb:Buf h s 1 (ts.map Sl.v)) (hn:s.n<=1048576):IntSS h s ((da l ps).map VL):=by
 refine⟨ts,by rw [List.length_map,mA];exact e.len,hb.slc_of (by omega),fun i h1 h2=>?_⟩
 have:=(e.val i _ (List.getElem?_eq_getElem h1)).mono le
 have hi:i<(da l ps).length:=by rw [List.length_map]at h2;exact h2
 rw [List.getElem_map]
 rwa [List.getD_eq_getElem?_getD,List.getElem?_eq_getElem hi]at this
theorem Dy {h:Hp} {M:MSl} {m:ai} {R:Value->Hp->Prop} (hs:aN h M m) (hm:bW m) (g:dP m)
  (k: ∀t h',h.le h'->t.n=m.nodes.length->ge h' t (od m)->WH h t->R (Sl.v t) h'):km #[aO M] h R:=by
 apply Hb
 refine uf_ ?_
 have hn:=hs.nodes.len
 have hns:=hm.nodes
 refine aj fun b7 h1 hb7 l1 f7=>?_
 refine av m.nodes.length (fun i vs h'=> ∃(ts us:List Sl) (sS sI:Sl),vs= [.pointer (some ⟨b7,0,none⟩),sS.v,sI.v,I i]/\h.le ((h'.offS sS).offS sI)/\((h'.offS sS).offS sI) b7=some (.inl ⟨aw M,5,false⟩)/\
  Buf h' sS 1 (ts.map Sl.v)/\Buf (h'.offS sS) sI 1 (us.map Sl.v)/\ZS m.nodes ((h'.offS sS).offS sI) (aU (m.nodes.take i) 36) ts/\ZS m.nodes ((h'.offS sS).offS sI) (aU (m.nodes.take i) 35) us/\sS.n<=i/\sI.n<=i)
  ⟨[], [],⟨none,0,0⟩,⟨none,0,0⟩,rfl,l1,f7,eG _ _,eG _ _,⟨rfl,fun j t ht=>by simp at ht⟩,⟨rfl,fun j t ht=>by simp at ht⟩,Nat.le_refl _,Nat.le_refl _⟩ ?_
 clear f7 l1 hb7 h1
 rintro i _ h1 next hi ⟨ts,us,sS,sI,rfl,l1,f7,bS,bI,zS,zI,nS,nI⟩ hnx
 have lo:=Hp.le_trans (bk (h1.offS sS) sI) (bk h1 sS)
 have l1':=Hp.le_trans l1 lo
 have f7':=lo _ _ f7
 refine⟨_,_,sS,sI,_,rfl,?_⟩
 repeat' (refine az ?_)
 by_cases hlt:i<m.nodes.length
 rotate_left
 ·have hie:i=m.nodes.length:=by omega
  subst hie
  refine aD (by simp;omega) ?_
  repeat' (refine az ?_)
  rw [List.take_of_length_le (Nat.le_refl _)]at zS zI
  have i1:=zS.ints lo bS (by omega)
  have i2:=zI.ints lo (bI.mono (bk _ _)) (by omega)
  exact ph (hs.mono l1') hm g.ok g.nl i1 (xY g.ok (mQ _ _)) i2 (xY g.ok (mQ _ _)) fun t h6 l6 hn hpv pn=>⟨t,rfl,k t h6 (Hp.le_trans l1' l6) hn hpv fun b o e=>aF l1' (pn b o e)⟩
 refine aJ (by simp;omega) ?_
 obtain⟨n,hni⟩: ∃n,m.nodes[i]?=some n:=⟨_,List.getElem?_eq_getElem hlt⟩
 (refine az ?_)
 obtain⟨bn,on,han,e0,e1,e2,e3,e4,e5,e6,e7,e8⟩:=(hs.nodes.mono l1').at hni
 have hsa:aE m.nodes ((i:Nat):Int)=n.sort:=by unfold aE;rw [Int.toNat_natCast,hni]
 refine⟨bn,on,han,by omega,by omega,_,e6,_,e7,?_⟩
 refine ff ⟨_,rfl,?_⟩
 have hce:cL ⟨n.sort.idx,n.sort.wid⟩=aK m.nodes i:=by unfold aK;rw [hsa]
 rw [hce]
 have hc4:=di m.nodes i
 refine⟨by omega,by omega,by omega,by omega,?_⟩
 refine aj fun b33 h2 hb33 l2 f33=>?_
 rw [Int.toNat_natCast,Nat.mul_one,cj]at f33
 refine aj fun b35 h3 hb35 l3 f35'=>?_
 have n33:=fresh_ne hb35 f33
 have b35n:=aF l2 hb35
 replace f33:=l3 _ _ f33
 (with_reducible apply cb);(exact f35');(exact Hp.le_trans l2 l3);(exact b35n);(exact Nat.le_refl 1)
 intro h4 f35 kp l4
 replace f33:=cf kp n33 f33
 have f35v:h4 b35=some (.inl ⟨[(⟨some ⟨b33,0,none⟩,aK m.nodes i,aK m.nodes i⟩:Sl).v],1,false⟩):=f35
 have hz4:IntS h4 ⟨some ⟨b33,0,none⟩,aK m.nodes i,aK m.nodes i⟩ (VL (List.replicate (aK m.nodes i) 0)):=by
  refine⟨by dsimp only;omega,by simp [bz], .inr ⟨b33,0,rfl,?_⟩⟩
  have hc:(VL (List.replicate (aK m.nodes i) 0)).map I=List.replicate (aK m.nodes i) (I 0):=by simp [VL]
  rw [hc];exact ay f33
 clear f35 f35' kp l2 l3 hb33 hb35 h2 h3
 have bS4:=bS.mono l4
 have bI4:=bI.mono (bM sS l4)
 have l4o:=bM sI (bM sS l4)
 have hz4o:IntS ((h4.offS sS).offS sI) ⟨some ⟨b33,0,none⟩,aK m.nodes i,aK m.nodes i⟩ (VL (List.replicate (aK m.nodes i) 0)):=(hz4.offL bS4).offL bI4
 have f35o:((h4.offS sS).offS sI) b35=some (.inl ⟨[(⟨some ⟨b33,0,none⟩,aK m.nodes i,aK m.nodes i⟩:Sl).v],1,false⟩):=by
  have d: ∀{s:Sl} {gg:Hp} {cs:List Value},gg.le h1->Buf gg s 1 cs-> ∀a,s.a=some a->a.block≠b35:=by
   intro s gg cs hg hb a ha e
   rcases hb.2.2 with ⟨h0,_⟩|⟨c,hc,hcb⟩
   ·rw [h0]at ha;cases ha
   ·rw [hc]at ha;cases ha
    subst e
    have:=hg _ _ hcb
    rw [b35n]at this;cases this
  rw [BH (d (bk _ _) bI),BH (d (Hp.le_refl _) bS)];exact f35v
 have hp36:=kD (kind:=36) hni
 have hp35:=kD (kind:=35) hni
 have f7'':=l4 _ _ f7'
 repeat' (refine az ?_)
 refine⟨bn,on,han,by omega,by omega,_,l4.cell e0,?_⟩
 refine ap (fun J=> ∀(sS':Sl) (ts':List Sl) (h5:Hp),((h4.offS sS).offS sI).le ((h5.offS sS').offS sI)->Buf h5 sS' 1 (ts'.map Sl.v)->Buf (h5.offS sS') sI 1 (us.map Sl.v)->ZS m.nodes ((h5.offS sS').offS sI) (aU (m.nodes.take (i+1)) 36) ts'->sS'.n<=i+1->J sS' h5) ?_ (fun J hJ=>?_)
 ·intro sS' ts' h5 l5 bS5 bI5 zS5 nS5
  have lo5:=Hp.le_trans (bk (h5.offS sS') sI) (bk h5 sS')
  have l15:=Hp.le_trans l4o l5
  have g7:=lo5 _ _ (l5 _ _ (l4o _ _ f7))
  have g35:=lo5 _ _ (l5 _ _ f35o)
  have e0':=(Hp.le_trans (Hp.le_trans l1 l15) lo5)
  obtain⟨bn',on',han',q0,_⟩:=(hs.nodes.mono e0').at hni
  (refine az ?_)
  refine⟨bn',on',han',by omega,by omega,_,q0,?_⟩
  refine ac (fun e=>?_) (fun e=>?_)
  ·rw [if_pos (bU e)]at hp35
   (refine az ?_)
   refine aj fun b63 h6 hb63 l6 f63=>?_
   have l6o:=bM sS' l6
   have l6o2:=bM sI (bM sS' l6)
   have bS6:=bS5.mono l6
   have bI6:=bI5.mono l6o
   have bS6':=bS6.beside bI6
   refine dm (bI5.mono (Hp.le_trans l6o (bk _ _))) (by omega) (by omega) (by omega) ⟨b63,0,rfl,ay f63⟩ (by simp) rfl ?_
   intro s' h7 hs'n hbuf' l7 _
   rw [aA (by omega)]
   have bS7:Buf (h7.offS s') sS' 1 (ts'.map Sl.v):=bS6'.mono l7
   have bI7:Buf (h7.offS sS') s' 1 ((us++ [(⟨some ⟨b33,0,none⟩,aK m.nodes i,aK m.nodes i⟩:Sl)]).map Sl.v):=by
    rw [List.map_append];exact hbuf'.beside bS7
   have l57:((h5.offS sS').offS sI).le ((h7.offS sS').offS s'):=by
    have:=Hp.le_trans l6o2 (show ((h6.offS sS').offS sI).le ((h7.offS sS').offS s') by
     rw [I4 h6,I4 h7];exact bM sS' l7)
    exact this
   have l17:=Hp.le_trans l15 l57
   refine hnx hlt _ _ ⟨ts',_,sS',s',rfl,Hp.le_trans l1 l17,l17 _ _ f7,bS7.mono (bk _ _),bI7,zS5.mono l57,?_,nS5,by omega⟩
   rw [hp35]
   exact(zI.mono l17).snoc (hz4o.mono (Hp.le_trans l5 l57))
  ·rw [if_neg (aY e),List.append_nil]at hp35
   rw [aA (by omega)]
   refine hnx hlt _ _ ⟨ts',us,sS',sI,rfl,Hp.le_trans l1 l15,l15 _ _ f7,bS5,bI5,zS5,?_,nS5,by omega⟩
   rw [hp35];exact zI.mono l15
 ·refine ac (fun e=>?_) (fun e=>?_)
  ·rw [if_pos (bU e)]at hp36
   have f35c:=(Hp.le_trans (bk (h4.offS sS) sI) (bk h4 sS)) _ _ f35o
   (refine az ?_)
   refine aj fun b48 h6 hb48 l6 f48=>?_
   have l6o:=bM sS l6
   have l6o2:=bM sI l6o
   refine dm (bS4.mono l6) (by omega) (by omega) (by omega) ⟨b48,0,rfl,ay f48⟩ (by simp) rfl ?_
   intro s' h7 hs'n hbuf' l7 _
   have l47:=Hp.le_trans l6o2 (bM sI l7)
   have bI7:Buf (h7.offS s') sI 1 (us.map Sl.v):=bI4.mono (Hp.le_trans l6o l7)
   refine hJ s' (ts++ [(⟨some ⟨b33,0,none⟩,aK m.nodes i,aK m.nodes i⟩:Sl)]) h7 l47 (by rw [List.map_append];exact hbuf') bI7 ?_ (by omega)
   rw [hp36]
   exact(zS.mono (Hp.le_trans l4o l47)).snoc (hz4o.mono l47)
  ·rw [if_neg (aY e),List.append_nil]at hp36
   refine hJ sS ts h4 (Hp.le_refl _) bS4 bI4 ?_ (by omega)
   rw [hp36];exact zS.mono l4o
theorem Kc {h:Hp} {M:MSl} {m:ai} {R:Value->Hp->Prop} (hs:aN h M m) (hm:bW m) (g:dP m)
  (k: ∀t h',h.le h'->t.n=m.nodes.length->ge h' t (od m)->R (Sl.v t) h'):km #[aO M] h R:=
 Dy hs hm g fun t h' l hn hpv _=>k t h' l hn hpv
theorem Buf.fresh_ne {h:Hp} {s:Sl} {sz b:Nat} {cs:List Value} (e:Buf h s sz cs) (hb:h b=none): ∀a,s.a=some a->a.block≠b:=by
 intro a ha hab
 rcases e.2.2 with ⟨h0,_⟩|⟨c,hc,hcb⟩
 ·rw [h0]at ha;cases ha
 ·rw [hc]at ha;cases ha
  subst hab
  rw [hb]at hcb;cases hcb
theorem Buf.offS_new {h h':Hp} {s:Sl} {sz b:Nat} {cs:List Value} {x:Blk} (e:Buf h s sz cs) (hb:h b=none) (f:h' b=some x):(h'.offS s) b=some x:=by
 rw [BH (e.fresh_ne hb)];exact f
theorem Buf.sub_le {h h':Hp} {s:Sl} {sz:Nat} {cs:List Value} (e:Buf (h'.sub h) s sz cs) (l:h.le h'):h.le (h'.offS s):=by
 unfold Hp.offS
 rcases e.2.2 with ⟨h0,_⟩|⟨b,ha,hb⟩
 ·rw [h0];exact l
 ·rw [ha]
  refine uO ?_ l
  cases hx:h b with
  |none=>rfl
  |some x=>rw [lE hx]at hb;cases hb
theorem Buf.sub_buf {h h':Hp} {s:Sl} {sz:Nat} {cs:List Value} (e:Buf (h'.sub h) s sz cs):Buf h' s sz cs:=e.mono (Go.Lead.sub_le _ _)
theorem Buf.wr {h:Hp} {out x:Sl} {ts:List Sl} {q:Nat} {P:Hp->Prop} (e:Buf h out 1 (ts.map Sl.v)) (hq:q<ts.length)
  (k: ∀h',Buf h' out 1 ((ts.set q x).map Sl.v)->h'.offS out=h.offS out->P h'):
  ∃b o:Nat,out.a=some (Addr.mk b o none)/\(0:Int)<=(q:Int)/\(q:Int)<((out.n:Nat):Int)/\
   ∃(cs:List Value) (z:Nat),h b=some (.inl ⟨cs,z,false⟩)/\(o+Int.toNat (q:Int)*1)+1<=List.length cs/\cu (h.row b (cv cs (o+Int.toNat (q:Int)*1) [x.v]) z) P:=by
 have hl:=e.1
 rw [List.length_map]at hl
 rcases e.2.2 with ⟨_,h0,_⟩|⟨b,ha,hb⟩
 ·omega
 ·refine⟨b,0,ha,by omega,by omega,_,_,hb,by rw [List.length_map,Int.toNat_natCast];omega,?_⟩
  rw [Pv]
  refine k _ ⟨by rw [List.length_map,List.length_set];omega,e.2.1, .inr ⟨b,ha,?_⟩⟩ ?_
  ·rw [bT,bO,Int.toNat_natCast,Nat.zero_add,Nat.mul_one,List.map_set]
  ·unfold Hp.offS;rw [ha];exact uX _ _ _ _
theorem MN (v:List Nat) (i x:Nat):(VL (v++List.replicate i x)).map I++ [I (x:Int)]=(VL (v++List.replicate (i+1) x)).map I:=by
 rw [List.replicate_succ',<-List.append_assoc,uo (v++List.replicate i x),List.map_append];rfl
theorem wE {h:Hp} {s:Sl} {v:List Nat} {i w:Int} {R:Value->Hp->Prop} (hs:IntS h s (VL v)) (h0:0<v.length) (hl:v.length<=4)
  (k: ∀t h',h.le h'->IntS h' t (VL (mL (cL ⟨i,w⟩) v))->R (.agg #[Sl.v t]) h'):lT #[.agg #[I i,I w], .agg #[s.v]] h R:=by
 apply IB
 refine uf_ ?_
 refine aj fun b5 h1 hb5 l1 f5=>?_
 refine aj fun b7 h2 hb7 l2 f7=>?_
 replace f5:=l2 _ _ f5
 have l02:=Hp.le_trans l1 l2
 have b7n:=aF l1 hb7
 refine aj fun b9 h3 hb9 l3 f9=>?_
 have n59:=fresh_ne hb9 f5
 have n79:=fresh_ne hb9 f7
 have b9n:=aF l02 hb9
 replace f5:=l3 _ _ f5
 replace f7:=l3 _ _ f7
 have l03:=Hp.le_trans l02 l3
 (refine az ?_)
 refine nD (hs.mono l03) (by rw [bz];omega) fun c h4 l4 hb4=>⟨c,rfl,?_⟩
 have l4o:=hb4.sub_le l4
 have hb4':=hb4.sub_buf
 refine aj fun b16 h5 hb16 l5 f16'=>?_
 have b16n:=aF l4 hb16
 have l5o:=Hp.le_trans l4o (bM c l5)
 have f16o:=hb4'.offS_new hb16 f16'
 (with_reducible apply uW);(exact f16o);(exact l5o);(exact b16n);(exact Nat.le_refl 1)
 intro h6 f16 kp l6 hbk
 have hbuf:=hbk _ _ (hb4'.mono l5)
 have hcn:=hbuf.1
 rw [List.length_map,bz]at hcn
 have hc4:=uv ⟨i,w⟩
 refine av (cL ⟨i,w⟩-v.length) (fun q vs h'=> ∃sl:Sl,vs= [.pointer (some ⟨b5,0,none⟩), .pointer (some ⟨b7,0,none⟩), .pointer (some ⟨b9,0,none⟩), .pointer (some ⟨b16,0,none⟩)]/\h3.le (h'.offS sl)/\
  (h'.offS sl) b16=some (.inl ⟨[sl.v],1,false⟩)/\sl.n=v.length+q/\Buf h' sl 1 ((VL (v++List.replicate q (v.getD 0 0))).map I)) ⟨c,rfl,l6,f16,by omega,by simpa using hbuf⟩ ?_
 clear hbuf hbk kp l6 f16 f16o l5o f16' l5 hb16 hb4' l4o hb4 l4 hcn h4 h5 h6
 rintro q _ h4 next hq ⟨sl,rfl,l4,f16,hsl,hbuf⟩ hnx
 have lo:=bk h4 sl
 have l4':=Hp.le_trans l4 lo
 have g5:=l4' _ _ f5
 have g7:=l4' _ _ f7
 have g16:=lo _ _ f16
 refine⟨_,_,_,_,_,_,_,_,rfl,?_⟩
 repeat' (refine az ?_)
 refine la ⟨_,rfl,rfl,?_⟩
 by_cases hlt:q<cL ⟨i,w⟩-v.length
 ·refine aJ (by simp;omega) ?_
  repeat' (refine az ?_)
  obtain⟨b,o,ha,hc,hln⟩:=((hs.mono l03).mono l4').elt (i:=0) h0
  refine⟨b,o,ha,by omega,by omega,_,hc,?_⟩
  have x16:=eJ g16
  refine aj fun b48 h5 hb48 l5 f48=>?_
  (((with_reducible apply kJ);(assumption);(assumption)))
  have l5o:=bM sl l5
  refine dm (hbuf.mono l5) (by omega) (by omega) (by omega) ⟨b48,0,rfl,ay f48⟩ (by simp) rfl ?_
  intro s' h6 hs'n hbuf' l6 _
  have l46:=Hp.le_trans l5o l6
  (with_reducible apply uW);(exact l46 _ _ f16);(exact Hp.le_trans l4 l46);(exact b16n);(exact Nat.le_refl 1)
  intro h7 e16 kp l7 hbk
  refine hnx hlt _ _ ⟨s',rfl,l7,e16,by omega,hbk _ _ ?_⟩
  rw [<-MN];exact hbuf'
 ·have hqe:q=cL ⟨i,w⟩-v.length:=by omega
  subst hqe
  refine aD (by simp;omega) ?_
  repeat' (refine az ?_)
  have f9o:(h4.offS sl) b9=some (.inl ⟨[.slice none 0 0],1,false⟩):=l4 _ _ f9
  (with_reducible apply uW);(exact f9o);(exact Hp.le_trans l03 l4);(exact b9n);(exact Nat.le_refl 1)
  intro h7 e9 kp l7 hbk
  have e9':=bk _ _ _ _ e9
  refine⟨sl,by rw [aq e9'];rfl,k sl h7 (Hp.le_trans l7 (bk _ _)) ((hbk _ _ hbuf).slc_of (by omega))⟩
theorem Dm {h:Hp} {s:Sl} {v:List Nat} {c:Nat} {R:Value->Hp->Prop} (hs:IntS h s (VL v)) (h0:0<v.length) (hl:v.length<=4) (hc4:c<=4)
  (k: ∀t h',h.le h'->IntS h' t (VL (mL c v))->R (.agg #[Sl.v t]) h'):pu #[.agg #[s.v],I c] h R:=by
 apply Iq
 refine uf_ ?_
 refine aj fun b7 h2 hb7 l2 f7=>?_
 refine aj fun b9 h3 hb9 l3 f9=>?_
 have n79:=fresh_ne hb9 f7
 have b9n:=aF l2 hb9
 replace f7:=l3 _ _ f7
 have l03:=Hp.le_trans l2 l3
 (refine az ?_)
 refine qh (hs.mono l03) (by rw [bz];omega) fun c0 h4 l4 hb4=>⟨c0,rfl,?_⟩
 have l4o:=hb4.sub_le l4
 have hb4':=hb4.sub_buf
 refine aj fun b16 h5 hb16 l5 f16'=>?_
 have b16n:=aF l4 hb16
 have l5o:=Hp.le_trans l4o (bM c0 l5)
 have f16o:=hb4'.offS_new hb16 f16'
 (with_reducible apply uW);(exact f16o);(exact l5o);(exact b16n);(exact Nat.le_refl 1)
 intro h6 f16 kp l6 hbk
 have hbuf:=hbk _ _ (hb4'.mono l5)
 have hcn:=hbuf.1
 rw [List.length_map,bz]at hcn
 refine av (c-v.length) (fun q vs h'=> ∃sl:Sl,vs= [I c, .pointer (some ⟨b7,0,none⟩), .pointer (some ⟨b9,0,none⟩), .pointer (some ⟨b16,0,none⟩)]/\h3.le (h'.offS sl)/\
  (h'.offS sl) b16=some (.inl ⟨[sl.v],1,false⟩)/\sl.n=v.length+q/\Buf h' sl 1 ((VL (v++List.replicate q (v.getD 0 0))).map I)) ⟨c0,rfl,l6,f16,by omega,by simpa using hbuf⟩ ?_
 clear hbuf hbk kp l6 f16 f16o l5o f16' l5 hb16 hb4' l4o hb4 l4 hcn h4 h5 h6
 rintro q _ h4 next hq ⟨sl,rfl,l4,f16,hsl,hbuf⟩ hnx
 have lo:=bk h4 sl
 have l4':=Hp.le_trans l4 lo
 have g7:=l4' _ _ f7
 have g16:=lo _ _ f16
 refine⟨_,_,_,_,_,_,_,rfl,?_⟩
 (refine az ?_)
 by_cases hlt:q<c-v.length
 ·refine aJ (by simp;omega) ?_
  repeat' (refine az ?_)
  obtain⟨b,o,ha,hc,hln⟩:=((hs.mono l03).mono l4').elt (i:=0) h0
  refine⟨b,o,ha,by omega,by omega,_,hc,?_⟩
  have x16:=eJ g16
  refine aj fun b48 h5 hb48 l5 f48=>?_
  (((with_reducible apply kJ);(assumption);(assumption)))
  have l5o:=bM sl l5
  refine dm (hbuf.mono l5) (by omega) (by omega) (by omega) ⟨b48,0,rfl,ay f48⟩ (by simp) rfl ?_
  intro s' h6 hs'n hbuf' l6 _
  have l46:=Hp.le_trans l5o l6
  (with_reducible apply uW);(exact l46 _ _ f16);(exact Hp.le_trans l4 l46);(exact b16n);(exact Nat.le_refl 1)
  intro h7 e16 kp l7 hbk
  refine hnx hlt _ _ ⟨s',rfl,l7,e16,by omega,hbk _ _ ?_⟩
  rw [<-MN];exact hbuf'
 ·have hqe:q=c-v.length:=by omega
  subst hqe
  refine aD (by simp;omega) ?_
  repeat' (refine az ?_)
  have f9o:(h4.offS sl) b9=some (.inl ⟨[.slice none 0 0],1,false⟩):=l4 _ _ f9
  (with_reducible apply uW);(exact f9o);(exact Hp.le_trans l03 l4);(exact b9n);(exact Nat.le_refl 1)
  intro h7 e9 kp l7 hbk
  have e9':=bk _ _ _ _ e9
  refine⟨sl,by rw [aq e9'];rfl,k sl h7 (Hp.le_trans l7 (bk _ _)) ((hbk _ _ hbuf).slc_of (by omega))⟩
def zD (m:ai) (v:List (List Nat)) (j p:Nat):List Nat:=((ce (m.nexts.take j) p).map fun k=>v.getD k []).getD (List.replicate (aK m.nodes p) 0)
theorem MU (m:ai) (v:List (List Nat)) (p:Nat):zD m v m.nexts.length p=(iV m v p).getD (List.replicate (aK m.nodes p) 0):=by
 unfold zD iV;rw [List.take_length]
theorem QU {m:ai} (g:dP m) (v:List (List Nat)) {j:Nat} {b:BindP} (hb:m.nexts[j]?=some b) (p:Nat):zD m v (j+1) p=if b.state=(p:Int)then v.getD b.node.toNat []else zD m v j p:=by
 unfold zD
 rw [Fn (pP g.twice).2.2 hb]
 split<;>rfl
theorem VS {m:ai} (g:dP m) {v:List (List Nat)} (a:AV m v) {j p:Nat}:(zD m v j p).length<=4:=by
 unfold zD
 cases hb:ce (m.nexts.take j) p with
 |none=>simp only [Option.map_none,Option.getD_none,List.length_replicate];exact di _ _
 |some k=>
  simp only [Option.map_some,Option.getD_some]
  obtain⟨b,hm,_,rfl⟩:=gP hb
  have hp:=eZ.1 (jA (g.nex b (List.mem_of_mem_take hm))).2.1
  have:=uc g.ok (show b.node.toNat<m.nodes.length by omega) (a.fit b.node.toNat (by omega) (by omega))
  rw [this.1];exact di _ _
theorem Hn (m:ai) (v:List (List Nat)) {i p:Nat} (h:(stP m)[i]?=some p):(gn m v).getD i []=zD m v m.nexts.length p:=by
 rw [MU]
 unfold gn kz
 rw [List.getD_eq_getElem?_getD,List.getElem?_map,h];rfl
theorem iE {m:ai} (g:dP m) (kind:Int):(aU m.nodes kind).length<=1048576:=by have:=eP m.nodes kind;have:=g.nl;omega
theorem Ds {h:Hp} {M:MSl} {m:ai} {s:Sl} {v:List (List Nat)} {R:Value->Hp->Prop} (hs:aN h M m) (hm:bW m) (g:dP m) (hpv:ge h s v) (a:AV m v)
  (k: ∀out h',h.le h'->IntSS h' out ((gn m v).map VL)->R (Sl.v out) h'):iY #[aO M,s.v] h R:=by
 apply yD
 refine uf_ ?_
 have hp36:(stP m).length<=m.nodes.length:=eP m.nodes 36
 have hnl:=g.nl
 have hxl:=g.xl
 have hxn:=hs.nexts.len
 refine aj fun b8 h1 hb8 l1 f8=>?_
 repeat' (refine az ?_)
 refine dS (hs.mono l1) hm fun pt h2 l2 hp=>⟨pt,rfl,?_⟩
 replace f8:=l2 _ _ f8
 have l02:=Hp.le_trans l1 l2
 repeat' (refine az ?_)
 refine rH (hs.mono l02) hm hp (cH g 36) (iE g 36) fun out ts h3 c1 hon=>⟨out,rfl,?_⟩
 have hpn:pt.n=(stP m).length:=by have:=hp.len;rw [bz]at this;exact this
 have f83:=bk _ _ _ _ (c1.le _ _ f8)
 (refine az ?_)
 have hs2:=hs.mono l02
 have hpv2:=hpv.mono l02
 refine av m.nexts.length (fun j vs h'=> ∃ts:List Sl,vs= [s.v,pt.v,out.v,M.nex.v,I M.nex.n,I j]/\h2.le (h'.offS out)/\Buf h' out 1 (ts.map Sl.v)/\ts.length=(stP m).length/\
  ∀(i p:Nat) (t:Sl),(stP m)[i]?=some p->ts[i]?=some t->IntS (h'.offS out) t (VL (zD m v j p))) ⟨ts,rfl,c1.le,c1.buf,by rw [c1.len,mA],fun i p t hp ht=>?_⟩ ?_
 ·obtain⟨b,e1,e2,e3⟩:=c1.row i t ht
  have hz:(da m.nodes (stP m)).getD i []=zD m v 0 p:=by
   unfold da zD
   rw [List.getD_eq_getElem?_getD,List.getElem?_map,hp];rfl
  rw [hz]at e1 e3
  rw [e1]
  have:=VS g a (j:=0) (p:=p)
  exact⟨by dsimp only;omega,by simp [bz], .inr ⟨b,0,rfl,ay e3⟩⟩
 clear c1 f83 ts h3
 rintro j _ h3 next hj ⟨ts,rfl,l3,hbuf,htl,hts⟩ hnx
 have lo:=bk h3 out
 have l23:=Hp.le_trans l3 lo
 refine⟨s,pt,out,M.nex,_,_,rfl,?_⟩
 by_cases hlt:j<m.nexts.length
 rotate_left
 ·have hje:j=m.nexts.length:=by omega
  subst hje
  refine aD (by simp;omega) (k out h3 (Hp.le_trans l02 l23) ⟨ts,by unfold gn kz;rw [List.length_map,List.length_map];exact htl,hbuf.slc_of (by rw [hon];have:=iE g 36;omega),fun i h1 h2=>?_⟩)
  have hi:i<(stP m).length:=by omega
  have hpi:(stP m)[i]?=some (stP m)[i]:=List.getElem?_eq_getElem hi
  have:=(hts i _ _ hpi (List.getElem?_eq_getElem h1)).mono lo
  rw [<-Hn m v hpi]at this
  rw [List.getElem_map]
  rwa [List.getD_eq_getElem?_getD,List.getElem?_eq_getElem (by unfold gn kz;simp;exact hi)]at this
 refine aJ (by simp;omega) ?_
 obtain⟨bd,hbd⟩: ∃bd,m.nexts[j]?=some bd:=⟨_,List.getElem?_eq_getElem hlt⟩
 obtain⟨q1,q2,q3,q4⟩:=jA (g.nex bd (List.mem_of_getElem? hbd))
 have q2':=eZ.1 q2
 obtain⟨bx,ox,hax,cx1,cx2⟩:=(hs2.mono l23).nexts.at hbd
 refine⟨bx,ox,hax,by omega,by omega,_,cx1,_,cx2,?_⟩
 refine aj fun b48 h4 hb48 l4 f48'=>?_
 (with_reducible apply cb);(exact f48');(exact l4);(exact hb48);(exact Nat.le_refl 2)
 intro h5 f48 kp l5
 have l5o:=bM out l5
 have f48o:=hbuf.offS_new hb48 f48
 clear f48' kp l4
 refine av (stP m).length (fun q vs h'=> ∃ts:List Sl,vs= [s.v,pt.v,out.v, .pointer (some ⟨b48,0,none⟩),M.nex.v,I M.nex.n,I j,pt.v,I pt.n,I q]/\h2.le (h'.offS out)/\(h'.offS out) b48=some (.inl ⟨[I bd.state,I bd.node],2,false⟩)/\Buf h' out 1 (ts.map Sl.v)/\ts.length=(stP m).length/\
  ∀(i p:Nat) (t:Sl),(stP m)[i]?=some p->ts[i]?=some t->IntS (h'.offS out) t (VL (if i<q then zD m v (j+1) p else zD m v j p)))
  ⟨ts,rfl,Hp.le_trans l3 l5o,f48o,hbuf.mono l5,htl,fun i p t hp ht=>by rw [if_neg (by omega)];exact(hts i p t hp ht).mono l5o⟩ ?_
 clear f48o l5o l5 f48 hb48 hbuf htl hts ts l23 lo l3 hax cx1 cx2 h3 h4 h5
 rintro q _ h3 next2 hq ⟨ts,rfl,l3,f48,hbuf,htl,hts⟩ hnx2
 have lo:=bk h3 out
 have l23:=Hp.le_trans l3 lo
 have g48:=lo _ _ f48
 refine⟨s,pt,out,_,_,_,_,_,pt,_,_,rfl,?_⟩
 by_cases hlq:q<(stP m).length
 rotate_left
 ·refine aD (by simp;omega) ?_
  rw [aA (by omega)]
  refine hnx hlt _ _ ⟨ts,rfl,l3,hbuf,htl,fun i p t hp ht=>?_⟩
  have:=hts i p t hp ht
  rwa [if_pos (by have:=get_lt hp;omega)]at this
 refine aJ (by simp;omega) ?_
 obtain⟨p,hpq⟩: ∃p,(stP m)[q]?=some p:=⟨_,List.getElem?_eq_getElem hlq⟩
 obtain⟨bp,op,hap,hcp⟩:=(hp.mono l23).get (gp hpq)
 refine ap (fun J=> ∀(ts':List Sl) (h':Hp),h2.le (h'.offS out)->(h'.offS out) b48=some (.inl ⟨[I bd.state,I bd.node],2,false⟩)->Buf h' out 1 (ts'.map Sl.v)->ts'.length=(stP m).length->
  (∀(i p:Nat) (t:Sl),(stP m)[i]?=some p->ts'[i]?=some t->IntS (h'.offS out) t (VL (if i<q+1 then zD m v (j+1) p else zD m v j p)))->J h') ?_ (fun J hJ=>?_)
 ·intro ts' h' a1 a2 a3 a4 a5
  rw [aA (by omega)]
  exact hnx2 hlq _ _ ⟨ts',rfl,a1,a2,a3,a4,a5⟩
 refine⟨bp,op,hap,by omega,by omega,_,hcp,?_⟩
 (refine az ?_)
 have hst:=QU g v hbd p
 refine ac (fun e=>?_) (fun e=>?_)
 ·rw [if_pos (bU e).symm]at hst
  (refine az ?_)
  obtain⟨bv,ov,t,hav,hvn,hcv,ht⟩:=(hpv2.mono l23).at q2'.1 (by rw [a.len];exact q2'.2)
  refine⟨bv,ov,hav,q2'.1,hvn,t,hcv,?_⟩
  refine hbuf.wr (x:=t) (by omega) fun h4 hbuf' ho=>?_
  refine hJ _ h4 (by rw [ho];exact l3) (by rw [ho];exact f48) hbuf' (by rw [List.length_set];exact htl) fun i p' u hp' hu=>?_
  rw [ho]
  by_cases hiq:i=q
  ·subst hiq
   rw [hpq]at hp';cases hp'
   rw [List.getElem?_set_self (by omega)]at hu
   obtain rfl:=Option.some.inj hu
   rw [if_pos (by omega),hst]
   obtain⟨bv',ov',t',hav',_,hcv',ht'⟩:=(hpv2.mono l3).at q2'.1 (by rw [a.len];exact q2'.2)
   rw [hav]at hav';cases hav'
   have:=lo.cell hcv'
   rw [hcv]at this
   have htt:t=t':=by
    rcases t with ⟨ta,tn,tc⟩;rcases t' with ⟨ta',tn',tc'⟩
    simpa using this
   rw [htt];exact ht'
  ·rw [List.getElem?_set_ne (fun e=>hiq e.symm)]at hu
   have:=hts i p' u hp' hu
   by_cases h1:i<q
   ·rw [if_pos h1]at this;rw [if_pos (by omega)];exact this
   ·rw [if_neg h1]at this;rw [if_neg (by omega)];exact this
 ·rw [if_neg (fun e'=>aY e e'.symm)]at hst
  refine hJ ts h3 l3 f48 hbuf htl fun i p' u hp' hu=>?_
  have:=hts i p' u hp' hu
  by_cases hiq:i=q
  ·subst hiq
   rw [hpq]at hp';cases hp'
   rw [if_neg (by omega)]at this
   rw [if_pos (by omega),hst];exact this
  ·by_cases h1:i<q
   ·rw [if_pos h1]at this;rw [if_pos (by omega)];exact this
   ·rw [if_neg h1]at this;rw [if_neg (by omega)];exact this
theorem NQ {m:ai} (g:dP m) {p k:Nat} (h:ce m.nexts p=some k):k<m.nodes.length:=by
 obtain⟨b,hb,_,rfl⟩:=gP h
 have:=eZ.1 (jA (g.nex b hb)).2.1
 omega
def lO (m:ai) (s i:Nat):Nat:=dZ m.nodes (stP m) (gn m (cK m s i))
theorem ld {m:ai} (kind:Int) (code:Nat) (g:dP m):yZ m.nodes kind (gj m.nodes (aU m.nodes kind) code):=FU g.ok kind code
theorem Dj {h:Hp} {M:MSl} {m:ai} {st inp:Nat} {R:Value->Hp->Prop} (hs:aN h M m) (hm:bW m) (g:dP m) (h1:st<=1048576) (h2:inp<=1048576)
  (k:R (I (lO m st inp)) h):pz #[aO M,I st,I inp] h R:=by
 refine ACalls.drop (HK ?_)
 refine uf_ ?_
 have hp36:(stP m).length<=m.nodes.length:=eP m.nodes 36
 have hp35:(inP m).length<=m.nodes.length:=eP m.nodes 35
 have hnl:=g.nl
 have hn8:=g.n8
 have hk5:=g.k5
 have hxl:=g.xl
 refine aj fun b9 g1 hb9 l1 f9=>?_
 have x9:=eJ f9
 repeat' (refine az ?_)
 refine cO (hs.mono l1) hm fun p1 g2 l2 i1=>⟨p1,rfl,?_⟩
 have f92:=l2 _ _ f9
 have x92:=eJ f92
 repeat' (refine az ?_)
 have l02:=Hp.le_trans l1 l2
 refine fK (hs.mono l02) hm g.ok i1 (cH g 36) (iE g 36) h1 (by rw [fu g];omega) fun u1 g3 l3 hu1=>⟨u1,rfl,?_⟩
 repeat' (((with_reducible apply kJ);(assumption);(assumption)))
 have l03:=Hp.le_trans l02 l3
 refine cO (hs.mono l03) hm fun p2 g4 l4 i2=>⟨p2,rfl,?_⟩
 have l24:=Hp.le_trans l3 l4
 repeat' (((with_reducible apply kJ);(assumption);(assumption)))
 have l04:=Hp.le_trans l03 l4
 refine fK (hs.mono l04) hm g.ok i2 (cH g 35) (iE g 35) h2 (by rw [EV g];omega) fun u2 g5 l5 hu2=>⟨u2,rfl,?_⟩
 have l25:=Hp.le_trans l24 l5
 (((with_reducible apply kJ);(assumption);(assumption)))
 have l05:=Hp.le_trans l04 l5
 refine ph (hs.mono l05) hm g.ok g.nl (hu1.mono (Hp.le_trans l4 l5)) (ld 36 st g) hu2 (ld 35 inp g) fun vt g6 l6 hvn hpv _=>⟨vt,rfl,?_⟩
 have a:AV m (cK m st inp):=eC g st inp
 have hpv':ge g6 vt (cK m st inp):=hpv
 have hbn: ∀b∈m.nexts,0<=b.node:=fun b hb=>(eZ.1 (jA (g.nex b hb)).2.1).1
 have l06:=Hp.le_trans l05 l6
 have f96:=l6 _ _ (l25 _ _ f92)
 have i16:=i1.mono (Hp.le_trans l25 l6)
 have hpn:p1.n=(stP m).length:=by have:=i1.len;rw [bz]at this;exact this
 unfold lO at k
 generalize cK m st inp=v at*
 have hs6:=hs.mono l06
 refine av (stP m).length (fun i vs h'=> ∃(ts:List Sl) (out:Sl),vs= [.pointer (some ⟨b9,0,none⟩),p1.v,vt.v,out.v,I i]/\g6.le (h'.offS out)/\out.n=i/\ts.length=i/\Buf h' out 1 (ts.map Sl.v)/\
  (∀(j:Nat) (t:Sl),ts[j]?=some t->IntS (h'.offS out) t (VL ((gn m v).getD j [])))) ⟨[],⟨none,0,0⟩,rfl,Hp.le_refl _,rfl,rfl,eG _ _,fun j t ht=>by simp at ht⟩ ?_
 rintro i _ h3 next hi ⟨ts,out,rfl,l3',hon,htl,hbuf,hts⟩ hnx
 have lo:=bk h3 out
 have l63:=Hp.le_trans l3' lo
 have f93:=l63 _ _ f96
 refine⟨_,_,p1,vt,out,_,rfl,?_⟩
 by_cases hlt:i<(stP m).length
 rotate_left
 ·have hie:i=(stP m).length:=by omega
  subst hie
  refine aD (by simp;omega) ?_
  repeat' (refine az ?_)
  have hfl:(gn m v).length=(stP m).length:=by unfold gn kz;simp
  have iss:IntSS h3 out ((gn m v).map VL):=⟨ts,by simp;omega,hbuf.slc_of (by omega),fun j h1 h2=>by
   have:=(hts j _ (List.getElem?_eq_getElem h1)).mono lo
   rw [List.getElem_map]
   rwa [List.getD_eq_getElem?_getD,List.getElem?_eq_getElem (by rw [hfl];omega)]at this⟩
  exact xg (hs6.mono l63) hm g.ok (i16.mono l63) (cH g 36) (iE g 36) iss (oP g a.fit) (by rw [fu g];omega) ⟨_,rfl,_,Hp.le_trans l06 l63,k⟩
 refine aJ (by simp;omega) ?_
 obtain⟨p,hpi⟩: ∃p,(stP m)[i]?=some p:=⟨_,List.getElem?_eq_getElem hlt⟩
 have hpm:=cH g 36 p (List.mem_of_getElem? hpi)
 obtain⟨bp,op,hap,hcp⟩:=(i16.mono l63).get (gp hpi)
 refine⟨bp,op,hap,by omega,by omega,?_⟩
 (refine az ?_)
 refine⟨_,hcp,?_⟩
 refine nr (hs6.mono l63).nexts (by omega) hbn ⟨_,rfl,?_⟩
 have hfg:=Hn m v hpi
 rw [MU]at hfg
 have app: ∀(t:Sl) (h4:Hp),h3.le h4->IntS h4 t (VL ((gn m v).getD i []))-> ∀(b:Nat),h4 b=none->cu (h4.row b [t.v] 1) fun h5=>ck h5 out.a out.n out.c (some ⟨b,0,none⟩) 1 1 24 fun a n k h6=>next [.pointer (some ⟨b9,0,none⟩),p1.v,vt.v, .slice a n k,I (W ((i:Int)+1))] h6:=by
  intro t h4 l4' ht
  refine aj fun b h5 hb l5' f5=>?_
  have l35:=Hp.le_trans l4' l5'
  have l35o:=bM out l35
  refine dm (hbuf.mono l35) (by omega) (by omega) (by omega) ⟨b,0,rfl,ay f5⟩ (by simp) rfl ?_
  intro s' h6 hs'n hbuf' l6' _
  rw [aA (by omega)]
  have l36:=Hp.le_trans l35o l6'
  have hbuf'':Buf h6 s' 1 ((ts++ [t]).map Sl.v):=by rw [List.map_append];exact hbuf'
  refine hnx hlt _ _ ⟨ts++ [t],s',rfl,Hp.le_trans l3' l36,by omega,by simp;omega,hbuf'',fun j u hu=>?_⟩
  by_cases hj:j<i
  ·rw [List.getElem?_append_left (by omega)]at hu
   exact(hts j u hu).mono l36
  ·have hju:=get_lt hu
   simp at hju
   have hje:j=i:=by omega
   subst hje
   rw [List.getElem?_append_right (by omega),htl,Nat.sub_self]at hu
   simp at hu;subst hu
   exact((ht.mono l5').offL (hbuf.mono l35)).mono l6'
 cases hbo:ce m.nexts p with
 |some q=>
  rw [show iO m.nexts p=(q:Int)from by unfold iO;rw [hbo]]
  refine aJ (by simp) ?_
  have hqn:=NQ g hbo
  obtain⟨bv,ov,t,hav,hvn',hcv,ht⟩:=(hpv'.mono l63).at (p:=(q:Int)) (by omega) (by rw [a.len];omega)
  refine⟨bv,ov,hav,by omega,hvn',t,hcv,?_⟩
  refine app t h3 (Hp.le_refl _) ?_
  rw [hfg]
  unfold iV
  rw [hbo]
  simpa using ht
 |none=>
  rw [show iO m.nexts p= -1 from by unfold iO;rw [hbo]]
  refine aD (by simp) ?_
  refine⟨bp,op,hap,by omega,by omega,?_⟩
  (refine az ?_)
  refine⟨_,hcp,?_⟩
  obtain⟨bn,on,han,hpn',c6,c7,w1,w16⟩:=(hs6.mono l63).nodes.sortc2 hpm g.ok
  refine⟨bn,on,han,by omega,hpn',_,c6,_,c7,?_⟩
  refine ff ⟨_,rfl,?_⟩
  rw [qi g.ok hpm]
  have hc4:=di m.nodes p
  refine⟨by omega,by omega,by omega,by omega,?_⟩
  refine aj fun b33 h4 hb33 l4' f33=>?_
  rw [Int.toNat_natCast,Nat.mul_one,cj]at f33
  refine app ⟨some ⟨b33,0,none⟩,aK m.nodes p,aK m.nodes p⟩ h4 l4' ?_
  rw [hfg]
  unfold iV
  rw [hbo]
  simp only [Option.map_none,Option.getD_none]
  refine⟨by dsimp only;omega,by simp [bz], .inr ⟨b33,0,rfl,?_⟩⟩
  have hc:(VL (List.replicate (aK m.nodes p) 0)).map I=List.replicate (aK m.nodes p) (I 0):=by simp [VL]
  rw [hc];exact ay f33
structure Kn (g h:Hp) (L:List (Nat×Blk)):Prop where
 le:g.le h
 mem: ∀e∈L,h e.1=some e.2
 new: ∀e∈L,g e.1=none
 nd:(L.map Prod.fst).Nodup
inductive Upd :List (Nat×Blk)->Nat->Blk->Blk->List (Nat×Blk)->Prop
 |head {L:List (Nat×Blk)} {b:Nat} {x y:Blk}:Upd ((b,x)::L) b x y ((b,y)::L)
 |tail {L L':List (Nat×Blk)} {b:Nat} {x y:Blk} {e:Nat×Blk}:Upd L b x y L'->Upd (e::L) b x y (e::L')
theorem Kn.nil (h:Hp):Kn h h []:=⟨Hp.le_refl _,fun e h=>(by simp at h),fun e h=>(by simp at h),List.nodup_nil⟩
theorem Kn.of {g h:Hp} (l:g.le h):Kn g h []:=⟨l,fun e h=>(by simp at h),fun e h=>(by simp at h),List.nodup_nil⟩
section
variable {g h h':Hp} {L L':List (Nat×Blk)}
theorem Kn.at (K:Kn g h L) {b:Nat} {x:Blk} (e:(b,x)∈L):h b=some x:=K.mem _ e
theorem Kn.mono (K:Kn g h L) (l:h.le h'):Kn g h' L:=⟨Hp.le_trans K.le l,fun e he=>l _ _ (K.mem e he),K.new,K.nd⟩
theorem Kn.cons (K:Kn g h L) {b:Nat} {x:Blk} (hb:h b=none) (l:h.le h') (f:h' b=some x):Kn g h' ((b,x)::L):=by
 refine⟨Hp.le_trans K.le l,fun e he=>?_,fun e he=>?_,?_⟩
 ·rcases List.mem_cons.1 he with rfl|he
  ·exact f
  ·exact l _ _ (K.mem e he)
 ·rcases List.mem_cons.1 he with rfl|he
  ·exact aF K.le hb
  ·exact K.new e he
 ·rw [List.map_cons,List.nodup_cons]
  refine⟨fun hm=>?_,K.nd⟩
  obtain⟨e,he,heb⟩:=List.mem_map.1 hm
  have:=K.mem e he
  rw [show e.1=b from heb,hb]at this;cases this
theorem Kn.al (K:Kn g h L) {cs:Nat->List Value} {n:Nat->Nat} {P:Nat->Hp->Prop} (k: ∀b h',Kn g h' ((b, .inl ⟨cs b,n b,false⟩)::L)->h.le h'->h b=none->P b h'):
  ∀b,h b=none->cu (h.row b (cs b) (n b)) fun h'=>P b h':=
 fun b hb=>k b _ (K.cons hb (eM _ _ hb) (bT _ _ _ _)) (eM _ _ hb) hb
theorem Upd.mem {b:Nat} {x y:Blk} (u:Upd L b x y L'):(b,x)∈L:=by
 induction u with
 |head=>exact .head _
 |tail _ ih=>exact .tail _ ih
theorem Upd.keys {b:Nat} {x y:Blk} (u:Upd L b x y L'):L'.map Prod.fst=L.map Prod.fst:=by
 induction u with
 |head=>rfl
 |tail _ ih=>rw [List.map_cons,List.map_cons,ih]
theorem Upd.out {b:Nat} {x y:Blk} (u:Upd L b x y L') (nd:(L.map Prod.fst).Nodup): ∀e∈L',e=(b,y)\/(e∈L/\e.1≠b):=by
 induction u with
 |head=>
  intro e he
  rcases List.mem_cons.1 he with rfl|he
  ·exact .inl rfl
  ·rw [List.map_cons,List.nodup_cons]at nd
   exact .inr ⟨.tail _ he,fun eb=>nd.1 (List.mem_map.2 ⟨e,he,eb⟩)⟩
 |tail u ih=>
  rename_i L L' b x y e0
  rw [List.map_cons,List.nodup_cons]at nd
  intro e he
  rcases List.mem_cons.1 he with rfl|he
  ·exact .inr ⟨.head _,fun eb=>nd.1 (List.mem_map.2 ⟨_,u.mem,eb.symm⟩)⟩
  ·rcases ih nd.2 e he with h|⟨h1,h2⟩
   ·exact .inl h
   ·exact .inr ⟨.tail _ h1,h2⟩
theorem Kn.set (K:Kn g h L) {b z z':Nat} {cs cs':List Value} {ro:Bool} (u:Upd L b (.inl ⟨cs,z,ro⟩) (.inl ⟨cs',z',false⟩) L'):Kn g (h.row b cs' z') L':=by
 have hb:=K.new _ u.mem
 refine⟨eg _ _ hb K.le,fun e he=>?_,fun e he=>?_,by rw [u.keys];exact K.nd⟩
 ·rcases u.out K.nd e he with rfl|⟨h1,h2⟩
  ·exact bT _ _ _ _
  ·rw [bX _ _ h2];exact K.mem e h1
 ·rcases u.out K.nd e he with rfl|⟨h1,h2⟩
  ·exact hb
  ·exact K.new e h1
theorem Kn.wr (K:Kn g h L) {b z o m:Nat} {cs vs:List Value} {P:Hp->Prop} (u:Upd L b (.inl ⟨cs,z,false⟩) (.inl ⟨cv cs o vs,z,false⟩) L') (hl:m<=cs.length)
  (k: ∀h',Kn g h' L'->(∀c,c≠b->h' c=h c)->P h'):
  ∃(cs':List Value) (z':Nat),h b=some (.inl ⟨cs',z',false⟩)/\m<=List.length cs'/\cu (h.row b (cv cs' o vs) z') fun h'=>P h':=
 ⟨cs,z,K.at u.mem,hl,k _ (K.set u) fun c hc=>bX _ _ hc⟩
theorem Kn.base (K:Kn g h L):Kn (h.wo (L.map Prod.fst)) h L:=⟨vU _ _,K.mem,fun e he=>eQ (List.mem_map.2 ⟨e,he,rfl⟩),K.nd⟩
theorem Kn.leBase (K:Kn g h L):g.le (h.wo (L.map Prod.fst)):=rC K.le fun b hb=>by
 obtain⟨e,he,rfl⟩:=List.mem_map.1 hb
 exact K.new e he
theorem Kn.has (K:Kn g h L): ∀b∈L.map Prod.fst,h b≠none:=fun b hb=>by
 obtain⟨e,he,rfl⟩:=List.mem_map.1 hb
 rw [K.mem e he];simp
theorem Kn.eq {g':Hp} (K':Kn g' h' L') (K:Kn g h L) {b:Nat} {x:Blk} {P:Prop} (e':(b,x)∈L') (e:(b,x)∈L) (k:P):h' b=h b/\P:=⟨by rw [K'.at e',K.at e],k⟩
theorem Kn.eqg (K':Kn g h' L') (K:Kn g h L) {b:Nat} {P:Prop} (e:g b≠none) (k:P):h' b=h b/\P:=by
 refine⟨?_,k⟩
 cases hb:g b with
 |none=>exact absurd hb e
 |some x=>rw [K'.le _ _ hb,K.le _ _ hb]
theorem Kn.sub (K:Kn g h L) (m: ∀e∈L',e∈L) (nd:(L'.map Prod.fst).Nodup):Kn g h L':=⟨K.le,fun e he=>K.mem e (m e he),fun e he=>K.new e (m e he),nd⟩
theorem Kn.wrS {s:Sl} (K:Kn g (h.offS s) L) {b z o m:Nat} {cs vs:List Value} {P:Hp->Prop} (u:Upd L b (.inl ⟨cs,z,false⟩) (.inl ⟨cv cs o vs,z,false⟩) L') (hl:m<=cs.length)
  (k: ∀h',Kn g (h'.offS s) L'->(∀sz bs,Buf h s sz bs->Buf h' s sz bs)->(∀c,c≠b->(h'.offS s) c=(h.offS s) c)->P h'):
  ∃(cs':List Value) (z':Nat),h b=some (.inl ⟨cs',z',false⟩)/\m<=List.length cs'/\cu (h.row b (cv cs' o vs) z') fun h'=>P h':=by
 have f:=K.at u.mem
 refine⟨cs,z,bk _ _ _ _ f,hl,k _ ?_ (fun sz bs e=>e.row _ _ f) fun c hc=>?_⟩
 ·rw [ql _ _ f];exact K.set u
 ·rw [ql _ _ f,bX _ _ hc]
end
theorem dw {b o:Nat} {P:Nat->Nat->Prop} (k:P b o): ∃b' o':Nat,some (Addr.mk b o none)=some (Addr.mk b' o' none)/\P b' o':=⟨b,o,rfl,k⟩
theorem Kn.rd {α:Type} {f:α->Value} {g h:Hp} {L:List (Nat×Blk)} (K:Kn g h L) {b z o:Nat} {cs:List Value} {ro:Bool} {x:α} {P:α->Prop} (e:(b, .inl ⟨cs,z,ro⟩)∈L) (c:cs[o]?=some (f x)) (k:P x): ∃y:α,Hp.cell h b o=some (f y)/\P y:=⟨x,by rw [aq (K.at e)];exact c,k⟩
theorem Kn.rg {α:Type} {f:α->Value} {g h:Hp} {L:List (Nat×Blk)} (K:Kn g h L) {b z o:Nat} {cs:List Value} {ro:Bool} {x:α} {P:α->Prop} (e:g b=some (.inl ⟨cs,z,ro⟩)) (c:cs[o]?=some (f x)) (k:P x): ∃y:α,Hp.cell h b o=some (f y)/\P y:=⟨x,by rw [aq (K.le _ _ e)];exact c,k⟩
theorem kr_ {P Q:Prop} (k:Q) (h:Q->P:=by(first
 |((with_reducible apply Kn.rd);(assumption);((focus ((repeat first|exact .head _|apply List.Mem.tail);done)));(exact rfl))
 |((with_reducible apply Kn.rg);(assumption);(assumption);(exact rfl))
 |with_reducible exact And.intro (Eq.refl _)
 |with_reducible exact And.intro True.intro
 |with_reducible exact dw
 |((with_reducible apply Kn.eq);(assumption);(assumption);((focus ((repeat first|exact .head _|apply List.Mem.tail);done)));((focus ((repeat first|exact .head _|apply List.Mem.tail);done))))
 |((with_reducible apply Kn.eqg);(assumption);(assumption);(assumption))
 |fail)):P:=h k
theorem kw_ {P Q:Prop} (k:Q) (h:Q->P:=by((with_reducible apply Kn.wr);(assumption);(((focus ((repeat first|exact .head|apply Upd.tail);done))));(exact of_decide_eq_true rfl))):P:=h k
theorem Oa (l:List NodeP) (c:Nat->Bool) (p:Nat): ∀ps,fI l c (ps++ [p])=fI l c ps+2^cw l ps*(if c p then 2^nbA l p-1 else 0):=by
 intro ps
 induction ps with
 |nil=>simp [fI,cw]
 |cons q ps ih=>
  simp only [List.cons_append,fI]
  rw [ih,oE,Nat.pow_add,Nat.mul_add,Nat.mul_assoc,Nat.add_assoc]
theorem Gy {l:List NodeP} {ps:List Nat} {c:Nat->Bool} {i p:Nat} (h:ps[i]?=some p):fI l c (ps.take (i+1))=fI l c (ps.take i)+2^cw l (ps.take i)*(if c p then 2^nbA l p-1 else 0):=by
 have hlt:=get_lt h
 rw [List.getElem?_eq_getElem hlt]at h
 rw [List.take_succ_eq_append_getElem hlt,Oa,Option.some.inj h]
theorem OM {binds:List BindP} {j:Nat} {b:BindP} (hb:binds[j]?=some b) (p:Nat):(ce (binds.take (j+1)) p).isSome=((ce (binds.take j) p).isSome||decide (b.state=(p:Int))):=by
 have hlt:=get_lt hb
 have hg:binds[j]=b:=by rw [List.getElem?_eq_getElem hlt]at hb;exact Option.some.inj hb
 unfold ce
 rw [List.take_succ_eq_append_getElem hlt,List.find?_append,hg]
 cases hf:(binds.take j).find? (fun b=>decide (b.state=(p:Int)))with
 |some x=>simp
 |none=>
  by_cases e:b.state=(p:Int)<;>simp [e]
theorem W3 {l:List NodeP} {p:Nat}:dG (aE l p)=nbA l p:=by unfold dG nbA cc aK;rw [Nat.mul_comm]
theorem UZ {l:List NodeP} {ps:List Nat} {i p:Nat} (h:ps[i]?=some p):cw l (ps.take i)+nbA l p<=cw l ps:=by
 have:=mO (l:=l) h
 have:=E2 l ps (i+1)
 unfold nbA;omega
theorem Xw {l:List NodeP} {p:Nat} (hok:co l=true) (hp:p<l.length):dG ⟨(aE l p).idx,(cc l p:Nat)⟩=nbA l p:=by
 have:=bZ.1 (pX hok hp)
 have hw:((cc l p:Nat):Int)=(aE l p).wid:=by unfold cc;omega
 rw [hw];exact W3
theorem xe {h:Hp} {M:MSl} {m:ai} {s:Sl} {binds:List BindP} {R:Value->Hp->Prop} (hs:aN h M m) (hm:bW m) (g:dP m) (hb:qJ h s binds) (hbl:binds.length<=1048576)
  (k:R (I (Oi m binds)) h):gy #[aO M,s.v] h R:=by
 refine ACalls.drop (uV ?_)
 refine uf_ ?_
 have hn8:=g.n8
 have hsw:=fu g
 have hbn:=hb.len
 have hp36:(stP m).length<=m.nodes.length:=eP m.nodes 36
 have hnl:=g.nl
 refine aj fun b8 h1 hb8 l1 f8=>?_
 repeat' (refine az ?_)
 refine dS (hs.mono l1) hm fun pt h2 l2 hp=>⟨pt,rfl,?_⟩
 have hpn:pt.n=(stP m).length:=by have:=hp.len;rw [bz]at this;exact this
 have l02:=Hp.le_trans l1 l2
 replace f8:=l2 _ _ f8
 refine av (stP m).length (fun i vs h'=>vs= [s.v, .pointer (some ⟨b8,0,none⟩),I (fI m.nodes (fun p=>(ce binds p).isSome) ((stP m).take i):Nat),I (cw m.nodes ((stP m).take i):Nat),pt.v,I pt.n,I i]/\h2.le h') ⟨by simp [fI,cw],Hp.le_refl _⟩ ?_
 rintro i _ h3 next hi ⟨rfl,l3⟩ hnx
 refine⟨s,_,_,_,_,pt,_,_,rfl,?_⟩
 have l03:=Hp.le_trans l02 l3
 have f83:=l3 _ _ f8
 by_cases hlt:i<(stP m).length
 rotate_left
 ·have hie:i=(stP m).length:=by omega
  subst hie
  refine aD (by simp;omega) ⟨_,l03,?_⟩
  rw [List.take_of_length_le (Nat.le_refl _)];exact k
 refine aJ (by simp;omega) ?_
 obtain⟨p,hpi⟩: ∃p,(stP m)[i]?=some p:=⟨_,List.getElem?_eq_getElem hlt⟩
 have hpm:=cH g 36 p (List.mem_of_getElem? hpi)
 obtain⟨b,o,ha,hc⟩:=(hp.mono l3).get (gp hpi)
 refine⟨b,o,ha,by omega,by omega,_,hc,?_⟩
 (refine az ?_)
 obtain⟨bn,on,han,hpn',c6,c7,w1,w16⟩:=(hs.mono l03).nodes.sortc2 hpm g.ok
 refine⟨bn,on,han,by omega,hpn',_,c6,_,c7,?_⟩
 refine sc ⟨_,rfl,?_⟩
 rw [Xw g.ok hpm]
 have hnb:=UZ (l:=m.nodes) hpi
 have hlo:=wU m.nodes (fun p=>(ce binds p).isSome) ((stP m).take i)
 have hpp:=BL (n:=cw m.nodes ((stP m).take i)) (by omega)
 have hpb:=BL (n:=nbA m.nodes p) (by omega)
 have hpb1:=bD (nbA m.nodes p)
 have hmul:(2^nbA m.nodes p-1)*2^cw m.nodes ((stP m).take i)<1048576:=by
  have h1:(2^nbA m.nodes p-1)*2^cw m.nodes ((stP m).take i)<=2^nbA m.nodes p*2^cw m.nodes ((stP m).take i):=Nat.mul_le_mul_right _ (Nat.sub_le _ _)
  rw [<-Nat.pow_add]at h1
  have h2:=Nat.pow_le_pow_right (n:=2) (by omega) (show nbA m.nodes p+cw m.nodes ((stP m).take i)<=8 by omega)
  have h3:(2:Nat)^8=256:=rfl
  omega
 have hlo2:fI m.nodes (fun p=>(ce binds p).isSome) ((stP m).take i)<1048576:=by
  have h2:=Nat.pow_le_pow_right (n:=2) (by omega) (show cw m.nodes ((stP m).take i)<=8 by omega)
  have h3:(2:Nat)^8=256:=rfl
  omega
 have hstep:=Gy (l:=m.nodes) (c:=fun p=>(ce binds p).isSome) hpi
 generalize hmi:fI m.nodes (fun p=>(ce binds p).isSome) ((stP m).take i)=mi at*
 generalize hat:cw m.nodes ((stP m).take i)=at_ at*
 refine av binds.length (fun j vs h'=>vs= [s.v, .pointer (some ⟨b8,0,none⟩),I (mi+(if(ce (binds.take j) p).isSome then(2^nbA m.nodes p-1)*2^at_ else 0):Nat),I at_,I p,I (nbA m.nodes p),pt.v,I pt.n,I i,s.v,I s.n,I j]/\h2.le h') ⟨by simp [ce],l3⟩ ?_
 clear hc ha c6 c7 han hpn' f83 l03 l3 h3
 rintro j _ h3 next2 hj ⟨rfl,l3⟩ hnx2
 have l03:=Hp.le_trans l02 l3
 refine⟨s,_,_,_,_,_,_,pt,_,_,s,_,_,rfl,?_⟩
 by_cases hlj:j<binds.length
 rotate_left
 ·have hje:j=binds.length:=by omega
  subst hje
  refine aD (by simp;omega) ?_
  rw [List.take_length,aA (by omega),bV (n:=(at_:Int)+(nbA m.nodes p:Nat)) (by omega) (by omega)]
  refine hnx hlt _ _ ⟨?_,l3⟩
  rw [hstep,mO hpi,hat,Nat.mul_comm (2^at_)]
  have:at_+cc m.nodes p*aK m.nodes p=at_+nbA m.nodes p:=rfl
  rw [this]
  have e2:(if(ce binds p).isSome=true then 2^nbA m.nodes p-1 else 0)*2^at_=if(ce binds p).isSome=true then(2^nbA m.nodes p-1)*2^at_ else 0:=by split<;>simp
  rw [e2];rfl
 refine aJ (by simp;omega) ?_
 obtain⟨bd,hbd⟩: ∃bd,binds[j]?=some bd:=⟨_,List.getElem?_eq_getElem hlj⟩
 obtain⟨bx,ox,hax,cx1,cx2⟩:=(hb.mono l03).at hbd
 have hmore:=OM hbd p
 refine ap (fun J=> ∀h',h2.le h'->J ((mi+(if(ce (binds.take (j+1)) p).isSome then(2^nbA m.nodes p-1)*2^at_ else 0):Nat):Int) h') ?_ (fun J hJ=>?_)
 ·intro h' l'
  rw [aA (by omega)]
  exact hnx2 hlj _ _ ⟨rfl,l'⟩
 refine⟨bx,ox,hax,by omega,by omega,_,cx1,_,cx2,?_⟩
 refine aj fun b74 h4 hb74 l4 f74=>?_
 (with_reducible apply cb);(exact f74);(exact Hp.le_trans l3 l4);(exact aF l3 hb74);(exact Nat.le_refl 2)
 intro h5 f74' kp l5
 refine⟨_,by rw [aq f74'];rfl,?_⟩
 refine ac (fun e=>?_) (fun e=>?_)
 ·rw [decide_eq_true (bU e),Bool.or_true]at hmore
  refine dy (by omega) ⟨_,rfl,?_⟩
  rw [if_neg (by omega)]
  have hm1:(((2^nbA m.nodes p:Nat):Int)-1)=((2^nbA m.nodes p-1:Nat):Int):=by omega
  have:=hJ h5 l5
  rw [hmore,if_pos rfl]at this
  rw [hm1,gW (by omega) (by omega),Au (by split<;>omega) (by omega)]
  have e3:(mi+(if(ce (binds.take j) p).isSome=true then(2^nbA m.nodes p-1)*2^at_ else 0))|||(2^nbA m.nodes p-1)*2^at_=mi+(2^nbA m.nodes p-1)*2^at_:=by
   split
   ·rw [<-NH hlo,Nat.or_assoc,Nat.or_self]
   ·rw [Nat.add_zero,NH hlo]
  rw [e3];exact this
 ·rw [decide_eq_false (aY e),Bool.or_false]at hmore
  have:=hJ h5 l5
  rw [hmore]at this
  exact this
def kb (m:ai):Nat:=fI m.nodes (fun p=> !(ce m.nexts p).isSome) (stP m)
def et (k:Nat):List Nat:=(List.range (k+1)).filter fun c=>decide (c&&&k=c)
theorem WF {c k:Nat} (hc:c<256):c&&&k=c↔ ∀i,i<8->(c.testBit i=true->k.testBit i=true):=by
 constructor
 ·intro h i _ hi
  rw [<-h,Nat.testBit_and,Bool.and_eq_true]at hi
  exact hi.2
 ·intro h
  apply Nat.eq_of_testBit_eq
  intro i
  rw [Nat.testBit_and]
  by_cases hi:i<8
  ·have:=h i hi
   cases hc:c.testBit i with
   |false=>rfl
   |true=>rw [this hc];rfl
  ·rw [Nat.testBit_lt_two_pow (Nat.lt_of_lt_of_le hc (by have:=Nat.pow_le_pow_right (n:=2) (by omega) (show 8<=i by omega);simpa using this))];rfl
theorem TJ {m:ai} (g:dP m):kb m<256:=by
 have h:=wU m.nodes (fun p=> !(ce m.nexts p).isSome) (stP m)
 rw [fu g]at h
 have:=Nat.pow_le_pow_right (n:=2) (by omega) g.n8
 have h3:(2:Nat)^8=256:=rfl
 unfold kb;omega
theorem NO {binds:List BindP} {p:Nat}:decide (iO binds p<0)= !(ce binds p).isSome:=by
 unfold iO
 cases ce binds p with
 |none=>rfl
 |some k=>simp
def Jn (k i:Nat):List Nat:=(List.range i).filter fun c=>decide (c&&&k=c)
theorem Od (k i:Nat):Jn k (i+1)=Jn k i++if i&&&k=i then [i]else []:=by
 unfold Jn
 rw [List.range_succ,List.filter_append]
 by_cases h:i&&&k=i<;>simp [h]
theorem Buf.subOf {h h':Hp} {s:Sl} {sz:Nat} {cs:List Value} (e:Buf h' s sz cs) (l:h.le (h'.offS s)):Buf (h'.sub h) s sz cs:=by
 refine⟨e.1,e.2.1,e.2.2.imp id ?_⟩
 rintro ⟨b,ha,hb⟩
 refine⟨b,ha,?_⟩
 have hoff:(h'.offS s) b=none:=by simp [Hp.offS,ha,Hp.off,Hp.set]
 have hn:h b=none:=by
  cases hx:h b with
  |none=>rfl
  |some x=>rw [l _ _ hx]at hoff;cases hoff
 rw [lk hn];exact hb
theorem JW {h:Hp} {M:MSl} {m:ai} {R:Value->Hp->Prop} (hs:aN h M m) (hm:bW m) (g:dP m)
  (k: ∀t h',h.le h'->IntS (h'.sub h) t (VL (et (kb m)))->R (Sl.v t) h'):r5 #[aO M] h R:=by
 apply G3
 refine uf_ ?_
 have hn8:=g.n8
 have hsw:=fu g
 have hp36:(stP m).length<=m.nodes.length:=eP m.nodes 36
 have hnl:=g.nl
 have hxl:=g.xl
 have hbn: ∀b∈m.nexts,0<=b.node:=fun b hb=>(eZ.1 (jA (g.nex b hb)).2.1).1
 refine aj fun b8 h1 hb8 l1 f8=>?_
 repeat' (refine az ?_)
 refine cO (hs.mono l1) hm fun pt h2 l2 hp=>⟨pt,rfl,?_⟩
 have hpn:pt.n=(stP m).length:=by have:=hp.len;rw [bz]at this;exact this
 have l02:=Hp.le_trans l1 l2
 replace f8:=l2 _ _ f8
 refine av (stP m).length (fun i vs h'=>vs= [.pointer (some ⟨b8,0,none⟩),pt.v,I (fI m.nodes (fun p=> !(ce m.nexts p).isSome) ((stP m).take i):Nat),I (cw m.nodes ((stP m).take i):Nat),I i]/\h'=h2) ⟨by simp [fI,cw],rfl⟩ ?_
 rintro i _ _ next hi ⟨rfl,rfl⟩ hnx
 rename_i h2
 refine⟨_,_,pt,_,_,_,rfl,?_⟩
 by_cases hlt:i<(stP m).length
 ·refine aJ (by simp;omega) ?_
  obtain⟨p,hpi⟩: ∃p,(stP m)[i]?=some p:=⟨_,List.getElem?_eq_getElem hlt⟩
  have hpm:=cH g 36 p (List.mem_of_getElem? hpi)
  obtain⟨b,o,ha,hc⟩:=hp.get (gp hpi)
  refine⟨b,o,ha,by omega,by omega,?_⟩
  (refine az ?_)
  refine⟨_,hc,?_⟩
  obtain⟨bn,on,han,hpn',c6,c7,w1,w16⟩:=(hs.mono l02).nodes.sortc2 hpm g.ok
  refine⟨bn,on,han,by omega,hpn',_,c6,_,c7,?_⟩
  refine gR ⟨_,rfl,?_⟩
  rw [Xw g.ok hpm]
  refine⟨b,o,ha,by omega,by omega,?_⟩
  (refine az ?_)
  refine⟨_,hc,?_⟩
  refine nr (hs.mono l02).nexts (by omega) hbn ⟨_,rfl,?_⟩
  rw [NO]
  have hnb:=UZ (l:=m.nodes) hpi
  have hlo:=wU m.nodes (fun p=> !(ce m.nexts p).isSome) ((stP m).take i)
  have hpb:=BL (n:=nbA m.nodes p) (by omega)
  have hpb1:=bD (nbA m.nodes p)
  have hmul:(2^nbA m.nodes p-1)*2^cw m.nodes ((stP m).take i)<1048576:=by
   have h1:(2^nbA m.nodes p-1)*2^cw m.nodes ((stP m).take i)<=2^nbA m.nodes p*2^cw m.nodes ((stP m).take i):=Nat.mul_le_mul_right _ (Nat.sub_le _ _)
   rw [<-Nat.pow_add]at h1
   have h2:=Nat.pow_le_pow_right (n:=2) (by omega) (show nbA m.nodes p+cw m.nodes ((stP m).take i)<=8 by omega)
   have h3:(2:Nat)^8=256:=rfl
   omega
  have hlo2:fI m.nodes (fun p=> !(ce m.nexts p).isSome) ((stP m).take i)<1048576:=by
   have h2:=Nat.pow_le_pow_right (n:=2) (by omega) (show cw m.nodes ((stP m).take i)<=8 by omega)
   have h3:(2:Nat)^8=256:=rfl
   omega
  have hstep:=Gy (l:=m.nodes) (c:=fun p=> !(ce m.nexts p).isSome) hpi
  have hst2:=mO (l:=m.nodes) hpi
  rw [show cc m.nodes p*aK m.nodes p=nbA m.nodes p from rfl]at hst2
  rw [cl (n:=nbA m.nodes p) (by omega),cl (n:=cw m.nodes ((stP m).take i)) (by omega)]
  have fin:=hnx hlt
  have hat:W (((cw m.nodes ((stP m).take i):Nat):Int)+((nbA m.nodes p:Nat):Int))=((cw m.nodes ((stP m).take (i+1)):Nat):Int):=by
   rw [bV (by omega) (by omega),hst2];omega
  rw [hat,aA (by omega)]
  refine ac (fun e=>?_) (fun e=>?_)
  ·rw [if_neg (by omega),if_neg (by omega),bG (by omega),bV (n:=((2^nbA m.nodes p:Nat):Int)-1) (by omega) (by omega)]
   have hm1:(((2^nbA m.nodes p:Nat):Int)-1)=((2^nbA m.nodes p-1:Nat):Int):=by omega
   rw [if_pos e,Nat.mul_comm]at hstep
   rw [hm1,gW (by omega) (by omega),<-Int.natCast_add,eu (by omega),<-hstep]
   exact fin _ _ ⟨rfl,rfl⟩
  ·have hs2:fI m.nodes (fun p=> !(ce m.nexts p).isSome) ((stP m).take (i+1))=fI m.nodes (fun p=> !(ce m.nexts p).isSome) ((stP m).take i):=by
    rw [hstep,if_neg (by rw [e];decide)];simp
   rw [<-hs2]
   exact fin _ _ ⟨rfl,rfl⟩
 have hie:i=(stP m).length:=by omega
 subst hie
 refine aD (by simp;omega) ?_
 rw [List.take_of_length_le (Nat.le_refl _)]
 have hfm:=TJ g
 show aM _ [I (kb m:Nat), .slice none 0 0,I 0] h2
 refine av (kb m+1) (fun c vs h'=> ∃out:Sl,vs= [I (kb m:Nat),out.v,I c]/\h2.le (h'.offS out)/\out.n<=c/\Buf h' out 1 ((VL (Jn (kb m) c)).map I)) ⟨⟨none,0,0⟩,rfl,Hp.le_refl _,Nat.le_refl _,eG _ _⟩ ?_
 rintro c _ h3 next2 hc ⟨out,rfl,l3,hon,hbuf⟩ hnx2
 have l23:=Hp.le_trans l3 (bk _ _)
 refine⟨_,out,_,rfl,?_⟩
 by_cases hlc:c<kb m+1
 rotate_left
 ·have hce:c=kb m+1:=by omega
  subst hce
  exact aD (by simp;omega) (k out h3 (Hp.le_trans l02 l23) ((hbuf.subOf (Hp.le_trans l02 l3)).slc_of (by omega)))
 refine aJ (by simp;omega) ?_
 refine av 8 (fun j vs h'=>vs= [I (kb m:Nat),out.v,I c, .bool ((List.range j).all fun i=> !c.testBit i||(kb m).testBit i),I j]/\h'=h3) ⟨rfl,rfl⟩ ?_
 rintro j _ _ next3 hj ⟨rfl,rfl⟩ hnx3
 rename_i h3
 refine⟨_,out,_,_,_,rfl,?_⟩
 by_cases hlj:j<8
 ·refine aJ (by simp;omega) ?_
  have hsucc:(List.range (j+1)).all (fun i=> !c.testBit i||(kb m).testBit i)=((List.range j).all (fun i=> !c.testBit i||(kb m).testBit i)&&(!c.testBit j||(kb m).testBit j)):=by
   rw [List.range_succ,List.all_append];simp
  have fin:=hnx3 hlj
  rw [hsucc]at fin
  refine ac (fun e=>?_) (fun e=>?_)
  ·rw [e]at fin
   rw [Bool.true_and]at fin
   refine iM (by omega) ⟨_,rfl,?_⟩
   refine iM (by omega) ⟨_,rfl,?_⟩
   rw [aA (by omega)]
   have:decide ((if c.testBit j then(1:Int)else 0)<=(if(kb m).testBit j then(1:Int)else 0))=(!c.testBit j||(kb m).testBit j):=by
    cases c.testBit j<;>cases (kb m).testBit j<;>rfl
   rw [this]
   exact fin _ _ ⟨rfl,rfl⟩
  ·rw [e]at fin
   rw [Bool.false_and]at fin
   rw [aA (by omega)]
   exact fin _ _ ⟨rfl,rfl⟩
 have hje:j=8:=by omega
 subst hje
 refine aD (by simp) ?_
 have hcond:((List.range 8).all fun i=> !c.testBit i||(kb m).testBit i)=decide (c&&&kb m=c):=by
  rw [Bool.eq_iff_iff,decide_eq_true_eq,WF (by omega),List.all_eq_true]
  constructor
  ·intro h i hi hb
   have:=h i (List.mem_range.2 hi)
   rw [hb]at this;simpa using this
  ·intro h i hi
   have:=h i (List.mem_range.1 hi)
   cases hb:c.testBit i with
   |false=>rfl
   |true=>rw [this hb];rfl
 rw [hcond,aA (by omega)]
 have hft:=Od (kb m) c
 refine ac (fun e=>?_) (fun e=>?_)
 ·rw [if_pos (of_decide_eq_true e)]at hft
  refine aj fun b92 h4 hb92 l4 f92=>?_
  refine dm (hbuf.mono l4) (by omega) (by omega) (by omega) ⟨b92,0,rfl,ay f92⟩ (by simp) rfl ?_
  intro s' h5 hs'n hbuf' l5 _
  refine hnx2 hlc _ _ ⟨s',rfl,Hp.le_trans l3 (Hp.le_trans (bM out l4) l5),by omega,?_⟩
  rw [hft,uo,List.map_append];exact hbuf'
 ·rw [if_neg (of_decide_eq_false e),List.append_nil]at hft
  refine hnx2 hlc _ _ ⟨out,rfl,l3,by omega,?_⟩
  rw [hft];exact hbuf
theorem Buf.wo {h h':Hp} {t:Sl} {sz:Nat} {cs:List Value} {B:List Nat} (e:Buf h' t sz cs) (l:h.le (h'.offS t)) (hB: ∀b∈B,h b≠none):Buf (h'.wo B) t sz cs:=by
 refine⟨e.1,e.2.1,e.2.2.imp id ?_⟩
 rintro ⟨b,ha,hb⟩
 refine⟨b,ha,?_⟩
 rw [rc]
 ·exact hb
 ·intro hm
  have:=hB b hm
  cases hx:h b with
  |none=>exact this hx
  |some x=>
   have:=l _ _ hx
   simp [Hp.offS,ha,Hp.off,Hp.set]at this
theorem Ln {m:ai} (g:dP m):2^(ak m.nodes 36+ak m.nodes 35)<=8192:=by
 have h1:=g.n8
 have h2:=g.k5
 have:=Nat.pow_le_pow_right (n:=2) (by omega) (show ak m.nodes 36+ak m.nodes 35<=13 by omega)
 simpa using this
theorem aap {m:ai} (g:dP m):2^ak m.nodes 36<=256:=by
 have h1:=g.n8
 have:=Nat.pow_le_pow_right (n:=2) (by omega) h1
 simpa using this
theorem Q2 {h:Hp} {M:MSl} {m:ai} {fid:FuncId} {u w:Array Value} {B:List Nat} {st:Nat->Hp->Prop} {R:Value->Hp->Prop} (hs:aN (h.wo B) M m) (hm:bW m) (g:dP m)
  (hB: ∀b∈B,h b≠none) (mono: ∀c h1 h2,st c h1->h1.le h2->st c h2) (h0:st 0 h)
  (step: ∀c,c<2^(ak m.nodes 36+ak m.nodes 35)-> ∀h1 t,(h.wo B).le h1->st c h1->ge h1 t (cK m (c%2^ak m.nodes 36) (c/2^ak m.nodes 36))-> ∀R':Value->Hp->Prop,
   (∀h2,st (c+1) h2->(h1.wo B).le h2->R' (.tuple #[]) h2)->ACalls PR fid ((u++ #[I c,Sl.v t])++w) h1 R')
  (k: ∀h',(h.wo B).le h'->st (2^(ak m.nodes 36+ak m.nodes 35)) h'->R (.tuple #[]) h'):nT #[aO M, .func (.func fid) u w] h R:=by
 apply BC
 refine uf_ ?_
 have hn8:=g.n8
 have hk5:=g.k5
 have hp13:=Ln g
 have hs0:aN h M m:=hs.mono (vU _ _)
 refine aj fun b10 h1 hb10 l1 f10=>?_
 have x10:=eJ f10
 repeat' (refine az ?_)
 refine eX (hs0.mono l1) hm ⟨_,rfl,rfl,eX (hs0.mono l1) hm ⟨_,rfl,?_⟩⟩
 repeat' (refine az ?_)
 refine lV (hs0.mono l1) hm fun p1 h2 l2 n1 b1=>⟨p1,rfl,?_⟩
 have l2':=Hp.le_trans l2 (bk _ _)
 (((with_reducible apply kJ);(assumption);(assumption)))
 refine lV ((hs0.mono l1).mono l2') hm fun p2 h3 l3 n2 b2=>⟨p2,rfl,?_⟩
 have l3':=Hp.le_trans l3 (bk _ _)
 have l13:=Hp.le_trans l2' l3'
 have l03:=Hp.le_trans l1 l13
 rw [bV (n:=((ak m.nodes 36:Nat):Int)+((ak m.nodes 35:Nat):Int)) (by omega) (by omega),if_neg (by omega),<-Int.natCast_add,bG (by omega)]
 have hB1: ∀b∈B,h1 b≠none:=fun b hb=>by
  cases hx:h b with
  |none=>exact absurd hx (hB b hb)
  |some x=>rw [l1 _ _ hx];simp
 have hB2: ∀b∈B,h2 b≠none:=fun b hb=>by
  cases hx:h1 b with
  |none=>exact absurd hx (hB1 b hb)
  |some x=>rw [l2' _ _ hx];simp
 have b1w:Buf (h3.wo B) p1 1 ((VL (aU m.nodes 36)).map I):=(b1.wo l2 hB1).mono (rC (Hp.le_trans (vU _ _) l3') fun b hb=>eQ hb)
 have b2w:Buf (h3.wo B) p2 1 ((VL (aU m.nodes 35)).map I):=b2.wo l3 hB2
 have hnl:=g.nl
 have i1:IntS (h3.wo B) p1 (VL (aU m.nodes 36)):=b1w.slc_of (by omega)
 have i2:IntS (h3.wo B) p2 (VL (aU m.nodes 35)):=b2w.slc_of (by omega)
 have hs3:aN (h3.wo B) M m:=hs.mono (rC (Hp.le_trans (vU _ _) l03) fun b hb=>eQ hb)
 have f10w:(h3.wo B) b10=some (.inl ⟨aw M,5,false⟩):=by
  rw [rc (fun hb=>hB _ hb hb10)];exact l13 _ _ f10
 have hw:(h.wo B).le (h3.wo B):=rC (Hp.le_trans (vU _ _) l03) fun b hb=>eQ hb
 refine av (2^(ak m.nodes 36+ak m.nodes 35)) (fun c vs h'=>vs= [.func (.func fid) u w, .pointer (some ⟨b10,0,none⟩),I (ak m.nodes 36),p1.v,p2.v,I (2^(ak m.nodes 36+ak m.nodes 35):Nat),I c]/\(h3.wo B).le h'/\st c h')
  ⟨rfl,vU _ _,mono _ _ _ h0 l03⟩ ?_
 clear f10 x10 b1 b2 l1 l2 l2' l3 l13 l3' hs hs0 h0
 rintro c _ h4 next hc ⟨rfl,l4,hst⟩ hnx
 refine⟨_,_,_,_,_,_,p1,p2,_,_,rfl,?_⟩
 by_cases hlt:c<2^(ak m.nodes 36+ak m.nodes 35)
 rotate_left
 ·have hce:c=2^(ak m.nodes 36+ak m.nodes 35):=by omega
  subst hce
  exact aD (by simp) (k h4 (Hp.le_trans hw l4) hst)
 refine aJ (by rw [decide_eq_true_eq];exact_mod_cast hlt) ?_
 rw [if_neg (by omega)]
 have f104:=l4 _ _ f10w
 have x104:=eJ f104
 repeat' (refine az ?_)
 refine dy (by omega) ⟨_,rfl,?_⟩
 repeat' (refine az ?_)
 rw [gG (by omega),oK,kr (by omega)]
 have h1':c%2^ak m.nodes 36<=c:=Nat.mod_le _ _
 have h2':c/2^ak m.nodes 36<=c:=Nat.div_le_self _ _
 refine sO (hs3.mono l4) hm g.ok (i1.mono l4) (cH g 36) (iE g 36) (by omega) fun o1 h5 l5 v1 c1=>⟨o1,rfl,?_⟩
 repeat' (((with_reducible apply kJ);(assumption);(assumption)))
 have l45:=Hp.le_trans l4 l5
 refine sO (hs3.mono l45) hm g.ok (i2.mono l45) (cH g 35) (iE g 35) (by omega) fun o2 h6 l6 v2 c2=>⟨o2,rfl,?_⟩
 have l56:=Hp.le_trans l5 l6
 (((with_reducible apply kJ);(assumption);(assumption)))
 have l46:=Hp.le_trans l4 l56
 refine xV (hs3.mono l46) hm g.ok g.nl (v1.mono l6) c1 (ld 36 _ g) v2 c2 (ld 35 _ g) fun t h7 l7 hn hpv=>⟨t,rfl,?_⟩
 have l47:=Hp.le_trans l56 l7
 refine step c hlt h7 t (Hp.le_trans hw (Hp.le_trans l4 l47)) (mono _ _ _ hst l47) hpv _ fun h8 hst8 l8=>⟨rfl,?_⟩
 rw [aA (by omega)]
 exact hnx hlt _ _ ⟨rfl,Hp.le_trans (rC (Hp.le_trans l4 l47) fun b hb=>eQ hb) l8,hst8⟩
def dJ (f:Nat->Bool) (c n:Nat):List Value:=(List.range n).map fun i=> .bool (decide (i<c)&&f i)
def kC (f:Nat->Nat) (c n:Nat):List Value:=(List.range n).map fun i=>I ((if i<c then f i else 0:Nat):Int)
theorem wG (f:Nat->Bool) (c n:Nat):(dJ f c n).length=n:=by simp [dJ]
theorem N7 (f:Nat->Nat) (c n:Nat):(kC f c n).length=n:=by simp [kC]
theorem kY (f:Nat->Bool) (n:Nat):List.replicate n (.bool false)=dJ f 0 n:=by
 apply List.ext_getElem
 ·simp [dJ]
 ·intro i h1 h2;simp [dJ]
theorem Dw (f:Nat->Nat) (n:Nat):List.replicate n (I 0)=kC f 0 n:=by
 apply List.ext_getElem
 ·simp [kC]
 ·intro i h1 h2;simp [kC]
theorem wy {f:Nat->Bool} {c n:Nat} (h:c<n):(dJ f c n).set c (.bool (f c))=dJ f (c+1) n:=by
 apply List.ext_getElem
 ·simp [dJ]
 ·intro i h1 h2
  simp only [dJ,List.getElem_set,List.getElem_map,List.getElem_range]
  by_cases e:c=i
  ·subst e;simp
  ·rw [if_neg e]
   have:decide (i<c)=decide (i<c+1):=by rw [Bool.eq_iff_iff,decide_eq_true_eq,decide_eq_true_eq];omega
   rw [this]
theorem Oo {f:Nat->Nat} {c n:Nat} (h:c<n):(kC f c n).set c (I (f c:Nat))=kC f (c+1) n:=by
 apply List.ext_getElem
 ·simp [kC]
 ·intro i h1 h2
  simp only [kC,List.getElem_set,List.getElem_map,List.getElem_range]
  by_cases e:c=i
  ·subst e;simp
  ·rw [if_neg e]
   by_cases h:i<c
   ·rw [if_pos h,if_pos (by omega)]
   ·rw [if_neg h,if_neg (by omega)]
theorem xA (f:Nat->Bool) (n:Nat):dJ f n n=((List.range n).map f).map Value.bool:=by
 apply List.ext_getElem
 ·simp [dJ]
 ·intro i h1 h2
  have hi:i<n:=by simpa [dJ] using h1
  simp [dJ,hi]
theorem OZ (f:Nat->Nat) (n:Nat):kC f n n=(VL ((List.range n).map f)).map I:=by
 apply List.ext_getElem
 ·simp [kC,VL]
 ·intro i h1 h2
  have hi:i<n:=by simpa [kC] using h1
  simp [kC,VL,hi]
theorem ge.keep {h h':Hp} {s:Sl} {vs:List (List Nat)} {b z:Nat} {cs:List Value} {ro:Bool} (e:ge h s vs) (f:h b=some (.inl ⟨cs,z,ro⟩)) (hn:yS cs) (hsl: ∀(j:Nat) (t:Sl),cs[j]?≠some t.v) (kp: ∀c,c≠b->h' c=h c):ge h' s vs:=by
 refine⟨e.1,e.2.1,fun p hp=>?_⟩
 obtain⟨b',o,t,h1,h2,h3⟩:=e.2.2 p hp
 refine⟨b',o,t,h1,?_,h3.keepN f hn kp⟩
 have hne:b'≠b:=by
  rintro rfl
  rw [aq f]at h2
  exact hsl _ _ h2
 unfold Hp.cell at h2⊢
 rw [kp b' hne];exact h2
theorem Dx (f:Nat->Bool) (c n:Nat):yS (dJ f c n):=by
 intro j i h
 simp only [dJ,List.getElem?_map,Option.map_eq_some_iff]at h
 obtain⟨a,_,h⟩:=h
 cases h
theorem Gf (f:Nat->Bool) (c n:Nat): ∀(j:Nat) (t:Sl),(dJ f c n)[j]?≠some t.v:=by
 intro j t h
 simp only [dJ,List.getElem?_map,Option.map_eq_some_iff]at h
 obtain⟨a,_,h⟩:=h
 cases h
abbrev Ml (M:MSl) (n k:Int) (st hold bad:Sl) (fixed:Int) (next:Sl) (bf ba:Int):List Value:= [M.no.v,M.ini.v,M.nex.v,M.bad.v,M.hol.v,I n,I k,st.v,hold.v,bad.v,I fixed,next.v,I bf,I ba]
abbrev arr (b n:Nat):Sl:=⟨some ⟨b,0,none⟩,n,n⟩
def sE (m:ai) (bH bB bN c:Nat):List (Nat×Blk):=
 [(bH, .inl ⟨dJ (aG m).hold c (2^(ak m.nodes 36+ak m.nodes 35)),2^(ak m.nodes 36+ak m.nodes 35),false⟩),
  (bB, .inl ⟨dJ (aG m).bad c (2^(ak m.nodes 36+ak m.nodes 35)),2^(ak m.nodes 36+ak m.nodes 35),false⟩),
  (bN, .inl ⟨kC (aG m).next c (2^(ak m.nodes 36+ak m.nodes 35)),2^(ak m.nodes 36+ak m.nodes 35),false⟩)]
theorem Ac (m:ai) (v:List (List Nat)):decide (DT m v>=0)=(qp m v).isSome:=by
 unfold DT
 cases qp m v with
 |none=>rfl
 |some d=>simp
theorem BK {g h:Hp} {M:MSl} {m:ai} {st t:Sl} {b7 b103 bx bH bB bN c:Nat} {n k f0 f1 f2:Int} {z1 z2 z3:Nat} {R:Value->Hp->Prop} (hs:aN g M m) (hm:bW m) (gd:dP m)
  (f7:g b7=some (.inl ⟨aw M,z1,false⟩)) (f103:g b103=some (.inl ⟨[.pointer (some ⟨bx,0,none⟩)],z2,false⟩))
  (fx:g bx=some (.inl ⟨Ml M n k st (arr bH (2^(ak m.nodes 36+ak m.nodes 35))) (arr bB (2^(ak m.nodes 36+ak m.nodes 35))) f0 (arr bN (2^(ak m.nodes 36+ak m.nodes 35))) f1 f2,z3,false⟩))
  (hst:IntS g st (VL (stP m))) (hc:c<2^(ak m.nodes 36+ak m.nodes 35)) (K:Kn g h (sE m bH bB bN c))
  (hpv:ge h t (cK m (c%2^ak m.nodes 36) (c/2^ak m.nodes 36)))
  (kk: ∀h',Kn (h.wo [bH,bB,bN]) h' (sE m bH bB bN (c+1))->R (.tuple #[]) h'):
  qE #[I c,t.v, .pointer (some ⟨b7,0,none⟩), .pointer (some ⟨b103,0,none⟩)] h R:=by
 apply yH
 refine uf_ ?_
 have a:AV m (cK m (c%2^ak m.nodes 36) (c/2^ak m.nodes 36)):=eC gd _ _
 have hp13:=Ln gd
 have hv1:(aG m).hold c=iR m (cK m (c%2^ak m.nodes 36) (c/2^ak m.nodes 36)):=rfl
 have hv2:(aG m).bad c=(qp m (cK m (c%2^ak m.nodes 36) (c/2^ak m.nodes 36))).isSome:=rfl
 have hv3:(aG m).next c=dZ m.nodes (stP m) (gn m (cK m (c%2^ak m.nodes 36) (c/2^ak m.nodes 36))):=rfl
 generalize hv:cK m (c%2^ak m.nodes 36) (c/2^ak m.nodes 36)=v at*
 generalize hN:2^(ak m.nodes 36+ak m.nodes 35)=N at*
 have lg:g.le (h.wo [bH,bB,bN]):=K.leBase
 have K0:Kn (h.wo [bH,bB,bN]) h (sE m bH bB bN c):=K.base
 unfold sE at K0 kk
 rw [hN]at K0 kk
 clear K
 have hs':=hs.mono lg
 have f7':=lg _ _ f7
 have f103':=lg _ _ f103
 have fx':=lg _ _ fx
 have hst':=hst.mono lg
 have x7:=eJ f7'
 have x103:=eJ f103'
 have xx:=eJ fx'
 generalize h.wo [bH,bB,bN]=g1 at*
 clear lg fx f103 f7 hst hs
 repeat' (refine kr_ ?_)
 refine Fq (hs'.mono K0.le) gd hpv a ⟨_,rfl,?_⟩
 repeat' (refine kr_ ?_)
 refine⟨by omega,by dsimp only;omega,?_⟩
 (((with_reducible apply Kn.wr);(assumption);((focus ((repeat first|exact .head|apply Upd.tail);done)))))
 ·rw [wG];omega
 intro h24 K1 kp1
 have hpv1:=hpv.keep (K0.at (.head _)) (Dx _ _ _) (Gf _ _ _) kp1
 rw [<-hv1,bO,Nat.zero_add,Int.toNat_natCast,Nat.mul_one,wy hc]at K1
 repeat' (refine kr_ ?_)
 refine Mf (hs'.mono K1.le) gd hpv1 a ⟨_,rfl,?_⟩
 repeat' (refine kr_ ?_)
 refine⟨by omega,by dsimp only;omega,?_⟩
 (((with_reducible apply Kn.wr);(assumption);((focus ((repeat first|exact .head|apply Upd.tail);done)))))
 ·rw [wG];omega
 intro h42 K2 kp2
 have hpv2:=hpv1.keep (K1.at (.tail _ (.head _))) (Dx _ _ _) (Gf _ _ _) kp2
 rw [Ac,<-hv2,bO,Nat.zero_add,Int.toNat_natCast,Nat.mul_one,wy hc]at K2
 repeat' (refine kr_ ?_)
 refine Ds (hs'.mono K2.le) hm gd hpv2 a fun out h63 l63 hout=>⟨out,rfl,?_⟩
 have K3:=K2.mono l63
 repeat' (refine kr_ ?_)
 refine Cb (hs'.mono K3.le) hm gd.ok (hst'.mono K3.le) (cH gd 36) (iE gd 36) hout (oP gd a.fit) (by rw [fu gd];have:=gd.n8;omega) ⟨_,rfl,?_⟩
 repeat' (refine kr_ ?_)
 refine⟨by omega,by dsimp only;omega,?_⟩
 (((with_reducible apply Kn.wr);(assumption);((focus ((repeat first|exact .head|apply Upd.tail);done)))))
 ·rw [N7];omega
 intro h72 K4 kp4
 rw [<-hv3,bO,Nat.zero_add,Int.toNat_natCast,Nat.mul_one,Oo hc]at K4
 exact kk h72 K4
def A8 (h:Hp) (t:Sl) (n:Nat) (f:Nat->Nat):Prop:=IntS h t (VL ((List.range n).map f))
theorem A8.mono {h h':Hp} {t:Sl} {n:Nat} {f:Nat->Nat} (l:h.le h') (e:A8 h t n f):A8 h' t n f:=SlC.mono l e
def nE (h:Hp) (b:Nat) (σ:aC):Prop:= ∃(M:MSl) (st hold bad next:Sl),h b=some (.inl ⟨Ml M σ.n σ.k st hold bad σ.fixed next σ.bfix σ.bas,14,false⟩)/\
 cY h hold (2^(σ.n+σ.k)) σ.hold/\cY h bad (2^(σ.n+σ.k)) σ.bad/\A8 h next (2^(σ.n+σ.k)) σ.next
theorem nE.mono {h h':Hp} {b:Nat} {σ:aC} (l:h.le h') (e:nE h b σ):nE h' b σ:=by
 obtain⟨M,st,hold,bad,next,h1,h2,h3,h4⟩:=e
 exact⟨M,st,hold,bad,next,l _ _ h1,h2.mono l,h3.mono l,h4.mono l⟩
theorem RJ {g h:Hp} {L:List (Nat×Blk)} {M:MSl} {m:ai} {kind:Int} {R:Value->Hp->Prop} (K:Kn g h L) (hs:aN g M m) (hm:bW m) (gd:dP m)
  (k: ∀t h' g',Kn g' h' L->IntS g' t (VL (aU m.nodes kind))->g.le g'->h.le h'->R (Sl.v t) h'):bJ #[aO M,I kind] h R:=
 lV (hs.mono K.le) hm fun t h' l hn hb=>by
  have l':=Hp.le_trans l (bk _ _)
  have K':=K.mono l'
  refine k t h' _ K'.base ?_ K'.leBase l'
  have:=gd.nl
  exact(hb.wo l K.has).slc_of (by omega)
def CZ (m:ai) (j p:Nat):List Nat:=((ce (m.inits.take j) p).map fun k=>mL (aK m.nodes p) ((od m).getD k [])).getD (List.replicate (aK m.nodes p) 0)
theorem Un (m:ai) (p:Nat):CZ m m.inits.length p=(eV m p).getD (List.replicate (aK m.nodes p) 0):=by
 unfold CZ eV;rw [List.take_length]
theorem Ro {m:ai} (g:dP m) {j:Nat} {b:BindP} (hb:m.inits[j]?=some b) (p:Nat):CZ m (j+1) p=if b.state=(p:Int)then mL (aK m.nodes p) ((od m).getD b.node.toNat [])else CZ m j p:=by
 unfold CZ
 rw [Fn (pP g.twice).2.1 hb]
 split<;>rfl
theorem QJ (m:ai) {i p:Nat} (h:(stP m)[i]?=some p):(ln m).getD i []=CZ m m.inits.length p:=by
 rw [Un]
 unfold ln kz
 rw [List.getD_eq_getElem?_getD,List.getElem?_map,h];rfl
theorem ul {m:ai} (g:dP m) {b:BindP} (hb:b∈m.inits):0<=b.node/\b.node<m.nodes.length/\0<((od m).getD b.node.toNat []).length/\((od m).getD b.node.toNat []).length<=4/\0<=b.state/\b.state<m.nodes.length:=by
 obtain⟨q1,q2,q3,q4,_⟩:=zZ (g.ini b hb)
 have q2':=eZ.1 q2
 have q1':=eZ.1 q1
 have hf:=(wO g).fit b.node.toNat (by omega) (by omega)
 have:=(uc g.ok (show b.node.toNat<m.nodes.length by omega) hf).1
 refine⟨q2'.1,q2'.2,hf.pos,?_,q1'.1,q1'.2⟩
 rw [this];exact di _ _
set_option maxHeartbeats 4000000 in
theorem eW {h:Hp} {M:MSl} {m:ai} {R:Value->Hp->Prop} (hs:aN h M m) (hm:bW m)
  (k0: ∀h',h.le h'->ax m≠0->R (.tuple #[.pointer none, .bool false]) h')
  (k1:ax m=0->dP m-> ∀b h',h.le h'->nE h' b (aG m)->R (.tuple #[.pointer (some ⟨b,0,none⟩), .bool true]) h'):dk #[aO M] h R:=by
 apply CW
 refine uf_ ?_
 have K0:=Kn.nil h
 (with_reducible apply Kn.al);(assumption);(intro b7 h1 K1 l1 hb7)
 repeat' (refine kr_ ?_)
 refine lm (hs.mono l1) hm ⟨_,rfl,ac (fun e=>k0 h1 l1 (gE e)) (fun e=>?_)⟩
 have hcode:=fE e
 have gd:=cn hcode
 replace k1:=k1 hcode gd
 clear k0 e hcode l1 hb7 K0
 have hn8:=gd.n8
 have hk5:=gd.k5
 have hp13:=Ln gd
 have hp13':=bD (ak m.nodes 36+ak m.nodes 35)
 refine ap (fun J=> ∀(bp bx:Nat) (h' g':Hp) (t:Sl) (L0:List (Nat×Blk)),Kn g' h' L0->(bp, .inl ⟨[.pointer (some ⟨bx,0,none⟩)],1,false⟩)∈L0->
  (bx, .inl ⟨Ml M (ak m.nodes 36) (ak m.nodes 35) t ⟨none,0,0⟩ ⟨none,0,0⟩ 0 ⟨none,0,0⟩ 0 0,14,false⟩)∈L0->(b7, .inl ⟨aw M,5,false⟩)∈L0->h.le g'->IntS g' t (VL (stP m))->J bp 0 h') ?_ (fun J hJ=>?_)
 rotate_left
 ·repeat' (first
   |(refine kr_ ?_)
   |(refine eX (hs.mono (Kn.le (by assumption))) hm ⟨_,rfl,?_⟩)
   |(refine RJ (by assumption) hs hm gd fun _ _ _ _ _ _ _=>⟨_,rfl,?_⟩)
   |((with_reducible apply Kn.al);(assumption);(intro _ _ _ _ _))
   |((((with_reducible apply Kn.wr);(assumption);((focus ((repeat first|exact .head|apply Upd.tail);done)))));(exact Nat.le_refl _);(intro _ _ _))
   |((with_reducible apply hJ)<;>first|assumption|((focus ((repeat first|exact .head _|apply List.Mem.tail);done))))
   |(refine And.intro ?_ ?_))
 intro bp bx h2 g2 st L0 K2' mp mx m7 l2 hst
 have K2:Kn g2 h2 [(bp, .inl ⟨[.pointer (some ⟨bx,0,none⟩)],1,false⟩),(bx, .inl ⟨Ml M (ak m.nodes 36) (ak m.nodes 35) st ⟨none,0,0⟩ ⟨none,0,0⟩ 0 ⟨none,0,0⟩ 0 0,14,false⟩),(b7, .inl ⟨aw M,5,false⟩)]:=by
  refine K2'.sub (fun e he=>?_) ?_
  ·simp only [List.mem_cons,List.not_mem_nil,or_false]at he
   rcases he with rfl|rfl|rfl<;>assumption
  ·have n1:=dH (K2'.at mp) (K2'.at mx) (by simp)
   have n2:=dH (K2'.at mp) (K2'.at m7) (by simp)
   have n3:=dH (K2'.at mx) (K2'.at m7) (by simp)
   simp [n1,n2,n3]
 clear K2' mp mx m7 L0 K1
 have hs2:=hs.mono l2
 repeat' (refine kr_ ?_)
 rw [bV (n:=((ak m.nodes 36:Nat):Int)+((ak m.nodes 35:Nat):Int)) (by omega) (by omega),if_neg (by omega),<-Int.natCast_add,bG (by omega)]
 generalize hN:2^(ak m.nodes 36+ak m.nodes 35)=N at*
 have tN:Int.toNat (N:Int)=N:=Int.toNat_natCast N
 have nN:N*1=N:=Nat.mul_one N
 have zB:aQ #[.bool false] N=dJ (aG m).hold 0 N:=by rw [cj,kY]
 have zI:aQ #[I 0] N=kC (aG m).next 0 N:=by rw [cj,Dw]
 simp only [tN,nN,zB,zI]
 clear tN nN zB zI
 refine ap (fun J=> ∀(bH bB bN:Nat) (h':Hp) (L0:List (Nat×Blk)),Kn g2 h' L0->(bp, .inl ⟨[.pointer (some ⟨bx,0,none⟩)],1,false⟩)∈L0->
  (bx, .inl ⟨Ml M (ak m.nodes 36) (ak m.nodes 35) st (arr bH N) (arr bB N) 0 (arr bN N) 0 0,14,false⟩)∈L0->(b7, .inl ⟨aw M,5,false⟩)∈L0->
  (bH, .inl ⟨dJ (aG m).hold 0 N,N,false⟩)∈L0->(bB, .inl ⟨dJ (aG m).hold 0 N,N,false⟩)∈L0->(bN, .inl ⟨kC (aG m).next 0 N,N,false⟩)∈L0->(bH≠bB/\bH≠bN/\bB≠bN)->J h') ?_ (fun J hJ=>?_)
 rotate_left
 ·repeat' (first
   |(refine kr_ ?_)
   |((with_reducible apply Kn.al);(assumption);(intro _ _ _ _ _))
   |(refine And.intro (by omega) ?_)
   |((((with_reducible apply Kn.wr);(assumption);((focus ((repeat first|exact .head|apply Upd.tail);done)))));(exact of_decide_eq_true rfl);(intro _ _ _))
   |((with_reducible apply hJ)<;>first|assumption|((focus ((repeat first|exact .head _|apply List.Mem.tail);done)))|((have hnd:=Kn.nd (by assumption);simp only [List.map_cons,List.map_nil,List.nodup_cons,List.mem_cons,List.not_mem_nil,not_or,or_false,not_false_eq_true,and_true,List.nodup_nil]at hnd;omega)))
   |(refine And.intro ?_ ?_))
 intro bH bB bN h3 L0 K3' mp mx m7 mH mB mN hne
 have e0:dJ (aG m).hold 0 N=dJ (aG m).bad 0 N:=by rw [<-kY,<-kY]
 rw [e0]at mB
 have n1:=dH (K3'.at mp) (K3'.at mx) (by simp)
 have n2:=dH (K3'.at mp) (K3'.at m7) (by simp)
 have n3:=dH (K3'.at mx) (K3'.at m7) (by simp)
 have hb1: ∀b∈ [bH,bB,bN],g2 b=none:=by
  intro b hb
  simp only [List.mem_cons,List.not_mem_nil,or_false]at hb
  rcases hb with rfl|rfl|rfl
  ·exact K3'.new _ mH
  ·exact K3'.new _ mB
  ·exact K3'.new _ mN
 have h0b:(dJ (aG m).hold 0 N)[0]?=some (.bool false):=by rw [<-kY,List.getElem?_replicate,if_pos hp13']
 have h0b2:(dJ (aG m).bad 0 N)[0]?=some (.bool false):=by rw [<-kY,List.getElem?_replicate,if_pos hp13']
 have h0n:(kC (aG m).next 0 N)[0]?=some (I 0):=by rw [<-Dw,List.getElem?_replicate,if_pos hp13']
 have dif: ∀{b c:Nat} {cs ds:List Value} {z y:Nat} {v w:Value},(b, .inl ⟨cs,z,false⟩)∈L0->(c, .inl ⟨ds,y,false⟩)∈L0->cs[0]?=some v->ds[0]?=some w->v≠w->b≠c:=by
  intro b c cs ds z y v w hb hc e1 e2 hvw hbc
  subst hbc
  have:=(K3'.at hb).symm.trans (K3'.at hc)
  simp only [Option.some.injEq,Sum.inl.injEq,Row.mk.injEq]at this
  rw [this.1,e2]at e1
  exact hvw (Option.some.inj e1).symm
 have K3:Kn g2 h3 (sE m bH bB bN 0++ [(bp, .inl ⟨[.pointer (some ⟨bx,0,none⟩)],1,false⟩),(bx, .inl ⟨Ml M (ak m.nodes 36) (ak m.nodes 35) st (arr bH N) (arr bB N) 0 (arr bN N) 0 0,14,false⟩),(b7, .inl ⟨aw M,5,false⟩)]):=by
  refine K3'.sub (fun e he=>?_) ?_
  ·simp only [sE,hN,List.mem_append,List.mem_cons,List.not_mem_nil,or_false]at he
   rcases he with (rfl|rfl|rfl)|rfl|rfl|rfl<;>assumption
  ·have a1:=dif mH mp h0b rfl (by simp)
   have a2:=dif mH mx h0b rfl (by simp)
   have a3:=dif mH m7 h0b rfl (by simp)
   have a4:=dif mB mp h0b2 rfl (by simp)
   have a5:=dif mB mx h0b2 rfl (by simp)
   have a6:=dif mB m7 h0b2 rfl (by simp)
   have a7:=dif mN mp h0n rfl (by simp)
   have a8:=dif mN mx h0n rfl (by simp)
   have a9:=dif mN m7 h0n rfl (by simp)
   simp [sE,hne.1,hne.2.1,hne.2.2,n1,n2,n3,a1,a2,a3,a4,a5,a6,a7,a8,a9]
 clear dif h0b h0b2 h0n e0 n1 n2 n3 mp mx m7 mH mB mN K3' L0 K2
 have Kf:Kn g2 h3 (sE m bH bB bN 0):=K3.sub (fun e he=>List.mem_append_left _ he) (by simp [sE,hne.1,hne.2.1,hne.2.2])
 have nB: ∀b∈ [bp,bx,b7],b∉ [bH,bB,bN]:=by
  have hnd:=K3.nd
  simp only [sE,List.cons_append,List.nil_append,List.map_cons,List.map_nil,List.nodup_cons,List.mem_cons,List.not_mem_nil,not_or,or_false,not_false_eq_true,and_true,List.nodup_nil]at hnd
  intro b hb hb2
  simp only [List.mem_cons,List.not_mem_nil,or_false]at hb hb2
  omega
 have f7:(h3.wo [bH,bB,bN]) b7=some (.inl ⟨aw M,5,false⟩):=by
  rw [rc (nB _ (by simp))];exact K3.at (by simp)
 have fp:(h3.wo [bH,bB,bN]) bp=some (.inl ⟨[.pointer (some ⟨bx,0,none⟩)],1,false⟩):=by
  rw [rc (nB _ (by simp))];exact K3.at (by simp)
 have fx:(h3.wo [bH,bB,bN]) bx=some (.inl ⟨Ml M (ak m.nodes 36) (ak m.nodes 35) st (arr bH N) (arr bB N) 0 (arr bN N) 0 0,14,false⟩):=by
  rw [rc (nB _ (by simp))];exact K3.at (by simp)
 have lB:g2.le (h3.wo [bH,bB,bN]):=Kf.leBase
 have hsB:=hs2.mono lB
 have hstB:=hst.mono lB
 have Kr:=Kn.of (vU h3 [bH,bB,bN])
 repeat' (refine kr_ ?_)
 subst hN
 refine Q2 (B:= [bH,bB,bN]) (st:=fun c h'=>Kn (h3.wo [bH,bB,bN]) h' (sE m bH bB bN c)) hsB hm gd Kf.has (fun c h1 h2 K l=>K.mono l) Kf.base (fun c hc h4 t l4 K hpv R' hR'=>?_) (fun h4 l4 K4=>⟨rfl,?_⟩)
 ·exact BK hsB hm gd f7 fp fx hstB hc K hpv fun h5 K5=>hR' h5 ⟨Hp.le_trans K.leBase K5.le,K5.mem,fun e he=>by
   have:=K5.nd
   exact aF K.leBase (K5.new e he),K5.nd⟩ K5.le
 have K5:Kn g2 h4 (sE m bH bB bN (2^(ak m.nodes 36+ak m.nodes 35))++ [(bp, .inl ⟨[.pointer (some ⟨bx,0,none⟩)],1,false⟩),(bx, .inl ⟨Ml M (ak m.nodes 36) (ak m.nodes 35) st (arr bH (2^(ak m.nodes 36+ak m.nodes 35))) (arr bB (2^(ak m.nodes 36+ak m.nodes 35))) 0 (arr bN (2^(ak m.nodes 36+ak m.nodes 35))) 0 0,14,false⟩),(b7, .inl ⟨aw M,5,false⟩)]):=by
  refine⟨Hp.le_trans lB l4,fun e he=>?_,fun e he=>?_,K3.nd⟩
  ·rcases List.mem_append.1 he with he|he
   ·exact K4.mem e he
   ·simp only [List.mem_cons,List.not_mem_nil,or_false]at he
    rcases he with rfl|rfl|rfl
    ·exact l4 _ _ fp
    ·exact l4 _ _ fx
    ·exact l4 _ _ f7
  ·rcases List.mem_append.1 he with he|he
   ·have hm:e.1∈ [bH,bB,bN]:=by
     simp only [sE,List.mem_cons,List.not_mem_nil,or_false]at he
     rcases he with rfl|rfl|rfl<;>simp
    exact hb1 _ hm
   ·exact K3.new e (List.mem_append_right _ he)
 unfold sE at K5
 simp only [List.cons_append,List.nil_append]at K5
 clear K4 Kr hstB hsB lB fx fp f7 nB Kf K3 l4 h3
 have hil:=gd.il
 have hxl:=gd.xl
 have hin:=hs2.inits.len
 have hp36:(stP m).length<=m.nodes.length:=eP m.nodes 36
 have hnl:=gd.nl
 have hstn:st.n=(stP m).length:=by have:=hst.len;rw [bz]at this;exact this
 repeat' (refine kr_ ?_)
 refine xe (hs2.mono K5.le) hm gd (hs2.mono K5.le).nexts (by omega) ⟨_,rfl,?_⟩
 repeat' (refine kr_ ?_)
 refine kw_ ?_
 intro h5 K6 _
 clear K5
 repeat' (refine kr_ ?_)
 refine Bv (hs2.mono K6.le) hm gd fun vt h6 l6 hvn hpv=>⟨vt,rfl,?_⟩
 have K7:=K6.mono l6
 clear K6 l6
 have hs6:=hs2.mono K7.le
 have hst6:=hst.mono K7.le
 have f7:h6 b7=some (.inl ⟨aw M,5,false⟩):=K7.at (by simp)
 have fp:h6 bp=some (.inl ⟨[.pointer (some ⟨bx,0,none⟩)],1,false⟩):=K7.at (by simp)
 repeat' (refine kr_ ?_)
 refine rH hs6 hm hst6 (cH gd 36) (iE gd 36) fun out ts h7 c1 hon=>⟨out,rfl,?_⟩
 have Kr:=Kn.of (Hp.le_trans c1.le (bk _ _))
 repeat' (refine kr_ ?_)
 have aV:=wO gd
 refine av m.inits.length (fun j vs h'=> ∃ts:List Sl,vs= [.pointer (some ⟨b7,0,none⟩), .pointer (some ⟨bp,0,none⟩),vt.v,out.v,M.ini.v,I M.ini.n,I j]/\h6.le (h'.offS out)/\Buf h' out 1 (ts.map Sl.v)/\ts.length=(stP m).length/\
  ∀(i p:Nat) (t:Sl),(stP m)[i]?=some p->ts[i]?=some t->IntS (h'.offS out) t (VL (CZ m j p))) ⟨ts,rfl,c1.le,c1.buf,by rw [c1.len,mA],fun i p t hp ht=>?_⟩ ?_
 ·obtain⟨b,e1,e2,e3⟩:=c1.row i t ht
  have hz:(da m.nodes (stP m)).getD i []=CZ m 0 p:=by
   unfold da CZ
   rw [List.getD_eq_getElem?_getD,List.getElem?_map,hp];rfl
  have hz4:((da m.nodes (stP m)).getD i []).length<=4:=by
   unfold da
   rw [List.getD_eq_getElem?_getD,List.getElem?_map,hp]
   simp only [Option.map_some,Option.getD_some,List.length_replicate]
   exact di _ _
  rw [hz]at e1 e3 hz4
  rw [e1]
  exact⟨by dsimp only;omega,by simp [bz], .inr ⟨b,0,rfl,ay e3⟩⟩
 clear c1 Kr ts h7
 rintro j _ h8 next hj ⟨ts,rfl,l8,hbuf,htl,hts⟩ hnx
 have lo:=bk h8 out
 have l68:=Hp.le_trans l8 lo
 refine⟨_,_,_,_,vt,out,M.ini,_,_,rfl,?_⟩
 by_cases hlt:j<m.inits.length
 rotate_left
 ·have hje:j=m.inits.length:=by omega
  subst hje
  refine aD (by simp;omega) ?_
  have K9:=K7.mono l68
  have hbl:(ln m).length=(stP m).length:=by unfold ln kz;rw [List.length_map]
  have iss:IntSS h8 out ((ln m).map VL):=⟨ts,by rw [List.length_map,hbl];exact htl,hbuf.slc_of (by rw [hon];have:=iE gd 36;omega),fun i h1 h2=>by
   have hi:i<(stP m).length:=by omega
   have hpi:(stP m)[i]?=some (stP m)[i]:=List.getElem?_eq_getElem hi
   have:=(hts i _ _ hpi (List.getElem?_eq_getElem h1)).mono lo
   rw [<-QJ m hpi]at this
   rw [List.getElem_map]
   rwa [List.getD_eq_getElem?_getD,List.getElem?_eq_getElem (by rw [hbl];exact hi)]at this⟩
  have hs8:=hs6.mono l68
  clear hbuf hts
  repeat' (refine kr_ ?_)
  refine xe hs8 hm gd hs8.inits (by omega) ⟨_,rfl,?_⟩
  repeat' (refine kr_ ?_)
  refine Cb hs8 hm gd.ok (hst6.mono l68) (cH gd 36) (iE gd 36) iss (yf gd) (by rw [fu gd];omega) ⟨_,rfl,?_⟩
  repeat' (refine kr_ ?_)
  refine kw_ ?_
  intro h9 K10 _
  repeat' (refine kr_ ?_)
  refine kw_ ?_
  intro h10 K11 _
  repeat' (refine kr_ ?_)
  refine k1 bx h10 (Hp.le_trans l2 K11.le) ⟨M,st,arr bH (2^(ak m.nodes 36+ak m.nodes 35)),arr bB (2^(ak m.nodes 36+ak m.nodes 35)),arr bN (2^(ak m.nodes 36+ak m.nodes 35)),K11.at (by((focus ((repeat first|exact .head _|apply List.Mem.tail);done)))),?_,?_,?_⟩
  ·refine⟨by dsimp only;omega,by simp [aG], .inr ⟨bH,0,rfl,?_⟩⟩
   have:=ay (K11.at (.head _))
   rwa [xA]at this
  ·refine⟨by dsimp only;omega,by simp [aG], .inr ⟨bB,0,rfl,?_⟩⟩
   have:=ay (K11.at (.tail _ (.head _)))
   rwa [xA]at this
  ·refine⟨by dsimp only;omega,by simp [aG,VL], .inr ⟨bN,0,rfl,?_⟩⟩
   have:=ay (K11.at (.tail _ (.tail _ (.head _))))
   rwa [OZ]at this
 refine aJ (by simp;omega) ?_
 obtain⟨bd,hbd⟩: ∃bd,m.inits[j]?=some bd:=⟨_,List.getElem?_eq_getElem hlt⟩
 obtain⟨v1,v2,v3,v4,s1,s2⟩:=ul gd (List.mem_of_getElem? hbd)
 obtain⟨bi,oi,hai,cx1,cx2⟩:=(hs6.mono l68).inits.at hbd
 refine⟨bi,oi,hai,by omega,by omega,_,cx1,_,cx2,?_⟩
 refine aj fun b48 h9 hb48 l9 f48'=>?_
 (with_reducible apply cb);(exact f48');(exact l9);(exact hb48);(exact Nat.le_refl 2)
 intro h10 f48 kp l10
 have l10o:=bM out l10
 have f48o:=hbuf.offS_new hb48 f48
 clear f48' kp l9
 have Kr:=Kn.of (Hp.le_trans l68 l10)
 have fx6:=K7.at (b:=bx) (.tail _ (.tail _ (.tail _ (.tail _ (.head _)))))
 repeat' (refine kr_ ?_)
 refine av (stP m).length (fun q vs h'=> ∃ts:List Sl,vs= [.pointer (some ⟨b7,0,none⟩), .pointer (some ⟨bp,0,none⟩),vt.v,out.v, .pointer (some ⟨b48,0,none⟩),M.ini.v,I M.ini.n,I j,st.v,I st.n,I q]/\h6.le (h'.offS out)/\(h'.offS out) b48=some (.inl ⟨[I bd.state,I bd.node],2,false⟩)/\Buf h' out 1 (ts.map Sl.v)/\ts.length=(stP m).length/\
  ∀(i p:Nat) (t:Sl),(stP m)[i]?=some p->ts[i]?=some t->IntS (h'.offS out) t (VL (if i<q then CZ m (j+1) p else CZ m j p)))
  ⟨ts,rfl,Hp.le_trans l8 l10o,f48o,hbuf.mono l10,htl,fun i p t hp ht=>by rw [if_neg (by omega)];exact(hts i p t hp ht).mono l10o⟩ ?_
 clear Kr f48o l10o l10 f48 hb48 hbuf htl hts ts l68 lo l8 hai cx1 cx2 h9 h8 h10
 rintro q _ h8 next2 hq ⟨ts,rfl,l8,f48,hbuf,htl,hts⟩ hnx2
 have lo:=bk h8 out
 have l68:=Hp.le_trans l8 lo
 have g48:=lo _ _ f48
 refine⟨_,_,_,_,vt,out,_,_,_,_,_,st,_,_,rfl,?_⟩
 by_cases hlq:q<(stP m).length
 rotate_left
 ·refine aD (by simp;omega) ?_
  rw [aA (by omega)]
  refine hnx hlt _ _ ⟨ts,rfl,l8,hbuf,htl,fun i p t hp ht=>?_⟩
  have:=hts i p t hp ht
  rwa [if_pos (by have:=get_lt hp;omega)]at this
 refine aJ (by simp;omega) ?_
 obtain⟨p,hpq⟩: ∃p,(stP m)[q]?=some p:=⟨_,List.getElem?_eq_getElem hlq⟩
 have hpm:=cH gd 36 p (List.mem_of_getElem? hpq)
 obtain⟨bq,oq,hap,hcp⟩:=(hst6.mono l68).get (gp hpq)
 refine ap (fun J=> ∀(ts':List Sl) (h':Hp),h6.le (h'.offS out)->(h'.offS out) b48=some (.inl ⟨[I bd.state,I bd.node],2,false⟩)->Buf h' out 1 (ts'.map Sl.v)->ts'.length=(stP m).length->
  (∀(i p:Nat) (t:Sl),(stP m)[i]?=some p->ts'[i]?=some t->IntS (h'.offS out) t (VL (if i<q+1 then CZ m (j+1) p else CZ m j p)))->J h') ?_ (fun J hJ=>?_)
 ·intro ts' h' a1 a2 a3 a4 a5
  rw [aA (by omega)]
  exact hnx2 hlq _ _ ⟨ts',rfl,a1,a2,a3,a4,a5⟩
 refine⟨bq,oq,hap,by omega,by omega,_,hcp,?_⟩
 (refine az ?_)
 have hst':=Ro gd hbd p
 refine ac (fun e=>?_) (fun e=>?_)
 ·rw [if_pos (bU e).symm]at hst'
  have f78:=l68 _ _ f7
  (refine az ?_)
  obtain⟨bn,on,han,hpn',c6,c7,w1,w16⟩:=(hs6.mono l68).nodes.sortc2 hpm gd.ok
  refine⟨bn,on,han,by omega,hpn',_,c6,_,c7,?_⟩
  (refine az ?_)
  obtain⟨bv,ov,t,hav,hvn',hcv,ht⟩:=(hpv.mono l68).at v1 (by rw [aV.len];exact v2)
  refine⟨bv,ov,hav,v1,hvn',t,hcv,?_⟩
  refine wE ht v3 v4 fun t2 h9 l9 ht2=>⟨t2,rfl,?_⟩
  rw [qi gd.ok hpm]at ht2
  have l9o:=bM out l9
  have hbuf9:=hbuf.mono l9
  refine hbuf9.wr (x:=t2) (by omega) fun h10 hbuf' ho=>?_
  refine hJ _ h10 (by rw [ho];exact Hp.le_trans l8 l9o) (by rw [ho];exact l9o _ _ f48) hbuf' (by rw [List.length_set];exact htl) fun i p' u hp' hu=>?_
  rw [ho]
  by_cases hiq:i=q
  ·subst hiq
   rw [hpq]at hp';cases hp'
   rw [List.getElem?_set_self (by omega)]at hu
   obtain rfl:=Option.some.inj hu
   rw [if_pos (by omega),hst']
   exact ht2.offL hbuf9
  ·rw [List.getElem?_set_ne (fun e=>hiq e.symm)]at hu
   have:=(hts i p' u hp' hu).mono l9o
   by_cases h1:i<q
   ·rw [if_pos h1]at this;rw [if_pos (by omega)];exact this
   ·rw [if_neg h1]at this;rw [if_neg (by omega)];exact this
 ·rw [if_neg (fun e'=>aY e e'.symm)]at hst'
  refine hJ ts h8 l8 f48 hbuf htl fun i p' u hp' hu=>?_
  have:=hts i p' u hp' hu
  by_cases hiq:i=q
  ·subst hiq
   rw [hpq]at hp';cases hp'
   rw [if_neg (by omega)]at this
   rw [if_pos (by omega),hst'];exact this
  ·by_cases h1:i<q
   ·rw [if_pos h1]at this;rw [if_pos (by omega)];exact this
   ·rw [if_neg h1]at this;rw [if_neg (by omega)];exact this
theorem cY.get {h:Hp} {t:Sl} {n:Nat} {T:Nat->Bool} (e:cY h t n T) {i:Nat} (hi:i<n): ∃b o,t.a=some (Addr.mk b o none)/\(i:Int)<(t.n:Int)/\Hp.cell h b (o+Int.toNat (i:Int)*1)=some (.bool (T i)):=by
 have hl:=qD.len e
 rw [List.length_map,List.length_range]at hl
 obtain⟨b,o,ha,hc⟩:=SlC.get e (by omega)
 refine⟨b,o,ha,by omega,?_⟩
 rw [Int.toNat_natCast,Nat.mul_one]
 exact hc i _ (by simp [hi])
theorem cY.len {h:Hp} {t:Sl} {n:Nat} {T:Nat->Bool} (e:cY h t n T):t.n=n:=by
 have hl:=qD.len e
 rwa [List.length_map,List.length_range]at hl
theorem A8.get {h:Hp} {t:Sl} {n:Nat} {f:Nat->Nat} (e:A8 h t n f) {i:Nat} (hi:i<n): ∃b o,t.a=some (Addr.mk b o none)/\(i:Int)<(t.n:Int)/\Hp.cell h b (o+Int.toNat (i:Int)*1)=some (I (f i:Nat)):=by
 have hl:=IntS.len e
 rw [bz,List.length_map,List.length_range]at hl
 obtain⟨b,o,ha,hc⟩:=SlC.get e (by omega)
 refine⟨b,o,ha,by omega,?_⟩
 rw [Int.toNat_natCast,Nat.mul_one]
 exact hc i _ (by simp [VL,hi])
theorem xF {h:Hp} {b s:Nat} {σ:aC} {R:Value->Hp->Prop} (hs:nE h b σ) (ok:σ.Ok) (hlt:s<2^σ.n) (k:R (.bool (σ.begins s)) h):kq #[.pointer (some ⟨b,0,none⟩),I s] h R:=by
 apply xq
 refine uf_ ?_
 obtain⟨M,st,hold,bad,next,fx,_,_,_⟩:=hs
 have h8:=Nat.pow_le_pow_right (n:=2) (by omega) ok.nle
 have h82:(2:Nat)^8=256:=rfl
 have hb:=ok.bfix
 have ha:=ok.bas
 refine dw (dw ?_)
 repeat' (refine az ?_)
 rw [rU (by omega) (by omega)]
 refine dj ?_ k
 unfold aC.begins
 rw [Bool.eq_iff_iff,decide_eq_true_eq,beq_iff_eq];omega
theorem IntS.up {h h':Hp} {s:Sl} {xs:List Int} (e:IntS h s xs) (l:h.le h'):IntS h' s xs:=e.mono l
theorem IntSS.up {h h':Hp} {s:Sl} {xs:List (List Int)} (e:IntSS h s xs) (l:h.le h'):IntSS h' s xs:=e.mono l
theorem aN.up {h h':Hp} {M:MSl} {m:ai} (e:aN h M m) (l:h.le h'):aN h' M m:=e.mono l
theorem kpU {h0 h h':Hp} {b:Nat} {x:Blk} {P:Prop} (f:h0 b=some x) (l1:h0.le h') (l2:h0.le h) (k:P):h' b=h b/\P:=⟨by rw [l1 _ _ f,l2 _ _ f],k⟩
theorem kpN {h0 h h':Hp} {b:Nat} {P:Prop} (f:h0 b≠none) (l1:h0.le h') (l2:h0.le h) (k:P):h' b=h b/\P:=by
 refine⟨?_,k⟩
 cases hb:h0 b with
 |none=>exact absurd hb f
 |some x=>rw [l1 _ _ hb,l2 _ _ hb]
theorem rdU {α:Type} {f:α->Value} {h0 h:Hp} {b z o:Nat} {cs:List Value} {ro:Bool} {x:α} {P:α->Prop} (e:h0 b=some (.inl ⟨cs,z,ro⟩)) (l:h0.le h) (c:cs[o]?=some (f x)) (k:P x): ∃y:α,Hp.cell h b o=some (f y)/\P y:=⟨x,by rw [aq (l _ _ e)];exact c,k⟩
theorem ku_ {P Q:Prop} (k:Q) (h:Q->P:=by(first
 |((with_reducible apply rdU);(assumption);((focus ((repeat (first|exact Hp.le_refl _|assumption|(refine Hp.le_trans ?_ (by assumption))));done)));(exact rfl))
 |with_reducible exact And.intro (Eq.refl _)
 |with_reducible exact And.intro True.intro
 |with_reducible exact dw
 |((with_reducible apply kpU);(assumption);((focus ((repeat (first|exact Hp.le_refl _|assumption|(refine Hp.le_trans ?_ (by assumption))));done)));((focus ((repeat (first|exact Hp.le_refl _|assumption|(refine Hp.le_trans ?_ (by assumption))));done))))
 |((with_reducible apply kpN);(assumption);((focus ((repeat (first|exact Hp.le_refl _|assumption|(refine Hp.le_trans ?_ (by assumption))));done)));((focus ((repeat (first|exact Hp.le_refl _|assumption|(refine Hp.le_trans ?_ (by assumption))));done))))
 |fail)):P:=h k
set_option maxHeartbeats 2000000 in
theorem yY {h:Hp} {M:MSl} {m:ai} {c:Nat} {R:Value->Hp->Prop} (hs:aN h M m) (hm:bW m) (g:dP m) (hc:c<2^(ak m.nodes 36+ak m.nodes 35))
  (k: ∀t h',h.le h'->t.n=m.nodes.length->ge h' t (cK m (c%2^ak m.nodes 36) (c/2^ak m.nodes 36))->WH h t->R (Sl.v t) h'):lZ #[aO M,I c] h R:=by
 apply Em
 refine uf_ ?_
 have hn8:=g.n8
 have hk5:=g.k5
 have hp13:=Ln g
 have hp8:=aap g
 have h1':c%2^ak m.nodes 36<=c:=Nat.mod_le _ _
 have h2':c/2^ak m.nodes 36<=c:=Nat.div_le_self _ _
 have hpp:=bD (ak m.nodes 36)
 have hs36:cw m.nodes (aU m.nodes 36)<=60:=by have:=fu g;show cw m.nodes (stP m)<=60;omega
 have hs35:cw m.nodes (aU m.nodes 35)<=60:=by have:=EV g;show cw m.nodes (inP m)<=60;omega
 have hshr:oM (c:Int) ((ak m.nodes 36:Nat):Int)=((c/2^ak m.nodes 36:Nat):Int):=kr (by omega)
 have hmod:Int.tmod (c:Int) (((2^ak m.nodes 36:Nat)):Int)=((c%2^ak m.nodes 36:Nat):Int):=eY _ _
 have hwu:IntKind.wrap .u64 ((ak m.nodes 36:Nat):Int)=(ak m.nodes 36:Nat):=cl (by omega)
 have hsh1:au 1 ((ak m.nodes 36:Nat):Int)=((2^ak m.nodes 36:Nat):Int):=bG (by omega)
 refine aj fun b8 h1 hb8 l1 f8=>?_
 clear hb8
 repeat' (refine ku_ ?_)
 refine fY (hs.mono l1) hm ⟨_,rfl,?_⟩
 simp only [hwu,hsh1,hshr,hmod]
 repeat' (first
  |(refine ku_ ?_)
  |(rw [if_neg (by omega)])
  |(refine cO (hs.up (by((focus ((repeat (first|exact Hp.le_refl _|assumption|(refine Hp.le_trans ?_ (by assumption))));done))))) hm fun _ _ _ _=>⟨_,rfl,?_⟩)
  |(refine fK (hs.up (by((focus ((repeat (first|exact Hp.le_refl _|assumption|(refine Hp.le_trans ?_ (by assumption))));done))))) hm g.ok (IntS.up (by assumption) (by((focus ((repeat (first|exact Hp.le_refl _|assumption|(refine Hp.le_trans ?_ (by assumption))));done))))) (cH g 36) (iE g 36) (by omega) hs36 fun _ _ _ _=>⟨_,rfl,?_⟩)
  |(refine fK (hs.up (by((focus ((repeat (first|exact Hp.le_refl _|assumption|(refine Hp.le_trans ?_ (by assumption))));done))))) hm g.ok (IntS.up (by assumption) (by((focus ((repeat (first|exact Hp.le_refl _|assumption|(refine Hp.le_trans ?_ (by assumption))));done))))) (cH g 35) (iE g 35) (by omega) hs35 fun _ _ _ _=>⟨_,rfl,?_⟩)
  |(refine ph (hs.up (by((focus ((repeat (first|exact Hp.le_refl _|assumption|(refine Hp.le_trans ?_ (by assumption))));done))))) hm g.ok g.nl (IntSS.up (by assumption) (by((focus ((repeat (first|exact Hp.le_refl _|assumption|(refine Hp.le_trans ?_ (by assumption))));done))))) (ld 36 (c%2^ak m.nodes 36) g) (IntSS.up (by assumption) (by((focus ((repeat (first|exact Hp.le_refl _|assumption|(refine Hp.le_trans ?_ (by assumption))));done))))) (ld 35 (c/2^ak m.nodes 36) g) fun t h' l hn hpv hw=>⟨_,rfl,k t h' (by((focus ((repeat (first|exact Hp.le_refl _|assumption|(refine Hp.le_trans ?_ (by assumption))));done)))) hn hpv fun b o hb=>aF (by((focus ((repeat (first|exact Hp.le_refl _|assumption|(refine Hp.le_trans ?_ (by assumption))));done)))) (hw b o hb)⟩)
  |(refine And.intro ?_ ?_))
def hE (ps:List Nat) (f:Nat->Option (List Nat)) (vs:List (List Nat)) (n:Nat):Bool:=(List.range n).all fun i=>match ps[i]? with
 |some p=>(match f p with|some v=>decide (vs.getD i []=v)|none=>true)
 |none=>true
theorem C3 {ps:List Nat} {f:Nat->Option (List Nat)} {vs:List (List Nat)} {i p:Nat} (h:ps[i]?=some p):hE ps f vs (i+1)=(hE ps f vs i&&(match f p with|some v=>decide (vs.getD i []=v)|none=>true)):=by
 unfold hE
 rw [List.range_succ,List.all_append]
 simp only [List.all_cons,List.all_nil,Bool.and_true,h]
theorem kA {ps:List Nat} {f:Nat->Option (List Nat)} {vs:List (List Nat)}:hE ps f vs ps.length=true↔ ∀(i p:Nat),ps[i]?=some p-> ∀v,f p=some v->vs.getD i []=v:=by
 unfold hE
 rw [List.all_eq_true]
 constructor
 ·intro h i p hp v hv
  have:=h i (List.mem_range.2 (get_lt hp))
  rw [hp]at this
  simp only [hv,decide_eq_true_eq]at this
  exact this
 ·intro h i hi
  cases hp:ps[i]? with
  |none=>rfl
  |some p=>
   simp only
   cases hv:f p with
   |none=>rfl
   |some v=>simpa using h i p hp v hv
theorem Jx {ps:List Nat} {f:Nat->Option (List Nat)} {vs:List (List Nat)} {i:Nat} (hi:i<=ps.length) (h:hE ps f vs i=false):hE ps f vs ps.length=false:=by
 unfold hE at h⊢
 rw [List.all_eq_false]at h⊢
 obtain⟨x,hx,hn⟩:=h
 exact⟨x,List.mem_range.2 (by have:=List.mem_range.1 hx;omega),hn⟩
theorem Dv {h:Hp} {M:MSl} {m:ai} {s t:Sl} {ps:List Nat} {vs:List (List Nat)} {R:Value->Hp->Prop} (hs:aN h M m) (hm:bW m) (hok:co m.nodes=true) (hp:IntS h s (VL ps)) (hps: ∀p∈ps,p<m.nodes.length) (hpl:ps.length<=1048576)
  (hv:IntSS h t (vs.map VL)) (hf:mw m.nodes ps vs) (k:R (.bool true) h):px #[aO M,s.v,t.v] h R:=by
 refine ACalls.drop (HI ?_)
 refine uf_ ?_
 have hn:=hs.nodes.len
 have hsn:=hp.len
 rw [bz]at hsn
 have htn:=hv.len
 rw [List.length_map]at htn
 have hvl:=nZ hf
 refine aj fun b9 h1 hb9 l1 f9=>?_
 refine aD (by simp;omega) ?_
 refine av ps.length (fun i ws h'=>h.le h'/\h' b9=some (.inl ⟨aw M,5,false⟩)/\ws= [s.v,t.v, .pointer (some ⟨b9,0,none⟩),I i]) ⟨l1,f9,rfl⟩ ?_
 clear f9 l1 hb9 h1
 rintro i _ h1 next hi ⟨l1,f9,rfl⟩ hnx
 refine⟨s,t,_,_,_,rfl,?_⟩
 by_cases hlt:i<ps.length
 rotate_left
 ·exact aD (by simp;omega) ⟨_,l1,k⟩
 refine aJ (by simp;omega) ?_
 obtain⟨p,hpi⟩: ∃p,ps[i]?=some p:=⟨_,List.getElem?_eq_getElem hlt⟩
 have hpm:=hps p (List.mem_of_getElem? hpi)
 obtain⟨b,o,ha,hc⟩:=(hp.mono l1).get (gp hpi)
 refine⟨b,o,ha,by omega,by omega,?_⟩
 (refine az ?_)
 refine⟨_,hc,?_⟩
 obtain⟨bn,on,han,hpn',c6,c7,w1,w16⟩:=(hs.mono l1).nodes.sortc2 hpm hok
 refine⟨bn,on,han,by omega,hpn',_,c6,_,c7,?_⟩
 obtain⟨bt,ot,c,hta,htc,hcv⟩:=(hv.mono l1).getV (i:=i) (by omega)
 have xbt:=gq htc
 have xbn:=gq c6
 have xb:=gq hc
 have xb9:=eJ f9
 refine aj fun b36 h2 hb36 l2 f36'=>?_
 have n9:=fresh_ne hb36 f9
 have nt:=vr hb36 htc
 repeat' (((with_reducible apply kJ);(assumption);(assumption)))
 (with_reducible apply cb);(exact f36');(exact Hp.le_trans l1 l2);(exact aF l1 hb36);(exact Nat.le_refl 2)
 intro h3 f36 kp l3
 have l13:h1.le h3:=cE hb36 l2 kp
 have f93:=l13 _ _ f9
 have f36v:h3 b36=some (.inl ⟨[I (aE m.nodes p).idx,I (cc m.nodes p)],2,false⟩):=f36
 refine⟨bt,ot,hta,by omega,by omega,c,l13.cell htc,?_⟩
 repeat' (refine az ?_)
 refine ff ⟨_,rfl,?_⟩
 rw [qi hok hpm]
 have hg:=pJ hf hpi
 have hcn:=hcv.len
 rw [bz]at hcn
 have hcl:=di m.nodes p
 repeat' (refine az ?_)
 refine aD (by simp;omega) ?_
 have hcv3:=hcv.mono l13
 refine av (aK m.nodes p) (fun q ws h'=>h'=h3/\ws= [s.v,t.v, .pointer (some ⟨b9,0,none⟩),I i, .pointer (some ⟨b36,0,none⟩),I q]) ⟨rfl,rfl⟩ ?_
 rintro q _ _ next2 hq ⟨rfl,rfl⟩ hnx2
 rename_i h3
 refine⟨s,t,_,_,_,_,_,_,rfl,?_⟩
 refine⟨bt,ot,hta,by omega,by omega,c,l13.cell htc,?_⟩
 by_cases hlq:q<aK m.nodes p
 rotate_left
 ·refine aD (by simp;omega) ?_
  rw [aA (by omega)]
  exact hnx hlt _ _ ⟨l3,f93,rfl⟩
 refine aJ (by simp;omega) ?_
 refine⟨bt,ot,hta,by omega,by omega,?_⟩
 (refine az ?_)
 refine⟨c,l13.cell htc,?_⟩
 obtain⟨bc,oc,hca,hcc,hln⟩:=hcv3.elt (i:=q) (by omega)
 refine⟨bc,oc,hca,by omega,by omega,_,hcc,?_⟩
 have hlt2:(vs.getD i []).getD q 0<2^cc m.nodes p:=by
  rw [List.getD_eq_getElem?_getD,List.getElem?_eq_getElem (show q<(vs.getD i []).length by omega)]
  exact hg.2 _ (List.getElem_mem _)
 refine cr ⟨_,rfl,aD ?_ ?_⟩
 ·rw [Bool.not_eq_false',jP]
  refine⟨by omega,by omega,?_⟩
  rw [Int.toNat_natCast];omega
 ·rw [aA (by omega)]
  exact hnx2 hlq _ _ ⟨rfl,rfl⟩
theorem gm {h:Hp} {M:MSl} {m:ai} {t:Sl} {vs:List (List Nat)} {R:Value->Hp->Prop} (hs:aN h M m) (hm:bW m) (hc:ax m=0)
  (hv:IntSS h t (vs.map VL)) (hf:mw m.nodes (stP m) vs) (k:R (.bool true) h):fD #[aO M,t.v] h R:=by
 refine ACalls.drop (Cx ?_)
 refine uf_ ?_
 have g:=cn hc
 refine aj fun b8 h1 hb8 l1 f8=>?_
 repeat' (refine ku_ ?_)
 refine aX (hs.up (by((focus ((repeat (first|exact Hp.le_refl _|assumption|(refine Hp.le_trans ?_ (by assumption))));done))))) hm ⟨_,rfl,aJ (by rw [hc];rfl) ?_⟩
 repeat' (refine ku_ ?_)
 refine cO (hs.up (by((focus ((repeat (first|exact Hp.le_refl _|assumption|(refine Hp.le_trans ?_ (by assumption))));done))))) hm fun p h2 l2 i2=>⟨p,rfl,?_⟩
 repeat' (refine ku_ ?_)
 exact Dv (hs.up (by((focus ((repeat (first|exact Hp.le_refl _|assumption|(refine Hp.le_trans ?_ (by assumption))));done))))) hm g.ok i2 (cH g 36) (iE g 36) (hv.up (by((focus ((repeat (first|exact Hp.le_refl _|assumption|(refine Hp.le_trans ?_ (by assumption))));done))))) hf ⟨_,rfl,h,by((focus ((repeat (first|exact Hp.le_refl _|assumption|(refine Hp.le_trans ?_ (by assumption))));done))),k⟩
theorem Oq {m:ai} (g:dP m) {p k:Nat} (h:ce m.inits p=some k):k<m.nodes.length/\0<((od m).getD k []).length/\((od m).getD k []).length<=4:=by
 obtain⟨b,hb,_,rfl⟩:=gP h
 obtain⟨v1,v2,v3,v4,_,_⟩:=ul g hb
 exact⟨by omega,v3,v4⟩
theorem jK {h:Hp} {M:MSl} {m:ai} {t:Sl} {vs:List (List Nat)} {R:Value->Hp->Prop} (hs:aN h M m) (hm:bW m) (hc:ax m=0)
  (hv:IntSS h t (vs.map VL)) (hf:mw m.nodes (stP m) vs) (k:R (.bool (hE (stP m) (eV m) vs (stP m).length)) h):hR #[aO M,t.v] h R:=by
 refine ACalls.drop (EA ?_)
 refine uf_ ?_
 have g:=cn hc
 have hil:=g.il
 have hnl:=g.nl
 have hp36:(stP m).length<=m.nodes.length:=eP m.nodes 36
 have htn:=hv.len
 rw [List.length_map]at htn
 have hvl:=nZ hf
 have hbn: ∀b∈m.inits,0<=b.node:=fun b hb=>(ul g hb).1
 refine aj fun b8 h1 hb8 l1 f8=>?_
 repeat' (refine ku_ ?_)
 refine gm (hs.up (by((focus ((repeat (first|exact Hp.le_refl _|assumption|(refine Hp.le_trans ?_ (by assumption))));done))))) hm hc (hv.up (by((focus ((repeat (first|exact Hp.le_refl _|assumption|(refine Hp.le_trans ?_ (by assumption))));done))))) hf ⟨_,rfl,aD rfl ?_⟩
 repeat' (refine ku_ ?_)
 refine Kc (hs.up (by((focus ((repeat (first|exact Hp.le_refl _|assumption|(refine Hp.le_trans ?_ (by assumption))));done))))) hm g fun vt h2 l2 hvn hpv=>⟨vt,rfl,?_⟩
 repeat' (refine ku_ ?_)
 refine cO (hs.up (by((focus ((repeat (first|exact Hp.le_refl _|assumption|(refine Hp.le_trans ?_ (by assumption))));done))))) hm fun pt h3 l3 ip=>⟨pt,rfl,?_⟩
 have hpn:pt.n=(stP m).length:=by have:=ip.len;rw [bz]at this;exact this
 have f83:=l3 _ _ (l2 _ _ f8)
 have hpv3:=hpv.mono l3
 have l03:=Hp.le_trans l1 (Hp.le_trans l2 l3)
 have aV:=wO g
 clear l2 l3 l1 hb8 f8 hpv h2
 refine av (stP m).length (fun i ws h'=>h3.le h'/\ws= [t.v, .pointer (some ⟨b8,0,none⟩),vt.v,pt.v,I i]/\hE (stP m) (eV m) vs i=true) ⟨Hp.le_refl _,rfl,rfl⟩ ?_
 rintro i _ h4 next hi ⟨l4,rfl,hg⟩ hnx
 have l04:=Hp.le_trans l03 l4
 refine⟨t,_,_,vt,pt,_,rfl,?_⟩
 by_cases hlt:i<(stP m).length
 rotate_left
 ·have hie:i=(stP m).length:=by omega
  subst hie
  refine aD (by simp;omega) ⟨_,l04,dj hg.symm k⟩
 refine aJ (by simp;omega) ?_
 obtain⟨p,hpi⟩: ∃p,(stP m)[i]?=some p:=⟨_,List.getElem?_eq_getElem hlt⟩
 have hsucc:=C3 (f:=eV m) (vs:=vs) hpi
 rw [hg,Bool.true_and]at hsucc
 obtain⟨b,o,ha,hcc⟩:=(ip.mono l4).get (gp hpi)
 refine⟨b,o,ha,by omega,by omega,?_⟩
 (refine ku_ ?_)
 refine⟨_,hcc,?_⟩
 refine nr (hs.mono l04).inits (by omega) hbn ⟨_,rfl,?_⟩
 refine ap (fun J=> ∀h',h4.le h'->J (!hE (stP m) (eV m) vs (i+1)) h') ?_ (fun J hJ=>?_)
 ·intro h' l'
  refine ac (fun e=>⟨_,Hp.le_trans l04 l',dj ?_ k⟩) (fun e=>?_)
  ·symm;exact Jx (i:=i+1) (by omega) (by simpa using e)
  ·rw [aA (by omega)]
   exact hnx hlt _ _ ⟨Hp.le_trans l4 l',rfl,by simpa using e⟩
 cases hbo:ce m.inits p with
 |none=>
  rw [show iO m.inits p= -1 from by unfold iO;rw [hbo]]
  refine aD (by simp) ⟨trivial,?_⟩
  have hn:eV m p=none:=by unfold eV;rw [hbo];rfl
  rw [hn]at hsucc
  have:=hJ h4 (Hp.le_refl _)
  rw [hsucc]at this;exact this
 |some q=>
  rw [show iO m.inits p=(q:Int)from by unfold iO;rw [hbo]]
  refine aJ (by simp) ?_
  obtain⟨hq,v3,v4⟩:=Oq g hbo
  have hsm:eV m p=some (mL (aK m.nodes p) ((od m).getD q [])):=by unfold eV;rw [hbo];rfl
  have hfit:=qX g hsm
  have hcl:=di m.nodes p
  have hgv:=pJ hf hpi
  rw [hsm]at hsucc
  obtain⟨bt,ot,c,hta,htc,hcv⟩:=(hv.mono l04).getV (i:=i) (by omega)
  obtain⟨bv,ov,u,hua,hun,huc,huv⟩:=(hpv3.mono l4).at (p:=(q:Int)) (by omega) (by rw [aV.len];omega)
  have hcn:=hcv.len
  rw [bz]at hcn
  refine⟨bt,ot,hta,by omega,by omega,bv,ov,hua,by omega,hun,bt,ot,hta,by omega,by omega,c,htc,u,huc,c,htc,?_⟩
  rw [Int.toNat_natCast]at huv
  rw [hcn,hgv.1]
  have xbt:=gq htc
  refine Dm huv v3 v4 hcl fun w h5 l5 hw=>⟨w,rfl,?_⟩
  repeat' (((with_reducible apply kJ);(assumption);(assumption)))
  refine xv (hcv.mono l5) hw (by rw [bz];omega) (by rw [bz,bz,hgv.1,hfit.1];exact Nat.le_refl _) ⟨_,rfl,?_⟩
  have:=hJ h5 l5
  simp only at hsucc
  rw [hsucc]at this
  have e2:decide (VL (vs.getD i [])=VL (mL (aK m.nodes p) ((od m).getD q [])))=decide (vs.getD i []=mL (aK m.nodes p) ((od m).getD q [])):=by
   rw [Bool.eq_iff_iff,decide_eq_true_eq,decide_eq_true_eq,Gl]
  rw [e2];exact this
section
variable {g h h':Hp} {L L' A B X:List (Nat×Blk)}
theorem Kn.app (K:Kn g h L) (l:h.le h') (n: ∀e∈X,h e.1=none) (f: ∀e∈X,h' e.1=some e.2) (nd:(X.map Prod.fst).Nodup):Kn g h' (L++X):=by
 refine⟨Hp.le_trans K.le l,fun e he=>?_,fun e he=>?_,?_⟩
 ·rcases List.mem_append.1 he with he|he
  ·exact l _ _ (K.mem e he)
  ·exact f e he
 ·rcases List.mem_append.1 he with he|he
  ·exact K.new e he
  ·exact aF K.le (n e he)
 ·rw [List.map_append,List.nodup_append]
  refine⟨K.nd,nd,fun a ha b hb hab=>?_⟩
  obtain⟨e,he,rfl⟩:=List.mem_map.1 ha
  obtain⟨e',he',rfl⟩:=List.mem_map.1 hb
  have h1:=K.mem e he
  have h2:=n e' he'
  rw [hab,h2]at h1;cases h1
theorem Kn.split (K:Kn g h (A++B)):Kn (h.wo (B.map Prod.fst)) h B/\Kn g (h.wo (B.map Prod.fst)) A:=by
 have nd:=K.nd
 rw [List.map_append,List.nodup_append]at nd
 refine⟨⟨vU _ _,fun e he=>K.mem e (List.mem_append_right _ he),fun e he=>eQ (List.mem_map.2 ⟨e,he,rfl⟩),nd.2.1⟩,?_,fun e he=>?_,fun e he=>K.new e (List.mem_append_left _ he),nd.1⟩
 ·exact rC K.le fun b hb=>by
   obtain⟨e,he,rfl⟩:=List.mem_map.1 hb
   exact K.new e (List.mem_append_right _ he)
 ·rw [rc]
  ·exact K.mem e (List.mem_append_left _ he)
  ·intro hb
   exact nd.2.2 _ (List.mem_map.2 ⟨e,he,rfl⟩) _ hb rfl
theorem Kn.off (K:Kn g h L) {b:Nat} {x y:Blk} (u:Upd L b x y L') (l:(h.off b).le h') (f:h' b=some y):Kn g h' L':=by
 refine⟨?_,fun e he=>?_,fun e he=>?_,by rw [u.keys];exact K.nd⟩
 ·exact Hp.le_trans (uO (K.new (b,x) u.mem) K.le) l
 ·rcases u.out K.nd e he with rfl|⟨h1,h2⟩
  ·exact f
  ·refine l _ _ ?_
   simp only [Hp.off,Hp.set];rw [if_neg h2];exact K.mem e h1
 ·rcases u.out K.nd e he with rfl|⟨h1,h2⟩
  ·exact K.new (b,x) u.mem
  ·exact K.new e h1
def pd (X:List (Nat×Blk)) (s:Sl) (sz:Nat) (cs:List Value):Prop:=
 cs.length=s.n*sz/\s.n<=9223372036854775807/\((s.n=0/\X= [])\/(s.n≠0/\ ∃b z,s.a=some ⟨b,0,none⟩/\X= [(b, .inl ⟨cs,z,false⟩)]))
theorem Kn.addOwn {s:Sl} {sz:Nat} {cs:List Value} (K:Kn g h L) (l:h.le h') (o:Own (h'.sub h) s sz cs): ∃X,pd X s sz cs/\Kn g h' (L++X):=by
 by_cases h0:s.n=0
 ·exact⟨[],⟨o.1,o.2.1, .inl ⟨h0,rfl⟩⟩,by rw [List.append_nil];exact K.mono l⟩
 ·obtain⟨b,z,ha,hb⟩:=o.2.2.resolve_left h0
  have hn:h b=none:=lP (by rw [hb];simp)
  refine⟨_,⟨o.1,o.2.1, .inr ⟨h0,b,z,ha,rfl⟩⟩,K.app l (fun e he=>?_) (fun e he=>?_) (by simp)⟩
  ·rw [List.mem_singleton.1 he];exact hn
  ·rw [List.mem_singleton.1 he];exact sub_le _ _ _ _ hb
theorem pd.own {s:Sl} {sz:Nat} {cs:List Value} (o:pd X s sz cs) (K:Kn g h (L++X)):Own h s sz cs:=by
 refine⟨o.1,o.2.1,?_⟩
 rcases o.2.2 with ⟨h0,_⟩|⟨_,b,z,ha,rfl⟩
 ·exact .inl h0
 ·exact .inr ⟨b,z,ha,K.at (by simp)⟩
end
theorem list9 {cs:List Value} (h:cs.length=9): ∃a b c d e f g i j,cs= [a,b,c,d,e,f,g,i,j]:=by
 match cs,h with
 | [a,b,c,d,e,f,g,i,j],_=>exact⟨a,b,c,d,e,f,g,i,j,rfl⟩
theorem list2 {cs:List Value} (h:cs.length=2): ∃a b,cs= [a,b]:=by
 match cs,h with
 | [a,b],_=>exact⟨a,b,rfl⟩
theorem Got.flat {P:Program} {W:World} {t e:TypeId} {v:Value} {α:Type} {f:α->List Value} {m:Nat} {p:α->Prop} (hf: ∀x,(f x).length=m) (hpos:0<m) (ht:P.underlying t=some (.slice e)) (hsz:P.cellsOf e=m)
  (hg: ∀ds,Got P W e ds-> ∃x,ds=f x/\p x) (g:Got P W t [v]): ∃(s:Sl) (l:List α),v=s.v/\s.n<=s.c/\SlC (hW W) s m (l.flatMap f)/\ ∀x∈l,p x:=by
 obtain⟨s,hs,hm,hlc,h⟩:=Got.slice ht hsz hpos g
 simp only [List.cons.injEq,and_true]at hs
 rcases h with h|⟨b,o,ha,h⟩
 ·exact⟨s, [],hs,hlc,⟨hm,by simp [h], .inl h⟩,by simp⟩
 obtain⟨xs,hl,hx⟩:=E3 (p:=fun i (x:α)=>(∀(j:Nat) v,(f x)[j]?=some v->Hp.cell (hW W) b (o+i*m+j)=some v)/\p x) s.n fun i hi=>by
  obtain⟨ds,hd,hgd,hc⟩:=h i hi
  obtain⟨x,rfl,hp⟩:=hg ds hgd
  exact⟨x,hc,hp⟩
 refine⟨s,xs,hs,hlc,⟨hm,by rw [iw hf,hl], .inr ⟨b,o,ha,?_⟩⟩,?_⟩
 ·intro i v hv
  have hi:i<(xs.flatMap f).length:=(List.getElem?_eq_some_iff.1 hv).1
  rw [iw hf]at hi
  have hq:i/m<xs.length:=by rw [Nat.div_lt_iff_lt_mul hpos];exact hi
  have hr:i%m<m:=Nat.mod_lt _ hpos
  have he:i=i/m*m+i%m:=by rw [Nat.mul_comm];exact(Nat.div_add_mod _ _).symm
  rw [he,wt hf xs (i/m) xs[i/m] (i%m) (List.getElem?_eq_getElem hq) hr]at hv
  have:=(hx (i/m) hq).1 _ _ hv
  rw [he,<-Nat.add_assoc];exact this
 ·intro x hxm
  obtain⟨i,hi,rfl⟩:=List.getElem_of_mem hxm
  exact(hx i hi).2
def tb (n:Nat) (T:Nat->Bool):List Value:=(List.range n).map fun i=> .bool (T i)
theorem gt (n:Nat) (T:Nat->Bool):(tb n T).length=n:=by simp [tb]
theorem oQ {n j:Nat} {T:Nat->Bool} (hj:j<n):(tb n T)[j]?=some (.bool (T j)):=by simp [tb,hj]
theorem YC {n:Nat} {T U:Nat->Bool} (h: ∀j,j<n->T j=U j):tb n T=tb n U:=by
 refine List.map_congr_left fun j hj=>?_
 rw [h j (List.mem_range.1 hj)]
theorem kc (n:Nat):List.replicate n (.bool false)=tb n fun _=>false:=by
 refine List.ext_getElem (by simp [tb]) fun i h1 h2=>?_
 simp [tb]
theorem k7 {n j:Nat} {T:Nat->Bool} {v:Bool}:(tb n T).set j (.bool v)=tb n fun i=>if i=j then v else T i:=by
 refine List.ext_getElem (by simp [tb]) fun i h1 h2=>?_
 rw [List.getElem_set]
 simp only [tb,List.getElem_map,List.getElem_range]
 by_cases e:i=j
 ·rw [if_pos e,if_pos e.symm]
 ·rw [if_neg e,if_neg fun h=>e h.symm]
theorem Ye (n:Nat) (T:Nat->Bool):tb n T=((List.range n).map T).map Value.bool:=by simp [tb]
theorem jS {h:Hp} {b n z:Nat} {ro:Bool} {T U:Nat->Bool} (hn:n<=9223372036854775807) (f:h b=some (.inl ⟨tb n T,z,ro⟩)) (e: ∀j,j<n->T j=U j):cY h (arr b n) n U:=by
 refine⟨by dsimp only;omega,by simp, .inr ⟨b,0,rfl,?_⟩⟩
 have:=ay f
 rwa [YC e,Ye]at this
theorem eO {σ:aC} (ok:σ.Ok):2^σ.n<=256:=by
 have:=Nat.pow_le_pow_right (n:=2) (by omega) ok.nle
 simpa using this
theorem Ch {σ:aC} (ok:σ.Ok):2^σ.k<=32:=by
 have:=Nat.pow_le_pow_right (n:=2) (by omega) ok.kle
 simpa using this
theorem qc {σ:aC} (ok:σ.Ok):2^(σ.n+σ.k)<=8192:=by
 have h1:=ok.nle
 have h2:=ok.kle
 have:=Nat.pow_le_pow_right (n:=2) (by omega) (show σ.n+σ.k<=13 by omega)
 simpa using this
theorem E6 {h:Hp} {b s i:Nat} {σ:aC} {R:Value->Hp->Prop} (hs:nE h b σ) (ok:σ.Ok) (h1:s<2^σ.n) (h2:i<2^σ.k) (k:R (I (σ.at_ s i:Nat)) h):
  gF #[.pointer (some ⟨b,0,none⟩),I s,I i] h R:=by
 apply BW
 refine uf_ ?_
 obtain⟨M,st,hold,bad,next,fx,_,_,_⟩:=hs
 have hn:=eO ok
 have hk:=qc ok
 have hl:=aC.at_lt h1 h2
 have h8:=ok.nle
 unfold aC.at_ at hl k
 refine dw ?_
 (refine az ?_)
 rw [if_neg (by omega),gW (by omega) (by omega),Au (by omega) (by omega)]
 refine qo ?_ k
 rw [<-Nat.shiftLeft_eq,<-Nat.shiftLeft_add_eq_or_of_lt h1,Nat.shiftLeft_eq]
theorem Km {h:Hp} {b c:Nat} {σ:aC} {R:Value->Hp->Prop} (hs:nE h b σ) (hc:c<2^(σ.n+σ.k)) (k:R (.bool (σ.hold c)) h):
  oe #[.pointer (some ⟨b,0,none⟩),I c] h R:=by
 apply wg
 refine uf_ ?_
 obtain⟨M,st,hold,bad,next,fx,hh,_,_⟩:=hs
 refine dw ?_
 (refine az ?_)
 obtain⟨b',o',ha,h1,h2⟩:=hh.get hc
 exact⟨b',o',ha,by omega,h1,_,h2,k⟩
theorem xR {h:Hp} {b c:Nat} {σ:aC} {R:Value->Hp->Prop} (hs:nE h b σ) (hc:c<2^(σ.n+σ.k)) (k:R (.bool (σ.ends c)) h):
  gV #[.pointer (some ⟨b,0,none⟩),I c] h R:=by
 apply zG
 refine uf_ ?_
 obtain⟨M,st,hold,bad,next,fx,hh,hb,_⟩:=hs
 refine dw ?_
 (refine az ?_)
 obtain⟨b',o',ha,h1,h2⟩:=hh.get hc
 refine⟨b',o',ha,by omega,h1,_,h2,?_⟩
 unfold aC.ends at k
 refine ac (fun e=>?_) (fun e=>?_)
 ·refine dw ?_
  (refine az ?_)
  obtain⟨b',o',ha,h1,h2⟩:=hb.get hc
  refine⟨b',o',ha,by omega,h1,_,h2,dj ?_ k⟩
  rw [e];rfl
 ·rw [e]at k;exact k
def Zx (h:Hp) (fid:FuncId) (u w:Array Value) (σ:aC) (f:Nat->Nat->Bool):Prop:=
 ∀s i:Nat,s<2^σ.n->i<2^σ.k-> ∀h':Hp,h.le h'-> ∀R:Value->Hp->Prop,R (.bool (f s (σ.at_ s i))) h'->ACalls PR fid ((u++ #[I s,I (σ.at_ s i:Nat)])++w) h' R
theorem ui {h:Hp} {b:Nat} {σ:aC} {fid:FuncId} {u w:Array Value} {f:Nat->Nat->Bool} {R:Value->Hp->Prop} (hs:nE h b σ) (ok:σ.Ok) (hf:Zx h fid u w σ f)
  (k: ∀t h',h.le h'->cY (h'.sub h) t (2^σ.n) (σ.some_ f)->R (Sl.v t) h'):ez #[.pointer (some ⟨b,0,none⟩), .func (.func fid) u w] h R:=by
 apply z7
 refine uf_ ?_
 have hn:=eO ok
 have hk:=Ch ok
 have h8:=ok.nle
 have h5:=ok.kle
 obtain⟨M,st,hold,bad,next,fx,_⟩:=id hs
 have K0:=Kn.nil h
 refine dw ?_
 (refine az ?_)
 rw [if_neg (by omega),bG (by omega)]
 refine⟨Int.natCast_nonneg _,Int.le_refl _,by omega,by omega,?_⟩
 (with_reducible apply Kn.al);(assumption);(intro b10 h1 K1 l1 hb10)
 rw [Int.toNat_natCast,Nat.mul_one,cj,kc]at K1
 rw [Int.toNat_natCast]
 refine av (2^σ.n) (fun s vs h'=>vs= [.pointer (some ⟨b,0,none⟩), .func (.func fid) u w,(arr b10 (2^σ.n)).v,I (2^σ.n:Nat),I s]/\
  ∃T,Kn h h' [(b10, .inl ⟨tb (2^σ.n) T,2^σ.n,false⟩)]/\(∀j,j<s->T j=σ.some_ f j)/\ ∀j,s<=j->T j=false) ⟨rfl,_,K1,fun j hj=>by omega,fun _ _=>rfl⟩ ?_
 clear K1 K0 l1 hb10 h1
 rintro s _ h1 next hs' ⟨rfl,T,K1,hT1,hT2⟩ hnx
 refine⟨_,_,_,_,arr b10 _,_,_,rfl,?_⟩
 by_cases hlt:s<2^σ.n
 rotate_left
 ·refine aD (by rw [decide_eq_false_iff_not];omega) ?_
  exact k _ h1 K1.le (jS (by omega) (by rw [lk (K1.new _ (.head _))];exact K1.at (.head _)) fun j hj=>hT1 j (by omega))
 refine aJ (by rw [decide_eq_true_eq];exact_mod_cast hlt) ?_
 refine dw ?_
 (refine kr_ ?_)
 rw [if_neg (by omega),bG (by omega)]
 refine av (2^σ.k) (fun i vs h'=>vs= [.pointer (some ⟨b,0,none⟩), .func (.func fid) u w,(arr b10 (2^σ.n)).v,I s,I (2^σ.n:Nat),I s,I (2^σ.k:Nat),I i]/\
  ∃T,Kn h h' [(b10, .inl ⟨tb (2^σ.n) T,2^σ.n,false⟩)]/\(∀j,j<s->T j=σ.some_ f j)/\(∀j,s<j->T j=false)/\T s=ng i fun x=>f s (σ.at_ s x))
  ⟨rfl,T,K1,hT1,fun j hj=>hT2 j (by omega),by rw [hT2 s (Nat.le_refl _)];rfl⟩ ?_
 clear K1 hT1 hT2 T h1
 rintro i _ h1 next2 hi ⟨rfl,T,K1,hT1,hT2,hT3⟩ hnx2
 refine⟨_,_,_,_,arr b10 _,_,_,_,_,_,rfl,?_⟩
 by_cases hli:i<2^σ.k
 rotate_left
 ·refine aD (by rw [decide_eq_false_iff_not];omega) ?_
  have hie:i=2^σ.k:=by omega
  rw [aA (by omega)]
  refine hnx hlt _ _ ⟨rfl,T,K1,fun j hj=>?_,fun j hj=>hT2 j (by omega)⟩
  by_cases e:j=s
  ·rw [e,hT3,hie];rfl
  ·exact hT1 j (by omega)
 refine aJ (by rw [decide_eq_true_eq];exact_mod_cast hli) ?_
 have upd: ∀v,v=ng (i+1) (fun x=>f s (σ.at_ s x))-> ∀h',Kn h h' [(b10, .inl ⟨(tb (2^σ.n) T).set s (.bool v),2^σ.n,false⟩)]->
   next2 [.pointer (some ⟨b,0,none⟩), .func (.func fid) u w,(arr b10 (2^σ.n)).v,I s,I (2^σ.n:Nat),I s,I (2^σ.k:Nat),I (W ((i:Int)+1))] h':=by
  intro v hv h' K
  rw [aA (by omega)]
  rw [k7]at K
  exact hnx2 hli _ _ ⟨rfl,_,K,fun j hj=>by rw [if_neg (by omega)];exact hT1 j hj,fun j hj=>by rw [if_neg (by omega)];exact hT2 j hj,by rw [if_pos rfl];exact hv⟩
 refine⟨b10,0,rfl,by omega,by dsimp only;omega,?_⟩
 refine Kn.rd K1 (.head _) (x:=T s) (by rw [Nat.zero_add,Nat.mul_one,Int.toNat_natCast];exact oQ hlt) ?_
 refine ac (fun e=>?_) (fun e=>?_)
 ·refine⟨b10,0,rfl,by omega,by dsimp only;omega,?_⟩
  (((with_reducible apply Kn.wr);(assumption);((focus ((repeat first|exact .head|apply Upd.tail);done)))))
  ·rw [gt];omega
  intro h2 K2 _
  rw [bO,Nat.zero_add,Int.toNat_natCast,Nat.mul_one]at K2
  exact upd true (by rw [Jp,<-hT3,e];rfl) h2 K2
 ·refine E6 (hs.mono K1.le) ok hlt hli ⟨_,rfl,?_⟩
  refine hf s i hlt hli h1 K1.le _ ⟨_,rfl,?_⟩
  refine⟨b10,0,rfl,by omega,by dsimp only;omega,?_⟩
  (((with_reducible apply Kn.wr);(assumption);((focus ((repeat first|exact .head|apply Upd.tail);done)))))
  ·rw [gt];omega
  intro h2 K2 _
  rw [bO,Nat.zero_add,Int.toNat_natCast,Nat.mul_one]at K2
  exact upd _ (by rw [Jp,<-hT3,e];rfl) h2 K2
end Go.Lead
