/- What functions of the program and of the reference come to, walked one by one, and plain laws about it: part 3. No condition is added to the statement. -/
import Derived.Test.YthfcbpocfmjefaaGreatZ1
namespace Go.Lead
open Go
set_option linter.unusedSimpArgs false
set_option linter.unusedVariables false
set_option maxRecDepth 100000
set_option maxHeartbeats 1000000
theorem Buf.slS {h h0:Hp} {s:Sl} {xs:List Int} (e:Buf (h.sub h0) s 1 (xs.map I)) (hn:s.n<=9223372036854775807):IntS h s xs:=(Buf.slc_of e hn).mono (sub_le _ _)
theorem gD.wid {h:Hp} {s:Sl} {l:List NodeP} (e:gD h s l) {p:Int} (h0:0<=p) (hp:p<l.length):
  ∃b o,s.a=some (Addr.mk b o none)/\p<(s.n:Int)/\Hp.cell h b ((o+p.toNat*9)+6+1)=some (I (ar l p).wid):=by
 obtain⟨n,hn1⟩: ∃n,l[p.toNat]?=some n:=⟨_,List.getElem?_eq_getElem (by omega)⟩
 obtain⟨ba,oa,ha1,_,_,_,_,_,_,c6,c7,_⟩:=e.at hn1
 refine⟨ba,oa,ha1,by have:=e.len;omega,?_⟩
 rw [tv hn1];exact c7
theorem RQ {h:Hp} {l:List NodeP} {i:Nat} {n:NodeP} {sn s:Sl} {v:List (List Nat)} {R:Value->Hp->Prop} (hl:l.length<=60) (hi:i<=l.length)
  (ht:iC l i n) (hv:Af l i v) (hvl:v.length=i) (hsn:gD h sn l) (hpv:gR h s v) (hk34: ¬n.kind=34) (hk35: ¬n.kind=35) (hk36: ¬n.kind=36)
  (k: ∀t h',h.le h'->IntS h' t (VL (bz l n v))->R (.agg #[Sl.v t]) h'):xr #[sn.v,wP n,s.v] h R:=by
 obtain⟨val,hnv⟩: ∃val,val=bz l n v:=⟨_,rfl⟩
 rw [<-hnv]at k
 unfold bz at hnv
 apply MW
 refine uf_ ?_
 have hk:=ht.kind
 have hp:0<ai n.kind:=by
  have:ai n.kind≠0:=by intro h0;revert h0;unfold ai;(repeat' split)<;>(intro h;omega)
  omega
 have pk:=ht.part
 have pf: ∀j:Nat,j<3->(j:Int)<ai n.kind->Fit (ar l (az n j)) (v.getD (az n j).toNat []):=fun j h1 h2=>hv.part ht hi h1 h2
 refine aj fun b13 h1 hb13 l1 f13=>?_
 refine aj fun b15 h2 hb15 l2 f15=>?_
 have n13:=fresh_ne hb15 f13
 have b15n:=aF l1 hb15
 replace f13:=l2 _ _ f13
 replace l2:=Hp.le_trans l1 l2
 (refine aD ?_)
 obtain⟨ba,oa,ta,ha,h1',hca,hta⟩:=(hpv.mono l2).at (pk 0 (by omega) (by omega)).1 (by have:=(pk 0 (by omega) (by omega)).2.1;omega)
 refine⟨ba,oa,ha,(pk 0 (by omega) (by omega)).1,h1',ta,hca,?_⟩
 refine aj fun b22 h3 hb22 l3 f22'=>?_
 have n22:=fresh_ne hb22 f13
 have n22':=fresh_ne hb22 f15
 have b22n:=aF l2 hb22
 (with_reducible apply cC);(exact f22');(exact l3);(exact hb22);(exact Nat.le_refl 1)
 intro h4 f22 kp l4
 replace f13:=l4 _ _ f13
 replace f15:=l4 _ _ f15
 have l0:=Hp.le_trans l2 l4
 replace hta:=hta.mono l4
 have f22v:h4 b22=some (.inl ⟨[ta.v],1,false⟩):=f22
 clear f22 f22' l1 l2 l3 l4 hb13 hb15 hb22 h1 h2 h3 hca kp
 have res: ∀(h5:Hp) (t:Sl),h.le h5->h5 b15=some (.inl ⟨[.slice none 0 0],1,false⟩)->IntS h5 t (VL val)->
   ∃(cs:List Value) (z:Nat),h5 b15=some (.inl ⟨cs,z,false⟩)/\0+1<=List.length cs/\cM (h5.row b15 (bX cs 0 [t.v]) z) fun h'=> ∃(s:Sl),Hp.cell h' b15 0=some s.v/\R (.agg #[s.v]) h':=by
  intro h5 t l5 g15 hval
  (with_reducible apply cC);(exact g15);(exact l5);(exact b15n);(exact Nat.le_refl 1)
  intro h6 g kp l6
  exact⟨t,by rw [ax g];rfl,k t h6 l6 (hval.keep g15 kp)⟩
 clear k
 have wres: ∀(x:Nat) (z:Int),z=x->val= [x]->lz #[I z] h4 fun v30 h31=> ∃(s32:Sl),v30=(.agg #[s32.v])/\(∃(cs33:List Value) (z34:Nat),h31 b15=some (.inl ⟨cs33,z34,false⟩)/\0+1<=List.length cs33/\cM (h31.row b15 (bX cs33 0 [s32.v]) z34) fun h35=> ∃(s36:Sl),Hp.cell h35 b15 0=some s36.v/\(R (.agg #[s36.v]) h35)):=by
  intro x z hz hx
  subst hz
  refine Mx fun t h5 l5 hval=>⟨t,rfl,res h5 t (Hp.le_trans l0 l5) (l5 _ _ f15) ?_⟩
  rw [hx];exact hval
 have cres: ∀(s0:Sl) (x:List Nat),IntS h4 s0 (VL x)->x.length<=4->val=x->eY #[.agg #[s0.v]] h4 fun v30 h31=> ∃(s32:Sl),v30=(.agg #[s32.v])/\(∃(cs33:List Value) (z34:Nat),h31 b15=some (.inl ⟨cs33,z34,false⟩)/\0+1<=List.length cs33/\cM (h31.row b15 (bX cs33 0 [s32.v]) z34) fun h35=> ∃(s36:Sl),Hp.cell h35 b15 0=some s36.v/\(R (.agg #[s36.v]) h35)):=by
  intro s0 x hs0 hx hval
  refine qq hs0 (by rw [aX];omega) fun t h5 l5 hb=>⟨t,rfl,res h5 t (Hp.le_trans l0 l5) (l5 _ _ f15) ?_⟩
  rw [hval];exact hb.slS (by have:=hb.1;rw [List.length_map,aX]at this;omega)
 have hpv4:=hpv.mono l0
 have vat: ∀j:Nat,j<3->(j:Int)<ai n.kind->_:=fun j h1 h2=>hpv4.at (pk j h1 h2).1 (by have:=(pk j h1 h2).2.1;omega)
 have hres:=ht.res hp
 have oa':=bD.1 (pk 0 (by omega) hp).2.2
 rw [if_neg hk34]at hnv
 have hkinds:=jw hp
 have len4: ∀j:Nat,j<3->(j:Int)<ai n.kind->(v.getD (az n j).toNat []).length<=4:=fun j h1 h2=>by
  have o:=bD.1 (pk j h1 h2).2.2
  rw [(pf j h1 h2).len]
  have:=Nat.pow_le_pow_right (n:=2) (by omega) (show (ar l (az n j)).idx.toNat<=2 by omega);simpa using this
 obtain⟨bw,ow,hwa,hwl,hwc⟩:=(hsn.mono l0).wid (pk 0 (by omega) (by omega)).1 (by have:=(pk 0 (by omega) (by omega)).2.1;omega)
 (refine aD ?_)
 refine⟨bw,ow,hwa,(pk 0 (by omega) (by omega)).1,hwl,_,hwc,?_⟩
 have ta0:=hta.elt (pf 0 (by omega) (by omega)).pos
 obtain⟨b0,o0,a0,e0,m0⟩:=ta0
 refine ap (fun J=> ∀x:Nat,val= [x]->J x h4) ?_ (fun J hJ=>?_)
 ·intro x hx;exact wres x x rfl hx
 (refine aD ?_)
 refine ad (fun e=>?_) (fun e33=>?_)
 ·have e:=bZ e
  have hp3:ai n.kind=3:=by omega
  rw [if_pos e]at hnv
  (refine aD ?_)
  refine⟨b0,o0,a0,by omega,by omega,_,e0,?_⟩
  refine ad (fun e=>?_) (fun e=>?_)
  ·(refine aD ?_)
   obtain⟨b,o,t,ha,h1,h2,h3'⟩:=vat 1 (by omega) (by omega)
   refine⟨b,o,ha,(pk 1 (by omega) (by omega)).1,h1,t,h2,cres t _ h3' (len4 1 (by omega) (by omega)) ?_⟩
   have:aK v n.a=1:=by have:=bZ e;unfold aK;simp only [az]at this;omega
   rw [hnv,if_pos this];rfl
  ·(refine aD ?_)
   obtain⟨b,o,t,ha,h1,h2,h3'⟩:=vat 2 (by omega) (by omega)
   refine⟨b,o,ha,(pk 2 (by omega) (by omega)).1,h1,t,h2,cres t _ h3' (len4 2 (by omega) (by omega)) ?_⟩
   have: ¬aK v n.a=1:=by have:=bA e;unfold aK;simp only [az]at this;omega
   rw [hnv,if_neg this];rfl
 replace e33:=bA e33
 rw [if_neg e33]at hnv
 (refine aD ?_)
 refine ad (fun e=>?_) (fun e37=>?_)
 ·have e:=bZ e
  have hp2:ai n.kind=2:=by omega
  obtain⟨r1,r2,r3⟩:=J6 e hres
  rw [if_neg (show¬n.kind=21 by omega),if_pos e]at hnv
  repeat' (refine aD ?_)
  obtain⟨b,o,t,ha,h1,h2,h3'⟩:=vat 1 (by omega) (by omega)
  obtain⟨b2,o2,ha2,hc2,hl2⟩:=h3'.elt (pf 1 (by omega) (by omega)).pos
  refine⟨b,o,ha,(pk 1 (by omega) (by omega)).1,h1,t,h2,b2,o2,ha2,by omega,by omega,_,hc2,?_⟩
  have fb:=(pf 1 (by omega) (by omega)).cell
  have fa:=(pf 0 (by omega) (by omega)).len
  simp only [az]at fb fa hta
  rw [r2]at fb
  have hlt:aK v n.b<(v.getD n.a.toNat []).length:=by rw [fa];exact fb
  obtain⟨b3,o3,ha3,hc3,hl3⟩:=hta.elt hlt
  refine⟨b3,o3,ha3,by omega,by show (aK v n.b:Int)<_;omega,_,hc3,?_⟩
  exact wres _ _ rfl hnv
 replace e37:=bA e37
 (refine aD ?_)
 refine ad (fun e=>?_) (fun e38=>?_)
 ·have e:=bZ e
  have hp3:ai n.kind=3:=by omega
  obtain⟨r1,r2,r3,r4⟩:=JS e hres
  rw [if_neg (show¬n.kind=21 by omega),if_neg e37,if_pos e]at hnv
  repeat' (refine aD ?_)
  have fb:=(pf 1 (by omega) (by omega)).cell
  have fa:=(pf 0 (by omega) (by omega)).len
  have hle4:=len4 0 (by omega) (by omega)
  simp only [az]at fb fa hta hle4
  rw [r2]at fb
  have hlt:aK v n.b<(v.getD n.a.toNat []).length:=by rw [fa];exact fb
  refine qq hta (by rw [aX];omega) fun c h5 l5 hb5=>⟨c,rfl,?_⟩
  have hcn:c.n=(v.getD n.a.toNat []).length:=by have:=hb5.1;rw [List.length_map,aX]at this;omega
  obtain⟨bc,hca,hcrow⟩: ∃bc,c.a=some ⟨bc,0,none⟩/\(h5.sub h4) bc=some (.inl ⟨(VL (v.getD n.a.toNat [])).map I,c.c*1,false⟩):=by
   rcases hb5.2.2 with ⟨_,h0,_⟩|h0
   ·omega
   ·exact h0
  have hc5:h5 bc=some (.inl ⟨(VL (v.getD n.a.toNat [])).map I,c.c*1,false⟩):=sub_le _ _ _ _ hcrow
  have hc3:h4 bc=none:=by
   cases hx:h4 bc with
   |none=>rfl
   |some x=>rw [mP hx]at hcrow;cases hcrow
  have g13:=l5 _ _ f13
  have g15:=l5 _ _ f15
  refine aj fun b24 h6 hb24 l6 f24'=>?_
  have m13:=fresh_ne hb24 g13
  have m15:=fresh_ne hb24 g15
  have mc:=fresh_ne hb24 hc5
  have hb24n:=aF l5 hb24
  (with_reducible apply cC);(exact f24');(exact Hp.le_trans l5 l6);(exact hb24n);(exact Nat.le_refl 1)
  intro h7 f24 kp l7
  replace g13:=cB kp m13 (l6 _ _ g13)
  replace g15:=cB kp m15 (l6 _ _ g15)
  have gc:=cB kp mc (l6 _ _ hc5)
  have hpv7:=hpv4.mono l7
  refine⟨c,by rw [ax f24];rfl,?_⟩
  (refine aD ?_)
  obtain⟨b,o,t,ha,h1,h2,h3'⟩:=hpv7.at (pk 1 (by omega) (by omega)).1 (by have:=(pk 1 (by omega) (by omega)).2.1;omega)
  obtain⟨b2,o2,ha2,hc2,hl2⟩:=h3'.elt (pf 1 (by omega) (by omega)).pos
  refine⟨b,o,ha,(pk 1 (by omega) (by omega)).1,h1,t,h2,b2,o2,ha2,by omega,by omega,_,hc2,?_⟩
  (refine aD ?_)
  obtain⟨b',o',t',ha',h1',h2',h3''⟩:=hpv7.at (pk 2 (by omega) (by omega)).1 (by have:=(pk 2 (by omega) (by omega)).2.1;omega)
  obtain⟨b2',o2',ha2',hc2',hl2'⟩:=h3''.elt (pf 2 (by omega) (by omega)).pos
  refine⟨b',o',ha',(pk 2 (by omega) (by omega)).1,h1',t',h2',b2',o2',ha2',by omega,by omega,_,hc2',?_⟩
  refine⟨bc,0,hca,by omega,by show (aK v n.b:Int)<_;omega,?_⟩
  (with_reducible apply cC);(exact gc);(exact l7);(exact hc3);(rw [List.length_map,aX];show 0+Int.toNat (aK v n.b:Int)*1+1<=_;omega)
  intro h8 gc' kp8 l8
  have n24:b24≠bc:=fun e=>mc e.symm
  have n15c:b15≠bc:=fun e=>by subst e;rw [hc3]at f15;cases f15
  replace f24:=cB kp8 n24 f24
  refine⟨c,by rw [ax f24];rfl,?_⟩
  refine res h8 c (Hp.le_trans l0 l8) (cB kp8 n15c g15) ?_
  have hcells:bX ((VL (v.getD n.a.toNat [])).map I) (0+Int.toNat (aK v n.b:Int)*1) [I (aK v n.c)]=(VL val).map I:=by
   rw [hnv,bG,Int.toNat_natCast,Nat.mul_one,Nat.zero_add]
   simp [VL,List.map_set]
  have gc2:h8 bc=some (.inl ⟨bX ((VL (v.getD n.a.toNat [])).map I) (0+Int.toNat (aK v n.b:Int)*1) [I (aK v n.c)],c.c*1,false⟩):=gc'
  rw [hcells]at gc2
  refine⟨by omega,by simp [aX,hnv,hcn], .inr ⟨bc,0,hca,aw gc2⟩⟩
 replace e38:=bA e38
 (refine aD ?_)
 refine ad (fun e=>?_) (fun e21=>?_)
 ·have e:=bZ e
  have hp2:ai n.kind=2:=by omega
  obtain⟨r1,_⟩:=OL e hres
  rw [if_pos e]at hnv
  repeat' (refine aD ?_)
  obtain⟨b',o',t',ha',h1',h2',h3''⟩:=vat 1 (by omega) (by omega)
  refine⟨b',o',ha',(pk 1 (by omega) (by omega)).1,h1',t',h2',?_⟩
  have hl4:=len4 0 (by omega) (by omega)
  have fl:=(pf 0 (by omega) (by omega)).len
  have fl':=(pf 1 (by omega) (by omega)).len
  simp only [az]at fl fl'
  rw [<-r1]at fl'
  refine AC hta h3'' (by rw [aX];omega) (by rw [aX,aX];simp only [az];omega) ⟨_,rfl,vU ⟨_,rfl,?_⟩⟩
  refine wres _ _ ?_ hnv
  simp only [az,Gx]
  split<;>simp_all
 replace e21:=bA e21
 rw [if_neg e21,if_neg e37,if_neg e38]at hnv
 simp only [az]at oa'
 have word0: ∀wn:Nat,(ar l n.a).wid=wn->WO wn (aK v n.a):=fun wn hw=>by
  have:=(pf 0 (by omega) (by omega)).cell
  simp only [az]at this
  rw [hw]at this
  exact⟨by omega,this⟩
 obtain⟨wa,hwa'⟩: ∃wn:Nat,(ar l n.a).wid=wn:=⟨(ar l n.a).wid.toNat,by omega⟩
 have hwo:=word0 wa hwa'
 have h16:=hwo.pow
 have hlta:=hwo.2
 rw [hwa',Int.toNat_natCast]at hnv
 have e0':Hp.cell h4 b0 (o0+0*1)=some (I (aK v n.a)):=e0
 have hsw:(ar l (az n 0)).wid=(wa:Int):=hwa'
 rw [hsw]
 (refine aD ?_)
 refine ad (fun e=>?_) (fun e29=>?_)
 ·have e:=bZ e
  have hp2:ai n.kind=2:=by omega
  obtain⟨r1,r2,r3,r4⟩:=Pj e hres
  rw [if_pos e]at hnv
  have ob:=bD.1 (pk 1 (by omega) (by omega)).2.2
  simp only [az]at ob
  obtain⟨wb,hwb⟩: ∃wn:Nat,(ar l n.b).wid=wn:=⟨(ar l n.b).wid.toNat,by omega⟩
  have hltb:=(pf 1 (by omega) (by omega)).cell
  simp only [az]at hltb
  rw [hwb,Int.toNat_natCast]at hltb
  rw [hwb,Int.toNat_natCast]at hnv
  obtain⟨bw2,ow2,hwa2,hwl2,hwc2⟩:=(hsn.mono l0).wid (pk 1 (by omega) (by omega)).1 (by have:=(pk 1 (by omega) (by omega)).2.1;omega)
  simp only [az]at hwc2
  rw [hwb]at hwc2
  (refine aD ?_)
  refine⟨b0,o0,a0,by omega,by omega,_,e0',?_⟩
  (refine aD ?_)
  refine⟨bw2,ow2,hwa2,(pk 1 (by omega) (by omega)).1,hwl2,_,hwc2,?_⟩
  (refine aD ?_)
  obtain⟨b',o',t',ha',h1',h2',h3''⟩:=vat 1 (by omega) (by omega)
  obtain⟨b2',o2',ha2',hc2',hl2'⟩:=h3''.elt (pf 1 (by omega) (by omega)).pos
  refine⟨b',o',ha',(pk 1 (by omega) (by omega)).1,h1',t',h2',b2',o2',ha2',by omega,by omega,_,hc2',?_⟩
  exact Na hwo ⟨by omega,hltb⟩ (by omega) ⟨_,_,_,rfl,hJ _ hnv⟩
 replace e29:=bA e29
 rw [if_neg e29]at hnv
 (refine aD ?_)
 refine ad (fun e=>?_) (fun e30=>?_)
 ·have e:=bZ e
  obtain⟨r1,r2,r3⟩:=G5 e hres
  rw [if_pos e]at hnv
  obtain⟨lo,hlo⟩: ∃z:Nat,n.m=z:=⟨n.m.toNat,by omega⟩
  obtain⟨hh,hhh⟩: ∃z:Nat,n.n=z:=⟨n.n.toNat,by omega⟩
  (refine aD ?_)
  refine⟨b0,o0,a0,by omega,by omega,_,e0',?_⟩
  repeat' (refine aD ?_)
  rw [hlo,hhh]
  refine Me hwo (by omega) (by omega) ⟨_,_,_,rfl,hJ _ ?_⟩
  rw [hnv,hlo,hhh]
  unfold Lr
  rw [Int.toNat_natCast,show ((hh:Int)-(lo:Int)+1).toNat=hh-lo+1 by omega]
 replace e30:=bA e30
 rw [if_neg e30]at hnv
 refine ap (fun J=>J (decide (n.kind=31\/n.kind=32))) ?_ (fun J2 hJ2=>?_)
 rotate_left
 ·clear res wres cres vat hJ
  repeat' (first|(with_reducible first|refine aM (b:=true) rfl ?_|refine aC (b:=false) rfl ?_|refine ad (fun _=>?_) fun _=>?_)|(refine aD ?_)|(refine gO ?_ hJ2))
  all_goals (clear hJ2;rw [Bool.eq_iff_iff];simp_all)
 refine ad (fun e=>?_) (fun e31=>?_)
 ·have e:=of_decide_eq_true e
  obtain⟨r1,r2,r3⟩:=EE e hres
  rw [if_pos e]at hnv
  obtain⟨mo,hmo⟩: ∃z:Nat,n.n=z:=⟨n.n.toNat,by omega⟩
  (refine aD ?_)
  refine⟨b0,o0,a0,by omega,by omega,_,e0',?_⟩
  repeat' (refine aD ?_)
  rw [hmo]
  refine NX hwo (by omega) ⟨_,_,_,rfl,hJ _ ?_⟩
  rw [hnv,hmo,Int.toNat_natCast];rfl
 replace e31:=of_decide_eq_false e31
 rw [if_neg e31]at hnv
 (refine aD ?_)
 refine lD ⟨_,rfl,ad (fun e=>?_) (fun e1=>?_)⟩
 ·have e:=bZ e
  rw [if_pos e]at hnv
  repeat' (refine aD ?_)
  refine⟨b0,o0,a0,by omega,by omega,_,e0',?_⟩
  exact Ei (by omega) hwo ⟨_,_,_,rfl,hJ _ hnv⟩
 ·replace e1:=bA e1
  rw [if_neg e1]at hnv
  have hp2:ai n.kind=2:=by omega
  obtain⟨r1,r2,r3⟩:=Rn (by omega) hres
  have hltb:=(pf 1 (by omega) (by omega)).cell
  simp only [az]at hltb
  rw [<-r2,hwa',Int.toNat_natCast]at hltb
  repeat' (refine aD ?_)
  refine⟨b0,o0,a0,by omega,by omega,_,e0',?_⟩
  (refine aD ?_)
  obtain⟨b',o',t',ha',h1',h2',h3''⟩:=vat 1 (by omega) (by omega)
  obtain⟨b2',o2',ha2',hc2',hl2'⟩:=h3''.elt (pf 1 (by omega) (by omega)).pos
  refine⟨b',o',ha',(pk 1 (by omega) (by omega)).1,h1',t',h2',b2',o2',ha2',by omega,by omega,_,hc2',?_⟩
  exact E4 (by omega) hwo ⟨hwo.1,hltb⟩ ⟨_,_,_,rfl,hJ _ hnv⟩
theorem xR (ts:List Sl):xV (ts.map Sl.v):=by
 have:=yA ts 0
 simpa using this
theorem IntS.offL {h:Hp} {s t:Sl} {xs:List Int} {ts:List Sl} (e:IntS h t xs) (hb:Buf h s 1 (ts.map Sl.v)):IntS (h.offS s) t xs:=by
 rcases hb.2.2 with ⟨ha,_,_⟩|⟨b,ha,hbb⟩
 ·unfold Hp.offS;rw [ha];exact e
 ·have ho:h.offS s=h.off b:=by unfold Hp.offS;rw [ha]
  rw [ho]
  refine e.keepN hbb (xR ts) fun c hc=>?_
  simp only [Hp.off,Hp.set];rw [if_neg hc]
theorem Buf.pval {h:Hp} {s:Sl} {ts:List Sl} {vs:List (List Nat)} (e:Buf h s 1 (ts.map Sl.v)) (hlen:ts.length=vs.length) (hn:s.n<=1048576) (ht: ∀(j:Nat) (t:Sl),ts[j]?=some t->IntS h t (VL (vs.getD j []))):gR h s vs:=by
 have hl:=e.1
 simp at hl
 refine⟨by omega,hn,fun p hp=>?_⟩
 rcases e.2.2 with ⟨_,h0,_⟩|⟨b,ha,hbb⟩
 ·omega
 ·refine⟨b,0,ts[p]'(by omega),ha,?_,ht p _ (List.getElem?_eq_getElem (by omega))⟩
  rw [ax hbb,Nat.zero_add,Nat.mul_one,List.getElem?_map,List.getElem?_eq_getElem (by omega)];rfl
def ae9 (h:Hp) (s:Sl):Prop:= ∀b o,s.a=some (Addr.mk b o none)->h b=none
theorem pZ {h:Hp} {M:MSl} {m:ah} {sS sI:Sl} {st inp:List (List Nat)} {R:Value->Hp->Prop} (hs:aO h M m) (hm:bT m) (hok:bQ m.nodes=true) (hl:m.nodes.length<=60)
  (h1:IntSS h sS (st.map VL)) (f1:k8 m.nodes 36 st) (h2:IntSS h sI (inp.map VL)) (f2:k8 m.nodes 35 inp)
  (k: ∀t h',h.le h'->t.n=m.nodes.length->gR h' t (du m.nodes st inp m.nodes.length)->ae9 h t->R (Sl.v t) h'):dq #[aQ M,sS.v,sI.v] h R:=by
 apply QD
 refine uf_ ?_
 have hn:=hs.nodes.len
 have hsn:sS.n=st.length:=by obtain⟨ts,e1,e2,_⟩:=h1;have:=e2.2.1;simp at this e1;omega
 have hin:sI.n=inp.length:=by obtain⟨ts,e1,e2,_⟩:=h2;have:=e2.2.1;simp at this e1;omega
 refine aj fun b9 h3 hb9 l3 f9=>?_
 refine au m.nodes.length (fun i vs h'=> ∃(ts:List Sl) (out:Sl),vs= [sS.v,sI.v, .pointer (some ⟨b9,0,none⟩),out.v,I (av (m.nodes.take i) 36).length,I (av (m.nodes.take i) 35).length,I i]/\
  h.le (h'.offS out)/\(h'.offS out) b9=some (.inl ⟨aH M,5,false⟩)/\out.n=i/\ts.length=i/\Buf h' out 1 (ts.map Sl.v)/\
  (∀(j:Nat) (t:Sl),ts[j]?=some t->IntS (h'.offS out) t (VL ((du m.nodes st inp i).getD j []))))
  ⟨[],⟨none,0,0⟩,rfl,l3,f9,rfl,rfl,fG _ _,fun j t ht=>by simp at ht⟩ ?_
 clear f9 l3 hb9 h3
 rintro i _ h3 next hi ⟨ts,out,rfl,l3,f9,hon,htl,hbuf,hts⟩ hnx
 have lo:=aW h3 out
 have f9':=lo _ _ f9
 have l3':=Hp.le_trans l3 lo
 refine⟨sS,sI,_,_,out,_,_,_,rfl,?_⟩
 (refine aD ?_)
 by_cases hlt:i<m.nodes.length
 rotate_left
 ·have hie:i=m.nodes.length:=by omega
  subst hie
  refine aC (by simp;omega) (k out h3 l3' hon ?_ fun b o hb=>?_)
  ·exact hbuf.pval (by rw [dE];omega) (by omega) fun j t ht=>(hts j t ht).mono lo
  ·cases hx:h b with
   |none=>rfl
   |some x=>have:=l3 _ _ hx;simp [Hp.offS,hb,Hp.off,Hp.set]at this
 refine aM (by simp;omega) ?_
 obtain⟨n,hni⟩: ∃n,m.nodes[i]?=some n:=⟨_,List.getElem?_eq_getElem hlt⟩
 obtain⟨b,o,ha,e0,e1,e2,e3,e4,e5,e6,e7,e8⟩:=(hs.nodes.mono l3').at hni
 (refine aD ?_)
 refine⟨b,o,ha,by omega,by omega,_,e0,_,e1,_,e2,_,e3,_,e4,_,e5,_,e6,_,e7,_,e8,?_⟩
 refine aj fun b44 h4 hb44 l4 f44'=>?_
 (with_reducible apply cC);(exact f44');(exact l4);(exact hb44);(exact Nat.le_refl 9)
 intro h5 f44 kp l5
 clear f44' kp l4
 refine aj fun b50 h6 hb50 l6 f50'=>?_
 have n44:=fresh_ne hb50 f44
 have b50n:=aF l5 hb50
 replace f44:=l6 _ _ f44
 (with_reducible apply cC);(exact f50');(exact Hp.le_trans l5 l6);(exact b50n);(exact Nat.le_refl 1)
 intro h7 f50 kp l7
 replace f44:=cB kp n44 f44
 have f50v:h7 b50=some (.inl ⟨[.slice none 0 0],1,false⟩):=f50
 have f9'':=l7 _ _ f9'
 clear f50 f50' kp l5 l6 hb44 hb50 h4 h5 h6
 have l07:=Hp.le_trans l3' l7
 have hnext36:=wN (kind:=36) hni
 have hnext35:=wN (kind:=35) hni
 have hev:=jI (s:=st) (inp:=inp) hni
 have hb36:(av (m.nodes.take i) 36).length<=i:=by
  unfold av
  refine Nat.le_trans (List.length_filter_le _ _) ?_
  rw [List.length_range,List.length_take];omega
 have hb35:(av (m.nodes.take i) 35).length<=i:=by
  unfold av
  refine Nat.le_trans (List.length_filter_le _ _) ?_
  rw [List.length_range,List.length_take];omega
 (refine aD ?_)
 refine ap (fun J=> ∀(t:Sl) (x:List Nat) (h8:Hp),h3.le h8->h8 b50=some (.inl ⟨[t.v],1,false⟩)->IntS h8 t (VL x)->du m.nodes st inp (i+1)=du m.nodes st inp i++ [x]->
  J ((av (m.nodes.take (i+1)) 36).length:Nat) ((av (m.nodes.take (i+1)) 35).length:Nat) h8) ?_ (fun J hJ=>?_)
 ·intro t x h8 l8 g50 hval hev'
  (refine aD ?_)
  refine aj fun b113 h9 hb113 l9 f113=>?_
  have l39:=Hp.le_trans l8 l9
  have l39o:=bC out l39
  refine dG (hbuf.mono l39) (by omega) (by omega) (by omega) ⟨b113,0,rfl,aw f113⟩ (by simp) rfl ?_
  intro s' h10 hs'n hbuf' l10 _
  rw [ay (by omega)]
  have l310:=Hp.le_trans l39o l10
  have hbuf'':Buf h10 s' 1 ((ts++ [t]).map Sl.v):=by rw [List.map_append];exact hbuf'
  refine hnx hlt _ _ ⟨ts++ [t],s',rfl,Hp.le_trans l3 l310,l310 _ _ f9,by omega,by simp;omega,hbuf'',fun j u hu=>?_⟩
  by_cases hj:j<i
  ·rw [List.getElem?_append_left (by omega)]at hu
   rw [hev',ia (by rw [dE];omega)]
   exact(hts j u hu).mono l310
  ·have hju:=get_lt hu
   simp at hju
   have hje:j=i:=by omega
   subst hje
   rw [List.getElem?_append_right (by omega),htl,Nat.sub_self]at hu
   simp at hu;subst hu
   rw [hev',List.getD_eq_getElem?_getD,List.getElem?_append_right (by rw [dE];omega),dE,Nat.sub_self]
   exact((hval.mono l9).offL (hbuf.mono l39)).mono l10
 have put: ∀(h8:Hp) (t:Sl) (x:List Nat) (P:Hp->Prop),h7.le h8->IntS h8 t (VL x)->(∀h9,h3.le h9->h9 b50=some (.inl ⟨[t.v],1,false⟩)->IntS h9 t (VL x)->P h9)->
   ∃(cs:List Value) (z:Nat),h8 b50=some (.inl ⟨cs,z,false⟩)/\0+1<=List.length cs/\cM (h8.row b50 (bX cs 0 [t.v]) z) fun h'=>P h':=by
  intro h8 t x P l8 hval hP
  have g50:=l8 _ _ f50v
  (with_reducible apply cC);(exact g50);(exact Hp.le_trans l7 l8);(exact b50n);(exact Nat.le_refl 1)
  intro h9 g kp l9
  exact hP h9 l9 g (hval.keep g50 kp)
 have hpv7:gR h7 out (du m.nodes st inp i):=(hbuf.pval (by rw [dE];omega) (by omega) fun j t ht=>(hts j t ht).mono lo).mono l7
 have hfit:=ye hok f1 f2 i (Nat.le_of_lt hlt)
 have htyp:=fO hok hni
 refine ad (fun e=>?_) (fun e34=>?_)
 ·have e:=bZ e
  rw [if_neg (by omega)]at hnext36 hnext35
  rw [if_neg (by omega),if_neg (by omega)]at hev
  obtain⟨c1,c2⟩:=htyp.const e
  have:=ig.1 c2
  have hx:bz m.nodes n (du m.nodes st inp i)= [n.n.toNat]:=by unfold bz;rw [if_pos e]
  (refine aD ?_)
  refine Mx fun t h8 l8 hval=>⟨t,rfl,put h8 t [n.n.toNat] _ l8 ?_ fun h9 l9 g50 hv9=>?_⟩
  ·have:VL [n.n.toNat]= [n.n]:=by simp [VL];omega
   rw [this];exact hval
  ·have:=hJ t _ h9 l9 g50 hv9 (by rw [hev,hx])
   rw [hnext36,hnext35,Nat.add_zero,Nat.add_zero]at this;exact this
 replace e34:=bA e34
 refine ad (fun e=>?_) (fun e36=>?_)
 ·have e:=bZ e
  rw [if_pos e]at hnext36 hev
  rw [if_neg (by omega)]at hnext35
  have hlt36:=Cb hni e
  have hfk:=f1.2 _ _ (qp hni e)
  have hfs:ar m.nodes ((i:Nat):Int)=n.sort:=by unfold ar;rw [Int.toNat_natCast,hni]
  rw [hfs]at hfk
  rw [<-f1.1]at hlt36
  obtain⟨bs,os,t,ha,hc,ht⟩:=(h1.mono l07).at (i:=(av (m.nodes.take i) 36).length) (by simpa using hlt36)
  have hst:(st.map VL)[(av (m.nodes.take i) 36).length]'(by simpa using hlt36)=VL (st.getD (av (m.nodes.take i) 36).length []):=by
   rw [List.getElem_map,List.getD_eq_getElem?_getD,List.getElem?_eq_getElem hlt36];rfl
  rw [hst]at ht
  have hso:=bD.1 htyp.sort
  have hlen4:(st.getD (av (m.nodes.take i) 36).length []).length<=4:=by
   rw [hfk.len];have:=Nat.pow_le_pow_right (n:=2) (by omega) (show n.sort.idx.toNat<=2 by omega);simpa using this
  refine⟨bs,os,ha,by omega,by omega,t,by rw [Int.toNat_natCast,Nat.mul_one];exact hc,?_⟩
  refine qq ht (by rw [aX];omega) fun c h8 l8 hb8=>⟨c,rfl,put h8 c _ _ l8 (hb8.slS (by have:=hb8.1;rw [List.length_map,aX]at this;omega)) fun h9 l9 g50 hv9=>?_⟩
  have:=hJ c _ h9 l9 g50 hv9 hev
  rw [hnext36,hnext35,Nat.add_zero]at this
  rw [ay (by omega)];exact this
 replace e36:=bA e36
 rw [if_neg e36]at hnext36 hev
 refine ad (fun e=>?_) (fun e35=>?_)
 ·have e:=bZ e
  rw [if_pos e]at hnext35 hev
  have hlt35:=Cb hni e
  have hfk:=f2.2 _ _ (qp hni e)
  have hfs:ar m.nodes ((i:Nat):Int)=n.sort:=by unfold ar;rw [Int.toNat_natCast,hni]
  rw [hfs]at hfk
  rw [<-f2.1]at hlt35
  obtain⟨bs,os,t,ha,hc,ht⟩:=(h2.mono l07).at (i:=(av (m.nodes.take i) 35).length) (by simpa using hlt35)
  have hst:(inp.map VL)[(av (m.nodes.take i) 35).length]'(by simpa using hlt35)=VL (inp.getD (av (m.nodes.take i) 35).length []):=by
   rw [List.getElem_map,List.getD_eq_getElem?_getD,List.getElem?_eq_getElem hlt35];rfl
  rw [hst]at ht
  have hso:=bD.1 htyp.sort
  have hlen4:(inp.getD (av (m.nodes.take i) 35).length []).length<=4:=by
   rw [hfk.len];have:=Nat.pow_le_pow_right (n:=2) (by omega) (show n.sort.idx.toNat<=2 by omega);simpa using this
  refine⟨bs,os,ha,by omega,by omega,t,by rw [Int.toNat_natCast,Nat.mul_one];exact hc,?_⟩
  refine qq ht (by rw [aX];omega) fun c h8 l8 hb8=>⟨c,rfl,put h8 c _ _ l8 (hb8.slS (by have:=hb8.1;rw [List.length_map,aX]at this;omega)) fun h9 l9 g50 hv9=>?_⟩
  have:=hJ c _ h9 l9 g50 hv9 hev
  rw [hnext36,hnext35,Nat.add_zero]at this
  rw [ay (by omega)];exact this
 replace e35:=bA e35
 rw [if_neg e35]at hnext35 hev
 repeat' (refine aD ?_)
 refine RQ (n:=n) hl (Nat.le_of_lt hlt) htyp hfit (dE _ _ _ _) (hs.nodes.mono l07) hpv7 e34 e35 e36 fun t h8 l8 hval=>⟨t,rfl,put h8 t _ _ l8 hval fun h9 l9 g50 hv9=>?_⟩
 have:=hJ t _ h9 l9 g50 hv9 hev
 rw [hnext36,hnext35,Nat.add_zero,Nat.add_zero]at this;exact this
theorem Dq {l:List NodeP} {kind:Int} {p:Nat} (h:p∈av l kind): ∃n,l[p]?=some n/\n.kind=kind:=by
 unfold av at h
 rw [List.mem_filter,List.mem_range]at h
 cases hn:l[p]? with
 |none=>rw [hn]at h;exact absurd h.2 Bool.false_ne_true
 |some n=>rw [hn]at h;exact⟨n,rfl,by simpa using h.2⟩
theorem wX (l:List NodeP) (hok:bQ l=true) (kind:Int):cH l (av l kind)=ak l kind:=by
 have key: ∀i,i<=l.length->cH l (av (l.take i) kind)=ak (l.take i) kind:=by
  intro i
  induction i with
  |zero=>intro _;simp [av,cH,ak]
  |succ i ih=>
   intro hi
   obtain⟨n,hn⟩: ∃n,l[i]?=some n:=⟨_,List.getElem?_eq_getElem (by omega)⟩
   rw [ja hn,GN kind hn,<-ih (by omega)]
   have hs:=bD.1 (fO hok hn).sort
   have hsa:ar l ((i:Nat):Int)=n.sort:=by unfold ar;rw [Int.toNat_natCast,hn]
   by_cases hk:n.kind=kind
   ·rw [if_pos hk,if_pos hk]
    unfold cH
    rw [List.map_append,List.sum_append]
    simp only [List.map_cons,List.map_nil,List.sum_cons,List.sum_nil,Nat.add_zero]
    unfold bK aE dT
    rw [hsa,Nat.mul_comm]
   ·rw [if_neg hk,if_neg hk,List.append_nil,Nat.add_zero]
 have:=key l.length (Nat.le_refl _)
 rwa [List.take_of_length_le (Nat.le_refl _)]at this
theorem LO {l:List NodeP} (hok:bQ l=true) (kind:Int) (code:Nat):k8 l kind (dM l (av l kind) code):=by
 refine⟨ka _ _ _,fun k p hp=>?_⟩
 rw [EI hp]
 obtain⟨n,hn,_⟩:=Dq (List.mem_of_getElem? hp)
 have hsa:ar l ((p:Nat):Int)=n.sort:=by unfold ar;rw [Int.toNat_natCast,hn]
 have hso:=(fO hok hn).sort
 refine⟨?_,fun x hx=>Wg hx⟩
 rw [tm]
 unfold aE dg
 rw [hsa,if_pos hso]
theorem yw (a b:List Nat):VL (a++b)=VL a++VL b:=by simp [VL]
theorem lR {h:Hp} {M:MSl} {m:ah} {kind:Int} {R:Value->Hp->Prop} (hs:aO h M m) (hm:bT m)
  (k: ∀t h',h.le (h'.offS t)->t.n<=m.nodes.length->Buf h' t 1 ((VL (av m.nodes kind)).map I)->R (Sl.v t) h'):aY #[aQ M,I kind] h R:=by
 apply CK
 refine uf_ ?_
 have hn:=hs.nodes.len
 have hns:=hm.nodes
 refine aj fun b8 h1 hb8 l1 f8=>?_
 (refine aD ?_)
 refine au m.nodes.length (fun i vs h'=> ∃out:Sl,vs= [I kind,out.v,M.no.v,I M.no.n,I i]/\h.le (h'.offS out)/\out.n<=i/\Buf h' out 1 ((VL (av (m.nodes.take i) kind)).map I)) ⟨⟨none,0,0⟩,rfl,l1,Nat.le_refl _,by simp [av,VL];exact fG _ _⟩ ?_
 clear l1 f8 hb8 h1
 rintro i _ h1 next hi ⟨out,rfl,l1,hon,hbuf⟩ hnx
 have lo:=aW h1 out
 have l1':=Hp.le_trans l1 lo
 refine⟨_,out,M.no,_,_,rfl,?_⟩
 by_cases hlt:i<m.nodes.length
 ·refine aM (by simp;omega) ?_
  obtain⟨n,hni⟩: ∃n,m.nodes[i]?=some n:=⟨_,List.getElem?_eq_getElem hlt⟩
  obtain⟨b,o,ha,e0,e1,e2,e3,e4,e5,e6,e7,e8⟩:=(hs.nodes.mono l1').at hni
  refine⟨b,o,ha,by omega,by omega,_,e0,_,e1,_,e2,_,e3,_,e4,_,e5,_,e6,_,e7,_,e8,?_⟩
  refine aj fun b36 h2 hb36 l2 f36=>?_
  (with_reducible apply cC);(exact f36);(exact l2);(exact hb36);(exact Nat.le_refl 9)
  intro h3 f36' kp l3
  have hpre:=ja (kind:=kind) hni
  have l3o:=bC out l3
  (refine aD ?_)
  rw [ay (by omega)]
  refine ad (fun e=>?_) (fun e=>?_)
  ·rw [if_pos (bZ e)]at hpre
   refine aj fun b44 h4 hb44 l4 f44=>?_
   have l4o:=bC out l4
   refine dG (hbuf.mono (Hp.le_trans l3 l4)) (by omega) (by omega) (by omega) ⟨b44,0,rfl,aw f44⟩ (by simp) rfl ?_
   intro s' h5 hs'n hbuf' l5 _
   refine hnx hlt _ _ ⟨s',rfl,Hp.le_trans l1 (Hp.le_trans l3o (Hp.le_trans l4o l5)),by omega,?_⟩
   rw [hpre,yw,List.map_append];exact hbuf'
  ·rw [if_neg (bA e),List.append_nil]at hpre
   refine hnx hlt _ _ ⟨out,rfl,Hp.le_trans l1 l3o,by omega,?_⟩
   rw [hpre];exact hbuf.mono l3
 ·refine aC (by simp;omega) (k out h1 l1 (by omega) ?_)
  rw [List.take_of_length_le (by omega)]at hbuf
  exact hbuf
theorem dj {h:Hp} {M:MSl} {m:ah} {kind:Int} {R:Value->Hp->Prop} (hs:aO h M m) (hm:bT m)
  (k: ∀t h',h.le h'->IntS h' t (VL (av m.nodes kind))->R (Sl.v t) h'):aY #[aQ M,I kind] h R:=
 lR hs hm fun t h' l hn hb=>k t h' (Hp.le_trans l (aW _ _)) (hb.slc_of (by have:=hm.nodes;omega))
theorem cJ {h:Hp} {M:MSl} {m:ah} {kind:Int} {R:Value->Hp->Prop} (hs:aO h M m) (hm:bT m)
  (k: ∀t h',h.le h'->IntS h' t (VL (av m.nodes kind))->R (Sl.v t) h'):aU #[aQ M,I kind] h R:=by
 apply Il
 refine uf_ ?_
 have hn:=hs.nodes.len
 have hns:=hm.nodes
 refine aj fun b8 h1 hb8 l1 f8=>?_
 refine au m.nodes.length (fun i vs h'=> ∃out:Sl,vs= [I kind, .pointer (some ⟨b8,0,none⟩),out.v,I i]/\h.le (h'.offS out)/\(h'.offS out) b8=some (.inl ⟨aH M,5,false⟩)/\out.n<=i/\Buf h' out 1 ((VL (av (m.nodes.take i) kind)).map I)) ⟨⟨none,0,0⟩,rfl,l1,f8,Nat.le_refl _,by simp [av,VL];exact fG _ _⟩ ?_
 clear l1 f8 hb8 h1
 rintro i _ h1 next hi ⟨out,rfl,l1,f8,hon,hbuf⟩ hnx
 have lo:=aW h1 out
 have l1':=Hp.le_trans l1 lo
 have f8':=lo _ _ f8
 refine⟨_,_,_,out,_,rfl,?_⟩
 (refine aD ?_)
 by_cases hlt:i<m.nodes.length
 ·refine aM (by simp;omega) ?_
  obtain⟨n,hni⟩: ∃n,m.nodes[i]?=some n:=⟨_,List.getElem?_eq_getElem hlt⟩
  obtain⟨b,o,ha,e0,_⟩:=(hs.nodes.mono l1').at hni
  have hpre:=ja (kind:=kind) hni
  (refine aD ?_)
  refine⟨b,o,ha,by omega,by omega,_,e0,?_⟩
  rw [ay (by omega)]
  refine ad (fun e=>?_) (fun e=>?_)
  ·rw [if_pos (bZ e)]at hpre
   refine aj fun b44 h4 hb44 l4 f44=>?_
   have l4o:=bC out l4
   refine dG (hbuf.mono l4) (by omega) (by omega) (by omega) ⟨b44,0,rfl,aw f44⟩ (by simp) rfl ?_
   intro s' h5 hs'n hbuf' l5 _
   have l15:=Hp.le_trans l4o l5
   refine hnx hlt _ _ ⟨s',rfl,Hp.le_trans l1 l15,l15 _ _ f8,by omega,?_⟩
   rw [hpre,yw,List.map_append];exact hbuf'
  ·rw [if_neg (bA e),List.append_nil]at hpre
   refine hnx hlt _ _ ⟨out,rfl,l1,f8,by omega,?_⟩
   rw [hpre];exact hbuf
 ·refine aC (by simp;omega) (k out h1 l1' ?_)
  rw [List.take_of_length_le (by omega)]at hbuf
  exact hbuf.slc_of (by omega)
structure rF (h0 h:Hp) (out:Sl) (ts:List Sl) (vs:List (List Nat)):Prop where
 len:ts.length=vs.length
 row: ∀(i:Nat) (t:Sl),ts[i]?=some t-> ∃b,t=⟨some ⟨b,0,none⟩,(vs.getD i []).length,(vs.getD i []).length⟩/\h0 b=none/\
  (h.offS out) b=some (.inl ⟨(VL (vs.getD i [])).map I,(vs.getD i []).length,false⟩)
 dis: ∀(i j:Nat) (t u:Sl),ts[i]?=some t->ts[j]?=some u->t.a=u.a->i=j
 buf:Buf h out 1 (ts.map Sl.v)
 le:h0.le (h.offS out)
theorem rF.ints {h0 h:Hp} {out:Sl} {ts:List Sl} {vs:List (List Nat)} (e:rF h0 h out ts vs) (hl: ∀v∈vs,v.length<=1048576) (hn:out.n<=1048576):IntSS h out (vs.map VL):=by
 refine⟨ts,by rw [List.length_map];exact e.len,e.buf.slc_of (by omega),fun i h1 h2=>?_⟩
 obtain⟨b,ht,_,hr⟩:=e.row i _ (List.getElem?_eq_getElem h1)
 have hi:i<vs.length:=by rw [List.length_map]at h2;exact h2
 have hv:(vs.map VL)[i]=VL (vs.getD i []):=by
  rw [List.getElem_map,List.getD_eq_getElem?_getD,List.getElem?_eq_getElem hi];rfl
 have hvl:(vs.getD i []).length<=1048576:=by
  rw [List.getD_eq_getElem?_getD,List.getElem?_eq_getElem hi];exact hl _ (List.getElem_mem hi)
 rw [ht,hv]
 refine⟨by dsimp only;omega,by simp [aX], .inr ⟨b,0,rfl,aw (aW _ _ _ _ hr)⟩⟩
def ct (l:List NodeP) (ps:List Nat):List (List Nat):=ps.map fun p=>List.replicate (aE l p) 0
theorem dk (l:List NodeP) (p:Nat):aE l p<=4:=zW _
theorem ir {ps:List Nat} {i p:Nat} (h:ps[i]?=some p):(VL ps)[i]?=some ((p:Nat):Int):=by simp [VL,h]
theorem gD.sortc {h:Hp} {s:Sl} {l:List NodeP} (e:gD h s l) {p:Nat} (hp:p<l.length):
  ∃b o,s.a=some (Addr.mk b o none)/\(p:Int)<(s.n:Int)/\Hp.cell h b ((o+Int.toNat (p:Int)*9)+6)=some (I (ar l p).idx)/\Hp.cell h b ((o+Int.toNat (p:Int)*9)+6+1)=some (I (ar l p).wid):=by
 obtain⟨n,hn1⟩: ∃n,l[p]?=some n:=⟨_,List.getElem?_eq_getElem hp⟩
 obtain⟨ba,oa,ha1,_,_,_,_,_,_,c6,c7,_⟩:=e.at hn1
 have hsa:ar l ((p:Nat):Int)=n.sort:=by unfold ar;rw [Int.toNat_natCast,hn1]
 refine⟨ba,oa,ha1,by have:=e.len;omega,?_⟩
 rw [hsa];exact⟨c6,c7⟩
theorem mV {h:Hp} {M:MSl} {m:ah} {s:Sl} {ps:List Nat} {R:Value->Hp->Prop} (hs:aO h M m) (hm:bT m) (hp:IntS h s (VL ps)) (hps: ∀p∈ps,p<m.nodes.length) (hpl:ps.length<=1048576)
  (k: ∀out ts h',rF h h' out ts (ct m.nodes ps)->out.n=ps.length->R (Sl.v out) h'):dW #[aQ M,s.v] h R:=by
 apply Dh
 refine uf_ ?_
 have hn:=hs.nodes.len
 have hns:=hm.nodes
 have hsn:=hp.len
 rw [aX]at hsn
 refine aj fun b8 h1 hb8 l1 f8=>?_
 refine au ps.length (fun i vs h'=> ∃(out:Sl) (ts:List Sl),vs= [.pointer (some ⟨b8,0,none⟩),out.v,s.v,I s.n,I i]/\rF h h' out ts (ct m.nodes (ps.take i))/\out.n=i/\(h'.offS out) b8=some (.inl ⟨aH M,5,false⟩))
  ⟨⟨none,0,0⟩, [],rfl,⟨rfl,fun i t ht=>by simp at ht,fun i j t u ht=>by simp at ht,fG _ _,l1⟩,rfl,f8⟩ ?_
 clear l1 f8 hb8 h1
 rintro i _ h1 next hi ⟨out,ts,rfl,hC,hon,f8⟩ hnx
 have lo:=aW h1 out
 have l1:=Hp.le_trans hC.le lo
 have f8':=lo _ _ f8
 refine⟨_,_,out,s,_,_,rfl,?_⟩
 by_cases hlt:i<ps.length
 ·refine aM (by simp;omega) ?_
  obtain⟨p,hpi⟩: ∃p,ps[i]?=some p:=⟨_,List.getElem?_eq_getElem hlt⟩
  have hpm:=hps p (List.mem_of_getElem? hpi)
  obtain⟨b,o,ha,hc⟩:=(hp.mono l1).get (ir hpi)
  refine⟨b,o,ha,by omega,by omega,_,hc,?_⟩
  (refine aD ?_)
  obtain⟨bn,on,han,hpn,c6,c7⟩:=(hs.nodes.mono l1).sortc hpm
  refine⟨bn,on,han,by omega,hpn,_,c6,_,c7,?_⟩
  refine oU ⟨_,rfl,?_⟩
  have hce:dg ⟨(ar m.nodes p).idx,(ar m.nodes p).wid⟩=aE m.nodes p:=rfl
  rw [hce]
  have hc4:=dk m.nodes p
  refine⟨by omega,by omega,by omega,by omega,?_⟩
  refine aj fun b38 h2 hb38 l2 f38=>?_
  refine aj fun b40 h3 hb40 l3 f40=>?_
  have l13:=Hp.le_trans l2 l3
  have l13o:=bC out l13
  replace f38:=l3 _ _ f38
  rw [Int.toNat_natCast,Nat.mul_one,cE]at f38
  rw [Int.toNat_natCast]at f40
  have hno: ∀a,out.a=some a->a.block≠b38:=by
   intro a ha' e
   rcases hC.buf.2.2 with ⟨h0,_⟩|⟨c,hc',hcb⟩
   ·rw [h0]at ha';cases ha'
   ·rw [hc']at ha';cases ha'
    subst e
    rw [hb38]at hcb;cases hcb
  have f38o:(h3.offS out) b38=some (.inl ⟨List.replicate (aE m.nodes p) (I 0),aE m.nodes p,false⟩):=by rw [zu hno];exact f38
  refine dG (hC.buf.mono l13) (by omega) (by omega) (by omega) ⟨b40,0,rfl,aw f40⟩ (by simp) rfl ?_
  intro s' h4 hs'n hbuf' l4 _
  have l14:=Hp.le_trans l13o l4
  rw [ay (by omega)]
  have hvs:ct m.nodes (ps.take (i+1))=ct m.nodes (ps.take i)++ [List.replicate (aE m.nodes p) 0]:=by
   unfold ct
   rw [List.take_succ_eq_append_getElem hlt,List.map_append]
   rw [List.getElem?_eq_getElem hlt]at hpi
   rw [Option.some.inj hpi];rfl
  have hlen:=hC.len
  have hzl:(ct m.nodes (ps.take i)).length=i:=by unfold ct;simp;omega
  have b38h:h b38=none:=aF l1 hb38
  refine hnx hlt _ _ ⟨s',ts++ [⟨some ⟨b38,0,none⟩,aE m.nodes p,aE m.nodes p⟩],rfl,⟨?_,fun j t ht=>?_,fun j j' t u ht hu hau=>?_,by rw [List.map_append];exact hbuf',Hp.le_trans hC.le l14⟩,by omega,l14 _ _ f8⟩
  ·rw [hvs,List.length_append,List.length_append,hlen];rfl
  ·by_cases hj:j<i
   ·rw [List.getElem?_append_left (by omega)]at ht
    obtain⟨b',e1,e2,e3⟩:=hC.row j t ht
    rw [hvs,ia (by omega)]
    exact⟨b',e1,e2,l14 _ _ e3⟩
   ·have hju:=get_lt ht
    simp at hju
    have hje:j=i:=by omega
    subst hje
    rw [List.getElem?_append_right (by omega),show j-ts.length=0 by omega]at ht
    simp at ht;subst ht
    rw [hvs,List.getD_eq_getElem?_getD,List.getElem?_append_right (by omega),hzl,Nat.sub_self]
    refine⟨b38,by simp,b38h,?_⟩
    have:=l4 _ _ f38o
    simpa [VL] using this
  ·have hb: ∀(q:Nat) (z:Sl),ts[q]?=some z->z.a≠some ⟨b38,0,none⟩:=by
    intro q z hz he
    obtain⟨b',e1,e2,e3⟩:=hC.row q z hz
    rw [e1]at he
    have hbb:b'=b38:=by simpa using he
    subst hbb
    have:=lo _ _ e3
    rw [hb38]at this;cases this
   by_cases hj:j<i
   ·rw [List.getElem?_append_left (by omega)]at ht
    by_cases hj':j'<i
    ·rw [List.getElem?_append_left (by omega)]at hu
     exact hC.dis j j' t u ht hu hau
    ·have hju:=get_lt hu
     simp at hju
     rw [List.getElem?_append_right (by omega),show j'-ts.length=0 by omega]at hu
     simp at hu;subst hu
     exact absurd hau (hb j t ht)
   ·have hjt:=get_lt ht
    simp at hjt
    by_cases hj':j'<i
    ·rw [List.getElem?_append_left (by omega)]at hu
     rw [List.getElem?_append_right (by omega),show j-ts.length=0 by omega]at ht
     simp at ht;subst ht
     exact absurd hau.symm (hb j' u hu)
    ·have hju:=get_lt hu
     simp at hju
     omega
 ·have hie:i=ps.length:=by omega
  subst hie
  rw [List.take_of_length_le (Nat.le_refl _)]at hC
  exact aC (by simp;omega) (k out ts h1 hC hon)
structure cr (m:ah):Prop where
 nl:m.nodes.length<=60
 il:m.inits.length<=60
 xl:m.nexts.length<=60
 bl:m.bads.length<=4
 hl:m.holds.length<=4
 ok:bQ m.nodes=true
 twice:wh m=false
 ini: ∀b∈m.inits,jo m.nodes b=true
 nex: ∀b∈m.nexts,gm m.nodes b=true
 bad: ∀p∈m.bads,da m.nodes p=true
 hol: ∀p∈m.holds,da m.nodes p=true
 n8:ak m.nodes 36<=8
 k5:ak m.nodes 35<=5
theorem lQ {c:Prop} [Decidable c] {x y:Int} (hx:x≠0) (h:(if c then x else y)=0): ¬c/\y=0:=by
 split at h
 ·exact absurd h hx
 ·rename_i hc;exact⟨hc,h⟩
theorem cD {m:ah} (h:aG m=0):cr m:=by
 unfold aG at h
 obtain⟨h1,h⟩:=lQ (by decide) h
 obtain⟨h2,h⟩:=lQ (by decide) h
 obtain⟨h3,h⟩:=lQ (by decide) h
 obtain⟨h4,h⟩:=lQ (by decide) h
 obtain⟨h5,h⟩:=lQ (by decide) h
 obtain⟨h6,h⟩:=lQ (by decide) h
 simp only [Bool.not_eq_false,Bool.and_eq_true,List.all_eq_true,Bool.not_eq_true]at h2 h3 h4 h5
 exact⟨by omega,by omega,by omega,by omega,by omega,h2,h3,h4.1,h4.2,h5.1,h5.2,by omega,by omega⟩
theorem cr.small {m:ah} (g:cr m): ∀n∈m.nodes,n.name.size<=8:=by
 intro n hn
 obtain⟨i,hi,e⟩:=List.getElem_of_mem hn
 have hf:=fU g.ok (i:=i) (n:=n) (by rw [List.getElem?_eq_getElem hi,e])
 unfold fR at hf
 simp only [Bool.and_eq_true]at hf
 have hf':=hf.1.1.2
 split at hf'
 ·unfold gE at hf'
  simp only [Bool.and_eq_true,decide_eq_true_eq]at hf';omega
 ·simp only [decide_eq_true_eq]at hf';omega
theorem sR {l:List NodeP} (hok:bQ l=true) {p:Nat} (hp:p<l.length):bW (ar l p)=true:=by
 have hn:l[p]?=some l[p]:=List.getElem?_eq_getElem hp
 have:ar l ((p:Nat):Int)=l[p].sort:=by unfold ar;rw [Int.toNat_natCast,hn]
 rw [this];exact(fO hok hn).sort
theorem qo {l:List NodeP} (hok:bQ l=true) {p:Nat} (hp:p<l.length) {v:List Nat} (h:Fit (ar l p) v):v.length=aE l p/\ ∀x∈v,x<2^bK l p:=by
 refine⟨?_,h.lt⟩
 unfold aE dg
 rw [if_pos (sR hok hp),h.len]
theorem YG {l:List NodeP} (hok:bQ l=true) {p:Nat} (hp:p<l.length) {v:List Nat} (h:v.length=aE l p/\ ∀x∈v,x<2^bK l p):Fit (ar l p) v:=by
 refine⟨?_,h.2⟩
 have:=h.1
 unfold aE dg at this
 rwa [if_pos (sR hok hp)]at this
theorem lv {l:List NodeP} {kind:Int} {p:Nat} (h:p∈av l kind):p<l.length:=by
 obtain⟨n,hn,_⟩:=Dq h
 exact get_lt hn
theorem pN {l:List NodeP} (hok:bQ l=true) {kind:Int} {vs:List (List Nat)} (h:jT l (av l kind) vs):k8 l kind vs:=by
 refine⟨j5 h,fun k p hp=>?_⟩
 exact YG hok (lv (List.mem_of_getElem? hp)) (lU h hp)
def wW (m:ah) (s i:List (List Nat)):List (List Nat):=du m.nodes s i m.nodes.length
abbrev stP (m:ah):List Nat:=av m.nodes 36
abbrev inP (m:ah):List Nat:=av m.nodes 35
def bL (m:ah) (s i:Nat):List (List Nat):=wW m (dM m.nodes (stP m) s) (dM m.nodes (inP m) i)
def iG (m:ah) (v:List (List Nat)):Bool:=m.holds.all fun p=>decide (aK v p=1)
def t7 (m:ah) (v:List (List Nat)):Option Nat:=m.bads.findIdx? fun p=>decide (aK v p=1)
def xB (m:ah) (v:List (List Nat)):Int:=match t7 m v with|some d=>d|none=> -1
def gt (m:ah) (v:List (List Nat)) (p:Nat):Option (List Nat):=(bO m.nexts p).map fun k=>v.getD k []
def eg (m:ah) (v:List (List Nat)):List (List Nat):=mE m.nodes (gt m v) (stP m)
def kK (c:Nat) (v:List Nat):List Nat:=v++List.replicate (c-v.length) (v.getD 0 0)
def kE (m:ah):List (List Nat):=wW m (ct m.nodes (stP m)) (ct m.nodes (inP m))
def dZ (m:ah) (p:Nat):Option (List Nat):=(bO m.inits p).map fun k=>kK (aE m.nodes p) ((kE m).getD k [])
def fN (m:ah):List (List Nat):=mE m.nodes (dZ m) (stP m)
def UW (m:ah) (binds:List BindP):Nat:=ij m.nodes (fun p=>(bO binds p).isSome) (stP m)
def aZ (m:ah):aL where
 n:=ak m.nodes 36
 k:=ak m.nodes 35
 hold c:=iG m (bL m (c%2^ak m.nodes 36) (c/2^ak m.nodes 36))
 bad c:=(t7 m (bL m (c%2^ak m.nodes 36) (c/2^ak m.nodes 36))).isSome
 next c:=dX m.nodes (stP m) (eg m (bL m (c%2^ak m.nodes 36) (c/2^ak m.nodes 36)))
 fixed:=UW m m.nexts
 bfix:=UW m m.inits
 bas:=dX m.nodes (stP m) (fN m)
theorem dV {binds:List BindP} {p k:Nat} (h:bO binds p=some k): ∃b∈binds,b.state=(p:Int)/\b.node.toNat=k:=by
 unfold bO at h
 rw [Option.map_eq_some_iff]at h
 obtain⟨b,hb,hk⟩:=h
 exact⟨b,List.mem_of_find?_eq_some hb,by simpa using List.find?_some hb,hk⟩
theorem Vb {binds:List BindP} {p:Nat} (h:bO binds p=none): ∀b∈binds,b.state≠(p:Int):=by
 unfold bO at h
 rw [Option.map_eq_none_iff,List.find?_eq_none]at h
 intro b hb e
 have:=h b hb
 simp [e]at this
theorem dn {l:List NodeP} {b:BindP} (h:gm l b=true):cT l b.state=true/\cT l b.node=true/\gu l b.state=36/\ar l b.state=ar l b.node:=by
 unfold gm at h
 simp only [Bool.and_eq_true,decide_eq_true_eq]at h
 exact⟨h.1.1.1,h.1.1.2,h.1.2,h.2⟩
theorem eO {l:List NodeP} {b:BindP} (h:jo l b=true):cT l b.state=true/\cT l b.node=true/\gu l b.state=36/\(ar l b.state=ar l b.node\/ar l b.node=cR (ar l b.state).wid)/\(dR l l.length).getD b.node.toNat false=false:=by
 unfold jo at h
 simp only [Bool.and_eq_true,Bool.or_eq_true,decide_eq_true_eq,Bool.not_eq_true']at h
 exact⟨h.1.1.1,h.1.1.2,h.1.2,h.2.1,h.2.2⟩
theorem ey {l:List NodeP} {p:Int}:cT l p=true↔0<=p/\p<l.length:=by
 unfold cT;rw [decide_eq_true_eq];omega
theorem B8 {m:ah} (g:cr m) (s i:Nat):Af m.nodes m.nodes.length (bL m s i):=
 ye g.ok (LO g.ok 36 s) (LO g.ok 35 i) _ (Nat.le_refl _)
theorem ew (l:List NodeP) (ps:List Nat):jT l ps (ct l ps):=by
 induction ps with
 |nil=>rfl
 |cons p ps ih=>
  refine⟨_,_,rfl,by simp,fun x hx=>?_,ih⟩
  simp at hx
  rw [hx.2];exact bP _
theorem RI {m:ah} (g:cr m) {s i:List (List Nat)} (hs:jT m.nodes (stP m) s) (hi:jT m.nodes (inP m) i):Af m.nodes m.nodes.length (wW m s i):=
 ye g.ok (pN g.ok hs) (pN g.ok hi) _ (Nat.le_refl _)
theorem N7 (m:ah) (s i:List (List Nat)):(wW m s i).length=m.nodes.length:=dE _ _ _ _
theorem yB {m:ah} (g:cr m) {v:List (List Nat)} (hv:Af m.nodes m.nodes.length v) {p:Nat} {x:List Nat} (h:gt m v p=some x):x.length=aE m.nodes p/\ ∀y∈x,y<2^bK m.nodes p:=by
 unfold gt at h
 rw [Option.map_eq_some_iff]at h
 obtain⟨k,hk,rfl⟩:=h
 obtain⟨b,hb,hs,rfl⟩:=dV hk
 obtain⟨h1,h2,h3,h4⟩:=dn (g.nex b hb)
 have h2':=ey.1 h2
 have h1':=ey.1 h1
 have hn:((b.node.toNat:Nat):Int)=b.node:=by omega
 have:=hv b.node.toNat (by omega) (by omega)
 rw [hn,<-h4,hs]at this
 exact qo g.ok (by omega) this
theorem uU {m:ah} (g:cr m) {p:Nat} {x:List Nat} (h:dZ m p=some x):x.length=aE m.nodes p/\ ∀y∈x,y<2^bK m.nodes p:=by
 unfold dZ at h
 rw [Option.map_eq_some_iff]at h
 obtain⟨k,hk,rfl⟩:=h
 obtain⟨b,hb,hs,rfl⟩:=dV hk
 obtain⟨h1,h2,h3,h4,_⟩:=eO (g.ini b hb)
 have h2':=ey.1 h2
 have h1':=ey.1 h1
 have hn:((b.node.toNat:Nat):Int)=b.node:=by omega
 have hv:=RI g (ew m.nodes (stP m)) (ew m.nodes (inP m)) b.node.toNat (by omega) (by omega)
 have hf:=qo g.ok (show b.node.toNat<m.nodes.length by omega) hv
 rw [hn]at hv
 have hwid:bK m.nodes b.node.toNat=bK m.nodes p/\aE m.nodes b.node.toNat<=aE m.nodes p:=by
  unfold bK aE
  rw [hn,<-hs]
  rcases h4 with h4|h4
  ·rw [h4];exact⟨rfl,Nat.le_refl _⟩
  ·rw [h4]
   refine⟨rfl,?_⟩
   have ho:bW (ar m.nodes b.state)=true:=by rw [hs];exact sR g.ok (by omega)
   have ho2:bW (cR (ar m.nodes b.state).wid)=true:=by
    have:=bD.1 ho
    exact bD.2 ⟨by simp [cR],by simp only [cR];omega⟩
   unfold dg
   rw [if_pos ho,if_pos ho2]
   exact bP _
 refine⟨?_,fun y hy=>?_⟩
 ·unfold kK
  rw [List.length_append,List.length_replicate]
  have:=hf.1;show ((kE m).getD b.node.toNat []).length+(aE m.nodes p-((kE m).getD b.node.toNat []).length)=_
  unfold kE;omega
 ·unfold kK at hy
  rw [List.mem_append,List.mem_replicate]at hy
  rw [<-hwid.1]
  rcases hy with hy|⟨_,rfl⟩
  ·exact hf.2 y hy
  ·exact hv.get_lt hv.pos|>fun h=>by
    have e:bK m.nodes b.node.toNat=(ar m.nodes b.node).wid.toNat:=by unfold bK;rw [hn]
    rw [e];exact h
theorem jH {m:ah} (g:cr m) {v:List (List Nat)} (hv:Af m.nodes m.nodes.length v):jT m.nodes (stP m) (eg m v):=FW fun p _ x hx=>yB g hv hx
theorem rV {m:ah} (g:cr m):jT m.nodes (stP m) (fN m):=FW fun p _ x hx=>uU g hx
theorem Ld (m:ah) (v:List (List Nat)):(fun p=>(gt m v p).isSome)=fun p=>(bO m.nexts p).isSome:=by funext p;unfold gt;simp
theorem ME (m:ah):(fun p=>(dZ m p).isSome)=fun p=>(bO m.inits p).isSome:=by funext p;unfold dZ;simp
theorem eM {m:ah} (g:cr m):cH m.nodes (stP m)=ak m.nodes 36:=wX _ g.ok 36
theorem xf {m:ah} (g:cr m):cH m.nodes (inP m)=ak m.nodes 35:=wX _ g.ok 35
theorem yS {m:ah} (g:cr m):(aZ m).Ok where
 nle:=g.n8
 kle:=g.k5
 fixed:=by have:=Bn m.nodes (fun p=>(bO m.nexts p).isSome) (stP m);rwa [eM g]at this
 bfix:=by have:=Bn m.nodes (fun p=>(bO m.inits p).isSome) (stP m);rwa [eM g]at this
 next c _:=by have:=yz (jH g (B8 g (c%2^ak m.nodes 36) (c/2^ak m.nodes 36)));rwa [eM g]at this
 held c _:=by
  have:=S5 (l:=m.nodes) (f:=gt m (bL m (c%2^ak m.nodes 36) (c/2^ak m.nodes 36))) (ps:=stP m) fun p _ x hx=>yB g (B8 g _ _) hx
  rw [Ld]at this
  exact this
 bas:=by have:=yz (rV g);rwa [eM g]at this
 bheld:=by
  have:=S5 (l:=m.nodes) (f:=dZ m) (ps:=stP m) fun p _ x hx=>uU g hx
  rw [ME]at this
  exact this
theorem vD {m:ah} (g:cr m) (s:Nat):(aZ m).begins s=true↔ ∀(i p:Nat),(stP m)[i]?=some p-> ∀v,dZ m p=some v->(dM m.nodes (stP m) s).getD i []=v:=by
 have:=Gt (l:=m.nodes) (f:=dZ m) (ps:=stP m) s fun p _ x hx=>uU g hx
 rw [ME]at this
 rw [jN,<-this]
 unfold aL.begins
 rw [decide_eq_true_eq];rfl
theorem yh {m:ah} (g:cr m) {s i:Nat} (hs:s<2^ak m.nodes 36) (t:Nat):(aZ m).goes ((aZ m).at_ s i) t=true↔ ∀(j p:Nat),(stP m)[j]?=some p-> ∀v,gt m (bL m s i) p=some v->(dM m.nodes (stP m) t).getD j []=v:=by
 have:=Gt (l:=m.nodes) (f:=gt m (bL m s i)) (ps:=stP m) t fun p _ x hx=>yB g (B8 g _ _) hx
 rw [Ld]at this
 rw [jN,<-this]
 unfold aL.goes
 rw [decide_eq_true_eq]
 have e1:(aZ m).at_ s i%2^ak m.nodes 36=s:=aL.at_mod (σ:=aZ m) hs
 have e2:(aZ m).at_ s i/2^ak m.nodes 36=i:=aL.at_div (σ:=aZ m) hs
 show _=dX m.nodes (stP m) (eg m (bL m ((aZ m).at_ s i%2^ak m.nodes 36) ((aZ m).at_ s i/2^ak m.nodes 36)))↔_
 rw [e1,e2];rfl
theorem G0 {binds:List BindP} (h:gQ (binds.map (·.state))=false) {j:Nat} {b:BindP} (hb:binds[j]?=some b): ∀x∈binds.take j,x.state≠b.state:=by
 intro x hx e
 have:gQ (binds.map (·.state))=true:=yf.2 ⟨j,b.state,by simp [hb],by
  rw [<-List.map_take,<-e];exact List.mem_map.2 ⟨x,hx,rfl⟩⟩
 rw [h]at this;cases this
theorem LU {binds:List BindP} (h:gQ (binds.map (·.state))=false) {j:Nat} {b:BindP} (hb:binds[j]?=some b) (p:Nat):
  bO (binds.take (j+1)) p=if b.state=(p:Int)then some b.node.toNat else bO (binds.take j) p:=by
 have hlt:=get_lt hb
 have hg:binds[j]=b:=by rw [List.getElem?_eq_getElem hlt]at hb;exact Option.some.inj hb
 unfold bO
 rw [List.take_succ_eq_append_getElem hlt,List.find?_append,hg]
 by_cases e:b.state=(p:Int)
 ·rw [if_pos e]
  have hn:(binds.take j).find? (fun b=>decide (b.state=(p:Int)))=none:=by
   rw [List.find?_eq_none]
   intro x hx
   have:=G0 h hb x hx
   simp;omega
  rw [hn];simp [e]
 ·rw [if_neg e]
  have:([b]:List BindP).find? (fun b=>decide (b.state=(p:Int)))=none:=by simp [e]
  rw [this,Option.or_none]
theorem j6 {m:ah} (h:wh m=false):fK m.nodes=false/\gQ (m.inits.map (·.state))=false/\gQ (m.nexts.map (·.state))=false:=by
 rw [GS]at h
 simp only [Bool.or_eq_false_iff]at h
 exact h
theorem rF.blk {h0 h:Hp} {out:Sl} {ts:List Sl} {vs:List (List Nat)} (e:rF h0 h out ts vs) {i:Nat} (hi:i<vs.length):
  ∃b,ts[i]?=some ⟨some ⟨b,0,none⟩,(vs.getD i []).length,(vs.getD i []).length⟩/\h0 b=none/\(h.offS out) b=some (.inl ⟨(VL (vs.getD i [])).map I,(vs.getD i []).length,false⟩):=by
 have hl:=e.len
 obtain⟨b,h1,h2,h3⟩:=e.row i _ (List.getElem?_eq_getElem (show i<ts.length by omega))
 exact⟨b,by rw [List.getElem?_eq_getElem (show i<ts.length by omega),h1],h2,h3⟩
theorem rF.wr {h0 h:Hp} {out:Sl} {ts:List Sl} {vs:List (List Nat)} {b n c i k x:Nat} {P:Hp->Prop} (e:rF h0 h out ts vs) (ht:ts[i]?=some ⟨some ⟨b,0,none⟩,n,c⟩) (hi:i<vs.length) (hk:k<(vs.getD i []).length)
  (kk: ∀h',rF h0 h' out ts (vs.set i ((vs.getD i []).set k x))->P h'):
  ∃(cs:List Value) (z:Nat),h b=some (.inl ⟨cs,z,false⟩)/\(0+Int.toNat (k:Int)*1)+1<=List.length cs/\cM (h.row b (bX cs (0+Int.toNat (k:Int)*1) [I x]) z) P:=by
 obtain⟨b',h1,h2,h3⟩:=e.blk hi
 rw [ht]at h1
 simp only [Option.some.injEq,Sl.mk.injEq,Addr.mk.injEq,and_true,true_and]at h1
 obtain⟨rfl,rfl,rfl⟩:=h1
 refine⟨_,_,aW _ _ _ _ h3,?_,?_⟩
 ·rw [List.length_map,aX,Int.toNat_natCast];omega
 rw [VQ]
 refine kk _ ⟨by rw [List.length_set];exact e.len,fun j t hj=>?_,e.dis,e.buf.row _ _ h3,?_⟩
 ·obtain⟨bj,g1,g2,g3⟩:=e.row j t hj
  by_cases hji:j=i
  ·subst hji
   rw [ht]at hj
   obtain rfl:=(Option.some.inj hj).symm
   simp only [Sl.mk.injEq,Option.some.injEq,Addr.mk.injEq,and_true,true_and]at g1
   obtain⟨rfl,_⟩:=g1
   have hv:(vs.set j ((vs.getD j []).set k x)).getD j []=(vs.getD j []).set k x:=by
    rw [List.getD_eq_getElem?_getD,List.getElem?_set_self (by omega)];rfl
   rw [hv,List.length_set]
   refine⟨b,rfl,g2,?_⟩
   rw [tE _ _ h3,bU]
   simp [VL,List.map_set,bG]
  ·have hv:(vs.set i ((vs.getD i []).set k x)).getD j []=vs.getD j []:=by
    rw [List.getD_eq_getElem?_getD,List.getElem?_set_ne (Ne.symm hji),<-List.getD_eq_getElem?_getD]
   rw [hv]
   refine⟨bj,g1,g2,?_⟩
   rw [tE _ _ h3,cl]
   ·exact g3
   ·rintro rfl
    refine hji (e.dis j i t _ hj ht ?_)
    rw [g1]
 ·rw [tE _ _ h3]
  exact eu _ _ h2 e.le
def rM (l:List NodeP) (ps:List Nat) (code i:Nat):List (List Nat):=(dM l ps code).take i++(ct l ps).drop i
def pT (l:List NodeP) (p code k:Nat):List Nat:=nU (bK l p) k code++List.replicate (aE l p-k) 0
theorem SW (l:List NodeP) (ps:List Nat) (code i:Nat) (hi:i<=ps.length):(rM l ps code i).length=ps.length:=by
 unfold rM;rw [List.length_append,List.length_take,List.length_drop,ka,ct,List.length_map];omega
theorem EH {l:List NodeP} {ps:List Nat} {code i p:Nat} (h:ps[i]?=some p):(rM l ps code i).getD i []=pT l p (code/2^cH l (ps.take i)) 0:=by
 have hlt:=get_lt h
 unfold rM pT
 rw [List.getD_eq_getElem?_getD,List.getElem?_append_right (by rw [List.length_take,ka];omega),List.length_take,ka,Nat.min_eq_left (by omega),Nat.sub_self,List.getElem?_drop,Nat.add_zero,ct,List.getElem?_map,h]
 rfl
theorem Tj {l:List NodeP} {ps:List Nat} {code i p:Nat} (h:ps[i]?=some p):(rM l ps code i).set i (pT l p (code/2^cH l (ps.take i)) (aE l p))=rM l ps code (i+1):=by
 have hlt:=get_lt h
 have hu:(dM l ps code)[i]?=some (nU (bK l p) (aE l p) (code/2^cH l (ps.take i))):=by
  have:=EI (l:=l) (code:=code) h
  rw [List.getD_eq_getElem?_getD,List.getElem?_eq_getElem (by rw [ka];exact hlt)]at this
  rw [List.getElem?_eq_getElem (by rw [ka];exact hlt)]
  exact congrArg some this
 unfold rM pT
 rw [Nat.sub_self,List.replicate_zero,List.append_nil,List.set_append_right _ _ (by rw [List.length_take,ka];omega),List.length_take,ka,Nat.min_eq_left (by omega),Nat.sub_self]
 have hd:(ct l ps).drop i=List.replicate (aE l p) 0::(ct l ps).drop (i+1):=by
  rw [<-List.getElem_cons_drop (show i<(ct l ps).length by rw [ct,List.length_map];exact hlt)]
  congr 1
  unfold ct
  rw [List.getElem_map]
  rw [List.getElem?_eq_getElem hlt]at h
  rw [Option.some.inj h]
 rw [hd,List.set_cons_zero,List.take_add_one,hu]
 simp
theorem LS {l:List NodeP} {p code k:Nat} (hk:k<aE l p):(pT l p code k).set k (code/2^(bK l p*k)%2^bK l p)=pT l p code (k+1):=by
 unfold pT
 rw [List.set_append_right _ _ (by rw [tm];omega),tm,Nat.sub_self]
 obtain⟨d,hd⟩: ∃d,aE l p-k=d+1:=⟨aE l p-k-1,by omega⟩
 rw [hd,List.replicate_succ,List.set_cons_zero,show aE l p-(k+1)=d by omega,nU,List.append_assoc];rfl
theorem yL {l:List NodeP} {p code k:Nat} (hk:k<=aE l p):(pT l p code k).length=aE l p:=by
 unfold pT;rw [List.length_append,tm,List.length_replicate];omega
theorem gD.widc {h:Hp} {s:Sl} {l:List NodeP} (e:gD h s l) {p:Nat} (hp:p<l.length) (hok:bQ l=true):
  ∃b o,s.a=some (Addr.mk b o none)/\(p:Int)<(s.n:Int)/\Hp.cell h b (((o+Int.toNat (p:Int)*9)+6)+1)=some (I (bK l p))/\1<=bK l p/\bK l p<=16:=by
 obtain⟨b,o,h1,h2,h3,h4⟩:=e.sortc hp
 have:=bD.1 (sR hok hp)
 have hw:(ar l p).wid=((bK l p:Nat):Int):=by unfold bK;omega
 exact⟨b,o,h1,h2,by rw [<-hw];exact h4,by unfold bK;omega,by unfold bK;omega⟩
theorem To {l:List NodeP} {ps:List Nat} {code:Nat} {v:List Nat} (h:v∈dM l ps code):v.length<=4:=by
 unfold dM at h
 obtain⟨i,_,rfl⟩:=List.mem_map.1 h
 rw [tm];exact dk _ _
theorem fy (l:List NodeP) (ps:List Nat):(ct l ps).length=ps.length:=by simp [ct]
theorem w9 {h:Hp} {M:MSl} {m:ah} {s:Sl} {ps:List Nat} {code:Nat} {R:Value->Hp->Prop} (hs:aO h M m) (hm:bT m) (hok:bQ m.nodes=true) (hp:IntS h s (VL ps)) (hps: ∀p∈ps,p<m.nodes.length) (hpl:ps.length<=1048576)
  (hcode:code<=1048576) (k: ∀out h',h.le h'->IntSS h' out ((dM m.nodes ps code).map VL)->out.n<=out.c->R (Sl.v out) h'):dz #[aQ M,s.v,I code] h R:=by
 apply zZ
 refine uf_ ?_
 have hn:=hs.nodes.len
 have hns:=hm.nodes
 have hsn:=hp.len
 rw [aX]at hsn
 refine aj fun b9 h1 hb9 l1 f9=>?_
 repeat' (refine aD ?_)
 refine mV (hs.mono l1) hm (hp.mono l1) hps hpl fun out ts h2 hC hon=>⟨out,rfl,?_⟩
 refine au ps.length (fun i vs h'=>vs= [I (code/2^cH m.nodes (ps.take i):Nat), .pointer (some ⟨b9,0,none⟩),out.v,s.v,I s.n,I i]/\rF h1 h' out ts (rM m.nodes ps code i)) ⟨?_,?_⟩ ?_
 ·simp [cH]
 ·have:rM m.nodes ps code 0=ct m.nodes ps:=by simp [rM]
  rw [this];exact hC
 clear hC h2
 rintro i _ h2 next hi ⟨rfl,hC⟩ hnx
 have hle:=Hp.le_trans hC.le (aW _ _)
 have f9':=hle _ _ f9
 refine⟨_,_,_,out,s,_,_,rfl,?_⟩
 by_cases hlt:i<ps.length
 rotate_left
 ·have hie:i=ps.length:=by omega
  subst hie
  refine aC (by simp;omega) (k out h2 (Hp.le_trans l1 hle) ?_ hC.buf.2.1)
  have:rM m.nodes ps code ps.length=dM m.nodes ps code:=by
   unfold rM
   rw [List.take_of_length_le (by rw [ka];omega),List.drop_of_length_le (by rw [fy];omega),List.append_nil]
  rw [this]at hC
  refine hC.ints (fun v hv=>?_) (by omega)
  have:=To hv;omega
 refine aM (by simp;omega) ?_
 obtain⟨p,hpi⟩: ∃p,ps[i]?=some p:=⟨_,List.getElem?_eq_getElem hlt⟩
 have hpm:=hps p (List.mem_of_getElem? hpi)
 obtain⟨b,o,ha,hc⟩:=((hp.mono l1).mono hle).get (ir hpi)
 refine⟨b,o,ha,by omega,by omega,_,hc,?_⟩
 (refine aD ?_)
 obtain⟨bn,on,han,hpn,c7,w1,w16⟩:=((hs.mono l1).mono hle).nodes.widc hpm hok
 refine⟨bn,on,han,by omega,hpn,_,c7,?_⟩
 have hol:=SW m.nodes ps code i (by omega)
 obtain⟨bi,hti,hbi,hri⟩:=hC.blk (i:=i) (by omega)
 rw [EH hpi,yL (Nat.zero_le _)]at hti
 obtain⟨bo,hoa,hob⟩: ∃bo,out.a=some ⟨bo,0,none⟩/\h2 bo=some (.inl ⟨ts.map Sl.v,out.c*1,false⟩):=by
  rcases hC.buf.2.2 with ⟨_,h0,_⟩|h0
  ·omega
  ·exact h0
 have hcell:Hp.cell h2 bo (0+Int.toNat (i:Int)*1)=some (Sl.v ⟨some ⟨bi,0,none⟩,aE m.nodes p,aE m.nodes p⟩):=by
  rw [ax hob,Nat.zero_add,Int.toNat_natCast,Nat.mul_one,List.getElem?_map,hti];rfl
 refine⟨bo,0,hoa,by omega,by omega,_,hcell,?_⟩
 have hcl:=dk m.nodes p
 generalize hci:code/2^cH m.nodes (ps.take i)=ci
 have hcile:ci<=code:=by rw [<-hci];exact Nat.div_le_self _ _
 refine au (aE m.nodes p) (fun k vs h'=>vs= [I (ci/2^(bK m.nodes p*k):Nat), .pointer (some ⟨b9,0,none⟩),out.v,I i,I (bK m.nodes p),s.v,I s.n,I i,I (aE m.nodes p:Nat),I k]/\
  rF h1 h' out ts ((rM m.nodes ps code i).set i (pT m.nodes p ci k))) ⟨by simp,?_⟩ ?_
 ·rw [<-hci,<-EH hpi]
  have:(rM m.nodes ps code i).set i ((rM m.nodes ps code i).getD i [])=rM m.nodes ps code i:=by
   rw [List.getD_eq_getElem?_getD,List.getElem?_eq_getElem (by omega)];simp
  rw [this];exact hC
 clear hC hle f9' hri hob hcell ha hc han hpn c7 h2
 rintro q _ h2 next2 hq ⟨rfl,hC⟩ hnx2
 have hle:=Hp.le_trans hC.le (aW _ _)
 have f9':=hle _ _ f9
 have hdiv:ci/2^(bK m.nodes p*q)<=ci:=Nat.div_le_self _ _
 refine⟨_,_,_,out,_,_,s,_,_,_,_,rfl,?_⟩
 have hgs:((rM m.nodes ps code i).set i (pT m.nodes p ci q)).getD i []=pT m.nodes p ci q:=by
  rw [List.getD_eq_getElem?_getD,List.getElem?_set_self (by omega)];rfl
 by_cases hlq:q<aE m.nodes p
 rotate_left
 ·have hqe:q=aE m.nodes p:=by omega
  subst hqe
  refine aC (by simp) ?_
  rw [ay (by omega)]
  refine hnx hlt _ _ ⟨?_,?_⟩
  ·rw [nq hpi,Nat.pow_add,<-Nat.div_div_eq_div_mul,hci]
  ·rw [<-hci]at hC
   rw [<-Tj hpi];exact hC
 refine aM (by simp;omega) ?_
 obtain⟨bo',hoa',hob'⟩: ∃bo,out.a=some ⟨bo,0,none⟩/\h2 bo=some (.inl ⟨ts.map Sl.v,out.c*1,false⟩):=by
  rcases hC.buf.2.2 with ⟨_,h0,_⟩|h0
  ·omega
  ·exact h0
 have hcell':Hp.cell h2 bo' (0+Int.toNat (i:Int)*1)=some (Sl.v ⟨some ⟨bi,0,none⟩,aE m.nodes p,aE m.nodes p⟩):=by
  rw [ax hob',Nat.zero_add,Int.toNat_natCast,Nat.mul_one,List.getElem?_map,hti];rfl
 refine⟨bo',0,hoa',by omega,by omega,_,hcell',?_⟩
 refine dF (by omega) ⟨_,rfl,rfl,bi,0,rfl,by omega,by dsimp only;omega,?_⟩
 rw [ib (by omega),nu,jF (by omega),Nat.div_div_eq_div_mul,<-Nat.pow_add]
 refine hC.wr hti (by rw [List.length_set];omega) (by rw [hgs,yL (by omega)];exact hlq) fun h3 hC'=>?_
 rw [if_neg (by omega),ay (by omega)]
 refine hnx2 hlq _ _ ⟨by rw [Nat.mul_add,Nat.mul_one],?_⟩
 rw [hgs,List.set_set,LS hlq]at hC'
 exact hC'
theorem gD.sortc2 {h:Hp} {s:Sl} {l:List NodeP} (e:gD h s l) {p:Nat} (hp:p<l.length) (hok:bQ l=true):
  ∃b o,s.a=some (Addr.mk b o none)/\(p:Int)<(s.n:Int)/\Hp.cell h b ((o+Int.toNat (p:Int)*9)+6)=some (I (ar l p).idx)/\Hp.cell h b (((o+Int.toNat (p:Int)*9)+6)+1)=some (I (bK l p))/\1<=bK l p/\bK l p<=16:=by
 obtain⟨b,o,h1,h2,h3,h4⟩:=e.sortc hp
 have:=bD.1 (sR hok hp)
 have hw:(ar l p).wid=((bK l p:Nat):Int):=by unfold bK;omega
 exact⟨b,o,h1,h2,h3,by rw [<-hw];exact h4,by unfold bK;omega,by unfold bK;omega⟩
theorem pA {l:List NodeP} {p:Nat} (hok:bQ l=true) (hp:p<l.length):dg ⟨(ar l p).idx,(bK l p:Nat)⟩=aE l p:=by
 have:=bD.1 (sR hok hp)
 have hw:((bK l p:Nat):Int)=(ar l p).wid:=by unfold bK;omega
 rw [hw];rfl
theorem abm (w k ci:Nat):(VL (nU w k ci)).map I++ [I ((ci/2^(w*k)%2^w:Nat):Int)]=(VL (nU w (k+1) ci)).map I:=by
 rw [nU,yw,List.map_append];rfl
theorem fP {h:Hp} {M:MSl} {m:ah} {s:Sl} {ps:List Nat} {code:Nat} {R:Value->Hp->Prop} (hs:aO h M m) (hm:bT m) (hok:bQ m.nodes=true) (hp:IntS h s (VL ps)) (hps: ∀p∈ps,p<m.nodes.length) (hpl:ps.length<=1048576)
  (hcode:code<=1048576) (hsum:cH m.nodes ps<=60) (k: ∀out h',h.le h'->IntSS h' out ((dM m.nodes ps code).map VL)->R (Sl.v out) h'):bM #[aQ M,s.v,I code] h R:=by
 apply Iy
 refine uf_ ?_
 have hn:=hs.nodes.len
 have hns:=hm.nodes
 have hsn:=hp.len
 rw [aX]at hsn
 refine aj fun b9 h1 hb9 l1 f9=>?_
 refine au ps.length (fun i vs h'=> ∃(ts:List Sl) (out:Sl),vs= [s.v,I code, .pointer (some ⟨b9,0,none⟩),out.v,I (cH m.nodes (ps.take i):Nat),I i]/\
  h.le (h'.offS out)/\(h'.offS out) b9=some (.inl ⟨aH M,5,false⟩)/\out.n=i/\ts.length=i/\Buf h' out 1 (ts.map Sl.v)/\
  (∀(j:Nat) (t:Sl),ts[j]?=some t->IntS (h'.offS out) t (VL ((dM m.nodes ps code).getD j []))))
  ⟨[],⟨none,0,0⟩,by simp [cH],l1,f9,rfl,rfl,fG _ _,fun j t ht=>by simp at ht⟩ ?_
 clear f9 l1 hb9 h1
 rintro i _ h3 next hi ⟨ts,out,rfl,l3,f9,hon,htl,hbuf,hts⟩ hnx
 have lo:=aW h3 out
 have f9':=lo _ _ f9
 have l3':=Hp.le_trans l3 lo
 have hsi:=I9 m.nodes ps i
 refine⟨s,_,_,_,out,_,_,rfl,?_⟩
 by_cases hlt:i<ps.length
 rotate_left
 ·have hie:i=ps.length:=by omega
  subst hie
  refine aC (by simp;omega) (k out h3 l3' ⟨ts,by simp [ka];omega,hbuf.slc_of (by omega),fun j h1 h2=>?_⟩)
  have:=(hts j _ (List.getElem?_eq_getElem h1)).mono lo
  have hju:j<(dM m.nodes ps code).length:=by rw [ka];omega
  rw [List.getElem_map]
  rwa [List.getD_eq_getElem?_getD,List.getElem?_eq_getElem hju]at this
 refine aM (by simp;omega) ?_
 obtain⟨p,hpi⟩: ∃p,ps[i]?=some p:=⟨_,List.getElem?_eq_getElem hlt⟩
 have hpm:=hps p (List.mem_of_getElem? hpi)
 obtain⟨b,o,ha,hc⟩:=(hp.mono l3').get (ir hpi)
 refine⟨b,o,ha,by omega,by omega,?_⟩
 (refine aD ?_)
 refine⟨_,hc,?_⟩
 obtain⟨bn,on,han,hpn,c6,c7,w1,w16⟩:=(hs.mono l3').nodes.sortc2 hpm hok
 refine⟨bn,on,han,by omega,hpn,_,c6,_,c7,?_⟩
 have xb:=fQ hc
 have xbn:=fQ c6
 have xb9:=cf f9'
 refine aj fun b37 h4 hb37 l4 f37=>?_
 repeat' (((with_reducible apply m4);(assumption);(assumption)))
 (with_reducible apply cC);(exact f37);(exact l4);(exact hb37);(exact Nat.le_refl 2)
 intro h5 f37b kp l5
 clear f37 kp l4 h4
 refine aj fun b43 h6 hb43 l6 f43=>?_
 have n37:=fresh_ne hb43 f37b
 have hb43':=aF l5 hb43
 (with_reducible apply cC);(exact f43);(exact Hp.le_trans l5 l6);(exact hb43');(exact Nat.le_refl 1)
 intro h7 f43b kp l7
 have f37c:h7 b37=some (.inl ⟨[I (ar m.nodes p).idx,I (bK m.nodes p)],2,false⟩):=cB kp n37 (l6 _ _ f37b)
 have f43c:h7 b43=some (.inl ⟨[(⟨none,0,0⟩:Sl).v],1,false⟩):=f43b
 clear f43 f43b f37b kp l6 l5
 have hcl:=dk m.nodes p
 have hcm:=pA hok hpm
 have hstep:=nq (l:=m.nodes) hpi
 have hsi1:=I9 m.nodes ps (i+1)
 obtain⟨ci,hci⟩: ∃ci,ci=code/2^cH m.nodes (ps.take i):=⟨_,rfl⟩
 refine au (aE m.nodes p) (fun q vs h'=> ∃sl:Sl,vs= [s.v,I code, .pointer (some ⟨b9,0,none⟩),out.v,I (cH m.nodes (ps.take i)+bK m.nodes p*q:Nat),I i, .pointer (some ⟨b37,0,none⟩), .pointer (some ⟨b43,0,none⟩),I q]/\
  h3.le (h'.offS sl)/\(h'.offS sl) b37=some (.inl ⟨[I (ar m.nodes p).idx,I (bK m.nodes p)],2,false⟩)/\(h'.offS sl) b43=some (.inl ⟨[sl.v],1,false⟩)/\sl.n=q/\Buf h' sl 1 ((VL (nU (bK m.nodes p) q ci)).map I))
  ⟨⟨none,0,0⟩,by simp,l7,f37c,f43c,rfl,fG _ _⟩ ?_
 clear f37c f43c l7 h7
 rintro q _ h7 next2 hq ⟨sl,rfl,l7,f37,f43,hsl,hbufl⟩ hnx2
 have los:=aW h7 sl
 have f37':=los _ _ f37
 have f43':=los _ _ f43
 refine⟨s,_,_,_,out,_,_,_,_,_,_,_,rfl,?_⟩
 repeat' (refine aD ?_)
 refine gH ⟨_,rfl,?_⟩
 rw [hcm]
 by_cases hlq:q<aE m.nodes p
 rotate_left
 ·have hqe:q=aE m.nodes p:=by omega
  subst hqe
  refine aC (by simp) ?_
  (refine aD ?_)
  refine aj fun b103 h8 hb103 l8 f103=>?_
  have l38:=Hp.le_trans l7 (Hp.le_trans los l8)
  have l38o:=bC out l38
  refine dG (hbuf.mono l38) (by omega) (by omega) (by omega) ⟨b103,0,rfl,aw f103⟩ (by simp) rfl ?_
  intro s' h10 hs'n hbuf' l10 _
  rw [ay (by omega)]
  have l310:=Hp.le_trans l38o l10
  have hbuf'':Buf h10 s' 1 ((ts++ [sl]).map Sl.v):=by rw [List.map_append];exact hbuf'
  have hval:IntS h8 sl (VL (nU (bK m.nodes p) (aE m.nodes p) ci)):=SlC.mono l8 (hbufl.slc_of (by omega))
  rw [<-hstep]
  refine hnx hlt _ _ ⟨ts++ [sl],s',rfl,Hp.le_trans l3 l310,l310 _ _ f9,by omega,by simp;omega,hbuf'',fun j u hu=>?_⟩
  by_cases hj:j<i
  ·rw [List.getElem?_append_left (by omega)]at hu
   exact(hts j u hu).mono l310
  ·have hju:=get_lt hu
   simp at hju
   have hje:j=i:=by omega
   subst hje
   rw [List.getElem?_append_right (by omega),htl,Nat.sub_self]at hu
   simp at hu;subst hu
   rw [EI hpi,<-hci]
   exact(hval.offL (hbuf.mono l38)).mono l10
 refine aM (by simp;omega) ?_
 have hmul:bK m.nodes p*q<=bK m.nodes p*aE m.nodes p:=Nat.mul_le_mul_left _ hq
 have hmul2:bK m.nodes p*(q+1)<=bK m.nodes p*aE m.nodes p:=Nat.mul_le_mul_left _ hlq
 have hp16:=BJ w16
 have hpp:=bP (bK m.nodes p)
 refine ap (fun J=> ∀(sl':Sl) (h':Hp),h3.le (h'.offS sl')->(h'.offS sl') b37=some (.inl ⟨[I (ar m.nodes p).idx,I (bK m.nodes p)],2,false⟩)->(h'.offS sl') b43=some (.inl ⟨[sl'.v],1,false⟩)->sl'.n=q+1->
   Buf h' sl' 1 ((VL (nU (bK m.nodes p) (q+1) ci)).map I)->J (cH m.nodes (ps.take i)+bK m.nodes p*(q+1):Nat) h') ?_ (fun J hJ=>?_)
 ·intro sl' h' g1 g2 g3 g4 g5
  rw [ay (by omega)]
  exact hnx2 hlq _ _ ⟨sl',rfl,g1,g2,g3,g4,g5⟩
 have xb60:=cf f37'
 have xb62:=cf f43'
 rw [cZ (n:=cH m.nodes (ps.take i)+bK m.nodes p*q) (by omega)]
 repeat' (refine aD ?_)
 rw [cZ (n:=bK m.nodes p) (by omega)]
 rw [jF (by omega),cw (by omega),eP]
 have hval:code/2^(cH m.nodes (ps.take i)+bK m.nodes p*q)=ci/2^(bK m.nodes p*q):=by
  rw [hci,Nat.div_div_eq_div_mul,<-Nat.pow_add]
 rw [hval]
 have app: ∀(K:Option Addr->Nat->Nat->Hp->Prop) (h8:Hp) (b75:Nat),h7.le h8->h8 b75=some (.inl ⟨[I ((ci/2^(bK m.nodes p*q)%2^bK m.nodes p:Nat):Int)],1,false⟩)->
   (∀(s':Sl) (h9:Hp),s'.n=q+1->h3.le (h9.offS s')->(h9.offS s') b37=some (.inl ⟨[I (ar m.nodes p).idx,I (bK m.nodes p)],2,false⟩)->(h9.offS s') b43=some (.inl ⟨[sl.v],1,false⟩)->Buf h9 s' 1 ((VL (nU (bK m.nodes p) (q+1) ci)).map I)->K s'.a s'.n s'.c h9)->
   cy h8 sl.a sl.n sl.c (some ⟨b75,0,none⟩) 1 1 8 K:=by
  intro K h8 b75 l8 f75 hK
  have l78:=bC sl l8
  refine dG (hbufl.mono l8) (by omega) (by omega) (by omega) ⟨b75,0,rfl,aw f75⟩ (by simp) rfl ?_
  intro s' h9 hs'n hbuf' l9 _
  have l79:=Hp.le_trans l78 l9
  refine hK s' h9 (by omega) (Hp.le_trans l7 l79) (l79 _ _ f37) (l79 _ _ f43) ?_
  rw [<-abm];exact hbuf'
 have fin: ∀(s':Sl) (h9:Hp),s'.n=q+1->h3.le (h9.offS s')->(h9.offS s') b37=some (.inl ⟨[I (ar m.nodes p).idx,I (bK m.nodes p)],2,false⟩)->(h9.offS s') b43=some (.inl ⟨[sl.v],1,false⟩)->Buf h9 s' 1 ((VL (nU (bK m.nodes p) (q+1) ci)).map I)->
   ∃(cs:List Value) (z:Nat),h9 b43=some (.inl ⟨cs,z,false⟩)/\0+1<=List.length cs/\cM (h9.row b43 (bX cs 0 [.slice s'.a s'.n s'.c]) z) fun h83=> ∃(x85:Int),Hp.cell h83 b37 (0+1)=some (I x85)/\(J (W (((cH m.nodes (ps.take i)+bK m.nodes p*q:Nat):Int)+x85)) h83):=by
  intro s' h9 g1 g2 g3 g4 g5
  (with_reducible apply xA);(exact g4);(exact g2);(exact hb43');(exact Nat.le_refl 1)
  intro h10 e43 kp l10 hbk
  have e37:(h10.offS s') b37=some (.inl ⟨[I (ar m.nodes p).idx,I (bK m.nodes p)],2,false⟩):=by rw [kp _ n37];exact g3
  refine⟨_,by rw [ax (aW _ _ _ _ e37)];rfl,?_⟩
  have:W (((cH m.nodes (ps.take i)+bK m.nodes p*q:Nat):Int)+((bK m.nodes p:Nat):Int))=((cH m.nodes (ps.take i)+bK m.nodes p*(q+1):Nat):Int):=by
   rw [cd (by omega) (by omega),Nat.mul_add,Nat.mul_one];omega
  rw [this]
  exact hJ s' h10 l10 e37 e43 g1 (hbk _ _ g5)
 constructor
 ·repeat' (refine aD ?_)
  rw [if_neg (by omega)]
  repeat' (refine aD ?_)
  rw [if_neg (by omega),if_neg (by omega)]
  refine aj fun b75 h8 hb75 l8 f75=>?_
  (((with_reducible apply m4);(assumption);(assumption)))
  exact app _ h8 b75 l8 f75 fun s' h9 g1 g2 g3 g4 g5=>fin s' h9 g1 g2 g3 g4 g5
 ·repeat' (refine aD ?_)
  rw [if_neg (by omega)]
  repeat' (refine aD ?_)
  rw [if_neg (by omega),if_neg (by omega)]
  refine aj fun b75 h8 hb75 l8 f75=>?_
  (((with_reducible apply m4);(assumption);(assumption)))
  exact app _ h8 b75 l8 f75 fun s' h9 g1 g2 g3 g4 g5=>fin s' h9 g1 g2 g3 g4 g5
theorem Vz {a n x:Nat} (h:a<2^n):a|||(x*2^n)=a+x*2^n:=by
 rw [Nat.or_comm,Nat.mul_comm,<-Nat.two_pow_add_eq_or_of_lt h,Nat.add_comm]
theorem JK {l:List NodeP} {ps:List Nat} {vs:List (List Nat)} {i p:Nat} (h:ps[i]?=some p) (hf:jT l ps vs):
  dX l (ps.take (i+1)) (vs.take (i+1))=dX l (ps.take i) (vs.take i)+2^cH l (ps.take i)*gX (bK l p) (vs.getD i []):=by
 have hlt:=get_lt h
 have hl:=j5 hf
 rw [List.getElem?_eq_getElem hlt]at h
 rw [List.take_succ_eq_append_getElem hlt,List.take_succ_eq_append_getElem (show i<vs.length by omega),UT (by rw [List.length_take,List.length_take];omega),Option.some.inj h]
 rw [List.getD_eq_getElem?_getD,List.getElem?_eq_getElem (show i<vs.length by omega)];rfl
theorem Ud {w:Nat} {v:List Nat} {q:Nat} (h:q<v.length):gX w (v.take (q+1))=gX w (v.take q)+2^(w*q)*v.getD q 0:=by
 rw [List.take_succ_eq_append_getElem h,LQ,List.length_take,Nat.min_eq_left (by omega),List.getD_eq_getElem?_getD,List.getElem?_eq_getElem h];rfl
theorem yP {l:List NodeP} {ps:List Nat} {vs:List (List Nat)} {i p q:Nat} (h:ps[i]?=some p) (hf:jT l ps vs) (hq:q<=aE l p):
  dX l (ps.take i) (vs.take i)+2^cH l (ps.take i)*gX (bK l p) ((vs.getD i []).take q)<2^(cH l (ps.take i)+bK l p*q):=by
 have h1:=yz (XQ hf i)
 have h2:=lU hf h
 have h3:=AZ (w:=bK l p) (xs:=(vs.getD i []).take q) fun x hx=>h2.2 x (List.mem_of_mem_take hx)
 rw [List.length_take,Nat.min_eq_left (by omega)]at h3
 rw [Nat.pow_add]
 have h4:=Nat.mul_le_mul_left (2^cH l (ps.take i)) (Nat.succ_le_of_lt h3)
 rw [Nat.succ_eq_add_one,Nat.mul_add,Nat.mul_one]at h4
 omega
theorem IntSS.getV {h:Hp} {s:Sl} {vs:List (List Nat)} (e:IntSS h s (vs.map VL)) {i:Nat} (hi:i<vs.length):
  ∃b o t,s.a=some (Addr.mk b o none)/\Hp.cell h b (o+i*1)=some (Sl.v t)/\IntS h t (VL (vs.getD i [])):=by
 obtain⟨b,o,t,h1,h2,h3⟩:=e.at (i:=i) (by rw [List.length_map];exact hi)
 refine⟨b,o,t,h1,by rw [Nat.mul_one];exact h2,?_⟩
 rw [List.getElem_map]at h3
 rwa [List.getD_eq_getElem?_getD,List.getElem?_eq_getElem hi]
theorem BS {l:List NodeP} {ps:List Nat} {i p q:Nat} (h:ps[i]?=some p) (hq:q<=aE l p):cH l (ps.take i)+bK l p*q<=cH l ps:=by
 have h1:=nq (l:=l) h
 have h2:=I9 l ps (i+1)
 have h3:=Nat.mul_le_mul_left (bK l p) hq
 omega
theorem EA {n:Nat} (h:n<=60):2^n<=1152921504606846976:=by
 have:=Nat.pow_le_pow_right (n:=2) (by omega) h
 simpa using this
theorem Ca {l:List NodeP} {ps:List Nat} {vs:List (List Nat)} {i p q:Nat} (h:ps[i]?=some p) (hf:jT l ps vs) (hq:q<aE l p):
  dX l (ps.take i) (vs.take i)+2^cH l (ps.take i)*gX (bK l p) ((vs.getD i []).take (q+1))=
   (dX l (ps.take i) (vs.take i)+2^cH l (ps.take i)*gX (bK l p) ((vs.getD i []).take q))+(vs.getD i []).getD q 0*2^(cH l (ps.take i)+bK l p*q):=by
 have h2:=lU hf h
 rw [Ud (by omega),Nat.mul_add,Nat.add_assoc,<-Nat.mul_assoc,<-Nat.pow_add,Nat.mul_comm (2^(cH l (ps.take i)+bK l p*q))]
theorem B2 {h:Hp} {M:MSl} {m:ah} {s t:Sl} {ps:List Nat} {vs:List (List Nat)} {R:Value->Hp->Prop} (hs:aO h M m) (hm:bT m) (hok:bQ m.nodes=true) (hp:IntS h s (VL ps)) (hps: ∀p∈ps,p<m.nodes.length) (hpl:ps.length<=1048576)
  (hv:IntSS h t (vs.map VL)) (hf:jT m.nodes ps vs) (hsum:cH m.nodes ps<=60) (k:R (I (dX m.nodes ps vs)) h):i7 #[aQ M,s.v,t.v] h R:=by
 refine ACalls.drop (FE ?_)
 refine uf_ ?_
 have hn:=hs.nodes.len
 have hns:=hm.nodes
 have hsn:=hp.len
 rw [aX]at hsn
 have htn:=hv.len
 rw [List.length_map]at htn
 have hvl:=j5 hf
 have hsum60:=EA hsum
 refine aj fun b9 h1 hb9 l1 f9=>?_
 refine au ps.length (fun i ws h'=>h'=h1/\ws= [t.v, .pointer (some ⟨b9,0,none⟩),I (dX m.nodes (ps.take i) (vs.take i):Nat),I (cH m.nodes (ps.take i):Nat),s.v,I s.n,I i]) ⟨rfl,by simp [dX,cH]⟩ ?_
 rintro i _ _ next hi ⟨rfl,rfl⟩ hnx
 rename_i h1
 refine⟨t,_,_,_,_,s,_,_,rfl,?_⟩
 by_cases hlt:i<ps.length
 rotate_left
 ·have hie:i=ps.length:=by omega
  subst hie
  refine aC (by simp;omega) ⟨_,l1,?_⟩
  rw [List.take_of_length_le (Nat.le_refl _),List.take_of_length_le (by omega)];exact k
 refine aM (by simp;omega) ?_
 obtain⟨p,hpi⟩: ∃p,ps[i]?=some p:=⟨_,List.getElem?_eq_getElem hlt⟩
 have hpm:=hps p (List.mem_of_getElem? hpi)
 obtain⟨b,o,ha,hc⟩:=(hp.mono l1).get (ir hpi)
 refine⟨b,o,ha,by omega,by omega,_,hc,?_⟩
 obtain⟨bt,ot,c,hta,htc,hcv⟩:=(hv.mono l1).getV (i:=i) (by omega)
 refine⟨bt,ot,hta,by omega,by omega,c,htc,?_⟩
 obtain⟨bn,on,han,hpn,c7,w1,w16⟩:=(hs.mono l1).nodes.widc hpm hok
 have hg:=lU hf hpi
 have hcn:=hcv.len
 rw [aX]at hcn
 have hcl:=dk m.nodes p
 refine au (aE m.nodes p) (fun q ws h'=>h'=h1/\ws= [t.v, .pointer (some ⟨b9,0,none⟩),I (dX m.nodes (ps.take i) (vs.take i)+2^cH m.nodes (ps.take i)*gX (bK m.nodes p) ((vs.getD i []).take q):Nat),
  I (cH m.nodes (ps.take i)+bK m.nodes p*q:Nat),I p,s.v,I s.n,I i,c.v,I c.n,I q]) ⟨rfl,by simp [gX]⟩ ?_
 rintro q _ _ next2 hq ⟨rfl,rfl⟩ hnx2
 rename_i h1
 refine⟨t,_,_,_,_,_,s,_,_,c,_,_,rfl,?_⟩
 by_cases hlq:q<aE m.nodes p
 rotate_left
 ·have hqe:q=aE m.nodes p:=by omega
  subst hqe
  refine aC (by simp;omega) ?_
  rw [ay (by omega)]
  refine hnx hlt _ _ ⟨rfl,?_⟩
  rw [JK hpi hf,nq hpi,List.take_of_length_le (l:=vs.getD i []) (by omega)]
 refine aM (by simp;omega) ?_
 obtain⟨bc,oc,hca,hcc,hln⟩:=hcv.elt (i:=q) (by omega)
 refine⟨bc,oc,hca,by omega,by omega,_,hcc,?_⟩
 have hb1:=yP hpi hf (Nat.le_of_lt hlq)
 have hb2:=yP (q:=q+1) hpi hf hlq
 rw [Ca hpi hf hlq]at hb2
 have hs1:=BS hpi (Nat.le_of_lt hlq)
 have hs2:=BS (q:=q+1) hpi hlq
 have hp1:=EA (n:=cH m.nodes (ps.take i)+bK m.nodes p*(q+1)) (by omega)
 have hp2:=EA (n:=cH m.nodes (ps.take i)+bK m.nodes p*q) (by omega)
 rw [if_neg (by omega)]
 (refine aD ?_)
 refine⟨bn,on,han,by omega,hpn,_,c7,?_⟩
 rw [jk (by omega) (by omega),Ef (by omega) (by omega),Vz hb1,<-Ca hpi hf hlq,cd (n:=((cH m.nodes (ps.take i)+bK m.nodes p*q:Nat):Int)+(bK m.nodes p:Nat)) (by omega) (by omega),ay (by omega)]
 refine hnx2 hlq _ _ ⟨rfl,?_⟩
 rw [Nat.mul_add,Nat.mul_one,<-Nat.add_assoc,Int.natCast_add (cH m.nodes (ps.take i)+bK m.nodes p*q)]
theorem qn {h:Hp} {M:MSl} {m:ah} {s t:Sl} {ps:List Nat} {vs:List (List Nat)} {R:Value->Hp->Prop} (hs:aO h M m) (hm:bT m) (hok:bQ m.nodes=true) (hp:IntS h s (VL ps)) (hps: ∀p∈ps,p<m.nodes.length) (hpl:ps.length<=1048576)
  (hv:IntSS h t (vs.map VL)) (hf:jT m.nodes ps vs) (hsum:cH m.nodes ps<=60) (k:R (I (dX m.nodes ps vs)) h):mg #[aQ M,s.v,t.v] h R:=by
 refine ACalls.drop (Nt ?_)
 refine uf_ ?_
 have hn:=hs.nodes.len
 have hns:=hm.nodes
 have hsn:=hp.len
 rw [aX]at hsn
 have htn:=hv.len
 rw [List.length_map]at htn
 have hvl:=j5 hf
 have hsum60:=EA hsum
 refine aj fun b9 h1 hb9 l1 f9=>?_
 refine au ps.length (fun i ws h'=>h'=h1/\ws= [s.v,t.v, .pointer (some ⟨b9,0,none⟩),I (dX m.nodes (ps.take i) (vs.take i):Nat),I (cH m.nodes (ps.take i):Nat),I i]) ⟨rfl,by simp [dX,cH]⟩ ?_
 rintro i _ _ next hi ⟨rfl,rfl⟩ hnx
 rename_i h1
 refine⟨s,t,_,_,_,_,_,rfl,?_⟩
 by_cases hlt:i<ps.length
 rotate_left
 ·have hie:i=ps.length:=by omega
  subst hie
  refine aC (by simp;omega) ⟨_,l1,?_⟩
  rw [List.take_of_length_le (Nat.le_refl _),List.take_of_length_le (by omega)];exact k
 refine aM (by simp;omega) ?_
 obtain⟨p,hpi⟩: ∃p,ps[i]?=some p:=⟨_,List.getElem?_eq_getElem hlt⟩
 have hpm:=hps p (List.mem_of_getElem? hpi)
 obtain⟨b,o,ha,hc⟩:=(hp.mono l1).get (ir hpi)
 refine⟨b,o,ha,by omega,by omega,?_⟩
 (refine aD ?_)
 refine⟨_,hc,?_⟩
 obtain⟨bn,on,han,hpn,c7,w1,w16⟩:=(hs.mono l1).nodes.widc hpm hok
 refine⟨bn,on,han,by omega,hpn,_,c7,?_⟩
 obtain⟨bt,ot,c,hta,htc,hcv⟩:=(hv.mono l1).getV (i:=i) (by omega)
 have hg:=lU hf hpi
 have hcn:=hcv.len
 rw [aX]at hcn
 have hcl:=dk m.nodes p
 refine au (aE m.nodes p) (fun q ws h'=>h'=h1/\ws= [s.v,t.v, .pointer (some ⟨b9,0,none⟩),I (dX m.nodes (ps.take i) (vs.take i)+2^cH m.nodes (ps.take i)*gX (bK m.nodes p) ((vs.getD i []).take q):Nat),
  I (cH m.nodes (ps.take i)+bK m.nodes p*q:Nat),I i,I (bK m.nodes p),I q]) ⟨rfl,by simp [gX]⟩ ?_
 rintro q _ _ next2 hq ⟨rfl,rfl⟩ hnx2
 rename_i h1
 refine⟨s,t,_,_,_,_,_,_,_,rfl,?_⟩
 refine⟨bt,ot,hta,by omega,by omega,c,htc,?_⟩
 by_cases hlq:q<aE m.nodes p
 rotate_left
 ·have hqe:q=aE m.nodes p:=by omega
  subst hqe
  refine aC (by simp;omega) ?_
  rw [ay (by omega)]
  refine hnx hlt _ _ ⟨rfl,?_⟩
  rw [JK hpi hf,nq hpi,List.take_of_length_le (l:=vs.getD i []) (by omega)]
 refine aM (by simp;omega) ?_
 refine⟨bt,ot,hta,by omega,by omega,c,htc,?_⟩
 obtain⟨bc,oc,hca,hcc,hln⟩:=hcv.elt (i:=q) (by omega)
 refine⟨bc,oc,hca,by omega,by omega,_,hcc,?_⟩
 have hb1:=yP hpi hf (Nat.le_of_lt hlq)
 have hb2:=yP (q:=q+1) hpi hf hlq
 rw [Ca hpi hf hlq]at hb2
 have hs1:=BS hpi (Nat.le_of_lt hlq)
 have hs2:=BS (q:=q+1) hpi hlq
 have hp1:=EA (n:=cH m.nodes (ps.take i)+bK m.nodes p*(q+1)) (by omega)
 have hp2:=EA (n:=cH m.nodes (ps.take i)+bK m.nodes p*q) (by omega)
 rw [cZ (n:=cH m.nodes (ps.take i)+bK m.nodes p*q) (by omega),if_neg (by omega)]
 rw [jk (by omega) (by omega),<-Int.natCast_add,fV (by omega),<-Ca hpi hf hlq,cd (n:=((cH m.nodes (ps.take i)+bK m.nodes p*q:Nat):Int)+(bK m.nodes p:Nat)) (by omega) (by omega),ay (by omega)]
 refine hnx2 hlq _ _ ⟨rfl,?_⟩
 rw [Nat.mul_add,Nat.mul_one,<-Nat.add_assoc,Int.natCast_add (cH m.nodes (ps.take i)+bK m.nodes p*q)]
structure Gs (m:ah) (v:List (List Nat)):Prop where
 len:v.length=m.nodes.length
 fit:Af m.nodes m.nodes.length v
theorem dr {m:ah} (g:cr m) (s i:Nat):Gs m (bL m s i):=⟨N7 _ _ _,B8 g s i⟩
theorem xW {m:ah} (g:cr m):Gs m (kE m):=⟨N7 _ _ _,RI g (ew m.nodes (stP m)) (ew m.nodes (inP m))⟩
theorem IU {m:ah} {v:List (List Nat)} (a:Gs m v) {p:Int} (h:da m.nodes p=true):0<=p/\p<v.length/\0<(v.getD p.toNat []).length/\aK v p<2:=by
 unfold da at h
 simp only [Bool.and_eq_true,decide_eq_true_eq]at h
 have hp:=ey.1 h.1
 have hn:((p.toNat:Nat):Int)=p:=by omega
 have hf:=a.fit p.toNat (by omega) (by omega)
 rw [hn,h.2]at hf
 have:=hf.cell
 exact⟨hp.1,by rw [a.len];exact hp.2,hf.pos,by unfold aK;exact this⟩
theorem Lk {h:Hp} {s:Sl} {v:List (List Nat)} {p:Int} {R:Value->Hp->Prop} (hpv:gR h s v) (h0:0<=p) (hp:p<v.length) (hne:0<(v.getD p.toNat []).length)
  (k:R (.bool (decide (aK v p=1))) h):uJ #[s.v,I p] h R:=by
 apply PE
 refine uf_ ?_
 obtain⟨b,o,t,ha,hlt,hc,ht⟩:=hpv.at h0 hp
 refine⟨b,o,ha,h0,hlt,t,hc,?_⟩
 obtain⟨b2,o2,ha2,hc2,hl2⟩:=ht.elt hne
 refine⟨b2,o2,ha2,by omega,by omega,_,hc2,dK ?_ k⟩
 rw [Bool.eq_iff_iff,decide_eq_true_eq,beq_iff_eq]
 unfold aK;omega
theorem JN {h:Hp} {M:MSl} {m:ah} {s:Sl} {v:List (List Nat)} {R:Value->Hp->Prop} (hs:aO h M m) (g:cr m) (hpv:gR h s v) (a:Gs m v)
  (k:R (.bool (iG m v)) h):lC #[aQ M,s.v] h R:=by
 refine ACalls.drop (DA ?_)
 refine uf_ ?_
 refine aj fun b8 h1 hb8 l1 f8=>?_
 refine aj fun b10 h2 hb10 l2 f10=>?_
 replace f8:=l2 _ _ f8
 replace l2:=Hp.le_trans l1 l2
 (refine aD ?_)
 refine rC (fun p=> !decide (aK v p=1)) (hs.mono l2).holds (fun p hp R k=>?_) ⟨_,rfl,_,l2,dK ?_ k⟩
 ·obtain⟨h1,h2,h3,_⟩:=IU a (g.hol p hp)
  apply Aq
  refine uf_ ?_
  (refine aD ?_)
  exact Lk (hpv.mono l2) h1 h2 h3 ⟨_,rfl,k⟩
 ·rw [I8,Bool.not_not];rfl
theorem Ly {h:Hp} {M:MSl} {m:ah} {s:Sl} {v:List (List Nat)} {R:Value->Hp->Prop} (hs:aO h M m) (g:cr m) (hpv:gR h s v) (a:Gs m v)
  (k:R (I (xB m v)) h):kU #[aQ M,s.v] h R:=by
 refine ACalls.drop (FY ?_)
 refine uf_ ?_
 refine aj fun b8 h1 hb8 l1 f8=>?_
 refine aj fun b10 h2 hb10 l2 f10=>?_
 replace f8:=l2 _ _ f8
 replace l2:=Hp.le_trans l1 l2
 (refine aD ?_)
 refine vF (fun p=>decide (aK v p=1)) (hs.mono l2).bads (fun p hp R k=>?_) ⟨_,rfl,_,l2,tU ?_ k⟩
 ·obtain⟨h1,h2,h3,_⟩:=IU a (g.bad p hp)
  apply Cr
  refine uf_ ?_
  (refine aD ?_)
  exact Lk (hpv.mono l2) h1 h2 h3 ⟨_,rfl,k⟩
 ·unfold Mo xB t7
  cases List.findIdx? (fun p=>decide (aK v p=1)) m.bads<;>rfl
theorem Fv {h:Hp} {M:MSl} {m:ah} {s:Sl} {v:List (List Nat)} {R:Value->Hp->Prop} (hs:aO h M m) (g:cr m) (hpv:gR h s v) (a:Gs m v)
  (k:R (.bool (iG m v)) h):qw #[aQ M,s.v] h R:=by
 refine ACalls.drop (JO ?_)
 refine uf_ ?_
 have hhn:=hs.holds.len
 have hhl:=g.hl
 refine aj fun b8 h1 hb8 l1 f8=>?_
 refine au m.holds.length (fun i vs h'=>h'=h1/\vs= [s.v, .pointer (some ⟨b8,0,none⟩),I i]/\(m.holds.take i).all (fun p=>decide (aK v p=1))=true) ⟨rfl,rfl,rfl⟩ ?_
 rintro i _ _ next hi ⟨rfl,rfl,hall⟩ hnx
 rename_i h1
 refine⟨s,_,_,_,rfl,?_⟩
 repeat' (refine aD ?_)
 by_cases hlt:i<m.holds.length
 rotate_left
 ·refine aC (by simp;omega) ⟨_,l1,dK ?_ k⟩
  rw [List.take_of_length_le (by omega)]at hall
  exact hall.symm
 refine aM (by simp;omega) ?_
 obtain⟨p,hpi⟩: ∃p,m.holds[i]?=some p:=⟨_,List.getElem?_eq_getElem hlt⟩
 obtain⟨e0,e1,e2,e3⟩:=IU a (g.hol p (List.mem_of_getElem? hpi))
 obtain⟨b,o,ha,hc⟩:=(hs.mono l1).holds.get hpi
 (refine aD ?_)
 refine⟨b,o,ha,by omega,by omega,_,hc,?_⟩
 obtain⟨b1,o1,t,ha1,hlt1,hc1,ht⟩:=(hpv.mono l1).at e0 e1
 refine⟨b1,o1,ha1,e0,hlt1,t,hc1,?_⟩
 obtain⟨b2,o2,ha2,hc2,hl2⟩:=ht.elt e2
 refine⟨b2,o2,ha2,by omega,by omega,_,hc2,?_⟩
 refine ad (fun e=>⟨_,l1,dK ?_ k⟩) (fun e=>?_)
 ·have e':=bZ e
  symm
  refine FS hpi ?_
  rw [decide_eq_false_iff_not]
  unfold aK;omega
 ·have e':=bA e
  rw [ay (by omega)]
  refine hnx hlt _ _ ⟨rfl,rfl,?_⟩
  rw [B9 hpi,hall,Bool.true_and,decide_eq_true_eq]
  unfold aK at e3⊢;omega
theorem C9 {α:Type} {p:α->Bool} {xs:List α} {i:Nat} {x:α} (hx:xs[i]?=some x) (hp:p x=true) (h:(xs.take i).any p=false):xs.findIdx? p=some i:=by
 have hlt:=get_lt hx
 have he:xs[i]=x:=by rw [List.getElem?_eq_getElem hlt]at hx;exact Option.some.inj hx
 rw [List.findIdx?_eq_some_iff_getElem]
 refine⟨hlt,by rw [he];exact hp,fun j hj=>?_⟩
 rw [List.any_eq_false]at h
 have:=h xs[j] (by rw [List.mem_take_iff_getElem];exact⟨j,by omega,rfl⟩)
 simpa using this
theorem Ha {α:Type} {p:α->Bool} {xs:List α} (h:xs.any p=false):xs.findIdx? p=none:=by
 rw [List.findIdx?_eq_none_iff]
 rw [List.any_eq_false]at h
 intro x hx;simpa using h x hx
theorem OZ {α:Type} {l:List α} {p:α->Bool} {i:Nat} {x:α} (hx:l[i]?=some x):(l.take (i+1)).any p=((l.take i).any p||p x):=by
 have hlt:=get_lt hx
 rw [List.getElem?_eq_getElem hlt]at hx
 rw [List.take_succ_eq_append_getElem hlt,List.any_append,Option.some.inj hx];simp
theorem Mz {h:Hp} {M:MSl} {m:ah} {s:Sl} {v:List (List Nat)} {R:Value->Hp->Prop} (hs:aO h M m) (g:cr m) (hpv:gR h s v) (a:Gs m v)
  (k:R (I (xB m v)) h):uH #[aQ M,s.v] h R:=by
 refine ACalls.drop (Qv ?_)
 refine uf_ ?_
 have hhn:=hs.bads.len
 have hhl:=g.bl
 refine aj fun b8 h1 hb8 l1 f8=>?_
 refine au m.bads.length (fun i vs h'=>h'=h1/\vs= [s.v, .pointer (some ⟨b8,0,none⟩),I i]/\(m.bads.take i).any (fun p=>decide (aK v p=1))=false) ⟨rfl,rfl,rfl⟩ ?_
 rintro i _ _ next hi ⟨rfl,rfl,hall⟩ hnx
 rename_i h1
 refine⟨s,_,_,_,rfl,?_⟩
 repeat' (refine aD ?_)
 by_cases hlt:i<m.bads.length
 rotate_left
 ·refine aC (by simp;omega) ⟨_,l1,tU ?_ k⟩
  rw [List.take_of_length_le (by omega)]at hall
  unfold xB t7
  rw [Ha hall]
 refine aM (by simp;omega) ?_
 obtain⟨p,hpi⟩: ∃p,m.bads[i]?=some p:=⟨_,List.getElem?_eq_getElem hlt⟩
 obtain⟨e0,e1,e2,e3⟩:=IU a (g.bad p (List.mem_of_getElem? hpi))
 obtain⟨b,o,ha,hc⟩:=(hs.mono l1).bads.get hpi
 (refine aD ?_)
 refine⟨b,o,ha,by omega,by omega,_,hc,?_⟩
 obtain⟨b1,o1,t,ha1,hlt1,hc1,ht⟩:=(hpv.mono l1).at e0 e1
 refine⟨b1,o1,ha1,e0,hlt1,t,hc1,?_⟩
 obtain⟨b2,o2,ha2,hc2,hl2⟩:=ht.elt e2
 refine⟨b2,o2,ha2,by omega,by omega,_,hc2,?_⟩
 refine ad (fun e=>⟨_,l1,tU ?_ k⟩) (fun e=>?_)
 ·have e':=bZ e
  unfold xB t7
  rw [C9 hpi (by rw [decide_eq_true_eq];unfold aK;omega) hall]
 ·have e':=bA e
  rw [ay (by omega)]
  refine hnx hlt _ _ ⟨rfl,rfl,?_⟩
  rw [OZ hpi,hall,Bool.false_or,decide_eq_false_iff_not]
  unfold aK;omega
def ii (binds:List BindP) (p:Nat):Int:=match bO binds p with|some k=>k|none=> -1
theorem sf (b:BindP) (r:List BindP) (p:Nat):bO (b::r) p=if b.state=(p:Int)then some b.node.toNat else bO r p:=by
 unfold bO
 rw [List.find?_cons]
 by_cases e:b.state=(p:Int)<;>simp [e]
theorem lw {h:Hp} {s:Sl} {binds:List BindP} {p:Nat} {R:Value->Hp->Prop} (hs:iH h s binds) (hl:binds.length<=1048576) (h0: ∀b∈binds,0<=b.node)
  (k:R (I (ii binds p)) h):gv #[s.v,I p] h R:=by
 apply Mu
 refine uf_ ?_
 have hn:=hs.len
 refine au binds.length (fun i vs h'=>h'=h/\vs= [s.v,I p,I i]/\bO (binds.drop i) p=bO binds p) ⟨rfl,rfl,rfl⟩ ?_
 rintro i _ _ next hi ⟨rfl,rfl,hall⟩ hnx
 rename_i h
 refine⟨s,_,_,rfl,?_⟩
 by_cases hlt:i<binds.length
 rotate_left
 ·refine aC (by simp;omega) (tU ?_ k)
  rw [List.drop_of_length_le (by omega)]at hall
  unfold ii
  rw [<-hall];rfl
 refine aM (by simp;omega) ?_
 obtain⟨x,hxi⟩: ∃x,binds[i]?=some x:=⟨_,List.getElem?_eq_getElem hlt⟩
 have hx0:=h0 x (List.mem_of_getElem? hxi)
 obtain⟨b,o,ha,c1,c2⟩:=hs.at hxi
 have hd:binds.drop i=x::binds.drop (i+1):=by
  rw [List.drop_eq_getElem_cons hlt]
  rw [List.getElem?_eq_getElem hlt]at hxi
  rw [Option.some.inj hxi]
 rw [hd,sf]at hall
 refine⟨b,o,ha,by omega,by omega,_,c1,?_⟩
 refine ad (fun e=>?_) (fun e=>?_)
 ·refine⟨b,o,ha,by omega,by omega,_,c2,tU ?_ k⟩
  rw [if_pos (bZ e)]at hall
  unfold ii
  rw [<-hall]
  show x.node=((x.node.toNat:Nat):Int)
  omega
 ·rw [ay (by omega)]
  rw [if_neg (bA e)]at hall
  exact hnx hlt _ _ ⟨rfl,rfl,hall⟩
theorem OX (h:Hp) (s t:Sl):(h.offS s).offS t=(h.offS t).offS s:=by
 unfold Hp.offS
 cases s.a<;>cases t.a<;>first|rfl|exact adb _ _ _
theorem Buf.beside {h:Hp} {s t:Sl} {sz sz':Nat} {cs ds:List Value} (e:Buf h s sz cs) (f:Buf (h.offS s) t sz' ds):Buf (h.offS t) s sz cs:=by
 refine⟨e.1,e.2.1,e.2.2.imp id ?_⟩
 rintro ⟨b,hb,hbb⟩
 refine⟨b,hb,?_⟩
 rcases f.2.2 with ⟨h0,_⟩|⟨c,hc,hcc⟩
 ·unfold Hp.offS;rw [h0];exact hbb
 ·have hne:c≠b:=by
   rintro rfl
   simp only [Hp.offS,hb,vX]at hcc;cases hcc
  simp only [Hp.offS,hc,Hp.off,Hp.set]
  rw [if_neg (fun e=>hne e.symm)];exact hbb
theorem bV {m:ah} (g:cr m) (kind:Int): ∀p∈av m.nodes kind,p<m.nodes.length:=fun p hp=>lv hp
theorem dU (l:List NodeP) (kind:Int):(av l kind).length<=l.length:=by
 unfold av
 refine Nat.le_trans (List.length_filter_le _ _) ?_
 rw [List.length_range];omega
theorem FQ {l:List NodeP} {ps:List Nat} {v:List Nat} (h:v∈ct l ps):v.length<=4:=by
 unfold ct at h
 obtain⟨p,_,rfl⟩:=List.mem_map.1 h
 rw [List.length_replicate];exact dk _ _
theorem zg {h:Hp} {M:MSl} {m:ah} {R:Value->Hp->Prop} (hs:aO h M m) (hm:bT m) (g:cr m)
  (k: ∀t h',h.le h'->t.n=m.nodes.length->gR h' t (kE m)->R (Sl.v t) h'):iB #[aQ M] h R:=by
 apply A6
 refine uf_ ?_
 have hp36:=dU m.nodes 36
 have hp35:=dU m.nodes 35
 have hns:=hm.nodes
 refine aj fun b7 h1 hb7 l1 f7=>?_
 have x7:=cf f7
 repeat' (refine aD ?_)
 refine dj (hs.mono l1) hm fun t1 h2 l2 p1=>⟨t1,rfl,?_⟩
 repeat' (((with_reducible apply m4);(assumption);(assumption)))
 have l12:=Hp.le_trans l1 l2
 refine mV (hs.mono l12) hm p1 (bV g 36) (by omega) fun o1 ts1 h3 c1 n1=>⟨o1,rfl,?_⟩
 have l23:=Hp.le_trans c1.le (aW _ _)
 have l13:=Hp.le_trans l2 l23
 repeat' (((with_reducible apply m4);(assumption);(assumption)))
 refine dj (hs.mono (Hp.le_trans l1 l13)) hm fun t2 h4 l4 p2=>⟨t2,rfl,?_⟩
 have l14:=Hp.le_trans l13 l4
 repeat' (((with_reducible apply m4);(assumption);(assumption)))
 refine mV (hs.mono (Hp.le_trans l1 l14)) hm p2 (bV g 35) (by omega) fun o2 ts2 h5 c2 n2=>⟨o2,rfl,?_⟩
 have l45:=Hp.le_trans c2.le (aW _ _)
 have l15:=Hp.le_trans l14 l45
 (((with_reducible apply m4);(assumption);(assumption)))
 have i1:IntSS h5 o1 ((ct m.nodes (stP m)).map VL):=(c1.ints (fun v hv=>by have:=FQ hv;omega) (by omega)).mono (Hp.le_trans l4 l45)
 have i2:IntSS h5 o2 ((ct m.nodes (inP m)).map VL):=c2.ints (fun v hv=>by have:=FQ hv;omega) (by omega)
 exact yl (hs.mono (Hp.le_trans l1 l15)) hm g.ok g.nl i1 c1.buf.2.1 (pN g.ok (ew _ _)) i2 c2.buf.2.1 (pN g.ok (ew _ _)) fun t h6 l6 hn hpv=>⟨t,rfl,k t h6 (Hp.le_trans l1 (Hp.le_trans l15 l6)) hn hpv⟩
theorem Nw (l:List NodeP) (a b:List Nat):ct l (a++b)=ct l a++ct l b:=by simp [ct]
structure ZS (l:List NodeP) (g:Hp) (ps:List Nat) (ts:List Sl):Prop where
 len:ts.length=ps.length
 val: ∀(j:Nat) (t:Sl),ts[j]?=some t->IntS g t (VL ((ct l ps).getD j []))
theorem ZS.mono {l:List NodeP} {g g':Hp} {ps:List Nat} {ts:List Sl} (le:g.le g') (e:ZS l g ps ts):ZS l g' ps ts:=⟨e.len,fun j t h=>(e.val j t h).mono le⟩
theorem ZS.snoc {l:List NodeP} {g:Hp} {ps:List Nat} {ts:List Sl} {p:Nat} {t:Sl} (e:ZS l g ps ts) (h:IntS g t (VL (List.replicate (aE l p) 0))):ZS l g (ps++ [p]) (ts++ [t]):=by
 refine⟨by simp [e.len],fun j u hu=>?_⟩
 rw [Nw]
 by_cases hj:j<ts.length
 ·rw [List.getElem?_append_left hj]at hu
  rw [ia (by rw [fy,<-e.len];exact hj)]
  exact e.val j u hu
 ·have hju:=get_lt hu
  simp at hju
  have hje:j=ts.length:=by omega
  subst hje
  rw [List.getElem?_append_right (Nat.le_refl _),Nat.sub_self]at hu
  simp at hu;subst hu
  rw [List.getD_eq_getElem?_getD,List.getElem?_append_right (by rw [fy,e.len];exact Nat.le_refl _),fy,e.len,Nat.sub_self]
  exact h
theorem ZS.ints {l:List NodeP} {g h:Hp} {ps:List Nat} {ts:List Sl} {s:Sl} (e:ZS l g ps ts) (le:g.le h) (hb:Buf h s 1 (ts.map Sl.v)) (hn:s.n<=1048576):IntSS h s ((ct l ps).map VL):=by
 refine⟨ts,by rw [List.length_map,fy];exact e.len,hb.slc_of (by omega),fun i h1 h2=>?_⟩
 have:=(e.val i _ (List.getElem?_eq_getElem h1)).mono le
 have hi:i<(ct l ps).length:=by rw [List.length_map]at h2;exact h2
 rw [List.getElem_map]
 rwa [List.getD_eq_getElem?_getD,List.getElem?_eq_getElem hi]at this
theorem HF {h:Hp} {M:MSl} {m:ah} {R:Value->Hp->Prop} (hs:aO h M m) (hm:bT m) (g:cr m)
  (k: ∀t h',h.le h'->t.n=m.nodes.length->gR h' t (kE m)->ae9 h t->R (Sl.v t) h'):mR #[aQ M] h R:=by
 apply JP
 refine uf_ ?_
 have hn:=hs.nodes.len
 have hns:=hm.nodes
 refine aj fun b7 h1 hb7 l1 f7=>?_
 refine au m.nodes.length (fun i vs h'=> ∃(ts us:List Sl) (sS sI:Sl),vs= [.pointer (some ⟨b7,0,none⟩),sS.v,sI.v,I i]/\h.le ((h'.offS sS).offS sI)/\((h'.offS sS).offS sI) b7=some (.inl ⟨aH M,5,false⟩)/\
  Buf h' sS 1 (ts.map Sl.v)/\Buf (h'.offS sS) sI 1 (us.map Sl.v)/\ZS m.nodes ((h'.offS sS).offS sI) (av (m.nodes.take i) 36) ts/\ZS m.nodes ((h'.offS sS).offS sI) (av (m.nodes.take i) 35) us/\sS.n<=i/\sI.n<=i)
  ⟨[], [],⟨none,0,0⟩,⟨none,0,0⟩,rfl,l1,f7,fG _ _,fG _ _,⟨rfl,fun j t ht=>by simp at ht⟩,⟨rfl,fun j t ht=>by simp at ht⟩,Nat.le_refl _,Nat.le_refl _⟩ ?_
 clear f7 l1 hb7 h1
 rintro i _ h1 next hi ⟨ts,us,sS,sI,rfl,l1,f7,bS,bI,zS,zI,nS,nI⟩ hnx
 have lo:=Hp.le_trans (aW (h1.offS sS) sI) (aW h1 sS)
 have l1':=Hp.le_trans l1 lo
 have f7':=lo _ _ f7
 refine⟨_,_,sS,sI,_,rfl,?_⟩
 repeat' (refine aD ?_)
 by_cases hlt:i<m.nodes.length
 rotate_left
 ·have hie:i=m.nodes.length:=by omega
  subst hie
  refine aC (by simp;omega) ?_
  repeat' (refine aD ?_)
  rw [List.take_of_length_le (Nat.le_refl _)]at zS zI
  have i1:=zS.ints lo bS (by omega)
  have i2:=zI.ints lo (bI.mono (aW _ _)) (by omega)
  exact pZ (hs.mono l1') hm g.ok g.nl i1 (pN g.ok (ew _ _)) i2 (pN g.ok (ew _ _)) fun t h6 l6 hn hpv pn=>⟨t,rfl,k t h6 (Hp.le_trans l1' l6) hn hpv fun b o e=>aF l1' (pn b o e)⟩
 refine aM (by simp;omega) ?_
 obtain⟨n,hni⟩: ∃n,m.nodes[i]?=some n:=⟨_,List.getElem?_eq_getElem hlt⟩
 (refine aD ?_)
 obtain⟨bn,on,han,e0,e1,e2,e3,e4,e5,e6,e7,e8⟩:=(hs.nodes.mono l1').at hni
 have hsa:ar m.nodes ((i:Nat):Int)=n.sort:=by unfold ar;rw [Int.toNat_natCast,hni]
 refine⟨bn,on,han,by omega,by omega,_,e6,_,e7,?_⟩
 refine gH ⟨_,rfl,?_⟩
 have hce:dg ⟨n.sort.idx,n.sort.wid⟩=aE m.nodes i:=by unfold aE;rw [hsa]
 rw [hce]
 have hc4:=dk m.nodes i
 refine⟨by omega,by omega,by omega,by omega,?_⟩
 refine aj fun b33 h2 hb33 l2 f33=>?_
 rw [Int.toNat_natCast,Nat.mul_one,cE]at f33
 refine aj fun b35 h3 hb35 l3 f35'=>?_
 have n33:=fresh_ne hb35 f33
 have b35n:=aF l2 hb35
 replace f33:=l3 _ _ f33
 (with_reducible apply cC);(exact f35');(exact Hp.le_trans l2 l3);(exact b35n);(exact Nat.le_refl 1)
 intro h4 f35 kp l4
 replace f33:=cB kp n33 f33
 have f35v:h4 b35=some (.inl ⟨[(⟨some ⟨b33,0,none⟩,aE m.nodes i,aE m.nodes i⟩:Sl).v],1,false⟩):=f35
 have hz4:IntS h4 ⟨some ⟨b33,0,none⟩,aE m.nodes i,aE m.nodes i⟩ (VL (List.replicate (aE m.nodes i) 0)):=by
  refine⟨by dsimp only;omega,by simp [aX], .inr ⟨b33,0,rfl,?_⟩⟩
  have hc:(VL (List.replicate (aE m.nodes i) 0)).map I=List.replicate (aE m.nodes i) (I 0):=by simp [VL]
  rw [hc];exact aw f33
 clear f35 f35' kp l2 l3 hb33 hb35 h2 h3
 have bS4:=bS.mono l4
 have bI4:=bI.mono (bC sS l4)
 have l4o:=bC sI (bC sS l4)
 have hz4o:IntS ((h4.offS sS).offS sI) ⟨some ⟨b33,0,none⟩,aE m.nodes i,aE m.nodes i⟩ (VL (List.replicate (aE m.nodes i) 0)):=(hz4.offL bS4).offL bI4
 have f35o:((h4.offS sS).offS sI) b35=some (.inl ⟨[(⟨some ⟨b33,0,none⟩,aE m.nodes i,aE m.nodes i⟩:Sl).v],1,false⟩):=by
  have d: ∀{s:Sl} {gg:Hp} {cs:List Value},gg.le h1->Buf gg s 1 cs-> ∀a,s.a=some a->a.block≠b35:=by
   intro s gg cs hg hb a ha e
   rcases hb.2.2 with ⟨h0,_⟩|⟨c,hc,hcb⟩
   ·rw [h0]at ha;cases ha
   ·rw [hc]at ha;cases ha
    subst e
    have:=hg _ _ hcb
    rw [b35n]at this;cases this
  rw [zu (d (aW _ _) bI),zu (d (Hp.le_refl _) bS)];exact f35v
 have hp36:=ja (kind:=36) hni
 have hp35:=ja (kind:=35) hni
 have f7'':=l4 _ _ f7'
 repeat' (refine aD ?_)
 refine⟨bn,on,han,by omega,by omega,_,l4.cell e0,?_⟩
 refine ap (fun J=> ∀(sS':Sl) (ts':List Sl) (h5:Hp),((h4.offS sS).offS sI).le ((h5.offS sS').offS sI)->Buf h5 sS' 1 (ts'.map Sl.v)->Buf (h5.offS sS') sI 1 (us.map Sl.v)->ZS m.nodes ((h5.offS sS').offS sI) (av (m.nodes.take (i+1)) 36) ts'->sS'.n<=i+1->J sS' h5) ?_ (fun J hJ=>?_)
 ·intro sS' ts' h5 l5 bS5 bI5 zS5 nS5
  have lo5:=Hp.le_trans (aW (h5.offS sS') sI) (aW h5 sS')
  have l15:=Hp.le_trans l4o l5
  have g7:=lo5 _ _ (l5 _ _ (l4o _ _ f7))
  have g35:=lo5 _ _ (l5 _ _ f35o)
  have e0':=(Hp.le_trans (Hp.le_trans l1 l15) lo5)
  obtain⟨bn',on',han',q0,_⟩:=(hs.nodes.mono e0').at hni
  (refine aD ?_)
  refine⟨bn',on',han',by omega,by omega,_,q0,?_⟩
  refine ad (fun e=>?_) (fun e=>?_)
  ·rw [if_pos (bZ e)]at hp35
   (refine aD ?_)
   refine aj fun b63 h6 hb63 l6 f63=>?_
   have l6o:=bC sS' l6
   have l6o2:=bC sI (bC sS' l6)
   have bS6:=bS5.mono l6
   have bI6:=bI5.mono l6o
   have bS6':=bS6.beside bI6
   refine dG (bI5.mono (Hp.le_trans l6o (aW _ _))) (by omega) (by omega) (by omega) ⟨b63,0,rfl,aw f63⟩ (by simp) rfl ?_
   intro s' h7 hs'n hbuf' l7 _
   rw [ay (by omega)]
   have bS7:Buf (h7.offS s') sS' 1 (ts'.map Sl.v):=bS6'.mono l7
   have bI7:Buf (h7.offS sS') s' 1 ((us++ [(⟨some ⟨b33,0,none⟩,aE m.nodes i,aE m.nodes i⟩:Sl)]).map Sl.v):=by
    rw [List.map_append];exact hbuf'.beside bS7
   have l57:((h5.offS sS').offS sI).le ((h7.offS sS').offS s'):=by
    have:=Hp.le_trans l6o2 (show ((h6.offS sS').offS sI).le ((h7.offS sS').offS s') by
     rw [OX h6,OX h7];exact bC sS' l7)
    exact this
   have l17:=Hp.le_trans l15 l57
   refine hnx hlt _ _ ⟨ts',_,sS',s',rfl,Hp.le_trans l1 l17,l17 _ _ f7,bS7.mono (aW _ _),bI7,zS5.mono l57,?_,nS5,by omega⟩
   rw [hp35]
   exact(zI.mono l17).snoc (hz4o.mono (Hp.le_trans l5 l57))
  ·rw [if_neg (bA e),List.append_nil]at hp35
   rw [ay (by omega)]
   refine hnx hlt _ _ ⟨ts',us,sS',sI,rfl,Hp.le_trans l1 l15,l15 _ _ f7,bS5,bI5,zS5,?_,nS5,by omega⟩
   rw [hp35];exact zI.mono l15
 ·refine ad (fun e=>?_) (fun e=>?_)
  ·rw [if_pos (bZ e)]at hp36
   have f35c:=(Hp.le_trans (aW (h4.offS sS) sI) (aW h4 sS)) _ _ f35o
   (refine aD ?_)
   refine aj fun b48 h6 hb48 l6 f48=>?_
   have l6o:=bC sS l6
   have l6o2:=bC sI l6o
   refine dG (bS4.mono l6) (by omega) (by omega) (by omega) ⟨b48,0,rfl,aw f48⟩ (by simp) rfl ?_
   intro s' h7 hs'n hbuf' l7 _
   have l47:=Hp.le_trans l6o2 (bC sI l7)
   have bI7:Buf (h7.offS s') sI 1 (us.map Sl.v):=bI4.mono (Hp.le_trans l6o l7)
   refine hJ s' (ts++ [(⟨some ⟨b33,0,none⟩,aE m.nodes i,aE m.nodes i⟩:Sl)]) h7 l47 (by rw [List.map_append];exact hbuf') bI7 ?_ (by omega)
   rw [hp36]
   exact(zS.mono (Hp.le_trans l4o l47)).snoc (hz4o.mono l47)
  ·rw [if_neg (bA e),List.append_nil]at hp36
   refine hJ sS ts h4 (Hp.le_refl _) bS4 bI4 ?_ (by omega)
   rw [hp36];exact zS.mono l4o
theorem Qj {h:Hp} {M:MSl} {m:ah} {R:Value->Hp->Prop} (hs:aO h M m) (hm:bT m) (g:cr m)
  (k: ∀t h',h.le h'->t.n=m.nodes.length->gR h' t (kE m)->R (Sl.v t) h'):mR #[aQ M] h R:=
 HF hs hm g fun t h' l hn hpv _=>k t h' l hn hpv
theorem Buf.fresh_ne {h:Hp} {s:Sl} {sz b:Nat} {cs:List Value} (e:Buf h s sz cs) (hb:h b=none): ∀a,s.a=some a->a.block≠b:=by
 intro a ha hab
 rcases e.2.2 with ⟨h0,_⟩|⟨c,hc,hcb⟩
 ·rw [h0]at ha;cases ha
 ·rw [hc]at ha;cases ha
  subst hab
  rw [hb]at hcb;cases hcb
theorem Buf.offS_new {h h':Hp} {s:Sl} {sz b:Nat} {cs:List Value} {x:Blk} (e:Buf h s sz cs) (hb:h b=none) (f:h' b=some x):(h'.offS s) b=some x:=by
 rw [zu (e.fresh_ne hb)];exact f
theorem Buf.sub_le {h h':Hp} {s:Sl} {sz:Nat} {cs:List Value} (e:Buf (h'.sub h) s sz cs) (l:h.le h'):h.le (h'.offS s):=by
 unfold Hp.offS
 rcases e.2.2 with ⟨h0,_⟩|⟨b,ha,hb⟩
 ·rw [h0];exact l
 ·rw [ha]
  refine zP ?_ l
  cases hx:h b with
  |none=>rfl
  |some x=>rw [mP hx]at hb;cases hb
theorem Buf.sub_buf {h h':Hp} {s:Sl} {sz:Nat} {cs:List Value} (e:Buf (h'.sub h) s sz cs):Buf h' s sz cs:=e.mono (Go.Lead.sub_le _ _)
theorem Buf.wr {h:Hp} {out x:Sl} {ts:List Sl} {q:Nat} {P:Hp->Prop} (e:Buf h out 1 (ts.map Sl.v)) (hq:q<ts.length)
  (k: ∀h',Buf h' out 1 ((ts.set q x).map Sl.v)->h'.offS out=h.offS out->P h'):
  ∃b o:Nat,out.a=some (Addr.mk b o none)/\(0:Int)<=(q:Int)/\(q:Int)<((out.n:Nat):Int)/\
   ∃(cs:List Value) (z:Nat),h b=some (.inl ⟨cs,z,false⟩)/\(o+Int.toNat (q:Int)*1)+1<=List.length cs/\cM (h.row b (bX cs (o+Int.toNat (q:Int)*1) [x.v]) z) P:=by
 have hl:=e.1
 rw [List.length_map]at hl
 rcases e.2.2 with ⟨_,h0,_⟩|⟨b,ha,hb⟩
 ·omega
 ·refine⟨b,0,ha,by omega,by omega,_,_,hb,by rw [List.length_map,Int.toNat_natCast];omega,?_⟩
  rw [VQ]
  refine k _ ⟨by rw [List.length_map,List.length_set];omega,e.2.1, .inr ⟨b,ha,?_⟩⟩ ?_
  ·rw [bU,bG,Int.toNat_natCast,Nat.zero_add,Nat.mul_one,List.map_set]
  ·unfold Hp.offS;rw [ha];exact zY _ _ _ _
theorem SG (v:List Nat) (i x:Nat):(VL (v++List.replicate i x)).map I++ [I (x:Int)]=(VL (v++List.replicate (i+1) x)).map I:=by
 rw [List.replicate_succ',<-List.append_assoc,yw (v++List.replicate i x),List.map_append];rfl
theorem wQ {h:Hp} {s:Sl} {v:List Nat} {i w:Int} {R:Value->Hp->Prop} (hs:IntS h s (VL v)) (h0:0<v.length) (hl:v.length<=4)
  (k: ∀t h',h.le h'->IntS h' t (VL (kK (dg ⟨i,w⟩) v))->R (.agg #[Sl.v t]) h'):ma #[.agg #[I i,I w], .agg #[s.v]] h R:=by
 apply Nz
 refine uf_ ?_
 refine aj fun b5 h1 hb5 l1 f5=>?_
 refine aj fun b7 h2 hb7 l2 f7=>?_
 replace f5:=l2 _ _ f5
 have l02:=Hp.le_trans l1 l2
 have b7n:=aF l1 hb7
 refine aj fun b9 h3 hb9 l3 f9=>?_
 have n59:=fresh_ne hb9 f5
 have n79:=fresh_ne hb9 f7
 have b9n:=aF l02 hb9
 replace f5:=l3 _ _ f5
 replace f7:=l3 _ _ f7
 have l03:=Hp.le_trans l02 l3
 (refine aD ?_)
 refine kI (hs.mono l03) (by rw [aX];omega) fun c h4 l4 hb4=>⟨c,rfl,?_⟩
 have l4o:=hb4.sub_le l4
 have hb4':=hb4.sub_buf
 refine aj fun b16 h5 hb16 l5 f16'=>?_
 have b16n:=aF l4 hb16
 have l5o:=Hp.le_trans l4o (bC c l5)
 have f16o:=hb4'.offS_new hb16 f16'
 (with_reducible apply xA);(exact f16o);(exact l5o);(exact b16n);(exact Nat.le_refl 1)
 intro h6 f16 kp l6 hbk
 have hbuf:=hbk _ _ (hb4'.mono l5)
 have hcn:=hbuf.1
 rw [List.length_map,aX]at hcn
 have hc4:=zW ⟨i,w⟩
 refine au (dg ⟨i,w⟩-v.length) (fun q vs h'=> ∃sl:Sl,vs= [.pointer (some ⟨b5,0,none⟩), .pointer (some ⟨b7,0,none⟩), .pointer (some ⟨b9,0,none⟩), .pointer (some ⟨b16,0,none⟩)]/\h3.le (h'.offS sl)/\
  (h'.offS sl) b16=some (.inl ⟨[sl.v],1,false⟩)/\sl.n=v.length+q/\Buf h' sl 1 ((VL (v++List.replicate q (v.getD 0 0))).map I)) ⟨c,rfl,l6,f16,by omega,by simpa using hbuf⟩ ?_
 clear hbuf hbk kp l6 f16 f16o l5o f16' l5 hb16 hb4' l4o hb4 l4 hcn h4 h5 h6
 rintro q _ h4 next hq ⟨sl,rfl,l4,f16,hsl,hbuf⟩ hnx
 have lo:=aW h4 sl
 have l4':=Hp.le_trans l4 lo
 have g5:=l4' _ _ f5
 have g7:=l4' _ _ f7
 have g16:=lo _ _ f16
 refine⟨_,_,_,_,_,_,_,_,rfl,?_⟩
 repeat' (refine aD ?_)
 refine oU ⟨_,rfl,rfl,?_⟩
 by_cases hlt:q<dg ⟨i,w⟩-v.length
 ·refine aM (by simp;omega) ?_
  repeat' (refine aD ?_)
  obtain⟨b,o,ha,hc,hln⟩:=((hs.mono l03).mono l4').elt (i:=0) h0
  refine⟨b,o,ha,by omega,by omega,_,hc,?_⟩
  have x16:=cf g16
  refine aj fun b48 h5 hb48 l5 f48=>?_
  (((with_reducible apply m4);(assumption);(assumption)))
  have l5o:=bC sl l5
  refine dG (hbuf.mono l5) (by omega) (by omega) (by omega) ⟨b48,0,rfl,aw f48⟩ (by simp) rfl ?_
  intro s' h6 hs'n hbuf' l6 _
  have l46:=Hp.le_trans l5o l6
  (with_reducible apply xA);(exact l46 _ _ f16);(exact Hp.le_trans l4 l46);(exact b16n);(exact Nat.le_refl 1)
  intro h7 e16 kp l7 hbk
  refine hnx hlt _ _ ⟨s',rfl,l7,e16,by omega,hbk _ _ ?_⟩
  rw [<-SG];exact hbuf'
 ·have hqe:q=dg ⟨i,w⟩-v.length:=by omega
  subst hqe
  refine aC (by simp;omega) ?_
  repeat' (refine aD ?_)
  have f9o:(h4.offS sl) b9=some (.inl ⟨[.slice none 0 0],1,false⟩):=l4 _ _ f9
  (with_reducible apply xA);(exact f9o);(exact Hp.le_trans l03 l4);(exact b9n);(exact Nat.le_refl 1)
  intro h7 e9 kp l7 hbk
  have e9':=aW _ _ _ _ e9
  refine⟨sl,by rw [ax e9'];rfl,k sl h7 (Hp.le_trans l7 (aW _ _)) ((hbk _ _ hbuf).slc_of (by omega))⟩
theorem Hl {h:Hp} {s:Sl} {v:List Nat} {c:Nat} {R:Value->Hp->Prop} (hs:IntS h s (VL v)) (h0:0<v.length) (hl:v.length<=4) (hc4:c<=4)
  (k: ∀t h',h.le h'->IntS h' t (VL (kK c v))->R (.agg #[Sl.v t]) h'):sx #[.agg #[s.v],I c] h R:=by
 apply Ng
 refine uf_ ?_
 refine aj fun b7 h2 hb7 l2 f7=>?_
 refine aj fun b9 h3 hb9 l3 f9=>?_
 have n79:=fresh_ne hb9 f7
 have b9n:=aF l2 hb9
 replace f7:=l3 _ _ f7
 have l03:=Hp.le_trans l2 l3
 (refine aD ?_)
 refine qq (hs.mono l03) (by rw [aX];omega) fun c0 h4 l4 hb4=>⟨c0,rfl,?_⟩
 have l4o:=hb4.sub_le l4
 have hb4':=hb4.sub_buf
 refine aj fun b16 h5 hb16 l5 f16'=>?_
 have b16n:=aF l4 hb16
 have l5o:=Hp.le_trans l4o (bC c0 l5)
 have f16o:=hb4'.offS_new hb16 f16'
 (with_reducible apply xA);(exact f16o);(exact l5o);(exact b16n);(exact Nat.le_refl 1)
 intro h6 f16 kp l6 hbk
 have hbuf:=hbk _ _ (hb4'.mono l5)
 have hcn:=hbuf.1
 rw [List.length_map,aX]at hcn
 refine au (c-v.length) (fun q vs h'=> ∃sl:Sl,vs= [I c, .pointer (some ⟨b7,0,none⟩), .pointer (some ⟨b9,0,none⟩), .pointer (some ⟨b16,0,none⟩)]/\h3.le (h'.offS sl)/\
  (h'.offS sl) b16=some (.inl ⟨[sl.v],1,false⟩)/\sl.n=v.length+q/\Buf h' sl 1 ((VL (v++List.replicate q (v.getD 0 0))).map I)) ⟨c0,rfl,l6,f16,by omega,by simpa using hbuf⟩ ?_
 clear hbuf hbk kp l6 f16 f16o l5o f16' l5 hb16 hb4' l4o hb4 l4 hcn h4 h5 h6
 rintro q _ h4 next hq ⟨sl,rfl,l4,f16,hsl,hbuf⟩ hnx
 have lo:=aW h4 sl
 have l4':=Hp.le_trans l4 lo
 have g7:=l4' _ _ f7
 have g16:=lo _ _ f16
 refine⟨_,_,_,_,_,_,_,rfl,?_⟩
 (refine aD ?_)
 by_cases hlt:q<c-v.length
 ·refine aM (by simp;omega) ?_
  repeat' (refine aD ?_)
  obtain⟨b,o,ha,hc,hln⟩:=((hs.mono l03).mono l4').elt (i:=0) h0
  refine⟨b,o,ha,by omega,by omega,_,hc,?_⟩
  have x16:=cf g16
  refine aj fun b48 h5 hb48 l5 f48=>?_
  (((with_reducible apply m4);(assumption);(assumption)))
  have l5o:=bC sl l5
  refine dG (hbuf.mono l5) (by omega) (by omega) (by omega) ⟨b48,0,rfl,aw f48⟩ (by simp) rfl ?_
  intro s' h6 hs'n hbuf' l6 _
  have l46:=Hp.le_trans l5o l6
  (with_reducible apply xA);(exact l46 _ _ f16);(exact Hp.le_trans l4 l46);(exact b16n);(exact Nat.le_refl 1)
  intro h7 e16 kp l7 hbk
  refine hnx hlt _ _ ⟨s',rfl,l7,e16,by omega,hbk _ _ ?_⟩
  rw [<-SG];exact hbuf'
 ·have hqe:q=c-v.length:=by omega
  subst hqe
  refine aC (by simp;omega) ?_
  repeat' (refine aD ?_)
  have f9o:(h4.offS sl) b9=some (.inl ⟨[.slice none 0 0],1,false⟩):=l4 _ _ f9
  (with_reducible apply xA);(exact f9o);(exact Hp.le_trans l03 l4);(exact b9n);(exact Nat.le_refl 1)
  intro h7 e9 kp l7 hbk
  have e9':=aW _ _ _ _ e9
  refine⟨sl,by rw [ax e9'];rfl,k sl h7 (Hp.le_trans l7 (aW _ _)) ((hbk _ _ hbuf).slc_of (by omega))⟩
def DU (m:ah) (v:List (List Nat)) (j p:Nat):List Nat:=((bO (m.nexts.take j) p).map fun k=>v.getD k []).getD (List.replicate (aE m.nodes p) 0)
theorem Rj (m:ah) (v:List (List Nat)) (p:Nat):DU m v m.nexts.length p=(gt m v p).getD (List.replicate (aE m.nodes p) 0):=by
 unfold DU gt;rw [List.take_length]
theorem Xo {m:ah} (g:cr m) (v:List (List Nat)) {j:Nat} {b:BindP} (hb:m.nexts[j]?=some b) (p:Nat):DU m v (j+1) p=if b.state=(p:Int)then v.getD b.node.toNat []else DU m v j p:=by
 unfold DU
 rw [LU (j6 g.twice).2.2 hb]
 split<;>rfl
theorem aei {m:ah} (g:cr m) {v:List (List Nat)} (a:Gs m v) {j p:Nat}:(DU m v j p).length<=4:=by
 unfold DU
 cases hb:bO (m.nexts.take j) p with
 |none=>simp only [Option.map_none,Option.getD_none,List.length_replicate];exact dk _ _
 |some k=>
  simp only [Option.map_some,Option.getD_some]
  obtain⟨b,hm,_,rfl⟩:=dV hb
  have hp:=ey.1 (dn (g.nex b (List.mem_of_mem_take hm))).2.1
  have:=qo g.ok (show b.node.toNat<m.nodes.length by omega) (a.fit b.node.toNat (by omega) (by omega))
  rw [this.1];exact dk _ _
theorem Jq (m:ah) (v:List (List Nat)) {i p:Nat} (h:(stP m)[i]?=some p):(eg m v).getD i []=DU m v m.nexts.length p:=by
 rw [Rj]
 unfold eg mE
 rw [List.getD_eq_getElem?_getD,List.getElem?_map,h];rfl
theorem gh {m:ah} (g:cr m) (kind:Int):(av m.nodes kind).length<=1048576:=by have:=dU m.nodes kind;have:=g.nl;omega
theorem G7 {h:Hp} {M:MSl} {m:ah} {s:Sl} {v:List (List Nat)} {R:Value->Hp->Prop} (hs:aO h M m) (hm:bT m) (g:cr m) (hpv:gR h s v) (a:Gs m v)
  (k: ∀out h',h.le h'->IntSS h' out ((eg m v).map VL)->R (Sl.v out) h'):kv #[aQ M,s.v] h R:=by
 apply CG
 refine uf_ ?_
 have hp36:(stP m).length<=m.nodes.length:=dU m.nodes 36
 have hnl:=g.nl
 have hxl:=g.xl
 have hxn:=hs.nexts.len
 refine aj fun b8 h1 hb8 l1 f8=>?_
 repeat' (refine aD ?_)
 refine dj (hs.mono l1) hm fun pt h2 l2 hp=>⟨pt,rfl,?_⟩
 replace f8:=l2 _ _ f8
 have l02:=Hp.le_trans l1 l2
 repeat' (refine aD ?_)
 refine mV (hs.mono l02) hm hp (bV g 36) (gh g 36) fun out ts h3 c1 hon=>⟨out,rfl,?_⟩
 have hpn:pt.n=(stP m).length:=by have:=hp.len;rw [aX]at this;exact this
 have f83:=aW _ _ _ _ (c1.le _ _ f8)
 (refine aD ?_)
 have hs2:=hs.mono l02
 have hpv2:=hpv.mono l02
 refine au m.nexts.length (fun j vs h'=> ∃ts:List Sl,vs= [s.v,pt.v,out.v,M.nex.v,I M.nex.n,I j]/\h2.le (h'.offS out)/\Buf h' out 1 (ts.map Sl.v)/\ts.length=(stP m).length/\
  ∀(i p:Nat) (t:Sl),(stP m)[i]?=some p->ts[i]?=some t->IntS (h'.offS out) t (VL (DU m v j p))) ⟨ts,rfl,c1.le,c1.buf,by rw [c1.len,fy],fun i p t hp ht=>?_⟩ ?_
 ·obtain⟨b,e1,e2,e3⟩:=c1.row i t ht
  have hz:(ct m.nodes (stP m)).getD i []=DU m v 0 p:=by
   unfold ct DU
   rw [List.getD_eq_getElem?_getD,List.getElem?_map,hp];rfl
  rw [hz]at e1 e3
  rw [e1]
  have:=aei g a (j:=0) (p:=p)
  exact⟨by dsimp only;omega,by simp [aX], .inr ⟨b,0,rfl,aw e3⟩⟩
 clear c1 f83 ts h3
 rintro j _ h3 next hj ⟨ts,rfl,l3,hbuf,htl,hts⟩ hnx
 have lo:=aW h3 out
 have l23:=Hp.le_trans l3 lo
 refine⟨s,pt,out,M.nex,_,_,rfl,?_⟩
 by_cases hlt:j<m.nexts.length
 rotate_left
 ·have hje:j=m.nexts.length:=by omega
  subst hje
  refine aC (by simp;omega) (k out h3 (Hp.le_trans l02 l23) ⟨ts,by unfold eg mE;rw [List.length_map,List.length_map];exact htl,hbuf.slc_of (by rw [hon];have:=gh g 36;omega),fun i h1 h2=>?_⟩)
  have hi:i<(stP m).length:=by omega
  have hpi:(stP m)[i]?=some (stP m)[i]:=List.getElem?_eq_getElem hi
  have:=(hts i _ _ hpi (List.getElem?_eq_getElem h1)).mono lo
  rw [<-Jq m v hpi]at this
  rw [List.getElem_map]
  rwa [List.getD_eq_getElem?_getD,List.getElem?_eq_getElem (by unfold eg mE;simp;exact hi)]at this
 refine aM (by simp;omega) ?_
 obtain⟨bd,hbd⟩: ∃bd,m.nexts[j]?=some bd:=⟨_,List.getElem?_eq_getElem hlt⟩
 obtain⟨q1,q2,q3,q4⟩:=dn (g.nex bd (List.mem_of_getElem? hbd))
 have q2':=ey.1 q2
 obtain⟨bx,ox,hax,cx1,cx2⟩:=(hs2.mono l23).nexts.at hbd
 refine⟨bx,ox,hax,by omega,by omega,_,cx1,_,cx2,?_⟩
 refine aj fun b48 h4 hb48 l4 f48'=>?_
 (with_reducible apply cC);(exact f48');(exact l4);(exact hb48);(exact Nat.le_refl 2)
 intro h5 f48 kp l5
 have l5o:=bC out l5
 have f48o:=hbuf.offS_new hb48 f48
 clear f48' kp l4
 refine au (stP m).length (fun q vs h'=> ∃ts:List Sl,vs= [s.v,pt.v,out.v, .pointer (some ⟨b48,0,none⟩),M.nex.v,I M.nex.n,I j,pt.v,I pt.n,I q]/\h2.le (h'.offS out)/\(h'.offS out) b48=some (.inl ⟨[I bd.state,I bd.node],2,false⟩)/\Buf h' out 1 (ts.map Sl.v)/\ts.length=(stP m).length/\
  ∀(i p:Nat) (t:Sl),(stP m)[i]?=some p->ts[i]?=some t->IntS (h'.offS out) t (VL (if i<q then DU m v (j+1) p else DU m v j p)))
  ⟨ts,rfl,Hp.le_trans l3 l5o,f48o,hbuf.mono l5,htl,fun i p t hp ht=>by rw [if_neg (by omega)];exact(hts i p t hp ht).mono l5o⟩ ?_
 clear f48o l5o l5 f48 hb48 hbuf htl hts ts l23 lo l3 hax cx1 cx2 h3 h4 h5
 rintro q _ h3 next2 hq ⟨ts,rfl,l3,f48,hbuf,htl,hts⟩ hnx2
 have lo:=aW h3 out
 have l23:=Hp.le_trans l3 lo
 have g48:=lo _ _ f48
 refine⟨s,pt,out,_,_,_,_,_,pt,_,_,rfl,?_⟩
 by_cases hlq:q<(stP m).length
 rotate_left
 ·refine aC (by simp;omega) ?_
  rw [ay (by omega)]
  refine hnx hlt _ _ ⟨ts,rfl,l3,hbuf,htl,fun i p t hp ht=>?_⟩
  have:=hts i p t hp ht
  rwa [if_pos (by have:=get_lt hp;omega)]at this
 refine aM (by simp;omega) ?_
 obtain⟨p,hpq⟩: ∃p,(stP m)[q]?=some p:=⟨_,List.getElem?_eq_getElem hlq⟩
 obtain⟨bp,op,hap,hcp⟩:=(hp.mono l23).get (ir hpq)
 refine ap (fun J=> ∀(ts':List Sl) (h':Hp),h2.le (h'.offS out)->(h'.offS out) b48=some (.inl ⟨[I bd.state,I bd.node],2,false⟩)->Buf h' out 1 (ts'.map Sl.v)->ts'.length=(stP m).length->
  (∀(i p:Nat) (t:Sl),(stP m)[i]?=some p->ts'[i]?=some t->IntS (h'.offS out) t (VL (if i<q+1 then DU m v (j+1) p else DU m v j p)))->J h') ?_ (fun J hJ=>?_)
 ·intro ts' h' a1 a2 a3 a4 a5
  rw [ay (by omega)]
  exact hnx2 hlq _ _ ⟨ts',rfl,a1,a2,a3,a4,a5⟩
 refine⟨bp,op,hap,by omega,by omega,_,hcp,?_⟩
 (refine aD ?_)
 have hst:=Xo g v hbd p
 refine ad (fun e=>?_) (fun e=>?_)
 ·rw [if_pos (bZ e).symm]at hst
  (refine aD ?_)
  obtain⟨bv,ov,t,hav,hvn,hcv,ht⟩:=(hpv2.mono l23).at q2'.1 (by rw [a.len];exact q2'.2)
  refine⟨bv,ov,hav,q2'.1,hvn,t,hcv,?_⟩
  refine hbuf.wr (x:=t) (by omega) fun h4 hbuf' ho=>?_
  refine hJ _ h4 (by rw [ho];exact l3) (by rw [ho];exact f48) hbuf' (by rw [List.length_set];exact htl) fun i p' u hp' hu=>?_
  rw [ho]
  by_cases hiq:i=q
  ·subst hiq
   rw [hpq]at hp';cases hp'
   rw [List.getElem?_set_self (by omega)]at hu
   obtain rfl:=Option.some.inj hu
   rw [if_pos (by omega),hst]
   obtain⟨bv',ov',t',hav',_,hcv',ht'⟩:=(hpv2.mono l3).at q2'.1 (by rw [a.len];exact q2'.2)
   rw [hav]at hav';cases hav'
   have:=lo.cell hcv'
   rw [hcv]at this
   have htt:t=t':=by
    rcases t with ⟨ta,tn,tc⟩;rcases t' with ⟨ta',tn',tc'⟩
    simpa using this
   rw [htt];exact ht'
  ·rw [List.getElem?_set_ne (fun e=>hiq e.symm)]at hu
   have:=hts i p' u hp' hu
   by_cases h1:i<q
   ·rw [if_pos h1]at this;rw [if_pos (by omega)];exact this
   ·rw [if_neg h1]at this;rw [if_neg (by omega)];exact this
 ·rw [if_neg (fun e'=>bA e e'.symm)]at hst
  refine hJ ts h3 l3 f48 hbuf htl fun i p' u hp' hu=>?_
  have:=hts i p' u hp' hu
  by_cases hiq:i=q
  ·subst hiq
   rw [hpq]at hp';cases hp'
   rw [if_neg (by omega)]at this
   rw [if_pos (by omega),hst];exact this
  ·by_cases h1:i<q
   ·rw [if_pos h1]at this;rw [if_pos (by omega)];exact this
   ·rw [if_neg h1]at this;rw [if_neg (by omega)];exact this
theorem LP {m:ah} (g:cr m) {p k:Nat} (h:bO m.nexts p=some k):k<m.nodes.length:=by
 obtain⟨b,hb,_,rfl⟩:=dV h
 have:=ey.1 (dn (g.nex b hb)).2.1
 omega
def nf (m:ah) (s i:Nat):Nat:=dX m.nodes (stP m) (eg m (bL m s i))
theorem jR {m:ah} (kind:Int) (code:Nat) (g:cr m):k8 m.nodes kind (dM m.nodes (av m.nodes kind) code):=LO g.ok kind code
theorem wE {h:Hp} {M:MSl} {m:ah} {st inp:Nat} {R:Value->Hp->Prop} (hs:aO h M m) (hm:bT m) (g:cr m) (h1:st<=1048576) (h2:inp<=1048576)
  (k:R (I (nf m st inp)) h):pw #[aQ M,I st,I inp] h R:=by
 refine ACalls.drop (MY ?_)
 refine uf_ ?_
 have hp36:(stP m).length<=m.nodes.length:=dU m.nodes 36
 have hp35:(inP m).length<=m.nodes.length:=dU m.nodes 35
 have hnl:=g.nl
 have hn8:=g.n8
 have hk5:=g.k5
 have hxl:=g.xl
 refine aj fun b9 g1 hb9 l1 f9=>?_
 have x9:=cf f9
 repeat' (refine aD ?_)
 refine cJ (hs.mono l1) hm fun p1 g2 l2 i1=>⟨p1,rfl,?_⟩
 have f92:=l2 _ _ f9
 have x92:=cf f92
 repeat' (refine aD ?_)
 have l02:=Hp.le_trans l1 l2
 refine fP (hs.mono l02) hm g.ok i1 (bV g 36) (gh g 36) h1 (by rw [eM g];omega) fun u1 g3 l3 hu1=>⟨u1,rfl,?_⟩
 repeat' (((with_reducible apply m4);(assumption);(assumption)))
 have l03:=Hp.le_trans l02 l3
 refine cJ (hs.mono l03) hm fun p2 g4 l4 i2=>⟨p2,rfl,?_⟩
 have l24:=Hp.le_trans l3 l4
 repeat' (((with_reducible apply m4);(assumption);(assumption)))
 have l04:=Hp.le_trans l03 l4
 refine fP (hs.mono l04) hm g.ok i2 (bV g 35) (gh g 35) h2 (by rw [xf g];omega) fun u2 g5 l5 hu2=>⟨u2,rfl,?_⟩
 have l25:=Hp.le_trans l24 l5
 (((with_reducible apply m4);(assumption);(assumption)))
 have l05:=Hp.le_trans l04 l5
 refine pZ (hs.mono l05) hm g.ok g.nl (hu1.mono (Hp.le_trans l4 l5)) (jR 36 st g) hu2 (jR 35 inp g) fun vt g6 l6 hvn hpv _=>⟨vt,rfl,?_⟩
 have a:Gs m (bL m st inp):=dr g st inp
 have hpv':gR g6 vt (bL m st inp):=hpv
 have hbn: ∀b∈m.nexts,0<=b.node:=fun b hb=>(ey.1 (dn (g.nex b hb)).2.1).1
 have l06:=Hp.le_trans l05 l6
 have f96:=l6 _ _ (l25 _ _ f92)
 have i16:=i1.mono (Hp.le_trans l25 l6)
 have hpn:p1.n=(stP m).length:=by have:=i1.len;rw [aX]at this;exact this
 unfold nf at k
 generalize bL m st inp=v at*
 have hs6:=hs.mono l06
 refine au (stP m).length (fun i vs h'=> ∃(ts:List Sl) (out:Sl),vs= [.pointer (some ⟨b9,0,none⟩),p1.v,vt.v,out.v,I i]/\g6.le (h'.offS out)/\out.n=i/\ts.length=i/\Buf h' out 1 (ts.map Sl.v)/\
  (∀(j:Nat) (t:Sl),ts[j]?=some t->IntS (h'.offS out) t (VL ((eg m v).getD j [])))) ⟨[],⟨none,0,0⟩,rfl,Hp.le_refl _,rfl,rfl,fG _ _,fun j t ht=>by simp at ht⟩ ?_
 rintro i _ h3 next hi ⟨ts,out,rfl,l3',hon,htl,hbuf,hts⟩ hnx
 have lo:=aW h3 out
 have l63:=Hp.le_trans l3' lo
 have f93:=l63 _ _ f96
 refine⟨_,_,p1,vt,out,_,rfl,?_⟩
 by_cases hlt:i<(stP m).length
 rotate_left
 ·have hie:i=(stP m).length:=by omega
  subst hie
  refine aC (by simp;omega) ?_
  repeat' (refine aD ?_)
  have hfl:(eg m v).length=(stP m).length:=by unfold eg mE;simp
  have iss:IntSS h3 out ((eg m v).map VL):=⟨ts,by simp;omega,hbuf.slc_of (by omega),fun j h1 h2=>by
   have:=(hts j _ (List.getElem?_eq_getElem h1)).mono lo
   rw [List.getElem_map]
   rwa [List.getD_eq_getElem?_getD,List.getElem?_eq_getElem (by rw [hfl];omega)]at this⟩
  exact qn (hs6.mono l63) hm g.ok (i16.mono l63) (bV g 36) (gh g 36) iss (jH g a.fit) (by rw [eM g];omega) ⟨_,rfl,_,Hp.le_trans l06 l63,k⟩
 refine aM (by simp;omega) ?_
 obtain⟨p,hpi⟩: ∃p,(stP m)[i]?=some p:=⟨_,List.getElem?_eq_getElem hlt⟩
 have hpm:=bV g 36 p (List.mem_of_getElem? hpi)
 obtain⟨bp,op,hap,hcp⟩:=(i16.mono l63).get (ir hpi)
 refine⟨bp,op,hap,by omega,by omega,?_⟩
 (refine aD ?_)
 refine⟨_,hcp,?_⟩
 refine lw (hs6.mono l63).nexts (by omega) hbn ⟨_,rfl,?_⟩
 have hfg:=Jq m v hpi
 rw [Rj]at hfg
 have app: ∀(t:Sl) (h4:Hp),h3.le h4->IntS h4 t (VL ((eg m v).getD i []))-> ∀(b:Nat),h4 b=none->cM (h4.row b [t.v] 1) fun h5=>cy h5 out.a out.n out.c (some ⟨b,0,none⟩) 1 1 24 fun a n k h6=>next [.pointer (some ⟨b9,0,none⟩),p1.v,vt.v, .slice a n k,I (W ((i:Int)+1))] h6:=by
  intro t h4 l4' ht
  refine aj fun b h5 hb l5' f5=>?_
  have l35:=Hp.le_trans l4' l5'
  have l35o:=bC out l35
  refine dG (hbuf.mono l35) (by omega) (by omega) (by omega) ⟨b,0,rfl,aw f5⟩ (by simp) rfl ?_
  intro s' h6 hs'n hbuf' l6' _
  rw [ay (by omega)]
  have l36:=Hp.le_trans l35o l6'
  have hbuf'':Buf h6 s' 1 ((ts++ [t]).map Sl.v):=by rw [List.map_append];exact hbuf'
  refine hnx hlt _ _ ⟨ts++ [t],s',rfl,Hp.le_trans l3' l36,by omega,by simp;omega,hbuf'',fun j u hu=>?_⟩
  by_cases hj:j<i
  ·rw [List.getElem?_append_left (by omega)]at hu
   exact(hts j u hu).mono l36
  ·have hju:=get_lt hu
   simp at hju
   have hje:j=i:=by omega
   subst hje
   rw [List.getElem?_append_right (by omega),htl,Nat.sub_self]at hu
   simp at hu;subst hu
   exact((ht.mono l5').offL (hbuf.mono l35)).mono l6'
 cases hbo:bO m.nexts p with
 |some q=>
  rw [show ii m.nexts p=(q:Int)from by unfold ii;rw [hbo]]
  refine aM (by simp) ?_
  have hqn:=LP g hbo
  obtain⟨bv,ov,t,hav,hvn',hcv,ht⟩:=(hpv'.mono l63).at (p:=(q:Int)) (by omega) (by rw [a.len];omega)
  refine⟨bv,ov,hav,by omega,hvn',t,hcv,?_⟩
  refine app t h3 (Hp.le_refl _) ?_
  rw [hfg]
  unfold gt
  rw [hbo]
  simpa using ht
 |none=>
  rw [show ii m.nexts p= -1 from by unfold ii;rw [hbo]]
  refine aC (by simp) ?_
  refine⟨bp,op,hap,by omega,by omega,?_⟩
  (refine aD ?_)
  refine⟨_,hcp,?_⟩
  obtain⟨bn,on,han,hpn',c6,c7,w1,w16⟩:=(hs6.mono l63).nodes.sortc2 hpm g.ok
  refine⟨bn,on,han,by omega,hpn',_,c6,_,c7,?_⟩
  refine gH ⟨_,rfl,?_⟩
  rw [pA g.ok hpm]
  have hc4:=dk m.nodes p
  refine⟨by omega,by omega,by omega,by omega,?_⟩
  refine aj fun b33 h4 hb33 l4' f33=>?_
  rw [Int.toNat_natCast,Nat.mul_one,cE]at f33
  refine app ⟨some ⟨b33,0,none⟩,aE m.nodes p,aE m.nodes p⟩ h4 l4' ?_
  rw [hfg]
  unfold gt
  rw [hbo]
  simp only [Option.map_none,Option.getD_none]
  refine⟨by dsimp only;omega,by simp [aX], .inr ⟨b33,0,rfl,?_⟩⟩
  have hc:(VL (List.replicate (aE m.nodes p) 0)).map I=List.replicate (aE m.nodes p) (I 0):=by simp [VL]
  rw [hc];exact aw f33
structure Kn (g h:Hp) (L:List (Nat×Blk)):Prop where
 le:g.le h
 mem: ∀e∈L,h e.1=some e.2
 new: ∀e∈L,g e.1=none
 nd:(L.map Prod.fst).Nodup
inductive Upd :List (Nat×Blk)->Nat->Blk->Blk->List (Nat×Blk)->Prop
 |head {L:List (Nat×Blk)} {b:Nat} {x y:Blk}:Upd ((b,x)::L) b x y ((b,y)::L)
 |tail {L L':List (Nat×Blk)} {b:Nat} {x y:Blk} {e:Nat×Blk}:Upd L b x y L'->Upd (e::L) b x y (e::L')
theorem Kn.nil (h:Hp):Kn h h []:=⟨Hp.le_refl _,fun e h=>(by simp at h),fun e h=>(by simp at h),List.nodup_nil⟩
theorem Kn.of {g h:Hp} (l:g.le h):Kn g h []:=⟨l,fun e h=>(by simp at h),fun e h=>(by simp at h),List.nodup_nil⟩
section
variable {g h h':Hp} {L L':List (Nat×Blk)}
theorem Kn.at (K:Kn g h L) {b:Nat} {x:Blk} (e:(b,x)∈L):h b=some x:=K.mem _ e
theorem Kn.mono (K:Kn g h L) (l:h.le h'):Kn g h' L:=⟨Hp.le_trans K.le l,fun e he=>l _ _ (K.mem e he),K.new,K.nd⟩
theorem Kn.cons (K:Kn g h L) {b:Nat} {x:Blk} (hb:h b=none) (l:h.le h') (f:h' b=some x):Kn g h' ((b,x)::L):=by
 refine⟨Hp.le_trans K.le l,fun e he=>?_,fun e he=>?_,?_⟩
 ·rcases List.mem_cons.1 he with rfl|he
  ·exact f
  ·exact l _ _ (K.mem e he)
 ·rcases List.mem_cons.1 he with rfl|he
  ·exact aF K.le hb
  ·exact K.new e he
 ·rw [List.map_cons,List.nodup_cons]
  refine⟨fun hm=>?_,K.nd⟩
  obtain⟨e,he,heb⟩:=List.mem_map.1 hm
  have:=K.mem e he
  rw [show e.1=b from heb,hb]at this;cases this
theorem Kn.al (K:Kn g h L) {cs:Nat->List Value} {n:Nat->Nat} {P:Nat->Hp->Prop} (k: ∀b h',Kn g h' ((b, .inl ⟨cs b,n b,false⟩)::L)->h.le h'->h b=none->P b h'):
  ∀b,h b=none->cM (h.row b (cs b) (n b)) fun h'=>P b h':=
 fun b hb=>k b _ (K.cons hb (gp _ _ hb) (bU _ _ _ _)) (gp _ _ hb) hb
theorem Upd.mem {b:Nat} {x y:Blk} (u:Upd L b x y L'):(b,x)∈L:=by
 induction u with
 |head=>exact .head _
 |tail _ ih=>exact .tail _ ih
theorem Upd.keys {b:Nat} {x y:Blk} (u:Upd L b x y L'):L'.map Prod.fst=L.map Prod.fst:=by
 induction u with
 |head=>rfl
 |tail _ ih=>rw [List.map_cons,List.map_cons,ih]
theorem Upd.out {b:Nat} {x y:Blk} (u:Upd L b x y L') (nd:(L.map Prod.fst).Nodup): ∀e∈L',e=(b,y)\/(e∈L/\e.1≠b):=by
 induction u with
 |head=>
  intro e he
  rcases List.mem_cons.1 he with rfl|he
  ·exact .inl rfl
  ·rw [List.map_cons,List.nodup_cons]at nd
   exact .inr ⟨.tail _ he,fun eb=>nd.1 (List.mem_map.2 ⟨e,he,eb⟩)⟩
 |tail u ih=>
  rename_i L L' b x y e0
  rw [List.map_cons,List.nodup_cons]at nd
  intro e he
  rcases List.mem_cons.1 he with rfl|he
  ·exact .inr ⟨.head _,fun eb=>nd.1 (List.mem_map.2 ⟨_,u.mem,eb.symm⟩)⟩
  ·rcases ih nd.2 e he with h|⟨h1,h2⟩
   ·exact .inl h
   ·exact .inr ⟨.tail _ h1,h2⟩
theorem Kn.set (K:Kn g h L) {b z z':Nat} {cs cs':List Value} {ro:Bool} (u:Upd L b (.inl ⟨cs,z,ro⟩) (.inl ⟨cs',z',false⟩) L'):Kn g (h.row b cs' z') L':=by
 have hb:=K.new _ u.mem
 refine⟨eu _ _ hb K.le,fun e he=>?_,fun e he=>?_,by rw [u.keys];exact K.nd⟩
 ·rcases u.out K.nd e he with rfl|⟨h1,h2⟩
  ·exact bU _ _ _ _
  ·rw [cl _ _ h2];exact K.mem e h1
 ·rcases u.out K.nd e he with rfl|⟨h1,h2⟩
  ·exact hb
  ·exact K.new e h1
theorem Kn.wr (K:Kn g h L) {b z o m:Nat} {cs vs:List Value} {P:Hp->Prop} (u:Upd L b (.inl ⟨cs,z,false⟩) (.inl ⟨bX cs o vs,z,false⟩) L') (hl:m<=cs.length)
  (k: ∀h',Kn g h' L'->(∀c,c≠b->h' c=h c)->P h'):
  ∃(cs':List Value) (z':Nat),h b=some (.inl ⟨cs',z',false⟩)/\m<=List.length cs'/\cM (h.row b (bX cs' o vs) z') fun h'=>P h':=
 ⟨cs,z,K.at u.mem,hl,k _ (K.set u) fun c hc=>cl _ _ hc⟩
theorem Kn.base (K:Kn g h L):Kn (h.wo (L.map Prod.fst)) h L:=⟨un _ _,K.mem,fun e he=>fT (List.mem_map.2 ⟨e,he,rfl⟩),K.nd⟩
theorem Kn.leBase (K:Kn g h L):g.le (h.wo (L.map Prod.fst)):=vH K.le fun b hb=>by
 obtain⟨e,he,rfl⟩:=List.mem_map.1 hb
 exact K.new e he
theorem Kn.has (K:Kn g h L): ∀b∈L.map Prod.fst,h b≠none:=fun b hb=>by
 obtain⟨e,he,rfl⟩:=List.mem_map.1 hb
 rw [K.mem e he];simp
theorem Kn.eq {g':Hp} (K':Kn g' h' L') (K:Kn g h L) {b:Nat} {x:Blk} {P:Prop} (e':(b,x)∈L') (e:(b,x)∈L) (k:P):h' b=h b/\P:=⟨by rw [K'.at e',K.at e],k⟩
theorem Kn.eqg (K':Kn g h' L') (K:Kn g h L) {b:Nat} {P:Prop} (e:g b≠none) (k:P):h' b=h b/\P:=by
 refine⟨?_,k⟩
 cases hb:g b with
 |none=>exact absurd hb e
 |some x=>rw [K'.le _ _ hb,K.le _ _ hb]
theorem Kn.sub (K:Kn g h L) (m: ∀e∈L',e∈L) (nd:(L'.map Prod.fst).Nodup):Kn g h L':=⟨K.le,fun e he=>K.mem e (m e he),fun e he=>K.new e (m e he),nd⟩
theorem Kn.wrS {s:Sl} (K:Kn g (h.offS s) L) {b z o m:Nat} {cs vs:List Value} {P:Hp->Prop} (u:Upd L b (.inl ⟨cs,z,false⟩) (.inl ⟨bX cs o vs,z,false⟩) L') (hl:m<=cs.length)
  (k: ∀h',Kn g (h'.offS s) L'->(∀sz bs,Buf h s sz bs->Buf h' s sz bs)->(∀c,c≠b->(h'.offS s) c=(h.offS s) c)->P h'):
  ∃(cs':List Value) (z':Nat),h b=some (.inl ⟨cs',z',false⟩)/\m<=List.length cs'/\cM (h.row b (bX cs' o vs) z') fun h'=>P h':=by
 have f:=K.at u.mem
 refine⟨cs,z,aW _ _ _ _ f,hl,k _ ?_ (fun sz bs e=>e.row _ _ f) fun c hc=>?_⟩
 ·rw [tE _ _ f];exact K.set u
 ·rw [tE _ _ f,cl _ _ hc]
end
theorem gT {b o:Nat} {P:Nat->Nat->Prop} (k:P b o): ∃b' o':Nat,some (Addr.mk b o none)=some (Addr.mk b' o' none)/\P b' o':=⟨b,o,rfl,k⟩
theorem Kn.rd {α:Type} {f:α->Value} {g h:Hp} {L:List (Nat×Blk)} (K:Kn g h L) {b z o:Nat} {cs:List Value} {ro:Bool} {x:α} {P:α->Prop} (e:(b, .inl ⟨cs,z,ro⟩)∈L) (c:cs[o]?=some (f x)) (k:P x): ∃y:α,Hp.cell h b o=some (f y)/\P y:=⟨x,by rw [ax (K.at e)];exact c,k⟩
theorem Kn.rg {α:Type} {f:α->Value} {g h:Hp} {L:List (Nat×Blk)} (K:Kn g h L) {b z o:Nat} {cs:List Value} {ro:Bool} {x:α} {P:α->Prop} (e:g b=some (.inl ⟨cs,z,ro⟩)) (c:cs[o]?=some (f x)) (k:P x): ∃y:α,Hp.cell h b o=some (f y)/\P y:=⟨x,by rw [ax (K.le _ _ e)];exact c,k⟩
theorem kr_ {P Q:Prop} (k:Q) (h:Q->P:=by(first
 |((with_reducible apply Kn.rd);(assumption);((focus ((repeat first|exact .head _|apply List.Mem.tail);done)));(exact rfl))
 |((with_reducible apply Kn.rg);(assumption);(assumption);(exact rfl))
 |with_reducible exact And.intro (Eq.refl _)
 |with_reducible exact And.intro True.intro
 |with_reducible exact gT
 |((with_reducible apply Kn.eq);(assumption);(assumption);((focus ((repeat first|exact .head _|apply List.Mem.tail);done)));((focus ((repeat first|exact .head _|apply List.Mem.tail);done))))
 |((with_reducible apply Kn.eqg);(assumption);(assumption);(assumption))
 |fail)):P:=h k
theorem kw_ {P Q:Prop} (k:Q) (h:Q->P:=by((with_reducible apply Kn.wr);(assumption);(((focus ((repeat first|exact .head|apply Upd.tail);done))));(exact of_decide_eq_true rfl))):P:=h k
theorem Ui (l:List NodeP) (c:Nat->Bool) (p:Nat): ∀ps,ij l c (ps++ [p])=ij l c ps+2^cH l ps*(if c p then 2^nbA l p-1 else 0):=by
 intro ps
 induction ps with
 |nil=>simp [ij,cH]
 |cons q ps ih=>
  simp only [List.cons_append,ij]
  rw [ih,rO,Nat.pow_add,Nat.mul_add,Nat.mul_assoc,Nat.add_assoc]
theorem LM {l:List NodeP} {ps:List Nat} {c:Nat->Bool} {i p:Nat} (h:ps[i]?=some p):ij l c (ps.take (i+1))=ij l c (ps.take i)+2^cH l (ps.take i)*(if c p then 2^nbA l p-1 else 0):=by
 have hlt:=get_lt h
 rw [List.getElem?_eq_getElem hlt]at h
 rw [List.take_succ_eq_append_getElem hlt,Ui,Option.some.inj h]
theorem TR {binds:List BindP} {j:Nat} {b:BindP} (hb:binds[j]?=some b) (p:Nat):(bO (binds.take (j+1)) p).isSome=((bO (binds.take j) p).isSome||decide (b.state=(p:Int))):=by
 have hlt:=get_lt hb
 have hg:binds[j]=b:=by rw [List.getElem?_eq_getElem hlt]at hb;exact Option.some.inj hb
 unfold bO
 rw [List.take_succ_eq_append_getElem hlt,List.find?_append,hg]
 cases hf:(binds.take j).find? (fun b=>decide (b.state=(p:Int)))with
 |some x=>simp
 |none=>
  by_cases e:b.state=(p:Int)<;>simp [e]
theorem ae8 {l:List NodeP} {p:Nat}:dT (ar l p)=nbA l p:=by unfold dT nbA bK aE;rw [Nat.mul_comm]
theorem aaN {l:List NodeP} {ps:List Nat} {i p:Nat} (h:ps[i]?=some p):cH l (ps.take i)+nbA l p<=cH l ps:=by
 have:=nq (l:=l) h
 have:=I9 l ps (i+1)
 unfold nbA;omega
theorem ago {l:List NodeP} {p:Nat} (hok:bQ l=true) (hp:p<l.length):dT ⟨(ar l p).idx,(bK l p:Nat)⟩=nbA l p:=by
 have:=bD.1 (sR hok hp)
 have hw:((bK l p:Nat):Int)=(ar l p).wid:=by unfold bK;omega
 rw [hw];exact ae8
theorem BF {h:Hp} {M:MSl} {m:ah} {s:Sl} {binds:List BindP} {R:Value->Hp->Prop} (hs:aO h M m) (hm:bT m) (g:cr m) (hb:iH h s binds) (hbl:binds.length<=1048576)
  (k:R (I (UW m binds)) h):jm #[aQ M,s.v] h R:=by
 refine ACalls.drop (zq ?_)
 refine uf_ ?_
 have hn8:=g.n8
 have hsw:=eM g
 have hbn:=hb.len
 have hp36:(stP m).length<=m.nodes.length:=dU m.nodes 36
 have hnl:=g.nl
 refine aj fun b8 h1 hb8 l1 f8=>?_
 repeat' (refine aD ?_)
 refine dj (hs.mono l1) hm fun pt h2 l2 hp=>⟨pt,rfl,?_⟩
 have hpn:pt.n=(stP m).length:=by have:=hp.len;rw [aX]at this;exact this
 have l02:=Hp.le_trans l1 l2
 replace f8:=l2 _ _ f8
 refine au (stP m).length (fun i vs h'=>vs= [s.v, .pointer (some ⟨b8,0,none⟩),I (ij m.nodes (fun p=>(bO binds p).isSome) ((stP m).take i):Nat),I (cH m.nodes ((stP m).take i):Nat),pt.v,I pt.n,I i]/\h2.le h') ⟨by simp [ij,cH],Hp.le_refl _⟩ ?_
 rintro i _ h3 next hi ⟨rfl,l3⟩ hnx
 refine⟨s,_,_,_,_,pt,_,_,rfl,?_⟩
 have l03:=Hp.le_trans l02 l3
 have f83:=l3 _ _ f8
 by_cases hlt:i<(stP m).length
 rotate_left
 ·have hie:i=(stP m).length:=by omega
  subst hie
  refine aC (by simp;omega) ⟨_,l03,?_⟩
  rw [List.take_of_length_le (Nat.le_refl _)];exact k
 refine aM (by simp;omega) ?_
 obtain⟨p,hpi⟩: ∃p,(stP m)[i]?=some p:=⟨_,List.getElem?_eq_getElem hlt⟩
 have hpm:=bV g 36 p (List.mem_of_getElem? hpi)
 obtain⟨b,o,ha,hc⟩:=(hp.mono l3).get (ir hpi)
 refine⟨b,o,ha,by omega,by omega,_,hc,?_⟩
 (refine aD ?_)
 obtain⟨bn,on,han,hpn',c6,c7,w1,w16⟩:=(hs.mono l03).nodes.sortc2 hpm g.ok
 refine⟨bn,on,han,by omega,hpn',_,c6,_,c7,?_⟩
 refine qf ⟨_,rfl,?_⟩
 rw [ago g.ok hpm]
 have hnb:=aaN (l:=m.nodes) hpi
 have hlo:=Bn m.nodes (fun p=>(bO binds p).isSome) ((stP m).take i)
 have hpp:=EA (n:=cH m.nodes ((stP m).take i)) (by omega)
 have hpb:=EA (n:=nbA m.nodes p) (by omega)
 have hpb1:=bP (nbA m.nodes p)
 have hmul:(2^nbA m.nodes p-1)*2^cH m.nodes ((stP m).take i)<1048576:=by
  have h1:(2^nbA m.nodes p-1)*2^cH m.nodes ((stP m).take i)<=2^nbA m.nodes p*2^cH m.nodes ((stP m).take i):=Nat.mul_le_mul_right _ (Nat.sub_le _ _)
  rw [<-Nat.pow_add]at h1
  have h2:=Nat.pow_le_pow_right (n:=2) (by omega) (show nbA m.nodes p+cH m.nodes ((stP m).take i)<=8 by omega)
  have h3:(2:Nat)^8=256:=rfl
  omega
 have hlo2:ij m.nodes (fun p=>(bO binds p).isSome) ((stP m).take i)<1048576:=by
  have h2:=Nat.pow_le_pow_right (n:=2) (by omega) (show cH m.nodes ((stP m).take i)<=8 by omega)
  have h3:(2:Nat)^8=256:=rfl
  omega
 have hstep:=LM (l:=m.nodes) (c:=fun p=>(bO binds p).isSome) hpi
 generalize hmi:ij m.nodes (fun p=>(bO binds p).isSome) ((stP m).take i)=mi at*
 generalize hat:cH m.nodes ((stP m).take i)=at_ at*
 refine au binds.length (fun j vs h'=>vs= [s.v, .pointer (some ⟨b8,0,none⟩),I (mi+(if(bO (binds.take j) p).isSome then(2^nbA m.nodes p-1)*2^at_ else 0):Nat),I at_,I p,I (nbA m.nodes p),pt.v,I pt.n,I i,s.v,I s.n,I j]/\h2.le h') ⟨by simp [bO],l3⟩ ?_
 clear hc ha c6 c7 han hpn' f83 l03 l3 h3
 rintro j _ h3 next2 hj ⟨rfl,l3⟩ hnx2
 have l03:=Hp.le_trans l02 l3
 refine⟨s,_,_,_,_,_,_,pt,_,_,s,_,_,rfl,?_⟩
 by_cases hlj:j<binds.length
 rotate_left
 ·have hje:j=binds.length:=by omega
  subst hje
  refine aC (by simp;omega) ?_
  rw [List.take_length,ay (by omega),cd (n:=(at_:Int)+(nbA m.nodes p:Nat)) (by omega) (by omega)]
  refine hnx hlt _ _ ⟨?_,l3⟩
  rw [hstep,nq hpi,hat,Nat.mul_comm (2^at_)]
  have:at_+bK m.nodes p*aE m.nodes p=at_+nbA m.nodes p:=rfl
  rw [this]
  have e2:(if(bO binds p).isSome=true then 2^nbA m.nodes p-1 else 0)*2^at_=if(bO binds p).isSome=true then(2^nbA m.nodes p-1)*2^at_ else 0:=by split<;>simp
  rw [e2];rfl
 refine aM (by simp;omega) ?_
 obtain⟨bd,hbd⟩: ∃bd,binds[j]?=some bd:=⟨_,List.getElem?_eq_getElem hlj⟩
 obtain⟨bx,ox,hax,cx1,cx2⟩:=(hb.mono l03).at hbd
 have hmore:=TR hbd p
 refine ap (fun J=> ∀h',h2.le h'->J ((mi+(if(bO (binds.take (j+1)) p).isSome then(2^nbA m.nodes p-1)*2^at_ else 0):Nat):Int) h') ?_ (fun J hJ=>?_)
 ·intro h' l'
  rw [ay (by omega)]
  exact hnx2 hlj _ _ ⟨rfl,l'⟩
 refine⟨bx,ox,hax,by omega,by omega,_,cx1,_,cx2,?_⟩
 refine aj fun b74 h4 hb74 l4 f74=>?_
 (with_reducible apply cC);(exact f74);(exact Hp.le_trans l3 l4);(exact aF l3 hb74);(exact Nat.le_refl 2)
 intro h5 f74' kp l5
 refine⟨_,by rw [ax f74'];rfl,?_⟩
 refine ad (fun e=>?_) (fun e=>?_)
 ·rw [decide_eq_true (bZ e),Bool.or_true]at hmore
  refine dF (by omega) ⟨_,rfl,?_⟩
  rw [if_neg (by omega)]
  have hm1:(((2^nbA m.nodes p:Nat):Int)-1)=((2^nbA m.nodes p-1:Nat):Int):=by omega
  have:=hJ h5 l5
  rw [hmore,if_pos rfl]at this
  rw [hm1,jk (by omega) (by omega),Ef (by split<;>omega) (by omega)]
  have e3:(mi+(if(bO (binds.take j) p).isSome=true then(2^nbA m.nodes p-1)*2^at_ else 0))|||(2^nbA m.nodes p-1)*2^at_=mi+(2^nbA m.nodes p-1)*2^at_:=by
   split
   ·rw [<-Vz hlo,Nat.or_assoc,Nat.or_self]
   ·rw [Nat.add_zero,Vz hlo]
  rw [e3];exact this
 ·rw [decide_eq_false (bA e),Bool.or_false]at hmore
  have:=hJ h5 l5
  rw [hmore]at this
  exact this
def mD (m:ah):Nat:=ij m.nodes (fun p=> !(bO m.nexts p).isSome) (stP m)
def iZ (k:Nat):List Nat:=(List.range (k+1)).filter fun c=>decide (c&&&k=c)
theorem afb {c k:Nat} (hc:c<256):c&&&k=c↔ ∀i,i<8->(c.testBit i=true->k.testBit i=true):=by
 constructor
 ·intro h i _ hi
  rw [<-h,Nat.testBit_and,Bool.and_eq_true]at hi
  exact hi.2
 ·intro h
  apply Nat.eq_of_testBit_eq
  intro i
  rw [Nat.testBit_and]
  by_cases hi:i<8
  ·have:=h i hi
   cases hc:c.testBit i with
   |false=>rfl
   |true=>rw [this hc];rfl
  ·rw [Nat.testBit_lt_two_pow (Nat.lt_of_lt_of_le hc (by have:=Nat.pow_le_pow_right (n:=2) (by omega) (show 8<=i by omega);simpa using this))];rfl
theorem abj {m:ah} (g:cr m):mD m<256:=by
 have h:=Bn m.nodes (fun p=> !(bO m.nexts p).isSome) (stP m)
 rw [eM g]at h
 have:=Nat.pow_le_pow_right (n:=2) (by omega) g.n8
 have h3:(2:Nat)^8=256:=rfl
 unfold mD;omega
theorem Uz {binds:List BindP} {p:Nat}:decide (ii binds p<0)= !(bO binds p).isSome:=by
 unfold ii
 cases bO binds p with
 |none=>rfl
 |some k=>simp
def Pg (k i:Nat):List Nat:=(List.range i).filter fun c=>decide (c&&&k=c)
theorem Ut (k i:Nat):Pg k (i+1)=Pg k i++if i&&&k=i then [i]else []:=by
 unfold Pg
 rw [List.range_succ,List.filter_append]
 by_cases h:i&&&k=i<;>simp [h]
theorem Buf.subOf {h h':Hp} {s:Sl} {sz:Nat} {cs:List Value} (e:Buf h' s sz cs) (l:h.le (h'.offS s)):Buf (h'.sub h) s sz cs:=by
 refine⟨e.1,e.2.1,e.2.2.imp id ?_⟩
 rintro ⟨b,ha,hb⟩
 refine⟨b,ha,?_⟩
 have hoff:(h'.offS s) b=none:=by simp [Hp.offS,ha,Hp.off,Hp.set]
 have hn:h b=none:=by
  cases hx:h b with
  |none=>rfl
  |some x=>rw [l _ _ hx]at hoff;cases hoff
 rw [ln hn];exact hb
theorem QY {h:Hp} {M:MSl} {m:ah} {R:Value->Hp->Prop} (hs:aO h M m) (hm:bT m) (g:cr m)
  (k: ∀t h',h.le h'->IntS (h'.sub h) t (VL (iZ (mD m)))->R (Sl.v t) h'):ve #[aQ M] h R:=by
 apply Jz
 refine uf_ ?_
 have hn8:=g.n8
 have hsw:=eM g
 have hp36:(stP m).length<=m.nodes.length:=dU m.nodes 36
 have hnl:=g.nl
 have hxl:=g.xl
 have hbn: ∀b∈m.nexts,0<=b.node:=fun b hb=>(ey.1 (dn (g.nex b hb)).2.1).1
 refine aj fun b8 h1 hb8 l1 f8=>?_
 repeat' (refine aD ?_)
 refine cJ (hs.mono l1) hm fun pt h2 l2 hp=>⟨pt,rfl,?_⟩
 have hpn:pt.n=(stP m).length:=by have:=hp.len;rw [aX]at this;exact this
 have l02:=Hp.le_trans l1 l2
 replace f8:=l2 _ _ f8
 refine au (stP m).length (fun i vs h'=>vs= [.pointer (some ⟨b8,0,none⟩),pt.v,I (ij m.nodes (fun p=> !(bO m.nexts p).isSome) ((stP m).take i):Nat),I (cH m.nodes ((stP m).take i):Nat),I i]/\h'=h2) ⟨by simp [ij,cH],rfl⟩ ?_
 rintro i _ _ next hi ⟨rfl,rfl⟩ hnx
 rename_i h2
 refine⟨_,_,pt,_,_,_,rfl,?_⟩
 by_cases hlt:i<(stP m).length
 ·refine aM (by simp;omega) ?_
  obtain⟨p,hpi⟩: ∃p,(stP m)[i]?=some p:=⟨_,List.getElem?_eq_getElem hlt⟩
  have hpm:=bV g 36 p (List.mem_of_getElem? hpi)
  obtain⟨b,o,ha,hc⟩:=hp.get (ir hpi)
  refine⟨b,o,ha,by omega,by omega,?_⟩
  (refine aD ?_)
  refine⟨_,hc,?_⟩
  obtain⟨bn,on,han,hpn',c6,c7,w1,w16⟩:=(hs.mono l02).nodes.sortc2 hpm g.ok
  refine⟨bn,on,han,by omega,hpn',_,c6,_,c7,?_⟩
  refine jE ⟨_,rfl,?_⟩
  rw [ago g.ok hpm]
  refine⟨b,o,ha,by omega,by omega,?_⟩
  (refine aD ?_)
  refine⟨_,hc,?_⟩
  refine lw (hs.mono l02).nexts (by omega) hbn ⟨_,rfl,?_⟩
  rw [Uz]
  have hnb:=aaN (l:=m.nodes) hpi
  have hlo:=Bn m.nodes (fun p=> !(bO m.nexts p).isSome) ((stP m).take i)
  have hpb:=EA (n:=nbA m.nodes p) (by omega)
  have hpb1:=bP (nbA m.nodes p)
  have hmul:(2^nbA m.nodes p-1)*2^cH m.nodes ((stP m).take i)<1048576:=by
   have h1:(2^nbA m.nodes p-1)*2^cH m.nodes ((stP m).take i)<=2^nbA m.nodes p*2^cH m.nodes ((stP m).take i):=Nat.mul_le_mul_right _ (Nat.sub_le _ _)
   rw [<-Nat.pow_add]at h1
   have h2:=Nat.pow_le_pow_right (n:=2) (by omega) (show nbA m.nodes p+cH m.nodes ((stP m).take i)<=8 by omega)
   have h3:(2:Nat)^8=256:=rfl
   omega
  have hlo2:ij m.nodes (fun p=> !(bO m.nexts p).isSome) ((stP m).take i)<1048576:=by
   have h2:=Nat.pow_le_pow_right (n:=2) (by omega) (show cH m.nodes ((stP m).take i)<=8 by omega)
   have h3:(2:Nat)^8=256:=rfl
   omega
  have hstep:=LM (l:=m.nodes) (c:=fun p=> !(bO m.nexts p).isSome) hpi
  have hst2:=nq (l:=m.nodes) hpi
  rw [show bK m.nodes p*aE m.nodes p=nbA m.nodes p from rfl]at hst2
  rw [cZ (n:=nbA m.nodes p) (by omega),cZ (n:=cH m.nodes ((stP m).take i)) (by omega)]
  have fin:=hnx hlt
  have hat:W (((cH m.nodes ((stP m).take i):Nat):Int)+((nbA m.nodes p:Nat):Int))=((cH m.nodes ((stP m).take (i+1)):Nat):Int):=by
   rw [cd (by omega) (by omega),hst2];omega
  rw [hat,ay (by omega)]
  refine ad (fun e=>?_) (fun e=>?_)
  ·rw [if_neg (by omega),if_neg (by omega),cw (by omega),cd (n:=((2^nbA m.nodes p:Nat):Int)-1) (by omega) (by omega)]
   have hm1:(((2^nbA m.nodes p:Nat):Int)-1)=((2^nbA m.nodes p-1:Nat):Int):=by omega
   rw [if_pos e,Nat.mul_comm]at hstep
   rw [hm1,jk (by omega) (by omega),<-Int.natCast_add,fV (by omega),<-hstep]
   exact fin _ _ ⟨rfl,rfl⟩
  ·have hs2:ij m.nodes (fun p=> !(bO m.nexts p).isSome) ((stP m).take (i+1))=ij m.nodes (fun p=> !(bO m.nexts p).isSome) ((stP m).take i):=by
    rw [hstep,if_neg (by rw [e];decide)];simp
   rw [<-hs2]
   exact fin _ _ ⟨rfl,rfl⟩
 have hie:i=(stP m).length:=by omega
 subst hie
 refine aC (by simp;omega) ?_
 rw [List.take_of_length_le (Nat.le_refl _)]
 have hfm:=abj g
 show aJ _ [I (mD m:Nat), .slice none 0 0,I 0] h2
 refine au (mD m+1) (fun c vs h'=> ∃out:Sl,vs= [I (mD m:Nat),out.v,I c]/\h2.le (h'.offS out)/\out.n<=c/\Buf h' out 1 ((VL (Pg (mD m) c)).map I)) ⟨⟨none,0,0⟩,rfl,Hp.le_refl _,Nat.le_refl _,fG _ _⟩ ?_
 rintro c _ h3 next2 hc ⟨out,rfl,l3,hon,hbuf⟩ hnx2
 have l23:=Hp.le_trans l3 (aW _ _)
 refine⟨_,out,_,rfl,?_⟩
 by_cases hlc:c<mD m+1
 rotate_left
 ·have hce:c=mD m+1:=by omega
  subst hce
  exact aC (by simp;omega) (k out h3 (Hp.le_trans l02 l23) ((hbuf.subOf (Hp.le_trans l02 l3)).slc_of (by omega)))
 refine aM (by simp;omega) ?_
 refine au 8 (fun j vs h'=>vs= [I (mD m:Nat),out.v,I c, .bool ((List.range j).all fun i=> !c.testBit i||(mD m).testBit i),I j]/\h'=h3) ⟨rfl,rfl⟩ ?_
 rintro j _ _ next3 hj ⟨rfl,rfl⟩ hnx3
 rename_i h3
 refine⟨_,out,_,_,_,rfl,?_⟩
 by_cases hlj:j<8
 ·refine aM (by simp;omega) ?_
  have hsucc:(List.range (j+1)).all (fun i=> !c.testBit i||(mD m).testBit i)=((List.range j).all (fun i=> !c.testBit i||(mD m).testBit i)&&(!c.testBit j||(mD m).testBit j)):=by
   rw [List.range_succ,List.all_append];simp
  have fin:=hnx3 hlj
  rw [hsucc]at fin
  refine ad (fun e=>?_) (fun e=>?_)
  ·rw [e]at fin
   rw [Bool.true_and]at fin
   refine jM (by omega) ⟨_,rfl,?_⟩
   refine jM (by omega) ⟨_,rfl,?_⟩
   rw [ay (by omega)]
   have:decide ((if c.testBit j then(1:Int)else 0)<=(if(mD m).testBit j then(1:Int)else 0))=(!c.testBit j||(mD m).testBit j):=by
    cases c.testBit j<;>cases (mD m).testBit j<;>rfl
   rw [this]
   exact fin _ _ ⟨rfl,rfl⟩
  ·rw [e]at fin
   rw [Bool.false_and]at fin
   rw [ay (by omega)]
   exact fin _ _ ⟨rfl,rfl⟩
 have hje:j=8:=by omega
 subst hje
 refine aC (by simp) ?_
 have hcond:((List.range 8).all fun i=> !c.testBit i||(mD m).testBit i)=decide (c&&&mD m=c):=by
  rw [Bool.eq_iff_iff,decide_eq_true_eq,afb (by omega),List.all_eq_true]
  constructor
  ·intro h i hi hb
   have:=h i (List.mem_range.2 hi)
   rw [hb]at this;simpa using this
  ·intro h i hi
   have:=h i (List.mem_range.1 hi)
   cases hb:c.testBit i with
   |false=>rfl
   |true=>rw [this hb];rfl
 rw [hcond,ay (by omega)]
 have hft:=Ut (mD m) c
 refine ad (fun e=>?_) (fun e=>?_)
 ·rw [if_pos (of_decide_eq_true e)]at hft
  refine aj fun b92 h4 hb92 l4 f92=>?_
  refine dG (hbuf.mono l4) (by omega) (by omega) (by omega) ⟨b92,0,rfl,aw f92⟩ (by simp) rfl ?_
  intro s' h5 hs'n hbuf' l5 _
  refine hnx2 hlc _ _ ⟨s',rfl,Hp.le_trans l3 (Hp.le_trans (bC out l4) l5),by omega,?_⟩
  rw [hft,yw,List.map_append];exact hbuf'
 ·rw [if_neg (of_decide_eq_false e),List.append_nil]at hft
  refine hnx2 hlc _ _ ⟨out,rfl,l3,by omega,?_⟩
  rw [hft];exact hbuf
theorem Buf.wo {h h':Hp} {t:Sl} {sz:Nat} {cs:List Value} {B:List Nat} (e:Buf h' t sz cs) (l:h.le (h'.offS t)) (hB: ∀b∈B,h b≠none):Buf (h'.wo B) t sz cs:=by
 refine⟨e.1,e.2.1,e.2.2.imp id ?_⟩
 rintro ⟨b,ha,hb⟩
 refine⟨b,ha,?_⟩
 rw [vV]
 ·exact hb
 ·intro hm
  have:=hB b hm
  cases hx:h b with
  |none=>exact this hx
  |some x=>
   have:=l _ _ hx
   simp [Hp.offS,ha,Hp.off,Hp.set]at this
theorem Wl {m:ah} (g:cr m):2^(ak m.nodes 36+ak m.nodes 35)<=8192:=by
 have h1:=g.n8
 have h2:=g.k5
 have:=Nat.pow_le_pow_right (n:=2) (by omega) (show ak m.nodes 36+ak m.nodes 35<=13 by omega)
 simpa using this
theorem aiR {m:ah} (g:cr m):2^ak m.nodes 36<=256:=by
 have h1:=g.n8
 have:=Nat.pow_le_pow_right (n:=2) (by omega) h1
 simpa using this
theorem OJ {h:Hp} {M:MSl} {m:ah} {fid:FuncId} {u w:Array Value} {B:List Nat} {st:Nat->Hp->Prop} {R:Value->Hp->Prop} (hs:aO (h.wo B) M m) (hm:bT m) (g:cr m)
  (hB: ∀b∈B,h b≠none) (mono: ∀c h1 h2,st c h1->h1.le h2->st c h2) (h0:st 0 h)
  (step: ∀c,c<2^(ak m.nodes 36+ak m.nodes 35)-> ∀h1 t,(h.wo B).le h1->st c h1->gR h1 t (bL m (c%2^ak m.nodes 36) (c/2^ak m.nodes 36))-> ∀R':Value->Hp->Prop,
   (∀h2,st (c+1) h2->(h1.wo B).le h2->R' (.tuple #[]) h2)->ACalls PR fid ((u++ #[I c,Sl.v t])++w) h1 R')
  (k: ∀h',(h.wo B).le h'->st (2^(ak m.nodes 36+ak m.nodes 35)) h'->R (.tuple #[]) h'):mC #[aQ M, .func (.func fid) u w] h R:=by
 apply Fy
 refine uf_ ?_
 have hn8:=g.n8
 have hk5:=g.k5
 have hp13:=Wl g
 have hs0:aO h M m:=hs.mono (un _ _)
 refine aj fun b10 h1 hb10 l1 f10=>?_
 have x10:=cf f10
 repeat' (refine aD ?_)
 refine gy (hs0.mono l1) hm ⟨_,rfl,rfl,gy (hs0.mono l1) hm ⟨_,rfl,?_⟩⟩
 repeat' (refine aD ?_)
 refine lR (hs0.mono l1) hm fun p1 h2 l2 n1 b1=>⟨p1,rfl,?_⟩
 have l2':=Hp.le_trans l2 (aW _ _)
 (((with_reducible apply m4);(assumption);(assumption)))
 refine lR ((hs0.mono l1).mono l2') hm fun p2 h3 l3 n2 b2=>⟨p2,rfl,?_⟩
 have l3':=Hp.le_trans l3 (aW _ _)
 have l13:=Hp.le_trans l2' l3'
 have l03:=Hp.le_trans l1 l13
 rw [cd (n:=((ak m.nodes 36:Nat):Int)+((ak m.nodes 35:Nat):Int)) (by omega) (by omega),if_neg (by omega),<-Int.natCast_add,cw (by omega)]
 have hB1: ∀b∈B,h1 b≠none:=fun b hb=>by
  cases hx:h b with
  |none=>exact absurd hx (hB b hb)
  |some x=>rw [l1 _ _ hx];simp
 have hB2: ∀b∈B,h2 b≠none:=fun b hb=>by
  cases hx:h1 b with
  |none=>exact absurd hx (hB1 b hb)
  |some x=>rw [l2' _ _ hx];simp
 have b1w:Buf (h3.wo B) p1 1 ((VL (av m.nodes 36)).map I):=(b1.wo l2 hB1).mono (vH (Hp.le_trans (un _ _) l3') fun b hb=>fT hb)
 have b2w:Buf (h3.wo B) p2 1 ((VL (av m.nodes 35)).map I):=b2.wo l3 hB2
 have hnl:=g.nl
 have i1:IntS (h3.wo B) p1 (VL (av m.nodes 36)):=b1w.slc_of (by omega)
 have i2:IntS (h3.wo B) p2 (VL (av m.nodes 35)):=b2w.slc_of (by omega)
 have hs3:aO (h3.wo B) M m:=hs.mono (vH (Hp.le_trans (un _ _) l03) fun b hb=>fT hb)
 have f10w:(h3.wo B) b10=some (.inl ⟨aH M,5,false⟩):=by
  rw [vV (fun hb=>hB _ hb hb10)];exact l13 _ _ f10
 have hw:(h.wo B).le (h3.wo B):=vH (Hp.le_trans (un _ _) l03) fun b hb=>fT hb
 refine au (2^(ak m.nodes 36+ak m.nodes 35)) (fun c vs h'=>vs= [.func (.func fid) u w, .pointer (some ⟨b10,0,none⟩),I (ak m.nodes 36),p1.v,p2.v,I (2^(ak m.nodes 36+ak m.nodes 35):Nat),I c]/\(h3.wo B).le h'/\st c h')
  ⟨rfl,un _ _,mono _ _ _ h0 l03⟩ ?_
 clear f10 x10 b1 b2 l1 l2 l2' l3 l13 l3' hs hs0 h0
 rintro c _ h4 next hc ⟨rfl,l4,hst⟩ hnx
 refine⟨_,_,_,_,_,_,p1,p2,_,_,rfl,?_⟩
 by_cases hlt:c<2^(ak m.nodes 36+ak m.nodes 35)
 rotate_left
 ·have hce:c=2^(ak m.nodes 36+ak m.nodes 35):=by omega
  subst hce
  exact aC (by simp) (k h4 (Hp.le_trans hw l4) hst)
 refine aM (by rw [decide_eq_true_eq];exact_mod_cast hlt) ?_
 rw [if_neg (by omega)]
 have f104:=l4 _ _ f10w
 have x104:=cf f104
 repeat' (refine aD ?_)
 refine dF (by omega) ⟨_,rfl,?_⟩
 repeat' (refine aD ?_)
 rw [ib (by omega),nu,jF (by omega)]
 have h1':c%2^ak m.nodes 36<=c:=Nat.mod_le _ _
 have h2':c/2^ak m.nodes 36<=c:=Nat.div_le_self _ _
 refine w9 (hs3.mono l4) hm g.ok (i1.mono l4) (bV g 36) (gh g 36) (by omega) fun o1 h5 l5 v1 c1=>⟨o1,rfl,?_⟩
 repeat' (((with_reducible apply m4);(assumption);(assumption)))
 have l45:=Hp.le_trans l4 l5
 refine w9 (hs3.mono l45) hm g.ok (i2.mono l45) (bV g 35) (gh g 35) (by omega) fun o2 h6 l6 v2 c2=>⟨o2,rfl,?_⟩
 have l56:=Hp.le_trans l5 l6
 (((with_reducible apply m4);(assumption);(assumption)))
 have l46:=Hp.le_trans l4 l56
 refine yl (hs3.mono l46) hm g.ok g.nl (v1.mono l6) c1 (jR 36 _ g) v2 c2 (jR 35 _ g) fun t h7 l7 hn hpv=>⟨t,rfl,?_⟩
 have l47:=Hp.le_trans l56 l7
 refine step c hlt h7 t (Hp.le_trans hw (Hp.le_trans l4 l47)) (mono _ _ _ hst l47) hpv _ fun h8 hst8 l8=>⟨rfl,?_⟩
 rw [ay (by omega)]
 exact hnx hlt _ _ ⟨rfl,Hp.le_trans (vH (Hp.le_trans l4 l47) fun b hb=>fT hb) l8,hst8⟩
def fE (f:Nat->Bool) (c n:Nat):List Value:=(List.range n).map fun i=> .bool (decide (i<c)&&f i)
def nk (f:Nat->Nat) (c n:Nat):List Value:=(List.range n).map fun i=>I ((if i<c then f i else 0:Nat):Int)
theorem He (f:Nat->Bool) (c n:Nat):(fE f c n).length=n:=by simp [fE]
theorem Uw (f:Nat->Nat) (c n:Nat):(nk f c n).length=n:=by simp [nk]
theorem qL (f:Nat->Bool) (n:Nat):List.replicate n (.bool false)=fE f 0 n:=by
 apply List.ext_getElem
 ·simp [fE]
 ·intro i h1 h2;simp [fE]
theorem HP (f:Nat->Nat) (n:Nat):List.replicate n (I 0)=nk f 0 n:=by
 apply List.ext_getElem
 ·simp [nk]
 ·intro i h1 h2;simp [nk]
theorem Hn {f:Nat->Bool} {c n:Nat} (h:c<n):(fE f c n).set c (.bool (f c))=fE f (c+1) n:=by
 apply List.ext_getElem
 ·simp [fE]
 ·intro i h1 h2
  simp only [fE,List.getElem_set,List.getElem_map,List.getElem_range]
  by_cases e:c=i
  ·subst e;simp
  ·rw [if_neg e]
   have:decide (i<c)=decide (i<c+1):=by rw [Bool.eq_iff_iff,decide_eq_true_eq,decide_eq_true_eq];omega
   rw [this]
theorem U0 {f:Nat->Nat} {c n:Nat} (h:c<n):(nk f c n).set c (I (f c:Nat))=nk f (c+1) n:=by
 apply List.ext_getElem
 ·simp [nk]
 ·intro i h1 h2
  simp only [nk,List.getElem_set,List.getElem_map,List.getElem_range]
  by_cases e:c=i
  ·subst e;simp
  ·rw [if_neg e]
   by_cases h:i<c
   ·rw [if_pos h,if_pos (by omega)]
   ·rw [if_neg h,if_neg (by omega)]
theorem HR (f:Nat->Bool) (n:Nat):fE f n n=((List.range n).map f).map Value.bool:=by
 apply List.ext_getElem
 ·simp [fE]
 ·intro i h1 h2
  have hi:i<n:=by simpa [fE] using h1
  simp [fE,hi]
theorem UQ (f:Nat->Nat) (n:Nat):nk f n n=(VL ((List.range n).map f)).map I:=by
 apply List.ext_getElem
 ·simp [nk,VL]
 ·intro i h1 h2
  have hi:i<n:=by simpa [nk] using h1
  simp [nk,VL,hi]
theorem gR.keep {h h':Hp} {s:Sl} {vs:List (List Nat)} {b z:Nat} {cs:List Value} {ro:Bool} (e:gR h s vs) (f:h b=some (.inl ⟨cs,z,ro⟩)) (hn:xV cs) (hsl: ∀(j:Nat) (t:Sl),cs[j]?≠some t.v) (kp: ∀c,c≠b->h' c=h c):gR h' s vs:=by
 refine⟨e.1,e.2.1,fun p hp=>?_⟩
 obtain⟨b',o,t,h1,h2,h3⟩:=e.2.2 p hp
 refine⟨b',o,t,h1,?_,h3.keepN f hn kp⟩
 have hne:b'≠b:=by
  rintro rfl
  rw [ax f]at h2
  exact hsl _ _ h2
 unfold Hp.cell at h2⊢
 rw [kp b' hne];exact h2
theorem HE (f:Nat->Bool) (c n:Nat):xV (fE f c n):=by
 intro j i h
 simp only [fE,List.getElem?_map,Option.map_eq_some_iff]at h
 obtain⟨a,_,h⟩:=h
 cases h
theorem JY (f:Nat->Bool) (c n:Nat): ∀(j:Nat) (t:Sl),(fE f c n)[j]?≠some t.v:=by
 intro j t h
 simp only [fE,List.getElem?_map,Option.map_eq_some_iff]at h
 obtain⟨a,_,h⟩:=h
 cases h
abbrev Sj (M:MSl) (n k:Int) (st hold bad:Sl) (fixed:Int) (next:Sl) (bf ba:Int):List Value:= [M.no.v,M.ini.v,M.nex.v,M.bad.v,M.hol.v,I n,I k,st.v,hold.v,bad.v,I fixed,next.v,I bf,I ba]
abbrev arr (b n:Nat):Sl:=⟨some ⟨b,0,none⟩,n,n⟩
def wR (m:ah) (bH bB bN c:Nat):List (Nat×Blk):=
 [(bH, .inl ⟨fE (aZ m).hold c (2^(ak m.nodes 36+ak m.nodes 35)),2^(ak m.nodes 36+ak m.nodes 35),false⟩),
  (bB, .inl ⟨fE (aZ m).bad c (2^(ak m.nodes 36+ak m.nodes 35)),2^(ak m.nodes 36+ak m.nodes 35),false⟩),
  (bN, .inl ⟨nk (aZ m).next c (2^(ak m.nodes 36+ak m.nodes 35)),2^(ak m.nodes 36+ak m.nodes 35),false⟩)]
theorem La (m:ah) (v:List (List Nat)):decide (xB m v>=0)=(t7 m v).isSome:=by
 unfold xB
 cases t7 m v with
 |none=>rfl
 |some d=>simp
theorem FB {g h:Hp} {M:MSl} {m:ah} {st t:Sl} {b7 b103 bx bH bB bN c:Nat} {n k f0 f1 f2:Int} {z1 z2 z3:Nat} {R:Value->Hp->Prop} (hs:aO g M m) (hm:bT m) (gd:cr m)
  (f7:g b7=some (.inl ⟨aH M,z1,false⟩)) (f103:g b103=some (.inl ⟨[.pointer (some ⟨bx,0,none⟩)],z2,false⟩))
  (fx:g bx=some (.inl ⟨Sj M n k st (arr bH (2^(ak m.nodes 36+ak m.nodes 35))) (arr bB (2^(ak m.nodes 36+ak m.nodes 35))) f0 (arr bN (2^(ak m.nodes 36+ak m.nodes 35))) f1 f2,z3,false⟩))
  (hst:IntS g st (VL (stP m))) (hc:c<2^(ak m.nodes 36+ak m.nodes 35)) (K:Kn g h (wR m bH bB bN c))
  (hpv:gR h t (bL m (c%2^ak m.nodes 36) (c/2^ak m.nodes 36)))
  (kk: ∀h',Kn (h.wo [bH,bB,bN]) h' (wR m bH bB bN (c+1))->R (.tuple #[]) h'):
  uf #[I c,t.v, .pointer (some ⟨b7,0,none⟩), .pointer (some ⟨b103,0,none⟩)] h R:=by
 apply Cf
 refine uf_ ?_
 have a:Gs m (bL m (c%2^ak m.nodes 36) (c/2^ak m.nodes 36)):=dr gd _ _
 have hp13:=Wl gd
 have hv1:(aZ m).hold c=iG m (bL m (c%2^ak m.nodes 36) (c/2^ak m.nodes 36)):=rfl
 have hv2:(aZ m).bad c=(t7 m (bL m (c%2^ak m.nodes 36) (c/2^ak m.nodes 36))).isSome:=rfl
 have hv3:(aZ m).next c=dX m.nodes (stP m) (eg m (bL m (c%2^ak m.nodes 36) (c/2^ak m.nodes 36))):=rfl
 generalize hv:bL m (c%2^ak m.nodes 36) (c/2^ak m.nodes 36)=v at*
 generalize hN:2^(ak m.nodes 36+ak m.nodes 35)=N at*
 have lg:g.le (h.wo [bH,bB,bN]):=K.leBase
 have K0:Kn (h.wo [bH,bB,bN]) h (wR m bH bB bN c):=K.base
 unfold wR at K0 kk
 rw [hN]at K0 kk
 clear K
 have hs':=hs.mono lg
 have f7':=lg _ _ f7
 have f103':=lg _ _ f103
 have fx':=lg _ _ fx
 have hst':=hst.mono lg
 have x7:=cf f7'
 have x103:=cf f103'
 have xx:=cf fx'
 generalize h.wo [bH,bB,bN]=g1 at*
 clear lg fx f103 f7 hst hs
 repeat' (refine kr_ ?_)
 refine JN (hs'.mono K0.le) gd hpv a ⟨_,rfl,?_⟩
 repeat' (refine kr_ ?_)
 refine⟨by omega,by dsimp only;omega,?_⟩
 (((with_reducible apply Kn.wr);(assumption);((focus ((repeat first|exact .head|apply Upd.tail);done)))))
 ·rw [He];omega
 intro h24 K1 kp1
 have hpv1:=hpv.keep (K0.at (.head _)) (HE _ _ _) (JY _ _ _) kp1
 rw [<-hv1,bG,Nat.zero_add,Int.toNat_natCast,Nat.mul_one,Hn hc]at K1
 repeat' (refine kr_ ?_)
 refine Ly (hs'.mono K1.le) gd hpv1 a ⟨_,rfl,?_⟩
 repeat' (refine kr_ ?_)
 refine⟨by omega,by dsimp only;omega,?_⟩
 (((with_reducible apply Kn.wr);(assumption);((focus ((repeat first|exact .head|apply Upd.tail);done)))))
 ·rw [He];omega
 intro h42 K2 kp2
 have hpv2:=hpv1.keep (K1.at (.tail _ (.head _))) (HE _ _ _) (JY _ _ _) kp2
 rw [La,<-hv2,bG,Nat.zero_add,Int.toNat_natCast,Nat.mul_one,Hn hc]at K2
 repeat' (refine kr_ ?_)
 refine G7 (hs'.mono K2.le) hm gd hpv2 a fun out h63 l63 hout=>⟨out,rfl,?_⟩
 have K3:=K2.mono l63
 repeat' (refine kr_ ?_)
 refine B2 (hs'.mono K3.le) hm gd.ok (hst'.mono K3.le) (bV gd 36) (gh gd 36) hout (jH gd a.fit) (by rw [eM gd];have:=gd.n8;omega) ⟨_,rfl,?_⟩
 repeat' (refine kr_ ?_)
 refine⟨by omega,by dsimp only;omega,?_⟩
 (((with_reducible apply Kn.wr);(assumption);((focus ((repeat first|exact .head|apply Upd.tail);done)))))
 ·rw [Uw];omega
 intro h72 K4 kp4
 rw [<-hv3,bG,Nat.zero_add,Int.toNat_natCast,Nat.mul_one,U0 hc]at K4
 exact kk h72 K4
def Ks (h:Hp) (t:Sl) (n:Nat) (f:Nat->Nat):Prop:=IntS h t (VL ((List.range n).map f))
theorem Ks.mono {h h':Hp} {t:Sl} {n:Nat} {f:Nat->Nat} (l:h.le h') (e:Ks h t n f):Ks h' t n f:=SlC.mono l e
def FV (h:Hp) (b:Nat) (σ:aL):Prop:= ∃(M:MSl) (st hold bad next:Sl),h b=some (.inl ⟨Sj M σ.n σ.k st hold bad σ.fixed next σ.bfix σ.bas,14,false⟩)/\
 fq h hold (2^(σ.n+σ.k)) σ.hold/\fq h bad (2^(σ.n+σ.k)) σ.bad/\Ks h next (2^(σ.n+σ.k)) σ.next
theorem FV.mono {h h':Hp} {b:Nat} {σ:aL} (l:h.le h') (e:FV h b σ):FV h' b σ:=by
 obtain⟨M,st,hold,bad,next,h1,h2,h3,h4⟩:=e
 exact⟨M,st,hold,bad,next,l _ _ h1,h2.mono l,h3.mono l,h4.mono l⟩
theorem YT {g h:Hp} {L:List (Nat×Blk)} {M:MSl} {m:ah} {kind:Int} {R:Value->Hp->Prop} (K:Kn g h L) (hs:aO g M m) (hm:bT m) (gd:cr m)
  (k: ∀t h' g',Kn g' h' L->IntS g' t (VL (av m.nodes kind))->g.le g'->h.le h'->R (Sl.v t) h'):aY #[aQ M,I kind] h R:=
 lR (hs.mono K.le) hm fun t h' l hn hb=>by
  have l':=Hp.le_trans l (aW _ _)
  have K':=K.mono l'
  refine k t h' _ K'.base ?_ K'.leBase l'
  have:=gd.nl
  exact(hb.wo l K.has).slc_of (by omega)
def Co (m:ah) (j p:Nat):List Nat:=((bO (m.inits.take j) p).map fun k=>kK (aE m.nodes p) ((kE m).getD k [])).getD (List.replicate (aE m.nodes p) 0)
theorem abB (m:ah) (p:Nat):Co m m.inits.length p=(dZ m p).getD (List.replicate (aE m.nodes p) 0):=by
 unfold Co dZ;rw [List.take_length]
theorem Gr {m:ah} (g:cr m) {j:Nat} {b:BindP} (hb:m.inits[j]?=some b) (p:Nat):Co m (j+1) p=if b.state=(p:Int)then kK (aE m.nodes p) ((kE m).getD b.node.toNat [])else Co m j p:=by
 unfold Co
 rw [LU (j6 g.twice).2.1 hb]
 split<;>rfl
theorem Oq (m:ah) {i p:Nat} (h:(stP m)[i]?=some p):(fN m).getD i []=Co m m.inits.length p:=by
 rw [abB]
 unfold fN mE
 rw [List.getD_eq_getElem?_getD,List.getElem?_map,h];rfl
theorem yp {m:ah} (g:cr m) {b:BindP} (hb:b∈m.inits):0<=b.node/\b.node<m.nodes.length/\0<((kE m).getD b.node.toNat []).length/\((kE m).getD b.node.toNat []).length<=4/\0<=b.state/\b.state<m.nodes.length:=by
 obtain⟨q1,q2,q3,q4,_⟩:=eO (g.ini b hb)
 have q2':=ey.1 q2
 have q1':=ey.1 q1
 have hf:=(xW g).fit b.node.toNat (by omega) (by omega)
 have:=(qo g.ok (show b.node.toNat<m.nodes.length by omega) hf).1
 refine⟨q2'.1,q2'.2,hf.pos,?_,q1'.1,q1'.2⟩
 rw [this];exact dk _ _
set_option maxHeartbeats 4000000 in
theorem JH {h:Hp} {M:MSl} {m:ah} {R:Value->Hp->Prop} (hs:aO h M m) (hm:bT m)
  (k0: ∀h',h.le h'->aG m≠0->R (.tuple #[.pointer none, .bool false]) h')
  (k1:aG m=0->cr m-> ∀b h',h.le h'->FV h' b (aZ m)->R (.tuple #[.pointer (some ⟨b,0,none⟩), .bool true]) h'):r7 #[aQ M] h R:=by
 apply F5
 refine uf_ ?_
 have K0:=Kn.nil h
 (with_reducible apply Kn.al);(assumption);(intro b7 h1 K1 l1 hb7)
 repeat' (refine kr_ ?_)
 refine gJ (hs.mono l1) hm ⟨_,rfl,ad (fun e=>k0 h1 l1 (iV e)) (fun e=>?_)⟩
 have hcode:=fY e
 have gd:=cD hcode
 replace k1:=k1 hcode gd
 clear k0 e hcode l1 hb7 K0
 have hn8:=gd.n8
 have hk5:=gd.k5
 have hp13:=Wl gd
 have hp13':=bP (ak m.nodes 36+ak m.nodes 35)
 refine ap (fun J=> ∀(bp bx:Nat) (h' g':Hp) (t:Sl) (L0:List (Nat×Blk)),Kn g' h' L0->(bp, .inl ⟨[.pointer (some ⟨bx,0,none⟩)],1,false⟩)∈L0->
  (bx, .inl ⟨Sj M (ak m.nodes 36) (ak m.nodes 35) t ⟨none,0,0⟩ ⟨none,0,0⟩ 0 ⟨none,0,0⟩ 0 0,14,false⟩)∈L0->(b7, .inl ⟨aH M,5,false⟩)∈L0->h.le g'->IntS g' t (VL (stP m))->J bp 0 h') ?_ (fun J hJ=>?_)
 rotate_left
 ·repeat' (first
   |(refine kr_ ?_)
   |(refine gy (hs.mono (Kn.le (by assumption))) hm ⟨_,rfl,?_⟩)
   |(refine YT (by assumption) hs hm gd fun _ _ _ _ _ _ _=>⟨_,rfl,?_⟩)
   |((with_reducible apply Kn.al);(assumption);(intro _ _ _ _ _))
   |((((with_reducible apply Kn.wr);(assumption);((focus ((repeat first|exact .head|apply Upd.tail);done)))));(exact Nat.le_refl _);(intro _ _ _))
   |((with_reducible apply hJ)<;>first|assumption|((focus ((repeat first|exact .head _|apply List.Mem.tail);done))))
   |(refine And.intro ?_ ?_))
 intro bp bx h2 g2 st L0 K2' mp mx m7 l2 hst
 have K2:Kn g2 h2 [(bp, .inl ⟨[.pointer (some ⟨bx,0,none⟩)],1,false⟩),(bx, .inl ⟨Sj M (ak m.nodes 36) (ak m.nodes 35) st ⟨none,0,0⟩ ⟨none,0,0⟩ 0 ⟨none,0,0⟩ 0 0,14,false⟩),(b7, .inl ⟨aH M,5,false⟩)]:=by
  refine K2'.sub (fun e he=>?_) ?_
  ·simp only [List.mem_cons,List.not_mem_nil,or_false]at he
   rcases he with rfl|rfl|rfl<;>assumption
  ·have n1:=eJ (K2'.at mp) (K2'.at mx) (by simp)
   have n2:=eJ (K2'.at mp) (K2'.at m7) (by simp)
   have n3:=eJ (K2'.at mx) (K2'.at m7) (by simp)
   simp [n1,n2,n3]
 clear K2' mp mx m7 L0 K1
 have hs2:=hs.mono l2
 repeat' (refine kr_ ?_)
 rw [cd (n:=((ak m.nodes 36:Nat):Int)+((ak m.nodes 35:Nat):Int)) (by omega) (by omega),if_neg (by omega),<-Int.natCast_add,cw (by omega)]
 generalize hN:2^(ak m.nodes 36+ak m.nodes 35)=N at*
 have tN:Int.toNat (N:Int)=N:=Int.toNat_natCast N
 have nN:N*1=N:=Nat.mul_one N
 have zB:aR #[.bool false] N=fE (aZ m).hold 0 N:=by rw [cE,qL]
 have zI:aR #[I 0] N=nk (aZ m).next 0 N:=by rw [cE,HP]
 simp only [tN,nN,zB,zI]
 clear tN nN zB zI
 refine ap (fun J=> ∀(bH bB bN:Nat) (h':Hp) (L0:List (Nat×Blk)),Kn g2 h' L0->(bp, .inl ⟨[.pointer (some ⟨bx,0,none⟩)],1,false⟩)∈L0->
  (bx, .inl ⟨Sj M (ak m.nodes 36) (ak m.nodes 35) st (arr bH N) (arr bB N) 0 (arr bN N) 0 0,14,false⟩)∈L0->(b7, .inl ⟨aH M,5,false⟩)∈L0->
  (bH, .inl ⟨fE (aZ m).hold 0 N,N,false⟩)∈L0->(bB, .inl ⟨fE (aZ m).hold 0 N,N,false⟩)∈L0->(bN, .inl ⟨nk (aZ m).next 0 N,N,false⟩)∈L0->(bH≠bB/\bH≠bN/\bB≠bN)->J h') ?_ (fun J hJ=>?_)
 rotate_left
 ·repeat' (first
   |(refine kr_ ?_)
   |((with_reducible apply Kn.al);(assumption);(intro _ _ _ _ _))
   |(refine And.intro (by omega) ?_)
   |((((with_reducible apply Kn.wr);(assumption);((focus ((repeat first|exact .head|apply Upd.tail);done)))));(exact of_decide_eq_true rfl);(intro _ _ _))
   |((with_reducible apply hJ)<;>first|assumption|((focus ((repeat first|exact .head _|apply List.Mem.tail);done)))|((have hnd:=Kn.nd (by assumption);simp only [List.map_cons,List.map_nil,List.nodup_cons,List.mem_cons,List.not_mem_nil,not_or,or_false,not_false_eq_true,and_true,List.nodup_nil]at hnd;omega)))
   |(refine And.intro ?_ ?_))
 intro bH bB bN h3 L0 K3' mp mx m7 mH mB mN hne
 have e0:fE (aZ m).hold 0 N=fE (aZ m).bad 0 N:=by rw [<-qL,<-qL]
 rw [e0]at mB
 have n1:=eJ (K3'.at mp) (K3'.at mx) (by simp)
 have n2:=eJ (K3'.at mp) (K3'.at m7) (by simp)
 have n3:=eJ (K3'.at mx) (K3'.at m7) (by simp)
 have hb1: ∀b∈ [bH,bB,bN],g2 b=none:=by
  intro b hb
  simp only [List.mem_cons,List.not_mem_nil,or_false]at hb
  rcases hb with rfl|rfl|rfl
  ·exact K3'.new _ mH
  ·exact K3'.new _ mB
  ·exact K3'.new _ mN
 have h0b:(fE (aZ m).hold 0 N)[0]?=some (.bool false):=by rw [<-qL,List.getElem?_replicate,if_pos hp13']
 have h0b2:(fE (aZ m).bad 0 N)[0]?=some (.bool false):=by rw [<-qL,List.getElem?_replicate,if_pos hp13']
 have h0n:(nk (aZ m).next 0 N)[0]?=some (I 0):=by rw [<-HP,List.getElem?_replicate,if_pos hp13']
 have dif: ∀{b c:Nat} {cs ds:List Value} {z y:Nat} {v w:Value},(b, .inl ⟨cs,z,false⟩)∈L0->(c, .inl ⟨ds,y,false⟩)∈L0->cs[0]?=some v->ds[0]?=some w->v≠w->b≠c:=by
  intro b c cs ds z y v w hb hc e1 e2 hvw hbc
  subst hbc
  have:=(K3'.at hb).symm.trans (K3'.at hc)
  simp only [Option.some.injEq,Sum.inl.injEq,Row.mk.injEq]at this
  rw [this.1,e2]at e1
  exact hvw (Option.some.inj e1).symm
 have K3:Kn g2 h3 (wR m bH bB bN 0++ [(bp, .inl ⟨[.pointer (some ⟨bx,0,none⟩)],1,false⟩),(bx, .inl ⟨Sj M (ak m.nodes 36) (ak m.nodes 35) st (arr bH N) (arr bB N) 0 (arr bN N) 0 0,14,false⟩),(b7, .inl ⟨aH M,5,false⟩)]):=by
  refine K3'.sub (fun e he=>?_) ?_
  ·simp only [wR,hN,List.mem_append,List.mem_cons,List.not_mem_nil,or_false]at he
   rcases he with (rfl|rfl|rfl)|rfl|rfl|rfl<;>assumption
  ·have a1:=dif mH mp h0b rfl (by simp)
   have a2:=dif mH mx h0b rfl (by simp)
   have a3:=dif mH m7 h0b rfl (by simp)
   have a4:=dif mB mp h0b2 rfl (by simp)
   have a5:=dif mB mx h0b2 rfl (by simp)
   have a6:=dif mB m7 h0b2 rfl (by simp)
   have a7:=dif mN mp h0n rfl (by simp)
   have a8:=dif mN mx h0n rfl (by simp)
   have a9:=dif mN m7 h0n rfl (by simp)
   simp [wR,hne.1,hne.2.1,hne.2.2,n1,n2,n3,a1,a2,a3,a4,a5,a6,a7,a8,a9]
 clear dif h0b h0b2 h0n e0 n1 n2 n3 mp mx m7 mH mB mN K3' L0 K2
 have Kf:Kn g2 h3 (wR m bH bB bN 0):=K3.sub (fun e he=>List.mem_append_left _ he) (by simp [wR,hne.1,hne.2.1,hne.2.2])
 have nB: ∀b∈ [bp,bx,b7],b∉ [bH,bB,bN]:=by
  have hnd:=K3.nd
  simp only [wR,List.cons_append,List.nil_append,List.map_cons,List.map_nil,List.nodup_cons,List.mem_cons,List.not_mem_nil,not_or,or_false,not_false_eq_true,and_true,List.nodup_nil]at hnd
  intro b hb hb2
  simp only [List.mem_cons,List.not_mem_nil,or_false]at hb hb2
  omega
 have f7:(h3.wo [bH,bB,bN]) b7=some (.inl ⟨aH M,5,false⟩):=by
  rw [vV (nB _ (by simp))];exact K3.at (by simp)
 have fp:(h3.wo [bH,bB,bN]) bp=some (.inl ⟨[.pointer (some ⟨bx,0,none⟩)],1,false⟩):=by
  rw [vV (nB _ (by simp))];exact K3.at (by simp)
 have fx:(h3.wo [bH,bB,bN]) bx=some (.inl ⟨Sj M (ak m.nodes 36) (ak m.nodes 35) st (arr bH N) (arr bB N) 0 (arr bN N) 0 0,14,false⟩):=by
  rw [vV (nB _ (by simp))];exact K3.at (by simp)
 have lB:g2.le (h3.wo [bH,bB,bN]):=Kf.leBase
 have hsB:=hs2.mono lB
 have hstB:=hst.mono lB
 have Kr:=Kn.of (un h3 [bH,bB,bN])
 repeat' (refine kr_ ?_)
 subst hN
 refine OJ (B:= [bH,bB,bN]) (st:=fun c h'=>Kn (h3.wo [bH,bB,bN]) h' (wR m bH bB bN c)) hsB hm gd Kf.has (fun c h1 h2 K l=>K.mono l) Kf.base (fun c hc h4 t l4 K hpv R' hR'=>?_) (fun h4 l4 K4=>⟨rfl,?_⟩)
 ·exact FB hsB hm gd f7 fp fx hstB hc K hpv fun h5 K5=>hR' h5 ⟨Hp.le_trans K.leBase K5.le,K5.mem,fun e he=>by
   have:=K5.nd
   exact aF K.leBase (K5.new e he),K5.nd⟩ K5.le
 have K5:Kn g2 h4 (wR m bH bB bN (2^(ak m.nodes 36+ak m.nodes 35))++ [(bp, .inl ⟨[.pointer (some ⟨bx,0,none⟩)],1,false⟩),(bx, .inl ⟨Sj M (ak m.nodes 36) (ak m.nodes 35) st (arr bH (2^(ak m.nodes 36+ak m.nodes 35))) (arr bB (2^(ak m.nodes 36+ak m.nodes 35))) 0 (arr bN (2^(ak m.nodes 36+ak m.nodes 35))) 0 0,14,false⟩),(b7, .inl ⟨aH M,5,false⟩)]):=by
  refine⟨Hp.le_trans lB l4,fun e he=>?_,fun e he=>?_,K3.nd⟩
  ·rcases List.mem_append.1 he with he|he
   ·exact K4.mem e he
   ·simp only [List.mem_cons,List.not_mem_nil,or_false]at he
    rcases he with rfl|rfl|rfl
    ·exact l4 _ _ fp
    ·exact l4 _ _ fx
    ·exact l4 _ _ f7
  ·rcases List.mem_append.1 he with he|he
   ·have hm:e.1∈ [bH,bB,bN]:=by
     simp only [wR,List.mem_cons,List.not_mem_nil,or_false]at he
     rcases he with rfl|rfl|rfl<;>simp
    exact hb1 _ hm
   ·exact K3.new e (List.mem_append_right _ he)
 unfold wR at K5
 simp only [List.cons_append,List.nil_append]at K5
 clear K4 Kr hstB hsB lB fx fp f7 nB Kf K3 l4 h3
 have hil:=gd.il
 have hxl:=gd.xl
 have hin:=hs2.inits.len
 have hp36:(stP m).length<=m.nodes.length:=dU m.nodes 36
 have hnl:=gd.nl
 have hstn:st.n=(stP m).length:=by have:=hst.len;rw [aX]at this;exact this
 repeat' (refine kr_ ?_)
 refine BF (hs2.mono K5.le) hm gd (hs2.mono K5.le).nexts (by omega) ⟨_,rfl,?_⟩
 repeat' (refine kr_ ?_)
 refine kw_ ?_
 intro h5 K6 _
 clear K5
 repeat' (refine kr_ ?_)
 refine zg (hs2.mono K6.le) hm gd fun vt h6 l6 hvn hpv=>⟨vt,rfl,?_⟩
 have K7:=K6.mono l6
 clear K6 l6
 have hs6:=hs2.mono K7.le
 have hst6:=hst.mono K7.le
 have f7:h6 b7=some (.inl ⟨aH M,5,false⟩):=K7.at (by simp)
 have fp:h6 bp=some (.inl ⟨[.pointer (some ⟨bx,0,none⟩)],1,false⟩):=K7.at (by simp)
 repeat' (refine kr_ ?_)
 refine mV hs6 hm hst6 (bV gd 36) (gh gd 36) fun out ts h7 c1 hon=>⟨out,rfl,?_⟩
 have Kr:=Kn.of (Hp.le_trans c1.le (aW _ _))
 repeat' (refine kr_ ?_)
 have aV:=xW gd
 refine au m.inits.length (fun j vs h'=> ∃ts:List Sl,vs= [.pointer (some ⟨b7,0,none⟩), .pointer (some ⟨bp,0,none⟩),vt.v,out.v,M.ini.v,I M.ini.n,I j]/\h6.le (h'.offS out)/\Buf h' out 1 (ts.map Sl.v)/\ts.length=(stP m).length/\
  ∀(i p:Nat) (t:Sl),(stP m)[i]?=some p->ts[i]?=some t->IntS (h'.offS out) t (VL (Co m j p))) ⟨ts,rfl,c1.le,c1.buf,by rw [c1.len,fy],fun i p t hp ht=>?_⟩ ?_
 ·obtain⟨b,e1,e2,e3⟩:=c1.row i t ht
  have hz:(ct m.nodes (stP m)).getD i []=Co m 0 p:=by
   unfold ct Co
   rw [List.getD_eq_getElem?_getD,List.getElem?_map,hp];rfl
  have hz4:((ct m.nodes (stP m)).getD i []).length<=4:=by
   unfold ct
   rw [List.getD_eq_getElem?_getD,List.getElem?_map,hp]
   simp only [Option.map_some,Option.getD_some,List.length_replicate]
   exact dk _ _
  rw [hz]at e1 e3 hz4
  rw [e1]
  exact⟨by dsimp only;omega,by simp [aX], .inr ⟨b,0,rfl,aw e3⟩⟩
 clear c1 Kr ts h7
 rintro j _ h8 next hj ⟨ts,rfl,l8,hbuf,htl,hts⟩ hnx
 have lo:=aW h8 out
 have l68:=Hp.le_trans l8 lo
 refine⟨_,_,_,_,vt,out,M.ini,_,_,rfl,?_⟩
 by_cases hlt:j<m.inits.length
 rotate_left
 ·have hje:j=m.inits.length:=by omega
  subst hje
  refine aC (by simp;omega) ?_
  have K9:=K7.mono l68
  have hbl:(fN m).length=(stP m).length:=by unfold fN mE;rw [List.length_map]
  have iss:IntSS h8 out ((fN m).map VL):=⟨ts,by rw [List.length_map,hbl];exact htl,hbuf.slc_of (by rw [hon];have:=gh gd 36;omega),fun i h1 h2=>by
   have hi:i<(stP m).length:=by omega
   have hpi:(stP m)[i]?=some (stP m)[i]:=List.getElem?_eq_getElem hi
   have:=(hts i _ _ hpi (List.getElem?_eq_getElem h1)).mono lo
   rw [<-Oq m hpi]at this
   rw [List.getElem_map]
   rwa [List.getD_eq_getElem?_getD,List.getElem?_eq_getElem (by rw [hbl];exact hi)]at this⟩
  have hs8:=hs6.mono l68
  clear hbuf hts
  repeat' (refine kr_ ?_)
  refine BF hs8 hm gd hs8.inits (by omega) ⟨_,rfl,?_⟩
  repeat' (refine kr_ ?_)
  refine B2 hs8 hm gd.ok (hst6.mono l68) (bV gd 36) (gh gd 36) iss (rV gd) (by rw [eM gd];omega) ⟨_,rfl,?_⟩
  repeat' (refine kr_ ?_)
  refine kw_ ?_
  intro h9 K10 _
  repeat' (refine kr_ ?_)
  refine kw_ ?_
  intro h10 K11 _
  repeat' (refine kr_ ?_)
  refine k1 bx h10 (Hp.le_trans l2 K11.le) ⟨M,st,arr bH (2^(ak m.nodes 36+ak m.nodes 35)),arr bB (2^(ak m.nodes 36+ak m.nodes 35)),arr bN (2^(ak m.nodes 36+ak m.nodes 35)),K11.at (by((focus ((repeat first|exact .head _|apply List.Mem.tail);done)))),?_,?_,?_⟩
  ·refine⟨by dsimp only;omega,by simp [aZ], .inr ⟨bH,0,rfl,?_⟩⟩
   have:=aw (K11.at (.head _))
   rwa [HR]at this
  ·refine⟨by dsimp only;omega,by simp [aZ], .inr ⟨bB,0,rfl,?_⟩⟩
   have:=aw (K11.at (.tail _ (.head _)))
   rwa [HR]at this
  ·refine⟨by dsimp only;omega,by simp [aZ,VL], .inr ⟨bN,0,rfl,?_⟩⟩
   have:=aw (K11.at (.tail _ (.tail _ (.head _))))
   rwa [UQ]at this
 refine aM (by simp;omega) ?_
 obtain⟨bd,hbd⟩: ∃bd,m.inits[j]?=some bd:=⟨_,List.getElem?_eq_getElem hlt⟩
 obtain⟨v1,v2,v3,v4,s1,s2⟩:=yp gd (List.mem_of_getElem? hbd)
 obtain⟨bi,oi,hai,cx1,cx2⟩:=(hs6.mono l68).inits.at hbd
 refine⟨bi,oi,hai,by omega,by omega,_,cx1,_,cx2,?_⟩
 refine aj fun b48 h9 hb48 l9 f48'=>?_
 (with_reducible apply cC);(exact f48');(exact l9);(exact hb48);(exact Nat.le_refl 2)
 intro h10 f48 kp l10
 have l10o:=bC out l10
 have f48o:=hbuf.offS_new hb48 f48
 clear f48' kp l9
 have Kr:=Kn.of (Hp.le_trans l68 l10)
 have fx6:=K7.at (b:=bx) (.tail _ (.tail _ (.tail _ (.tail _ (.head _)))))
 repeat' (refine kr_ ?_)
 refine au (stP m).length (fun q vs h'=> ∃ts:List Sl,vs= [.pointer (some ⟨b7,0,none⟩), .pointer (some ⟨bp,0,none⟩),vt.v,out.v, .pointer (some ⟨b48,0,none⟩),M.ini.v,I M.ini.n,I j,st.v,I st.n,I q]/\h6.le (h'.offS out)/\(h'.offS out) b48=some (.inl ⟨[I bd.state,I bd.node],2,false⟩)/\Buf h' out 1 (ts.map Sl.v)/\ts.length=(stP m).length/\
  ∀(i p:Nat) (t:Sl),(stP m)[i]?=some p->ts[i]?=some t->IntS (h'.offS out) t (VL (if i<q then Co m (j+1) p else Co m j p)))
  ⟨ts,rfl,Hp.le_trans l8 l10o,f48o,hbuf.mono l10,htl,fun i p t hp ht=>by rw [if_neg (by omega)];exact(hts i p t hp ht).mono l10o⟩ ?_
 clear Kr f48o l10o l10 f48 hb48 hbuf htl hts ts l68 lo l8 hai cx1 cx2 h9 h8 h10
 rintro q _ h8 next2 hq ⟨ts,rfl,l8,f48,hbuf,htl,hts⟩ hnx2
 have lo:=aW h8 out
 have l68:=Hp.le_trans l8 lo
 have g48:=lo _ _ f48
 refine⟨_,_,_,_,vt,out,_,_,_,_,_,st,_,_,rfl,?_⟩
 by_cases hlq:q<(stP m).length
 rotate_left
 ·refine aC (by simp;omega) ?_
  rw [ay (by omega)]
  refine hnx hlt _ _ ⟨ts,rfl,l8,hbuf,htl,fun i p t hp ht=>?_⟩
  have:=hts i p t hp ht
  rwa [if_pos (by have:=get_lt hp;omega)]at this
 refine aM (by simp;omega) ?_
 obtain⟨p,hpq⟩: ∃p,(stP m)[q]?=some p:=⟨_,List.getElem?_eq_getElem hlq⟩
 have hpm:=bV gd 36 p (List.mem_of_getElem? hpq)
 obtain⟨bq,oq,hap,hcp⟩:=(hst6.mono l68).get (ir hpq)
 refine ap (fun J=> ∀(ts':List Sl) (h':Hp),h6.le (h'.offS out)->(h'.offS out) b48=some (.inl ⟨[I bd.state,I bd.node],2,false⟩)->Buf h' out 1 (ts'.map Sl.v)->ts'.length=(stP m).length->
  (∀(i p:Nat) (t:Sl),(stP m)[i]?=some p->ts'[i]?=some t->IntS (h'.offS out) t (VL (if i<q+1 then Co m (j+1) p else Co m j p)))->J h') ?_ (fun J hJ=>?_)
 ·intro ts' h' a1 a2 a3 a4 a5
  rw [ay (by omega)]
  exact hnx2 hlq _ _ ⟨ts',rfl,a1,a2,a3,a4,a5⟩
 refine⟨bq,oq,hap,by omega,by omega,_,hcp,?_⟩
 (refine aD ?_)
 have hst':=Gr gd hbd p
 refine ad (fun e=>?_) (fun e=>?_)
 ·rw [if_pos (bZ e).symm]at hst'
  have f78:=l68 _ _ f7
  (refine aD ?_)
  obtain⟨bn,on,han,hpn',c6,c7,w1,w16⟩:=(hs6.mono l68).nodes.sortc2 hpm gd.ok
  refine⟨bn,on,han,by omega,hpn',_,c6,_,c7,?_⟩
  (refine aD ?_)
  obtain⟨bv,ov,t,hav,hvn',hcv,ht⟩:=(hpv.mono l68).at v1 (by rw [aV.len];exact v2)
  refine⟨bv,ov,hav,v1,hvn',t,hcv,?_⟩
  refine wQ ht v3 v4 fun t2 h9 l9 ht2=>⟨t2,rfl,?_⟩
  rw [pA gd.ok hpm]at ht2
  have l9o:=bC out l9
  have hbuf9:=hbuf.mono l9
  refine hbuf9.wr (x:=t2) (by omega) fun h10 hbuf' ho=>?_
  refine hJ _ h10 (by rw [ho];exact Hp.le_trans l8 l9o) (by rw [ho];exact l9o _ _ f48) hbuf' (by rw [List.length_set];exact htl) fun i p' u hp' hu=>?_
  rw [ho]
  by_cases hiq:i=q
  ·subst hiq
   rw [hpq]at hp';cases hp'
   rw [List.getElem?_set_self (by omega)]at hu
   obtain rfl:=Option.some.inj hu
   rw [if_pos (by omega),hst']
   exact ht2.offL hbuf9
  ·rw [List.getElem?_set_ne (fun e=>hiq e.symm)]at hu
   have:=(hts i p' u hp' hu).mono l9o
   by_cases h1:i<q
   ·rw [if_pos h1]at this;rw [if_pos (by omega)];exact this
   ·rw [if_neg h1]at this;rw [if_neg (by omega)];exact this
 ·rw [if_neg (fun e'=>bA e e'.symm)]at hst'
  refine hJ ts h8 l8 f48 hbuf htl fun i p' u hp' hu=>?_
  have:=hts i p' u hp' hu
  by_cases hiq:i=q
  ·subst hiq
   rw [hpq]at hp';cases hp'
   rw [if_neg (by omega)]at this
   rw [if_pos (by omega),hst'];exact this
  ·by_cases h1:i<q
   ·rw [if_pos h1]at this;rw [if_pos (by omega)];exact this
   ·rw [if_neg h1]at this;rw [if_neg (by omega)];exact this
theorem fq.get {h:Hp} {t:Sl} {n:Nat} {T:Nat->Bool} (e:fq h t n T) {i:Nat} (hi:i<n): ∃b o,t.a=some (Addr.mk b o none)/\(i:Int)<(t.n:Int)/\Hp.cell h b (o+Int.toNat (i:Int)*1)=some (.bool (T i)):=by
 have hl:=tu.len e
 rw [List.length_map,List.length_range]at hl
 obtain⟨b,o,ha,hc⟩:=SlC.get e (by omega)
 refine⟨b,o,ha,by omega,?_⟩
 rw [Int.toNat_natCast,Nat.mul_one]
 exact hc i _ (by simp [hi])
theorem fq.len {h:Hp} {t:Sl} {n:Nat} {T:Nat->Bool} (e:fq h t n T):t.n=n:=by
 have hl:=tu.len e
 rwa [List.length_map,List.length_range]at hl
theorem Ks.get {h:Hp} {t:Sl} {n:Nat} {f:Nat->Nat} (e:Ks h t n f) {i:Nat} (hi:i<n): ∃b o,t.a=some (Addr.mk b o none)/\(i:Int)<(t.n:Int)/\Hp.cell h b (o+Int.toNat (i:Int)*1)=some (I (f i:Nat)):=by
 have hl:=IntS.len e
 rw [aX,List.length_map,List.length_range]at hl
 obtain⟨b,o,ha,hc⟩:=SlC.get e (by omega)
 refine⟨b,o,ha,by omega,?_⟩
 rw [Int.toNat_natCast,Nat.mul_one]
 exact hc i _ (by simp [VL,hi])
theorem RR {h:Hp} {b s:Nat} {σ:aL} {R:Value->Hp->Prop} (hs:FV h b σ) (ok:σ.Ok) (hlt:s<2^σ.n) (k:R (.bool (σ.begins s)) h):m8 #[.pointer (some ⟨b,0,none⟩),I s] h R:=by
 apply A4
 refine uf_ ?_
 obtain⟨M,st,hold,bad,next,fx,_,_,_⟩:=hs
 have h8:=Nat.pow_le_pow_right (n:=2) (by omega) ok.nle
 have h82:(2:Nat)^8=256:=rfl
 have hb:=ok.bfix
 have ha:=ok.bas
 refine gT (gT ?_)
 repeat' (refine aD ?_)
 rw [Bc (by omega) (by omega)]
 refine dK ?_ k
 unfold aL.begins
 rw [Bool.eq_iff_iff,decide_eq_true_eq,beq_iff_eq];omega
theorem IntS.up {h h':Hp} {s:Sl} {xs:List Int} (e:IntS h s xs) (l:h.le h'):IntS h' s xs:=e.mono l
theorem IntSS.up {h h':Hp} {s:Sl} {xs:List (List Int)} (e:IntSS h s xs) (l:h.le h'):IntSS h' s xs:=e.mono l
theorem aO.up {h h':Hp} {M:MSl} {m:ah} (e:aO h M m) (l:h.le h'):aO h' M m:=e.mono l
theorem kpU {h0 h h':Hp} {b:Nat} {x:Blk} {P:Prop} (f:h0 b=some x) (l1:h0.le h') (l2:h0.le h) (k:P):h' b=h b/\P:=⟨by rw [l1 _ _ f,l2 _ _ f],k⟩
theorem kpN {h0 h h':Hp} {b:Nat} {P:Prop} (f:h0 b≠none) (l1:h0.le h') (l2:h0.le h) (k:P):h' b=h b/\P:=by
 refine⟨?_,k⟩
 cases hb:h0 b with
 |none=>exact absurd hb f
 |some x=>rw [l1 _ _ hb,l2 _ _ hb]
theorem rdU {α:Type} {f:α->Value} {h0 h:Hp} {b z o:Nat} {cs:List Value} {ro:Bool} {x:α} {P:α->Prop} (e:h0 b=some (.inl ⟨cs,z,ro⟩)) (l:h0.le h) (c:cs[o]?=some (f x)) (k:P x): ∃y:α,Hp.cell h b o=some (f y)/\P y:=⟨x,by rw [ax (l _ _ e)];exact c,k⟩
theorem ku_ {P Q:Prop} (k:Q) (h:Q->P:=by(first
 |((with_reducible apply rdU);(assumption);((focus ((repeat (first|exact Hp.le_refl _|assumption|(refine Hp.le_trans ?_ (by assumption))));done)));(exact rfl))
 |with_reducible exact And.intro (Eq.refl _)
 |with_reducible exact And.intro True.intro
 |with_reducible exact gT
 |((with_reducible apply kpU);(assumption);((focus ((repeat (first|exact Hp.le_refl _|assumption|(refine Hp.le_trans ?_ (by assumption))));done)));((focus ((repeat (first|exact Hp.le_refl _|assumption|(refine Hp.le_trans ?_ (by assumption))));done))))
 |((with_reducible apply kpN);(assumption);((focus ((repeat (first|exact Hp.le_refl _|assumption|(refine Hp.le_trans ?_ (by assumption))));done)));((focus ((repeat (first|exact Hp.le_refl _|assumption|(refine Hp.le_trans ?_ (by assumption))));done))))
 |fail)):P:=h k
set_option maxHeartbeats 2000000 in
theorem CU {h:Hp} {M:MSl} {m:ah} {c:Nat} {R:Value->Hp->Prop} (hs:aO h M m) (hm:bT m) (g:cr m) (hc:c<2^(ak m.nodes 36+ak m.nodes 35))
  (k: ∀t h',h.le h'->t.n=m.nodes.length->gR h' t (bL m (c%2^ak m.nodes 36) (c/2^ak m.nodes 36))->ae9 h t->R (Sl.v t) h'):pJ #[aQ M,I c] h R:=by
 apply IB
 refine uf_ ?_
 have hn8:=g.n8
 have hk5:=g.k5
 have hp13:=Wl g
 have hp8:=aiR g
 have h1':c%2^ak m.nodes 36<=c:=Nat.mod_le _ _
 have h2':c/2^ak m.nodes 36<=c:=Nat.div_le_self _ _
 have hpp:=bP (ak m.nodes 36)
 have hs36:cH m.nodes (av m.nodes 36)<=60:=by have:=eM g;show cH m.nodes (stP m)<=60;omega
 have hs35:cH m.nodes (av m.nodes 35)<=60:=by have:=xf g;show cH m.nodes (inP m)<=60;omega
 have hshr:oM (c:Int) ((ak m.nodes 36:Nat):Int)=((c/2^ak m.nodes 36:Nat):Int):=jF (by omega)
 have hmod:Int.tmod (c:Int) (((2^ak m.nodes 36:Nat)):Int)=((c%2^ak m.nodes 36:Nat):Int):=eP _ _
 have hwu:IntKind.wrap .u64 ((ak m.nodes 36:Nat):Int)=(ak m.nodes 36:Nat):=cZ (by omega)
 have hsh1:aA 1 ((ak m.nodes 36:Nat):Int)=((2^ak m.nodes 36:Nat):Int):=cw (by omega)
 refine aj fun b8 h1 hb8 l1 f8=>?_
 clear hb8
 repeat' (refine ku_ ?_)
 refine je (hs.mono l1) hm ⟨_,rfl,?_⟩
 simp only [hwu,hsh1,hshr,hmod]
 repeat' (first
  |(refine ku_ ?_)
  |(rw [if_neg (by omega)])
  |(refine cJ (hs.up (by((focus ((repeat (first|exact Hp.le_refl _|assumption|(refine Hp.le_trans ?_ (by assumption))));done))))) hm fun _ _ _ _=>⟨_,rfl,?_⟩)
  |(refine fP (hs.up (by((focus ((repeat (first|exact Hp.le_refl _|assumption|(refine Hp.le_trans ?_ (by assumption))));done))))) hm g.ok (IntS.up (by assumption) (by((focus ((repeat (first|exact Hp.le_refl _|assumption|(refine Hp.le_trans ?_ (by assumption))));done))))) (bV g 36) (gh g 36) (by omega) hs36 fun _ _ _ _=>⟨_,rfl,?_⟩)
  |(refine fP (hs.up (by((focus ((repeat (first|exact Hp.le_refl _|assumption|(refine Hp.le_trans ?_ (by assumption))));done))))) hm g.ok (IntS.up (by assumption) (by((focus ((repeat (first|exact Hp.le_refl _|assumption|(refine Hp.le_trans ?_ (by assumption))));done))))) (bV g 35) (gh g 35) (by omega) hs35 fun _ _ _ _=>⟨_,rfl,?_⟩)
  |(refine pZ (hs.up (by((focus ((repeat (first|exact Hp.le_refl _|assumption|(refine Hp.le_trans ?_ (by assumption))));done))))) hm g.ok g.nl (IntSS.up (by assumption) (by((focus ((repeat (first|exact Hp.le_refl _|assumption|(refine Hp.le_trans ?_ (by assumption))));done))))) (jR 36 (c%2^ak m.nodes 36) g) (IntSS.up (by assumption) (by((focus ((repeat (first|exact Hp.le_refl _|assumption|(refine Hp.le_trans ?_ (by assumption))));done))))) (jR 35 (c/2^ak m.nodes 36) g) fun t h' l hn hpv hw=>⟨_,rfl,k t h' (by((focus ((repeat (first|exact Hp.le_refl _|assumption|(refine Hp.le_trans ?_ (by assumption))));done)))) hn hpv fun b o hb=>aF (by((focus ((repeat (first|exact Hp.le_refl _|assumption|(refine Hp.le_trans ?_ (by assumption))));done)))) (hw b o hb)⟩)
  |(refine And.intro ?_ ?_))
def ic (ps:List Nat) (f:Nat->Option (List Nat)) (vs:List (List Nat)) (n:Nat):Bool:=(List.range n).all fun i=>match ps[i]? with
 |some p=>(match f p with|some v=>decide (vs.getD i []=v)|none=>true)
 |none=>true
theorem HK {ps:List Nat} {f:Nat->Option (List Nat)} {vs:List (List Nat)} {i p:Nat} (h:ps[i]?=some p):ic ps f vs (i+1)=(ic ps f vs i&&(match f p with|some v=>decide (vs.getD i []=v)|none=>true)):=by
 unfold ic
 rw [List.range_succ,List.all_append]
 simp only [List.all_cons,List.all_nil,Bool.and_true,h]
theorem jC {ps:List Nat} {f:Nat->Option (List Nat)} {vs:List (List Nat)}:ic ps f vs ps.length=true↔ ∀(i p:Nat),ps[i]?=some p-> ∀v,f p=some v->vs.getD i []=v:=by
 unfold ic
 rw [List.all_eq_true]
 constructor
 ·intro h i p hp v hv
  have:=h i (List.mem_range.2 (get_lt hp))
  rw [hp]at this
  simp only [hv,decide_eq_true_eq]at this
  exact this
 ·intro h i hi
  cases hp:ps[i]? with
  |none=>rfl
  |some p=>
   simp only
   cases hv:f p with
   |none=>rfl
   |some v=>simpa using h i p hp v hv
theorem Pr {ps:List Nat} {f:Nat->Option (List Nat)} {vs:List (List Nat)} {i:Nat} (hi:i<=ps.length) (h:ic ps f vs i=false):ic ps f vs ps.length=false:=by
 unfold ic at h⊢
 rw [List.all_eq_false]at h⊢
 obtain⟨x,hx,hn⟩:=h
 exact⟨x,List.mem_range.2 (by have:=List.mem_range.1 hx;omega),hn⟩
theorem Hk {h:Hp} {M:MSl} {m:ah} {s t:Sl} {ps:List Nat} {vs:List (List Nat)} {R:Value->Hp->Prop} (hs:aO h M m) (hm:bT m) (hok:bQ m.nodes=true) (hp:IntS h s (VL ps)) (hps: ∀p∈ps,p<m.nodes.length) (hpl:ps.length<=1048576)
  (hv:IntSS h t (vs.map VL)) (hf:jT m.nodes ps vs) (k:R (.bool true) h):sq #[aQ M,s.v,t.v] h R:=by
 refine ACalls.drop (NY ?_)
 refine uf_ ?_
 have hn:=hs.nodes.len
 have hsn:=hp.len
 rw [aX]at hsn
 have htn:=hv.len
 rw [List.length_map]at htn
 have hvl:=j5 hf
 refine aj fun b9 h1 hb9 l1 f9=>?_
 refine aC (by simp;omega) ?_
 refine au ps.length (fun i ws h'=>h.le h'/\h' b9=some (.inl ⟨aH M,5,false⟩)/\ws= [s.v,t.v, .pointer (some ⟨b9,0,none⟩),I i]) ⟨l1,f9,rfl⟩ ?_
 clear f9 l1 hb9 h1
 rintro i _ h1 next hi ⟨l1,f9,rfl⟩ hnx
 refine⟨s,t,_,_,_,rfl,?_⟩
 by_cases hlt:i<ps.length
 rotate_left
 ·exact aC (by simp;omega) ⟨_,l1,k⟩
 refine aM (by simp;omega) ?_
 obtain⟨p,hpi⟩: ∃p,ps[i]?=some p:=⟨_,List.getElem?_eq_getElem hlt⟩
 have hpm:=hps p (List.mem_of_getElem? hpi)
 obtain⟨b,o,ha,hc⟩:=(hp.mono l1).get (ir hpi)
 refine⟨b,o,ha,by omega,by omega,?_⟩
 (refine aD ?_)
 refine⟨_,hc,?_⟩
 obtain⟨bn,on,han,hpn',c6,c7,w1,w16⟩:=(hs.mono l1).nodes.sortc2 hpm hok
 refine⟨bn,on,han,by omega,hpn',_,c6,_,c7,?_⟩
 obtain⟨bt,ot,c,hta,htc,hcv⟩:=(hv.mono l1).getV (i:=i) (by omega)
 have xbt:=fQ htc
 have xbn:=fQ c6
 have xb:=fQ hc
 have xb9:=cf f9
 refine aj fun b36 h2 hb36 l2 f36'=>?_
 have n9:=fresh_ne hb36 f9
 have nt:=zj hb36 htc
 repeat' (((with_reducible apply m4);(assumption);(assumption)))
 (with_reducible apply cC);(exact f36');(exact Hp.le_trans l1 l2);(exact aF l1 hb36);(exact Nat.le_refl 2)
 intro h3 f36 kp l3
 have l13:h1.le h3:=iy hb36 l2 kp
 have f93:=l13 _ _ f9
 have f36v:h3 b36=some (.inl ⟨[I (ar m.nodes p).idx,I (bK m.nodes p)],2,false⟩):=f36
 refine⟨bt,ot,hta,by omega,by omega,c,l13.cell htc,?_⟩
 repeat' (refine aD ?_)
 refine gH ⟨_,rfl,?_⟩
 rw [pA hok hpm]
 have hg:=lU hf hpi
 have hcn:=hcv.len
 rw [aX]at hcn
 have hcl:=dk m.nodes p
 repeat' (refine aD ?_)
 refine aC (by simp;omega) ?_
 have hcv3:=hcv.mono l13
 refine au (aE m.nodes p) (fun q ws h'=>h'=h3/\ws= [s.v,t.v, .pointer (some ⟨b9,0,none⟩),I i, .pointer (some ⟨b36,0,none⟩),I q]) ⟨rfl,rfl⟩ ?_
 rintro q _ _ next2 hq ⟨rfl,rfl⟩ hnx2
 rename_i h3
 refine⟨s,t,_,_,_,_,_,_,rfl,?_⟩
 refine⟨bt,ot,hta,by omega,by omega,c,l13.cell htc,?_⟩
 by_cases hlq:q<aE m.nodes p
 rotate_left
 ·refine aC (by simp;omega) ?_
  rw [ay (by omega)]
  exact hnx hlt _ _ ⟨l3,f93,rfl⟩
 refine aM (by simp;omega) ?_
 refine⟨bt,ot,hta,by omega,by omega,?_⟩
 (refine aD ?_)
 refine⟨c,l13.cell htc,?_⟩
 obtain⟨bc,oc,hca,hcc,hln⟩:=hcv3.elt (i:=q) (by omega)
 refine⟨bc,oc,hca,by omega,by omega,_,hcc,?_⟩
 have hlt2:(vs.getD i []).getD q 0<2^bK m.nodes p:=by
  rw [List.getD_eq_getElem?_getD,List.getElem?_eq_getElem (show q<(vs.getD i []).length by omega)]
  exact hg.2 _ (List.getElem_mem _)
 refine cO ⟨_,rfl,aC ?_ ?_⟩
 ·rw [Bool.not_eq_false',ig]
  refine⟨by omega,by omega,?_⟩
  rw [Int.toNat_natCast];omega
 ·rw [ay (by omega)]
  exact hnx2 hlq _ _ ⟨rfl,rfl⟩
theorem gF {h:Hp} {M:MSl} {m:ah} {t:Sl} {vs:List (List Nat)} {R:Value->Hp->Prop} (hs:aO h M m) (hm:bT m) (hc:aG m=0)
  (hv:IntSS h t (vs.map VL)) (hf:jT m.nodes (stP m) vs) (k:R (.bool true) h):gj #[aQ M,t.v] h R:=by
 refine ACalls.drop (Gw ?_)
 refine uf_ ?_
 have g:=cD hc
 refine aj fun b8 h1 hb8 l1 f8=>?_
 repeat' (refine ku_ ?_)
 refine cj (hs.up (by((focus ((repeat (first|exact Hp.le_refl _|assumption|(refine Hp.le_trans ?_ (by assumption))));done))))) hm ⟨_,rfl,aM (by rw [hc];rfl) ?_⟩
 repeat' (refine ku_ ?_)
 refine cJ (hs.up (by((focus ((repeat (first|exact Hp.le_refl _|assumption|(refine Hp.le_trans ?_ (by assumption))));done))))) hm fun p h2 l2 i2=>⟨p,rfl,?_⟩
 repeat' (refine ku_ ?_)
 exact Hk (hs.up (by((focus ((repeat (first|exact Hp.le_refl _|assumption|(refine Hp.le_trans ?_ (by assumption))));done))))) hm g.ok i2 (bV g 36) (gh g 36) (hv.up (by((focus ((repeat (first|exact Hp.le_refl _|assumption|(refine Hp.le_trans ?_ (by assumption))));done))))) hf ⟨_,rfl,h,by((focus ((repeat (first|exact Hp.le_refl _|assumption|(refine Hp.le_trans ?_ (by assumption))));done))),k⟩
theorem TQ {m:ah} (g:cr m) {p k:Nat} (h:bO m.inits p=some k):k<m.nodes.length/\0<((kE m).getD k []).length/\((kE m).getD k []).length<=4:=by
 obtain⟨b,hb,_,rfl⟩:=dV h
 obtain⟨v1,v2,v3,v4,_,_⟩:=yp g hb
 exact⟨by omega,v3,v4⟩
theorem vr {h:Hp} {M:MSl} {m:ah} {t:Sl} {vs:List (List Nat)} {R:Value->Hp->Prop} (hs:aO h M m) (hm:bT m) (hc:aG m=0)
  (hv:IntSS h t (vs.map VL)) (hf:jT m.nodes (stP m) vs) (k:R (.bool (ic (stP m) (dZ m) vs (stP m).length)) h):pM #[aQ M,t.v] h R:=by
 refine ACalls.drop (H6 ?_)
 refine uf_ ?_
 have g:=cD hc
 have hil:=g.il
 have hnl:=g.nl
 have hp36:(stP m).length<=m.nodes.length:=dU m.nodes 36
 have htn:=hv.len
 rw [List.length_map]at htn
 have hvl:=j5 hf
 have hbn: ∀b∈m.inits,0<=b.node:=fun b hb=>(yp g hb).1
 refine aj fun b8 h1 hb8 l1 f8=>?_
 repeat' (refine ku_ ?_)
 refine gF (hs.up (by((focus ((repeat (first|exact Hp.le_refl _|assumption|(refine Hp.le_trans ?_ (by assumption))));done))))) hm hc (hv.up (by((focus ((repeat (first|exact Hp.le_refl _|assumption|(refine Hp.le_trans ?_ (by assumption))));done))))) hf ⟨_,rfl,aC rfl ?_⟩
 repeat' (refine ku_ ?_)
 refine Qj (hs.up (by((focus ((repeat (first|exact Hp.le_refl _|assumption|(refine Hp.le_trans ?_ (by assumption))));done))))) hm g fun vt h2 l2 hvn hpv=>⟨vt,rfl,?_⟩
 repeat' (refine ku_ ?_)
 refine cJ (hs.up (by((focus ((repeat (first|exact Hp.le_refl _|assumption|(refine Hp.le_trans ?_ (by assumption))));done))))) hm fun pt h3 l3 ip=>⟨pt,rfl,?_⟩
 have hpn:pt.n=(stP m).length:=by have:=ip.len;rw [aX]at this;exact this
 have f83:=l3 _ _ (l2 _ _ f8)
 have hpv3:=hpv.mono l3
 have l03:=Hp.le_trans l1 (Hp.le_trans l2 l3)
 have aV:=xW g
 clear l2 l3 l1 hb8 f8 hpv h2
 refine au (stP m).length (fun i ws h'=>h3.le h'/\ws= [t.v, .pointer (some ⟨b8,0,none⟩),vt.v,pt.v,I i]/\ic (stP m) (dZ m) vs i=true) ⟨Hp.le_refl _,rfl,rfl⟩ ?_
 rintro i _ h4 next hi ⟨l4,rfl,hg⟩ hnx
 have l04:=Hp.le_trans l03 l4
 refine⟨t,_,_,vt,pt,_,rfl,?_⟩
 by_cases hlt:i<(stP m).length
 rotate_left
 ·have hie:i=(stP m).length:=by omega
  subst hie
  refine aC (by simp;omega) ⟨_,l04,dK hg.symm k⟩
 refine aM (by simp;omega) ?_
 obtain⟨p,hpi⟩: ∃p,(stP m)[i]?=some p:=⟨_,List.getElem?_eq_getElem hlt⟩
 have hsucc:=HK (f:=dZ m) (vs:=vs) hpi
 rw [hg,Bool.true_and]at hsucc
 obtain⟨b,o,ha,hcc⟩:=(ip.mono l4).get (ir hpi)
 refine⟨b,o,ha,by omega,by omega,?_⟩
 (refine ku_ ?_)
 refine⟨_,hcc,?_⟩
 refine lw (hs.mono l04).inits (by omega) hbn ⟨_,rfl,?_⟩
 refine ap (fun J=> ∀h',h4.le h'->J (!ic (stP m) (dZ m) vs (i+1)) h') ?_ (fun J hJ=>?_)
 ·intro h' l'
  refine ad (fun e=>⟨_,Hp.le_trans l04 l',dK ?_ k⟩) (fun e=>?_)
  ·symm;exact Pr (i:=i+1) (by omega) (by simpa using e)
  ·rw [ay (by omega)]
   exact hnx hlt _ _ ⟨Hp.le_trans l4 l',rfl,by simpa using e⟩
 cases hbo:bO m.inits p with
 |none=>
  rw [show ii m.inits p= -1 from by unfold ii;rw [hbo]]
  refine aC (by simp) ⟨trivial,?_⟩
  have hn:dZ m p=none:=by unfold dZ;rw [hbo];rfl
  rw [hn]at hsucc
  have:=hJ h4 (Hp.le_refl _)
  rw [hsucc]at this;exact this
 |some q=>
  rw [show ii m.inits p=(q:Int)from by unfold ii;rw [hbo]]
  refine aM (by simp) ?_
  obtain⟨hq,v3,v4⟩:=TQ g hbo
  have hsm:dZ m p=some (kK (aE m.nodes p) ((kE m).getD q [])):=by unfold dZ;rw [hbo];rfl
  have hfit:=uU g hsm
  have hcl:=dk m.nodes p
  have hgv:=lU hf hpi
  rw [hsm]at hsucc
  obtain⟨bt,ot,c,hta,htc,hcv⟩:=(hv.mono l04).getV (i:=i) (by omega)
  obtain⟨bv,ov,u,hua,hun,huc,huv⟩:=(hpv3.mono l4).at (p:=(q:Int)) (by omega) (by rw [aV.len];omega)
  have hcn:=hcv.len
  rw [aX]at hcn
  refine⟨bt,ot,hta,by omega,by omega,bv,ov,hua,by omega,hun,bt,ot,hta,by omega,by omega,c,htc,u,huc,c,htc,?_⟩
  rw [Int.toNat_natCast]at huv
  rw [hcn,hgv.1]
  have xbt:=fQ htc
  refine Hl huv v3 v4 hcl fun w h5 l5 hw=>⟨w,rfl,?_⟩
  repeat' (((with_reducible apply m4);(assumption);(assumption)))
  refine AC (hcv.mono l5) hw (by rw [aX];omega) (by rw [aX,aX,hgv.1,hfit.1];exact Nat.le_refl _) ⟨_,rfl,?_⟩
  have:=hJ h5 l5
  simp only at hsucc
  rw [hsucc]at this
  have e2:decide (VL (vs.getD i [])=VL (kK (aE m.nodes p) ((kE m).getD q [])))=decide (vs.getD i []=kK (aE m.nodes p) ((kE m).getD q [])):=by
   rw [Bool.eq_iff_iff,decide_eq_true_eq,decide_eq_true_eq,Gx]
  rw [e2];exact this
section
variable {g h h':Hp} {L L' A B X:List (Nat×Blk)}
theorem Kn.app (K:Kn g h L) (l:h.le h') (n: ∀e∈X,h e.1=none) (f: ∀e∈X,h' e.1=some e.2) (nd:(X.map Prod.fst).Nodup):Kn g h' (L++X):=by
 refine⟨Hp.le_trans K.le l,fun e he=>?_,fun e he=>?_,?_⟩
 ·rcases List.mem_append.1 he with he|he
  ·exact l _ _ (K.mem e he)
  ·exact f e he
 ·rcases List.mem_append.1 he with he|he
  ·exact K.new e he
  ·exact aF K.le (n e he)
 ·rw [List.map_append,List.nodup_append]
  refine⟨K.nd,nd,fun a ha b hb hab=>?_⟩
  obtain⟨e,he,rfl⟩:=List.mem_map.1 ha
  obtain⟨e',he',rfl⟩:=List.mem_map.1 hb
  have h1:=K.mem e he
  have h2:=n e' he'
  rw [hab,h2]at h1;cases h1
theorem Kn.split (K:Kn g h (A++B)):Kn (h.wo (B.map Prod.fst)) h B/\Kn g (h.wo (B.map Prod.fst)) A:=by
 have nd:=K.nd
 rw [List.map_append,List.nodup_append]at nd
 refine⟨⟨un _ _,fun e he=>K.mem e (List.mem_append_right _ he),fun e he=>fT (List.mem_map.2 ⟨e,he,rfl⟩),nd.2.1⟩,?_,fun e he=>?_,fun e he=>K.new e (List.mem_append_left _ he),nd.1⟩
 ·exact vH K.le fun b hb=>by
   obtain⟨e,he,rfl⟩:=List.mem_map.1 hb
   exact K.new e (List.mem_append_right _ he)
 ·rw [vV]
  ·exact K.mem e (List.mem_append_left _ he)
  ·intro hb
   exact nd.2.2 _ (List.mem_map.2 ⟨e,he,rfl⟩) _ hb rfl
theorem Kn.off (K:Kn g h L) {b:Nat} {x y:Blk} (u:Upd L b x y L') (l:(h.off b).le h') (f:h' b=some y):Kn g h' L':=by
 refine⟨?_,fun e he=>?_,fun e he=>?_,by rw [u.keys];exact K.nd⟩
 ·exact Hp.le_trans (zP (K.new (b,x) u.mem) K.le) l
 ·rcases u.out K.nd e he with rfl|⟨h1,h2⟩
  ·exact f
  ·refine l _ _ ?_
   simp only [Hp.off,Hp.set];rw [if_neg h2];exact K.mem e h1
 ·rcases u.out K.nd e he with rfl|⟨h1,h2⟩
  ·exact K.new (b,x) u.mem
  ·exact K.new e h1
def mv (X:List (Nat×Blk)) (s:Sl) (sz:Nat) (cs:List Value):Prop:=
 cs.length=s.n*sz/\s.n<=9223372036854775807/\((s.n=0/\X= [])\/(s.n≠0/\ ∃b z,s.a=some ⟨b,0,none⟩/\X= [(b, .inl ⟨cs,z,false⟩)]))
theorem mv.own {s:Sl} {sz:Nat} {cs:List Value} (o:mv X s sz cs) (K:Kn g h (L++X)):Own h s sz cs:=by
 refine⟨o.1,o.2.1,?_⟩
 rcases o.2.2 with ⟨h0,_⟩|⟨_,b,z,ha,rfl⟩
 ·exact .inl h0
 ·exact .inr ⟨b,z,ha,K.at (by simp)⟩
theorem mv.mark {s:Sl} {sz:Nat} {cs cs':List Value} (o:mv X s sz cs) (K:Kn g h (L++X)) (l:(h.wo s.used).le h') (o':Own h' s sz cs'): ∃X',mv X' s sz cs'/\Kn g h' (L++X'):=by
 rcases o.2.2 with ⟨h0,rfl⟩|⟨h0,b,z,ha,rfl⟩
 ·refine⟨[],⟨o'.1,o'.2.1, .inl ⟨h0,rfl⟩⟩,K.mono ?_⟩
  have:s.used= []:=by unfold Sl.used;rw [if_pos h0]
  rw [this]at l
  exact Hp.le_trans (vH (Hp.le_refl _) (fun b hb=>by simp at hb)) l
 ·obtain⟨b',z',ha',hb'⟩:=o'.2.2.resolve_left h0
  rw [ha]at ha';cases ha'
  refine⟨_,⟨o'.1,o'.2.1, .inr ⟨h0,b,z',ha,rfl⟩⟩,?_⟩
  have hu:s.used= [b]:=by unfold Sl.used Sl.blk;rw [if_neg h0,ha]
  rw [hu]at l
  have nd:=K.nd
  rw [List.map_append,List.nodup_append]at nd
  have hbn:g b=none:=K.new (b, .inl ⟨cs,z,false⟩) (List.mem_append_right _ (by simp))
  have hne: ∀e∈L,e.1≠b:=fun e he hb=>nd.2.2 _ (List.mem_map.2 ⟨e,he,rfl⟩) b (by simp) hb
  have hwo: ∀c,c≠b->(h.wo [b]) c=h c:=fun c hc=>vV (by simpa using hc)
  refine⟨?_,fun e he=>?_,fun e he=>?_,?_⟩
  ·exact Hp.le_trans (vH K.le fun c hc=>by rw [List.mem_singleton.1 hc];exact hbn) l
  ·rcases List.mem_append.1 he with he|he
   ·exact l _ _ (by rw [hwo _ (hne e he)];exact K.mem e (List.mem_append_left _ he))
   ·rw [List.mem_singleton.1 he];exact hb'
  ·rcases List.mem_append.1 he with he|he
   ·exact K.new e (List.mem_append_left _ he)
   ·rw [List.mem_singleton.1 he];exact hbn
  ·rw [List.map_append,List.nodup_append]
   exact⟨nd.1,by simp,fun a ha c hc=>nd.2.2 a ha c (by simpa using hc)⟩
end
theorem list9 {cs:List Value} (h:cs.length=9): ∃a b c d e f g i j,cs= [a,b,c,d,e,f,g,i,j]:=by
 match cs,h with
 | [a,b,c,d,e,f,g,i,j],_=>exact⟨a,b,c,d,e,f,g,i,j,rfl⟩
theorem list2 {cs:List Value} (h:cs.length=2): ∃a b,cs= [a,b]:=by
 match cs,h with
 | [a,b],_=>exact⟨a,b,rfl⟩
theorem Got.flat {P:Program} {W:World} {t e:TypeId} {v:Value} {α:Type} {f:α->List Value} {m:Nat} {p:α->Prop} (hf: ∀x,(f x).length=m) (hpos:0<m) (ht:P.underlying t=some (.slice e)) (hsz:P.cellsOf e=m)
  (hg: ∀ds,Got P W e ds-> ∃x,ds=f x/\p x) (g:Got P W t [v]): ∃(s:Sl) (l:List α),v=s.v/\s.n<=s.c/\SlC (hW W) s m (l.flatMap f)/\ ∀x∈l,p x:=by
 obtain⟨s,hs,hm,hlc,h⟩:=Got.slice ht hsz hpos g
 simp only [List.cons.injEq,and_true]at hs
 rcases h with h|⟨b,o,ha,h⟩
 ·exact⟨s, [],hs,hlc,⟨hm,by simp [h], .inl h⟩,by simp⟩
 obtain⟨xs,hl,hx⟩:=I3 (p:=fun i (x:α)=>(∀(j:Nat) v,(f x)[j]?=some v->Hp.cell (hW W) b (o+i*m+j)=some v)/\p x) s.n fun i hi=>by
  obtain⟨ds,hd,hgd,hc⟩:=h i hi
  obtain⟨x,rfl,hp⟩:=hg ds hgd
  exact⟨x,hc,hp⟩
 refine⟨s,xs,hs,hlc,⟨hm,by rw [ck hf,hl], .inr ⟨b,o,ha,?_⟩⟩,?_⟩
 ·intro i v hv
  have hi:i<(xs.flatMap f).length:=(List.getElem?_eq_some_iff.1 hv).1
  rw [ck hf]at hi
  have hq:i/m<xs.length:=by rw [Nat.div_lt_iff_lt_mul hpos];exact hi
  have hr:i%m<m:=Nat.mod_lt _ hpos
  have he:i=i/m*m+i%m:=by rw [Nat.mul_comm];exact(Nat.div_add_mod _ _).symm
  rw [he,mL hf xs (i/m) xs[i/m] (i%m) (List.getElem?_eq_getElem hq) hr]at hv
  have:=(hx (i/m) hq).1 _ _ hv
  rw [he,<-Nat.add_assoc];exact this
 ·intro x hxm
  obtain⟨i,hi,rfl⟩:=List.getElem_of_mem hxm
  exact(hx i hi).2
def tb (n:Nat) (T:Nat->Bool):List Value:=(List.range n).map fun i=> .bool (T i)
theorem oP (n:Nat) (T:Nat->Bool):(tb n T).length=n:=by simp [tb]
theorem zk {n j:Nat} {T:Nat->Bool} (hj:j<n):(tb n T)[j]?=some (.bool (T j)):=by simp [tb,hj]
theorem ag5 {n:Nat} {T U:Nat->Bool} (h: ∀j,j<n->T j=U j):tb n T=tb n U:=by
 refine List.map_congr_left fun j hj=>?_
 rw [h j (List.mem_range.1 hj)]
theorem uL (n:Nat):List.replicate n (.bool false)=tb n fun _=>false:=by
 refine List.ext_getElem (by simp [tb]) fun i h1 h2=>?_
 simp [tb]
theorem u9 {n j:Nat} {T:Nat->Bool} {v:Bool}:(tb n T).set j (.bool v)=tb n fun i=>if i=j then v else T i:=by
 refine List.ext_getElem (by simp [tb]) fun i h1 h2=>?_
 rw [List.getElem_set]
 simp only [tb,List.getElem_map,List.getElem_range]
 by_cases e:i=j
 ·rw [if_pos e,if_pos e.symm]
 ·rw [if_neg e,if_neg fun h=>e h.symm]
theorem agU (n:Nat) (T:Nat->Bool):tb n T=((List.range n).map T).map Value.bool:=by simp [tb]
theorem xZ {h:Hp} {b n z:Nat} {ro:Bool} {T U:Nat->Bool} (hn:n<=9223372036854775807) (f:h b=some (.inl ⟨tb n T,z,ro⟩)) (e: ∀j,j<n->T j=U j):fq h (arr b n) n U:=by
 refine⟨by dsimp only;omega,by simp, .inr ⟨b,0,rfl,?_⟩⟩
 have:=aw f
 rwa [ag5 e,agU]at this
theorem mT {σ:aL} (ok:σ.Ok):2^σ.n<=256:=by
 have:=Nat.pow_le_pow_right (n:=2) (by omega) ok.nle
 simpa using this
theorem Jr {σ:aL} (ok:σ.Ok):2^σ.k<=32:=by
 have:=Nat.pow_le_pow_right (n:=2) (by omega) ok.kle
 simpa using this
theorem vu {σ:aL} (ok:σ.Ok):2^(σ.n+σ.k)<=8192:=by
 have h1:=ok.nle
 have h2:=ok.kle
 have:=Nat.pow_le_pow_right (n:=2) (by omega) (show σ.n+σ.k<=13 by omega)
 simpa using this
theorem WL {h:Hp} {b s i:Nat} {σ:aL} {R:Value->Hp->Prop} (hs:FV h b σ) (ok:σ.Ok) (h1:s<2^σ.n) (h2:i<2^σ.k) (k:R (I (σ.at_ s i:Nat)) h):
  nw #[.pointer (some ⟨b,0,none⟩),I s,I i] h R:=by
 apply GC
 refine uf_ ?_
 obtain⟨M,st,hold,bad,next,fx,_,_,_⟩:=hs
 have hn:=mT ok
 have hk:=vu ok
 have hl:=aL.at_lt h1 h2
 have h8:=ok.nle
 unfold aL.at_ at hl k
 refine gT ?_
 (refine aD ?_)
 rw [if_neg (by omega),jk (by omega) (by omega),Ef (by omega) (by omega)]
 refine tU ?_ k
 rw [<-Nat.shiftLeft_eq,<-Nat.shiftLeft_add_eq_or_of_lt h1,Nat.shiftLeft_eq]
theorem P0 {h:Hp} {b c:Nat} {σ:aL} {R:Value->Hp->Prop} (hs:FV h b σ) (hc:c<2^(σ.n+σ.k)) (k:R (.bool (σ.hold c)) h):
  rD #[.pointer (some ⟨b,0,none⟩),I c] h R:=by
 apply Aj
 refine uf_ ?_
 obtain⟨M,st,hold,bad,next,fx,hh,_,_⟩:=hs
 refine gT ?_
 (refine aD ?_)
 obtain⟨b',o',ha,h1,h2⟩:=hh.get hc
 exact⟨b',o',ha,by omega,h1,_,h2,k⟩
theorem Yb {h:Hp} {b c:Nat} {σ:aL} {R:Value->Hp->Prop} (hs:FV h b σ) (hc:c<2^(σ.n+σ.k)) (k:R (.bool (σ.ends c)) h):
  pP #[.pointer (some ⟨b,0,none⟩),I c] h R:=by
 apply Dn
 refine uf_ ?_
 obtain⟨M,st,hold,bad,next,fx,hh,hb,_⟩:=hs
 refine gT ?_
 (refine aD ?_)
 obtain⟨b',o',ha,h1,h2⟩:=hh.get hc
 refine⟨b',o',ha,by omega,h1,_,h2,?_⟩
 unfold aL.ends at k
 refine ad (fun e=>?_) (fun e=>?_)
 ·refine gT ?_
  (refine aD ?_)
  obtain⟨b',o',ha,h1,h2⟩:=hb.get hc
  refine⟨b',o',ha,by omega,h1,_,h2,dK ?_ k⟩
  rw [e];rfl
 ·rw [e]at k;exact k
def aip (h:Hp) (fid:FuncId) (u w:Array Value) (σ:aL) (f:Nat->Nat->Bool):Prop:=
 ∀s i:Nat,s<2^σ.n->i<2^σ.k-> ∀h':Hp,h.le h'-> ∀R:Value->Hp->Prop,R (.bool (f s (σ.at_ s i))) h'->ACalls PR fid ((u++ #[I s,I (σ.at_ s i:Nat)])++w) h' R
theorem YU {h:Hp} {b:Nat} {σ:aL} {fid:FuncId} {u w:Array Value} {f:Nat->Nat->Bool} {R:Value->Hp->Prop} (hs:FV h b σ) (ok:σ.Ok) (hf:aip h fid u w σ f)
  (k: ∀t h',h.le h'->fq (h'.sub h) t (2^σ.n) (σ.some_ f)->R (Sl.v t) h'):qg #[.pointer (some ⟨b,0,none⟩), .func (.func fid) u w] h R:=by
 apply DL
 refine uf_ ?_
 have hn:=mT ok
 have hk:=Jr ok
 have h8:=ok.nle
 have h5:=ok.kle
 obtain⟨M,st,hold,bad,next,fx,_⟩:=id hs
 have K0:=Kn.nil h
 refine gT ?_
 (refine aD ?_)
 rw [if_neg (by omega),cw (by omega)]
 refine⟨Int.natCast_nonneg _,Int.le_refl _,by omega,by omega,?_⟩
 (with_reducible apply Kn.al);(assumption);(intro b10 h1 K1 l1 hb10)
 rw [Int.toNat_natCast,Nat.mul_one,cE,uL]at K1
 rw [Int.toNat_natCast]
 refine au (2^σ.n) (fun s vs h'=>vs= [.pointer (some ⟨b,0,none⟩), .func (.func fid) u w,(arr b10 (2^σ.n)).v,I (2^σ.n:Nat),I s]/\
  ∃T,Kn h h' [(b10, .inl ⟨tb (2^σ.n) T,2^σ.n,false⟩)]/\(∀j,j<s->T j=σ.some_ f j)/\ ∀j,s<=j->T j=false) ⟨rfl,_,K1,fun j hj=>by omega,fun _ _=>rfl⟩ ?_
 clear K1 K0 l1 hb10 h1
 rintro s _ h1 next hs' ⟨rfl,T,K1,hT1,hT2⟩ hnx
 refine⟨_,_,_,_,arr b10 _,_,_,rfl,?_⟩
 by_cases hlt:s<2^σ.n
 rotate_left
 ·refine aC (by rw [decide_eq_false_iff_not];omega) ?_
  exact k _ h1 K1.le (xZ (by omega) (by rw [ln (K1.new _ (.head _))];exact K1.at (.head _)) fun j hj=>hT1 j (by omega))
 refine aM (by rw [decide_eq_true_eq];exact_mod_cast hlt) ?_
 refine gT ?_
 (refine kr_ ?_)
 rw [if_neg (by omega),cw (by omega)]
 refine au (2^σ.k) (fun i vs h'=>vs= [.pointer (some ⟨b,0,none⟩), .func (.func fid) u w,(arr b10 (2^σ.n)).v,I s,I (2^σ.n:Nat),I s,I (2^σ.k:Nat),I i]/\
  ∃T,Kn h h' [(b10, .inl ⟨tb (2^σ.n) T,2^σ.n,false⟩)]/\(∀j,j<s->T j=σ.some_ f j)/\(∀j,s<j->T j=false)/\T s=rz i fun x=>f s (σ.at_ s x))
  ⟨rfl,T,K1,hT1,fun j hj=>hT2 j (by omega),by rw [hT2 s (Nat.le_refl _)];rfl⟩ ?_
 clear K1 hT1 hT2 T h1
 rintro i _ h1 next2 hi ⟨rfl,T,K1,hT1,hT2,hT3⟩ hnx2
 refine⟨_,_,_,_,arr b10 _,_,_,_,_,_,rfl,?_⟩
 by_cases hli:i<2^σ.k
 rotate_left
 ·refine aC (by rw [decide_eq_false_iff_not];omega) ?_
  have hie:i=2^σ.k:=by omega
  rw [ay (by omega)]
  refine hnx hlt _ _ ⟨rfl,T,K1,fun j hj=>?_,fun j hj=>hT2 j (by omega)⟩
  by_cases e:j=s
  ·rw [e,hT3,hie];rfl
  ·exact hT1 j (by omega)
 refine aM (by rw [decide_eq_true_eq];exact_mod_cast hli) ?_
 have upd: ∀v,v=rz (i+1) (fun x=>f s (σ.at_ s x))-> ∀h',Kn h h' [(b10, .inl ⟨(tb (2^σ.n) T).set s (.bool v),2^σ.n,false⟩)]->
   next2 [.pointer (some ⟨b,0,none⟩), .func (.func fid) u w,(arr b10 (2^σ.n)).v,I s,I (2^σ.n:Nat),I s,I (2^σ.k:Nat),I (W ((i:Int)+1))] h':=by
  intro v hv h' K
  rw [ay (by omega)]
  rw [u9]at K
  exact hnx2 hli _ _ ⟨rfl,_,K,fun j hj=>by rw [if_neg (by omega)];exact hT1 j hj,fun j hj=>by rw [if_neg (by omega)];exact hT2 j hj,by rw [if_pos rfl];exact hv⟩
 refine⟨b10,0,rfl,by omega,by dsimp only;omega,?_⟩
 refine Kn.rd K1 (.head _) (x:=T s) (by rw [Nat.zero_add,Nat.mul_one,Int.toNat_natCast];exact zk hlt) ?_
 refine ad (fun e=>?_) (fun e=>?_)
 ·refine⟨b10,0,rfl,by omega,by dsimp only;omega,?_⟩
  (((with_reducible apply Kn.wr);(assumption);((focus ((repeat first|exact .head|apply Upd.tail);done)))))
  ·rw [oP];omega
  intro h2 K2 _
  rw [bG,Nat.zero_add,Int.toNat_natCast,Nat.mul_one]at K2
  exact upd true (by rw [Pp,<-hT3,e];rfl) h2 K2
 ·refine WL (hs.mono K1.le) ok hlt hli ⟨_,rfl,?_⟩
  refine hf s i hlt hli h1 K1.le _ ⟨_,rfl,?_⟩
  refine⟨b10,0,rfl,by omega,by dsimp only;omega,?_⟩
  (((with_reducible apply Kn.wr);(assumption);((focus ((repeat first|exact .head|apply Upd.tail);done)))))
  ·rw [oP];omega
  intro h2 K2 _
  rw [bG,Nat.zero_add,Int.toNat_natCast,Nat.mul_one]at K2
  exact upd _ (by rw [Pp,<-hT3,e];rfl) h2 K2
end Go.Lead
