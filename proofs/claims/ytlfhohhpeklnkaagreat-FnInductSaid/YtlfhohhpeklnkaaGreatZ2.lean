/- What functions of the program and of the reference come to, walked one by one, and plain laws about it: part 3. No condition is added to the statement. -/
import Derived.Test.YtlfhohhpeklnkaaGreatZ1
namespace Go.Lead
open Go
set_option linter.unusedSimpArgs false
set_option linter.unusedVariables false
set_option maxRecDepth 100000
set_option maxHeartbeats 1000000
theorem Buf.slS {h h0:Hp} {s:Sl} {xs:List Int} (e:Buf (h.sub h0) s 1 (xs.map I)) (hn:s.n<=9223372036854775807):IntS h s xs:=(Buf.slc_of e hn).mono (sub_le _ _)
theorem gY.wid {h:Hp} {s:Sl} {l:List NodeP} (e:gY h s l) {p:Int} (h0:0<=p) (hp:p<l.length):
  ∃b o,s.a=some (Addr.mk b o none)/\p<(s.n:Int)/\Hp.cell h b ((o+p.toNat*9)+6+1)=some (I (az l p).wid):=by
 obtain⟨n,hn1⟩: ∃n,l[p.toNat]?=some n:=⟨_,List.getElem?_eq_getElem (by omega)⟩
 obtain⟨ba,oa,ha1,_,_,_,_,_,_,c6,c7,_⟩:=e.at hn1
 refine⟨ba,oa,ha1,by have:=e.len;omega,?_⟩
 rw [nJ hn1];exact c7
theorem HW {h:Hp} {l:List NodeP} {i:Nat} {n:NodeP} {sn s:Sl} {v:List (List Nat)} {R:Value->Hp->Prop} (hl:l.length<=60) (hi:i<=l.length)
  (ht:I7 l i n) (hv:tP l i v) (hvl:v.length=i) (hsn:gY h sn l) (hpv:jf h s v) (hk34: ¬n.kind=34) (hk35: ¬n.kind=35) (hk36: ¬n.kind=36)
  (k: ∀t h',h.le h'->IntS h' t (VL (fZ l n v))->R (.agg #[Sl.v t]) h'):rl #[sn.v,Aa n,s.v] h R:=by
 obtain⟨val,hnv⟩: ∃val,val=fZ l n v:=⟨_,rfl⟩
 rw [<-hnv]at k
 unfold fZ at hnv
 apply E3
 refine uf_ ?_
 have hk:=ht.kind
 have hp:0<ap n.kind:=by
  have:ap n.kind≠0:=by intro h0;revert h0;unfold ap;(repeat' split)<;>(intro h;omega)
  omega
 have pk:=ht.part
 have pf: ∀j:Nat,j<3->(j:Int)<ap n.kind->Fit (az l (aQ n j)) (v.getD (aQ n j).toNat []):=fun j h1 h2=>hv.part ht hi h1 h2
 refine ai fun b13 h1 hb13 l1 f13=>?_
 refine ai fun b15 h2 hb15 l2 f15=>?_
 have n13:=fresh_ne hb15 f13
 have b15n:=aC l1 hb15
 replace f13:=l2 _ _ f13
 replace l2:=Hp.le_trans l1 l2
 (refine av ?_)
 obtain⟨ba,oa,ta,ha,h1',hca,hta⟩:=(hpv.mono l2).at (pk 0 (by omega) (by omega)).1 (by have:=(pk 0 (by omega) (by omega)).2.1;omega)
 refine⟨ba,oa,ha,(pk 0 (by omega) (by omega)).1,h1',ta,hca,?_⟩
 refine ai fun b22 h3 hb22 l3 f22'=>?_
 have n22:=fresh_ne hb22 f13
 have n22':=fresh_ne hb22 f15
 have b22n:=aC l2 hb22
 (with_reducible apply bR);(exact f22');(exact l3);(exact hb22);(exact Nat.le_refl 1)
 intro h4 f22 kp l4
 replace f13:=l4 _ _ f13
 replace f15:=l4 _ _ f15
 have l0:=Hp.le_trans l2 l4
 replace hta:=hta.mono l4
 have f22v:h4 b22=some (.inl ⟨[ta.v],1,false⟩):=f22
 clear f22 f22' l1 l2 l3 l4 hb13 hb15 hb22 h1 h2 h3 hca kp
 have res: ∀(h5:Hp) (t:Sl),h.le h5->h5 b15=some (.inl ⟨[.slice none 0 0],1,false⟩)->IntS h5 t (VL val)->
   ∃(cs:List Value) (z:Nat),h5 b15=some (.inl ⟨cs,z,false⟩)/\0+1<=List.length cs/\ck (h5.row b15 (cM cs 0 [t.v]) z) fun h'=> ∃(s:Sl),Hp.cell h' b15 0=some s.v/\R (.agg #[s.v]) h':=by
  intro h5 t l5 g15 hval
  (with_reducible apply bR);(exact g15);(exact l5);(exact b15n);(exact Nat.le_refl 1)
  intro h6 g kp l6
  exact⟨t,by rw [am g];rfl,k t h6 l6 (hval.keep g15 kp)⟩
 clear k
 have wres: ∀(x:Nat) (z:Int),z=x->val= [x]->iB #[I z] h4 fun v30 h31=> ∃(s32:Sl),v30=(.agg #[s32.v])/\(∃(cs33:List Value) (z34:Nat),h31 b15=some (.inl ⟨cs33,z34,false⟩)/\0+1<=List.length cs33/\ck (h31.row b15 (cM cs33 0 [s32.v]) z34) fun h35=> ∃(s36:Sl),Hp.cell h35 b15 0=some s36.v/\(R (.agg #[s36.v]) h35)):=by
  intro x z hz hx
  subst hz
  refine Ds fun t h5 l5 hval=>⟨t,rfl,res h5 t (Hp.le_trans l0 l5) (l5 _ _ f15) ?_⟩
  rw [hx];exact hval
 have cres: ∀(s0:Sl) (x:List Nat),IntS h4 s0 (VL x)->x.length<=4->val=x->eU #[.agg #[s0.v]] h4 fun v30 h31=> ∃(s32:Sl),v30=(.agg #[s32.v])/\(∃(cs33:List Value) (z34:Nat),h31 b15=some (.inl ⟨cs33,z34,false⟩)/\0+1<=List.length cs33/\ck (h31.row b15 (cM cs33 0 [s32.v]) z34) fun h35=> ∃(s36:Sl),Hp.cell h35 b15 0=some s36.v/\(R (.agg #[s36.v]) h35)):=by
  intro s0 x hs0 hx hval
  refine nv hs0 (by rw [ca];omega) fun t h5 l5 hb=>⟨t,rfl,res h5 t (Hp.le_trans l0 l5) (l5 _ _ f15) ?_⟩
  rw [hval];exact hb.slS (by have:=hb.1;rw [List.length_map,ca]at this;omega)
 have hpv4:=hpv.mono l0
 have vat: ∀j:Nat,j<3->(j:Int)<ap n.kind->_:=fun j h1 h2=>hpv4.at (pk j h1 h2).1 (by have:=(pk j h1 h2).2.1;omega)
 have hres:=ht.res hp
 have oa':=bO.1 (pk 0 (by omega) hp).2.2
 rw [if_neg hk34]at hnv
 have hkinds:=lb hp
 have len4: ∀j:Nat,j<3->(j:Int)<ap n.kind->(v.getD (aQ n j).toNat []).length<=4:=fun j h1 h2=>by
  have o:=bO.1 (pk j h1 h2).2.2
  rw [(pf j h1 h2).len]
  have:=Nat.pow_le_pow_right (n:=2) (by omega) (show (az l (aQ n j)).idx.toNat<=2 by omega);simpa using this
 obtain⟨bw,ow,hwa,hwl,hwc⟩:=(hsn.mono l0).wid (pk 0 (by omega) (by omega)).1 (by have:=(pk 0 (by omega) (by omega)).2.1;omega)
 (refine av ?_)
 refine⟨bw,ow,hwa,(pk 0 (by omega) (by omega)).1,hwl,_,hwc,?_⟩
 have ta0:=hta.elt (pf 0 (by omega) (by omega)).pos
 obtain⟨b0,o0,a0,e0,m0⟩:=ta0
 refine ar (fun J=> ∀x:Nat,val= [x]->J x h4) ?_ (fun J hJ=>?_)
 ·intro x hx;exact wres x x rfl hx
 (refine av ?_)
 refine ad (fun e=>?_) (fun e33=>?_)
 ·have e:=bL e
  have hp3:ap n.kind=3:=by omega
  rw [if_pos e]at hnv
  (refine av ?_)
  refine⟨b0,o0,a0,by omega,by omega,_,e0,?_⟩
  refine ad (fun e=>?_) (fun e=>?_)
  ·(refine av ?_)
   obtain⟨b,o,t,ha,h1,h2,h3'⟩:=vat 1 (by omega) (by omega)
   refine⟨b,o,ha,(pk 1 (by omega) (by omega)).1,h1,t,h2,cres t _ h3' (len4 1 (by omega) (by omega)) ?_⟩
   have:cE v n.a=1:=by have:=bL e;unfold cE;simp only [aQ]at this;omega
   rw [hnv,if_pos this];rfl
  ·(refine av ?_)
   obtain⟨b,o,t,ha,h1,h2,h3'⟩:=vat 2 (by omega) (by omega)
   refine⟨b,o,ha,(pk 2 (by omega) (by omega)).1,h1,t,h2,cres t _ h3' (len4 2 (by omega) (by omega)) ?_⟩
   have: ¬cE v n.a=1:=by have:=aW e;unfold cE;simp only [aQ]at this;omega
   rw [hnv,if_neg this];rfl
 replace e33:=aW e33
 rw [if_neg e33]at hnv
 (refine av ?_)
 refine ad (fun e=>?_) (fun e37=>?_)
 ·have e:=bL e
  have hp2:ap n.kind=2:=by omega
  obtain⟨r1,r2,r3⟩:=Mi e hres
  rw [if_neg (show¬n.kind=21 by omega),if_pos e]at hnv
  repeat' (refine av ?_)
  obtain⟨b,o,t,ha,h1,h2,h3'⟩:=vat 1 (by omega) (by omega)
  obtain⟨b2,o2,ha2,hc2,hl2⟩:=h3'.elt (pf 1 (by omega) (by omega)).pos
  refine⟨b,o,ha,(pk 1 (by omega) (by omega)).1,h1,t,h2,b2,o2,ha2,by omega,by omega,_,hc2,?_⟩
  have fb:=(pf 1 (by omega) (by omega)).cell
  have fa:=(pf 0 (by omega) (by omega)).len
  simp only [aQ]at fb fa hta
  rw [r2]at fb
  have hlt:cE v n.b<(v.getD n.a.toNat []).length:=by rw [fa];exact fb
  obtain⟨b3,o3,ha3,hc3,hl3⟩:=hta.elt hlt
  refine⟨b3,o3,ha3,by omega,by show (cE v n.b:Int)<_;omega,_,hc3,?_⟩
  exact wres _ _ rfl hnv
 replace e37:=aW e37
 (refine av ?_)
 refine ad (fun e=>?_) (fun e38=>?_)
 ·have e:=bL e
  have hp3:ap n.kind=3:=by omega
  obtain⟨r1,r2,r3,r4⟩:=Mj e hres
  rw [if_neg (show¬n.kind=21 by omega),if_neg e37,if_pos e]at hnv
  repeat' (refine av ?_)
  have fb:=(pf 1 (by omega) (by omega)).cell
  have fa:=(pf 0 (by omega) (by omega)).len
  have hle4:=len4 0 (by omega) (by omega)
  simp only [aQ]at fb fa hta hle4
  rw [r2]at fb
  have hlt:cE v n.b<(v.getD n.a.toNat []).length:=by rw [fa];exact fb
  refine nv hta (by rw [ca];omega) fun c h5 l5 hb5=>⟨c,rfl,?_⟩
  have hcn:c.n=(v.getD n.a.toNat []).length:=by have:=hb5.1;rw [List.length_map,ca]at this;omega
  obtain⟨bc,hca,hcrow⟩: ∃bc,c.a=some ⟨bc,0,none⟩/\(h5.sub h4) bc=some (.inl ⟨(VL (v.getD n.a.toNat [])).map I,c.c*1,false⟩):=by
   rcases hb5.2.2 with ⟨_,h0,_⟩|h0
   ·omega
   ·exact h0
  have hc5:h5 bc=some (.inl ⟨(VL (v.getD n.a.toNat [])).map I,c.c*1,false⟩):=sub_le _ _ _ _ hcrow
  have hc3:h4 bc=none:=by
   cases hx:h4 bc with
   |none=>rfl
   |some x=>rw [kb hx]at hcrow;cases hcrow
  have g13:=l5 _ _ f13
  have g15:=l5 _ _ f15
  refine ai fun b24 h6 hb24 l6 f24'=>?_
  have m13:=fresh_ne hb24 g13
  have m15:=fresh_ne hb24 g15
  have mc:=fresh_ne hb24 hc5
  have hb24n:=aC l5 hb24
  (with_reducible apply bR);(exact f24');(exact Hp.le_trans l5 l6);(exact hb24n);(exact Nat.le_refl 1)
  intro h7 f24 kp l7
  replace g13:=bX kp m13 (l6 _ _ g13)
  replace g15:=bX kp m15 (l6 _ _ g15)
  have gc:=bX kp mc (l6 _ _ hc5)
  have hpv7:=hpv4.mono l7
  refine⟨c,by rw [am f24];rfl,?_⟩
  (refine av ?_)
  obtain⟨b,o,t,ha,h1,h2,h3'⟩:=hpv7.at (pk 1 (by omega) (by omega)).1 (by have:=(pk 1 (by omega) (by omega)).2.1;omega)
  obtain⟨b2,o2,ha2,hc2,hl2⟩:=h3'.elt (pf 1 (by omega) (by omega)).pos
  refine⟨b,o,ha,(pk 1 (by omega) (by omega)).1,h1,t,h2,b2,o2,ha2,by omega,by omega,_,hc2,?_⟩
  (refine av ?_)
  obtain⟨b',o',t',ha',h1',h2',h3''⟩:=hpv7.at (pk 2 (by omega) (by omega)).1 (by have:=(pk 2 (by omega) (by omega)).2.1;omega)
  obtain⟨b2',o2',ha2',hc2',hl2'⟩:=h3''.elt (pf 2 (by omega) (by omega)).pos
  refine⟨b',o',ha',(pk 2 (by omega) (by omega)).1,h1',t',h2',b2',o2',ha2',by omega,by omega,_,hc2',?_⟩
  refine⟨bc,0,hca,by omega,by show (cE v n.b:Int)<_;omega,?_⟩
  (with_reducible apply bR);(exact gc);(exact l7);(exact hc3);(rw [List.length_map,ca];show 0+Int.toNat (cE v n.b:Int)*1+1<=_;omega)
  intro h8 gc' kp8 l8
  have n24:b24≠bc:=fun e=>mc e.symm
  have n15c:b15≠bc:=fun e=>by subst e;rw [hc3]at f15;cases f15
  replace f24:=bX kp8 n24 f24
  refine⟨c,by rw [am f24];rfl,?_⟩
  refine res h8 c (Hp.le_trans l0 l8) (bX kp8 n15c g15) ?_
  have hcells:cM ((VL (v.getD n.a.toNat [])).map I) (0+Int.toNat (cE v n.b:Int)*1) [I (cE v n.c)]=(VL val).map I:=by
   rw [hnv,bT,Int.toNat_natCast,Nat.mul_one,Nat.zero_add]
   simp [VL,List.map_set]
  have gc2:h8 bc=some (.inl ⟨cM ((VL (v.getD n.a.toNat [])).map I) (0+Int.toNat (cE v n.b:Int)*1) [I (cE v n.c)],c.c*1,false⟩):=gc'
  rw [hcells]at gc2
  refine⟨by omega,by simp [ca,hnv,hcn], .inr ⟨bc,0,hca,aD gc2⟩⟩
 replace e38:=aW e38
 (refine av ?_)
 refine ad (fun e=>?_) (fun e21=>?_)
 ·have e:=bL e
  have hp2:ap n.kind=2:=by omega
  obtain⟨r1,_⟩:=Qn e hres
  rw [if_pos e]at hnv
  repeat' (refine av ?_)
  obtain⟨b',o',t',ha',h1',h2',h3''⟩:=vat 1 (by omega) (by omega)
  refine⟨b',o',ha',(pk 1 (by omega) (by omega)).1,h1',t',h2',?_⟩
  have hl4:=len4 0 (by omega) (by omega)
  have fl:=(pf 0 (by omega) (by omega)).len
  have fl':=(pf 1 (by omega) (by omega)).len
  simp only [aQ]at fl fl'
  rw [<-r1]at fl'
  refine tZ hta h3'' (by rw [ca];omega) (by rw [ca,ca];simp only [aQ];omega) ⟨_,rfl,qf ⟨_,rfl,?_⟩⟩
  refine wres _ _ ?_ hnv
  simp only [aQ,Gy]
  split<;>simp_all
 replace e21:=aW e21
 rw [if_neg e21,if_neg e37,if_neg e38]at hnv
 simp only [aQ]at oa'
 have word0: ∀wn:Nat,(az l n.a).wid=wn->WO wn (cE v n.a):=fun wn hw=>by
  have:=(pf 0 (by omega) (by omega)).cell
  simp only [aQ]at this
  rw [hw]at this
  exact⟨by omega,this⟩
 obtain⟨wa,hwa'⟩: ∃wn:Nat,(az l n.a).wid=wn:=⟨(az l n.a).wid.toNat,by omega⟩
 have hwo:=word0 wa hwa'
 have h16:=hwo.pow
 have hlta:=hwo.2
 rw [hwa',Int.toNat_natCast]at hnv
 have e0':Hp.cell h4 b0 (o0+0*1)=some (I (cE v n.a)):=e0
 have hsw:(az l (aQ n 0)).wid=(wa:Int):=hwa'
 rw [hsw]
 (refine av ?_)
 refine ad (fun e=>?_) (fun e29=>?_)
 ·have e:=bL e
  have hp2:ap n.kind=2:=by omega
  obtain⟨r1,r2,r3,r4⟩:=MJ e hres
  rw [if_pos e]at hnv
  have ob:=bO.1 (pk 1 (by omega) (by omega)).2.2
  simp only [aQ]at ob
  obtain⟨wb,hwb⟩: ∃wn:Nat,(az l n.b).wid=wn:=⟨(az l n.b).wid.toNat,by omega⟩
  have hltb:=(pf 1 (by omega) (by omega)).cell
  simp only [aQ]at hltb
  rw [hwb,Int.toNat_natCast]at hltb
  rw [hwb,Int.toNat_natCast]at hnv
  obtain⟨bw2,ow2,hwa2,hwl2,hwc2⟩:=(hsn.mono l0).wid (pk 1 (by omega) (by omega)).1 (by have:=(pk 1 (by omega) (by omega)).2.1;omega)
  simp only [aQ]at hwc2
  rw [hwb]at hwc2
  (refine av ?_)
  refine⟨b0,o0,a0,by omega,by omega,_,e0',?_⟩
  (refine av ?_)
  refine⟨bw2,ow2,hwa2,(pk 1 (by omega) (by omega)).1,hwl2,_,hwc2,?_⟩
  (refine av ?_)
  obtain⟨b',o',t',ha',h1',h2',h3''⟩:=vat 1 (by omega) (by omega)
  obtain⟨b2',o2',ha2',hc2',hl2'⟩:=h3''.elt (pf 1 (by omega) (by omega)).pos
  refine⟨b',o',ha',(pk 1 (by omega) (by omega)).1,h1',t',h2',b2',o2',ha2',by omega,by omega,_,hc2',?_⟩
  exact Ey hwo ⟨by omega,hltb⟩ (by omega) ⟨_,_,_,rfl,hJ _ hnv⟩
 replace e29:=aW e29
 rw [if_neg e29]at hnv
 (refine av ?_)
 refine ad (fun e=>?_) (fun e30=>?_)
 ·have e:=bL e
  obtain⟨r1,r2,r3⟩:=Mb e hres
  rw [if_pos e]at hnv
  obtain⟨lo,hlo⟩: ∃z:Nat,n.m=z:=⟨n.m.toNat,by omega⟩
  obtain⟨hh,hhh⟩: ∃z:Nat,n.n=z:=⟨n.n.toNat,by omega⟩
  (refine av ?_)
  refine⟨b0,o0,a0,by omega,by omega,_,e0',?_⟩
  repeat' (refine av ?_)
  rw [hlo,hhh]
  refine Dd hwo (by omega) (by omega) ⟨_,_,_,rfl,hJ _ ?_⟩
  rw [hnv,hlo,hhh]
  unfold KE
  rw [Int.toNat_natCast,show ((hh:Int)-(lo:Int)+1).toNat=hh-lo+1 by omega]
 replace e30:=aW e30
 rw [if_neg e30]at hnv
 refine ar (fun J=>J (decide (n.kind=31\/n.kind=32))) ?_ (fun J2 hJ2=>?_)
 rotate_left
 ·clear res wres cres vat hJ
  repeat' (first|(with_reducible first|refine aK (b:=true) rfl ?_|refine aG (b:=false) rfl ?_|refine ad (fun _=>?_) fun _=>?_)|(refine av ?_)|(refine ez ?_ hJ2))
  all_goals (clear hJ2;rw [Bool.eq_iff_iff];simp_all)
 refine ad (fun e=>?_) (fun e31=>?_)
 ·have e:=of_decide_eq_true e
  obtain⟨r1,r2,r3⟩:=Mo e hres
  rw [if_pos e]at hnv
  obtain⟨mo,hmo⟩: ∃z:Nat,n.n=z:=⟨n.n.toNat,by omega⟩
  (refine av ?_)
  refine⟨b0,o0,a0,by omega,by omega,_,e0',?_⟩
  repeat' (refine av ?_)
  rw [hmo]
  refine E9 hwo (by omega) ⟨_,_,_,rfl,hJ _ ?_⟩
  rw [hnv,hmo,Int.toNat_natCast];rfl
 replace e31:=of_decide_eq_false e31
 rw [if_neg e31]at hnv
 (refine av ?_)
 refine lQ ⟨_,rfl,ad (fun e=>?_) (fun e1=>?_)⟩
 ·have e:=bL e
  rw [if_pos e]at hnv
  repeat' (refine av ?_)
  refine⟨b0,o0,a0,by omega,by omega,_,e0',?_⟩
  exact yB (by omega) hwo ⟨_,_,_,rfl,hJ _ hnv⟩
 ·replace e1:=aW e1
  rw [if_neg e1]at hnv
  have hp2:ap n.kind=2:=by omega
  obtain⟨r1,r2,r3⟩:=S0 (by omega) hres
  have hltb:=(pf 1 (by omega) (by omega)).cell
  simp only [aQ]at hltb
  rw [<-r2,hwa',Int.toNat_natCast]at hltb
  repeat' (refine av ?_)
  refine⟨b0,o0,a0,by omega,by omega,_,e0',?_⟩
  (refine av ?_)
  obtain⟨b',o',t',ha',h1',h2',h3''⟩:=vat 1 (by omega) (by omega)
  obtain⟨b2',o2',ha2',hc2',hl2'⟩:=h3''.elt (pf 1 (by omega) (by omega)).pos
  refine⟨b',o',ha',(pk 1 (by omega) (by omega)).1,h1',t',h2',b2',o2',ha2',by omega,by omega,_,hc2',?_⟩
  exact xW (by omega) hwo ⟨hwo.1,hltb⟩ ⟨_,_,_,rfl,hJ _ hnv⟩
theorem Na (ts:List Sl):HI (ts.map Sl.v):=by
 have:=zK ts 0
 simpa using this
theorem IntS.offL {h:Hp} {s t:Sl} {xs:List Int} {ts:List Sl} (e:IntS h t xs) (hb:Buf h s 1 (ts.map Sl.v)):IntS (h.offS s) t xs:=by
 rcases hb.2.2 with ⟨ha,_,_⟩|⟨b,ha,hbb⟩
 ·unfold Hp.offS;rw [ha];exact e
 ·have ho:h.offS s=h.off b:=by unfold Hp.offS;rw [ha]
  rw [ho]
  refine e.keepN hbb (Na ts) fun c hc=>?_
  simp only [Hp.off,Hp.set];rw [if_neg hc]
theorem Buf.pval {h:Hp} {s:Sl} {ts:List Sl} {vs:List (List Nat)} (e:Buf h s 1 (ts.map Sl.v)) (hlen:ts.length=vs.length) (hn:s.n<=1048576) (ht: ∀(j:Nat) (t:Sl),ts[j]?=some t->IntS h t (VL (vs.getD j []))):jf h s vs:=by
 have hl:=e.1
 simp at hl
 refine⟨by omega,hn,fun p hp=>?_⟩
 rcases e.2.2 with ⟨_,h0,_⟩|⟨b,ha,hbb⟩
 ·omega
 ·refine⟨b,0,ts[p]'(by omega),ha,?_,ht p _ (List.getElem?_eq_getElem (by omega))⟩
  rw [am hbb,Nat.zero_add,Nat.mul_one,List.getElem?_map,List.getElem?_eq_getElem (by omega)];rfl
def V0 (h:Hp) (s:Sl):Prop:= ∀b o,s.a=some (Addr.mk b o none)->h b=none
theorem mM {h:Hp} {M:MSl} {m:ak} {sS sI:Sl} {st inp:List (List Nat)} {R:Value->Hp->Prop} (hs:aO h M m) (hm:bZ m) (hok:ce m.nodes=true) (hl:m.nodes.length<=60)
  (h1:IntSS h sS (st.map VL)) (f1:vW m.nodes 36 st) (h2:IntSS h sI (inp.map VL)) (f2:vW m.nodes 35 inp)
  (k: ∀t h',h.le h'->t.n=m.nodes.length->jf h' t (fU m.nodes st inp m.nodes.length)->V0 h t->R (Sl.v t) h'):cG #[aR M,sS.v,sI.v] h R:=by
 apply GL
 refine uf_ ?_
 have hn:=hs.nodes.len
 have hsn:sS.n=st.length:=by obtain⟨ts,e1,e2,_⟩:=h1;have:=e2.2.1;simp at this e1;omega
 have hin:sI.n=inp.length:=by obtain⟨ts,e1,e2,_⟩:=h2;have:=e2.2.1;simp at this e1;omega
 refine ai fun b9 h3 hb9 l3 f9=>?_
 refine aw m.nodes.length (fun i vs h'=> ∃(ts:List Sl) (out:Sl),vs= [sS.v,sI.v, .pointer (some ⟨b9,0,none⟩),out.v,I (aX (m.nodes.take i) 36).length,I (aX (m.nodes.take i) 35).length,I i]/\
  h.le (h'.offS out)/\(h'.offS out) b9=some (.inl ⟨ax M,5,false⟩)/\out.n=i/\ts.length=i/\Buf h' out 1 (ts.map Sl.v)/\
  (∀(j:Nat) (t:Sl),ts[j]?=some t->IntS (h'.offS out) t (VL ((fU m.nodes st inp i).getD j []))))
  ⟨[],⟨none,0,0⟩,rfl,l3,f9,rfl,rfl,em _ _,fun j t ht=>by simp at ht⟩ ?_
 clear f9 l3 hb9 h3
 rintro i _ h3 next hi ⟨ts,out,rfl,l3,f9,hon,htl,hbuf,hts⟩ hnx
 have lo:=aY h3 out
 have f9':=lo _ _ f9
 have l3':=Hp.le_trans l3 lo
 refine⟨sS,sI,_,_,out,_,_,_,rfl,?_⟩
 (refine av ?_)
 by_cases hlt:i<m.nodes.length
 rotate_left
 ·have hie:i=m.nodes.length:=by omega
  subst hie
  refine aG (by simp;omega) (k out h3 l3' hon ?_ fun b o hb=>?_)
  ·exact hbuf.pval (by rw [dV];omega) (by omega) fun j t ht=>(hts j t ht).mono lo
  ·cases hx:h b with
   |none=>rfl
   |some x=>have:=l3 _ _ hx;simp [Hp.offS,hb,Hp.off,Hp.set]at this
 refine aK (by simp;omega) ?_
 obtain⟨n,hni⟩: ∃n,m.nodes[i]?=some n:=⟨_,List.getElem?_eq_getElem hlt⟩
 obtain⟨b,o,ha,e0,e1,e2,e3,e4,e5,e6,e7,e8⟩:=(hs.nodes.mono l3').at hni
 (refine av ?_)
 refine⟨b,o,ha,by omega,by omega,_,e0,_,e1,_,e2,_,e3,_,e4,_,e5,_,e6,_,e7,_,e8,?_⟩
 refine ai fun b44 h4 hb44 l4 f44'=>?_
 (with_reducible apply bR);(exact f44');(exact l4);(exact hb44);(exact Nat.le_refl 9)
 intro h5 f44 kp l5
 clear f44' kp l4
 refine ai fun b50 h6 hb50 l6 f50'=>?_
 have n44:=fresh_ne hb50 f44
 have b50n:=aC l5 hb50
 replace f44:=l6 _ _ f44
 (with_reducible apply bR);(exact f50');(exact Hp.le_trans l5 l6);(exact b50n);(exact Nat.le_refl 1)
 intro h7 f50 kp l7
 replace f44:=bX kp n44 f44
 have f50v:h7 b50=some (.inl ⟨[.slice none 0 0],1,false⟩):=f50
 have f9'':=l7 _ _ f9'
 clear f50 f50' kp l5 l6 hb44 hb50 h4 h5 h6
 have l07:=Hp.le_trans l3' l7
 have hnext36:=qA (kind:=36) hni
 have hnext35:=qA (kind:=35) hni
 have hev:=Cz (s:=st) (inp:=inp) hni
 have hb36:(aX (m.nodes.take i) 36).length<=i:=by
  unfold aX
  refine Nat.le_trans (List.length_filter_le _ _) ?_
  rw [List.length_range,List.length_take];omega
 have hb35:(aX (m.nodes.take i) 35).length<=i:=by
  unfold aX
  refine Nat.le_trans (List.length_filter_le _ _) ?_
  rw [List.length_range,List.length_take];omega
 (refine av ?_)
 refine ar (fun J=> ∀(t:Sl) (x:List Nat) (h8:Hp),h3.le h8->h8 b50=some (.inl ⟨[t.v],1,false⟩)->IntS h8 t (VL x)->fU m.nodes st inp (i+1)=fU m.nodes st inp i++ [x]->
  J ((aX (m.nodes.take (i+1)) 36).length:Nat) ((aX (m.nodes.take (i+1)) 35).length:Nat) h8) ?_ (fun J hJ=>?_)
 ·intro t x h8 l8 g50 hval hev'
  (refine av ?_)
  refine ai fun b113 h9 hb113 l9 f113=>?_
  have l39:=Hp.le_trans l8 l9
  have l39o:=bQ out l39
  refine da (hbuf.mono l39) (by omega) (by omega) (by omega) ⟨b113,0,rfl,aD f113⟩ (by simp) rfl ?_
  intro s' h10 hs'n hbuf' l10 _
  rw [aE (by omega)]
  have l310:=Hp.le_trans l39o l10
  have hbuf'':Buf h10 s' 1 ((ts++ [t]).map Sl.v):=by rw [List.map_append];exact hbuf'
  refine hnx hlt _ _ ⟨ts++ [t],s',rfl,Hp.le_trans l3 l310,l310 _ _ f9,by omega,by simp;omega,hbuf'',fun j u hu=>?_⟩
  by_cases hj:j<i
  ·rw [List.getElem?_append_left (by omega)]at hu
   rw [hev',fO (by rw [dV];omega)]
   exact(hts j u hu).mono l310
  ·have hju:=get_lt hu
   simp at hju
   have hje:j=i:=by omega
   subst hje
   rw [List.getElem?_append_right (by omega),htl,Nat.sub_self]at hu
   simp at hu;subst hu
   rw [hev',List.getD_eq_getElem?_getD,List.getElem?_append_right (by rw [dV];omega),dV,Nat.sub_self]
   exact((hval.mono l9).offL (hbuf.mono l39)).mono l10
 have put: ∀(h8:Hp) (t:Sl) (x:List Nat) (P:Hp->Prop),h7.le h8->IntS h8 t (VL x)->(∀h9,h3.le h9->h9 b50=some (.inl ⟨[t.v],1,false⟩)->IntS h9 t (VL x)->P h9)->
   ∃(cs:List Value) (z:Nat),h8 b50=some (.inl ⟨cs,z,false⟩)/\0+1<=List.length cs/\ck (h8.row b50 (cM cs 0 [t.v]) z) fun h'=>P h':=by
  intro h8 t x P l8 hval hP
  have g50:=l8 _ _ f50v
  (with_reducible apply bR);(exact g50);(exact Hp.le_trans l7 l8);(exact b50n);(exact Nat.le_refl 1)
  intro h9 g kp l9
  exact hP h9 l9 g (hval.keep g50 kp)
 have hpv7:jf h7 out (fU m.nodes st inp i):=(hbuf.pval (by rw [dV];omega) (by omega) fun j t ht=>(hts j t ht).mono lo).mono l7
 have hfit:=vh hok f1 f2 i (Nat.le_of_lt hlt)
 have htyp:=rL hok hni
 refine ad (fun e=>?_) (fun e34=>?_)
 ·have e:=bL e
  rw [if_neg (by omega)]at hnext36 hnext35
  rw [if_neg (by omega),if_neg (by omega)]at hev
  obtain⟨c1,c2⟩:=htyp.const e
  have:=iy.1 c2
  have hx:fZ m.nodes n (fU m.nodes st inp i)= [n.n.toNat]:=by unfold fZ;rw [if_pos e]
  (refine av ?_)
  refine Ds fun t h8 l8 hval=>⟨t,rfl,put h8 t [n.n.toNat] _ l8 ?_ fun h9 l9 g50 hv9=>?_⟩
  ·have:VL [n.n.toNat]= [n.n]:=by simp [VL];omega
   rw [this];exact hval
  ·have:=hJ t _ h9 l9 g50 hv9 (by rw [hev,hx])
   rw [hnext36,hnext35,Nat.add_zero,Nat.add_zero]at this;exact this
 replace e34:=aW e34
 refine ad (fun e=>?_) (fun e36=>?_)
 ·have e:=bL e
  rw [if_pos e]at hnext36 hev
  rw [if_neg (by omega)]at hnext35
  have hlt36:=vg hni e
  have hfk:=f1.2 _ _ (rG hni e)
  have hfs:az m.nodes ((i:Nat):Int)=n.sort:=by unfold az;rw [Int.toNat_natCast,hni]
  rw [hfs]at hfk
  rw [<-f1.1]at hlt36
  obtain⟨bs,os,t,ha,hc,ht⟩:=(h1.mono l07).at (i:=(aX (m.nodes.take i) 36).length) (by simpa using hlt36)
  have hst:(st.map VL)[(aX (m.nodes.take i) 36).length]'(by simpa using hlt36)=VL (st.getD (aX (m.nodes.take i) 36).length []):=by
   rw [List.getElem_map,List.getD_eq_getElem?_getD,List.getElem?_eq_getElem hlt36];rfl
  rw [hst]at ht
  have hso:=bO.1 htyp.sort
  have hlen4:(st.getD (aX (m.nodes.take i) 36).length []).length<=4:=by
   rw [hfk.len];have:=Nat.pow_le_pow_right (n:=2) (by omega) (show n.sort.idx.toNat<=2 by omega);simpa using this
  refine⟨bs,os,ha,by omega,by omega,t,by rw [Int.toNat_natCast,Nat.mul_one];exact hc,?_⟩
  refine nv ht (by rw [ca];omega) fun c h8 l8 hb8=>⟨c,rfl,put h8 c _ _ l8 (hb8.slS (by have:=hb8.1;rw [List.length_map,ca]at this;omega)) fun h9 l9 g50 hv9=>?_⟩
  have:=hJ c _ h9 l9 g50 hv9 hev
  rw [hnext36,hnext35,Nat.add_zero]at this
  rw [aE (by omega)];exact this
 replace e36:=aW e36
 rw [if_neg e36]at hnext36 hev
 refine ad (fun e=>?_) (fun e35=>?_)
 ·have e:=bL e
  rw [if_pos e]at hnext35 hev
  have hlt35:=vg hni e
  have hfk:=f2.2 _ _ (rG hni e)
  have hfs:az m.nodes ((i:Nat):Int)=n.sort:=by unfold az;rw [Int.toNat_natCast,hni]
  rw [hfs]at hfk
  rw [<-f2.1]at hlt35
  obtain⟨bs,os,t,ha,hc,ht⟩:=(h2.mono l07).at (i:=(aX (m.nodes.take i) 35).length) (by simpa using hlt35)
  have hst:(inp.map VL)[(aX (m.nodes.take i) 35).length]'(by simpa using hlt35)=VL (inp.getD (aX (m.nodes.take i) 35).length []):=by
   rw [List.getElem_map,List.getD_eq_getElem?_getD,List.getElem?_eq_getElem hlt35];rfl
  rw [hst]at ht
  have hso:=bO.1 htyp.sort
  have hlen4:(inp.getD (aX (m.nodes.take i) 35).length []).length<=4:=by
   rw [hfk.len];have:=Nat.pow_le_pow_right (n:=2) (by omega) (show n.sort.idx.toNat<=2 by omega);simpa using this
  refine⟨bs,os,ha,by omega,by omega,t,by rw [Int.toNat_natCast,Nat.mul_one];exact hc,?_⟩
  refine nv ht (by rw [ca];omega) fun c h8 l8 hb8=>⟨c,rfl,put h8 c _ _ l8 (hb8.slS (by have:=hb8.1;rw [List.length_map,ca]at this;omega)) fun h9 l9 g50 hv9=>?_⟩
  have:=hJ c _ h9 l9 g50 hv9 hev
  rw [hnext36,hnext35,Nat.add_zero]at this
  rw [aE (by omega)];exact this
 replace e35:=aW e35
 rw [if_neg e35]at hnext35 hev
 repeat' (refine av ?_)
 refine HW (n:=n) hl (Nat.le_of_lt hlt) htyp hfit (dV _ _ _ _) (hs.nodes.mono l07) hpv7 e34 e35 e36 fun t h8 l8 hval=>⟨t,rfl,put h8 t _ _ l8 hval fun h9 l9 g50 hv9=>?_⟩
 have:=hJ t _ h9 l9 g50 hv9 hev
 rw [hnext36,hnext35,Nat.add_zero,Nat.add_zero]at this;exact this
theorem DW {l:List NodeP} {kind:Int} {p:Nat} (h:p∈aX l kind): ∃n,l[p]?=some n/\n.kind=kind:=by
 unfold aX at h
 rw [List.mem_filter,List.mem_range]at h
 cases hn:l[p]? with
 |none=>rw [hn]at h;exact absurd h.2 Bool.false_ne_true
 |some n=>rw [hn]at h;exact⟨n,rfl,by simpa using h.2⟩
theorem AB (l:List NodeP) (hok:ce l=true) (kind:Int):co l (aX l kind)=au l kind:=by
 have key: ∀i,i<=l.length->co l (aX (l.take i) kind)=au (l.take i) kind:=by
  intro i
  induction i with
  |zero=>intro _;simp [aX,co,au]
  |succ i ih=>
   intro hi
   obtain⟨n,hn⟩: ∃n,l[i]?=some n:=⟨_,List.getElem?_eq_getElem (by omega)⟩
   rw [jy hn,zQ kind hn,<-ih (by omega)]
   have hs:=bO.1 (rL hok hn).sort
   have hsa:az l ((i:Nat):Int)=n.sort:=by unfold az;rw [Int.toNat_natCast,hn]
   by_cases hk:n.kind=kind
   ·rw [if_pos hk,if_pos hk]
    unfold co
    rw [List.map_append,List.sum_append]
    simp only [List.map_cons,List.map_nil,List.sum_cons,List.sum_nil,Nat.add_zero]
    unfold cd aJ dJ
    rw [hsa,Nat.mul_comm]
   ·rw [if_neg hk,if_neg hk,List.append_nil,Nat.add_zero]
 have:=key l.length (Nat.le_refl _)
 rwa [List.take_of_length_le (Nat.le_refl _)]at this
theorem Dz {l:List NodeP} (hok:ce l=true) (kind:Int) (code:Nat):vW l kind (hZ l (aX l kind) code):=by
 refine⟨jr _ _ _,fun k p hp=>?_⟩
 rw [DP hp]
 obtain⟨n,hn,_⟩:=DW (List.mem_of_getElem? hp)
 have hsa:az l ((p:Nat):Int)=n.sort:=by unfold az;rw [Int.toNat_natCast,hn]
 have hso:=(rL hok hn).sort
 refine⟨?_,fun x hx=>Mh hx⟩
 rw [pP]
 unfold aJ cy
 rw [hsa,if_pos hso]
theorem rr (a b:List Nat):VL (a++b)=VL a++VL b:=by simp [VL]
theorem kG {h:Hp} {M:MSl} {m:ak} {kind:Int} {R:Value->Hp->Prop} (hs:aO h M m) (hm:bZ m)
  (k: ∀t h',h.le (h'.offS t)->t.n<=m.nodes.length->Buf h' t 1 ((VL (aX m.nodes kind)).map I)->R (Sl.v t) h'):bz #[aR M,I kind] h R:=by
 apply vL
 refine uf_ ?_
 have hn:=hs.nodes.len
 have hns:=hm.nodes
 refine ai fun b8 h1 hb8 l1 f8=>?_
 (refine av ?_)
 refine aw m.nodes.length (fun i vs h'=> ∃out:Sl,vs= [I kind,out.v,M.no.v,I M.no.n,I i]/\h.le (h'.offS out)/\out.n<=i/\Buf h' out 1 ((VL (aX (m.nodes.take i) kind)).map I)) ⟨⟨none,0,0⟩,rfl,l1,Nat.le_refl _,by simp [aX,VL];exact em _ _⟩ ?_
 clear l1 f8 hb8 h1
 rintro i _ h1 next hi ⟨out,rfl,l1,hon,hbuf⟩ hnx
 have lo:=aY h1 out
 have l1':=Hp.le_trans l1 lo
 refine⟨_,out,M.no,_,_,rfl,?_⟩
 by_cases hlt:i<m.nodes.length
 ·refine aK (by simp;omega) ?_
  obtain⟨n,hni⟩: ∃n,m.nodes[i]?=some n:=⟨_,List.getElem?_eq_getElem hlt⟩
  obtain⟨b,o,ha,e0,e1,e2,e3,e4,e5,e6,e7,e8⟩:=(hs.nodes.mono l1').at hni
  refine⟨b,o,ha,by omega,by omega,_,e0,_,e1,_,e2,_,e3,_,e4,_,e5,_,e6,_,e7,_,e8,?_⟩
  refine ai fun b36 h2 hb36 l2 f36=>?_
  (with_reducible apply bR);(exact f36);(exact l2);(exact hb36);(exact Nat.le_refl 9)
  intro h3 f36' kp l3
  have hpre:=jy (kind:=kind) hni
  have l3o:=bQ out l3
  (refine av ?_)
  rw [aE (by omega)]
  refine ad (fun e=>?_) (fun e=>?_)
  ·rw [if_pos (bL e)]at hpre
   refine ai fun b44 h4 hb44 l4 f44=>?_
   have l4o:=bQ out l4
   refine da (hbuf.mono (Hp.le_trans l3 l4)) (by omega) (by omega) (by omega) ⟨b44,0,rfl,aD f44⟩ (by simp) rfl ?_
   intro s' h5 hs'n hbuf' l5 _
   refine hnx hlt _ _ ⟨s',rfl,Hp.le_trans l1 (Hp.le_trans l3o (Hp.le_trans l4o l5)),by omega,?_⟩
   rw [hpre,rr,List.map_append];exact hbuf'
  ·rw [if_neg (aW e),List.append_nil]at hpre
   refine hnx hlt _ _ ⟨out,rfl,Hp.le_trans l1 l3o,by omega,?_⟩
   rw [hpre];exact hbuf.mono l3
 ·refine aG (by simp;omega) (k out h1 l1 (by omega) ?_)
  rw [List.take_of_length_le (by omega)]at hbuf
  exact hbuf
theorem jK {h:Hp} {M:MSl} {m:ak} {kind:Int} {R:Value->Hp->Prop} (hs:aO h M m) (hm:bZ m)
  (k: ∀t h',h.le h'->IntS h' t (VL (aX m.nodes kind))->R (Sl.v t) h'):bz #[aR M,I kind] h R:=
 kG hs hm fun t h' l hn hb=>k t h' (Hp.le_trans l (aY _ _)) (hb.slc_of (by have:=hm.nodes;omega))
theorem dj {h:Hp} {M:MSl} {m:ak} {kind:Int} {R:Value->Hp->Prop} (hs:aO h M m) (hm:bZ m)
  (k: ∀t h',h.le h'->IntS h' t (VL (aX m.nodes kind))->R (Sl.v t) h'):aM #[aR M,I kind] h R:=by
 apply A1
 refine uf_ ?_
 have hn:=hs.nodes.len
 have hns:=hm.nodes
 refine ai fun b8 h1 hb8 l1 f8=>?_
 refine aw m.nodes.length (fun i vs h'=> ∃out:Sl,vs= [I kind, .pointer (some ⟨b8,0,none⟩),out.v,I i]/\h.le (h'.offS out)/\(h'.offS out) b8=some (.inl ⟨ax M,5,false⟩)/\out.n<=i/\Buf h' out 1 ((VL (aX (m.nodes.take i) kind)).map I)) ⟨⟨none,0,0⟩,rfl,l1,f8,Nat.le_refl _,by simp [aX,VL];exact em _ _⟩ ?_
 clear l1 f8 hb8 h1
 rintro i _ h1 next hi ⟨out,rfl,l1,f8,hon,hbuf⟩ hnx
 have lo:=aY h1 out
 have l1':=Hp.le_trans l1 lo
 have f8':=lo _ _ f8
 refine⟨_,_,_,out,_,rfl,?_⟩
 (refine av ?_)
 by_cases hlt:i<m.nodes.length
 ·refine aK (by simp;omega) ?_
  obtain⟨n,hni⟩: ∃n,m.nodes[i]?=some n:=⟨_,List.getElem?_eq_getElem hlt⟩
  obtain⟨b,o,ha,e0,_⟩:=(hs.nodes.mono l1').at hni
  have hpre:=jy (kind:=kind) hni
  (refine av ?_)
  refine⟨b,o,ha,by omega,by omega,_,e0,?_⟩
  rw [aE (by omega)]
  refine ad (fun e=>?_) (fun e=>?_)
  ·rw [if_pos (bL e)]at hpre
   refine ai fun b44 h4 hb44 l4 f44=>?_
   have l4o:=bQ out l4
   refine da (hbuf.mono l4) (by omega) (by omega) (by omega) ⟨b44,0,rfl,aD f44⟩ (by simp) rfl ?_
   intro s' h5 hs'n hbuf' l5 _
   have l15:=Hp.le_trans l4o l5
   refine hnx hlt _ _ ⟨s',rfl,Hp.le_trans l1 l15,l15 _ _ f8,by omega,?_⟩
   rw [hpre,rr,List.map_append];exact hbuf'
  ·rw [if_neg (aW e),List.append_nil]at hpre
   refine hnx hlt _ _ ⟨out,rfl,l1,f8,by omega,?_⟩
   rw [hpre];exact hbuf
 ·refine aG (by simp;omega) (k out h1 l1' ?_)
  rw [List.take_of_length_le (by omega)]at hbuf
  exact hbuf.slc_of (by omega)
structure qt (h0 h:Hp) (out:Sl) (ts:List Sl) (vs:List (List Nat)):Prop where
 len:ts.length=vs.length
 row: ∀(i:Nat) (t:Sl),ts[i]?=some t-> ∃b,t=⟨some ⟨b,0,none⟩,(vs.getD i []).length,(vs.getD i []).length⟩/\h0 b=none/\
  (h.offS out) b=some (.inl ⟨(VL (vs.getD i [])).map I,(vs.getD i []).length,false⟩)
 dis: ∀(i j:Nat) (t u:Sl),ts[i]?=some t->ts[j]?=some u->t.a=u.a->i=j
 buf:Buf h out 1 (ts.map Sl.v)
 le:h0.le (h.offS out)
theorem qt.ints {h0 h:Hp} {out:Sl} {ts:List Sl} {vs:List (List Nat)} (e:qt h0 h out ts vs) (hl: ∀v∈vs,v.length<=1048576) (hn:out.n<=1048576):IntSS h out (vs.map VL):=by
 refine⟨ts,by rw [List.length_map];exact e.len,e.buf.slc_of (by omega),fun i h1 h2=>?_⟩
 obtain⟨b,ht,_,hr⟩:=e.row i _ (List.getElem?_eq_getElem h1)
 have hi:i<vs.length:=by rw [List.length_map]at h2;exact h2
 have hv:(vs.map VL)[i]=VL (vs.getD i []):=by
  rw [List.getElem_map,List.getD_eq_getElem?_getD,List.getElem?_eq_getElem hi];rfl
 have hvl:(vs.getD i []).length<=1048576:=by
  rw [List.getD_eq_getElem?_getD,List.getElem?_eq_getElem hi];exact hl _ (List.getElem_mem hi)
 rw [ht,hv]
 refine⟨by dsimp only;omega,by simp [ca], .inr ⟨b,0,rfl,aD (aY _ _ _ _ hr)⟩⟩
def cV (l:List NodeP) (ps:List Nat):List (List Nat):=ps.map fun p=>List.replicate (aJ l p) 0
theorem dW (l:List NodeP) (p:Nat):aJ l p<=4:=rY _
theorem gF {ps:List Nat} {i p:Nat} (h:ps[i]?=some p):(VL ps)[i]?=some ((p:Nat):Int):=by simp [VL,h]
theorem gY.sortc {h:Hp} {s:Sl} {l:List NodeP} (e:gY h s l) {p:Nat} (hp:p<l.length):
  ∃b o,s.a=some (Addr.mk b o none)/\(p:Int)<(s.n:Int)/\Hp.cell h b ((o+Int.toNat (p:Int)*9)+6)=some (I (az l p).idx)/\Hp.cell h b ((o+Int.toNat (p:Int)*9)+6+1)=some (I (az l p).wid):=by
 obtain⟨n,hn1⟩: ∃n,l[p]?=some n:=⟨_,List.getElem?_eq_getElem hp⟩
 obtain⟨ba,oa,ha1,_,_,_,_,_,_,c6,c7,_⟩:=e.at hn1
 have hsa:az l ((p:Nat):Int)=n.sort:=by unfold az;rw [Int.toNat_natCast,hn1]
 refine⟨ba,oa,ha1,by have:=e.len;omega,?_⟩
 rw [hsa];exact⟨c6,c7⟩
theorem pE {h:Hp} {M:MSl} {m:ak} {s:Sl} {ps:List Nat} {R:Value->Hp->Prop} (hs:aO h M m) (hm:bZ m) (hp:IntS h s (VL ps)) (hps: ∀p∈ps,p<m.nodes.length) (hpl:ps.length<=1048576)
  (k: ∀out ts h',qt h h' out ts (cV m.nodes ps)->out.n=ps.length->R (Sl.v out) h'):dR #[aR M,s.v] h R:=by
 apply wB
 refine uf_ ?_
 have hn:=hs.nodes.len
 have hns:=hm.nodes
 have hsn:=hp.len
 rw [ca]at hsn
 refine ai fun b8 h1 hb8 l1 f8=>?_
 refine aw ps.length (fun i vs h'=> ∃(out:Sl) (ts:List Sl),vs= [.pointer (some ⟨b8,0,none⟩),out.v,s.v,I s.n,I i]/\qt h h' out ts (cV m.nodes (ps.take i))/\out.n=i/\(h'.offS out) b8=some (.inl ⟨ax M,5,false⟩))
  ⟨⟨none,0,0⟩, [],rfl,⟨rfl,fun i t ht=>by simp at ht,fun i j t u ht=>by simp at ht,em _ _,l1⟩,rfl,f8⟩ ?_
 clear l1 f8 hb8 h1
 rintro i _ h1 next hi ⟨out,ts,rfl,hC,hon,f8⟩ hnx
 have lo:=aY h1 out
 have l1:=Hp.le_trans hC.le lo
 have f8':=lo _ _ f8
 refine⟨_,_,out,s,_,_,rfl,?_⟩
 by_cases hlt:i<ps.length
 ·refine aK (by simp;omega) ?_
  obtain⟨p,hpi⟩: ∃p,ps[i]?=some p:=⟨_,List.getElem?_eq_getElem hlt⟩
  have hpm:=hps p (List.mem_of_getElem? hpi)
  obtain⟨b,o,ha,hc⟩:=(hp.mono l1).get (gF hpi)
  refine⟨b,o,ha,by omega,by omega,_,hc,?_⟩
  (refine av ?_)
  obtain⟨bn,on,han,hpn,c6,c7⟩:=(hs.nodes.mono l1).sortc hpm
  refine⟨bn,on,han,by omega,hpn,_,c6,_,c7,?_⟩
  refine jX ⟨_,rfl,?_⟩
  have hce:cy ⟨(az m.nodes p).idx,(az m.nodes p).wid⟩=aJ m.nodes p:=rfl
  rw [hce]
  have hc4:=dW m.nodes p
  refine⟨by omega,by omega,by omega,by omega,?_⟩
  refine ai fun b38 h2 hb38 l2 f38=>?_
  refine ai fun b40 h3 hb40 l3 f40=>?_
  have l13:=Hp.le_trans l2 l3
  have l13o:=bQ out l13
  replace f38:=l3 _ _ f38
  rw [Int.toNat_natCast,Nat.mul_one,cc]at f38
  rw [Int.toNat_natCast]at f40
  have hno: ∀a,out.a=some a->a.block≠b38:=by
   intro a ha' e
   rcases hC.buf.2.2 with ⟨h0,_⟩|⟨c,hc',hcb⟩
   ·rw [h0]at ha';cases ha'
   ·rw [hc']at ha';cases ha'
    subst e
    rw [hb38]at hcb;cases hcb
  have f38o:(h3.offS out) b38=some (.inl ⟨List.replicate (aJ m.nodes p) (I 0),aJ m.nodes p,false⟩):=by rw [BF hno];exact f38
  refine da (hC.buf.mono l13) (by omega) (by omega) (by omega) ⟨b40,0,rfl,aD f40⟩ (by simp) rfl ?_
  intro s' h4 hs'n hbuf' l4 _
  have l14:=Hp.le_trans l13o l4
  rw [aE (by omega)]
  have hvs:cV m.nodes (ps.take (i+1))=cV m.nodes (ps.take i)++ [List.replicate (aJ m.nodes p) 0]:=by
   unfold cV
   rw [List.take_succ_eq_append_getElem hlt,List.map_append]
   rw [List.getElem?_eq_getElem hlt]at hpi
   rw [Option.some.inj hpi];rfl
  have hlen:=hC.len
  have hzl:(cV m.nodes (ps.take i)).length=i:=by unfold cV;simp;omega
  have b38h:h b38=none:=aC l1 hb38
  refine hnx hlt _ _ ⟨s',ts++ [⟨some ⟨b38,0,none⟩,aJ m.nodes p,aJ m.nodes p⟩],rfl,⟨?_,fun j t ht=>?_,fun j j' t u ht hu hau=>?_,by rw [List.map_append];exact hbuf',Hp.le_trans hC.le l14⟩,by omega,l14 _ _ f8⟩
  ·rw [hvs,List.length_append,List.length_append,hlen];rfl
  ·by_cases hj:j<i
   ·rw [List.getElem?_append_left (by omega)]at ht
    obtain⟨b',e1,e2,e3⟩:=hC.row j t ht
    rw [hvs,fO (by omega)]
    exact⟨b',e1,e2,l14 _ _ e3⟩
   ·have hju:=get_lt ht
    simp at hju
    have hje:j=i:=by omega
    subst hje
    rw [List.getElem?_append_right (by omega),show j-ts.length=0 by omega]at ht
    simp at ht;subst ht
    rw [hvs,List.getD_eq_getElem?_getD,List.getElem?_append_right (by omega),hzl,Nat.sub_self]
    refine⟨b38,by simp,b38h,?_⟩
    have:=l4 _ _ f38o
    simpa [VL] using this
  ·have hb: ∀(q:Nat) (z:Sl),ts[q]?=some z->z.a≠some ⟨b38,0,none⟩:=by
    intro q z hz he
    obtain⟨b',e1,e2,e3⟩:=hC.row q z hz
    rw [e1]at he
    have hbb:b'=b38:=by simpa using he
    subst hbb
    have:=lo _ _ e3
    rw [hb38]at this;cases this
   by_cases hj:j<i
   ·rw [List.getElem?_append_left (by omega)]at ht
    by_cases hj':j'<i
    ·rw [List.getElem?_append_left (by omega)]at hu
     exact hC.dis j j' t u ht hu hau
    ·have hju:=get_lt hu
     simp at hju
     rw [List.getElem?_append_right (by omega),show j'-ts.length=0 by omega]at hu
     simp at hu;subst hu
     exact absurd hau (hb j t ht)
   ·have hjt:=get_lt ht
    simp at hjt
    by_cases hj':j'<i
    ·rw [List.getElem?_append_left (by omega)]at hu
     rw [List.getElem?_append_right (by omega),show j-ts.length=0 by omega]at ht
     simp at ht;subst ht
     exact absurd hau.symm (hb j' u hu)
    ·have hju:=get_lt hu
     simp at hju
     omega
 ·have hie:i=ps.length:=by omega
  subst hie
  rw [List.take_of_length_le (Nat.le_refl _)]at hC
  exact aG (by simp;omega) (k out ts h1 hC hon)
structure ey (m:ak):Prop where
 nl:m.nodes.length<=60
 il:m.inits.length<=60
 xl:m.nexts.length<=60
 bl:m.bads.length<=4
 hl:m.holds.length<=4
 ok:ce m.nodes=true
 twice:rb m=false
 ini: ∀b∈m.inits,gy m.nodes b=true
 nex: ∀b∈m.nexts,eC m.nodes b=true
 bad: ∀p∈m.bads,dD m.nodes p=true
 hol: ∀p∈m.holds,dD m.nodes p=true
 n8:au m.nodes 36<=8
 k5:au m.nodes 35<=5
theorem jA {c:Prop} [Decidable c] {x y:Int} (hx:x≠0) (h:(if c then x else y)=0): ¬c/\y=0:=by
 split at h
 ·exact absurd h hx
 ·rename_i hc;exact⟨hc,h⟩
theorem di {m:ak} (h:aA m=0):ey m:=by
 unfold aA at h
 obtain⟨h1,h⟩:=jA (by decide) h
 obtain⟨h2,h⟩:=jA (by decide) h
 obtain⟨h3,h⟩:=jA (by decide) h
 obtain⟨h4,h⟩:=jA (by decide) h
 obtain⟨h5,h⟩:=jA (by decide) h
 obtain⟨h6,h⟩:=jA (by decide) h
 simp only [Bool.not_eq_false,Bool.and_eq_true,List.all_eq_true,Bool.not_eq_true]at h2 h3 h4 h5
 exact⟨by omega,by omega,by omega,by omega,by omega,h2,h3,h4.1,h4.2,h5.1,h5.2,by omega,by omega⟩
theorem ey.small {m:ak} (g:ey m): ∀n∈m.nodes,n.name.size<=8:=by
 intro n hn
 obtain⟨i,hi,e⟩:=List.getElem_of_mem hn
 have hf:=jR g.ok (i:=i) (n:=n) (by rw [List.getElem?_eq_getElem hi,e])
 unfold ek at hf
 simp only [Bool.and_eq_true]at hf
 have hf':=hf.1.1.2
 split at hf'
 ·unfold eQ at hf'
  simp only [Bool.and_eq_true,decide_eq_true_eq]at hf';omega
 ·simp only [decide_eq_true_eq]at hf';omega
theorem pR {l:List NodeP} (hok:ce l=true) {p:Nat} (hp:p<l.length):bD (az l p)=true:=by
 have hn:l[p]?=some l[p]:=List.getElem?_eq_getElem hp
 have:az l ((p:Nat):Int)=l[p].sort:=by unfold az;rw [Int.toNat_natCast,hn]
 rw [this];exact(rL hok hn).sort
theorem rK {l:List NodeP} (hok:ce l=true) {p:Nat} (hp:p<l.length) {v:List Nat} (h:Fit (az l p) v):v.length=aJ l p/\ ∀x∈v,x<2^cd l p:=by
 refine⟨?_,h.lt⟩
 unfold aJ cy
 rw [if_pos (pR hok hp),h.len]
theorem Om {l:List NodeP} (hok:ce l=true) {p:Nat} (hp:p<l.length) {v:List Nat} (h:v.length=aJ l p/\ ∀x∈v,x<2^cd l p):Fit (az l p) v:=by
 refine⟨?_,h.2⟩
 have:=h.1
 unfold aJ cy at this
 rwa [if_pos (pR hok hp)]at this
theorem kI {l:List NodeP} {kind:Int} {p:Nat} (h:p∈aX l kind):p<l.length:=by
 obtain⟨n,hn,_⟩:=DW h
 exact get_lt hn
theorem uX {l:List NodeP} (hok:ce l=true) {kind:Int} {vs:List (List Nat)} (h:kV l (aX l kind) vs):vW l kind vs:=by
 refine⟨qg h,fun k p hp=>?_⟩
 exact Om hok (kI (List.mem_of_getElem? hp)) (nr h hp)
def DK (m:ak) (s i:List (List Nat)):List (List Nat):=fU m.nodes s i m.nodes.length
abbrev stP (m:ak):List Nat:=aX m.nodes 36
abbrev inP (m:ak):List Nat:=aX m.nodes 35
def dx (m:ak) (s i:Nat):List (List Nat):=DK m (hZ m.nodes (stP m) s) (hZ m.nodes (inP m) i)
def kN (m:ak) (v:List (List Nat)):Bool:=m.holds.all fun p=>decide (cE v p=1)
def qF (m:ak) (v:List (List Nat)):Option Nat:=m.bads.findIdx? fun p=>decide (cE v p=1)
def EX (m:ak) (v:List (List Nat)):Int:=match qF m v with|some d=>d|none=> -1
def km (m:ak) (v:List (List Nat)) (p:Nat):Option (List Nat):=(cm m.nexts p).map fun k=>v.getD k []
def gi (m:ak) (v:List (List Nat)):List (List Nat):=lk m.nodes (km m v) (stP m)
def uF (c:Nat) (v:List Nat):List Nat:=v++List.replicate (c-v.length) (v.getD 0 0)
def r5 (m:ak):List (List Nat):=DK m (cV m.nodes (stP m)) (cV m.nodes (inP m))
def jU (m:ak) (p:Nat):Option (List Nat):=(cm m.inits p).map fun k=>uF (aJ m.nodes p) ((r5 m).getD k [])
def qO (m:ak):List (List Nat):=lk m.nodes (jU m) (stP m)
def KV (m:ak) (binds:List BindP):Nat:=eO m.nodes (fun p=>(cm binds p).isSome) (stP m)
def aN (m:ak):ay where
 n:=au m.nodes 36
 k:=au m.nodes 35
 hold c:=kN m (dx m (c%2^au m.nodes 36) (c/2^au m.nodes 36))
 bad c:=(qF m (dx m (c%2^au m.nodes 36) (c/2^au m.nodes 36))).isSome
 next c:=dL m.nodes (stP m) (gi m (dx m (c%2^au m.nodes 36) (c/2^au m.nodes 36)))
 fixed:=KV m m.nexts
 bfix:=KV m m.inits
 bas:=dL m.nodes (stP m) (qO m)
theorem mJ {binds:List BindP} {p k:Nat} (h:cm binds p=some k): ∃b∈binds,b.state=(p:Int)/\b.node.toNat=k:=by
 unfold cm at h
 rw [Option.map_eq_some_iff]at h
 obtain⟨b,hb,hk⟩:=h
 exact⟨b,List.mem_of_find?_eq_some hb,by simpa using List.find?_some hb,hk⟩
theorem jE {l:List NodeP} {b:BindP} (h:eC l b=true):cH l b.state=true/\cH l b.node=true/\ju l b.state=36/\az l b.state=az l b.node:=by
 unfold eC at h
 simp only [Bool.and_eq_true,decide_eq_true_eq]at h
 exact⟨h.1.1.1,h.1.1.2,h.1.2,h.2⟩
theorem DL {l:List NodeP} {b:BindP} (h:gy l b=true):cH l b.state=true/\cH l b.node=true/\ju l b.state=36/\(az l b.state=az l b.node\/az l b.node=cl (az l b.state).wid)/\(dn l l.length).getD b.node.toNat false=false:=by
 unfold gy at h
 simp only [Bool.and_eq_true,Bool.or_eq_true,decide_eq_true_eq,Bool.not_eq_true']at h
 exact⟨h.1.1.1,h.1.1.2,h.1.2,h.2.1,h.2.2⟩
theorem fk {l:List NodeP} {p:Int}:cH l p=true↔0<=p/\p<l.length:=by
 unfold cH;rw [decide_eq_true_eq];omega
theorem uY {m:ak} (g:ey m) (s i:Nat):tP m.nodes m.nodes.length (dx m s i):=
 vh g.ok (Dz g.ok 36 s) (Dz g.ok 35 i) _ (Nat.le_refl _)
theorem k9 (l:List NodeP) (ps:List Nat):kV l ps (cV l ps):=by
 induction ps with
 |nil=>rfl
 |cons p ps ih=>
  refine⟨_,_,rfl,by simp,fun x hx=>?_,ih⟩
  simp at hx
  rw [hx.2];exact bk _
theorem Ic {m:ak} (g:ey m) {s i:List (List Nat)} (hs:kV m.nodes (stP m) s) (hi:kV m.nodes (inP m) i):tP m.nodes m.nodes.length (DK m s i):=
 vh g.ok (uX g.ok hs) (uX g.ok hi) _ (Nat.le_refl _)
theorem FX (m:ak) (s i:List (List Nat)):(DK m s i).length=m.nodes.length:=dV _ _ _ _
theorem vn {m:ak} (g:ey m) {v:List (List Nat)} (hv:tP m.nodes m.nodes.length v) {p:Nat} {x:List Nat} (h:km m v p=some x):x.length=aJ m.nodes p/\ ∀y∈x,y<2^cd m.nodes p:=by
 unfold km at h
 rw [Option.map_eq_some_iff]at h
 obtain⟨k,hk,rfl⟩:=h
 obtain⟨b,hb,hs,rfl⟩:=mJ hk
 obtain⟨h1,h2,h3,h4⟩:=jE (g.nex b hb)
 have h2':=fk.1 h2
 have h1':=fk.1 h1
 have hn:((b.node.toNat:Nat):Int)=b.node:=by omega
 have:=hv b.node.toNat (by omega) (by omega)
 rw [hn,<-h4,hs]at this
 exact rK g.ok (by omega) this
theorem rN {m:ak} (g:ey m) {p:Nat} {x:List Nat} (h:jU m p=some x):x.length=aJ m.nodes p/\ ∀y∈x,y<2^cd m.nodes p:=by
 unfold jU at h
 rw [Option.map_eq_some_iff]at h
 obtain⟨k,hk,rfl⟩:=h
 obtain⟨b,hb,hs,rfl⟩:=mJ hk
 obtain⟨h1,h2,h3,h4,_⟩:=DL (g.ini b hb)
 have h2':=fk.1 h2
 have h1':=fk.1 h1
 have hn:((b.node.toNat:Nat):Int)=b.node:=by omega
 have hv:=Ic g (k9 m.nodes (stP m)) (k9 m.nodes (inP m)) b.node.toNat (by omega) (by omega)
 have hf:=rK g.ok (show b.node.toNat<m.nodes.length by omega) hv
 rw [hn]at hv
 have hwid:cd m.nodes b.node.toNat=cd m.nodes p/\aJ m.nodes b.node.toNat<=aJ m.nodes p:=by
  unfold cd aJ
  rw [hn,<-hs]
  rcases h4 with h4|h4
  ·rw [h4];exact⟨rfl,Nat.le_refl _⟩
  ·rw [h4]
   refine⟨rfl,?_⟩
   have ho:bD (az m.nodes b.state)=true:=by rw [hs];exact pR g.ok (by omega)
   have ho2:bD (cl (az m.nodes b.state).wid)=true:=by
    have:=bO.1 ho
    exact bO.2 ⟨by simp [cl],by simp only [cl];omega⟩
   unfold cy
   rw [if_pos ho,if_pos ho2]
   exact bk _
 refine⟨?_,fun y hy=>?_⟩
 ·unfold uF
  rw [List.length_append,List.length_replicate]
  have:=hf.1;show ((r5 m).getD b.node.toNat []).length+(aJ m.nodes p-((r5 m).getD b.node.toNat []).length)=_
  unfold r5;omega
 ·unfold uF at hy
  rw [List.mem_append,List.mem_replicate]at hy
  rw [<-hwid.1]
  rcases hy with hy|⟨_,rfl⟩
  ·exact hf.2 y hy
  ·exact hv.get_lt hv.pos|>fun h=>by
    have e:cd m.nodes b.node.toNat=(az m.nodes b.node).wid.toNat:=by unfold cd;rw [hn]
    rw [e];exact h
theorem w9 {m:ak} (g:ey m) {v:List (List Nat)} (hv:tP m.nodes m.nodes.length v):kV m.nodes (stP m) (gi m v):=yH fun p _ x hx=>vn g hv hx
theorem FF {m:ak} (g:ey m):kV m.nodes (stP m) (qO m):=yH fun p _ x hx=>rN g hx
theorem CO (m:ak) (v:List (List Nat)):(fun p=>(km m v p).isSome)=fun p=>(cm m.nexts p).isSome:=by funext p;unfold km;simp
theorem CA (m:ak):(fun p=>(jU m p).isSome)=fun p=>(cm m.inits p).isSome:=by funext p;unfold jU;simp
theorem gT {m:ak} (g:ey m):co m.nodes (stP m)=au m.nodes 36:=AB _ g.ok 36
theorem BX {m:ak} (g:ey m):co m.nodes (inP m)=au m.nodes 35:=AB _ g.ok 35
theorem gO {m:ak} (g:ey m):(aN m).Ok where
 nle:=g.n8
 kle:=g.k5
 fixed:=by have:=tY m.nodes (fun p=>(cm m.nexts p).isSome) (stP m);rwa [gT g]at this
 bfix:=by have:=tY m.nodes (fun p=>(cm m.inits p).isSome) (stP m);rwa [gT g]at this
 next c _:=by have:=CH (w9 g (uY g (c%2^au m.nodes 36) (c/2^au m.nodes 36)));rwa [gT g]at this
 held c _:=by
  have:=Ih (l:=m.nodes) (f:=km m (dx m (c%2^au m.nodes 36) (c/2^au m.nodes 36))) (ps:=stP m) fun p _ x hx=>vn g (uY g _ _) hx
  rw [CO]at this
  exact this
 bas:=by have:=CH (FF g);rwa [gT g]at this
 bheld:=by
  have:=Ih (l:=m.nodes) (f:=jU m) (ps:=stP m) fun p _ x hx=>rN g hx
  rw [CA]at this
  exact this
theorem Dw {m:ak} (g:ey m) (s:Nat):(aN m).begins s=true↔ ∀(i p:Nat),(stP m)[i]?=some p-> ∀v,jU m p=some v->(hZ m.nodes (stP m) s).getD i []=v:=by
 have:=zd (l:=m.nodes) (f:=jU m) (ps:=stP m) s fun p _ x hx=>rN g hx
 rw [CA]at this
 rw [BJ,<-this]
 unfold ay.begins
 rw [decide_eq_true_eq];rfl
theorem M8 {binds:List BindP} (h:jp (binds.map (·.state))=false) {j:Nat} {b:BindP} (hb:binds[j]?=some b): ∀x∈binds.take j,x.state≠b.state:=by
 intro x hx e
 have:jp (binds.map (·.state))=true:=rv.2 ⟨j,b.state,by simp [hb],by
  rw [<-List.map_take,<-e];exact List.mem_map.2 ⟨x,hx,rfl⟩⟩
 rw [h]at this;cases this
theorem Dr {binds:List BindP} (h:jp (binds.map (·.state))=false) {j:Nat} {b:BindP} (hb:binds[j]?=some b) (p:Nat):
  cm (binds.take (j+1)) p=if b.state=(p:Int)then some b.node.toNat else cm (binds.take j) p:=by
 have hlt:=get_lt hb
 have hg:binds[j]=b:=by rw [List.getElem?_eq_getElem hlt]at hb;exact Option.some.inj hb
 unfold cm
 rw [List.take_succ_eq_append_getElem hlt,List.find?_append,hg]
 by_cases e:b.state=(p:Int)
 ·rw [if_pos e]
  have hn:(binds.take j).find? (fun b=>decide (b.state=(p:Int)))=none:=by
   rw [List.find?_eq_none]
   intro x hx
   have:=M8 h hb x hx
   simp;omega
  rw [hn];simp [e]
 ·rw [if_neg e]
  have:([b]:List BindP).find? (fun b=>decide (b.state=(p:Int)))=none:=by simp [e]
  rw [this,Option.or_none]
theorem Ar {m:ak} (h:rb m=false):jJ m.nodes=false/\jp (m.inits.map (·.state))=false/\jp (m.nexts.map (·.state))=false:=by
 rw [zW]at h
 simp only [Bool.or_eq_false_iff]at h
 exact h
theorem qt.blk {h0 h:Hp} {out:Sl} {ts:List Sl} {vs:List (List Nat)} (e:qt h0 h out ts vs) {i:Nat} (hi:i<vs.length):
  ∃b,ts[i]?=some ⟨some ⟨b,0,none⟩,(vs.getD i []).length,(vs.getD i []).length⟩/\h0 b=none/\(h.offS out) b=some (.inl ⟨(VL (vs.getD i [])).map I,(vs.getD i []).length,false⟩):=by
 have hl:=e.len
 obtain⟨b,h1,h2,h3⟩:=e.row i _ (List.getElem?_eq_getElem (show i<ts.length by omega))
 exact⟨b,by rw [List.getElem?_eq_getElem (show i<ts.length by omega),h1],h2,h3⟩
theorem qt.wr {h0 h:Hp} {out:Sl} {ts:List Sl} {vs:List (List Nat)} {b n c i k x:Nat} {P:Hp->Prop} (e:qt h0 h out ts vs) (ht:ts[i]?=some ⟨some ⟨b,0,none⟩,n,c⟩) (hi:i<vs.length) (hk:k<(vs.getD i []).length)
  (kk: ∀h',qt h0 h' out ts (vs.set i ((vs.getD i []).set k x))->P h'):
  ∃(cs:List Value) (z:Nat),h b=some (.inl ⟨cs,z,false⟩)/\(0+Int.toNat (k:Int)*1)+1<=List.length cs/\ck (h.row b (cM cs (0+Int.toNat (k:Int)*1) [I x]) z) P:=by
 obtain⟨b',h1,h2,h3⟩:=e.blk hi
 rw [ht]at h1
 simp only [Option.some.injEq,Sl.mk.injEq,Addr.mk.injEq,and_true,true_and]at h1
 obtain⟨rfl,rfl,rfl⟩:=h1
 refine⟨_,_,aY _ _ _ _ h3,?_,?_⟩
 ·rw [List.length_map,ca,Int.toNat_natCast];omega
 rw [Mk]
 refine kk _ ⟨by rw [List.length_set];exact e.len,fun j t hj=>?_,e.dis,e.buf.row _ _ h3,?_⟩
 ·obtain⟨bj,g1,g2,g3⟩:=e.row j t hj
  by_cases hji:j=i
  ·subst hji
   rw [ht]at hj
   obtain rfl:=(Option.some.inj hj).symm
   simp only [Sl.mk.injEq,Option.some.injEq,Addr.mk.injEq,and_true,true_and]at g1
   obtain⟨rfl,_⟩:=g1
   have hv:(vs.set j ((vs.getD j []).set k x)).getD j []=(vs.getD j []).set k x:=by
    rw [List.getD_eq_getElem?_getD,List.getElem?_set_self (by omega)];rfl
   rw [hv,List.length_set]
   refine⟨b,rfl,g2,?_⟩
   rw [nP _ _ h3,bG]
   simp [VL,List.map_set,bT]
  ·have hv:(vs.set i ((vs.getD i []).set k x)).getD j []=vs.getD j []:=by
    rw [List.getD_eq_getElem?_getD,List.getElem?_set_ne (Ne.symm hji),<-List.getD_eq_getElem?_getD]
   rw [hv]
   refine⟨bj,g1,g2,?_⟩
   rw [nP _ _ h3,bM]
   ·exact g3
   ·rintro rfl
    refine hji (e.dis j i t _ hj ht ?_)
    rw [g1]
 ·rw [nP _ _ h3]
  exact dK _ _ h2 e.le
def uR (l:List NodeP) (ps:List Nat) (code i:Nat):List (List Nat):=(hZ l ps code).take i++(cV l ps).drop i
def oK (l:List NodeP) (p code k:Nat):List Nat:=mg (cd l p) k code++List.replicate (aJ l p-k) 0
theorem RQ (l:List NodeP) (ps:List Nat) (code i:Nat) (hi:i<=ps.length):(uR l ps code i).length=ps.length:=by
 unfold uR;rw [List.length_append,List.length_take,List.length_drop,jr,cV,List.length_map];omega
theorem HE {l:List NodeP} {ps:List Nat} {code i p:Nat} (h:ps[i]?=some p):(uR l ps code i).getD i []=oK l p (code/2^co l (ps.take i)) 0:=by
 have hlt:=get_lt h
 unfold uR oK
 rw [List.getD_eq_getElem?_getD,List.getElem?_append_right (by rw [List.length_take,jr];omega),List.length_take,jr,Nat.min_eq_left (by omega),Nat.sub_self,List.getElem?_drop,Nat.add_zero,cV,List.getElem?_map,h]
 rfl
theorem P3 {l:List NodeP} {ps:List Nat} {code i p:Nat} (h:ps[i]?=some p):(uR l ps code i).set i (oK l p (code/2^co l (ps.take i)) (aJ l p))=uR l ps code (i+1):=by
 have hlt:=get_lt h
 have hu:(hZ l ps code)[i]?=some (mg (cd l p) (aJ l p) (code/2^co l (ps.take i))):=by
  have:=DP (l:=l) (code:=code) h
  rw [List.getD_eq_getElem?_getD,List.getElem?_eq_getElem (by rw [jr];exact hlt)]at this
  rw [List.getElem?_eq_getElem (by rw [jr];exact hlt)]
  exact congrArg some this
 unfold uR oK
 rw [Nat.sub_self,List.replicate_zero,List.append_nil,List.set_append_right _ _ (by rw [List.length_take,jr];omega),List.length_take,jr,Nat.min_eq_left (by omega),Nat.sub_self]
 have hd:(cV l ps).drop i=List.replicate (aJ l p) 0::(cV l ps).drop (i+1):=by
  rw [<-List.getElem_cons_drop (show i<(cV l ps).length by rw [cV,List.length_map];exact hlt)]
  congr 1
  unfold cV
  rw [List.getElem_map]
  rw [List.getElem?_eq_getElem hlt]at h
  rw [Option.some.inj h]
 rw [hd,List.set_cons_zero,List.take_add_one,hu]
 simp
theorem JQ {l:List NodeP} {p code k:Nat} (hk:k<aJ l p):(oK l p code k).set k (code/2^(cd l p*k)%2^cd l p)=oK l p code (k+1):=by
 unfold oK
 rw [List.set_append_right _ _ (by rw [pP];omega),pP,Nat.sub_self]
 obtain⟨d,hd⟩: ∃d,aJ l p-k=d+1:=⟨aJ l p-k-1,by omega⟩
 rw [hd,List.replicate_succ,List.set_cons_zero,show aJ l p-(k+1)=d by omega,mg,List.append_assoc];rfl
theorem Di {l:List NodeP} {p code k:Nat} (hk:k<=aJ l p):(oK l p code k).length=aJ l p:=by
 unfold oK;rw [List.length_append,pP,List.length_replicate];omega
theorem gY.widc {h:Hp} {s:Sl} {l:List NodeP} (e:gY h s l) {p:Nat} (hp:p<l.length) (hok:ce l=true):
  ∃b o,s.a=some (Addr.mk b o none)/\(p:Int)<(s.n:Int)/\Hp.cell h b (((o+Int.toNat (p:Int)*9)+6)+1)=some (I (cd l p))/\1<=cd l p/\cd l p<=16:=by
 obtain⟨b,o,h1,h2,h3,h4⟩:=e.sortc hp
 have:=bO.1 (pR hok hp)
 have hw:(az l p).wid=((cd l p:Nat):Int):=by unfold cd;omega
 exact⟨b,o,h1,h2,by rw [<-hw];exact h4,by unfold cd;omega,by unfold cd;omega⟩
theorem Rp {l:List NodeP} {ps:List Nat} {code:Nat} {v:List Nat} (h:v∈hZ l ps code):v.length<=4:=by
 unfold hZ at h
 obtain⟨i,_,rfl⟩:=List.mem_map.1 h
 rw [pP];exact dW _ _
theorem kK (l:List NodeP) (ps:List Nat):(cV l ps).length=ps.length:=by simp [cV]
theorem LL {h:Hp} {M:MSl} {m:ak} {s:Sl} {ps:List Nat} {code:Nat} {R:Value->Hp->Prop} (hs:aO h M m) (hm:bZ m) (hok:ce m.nodes=true) (hp:IntS h s (VL ps)) (hps: ∀p∈ps,p<m.nodes.length) (hpl:ps.length<=1048576)
  (hcode:code<=1048576) (k: ∀out h',h.le h'->IntSS h' out ((hZ m.nodes ps code).map VL)->out.n<=out.c->R (Sl.v out) h'):dy #[aR M,s.v,I code] h R:=by
 apply AI
 refine uf_ ?_
 have hn:=hs.nodes.len
 have hns:=hm.nodes
 have hsn:=hp.len
 rw [ca]at hsn
 refine ai fun b9 h1 hb9 l1 f9=>?_
 repeat' (refine av ?_)
 refine pE (hs.mono l1) hm (hp.mono l1) hps hpl fun out ts h2 hC hon=>⟨out,rfl,?_⟩
 refine aw ps.length (fun i vs h'=>vs= [I (code/2^co m.nodes (ps.take i):Nat), .pointer (some ⟨b9,0,none⟩),out.v,s.v,I s.n,I i]/\qt h1 h' out ts (uR m.nodes ps code i)) ⟨?_,?_⟩ ?_
 ·simp [co]
 ·have:uR m.nodes ps code 0=cV m.nodes ps:=by simp [uR]
  rw [this];exact hC
 clear hC h2
 rintro i _ h2 next hi ⟨rfl,hC⟩ hnx
 have hle:=Hp.le_trans hC.le (aY _ _)
 have f9':=hle _ _ f9
 refine⟨_,_,_,out,s,_,_,rfl,?_⟩
 by_cases hlt:i<ps.length
 rotate_left
 ·have hie:i=ps.length:=by omega
  subst hie
  refine aG (by simp;omega) (k out h2 (Hp.le_trans l1 hle) ?_ hC.buf.2.1)
  have:uR m.nodes ps code ps.length=hZ m.nodes ps code:=by
   unfold uR
   rw [List.take_of_length_le (by rw [jr];omega),List.drop_of_length_le (by rw [kK];omega),List.append_nil]
  rw [this]at hC
  refine hC.ints (fun v hv=>?_) (by omega)
  have:=Rp hv;omega
 refine aK (by simp;omega) ?_
 obtain⟨p,hpi⟩: ∃p,ps[i]?=some p:=⟨_,List.getElem?_eq_getElem hlt⟩
 have hpm:=hps p (List.mem_of_getElem? hpi)
 obtain⟨b,o,ha,hc⟩:=((hp.mono l1).mono hle).get (gF hpi)
 refine⟨b,o,ha,by omega,by omega,_,hc,?_⟩
 (refine av ?_)
 obtain⟨bn,on,han,hpn,c7,w1,w16⟩:=((hs.mono l1).mono hle).nodes.widc hpm hok
 refine⟨bn,on,han,by omega,hpn,_,c7,?_⟩
 have hol:=RQ m.nodes ps code i (by omega)
 obtain⟨bi,hti,hbi,hri⟩:=hC.blk (i:=i) (by omega)
 rw [HE hpi,Di (Nat.zero_le _)]at hti
 obtain⟨bo,hoa,hob⟩: ∃bo,out.a=some ⟨bo,0,none⟩/\h2 bo=some (.inl ⟨ts.map Sl.v,out.c*1,false⟩):=by
  rcases hC.buf.2.2 with ⟨_,h0,_⟩|h0
  ·omega
  ·exact h0
 have hcell:Hp.cell h2 bo (0+Int.toNat (i:Int)*1)=some (Sl.v ⟨some ⟨bi,0,none⟩,aJ m.nodes p,aJ m.nodes p⟩):=by
  rw [am hob,Nat.zero_add,Int.toNat_natCast,Nat.mul_one,List.getElem?_map,hti];rfl
 refine⟨bo,0,hoa,by omega,by omega,_,hcell,?_⟩
 have hcl:=dW m.nodes p
 generalize hci:code/2^co m.nodes (ps.take i)=ci
 have hcile:ci<=code:=by rw [<-hci];exact Nat.div_le_self _ _
 refine aw (aJ m.nodes p) (fun k vs h'=>vs= [I (ci/2^(cd m.nodes p*k):Nat), .pointer (some ⟨b9,0,none⟩),out.v,I i,I (cd m.nodes p),s.v,I s.n,I i,I (aJ m.nodes p:Nat),I k]/\
  qt h1 h' out ts ((uR m.nodes ps code i).set i (oK m.nodes p ci k))) ⟨by simp,?_⟩ ?_
 ·rw [<-hci,<-HE hpi]
  have:(uR m.nodes ps code i).set i ((uR m.nodes ps code i).getD i [])=uR m.nodes ps code i:=by
   rw [List.getD_eq_getElem?_getD,List.getElem?_eq_getElem (by omega)];simp
  rw [this];exact hC
 clear hC hle f9' hri hob hcell ha hc han hpn c7 h2
 rintro q _ h2 next2 hq ⟨rfl,hC⟩ hnx2
 have hle:=Hp.le_trans hC.le (aY _ _)
 have f9':=hle _ _ f9
 have hdiv:ci/2^(cd m.nodes p*q)<=ci:=Nat.div_le_self _ _
 refine⟨_,_,_,out,_,_,s,_,_,_,_,rfl,?_⟩
 have hgs:((uR m.nodes ps code i).set i (oK m.nodes p ci q)).getD i []=oK m.nodes p ci q:=by
  rw [List.getD_eq_getElem?_getD,List.getElem?_set_self (by omega)];rfl
 by_cases hlq:q<aJ m.nodes p
 rotate_left
 ·have hqe:q=aJ m.nodes p:=by omega
  subst hqe
  refine aG (by simp) ?_
  rw [aE (by omega)]
  refine hnx hlt _ _ ⟨?_,?_⟩
  ·rw [lj hpi,Nat.pow_add,<-Nat.div_div_eq_div_mul,hci]
  ·rw [<-hci]at hC
   rw [<-P3 hpi];exact hC
 refine aK (by simp;omega) ?_
 obtain⟨bo',hoa',hob'⟩: ∃bo,out.a=some ⟨bo,0,none⟩/\h2 bo=some (.inl ⟨ts.map Sl.v,out.c*1,false⟩):=by
  rcases hC.buf.2.2 with ⟨_,h0,_⟩|h0
  ·omega
  ·exact h0
 have hcell':Hp.cell h2 bo' (0+Int.toNat (i:Int)*1)=some (Sl.v ⟨some ⟨bi,0,none⟩,aJ m.nodes p,aJ m.nodes p⟩):=by
  rw [am hob',Nat.zero_add,Int.toNat_natCast,Nat.mul_one,List.getElem?_map,hti];rfl
 refine⟨bo',0,hoa',by omega,by omega,_,hcell',?_⟩
 refine dl (by omega) ⟨_,rfl,rfl,bi,0,rfl,by omega,by dsimp only;omega,?_⟩
 rw [fM (by omega),mF,jt (by omega),Nat.div_div_eq_div_mul,<-Nat.pow_add]
 refine hC.wr hti (by rw [List.length_set];omega) (by rw [hgs,Di (by omega)];exact hlq) fun h3 hC'=>?_
 rw [if_neg (by omega),aE (by omega)]
 refine hnx2 hlq _ _ ⟨by rw [Nat.mul_add,Nat.mul_one],?_⟩
 rw [hgs,List.set_set,JQ hlq]at hC'
 exact hC'
theorem gY.sortc2 {h:Hp} {s:Sl} {l:List NodeP} (e:gY h s l) {p:Nat} (hp:p<l.length) (hok:ce l=true):
  ∃b o,s.a=some (Addr.mk b o none)/\(p:Int)<(s.n:Int)/\Hp.cell h b ((o+Int.toNat (p:Int)*9)+6)=some (I (az l p).idx)/\Hp.cell h b (((o+Int.toNat (p:Int)*9)+6)+1)=some (I (cd l p))/\1<=cd l p/\cd l p<=16:=by
 obtain⟨b,o,h1,h2,h3,h4⟩:=e.sortc hp
 have:=bO.1 (pR hok hp)
 have hw:(az l p).wid=((cd l p:Nat):Int):=by unfold cd;omega
 exact⟨b,o,h1,h2,h3,by rw [<-hw];exact h4,by unfold cd;omega,by unfold cd;omega⟩
theorem yn {l:List NodeP} {p:Nat} (hok:ce l=true) (hp:p<l.length):cy ⟨(az l p).idx,(cd l p:Nat)⟩=aJ l p:=by
 have:=bO.1 (pR hok hp)
 have hw:((cd l p:Nat):Int)=(az l p).wid:=by unfold cd;omega
 rw [hw];rfl
theorem RI (w k ci:Nat):(VL (mg w k ci)).map I++ [I ((ci/2^(w*k)%2^w:Nat):Int)]=(VL (mg w (k+1) ci)).map I:=by
 rw [mg,rr,List.map_append];rfl
theorem eP {h:Hp} {M:MSl} {m:ak} {s:Sl} {ps:List Nat} {code:Nat} {R:Value->Hp->Prop} (hs:aO h M m) (hm:bZ m) (hok:ce m.nodes=true) (hp:IntS h s (VL ps)) (hps: ∀p∈ps,p<m.nodes.length) (hpl:ps.length<=1048576)
  (hcode:code<=1048576) (hsum:co m.nodes ps<=60) (k: ∀out h',h.le h'->IntSS h' out ((hZ m.nodes ps code).map VL)->R (Sl.v out) h'):aZ #[aR M,s.v,I code] h R:=by
 apply AV
 refine uf_ ?_
 have hn:=hs.nodes.len
 have hns:=hm.nodes
 have hsn:=hp.len
 rw [ca]at hsn
 refine ai fun b9 h1 hb9 l1 f9=>?_
 refine aw ps.length (fun i vs h'=> ∃(ts:List Sl) (out:Sl),vs= [s.v,I code, .pointer (some ⟨b9,0,none⟩),out.v,I (co m.nodes (ps.take i):Nat),I i]/\
  h.le (h'.offS out)/\(h'.offS out) b9=some (.inl ⟨ax M,5,false⟩)/\out.n=i/\ts.length=i/\Buf h' out 1 (ts.map Sl.v)/\
  (∀(j:Nat) (t:Sl),ts[j]?=some t->IntS (h'.offS out) t (VL ((hZ m.nodes ps code).getD j []))))
  ⟨[],⟨none,0,0⟩,by simp [co],l1,f9,rfl,rfl,em _ _,fun j t ht=>by simp at ht⟩ ?_
 clear f9 l1 hb9 h1
 rintro i _ h3 next hi ⟨ts,out,rfl,l3,f9,hon,htl,hbuf,hts⟩ hnx
 have lo:=aY h3 out
 have f9':=lo _ _ f9
 have l3':=Hp.le_trans l3 lo
 have hsi:=BG m.nodes ps i
 refine⟨s,_,_,_,out,_,_,rfl,?_⟩
 by_cases hlt:i<ps.length
 rotate_left
 ·have hie:i=ps.length:=by omega
  subst hie
  refine aG (by simp;omega) (k out h3 l3' ⟨ts,by simp [jr];omega,hbuf.slc_of (by omega),fun j h1 h2=>?_⟩)
  have:=(hts j _ (List.getElem?_eq_getElem h1)).mono lo
  have hju:j<(hZ m.nodes ps code).length:=by rw [jr];omega
  rw [List.getElem_map]
  rwa [List.getD_eq_getElem?_getD,List.getElem?_eq_getElem hju]at this
 refine aK (by simp;omega) ?_
 obtain⟨p,hpi⟩: ∃p,ps[i]?=some p:=⟨_,List.getElem?_eq_getElem hlt⟩
 have hpm:=hps p (List.mem_of_getElem? hpi)
 obtain⟨b,o,ha,hc⟩:=(hp.mono l3').get (gF hpi)
 refine⟨b,o,ha,by omega,by omega,?_⟩
 (refine av ?_)
 refine⟨_,hc,?_⟩
 obtain⟨bn,on,han,hpn,c6,c7,w1,w16⟩:=(hs.mono l3').nodes.sortc2 hpm hok
 refine⟨bn,on,han,by omega,hpn,_,c6,_,c7,?_⟩
 have xb:=m4 hc
 have xbn:=m4 c6
 have xb9:=gW f9'
 refine ai fun b37 h4 hb37 l4 f37=>?_
 repeat' (((with_reducible apply jC);(assumption);(assumption)))
 (with_reducible apply bR);(exact f37);(exact l4);(exact hb37);(exact Nat.le_refl 2)
 intro h5 f37b kp l5
 clear f37 kp l4 h4
 refine ai fun b43 h6 hb43 l6 f43=>?_
 have n37:=fresh_ne hb43 f37b
 have hb43':=aC l5 hb43
 (with_reducible apply bR);(exact f43);(exact Hp.le_trans l5 l6);(exact hb43');(exact Nat.le_refl 1)
 intro h7 f43b kp l7
 have f37c:h7 b37=some (.inl ⟨[I (az m.nodes p).idx,I (cd m.nodes p)],2,false⟩):=bX kp n37 (l6 _ _ f37b)
 have f43c:h7 b43=some (.inl ⟨[(⟨none,0,0⟩:Sl).v],1,false⟩):=f43b
 clear f43 f43b f37b kp l6 l5
 have hcl:=dW m.nodes p
 have hcm:=yn hok hpm
 have hstep:=lj (l:=m.nodes) hpi
 have hsi1:=BG m.nodes ps (i+1)
 obtain⟨ci,hci⟩: ∃ci,ci=code/2^co m.nodes (ps.take i):=⟨_,rfl⟩
 refine aw (aJ m.nodes p) (fun q vs h'=> ∃sl:Sl,vs= [s.v,I code, .pointer (some ⟨b9,0,none⟩),out.v,I (co m.nodes (ps.take i)+cd m.nodes p*q:Nat),I i, .pointer (some ⟨b37,0,none⟩), .pointer (some ⟨b43,0,none⟩),I q]/\
  h3.le (h'.offS sl)/\(h'.offS sl) b37=some (.inl ⟨[I (az m.nodes p).idx,I (cd m.nodes p)],2,false⟩)/\(h'.offS sl) b43=some (.inl ⟨[sl.v],1,false⟩)/\sl.n=q/\Buf h' sl 1 ((VL (mg (cd m.nodes p) q ci)).map I))
  ⟨⟨none,0,0⟩,by simp,l7,f37c,f43c,rfl,em _ _⟩ ?_
 clear f37c f43c l7 h7
 rintro q _ h7 next2 hq ⟨sl,rfl,l7,f37,f43,hsl,hbufl⟩ hnx2
 have los:=aY h7 sl
 have f37':=los _ _ f37
 have f43':=los _ _ f43
 refine⟨s,_,_,_,out,_,_,_,_,_,_,_,rfl,?_⟩
 repeat' (refine av ?_)
 refine fz ⟨_,rfl,?_⟩
 rw [hcm]
 by_cases hlq:q<aJ m.nodes p
 rotate_left
 ·have hqe:q=aJ m.nodes p:=by omega
  subst hqe
  refine aG (by simp) ?_
  (refine av ?_)
  refine ai fun b103 h8 hb103 l8 f103=>?_
  have l38:=Hp.le_trans l7 (Hp.le_trans los l8)
  have l38o:=bQ out l38
  refine da (hbuf.mono l38) (by omega) (by omega) (by omega) ⟨b103,0,rfl,aD f103⟩ (by simp) rfl ?_
  intro s' h10 hs'n hbuf' l10 _
  rw [aE (by omega)]
  have l310:=Hp.le_trans l38o l10
  have hbuf'':Buf h10 s' 1 ((ts++ [sl]).map Sl.v):=by rw [List.map_append];exact hbuf'
  have hval:IntS h8 sl (VL (mg (cd m.nodes p) (aJ m.nodes p) ci)):=SlC.mono l8 (hbufl.slc_of (by omega))
  rw [<-hstep]
  refine hnx hlt _ _ ⟨ts++ [sl],s',rfl,Hp.le_trans l3 l310,l310 _ _ f9,by omega,by simp;omega,hbuf'',fun j u hu=>?_⟩
  by_cases hj:j<i
  ·rw [List.getElem?_append_left (by omega)]at hu
   exact(hts j u hu).mono l310
  ·have hju:=get_lt hu
   simp at hju
   have hje:j=i:=by omega
   subst hje
   rw [List.getElem?_append_right (by omega),htl,Nat.sub_self]at hu
   simp at hu;subst hu
   rw [DP hpi,<-hci]
   exact(hval.offL (hbuf.mono l38)).mono l10
 refine aK (by simp;omega) ?_
 have hmul:cd m.nodes p*q<=cd m.nodes p*aJ m.nodes p:=Nat.mul_le_mul_left _ hq
 have hmul2:cd m.nodes p*(q+1)<=cd m.nodes p*aJ m.nodes p:=Nat.mul_le_mul_left _ hlq
 have hp16:=wt w16
 have hpp:=bk (cd m.nodes p)
 refine ar (fun J=> ∀(sl':Sl) (h':Hp),h3.le (h'.offS sl')->(h'.offS sl') b37=some (.inl ⟨[I (az m.nodes p).idx,I (cd m.nodes p)],2,false⟩)->(h'.offS sl') b43=some (.inl ⟨[sl'.v],1,false⟩)->sl'.n=q+1->
   Buf h' sl' 1 ((VL (mg (cd m.nodes p) (q+1) ci)).map I)->J (co m.nodes (ps.take i)+cd m.nodes p*(q+1):Nat) h') ?_ (fun J hJ=>?_)
 ·intro sl' h' g1 g2 g3 g4 g5
  rw [aE (by omega)]
  exact hnx2 hlq _ _ ⟨sl',rfl,g1,g2,g3,g4,g5⟩
 have xb60:=gW f37'
 have xb62:=gW f43'
 rw [cA (n:=co m.nodes (ps.take i)+cd m.nodes p*q) (by omega)]
 repeat' (refine av ?_)
 rw [cA (n:=cd m.nodes p) (by omega)]
 rw [jt (by omega),bV (by omega),eW]
 have hval:code/2^(co m.nodes (ps.take i)+cd m.nodes p*q)=ci/2^(cd m.nodes p*q):=by
  rw [hci,Nat.div_div_eq_div_mul,<-Nat.pow_add]
 rw [hval]
 have app: ∀(K:Option Addr->Nat->Nat->Hp->Prop) (h8:Hp) (b75:Nat),h7.le h8->h8 b75=some (.inl ⟨[I ((ci/2^(cd m.nodes p*q)%2^cd m.nodes p:Nat):Int)],1,false⟩)->
   (∀(s':Sl) (h9:Hp),s'.n=q+1->h3.le (h9.offS s')->(h9.offS s') b37=some (.inl ⟨[I (az m.nodes p).idx,I (cd m.nodes p)],2,false⟩)->(h9.offS s') b43=some (.inl ⟨[sl.v],1,false⟩)->Buf h9 s' 1 ((VL (mg (cd m.nodes p) (q+1) ci)).map I)->K s'.a s'.n s'.c h9)->
   cb h8 sl.a sl.n sl.c (some ⟨b75,0,none⟩) 1 1 8 K:=by
  intro K h8 b75 l8 f75 hK
  have l78:=bQ sl l8
  refine da (hbufl.mono l8) (by omega) (by omega) (by omega) ⟨b75,0,rfl,aD f75⟩ (by simp) rfl ?_
  intro s' h9 hs'n hbuf' l9 _
  have l79:=Hp.le_trans l78 l9
  refine hK s' h9 (by omega) (Hp.le_trans l7 l79) (l79 _ _ f37) (l79 _ _ f43) ?_
  rw [<-RI];exact hbuf'
 have fin: ∀(s':Sl) (h9:Hp),s'.n=q+1->h3.le (h9.offS s')->(h9.offS s') b37=some (.inl ⟨[I (az m.nodes p).idx,I (cd m.nodes p)],2,false⟩)->(h9.offS s') b43=some (.inl ⟨[sl.v],1,false⟩)->Buf h9 s' 1 ((VL (mg (cd m.nodes p) (q+1) ci)).map I)->
   ∃(cs:List Value) (z:Nat),h9 b43=some (.inl ⟨cs,z,false⟩)/\0+1<=List.length cs/\ck (h9.row b43 (cM cs 0 [.slice s'.a s'.n s'.c]) z) fun h83=> ∃(x85:Int),Hp.cell h83 b37 (0+1)=some (I x85)/\(J (W (((co m.nodes (ps.take i)+cd m.nodes p*q:Nat):Int)+x85)) h83):=by
  intro s' h9 g1 g2 g3 g4 g5
  (with_reducible apply sc);(exact g4);(exact g2);(exact hb43');(exact Nat.le_refl 1)
  intro h10 e43 kp l10 hbk
  have e37:(h10.offS s') b37=some (.inl ⟨[I (az m.nodes p).idx,I (cd m.nodes p)],2,false⟩):=by rw [kp _ n37];exact g3
  refine⟨_,by rw [am (aY _ _ _ _ e37)];rfl,?_⟩
  have:W (((co m.nodes (ps.take i)+cd m.nodes p*q:Nat):Int)+((cd m.nodes p:Nat):Int))=((co m.nodes (ps.take i)+cd m.nodes p*(q+1):Nat):Int):=by
   rw [bU (by omega) (by omega),Nat.mul_add,Nat.mul_one];omega
  rw [this]
  exact hJ s' h10 l10 e37 e43 g1 (hbk _ _ g5)
 constructor
 ·repeat' (refine av ?_)
  rw [if_neg (by omega)]
  repeat' (refine av ?_)
  rw [if_neg (by omega),if_neg (by omega)]
  refine ai fun b75 h8 hb75 l8 f75=>?_
  (((with_reducible apply jC);(assumption);(assumption)))
  exact app _ h8 b75 l8 f75 fun s' h9 g1 g2 g3 g4 g5=>fin s' h9 g1 g2 g3 g4 g5
 ·repeat' (refine av ?_)
  rw [if_neg (by omega)]
  repeat' (refine av ?_)
  rw [if_neg (by omega),if_neg (by omega)]
  refine ai fun b75 h8 hb75 l8 f75=>?_
  (((with_reducible apply jC);(assumption);(assumption)))
  exact app _ h8 b75 l8 f75 fun s' h9 g1 g2 g3 g4 g5=>fin s' h9 g1 g2 g3 g4 g5
theorem KO {a n x:Nat} (h:a<2^n):a|||(x*2^n)=a+x*2^n:=by
 rw [Nat.or_comm,Nat.mul_comm,<-Nat.two_pow_add_eq_or_of_lt h,Nat.add_comm]
theorem CW {l:List NodeP} {ps:List Nat} {vs:List (List Nat)} {i p:Nat} (h:ps[i]?=some p) (hf:kV l ps vs):
  dL l (ps.take (i+1)) (vs.take (i+1))=dL l (ps.take i) (vs.take i)+2^co l (ps.take i)*eX (cd l p) (vs.getD i []):=by
 have hlt:=get_lt h
 have hl:=qg hf
 rw [List.getElem?_eq_getElem hlt]at h
 rw [List.take_succ_eq_append_getElem hlt,List.take_succ_eq_append_getElem (show i<vs.length by omega),JU (by rw [List.length_take,List.length_take];omega),Option.some.inj h]
 rw [List.getD_eq_getElem?_getD,List.getElem?_eq_getElem (show i<vs.length by omega)];rfl
theorem Lr {w:Nat} {v:List Nat} {q:Nat} (h:q<v.length):eX w (v.take (q+1))=eX w (v.take q)+2^(w*q)*v.getD q 0:=by
 rw [List.take_succ_eq_append_getElem h,C6,List.length_take,Nat.min_eq_left (by omega),List.getD_eq_getElem?_getD,List.getElem?_eq_getElem h];rfl
theorem sO {l:List NodeP} {ps:List Nat} {vs:List (List Nat)} {i p q:Nat} (h:ps[i]?=some p) (hf:kV l ps vs) (hq:q<=aJ l p):
  dL l (ps.take i) (vs.take i)+2^co l (ps.take i)*eX (cd l p) ((vs.getD i []).take q)<2^(co l (ps.take i)+cd l p*q):=by
 have h1:=CH (MO hf i)
 have h2:=nr hf h
 have h3:=yf (w:=cd l p) (xs:=(vs.getD i []).take q) fun x hx=>h2.2 x (List.mem_of_mem_take hx)
 rw [List.length_take,Nat.min_eq_left (by omega)]at h3
 rw [Nat.pow_add]
 have h4:=Nat.mul_le_mul_left (2^co l (ps.take i)) (Nat.succ_le_of_lt h3)
 rw [Nat.succ_eq_add_one,Nat.mul_add,Nat.mul_one]at h4
 omega
theorem IntSS.getV {h:Hp} {s:Sl} {vs:List (List Nat)} (e:IntSS h s (vs.map VL)) {i:Nat} (hi:i<vs.length):
  ∃b o t,s.a=some (Addr.mk b o none)/\Hp.cell h b (o+i*1)=some (Sl.v t)/\IntS h t (VL (vs.getD i [])):=by
 obtain⟨b,o,t,h1,h2,h3⟩:=e.at (i:=i) (by rw [List.length_map];exact hi)
 refine⟨b,o,t,h1,by rw [Nat.mul_one];exact h2,?_⟩
 rw [List.getElem_map]at h3
 rwa [List.getD_eq_getElem?_getD,List.getElem?_eq_getElem hi]
theorem u9 {l:List NodeP} {ps:List Nat} {i p q:Nat} (h:ps[i]?=some p) (hq:q<=aJ l p):co l (ps.take i)+cd l p*q<=co l ps:=by
 have h1:=lj (l:=l) h
 have h2:=BG l ps (i+1)
 have h3:=Nat.mul_le_mul_left (cd l p) hq
 omega
theorem yu {n:Nat} (h:n<=60):2^n<=1152921504606846976:=by
 have:=Nat.pow_le_pow_right (n:=2) (by omega) h
 simpa using this
theorem vd {l:List NodeP} {ps:List Nat} {vs:List (List Nat)} {i p q:Nat} (h:ps[i]?=some p) (hf:kV l ps vs) (hq:q<aJ l p):
  dL l (ps.take i) (vs.take i)+2^co l (ps.take i)*eX (cd l p) ((vs.getD i []).take (q+1))=
   (dL l (ps.take i) (vs.take i)+2^co l (ps.take i)*eX (cd l p) ((vs.getD i []).take q))+(vs.getD i []).getD q 0*2^(co l (ps.take i)+cd l p*q):=by
 have h2:=nr hf h
 rw [Lr (by omega),Nat.mul_add,Nat.add_assoc,<-Nat.mul_assoc,<-Nat.pow_add,Nat.mul_comm (2^(co l (ps.take i)+cd l p*q))]
theorem FP {h:Hp} {M:MSl} {m:ak} {s t:Sl} {ps:List Nat} {vs:List (List Nat)} {R:Value->Hp->Prop} (hs:aO h M m) (hm:bZ m) (hok:ce m.nodes=true) (hp:IntS h s (VL ps)) (hps: ∀p∈ps,p<m.nodes.length) (hpl:ps.length<=1048576)
  (hv:IntSS h t (vs.map VL)) (hf:kV m.nodes ps vs) (hsum:co m.nodes ps<=60) (k:R (I (dL m.nodes ps vs)) h):gD #[aR M,s.v,t.v] h R:=by
 refine ACalls.drop (xJ ?_)
 refine uf_ ?_
 have hn:=hs.nodes.len
 have hns:=hm.nodes
 have hsn:=hp.len
 rw [ca]at hsn
 have htn:=hv.len
 rw [List.length_map]at htn
 have hvl:=qg hf
 have hsum60:=yu hsum
 refine ai fun b9 h1 hb9 l1 f9=>?_
 refine aw ps.length (fun i ws h'=>h'=h1/\ws= [t.v, .pointer (some ⟨b9,0,none⟩),I (dL m.nodes (ps.take i) (vs.take i):Nat),I (co m.nodes (ps.take i):Nat),s.v,I s.n,I i]) ⟨rfl,by simp [dL,co]⟩ ?_
 rintro i _ _ next hi ⟨rfl,rfl⟩ hnx
 rename_i h1
 refine⟨t,_,_,_,_,s,_,_,rfl,?_⟩
 by_cases hlt:i<ps.length
 rotate_left
 ·have hie:i=ps.length:=by omega
  subst hie
  refine aG (by simp;omega) ⟨_,l1,?_⟩
  rw [List.take_of_length_le (Nat.le_refl _),List.take_of_length_le (by omega)];exact k
 refine aK (by simp;omega) ?_
 obtain⟨p,hpi⟩: ∃p,ps[i]?=some p:=⟨_,List.getElem?_eq_getElem hlt⟩
 have hpm:=hps p (List.mem_of_getElem? hpi)
 obtain⟨b,o,ha,hc⟩:=(hp.mono l1).get (gF hpi)
 refine⟨b,o,ha,by omega,by omega,_,hc,?_⟩
 obtain⟨bt,ot,c,hta,htc,hcv⟩:=(hv.mono l1).getV (i:=i) (by omega)
 refine⟨bt,ot,hta,by omega,by omega,c,htc,?_⟩
 obtain⟨bn,on,han,hpn,c7,w1,w16⟩:=(hs.mono l1).nodes.widc hpm hok
 have hg:=nr hf hpi
 have hcn:=hcv.len
 rw [ca]at hcn
 have hcl:=dW m.nodes p
 refine aw (aJ m.nodes p) (fun q ws h'=>h'=h1/\ws= [t.v, .pointer (some ⟨b9,0,none⟩),I (dL m.nodes (ps.take i) (vs.take i)+2^co m.nodes (ps.take i)*eX (cd m.nodes p) ((vs.getD i []).take q):Nat),
  I (co m.nodes (ps.take i)+cd m.nodes p*q:Nat),I p,s.v,I s.n,I i,c.v,I c.n,I q]) ⟨rfl,by simp [eX]⟩ ?_
 rintro q _ _ next2 hq ⟨rfl,rfl⟩ hnx2
 rename_i h1
 refine⟨t,_,_,_,_,_,s,_,_,c,_,_,rfl,?_⟩
 by_cases hlq:q<aJ m.nodes p
 rotate_left
 ·have hqe:q=aJ m.nodes p:=by omega
  subst hqe
  refine aG (by simp;omega) ?_
  rw [aE (by omega)]
  refine hnx hlt _ _ ⟨rfl,?_⟩
  rw [CW hpi hf,lj hpi,List.take_of_length_le (l:=vs.getD i []) (by omega)]
 refine aK (by simp;omega) ?_
 obtain⟨bc,oc,hca,hcc,hln⟩:=hcv.elt (i:=q) (by omega)
 refine⟨bc,oc,hca,by omega,by omega,_,hcc,?_⟩
 have hb1:=sO hpi hf (Nat.le_of_lt hlq)
 have hb2:=sO (q:=q+1) hpi hf hlq
 rw [vd hpi hf hlq]at hb2
 have hs1:=u9 hpi (Nat.le_of_lt hlq)
 have hs2:=u9 (q:=q+1) hpi hlq
 have hp1:=yu (n:=co m.nodes (ps.take i)+cd m.nodes p*(q+1)) (by omega)
 have hp2:=yu (n:=co m.nodes (ps.take i)+cd m.nodes p*q) (by omega)
 rw [if_neg (by omega)]
 (refine av ?_)
 refine⟨bn,on,han,by omega,hpn,_,c7,?_⟩
 rw [gz (by omega) (by omega),xH (by omega) (by omega),KO hb1,<-vd hpi hf hlq,bU (n:=((co m.nodes (ps.take i)+cd m.nodes p*q:Nat):Int)+(cd m.nodes p:Nat)) (by omega) (by omega),aE (by omega)]
 refine hnx2 hlq _ _ ⟨rfl,?_⟩
 rw [Nat.mul_add,Nat.mul_one,<-Nat.add_assoc,Int.natCast_add (co m.nodes (ps.take i)+cd m.nodes p*q)]
theorem H0 {h:Hp} {M:MSl} {m:ak} {s t:Sl} {ps:List Nat} {vs:List (List Nat)} {R:Value->Hp->Prop} (hs:aO h M m) (hm:bZ m) (hok:ce m.nodes=true) (hp:IntS h s (VL ps)) (hps: ∀p∈ps,p<m.nodes.length) (hpl:ps.length<=1048576)
  (hv:IntSS h t (vs.map VL)) (hf:kV m.nodes ps vs) (hsum:co m.nodes ps<=60) (k:R (I (dL m.nodes ps vs)) h):ke #[aR M,s.v,t.v] h R:=by
 refine ACalls.drop (E8 ?_)
 refine uf_ ?_
 have hn:=hs.nodes.len
 have hns:=hm.nodes
 have hsn:=hp.len
 rw [ca]at hsn
 have htn:=hv.len
 rw [List.length_map]at htn
 have hvl:=qg hf
 have hsum60:=yu hsum
 refine ai fun b9 h1 hb9 l1 f9=>?_
 refine aw ps.length (fun i ws h'=>h'=h1/\ws= [s.v,t.v, .pointer (some ⟨b9,0,none⟩),I (dL m.nodes (ps.take i) (vs.take i):Nat),I (co m.nodes (ps.take i):Nat),I i]) ⟨rfl,by simp [dL,co]⟩ ?_
 rintro i _ _ next hi ⟨rfl,rfl⟩ hnx
 rename_i h1
 refine⟨s,t,_,_,_,_,_,rfl,?_⟩
 by_cases hlt:i<ps.length
 rotate_left
 ·have hie:i=ps.length:=by omega
  subst hie
  refine aG (by simp;omega) ⟨_,l1,?_⟩
  rw [List.take_of_length_le (Nat.le_refl _),List.take_of_length_le (by omega)];exact k
 refine aK (by simp;omega) ?_
 obtain⟨p,hpi⟩: ∃p,ps[i]?=some p:=⟨_,List.getElem?_eq_getElem hlt⟩
 have hpm:=hps p (List.mem_of_getElem? hpi)
 obtain⟨b,o,ha,hc⟩:=(hp.mono l1).get (gF hpi)
 refine⟨b,o,ha,by omega,by omega,?_⟩
 (refine av ?_)
 refine⟨_,hc,?_⟩
 obtain⟨bn,on,han,hpn,c7,w1,w16⟩:=(hs.mono l1).nodes.widc hpm hok
 refine⟨bn,on,han,by omega,hpn,_,c7,?_⟩
 obtain⟨bt,ot,c,hta,htc,hcv⟩:=(hv.mono l1).getV (i:=i) (by omega)
 have hg:=nr hf hpi
 have hcn:=hcv.len
 rw [ca]at hcn
 have hcl:=dW m.nodes p
 refine aw (aJ m.nodes p) (fun q ws h'=>h'=h1/\ws= [s.v,t.v, .pointer (some ⟨b9,0,none⟩),I (dL m.nodes (ps.take i) (vs.take i)+2^co m.nodes (ps.take i)*eX (cd m.nodes p) ((vs.getD i []).take q):Nat),
  I (co m.nodes (ps.take i)+cd m.nodes p*q:Nat),I i,I (cd m.nodes p),I q]) ⟨rfl,by simp [eX]⟩ ?_
 rintro q _ _ next2 hq ⟨rfl,rfl⟩ hnx2
 rename_i h1
 refine⟨s,t,_,_,_,_,_,_,_,rfl,?_⟩
 refine⟨bt,ot,hta,by omega,by omega,c,htc,?_⟩
 by_cases hlq:q<aJ m.nodes p
 rotate_left
 ·have hqe:q=aJ m.nodes p:=by omega
  subst hqe
  refine aG (by simp;omega) ?_
  rw [aE (by omega)]
  refine hnx hlt _ _ ⟨rfl,?_⟩
  rw [CW hpi hf,lj hpi,List.take_of_length_le (l:=vs.getD i []) (by omega)]
 refine aK (by simp;omega) ?_
 refine⟨bt,ot,hta,by omega,by omega,c,htc,?_⟩
 obtain⟨bc,oc,hca,hcc,hln⟩:=hcv.elt (i:=q) (by omega)
 refine⟨bc,oc,hca,by omega,by omega,_,hcc,?_⟩
 have hb1:=sO hpi hf (Nat.le_of_lt hlq)
 have hb2:=sO (q:=q+1) hpi hf hlq
 rw [vd hpi hf hlq]at hb2
 have hs1:=u9 hpi (Nat.le_of_lt hlq)
 have hs2:=u9 (q:=q+1) hpi hlq
 have hp1:=yu (n:=co m.nodes (ps.take i)+cd m.nodes p*(q+1)) (by omega)
 have hp2:=yu (n:=co m.nodes (ps.take i)+cd m.nodes p*q) (by omega)
 rw [cA (n:=co m.nodes (ps.take i)+cd m.nodes p*q) (by omega),if_neg (by omega)]
 rw [gz (by omega) (by omega),<-Int.natCast_add,ef (by omega),<-vd hpi hf hlq,bU (n:=((co m.nodes (ps.take i)+cd m.nodes p*q:Nat):Int)+(cd m.nodes p:Nat)) (by omega) (by omega),aE (by omega)]
 refine hnx2 hlq _ _ ⟨rfl,?_⟩
 rw [Nat.mul_add,Nat.mul_one,<-Nat.add_assoc,Int.natCast_add (co m.nodes (ps.take i)+cd m.nodes p*q)]
structure yG (m:ak) (v:List (List Nat)):Prop where
 len:v.length=m.nodes.length
 fit:tP m.nodes m.nodes.length v
theorem mO {m:ak} (g:ey m) (s i:Nat):yG m (dx m s i):=⟨FX _ _ _,uY g s i⟩
theorem DC {m:ak} (g:ey m):yG m (r5 m):=⟨FX _ _ _,Ic g (k9 m.nodes (stP m)) (k9 m.nodes (inP m))⟩
theorem BK {m:ak} {v:List (List Nat)} (a:yG m v) {p:Int} (h:dD m.nodes p=true):0<=p/\p<v.length/\0<(v.getD p.toNat []).length/\cE v p<2:=by
 unfold dD at h
 simp only [Bool.and_eq_true,decide_eq_true_eq]at h
 have hp:=fk.1 h.1
 have hn:((p.toNat:Nat):Int)=p:=by omega
 have hf:=a.fit p.toNat (by omega) (by omega)
 rw [hn,h.2]at hf
 have:=hf.cell
 exact⟨hp.1,by rw [a.len];exact hp.2,hf.pos,by unfold cE;exact this⟩
theorem D3 {h:Hp} {s:Sl} {v:List (List Nat)} {p:Int} {R:Value->Hp->Prop} (hpv:jf h s v) (h0:0<=p) (hp:p<v.length) (hne:0<(v.getD p.toNat []).length)
  (k:R (.bool (decide (cE v p=1))) h):po #[s.v,I p] h R:=by
 apply G1
 refine uf_ ?_
 obtain⟨b,o,t,ha,hlt,hc,ht⟩:=hpv.at h0 hp
 refine⟨b,o,ha,h0,hlt,t,hc,?_⟩
 obtain⟨b2,o2,ha2,hc2,hl2⟩:=ht.elt hne
 refine⟨b2,o2,ha2,by omega,by omega,_,hc2,cX ?_ k⟩
 rw [Bool.eq_iff_iff,decide_eq_true_eq,beq_iff_eq]
 unfold cE;omega
theorem Li {h:Hp} {M:MSl} {m:ak} {s:Sl} {v:List (List Nat)} {R:Value->Hp->Prop} (hs:aO h M m) (g:ey m) (hpv:jf h s v) (a:yG m v)
  (k:R (.bool (kN m v)) h):iM #[aR M,s.v] h R:=by
 refine ACalls.drop (wZ ?_)
 refine uf_ ?_
 refine ai fun b8 h1 hb8 l1 f8=>?_
 refine ai fun b10 h2 hb10 l2 f10=>?_
 replace f8:=l2 _ _ f8
 replace l2:=Hp.le_trans l1 l2
 (refine av ?_)
 refine mu (fun p=> !decide (cE v p=1)) (hs.mono l2).holds (fun p hp R k=>?_) ⟨_,rfl,_,l2,cX ?_ k⟩
 ·obtain⟨h1,h2,h3,_⟩:=BK a (g.hol p hp)
  apply tC
  refine uf_ ?_
  (refine av ?_)
  exact D3 (hpv.mono l2) h1 h2 h3 ⟨_,rfl,k⟩
 ·rw [BH,Bool.not_not];rfl
theorem Rm {h:Hp} {M:MSl} {m:ak} {s:Sl} {v:List (List Nat)} {R:Value->Hp->Prop} (hs:aO h M m) (g:ey m) (hpv:jf h s v) (a:yG m v)
  (k:R (I (EX m v)) h):jQ #[aR M,s.v] h R:=by
 refine ACalls.drop (zg ?_)
 refine uf_ ?_
 refine ai fun b8 h1 hb8 l1 f8=>?_
 refine ai fun b10 h2 hb10 l2 f10=>?_
 replace f8:=l2 _ _ f8
 replace l2:=Hp.le_trans l1 l2
 (refine av ?_)
 refine pz (fun p=>decide (cE v p=1)) (hs.mono l2).bads (fun p hp R k=>?_) ⟨_,rfl,_,l2,oe ?_ k⟩
 ·obtain⟨h1,h2,h3,_⟩:=BK a (g.bad p hp)
  apply vU
  refine uf_ ?_
  (refine av ?_)
  exact D3 (hpv.mono l2) h1 h2 h3 ⟨_,rfl,k⟩
 ·unfold Cb EX qF
  cases List.findIdx? (fun p=>decide (cE v p=1)) m.bads<;>rfl
theorem sg {h:Hp} {M:MSl} {m:ak} {s:Sl} {v:List (List Nat)} {R:Value->Hp->Prop} (hs:aO h M m) (g:ey m) (hpv:jf h s v) (a:yG m v)
  (k:R (.bool (kN m v)) h):js #[aR M,s.v] h R:=by
 refine ACalls.drop (CT ?_)
 refine uf_ ?_
 have hhn:=hs.holds.len
 have hhl:=g.hl
 refine ai fun b8 h1 hb8 l1 f8=>?_
 refine aw m.holds.length (fun i vs h'=>h'=h1/\vs= [s.v, .pointer (some ⟨b8,0,none⟩),I i]/\(m.holds.take i).all (fun p=>decide (cE v p=1))=true) ⟨rfl,rfl,rfl⟩ ?_
 rintro i _ _ next hi ⟨rfl,rfl,hall⟩ hnx
 rename_i h1
 refine⟨s,_,_,_,rfl,?_⟩
 repeat' (refine av ?_)
 by_cases hlt:i<m.holds.length
 rotate_left
 ·refine aG (by simp;omega) ⟨_,l1,cX ?_ k⟩
  rw [List.take_of_length_le (by omega)]at hall
  exact hall.symm
 refine aK (by simp;omega) ?_
 obtain⟨p,hpi⟩: ∃p,m.holds[i]?=some p:=⟨_,List.getElem?_eq_getElem hlt⟩
 obtain⟨e0,e1,e2,e3⟩:=BK a (g.hol p (List.mem_of_getElem? hpi))
 obtain⟨b,o,ha,hc⟩:=(hs.mono l1).holds.get hpi
 (refine av ?_)
 refine⟨b,o,ha,by omega,by omega,_,hc,?_⟩
 obtain⟨b1,o1,t,ha1,hlt1,hc1,ht⟩:=(hpv.mono l1).at e0 e1
 refine⟨b1,o1,ha1,e0,hlt1,t,hc1,?_⟩
 obtain⟨b2,o2,ha2,hc2,hl2⟩:=ht.elt e2
 refine⟨b2,o2,ha2,by omega,by omega,_,hc2,?_⟩
 refine ad (fun e=>⟨_,l1,cX ?_ k⟩) (fun e=>?_)
 ·have e':=bL e
  symm
  refine zV hpi ?_
  rw [decide_eq_false_iff_not]
  unfold cE;omega
 ·have e':=aW e
  rw [aE (by omega)]
  refine hnx hlt _ _ ⟨rfl,rfl,?_⟩
  rw [uV hpi,hall,Bool.true_and,decide_eq_true_eq]
  unfold cE at e3⊢;omega
theorem EE {α:Type} {p:α->Bool} {xs:List α} {i:Nat} {x:α} (hx:xs[i]?=some x) (hp:p x=true) (h:(xs.take i).any p=false):xs.findIdx? p=some i:=by
 have hlt:=get_lt hx
 have he:xs[i]=x:=by rw [List.getElem?_eq_getElem hlt]at hx;exact Option.some.inj hx
 rw [List.findIdx?_eq_some_iff_getElem]
 refine⟨hlt,by rw [he];exact hp,fun j hj=>?_⟩
 rw [List.any_eq_false]at h
 have:=h xs[j] (by rw [List.mem_take_iff_getElem];exact⟨j,by omega,rfl⟩)
 simpa using this
theorem H4 {α:Type} {p:α->Bool} {xs:List α} (h:xs.any p=false):xs.findIdx? p=none:=by
 rw [List.findIdx?_eq_none_iff]
 rw [List.any_eq_false]at h
 intro x hx;simpa using h x hx
theorem Nx {α:Type} {l:List α} {p:α->Bool} {i:Nat} {x:α} (hx:l[i]?=some x):(l.take (i+1)).any p=((l.take i).any p||p x):=by
 have hlt:=get_lt hx
 rw [List.getElem?_eq_getElem hlt]at hx
 rw [List.take_succ_eq_append_getElem hlt,List.any_append,Option.some.inj hx];simp
theorem xg {h:Hp} {M:MSl} {m:ak} {s:Sl} {v:List (List Nat)} {R:Value->Hp->Prop} (hs:aO h M m) (g:ey m) (hpv:jf h s v) (a:yG m v)
  (k:R (I (EX m v)) h):lX #[aR M,s.v] h R:=by
 refine ACalls.drop (Hj ?_)
 refine uf_ ?_
 have hhn:=hs.bads.len
 have hhl:=g.bl
 refine ai fun b8 h1 hb8 l1 f8=>?_
 refine aw m.bads.length (fun i vs h'=>h'=h1/\vs= [s.v, .pointer (some ⟨b8,0,none⟩),I i]/\(m.bads.take i).any (fun p=>decide (cE v p=1))=false) ⟨rfl,rfl,rfl⟩ ?_
 rintro i _ _ next hi ⟨rfl,rfl,hall⟩ hnx
 rename_i h1
 refine⟨s,_,_,_,rfl,?_⟩
 repeat' (refine av ?_)
 by_cases hlt:i<m.bads.length
 rotate_left
 ·refine aG (by simp;omega) ⟨_,l1,oe ?_ k⟩
  rw [List.take_of_length_le (by omega)]at hall
  unfold EX qF
  rw [H4 hall]
 refine aK (by simp;omega) ?_
 obtain⟨p,hpi⟩: ∃p,m.bads[i]?=some p:=⟨_,List.getElem?_eq_getElem hlt⟩
 obtain⟨e0,e1,e2,e3⟩:=BK a (g.bad p (List.mem_of_getElem? hpi))
 obtain⟨b,o,ha,hc⟩:=(hs.mono l1).bads.get hpi
 (refine av ?_)
 refine⟨b,o,ha,by omega,by omega,_,hc,?_⟩
 obtain⟨b1,o1,t,ha1,hlt1,hc1,ht⟩:=(hpv.mono l1).at e0 e1
 refine⟨b1,o1,ha1,e0,hlt1,t,hc1,?_⟩
 obtain⟨b2,o2,ha2,hc2,hl2⟩:=ht.elt e2
 refine⟨b2,o2,ha2,by omega,by omega,_,hc2,?_⟩
 refine ad (fun e=>⟨_,l1,oe ?_ k⟩) (fun e=>?_)
 ·have e':=bL e
  unfold EX qF
  rw [EE hpi (by rw [decide_eq_true_eq];unfold cE;omega) hall]
 ·have e':=aW e
  rw [aE (by omega)]
  refine hnx hlt _ _ ⟨rfl,rfl,?_⟩
  rw [Nx hpi,hall,Bool.false_or,decide_eq_false_iff_not]
  unfold cE;omega
def jz (binds:List BindP) (p:Nat):Int:=match cm binds p with|some k=>k|none=> -1
theorem JR (b:BindP) (r:List BindP) (p:Nat):cm (b::r) p=if b.state=(p:Int)then some b.node.toNat else cm r p:=by
 unfold cm
 rw [List.find?_cons]
 by_cases e:b.state=(p:Int)<;>simp [e]
theorem pn {h:Hp} {s:Sl} {binds:List BindP} {p:Nat} {R:Value->Hp->Prop} (hs:pV h s binds) (hl:binds.length<=1048576) (h0: ∀b∈binds,0<=b.node)
  (k:R (I (jz binds p)) h):fY #[s.v,I p] h R:=by
 apply CG
 refine uf_ ?_
 have hn:=hs.len
 refine aw binds.length (fun i vs h'=>h'=h/\vs= [s.v,I p,I i]/\cm (binds.drop i) p=cm binds p) ⟨rfl,rfl,rfl⟩ ?_
 rintro i _ _ next hi ⟨rfl,rfl,hall⟩ hnx
 rename_i h
 refine⟨s,_,_,rfl,?_⟩
 by_cases hlt:i<binds.length
 rotate_left
 ·refine aG (by simp;omega) (oe ?_ k)
  rw [List.drop_of_length_le (by omega)]at hall
  unfold jz
  rw [<-hall];rfl
 refine aK (by simp;omega) ?_
 obtain⟨x,hxi⟩: ∃x,binds[i]?=some x:=⟨_,List.getElem?_eq_getElem hlt⟩
 have hx0:=h0 x (List.mem_of_getElem? hxi)
 obtain⟨b,o,ha,c1,c2⟩:=hs.at hxi
 have hd:binds.drop i=x::binds.drop (i+1):=by
  rw [List.drop_eq_getElem_cons hlt]
  rw [List.getElem?_eq_getElem hlt]at hxi
  rw [Option.some.inj hxi]
 rw [hd,JR]at hall
 refine⟨b,o,ha,by omega,by omega,_,c1,?_⟩
 refine ad (fun e=>?_) (fun e=>?_)
 ·refine⟨b,o,ha,by omega,by omega,_,c2,oe ?_ k⟩
  rw [if_pos (bL e)]at hall
  unfold jz
  rw [<-hall]
  show x.node=((x.node.toNat:Nat):Int)
  omega
 ·rw [aE (by omega)]
  rw [if_neg (aW e)]at hall
  exact hnx hlt _ _ ⟨rfl,rfl,hall⟩
theorem FE (h:Hp) (s t:Sl):(h.offS s).offS t=(h.offS t).offS s:=by
 unfold Hp.offS
 cases s.a<;>cases t.a<;>first|rfl|exact QV _ _ _
theorem Buf.beside {h:Hp} {s t:Sl} {sz sz':Nat} {cs ds:List Value} (e:Buf h s sz cs) (f:Buf (h.offS s) t sz' ds):Buf (h.offS t) s sz cs:=by
 refine⟨e.1,e.2.1,e.2.2.imp id ?_⟩
 rintro ⟨b,hb,hbb⟩
 refine⟨b,hb,?_⟩
 rcases f.2.2 with ⟨h0,_⟩|⟨c,hc,hcc⟩
 ·unfold Hp.offS;rw [h0];exact hbb
 ·have hne:c≠b:=by
   rintro rfl
   simp only [Hp.offS,hb,tQ]at hcc;cases hcc
  simp only [Hp.offS,hc,Hp.off,Hp.set]
  rw [if_neg (fun e=>hne e.symm)];exact hbb
theorem dT {m:ak} (g:ey m) (kind:Int): ∀p∈aX m.nodes kind,p<m.nodes.length:=fun p hp=>kI hp
theorem fW (l:List NodeP) (kind:Int):(aX l kind).length<=l.length:=by
 unfold aX
 refine Nat.le_trans (List.length_filter_le _ _) ?_
 rw [List.length_range];omega
theorem Gg {l:List NodeP} {ps:List Nat} {v:List Nat} (h:v∈cV l ps):v.length<=4:=by
 unfold cV at h
 obtain⟨p,_,rfl⟩:=List.mem_map.1 h
 rw [List.length_replicate];exact dW _ _
theorem GW {h:Hp} {M:MSl} {m:ak} {R:Value->Hp->Prop} (hs:aO h M m) (hm:bZ m) (g:ey m)
  (k: ∀t h',h.le h'->t.n=m.nodes.length->jf h' t (r5 m)->R (Sl.v t) h'):gH #[aR M] h R:=by
 apply tM
 refine uf_ ?_
 have hp36:=fW m.nodes 36
 have hp35:=fW m.nodes 35
 have hns:=hm.nodes
 refine ai fun b7 h1 hb7 l1 f7=>?_
 have x7:=gW f7
 repeat' (refine av ?_)
 refine jK (hs.mono l1) hm fun t1 h2 l2 p1=>⟨t1,rfl,?_⟩
 repeat' (((with_reducible apply jC);(assumption);(assumption)))
 have l12:=Hp.le_trans l1 l2
 refine pE (hs.mono l12) hm p1 (dT g 36) (by omega) fun o1 ts1 h3 c1 n1=>⟨o1,rfl,?_⟩
 have l23:=Hp.le_trans c1.le (aY _ _)
 have l13:=Hp.le_trans l2 l23
 repeat' (((with_reducible apply jC);(assumption);(assumption)))
 refine jK (hs.mono (Hp.le_trans l1 l13)) hm fun t2 h4 l4 p2=>⟨t2,rfl,?_⟩
 have l14:=Hp.le_trans l13 l4
 repeat' (((with_reducible apply jC);(assumption);(assumption)))
 refine pE (hs.mono (Hp.le_trans l1 l14)) hm p2 (dT g 35) (by omega) fun o2 ts2 h5 c2 n2=>⟨o2,rfl,?_⟩
 have l45:=Hp.le_trans c2.le (aY _ _)
 have l15:=Hp.le_trans l14 l45
 (((with_reducible apply jC);(assumption);(assumption)))
 have i1:IntSS h5 o1 ((cV m.nodes (stP m)).map VL):=(c1.ints (fun v hv=>by have:=Gg hv;omega) (by omega)).mono (Hp.le_trans l4 l45)
 have i2:IntSS h5 o2 ((cV m.nodes (inP m)).map VL):=c2.ints (fun v hv=>by have:=Gg hv;omega) (by omega)
 exact Fs (hs.mono (Hp.le_trans l1 l15)) hm g.ok g.nl i1 c1.buf.2.1 (uX g.ok (k9 _ _)) i2 c2.buf.2.1 (uX g.ok (k9 _ _)) fun t h6 l6 hn hpv=>⟨t,rfl,k t h6 (Hp.le_trans l1 (Hp.le_trans l15 l6)) hn hpv⟩
theorem Fm (l:List NodeP) (a b:List Nat):cV l (a++b)=cV l a++cV l b:=by simp [cV]
structure ZS (l:List NodeP) (g:Hp) (ps:List Nat) (ts:List Sl):Prop where
 len:ts.length=ps.length
 val: ∀(j:Nat) (t:Sl),ts[j]?=some t->IntS g t (VL ((cV l ps).getD j []))
theorem ZS.mono {l:List NodeP} {g g':Hp} {ps:List Nat} {ts:List Sl} (le:g.le g') (e:ZS l g ps ts):ZS l g' ps ts:=⟨e.len,fun j t h=>(e.val j t h).mono le⟩
theorem ZS.snoc {l:List NodeP} {g:Hp} {ps:List Nat} {ts:List Sl} {p:Nat} {t:Sl} (e:ZS l g ps ts) (h:IntS g t (VL (List.replicate (aJ l p) 0))):ZS l g (ps++ [p]) (ts++ [t]):=by
 refine⟨by simp [e.len],fun j u hu=>?_⟩
 rw [Fm]
 by_cases hj:j<ts.length
 ·rw [List.getElem?_append_left hj]at hu
  rw [fO (by rw [kK,<-e.len];exact hj)]
  exact e.val j u hu
 ·have hju:=get_lt hu
  simp at hju
  have hje:j=ts.length:=by omega
  subst hje
  rw [List.getElem?_append_right (Nat.le_refl _),Nat.sub_self]at hu
  simp at hu;subst hu
  rw [List.getD_eq_getElem?_getD,List.getElem?_append_right (by rw [kK,e.len];exact Nat.le_refl _),kK,e.len,Nat.sub_self]
  exact h
theorem ZS.ints {l:List NodeP} {g h:Hp} {ps:List Nat} {ts:List Sl} {s:Sl} (e:ZS l g ps ts) (le:g.le h) (hb:Buf h s 1 (ts.map Sl.v)) (hn:s.n<=1048576):IntSS h s ((cV l ps).map VL):=by
 refine⟨ts,by rw [List.length_map,kK];exact e.len,hb.slc_of (by omega),fun i h1 h2=>?_⟩
 have:=(e.val i _ (List.getElem?_eq_getElem h1)).mono le
 have hi:i<(cV l ps).length:=by rw [List.length_map]at h2;exact h2
 rw [List.getElem_map]
 rwa [List.getD_eq_getElem?_getD,List.getElem?_eq_getElem hi]at this
theorem GP {h:Hp} {M:MSl} {m:ak} {R:Value->Hp->Prop} (hs:aO h M m) (hm:bZ m) (g:ey m)
  (k: ∀t h',h.le h'->t.n=m.nodes.length->jf h' t (r5 m)->R (Sl.v t) h'):mr #[aR M] h R:=by
 apply CN
 refine uf_ ?_
 have hn:=hs.nodes.len
 have hns:=hm.nodes
 refine ai fun b7 h1 hb7 l1 f7=>?_
 refine aw m.nodes.length (fun i vs h'=> ∃(ts us:List Sl) (sS sI:Sl),vs= [.pointer (some ⟨b7,0,none⟩),sS.v,sI.v,I i]/\h.le ((h'.offS sS).offS sI)/\((h'.offS sS).offS sI) b7=some (.inl ⟨ax M,5,false⟩)/\
  Buf h' sS 1 (ts.map Sl.v)/\Buf (h'.offS sS) sI 1 (us.map Sl.v)/\ZS m.nodes ((h'.offS sS).offS sI) (aX (m.nodes.take i) 36) ts/\ZS m.nodes ((h'.offS sS).offS sI) (aX (m.nodes.take i) 35) us/\sS.n<=i/\sI.n<=i)
  ⟨[], [],⟨none,0,0⟩,⟨none,0,0⟩,rfl,l1,f7,em _ _,em _ _,⟨rfl,fun j t ht=>by simp at ht⟩,⟨rfl,fun j t ht=>by simp at ht⟩,Nat.le_refl _,Nat.le_refl _⟩ ?_
 clear f7 l1 hb7 h1
 rintro i _ h1 next hi ⟨ts,us,sS,sI,rfl,l1,f7,bS,bI,zS,zI,nS,nI⟩ hnx
 have lo:=Hp.le_trans (aY (h1.offS sS) sI) (aY h1 sS)
 have l1':=Hp.le_trans l1 lo
 have f7':=lo _ _ f7
 refine⟨_,_,sS,sI,_,rfl,?_⟩
 repeat' (refine av ?_)
 by_cases hlt:i<m.nodes.length
 rotate_left
 ·have hie:i=m.nodes.length:=by omega
  subst hie
  refine aG (by simp;omega) ?_
  repeat' (refine av ?_)
  rw [List.take_of_length_le (Nat.le_refl _)]at zS zI
  have i1:=zS.ints lo bS (by omega)
  have i2:=zI.ints lo (bI.mono (aY _ _)) (by omega)
  exact mM (hs.mono l1') hm g.ok g.nl i1 (uX g.ok (k9 _ _)) i2 (uX g.ok (k9 _ _)) fun t h6 l6 hn hpv _=>⟨t,rfl,k t h6 (Hp.le_trans l1' l6) hn hpv⟩
 refine aK (by simp;omega) ?_
 obtain⟨n,hni⟩: ∃n,m.nodes[i]?=some n:=⟨_,List.getElem?_eq_getElem hlt⟩
 (refine av ?_)
 obtain⟨bn,on,han,e0,e1,e2,e3,e4,e5,e6,e7,e8⟩:=(hs.nodes.mono l1').at hni
 have hsa:az m.nodes ((i:Nat):Int)=n.sort:=by unfold az;rw [Int.toNat_natCast,hni]
 refine⟨bn,on,han,by omega,by omega,_,e6,_,e7,?_⟩
 refine fz ⟨_,rfl,?_⟩
 have hce:cy ⟨n.sort.idx,n.sort.wid⟩=aJ m.nodes i:=by unfold aJ;rw [hsa]
 rw [hce]
 have hc4:=dW m.nodes i
 refine⟨by omega,by omega,by omega,by omega,?_⟩
 refine ai fun b33 h2 hb33 l2 f33=>?_
 rw [Int.toNat_natCast,Nat.mul_one,cc]at f33
 refine ai fun b35 h3 hb35 l3 f35'=>?_
 have n33:=fresh_ne hb35 f33
 have b35n:=aC l2 hb35
 replace f33:=l3 _ _ f33
 (with_reducible apply bR);(exact f35');(exact Hp.le_trans l2 l3);(exact b35n);(exact Nat.le_refl 1)
 intro h4 f35 kp l4
 replace f33:=bX kp n33 f33
 have f35v:h4 b35=some (.inl ⟨[(⟨some ⟨b33,0,none⟩,aJ m.nodes i,aJ m.nodes i⟩:Sl).v],1,false⟩):=f35
 have hz4:IntS h4 ⟨some ⟨b33,0,none⟩,aJ m.nodes i,aJ m.nodes i⟩ (VL (List.replicate (aJ m.nodes i) 0)):=by
  refine⟨by dsimp only;omega,by simp [ca], .inr ⟨b33,0,rfl,?_⟩⟩
  have hc:(VL (List.replicate (aJ m.nodes i) 0)).map I=List.replicate (aJ m.nodes i) (I 0):=by simp [VL]
  rw [hc];exact aD f33
 clear f35 f35' kp l2 l3 hb33 hb35 h2 h3
 have bS4:=bS.mono l4
 have bI4:=bI.mono (bQ sS l4)
 have l4o:=bQ sI (bQ sS l4)
 have hz4o:IntS ((h4.offS sS).offS sI) ⟨some ⟨b33,0,none⟩,aJ m.nodes i,aJ m.nodes i⟩ (VL (List.replicate (aJ m.nodes i) 0)):=(hz4.offL bS4).offL bI4
 have f35o:((h4.offS sS).offS sI) b35=some (.inl ⟨[(⟨some ⟨b33,0,none⟩,aJ m.nodes i,aJ m.nodes i⟩:Sl).v],1,false⟩):=by
  have d: ∀{s:Sl} {gg:Hp} {cs:List Value},gg.le h1->Buf gg s 1 cs-> ∀a,s.a=some a->a.block≠b35:=by
   intro s gg cs hg hb a ha e
   rcases hb.2.2 with ⟨h0,_⟩|⟨c,hc,hcb⟩
   ·rw [h0]at ha;cases ha
   ·rw [hc]at ha;cases ha
    subst e
    have:=hg _ _ hcb
    rw [b35n]at this;cases this
  rw [BF (d (aY _ _) bI),BF (d (Hp.le_refl _) bS)];exact f35v
 have hp36:=jy (kind:=36) hni
 have hp35:=jy (kind:=35) hni
 have f7'':=l4 _ _ f7'
 repeat' (refine av ?_)
 refine⟨bn,on,han,by omega,by omega,_,l4.cell e0,?_⟩
 refine ar (fun J=> ∀(sS':Sl) (ts':List Sl) (h5:Hp),((h4.offS sS).offS sI).le ((h5.offS sS').offS sI)->Buf h5 sS' 1 (ts'.map Sl.v)->Buf (h5.offS sS') sI 1 (us.map Sl.v)->ZS m.nodes ((h5.offS sS').offS sI) (aX (m.nodes.take (i+1)) 36) ts'->sS'.n<=i+1->J sS' h5) ?_ (fun J hJ=>?_)
 ·intro sS' ts' h5 l5 bS5 bI5 zS5 nS5
  have lo5:=Hp.le_trans (aY (h5.offS sS') sI) (aY h5 sS')
  have l15:=Hp.le_trans l4o l5
  have g7:=lo5 _ _ (l5 _ _ (l4o _ _ f7))
  have g35:=lo5 _ _ (l5 _ _ f35o)
  have e0':=(Hp.le_trans (Hp.le_trans l1 l15) lo5)
  obtain⟨bn',on',han',q0,_⟩:=(hs.nodes.mono e0').at hni
  (refine av ?_)
  refine⟨bn',on',han',by omega,by omega,_,q0,?_⟩
  refine ad (fun e=>?_) (fun e=>?_)
  ·rw [if_pos (bL e)]at hp35
   (refine av ?_)
   refine ai fun b63 h6 hb63 l6 f63=>?_
   have l6o:=bQ sS' l6
   have l6o2:=bQ sI (bQ sS' l6)
   have bS6:=bS5.mono l6
   have bI6:=bI5.mono l6o
   have bS6':=bS6.beside bI6
   refine da (bI5.mono (Hp.le_trans l6o (aY _ _))) (by omega) (by omega) (by omega) ⟨b63,0,rfl,aD f63⟩ (by simp) rfl ?_
   intro s' h7 hs'n hbuf' l7 _
   rw [aE (by omega)]
   have bS7:Buf (h7.offS s') sS' 1 (ts'.map Sl.v):=bS6'.mono l7
   have bI7:Buf (h7.offS sS') s' 1 ((us++ [(⟨some ⟨b33,0,none⟩,aJ m.nodes i,aJ m.nodes i⟩:Sl)]).map Sl.v):=by
    rw [List.map_append];exact hbuf'.beside bS7
   have l57:((h5.offS sS').offS sI).le ((h7.offS sS').offS s'):=by
    have:=Hp.le_trans l6o2 (show ((h6.offS sS').offS sI).le ((h7.offS sS').offS s') by
     rw [FE h6,FE h7];exact bQ sS' l7)
    exact this
   have l17:=Hp.le_trans l15 l57
   refine hnx hlt _ _ ⟨ts',_,sS',s',rfl,Hp.le_trans l1 l17,l17 _ _ f7,bS7.mono (aY _ _),bI7,zS5.mono l57,?_,nS5,by omega⟩
   rw [hp35]
   exact(zI.mono l17).snoc (hz4o.mono (Hp.le_trans l5 l57))
  ·rw [if_neg (aW e),List.append_nil]at hp35
   rw [aE (by omega)]
   refine hnx hlt _ _ ⟨ts',us,sS',sI,rfl,Hp.le_trans l1 l15,l15 _ _ f7,bS5,bI5,zS5,?_,nS5,by omega⟩
   rw [hp35];exact zI.mono l15
 ·refine ad (fun e=>?_) (fun e=>?_)
  ·rw [if_pos (bL e)]at hp36
   have f35c:=(Hp.le_trans (aY (h4.offS sS) sI) (aY h4 sS)) _ _ f35o
   (refine av ?_)
   refine ai fun b48 h6 hb48 l6 f48=>?_
   have l6o:=bQ sS l6
   have l6o2:=bQ sI l6o
   refine da (bS4.mono l6) (by omega) (by omega) (by omega) ⟨b48,0,rfl,aD f48⟩ (by simp) rfl ?_
   intro s' h7 hs'n hbuf' l7 _
   have l47:=Hp.le_trans l6o2 (bQ sI l7)
   have bI7:Buf (h7.offS s') sI 1 (us.map Sl.v):=bI4.mono (Hp.le_trans l6o l7)
   refine hJ s' (ts++ [(⟨some ⟨b33,0,none⟩,aJ m.nodes i,aJ m.nodes i⟩:Sl)]) h7 l47 (by rw [List.map_append];exact hbuf') bI7 ?_ (by omega)
   rw [hp36]
   exact(zS.mono (Hp.le_trans l4o l47)).snoc (hz4o.mono l47)
  ·rw [if_neg (aW e),List.append_nil]at hp36
   refine hJ sS ts h4 (Hp.le_refl _) bS4 bI4 ?_ (by omega)
   rw [hp36];exact zS.mono l4o
theorem Buf.fresh_ne {h:Hp} {s:Sl} {sz b:Nat} {cs:List Value} (e:Buf h s sz cs) (hb:h b=none): ∀a,s.a=some a->a.block≠b:=by
 intro a ha hab
 rcases e.2.2 with ⟨h0,_⟩|⟨c,hc,hcb⟩
 ·rw [h0]at ha;cases ha
 ·rw [hc]at ha;cases ha
  subst hab
  rw [hb]at hcb;cases hcb
theorem Buf.offS_new {h h':Hp} {s:Sl} {sz b:Nat} {cs:List Value} {x:Blk} (e:Buf h s sz cs) (hb:h b=none) (f:h' b=some x):(h'.offS s) b=some x:=by
 rw [BF (e.fresh_ne hb)];exact f
theorem Buf.sub_le {h h':Hp} {s:Sl} {sz:Nat} {cs:List Value} (e:Buf (h'.sub h) s sz cs) (l:h.le h'):h.le (h'.offS s):=by
 unfold Hp.offS
 rcases e.2.2 with ⟨h0,_⟩|⟨b,ha,hb⟩
 ·rw [h0];exact l
 ·rw [ha]
  refine sA ?_ l
  cases hx:h b with
  |none=>rfl
  |some x=>rw [kb hx]at hb;cases hb
theorem Buf.sub_buf {h h':Hp} {s:Sl} {sz:Nat} {cs:List Value} (e:Buf (h'.sub h) s sz cs):Buf h' s sz cs:=e.mono (Go.Lead.sub_le _ _)
theorem Buf.wr {h:Hp} {out x:Sl} {ts:List Sl} {q:Nat} {P:Hp->Prop} (e:Buf h out 1 (ts.map Sl.v)) (hq:q<ts.length)
  (k: ∀h',Buf h' out 1 ((ts.set q x).map Sl.v)->h'.offS out=h.offS out->P h'):
  ∃b o:Nat,out.a=some (Addr.mk b o none)/\(0:Int)<=(q:Int)/\(q:Int)<((out.n:Nat):Int)/\
   ∃(cs:List Value) (z:Nat),h b=some (.inl ⟨cs,z,false⟩)/\(o+Int.toNat (q:Int)*1)+1<=List.length cs/\ck (h.row b (cM cs (o+Int.toNat (q:Int)*1) [x.v]) z) P:=by
 have hl:=e.1
 rw [List.length_map]at hl
 rcases e.2.2 with ⟨_,h0,_⟩|⟨b,ha,hb⟩
 ·omega
 ·refine⟨b,0,ha,by omega,by omega,_,_,hb,by rw [List.length_map,Int.toNat_natCast];omega,?_⟩
  rw [Mk]
  refine k _ ⟨by rw [List.length_map,List.length_set];omega,e.2.1, .inr ⟨b,ha,?_⟩⟩ ?_
  ·rw [bG,bT,Int.toNat_natCast,Nat.zero_add,Nat.mul_one,List.map_set]
  ·unfold Hp.offS;rw [ha];exact rZ _ _ _ _
theorem H7 (v:List Nat) (i x:Nat):(VL (v++List.replicate i x)).map I++ [I (x:Int)]=(VL (v++List.replicate (i+1) x)).map I:=by
 rw [List.replicate_succ',<-List.append_assoc,rr (v++List.replicate i x),List.map_append];rfl
theorem HU {h:Hp} {s:Sl} {v:List Nat} {i w:Int} {R:Value->Hp->Prop} (hs:IntS h s (VL v)) (h0:0<v.length) (hl:v.length<=4)
  (k: ∀t h',h.le h'->IntS h' t (VL (uF (cy ⟨i,w⟩) v))->R (.agg #[Sl.v t]) h'):kh #[.agg #[I i,I w], .agg #[s.v]] h R:=by
 apply Ew
 refine uf_ ?_
 refine ai fun b5 h1 hb5 l1 f5=>?_
 refine ai fun b7 h2 hb7 l2 f7=>?_
 replace f5:=l2 _ _ f5
 have l02:=Hp.le_trans l1 l2
 have b7n:=aC l1 hb7
 refine ai fun b9 h3 hb9 l3 f9=>?_
 have n59:=fresh_ne hb9 f5
 have n79:=fresh_ne hb9 f7
 have b9n:=aC l02 hb9
 replace f5:=l3 _ _ f5
 replace f7:=l3 _ _ f7
 have l03:=Hp.le_trans l02 l3
 (refine av ?_)
 refine lF (hs.mono l03) (by rw [ca];omega) fun c h4 l4 hb4=>⟨c,rfl,?_⟩
 have l4o:=hb4.sub_le l4
 have hb4':=hb4.sub_buf
 refine ai fun b16 h5 hb16 l5 f16'=>?_
 have b16n:=aC l4 hb16
 have l5o:=Hp.le_trans l4o (bQ c l5)
 have f16o:=hb4'.offS_new hb16 f16'
 (with_reducible apply sc);(exact f16o);(exact l5o);(exact b16n);(exact Nat.le_refl 1)
 intro h6 f16 kp l6 hbk
 have hbuf:=hbk _ _ (hb4'.mono l5)
 have hcn:=hbuf.1
 rw [List.length_map,ca]at hcn
 have hc4:=rY ⟨i,w⟩
 refine aw (cy ⟨i,w⟩-v.length) (fun q vs h'=> ∃sl:Sl,vs= [.pointer (some ⟨b5,0,none⟩), .pointer (some ⟨b7,0,none⟩), .pointer (some ⟨b9,0,none⟩), .pointer (some ⟨b16,0,none⟩)]/\h3.le (h'.offS sl)/\
  (h'.offS sl) b16=some (.inl ⟨[sl.v],1,false⟩)/\sl.n=v.length+q/\Buf h' sl 1 ((VL (v++List.replicate q (v.getD 0 0))).map I)) ⟨c,rfl,l6,f16,by omega,by simpa using hbuf⟩ ?_
 clear hbuf hbk kp l6 f16 f16o l5o f16' l5 hb16 hb4' l4o hb4 l4 hcn h4 h5 h6
 rintro q _ h4 next hq ⟨sl,rfl,l4,f16,hsl,hbuf⟩ hnx
 have lo:=aY h4 sl
 have l4':=Hp.le_trans l4 lo
 have g5:=l4' _ _ f5
 have g7:=l4' _ _ f7
 have g16:=lo _ _ f16
 refine⟨_,_,_,_,_,_,_,_,rfl,?_⟩
 repeat' (refine av ?_)
 refine jX ⟨_,rfl,rfl,?_⟩
 by_cases hlt:q<cy ⟨i,w⟩-v.length
 ·refine aK (by simp;omega) ?_
  repeat' (refine av ?_)
  obtain⟨b,o,ha,hc,hln⟩:=((hs.mono l03).mono l4').elt (i:=0) h0
  refine⟨b,o,ha,by omega,by omega,_,hc,?_⟩
  have x16:=gW g16
  refine ai fun b48 h5 hb48 l5 f48=>?_
  (((with_reducible apply jC);(assumption);(assumption)))
  have l5o:=bQ sl l5
  refine da (hbuf.mono l5) (by omega) (by omega) (by omega) ⟨b48,0,rfl,aD f48⟩ (by simp) rfl ?_
  intro s' h6 hs'n hbuf' l6 _
  have l46:=Hp.le_trans l5o l6
  (with_reducible apply sc);(exact l46 _ _ f16);(exact Hp.le_trans l4 l46);(exact b16n);(exact Nat.le_refl 1)
  intro h7 e16 kp l7 hbk
  refine hnx hlt _ _ ⟨s',rfl,l7,e16,by omega,hbk _ _ ?_⟩
  rw [<-H7];exact hbuf'
 ·have hqe:q=cy ⟨i,w⟩-v.length:=by omega
  subst hqe
  refine aG (by simp;omega) ?_
  repeat' (refine av ?_)
  have f9o:(h4.offS sl) b9=some (.inl ⟨[.slice none 0 0],1,false⟩):=l4 _ _ f9
  (with_reducible apply sc);(exact f9o);(exact Hp.le_trans l03 l4);(exact b9n);(exact Nat.le_refl 1)
  intro h7 e9 kp l7 hbk
  have e9':=aY _ _ _ _ e9
  refine⟨sl,by rw [am e9'];rfl,k sl h7 (Hp.le_trans l7 (aY _ _)) ((hbk _ _ hbuf).slc_of (by omega))⟩
theorem Il {h:Hp} {s:Sl} {v:List Nat} {c:Nat} {R:Value->Hp->Prop} (hs:IntS h s (VL v)) (h0:0<v.length) (hl:v.length<=4) (hc4:c<=4)
  (k: ∀t h',h.le h'->IntS h' t (VL (uF c v))->R (.agg #[Sl.v t]) h'):mX #[.agg #[s.v],I c] h R:=by
 apply ED
 refine uf_ ?_
 refine ai fun b7 h2 hb7 l2 f7=>?_
 refine ai fun b9 h3 hb9 l3 f9=>?_
 have n79:=fresh_ne hb9 f7
 have b9n:=aC l2 hb9
 replace f7:=l3 _ _ f7
 have l03:=Hp.le_trans l2 l3
 (refine av ?_)
 refine nv (hs.mono l03) (by rw [ca];omega) fun c0 h4 l4 hb4=>⟨c0,rfl,?_⟩
 have l4o:=hb4.sub_le l4
 have hb4':=hb4.sub_buf
 refine ai fun b16 h5 hb16 l5 f16'=>?_
 have b16n:=aC l4 hb16
 have l5o:=Hp.le_trans l4o (bQ c0 l5)
 have f16o:=hb4'.offS_new hb16 f16'
 (with_reducible apply sc);(exact f16o);(exact l5o);(exact b16n);(exact Nat.le_refl 1)
 intro h6 f16 kp l6 hbk
 have hbuf:=hbk _ _ (hb4'.mono l5)
 have hcn:=hbuf.1
 rw [List.length_map,ca]at hcn
 refine aw (c-v.length) (fun q vs h'=> ∃sl:Sl,vs= [I c, .pointer (some ⟨b7,0,none⟩), .pointer (some ⟨b9,0,none⟩), .pointer (some ⟨b16,0,none⟩)]/\h3.le (h'.offS sl)/\
  (h'.offS sl) b16=some (.inl ⟨[sl.v],1,false⟩)/\sl.n=v.length+q/\Buf h' sl 1 ((VL (v++List.replicate q (v.getD 0 0))).map I)) ⟨c0,rfl,l6,f16,by omega,by simpa using hbuf⟩ ?_
 clear hbuf hbk kp l6 f16 f16o l5o f16' l5 hb16 hb4' l4o hb4 l4 hcn h4 h5 h6
 rintro q _ h4 next hq ⟨sl,rfl,l4,f16,hsl,hbuf⟩ hnx
 have lo:=aY h4 sl
 have l4':=Hp.le_trans l4 lo
 have g7:=l4' _ _ f7
 have g16:=lo _ _ f16
 refine⟨_,_,_,_,_,_,_,rfl,?_⟩
 (refine av ?_)
 by_cases hlt:q<c-v.length
 ·refine aK (by simp;omega) ?_
  repeat' (refine av ?_)
  obtain⟨b,o,ha,hc,hln⟩:=((hs.mono l03).mono l4').elt (i:=0) h0
  refine⟨b,o,ha,by omega,by omega,_,hc,?_⟩
  have x16:=gW g16
  refine ai fun b48 h5 hb48 l5 f48=>?_
  (((with_reducible apply jC);(assumption);(assumption)))
  have l5o:=bQ sl l5
  refine da (hbuf.mono l5) (by omega) (by omega) (by omega) ⟨b48,0,rfl,aD f48⟩ (by simp) rfl ?_
  intro s' h6 hs'n hbuf' l6 _
  have l46:=Hp.le_trans l5o l6
  (with_reducible apply sc);(exact l46 _ _ f16);(exact Hp.le_trans l4 l46);(exact b16n);(exact Nat.le_refl 1)
  intro h7 e16 kp l7 hbk
  refine hnx hlt _ _ ⟨s',rfl,l7,e16,by omega,hbk _ _ ?_⟩
  rw [<-H7];exact hbuf'
 ·have hqe:q=c-v.length:=by omega
  subst hqe
  refine aG (by simp;omega) ?_
  repeat' (refine av ?_)
  have f9o:(h4.offS sl) b9=some (.inl ⟨[.slice none 0 0],1,false⟩):=l4 _ _ f9
  (with_reducible apply sc);(exact f9o);(exact Hp.le_trans l03 l4);(exact b9n);(exact Nat.le_refl 1)
  intro h7 e9 kp l7 hbk
  have e9':=aY _ _ _ _ e9
  refine⟨sl,by rw [am e9'];rfl,k sl h7 (Hp.le_trans l7 (aY _ _)) ((hbk _ _ hbuf).slc_of (by omega))⟩
def xi (m:ak) (v:List (List Nat)) (j p:Nat):List Nat:=((cm (m.nexts.take j) p).map fun k=>v.getD k []).getD (List.replicate (aJ m.nodes p) 0)
theorem Je (m:ak) (v:List (List Nat)) (p:Nat):xi m v m.nexts.length p=(km m v p).getD (List.replicate (aJ m.nodes p) 0):=by
 unfold xi km;rw [List.take_length]
theorem N4 {m:ak} (g:ey m) (v:List (List Nat)) {j:Nat} {b:BindP} (hb:m.nexts[j]?=some b) (p:Nat):xi m v (j+1) p=if b.state=(p:Int)then v.getD b.node.toNat []else xi m v j p:=by
 unfold xi
 rw [Dr (Ar g.twice).2.2 hb]
 split<;>rfl
theorem TP {m:ak} (g:ey m) {v:List (List Nat)} (a:yG m v) {j p:Nat}:(xi m v j p).length<=4:=by
 unfold xi
 cases hb:cm (m.nexts.take j) p with
 |none=>simp only [Option.map_none,Option.getD_none,List.length_replicate];exact dW _ _
 |some k=>
  simp only [Option.map_some,Option.getD_some]
  obtain⟨b,hm,_,rfl⟩:=mJ hb
  have hp:=fk.1 (jE (g.nex b (List.mem_of_mem_take hm))).2.1
  have:=rK g.ok (show b.node.toNat<m.nodes.length by omega) (a.fit b.node.toNat (by omega) (by omega))
  rw [this.1];exact dW _ _
theorem Ci (m:ak) (v:List (List Nat)) {i p:Nat} (h:(stP m)[i]?=some p):(gi m v).getD i []=xi m v m.nexts.length p:=by
 rw [Je]
 unfold gi lk
 rw [List.getD_eq_getElem?_getD,List.getElem?_map,h];rfl
theorem ll {m:ak} (g:ey m) (kind:Int):(aX m.nodes kind).length<=1048576:=by have:=fW m.nodes kind;have:=g.nl;omega
theorem I2 {h:Hp} {M:MSl} {m:ak} {s:Sl} {v:List (List Nat)} {R:Value->Hp->Prop} (hs:aO h M m) (hm:bZ m) (g:ey m) (hpv:jf h s v) (a:yG m v)
  (k: ∀out h',h.le h'->IntSS h' out ((gi m v).map VL)->R (Sl.v out) h'):gU #[aR M,s.v] h R:=by
 apply vR
 refine uf_ ?_
 have hp36:(stP m).length<=m.nodes.length:=fW m.nodes 36
 have hnl:=g.nl
 have hxl:=g.xl
 have hxn:=hs.nexts.len
 refine ai fun b8 h1 hb8 l1 f8=>?_
 repeat' (refine av ?_)
 refine jK (hs.mono l1) hm fun pt h2 l2 hp=>⟨pt,rfl,?_⟩
 replace f8:=l2 _ _ f8
 have l02:=Hp.le_trans l1 l2
 repeat' (refine av ?_)
 refine pE (hs.mono l02) hm hp (dT g 36) (ll g 36) fun out ts h3 c1 hon=>⟨out,rfl,?_⟩
 have hpn:pt.n=(stP m).length:=by have:=hp.len;rw [ca]at this;exact this
 have f83:=aY _ _ _ _ (c1.le _ _ f8)
 (refine av ?_)
 have hs2:=hs.mono l02
 have hpv2:=hpv.mono l02
 refine aw m.nexts.length (fun j vs h'=> ∃ts:List Sl,vs= [s.v,pt.v,out.v,M.nex.v,I M.nex.n,I j]/\h2.le (h'.offS out)/\Buf h' out 1 (ts.map Sl.v)/\ts.length=(stP m).length/\
  ∀(i p:Nat) (t:Sl),(stP m)[i]?=some p->ts[i]?=some t->IntS (h'.offS out) t (VL (xi m v j p))) ⟨ts,rfl,c1.le,c1.buf,by rw [c1.len,kK],fun i p t hp ht=>?_⟩ ?_
 ·obtain⟨b,e1,e2,e3⟩:=c1.row i t ht
  have hz:(cV m.nodes (stP m)).getD i []=xi m v 0 p:=by
   unfold cV xi
   rw [List.getD_eq_getElem?_getD,List.getElem?_map,hp];rfl
  rw [hz]at e1 e3
  rw [e1]
  have:=TP g a (j:=0) (p:=p)
  exact⟨by dsimp only;omega,by simp [ca], .inr ⟨b,0,rfl,aD e3⟩⟩
 clear c1 f83 ts h3
 rintro j _ h3 next hj ⟨ts,rfl,l3,hbuf,htl,hts⟩ hnx
 have lo:=aY h3 out
 have l23:=Hp.le_trans l3 lo
 refine⟨s,pt,out,M.nex,_,_,rfl,?_⟩
 by_cases hlt:j<m.nexts.length
 rotate_left
 ·have hje:j=m.nexts.length:=by omega
  subst hje
  refine aG (by simp;omega) (k out h3 (Hp.le_trans l02 l23) ⟨ts,by unfold gi lk;rw [List.length_map,List.length_map];exact htl,hbuf.slc_of (by rw [hon];have:=ll g 36;omega),fun i h1 h2=>?_⟩)
  have hi:i<(stP m).length:=by omega
  have hpi:(stP m)[i]?=some (stP m)[i]:=List.getElem?_eq_getElem hi
  have:=(hts i _ _ hpi (List.getElem?_eq_getElem h1)).mono lo
  rw [<-Ci m v hpi]at this
  rw [List.getElem_map]
  rwa [List.getD_eq_getElem?_getD,List.getElem?_eq_getElem (by unfold gi lk;simp;exact hi)]at this
 refine aK (by simp;omega) ?_
 obtain⟨bd,hbd⟩: ∃bd,m.nexts[j]?=some bd:=⟨_,List.getElem?_eq_getElem hlt⟩
 obtain⟨q1,q2,q3,q4⟩:=jE (g.nex bd (List.mem_of_getElem? hbd))
 have q2':=fk.1 q2
 obtain⟨bx,ox,hax,cx1,cx2⟩:=(hs2.mono l23).nexts.at hbd
 refine⟨bx,ox,hax,by omega,by omega,_,cx1,_,cx2,?_⟩
 refine ai fun b48 h4 hb48 l4 f48'=>?_
 (with_reducible apply bR);(exact f48');(exact l4);(exact hb48);(exact Nat.le_refl 2)
 intro h5 f48 kp l5
 have l5o:=bQ out l5
 have f48o:=hbuf.offS_new hb48 f48
 clear f48' kp l4
 refine aw (stP m).length (fun q vs h'=> ∃ts:List Sl,vs= [s.v,pt.v,out.v, .pointer (some ⟨b48,0,none⟩),M.nex.v,I M.nex.n,I j,pt.v,I pt.n,I q]/\h2.le (h'.offS out)/\(h'.offS out) b48=some (.inl ⟨[I bd.state,I bd.node],2,false⟩)/\Buf h' out 1 (ts.map Sl.v)/\ts.length=(stP m).length/\
  ∀(i p:Nat) (t:Sl),(stP m)[i]?=some p->ts[i]?=some t->IntS (h'.offS out) t (VL (if i<q then xi m v (j+1) p else xi m v j p)))
  ⟨ts,rfl,Hp.le_trans l3 l5o,f48o,hbuf.mono l5,htl,fun i p t hp ht=>by rw [if_neg (by omega)];exact(hts i p t hp ht).mono l5o⟩ ?_
 clear f48o l5o l5 f48 hb48 hbuf htl hts ts l23 lo l3 hax cx1 cx2 h3 h4 h5
 rintro q _ h3 next2 hq ⟨ts,rfl,l3,f48,hbuf,htl,hts⟩ hnx2
 have lo:=aY h3 out
 have l23:=Hp.le_trans l3 lo
 have g48:=lo _ _ f48
 refine⟨s,pt,out,_,_,_,_,_,pt,_,_,rfl,?_⟩
 by_cases hlq:q<(stP m).length
 rotate_left
 ·refine aG (by simp;omega) ?_
  rw [aE (by omega)]
  refine hnx hlt _ _ ⟨ts,rfl,l3,hbuf,htl,fun i p t hp ht=>?_⟩
  have:=hts i p t hp ht
  rwa [if_pos (by have:=get_lt hp;omega)]at this
 refine aK (by simp;omega) ?_
 obtain⟨p,hpq⟩: ∃p,(stP m)[q]?=some p:=⟨_,List.getElem?_eq_getElem hlq⟩
 obtain⟨bp,op,hap,hcp⟩:=(hp.mono l23).get (gF hpq)
 refine ar (fun J=> ∀(ts':List Sl) (h':Hp),h2.le (h'.offS out)->(h'.offS out) b48=some (.inl ⟨[I bd.state,I bd.node],2,false⟩)->Buf h' out 1 (ts'.map Sl.v)->ts'.length=(stP m).length->
  (∀(i p:Nat) (t:Sl),(stP m)[i]?=some p->ts'[i]?=some t->IntS (h'.offS out) t (VL (if i<q+1 then xi m v (j+1) p else xi m v j p)))->J h') ?_ (fun J hJ=>?_)
 ·intro ts' h' a1 a2 a3 a4 a5
  rw [aE (by omega)]
  exact hnx2 hlq _ _ ⟨ts',rfl,a1,a2,a3,a4,a5⟩
 refine⟨bp,op,hap,by omega,by omega,_,hcp,?_⟩
 (refine av ?_)
 have hst:=N4 g v hbd p
 refine ad (fun e=>?_) (fun e=>?_)
 ·rw [if_pos (bL e).symm]at hst
  (refine av ?_)
  obtain⟨bv,ov,t,hav,hvn,hcv,ht⟩:=(hpv2.mono l23).at q2'.1 (by rw [a.len];exact q2'.2)
  refine⟨bv,ov,hav,q2'.1,hvn,t,hcv,?_⟩
  refine hbuf.wr (x:=t) (by omega) fun h4 hbuf' ho=>?_
  refine hJ _ h4 (by rw [ho];exact l3) (by rw [ho];exact f48) hbuf' (by rw [List.length_set];exact htl) fun i p' u hp' hu=>?_
  rw [ho]
  by_cases hiq:i=q
  ·subst hiq
   rw [hpq]at hp';cases hp'
   rw [List.getElem?_set_self (by omega)]at hu
   obtain rfl:=Option.some.inj hu
   rw [if_pos (by omega),hst]
   obtain⟨bv',ov',t',hav',_,hcv',ht'⟩:=(hpv2.mono l3).at q2'.1 (by rw [a.len];exact q2'.2)
   rw [hav]at hav';cases hav'
   have:=lo.cell hcv'
   rw [hcv]at this
   have htt:t=t':=by
    rcases t with ⟨ta,tn,tc⟩;rcases t' with ⟨ta',tn',tc'⟩
    simpa using this
   rw [htt];exact ht'
  ·rw [List.getElem?_set_ne (fun e=>hiq e.symm)]at hu
   have:=hts i p' u hp' hu
   by_cases h1:i<q
   ·rw [if_pos h1]at this;rw [if_pos (by omega)];exact this
   ·rw [if_neg h1]at this;rw [if_neg (by omega)];exact this
 ·rw [if_neg (fun e'=>aW e e'.symm)]at hst
  refine hJ ts h3 l3 f48 hbuf htl fun i p' u hp' hu=>?_
  have:=hts i p' u hp' hu
  by_cases hiq:i=q
  ·subst hiq
   rw [hpq]at hp';cases hp'
   rw [if_neg (by omega)]at this
   rw [if_pos (by omega),hst];exact this
  ·by_cases h1:i<q
   ·rw [if_pos h1]at this;rw [if_pos (by omega)];exact this
   ·rw [if_neg h1]at this;rw [if_neg (by omega)];exact this
theorem LA {m:ak} (g:ey m) {p k:Nat} (h:cm m.nexts p=some k):k<m.nodes.length:=by
 obtain⟨b,hb,_,rfl⟩:=mJ h
 have:=fk.1 (jE (g.nex b hb)).2.1
 omega
def DJ (m:ak) (s i:Nat):Nat:=dL m.nodes (stP m) (gi m (dx m s i))
theorem nZ {m:ak} (kind:Int) (code:Nat) (g:ey m):vW m.nodes kind (hZ m.nodes (aX m.nodes kind) code):=Dz g.ok kind code
theorem HK {h:Hp} {M:MSl} {m:ak} {st inp:Nat} {R:Value->Hp->Prop} (hs:aO h M m) (hm:bZ m) (g:ey m) (h1:st<=1048576) (h2:inp<=1048576)
  (k:R (I (DJ m st inp)) h):m8 #[aR M,I st,I inp] h R:=by
 refine ACalls.drop (Fj ?_)
 refine uf_ ?_
 have hp36:(stP m).length<=m.nodes.length:=fW m.nodes 36
 have hp35:(inP m).length<=m.nodes.length:=fW m.nodes 35
 have hnl:=g.nl
 have hn8:=g.n8
 have hk5:=g.k5
 have hxl:=g.xl
 refine ai fun b9 g1 hb9 l1 f9=>?_
 have x9:=gW f9
 repeat' (refine av ?_)
 refine dj (hs.mono l1) hm fun p1 g2 l2 i1=>⟨p1,rfl,?_⟩
 have f92:=l2 _ _ f9
 have x92:=gW f92
 repeat' (refine av ?_)
 have l02:=Hp.le_trans l1 l2
 refine eP (hs.mono l02) hm g.ok i1 (dT g 36) (ll g 36) h1 (by rw [gT g];omega) fun u1 g3 l3 hu1=>⟨u1,rfl,?_⟩
 repeat' (((with_reducible apply jC);(assumption);(assumption)))
 have l03:=Hp.le_trans l02 l3
 refine dj (hs.mono l03) hm fun p2 g4 l4 i2=>⟨p2,rfl,?_⟩
 have l24:=Hp.le_trans l3 l4
 repeat' (((with_reducible apply jC);(assumption);(assumption)))
 have l04:=Hp.le_trans l03 l4
 refine eP (hs.mono l04) hm g.ok i2 (dT g 35) (ll g 35) h2 (by rw [BX g];omega) fun u2 g5 l5 hu2=>⟨u2,rfl,?_⟩
 have l25:=Hp.le_trans l24 l5
 (((with_reducible apply jC);(assumption);(assumption)))
 have l05:=Hp.le_trans l04 l5
 refine mM (hs.mono l05) hm g.ok g.nl (hu1.mono (Hp.le_trans l4 l5)) (nZ 36 st g) hu2 (nZ 35 inp g) fun vt g6 l6 hvn hpv _=>⟨vt,rfl,?_⟩
 have a:yG m (dx m st inp):=mO g st inp
 have hpv':jf g6 vt (dx m st inp):=hpv
 have hbn: ∀b∈m.nexts,0<=b.node:=fun b hb=>(fk.1 (jE (g.nex b hb)).2.1).1
 have l06:=Hp.le_trans l05 l6
 have f96:=l6 _ _ (l25 _ _ f92)
 have i16:=i1.mono (Hp.le_trans l25 l6)
 have hpn:p1.n=(stP m).length:=by have:=i1.len;rw [ca]at this;exact this
 unfold DJ at k
 generalize dx m st inp=v at*
 have hs6:=hs.mono l06
 refine aw (stP m).length (fun i vs h'=> ∃(ts:List Sl) (out:Sl),vs= [.pointer (some ⟨b9,0,none⟩),p1.v,vt.v,out.v,I i]/\g6.le (h'.offS out)/\out.n=i/\ts.length=i/\Buf h' out 1 (ts.map Sl.v)/\
  (∀(j:Nat) (t:Sl),ts[j]?=some t->IntS (h'.offS out) t (VL ((gi m v).getD j [])))) ⟨[],⟨none,0,0⟩,rfl,Hp.le_refl _,rfl,rfl,em _ _,fun j t ht=>by simp at ht⟩ ?_
 rintro i _ h3 next hi ⟨ts,out,rfl,l3',hon,htl,hbuf,hts⟩ hnx
 have lo:=aY h3 out
 have l63:=Hp.le_trans l3' lo
 have f93:=l63 _ _ f96
 refine⟨_,_,p1,vt,out,_,rfl,?_⟩
 by_cases hlt:i<(stP m).length
 rotate_left
 ·have hie:i=(stP m).length:=by omega
  subst hie
  refine aG (by simp;omega) ?_
  repeat' (refine av ?_)
  have hfl:(gi m v).length=(stP m).length:=by unfold gi lk;simp
  have iss:IntSS h3 out ((gi m v).map VL):=⟨ts,by simp;omega,hbuf.slc_of (by omega),fun j h1 h2=>by
   have:=(hts j _ (List.getElem?_eq_getElem h1)).mono lo
   rw [List.getElem_map]
   rwa [List.getD_eq_getElem?_getD,List.getElem?_eq_getElem (by rw [hfl];omega)]at this⟩
  exact H0 (hs6.mono l63) hm g.ok (i16.mono l63) (dT g 36) (ll g 36) iss (w9 g a.fit) (by rw [gT g];omega) ⟨_,rfl,_,Hp.le_trans l06 l63,k⟩
 refine aK (by simp;omega) ?_
 obtain⟨p,hpi⟩: ∃p,(stP m)[i]?=some p:=⟨_,List.getElem?_eq_getElem hlt⟩
 have hpm:=dT g 36 p (List.mem_of_getElem? hpi)
 obtain⟨bp,op,hap,hcp⟩:=(i16.mono l63).get (gF hpi)
 refine⟨bp,op,hap,by omega,by omega,?_⟩
 (refine av ?_)
 refine⟨_,hcp,?_⟩
 refine pn (hs6.mono l63).nexts (by omega) hbn ⟨_,rfl,?_⟩
 have hfg:=Ci m v hpi
 rw [Je]at hfg
 have app: ∀(t:Sl) (h4:Hp),h3.le h4->IntS h4 t (VL ((gi m v).getD i []))-> ∀(b:Nat),h4 b=none->ck (h4.row b [t.v] 1) fun h5=>cb h5 out.a out.n out.c (some ⟨b,0,none⟩) 1 1 24 fun a n k h6=>next [.pointer (some ⟨b9,0,none⟩),p1.v,vt.v, .slice a n k,I (W ((i:Int)+1))] h6:=by
  intro t h4 l4' ht
  refine ai fun b h5 hb l5' f5=>?_
  have l35:=Hp.le_trans l4' l5'
  have l35o:=bQ out l35
  refine da (hbuf.mono l35) (by omega) (by omega) (by omega) ⟨b,0,rfl,aD f5⟩ (by simp) rfl ?_
  intro s' h6 hs'n hbuf' l6' _
  rw [aE (by omega)]
  have l36:=Hp.le_trans l35o l6'
  have hbuf'':Buf h6 s' 1 ((ts++ [t]).map Sl.v):=by rw [List.map_append];exact hbuf'
  refine hnx hlt _ _ ⟨ts++ [t],s',rfl,Hp.le_trans l3' l36,by omega,by simp;omega,hbuf'',fun j u hu=>?_⟩
  by_cases hj:j<i
  ·rw [List.getElem?_append_left (by omega)]at hu
   exact(hts j u hu).mono l36
  ·have hju:=get_lt hu
   simp at hju
   have hje:j=i:=by omega
   subst hje
   rw [List.getElem?_append_right (by omega),htl,Nat.sub_self]at hu
   simp at hu;subst hu
   exact((ht.mono l5').offL (hbuf.mono l35)).mono l6'
 cases hbo:cm m.nexts p with
 |some q=>
  rw [show jz m.nexts p=(q:Int)from by unfold jz;rw [hbo]]
  refine aK (by simp) ?_
  have hqn:=LA g hbo
  obtain⟨bv,ov,t,hav,hvn',hcv,ht⟩:=(hpv'.mono l63).at (p:=(q:Int)) (by omega) (by rw [a.len];omega)
  refine⟨bv,ov,hav,by omega,hvn',t,hcv,?_⟩
  refine app t h3 (Hp.le_refl _) ?_
  rw [hfg]
  unfold km
  rw [hbo]
  simpa using ht
 |none=>
  rw [show jz m.nexts p= -1 from by unfold jz;rw [hbo]]
  refine aG (by simp) ?_
  refine⟨bp,op,hap,by omega,by omega,?_⟩
  (refine av ?_)
  refine⟨_,hcp,?_⟩
  obtain⟨bn,on,han,hpn',c6,c7,w1,w16⟩:=(hs6.mono l63).nodes.sortc2 hpm g.ok
  refine⟨bn,on,han,by omega,hpn',_,c6,_,c7,?_⟩
  refine fz ⟨_,rfl,?_⟩
  rw [yn g.ok hpm]
  have hc4:=dW m.nodes p
  refine⟨by omega,by omega,by omega,by omega,?_⟩
  refine ai fun b33 h4 hb33 l4' f33=>?_
  rw [Int.toNat_natCast,Nat.mul_one,cc]at f33
  refine app ⟨some ⟨b33,0,none⟩,aJ m.nodes p,aJ m.nodes p⟩ h4 l4' ?_
  rw [hfg]
  unfold km
  rw [hbo]
  simp only [Option.map_none,Option.getD_none]
  refine⟨by dsimp only;omega,by simp [ca], .inr ⟨b33,0,rfl,?_⟩⟩
  have hc:(VL (List.replicate (aJ m.nodes p) 0)).map I=List.replicate (aJ m.nodes p) (I 0):=by simp [VL]
  rw [hc];exact aD f33
structure Kn (g h:Hp) (L:List (Nat×Blk)):Prop where
 le:g.le h
 mem: ∀e∈L,h e.1=some e.2
 new: ∀e∈L,g e.1=none
 nd:(L.map Prod.fst).Nodup
inductive Upd :List (Nat×Blk)->Nat->Blk->Blk->List (Nat×Blk)->Prop
 |head {L:List (Nat×Blk)} {b:Nat} {x y:Blk}:Upd ((b,x)::L) b x y ((b,y)::L)
 |tail {L L':List (Nat×Blk)} {b:Nat} {x y:Blk} {e:Nat×Blk}:Upd L b x y L'->Upd (e::L) b x y (e::L')
theorem Kn.nil (h:Hp):Kn h h []:=⟨Hp.le_refl _,fun e h=>(by simp at h),fun e h=>(by simp at h),List.nodup_nil⟩
theorem Kn.of {g h:Hp} (l:g.le h):Kn g h []:=⟨l,fun e h=>(by simp at h),fun e h=>(by simp at h),List.nodup_nil⟩
section
variable {g h h':Hp} {L L':List (Nat×Blk)}
theorem Kn.at (K:Kn g h L) {b:Nat} {x:Blk} (e:(b,x)∈L):h b=some x:=K.mem _ e
theorem Kn.mono (K:Kn g h L) (l:h.le h'):Kn g h' L:=⟨Hp.le_trans K.le l,fun e he=>l _ _ (K.mem e he),K.new,K.nd⟩
theorem Kn.cons (K:Kn g h L) {b:Nat} {x:Blk} (hb:h b=none) (l:h.le h') (f:h' b=some x):Kn g h' ((b,x)::L):=by
 refine⟨Hp.le_trans K.le l,fun e he=>?_,fun e he=>?_,?_⟩
 ·rcases List.mem_cons.1 he with rfl|he
  ·exact f
  ·exact l _ _ (K.mem e he)
 ·rcases List.mem_cons.1 he with rfl|he
  ·exact aC K.le hb
  ·exact K.new e he
 ·rw [List.map_cons,List.nodup_cons]
  refine⟨fun hm=>?_,K.nd⟩
  obtain⟨e,he,heb⟩:=List.mem_map.1 hm
  have:=K.mem e he
  rw [show e.1=b from heb,hb]at this;cases this
theorem Kn.al (K:Kn g h L) {cs:Nat->List Value} {n:Nat->Nat} {P:Nat->Hp->Prop} (k: ∀b h',Kn g h' ((b, .inl ⟨cs b,n b,false⟩)::L)->h.le h'->h b=none->P b h'):
  ∀b,h b=none->ck (h.row b (cs b) (n b)) fun h'=>P b h':=
 fun b hb=>k b _ (K.cons hb (ec _ _ hb) (bG _ _ _ _)) (ec _ _ hb) hb
theorem Upd.mem {b:Nat} {x y:Blk} (u:Upd L b x y L'):(b,x)∈L:=by
 induction u with
 |head=>exact .head _
 |tail _ ih=>exact .tail _ ih
theorem Upd.keys {b:Nat} {x y:Blk} (u:Upd L b x y L'):L'.map Prod.fst=L.map Prod.fst:=by
 induction u with
 |head=>rfl
 |tail _ ih=>rw [List.map_cons,List.map_cons,ih]
theorem Upd.out {b:Nat} {x y:Blk} (u:Upd L b x y L') (nd:(L.map Prod.fst).Nodup): ∀e∈L',e=(b,y)\/(e∈L/\e.1≠b):=by
 induction u with
 |head=>
  intro e he
  rcases List.mem_cons.1 he with rfl|he
  ·exact .inl rfl
  ·rw [List.map_cons,List.nodup_cons]at nd
   exact .inr ⟨.tail _ he,fun eb=>nd.1 (List.mem_map.2 ⟨e,he,eb⟩)⟩
 |tail u ih=>
  rename_i L L' b x y e0
  rw [List.map_cons,List.nodup_cons]at nd
  intro e he
  rcases List.mem_cons.1 he with rfl|he
  ·exact .inr ⟨.head _,fun eb=>nd.1 (List.mem_map.2 ⟨_,u.mem,eb.symm⟩)⟩
  ·rcases ih nd.2 e he with h|⟨h1,h2⟩
   ·exact .inl h
   ·exact .inr ⟨.tail _ h1,h2⟩
theorem Kn.set (K:Kn g h L) {b z z':Nat} {cs cs':List Value} {ro:Bool} (u:Upd L b (.inl ⟨cs,z,ro⟩) (.inl ⟨cs',z',false⟩) L'):Kn g (h.row b cs' z') L':=by
 have hb:=K.new _ u.mem
 refine⟨dK _ _ hb K.le,fun e he=>?_,fun e he=>?_,by rw [u.keys];exact K.nd⟩
 ·rcases u.out K.nd e he with rfl|⟨h1,h2⟩
  ·exact bG _ _ _ _
  ·rw [bM _ _ h2];exact K.mem e h1
 ·rcases u.out K.nd e he with rfl|⟨h1,h2⟩
  ·exact hb
  ·exact K.new e h1
theorem Kn.wr (K:Kn g h L) {b z o m:Nat} {cs vs:List Value} {P:Hp->Prop} (u:Upd L b (.inl ⟨cs,z,false⟩) (.inl ⟨cM cs o vs,z,false⟩) L') (hl:m<=cs.length)
  (k: ∀h',Kn g h' L'->(∀c,c≠b->h' c=h c)->P h'):
  ∃(cs':List Value) (z':Nat),h b=some (.inl ⟨cs',z',false⟩)/\m<=List.length cs'/\ck (h.row b (cM cs' o vs) z') fun h'=>P h':=
 ⟨cs,z,K.at u.mem,hl,k _ (K.set u) fun c hc=>bM _ _ hc⟩
theorem Kn.base (K:Kn g h L):Kn (h.wo (L.map Prod.fst)) h L:=⟨te _ _,K.mem,fun e he=>en (List.mem_map.2 ⟨e,he,rfl⟩),K.nd⟩
theorem Kn.leBase (K:Kn g h L):g.le (h.wo (L.map Prod.fst)):=pA K.le fun b hb=>by
 obtain⟨e,he,rfl⟩:=List.mem_map.1 hb
 exact K.new e he
theorem Kn.has (K:Kn g h L): ∀b∈L.map Prod.fst,h b≠none:=fun b hb=>by
 obtain⟨e,he,rfl⟩:=List.mem_map.1 hb
 rw [K.mem e he];simp
theorem Kn.eq {g':Hp} (K':Kn g' h' L') (K:Kn g h L) {b:Nat} {x:Blk} {P:Prop} (e':(b,x)∈L') (e:(b,x)∈L) (k:P):h' b=h b/\P:=⟨by rw [K'.at e',K.at e],k⟩
theorem Kn.eqg (K':Kn g h' L') (K:Kn g h L) {b:Nat} {P:Prop} (e:g b≠none) (k:P):h' b=h b/\P:=by
 refine⟨?_,k⟩
 cases hb:g b with
 |none=>exact absurd hb e
 |some x=>rw [K'.le _ _ hb,K.le _ _ hb]
theorem Kn.sub (K:Kn g h L) (m: ∀e∈L',e∈L) (nd:(L'.map Prod.fst).Nodup):Kn g h L':=⟨K.le,fun e he=>K.mem e (m e he),fun e he=>K.new e (m e he),nd⟩
theorem Kn.wrS {s:Sl} (K:Kn g (h.offS s) L) {b z o m:Nat} {cs vs:List Value} {P:Hp->Prop} (u:Upd L b (.inl ⟨cs,z,false⟩) (.inl ⟨cM cs o vs,z,false⟩) L') (hl:m<=cs.length)
  (k: ∀h',Kn g (h'.offS s) L'->(∀sz bs,Buf h s sz bs->Buf h' s sz bs)->(∀c,c≠b->(h'.offS s) c=(h.offS s) c)->P h'):
  ∃(cs':List Value) (z':Nat),h b=some (.inl ⟨cs',z',false⟩)/\m<=List.length cs'/\ck (h.row b (cM cs' o vs) z') fun h'=>P h':=by
 have f:=K.at u.mem
 refine⟨cs,z,aY _ _ _ _ f,hl,k _ ?_ (fun sz bs e=>e.row _ _ f) fun c hc=>?_⟩
 ·rw [nP _ _ f];exact K.set u
 ·rw [nP _ _ f,bM _ _ hc]
end
theorem df {b o:Nat} {P:Nat->Nat->Prop} (k:P b o): ∃b' o':Nat,some (Addr.mk b o none)=some (Addr.mk b' o' none)/\P b' o':=⟨b,o,rfl,k⟩
theorem Kn.rd {α:Type} {f:α->Value} {g h:Hp} {L:List (Nat×Blk)} (K:Kn g h L) {b z o:Nat} {cs:List Value} {ro:Bool} {x:α} {P:α->Prop} (e:(b, .inl ⟨cs,z,ro⟩)∈L) (c:cs[o]?=some (f x)) (k:P x): ∃y:α,Hp.cell h b o=some (f y)/\P y:=⟨x,by rw [am (K.at e)];exact c,k⟩
theorem Kn.rg {α:Type} {f:α->Value} {g h:Hp} {L:List (Nat×Blk)} (K:Kn g h L) {b z o:Nat} {cs:List Value} {ro:Bool} {x:α} {P:α->Prop} (e:g b=some (.inl ⟨cs,z,ro⟩)) (c:cs[o]?=some (f x)) (k:P x): ∃y:α,Hp.cell h b o=some (f y)/\P y:=⟨x,by rw [am (K.le _ _ e)];exact c,k⟩
theorem kr_ {P Q:Prop} (k:Q) (h:Q->P:=by(first
 |((with_reducible apply Kn.rd);(assumption);((focus ((repeat first|exact .head _|apply List.Mem.tail);done)));(exact rfl))
 |((with_reducible apply Kn.rg);(assumption);(assumption);(exact rfl))
 |with_reducible exact And.intro (Eq.refl _)
 |with_reducible exact And.intro True.intro
 |with_reducible exact df
 |((with_reducible apply Kn.eq);(assumption);(assumption);((focus ((repeat first|exact .head _|apply List.Mem.tail);done)));((focus ((repeat first|exact .head _|apply List.Mem.tail);done))))
 |((with_reducible apply Kn.eqg);(assumption);(assumption);(assumption))
 |fail)):P:=h k
theorem kw_ {P Q:Prop} (k:Q) (h:Q->P:=by((with_reducible apply Kn.wr);(assumption);(((focus ((repeat first|exact .head|apply Upd.tail);done))));(exact of_decide_eq_true rfl))):P:=h k
theorem KC (l:List NodeP) (c:Nat->Bool) (p:Nat): ∀ps,eO l c (ps++ [p])=eO l c ps+2^co l ps*(if c p then 2^nbA l p-1 else 0):=by
 intro ps
 induction ps with
 |nil=>simp [eO,co]
 |cons q ps ih=>
  simp only [List.cons_append,eO]
  rw [ih,pr,Nat.pow_add,Nat.mul_add,Nat.mul_assoc,Nat.add_assoc]
theorem Ee {l:List NodeP} {ps:List Nat} {c:Nat->Bool} {i p:Nat} (h:ps[i]?=some p):eO l c (ps.take (i+1))=eO l c (ps.take i)+2^co l (ps.take i)*(if c p then 2^nbA l p-1 else 0):=by
 have hlt:=get_lt h
 rw [List.getElem?_eq_getElem hlt]at h
 rw [List.take_succ_eq_append_getElem hlt,KC,Option.some.inj h]
theorem Ki {binds:List BindP} {j:Nat} {b:BindP} (hb:binds[j]?=some b) (p:Nat):(cm (binds.take (j+1)) p).isSome=((cm (binds.take j) p).isSome||decide (b.state=(p:Int))):=by
 have hlt:=get_lt hb
 have hg:binds[j]=b:=by rw [List.getElem?_eq_getElem hlt]at hb;exact Option.some.inj hb
 unfold cm
 rw [List.take_succ_eq_append_getElem hlt,List.find?_append,hg]
 cases hf:(binds.take j).find? (fun b=>decide (b.state=(p:Int)))with
 |some x=>simp
 |none=>
  by_cases e:b.state=(p:Int)<;>simp [e]
theorem TV {l:List NodeP} {p:Nat}:dJ (az l p)=nbA l p:=by unfold dJ nbA cd aJ;rw [Nat.mul_comm]
theorem RL {l:List NodeP} {ps:List Nat} {i p:Nat} (h:ps[i]?=some p):co l (ps.take i)+nbA l p<=co l ps:=by
 have:=lj (l:=l) h
 have:=BG l ps (i+1)
 unfold nbA;omega
theorem Uc {l:List NodeP} {p:Nat} (hok:ce l=true) (hp:p<l.length):dJ ⟨(az l p).idx,(cd l p:Nat)⟩=nbA l p:=by
 have:=bO.1 (pR hok hp)
 have hw:((cd l p:Nat):Int)=(az l p).wid:=by unfold cd;omega
 rw [hw];exact TV
theorem uG {h:Hp} {M:MSl} {m:ak} {s:Sl} {binds:List BindP} {R:Value->Hp->Prop} (hs:aO h M m) (hm:bZ m) (g:ey m) (hb:pV h s binds) (hbl:binds.length<=1048576)
  (k:R (I (KV m binds)) h):fH #[aR M,s.v] h R:=by
 refine ACalls.drop (si ?_)
 refine uf_ ?_
 have hn8:=g.n8
 have hsw:=gT g
 have hbn:=hb.len
 have hp36:(stP m).length<=m.nodes.length:=fW m.nodes 36
 have hnl:=g.nl
 refine ai fun b8 h1 hb8 l1 f8=>?_
 repeat' (refine av ?_)
 refine jK (hs.mono l1) hm fun pt h2 l2 hp=>⟨pt,rfl,?_⟩
 have hpn:pt.n=(stP m).length:=by have:=hp.len;rw [ca]at this;exact this
 have l02:=Hp.le_trans l1 l2
 replace f8:=l2 _ _ f8
 refine aw (stP m).length (fun i vs h'=>vs= [s.v, .pointer (some ⟨b8,0,none⟩),I (eO m.nodes (fun p=>(cm binds p).isSome) ((stP m).take i):Nat),I (co m.nodes ((stP m).take i):Nat),pt.v,I pt.n,I i]/\h2.le h') ⟨by simp [eO,co],Hp.le_refl _⟩ ?_
 rintro i _ h3 next hi ⟨rfl,l3⟩ hnx
 refine⟨s,_,_,_,_,pt,_,_,rfl,?_⟩
 have l03:=Hp.le_trans l02 l3
 have f83:=l3 _ _ f8
 by_cases hlt:i<(stP m).length
 rotate_left
 ·have hie:i=(stP m).length:=by omega
  subst hie
  refine aG (by simp;omega) ⟨_,l03,?_⟩
  rw [List.take_of_length_le (Nat.le_refl _)];exact k
 refine aK (by simp;omega) ?_
 obtain⟨p,hpi⟩: ∃p,(stP m)[i]?=some p:=⟨_,List.getElem?_eq_getElem hlt⟩
 have hpm:=dT g 36 p (List.mem_of_getElem? hpi)
 obtain⟨b,o,ha,hc⟩:=(hp.mono l3).get (gF hpi)
 refine⟨b,o,ha,by omega,by omega,_,hc,?_⟩
 (refine av ?_)
 obtain⟨bn,on,han,hpn',c6,c7,w1,w16⟩:=(hs.mono l03).nodes.sortc2 hpm g.ok
 refine⟨bn,on,han,by omega,hpn',_,c6,_,c7,?_⟩
 refine pC ⟨_,rfl,?_⟩
 rw [Uc g.ok hpm]
 have hnb:=RL (l:=m.nodes) hpi
 have hlo:=tY m.nodes (fun p=>(cm binds p).isSome) ((stP m).take i)
 have hpp:=yu (n:=co m.nodes ((stP m).take i)) (by omega)
 have hpb:=yu (n:=nbA m.nodes p) (by omega)
 have hpb1:=bk (nbA m.nodes p)
 have hmul:(2^nbA m.nodes p-1)*2^co m.nodes ((stP m).take i)<1048576:=by
  have h1:(2^nbA m.nodes p-1)*2^co m.nodes ((stP m).take i)<=2^nbA m.nodes p*2^co m.nodes ((stP m).take i):=Nat.mul_le_mul_right _ (Nat.sub_le _ _)
  rw [<-Nat.pow_add]at h1
  have h2:=Nat.pow_le_pow_right (n:=2) (by omega) (show nbA m.nodes p+co m.nodes ((stP m).take i)<=8 by omega)
  have h3:(2:Nat)^8=256:=rfl
  omega
 have hlo2:eO m.nodes (fun p=>(cm binds p).isSome) ((stP m).take i)<1048576:=by
  have h2:=Nat.pow_le_pow_right (n:=2) (by omega) (show co m.nodes ((stP m).take i)<=8 by omega)
  have h3:(2:Nat)^8=256:=rfl
  omega
 have hstep:=Ee (l:=m.nodes) (c:=fun p=>(cm binds p).isSome) hpi
 generalize hmi:eO m.nodes (fun p=>(cm binds p).isSome) ((stP m).take i)=mi at*
 generalize hat:co m.nodes ((stP m).take i)=at_ at*
 refine aw binds.length (fun j vs h'=>vs= [s.v, .pointer (some ⟨b8,0,none⟩),I (mi+(if(cm (binds.take j) p).isSome then(2^nbA m.nodes p-1)*2^at_ else 0):Nat),I at_,I p,I (nbA m.nodes p),pt.v,I pt.n,I i,s.v,I s.n,I j]/\h2.le h') ⟨by simp [cm],l3⟩ ?_
 clear hc ha c6 c7 han hpn' f83 l03 l3 h3
 rintro j _ h3 next2 hj ⟨rfl,l3⟩ hnx2
 have l03:=Hp.le_trans l02 l3
 refine⟨s,_,_,_,_,_,_,pt,_,_,s,_,_,rfl,?_⟩
 by_cases hlj:j<binds.length
 rotate_left
 ·have hje:j=binds.length:=by omega
  subst hje
  refine aG (by simp;omega) ?_
  rw [List.take_length,aE (by omega),bU (n:=(at_:Int)+(nbA m.nodes p:Nat)) (by omega) (by omega)]
  refine hnx hlt _ _ ⟨?_,l3⟩
  rw [hstep,lj hpi,hat,Nat.mul_comm (2^at_)]
  have:at_+cd m.nodes p*aJ m.nodes p=at_+nbA m.nodes p:=rfl
  rw [this]
  have e2:(if(cm binds p).isSome=true then 2^nbA m.nodes p-1 else 0)*2^at_=if(cm binds p).isSome=true then(2^nbA m.nodes p-1)*2^at_ else 0:=by split<;>simp
  rw [e2];rfl
 refine aK (by simp;omega) ?_
 obtain⟨bd,hbd⟩: ∃bd,binds[j]?=some bd:=⟨_,List.getElem?_eq_getElem hlj⟩
 obtain⟨bx,ox,hax,cx1,cx2⟩:=(hb.mono l03).at hbd
 have hmore:=Ki hbd p
 refine ar (fun J=> ∀h',h2.le h'->J ((mi+(if(cm (binds.take (j+1)) p).isSome then(2^nbA m.nodes p-1)*2^at_ else 0):Nat):Int) h') ?_ (fun J hJ=>?_)
 ·intro h' l'
  rw [aE (by omega)]
  exact hnx2 hlj _ _ ⟨rfl,l'⟩
 refine⟨bx,ox,hax,by omega,by omega,_,cx1,_,cx2,?_⟩
 refine ai fun b74 h4 hb74 l4 f74=>?_
 (with_reducible apply bR);(exact f74);(exact Hp.le_trans l3 l4);(exact aC l3 hb74);(exact Nat.le_refl 2)
 intro h5 f74' kp l5
 refine⟨_,by rw [am f74'];rfl,?_⟩
 refine ad (fun e=>?_) (fun e=>?_)
 ·rw [decide_eq_true (bL e),Bool.or_true]at hmore
  refine dl (by omega) ⟨_,rfl,?_⟩
  rw [if_neg (by omega)]
  have hm1:(((2^nbA m.nodes p:Nat):Int)-1)=((2^nbA m.nodes p-1:Nat):Int):=by omega
  have:=hJ h5 l5
  rw [hmore,if_pos rfl]at this
  rw [hm1,gz (by omega) (by omega),xH (by split<;>omega) (by omega)]
  have e3:(mi+(if(cm (binds.take j) p).isSome=true then(2^nbA m.nodes p-1)*2^at_ else 0))|||(2^nbA m.nodes p-1)*2^at_=mi+(2^nbA m.nodes p-1)*2^at_:=by
   split
   ·rw [<-KO hlo,Nat.or_assoc,Nat.or_self]
   ·rw [Nat.add_zero,KO hlo]
  rw [e3];exact this
 ·rw [decide_eq_false (aW e),Bool.or_false]at hmore
  have:=hJ h5 l5
  rw [hmore]at this
  exact this
def je (m:ak):Nat:=eO m.nodes (fun p=> !(cm m.nexts p).isSome) (stP m)
def dQ (k:Nat):List Nat:=(List.range (k+1)).filter fun c=>decide (c&&&k=c)
theorem SJ {c k:Nat} (hc:c<256):c&&&k=c↔ ∀i,i<8->(c.testBit i=true->k.testBit i=true):=by
 constructor
 ·intro h i _ hi
  rw [<-h,Nat.testBit_and,Bool.and_eq_true]at hi
  exact hi.2
 ·intro h
  apply Nat.eq_of_testBit_eq
  intro i
  rw [Nat.testBit_and]
  by_cases hi:i<8
  ·have:=h i hi
   cases hc:c.testBit i with
   |false=>rfl
   |true=>rw [this hc];rfl
  ·rw [Nat.testBit_lt_two_pow (Nat.lt_of_lt_of_le hc (by have:=Nat.pow_le_pow_right (n:=2) (by omega) (show 8<=i by omega);simpa using this))];rfl
theorem QG {m:ak} (g:ey m):je m<256:=by
 have h:=tY m.nodes (fun p=> !(cm m.nexts p).isSome) (stP m)
 rw [gT g]at h
 have:=Nat.pow_le_pow_right (n:=2) (by omega) g.n8
 have h3:(2:Nat)^8=256:=rfl
 unfold je;omega
theorem JF {binds:List BindP} {p:Nat}:decide (jz binds p<0)= !(cm binds p).isSome:=by
 unfold jz
 cases cm binds p with
 |none=>rfl
 |some k=>simp
def F4 (k i:Nat):List Nat:=(List.range i).filter fun c=>decide (c&&&k=c)
theorem Le (k i:Nat):F4 k (i+1)=F4 k i++if i&&&k=i then [i]else []:=by
 unfold F4
 rw [List.range_succ,List.filter_append]
 by_cases h:i&&&k=i<;>simp [h]
theorem Buf.subOf {h h':Hp} {s:Sl} {sz:Nat} {cs:List Value} (e:Buf h' s sz cs) (l:h.le (h'.offS s)):Buf (h'.sub h) s sz cs:=by
 refine⟨e.1,e.2.1,e.2.2.imp id ?_⟩
 rintro ⟨b,ha,hb⟩
 refine⟨b,ha,?_⟩
 have hoff:(h'.offS s) b=none:=by simp [Hp.offS,ha,Hp.off,Hp.set]
 have hn:h b=none:=by
  cases hx:h b with
  |none=>rfl
  |some x=>rw [l _ _ hx]at hoff;cases hoff
 rw [jY hn];exact hb
theorem GT {h:Hp} {M:MSl} {m:ak} {R:Value->Hp->Prop} (hs:aO h M m) (hm:bZ m) (g:ey m)
  (k: ∀t h',h.le h'->IntS (h'.sub h) t (VL (dQ (je m)))->R (Sl.v t) h'):qi #[aR M] h R:=by
 apply Ei
 refine uf_ ?_
 have hn8:=g.n8
 have hsw:=gT g
 have hp36:(stP m).length<=m.nodes.length:=fW m.nodes 36
 have hnl:=g.nl
 have hxl:=g.xl
 have hbn: ∀b∈m.nexts,0<=b.node:=fun b hb=>(fk.1 (jE (g.nex b hb)).2.1).1
 refine ai fun b8 h1 hb8 l1 f8=>?_
 repeat' (refine av ?_)
 refine dj (hs.mono l1) hm fun pt h2 l2 hp=>⟨pt,rfl,?_⟩
 have hpn:pt.n=(stP m).length:=by have:=hp.len;rw [ca]at this;exact this
 have l02:=Hp.le_trans l1 l2
 replace f8:=l2 _ _ f8
 refine aw (stP m).length (fun i vs h'=>vs= [.pointer (some ⟨b8,0,none⟩),pt.v,I (eO m.nodes (fun p=> !(cm m.nexts p).isSome) ((stP m).take i):Nat),I (co m.nodes ((stP m).take i):Nat),I i]/\h'=h2) ⟨by simp [eO,co],rfl⟩ ?_
 rintro i _ _ next hi ⟨rfl,rfl⟩ hnx
 rename_i h2
 refine⟨_,_,pt,_,_,_,rfl,?_⟩
 by_cases hlt:i<(stP m).length
 ·refine aK (by simp;omega) ?_
  obtain⟨p,hpi⟩: ∃p,(stP m)[i]?=some p:=⟨_,List.getElem?_eq_getElem hlt⟩
  have hpm:=dT g 36 p (List.mem_of_getElem? hpi)
  obtain⟨b,o,ha,hc⟩:=hp.get (gF hpi)
  refine⟨b,o,ha,by omega,by omega,?_⟩
  (refine av ?_)
  refine⟨_,hc,?_⟩
  obtain⟨bn,on,han,hpn',c6,c7,w1,w16⟩:=(hs.mono l02).nodes.sortc2 hpm g.ok
  refine⟨bn,on,han,by omega,hpn',_,c6,_,c7,?_⟩
  refine iA ⟨_,rfl,?_⟩
  rw [Uc g.ok hpm]
  refine⟨b,o,ha,by omega,by omega,?_⟩
  (refine av ?_)
  refine⟨_,hc,?_⟩
  refine pn (hs.mono l02).nexts (by omega) hbn ⟨_,rfl,?_⟩
  rw [JF]
  have hnb:=RL (l:=m.nodes) hpi
  have hlo:=tY m.nodes (fun p=> !(cm m.nexts p).isSome) ((stP m).take i)
  have hpb:=yu (n:=nbA m.nodes p) (by omega)
  have hpb1:=bk (nbA m.nodes p)
  have hmul:(2^nbA m.nodes p-1)*2^co m.nodes ((stP m).take i)<1048576:=by
   have h1:(2^nbA m.nodes p-1)*2^co m.nodes ((stP m).take i)<=2^nbA m.nodes p*2^co m.nodes ((stP m).take i):=Nat.mul_le_mul_right _ (Nat.sub_le _ _)
   rw [<-Nat.pow_add]at h1
   have h2:=Nat.pow_le_pow_right (n:=2) (by omega) (show nbA m.nodes p+co m.nodes ((stP m).take i)<=8 by omega)
   have h3:(2:Nat)^8=256:=rfl
   omega
  have hlo2:eO m.nodes (fun p=> !(cm m.nexts p).isSome) ((stP m).take i)<1048576:=by
   have h2:=Nat.pow_le_pow_right (n:=2) (by omega) (show co m.nodes ((stP m).take i)<=8 by omega)
   have h3:(2:Nat)^8=256:=rfl
   omega
  have hstep:=Ee (l:=m.nodes) (c:=fun p=> !(cm m.nexts p).isSome) hpi
  have hst2:=lj (l:=m.nodes) hpi
  rw [show cd m.nodes p*aJ m.nodes p=nbA m.nodes p from rfl]at hst2
  rw [cA (n:=nbA m.nodes p) (by omega),cA (n:=co m.nodes ((stP m).take i)) (by omega)]
  have fin:=hnx hlt
  have hat:W (((co m.nodes ((stP m).take i):Nat):Int)+((nbA m.nodes p:Nat):Int))=((co m.nodes ((stP m).take (i+1)):Nat):Int):=by
   rw [bU (by omega) (by omega),hst2];omega
  rw [hat,aE (by omega)]
  refine ad (fun e=>?_) (fun e=>?_)
  ·rw [if_neg (by omega),if_neg (by omega),bV (by omega),bU (n:=((2^nbA m.nodes p:Nat):Int)-1) (by omega) (by omega)]
   have hm1:(((2^nbA m.nodes p:Nat):Int)-1)=((2^nbA m.nodes p-1:Nat):Int):=by omega
   rw [if_pos e,Nat.mul_comm]at hstep
   rw [hm1,gz (by omega) (by omega),<-Int.natCast_add,ef (by omega),<-hstep]
   exact fin _ _ ⟨rfl,rfl⟩
  ·have hs2:eO m.nodes (fun p=> !(cm m.nexts p).isSome) ((stP m).take (i+1))=eO m.nodes (fun p=> !(cm m.nexts p).isSome) ((stP m).take i):=by
    rw [hstep,if_neg (by rw [e];decide)];simp
   rw [<-hs2]
   exact fin _ _ ⟨rfl,rfl⟩
 have hie:i=(stP m).length:=by omega
 subst hie
 refine aG (by simp;omega) ?_
 rw [List.take_of_length_le (Nat.le_refl _)]
 have hfm:=QG g
 show aH _ [I (je m:Nat), .slice none 0 0,I 0] h2
 refine aw (je m+1) (fun c vs h'=> ∃out:Sl,vs= [I (je m:Nat),out.v,I c]/\h2.le (h'.offS out)/\out.n<=c/\Buf h' out 1 ((VL (F4 (je m) c)).map I)) ⟨⟨none,0,0⟩,rfl,Hp.le_refl _,Nat.le_refl _,em _ _⟩ ?_
 rintro c _ h3 next2 hc ⟨out,rfl,l3,hon,hbuf⟩ hnx2
 have l23:=Hp.le_trans l3 (aY _ _)
 refine⟨_,out,_,rfl,?_⟩
 by_cases hlc:c<je m+1
 rotate_left
 ·have hce:c=je m+1:=by omega
  subst hce
  exact aG (by simp;omega) (k out h3 (Hp.le_trans l02 l23) ((hbuf.subOf (Hp.le_trans l02 l3)).slc_of (by omega)))
 refine aK (by simp;omega) ?_
 refine aw 8 (fun j vs h'=>vs= [I (je m:Nat),out.v,I c, .bool ((List.range j).all fun i=> !c.testBit i||(je m).testBit i),I j]/\h'=h3) ⟨rfl,rfl⟩ ?_
 rintro j _ _ next3 hj ⟨rfl,rfl⟩ hnx3
 rename_i h3
 refine⟨_,out,_,_,_,rfl,?_⟩
 by_cases hlj:j<8
 ·refine aK (by simp;omega) ?_
  have hsucc:(List.range (j+1)).all (fun i=> !c.testBit i||(je m).testBit i)=((List.range j).all (fun i=> !c.testBit i||(je m).testBit i)&&(!c.testBit j||(je m).testBit j)):=by
   rw [List.range_succ,List.all_append];simp
  have fin:=hnx3 hlj
  rw [hsucc]at fin
  refine ad (fun e=>?_) (fun e=>?_)
  ·rw [e]at fin
   rw [Bool.true_and]at fin
   refine iw (by omega) ⟨_,rfl,?_⟩
   refine iw (by omega) ⟨_,rfl,?_⟩
   rw [aE (by omega)]
   have:decide ((if c.testBit j then(1:Int)else 0)<=(if(je m).testBit j then(1:Int)else 0))=(!c.testBit j||(je m).testBit j):=by
    cases c.testBit j<;>cases (je m).testBit j<;>rfl
   rw [this]
   exact fin _ _ ⟨rfl,rfl⟩
  ·rw [e]at fin
   rw [Bool.false_and]at fin
   rw [aE (by omega)]
   exact fin _ _ ⟨rfl,rfl⟩
 have hje:j=8:=by omega
 subst hje
 refine aG (by simp) ?_
 have hcond:((List.range 8).all fun i=> !c.testBit i||(je m).testBit i)=decide (c&&&je m=c):=by
  rw [Bool.eq_iff_iff,decide_eq_true_eq,SJ (by omega),List.all_eq_true]
  constructor
  ·intro h i hi hb
   have:=h i (List.mem_range.2 hi)
   rw [hb]at this;simpa using this
  ·intro h i hi
   have:=h i (List.mem_range.1 hi)
   cases hb:c.testBit i with
   |false=>rfl
   |true=>rw [this hb];rfl
 rw [hcond,aE (by omega)]
 have hft:=Le (je m) c
 refine ad (fun e=>?_) (fun e=>?_)
 ·rw [if_pos (of_decide_eq_true e)]at hft
  refine ai fun b92 h4 hb92 l4 f92=>?_
  refine da (hbuf.mono l4) (by omega) (by omega) (by omega) ⟨b92,0,rfl,aD f92⟩ (by simp) rfl ?_
  intro s' h5 hs'n hbuf' l5 _
  refine hnx2 hlc _ _ ⟨s',rfl,Hp.le_trans l3 (Hp.le_trans (bQ out l4) l5),by omega,?_⟩
  rw [hft,rr,List.map_append];exact hbuf'
 ·rw [if_neg (of_decide_eq_false e),List.append_nil]at hft
  refine hnx2 hlc _ _ ⟨out,rfl,l3,by omega,?_⟩
  rw [hft];exact hbuf
theorem Buf.wo {h h':Hp} {t:Sl} {sz:Nat} {cs:List Value} {B:List Nat} (e:Buf h' t sz cs) (l:h.le (h'.offS t)) (hB: ∀b∈B,h b≠none):Buf (h'.wo B) t sz cs:=by
 refine⟨e.1,e.2.1,e.2.2.imp id ?_⟩
 rintro ⟨b,ha,hb⟩
 refine⟨b,ha,?_⟩
 rw [rD]
 ·exact hb
 ·intro hm
  have:=hB b hm
  cases hx:h b with
  |none=>exact this hx
  |some x=>
   have:=l _ _ hx
   simp [Hp.offS,ha,Hp.off,Hp.set]at this
theorem H1 {m:ak} (g:ey m):2^(au m.nodes 36+au m.nodes 35)<=8192:=by
 have h1:=g.n8
 have h2:=g.k5
 have:=Nat.pow_le_pow_right (n:=2) (by omega) (show au m.nodes 36+au m.nodes 35<=13 by omega)
 simpa using this
theorem Wx {m:ak} (g:ey m):2^au m.nodes 36<=256:=by
 have h1:=g.n8
 have:=Nat.pow_le_pow_right (n:=2) (by omega) h1
 simpa using this
theorem MP {h:Hp} {M:MSl} {m:ak} {fid:FuncId} {u w:Array Value} {B:List Nat} {st:Nat->Hp->Prop} {R:Value->Hp->Prop} (hs:aO (h.wo B) M m) (hm:bZ m) (g:ey m)
  (hB: ∀b∈B,h b≠none) (mono: ∀c h1 h2,st c h1->h1.le h2->st c h2) (h0:st 0 h)
  (step: ∀c,c<2^(au m.nodes 36+au m.nodes 35)-> ∀h1 t,(h.wo B).le h1->st c h1->jf h1 t (dx m (c%2^au m.nodes 36) (c/2^au m.nodes 36))-> ∀R':Value->Hp->Prop,
   (∀h2,st (c+1) h2->(h1.wo B).le h2->R' (.tuple #[]) h2)->ACalls PR fid ((u++ #[I c,Sl.v t])++w) h1 R')
  (k: ∀h',(h.wo B).le h'->st (2^(au m.nodes 36+au m.nodes 35)) h'->R (.tuple #[]) h'):mt #[aR M, .func (.func fid) u w] h R:=by
 apply xX
 refine uf_ ?_
 have hn8:=g.n8
 have hk5:=g.k5
 have hp13:=H1 g
 have hs0:aO h M m:=hs.mono (te _ _)
 refine ai fun b10 h1 hb10 l1 f10=>?_
 have x10:=gW f10
 repeat' (refine av ?_)
 refine fS (hs0.mono l1) hm ⟨_,rfl,rfl,fS (hs0.mono l1) hm ⟨_,rfl,?_⟩⟩
 repeat' (refine av ?_)
 refine kG (hs0.mono l1) hm fun p1 h2 l2 n1 b1=>⟨p1,rfl,?_⟩
 have l2':=Hp.le_trans l2 (aY _ _)
 (((with_reducible apply jC);(assumption);(assumption)))
 refine kG ((hs0.mono l1).mono l2') hm fun p2 h3 l3 n2 b2=>⟨p2,rfl,?_⟩
 have l3':=Hp.le_trans l3 (aY _ _)
 have l13:=Hp.le_trans l2' l3'
 have l03:=Hp.le_trans l1 l13
 rw [bU (n:=((au m.nodes 36:Nat):Int)+((au m.nodes 35:Nat):Int)) (by omega) (by omega),if_neg (by omega),<-Int.natCast_add,bV (by omega)]
 have hB1: ∀b∈B,h1 b≠none:=fun b hb=>by
  cases hx:h b with
  |none=>exact absurd hx (hB b hb)
  |some x=>rw [l1 _ _ hx];simp
 have hB2: ∀b∈B,h2 b≠none:=fun b hb=>by
  cases hx:h1 b with
  |none=>exact absurd hx (hB1 b hb)
  |some x=>rw [l2' _ _ hx];simp
 have b1w:Buf (h3.wo B) p1 1 ((VL (aX m.nodes 36)).map I):=(b1.wo l2 hB1).mono (pA (Hp.le_trans (te _ _) l3') fun b hb=>en hb)
 have b2w:Buf (h3.wo B) p2 1 ((VL (aX m.nodes 35)).map I):=b2.wo l3 hB2
 have hnl:=g.nl
 have i1:IntS (h3.wo B) p1 (VL (aX m.nodes 36)):=b1w.slc_of (by omega)
 have i2:IntS (h3.wo B) p2 (VL (aX m.nodes 35)):=b2w.slc_of (by omega)
 have hs3:aO (h3.wo B) M m:=hs.mono (pA (Hp.le_trans (te _ _) l03) fun b hb=>en hb)
 have f10w:(h3.wo B) b10=some (.inl ⟨ax M,5,false⟩):=by
  rw [rD (fun hb=>hB _ hb hb10)];exact l13 _ _ f10
 have hw:(h.wo B).le (h3.wo B):=pA (Hp.le_trans (te _ _) l03) fun b hb=>en hb
 refine aw (2^(au m.nodes 36+au m.nodes 35)) (fun c vs h'=>vs= [.func (.func fid) u w, .pointer (some ⟨b10,0,none⟩),I (au m.nodes 36),p1.v,p2.v,I (2^(au m.nodes 36+au m.nodes 35):Nat),I c]/\(h3.wo B).le h'/\st c h')
  ⟨rfl,te _ _,mono _ _ _ h0 l03⟩ ?_
 clear f10 x10 b1 b2 l1 l2 l2' l3 l13 l3' hs hs0 h0
 rintro c _ h4 next hc ⟨rfl,l4,hst⟩ hnx
 refine⟨_,_,_,_,_,_,p1,p2,_,_,rfl,?_⟩
 by_cases hlt:c<2^(au m.nodes 36+au m.nodes 35)
 rotate_left
 ·have hce:c=2^(au m.nodes 36+au m.nodes 35):=by omega
  subst hce
  exact aG (by simp) (k h4 (Hp.le_trans hw l4) hst)
 refine aK (by rw [decide_eq_true_eq];exact_mod_cast hlt) ?_
 rw [if_neg (by omega)]
 have f104:=l4 _ _ f10w
 have x104:=gW f104
 repeat' (refine av ?_)
 refine dl (by omega) ⟨_,rfl,?_⟩
 repeat' (refine av ?_)
 rw [fM (by omega),mF,jt (by omega)]
 have h1':c%2^au m.nodes 36<=c:=Nat.mod_le _ _
 have h2':c/2^au m.nodes 36<=c:=Nat.div_le_self _ _
 refine LL (hs3.mono l4) hm g.ok (i1.mono l4) (dT g 36) (ll g 36) (by omega) fun o1 h5 l5 v1 c1=>⟨o1,rfl,?_⟩
 repeat' (((with_reducible apply jC);(assumption);(assumption)))
 have l45:=Hp.le_trans l4 l5
 refine LL (hs3.mono l45) hm g.ok (i2.mono l45) (dT g 35) (ll g 35) (by omega) fun o2 h6 l6 v2 c2=>⟨o2,rfl,?_⟩
 have l56:=Hp.le_trans l5 l6
 (((with_reducible apply jC);(assumption);(assumption)))
 have l46:=Hp.le_trans l4 l56
 refine Fs (hs3.mono l46) hm g.ok g.nl (v1.mono l6) c1 (nZ 36 _ g) v2 c2 (nZ 35 _ g) fun t h7 l7 hn hpv=>⟨t,rfl,?_⟩
 have l47:=Hp.le_trans l56 l7
 refine step c hlt h7 t (Hp.le_trans hw (Hp.le_trans l4 l47)) (mono _ _ _ hst l47) hpv _ fun h8 hst8 l8=>⟨rfl,?_⟩
 rw [aE (by omega)]
 exact hnx hlt _ _ ⟨rfl,Hp.le_trans (pA (Hp.le_trans l4 l47) fun b hb=>en hb) l8,hst8⟩
def dt (f:Nat->Bool) (c n:Nat):List Value:=(List.range n).map fun i=> .bool (decide (i<c)&&f i)
def jl (f:Nat->Nat) (c n:Nat):List Value:=(List.range n).map fun i=>I ((if i<c then f i else 0:Nat):Int)
theorem uE (f:Nat->Bool) (c n:Nat):(dt f c n).length=n:=by simp [dt]
theorem JL (f:Nat->Nat) (c n:Nat):(jl f c n).length=n:=by simp [jl]
theorem jH (f:Nat->Bool) (n:Nat):List.replicate n (.bool false)=dt f 0 n:=by
 apply List.ext_getElem
 ·simp [dt]
 ·intro i h1 h2;simp [dt]
theorem Aq (f:Nat->Nat) (n:Nat):List.replicate n (I 0)=jl f 0 n:=by
 apply List.ext_getElem
 ·simp [jl]
 ·intro i h1 h2;simp [jl]
theorem tX {f:Nat->Bool} {c n:Nat} (h:c<n):(dt f c n).set c (.bool (f c))=dt f (c+1) n:=by
 apply List.ext_getElem
 ·simp [dt]
 ·intro i h1 h2
  simp only [dt,List.getElem_set,List.getElem_map,List.getElem_range]
  by_cases e:c=i
  ·subst e;simp
  ·rw [if_neg e]
   have:decide (i<c)=decide (i<c+1):=by rw [Bool.eq_iff_iff,decide_eq_true_eq,decide_eq_true_eq];omega
   rw [this]
theorem JG {f:Nat->Nat} {c n:Nat} (h:c<n):(jl f c n).set c (I (f c:Nat))=jl f (c+1) n:=by
 apply List.ext_getElem
 ·simp [jl]
 ·intro i h1 h2
  simp only [jl,List.getElem_set,List.getElem_map,List.getElem_range]
  by_cases e:c=i
  ·subst e;simp
  ·rw [if_neg e]
   by_cases h:i<c
   ·rw [if_pos h,if_pos (by omega)]
   ·rw [if_neg h,if_neg (by omega)]
theorem un (f:Nat->Bool) (n:Nat):dt f n n=((List.range n).map f).map Value.bool:=by
 apply List.ext_getElem
 ·simp [dt]
 ·intro i h1 h2
  have hi:i<n:=by simpa [dt] using h1
  simp [dt,hi]
theorem KD (f:Nat->Nat) (n:Nat):jl f n n=(VL ((List.range n).map f)).map I:=by
 apply List.ext_getElem
 ·simp [jl,VL]
 ·intro i h1 h2
  have hi:i<n:=by simpa [jl] using h1
  simp [jl,VL,hi]
theorem jf.keep {h h':Hp} {s:Sl} {vs:List (List Nat)} {b z:Nat} {cs:List Value} {ro:Bool} (e:jf h s vs) (f:h b=some (.inl ⟨cs,z,ro⟩)) (hn:HI cs) (hsl: ∀(j:Nat) (t:Sl),cs[j]?≠some t.v) (kp: ∀c,c≠b->h' c=h c):jf h' s vs:=by
 refine⟨e.1,e.2.1,fun p hp=>?_⟩
 obtain⟨b',o,t,h1,h2,h3⟩:=e.2.2 p hp
 refine⟨b',o,t,h1,?_,h3.keepN f hn kp⟩
 have hne:b'≠b:=by
  rintro rfl
  rw [am f]at h2
  exact hsl _ _ h2
 unfold Hp.cell at h2⊢
 rw [kp b' hne];exact h2
theorem Ax (f:Nat->Bool) (c n:Nat):HI (dt f c n):=by
 intro j i h
 simp only [dt,List.getElem?_map,Option.map_eq_some_iff]at h
 obtain⟨a,_,h⟩:=h
 cases h
theorem D4 (f:Nat->Bool) (c n:Nat): ∀(j:Nat) (t:Sl),(dt f c n)[j]?≠some t.v:=by
 intro j t h
 simp only [dt,List.getElem?_map,Option.map_eq_some_iff]at h
 obtain⟨a,_,h⟩:=h
 cases h
abbrev Jc (M:MSl) (n k:Int) (st hold bad:Sl) (fixed:Int) (next:Sl) (bf ba:Int):List Value:= [M.no.v,M.ini.v,M.nex.v,M.bad.v,M.hol.v,I n,I k,st.v,hold.v,bad.v,I fixed,next.v,I bf,I ba]
abbrev arr (b n:Nat):Sl:=⟨some ⟨b,0,none⟩,n,n⟩
def qv (m:ak) (bH bB bN c:Nat):List (Nat×Blk):=
 [(bH, .inl ⟨dt (aN m).hold c (2^(au m.nodes 36+au m.nodes 35)),2^(au m.nodes 36+au m.nodes 35),false⟩),
  (bB, .inl ⟨dt (aN m).bad c (2^(au m.nodes 36+au m.nodes 35)),2^(au m.nodes 36+au m.nodes 35),false⟩),
  (bN, .inl ⟨jl (aN m).next c (2^(au m.nodes 36+au m.nodes 35)),2^(au m.nodes 36+au m.nodes 35),false⟩)]
theorem wy (m:ak) (v:List (List Nat)):decide (EX m v>=0)=(qF m v).isSome:=by
 unfold EX
 cases qF m v with
 |none=>rfl
 |some d=>simp
theorem yl {g h:Hp} {M:MSl} {m:ak} {st t:Sl} {b7 b103 bx bH bB bN c:Nat} {n k f0 f1 f2:Int} {z1 z2 z3:Nat} {R:Value->Hp->Prop} (hs:aO g M m) (hm:bZ m) (gd:ey m)
  (f7:g b7=some (.inl ⟨ax M,z1,false⟩)) (f103:g b103=some (.inl ⟨[.pointer (some ⟨bx,0,none⟩)],z2,false⟩))
  (fx:g bx=some (.inl ⟨Jc M n k st (arr bH (2^(au m.nodes 36+au m.nodes 35))) (arr bB (2^(au m.nodes 36+au m.nodes 35))) f0 (arr bN (2^(au m.nodes 36+au m.nodes 35))) f1 f2,z3,false⟩))
  (hst:IntS g st (VL (stP m))) (hc:c<2^(au m.nodes 36+au m.nodes 35)) (K:Kn g h (qv m bH bB bN c))
  (hpv:jf h t (dx m (c%2^au m.nodes 36) (c/2^au m.nodes 36)))
  (kk: ∀h',Kn (h.wo [bH,bB,bN]) h' (qv m bH bB bN (c+1))->R (.tuple #[]) h'):
  pd #[I c,t.v, .pointer (some ⟨b7,0,none⟩), .pointer (some ⟨b103,0,none⟩)] h R:=by
 apply vK
 refine uf_ ?_
 have a:yG m (dx m (c%2^au m.nodes 36) (c/2^au m.nodes 36)):=mO gd _ _
 have hp13:=H1 gd
 have hv1:(aN m).hold c=kN m (dx m (c%2^au m.nodes 36) (c/2^au m.nodes 36)):=rfl
 have hv2:(aN m).bad c=(qF m (dx m (c%2^au m.nodes 36) (c/2^au m.nodes 36))).isSome:=rfl
 have hv3:(aN m).next c=dL m.nodes (stP m) (gi m (dx m (c%2^au m.nodes 36) (c/2^au m.nodes 36))):=rfl
 generalize hv:dx m (c%2^au m.nodes 36) (c/2^au m.nodes 36)=v at*
 generalize hN:2^(au m.nodes 36+au m.nodes 35)=N at*
 have lg:g.le (h.wo [bH,bB,bN]):=K.leBase
 have K0:Kn (h.wo [bH,bB,bN]) h (qv m bH bB bN c):=K.base
 unfold qv at K0 kk
 rw [hN]at K0 kk
 clear K
 have hs':=hs.mono lg
 have f7':=lg _ _ f7
 have f103':=lg _ _ f103
 have fx':=lg _ _ fx
 have hst':=hst.mono lg
 have x7:=gW f7'
 have x103:=gW f103'
 have xx:=gW fx'
 generalize h.wo [bH,bB,bN]=g1 at*
 clear lg fx f103 f7 hst hs
 repeat' (refine kr_ ?_)
 refine Li (hs'.mono K0.le) gd hpv a ⟨_,rfl,?_⟩
 repeat' (refine kr_ ?_)
 refine⟨by omega,by dsimp only;omega,?_⟩
 (((with_reducible apply Kn.wr);(assumption);((focus ((repeat first|exact .head|apply Upd.tail);done)))))
 ·rw [uE];omega
 intro h24 K1 kp1
 have hpv1:=hpv.keep (K0.at (.head _)) (Ax _ _ _) (D4 _ _ _) kp1
 rw [<-hv1,bT,Nat.zero_add,Int.toNat_natCast,Nat.mul_one,tX hc]at K1
 repeat' (refine kr_ ?_)
 refine Rm (hs'.mono K1.le) gd hpv1 a ⟨_,rfl,?_⟩
 repeat' (refine kr_ ?_)
 refine⟨by omega,by dsimp only;omega,?_⟩
 (((with_reducible apply Kn.wr);(assumption);((focus ((repeat first|exact .head|apply Upd.tail);done)))))
 ·rw [uE];omega
 intro h42 K2 kp2
 have hpv2:=hpv1.keep (K1.at (.tail _ (.head _))) (Ax _ _ _) (D4 _ _ _) kp2
 rw [wy,<-hv2,bT,Nat.zero_add,Int.toNat_natCast,Nat.mul_one,tX hc]at K2
 repeat' (refine kr_ ?_)
 refine I2 (hs'.mono K2.le) hm gd hpv2 a fun out h63 l63 hout=>⟨out,rfl,?_⟩
 have K3:=K2.mono l63
 repeat' (refine kr_ ?_)
 refine FP (hs'.mono K3.le) hm gd.ok (hst'.mono K3.le) (dT gd 36) (ll gd 36) hout (w9 gd a.fit) (by rw [gT gd];have:=gd.n8;omega) ⟨_,rfl,?_⟩
 repeat' (refine kr_ ?_)
 refine⟨by omega,by dsimp only;omega,?_⟩
 (((with_reducible apply Kn.wr);(assumption);((focus ((repeat first|exact .head|apply Upd.tail);done)))))
 ·rw [JL];omega
 intro h72 K4 kp4
 rw [<-hv3,bT,Nat.zero_add,Int.toNat_natCast,Nat.mul_one,JG hc]at K4
 exact kk h72 K4
def xQ (h:Hp) (t:Sl) (n:Nat) (f:Nat->Nat):Prop:=IntS h t (VL ((List.range n).map f))
theorem xQ.mono {h h':Hp} {t:Sl} {n:Nat} {f:Nat->Nat} (l:h.le h') (e:xQ h t n f):xQ h' t n f:=SlC.mono l e
def lT (h:Hp) (b:Nat) (σ:ay):Prop:= ∃(M:MSl) (st hold bad next:Sl),h b=some (.inl ⟨Jc M σ.n σ.k st hold bad σ.fixed next σ.bfix σ.bas,14,false⟩)/\
 cJ h hold (2^(σ.n+σ.k)) σ.hold/\cJ h bad (2^(σ.n+σ.k)) σ.bad/\xQ h next (2^(σ.n+σ.k)) σ.next
theorem lT.mono {h h':Hp} {b:Nat} {σ:ay} (l:h.le h') (e:lT h b σ):lT h' b σ:=by
 obtain⟨M,st,hold,bad,next,h1,h2,h3,h4⟩:=e
 exact⟨M,st,hold,bad,next,l _ _ h1,h2.mono l,h3.mono l,h4.mono l⟩
theorem Nj {g h:Hp} {L:List (Nat×Blk)} {M:MSl} {m:ak} {kind:Int} {R:Value->Hp->Prop} (K:Kn g h L) (hs:aO g M m) (hm:bZ m) (gd:ey m)
  (k: ∀t h' g',Kn g' h' L->IntS g' t (VL (aX m.nodes kind))->g.le g'->h.le h'->R (Sl.v t) h'):bz #[aR M,I kind] h R:=
 kG (hs.mono K.le) hm fun t h' l hn hb=>by
  have l':=Hp.le_trans l (aY _ _)
  have K':=K.mono l'
  refine k t h' _ K'.base ?_ K'.leBase l'
  have:=gd.nl
  exact(hb.wo l K.has).slc_of (by omega)
def ze (m:ak) (j p:Nat):List Nat:=((cm (m.inits.take j) p).map fun k=>uF (aJ m.nodes p) ((r5 m).getD k [])).getD (List.replicate (aJ m.nodes p) 0)
theorem Qi (m:ak) (p:Nat):ze m m.inits.length p=(jU m p).getD (List.replicate (aJ m.nodes p) 0):=by
 unfold ze jU;rw [List.take_length]
theorem N5 {m:ak} (g:ey m) {j:Nat} {b:BindP} (hb:m.inits[j]?=some b) (p:Nat):ze m (j+1) p=if b.state=(p:Int)then uF (aJ m.nodes p) ((r5 m).getD b.node.toNat [])else ze m j p:=by
 unfold ze
 rw [Dr (Ar g.twice).2.1 hb]
 split<;>rfl
theorem Ns (m:ak) {i p:Nat} (h:(stP m)[i]?=some p):(qO m).getD i []=ze m m.inits.length p:=by
 rw [Qi]
 unfold qO lk
 rw [List.getD_eq_getElem?_getD,List.getElem?_map,h];rfl
theorem De {m:ak} (g:ey m) {b:BindP} (hb:b∈m.inits):0<=b.node/\b.node<m.nodes.length/\0<((r5 m).getD b.node.toNat []).length/\((r5 m).getD b.node.toNat []).length<=4/\0<=b.state/\b.state<m.nodes.length:=by
 obtain⟨q1,q2,q3,q4,_⟩:=DL (g.ini b hb)
 have q2':=fk.1 q2
 have q1':=fk.1 q1
 have hf:=(DC g).fit b.node.toNat (by omega) (by omega)
 have:=(rK g.ok (show b.node.toNat<m.nodes.length by omega) hf).1
 refine⟨q2'.1,q2'.2,hf.pos,?_,q1'.1,q1'.2⟩
 rw [this];exact dW _ _
set_option maxHeartbeats 4000000 in
theorem eg {h:Hp} {M:MSl} {m:ak} {R:Value->Hp->Prop} (hs:aO h M m) (hm:bZ m)
  (k0: ∀h',h.le h'->aA m≠0->R (.tuple #[.pointer none, .bool false]) h')
  (k1:aA m=0->ey m-> ∀b h',h.le h'->lT h' b (aN m)->R (.tuple #[.pointer (some ⟨b,0,none⟩), .bool true]) h'):cQ #[aR M] h R:=by
 apply zp
 refine uf_ ?_
 have K0:=Kn.nil h
 (with_reducible apply Kn.al);(assumption);(intro b7 h1 K1 l1 hb7)
 repeat' (refine kr_ ?_)
 refine oQ (hs.mono l1) hm ⟨_,rfl,ad (fun e=>k0 h1 l1 (fL e)) (fun e=>?_)⟩
 have hcode:=gq e
 have gd:=di hcode
 replace k1:=k1 hcode gd
 clear k0 e hcode l1 hb7 K0
 have hn8:=gd.n8
 have hk5:=gd.k5
 have hp13:=H1 gd
 have hp13':=bk (au m.nodes 36+au m.nodes 35)
 refine ar (fun J=> ∀(bp bx:Nat) (h' g':Hp) (t:Sl) (L0:List (Nat×Blk)),Kn g' h' L0->(bp, .inl ⟨[.pointer (some ⟨bx,0,none⟩)],1,false⟩)∈L0->
  (bx, .inl ⟨Jc M (au m.nodes 36) (au m.nodes 35) t ⟨none,0,0⟩ ⟨none,0,0⟩ 0 ⟨none,0,0⟩ 0 0,14,false⟩)∈L0->(b7, .inl ⟨ax M,5,false⟩)∈L0->h.le g'->IntS g' t (VL (stP m))->J bp 0 h') ?_ (fun J hJ=>?_)
 rotate_left
 ·repeat' (first
   |(refine kr_ ?_)
   |(refine fS (hs.mono (Kn.le (by assumption))) hm ⟨_,rfl,?_⟩)
   |(refine Nj (by assumption) hs hm gd fun _ _ _ _ _ _ _=>⟨_,rfl,?_⟩)
   |((with_reducible apply Kn.al);(assumption);(intro _ _ _ _ _))
   |((((with_reducible apply Kn.wr);(assumption);((focus ((repeat first|exact .head|apply Upd.tail);done)))));(exact Nat.le_refl _);(intro _ _ _))
   |((with_reducible apply hJ)<;>first|assumption|((focus ((repeat first|exact .head _|apply List.Mem.tail);done))))
   |(refine And.intro ?_ ?_))
 intro bp bx h2 g2 st L0 K2' mp mx m7 l2 hst
 have K2:Kn g2 h2 [(bp, .inl ⟨[.pointer (some ⟨bx,0,none⟩)],1,false⟩),(bx, .inl ⟨Jc M (au m.nodes 36) (au m.nodes 35) st ⟨none,0,0⟩ ⟨none,0,0⟩ 0 ⟨none,0,0⟩ 0 0,14,false⟩),(b7, .inl ⟨ax M,5,false⟩)]:=by
  refine K2'.sub (fun e he=>?_) ?_
  ·simp only [List.mem_cons,List.not_mem_nil,or_false]at he
   rcases he with rfl|rfl|rfl<;>assumption
  ·have n1:=dr (K2'.at mp) (K2'.at mx) (by simp)
   have n2:=dr (K2'.at mp) (K2'.at m7) (by simp)
   have n3:=dr (K2'.at mx) (K2'.at m7) (by simp)
   simp [n1,n2,n3]
 clear K2' mp mx m7 L0 K1
 have hs2:=hs.mono l2
 repeat' (refine kr_ ?_)
 rw [bU (n:=((au m.nodes 36:Nat):Int)+((au m.nodes 35:Nat):Int)) (by omega) (by omega),if_neg (by omega),<-Int.natCast_add,bV (by omega)]
 generalize hN:2^(au m.nodes 36+au m.nodes 35)=N at*
 have tN:Int.toNat (N:Int)=N:=Int.toNat_natCast N
 have nN:N*1=N:=Nat.mul_one N
 have zB:aL #[.bool false] N=dt (aN m).hold 0 N:=by rw [cc,jH]
 have zI:aL #[I 0] N=jl (aN m).next 0 N:=by rw [cc,Aq]
 simp only [tN,nN,zB,zI]
 clear tN nN zB zI
 refine ar (fun J=> ∀(bH bB bN:Nat) (h':Hp) (L0:List (Nat×Blk)),Kn g2 h' L0->(bp, .inl ⟨[.pointer (some ⟨bx,0,none⟩)],1,false⟩)∈L0->
  (bx, .inl ⟨Jc M (au m.nodes 36) (au m.nodes 35) st (arr bH N) (arr bB N) 0 (arr bN N) 0 0,14,false⟩)∈L0->(b7, .inl ⟨ax M,5,false⟩)∈L0->
  (bH, .inl ⟨dt (aN m).hold 0 N,N,false⟩)∈L0->(bB, .inl ⟨dt (aN m).hold 0 N,N,false⟩)∈L0->(bN, .inl ⟨jl (aN m).next 0 N,N,false⟩)∈L0->(bH≠bB/\bH≠bN/\bB≠bN)->J h') ?_ (fun J hJ=>?_)
 rotate_left
 ·repeat' (first
   |(refine kr_ ?_)
   |((with_reducible apply Kn.al);(assumption);(intro _ _ _ _ _))
   |(refine And.intro (by omega) ?_)
   |((((with_reducible apply Kn.wr);(assumption);((focus ((repeat first|exact .head|apply Upd.tail);done)))));(exact of_decide_eq_true rfl);(intro _ _ _))
   |((with_reducible apply hJ)<;>first|assumption|((focus ((repeat first|exact .head _|apply List.Mem.tail);done)))|((have hnd:=Kn.nd (by assumption);simp only [List.map_cons,List.map_nil,List.nodup_cons,List.mem_cons,List.not_mem_nil,not_or,or_false,not_false_eq_true,and_true,List.nodup_nil]at hnd;omega)))
   |(refine And.intro ?_ ?_))
 intro bH bB bN h3 L0 K3' mp mx m7 mH mB mN hne
 have e0:dt (aN m).hold 0 N=dt (aN m).bad 0 N:=by rw [<-jH,<-jH]
 rw [e0]at mB
 have n1:=dr (K3'.at mp) (K3'.at mx) (by simp)
 have n2:=dr (K3'.at mp) (K3'.at m7) (by simp)
 have n3:=dr (K3'.at mx) (K3'.at m7) (by simp)
 have hb1: ∀b∈ [bH,bB,bN],g2 b=none:=by
  intro b hb
  simp only [List.mem_cons,List.not_mem_nil,or_false]at hb
  rcases hb with rfl|rfl|rfl
  ·exact K3'.new _ mH
  ·exact K3'.new _ mB
  ·exact K3'.new _ mN
 have h0b:(dt (aN m).hold 0 N)[0]?=some (.bool false):=by rw [<-jH,List.getElem?_replicate,if_pos hp13']
 have h0b2:(dt (aN m).bad 0 N)[0]?=some (.bool false):=by rw [<-jH,List.getElem?_replicate,if_pos hp13']
 have h0n:(jl (aN m).next 0 N)[0]?=some (I 0):=by rw [<-Aq,List.getElem?_replicate,if_pos hp13']
 have dif: ∀{b c:Nat} {cs ds:List Value} {z y:Nat} {v w:Value},(b, .inl ⟨cs,z,false⟩)∈L0->(c, .inl ⟨ds,y,false⟩)∈L0->cs[0]?=some v->ds[0]?=some w->v≠w->b≠c:=by
  intro b c cs ds z y v w hb hc e1 e2 hvw hbc
  subst hbc
  have:=(K3'.at hb).symm.trans (K3'.at hc)
  simp only [Option.some.injEq,Sum.inl.injEq,Row.mk.injEq]at this
  rw [this.1,e2]at e1
  exact hvw (Option.some.inj e1).symm
 have K3:Kn g2 h3 (qv m bH bB bN 0++ [(bp, .inl ⟨[.pointer (some ⟨bx,0,none⟩)],1,false⟩),(bx, .inl ⟨Jc M (au m.nodes 36) (au m.nodes 35) st (arr bH N) (arr bB N) 0 (arr bN N) 0 0,14,false⟩),(b7, .inl ⟨ax M,5,false⟩)]):=by
  refine K3'.sub (fun e he=>?_) ?_
  ·simp only [qv,hN,List.mem_append,List.mem_cons,List.not_mem_nil,or_false]at he
   rcases he with (rfl|rfl|rfl)|rfl|rfl|rfl<;>assumption
  ·have a1:=dif mH mp h0b rfl (by simp)
   have a2:=dif mH mx h0b rfl (by simp)
   have a3:=dif mH m7 h0b rfl (by simp)
   have a4:=dif mB mp h0b2 rfl (by simp)
   have a5:=dif mB mx h0b2 rfl (by simp)
   have a6:=dif mB m7 h0b2 rfl (by simp)
   have a7:=dif mN mp h0n rfl (by simp)
   have a8:=dif mN mx h0n rfl (by simp)
   have a9:=dif mN m7 h0n rfl (by simp)
   simp [qv,hne.1,hne.2.1,hne.2.2,n1,n2,n3,a1,a2,a3,a4,a5,a6,a7,a8,a9]
 clear dif h0b h0b2 h0n e0 n1 n2 n3 mp mx m7 mH mB mN K3' L0 K2
 have Kf:Kn g2 h3 (qv m bH bB bN 0):=K3.sub (fun e he=>List.mem_append_left _ he) (by simp [qv,hne.1,hne.2.1,hne.2.2])
 have nB: ∀b∈ [bp,bx,b7],b∉ [bH,bB,bN]:=by
  have hnd:=K3.nd
  simp only [qv,List.cons_append,List.nil_append,List.map_cons,List.map_nil,List.nodup_cons,List.mem_cons,List.not_mem_nil,not_or,or_false,not_false_eq_true,and_true,List.nodup_nil]at hnd
  intro b hb hb2
  simp only [List.mem_cons,List.not_mem_nil,or_false]at hb hb2
  omega
 have f7:(h3.wo [bH,bB,bN]) b7=some (.inl ⟨ax M,5,false⟩):=by
  rw [rD (nB _ (by simp))];exact K3.at (by simp)
 have fp:(h3.wo [bH,bB,bN]) bp=some (.inl ⟨[.pointer (some ⟨bx,0,none⟩)],1,false⟩):=by
  rw [rD (nB _ (by simp))];exact K3.at (by simp)
 have fx:(h3.wo [bH,bB,bN]) bx=some (.inl ⟨Jc M (au m.nodes 36) (au m.nodes 35) st (arr bH N) (arr bB N) 0 (arr bN N) 0 0,14,false⟩):=by
  rw [rD (nB _ (by simp))];exact K3.at (by simp)
 have lB:g2.le (h3.wo [bH,bB,bN]):=Kf.leBase
 have hsB:=hs2.mono lB
 have hstB:=hst.mono lB
 have Kr:=Kn.of (te h3 [bH,bB,bN])
 repeat' (refine kr_ ?_)
 subst hN
 refine MP (B:= [bH,bB,bN]) (st:=fun c h'=>Kn (h3.wo [bH,bB,bN]) h' (qv m bH bB bN c)) hsB hm gd Kf.has (fun c h1 h2 K l=>K.mono l) Kf.base (fun c hc h4 t l4 K hpv R' hR'=>?_) (fun h4 l4 K4=>⟨rfl,?_⟩)
 ·exact yl hsB hm gd f7 fp fx hstB hc K hpv fun h5 K5=>hR' h5 ⟨Hp.le_trans K.leBase K5.le,K5.mem,fun e he=>by
   have:=K5.nd
   exact aC K.leBase (K5.new e he),K5.nd⟩ K5.le
 have K5:Kn g2 h4 (qv m bH bB bN (2^(au m.nodes 36+au m.nodes 35))++ [(bp, .inl ⟨[.pointer (some ⟨bx,0,none⟩)],1,false⟩),(bx, .inl ⟨Jc M (au m.nodes 36) (au m.nodes 35) st (arr bH (2^(au m.nodes 36+au m.nodes 35))) (arr bB (2^(au m.nodes 36+au m.nodes 35))) 0 (arr bN (2^(au m.nodes 36+au m.nodes 35))) 0 0,14,false⟩),(b7, .inl ⟨ax M,5,false⟩)]):=by
  refine⟨Hp.le_trans lB l4,fun e he=>?_,fun e he=>?_,K3.nd⟩
  ·rcases List.mem_append.1 he with he|he
   ·exact K4.mem e he
   ·simp only [List.mem_cons,List.not_mem_nil,or_false]at he
    rcases he with rfl|rfl|rfl
    ·exact l4 _ _ fp
    ·exact l4 _ _ fx
    ·exact l4 _ _ f7
  ·rcases List.mem_append.1 he with he|he
   ·have hm:e.1∈ [bH,bB,bN]:=by
     simp only [qv,List.mem_cons,List.not_mem_nil,or_false]at he
     rcases he with rfl|rfl|rfl<;>simp
    exact hb1 _ hm
   ·exact K3.new e (List.mem_append_right _ he)
 unfold qv at K5
 simp only [List.cons_append,List.nil_append]at K5
 clear K4 Kr hstB hsB lB fx fp f7 nB Kf K3 l4 h3
 have hil:=gd.il
 have hxl:=gd.xl
 have hin:=hs2.inits.len
 have hp36:(stP m).length<=m.nodes.length:=fW m.nodes 36
 have hnl:=gd.nl
 have hstn:st.n=(stP m).length:=by have:=hst.len;rw [ca]at this;exact this
 repeat' (refine kr_ ?_)
 refine uG (hs2.mono K5.le) hm gd (hs2.mono K5.le).nexts (by omega) ⟨_,rfl,?_⟩
 repeat' (refine kr_ ?_)
 refine kw_ ?_
 intro h5 K6 _
 clear K5
 repeat' (refine kr_ ?_)
 refine GW (hs2.mono K6.le) hm gd fun vt h6 l6 hvn hpv=>⟨vt,rfl,?_⟩
 have K7:=K6.mono l6
 clear K6 l6
 have hs6:=hs2.mono K7.le
 have hst6:=hst.mono K7.le
 have f7:h6 b7=some (.inl ⟨ax M,5,false⟩):=K7.at (by simp)
 have fp:h6 bp=some (.inl ⟨[.pointer (some ⟨bx,0,none⟩)],1,false⟩):=K7.at (by simp)
 repeat' (refine kr_ ?_)
 refine pE hs6 hm hst6 (dT gd 36) (ll gd 36) fun out ts h7 c1 hon=>⟨out,rfl,?_⟩
 have Kr:=Kn.of (Hp.le_trans c1.le (aY _ _))
 repeat' (refine kr_ ?_)
 have aV:=DC gd
 refine aw m.inits.length (fun j vs h'=> ∃ts:List Sl,vs= [.pointer (some ⟨b7,0,none⟩), .pointer (some ⟨bp,0,none⟩),vt.v,out.v,M.ini.v,I M.ini.n,I j]/\h6.le (h'.offS out)/\Buf h' out 1 (ts.map Sl.v)/\ts.length=(stP m).length/\
  ∀(i p:Nat) (t:Sl),(stP m)[i]?=some p->ts[i]?=some t->IntS (h'.offS out) t (VL (ze m j p))) ⟨ts,rfl,c1.le,c1.buf,by rw [c1.len,kK],fun i p t hp ht=>?_⟩ ?_
 ·obtain⟨b,e1,e2,e3⟩:=c1.row i t ht
  have hz:(cV m.nodes (stP m)).getD i []=ze m 0 p:=by
   unfold cV ze
   rw [List.getD_eq_getElem?_getD,List.getElem?_map,hp];rfl
  have hz4:((cV m.nodes (stP m)).getD i []).length<=4:=by
   unfold cV
   rw [List.getD_eq_getElem?_getD,List.getElem?_map,hp]
   simp only [Option.map_some,Option.getD_some,List.length_replicate]
   exact dW _ _
  rw [hz]at e1 e3 hz4
  rw [e1]
  exact⟨by dsimp only;omega,by simp [ca], .inr ⟨b,0,rfl,aD e3⟩⟩
 clear c1 Kr ts h7
 rintro j _ h8 next hj ⟨ts,rfl,l8,hbuf,htl,hts⟩ hnx
 have lo:=aY h8 out
 have l68:=Hp.le_trans l8 lo
 refine⟨_,_,_,_,vt,out,M.ini,_,_,rfl,?_⟩
 by_cases hlt:j<m.inits.length
 rotate_left
 ·have hje:j=m.inits.length:=by omega
  subst hje
  refine aG (by simp;omega) ?_
  have K9:=K7.mono l68
  have hbl:(qO m).length=(stP m).length:=by unfold qO lk;rw [List.length_map]
  have iss:IntSS h8 out ((qO m).map VL):=⟨ts,by rw [List.length_map,hbl];exact htl,hbuf.slc_of (by rw [hon];have:=ll gd 36;omega),fun i h1 h2=>by
   have hi:i<(stP m).length:=by omega
   have hpi:(stP m)[i]?=some (stP m)[i]:=List.getElem?_eq_getElem hi
   have:=(hts i _ _ hpi (List.getElem?_eq_getElem h1)).mono lo
   rw [<-Ns m hpi]at this
   rw [List.getElem_map]
   rwa [List.getD_eq_getElem?_getD,List.getElem?_eq_getElem (by rw [hbl];exact hi)]at this⟩
  have hs8:=hs6.mono l68
  clear hbuf hts
  repeat' (refine kr_ ?_)
  refine uG hs8 hm gd hs8.inits (by omega) ⟨_,rfl,?_⟩
  repeat' (refine kr_ ?_)
  refine FP hs8 hm gd.ok (hst6.mono l68) (dT gd 36) (ll gd 36) iss (FF gd) (by rw [gT gd];omega) ⟨_,rfl,?_⟩
  repeat' (refine kr_ ?_)
  refine kw_ ?_
  intro h9 K10 _
  repeat' (refine kr_ ?_)
  refine kw_ ?_
  intro h10 K11 _
  repeat' (refine kr_ ?_)
  refine k1 bx h10 (Hp.le_trans l2 K11.le) ⟨M,st,arr bH (2^(au m.nodes 36+au m.nodes 35)),arr bB (2^(au m.nodes 36+au m.nodes 35)),arr bN (2^(au m.nodes 36+au m.nodes 35)),K11.at (by((focus ((repeat first|exact .head _|apply List.Mem.tail);done)))),?_,?_,?_⟩
  ·refine⟨by dsimp only;omega,by simp [aN], .inr ⟨bH,0,rfl,?_⟩⟩
   have:=aD (K11.at (.head _))
   rwa [un]at this
  ·refine⟨by dsimp only;omega,by simp [aN], .inr ⟨bB,0,rfl,?_⟩⟩
   have:=aD (K11.at (.tail _ (.head _)))
   rwa [un]at this
  ·refine⟨by dsimp only;omega,by simp [aN,VL], .inr ⟨bN,0,rfl,?_⟩⟩
   have:=aD (K11.at (.tail _ (.tail _ (.head _))))
   rwa [KD]at this
 refine aK (by simp;omega) ?_
 obtain⟨bd,hbd⟩: ∃bd,m.inits[j]?=some bd:=⟨_,List.getElem?_eq_getElem hlt⟩
 obtain⟨v1,v2,v3,v4,s1,s2⟩:=De gd (List.mem_of_getElem? hbd)
 obtain⟨bi,oi,hai,cx1,cx2⟩:=(hs6.mono l68).inits.at hbd
 refine⟨bi,oi,hai,by omega,by omega,_,cx1,_,cx2,?_⟩
 refine ai fun b48 h9 hb48 l9 f48'=>?_
 (with_reducible apply bR);(exact f48');(exact l9);(exact hb48);(exact Nat.le_refl 2)
 intro h10 f48 kp l10
 have l10o:=bQ out l10
 have f48o:=hbuf.offS_new hb48 f48
 clear f48' kp l9
 have Kr:=Kn.of (Hp.le_trans l68 l10)
 have fx6:=K7.at (b:=bx) (.tail _ (.tail _ (.tail _ (.tail _ (.head _)))))
 repeat' (refine kr_ ?_)
 refine aw (stP m).length (fun q vs h'=> ∃ts:List Sl,vs= [.pointer (some ⟨b7,0,none⟩), .pointer (some ⟨bp,0,none⟩),vt.v,out.v, .pointer (some ⟨b48,0,none⟩),M.ini.v,I M.ini.n,I j,st.v,I st.n,I q]/\h6.le (h'.offS out)/\(h'.offS out) b48=some (.inl ⟨[I bd.state,I bd.node],2,false⟩)/\Buf h' out 1 (ts.map Sl.v)/\ts.length=(stP m).length/\
  ∀(i p:Nat) (t:Sl),(stP m)[i]?=some p->ts[i]?=some t->IntS (h'.offS out) t (VL (if i<q then ze m (j+1) p else ze m j p)))
  ⟨ts,rfl,Hp.le_trans l8 l10o,f48o,hbuf.mono l10,htl,fun i p t hp ht=>by rw [if_neg (by omega)];exact(hts i p t hp ht).mono l10o⟩ ?_
 clear Kr f48o l10o l10 f48 hb48 hbuf htl hts ts l68 lo l8 hai cx1 cx2 h9 h8 h10
 rintro q _ h8 next2 hq ⟨ts,rfl,l8,f48,hbuf,htl,hts⟩ hnx2
 have lo:=aY h8 out
 have l68:=Hp.le_trans l8 lo
 have g48:=lo _ _ f48
 refine⟨_,_,_,_,vt,out,_,_,_,_,_,st,_,_,rfl,?_⟩
 by_cases hlq:q<(stP m).length
 rotate_left
 ·refine aG (by simp;omega) ?_
  rw [aE (by omega)]
  refine hnx hlt _ _ ⟨ts,rfl,l8,hbuf,htl,fun i p t hp ht=>?_⟩
  have:=hts i p t hp ht
  rwa [if_pos (by have:=get_lt hp;omega)]at this
 refine aK (by simp;omega) ?_
 obtain⟨p,hpq⟩: ∃p,(stP m)[q]?=some p:=⟨_,List.getElem?_eq_getElem hlq⟩
 have hpm:=dT gd 36 p (List.mem_of_getElem? hpq)
 obtain⟨bq,oq,hap,hcp⟩:=(hst6.mono l68).get (gF hpq)
 refine ar (fun J=> ∀(ts':List Sl) (h':Hp),h6.le (h'.offS out)->(h'.offS out) b48=some (.inl ⟨[I bd.state,I bd.node],2,false⟩)->Buf h' out 1 (ts'.map Sl.v)->ts'.length=(stP m).length->
  (∀(i p:Nat) (t:Sl),(stP m)[i]?=some p->ts'[i]?=some t->IntS (h'.offS out) t (VL (if i<q+1 then ze m (j+1) p else ze m j p)))->J h') ?_ (fun J hJ=>?_)
 ·intro ts' h' a1 a2 a3 a4 a5
  rw [aE (by omega)]
  exact hnx2 hlq _ _ ⟨ts',rfl,a1,a2,a3,a4,a5⟩
 refine⟨bq,oq,hap,by omega,by omega,_,hcp,?_⟩
 (refine av ?_)
 have hst':=N5 gd hbd p
 refine ad (fun e=>?_) (fun e=>?_)
 ·rw [if_pos (bL e).symm]at hst'
  have f78:=l68 _ _ f7
  (refine av ?_)
  obtain⟨bn,on,han,hpn',c6,c7,w1,w16⟩:=(hs6.mono l68).nodes.sortc2 hpm gd.ok
  refine⟨bn,on,han,by omega,hpn',_,c6,_,c7,?_⟩
  (refine av ?_)
  obtain⟨bv,ov,t,hav,hvn',hcv,ht⟩:=(hpv.mono l68).at v1 (by rw [aV.len];exact v2)
  refine⟨bv,ov,hav,v1,hvn',t,hcv,?_⟩
  refine HU ht v3 v4 fun t2 h9 l9 ht2=>⟨t2,rfl,?_⟩
  rw [yn gd.ok hpm]at ht2
  have l9o:=bQ out l9
  have hbuf9:=hbuf.mono l9
  refine hbuf9.wr (x:=t2) (by omega) fun h10 hbuf' ho=>?_
  refine hJ _ h10 (by rw [ho];exact Hp.le_trans l8 l9o) (by rw [ho];exact l9o _ _ f48) hbuf' (by rw [List.length_set];exact htl) fun i p' u hp' hu=>?_
  rw [ho]
  by_cases hiq:i=q
  ·subst hiq
   rw [hpq]at hp';cases hp'
   rw [List.getElem?_set_self (by omega)]at hu
   obtain rfl:=Option.some.inj hu
   rw [if_pos (by omega),hst']
   exact ht2.offL hbuf9
  ·rw [List.getElem?_set_ne (fun e=>hiq e.symm)]at hu
   have:=(hts i p' u hp' hu).mono l9o
   by_cases h1:i<q
   ·rw [if_pos h1]at this;rw [if_pos (by omega)];exact this
   ·rw [if_neg h1]at this;rw [if_neg (by omega)];exact this
 ·rw [if_neg (fun e'=>aW e e'.symm)]at hst'
  refine hJ ts h8 l8 f48 hbuf htl fun i p' u hp' hu=>?_
  have:=hts i p' u hp' hu
  by_cases hiq:i=q
  ·subst hiq
   rw [hpq]at hp';cases hp'
   rw [if_neg (by omega)]at this
   rw [if_pos (by omega),hst'];exact this
  ·by_cases h1:i<q
   ·rw [if_pos h1]at this;rw [if_pos (by omega)];exact this
   ·rw [if_neg h1]at this;rw [if_neg (by omega)];exact this
theorem cJ.get {h:Hp} {t:Sl} {n:Nat} {T:Nat->Bool} (e:cJ h t n T) {i:Nat} (hi:i<n): ∃b o,t.a=some (Addr.mk b o none)/\(i:Int)<(t.n:Int)/\Hp.cell h b (o+Int.toNat (i:Int)*1)=some (.bool (T i)):=by
 have hl:=oT.len e
 rw [List.length_map,List.length_range]at hl
 obtain⟨b,o,ha,hc⟩:=SlC.get e (by omega)
 refine⟨b,o,ha,by omega,?_⟩
 rw [Int.toNat_natCast,Nat.mul_one]
 exact hc i _ (by simp [hi])
theorem cJ.len {h:Hp} {t:Sl} {n:Nat} {T:Nat->Bool} (e:cJ h t n T):t.n=n:=by
 have hl:=oT.len e
 rwa [List.length_map,List.length_range]at hl
theorem xQ.get {h:Hp} {t:Sl} {n:Nat} {f:Nat->Nat} (e:xQ h t n f) {i:Nat} (hi:i<n): ∃b o,t.a=some (Addr.mk b o none)/\(i:Int)<(t.n:Int)/\Hp.cell h b (o+Int.toNat (i:Int)*1)=some (I (f i:Nat)):=by
 have hl:=IntS.len e
 rw [ca,List.length_map,List.length_range]at hl
 obtain⟨b,o,ha,hc⟩:=SlC.get e (by omega)
 refine⟨b,o,ha,by omega,?_⟩
 rw [Int.toNat_natCast,Nat.mul_one]
 exact hc i _ (by simp [VL,hi])
theorem uf {h:Hp} {b s:Nat} {σ:ay} {R:Value->Hp->Prop} (hs:lT h b σ) (ok:σ.Ok) (hlt:s<2^σ.n) (k:R (.bool (σ.begins s)) h):jD #[.pointer (some ⟨b,0,none⟩),I s] h R:=by
 apply uH
 refine uf_ ?_
 obtain⟨M,st,hold,bad,next,fx,_,_,_⟩:=hs
 have h8:=Nat.pow_le_pow_right (n:=2) (by omega) ok.nle
 have h82:(2:Nat)^8=256:=rfl
 have hb:=ok.bfix
 have ha:=ok.bas
 refine df (df ?_)
 repeat' (refine av ?_)
 rw [pD (by omega) (by omega)]
 refine cX ?_ k
 unfold ay.begins
 rw [Bool.eq_iff_iff,decide_eq_true_eq,beq_iff_eq];omega
theorem IntS.up {h h':Hp} {s:Sl} {xs:List Int} (e:IntS h s xs) (l:h.le h'):IntS h' s xs:=e.mono l
theorem IntSS.up {h h':Hp} {s:Sl} {xs:List (List Int)} (e:IntSS h s xs) (l:h.le h'):IntSS h' s xs:=e.mono l
theorem aO.up {h h':Hp} {M:MSl} {m:ak} (e:aO h M m) (l:h.le h'):aO h' M m:=e.mono l
theorem kpU {h0 h h':Hp} {b:Nat} {x:Blk} {P:Prop} (f:h0 b=some x) (l1:h0.le h') (l2:h0.le h) (k:P):h' b=h b/\P:=⟨by rw [l1 _ _ f,l2 _ _ f],k⟩
theorem kpN {h0 h h':Hp} {b:Nat} {P:Prop} (f:h0 b≠none) (l1:h0.le h') (l2:h0.le h) (k:P):h' b=h b/\P:=by
 refine⟨?_,k⟩
 cases hb:h0 b with
 |none=>exact absurd hb f
 |some x=>rw [l1 _ _ hb,l2 _ _ hb]
theorem rdU {α:Type} {f:α->Value} {h0 h:Hp} {b z o:Nat} {cs:List Value} {ro:Bool} {x:α} {P:α->Prop} (e:h0 b=some (.inl ⟨cs,z,ro⟩)) (l:h0.le h) (c:cs[o]?=some (f x)) (k:P x): ∃y:α,Hp.cell h b o=some (f y)/\P y:=⟨x,by rw [am (l _ _ e)];exact c,k⟩
theorem ku_ {P Q:Prop} (k:Q) (h:Q->P:=by(first
 |((with_reducible apply rdU);(assumption);((focus ((repeat (first|exact Hp.le_refl _|assumption|(refine Hp.le_trans ?_ (by assumption))));done)));(exact rfl))
 |with_reducible exact And.intro (Eq.refl _)
 |with_reducible exact And.intro True.intro
 |with_reducible exact df
 |((with_reducible apply kpU);(assumption);((focus ((repeat (first|exact Hp.le_refl _|assumption|(refine Hp.le_trans ?_ (by assumption))));done)));((focus ((repeat (first|exact Hp.le_refl _|assumption|(refine Hp.le_trans ?_ (by assumption))));done))))
 |((with_reducible apply kpN);(assumption);((focus ((repeat (first|exact Hp.le_refl _|assumption|(refine Hp.le_trans ?_ (by assumption))));done)));((focus ((repeat (first|exact Hp.le_refl _|assumption|(refine Hp.le_trans ?_ (by assumption))));done))))
 |fail)):P:=h k
set_option maxHeartbeats 2000000 in
theorem vZ {h:Hp} {M:MSl} {m:ak} {c:Nat} {R:Value->Hp->Prop} (hs:aO h M m) (hm:bZ m) (g:ey m) (hc:c<2^(au m.nodes 36+au m.nodes 35))
  (k: ∀t h',h.le h'->t.n=m.nodes.length->jf h' t (dx m (c%2^au m.nodes 36) (c/2^au m.nodes 36))->V0 h t->R (Sl.v t) h'):kw #[aR M,I c] h R:=by
 apply A4
 refine uf_ ?_
 have hn8:=g.n8
 have hk5:=g.k5
 have hp13:=H1 g
 have hp8:=Wx g
 have h1':c%2^au m.nodes 36<=c:=Nat.mod_le _ _
 have h2':c/2^au m.nodes 36<=c:=Nat.div_le_self _ _
 have hpp:=bk (au m.nodes 36)
 have hs36:co m.nodes (aX m.nodes 36)<=60:=by have:=gT g;show co m.nodes (stP m)<=60;omega
 have hs35:co m.nodes (aX m.nodes 35)<=60:=by have:=BX g;show co m.nodes (inP m)<=60;omega
 have hshr:mK (c:Int) ((au m.nodes 36:Nat):Int)=((c/2^au m.nodes 36:Nat):Int):=jt (by omega)
 have hmod:Int.tmod (c:Int) (((2^au m.nodes 36:Nat)):Int)=((c%2^au m.nodes 36:Nat):Int):=eW _ _
 have hwu:IntKind.wrap .u64 ((au m.nodes 36:Nat):Int)=(au m.nodes 36:Nat):=cA (by omega)
 have hsh1:aq 1 ((au m.nodes 36:Nat):Int)=((2^au m.nodes 36:Nat):Int):=bV (by omega)
 refine ai fun b8 h1 hb8 l1 f8=>?_
 clear hb8
 repeat' (refine ku_ ?_)
 refine fT (hs.mono l1) hm ⟨_,rfl,?_⟩
 simp only [hwu,hsh1,hshr,hmod]
 repeat' (first
  |(refine ku_ ?_)
  |(rw [if_neg (by omega)])
  |(refine dj (hs.up (by((focus ((repeat (first|exact Hp.le_refl _|assumption|(refine Hp.le_trans ?_ (by assumption))));done))))) hm fun _ _ _ _=>⟨_,rfl,?_⟩)
  |(refine eP (hs.up (by((focus ((repeat (first|exact Hp.le_refl _|assumption|(refine Hp.le_trans ?_ (by assumption))));done))))) hm g.ok (IntS.up (by assumption) (by((focus ((repeat (first|exact Hp.le_refl _|assumption|(refine Hp.le_trans ?_ (by assumption))));done))))) (dT g 36) (ll g 36) (by omega) hs36 fun _ _ _ _=>⟨_,rfl,?_⟩)
  |(refine eP (hs.up (by((focus ((repeat (first|exact Hp.le_refl _|assumption|(refine Hp.le_trans ?_ (by assumption))));done))))) hm g.ok (IntS.up (by assumption) (by((focus ((repeat (first|exact Hp.le_refl _|assumption|(refine Hp.le_trans ?_ (by assumption))));done))))) (dT g 35) (ll g 35) (by omega) hs35 fun _ _ _ _=>⟨_,rfl,?_⟩)
  |(refine mM (hs.up (by((focus ((repeat (first|exact Hp.le_refl _|assumption|(refine Hp.le_trans ?_ (by assumption))));done))))) hm g.ok g.nl (IntSS.up (by assumption) (by((focus ((repeat (first|exact Hp.le_refl _|assumption|(refine Hp.le_trans ?_ (by assumption))));done))))) (nZ 36 (c%2^au m.nodes 36) g) (IntSS.up (by assumption) (by((focus ((repeat (first|exact Hp.le_refl _|assumption|(refine Hp.le_trans ?_ (by assumption))));done))))) (nZ 35 (c/2^au m.nodes 36) g) fun t h' l hn hpv hw=>⟨_,rfl,k t h' (by((focus ((repeat (first|exact Hp.le_refl _|assumption|(refine Hp.le_trans ?_ (by assumption))));done)))) hn hpv fun b o hb=>aC (by((focus ((repeat (first|exact Hp.le_refl _|assumption|(refine Hp.le_trans ?_ (by assumption))));done)))) (hw b o hb)⟩)
  |(refine And.intro ?_ ?_))
def ji (ps:List Nat) (f:Nat->Option (List Nat)) (vs:List (List Nat)) (n:Nat):Bool:=(List.range n).all fun i=>match ps[i]? with
 |some p=>(match f p with|some v=>decide (vs.getD i []=v)|none=>true)
 |none=>true
theorem Ap {ps:List Nat} {f:Nat->Option (List Nat)} {vs:List (List Nat)} {i p:Nat} (h:ps[i]?=some p):ji ps f vs (i+1)=(ji ps f vs i&&(match f p with|some v=>decide (vs.getD i []=v)|none=>true)):=by
 unfold ji
 rw [List.range_succ,List.all_append]
 simp only [List.all_cons,List.all_nil,Bool.and_true,h]
theorem wP {ps:List Nat} {f:Nat->Option (List Nat)} {vs:List (List Nat)}:ji ps f vs ps.length=true↔ ∀(i p:Nat),ps[i]?=some p-> ∀v,f p=some v->vs.getD i []=v:=by
 unfold ji
 rw [List.all_eq_true]
 constructor
 ·intro h i p hp v hv
  have:=h i (List.mem_range.2 (get_lt hp))
  rw [hp]at this
  simp only [hv,decide_eq_true_eq]at this
  exact this
 ·intro h i hi
  cases hp:ps[i]? with
  |none=>rfl
  |some p=>
   simp only
   cases hv:f p with
   |none=>rfl
   |some v=>simpa using h i p hp v hv
theorem FW {ps:List Nat} {f:Nat->Option (List Nat)} {vs:List (List Nat)} {i:Nat} (hi:i<=ps.length) (h:ji ps f vs i=false):ji ps f vs ps.length=false:=by
 unfold ji at h⊢
 rw [List.all_eq_false]at h⊢
 obtain⟨x,hx,hn⟩:=h
 exact⟨x,List.mem_range.2 (by have:=List.mem_range.1 hx;omega),hn⟩
theorem Ak {h:Hp} {M:MSl} {m:ak} {s t:Sl} {ps:List Nat} {vs:List (List Nat)} {R:Value->Hp->Prop} (hs:aO h M m) (hm:bZ m) (hok:ce m.nodes=true) (hp:IntS h s (VL ps)) (hps: ∀p∈ps,p<m.nodes.length) (hpl:ps.length<=1048576)
  (hv:IntSS h t (vs.map VL)) (hf:kV m.nodes ps vs) (k:R (.bool true) h):nc #[aR M,s.v,t.v] h R:=by
 refine ACalls.drop (EZ ?_)
 refine uf_ ?_
 have hn:=hs.nodes.len
 have hsn:=hp.len
 rw [ca]at hsn
 have htn:=hv.len
 rw [List.length_map]at htn
 have hvl:=qg hf
 refine ai fun b9 h1 hb9 l1 f9=>?_
 refine aG (by simp;omega) ?_
 refine aw ps.length (fun i ws h'=>h.le h'/\h' b9=some (.inl ⟨ax M,5,false⟩)/\ws= [s.v,t.v, .pointer (some ⟨b9,0,none⟩),I i]) ⟨l1,f9,rfl⟩ ?_
 clear f9 l1 hb9 h1
 rintro i _ h1 next hi ⟨l1,f9,rfl⟩ hnx
 refine⟨s,t,_,_,_,rfl,?_⟩
 by_cases hlt:i<ps.length
 rotate_left
 ·exact aG (by simp;omega) ⟨_,l1,k⟩
 refine aK (by simp;omega) ?_
 obtain⟨p,hpi⟩: ∃p,ps[i]?=some p:=⟨_,List.getElem?_eq_getElem hlt⟩
 have hpm:=hps p (List.mem_of_getElem? hpi)
 obtain⟨b,o,ha,hc⟩:=(hp.mono l1).get (gF hpi)
 refine⟨b,o,ha,by omega,by omega,?_⟩
 (refine av ?_)
 refine⟨_,hc,?_⟩
 obtain⟨bn,on,han,hpn',c6,c7,w1,w16⟩:=(hs.mono l1).nodes.sortc2 hpm hok
 refine⟨bn,on,han,by omega,hpn',_,c6,_,c7,?_⟩
 obtain⟨bt,ot,c,hta,htc,hcv⟩:=(hv.mono l1).getV (i:=i) (by omega)
 have xbt:=m4 htc
 have xbn:=m4 c6
 have xb:=m4 hc
 have xb9:=gW f9
 refine ai fun b36 h2 hb36 l2 f36'=>?_
 have n9:=fresh_ne hb36 f9
 have nt:=sK hb36 htc
 repeat' (((with_reducible apply jC);(assumption);(assumption)))
 (with_reducible apply bR);(exact f36');(exact Hp.le_trans l1 l2);(exact aC l1 hb36);(exact Nat.le_refl 2)
 intro h3 f36 kp l3
 have l13:h1.le h3:=fj hb36 l2 kp
 have f93:=l13 _ _ f9
 have f36v:h3 b36=some (.inl ⟨[I (az m.nodes p).idx,I (cd m.nodes p)],2,false⟩):=f36
 refine⟨bt,ot,hta,by omega,by omega,c,l13.cell htc,?_⟩
 repeat' (refine av ?_)
 refine fz ⟨_,rfl,?_⟩
 rw [yn hok hpm]
 have hg:=nr hf hpi
 have hcn:=hcv.len
 rw [ca]at hcn
 have hcl:=dW m.nodes p
 repeat' (refine av ?_)
 refine aG (by simp;omega) ?_
 have hcv3:=hcv.mono l13
 refine aw (aJ m.nodes p) (fun q ws h'=>h'=h3/\ws= [s.v,t.v, .pointer (some ⟨b9,0,none⟩),I i, .pointer (some ⟨b36,0,none⟩),I q]) ⟨rfl,rfl⟩ ?_
 rintro q _ _ next2 hq ⟨rfl,rfl⟩ hnx2
 rename_i h3
 refine⟨s,t,_,_,_,_,_,_,rfl,?_⟩
 refine⟨bt,ot,hta,by omega,by omega,c,l13.cell htc,?_⟩
 by_cases hlq:q<aJ m.nodes p
 rotate_left
 ·refine aG (by simp;omega) ?_
  rw [aE (by omega)]
  exact hnx hlt _ _ ⟨l3,f93,rfl⟩
 refine aK (by simp;omega) ?_
 refine⟨bt,ot,hta,by omega,by omega,?_⟩
 (refine av ?_)
 refine⟨c,l13.cell htc,?_⟩
 obtain⟨bc,oc,hca,hcc,hln⟩:=hcv3.elt (i:=q) (by omega)
 refine⟨bc,oc,hca,by omega,by omega,_,hcc,?_⟩
 have hlt2:(vs.getD i []).getD q 0<2^cd m.nodes p:=by
  rw [List.getD_eq_getElem?_getD,List.getElem?_eq_getElem (show q<(vs.getD i []).length by omega)]
  exact hg.2 _ (List.getElem_mem _)
 refine cg ⟨_,rfl,aG ?_ ?_⟩
 ·rw [Bool.not_eq_false',iy]
  refine⟨by omega,by omega,?_⟩
  rw [Int.toNat_natCast];omega
 ·rw [aE (by omega)]
  exact hnx2 hlq _ _ ⟨rfl,rfl⟩
theorem fB {h:Hp} {M:MSl} {m:ak} {t:Sl} {vs:List (List Nat)} {R:Value->Hp->Prop} (hs:aO h M m) (hm:bZ m) (hc:aA m=0)
  (hv:IntSS h t (vs.map VL)) (hf:kV m.nodes (stP m) vs) (k:R (.bool true) h):eG #[aR M,t.v] h R:=by
 refine ACalls.drop (zJ ?_)
 refine uf_ ?_
 have g:=di hc
 refine ai fun b8 h1 hb8 l1 f8=>?_
 repeat' (refine ku_ ?_)
 refine bK (hs.up (by((focus ((repeat (first|exact Hp.le_refl _|assumption|(refine Hp.le_trans ?_ (by assumption))));done))))) hm ⟨_,rfl,aK (by rw [hc];rfl) ?_⟩
 repeat' (refine ku_ ?_)
 refine dj (hs.up (by((focus ((repeat (first|exact Hp.le_refl _|assumption|(refine Hp.le_trans ?_ (by assumption))));done))))) hm fun p h2 l2 i2=>⟨p,rfl,?_⟩
 repeat' (refine ku_ ?_)
 exact Ak (hs.up (by((focus ((repeat (first|exact Hp.le_refl _|assumption|(refine Hp.le_trans ?_ (by assumption))));done))))) hm g.ok i2 (dT g 36) (ll g 36) (hv.up (by((focus ((repeat (first|exact Hp.le_refl _|assumption|(refine Hp.le_trans ?_ (by assumption))));done))))) hf ⟨_,rfl,h,by((focus ((repeat (first|exact Hp.le_refl _|assumption|(refine Hp.le_trans ?_ (by assumption))));done))),k⟩
theorem Kj {m:ak} (g:ey m) {p k:Nat} (h:cm m.inits p=some k):k<m.nodes.length/\0<((r5 m).getD k []).length/\((r5 m).getD k []).length<=4:=by
 obtain⟨b,hb,_,rfl⟩:=mJ h
 obtain⟨v1,v2,v3,v4,_,_⟩:=De g hb
 exact⟨by omega,v3,v4⟩
theorem pM {h:Hp} {M:MSl} {m:ak} {t:Sl} {vs:List (List Nat)} {R:Value->Hp->Prop} (hs:aO h M m) (hm:bZ m) (hc:aA m=0)
  (hv:IntSS h t (vs.map VL)) (hf:kV m.nodes (stP m) vs) (k:R (.bool (ji (stP m) (jU m) vs (stP m).length)) h):gk #[aR M,t.v] h R:=by
 refine ACalls.drop (Ba ?_)
 refine uf_ ?_
 have g:=di hc
 have hil:=g.il
 have hnl:=g.nl
 have hp36:(stP m).length<=m.nodes.length:=fW m.nodes 36
 have htn:=hv.len
 rw [List.length_map]at htn
 have hvl:=qg hf
 have hbn: ∀b∈m.inits,0<=b.node:=fun b hb=>(De g hb).1
 refine ai fun b8 h1 hb8 l1 f8=>?_
 repeat' (refine ku_ ?_)
 refine fB (hs.up (by((focus ((repeat (first|exact Hp.le_refl _|assumption|(refine Hp.le_trans ?_ (by assumption))));done))))) hm hc (hv.up (by((focus ((repeat (first|exact Hp.le_refl _|assumption|(refine Hp.le_trans ?_ (by assumption))));done))))) hf ⟨_,rfl,aG rfl ?_⟩
 repeat' (refine ku_ ?_)
 refine GP (hs.up (by((focus ((repeat (first|exact Hp.le_refl _|assumption|(refine Hp.le_trans ?_ (by assumption))));done))))) hm g fun vt h2 l2 hvn hpv=>⟨vt,rfl,?_⟩
 repeat' (refine ku_ ?_)
 refine dj (hs.up (by((focus ((repeat (first|exact Hp.le_refl _|assumption|(refine Hp.le_trans ?_ (by assumption))));done))))) hm fun pt h3 l3 ip=>⟨pt,rfl,?_⟩
 have hpn:pt.n=(stP m).length:=by have:=ip.len;rw [ca]at this;exact this
 have f83:=l3 _ _ (l2 _ _ f8)
 have hpv3:=hpv.mono l3
 have l03:=Hp.le_trans l1 (Hp.le_trans l2 l3)
 have aV:=DC g
 clear l2 l3 l1 hb8 f8 hpv h2
 refine aw (stP m).length (fun i ws h'=>h3.le h'/\ws= [t.v, .pointer (some ⟨b8,0,none⟩),vt.v,pt.v,I i]/\ji (stP m) (jU m) vs i=true) ⟨Hp.le_refl _,rfl,rfl⟩ ?_
 rintro i _ h4 next hi ⟨l4,rfl,hg⟩ hnx
 have l04:=Hp.le_trans l03 l4
 refine⟨t,_,_,vt,pt,_,rfl,?_⟩
 by_cases hlt:i<(stP m).length
 rotate_left
 ·have hie:i=(stP m).length:=by omega
  subst hie
  refine aG (by simp;omega) ⟨_,l04,cX hg.symm k⟩
 refine aK (by simp;omega) ?_
 obtain⟨p,hpi⟩: ∃p,(stP m)[i]?=some p:=⟨_,List.getElem?_eq_getElem hlt⟩
 have hsucc:=Ap (f:=jU m) (vs:=vs) hpi
 rw [hg,Bool.true_and]at hsucc
 obtain⟨b,o,ha,hcc⟩:=(ip.mono l4).get (gF hpi)
 refine⟨b,o,ha,by omega,by omega,?_⟩
 (refine ku_ ?_)
 refine⟨_,hcc,?_⟩
 refine pn (hs.mono l04).inits (by omega) hbn ⟨_,rfl,?_⟩
 refine ar (fun J=> ∀h',h4.le h'->J (!ji (stP m) (jU m) vs (i+1)) h') ?_ (fun J hJ=>?_)
 ·intro h' l'
  refine ad (fun e=>⟨_,Hp.le_trans l04 l',cX ?_ k⟩) (fun e=>?_)
  ·symm;exact FW (i:=i+1) (by omega) (by simpa using e)
  ·rw [aE (by omega)]
   exact hnx hlt _ _ ⟨Hp.le_trans l4 l',rfl,by simpa using e⟩
 cases hbo:cm m.inits p with
 |none=>
  rw [show jz m.inits p= -1 from by unfold jz;rw [hbo]]
  refine aG (by simp) ⟨trivial,?_⟩
  have hn:jU m p=none:=by unfold jU;rw [hbo];rfl
  rw [hn]at hsucc
  have:=hJ h4 (Hp.le_refl _)
  rw [hsucc]at this;exact this
 |some q=>
  rw [show jz m.inits p=(q:Int)from by unfold jz;rw [hbo]]
  refine aK (by simp) ?_
  obtain⟨hq,v3,v4⟩:=Kj g hbo
  have hsm:jU m p=some (uF (aJ m.nodes p) ((r5 m).getD q [])):=by unfold jU;rw [hbo];rfl
  have hfit:=rN g hsm
  have hcl:=dW m.nodes p
  have hgv:=nr hf hpi
  rw [hsm]at hsucc
  obtain⟨bt,ot,c,hta,htc,hcv⟩:=(hv.mono l04).getV (i:=i) (by omega)
  obtain⟨bv,ov,u,hua,hun,huc,huv⟩:=(hpv3.mono l4).at (p:=(q:Int)) (by omega) (by rw [aV.len];omega)
  have hcn:=hcv.len
  rw [ca]at hcn
  refine⟨bt,ot,hta,by omega,by omega,bv,ov,hua,by omega,hun,bt,ot,hta,by omega,by omega,c,htc,u,huc,c,htc,?_⟩
  rw [Int.toNat_natCast]at huv
  rw [hcn,hgv.1]
  have xbt:=m4 htc
  refine Il huv v3 v4 hcl fun w h5 l5 hw=>⟨w,rfl,?_⟩
  repeat' (((with_reducible apply jC);(assumption);(assumption)))
  refine tZ (hcv.mono l5) hw (by rw [ca];omega) (by rw [ca,ca,hgv.1,hfit.1];exact Nat.le_refl _) ⟨_,rfl,?_⟩
  have:=hJ h5 l5
  simp only at hsucc
  rw [hsucc]at this
  have e2:decide (VL (vs.getD i [])=VL (uF (aJ m.nodes p) ((r5 m).getD q [])))=decide (vs.getD i []=uF (aJ m.nodes p) ((r5 m).getD q [])):=by
   rw [Bool.eq_iff_iff,decide_eq_true_eq,decide_eq_true_eq,Gy]
  rw [e2];exact this
section
variable {g h h':Hp} {L L' A B X:List (Nat×Blk)}
theorem Kn.app (K:Kn g h L) (l:h.le h') (n: ∀e∈X,h e.1=none) (f: ∀e∈X,h' e.1=some e.2) (nd:(X.map Prod.fst).Nodup):Kn g h' (L++X):=by
 refine⟨Hp.le_trans K.le l,fun e he=>?_,fun e he=>?_,?_⟩
 ·rcases List.mem_append.1 he with he|he
  ·exact l _ _ (K.mem e he)
  ·exact f e he
 ·rcases List.mem_append.1 he with he|he
  ·exact K.new e he
  ·exact aC K.le (n e he)
 ·rw [List.map_append,List.nodup_append]
  refine⟨K.nd,nd,fun a ha b hb hab=>?_⟩
  obtain⟨e,he,rfl⟩:=List.mem_map.1 ha
  obtain⟨e',he',rfl⟩:=List.mem_map.1 hb
  have h1:=K.mem e he
  have h2:=n e' he'
  rw [hab,h2]at h1;cases h1
theorem Kn.split (K:Kn g h (A++B)):Kn (h.wo (B.map Prod.fst)) h B/\Kn g (h.wo (B.map Prod.fst)) A:=by
 have nd:=K.nd
 rw [List.map_append,List.nodup_append]at nd
 refine⟨⟨te _ _,fun e he=>K.mem e (List.mem_append_right _ he),fun e he=>en (List.mem_map.2 ⟨e,he,rfl⟩),nd.2.1⟩,?_,fun e he=>?_,fun e he=>K.new e (List.mem_append_left _ he),nd.1⟩
 ·exact pA K.le fun b hb=>by
   obtain⟨e,he,rfl⟩:=List.mem_map.1 hb
   exact K.new e (List.mem_append_right _ he)
 ·rw [rD]
  ·exact K.mem e (List.mem_append_left _ he)
  ·intro hb
   exact nd.2.2 _ (List.mem_map.2 ⟨e,he,rfl⟩) _ hb rfl
theorem Kn.off (K:Kn g h L) {b:Nat} {x y:Blk} (u:Upd L b x y L') (l:(h.off b).le h') (f:h' b=some y):Kn g h' L':=by
 refine⟨?_,fun e he=>?_,fun e he=>?_,by rw [u.keys];exact K.nd⟩
 ·exact Hp.le_trans (sA (K.new (b,x) u.mem) K.le) l
 ·rcases u.out K.nd e he with rfl|⟨h1,h2⟩
  ·exact f
  ·refine l _ _ ?_
   simp only [Hp.off,Hp.set];rw [if_neg h2];exact K.mem e h1
 ·rcases u.out K.nd e he with rfl|⟨h1,h2⟩
  ·exact K.new (b,x) u.mem
  ·exact K.new e h1
def oP (X:List (Nat×Blk)) (s:Sl) (sz:Nat) (cs:List Value):Prop:=
 cs.length=s.n*sz/\s.n<=9223372036854775807/\((s.n=0/\X= [])\/(s.n≠0/\ ∃b z,s.a=some ⟨b,0,none⟩/\X= [(b, .inl ⟨cs,z,false⟩)]))
theorem oP.own {s:Sl} {sz:Nat} {cs:List Value} (o:oP X s sz cs) (K:Kn g h (L++X)):Own h s sz cs:=by
 refine⟨o.1,o.2.1,?_⟩
 rcases o.2.2 with ⟨h0,_⟩|⟨_,b,z,ha,rfl⟩
 ·exact .inl h0
 ·exact .inr ⟨b,z,ha,K.at (by simp)⟩
end
theorem list9 {cs:List Value} (h:cs.length=9): ∃a b c d e f g i j,cs= [a,b,c,d,e,f,g,i,j]:=by
 match cs,h with
 | [a,b,c,d,e,f,g,i,j],_=>exact⟨a,b,c,d,e,f,g,i,j,rfl⟩
theorem list2 {cs:List Value} (h:cs.length=2): ∃a b,cs= [a,b]:=by
 match cs,h with
 | [a,b],_=>exact⟨a,b,rfl⟩
theorem Got.flat {P:Program} {W:World} {t e:TypeId} {v:Value} {α:Type} {f:α->List Value} {m:Nat} {p:α->Prop} (hf: ∀x,(f x).length=m) (hpos:0<m) (ht:P.underlying t=some (.slice e)) (hsz:P.cellsOf e=m)
  (hg: ∀ds,Got P W e ds-> ∃x,ds=f x/\p x) (g:Got P W t [v]): ∃(s:Sl) (l:List α),v=s.v/\s.n<=s.c/\SlC (hW W) s m (l.flatMap f)/\ ∀x∈l,p x:=by
 obtain⟨s,hs,hm,hlc,h⟩:=Got.slice ht hsz hpos g
 simp only [List.cons.injEq,and_true]at hs
 rcases h with h|⟨b,o,ha,h⟩
 ·exact⟨s, [],hs,hlc,⟨hm,by simp [h], .inl h⟩,by simp⟩
 obtain⟨xs,hl,hx⟩:=BM (p:=fun i (x:α)=>(∀(j:Nat) v,(f x)[j]?=some v->Hp.cell (hW W) b (o+i*m+j)=some v)/\p x) s.n fun i hi=>by
  obtain⟨ds,hd,hgd,hc⟩:=h i hi
  obtain⟨x,rfl,hp⟩:=hg ds hgd
  exact⟨x,hc,hp⟩
 refine⟨s,xs,hs,hlc,⟨hm,by rw [gw hf,hl], .inr ⟨b,o,ha,?_⟩⟩,?_⟩
 ·intro i v hv
  have hi:i<(xs.flatMap f).length:=(List.getElem?_eq_some_iff.1 hv).1
  rw [gw hf]at hi
  have hq:i/m<xs.length:=by rw [Nat.div_lt_iff_lt_mul hpos];exact hi
  have hr:i%m<m:=Nat.mod_lt _ hpos
  have he:i=i/m*m+i%m:=by rw [Nat.mul_comm];exact(Nat.div_add_mod _ _).symm
  rw [he,ue hf xs (i/m) xs[i/m] (i%m) (List.getElem?_eq_getElem hq) hr]at hv
  have:=(hx (i/m) hq).1 _ _ hv
  rw [he,<-Nat.add_assoc];exact this
 ·intro x hxm
  obtain⟨i,hi,rfl⟩:=List.getElem_of_mem hxm
  exact(hx i hi).2
def tb (n:Nat) (T:Nat->Bool):List Value:=(List.range n).map fun i=> .bool (T i)
theorem fD (n:Nat) (T:Nat->Bool):(tb n T).length=n:=by simp [tb]
theorem mC {n j:Nat} {T:Nat->Bool} (hj:j<n):(tb n T)[j]?=some (.bool (T j)):=by simp [tb,hj]
theorem UF {n:Nat} {T U:Nat->Bool} (h: ∀j,j<n->T j=U j):tb n T=tb n U:=by
 refine List.map_congr_left fun j hj=>?_
 rw [h j (List.mem_range.1 hj)]
theorem jd (n:Nat):List.replicate n (.bool false)=tb n fun _=>false:=by
 refine List.ext_getElem (by simp [tb]) fun i h1 h2=>?_
 simp [tb]
theorem j4 {n j:Nat} {T:Nat->Bool} {v:Bool}:(tb n T).set j (.bool v)=tb n fun i=>if i=j then v else T i:=by
 refine List.ext_getElem (by simp [tb]) fun i h1 h2=>?_
 rw [List.getElem_set]
 simp only [tb,List.getElem_map,List.getElem_range]
 by_cases e:i=j
 ·rw [if_pos e,if_pos e.symm]
 ·rw [if_neg e,if_neg fun h=>e h.symm]
theorem UD (n:Nat) (T:Nat->Bool):tb n T=((List.range n).map T).map Value.bool:=by simp [tb]
theorem iT {h:Hp} {b n z:Nat} {ro:Bool} {T U:Nat->Bool} (hn:n<=9223372036854775807) (f:h b=some (.inl ⟨tb n T,z,ro⟩)) (e: ∀j,j<n->T j=U j):cJ h (arr b n) n U:=by
 refine⟨by dsimp only;omega,by simp, .inr ⟨b,0,rfl,?_⟩⟩
 have:=aD f
 rwa [UF e,UD]at this
theorem ee {σ:ay} (ok:σ.Ok):2^σ.n<=256:=by
 have:=Nat.pow_le_pow_right (n:=2) (by omega) ok.nle
 simpa using this
theorem zq {σ:ay} (ok:σ.Ok):2^σ.k<=32:=by
 have:=Nat.pow_le_pow_right (n:=2) (by omega) ok.kle
 simpa using this
theorem nM {σ:ay} (ok:σ.Ok):2^(σ.n+σ.k)<=8192:=by
 have h1:=ok.nle
 have h2:=ok.kle
 have:=Nat.pow_le_pow_right (n:=2) (by omega) (show σ.n+σ.k<=13 by omega)
 simpa using this
theorem BC {h:Hp} {b s i:Nat} {σ:ay} {R:Value->Hp->Prop} (hs:lT h b σ) (ok:σ.Ok) (h1:s<2^σ.n) (h2:i<2^σ.k) (k:R (I (σ.at_ s i:Nat)) h):
  fQ #[.pointer (some ⟨b,0,none⟩),I s,I i] h R:=by
 apply zC
 refine uf_ ?_
 obtain⟨M,st,hold,bad,next,fx,_,_,_⟩:=hs
 have hn:=ee ok
 have hk:=nM ok
 have hl:=ay.at_lt h1 h2
 have h8:=ok.nle
 unfold ay.at_ at hl k
 refine df ?_
 (refine av ?_)
 rw [if_neg (by omega),gz (by omega) (by omega),xH (by omega) (by omega)]
 refine oe ?_ k
 rw [<-Nat.shiftLeft_eq,<-Nat.shiftLeft_add_eq_or_of_lt h1,Nat.shiftLeft_eq]
theorem Ha {h:Hp} {b c:Nat} {σ:ay} {R:Value->Hp->Prop} (hs:lT h b σ) (hc:c<2^(σ.n+σ.k)) (k:R (.bool (σ.hold c)) h):
  mv #[.pointer (some ⟨b,0,none⟩),I c] h R:=by
 apply tG
 refine uf_ ?_
 obtain⟨M,st,hold,bad,next,fx,hh,_,_⟩:=hs
 refine df ?_
 (refine av ?_)
 obtain⟨b',o',ha,h1,h2⟩:=hh.get hc
 exact⟨b',o',ha,by omega,h1,_,h2,k⟩
theorem uW {h:Hp} {b c:Nat} {σ:ay} {R:Value->Hp->Prop} (hs:lT h b σ) (hc:c<2^(σ.n+σ.k)) (k:R (.bool (σ.ends c)) h):
  fV #[.pointer (some ⟨b,0,none⟩),I c] h R:=by
 apply wz
 refine uf_ ?_
 obtain⟨M,st,hold,bad,next,fx,hh,hb,_⟩:=hs
 refine df ?_
 (refine av ?_)
 obtain⟨b',o',ha,h1,h2⟩:=hh.get hc
 refine⟨b',o',ha,by omega,h1,_,h2,?_⟩
 unfold ay.ends at k
 refine ad (fun e=>?_) (fun e=>?_)
 ·refine df ?_
  (refine av ?_)
  obtain⟨b',o',ha,h1,h2⟩:=hb.get hc
  refine⟨b',o',ha,by omega,h1,_,h2,cX ?_ k⟩
  rw [e];rfl
 ·rw [e]at k;exact k
def VV (h:Hp) (fid:FuncId) (u w:Array Value) (σ:ay) (f:Nat->Nat->Bool):Prop:=
 ∀s i:Nat,s<2^σ.n->i<2^σ.k-> ∀h':Hp,h.le h'-> ∀R:Value->Hp->Prop,R (.bool (f s (σ.at_ s i))) h'->ACalls PR fid ((u++ #[I s,I (σ.at_ s i:Nat)])++w) h' R
theorem rP {h:Hp} {b:Nat} {σ:ay} {fid:FuncId} {u w:Array Value} {f:Nat->Nat->Bool} {R:Value->Hp->Prop} (hs:lT h b σ) (ok:σ.Ok) (hf:VV h fid u w σ f)
  (k: ∀t h',h.le h'->cJ (h'.sub h) t (2^σ.n) (σ.some_ f)->R (Sl.v t) h'):dS #[.pointer (some ⟨b,0,none⟩), .func (.func fid) u w] h R:=by
 apply xa
 refine uf_ ?_
 have hn:=ee ok
 have hk:=zq ok
 have h8:=ok.nle
 have h5:=ok.kle
 obtain⟨M,st,hold,bad,next,fx,_⟩:=id hs
 have K0:=Kn.nil h
 refine df ?_
 (refine av ?_)
 rw [if_neg (by omega),bV (by omega)]
 refine⟨Int.natCast_nonneg _,Int.le_refl _,by omega,by omega,?_⟩
 (with_reducible apply Kn.al);(assumption);(intro b10 h1 K1 l1 hb10)
 rw [Int.toNat_natCast,Nat.mul_one,cc,jd]at K1
 rw [Int.toNat_natCast]
 refine aw (2^σ.n) (fun s vs h'=>vs= [.pointer (some ⟨b,0,none⟩), .func (.func fid) u w,(arr b10 (2^σ.n)).v,I (2^σ.n:Nat),I s]/\
  ∃T,Kn h h' [(b10, .inl ⟨tb (2^σ.n) T,2^σ.n,false⟩)]/\(∀j,j<s->T j=σ.some_ f j)/\ ∀j,s<=j->T j=false) ⟨rfl,_,K1,fun j hj=>by omega,fun _ _=>rfl⟩ ?_
 clear K1 K0 l1 hb10 h1
 rintro s _ h1 next hs' ⟨rfl,T,K1,hT1,hT2⟩ hnx
 refine⟨_,_,_,_,arr b10 _,_,_,rfl,?_⟩
 by_cases hlt:s<2^σ.n
 rotate_left
 ·refine aG (by rw [decide_eq_false_iff_not];omega) ?_
  exact k _ h1 K1.le (iT (by omega) (by rw [jY (K1.new _ (.head _))];exact K1.at (.head _)) fun j hj=>hT1 j (by omega))
 refine aK (by rw [decide_eq_true_eq];exact_mod_cast hlt) ?_
 refine df ?_
 (refine kr_ ?_)
 rw [if_neg (by omega),bV (by omega)]
 refine aw (2^σ.k) (fun i vs h'=>vs= [.pointer (some ⟨b,0,none⟩), .func (.func fid) u w,(arr b10 (2^σ.n)).v,I s,I (2^σ.n:Nat),I s,I (2^σ.k:Nat),I i]/\
  ∃T,Kn h h' [(b10, .inl ⟨tb (2^σ.n) T,2^σ.n,false⟩)]/\(∀j,j<s->T j=σ.some_ f j)/\(∀j,s<j->T j=false)/\T s=lJ i fun x=>f s (σ.at_ s x))
  ⟨rfl,T,K1,hT1,fun j hj=>hT2 j (by omega),by rw [hT2 s (Nat.le_refl _)];rfl⟩ ?_
 clear K1 hT1 hT2 T h1
 rintro i _ h1 next2 hi ⟨rfl,T,K1,hT1,hT2,hT3⟩ hnx2
 refine⟨_,_,_,_,arr b10 _,_,_,_,_,_,rfl,?_⟩
 by_cases hli:i<2^σ.k
 rotate_left
 ·refine aG (by rw [decide_eq_false_iff_not];omega) ?_
  have hie:i=2^σ.k:=by omega
  rw [aE (by omega)]
  refine hnx hlt _ _ ⟨rfl,T,K1,fun j hj=>?_,fun j hj=>hT2 j (by omega)⟩
  by_cases e:j=s
  ·rw [e,hT3,hie];rfl
  ·exact hT1 j (by omega)
 refine aK (by rw [decide_eq_true_eq];exact_mod_cast hli) ?_
 have upd: ∀v,v=lJ (i+1) (fun x=>f s (σ.at_ s x))-> ∀h',Kn h h' [(b10, .inl ⟨(tb (2^σ.n) T).set s (.bool v),2^σ.n,false⟩)]->
   next2 [.pointer (some ⟨b,0,none⟩), .func (.func fid) u w,(arr b10 (2^σ.n)).v,I s,I (2^σ.n:Nat),I s,I (2^σ.k:Nat),I (W ((i:Int)+1))] h':=by
  intro v hv h' K
  rw [aE (by omega)]
  rw [j4]at K
  exact hnx2 hli _ _ ⟨rfl,_,K,fun j hj=>by rw [if_neg (by omega)];exact hT1 j hj,fun j hj=>by rw [if_neg (by omega)];exact hT2 j hj,by rw [if_pos rfl];exact hv⟩
 refine⟨b10,0,rfl,by omega,by dsimp only;omega,?_⟩
 refine Kn.rd K1 (.head _) (x:=T s) (by rw [Nat.zero_add,Nat.mul_one,Int.toNat_natCast];exact mC hlt) ?_
 refine ad (fun e=>?_) (fun e=>?_)
 ·refine⟨b10,0,rfl,by omega,by dsimp only;omega,?_⟩
  (((with_reducible apply Kn.wr);(assumption);((focus ((repeat first|exact .head|apply Upd.tail);done)))))
  ·rw [fD];omega
  intro h2 K2 _
  rw [bT,Nat.zero_add,Int.toNat_natCast,Nat.mul_one]at K2
  exact upd true (by rw [FO,<-hT3,e];rfl) h2 K2
 ·refine BC (hs.mono K1.le) ok hlt hli ⟨_,rfl,?_⟩
  refine hf s i hlt hli h1 K1.le _ ⟨_,rfl,?_⟩
  refine⟨b10,0,rfl,by omega,by dsimp only;omega,?_⟩
  (((with_reducible apply Kn.wr);(assumption);((focus ((repeat first|exact .head|apply Upd.tail);done)))))
  ·rw [fD];omega
  intro h2 K2 _
  rw [bT,Nat.zero_add,Int.toNat_natCast,Nat.mul_one]at K2
  exact upd _ (by rw [FO,<-hT3,e];rfl) h2 K2
end Go.Lead
