/- What functions of the program and of the reference come to, walked one by one, and plain laws about it: part 3. No condition is added to the statement. -/
import Derived.Test.YthfcbpocfmjefaaGreatZ1
namespace Go.Lead
open Go
set_option linter.unusedSimpArgs false
set_option linter.unusedVariables false
set_option maxRecDepth 100000
set_option maxHeartbeats 1000000
def VL (v:List Nat):List Int:=v.map fun(x:Nat)=>(x:Int)
theorem aX (v:List Nat):(VL v).length=v.length:=by simp [VL]
theorem aec {v:List Nat} {i:Nat} (h:i<v.length):(VL v)[i]?=some ((v.getD i 0:Nat):Int):=by
 rw [List.getD_eq_getElem?_getD,List.getElem?_eq_getElem h];simp [VL,h]
theorem Ii {a b:List Nat}:VL a=VL b↔a=b:=by
 constructor
 ·intro h
  apply List.ext_getElem
  ·have:=congrArg List.length h;simpa [VL] using this
  ·intro i h1 h2
   have:=congrArg (fun l:List Int=>l[i]?) h
   simp only [VL,List.getElem?_map,List.getElem?_eq_getElem h1,List.getElem?_eq_getElem h2,Option.map_some,Option.some.injEq]at this
   omega
 ·rintro rfl;rfl
def gv (h:Hp) (s:Sl) (vs:List (List Nat)):Prop:=
 vs.length<=s.n/\s.n<=1048576/\ ∀p,p<vs.length-> ∃b o t,s.a=some (Addr.mk b o none)/\Hp.cell h b (o+p*1)=some (Sl.v t)/\IntS h t (VL (vs.getD p []))
theorem gv.mono {h h':Hp} {s:Sl} {vs:List (List Nat)} (l:h.le h') (e:gv h s vs):gv h' s vs:=
 ⟨e.1,e.2.1,fun p hp=>by
  obtain⟨b,o,t,h1,h2,h3⟩:=e.2.2 p hp
  exact⟨b,o,t,h1,l.cell h2,h3.mono l⟩⟩
theorem IntS.elt {h:Hp} {t:Sl} {v:List Nat} (e:IntS h t (VL v)) {i:Nat} (hi:i<v.length): ∃b o,t.a=some (Addr.mk b o none)/\Hp.cell h b (o+i*1)=some (I (v.getD i 0:Nat))/\i<t.n:=
 have ⟨b,o,h1,h2⟩:=e.get (aec hi)
 ⟨b,o,h1,h2,by have:=e.len;rw [aX]at this;omega⟩
theorem gv.at {h:Hp} {s:Sl} {vs:List (List Nat)} (e:gv h s vs) {p:Int} (h0:0<=p) (hp:p<vs.length):
  ∃b o t,s.a=some (Addr.mk b o none)/\p<(s.n:Int)/\Hp.cell h b (o+p.toNat*1)=some (Sl.v t)/\IntS h t (VL (vs.getD p.toNat [])):=by
 obtain⟨b,o,t,h1,h2,h3⟩:=e.2.2 p.toNat (by omega)
 exact⟨b,o,t,h1,by have:=e.1;omega,h2,h3⟩
theorem vK {h:Hp} {b z:Nat} {s:Sl} {vs:List (List Nat)} {p:Int} {R:Value->Hp->Prop} (hv:gv h s vs) (h0:0<=p) (hp:p<vs.length) (hne:0<(vs.getD p.toNat []).length)
  (f:h b=some (.inl ⟨[s.v],z,false⟩)) (k:R (I (cL vs p)) h):cr #[I p, .pointer (some ⟨b,0,none⟩)] h R:=by
 apply zH
 refine uf_ ?_
 (refine aC ?_)
 obtain⟨b',o,t,ha,hlt,hc,ht⟩:=hv.at h0 hp
 refine⟨b',o,ha,h0,hlt,t,hc,?_⟩
 obtain⟨b2,o2,ha2,hc2,hl2⟩:=ht.elt hne
 exact⟨b2,o2,ha2,by omega,by omega,_,hc2,k⟩
theorem Lc {h:Hp} {x:Int} {R:Value->Hp->Prop} (k: ∀t h',h.le h'->IntS h' t [x]->R (.agg #[Sl.v t]) h'):cT #[I x] h R:=by
 apply yQ
 refine uf_ ?_
 refine ai fun b3 h1 hb3 l1 f3=>?_
 refine ai fun b6 h2 hb6 l2 f6=>?_
 have ne:=fresh_ne hb6 f3
 (with_reducible apply co);(exact l2 _ _ f3);(exact Hp.le_trans l1 l2);(exact hb3);(exact Nat.le_refl 1)
 intro h3 g3 kp l3
 refine⟨⟨some ⟨b6,0,none⟩,1,1⟩,by rw [av g3];rfl,k _ h3 l3 ?_⟩
 exact⟨by dsimp only;omega,rfl, .inr ⟨b6,0,rfl,au (cB kp ne.symm f6)⟩⟩
theorem zN {h:Hp} {s t:Sl} {xs ys:List Int} {R:Value->Hp->Prop} (hs:IntS h s xs) (ht:IntS h t ys) (hl:xs.length<=1048576)
  (k:R (.bool (decide (xs=ys))) h):gZ #[s.v,t.v] h R:=by
 apply vR
 refine uf_ ?_
 have hn:=hs.len
 have hm:=ht.len
 refine ad (fun e=>dD ?_ k) (fun e=>?_)
 ·have: ¬(s.n:Int)=t.n:=iQ e
  symm;rw [decide_eq_false_iff_not]
  rintro rfl;omega
 have hnm:xs.length=ys.length:=by have:=gV e;omega
 refine ar xs.length (fun i vs h'=>vs= [s.v,t.v,I s.n,I i]/\h'=h/\xs.take i=ys.take i) ⟨rfl,rfl,by simp⟩ ?_
 rintro i _ h' next hi ⟨rfl,rfl,hg⟩ hnx
 refine⟨s,t,_,_,rfl,?_⟩
 by_cases hlt:i<xs.length
 ·refine aL (by simp;omega) ?_
  obtain⟨b,o,ha,hc⟩:=hs.get (List.getElem?_eq_getElem hlt)
  obtain⟨b2,o2,ha2,hc2⟩:=ht.get (List.getElem?_eq_getElem (show i<ys.length by omega))
  refine⟨b,o,ha,by omega,by omega,b2,o2,ha2,by omega,by omega,_,hc,_,hc2,?_⟩
  refine ad (fun e=>dD ?_ k) (fun e=>?_)
  ·symm;rw [decide_eq_false_iff_not]
   rintro rfl;exact iQ e rfl
  ·rw [aw (by omega)]
   exact hnx hlt _ _ ⟨rfl,rfl,wF hlt (by omega) hg (gV e)⟩
 ·refine aA (by simp;omega) (dD ?_ k)
  symm;rw [decide_eq_true_iff]
  rwa [List.take_of_length_le (by omega),List.take_of_length_le (by omega)]at hg
theorem IntS.keep {h h':Hp} {t:Sl} {xs:List Int} {b z:Nat} {a:Option Addr} {n c:Nat} (e:IntS h t xs) (f:h b=some (.inl ⟨[.slice a n c],z,false⟩)) (kp: ∀c,c≠b->h' c=h c):IntS h' t xs:=by
 refine⟨e.1,e.2.1,?_⟩
 rcases e.2.2 with h0|⟨b',o,ha,hc⟩
 ·exact .inl h0
 ·by_cases h0:t.n=0
  ·exact .inl h0
  refine .inr ⟨b',o,ha,fun i v hv=>?_⟩
  have hne:b'≠b:=by
   rintro rfl
   have hlen:=e.len
   have hx:(xs.map I)[0]?=some (I (xs[0]'(by omega))):=by simp
   have:=hc 0 _ hx
   rw [av f]at this
   generalize o+0=j at this
   cases j with
   |zero=>simp at this
   |succ j=>simp at this
  have:=hc i v hv
  unfold Hp.cell at this⊢
  rw [kp b' hne];exact this
theorem SH {h:Hp} {l:List NodeP} {i:Nat} {n:NodeP} {s:Sl} {v:List (List Nat)} {f:FuncId} {u w:Array Value} {R:Value->Hp->Prop} (hl:l.length<=60) (hi:i<=l.length)
  (ht:Qr l i n) (hv:zg l i v) (hvl:v.length=i) (hpv:gv h s v) (hk35: ¬n.kind=35) (hk36: ¬n.kind=36)
  (hf: ∀p:Int,0<=p->p<l.length-> ∀h',h.le h'-> ∀R':Value->Hp->Prop,R' (wP (az l p)) h'->ACalls PR f ((u++ #[I p])++w) h' R')
  (k: ∀t h',h.le h'->IntS h' t (VL (fQ l n v))->R (.agg #[Sl.v t]) h'):lq #[wz n,s.v, .func (.func f) u w] h R:=by
 obtain⟨val,hnv⟩: ∃val,val=fQ l n v:=⟨_,rfl⟩
 rw [<-hnv]at k
 unfold fQ at hnv
 apply DF
 refine uf_ ?_
 refine ai fun b15 h1 hb15 l1 f15=>?_
 refine ai fun b17 h2 hb17 l2 f17=>?_
 replace f15:=l2 _ _ f15
 replace l2:=Hp.le_trans l1 l2
 refine ai fun b19 h3 hb19 l3 f19=>?_
 have n15:=fresh_ne hb19 f15
 have n17:=fresh_ne hb19 f17
 have b0:=aE l2 hb19
 replace f15:=l3 _ _ f15
 replace f17:=l3 _ _ f17
 have l0:=Hp.le_trans l2 l3
 clear l1 l2 l3 hb15 hb17 hb19 h1 h2
 have res: ∀(h4:Hp) (t:Sl),h.le h4->h4 b19=some (.inl ⟨[.slice none 0 0],1,false⟩)->IntS h4 t (VL val)->
   ∃(cs:List Value) (z:Nat),h4 b19=some (.inl ⟨cs,z,false⟩)/\0+1<=List.length cs/\cJ (h4.row b19 (ce cs 0 [t.v]) z) fun h'=> ∃(s:Sl),Hp.cell h' b19 0=some s.v/\R (.agg #[s.v]) h':=by
  intro h4 t l4 g19 hval
  (with_reducible apply co);(exact g19);(exact l4);(exact b0);(exact Nat.le_refl 1)
  intro h5 g kp l5
  exact⟨t,by rw [av g];rfl,k t h5 l5 (hval.keep g19 kp)⟩
 clear k
 have wres: ∀(x:Nat) (z:Int),z=x->val= [x]->cT #[I z] h3 fun v30 h31=> ∃(s32:Sl),v30=(.agg #[s32.v])/\(∃(cs33:List Value) (z34:Nat),h31 b19=some (.inl ⟨cs33,z34,false⟩)/\0+1<=List.length cs33/\cJ (h31.row b19 (ce cs33 0 [s32.v]) z34) fun h35=> ∃(s36:Sl),Hp.cell h35 b19 0=some s36.v/\(R (.agg #[s36.v]) h35)):=by
  intro x z hz hx
  subst hz
  refine Lc fun t h4 l4 hval=>⟨t,rfl,res h4 t (Hp.le_trans l0 l4) (l4 _ _ f19) ?_⟩
  rw [hx];exact hval
 have hpv3:=hpv.mono l0
 have hk:=ht.kind
 have pk:=ht.part
 have pf: ∀j:Nat,j<3->(j:Int)<ak n.kind->Fit (az l (aQ n j)) (v.getD (aQ n j).toNat []):=fun j h1 h2=>hv.part ht hi h1 h2
 have cel: ∀j:Nat,j<3->(j:Int)<ak n.kind-> ∀R':Value->Hp->Prop,R' (I (cL v (aQ n j))) h3->cr #[I (aQ n j), .pointer (some ⟨b17,0,none⟩)] h3 R':=fun j h1 h2 R' k=>
  vK hpv3 (pk j h1 h2).1 (by have:=(pk j h1 h2).2.1;omega) (pf j h1 h2).pos f17 k
 have srt: ∀j:Nat,j<3->(j:Int)<ak n.kind-> ∀R':Value->Hp->Prop,R' (wP (az l (aQ n j))) h3->ACalls PR f ((u++ #[I (aQ n j)])++w) h3 R':=fun j h1 h2 R' k=>
  hf _ (pk j h1 h2).1 (by have:=(pk j h1 h2).2.1;omega) h3 l0 R' k
 have vat: ∀j:Nat,j<3->(j:Int)<ak n.kind->_:=fun j h1 h2=>hpv3.at (pk j h1 h2).1 (by have:=(pk j h1 h2).2.1;omega)
 have hres:=ht.res
 (refine aC ?_)
 refine ad (fun e=>?_) (fun e34=>?_)
 ·have e:=bU e
  obtain⟨c1,c2⟩:=ht.const e
  have:=kB.1 c2
  (refine aC ?_)
  exact wres n.n.toNat n.n (by omega) (by rw [if_pos e]at hnv;exact hnv)
 replace e34:=bz e34
 have hp:0<ak n.kind:=by
  have:ak n.kind≠0:=by intro h0;revert h0;unfold ak;(repeat' split)<;>(intro h;omega)
  omega
 replace hres:=hres hp
 have oa:=bZ.1 (pk 0 (by omega) hp).2.2
 rw [if_neg e34]at hnv
 have hkinds:=lW hp
 refine ad (fun e=>?_) (fun e33=>?_)
 ·have e:=bU e
  have hp3:ak n.kind=3:=by omega
  rw [if_pos e]at hnv
  (refine aC ?_)
  refine cel 0 (by omega) (by omega) _ ⟨_,rfl,ad (fun e=>?_) (fun e=>?_)⟩
  ·repeat' (refine aC ?_)
   obtain⟨b,o,t,ha,h1,h2,h3'⟩:=vat 1 (by omega) (by omega)
   refine⟨b,o,ha,(pk 1 (by omega) (by omega)).1,h1,t,h2,res _ _ l0 f19 ?_⟩
   rw [hnv,if_pos (by have:=bU e;simp only [aQ]at this;omega)];exact h3'
  ·repeat' (refine aC ?_)
   obtain⟨b,o,t,ha,h1,h2,h3'⟩:=vat 2 (by omega) (by omega)
   refine⟨b,o,ha,(pk 2 (by omega) (by omega)).1,h1,t,h2,res _ _ l0 f19 ?_⟩
   rw [hnv,if_neg (by have:=bz e;simp only [aQ]at this;omega)];exact h3'
 replace e33:=bz e33
 rw [if_neg e33]at hnv
 refine ad (fun e=>?_) (fun e21=>?_)
 ·have e:=bU e
  have hp2:ak n.kind=2:=by omega
  rw [if_pos e]at hnv
  repeat' (refine aC ?_)
  obtain⟨b,o,t,ha,h1,h2,h3'⟩:=vat 0 (by omega) (by omega)
  refine⟨b,o,ha,(pk 0 (by omega) (by omega)).1,h1,t,h2,?_⟩
  repeat' (refine aC ?_)
  obtain⟨b',o',t',ha',h1',h2',h3''⟩:=vat 1 (by omega) (by omega)
  refine⟨b',o',ha',(pk 1 (by omega) (by omega)).1,h1',t',h2',?_⟩
  have fl:=(pf 0 (by omega) (by omega)).len
  refine zN h3' h3'' (by rw [aX,fl];have:=Nat.pow_le_pow_right (n:=2) (by omega) (show (az l (aQ n 0)).idx.toNat<=2 by omega);omega) ⟨_,rfl,Cn ⟨_,rfl,?_⟩⟩
  refine wres _ _ ?_ hnv
  simp only [aQ,Ii]
  split<;>simp_all
 replace e21:=bz e21
 rw [if_neg e21]at hnv
 refine ad (fun e=>?_) (fun e37=>?_)
 ·have e:=bU e
  have hp2:ak n.kind=2:=by omega
  obtain⟨r1,r2,r3⟩:=S6 e hres
  rw [if_pos e]at hnv
  repeat' (refine aC ?_)
  obtain⟨b,o,t,ha,h1,h2,h3'⟩:=vat 0 (by omega) (by omega)
  refine⟨b,o,ha,(pk 0 (by omega) (by omega)).1,h1,t,h2,?_⟩
  (refine aC ?_)
  refine cel 1 (by omega) (by omega) _ ⟨_,rfl,rfl,rfl,rfl,?_⟩
  have fb:=(pf 1 (by omega) (by omega)).cell
  have fa:=(pf 0 (by omega) (by omega)).len
  simp only [aQ]at fb fa h3'
  rw [r2]at fb
  have hlt:cL v n.b<(v.getD n.a.toNat []).length:=by rw [fa];exact fb
  obtain⟨b2,o2,ha2,hc2,hl2⟩:=h3'.elt hlt
  refine⟨b2,o2,ha2,by omega,by simp only [aQ];omega,_,hc2,?_⟩
  exact wres _ _ rfl hnv
 replace e37:=bz e37
 rw [if_neg e37]at hnv
 simp only [aQ]at oa
 refine ad (fun e=>?_) (fun e38=>?_)
 ·have e:=bU e
  have hp3:ak n.kind=3:=by omega
  obtain⟨r1,r2,r3,r4⟩:=T3 e hres
  rw [if_pos e]at hnv
  repeat' (refine aC ?_)
  obtain⟨b,o,t,ha,h1,h2,h3'⟩:=vat 0 (by omega) (by omega)
  refine⟨b,o,ha,(pk 0 (by omega) (by omega)).1,h1,t,h2,?_⟩
  have fb:=(pf 1 (by omega) (by omega)).cell
  have fa:=(pf 0 (by omega) (by omega)).len
  simp only [aQ]at fb fa h3'
  rw [r2]at fb
  have hlt:cL v n.b<(v.getD n.a.toNat []).length:=by rw [fa];exact fb
  have hle4:(v.getD n.a.toNat []).length<=4:=by
   rw [fa];have:=Nat.pow_le_pow_right (n:=2) (by omega) (show (az l n.a).idx.toNat<=2 by omega);simpa using this
  refine lF h3' (by rw [aX];omega) fun c h4 l4 hb4=>⟨c,rfl,?_⟩
  have hcn:c.n=(v.getD n.a.toNat []).length:=by have:=hb4.1;rw [List.length_map,aX]at this;omega
  obtain⟨bc,hca,hcrow⟩: ∃bc,c.a=some ⟨bc,0,none⟩/\(h4.sub h3) bc=some (.inl ⟨(VL (v.getD n.a.toNat [])).map I,c.c*1,false⟩):=by
   rcases hb4.2.2 with ⟨_,h0,_⟩|h0
   ·omega
   ·exact h0
  have hc4:h4 bc=some (.inl ⟨(VL (v.getD n.a.toNat [])).map I,c.c*1,false⟩):=sub_le _ _ _ _ hcrow
  have hc3:h3 bc=none:=by
   cases hx:h3 bc with
   |none=>rfl
   |some x=>rw [nv hx]at hcrow;cases hcrow
  have g15:=l4 _ _ f15
  have g17:=l4 _ _ f17
  have g19:=l4 _ _ f19
  refine ai fun b24 h5 hb24 l5 f24'=>?_
  have m15:=fresh_ne hb24 g15
  have m17:=fresh_ne hb24 g17
  have m19:=fresh_ne hb24 g19
  have mc:=fresh_ne hb24 hc4
  have hb24n:=aE l4 hb24
  have l35:=Hp.le_trans l4 l5
  (with_reducible apply co);(exact f24');(exact l35);(exact hb24n);(exact Nat.le_refl 1)
  intro h6 f24 kp l6
  replace g15:=cB kp m15 (l5 _ _ g15)
  replace g17:=cB kp m17 (l5 _ _ g17)
  replace g19:=cB kp m19 (l5 _ _ g19)
  have gc:=cB kp mc (l5 _ _ hc4)
  have l06:=Hp.le_trans l0 l6
  have hpv6:=hpv3.mono l6
  refine⟨c,by rw [av f24];rfl,?_⟩
  repeat' (refine aC ?_)
  refine vK hpv6 (pk 1 (by omega) (by omega)).1 (by have:=(pk 1 (by omega) (by omega)).2.1;simp only [aQ]at this⊢;omega) (pf 1 (by omega) (by omega)).pos g17 ⟨_,rfl,rfl,rfl,?_⟩
  refine vK hpv6 (pk 2 (by omega) (by omega)).1 (by have:=(pk 2 (by omega) (by omega)).2.1;simp only [aQ]at this⊢;omega) (pf 2 (by omega) (by omega)).pos g17 ⟨_,rfl,rfl,?_⟩
  refine⟨bc,0,hca,by omega,by omega,?_⟩
  (with_reducible apply co);(exact gc);(exact l6);(exact hc3);(rw [List.length_map,aX];omega)
  intro h7 gc' kp7 l7
  have n24:b24≠bc:=fun e=>mc e.symm
  have n19c:b19≠bc:=fun e=>by subst e;rw [hc3]at f19;cases f19
  replace f24:=cB kp7 n24 f24
  refine⟨c,by rw [av f24];rfl,?_⟩
  refine res h7 c (Hp.le_trans l0 l7) (cB kp7 n19c g19) ?_
  have hcells:ce ((VL (v.getD n.a.toNat [])).map I) (0+Int.toNat (cL v n.b:Int)*1) [I (cL v n.c)]=(VL val).map I:=by
   rw [hnv,bD,Int.toNat_natCast,Nat.mul_one,Nat.zero_add]
   simp [VL,List.map_set]
  rw [hcells]at gc'
  refine⟨by omega,by simp [aX,hnv,hcn], .inr ⟨bc,0,hca,au gc'⟩⟩
 replace e38:=bz e38
 rw [if_neg e38]at hnv
 have word0: ∀wn:Nat,(az l n.a).wid=wn->WO wn (cL v n.a):=fun wn hw=>by
  have:=(pf 0 (by omega) (by omega)).cell
  simp only [aQ]at this
  rw [hw]at this
  refine⟨by omega,this⟩
 obtain⟨wa,hwa⟩: ∃wn:Nat,(az l n.a).wid=wn:=⟨(az l n.a).wid.toNat,by omega⟩
 have hwo:=word0 wa hwa
 have h16:=hwo.pow
 have hlta:=hwo.2
 rw [hwa,Int.toNat_natCast]at hnv
 refine ad (fun e=>?_) (fun e29=>?_)
 ·have e:=bU e
  have hp2:ak n.kind=2:=by omega
  obtain⟨r1,r2,r3,r4⟩:=TA e hres
  rw [if_pos e]at hnv
  have ob:=bZ.1 (pk 1 (by omega) (by omega)).2.2
  simp only [aQ]at ob
  obtain⟨wb,hwb⟩: ∃wn:Nat,(az l n.b).wid=wn:=⟨(az l n.b).wid.toNat,by omega⟩
  have hltb:=(pf 1 (by omega) (by omega)).cell
  simp only [aQ]at hltb
  rw [hwb,Int.toNat_natCast]at hltb
  rw [hwb,Int.toNat_natCast]at hnv
  have hpb:=Bn (w:=wb) (by omega)
  have hmul:=E4 (a:=cL v n.a) (b:=2^wb) (by omega) hpb
  have hltb':cL v n.b<2^wb:=hltb
  repeat' (refine aC ?_)
  refine cel 0 (by omega) (by omega) _ ⟨_,rfl,rfl,rfl,?_⟩
  refine srt 1 (by omega) (by omega) _ ⟨_,_,rfl,rfl,?_⟩
  simp only [aQ,hwb]
  rw [if_neg (by omega)]
  refine cel 1 (by omega) (by omega) _ ⟨_,rfl,?_⟩
  refine wres _ _ ?_ hnv
  simp only [aQ]
  rw [iY (by omega) (by omega),bQ (by omega) (by omega)];omega
 replace e29:=bz e29
 rw [if_neg e29]at hnv
 refine ad (fun e=>?_) (fun e30=>?_)
 ·have e:=bU e
  obtain⟨r1,r2,r3⟩:=TU e hres
  rw [if_pos e]at hnv
  obtain⟨lo,hlo⟩: ∃z:Nat,n.m=z:=⟨n.m.toNat,by omega⟩
  obtain⟨sz,hsz⟩: ∃z:Nat,n.n-n.m+1=z:=⟨(n.n-n.m+1).toNat,by omega⟩
  repeat' (refine aC ?_)
  refine cel 0 (by omega) (by omega) _ ⟨_,rfl,rfl,rfl,rfl,?_⟩
  rw [if_neg (by omega),bQ (n:=n.n-n.m) (by omega) (by omega),bQ (n:=n.n-n.m+1) (by omega) (by omega),hsz]
  refine dC (by omega) ⟨_,rfl,rfl,?_⟩
  refine wres _ _ ?_ hnv
  unfold Re
  simp only [aQ]
  rw [hlo]at hsz⊢
  rw [hsz,Int.toNat_natCast,Int.toNat_natCast,js (by omega),gU (by omega),oJ]
 replace e30:=bz e30
 rw [if_neg e30]at hnv
 refine aq (fun J=>J (decide (n.kind=31\/n.kind=32))) ?_ (fun J hJ=>?_)
 rotate_left
 ·clear res wres hf cel srt vat
  repeat' (first|(with_reducible first|refine aL (b:=true) rfl ?_|refine aA (b:=false) rfl ?_|refine ad (fun _=>?_) fun _=>?_)|(refine aC ?_)|(refine gq ?_ hJ))
  all_goals (clear hJ;have:= @decide_eq_true_eq;rw [Bool.eq_iff_iff];simp_all)
 refine ad (fun e=>?_) (fun e31=>?_)
 ·have e:=of_decide_eq_true e
  obtain⟨r1,r2,r3⟩:=TE e hres
  rw [if_pos e]at hnv
  obtain⟨mo,hmo⟩: ∃z:Nat,n.n=z:=⟨n.n.toNat,by omega⟩
  repeat' (refine aC ?_)
  refine srt 0 (by omega) (by omega) _ ⟨_,_,rfl,rfl,rfl,rfl,?_⟩
  refine cel 0 (by omega) (by omega) _ ⟨_,rfl,rfl,rfl,?_⟩
  simp only [aQ,hwa,hmo]
  refine Vi hwo (by omega) ⟨_,rfl,?_⟩
  refine wres _ _ ?_ hnv
  rw [hmo,Int.toNat_natCast];rfl
 replace e31:=of_decide_eq_false e31
 rw [if_neg e31]at hnv
 (refine aC ?_)
 refine fj ⟨_,rfl,ad (fun e=>?_) (fun e1=>?_)⟩
 ·have e:=bU e
  rw [if_pos e]at hnv
  repeat' (refine aC ?_)
  refine srt 0 (by omega) (by omega) _ ⟨_,_,rfl,rfl,rfl,?_⟩
  refine cel 0 (by omega) (by omega) _ ⟨_,rfl,rfl,?_⟩
  simp only [aQ,hwa]
  exact Yl (by omega) hwo ⟨_,_,rfl,wres _ _ rfl hnv⟩
 ·replace e1:=bz e1
  rw [if_neg e1]at hnv
  have hp2:ak n.kind=2:=by omega
  obtain⟨r1,r2,r3⟩:=abL (by omega) hres
  have hltb:=(pf 1 (by omega) (by omega)).cell
  simp only [aQ]at hltb
  rw [<-r2,hwa,Int.toNat_natCast]at hltb
  repeat' (refine aC ?_)
  refine srt 0 (by omega) (by omega) _ ⟨_,_,rfl,rfl,rfl,rfl,?_⟩
  refine cel 0 (by omega) (by omega) _ ⟨_,rfl,rfl,rfl,?_⟩
  refine cel 1 (by omega) (by omega) _ ⟨_,rfl,rfl,?_⟩
  simp only [aQ,hwa]
  exact Yz (by omega) hwo ⟨hwo.1,hltb⟩ ⟨_,_,rfl,wres _ _ rfl hnv⟩
def ww (cs:List Value):Prop:= ∀(j:Nat) (i:Int),cs[j]?≠some (I i)
theorem IntS.keepN {h h':Hp} {t:Sl} {xs:List Int} {b z:Nat} {cs:List Value} {ro:Bool} (e:IntS h t xs) (f:h b=some (.inl ⟨cs,z,ro⟩)) (hn:ww cs) (kp: ∀c,c≠b->h' c=h c):IntS h' t xs:=by
 refine⟨e.1,e.2.1,?_⟩
 rcases e.2.2 with h0|⟨b',o,ha,hc⟩
 ·exact .inl h0
 ·by_cases h0:t.n=0
  ·exact .inl h0
  refine .inr ⟨b',o,ha,fun i v hv=>?_⟩
  have hne:b'≠b:=by
   rintro rfl
   have hlen:=e.len
   have hx:(xs.map I)[0]?=some (I (xs[0]'(by omega))):=by simp
   have:=hc 0 _ hx
   rw [av f]at this
   exact hn _ _ this
  have:=hc i v hv
  unfold Hp.cell at this⊢
  rw [kp b' hne];exact this
theorem Ej (ts:List Sl) (k:Nat):ww (ts.map Sl.v++List.replicate k (.slice none 0 0)):=by
 intro j i h
 have hm:=List.mem_of_getElem? h
 rcases List.mem_append.1 hm with hm|hm
 ·obtain⟨t,_,ht⟩:=List.mem_map.1 hm
  cases ht
 ·have:=List.eq_of_mem_replicate hm
  cases this
theorem IntSS.tail {h:Hp} {s:Sl} {x:List Int} {xs:List (List Int)} (e:IntSS h s (x::xs)) (hc:s.n<=s.c) {b o:Nat} (ha:s.a=some ⟨b,o,none⟩):
  IntSS h ⟨some ⟨b,if s.c=1 then o else o+1*1,none⟩,s.n-1,s.c-1⟩ xs:=by
 obtain⟨ts,h1,h2,h3⟩:=e
 cases ts with
 |nil=>simp at h1
 |cons t ts=>
  have hn:s.n=ts.length+1:=by have:=h2.2.1;simp at this;omega
  have hb:=h2.1
  refine⟨ts,by simpa using h1,⟨by dsimp only;omega,by simp;omega,?_⟩,fun i e1 e2=>by have:=h3 (i+1) (by simp;omega) (by simp;omega);simpa using this⟩
  by_cases h0:ts.length=0
  ·exact .inl (by dsimp only;omega)
  ·refine .inr ⟨b,_,rfl,fun i v hv=>?_⟩
   rw [if_neg (by omega)]
   rcases h2.2.2 with h0'|⟨b',o',ha',hcells⟩
   ·omega
   ·rw [ha]at ha';cases ha'
    have:=hcells (i+1) v (by simpa using hv)
    rw [show o+1*1+i=o+(i+1) by omega];exact this
theorem IntSS.head {h:Hp} {s:Sl} {x:List Int} {xs:List (List Int)} (e:IntSS h s (x::xs)): ∃b o t,s.a=some (Addr.mk b o none)/\0<s.n/\Hp.cell h b (o+0*1)=some (Sl.v t)/\IntS h t x:=by
 obtain⟨ts,h1,h2,h3⟩:=e
 cases ts with
 |nil=>simp at h1
 |cons t ts=>
  have hn:s.n=ts.length+1:=by have:=h2.2.1;simp at this;omega
  obtain⟨b,o,ha,hc⟩:=SlC.get h2 (by omega)
  exact⟨b,o,t,ha,by omega,hc 0 _ rfl,h3 0 (by simp) (by simp)⟩
theorem Ot {h:Hp} {M:MSl} {m:ah} {b z:Nat} {p:Int} {R:Value->Hp->Prop} (hs:aM h M m) (hm:bM m) (h0:0<=p) (hp:p<m.nodes.length) (f:h b=some (.inl ⟨aG M,z,false⟩))
  (k:R (wP (az m.nodes p)) h):rF #[I p, .pointer (some ⟨b,0,none⟩)] h R:=by
 refine ACalls.drop (zd ?_)
 refine uf_ ?_
 have hn:=hs.nodes.len
 refine ai fun b5 h1 hb5 l1 f5=>?_
 replace f:=l1 _ _ f
 (refine aC ?_)
 obtain⟨n,hn1⟩: ∃n,m.nodes[p.toNat]?=some n:=⟨_,List.getElem?_eq_getElem (by omega)⟩
 have hsa:=rl hn1
 obtain⟨ba,oa,ha1,_,_,_,_,_,_,c6,c7,_⟩:=(hs.nodes.mono l1).at hn1
 refine⟨ba,oa,ha1,h0,by omega,_,c6,_,c7,?_⟩
 (with_reducible apply co);(exact f5);(exact l1);(exact hb5);(exact Nat.le_refl 2)
 intro h2 f5' kp l2
 repeat' (refine aC ?_)
 refine⟨_,l2,?_⟩
 rw [hsa]at k;exact k
theorem D8 {α:Type} {l:List α} {k:Nat} (d:α) (h:k<l.length):l.drop k=l.getD k d::l.drop (k+1):=by
 rw [List.drop_eq_getElem_cons h,List.getD_eq_getElem?_getD,List.getElem?_eq_getElem h];rfl
theorem om {l:List NodeP} {s inp:List (List Nat)} {i:Nat} {n:NodeP} (hn:l[i]?=some n):gk l s inp (i+1)=gk l s inp i++
  [if n.kind=36 then s.getD (ay (l.take i) 36).length []else if n.kind=35 then inp.getD (ay (l.take i) 35).length []else fQ l n (gk l s inp i)]:=by
 simp only [gk,hn]
theorem Am {l:List NodeP} {kind:Int} {i:Nat} {n:NodeP} (hn:l[i]?=some n) (hk:n.kind=kind):(ay (l.take i) kind).length<(ay l kind).length:=get_lt (oE hn hk)
theorem vb {l:List NodeP} {kind:Int} {i:Nat} {n:NodeP} (hn:l[i]?=some n):(ay (l.take (i+1)) kind).length=(ay (l.take i) kind).length+if n.kind=kind then 1 else 0:=by
 rw [jC hn,List.length_append];split<;>rfl
theorem we {h:Hp} {M:MSl} {m:ah} {sS sI:Sl} {st inp:List (List Nat)} {R:Value->Hp->Prop} (hs:aM h M m) (hm:bM m) (hok:cv m.nodes=true) (hl:m.nodes.length<=60)
  (h1:IntSS h sS (st.map VL)) (c1:sS.n<=sS.c) (f1:A2 m.nodes 36 st) (h2:IntSS h sI (inp.map VL)) (c2:sI.n<=sI.c) (f2:A2 m.nodes 35 inp)
  (k: ∀t h',h.le h'->t.n=m.nodes.length->gv h' t (gk m.nodes st inp m.nodes.length)->R (Sl.v t) h'):fP #[aN M,sS.v,sI.v] h R:=by
 apply Dv
 refine uf_ ?_
 have hn:=hs.nodes.len
 refine ai fun b9 h3 hb9 l3 f9=>?_
 (refine aC ?_)
 refine⟨by omega,by omega,by omega,by omega,?_⟩
 refine ai fun b13 h4 hb13 l4 f13=>?_
 have n9:=fresh_ne hb13 f9
 have b13n:=aE l3 hb13
 replace f9:=l4 _ _ f9
 replace l4:=Hp.le_trans l3 l4
 (refine aC ?_)
 rw [Int.toNat_natCast,Nat.mul_one,ct]at f13
 simp only [Int.toNat_natCast]
 refine ar m.nodes.length (fun i vs h'=> ∃(ts:List Sl) (uS uI:Sl),vs= [uS.v,uI.v, .slice (some ⟨b13,0,none⟩) M.no.n M.no.n, .func (.func lQ) #[] #[.pointer (some ⟨b9,0,none⟩)],M.no.v,I M.no.n,I i]/\h.le h'/\
  h' b9=some (.inl ⟨aG M,5,false⟩)/\ts.length=i/\h' b13=some (.inl ⟨ts.map Sl.v++List.replicate (M.no.n-i) (.slice none 0 0),M.no.n,false⟩)/\
  (∀(j:Nat) (t:Sl),ts[j]?=some t->IntS h' t (VL ((gk m.nodes st inp i).getD j [])))/\
  IntSS h uS ((st.drop (ay (m.nodes.take i) 36).length).map VL)/\uS.n<=uS.c/\IntSS h uI ((inp.drop (ay (m.nodes.take i) 35).length).map VL)/\uI.n<=uI.c)
  ⟨[],sS,sI,rfl,l4,f9,rfl,by simpa using f13,fun j t ht=>by simp at ht,h1,c1,h2,c2⟩ ?_
 clear f9 f13 l3 l4 hb9 hb13 h3 h4
 rintro i _ h3 next hi ⟨ts,uS,uI,rfl,l3,f9,htl,f13,hts,g1,d1,g2,d2⟩ hnx
 have hpv:gv h3 ⟨some ⟨b13,0,none⟩,M.no.n,M.no.n⟩ (gk m.nodes st inp i):=by
  refine⟨by rw [dN];dsimp only;omega,by dsimp only;omega,fun p hp=>?_⟩
  rw [dN]at hp
  refine⟨b13,0,ts[p]'(by omega),rfl,?_,hts p _ (List.getElem?_eq_getElem (by omega))⟩
  rw [av f13,Nat.zero_add,Nat.mul_one,List.getElem?_append_left (by simp;omega),List.getElem?_map,List.getElem?_eq_getElem (by omega)]
  rfl
 refine⟨uS,uI,⟨some ⟨b13,0,none⟩,M.no.n,M.no.n⟩,_,_,_,M.no,_,_,rfl,?_⟩
 by_cases hlt:i<m.nodes.length
 rotate_left
 ·have hie:i=m.nodes.length:=by omega
  subst hie
  refine aA (by simp;omega) (k ⟨some ⟨b13,0,none⟩,M.no.n,M.no.n⟩ h3 l3 hn hpv)
 refine aL (by simp;omega) ?_
 obtain⟨n,hni⟩: ∃n,m.nodes[i]?=some n:=⟨_,List.getElem?_eq_getElem hlt⟩
 obtain⟨b,o,ha,e0,e1,e2,e3,e4,e5,e6,e7,e8⟩:=(hs.nodes.mono l3).at hni
 refine⟨b,o,ha,by omega,by omega,_,e0,_,e1,_,e2,_,e3,_,e4,_,e5,_,e6,_,e7,_,e8,?_⟩
 refine ai fun b45 h4 hb45 l4 f45'=>?_
 have n945:=fresh_ne hb45 f9
 have n1345:=fresh_ne hb45 f13
 (with_reducible apply co);(exact f45');(exact l4);(exact hb45);(exact Nat.le_refl 9)
 intro h5 f45 kp l35
 replace f9:=l35 _ _ f9
 replace f13:=l35 _ _ f13
 have l5:=Hp.le_trans l3 l35
 have hts5: ∀(j:Nat) (t:Sl),ts[j]?=some t->IntS h5 t (VL ((gk m.nodes st inp i).getD j [])):=fun j t ht=>(hts j t ht).mono l35
 have hpv5:=hpv.mono l35
 clear l4 kp f45' hb45 hts
 have step: ∀(h6:Hp) (t:Sl) (x:List Nat) (vS vI:Sl),h5.le h6->IntS h6 t (VL x)->gk m.nodes st inp (i+1)=gk m.nodes st inp i++ [x]->
   IntSS h vS ((st.drop (ay (m.nodes.take (i+1)) 36).length).map VL)->vS.n<=vS.c->IntSS h vI ((inp.drop (ay (m.nodes.take (i+1)) 35).length).map VL)->vI.n<=vI.c->
   ∃(cs:List Value) (z:Nat),h6 b13=some (.inl ⟨cs,z,false⟩)/\(0+Int.toNat (i:Int)*1)+1<=List.length cs/\cJ (h6.row b13 (ce cs (0+Int.toNat (i:Int)*1) [t.v]) z) fun h'=>
    next [vS.v,vI.v, .slice (some ⟨b13,0,none⟩) M.no.n M.no.n, .func (.func lQ) #[] #[.pointer (some ⟨b9,0,none⟩)],M.no.v,I M.no.n,I (W ((i:Int)+1))] h':=by
  intro h6 t x vS vI l56 hval hev i1 i2 i3 i4
  have g13:=l56 _ _ f13
  (with_reducible apply co);(exact g13);(exact Hp.le_trans l5 l56);(exact b13n);(simp;omega)
  intro h7 f13' kp l7
  rw [aw (by omega)]
  rw [Int.toNat_natCast,Nat.mul_one,Nat.zero_add,bD]at f13'
  have hrow:(ts.map Sl.v++List.replicate (M.no.n-i) (Value.slice none 0 0)).set i t.v=(ts++ [t]).map Sl.v++List.replicate (M.no.n-(i+1)) (.slice none 0 0):=by
   rw [List.set_append_right _ _ (by simp;omega),List.length_map,htl,Nat.sub_self,show M.no.n-i=(M.no.n-(i+1))+1 by omega,List.replicate_succ,List.set_cons_zero]
   simp
  rw [hrow]at f13'
  refine hnx hlt _ _ ⟨ts++ [t],vS,vI,rfl,l7,cB kp n9 (l56 _ _ f9),by simp;omega,f13',fun j u hu=>?_,i1,i2,i3,i4⟩
  by_cases hj:j<i
  ·rw [List.getElem?_append_left (by omega)]at hu
   rw [hev,iU (by rw [dN];omega)]
   exact((hts5 j u hu).mono l56).keepN g13 (Ej _ _) kp
  ·have hju:=get_lt hu
   simp at hju
   have hje:j=i:=by omega
   subst hje
   rw [List.getElem?_append_right (by omega),htl,Nat.sub_self]at hu
   simp at hu;subst hu
   rw [hev,List.getD_eq_getElem?_getD,List.getElem?_append_right (by rw [dN];omega),dN,Nat.sub_self]
   exact hval.keepN g13 (Ej _ _) kp
 have hnext36:=vb (kind:=36) hni
 have hnext35:=vb (kind:=35) hni
 have hev:=om (s:=st) (inp:=inp) hni
 (refine aC ?_)
 refine ad (fun e=>?_) (fun e36=>?_)
 ·have e:=bU e
  rw [if_pos e]at hnext36 hev
  rw [if_neg (by omega)]at hnext35
  have hlt36:=Am hni e
  rw [<-f1.1]at hlt36
  rw [D8 [] hlt36,List.map_cons]at g1
  obtain⟨bs,os,t,ha,hpos,hc,ht⟩:=g1.head
  refine⟨bs,os,ha,by omega,by omega,by omega,?_,?_, .inr ⟨bs,os,ha,t,l5.cell hc,b13,0,rfl,by omega,by dsimp only;omega,?_⟩⟩
  ·show (1:Int)<=((uS.n:Nat):Int);omega
  ·show ((uS.n:Nat):Int)<=_;omega
  refine step h5 t _ ⟨some ⟨bs,if uS.c=1 then os else os+1*1,none⟩,uS.n-1,uS.c-1⟩ uI (Hp.le_refl _) (ht.mono l5) hev ?_ (by dsimp only;omega) ?_ d2
  ·rw [hnext36];exact g1.tail d1 ha
  ·rw [hnext35];exact g2
 replace e36:=bz e36
 rw [if_neg e36]at hnext36 hev
 refine ad (fun e=>?_) (fun e35=>?_)
 ·have e:=bU e
  rw [if_pos e]at hnext35 hev
  have hlt35:=Am hni e
  rw [<-f2.1]at hlt35
  rw [D8 [] hlt35,List.map_cons]at g2
  obtain⟨bs,os,t,ha,hpos,hc,ht⟩:=g2.head
  refine⟨bs,os,ha,by omega,by omega,by omega,?_,?_, .inr ⟨bs,os,ha,t,l5.cell hc,b13,0,rfl,by omega,by dsimp only;omega,?_⟩⟩
  ·show (1:Int)<=((uI.n:Nat):Int);omega
  ·show ((uI.n:Nat):Int)<=_;omega
  refine step h5 t _ uS ⟨some ⟨bs,if uI.c=1 then os else os+1*1,none⟩,uI.n-1,uI.c-1⟩ (Hp.le_refl _) (ht.mono l5) hev ?_ d1 ?_ (by dsimp only;omega)
  ·rw [hnext36];exact g1
  ·rw [hnext35];exact g2.tail d2 ha
 replace e35:=bz e35
 rw [if_neg e35]at hnext35 hev
 repeat' (refine aC ?_)
 refine SH (n:=n) (s:=⟨some ⟨b13,0,none⟩,M.no.n,M.no.n⟩) hl (Nat.le_of_lt hlt) (wM hok hni) (Ad hok f1 f2 i (Nat.le_of_lt hlt)) (dN _ _ _ _) hpv5 e35 e36 ?_ fun t h6 l6 hval=>⟨t,rfl,b13,0,rfl,by omega,by dsimp only;omega,?_⟩
 ·intro p hp0 hp h' l' R' kk
  exact Ot (hs.mono (Hp.le_trans l5 l')) hm hp0 hp (l' _ _ f9) kk
 ·refine step h6 t _ uS uI l6 hval hev ?_ d1 ?_ d2
  ·rw [hnext36];exact g1
  ·rw [hnext35];exact g2
theorem Ez {h:Hp} {s:Sl} {b:Nat} {x:Blk} (hx:(h.offS s) b=some x): ∀a,s.a=some a->a.block≠b:=by
 intro a ha e
 unfold Hp.offS at hx
 rw [ha]at hx
 simp only at hx
 rw [e,um]at hx;cases hx
theorem rv {h:Hp} {s:Sl} {b:Nat} {x:Blk} (cs:List Value) (z:Nat) (hx:(h.offS s) b=some x):(h.row b cs z).offS s=(h.offS s).row b cs z:=by
 have hn:=Ez hx
 unfold Hp.offS
 cases ha:s.a with
 |none=>rfl
 |some a=>
  have:=hn a ha
  funext c
  simp only [Hp.off,Hp.row,Hp.set]
  by_cases h1:c=a.block
  ·rw [if_pos h1,if_neg (fun e=>this (h1▸e)),if_pos h1]
  ·rw [if_neg h1];split<;>first|rfl|rw [if_neg h1]
theorem xj {h:Hp} {s:Sl} {b:Nat} (hn: ∀a,s.a=some a->a.block≠b):(h.offS s) b=h b:=by
 unfold Hp.offS
 cases ha:s.a with
 |none=>rfl
 |some a=>
  have:=hn a ha
  simp only [Hp.off,Hp.set]
  rw [if_neg (fun e=>this e.symm)]
theorem Buf.row {h:Hp} {s:Sl} {sz:Nat} {cs:List Value} {b:Nat} {x:Blk} (cs':List Value) (z:Nat) (e:Buf h s sz cs) (hx:(h.offS s) b=some x):Buf (h.row b cs' z) s sz cs:=by
 refine⟨e.1,e.2.1,e.2.2.imp id ?_⟩
 rintro ⟨c,hc,hcb⟩
 refine⟨c,hc,?_⟩
 rw [bX _ _ (Ez hx _ hc)];exact hcb
theorem vG {h h0:Hp} {s:Sl} {b z o m:Nat} {cs vs:List Value} {P:Hp->Prop} (f:(h.offS s) b=some (.inl ⟨cs,z,false⟩)) (l:h0.le (h.offS s)) (hb:h0 b=none) (hl:m<=cs.length)
  (k: ∀h',(h'.offS s) b=some (.inl ⟨ce cs o vs,z,false⟩)->(∀c,c≠b->(h'.offS s) c=(h.offS s) c)->h0.le (h'.offS s)->(∀sz bs,Buf h s sz bs->Buf h' s sz bs)->P h'):
  ∃(cs':List Value) (z':Nat),h b=some (.inl ⟨cs',z',false⟩)/\m<=List.length cs'/\cJ (h.row b (ce cs' o vs) z') fun h'=>P h':=by
 refine⟨cs,z,aU _ _ _ _ f,hl,k _ ?_ ?_ ?_ (fun sz bs e=>e.row _ _ f)⟩
 ·rw [rv _ _ f,bJ]
 ·intro c hc;rw [rv _ _ f,bX _ _ hc]
 ·rw [rv _ _ f];exact dP _ _ hb l
theorem IT {h:Hp} {x:Int} {R:Value->Hp->Prop} (k: ∀t h',h.le h'->IntS h' t [x]->R (.agg #[Sl.v t]) h'):kE #[I x] h R:=by
 apply Ox
 refine uf_ ?_
 refine ai fun b3 h1 hb3 l1 f3=>?_
 refine ai fun b6 h2 hb6 l2 f6=>?_
 have ne:=fresh_ne hb6 f3
 (with_reducible apply co);(exact l2 _ _ f3);(exact Hp.le_trans l1 l2);(exact hb3);(exact Nat.le_refl 1)
 intro h3 g3 kp l3
 refine⟨⟨some ⟨b6,0,none⟩,1,1⟩,by rw [av g3];rfl,k _ h3 l3 ?_⟩
 exact⟨by dsimp only;omega,rfl, .inr ⟨b6,0,rfl,au (cB kp ne.symm f6)⟩⟩
theorem oP {h:Hp} {s:Sl} {xs:List Int} {R:Value->Hp->Prop} (hs:IntS h s xs) (hl:xs.length<=1048576)
  (k: ∀t h',h.le h'->Buf (h'.sub h) t 1 (xs.map I)->R (.agg #[Sl.v t]) h'):ey #[.agg #[s.v]] h R:=by
 apply J8
 refine uf_ ?_
 have hn:=hs.len
 refine ai fun b3 h1 hb3 l1 f3=>?_
 refine ai fun b5 h2 hb5 l2 f5=>?_
 replace f3:=l2 _ _ f3
 have b5n:=aE l1 hb5
 replace l2:=Hp.le_trans l1 l2
 refine ai fun b8 h3 hb8 l3 f8=>?_
 have n58:=fresh_ne hb8 f5
 have n38:=fresh_ne hb8 f3
 have b8n:=aE l2 hb8
 replace f3:=l3 _ _ f3
 replace f5:=l3 _ _ f5
 replace l3:=Hp.le_trans l2 l3
 clear l1 l2 hb3 hb5 hb8 h1 h2
 refine ar xs.length (fun i vs h'=> ∃sl:Sl,vs= [.pointer (some ⟨b3,0,none⟩), .pointer (some ⟨b5,0,none⟩), .pointer (some ⟨b8,0,none⟩),I i]/\h.le (h'.offS sl)/\(h'.offS sl) b3=some (.inl ⟨[s.v],1,false⟩)/\
  (h'.offS sl) b5=some (.inl ⟨[.slice none 0 0],1,false⟩)/\(h'.offS sl) b8=some (.inl ⟨[sl.v],1,false⟩)/\sl.n=i/\Buf h' sl 1 ((xs.take i).map I)/\(∀a,sl.a=some a->h a.block=none))
  ⟨⟨none,0,0⟩,rfl,l3,f3,f5,f8,rfl,eP _ _,fun a ha=>by cases ha⟩ ?_
 clear l3 f3 f5 f8 h3
 rintro i _ h3 next hi ⟨sl,rfl,l3,f3,f5,f8,hsl,hbuf,hfr⟩ hnx
 refine⟨_,_,_,_,_,_,_,rfl,?_⟩
 have lo:=aU h3 sl
 have f3':=lo _ _ f3
 (refine aC ?_)
 by_cases hlt:i<xs.length
 ·refine aL (by simp;omega) ?_
  have f8':=lo _ _ f8
  obtain⟨b,o,ha,hc⟩:=(hs.mono (Hp.le_trans l3 lo)).get (List.getElem?_eq_getElem hlt)
  repeat' (refine aC ?_)
  refine⟨b,o,ha,by omega,by omega,_,hc,?_⟩
  refine ai fun b32 h4 hb32 l4 f32=>?_
  refine⟨by rw [l4 _ _ f8',f8'],?_⟩
  have l34:=aZ sl l4
  refine dr (hbuf.mono l4) (by omega) (by omega) (by omega) ⟨b32,0,rfl,au f32⟩ (by simp) rfl ?_
  intro s' h5 hs'n hbuf' l45 hsub
  have l35:=Hp.le_trans l34 l45
  have hfr': ∀a,s'.a=some a->h a.block=none:=by
   intro a ha'
   cases hx:h a.block with
   |none=>rfl
   |some x=>
    have:=l35 _ _ (l3 _ _ hx)
    exact absurd rfl (Ez this a ha')
  (with_reducible apply vG);(exact l35 _ _ f8);(exact Hp.le_trans l3 l35);(exact b8n);(exact Nat.le_refl 1)
  intro h6 g8 kp l6 hbufk
  rw [aw (by omega)]
  refine hnx hlt _ _ ⟨s',rfl,l6,?_,?_,g8,by omega,hbufk _ _ ?_,hfr'⟩
  ·rw [kp _ n38];exact l35 _ _ f3
  ·rw [kp _ n58];exact l35 _ _ f5
  ·rw [A6 hlt];exact hbuf'
 ·refine aA (by simp;omega) ?_
  have f8':=lo _ _ f8
  have f5':=lo _ _ f5
  (refine aC ?_)
  rw [List.take_of_length_le (by omega)]at hbuf
  (with_reducible apply vG);(exact f5);(exact l3);(exact b5n);(exact Nat.le_refl 1)
  intro h6 g5 kp l6 hbufk
  have l6':=Hp.le_trans l6 (aU _ _)
  refine⟨sl,by rw [av (aU _ _ _ _ g5)];rfl,k sl h6 l6' ?_⟩
  have hb6:=hbufk _ _ hbuf
  refine⟨hb6.1,hb6.2.1,hb6.2.2.imp id ?_⟩
  rintro ⟨c,hc,hcb⟩
  exact⟨c,hc,by rw [kK (hfr _ hc)];exact hcb⟩
theorem yR {h:Hp} {s t:Sl} {xs ys:List Int} {R:Value->Hp->Prop} (hs:IntS h s xs) (ht:IntS h t ys) (hl:xs.length<=1048576) (hle:xs.length<=ys.length)
  (k:R (.bool (decide (xs=ys))) h):nh #[.agg #[s.v], .agg #[t.v]] h R:=by
 refine ACalls.drop (KP ?_)
 refine uf_ ?_
 have hn:=hs.len
 have hm:=ht.len
 refine ai fun b4 h1 hb4 l1 f4=>?_
 refine ai fun b6 h2 hb6 l2 f6=>?_
 replace f4:=l2 _ _ f4
 replace l2:=Hp.le_trans l1 l2
 have lf: ∀{q:Bool},q=decide (xs=ys)-> ∃h':Hp,h'.le h2/\R (.bool q) h':=fun e=>⟨_,l2,e▸k⟩
 clear k
 refine ar xs.length (fun i vs h'=>vs= [.pointer (some ⟨b4,0,none⟩), .pointer (some ⟨b6,0,none⟩),I i]/\h'=h2/\xs.take i=ys.take i) ⟨rfl,rfl,by simp⟩ ?_
 rintro i _ h' next hi ⟨rfl,rfl,hg⟩ hnx
 refine⟨_,_,_,_,_,rfl,?_⟩
 (refine aC ?_)
 by_cases hlt:i<xs.length
 ·refine aL (by simp;omega) ?_
  obtain⟨b,o,ha,hc⟩:=(hs.mono l2).get (List.getElem?_eq_getElem hlt)
  obtain⟨b2,o2,ha2,hc2⟩:=(ht.mono l2).get (List.getElem?_eq_getElem (show i<ys.length by omega))
  (refine aC ?_)
  refine⟨b,o,ha,by omega,by omega,_,hc,?_⟩
  (refine aC ?_)
  refine⟨b2,o2,ha2,by omega,by omega,_,hc2,?_⟩
  refine ad (fun e=>lf ?_) (fun e=>?_)
  ·symm;rw [decide_eq_false_iff_not]
   rintro rfl;exact iQ e rfl
  ·rw [aw (by omega)]
   exact hnx hlt _ _ ⟨rfl,rfl,wF hlt (by omega) hg (gV e)⟩
 ·refine aA (by simp;omega) ?_
  repeat' (refine aC ?_)
  refine lf ?_
  rw [List.take_of_length_le (show xs.length<=i by omega)]at hg
  rw [Bool.eq_iff_iff,decide_eq_true_iff,beq_iff_eq]
  constructor
  ·intro e
   rwa [List.take_of_length_le (by omega)]at hg
  ·rintro rfl;omega
theorem Buf.slS {h h0:Hp} {s:Sl} {xs:List Int} (e:Buf (h.sub h0) s 1 (xs.map I)) (hn:s.n<=9223372036854775807):IntS h s xs:=(Buf.slc_of e hn).mono (sub_le _ _)
theorem gR.wid {h:Hp} {s:Sl} {l:List NodeP} (e:gR h s l) {p:Int} (h0:0<=p) (hp:p<l.length):
  ∃b o,s.a=some (Addr.mk b o none)/\p<(s.n:Int)/\Hp.cell h b ((o+p.toNat*9)+6+1)=some (I (az l p).wid):=by
 obtain⟨n,hn1⟩: ∃n,l[p.toNat]?=some n:=⟨_,List.getElem?_eq_getElem (by omega)⟩
 obtain⟨ba,oa,ha1,_,_,_,_,_,_,c6,c7,_⟩:=e.at hn1
 refine⟨ba,oa,ha1,by have:=e.len;omega,?_⟩
 rw [rl hn1];exact c7
theorem OQ {h:Hp} {l:List NodeP} {i:Nat} {n:NodeP} {sn s:Sl} {v:List (List Nat)} {R:Value->Hp->Prop} (hl:l.length<=60) (hi:i<=l.length)
  (ht:Qr l i n) (hv:zg l i v) (hvl:v.length=i) (hsn:gR h sn l) (hpv:gv h s v) (hk34: ¬n.kind=34) (hk35: ¬n.kind=35) (hk36: ¬n.kind=36)
  (k: ∀t h',h.le h'->IntS h' t (VL (fQ l n v))->R (.agg #[Sl.v t]) h'):vH #[sn.v,wz n,s.v] h R:=by
 obtain⟨val,hnv⟩: ∃val,val=fQ l n v:=⟨_,rfl⟩
 rw [<-hnv]at k
 unfold fQ at hnv
 apply Ko
 refine uf_ ?_
 have hk:=ht.kind
 have hp:0<ak n.kind:=by
  have:ak n.kind≠0:=by intro h0;revert h0;unfold ak;(repeat' split)<;>(intro h;omega)
  omega
 have pk:=ht.part
 have pf: ∀j:Nat,j<3->(j:Int)<ak n.kind->Fit (az l (aQ n j)) (v.getD (aQ n j).toNat []):=fun j h1 h2=>hv.part ht hi h1 h2
 refine ai fun b13 h1 hb13 l1 f13=>?_
 refine ai fun b15 h2 hb15 l2 f15=>?_
 have n13:=fresh_ne hb15 f13
 have b15n:=aE l1 hb15
 replace f13:=l2 _ _ f13
 replace l2:=Hp.le_trans l1 l2
 (refine aC ?_)
 obtain⟨ba,oa,ta,ha,h1',hca,hta⟩:=(hpv.mono l2).at (pk 0 (by omega) (by omega)).1 (by have:=(pk 0 (by omega) (by omega)).2.1;omega)
 refine⟨ba,oa,ha,(pk 0 (by omega) (by omega)).1,h1',ta,hca,?_⟩
 refine ai fun b22 h3 hb22 l3 f22'=>?_
 have n22:=fresh_ne hb22 f13
 have n22':=fresh_ne hb22 f15
 have b22n:=aE l2 hb22
 (with_reducible apply co);(exact f22');(exact l3);(exact hb22);(exact Nat.le_refl 1)
 intro h4 f22 kp l4
 replace f13:=l4 _ _ f13
 replace f15:=l4 _ _ f15
 have l0:=Hp.le_trans l2 l4
 replace hta:=hta.mono l4
 have f22v:h4 b22=some (.inl ⟨[ta.v],1,false⟩):=f22
 clear f22 f22' l1 l2 l3 l4 hb13 hb15 hb22 h1 h2 h3 hca kp
 have res: ∀(h5:Hp) (t:Sl),h.le h5->h5 b15=some (.inl ⟨[.slice none 0 0],1,false⟩)->IntS h5 t (VL val)->
   ∃(cs:List Value) (z:Nat),h5 b15=some (.inl ⟨cs,z,false⟩)/\0+1<=List.length cs/\cJ (h5.row b15 (ce cs 0 [t.v]) z) fun h'=> ∃(s:Sl),Hp.cell h' b15 0=some s.v/\R (.agg #[s.v]) h':=by
  intro h5 t l5 g15 hval
  (with_reducible apply co);(exact g15);(exact l5);(exact b15n);(exact Nat.le_refl 1)
  intro h6 g kp l6
  exact⟨t,by rw [av g];rfl,k t h6 l6 (hval.keep g15 kp)⟩
 clear k
 have wres: ∀(x:Nat) (z:Int),z=x->val= [x]->kE #[I z] h4 fun v30 h31=> ∃(s32:Sl),v30=(.agg #[s32.v])/\(∃(cs33:List Value) (z34:Nat),h31 b15=some (.inl ⟨cs33,z34,false⟩)/\0+1<=List.length cs33/\cJ (h31.row b15 (ce cs33 0 [s32.v]) z34) fun h35=> ∃(s36:Sl),Hp.cell h35 b15 0=some s36.v/\(R (.agg #[s36.v]) h35)):=by
  intro x z hz hx
  subst hz
  refine IT fun t h5 l5 hval=>⟨t,rfl,res h5 t (Hp.le_trans l0 l5) (l5 _ _ f15) ?_⟩
  rw [hx];exact hval
 have cres: ∀(s0:Sl) (x:List Nat),IntS h4 s0 (VL x)->x.length<=4->val=x->ey #[.agg #[s0.v]] h4 fun v30 h31=> ∃(s32:Sl),v30=(.agg #[s32.v])/\(∃(cs33:List Value) (z34:Nat),h31 b15=some (.inl ⟨cs33,z34,false⟩)/\0+1<=List.length cs33/\cJ (h31.row b15 (ce cs33 0 [s32.v]) z34) fun h35=> ∃(s36:Sl),Hp.cell h35 b15 0=some s36.v/\(R (.agg #[s36.v]) h35)):=by
  intro s0 x hs0 hx hval
  refine oP hs0 (by rw [aX];omega) fun t h5 l5 hb=>⟨t,rfl,res h5 t (Hp.le_trans l0 l5) (l5 _ _ f15) ?_⟩
  rw [hval];exact hb.slS (by have:=hb.1;rw [List.length_map,aX]at this;omega)
 have hpv4:=hpv.mono l0
 have vat: ∀j:Nat,j<3->(j:Int)<ak n.kind->_:=fun j h1 h2=>hpv4.at (pk j h1 h2).1 (by have:=(pk j h1 h2).2.1;omega)
 have hres:=ht.res hp
 have oa':=bZ.1 (pk 0 (by omega) hp).2.2
 rw [if_neg hk34]at hnv
 have hkinds:=lW hp
 have len4: ∀j:Nat,j<3->(j:Int)<ak n.kind->(v.getD (aQ n j).toNat []).length<=4:=fun j h1 h2=>by
  have o:=bZ.1 (pk j h1 h2).2.2
  rw [(pf j h1 h2).len]
  have:=Nat.pow_le_pow_right (n:=2) (by omega) (show (az l (aQ n j)).idx.toNat<=2 by omega);simpa using this
 obtain⟨bw,ow,hwa,hwl,hwc⟩:=(hsn.mono l0).wid (pk 0 (by omega) (by omega)).1 (by have:=(pk 0 (by omega) (by omega)).2.1;omega)
 (refine aC ?_)
 refine⟨bw,ow,hwa,(pk 0 (by omega) (by omega)).1,hwl,_,hwc,?_⟩
 have ta0:=hta.elt (pf 0 (by omega) (by omega)).pos
 obtain⟨b0,o0,a0,e0,m0⟩:=ta0
 refine aq (fun J=> ∀x:Nat,val= [x]->J x h4) ?_ (fun J hJ=>?_)
 ·intro x hx;exact wres x x rfl hx
 (refine aC ?_)
 refine ad (fun e=>?_) (fun e33=>?_)
 ·have e:=bU e
  have hp3:ak n.kind=3:=by omega
  rw [if_pos e]at hnv
  (refine aC ?_)
  refine⟨b0,o0,a0,by omega,by omega,_,e0,?_⟩
  refine ad (fun e=>?_) (fun e=>?_)
  ·(refine aC ?_)
   obtain⟨b,o,t,ha,h1,h2,h3'⟩:=vat 1 (by omega) (by omega)
   refine⟨b,o,ha,(pk 1 (by omega) (by omega)).1,h1,t,h2,cres t _ h3' (len4 1 (by omega) (by omega)) ?_⟩
   have:cL v n.a=1:=by have:=bU e;unfold cL;simp only [aQ]at this;omega
   rw [hnv,if_pos this];rfl
  ·(refine aC ?_)
   obtain⟨b,o,t,ha,h1,h2,h3'⟩:=vat 2 (by omega) (by omega)
   refine⟨b,o,ha,(pk 2 (by omega) (by omega)).1,h1,t,h2,cres t _ h3' (len4 2 (by omega) (by omega)) ?_⟩
   have: ¬cL v n.a=1:=by have:=bz e;unfold cL;simp only [aQ]at this;omega
   rw [hnv,if_neg this];rfl
 replace e33:=bz e33
 rw [if_neg e33]at hnv
 (refine aC ?_)
 refine ad (fun e=>?_) (fun e37=>?_)
 ·have e:=bU e
  have hp2:ak n.kind=2:=by omega
  obtain⟨r1,r2,r3⟩:=S6 e hres
  rw [if_neg (show¬n.kind=21 by omega),if_pos e]at hnv
  repeat' (refine aC ?_)
  obtain⟨b,o,t,ha,h1,h2,h3'⟩:=vat 1 (by omega) (by omega)
  obtain⟨b2,o2,ha2,hc2,hl2⟩:=h3'.elt (pf 1 (by omega) (by omega)).pos
  refine⟨b,o,ha,(pk 1 (by omega) (by omega)).1,h1,t,h2,b2,o2,ha2,by omega,by omega,_,hc2,?_⟩
  have fb:=(pf 1 (by omega) (by omega)).cell
  have fa:=(pf 0 (by omega) (by omega)).len
  simp only [aQ]at fb fa hta
  rw [r2]at fb
  have hlt:cL v n.b<(v.getD n.a.toNat []).length:=by rw [fa];exact fb
  obtain⟨b3,o3,ha3,hc3,hl3⟩:=hta.elt hlt
  refine⟨b3,o3,ha3,by omega,by show (cL v n.b:Int)<_;omega,_,hc3,?_⟩
  exact wres _ _ rfl hnv
 replace e37:=bz e37
 (refine aC ?_)
 refine ad (fun e=>?_) (fun e38=>?_)
 ·have e:=bU e
  have hp3:ak n.kind=3:=by omega
  obtain⟨r1,r2,r3,r4⟩:=T3 e hres
  rw [if_neg (show¬n.kind=21 by omega),if_neg e37,if_pos e]at hnv
  repeat' (refine aC ?_)
  have fb:=(pf 1 (by omega) (by omega)).cell
  have fa:=(pf 0 (by omega) (by omega)).len
  have hle4:=len4 0 (by omega) (by omega)
  simp only [aQ]at fb fa hta hle4
  rw [r2]at fb
  have hlt:cL v n.b<(v.getD n.a.toNat []).length:=by rw [fa];exact fb
  refine oP hta (by rw [aX];omega) fun c h5 l5 hb5=>⟨c,rfl,?_⟩
  have hcn:c.n=(v.getD n.a.toNat []).length:=by have:=hb5.1;rw [List.length_map,aX]at this;omega
  obtain⟨bc,hca,hcrow⟩: ∃bc,c.a=some ⟨bc,0,none⟩/\(h5.sub h4) bc=some (.inl ⟨(VL (v.getD n.a.toNat [])).map I,c.c*1,false⟩):=by
   rcases hb5.2.2 with ⟨_,h0,_⟩|h0
   ·omega
   ·exact h0
  have hc5:h5 bc=some (.inl ⟨(VL (v.getD n.a.toNat [])).map I,c.c*1,false⟩):=sub_le _ _ _ _ hcrow
  have hc3:h4 bc=none:=by
   cases hx:h4 bc with
   |none=>rfl
   |some x=>rw [nv hx]at hcrow;cases hcrow
  have g13:=l5 _ _ f13
  have g15:=l5 _ _ f15
  refine ai fun b24 h6 hb24 l6 f24'=>?_
  have m13:=fresh_ne hb24 g13
  have m15:=fresh_ne hb24 g15
  have mc:=fresh_ne hb24 hc5
  have hb24n:=aE l5 hb24
  (with_reducible apply co);(exact f24');(exact Hp.le_trans l5 l6);(exact hb24n);(exact Nat.le_refl 1)
  intro h7 f24 kp l7
  replace g13:=cB kp m13 (l6 _ _ g13)
  replace g15:=cB kp m15 (l6 _ _ g15)
  have gc:=cB kp mc (l6 _ _ hc5)
  have hpv7:=hpv4.mono l7
  refine⟨c,by rw [av f24];rfl,?_⟩
  (refine aC ?_)
  obtain⟨b,o,t,ha,h1,h2,h3'⟩:=hpv7.at (pk 1 (by omega) (by omega)).1 (by have:=(pk 1 (by omega) (by omega)).2.1;omega)
  obtain⟨b2,o2,ha2,hc2,hl2⟩:=h3'.elt (pf 1 (by omega) (by omega)).pos
  refine⟨b,o,ha,(pk 1 (by omega) (by omega)).1,h1,t,h2,b2,o2,ha2,by omega,by omega,_,hc2,?_⟩
  (refine aC ?_)
  obtain⟨b',o',t',ha',h1',h2',h3''⟩:=hpv7.at (pk 2 (by omega) (by omega)).1 (by have:=(pk 2 (by omega) (by omega)).2.1;omega)
  obtain⟨b2',o2',ha2',hc2',hl2'⟩:=h3''.elt (pf 2 (by omega) (by omega)).pos
  refine⟨b',o',ha',(pk 2 (by omega) (by omega)).1,h1',t',h2',b2',o2',ha2',by omega,by omega,_,hc2',?_⟩
  refine⟨bc,0,hca,by omega,by show (cL v n.b:Int)<_;omega,?_⟩
  (with_reducible apply co);(exact gc);(exact l7);(exact hc3);(rw [List.length_map,aX];show 0+Int.toNat (cL v n.b:Int)*1+1<=_;omega)
  intro h8 gc' kp8 l8
  have n24:b24≠bc:=fun e=>mc e.symm
  have n15c:b15≠bc:=fun e=>by subst e;rw [hc3]at f15;cases f15
  replace f24:=cB kp8 n24 f24
  refine⟨c,by rw [av f24];rfl,?_⟩
  refine res h8 c (Hp.le_trans l0 l8) (cB kp8 n15c g15) ?_
  have hcells:ce ((VL (v.getD n.a.toNat [])).map I) (0+Int.toNat (cL v n.b:Int)*1) [I (cL v n.c)]=(VL val).map I:=by
   rw [hnv,bD,Int.toNat_natCast,Nat.mul_one,Nat.zero_add]
   simp [VL,List.map_set]
  have gc2:h8 bc=some (.inl ⟨ce ((VL (v.getD n.a.toNat [])).map I) (0+Int.toNat (cL v n.b:Int)*1) [I (cL v n.c)],c.c*1,false⟩):=gc'
  rw [hcells]at gc2
  refine⟨by omega,by simp [aX,hnv,hcn], .inr ⟨bc,0,hca,au gc2⟩⟩
 replace e38:=bz e38
 (refine aC ?_)
 refine ad (fun e=>?_) (fun e21=>?_)
 ·have e:=bU e
  have hp2:ak n.kind=2:=by omega
  obtain⟨r1,_⟩:=Z4 e hres
  rw [if_pos e]at hnv
  repeat' (refine aC ?_)
  obtain⟨b',o',t',ha',h1',h2',h3''⟩:=vat 1 (by omega) (by omega)
  refine⟨b',o',ha',(pk 1 (by omega) (by omega)).1,h1',t',h2',?_⟩
  have hl4:=len4 0 (by omega) (by omega)
  have fl:=(pf 0 (by omega) (by omega)).len
  have fl':=(pf 1 (by omega) (by omega)).len
  simp only [aQ]at fl fl'
  rw [<-r1]at fl'
  refine yR hta h3'' (by rw [aX];omega) (by rw [aX,aX];simp only [aQ];omega) ⟨_,rfl,tD ⟨_,rfl,?_⟩⟩
  refine wres _ _ ?_ hnv
  simp only [aQ,Ii]
  split<;>simp_all
 replace e21:=bz e21
 rw [if_neg e21,if_neg e37,if_neg e38]at hnv
 simp only [aQ]at oa'
 have word0: ∀wn:Nat,(az l n.a).wid=wn->WO wn (cL v n.a):=fun wn hw=>by
  have:=(pf 0 (by omega) (by omega)).cell
  simp only [aQ]at this
  rw [hw]at this
  exact⟨by omega,this⟩
 obtain⟨wa,hwa'⟩: ∃wn:Nat,(az l n.a).wid=wn:=⟨(az l n.a).wid.toNat,by omega⟩
 have hwo:=word0 wa hwa'
 have h16:=hwo.pow
 have hlta:=hwo.2
 rw [hwa',Int.toNat_natCast]at hnv
 have e0':Hp.cell h4 b0 (o0+0*1)=some (I (cL v n.a)):=e0
 have hsw:(az l (aQ n 0)).wid=(wa:Int):=hwa'
 rw [hsw]
 (refine aC ?_)
 refine ad (fun e=>?_) (fun e29=>?_)
 ·have e:=bU e
  have hp2:ak n.kind=2:=by omega
  obtain⟨r1,r2,r3,r4⟩:=TA e hres
  rw [if_pos e]at hnv
  have ob:=bZ.1 (pk 1 (by omega) (by omega)).2.2
  simp only [aQ]at ob
  obtain⟨wb,hwb⟩: ∃wn:Nat,(az l n.b).wid=wn:=⟨(az l n.b).wid.toNat,by omega⟩
  have hltb:=(pf 1 (by omega) (by omega)).cell
  simp only [aQ]at hltb
  rw [hwb,Int.toNat_natCast]at hltb
  rw [hwb,Int.toNat_natCast]at hnv
  obtain⟨bw2,ow2,hwa2,hwl2,hwc2⟩:=(hsn.mono l0).wid (pk 1 (by omega) (by omega)).1 (by have:=(pk 1 (by omega) (by omega)).2.1;omega)
  simp only [aQ]at hwc2
  rw [hwb]at hwc2
  (refine aC ?_)
  refine⟨b0,o0,a0,by omega,by omega,_,e0',?_⟩
  (refine aC ?_)
  refine⟨bw2,ow2,hwa2,(pk 1 (by omega) (by omega)).1,hwl2,_,hwc2,?_⟩
  (refine aC ?_)
  obtain⟨b',o',t',ha',h1',h2',h3''⟩:=vat 1 (by omega) (by omega)
  obtain⟨b2',o2',ha2',hc2',hl2'⟩:=h3''.elt (pf 1 (by omega) (by omega)).pos
  refine⟨b',o',ha',(pk 1 (by omega) (by omega)).1,h1',t',h2',b2',o2',ha2',by omega,by omega,_,hc2',?_⟩
  exact J0 hwo ⟨by omega,hltb⟩ (by omega) ⟨_,_,_,rfl,hJ _ hnv⟩
 replace e29:=bz e29
 rw [if_neg e29]at hnv
 (refine aC ?_)
 refine ad (fun e=>?_) (fun e30=>?_)
 ·have e:=bU e
  obtain⟨r1,r2,r3⟩:=TU e hres
  rw [if_pos e]at hnv
  obtain⟨lo,hlo⟩: ∃z:Nat,n.m=z:=⟨n.m.toNat,by omega⟩
  obtain⟨hh,hhh⟩: ∃z:Nat,n.n=z:=⟨n.n.toNat,by omega⟩
  (refine aC ?_)
  refine⟨b0,o0,a0,by omega,by omega,_,e0',?_⟩
  repeat' (refine aC ?_)
  rw [hlo,hhh]
  refine IV hwo (by omega) (by omega) ⟨_,_,_,rfl,hJ _ ?_⟩
  rw [hnv,hlo,hhh]
  unfold Re
  rw [Int.toNat_natCast,show ((hh:Int)-(lo:Int)+1).toNat=hh-lo+1 by omega]
 replace e30:=bz e30
 rw [if_neg e30]at hnv
 refine aq (fun J=>J (decide (n.kind=31\/n.kind=32))) ?_ (fun J2 hJ2=>?_)
 rotate_left
 ·clear res wres cres vat hJ
  repeat' (first|(with_reducible first|refine aL (b:=true) rfl ?_|refine aA (b:=false) rfl ?_|refine ad (fun _=>?_) fun _=>?_)|(refine aC ?_)|(refine gq ?_ hJ2))
  all_goals (clear hJ2;rw [Bool.eq_iff_iff];simp_all)
 refine ad (fun e=>?_) (fun e31=>?_)
 ·have e:=of_decide_eq_true e
  obtain⟨r1,r2,r3⟩:=TE e hres
  rw [if_pos e]at hnv
  obtain⟨mo,hmo⟩: ∃z:Nat,n.n=z:=⟨n.n.toNat,by omega⟩
  (refine aC ?_)
  refine⟨b0,o0,a0,by omega,by omega,_,e0',?_⟩
  repeat' (refine aC ?_)
  rw [hmo]
  refine Ki hwo (by omega) ⟨_,_,_,rfl,hJ _ ?_⟩
  rw [hnv,hmo,Int.toNat_natCast];rfl
 replace e31:=of_decide_eq_false e31
 rw [if_neg e31]at hnv
 (refine aC ?_)
 refine kC ⟨_,rfl,ad (fun e=>?_) (fun e1=>?_)⟩
 ·have e:=bU e
  rw [if_pos e]at hnv
  repeat' (refine aC ?_)
  refine⟨b0,o0,a0,by omega,by omega,_,e0',?_⟩
  exact Cv (by omega) hwo ⟨_,_,_,rfl,hJ _ hnv⟩
 ·replace e1:=bz e1
  rw [if_neg e1]at hnv
  have hp2:ak n.kind=2:=by omega
  obtain⟨r1,r2,r3⟩:=abL (by omega) hres
  have hltb:=(pf 1 (by omega) (by omega)).cell
  simp only [aQ]at hltb
  rw [<-r2,hwa',Int.toNat_natCast]at hltb
  repeat' (refine aC ?_)
  refine⟨b0,o0,a0,by omega,by omega,_,e0',?_⟩
  (refine aC ?_)
  obtain⟨b',o',t',ha',h1',h2',h3''⟩:=vat 1 (by omega) (by omega)
  obtain⟨b2',o2',ha2',hc2',hl2'⟩:=h3''.elt (pf 1 (by omega) (by omega)).pos
  refine⟨b',o',ha',(pk 1 (by omega) (by omega)).1,h1',t',h2',b2',o2',ha2',by omega,by omega,_,hc2',?_⟩
  exact CG (by omega) hwo ⟨hwo.1,hltb⟩ ⟨_,_,_,rfl,hJ _ hnv⟩
theorem vW (ts:List Sl):ww (ts.map Sl.v):=by
 have:=Ej ts 0
 simpa using this
theorem IntS.offL {h:Hp} {s t:Sl} {xs:List Int} {ts:List Sl} (e:IntS h t xs) (hb:Buf h s 1 (ts.map Sl.v)):IntS (h.offS s) t xs:=by
 rcases hb.2.2 with ⟨ha,_,_⟩|⟨b,ha,hbb⟩
 ·unfold Hp.offS;rw [ha];exact e
 ·have ho:h.offS s=h.off b:=by unfold Hp.offS;rw [ha]
  rw [ho]
  refine e.keepN hbb (vW ts) fun c hc=>?_
  simp only [Hp.off,Hp.set];rw [if_neg hc]
theorem Buf.pval {h:Hp} {s:Sl} {ts:List Sl} {vs:List (List Nat)} (e:Buf h s 1 (ts.map Sl.v)) (hlen:ts.length=vs.length) (hn:s.n<=1048576) (ht: ∀(j:Nat) (t:Sl),ts[j]?=some t->IntS h t (VL (vs.getD j []))):gv h s vs:=by
 have hl:=e.1
 simp at hl
 refine⟨by omega,hn,fun p hp=>?_⟩
 rcases e.2.2 with ⟨_,h0,_⟩|⟨b,ha,hbb⟩
 ·omega
 ·refine⟨b,0,ts[p]'(by omega),ha,?_,ht p _ (List.getElem?_eq_getElem (by omega))⟩
  rw [av hbb,Nat.zero_add,Nat.mul_one,List.getElem?_map,List.getElem?_eq_getElem (by omega)];rfl
def abV (h:Hp) (s:Sl):Prop:= ∀b o,s.a=some (Addr.mk b o none)->h b=none
theorem nQ {h:Hp} {M:MSl} {m:ah} {sS sI:Sl} {st inp:List (List Nat)} {R:Value->Hp->Prop} (hs:aM h M m) (hm:bM m) (hok:cv m.nodes=true) (hl:m.nodes.length<=60)
  (h1:IntSS h sS (st.map VL)) (f1:A2 m.nodes 36 st) (h2:IntSS h sI (inp.map VL)) (f2:A2 m.nodes 35 inp)
  (k: ∀t h',h.le h'->t.n=m.nodes.length->gv h' t (gk m.nodes st inp m.nodes.length)->abV h t->R (Sl.v t) h'):df #[aN M,sS.v,sI.v] h R:=by
 apply Oe
 refine uf_ ?_
 have hn:=hs.nodes.len
 have hsn:sS.n=st.length:=by obtain⟨ts,e1,e2,_⟩:=h1;have:=e2.2.1;simp at this e1;omega
 have hin:sI.n=inp.length:=by obtain⟨ts,e1,e2,_⟩:=h2;have:=e2.2.1;simp at this e1;omega
 refine ai fun b9 h3 hb9 l3 f9=>?_
 refine ar m.nodes.length (fun i vs h'=> ∃(ts:List Sl) (out:Sl),vs= [sS.v,sI.v, .pointer (some ⟨b9,0,none⟩),out.v,I (ay (m.nodes.take i) 36).length,I (ay (m.nodes.take i) 35).length,I i]/\
  h.le (h'.offS out)/\(h'.offS out) b9=some (.inl ⟨aG M,5,false⟩)/\out.n=i/\ts.length=i/\Buf h' out 1 (ts.map Sl.v)/\
  (∀(j:Nat) (t:Sl),ts[j]?=some t->IntS (h'.offS out) t (VL ((gk m.nodes st inp i).getD j []))))
  ⟨[],⟨none,0,0⟩,rfl,l3,f9,rfl,rfl,eP _ _,fun j t ht=>by simp at ht⟩ ?_
 clear f9 l3 hb9 h3
 rintro i _ h3 next hi ⟨ts,out,rfl,l3,f9,hon,htl,hbuf,hts⟩ hnx
 have lo:=aU h3 out
 have f9':=lo _ _ f9
 have l3':=Hp.le_trans l3 lo
 refine⟨sS,sI,_,_,out,_,_,_,rfl,?_⟩
 (refine aC ?_)
 by_cases hlt:i<m.nodes.length
 rotate_left
 ·have hie:i=m.nodes.length:=by omega
  subst hie
  refine aA (by simp;omega) (k out h3 l3' hon ?_ fun b o hb=>?_)
  ·exact hbuf.pval (by rw [dN];omega) (by omega) fun j t ht=>(hts j t ht).mono lo
  ·cases hx:h b with
   |none=>rfl
   |some x=>have:=l3 _ _ hx;simp [Hp.offS,hb,Hp.off,Hp.set]at this
 refine aL (by simp;omega) ?_
 obtain⟨n,hni⟩: ∃n,m.nodes[i]?=some n:=⟨_,List.getElem?_eq_getElem hlt⟩
 obtain⟨b,o,ha,e0,e1,e2,e3,e4,e5,e6,e7,e8⟩:=(hs.nodes.mono l3').at hni
 (refine aC ?_)
 refine⟨b,o,ha,by omega,by omega,_,e0,_,e1,_,e2,_,e3,_,e4,_,e5,_,e6,_,e7,_,e8,?_⟩
 refine ai fun b44 h4 hb44 l4 f44'=>?_
 (with_reducible apply co);(exact f44');(exact l4);(exact hb44);(exact Nat.le_refl 9)
 intro h5 f44 kp l5
 clear f44' kp l4
 refine ai fun b50 h6 hb50 l6 f50'=>?_
 have n44:=fresh_ne hb50 f44
 have b50n:=aE l5 hb50
 replace f44:=l6 _ _ f44
 (with_reducible apply co);(exact f50');(exact Hp.le_trans l5 l6);(exact b50n);(exact Nat.le_refl 1)
 intro h7 f50 kp l7
 replace f44:=cB kp n44 f44
 have f50v:h7 b50=some (.inl ⟨[.slice none 0 0],1,false⟩):=f50
 have f9'':=l7 _ _ f9'
 clear f50 f50' kp l5 l6 hb44 hb50 h4 h5 h6
 have l07:=Hp.le_trans l3' l7
 have hnext36:=vb (kind:=36) hni
 have hnext35:=vb (kind:=35) hni
 have hev:=om (s:=st) (inp:=inp) hni
 have hb36:(ay (m.nodes.take i) 36).length<=i:=by
  unfold ay
  refine Nat.le_trans (List.length_filter_le _ _) ?_
  rw [List.length_range,List.length_take];omega
 have hb35:(ay (m.nodes.take i) 35).length<=i:=by
  unfold ay
  refine Nat.le_trans (List.length_filter_le _ _) ?_
  rw [List.length_range,List.length_take];omega
 (refine aC ?_)
 refine aq (fun J=> ∀(t:Sl) (x:List Nat) (h8:Hp),h3.le h8->h8 b50=some (.inl ⟨[t.v],1,false⟩)->IntS h8 t (VL x)->gk m.nodes st inp (i+1)=gk m.nodes st inp i++ [x]->
  J ((ay (m.nodes.take (i+1)) 36).length:Nat) ((ay (m.nodes.take (i+1)) 35).length:Nat) h8) ?_ (fun J hJ=>?_)
 ·intro t x h8 l8 g50 hval hev'
  (refine aC ?_)
  refine ai fun b113 h9 hb113 l9 f113=>?_
  have l39:=Hp.le_trans l8 l9
  have l39o:=aZ out l39
  refine dr (hbuf.mono l39) (by omega) (by omega) (by omega) ⟨b113,0,rfl,au f113⟩ (by simp) rfl ?_
  intro s' h10 hs'n hbuf' l10 _
  rw [aw (by omega)]
  have l310:=Hp.le_trans l39o l10
  have hbuf'':Buf h10 s' 1 ((ts++ [t]).map Sl.v):=by rw [List.map_append];exact hbuf'
  refine hnx hlt _ _ ⟨ts++ [t],s',rfl,Hp.le_trans l3 l310,l310 _ _ f9,by omega,by simp;omega,hbuf'',fun j u hu=>?_⟩
  by_cases hj:j<i
  ·rw [List.getElem?_append_left (by omega)]at hu
   rw [hev',iU (by rw [dN];omega)]
   exact(hts j u hu).mono l310
  ·have hju:=get_lt hu
   simp at hju
   have hje:j=i:=by omega
   subst hje
   rw [List.getElem?_append_right (by omega),htl,Nat.sub_self]at hu
   simp at hu;subst hu
   rw [hev',List.getD_eq_getElem?_getD,List.getElem?_append_right (by rw [dN];omega),dN,Nat.sub_self]
   exact((hval.mono l9).offL (hbuf.mono l39)).mono l10
 have put: ∀(h8:Hp) (t:Sl) (x:List Nat) (P:Hp->Prop),h7.le h8->IntS h8 t (VL x)->(∀h9,h3.le h9->h9 b50=some (.inl ⟨[t.v],1,false⟩)->IntS h9 t (VL x)->P h9)->
   ∃(cs:List Value) (z:Nat),h8 b50=some (.inl ⟨cs,z,false⟩)/\0+1<=List.length cs/\cJ (h8.row b50 (ce cs 0 [t.v]) z) fun h'=>P h':=by
  intro h8 t x P l8 hval hP
  have g50:=l8 _ _ f50v
  (with_reducible apply co);(exact g50);(exact Hp.le_trans l7 l8);(exact b50n);(exact Nat.le_refl 1)
  intro h9 g kp l9
  exact hP h9 l9 g (hval.keep g50 kp)
 have hpv7:gv h7 out (gk m.nodes st inp i):=(hbuf.pval (by rw [dN];omega) (by omega) fun j t ht=>(hts j t ht).mono lo).mono l7
 have hfit:=Ad hok f1 f2 i (Nat.le_of_lt hlt)
 have htyp:=wM hok hni
 refine ad (fun e=>?_) (fun e34=>?_)
 ·have e:=bU e
  rw [if_neg (by omega)]at hnext36 hnext35
  rw [if_neg (by omega),if_neg (by omega)]at hev
  obtain⟨c1,c2⟩:=htyp.const e
  have:=kB.1 c2
  have hx:fQ m.nodes n (gk m.nodes st inp i)= [n.n.toNat]:=by unfold fQ;rw [if_pos e]
  (refine aC ?_)
  refine IT fun t h8 l8 hval=>⟨t,rfl,put h8 t [n.n.toNat] _ l8 ?_ fun h9 l9 g50 hv9=>?_⟩
  ·have:VL [n.n.toNat]= [n.n]:=by simp [VL];omega
   rw [this];exact hval
  ·have:=hJ t _ h9 l9 g50 hv9 (by rw [hev,hx])
   rw [hnext36,hnext35,Nat.add_zero,Nat.add_zero]at this;exact this
 replace e34:=bz e34
 refine ad (fun e=>?_) (fun e36=>?_)
 ·have e:=bU e
  rw [if_pos e]at hnext36 hev
  rw [if_neg (by omega)]at hnext35
  have hlt36:=Am hni e
  have hfk:=f1.2 _ _ (oE hni e)
  have hfs:az m.nodes ((i:Nat):Int)=n.sort:=by unfold az;rw [Int.toNat_natCast,hni]
  rw [hfs]at hfk
  rw [<-f1.1]at hlt36
  obtain⟨bs,os,t,ha,hc,ht⟩:=(h1.mono l07).at (i:=(ay (m.nodes.take i) 36).length) (by simpa using hlt36)
  have hst:(st.map VL)[(ay (m.nodes.take i) 36).length]'(by simpa using hlt36)=VL (st.getD (ay (m.nodes.take i) 36).length []):=by
   rw [List.getElem_map,List.getD_eq_getElem?_getD,List.getElem?_eq_getElem hlt36];rfl
  rw [hst]at ht
  have hso:=bZ.1 htyp.sort
  have hlen4:(st.getD (ay (m.nodes.take i) 36).length []).length<=4:=by
   rw [hfk.len];have:=Nat.pow_le_pow_right (n:=2) (by omega) (show n.sort.idx.toNat<=2 by omega);simpa using this
  refine⟨bs,os,ha,by omega,by omega,t,by rw [Int.toNat_natCast,Nat.mul_one];exact hc,?_⟩
  refine oP ht (by rw [aX];omega) fun c h8 l8 hb8=>⟨c,rfl,put h8 c _ _ l8 (hb8.slS (by have:=hb8.1;rw [List.length_map,aX]at this;omega)) fun h9 l9 g50 hv9=>?_⟩
  have:=hJ c _ h9 l9 g50 hv9 hev
  rw [hnext36,hnext35,Nat.add_zero]at this
  rw [aw (by omega)];exact this
 replace e36:=bz e36
 rw [if_neg e36]at hnext36 hev
 refine ad (fun e=>?_) (fun e35=>?_)
 ·have e:=bU e
  rw [if_pos e]at hnext35 hev
  have hlt35:=Am hni e
  have hfk:=f2.2 _ _ (oE hni e)
  have hfs:az m.nodes ((i:Nat):Int)=n.sort:=by unfold az;rw [Int.toNat_natCast,hni]
  rw [hfs]at hfk
  rw [<-f2.1]at hlt35
  obtain⟨bs,os,t,ha,hc,ht⟩:=(h2.mono l07).at (i:=(ay (m.nodes.take i) 35).length) (by simpa using hlt35)
  have hst:(inp.map VL)[(ay (m.nodes.take i) 35).length]'(by simpa using hlt35)=VL (inp.getD (ay (m.nodes.take i) 35).length []):=by
   rw [List.getElem_map,List.getD_eq_getElem?_getD,List.getElem?_eq_getElem hlt35];rfl
  rw [hst]at ht
  have hso:=bZ.1 htyp.sort
  have hlen4:(inp.getD (ay (m.nodes.take i) 35).length []).length<=4:=by
   rw [hfk.len];have:=Nat.pow_le_pow_right (n:=2) (by omega) (show n.sort.idx.toNat<=2 by omega);simpa using this
  refine⟨bs,os,ha,by omega,by omega,t,by rw [Int.toNat_natCast,Nat.mul_one];exact hc,?_⟩
  refine oP ht (by rw [aX];omega) fun c h8 l8 hb8=>⟨c,rfl,put h8 c _ _ l8 (hb8.slS (by have:=hb8.1;rw [List.length_map,aX]at this;omega)) fun h9 l9 g50 hv9=>?_⟩
  have:=hJ c _ h9 l9 g50 hv9 hev
  rw [hnext36,hnext35,Nat.add_zero]at this
  rw [aw (by omega)];exact this
 replace e35:=bz e35
 rw [if_neg e35]at hnext35 hev
 repeat' (refine aC ?_)
 refine OQ (n:=n) hl (Nat.le_of_lt hlt) htyp hfit (dN _ _ _ _) (hs.nodes.mono l07) hpv7 e34 e35 e36 fun t h8 l8 hval=>⟨t,rfl,put h8 t _ _ l8 hval fun h9 l9 g50 hv9=>?_⟩
 have:=hJ t _ h9 l9 g50 hv9 hev
 rw [hnext36,hnext35,Nat.add_zero,Nat.add_zero]at this;exact this
theorem Jz {l:List NodeP} {kind:Int} {p:Nat} (h:p∈ay l kind): ∃n,l[p]?=some n/\n.kind=kind:=by
 unfold ay at h
 rw [List.mem_filter,List.mem_range]at h
 cases hn:l[p]? with
 |none=>rw [hn]at h;exact absurd h.2 Bool.false_ne_true
 |some n=>rw [hn]at h;exact⟨n,rfl,by simpa using h.2⟩
theorem Fs (l:List NodeP) (hok:cv l=true) (kind:Int):cG l (ay l kind)=am l kind:=by
 have key: ∀i,i<=l.length->cG l (ay (l.take i) kind)=am (l.take i) kind:=by
  intro i
  induction i with
  |zero=>intro _;simp [ay,cG,am]
  |succ i ih=>
   intro hi
   obtain⟨n,hn⟩: ∃n,l[i]?=some n:=⟨_,List.getElem?_eq_getElem (by omega)⟩
   rw [jC hn,D7 kind hn,<-ih (by omega)]
   have hs:=bZ.1 (wM hok hn).sort
   have hsa:az l ((i:Nat):Int)=n.sort:=by unfold az;rw [Int.toNat_natCast,hn]
   by_cases hk:n.kind=kind
   ·rw [if_pos hk,if_pos hk]
    unfold cG
    rw [List.map_append,List.sum_append]
    simp only [List.map_cons,List.map_nil,List.sum_cons,List.sum_nil,Nat.add_zero]
    unfold bG aF dz
    rw [hsa,Nat.mul_comm]
   ·rw [if_neg hk,if_neg hk,List.append_nil,Nat.add_zero]
 have:=key l.length (Nat.le_refl _)
 rwa [List.take_of_length_le (Nat.le_refl _)]at this
theorem GY {l:List NodeP} (hok:cv l=true) (kind:Int) (code:Nat):A2 l kind (dR l (ay l kind) code):=by
 refine⟨jr _ _ _,fun k p hp=>?_⟩
 rw [DH hp]
 obtain⟨n,hn,_⟩:=Jz (List.mem_of_getElem? hp)
 have hsa:az l ((p:Nat):Int)=n.sort:=by unfold az;rw [Int.toNat_natCast,hn]
 have hso:=(wM hok hn).sort
 refine⟨?_,fun x hx=>TX hx⟩
 rw [qY]
 unfold aF cY
 rw [hsa,if_pos hso]
theorem wu (a b:List Nat):VL (a++b)=VL a++VL b:=by simp [VL]
theorem kO {h:Hp} {M:MSl} {m:ah} {kind:Int} {R:Value->Hp->Prop} (hs:aM h M m) (hm:bM m)
  (k: ∀t h',h.le (h'.offS t)->t.n<=m.nodes.length->Buf h' t 1 ((VL (ay m.nodes kind)).map I)->R (Sl.v t) h'):aW #[aN M,I kind] h R:=by
 apply AN
 refine uf_ ?_
 have hn:=hs.nodes.len
 have hns:=hm.nodes
 refine ai fun b8 h1 hb8 l1 f8=>?_
 (refine aC ?_)
 refine ar m.nodes.length (fun i vs h'=> ∃out:Sl,vs= [I kind,out.v,M.no.v,I M.no.n,I i]/\h.le (h'.offS out)/\out.n<=i/\Buf h' out 1 ((VL (ay (m.nodes.take i) kind)).map I)) ⟨⟨none,0,0⟩,rfl,l1,Nat.le_refl _,by simp [ay,VL];exact eP _ _⟩ ?_
 clear l1 f8 hb8 h1
 rintro i _ h1 next hi ⟨out,rfl,l1,hon,hbuf⟩ hnx
 have lo:=aU h1 out
 have l1':=Hp.le_trans l1 lo
 refine⟨_,out,M.no,_,_,rfl,?_⟩
 by_cases hlt:i<m.nodes.length
 ·refine aL (by simp;omega) ?_
  obtain⟨n,hni⟩: ∃n,m.nodes[i]?=some n:=⟨_,List.getElem?_eq_getElem hlt⟩
  obtain⟨b,o,ha,e0,e1,e2,e3,e4,e5,e6,e7,e8⟩:=(hs.nodes.mono l1').at hni
  refine⟨b,o,ha,by omega,by omega,_,e0,_,e1,_,e2,_,e3,_,e4,_,e5,_,e6,_,e7,_,e8,?_⟩
  refine ai fun b36 h2 hb36 l2 f36=>?_
  (with_reducible apply co);(exact f36);(exact l2);(exact hb36);(exact Nat.le_refl 9)
  intro h3 f36' kp l3
  have hpre:=jC (kind:=kind) hni
  have l3o:=aZ out l3
  (refine aC ?_)
  rw [aw (by omega)]
  refine ad (fun e=>?_) (fun e=>?_)
  ·rw [if_pos (bU e)]at hpre
   refine ai fun b44 h4 hb44 l4 f44=>?_
   have l4o:=aZ out l4
   refine dr (hbuf.mono (Hp.le_trans l3 l4)) (by omega) (by omega) (by omega) ⟨b44,0,rfl,au f44⟩ (by simp) rfl ?_
   intro s' h5 hs'n hbuf' l5 _
   refine hnx hlt _ _ ⟨s',rfl,Hp.le_trans l1 (Hp.le_trans l3o (Hp.le_trans l4o l5)),by omega,?_⟩
   rw [hpre,wu,List.map_append];exact hbuf'
  ·rw [if_neg (bz e),List.append_nil]at hpre
   refine hnx hlt _ _ ⟨out,rfl,Hp.le_trans l1 l3o,by omega,?_⟩
   rw [hpre];exact hbuf.mono l3
 ·refine aA (by simp;omega) (k out h1 l1 (by omega) ?_)
  rw [List.take_of_length_le (by omega)]at hbuf
  exact hbuf
theorem cC {h:Hp} {M:MSl} {m:ah} {kind:Int} {R:Value->Hp->Prop} (hs:aM h M m) (hm:bM m)
  (k: ∀t h',h.le h'->IntS h' t (VL (ay m.nodes kind))->R (Sl.v t) h'):aR #[aN M,I kind] h R:=by
 apply Gl
 refine uf_ ?_
 have hn:=hs.nodes.len
 have hns:=hm.nodes
 refine ai fun b8 h1 hb8 l1 f8=>?_
 refine ar m.nodes.length (fun i vs h'=> ∃out:Sl,vs= [I kind, .pointer (some ⟨b8,0,none⟩),out.v,I i]/\h.le (h'.offS out)/\(h'.offS out) b8=some (.inl ⟨aG M,5,false⟩)/\out.n<=i/\Buf h' out 1 ((VL (ay (m.nodes.take i) kind)).map I)) ⟨⟨none,0,0⟩,rfl,l1,f8,Nat.le_refl _,by simp [ay,VL];exact eP _ _⟩ ?_
 clear l1 f8 hb8 h1
 rintro i _ h1 next hi ⟨out,rfl,l1,f8,hon,hbuf⟩ hnx
 have lo:=aU h1 out
 have l1':=Hp.le_trans l1 lo
 have f8':=lo _ _ f8
 refine⟨_,_,_,out,_,rfl,?_⟩
 (refine aC ?_)
 by_cases hlt:i<m.nodes.length
 ·refine aL (by simp;omega) ?_
  obtain⟨n,hni⟩: ∃n,m.nodes[i]?=some n:=⟨_,List.getElem?_eq_getElem hlt⟩
  obtain⟨b,o,ha,e0,_⟩:=(hs.nodes.mono l1').at hni
  have hpre:=jC (kind:=kind) hni
  (refine aC ?_)
  refine⟨b,o,ha,by omega,by omega,_,e0,?_⟩
  rw [aw (by omega)]
  refine ad (fun e=>?_) (fun e=>?_)
  ·rw [if_pos (bU e)]at hpre
   refine ai fun b44 h4 hb44 l4 f44=>?_
   have l4o:=aZ out l4
   refine dr (hbuf.mono l4) (by omega) (by omega) (by omega) ⟨b44,0,rfl,au f44⟩ (by simp) rfl ?_
   intro s' h5 hs'n hbuf' l5 _
   have l15:=Hp.le_trans l4o l5
   refine hnx hlt _ _ ⟨s',rfl,Hp.le_trans l1 l15,l15 _ _ f8,by omega,?_⟩
   rw [hpre,wu,List.map_append];exact hbuf'
  ·rw [if_neg (bz e),List.append_nil]at hpre
   refine hnx hlt _ _ ⟨out,rfl,l1,f8,by omega,?_⟩
   rw [hpre];exact hbuf
 ·refine aA (by simp;omega) (k out h1 l1' ?_)
  rw [List.take_of_length_le (by omega)]at hbuf
  exact hbuf.slc_of (by omega)
structure qc (h0 h:Hp) (out:Sl) (ts:List Sl) (vs:List (List Nat)):Prop where
 len:ts.length=vs.length
 row: ∀(i:Nat) (t:Sl),ts[i]?=some t-> ∃b,t=⟨some ⟨b,0,none⟩,(vs.getD i []).length,(vs.getD i []).length⟩/\h0 b=none/\
  (h.offS out) b=some (.inl ⟨(VL (vs.getD i [])).map I,(vs.getD i []).length,false⟩)
 dis: ∀(i j:Nat) (t u:Sl),ts[i]?=some t->ts[j]?=some u->t.a=u.a->i=j
 buf:Buf h out 1 (ts.map Sl.v)
 le:h0.le (h.offS out)
theorem qc.ints {h0 h:Hp} {out:Sl} {ts:List Sl} {vs:List (List Nat)} (e:qc h0 h out ts vs) (hl: ∀v∈vs,v.length<=1048576) (hn:out.n<=1048576):IntSS h out (vs.map VL):=by
 refine⟨ts,by rw [List.length_map];exact e.len,e.buf.slc_of (by omega),fun i h1 h2=>?_⟩
 obtain⟨b,ht,_,hr⟩:=e.row i _ (List.getElem?_eq_getElem h1)
 have hi:i<vs.length:=by rw [List.length_map]at h2;exact h2
 have hv:(vs.map VL)[i]=VL (vs.getD i []):=by
  rw [List.getElem_map,List.getD_eq_getElem?_getD,List.getElem?_eq_getElem hi];rfl
 have hvl:(vs.getD i []).length<=1048576:=by
  rw [List.getD_eq_getElem?_getD,List.getElem?_eq_getElem hi];exact hl _ (List.getElem_mem hi)
 rw [ht,hv]
 refine⟨by dsimp only;omega,by simp [aX], .inr ⟨b,0,rfl,au (aU _ _ _ _ hr)⟩⟩
def cy (l:List NodeP) (ps:List Nat):List (List Nat):=ps.map fun p=>List.replicate (aF l p) 0
theorem da (l:List NodeP) (p:Nat):aF l p<=4:=wY _
theorem gG {ps:List Nat} {i p:Nat} (h:ps[i]?=some p):(VL ps)[i]?=some ((p:Nat):Int):=by simp [VL,h]
theorem gR.sortc {h:Hp} {s:Sl} {l:List NodeP} (e:gR h s l) {p:Nat} (hp:p<l.length):
  ∃b o,s.a=some (Addr.mk b o none)/\(p:Int)<(s.n:Int)/\Hp.cell h b ((o+Int.toNat (p:Int)*9)+6)=some (I (az l p).idx)/\Hp.cell h b ((o+Int.toNat (p:Int)*9)+6+1)=some (I (az l p).wid):=by
 obtain⟨n,hn1⟩: ∃n,l[p]?=some n:=⟨_,List.getElem?_eq_getElem hp⟩
 obtain⟨ba,oa,ha1,_,_,_,_,_,_,c6,c7,_⟩:=e.at hn1
 have hsa:az l ((p:Nat):Int)=n.sort:=by unfold az;rw [Int.toNat_natCast,hn1]
 refine⟨ba,oa,ha1,by have:=e.len;omega,?_⟩
 rw [hsa];exact⟨c6,c7⟩
theorem lM {h:Hp} {M:MSl} {m:ah} {s:Sl} {ps:List Nat} {R:Value->Hp->Prop} (hs:aM h M m) (hm:bM m) (hp:IntS h s (VL ps)) (hps: ∀p∈ps,p<m.nodes.length) (hpl:ps.length<=1048576)
  (k: ∀out ts h',qc h h' out ts (cy m.nodes ps)->out.n=ps.length->R (Sl.v out) h'):dF #[aN M,s.v] h R:=by
 apply BJ
 refine uf_ ?_
 have hn:=hs.nodes.len
 have hns:=hm.nodes
 have hsn:=hp.len
 rw [aX]at hsn
 refine ai fun b8 h1 hb8 l1 f8=>?_
 refine ar ps.length (fun i vs h'=> ∃(out:Sl) (ts:List Sl),vs= [.pointer (some ⟨b8,0,none⟩),out.v,s.v,I s.n,I i]/\qc h h' out ts (cy m.nodes (ps.take i))/\out.n=i/\(h'.offS out) b8=some (.inl ⟨aG M,5,false⟩))
  ⟨⟨none,0,0⟩, [],rfl,⟨rfl,fun i t ht=>by simp at ht,fun i j t u ht=>by simp at ht,eP _ _,l1⟩,rfl,f8⟩ ?_
 clear l1 f8 hb8 h1
 rintro i _ h1 next hi ⟨out,ts,rfl,hC,hon,f8⟩ hnx
 have lo:=aU h1 out
 have l1:=Hp.le_trans hC.le lo
 have f8':=lo _ _ f8
 refine⟨_,_,out,s,_,_,rfl,?_⟩
 by_cases hlt:i<ps.length
 ·refine aL (by simp;omega) ?_
  obtain⟨p,hpi⟩: ∃p,ps[i]?=some p:=⟨_,List.getElem?_eq_getElem hlt⟩
  have hpm:=hps p (List.mem_of_getElem? hpi)
  obtain⟨b,o,ha,hc⟩:=(hp.mono l1).get (gG hpi)
  refine⟨b,o,ha,by omega,by omega,_,hc,?_⟩
  (refine aC ?_)
  obtain⟨bn,on,han,hpn,c6,c7⟩:=(hs.nodes.mono l1).sortc hpm
  refine⟨bn,on,han,by omega,hpn,_,c6,_,c7,?_⟩
  refine mT ⟨_,rfl,?_⟩
  have hce:cY ⟨(az m.nodes p).idx,(az m.nodes p).wid⟩=aF m.nodes p:=rfl
  rw [hce]
  have hc4:=da m.nodes p
  refine⟨by omega,by omega,by omega,by omega,?_⟩
  refine ai fun b38 h2 hb38 l2 f38=>?_
  refine ai fun b40 h3 hb40 l3 f40=>?_
  have l13:=Hp.le_trans l2 l3
  have l13o:=aZ out l13
  replace f38:=l3 _ _ f38
  rw [Int.toNat_natCast,Nat.mul_one,ct]at f38
  rw [Int.toNat_natCast]at f40
  have hno: ∀a,out.a=some a->a.block≠b38:=by
   intro a ha' e
   rcases hC.buf.2.2 with ⟨h0,_⟩|⟨c,hc',hcb⟩
   ·rw [h0]at ha';cases ha'
   ·rw [hc']at ha';cases ha'
    subst e
    rw [hb38]at hcb;cases hcb
  have f38o:(h3.offS out) b38=some (.inl ⟨List.replicate (aF m.nodes p) (I 0),aF m.nodes p,false⟩):=by rw [xj hno];exact f38
  refine dr (hC.buf.mono l13) (by omega) (by omega) (by omega) ⟨b40,0,rfl,au f40⟩ (by simp) rfl ?_
  intro s' h4 hs'n hbuf' l4 _
  have l14:=Hp.le_trans l13o l4
  rw [aw (by omega)]
  have hvs:cy m.nodes (ps.take (i+1))=cy m.nodes (ps.take i)++ [List.replicate (aF m.nodes p) 0]:=by
   unfold cy
   rw [List.take_succ_eq_append_getElem hlt,List.map_append]
   rw [List.getElem?_eq_getElem hlt]at hpi
   rw [Option.some.inj hpi];rfl
  have hlen:=hC.len
  have hzl:(cy m.nodes (ps.take i)).length=i:=by unfold cy;simp;omega
  have b38h:h b38=none:=aE l1 hb38
  refine hnx hlt _ _ ⟨s',ts++ [⟨some ⟨b38,0,none⟩,aF m.nodes p,aF m.nodes p⟩],rfl,⟨?_,fun j t ht=>?_,fun j j' t u ht hu hau=>?_,by rw [List.map_append];exact hbuf',Hp.le_trans hC.le l14⟩,by omega,l14 _ _ f8⟩
  ·rw [hvs,List.length_append,List.length_append,hlen];rfl
  ·by_cases hj:j<i
   ·rw [List.getElem?_append_left (by omega)]at ht
    obtain⟨b',e1,e2,e3⟩:=hC.row j t ht
    rw [hvs,iU (by omega)]
    exact⟨b',e1,e2,l14 _ _ e3⟩
   ·have hju:=get_lt ht
    simp at hju
    have hje:j=i:=by omega
    subst hje
    rw [List.getElem?_append_right (by omega),show j-ts.length=0 by omega]at ht
    simp at ht;subst ht
    rw [hvs,List.getD_eq_getElem?_getD,List.getElem?_append_right (by omega),hzl,Nat.sub_self]
    refine⟨b38,by simp,b38h,?_⟩
    have:=l4 _ _ f38o
    simpa [VL] using this
  ·have hb: ∀(q:Nat) (z:Sl),ts[q]?=some z->z.a≠some ⟨b38,0,none⟩:=by
    intro q z hz he
    obtain⟨b',e1,e2,e3⟩:=hC.row q z hz
    rw [e1]at he
    have hbb:b'=b38:=by simpa using he
    subst hbb
    have:=lo _ _ e3
    rw [hb38]at this;cases this
   by_cases hj:j<i
   ·rw [List.getElem?_append_left (by omega)]at ht
    by_cases hj':j'<i
    ·rw [List.getElem?_append_left (by omega)]at hu
     exact hC.dis j j' t u ht hu hau
    ·have hju:=get_lt hu
     simp at hju
     rw [List.getElem?_append_right (by omega),show j'-ts.length=0 by omega]at hu
     simp at hu;subst hu
     exact absurd hau (hb j t ht)
   ·have hjt:=get_lt ht
    simp at hjt
    by_cases hj':j'<i
    ·rw [List.getElem?_append_left (by omega)]at hu
     rw [List.getElem?_append_right (by omega),show j-ts.length=0 by omega]at ht
     simp at ht;subst ht
     exact absurd hau.symm (hb j' u hu)
    ·have hju:=get_lt hu
     simp at hju
     omega
 ·have hie:i=ps.length:=by omega
  subst hie
  rw [List.take_of_length_le (Nat.le_refl _)]at hC
  exact aA (by simp;omega) (k out ts h1 hC hon)
structure cE (m:ah):Prop where
 nl:m.nodes.length<=60
 il:m.inits.length<=60
 xl:m.nexts.length<=60
 bl:m.bads.length<=4
 hl:m.holds.length<=4
 ok:cv m.nodes=true
 twice:vO m=false
 ini: ∀b∈m.inits,jv m.nodes b=true
 nex: ∀b∈m.nexts,fZ m.nodes b=true
 bad: ∀p∈m.bads,dn m.nodes p=true
 hol: ∀p∈m.holds,dn m.nodes p=true
 n8:am m.nodes 36<=8
 k5:am m.nodes 35<=5
theorem kR {c:Prop} [Decidable c] {x y:Int} (hx:x≠0) (h:(if c then x else y)=0): ¬c/\y=0:=by
 split at h
 ·exact absurd h hx
 ·rename_i hc;exact⟨hc,h⟩
theorem cA {m:ah} (h:aD m=0):cE m:=by
 unfold aD at h
 obtain⟨h1,h⟩:=kR (by decide) h
 obtain⟨h2,h⟩:=kR (by decide) h
 obtain⟨h3,h⟩:=kR (by decide) h
 obtain⟨h4,h⟩:=kR (by decide) h
 obtain⟨h5,h⟩:=kR (by decide) h
 obtain⟨h6,h⟩:=kR (by decide) h
 simp only [Bool.not_eq_false,Bool.and_eq_true,List.all_eq_true,Bool.not_eq_true]at h2 h3 h4 h5
 exact⟨by omega,by omega,by omega,by omega,by omega,h2,h3,h4.1,h4.2,h5.1,h5.2,by omega,by omega⟩
theorem cE.small {m:ah} (g:cE m): ∀n∈m.nodes,n.name.size<=8:=by
 intro n hn
 obtain⟨i,hi,e⟩:=List.getElem_of_mem hn
 have hf:=fg g.ok (i:=i) (n:=n) (by rw [List.getElem?_eq_getElem hi,e])
 unfold fO at hf
 simp only [Bool.and_eq_true]at hf
 have hf':=hf.1.1.2
 split at hf'
 ·unfold gF at hf'
  simp only [Bool.and_eq_true,decide_eq_true_eq]at hf';omega
 ·simp only [decide_eq_true_eq]at hf';omega
theorem rh {l:List NodeP} (hok:cv l=true) {p:Nat} (hp:p<l.length):bO (az l p)=true:=by
 have hn:l[p]?=some l[p]:=List.getElem?_eq_getElem hp
 have:az l ((p:Nat):Int)=l[p].sort:=by unfold az;rw [Int.toNat_natCast,hn]
 rw [this];exact(wM hok hn).sort
theorem oM {l:List NodeP} (hok:cv l=true) {p:Nat} (hp:p<l.length) {v:List Nat} (h:Fit (az l p) v):v.length=aF l p/\ ∀x∈v,x<2^bG l p:=by
 refine⟨?_,h.lt⟩
 unfold aF cY
 rw [if_pos (rh hok hp),h.len]
theorem lR {l:List NodeP} {kind:Int} {p:Nat} (h:p∈ay l kind):p<l.length:=by
 obtain⟨n,hn,_⟩:=Jz h
 exact get_lt hn
def u9 (m:ah) (s i:List (List Nat)):List (List Nat):=gk m.nodes s i m.nodes.length
abbrev stP (m:ah):List Nat:=ay m.nodes 36
abbrev inP (m:ah):List Nat:=ay m.nodes 35
def bR (m:ah) (s i:Nat):List (List Nat):=u9 m (dR m.nodes (stP m) s) (dR m.nodes (inP m) i)
theorem eV {l:List NodeP} {p:Int}:dh l p=true↔0<=p/\p<l.length:=by
 unfold dh;rw [decide_eq_true_eq];omega
theorem z6 {m:ah} (g:cE m) (s i:Nat):zg m.nodes m.nodes.length (bR m s i):=
 Ad g.ok (GY g.ok 36 s) (GY g.ok 35 i) _ (Nat.le_refl _)
theorem Mo (m:ah) (s i:List (List Nat)):(u9 m s i).length=m.nodes.length:=dN _ _ _ _
theorem ed {m:ah} (g:cE m):cG m.nodes (stP m)=am m.nodes 36:=Fs _ g.ok 36
theorem uX {m:ah} (g:cE m):cG m.nodes (inP m)=am m.nodes 35:=Fs _ g.ok 35
theorem qc.blk {h0 h:Hp} {out:Sl} {ts:List Sl} {vs:List (List Nat)} (e:qc h0 h out ts vs) {i:Nat} (hi:i<vs.length):
  ∃b,ts[i]?=some ⟨some ⟨b,0,none⟩,(vs.getD i []).length,(vs.getD i []).length⟩/\h0 b=none/\(h.offS out) b=some (.inl ⟨(VL (vs.getD i [])).map I,(vs.getD i []).length,false⟩):=by
 have hl:=e.len
 obtain⟨b,h1,h2,h3⟩:=e.row i _ (List.getElem?_eq_getElem (show i<ts.length by omega))
 exact⟨b,by rw [List.getElem?_eq_getElem (show i<ts.length by omega),h1],h2,h3⟩
theorem qc.wr {h0 h:Hp} {out:Sl} {ts:List Sl} {vs:List (List Nat)} {b n c i k x:Nat} {P:Hp->Prop} (e:qc h0 h out ts vs) (ht:ts[i]?=some ⟨some ⟨b,0,none⟩,n,c⟩) (hi:i<vs.length) (hk:k<(vs.getD i []).length)
  (kk: ∀h',qc h0 h' out ts (vs.set i ((vs.getD i []).set k x))->P h'):
  ∃(cs:List Value) (z:Nat),h b=some (.inl ⟨cs,z,false⟩)/\(0+Int.toNat (k:Int)*1)+1<=List.length cs/\cJ (h.row b (ce cs (0+Int.toNat (k:Int)*1) [I x]) z) P:=by
 obtain⟨b',h1,h2,h3⟩:=e.blk hi
 rw [ht]at h1
 simp only [Option.some.injEq,Sl.mk.injEq,Addr.mk.injEq,and_true,true_and]at h1
 obtain⟨rfl,rfl,rfl⟩:=h1
 refine⟨_,_,aU _ _ _ _ h3,?_,?_⟩
 ·rw [List.length_map,aX,Int.toNat_natCast];omega
 rw [S3]
 refine kk _ ⟨by rw [List.length_set];exact e.len,fun j t hj=>?_,e.dis,e.buf.row _ _ h3,?_⟩
 ·obtain⟨bj,g1,g2,g3⟩:=e.row j t hj
  by_cases hji:j=i
  ·subst hji
   rw [ht]at hj
   obtain rfl:=(Option.some.inj hj).symm
   simp only [Sl.mk.injEq,Option.some.injEq,Addr.mk.injEq,and_true,true_and]at g1
   obtain⟨rfl,_⟩:=g1
   have hv:(vs.set j ((vs.getD j []).set k x)).getD j []=(vs.getD j []).set k x:=by
    rw [List.getD_eq_getElem?_getD,List.getElem?_set_self (by omega)];rfl
   rw [hv,List.length_set]
   refine⟨b,rfl,g2,?_⟩
   rw [rv _ _ h3,bJ]
   simp [VL,List.map_set,bD]
  ·have hv:(vs.set i ((vs.getD i []).set k x)).getD j []=vs.getD j []:=by
    rw [List.getD_eq_getElem?_getD,List.getElem?_set_ne (Ne.symm hji),<-List.getD_eq_getElem?_getD]
   rw [hv]
   refine⟨bj,g1,g2,?_⟩
   rw [rv _ _ h3,bX]
   ·exact g3
   ·rintro rfl
    refine hji (e.dis j i t _ hj ht ?_)
    rw [g1]
 ·rw [rv _ _ h3]
  exact dP _ _ h2 e.le
def qo (l:List NodeP) (ps:List Nat) (code i:Nat):List (List Nat):=(dR l ps code).take i++(cy l ps).drop i
def nY (l:List NodeP) (p code k:Nat):List Nat:=mD (bG l p) k code++List.replicate (aF l p-k) 0
theorem Qo (l:List NodeP) (ps:List Nat) (code i:Nat) (hi:i<=ps.length):(qo l ps code i).length=ps.length:=by
 unfold qo;rw [List.length_append,List.length_take,List.length_drop,jr,cy,List.length_map];omega
theorem Dt {l:List NodeP} {ps:List Nat} {code i p:Nat} (h:ps[i]?=some p):(qo l ps code i).getD i []=nY l p (code/2^cG l (ps.take i)) 0:=by
 have hlt:=get_lt h
 unfold qo nY
 rw [List.getD_eq_getElem?_getD,List.getElem?_append_right (by rw [List.length_take,jr];omega),List.length_take,jr,Nat.min_eq_left (by omega),Nat.sub_self,List.getElem?_drop,Nat.add_zero,cy,List.getElem?_map,h]
 rfl
theorem P5 {l:List NodeP} {ps:List Nat} {code i p:Nat} (h:ps[i]?=some p):(qo l ps code i).set i (nY l p (code/2^cG l (ps.take i)) (aF l p))=qo l ps code (i+1):=by
 have hlt:=get_lt h
 have hu:(dR l ps code)[i]?=some (mD (bG l p) (aF l p) (code/2^cG l (ps.take i))):=by
  have:=DH (l:=l) (code:=code) h
  rw [List.getD_eq_getElem?_getD,List.getElem?_eq_getElem (by rw [jr];exact hlt)]at this
  rw [List.getElem?_eq_getElem (by rw [jr];exact hlt)]
  exact congrArg some this
 unfold qo nY
 rw [Nat.sub_self,List.replicate_zero,List.append_nil,List.set_append_right _ _ (by rw [List.length_take,jr];omega),List.length_take,jr,Nat.min_eq_left (by omega),Nat.sub_self]
 have hd:(cy l ps).drop i=List.replicate (aF l p) 0::(cy l ps).drop (i+1):=by
  rw [<-List.getElem_cons_drop (show i<(cy l ps).length by rw [cy,List.length_map];exact hlt)]
  congr 1
  unfold cy
  rw [List.getElem_map]
  rw [List.getElem?_eq_getElem hlt]at h
  rw [Option.some.inj h]
 rw [hd,List.set_cons_zero,List.take_add_one,hu]
 simp
theorem Ij {l:List NodeP} {p code k:Nat} (hk:k<aF l p):(nY l p code k).set k (code/2^(bG l p*k)%2^bG l p)=nY l p code (k+1):=by
 unfold nY
 rw [List.set_append_right _ _ (by rw [qY];omega),qY,Nat.sub_self]
 obtain⟨d,hd⟩: ∃d,aF l p-k=d+1:=⟨aF l p-k-1,by omega⟩
 rw [hd,List.replicate_succ,List.set_cons_zero,show aF l p-(k+1)=d by omega,mD,List.append_assoc];rfl
theorem wT {l:List NodeP} {p code k:Nat} (hk:k<=aF l p):(nY l p code k).length=aF l p:=by
 unfold nY;rw [List.length_append,qY,List.length_replicate];omega
theorem gR.widc {h:Hp} {s:Sl} {l:List NodeP} (e:gR h s l) {p:Nat} (hp:p<l.length) (hok:cv l=true):
  ∃b o,s.a=some (Addr.mk b o none)/\(p:Int)<(s.n:Int)/\Hp.cell h b (((o+Int.toNat (p:Int)*9)+6)+1)=some (I (bG l p))/\1<=bG l p/\bG l p<=16:=by
 obtain⟨b,o,h1,h2,h3,h4⟩:=e.sortc hp
 have:=bZ.1 (rh hok hp)
 have hw:(az l p).wid=((bG l p:Nat):Int):=by unfold bG;omega
 exact⟨b,o,h1,h2,by rw [<-hw];exact h4,by unfold bG;omega,by unfold bG;omega⟩
theorem QD {l:List NodeP} {ps:List Nat} {code:Nat} {v:List Nat} (h:v∈dR l ps code):v.length<=4:=by
 unfold dR at h
 obtain⟨i,_,rfl⟩:=List.mem_map.1 h
 rw [qY];exact da _ _
theorem eN (l:List NodeP) (ps:List Nat):(cy l ps).length=ps.length:=by simp [cy]
theorem uU {h:Hp} {M:MSl} {m:ah} {s:Sl} {ps:List Nat} {code:Nat} {R:Value->Hp->Prop} (hs:aM h M m) (hm:bM m) (hok:cv m.nodes=true) (hp:IntS h s (VL ps)) (hps: ∀p∈ps,p<m.nodes.length) (hpl:ps.length<=1048576)
  (hcode:code<=1048576) (k: ∀out h',h.le h'->IntSS h' out ((dR m.nodes ps code).map VL)->out.n<=out.c->R (Sl.v out) h'):dm #[aN M,s.v,I code] h R:=by
 apply yl
 refine uf_ ?_
 have hn:=hs.nodes.len
 have hns:=hm.nodes
 have hsn:=hp.len
 rw [aX]at hsn
 refine ai fun b9 h1 hb9 l1 f9=>?_
 repeat' (refine aC ?_)
 refine lM (hs.mono l1) hm (hp.mono l1) hps hpl fun out ts h2 hC hon=>⟨out,rfl,?_⟩
 refine ar ps.length (fun i vs h'=>vs= [I (code/2^cG m.nodes (ps.take i):Nat), .pointer (some ⟨b9,0,none⟩),out.v,s.v,I s.n,I i]/\qc h1 h' out ts (qo m.nodes ps code i)) ⟨?_,?_⟩ ?_
 ·simp [cG]
 ·have:qo m.nodes ps code 0=cy m.nodes ps:=by simp [qo]
  rw [this];exact hC
 clear hC h2
 rintro i _ h2 next hi ⟨rfl,hC⟩ hnx
 have hle:=Hp.le_trans hC.le (aU _ _)
 have f9':=hle _ _ f9
 refine⟨_,_,_,out,s,_,_,rfl,?_⟩
 by_cases hlt:i<ps.length
 rotate_left
 ·have hie:i=ps.length:=by omega
  subst hie
  refine aA (by simp;omega) (k out h2 (Hp.le_trans l1 hle) ?_ hC.buf.2.1)
  have:qo m.nodes ps code ps.length=dR m.nodes ps code:=by
   unfold qo
   rw [List.take_of_length_le (by rw [jr];omega),List.drop_of_length_le (by rw [eN];omega),List.append_nil]
  rw [this]at hC
  refine hC.ints (fun v hv=>?_) (by omega)
  have:=QD hv;omega
 refine aL (by simp;omega) ?_
 obtain⟨p,hpi⟩: ∃p,ps[i]?=some p:=⟨_,List.getElem?_eq_getElem hlt⟩
 have hpm:=hps p (List.mem_of_getElem? hpi)
 obtain⟨b,o,ha,hc⟩:=((hp.mono l1).mono hle).get (gG hpi)
 refine⟨b,o,ha,by omega,by omega,_,hc,?_⟩
 (refine aC ?_)
 obtain⟨bn,on,han,hpn,c7,w1,w16⟩:=((hs.mono l1).mono hle).nodes.widc hpm hok
 refine⟨bn,on,han,by omega,hpn,_,c7,?_⟩
 have hol:=Qo m.nodes ps code i (by omega)
 obtain⟨bi,hti,hbi,hri⟩:=hC.blk (i:=i) (by omega)
 rw [Dt hpi,wT (Nat.zero_le _)]at hti
 obtain⟨bo,hoa,hob⟩: ∃bo,out.a=some ⟨bo,0,none⟩/\h2 bo=some (.inl ⟨ts.map Sl.v,out.c*1,false⟩):=by
  rcases hC.buf.2.2 with ⟨_,h0,_⟩|h0
  ·omega
  ·exact h0
 have hcell:Hp.cell h2 bo (0+Int.toNat (i:Int)*1)=some (Sl.v ⟨some ⟨bi,0,none⟩,aF m.nodes p,aF m.nodes p⟩):=by
  rw [av hob,Nat.zero_add,Int.toNat_natCast,Nat.mul_one,List.getElem?_map,hti];rfl
 refine⟨bo,0,hoa,by omega,by omega,_,hcell,?_⟩
 have hcl:=da m.nodes p
 generalize hci:code/2^cG m.nodes (ps.take i)=ci
 have hcile:ci<=code:=by rw [<-hci];exact Nat.div_le_self _ _
 refine ar (aF m.nodes p) (fun k vs h'=>vs= [I (ci/2^(bG m.nodes p*k):Nat), .pointer (some ⟨b9,0,none⟩),out.v,I i,I (bG m.nodes p),s.v,I s.n,I i,I (aF m.nodes p:Nat),I k]/\
  qc h1 h' out ts ((qo m.nodes ps code i).set i (nY m.nodes p ci k))) ⟨by simp,?_⟩ ?_
 ·rw [<-hci,<-Dt hpi]
  have:(qo m.nodes ps code i).set i ((qo m.nodes ps code i).getD i [])=qo m.nodes ps code i:=by
   rw [List.getD_eq_getElem?_getD,List.getElem?_eq_getElem (by omega)];simp
  rw [this];exact hC
 clear hC hle f9' hri hob hcell ha hc han hpn c7 h2
 rintro q _ h2 next2 hq ⟨rfl,hC⟩ hnx2
 have hle:=Hp.le_trans hC.le (aU _ _)
 have f9':=hle _ _ f9
 have hdiv:ci/2^(bG m.nodes p*q)<=ci:=Nat.div_le_self _ _
 refine⟨_,_,_,out,_,_,s,_,_,_,_,rfl,?_⟩
 have hgs:((qo m.nodes ps code i).set i (nY m.nodes p ci q)).getD i []=nY m.nodes p ci q:=by
  rw [List.getD_eq_getElem?_getD,List.getElem?_set_self (by omega)];rfl
 by_cases hlq:q<aF m.nodes p
 rotate_left
 ·have hqe:q=aF m.nodes p:=by omega
  subst hqe
  refine aA (by simp) ?_
  rw [aw (by omega)]
  refine hnx hlt _ _ ⟨?_,?_⟩
  ·rw [mA hpi,Nat.pow_add,<-Nat.div_div_eq_div_mul,hci]
  ·rw [<-hci]at hC
   rw [<-P5 hpi];exact hC
 refine aL (by simp;omega) ?_
 obtain⟨bo',hoa',hob'⟩: ∃bo,out.a=some ⟨bo,0,none⟩/\h2 bo=some (.inl ⟨ts.map Sl.v,out.c*1,false⟩):=by
  rcases hC.buf.2.2 with ⟨_,h0,_⟩|h0
  ·omega
  ·exact h0
 have hcell':Hp.cell h2 bo' (0+Int.toNat (i:Int)*1)=some (Sl.v ⟨some ⟨bi,0,none⟩,aF m.nodes p,aF m.nodes p⟩):=by
  rw [av hob',Nat.zero_add,Int.toNat_natCast,Nat.mul_one,List.getElem?_map,hti];rfl
 refine⟨bo',0,hoa',by omega,by omega,_,hcell',?_⟩
 refine dC (by omega) ⟨_,rfl,rfl,bi,0,rfl,by omega,by dsimp only;omega,?_⟩
 rw [gU (by omega),oJ,js (by omega),Nat.div_div_eq_div_mul,<-Nat.pow_add]
 refine hC.wr hti (by rw [List.length_set];omega) (by rw [hgs,wT (by omega)];exact hlq) fun h3 hC'=>?_
 rw [if_neg (by omega),aw (by omega)]
 refine hnx2 hlq _ _ ⟨by rw [Nat.mul_add,Nat.mul_one],?_⟩
 rw [hgs,List.set_set,Ij hlq]at hC'
 exact hC'
theorem gR.sortc2 {h:Hp} {s:Sl} {l:List NodeP} (e:gR h s l) {p:Nat} (hp:p<l.length) (hok:cv l=true):
  ∃b o,s.a=some (Addr.mk b o none)/\(p:Int)<(s.n:Int)/\Hp.cell h b ((o+Int.toNat (p:Int)*9)+6)=some (I (az l p).idx)/\Hp.cell h b (((o+Int.toNat (p:Int)*9)+6)+1)=some (I (bG l p))/\1<=bG l p/\bG l p<=16:=by
 obtain⟨b,o,h1,h2,h3,h4⟩:=e.sortc hp
 have:=bZ.1 (rh hok hp)
 have hw:(az l p).wid=((bG l p:Nat):Int):=by unfold bG;omega
 exact⟨b,o,h1,h2,h3,by rw [<-hw];exact h4,by unfold bG;omega,by unfold bG;omega⟩
theorem nr {l:List NodeP} {p:Nat} (hok:cv l=true) (hp:p<l.length):cY ⟨(az l p).idx,(bG l p:Nat)⟩=aF l p:=by
 have:=bZ.1 (rh hok hp)
 have hw:((bG l p:Nat):Int)=(az l p).wid:=by unfold bG;omega
 rw [hw];rfl
theorem ZU (w k ci:Nat):(VL (mD w k ci)).map I++ [I ((ci/2^(w*k)%2^w:Nat):Int)]=(VL (mD w (k+1) ci)).map I:=by
 rw [mD,wu,List.map_append];rfl
theorem eZ {h:Hp} {M:MSl} {m:ah} {s:Sl} {ps:List Nat} {code:Nat} {R:Value->Hp->Prop} (hs:aM h M m) (hm:bM m) (hok:cv m.nodes=true) (hp:IntS h s (VL ps)) (hps: ∀p∈ps,p<m.nodes.length) (hpl:ps.length<=1048576)
  (hcode:code<=1048576) (hsum:cG m.nodes ps<=60) (k: ∀out h',h.le h'->IntSS h' out ((dR m.nodes ps code).map VL)->R (Sl.v out) h'):bC #[aN M,s.v,I code] h R:=by
 apply Gc
 refine uf_ ?_
 have hn:=hs.nodes.len
 have hns:=hm.nodes
 have hsn:=hp.len
 rw [aX]at hsn
 refine ai fun b9 h1 hb9 l1 f9=>?_
 refine ar ps.length (fun i vs h'=> ∃(ts:List Sl) (out:Sl),vs= [s.v,I code, .pointer (some ⟨b9,0,none⟩),out.v,I (cG m.nodes (ps.take i):Nat),I i]/\
  h.le (h'.offS out)/\(h'.offS out) b9=some (.inl ⟨aG M,5,false⟩)/\out.n=i/\ts.length=i/\Buf h' out 1 (ts.map Sl.v)/\
  (∀(j:Nat) (t:Sl),ts[j]?=some t->IntS (h'.offS out) t (VL ((dR m.nodes ps code).getD j []))))
  ⟨[],⟨none,0,0⟩,by simp [cG],l1,f9,rfl,rfl,eP _ _,fun j t ht=>by simp at ht⟩ ?_
 clear f9 l1 hb9 h1
 rintro i _ h3 next hi ⟨ts,out,rfl,l3,f9,hon,htl,hbuf,hts⟩ hnx
 have lo:=aU h3 out
 have f9':=lo _ _ f9
 have l3':=Hp.le_trans l3 lo
 have hsi:=GT m.nodes ps i
 refine⟨s,_,_,_,out,_,_,rfl,?_⟩
 by_cases hlt:i<ps.length
 rotate_left
 ·have hie:i=ps.length:=by omega
  subst hie
  refine aA (by simp;omega) (k out h3 l3' ⟨ts,by simp [jr];omega,hbuf.slc_of (by omega),fun j h1 h2=>?_⟩)
  have:=(hts j _ (List.getElem?_eq_getElem h1)).mono lo
  have hju:j<(dR m.nodes ps code).length:=by rw [jr];omega
  rw [List.getElem_map]
  rwa [List.getD_eq_getElem?_getD,List.getElem?_eq_getElem hju]at this
 refine aL (by simp;omega) ?_
 obtain⟨p,hpi⟩: ∃p,ps[i]?=some p:=⟨_,List.getElem?_eq_getElem hlt⟩
 have hpm:=hps p (List.mem_of_getElem? hpi)
 obtain⟨b,o,ha,hc⟩:=(hp.mono l3').get (gG hpi)
 refine⟨b,o,ha,by omega,by omega,?_⟩
 (refine aC ?_)
 refine⟨_,hc,?_⟩
 obtain⟨bn,on,han,hpn,c6,c7,w1,w16⟩:=(hs.mono l3').nodes.sortc2 hpm hok
 refine⟨bn,on,han,by omega,hpn,_,c6,_,c7,?_⟩
 have xb:=fI hc
 have xbn:=fI c6
 have xb9:=bV f9'
 refine ai fun b37 h4 hb37 l4 f37=>?_
 repeat' (((with_reducible apply lO);(assumption);(assumption)))
 (with_reducible apply co);(exact f37);(exact l4);(exact hb37);(exact Nat.le_refl 2)
 intro h5 f37b kp l5
 clear f37 kp l4 h4
 refine ai fun b43 h6 hb43 l6 f43=>?_
 have n37:=fresh_ne hb43 f37b
 have hb43':=aE l5 hb43
 (with_reducible apply co);(exact f43);(exact Hp.le_trans l5 l6);(exact hb43');(exact Nat.le_refl 1)
 intro h7 f43b kp l7
 have f37c:h7 b37=some (.inl ⟨[I (az m.nodes p).idx,I (bG m.nodes p)],2,false⟩):=cB kp n37 (l6 _ _ f37b)
 have f43c:h7 b43=some (.inl ⟨[(⟨none,0,0⟩:Sl).v],1,false⟩):=f43b
 clear f43 f43b f37b kp l6 l5
 have hcl:=da m.nodes p
 have hcm:=nr hok hpm
 have hstep:=mA (l:=m.nodes) hpi
 have hsi1:=GT m.nodes ps (i+1)
 obtain⟨ci,hci⟩: ∃ci,ci=code/2^cG m.nodes (ps.take i):=⟨_,rfl⟩
 refine ar (aF m.nodes p) (fun q vs h'=> ∃sl:Sl,vs= [s.v,I code, .pointer (some ⟨b9,0,none⟩),out.v,I (cG m.nodes (ps.take i)+bG m.nodes p*q:Nat),I i, .pointer (some ⟨b37,0,none⟩), .pointer (some ⟨b43,0,none⟩),I q]/\
  h3.le (h'.offS sl)/\(h'.offS sl) b37=some (.inl ⟨[I (az m.nodes p).idx,I (bG m.nodes p)],2,false⟩)/\(h'.offS sl) b43=some (.inl ⟨[sl.v],1,false⟩)/\sl.n=q/\Buf h' sl 1 ((VL (mD (bG m.nodes p) q ci)).map I))
  ⟨⟨none,0,0⟩,by simp,l7,f37c,f43c,rfl,eP _ _⟩ ?_
 clear f37c f43c l7 h7
 rintro q _ h7 next2 hq ⟨sl,rfl,l7,f37,f43,hsl,hbufl⟩ hnx2
 have los:=aU h7 sl
 have f37':=los _ _ f37
 have f43':=los _ _ f43
 refine⟨s,_,_,_,out,_,_,_,_,_,_,_,rfl,?_⟩
 repeat' (refine aC ?_)
 refine fU ⟨_,rfl,?_⟩
 rw [hcm]
 by_cases hlq:q<aF m.nodes p
 rotate_left
 ·have hqe:q=aF m.nodes p:=by omega
  subst hqe
  refine aA (by simp) ?_
  (refine aC ?_)
  refine ai fun b103 h8 hb103 l8 f103=>?_
  have l38:=Hp.le_trans l7 (Hp.le_trans los l8)
  have l38o:=aZ out l38
  refine dr (hbuf.mono l38) (by omega) (by omega) (by omega) ⟨b103,0,rfl,au f103⟩ (by simp) rfl ?_
  intro s' h10 hs'n hbuf' l10 _
  rw [aw (by omega)]
  have l310:=Hp.le_trans l38o l10
  have hbuf'':Buf h10 s' 1 ((ts++ [sl]).map Sl.v):=by rw [List.map_append];exact hbuf'
  have hval:IntS h8 sl (VL (mD (bG m.nodes p) (aF m.nodes p) ci)):=SlC.mono l8 (hbufl.slc_of (by omega))
  rw [<-hstep]
  refine hnx hlt _ _ ⟨ts++ [sl],s',rfl,Hp.le_trans l3 l310,l310 _ _ f9,by omega,by simp;omega,hbuf'',fun j u hu=>?_⟩
  by_cases hj:j<i
  ·rw [List.getElem?_append_left (by omega)]at hu
   exact(hts j u hu).mono l310
  ·have hju:=get_lt hu
   simp at hju
   have hje:j=i:=by omega
   subst hje
   rw [List.getElem?_append_right (by omega),htl,Nat.sub_self]at hu
   simp at hu;subst hu
   rw [DH hpi,<-hci]
   exact(hval.offL (hbuf.mono l38)).mono l10
 refine aL (by simp;omega) ?_
 have hmul:bG m.nodes p*q<=bG m.nodes p*aF m.nodes p:=Nat.mul_le_mul_left _ hq
 have hmul2:bG m.nodes p*(q+1)<=bG m.nodes p*aF m.nodes p:=Nat.mul_le_mul_left _ hlq
 have hp16:=Bn w16
 have hpp:=bL (bG m.nodes p)
 refine aq (fun J=> ∀(sl':Sl) (h':Hp),h3.le (h'.offS sl')->(h'.offS sl') b37=some (.inl ⟨[I (az m.nodes p).idx,I (bG m.nodes p)],2,false⟩)->(h'.offS sl') b43=some (.inl ⟨[sl'.v],1,false⟩)->sl'.n=q+1->
   Buf h' sl' 1 ((VL (mD (bG m.nodes p) (q+1) ci)).map I)->J (cG m.nodes (ps.take i)+bG m.nodes p*(q+1):Nat) h') ?_ (fun J hJ=>?_)
 ·intro sl' h' g1 g2 g3 g4 g5
  rw [aw (by omega)]
  exact hnx2 hlq _ _ ⟨sl',rfl,g1,g2,g3,g4,g5⟩
 have xb60:=bV f37'
 have xb62:=bV f43'
 rw [cR (n:=cG m.nodes (ps.take i)+bG m.nodes p*q) (by omega)]
 repeat' (refine aC ?_)
 rw [cR (n:=bG m.nodes p) (by omega)]
 rw [js (by omega),ck (by omega),eh]
 have hval:code/2^(cG m.nodes (ps.take i)+bG m.nodes p*q)=ci/2^(bG m.nodes p*q):=by
  rw [hci,Nat.div_div_eq_div_mul,<-Nat.pow_add]
 rw [hval]
 have app: ∀(K:Option Addr->Nat->Nat->Hp->Prop) (h8:Hp) (b75:Nat),h7.le h8->h8 b75=some (.inl ⟨[I ((ci/2^(bG m.nodes p*q)%2^bG m.nodes p:Nat):Int)],1,false⟩)->
   (∀(s':Sl) (h9:Hp),s'.n=q+1->h3.le (h9.offS s')->(h9.offS s') b37=some (.inl ⟨[I (az m.nodes p).idx,I (bG m.nodes p)],2,false⟩)->(h9.offS s') b43=some (.inl ⟨[sl.v],1,false⟩)->Buf h9 s' 1 ((VL (mD (bG m.nodes p) (q+1) ci)).map I)->K s'.a s'.n s'.c h9)->
   cm h8 sl.a sl.n sl.c (some ⟨b75,0,none⟩) 1 1 8 K:=by
  intro K h8 b75 l8 f75 hK
  have l78:=aZ sl l8
  refine dr (hbufl.mono l8) (by omega) (by omega) (by omega) ⟨b75,0,rfl,au f75⟩ (by simp) rfl ?_
  intro s' h9 hs'n hbuf' l9 _
  have l79:=Hp.le_trans l78 l9
  refine hK s' h9 (by omega) (Hp.le_trans l7 l79) (l79 _ _ f37) (l79 _ _ f43) ?_
  rw [<-ZU];exact hbuf'
 have fin: ∀(s':Sl) (h9:Hp),s'.n=q+1->h3.le (h9.offS s')->(h9.offS s') b37=some (.inl ⟨[I (az m.nodes p).idx,I (bG m.nodes p)],2,false⟩)->(h9.offS s') b43=some (.inl ⟨[sl.v],1,false⟩)->Buf h9 s' 1 ((VL (mD (bG m.nodes p) (q+1) ci)).map I)->
   ∃(cs:List Value) (z:Nat),h9 b43=some (.inl ⟨cs,z,false⟩)/\0+1<=List.length cs/\cJ (h9.row b43 (ce cs 0 [.slice s'.a s'.n s'.c]) z) fun h83=> ∃(x85:Int),Hp.cell h83 b37 (0+1)=some (I x85)/\(J (W (((cG m.nodes (ps.take i)+bG m.nodes p*q:Nat):Int)+x85)) h83):=by
  intro s' h9 g1 g2 g3 g4 g5
  (with_reducible apply vG);(exact g4);(exact g2);(exact hb43');(exact Nat.le_refl 1)
  intro h10 e43 kp l10 hbk
  have e37:(h10.offS s') b37=some (.inl ⟨[I (az m.nodes p).idx,I (bG m.nodes p)],2,false⟩):=by rw [kp _ n37];exact g3
  refine⟨_,by rw [av (aU _ _ _ _ e37)];rfl,?_⟩
  have:W (((cG m.nodes (ps.take i)+bG m.nodes p*q:Nat):Int)+((bG m.nodes p:Nat):Int))=((cG m.nodes (ps.take i)+bG m.nodes p*(q+1):Nat):Int):=by
   rw [bQ (by omega) (by omega),Nat.mul_add,Nat.mul_one];omega
  rw [this]
  exact hJ s' h10 l10 e37 e43 g1 (hbk _ _ g5)
 constructor
 ·repeat' (refine aC ?_)
  rw [if_neg (by omega)]
  repeat' (refine aC ?_)
  rw [if_neg (by omega),if_neg (by omega)]
  refine ai fun b75 h8 hb75 l8 f75=>?_
  (((with_reducible apply lO);(assumption);(assumption)))
  exact app _ h8 b75 l8 f75 fun s' h9 g1 g2 g3 g4 g5=>fin s' h9 g1 g2 g3 g4 g5
 ·repeat' (refine aC ?_)
  rw [if_neg (by omega)]
  repeat' (refine aC ?_)
  rw [if_neg (by omega),if_neg (by omega)]
  refine ai fun b75 h8 hb75 l8 f75=>?_
  (((with_reducible apply lO);(assumption);(assumption)))
  exact app _ h8 b75 l8 f75 fun s' h9 g1 g2 g3 g4 g5=>fin s' h9 g1 g2 g3 g4 g5
theorem IntSS.getV {h:Hp} {s:Sl} {vs:List (List Nat)} (e:IntSS h s (vs.map VL)) {i:Nat} (hi:i<vs.length):
  ∃b o t,s.a=some (Addr.mk b o none)/\Hp.cell h b (o+i*1)=some (Sl.v t)/\IntS h t (VL (vs.getD i [])):=by
 obtain⟨b,o,t,h1,h2,h3⟩:=e.at (i:=i) (by rw [List.length_map];exact hi)
 refine⟨b,o,t,h1,by rw [Nat.mul_one];exact h2,?_⟩
 rw [List.getElem_map]at h3
 rwa [List.getD_eq_getElem?_getD,List.getElem?_eq_getElem hi]
structure DK (m:ah) (v:List (List Nat)):Prop where
 len:v.length=m.nodes.length
 fit:zg m.nodes m.nodes.length v
theorem dg {m:ah} (g:cE m) (s i:Nat):DK m (bR m s i):=⟨Mo _ _ _,z6 g s i⟩
theorem bT {m:ah} (g:cE m) (kind:Int): ∀p∈ay m.nodes kind,p<m.nodes.length:=fun p hp=>lR hp
theorem dE (l:List NodeP) (kind:Int):(ay l kind).length<=l.length:=by
 unfold ay
 refine Nat.le_trans (List.length_filter_le _ _) ?_
 rw [List.length_range];omega
theorem Lq (l:List NodeP) (a b:List Nat):cy l (a++b)=cy l a++cy l b:=by simp [cy]
structure ZS (l:List NodeP) (g:Hp) (ps:List Nat) (ts:List Sl):Prop where
 len:ts.length=ps.length
 val: ∀(j:Nat) (t:Sl),ts[j]?=some t->IntS g t (VL ((cy l ps).getD j []))
theorem ZS.mono {l:List NodeP} {g g':Hp} {ps:List Nat} {ts:List Sl} (le:g.le g') (e:ZS l g ps ts):ZS l g' ps ts:=⟨e.len,fun j t h=>(e.val j t h).mono le⟩
theorem ZS.snoc {l:List NodeP} {g:Hp} {ps:List Nat} {ts:List Sl} {p:Nat} {t:Sl} (e:ZS l g ps ts) (h:IntS g t (VL (List.replicate (aF l p) 0))):ZS l g (ps++ [p]) (ts++ [t]):=by
 refine⟨by simp [e.len],fun j u hu=>?_⟩
 rw [Lq]
 by_cases hj:j<ts.length
 ·rw [List.getElem?_append_left hj]at hu
  rw [iU (by rw [eN,<-e.len];exact hj)]
  exact e.val j u hu
 ·have hju:=get_lt hu
  simp at hju
  have hje:j=ts.length:=by omega
  subst hje
  rw [List.getElem?_append_right (Nat.le_refl _),Nat.sub_self]at hu
  simp at hu;subst hu
  rw [List.getD_eq_getElem?_getD,List.getElem?_append_right (by rw [eN,e.len];exact Nat.le_refl _),eN,e.len,Nat.sub_self]
  exact h
theorem ZS.ints {l:List NodeP} {g h:Hp} {ps:List Nat} {ts:List Sl} {s:Sl} (e:ZS l g ps ts) (le:g.le h) (hb:Buf h s 1 (ts.map Sl.v)) (hn:s.n<=1048576):IntSS h s ((cy l ps).map VL):=by
 refine⟨ts,by rw [List.length_map,eN];exact e.len,hb.slc_of (by omega),fun i h1 h2=>?_⟩
 have:=(e.val i _ (List.getElem?_eq_getElem h1)).mono le
 have hi:i<(cy l ps).length:=by rw [List.length_map]at h2;exact h2
 rw [List.getElem_map]
 rwa [List.getD_eq_getElem?_getD,List.getElem?_eq_getElem hi]at this
theorem Buf.wr {h:Hp} {out x:Sl} {ts:List Sl} {q:Nat} {P:Hp->Prop} (e:Buf h out 1 (ts.map Sl.v)) (hq:q<ts.length)
  (k: ∀h',Buf h' out 1 ((ts.set q x).map Sl.v)->h'.offS out=h.offS out->P h'):
  ∃b o:Nat,out.a=some (Addr.mk b o none)/\(0:Int)<=(q:Int)/\(q:Int)<((out.n:Nat):Int)/\
   ∃(cs:List Value) (z:Nat),h b=some (.inl ⟨cs,z,false⟩)/\(o+Int.toNat (q:Int)*1)+1<=List.length cs/\cJ (h.row b (ce cs (o+Int.toNat (q:Int)*1) [x.v]) z) P:=by
 have hl:=e.1
 rw [List.length_map]at hl
 rcases e.2.2 with ⟨_,h0,_⟩|⟨b,ha,hb⟩
 ·omega
 ·refine⟨b,0,ha,by omega,by omega,_,_,hb,by rw [List.length_map,Int.toNat_natCast];omega,?_⟩
  rw [S3]
  refine k _ ⟨by rw [List.length_map,List.length_set];omega,e.2.1, .inr ⟨b,ha,?_⟩⟩ ?_
  ·rw [bJ,bD,Int.toNat_natCast,Nat.zero_add,Nat.mul_one,List.map_set]
  ·unfold Hp.offS;rw [ha];exact yd _ _ _ _
theorem fA {m:ah} (g:cE m) (kind:Int):(ay m.nodes kind).length<=1048576:=by have:=dE m.nodes kind;have:=g.nl;omega
theorem j7 {m:ah} (kind:Int) (code:Nat) (g:cE m):A2 m.nodes kind (dR m.nodes (ay m.nodes kind) code):=GY g.ok kind code
structure Kn (g h:Hp) (L:List (Nat×Blk)):Prop where
 le:g.le h
 mem: ∀e∈L,h e.1=some e.2
 new: ∀e∈L,g e.1=none
 nd:(L.map Prod.fst).Nodup
inductive Upd :List (Nat×Blk)->Nat->Blk->Blk->List (Nat×Blk)->Prop
 |head {L:List (Nat×Blk)} {b:Nat} {x y:Blk}:Upd ((b,x)::L) b x y ((b,y)::L)
 |tail {L L':List (Nat×Blk)} {b:Nat} {x y:Blk} {e:Nat×Blk}:Upd L b x y L'->Upd (e::L) b x y (e::L')
theorem Kn.nil (h:Hp):Kn h h []:=⟨Hp.le_refl _,fun e h=>(by simp at h),fun e h=>(by simp at h),List.nodup_nil⟩
theorem Kn.of {g h:Hp} (l:g.le h):Kn g h []:=⟨l,fun e h=>(by simp at h),fun e h=>(by simp at h),List.nodup_nil⟩
section
variable {g h h':Hp} {L L':List (Nat×Blk)}
theorem Kn.at (K:Kn g h L) {b:Nat} {x:Blk} (e:(b,x)∈L):h b=some x:=K.mem _ e
theorem Kn.mono (K:Kn g h L) (l:h.le h'):Kn g h' L:=⟨Hp.le_trans K.le l,fun e he=>l _ _ (K.mem e he),K.new,K.nd⟩
theorem Kn.cons (K:Kn g h L) {b:Nat} {x:Blk} (hb:h b=none) (l:h.le h') (f:h' b=some x):Kn g h' ((b,x)::L):=by
 refine⟨Hp.le_trans K.le l,fun e he=>?_,fun e he=>?_,?_⟩
 ·rcases List.mem_cons.1 he with rfl|he
  ·exact f
  ·exact l _ _ (K.mem e he)
 ·rcases List.mem_cons.1 he with rfl|he
  ·exact aE K.le hb
  ·exact K.new e he
 ·rw [List.map_cons,List.nodup_cons]
  refine⟨fun hm=>?_,K.nd⟩
  obtain⟨e,he,heb⟩:=List.mem_map.1 hm
  have:=K.mem e he
  rw [show e.1=b from heb,hb]at this;cases this
theorem Kn.al (K:Kn g h L) {cs:Nat->List Value} {n:Nat->Nat} {P:Nat->Hp->Prop} (k: ∀b h',Kn g h' ((b, .inl ⟨cs b,n b,false⟩)::L)->h.le h'->h b=none->P b h'):
  ∀b,h b=none->cJ (h.row b (cs b) (n b)) fun h'=>P b h':=
 fun b hb=>k b _ (K.cons hb (fK _ _ hb) (bJ _ _ _ _)) (fK _ _ hb) hb
theorem Upd.mem {b:Nat} {x y:Blk} (u:Upd L b x y L'):(b,x)∈L:=by
 induction u with
 |head=>exact .head _
 |tail _ ih=>exact .tail _ ih
theorem Upd.keys {b:Nat} {x y:Blk} (u:Upd L b x y L'):L'.map Prod.fst=L.map Prod.fst:=by
 induction u with
 |head=>rfl
 |tail _ ih=>rw [List.map_cons,List.map_cons,ih]
theorem Upd.out {b:Nat} {x y:Blk} (u:Upd L b x y L') (nd:(L.map Prod.fst).Nodup): ∀e∈L',e=(b,y)\/(e∈L/\e.1≠b):=by
 induction u with
 |head=>
  intro e he
  rcases List.mem_cons.1 he with rfl|he
  ·exact .inl rfl
  ·rw [List.map_cons,List.nodup_cons]at nd
   exact .inr ⟨.tail _ he,fun eb=>nd.1 (List.mem_map.2 ⟨e,he,eb⟩)⟩
 |tail u ih=>
  rename_i L L' b x y e0
  rw [List.map_cons,List.nodup_cons]at nd
  intro e he
  rcases List.mem_cons.1 he with rfl|he
  ·exact .inr ⟨.head _,fun eb=>nd.1 (List.mem_map.2 ⟨_,u.mem,eb.symm⟩)⟩
  ·rcases ih nd.2 e he with h|⟨h1,h2⟩
   ·exact .inl h
   ·exact .inr ⟨.tail _ h1,h2⟩
theorem Kn.set (K:Kn g h L) {b z z':Nat} {cs cs':List Value} {ro:Bool} (u:Upd L b (.inl ⟨cs,z,ro⟩) (.inl ⟨cs',z',false⟩) L'):Kn g (h.row b cs' z') L':=by
 have hb:=K.new _ u.mem
 refine⟨dP _ _ hb K.le,fun e he=>?_,fun e he=>?_,by rw [u.keys];exact K.nd⟩
 ·rcases u.out K.nd e he with rfl|⟨h1,h2⟩
  ·exact bJ _ _ _ _
  ·rw [bX _ _ h2];exact K.mem e h1
 ·rcases u.out K.nd e he with rfl|⟨h1,h2⟩
  ·exact hb
  ·exact K.new e h1
theorem Kn.wr (K:Kn g h L) {b z o m:Nat} {cs vs:List Value} {P:Hp->Prop} (u:Upd L b (.inl ⟨cs,z,false⟩) (.inl ⟨ce cs o vs,z,false⟩) L') (hl:m<=cs.length)
  (k: ∀h',Kn g h' L'->(∀c,c≠b->h' c=h c)->P h'):
  ∃(cs':List Value) (z':Nat),h b=some (.inl ⟨cs',z',false⟩)/\m<=List.length cs'/\cJ (h.row b (ce cs' o vs) z') fun h'=>P h':=
 ⟨cs,z,K.at u.mem,hl,k _ (K.set u) fun c hc=>bX _ _ hc⟩
theorem Kn.base (K:Kn g h L):Kn (h.wo (L.map Prod.fst)) h L:=⟨sx _ _,K.mem,fun e he=>fh (List.mem_map.2 ⟨e,he,rfl⟩),K.nd⟩
theorem Kn.leBase (K:Kn g h L):g.le (h.wo (L.map Prod.fst)):=ue K.le fun b hb=>by
 obtain⟨e,he,rfl⟩:=List.mem_map.1 hb
 exact K.new e he
theorem Kn.has (K:Kn g h L): ∀b∈L.map Prod.fst,h b≠none:=fun b hb=>by
 obtain⟨e,he,rfl⟩:=List.mem_map.1 hb
 rw [K.mem e he];simp
theorem Kn.eq {g':Hp} (K':Kn g' h' L') (K:Kn g h L) {b:Nat} {x:Blk} {P:Prop} (e':(b,x)∈L') (e:(b,x)∈L) (k:P):h' b=h b/\P:=⟨by rw [K'.at e',K.at e],k⟩
theorem Kn.eqg (K':Kn g h' L') (K:Kn g h L) {b:Nat} {P:Prop} (e:g b≠none) (k:P):h' b=h b/\P:=by
 refine⟨?_,k⟩
 cases hb:g b with
 |none=>exact absurd hb e
 |some x=>rw [K'.le _ _ hb,K.le _ _ hb]
theorem Kn.sub (K:Kn g h L) (m: ∀e∈L',e∈L) (nd:(L'.map Prod.fst).Nodup):Kn g h L':=⟨K.le,fun e he=>K.mem e (m e he),fun e he=>K.new e (m e he),nd⟩
end
theorem ge {b o:Nat} {P:Nat->Nat->Prop} (k:P b o): ∃b' o':Nat,some (Addr.mk b o none)=some (Addr.mk b' o' none)/\P b' o':=⟨b,o,rfl,k⟩
theorem Kn.rd {α:Type} {f:α->Value} {g h:Hp} {L:List (Nat×Blk)} (K:Kn g h L) {b z o:Nat} {cs:List Value} {ro:Bool} {x:α} {P:α->Prop} (e:(b, .inl ⟨cs,z,ro⟩)∈L) (c:cs[o]?=some (f x)) (k:P x): ∃y:α,Hp.cell h b o=some (f y)/\P y:=⟨x,by rw [av (K.at e)];exact c,k⟩
theorem Kn.rg {α:Type} {f:α->Value} {g h:Hp} {L:List (Nat×Blk)} (K:Kn g h L) {b z o:Nat} {cs:List Value} {ro:Bool} {x:α} {P:α->Prop} (e:g b=some (.inl ⟨cs,z,ro⟩)) (c:cs[o]?=some (f x)) (k:P x): ∃y:α,Hp.cell h b o=some (f y)/\P y:=⟨x,by rw [av (K.le _ _ e)];exact c,k⟩
theorem kr_ {P Q:Prop} (k:Q) (h:Q->P:=by(first
 |((with_reducible apply Kn.rd);(assumption);((focus ((repeat first|exact .head _|apply List.Mem.tail);done)));(exact rfl))
 |((with_reducible apply Kn.rg);(assumption);(assumption);(exact rfl))
 |with_reducible exact And.intro (Eq.refl _)
 |with_reducible exact And.intro True.intro
 |with_reducible exact ge
 |((with_reducible apply Kn.eq);(assumption);(assumption);((focus ((repeat first|exact .head _|apply List.Mem.tail);done)));((focus ((repeat first|exact .head _|apply List.Mem.tail);done))))
 |((with_reducible apply Kn.eqg);(assumption);(assumption);(assumption))
 |fail)):P:=h k
theorem kw_ {P Q:Prop} (k:Q) (h:Q->P:=by((with_reducible apply Kn.wr);(assumption);(((focus ((repeat first|exact .head|apply Upd.tail);done))));(exact of_decide_eq_true rfl))):P:=h k
def gW (k:Nat):List Nat:=(List.range (k+1)).filter fun c=>decide (c&&&k=c)
theorem Buf.wo {h h':Hp} {t:Sl} {sz:Nat} {cs:List Value} {B:List Nat} (e:Buf h' t sz cs) (l:h.le (h'.offS t)) (hB: ∀b∈B,h b≠none):Buf (h'.wo B) t sz cs:=by
 refine⟨e.1,e.2.1,e.2.2.imp id ?_⟩
 rintro ⟨b,ha,hb⟩
 refine⟨b,ha,?_⟩
 rw [uf]
 ·exact hb
 ·intro hm
  have:=hB b hm
  cases hx:h b with
  |none=>exact this hx
  |some x=>
   have:=l _ _ hx
   simp [Hp.offS,ha,Hp.off,Hp.set]at this
theorem T2 {m:ah} (g:cE m):2^(am m.nodes 36+am m.nodes 35)<=8192:=by
 have h1:=g.n8
 have h2:=g.k5
 have:=Nat.pow_le_pow_right (n:=2) (by omega) (show am m.nodes 36+am m.nodes 35<=13 by omega)
 simpa using this
theorem af5 {m:ah} (g:cE m):2^am m.nodes 36<=256:=by
 have h1:=g.n8
 have:=Nat.pow_le_pow_right (n:=2) (by omega) h1
 simpa using this
theorem Mi {h:Hp} {M:MSl} {m:ah} {fid:FuncId} {u w:Array Value} {B:List Nat} {st:Nat->Hp->Prop} {R:Value->Hp->Prop} (hs:aM (h.wo B) M m) (hm:bM m) (g:cE m)
  (hB: ∀b∈B,h b≠none) (mono: ∀c h1 h2,st c h1->h1.le h2->st c h2) (h0:st 0 h)
  (step: ∀c,c<2^(am m.nodes 36+am m.nodes 35)-> ∀h1 t,(h.wo B).le h1->st c h1->gv h1 t (bR m (c%2^am m.nodes 36) (c/2^am m.nodes 36))-> ∀R':Value->Hp->Prop,
   (∀h2,st (c+1) h2->(h1.wo B).le h2->R' (.tuple #[]) h2)->ACalls PR fid ((u++ #[I c,Sl.v t])++w) h1 R')
  (k: ∀h',(h.wo B).le h'->st (2^(am m.nodes 36+am m.nodes 35)) h'->R (.tuple #[]) h'):lA #[aN M, .func (.func fid) u w] h R:=by
 apply CO
 refine uf_ ?_
 have hn8:=g.n8
 have hk5:=g.k5
 have hp13:=T2 g
 have hs0:aM h M m:=hs.mono (sx _ _)
 refine ai fun b10 h1 hb10 l1 f10=>?_
 have x10:=bV f10
 repeat' (refine aC ?_)
 refine fN (hs0.mono l1) hm ⟨_,rfl,rfl,fN (hs0.mono l1) hm ⟨_,rfl,?_⟩⟩
 repeat' (refine aC ?_)
 refine kO (hs0.mono l1) hm fun p1 h2 l2 n1 b1=>⟨p1,rfl,?_⟩
 have l2':=Hp.le_trans l2 (aU _ _)
 (((with_reducible apply lO);(assumption);(assumption)))
 refine kO ((hs0.mono l1).mono l2') hm fun p2 h3 l3 n2 b2=>⟨p2,rfl,?_⟩
 have l3':=Hp.le_trans l3 (aU _ _)
 have l13:=Hp.le_trans l2' l3'
 have l03:=Hp.le_trans l1 l13
 rw [bQ (n:=((am m.nodes 36:Nat):Int)+((am m.nodes 35:Nat):Int)) (by omega) (by omega),if_neg (by omega),<-Int.natCast_add,ck (by omega)]
 have hB1: ∀b∈B,h1 b≠none:=fun b hb=>by
  cases hx:h b with
  |none=>exact absurd hx (hB b hb)
  |some x=>rw [l1 _ _ hx];simp
 have hB2: ∀b∈B,h2 b≠none:=fun b hb=>by
  cases hx:h1 b with
  |none=>exact absurd hx (hB1 b hb)
  |some x=>rw [l2' _ _ hx];simp
 have b1w:Buf (h3.wo B) p1 1 ((VL (ay m.nodes 36)).map I):=(b1.wo l2 hB1).mono (ue (Hp.le_trans (sx _ _) l3') fun b hb=>fh hb)
 have b2w:Buf (h3.wo B) p2 1 ((VL (ay m.nodes 35)).map I):=b2.wo l3 hB2
 have hnl:=g.nl
 have i1:IntS (h3.wo B) p1 (VL (ay m.nodes 36)):=b1w.slc_of (by omega)
 have i2:IntS (h3.wo B) p2 (VL (ay m.nodes 35)):=b2w.slc_of (by omega)
 have hs3:aM (h3.wo B) M m:=hs.mono (ue (Hp.le_trans (sx _ _) l03) fun b hb=>fh hb)
 have f10w:(h3.wo B) b10=some (.inl ⟨aG M,5,false⟩):=by
  rw [uf (fun hb=>hB _ hb hb10)];exact l13 _ _ f10
 have hw:(h.wo B).le (h3.wo B):=ue (Hp.le_trans (sx _ _) l03) fun b hb=>fh hb
 refine ar (2^(am m.nodes 36+am m.nodes 35)) (fun c vs h'=>vs= [.func (.func fid) u w, .pointer (some ⟨b10,0,none⟩),I (am m.nodes 36),p1.v,p2.v,I (2^(am m.nodes 36+am m.nodes 35):Nat),I c]/\(h3.wo B).le h'/\st c h')
  ⟨rfl,sx _ _,mono _ _ _ h0 l03⟩ ?_
 clear f10 x10 b1 b2 l1 l2 l2' l3 l13 l3' hs hs0 h0
 rintro c _ h4 next hc ⟨rfl,l4,hst⟩ hnx
 refine⟨_,_,_,_,_,_,p1,p2,_,_,rfl,?_⟩
 by_cases hlt:c<2^(am m.nodes 36+am m.nodes 35)
 rotate_left
 ·have hce:c=2^(am m.nodes 36+am m.nodes 35):=by omega
  subst hce
  exact aA (by simp) (k h4 (Hp.le_trans hw l4) hst)
 refine aL (by rw [decide_eq_true_eq];exact_mod_cast hlt) ?_
 rw [if_neg (by omega)]
 have f104:=l4 _ _ f10w
 have x104:=bV f104
 repeat' (refine aC ?_)
 refine dC (by omega) ⟨_,rfl,?_⟩
 repeat' (refine aC ?_)
 rw [gU (by omega),oJ,js (by omega)]
 have h1':c%2^am m.nodes 36<=c:=Nat.mod_le _ _
 have h2':c/2^am m.nodes 36<=c:=Nat.div_le_self _ _
 refine uU (hs3.mono l4) hm g.ok (i1.mono l4) (bT g 36) (fA g 36) (by omega) fun o1 h5 l5 v1 c1=>⟨o1,rfl,?_⟩
 repeat' (((with_reducible apply lO);(assumption);(assumption)))
 have l45:=Hp.le_trans l4 l5
 refine uU (hs3.mono l45) hm g.ok (i2.mono l45) (bT g 35) (fA g 35) (by omega) fun o2 h6 l6 v2 c2=>⟨o2,rfl,?_⟩
 have l56:=Hp.le_trans l5 l6
 (((with_reducible apply lO);(assumption);(assumption)))
 have l46:=Hp.le_trans l4 l56
 refine we (hs3.mono l46) hm g.ok g.nl (v1.mono l6) c1 (j7 36 _ g) v2 c2 (j7 35 _ g) fun t h7 l7 hn hpv=>⟨t,rfl,?_⟩
 have l47:=Hp.le_trans l56 l7
 refine step c hlt h7 t (Hp.le_trans hw (Hp.le_trans l4 l47)) (mono _ _ _ hst l47) hpv _ fun h8 hst8 l8=>⟨rfl,?_⟩
 rw [aw (by omega)]
 exact hnx hlt _ _ ⟨rfl,Hp.le_trans (ue (Hp.le_trans l4 l47) fun b hb=>fh hb) l8,hst8⟩
theorem gv.keep {h h':Hp} {s:Sl} {vs:List (List Nat)} {b z:Nat} {cs:List Value} {ro:Bool} (e:gv h s vs) (f:h b=some (.inl ⟨cs,z,ro⟩)) (hn:ww cs) (hsl: ∀(j:Nat) (t:Sl),cs[j]?≠some t.v) (kp: ∀c,c≠b->h' c=h c):gv h' s vs:=by
 refine⟨e.1,e.2.1,fun p hp=>?_⟩
 obtain⟨b',o,t,h1,h2,h3⟩:=e.2.2 p hp
 refine⟨b',o,t,h1,?_,h3.keepN f hn kp⟩
 have hne:b'≠b:=by
  rintro rfl
  rw [av f]at h2
  exact hsl _ _ h2
 unfold Hp.cell at h2⊢
 rw [kp b' hne];exact h2
abbrev OL (M:MSl) (n k:Int) (st hold bad:Sl) (fixed:Int) (next:Sl) (bf ba:Int):List Value:= [M.no.v,M.ini.v,M.nex.v,M.bad.v,M.hol.v,I n,I k,st.v,hold.v,bad.v,I fixed,next.v,I bf,I ba]
abbrev arr (b n:Nat):Sl:=⟨some ⟨b,0,none⟩,n,n⟩
def Hg (h:Hp) (t:Sl) (n:Nat) (f:Nat->Nat):Prop:=IntS h t (VL ((List.range n).map f))
theorem Hg.mono {h h':Hp} {t:Sl} {n:Nat} {f:Nat->Nat} (l:h.le h') (e:Hg h t n f):Hg h' t n f:=SlC.mono l e
def ER (h:Hp) (b:Nat) (σ:aJ):Prop:= ∃(M:MSl) (st hold bad next:Sl),h b=some (.inl ⟨OL M σ.n σ.k st hold bad σ.fixed next σ.bfix σ.bas,14,false⟩)/\
 eJ h hold (2^(σ.n+σ.k)) σ.hold/\eJ h bad (2^(σ.n+σ.k)) σ.bad/\Hg h next (2^(σ.n+σ.k)) σ.next
theorem ER.mono {h h':Hp} {b:Nat} {σ:aJ} (l:h.le h') (e:ER h b σ):ER h' b σ:=by
 obtain⟨M,st,hold,bad,next,h1,h2,h3,h4⟩:=e
 exact⟨M,st,hold,bad,next,l _ _ h1,h2.mono l,h3.mono l,h4.mono l⟩
theorem eJ.get {h:Hp} {t:Sl} {n:Nat} {T:Nat->Bool} (e:eJ h t n T) {i:Nat} (hi:i<n): ∃b o,t.a=some (Addr.mk b o none)/\(i:Int)<(t.n:Int)/\Hp.cell h b (o+Int.toNat (i:Int)*1)=some (.bool (T i)):=by
 have hl:=rf.len e
 rw [List.length_map,List.length_range]at hl
 obtain⟨b,o,ha,hc⟩:=SlC.get e (by omega)
 refine⟨b,o,ha,by omega,?_⟩
 rw [Int.toNat_natCast,Nat.mul_one]
 exact hc i _ (by simp [hi])
theorem eJ.len {h:Hp} {t:Sl} {n:Nat} {T:Nat->Bool} (e:eJ h t n T):t.n=n:=by
 have hl:=rf.len e
 rwa [List.length_map,List.length_range]at hl
theorem Hg.get {h:Hp} {t:Sl} {n:Nat} {f:Nat->Nat} (e:Hg h t n f) {i:Nat} (hi:i<n): ∃b o,t.a=some (Addr.mk b o none)/\(i:Int)<(t.n:Int)/\Hp.cell h b (o+Int.toNat (i:Int)*1)=some (I (f i:Nat)):=by
 have hl:=IntS.len e
 rw [aX,List.length_map,List.length_range]at hl
 obtain⟨b,o,ha,hc⟩:=SlC.get e (by omega)
 refine⟨b,o,ha,by omega,?_⟩
 rw [Int.toNat_natCast,Nat.mul_one]
 exact hc i _ (by simp [VL,hi])
def af1 (B:Bd) (s:Sl):Value:= .tuple #[.agg #[I B.v,s.v,I B.r], .bool B.ok]
theorem Lx {h:Hp} {t:Sl} {n:Nat} {f:Nat->Bool} {R:Value->Hp->Prop} (hn:n<=13) (ht:Bs h t n f)
  (k: ∀s h',h.le h'->Own (h'.sub h) s 3 (cQ (dX n f).ns)->R (af1 (dX n f) s) h'):jo #[t.v] h R:=by
 have e:dX (n:Int) f=match qe n f with|none=>jH|some r=>⟨n,r.2,r.1,true⟩:=by
  unfold dX;rw [if_pos (by omega),Int.toNat_natCast];cases qe n f<;>rfl
 refine N4 hn ht (fun h0=>?_) (fun r hr s h' l o=>?_)
 ·have:=k ⟨none,0,0⟩ h (Hp.le_refl _)
  rw [e,h0]at this
  exact this (S7 _ _)
 ·have:=k s h' l
  rw [e,hr]at this
  exact this o
theorem IntS.up {h h':Hp} {s:Sl} {xs:List Int} (e:IntS h s xs) (l:h.le h'):IntS h' s xs:=e.mono l
theorem IntSS.up {h h':Hp} {s:Sl} {xs:List (List Int)} (e:IntSS h s xs) (l:h.le h'):IntSS h' s xs:=e.mono l
theorem aM.up {h h':Hp} {M:MSl} {m:ah} (e:aM h M m) (l:h.le h'):aM h' M m:=e.mono l
theorem kpU {h0 h h':Hp} {b:Nat} {x:Blk} {P:Prop} (f:h0 b=some x) (l1:h0.le h') (l2:h0.le h) (k:P):h' b=h b/\P:=⟨by rw [l1 _ _ f,l2 _ _ f],k⟩
theorem kpN {h0 h h':Hp} {b:Nat} {P:Prop} (f:h0 b≠none) (l1:h0.le h') (l2:h0.le h) (k:P):h' b=h b/\P:=by
 refine⟨?_,k⟩
 cases hb:h0 b with
 |none=>exact absurd hb f
 |some x=>rw [l1 _ _ hb,l2 _ _ hb]
theorem rdU {α:Type} {f:α->Value} {h0 h:Hp} {b z o:Nat} {cs:List Value} {ro:Bool} {x:α} {P:α->Prop} (e:h0 b=some (.inl ⟨cs,z,ro⟩)) (l:h0.le h) (c:cs[o]?=some (f x)) (k:P x): ∃y:α,Hp.cell h b o=some (f y)/\P y:=⟨x,by rw [av (l _ _ e)];exact c,k⟩
theorem ku_ {P Q:Prop} (k:Q) (h:Q->P:=by(first
 |((with_reducible apply rdU);(assumption);((focus ((repeat (first|exact Hp.le_refl _|assumption|(refine Hp.le_trans ?_ (by assumption))));done)));(exact rfl))
 |with_reducible exact And.intro (Eq.refl _)
 |with_reducible exact And.intro True.intro
 |with_reducible exact ge
 |((with_reducible apply kpU);(assumption);((focus ((repeat (first|exact Hp.le_refl _|assumption|(refine Hp.le_trans ?_ (by assumption))));done)));((focus ((repeat (first|exact Hp.le_refl _|assumption|(refine Hp.le_trans ?_ (by assumption))));done))))
 |((with_reducible apply kpN);(assumption);((focus ((repeat (first|exact Hp.le_refl _|assumption|(refine Hp.le_trans ?_ (by assumption))));done)));((focus ((repeat (first|exact Hp.le_refl _|assumption|(refine Hp.le_trans ?_ (by assumption))));done))))
 |fail)):P:=h k
set_option maxHeartbeats 2000000 in
theorem Bq {h:Hp} {M:MSl} {m:ah} {c:Nat} {R:Value->Hp->Prop} (hs:aM h M m) (hm:bM m) (g:cE m) (hc:c<2^(am m.nodes 36+am m.nodes 35))
  (k: ∀t h',h.le h'->t.n=m.nodes.length->gv h' t (bR m (c%2^am m.nodes 36) (c/2^am m.nodes 36))->abV h t->R (Sl.v t) h'):nE #[aN M,I c] h R:=by
 apply F2
 refine uf_ ?_
 have hn8:=g.n8
 have hk5:=g.k5
 have hp13:=T2 g
 have hp8:=af5 g
 have h1':c%2^am m.nodes 36<=c:=Nat.mod_le _ _
 have h2':c/2^am m.nodes 36<=c:=Nat.div_le_self _ _
 have hpp:=bL (am m.nodes 36)
 have hs36:cG m.nodes (ay m.nodes 36)<=60:=by have:=ed g;show cG m.nodes (stP m)<=60;omega
 have hs35:cG m.nodes (ay m.nodes 35)<=60:=by have:=uX g;show cG m.nodes (inP m)<=60;omega
 have hshr:mU (c:Int) ((am m.nodes 36:Nat):Int)=((c/2^am m.nodes 36:Nat):Int):=js (by omega)
 have hmod:Int.tmod (c:Int) (((2^am m.nodes 36:Nat)):Int)=((c%2^am m.nodes 36:Nat):Int):=eh _ _
 have hwu:IntKind.wrap .u64 ((am m.nodes 36:Nat):Int)=(am m.nodes 36:Nat):=cR (by omega)
 have hsh1:ax 1 ((am m.nodes 36:Nat):Int)=((2^am m.nodes 36:Nat):Int):=ck (by omega)
 refine ai fun b8 h1 hb8 l1 f8=>?_
 clear hb8
 repeat' (refine ku_ ?_)
 refine ia (hs.mono l1) hm ⟨_,rfl,?_⟩
 simp only [hwu,hsh1,hshr,hmod]
 repeat' (first
  |(refine ku_ ?_)
  |(rw [if_neg (by omega)])
  |(refine cC (hs.up (by((focus ((repeat (first|exact Hp.le_refl _|assumption|(refine Hp.le_trans ?_ (by assumption))));done))))) hm fun _ _ _ _=>⟨_,rfl,?_⟩)
  |(refine eZ (hs.up (by((focus ((repeat (first|exact Hp.le_refl _|assumption|(refine Hp.le_trans ?_ (by assumption))));done))))) hm g.ok (IntS.up (by assumption) (by((focus ((repeat (first|exact Hp.le_refl _|assumption|(refine Hp.le_trans ?_ (by assumption))));done))))) (bT g 36) (fA g 36) (by omega) hs36 fun _ _ _ _=>⟨_,rfl,?_⟩)
  |(refine eZ (hs.up (by((focus ((repeat (first|exact Hp.le_refl _|assumption|(refine Hp.le_trans ?_ (by assumption))));done))))) hm g.ok (IntS.up (by assumption) (by((focus ((repeat (first|exact Hp.le_refl _|assumption|(refine Hp.le_trans ?_ (by assumption))));done))))) (bT g 35) (fA g 35) (by omega) hs35 fun _ _ _ _=>⟨_,rfl,?_⟩)
  |(refine nQ (hs.up (by((focus ((repeat (first|exact Hp.le_refl _|assumption|(refine Hp.le_trans ?_ (by assumption))));done))))) hm g.ok g.nl (IntSS.up (by assumption) (by((focus ((repeat (first|exact Hp.le_refl _|assumption|(refine Hp.le_trans ?_ (by assumption))));done))))) (j7 36 (c%2^am m.nodes 36) g) (IntSS.up (by assumption) (by((focus ((repeat (first|exact Hp.le_refl _|assumption|(refine Hp.le_trans ?_ (by assumption))));done))))) (j7 35 (c/2^am m.nodes 36) g) fun t h' l hn hpv hw=>⟨_,rfl,k t h' (by((focus ((repeat (first|exact Hp.le_refl _|assumption|(refine Hp.le_trans ?_ (by assumption))));done)))) hn hpv fun b o hb=>aE (by((focus ((repeat (first|exact Hp.le_refl _|assumption|(refine Hp.le_trans ?_ (by assumption))));done)))) (hw b o hb)⟩)
  |(refine And.intro ?_ ?_))
theorem Fd {h:Hp} {M:MSl} {m:ah} {s t:Sl} {ps:List Nat} {vs:List (List Nat)} {R:Value->Hp->Prop} (hs:aM h M m) (hm:bM m) (hok:cv m.nodes=true) (hp:IntS h s (VL ps)) (hps: ∀p∈ps,p<m.nodes.length) (hpl:ps.length<=1048576)
  (hv:IntSS h t (vs.map VL)) (hf:jx m.nodes ps vs) (k:R (.bool true) h):qP #[aN M,s.v,t.v] h R:=by
 refine ACalls.drop (Kg ?_)
 refine uf_ ?_
 have hn:=hs.nodes.len
 have hsn:=hp.len
 rw [aX]at hsn
 have htn:=hv.len
 rw [List.length_map]at htn
 have hvl:=ju hf
 refine ai fun b9 h1 hb9 l1 f9=>?_
 refine aA (by simp;omega) ?_
 refine ar ps.length (fun i ws h'=>h.le h'/\h' b9=some (.inl ⟨aG M,5,false⟩)/\ws= [s.v,t.v, .pointer (some ⟨b9,0,none⟩),I i]) ⟨l1,f9,rfl⟩ ?_
 clear f9 l1 hb9 h1
 rintro i _ h1 next hi ⟨l1,f9,rfl⟩ hnx
 refine⟨s,t,_,_,_,rfl,?_⟩
 by_cases hlt:i<ps.length
 rotate_left
 ·exact aA (by simp;omega) ⟨_,l1,k⟩
 refine aL (by simp;omega) ?_
 obtain⟨p,hpi⟩: ∃p,ps[i]?=some p:=⟨_,List.getElem?_eq_getElem hlt⟩
 have hpm:=hps p (List.mem_of_getElem? hpi)
 obtain⟨b,o,ha,hc⟩:=(hp.mono l1).get (gG hpi)
 refine⟨b,o,ha,by omega,by omega,?_⟩
 (refine aC ?_)
 refine⟨_,hc,?_⟩
 obtain⟨bn,on,han,hpn',c6,c7,w1,w16⟩:=(hs.mono l1).nodes.sortc2 hpm hok
 refine⟨bn,on,han,by omega,hpn',_,c6,_,c7,?_⟩
 obtain⟨bt,ot,c,hta,htc,hcv⟩:=(hv.mono l1).getV (i:=i) (by omega)
 have xbt:=fI htc
 have xbn:=fI c6
 have xb:=fI hc
 have xb9:=bV f9
 refine ai fun b36 h2 hb36 l2 f36'=>?_
 have n9:=fresh_ne hb36 f9
 have nt:=xk hb36 htc
 repeat' (((with_reducible apply lO);(assumption);(assumption)))
 (with_reducible apply co);(exact f36');(exact Hp.le_trans l1 l2);(exact aE l1 hb36);(exact Nat.le_refl 2)
 intro h3 f36 kp l3
 have l13:h1.le h3:=jg hb36 l2 kp
 have f93:=l13 _ _ f9
 have f36v:h3 b36=some (.inl ⟨[I (az m.nodes p).idx,I (bG m.nodes p)],2,false⟩):=f36
 refine⟨bt,ot,hta,by omega,by omega,c,l13.cell htc,?_⟩
 repeat' (refine aC ?_)
 refine fU ⟨_,rfl,?_⟩
 rw [nr hok hpm]
 have hg:=kV hf hpi
 have hcn:=hcv.len
 rw [aX]at hcn
 have hcl:=da m.nodes p
 repeat' (refine aC ?_)
 refine aA (by simp;omega) ?_
 have hcv3:=hcv.mono l13
 refine ar (aF m.nodes p) (fun q ws h'=>h'=h3/\ws= [s.v,t.v, .pointer (some ⟨b9,0,none⟩),I i, .pointer (some ⟨b36,0,none⟩),I q]) ⟨rfl,rfl⟩ ?_
 rintro q _ _ next2 hq ⟨rfl,rfl⟩ hnx2
 rename_i h3
 refine⟨s,t,_,_,_,_,_,_,rfl,?_⟩
 refine⟨bt,ot,hta,by omega,by omega,c,l13.cell htc,?_⟩
 by_cases hlq:q<aF m.nodes p
 rotate_left
 ·refine aA (by simp;omega) ?_
  rw [aw (by omega)]
  exact hnx hlt _ _ ⟨l3,f93,rfl⟩
 refine aL (by simp;omega) ?_
 refine⟨bt,ot,hta,by omega,by omega,?_⟩
 (refine aC ?_)
 refine⟨c,l13.cell htc,?_⟩
 obtain⟨bc,oc,hca,hcc,hln⟩:=hcv3.elt (i:=q) (by omega)
 refine⟨bc,oc,hca,by omega,by omega,_,hcc,?_⟩
 have hlt2:(vs.getD i []).getD q 0<2^bG m.nodes p:=by
  rw [List.getD_eq_getElem?_getD,List.getElem?_eq_getElem (show q<(vs.getD i []).length by omega)]
  exact hg.2 _ (List.getElem_mem _)
 refine cF ⟨_,rfl,aA ?_ ?_⟩
 ·rw [Bool.not_eq_false',kB]
  refine⟨by omega,by omega,?_⟩
  rw [Int.toNat_natCast];omega
 ·rw [aw (by omega)]
  exact hnx2 hlq _ _ ⟨rfl,rfl⟩
theorem fT {h:Hp} {M:MSl} {m:ah} {t:Sl} {vs:List (List Nat)} {R:Value->Hp->Prop} (hs:aM h M m) (hm:bM m) (hc:aD m=0)
  (hv:IntSS h t (vs.map VL)) (hf:jx m.nodes (stP m) vs) (k:R (.bool true) h):fz #[aN M,t.v] h R:=by
 refine ACalls.drop (Es ?_)
 refine uf_ ?_
 have g:=cA hc
 refine ai fun b8 h1 hb8 l1 f8=>?_
 repeat' (refine ku_ ?_)
 refine cj (hs.up (by((focus ((repeat (first|exact Hp.le_refl _|assumption|(refine Hp.le_trans ?_ (by assumption))));done))))) hm ⟨_,rfl,aL (by rw [hc];rfl) ?_⟩
 repeat' (refine ku_ ?_)
 refine cC (hs.up (by((focus ((repeat (first|exact Hp.le_refl _|assumption|(refine Hp.le_trans ?_ (by assumption))));done))))) hm fun p h2 l2 i2=>⟨p,rfl,?_⟩
 repeat' (refine ku_ ?_)
 exact Fd (hs.up (by((focus ((repeat (first|exact Hp.le_refl _|assumption|(refine Hp.le_trans ?_ (by assumption))));done))))) hm g.ok i2 (bT g 36) (fA g 36) (hv.up (by((focus ((repeat (first|exact Hp.le_refl _|assumption|(refine Hp.le_trans ?_ (by assumption))));done))))) hf ⟨_,rfl,h,by((focus ((repeat (first|exact Hp.le_refl _|assumption|(refine Hp.le_trans ?_ (by assumption))));done))),k⟩
section
variable {g h h':Hp} {L L' A B X:List (Nat×Blk)}
theorem Kn.app (K:Kn g h L) (l:h.le h') (n: ∀e∈X,h e.1=none) (f: ∀e∈X,h' e.1=some e.2) (nd:(X.map Prod.fst).Nodup):Kn g h' (L++X):=by
 refine⟨Hp.le_trans K.le l,fun e he=>?_,fun e he=>?_,?_⟩
 ·rcases List.mem_append.1 he with he|he
  ·exact l _ _ (K.mem e he)
  ·exact f e he
 ·rcases List.mem_append.1 he with he|he
  ·exact K.new e he
  ·exact aE K.le (n e he)
 ·rw [List.map_append,List.nodup_append]
  refine⟨K.nd,nd,fun a ha b hb hab=>?_⟩
  obtain⟨e,he,rfl⟩:=List.mem_map.1 ha
  obtain⟨e',he',rfl⟩:=List.mem_map.1 hb
  have h1:=K.mem e he
  have h2:=n e' he'
  rw [hab,h2]at h1;cases h1
theorem Kn.off (K:Kn g h L) {b:Nat} {x y:Blk} (u:Upd L b x y L') (l:(h.off b).le h') (f:h' b=some y):Kn g h' L':=by
 refine⟨?_,fun e he=>?_,fun e he=>?_,by rw [u.keys];exact K.nd⟩
 ·exact Hp.le_trans (xy (K.new (b,x) u.mem) K.le) l
 ·rcases u.out K.nd e he with rfl|⟨h1,h2⟩
  ·exact f
  ·refine l _ _ ?_
   simp only [Hp.off,Hp.set];rw [if_neg h2];exact K.mem e h1
 ·rcases u.out K.nd e he with rfl|⟨h1,h2⟩
  ·exact K.new (b,x) u.mem
  ·exact K.new e h1
def ll (X:List (Nat×Blk)) (s:Sl) (sz:Nat) (cs:List Value):Prop:=
 cs.length=s.n*sz/\s.n<=9223372036854775807/\((s.n=0/\X= [])\/(s.n≠0/\ ∃b z,s.a=some ⟨b,0,none⟩/\X= [(b, .inl ⟨cs,z,false⟩)]))
theorem Kn.addOwn {s:Sl} {sz:Nat} {cs:List Value} (K:Kn g h L) (l:h.le h') (o:Own (h'.sub h) s sz cs): ∃X,ll X s sz cs/\Kn g h' (L++X):=by
 by_cases h0:s.n=0
 ·exact⟨[],⟨o.1,o.2.1, .inl ⟨h0,rfl⟩⟩,by rw [List.append_nil];exact K.mono l⟩
 ·obtain⟨b,z,ha,hb⟩:=o.2.2.resolve_left h0
  have hn:h b=none:=lc (by rw [hb];simp)
  refine⟨_,⟨o.1,o.2.1, .inr ⟨h0,b,z,ha,rfl⟩⟩,K.app l (fun e he=>?_) (fun e he=>?_) (by simp)⟩
  ·rw [List.mem_singleton.1 he];exact hn
  ·rw [List.mem_singleton.1 he];exact sub_le _ _ _ _ hb
theorem ll.own {s:Sl} {sz:Nat} {cs:List Value} (o:ll X s sz cs) (K:Kn g h (L++X)):Own h s sz cs:=by
 refine⟨o.1,o.2.1,?_⟩
 rcases o.2.2 with ⟨h0,_⟩|⟨_,b,z,ha,rfl⟩
 ·exact .inl h0
 ·exact .inr ⟨b,z,ha,K.at (by simp)⟩
theorem ll.mark {s:Sl} {sz:Nat} {cs cs':List Value} (o:ll X s sz cs) (K:Kn g h (L++X)) (l:(h.wo s.used).le h') (o':Own h' s sz cs'): ∃X',ll X' s sz cs'/\Kn g h' (L++X'):=by
 rcases o.2.2 with ⟨h0,rfl⟩|⟨h0,b,z,ha,rfl⟩
 ·refine⟨[],⟨o'.1,o'.2.1, .inl ⟨h0,rfl⟩⟩,K.mono ?_⟩
  have:s.used= []:=by unfold Sl.used;rw [if_pos h0]
  rw [this]at l
  exact Hp.le_trans (ue (Hp.le_refl _) (fun b hb=>by simp at hb)) l
 ·obtain⟨b',z',ha',hb'⟩:=o'.2.2.resolve_left h0
  rw [ha]at ha';cases ha'
  refine⟨_,⟨o'.1,o'.2.1, .inr ⟨h0,b,z',ha,rfl⟩⟩,?_⟩
  have hu:s.used= [b]:=by unfold Sl.used Sl.blk;rw [if_neg h0,ha]
  rw [hu]at l
  have nd:=K.nd
  rw [List.map_append,List.nodup_append]at nd
  have hbn:g b=none:=K.new (b, .inl ⟨cs,z,false⟩) (List.mem_append_right _ (by simp))
  have hne: ∀e∈L,e.1≠b:=fun e he hb=>nd.2.2 _ (List.mem_map.2 ⟨e,he,rfl⟩) b (by simp) hb
  have hwo: ∀c,c≠b->(h.wo [b]) c=h c:=fun c hc=>uf (by simpa using hc)
  refine⟨?_,fun e he=>?_,fun e he=>?_,?_⟩
  ·exact Hp.le_trans (ue K.le fun c hc=>by rw [List.mem_singleton.1 hc];exact hbn) l
  ·rcases List.mem_append.1 he with he|he
   ·exact l _ _ (by rw [hwo _ (hne e he)];exact K.mem e (List.mem_append_left _ he))
   ·rw [List.mem_singleton.1 he];exact hb'
  ·rcases List.mem_append.1 he with he|he
   ·exact K.new e (List.mem_append_left _ he)
   ·rw [List.mem_singleton.1 he];exact hbn
  ·rw [List.map_append,List.nodup_append]
   exact⟨nd.1,by simp,fun a ha c hc=>nd.2.2 a ha c (by simpa using hc)⟩
end
theorem list9 {cs:List Value} (h:cs.length=9): ∃a b c d e f g i j,cs= [a,b,c,d,e,f,g,i,j]:=by
 match cs,h with
 | [a,b,c,d,e,f,g,i,j],_=>exact⟨a,b,c,d,e,f,g,i,j,rfl⟩
theorem list2 {cs:List Value} (h:cs.length=2): ∃a b,cs= [a,b]:=by
 match cs,h with
 | [a,b],_=>exact⟨a,b,rfl⟩
theorem Got.flat {P:Program} {W:World} {t e:TypeId} {v:Value} {α:Type} {f:α->List Value} {m:Nat} {p:α->Prop} (hf: ∀x,(f x).length=m) (hpos:0<m) (ht:P.underlying t=some (.slice e)) (hsz:P.cellsOf e=m)
  (hg: ∀ds,Got P W e ds-> ∃x,ds=f x/\p x) (g:Got P W t [v]): ∃(s:Sl) (l:List α),v=s.v/\s.n<=s.c/\SlC (hW W) s m (l.flatMap f)/\ ∀x∈l,p x:=by
 obtain⟨s,hs,hm,hlc,h⟩:=Got.slice ht hsz hpos g
 simp only [List.cons.injEq,and_true]at hs
 rcases h with h|⟨b,o,ha,h⟩
 ·exact⟨s, [],hs,hlc,⟨hm,by simp [h], .inl h⟩,by simp⟩
 obtain⟨xs,hl,hx⟩:=GH (p:=fun i (x:α)=>(∀(j:Nat) v,(f x)[j]?=some v->Hp.cell (hW W) b (o+i*m+j)=some v)/\p x) s.n fun i hi=>by
  obtain⟨ds,hd,hgd,hc⟩:=h i hi
  obtain⟨x,rfl,hp⟩:=hg ds hgd
  exact⟨x,hc,hp⟩
 refine⟨s,xs,hs,hlc,⟨hm,by rw [cf hf,hl], .inr ⟨b,o,ha,?_⟩⟩,?_⟩
 ·intro i v hv
  have hi:i<(xs.flatMap f).length:=(List.getElem?_eq_some_iff.1 hv).1
  rw [cf hf]at hi
  have hq:i/m<xs.length:=by rw [Nat.div_lt_iff_lt_mul hpos];exact hi
  have hr:i%m<m:=Nat.mod_lt _ hpos
  have he:i=i/m*m+i%m:=by rw [Nat.mul_comm];exact(Nat.div_add_mod _ _).symm
  rw [he,lY hf xs (i/m) xs[i/m] (i%m) (List.getElem?_eq_getElem hq) hr]at hv
  have:=(hx (i/m) hq).1 _ _ hv
  rw [he,<-Nat.add_assoc];exact this
 ·intro x hxm
  obtain⟨i,hi,rfl⟩:=List.getElem_of_mem hxm
  exact(hx i hi).2
def tb (n:Nat) (T:Nat->Bool):List Value:=(List.range n).map fun i=> .bool (T i)
def Ga (h:Hp) (s:Sl) (n m:Nat) (L:Nat->Nat->Bool):Prop:= ∃ts:List Sl,ts.length=m/\SlC h s 1 (ts.map Sl.v)/\ ∀(j:Nat) (t:Sl),ts[j]?=some t->eJ h t n (L j)
theorem Ga.mono {h h':Hp} {s:Sl} {n m:Nat} {L:Nat->Nat->Bool} (l:h.le h') (e:Ga h s n m L):Ga h' s n m L:=by
 obtain⟨ts,e1,e2,e3⟩:=e
 exact⟨ts,e1,e2.mono l,fun j t ht=>(e3 j t ht).mono l⟩
theorem Ga.len {h:Hp} {s:Sl} {n m:Nat} {L:Nat->Nat->Bool} (e:Ga h s n m L):s.n=m:=by
 obtain⟨ts,e1,e2,_⟩:=e
 have:=e2.2.1
 simp at this;omega
theorem Ga.get {h:Hp} {s:Sl} {n m i:Nat} {L:Nat->Nat->Bool} (e:Ga h s n m L) (hi:i<m):
  ∃b o t,s.a=some (Addr.mk b o none)/\(i:Int)<(s.n:Int)/\Hp.cell h b (o+Int.toNat (i:Int)*1)=some (Sl.v t)/\eJ h t n (L i):=by
 have hl:=e.len
 obtain⟨ts,e1,e2,e3⟩:=e
 obtain⟨t,ht⟩: ∃t,ts[i]?=some t:=⟨_,List.getElem?_eq_getElem (by omega)⟩
 obtain⟨b,o,ha,hc⟩:=SlC.get e2 (by omega)
 refine⟨b,o,t,ha,by omega,?_,e3 i t ht⟩
 rw [Int.toNat_natCast,Nat.mul_one]
 exact hc i _ (by simp [ht])
def bW (X:List (Nat×Blk)) (s:Sl) (sz:Nat) (cs:List Value):Prop:=
 cs.length=s.n*sz/\s.n<=s.c/\((X= []/\s=⟨none,0,0⟩/\cs= [])\/ ∃b,s.a=some ⟨b,0,none⟩/\X= [(b, .inl ⟨cs,s.c*sz,false⟩)])
theorem cw (sz:Nat):bW [] ⟨none,0,0⟩ sz []:=⟨by simp,Nat.le_refl _, .inl ⟨rfl,rfl,rfl⟩⟩
theorem bW.buf {X:List (Nat×Blk)} {h:Hp} {s:Sl} {sz:Nat} {cs:List Value} (o:bW X s sz cs) (m: ∀e∈X,h e.1=some e.2):Buf h s sz cs:=by
 refine⟨o.1,o.2.1,?_⟩
 rcases o.2.2 with ⟨_,rfl,_⟩|⟨b,ha,rfl⟩
 ·exact .inl ⟨rfl,rfl,rfl⟩
 ·exact .inr ⟨b,ha,m _ (.head _)⟩
theorem Kn.perm {g h:Hp} {L L':List (Nat×Blk)} (K:Kn g h L) (p:L.Perm L'):Kn g h L':=K.sub (fun e he=>p.mem_iff.2 he) ((p.map Prod.fst).nodup_iff.1 K.nd)
theorem Kn.grow {g h:Hp} {X L:List (Nat×Blk)} {s:Sl} {sz by_ m:Nat} {cs news:List Value} {src:Option Addr} {C:Option Addr->Nat->Nat->Hp->Prop}
  (K:Kn g h (X++L)) (o:bW X s sz cs) (hm:0<m) (hsz:(s.n+m)*by_<=140737488355328) (hsz':s.n+m<=9223372036854775807)
  (hs: ∃sb so,src=some ⟨sb,so,none⟩/\ir h sb so news) (hl:news.length=m*sz) (ho:news.all (·.oneCell')=true)
  (k: ∀s' X' h',s'.n=s.n+m->bW X' s' sz (cs++news)->Kn g h' (X'++L)->(h.offS s).le h'->C s'.a s'.n s'.c h'):cm h s.a s.n s.c src m sz by_ C:=by
 refine dr (o.buf fun e he=>K.mem e (List.mem_append_left _ he)) hm hsz hsz' hs hl ho fun s' h' hn B l _=>?_
 have nd:=K.nd
 rw [List.map_append,List.nodup_append]at nd
 have base:g.le (h.offS s)/\ ∀e∈L,(h.offS s) e.1=some e.2:=by
  rcases o.2.2 with ⟨_,rfl,_⟩|⟨b,ha,rfl⟩
  ·exact⟨K.le,fun e he=>K.mem e (List.mem_append_right _ he)⟩
  ·unfold Hp.offS
   rw [ha]
   refine⟨xy (K.new (b,_) (.head _)) K.le,fun e he=>?_⟩
   have hne:e.1≠b:=fun hb=>nd.2.2 b (by simp) e.1 (List.mem_map.2 ⟨e,he,rfl⟩) hb.symm
   simp only [Hp.off,Hp.set]
   rw [if_neg hne];exact K.mem e (List.mem_append_right _ he)
 rcases B.2.2 with ⟨_,h0,_⟩|⟨b,ha,hb⟩
 ·omega
 have hoff:(h'.offS s') b=none:=by simp [Hp.offS,ha,Hp.off,Hp.set]
 refine k s' [(b, .inl ⟨cs++news,s'.c*sz,false⟩)] h' hn ⟨B.1,B.2.1, .inr ⟨b,ha,rfl⟩⟩ ?_ (Hp.le_trans l (aU h' s'))
 have lo:=aU h' s'
 have hg:g b=none:=by
  cases hgb:g b with
  |none=>rfl
  |some x=>rw [l _ _ (base.1 _ _ hgb)]at hoff;cases hoff
 refine⟨Hp.le_trans base.1 (Hp.le_trans l lo),fun e he=>?_,fun e he=>?_,?_⟩
 ·rcases List.mem_cons.1 he with rfl|he
  ·exact hb
  ·exact lo _ _ (l _ _ (base.2 e he))
 ·rcases List.mem_cons.1 he with rfl|he
  ·exact hg
  ·exact K.new e (List.mem_append_right _ he)
 ·show (b::L.map Prod.fst).Nodup
  rw [List.nodup_cons]
  refine⟨fun hm=>?_,nd.2.1⟩
  obtain⟨e,he,heb⟩:=List.mem_map.1 hm
  have:=l _ _ (base.2 e he)
  rw [heb,hoff]at this;cases this
theorem Kn.growIn {g h:Hp} {A X L:List (Nat×Blk)} {s:Sl} {sz by_ m:Nat} {cs news:List Value} {src:Option Addr} {C:Option Addr->Nat->Nat->Hp->Prop}
  (K:Kn g h (A++(X++L))) (o:bW X s sz cs) (hm:0<m) (hsz:(s.n+m)*by_<=140737488355328) (hsz':s.n+m<=9223372036854775807)
  (hs: ∃sb so,src=some ⟨sb,so,none⟩/\ir h sb so news) (hl:news.length=m*sz) (ho:news.all (·.oneCell')=true)
  (k: ∀s' X' h',s'.n=s.n+m->bW X' s' sz (cs++news)->Kn g h' (A++(X'++L))->(h.offS s).le h'->C s'.a s'.n s'.c h'):cm h s.a s.n s.c src m sz by_ C:=by
 have sw: ∀Y:List (Nat×Blk),(A++(Y++L)).Perm (Y++(A++L)):=fun Y=>by
  rw [<-List.append_assoc,<-List.append_assoc]
  exact List.perm_append_comm.append_right L
 exact Kn.grow (K.perm (sw X)) o hm hsz hsz' hs hl ho fun s' X' h' hn o' K' l=>k s' X' h' hn o' (K'.perm (sw X').symm) l
theorem Kn.growIn2 {g h:Hp} {A Y X L:List (Nat×Blk)} {s:Sl} {sz by_ m:Nat} {cs news:List Value} {src:Option Addr} {C:Option Addr->Nat->Nat->Hp->Prop}
  (K:Kn g h (A++(Y++(X++L)))) (o:bW X s sz cs) (hm:0<m) (hsz:(s.n+m)*by_<=140737488355328) (hsz':s.n+m<=9223372036854775807)
  (hs: ∃sb so,src=some ⟨sb,so,none⟩/\ir h sb so news) (hl:news.length=m*sz) (ho:news.all (·.oneCell')=true)
  (k: ∀s' X' h',s'.n=s.n+m->bW X' s' sz (cs++news)->Kn g h' (A++(Y++(X'++L)))->(h.offS s).le h'->C s'.a s'.n s'.c h'):cm h s.a s.n s.c src m sz by_ C:=by
 have sw: ∀Z:List (Nat×Blk),(A++(Y++(Z++L))).Perm (A++(Z++(Y++L))):=fun Z=>by
  refine List.Perm.append_left A ?_
  rw [<-List.append_assoc,<-List.append_assoc]
  exact List.perm_append_comm.append_right L
 exact Kn.growIn (K.perm (sw X)) o hm hsz hsz' hs hl ho fun s' X' h' hn o' K' l=>k s' X' h' hn o' (K'.perm (sw X').symm) l
theorem Kn.growIn3 {g h:Hp} {A Y Z X L:List (Nat×Blk)} {s:Sl} {sz by_ m:Nat} {cs news:List Value} {src:Option Addr} {C:Option Addr->Nat->Nat->Hp->Prop}
  (K:Kn g h (A++(Y++(Z++(X++L))))) (o:bW X s sz cs) (hm:0<m) (hsz:(s.n+m)*by_<=140737488355328) (hsz':s.n+m<=9223372036854775807)
  (hs: ∃sb so,src=some ⟨sb,so,none⟩/\ir h sb so news) (hl:news.length=m*sz) (ho:news.all (·.oneCell')=true)
  (k: ∀s' X' h',s'.n=s.n+m->bW X' s' sz (cs++news)->Kn g h' (A++(Y++(Z++(X'++L))))->(h.offS s).le h'->C s'.a s'.n s'.c h'):cm h s.a s.n s.c src m sz by_ C:=by
 have sw: ∀W:List (Nat×Blk),(A++(Y++(Z++(W++L)))).Perm (A++((Y++Z)++(W++L))):=fun W=>by rw [<-List.append_assoc Y Z]
 exact Kn.growIn2 (K.perm (sw X)) o hm hsz hsz' hs hl ho fun s' X' h' hn o' K' l=>k s' X' h' hn o' (K'.perm (sw X').symm) l
theorem bW.slc {X A L:List (Nat×Blk)} {g h:Hp} {s:Sl} {sz:Nat} {cs:List Value} (o:bW X s sz cs) (K:Kn g h (A++(X++L))) (hn:s.n<=9223372036854775807):SlC h s sz cs:=
 (o.buf fun e he=>K.mem e (List.mem_append_right _ (List.mem_append_left _ he))).slc_of hn
structure EH where
 hs:Sl
 es:Sl
 ns:Sl
 fs:Sl
 bs:Sl
def EU (h:Hp) (q:EH) (σ:aJ):Prop:=eJ h q.hs (2^(σ.n+σ.k)) σ.hold/\eJ h q.es (2^(σ.n+σ.k)) σ.ends/\Hg h q.ns (2^(σ.n+σ.k)) σ.next/\
 (∃fm,fm+σ.fixed=2^σ.n-1/\IntS h q.fs (VL (gW fm)))/\eJ h q.bs (2^σ.n) σ.begins
theorem EU.mono {h h':Hp} {q:EH} {σ:aJ} (l:h.le h') (e:EU h q σ):EU h' q σ:=by
 obtain⟨a,b,c,⟨fm,d1,d2⟩,f⟩:=e
 exact⟨a.mono l,b.mono l,c.mono l,⟨fm,d1,d2.mono l⟩,f.mono l⟩
theorem eJ.wo {g h h':Hp} {L:List (Nat×Blk)} {t:Sl} {n:Nat} {T:Nat->Bool} (K:Kn g h L) (e:eJ (h'.sub h) t n T):eJ (h'.wo (L.map Prod.fst)) t n T:=
 eJ.mono (ue (sub_le _ _) fun b hb=>by
  cases hx:h b with
  |none=>exact absurd hx (K.has b hb)
  |some x=>exact nv hx) e
theorem bW.toOwn {g h:Hp} {A X L:List (Nat×Blk)} {s:Sl} {sz:Nat} {cs:List Value} (o:bW X s sz cs) (hn:s.n<=9223372036854775807) (K:Kn g h (A++(X++L))): ∃X',ll X' s sz cs/\Kn g h (A++(X'++L)):=by
 by_cases h0:s.n=0
 ·refine⟨[],⟨o.1,hn, .inl ⟨h0,rfl⟩⟩,K.sub (fun e he=>?_) ?_⟩
  ·rcases List.mem_append.1 he with he|he
   ·exact List.mem_append_left _ he
   ·exact List.mem_append_right _ (List.mem_append_right _ he)
  ·have nd:=K.nd
   rw [List.map_append,List.map_append]at nd
   rw [List.nil_append,List.map_append]
   exact nd.sublist (List.Sublist.append_left (List.sublist_append_right _ _) _)
 ·rcases o.2.2 with ⟨_,rfl,_⟩|⟨b,ha,rfl⟩
  ·exact absurd rfl h0
  ·exact⟨_,⟨o.1,hn, .inr ⟨h0,b,_,ha,rfl⟩⟩,K⟩
def TrX (h h':Hp) (sS sI:Sl) (l:List (Nat×Nat)):Prop:=
 ∃XS XI,ll XS sS 1 ((VL (l.map Prod.fst)).map I)/\ll XI sI 1 ((VL (l.map Prod.snd)).map I)/\Kn h h' (XS++XI)
theorem bW.at {X:List (Nat×Blk)} {h:Hp} {s t:Sl} {ts:List Sl} {i:Nat} (o:bW X s 1 (ts.map Sl.v)) (m: ∀e∈X,h e.1=some e.2) (hi:ts[i]?=some t):
  ∃b x,s.a=some ⟨b,0,none⟩/\h b=some x/\Hp.cell h b (0+i*1)=some t.v:=by
 have hlt:=get_lt hi
 rcases o.2.2 with ⟨_,_,h0⟩|⟨b,ha,rfl⟩
 ·have:ts.length=0:=by have:=congrArg List.length h0;simpa using this
  omega
 ·have hb:=m _ (.head _)
  refine⟨b,_,ha,hb,?_⟩
  rw [av hb,Nat.zero_add,Nat.mul_one,List.getElem?_map,hi];rfl
def TrG (h h':Hp) (sS sI:Sl) (l:List (Nat×Nat)):Prop:=
 ∃XS XI,bW XS sS 1 ((VL (l.map Prod.fst)).map I)/\bW XI sI 1 ((VL (l.map Prod.snd)).map I)/\Kn h h' (XS++(XI++ []))
theorem TrG.nil {h h':Hp} (l:h.le h'):TrG h h' ⟨none,0,0⟩ ⟨none,0,0⟩ []:=⟨[], [],cw 1,cw 1,Kn.of l⟩
theorem TrG.up {h g h1 h5:Hp} {b6:Nat} {sS sI:Sl} {l:List (Nat×Nat)} (t:TrG g h1 sS sI l) (lg:h.le g) (h6:g b6≠none) (l5:h.le h5) (kp: ∀c,c≠b6->h5 c=h1 c):TrG h h5 sS sI l:=by
 obtain⟨XS,XI,oS,oI,K⟩:=t
 refine⟨XS,XI,oS,oI,l5,fun e he=>?_,fun e he=>aE lg (K.new e he),K.nd⟩
 have hne:e.1≠b6:=by
  intro e6
  have h1:=K.new e he
  rw [e6]at h1;exact h6 h1
 rw [kp _ hne];exact K.mem e he
theorem TrG.tr {h h':Hp} {sS sI:Sl} {l:List (Nat×Nat)} (t:TrG h h' sS sI l) (hl:l.length<=1000000):TrX h h' sS sI l:=by
 obtain⟨XS,XI,oS,oI,K⟩:=t
 have h1:=oS.1
 have h2:=oI.1
 simp only [List.length_map,aX,Nat.mul_one]at h1 h2
 obtain⟨XS',oS',K6⟩:=oS.toOwn (by omega) (A:= []) (L:=XI++ []) K
 obtain⟨XI',oI',K7⟩:=oI.toOwn (by omega) (A:=XS') (L:= []) K6
 rw [List.append_nil]at K7
 exact⟨XS',XI',oS',oI',K7⟩
theorem TrX.nil {h h':Hp} (l:h.le h'):TrX h h' ⟨none,0,0⟩ ⟨none,0,0⟩ []:=⟨[], [],⟨rfl,by simp, .inl ⟨rfl,rfl⟩⟩,⟨rfl,by simp, .inl ⟨rfl,rfl⟩⟩,Kn.of l⟩
theorem TrX.up {h g h1 h5:Hp} {b6:Nat} {sS sI:Sl} {l:List (Nat×Nat)} (t:TrX g h1 sS sI l) (lg:h.le g) (h6:g b6≠none) (l5:h.le h5) (kp: ∀c,c≠b6->h5 c=h1 c):TrX h h5 sS sI l:=by
 obtain⟨XS,XI,oS,oI,K⟩:=t
 refine⟨XS,XI,oS,oI,l5,fun e he=>?_,fun e he=>aE lg (K.new e he),K.nd⟩
 have hne:e.1≠b6:=by
  intro e6
  have h1:=K.new e he
  rw [e6]at h1;exact h6 h1
 rw [kp _ hne];exact K.mem e he
theorem TrX.mono {h h1 h2:Hp} {sS sI:Sl} {l:List (Nat×Nat)} (t:TrX h h1 sS sI l) (l12:h1.le h2):TrX h h2 sS sI l:=by
 obtain⟨XS,XI,oS,oI,K⟩:=t
 exact⟨XS,XI,oS,oI,K.mono l12⟩
theorem ll.slcOf {X:List (Nat×Blk)} {h:Hp} {s:Sl} {sz:Nat} {cs:List Value} (o:ll X s sz cs) (m: ∀e∈X,h e.1=some e.2):SlC h s sz cs:=by
 refine⟨o.2.1,o.1,?_⟩
 rcases o.2.2 with ⟨h0,_⟩|⟨_,b,z,ha,rfl⟩
 ·exact .inl h0
 ·exact .inr ⟨b,0,ha,au (m _ (.head _))⟩
theorem TrX.ints {h h1:Hp} {sS sI:Sl} {l:List (Nat×Nat)} (t:TrX h h1 sS sI l):IntS h1 sS (VL (l.map Prod.fst))/\IntS h1 sI (VL (l.map Prod.snd)):=by
 obtain⟨XS,XI,oS,oI,K⟩:=t
 exact⟨oS.slcOf fun e he=>K.mem e (List.mem_append_left _ he),oI.slcOf fun e he=>K.mem e (List.mem_append_right _ he)⟩
theorem TrX.le {h h':Hp} {sS sI:Sl} {l:List (Nat×Nat)} (t:TrX h h' sS sI l):h.le h':=by obtain⟨_,_,_,_,K⟩:=t;exact K.le
theorem TrX.add {g h h':Hp} {L:List (Nat×Blk)} {sS sI:Sl} {l:List (Nat×Nat)} (t:TrX h h' sS sI l) (K:Kn g h L):
  ∃XS XI,ll XS sS 1 ((VL (l.map Prod.fst)).map I)/\ll XI sI 1 ((VL (l.map Prod.snd)).map I)/\Kn g h' (L++(XS++XI)):=by
 obtain⟨XS,XI,oS,oI,K'⟩:=t
 exact⟨XS,XI,oS,oI,K.app K'.le K'.new K'.mem K'.nd⟩
section
variable {g h:Hp} {L XS XI:List (Nat×Blk)} {sS sI tS tI:Sl} {xs ys:List Int} {cS cI:List Value} {k0:Int} {R:Value->Hp->Prop}
end
structure Gg where
 kind:Int
 depth:Int
 tr:List (Nat×Nat)
 bd:Bd
def VrX (h h':Hp) (sS sI sN:Sl) (p:Gg):Prop:=
 ∃XS XI XN,ll XS sS 1 ((VL (p.tr.map Prod.fst)).map I)/\ll XI sI 1 ((VL (p.tr.map Prod.snd)).map I)/\ll XN sN 3 (cQ p.bd.ns)/\Kn h h' (XS++(XI++XN))
theorem VrX.up {h g h1 h5:Hp} {b6:Nat} {sS sI sN:Sl} {p:Gg} (t:VrX g h1 sS sI sN p) (lg:h.le g) (h6:g b6≠none) (l5:h.le h5) (kp: ∀c,c≠b6->h5 c=h1 c):VrX h h5 sS sI sN p:=by
 obtain⟨XS,XI,XN,oS,oI,oN,K⟩:=t
 refine⟨XS,XI,XN,oS,oI,oN,l5,fun e he=>?_,fun e he=>aE lg (K.new e he),K.nd⟩
 have hne:e.1≠b6:=by
  intro e6
  have h1:=K.new e he
  rw [e6]at h1;exact h6 h1
 rw [kp _ hne];exact K.mem e he
theorem VrX.mono {h h1 h2:Hp} {sS sI sN:Sl} {p:Gg} (t:VrX h h1 sS sI sN p) (l12:h1.le h2):VrX h h2 sS sI sN p:=by
 obtain⟨XS,XI,XN,oS,oI,oN,K⟩:=t
 exact⟨XS,XI,XN,oS,oI,oN,K.mono l12⟩
theorem VrX.le {h h':Hp} {sS sI sN:Sl} {p:Gg} (t:VrX h h' sS sI sN p):h.le h':=by obtain⟨_,_,_,_,_,_,K⟩:=t;exact K.le
theorem GZ (sz:Nat):ll [] ⟨none,0,0⟩ sz []:=⟨by simp,by simp, .inl ⟨rfl,rfl⟩⟩
theorem VrX.ofTr {h h':Hp} {sS sI:Sl} {l:List (Nat×Nat)} {k d:Int} (t:TrX h h' sS sI l):VrX h h' sS sI ⟨none,0,0⟩ ⟨k,d,l,jH⟩:=by
 obtain⟨XS,XI,oS,oI,K⟩:=t
 exact⟨XS,XI, [],oS,oI,GZ 3,by rw [List.append_nil];exact K⟩
theorem VrX.nil {h h':Hp} {k d:Int} (l:h.le h'):VrX h h' ⟨none,0,0⟩ ⟨none,0,0⟩ ⟨none,0,0⟩ ⟨k,d, [],jH⟩:=VrX.ofTr (TrX.nil l)
theorem VrX.add {g h h':Hp} {L:List (Nat×Blk)} {sS sI sN:Sl} {p:Gg} (t:VrX h h' sS sI sN p) (K:Kn g h L):
  ∃XS XI XN,ll XS sS 1 ((VL (p.tr.map Prod.fst)).map I)/\ll XI sI 1 ((VL (p.tr.map Prod.snd)).map I)/\ll XN sN 3 (cQ p.bd.ns)/\Kn g h' (L++(XS++(XI++XN))):=by
 obtain⟨XS,XI,XN,oS,oI,oN,K'⟩:=t
 exact⟨XS,XI,XN,oS,oI,oN,K.app K'.le K'.new K'.mem K'.nd⟩
def VrS (h:Hp) (sS sI sN:Sl) (p:Gg):Prop:=IntS h sS (VL (p.tr.map Prod.fst))/\IntS h sI (VL (p.tr.map Prod.snd))/\SlC h sN 3 (cQ p.bd.ns)
theorem VrS.mono {h h':Hp} {sS sI sN:Sl} {p:Gg} (l:h.le h') (t:VrS h sS sI sN p):VrS h' sS sI sN p:=⟨t.1.mono l,t.2.1.mono l,t.2.2.mono l⟩
abbrev rdC (s:Sl) (p:Nat):Blk:= .inl ⟨[s.v,I p],2,false⟩
theorem TF {g h:Hp} {L L':List (Nat×Blk)} {B p:Nat} {s:Sl} {bs:List Nat} {n:Int} {R:Value->Hp->Prop} (K:Kn g h L) (hb:ByteS g s bs) (u:Upd L B (rdC s p) (rdC s (p+1)) L') (hp:p<=1000000) (hn:n<=1000000000)
  (k: ∀(x:Nat) h',Kn g h' L'->(1<=n->(x:Int)<n)->(n<1->x=0)->R (I x) h'):aj #[.pointer (some ⟨B,0,none⟩),I n] h R:=
 Ea ⟨K.at u.mem,hb.mono (xy (K.new (B,_) u.mem) K.le)⟩ (by omega) hn fun x h1 h2=>k x _ (K.set u) h1 h2
theorem kp_ {P Q:Prop} (k:Q) (h:Q->P:=by((with_reducible apply TF);(assumption);(assumption);(((focus ((repeat first|exact .head|apply Upd.tail);done))));(omega);(omega))):P:=h k
def MG (X:List (Nat×Blk)) (M:MSl) (m:ah):Prop:=
 ∃XN XI XE XB XH,X=XN++(XI++(XE++(XB++(XH++ []))))/\bW XN M.no 9 (m.nodes.flatMap nodeCells)/\bW XI M.ini 2 (m.inits.flatMap bindCells)/\bW XE M.nex 2 (m.nexts.flatMap bindCells)/\
  bW XB M.bad 1 (m.bads.map I)/\bW XH M.hol 1 (m.holds.map I)
abbrev noM :MSl:=⟨⟨none,0,0⟩,⟨none,0,0⟩,⟨none,0,0⟩,⟨none,0,0⟩,⟨none,0,0⟩⟩
abbrev noP :ah:=⟨[], [], [], [], []⟩
theorem MG.nil :MG [] noM noP:=⟨[], [], [], [], [],rfl,cw 9,cw 2,cw 2,cw 1,cw 1⟩
section
variable {g h:Hp} {A X:List (Nat×Blk)} {M:MSl} {m:ah}
theorem bW.slcOf {X:List (Nat×Blk)} {s:Sl} {sz:Nat} {cs:List Value} (o:bW X s sz cs) (hn:s.n<=9223372036854775807) (m: ∀e∈X,h e.1=some e.2):SlC h s sz cs:=(o.buf m).slc_of hn
theorem MG.lens (o:MG X M m):M.no.n=m.nodes.length/\M.ini.n=m.inits.length/\M.nex.n=m.nexts.length/\M.bad.n=m.bads.length/\M.hol.n=m.holds.length/\M.no.n<=M.no.c:=by
 obtain⟨XN,XI,XE,XB,XH,_,a,b,c,d,e⟩:=o
 have h1:=a.1;have h2:=b.1;have h3:=c.1;have h4:=d.1;have h5:=e.1;have h6:=a.2.1
 rw [cf (m:=9) (fun _=>rfl)]at h1
 rw [cf (m:=2) (fun _=>rfl)]at h2 h3
 rw [List.length_map]at h4 h5
 omega
theorem MG.blk (o:MG X M m) (hn:0<m.nodes.length): ∃b x,M.no.a=some ⟨b,0,none⟩/\(b,x)∈X:=by
 have hl:=o.lens
 obtain⟨XN,XI,XE,XB,XH,rfl,a,_⟩:=o
 rcases a.2.2 with ⟨_,h0,_⟩|⟨b,ha,rfl⟩
 ·rw [h0]at hl;have:=hl.1;dsimp only at this;omega
 ·exact⟨b,_,ha,List.mem_append_left _ (.head _)⟩
theorem MG.modelS (o:MG X M m) (hm:bM m) (K:Kn g h (A++X)):aM h M m:=by
 have hl:=o.lens
 have hm':=hm.nodes;have h2:=hm.inits;have h3:=hm.nexts;have h4:=hm.bads;have h5:=hm.holds
 obtain⟨XN,XI,XE,XB,XH,rfl,a,b,c,d,e⟩:=o
 have mem: ∀x∈XN++(XI++(XE++(XB++(XH++ [])))),h x.1=some x.2:=fun x hx=>K.mem x (List.mem_append_right _ hx)
 refine⟨a.slcOf (by omega) fun x hx=>mem x (by simp [hx]),b.slcOf (by omega) fun x hx=>mem x (by simp [hx]),c.slcOf (by omega) fun x hx=>mem x (by simp [hx]),
  d.slcOf (by omega) fun x hx=>mem x (by simp [hx]),e.slcOf (by omega) fun x hx=>mem x (by simp [hx]),hl.2.2.2.2.2⟩
theorem MG.appN {b:Nat} {n:NodeP} {C:Option Addr->Nat->Nat->Hp->Prop} (o:MG X M m) (K:Kn g h (A++X)) (hm:m.nodes.length<=100000) (f:h b=some (.inl ⟨nodeCells n,9,false⟩))
  (k: ∀s' X' h',MG X' {M with no:=s'} {m with nodes:=m.nodes++ [n]}->Kn g h' (A++X')->C s'.a s'.n s'.c h'):cm h M.no.a M.no.n M.no.c (some ⟨b,0,none⟩) 1 9 80 C:=by
 have hl:=o.lens
 obtain⟨XN,XI,XE,XB,XH,rfl,a,b',c,d,e⟩:=o
 refine Kn.growIn K a (by omega) (by omega) (by omega) ⟨b,0,rfl,au f⟩ rfl rfl fun s' X' h' hn a' K' _=>?_
 exact k s' _ h' ⟨X',XI,XE,XB,XH,rfl,by rw [List.flatMap_append];exact a',b',c,d,e⟩ K'
theorem MG.appI {b:Nat} {n:BindP} {C:Option Addr->Nat->Nat->Hp->Prop} (o:MG X M m) (K:Kn g h (A++X)) (hm:m.inits.length<=100000) (f:h b=some (.inl ⟨bindCells n,2,false⟩))
  (k: ∀s' X' h',MG X' {M with ini:=s'} {m with inits:=m.inits++ [n]}->Kn g h' (A++X')->C s'.a s'.n s'.c h'):cm h M.ini.a M.ini.n M.ini.c (some ⟨b,0,none⟩) 1 2 16 C:=by
 have hl:=o.lens
 obtain⟨XN,XI,XE,XB,XH,rfl,a,b',c,d,e⟩:=o
 refine Kn.growIn2 K b' (by omega) (by omega) (by omega) ⟨b,0,rfl,au f⟩ rfl rfl fun s' X' h' hn a' K' _=>?_
 exact k s' _ h' ⟨XN,X',XE,XB,XH,rfl,a,by rw [List.flatMap_append];exact a',c,d,e⟩ K'
theorem MG.appE {b:Nat} {n:BindP} {C:Option Addr->Nat->Nat->Hp->Prop} (o:MG X M m) (K:Kn g h (A++X)) (hm:m.nexts.length<=100000) (f:h b=some (.inl ⟨bindCells n,2,false⟩))
  (k: ∀s' X' h',MG X' {M with nex:=s'} {m with nexts:=m.nexts++ [n]}->Kn g h' (A++X')->C s'.a s'.n s'.c h'):cm h M.nex.a M.nex.n M.nex.c (some ⟨b,0,none⟩) 1 2 16 C:=by
 have hl:=o.lens
 obtain⟨XN,XI,XE,XB,XH,rfl,a,b',c,d,e⟩:=o
 refine Kn.growIn3 K c (by omega) (by omega) (by omega) ⟨b,0,rfl,au f⟩ rfl rfl fun s' X' h' hn a' K' _=>?_
 exact k s' _ h' ⟨XN,XI,X',XB,XH,rfl,a,b',by rw [List.flatMap_append];exact a',d,e⟩ K'
theorem MG.appB {b:Nat} {n:Int} {C:Option Addr->Nat->Nat->Hp->Prop} (o:MG X M m) (K:Kn g h (A++X)) (hm:m.bads.length<=100000) (f:h b=some (.inl ⟨[I n],1,false⟩))
  (k: ∀s' X' h',MG X' {M with bad:=s'} {m with bads:=m.bads++ [n]}->Kn g h' (A++X')->C s'.a s'.n s'.c h'):cm h M.bad.a M.bad.n M.bad.c (some ⟨b,0,none⟩) 1 1 8 C:=by
 have hl:=o.lens
 obtain⟨XN,XI,XE,XB,XH,rfl,a,b',c,d,e⟩:=o
 have sw: ∀Z:List (Nat×Blk),A++(XN++(XI++(XE++(Z++(XH++ [])))))=(A++(XN++XI))++(XE++(Z++(XH++ []))):=fun Z=>by simp
 rw [sw]at K
 refine Kn.growIn2 K d (by omega) (by omega) (by omega) ⟨b,0,rfl,au f⟩ rfl rfl fun s' X' h' hn a' K' _=>?_
 rw [<-sw]at K'
 exact k s' _ h' ⟨XN,XI,XE,X',XH,rfl,a,b',c,by rw [List.map_append];exact a',e⟩ K'
theorem MG.appH {b:Nat} {n:Int} {C:Option Addr->Nat->Nat->Hp->Prop} (o:MG X M m) (K:Kn g h (A++X)) (hm:m.holds.length<=100000) (f:h b=some (.inl ⟨[I n],1,false⟩))
  (k: ∀s' X' h',MG X' {M with hol:=s'} {m with holds:=m.holds++ [n]}->Kn g h' (A++X')->C s'.a s'.n s'.c h'):cm h M.hol.a M.hol.n M.hol.c (some ⟨b,0,none⟩) 1 1 8 C:=by
 have hl:=o.lens
 obtain⟨XN,XI,XE,XB,XH,rfl,a,b',c,d,e⟩:=o
 have sw: ∀Z:List (Nat×Blk),A++(XN++(XI++(XE++(XB++(Z++ [])))))=(A++(XN++XI))++(XE++(XB++(Z++ []))):=fun Z=>by simp
 rw [sw]at K
 refine Kn.growIn3 K e (by omega) (by omega) (by omega) ⟨b,0,rfl,au f⟩ rfl rfl fun s' X' h' hn a' K' _=>?_
 rw [<-sw]at K'
 exact k s' _ h' ⟨XN,XI,XE,XB,X',rfl,a,b',c,d,by rw [List.map_append];exact a'⟩ K'
end
structure DM (m:ah) (N:Nat):Prop where
 nodes:m.nodes.length<=N
 sorts: ∀n∈m.nodes,bO n.sort=true
 names: ∀n∈m.nodes,n.name.size<=100
 inits:m.inits.length<=N
 nexts:m.nexts.length<=N
 bads:m.bads.length<=N
 holds:m.holds.length<=N
theorem DM.small {m:ah} {N:Nat} (d:DM m N) (hN:N<=100000):bM m:=
 ⟨by have:=d.nodes;omega,by have:=d.inits;omega,by have:=d.nexts;omega,by have:=d.bads;omega,by have:=d.holds;omega,fun n hn=>by have:=d.names n hn;omega⟩
theorem DM.more {m:ah} {N N':Nat} (d:DM m N) (h:N<=N'):DM m N':=
 ⟨Nat.le_trans d.nodes h,d.sorts,d.names,Nat.le_trans d.inits h,Nat.le_trans d.nexts h,Nat.le_trans d.bads h,Nat.le_trans d.holds h⟩
theorem DM.addN {m:ah} {N:Nat} (d:DM m N) {n:NodeP} (h1:bO n.sort=true) (h2:n.name.size<=100):DM {m with nodes:=m.nodes++ [n]} (N+1):=
 ⟨by have:=d.nodes;simp;omega,fun x hx=>by rcases List.mem_append.1 hx with hx|hx;exact d.sorts x hx;rw [List.mem_singleton.1 hx];exact h1,
  fun x hx=>by rcases List.mem_append.1 hx with hx|hx;exact d.names x hx;rw [List.mem_singleton.1 hx];exact h2,
  by have:=d.inits;dsimp only;omega,by have:=d.nexts;dsimp only;omega,by have:=d.bads;dsimp only;omega,by have:=d.holds;dsimp only;omega⟩
theorem Kn.tl {g h:Hp} {L:List (Nat×Blk)} {e:Nat×Blk} (K:Kn g h (e::L)):Kn g h L:=K.sub (fun x hx=> .tail _ hx) (by have:=K.nd;rw [List.map_cons,List.nodup_cons]at this;exact this.2)
theorem Kn.sw {g h:Hp} {L:List (Nat×Blk)} {a b:Nat×Blk} (K:Kn g h (a::b::L)):Kn g h (b::a::L):=K.perm (List.Perm.swap ..)
theorem th {m:ah} {N:Nat} (d:DM m N) {i:Nat} {n:NodeP} (h:m.nodes[i]?=some n):bO n.sort=true:=d.sorts n (List.mem_of_getElem? h)
theorem mv {s:SortP} (h:bO s=true):(0<=s.idx/\s.idx<=2)/\1<=s.wid/\s.wid<=16:=of_decide_eq_true h
theorem pd {w:Int} (h1:1<=w) (h2:w<=16):bO (cP w)=true:=decide_eq_true ⟨by simp [cP],h1,h2⟩
theorem Upd.mem2 {L L':List (Nat×Blk)} {b:Nat} {x y:Blk} (u:Upd L b x y L'):(b,y)∈L':=by
 induction u with
 |head=>exact .head _
 |tail _ ih=>exact .tail _ ih
section
variable {g h:Hp} {L L':List (Nat×Blk)} {b:Nat} {M M':MSl}
abbrev dT :List Value:= [.slice none 0 0, .slice none 0 0, .slice none 0 0, .slice none 0 0, .slice none 0 0]
theorem vp {cs:List Value} {Q:Hp->Prop} (K:Kn g h L) (u:Upd L b (.inl ⟨cs,5,false⟩) (.inl ⟨aG M',5,false⟩) L') (hl:cs.length=5) (k: ∀h',Kn g h' L'->Q h'):
  ∃(cs:List Value) (z:Nat),h b=some (.inl ⟨cs,z,false⟩)/\0+5<=List.length cs/\cJ (h.row b (ce cs 0 (aG M')) z) fun h'=>Q h':=by
 have e:ce cs 0 (aG M')=aG M':=by
  match cs,hl with
  | [_,_,_,_,_],_=>rfl
 exact Kn.wr (cs:=cs) (z:=5) (o:=0) (vs:=aG M') K (L':=L') (by rw [e];exact u) (by omega) fun h' K' _=>k h' K'
theorem EO {Q:Sl->Sl->Sl->Sl->Sl->Hp->Prop} (K:Kn g h L) (u:Upd L b (.inl ⟨dT,5,false⟩) (.inl ⟨aG M,5,false⟩) L') (k: ∀h',Kn g h' L'->Q M.no M.ini M.nex M.bad M.hol h'):
  ∃(cs:List Value) (z:Nat),h b=some (.inl ⟨cs,z,false⟩)/\0+5<=List.length cs/\cJ (h.row b (ce cs 0 (aG M)) z) fun h'=> ∃s1:Sl,Hp.cell h' b 0=some s1.v/\ ∃s2:Sl,Hp.cell h' b 1=some s2.v/\
   ∃s3:Sl,Hp.cell h' b 2=some s3.v/\ ∃s4:Sl,Hp.cell h' b 3=some s4.v/\ ∃s5:Sl,Hp.cell h' b 4=some s5.v/\Q s1 s2 s3 s4 s5 h':=by
 refine vp K u rfl fun h' K'=>?_
 have hm:=u.mem2
 have c:=fun o=>av (K'.at hm) o
 exact⟨_,c 0,_,c 1,_,c 2,_,c 3,_,c 4,k h' K'⟩
end
theorem A9 {α:Type} (a b c d e:α) (L:List α):(a::b::c::d::e::L).Perm (e::a::b::c::d::L):=by
 refine((List.Perm.cons a ((List.Perm.cons b ((List.Perm.cons c (List.Perm.swap e d L)).trans (List.Perm.swap e c _))).trans (List.Perm.swap e b _))).trans (List.Perm.swap e a _))
theorem Upd.app {L L' X:List (Nat×Blk)} {b:Nat} {x y:Blk} (u:Upd L b x y L'):Upd (L++X) b x y (L'++X):=by
 induction u with
 |head=>exact .head
 |tail _ ih=>exact .tail ih
theorem mK {g h:Hp} {H X:List (Nat×Blk)} {b bn:Nat} {M:MSl} {m:ah} {nd:NodeP} {J:Hp->Prop} (o:MG X M m) (K:Kn g h ((bn, .inl ⟨nodeCells nd,9,false⟩)::(H++X))) (hm:m.nodes.length<=10000) (hb:(b, .inl ⟨aG M,5,false⟩)∈H)
  (k: ∀s' X' h',MG X' {M with no:=s'} {m with nodes:=m.nodes++ [nd]}->(∀H',Upd H b (.inl ⟨aG M,5,false⟩) (.inl ⟨aG {M with no:=s'},5,false⟩) H'->Kn g h' (H'++X'))->J h'):
  cm h M.no.a M.no.n M.no.c (some ⟨bn,0,none⟩) 1 9 80 fun a n c h95=> ∃(cs:List Value) (z:Nat),h95 b=some (.inl ⟨cs,z,false⟩)/\0+1<=List.length cs/\cJ (h95.row b (ce cs 0 [.slice a n c]) z) fun h'=>J h':=by
 refine MG.appN (A:=_::H) (n:=nd) o K (by omega) (K.at (.head _)) fun s' X' h7 o' K7=>?_
 rw [List.cons_append]at K7
 have f:=K7.at (.tail _ (List.mem_append_left _ hb))
 exact⟨_,_,f,by simp,k s' X' _ o' fun H' u=>(K7.tl).set (u.app (X:=X'))⟩
set_option maxHeartbeats 1000000 in
theorem wE {g h:Hp} {A X:List (Nat×Blk)} {B p N:Nat} {s:Sl} {bs:List Nat} {M:MSl} {m:ah} {st:SortP} {R:Value->Hp->Prop} (K:Kn g h ((B,rdC s p)::(A++X))) (hb:ByteS g s bs) (o:MG X M m) (d:DM m N) (hN:N<=10000)
  (hne:0<m.nodes.length) (hp:p<=900000) (hst:bO st=true)
  (k: ∀h' p' X' M' m' (i:Nat),Kn g h' ((B,rdC s p')::(A++X'))->MG X' M' m'->DM m' (N+1)->i<m'.nodes.length->m.nodes.length<=m'.nodes.length->p'<=p+2->R (.tuple #[aN M',I i]) h'):
  fX #[.pointer (some ⟨B,0,none⟩),aN M,wP st] h R:=by
 apply F6
 refine uf_ ?_
 obtain⟨_,hw1,hw2⟩:=mv hst
 have hl:=o.lens
 have hsm:=d.small (by omega)
 have hdn:=d.nodes
 refine Kn.al K fun b10 h1 K1 l1 hb10=>?_
 refine Kn.al K1 fun b12 h2 K2 l2 hb12=>?_
 refine Kn.al K2 fun b14 h3 K3 l3 hb14=>?_
 clear K K1 K2 l1 l2 l3 hb10 hb12 hb14
 (refine kr_ ?_)
 refine kp_ ?_
 intro x h4 K4 hx _
 refine⟨_,rfl,?_⟩
 replace hx:x<m.nodes.length:=by have:=hx (by omega);omega
 clear K3 h3 h2 h1 h
 have hs:=o.modelS (A:=_::_::_::_::A) hsm K4
 refine ar m.nodes.length (fun i vs h'=>vs= [.pointer (some ⟨B,0,none⟩), .pointer (some ⟨b10,0,none⟩), .pointer (some ⟨b12,0,none⟩), .pointer (some ⟨b14,0,none⟩),I x,I i]/\h4=h') ⟨rfl,rfl⟩ ?_
 rintro i _ _ nxt hi ⟨rfl,rfl⟩ hnx
 refine⟨_,b10,0,b12,0,b14,0,_,_,rfl,?_⟩
 (refine kr_ ?_)
 have same: ∀q:Nat,q<m.nodes.length-> ∃(cs:List Value) (z:Nat),h4 b14=some (.inl ⟨cs,z,false⟩)/\0+5<=List.length cs/\cJ (h4.row b14 (ce cs 0 (aG M)) z) fun h58=> ∃s59:Sl,Hp.cell h58 b14 0=some s59.v/\ ∃s60:Sl,Hp.cell h58 b14 (0+1)=some s60.v/\
   ∃s61:Sl,Hp.cell h58 b14 (0+2)=some s61.v/\ ∃s62:Sl,Hp.cell h58 b14 (0+3)=some s62.v/\ ∃s63:Sl,Hp.cell h58 b14 (0+4)=some s63.v/\R (.tuple #[.agg #[s59.v,s60.v,s61.v,s62.v,s63.v],I q]) h58:=by
  intro q hq
  refine kw_ ?_
  intro h5 K5 _
  have K5':Kn g h5 ((b14, .inl ⟨aG M,5,false⟩)::(b12, .inl ⟨[I st.idx,I st.wid],2,false⟩)::(b10, .inl ⟨aG M,5,false⟩)::(B,rdC s (p+1))::(A++X)):=K5
  clear K5 K4
  repeat' (refine kr_ ?_)
  exact k h5 (p+1) X M m q K5'.tl.tl.tl o (d.more (by omega)) hq (Nat.le_refl _) (by omega)
 by_cases hlt:i<m.nodes.length
 ·refine aL (by rw [decide_eq_true_eq];omega) ?_
  (refine kr_ ?_)
  rw [if_neg (by omega)]
  (refine kr_ ?_)
  have hq:(x+i)%m.nodes.length<m.nodes.length:=Nat.mod_lt _ hne
  rw [<-Int.natCast_add,fu (by omega),show ((M.no.n:Nat):Int)=(m.nodes.length:Nat) by omega,eh]
  generalize (x+i)%m.nodes.length=q at*
  obtain⟨n,hni⟩: ∃n,m.nodes[q]?=some n:=⟨_,List.getElem?_eq_getElem hq⟩
  obtain⟨b,oo,ha,e0,e1,e2,e3,e4,e5,e6,e7,e8⟩:=hs.nodes.at hni
  rw [Int.toNat_natCast]
  refine⟨b,oo,ha,by omega,by omega,_,e6,_,e7,?_⟩
  (refine kr_ ?_)
  (refine kr_ ?_)
  refine ad (fun e=>?_) (fun e=>?_)
  ·repeat' (refine kr_ ?_)
   exact same q hq
  ·rw [aw (by omega)]
   exact hnx hlt _ _ ⟨rfl,rfl⟩
 refine aA (by rw [decide_eq_false_iff_not];omega) ?_
 clear hnx hlt hi
 (refine kr_ ?_)
 refine ad (fun e=>?_) (fun e=>?_)
 ·repeat' (refine kr_ ?_)
  exact same 0 hne
 have e':=of_decide_eq_false e
 have hi0:st.idx=0:=by have:=(mv hst).1;omega
 clear same hs
 refine aq (fun J=> ∀h5 X' s' p' nd,nd.sort=st->nd.name.size=0->MG X' {M with no:=s'} {m with nodes:=m.nodes++ [nd]}->Kn g h5 ((b14, .inl ⟨[.slice none 0 0, .slice none 0 0, .slice none 0 0, .slice none 0 0, .slice none 0 0],5,false⟩)::(b12, .inl ⟨[I st.idx,I st.wid],2,false⟩)::
  (b10, .inl ⟨aG {M with no:=s'},5,false⟩)::(B,rdC s p')::(A++X'))->p'<=p+2->J h5) (fun h5 X' s' p' nd hs1 hs2 o' K5 hp'=>?_) (fun J hJ=>?_)
 ·have hl':=o'.lens
  repeat' (refine kr_ ?_)
  refine kw_ ?_
  intro h6 K6 kp6
  have K6':Kn g h6 ((b14, .inl ⟨aG {M with no:=s'},5,false⟩)::(b12, .inl ⟨[I st.idx,I st.wid],2,false⟩)::(b10, .inl ⟨aG {M with no:=s'},5,false⟩)::(B,rdC s p')::(A++X')):=K6
  repeat' (refine kr_ ?_)
  clear K5 K6 K4
  repeat' (refine kr_ ?_)
  rw [show W ((s'.n:Int)-1)=(m.nodes.length:Nat) by
   have h1:=hl'.1
   simp at h1
   rw [bQ (by omega) (by omega)];omega]
  exact k h6 p' X' _ _ m.nodes.length K6'.tl.tl.tl o' (d.addN (by rw [hs1];exact hst) (by omega)) (by simp) (by simp) hp'
 obtain⟨w,hw⟩: ∃w:Nat,st.wid=w:=⟨st.wid.toNat,by omega⟩
 have hp2:0<2^w:=Nat.two_pow_pos w
 have fin: ∀(y:Nat) (h5 h6:Hp) (q b:Nat),q<=p+2->Kn g h5 ((b14, .inl ⟨[.slice none 0 0, .slice none 0 0, .slice none 0 0, .slice none 0 0, .slice none 0 0],5,false⟩)::(b12, .inl ⟨[I st.idx,I st.wid],2,false⟩)::(b10, .inl ⟨aG M,5,false⟩)::(B,rdC s q)::(A++X))->
   Kn g h6 ((b, .inl ⟨[I 34,I 0,I 0,I 0,I (Int.tmod y (2^w:Nat)),I 0,I st.idx,I st.wid, .string ⟨#[]⟩],9,false⟩)::(b14, .inl ⟨[.slice none 0 0, .slice none 0 0, .slice none 0 0, .slice none 0 0, .slice none 0 0],5,false⟩)::(b12, .inl ⟨[I st.idx,I st.wid],2,false⟩)::(b10, .inl ⟨aG M,5,false⟩)::(B,rdC s q)::(A++X))->
   cm h6 M.no.a M.no.n M.no.c (some (Addr.mk b 0 none)) 1 9 80 fun a92 n93 k94 h95=> ∃(cs96:List Value) (z97:Nat),h95 b10=some (.inl ⟨cs96,z97,false⟩)/\0+1<=List.length cs96/\cJ (h95.row b10 (ce cs96 0 [(.slice a92 n93 k94)]) z97) fun h98=>J h98:=by
  intro y h5 h6 q b hq K5 K6
  refine MG.appN (A:=_::_::_::_::_::A) (n:=⟨34,0,0,0,Int.tmod y (2^w:Nat),0,st,⟨#[]⟩⟩) o K6 (by omega) (K6.at (.head _)) fun s' X' h7 o' K7=>?_
  simp only [List.cons_append]at K7
  clear K6 K5 K4
  refine kw_ ?_
  intro h8 K8 _
  exact hJ h8 X' s' q _ rfl rfl o' K8.tl hq
 repeat' (refine kr_ ?_)
 refine⟨?_,?_⟩
 ·refine kp_ ?_
  intro y h5 K5 hy _
  refine⟨_,rfl,?_⟩
  repeat' (refine kr_ ?_)
  rw [hw,cR (by omega),if_neg (by omega),ck (by omega),if_neg (by omega),<-hw]
  refine Kn.al K5 fun b90 h6 K6 l6 hb90=>?_
  (refine kr_ ?_)
  exact fin y h5 h6 (p+2) b90 (Nat.le_refl _) K5 K6
 ·repeat' (refine kr_ ?_)
  rw [hw,cR (by omega),if_neg (by omega),ck (by omega),<-hw]
  refine kp_ ?_
  intro y h5 K5 hy _
  refine⟨_,rfl,?_⟩
  repeat' (refine kr_ ?_)
  rw [if_neg (by omega)]
  refine Kn.al K5 fun b90 h6 K6 l6 hb90=>?_
  (refine kr_ ?_)
  exact fin y h5 h6 (p+2) b90 (Nat.le_refl _) K5 K6
set_option maxHeartbeats 1000000 in
theorem LJ {g h:Hp} {A X:List (Nat×Blk)} {B p N:Nat} {s:Sl} {bs:List Nat} {M:MSl} {m:ah} {R:Value->Hp->Prop} (K:Kn g h ((B,rdC s p)::(A++X))) (hb:ByteS g s bs) (o:MG X M m) (d:DM m N) (hN:N<=1000)
  (hne:0<m.nodes.length) (hp:p<=800000)
  (k: ∀h' p' X' M' m' (i:Nat),Kn g h' ((B,rdC s p')::(A++X'))->MG X' M' m'->DM m' (N+3)->i<m'.nodes.length->m.nodes.length<=m'.nodes.length->p'<=p+2*N+10->R (.tuple #[aN M',I i]) h'):
  mw #[.pointer (some ⟨B,0,none⟩),aN M] h R:=by
 apply D1
 refine uf_ ?_
 have hl:=o.lens
 have hsm:=d.small (by omega)
 have hdn:=d.nodes
 refine Kn.al K fun b8 h1 K1 l1 hb8=>?_
 refine Kn.al K1 fun b10 h2 K2 l2 hb10=>?_
 clear K K1 l1 l2 hb8 hb10
 (refine kr_ ?_)
 rw [show W ((M.no.n:Int)-1)=(m.nodes.length:Int)-1 by rw [bQ (by omega) (by omega)];omega]
 refine mz m.nodes.length (fun i vs h'=>vs= [.pointer (some ⟨B,0,none⟩), .pointer (some ⟨b8,0,none⟩), .pointer (some ⟨b10,0,none⟩),I ((i:Int)-1)]/\i<=m.nodes.length/\
  ∃q,q+i<=p+m.nodes.length/\Kn g h' ((b10, .inl ⟨dT,5,false⟩)::(b8, .inl ⟨aG M,5,false⟩)::(B,rdC s q)::(A++X))) ⟨rfl,Nat.le_refl _,p,Nat.le_refl _,K2⟩ ?_
 clear K2 h1 h2 h
 rintro i _ h4 nxt ⟨rfl,hi,q,hq,K4⟩ hnx
 refine⟨_,b8,0,b10,0,_,rfl,?_⟩
 have hs:=o.modelS (A:=_::_::_::A) hsm K4
 cases i with
 |succ i=>
  rw [show (((i+1:Nat):Int)-1)=(i:Nat) by omega]
  refine aL (by rw [decide_eq_true_eq];omega) ?_
  refine aq (fun J=> ∀c h5 q,q+i<=p+m.nodes.length->Kn g h5 ((b10, .inl ⟨dT,5,false⟩)::(b8, .inl ⟨aG M,5,false⟩)::(B,rdC s q)::(A++X))->J c h5) (fun c h5 q' hq' K5=>?_) (fun J hJ=>?_)
  ·refine ad (fun e=>?_) (fun e=>?_)
   ·clear K4
    repeat' (refine kr_ ?_)
    refine EO K5 (by((focus ((repeat first|exact .head|apply Upd.tail);done)))) fun h6 K6=>?_
    exact k h6 q' X M m i K6.tl.tl o (d.more (by omega)) (by omega) (Nat.le_refl _) (by omega)
   ·rw [bQ (by omega) (by omega)]
    exact hnx i (by omega) _ _ ⟨rfl,by omega,q',hq',K5⟩
  ·(refine kr_ ?_)
   obtain⟨n,hni⟩: ∃n,m.nodes[i]?=some n:=⟨_,List.getElem?_eq_getElem (by omega)⟩
   obtain⟨b,oo,ha,e0,e1,e2,e3,e4,e5,e6,e7,e8⟩:=hs.nodes.at hni
   refine⟨b,oo,ha,by omega,by omega,_,by rw [Int.toNat_natCast];exact e6,_,by rw [Int.toNat_natCast];exact e7,?_⟩
   refine cd ⟨_,_,rfl,?_⟩
   repeat' (refine kr_ ?_)
   refine ad (fun e=>?_) (fun e=>?_)
   ·(refine kr_ ?_)
    refine⟨b,oo,ha,by omega,by omega,_,by rw [Int.toNat_natCast];exact e0,?_⟩
    refine ad (fun e=>?_) (fun e=>?_)
    ·refine kp_ ?_
     intro x h5 K5 hx _
     exact⟨_,rfl,hJ _ h5 (q+1) (by omega) K5⟩
    ·exact hJ _ h4 q (by omega) K4
   ·exact hJ _ h4 q (by omega) K4
 |zero=>
 refine aA (by rw [decide_eq_false_iff_not];omega) ?_
 clear hnx
 refine ar m.nodes.length (fun i vs h'=> ∃(a q:Nat),vs= [.pointer (some ⟨B,0,none⟩), .pointer (some ⟨b8,0,none⟩), .pointer (some ⟨b10,0,none⟩),I a,I i]/\a<m.nodes.length/\
  q<=p+m.nodes.length+i/\Kn g h' ((b10, .inl ⟨dT,5,false⟩)::(b8, .inl ⟨aG M,5,false⟩)::(B,rdC s q)::(A++X))) ⟨0,q,rfl,hne,by omega,K4⟩ ?_
 clear K4 hq hs h4 hi q
 rintro i _ h4 nxt hi ⟨a,q,rfl,ha',hq,K4⟩ hnx
 refine⟨_,b8,0,b10,0,_,_,rfl,?_⟩
 have hs:=o.modelS (A:=_::_::_::A) hsm K4
 (refine kr_ ?_)
 obtain⟨na,hna⟩: ∃n,m.nodes[a]?=some n:=⟨_,List.getElem?_eq_getElem ha'⟩
 by_cases hlt:i<m.nodes.length
 ·refine aL (by rw [decide_eq_true_eq];omega) ?_
  refine aq (fun J=> ∀(c:Nat) h5 q,c<m.nodes.length->q<=p+m.nodes.length+(i+1)->Kn g h5 ((b10, .inl ⟨dT,5,false⟩)::(b8, .inl ⟨aG M,5,false⟩)::(B,rdC s q)::(A++X))->J (c:Int) h5) (fun c h5 q' hc hq' K5=>?_) (fun J hJ=>?_)
  ·rw [aw (by omega)]
   exact hnx hlt _ _ ⟨c,q',rfl,hc,hq',K5⟩
  ·(refine kr_ ?_)
   obtain⟨n,hni⟩: ∃n,m.nodes[i]?=some n:=⟨_,List.getElem?_eq_getElem hlt⟩
   obtain⟨b,oo,ha,e0,_⟩:=hs.nodes.at hni
   refine⟨b,oo,ha,by omega,by omega,_,by rw [Int.toNat_natCast];exact e0,?_⟩
   refine ad (fun e=>?_) (fun e=>?_)
   ·(refine kr_ ?_)
    obtain⟨b,oo,ha,e0,_⟩:=hs.nodes.at hna
    refine⟨b,oo,ha,by omega,by omega,_,by rw [Int.toNat_natCast];exact e0,?_⟩
    refine ad (fun e=>?_) (fun e=>?_)
    ·exact hJ i h4 q hlt (by omega) K4
    ·refine kp_ ?_
     intro x h5 K5 hx _
     refine⟨_,rfl,ad (fun e=>?_) (fun e=>?_)⟩
     ·exact hJ i h5 _ hlt (by omega) K5
     ·exact hJ a h5 _ ha' (by omega) K5
   ·exact hJ a h4 q ha' (by omega) K4
 refine aA (by rw [decide_eq_false_iff_not];omega) ?_
 clear hnx
 repeat' (refine kr_ ?_)
 obtain⟨b,oo,ha,e0,e1,e2,e3,e4,e5,e6,e7,e8⟩:=hs.nodes.at hna
 refine⟨b,oo,ha,by omega,by omega,_,by rw [Int.toNat_natCast];exact e6,_,by rw [Int.toNat_natCast];exact e7,?_⟩
 refine wE (p:=q) (A:=(b10, .inl ⟨dT,5,false⟩)::(b8, .inl ⟨aG M,5,false⟩)::A) (st:=na.sort) (K4.perm ?_) hb o d (by omega) hne (by omega) (th d hna) fun h5 q5 X5 M5 m5 i5 K5 o5 d5 hi5 hl5 hq5=>⟨_,_,_,_,_,_,rfl,?_⟩
 ·exact(List.Perm.cons _ (List.Perm.swap ..)).trans (List.Perm.swap ..)
 have K5':Kn g h5 ((b10, .inl ⟨dT,5,false⟩)::(b8, .inl ⟨aG M,5,false⟩)::(B,rdC s q5)::(A++X5)):=K5.perm ((List.Perm.swap ..).trans (List.Perm.cons _ (List.Perm.swap ..)))
 clear K5 K4 hs e0 e1 e2 e3 e4 e5 e6 e7 e8 ha
 refine vp (M':=M5) K5' (by((focus ((repeat first|exact .head|apply Upd.tail);done)))) rfl fun h6 K6=>?_
 clear K5'
 have hl5':=o5.lens
 have hsm5:=d5.small (by omega)
 have hs6:=o5.modelS (A:=_::_::_::A) hsm5 K6
 obtain⟨nb,hnb⟩: ∃n,m5.nodes[a]?=some n:=⟨_,List.getElem?_eq_getElem (by omega)⟩
 refine aq (fun J=> ∀c,J c) (fun c=>?_) (fun J hJ=>?_)
 rotate_left
 ·refine ad (fun e=>?_) (fun e=>hJ _)
  (refine kr_ ?_)
  obtain⟨b,oo,ha,e0,e1,e2,e3,e4,e5,e6,e7,e8⟩:=hs6.nodes.at hnb
  exact⟨b,oo,ha,by omega,by omega,_,by rw [Int.toNat_natCast];exact e6,hJ _⟩
 have d5n:=d5.nodes
 refine aq (fun J=> ∀(x:Nat) h7 q X7 M7 m7,MG X7 M7 m7->DM m7 (N+2)->x<m7.nodes.length->m5.nodes.length<=m7.nodes.length->q<=q5+1->Kn g h7 ((b10, .inl ⟨dT,5,false⟩)::(b8, .inl ⟨aG M7,5,false⟩)::(B,rdC s q)::(A++X7))->J (x:Int) h7)
  (fun x h7 q7 X7 M7 m7 o7 d7 hx7 hl7 hq7 K7=>?_) (fun J hJ=>?_)
 ·clear K6 hs6
  have hl7':=o7.lens
  have d7n:=d7.nodes
  (refine kr_ ?_)
  refine cd ⟨_,_,rfl,?_⟩
  repeat' (refine kr_ ?_)
  refine Kn.al K7 fun b173 h8 K8 l8 hb173=>?_
  repeat' (refine kr_ ?_)
  refine mK (H:=_::_::_::A) (nd:=⟨21,a,x,0,0,0,⟨0,1⟩,⟨#[]⟩⟩) o7 K8 (by omega) (.tail _ (.head _)) fun s' X9 h9 o9 KF=>?_
  have K9:=KF _ (by((focus ((repeat first|exact .head|apply Upd.tail);done))))
  simp only [List.cons_append]at K9
  clear KF K8 K7
  have hl9:=o9.lens
  repeat' (refine kr_ ?_)
  refine vp (M':={M7 with no:=s'}) K9 (by((focus ((repeat first|exact .head|apply Upd.tail);done)))) rfl fun h11 K11=>?_
  repeat' (refine kr_ ?_)
  rw [show W ((s'.n:Int)-1)=(m7.nodes.length:Nat) by
   have h1:=hl9.1
   simp at h1
   rw [bQ (by omega) (by omega)];omega]
  exact k h11 q7 X9 _ _ m7.nodes.length K11.tl.tl o9 (d7.addN rfl (show (0:Nat)<=100 by omega)) (by simp) (by simp;omega) (by omega)
 ·refine ad (fun e=>?_) (fun e=>?_)
  rotate_left
  ·exact hJ i5 h6 q5 X5 M5 m5 o5 (d5.more (by omega)) hi5 (Nat.le_refl _) (by omega) K6
  have hok:=th d5 hnb
  obtain⟨_,hw1,hw2⟩:=mv hok
  obtain⟨b,oo,ha,e0,e1,e2,e3,e4,e5,e6,e7,e8⟩:=hs6.nodes.at hnb
  obtain⟨bN,xN,haN,hmN⟩:=o5.blk (by omega)
  repeat' (refine kr_ ?_)
  refine⟨b,oo,ha,by omega,by omega,_,by rw [Int.toNat_natCast];exact e7,?_⟩
  repeat' (refine kr_ ?_)
  refine⟨b,oo,ha,by omega,by omega,_,by rw [Int.toNat_natCast];exact e6,_,by rw [Int.toNat_natCast];exact e7,?_⟩
  rw [haN]at ha
  cases ha
  obtain⟨w,hw⟩: ∃w:Nat,nb.sort.wid=w:=⟨nb.sort.wid.toNat,by omega⟩
  have hp2:0<2^w:=Nat.two_pow_pos w
  have fin: ∀(y:Nat) (h8:Hp) (b:Nat),Kn g h8 ((b, .inl ⟨[I 34,I 0,I 0,I 0,I (Int.tmod y (2^w:Nat)),I 0,I nb.sort.idx,I nb.sort.wid, .string ⟨#[]⟩],9,false⟩)::(b10, .inl ⟨dT,5,false⟩)::(b8, .inl ⟨aG M5,5,false⟩)::(B,rdC s (q5+1))::(A++X5))->
    cm h8 M5.no.a M5.no.n M5.no.c (some (Addr.mk b 0 none)) 1 9 80 fun a92 n93 k94 h95=> ∃(cs96:List Value) (z97:Nat),h95 b8=some (.inl ⟨cs96,z97,false⟩)/\0+1<=List.length cs96/\cJ (h95.row b8 (ce cs96 0 [(.slice a92 n93 k94)]) z97) fun h148=>
     ∃s150:Sl,Hp.cell h148 b8 0=some s150.v/\J (W ((s150.n:Int)-1)) h148:=by
   intro y h8 b K8
   refine mK (H:=_::_::_::A) (nd:=⟨34,0,0,0,Int.tmod y (2^w:Nat),0,nb.sort,⟨#[]⟩⟩) o5 K8 (by omega) (.tail _ (.head _)) fun s' X9 h9 o9 KF=>?_
   have K9:=KF _ (by((focus ((repeat first|exact .head|apply Upd.tail);done))))
   simp only [List.cons_append]at K9
   clear KF K8 K6
   have hl9:=o9.lens
   (refine kr_ ?_)
   rw [show W ((s'.n:Int)-1)=(m5.nodes.length:Nat) by
    have h1:=hl9.1
    simp at h1
    rw [bQ (by omega) (by omega)];omega]
   exact hJ m5.nodes.length h9 (q5+1) X9 _ _ o9 (d5.addN hok (show (0:Nat)<=100 by omega)) (by simp) (by simp) (by omega) K9
  refine⟨?_,?_⟩
  ·refine kp_ ?_
   intro y h7 K7 hy _
   refine⟨_,rfl,?_⟩
   have hq:h7 b=h6 b:=by rw [K7.at (.tail _ (.tail _ (.tail _ (List.mem_append_right _ hmN)))),K6.at (.tail _ (.tail _ (.tail _ (List.mem_append_right _ hmN))))]
   repeat' (first|(refine kr_ ?_)|refine And.intro hq ?_)
   rw [hw,cR (by omega),if_neg (by omega),ck (by omega),if_neg (by omega),<-hw]
   refine Kn.al K7 fun b90 h8 K8 l8 hb90=>?_
   (refine kr_ ?_)
   exact fin y h8 b90 K8
  ·repeat' (refine kr_ ?_)
   rw [hw,cR (by omega),if_neg (by omega),ck (by omega),<-hw]
   refine kp_ ?_
   intro y h7 K7 hy _
   refine⟨_,rfl,?_⟩
   have hq:h7 b=h6 b:=by rw [K7.at (.tail _ (.tail _ (.tail _ (List.mem_append_right _ hmN)))),K6.at (.tail _ (.tail _ (.tail _ (List.mem_append_right _ hmN))))]
   repeat' (first|(refine kr_ ?_)|refine And.intro hq ?_)
   rw [if_neg (by omega)]
   refine Kn.al K7 fun b90 h8 K8 l8 hb90=>?_
   (refine kr_ ?_)
   exact fin y h8 b90 K8
theorem adO :DM noP 0:=⟨by simp,fun n hn=>by simp at hn,fun n hn=>by simp at hn,by simp,by simp,by simp,by simp⟩
theorem af6 {i:Nat} (h:i<4): ∃s:ByteArray,([.string ⟨#[120]⟩, .string ⟨#[121]⟩, .string ⟨#[122]⟩, .string ⟨#[109,101,109]⟩]:List Value)[i]?=some (.string s)/\s.size<=100:=by
 rcases i with _|_|_|_|i
 ·exact⟨_,rfl,by decide⟩
 ·exact⟨_,rfl,by decide⟩
 ·exact⟨_,rfl,by decide⟩
 ·exact⟨_,rfl,by decide⟩
 ·omega
theorem af9 {i:Nat} (h:i<2): ∃s:ByteArray,([.string ⟨#[103,111]⟩, .string ⟨#[105,110]⟩]:List Value)[i]?=some (.string s)/\s.size<=100:=by
 rcases i with _|_|i
 ·exact⟨_,rfl,by decide⟩
 ·exact⟨_,rfl,by decide⟩
 ·omega
theorem yL {a b:Int} (h1:0<=a) (h2:a<=2) (h3:1<=b) (h4:b<=16):bO ⟨a,b⟩=true:=decide_eq_true ⟨⟨h1,h2⟩,h3,h4⟩
set_option maxHeartbeats 2000000 in
theorem Or {g h:Hp} {A:List (Nat×Blk)} {B p:Nat} {s:Sl} {bs:List Nat} {big:Bool} {R:Value->Hp->Prop} (K:Kn g h ((B,rdC s p)::A)) (hb:ByteS g s bs) (hp:p<=800000)
  (k: ∀h' p' X' M' m',Kn g h' ((B,rdC s p')::(A++X'))->MG X' M' m'->DM m' 12->0<m'.nodes.length->p'<=p+60->R (aN M') h'):
  mX #[.pointer (some ⟨B,0,none⟩),aN noM, .bool big] h R:=by
 apply AE
 refine uf_ ?_
 refine Kn.al K fun b9 h1 K1 l1 hb9=>?_
 refine Kn.al K1 fun b11 h2 K2 l2 hb11=>?_
 refine Kn.al K2 fun b14 h3 K3 l3 hb14=>?_
 clear K K1 K2 l1 l2 l3 hb9 hb11 hb14
 refine aq (fun J=> ∀x:Int,J x) (fun x20=>?_) (fun J hJ=>ad (fun _=>hJ _) (fun _=>hJ _))
 refine kp_ ?_
 intro x24 h4 K4 hx24 _
 refine⟨_,rfl,?_⟩
 replace hx24:x24<3:=by have:=hx24 (by omega);omega
 clear K3 h3 h2 h1 h
 rw [show W (1+(x24:Int))=((1+x24:Nat):Int) by rw [bQ (by omega) (by omega)];omega]
 refine ar (1+x24) (fun i vs h'=> ∃(bits:Int) (q:Nat) (X:List (Nat×Blk)) (M:MSl) (m:ah),vs= [.pointer (some ⟨B,0,none⟩), .pointer (some ⟨b9,0,none⟩), .pointer (some ⟨b11,0,none⟩),(arr b14 4).v,I bits,I (1+x24:Nat),I i]/\
  MG X M m/\DM m i/\q<=p+1+4*i/\Kn g h' ((b14, .inl ⟨[.string ⟨#[120]⟩, .string ⟨#[121]⟩, .string ⟨#[122]⟩, .string ⟨#[109,101,109]⟩],4,false⟩)::(b11, .inl ⟨dT,5,false⟩)::(b9, .inl ⟨aG M,5,false⟩)::(B,rdC s q)::(A++X)))
  ⟨x20,p+1, [],noM,noP,rfl,MG.nil,adO,by omega,by rw [List.append_nil];exact K4⟩ ?_
 clear K4 h4
 rintro i _ h4 nxt hi ⟨bits,q,X,M,m,rfl,o,d,hq,K4⟩ hnx
 refine⟨_,b9,0,b11,0,arr b14 4,_,_,_,rfl,?_⟩
 have hl:=o.lens
 have hdn:=d.nodes
 by_cases hlt:i<1+x24
 ·refine aL (by rw [decide_eq_true_eq];omega) ?_
  have hi4:i<4:=by omega
  refine aq (fun J=> ∀(bits:Int) h5 q X M m,MG X M m->DM m (i+1)->q<=p+1+4*(i+1)->Kn g h5 ((b14, .inl ⟨[.string ⟨#[120]⟩, .string ⟨#[121]⟩, .string ⟨#[122]⟩, .string ⟨#[109,101,109]⟩],4,false⟩)::(b11, .inl ⟨dT,5,false⟩)::(b9, .inl ⟨aG M,5,false⟩)::(B,rdC s q)::(A++X))->J bits h5)
   (fun bits h5 q X M m o d hq K5=>?_) (fun J hJ=>?_)
  ·rw [aw (by omega)]
   exact hnx hlt _ _ ⟨bits,q,X,M,m,rfl,o,d,hq,K5⟩
  ·refine kp_ ?_
   intro x45 h5 K5 hx45 _
   refine⟨_,rfl,?_⟩
   replace hx45:x45<4:=by have:=hx45 (by omega);omega
   refine Kn.al K5 fun b46 h6 K6 l6 hb46=>?_
   clear K5 K4
   refine kw_ ?_
   intro h7 K7 _
   clear K6 l6 hb46
   refine kp_ ?_
   intro x54 h8 K8 _ _
   refine⟨_,rfl,?_⟩
   clear K7
   refine aq (fun J=> ∀(a w:Int) h9 q',0<=a->a<=2->1<=w->w<=16->q'<=q+4->Kn g h9 ((b46, .inl ⟨[I a,I w],2,false⟩)::(b14, .inl ⟨[.string ⟨#[120]⟩, .string ⟨#[121]⟩, .string ⟨#[122]⟩, .string ⟨#[109,101,109]⟩],4,false⟩)::(b11, .inl ⟨dT,5,false⟩)::(b9, .inl ⟨aG M,5,false⟩)::(B,rdC s q')::(A++X))->J h9)
    (fun a w h9 q' a1 a2 w1 w2 hq' K9=>?_) (fun J hJ=>?_)
   ·repeat' (refine kr_ ?_)
    refine je ⟨_,rfl,?_⟩
    refine ad (fun e=>?_) (fun e=>hJ _ _ q' X M m o (d.more (by omega)) (by omega) K9.tl)
    repeat' (refine kr_ ?_)
    refine je ⟨_,rfl,?_⟩
    refine⟨b14,0,rfl,by omega,by dsimp only;omega,?_⟩
    repeat' (refine kr_ ?_)
    obtain⟨nm,hnm,hsz⟩:=af6 hi4
    refine⟨nm,by rw [av (K9.at (.tail _ (.head _))),Int.toNat_natCast,Nat.zero_add,Nat.mul_one];exact hnm,?_⟩
    refine Kn.al K9 fun b86 h10 K10 l10 hb86=>?_
    repeat' (refine kr_ ?_)
    refine mK (H:=_::_::_::_::_::A) (nd:=⟨36,0,0,0,0,0,⟨a,w⟩,nm⟩) o K10 (by omega) (.tail _ (.tail _ (.tail _ (.head _)))) fun s' X9 h11 o9 KF=>?_
    have K11:=KF _ (by((focus ((repeat first|exact .head|apply Upd.tail);done))))
    simp only [List.cons_append]at K11
    exact hJ _ h11 q' X9 _ _ o9 (d.addN (yL a1 a2 w1 w2) hsz) (by omega) K11.tl
   ·refine ad (fun e=>?_) (fun e=>?_)
    ·refine kp_ ?_
     intro x59 h9 K9 hx59 _
     refine⟨_,rfl,?_⟩
     refine kp_ ?_
     intro x62 h10 K10 hx62 _
     refine⟨_,rfl,?_⟩
     replace hx59:x59<2:=by have:=hx59 (by omega);omega
     replace hx62:x62<2:=by have:=hx62 (by omega);omega
     clear K9 K8
     refine kw_ ?_
     intro h11 K11 _
     refine hJ (W (1+(x59:Int))) (W (1+(x62:Int))) h11 _ ?_ ?_ ?_ ?_ ?_ K11
     ·rw [bQ (by omega) (by omega)];omega
     ·rw [bQ (by omega) (by omega)];omega
     ·rw [bQ (by omega) (by omega)];omega
     ·rw [bQ (by omega) (by omega)];omega
     ·omega
    ·refine hJ 0 (W (1+(x45:Int))) h8 _ (by omega) (by omega) ?_ ?_ ?_ K8
     ·rw [bQ (by omega) (by omega)];omega
     ·rw [bQ (by omega) (by omega)];omega
     ·omega
 refine aA (by rw [decide_eq_false_iff_not];omega) ?_
 clear hnx
 (refine kr_ ?_)
 refine aq (fun J=> ∀h5 X M m,MG X M m->DM m 4->0<m.nodes.length->Kn g h5 ((b14, .inl ⟨[.string ⟨#[120]⟩, .string ⟨#[121]⟩, .string ⟨#[122]⟩, .string ⟨#[109,101,109]⟩],4,false⟩)::(b11, .inl ⟨dT,5,false⟩)::(b9, .inl ⟨aG M,5,false⟩)::(B,rdC s q)::(A++X))->J h5)
  (fun h5 X1 M1 m1 o1 d1 hpos K5=>?_) (fun J hJ=>?_)
 rotate_left
 ·refine ad (fun e=>?_) (fun e=>?_)
  ·(refine kr_ ?_)
   refine cd ⟨_,_,rfl,?_⟩
   repeat' (refine kr_ ?_)
   refine Kn.al K4 fun b109 h5 K5 l5 hb109=>?_
   repeat' (refine kr_ ?_)
   refine mK (H:=_::_::_::_::A) (nd:=⟨36,0,0,0,0,0,⟨0,2⟩,⟨#[120]⟩⟩) o K5 (by omega) (.tail _ (.tail _ (.head _))) fun s' X9 h11 o9 KF=>?_
   have K11:=KF _ (by((focus ((repeat first|exact .head|apply Upd.tail);done))))
   simp only [List.cons_append]at K11
   have hl9:=o9.lens
   exact hJ h11 X9 _ _ o9 ((d.addN (n:=⟨36,0,0,0,0,0,⟨0,2⟩,⟨#[120]⟩⟩) rfl (show (1:Nat)<=100 by omega)).more (by omega)) (by simp) K11
  ·have:m.nodes.length≠0:=fun q=>by rw [show M.no.n=0 by omega]at e;simp at e
   exact hJ h4 X M m o (d.more (by omega)) (by omega) K4
 clear K4 hdn hl d o h4
 refine kp_ ?_
 intro x122 h6 K6 hx122 _
 refine⟨_,rfl,?_⟩
 replace hx122:x122<3:=by have:=hx122 (by omega);omega
 refine ar x122 (fun i vs h'=> ∃(q:Nat) (X:List (Nat×Blk)) (M:MSl) (m:ah),vs= [.pointer (some ⟨B,0,none⟩), .pointer (some ⟨b9,0,none⟩), .pointer (some ⟨b11,0,none⟩),I x122,I i]/\
  MG X M m/\DM m (4+i)/\0<m.nodes.length/\q<=p+20+i/\Kn g h' ((b14, .inl ⟨[.string ⟨#[120]⟩, .string ⟨#[121]⟩, .string ⟨#[122]⟩, .string ⟨#[109,101,109]⟩],4,false⟩)::(b11, .inl ⟨dT,5,false⟩)::(b9, .inl ⟨aG M,5,false⟩)::(B,rdC s q)::(A++X)))
  ⟨q+1,X1,M1,m1,rfl,o1,d1,hpos,by omega,K6⟩ ?_
 clear K6 K5 hpos d1 o1 hq q m1 M1 X1 h5 h6 m M X
 rintro j _ h4 nxt hj ⟨q,X,M,m,rfl,o,d,hpos,hq,K4⟩ hnx
 refine⟨_,b9,0,b11,0,_,_,rfl,?_⟩
 have hl:=o.lens
 have hdn:=d.nodes
 by_cases hlt:j<x122
 ·refine aL (by rw [decide_eq_true_eq];omega) ?_
  have hj2:j<2:=by omega
  refine aq (fun J=> ∀h5 q X M m,MG X M m->DM m (4+j+1)->0<m.nodes.length->q<=p+20+(j+1)->Kn g h5 ((b14, .inl ⟨[.string ⟨#[120]⟩, .string ⟨#[121]⟩, .string ⟨#[122]⟩, .string ⟨#[109,101,109]⟩],4,false⟩)::(b11, .inl ⟨dT,5,false⟩)::(b9, .inl ⟨aG M,5,false⟩)::(B,rdC s q)::(A++X))->J h5)
   (fun h5 q X M m o d hpos hq K5=>?_) (fun J hJ=>?_)
  ·rw [aw (by omega)]
   exact hnx hlt _ _ ⟨q,X,M,m,rfl,o,d,hpos,hq,K5⟩
  obtain⟨nm,hnm,hsz⟩:=af9 hj2
  have fin: ∀(x bn bg:Nat) (h8:Hp),x<2->Kn g h8 ((bn, .inl ⟨[I 35,I 0,I 0,I 0,I 0,I 0,I 0,I (W (1+(x:Int))), .string nm],9,false⟩)::(bg, .inl ⟨[.string ⟨#[103,111]⟩, .string ⟨#[105,110]⟩],2,false⟩)::(b14, .inl ⟨[.string ⟨#[120]⟩, .string ⟨#[121]⟩, .string ⟨#[122]⟩, .string ⟨#[109,101,109]⟩],4,false⟩)::
    (b11, .inl ⟨dT,5,false⟩)::(b9, .inl ⟨aG M,5,false⟩)::(B,rdC s (q+1))::(A++X))->
    cm h8 M.no.a M.no.n M.no.c (some (Addr.mk bn 0 none)) 1 9 80 fun a92 n93 k94 h95=> ∃(cs96:List Value) (z97:Nat),h95 b9=some (.inl ⟨cs96,z97,false⟩)/\0+1<=List.length cs96/\cJ (h95.row b9 (ce cs96 0 [(.slice a92 n93 k94)]) z97) fun h148=>J h148:=by
   intro x bn bg h8 hx K8
   refine mK (H:=_::_::_::_::_::A) (nd:=⟨35,0,0,0,0,0,⟨0,W (1+(x:Int))⟩,nm⟩) o K8 (by omega) (.tail _ (.tail _ (.tail _ (.head _)))) fun s' X9 h9 o9 KF=>?_
   have K9:=KF _ (by((focus ((repeat first|exact .head|apply Upd.tail);done))))
   simp only [List.cons_append]at K9
   exact hJ h9 (q+1) X9 _ _ o9 (d.addN (yL (by omega) (by omega) (by rw [bQ (by omega) (by omega)];omega) (by rw [bQ (by omega) (by omega)];omega)) hsz) (by simp) (by omega) K9.tl
  have rd: ∀{h':Hp} {L:List (Nat×Blk)} {bg:Nat} {Q:ByteArray->Prop},Kn g h' ((bg, .inl ⟨[.string ⟨#[103,111]⟩, .string ⟨#[105,110]⟩],2,false⟩)::L)->Q nm-> ∃y:ByteArray,Hp.cell h' bg (0+Int.toNat (j:Int)*1)=some (.string y)/\Q y:=fun K' q=>⟨nm,by rw [av (K'.at (.head _)),Int.toNat_natCast,Nat.zero_add,Nat.mul_one];exact hnm,q⟩
  (refine kr_ ?_)
  refine⟨?_,?_⟩
  ·refine kp_ ?_
   intro x h5 K5 hx _
   refine⟨_,rfl,?_⟩
   replace hx:x<2:=by have:=hx (by omega);omega
   repeat' (refine kr_ ?_)
   refine⟨?_,?_⟩
   ·refine cd ⟨_,_,rfl,?_⟩
    repeat' (refine kr_ ?_)
    refine Kn.al K5 fun bg h6 K6 l6 hbg=>?_
    repeat' (refine kr_ ?_)
    refine⟨by omega,by omega,?_⟩
    refine rd K6 ?_
    refine Kn.al K6 fun bn h7 K7 l7 hbn=>?_
    repeat' (refine kr_ ?_)
    exact fin x bn bg h7 hx K7
   ·refine Kn.al K5 fun bg h6 K6 l6 hbg=>?_
    repeat' (refine kr_ ?_)
    refine⟨by omega,by omega,?_⟩
    refine rd K6 ?_
    refine cd ⟨_,_,rfl,?_⟩
    repeat' (refine kr_ ?_)
    refine Kn.al K6 fun bn h7 K7 l7 hbn=>?_
    repeat' (refine kr_ ?_)
    exact fin x bn bg h7 hx K7
  ·refine Kn.al K4 fun bg h5 K5 l5 hbg=>?_
   repeat' (refine kr_ ?_)
   refine⟨by omega,by omega,?_⟩
   refine rd K5 ?_
   refine kp_ ?_
   intro x h6 K6 hx _
   refine⟨_,rfl,?_⟩
   replace hx:x<2:=by have:=hx (by omega);omega
   repeat' (refine kr_ ?_)
   refine cd ⟨_,_,rfl,?_⟩
   repeat' (refine kr_ ?_)
   refine Kn.al K6 fun bn h7 K7 l7 hbn=>?_
   repeat' (refine kr_ ?_)
   exact fin x bn bg h7 hx K7
 refine aA (by rw [decide_eq_false_iff_not];omega) ?_
 clear hnx
 refine kp_ ?_
 intro x205 h6 K6 hx205 _
 refine⟨_,rfl,?_⟩
 replace hx205:x205<3:=by have:=hx205 (by omega);omega
 rw [show W (1+(x205:Int))=((1+x205:Nat):Int) by rw [bQ (by omega) (by omega)];omega]
 refine ar (1+x205) (fun i vs h'=> ∃(q:Nat) (X:List (Nat×Blk)) (M:MSl) (m:ah),vs= [.pointer (some ⟨B,0,none⟩), .pointer (some ⟨b9,0,none⟩), .pointer (some ⟨b11,0,none⟩),I (1+x205:Nat),I i]/\
  MG X M m/\DM m (6+i)/\0<m.nodes.length/\q<=p+30+2*i/\Kn g h' ((b14, .inl ⟨[.string ⟨#[120]⟩, .string ⟨#[121]⟩, .string ⟨#[122]⟩, .string ⟨#[109,101,109]⟩],4,false⟩)::(b11, .inl ⟨dT,5,false⟩)::(b9, .inl ⟨aG M,5,false⟩)::(B,rdC s q)::(A++X)))
  ⟨q+1,X,M,m,rfl,o,d.more (by omega),hpos,by omega,K6⟩ ?_
 clear K6 K4 hpos d o hl hdn hq q m M X h4 h6
 rintro i _ h4 nxt hi ⟨q,X,M,m,rfl,o,d,hpos,hq,K4⟩ hnx
 refine⟨_,b9,0,b11,0,_,_,rfl,?_⟩
 have hl:=o.lens
 have hdn:=d.nodes
 by_cases hlt:i<1+x205
 rotate_left
 ·refine aA (by rw [decide_eq_false_iff_not];omega) ?_
  repeat' (refine kr_ ?_)
  refine EO K4 (by((focus ((repeat first|exact .head|apply Upd.tail);done)))) fun h6 K6=>?_
  exact k h6 q X M m K6.tl.tl.tl o (d.more (by omega)) hpos (by omega)
 refine aL (by rw [decide_eq_true_eq];omega) ?_
 refine aq (fun J=> ∀h5 q X M m,MG X M m->DM m (6+i+1)->0<m.nodes.length->q<=p+30+2*(i+1)->Kn g h5 ((b14, .inl ⟨[.string ⟨#[120]⟩, .string ⟨#[121]⟩, .string ⟨#[122]⟩, .string ⟨#[109,101,109]⟩],4,false⟩)::(b11, .inl ⟨dT,5,false⟩)::(b9, .inl ⟨aG M,5,false⟩)::(B,rdC s q)::(A++X))->J h5)
  (fun h5 q X M m o d hpos hq K5=>?_) (fun J hJ=>?_)
 ·rw [aw (by omega)]
  exact hnx hlt _ _ ⟨q,X,M,m,rfl,o,d,hpos,hq,K5⟩
 refine kp_ ?_
 intro w h5 K5 hw _
 refine⟨_,rfl,?_⟩
 replace hw:w<4:=by have:=hw (by omega);omega
 have hp2:0<2^(1+w):=Nat.two_pow_pos _
 rw [show W (1+(w:Int))=((1+w:Nat):Int) by rw [bQ (by omega) (by omega)];omega]
 have fin: ∀(y bn:Nat) (h8:Hp),Kn g h8 ((bn, .inl ⟨[I 34,I 0,I 0,I 0,I (Int.tmod y (2^(1+w):Nat)),I 0,I 0,I (1+w:Nat), .string ⟨#[]⟩],9,false⟩)::(b14, .inl ⟨[.string ⟨#[120]⟩, .string ⟨#[121]⟩, .string ⟨#[122]⟩, .string ⟨#[109,101,109]⟩],4,false⟩)::
   (b11, .inl ⟨dT,5,false⟩)::(b9, .inl ⟨aG M,5,false⟩)::(B,rdC s (q+1+1))::(A++X))->
   cm h8 M.no.a M.no.n M.no.c (some (Addr.mk bn 0 none)) 1 9 80 fun a92 n93 k94 h95=> ∃(cs96:List Value) (z97:Nat),h95 b9=some (.inl ⟨cs96,z97,false⟩)/\0+1<=List.length cs96/\cJ (h95.row b9 (ce cs96 0 [(.slice a92 n93 k94)]) z97) fun h148=>J h148:=by
  intro y bn h8 K8
  refine mK (H:=_::_::_::_::A) (nd:=⟨34,0,0,0,Int.tmod y (2^(1+w):Nat),0,⟨0,(1+w:Nat)⟩,⟨#[]⟩⟩) o K8 (by omega) (.tail _ (.tail _ (.head _))) fun s' X9 h9 o9 KF=>?_
  have K9:=KF _ (by((focus ((repeat first|exact .head|apply Upd.tail);done))))
  simp only [List.cons_append]at K9
  exact hJ h9 _ X9 _ _ o9 (d.addN (yL (by omega) (by omega) (by omega) (by omega)) (show (0:Nat)<=100 by omega)) (by simp) (by omega) K9
 (refine kr_ ?_)
 refine⟨?_,?_⟩
 ·refine kp_ ?_
  intro y h6 K6 hy _
  refine⟨_,rfl,?_⟩
  repeat' (refine kr_ ?_)
  refine⟨?_,?_⟩
  ·repeat' (refine kr_ ?_)
   rw [cR (by omega),if_neg (by omega),ck (by omega),if_neg (by omega)]
   refine cd ⟨_,_,rfl,?_⟩
   repeat' (refine kr_ ?_)
   refine Kn.al K6 fun bn h7 K7 l7 hbn=>?_
   repeat' (refine kr_ ?_)
   exact fin y bn h7 K7
  ·refine cd ⟨_,_,rfl,?_⟩
   repeat' (refine kr_ ?_)
   rw [cR (by omega),if_neg (by omega),ck (by omega),if_neg (by omega)]
   refine Kn.al K6 fun bn h7 K7 l7 hbn=>?_
   repeat' (refine kr_ ?_)
   exact fin y bn h7 K7
 ·repeat' (refine kr_ ?_)
  rw [cR (by omega),if_neg (by omega),ck (by omega)]
  refine kp_ ?_
  intro y h6 K6 hy _
  refine⟨_,rfl,?_⟩
  repeat' (refine kr_ ?_)
  rw [if_neg (by omega)]
  refine cd ⟨_,_,rfl,?_⟩
  repeat' (refine kr_ ?_)
  refine Kn.al K6 fun bn h7 K7 l7 hbn=>?_
  repeat' (refine kr_ ?_)
  exact fin y bn h7 K7
theorem uM {c:Prop} [Decidable c] {x t:SortP} (h:(if c then some x else none)=some t):c/\x=t:=by
 by_cases e:c
 ·rw [if_pos e]at h;exact⟨e,Option.some.inj h⟩
 ·rw [if_neg e]at h;cases h
theorem NH {n:NodeP} {a b c t:SortP} (ha:bO a=true) (hb:2<=ak n.kind->bO b=true) (h:dq n a b c=some t):bO t=true:=by
 obtain⟨⟨a1,a2⟩,a3,a4⟩:=mv ha
 unfold dq at h
 by_cases e33:n.kind=33
 ·rw [if_pos e33]at h
  obtain⟨_,rfl⟩:=uM h
  exact hb (by rw [e33];decide)
 rw [if_neg e33]at h
 by_cases e37:n.kind=37
 ·rw [if_pos e37]at h
  obtain⟨_,rfl⟩:=uM h
  exact pd a3 a4
 rw [if_neg e37]at h
 by_cases e38:n.kind=38
 ·rw [if_pos e38]at h
  obtain⟨_,rfl⟩:=uM h
  exact ha
 rw [if_neg e38]at h
 by_cases e21:n.kind=21
 ·rw [if_pos e21]at h
  obtain⟨_,rfl⟩:=uM h
  exact pd (by omega) (by omega)
 rw [if_neg e21]at h
 by_cases ei:0<a.idx\/(ak n.kind=2/\0<b.idx)
 ·rw [if_pos ei]at h;cases h
 rw [if_neg ei]at h
 by_cases e29:n.kind=29
 ·rw [if_pos e29]at h
  obtain⟨e,rfl⟩:=uM h
  have:=mv (hb (by rw [e29];decide))
  exact pd (by omega) (by omega)
 rw [if_neg e29]at h
 by_cases e30:n.kind=30
 ·rw [if_pos e30]at h
  obtain⟨e,rfl⟩:=uM h
  exact pd (by omega) (by omega)
 rw [if_neg e30]at h
 by_cases e31:n.kind=31\/n.kind=32
 ·rw [if_pos e31]at h
  obtain⟨e,rfl⟩:=uM h
  exact pd (by omega) (by omega)
 rw [if_neg e31]at h
 have hw: ∀q:Prop, [Decidable q]->bO (cP (if q then a.wid else 1))=true:=fun q _=>by
  by_cases e:q
  ·rw [if_pos e];exact pd a3 a4
  ·rw [if_neg e];exact pd (by omega) (by omega)
 by_cases e5:n.kind<=5
 ·rw [if_pos e5]at h
  obtain rfl:=Option.some.inj h
  exact hw _
 rw [if_neg e5]at h
 obtain⟨_,rfl⟩:=uM h
 exact hw _
theorem KY {l:List NodeP} {n:NodeP} {t:SortP} (hk:ak n.kind≠0) (h:de l n=some t):bO t=true:=by
 unfold de at h
 by_cases e:l.length<=60/\fO l.length n=true
 ·rw [if_pos e,if_neg hk]at h
  by_cases e2:(bO (az l n.a)&&((decide (ak n.kind<2)||bO (az l n.b))&&(decide (ak n.kind<3)||bO (az l n.c))))=true
  ·rw [if_pos e2]at h
   simp only [Bool.and_eq_true,Bool.or_eq_true,decide_eq_true_eq]at e2
   exact NH e2.1 (fun h2=>e2.2.1.resolve_left (by omega)) h
  ·rw [if_neg e2]at h;cases h
 ·rw [if_neg e]at h;cases h
set_option maxHeartbeats 2000000 in
theorem Rn {g h:Hp} {A X:List (Nat×Blk)} {B p N:Nat} {s:Sl} {bs:List Nat} {M:MSl} {m:ah} {R:Value->Hp->Prop} (K:Kn g h ((B,rdC s p)::(A++X))) (hb:ByteS g s bs) (o:MG X M m) (d:DM m N) (hN:N<=1000)
  (hne:0<m.nodes.length) (hp:p<=800000)
  (k: ∀h' p' X' M' m',Kn g h' ((B,rdC s p')::(A++X'))->MG X' M' m'->DM m' (N+3)->0<m'.nodes.length->p'<=p+20->R (aN M') h'):
  pP #[.pointer (some ⟨B,0,none⟩),aN M] h R:=by
 apply Db
 refine uf_ ?_
 have hl:=o.lens
 have hsm:=d.small (by omega)
 have hdn:=d.nodes
 refine Kn.al K fun b8 h1 K1 l1 hb8=>?_
 refine Kn.al K1 fun b10 h2 K2 l2 hb10=>?_
 clear K K1 l1 l2 hb8 hb10
 refine kp_ ?_
 intro x15 h3 K3 hx15 _
 refine⟨_,rfl,?_⟩
 replace hx15:x15<33:=by have:=hx15 (by omega);omega
 refine Kn.al K3 fun b16 h4 K4 l4 hb16=>?_
 refine kw_ ?_
 intro h5 K5 kpz
 clear kpz
 rw [show W (1+(x15:Int))=((1+x15:Nat):Int) by rw [bQ (by omega) (by omega)];omega]at K5
 have K5':Kn g h5 ((b16, .inl ⟨nodeCells ⟨(1+x15:Nat),0,0,0,0,0,⟨0,0⟩,⟨#[]⟩⟩,9,false⟩)::(b10, .inl ⟨dT,5,false⟩)::(b8, .inl ⟨aG M,5,false⟩)::(B,rdC s (p+1))::(A++X)):=K5
 clear K5 K4 K3 K2 l4 hb16 h4 h3 h2 h1 h
 refine kp_ ?_
 intro x24 h6 K6 _ _
 refine⟨_,rfl,?_⟩
 clear K5' h5
 have hk0:ak ((1+x15:Nat):Int)≠0:=by
  unfold ak
  have h1: ¬(34<=((1+x15:Nat):Int)/\((1+x15:Nat):Int)<=36):=by omega
  rw [if_neg h1]
  split
  ·decide
  ·split
   ·decide
   ·split<;>decide
 refine aq (fun J=> ∀(kd:Int) h5 q,ak kd≠0->q<=p+3->Kn g h5 ((b16, .inl ⟨nodeCells ⟨kd,0,0,0,0,0,⟨0,0⟩,⟨#[]⟩⟩,9,false⟩)::(b10, .inl ⟨dT,5,false⟩)::(b8, .inl ⟨aG M,5,false⟩)::(B,rdC s q)::(A++X))->J h5) (fun kd h5 q hkd hq K5=>?_) (fun J hJ=>?_)
 rotate_left
 ·refine ad (fun e=>?_) (fun e=>hJ _ h6 _ hk0 (by omega) K6)
  refine Kn.al K6 fun b27 h7 K7 l7 hb27=>?_
  refine kp_ ?_
  intro x31 h8 K8 hx31 _
  refine⟨_,rfl,?_⟩
  replace hx31:x31<2:=by have:=hx31 (by omega);omega
  clear K7 K6
  refine⟨b27,0,rfl,by omega,by omega,?_⟩
  obtain⟨kd,hkd,hk1⟩: ∃kd:Int,([I 37,I 38]:List Value)[x31]?=some (I kd)/\ak kd≠0:=by
   rcases x31 with _|_|i
   ·exact⟨37,rfl,by decide⟩
   ·exact⟨38,rfl,by decide⟩
   ·omega
  refine⟨kd,by rw [av (K8.at (.head _)),Int.toNat_natCast,Nat.zero_add,Nat.mul_one];exact hkd,?_⟩
  refine kw_ ?_
  intro h9 K9 kpz
  clear kpz
  exact hJ kd h9 _ hk1 (by omega) K9.tl
 clear K6 hk0 hx15 h6
 (refine kr_ ?_)
 refine kp_ ?_
 intro a h6 K6 ha _
 refine⟨_,rfl,?_⟩
 replace ha:a<m.nodes.length:=by have:=ha (by omega);omega
 clear K5
 refine kw_ ?_
 intro h7 K7 kpz
 clear kpz
 have K7':Kn g h7 ((b16, .inl ⟨nodeCells ⟨kd,a,0,0,0,0,⟨0,0⟩,⟨#[]⟩⟩,9,false⟩)::(b10, .inl ⟨dT,5,false⟩)::(b8, .inl ⟨aG M,5,false⟩)::(B,rdC s (q+1))::(A++X)):=K7
 clear K7 K6 h5 h6
 repeat' (refine kr_ ?_)
 obtain⟨na,hna⟩: ∃n,m.nodes[a]?=some n:=⟨_,List.getElem?_eq_getElem ha⟩
 have hs:=o.modelS (A:=_::_::_::_::A) hsm K7'
 obtain⟨b,oo,ha',e0,e1,e2,e3,e4,e5,e6,e7,e8⟩:=hs.nodes.at hna
 refine⟨b,oo,ha',(by first|omega|(dsimp only;omega)),(by first|omega|(dsimp only;omega)),_,by rw [Int.toNat_natCast];exact e6,_,by rw [Int.toNat_natCast];exact e7,?_⟩
 clear e0 e1 e2 e3 e4 e5 e6 e7 e8 ha' hs
 refine Kn.al K7' fun b54 h8 K8 l8 hb54=>?_
 refine kw_ ?_
 intro h9 K9 kpz
 clear kpz
 have K9':Kn g h9 ((b54, .inl ⟨[I na.sort.idx,I na.sort.wid],2,false⟩)::(b16, .inl ⟨nodeCells ⟨kd,a,0,0,0,0,⟨0,0⟩,⟨#[]⟩⟩,9,false⟩)::(b10, .inl ⟨dT,5,false⟩)::(b8, .inl ⟨aG M,5,false⟩)::(B,rdC s (q+1))::(A++X)):=K9
 clear K9 K8 K7' l8 hb54 h8 h7
 have hst:=th d hna
 obtain⟨⟨w1,w2⟩,w3,w4⟩:=mv hst
 refine aq (fun J=> ∀h5 q' X' M' m' (nd:NodeP) (z:Blk),nd.kind=kd->nd.name.size=0->MG X' M' m'->DM m' (N+2)->0<m'.nodes.length->q'<=q+10->Kn g h5 ((b54,z)::(b16, .inl ⟨nodeCells nd,9,false⟩)::(b10, .inl ⟨dT,5,false⟩)::(b8, .inl ⟨aG M',5,false⟩)::(B,rdC s q')::(A++X'))->J b8 0 b10 0 b16 0 h5)
  (fun h5 q' X' M' m' nd z hkd2 hnm o' d' hpos hq' K5=>?_) (fun J hJ=>?_)
 ·clear K9'
  have hl':=o'.lens
  have hdn':=d'.nodes
  have hsm':=d'.small (by omega)
  have hs:=o'.modelS (A:=_::_::_::_::_::A) hsm' K5
  repeat' (refine kr_ ?_)
  refine nX (n:=nd) hs.nodes (by omega) ?_
  cases hns:de m'.nodes nd with
  |none=>
   refine⟨_,_,_,rfl,?_⟩
   refine Kn.al K5 fun b327 h6 K6 l6 hb327=>?_
   clear K5
   refine kw_ ?_
   intro h7 K7 kpz
   clear kpz
   clear K6
   rw [iZ]
   refine aL rfl (aL rfl ?_)
   repeat' (refine kr_ ?_)
   refine EO K7 (by((focus ((repeat first|exact .head|apply Upd.tail);done)))) fun h8 K8=>?_
   exact k h8 q' X' M' m' K8.tl.tl.tl.tl.tl o' (d'.more (by omega)) hpos (by omega)
  |some t=>
   refine⟨_,_,_,rfl,?_⟩
   have htok:=KY (by rw [hkd2];exact hkd) hns
   refine Kn.al K5 fun b327 h6 K6 l6 hb327=>?_
   clear K5
   refine kw_ ?_
   intro h7 K7 kpz
   clear kpz
   have K7':Kn g h7 ((b327, .inl ⟨[I t.idx,I t.wid],2,false⟩)::(b54,z)::(b16, .inl ⟨nodeCells nd,9,false⟩)::(b10, .inl ⟨dT,5,false⟩)::(b8, .inl ⟨aG M',5,false⟩)::(B,rdC s q')::(A++X')):=K7
   clear K6 K7
   refine aq (fun J=> ∀c,J c) (fun c=>?_) (fun J hJ=>?_)
   rotate_left
   ·refine aA rfl ?_
    (refine kr_ ?_)
    refine ad (fun _=>hJ _) (fun _=>?_)
    (refine kr_ ?_)
    exact hJ _
   cases c with
   |true=>
    refine aL rfl ?_
    repeat' (refine kr_ ?_)
    refine EO K7' (by((focus ((repeat first|exact .head|apply Upd.tail);done)))) fun h8 K8=>?_
    exact k h8 q' X' M' m' K8.tl.tl.tl.tl.tl o' (d'.more (by omega)) hpos (by omega)
   |false=>
    refine aA rfl ?_
    repeat' (refine kr_ ?_)
    refine kw_ ?_
    intro h8 K8 kpz
    clear kpz
    have K8':Kn g h8 ((b327, .inl ⟨[I t.idx,I t.wid],2,false⟩)::(b54,z)::(b16, .inl ⟨nodeCells {nd with sort:=t},9,false⟩)::(b10, .inl ⟨dT,5,false⟩)::(b8, .inl ⟨aG M',5,false⟩)::(B,rdC s q')::(A++X')):=K8
    clear K8 K7'
    repeat' (refine kr_ ?_)
    refine Kn.al K8' fun b368 h9 K9 l9 hb368=>?_
    refine mK (H:=_::_::_::_::_::_::A) (nd:={nd with sort:=t}) o' K9 (by omega) (.tail _ (.tail _ (.tail _ (.tail _ (.head _))))) fun s' X9 h10 o9 KF=>?_
    have K10:=KF _ (by((focus ((repeat first|exact .head|apply Upd.tail);done))))
    simp only [List.cons_append]at K10
    clear KF K9 K8'
    repeat' (refine kr_ ?_)
    refine EO (M:={M' with no:=s'}) K10 (by((focus ((repeat first|exact .head|apply Upd.tail);done)))) fun h11 K11=>?_
    exact k h11 q' X9 _ _ K11.tl.tl.tl.tl.tl o9 ((d'.addN htok (by show nd.name.size<=100;omega)).more (by omega)) (by simp) (by omega)
 (refine kr_ ?_)
 refine ad (fun e=>?_) (fun e=>?_)
 ·repeat' (refine kr_ ?_)
  refine cd ⟨_,_,rfl,?_⟩
  repeat' (refine kr_ ?_)
  refine wE (p:=q+1) (A:=(b54, .inl ⟨[I na.sort.idx,I na.sort.wid],2,false⟩)::(b16, .inl ⟨nodeCells ⟨kd,a,0,0,0,0,⟨0,0⟩,⟨#[]⟩⟩,9,false⟩)::(b10, .inl ⟨dT,5,false⟩)::(b8, .inl ⟨aG M,5,false⟩)::A) (st:=⟨0,1⟩)
   (K9'.perm (A9 _ _ _ _ _ _)) hb o d (by omega) hne (by omega) rfl fun h5 q5 X5 M5 m5 i5 K5 o5 d5 hi5 hl5 hq5=>⟨_,_,_,_,_,_,rfl,?_⟩
  replace K5:=K5.perm (A9 _ _ _ _ _ _).symm
  clear K9'
  refine vp (M':=M5) K5 (by((focus ((repeat first|exact .head|apply Upd.tail);done)))) rfl fun h6 K6=>?_
  clear K5
  refine kw_ ?_
  intro h7 K7 kpz
  clear kpz
  have K7':Kn g h7 ((b54, .inl ⟨[I na.sort.idx,I na.sort.wid],2,false⟩)::(b16, .inl ⟨nodeCells ⟨kd,i5,0,0,0,0,⟨0,0⟩,⟨#[]⟩⟩,9,false⟩)::(b10, .inl ⟨dT,5,false⟩)::(b8, .inl ⟨aG M5,5,false⟩)::(B,rdC s q5)::(A++X5)):=K7
  clear K6 K7
  have hl5':=o5.lens
  have hdn5:=d5.nodes
  (refine kr_ ?_)
  refine kp_ ?_
  intro x90 h8 K8 hx90 _
  refine⟨_,rfl,?_⟩
  replace hx90:x90<m5.nodes.length:=by have:=hx90 (by omega);omega
  clear K7'
  refine kw_ ?_
  intro h9 K9 kpz
  clear kpz
  have K9':Kn g h9 ((b54, .inl ⟨[I na.sort.idx,I na.sort.wid],2,false⟩)::(b16, .inl ⟨nodeCells ⟨kd,i5,x90,0,0,0,⟨0,0⟩,⟨#[]⟩⟩,9,false⟩)::(b10, .inl ⟨dT,5,false⟩)::(b8, .inl ⟨aG M5,5,false⟩)::(B,rdC s (q5+1))::(A++X5)):=K9
  clear K8 K9
  repeat' (refine kr_ ?_)
  obtain⟨nb,hnb⟩: ∃n,m5.nodes[x90]?=some n:=⟨_,List.getElem?_eq_getElem hx90⟩
  have hs:=o5.modelS (A:=_::_::_::_::_::A) (d5.small (by omega)) K9'
  obtain⟨b,oo,ha',e0,e1,e2,e3,e4,e5,e6,e7,e8⟩:=hs.nodes.at hnb
  refine⟨b,oo,ha',(by first|omega|(dsimp only;omega)),(by first|omega|(dsimp only;omega)),_,by rw [Int.toNat_natCast];exact e6,_,by rw [Int.toNat_natCast];exact e7,?_⟩
  refine wE (p:=q5+1) (A:=(b54, .inl ⟨[I na.sort.idx,I na.sort.wid],2,false⟩)::(b16, .inl ⟨nodeCells ⟨kd,i5,x90,0,0,0,⟨0,0⟩,⟨#[]⟩⟩,9,false⟩)::(b10, .inl ⟨dT,5,false⟩)::(b8, .inl ⟨aG M5,5,false⟩)::A) (st:=nb.sort)
   (K9'.perm (A9 _ _ _ _ _ _)) hb o5 d5 (by omega) (by omega) (by omega) (th d5 hnb) fun h5 q6 X6 M6 m6 i6 K5 o6 d6 hi6 hl6 hq6=>⟨_,_,_,_,_,_,rfl,?_⟩
  replace K5:=K5.perm (A9 _ _ _ _ _ _).symm
  clear K9' hs e0 e1 e2 e3 e4 e5 e6 e7 e8
  refine vp (M':=M6) K5 (by((focus ((repeat first|exact .head|apply Upd.tail);done)))) rfl fun h10 K10=>?_
  clear K5
  refine kw_ ?_
  intro h11 K11 kpz
  clear kpz
  exact hJ h11 q6 X6 M6 m6 ⟨kd,i5,x90,i6,0,0,⟨0,0⟩,⟨#[]⟩⟩ _ rfl rfl o6 d6 (by omega) (by omega) K11
 have hnl:=hdn
 refine aq (fun J=> ∀c,J c) (fun c=>?_) (fun J hJ=>?_)
 rotate_left
 ·(refine kr_ ?_)
  refine ad (fun _=>hJ _) (fun _=>?_)
  (refine kr_ ?_)
  exact hJ _
 refine ad (fun _=>?_) (fun _=>?_)
 ·--arrays
  refine ar m.nodes.length (fun i vs h'=> ∃a:Nat,vs= [.pointer (some ⟨B,0,none⟩), .pointer (some ⟨b8,0,none⟩), .pointer (some ⟨b10,0,none⟩), .pointer (some ⟨b16,0,none⟩), .pointer (some ⟨b54,0,none⟩),I i]/\a<m.nodes.length/\
   Kn g h' ((b54, .inl ⟨[I na.sort.idx,I na.sort.wid],2,false⟩)::(b16, .inl ⟨nodeCells ⟨kd,a,0,0,0,0,⟨0,0⟩,⟨#[]⟩⟩,9,false⟩)::(b10, .inl ⟨dT,5,false⟩)::(b8, .inl ⟨aG M,5,false⟩)::(B,rdC s (q+1))::(A++X))) ⟨a,rfl,ha,K9'⟩ ?_
  rintro i _ h4 nxt hi ⟨a',rfl,ha',K4⟩ hnx
  refine⟨_,b8,0,b10,0,b16,0,b54,0,_,rfl,?_⟩
  have hs:=o.modelS (A:=_::_::_::_::_::A) hsm K4
  clear K9'
  (refine kr_ ?_)
  by_cases hlt:i<m.nodes.length
  ·refine aL (by rw [decide_eq_true_eq];omega) ?_
   refine aq (fun J=> ∀h5 (c:Nat),c<m.nodes.length->Kn g h5 ((b54, .inl ⟨[I na.sort.idx,I na.sort.wid],2,false⟩)::(b16, .inl ⟨nodeCells ⟨kd,c,0,0,0,0,⟨0,0⟩,⟨#[]⟩⟩,9,false⟩)::(b10, .inl ⟨dT,5,false⟩)::(b8, .inl ⟨aG M,5,false⟩)::(B,rdC s (q+1))::(A++X))->J h5) (fun h5 c hc K5=>?_) (fun J hJ=>?_)
   ·rw [aw (by omega)]
    exact hnx hlt _ _ ⟨c,rfl,hc,K5⟩
   ·(refine kr_ ?_)
    obtain⟨ni,hni⟩: ∃n,m.nodes[i]?=some n:=⟨_,List.getElem?_eq_getElem hlt⟩
    obtain⟨b,oo,ha2,e0,e1,e2,e3,e4,e5,e6,e7,e8⟩:=hs.nodes.at hni
    refine⟨b,oo,ha2,(by first|omega|(dsimp only;omega)),(by first|omega|(dsimp only;omega)),_,by rw [Int.toNat_natCast];exact e6,?_⟩
    clear e0 e1 e2 e3 e4 e5 e6 e7 e8
    refine ad (fun e=>?_) (fun e=>hJ h4 a' ha' K4)
    refine kw_ ?_
    intro h5 K5 kpz
    clear kpz
    exact hJ h5 i hlt K5
  refine aA (by rw [decide_eq_false_iff_not];omega) ?_
  clear hnx
  repeat' (refine kr_ ?_)
  obtain⟨nb,hnb⟩: ∃n,m.nodes[a']?=some n:=⟨_,List.getElem?_eq_getElem ha'⟩
  obtain⟨b,oo,ha2,e0,e1,e2,e3,e4,e5,e6,e7,e8⟩:=hs.nodes.at hnb
  refine⟨b,oo,ha2,(by first|omega|(dsimp only;omega)),(by first|omega|(dsimp only;omega)),_,by rw [Int.toNat_natCast];exact e6,_,by rw [Int.toNat_natCast];exact e7,?_⟩
  clear e0 e1 e2 e3 e4 e5 e6 e7 e8 hs
  obtain⟨⟨v1,v2⟩,v3,v4⟩:=mv (th d hnb)
  refine kw_ ?_
  intro h5 K5 kpz
  clear kpz
  have K5':Kn g h5 ((b54, .inl ⟨[I nb.sort.idx,I nb.sort.wid],2,false⟩)::(b16, .inl ⟨nodeCells ⟨kd,a',0,0,0,0,⟨0,0⟩,⟨#[]⟩⟩,9,false⟩)::(b10, .inl ⟨dT,5,false⟩)::(b8, .inl ⟨aG M,5,false⟩)::(B,rdC s (q+1))::(A++X)):=K5
  clear K5 K4
  (refine kr_ ?_)
  refine ad (fun e=>?_) (fun e=>?_)
  ·repeat' (refine kr_ ?_)
   refine EO K5' (by((focus ((repeat first|exact .head|apply Upd.tail);done)))) fun h8 K8=>?_
   exact k h8 (q+1) X M m K8.tl.tl.tl.tl o (d.more (by omega)) hne (by omega)
  have hi1:nb.sort.idx≠0:=fun q=>by rw [q]at e;simp at e
  repeat' (refine kr_ ?_)
  refine cd ⟨_,_,rfl,?_⟩
  repeat' (refine kr_ ?_)
  refine wE (p:=q+1) (A:=(b54, .inl ⟨[I nb.sort.idx,I nb.sort.wid],2,false⟩)::(b16, .inl ⟨nodeCells ⟨kd,a',0,0,0,0,⟨0,0⟩,⟨#[]⟩⟩,9,false⟩)::(b10, .inl ⟨dT,5,false⟩)::(b8, .inl ⟨aG M,5,false⟩)::A) (st:=⟨0,nb.sort.idx⟩)
   (K5'.perm (A9 _ _ _ _ _ _)) hb o d (by omega) hne (by omega) (yL (by omega) (by omega) (by omega) (by omega)) fun h6 q6 X6 M6 m6 i6 K6 o6 d6 hi6 hl6 hq6=>⟨_,_,_,_,_,_,rfl,?_⟩
  replace K6:=K6.perm (A9 _ _ _ _ _ _).symm
  clear K5'
  refine vp (M':=M6) K6 (by((focus ((repeat first|exact .head|apply Upd.tail);done)))) rfl fun h7 K7=>?_
  clear K6
  refine kw_ ?_
  intro h8 K8 kpz
  clear kpz
  have K8':Kn g h8 ((b54, .inl ⟨[I nb.sort.idx,I nb.sort.wid],2,false⟩)::(b16, .inl ⟨nodeCells ⟨kd,a',i6,0,0,0,⟨0,0⟩,⟨#[]⟩⟩,9,false⟩)::(b10, .inl ⟨dT,5,false⟩)::(b8, .inl ⟨aG M6,5,false⟩)::(B,rdC s q6)::(A++X6)):=K8
  clear K8 K7
  (refine kr_ ?_)
  refine ad (fun e=>?_) (fun e=>?_)
  ·repeat' (refine kr_ ?_)
   refine cd ⟨_,_,rfl,?_⟩
   repeat' (refine kr_ ?_)
   refine wE (p:=q6) (A:=(b54, .inl ⟨[I nb.sort.idx,I nb.sort.wid],2,false⟩)::(b16, .inl ⟨nodeCells ⟨kd,a',i6,0,0,0,⟨0,0⟩,⟨#[]⟩⟩,9,false⟩)::(b10, .inl ⟨dT,5,false⟩)::(b8, .inl ⟨aG M6,5,false⟩)::A) (st:=⟨0,nb.sort.wid⟩)
    (K8'.perm (A9 _ _ _ _ _ _)) hb o6 d6 (by omega) (by omega) (by omega) (yL (by omega) (by omega) (by omega) (by omega)) fun h9 q9 X9 M9 m9 i9 K9 o9 d9 hi9 hl9 hq9=>⟨_,_,_,_,_,_,rfl,?_⟩
   replace K9:=K9.perm (A9 _ _ _ _ _ _).symm
   clear K8'
   refine vp (M':=M9) K9 (by((focus ((repeat first|exact .head|apply Upd.tail);done)))) rfl fun h10 K10=>?_
   clear K9
   refine kw_ ?_
   intro h11 K11 kpz
   clear kpz
   exact hJ h11 q9 X9 M9 m9 ⟨kd,a',i6,i9,0,0,⟨0,0⟩,⟨#[]⟩⟩ _ rfl rfl o9 d9 (by omega) (by omega) K11
  ·exact hJ h8 q6 X6 M6 m6 ⟨kd,a',i6,0,0,0,⟨0,0⟩,⟨#[]⟩⟩ _ rfl rfl o6 (d6.more (by omega)) (by omega) (by omega) K8'
 (refine kr_ ?_)
 refine ad (fun _=>?_) (fun _=>?_)
 ·(refine kr_ ?_)
  refine kp_ ?_
  intro y h10 K10 _ _
  refine⟨_,rfl,?_⟩
  clear K9'
  refine kw_ ?_
  intro h11 K11 kpz
  clear kpz
  exact hJ h11 _ X M m ⟨kd,a,y,0,0,0,⟨0,0⟩,⟨#[]⟩⟩ _ rfl rfl o (d.more (by omega)) hne (by omega) K11
 (refine kr_ ?_)
 refine ad (fun _=>?_) (fun _=>?_)
 ·(refine kr_ ?_)
  refine kp_ ?_
  intro y h10 K10 hy _
  refine⟨_,rfl,?_⟩
  replace hy:(y:Int)<na.sort.wid:=hy (by omega)
  clear K9'
  refine kw_ ?_
  intro h11 K11 kpz
  clear kpz
  have K11':Kn g h11 ((b54, .inl ⟨[I na.sort.idx,I na.sort.wid],2,false⟩)::(b16, .inl ⟨nodeCells ⟨kd,a,0,0,0,y,⟨0,0⟩,⟨#[]⟩⟩,9,false⟩)::(b10, .inl ⟨dT,5,false⟩)::(b8, .inl ⟨aG M,5,false⟩)::(B,rdC s (q+1+1))::(A++X)):=K11
  clear K11 K10
  repeat' (refine kr_ ?_)
  (((with_reducible apply TF);(assumption);(assumption);((focus ((repeat first|exact .head|apply Upd.tail);done)))))
  ·omega
  ·(show W (na.sort.wid-(y:Int))<=1000000000);rw [bQ (by omega) (by omega)];omega
  intro w h12 K12 _ _
  refine⟨_,rfl,?_⟩
  repeat' (refine kr_ ?_)
  clear K11'
  refine kw_ ?_
  intro h13 K13 kpz
  clear kpz
  exact hJ h13 _ X M m ⟨kd,a,0,0,W ((y:Int)+(w:Int)),y,⟨0,0⟩,⟨#[]⟩⟩ _ rfl rfl o (d.more (by omega)) hne (by omega) K13
 refine aq (fun J=> ∀c,J c) (fun c=>?_) (fun J hJ=>?_)
 rotate_left
 ·(refine kr_ ?_)
  refine ad (fun _=>hJ _) (fun _=>?_)
  (refine kr_ ?_)
  exact hJ _
 refine ad (fun _=>?_) (fun _=>?_)
 ·refine kp_ ?_
  intro y h10 K10 _ _
  refine⟨_,rfl,?_⟩
  clear K9'
  refine kw_ ?_
  intro h11 K11 kpz
  clear kpz
  exact hJ h11 _ X M m ⟨kd,a,0,0,y,0,⟨0,0⟩,⟨#[]⟩⟩ _ rfl rfl o (d.more (by omega)) hne (by omega) K11
 (refine kr_ ?_)
 refine kC ⟨_,rfl,?_⟩
 refine ad (fun _=>?_) (fun _=>?_)
 ·repeat' (refine kr_ ?_)
  refine wE (p:=q+1) (A:=(b54, .inl ⟨[I na.sort.idx,I na.sort.wid],2,false⟩)::(b16, .inl ⟨nodeCells ⟨kd,a,0,0,0,0,⟨0,0⟩,⟨#[]⟩⟩,9,false⟩)::(b10, .inl ⟨dT,5,false⟩)::(b8, .inl ⟨aG M,5,false⟩)::A) (st:=na.sort)
   (K9'.perm (A9 _ _ _ _ _ _)) hb o d (by omega) hne (by omega) hst fun h6 q6 X6 M6 m6 i6 K6 o6 d6 hi6 hl6 hq6=>⟨_,_,_,_,_,_,rfl,?_⟩
  replace K6:=K6.perm (A9 _ _ _ _ _ _).symm
  clear K9'
  refine vp (M':=M6) K6 (by((focus ((repeat first|exact .head|apply Upd.tail);done)))) rfl fun h7 K7=>?_
  clear K6
  refine kw_ ?_
  intro h8 K8 kpz
  clear kpz
  exact hJ h8 q6 X6 M6 m6 ⟨kd,a,i6,0,0,0,⟨0,0⟩,⟨#[]⟩⟩ _ rfl rfl o6 (d6.more (by omega)) (by omega) (by omega) K8
 ·exact hJ h9 _ X M m ⟨kd,a,0,0,0,0,⟨0,0⟩,⟨#[]⟩⟩ _ rfl rfl o (d.more (by omega)) hne (by omega) K9'
end Go.Lead
