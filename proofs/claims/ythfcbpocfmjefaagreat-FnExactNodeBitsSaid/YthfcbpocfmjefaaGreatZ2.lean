/- What functions of the program and of the reference come to, walked one by one, and plain laws about it: part 3. No condition is added to the statement. -/
import Derived.Test.YthfcbpocfmjefaaGreatZ1
namespace Go.Lead
open Go
set_option linter.unusedSimpArgs false
set_option linter.unusedVariables false
set_option maxRecDepth 100000
set_option maxHeartbeats 1000000
def VL (v:List Nat):List Int:=v.map fun(x:Nat)=>(x:Int)
theorem aY (v:List Nat):(VL v).length=v.length:=by simp [VL]
theorem adP {v:List Nat} {i:Nat} (h:i<v.length):(VL v)[i]?=some ((v.getD i 0:Nat):Int):=by
 rw [List.getD_eq_getElem?_getD,List.getElem?_eq_getElem h];simp [VL,h]
theorem H0 {a b:List Nat}:VL a=VL b↔a=b:=by
 constructor
 ·intro h
  apply List.ext_getElem
  ·have:=congrArg List.length h;simpa [VL] using this
  ·intro i h1 h2
   have:=congrArg (fun l:List Int=>l[i]?) h
   simp only [VL,List.getElem?_map,List.getElem?_eq_getElem h1,List.getElem?_eq_getElem h2,Option.map_some,Option.some.injEq]at this
   omega
 ·rintro rfl;rfl
def gD (h:Hp) (s:Sl) (vs:List (List Nat)):Prop:=
 vs.length<=s.n/\s.n<=1048576/\ ∀p,p<vs.length-> ∃b o t,s.a=some (Addr.mk b o none)/\Hp.cell h b (o+p*1)=some (Sl.v t)/\IntS h t (VL (vs.getD p []))
theorem gD.mono {h h':Hp} {s:Sl} {vs:List (List Nat)} (l:h.le h') (e:gD h s vs):gD h' s vs:=
 ⟨e.1,e.2.1,fun p hp=>by
  obtain⟨b,o,t,h1,h2,h3⟩:=e.2.2 p hp
  exact⟨b,o,t,h1,l.cell h2,h3.mono l⟩⟩
theorem IntS.elt {h:Hp} {t:Sl} {v:List Nat} (e:IntS h t (VL v)) {i:Nat} (hi:i<v.length): ∃b o,t.a=some (Addr.mk b o none)/\Hp.cell h b (o+i*1)=some (I (v.getD i 0:Nat))/\i<t.n:=
 have ⟨b,o,h1,h2⟩:=e.get (adP hi)
 ⟨b,o,h1,h2,by have:=e.len;rw [aY]at this;omega⟩
theorem gD.at {h:Hp} {s:Sl} {vs:List (List Nat)} (e:gD h s vs) {p:Int} (h0:0<=p) (hp:p<vs.length):
  ∃b o t,s.a=some (Addr.mk b o none)/\p<(s.n:Int)/\Hp.cell h b (o+p.toNat*1)=some (Sl.v t)/\IntS h t (VL (vs.getD p.toNat [])):=by
 obtain⟨b,o,t,h1,h2,h3⟩:=e.2.2 p.toNat (by omega)
 exact⟨b,o,t,h1,by have:=e.1;omega,h2,h3⟩
theorem vp {h:Hp} {b z:Nat} {s:Sl} {vs:List (List Nat)} {p:Int} {R:Value->Hp->Prop} (hv:gD h s vs) (h0:0<=p) (hp:p<vs.length) (hne:0<(vs.getD p.toNat []).length)
  (f:h b=some (.inl ⟨[s.v],z,false⟩)) (k:R (I (cJ vs p)) h):cm #[I p, .pointer (some ⟨b,0,none⟩)] h R:=by
 apply yU
 refine uf_ ?_
 (refine aC ?_)
 obtain⟨b',o,t,ha,hlt,hc,ht⟩:=hv.at h0 hp
 refine⟨b',o,ha,h0,hlt,t,hc,?_⟩
 obtain⟨b2,o2,ha2,hc2,hl2⟩:=ht.elt hne
 exact⟨b2,o2,ha2,by omega,by omega,_,hc2,k⟩
theorem JZ {h:Hp} {x:Int} {R:Value->Hp->Prop} (k: ∀t h',h.le h'->IntS h' t [x]->R (.agg #[Sl.v t]) h'):cR #[I x] h R:=by
 apply yB
 refine uf_ ?_
 refine ai fun b3 h1 hb3 l1 f3=>?_
 refine ai fun b6 h2 hb6 l2 f6=>?_
 have ne:=fresh_ne hb6 f3
 (with_reducible apply co);(exact l2 _ _ f3);(exact Hp.le_trans l1 l2);(exact hb3);(exact Nat.le_refl 1)
 intro h3 g3 kp l3
 refine⟨⟨some ⟨b6,0,none⟩,1,1⟩,by rw [av g3];rfl,k _ h3 l3 ?_⟩
 exact⟨by dsimp only;omega,rfl, .inr ⟨b6,0,rfl,au (cy kp ne.symm f6)⟩⟩
theorem zh {h:Hp} {s t:Sl} {xs ys:List Int} {R:Value->Hp->Prop} (hs:IntS h s xs) (ht:IntS h t ys) (hl:xs.length<=1048576)
  (k:R (.bool (decide (xs=ys))) h):gQ #[s.v,t.v] h R:=by
 apply we
 refine uf_ ?_
 have hn:=hs.len
 have hm:=ht.len
 refine ad (fun e=>dD ?_ k) (fun e=>?_)
 ·have: ¬(s.n:Int)=t.n:=jT e
  symm;rw [decide_eq_false_iff_not]
  rintro rfl;omega
 have hnm:xs.length=ys.length:=by have:=ja e;omega
 refine ar xs.length (fun i vs h'=>vs= [s.v,t.v,I s.n,I i]/\h'=h/\xs.take i=ys.take i) ⟨rfl,rfl,by simp⟩ ?_
 rintro i _ h' next hi ⟨rfl,rfl,hg⟩ hnx
 refine⟨s,t,_,_,rfl,?_⟩
 by_cases hlt:i<xs.length
 ·refine aL (by simp;omega) ?_
  obtain⟨b,o,ha,hc⟩:=hs.get (List.getElem?_eq_getElem hlt)
  obtain⟨b2,o2,ha2,hc2⟩:=ht.get (List.getElem?_eq_getElem (show i<ys.length by omega))
  refine⟨b,o,ha,by omega,by omega,b2,o2,ha2,by omega,by omega,_,hc,_,hc2,?_⟩
  refine ad (fun e=>dD ?_ k) (fun e=>?_)
  ·symm;rw [decide_eq_false_iff_not]
   rintro rfl;exact jT e rfl
  ·rw [aw (by omega)]
   exact hnx hlt _ _ ⟨rfl,rfl,vU hlt (by omega) hg (ja e)⟩
 ·refine aA (by simp;omega) (dD ?_ k)
  symm;rw [decide_eq_true_iff]
  rwa [List.take_of_length_le (by omega),List.take_of_length_le (by omega)]at hg
theorem IntS.keep {h h':Hp} {t:Sl} {xs:List Int} {b z:Nat} {a:Option Addr} {n c:Nat} (e:IntS h t xs) (f:h b=some (.inl ⟨[.slice a n c],z,false⟩)) (kp: ∀c,c≠b->h' c=h c):IntS h' t xs:=by
 refine⟨e.1,e.2.1,?_⟩
 rcases e.2.2 with h0|⟨b',o,ha,hc⟩
 ·exact .inl h0
 ·by_cases h0:t.n=0
  ·exact .inl h0
  refine .inr ⟨b',o,ha,fun i v hv=>?_⟩
  have hne:b'≠b:=by
   rintro rfl
   have hlen:=e.len
   have hx:(xs.map I)[0]?=some (I (xs[0]'(by omega))):=by simp
   have:=hc 0 _ hx
   rw [av f]at this
   generalize o+0=j at this
   cases j with
   |zero=>simp at this
   |succ j=>simp at this
  have:=hc i v hv
  unfold Hp.cell at this⊢
  rw [kp b' hne];exact this
theorem SD {h:Hp} {l:List NodeP} {i:Nat} {n:NodeP} {s:Sl} {v:List (List Nat)} {f:FuncId} {u w:Array Value} {R:Value->Hp->Prop} (hl:l.length<=60) (hi:i<=l.length)
  (ht:OI l i n) (hv:yX l i v) (hvl:v.length=i) (hpv:gD h s v) (hk35: ¬n.kind=35) (hk36: ¬n.kind=36)
  (hf: ∀p:Int,0<=p->p<l.length-> ∀h',h.le h'-> ∀R':Value->Hp->Prop,R' (vJ (az l p)) h'->ACalls PR f ((u++ #[I p])++w) h' R')
  (k: ∀t h',h.le h'->IntS h' t (VL (fH l n v))->R (.agg #[Sl.v t]) h'):lp #[wv n,s.v, .func (.func f) u w] h R:=by
 obtain⟨val,hnv⟩: ∃val,val=fH l n v:=⟨_,rfl⟩
 rw [<-hnv]at k
 unfold fH at hnv
 apply B8
 refine uf_ ?_
 refine ai fun b15 h1 hb15 l1 f15=>?_
 refine ai fun b17 h2 hb17 l2 f17=>?_
 replace f15:=l2 _ _ f15
 replace l2:=Hp.le_trans l1 l2
 refine ai fun b19 h3 hb19 l3 f19=>?_
 have n15:=fresh_ne hb19 f15
 have n17:=fresh_ne hb19 f17
 have b0:=aF l2 hb19
 replace f15:=l3 _ _ f15
 replace f17:=l3 _ _ f17
 have l0:=Hp.le_trans l2 l3
 clear l1 l2 l3 hb15 hb17 hb19 h1 h2
 have res: ∀(h4:Hp) (t:Sl),h.le h4->h4 b19=some (.inl ⟨[.slice none 0 0],1,false⟩)->IntS h4 t (VL val)->
   ∃(cs:List Value) (z:Nat),h4 b19=some (.inl ⟨cs,z,false⟩)/\0+1<=List.length cs/\cG (h4.row b19 (cl cs 0 [t.v]) z) fun h'=> ∃(s:Sl),Hp.cell h' b19 0=some s.v/\R (.agg #[s.v]) h':=by
  intro h4 t l4 g19 hval
  (with_reducible apply co);(exact g19);(exact l4);(exact b0);(exact Nat.le_refl 1)
  intro h5 g kp l5
  exact⟨t,by rw [av g];rfl,k t h5 l5 (hval.keep g19 kp)⟩
 clear k
 have wres: ∀(x:Nat) (z:Int),z=x->val= [x]->cR #[I z] h3 fun v30 h31=> ∃(s32:Sl),v30=(.agg #[s32.v])/\(∃(cs33:List Value) (z34:Nat),h31 b19=some (.inl ⟨cs33,z34,false⟩)/\0+1<=List.length cs33/\cG (h31.row b19 (cl cs33 0 [s32.v]) z34) fun h35=> ∃(s36:Sl),Hp.cell h35 b19 0=some s36.v/\(R (.agg #[s36.v]) h35)):=by
  intro x z hz hx
  subst hz
  refine JZ fun t h4 l4 hval=>⟨t,rfl,res h4 t (Hp.le_trans l0 l4) (l4 _ _ f19) ?_⟩
  rw [hx];exact hval
 have hpv3:=hpv.mono l0
 have hk:=ht.kind
 have pk:=ht.part
 have pf: ∀j:Nat,j<3->(j:Int)<ak n.kind->Fit (az l (aO n j)) (v.getD (aO n j).toNat []):=fun j h1 h2=>hv.part ht hi h1 h2
 have cel: ∀j:Nat,j<3->(j:Int)<ak n.kind-> ∀R':Value->Hp->Prop,R' (I (cJ v (aO n j))) h3->cm #[I (aO n j), .pointer (some ⟨b17,0,none⟩)] h3 R':=fun j h1 h2 R' k=>
  vp hpv3 (pk j h1 h2).1 (by have:=(pk j h1 h2).2.1;omega) (pf j h1 h2).pos f17 k
 have srt: ∀j:Nat,j<3->(j:Int)<ak n.kind-> ∀R':Value->Hp->Prop,R' (vJ (az l (aO n j))) h3->ACalls PR f ((u++ #[I (aO n j)])++w) h3 R':=fun j h1 h2 R' k=>
  hf _ (pk j h1 h2).1 (by have:=(pk j h1 h2).2.1;omega) h3 l0 R' k
 have vat: ∀j:Nat,j<3->(j:Int)<ak n.kind->_:=fun j h1 h2=>hpv3.at (pk j h1 h2).1 (by have:=(pk j h1 h2).2.1;omega)
 have hres:=ht.res
 (refine aC ?_)
 refine ad (fun e=>?_) (fun e34=>?_)
 ·have e:=bU e
  obtain⟨c1,c2⟩:=ht.const e
  have:=kg.1 c2
  (refine aC ?_)
  exact wres n.n.toNat n.n (by omega) (by rw [if_pos e]at hnv;exact hnv)
 replace e34:=bz e34
 have hp:0<ak n.kind:=by
  have:ak n.kind≠0:=by intro h0;revert h0;unfold ak;(repeat' split)<;>(intro h;omega)
  omega
 replace hres:=hres hp
 have oa:=bZ.1 (pk 0 (by omega) hp).2.2
 rw [if_neg e34]at hnv
 have hkinds:=lF hp
 refine ad (fun e=>?_) (fun e33=>?_)
 ·have e:=bU e
  have hp3:ak n.kind=3:=by omega
  rw [if_pos e]at hnv
  (refine aC ?_)
  refine cel 0 (by omega) (by omega) _ ⟨_,rfl,ad (fun e=>?_) (fun e=>?_)⟩
  ·repeat' (refine aC ?_)
   obtain⟨b,o,t,ha,h1,h2,h3'⟩:=vat 1 (by omega) (by omega)
   refine⟨b,o,ha,(pk 1 (by omega) (by omega)).1,h1,t,h2,res _ _ l0 f19 ?_⟩
   rw [hnv,if_pos (by have:=bU e;simp only [aO]at this;omega)];exact h3'
  ·repeat' (refine aC ?_)
   obtain⟨b,o,t,ha,h1,h2,h3'⟩:=vat 2 (by omega) (by omega)
   refine⟨b,o,ha,(pk 2 (by omega) (by omega)).1,h1,t,h2,res _ _ l0 f19 ?_⟩
   rw [hnv,if_neg (by have:=bz e;simp only [aO]at this;omega)];exact h3'
 replace e33:=bz e33
 rw [if_neg e33]at hnv
 refine ad (fun e=>?_) (fun e21=>?_)
 ·have e:=bU e
  have hp2:ak n.kind=2:=by omega
  rw [if_pos e]at hnv
  repeat' (refine aC ?_)
  obtain⟨b,o,t,ha,h1,h2,h3'⟩:=vat 0 (by omega) (by omega)
  refine⟨b,o,ha,(pk 0 (by omega) (by omega)).1,h1,t,h2,?_⟩
  repeat' (refine aC ?_)
  obtain⟨b',o',t',ha',h1',h2',h3''⟩:=vat 1 (by omega) (by omega)
  refine⟨b',o',ha',(pk 1 (by omega) (by omega)).1,h1',t',h2',?_⟩
  have fl:=(pf 0 (by omega) (by omega)).len
  refine zh h3' h3'' (by rw [aY,fl];have:=Nat.pow_le_pow_right (n:=2) (by omega) (show (az l (aO n 0)).idx.toNat<=2 by omega);omega) ⟨_,rfl,C3 ⟨_,rfl,?_⟩⟩
  refine wres _ _ ?_ hnv
  simp only [aO,H0]
  split<;>simp_all
 replace e21:=bz e21
 rw [if_neg e21]at hnv
 refine ad (fun e=>?_) (fun e37=>?_)
 ·have e:=bU e
  have hp2:ak n.kind=2:=by omega
  obtain⟨r1,r2,r3⟩:=Tf e hres
  rw [if_pos e]at hnv
  repeat' (refine aC ?_)
  obtain⟨b,o,t,ha,h1,h2,h3'⟩:=vat 0 (by omega) (by omega)
  refine⟨b,o,ha,(pk 0 (by omega) (by omega)).1,h1,t,h2,?_⟩
  (refine aC ?_)
  refine cel 1 (by omega) (by omega) _ ⟨_,rfl,rfl,rfl,rfl,?_⟩
  have fb:=(pf 1 (by omega) (by omega)).cell
  have fa:=(pf 0 (by omega) (by omega)).len
  simp only [aO]at fb fa h3'
  rw [r2]at fb
  have hlt:cJ v n.b<(v.getD n.a.toNat []).length:=by rw [fa];exact fb
  obtain⟨b2,o2,ha2,hc2,hl2⟩:=h3'.elt hlt
  refine⟨b2,o2,ha2,by omega,by simp only [aO];omega,_,hc2,?_⟩
  exact wres _ _ rfl hnv
 replace e37:=bz e37
 rw [if_neg e37]at hnv
 simp only [aO]at oa
 refine ad (fun e=>?_) (fun e38=>?_)
 ·have e:=bU e
  have hp3:ak n.kind=3:=by omega
  obtain⟨r1,r2,r3,r4⟩:=SO e hres
  rw [if_pos e]at hnv
  repeat' (refine aC ?_)
  obtain⟨b,o,t,ha,h1,h2,h3'⟩:=vat 0 (by omega) (by omega)
  refine⟨b,o,ha,(pk 0 (by omega) (by omega)).1,h1,t,h2,?_⟩
  have fb:=(pf 1 (by omega) (by omega)).cell
  have fa:=(pf 0 (by omega) (by omega)).len
  simp only [aO]at fb fa h3'
  rw [r2]at fb
  have hlt:cJ v n.b<(v.getD n.a.toNat []).length:=by rw [fa];exact fb
  have hle4:(v.getD n.a.toNat []).length<=4:=by
   rw [fa];have:=Nat.pow_le_pow_right (n:=2) (by omega) (show (az l n.a).idx.toNat<=2 by omega);simpa using this
  refine lW h3' (by rw [aY];omega) fun c h4 l4 hb4=>⟨c,rfl,?_⟩
  have hcn:c.n=(v.getD n.a.toNat []).length:=by have:=hb4.1;rw [List.length_map,aY]at this;omega
  obtain⟨bc,hca,hcrow⟩: ∃bc,c.a=some ⟨bc,0,none⟩/\(h4.sub h3) bc=some (.inl ⟨(VL (v.getD n.a.toNat [])).map I,c.c*1,false⟩):=by
   rcases hb4.2.2 with ⟨_,h0,_⟩|h0
   ·omega
   ·exact h0
  have hc4:h4 bc=some (.inl ⟨(VL (v.getD n.a.toNat [])).map I,c.c*1,false⟩):=sub_le _ _ _ _ hcrow
  have hc3:h3 bc=none:=by
   cases hx:h3 bc with
   |none=>rfl
   |some x=>rw [m8 hx]at hcrow;cases hcrow
  have g15:=l4 _ _ f15
  have g17:=l4 _ _ f17
  have g19:=l4 _ _ f19
  refine ai fun b24 h5 hb24 l5 f24'=>?_
  have m15:=fresh_ne hb24 g15
  have m17:=fresh_ne hb24 g17
  have m19:=fresh_ne hb24 g19
  have mc:=fresh_ne hb24 hc4
  have hb24n:=aF l4 hb24
  have l35:=Hp.le_trans l4 l5
  (with_reducible apply co);(exact f24');(exact l35);(exact hb24n);(exact Nat.le_refl 1)
  intro h6 f24 kp l6
  replace g15:=cy kp m15 (l5 _ _ g15)
  replace g17:=cy kp m17 (l5 _ _ g17)
  replace g19:=cy kp m19 (l5 _ _ g19)
  have gc:=cy kp mc (l5 _ _ hc4)
  have l06:=Hp.le_trans l0 l6
  have hpv6:=hpv3.mono l6
  refine⟨c,by rw [av f24];rfl,?_⟩
  repeat' (refine aC ?_)
  refine vp hpv6 (pk 1 (by omega) (by omega)).1 (by have:=(pk 1 (by omega) (by omega)).2.1;simp only [aO]at this⊢;omega) (pf 1 (by omega) (by omega)).pos g17 ⟨_,rfl,rfl,rfl,?_⟩
  refine vp hpv6 (pk 2 (by omega) (by omega)).1 (by have:=(pk 2 (by omega) (by omega)).2.1;simp only [aO]at this⊢;omega) (pf 2 (by omega) (by omega)).pos g17 ⟨_,rfl,rfl,?_⟩
  refine⟨bc,0,hca,by omega,by omega,?_⟩
  (with_reducible apply co);(exact gc);(exact l6);(exact hc3);(rw [List.length_map,aY];omega)
  intro h7 gc' kp7 l7
  have n24:b24≠bc:=fun e=>mc e.symm
  have n19c:b19≠bc:=fun e=>by subst e;rw [hc3]at f19;cases f19
  replace f24:=cy kp7 n24 f24
  refine⟨c,by rw [av f24];rfl,?_⟩
  refine res h7 c (Hp.le_trans l0 l7) (cy kp7 n19c g19) ?_
  have hcells:cl ((VL (v.getD n.a.toNat [])).map I) (0+Int.toNat (cJ v n.b:Int)*1) [I (cJ v n.c)]=(VL val).map I:=by
   rw [hnv,bD,Int.toNat_natCast,Nat.mul_one,Nat.zero_add]
   simp [VL,List.map_set]
  rw [hcells]at gc'
  refine⟨by omega,by simp [aY,hnv,hcn], .inr ⟨bc,0,hca,au gc'⟩⟩
 replace e38:=bz e38
 rw [if_neg e38]at hnv
 have word0: ∀wn:Nat,(az l n.a).wid=wn->WO wn (cJ v n.a):=fun wn hw=>by
  have:=(pf 0 (by omega) (by omega)).cell
  simp only [aO]at this
  rw [hw]at this
  refine⟨by omega,this⟩
 obtain⟨wa,hwa⟩: ∃wn:Nat,(az l n.a).wid=wn:=⟨(az l n.a).wid.toNat,by omega⟩
 have hwo:=word0 wa hwa
 have h16:=hwo.pow
 have hlta:=hwo.2
 rw [hwa,Int.toNat_natCast]at hnv
 refine ad (fun e=>?_) (fun e29=>?_)
 ·have e:=bU e
  have hp2:ak n.kind=2:=by omega
  obtain⟨r1,r2,r3,r4⟩:=Tq e hres
  rw [if_pos e]at hnv
  have ob:=bZ.1 (pk 1 (by omega) (by omega)).2.2
  simp only [aO]at ob
  obtain⟨wb,hwb⟩: ∃wn:Nat,(az l n.b).wid=wn:=⟨(az l n.b).wid.toNat,by omega⟩
  have hltb:=(pf 1 (by omega) (by omega)).cell
  simp only [aO]at hltb
  rw [hwb,Int.toNat_natCast]at hltb
  rw [hwb,Int.toNat_natCast]at hnv
  have hpb:=Bb (w:=wb) (by omega)
  have hmul:=ET (a:=cJ v n.a) (b:=2^wb) (by omega) hpb
  have hltb':cJ v n.b<2^wb:=hltb
  repeat' (refine aC ?_)
  refine cel 0 (by omega) (by omega) _ ⟨_,rfl,rfl,rfl,?_⟩
  refine srt 1 (by omega) (by omega) _ ⟨_,_,rfl,rfl,?_⟩
  simp only [aO,hwb]
  rw [if_neg (by omega)]
  refine cel 1 (by omega) (by omega) _ ⟨_,rfl,?_⟩
  refine wres _ _ ?_ hnv
  simp only [aO]
  rw [iU (by omega) (by omega),bQ (by omega) (by omega)];omega
 replace e29:=bz e29
 rw [if_neg e29]at hnv
 refine ad (fun e=>?_) (fun e30=>?_)
 ·have e:=bU e
  obtain⟨r1,r2,r3⟩:=SR e hres
  rw [if_pos e]at hnv
  obtain⟨lo,hlo⟩: ∃z:Nat,n.m=z:=⟨n.m.toNat,by omega⟩
  obtain⟨sz,hsz⟩: ∃z:Nat,n.n-n.m+1=z:=⟨(n.n-n.m+1).toNat,by omega⟩
  repeat' (refine aC ?_)
  refine cel 0 (by omega) (by omega) _ ⟨_,rfl,rfl,rfl,rfl,?_⟩
  rw [if_neg (by omega),bQ (n:=n.n-n.m) (by omega) (by omega),bQ (n:=n.n-n.m+1) (by omega) (by omega),hsz]
  refine dz (by omega) ⟨_,rfl,rfl,?_⟩
  refine wres _ _ ?_ hnv
  unfold RP
  simp only [aO]
  rw [hlo]at hsz⊢
  rw [hsz,Int.toNat_natCast,Int.toNat_natCast,jn (by omega),gP (by omega),oK]
 replace e30:=bz e30
 rw [if_neg e30]at hnv
 refine aq (fun J=>J (decide (n.kind=31\/n.kind=32))) ?_ (fun J hJ=>?_)
 rotate_left
 ·clear res wres hf cel srt vat
  repeat' (first|(with_reducible first|refine aL (b:=true) rfl ?_|refine aA (b:=false) rfl ?_|refine ad (fun _=>?_) fun _=>?_)|(refine aC ?_)|(refine gn ?_ hJ))
  all_goals (clear hJ;have:= @decide_eq_true_eq;rw [Bool.eq_iff_iff];simp_all)
 refine ad (fun e=>?_) (fun e31=>?_)
 ·have e:=of_decide_eq_true e
  obtain⟨r1,r2,r3⟩:=SK e hres
  rw [if_pos e]at hnv
  obtain⟨mo,hmo⟩: ∃z:Nat,n.n=z:=⟨n.n.toNat,by omega⟩
  repeat' (refine aC ?_)
  refine srt 0 (by omega) (by omega) _ ⟨_,_,rfl,rfl,rfl,rfl,?_⟩
  refine cel 0 (by omega) (by omega) _ ⟨_,rfl,rfl,rfl,?_⟩
  simp only [aO,hwa,hmo]
  refine VY hwo (by omega) ⟨_,rfl,?_⟩
  refine wres _ _ ?_ hnv
  rw [hmo,Int.toNat_natCast];rfl
 replace e31:=of_decide_eq_false e31
 rw [if_neg e31]at hnv
 (refine aC ?_)
 refine fe ⟨_,rfl,ad (fun e=>?_) (fun e1=>?_)⟩
 ·have e:=bU e
  rw [if_pos e]at hnv
  repeat' (refine aC ?_)
  refine srt 0 (by omega) (by omega) _ ⟨_,_,rfl,rfl,rfl,?_⟩
  refine cel 0 (by omega) (by omega) _ ⟨_,rfl,rfl,?_⟩
  simp only [aO,hwa]
  exact Y0 (by omega) hwo ⟨_,_,rfl,wres _ _ rfl hnv⟩
 ·replace e1:=bz e1
  rw [if_neg e1]at hnv
  have hp2:ak n.kind=2:=by omega
  obtain⟨r1,r2,r3⟩:=acm (by omega) hres
  have hltb:=(pf 1 (by omega) (by omega)).cell
  simp only [aO]at hltb
  rw [<-r2,hwa,Int.toNat_natCast]at hltb
  repeat' (refine aC ?_)
  refine srt 0 (by omega) (by omega) _ ⟨_,_,rfl,rfl,rfl,rfl,?_⟩
  refine cel 0 (by omega) (by omega) _ ⟨_,rfl,rfl,rfl,?_⟩
  refine cel 1 (by omega) (by omega) _ ⟨_,rfl,rfl,?_⟩
  simp only [aO,hwa]
  exact XF (by omega) hwo ⟨hwo.1,hltb⟩ ⟨_,_,rfl,wres _ _ rfl hnv⟩
def ww (cs:List Value):Prop:= ∀(j:Nat) (i:Int),cs[j]?≠some (I i)
theorem IntS.keepN {h h':Hp} {t:Sl} {xs:List Int} {b z:Nat} {cs:List Value} {ro:Bool} (e:IntS h t xs) (f:h b=some (.inl ⟨cs,z,ro⟩)) (hn:ww cs) (kp: ∀c,c≠b->h' c=h c):IntS h' t xs:=by
 refine⟨e.1,e.2.1,?_⟩
 rcases e.2.2 with h0|⟨b',o,ha,hc⟩
 ·exact .inl h0
 ·by_cases h0:t.n=0
  ·exact .inl h0
  refine .inr ⟨b',o,ha,fun i v hv=>?_⟩
  have hne:b'≠b:=by
   rintro rfl
   have hlen:=e.len
   have hx:(xs.map I)[0]?=some (I (xs[0]'(by omega))):=by simp
   have:=hc 0 _ hx
   rw [av f]at this
   exact hn _ _ this
  have:=hc i v hv
  unfold Hp.cell at this⊢
  rw [kp b' hne];exact this
theorem Et (ts:List Sl) (k:Nat):ww (ts.map Sl.v++List.replicate k (.slice none 0 0)):=by
 intro j i h
 have hm:=List.mem_of_getElem? h
 rcases List.mem_append.1 hm with hm|hm
 ·obtain⟨t,_,ht⟩:=List.mem_map.1 hm
  cases ht
 ·have:=List.eq_of_mem_replicate hm
  cases this
theorem IntSS.tail {h:Hp} {s:Sl} {x:List Int} {xs:List (List Int)} (e:IntSS h s (x::xs)) (hc:s.n<=s.c) {b o:Nat} (ha:s.a=some ⟨b,o,none⟩):
  IntSS h ⟨some ⟨b,if s.c=1 then o else o+1*1,none⟩,s.n-1,s.c-1⟩ xs:=by
 obtain⟨ts,h1,h2,h3⟩:=e
 cases ts with
 |nil=>simp at h1
 |cons t ts=>
  have hn:s.n=ts.length+1:=by have:=h2.2.1;simp at this;omega
  have hb:=h2.1
  refine⟨ts,by simpa using h1,⟨by dsimp only;omega,by simp;omega,?_⟩,fun i e1 e2=>by have:=h3 (i+1) (by simp;omega) (by simp;omega);simpa using this⟩
  by_cases h0:ts.length=0
  ·exact .inl (by dsimp only;omega)
  ·refine .inr ⟨b,_,rfl,fun i v hv=>?_⟩
   rw [if_neg (by omega)]
   rcases h2.2.2 with h0'|⟨b',o',ha',hcells⟩
   ·omega
   ·rw [ha]at ha';cases ha'
    have:=hcells (i+1) v (by simpa using hv)
    rw [show o+1*1+i=o+(i+1) by omega];exact this
theorem IntSS.head {h:Hp} {s:Sl} {x:List Int} {xs:List (List Int)} (e:IntSS h s (x::xs)): ∃b o t,s.a=some (Addr.mk b o none)/\0<s.n/\Hp.cell h b (o+0*1)=some (Sl.v t)/\IntS h t x:=by
 obtain⟨ts,h1,h2,h3⟩:=e
 cases ts with
 |nil=>simp at h1
 |cons t ts=>
  have hn:s.n=ts.length+1:=by have:=h2.2.1;simp at this;omega
  obtain⟨b,o,ha,hc⟩:=SlC.get h2 (by omega)
  exact⟨b,o,t,ha,by omega,hc 0 _ rfl,h3 0 (by simp) (by simp)⟩
theorem MA {h:Hp} {M:MSl} {m:ah} {b z:Nat} {p:Int} {R:Value->Hp->Prop} (hs:aM h M m) (hm:bP m) (h0:0<=p) (hp:p<m.nodes.length) (f:h b=some (.inl ⟨aG M,z,false⟩))
  (k:R (vJ (az m.nodes p)) h):rA #[I p, .pointer (some ⟨b,0,none⟩)] h R:=by
 refine ACalls.drop (zi ?_)
 refine uf_ ?_
 have hn:=hs.nodes.len
 refine ai fun b5 h1 hb5 l1 f5=>?_
 replace f:=l1 _ _ f
 (refine aC ?_)
 obtain⟨n,hn1⟩: ∃n,m.nodes[p.toNat]?=some n:=⟨_,List.getElem?_eq_getElem (by omega)⟩
 have hsa:=qZ hn1
 obtain⟨ba,oa,ha1,_,_,_,_,_,_,c6,c7,_⟩:=(hs.nodes.mono l1).at hn1
 refine⟨ba,oa,ha1,h0,by omega,_,c6,_,c7,?_⟩
 (with_reducible apply co);(exact f5);(exact l1);(exact hb5);(exact Nat.le_refl 2)
 intro h2 f5' kp l2
 repeat' (refine aC ?_)
 refine⟨_,l2,?_⟩
 rw [hsa]at k;exact k
theorem DT {α:Type} {l:List α} {k:Nat} (d:α) (h:k<l.length):l.drop k=l.getD k d::l.drop (k+1):=by
 rw [List.drop_eq_getElem_cons h,List.getD_eq_getElem?_getD,List.getElem?_eq_getElem h];rfl
theorem nE {l:List NodeP} {s inp:List (List Nat)} {i:Nat} {n:NodeP} (hn:l[i]?=some n):fY l s inp (i+1)=fY l s inp i++
  [if n.kind=36 then s.getD (ay (l.take i) 36).length []else if n.kind=35 then inp.getD (ay (l.take i) 35).length []else fH l n (fY l s inp i)]:=by
 simp only [fY,hn]
theorem zN {l:List NodeP} {kind:Int} {i:Nat} {n:NodeP} (hn:l[i]?=some n) (hk:n.kind=kind):(ay (l.take i) kind).length<(ay l kind).length:=get_lt (od hn hk)
theorem uR {l:List NodeP} {kind:Int} {i:Nat} {n:NodeP} (hn:l[i]?=some n):(ay (l.take (i+1)) kind).length=(ay (l.take i) kind).length+if n.kind=kind then 1 else 0:=by
 rw [jq hn,List.length_append];split<;>rfl
theorem zV {h:Hp} {M:MSl} {m:ah} {sS sI:Sl} {st inp:List (List Nat)} {R:Value->Hp->Prop} (hs:aM h M m) (hm:bP m) (hok:cx m.nodes=true) (hl:m.nodes.length<=60)
  (h1:IntSS h sS (st.map VL)) (c1:sS.n<=sS.c) (f1:A5 m.nodes 36 st) (h2:IntSS h sI (inp.map VL)) (c2:sI.n<=sI.c) (f2:A5 m.nodes 35 inp)
  (k: ∀t h',h.le h'->t.n=m.nodes.length->gD h' t (fY m.nodes st inp m.nodes.length)->R (Sl.v t) h'):fN #[aQ M,sS.v,sI.v] h R:=by
 apply Cp
 refine uf_ ?_
 have hn:=hs.nodes.len
 refine ai fun b9 h3 hb9 l3 f9=>?_
 (refine aC ?_)
 refine⟨by omega,by omega,by omega,by omega,?_⟩
 refine ai fun b13 h4 hb13 l4 f13=>?_
 have n9:=fresh_ne hb13 f9
 have b13n:=aF l3 hb13
 replace f9:=l4 _ _ f9
 replace l4:=Hp.le_trans l3 l4
 (refine aC ?_)
 rw [Int.toNat_natCast,Nat.mul_one,cr]at f13
 simp only [Int.toNat_natCast]
 refine ar m.nodes.length (fun i vs h'=> ∃(ts:List Sl) (uS uI:Sl),vs= [uS.v,uI.v, .slice (some ⟨b13,0,none⟩) M.no.n M.no.n, .func (.func lV) #[] #[.pointer (some ⟨b9,0,none⟩)],M.no.v,I M.no.n,I i]/\h.le h'/\
  h' b9=some (.inl ⟨aG M,5,false⟩)/\ts.length=i/\h' b13=some (.inl ⟨ts.map Sl.v++List.replicate (M.no.n-i) (.slice none 0 0),M.no.n,false⟩)/\
  (∀(j:Nat) (t:Sl),ts[j]?=some t->IntS h' t (VL ((fY m.nodes st inp i).getD j [])))/\
  IntSS h uS ((st.drop (ay (m.nodes.take i) 36).length).map VL)/\uS.n<=uS.c/\IntSS h uI ((inp.drop (ay (m.nodes.take i) 35).length).map VL)/\uI.n<=uI.c)
  ⟨[],sS,sI,rfl,l4,f9,rfl,by simpa using f13,fun j t ht=>by simp at ht,h1,c1,h2,c2⟩ ?_
 clear f9 f13 l3 l4 hb9 hb13 h3 h4
 rintro i _ h3 next hi ⟨ts,uS,uI,rfl,l3,f9,htl,f13,hts,g1,d1,g2,d2⟩ hnx
 have hpv:gD h3 ⟨some ⟨b13,0,none⟩,M.no.n,M.no.n⟩ (fY m.nodes st inp i):=by
  refine⟨by rw [dN];dsimp only;omega,by dsimp only;omega,fun p hp=>?_⟩
  rw [dN]at hp
  refine⟨b13,0,ts[p]'(by omega),rfl,?_,hts p _ (List.getElem?_eq_getElem (by omega))⟩
  rw [av f13,Nat.zero_add,Nat.mul_one,List.getElem?_append_left (by simp;omega),List.getElem?_map,List.getElem?_eq_getElem (by omega)]
  rfl
 refine⟨uS,uI,⟨some ⟨b13,0,none⟩,M.no.n,M.no.n⟩,_,_,_,M.no,_,_,rfl,?_⟩
 by_cases hlt:i<m.nodes.length
 rotate_left
 ·have hie:i=m.nodes.length:=by omega
  subst hie
  refine aA (by simp;omega) (k ⟨some ⟨b13,0,none⟩,M.no.n,M.no.n⟩ h3 l3 hn hpv)
 refine aL (by simp;omega) ?_
 obtain⟨n,hni⟩: ∃n,m.nodes[i]?=some n:=⟨_,List.getElem?_eq_getElem hlt⟩
 obtain⟨b,o,ha,e0,e1,e2,e3,e4,e5,e6,e7,e8⟩:=(hs.nodes.mono l3).at hni
 refine⟨b,o,ha,by omega,by omega,_,e0,_,e1,_,e2,_,e3,_,e4,_,e5,_,e6,_,e7,_,e8,?_⟩
 refine ai fun b45 h4 hb45 l4 f45'=>?_
 have n945:=fresh_ne hb45 f9
 have n1345:=fresh_ne hb45 f13
 (with_reducible apply co);(exact f45');(exact l4);(exact hb45);(exact Nat.le_refl 9)
 intro h5 f45 kp l35
 replace f9:=l35 _ _ f9
 replace f13:=l35 _ _ f13
 have l5:=Hp.le_trans l3 l35
 have hts5: ∀(j:Nat) (t:Sl),ts[j]?=some t->IntS h5 t (VL ((fY m.nodes st inp i).getD j [])):=fun j t ht=>(hts j t ht).mono l35
 have hpv5:=hpv.mono l35
 clear l4 kp f45' hb45 hts
 have step: ∀(h6:Hp) (t:Sl) (x:List Nat) (vS vI:Sl),h5.le h6->IntS h6 t (VL x)->fY m.nodes st inp (i+1)=fY m.nodes st inp i++ [x]->
   IntSS h vS ((st.drop (ay (m.nodes.take (i+1)) 36).length).map VL)->vS.n<=vS.c->IntSS h vI ((inp.drop (ay (m.nodes.take (i+1)) 35).length).map VL)->vI.n<=vI.c->
   ∃(cs:List Value) (z:Nat),h6 b13=some (.inl ⟨cs,z,false⟩)/\(0+Int.toNat (i:Int)*1)+1<=List.length cs/\cG (h6.row b13 (cl cs (0+Int.toNat (i:Int)*1) [t.v]) z) fun h'=>
    next [vS.v,vI.v, .slice (some ⟨b13,0,none⟩) M.no.n M.no.n, .func (.func lV) #[] #[.pointer (some ⟨b9,0,none⟩)],M.no.v,I M.no.n,I (W ((i:Int)+1))] h':=by
  intro h6 t x vS vI l56 hval hev i1 i2 i3 i4
  have g13:=l56 _ _ f13
  (with_reducible apply co);(exact g13);(exact Hp.le_trans l5 l56);(exact b13n);(simp;omega)
  intro h7 f13' kp l7
  rw [aw (by omega)]
  rw [Int.toNat_natCast,Nat.mul_one,Nat.zero_add,bD]at f13'
  have hrow:(ts.map Sl.v++List.replicate (M.no.n-i) (Value.slice none 0 0)).set i t.v=(ts++ [t]).map Sl.v++List.replicate (M.no.n-(i+1)) (.slice none 0 0):=by
   rw [List.set_append_right _ _ (by simp;omega),List.length_map,htl,Nat.sub_self,show M.no.n-i=(M.no.n-(i+1))+1 by omega,List.replicate_succ,List.set_cons_zero]
   simp
  rw [hrow]at f13'
  refine hnx hlt _ _ ⟨ts++ [t],vS,vI,rfl,l7,cy kp n9 (l56 _ _ f9),by simp;omega,f13',fun j u hu=>?_,i1,i2,i3,i4⟩
  by_cases hj:j<i
  ·rw [List.getElem?_append_left (by omega)]at hu
   rw [hev,iG (by rw [dN];omega)]
   exact((hts5 j u hu).mono l56).keepN g13 (Et _ _) kp
  ·have hju:=get_lt hu
   simp at hju
   have hje:j=i:=by omega
   subst hje
   rw [List.getElem?_append_right (by omega),htl,Nat.sub_self]at hu
   simp at hu;subst hu
   rw [hev,List.getD_eq_getElem?_getD,List.getElem?_append_right (by rw [dN];omega),dN,Nat.sub_self]
   exact hval.keepN g13 (Et _ _) kp
 have hnext36:=uR (kind:=36) hni
 have hnext35:=uR (kind:=35) hni
 have hev:=nE (s:=st) (inp:=inp) hni
 (refine aC ?_)
 refine ad (fun e=>?_) (fun e36=>?_)
 ·have e:=bU e
  rw [if_pos e]at hnext36 hev
  rw [if_neg (by omega)]at hnext35
  have hlt36:=zN hni e
  rw [<-f1.1]at hlt36
  rw [DT [] hlt36,List.map_cons]at g1
  obtain⟨bs,os,t,ha,hpos,hc,ht⟩:=g1.head
  refine⟨bs,os,ha,by omega,by omega,by omega,?_,?_, .inr ⟨bs,os,ha,t,l5.cell hc,b13,0,rfl,by omega,by dsimp only;omega,?_⟩⟩
  ·show (1:Int)<=((uS.n:Nat):Int);omega
  ·show ((uS.n:Nat):Int)<=_;omega
  refine step h5 t _ ⟨some ⟨bs,if uS.c=1 then os else os+1*1,none⟩,uS.n-1,uS.c-1⟩ uI (Hp.le_refl _) (ht.mono l5) hev ?_ (by dsimp only;omega) ?_ d2
  ·rw [hnext36];exact g1.tail d1 ha
  ·rw [hnext35];exact g2
 replace e36:=bz e36
 rw [if_neg e36]at hnext36 hev
 refine ad (fun e=>?_) (fun e35=>?_)
 ·have e:=bU e
  rw [if_pos e]at hnext35 hev
  have hlt35:=zN hni e
  rw [<-f2.1]at hlt35
  rw [DT [] hlt35,List.map_cons]at g2
  obtain⟨bs,os,t,ha,hpos,hc,ht⟩:=g2.head
  refine⟨bs,os,ha,by omega,by omega,by omega,?_,?_, .inr ⟨bs,os,ha,t,l5.cell hc,b13,0,rfl,by omega,by dsimp only;omega,?_⟩⟩
  ·show (1:Int)<=((uI.n:Nat):Int);omega
  ·show ((uI.n:Nat):Int)<=_;omega
  refine step h5 t _ uS ⟨some ⟨bs,if uI.c=1 then os else os+1*1,none⟩,uI.n-1,uI.c-1⟩ (Hp.le_refl _) (ht.mono l5) hev ?_ d1 ?_ (by dsimp only;omega)
  ·rw [hnext36];exact g1
  ·rw [hnext35];exact g2.tail d2 ha
 replace e35:=bz e35
 rw [if_neg e35]at hnext35 hev
 repeat' (refine aC ?_)
 refine SD (n:=n) (s:=⟨some ⟨b13,0,none⟩,M.no.n,M.no.n⟩) hl (Nat.le_of_lt hlt) (vQ hok hni) (zP hok f1 f2 i (Nat.le_of_lt hlt)) (dN _ _ _ _) hpv5 e35 e36 ?_ fun t h6 l6 hval=>⟨t,rfl,b13,0,rfl,by omega,by dsimp only;omega,?_⟩
 ·intro p hp0 hp h' l' R' kk
  exact MA (hs.mono (Hp.le_trans l5 l')) hm hp0 hp (l' _ _ f9) kk
 ·refine step h6 t _ uS uI l6 hval hev ?_ d1 ?_ d2
  ·rw [hnext36];exact g1
  ·rw [hnext35];exact g2
theorem EJ {h:Hp} {s:Sl} {b:Nat} {x:Blk} (hx:(h.offS s) b=some x): ∀a,s.a=some a->a.block≠b:=by
 intro a ha e
 unfold Hp.offS at hx
 rw [ha]at hx
 simp only at hx
 rw [e,ur]at hx;cases hx
theorem rz {h:Hp} {s:Sl} {b:Nat} {x:Blk} (cs:List Value) (z:Nat) (hx:(h.offS s) b=some x):(h.row b cs z).offS s=(h.offS s).row b cs z:=by
 have hn:=EJ hx
 unfold Hp.offS
 cases ha:s.a with
 |none=>rfl
 |some a=>
  have:=hn a ha
  funext c
  simp only [Hp.off,Hp.row,Hp.set]
  by_cases h1:c=a.block
  ·rw [if_pos h1,if_neg (fun e=>this (h1▸e)),if_pos h1]
  ·rw [if_neg h1];split<;>first|rfl|rw [if_neg h1]
theorem wN {h:Hp} {s:Sl} {b:Nat} (hn: ∀a,s.a=some a->a.block≠b):(h.offS s) b=h b:=by
 unfold Hp.offS
 cases ha:s.a with
 |none=>rfl
 |some a=>
  have:=hn a ha
  simp only [Hp.off,Hp.set]
  rw [if_neg (fun e=>this e.symm)]
theorem Buf.row {h:Hp} {s:Sl} {sz:Nat} {cs:List Value} {b:Nat} {x:Blk} (cs':List Value) (z:Nat) (e:Buf h s sz cs) (hx:(h.offS s) b=some x):Buf (h.row b cs' z) s sz cs:=by
 refine⟨e.1,e.2.1,e.2.2.imp id ?_⟩
 rintro ⟨c,hc,hcb⟩
 refine⟨c,hc,?_⟩
 rw [bX _ _ (EJ hx _ hc)];exact hcb
theorem vB {h h0:Hp} {s:Sl} {b z o m:Nat} {cs vs:List Value} {P:Hp->Prop} (f:(h.offS s) b=some (.inl ⟨cs,z,false⟩)) (l:h0.le (h.offS s)) (hb:h0 b=none) (hl:m<=cs.length)
  (k: ∀h',(h'.offS s) b=some (.inl ⟨cl cs o vs,z,false⟩)->(∀c,c≠b->(h'.offS s) c=(h.offS s) c)->h0.le (h'.offS s)->(∀sz bs,Buf h s sz bs->Buf h' s sz bs)->P h'):
  ∃(cs':List Value) (z':Nat),h b=some (.inl ⟨cs',z',false⟩)/\m<=List.length cs'/\cG (h.row b (cl cs' o vs) z') fun h'=>P h':=by
 refine⟨cs,z,aU _ _ _ _ f,hl,k _ ?_ ?_ ?_ (fun sz bs e=>e.row _ _ f)⟩
 ·rw [rz _ _ f,bJ]
 ·intro c hc;rw [rz _ _ f,bX _ _ hc]
 ·rw [rz _ _ f];exact dP _ _ hb l
theorem H8 {h:Hp} {x:Int} {R:Value->Hp->Prop} (k: ∀t h',h.le h'->IntS h' t [x]->R (.agg #[Sl.v t]) h'):kj #[I x] h R:=by
 apply NA
 refine uf_ ?_
 refine ai fun b3 h1 hb3 l1 f3=>?_
 refine ai fun b6 h2 hb6 l2 f6=>?_
 have ne:=fresh_ne hb6 f3
 (with_reducible apply co);(exact l2 _ _ f3);(exact Hp.le_trans l1 l2);(exact hb3);(exact Nat.le_refl 1)
 intro h3 g3 kp l3
 refine⟨⟨some ⟨b6,0,none⟩,1,1⟩,by rw [av g3];rfl,k _ h3 l3 ?_⟩
 exact⟨by dsimp only;omega,rfl, .inr ⟨b6,0,rfl,au (cy kp ne.symm f6)⟩⟩
theorem oP {h:Hp} {s:Sl} {xs:List Int} {R:Value->Hp->Prop} (hs:IntS h s xs) (hl:xs.length<=1048576)
  (k: ∀t h',h.le h'->Buf (h'.sub h) t 1 (xs.map I)->R (.agg #[Sl.v t]) h'):et #[.agg #[s.v]] h R:=by
 apply J6
 refine uf_ ?_
 have hn:=hs.len
 refine ai fun b3 h1 hb3 l1 f3=>?_
 refine ai fun b5 h2 hb5 l2 f5=>?_
 replace f3:=l2 _ _ f3
 have b5n:=aF l1 hb5
 replace l2:=Hp.le_trans l1 l2
 refine ai fun b8 h3 hb8 l3 f8=>?_
 have n58:=fresh_ne hb8 f5
 have n38:=fresh_ne hb8 f3
 have b8n:=aF l2 hb8
 replace f3:=l3 _ _ f3
 replace f5:=l3 _ _ f5
 replace l3:=Hp.le_trans l2 l3
 clear l1 l2 hb3 hb5 hb8 h1 h2
 refine ar xs.length (fun i vs h'=> ∃sl:Sl,vs= [.pointer (some ⟨b3,0,none⟩), .pointer (some ⟨b5,0,none⟩), .pointer (some ⟨b8,0,none⟩),I i]/\h.le (h'.offS sl)/\(h'.offS sl) b3=some (.inl ⟨[s.v],1,false⟩)/\
  (h'.offS sl) b5=some (.inl ⟨[.slice none 0 0],1,false⟩)/\(h'.offS sl) b8=some (.inl ⟨[sl.v],1,false⟩)/\sl.n=i/\Buf h' sl 1 ((xs.take i).map I)/\(∀a,sl.a=some a->h a.block=none))
  ⟨⟨none,0,0⟩,rfl,l3,f3,f5,f8,rfl,eM _ _,fun a ha=>by cases ha⟩ ?_
 clear l3 f3 f5 f8 h3
 rintro i _ h3 next hi ⟨sl,rfl,l3,f3,f5,f8,hsl,hbuf,hfr⟩ hnx
 refine⟨_,_,_,_,_,_,_,rfl,?_⟩
 have lo:=aU h3 sl
 have f3':=lo _ _ f3
 (refine aC ?_)
 by_cases hlt:i<xs.length
 ·refine aL (by simp;omega) ?_
  have f8':=lo _ _ f8
  obtain⟨b,o,ha,hc⟩:=(hs.mono (Hp.le_trans l3 lo)).get (List.getElem?_eq_getElem hlt)
  repeat' (refine aC ?_)
  refine⟨b,o,ha,by omega,by omega,_,hc,?_⟩
  refine ai fun b32 h4 hb32 l4 f32=>?_
  refine⟨by rw [l4 _ _ f8',f8'],?_⟩
  have l34:=aZ sl l4
  refine dp (hbuf.mono l4) (by omega) (by omega) (by omega) ⟨b32,0,rfl,au f32⟩ (by simp) rfl ?_
  intro s' h5 hs'n hbuf' l45 hsub
  have l35:=Hp.le_trans l34 l45
  have hfr': ∀a,s'.a=some a->h a.block=none:=by
   intro a ha'
   cases hx:h a.block with
   |none=>rfl
   |some x=>
    have:=l35 _ _ (l3 _ _ hx)
    exact absurd rfl (EJ this a ha')
  (with_reducible apply vB);(exact l35 _ _ f8);(exact Hp.le_trans l3 l35);(exact b8n);(exact Nat.le_refl 1)
  intro h6 g8 kp l6 hbufk
  rw [aw (by omega)]
  refine hnx hlt _ _ ⟨s',rfl,l6,?_,?_,g8,by omega,hbufk _ _ ?_,hfr'⟩
  ·rw [kp _ n38];exact l35 _ _ f3
  ·rw [kp _ n58];exact l35 _ _ f5
  ·rw [Ba hlt];exact hbuf'
 ·refine aA (by simp;omega) ?_
  have f8':=lo _ _ f8
  have f5':=lo _ _ f5
  (refine aC ?_)
  rw [List.take_of_length_le (by omega)]at hbuf
  (with_reducible apply vB);(exact f5);(exact l3);(exact b5n);(exact Nat.le_refl 1)
  intro h6 g5 kp l6 hbufk
  have l6':=Hp.le_trans l6 (aU _ _)
  refine⟨sl,by rw [av (aU _ _ _ _ g5)];rfl,k sl h6 l6' ?_⟩
  have hb6:=hbufk _ _ hbuf
  refine⟨hb6.1,hb6.2.1,hb6.2.2.imp id ?_⟩
  rintro ⟨c,hc,hcb⟩
  exact⟨c,hc,by rw [lC (hfr _ hc)];exact hcb⟩
theorem zn {h:Hp} {s t:Sl} {xs ys:List Int} {R:Value->Hp->Prop} (hs:IntS h s xs) (ht:IntS h t ys) (hl:xs.length<=1048576) (hle:xs.length<=ys.length)
  (k:R (.bool (decide (xs=ys))) h):mU #[.agg #[s.v], .agg #[t.v]] h R:=by
 refine ACalls.drop (JJ ?_)
 refine uf_ ?_
 have hn:=hs.len
 have hm:=ht.len
 refine ai fun b4 h1 hb4 l1 f4=>?_
 refine ai fun b6 h2 hb6 l2 f6=>?_
 replace f4:=l2 _ _ f4
 replace l2:=Hp.le_trans l1 l2
 have lf: ∀{q:Bool},q=decide (xs=ys)-> ∃h':Hp,h'.le h2/\R (.bool q) h':=fun e=>⟨_,l2,e▸k⟩
 clear k
 refine ar xs.length (fun i vs h'=>vs= [.pointer (some ⟨b4,0,none⟩), .pointer (some ⟨b6,0,none⟩),I i]/\h'=h2/\xs.take i=ys.take i) ⟨rfl,rfl,by simp⟩ ?_
 rintro i _ h' next hi ⟨rfl,rfl,hg⟩ hnx
 refine⟨_,_,_,_,_,rfl,?_⟩
 (refine aC ?_)
 by_cases hlt:i<xs.length
 ·refine aL (by simp;omega) ?_
  obtain⟨b,o,ha,hc⟩:=(hs.mono l2).get (List.getElem?_eq_getElem hlt)
  obtain⟨b2,o2,ha2,hc2⟩:=(ht.mono l2).get (List.getElem?_eq_getElem (show i<ys.length by omega))
  (refine aC ?_)
  refine⟨b,o,ha,by omega,by omega,_,hc,?_⟩
  (refine aC ?_)
  refine⟨b2,o2,ha2,by omega,by omega,_,hc2,?_⟩
  refine ad (fun e=>lf ?_) (fun e=>?_)
  ·symm;rw [decide_eq_false_iff_not]
   rintro rfl;exact jT e rfl
  ·rw [aw (by omega)]
   exact hnx hlt _ _ ⟨rfl,rfl,vU hlt (by omega) hg (ja e)⟩
 ·refine aA (by simp;omega) ?_
  repeat' (refine aC ?_)
  refine lf ?_
  rw [List.take_of_length_le (show xs.length<=i by omega)]at hg
  rw [Bool.eq_iff_iff,decide_eq_true_iff,beq_iff_eq]
  constructor
  ·intro e
   rwa [List.take_of_length_le (by omega)]at hg
  ·rintro rfl;omega
theorem Buf.slS {h h0:Hp} {s:Sl} {xs:List Int} (e:Buf (h.sub h0) s 1 (xs.map I)) (hn:s.n<=9223372036854775807):IntS h s xs:=(Buf.slc_of e hn).mono (sub_le _ _)
theorem gE.wid {h:Hp} {s:Sl} {l:List NodeP} (e:gE h s l) {p:Int} (h0:0<=p) (hp:p<l.length):
  ∃b o,s.a=some (Addr.mk b o none)/\p<(s.n:Int)/\Hp.cell h b ((o+p.toNat*9)+6+1)=some (I (az l p).wid):=by
 obtain⟨n,hn1⟩: ∃n,l[p.toNat]?=some n:=⟨_,List.getElem?_eq_getElem (by omega)⟩
 obtain⟨ba,oa,ha1,_,_,_,_,_,_,c6,c7,_⟩:=e.at hn1
 refine⟨ba,oa,ha1,by have:=e.len;omega,?_⟩
 rw [qZ hn1];exact c7
theorem Oj {h:Hp} {l:List NodeP} {i:Nat} {n:NodeP} {sn s:Sl} {v:List (List Nat)} {R:Value->Hp->Prop} (hl:l.length<=60) (hi:i<=l.length)
  (ht:OI l i n) (hv:yX l i v) (hvl:v.length=i) (hsn:gE h sn l) (hpv:gD h s v) (hk34: ¬n.kind=34) (hk35: ¬n.kind=35) (hk36: ¬n.kind=36)
  (k: ∀t h',h.le h'->IntS h' t (VL (fH l n v))->R (.agg #[Sl.v t]) h'):vg #[sn.v,wv n,s.v] h R:=by
 obtain⟨val,hnv⟩: ∃val,val=fH l n v:=⟨_,rfl⟩
 rw [<-hnv]at k
 unfold fH at hnv
 apply KV
 refine uf_ ?_
 have hk:=ht.kind
 have hp:0<ak n.kind:=by
  have:ak n.kind≠0:=by intro h0;revert h0;unfold ak;(repeat' split)<;>(intro h;omega)
  omega
 have pk:=ht.part
 have pf: ∀j:Nat,j<3->(j:Int)<ak n.kind->Fit (az l (aO n j)) (v.getD (aO n j).toNat []):=fun j h1 h2=>hv.part ht hi h1 h2
 refine ai fun b13 h1 hb13 l1 f13=>?_
 refine ai fun b15 h2 hb15 l2 f15=>?_
 have n13:=fresh_ne hb15 f13
 have b15n:=aF l1 hb15
 replace f13:=l2 _ _ f13
 replace l2:=Hp.le_trans l1 l2
 (refine aC ?_)
 obtain⟨ba,oa,ta,ha,h1',hca,hta⟩:=(hpv.mono l2).at (pk 0 (by omega) (by omega)).1 (by have:=(pk 0 (by omega) (by omega)).2.1;omega)
 refine⟨ba,oa,ha,(pk 0 (by omega) (by omega)).1,h1',ta,hca,?_⟩
 refine ai fun b22 h3 hb22 l3 f22'=>?_
 have n22:=fresh_ne hb22 f13
 have n22':=fresh_ne hb22 f15
 have b22n:=aF l2 hb22
 (with_reducible apply co);(exact f22');(exact l3);(exact hb22);(exact Nat.le_refl 1)
 intro h4 f22 kp l4
 replace f13:=l4 _ _ f13
 replace f15:=l4 _ _ f15
 have l0:=Hp.le_trans l2 l4
 replace hta:=hta.mono l4
 have f22v:h4 b22=some (.inl ⟨[ta.v],1,false⟩):=f22
 clear f22 f22' l1 l2 l3 l4 hb13 hb15 hb22 h1 h2 h3 hca kp
 have res: ∀(h5:Hp) (t:Sl),h.le h5->h5 b15=some (.inl ⟨[.slice none 0 0],1,false⟩)->IntS h5 t (VL val)->
   ∃(cs:List Value) (z:Nat),h5 b15=some (.inl ⟨cs,z,false⟩)/\0+1<=List.length cs/\cG (h5.row b15 (cl cs 0 [t.v]) z) fun h'=> ∃(s:Sl),Hp.cell h' b15 0=some s.v/\R (.agg #[s.v]) h':=by
  intro h5 t l5 g15 hval
  (with_reducible apply co);(exact g15);(exact l5);(exact b15n);(exact Nat.le_refl 1)
  intro h6 g kp l6
  exact⟨t,by rw [av g];rfl,k t h6 l6 (hval.keep g15 kp)⟩
 clear k
 have wres: ∀(x:Nat) (z:Int),z=x->val= [x]->kj #[I z] h4 fun v30 h31=> ∃(s32:Sl),v30=(.agg #[s32.v])/\(∃(cs33:List Value) (z34:Nat),h31 b15=some (.inl ⟨cs33,z34,false⟩)/\0+1<=List.length cs33/\cG (h31.row b15 (cl cs33 0 [s32.v]) z34) fun h35=> ∃(s36:Sl),Hp.cell h35 b15 0=some s36.v/\(R (.agg #[s36.v]) h35)):=by
  intro x z hz hx
  subst hz
  refine H8 fun t h5 l5 hval=>⟨t,rfl,res h5 t (Hp.le_trans l0 l5) (l5 _ _ f15) ?_⟩
  rw [hx];exact hval
 have cres: ∀(s0:Sl) (x:List Nat),IntS h4 s0 (VL x)->x.length<=4->val=x->et #[.agg #[s0.v]] h4 fun v30 h31=> ∃(s32:Sl),v30=(.agg #[s32.v])/\(∃(cs33:List Value) (z34:Nat),h31 b15=some (.inl ⟨cs33,z34,false⟩)/\0+1<=List.length cs33/\cG (h31.row b15 (cl cs33 0 [s32.v]) z34) fun h35=> ∃(s36:Sl),Hp.cell h35 b15 0=some s36.v/\(R (.agg #[s36.v]) h35)):=by
  intro s0 x hs0 hx hval
  refine oP hs0 (by rw [aY];omega) fun t h5 l5 hb=>⟨t,rfl,res h5 t (Hp.le_trans l0 l5) (l5 _ _ f15) ?_⟩
  rw [hval];exact hb.slS (by have:=hb.1;rw [List.length_map,aY]at this;omega)
 have hpv4:=hpv.mono l0
 have vat: ∀j:Nat,j<3->(j:Int)<ak n.kind->_:=fun j h1 h2=>hpv4.at (pk j h1 h2).1 (by have:=(pk j h1 h2).2.1;omega)
 have hres:=ht.res hp
 have oa':=bZ.1 (pk 0 (by omega) hp).2.2
 rw [if_neg hk34]at hnv
 have hkinds:=lF hp
 have len4: ∀j:Nat,j<3->(j:Int)<ak n.kind->(v.getD (aO n j).toNat []).length<=4:=fun j h1 h2=>by
  have o:=bZ.1 (pk j h1 h2).2.2
  rw [(pf j h1 h2).len]
  have:=Nat.pow_le_pow_right (n:=2) (by omega) (show (az l (aO n j)).idx.toNat<=2 by omega);simpa using this
 obtain⟨bw,ow,hwa,hwl,hwc⟩:=(hsn.mono l0).wid (pk 0 (by omega) (by omega)).1 (by have:=(pk 0 (by omega) (by omega)).2.1;omega)
 (refine aC ?_)
 refine⟨bw,ow,hwa,(pk 0 (by omega) (by omega)).1,hwl,_,hwc,?_⟩
 have ta0:=hta.elt (pf 0 (by omega) (by omega)).pos
 obtain⟨b0,o0,a0,e0,m0⟩:=ta0
 refine aq (fun J=> ∀x:Nat,val= [x]->J x h4) ?_ (fun J hJ=>?_)
 ·intro x hx;exact wres x x rfl hx
 (refine aC ?_)
 refine ad (fun e=>?_) (fun e33=>?_)
 ·have e:=bU e
  have hp3:ak n.kind=3:=by omega
  rw [if_pos e]at hnv
  (refine aC ?_)
  refine⟨b0,o0,a0,by omega,by omega,_,e0,?_⟩
  refine ad (fun e=>?_) (fun e=>?_)
  ·(refine aC ?_)
   obtain⟨b,o,t,ha,h1,h2,h3'⟩:=vat 1 (by omega) (by omega)
   refine⟨b,o,ha,(pk 1 (by omega) (by omega)).1,h1,t,h2,cres t _ h3' (len4 1 (by omega) (by omega)) ?_⟩
   have:cJ v n.a=1:=by have:=bU e;unfold cJ;simp only [aO]at this;omega
   rw [hnv,if_pos this];rfl
  ·(refine aC ?_)
   obtain⟨b,o,t,ha,h1,h2,h3'⟩:=vat 2 (by omega) (by omega)
   refine⟨b,o,ha,(pk 2 (by omega) (by omega)).1,h1,t,h2,cres t _ h3' (len4 2 (by omega) (by omega)) ?_⟩
   have: ¬cJ v n.a=1:=by have:=bz e;unfold cJ;simp only [aO]at this;omega
   rw [hnv,if_neg this];rfl
 replace e33:=bz e33
 rw [if_neg e33]at hnv
 (refine aC ?_)
 refine ad (fun e=>?_) (fun e37=>?_)
 ·have e:=bU e
  have hp2:ak n.kind=2:=by omega
  obtain⟨r1,r2,r3⟩:=Tf e hres
  rw [if_neg (show¬n.kind=21 by omega),if_pos e]at hnv
  repeat' (refine aC ?_)
  obtain⟨b,o,t,ha,h1,h2,h3'⟩:=vat 1 (by omega) (by omega)
  obtain⟨b2,o2,ha2,hc2,hl2⟩:=h3'.elt (pf 1 (by omega) (by omega)).pos
  refine⟨b,o,ha,(pk 1 (by omega) (by omega)).1,h1,t,h2,b2,o2,ha2,by omega,by omega,_,hc2,?_⟩
  have fb:=(pf 1 (by omega) (by omega)).cell
  have fa:=(pf 0 (by omega) (by omega)).len
  simp only [aO]at fb fa hta
  rw [r2]at fb
  have hlt:cJ v n.b<(v.getD n.a.toNat []).length:=by rw [fa];exact fb
  obtain⟨b3,o3,ha3,hc3,hl3⟩:=hta.elt hlt
  refine⟨b3,o3,ha3,by omega,by show (cJ v n.b:Int)<_;omega,_,hc3,?_⟩
  exact wres _ _ rfl hnv
 replace e37:=bz e37
 (refine aC ?_)
 refine ad (fun e=>?_) (fun e38=>?_)
 ·have e:=bU e
  have hp3:ak n.kind=3:=by omega
  obtain⟨r1,r2,r3,r4⟩:=SO e hres
  rw [if_neg (show¬n.kind=21 by omega),if_neg e37,if_pos e]at hnv
  repeat' (refine aC ?_)
  have fb:=(pf 1 (by omega) (by omega)).cell
  have fa:=(pf 0 (by omega) (by omega)).len
  have hle4:=len4 0 (by omega) (by omega)
  simp only [aO]at fb fa hta hle4
  rw [r2]at fb
  have hlt:cJ v n.b<(v.getD n.a.toNat []).length:=by rw [fa];exact fb
  refine oP hta (by rw [aY];omega) fun c h5 l5 hb5=>⟨c,rfl,?_⟩
  have hcn:c.n=(v.getD n.a.toNat []).length:=by have:=hb5.1;rw [List.length_map,aY]at this;omega
  obtain⟨bc,hca,hcrow⟩: ∃bc,c.a=some ⟨bc,0,none⟩/\(h5.sub h4) bc=some (.inl ⟨(VL (v.getD n.a.toNat [])).map I,c.c*1,false⟩):=by
   rcases hb5.2.2 with ⟨_,h0,_⟩|h0
   ·omega
   ·exact h0
  have hc5:h5 bc=some (.inl ⟨(VL (v.getD n.a.toNat [])).map I,c.c*1,false⟩):=sub_le _ _ _ _ hcrow
  have hc3:h4 bc=none:=by
   cases hx:h4 bc with
   |none=>rfl
   |some x=>rw [m8 hx]at hcrow;cases hcrow
  have g13:=l5 _ _ f13
  have g15:=l5 _ _ f15
  refine ai fun b24 h6 hb24 l6 f24'=>?_
  have m13:=fresh_ne hb24 g13
  have m15:=fresh_ne hb24 g15
  have mc:=fresh_ne hb24 hc5
  have hb24n:=aF l5 hb24
  (with_reducible apply co);(exact f24');(exact Hp.le_trans l5 l6);(exact hb24n);(exact Nat.le_refl 1)
  intro h7 f24 kp l7
  replace g13:=cy kp m13 (l6 _ _ g13)
  replace g15:=cy kp m15 (l6 _ _ g15)
  have gc:=cy kp mc (l6 _ _ hc5)
  have hpv7:=hpv4.mono l7
  refine⟨c,by rw [av f24];rfl,?_⟩
  (refine aC ?_)
  obtain⟨b,o,t,ha,h1,h2,h3'⟩:=hpv7.at (pk 1 (by omega) (by omega)).1 (by have:=(pk 1 (by omega) (by omega)).2.1;omega)
  obtain⟨b2,o2,ha2,hc2,hl2⟩:=h3'.elt (pf 1 (by omega) (by omega)).pos
  refine⟨b,o,ha,(pk 1 (by omega) (by omega)).1,h1,t,h2,b2,o2,ha2,by omega,by omega,_,hc2,?_⟩
  (refine aC ?_)
  obtain⟨b',o',t',ha',h1',h2',h3''⟩:=hpv7.at (pk 2 (by omega) (by omega)).1 (by have:=(pk 2 (by omega) (by omega)).2.1;omega)
  obtain⟨b2',o2',ha2',hc2',hl2'⟩:=h3''.elt (pf 2 (by omega) (by omega)).pos
  refine⟨b',o',ha',(pk 2 (by omega) (by omega)).1,h1',t',h2',b2',o2',ha2',by omega,by omega,_,hc2',?_⟩
  refine⟨bc,0,hca,by omega,by show (cJ v n.b:Int)<_;omega,?_⟩
  (with_reducible apply co);(exact gc);(exact l7);(exact hc3);(rw [List.length_map,aY];show 0+Int.toNat (cJ v n.b:Int)*1+1<=_;omega)
  intro h8 gc' kp8 l8
  have n24:b24≠bc:=fun e=>mc e.symm
  have n15c:b15≠bc:=fun e=>by subst e;rw [hc3]at f15;cases f15
  replace f24:=cy kp8 n24 f24
  refine⟨c,by rw [av f24];rfl,?_⟩
  refine res h8 c (Hp.le_trans l0 l8) (cy kp8 n15c g15) ?_
  have hcells:cl ((VL (v.getD n.a.toNat [])).map I) (0+Int.toNat (cJ v n.b:Int)*1) [I (cJ v n.c)]=(VL val).map I:=by
   rw [hnv,bD,Int.toNat_natCast,Nat.mul_one,Nat.zero_add]
   simp [VL,List.map_set]
  have gc2:h8 bc=some (.inl ⟨cl ((VL (v.getD n.a.toNat [])).map I) (0+Int.toNat (cJ v n.b:Int)*1) [I (cJ v n.c)],c.c*1,false⟩):=gc'
  rw [hcells]at gc2
  refine⟨by omega,by simp [aY,hnv,hcn], .inr ⟨bc,0,hca,au gc2⟩⟩
 replace e38:=bz e38
 (refine aC ?_)
 refine ad (fun e=>?_) (fun e21=>?_)
 ·have e:=bU e
  have hp2:ak n.kind=2:=by omega
  obtain⟨r1,_⟩:=XM e hres
  rw [if_pos e]at hnv
  repeat' (refine aC ?_)
  obtain⟨b',o',t',ha',h1',h2',h3''⟩:=vat 1 (by omega) (by omega)
  refine⟨b',o',ha',(pk 1 (by omega) (by omega)).1,h1',t',h2',?_⟩
  have hl4:=len4 0 (by omega) (by omega)
  have fl:=(pf 0 (by omega) (by omega)).len
  have fl':=(pf 1 (by omega) (by omega)).len
  simp only [aO]at fl fl'
  rw [<-r1]at fl'
  refine zn hta h3'' (by rw [aY];omega) (by rw [aY,aY];simp only [aO];omega) ⟨_,rfl,tG ⟨_,rfl,?_⟩⟩
  refine wres _ _ ?_ hnv
  simp only [aO,H0]
  split<;>simp_all
 replace e21:=bz e21
 rw [if_neg e21,if_neg e37,if_neg e38]at hnv
 simp only [aO]at oa'
 have word0: ∀wn:Nat,(az l n.a).wid=wn->WO wn (cJ v n.a):=fun wn hw=>by
  have:=(pf 0 (by omega) (by omega)).cell
  simp only [aO]at this
  rw [hw]at this
  exact⟨by omega,this⟩
 obtain⟨wa,hwa'⟩: ∃wn:Nat,(az l n.a).wid=wn:=⟨(az l n.a).wid.toNat,by omega⟩
 have hwo:=word0 wa hwa'
 have h16:=hwo.pow
 have hlta:=hwo.2
 rw [hwa',Int.toNat_natCast]at hnv
 have e0':Hp.cell h4 b0 (o0+0*1)=some (I (cJ v n.a)):=e0
 have hsw:(az l (aO n 0)).wid=(wa:Int):=hwa'
 rw [hsw]
 (refine aC ?_)
 refine ad (fun e=>?_) (fun e29=>?_)
 ·have e:=bU e
  have hp2:ak n.kind=2:=by omega
  obtain⟨r1,r2,r3,r4⟩:=Tq e hres
  rw [if_pos e]at hnv
  have ob:=bZ.1 (pk 1 (by omega) (by omega)).2.2
  simp only [aO]at ob
  obtain⟨wb,hwb⟩: ∃wn:Nat,(az l n.b).wid=wn:=⟨(az l n.b).wid.toNat,by omega⟩
  have hltb:=(pf 1 (by omega) (by omega)).cell
  simp only [aO]at hltb
  rw [hwb,Int.toNat_natCast]at hltb
  rw [hwb,Int.toNat_natCast]at hnv
  obtain⟨bw2,ow2,hwa2,hwl2,hwc2⟩:=(hsn.mono l0).wid (pk 1 (by omega) (by omega)).1 (by have:=(pk 1 (by omega) (by omega)).2.1;omega)
  simp only [aO]at hwc2
  rw [hwb]at hwc2
  (refine aC ?_)
  refine⟨b0,o0,a0,by omega,by omega,_,e0',?_⟩
  (refine aC ?_)
  refine⟨bw2,ow2,hwa2,(pk 1 (by omega) (by omega)).1,hwl2,_,hwc2,?_⟩
  (refine aC ?_)
  obtain⟨b',o',t',ha',h1',h2',h3''⟩:=vat 1 (by omega) (by omega)
  obtain⟨b2',o2',ha2',hc2',hl2'⟩:=h3''.elt (pf 1 (by omega) (by omega)).pos
  refine⟨b',o',ha',(pk 1 (by omega) (by omega)).1,h1',t',h2',b2',o2',ha2',by omega,by omega,_,hc2',?_⟩
  exact KY hwo ⟨by omega,hltb⟩ (by omega) ⟨_,_,_,rfl,hJ _ hnv⟩
 replace e29:=bz e29
 rw [if_neg e29]at hnv
 (refine aC ?_)
 refine ad (fun e=>?_) (fun e30=>?_)
 ·have e:=bU e
  obtain⟨r1,r2,r3⟩:=SR e hres
  rw [if_pos e]at hnv
  obtain⟨lo,hlo⟩: ∃z:Nat,n.m=z:=⟨n.m.toNat,by omega⟩
  obtain⟨hh,hhh⟩: ∃z:Nat,n.n=z:=⟨n.n.toNat,by omega⟩
  (refine aC ?_)
  refine⟨b0,o0,a0,by omega,by omega,_,e0',?_⟩
  repeat' (refine aC ?_)
  rw [hlo,hhh]
  refine Hi hwo (by omega) (by omega) ⟨_,_,_,rfl,hJ _ ?_⟩
  rw [hnv,hlo,hhh]
  unfold RP
  rw [Int.toNat_natCast,show ((hh:Int)-(lo:Int)+1).toNat=hh-lo+1 by omega]
 replace e30:=bz e30
 rw [if_neg e30]at hnv
 refine aq (fun J=>J (decide (n.kind=31\/n.kind=32))) ?_ (fun J2 hJ2=>?_)
 rotate_left
 ·clear res wres cres vat hJ
  repeat' (first|(with_reducible first|refine aL (b:=true) rfl ?_|refine aA (b:=false) rfl ?_|refine ad (fun _=>?_) fun _=>?_)|(refine aC ?_)|(refine gn ?_ hJ2))
  all_goals (clear hJ2;rw [Bool.eq_iff_iff];simp_all)
 refine ad (fun e=>?_) (fun e31=>?_)
 ·have e:=of_decide_eq_true e
  obtain⟨r1,r2,r3⟩:=SK e hres
  rw [if_pos e]at hnv
  obtain⟨mo,hmo⟩: ∃z:Nat,n.n=z:=⟨n.n.toNat,by omega⟩
  (refine aC ?_)
  refine⟨b0,o0,a0,by omega,by omega,_,e0',?_⟩
  repeat' (refine aC ?_)
  rw [hmo]
  refine Kk hwo (by omega) ⟨_,_,_,rfl,hJ _ ?_⟩
  rw [hnv,hmo,Int.toNat_natCast];rfl
 replace e31:=of_decide_eq_false e31
 rw [if_neg e31]at hnv
 (refine aC ?_)
 refine kb ⟨_,rfl,ad (fun e=>?_) (fun e1=>?_)⟩
 ·have e:=bU e
  rw [if_pos e]at hnv
  repeat' (refine aC ?_)
  refine⟨b0,o0,a0,by omega,by omega,_,e0',?_⟩
  exact CH (by omega) hwo ⟨_,_,_,rfl,hJ _ hnv⟩
 ·replace e1:=bz e1
  rw [if_neg e1]at hnv
  have hp2:ak n.kind=2:=by omega
  obtain⟨r1,r2,r3⟩:=acm (by omega) hres
  have hltb:=(pf 1 (by omega) (by omega)).cell
  simp only [aO]at hltb
  rw [<-r2,hwa',Int.toNat_natCast]at hltb
  repeat' (refine aC ?_)
  refine⟨b0,o0,a0,by omega,by omega,_,e0',?_⟩
  (refine aC ?_)
  obtain⟨b',o',t',ha',h1',h2',h3''⟩:=vat 1 (by omega) (by omega)
  obtain⟨b2',o2',ha2',hc2',hl2'⟩:=h3''.elt (pf 1 (by omega) (by omega)).pos
  refine⟨b',o',ha',(pk 1 (by omega) (by omega)).1,h1',t',h2',b2',o2',ha2',by omega,by omega,_,hc2',?_⟩
  exact Dt (by omega) hwo ⟨hwo.1,hltb⟩ ⟨_,_,_,rfl,hJ _ hnv⟩
theorem wj (ts:List Sl):ww (ts.map Sl.v):=by
 have:=Et ts 0
 simpa using this
theorem IntS.offL {h:Hp} {s t:Sl} {xs:List Int} {ts:List Sl} (e:IntS h t xs) (hb:Buf h s 1 (ts.map Sl.v)):IntS (h.offS s) t xs:=by
 rcases hb.2.2 with ⟨ha,_,_⟩|⟨b,ha,hbb⟩
 ·unfold Hp.offS;rw [ha];exact e
 ·have ho:h.offS s=h.off b:=by unfold Hp.offS;rw [ha]
  rw [ho]
  refine e.keepN hbb (wj ts) fun c hc=>?_
  simp only [Hp.off,Hp.set];rw [if_neg hc]
theorem Buf.pval {h:Hp} {s:Sl} {ts:List Sl} {vs:List (List Nat)} (e:Buf h s 1 (ts.map Sl.v)) (hlen:ts.length=vs.length) (hn:s.n<=1048576) (ht: ∀(j:Nat) (t:Sl),ts[j]?=some t->IntS h t (VL (vs.getD j []))):gD h s vs:=by
 have hl:=e.1
 simp at hl
 refine⟨by omega,hn,fun p hp=>?_⟩
 rcases e.2.2 with ⟨_,h0,_⟩|⟨b,ha,hbb⟩
 ·omega
 ·refine⟨b,0,ts[p]'(by omega),ha,?_,ht p _ (List.getElem?_eq_getElem (by omega))⟩
  rw [av hbb,Nat.zero_add,Nat.mul_one,List.getElem?_map,List.getElem?_eq_getElem (by omega)];rfl
def acL (h:Hp) (s:Sl):Prop:= ∀b o,s.a=some (Addr.mk b o none)->h b=none
theorem nU {h:Hp} {M:MSl} {m:ah} {sS sI:Sl} {st inp:List (List Nat)} {R:Value->Hp->Prop} (hs:aM h M m) (hm:bP m) (hok:cx m.nodes=true) (hl:m.nodes.length<=60)
  (h1:IntSS h sS (st.map VL)) (f1:A5 m.nodes 36 st) (h2:IntSS h sI (inp.map VL)) (f2:A5 m.nodes 35 inp)
  (k: ∀t h',h.le h'->t.n=m.nodes.length->gD h' t (fY m.nodes st inp m.nodes.length)->acL h t->R (Sl.v t) h'):dc #[aQ M,sS.v,sI.v] h R:=by
 apply NH
 refine uf_ ?_
 have hn:=hs.nodes.len
 have hsn:sS.n=st.length:=by obtain⟨ts,e1,e2,_⟩:=h1;have:=e2.2.1;simp at this e1;omega
 have hin:sI.n=inp.length:=by obtain⟨ts,e1,e2,_⟩:=h2;have:=e2.2.1;simp at this e1;omega
 refine ai fun b9 h3 hb9 l3 f9=>?_
 refine ar m.nodes.length (fun i vs h'=> ∃(ts:List Sl) (out:Sl),vs= [sS.v,sI.v, .pointer (some ⟨b9,0,none⟩),out.v,I (ay (m.nodes.take i) 36).length,I (ay (m.nodes.take i) 35).length,I i]/\
  h.le (h'.offS out)/\(h'.offS out) b9=some (.inl ⟨aG M,5,false⟩)/\out.n=i/\ts.length=i/\Buf h' out 1 (ts.map Sl.v)/\
  (∀(j:Nat) (t:Sl),ts[j]?=some t->IntS (h'.offS out) t (VL ((fY m.nodes st inp i).getD j []))))
  ⟨[],⟨none,0,0⟩,rfl,l3,f9,rfl,rfl,eM _ _,fun j t ht=>by simp at ht⟩ ?_
 clear f9 l3 hb9 h3
 rintro i _ h3 next hi ⟨ts,out,rfl,l3,f9,hon,htl,hbuf,hts⟩ hnx
 have lo:=aU h3 out
 have f9':=lo _ _ f9
 have l3':=Hp.le_trans l3 lo
 refine⟨sS,sI,_,_,out,_,_,_,rfl,?_⟩
 (refine aC ?_)
 by_cases hlt:i<m.nodes.length
 rotate_left
 ·have hie:i=m.nodes.length:=by omega
  subst hie
  refine aA (by simp;omega) (k out h3 l3' hon ?_ fun b o hb=>?_)
  ·exact hbuf.pval (by rw [dN];omega) (by omega) fun j t ht=>(hts j t ht).mono lo
  ·cases hx:h b with
   |none=>rfl
   |some x=>have:=l3 _ _ hx;simp [Hp.offS,hb,Hp.off,Hp.set]at this
 refine aL (by simp;omega) ?_
 obtain⟨n,hni⟩: ∃n,m.nodes[i]?=some n:=⟨_,List.getElem?_eq_getElem hlt⟩
 obtain⟨b,o,ha,e0,e1,e2,e3,e4,e5,e6,e7,e8⟩:=(hs.nodes.mono l3').at hni
 (refine aC ?_)
 refine⟨b,o,ha,by omega,by omega,_,e0,_,e1,_,e2,_,e3,_,e4,_,e5,_,e6,_,e7,_,e8,?_⟩
 refine ai fun b44 h4 hb44 l4 f44'=>?_
 (with_reducible apply co);(exact f44');(exact l4);(exact hb44);(exact Nat.le_refl 9)
 intro h5 f44 kp l5
 clear f44' kp l4
 refine ai fun b50 h6 hb50 l6 f50'=>?_
 have n44:=fresh_ne hb50 f44
 have b50n:=aF l5 hb50
 replace f44:=l6 _ _ f44
 (with_reducible apply co);(exact f50');(exact Hp.le_trans l5 l6);(exact b50n);(exact Nat.le_refl 1)
 intro h7 f50 kp l7
 replace f44:=cy kp n44 f44
 have f50v:h7 b50=some (.inl ⟨[.slice none 0 0],1,false⟩):=f50
 have f9'':=l7 _ _ f9'
 clear f50 f50' kp l5 l6 hb44 hb50 h4 h5 h6
 have l07:=Hp.le_trans l3' l7
 have hnext36:=uR (kind:=36) hni
 have hnext35:=uR (kind:=35) hni
 have hev:=nE (s:=st) (inp:=inp) hni
 have hb36:(ay (m.nodes.take i) 36).length<=i:=by
  unfold ay
  refine Nat.le_trans (List.length_filter_le _ _) ?_
  rw [List.length_range,List.length_take];omega
 have hb35:(ay (m.nodes.take i) 35).length<=i:=by
  unfold ay
  refine Nat.le_trans (List.length_filter_le _ _) ?_
  rw [List.length_range,List.length_take];omega
 (refine aC ?_)
 refine aq (fun J=> ∀(t:Sl) (x:List Nat) (h8:Hp),h3.le h8->h8 b50=some (.inl ⟨[t.v],1,false⟩)->IntS h8 t (VL x)->fY m.nodes st inp (i+1)=fY m.nodes st inp i++ [x]->
  J ((ay (m.nodes.take (i+1)) 36).length:Nat) ((ay (m.nodes.take (i+1)) 35).length:Nat) h8) ?_ (fun J hJ=>?_)
 ·intro t x h8 l8 g50 hval hev'
  (refine aC ?_)
  refine ai fun b113 h9 hb113 l9 f113=>?_
  have l39:=Hp.le_trans l8 l9
  have l39o:=aZ out l39
  refine dp (hbuf.mono l39) (by omega) (by omega) (by omega) ⟨b113,0,rfl,au f113⟩ (by simp) rfl ?_
  intro s' h10 hs'n hbuf' l10 _
  rw [aw (by omega)]
  have l310:=Hp.le_trans l39o l10
  have hbuf'':Buf h10 s' 1 ((ts++ [t]).map Sl.v):=by rw [List.map_append];exact hbuf'
  refine hnx hlt _ _ ⟨ts++ [t],s',rfl,Hp.le_trans l3 l310,l310 _ _ f9,by omega,by simp;omega,hbuf'',fun j u hu=>?_⟩
  by_cases hj:j<i
  ·rw [List.getElem?_append_left (by omega)]at hu
   rw [hev',iG (by rw [dN];omega)]
   exact(hts j u hu).mono l310
  ·have hju:=get_lt hu
   simp at hju
   have hje:j=i:=by omega
   subst hje
   rw [List.getElem?_append_right (by omega),htl,Nat.sub_self]at hu
   simp at hu;subst hu
   rw [hev',List.getD_eq_getElem?_getD,List.getElem?_append_right (by rw [dN];omega),dN,Nat.sub_self]
   exact((hval.mono l9).offL (hbuf.mono l39)).mono l10
 have put: ∀(h8:Hp) (t:Sl) (x:List Nat) (P:Hp->Prop),h7.le h8->IntS h8 t (VL x)->(∀h9,h3.le h9->h9 b50=some (.inl ⟨[t.v],1,false⟩)->IntS h9 t (VL x)->P h9)->
   ∃(cs:List Value) (z:Nat),h8 b50=some (.inl ⟨cs,z,false⟩)/\0+1<=List.length cs/\cG (h8.row b50 (cl cs 0 [t.v]) z) fun h'=>P h':=by
  intro h8 t x P l8 hval hP
  have g50:=l8 _ _ f50v
  (with_reducible apply co);(exact g50);(exact Hp.le_trans l7 l8);(exact b50n);(exact Nat.le_refl 1)
  intro h9 g kp l9
  exact hP h9 l9 g (hval.keep g50 kp)
 have hpv7:gD h7 out (fY m.nodes st inp i):=(hbuf.pval (by rw [dN];omega) (by omega) fun j t ht=>(hts j t ht).mono lo).mono l7
 have hfit:=zP hok f1 f2 i (Nat.le_of_lt hlt)
 have htyp:=vQ hok hni
 refine ad (fun e=>?_) (fun e34=>?_)
 ·have e:=bU e
  rw [if_neg (by omega)]at hnext36 hnext35
  rw [if_neg (by omega),if_neg (by omega)]at hev
  obtain⟨c1,c2⟩:=htyp.const e
  have:=kg.1 c2
  have hx:fH m.nodes n (fY m.nodes st inp i)= [n.n.toNat]:=by unfold fH;rw [if_pos e]
  (refine aC ?_)
  refine H8 fun t h8 l8 hval=>⟨t,rfl,put h8 t [n.n.toNat] _ l8 ?_ fun h9 l9 g50 hv9=>?_⟩
  ·have:VL [n.n.toNat]= [n.n]:=by simp [VL];omega
   rw [this];exact hval
  ·have:=hJ t _ h9 l9 g50 hv9 (by rw [hev,hx])
   rw [hnext36,hnext35,Nat.add_zero,Nat.add_zero]at this;exact this
 replace e34:=bz e34
 refine ad (fun e=>?_) (fun e36=>?_)
 ·have e:=bU e
  rw [if_pos e]at hnext36 hev
  rw [if_neg (by omega)]at hnext35
  have hlt36:=zN hni e
  have hfk:=f1.2 _ _ (od hni e)
  have hfs:az m.nodes ((i:Nat):Int)=n.sort:=by unfold az;rw [Int.toNat_natCast,hni]
  rw [hfs]at hfk
  rw [<-f1.1]at hlt36
  obtain⟨bs,os,t,ha,hc,ht⟩:=(h1.mono l07).at (i:=(ay (m.nodes.take i) 36).length) (by simpa using hlt36)
  have hst:(st.map VL)[(ay (m.nodes.take i) 36).length]'(by simpa using hlt36)=VL (st.getD (ay (m.nodes.take i) 36).length []):=by
   rw [List.getElem_map,List.getD_eq_getElem?_getD,List.getElem?_eq_getElem hlt36];rfl
  rw [hst]at ht
  have hso:=bZ.1 htyp.sort
  have hlen4:(st.getD (ay (m.nodes.take i) 36).length []).length<=4:=by
   rw [hfk.len];have:=Nat.pow_le_pow_right (n:=2) (by omega) (show n.sort.idx.toNat<=2 by omega);simpa using this
  refine⟨bs,os,ha,by omega,by omega,t,by rw [Int.toNat_natCast,Nat.mul_one];exact hc,?_⟩
  refine oP ht (by rw [aY];omega) fun c h8 l8 hb8=>⟨c,rfl,put h8 c _ _ l8 (hb8.slS (by have:=hb8.1;rw [List.length_map,aY]at this;omega)) fun h9 l9 g50 hv9=>?_⟩
  have:=hJ c _ h9 l9 g50 hv9 hev
  rw [hnext36,hnext35,Nat.add_zero]at this
  rw [aw (by omega)];exact this
 replace e36:=bz e36
 rw [if_neg e36]at hnext36 hev
 refine ad (fun e=>?_) (fun e35=>?_)
 ·have e:=bU e
  rw [if_pos e]at hnext35 hev
  have hlt35:=zN hni e
  have hfk:=f2.2 _ _ (od hni e)
  have hfs:az m.nodes ((i:Nat):Int)=n.sort:=by unfold az;rw [Int.toNat_natCast,hni]
  rw [hfs]at hfk
  rw [<-f2.1]at hlt35
  obtain⟨bs,os,t,ha,hc,ht⟩:=(h2.mono l07).at (i:=(ay (m.nodes.take i) 35).length) (by simpa using hlt35)
  have hst:(inp.map VL)[(ay (m.nodes.take i) 35).length]'(by simpa using hlt35)=VL (inp.getD (ay (m.nodes.take i) 35).length []):=by
   rw [List.getElem_map,List.getD_eq_getElem?_getD,List.getElem?_eq_getElem hlt35];rfl
  rw [hst]at ht
  have hso:=bZ.1 htyp.sort
  have hlen4:(inp.getD (ay (m.nodes.take i) 35).length []).length<=4:=by
   rw [hfk.len];have:=Nat.pow_le_pow_right (n:=2) (by omega) (show n.sort.idx.toNat<=2 by omega);simpa using this
  refine⟨bs,os,ha,by omega,by omega,t,by rw [Int.toNat_natCast,Nat.mul_one];exact hc,?_⟩
  refine oP ht (by rw [aY];omega) fun c h8 l8 hb8=>⟨c,rfl,put h8 c _ _ l8 (hb8.slS (by have:=hb8.1;rw [List.length_map,aY]at this;omega)) fun h9 l9 g50 hv9=>?_⟩
  have:=hJ c _ h9 l9 g50 hv9 hev
  rw [hnext36,hnext35,Nat.add_zero]at this
  rw [aw (by omega)];exact this
 replace e35:=bz e35
 rw [if_neg e35]at hnext35 hev
 repeat' (refine aC ?_)
 refine Oj (n:=n) hl (Nat.le_of_lt hlt) htyp hfit (dN _ _ _ _) (hs.nodes.mono l07) hpv7 e34 e35 e36 fun t h8 l8 hval=>⟨t,rfl,put h8 t _ _ l8 hval fun h9 l9 g50 hv9=>?_⟩
 have:=hJ t _ h9 l9 g50 hv9 hev
 rw [hnext36,hnext35,Nat.add_zero,Nat.add_zero]at this;exact this
theorem IZ {l:List NodeP} {kind:Int} {p:Nat} (h:p∈ay l kind): ∃n,l[p]?=some n/\n.kind=kind:=by
 unfold ay at h
 rw [List.mem_filter,List.mem_range]at h
 cases hn:l[p]? with
 |none=>rw [hn]at h;exact absurd h.2 Bool.false_ne_true
 |some n=>rw [hn]at h;exact⟨n,rfl,by simpa using h.2⟩
theorem Fr (l:List NodeP) (hok:cx l=true) (kind:Int):cE l (ay l kind)=am l kind:=by
 have key: ∀i,i<=l.length->cE l (ay (l.take i) kind)=am (l.take i) kind:=by
  intro i
  induction i with
  |zero=>intro _;simp [ay,cE,am]
  |succ i ih=>
   intro hi
   obtain⟨n,hn⟩: ∃n,l[i]?=some n:=⟨_,List.getElem?_eq_getElem (by omega)⟩
   rw [jq hn,DV kind hn,<-ih (by omega)]
   have hs:=bZ.1 (vQ hok hn).sort
   have hsa:az l ((i:Nat):Int)=n.sort:=by unfold az;rw [Int.toNat_natCast,hn]
   by_cases hk:n.kind=kind
   ·rw [if_pos hk,if_pos hk]
    unfold cE
    rw [List.map_append,List.sum_append]
    simp only [List.map_cons,List.map_nil,List.sum_cons,List.sum_nil,Nat.add_zero]
    unfold bG aE dx
    rw [hsa,Nat.mul_comm]
   ·rw [if_neg hk,if_neg hk,List.append_nil,Nat.add_zero]
 have:=key l.length (Nat.le_refl _)
 rwa [List.take_of_length_le (Nat.le_refl _)]at this
theorem I0 {l:List NodeP} (hok:cx l=true) (kind:Int) (code:Nat):A5 l kind (dQ l (ay l kind) code):=by
 refine⟨jp _ _ _,fun k p hp=>?_⟩
 rw [Cs hp]
 obtain⟨n,hn,_⟩:=IZ (List.mem_of_getElem? hp)
 have hsa:az l ((p:Nat):Int)=n.sort:=by unfold az;rw [Int.toNat_natCast,hn]
 have hso:=(vQ hok hn).sort
 refine⟨?_,fun x hx=>Tz hx⟩
 rw [rc]
 unfold aE cX
 rw [hsa,if_pos hso]
theorem vK (a b:List Nat):VL (a++b)=VL a++VL b:=by simp [VL]
theorem kI {h:Hp} {M:MSl} {m:ah} {kind:Int} {R:Value->Hp->Prop} (hs:aM h M m) (hm:bP m)
  (k: ∀t h',h.le (h'.offS t)->t.n<=m.nodes.length->Buf h' t 1 ((VL (ay m.nodes kind)).map I)->R (Sl.v t) h'):aW #[aQ M,I kind] h R:=by
 apply AA
 refine uf_ ?_
 have hn:=hs.nodes.len
 have hns:=hm.nodes
 refine ai fun b8 h1 hb8 l1 f8=>?_
 (refine aC ?_)
 refine ar m.nodes.length (fun i vs h'=> ∃out:Sl,vs= [I kind,out.v,M.no.v,I M.no.n,I i]/\h.le (h'.offS out)/\out.n<=i/\Buf h' out 1 ((VL (ay (m.nodes.take i) kind)).map I)) ⟨⟨none,0,0⟩,rfl,l1,Nat.le_refl _,by simp [ay,VL];exact eM _ _⟩ ?_
 clear l1 f8 hb8 h1
 rintro i _ h1 next hi ⟨out,rfl,l1,hon,hbuf⟩ hnx
 have lo:=aU h1 out
 have l1':=Hp.le_trans l1 lo
 refine⟨_,out,M.no,_,_,rfl,?_⟩
 by_cases hlt:i<m.nodes.length
 ·refine aL (by simp;omega) ?_
  obtain⟨n,hni⟩: ∃n,m.nodes[i]?=some n:=⟨_,List.getElem?_eq_getElem hlt⟩
  obtain⟨b,o,ha,e0,e1,e2,e3,e4,e5,e6,e7,e8⟩:=(hs.nodes.mono l1').at hni
  refine⟨b,o,ha,by omega,by omega,_,e0,_,e1,_,e2,_,e3,_,e4,_,e5,_,e6,_,e7,_,e8,?_⟩
  refine ai fun b36 h2 hb36 l2 f36=>?_
  (with_reducible apply co);(exact f36);(exact l2);(exact hb36);(exact Nat.le_refl 9)
  intro h3 f36' kp l3
  have hpre:=jq (kind:=kind) hni
  have l3o:=aZ out l3
  (refine aC ?_)
  rw [aw (by omega)]
  refine ad (fun e=>?_) (fun e=>?_)
  ·rw [if_pos (bU e)]at hpre
   refine ai fun b44 h4 hb44 l4 f44=>?_
   have l4o:=aZ out l4
   refine dp (hbuf.mono (Hp.le_trans l3 l4)) (by omega) (by omega) (by omega) ⟨b44,0,rfl,au f44⟩ (by simp) rfl ?_
   intro s' h5 hs'n hbuf' l5 _
   refine hnx hlt _ _ ⟨s',rfl,Hp.le_trans l1 (Hp.le_trans l3o (Hp.le_trans l4o l5)),by omega,?_⟩
   rw [hpre,vK,List.map_append];exact hbuf'
  ·rw [if_neg (bz e),List.append_nil]at hpre
   refine hnx hlt _ _ ⟨out,rfl,Hp.le_trans l1 l3o,by omega,?_⟩
   rw [hpre];exact hbuf.mono l3
 ·refine aA (by simp;omega) (k out h1 l1 (by omega) ?_)
  rw [List.take_of_length_le (by omega)]at hbuf
  exact hbuf
theorem cA {h:Hp} {M:MSl} {m:ah} {kind:Int} {R:Value->Hp->Prop} (hs:aM h M m) (hm:bP m)
  (k: ∀t h',h.le h'->IntS h' t (VL (ay m.nodes kind))->R (Sl.v t) h'):aR #[aQ M,I kind] h R:=by
 apply FZ
 refine uf_ ?_
 have hn:=hs.nodes.len
 have hns:=hm.nodes
 refine ai fun b8 h1 hb8 l1 f8=>?_
 refine ar m.nodes.length (fun i vs h'=> ∃out:Sl,vs= [I kind, .pointer (some ⟨b8,0,none⟩),out.v,I i]/\h.le (h'.offS out)/\(h'.offS out) b8=some (.inl ⟨aG M,5,false⟩)/\out.n<=i/\Buf h' out 1 ((VL (ay (m.nodes.take i) kind)).map I)) ⟨⟨none,0,0⟩,rfl,l1,f8,Nat.le_refl _,by simp [ay,VL];exact eM _ _⟩ ?_
 clear l1 f8 hb8 h1
 rintro i _ h1 next hi ⟨out,rfl,l1,f8,hon,hbuf⟩ hnx
 have lo:=aU h1 out
 have l1':=Hp.le_trans l1 lo
 have f8':=lo _ _ f8
 refine⟨_,_,_,out,_,rfl,?_⟩
 (refine aC ?_)
 by_cases hlt:i<m.nodes.length
 ·refine aL (by simp;omega) ?_
  obtain⟨n,hni⟩: ∃n,m.nodes[i]?=some n:=⟨_,List.getElem?_eq_getElem hlt⟩
  obtain⟨b,o,ha,e0,_⟩:=(hs.nodes.mono l1').at hni
  have hpre:=jq (kind:=kind) hni
  (refine aC ?_)
  refine⟨b,o,ha,by omega,by omega,_,e0,?_⟩
  rw [aw (by omega)]
  refine ad (fun e=>?_) (fun e=>?_)
  ·rw [if_pos (bU e)]at hpre
   refine ai fun b44 h4 hb44 l4 f44=>?_
   have l4o:=aZ out l4
   refine dp (hbuf.mono l4) (by omega) (by omega) (by omega) ⟨b44,0,rfl,au f44⟩ (by simp) rfl ?_
   intro s' h5 hs'n hbuf' l5 _
   have l15:=Hp.le_trans l4o l5
   refine hnx hlt _ _ ⟨s',rfl,Hp.le_trans l1 l15,l15 _ _ f8,by omega,?_⟩
   rw [hpre,vK,List.map_append];exact hbuf'
  ·rw [if_neg (bz e),List.append_nil]at hpre
   refine hnx hlt _ _ ⟨out,rfl,l1,f8,by omega,?_⟩
   rw [hpre];exact hbuf
 ·refine aA (by simp;omega) (k out h1 l1' ?_)
  rw [List.take_of_length_le (by omega)]at hbuf
  exact hbuf.slc_of (by omega)
structure pY (h0 h:Hp) (out:Sl) (ts:List Sl) (vs:List (List Nat)):Prop where
 len:ts.length=vs.length
 row: ∀(i:Nat) (t:Sl),ts[i]?=some t-> ∃b,t=⟨some ⟨b,0,none⟩,(vs.getD i []).length,(vs.getD i []).length⟩/\h0 b=none/\
  (h.offS out) b=some (.inl ⟨(VL (vs.getD i [])).map I,(vs.getD i []).length,false⟩)
 dis: ∀(i j:Nat) (t u:Sl),ts[i]?=some t->ts[j]?=some u->t.a=u.a->i=j
 buf:Buf h out 1 (ts.map Sl.v)
 le:h0.le (h.offS out)
theorem pY.ints {h0 h:Hp} {out:Sl} {ts:List Sl} {vs:List (List Nat)} (e:pY h0 h out ts vs) (hl: ∀v∈vs,v.length<=1048576) (hn:out.n<=1048576):IntSS h out (vs.map VL):=by
 refine⟨ts,by rw [List.length_map];exact e.len,e.buf.slc_of (by omega),fun i h1 h2=>?_⟩
 obtain⟨b,ht,_,hr⟩:=e.row i _ (List.getElem?_eq_getElem h1)
 have hi:i<vs.length:=by rw [List.length_map]at h2;exact h2
 have hv:(vs.map VL)[i]=VL (vs.getD i []):=by
  rw [List.getElem_map,List.getD_eq_getElem?_getD,List.getElem?_eq_getElem hi];rfl
 have hvl:(vs.getD i []).length<=1048576:=by
  rw [List.getD_eq_getElem?_getD,List.getElem?_eq_getElem hi];exact hl _ (List.getElem_mem hi)
 rw [ht,hv]
 refine⟨by dsimp only;omega,by simp [aY], .inr ⟨b,0,rfl,au (aU _ _ _ _ hr)⟩⟩
def ct (l:List NodeP) (ps:List Nat):List (List Nat):=ps.map fun p=>List.replicate (aE l p) 0
theorem cZ (l:List NodeP) (p:Nat):aE l p<=4:=wT _
theorem gz {ps:List Nat} {i p:Nat} (h:ps[i]?=some p):(VL ps)[i]?=some ((p:Nat):Int):=by simp [VL,h]
theorem gE.sortc {h:Hp} {s:Sl} {l:List NodeP} (e:gE h s l) {p:Nat} (hp:p<l.length):
  ∃b o,s.a=some (Addr.mk b o none)/\(p:Int)<(s.n:Int)/\Hp.cell h b ((o+Int.toNat (p:Int)*9)+6)=some (I (az l p).idx)/\Hp.cell h b ((o+Int.toNat (p:Int)*9)+6+1)=some (I (az l p).wid):=by
 obtain⟨n,hn1⟩: ∃n,l[p]?=some n:=⟨_,List.getElem?_eq_getElem hp⟩
 obtain⟨ba,oa,ha1,_,_,_,_,_,_,c6,c7,_⟩:=e.at hn1
 have hsa:az l ((p:Nat):Int)=n.sort:=by unfold az;rw [Int.toNat_natCast,hn1]
 refine⟨ba,oa,ha1,by have:=e.len;omega,?_⟩
 rw [hsa];exact⟨c6,c7⟩
theorem lE {h:Hp} {M:MSl} {m:ah} {s:Sl} {ps:List Nat} {R:Value->Hp->Prop} (hs:aM h M m) (hm:bP m) (hp:IntS h s (VL ps)) (hps: ∀p∈ps,p<m.nodes.length) (hpl:ps.length<=1048576)
  (k: ∀out ts h',pY h h' out ts (ct m.nodes ps)->out.n=ps.length->R (Sl.v out) h'):dC #[aQ M,s.v] h R:=by
 apply Bv
 refine uf_ ?_
 have hn:=hs.nodes.len
 have hns:=hm.nodes
 have hsn:=hp.len
 rw [aY]at hsn
 refine ai fun b8 h1 hb8 l1 f8=>?_
 refine ar ps.length (fun i vs h'=> ∃(out:Sl) (ts:List Sl),vs= [.pointer (some ⟨b8,0,none⟩),out.v,s.v,I s.n,I i]/\pY h h' out ts (ct m.nodes (ps.take i))/\out.n=i/\(h'.offS out) b8=some (.inl ⟨aG M,5,false⟩))
  ⟨⟨none,0,0⟩, [],rfl,⟨rfl,fun i t ht=>by simp at ht,fun i j t u ht=>by simp at ht,eM _ _,l1⟩,rfl,f8⟩ ?_
 clear l1 f8 hb8 h1
 rintro i _ h1 next hi ⟨out,ts,rfl,hC,hon,f8⟩ hnx
 have lo:=aU h1 out
 have l1:=Hp.le_trans hC.le lo
 have f8':=lo _ _ f8
 refine⟨_,_,out,s,_,_,rfl,?_⟩
 by_cases hlt:i<ps.length
 ·refine aL (by simp;omega) ?_
  obtain⟨p,hpi⟩: ∃p,ps[i]?=some p:=⟨_,List.getElem?_eq_getElem hlt⟩
  have hpm:=hps p (List.mem_of_getElem? hpi)
  obtain⟨b,o,ha,hc⟩:=(hp.mono l1).get (gz hpi)
  refine⟨b,o,ha,by omega,by omega,_,hc,?_⟩
  (refine aC ?_)
  obtain⟨bn,on,han,hpn,c6,c7⟩:=(hs.nodes.mono l1).sortc hpm
  refine⟨bn,on,han,by omega,hpn,_,c6,_,c7,?_⟩
  refine mO ⟨_,rfl,?_⟩
  have hce:cX ⟨(az m.nodes p).idx,(az m.nodes p).wid⟩=aE m.nodes p:=rfl
  rw [hce]
  have hc4:=cZ m.nodes p
  refine⟨by omega,by omega,by omega,by omega,?_⟩
  refine ai fun b38 h2 hb38 l2 f38=>?_
  refine ai fun b40 h3 hb40 l3 f40=>?_
  have l13:=Hp.le_trans l2 l3
  have l13o:=aZ out l13
  replace f38:=l3 _ _ f38
  rw [Int.toNat_natCast,Nat.mul_one,cr]at f38
  rw [Int.toNat_natCast]at f40
  have hno: ∀a,out.a=some a->a.block≠b38:=by
   intro a ha' e
   rcases hC.buf.2.2 with ⟨h0,_⟩|⟨c,hc',hcb⟩
   ·rw [h0]at ha';cases ha'
   ·rw [hc']at ha';cases ha'
    subst e
    rw [hb38]at hcb;cases hcb
  have f38o:(h3.offS out) b38=some (.inl ⟨List.replicate (aE m.nodes p) (I 0),aE m.nodes p,false⟩):=by rw [wN hno];exact f38
  refine dp (hC.buf.mono l13) (by omega) (by omega) (by omega) ⟨b40,0,rfl,au f40⟩ (by simp) rfl ?_
  intro s' h4 hs'n hbuf' l4 _
  have l14:=Hp.le_trans l13o l4
  rw [aw (by omega)]
  have hvs:ct m.nodes (ps.take (i+1))=ct m.nodes (ps.take i)++ [List.replicate (aE m.nodes p) 0]:=by
   unfold ct
   rw [List.take_succ_eq_append_getElem hlt,List.map_append]
   rw [List.getElem?_eq_getElem hlt]at hpi
   rw [Option.some.inj hpi];rfl
  have hlen:=hC.len
  have hzl:(ct m.nodes (ps.take i)).length=i:=by unfold ct;simp;omega
  have b38h:h b38=none:=aF l1 hb38
  refine hnx hlt _ _ ⟨s',ts++ [⟨some ⟨b38,0,none⟩,aE m.nodes p,aE m.nodes p⟩],rfl,⟨?_,fun j t ht=>?_,fun j j' t u ht hu hau=>?_,by rw [List.map_append];exact hbuf',Hp.le_trans hC.le l14⟩,by omega,l14 _ _ f8⟩
  ·rw [hvs,List.length_append,List.length_append,hlen];rfl
  ·by_cases hj:j<i
   ·rw [List.getElem?_append_left (by omega)]at ht
    obtain⟨b',e1,e2,e3⟩:=hC.row j t ht
    rw [hvs,iG (by omega)]
    exact⟨b',e1,e2,l14 _ _ e3⟩
   ·have hju:=get_lt ht
    simp at hju
    have hje:j=i:=by omega
    subst hje
    rw [List.getElem?_append_right (by omega),show j-ts.length=0 by omega]at ht
    simp at ht;subst ht
    rw [hvs,List.getD_eq_getElem?_getD,List.getElem?_append_right (by omega),hzl,Nat.sub_self]
    refine⟨b38,by simp,b38h,?_⟩
    have:=l4 _ _ f38o
    simpa [VL] using this
  ·have hb: ∀(q:Nat) (z:Sl),ts[q]?=some z->z.a≠some ⟨b38,0,none⟩:=by
    intro q z hz he
    obtain⟨b',e1,e2,e3⟩:=hC.row q z hz
    rw [e1]at he
    have hbb:b'=b38:=by simpa using he
    subst hbb
    have:=lo _ _ e3
    rw [hb38]at this;cases this
   by_cases hj:j<i
   ·rw [List.getElem?_append_left (by omega)]at ht
    by_cases hj':j'<i
    ·rw [List.getElem?_append_left (by omega)]at hu
     exact hC.dis j j' t u ht hu hau
    ·have hju:=get_lt hu
     simp at hju
     rw [List.getElem?_append_right (by omega),show j'-ts.length=0 by omega]at hu
     simp at hu;subst hu
     exact absurd hau (hb j t ht)
   ·have hjt:=get_lt ht
    simp at hjt
    by_cases hj':j'<i
    ·rw [List.getElem?_append_left (by omega)]at hu
     rw [List.getElem?_append_right (by omega),show j-ts.length=0 by omega]at ht
     simp at ht;subst ht
     exact absurd hau.symm (hb j' u hu)
    ·have hju:=get_lt hu
     simp at hju
     omega
 ·have hie:i=ps.length:=by omega
  subst hie
  rw [List.take_of_length_le (Nat.le_refl _)]at hC
  exact aA (by simp;omega) (k out ts h1 hC hon)
structure cC (m:ah):Prop where
 nl:m.nodes.length<=60
 il:m.inits.length<=60
 xl:m.nexts.length<=60
 bl:m.bads.length<=4
 hl:m.holds.length<=4
 ok:cx m.nodes=true
 twice:vj m=false
 ini: ∀b∈m.inits,jh m.nodes b=true
 nex: ∀b∈m.nexts,fV m.nodes b=true
 bad: ∀p∈m.bads,dl m.nodes p=true
 hol: ∀p∈m.holds,dl m.nodes p=true
 n8:am m.nodes 36<=8
 k5:am m.nodes 35<=5
theorem kH {c:Prop} [Decidable c] {x y:Int} (hx:x≠0) (h:(if c then x else y)=0): ¬c/\y=0:=by
 split at h
 ·exact absurd h hx
 ·rename_i hc;exact⟨hc,h⟩
theorem cH {m:ah} (h:aD m=0):cC m:=by
 unfold aD at h
 obtain⟨h1,h⟩:=kH (by decide) h
 obtain⟨h2,h⟩:=kH (by decide) h
 obtain⟨h3,h⟩:=kH (by decide) h
 obtain⟨h4,h⟩:=kH (by decide) h
 obtain⟨h5,h⟩:=kH (by decide) h
 obtain⟨h6,h⟩:=kH (by decide) h
 simp only [Bool.not_eq_false,Bool.and_eq_true,List.all_eq_true,Bool.not_eq_true]at h2 h3 h4 h5
 exact⟨by omega,by omega,by omega,by omega,by omega,h2,h3,h4.1,h4.2,h5.1,h5.2,by omega,by omega⟩
theorem cC.small {m:ah} (g:cC m): ∀n∈m.nodes,n.name.size<=8:=by
 intro n hn
 obtain⟨i,hi,e⟩:=List.getElem_of_mem hn
 have hf:=ff g.ok (i:=i) (n:=n) (by rw [List.getElem?_eq_getElem hi,e])
 unfold fJ at hf
 simp only [Bool.and_eq_true]at hf
 have hf':=hf.1.1.2
 split at hf'
 ·unfold gw at hf'
  simp only [Bool.and_eq_true,decide_eq_true_eq]at hf';omega
 ·simp only [decide_eq_true_eq]at hf';omega
theorem qY {l:List NodeP} (hok:cx l=true) {p:Nat} (hp:p<l.length):bO (az l p)=true:=by
 have hn:l[p]?=some l[p]:=List.getElem?_eq_getElem hp
 have:az l ((p:Nat):Int)=l[p].sort:=by unfold az;rw [Int.toNat_natCast,hn]
 rw [this];exact(vQ hok hn).sort
theorem oJ {l:List NodeP} (hok:cx l=true) {p:Nat} (hp:p<l.length) {v:List Nat} (h:Fit (az l p) v):v.length=aE l p/\ ∀x∈v,x<2^bG l p:=by
 refine⟨?_,h.lt⟩
 unfold aE cX
 rw [if_pos (qY hok hp),h.len]
theorem lA {l:List NodeP} {kind:Int} {p:Nat} (h:p∈ay l kind):p<l.length:=by
 obtain⟨n,hn,_⟩:=IZ h
 exact get_lt hn
def uV (m:ah) (s i:List (List Nat)):List (List Nat):=fY m.nodes s i m.nodes.length
abbrev stP (m:ah):List Nat:=ay m.nodes 36
abbrev inP (m:ah):List Nat:=ay m.nodes 35
def bR (m:ah) (s i:Nat):List (List Nat):=uV m (dQ m.nodes (stP m) s) (dQ m.nodes (inP m) i)
theorem eU {l:List NodeP} {p:Int}:de l p=true↔0<=p/\p<l.length:=by
 unfold de;rw [decide_eq_true_eq];omega
theorem Ab {m:ah} (g:cC m) (s i:Nat):yX m.nodes m.nodes.length (bR m s i):=
 zP g.ok (I0 g.ok 36 s) (I0 g.ok 35 i) _ (Nat.le_refl _)
theorem Mg (m:ah) (s i:List (List Nat)):(uV m s i).length=m.nodes.length:=dN _ _ _ _
theorem ed {m:ah} (g:cC m):cE m.nodes (stP m)=am m.nodes 36:=Fr _ g.ok 36
theorem uB {m:ah} (g:cC m):cE m.nodes (inP m)=am m.nodes 35:=Fr _ g.ok 35
theorem pY.blk {h0 h:Hp} {out:Sl} {ts:List Sl} {vs:List (List Nat)} (e:pY h0 h out ts vs) {i:Nat} (hi:i<vs.length):
  ∃b,ts[i]?=some ⟨some ⟨b,0,none⟩,(vs.getD i []).length,(vs.getD i []).length⟩/\h0 b=none/\(h.offS out) b=some (.inl ⟨(VL (vs.getD i [])).map I,(vs.getD i []).length,false⟩):=by
 have hl:=e.len
 obtain⟨b,h1,h2,h3⟩:=e.row i _ (List.getElem?_eq_getElem (show i<ts.length by omega))
 exact⟨b,by rw [List.getElem?_eq_getElem (show i<ts.length by omega),h1],h2,h3⟩
theorem pY.wr {h0 h:Hp} {out:Sl} {ts:List Sl} {vs:List (List Nat)} {b n c i k x:Nat} {P:Hp->Prop} (e:pY h0 h out ts vs) (ht:ts[i]?=some ⟨some ⟨b,0,none⟩,n,c⟩) (hi:i<vs.length) (hk:k<(vs.getD i []).length)
  (kk: ∀h',pY h0 h' out ts (vs.set i ((vs.getD i []).set k x))->P h'):
  ∃(cs:List Value) (z:Nat),h b=some (.inl ⟨cs,z,false⟩)/\(0+Int.toNat (k:Int)*1)+1<=List.length cs/\cG (h.row b (cl cs (0+Int.toNat (k:Int)*1) [I x]) z) P:=by
 obtain⟨b',h1,h2,h3⟩:=e.blk hi
 rw [ht]at h1
 simp only [Option.some.injEq,Sl.mk.injEq,Addr.mk.injEq,and_true,true_and]at h1
 obtain⟨rfl,rfl,rfl⟩:=h1
 refine⟨_,_,aU _ _ _ _ h3,?_,?_⟩
 ·rw [List.length_map,aY,Int.toNat_natCast];omega
 rw [SL]
 refine kk _ ⟨by rw [List.length_set];exact e.len,fun j t hj=>?_,e.dis,e.buf.row _ _ h3,?_⟩
 ·obtain⟨bj,g1,g2,g3⟩:=e.row j t hj
  by_cases hji:j=i
  ·subst hji
   rw [ht]at hj
   obtain rfl:=(Option.some.inj hj).symm
   simp only [Sl.mk.injEq,Option.some.injEq,Addr.mk.injEq,and_true,true_and]at g1
   obtain⟨rfl,_⟩:=g1
   have hv:(vs.set j ((vs.getD j []).set k x)).getD j []=(vs.getD j []).set k x:=by
    rw [List.getD_eq_getElem?_getD,List.getElem?_set_self (by omega)];rfl
   rw [hv,List.length_set]
   refine⟨b,rfl,g2,?_⟩
   rw [rz _ _ h3,bJ]
   simp [VL,List.map_set,bD]
  ·have hv:(vs.set i ((vs.getD i []).set k x)).getD j []=vs.getD j []:=by
    rw [List.getD_eq_getElem?_getD,List.getElem?_set_ne (Ne.symm hji),<-List.getD_eq_getElem?_getD]
   rw [hv]
   refine⟨bj,g1,g2,?_⟩
   rw [rz _ _ h3,bX]
   ·exact g3
   ·rintro rfl
    refine hji (e.dis j i t _ hj ht ?_)
    rw [g1]
 ·rw [rz _ _ h3]
  exact dP _ _ h2 e.le
def qo (l:List NodeP) (ps:List Nat) (code i:Nat):List (List Nat):=(dQ l ps code).take i++(ct l ps).drop i
def nD (l:List NodeP) (p code k:Nat):List Nat:=mv (bG l p) k code++List.replicate (aE l p-k) 0
theorem Pz (l:List NodeP) (ps:List Nat) (code i:Nat) (hi:i<=ps.length):(qo l ps code i).length=ps.length:=by
 unfold qo;rw [List.length_append,List.length_take,List.length_drop,jp,ct,List.length_map];omega
theorem CT {l:List NodeP} {ps:List Nat} {code i p:Nat} (h:ps[i]?=some p):(qo l ps code i).getD i []=nD l p (code/2^cE l (ps.take i)) 0:=by
 have hlt:=get_lt h
 unfold qo nD
 rw [List.getD_eq_getElem?_getD,List.getElem?_append_right (by rw [List.length_take,jp];omega),List.length_take,jp,Nat.min_eq_left (by omega),Nat.sub_self,List.getElem?_drop,Nat.add_zero,ct,List.getElem?_map,h]
 rfl
theorem PJ {l:List NodeP} {ps:List Nat} {code i p:Nat} (h:ps[i]?=some p):(qo l ps code i).set i (nD l p (code/2^cE l (ps.take i)) (aE l p))=qo l ps code (i+1):=by
 have hlt:=get_lt h
 have hu:(dQ l ps code)[i]?=some (mv (bG l p) (aE l p) (code/2^cE l (ps.take i))):=by
  have:=Cs (l:=l) (code:=code) h
  rw [List.getD_eq_getElem?_getD,List.getElem?_eq_getElem (by rw [jp];exact hlt)]at this
  rw [List.getElem?_eq_getElem (by rw [jp];exact hlt)]
  exact congrArg some this
 unfold qo nD
 rw [Nat.sub_self,List.replicate_zero,List.append_nil,List.set_append_right _ _ (by rw [List.length_take,jp];omega),List.length_take,jp,Nat.min_eq_left (by omega),Nat.sub_self]
 have hd:(ct l ps).drop i=List.replicate (aE l p) 0::(ct l ps).drop (i+1):=by
  rw [<-List.getElem_cons_drop (show i<(ct l ps).length by rw [ct,List.length_map];exact hlt)]
  congr 1
  unfold ct
  rw [List.getElem_map]
  rw [List.getElem?_eq_getElem hlt]at h
  rw [Option.some.inj h]
 rw [hd,List.set_cons_zero,List.take_add_one,hu]
 simp
theorem Jm {l:List NodeP} {p code k:Nat} (hk:k<aE l p):(nD l p code k).set k (code/2^(bG l p*k)%2^bG l p)=nD l p code (k+1):=by
 unfold nD
 rw [List.set_append_right _ _ (by rw [rc];omega),rc,Nat.sub_self]
 obtain⟨d,hd⟩: ∃d,aE l p-k=d+1:=⟨aE l p-k-1,by omega⟩
 rw [hd,List.replicate_succ,List.set_cons_zero,show aE l p-(k+1)=d by omega,mv,List.append_assoc];rfl
theorem wE {l:List NodeP} {p code k:Nat} (hk:k<=aE l p):(nD l p code k).length=aE l p:=by
 unfold nD;rw [List.length_append,rc,List.length_replicate];omega
theorem gE.widc {h:Hp} {s:Sl} {l:List NodeP} (e:gE h s l) {p:Nat} (hp:p<l.length) (hok:cx l=true):
  ∃b o,s.a=some (Addr.mk b o none)/\(p:Int)<(s.n:Int)/\Hp.cell h b (((o+Int.toNat (p:Int)*9)+6)+1)=some (I (bG l p))/\1<=bG l p/\bG l p<=16:=by
 obtain⟨b,o,h1,h2,h3,h4⟩:=e.sortc hp
 have:=bZ.1 (qY hok hp)
 have hw:(az l p).wid=((bG l p:Nat):Int):=by unfold bG;omega
 exact⟨b,o,h1,h2,by rw [<-hw];exact h4,by unfold bG;omega,by unfold bG;omega⟩
theorem PH {l:List NodeP} {ps:List Nat} {code:Nat} {v:List Nat} (h:v∈dQ l ps code):v.length<=4:=by
 unfold dQ at h
 obtain⟨i,_,rfl⟩:=List.mem_map.1 h
 rw [rc];exact cZ _ _
theorem eL (l:List NodeP) (ps:List Nat):(ct l ps).length=ps.length:=by simp [ct]
theorem Ad {h:Hp} {M:MSl} {m:ah} {s:Sl} {ps:List Nat} {code:Nat} {R:Value->Hp->Prop} (hs:aM h M m) (hm:bP m) (hok:cx m.nodes=true) (hp:IntS h s (VL ps)) (hps: ∀p∈ps,p<m.nodes.length) (hpl:ps.length<=1048576)
  (hcode:code<=1048576) (k: ∀out h',h.le h'->IntSS h' out ((dQ m.nodes ps code).map VL)->out.n<=out.c->R (Sl.v out) h'):dj #[aQ M,s.v,I code] h R:=by
 apply ya
 refine uf_ ?_
 have hn:=hs.nodes.len
 have hns:=hm.nodes
 have hsn:=hp.len
 rw [aY]at hsn
 refine ai fun b9 h1 hb9 l1 f9=>?_
 repeat' (refine aC ?_)
 refine lE (hs.mono l1) hm (hp.mono l1) hps hpl fun out ts h2 hC hon=>⟨out,rfl,?_⟩
 refine ar ps.length (fun i vs h'=>vs= [I (code/2^cE m.nodes (ps.take i):Nat), .pointer (some ⟨b9,0,none⟩),out.v,s.v,I s.n,I i]/\pY h1 h' out ts (qo m.nodes ps code i)) ⟨?_,?_⟩ ?_
 ·simp [cE]
 ·have:qo m.nodes ps code 0=ct m.nodes ps:=by simp [qo]
  rw [this];exact hC
 clear hC h2
 rintro i _ h2 next hi ⟨rfl,hC⟩ hnx
 have hle:=Hp.le_trans hC.le (aU _ _)
 have f9':=hle _ _ f9
 refine⟨_,_,_,out,s,_,_,rfl,?_⟩
 by_cases hlt:i<ps.length
 rotate_left
 ·have hie:i=ps.length:=by omega
  subst hie
  refine aA (by simp;omega) (k out h2 (Hp.le_trans l1 hle) ?_ hC.buf.2.1)
  have:qo m.nodes ps code ps.length=dQ m.nodes ps code:=by
   unfold qo
   rw [List.take_of_length_le (by rw [jp];omega),List.drop_of_length_le (by rw [eL];omega),List.append_nil]
  rw [this]at hC
  refine hC.ints (fun v hv=>?_) (by omega)
  have:=PH hv;omega
 refine aL (by simp;omega) ?_
 obtain⟨p,hpi⟩: ∃p,ps[i]?=some p:=⟨_,List.getElem?_eq_getElem hlt⟩
 have hpm:=hps p (List.mem_of_getElem? hpi)
 obtain⟨b,o,ha,hc⟩:=((hp.mono l1).mono hle).get (gz hpi)
 refine⟨b,o,ha,by omega,by omega,_,hc,?_⟩
 (refine aC ?_)
 obtain⟨bn,on,han,hpn,c7,w1,w16⟩:=((hs.mono l1).mono hle).nodes.widc hpm hok
 refine⟨bn,on,han,by omega,hpn,_,c7,?_⟩
 have hol:=Pz m.nodes ps code i (by omega)
 obtain⟨bi,hti,hbi,hri⟩:=hC.blk (i:=i) (by omega)
 rw [CT hpi,wE (Nat.zero_le _)]at hti
 obtain⟨bo,hoa,hob⟩: ∃bo,out.a=some ⟨bo,0,none⟩/\h2 bo=some (.inl ⟨ts.map Sl.v,out.c*1,false⟩):=by
  rcases hC.buf.2.2 with ⟨_,h0,_⟩|h0
  ·omega
  ·exact h0
 have hcell:Hp.cell h2 bo (0+Int.toNat (i:Int)*1)=some (Sl.v ⟨some ⟨bi,0,none⟩,aE m.nodes p,aE m.nodes p⟩):=by
  rw [av hob,Nat.zero_add,Int.toNat_natCast,Nat.mul_one,List.getElem?_map,hti];rfl
 refine⟨bo,0,hoa,by omega,by omega,_,hcell,?_⟩
 have hcl:=cZ m.nodes p
 generalize hci:code/2^cE m.nodes (ps.take i)=ci
 have hcile:ci<=code:=by rw [<-hci];exact Nat.div_le_self _ _
 refine ar (aE m.nodes p) (fun k vs h'=>vs= [I (ci/2^(bG m.nodes p*k):Nat), .pointer (some ⟨b9,0,none⟩),out.v,I i,I (bG m.nodes p),s.v,I s.n,I i,I (aE m.nodes p:Nat),I k]/\
  pY h1 h' out ts ((qo m.nodes ps code i).set i (nD m.nodes p ci k))) ⟨by simp,?_⟩ ?_
 ·rw [<-hci,<-CT hpi]
  have:(qo m.nodes ps code i).set i ((qo m.nodes ps code i).getD i [])=qo m.nodes ps code i:=by
   rw [List.getD_eq_getElem?_getD,List.getElem?_eq_getElem (by omega)];simp
  rw [this];exact hC
 clear hC hle f9' hri hob hcell ha hc han hpn c7 h2
 rintro q _ h2 next2 hq ⟨rfl,hC⟩ hnx2
 have hle:=Hp.le_trans hC.le (aU _ _)
 have f9':=hle _ _ f9
 have hdiv:ci/2^(bG m.nodes p*q)<=ci:=Nat.div_le_self _ _
 refine⟨_,_,_,out,_,_,s,_,_,_,_,rfl,?_⟩
 have hgs:((qo m.nodes ps code i).set i (nD m.nodes p ci q)).getD i []=nD m.nodes p ci q:=by
  rw [List.getD_eq_getElem?_getD,List.getElem?_set_self (by omega)];rfl
 by_cases hlq:q<aE m.nodes p
 rotate_left
 ·have hqe:q=aE m.nodes p:=by omega
  subst hqe
  refine aA (by simp) ?_
  rw [aw (by omega)]
  refine hnx hlt _ _ ⟨?_,?_⟩
  ·rw [mh hpi,Nat.pow_add,<-Nat.div_div_eq_div_mul,hci]
  ·rw [<-hci]at hC
   rw [<-PJ hpi];exact hC
 refine aL (by simp;omega) ?_
 obtain⟨bo',hoa',hob'⟩: ∃bo,out.a=some ⟨bo,0,none⟩/\h2 bo=some (.inl ⟨ts.map Sl.v,out.c*1,false⟩):=by
  rcases hC.buf.2.2 with ⟨_,h0,_⟩|h0
  ·omega
  ·exact h0
 have hcell':Hp.cell h2 bo' (0+Int.toNat (i:Int)*1)=some (Sl.v ⟨some ⟨bi,0,none⟩,aE m.nodes p,aE m.nodes p⟩):=by
  rw [av hob',Nat.zero_add,Int.toNat_natCast,Nat.mul_one,List.getElem?_map,hti];rfl
 refine⟨bo',0,hoa',by omega,by omega,_,hcell',?_⟩
 refine dz (by omega) ⟨_,rfl,rfl,bi,0,rfl,by omega,by dsimp only;omega,?_⟩
 rw [gP (by omega),oK,jn (by omega),Nat.div_div_eq_div_mul,<-Nat.pow_add]
 refine hC.wr hti (by rw [List.length_set];omega) (by rw [hgs,wE (by omega)];exact hlq) fun h3 hC'=>?_
 rw [if_neg (by omega),aw (by omega)]
 refine hnx2 hlq _ _ ⟨by rw [Nat.mul_add,Nat.mul_one],?_⟩
 rw [hgs,List.set_set,Jm hlq]at hC'
 exact hC'
theorem gE.sortc2 {h:Hp} {s:Sl} {l:List NodeP} (e:gE h s l) {p:Nat} (hp:p<l.length) (hok:cx l=true):
  ∃b o,s.a=some (Addr.mk b o none)/\(p:Int)<(s.n:Int)/\Hp.cell h b ((o+Int.toNat (p:Int)*9)+6)=some (I (az l p).idx)/\Hp.cell h b (((o+Int.toNat (p:Int)*9)+6)+1)=some (I (bG l p))/\1<=bG l p/\bG l p<=16:=by
 obtain⟨b,o,h1,h2,h3,h4⟩:=e.sortc hp
 have:=bZ.1 (qY hok hp)
 have hw:(az l p).wid=((bG l p:Nat):Int):=by unfold bG;omega
 exact⟨b,o,h1,h2,h3,by rw [<-hw];exact h4,by unfold bG;omega,by unfold bG;omega⟩
theorem mW {l:List NodeP} {p:Nat} (hok:cx l=true) (hp:p<l.length):cX ⟨(az l p).idx,(bG l p:Nat)⟩=aE l p:=by
 have:=bZ.1 (qY hok hp)
 have hw:((bG l p:Nat):Int)=(az l p).wid:=by unfold bG;omega
 rw [hw];rfl
theorem W2 (w k ci:Nat):(VL (mv w k ci)).map I++ [I ((ci/2^(w*k)%2^w:Nat):Int)]=(VL (mv w (k+1) ci)).map I:=by
 rw [mv,vK,List.map_append];rfl
theorem eW {h:Hp} {M:MSl} {m:ah} {s:Sl} {ps:List Nat} {code:Nat} {R:Value->Hp->Prop} (hs:aM h M m) (hm:bP m) (hok:cx m.nodes=true) (hp:IntS h s (VL ps)) (hps: ∀p∈ps,p<m.nodes.length) (hpl:ps.length<=1048576)
  (hcode:code<=1048576) (hsum:cE m.nodes ps<=60) (k: ∀out h',h.le h'->IntSS h' out ((dQ m.nodes ps code).map VL)->R (Sl.v out) h'):bC #[aQ M,s.v,I code] h R:=by
 apply FX
 refine uf_ ?_
 have hn:=hs.nodes.len
 have hns:=hm.nodes
 have hsn:=hp.len
 rw [aY]at hsn
 refine ai fun b9 h1 hb9 l1 f9=>?_
 refine ar ps.length (fun i vs h'=> ∃(ts:List Sl) (out:Sl),vs= [s.v,I code, .pointer (some ⟨b9,0,none⟩),out.v,I (cE m.nodes (ps.take i):Nat),I i]/\
  h.le (h'.offS out)/\(h'.offS out) b9=some (.inl ⟨aG M,5,false⟩)/\out.n=i/\ts.length=i/\Buf h' out 1 (ts.map Sl.v)/\
  (∀(j:Nat) (t:Sl),ts[j]?=some t->IntS (h'.offS out) t (VL ((dQ m.nodes ps code).getD j []))))
  ⟨[],⟨none,0,0⟩,by simp [cE],l1,f9,rfl,rfl,eM _ _,fun j t ht=>by simp at ht⟩ ?_
 clear f9 l1 hb9 h1
 rintro i _ h3 next hi ⟨ts,out,rfl,l3,f9,hon,htl,hbuf,hts⟩ hnx
 have lo:=aU h3 out
 have f9':=lo _ _ f9
 have l3':=Hp.le_trans l3 lo
 have hsi:=Gy m.nodes ps i
 refine⟨s,_,_,_,out,_,_,rfl,?_⟩
 by_cases hlt:i<ps.length
 rotate_left
 ·have hie:i=ps.length:=by omega
  subst hie
  refine aA (by simp;omega) (k out h3 l3' ⟨ts,by simp [jp];omega,hbuf.slc_of (by omega),fun j h1 h2=>?_⟩)
  have:=(hts j _ (List.getElem?_eq_getElem h1)).mono lo
  have hju:j<(dQ m.nodes ps code).length:=by rw [jp];omega
  rw [List.getElem_map]
  rwa [List.getD_eq_getElem?_getD,List.getElem?_eq_getElem hju]at this
 refine aL (by simp;omega) ?_
 obtain⟨p,hpi⟩: ∃p,ps[i]?=some p:=⟨_,List.getElem?_eq_getElem hlt⟩
 have hpm:=hps p (List.mem_of_getElem? hpi)
 obtain⟨b,o,ha,hc⟩:=(hp.mono l3').get (gz hpi)
 refine⟨b,o,ha,by omega,by omega,?_⟩
 (refine aC ?_)
 refine⟨_,hc,?_⟩
 obtain⟨bn,on,han,hpn,c6,c7,w1,w16⟩:=(hs.mono l3').nodes.sortc2 hpm hok
 refine⟨bn,on,han,by omega,hpn,_,c6,_,c7,?_⟩
 have xb:=fX hc
 have xbn:=fX c6
 have xb9:=bV f9'
 refine ai fun b37 h4 hb37 l4 f37=>?_
 repeat' (((with_reducible apply ly);(assumption);(assumption)))
 (with_reducible apply co);(exact f37);(exact l4);(exact hb37);(exact Nat.le_refl 2)
 intro h5 f37b kp l5
 clear f37 kp l4 h4
 refine ai fun b43 h6 hb43 l6 f43=>?_
 have n37:=fresh_ne hb43 f37b
 have hb43':=aF l5 hb43
 (with_reducible apply co);(exact f43);(exact Hp.le_trans l5 l6);(exact hb43');(exact Nat.le_refl 1)
 intro h7 f43b kp l7
 have f37c:h7 b37=some (.inl ⟨[I (az m.nodes p).idx,I (bG m.nodes p)],2,false⟩):=cy kp n37 (l6 _ _ f37b)
 have f43c:h7 b43=some (.inl ⟨[(⟨none,0,0⟩:Sl).v],1,false⟩):=f43b
 clear f43 f43b f37b kp l6 l5
 have hcl:=cZ m.nodes p
 have hcm:=mW hok hpm
 have hstep:=mh (l:=m.nodes) hpi
 have hsi1:=Gy m.nodes ps (i+1)
 obtain⟨ci,hci⟩: ∃ci,ci=code/2^cE m.nodes (ps.take i):=⟨_,rfl⟩
 refine ar (aE m.nodes p) (fun q vs h'=> ∃sl:Sl,vs= [s.v,I code, .pointer (some ⟨b9,0,none⟩),out.v,I (cE m.nodes (ps.take i)+bG m.nodes p*q:Nat),I i, .pointer (some ⟨b37,0,none⟩), .pointer (some ⟨b43,0,none⟩),I q]/\
  h3.le (h'.offS sl)/\(h'.offS sl) b37=some (.inl ⟨[I (az m.nodes p).idx,I (bG m.nodes p)],2,false⟩)/\(h'.offS sl) b43=some (.inl ⟨[sl.v],1,false⟩)/\sl.n=q/\Buf h' sl 1 ((VL (mv (bG m.nodes p) q ci)).map I))
  ⟨⟨none,0,0⟩,by simp,l7,f37c,f43c,rfl,eM _ _⟩ ?_
 clear f37c f43c l7 h7
 rintro q _ h7 next2 hq ⟨sl,rfl,l7,f37,f43,hsl,hbufl⟩ hnx2
 have los:=aU h7 sl
 have f37':=los _ _ f37
 have f43':=los _ _ f43
 refine⟨s,_,_,_,out,_,_,_,_,_,_,_,rfl,?_⟩
 repeat' (refine aC ?_)
 refine fR ⟨_,rfl,?_⟩
 rw [hcm]
 by_cases hlq:q<aE m.nodes p
 rotate_left
 ·have hqe:q=aE m.nodes p:=by omega
  subst hqe
  refine aA (by simp) ?_
  (refine aC ?_)
  refine ai fun b103 h8 hb103 l8 f103=>?_
  have l38:=Hp.le_trans l7 (Hp.le_trans los l8)
  have l38o:=aZ out l38
  refine dp (hbuf.mono l38) (by omega) (by omega) (by omega) ⟨b103,0,rfl,au f103⟩ (by simp) rfl ?_
  intro s' h10 hs'n hbuf' l10 _
  rw [aw (by omega)]
  have l310:=Hp.le_trans l38o l10
  have hbuf'':Buf h10 s' 1 ((ts++ [sl]).map Sl.v):=by rw [List.map_append];exact hbuf'
  have hval:IntS h8 sl (VL (mv (bG m.nodes p) (aE m.nodes p) ci)):=SlC.mono l8 (hbufl.slc_of (by omega))
  rw [<-hstep]
  refine hnx hlt _ _ ⟨ts++ [sl],s',rfl,Hp.le_trans l3 l310,l310 _ _ f9,by omega,by simp;omega,hbuf'',fun j u hu=>?_⟩
  by_cases hj:j<i
  ·rw [List.getElem?_append_left (by omega)]at hu
   exact(hts j u hu).mono l310
  ·have hju:=get_lt hu
   simp at hju
   have hje:j=i:=by omega
   subst hje
   rw [List.getElem?_append_right (by omega),htl,Nat.sub_self]at hu
   simp at hu;subst hu
   rw [Cs hpi,<-hci]
   exact(hval.offL (hbuf.mono l38)).mono l10
 refine aL (by simp;omega) ?_
 have hmul:bG m.nodes p*q<=bG m.nodes p*aE m.nodes p:=Nat.mul_le_mul_left _ hq
 have hmul2:bG m.nodes p*(q+1)<=bG m.nodes p*aE m.nodes p:=Nat.mul_le_mul_left _ hlq
 have hp16:=Bb w16
 have hpp:=bL (bG m.nodes p)
 refine aq (fun J=> ∀(sl':Sl) (h':Hp),h3.le (h'.offS sl')->(h'.offS sl') b37=some (.inl ⟨[I (az m.nodes p).idx,I (bG m.nodes p)],2,false⟩)->(h'.offS sl') b43=some (.inl ⟨[sl'.v],1,false⟩)->sl'.n=q+1->
   Buf h' sl' 1 ((VL (mv (bG m.nodes p) (q+1) ci)).map I)->J (cE m.nodes (ps.take i)+bG m.nodes p*(q+1):Nat) h') ?_ (fun J hJ=>?_)
 ·intro sl' h' g1 g2 g3 g4 g5
  rw [aw (by omega)]
  exact hnx2 hlq _ _ ⟨sl',rfl,g1,g2,g3,g4,g5⟩
 have xb60:=bV f37'
 have xb62:=bV f43'
 rw [cQ (n:=cE m.nodes (ps.take i)+bG m.nodes p*q) (by omega)]
 repeat' (refine aC ?_)
 rw [cQ (n:=bG m.nodes p) (by omega)]
 rw [jn (by omega),cg (by omega),ee]
 have hval:code/2^(cE m.nodes (ps.take i)+bG m.nodes p*q)=ci/2^(bG m.nodes p*q):=by
  rw [hci,Nat.div_div_eq_div_mul,<-Nat.pow_add]
 rw [hval]
 have app: ∀(K:Option Addr->Nat->Nat->Hp->Prop) (h8:Hp) (b75:Nat),h7.le h8->h8 b75=some (.inl ⟨[I ((ci/2^(bG m.nodes p*q)%2^bG m.nodes p:Nat):Int)],1,false⟩)->
   (∀(s':Sl) (h9:Hp),s'.n=q+1->h3.le (h9.offS s')->(h9.offS s') b37=some (.inl ⟨[I (az m.nodes p).idx,I (bG m.nodes p)],2,false⟩)->(h9.offS s') b43=some (.inl ⟨[sl.v],1,false⟩)->Buf h9 s' 1 ((VL (mv (bG m.nodes p) (q+1) ci)).map I)->K s'.a s'.n s'.c h9)->
   ck h8 sl.a sl.n sl.c (some ⟨b75,0,none⟩) 1 1 8 K:=by
  intro K h8 b75 l8 f75 hK
  have l78:=aZ sl l8
  refine dp (hbufl.mono l8) (by omega) (by omega) (by omega) ⟨b75,0,rfl,au f75⟩ (by simp) rfl ?_
  intro s' h9 hs'n hbuf' l9 _
  have l79:=Hp.le_trans l78 l9
  refine hK s' h9 (by omega) (Hp.le_trans l7 l79) (l79 _ _ f37) (l79 _ _ f43) ?_
  rw [<-W2];exact hbuf'
 have fin: ∀(s':Sl) (h9:Hp),s'.n=q+1->h3.le (h9.offS s')->(h9.offS s') b37=some (.inl ⟨[I (az m.nodes p).idx,I (bG m.nodes p)],2,false⟩)->(h9.offS s') b43=some (.inl ⟨[sl.v],1,false⟩)->Buf h9 s' 1 ((VL (mv (bG m.nodes p) (q+1) ci)).map I)->
   ∃(cs:List Value) (z:Nat),h9 b43=some (.inl ⟨cs,z,false⟩)/\0+1<=List.length cs/\cG (h9.row b43 (cl cs 0 [.slice s'.a s'.n s'.c]) z) fun h83=> ∃(x85:Int),Hp.cell h83 b37 (0+1)=some (I x85)/\(J (W (((cE m.nodes (ps.take i)+bG m.nodes p*q:Nat):Int)+x85)) h83):=by
  intro s' h9 g1 g2 g3 g4 g5
  (with_reducible apply vB);(exact g4);(exact g2);(exact hb43');(exact Nat.le_refl 1)
  intro h10 e43 kp l10 hbk
  have e37:(h10.offS s') b37=some (.inl ⟨[I (az m.nodes p).idx,I (bG m.nodes p)],2,false⟩):=by rw [kp _ n37];exact g3
  refine⟨_,by rw [av (aU _ _ _ _ e37)];rfl,?_⟩
  have:W (((cE m.nodes (ps.take i)+bG m.nodes p*q:Nat):Int)+((bG m.nodes p:Nat):Int))=((cE m.nodes (ps.take i)+bG m.nodes p*(q+1):Nat):Int):=by
   rw [bQ (by omega) (by omega),Nat.mul_add,Nat.mul_one];omega
  rw [this]
  exact hJ s' h10 l10 e37 e43 g1 (hbk _ _ g5)
 constructor
 ·repeat' (refine aC ?_)
  rw [if_neg (by omega)]
  repeat' (refine aC ?_)
  rw [if_neg (by omega),if_neg (by omega)]
  refine ai fun b75 h8 hb75 l8 f75=>?_
  (((with_reducible apply ly);(assumption);(assumption)))
  exact app _ h8 b75 l8 f75 fun s' h9 g1 g2 g3 g4 g5=>fin s' h9 g1 g2 g3 g4 g5
 ·repeat' (refine aC ?_)
  rw [if_neg (by omega)]
  repeat' (refine aC ?_)
  rw [if_neg (by omega),if_neg (by omega)]
  refine ai fun b75 h8 hb75 l8 f75=>?_
  (((with_reducible apply ly);(assumption);(assumption)))
  exact app _ h8 b75 l8 f75 fun s' h9 g1 g2 g3 g4 g5=>fin s' h9 g1 g2 g3 g4 g5
structure DF (m:ah) (v:List (List Nat)):Prop where
 len:v.length=m.nodes.length
 fit:yX m.nodes m.nodes.length v
theorem dk {m:ah} (g:cC m) (s i:Nat):DF m (bR m s i):=⟨Mg _ _ _,Ab g s i⟩
theorem bT {m:ah} (g:cC m) (kind:Int): ∀p∈ay m.nodes kind,p<m.nodes.length:=fun p hp=>lA hp
theorem dE (l:List NodeP) (kind:Int):(ay l kind).length<=l.length:=by
 unfold ay
 refine Nat.le_trans (List.length_filter_le _ _) ?_
 rw [List.length_range];omega
theorem Kp (l:List NodeP) (a b:List Nat):ct l (a++b)=ct l a++ct l b:=by simp [ct]
structure ZS (l:List NodeP) (g:Hp) (ps:List Nat) (ts:List Sl):Prop where
 len:ts.length=ps.length
 val: ∀(j:Nat) (t:Sl),ts[j]?=some t->IntS g t (VL ((ct l ps).getD j []))
theorem ZS.mono {l:List NodeP} {g g':Hp} {ps:List Nat} {ts:List Sl} (le:g.le g') (e:ZS l g ps ts):ZS l g' ps ts:=⟨e.len,fun j t h=>(e.val j t h).mono le⟩
theorem ZS.snoc {l:List NodeP} {g:Hp} {ps:List Nat} {ts:List Sl} {p:Nat} {t:Sl} (e:ZS l g ps ts) (h:IntS g t (VL (List.replicate (aE l p) 0))):ZS l g (ps++ [p]) (ts++ [t]):=by
 refine⟨by simp [e.len],fun j u hu=>?_⟩
 rw [Kp]
 by_cases hj:j<ts.length
 ·rw [List.getElem?_append_left hj]at hu
  rw [iG (by rw [eL,<-e.len];exact hj)]
  exact e.val j u hu
 ·have hju:=get_lt hu
  simp at hju
  have hje:j=ts.length:=by omega
  subst hje
  rw [List.getElem?_append_right (Nat.le_refl _),Nat.sub_self]at hu
  simp at hu;subst hu
  rw [List.getD_eq_getElem?_getD,List.getElem?_append_right (by rw [eL,e.len];exact Nat.le_refl _),eL,e.len,Nat.sub_self]
  exact h
theorem ZS.ints {l:List NodeP} {g h:Hp} {ps:List Nat} {ts:List Sl} {s:Sl} (e:ZS l g ps ts) (le:g.le h) (hb:Buf h s 1 (ts.map Sl.v)) (hn:s.n<=1048576):IntSS h s ((ct l ps).map VL):=by
 refine⟨ts,by rw [List.length_map,eL];exact e.len,hb.slc_of (by omega),fun i h1 h2=>?_⟩
 have:=(e.val i _ (List.getElem?_eq_getElem h1)).mono le
 have hi:i<(ct l ps).length:=by rw [List.length_map]at h2;exact h2
 rw [List.getElem_map]
 rwa [List.getD_eq_getElem?_getD,List.getElem?_eq_getElem hi]at this
theorem Buf.wr {h:Hp} {out x:Sl} {ts:List Sl} {q:Nat} {P:Hp->Prop} (e:Buf h out 1 (ts.map Sl.v)) (hq:q<ts.length)
  (k: ∀h',Buf h' out 1 ((ts.set q x).map Sl.v)->h'.offS out=h.offS out->P h'):
  ∃b o:Nat,out.a=some (Addr.mk b o none)/\(0:Int)<=(q:Int)/\(q:Int)<((out.n:Nat):Int)/\
   ∃(cs:List Value) (z:Nat),h b=some (.inl ⟨cs,z,false⟩)/\(o+Int.toNat (q:Int)*1)+1<=List.length cs/\cG (h.row b (cl cs (o+Int.toNat (q:Int)*1) [x.v]) z) P:=by
 have hl:=e.1
 rw [List.length_map]at hl
 rcases e.2.2 with ⟨_,h0,_⟩|⟨b,ha,hb⟩
 ·omega
 ·refine⟨b,0,ha,by omega,by omega,_,_,hb,by rw [List.length_map,Int.toNat_natCast];omega,?_⟩
  rw [SL]
  refine k _ ⟨by rw [List.length_map,List.length_set];omega,e.2.1, .inr ⟨b,ha,?_⟩⟩ ?_
  ·rw [bJ,bD,Int.toNat_natCast,Nat.zero_add,Nat.mul_one,List.map_set]
  ·unfold Hp.offS;rw [ha];exact wQ _ _ _ _
theorem fK {m:ah} (g:cC m) (kind:Int):(ay m.nodes kind).length<=1048576:=by have:=dE m.nodes kind;have:=g.nl;omega
theorem k7 {m:ah} (kind:Int) (code:Nat) (g:cC m):A5 m.nodes kind (dQ m.nodes (ay m.nodes kind) code):=I0 g.ok kind code
structure Kn (g h:Hp) (L:List (Nat×Blk)):Prop where
 le:g.le h
 mem: ∀e∈L,h e.1=some e.2
 new: ∀e∈L,g e.1=none
 nd:(L.map Prod.fst).Nodup
inductive Upd :List (Nat×Blk)->Nat->Blk->Blk->List (Nat×Blk)->Prop
 |head {L:List (Nat×Blk)} {b:Nat} {x y:Blk}:Upd ((b,x)::L) b x y ((b,y)::L)
 |tail {L L':List (Nat×Blk)} {b:Nat} {x y:Blk} {e:Nat×Blk}:Upd L b x y L'->Upd (e::L) b x y (e::L')
theorem Kn.nil (h:Hp):Kn h h []:=⟨Hp.le_refl _,fun e h=>(by simp at h),fun e h=>(by simp at h),List.nodup_nil⟩
theorem Kn.of {g h:Hp} (l:g.le h):Kn g h []:=⟨l,fun e h=>(by simp at h),fun e h=>(by simp at h),List.nodup_nil⟩
section
variable {g h h':Hp} {L L':List (Nat×Blk)}
theorem Kn.at (K:Kn g h L) {b:Nat} {x:Blk} (e:(b,x)∈L):h b=some x:=K.mem _ e
theorem Kn.mono (K:Kn g h L) (l:h.le h'):Kn g h' L:=⟨Hp.le_trans K.le l,fun e he=>l _ _ (K.mem e he),K.new,K.nd⟩
theorem Kn.cons (K:Kn g h L) {b:Nat} {x:Blk} (hb:h b=none) (l:h.le h') (f:h' b=some x):Kn g h' ((b,x)::L):=by
 refine⟨Hp.le_trans K.le l,fun e he=>?_,fun e he=>?_,?_⟩
 ·rcases List.mem_cons.1 he with rfl|he
  ·exact f
  ·exact l _ _ (K.mem e he)
 ·rcases List.mem_cons.1 he with rfl|he
  ·exact aF K.le hb
  ·exact K.new e he
 ·rw [List.map_cons,List.nodup_cons]
  refine⟨fun hm=>?_,K.nd⟩
  obtain⟨e,he,heb⟩:=List.mem_map.1 hm
  have:=K.mem e he
  rw [show e.1=b from heb,hb]at this;cases this
theorem Kn.al (K:Kn g h L) {cs:Nat->List Value} {n:Nat->Nat} {P:Nat->Hp->Prop} (k: ∀b h',Kn g h' ((b, .inl ⟨cs b,n b,false⟩)::L)->h.le h'->h b=none->P b h'):
  ∀b,h b=none->cG (h.row b (cs b) (n b)) fun h'=>P b h':=
 fun b hb=>k b _ (K.cons hb (fE _ _ hb) (bJ _ _ _ _)) (fE _ _ hb) hb
theorem Upd.mem {b:Nat} {x y:Blk} (u:Upd L b x y L'):(b,x)∈L:=by
 induction u with
 |head=>exact .head _
 |tail _ ih=>exact .tail _ ih
theorem Upd.keys {b:Nat} {x y:Blk} (u:Upd L b x y L'):L'.map Prod.fst=L.map Prod.fst:=by
 induction u with
 |head=>rfl
 |tail _ ih=>rw [List.map_cons,List.map_cons,ih]
theorem Upd.out {b:Nat} {x y:Blk} (u:Upd L b x y L') (nd:(L.map Prod.fst).Nodup): ∀e∈L',e=(b,y)\/(e∈L/\e.1≠b):=by
 induction u with
 |head=>
  intro e he
  rcases List.mem_cons.1 he with rfl|he
  ·exact .inl rfl
  ·rw [List.map_cons,List.nodup_cons]at nd
   exact .inr ⟨.tail _ he,fun eb=>nd.1 (List.mem_map.2 ⟨e,he,eb⟩)⟩
 |tail u ih=>
  rename_i L L' b x y e0
  rw [List.map_cons,List.nodup_cons]at nd
  intro e he
  rcases List.mem_cons.1 he with rfl|he
  ·exact .inr ⟨.head _,fun eb=>nd.1 (List.mem_map.2 ⟨_,u.mem,eb.symm⟩)⟩
  ·rcases ih nd.2 e he with h|⟨h1,h2⟩
   ·exact .inl h
   ·exact .inr ⟨.tail _ h1,h2⟩
theorem Kn.set (K:Kn g h L) {b z z':Nat} {cs cs':List Value} {ro:Bool} (u:Upd L b (.inl ⟨cs,z,ro⟩) (.inl ⟨cs',z',false⟩) L'):Kn g (h.row b cs' z') L':=by
 have hb:=K.new _ u.mem
 refine⟨dP _ _ hb K.le,fun e he=>?_,fun e he=>?_,by rw [u.keys];exact K.nd⟩
 ·rcases u.out K.nd e he with rfl|⟨h1,h2⟩
  ·exact bJ _ _ _ _
  ·rw [bX _ _ h2];exact K.mem e h1
 ·rcases u.out K.nd e he with rfl|⟨h1,h2⟩
  ·exact hb
  ·exact K.new e h1
theorem Kn.wr (K:Kn g h L) {b z o m:Nat} {cs vs:List Value} {P:Hp->Prop} (u:Upd L b (.inl ⟨cs,z,false⟩) (.inl ⟨cl cs o vs,z,false⟩) L') (hl:m<=cs.length)
  (k: ∀h',Kn g h' L'->(∀c,c≠b->h' c=h c)->P h'):
  ∃(cs':List Value) (z':Nat),h b=some (.inl ⟨cs',z',false⟩)/\m<=List.length cs'/\cG (h.row b (cl cs' o vs) z') fun h'=>P h':=
 ⟨cs,z,K.at u.mem,hl,k _ (K.set u) fun c hc=>bX _ _ hc⟩
theorem Kn.base (K:Kn g h L):Kn (h.wo (L.map Prod.fst)) h L:=⟨sf _ _,K.mem,fun e he=>eZ (List.mem_map.2 ⟨e,he,rfl⟩),K.nd⟩
theorem Kn.leBase (K:Kn g h L):g.le (h.wo (L.map Prod.fst)):=tC K.le fun b hb=>by
 obtain⟨e,he,rfl⟩:=List.mem_map.1 hb
 exact K.new e he
theorem Kn.has (K:Kn g h L): ∀b∈L.map Prod.fst,h b≠none:=fun b hb=>by
 obtain⟨e,he,rfl⟩:=List.mem_map.1 hb
 rw [K.mem e he];simp
theorem Kn.eq {g':Hp} (K':Kn g' h' L') (K:Kn g h L) {b:Nat} {x:Blk} {P:Prop} (e':(b,x)∈L') (e:(b,x)∈L) (k:P):h' b=h b/\P:=⟨by rw [K'.at e',K.at e],k⟩
theorem Kn.eqg (K':Kn g h' L') (K:Kn g h L) {b:Nat} {P:Prop} (e:g b≠none) (k:P):h' b=h b/\P:=by
 refine⟨?_,k⟩
 cases hb:g b with
 |none=>exact absurd hb e
 |some x=>rw [K'.le _ _ hb,K.le _ _ hb]
theorem Kn.sub (K:Kn g h L) (m: ∀e∈L',e∈L) (nd:(L'.map Prod.fst).Nodup):Kn g h L':=⟨K.le,fun e he=>K.mem e (m e he),fun e he=>K.new e (m e he),nd⟩
end
theorem fW {b o:Nat} {P:Nat->Nat->Prop} (k:P b o): ∃b' o':Nat,some (Addr.mk b o none)=some (Addr.mk b' o' none)/\P b' o':=⟨b,o,rfl,k⟩
theorem Kn.rd {α:Type} {f:α->Value} {g h:Hp} {L:List (Nat×Blk)} (K:Kn g h L) {b z o:Nat} {cs:List Value} {ro:Bool} {x:α} {P:α->Prop} (e:(b, .inl ⟨cs,z,ro⟩)∈L) (c:cs[o]?=some (f x)) (k:P x): ∃y:α,Hp.cell h b o=some (f y)/\P y:=⟨x,by rw [av (K.at e)];exact c,k⟩
theorem Kn.rg {α:Type} {f:α->Value} {g h:Hp} {L:List (Nat×Blk)} (K:Kn g h L) {b z o:Nat} {cs:List Value} {ro:Bool} {x:α} {P:α->Prop} (e:g b=some (.inl ⟨cs,z,ro⟩)) (c:cs[o]?=some (f x)) (k:P x): ∃y:α,Hp.cell h b o=some (f y)/\P y:=⟨x,by rw [av (K.le _ _ e)];exact c,k⟩
theorem kr_ {P Q:Prop} (k:Q) (h:Q->P:=by(first
 |((with_reducible apply Kn.rd);(assumption);((focus ((repeat first|exact .head _|apply List.Mem.tail);done)));(exact rfl))
 |((with_reducible apply Kn.rg);(assumption);(assumption);(exact rfl))
 |with_reducible exact And.intro (Eq.refl _)
 |with_reducible exact And.intro True.intro
 |with_reducible exact fW
 |((with_reducible apply Kn.eq);(assumption);(assumption);((focus ((repeat first|exact .head _|apply List.Mem.tail);done)));((focus ((repeat first|exact .head _|apply List.Mem.tail);done))))
 |((with_reducible apply Kn.eqg);(assumption);(assumption);(assumption))
 |fail)):P:=h k
theorem kw_ {P Q:Prop} (k:Q) (h:Q->P:=by((with_reducible apply Kn.wr);(assumption);(((focus ((repeat first|exact .head|apply Upd.tail);done))));(exact of_decide_eq_true rfl))):P:=h k
def gU (k:Nat):List Nat:=(List.range (k+1)).filter fun c=>decide (c&&&k=c)
theorem Buf.wo {h h':Hp} {t:Sl} {sz:Nat} {cs:List Value} {B:List Nat} (e:Buf h' t sz cs) (l:h.le (h'.offS t)) (hB: ∀b∈B,h b≠none):Buf (h'.wo B) t sz cs:=by
 refine⟨e.1,e.2.1,e.2.2.imp id ?_⟩
 rintro ⟨b,ha,hb⟩
 refine⟨b,ha,?_⟩
 rw [tU]
 ·exact hb
 ·intro hm
  have:=hB b hm
  cases hx:h b with
  |none=>exact this hx
  |some x=>
   have:=l _ _ hx
   simp [Hp.offS,ha,Hp.off,Hp.set]at this
theorem To {m:ah} (g:cC m):2^(am m.nodes 36+am m.nodes 35)<=8192:=by
 have h1:=g.n8
 have h2:=g.k5
 have:=Nat.pow_le_pow_right (n:=2) (by omega) (show am m.nodes 36+am m.nodes 35<=13 by omega)
 simpa using this
theorem afT {m:ah} (g:cC m):2^am m.nodes 36<=256:=by
 have h1:=g.n8
 have:=Nat.pow_le_pow_right (n:=2) (by omega) h1
 simpa using this
theorem LG {h:Hp} {M:MSl} {m:ah} {fid:FuncId} {u w:Array Value} {B:List Nat} {st:Nat->Hp->Prop} {R:Value->Hp->Prop} (hs:aM (h.wo B) M m) (hm:bP m) (g:cC m)
  (hB: ∀b∈B,h b≠none) (mono: ∀c h1 h2,st c h1->h1.le h2->st c h2) (h0:st 0 h)
  (step: ∀c,c<2^(am m.nodes 36+am m.nodes 35)-> ∀h1 t,(h.wo B).le h1->st c h1->gD h1 t (bR m (c%2^am m.nodes 36) (c/2^am m.nodes 36))-> ∀R':Value->Hp->Prop,
   (∀h2,st (c+1) h2->(h1.wo B).le h2->R' (.tuple #[]) h2)->ACalls PR fid ((u++ #[I c,Sl.v t])++w) h1 R')
  (k: ∀h',(h.wo B).le h'->st (2^(am m.nodes 36+am m.nodes 35)) h'->R (.tuple #[]) h'):lq #[aQ M, .func (.func fid) u w] h R:=by
 apply CY
 refine uf_ ?_
 have hn8:=g.n8
 have hk5:=g.k5
 have hp13:=To g
 have hs0:aM h M m:=hs.mono (sf _ _)
 refine ai fun b10 h1 hb10 l1 f10=>?_
 have x10:=bV f10
 repeat' (refine aC ?_)
 refine fI (hs0.mono l1) hm ⟨_,rfl,rfl,fI (hs0.mono l1) hm ⟨_,rfl,?_⟩⟩
 repeat' (refine aC ?_)
 refine kI (hs0.mono l1) hm fun p1 h2 l2 n1 b1=>⟨p1,rfl,?_⟩
 have l2':=Hp.le_trans l2 (aU _ _)
 (((with_reducible apply ly);(assumption);(assumption)))
 refine kI ((hs0.mono l1).mono l2') hm fun p2 h3 l3 n2 b2=>⟨p2,rfl,?_⟩
 have l3':=Hp.le_trans l3 (aU _ _)
 have l13:=Hp.le_trans l2' l3'
 have l03:=Hp.le_trans l1 l13
 rw [bQ (n:=((am m.nodes 36:Nat):Int)+((am m.nodes 35:Nat):Int)) (by omega) (by omega),if_neg (by omega),<-Int.natCast_add,cg (by omega)]
 have hB1: ∀b∈B,h1 b≠none:=fun b hb=>by
  cases hx:h b with
  |none=>exact absurd hx (hB b hb)
  |some x=>rw [l1 _ _ hx];simp
 have hB2: ∀b∈B,h2 b≠none:=fun b hb=>by
  cases hx:h1 b with
  |none=>exact absurd hx (hB1 b hb)
  |some x=>rw [l2' _ _ hx];simp
 have b1w:Buf (h3.wo B) p1 1 ((VL (ay m.nodes 36)).map I):=(b1.wo l2 hB1).mono (tC (Hp.le_trans (sf _ _) l3') fun b hb=>eZ hb)
 have b2w:Buf (h3.wo B) p2 1 ((VL (ay m.nodes 35)).map I):=b2.wo l3 hB2
 have hnl:=g.nl
 have i1:IntS (h3.wo B) p1 (VL (ay m.nodes 36)):=b1w.slc_of (by omega)
 have i2:IntS (h3.wo B) p2 (VL (ay m.nodes 35)):=b2w.slc_of (by omega)
 have hs3:aM (h3.wo B) M m:=hs.mono (tC (Hp.le_trans (sf _ _) l03) fun b hb=>eZ hb)
 have f10w:(h3.wo B) b10=some (.inl ⟨aG M,5,false⟩):=by
  rw [tU (fun hb=>hB _ hb hb10)];exact l13 _ _ f10
 have hw:(h.wo B).le (h3.wo B):=tC (Hp.le_trans (sf _ _) l03) fun b hb=>eZ hb
 refine ar (2^(am m.nodes 36+am m.nodes 35)) (fun c vs h'=>vs= [.func (.func fid) u w, .pointer (some ⟨b10,0,none⟩),I (am m.nodes 36),p1.v,p2.v,I (2^(am m.nodes 36+am m.nodes 35):Nat),I c]/\(h3.wo B).le h'/\st c h')
  ⟨rfl,sf _ _,mono _ _ _ h0 l03⟩ ?_
 clear f10 x10 b1 b2 l1 l2 l2' l3 l13 l3' hs hs0 h0
 rintro c _ h4 next hc ⟨rfl,l4,hst⟩ hnx
 refine⟨_,_,_,_,_,_,p1,p2,_,_,rfl,?_⟩
 by_cases hlt:c<2^(am m.nodes 36+am m.nodes 35)
 rotate_left
 ·have hce:c=2^(am m.nodes 36+am m.nodes 35):=by omega
  subst hce
  exact aA (by simp) (k h4 (Hp.le_trans hw l4) hst)
 refine aL (by rw [decide_eq_true_eq];exact_mod_cast hlt) ?_
 rw [if_neg (by omega)]
 have f104:=l4 _ _ f10w
 have x104:=bV f104
 repeat' (refine aC ?_)
 refine dz (by omega) ⟨_,rfl,?_⟩
 repeat' (refine aC ?_)
 rw [gP (by omega),oK,jn (by omega)]
 have h1':c%2^am m.nodes 36<=c:=Nat.mod_le _ _
 have h2':c/2^am m.nodes 36<=c:=Nat.div_le_self _ _
 refine Ad (hs3.mono l4) hm g.ok (i1.mono l4) (bT g 36) (fK g 36) (by omega) fun o1 h5 l5 v1 c1=>⟨o1,rfl,?_⟩
 repeat' (((with_reducible apply ly);(assumption);(assumption)))
 have l45:=Hp.le_trans l4 l5
 refine Ad (hs3.mono l45) hm g.ok (i2.mono l45) (bT g 35) (fK g 35) (by omega) fun o2 h6 l6 v2 c2=>⟨o2,rfl,?_⟩
 have l56:=Hp.le_trans l5 l6
 (((with_reducible apply ly);(assumption);(assumption)))
 have l46:=Hp.le_trans l4 l56
 refine zV (hs3.mono l46) hm g.ok g.nl (v1.mono l6) c1 (k7 36 _ g) v2 c2 (k7 35 _ g) fun t h7 l7 hn hpv=>⟨t,rfl,?_⟩
 have l47:=Hp.le_trans l56 l7
 refine step c hlt h7 t (Hp.le_trans hw (Hp.le_trans l4 l47)) (mono _ _ _ hst l47) hpv _ fun h8 hst8 l8=>⟨rfl,?_⟩
 rw [aw (by omega)]
 exact hnx hlt _ _ ⟨rfl,Hp.le_trans (tC (Hp.le_trans l4 l47) fun b hb=>eZ hb) l8,hst8⟩
theorem gD.keep {h h':Hp} {s:Sl} {vs:List (List Nat)} {b z:Nat} {cs:List Value} {ro:Bool} (e:gD h s vs) (f:h b=some (.inl ⟨cs,z,ro⟩)) (hn:ww cs) (hsl: ∀(j:Nat) (t:Sl),cs[j]?≠some t.v) (kp: ∀c,c≠b->h' c=h c):gD h' s vs:=by
 refine⟨e.1,e.2.1,fun p hp=>?_⟩
 obtain⟨b',o,t,h1,h2,h3⟩:=e.2.2 p hp
 refine⟨b',o,t,h1,?_,h3.keepN f hn kp⟩
 have hne:b'≠b:=by
  rintro rfl
  rw [av f]at h2
  exact hsl _ _ h2
 unfold Hp.cell at h2⊢
 rw [kp b' hne];exact h2
abbrev P1 (M:MSl) (n k:Int) (st hold bad:Sl) (fixed:Int) (next:Sl) (bf ba:Int):List Value:= [M.no.v,M.ini.v,M.nex.v,M.bad.v,M.hol.v,I n,I k,st.v,hold.v,bad.v,I fixed,next.v,I bf,I ba]
abbrev arr (b n:Nat):Sl:=⟨some ⟨b,0,none⟩,n,n⟩
def Iq (h:Hp) (t:Sl) (n:Nat) (f:Nat->Nat):Prop:=IntS h t (VL ((List.range n).map f))
theorem Iq.mono {h h':Hp} {t:Sl} {n:Nat} {f:Nat->Nat} (l:h.le h') (e:Iq h t n f):Iq h' t n f:=SlC.mono l e
def D3 (h:Hp) (b:Nat) (σ:aJ):Prop:= ∃(M:MSl) (st hold bad next:Sl),h b=some (.inl ⟨P1 M σ.n σ.k st hold bad σ.fixed next σ.bfix σ.bas,14,false⟩)/\
 eF h hold (2^(σ.n+σ.k)) σ.hold/\eF h bad (2^(σ.n+σ.k)) σ.bad/\Iq h next (2^(σ.n+σ.k)) σ.next
theorem D3.mono {h h':Hp} {b:Nat} {σ:aJ} (l:h.le h') (e:D3 h b σ):D3 h' b σ:=by
 obtain⟨M,st,hold,bad,next,h1,h2,h3,h4⟩:=e
 exact⟨M,st,hold,bad,next,l _ _ h1,h2.mono l,h3.mono l,h4.mono l⟩
theorem eF.get {h:Hp} {t:Sl} {n:Nat} {T:Nat->Bool} (e:eF h t n T) {i:Nat} (hi:i<n): ∃b o,t.a=some (Addr.mk b o none)/\(i:Int)<(t.n:Int)/\Hp.cell h b (o+Int.toNat (i:Int)*1)=some (.bool (T i)):=by
 have hl:=rv.len e
 rw [List.length_map,List.length_range]at hl
 obtain⟨b,o,ha,hc⟩:=SlC.get e (by omega)
 refine⟨b,o,ha,by omega,?_⟩
 rw [Int.toNat_natCast,Nat.mul_one]
 exact hc i _ (by simp [hi])
theorem eF.len {h:Hp} {t:Sl} {n:Nat} {T:Nat->Bool} (e:eF h t n T):t.n=n:=by
 have hl:=rv.len e
 rwa [List.length_map,List.length_range]at hl
theorem Iq.get {h:Hp} {t:Sl} {n:Nat} {f:Nat->Nat} (e:Iq h t n f) {i:Nat} (hi:i<n): ∃b o,t.a=some (Addr.mk b o none)/\(i:Int)<(t.n:Int)/\Hp.cell h b (o+Int.toNat (i:Int)*1)=some (I (f i:Nat)):=by
 have hl:=IntS.len e
 rw [aY,List.length_map,List.length_range]at hl
 obtain⟨b,o,ha,hc⟩:=SlC.get e (by omega)
 refine⟨b,o,ha,by omega,?_⟩
 rw [Int.toNat_natCast,Nat.mul_one]
 exact hc i _ (by simp [VL,hi])
def afU (B:Bd) (s:Sl):Value:= .tuple #[.agg #[I B.v,s.v,I B.r], .bool B.ok]
theorem Km {h:Hp} {t:Sl} {n:Nat} {f:Nat->Bool} {R:Value->Hp->Prop} (hn:n<=13) (ht:Bl h t n f)
  (k: ∀s h',h.le h'->Own (h'.sub h) s 3 (cP (dY n f).ns)->R (afU (dY n f) s) h'):jo #[t.v] h R:=by
 have e:dY (n:Int) f=match pZ n f with|none=>jx|some r=>⟨n,r.2,r.1,true⟩:=by
  unfold dY;rw [if_pos (by omega),Int.toNat_natCast];cases pZ n f<;>rfl
 refine NJ hn ht (fun h0=>?_) (fun r hr s h' l o=>?_)
 ·have:=k ⟨none,0,0⟩ h (Hp.le_refl _)
  rw [e,h0]at this
  exact this (TI _ _)
 ·have:=k s h' l
  rw [e,hr]at this
  exact this o
theorem IntS.up {h h':Hp} {s:Sl} {xs:List Int} (e:IntS h s xs) (l:h.le h'):IntS h' s xs:=e.mono l
theorem IntSS.up {h h':Hp} {s:Sl} {xs:List (List Int)} (e:IntSS h s xs) (l:h.le h'):IntSS h' s xs:=e.mono l
theorem aM.up {h h':Hp} {M:MSl} {m:ah} (e:aM h M m) (l:h.le h'):aM h' M m:=e.mono l
theorem kpU {h0 h h':Hp} {b:Nat} {x:Blk} {P:Prop} (f:h0 b=some x) (l1:h0.le h') (l2:h0.le h) (k:P):h' b=h b/\P:=⟨by rw [l1 _ _ f,l2 _ _ f],k⟩
theorem kpN {h0 h h':Hp} {b:Nat} {P:Prop} (f:h0 b≠none) (l1:h0.le h') (l2:h0.le h) (k:P):h' b=h b/\P:=by
 refine⟨?_,k⟩
 cases hb:h0 b with
 |none=>exact absurd hb f
 |some x=>rw [l1 _ _ hb,l2 _ _ hb]
theorem rdU {α:Type} {f:α->Value} {h0 h:Hp} {b z o:Nat} {cs:List Value} {ro:Bool} {x:α} {P:α->Prop} (e:h0 b=some (.inl ⟨cs,z,ro⟩)) (l:h0.le h) (c:cs[o]?=some (f x)) (k:P x): ∃y:α,Hp.cell h b o=some (f y)/\P y:=⟨x,by rw [av (l _ _ e)];exact c,k⟩
theorem ku_ {P Q:Prop} (k:Q) (h:Q->P:=by(first
 |((with_reducible apply rdU);(assumption);((focus ((repeat (first|exact Hp.le_refl _|assumption|(refine Hp.le_trans ?_ (by assumption))));done)));(exact rfl))
 |with_reducible exact And.intro (Eq.refl _)
 |with_reducible exact And.intro True.intro
 |with_reducible exact fW
 |((with_reducible apply kpU);(assumption);((focus ((repeat (first|exact Hp.le_refl _|assumption|(refine Hp.le_trans ?_ (by assumption))));done)));((focus ((repeat (first|exact Hp.le_refl _|assumption|(refine Hp.le_trans ?_ (by assumption))));done))))
 |((with_reducible apply kpN);(assumption);((focus ((repeat (first|exact Hp.le_refl _|assumption|(refine Hp.le_trans ?_ (by assumption))));done)));((focus ((repeat (first|exact Hp.le_refl _|assumption|(refine Hp.le_trans ?_ (by assumption))));done))))
 |fail)):P:=h k
set_option maxHeartbeats 2000000 in
theorem AR {h:Hp} {M:MSl} {m:ah} {c:Nat} {R:Value->Hp->Prop} (hs:aM h M m) (hm:bP m) (g:cC m) (hc:c<2^(am m.nodes 36+am m.nodes 35))
  (k: ∀t h',h.le h'->t.n=m.nodes.length->gD h' t (bR m (c%2^am m.nodes 36) (c/2^am m.nodes 36))->acL h t->R (Sl.v t) h'):np #[aQ M,I c] h R:=by
 apply FJ
 refine uf_ ?_
 have hn8:=g.n8
 have hk5:=g.k5
 have hp13:=To g
 have hp8:=afT g
 have h1':c%2^am m.nodes 36<=c:=Nat.mod_le _ _
 have h2':c/2^am m.nodes 36<=c:=Nat.div_le_self _ _
 have hpp:=bL (am m.nodes 36)
 have hs36:cE m.nodes (ay m.nodes 36)<=60:=by have:=ed g;show cE m.nodes (stP m)<=60;omega
 have hs35:cE m.nodes (ay m.nodes 35)<=60:=by have:=uB g;show cE m.nodes (inP m)<=60;omega
 have hshr:mG (c:Int) ((am m.nodes 36:Nat):Int)=((c/2^am m.nodes 36:Nat):Int):=jn (by omega)
 have hmod:Int.tmod (c:Int) (((2^am m.nodes 36:Nat)):Int)=((c%2^am m.nodes 36:Nat):Int):=ee _ _
 have hwu:IntKind.wrap .u64 ((am m.nodes 36:Nat):Int)=(am m.nodes 36:Nat):=cQ (by omega)
 have hsh1:ax 1 ((am m.nodes 36:Nat):Int)=((2^am m.nodes 36:Nat):Int):=cg (by omega)
 refine ai fun b8 h1 hb8 l1 f8=>?_
 clear hb8
 repeat' (refine ku_ ?_)
 refine g9 (hs.mono l1) hm ⟨_,rfl,?_⟩
 simp only [hwu,hsh1,hshr,hmod]
 repeat' (first
  |(refine ku_ ?_)
  |(rw [if_neg (by omega)])
  |(refine cA (hs.up (by((focus ((repeat (first|exact Hp.le_refl _|assumption|(refine Hp.le_trans ?_ (by assumption))));done))))) hm fun _ _ _ _=>⟨_,rfl,?_⟩)
  |(refine eW (hs.up (by((focus ((repeat (first|exact Hp.le_refl _|assumption|(refine Hp.le_trans ?_ (by assumption))));done))))) hm g.ok (IntS.up (by assumption) (by((focus ((repeat (first|exact Hp.le_refl _|assumption|(refine Hp.le_trans ?_ (by assumption))));done))))) (bT g 36) (fK g 36) (by omega) hs36 fun _ _ _ _=>⟨_,rfl,?_⟩)
  |(refine eW (hs.up (by((focus ((repeat (first|exact Hp.le_refl _|assumption|(refine Hp.le_trans ?_ (by assumption))));done))))) hm g.ok (IntS.up (by assumption) (by((focus ((repeat (first|exact Hp.le_refl _|assumption|(refine Hp.le_trans ?_ (by assumption))));done))))) (bT g 35) (fK g 35) (by omega) hs35 fun _ _ _ _=>⟨_,rfl,?_⟩)
  |(refine nU (hs.up (by((focus ((repeat (first|exact Hp.le_refl _|assumption|(refine Hp.le_trans ?_ (by assumption))));done))))) hm g.ok g.nl (IntSS.up (by assumption) (by((focus ((repeat (first|exact Hp.le_refl _|assumption|(refine Hp.le_trans ?_ (by assumption))));done))))) (k7 36 (c%2^am m.nodes 36) g) (IntSS.up (by assumption) (by((focus ((repeat (first|exact Hp.le_refl _|assumption|(refine Hp.le_trans ?_ (by assumption))));done))))) (k7 35 (c/2^am m.nodes 36) g) fun t h' l hn hpv hw=>⟨_,rfl,k t h' (by((focus ((repeat (first|exact Hp.le_refl _|assumption|(refine Hp.le_trans ?_ (by assumption))));done)))) hn hpv fun b o hb=>aF (by((focus ((repeat (first|exact Hp.le_refl _|assumption|(refine Hp.le_trans ?_ (by assumption))));done)))) (hw b o hb)⟩)
  |(refine And.intro ?_ ?_))
section
variable {g h h':Hp} {L L' A B X:List (Nat×Blk)}
theorem Kn.app (K:Kn g h L) (l:h.le h') (n: ∀e∈X,h e.1=none) (f: ∀e∈X,h' e.1=some e.2) (nd:(X.map Prod.fst).Nodup):Kn g h' (L++X):=by
 refine⟨Hp.le_trans K.le l,fun e he=>?_,fun e he=>?_,?_⟩
 ·rcases List.mem_append.1 he with he|he
  ·exact l _ _ (K.mem e he)
  ·exact f e he
 ·rcases List.mem_append.1 he with he|he
  ·exact K.new e he
  ·exact aF K.le (n e he)
 ·rw [List.map_append,List.nodup_append]
  refine⟨K.nd,nd,fun a ha b hb hab=>?_⟩
  obtain⟨e,he,rfl⟩:=List.mem_map.1 ha
  obtain⟨e',he',rfl⟩:=List.mem_map.1 hb
  have h1:=K.mem e he
  have h2:=n e' he'
  rw [hab,h2]at h1;cases h1
theorem Kn.split (K:Kn g h (A++B)):Kn (h.wo (B.map Prod.fst)) h B/\Kn g (h.wo (B.map Prod.fst)) A:=by
 have nd:=K.nd
 rw [List.map_append,List.nodup_append]at nd
 refine⟨⟨sf _ _,fun e he=>K.mem e (List.mem_append_right _ he),fun e he=>eZ (List.mem_map.2 ⟨e,he,rfl⟩),nd.2.1⟩,?_,fun e he=>?_,fun e he=>K.new e (List.mem_append_left _ he),nd.1⟩
 ·exact tC K.le fun b hb=>by
   obtain⟨e,he,rfl⟩:=List.mem_map.1 hb
   exact K.new e (List.mem_append_right _ he)
 ·rw [tU]
  ·exact K.mem e (List.mem_append_left _ he)
  ·intro hb
   exact nd.2.2 _ (List.mem_map.2 ⟨e,he,rfl⟩) _ hb rfl
theorem Kn.off (K:Kn g h L) {b:Nat} {x y:Blk} (u:Upd L b x y L') (l:(h.off b).le h') (f:h' b=some y):Kn g h' L':=by
 refine⟨?_,fun e he=>?_,fun e he=>?_,by rw [u.keys];exact K.nd⟩
 ·exact Hp.le_trans (xH (K.new (b,x) u.mem) K.le) l
 ·rcases u.out K.nd e he with rfl|⟨h1,h2⟩
  ·exact f
  ·refine l _ _ ?_
   simp only [Hp.off,Hp.set];rw [if_neg h2];exact K.mem e h1
 ·rcases u.out K.nd e he with rfl|⟨h1,h2⟩
  ·exact K.new (b,x) u.mem
  ·exact K.new e h1
def k8 (X:List (Nat×Blk)) (s:Sl) (sz:Nat) (cs:List Value):Prop:=
 cs.length=s.n*sz/\s.n<=9223372036854775807/\((s.n=0/\X= [])\/(s.n≠0/\ ∃b z,s.a=some ⟨b,0,none⟩/\X= [(b, .inl ⟨cs,z,false⟩)]))
theorem Kn.addOwn {s:Sl} {sz:Nat} {cs:List Value} (K:Kn g h L) (l:h.le h') (o:Own (h'.sub h) s sz cs): ∃X,k8 X s sz cs/\Kn g h' (L++X):=by
 by_cases h0:s.n=0
 ·exact⟨[],⟨o.1,o.2.1, .inl ⟨h0,rfl⟩⟩,by rw [List.append_nil];exact K.mono l⟩
 ·obtain⟨b,z,ha,hb⟩:=o.2.2.resolve_left h0
  have hn:h b=none:=mV (by rw [hb];simp)
  refine⟨_,⟨o.1,o.2.1, .inr ⟨h0,b,z,ha,rfl⟩⟩,K.app l (fun e he=>?_) (fun e he=>?_) (by simp)⟩
  ·rw [List.mem_singleton.1 he];exact hn
  ·rw [List.mem_singleton.1 he];exact sub_le _ _ _ _ hb
theorem k8.own {s:Sl} {sz:Nat} {cs:List Value} (o:k8 X s sz cs) (K:Kn g h (L++X)):Own h s sz cs:=by
 refine⟨o.1,o.2.1,?_⟩
 rcases o.2.2 with ⟨h0,_⟩|⟨_,b,z,ha,rfl⟩
 ·exact .inl h0
 ·exact .inr ⟨b,z,ha,K.at (by simp)⟩
theorem k8.mark {s:Sl} {sz:Nat} {cs cs':List Value} (o:k8 X s sz cs) (K:Kn g h (L++X)) (l:(h.wo s.used).le h') (o':Own h' s sz cs'): ∃X',k8 X' s sz cs'/\Kn g h' (L++X'):=by
 rcases o.2.2 with ⟨h0,rfl⟩|⟨h0,b,z,ha,rfl⟩
 ·refine⟨[],⟨o'.1,o'.2.1, .inl ⟨h0,rfl⟩⟩,K.mono ?_⟩
  have:s.used= []:=by unfold Sl.used;rw [if_pos h0]
  rw [this]at l
  exact Hp.le_trans (tC (Hp.le_refl _) (fun b hb=>by simp at hb)) l
 ·obtain⟨b',z',ha',hb'⟩:=o'.2.2.resolve_left h0
  rw [ha]at ha';cases ha'
  refine⟨_,⟨o'.1,o'.2.1, .inr ⟨h0,b,z',ha,rfl⟩⟩,?_⟩
  have hu:s.used= [b]:=by unfold Sl.used Sl.blk;rw [if_neg h0,ha]
  rw [hu]at l
  have nd:=K.nd
  rw [List.map_append,List.nodup_append]at nd
  have hbn:g b=none:=K.new (b, .inl ⟨cs,z,false⟩) (List.mem_append_right _ (by simp))
  have hne: ∀e∈L,e.1≠b:=fun e he hb=>nd.2.2 _ (List.mem_map.2 ⟨e,he,rfl⟩) b (by simp) hb
  have hwo: ∀c,c≠b->(h.wo [b]) c=h c:=fun c hc=>tU (by simpa using hc)
  refine⟨?_,fun e he=>?_,fun e he=>?_,?_⟩
  ·exact Hp.le_trans (tC K.le fun c hc=>by rw [List.mem_singleton.1 hc];exact hbn) l
  ·rcases List.mem_append.1 he with he|he
   ·exact l _ _ (by rw [hwo _ (hne e he)];exact K.mem e (List.mem_append_left _ he))
   ·rw [List.mem_singleton.1 he];exact hb'
  ·rcases List.mem_append.1 he with he|he
   ·exact K.new e (List.mem_append_left _ he)
   ·rw [List.mem_singleton.1 he];exact hbn
  ·rw [List.map_append,List.nodup_append]
   exact⟨nd.1,by simp,fun a ha c hc=>nd.2.2 a ha c (by simpa using hc)⟩
end
theorem Qs {h:Hp} {n:NodeP} {left:Int} {R:Value->Hp->Prop} (hsz:n.name.size<=9223372036854775807) (h0:0<=left) (h1:left<=1048576)
  (k: ∀r:Int,(r<0\/(0<=r/\r<=left/\n.name.size<=1048576))->R (I r) h):ve #[wv n,I left] h R:=by
 refine ACalls.drop (Kw ?_)
 refine uf_ ?_
 refine ai fun b h2 hb l f=>?_
 (refine aC ?_)
 rw [bQ (by omega) (by omega)]
 refine ad (fun e=>⟨_,l,k _ (.inl (by omega))⟩) (fun e=>⟨_,l,k _ (.inr ?_)⟩)
 have:=of_decide_eq_false e
 omega
theorem NM {h:Hp} {s:Sl} {l:List NodeP} {left:Int} {R:Value->Hp->Prop} (hs:gE h s l) (hsz: ∀n∈l,n.name.size<=9223372036854775807) (h0:0<=left) (h1:left<=1048576)
  (k: ∀r:Int,(r<0\/(0<=r/\r<=left/\l.length<=1048576/\ ∀n∈l,n.name.size<=1048576))->R (I r) h):uh #[s.v,I left] h R:=by
 apply I7
 refine uf_ ?_
 have hn:=hs.len
 have hb:=hs.1
 rw [bQ (by omega) (by omega)]
 refine ad (fun e=>k _ (.inl (by omega))) (fun e=>?_)
 have e':=of_decide_eq_false e
 refine ar l.length (fun i vs h'=> ∃r:Int,vs= [s.v,I r,I i]/\h'=h/\0<=r/\r<=left/\ ∀n∈l.take i,n.name.size<=1048576) ⟨_,rfl,rfl,by omega,by omega,fun n hn=>by simp at hn⟩ ?_
 rintro i _ _ next hi ⟨r,rfl,rfl,r0,r1,hall⟩ hnx
 rename_i h
 refine⟨s,_,_,rfl,?_⟩
 by_cases hlt:i<l.length
 rotate_left
 ·refine aA (by simp;omega) (k r (.inr ⟨r0,r1,by omega,?_⟩))
  rwa [List.take_of_length_le (by omega)]at hall
 refine aL (by simp;omega) ?_
 obtain⟨n,hni⟩: ∃n,l[i]?=some n:=⟨_,List.getElem?_eq_getElem hlt⟩
 obtain⟨b,o,ha,c0,c1,c2,c3,c4,c5,c6,c7,c8⟩:=hs.at hni
 refine⟨b,o,ha,by omega,by omega,_,c0,_,c1,_,c2,_,c3,_,c4,_,c5,_,c6,_,c7,_,c8,?_⟩
 refine Qs (n:=n) (hsz n (List.mem_of_getElem? hni)) r0 (by omega) fun q hq=>⟨_,rfl,ad (fun e=>k _ (.inl (by omega))) (fun e=>?_)⟩
 have:=of_decide_eq_false e
 rcases hq with hq|⟨q0,q1,q2⟩
 ·omega
 rw [aw (by omega)]
 refine hnx hlt _ _ ⟨q,rfl,rfl,q0,by omega,fun n' hn'=>?_⟩
 rw [List.getElem?_eq_getElem hlt]at hni
 rw [List.take_succ_eq_append_getElem hlt,List.mem_append,List.mem_singleton,Option.some.inj hni]at hn'
 rcases hn' with hn'|rfl
 ·exact hall n' hn'
 ·exact q2
theorem Dp {h:Hp} {s:Sl} {l:List BindP} {left:Int} {R:Value->Hp->Prop} (hs:iC h s l) (h0:0<=left) (h1:left<=1048576)
  (k: ∀r:Int,(r<0\/(0<=r/\r<=left/\l.length<=1048576))->R (I r) h):pB #[s.v,I left] h R:=by
 apply Ht
 refine uf_ ?_
 have hn:=hs.len
 have hb:=hs.1
 rw [bQ (by omega) (by omega)]
 refine ad (fun e=>k _ (.inl (by omega))) (fun e=>k _ (.inr ?_))
 have:=of_decide_eq_false e
 omega
theorem Cr {h:Hp} {M:MSl} {m:ah} {R:Value->Hp->Prop} (hs:aM h M m) (hsz: ∀n∈m.nodes,n.name.size<=9223372036854775807)
  (k: ∀r:Int,(r<0\/(0<=r/\r<=1048576/\bP m))->R (I r) h):pO #[aQ M,I 1048576] h R:=by
 refine ACalls.drop (IT ?_)
 refine uf_ ?_
 refine ai fun b8 h1 hb8 l1 f8=>?_
 have neg: ∀{h':Hp},h.le h'-> ∃h'':Hp,h''.le h'/\R (I (-1)) h'':=fun l=>⟨_,l,k _ (.inl (by omega))⟩
 (refine aC ?_)
 refine NM (hs.mono l1).nodes hsz (by omega) (by omega) fun r1 q1=>⟨_,rfl,ad (fun e=>neg l1) (fun e1=>?_)⟩
 have e1:=of_decide_eq_false e1
 obtain⟨a1,a2,a3,a4⟩:=q1.resolve_left e1
 (refine aC ?_)
 refine Dp (hs.mono l1).inits a1 (by omega) fun r2 q2=>⟨_,rfl,ad (fun e=>neg l1) (fun e2=>?_)⟩
 have e2:=of_decide_eq_false e2
 obtain⟨b1,b2,b3⟩:=q2.resolve_left e2
 (refine aC ?_)
 refine Dp (hs.mono l1).nexts b1 (by omega) fun r3 q3=>⟨_,rfl,ad (fun e=>neg l1) (fun e3=>?_)⟩
 have e3:=of_decide_eq_false e3
 obtain⟨c1,c2,c3⟩:=q3.resolve_left e3
 (refine aC ?_)
 refine uC (hs.mono l1).bads c1 (by omega) fun r4 q4=>⟨_,rfl,ad (fun e=>neg l1) (fun e4=>?_)⟩
 have e4:=of_decide_eq_false e4
 have d1:=q4.resolve_left e4
 (refine aC ?_)
 refine uC (hs.mono l1).holds d1.1 (by omega) fun r5 q5=>⟨_,rfl,ad (fun e=>neg l1) (fun e5=>⟨_,l1,k _ (.inr ?_)⟩)⟩
 have e5:=of_decide_eq_false e5
 have f1:=q5.resolve_left e5
 exact⟨f1.1,by omega,⟨a3,b3,c3,by omega,by omega,a4⟩⟩
theorem Pu {h:Hp} {i w:Int} {R:Value->Hp->Prop} (k:R (.agg #[I i,I w]) h):u5 #[.agg #[I i,I w]] h R:=by
 refine ACalls.drop (Lc ?_)
 refine uf_ ?_
 have K0:=Kn.nil h
 (with_reducible apply Kn.al);(assumption);(intro b4 h1 K1 l1 hb4)
 (with_reducible apply Kn.al);(assumption);(intro b6 h2 K2 l2 hb6)
 (with_reducible apply Kn.al);(assumption);(intro b9 h3 K3 l3 hb9)
 repeat' (first|(refine kr_ ?_)|((((with_reducible apply Kn.wr);(assumption);((focus ((repeat first|exact .head|apply Upd.tail);done)))));(exact of_decide_eq_true rfl);(intro _ _ _)))
 exact⟨_,Kn.le (by assumption),k⟩
theorem Oi {h:Hp} {b:BindP} {R:Value->Hp->Prop} (k:R (uJ b) h):uY #[uJ b] h R:=by
 refine ACalls.drop (Li ?_)
 refine uf_ ?_
 have K0:=Kn.nil h
 (with_reducible apply Kn.al);(assumption);(intro b4 h1 K1 l1 hb4)
 (with_reducible apply Kn.al);(assumption);(intro b6 h2 K2 l2 hb6)
 (with_reducible apply Kn.al);(assumption);(intro b9 h3 K3 l3 hb9)
 repeat' (first|(refine kr_ ?_)|((((with_reducible apply Kn.wr);(assumption);((focus ((repeat first|exact .head|apply Upd.tail);done)))));(exact of_decide_eq_true rfl);(intro _ _ _)))
 exact⟨_,Kn.le (by assumption),k⟩
theorem Mm : ∀(vs cs:List Value) (o:Nat),o+vs.length<=cs.length->(cl cs o vs).take (o+vs.length)=cs.take o++vs:=by
 intro vs
 induction vs with
 |nil=>intro cs o _;simp [IG]
 |cons v r ih=>
  intro cs o h
  rw [List.length_cons]at h⊢
  rw [qD,show o+(r.length+1)=(o+1)+r.length by omega,ih _ _ (by rw [List.length_set];omega),m4 v (by omega),List.append_assoc];rfl
theorem Ol {h:Hp} {n:NodeP} {R:Value->Hp->Prop} (k:R (wv n) h):vv #[wv n] h R:=by
 refine ACalls.drop (Lb ?_)
 refine uf_ ?_
 have K0:=Kn.nil h
 (with_reducible apply Kn.al);(assumption);(intro b4 h1 K1 l1 hb4)
 (with_reducible apply Kn.al);(assumption);(intro b6 h2 K2 l2 hb6)
 (with_reducible apply Kn.al);(assumption);(intro b9 h3 K3 l3 hb9)
 repeat' (first|(refine kr_ ?_)|((((with_reducible apply Kn.wr);(assumption);((focus ((repeat first|exact .head|apply Upd.tail);done)))));(exact of_decide_eq_true rfl);(intro _ _ _))|(refine Pu ⟨_,_,rfl,?_⟩))
 exact⟨_,Kn.le (by assumption),k⟩
theorem LF {α:Type} {f:α->List Value} {l:List α} {i:Nat} {x:α} (h:l[i]?=some x):(l.take (i+1)).flatMap f=(l.take i).flatMap f++f x:=by
 have hlt:=get_lt h
 rw [List.getElem?_eq_getElem hlt]at h
 rw [List.take_succ_eq_append_getElem hlt,List.flatMap_append,Option.some.inj h];simp
theorem zy (z:Array Value) (n:Nat):(aN z n).length=n:=by simp [aN]
theorem Nv {h:Hp} {s:Sl} {l:List NodeP} {R:Value->Hp->Prop} (hs:gE h s l) (hl:l.length<=1048576)
  (k: ∀b h',h b=none->h.le h'->h' b=some (.inl ⟨l.flatMap nodeCells,l.length*9,false⟩)->R (Sl.v (arr b l.length)) h'):ue #[s.v] h R:=by
 apply G0
 refine uf_ ?_
 have hn:=hs.len
 refine⟨by omega,by omega,by omega,by omega,?_⟩
 rw [Int.toNat_natCast,hn]
 refine ai fun b h1 hb l1 f1=>?_
 refine ar l.length (fun i vs h'=>vs= [s.v,(arr b l.length).v,I i]/\h.le h'/\ ∃cs,h' b=some (.inl ⟨cs,l.length*9,false⟩)/\cs.length=l.length*9/\cs.take (i*9)=(l.take i).flatMap nodeCells) ⟨rfl,l1,_,f1,zy _ _,by simp⟩ ?_
 clear f1 l1 h1
 rintro i _ h1 next hi ⟨rfl,l1,cs,f1,hcl,htk⟩ hnx
 refine⟨s,arr b _,_,rfl,?_⟩
 by_cases hlt:i<l.length
 rotate_left
 ·have hie:i=l.length:=by omega
  subst hie
  refine aA (by simp;omega) (k b h1 hb l1 ?_)
  rw [List.take_of_length_le (by omega),List.take_length]at htk
  rw [<-htk];exact f1
 refine aL (by simp;omega) ?_
 obtain⟨n,hni⟩: ∃n,l[i]?=some n:=⟨_,List.getElem?_eq_getElem hlt⟩
 obtain⟨bn,o,ha,c0,c1,c2,c3,c4,c5,c6,c7,c8⟩:=(hs.mono l1).at hni
 refine⟨bn,o,ha,by omega,by omega,_,c0,_,c1,_,c2,_,c3,_,c4,_,c5,_,c6,_,c7,_,c8,?_⟩
 refine Ol (n:=n) ⟨_,_,_,_,_,_,_,_,_,rfl,?_⟩
 refine fW ⟨by omega,by dsimp only;omega,?_⟩
 (with_reducible apply co);(exact f1);(exact l1);(exact hb);(rw [Int.toNat_natCast];omega)
 intro h2 f2 kp l2
 rw [aw (by omega)]
 refine hnx hlt _ _ ⟨rfl,l2,_,f2,by rw [gJ];exact hcl,?_⟩
 have:=Mm (nodeCells n) cs (i*9) (by show i*9+9<=_;omega)
 rw [Int.toNat_natCast,Nat.zero_add]
 rw [LF hni,<-htk,show (i+1)*9=i*9+(nodeCells n).length by show _=i*9+9;omega]
 exact this
theorem Cx {h:Hp} {s:Sl} {l:List BindP} {R:Value->Hp->Prop} (hs:iC h s l) (hl:l.length<=1048576)
  (k: ∀b h',h b=none->h.le h'->h' b=some (.inl ⟨l.flatMap bindCells,l.length*2,false⟩)->R (Sl.v (arr b l.length)) h'):pK #[s.v] h R:=by
 apply Iv
 refine uf_ ?_
 have hn:=hs.len
 refine⟨by omega,by omega,by omega,by omega,?_⟩
 rw [Int.toNat_natCast,hn]
 refine ai fun b h1 hb l1 f1=>?_
 refine ar l.length (fun i vs h'=>vs= [s.v,(arr b l.length).v,I i]/\h.le h'/\ ∃cs,h' b=some (.inl ⟨cs,l.length*2,false⟩)/\cs.length=l.length*2/\cs.take (i*2)=(l.take i).flatMap bindCells) ⟨rfl,l1,_,f1,zy _ _,by simp⟩ ?_
 clear f1 l1 h1
 rintro i _ h1 next hi ⟨rfl,l1,cs,f1,hcl,htk⟩ hnx
 refine⟨s,arr b _,_,rfl,?_⟩
 by_cases hlt:i<l.length
 rotate_left
 ·have hie:i=l.length:=by omega
  subst hie
  refine aA (by simp;omega) (k b h1 hb l1 ?_)
  rw [List.take_of_length_le (by omega),List.take_length]at htk
  rw [<-htk];exact f1
 refine aL (by simp;omega) ?_
 obtain⟨n,hni⟩: ∃n,l[i]?=some n:=⟨_,List.getElem?_eq_getElem hlt⟩
 obtain⟨bn,o,ha,c0,c1⟩:=(hs.mono l1).at hni
 refine⟨bn,o,ha,by omega,by omega,_,c0,_,c1,?_⟩
 refine Oi (b:=n) ⟨_,_,rfl,?_⟩
 refine fW ⟨by omega,by dsimp only;omega,?_⟩
 (with_reducible apply co);(exact f1);(exact l1);(exact hb);(rw [Int.toNat_natCast];omega)
 intro h2 f2 kp l2
 rw [aw (by omega)]
 refine hnx hlt _ _ ⟨rfl,l2,_,f2,by rw [gJ];exact hcl,?_⟩
 have:=Mm (bindCells n) cs (i*2) (by show i*2+2<=_;omega)
 rw [Int.toNat_natCast,Nat.zero_add]
 rw [LF hni,<-htk,show (i+1)*2=i*2+(bindCells n).length by show _=i*2+2;omega]
 exact this
theorem xv {h:Hp} {s:Sl} {l:List Int} {R:Value->Hp->Prop} (hs:IntS h s l) (hl:l.length<=1048576)
  (k: ∀b h',h b=none->h.le h'->h' b=some (.inl ⟨l.map I,l.length*1,false⟩)->R (Sl.v (arr b l.length)) h'):iB #[s.v] h R:=by
 apply A3
 refine uf_ ?_
 have hn:=hs.len
 refine⟨by omega,by omega,by omega,by omega,?_⟩
 rw [Int.toNat_natCast,hn]
 refine ai fun b h1 hb l1 f1=>?_
 refine ar l.length (fun i vs h'=>vs= [s.v,(arr b l.length).v,I i]/\h.le h'/\ ∃cs,h' b=some (.inl ⟨cs,l.length*1,false⟩)/\cs.length=l.length/\cs.take i=(l.take i).map I) ⟨rfl,l1,_,f1,by rw [zy,Nat.mul_one],by simp⟩ ?_
 clear f1 l1 h1
 rintro i _ h1 next hi ⟨rfl,l1,cs,f1,hcl,htk⟩ hnx
 refine⟨s,arr b _,_,rfl,?_⟩
 by_cases hlt:i<l.length
 rotate_left
 ·have hie:i=l.length:=by omega
  subst hie
  refine aA (by simp;omega) (k b h1 hb l1 ?_)
  rw [List.take_of_length_le (by omega),List.take_length]at htk
  rw [<-htk];exact f1
 refine aL (by simp;omega) ?_
 obtain⟨n,hni⟩: ∃n,l[i]?=some n:=⟨_,List.getElem?_eq_getElem hlt⟩
 obtain⟨bn,o,ha,c0⟩:=(hs.mono l1).get hni
 refine⟨bn,o,ha,by omega,by omega,_,c0,?_⟩
 refine fW ⟨by omega,by dsimp only;omega,?_⟩
 (with_reducible apply co);(exact f1);(exact l1);(exact hb);(rw [Int.toNat_natCast];omega)
 intro h2 f2 kp l2
 rw [aw (by omega)]
 refine hnx hlt _ _ ⟨rfl,l2,_,f2,by rw [gJ];exact hcl,?_⟩
 rw [Int.toNat_natCast,Nat.zero_add,Nat.mul_one,bD,m4 _ (by omega),htk,List.take_succ_eq_append_getElem hlt,List.map_append]
 rw [List.getElem?_eq_getElem hlt]at hni
 rw [Option.some.inj hni];rfl
def yL (m:ah) (bn bi bx bb bh:Nat):List (Nat×Blk):=
 [(bn, .inl ⟨m.nodes.flatMap nodeCells,m.nodes.length*9,false⟩),(bi, .inl ⟨m.inits.flatMap bindCells,m.inits.length*2,false⟩),(bx, .inl ⟨m.nexts.flatMap bindCells,m.nexts.length*2,false⟩),
  (bb, .inl ⟨m.bads.map I,m.bads.length*1,false⟩),(bh, .inl ⟨m.holds.map I,m.holds.length*1,false⟩)]
abbrev Pe (m:ah) (bn bi bx bb bh:Nat):MSl:=⟨arr bn m.nodes.length,arr bi m.inits.length,arr bx m.nexts.length,arr bb m.bads.length,arr bh m.holds.length⟩
theorem gy {h:Hp} {M:MSl} {m:ah} {R:Value->Hp->Prop} (hs:aM h M m) (hm:bP m)
  (k: ∀bn bi bx bb bh h',Kn h h' (yL m bn bi bx bb bh)->R (aQ (Pe m bn bi bx bb bh)) h'):dH #[aQ M] h R:=by
 apply H1
 refine uf_ ?_
 have K0:=Kn.nil h
 (with_reducible apply Kn.al);(assumption);(intro b7 h1 K1 l1 hb7)
 (with_reducible apply Kn.al);(assumption);(intro b9 h2 K2 l2 hb9)
 (with_reducible apply Kn.al);(assumption);(intro b12 h3 K3 l3 hb12)
 repeat' (refine kr_ ?_)
 refine Nv (hs.mono K3.le).nodes hm.nodes fun bn h4 hbn l4 f4=>⟨_,rfl,?_⟩
 have K4:=K3.cons hbn l4 f4
 refine kw_ ?_
 intro h5 K5 _
 repeat' (refine kr_ ?_)
 refine Cx (hs.mono K5.le).inits hm.inits fun bi h6 hbi l6 f6=>⟨_,rfl,?_⟩
 have K6:=K5.cons hbi l6 f6
 refine kw_ ?_
 intro h7 K7 _
 repeat' (refine kr_ ?_)
 refine Cx (hs.mono K7.le).nexts hm.nexts fun bx h8 hbx l8 f8=>⟨_,rfl,?_⟩
 have K8:=K7.cons hbx l8 f8
 refine kw_ ?_
 intro h9 K9 _
 repeat' (refine kr_ ?_)
 refine xv (hs.mono K9.le).bads hm.bads fun bb h10 hbb l10 f10=>⟨_,rfl,?_⟩
 have K10:=K9.cons hbb l10 f10
 refine kw_ ?_
 intro h11 K11 _
 repeat' (refine kr_ ?_)
 refine xv (hs.mono K11.le).holds hm.holds fun bh h12 hbh l12 f12=>⟨_,rfl,?_⟩
 have K12:=K11.cons hbh l12 f12
 refine kw_ ?_
 intro h13 K13 _
 repeat' (refine kr_ ?_)
 refine kw_ ?_
 intro h14 K14 _
 repeat' (refine kr_ ?_)
 refine k bn bi bx bb bh h14 (K14.sub (fun e he=>?_) ?_)
 ·simp only [yL,List.mem_cons,List.not_mem_nil,or_false]at he
  rcases he with rfl|rfl|rfl|rfl|rfl
  ·exact .tail _ (.tail _ (.tail _ (.tail _ (.head _))))
  ·exact .tail _ (.tail _ (.tail _ (.head _)))
  ·exact .tail _ (.tail _ (.head _))
  ·exact .tail _ (.head _)
  ·exact .head _
 ·have nd:([bh,bb,bx,bi,bn]++ [b12,b9,b7]).Nodup:=K14.nd
  have nd2:([bh,bb,bx,bi,bn]:List Nat).reverse.Nodup:=(List.reverse_perm _).nodup_iff.2 (List.nodup_append.1 nd).1
  exact nd2
theorem Hb {g h:Hp} {X:List (Nat×Blk)} {m:ah} {bn bi bx bb bh:Nat} (K:Kn g h (yL m bn bi bx bb bh++X)) (hm:bP m):aM h (Pe m bn bi bx bb bh) m:=by
 have g1:=hm.nodes
 have g2:=hm.inits
 have g3:=hm.nexts
 have g4:=hm.bads
 have g5:=hm.holds
 refine⟨⟨by dsimp only;omega,by rw [ce (m:=9) (fun _=>rfl)], .inr ⟨bn,0,rfl,au (K.at (List.mem_append_left _ (.head _)))⟩⟩,
  ⟨by dsimp only;omega,by rw [ce (m:=2) (fun _=>rfl)], .inr ⟨bi,0,rfl,au (K.at (List.mem_append_left _ (.tail _ (.head _))))⟩⟩,
  ⟨by dsimp only;omega,by rw [ce (m:=2) (fun _=>rfl)], .inr ⟨bx,0,rfl,au (K.at (List.mem_append_left _ (.tail _ (.tail _ (.head _)))))⟩⟩,
  ⟨by dsimp only;omega,by simp, .inr ⟨bb,0,rfl,au (K.at (List.mem_append_left _ (.tail _ (.tail _ (.tail _ (.head _))))))⟩⟩,
  ⟨by dsimp only;omega,by simp, .inr ⟨bh,0,rfl,au (K.at (List.mem_append_left _ (.tail _ (.tail _ (.tail _ (.tail _ (.head _)))))))⟩⟩,Nat.le_refl _⟩
theorem Qd {h:Hp} {i w:Int} {R:Value->Hp->Prop} (k:R (.bool true) h):vn #[.agg #[I i,I w], .agg #[I i,I w]] h R:=by
 refine ACalls.drop (KJ ?_)
 refine uf_ ?_
 have K0:=Kn.nil h
 (with_reducible apply Kn.al);(assumption);(intro b4 h1 K1 l1 hb4)
 (with_reducible apply Kn.al);(assumption);(intro b6 h2 K2 l2 hb6)
 repeat' (first|(refine kr_ ?_)|(refine aA (by simp) ?_))
 exact⟨_,K2.le,k⟩
theorem Qm {h:Hp} {b:BindP} {R:Value->Hp->Prop} (k:R (.bool true) h):u6 #[uJ b,uJ b] h R:=by
 refine ACalls.drop (JQ ?_)
 refine uf_ ?_
 have K0:=Kn.nil h
 (with_reducible apply Kn.al);(assumption);(intro b4 h1 K1 l1 hb4)
 (with_reducible apply Kn.al);(assumption);(intro b6 h2 K2 l2 hb6)
 repeat' (first|(refine kr_ ?_)|(refine aA (by simp) ?_))
 exact⟨_,K2.le,k⟩
theorem PC {h:Hp} {n:NodeP} {R:Value->Hp->Prop} (k:R (.bool true) h):vd #[wv n,wv n] h R:=by
 refine ACalls.drop (Ke ?_)
 refine uf_ ?_
 have K0:=Kn.nil h
 (with_reducible apply Kn.al);(assumption);(intro b4 h1 K1 l1 hb4)
 (with_reducible apply Kn.al);(assumption);(intro b6 h2 K2 l2 hb6)
 repeat' (first|(refine kr_ ?_)|(refine aA (by simp) ?_)|(refine Qd ⟨_,rfl,?_⟩))
 exact⟨_,K2.le,k⟩
theorem MD {h:Hp} {s t:Sl} {l:List NodeP} {R:Value->Hp->Prop} (hs:gE h s l) (ht:gE h t l) (k:R (.bool true) h):tV #[s.v,t.v] h R:=by
 apply Hd
 refine uf_ ?_
 have hn:=hs.len
 have hn2:=ht.len
 have hb:=hs.1
 refine aA (by simp;omega) ?_
 refine ar l.length (fun i vs h'=>vs= [s.v,t.v,I i]/\h'=h) ⟨rfl,rfl⟩ ?_
 rintro i _ _ next hi ⟨rfl,rfl⟩ hnx
 rename_i h
 refine⟨s,t,_,rfl,?_⟩
 by_cases hlt:i<l.length
 ·refine aL (by simp;omega) ?_
  obtain⟨n,hni⟩: ∃n,l[i]?=some n:=⟨_,List.getElem?_eq_getElem hlt⟩
  obtain⟨b,o,ha,c0,c1,c2,c3,c4,c5,c6,c7,c8⟩:=hs.at hni
  obtain⟨b',o',ha',d0,d1,d2,d3,d4,d5,d6,d7,d8⟩:=ht.at hni
  refine⟨b,o,ha,by omega,by omega,b',o',ha',by omega,by omega,_,c0,_,c1,_,c2,_,c3,_,c4,_,c5,_,c6,_,c7,_,c8,_,d0,_,d1,_,d2,_,d3,_,d4,_,d5,_,d6,_,d7,_,d8,?_⟩
  refine PC (n:=n) ⟨_,rfl,aA rfl ?_⟩
  rw [aw (by omega)]
  exact hnx hlt _ _ ⟨rfl,rfl⟩
 ·exact aA (by simp;omega) k
theorem CZ {h:Hp} {s t:Sl} {l:List BindP} {R:Value->Hp->Prop} (hs:iC h s l) (ht:iC h t l) (k:R (.bool true) h):pA #[s.v,t.v] h R:=by
 apply G2
 refine uf_ ?_
 have hn:=hs.len
 have hn2:=ht.len
 have hb:=hs.1
 refine aA (by simp;omega) ?_
 refine ar l.length (fun i vs h'=>vs= [s.v,t.v,I i]/\h'=h) ⟨rfl,rfl⟩ ?_
 rintro i _ _ next hi ⟨rfl,rfl⟩ hnx
 rename_i h
 refine⟨s,t,_,rfl,?_⟩
 by_cases hlt:i<l.length
 ·refine aL (by simp;omega) ?_
  obtain⟨n,hni⟩: ∃n,l[i]?=some n:=⟨_,List.getElem?_eq_getElem hlt⟩
  obtain⟨b,o,ha,c0,c1⟩:=hs.at hni
  obtain⟨b',o',ha',d0,d1⟩:=ht.at hni
  refine⟨b,o,ha,by omega,by omega,b',o',ha',by omega,by omega,_,c0,_,c1,_,d0,_,d1,?_⟩
  refine Qm (b:=n) ⟨_,rfl,aA rfl ?_⟩
  rw [aw (by omega)]
  exact hnx hlt _ _ ⟨rfl,rfl⟩
 ·exact aA (by simp;omega) k
theorem Cd {h:Hp} {M M':MSl} {m:ah} {R:Value->Hp->Prop} (hs:aM h M m) (ht:aM h M' m) (k:R (.bool true) h):pc #[aQ M,aQ M'] h R:=by
 refine ACalls.drop (Ho ?_)
 refine uf_ ?_
 have K0:=Kn.nil h
 (with_reducible apply Kn.al);(assumption);(intro b4 h1 K1 l1 hb4)
 (with_reducible apply Kn.al);(assumption);(intro b6 h2 K2 l2 hb6)
 have hs2:=hs.mono K2.le
 have ht2:=ht.mono K2.le
 repeat' (refine kr_ ?_)
 refine MD hs2.nodes ht2.nodes ⟨_,rfl,aA rfl ?_⟩
 repeat' (refine kr_ ?_)
 refine CZ hs2.inits ht2.inits ⟨_,rfl,aA rfl ?_⟩
 repeat' (refine kr_ ?_)
 refine CZ hs2.nexts ht2.nexts ⟨_,rfl,aA rfl ?_⟩
 repeat' (refine kr_ ?_)
 refine uP hs2.bads ht2.bads ⟨_,rfl,aA (by simp) ?_⟩
 repeat' (refine kr_ ?_)
 refine uP hs2.holds ht2.holds ⟨_,rfl,aA (by simp) ?_⟩
 exact⟨_,K2.le,k⟩
theorem JU {h:Hp} {x:Int} {R:Value->Hp->Prop} (hx:x<=9223372036854775000) (k: ∀s:ByteArray,R (.string s) h):rQ #[I x] h R:=by
 refine ACalls.drop (FV ?_)
 refine uf_ ?_
 refine ad (fun e=>⟨_,Hp.le_refl _,k _⟩) (fun e=>?_)
 have e:=of_decide_eq_false e
 obtain⟨n,rfl⟩: ∃n:Nat,x=n:=⟨x.toNat,by omega⟩
 refine mj n (fun q vs h'=> ∃s:ByteArray,vs= [I q, .string s]/\h.le h'/\s.size+q<=9223372036854775000) ⟨_,rfl,Hp.le_refl _,by show 0+n<=_;omega⟩ ?_
 rintro q _ h1 next ⟨s,rfl,l1,hsz⟩ hnx
 refine⟨_,s,rfl,?_⟩
 refine ad (fun e=>?_) (fun e=>?_)
 ·have e:=of_decide_eq_true e
  refine ai fun b h2 hb l2 f2=>?_
  have hm:Int.tmod (q:Int) 10=((q%10:Nat):Int):=ee q 10
  have hd:Int.tdiv (q:Int) 10=((q/10:Nat):Int):=tm q 10
  have hmod:q%10<10:=Nat.mod_lt _ (by omega)
  have hw:IntKind.wrap .u8 (W (48+((q%10:Nat):Int)))=((48+q%10:Nat):Int):=by
   rw [bQ (by omega) (by omega),IntKind.wrap_u8];omega
  rw [hm,hw]at f2
  refine⟨[UInt8.ofNat (48+q%10)],⟨rfl, .inr ⟨b,0,rfl,?_⟩⟩,?_⟩
  ·have hc:eR [UInt8.ofNat (48+q%10)]= [.int .u8 ((48+q%10:Nat):Int)]:=by
    unfold eR
    rw [List.map_cons,List.map_nil]
    have:(UInt8.ofNat (48+q%10)).toNat=48+q%10:=by rw [UInt8.toNat_ofNat'];omega
    rw [this];rfl
   rw [hc];exact au f2
  ·have h1s:(⟨[UInt8.ofNat (48+q%10)].toArray⟩:ByteArray).size=1:=rfl
   rw [h1s,hd,fj (by omega)]
   refine⟨by omega,hnx (q/10) (by omega) _ _ ⟨_,rfl,Hp.le_trans l1 l2,?_⟩⟩
   rw [ByteArray.size_append,h1s]
   omega
 ·have h1s:(⟨#[109]⟩:ByteArray).size=1:=rfl
  exact⟨by rw [h1s];omega,_,l1,k _⟩
theorem RG {x:Int} (h0:0<=x) (h:x<=9223372036854775000):W (x+1)=x+1:=bQ (by omega) (by omega)
theorem yD {h:Hp} {b n z:Nat} {cs:List Value} {k0:Int} {R:Value->Hp->Prop} (f:h b=some (.inl ⟨cs,z,false⟩)) (hl:cs.length=n*9) (h0:0<=k0) (hk:k0+n*9<=1000000000000)
  (k: ∀h' cs',(h.off b).le h'->h' b=some (.inl ⟨cs',z,false⟩)->cs'.length=n*9->R (I (k0+n*9)) h'):qt #[(arr b n).v,I k0] h R:=by
 apply Ey
 refine uf_ ?_
 refine ar n (fun i vs h'=>vs= [(arr b n).v,I (k0+i*9),I i]/\ ∃cs,Kn (h.off b) h' [(b, .inl ⟨cs,z,false⟩)]/\cs.length=n*9) ⟨by simp,cs,?_,hl⟩ ?_
 ·exact⟨D1 _ _,fun e he=>by rw [List.mem_singleton.1 he];exact f,fun e he=>by rw [List.mem_singleton.1 he];exact ur _ _,by simp⟩
 clear f hl cs
 rintro i _ h1 next hi ⟨rfl,cs,K,hl⟩ hnx
 refine⟨arr b n,_,_,rfl,?_⟩
 by_cases hlt:i<n
 rotate_left
 ·have hie:i=n:=by omega
  subst hie
  exact aA (by simp) (k h1 cs K.le (K.at (.head _)) hl)
 refine aL (by simp;omega) ?_
 simp (disch:=omega) only [RG]
 have hnat:Int.toNat (i:Int)=i:=Int.toNat_natCast i
 rw [hnat]
 repeat' (first
  |(refine fW ⟨by omega,by first|omega|(dsimp only;omega),?_⟩)
  |((((with_reducible apply Kn.wr);(assumption);((focus ((repeat first|exact .head|apply Upd.tail);done)))));(first|omega|(simp only [gJ];omega));(intro _ _ _)))
 refine JU (by omega) fun s=>⟨s,rfl,?_⟩
 refine fW ⟨by omega,by first|omega|(dsimp only;omega),?_⟩
 (((with_reducible apply Kn.wr);(assumption);((focus ((repeat first|exact .head|apply Upd.tail);done)))))
 ·first|omega|(simp only [gJ];omega)
 intro h2 K2 _
 have hni:((i:Int)+1)=((i+1:Nat):Int):=by omega
 have:=hnx hlt _ _ ⟨rfl,_,K2,by first|exact hl|(simp only [gJ];exact hl)⟩
 have hke:k0+(i:Int)*9+1+1+1+1+1+1+1+1+1=k0+((i+1:Nat):Int)*9:=by omega
 rw [hni,hke];exact this
theorem pa {h:Hp} {b n z:Nat} {cs:List Value} {k0:Int} {R:Value->Hp->Prop} (f:h b=some (.inl ⟨cs,z,false⟩)) (hl:cs.length=n*2) (h0:0<=k0) (hk:k0+n*2<=1000000000000)
  (k: ∀h' cs',(h.off b).le h'->h' b=some (.inl ⟨cs',z,false⟩)->cs'.length=n*2->R (I (k0+n*2)) h'):mg #[(arr b n).v,I k0] h R:=by
 apply EH
 refine uf_ ?_
 refine ar n (fun i vs h'=>vs= [(arr b n).v,I (k0+i*2),I i]/\ ∃cs,Kn (h.off b) h' [(b, .inl ⟨cs,z,false⟩)]/\cs.length=n*2) ⟨by simp,cs,?_,hl⟩ ?_
 ·exact⟨D1 _ _,fun e he=>by rw [List.mem_singleton.1 he];exact f,fun e he=>by rw [List.mem_singleton.1 he];exact ur _ _,by simp⟩
 clear f hl cs
 rintro i _ h1 next hi ⟨rfl,cs,K,hl⟩ hnx
 refine⟨arr b n,_,_,rfl,?_⟩
 by_cases hlt:i<n
 rotate_left
 ·have hie:i=n:=by omega
  subst hie
  exact aA (by simp) (k h1 cs K.le (K.at (.head _)) hl)
 refine aL (by simp;omega) ?_
 simp (disch:=omega) only [RG]
 have hnat:Int.toNat (i:Int)=i:=Int.toNat_natCast i
 rw [hnat]
 repeat' (first
  |(refine fW ⟨by omega,by first|omega|(dsimp only;omega),?_⟩)
  |((((with_reducible apply Kn.wr);(assumption);((focus ((repeat first|exact .head|apply Upd.tail);done)))));(first|omega|(simp only [gJ];omega));(intro _ _ _)))
 have hni:((i:Int)+1)=((i+1:Nat):Int):=by omega
 have hke:k0+(i:Int)*2+1+1=k0+((i+1:Nat):Int)*2:=by omega
 rw [hni,hke]
 refine hnx hlt _ _ ⟨rfl,_,by assumption,by first|exact hl|(simp only [gJ];exact hl)⟩
theorem mC {h:Hp} {b n z:Nat} {cs:List Value} {k0:Int} {R:Value->Hp->Prop} (f:h b=some (.inl ⟨cs,z,false⟩)) (hl:cs.length=n) (h0:0<=k0) (hk:k0+n<=1000000000000)
  (k: ∀h' cs',(h.off b).le h'->h' b=some (.inl ⟨cs',z,false⟩)->cs'.length=n->R (I (k0+n)) h'):fT #[(arr b n).v,I k0] h R:=by
 apply xZ
 refine uf_ ?_
 refine ar n (fun i vs h'=>vs= [(arr b n).v,I (k0+i),I i]/\ ∃cs,Kn (h.off b) h' [(b, .inl ⟨cs,z,false⟩)]/\cs.length=n) ⟨by simp,cs,?_,hl⟩ ?_
 ·exact⟨D1 _ _,fun e he=>by rw [List.mem_singleton.1 he];exact f,fun e he=>by rw [List.mem_singleton.1 he];exact ur _ _,by simp⟩
 clear f hl cs
 rintro i _ h1 next hi ⟨rfl,cs,K,hl⟩ hnx
 refine⟨arr b n,_,_,rfl,?_⟩
 by_cases hlt:i<n
 rotate_left
 ·have hie:i=n:=by omega
  subst hie
  exact aA (by simp) (k h1 cs K.le (K.at (.head _)) hl)
 refine aL (by simp;omega) ?_
 simp (disch:=omega) only [RG]
 have hnat:Int.toNat (i:Int)=i:=Int.toNat_natCast i
 rw [hnat]
 repeat' (first
  |(refine fW ⟨by omega,by first|omega|(dsimp only;omega),?_⟩)
  |((((with_reducible apply Kn.wr);(assumption);((focus ((repeat first|exact .head|apply Upd.tail);done)))));(first|omega|(simp only [gJ];omega));(intro _ _ _)))
 have hni:((i:Int)+1)=((i+1:Nat):Int):=by omega
 have hke:k0+(i:Int)+1=k0+((i+1:Nat):Int):=by omega
 rw [hke,hni]
 refine hnx hlt _ _ ⟨rfl,_,by assumption,by first|exact hl|(simp only [gJ];exact hl)⟩
theorem GD {g h:Hp} {X:List (Nat×Blk)} {m:ah} {bn bi bx bb bh:Nat} {R:Value->Hp->Prop} (K:Kn g h (yL m bn bi bx bb bh++X)) (hm:bP m)
  (k: ∀h' L',L'.map Prod.fst= [bn,bi,bx,bb,bh]->Kn g h' (L'++X)-> ∀r:Int,0<=r->R (I r) h'):jV #[aQ (Pe m bn bi bx bb bh),I 1] h R:=by
 apply vZ
 refine uf_ ?_
 have g1:=hm.nodes
 have g2:=hm.inits
 have g3:=hm.nexts
 have g4:=hm.bads
 have g5:=hm.holds
 refine ai fun b8 h1 hb8 l1 f8=>?_
 have K1:=K.cons hb8 l1 f8
 unfold yL at K1
 simp only [List.cons_append,List.nil_append]at K1
 clear K l1 hb8
 (refine aC ?_)
 refine yD (K1.at (.tail _ (.head _))) (ce (m:=9) (fun _=>rfl) _) (by omega) (by omega) fun h2 c2 l2 f2 hc2=>⟨_,rfl,?_⟩
 have K2:=K1.off (.tail .head) l2 f2
 (refine kr_ ?_)
 refine pa (K2.at (.tail _ (.tail _ (.head _)))) (ce (m:=2) (fun _=>rfl) _) (by omega) (by omega) fun h3 c3 l3 f3 hc3=>⟨_,rfl,?_⟩
 have K3:=K2.off (.tail (.tail .head)) l3 f3
 (refine kr_ ?_)
 refine pa (K3.at (.tail _ (.tail _ (.tail _ (.head _))))) (ce (m:=2) (fun _=>rfl) _) (by omega) (by omega) fun h4 c4 l4 f4 hc4=>⟨_,rfl,?_⟩
 have K4:=K3.off (.tail (.tail (.tail .head))) l4 f4
 (refine kr_ ?_)
 refine mC (K4.at (.tail _ (.tail _ (.tail _ (.tail _ (.head _)))))) (by simp) (by omega) (by omega) fun h5 c5 l5 f5 hc5=>⟨_,rfl,?_⟩
 have K5:=K4.off (.tail (.tail (.tail (.tail .head)))) l5 f5
 (refine kr_ ?_)
 refine mC (K5.at (.tail _ (.tail _ (.tail _ (.tail _ (.tail _ (.head _))))))) (by simp) (by omega) (by omega) fun h6 c6 l6 f6 hc6=>⟨_,rfl,?_⟩
 have K6:=K5.off (.tail (.tail (.tail (.tail (.tail .head))))) l6 f6
 have nd:=K6.nd
 rw [List.map_cons,List.nodup_cons]at nd
 refine k h6 [(bn, .inl ⟨c2,m.nodes.length*9,false⟩),(bi, .inl ⟨c3,m.inits.length*2,false⟩),(bx, .inl ⟨c4,m.nexts.length*2,false⟩),(bb, .inl ⟨c5,m.bads.length*1,false⟩),(bh, .inl ⟨c6,m.holds.length*1,false⟩)] rfl (K6.sub (L':= [(bn, .inl ⟨c2,m.nodes.length*9,false⟩),(bi, .inl ⟨c3,m.inits.length*2,false⟩),(bx, .inl ⟨c4,m.nexts.length*2,false⟩),(bb, .inl ⟨c5,m.bads.length*1,false⟩),(bh, .inl ⟨c6,m.holds.length*1,false⟩)]++X) (fun e he=> .tail _ he) nd.2) _ (by omega)
theorem ko (v:Int) (f:Nat->Bool):(dY v f).ns.length<=600:=by
 unfold dY pZ
 split
 ·split
  ·simp [jx]
  ·rename_i r h;split at h
   ·cases h
   ·cases h;dsimp only;omega
 ·simp [jx]
theorem list9 {cs:List Value} (h:cs.length=9): ∃a b c d e f g i j,cs= [a,b,c,d,e,f,g,i,j]:=by
 match cs,h with
 | [a,b,c,d,e,f,g,i,j],_=>exact⟨a,b,c,d,e,f,g,i,j,rfl⟩
theorem list2 {cs:List Value} (h:cs.length=2): ∃a b,cs= [a,b]:=by
 match cs,h with
 | [a,b],_=>exact⟨a,b,rfl⟩
theorem Got.flat {P:Program} {W:World} {t e:TypeId} {v:Value} {α:Type} {f:α->List Value} {m:Nat} {p:α->Prop} (hf: ∀x,(f x).length=m) (hpos:0<m) (ht:P.underlying t=some (.slice e)) (hsz:P.cellsOf e=m)
  (hg: ∀ds,Got P W e ds-> ∃x,ds=f x/\p x) (g:Got P W t [v]): ∃(s:Sl) (l:List α),v=s.v/\s.n<=s.c/\SlC (hW W) s m (l.flatMap f)/\ ∀x∈l,p x:=by
 obtain⟨s,hs,hm,hlc,h⟩:=Got.slice ht hsz hpos g
 simp only [List.cons.injEq,and_true]at hs
 rcases h with h|⟨b,o,ha,h⟩
 ·exact⟨s, [],hs,hlc,⟨hm,by simp [h], .inl h⟩,by simp⟩
 obtain⟨xs,hl,hx⟩:=Gk (p:=fun i (x:α)=>(∀(j:Nat) v,(f x)[j]?=some v->Hp.cell (hW W) b (o+i*m+j)=some v)/\p x) s.n fun i hi=>by
  obtain⟨ds,hd,hgd,hc⟩:=h i hi
  obtain⟨x,rfl,hp⟩:=hg ds hgd
  exact⟨x,hc,hp⟩
 refine⟨s,xs,hs,hlc,⟨hm,by rw [ce hf,hl], .inr ⟨b,o,ha,?_⟩⟩,?_⟩
 ·intro i v hv
  have hi:i<(xs.flatMap f).length:=(List.getElem?_eq_some_iff.1 hv).1
  rw [ce hf]at hi
  have hq:i/m<xs.length:=by rw [Nat.div_lt_iff_lt_mul hpos];exact hi
  have hr:i%m<m:=Nat.mod_lt _ hpos
  have he:i=i/m*m+i%m:=by rw [Nat.mul_comm];exact(Nat.div_add_mod _ _).symm
  rw [he,lw hf xs (i/m) xs[i/m] (i%m) (List.getElem?_eq_getElem hq) hr]at hv
  have:=(hx (i/m) hq).1 _ _ hv
  rw [he,<-Nat.add_assoc];exact this
 ·intro x hxm
  obtain⟨i,hi,rfl⟩:=List.getElem_of_mem hxm
  exact(hx i hi).2
def tb (n:Nat) (T:Nat->Bool):List Value:=(List.range n).map fun i=> .bool (T i)
def FS (h:Hp) (s:Sl) (n m:Nat) (L:Nat->Nat->Bool):Prop:= ∃ts:List Sl,ts.length=m/\SlC h s 1 (ts.map Sl.v)/\ ∀(j:Nat) (t:Sl),ts[j]?=some t->eF h t n (L j)
theorem FS.mono {h h':Hp} {s:Sl} {n m:Nat} {L:Nat->Nat->Bool} (l:h.le h') (e:FS h s n m L):FS h' s n m L:=by
 obtain⟨ts,e1,e2,e3⟩:=e
 exact⟨ts,e1,e2.mono l,fun j t ht=>(e3 j t ht).mono l⟩
theorem FS.len {h:Hp} {s:Sl} {n m:Nat} {L:Nat->Nat->Bool} (e:FS h s n m L):s.n=m:=by
 obtain⟨ts,e1,e2,_⟩:=e
 have:=e2.2.1
 simp at this;omega
theorem FS.get {h:Hp} {s:Sl} {n m i:Nat} {L:Nat->Nat->Bool} (e:FS h s n m L) (hi:i<m):
  ∃b o t,s.a=some (Addr.mk b o none)/\(i:Int)<(s.n:Int)/\Hp.cell h b (o+Int.toNat (i:Int)*1)=some (Sl.v t)/\eF h t n (L i):=by
 have hl:=e.len
 obtain⟨ts,e1,e2,e3⟩:=e
 obtain⟨t,ht⟩: ∃t,ts[i]?=some t:=⟨_,List.getElem?_eq_getElem (by omega)⟩
 obtain⟨b,o,ha,hc⟩:=SlC.get e2 (by omega)
 refine⟨b,o,t,ha,by omega,?_,e3 i t ht⟩
 rw [Int.toNat_natCast,Nat.mul_one]
 exact hc i _ (by simp [ht])
def bW (X:List (Nat×Blk)) (s:Sl) (sz:Nat) (cs:List Value):Prop:=
 cs.length=s.n*sz/\s.n<=s.c/\((X= []/\s=⟨none,0,0⟩/\cs= [])\/ ∃b,s.a=some ⟨b,0,none⟩/\X= [(b, .inl ⟨cs,s.c*sz,false⟩)])
theorem cv (sz:Nat):bW [] ⟨none,0,0⟩ sz []:=⟨by simp,Nat.le_refl _, .inl ⟨rfl,rfl,rfl⟩⟩
theorem bW.buf {X:List (Nat×Blk)} {h:Hp} {s:Sl} {sz:Nat} {cs:List Value} (o:bW X s sz cs) (m: ∀e∈X,h e.1=some e.2):Buf h s sz cs:=by
 refine⟨o.1,o.2.1,?_⟩
 rcases o.2.2 with ⟨_,rfl,_⟩|⟨b,ha,rfl⟩
 ·exact .inl ⟨rfl,rfl,rfl⟩
 ·exact .inr ⟨b,ha,m _ (.head _)⟩
theorem Kn.perm {g h:Hp} {L L':List (Nat×Blk)} (K:Kn g h L) (p:L.Perm L'):Kn g h L':=K.sub (fun e he=>p.mem_iff.2 he) ((p.map Prod.fst).nodup_iff.1 K.nd)
theorem Kn.grow {g h:Hp} {X L:List (Nat×Blk)} {s:Sl} {sz by_ m:Nat} {cs news:List Value} {src:Option Addr} {C:Option Addr->Nat->Nat->Hp->Prop}
  (K:Kn g h (X++L)) (o:bW X s sz cs) (hm:0<m) (hsz:(s.n+m)*by_<=140737488355328) (hsz':s.n+m<=9223372036854775807)
  (hs: ∃sb so,src=some ⟨sb,so,none⟩/\ii h sb so news) (hl:news.length=m*sz) (ho:news.all (·.oneCell')=true)
  (k: ∀s' X' h',s'.n=s.n+m->bW X' s' sz (cs++news)->Kn g h' (X'++L)->(h.offS s).le h'->C s'.a s'.n s'.c h'):ck h s.a s.n s.c src m sz by_ C:=by
 refine dp (o.buf fun e he=>K.mem e (List.mem_append_left _ he)) hm hsz hsz' hs hl ho fun s' h' hn B l _=>?_
 have nd:=K.nd
 rw [List.map_append,List.nodup_append]at nd
 have base:g.le (h.offS s)/\ ∀e∈L,(h.offS s) e.1=some e.2:=by
  rcases o.2.2 with ⟨_,rfl,_⟩|⟨b,ha,rfl⟩
  ·exact⟨K.le,fun e he=>K.mem e (List.mem_append_right _ he)⟩
  ·unfold Hp.offS
   rw [ha]
   refine⟨xH (K.new (b,_) (.head _)) K.le,fun e he=>?_⟩
   have hne:e.1≠b:=fun hb=>nd.2.2 b (by simp) e.1 (List.mem_map.2 ⟨e,he,rfl⟩) hb.symm
   simp only [Hp.off,Hp.set]
   rw [if_neg hne];exact K.mem e (List.mem_append_right _ he)
 rcases B.2.2 with ⟨_,h0,_⟩|⟨b,ha,hb⟩
 ·omega
 have hoff:(h'.offS s') b=none:=by simp [Hp.offS,ha,Hp.off,Hp.set]
 refine k s' [(b, .inl ⟨cs++news,s'.c*sz,false⟩)] h' hn ⟨B.1,B.2.1, .inr ⟨b,ha,rfl⟩⟩ ?_ (Hp.le_trans l (aU h' s'))
 have lo:=aU h' s'
 have hg:g b=none:=by
  cases hgb:g b with
  |none=>rfl
  |some x=>rw [l _ _ (base.1 _ _ hgb)]at hoff;cases hoff
 refine⟨Hp.le_trans base.1 (Hp.le_trans l lo),fun e he=>?_,fun e he=>?_,?_⟩
 ·rcases List.mem_cons.1 he with rfl|he
  ·exact hb
  ·exact lo _ _ (l _ _ (base.2 e he))
 ·rcases List.mem_cons.1 he with rfl|he
  ·exact hg
  ·exact K.new e (List.mem_append_right _ he)
 ·show (b::L.map Prod.fst).Nodup
  rw [List.nodup_cons]
  refine⟨fun hm=>?_,nd.2.1⟩
  obtain⟨e,he,heb⟩:=List.mem_map.1 hm
  have:=l _ _ (base.2 e he)
  rw [heb,hoff]at this;cases this
theorem Kn.growIn {g h:Hp} {A X L:List (Nat×Blk)} {s:Sl} {sz by_ m:Nat} {cs news:List Value} {src:Option Addr} {C:Option Addr->Nat->Nat->Hp->Prop}
  (K:Kn g h (A++(X++L))) (o:bW X s sz cs) (hm:0<m) (hsz:(s.n+m)*by_<=140737488355328) (hsz':s.n+m<=9223372036854775807)
  (hs: ∃sb so,src=some ⟨sb,so,none⟩/\ii h sb so news) (hl:news.length=m*sz) (ho:news.all (·.oneCell')=true)
  (k: ∀s' X' h',s'.n=s.n+m->bW X' s' sz (cs++news)->Kn g h' (A++(X'++L))->(h.offS s).le h'->C s'.a s'.n s'.c h'):ck h s.a s.n s.c src m sz by_ C:=by
 have sw: ∀Y:List (Nat×Blk),(A++(Y++L)).Perm (Y++(A++L)):=fun Y=>by
  rw [<-List.append_assoc,<-List.append_assoc]
  exact List.perm_append_comm.append_right L
 exact Kn.grow (K.perm (sw X)) o hm hsz hsz' hs hl ho fun s' X' h' hn o' K' l=>k s' X' h' hn o' (K'.perm (sw X').symm) l
theorem bW.slc {X A L:List (Nat×Blk)} {g h:Hp} {s:Sl} {sz:Nat} {cs:List Value} (o:bW X s sz cs) (K:Kn g h (A++(X++L))) (hn:s.n<=9223372036854775807):SlC h s sz cs:=
 (o.buf fun e he=>K.mem e (List.mem_append_right _ (List.mem_append_left _ he))).slc_of hn
structure DS where
 hs:Sl
 es:Sl
 ns:Sl
 fs:Sl
 bs:Sl
def Eb (h:Hp) (q:DS) (σ:aJ):Prop:=eF h q.hs (2^(σ.n+σ.k)) σ.hold/\eF h q.es (2^(σ.n+σ.k)) σ.ends/\Iq h q.ns (2^(σ.n+σ.k)) σ.next/\
 (∃fm,fm+σ.fixed=2^σ.n-1/\IntS h q.fs (VL (gU fm)))/\eF h q.bs (2^σ.n) σ.begins
theorem Eb.mono {h h':Hp} {q:DS} {σ:aJ} (l:h.le h') (e:Eb h q σ):Eb h' q σ:=by
 obtain⟨a,b,c,⟨fm,d1,d2⟩,f⟩:=e
 exact⟨a.mono l,b.mono l,c.mono l,⟨fm,d1,d2.mono l⟩,f.mono l⟩
theorem eF.wo {g h h':Hp} {L:List (Nat×Blk)} {t:Sl} {n:Nat} {T:Nat->Bool} (K:Kn g h L) (e:eF (h'.sub h) t n T):eF (h'.wo (L.map Prod.fst)) t n T:=
 eF.mono (tC (sub_le _ _) fun b hb=>by
  cases hx:h b with
  |none=>exact absurd hx (K.has b hb)
  |some x=>exact m8 hx) e
theorem bW.toOwn {g h:Hp} {A X L:List (Nat×Blk)} {s:Sl} {sz:Nat} {cs:List Value} (o:bW X s sz cs) (hn:s.n<=9223372036854775807) (K:Kn g h (A++(X++L))): ∃X',k8 X' s sz cs/\Kn g h (A++(X'++L)):=by
 by_cases h0:s.n=0
 ·refine⟨[],⟨o.1,hn, .inl ⟨h0,rfl⟩⟩,K.sub (fun e he=>?_) ?_⟩
  ·rcases List.mem_append.1 he with he|he
   ·exact List.mem_append_left _ he
   ·exact List.mem_append_right _ (List.mem_append_right _ he)
  ·have nd:=K.nd
   rw [List.map_append,List.map_append]at nd
   rw [List.nil_append,List.map_append]
   exact nd.sublist (List.Sublist.append_left (List.sublist_append_right _ _) _)
 ·rcases o.2.2 with ⟨_,rfl,_⟩|⟨b,ha,rfl⟩
  ·exact absurd rfl h0
  ·exact⟨_,⟨o.1,hn, .inr ⟨h0,b,_,ha,rfl⟩⟩,K⟩
def TrX (h h':Hp) (sS sI:Sl) (l:List (Nat×Nat)):Prop:=
 ∃XS XI,k8 XS sS 1 ((VL (l.map Prod.fst)).map I)/\k8 XI sI 1 ((VL (l.map Prod.snd)).map I)/\Kn h h' (XS++XI)
theorem bW.at {X:List (Nat×Blk)} {h:Hp} {s t:Sl} {ts:List Sl} {i:Nat} (o:bW X s 1 (ts.map Sl.v)) (m: ∀e∈X,h e.1=some e.2) (hi:ts[i]?=some t):
  ∃b x,s.a=some ⟨b,0,none⟩/\h b=some x/\Hp.cell h b (0+i*1)=some t.v:=by
 have hlt:=get_lt hi
 rcases o.2.2 with ⟨_,_,h0⟩|⟨b,ha,rfl⟩
 ·have:ts.length=0:=by have:=congrArg List.length h0;simpa using this
  omega
 ·have hb:=m _ (.head _)
  refine⟨b,_,ha,hb,?_⟩
  rw [av hb,Nat.zero_add,Nat.mul_one,List.getElem?_map,hi];rfl
def TrG (h h':Hp) (sS sI:Sl) (l:List (Nat×Nat)):Prop:=
 ∃XS XI,bW XS sS 1 ((VL (l.map Prod.fst)).map I)/\bW XI sI 1 ((VL (l.map Prod.snd)).map I)/\Kn h h' (XS++(XI++ []))
theorem TrG.nil {h h':Hp} (l:h.le h'):TrG h h' ⟨none,0,0⟩ ⟨none,0,0⟩ []:=⟨[], [],cv 1,cv 1,Kn.of l⟩
theorem TrG.up {h g h1 h5:Hp} {b6:Nat} {sS sI:Sl} {l:List (Nat×Nat)} (t:TrG g h1 sS sI l) (lg:h.le g) (h6:g b6≠none) (l5:h.le h5) (kp: ∀c,c≠b6->h5 c=h1 c):TrG h h5 sS sI l:=by
 obtain⟨XS,XI,oS,oI,K⟩:=t
 refine⟨XS,XI,oS,oI,l5,fun e he=>?_,fun e he=>aF lg (K.new e he),K.nd⟩
 have hne:e.1≠b6:=by
  intro e6
  have h1:=K.new e he
  rw [e6]at h1;exact h6 h1
 rw [kp _ hne];exact K.mem e he
theorem TrG.tr {h h':Hp} {sS sI:Sl} {l:List (Nat×Nat)} (t:TrG h h' sS sI l) (hl:l.length<=1000000):TrX h h' sS sI l:=by
 obtain⟨XS,XI,oS,oI,K⟩:=t
 have h1:=oS.1
 have h2:=oI.1
 simp only [List.length_map,aY,Nat.mul_one]at h1 h2
 obtain⟨XS',oS',K6⟩:=oS.toOwn (by omega) (A:= []) (L:=XI++ []) K
 obtain⟨XI',oI',K7⟩:=oI.toOwn (by omega) (A:=XS') (L:= []) K6
 rw [List.append_nil]at K7
 exact⟨XS',XI',oS',oI',K7⟩
theorem TrX.nil {h h':Hp} (l:h.le h'):TrX h h' ⟨none,0,0⟩ ⟨none,0,0⟩ []:=⟨[], [],⟨rfl,by simp, .inl ⟨rfl,rfl⟩⟩,⟨rfl,by simp, .inl ⟨rfl,rfl⟩⟩,Kn.of l⟩
theorem TrX.up {h g h1 h5:Hp} {b6:Nat} {sS sI:Sl} {l:List (Nat×Nat)} (t:TrX g h1 sS sI l) (lg:h.le g) (h6:g b6≠none) (l5:h.le h5) (kp: ∀c,c≠b6->h5 c=h1 c):TrX h h5 sS sI l:=by
 obtain⟨XS,XI,oS,oI,K⟩:=t
 refine⟨XS,XI,oS,oI,l5,fun e he=>?_,fun e he=>aF lg (K.new e he),K.nd⟩
 have hne:e.1≠b6:=by
  intro e6
  have h1:=K.new e he
  rw [e6]at h1;exact h6 h1
 rw [kp _ hne];exact K.mem e he
theorem TrX.mono {h h1 h2:Hp} {sS sI:Sl} {l:List (Nat×Nat)} (t:TrX h h1 sS sI l) (l12:h1.le h2):TrX h h2 sS sI l:=by
 obtain⟨XS,XI,oS,oI,K⟩:=t
 exact⟨XS,XI,oS,oI,K.mono l12⟩
theorem k8.slcOf {X:List (Nat×Blk)} {h:Hp} {s:Sl} {sz:Nat} {cs:List Value} (o:k8 X s sz cs) (m: ∀e∈X,h e.1=some e.2):SlC h s sz cs:=by
 refine⟨o.2.1,o.1,?_⟩
 rcases o.2.2 with ⟨h0,_⟩|⟨_,b,z,ha,rfl⟩
 ·exact .inl h0
 ·exact .inr ⟨b,0,ha,au (m _ (.head _))⟩
theorem TrX.ints {h h1:Hp} {sS sI:Sl} {l:List (Nat×Nat)} (t:TrX h h1 sS sI l):IntS h1 sS (VL (l.map Prod.fst))/\IntS h1 sI (VL (l.map Prod.snd)):=by
 obtain⟨XS,XI,oS,oI,K⟩:=t
 exact⟨oS.slcOf fun e he=>K.mem e (List.mem_append_left _ he),oI.slcOf fun e he=>K.mem e (List.mem_append_right _ he)⟩
theorem TrX.le {h h':Hp} {sS sI:Sl} {l:List (Nat×Nat)} (t:TrX h h' sS sI l):h.le h':=by obtain⟨_,_,_,_,K⟩:=t;exact K.le
theorem TrX.add {g h h':Hp} {L:List (Nat×Blk)} {sS sI:Sl} {l:List (Nat×Nat)} (t:TrX h h' sS sI l) (K:Kn g h L):
  ∃XS XI,k8 XS sS 1 ((VL (l.map Prod.fst)).map I)/\k8 XI sI 1 ((VL (l.map Prod.snd)).map I)/\Kn g h' (L++(XS++XI)):=by
 obtain⟨XS,XI,oS,oI,K'⟩:=t
 exact⟨XS,XI,oS,oI,K.app K'.le K'.new K'.mem K'.nd⟩
section
variable {g h:Hp} {L XS XI:List (Nat×Blk)} {sS sI tS tI:Sl} {xs ys:List Int} {cS cI:List Value} {k0:Int} {R:Value->Hp->Prop}
end
structure FT where
 kind:Int
 depth:Int
 tr:List (Nat×Nat)
 bd:Bd
def VrX (h h':Hp) (sS sI sN:Sl) (p:FT):Prop:=
 ∃XS XI XN,k8 XS sS 1 ((VL (p.tr.map Prod.fst)).map I)/\k8 XI sI 1 ((VL (p.tr.map Prod.snd)).map I)/\k8 XN sN 3 (cP p.bd.ns)/\Kn h h' (XS++(XI++XN))
theorem VrX.up {h g h1 h5:Hp} {b6:Nat} {sS sI sN:Sl} {p:FT} (t:VrX g h1 sS sI sN p) (lg:h.le g) (h6:g b6≠none) (l5:h.le h5) (kp: ∀c,c≠b6->h5 c=h1 c):VrX h h5 sS sI sN p:=by
 obtain⟨XS,XI,XN,oS,oI,oN,K⟩:=t
 refine⟨XS,XI,XN,oS,oI,oN,l5,fun e he=>?_,fun e he=>aF lg (K.new e he),K.nd⟩
 have hne:e.1≠b6:=by
  intro e6
  have h1:=K.new e he
  rw [e6]at h1;exact h6 h1
 rw [kp _ hne];exact K.mem e he
theorem VrX.mono {h h1 h2:Hp} {sS sI sN:Sl} {p:FT} (t:VrX h h1 sS sI sN p) (l12:h1.le h2):VrX h h2 sS sI sN p:=by
 obtain⟨XS,XI,XN,oS,oI,oN,K⟩:=t
 exact⟨XS,XI,XN,oS,oI,oN,K.mono l12⟩
theorem VrX.le {h h':Hp} {sS sI sN:Sl} {p:FT} (t:VrX h h' sS sI sN p):h.le h':=by obtain⟨_,_,_,_,_,_,K⟩:=t;exact K.le
theorem Ik (sz:Nat):k8 [] ⟨none,0,0⟩ sz []:=⟨by simp,by simp, .inl ⟨rfl,rfl⟩⟩
theorem VrX.ofTr {h h':Hp} {sS sI:Sl} {l:List (Nat×Nat)} {k d:Int} (t:TrX h h' sS sI l):VrX h h' sS sI ⟨none,0,0⟩ ⟨k,d,l,jx⟩:=by
 obtain⟨XS,XI,oS,oI,K⟩:=t
 exact⟨XS,XI, [],oS,oI,Ik 3,by rw [List.append_nil];exact K⟩
theorem VrX.nil {h h':Hp} {k d:Int} (l:h.le h'):VrX h h' ⟨none,0,0⟩ ⟨none,0,0⟩ ⟨none,0,0⟩ ⟨k,d, [],jx⟩:=VrX.ofTr (TrX.nil l)
theorem VrX.add {g h h':Hp} {L:List (Nat×Blk)} {sS sI sN:Sl} {p:FT} (t:VrX h h' sS sI sN p) (K:Kn g h L):
  ∃XS XI XN,k8 XS sS 1 ((VL (p.tr.map Prod.fst)).map I)/\k8 XI sI 1 ((VL (p.tr.map Prod.snd)).map I)/\k8 XN sN 3 (cP p.bd.ns)/\Kn g h' (L++(XS++(XI++XN))):=by
 obtain⟨XS,XI,XN,oS,oI,oN,K'⟩:=t
 exact⟨XS,XI,XN,oS,oI,oN,K.app K'.le K'.new K'.mem K'.nd⟩
def VrS (h:Hp) (sS sI sN:Sl) (p:FT):Prop:=IntS h sS (VL (p.tr.map Prod.fst))/\IntS h sI (VL (p.tr.map Prod.snd))/\SlC h sN 3 (cP p.bd.ns)
theorem VrS.mono {h h':Hp} {sS sI sN:Sl} {p:FT} (l:h.le h') (t:VrS h sS sI sN p):VrS h' sS sI sN p:=⟨t.1.mono l,t.2.1.mono l,t.2.2.mono l⟩
def MG (X:List (Nat×Blk)) (M:MSl) (m:ah):Prop:=
 ∃XN XI XE XB XH,X=XN++(XI++(XE++(XB++(XH++ []))))/\bW XN M.no 9 (m.nodes.flatMap nodeCells)/\bW XI M.ini 2 (m.inits.flatMap bindCells)/\bW XE M.nex 2 (m.nexts.flatMap bindCells)/\
  bW XB M.bad 1 (m.bads.map I)/\bW XH M.hol 1 (m.holds.map I)
abbrev noM :MSl:=⟨⟨none,0,0⟩,⟨none,0,0⟩,⟨none,0,0⟩,⟨none,0,0⟩,⟨none,0,0⟩⟩
abbrev noP :ah:=⟨[], [], [], [], []⟩
theorem MG.nil :MG [] noM noP:=⟨[], [], [], [], [],rfl,cv 9,cv 2,cv 2,cv 1,cv 1⟩
section
variable {g h:Hp} {A X:List (Nat×Blk)} {M:MSl} {m:ah}
theorem bW.slcOf {X:List (Nat×Blk)} {s:Sl} {sz:Nat} {cs:List Value} (o:bW X s sz cs) (hn:s.n<=9223372036854775807) (m: ∀e∈X,h e.1=some e.2):SlC h s sz cs:=(o.buf m).slc_of hn
theorem MG.lens (o:MG X M m):M.no.n=m.nodes.length/\M.ini.n=m.inits.length/\M.nex.n=m.nexts.length/\M.bad.n=m.bads.length/\M.hol.n=m.holds.length/\M.no.n<=M.no.c:=by
 obtain⟨XN,XI,XE,XB,XH,_,a,b,c,d,e⟩:=o
 have h1:=a.1;have h2:=b.1;have h3:=c.1;have h4:=d.1;have h5:=e.1;have h6:=a.2.1
 rw [ce (m:=9) (fun _=>rfl)]at h1
 rw [ce (m:=2) (fun _=>rfl)]at h2 h3
 rw [List.length_map]at h4 h5
 omega
theorem MG.blk (o:MG X M m) (hn:0<m.nodes.length): ∃b x,M.no.a=some ⟨b,0,none⟩/\(b,x)∈X:=by
 have hl:=o.lens
 obtain⟨XN,XI,XE,XB,XH,rfl,a,_⟩:=o
 rcases a.2.2 with ⟨_,h0,_⟩|⟨b,ha,rfl⟩
 ·rw [h0]at hl;have:=hl.1;dsimp only at this;omega
 ·exact⟨b,_,ha,List.mem_append_left _ (.head _)⟩
end
structure DM (m:ah) (N:Nat):Prop where
 nodes:m.nodes.length<=N
 sorts: ∀n∈m.nodes,bO n.sort=true
 names: ∀n∈m.nodes,n.name.size<=100
 inits:m.inits.length<=N
 nexts:m.nexts.length<=N
 bads:m.bads.length<=N
 holds:m.holds.length<=N
theorem DM.small {m:ah} {N:Nat} (d:DM m N) (hN:N<=100000):bP m:=
 ⟨by have:=d.nodes;omega,by have:=d.inits;omega,by have:=d.nexts;omega,by have:=d.bads;omega,by have:=d.holds;omega,fun n hn=>by have:=d.names n hn;omega⟩
theorem Kn.tl {g h:Hp} {L:List (Nat×Blk)} {e:Nat×Blk} (K:Kn g h (e::L)):Kn g h L:=K.sub (fun x hx=> .tail _ hx) (by have:=K.nd;rw [List.map_cons,List.nodup_cons]at this;exact this.2)
theorem mr {s:SortP} (h:bO s=true):(0<=s.idx/\s.idx<=2)/\1<=s.wid/\s.wid<=16:=of_decide_eq_true h
section
variable {g h:Hp} {L L':List (Nat×Blk)} {b:Nat} {M M':MSl}
end
theorem Upd.app {L L' X:List (Nat×Blk)} {b:Nat} {x y:Blk} (u:Upd L b x y L'):Upd (L++X) b x y (L'++X):=by
 induction u with
 |head=>exact .head
 |tail _ ih=>exact .tail ih
inductive Pk {α:Type}:List α->α->List α->Prop
 |head {L:List α} {a:α}:Pk (a::L) a L
 |tail {L L':List α} {a e:α}:Pk L a L'->Pk (e::L) a (e::L')
theorem Pk.perm {α:Type} {L L':List α} {a:α} (u:Pk L a L'):L.Perm (a::L'):=by
 induction u with
 |head=>exact List.Perm.refl _
 |tail _ ih=>exact(List.Perm.cons _ ih).trans (List.Perm.swap ..)
structure DZ (m:ah) (N:Nat):Prop where
 nodes:m.nodes.length<=N
 names: ∀n∈m.nodes,n.name.size<=100
 inits:m.inits.length<=N
 nexts:m.nexts.length<=N
 bads:m.bads.length<=N
 holds:m.holds.length<=N
theorem DZ.small {m:ah} {N:Nat} (d:DZ m N) (hN:N<=100000):bP m:=
 ⟨by have:=d.nodes;omega,by have:=d.inits;omega,by have:=d.nexts;omega,by have:=d.bads;omega,by have:=d.holds;omega,fun n hn=>by have:=d.names n hn;omega⟩
theorem DZ.set {m:ah} {N i:Nat} (d:DZ m N) {n:NodeP} (h2:n.name.size<=100):DZ {m with nodes:=m.nodes.set i n} N:=
 ⟨by have:=d.nodes;simp;omega,fun x hx=>by rcases List.mem_or_eq_of_mem_set hx with hx|rfl;exact d.names x hx;exact h2,d.inits,d.nexts,d.bads,d.holds⟩
theorem pU {α:Type} {l:List α} {p:α->Bool} {i:Nat} {x:α} (h:l[i]?=some x) (e:p x=false):l.all p=false:=by
 rw [Bool.eq_false_iff]
 intro q
 rw [List.all_eq_true.1 q x (List.mem_of_getElem? h)]at e;cases e
theorem gD.out {h:Hp} {t:Sl} {vs:List (List Nat)} {X:List (Nat×Blk)} {s:Sl} {ts:List Sl} (e:gD h t vs) (he: ∀p,p<vs.length->0<(vs.getD p []).length) (o:bW X s 1 (ts.map Sl.v)) (m: ∀e∈X,h e.1=some e.2)
  (hts: ∀(j:Nat) (u:Sl),ts[j]?=some u-> ∃ws,(0<vs.length->0<ws.length)/\gD h u ws):gD (h.wo (X.map Prod.fst)) t vs:=by
 rcases o.2.2 with ⟨rfl,_,_⟩|⟨b,_,rfl⟩
 ·exact e.mono fun c x hc=>by simp [Hp.wo,hc]
 have hb:=m _ (.head _)
 have kp: ∀c,c≠b->(h.wo [b]) c=h c:=fun c hc=>by simp [Hp.wo,hc]
 refine⟨e.1,e.2.1,fun p hp=>?_⟩
 obtain⟨b',o',t',h1,h2,h3⟩:=e.2.2 p hp
 refine⟨b',o',t',h1,?_,h3.keepN hb (wj ts) kp⟩
 have hne:b'≠b:=by
  rintro rfl
  rw [av hb,List.getElem?_map,Option.map_eq_some_iff]at h2
  obtain⟨u,hu,hv⟩:=h2
  obtain⟨ws,hw,hpw⟩:=hts _ u hu
  obtain rfl:u=t':=by
   obtain⟨a1,a2,a3⟩:=u
   obtain⟨c1,c2,c3⟩:=t'
   cases hv;rfl
  obtain⟨b2,o2,u2,g1,g2,_⟩:=hpw.2.2 0 (hw (by omega))
  obtain⟨b3,o3,g3,g4,_⟩:=IntS.elt h3 (i:=0) (he p hp)
  rw [g1]at g3
  cases g3
  rw [g2]at g4
  cases g4
 unfold Hp.cell at h2⊢
 rw [show (Hp.wo h (List.map Prod.fst [(b,(Sum.inl ⟨ts.map Sl.v,s.c*1,false⟩:Blk))])) b'=h b' from kp b' hne]
 exact h2
theorem bW.one {X:List (Nat×Blk)} {s:Sl} {sz:Nat} {cs:List Value} (o:bW X s sz cs) (hn:s.n≠0): ∃b,s.a=some ⟨b,0,none⟩/\X= [(b, .inl ⟨cs,s.c*sz,false⟩)]:=by
 rcases o.2.2 with ⟨_,rfl,_⟩|h
 ·exact absurd rfl hn
 ·exact h
theorem Kn.ints {g h:Hp} {L:List (Nat×Blk)} {s:Sl} {b z:Nat} {ro:Bool} {xs:List Int} (K:Kn g h L) (m:(b, .inl ⟨xs.map I,z,ro⟩)∈L) (ha:s.a=some ⟨b,0,none⟩) (hn:xs.length=s.n) (hl:s.n<=1000000):IntS h s xs:=
 ⟨by omega,by rw [List.length_map,Nat.mul_one];exact hn, .inr ⟨b,0,ha,au (K.at m)⟩⟩
theorem Kn.cut {g h:Hp} {A L:List (Nat×Blk)} (K:Kn g h (A++L)): ∃g0,Kn g g0 A/\Kn g0 h L:=by
 have nd:=K.nd
 rw [List.map_append,List.nodup_append]at nd
 have KL:Kn g h L:=K.sub (fun e he=>List.mem_append_right _ he) nd.2.1
 refine⟨h.wo (L.map Prod.fst),⟨KL.leBase,fun e he=>?_,fun e he=>K.new e (List.mem_append_left _ he),nd.1⟩,KL.base⟩
 rw [tU fun hm=>nd.2.2 e.1 (List.mem_map.2 ⟨e,he,rfl⟩) e.1 hm rfl]
 exact K.mem e (List.mem_append_left _ he)
inductive Ord (ns:List Nd):Nat->List Nat->List Nat->Prop
 |leaf {r:Nat} {d:List Nat}:r<2->Ord ns r d d
 |seen {r:Nat} {d:List Nat}:2<=r->r∈d->Ord ns r d d
 |node {r:Nat} {d d1 d2:List Nat} {nd:Nd}:2<=r->r∉d->ns[r-2]?=some nd->Ord ns nd.lo d d1->Ord ns nd.hi d1 d2->Ord ns r d (d2++ [r])
theorem Kn.weak {g g0 h:Hp} {L:List (Nat×Blk)} (K:Kn g0 h L) (l:g.le g0):Kn g h L:=⟨Hp.le_trans l K.le,K.mem,fun e he=>aF l (K.new e he),K.nd⟩
theorem Ord.len {ns:List Nd} {r:Nat} {d o:List Nat} (h:Ord ns r d o):d.length<=o.length:=by
 induction h with
 |leaf=>exact Nat.le_refl _
 |seen=>exact Nat.le_refl _
 |node _ _ _ _ _ i1 i2=>rw [List.length_append];omega
theorem Upd.back {L L':List (Nat×Blk)} {b:Nat} {x y:Blk} (u:Upd L b x y L'): ∀A:List (Nat×Blk),Upd (A++L) b x y (A++L'):=by
 intro A
 induction A with
 |nil=>exact u
 |cons e A ih=>exact .tail ih
structure gX (Xs:List (List (Nat×Blk))) (ts:List Sl) (sz:Nat) (css:List (List Value)):Prop where
 l1:Xs.length=ts.length
 l2:css.length=ts.length
 at_: ∀(k:Nat) X t cs,Xs[k]?=some X->ts[k]?=some t->css[k]?=some cs->bW X t sz cs
theorem ub {α:Type} {Xs:List (List α)} {k:Nat} {X:List α} (h:Xs[k]?=some X):Xs.flatten=(Xs.take k).flatten++(X++(Xs.drop (k+1)).flatten):=by
 have hl:=get_lt h
 rw [List.getElem?_eq_getElem hl]at h
 conv=>lhs;rw [<-List.take_append_drop k Xs,List.flatten_append,List.drop_eq_getElem_cons hl,List.flatten_cons,Option.some.inj h]
theorem Jc {α:Type} {Xs:List (List α)} {k:Nat} (hk:k<Xs.length) (X':List α):(Xs.set k X').flatten=(Xs.take k).flatten++(X'++(Xs.drop (k+1)).flatten):=by
 have h:(Xs.set k X')[k]?=some X':=by rw [List.getElem?_set_self hk]
 rw [ub h,List.take_set_of_le (Nat.le_refl k),List.drop_set_of_lt (by omega)]
theorem gX.set {Xs:List (List (Nat×Blk))} {ts:List Sl} {sz:Nat} {css:List (List Value)} (o:gX Xs ts sz css) (k:Nat) {X:List (Nat×Blk)} {t:Sl} {cs:List Value} (g:bW X t sz cs):gX (Xs.set k X) (ts.set k t) sz (css.set k cs):=by
 refine⟨by simp [o.l1],by simp [o.l2],fun j Y u ds hY hu hd=>?_⟩
 by_cases e:k=j
 ·subst e
  have h1:=get_lt hY
  rw [List.length_set]at h1
  have e1:=o.l1
  have e2:=o.l2
  rw [List.getElem?_set_self h1]at hY
  rw [List.getElem?_set_self (by omega)]at hu hd
  cases hY;cases hu;cases hd
  exact g
 ·rw [List.getElem?_set_ne e]at hY hu hd
  exact o.at_ j Y u ds hY hu hd
theorem gX.get {Xs:List (List (Nat×Blk))} {ts:List Sl} {sz:Nat} {css:List (List Value)} (o:gX Xs ts sz css) {k:Nat} {t:Sl} {cs:List Value} (ht:ts[k]?=some t) (hc:css[k]?=some cs): ∃X,Xs[k]?=some X/\bW X t sz cs:=by
 obtain⟨X,hX⟩: ∃X,Xs[k]?=some X:=⟨_,List.getElem?_eq_getElem (by have:=get_lt ht;have:=o.l1;omega)⟩
 exact⟨X,hX,o.at_ k X t cs hX ht hc⟩
theorem Kn.growAt {g h:Hp} {A:List (Nat×Blk)} {Xs:List (List (Nat×Blk))} {ts:List Sl} {s:Sl} {sz by_ m k:Nat} {cs news:List Value} {css:List (List Value)} {src:Option Addr} {C:Option Addr->Nat->Nat->Hp->Prop}
  (K:Kn g h (A++Xs.flatten)) (o:gX Xs ts sz css) (ht:ts[k]?=some s) (hc:css[k]?=some cs) (hm:0<m) (hsz:(s.n+m)*by_<=140737488355328) (hsz':s.n+m<=9223372036854775807)
  (hs: ∃sb so,src=some ⟨sb,so,none⟩/\ii h sb so news) (hl:news.length=m*sz) (ho:news.all (·.oneCell')=true)
  (kk: ∀s' Xs' h',s'.n=s.n+m->gX Xs' (ts.set k s') sz (css.set k (cs++news))->Kn g h' (A++Xs'.flatten)->C s'.a s'.n s'.c h'):ck h s.a s.n s.c src m sz by_ C:=by
 obtain⟨X,hX,oX⟩:=o.get ht hc
 have hk:=get_lt hX
 rw [ub hX,<-List.append_assoc]at K
 refine Kn.growIn K oX hm hsz hsz' hs hl ho fun s' X' h' hn oX' K' _=>?_
 refine kk s' (Xs.set k X') h' hn (o.set k oX') ?_
 rw [Jc hk,<-List.append_assoc];exact K'
theorem gX.upd {Xs:List (List (Nat×Blk))} {ts:List Sl} {t:Sl} {k i:Nat} {cs:List Value} {css:List (List Value)} {v:Value} {A:List (Nat×Blk)} (o:gX Xs ts 1 css) (ht:ts[k]?=some t) (hc:css[k]?=some cs) (hi:i<cs.length):
  ∃b Xs',t.a=some ⟨b,0,none⟩/\gX Xs' ts 1 (css.set k (cs.set i v))/\Upd (A++Xs.flatten) b (.inl ⟨cs,t.c*1,false⟩) (.inl ⟨cs.set i v,t.c*1,false⟩) (A++Xs'.flatten):=by
 obtain⟨X,hX,oX⟩:=o.get ht hc
 have hk:=get_lt hX
 have hn:t.n≠0:=by have:=oX.1;omega
 obtain⟨b,ha,rfl⟩:=oX.one hn
 refine⟨b,Xs.set k [(b, .inl ⟨cs.set i v,t.c*1,false⟩)],ha,?_,?_⟩
 ·have:=o.set k (X:= [(b, .inl ⟨cs.set i v,t.c*1,false⟩)]) (t:=t) (cs:=cs.set i v) ⟨by rw [List.length_set];exact oX.1,oX.2.1, .inr ⟨b,ha,rfl⟩⟩
  rwa [show ts.set k t=ts from ?_]at this
  refine List.ext_getElem? fun j=>?_
  by_cases e:k=j
  ·subst e
   rw [List.getElem?_set_self (get_lt ht),ht]
  ·rw [List.getElem?_set_ne e]
 ·rw [ub hX,Jc hk]
  refine Upd.back ?_ A
  refine Upd.back ?_ _
  exact .head
theorem gX.keys {Xs Xs':List (List (Nat×Blk))} {b:Nat} {x y:Blk} {A:List (Nat×Blk)} (u:Upd (A++Xs.flatten) b x y (A++Xs'.flatten)):Xs'.flatten.map Prod.fst=Xs.flatten.map Prod.fst:=by
 have:=u.keys
 rw [List.map_append,List.map_append]at this
 exact List.append_cancel_left this
structure xL (X:List (Nat×Blk)) (s:Sl) (ds:List Bd) (XO:List (Nat×Blk)) (Xs:List (List (Nat×Blk))) (ts:List Sl):Prop where
 eq:X=XO++Xs.flatten
 l1:Xs.length=ts.length
 l2:ds.length=ts.length
 out:bW XO s 3 ((ts.zip ds).flatMap fun e=> [I e.2.v,e.1.v,I e.2.r])
 inn: ∀(k:Nat) Y t d,Xs[k]?=some Y->ts[k]?=some t->ds[k]?=some d->k8 Y t 3 (cP d.ns)
abbrev fh (m:ah):Nat:=am m.nodes 36+am m.nodes 35
def qe (m:ah) (at_ k c:Nat):Bool:=(((bR m (c%2^am m.nodes 36) (c/2^am m.nodes 36)).getD at_ []).getD (k/bG m.nodes at_) 0).testBit (k%bG m.nodes at_)
def sq (m:ah) (at_:Nat):List Bd:=(List.range (nbA m.nodes at_)).map fun k=>dY (fh m:Nat) (qe m at_ k)
def i7 (m:ah) (x:Int):Bool:=decide (aD m=0)&&(decide (0<=x/\x<=(m.nodes.length:Int)-1)&&(sq m x.toNat).all (·.ok))
def rf (m:ah) (x:Int):List Bd:=if i7 m x then sq m x.toNat else []
theorem I9 {m:ah} {x:Int} (h:i7 m x=false):rf m x= []:=by unfold rf;rw [h];rfl
theorem Jw {m:ah} (g:cC m) {p:Nat} (hp:p<m.nodes.length):nbA m.nodes p<=64/\1<=bG m.nodes p/\bG m.nodes p<=16:=by
 obtain⟨h1,h2⟩:=(mr (qY g.ok hp)).2
 have hw:bG m.nodes p=(az m.nodes p).wid.toNat:=rfl
 have hc:=cZ m.nodes p
 refine⟨?_,by omega,by omega⟩
 unfold nbA
 have:=Nat.mul_le_mul (show bG m.nodes p<=16 by omega) hc
 omega
theorem IntS.woN {h:Hp} {t:Sl} {xs:List Int} {L:List (Nat×Blk)} (e:IntS h t xs) (m: ∀x∈L,h x.1=some x.2) (hn: ∀x∈L,∃cs z ro,x.2= .inl ⟨cs,z,ro⟩/\ww cs):IntS (h.wo (L.map Prod.fst)) t xs:=by
 refine⟨e.1,e.2.1,?_⟩
 rcases e.2.2 with h0|⟨b,o,ha,hc⟩
 ·exact .inl h0
 by_cases hx:xs= []
 ·subst hx
  exact .inl (by have:=e.len;simpa using this)
 refine .inr ⟨b,o,ha,fun i v hv=>?_⟩
 have hne:b∉L.map Prod.fst:=by
  intro hm
  obtain⟨y,hy,rfl⟩:=List.mem_map.1 hm
  obtain⟨cs,z,ro,hr,hno⟩:=hn y hy
  have hb:=m y hy
  rw [hr]at hb
  obtain⟨x,xs',rfl⟩:=List.exists_cons_of_ne_nil hx
  have:=hc 0 (I x) rfl
  rw [av hb]at this
  exact hno _ _ this
 have:=hc i v hv
 unfold Hp.cell at this⊢
 rw [tU hne];exact this
def Es (f:Nat->Nat->Bool) (K code k:Nat):List (List Value):=(List.range K).map fun j=>(List.range (if j<k then code+1 else code)).map fun c=> .bool (f j c)
theorem tE {f:Nat->Nat->Bool} {K code k j:Nat} (h:j<K):(Es f K code k)[j]?=some ((List.range (if j<k then code+1 else code)).map fun c=> .bool (f j c)):=by
 unfold Es;rw [List.getElem?_map,List.getElem?_range h];rfl
theorem zv (f:Nat->Nat->Bool) (K code k:Nat):(Es f K code k).length=K:=by unfold Es;rw [List.length_map,List.length_range]
theorem V1 {f:Nat->Nat->Bool} {K code k:Nat} (h:k<K):(Es f K code k).set k ((List.range code).map (fun c=> .bool (f k c))++ [.bool (f k code)])=Es f K code (k+1):=by
 refine List.ext_getElem? fun j=>?_
 by_cases hj:j<K
 ·by_cases e:k=j
  ·subst e
   rw [List.getElem?_set_self (by rw [zv];exact h),tE h,if_pos (by omega),List.range_succ,List.map_append];rfl
  ·rw [List.getElem?_set_ne e,tE hj,tE hj]
   by_cases h2:j<k
   ·rw [if_pos h2,if_pos (by omega)]
   ·rw [if_neg h2,if_neg (by omega)]
 ·rw [List.getElem?_eq_none (by rw [List.length_set,zv];omega),List.getElem?_eq_none (by rw [zv];omega)]
theorem Yt (f:Nat->Nat->Bool) (K code:Nat):Es f K code K=Es f K (code+1) 0:=by
 unfold Es
 refine List.map_congr_left fun j hj=>?_
 rw [if_pos (List.mem_range.1 hj),if_neg (by omega)]
theorem Fw (n:Nat) (f:Nat->Bool):ww ((List.range n).map fun c=> .bool (f c)):=by
 intro j i h
 rw [List.getElem?_map,Option.map_eq_some_iff]at h
 obtain⟨x,_,e⟩:=h
 cases e
theorem T5 {Xs:List (List (Nat×Blk))} {ts:List Sl} {f:Nat->Nat->Bool} {K code k b z:Nat} (o:gX Xs ts 1 (Es f K code k)): ∀x∈((b,(Sum.inl ⟨ts.map Sl.v,z,false⟩:Blk))::Xs.flatten),∃cs z ro,x.2= .inl ⟨cs,z,ro⟩/\ww cs:=by
 intro x hx
 rcases List.mem_cons.1 hx with rfl|hx
 ·exact⟨_,_,_,rfl,wj ts⟩
 ·obtain⟨X,hX,hm⟩:=List.mem_flatten.1 hx
  obtain⟨j,hj⟩:=List.getElem?_of_mem hX
  have e1:=o.l1
  have e2:=o.l2
  have hjl:=get_lt hj
  obtain⟨t,ht⟩: ∃t,ts[j]?=some t:=⟨_,List.getElem?_eq_getElem (by omega)⟩
  have hc:=tE (f:=f) (code:=code) (k:=k) (show j<K by rw [zv]at e2;omega)
  rcases (o.at_ j X t _ hj ht hc).2.2 with ⟨rfl,_⟩|⟨b',_,rfl⟩
  ·cases hm
  ·rw [List.mem_singleton.1 hm]
   exact⟨_,_,_,rfl,Fw _ _⟩
theorem Gd :xL [] ⟨none,0,0⟩ [] [] [] []:=⟨rfl,rfl,rfl,cv 3,fun k Y t d h=>by simp at h⟩
theorem xL.snoc {X XO Y:List (Nat×Blk)} {Xs:List (List (Nat×Blk))} {ts:List Sl} {s s' t:Sl} {ds:List Bd} {d:Bd} {XO':List (Nat×Blk)} (o:xL X s ds XO Xs ts) (oY:k8 Y t 3 (cP d.ns))
  (oO:bW XO' s' 3 (((ts.zip ds).flatMap fun e=> [I e.2.v,e.1.v,I e.2.r])++ [I d.v,t.v,I d.r])):xL (XO'++(Xs++ [Y]).flatten) s' (ds++ [d]) XO' (Xs++ [Y]) (ts++ [t]):=by
 refine⟨rfl,by simp [o.l1],by simp [o.l2],?_,fun k Z u e hZ hu he=>?_⟩
 ·rw [List.zip_append o.l2.symm,List.flatMap_append]
  simpa using oO
 ·have e1:=o.l1
  have e2:=o.l2
  by_cases hk:k<ts.length
  ·rw [List.getElem?_append_left (by omega)]at hZ hu he
   exact o.inn k Z u e hZ hu he
  ·have:=get_lt hu
   simp at this
   obtain rfl:k=ts.length:=by omega
   rw [List.getElem?_append_right (by omega),show ts.length-Xs.length=0 by omega]at hZ
   rw [List.getElem?_append_right (Nat.le_refl _),Nat.sub_self]at hu
   rw [List.getElem?_append_right (by omega),show ts.length-ds.length=0 by omega]at he
   simp at hZ hu he
   subst hZ;subst hu;subst he
   exact oY
theorem EB {m:ah} {a k:Nat} (h:k<nbA m.nodes a):(sq m a)[k]?=some (dY (fh m:Nat) (qe m a k)):=by unfold sq;rw [List.getElem?_map,List.getElem?_range h];rfl
theorem qB (m:ah) (a:Nat):(sq m a).length=nbA m.nodes a:=by unfold sq;rw [List.length_map,List.length_range]
theorem qw {α:Type} {l:List α} {i:Nat} {x:α} (h:l[i]?=some x):l.take (i+1)=l.take i++ [x]:=by rw [List.take_add_one,h];rfl
set_option maxHeartbeats 4000000 in
theorem uu {h:Hp} {M:MSl} {m:ah} {x:Int} {R:Value->Hp->Prop} (hs:aM h M m) (hm:bP m)
  (k: ∀s h' X XO Xs ts,Kn h h' X->xL X s (rf m x) XO Xs ts->R (.tuple #[Sl.v s, .bool (i7 m x)]) h'):nr #[aQ M,I x] h R:=by
 apply FD
 refine uf_ ?_
 (with_reducible apply Kn.al);(exact Kn.nil h);(intro b8 h1 K1 l1 hb8)
 have hnn:=hs.nodes.len
 have hns:=hm.nodes
 have no: ∀{h':Hp},i7 m x=false->h.le h'->R (.tuple #[.slice none 0 0, .bool false]) h':=by
  intro h' e l
  have:=k ⟨none,0,0⟩ h' [] [] [] [] (Kn.of l) (by rw [I9 e];exact Gd)
  rw [e]at this
  exact this
 refine aq (fun J=> ∀c,(c=true->i7 m x=false)->(c=false->aD m=0/\0<=x/\x<m.nodes.length)->J c h1) (fun c hc1 hc2=>ad (fun e=>no (hc1 e) l1) (fun e=>?_)) (fun J hJ=>?_)
 rotate_left
 ·repeat' (refine kr_ ?_)
  refine cf (hs.mono l1) hm ⟨_,rfl,ad (fun e=>hJ _ (fun _=>?_) (fun e=>nomatch e)) (fun e=>?_)⟩
  ·unfold i7
   rw [decide_eq_false (jT e),Bool.false_and]
  (refine kr_ ?_)
  rw [hnn,bQ (by omega) (by omega)]
  refine dM ⟨_,rfl,hJ _ (fun q=>?_) (fun q=>?_)⟩
  ·unfold i7
   rw [Bool.not_eq_true']at q
   rw [q,Bool.false_and,Bool.and_false]
  ·rw [Bool.not_eq_false']at q
   have:=of_decide_eq_true q
   exact⟨ja e,by omega,by omega⟩
 obtain⟨hc,x0,x1⟩:=hc2 e
 clear hc1 hc2 e c
 obtain⟨a,rfl⟩: ∃a:Nat,x=a:=⟨x.toNat,by omega⟩
 have ha:a<m.nodes.length:=by omega
 have g:=cH hc
 have n8:=g.n8
 have k5:=g.k5
 obtain⟨hK,hw1,hw2⟩:=Jw g ha
 have hok:i7 m (a:Nat)=(sq m a).all (·.ok):=by
  unfold i7
  rw [decide_eq_true hc,decide_eq_true ⟨by omega,by omega⟩,Bool.true_and,Bool.true_and,Int.toNat_natCast]
 have hR:i7 m (a:Nat)=true->rf m (a:Nat)=sq m a:=fun e=>by unfold rf;rw [e,if_pos rfl,Int.toNat_natCast]
 have hp13:2^fh m<=2^13:=Nat.pow_le_pow_right (by omega) (by unfold fh;omega)
 repeat' (refine kr_ ?_)
 refine g9 (hs.mono l1) hm ⟨_,rfl,?_⟩
 repeat' (refine kr_ ?_)
 refine g9 (hs.mono l1) hm ⟨_,rfl,?_⟩
 repeat' (refine kr_ ?_)
 obtain⟨bn,on,han,hpn',c6,c7,w1,w16⟩:=(hs.mono l1).nodes.sortc2 ha g.ok
 refine⟨bn,on,han,by omega,hpn',_,c6,_,c7,?_⟩
 refine Kn.al K1 fun b50 h2 K2 l2 hb50=>?_
 refine kw_ ?_
 intro h3 K3 _
 simp only [cl,List.set_cons_zero,List.set_cons_succ,Nat.zero_add,Nat.reduceAdd]at K3
 clear K1 K2 c6 c7 han hpn'
 repeat' (refine kr_ ?_)
 refine iR ⟨_,rfl,?_⟩
 have e1:dx ⟨(az m.nodes a).idx,(bG m.nodes a:Nat)⟩=nbA m.nodes a:=by
  unfold dx nbA
  rw [mW g.ok ha,Int.toNat_natCast,Nat.mul_comm]
 rw [e1]
 refine⟨by omega,by omega,by omega,by omega,?_⟩
 rw [Int.toNat_natCast,Nat.mul_one,cr]
 have f8:=K3.at (b:=b8) (by((focus ((repeat first|exact .head _|apply List.Mem.tail);done))))
 have f50:=K3.at (b:=b50) (by((focus ((repeat first|exact .head _|apply List.Mem.tail);done))))
 have hs3:=hs.mono K3.le
 have l03:=K3.le
 have x8:=bV f8
 have x50:=bV f50
 clear K3
 (with_reducible apply Kn.al);(exact Kn.nil h3);(intro b61 h4 K4 l4 hb61)
 rw [show W (((am m.nodes 36:Nat):Int)+((am m.nodes 35:Nat):Int))=((fh m:Nat):Int) by rw [bQ (by omega) (by omega)];show _=((am m.nodes 36+am m.nodes 35:Nat):Int);omega]
 have hv13:fh m<=13:=by show am m.nodes 36+am m.nodes 35<=13;omega
 have z0:gX (List.replicate (nbA m.nodes a) []) (List.replicate (nbA m.nodes a) ⟨none,0,0⟩) 1 (Es (qe m a) (nbA m.nodes a) 0 0):=by
  refine⟨by simp,by rw [zv];simp,fun j X t cs hX ht hcs=>?_⟩
  have hj:=get_lt hX
  rw [List.length_replicate]at hj
  rw [tE hj,if_neg (by omega)]at hcs
  rw [List.getElem?_replicate,if_pos hj]at hX ht
  cases hX;cases ht;cases hcs
  exact cv 1
 refine ar (2^fh m) (fun c vs h'=> ∃(ts:List Sl) (Xs:List (List (Nat×Blk))),vs= [I (a:Nat), .pointer (some ⟨b8,0,none⟩),I (fh m:Nat), .pointer (some ⟨b50,0,none⟩),(arr b61 (nbA m.nodes a)).v,I (c:Nat)]/\ts.length=nbA m.nodes a/\
  Kn h3 h' ((b61, .inl ⟨ts.map Sl.v,nbA m.nodes a,false⟩)::Xs.flatten)/\gX Xs ts 1 (Es (qe m a) (nbA m.nodes a) c 0))
  ⟨List.replicate (nbA m.nodes a) ⟨none,0,0⟩,List.replicate (nbA m.nodes a) [],rfl,by simp,by simpa using K4,z0⟩ ?_
 clear K4 l4 hb61 h4 z0
 rintro c _ h4 next hci ⟨ts,Xs,rfl,htl,K4,oX⟩ hnx
 refine⟨_,b8,0,_,b50,0,arr b61 (nbA m.nodes a),_,rfl,?_⟩
 rw [cQ (by omega),if_neg (by omega),cg (by omega)]
 by_cases hlt:c<2^fh m
 ·refine aL (decide_eq_true (by omega)) ?_
  repeat' (refine kr_ ?_)
  refine AR (hs3.mono K4.le) hm g hlt fun vt h5 l5 hvn hpv _=>⟨_,rfl,?_⟩
  have K5:=K4.mono l5
  obtain⟨bv,ov,u,hav,hvn',hcv,hu⟩:=hpv.at (p:=(a:Nat)) (by omega) (by rw [(dk g _ _).len];omega)
  rw [Int.toNat_natCast]at hu
  refine⟨bv,ov,hav,by omega,hvn',u,hcv,?_⟩
  have hu2:=hu.woN (fun e he=>K5.mem e he) (T5 oX)
  have lB:=K5.leBase
  have KB:=K5.base
  clear K4 K5 hpv hcv hav hu
  generalize h5.wo (((b61,(Sum.inl ⟨ts.map Sl.v,nbA m.nodes a,false⟩:Blk))::Xs.flatten).map Prod.fst)=g5 at*
  have hcell: ∀q,q<nbA m.nodes a->q/bG m.nodes a<aE m.nodes a:=fun q hq=>by
   unfold nbA at hq
   exact Nat.div_lt_of_lt_mul hq
  have aV:=dk g (c%2^am m.nodes 36) (c/2^am m.nodes 36)
  have hfit:=oJ g.ok ha (aV.fit a ha ha)
  have hun:=hu2.len
  rw [aY,hfit.1]at hun
  refine Kn.al KB fun b91 h6 K6 l6 hb91=>?_
  clear KB
  refine kw_ ?_
  intro h7 K7 _
  simp only [cl,List.set_cons_zero,List.set_cons_succ,Nat.zero_add,Nat.reduceAdd]at K7
  clear K6 l6 hb91
  have f8g:=lB _ _ f8
  have f50g:=lB _ _ f50
  have x50g:=bV f50g
  refine ar (nbA m.nodes a) (fun q vs h'=> ∃(ts:List Sl) (Xs:List (List (Nat×Blk))),vs= [I (a:Nat), .pointer (some ⟨b8,0,none⟩),I (fh m:Nat), .pointer (some ⟨b50,0,none⟩),(arr b61 (nbA m.nodes a)).v,I (c:Nat), .pointer (some ⟨b91,0,none⟩),I (q:Nat)]/\ts.length=nbA m.nodes a/\
   Kn g5 h' ((b91, .inl ⟨[u.v],1,false⟩)::(b61, .inl ⟨ts.map Sl.v,nbA m.nodes a,false⟩)::Xs.flatten)/\gX Xs ts 1 (Es (qe m a) (nbA m.nodes a) c q)) ⟨ts,Xs,rfl,htl,K7,oX⟩ ?_
  clear K7 oX htl ts Xs
  rintro q _ h8 next2 hq ⟨ts,Xs,rfl,htl,K8,oX⟩ hnx2
  refine⟨_,b8,0,_,b50,0,arr b61 (nbA m.nodes a),_,b91,0,_,rfl,?_⟩
  by_cases hlq:q<nbA m.nodes a
  rotate_left
  ·refine aA (decide_eq_false (by show¬_<((nbA m.nodes a:Nat):Int);omega)) ?_
   obtain rfl:q=nbA m.nodes a:=by omega
   rw [aw (by omega)]
   rw [Yt]at oX
   exact hnx hlt _ _ ⟨ts,Xs,rfl,htl,K8.tl.weak lB,oX⟩
  refine aL (decide_eq_true (by show _<((nbA m.nodes a:Nat):Int);omega)) ?_
  obtain⟨t,ht⟩: ∃t,ts[q]?=some t:=⟨_,List.getElem?_eq_getElem (by omega)⟩
  refine⟨b61,0,rfl,by omega,by show _<((nbA m.nodes a:Nat):Int);omega,?_⟩
  refine⟨t,by rw [av (K8.at (.tail _ (.head _))),Int.toNat_natCast,Nat.zero_add,Nat.mul_one,List.getElem?_map,ht];rfl,?_⟩
  repeat' (refine kr_ ?_)
  rw [if_neg (by omega)]
  have hq1:W (Int.tdiv (q:Int) (bG m.nodes a:Nat))=((q/bG m.nodes a:Nat):Int):=by
   rw [tm,fj]
   have:=Nat.div_le_self q (bG m.nodes a)
   omega
  rw [hq1]
  have hqc:=hcell q hlq
  obtain⟨bu,ou,hau,hcu,hiu⟩:=(hu2.mono K8.le).elt (i:=q/bG m.nodes a) (by rw [hfit.1];exact hqc)
  refine⟨bu,ou,hau,Int.natCast_nonneg _,Int.ofNat_lt.2 (by rw [hun];exact hqc),_,by rw [Int.toNat_natCast];exact hcu,?_⟩
  repeat' (refine kr_ ?_)
  rw [if_neg (by omega),ee]
  refine iQ (by have:=Nat.mod_lt q (show 0<bG m.nodes a by omega);omega) ⟨_,rfl,?_⟩
  repeat' (refine kr_ ?_)
  refine Kn.al K8 fun b128 h9 K9 l9 hb128=>?_
  repeat' (refine kr_ ?_)
  clear K8
  have f128:=K9.at (.head _)
  have hbit:qe m a q c=(((bR m (c%2^am m.nodes 36) (c/2^am m.nodes 36)).getD a []).getD (q/bG m.nodes a) 0).testBit (q%bG m.nodes a):=rfl
  have hval:((if(((bR m (c%2^am m.nodes 36) (c/2^am m.nodes 36)).getD a []).getD (q/bG m.nodes a) 0).testBit (q%bG m.nodes a)=true then(1:Int)else 0)==1)=qe m a q c:=by
   rw [hbit]
   cases (((bR m (c%2^am m.nodes 36) (c/2^am m.nodes 36)).getD a []).getD (q/bG m.nodes a) 0).testBit (q%bG m.nodes a)<;>rfl
  rw [hval]at f128 K9
  have hcq:=tE (f:=qe m a) (code:=c) (k:=q) hlq
  rw [if_neg (by omega)]at hcq
  have htn:t.n=c:=by
   obtain⟨X,_,oXq⟩:=oX.get ht hcq
   have:=oXq.1
   simp at this;omega
  refine Kn.growAt (A:= [_,_,_]) K9 oX ht hcq (by omega) (by omega) (by omega) ⟨b128,0,rfl,au f128⟩ rfl rfl fun t' Xs' h10 hn' oX' K10=>?_
  rw [V1 hlq]at oX'
  simp only [List.cons_append,List.nil_append]at K10
  replace K10:=K10.tl
  clear K9 oX f128
  refine⟨b61,0,rfl,by omega,by show _<((nbA m.nodes a:Nat):Int);omega,?_⟩
  rw [show (0+Int.toNat (q:Int)*1)=q by simp]
  (((with_reducible apply Kn.wr);(assumption);((focus ((repeat first|exact .head|apply Upd.tail);done)))))
  ·rw [List.length_map];omega
  intro h11 K11 _
  rw [bD,show (Value.slice t'.a t'.n t'.c)=Sl.v t' from rfl,<-List.map_set]at K11
  rw [aw (by omega)]
  exact hnx2 hlq _ _ ⟨ts.set q t',Xs',rfl,by rw [List.length_set];exact htl,K11,oX'⟩
 obtain rfl:c=2^fh m:=by omega
 refine aA (decide_eq_false (by omega)) ?_
 clear hnx hlt hci
 have l04:=Hp.le_trans l03 K4.le
 have hT: ∀q t,ts[q]?=some t->eF h4 t (2^fh m) (qe m a q):=by
  intro q t ht
  have hql:=get_lt ht
  have hcq:=tE (f:=qe m a) (code:=2^fh m) (k:=0) (show q<nbA m.nodes a by omega)
  rw [if_neg (by omega)]at hcq
  obtain⟨X,hX,oXq⟩:=oX.get ht hcq
  have hn:=oXq.1
  simp at hn
  have:=(oXq.buf fun e he=>K4.mem e (.tail _ (List.mem_flatten.2 ⟨X,List.mem_of_getElem? hX,he⟩))).slc_of (by omega)
  unfold eF rv
  rw [List.map_map]
  exact this
 have f61:=K4.at (.head _)
 clear K4 oX Xs
 refine ar (nbA m.nodes a) (fun q vs h'=> ∃(s:Sl) (X XO:List (Nat×Blk)) (Xs:List (List (Nat×Blk))) (us:List Sl),vs= [I (fh m:Nat),(arr b61 (nbA m.nodes a)).v,s.v,I (q:Nat)]/\Kn h4 h' X/\xL X s ((sq m a).take q) XO Xs us/\((sq m a).take q).all (·.ok)=true)
  ⟨⟨none,0,0⟩, [], [], [], [],rfl,Kn.nil h4,Gd,rfl⟩ ?_
 rintro q _ h5 next hq ⟨s,X,XO,Xs,us,rfl,K5,oB,hall⟩ hnx
 refine⟨_,arr b61 (nbA m.nodes a),s,_,rfl,?_⟩
 by_cases hlq:q<nbA m.nodes a
 rotate_left
 ·refine aA (decide_eq_false (by show¬_<((nbA m.nodes a:Nat):Int);omega)) ?_
  rw [List.take_of_length_le (by rw [qB];omega)]at oB hall
  have e:=hok.trans hall
  have:=k s h5 X XO Xs us (K5.weak l04) (by rw [hR e];exact oB)
  rwa [e]at this
 refine aL (decide_eq_true (by show _<((nbA m.nodes a:Nat):Int);omega)) ?_
 obtain⟨t,ht⟩: ∃t,ts[q]?=some t:=⟨_,List.getElem?_eq_getElem (by omega)⟩
 have hd:=EB (m:=m) (a:=a) hlq
 refine⟨b61,0,rfl,by omega,by show _<((nbA m.nodes a:Nat):Int);omega,t,by rw [av (K5.le _ _ f61),Int.toNat_natCast,Nat.zero_add,Nat.mul_one,List.getElem?_map,ht];rfl,?_⟩
 refine We hv13 ((hT q t ht).mono K5.le) fun w h6 l6 ow=>⟨_,_,_,_,rfl,?_⟩
 have htk:=qw hd
 generalize dY (fh m:Nat) (qe m a q)=d at*
 obtain⟨Y,oY,K6⟩:=K5.addOwn l6 ow
 clear K5
 refine Kn.al K6 fun b164 h7 K7 l7 hb164=>?_
 clear K6
 refine kw_ ?_
 intro h8 K8 _
 simp only [cl,List.set_cons_zero,List.set_cons_succ,Nat.zero_add,Nat.reduceAdd]at K8
 clear K7
 refine ad (fun e=>no ?_ (Hp.le_trans l04 K8.le)) (fun e=>?_)
 ·rw [Bool.not_eq_true']at e
  rw [hok]
  exact pU hd e
 rw [Bool.not_eq_false']at e
 repeat' (refine kr_ ?_)
 refine Kn.al K8 fun b176 h9 K9 l9 hb176=>?_
 clear K8
 have f176:=K9.at (.head _)
 rw [oB.eq]at K9
 rw [List.append_assoc]at K9
 have lens:=oB.out.1
 have e1:=oB.l2
 rw [List.length_take,qB]at e1
 refine Kn.growIn (A:= [_,_]) K9 oB.out (by omega) ?_ ?_ ⟨b176,0,rfl,au f176⟩ rfl rfl fun s' XO' h10 hn' oO' K10 l10=>?_
 ·rw [ce (m:=3) (fun _=>rfl),List.length_zip]at lens
  have:=oB.l2
  omega
 ·rw [ce (m:=3) (fun _=>rfl),List.length_zip]at lens
  have:=oB.l2
  omega
 rw [aw (by omega)]
 refine hnx hlq _ _ ⟨s',XO'++(Xs++ [Y]).flatten,XO',Xs++ [Y],us++ [w],rfl,?_,?_,?_⟩
 ·have:=K10.tl.tl
  rw [List.flatten_append,List.flatten_cons,List.flatten_nil,List.append_nil]
  exact this
 ·rw [htk];exact oB.snoc oY oO'
 ·rw [htk,List.all_append,hall];simp [e]
end Go.Lead
