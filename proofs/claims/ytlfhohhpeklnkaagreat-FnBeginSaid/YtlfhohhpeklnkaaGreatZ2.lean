/- What functions of the program and of the reference come to, walked one by one, and plain laws about it: part 3. No condition is added to the statement. -/
import Derived.Test.YtlfhohhpeklnkaaGreatZ1
namespace Go.Lead
open Go
set_option linter.unusedSimpArgs false
set_option linter.unusedVariables false
set_option maxRecDepth 100000
set_option maxHeartbeats 1000000
def VL (v:List Nat):List Int:=v.map fun(x:Nat)=>(x:Int)
theorem aY (v:List Nat):(VL v).length=v.length:=by simp [VL]
theorem aaj {v:List Nat} {i:Nat} (h:i<v.length):(VL v)[i]?=some ((v.getD i 0:Nat):Int):=by
 rw [List.getD_eq_getElem?_getD,List.getElem?_eq_getElem h];simp [VL,h]
theorem H4 {a b:List Nat}:VL a=VL b↔a=b:=by
 constructor
 ·intro h
  apply List.ext_getElem
  ·have:=congrArg List.length h;simpa [VL] using this
  ·intro i h1 h2
   have:=congrArg (fun l:List Int=>l[i]?) h
   simp only [VL,List.getElem?_map,List.getElem?_eq_getElem h1,List.getElem?_eq_getElem h2,Option.map_some,Option.some.injEq]at this
   omega
 ·rintro rfl;rfl
def gE (h:Hp) (s:Sl) (vs:List (List Nat)):Prop:=
 vs.length<=s.n/\s.n<=1048576/\ ∀p,p<vs.length-> ∃b o t,s.a=some (Addr.mk b o none)/\Hp.cell h b (o+p*1)=some (Sl.v t)/\IntS h t (VL (vs.getD p []))
theorem gE.mono {h h':Hp} {s:Sl} {vs:List (List Nat)} (l:h.le h') (e:gE h s vs):gE h' s vs:=
 ⟨e.1,e.2.1,fun p hp=>by
  obtain⟨b,o,t,h1,h2,h3⟩:=e.2.2 p hp
  exact⟨b,o,t,h1,l.cell h2,h3.mono l⟩⟩
theorem IntS.elt {h:Hp} {t:Sl} {v:List Nat} (e:IntS h t (VL v)) {i:Nat} (hi:i<v.length): ∃b o,t.a=some (Addr.mk b o none)/\Hp.cell h b (o+i*1)=some (I (v.getD i 0:Nat))/\i<t.n:=
 have ⟨b,o,h1,h2⟩:=e.get (aaj hi)
 ⟨b,o,h1,h2,by have:=e.len;rw [aY]at this;omega⟩
theorem gE.at {h:Hp} {s:Sl} {vs:List (List Nat)} (e:gE h s vs) {p:Int} (h0:0<=p) (hp:p<vs.length):
  ∃b o t,s.a=some (Addr.mk b o none)/\p<(s.n:Int)/\Hp.cell h b (o+p.toNat*1)=some (Sl.v t)/\IntS h t (VL (vs.getD p.toNat [])):=by
 obtain⟨b,o,t,h1,h2,h3⟩:=e.2.2 p.toNat (by omega)
 exact⟨b,o,t,h1,by have:=e.1;omega,h2,h3⟩
theorem uz {h:Hp} {b z:Nat} {s:Sl} {vs:List (List Nat)} {p:Int} {R:Value->Hp->Prop} (hv:gE h s vs) (h0:0<=p) (hp:p<vs.length) (hne:0<(vs.getD p.toNat []).length)
  (f:h b=some (.inl ⟨[s.v],z,false⟩)) (k:R (I (cB vs p)) h):cl #[I p, .pointer (some ⟨b,0,none⟩)] h R:=by
 apply yD
 refine uf_ ?_
 (refine az ?_)
 obtain⟨b',o,t,ha,hlt,hc,ht⟩:=hv.at h0 hp
 refine⟨b',o,ha,h0,hlt,t,hc,?_⟩
 obtain⟨b2,o2,ha2,hc2,hl2⟩:=ht.elt hne
 exact⟨b2,o2,ha2,by omega,by omega,_,hc2,k⟩
theorem IR {h:Hp} {x:Int} {R:Value->Hp->Prop} (k: ∀t h',h.le h'->IntS h' t [x]->R (.agg #[Sl.v t]) h'):cK #[I x] h R:=by
 apply xB
 refine uf_ ?_
 refine aj fun b3 h1 hb3 l1 f3=>?_
 refine aj fun b6 h2 hb6 l2 f6=>?_
 have ne:=fresh_ne hb6 f3
 (with_reducible apply bZ);(exact l2 _ _ f3);(exact Hp.le_trans l1 l2);(exact hb3);(exact Nat.le_refl 1)
 intro h3 g3 kp l3
 refine⟨⟨some ⟨b6,0,none⟩,1,1⟩,by rw [aq g3];rfl,k _ h3 l3 ?_⟩
 exact⟨by dsimp only;omega,rfl, .inr ⟨b6,0,rfl,ay (cm kp ne.symm f6)⟩⟩
theorem yz {h:Hp} {s t:Sl} {xs ys:List Int} {R:Value->Hp->Prop} (hs:IntS h s xs) (ht:IntS h t ys) (hl:xs.length<=1048576)
  (k:R (.bool (decide (xs=ys))) h):gw #[s.v,t.v] h R:=by
 apply uZ
 refine uf_ ?_
 have hn:=hs.len
 have hm:=ht.len
 refine ac (fun e=>dr ?_ k) (fun e=>?_)
 ·have: ¬(s.n:Int)=t.n:=hR e
  symm;rw [decide_eq_false_iff_not]
  rintro rfl;omega
 have hnm:xs.length=ys.length:=by have:=fS e;omega
 refine av xs.length (fun i vs h'=>vs= [s.v,t.v,I s.n,I i]/\h'=h/\xs.take i=ys.take i) ⟨rfl,rfl,by simp⟩ ?_
 rintro i _ h' next hi ⟨rfl,rfl,hg⟩ hnx
 refine⟨s,t,_,_,rfl,?_⟩
 by_cases hlt:i<xs.length
 ·refine aM (by simp;omega) ?_
  obtain⟨b,o,ha,hc⟩:=hs.get (List.getElem?_eq_getElem hlt)
  obtain⟨b2,o2,ha2,hc2⟩:=ht.get (List.getElem?_eq_getElem (show i<ys.length by omega))
  refine⟨b,o,ha,by omega,by omega,b2,o2,ha2,by omega,by omega,_,hc,_,hc2,?_⟩
  refine ac (fun e=>dr ?_ k) (fun e=>?_)
  ·symm;rw [decide_eq_false_iff_not]
   rintro rfl;exact hR e rfl
  ·rw [aC (by omega)]
   exact hnx hlt _ _ ⟨rfl,rfl,CT hlt (by omega) hg (fS e)⟩
 ·refine aE (by simp;omega) (dr ?_ k)
  symm;rw [decide_eq_true_iff]
  rwa [List.take_of_length_le (by omega),List.take_of_length_le (by omega)]at hg
theorem IntS.keep {h h':Hp} {t:Sl} {xs:List Int} {b z:Nat} {a:Option Addr} {n c:Nat} (e:IntS h t xs) (f:h b=some (.inl ⟨[.slice a n c],z,false⟩)) (kp: ∀c,c≠b->h' c=h c):IntS h' t xs:=by
 refine⟨e.1,e.2.1,?_⟩
 rcases e.2.2 with h0|⟨b',o,ha,hc⟩
 ·exact .inl h0
 ·by_cases h0:t.n=0
  ·exact .inl h0
  refine .inr ⟨b',o,ha,fun i v hv=>?_⟩
  have hne:b'≠b:=by
   rintro rfl
   have hlen:=e.len
   have hx:(xs.map I)[0]?=some (I (xs[0]'(by omega))):=by simp
   have:=hc 0 _ hx
   rw [aq f]at this
   generalize o+0=j at this
   cases j with
   |zero=>simp at this
   |succ j=>simp at this
  have:=hc i v hv
  unfold Hp.cell at this⊢
  rw [kp b' hne];exact this
theorem O5 {h:Hp} {l:List NodeP} {i:Nat} {n:NodeP} {s:Sl} {v:List (List Nat)} {f:FuncId} {u w:Array Value} {R:Value->Hp->Prop} (hl:l.length<=60) (hi:i<=l.length)
  (ht:Oz l i n) (hv:yb l i v) (hvl:v.length=i) (hpv:gE h s v) (hk35: ¬n.kind=35) (hk36: ¬n.kind=36)
  (hf: ∀p:Int,0<=p->p<l.length-> ∀h',h.le h'-> ∀R':Value->Hp->Prop,R' (uQ (aA l p)) h'->ACalls PR f ((u++ #[I p])++w) h' R')
  (k: ∀t h',h.le h'->IntS h' t (VL (fv l n v))->R (.agg #[Sl.v t]) h'):nQ #[Ee n,s.v, .func (.func f) u w] h R:=by
 obtain⟨val,hnv⟩: ∃val,val=fv l n v:=⟨_,rfl⟩
 rw [<-hnv]at k
 unfold fv at hnv
 apply Cs
 refine uf_ ?_
 refine aj fun b15 h1 hb15 l1 f15=>?_
 refine aj fun b17 h2 hb17 l2 f17=>?_
 replace f15:=l2 _ _ f15
 replace l2:=Hp.le_trans l1 l2
 refine aj fun b19 h3 hb19 l3 f19=>?_
 have n15:=fresh_ne hb19 f15
 have n17:=fresh_ne hb19 f17
 have b0:=aF l2 hb19
 replace f15:=l3 _ _ f15
 replace f17:=l3 _ _ f17
 have l0:=Hp.le_trans l2 l3
 clear l1 l2 l3 hb15 hb17 hb19 h1 h2
 have res: ∀(h4:Hp) (t:Sl),h.le h4->h4 b19=some (.inl ⟨[.slice none 0 0],1,false⟩)->IntS h4 t (VL val)->
   ∃(cs:List Value) (z:Nat),h4 b19=some (.inl ⟨cs,z,false⟩)/\0+1<=List.length cs/\cA (h4.row b19 (cz cs 0 [t.v]) z) fun h'=> ∃(s:Sl),Hp.cell h' b19 0=some s.v/\R (.agg #[s.v]) h':=by
  intro h4 t l4 g19 hval
  (with_reducible apply bZ);(exact g19);(exact l4);(exact b0);(exact Nat.le_refl 1)
  intro h5 g kp l5
  exact⟨t,by rw [aq g];rfl,k t h5 l5 (hval.keep g19 kp)⟩
 clear k
 have wres: ∀(x:Nat) (z:Int),z=x->val= [x]->cK #[I z] h3 fun v30 h31=> ∃(s32:Sl),v30=(.agg #[s32.v])/\(∃(cs33:List Value) (z34:Nat),h31 b19=some (.inl ⟨cs33,z34,false⟩)/\0+1<=List.length cs33/\cA (h31.row b19 (cz cs33 0 [s32.v]) z34) fun h35=> ∃(s36:Sl),Hp.cell h35 b19 0=some s36.v/\(R (.agg #[s36.v]) h35)):=by
  intro x z hz hx
  subst hz
  refine IR fun t h4 l4 hval=>⟨t,rfl,res h4 t (Hp.le_trans l0 l4) (l4 _ _ f19) ?_⟩
  rw [hx];exact hval
 have hpv3:=hpv.mono l0
 have hk:=ht.kind
 have pk:=ht.part
 have pf: ∀j:Nat,j<3->(j:Int)<ar n.kind->Fit (aA l (aW n j)) (v.getD (aW n j).toNat []):=fun j h1 h2=>hv.part ht hi h1 h2
 have cel: ∀j:Nat,j<3->(j:Int)<ar n.kind-> ∀R':Value->Hp->Prop,R' (I (cB v (aW n j))) h3->cl #[I (aW n j), .pointer (some ⟨b17,0,none⟩)] h3 R':=fun j h1 h2 R' k=>
  uz hpv3 (pk j h1 h2).1 (by have:=(pk j h1 h2).2.1;omega) (pf j h1 h2).pos f17 k
 have srt: ∀j:Nat,j<3->(j:Int)<ar n.kind-> ∀R':Value->Hp->Prop,R' (uQ (aA l (aW n j))) h3->ACalls PR f ((u++ #[I (aW n j)])++w) h3 R':=fun j h1 h2 R' k=>
  hf _ (pk j h1 h2).1 (by have:=(pk j h1 h2).2.1;omega) h3 l0 R' k
 have vat: ∀j:Nat,j<3->(j:Int)<ar n.kind->_:=fun j h1 h2=>hpv3.at (pk j h1 h2).1 (by have:=(pk j h1 h2).2.1;omega)
 have hres:=ht.res
 (refine az ?_)
 refine ac (fun e=>?_) (fun e34=>?_)
 ·have e:=bV e
  obtain⟨c1,c2⟩:=ht.const e
  have:=jX.1 c2
  (refine az ?_)
  exact wres n.n.toNat n.n (by omega) (by rw [if_pos e]at hnv;exact hnv)
 replace e34:=bk e34
 have hp:0<ar n.kind:=by
  have:ar n.kind≠0:=by intro h0;revert h0;unfold ar;(repeat' split)<;>(intro h;omega)
  omega
 replace hres:=hres hp
 have oa:=cd.1 (pk 0 (by omega) hp).2.2
 rw [if_neg e34]at hnv
 have hkinds:=kY hp
 refine ac (fun e=>?_) (fun e33=>?_)
 ·have e:=bV e
  have hp3:ar n.kind=3:=by omega
  rw [if_pos e]at hnv
  (refine az ?_)
  refine cel 0 (by omega) (by omega) _ ⟨_,rfl,ac (fun e=>?_) (fun e=>?_)⟩
  ·repeat' (refine az ?_)
   obtain⟨b,o,t,ha,h1,h2,h3'⟩:=vat 1 (by omega) (by omega)
   refine⟨b,o,ha,(pk 1 (by omega) (by omega)).1,h1,t,h2,res _ _ l0 f19 ?_⟩
   rw [hnv,if_pos (by have:=bV e;simp only [aW]at this;omega)];exact h3'
  ·repeat' (refine az ?_)
   obtain⟨b,o,t,ha,h1,h2,h3'⟩:=vat 2 (by omega) (by omega)
   refine⟨b,o,ha,(pk 2 (by omega) (by omega)).1,h1,t,h2,res _ _ l0 f19 ?_⟩
   rw [hnv,if_neg (by have:=bk e;simp only [aW]at this;omega)];exact h3'
 replace e33:=bk e33
 rw [if_neg e33]at hnv
 refine ac (fun e=>?_) (fun e21=>?_)
 ·have e:=bV e
  have hp2:ar n.kind=2:=by omega
  rw [if_pos e]at hnv
  repeat' (refine az ?_)
  obtain⟨b,o,t,ha,h1,h2,h3'⟩:=vat 0 (by omega) (by omega)
  refine⟨b,o,ha,(pk 0 (by omega) (by omega)).1,h1,t,h2,?_⟩
  repeat' (refine az ?_)
  obtain⟨b',o',t',ha',h1',h2',h3''⟩:=vat 1 (by omega) (by omega)
  refine⟨b',o',ha',(pk 1 (by omega) (by omega)).1,h1',t',h2',?_⟩
  have fl:=(pf 0 (by omega) (by omega)).len
  refine yz h3' h3'' (by rw [aY,fl];have:=Nat.pow_le_pow_right (n:=2) (by omega) (show (aA l (aW n 0)).idx.toNat<=2 by omega);omega) ⟨_,rfl,yG ⟨_,rfl,?_⟩⟩
  refine wres _ _ ?_ hnv
  simp only [aW,H4]
  split<;>simp_all
 replace e21:=bk e21
 rw [if_neg e21]at hnv
 refine ac (fun e=>?_) (fun e37=>?_)
 ·have e:=bV e
  have hp2:ar n.kind=2:=by omega
  obtain⟨r1,r2,r3⟩:=Q9 e hres
  rw [if_pos e]at hnv
  repeat' (refine az ?_)
  obtain⟨b,o,t,ha,h1,h2,h3'⟩:=vat 0 (by omega) (by omega)
  refine⟨b,o,ha,(pk 0 (by omega) (by omega)).1,h1,t,h2,?_⟩
  (refine az ?_)
  refine cel 1 (by omega) (by omega) _ ⟨_,rfl,rfl,rfl,rfl,?_⟩
  have fb:=(pf 1 (by omega) (by omega)).cell
  have fa:=(pf 0 (by omega) (by omega)).len
  simp only [aW]at fb fa h3'
  rw [r2]at fb
  have hlt:cB v n.b<(v.getD n.a.toNat []).length:=by rw [fa];exact fb
  obtain⟨b2,o2,ha2,hc2,hl2⟩:=h3'.elt hlt
  refine⟨b2,o2,ha2,by omega,by simp only [aW];omega,_,hc2,?_⟩
  exact wres _ _ rfl hnv
 replace e37:=bk e37
 rw [if_neg e37]at hnv
 simp only [aW]at oa
 refine ac (fun e=>?_) (fun e38=>?_)
 ·have e:=bV e
  have hp3:ar n.kind=3:=by omega
  obtain⟨r1,r2,r3,r4⟩:=QM e hres
  rw [if_pos e]at hnv
  repeat' (refine az ?_)
  obtain⟨b,o,t,ha,h1,h2,h3'⟩:=vat 0 (by omega) (by omega)
  refine⟨b,o,ha,(pk 0 (by omega) (by omega)).1,h1,t,h2,?_⟩
  have fb:=(pf 1 (by omega) (by omega)).cell
  have fa:=(pf 0 (by omega) (by omega)).len
  simp only [aW]at fb fa h3'
  rw [r2]at fb
  have hlt:cB v n.b<(v.getD n.a.toNat []).length:=by rw [fa];exact fb
  have hle4:(v.getD n.a.toNat []).length<=4:=by
   rw [fa];have:=Nat.pow_le_pow_right (n:=2) (by omega) (show (aA l n.a).idx.toNat<=2 by omega);simpa using this
  refine nY h3' (by rw [aY];omega) fun c h4 l4 hb4=>⟨c,rfl,?_⟩
  have hcn:c.n=(v.getD n.a.toNat []).length:=by have:=hb4.1;rw [List.length_map,aY]at this;omega
  obtain⟨bc,hca,hcrow⟩: ∃bc,c.a=some ⟨bc,0,none⟩/\(h4.sub h3) bc=some (.inl ⟨(VL (v.getD n.a.toNat [])).map I,c.c*1,false⟩):=by
   rcases hb4.2.2 with ⟨_,h0,_⟩|h0
   ·omega
   ·exact h0
  have hc4:h4 bc=some (.inl ⟨(VL (v.getD n.a.toNat [])).map I,c.c*1,false⟩):=sub_le _ _ _ _ hcrow
  have hc3:h3 bc=none:=by
   cases hx:h3 bc with
   |none=>rfl
   |some x=>rw [ml hx]at hcrow;cases hcrow
  have g15:=l4 _ _ f15
  have g17:=l4 _ _ f17
  have g19:=l4 _ _ f19
  refine aj fun b24 h5 hb24 l5 f24'=>?_
  have m15:=fresh_ne hb24 g15
  have m17:=fresh_ne hb24 g17
  have m19:=fresh_ne hb24 g19
  have mc:=fresh_ne hb24 hc4
  have hb24n:=aF l4 hb24
  have l35:=Hp.le_trans l4 l5
  (with_reducible apply bZ);(exact f24');(exact l35);(exact hb24n);(exact Nat.le_refl 1)
  intro h6 f24 kp l6
  replace g15:=cm kp m15 (l5 _ _ g15)
  replace g17:=cm kp m17 (l5 _ _ g17)
  replace g19:=cm kp m19 (l5 _ _ g19)
  have gc:=cm kp mc (l5 _ _ hc4)
  have l06:=Hp.le_trans l0 l6
  have hpv6:=hpv3.mono l6
  refine⟨c,by rw [aq f24];rfl,?_⟩
  repeat' (refine az ?_)
  refine uz hpv6 (pk 1 (by omega) (by omega)).1 (by have:=(pk 1 (by omega) (by omega)).2.1;simp only [aW]at this⊢;omega) (pf 1 (by omega) (by omega)).pos g17 ⟨_,rfl,rfl,rfl,?_⟩
  refine uz hpv6 (pk 2 (by omega) (by omega)).1 (by have:=(pk 2 (by omega) (by omega)).2.1;simp only [aW]at this⊢;omega) (pf 2 (by omega) (by omega)).pos g17 ⟨_,rfl,rfl,?_⟩
  refine⟨bc,0,hca,by omega,by omega,?_⟩
  (with_reducible apply bZ);(exact gc);(exact l6);(exact hc3);(rw [List.length_map,aY];omega)
  intro h7 gc' kp7 l7
  have n24:b24≠bc:=fun e=>mc e.symm
  have n19c:b19≠bc:=fun e=>by subst e;rw [hc3]at f19;cases f19
  replace f24:=cm kp7 n24 f24
  refine⟨c,by rw [aq f24];rfl,?_⟩
  refine res h7 c (Hp.le_trans l0 l7) (cm kp7 n19c g19) ?_
  have hcells:cz ((VL (v.getD n.a.toNat [])).map I) (0+Int.toNat (cB v n.b:Int)*1) [I (cB v n.c)]=(VL val).map I:=by
   rw [hnv,bJ,Int.toNat_natCast,Nat.mul_one,Nat.zero_add]
   simp [VL,List.map_set]
  rw [hcells]at gc'
  refine⟨by omega,by simp [aY,hnv,hcn], .inr ⟨bc,0,hca,ay gc'⟩⟩
 replace e38:=bk e38
 rw [if_neg e38]at hnv
 have word0: ∀wn:Nat,(aA l n.a).wid=wn->WO wn (cB v n.a):=fun wn hw=>by
  have:=(pf 0 (by omega) (by omega)).cell
  simp only [aW]at this
  rw [hw]at this
  refine⟨by omega,this⟩
 obtain⟨wa,hwa⟩: ∃wn:Nat,(aA l n.a).wid=wn:=⟨(aA l n.a).wid.toNat,by omega⟩
 have hwo:=word0 wa hwa
 have h16:=hwo.pow
 have hlta:=hwo.2
 rw [hwa,Int.toNat_natCast]at hnv
 refine ac (fun e=>?_) (fun e29=>?_)
 ·have e:=bV e
  have hp2:ar n.kind=2:=by omega
  obtain⟨r1,r2,r3,r4⟩:=QL e hres
  rw [if_pos e]at hnv
  have ob:=cd.1 (pk 1 (by omega) (by omega)).2.2
  simp only [aW]at ob
  obtain⟨wb,hwb⟩: ∃wn:Nat,(aA l n.b).wid=wn:=⟨(aA l n.b).wid.toNat,by omega⟩
  have hltb:=(pf 1 (by omega) (by omega)).cell
  simp only [aW]at hltb
  rw [hwb,Int.toNat_natCast]at hltb
  rw [hwb,Int.toNat_natCast]at hnv
  have hpb:=Aa (w:=wb) (by omega)
  have hmul:=Eo (a:=cB v n.a) (b:=2^wb) (by omega) hpb
  have hltb':cB v n.b<2^wb:=hltb
  repeat' (refine az ?_)
  refine cel 0 (by omega) (by omega) _ ⟨_,rfl,rfl,rfl,?_⟩
  refine srt 1 (by omega) (by omega) _ ⟨_,_,rfl,rfl,?_⟩
  simp only [aW,hwb]
  rw [if_neg (by omega)]
  refine cel 1 (by omega) (by omega) _ ⟨_,rfl,?_⟩
  refine wres _ _ ?_ hnv
  simp only [aW]
  rw [ik (by omega) (by omega),bU (by omega) (by omega)];omega
 replace e29:=bk e29
 rw [if_neg e29]at hnv
 refine ac (fun e=>?_) (fun e30=>?_)
 ·have e:=bV e
  obtain⟨r1,r2,r3⟩:=Rx e hres
  rw [if_pos e]at hnv
  obtain⟨lo,hlo⟩: ∃z:Nat,n.m=z:=⟨n.m.toNat,by omega⟩
  obtain⟨sz,hsz⟩: ∃z:Nat,n.n-n.m+1=z:=⟨(n.n-n.m+1).toNat,by omega⟩
  repeat' (refine az ?_)
  refine cel 0 (by omega) (by omega) _ ⟨_,rfl,rfl,rfl,rfl,?_⟩
  rw [if_neg (by omega),bU (n:=n.n-n.m) (by omega) (by omega),bU (n:=n.n-n.m+1) (by omega) (by omega),hsz]
  refine dJ (by omega) ⟨_,rfl,rfl,?_⟩
  refine wres _ _ ?_ hnv
  unfold Qa
  simp only [aW]
  rw [hlo]at hsz⊢
  rw [hsz,Int.toNat_natCast,Int.toNat_natCast,jx (by omega),ib (by omega),px]
 replace e30:=bk e30
 rw [if_neg e30]at hnv
 refine ap (fun J=>J (decide (n.kind=31\/n.kind=32))) ?_ (fun J hJ=>?_)
 rotate_left
 ·clear res wres hf cel srt vat
  repeat' (first|(with_reducible first|refine aM (b:=true) rfl ?_|refine aE (b:=false) rfl ?_|refine ac (fun _=>?_) fun _=>?_)|(refine az ?_)|(refine fJ ?_ hJ))
  all_goals (clear hJ;have:= @decide_eq_true_eq;rw [Bool.eq_iff_iff];simp_all)
 refine ac (fun e=>?_) (fun e31=>?_)
 ·have e:=of_decide_eq_true e
  obtain⟨r1,r2,r3⟩:=Rp e hres
  rw [if_pos e]at hnv
  obtain⟨mo,hmo⟩: ∃z:Nat,n.n=z:=⟨n.n.toNat,by omega⟩
  repeat' (refine az ?_)
  refine srt 0 (by omega) (by omega) _ ⟨_,_,rfl,rfl,rfl,rfl,?_⟩
  refine cel 0 (by omega) (by omega) _ ⟨_,rfl,rfl,rfl,?_⟩
  simp only [aW,hwa,hmo]
  refine RK hwo (by omega) ⟨_,rfl,?_⟩
  refine wres _ _ ?_ hnv
  rw [hmo,Int.toNat_natCast];rfl
 replace e31:=of_decide_eq_false e31
 rw [if_neg e31]at hnv
 (refine az ?_)
 refine iW ⟨_,rfl,ac (fun e=>?_) (fun e1=>?_)⟩
 ·have e:=bV e
  rw [if_pos e]at hnv
  repeat' (refine az ?_)
  refine srt 0 (by omega) (by omega) _ ⟨_,_,rfl,rfl,rfl,?_⟩
  refine cel 0 (by omega) (by omega) _ ⟨_,rfl,rfl,?_⟩
  simp only [aW,hwa]
  exact VZ (by omega) hwo ⟨_,_,rfl,wres _ _ rfl hnv⟩
 ·replace e1:=bk e1
  rw [if_neg e1]at hnv
  have hp2:ar n.kind=2:=by omega
  obtain⟨r1,r2,r3⟩:=Yy (by omega) hres
  have hltb:=(pf 1 (by omega) (by omega)).cell
  simp only [aW]at hltb
  rw [<-r2,hwa,Int.toNat_natCast]at hltb
  repeat' (refine az ?_)
  refine srt 0 (by omega) (by omega) _ ⟨_,_,rfl,rfl,rfl,rfl,?_⟩
  refine cel 0 (by omega) (by omega) _ ⟨_,rfl,rfl,rfl,?_⟩
  refine cel 1 (by omega) (by omega) _ ⟨_,rfl,rfl,?_⟩
  simp only [aW,hwa]
  exact UC (by omega) hwo ⟨hwo.1,hltb⟩ ⟨_,_,rfl,wres _ _ rfl hnv⟩
def wA (cs:List Value):Prop:= ∀(j:Nat) (i:Int),cs[j]?≠some (I i)
theorem IntS.keepN {h h':Hp} {t:Sl} {xs:List Int} {b z:Nat} {cs:List Value} {ro:Bool} (e:IntS h t xs) (f:h b=some (.inl ⟨cs,z,ro⟩)) (hn:wA cs) (kp: ∀c,c≠b->h' c=h c):IntS h' t xs:=by
 refine⟨e.1,e.2.1,?_⟩
 rcases e.2.2 with h0|⟨b',o,ha,hc⟩
 ·exact .inl h0
 ·by_cases h0:t.n=0
  ·exact .inl h0
  refine .inr ⟨b',o,ha,fun i v hv=>?_⟩
  have hne:b'≠b:=by
   rintro rfl
   have hlen:=e.len
   have hx:(xs.map I)[0]?=some (I (xs[0]'(by omega))):=by simp
   have:=hc 0 _ hx
   rw [aq f]at this
   exact hn _ _ this
  have:=hc i v hv
  unfold Hp.cell at this⊢
  rw [kp b' hne];exact this
theorem CQ (ts:List Sl) (k:Nat):wA (ts.map Sl.v++List.replicate k (.slice none 0 0)):=by
 intro j i h
 have hm:=List.mem_of_getElem? h
 rcases List.mem_append.1 hm with hm|hm
 ·obtain⟨t,_,ht⟩:=List.mem_map.1 hm
  cases ht
 ·have:=List.eq_of_mem_replicate hm
  cases this
theorem IntSS.tail {h:Hp} {s:Sl} {x:List Int} {xs:List (List Int)} (e:IntSS h s (x::xs)) (hc:s.n<=s.c) {b o:Nat} (ha:s.a=some ⟨b,o,none⟩):
  IntSS h ⟨some ⟨b,if s.c=1 then o else o+1*1,none⟩,s.n-1,s.c-1⟩ xs:=by
 obtain⟨ts,h1,h2,h3⟩:=e
 cases ts with
 |nil=>simp at h1
 |cons t ts=>
  have hn:s.n=ts.length+1:=by have:=h2.2.1;simp at this;omega
  have hb:=h2.1
  refine⟨ts,by simpa using h1,⟨by dsimp only;omega,by simp;omega,?_⟩,fun i e1 e2=>by have:=h3 (i+1) (by simp;omega) (by simp;omega);simpa using this⟩
  by_cases h0:ts.length=0
  ·exact .inl (by dsimp only;omega)
  ·refine .inr ⟨b,_,rfl,fun i v hv=>?_⟩
   rw [if_neg (by omega)]
   rcases h2.2.2 with h0'|⟨b',o',ha',hcells⟩
   ·omega
   ·rw [ha]at ha';cases ha'
    have:=hcells (i+1) v (by simpa using hv)
    rw [show o+1*1+i=o+(i+1) by omega];exact this
theorem IntSS.head {h:Hp} {s:Sl} {x:List Int} {xs:List (List Int)} (e:IntSS h s (x::xs)): ∃b o t,s.a=some (Addr.mk b o none)/\0<s.n/\Hp.cell h b (o+0*1)=some (Sl.v t)/\IntS h t x:=by
 obtain⟨ts,h1,h2,h3⟩:=e
 cases ts with
 |nil=>simp at h1
 |cons t ts=>
  have hn:s.n=ts.length+1:=by have:=h2.2.1;simp at this;omega
  obtain⟨b,o,ha,hc⟩:=SlC.get h2 (by omega)
  exact⟨b,o,t,ha,by omega,hc 0 _ rfl,h3 0 (by simp) (by simp)⟩
theorem LY {h:Hp} {M:MSl} {m:ah} {b z:Nat} {p:Int} {R:Value->Hp->Prop} (hs:aO h M m) (hm:bW m) (h0:0<=p) (hp:p<m.nodes.length) (f:h b=some (.inl ⟨aw M,z,false⟩))
  (k:R (uQ (aA m.nodes p)) h):qI #[I p, .pointer (some ⟨b,0,none⟩)] h R:=by
 refine ACalls.drop (xY ?_)
 refine uf_ ?_
 have hn:=hs.nodes.len
 refine aj fun b5 h1 hb5 l1 f5=>?_
 replace f:=l1 _ _ f
 (refine az ?_)
 obtain⟨n,hn1⟩: ∃n,m.nodes[p.toNat]?=some n:=⟨_,List.getElem?_eq_getElem (by omega)⟩
 have hsa:=qG hn1
 obtain⟨ba,oa,ha1,_,_,_,_,_,_,c6,c7,_⟩:=(hs.nodes.mono l1).at hn1
 refine⟨ba,oa,ha1,h0,by omega,_,c6,_,c7,?_⟩
 (with_reducible apply bZ);(exact f5);(exact l1);(exact hb5);(exact Nat.le_refl 2)
 intro h2 f5' kp l2
 repeat' (refine az ?_)
 refine⟨_,l2,?_⟩
 rw [hsa]at k;exact k
theorem La {α:Type} {l:List α} {k:Nat} (d:α) (h:k<l.length):l.drop k=l.getD k d::l.drop (k+1):=by
 rw [List.drop_eq_getElem_cons h,List.getD_eq_getElem?_getD,List.getElem?_eq_getElem h];rfl
theorem wh {l:List NodeP} {s inp:List (List Nat)} {i:Nat} {n:NodeP} (hn:l[i]?=some n):fX l s inp (i+1)=fX l s inp i++
  [if n.kind=36 then s.getD (aH (l.take i) 36).length []else if n.kind=35 then inp.getD (aH (l.take i) 35).length []else fv l n (fX l s inp i)]:=by
 simp only [fX,hn]
theorem zj {l:List NodeP} {kind:Int} {i:Nat} {n:NodeP} (hn:l[i]?=some n) (hk:n.kind=kind):(aH (l.take i) kind).length<(aH l kind).length:=get_lt (pF hn hk)
theorem tP {l:List NodeP} {kind:Int} {i:Nat} {n:NodeP} (hn:l[i]?=some n):(aH (l.take (i+1)) kind).length=(aH (l.take i) kind).length+if n.kind=kind then 1 else 0:=by
 rw [jj hn,List.length_append];split<;>rfl
theorem yO {h:Hp} {M:MSl} {m:ah} {sS sI:Sl} {st inp:List (List Nat)} {R:Value->Hp->Prop} (hs:aO h M m) (hm:bW m) (hok:cv m.nodes=true) (hl:m.nodes.length<=60)
  (h1:IntSS h sS (st.map VL)) (c1:sS.n<=sS.c) (f1:zV m.nodes 36 st) (h2:IntSS h sI (inp.map VL)) (c2:sI.n<=sI.c) (f2:zV m.nodes 35 inp)
  (k: ∀t h',h.le h'->t.n=m.nodes.length->gE h' t (fX m.nodes st inp m.nodes.length)->R (Sl.v t) h'):gx #[aQ M,sS.v,sI.v] h R:=by
 apply BN
 refine uf_ ?_
 have hn:=hs.nodes.len
 refine aj fun b9 h3 hb9 l3 f9=>?_
 (refine az ?_)
 refine⟨by omega,by omega,by omega,by omega,?_⟩
 refine aj fun b13 h4 hb13 l4 f13=>?_
 have n9:=fresh_ne hb13 f9
 have b13n:=aF l3 hb13
 replace f9:=l4 _ _ f9
 replace l4:=Hp.le_trans l3 l4
 (refine az ?_)
 rw [Int.toNat_natCast,Nat.mul_one,cn]at f13
 simp only [Int.toNat_natCast]
 refine av m.nodes.length (fun i vs h'=> ∃(ts:List Sl) (uS uI:Sl),vs= [uS.v,uI.v, .slice (some ⟨b13,0,none⟩) M.no.n M.no.n, .func (.func kV) #[] #[.pointer (some ⟨b9,0,none⟩)],M.no.v,I M.no.n,I i]/\h.le h'/\
  h' b9=some (.inl ⟨aw M,5,false⟩)/\ts.length=i/\h' b13=some (.inl ⟨ts.map Sl.v++List.replicate (M.no.n-i) (.slice none 0 0),M.no.n,false⟩)/\
  (∀(j:Nat) (t:Sl),ts[j]?=some t->IntS h' t (VL ((fX m.nodes st inp i).getD j [])))/\
  IntSS h uS ((st.drop (aH (m.nodes.take i) 36).length).map VL)/\uS.n<=uS.c/\IntSS h uI ((inp.drop (aH (m.nodes.take i) 35).length).map VL)/\uI.n<=uI.c)
  ⟨[],sS,sI,rfl,l4,f9,rfl,by simpa using f13,fun j t ht=>by simp at ht,h1,c1,h2,c2⟩ ?_
 clear f9 f13 l3 l4 hb9 hb13 h3 h4
 rintro i _ h3 next hi ⟨ts,uS,uI,rfl,l3,f9,htl,f13,hts,g1,d1,g2,d2⟩ hnx
 have hpv:gE h3 ⟨some ⟨b13,0,none⟩,M.no.n,M.no.n⟩ (fX m.nodes st inp i):=by
  refine⟨by rw [dp];dsimp only;omega,by dsimp only;omega,fun p hp=>?_⟩
  rw [dp]at hp
  refine⟨b13,0,ts[p]'(by omega),rfl,?_,hts p _ (List.getElem?_eq_getElem (by omega))⟩
  rw [aq f13,Nat.zero_add,Nat.mul_one,List.getElem?_append_left (by simp;omega),List.getElem?_map,List.getElem?_eq_getElem (by omega)]
  rfl
 refine⟨uS,uI,⟨some ⟨b13,0,none⟩,M.no.n,M.no.n⟩,_,_,_,M.no,_,_,rfl,?_⟩
 by_cases hlt:i<m.nodes.length
 rotate_left
 ·have hie:i=m.nodes.length:=by omega
  subst hie
  refine aE (by simp;omega) (k ⟨some ⟨b13,0,none⟩,M.no.n,M.no.n⟩ h3 l3 hn hpv)
 refine aM (by simp;omega) ?_
 obtain⟨n,hni⟩: ∃n,m.nodes[i]?=some n:=⟨_,List.getElem?_eq_getElem hlt⟩
 obtain⟨b,o,ha,e0,e1,e2,e3,e4,e5,e6,e7,e8⟩:=(hs.nodes.mono l3).at hni
 refine⟨b,o,ha,by omega,by omega,_,e0,_,e1,_,e2,_,e3,_,e4,_,e5,_,e6,_,e7,_,e8,?_⟩
 refine aj fun b45 h4 hb45 l4 f45'=>?_
 have n945:=fresh_ne hb45 f9
 have n1345:=fresh_ne hb45 f13
 (with_reducible apply bZ);(exact f45');(exact l4);(exact hb45);(exact Nat.le_refl 9)
 intro h5 f45 kp l35
 replace f9:=l35 _ _ f9
 replace f13:=l35 _ _ f13
 have l5:=Hp.le_trans l3 l35
 have hts5: ∀(j:Nat) (t:Sl),ts[j]?=some t->IntS h5 t (VL ((fX m.nodes st inp i).getD j [])):=fun j t ht=>(hts j t ht).mono l35
 have hpv5:=hpv.mono l35
 clear l4 kp f45' hb45 hts
 have step: ∀(h6:Hp) (t:Sl) (x:List Nat) (vS vI:Sl),h5.le h6->IntS h6 t (VL x)->fX m.nodes st inp (i+1)=fX m.nodes st inp i++ [x]->
   IntSS h vS ((st.drop (aH (m.nodes.take (i+1)) 36).length).map VL)->vS.n<=vS.c->IntSS h vI ((inp.drop (aH (m.nodes.take (i+1)) 35).length).map VL)->vI.n<=vI.c->
   ∃(cs:List Value) (z:Nat),h6 b13=some (.inl ⟨cs,z,false⟩)/\(0+Int.toNat (i:Int)*1)+1<=List.length cs/\cA (h6.row b13 (cz cs (0+Int.toNat (i:Int)*1) [t.v]) z) fun h'=>
    next [vS.v,vI.v, .slice (some ⟨b13,0,none⟩) M.no.n M.no.n, .func (.func kV) #[] #[.pointer (some ⟨b9,0,none⟩)],M.no.v,I M.no.n,I (W ((i:Int)+1))] h':=by
  intro h6 t x vS vI l56 hval hev i1 i2 i3 i4
  have g13:=l56 _ _ f13
  (with_reducible apply bZ);(exact g13);(exact Hp.le_trans l5 l56);(exact b13n);(simp;omega)
  intro h7 f13' kp l7
  rw [aC (by omega)]
  rw [Int.toNat_natCast,Nat.mul_one,Nat.zero_add,bJ]at f13'
  have hrow:(ts.map Sl.v++List.replicate (M.no.n-i) (Value.slice none 0 0)).set i t.v=(ts++ [t]).map Sl.v++List.replicate (M.no.n-(i+1)) (.slice none 0 0):=by
   rw [List.set_append_right _ _ (by simp;omega),List.length_map,htl,Nat.sub_self,show M.no.n-i=(M.no.n-(i+1))+1 by omega,List.replicate_succ,List.set_cons_zero]
   simp
  rw [hrow]at f13'
  refine hnx hlt _ _ ⟨ts++ [t],vS,vI,rfl,l7,cm kp n9 (l56 _ _ f9),by simp;omega,f13',fun j u hu=>?_,i1,i2,i3,i4⟩
  by_cases hj:j<i
  ·rw [List.getElem?_append_left (by omega)]at hu
   rw [hev,ia (by rw [dp];omega)]
   exact((hts5 j u hu).mono l56).keepN g13 (CQ _ _) kp
  ·have hju:=get_lt hu
   simp at hju
   have hje:j=i:=by omega
   subst hje
   rw [List.getElem?_append_right (by omega),htl,Nat.sub_self]at hu
   simp at hu;subst hu
   rw [hev,List.getD_eq_getElem?_getD,List.getElem?_append_right (by rw [dp];omega),dp,Nat.sub_self]
   exact hval.keepN g13 (CQ _ _) kp
 have hnext36:=tP (kind:=36) hni
 have hnext35:=tP (kind:=35) hni
 have hev:=wh (s:=st) (inp:=inp) hni
 (refine az ?_)
 refine ac (fun e=>?_) (fun e36=>?_)
 ·have e:=bV e
  rw [if_pos e]at hnext36 hev
  rw [if_neg (by omega)]at hnext35
  have hlt36:=zj hni e
  rw [<-f1.1]at hlt36
  rw [La [] hlt36,List.map_cons]at g1
  obtain⟨bs,os,t,ha,hpos,hc,ht⟩:=g1.head
  refine⟨bs,os,ha,by omega,by omega,by omega,?_,?_, .inr ⟨bs,os,ha,t,l5.cell hc,b13,0,rfl,by omega,by dsimp only;omega,?_⟩⟩
  ·show (1:Int)<=((uS.n:Nat):Int);omega
  ·show ((uS.n:Nat):Int)<=_;omega
  refine step h5 t _ ⟨some ⟨bs,if uS.c=1 then os else os+1*1,none⟩,uS.n-1,uS.c-1⟩ uI (Hp.le_refl _) (ht.mono l5) hev ?_ (by dsimp only;omega) ?_ d2
  ·rw [hnext36];exact g1.tail d1 ha
  ·rw [hnext35];exact g2
 replace e36:=bk e36
 rw [if_neg e36]at hnext36 hev
 refine ac (fun e=>?_) (fun e35=>?_)
 ·have e:=bV e
  rw [if_pos e]at hnext35 hev
  have hlt35:=zj hni e
  rw [<-f2.1]at hlt35
  rw [La [] hlt35,List.map_cons]at g2
  obtain⟨bs,os,t,ha,hpos,hc,ht⟩:=g2.head
  refine⟨bs,os,ha,by omega,by omega,by omega,?_,?_, .inr ⟨bs,os,ha,t,l5.cell hc,b13,0,rfl,by omega,by dsimp only;omega,?_⟩⟩
  ·show (1:Int)<=((uI.n:Nat):Int);omega
  ·show ((uI.n:Nat):Int)<=_;omega
  refine step h5 t _ uS ⟨some ⟨bs,if uI.c=1 then os else os+1*1,none⟩,uI.n-1,uI.c-1⟩ (Hp.le_refl _) (ht.mono l5) hev ?_ d1 ?_ (by dsimp only;omega)
  ·rw [hnext36];exact g1
  ·rw [hnext35];exact g2.tail d2 ha
 replace e35:=bk e35
 rw [if_neg e35]at hnext35 hev
 repeat' (refine az ?_)
 refine O5 (n:=n) (s:=⟨some ⟨b13,0,none⟩,M.no.n,M.no.n⟩) hl (Nat.le_of_lt hlt) (u5 hok hni) (zh hok f1 f2 i (Nat.le_of_lt hlt)) (dp _ _ _ _) hpv5 e35 e36 ?_ fun t h6 l6 hval=>⟨t,rfl,b13,0,rfl,by omega,by dsimp only;omega,?_⟩
 ·intro p hp0 hp h' l' R' kk
  exact LY (hs.mono (Hp.le_trans l5 l')) hm hp0 hp (l' _ _ f9) kk
 ·refine step h6 t _ uS uI l6 hval hev ?_ d1 ?_ d2
  ·rw [hnext36];exact g1
  ·rw [hnext35];exact g2
theorem DB {h:Hp} {s:Sl} {b:Nat} {x:Blk} (hx:(h.offS s) b=some x): ∀a,s.a=some a->a.block≠b:=by
 intro a ha e
 unfold Hp.offS at hx
 rw [ha]at hx
 simp only at hx
 rw [e,xM]at hx;cases hx
theorem qP {h:Hp} {s:Sl} {b:Nat} {x:Blk} (cs:List Value) (z:Nat) (hx:(h.offS s) b=some x):(h.row b cs z).offS s=(h.offS s).row b cs z:=by
 have hn:=DB hx
 unfold Hp.offS
 cases ha:s.a with
 |none=>rfl
 |some a=>
  have:=hn a ha
  funext c
  simp only [Hp.off,Hp.row,Hp.set]
  by_cases h1:c=a.block
  ·rw [if_pos h1,if_neg (fun e=>this (h1▸e)),if_pos h1]
  ·rw [if_neg h1];split<;>first|rfl|rw [if_neg h1]
theorem B4 {h:Hp} {s:Sl} {b:Nat} (hn: ∀a,s.a=some a->a.block≠b):(h.offS s) b=h b:=by
 unfold Hp.offS
 cases ha:s.a with
 |none=>rfl
 |some a=>
  have:=hn a ha
  simp only [Hp.off,Hp.set]
  rw [if_neg (fun e=>this e.symm)]
theorem Buf.row {h:Hp} {s:Sl} {sz:Nat} {cs:List Value} {b:Nat} {x:Blk} (cs':List Value) (z:Nat) (e:Buf h s sz cs) (hx:(h.offS s) b=some x):Buf (h.row b cs' z) s sz cs:=by
 refine⟨e.1,e.2.1,e.2.2.imp id ?_⟩
 rintro ⟨c,hc,hcb⟩
 refine⟨c,hc,?_⟩
 rw [bX _ _ (DB hx _ hc)];exact hcb
theorem vN {h h0:Hp} {s:Sl} {b z o m:Nat} {cs vs:List Value} {P:Hp->Prop} (f:(h.offS s) b=some (.inl ⟨cs,z,false⟩)) (l:h0.le (h.offS s)) (hb:h0 b=none) (hl:m<=cs.length)
  (k: ∀h',(h'.offS s) b=some (.inl ⟨cz cs o vs,z,false⟩)->(∀c,c≠b->(h'.offS s) c=(h.offS s) c)->h0.le (h'.offS s)->(∀sz bs,Buf h s sz bs->Buf h' s sz bs)->P h'):
  ∃(cs':List Value) (z':Nat),h b=some (.inl ⟨cs',z',false⟩)/\m<=List.length cs'/\cA (h.row b (cz cs' o vs) z') fun h'=>P h':=by
 refine⟨cs,z,bz _ _ _ _ f,hl,k _ ?_ ?_ ?_ (fun sz bs e=>e.row _ _ f)⟩
 ·rw [qP _ _ f,bM]
 ·intro c hc;rw [qP _ _ f,bX _ _ hc]
 ·rw [qP _ _ f];exact et _ _ hb l
theorem Hl {h:Hp} {x:Int} {R:Value->Hp->Prop} (k: ∀t h',h.le h'->IntS h' t [x]->R (.agg #[Sl.v t]) h'):j6 #[I x] h R:=by
 apply L5
 refine uf_ ?_
 refine aj fun b3 h1 hb3 l1 f3=>?_
 refine aj fun b6 h2 hb6 l2 f6=>?_
 have ne:=fresh_ne hb6 f3
 (with_reducible apply bZ);(exact l2 _ _ f3);(exact Hp.le_trans l1 l2);(exact hb3);(exact Nat.le_refl 1)
 intro h3 g3 kp l3
 refine⟨⟨some ⟨b6,0,none⟩,1,1⟩,by rw [aq g3];rfl,k _ h3 l3 ?_⟩
 exact⟨by dsimp only;omega,rfl, .inr ⟨b6,0,rfl,ay (cm kp ne.symm f6)⟩⟩
theorem qA {h:Hp} {s:Sl} {xs:List Int} {R:Value->Hp->Prop} (hs:IntS h s xs) (hl:xs.length<=1048576)
  (k: ∀t h',h.le h'->Buf (h'.sub h) t 1 (xs.map I)->R (.agg #[Sl.v t]) h'):gh #[.agg #[s.v]] h R:=by
 apply Jt
 refine uf_ ?_
 have hn:=hs.len
 refine aj fun b3 h1 hb3 l1 f3=>?_
 refine aj fun b5 h2 hb5 l2 f5=>?_
 replace f3:=l2 _ _ f3
 have b5n:=aF l1 hb5
 replace l2:=Hp.le_trans l1 l2
 refine aj fun b8 h3 hb8 l3 f8=>?_
 have n58:=fresh_ne hb8 f5
 have n38:=fresh_ne hb8 f3
 have b8n:=aF l2 hb8
 replace f3:=l3 _ _ f3
 replace f5:=l3 _ _ f5
 replace l3:=Hp.le_trans l2 l3
 clear l1 l2 hb3 hb5 hb8 h1 h2
 refine av xs.length (fun i vs h'=> ∃sl:Sl,vs= [.pointer (some ⟨b3,0,none⟩), .pointer (some ⟨b5,0,none⟩), .pointer (some ⟨b8,0,none⟩),I i]/\h.le (h'.offS sl)/\(h'.offS sl) b3=some (.inl ⟨[s.v],1,false⟩)/\
  (h'.offS sl) b5=some (.inl ⟨[.slice none 0 0],1,false⟩)/\(h'.offS sl) b8=some (.inl ⟨[sl.v],1,false⟩)/\sl.n=i/\Buf h' sl 1 ((xs.take i).map I)/\(∀a,sl.a=some a->h a.block=none))
  ⟨⟨none,0,0⟩,rfl,l3,f3,f5,f8,rfl,eY _ _,fun a ha=>by cases ha⟩ ?_
 clear l3 f3 f5 f8 h3
 rintro i _ h3 next hi ⟨sl,rfl,l3,f3,f5,f8,hsl,hbuf,hfr⟩ hnx
 refine⟨_,_,_,_,_,_,_,rfl,?_⟩
 have lo:=bz h3 sl
 have f3':=lo _ _ f3
 (refine az ?_)
 by_cases hlt:i<xs.length
 ·refine aM (by simp;omega) ?_
  have f8':=lo _ _ f8
  obtain⟨b,o,ha,hc⟩:=(hs.mono (Hp.le_trans l3 lo)).get (List.getElem?_eq_getElem hlt)
  repeat' (refine az ?_)
  refine⟨b,o,ha,by omega,by omega,_,hc,?_⟩
  refine aj fun b32 h4 hb32 l4 f32=>?_
  refine⟨by rw [l4 _ _ f8',f8'],?_⟩
  have l34:=bQ sl l4
  refine dx (hbuf.mono l4) (by omega) (by omega) (by omega) ⟨b32,0,rfl,ay f32⟩ (by simp) rfl ?_
  intro s' h5 hs'n hbuf' l45 hsub
  have l35:=Hp.le_trans l34 l45
  have hfr': ∀a,s'.a=some a->h a.block=none:=by
   intro a ha'
   cases hx:h a.block with
   |none=>rfl
   |some x=>
    have:=l35 _ _ (l3 _ _ hx)
    exact absurd rfl (DB this a ha')
  (with_reducible apply vN);(exact l35 _ _ f8);(exact Hp.le_trans l3 l35);(exact b8n);(exact Nat.le_refl 1)
  intro h6 g8 kp l6 hbufk
  rw [aC (by omega)]
  refine hnx hlt _ _ ⟨s',rfl,l6,?_,?_,g8,by omega,hbufk _ _ ?_,hfr'⟩
  ·rw [kp _ n38];exact l35 _ _ f3
  ·rw [kp _ n58];exact l35 _ _ f5
  ·rw [Jy hlt];exact hbuf'
 ·refine aE (by simp;omega) ?_
  have f8':=lo _ _ f8
  have f5':=lo _ _ f5
  (refine az ?_)
  rw [List.take_of_length_le (by omega)]at hbuf
  (with_reducible apply vN);(exact f5);(exact l3);(exact b5n);(exact Nat.le_refl 1)
  intro h6 g5 kp l6 hbufk
  have l6':=Hp.le_trans l6 (bz _ _)
  refine⟨sl,by rw [aq (bz _ _ _ _ g5)];rfl,k sl h6 l6' ?_⟩
  have hb6:=hbufk _ _ hbuf
  refine⟨hb6.1,hb6.2.1,hb6.2.2.imp id ?_⟩
  rintro ⟨c,hc,hcb⟩
  exact⟨c,hc,by rw [ma (hfr _ hc)];exact hcb⟩
theorem xr {h:Hp} {s t:Sl} {xs ys:List Int} {R:Value->Hp->Prop} (hs:IntS h s xs) (ht:IntS h t ys) (hl:xs.length<=1048576) (hle:xs.length<=ys.length)
  (k:R (.bool (decide (xs=ys))) h):mh #[.agg #[s.v], .agg #[t.v]] h R:=by
 refine ACalls.drop (IJ ?_)
 refine uf_ ?_
 have hn:=hs.len
 have hm:=ht.len
 refine aj fun b4 h1 hb4 l1 f4=>?_
 refine aj fun b6 h2 hb6 l2 f6=>?_
 replace f4:=l2 _ _ f4
 replace l2:=Hp.le_trans l1 l2
 have lf: ∀{q:Bool},q=decide (xs=ys)-> ∃h':Hp,h'.le h2/\R (.bool q) h':=fun e=>⟨_,l2,e▸k⟩
 clear k
 refine av xs.length (fun i vs h'=>vs= [.pointer (some ⟨b4,0,none⟩), .pointer (some ⟨b6,0,none⟩),I i]/\h'=h2/\xs.take i=ys.take i) ⟨rfl,rfl,by simp⟩ ?_
 rintro i _ h' next hi ⟨rfl,rfl,hg⟩ hnx
 refine⟨_,_,_,_,_,rfl,?_⟩
 (refine az ?_)
 by_cases hlt:i<xs.length
 ·refine aM (by simp;omega) ?_
  obtain⟨b,o,ha,hc⟩:=(hs.mono l2).get (List.getElem?_eq_getElem hlt)
  obtain⟨b2,o2,ha2,hc2⟩:=(ht.mono l2).get (List.getElem?_eq_getElem (show i<ys.length by omega))
  (refine az ?_)
  refine⟨b,o,ha,by omega,by omega,_,hc,?_⟩
  (refine az ?_)
  refine⟨b2,o2,ha2,by omega,by omega,_,hc2,?_⟩
  refine ac (fun e=>lf ?_) (fun e=>?_)
  ·symm;rw [decide_eq_false_iff_not]
   rintro rfl;exact hR e rfl
  ·rw [aC (by omega)]
   exact hnx hlt _ _ ⟨rfl,rfl,CT hlt (by omega) hg (fS e)⟩
 ·refine aE (by simp;omega) ?_
  repeat' (refine az ?_)
  refine lf ?_
  rw [List.take_of_length_le (show xs.length<=i by omega)]at hg
  rw [Bool.eq_iff_iff,decide_eq_true_iff,beq_iff_eq]
  constructor
  ·intro e
   rwa [List.take_of_length_le (by omega)]at hg
  ·rintro rfl;omega
theorem Buf.slS {h h0:Hp} {s:Sl} {xs:List Int} (e:Buf (h.sub h0) s 1 (xs.map I)) (hn:s.n<=9223372036854775807):IntS h s xs:=(Buf.slc_of e hn).mono (sub_le _ _)
theorem jr.wid {h:Hp} {s:Sl} {l:List NodeP} (e:jr h s l) {p:Int} (h0:0<=p) (hp:p<l.length):
  ∃b o,s.a=some (Addr.mk b o none)/\p<(s.n:Int)/\Hp.cell h b ((o+p.toNat*9)+6+1)=some (I (aA l p).wid):=by
 obtain⟨n,hn1⟩: ∃n,l[p.toNat]?=some n:=⟨_,List.getElem?_eq_getElem (by omega)⟩
 obtain⟨ba,oa,ha1,_,_,_,_,_,_,c6,c7,_⟩:=e.at hn1
 refine⟨ba,oa,ha1,by have:=e.len;omega,?_⟩
 rw [qG hn1];exact c7
theorem OJ {h:Hp} {l:List NodeP} {i:Nat} {n:NodeP} {sn s:Sl} {v:List (List Nat)} {R:Value->Hp->Prop} (hl:l.length<=60) (hi:i<=l.length)
  (ht:Oz l i n) (hv:yb l i v) (hvl:v.length=i) (hsn:jr h sn l) (hpv:gE h s v) (hk34: ¬n.kind=34) (hk35: ¬n.kind=35) (hk36: ¬n.kind=36)
  (k: ∀t h',h.le h'->IntS h' t (VL (fv l n v))->R (.agg #[Sl.v t]) h'):uw #[sn.v,Ee n,s.v] h R:=by
 obtain⟨val,hnv⟩: ∃val,val=fv l n v:=⟨_,rfl⟩
 rw [<-hnv]at k
 unfold fv at hnv
 apply IH
 refine uf_ ?_
 have hk:=ht.kind
 have hp:0<ar n.kind:=by
  have:ar n.kind≠0:=by intro h0;revert h0;unfold ar;(repeat' split)<;>(intro h;omega)
  omega
 have pk:=ht.part
 have pf: ∀j:Nat,j<3->(j:Int)<ar n.kind->Fit (aA l (aW n j)) (v.getD (aW n j).toNat []):=fun j h1 h2=>hv.part ht hi h1 h2
 refine aj fun b13 h1 hb13 l1 f13=>?_
 refine aj fun b15 h2 hb15 l2 f15=>?_
 have n13:=fresh_ne hb15 f13
 have b15n:=aF l1 hb15
 replace f13:=l2 _ _ f13
 replace l2:=Hp.le_trans l1 l2
 (refine az ?_)
 obtain⟨ba,oa,ta,ha,h1',hca,hta⟩:=(hpv.mono l2).at (pk 0 (by omega) (by omega)).1 (by have:=(pk 0 (by omega) (by omega)).2.1;omega)
 refine⟨ba,oa,ha,(pk 0 (by omega) (by omega)).1,h1',ta,hca,?_⟩
 refine aj fun b22 h3 hb22 l3 f22'=>?_
 have n22:=fresh_ne hb22 f13
 have n22':=fresh_ne hb22 f15
 have b22n:=aF l2 hb22
 (with_reducible apply bZ);(exact f22');(exact l3);(exact hb22);(exact Nat.le_refl 1)
 intro h4 f22 kp l4
 replace f13:=l4 _ _ f13
 replace f15:=l4 _ _ f15
 have l0:=Hp.le_trans l2 l4
 replace hta:=hta.mono l4
 have f22v:h4 b22=some (.inl ⟨[ta.v],1,false⟩):=f22
 clear f22 f22' l1 l2 l3 l4 hb13 hb15 hb22 h1 h2 h3 hca kp
 have res: ∀(h5:Hp) (t:Sl),h.le h5->h5 b15=some (.inl ⟨[.slice none 0 0],1,false⟩)->IntS h5 t (VL val)->
   ∃(cs:List Value) (z:Nat),h5 b15=some (.inl ⟨cs,z,false⟩)/\0+1<=List.length cs/\cA (h5.row b15 (cz cs 0 [t.v]) z) fun h'=> ∃(s:Sl),Hp.cell h' b15 0=some s.v/\R (.agg #[s.v]) h':=by
  intro h5 t l5 g15 hval
  (with_reducible apply bZ);(exact g15);(exact l5);(exact b15n);(exact Nat.le_refl 1)
  intro h6 g kp l6
  exact⟨t,by rw [aq g];rfl,k t h6 l6 (hval.keep g15 kp)⟩
 clear k
 have wres: ∀(x:Nat) (z:Int),z=x->val= [x]->j6 #[I z] h4 fun v30 h31=> ∃(s32:Sl),v30=(.agg #[s32.v])/\(∃(cs33:List Value) (z34:Nat),h31 b15=some (.inl ⟨cs33,z34,false⟩)/\0+1<=List.length cs33/\cA (h31.row b15 (cz cs33 0 [s32.v]) z34) fun h35=> ∃(s36:Sl),Hp.cell h35 b15 0=some s36.v/\(R (.agg #[s36.v]) h35)):=by
  intro x z hz hx
  subst hz
  refine Hl fun t h5 l5 hval=>⟨t,rfl,res h5 t (Hp.le_trans l0 l5) (l5 _ _ f15) ?_⟩
  rw [hx];exact hval
 have cres: ∀(s0:Sl) (x:List Nat),IntS h4 s0 (VL x)->x.length<=4->val=x->gh #[.agg #[s0.v]] h4 fun v30 h31=> ∃(s32:Sl),v30=(.agg #[s32.v])/\(∃(cs33:List Value) (z34:Nat),h31 b15=some (.inl ⟨cs33,z34,false⟩)/\0+1<=List.length cs33/\cA (h31.row b15 (cz cs33 0 [s32.v]) z34) fun h35=> ∃(s36:Sl),Hp.cell h35 b15 0=some s36.v/\(R (.agg #[s36.v]) h35)):=by
  intro s0 x hs0 hx hval
  refine qA hs0 (by rw [aY];omega) fun t h5 l5 hb=>⟨t,rfl,res h5 t (Hp.le_trans l0 l5) (l5 _ _ f15) ?_⟩
  rw [hval];exact hb.slS (by have:=hb.1;rw [List.length_map,aY]at this;omega)
 have hpv4:=hpv.mono l0
 have vat: ∀j:Nat,j<3->(j:Int)<ar n.kind->_:=fun j h1 h2=>hpv4.at (pk j h1 h2).1 (by have:=(pk j h1 h2).2.1;omega)
 have hres:=ht.res hp
 have oa':=cd.1 (pk 0 (by omega) hp).2.2
 rw [if_neg hk34]at hnv
 have hkinds:=kY hp
 have len4: ∀j:Nat,j<3->(j:Int)<ar n.kind->(v.getD (aW n j).toNat []).length<=4:=fun j h1 h2=>by
  have o:=cd.1 (pk j h1 h2).2.2
  rw [(pf j h1 h2).len]
  have:=Nat.pow_le_pow_right (n:=2) (by omega) (show (aA l (aW n j)).idx.toNat<=2 by omega);simpa using this
 obtain⟨bw,ow,hwa,hwl,hwc⟩:=(hsn.mono l0).wid (pk 0 (by omega) (by omega)).1 (by have:=(pk 0 (by omega) (by omega)).2.1;omega)
 (refine az ?_)
 refine⟨bw,ow,hwa,(pk 0 (by omega) (by omega)).1,hwl,_,hwc,?_⟩
 have ta0:=hta.elt (pf 0 (by omega) (by omega)).pos
 obtain⟨b0,o0,a0,e0,m0⟩:=ta0
 refine ap (fun J=> ∀x:Nat,val= [x]->J x h4) ?_ (fun J hJ=>?_)
 ·intro x hx;exact wres x x rfl hx
 (refine az ?_)
 refine ac (fun e=>?_) (fun e33=>?_)
 ·have e:=bV e
  have hp3:ar n.kind=3:=by omega
  rw [if_pos e]at hnv
  (refine az ?_)
  refine⟨b0,o0,a0,by omega,by omega,_,e0,?_⟩
  refine ac (fun e=>?_) (fun e=>?_)
  ·(refine az ?_)
   obtain⟨b,o,t,ha,h1,h2,h3'⟩:=vat 1 (by omega) (by omega)
   refine⟨b,o,ha,(pk 1 (by omega) (by omega)).1,h1,t,h2,cres t _ h3' (len4 1 (by omega) (by omega)) ?_⟩
   have:cB v n.a=1:=by have:=bV e;unfold cB;simp only [aW]at this;omega
   rw [hnv,if_pos this];rfl
  ·(refine az ?_)
   obtain⟨b,o,t,ha,h1,h2,h3'⟩:=vat 2 (by omega) (by omega)
   refine⟨b,o,ha,(pk 2 (by omega) (by omega)).1,h1,t,h2,cres t _ h3' (len4 2 (by omega) (by omega)) ?_⟩
   have: ¬cB v n.a=1:=by have:=bk e;unfold cB;simp only [aW]at this;omega
   rw [hnv,if_neg this];rfl
 replace e33:=bk e33
 rw [if_neg e33]at hnv
 (refine az ?_)
 refine ac (fun e=>?_) (fun e37=>?_)
 ·have e:=bV e
  have hp2:ar n.kind=2:=by omega
  obtain⟨r1,r2,r3⟩:=Q9 e hres
  rw [if_neg (show¬n.kind=21 by omega),if_pos e]at hnv
  repeat' (refine az ?_)
  obtain⟨b,o,t,ha,h1,h2,h3'⟩:=vat 1 (by omega) (by omega)
  obtain⟨b2,o2,ha2,hc2,hl2⟩:=h3'.elt (pf 1 (by omega) (by omega)).pos
  refine⟨b,o,ha,(pk 1 (by omega) (by omega)).1,h1,t,h2,b2,o2,ha2,by omega,by omega,_,hc2,?_⟩
  have fb:=(pf 1 (by omega) (by omega)).cell
  have fa:=(pf 0 (by omega) (by omega)).len
  simp only [aW]at fb fa hta
  rw [r2]at fb
  have hlt:cB v n.b<(v.getD n.a.toNat []).length:=by rw [fa];exact fb
  obtain⟨b3,o3,ha3,hc3,hl3⟩:=hta.elt hlt
  refine⟨b3,o3,ha3,by omega,by show (cB v n.b:Int)<_;omega,_,hc3,?_⟩
  exact wres _ _ rfl hnv
 replace e37:=bk e37
 (refine az ?_)
 refine ac (fun e=>?_) (fun e38=>?_)
 ·have e:=bV e
  have hp3:ar n.kind=3:=by omega
  obtain⟨r1,r2,r3,r4⟩:=QM e hres
  rw [if_neg (show¬n.kind=21 by omega),if_neg e37,if_pos e]at hnv
  repeat' (refine az ?_)
  have fb:=(pf 1 (by omega) (by omega)).cell
  have fa:=(pf 0 (by omega) (by omega)).len
  have hle4:=len4 0 (by omega) (by omega)
  simp only [aW]at fb fa hta hle4
  rw [r2]at fb
  have hlt:cB v n.b<(v.getD n.a.toNat []).length:=by rw [fa];exact fb
  refine qA hta (by rw [aY];omega) fun c h5 l5 hb5=>⟨c,rfl,?_⟩
  have hcn:c.n=(v.getD n.a.toNat []).length:=by have:=hb5.1;rw [List.length_map,aY]at this;omega
  obtain⟨bc,hca,hcrow⟩: ∃bc,c.a=some ⟨bc,0,none⟩/\(h5.sub h4) bc=some (.inl ⟨(VL (v.getD n.a.toNat [])).map I,c.c*1,false⟩):=by
   rcases hb5.2.2 with ⟨_,h0,_⟩|h0
   ·omega
   ·exact h0
  have hc5:h5 bc=some (.inl ⟨(VL (v.getD n.a.toNat [])).map I,c.c*1,false⟩):=sub_le _ _ _ _ hcrow
  have hc3:h4 bc=none:=by
   cases hx:h4 bc with
   |none=>rfl
   |some x=>rw [ml hx]at hcrow;cases hcrow
  have g13:=l5 _ _ f13
  have g15:=l5 _ _ f15
  refine aj fun b24 h6 hb24 l6 f24'=>?_
  have m13:=fresh_ne hb24 g13
  have m15:=fresh_ne hb24 g15
  have mc:=fresh_ne hb24 hc5
  have hb24n:=aF l5 hb24
  (with_reducible apply bZ);(exact f24');(exact Hp.le_trans l5 l6);(exact hb24n);(exact Nat.le_refl 1)
  intro h7 f24 kp l7
  replace g13:=cm kp m13 (l6 _ _ g13)
  replace g15:=cm kp m15 (l6 _ _ g15)
  have gc:=cm kp mc (l6 _ _ hc5)
  have hpv7:=hpv4.mono l7
  refine⟨c,by rw [aq f24];rfl,?_⟩
  (refine az ?_)
  obtain⟨b,o,t,ha,h1,h2,h3'⟩:=hpv7.at (pk 1 (by omega) (by omega)).1 (by have:=(pk 1 (by omega) (by omega)).2.1;omega)
  obtain⟨b2,o2,ha2,hc2,hl2⟩:=h3'.elt (pf 1 (by omega) (by omega)).pos
  refine⟨b,o,ha,(pk 1 (by omega) (by omega)).1,h1,t,h2,b2,o2,ha2,by omega,by omega,_,hc2,?_⟩
  (refine az ?_)
  obtain⟨b',o',t',ha',h1',h2',h3''⟩:=hpv7.at (pk 2 (by omega) (by omega)).1 (by have:=(pk 2 (by omega) (by omega)).2.1;omega)
  obtain⟨b2',o2',ha2',hc2',hl2'⟩:=h3''.elt (pf 2 (by omega) (by omega)).pos
  refine⟨b',o',ha',(pk 2 (by omega) (by omega)).1,h1',t',h2',b2',o2',ha2',by omega,by omega,_,hc2',?_⟩
  refine⟨bc,0,hca,by omega,by show (cB v n.b:Int)<_;omega,?_⟩
  (with_reducible apply bZ);(exact gc);(exact l7);(exact hc3);(rw [List.length_map,aY];show 0+Int.toNat (cB v n.b:Int)*1+1<=_;omega)
  intro h8 gc' kp8 l8
  have n24:b24≠bc:=fun e=>mc e.symm
  have n15c:b15≠bc:=fun e=>by subst e;rw [hc3]at f15;cases f15
  replace f24:=cm kp8 n24 f24
  refine⟨c,by rw [aq f24];rfl,?_⟩
  refine res h8 c (Hp.le_trans l0 l8) (cm kp8 n15c g15) ?_
  have hcells:cz ((VL (v.getD n.a.toNat [])).map I) (0+Int.toNat (cB v n.b:Int)*1) [I (cB v n.c)]=(VL val).map I:=by
   rw [hnv,bJ,Int.toNat_natCast,Nat.mul_one,Nat.zero_add]
   simp [VL,List.map_set]
  have gc2:h8 bc=some (.inl ⟨cz ((VL (v.getD n.a.toNat [])).map I) (0+Int.toNat (cB v n.b:Int)*1) [I (cB v n.c)],c.c*1,false⟩):=gc'
  rw [hcells]at gc2
  refine⟨by omega,by simp [aY,hnv,hcn], .inr ⟨bc,0,hca,ay gc2⟩⟩
 replace e38:=bk e38
 (refine az ?_)
 refine ac (fun e=>?_) (fun e21=>?_)
 ·have e:=bV e
  have hp2:ar n.kind=2:=by omega
  obtain⟨r1,_⟩:=V9 e hres
  rw [if_pos e]at hnv
  repeat' (refine az ?_)
  obtain⟨b',o',t',ha',h1',h2',h3''⟩:=vat 1 (by omega) (by omega)
  refine⟨b',o',ha',(pk 1 (by omega) (by omega)).1,h1',t',h2',?_⟩
  have hl4:=len4 0 (by omega) (by omega)
  have fl:=(pf 0 (by omega) (by omega)).len
  have fl':=(pf 1 (by omega) (by omega)).len
  simp only [aW]at fl fl'
  rw [<-r1]at fl'
  refine xr hta h3'' (by rw [aY];omega) (by rw [aY,aY];simp only [aW];omega) ⟨_,rfl,pM ⟨_,rfl,?_⟩⟩
  refine wres _ _ ?_ hnv
  simp only [aW,H4]
  split<;>simp_all
 replace e21:=bk e21
 rw [if_neg e21,if_neg e37,if_neg e38]at hnv
 simp only [aW]at oa'
 have word0: ∀wn:Nat,(aA l n.a).wid=wn->WO wn (cB v n.a):=fun wn hw=>by
  have:=(pf 0 (by omega) (by omega)).cell
  simp only [aW]at this
  rw [hw]at this
  exact⟨by omega,this⟩
 obtain⟨wa,hwa'⟩: ∃wn:Nat,(aA l n.a).wid=wn:=⟨(aA l n.a).wid.toNat,by omega⟩
 have hwo:=word0 wa hwa'
 have h16:=hwo.pow
 have hlta:=hwo.2
 rw [hwa',Int.toNat_natCast]at hnv
 have e0':Hp.cell h4 b0 (o0+0*1)=some (I (cB v n.a)):=e0
 have hsw:(aA l (aW n 0)).wid=(wa:Int):=hwa'
 rw [hsw]
 (refine az ?_)
 refine ac (fun e=>?_) (fun e29=>?_)
 ·have e:=bV e
  have hp2:ar n.kind=2:=by omega
  obtain⟨r1,r2,r3,r4⟩:=QL e hres
  rw [if_pos e]at hnv
  have ob:=cd.1 (pk 1 (by omega) (by omega)).2.2
  simp only [aW]at ob
  obtain⟨wb,hwb⟩: ∃wn:Nat,(aA l n.b).wid=wn:=⟨(aA l n.b).wid.toNat,by omega⟩
  have hltb:=(pf 1 (by omega) (by omega)).cell
  simp only [aW]at hltb
  rw [hwb,Int.toNat_natCast]at hltb
  rw [hwb,Int.toNat_natCast]at hnv
  obtain⟨bw2,ow2,hwa2,hwl2,hwc2⟩:=(hsn.mono l0).wid (pk 1 (by omega) (by omega)).1 (by have:=(pk 1 (by omega) (by omega)).2.1;omega)
  simp only [aW]at hwc2
  rw [hwb]at hwc2
  (refine az ?_)
  refine⟨b0,o0,a0,by omega,by omega,_,e0',?_⟩
  (refine az ?_)
  refine⟨bw2,ow2,hwa2,(pk 1 (by omega) (by omega)).1,hwl2,_,hwc2,?_⟩
  (refine az ?_)
  obtain⟨b',o',t',ha',h1',h2',h3''⟩:=vat 1 (by omega) (by omega)
  obtain⟨b2',o2',ha2',hc2',hl2'⟩:=h3''.elt (pf 1 (by omega) (by omega)).pos
  refine⟨b',o',ha',(pk 1 (by omega) (by omega)).1,h1',t',h2',b2',o2',ha2',by omega,by omega,_,hc2',?_⟩
  exact JC hwo ⟨by omega,hltb⟩ (by omega) ⟨_,_,_,rfl,hJ _ hnv⟩
 replace e29:=bk e29
 rw [if_neg e29]at hnv
 (refine az ?_)
 refine ac (fun e=>?_) (fun e30=>?_)
 ·have e:=bV e
  obtain⟨r1,r2,r3⟩:=Rx e hres
  rw [if_pos e]at hnv
  obtain⟨lo,hlo⟩: ∃z:Nat,n.m=z:=⟨n.m.toNat,by omega⟩
  obtain⟨hh,hhh⟩: ∃z:Nat,n.n=z:=⟨n.n.toNat,by omega⟩
  (refine az ?_)
  refine⟨b0,o0,a0,by omega,by omega,_,e0',?_⟩
  repeat' (refine az ?_)
  rw [hlo,hhh]
  refine Gh hwo (by omega) (by omega) ⟨_,_,_,rfl,hJ _ ?_⟩
  rw [hnv,hlo,hhh]
  unfold Qa
  rw [Int.toNat_natCast,show ((hh:Int)-(lo:Int)+1).toNat=hh-lo+1 by omega]
 replace e30:=bk e30
 rw [if_neg e30]at hnv
 refine ap (fun J=>J (decide (n.kind=31\/n.kind=32))) ?_ (fun J2 hJ2=>?_)
 rotate_left
 ·clear res wres cres vat hJ
  repeat' (first|(with_reducible first|refine aM (b:=true) rfl ?_|refine aE (b:=false) rfl ?_|refine ac (fun _=>?_) fun _=>?_)|(refine az ?_)|(refine fJ ?_ hJ2))
  all_goals (clear hJ2;rw [Bool.eq_iff_iff];simp_all)
 refine ac (fun e=>?_) (fun e31=>?_)
 ·have e:=of_decide_eq_true e
  obtain⟨r1,r2,r3⟩:=Rp e hres
  rw [if_pos e]at hnv
  obtain⟨mo,hmo⟩: ∃z:Nat,n.n=z:=⟨n.n.toNat,by omega⟩
  (refine az ?_)
  refine⟨b0,o0,a0,by omega,by omega,_,e0',?_⟩
  repeat' (refine az ?_)
  rw [hmo]
  refine IY hwo (by omega) ⟨_,_,_,rfl,hJ _ ?_⟩
  rw [hnv,hmo,Int.toNat_natCast];rfl
 replace e31:=of_decide_eq_false e31
 rw [if_neg e31]at hnv
 (refine az ?_)
 refine lz ⟨_,rfl,ac (fun e=>?_) (fun e1=>?_)⟩
 ·have e:=bV e
  rw [if_pos e]at hnv
  repeat' (refine az ?_)
  refine⟨b0,o0,a0,by omega,by omega,_,e0',?_⟩
  exact CB (by omega) hwo ⟨_,_,_,rfl,hJ _ hnv⟩
 ·replace e1:=bk e1
  rw [if_neg e1]at hnv
  have hp2:ar n.kind=2:=by omega
  obtain⟨r1,r2,r3⟩:=Yy (by omega) hres
  have hltb:=(pf 1 (by omega) (by omega)).cell
  simp only [aW]at hltb
  rw [<-r2,hwa',Int.toNat_natCast]at hltb
  repeat' (refine az ?_)
  refine⟨b0,o0,a0,by omega,by omega,_,e0',?_⟩
  (refine az ?_)
  obtain⟨b',o',t',ha',h1',h2',h3''⟩:=vat 1 (by omega) (by omega)
  obtain⟨b2',o2',ha2',hc2',hl2'⟩:=h3''.elt (pf 1 (by omega) (by omega)).pos
  refine⟨b',o',ha',(pk 1 (by omega) (by omega)).1,h1',t',h2',b2',o2',ha2',by omega,by omega,_,hc2',?_⟩
  exact Bq (by omega) hwo ⟨hwo.1,hltb⟩ ⟨_,_,_,rfl,hJ _ hnv⟩
theorem u9 (ts:List Sl):wA (ts.map Sl.v):=by
 have:=CQ ts 0
 simpa using this
theorem IntS.offL {h:Hp} {s t:Sl} {xs:List Int} {ts:List Sl} (e:IntS h t xs) (hb:Buf h s 1 (ts.map Sl.v)):IntS (h.offS s) t xs:=by
 rcases hb.2.2 with ⟨ha,_,_⟩|⟨b,ha,hbb⟩
 ·unfold Hp.offS;rw [ha];exact e
 ·have ho:h.offS s=h.off b:=by unfold Hp.offS;rw [ha]
  rw [ho]
  refine e.keepN hbb (u9 ts) fun c hc=>?_
  simp only [Hp.off,Hp.set];rw [if_neg hc]
theorem Buf.pval {h:Hp} {s:Sl} {ts:List Sl} {vs:List (List Nat)} (e:Buf h s 1 (ts.map Sl.v)) (hlen:ts.length=vs.length) (hn:s.n<=1048576) (ht: ∀(j:Nat) (t:Sl),ts[j]?=some t->IntS h t (VL (vs.getD j []))):gE h s vs:=by
 have hl:=e.1
 simp at hl
 refine⟨by omega,hn,fun p hp=>?_⟩
 rcases e.2.2 with ⟨_,h0,_⟩|⟨b,ha,hbb⟩
 ·omega
 ·refine⟨b,0,ts[p]'(by omega),ha,?_,ht p _ (List.getElem?_eq_getElem (by omega))⟩
  rw [aq hbb,Nat.zero_add,Nat.mul_one,List.getElem?_map,List.getElem?_eq_getElem (by omega)];rfl
def XU (h:Hp) (s:Sl):Prop:= ∀b o,s.a=some (Addr.mk b o none)->h b=none
theorem pT {h:Hp} {M:MSl} {m:ah} {sS sI:Sl} {st inp:List (List Nat)} {R:Value->Hp->Prop} (hs:aO h M m) (hm:bW m) (hok:cv m.nodes=true) (hl:m.nodes.length<=60)
  (h1:IntSS h sS (st.map VL)) (f1:zV m.nodes 36 st) (h2:IntSS h sI (inp.map VL)) (f2:zV m.nodes 35 inp)
  (k: ∀t h',h.le h'->t.n=m.nodes.length->gE h' t (fX m.nodes st inp m.nodes.length)->XU h t->R (Sl.v t) h'):dc #[aQ M,sS.v,sI.v] h R:=by
 apply Ma
 refine uf_ ?_
 have hn:=hs.nodes.len
 have hsn:sS.n=st.length:=by obtain⟨ts,e1,e2,_⟩:=h1;have:=e2.2.1;simp at this e1;omega
 have hin:sI.n=inp.length:=by obtain⟨ts,e1,e2,_⟩:=h2;have:=e2.2.1;simp at this e1;omega
 refine aj fun b9 h3 hb9 l3 f9=>?_
 refine av m.nodes.length (fun i vs h'=> ∃(ts:List Sl) (out:Sl),vs= [sS.v,sI.v, .pointer (some ⟨b9,0,none⟩),out.v,I (aH (m.nodes.take i) 36).length,I (aH (m.nodes.take i) 35).length,I i]/\
  h.le (h'.offS out)/\(h'.offS out) b9=some (.inl ⟨aw M,5,false⟩)/\out.n=i/\ts.length=i/\Buf h' out 1 (ts.map Sl.v)/\
  (∀(j:Nat) (t:Sl),ts[j]?=some t->IntS (h'.offS out) t (VL ((fX m.nodes st inp i).getD j []))))
  ⟨[],⟨none,0,0⟩,rfl,l3,f9,rfl,rfl,eY _ _,fun j t ht=>by simp at ht⟩ ?_
 clear f9 l3 hb9 h3
 rintro i _ h3 next hi ⟨ts,out,rfl,l3,f9,hon,htl,hbuf,hts⟩ hnx
 have lo:=bz h3 out
 have f9':=lo _ _ f9
 have l3':=Hp.le_trans l3 lo
 refine⟨sS,sI,_,_,out,_,_,_,rfl,?_⟩
 (refine az ?_)
 by_cases hlt:i<m.nodes.length
 rotate_left
 ·have hie:i=m.nodes.length:=by omega
  subst hie
  refine aE (by simp;omega) (k out h3 l3' hon ?_ fun b o hb=>?_)
  ·exact hbuf.pval (by rw [dp];omega) (by omega) fun j t ht=>(hts j t ht).mono lo
  ·cases hx:h b with
   |none=>rfl
   |some x=>have:=l3 _ _ hx;simp [Hp.offS,hb,Hp.off,Hp.set]at this
 refine aM (by simp;omega) ?_
 obtain⟨n,hni⟩: ∃n,m.nodes[i]?=some n:=⟨_,List.getElem?_eq_getElem hlt⟩
 obtain⟨b,o,ha,e0,e1,e2,e3,e4,e5,e6,e7,e8⟩:=(hs.nodes.mono l3').at hni
 (refine az ?_)
 refine⟨b,o,ha,by omega,by omega,_,e0,_,e1,_,e2,_,e3,_,e4,_,e5,_,e6,_,e7,_,e8,?_⟩
 refine aj fun b44 h4 hb44 l4 f44'=>?_
 (with_reducible apply bZ);(exact f44');(exact l4);(exact hb44);(exact Nat.le_refl 9)
 intro h5 f44 kp l5
 clear f44' kp l4
 refine aj fun b50 h6 hb50 l6 f50'=>?_
 have n44:=fresh_ne hb50 f44
 have b50n:=aF l5 hb50
 replace f44:=l6 _ _ f44
 (with_reducible apply bZ);(exact f50');(exact Hp.le_trans l5 l6);(exact b50n);(exact Nat.le_refl 1)
 intro h7 f50 kp l7
 replace f44:=cm kp n44 f44
 have f50v:h7 b50=some (.inl ⟨[.slice none 0 0],1,false⟩):=f50
 have f9'':=l7 _ _ f9'
 clear f50 f50' kp l5 l6 hb44 hb50 h4 h5 h6
 have l07:=Hp.le_trans l3' l7
 have hnext36:=tP (kind:=36) hni
 have hnext35:=tP (kind:=35) hni
 have hev:=wh (s:=st) (inp:=inp) hni
 have hb36:(aH (m.nodes.take i) 36).length<=i:=by
  unfold aH
  refine Nat.le_trans (List.length_filter_le _ _) ?_
  rw [List.length_range,List.length_take];omega
 have hb35:(aH (m.nodes.take i) 35).length<=i:=by
  unfold aH
  refine Nat.le_trans (List.length_filter_le _ _) ?_
  rw [List.length_range,List.length_take];omega
 (refine az ?_)
 refine ap (fun J=> ∀(t:Sl) (x:List Nat) (h8:Hp),h3.le h8->h8 b50=some (.inl ⟨[t.v],1,false⟩)->IntS h8 t (VL x)->fX m.nodes st inp (i+1)=fX m.nodes st inp i++ [x]->
  J ((aH (m.nodes.take (i+1)) 36).length:Nat) ((aH (m.nodes.take (i+1)) 35).length:Nat) h8) ?_ (fun J hJ=>?_)
 ·intro t x h8 l8 g50 hval hev'
  (refine az ?_)
  refine aj fun b113 h9 hb113 l9 f113=>?_
  have l39:=Hp.le_trans l8 l9
  have l39o:=bQ out l39
  refine dx (hbuf.mono l39) (by omega) (by omega) (by omega) ⟨b113,0,rfl,ay f113⟩ (by simp) rfl ?_
  intro s' h10 hs'n hbuf' l10 _
  rw [aC (by omega)]
  have l310:=Hp.le_trans l39o l10
  have hbuf'':Buf h10 s' 1 ((ts++ [t]).map Sl.v):=by rw [List.map_append];exact hbuf'
  refine hnx hlt _ _ ⟨ts++ [t],s',rfl,Hp.le_trans l3 l310,l310 _ _ f9,by omega,by simp;omega,hbuf'',fun j u hu=>?_⟩
  by_cases hj:j<i
  ·rw [List.getElem?_append_left (by omega)]at hu
   rw [hev',ia (by rw [dp];omega)]
   exact(hts j u hu).mono l310
  ·have hju:=get_lt hu
   simp at hju
   have hje:j=i:=by omega
   subst hje
   rw [List.getElem?_append_right (by omega),htl,Nat.sub_self]at hu
   simp at hu;subst hu
   rw [hev',List.getD_eq_getElem?_getD,List.getElem?_append_right (by rw [dp];omega),dp,Nat.sub_self]
   exact((hval.mono l9).offL (hbuf.mono l39)).mono l10
 have put: ∀(h8:Hp) (t:Sl) (x:List Nat) (P:Hp->Prop),h7.le h8->IntS h8 t (VL x)->(∀h9,h3.le h9->h9 b50=some (.inl ⟨[t.v],1,false⟩)->IntS h9 t (VL x)->P h9)->
   ∃(cs:List Value) (z:Nat),h8 b50=some (.inl ⟨cs,z,false⟩)/\0+1<=List.length cs/\cA (h8.row b50 (cz cs 0 [t.v]) z) fun h'=>P h':=by
  intro h8 t x P l8 hval hP
  have g50:=l8 _ _ f50v
  (with_reducible apply bZ);(exact g50);(exact Hp.le_trans l7 l8);(exact b50n);(exact Nat.le_refl 1)
  intro h9 g kp l9
  exact hP h9 l9 g (hval.keep g50 kp)
 have hpv7:gE h7 out (fX m.nodes st inp i):=(hbuf.pval (by rw [dp];omega) (by omega) fun j t ht=>(hts j t ht).mono lo).mono l7
 have hfit:=zh hok f1 f2 i (Nat.le_of_lt hlt)
 have htyp:=u5 hok hni
 refine ac (fun e=>?_) (fun e34=>?_)
 ·have e:=bV e
  rw [if_neg (by omega)]at hnext36 hnext35
  rw [if_neg (by omega),if_neg (by omega)]at hev
  obtain⟨c1,c2⟩:=htyp.const e
  have:=jX.1 c2
  have hx:fv m.nodes n (fX m.nodes st inp i)= [n.n.toNat]:=by unfold fv;rw [if_pos e]
  (refine az ?_)
  refine Hl fun t h8 l8 hval=>⟨t,rfl,put h8 t [n.n.toNat] _ l8 ?_ fun h9 l9 g50 hv9=>?_⟩
  ·have:VL [n.n.toNat]= [n.n]:=by simp [VL];omega
   rw [this];exact hval
  ·have:=hJ t _ h9 l9 g50 hv9 (by rw [hev,hx])
   rw [hnext36,hnext35,Nat.add_zero,Nat.add_zero]at this;exact this
 replace e34:=bk e34
 refine ac (fun e=>?_) (fun e36=>?_)
 ·have e:=bV e
  rw [if_pos e]at hnext36 hev
  rw [if_neg (by omega)]at hnext35
  have hlt36:=zj hni e
  have hfk:=f1.2 _ _ (pF hni e)
  have hfs:aA m.nodes ((i:Nat):Int)=n.sort:=by unfold aA;rw [Int.toNat_natCast,hni]
  rw [hfs]at hfk
  rw [<-f1.1]at hlt36
  obtain⟨bs,os,t,ha,hc,ht⟩:=(h1.mono l07).at (i:=(aH (m.nodes.take i) 36).length) (by simpa using hlt36)
  have hst:(st.map VL)[(aH (m.nodes.take i) 36).length]'(by simpa using hlt36)=VL (st.getD (aH (m.nodes.take i) 36).length []):=by
   rw [List.getElem_map,List.getD_eq_getElem?_getD,List.getElem?_eq_getElem hlt36];rfl
  rw [hst]at ht
  have hso:=cd.1 htyp.sort
  have hlen4:(st.getD (aH (m.nodes.take i) 36).length []).length<=4:=by
   rw [hfk.len];have:=Nat.pow_le_pow_right (n:=2) (by omega) (show n.sort.idx.toNat<=2 by omega);simpa using this
  refine⟨bs,os,ha,by omega,by omega,t,by rw [Int.toNat_natCast,Nat.mul_one];exact hc,?_⟩
  refine qA ht (by rw [aY];omega) fun c h8 l8 hb8=>⟨c,rfl,put h8 c _ _ l8 (hb8.slS (by have:=hb8.1;rw [List.length_map,aY]at this;omega)) fun h9 l9 g50 hv9=>?_⟩
  have:=hJ c _ h9 l9 g50 hv9 hev
  rw [hnext36,hnext35,Nat.add_zero]at this
  rw [aC (by omega)];exact this
 replace e36:=bk e36
 rw [if_neg e36]at hnext36 hev
 refine ac (fun e=>?_) (fun e35=>?_)
 ·have e:=bV e
  rw [if_pos e]at hnext35 hev
  have hlt35:=zj hni e
  have hfk:=f2.2 _ _ (pF hni e)
  have hfs:aA m.nodes ((i:Nat):Int)=n.sort:=by unfold aA;rw [Int.toNat_natCast,hni]
  rw [hfs]at hfk
  rw [<-f2.1]at hlt35
  obtain⟨bs,os,t,ha,hc,ht⟩:=(h2.mono l07).at (i:=(aH (m.nodes.take i) 35).length) (by simpa using hlt35)
  have hst:(inp.map VL)[(aH (m.nodes.take i) 35).length]'(by simpa using hlt35)=VL (inp.getD (aH (m.nodes.take i) 35).length []):=by
   rw [List.getElem_map,List.getD_eq_getElem?_getD,List.getElem?_eq_getElem hlt35];rfl
  rw [hst]at ht
  have hso:=cd.1 htyp.sort
  have hlen4:(inp.getD (aH (m.nodes.take i) 35).length []).length<=4:=by
   rw [hfk.len];have:=Nat.pow_le_pow_right (n:=2) (by omega) (show n.sort.idx.toNat<=2 by omega);simpa using this
  refine⟨bs,os,ha,by omega,by omega,t,by rw [Int.toNat_natCast,Nat.mul_one];exact hc,?_⟩
  refine qA ht (by rw [aY];omega) fun c h8 l8 hb8=>⟨c,rfl,put h8 c _ _ l8 (hb8.slS (by have:=hb8.1;rw [List.length_map,aY]at this;omega)) fun h9 l9 g50 hv9=>?_⟩
  have:=hJ c _ h9 l9 g50 hv9 hev
  rw [hnext36,hnext35,Nat.add_zero]at this
  rw [aC (by omega)];exact this
 replace e35:=bk e35
 rw [if_neg e35]at hnext35 hev
 repeat' (refine az ?_)
 refine OJ (n:=n) hl (Nat.le_of_lt hlt) htyp hfit (dp _ _ _ _) (hs.nodes.mono l07) hpv7 e34 e35 e36 fun t h8 l8 hval=>⟨t,rfl,put h8 t _ _ l8 hval fun h9 l9 g50 hv9=>?_⟩
 have:=hJ t _ h9 l9 g50 hv9 hev
 rw [hnext36,hnext35,Nat.add_zero,Nat.add_zero]at this;exact this
theorem HN {l:List NodeP} {kind:Int} {p:Nat} (h:p∈aH l kind): ∃n,l[p]?=some n/\n.kind=kind:=by
 unfold aH at h
 rw [List.mem_filter,List.mem_range]at h
 cases hn:l[p]? with
 |none=>rw [hn]at h;exact absurd h.2 Bool.false_ne_true
 |some n=>rw [hn]at h;exact⟨n,rfl,by simpa using h.2⟩
theorem Ez (l:List NodeP) (hok:cv l=true) (kind:Int):cC l (aH l kind)=ak l kind:=by
 have key: ∀i,i<=l.length->cC l (aH (l.take i) kind)=ak (l.take i) kind:=by
  intro i
  induction i with
  |zero=>intro _;simp [aH,cC,ak]
  |succ i ih=>
   intro hi
   obtain⟨n,hn⟩: ∃n,l[i]?=some n:=⟨_,List.getElem?_eq_getElem (by omega)⟩
   rw [jj hn,C1 kind hn,<-ih (by omega)]
   have hs:=cd.1 (u5 hok hn).sort
   have hsa:aA l ((i:Nat):Int)=n.sort:=by unfold aA;rw [Int.toNat_natCast,hn]
   by_cases hk:n.kind=kind
   ·rw [if_pos hk,if_pos hk]
    unfold cC
    rw [List.map_append,List.sum_append]
    simp only [List.map_cons,List.map_nil,List.sum_cons,List.sum_nil,Nat.add_zero]
    unfold cj aK dR
    rw [hsa,Nat.mul_comm]
   ·rw [if_neg hk,if_neg hk,List.append_nil,Nat.add_zero]
 have:=key l.length (Nat.le_refl _)
 rwa [List.take_of_length_le (Nat.le_refl _)]at this
theorem GL {l:List NodeP} (hok:cv l=true) (kind:Int) (code:Nat):zV l kind (fu l (aH l kind) code):=by
 refine⟨lj _ _ _,fun k p hp=>?_⟩
 rw [GA hp]
 obtain⟨n,hn,_⟩:=HN (List.mem_of_getElem? hp)
 have hsa:aA l ((p:Nat):Int)=n.sort:=by unfold aA;rw [Int.toNat_natCast,hn]
 have hso:=(u5 hok hn).sort
 refine⟨?_,fun x hx=>RH hx⟩
 rw [qx]
 unfold aK cT
 rw [hsa,if_pos hso]
theorem uF (a b:List Nat):VL (a++b)=VL a++VL b:=by simp [VL]
theorem mP {h:Hp} {M:MSl} {m:ah} {kind:Int} {R:Value->Hp->Prop} (hs:aO h M m) (hm:bW m)
  (k: ∀t h',h.le (h'.offS t)->t.n<=m.nodes.length->Buf h' t 1 ((VL (aH m.nodes kind)).map I)->R (Sl.v t) h'):bO #[aQ M,I kind] h R:=by
 apply zJ
 refine uf_ ?_
 have hn:=hs.nodes.len
 have hns:=hm.nodes
 refine aj fun b8 h1 hb8 l1 f8=>?_
 (refine az ?_)
 refine av m.nodes.length (fun i vs h'=> ∃out:Sl,vs= [I kind,out.v,M.no.v,I M.no.n,I i]/\h.le (h'.offS out)/\out.n<=i/\Buf h' out 1 ((VL (aH (m.nodes.take i) kind)).map I)) ⟨⟨none,0,0⟩,rfl,l1,Nat.le_refl _,by simp [aH,VL];exact eY _ _⟩ ?_
 clear l1 f8 hb8 h1
 rintro i _ h1 next hi ⟨out,rfl,l1,hon,hbuf⟩ hnx
 have lo:=bz h1 out
 have l1':=Hp.le_trans l1 lo
 refine⟨_,out,M.no,_,_,rfl,?_⟩
 by_cases hlt:i<m.nodes.length
 ·refine aM (by simp;omega) ?_
  obtain⟨n,hni⟩: ∃n,m.nodes[i]?=some n:=⟨_,List.getElem?_eq_getElem hlt⟩
  obtain⟨b,o,ha,e0,e1,e2,e3,e4,e5,e6,e7,e8⟩:=(hs.nodes.mono l1').at hni
  refine⟨b,o,ha,by omega,by omega,_,e0,_,e1,_,e2,_,e3,_,e4,_,e5,_,e6,_,e7,_,e8,?_⟩
  refine aj fun b36 h2 hb36 l2 f36=>?_
  (with_reducible apply bZ);(exact f36);(exact l2);(exact hb36);(exact Nat.le_refl 9)
  intro h3 f36' kp l3
  have hpre:=jj (kind:=kind) hni
  have l3o:=bQ out l3
  (refine az ?_)
  rw [aC (by omega)]
  refine ac (fun e=>?_) (fun e=>?_)
  ·rw [if_pos (bV e)]at hpre
   refine aj fun b44 h4 hb44 l4 f44=>?_
   have l4o:=bQ out l4
   refine dx (hbuf.mono (Hp.le_trans l3 l4)) (by omega) (by omega) (by omega) ⟨b44,0,rfl,ay f44⟩ (by simp) rfl ?_
   intro s' h5 hs'n hbuf' l5 _
   refine hnx hlt _ _ ⟨s',rfl,Hp.le_trans l1 (Hp.le_trans l3o (Hp.le_trans l4o l5)),by omega,?_⟩
   rw [hpre,uF,List.map_append];exact hbuf'
  ·rw [if_neg (bk e),List.append_nil]at hpre
   refine hnx hlt _ _ ⟨out,rfl,Hp.le_trans l1 l3o,by omega,?_⟩
   rw [hpre];exact hbuf.mono l3
 ·refine aE (by simp;omega) (k out h1 l1 (by omega) ?_)
  rw [List.take_of_length_le (by omega)]at hbuf
  exact hbuf
theorem eo {h:Hp} {M:MSl} {m:ah} {kind:Int} {R:Value->Hp->Prop} (hs:aO h M m) (hm:bW m)
  (k: ∀t h',h.le h'->IntS h' t (VL (aH m.nodes kind))->R (Sl.v t) h'):bO #[aQ M,I kind] h R:=
 mP hs hm fun t h' l hn hb=>k t h' (Hp.le_trans l (bz _ _)) (hb.slc_of (by have:=hm.nodes;omega))
theorem cU {h:Hp} {M:MSl} {m:ah} {kind:Int} {R:Value->Hp->Prop} (hs:aO h M m) (hm:bW m)
  (k: ∀t h',h.le h'->IntS h' t (VL (aH m.nodes kind))->R (Sl.v t) h'):aU #[aQ M,I kind] h R:=by
 apply Fo
 refine uf_ ?_
 have hn:=hs.nodes.len
 have hns:=hm.nodes
 refine aj fun b8 h1 hb8 l1 f8=>?_
 refine av m.nodes.length (fun i vs h'=> ∃out:Sl,vs= [I kind, .pointer (some ⟨b8,0,none⟩),out.v,I i]/\h.le (h'.offS out)/\(h'.offS out) b8=some (.inl ⟨aw M,5,false⟩)/\out.n<=i/\Buf h' out 1 ((VL (aH (m.nodes.take i) kind)).map I)) ⟨⟨none,0,0⟩,rfl,l1,f8,Nat.le_refl _,by simp [aH,VL];exact eY _ _⟩ ?_
 clear l1 f8 hb8 h1
 rintro i _ h1 next hi ⟨out,rfl,l1,f8,hon,hbuf⟩ hnx
 have lo:=bz h1 out
 have l1':=Hp.le_trans l1 lo
 have f8':=lo _ _ f8
 refine⟨_,_,_,out,_,rfl,?_⟩
 (refine az ?_)
 by_cases hlt:i<m.nodes.length
 ·refine aM (by simp;omega) ?_
  obtain⟨n,hni⟩: ∃n,m.nodes[i]?=some n:=⟨_,List.getElem?_eq_getElem hlt⟩
  obtain⟨b,o,ha,e0,_⟩:=(hs.nodes.mono l1').at hni
  have hpre:=jj (kind:=kind) hni
  (refine az ?_)
  refine⟨b,o,ha,by omega,by omega,_,e0,?_⟩
  rw [aC (by omega)]
  refine ac (fun e=>?_) (fun e=>?_)
  ·rw [if_pos (bV e)]at hpre
   refine aj fun b44 h4 hb44 l4 f44=>?_
   have l4o:=bQ out l4
   refine dx (hbuf.mono l4) (by omega) (by omega) (by omega) ⟨b44,0,rfl,ay f44⟩ (by simp) rfl ?_
   intro s' h5 hs'n hbuf' l5 _
   have l15:=Hp.le_trans l4o l5
   refine hnx hlt _ _ ⟨s',rfl,Hp.le_trans l1 l15,l15 _ _ f8,by omega,?_⟩
   rw [hpre,uF,List.map_append];exact hbuf'
  ·rw [if_neg (bk e),List.append_nil]at hpre
   refine hnx hlt _ _ ⟨out,rfl,l1,f8,by omega,?_⟩
   rw [hpre];exact hbuf
 ·refine aE (by simp;omega) (k out h1 l1' ?_)
  rw [List.take_of_length_le (by omega)]at hbuf
  exact hbuf.slc_of (by omega)
structure tz (h0 h:Hp) (out:Sl) (ts:List Sl) (vs:List (List Nat)):Prop where
 len:ts.length=vs.length
 row: ∀(i:Nat) (t:Sl),ts[i]?=some t-> ∃b,t=⟨some ⟨b,0,none⟩,(vs.getD i []).length,(vs.getD i []).length⟩/\h0 b=none/\
  (h.offS out) b=some (.inl ⟨(VL (vs.getD i [])).map I,(vs.getD i []).length,false⟩)
 dis: ∀(i j:Nat) (t u:Sl),ts[i]?=some t->ts[j]?=some u->t.a=u.a->i=j
 buf:Buf h out 1 (ts.map Sl.v)
 le:h0.le (h.offS out)
theorem tz.ints {h0 h:Hp} {out:Sl} {ts:List Sl} {vs:List (List Nat)} (e:tz h0 h out ts vs) (hl: ∀v∈vs,v.length<=1048576) (hn:out.n<=1048576):IntSS h out (vs.map VL):=by
 refine⟨ts,by rw [List.length_map];exact e.len,e.buf.slc_of (by omega),fun i h1 h2=>?_⟩
 obtain⟨b,ht,_,hr⟩:=e.row i _ (List.getElem?_eq_getElem h1)
 have hi:i<vs.length:=by rw [List.length_map]at h2;exact h2
 have hv:(vs.map VL)[i]=VL (vs.getD i []):=by
  rw [List.getElem_map,List.getD_eq_getElem?_getD,List.getElem?_eq_getElem hi];rfl
 have hvl:(vs.getD i []).length<=1048576:=by
  rw [List.getD_eq_getElem?_getD,List.getElem?_eq_getElem hi];exact hl _ (List.getElem_mem hi)
 rw [ht,hv]
 refine⟨by dsimp only;omega,by simp [aY], .inr ⟨b,0,rfl,ay (bz _ _ _ _ hr)⟩⟩
def cX (l:List NodeP) (ps:List Nat):List (List Nat):=ps.map fun p=>List.replicate (aK l p) 0
theorem dm (l:List NodeP) (p:Nat):aK l p<=4:=vD _
theorem gZ {ps:List Nat} {i p:Nat} (h:ps[i]?=some p):(VL ps)[i]?=some ((p:Nat):Int):=by simp [VL,h]
theorem jr.sortc {h:Hp} {s:Sl} {l:List NodeP} (e:jr h s l) {p:Nat} (hp:p<l.length):
  ∃b o,s.a=some (Addr.mk b o none)/\(p:Int)<(s.n:Int)/\Hp.cell h b ((o+Int.toNat (p:Int)*9)+6)=some (I (aA l p).idx)/\Hp.cell h b ((o+Int.toNat (p:Int)*9)+6+1)=some (I (aA l p).wid):=by
 obtain⟨n,hn1⟩: ∃n,l[p]?=some n:=⟨_,List.getElem?_eq_getElem hp⟩
 obtain⟨ba,oa,ha1,_,_,_,_,_,_,c6,c7,_⟩:=e.at hn1
 have hsa:aA l ((p:Nat):Int)=n.sort:=by unfold aA;rw [Int.toNat_natCast,hn1]
 refine⟨ba,oa,ha1,by have:=e.len;omega,?_⟩
 rw [hsa];exact⟨c6,c7⟩
theorem sJ {h:Hp} {M:MSl} {m:ah} {s:Sl} {ps:List Nat} {R:Value->Hp->Prop} (hs:aO h M m) (hm:bW m) (hp:IntS h s (VL ps)) (hps: ∀p∈ps,p<m.nodes.length) (hpl:ps.length<=1048576)
  (k: ∀out ts h',tz h h' out ts (cX m.nodes ps)->out.n=ps.length->R (Sl.v out) h'):eQ #[aQ M,s.v] h R:=by
 apply AP
 refine uf_ ?_
 have hn:=hs.nodes.len
 have hns:=hm.nodes
 have hsn:=hp.len
 rw [aY]at hsn
 refine aj fun b8 h1 hb8 l1 f8=>?_
 refine av ps.length (fun i vs h'=> ∃(out:Sl) (ts:List Sl),vs= [.pointer (some ⟨b8,0,none⟩),out.v,s.v,I s.n,I i]/\tz h h' out ts (cX m.nodes (ps.take i))/\out.n=i/\(h'.offS out) b8=some (.inl ⟨aw M,5,false⟩))
  ⟨⟨none,0,0⟩, [],rfl,⟨rfl,fun i t ht=>by simp at ht,fun i j t u ht=>by simp at ht,eY _ _,l1⟩,rfl,f8⟩ ?_
 clear l1 f8 hb8 h1
 rintro i _ h1 next hi ⟨out,ts,rfl,hC,hon,f8⟩ hnx
 have lo:=bz h1 out
 have l1:=Hp.le_trans hC.le lo
 have f8':=lo _ _ f8
 refine⟨_,_,out,s,_,_,rfl,?_⟩
 by_cases hlt:i<ps.length
 ·refine aM (by simp;omega) ?_
  obtain⟨p,hpi⟩: ∃p,ps[i]?=some p:=⟨_,List.getElem?_eq_getElem hlt⟩
  have hpm:=hps p (List.mem_of_getElem? hpi)
  obtain⟨b,o,ha,hc⟩:=(hp.mono l1).get (gZ hpi)
  refine⟨b,o,ha,by omega,by omega,_,hc,?_⟩
  (refine az ?_)
  obtain⟨bn,on,han,hpn,c6,c7⟩:=(hs.nodes.mono l1).sortc hpm
  refine⟨bn,on,han,by omega,hpn,_,c6,_,c7,?_⟩
  refine lQ ⟨_,rfl,?_⟩
  have hce:cT ⟨(aA m.nodes p).idx,(aA m.nodes p).wid⟩=aK m.nodes p:=rfl
  rw [hce]
  have hc4:=dm m.nodes p
  refine⟨by omega,by omega,by omega,by omega,?_⟩
  refine aj fun b38 h2 hb38 l2 f38=>?_
  refine aj fun b40 h3 hb40 l3 f40=>?_
  have l13:=Hp.le_trans l2 l3
  have l13o:=bQ out l13
  replace f38:=l3 _ _ f38
  rw [Int.toNat_natCast,Nat.mul_one,cn]at f38
  rw [Int.toNat_natCast]at f40
  have hno: ∀a,out.a=some a->a.block≠b38:=by
   intro a ha' e
   rcases hC.buf.2.2 with ⟨h0,_⟩|⟨c,hc',hcb⟩
   ·rw [h0]at ha';cases ha'
   ·rw [hc']at ha';cases ha'
    subst e
    rw [hb38]at hcb;cases hcb
  have f38o:(h3.offS out) b38=some (.inl ⟨List.replicate (aK m.nodes p) (I 0),aK m.nodes p,false⟩):=by rw [B4 hno];exact f38
  refine dx (hC.buf.mono l13) (by omega) (by omega) (by omega) ⟨b40,0,rfl,ay f40⟩ (by simp) rfl ?_
  intro s' h4 hs'n hbuf' l4 _
  have l14:=Hp.le_trans l13o l4
  rw [aC (by omega)]
  have hvs:cX m.nodes (ps.take (i+1))=cX m.nodes (ps.take i)++ [List.replicate (aK m.nodes p) 0]:=by
   unfold cX
   rw [List.take_succ_eq_append_getElem hlt,List.map_append]
   rw [List.getElem?_eq_getElem hlt]at hpi
   rw [Option.some.inj hpi];rfl
  have hlen:=hC.len
  have hzl:(cX m.nodes (ps.take i)).length=i:=by unfold cX;simp;omega
  have b38h:h b38=none:=aF l1 hb38
  refine hnx hlt _ _ ⟨s',ts++ [⟨some ⟨b38,0,none⟩,aK m.nodes p,aK m.nodes p⟩],rfl,⟨?_,fun j t ht=>?_,fun j j' t u ht hu hau=>?_,by rw [List.map_append];exact hbuf',Hp.le_trans hC.le l14⟩,by omega,l14 _ _ f8⟩
  ·rw [hvs,List.length_append,List.length_append,hlen];rfl
  ·by_cases hj:j<i
   ·rw [List.getElem?_append_left (by omega)]at ht
    obtain⟨b',e1,e2,e3⟩:=hC.row j t ht
    rw [hvs,ia (by omega)]
    exact⟨b',e1,e2,l14 _ _ e3⟩
   ·have hju:=get_lt ht
    simp at hju
    have hje:j=i:=by omega
    subst hje
    rw [List.getElem?_append_right (by omega),show j-ts.length=0 by omega]at ht
    simp at ht;subst ht
    rw [hvs,List.getD_eq_getElem?_getD,List.getElem?_append_right (by omega),hzl,Nat.sub_self]
    refine⟨b38,by simp,b38h,?_⟩
    have:=l4 _ _ f38o
    simpa [VL] using this
  ·have hb: ∀(q:Nat) (z:Sl),ts[q]?=some z->z.a≠some ⟨b38,0,none⟩:=by
    intro q z hz he
    obtain⟨b',e1,e2,e3⟩:=hC.row q z hz
    rw [e1]at he
    have hbb:b'=b38:=by simpa using he
    subst hbb
    have:=lo _ _ e3
    rw [hb38]at this;cases this
   by_cases hj:j<i
   ·rw [List.getElem?_append_left (by omega)]at ht
    by_cases hj':j'<i
    ·rw [List.getElem?_append_left (by omega)]at hu
     exact hC.dis j j' t u ht hu hau
    ·have hju:=get_lt hu
     simp at hju
     rw [List.getElem?_append_right (by omega),show j'-ts.length=0 by omega]at hu
     simp at hu;subst hu
     exact absurd hau (hb j t ht)
   ·have hjt:=get_lt ht
    simp at hjt
    by_cases hj':j'<i
    ·rw [List.getElem?_append_left (by omega)]at hu
     rw [List.getElem?_append_right (by omega),show j-ts.length=0 by omega]at ht
     simp at ht;subst ht
     exact absurd hau.symm (hb j' u hu)
    ·have hju:=get_lt hu
     simp at hju
     omega
 ·have hie:i=ps.length:=by omega
  subst hie
  rw [List.take_of_length_le (Nat.le_refl _)]at hC
  exact aE (by simp;omega) (k out ts h1 hC hon)
structure dj (m:ah):Prop where
 nl:m.nodes.length<=60
 il:m.inits.length<=60
 xl:m.nexts.length<=60
 bl:m.bads.length<=4
 hl:m.holds.length<=4
 ok:cv m.nodes=true
 twice:tU m=false
 ini: ∀b∈m.inits,je m.nodes b=true
 nex: ∀b∈m.nexts,fK m.nodes b=true
 bad: ∀p∈m.bads,dD m.nodes p=true
 hol: ∀p∈m.holds,dD m.nodes p=true
 n8:ak m.nodes 36<=8
 k5:ak m.nodes 35<=5
theorem kq {c:Prop} [Decidable c] {x y:Int} (hx:x≠0) (h:(if c then x else y)=0): ¬c/\y=0:=by
 split at h
 ·exact absurd h hx
 ·rename_i hc;exact⟨hc,h⟩
theorem cr {m:ah} (h:ax m=0):dj m:=by
 unfold ax at h
 obtain⟨h1,h⟩:=kq (by decide) h
 obtain⟨h2,h⟩:=kq (by decide) h
 obtain⟨h3,h⟩:=kq (by decide) h
 obtain⟨h4,h⟩:=kq (by decide) h
 obtain⟨h5,h⟩:=kq (by decide) h
 obtain⟨h6,h⟩:=kq (by decide) h
 simp only [Bool.not_eq_false,Bool.and_eq_true,List.all_eq_true,Bool.not_eq_true]at h2 h3 h4 h5
 exact⟨by omega,by omega,by omega,by omega,by omega,h2,h3,h4.1,h4.2,h5.1,h5.2,by omega,by omega⟩
theorem dj.small {m:ah} (g:dj m): ∀n∈m.nodes,n.name.size<=8:=by
 intro n hn
 obtain⟨i,hi,e⟩:=List.getElem_of_mem hn
 have hf:=jh g.ok (i:=i) (n:=n) (by rw [List.getElem?_eq_getElem hi,e])
 unfold fz at hf
 simp only [Bool.and_eq_true]at hf
 have hf':=hf.1.1.2
 split at hf'
 ·unfold gf at hf'
  simp only [Bool.and_eq_true,decide_eq_true_eq]at hf';omega
 ·simp only [decide_eq_true_eq]at hf';omega
theorem qT {l:List NodeP} (hok:cv l=true) {p:Nat} (hp:p<l.length):bR (aA l p)=true:=by
 have hn:l[p]?=some l[p]:=List.getElem?_eq_getElem hp
 have:aA l ((p:Nat):Int)=l[p].sort:=by unfold aA;rw [Int.toNat_natCast,hn]
 rw [this];exact(u5 hok hn).sort
theorem uM {l:List NodeP} (hok:cv l=true) {p:Nat} (hp:p<l.length) {v:List Nat} (h:Fit (aA l p) v):v.length=aK l p/\ ∀x∈v,x<2^cj l p:=by
 refine⟨?_,h.lt⟩
 unfold aK cT
 rw [if_pos (qT hok hp),h.len]
theorem Tn {l:List NodeP} (hok:cv l=true) {p:Nat} (hp:p<l.length) {v:List Nat} (h:v.length=aK l p/\ ∀x∈v,x<2^cj l p):Fit (aA l p) v:=by
 refine⟨?_,h.2⟩
 have:=h.1
 unfold aK cT at this
 rwa [if_pos (qT hok hp)]at this
theorem k7 {l:List NodeP} {kind:Int} {p:Nat} (h:p∈aH l kind):p<l.length:=by
 obtain⟨n,hn,_⟩:=HN h
 exact get_lt hn
theorem yL {l:List NodeP} (hok:cv l=true) {kind:Int} {vs:List (List Nat)} (h:kb l (aH l kind) vs):zV l kind vs:=by
 refine⟨oZ h,fun k p hp=>?_⟩
 exact Tn hok (k7 (List.mem_of_getElem? hp)) (mC h hp)
def Ab (m:ah) (s i:List (List Nat)):List (List Nat):=fX m.nodes s i m.nodes.length
abbrev stP (m:ah):List Nat:=aH m.nodes 36
abbrev inP (m:ah):List Nat:=aH m.nodes 35
def ck (m:ah) (s i:Nat):List (List Nat):=Ab m (fu m.nodes (stP m) s) (fu m.nodes (inP m) i)
def gY (m:ah) (v:List (List Nat)):Bool:=m.holds.all fun p=>decide (cB v p=1)
def qH (m:ah) (v:List (List Nat)):Option Nat:=m.bads.findIdx? fun p=>decide (cB v p=1)
def yn (m:ah) (v:List (List Nat)):Int:=match qH m v with|some d=>d|none=> -1
def gL (m:ah) (v:List (List Nat)) (p:Nat):Option (List Nat):=(cf m.nexts p).map fun k=>v.getD k []
def eK (m:ah) (v:List (List Nat)):List (List Nat):=kJ m.nodes (gL m v) (stP m)
def nE (c:Nat) (v:List Nat):List Nat:=v++List.replicate (c-v.length) (v.getD 0 0)
def oK (m:ah):List (List Nat):=Ab m (cX m.nodes (stP m)) (cX m.nodes (inP m))
def ez (m:ah) (p:Nat):Option (List Nat):=(cf m.inits p).map fun k=>nE (aK m.nodes p) ((oK m).getD k [])
def iE (m:ah):List (List Nat):=kJ m.nodes (ez m) (stP m)
def Qx (m:ah) (binds:List BindP):Nat:=fY m.nodes (fun p=>(cf binds p).isSome) (stP m)
def aG (m:ah):aD where
 n:=ak m.nodes 36
 k:=ak m.nodes 35
 hold c:=gY m (ck m (c%2^ak m.nodes 36) (c/2^ak m.nodes 36))
 bad c:=(qH m (ck m (c%2^ak m.nodes 36) (c/2^ak m.nodes 36))).isSome
 next c:=dZ m.nodes (stP m) (eK m (ck m (c%2^ak m.nodes 36) (c/2^ak m.nodes 36)))
 fixed:=Qx m m.nexts
 bfix:=Qx m m.inits
 bas:=dZ m.nodes (stP m) (iE m)
theorem fT {binds:List BindP} {p k:Nat} (h:cf binds p=some k): ∃b∈binds,b.state=(p:Int)/\b.node.toNat=k:=by
 unfold cf at h
 rw [Option.map_eq_some_iff]at h
 obtain⟨b,hb,hk⟩:=h
 exact⟨b,List.mem_of_find?_eq_some hb,by simpa using List.find?_some hb,hk⟩
theorem Pc {binds:List BindP} {p:Nat} (h:cf binds p=none): ∀b∈binds,b.state≠(p:Int):=by
 unfold cf at h
 rw [Option.map_eq_none_iff,List.find?_eq_none]at h
 intro b hb e
 have:=h b hb
 simp [e]at this
theorem gA {l:List NodeP} {b:BindP} (h:fK l b=true):cY l b.state=true/\cY l b.node=true/\jT l b.state=36/\aA l b.state=aA l b.node:=by
 unfold fK at h
 simp only [Bool.and_eq_true,decide_eq_true_eq]at h
 exact⟨h.1.1.1,h.1.1.2,h.1.2,h.2⟩
theorem pN {l:List NodeP} {b:BindP} (h:je l b=true):cY l b.state=true/\cY l b.node=true/\jT l b.state=36/\(aA l b.state=aA l b.node\/aA l b.node=cF (aA l b.state).wid)/\(dN l l.length).getD b.node.toNat false=false:=by
 unfold je at h
 simp only [Bool.and_eq_true,Bool.or_eq_true,decide_eq_true_eq,Bool.not_eq_true']at h
 exact⟨h.1.1.1,h.1.1.2,h.1.2,h.2.1,h.2.2⟩
theorem fB {l:List NodeP} {p:Int}:cY l p=true↔0<=p/\p<l.length:=by
 unfold cY;rw [decide_eq_true_eq];omega
theorem yK {m:ah} (g:dj m) (s i:Nat):yb m.nodes m.nodes.length (ck m s i):=
 zh g.ok (GL g.ok 36 s) (GL g.ok 35 i) _ (Nat.le_refl _)
theorem kv (l:List NodeP) (ps:List Nat):kb l ps (cX l ps):=by
 induction ps with
 |nil=>rfl
 |cons p ps ih=>
  refine⟨_,_,rfl,by simp,fun x hx=>?_,ih⟩
  simp at hx
  rw [hx.2];exact bK _
theorem Nu {m:ah} (g:dj m) {s i:List (List Nat)} (hs:kb m.nodes (stP m) s) (hi:kb m.nodes (inP m) i):yb m.nodes m.nodes.length (Ab m s i):=
 zh g.ok (yL g.ok hs) (yL g.ok hi) _ (Nat.le_refl _)
theorem JO (m:ah) (s i:List (List Nat)):(Ab m s i).length=m.nodes.length:=dp _ _ _ _
theorem uH {m:ah} (g:dj m) {v:List (List Nat)} (hv:yb m.nodes m.nodes.length v) {p:Nat} {x:List Nat} (h:gL m v p=some x):x.length=aK m.nodes p/\ ∀y∈x,y<2^cj m.nodes p:=by
 unfold gL at h
 rw [Option.map_eq_some_iff]at h
 obtain⟨k,hk,rfl⟩:=h
 obtain⟨b,hb,hs,rfl⟩:=fT hk
 obtain⟨h1,h2,h3,h4⟩:=gA (g.nex b hb)
 have h2':=fB.1 h2
 have h1':=fB.1 h1
 have hn:((b.node.toNat:Nat):Int)=b.node:=by omega
 have:=hv b.node.toNat (by omega) (by omega)
 rw [hn,<-h4,hs]at this
 exact uM g.ok (by omega) this
theorem rV {m:ah} (g:dj m) {p:Nat} {x:List Nat} (h:ez m p=some x):x.length=aK m.nodes p/\ ∀y∈x,y<2^cj m.nodes p:=by
 unfold ez at h
 rw [Option.map_eq_some_iff]at h
 obtain⟨k,hk,rfl⟩:=h
 obtain⟨b,hb,hs,rfl⟩:=fT hk
 obtain⟨h1,h2,h3,h4,_⟩:=pN (g.ini b hb)
 have h2':=fB.1 h2
 have h1':=fB.1 h1
 have hn:((b.node.toNat:Nat):Int)=b.node:=by omega
 have hv:=Nu g (kv m.nodes (stP m)) (kv m.nodes (inP m)) b.node.toNat (by omega) (by omega)
 have hf:=uM g.ok (show b.node.toNat<m.nodes.length by omega) hv
 rw [hn]at hv
 have hwid:cj m.nodes b.node.toNat=cj m.nodes p/\aK m.nodes b.node.toNat<=aK m.nodes p:=by
  unfold cj aK
  rw [hn,<-hs]
  rcases h4 with h4|h4
  ·rw [h4];exact⟨rfl,Nat.le_refl _⟩
  ·rw [h4]
   refine⟨rfl,?_⟩
   have ho:bR (aA m.nodes b.state)=true:=by rw [hs];exact qT g.ok (by omega)
   have ho2:bR (cF (aA m.nodes b.state).wid)=true:=by
    have:=cd.1 ho
    exact cd.2 ⟨by simp [cF],by simp only [cF];omega⟩
   unfold cT
   rw [if_pos ho,if_pos ho2]
   exact bK _
 refine⟨?_,fun y hy=>?_⟩
 ·unfold nE
  rw [List.length_append,List.length_replicate]
  have:=hf.1;show ((oK m).getD b.node.toNat []).length+(aK m.nodes p-((oK m).getD b.node.toNat []).length)=_
  unfold oK;omega
 ·unfold nE at hy
  rw [List.mem_append,List.mem_replicate]at hy
  rw [<-hwid.1]
  rcases hy with hy|⟨_,rfl⟩
  ·exact hf.2 y hy
  ·exact hv.get_lt hv.pos|>fun h=>by
    have e:cj m.nodes b.node.toNat=(aA m.nodes b.node).wid.toNat:=by unfold cj;rw [hn]
    rw [e];exact h
theorem nh {m:ah} (g:dj m) {v:List (List Nat)} (hv:yb m.nodes m.nodes.length v):kb m.nodes (stP m) (eK m v):=Di fun p _ x hx=>uH g hv hx
theorem uV {m:ah} (g:dj m):kb m.nodes (stP m) (iE m):=Di fun p _ x hx=>rV g hx
theorem GM (m:ah) (v:List (List Nat)):(fun p=>(gL m v p).isSome)=fun p=>(cf m.nexts p).isSome:=by funext p;unfold gL;simp
theorem F1 (m:ah):(fun p=>(ez m p).isSome)=fun p=>(cf m.inits p).isSome:=by funext p;unfold ez;simp
theorem fq {m:ah} (g:dj m):cC m.nodes (stP m)=ak m.nodes 36:=Ez _ g.ok 36
theorem Cy {m:ah} (g:dj m):cC m.nodes (inP m)=ak m.nodes 35:=Ez _ g.ok 35
theorem gQ {m:ah} (g:dj m):(aG m).Ok where
 nle:=g.n8
 kle:=g.k5
 fixed:=by have:=yr m.nodes (fun p=>(cf m.nexts p).isSome) (stP m);rwa [fq g]at this
 bfix:=by have:=yr m.nodes (fun p=>(cf m.inits p).isSome) (stP m);rwa [fq g]at this
 next c _:=by have:=uC (nh g (yK g (c%2^ak m.nodes 36) (c/2^ak m.nodes 36)));rwa [fq g]at this
 held c _:=by
  have:=Nf (l:=m.nodes) (f:=gL m (ck m (c%2^ak m.nodes 36) (c/2^ak m.nodes 36))) (ps:=stP m) fun p _ x hx=>uH g (yK g _ _) hx
  rw [GM]at this
  exact this
 bas:=by have:=uC (uV g);rwa [fq g]at this
 bheld:=by
  have:=Nf (l:=m.nodes) (f:=ez m) (ps:=stP m) fun p _ x hx=>rV g hx
  rw [F1]at this
  exact this
theorem vd {m:ah} (g:dj m) (s:Nat):(aG m).begins s=true↔ ∀(i p:Nat),(stP m)[i]?=some p-> ∀v,ez m p=some v->(fu m.nodes (stP m) s).getD i []=v:=by
 have:=CH (l:=m.nodes) (f:=ez m) (ps:=stP m) s fun p _ x hx=>rV g hx
 rw [F1]at this
 rw [pX,<-this]
 unfold aD.begins
 rw [decide_eq_true_eq];rfl
theorem CF {binds:List BindP} (h:jD (binds.map (·.state))=false) {j:Nat} {b:BindP} (hb:binds[j]?=some b): ∀x∈binds.take j,x.state≠b.state:=by
 intro x hx e
 have:jD (binds.map (·.state))=true:=uP.2 ⟨j,b.state,by simp [hb],by
  rw [<-List.map_take,<-e];exact List.mem_map.2 ⟨x,hx,rfl⟩⟩
 rw [h]at this;cases this
theorem HL {binds:List BindP} (h:jD (binds.map (·.state))=false) {j:Nat} {b:BindP} (hb:binds[j]?=some b) (p:Nat):
  cf (binds.take (j+1)) p=if b.state=(p:Int)then some b.node.toNat else cf (binds.take j) p:=by
 have hlt:=get_lt hb
 have hg:binds[j]=b:=by rw [List.getElem?_eq_getElem hlt]at hb;exact Option.some.inj hb
 unfold cf
 rw [List.take_succ_eq_append_getElem hlt,List.find?_append,hg]
 by_cases e:b.state=(p:Int)
 ·rw [if_pos e]
  have hn:(binds.take j).find? (fun b=>decide (b.state=(p:Int)))=none:=by
   rw [List.find?_eq_none]
   intro x hx
   have:=CF h hb x hx
   simp;omega
  rw [hn];simp [e]
 ·rw [if_neg e]
  have:([b]:List BindP).find? (fun b=>decide (b.state=(p:Int)))=none:=by simp [e]
  rw [this,Option.or_none]
theorem qu {m:ah} (h:tU m=false):ll m.nodes=false/\jD (m.inits.map (·.state))=false/\jD (m.nexts.map (·.state))=false:=by
 rw [Dy]at h
 simp only [Bool.or_eq_false_iff]at h
 exact h
theorem tz.blk {h0 h:Hp} {out:Sl} {ts:List Sl} {vs:List (List Nat)} (e:tz h0 h out ts vs) {i:Nat} (hi:i<vs.length):
  ∃b,ts[i]?=some ⟨some ⟨b,0,none⟩,(vs.getD i []).length,(vs.getD i []).length⟩/\h0 b=none/\(h.offS out) b=some (.inl ⟨(VL (vs.getD i [])).map I,(vs.getD i []).length,false⟩):=by
 have hl:=e.len
 obtain⟨b,h1,h2,h3⟩:=e.row i _ (List.getElem?_eq_getElem (show i<ts.length by omega))
 exact⟨b,by rw [List.getElem?_eq_getElem (show i<ts.length by omega),h1],h2,h3⟩
theorem tz.wr {h0 h:Hp} {out:Sl} {ts:List Sl} {vs:List (List Nat)} {b n c i k x:Nat} {P:Hp->Prop} (e:tz h0 h out ts vs) (ht:ts[i]?=some ⟨some ⟨b,0,none⟩,n,c⟩) (hi:i<vs.length) (hk:k<(vs.getD i []).length)
  (kk: ∀h',tz h0 h' out ts (vs.set i ((vs.getD i []).set k x))->P h'):
  ∃(cs:List Value) (z:Nat),h b=some (.inl ⟨cs,z,false⟩)/\(0+Int.toNat (k:Int)*1)+1<=List.length cs/\cA (h.row b (cz cs (0+Int.toNat (k:Int)*1) [I x]) z) P:=by
 obtain⟨b',h1,h2,h3⟩:=e.blk hi
 rw [ht]at h1
 simp only [Option.some.injEq,Sl.mk.injEq,Addr.mk.injEq,and_true,true_and]at h1
 obtain⟨rfl,rfl,rfl⟩:=h1
 refine⟨_,_,bz _ _ _ _ h3,?_,?_⟩
 ·rw [List.length_map,aY,Int.toNat_natCast];omega
 rw [RD]
 refine kk _ ⟨by rw [List.length_set];exact e.len,fun j t hj=>?_,e.dis,e.buf.row _ _ h3,?_⟩
 ·obtain⟨bj,g1,g2,g3⟩:=e.row j t hj
  by_cases hji:j=i
  ·subst hji
   rw [ht]at hj
   obtain rfl:=(Option.some.inj hj).symm
   simp only [Sl.mk.injEq,Option.some.injEq,Addr.mk.injEq,and_true,true_and]at g1
   obtain⟨rfl,_⟩:=g1
   have hv:(vs.set j ((vs.getD j []).set k x)).getD j []=(vs.getD j []).set k x:=by
    rw [List.getD_eq_getElem?_getD,List.getElem?_set_self (by omega)];rfl
   rw [hv,List.length_set]
   refine⟨b,rfl,g2,?_⟩
   rw [qP _ _ h3,bM]
   simp [VL,List.map_set,bJ]
  ·have hv:(vs.set i ((vs.getD i []).set k x)).getD j []=vs.getD j []:=by
    rw [List.getD_eq_getElem?_getD,List.getElem?_set_ne (Ne.symm hji),<-List.getD_eq_getElem?_getD]
   rw [hv]
   refine⟨bj,g1,g2,?_⟩
   rw [qP _ _ h3,bX]
   ·exact g3
   ·rintro rfl
    refine hji (e.dis j i t _ hj ht ?_)
    rw [g1]
 ·rw [qP _ _ h3]
  exact et _ _ h2 e.le
def yg (l:List NodeP) (ps:List Nat) (code i:Nat):List (List Nat):=(fu l ps code).take i++(cX l ps).drop i
def rf (l:List NodeP) (p code k:Nat):List Nat:=lv (cj l p) k code++List.replicate (aK l p-k) 0
theorem Vv (l:List NodeP) (ps:List Nat) (code i:Nat) (hi:i<=ps.length):(yg l ps code i).length=ps.length:=by
 unfold yg;rw [List.length_append,List.length_take,List.length_drop,lj,cX,List.length_map];omega
theorem Nb {l:List NodeP} {ps:List Nat} {code i p:Nat} (h:ps[i]?=some p):(yg l ps code i).getD i []=rf l p (code/2^cC l (ps.take i)) 0:=by
 have hlt:=get_lt h
 unfold yg rf
 rw [List.getD_eq_getElem?_getD,List.getElem?_append_right (by rw [List.length_take,lj];omega),List.length_take,lj,Nat.min_eq_left (by omega),Nat.sub_self,List.getElem?_drop,Nat.add_zero,cX,List.getElem?_map,h]
 rfl
theorem V3 {l:List NodeP} {ps:List Nat} {code i p:Nat} (h:ps[i]?=some p):(yg l ps code i).set i (rf l p (code/2^cC l (ps.take i)) (aK l p))=yg l ps code (i+1):=by
 have hlt:=get_lt h
 have hu:(fu l ps code)[i]?=some (lv (cj l p) (aK l p) (code/2^cC l (ps.take i))):=by
  have:=GA (l:=l) (code:=code) h
  rw [List.getD_eq_getElem?_getD,List.getElem?_eq_getElem (by rw [lj];exact hlt)]at this
  rw [List.getElem?_eq_getElem (by rw [lj];exact hlt)]
  exact congrArg some this
 unfold yg rf
 rw [Nat.sub_self,List.replicate_zero,List.append_nil,List.set_append_right _ _ (by rw [List.length_take,lj];omega),List.length_take,lj,Nat.min_eq_left (by omega),Nat.sub_self]
 have hd:(cX l ps).drop i=List.replicate (aK l p) 0::(cX l ps).drop (i+1):=by
  rw [<-List.getElem_cons_drop (show i<(cX l ps).length by rw [cX,List.length_map];exact hlt)]
  congr 1
  unfold cX
  rw [List.getElem_map]
  rw [List.getElem?_eq_getElem hlt]at h
  rw [Option.some.inj h]
 rw [hd,List.set_cons_zero,List.take_add_one,hu]
 simp
theorem PV {l:List NodeP} {p code k:Nat} (hk:k<aK l p):(rf l p code k).set k (code/2^(cj l p*k)%2^cj l p)=rf l p code (k+1):=by
 unfold rf
 rw [List.set_append_right _ _ (by rw [qx];omega),qx,Nat.sub_self]
 obtain⟨d,hd⟩: ∃d,aK l p-k=d+1:=⟨aK l p-k-1,by omega⟩
 rw [hd,List.replicate_succ,List.set_cons_zero,show aK l p-(k+1)=d by omega,lv,List.append_assoc];rfl
theorem Ht {l:List NodeP} {p code k:Nat} (hk:k<=aK l p):(rf l p code k).length=aK l p:=by
 unfold rf;rw [List.length_append,qx,List.length_replicate];omega
theorem jr.widc {h:Hp} {s:Sl} {l:List NodeP} (e:jr h s l) {p:Nat} (hp:p<l.length) (hok:cv l=true):
  ∃b o,s.a=some (Addr.mk b o none)/\(p:Int)<(s.n:Int)/\Hp.cell h b (((o+Int.toNat (p:Int)*9)+6)+1)=some (I (cj l p))/\1<=cj l p/\cj l p<=16:=by
 obtain⟨b,o,h1,h2,h3,h4⟩:=e.sortc hp
 have:=cd.1 (qT hok hp)
 have hw:(aA l p).wid=((cj l p:Nat):Int):=by unfold cj;omega
 exact⟨b,o,h1,h2,by rw [<-hw];exact h4,by unfold cj;omega,by unfold cj;omega⟩
theorem WH {l:List NodeP} {ps:List Nat} {code:Nat} {v:List Nat} (h:v∈fu l ps code):v.length<=4:=by
 unfold fu at h
 obtain⟨i,_,rfl⟩:=List.mem_map.1 h
 rw [qx];exact dm _ _
theorem nr (l:List NodeP) (ps:List Nat):(cX l ps).length=ps.length:=by simp [cX]
theorem tQ {h:Hp} {M:MSl} {m:ah} {s:Sl} {ps:List Nat} {code:Nat} {R:Value->Hp->Prop} (hs:aO h M m) (hm:bW m) (hok:cv m.nodes=true) (hp:IntS h s (VL ps)) (hps: ∀p∈ps,p<m.nodes.length) (hpl:ps.length<=1048576)
  (hcode:code<=1048576) (k: ∀out h',h.le h'->IntSS h' out ((fu m.nodes ps code).map VL)->out.n<=out.c->R (Sl.v out) h'):dW #[aQ M,s.v,I code] h R:=by
 apply Ft
 refine uf_ ?_
 have hn:=hs.nodes.len
 have hns:=hm.nodes
 have hsn:=hp.len
 rw [aY]at hsn
 refine aj fun b9 h1 hb9 l1 f9=>?_
 repeat' (refine az ?_)
 refine sJ (hs.mono l1) hm (hp.mono l1) hps hpl fun out ts h2 hC hon=>⟨out,rfl,?_⟩
 refine av ps.length (fun i vs h'=>vs= [I (code/2^cC m.nodes (ps.take i):Nat), .pointer (some ⟨b9,0,none⟩),out.v,s.v,I s.n,I i]/\tz h1 h' out ts (yg m.nodes ps code i)) ⟨?_,?_⟩ ?_
 ·simp [cC]
 ·have:yg m.nodes ps code 0=cX m.nodes ps:=by simp [yg]
  rw [this];exact hC
 clear hC h2
 rintro i _ h2 next hi ⟨rfl,hC⟩ hnx
 have hle:=Hp.le_trans hC.le (bz _ _)
 have f9':=hle _ _ f9
 refine⟨_,_,_,out,s,_,_,rfl,?_⟩
 by_cases hlt:i<ps.length
 rotate_left
 ·have hie:i=ps.length:=by omega
  subst hie
  refine aE (by simp;omega) (k out h2 (Hp.le_trans l1 hle) ?_ hC.buf.2.1)
  have:yg m.nodes ps code ps.length=fu m.nodes ps code:=by
   unfold yg
   rw [List.take_of_length_le (by rw [lj];omega),List.drop_of_length_le (by rw [nr];omega),List.append_nil]
  rw [this]at hC
  refine hC.ints (fun v hv=>?_) (by omega)
  have:=WH hv;omega
 refine aM (by simp;omega) ?_
 obtain⟨p,hpi⟩: ∃p,ps[i]?=some p:=⟨_,List.getElem?_eq_getElem hlt⟩
 have hpm:=hps p (List.mem_of_getElem? hpi)
 obtain⟨b,o,ha,hc⟩:=((hp.mono l1).mono hle).get (gZ hpi)
 refine⟨b,o,ha,by omega,by omega,_,hc,?_⟩
 (refine az ?_)
 obtain⟨bn,on,han,hpn,c7,w1,w16⟩:=((hs.mono l1).mono hle).nodes.widc hpm hok
 refine⟨bn,on,han,by omega,hpn,_,c7,?_⟩
 have hol:=Vv m.nodes ps code i (by omega)
 obtain⟨bi,hti,hbi,hri⟩:=hC.blk (i:=i) (by omega)
 rw [Nb hpi,Ht (Nat.zero_le _)]at hti
 obtain⟨bo,hoa,hob⟩: ∃bo,out.a=some ⟨bo,0,none⟩/\h2 bo=some (.inl ⟨ts.map Sl.v,out.c*1,false⟩):=by
  rcases hC.buf.2.2 with ⟨_,h0,_⟩|h0
  ·omega
  ·exact h0
 have hcell:Hp.cell h2 bo (0+Int.toNat (i:Int)*1)=some (Sl.v ⟨some ⟨bi,0,none⟩,aK m.nodes p,aK m.nodes p⟩):=by
  rw [aq hob,Nat.zero_add,Int.toNat_natCast,Nat.mul_one,List.getElem?_map,hti];rfl
 refine⟨bo,0,hoa,by omega,by omega,_,hcell,?_⟩
 have hcl:=dm m.nodes p
 generalize hci:code/2^cC m.nodes (ps.take i)=ci
 have hcile:ci<=code:=by rw [<-hci];exact Nat.div_le_self _ _
 refine av (aK m.nodes p) (fun k vs h'=>vs= [I (ci/2^(cj m.nodes p*k):Nat), .pointer (some ⟨b9,0,none⟩),out.v,I i,I (cj m.nodes p),s.v,I s.n,I i,I (aK m.nodes p:Nat),I k]/\
  tz h1 h' out ts ((yg m.nodes ps code i).set i (rf m.nodes p ci k))) ⟨by simp,?_⟩ ?_
 ·rw [<-hci,<-Nb hpi]
  have:(yg m.nodes ps code i).set i ((yg m.nodes ps code i).getD i [])=yg m.nodes ps code i:=by
   rw [List.getD_eq_getElem?_getD,List.getElem?_eq_getElem (by omega)];simp
  rw [this];exact hC
 clear hC hle f9' hri hob hcell ha hc han hpn c7 h2
 rintro q _ h2 next2 hq ⟨rfl,hC⟩ hnx2
 have hle:=Hp.le_trans hC.le (bz _ _)
 have f9':=hle _ _ f9
 have hdiv:ci/2^(cj m.nodes p*q)<=ci:=Nat.div_le_self _ _
 refine⟨_,_,_,out,_,_,s,_,_,_,_,rfl,?_⟩
 have hgs:((yg m.nodes ps code i).set i (rf m.nodes p ci q)).getD i []=rf m.nodes p ci q:=by
  rw [List.getD_eq_getElem?_getD,List.getElem?_set_self (by omega)];rfl
 by_cases hlq:q<aK m.nodes p
 rotate_left
 ·have hqe:q=aK m.nodes p:=by omega
  subst hqe
  refine aE (by simp) ?_
  rw [aC (by omega)]
  refine hnx hlt _ _ ⟨?_,?_⟩
  ·rw [nF hpi,Nat.pow_add,<-Nat.div_div_eq_div_mul,hci]
  ·rw [<-hci]at hC
   rw [<-V3 hpi];exact hC
 refine aM (by simp;omega) ?_
 obtain⟨bo',hoa',hob'⟩: ∃bo,out.a=some ⟨bo,0,none⟩/\h2 bo=some (.inl ⟨ts.map Sl.v,out.c*1,false⟩):=by
  rcases hC.buf.2.2 with ⟨_,h0,_⟩|h0
  ·omega
  ·exact h0
 have hcell':Hp.cell h2 bo' (0+Int.toNat (i:Int)*1)=some (Sl.v ⟨some ⟨bi,0,none⟩,aK m.nodes p,aK m.nodes p⟩):=by
  rw [aq hob',Nat.zero_add,Int.toNat_natCast,Nat.mul_one,List.getElem?_map,hti];rfl
 refine⟨bo',0,hoa',by omega,by omega,_,hcell',?_⟩
 refine dJ (by omega) ⟨_,rfl,rfl,bi,0,rfl,by omega,by dsimp only;omega,?_⟩
 rw [ib (by omega),px,jx (by omega),Nat.div_div_eq_div_mul,<-Nat.pow_add]
 refine hC.wr hti (by rw [List.length_set];omega) (by rw [hgs,Ht (by omega)];exact hlq) fun h3 hC'=>?_
 rw [if_neg (by omega),aC (by omega)]
 refine hnx2 hlq _ _ ⟨by rw [Nat.mul_add,Nat.mul_one],?_⟩
 rw [hgs,List.set_set,PV hlq]at hC'
 exact hC'
theorem jr.sortc2 {h:Hp} {s:Sl} {l:List NodeP} (e:jr h s l) {p:Nat} (hp:p<l.length) (hok:cv l=true):
  ∃b o,s.a=some (Addr.mk b o none)/\(p:Int)<(s.n:Int)/\Hp.cell h b ((o+Int.toNat (p:Int)*9)+6)=some (I (aA l p).idx)/\Hp.cell h b (((o+Int.toNat (p:Int)*9)+6)+1)=some (I (cj l p))/\1<=cj l p/\cj l p<=16:=by
 obtain⟨b,o,h1,h2,h3,h4⟩:=e.sortc hp
 have:=cd.1 (qT hok hp)
 have hw:(aA l p).wid=((cj l p:Nat):Int):=by unfold cj;omega
 exact⟨b,o,h1,h2,h3,by rw [<-hw];exact h4,by unfold cj;omega,by unfold cj;omega⟩
theorem qr {l:List NodeP} {p:Nat} (hok:cv l=true) (hp:p<l.length):cT ⟨(aA l p).idx,(cj l p:Nat)⟩=aK l p:=by
 have:=cd.1 (qT hok hp)
 have hw:((cj l p:Nat):Int)=(aA l p).wid:=by unfold cj;omega
 rw [hw];rfl
theorem WP (w k ci:Nat):(VL (lv w k ci)).map I++ [I ((ci/2^(w*k)%2^w:Nat):Int)]=(VL (lv w (k+1) ci)).map I:=by
 rw [lv,uF,List.map_append];rfl
theorem gi {h:Hp} {M:MSl} {m:ah} {s:Sl} {ps:List Nat} {code:Nat} {R:Value->Hp->Prop} (hs:aO h M m) (hm:bW m) (hok:cv m.nodes=true) (hp:IntS h s (VL ps)) (hps: ∀p∈ps,p<m.nodes.length) (hpl:ps.length<=1048576)
  (hcode:code<=1048576) (hsum:cC m.nodes ps<=60) (k: ∀out h',h.le h'->IntSS h' out ((fu m.nodes ps code).map VL)->R (Sl.v out) h'):bC #[aQ M,s.v,I code] h R:=by
 apply Fn
 refine uf_ ?_
 have hn:=hs.nodes.len
 have hns:=hm.nodes
 have hsn:=hp.len
 rw [aY]at hsn
 refine aj fun b9 h1 hb9 l1 f9=>?_
 refine av ps.length (fun i vs h'=> ∃(ts:List Sl) (out:Sl),vs= [s.v,I code, .pointer (some ⟨b9,0,none⟩),out.v,I (cC m.nodes (ps.take i):Nat),I i]/\
  h.le (h'.offS out)/\(h'.offS out) b9=some (.inl ⟨aw M,5,false⟩)/\out.n=i/\ts.length=i/\Buf h' out 1 (ts.map Sl.v)/\
  (∀(j:Nat) (t:Sl),ts[j]?=some t->IntS (h'.offS out) t (VL ((fu m.nodes ps code).getD j []))))
  ⟨[],⟨none,0,0⟩,by simp [cC],l1,f9,rfl,rfl,eY _ _,fun j t ht=>by simp at ht⟩ ?_
 clear f9 l1 hb9 h1
 rintro i _ h3 next hi ⟨ts,out,rfl,l3,f9,hon,htl,hbuf,hts⟩ hnx
 have lo:=bz h3 out
 have f9':=lo _ _ f9
 have l3':=Hp.le_trans l3 lo
 have hsi:=FH m.nodes ps i
 refine⟨s,_,_,_,out,_,_,rfl,?_⟩
 by_cases hlt:i<ps.length
 rotate_left
 ·have hie:i=ps.length:=by omega
  subst hie
  refine aE (by simp;omega) (k out h3 l3' ⟨ts,by simp [lj];omega,hbuf.slc_of (by omega),fun j h1 h2=>?_⟩)
  have:=(hts j _ (List.getElem?_eq_getElem h1)).mono lo
  have hju:j<(fu m.nodes ps code).length:=by rw [lj];omega
  rw [List.getElem_map]
  rwa [List.getD_eq_getElem?_getD,List.getElem?_eq_getElem hju]at this
 refine aM (by simp;omega) ?_
 obtain⟨p,hpi⟩: ∃p,ps[i]?=some p:=⟨_,List.getElem?_eq_getElem hlt⟩
 have hpm:=hps p (List.mem_of_getElem? hpi)
 obtain⟨b,o,ha,hc⟩:=(hp.mono l3').get (gZ hpi)
 refine⟨b,o,ha,by omega,by omega,?_⟩
 (refine az ?_)
 refine⟨_,hc,?_⟩
 obtain⟨bn,on,han,hpn,c6,c7,w1,w16⟩:=(hs.mono l3').nodes.sortc2 hpm hok
 refine⟨bn,on,han,by omega,hpn,_,c6,_,c7,?_⟩
 have xb:=gX hc
 have xbn:=gX c6
 have xb9:=fe f9'
 refine aj fun b37 h4 hb37 l4 f37=>?_
 repeat' (((with_reducible apply kW);(assumption);(assumption)))
 (with_reducible apply bZ);(exact f37);(exact l4);(exact hb37);(exact Nat.le_refl 2)
 intro h5 f37b kp l5
 clear f37 kp l4 h4
 refine aj fun b43 h6 hb43 l6 f43=>?_
 have n37:=fresh_ne hb43 f37b
 have hb43':=aF l5 hb43
 (with_reducible apply bZ);(exact f43);(exact Hp.le_trans l5 l6);(exact hb43');(exact Nat.le_refl 1)
 intro h7 f43b kp l7
 have f37c:h7 b37=some (.inl ⟨[I (aA m.nodes p).idx,I (cj m.nodes p)],2,false⟩):=cm kp n37 (l6 _ _ f37b)
 have f43c:h7 b43=some (.inl ⟨[(⟨none,0,0⟩:Sl).v],1,false⟩):=f43b
 clear f43 f43b f37b kp l6 l5
 have hcl:=dm m.nodes p
 have hcm:=qr hok hpm
 have hstep:=nF (l:=m.nodes) hpi
 have hsi1:=FH m.nodes ps (i+1)
 obtain⟨ci,hci⟩: ∃ci,ci=code/2^cC m.nodes (ps.take i):=⟨_,rfl⟩
 refine av (aK m.nodes p) (fun q vs h'=> ∃sl:Sl,vs= [s.v,I code, .pointer (some ⟨b9,0,none⟩),out.v,I (cC m.nodes (ps.take i)+cj m.nodes p*q:Nat),I i, .pointer (some ⟨b37,0,none⟩), .pointer (some ⟨b43,0,none⟩),I q]/\
  h3.le (h'.offS sl)/\(h'.offS sl) b37=some (.inl ⟨[I (aA m.nodes p).idx,I (cj m.nodes p)],2,false⟩)/\(h'.offS sl) b43=some (.inl ⟨[sl.v],1,false⟩)/\sl.n=q/\Buf h' sl 1 ((VL (lv (cj m.nodes p) q ci)).map I))
  ⟨⟨none,0,0⟩,by simp,l7,f37c,f43c,rfl,eY _ _⟩ ?_
 clear f37c f43c l7 h7
 rintro q _ h7 next2 hq ⟨sl,rfl,l7,f37,f43,hsl,hbufl⟩ hnx2
 have los:=bz h7 sl
 have f37':=los _ _ f37
 have f43':=los _ _ f43
 refine⟨s,_,_,_,out,_,_,_,_,_,_,_,rfl,?_⟩
 repeat' (refine az ?_)
 refine fD ⟨_,rfl,?_⟩
 rw [hcm]
 by_cases hlq:q<aK m.nodes p
 rotate_left
 ·have hqe:q=aK m.nodes p:=by omega
  subst hqe
  refine aE (by simp) ?_
  (refine az ?_)
  refine aj fun b103 h8 hb103 l8 f103=>?_
  have l38:=Hp.le_trans l7 (Hp.le_trans los l8)
  have l38o:=bQ out l38
  refine dx (hbuf.mono l38) (by omega) (by omega) (by omega) ⟨b103,0,rfl,ay f103⟩ (by simp) rfl ?_
  intro s' h10 hs'n hbuf' l10 _
  rw [aC (by omega)]
  have l310:=Hp.le_trans l38o l10
  have hbuf'':Buf h10 s' 1 ((ts++ [sl]).map Sl.v):=by rw [List.map_append];exact hbuf'
  have hval:IntS h8 sl (VL (lv (cj m.nodes p) (aK m.nodes p) ci)):=SlC.mono l8 (hbufl.slc_of (by omega))
  rw [<-hstep]
  refine hnx hlt _ _ ⟨ts++ [sl],s',rfl,Hp.le_trans l3 l310,l310 _ _ f9,by omega,by simp;omega,hbuf'',fun j u hu=>?_⟩
  by_cases hj:j<i
  ·rw [List.getElem?_append_left (by omega)]at hu
   exact(hts j u hu).mono l310
  ·have hju:=get_lt hu
   simp at hju
   have hje:j=i:=by omega
   subst hje
   rw [List.getElem?_append_right (by omega),htl,Nat.sub_self]at hu
   simp at hu;subst hu
   rw [GA hpi,<-hci]
   exact(hval.offL (hbuf.mono l38)).mono l10
 refine aM (by simp;omega) ?_
 have hmul:cj m.nodes p*q<=cj m.nodes p*aK m.nodes p:=Nat.mul_le_mul_left _ hq
 have hmul2:cj m.nodes p*(q+1)<=cj m.nodes p*aK m.nodes p:=Nat.mul_le_mul_left _ hlq
 have hp16:=Aa w16
 have hpp:=bK (cj m.nodes p)
 refine ap (fun J=> ∀(sl':Sl) (h':Hp),h3.le (h'.offS sl')->(h'.offS sl') b37=some (.inl ⟨[I (aA m.nodes p).idx,I (cj m.nodes p)],2,false⟩)->(h'.offS sl') b43=some (.inl ⟨[sl'.v],1,false⟩)->sl'.n=q+1->
   Buf h' sl' 1 ((VL (lv (cj m.nodes p) (q+1) ci)).map I)->J (cC m.nodes (ps.take i)+cj m.nodes p*(q+1):Nat) h') ?_ (fun J hJ=>?_)
 ·intro sl' h' g1 g2 g3 g4 g5
  rw [aC (by omega)]
  exact hnx2 hlq _ _ ⟨sl',rfl,g1,g2,g3,g4,g5⟩
 have xb60:=fe f37'
 have xb62:=fe f43'
 rw [cu (n:=cC m.nodes (ps.take i)+cj m.nodes p*q) (by omega)]
 repeat' (refine az ?_)
 rw [cu (n:=cj m.nodes p) (by omega)]
 rw [jx (by omega),bG (by omega),eU]
 have hval:code/2^(cC m.nodes (ps.take i)+cj m.nodes p*q)=ci/2^(cj m.nodes p*q):=by
  rw [hci,Nat.div_div_eq_div_mul,<-Nat.pow_add]
 rw [hval]
 have app: ∀(K:Option Addr->Nat->Nat->Hp->Prop) (h8:Hp) (b75:Nat),h7.le h8->h8 b75=some (.inl ⟨[I ((ci/2^(cj m.nodes p*q)%2^cj m.nodes p:Nat):Int)],1,false⟩)->
   (∀(s':Sl) (h9:Hp),s'.n=q+1->h3.le (h9.offS s')->(h9.offS s') b37=some (.inl ⟨[I (aA m.nodes p).idx,I (cj m.nodes p)],2,false⟩)->(h9.offS s') b43=some (.inl ⟨[sl.v],1,false⟩)->Buf h9 s' 1 ((VL (lv (cj m.nodes p) (q+1) ci)).map I)->K s'.a s'.n s'.c h9)->
   co h8 sl.a sl.n sl.c (some ⟨b75,0,none⟩) 1 1 8 K:=by
  intro K h8 b75 l8 f75 hK
  have l78:=bQ sl l8
  refine dx (hbufl.mono l8) (by omega) (by omega) (by omega) ⟨b75,0,rfl,ay f75⟩ (by simp) rfl ?_
  intro s' h9 hs'n hbuf' l9 _
  have l79:=Hp.le_trans l78 l9
  refine hK s' h9 (by omega) (Hp.le_trans l7 l79) (l79 _ _ f37) (l79 _ _ f43) ?_
  rw [<-WP];exact hbuf'
 have fin: ∀(s':Sl) (h9:Hp),s'.n=q+1->h3.le (h9.offS s')->(h9.offS s') b37=some (.inl ⟨[I (aA m.nodes p).idx,I (cj m.nodes p)],2,false⟩)->(h9.offS s') b43=some (.inl ⟨[sl.v],1,false⟩)->Buf h9 s' 1 ((VL (lv (cj m.nodes p) (q+1) ci)).map I)->
   ∃(cs:List Value) (z:Nat),h9 b43=some (.inl ⟨cs,z,false⟩)/\0+1<=List.length cs/\cA (h9.row b43 (cz cs 0 [.slice s'.a s'.n s'.c]) z) fun h83=> ∃(x85:Int),Hp.cell h83 b37 (0+1)=some (I x85)/\(J (W (((cC m.nodes (ps.take i)+cj m.nodes p*q:Nat):Int)+x85)) h83):=by
  intro s' h9 g1 g2 g3 g4 g5
  (with_reducible apply vN);(exact g4);(exact g2);(exact hb43');(exact Nat.le_refl 1)
  intro h10 e43 kp l10 hbk
  have e37:(h10.offS s') b37=some (.inl ⟨[I (aA m.nodes p).idx,I (cj m.nodes p)],2,false⟩):=by rw [kp _ n37];exact g3
  refine⟨_,by rw [aq (bz _ _ _ _ e37)];rfl,?_⟩
  have:W (((cC m.nodes (ps.take i)+cj m.nodes p*q:Nat):Int)+((cj m.nodes p:Nat):Int))=((cC m.nodes (ps.take i)+cj m.nodes p*(q+1):Nat):Int):=by
   rw [bU (by omega) (by omega),Nat.mul_add,Nat.mul_one];omega
  rw [this]
  exact hJ s' h10 l10 e37 e43 g1 (hbk _ _ g5)
 constructor
 ·repeat' (refine az ?_)
  rw [if_neg (by omega)]
  repeat' (refine az ?_)
  rw [if_neg (by omega),if_neg (by omega)]
  refine aj fun b75 h8 hb75 l8 f75=>?_
  (((with_reducible apply kW);(assumption);(assumption)))
  exact app _ h8 b75 l8 f75 fun s' h9 g1 g2 g3 g4 g5=>fin s' h9 g1 g2 g3 g4 g5
 ·repeat' (refine az ?_)
  rw [if_neg (by omega)]
  repeat' (refine az ?_)
  rw [if_neg (by omega),if_neg (by omega)]
  refine aj fun b75 h8 hb75 l8 f75=>?_
  (((with_reducible apply kW);(assumption);(assumption)))
  exact app _ h8 b75 l8 f75 fun s' h9 g1 g2 g3 g4 g5=>fin s' h9 g1 g2 g3 g4 g5
theorem PH {a n x:Nat} (h:a<2^n):a|||(x*2^n)=a+x*2^n:=by
 rw [Nat.or_comm,Nat.mul_comm,<-Nat.two_pow_add_eq_or_of_lt h,Nat.add_comm]
theorem Hg {l:List NodeP} {ps:List Nat} {vs:List (List Nat)} {i p:Nat} (h:ps[i]?=some p) (hf:kb l ps vs):
  dZ l (ps.take (i+1)) (vs.take (i+1))=dZ l (ps.take i) (vs.take i)+2^cC l (ps.take i)*fP (cj l p) (vs.getD i []):=by
 have hlt:=get_lt h
 have hl:=oZ hf
 rw [List.getElem?_eq_getElem hlt]at h
 rw [List.take_succ_eq_append_getElem hlt,List.take_succ_eq_append_getElem (show i<vs.length by omega),O8 (by rw [List.length_take,List.length_take];omega),Option.some.inj h]
 rw [List.getD_eq_getElem?_getD,List.getElem?_eq_getElem (show i<vs.length by omega)];rfl
theorem PN {w:Nat} {v:List Nat} {q:Nat} (h:q<v.length):fP w (v.take (q+1))=fP w (v.take q)+2^(w*q)*v.getD q 0:=by
 rw [List.take_succ_eq_append_getElem h,Gi,List.length_take,Nat.min_eq_left (by omega),List.getD_eq_getElem?_getD,List.getElem?_eq_getElem h];rfl
theorem vW {l:List NodeP} {ps:List Nat} {vs:List (List Nat)} {i p q:Nat} (h:ps[i]?=some p) (hf:kb l ps vs) (hq:q<=aK l p):
  dZ l (ps.take i) (vs.take i)+2^cC l (ps.take i)*fP (cj l p) ((vs.getD i []).take q)<2^(cC l (ps.take i)+cj l p*q):=by
 have h1:=uC (SS hf i)
 have h2:=mC hf h
 have h3:=xJ (w:=cj l p) (xs:=(vs.getD i []).take q) fun x hx=>h2.2 x (List.mem_of_mem_take hx)
 rw [List.length_take,Nat.min_eq_left (by omega)]at h3
 rw [Nat.pow_add]
 have h4:=Nat.mul_le_mul_left (2^cC l (ps.take i)) (Nat.succ_le_of_lt h3)
 rw [Nat.succ_eq_add_one,Nat.mul_add,Nat.mul_one]at h4
 omega
theorem IntSS.getV {h:Hp} {s:Sl} {vs:List (List Nat)} (e:IntSS h s (vs.map VL)) {i:Nat} (hi:i<vs.length):
  ∃b o t,s.a=some (Addr.mk b o none)/\Hp.cell h b (o+i*1)=some (Sl.v t)/\IntS h t (VL (vs.getD i [])):=by
 obtain⟨b,o,t,h1,h2,h3⟩:=e.at (i:=i) (by rw [List.length_map];exact hi)
 refine⟨b,o,t,h1,by rw [Nat.mul_one];exact h2,?_⟩
 rw [List.getElem_map]at h3
 rwa [List.getD_eq_getElem?_getD,List.getElem?_eq_getElem hi]
theorem yY {l:List NodeP} {ps:List Nat} {i p q:Nat} (h:ps[i]?=some p) (hq:q<=aK l p):cC l (ps.take i)+cj l p*q<=cC l ps:=by
 have h1:=nF (l:=l) h
 have h2:=FH l ps (i+1)
 have h3:=Nat.mul_le_mul_left (cj l p) hq
 omega
theorem Bu {n:Nat} (h:n<=60):2^n<=1152921504606846976:=by
 have:=Nat.pow_le_pow_right (n:=2) (by omega) h
 simpa using this
theorem yU {l:List NodeP} {ps:List Nat} {vs:List (List Nat)} {i p q:Nat} (h:ps[i]?=some p) (hf:kb l ps vs) (hq:q<aK l p):
  dZ l (ps.take i) (vs.take i)+2^cC l (ps.take i)*fP (cj l p) ((vs.getD i []).take (q+1))=
   (dZ l (ps.take i) (vs.take i)+2^cC l (ps.take i)*fP (cj l p) ((vs.getD i []).take q))+(vs.getD i []).getD q 0*2^(cC l (ps.take i)+cj l p*q):=by
 have h2:=mC hf h
 rw [PN (by omega),Nat.mul_add,Nat.add_assoc,<-Nat.mul_assoc,<-Nat.pow_add,Nat.mul_comm (2^(cC l (ps.take i)+cj l p*q))]
theorem CU {h:Hp} {M:MSl} {m:ah} {s t:Sl} {ps:List Nat} {vs:List (List Nat)} {R:Value->Hp->Prop} (hs:aO h M m) (hm:bW m) (hok:cv m.nodes=true) (hp:IntS h s (VL ps)) (hps: ∀p∈ps,p<m.nodes.length) (hpl:ps.length<=1048576)
  (hv:IntSS h t (vs.map VL)) (hf:kb m.nodes ps vs) (hsum:cC m.nodes ps<=60) (k:R (I (dZ m.nodes ps vs)) h):iY #[aQ M,s.v,t.v] h R:=by
 refine ACalls.drop (Bx ?_)
 refine uf_ ?_
 have hn:=hs.nodes.len
 have hns:=hm.nodes
 have hsn:=hp.len
 rw [aY]at hsn
 have htn:=hv.len
 rw [List.length_map]at htn
 have hvl:=oZ hf
 have hsum60:=Bu hsum
 refine aj fun b9 h1 hb9 l1 f9=>?_
 refine av ps.length (fun i ws h'=>h'=h1/\ws= [t.v, .pointer (some ⟨b9,0,none⟩),I (dZ m.nodes (ps.take i) (vs.take i):Nat),I (cC m.nodes (ps.take i):Nat),s.v,I s.n,I i]) ⟨rfl,by simp [dZ,cC]⟩ ?_
 rintro i _ _ next hi ⟨rfl,rfl⟩ hnx
 rename_i h1
 refine⟨t,_,_,_,_,s,_,_,rfl,?_⟩
 by_cases hlt:i<ps.length
 rotate_left
 ·have hie:i=ps.length:=by omega
  subst hie
  refine aE (by simp;omega) ⟨_,l1,?_⟩
  rw [List.take_of_length_le (Nat.le_refl _),List.take_of_length_le (by omega)];exact k
 refine aM (by simp;omega) ?_
 obtain⟨p,hpi⟩: ∃p,ps[i]?=some p:=⟨_,List.getElem?_eq_getElem hlt⟩
 have hpm:=hps p (List.mem_of_getElem? hpi)
 obtain⟨b,o,ha,hc⟩:=(hp.mono l1).get (gZ hpi)
 refine⟨b,o,ha,by omega,by omega,_,hc,?_⟩
 obtain⟨bt,ot,c,hta,htc,hcv⟩:=(hv.mono l1).getV (i:=i) (by omega)
 refine⟨bt,ot,hta,by omega,by omega,c,htc,?_⟩
 obtain⟨bn,on,han,hpn,c7,w1,w16⟩:=(hs.mono l1).nodes.widc hpm hok
 have hg:=mC hf hpi
 have hcn:=hcv.len
 rw [aY]at hcn
 have hcl:=dm m.nodes p
 refine av (aK m.nodes p) (fun q ws h'=>h'=h1/\ws= [t.v, .pointer (some ⟨b9,0,none⟩),I (dZ m.nodes (ps.take i) (vs.take i)+2^cC m.nodes (ps.take i)*fP (cj m.nodes p) ((vs.getD i []).take q):Nat),
  I (cC m.nodes (ps.take i)+cj m.nodes p*q:Nat),I p,s.v,I s.n,I i,c.v,I c.n,I q]) ⟨rfl,by simp [fP]⟩ ?_
 rintro q _ _ next2 hq ⟨rfl,rfl⟩ hnx2
 rename_i h1
 refine⟨t,_,_,_,_,_,s,_,_,c,_,_,rfl,?_⟩
 by_cases hlq:q<aK m.nodes p
 rotate_left
 ·have hqe:q=aK m.nodes p:=by omega
  subst hqe
  refine aE (by simp;omega) ?_
  rw [aC (by omega)]
  refine hnx hlt _ _ ⟨rfl,?_⟩
  rw [Hg hpi hf,nF hpi,List.take_of_length_le (l:=vs.getD i []) (by omega)]
 refine aM (by simp;omega) ?_
 obtain⟨bc,oc,hca,hcc,hln⟩:=hcv.elt (i:=q) (by omega)
 refine⟨bc,oc,hca,by omega,by omega,_,hcc,?_⟩
 have hb1:=vW hpi hf (Nat.le_of_lt hlq)
 have hb2:=vW (q:=q+1) hpi hf hlq
 rw [yU hpi hf hlq]at hb2
 have hs1:=yY hpi (Nat.le_of_lt hlq)
 have hs2:=yY (q:=q+1) hpi hlq
 have hp1:=Bu (n:=cC m.nodes (ps.take i)+cj m.nodes p*(q+1)) (by omega)
 have hp2:=Bu (n:=cC m.nodes (ps.take i)+cj m.nodes p*q) (by omega)
 rw [if_neg (by omega)]
 (refine az ?_)
 refine⟨bn,on,han,by omega,hpn,_,c7,?_⟩
 rw [ik (by omega) (by omega),Cz (by omega) (by omega),PH hb1,<-yU hpi hf hlq,bU (n:=((cC m.nodes (ps.take i)+cj m.nodes p*q:Nat):Int)+(cj m.nodes p:Nat)) (by omega) (by omega),aC (by omega)]
 refine hnx2 hlq _ _ ⟨rfl,?_⟩
 rw [Nat.mul_add,Nat.mul_one,<-Nat.add_assoc,Int.natCast_add (cC m.nodes (ps.take i)+cj m.nodes p*q)]
structure BX (m:ah) (v:List (List Nat)):Prop where
 len:v.length=m.nodes.length
 fit:yb m.nodes m.nodes.length v
theorem eD {m:ah} (g:dj m) (s i:Nat):BX m (ck m s i):=⟨JO _ _ _,yK g s i⟩
theorem xq {m:ah} (g:dj m):BX m (oK m):=⟨JO _ _ _,Nu g (kv m.nodes (stP m)) (kv m.nodes (inP m))⟩
theorem FD {m:ah} {v:List (List Nat)} (a:BX m v) {p:Int} (h:dD m.nodes p=true):0<=p/\p<v.length/\0<(v.getD p.toNat []).length/\cB v p<2:=by
 unfold dD at h
 simp only [Bool.and_eq_true,decide_eq_true_eq]at h
 have hp:=fB.1 h.1
 have hn:((p.toNat:Nat):Int)=p:=by omega
 have hf:=a.fit p.toNat (by omega) (by omega)
 rw [hn,h.2]at hf
 have:=hf.cell
 exact⟨hp.1,by rw [a.len];exact hp.2,hf.pos,by unfold cB;exact this⟩
theorem Gl {h:Hp} {s:Sl} {v:List (List Nat)} {p:Int} {R:Value->Hp->Prop} (hpv:gE h s v) (h0:0<=p) (hp:p<v.length) (hne:0<(v.getD p.toNat []).length)
  (k:R (.bool (decide (cB v p=1))) h):rN #[s.v,I p] h R:=by
 apply Lo
 refine uf_ ?_
 obtain⟨b,o,t,ha,hlt,hc,ht⟩:=hpv.at h0 hp
 refine⟨b,o,ha,h0,hlt,t,hc,?_⟩
 obtain⟨b2,o2,ha2,hc2,hl2⟩:=ht.elt hne
 refine⟨b2,o2,ha2,by omega,by omega,_,hc2,dr ?_ k⟩
 rw [Bool.eq_iff_iff,decide_eq_true_eq,beq_iff_eq]
 unfold cB;omega
theorem Gk {h:Hp} {M:MSl} {m:ah} {s:Sl} {v:List (List Nat)} {R:Value->Hp->Prop} (hs:aO h M m) (g:dj m) (hpv:gE h s v) (a:BX m v)
  (k:R (.bool (gY m v)) h):jY #[aQ M,s.v] h R:=by
 refine ACalls.drop (Ah ?_)
 refine uf_ ?_
 refine aj fun b8 h1 hb8 l1 f8=>?_
 refine aj fun b10 h2 hb10 l2 f10=>?_
 replace f8:=l2 _ _ f8
 replace l2:=Hp.le_trans l1 l2
 (refine az ?_)
 refine pu (fun p=> !decide (cB v p=1)) (hs.mono l2).holds (fun p hp R k=>?_) ⟨_,rfl,_,l2,dr ?_ k⟩
 ·obtain⟨h1,h2,h3,_⟩:=FD a (g.hol p hp)
  apply wR
  refine uf_ ?_
  (refine az ?_)
  exact Gl (hpv.mono l2) h1 h2 h3 ⟨_,rfl,k⟩
 ·rw [FT,Bool.not_not];rfl
theorem Ny {h:Hp} {M:MSl} {m:ah} {s:Sl} {v:List (List Nat)} {R:Value->Hp->Prop} (hs:aO h M m) (g:dj m) (hpv:gE h s v) (a:BX m v)
  (k:R (I (yn m v)) h):lH #[aQ M,s.v] h R:=by
 refine ACalls.drop (DH ?_)
 refine uf_ ?_
 refine aj fun b8 h1 hb8 l1 f8=>?_
 refine aj fun b10 h2 hb10 l2 f10=>?_
 replace f8:=l2 _ _ f8
 replace l2:=Hp.le_trans l1 l2
 (refine az ?_)
 refine sO (fun p=>decide (cB v p=1)) (hs.mono l2).bads (fun p hp R k=>?_) ⟨_,rfl,_,l2,rb ?_ k⟩
 ·obtain⟨h1,h2,h3,_⟩:=FD a (g.bad p hp)
  apply zy
  refine uf_ ?_
  (refine az ?_)
  exact Gl (hpv.mono l2) h1 h2 h3 ⟨_,rfl,k⟩
 ·unfold Gs yn qH
  cases List.findIdx? (fun p=>decide (cB v p=1)) m.bads<;>rfl
theorem vn {h:Hp} {M:MSl} {m:ah} {s:Sl} {v:List (List Nat)} {R:Value->Hp->Prop} (hs:aO h M m) (g:dj m) (hpv:gE h s v) (a:BX m v)
  (k:R (.bool (gY m v)) h):k8 #[aQ M,s.v] h R:=by
 refine ACalls.drop (H5 ?_)
 refine uf_ ?_
 have hhn:=hs.holds.len
 have hhl:=g.hl
 refine aj fun b8 h1 hb8 l1 f8=>?_
 refine av m.holds.length (fun i vs h'=>h'=h1/\vs= [s.v, .pointer (some ⟨b8,0,none⟩),I i]/\(m.holds.take i).all (fun p=>decide (cB v p=1))=true) ⟨rfl,rfl,rfl⟩ ?_
 rintro i _ _ next hi ⟨rfl,rfl,hall⟩ hnx
 rename_i h1
 refine⟨s,_,_,_,rfl,?_⟩
 repeat' (refine az ?_)
 by_cases hlt:i<m.holds.length
 rotate_left
 ·refine aE (by simp;omega) ⟨_,l1,dr ?_ k⟩
  rw [List.take_of_length_le (by omega)]at hall
  exact hall.symm
 refine aM (by simp;omega) ?_
 obtain⟨p,hpi⟩: ∃p,m.holds[i]?=some p:=⟨_,List.getElem?_eq_getElem hlt⟩
 obtain⟨e0,e1,e2,e3⟩:=FD a (g.hol p (List.mem_of_getElem? hpi))
 obtain⟨b,o,ha,hc⟩:=(hs.mono l1).holds.get hpi
 (refine az ?_)
 refine⟨b,o,ha,by omega,by omega,_,hc,?_⟩
 obtain⟨b1,o1,t,ha1,hlt1,hc1,ht⟩:=(hpv.mono l1).at e0 e1
 refine⟨b1,o1,ha1,e0,hlt1,t,hc1,?_⟩
 obtain⟨b2,o2,ha2,hc2,hl2⟩:=ht.elt e2
 refine⟨b2,o2,ha2,by omega,by omega,_,hc2,?_⟩
 refine ac (fun e=>⟨_,l1,dr ?_ k⟩) (fun e=>?_)
 ·have e':=bV e
  symm
  refine CG hpi ?_
  rw [decide_eq_false_iff_not]
  unfold cB;omega
 ·have e':=bk e
  rw [aC (by omega)]
  refine hnx hlt _ _ ⟨rfl,rfl,?_⟩
  rw [yR hpi,hall,Bool.true_and,decide_eq_true_eq]
  unfold cB at e3⊢;omega
theorem Jv {α:Type} {p:α->Bool} {xs:List α} {i:Nat} {x:α} (hx:xs[i]?=some x) (hp:p x=true) (h:(xs.take i).any p=false):xs.findIdx? p=some i:=by
 have hlt:=get_lt hx
 have he:xs[i]=x:=by rw [List.getElem?_eq_getElem hlt]at hx;exact Option.some.inj hx
 rw [List.findIdx?_eq_some_iff_getElem]
 refine⟨hlt,by rw [he];exact hp,fun j hj=>?_⟩
 rw [List.any_eq_false]at h
 have:=h xs[j] (by rw [List.mem_take_iff_getElem];exact⟨j,by omega,rfl⟩)
 simpa using this
theorem MQ {α:Type} {p:α->Bool} {xs:List α} (h:xs.any p=false):xs.findIdx? p=none:=by
 rw [List.findIdx?_eq_none_iff]
 rw [List.any_eq_false]at h
 intro x hx;simpa using h x hx
theorem Ti {α:Type} {l:List α} {p:α->Bool} {i:Nat} {x:α} (hx:l[i]?=some x):(l.take (i+1)).any p=((l.take i).any p||p x):=by
 have hlt:=get_lt hx
 rw [List.getElem?_eq_getElem hlt]at hx
 rw [List.take_succ_eq_append_getElem hlt,List.any_append,Option.some.inj hx];simp
theorem AK {h:Hp} {M:MSl} {m:ah} {s:Sl} {v:List (List Nat)} {R:Value->Hp->Prop} (hs:aO h M m) (g:dj m) (hpv:gE h s v) (a:BX m v)
  (k:R (I (yn m v)) h):oT #[aQ M,s.v] h R:=by
 refine ACalls.drop (Lx ?_)
 refine uf_ ?_
 have hhn:=hs.bads.len
 have hhl:=g.bl
 refine aj fun b8 h1 hb8 l1 f8=>?_
 refine av m.bads.length (fun i vs h'=>h'=h1/\vs= [s.v, .pointer (some ⟨b8,0,none⟩),I i]/\(m.bads.take i).any (fun p=>decide (cB v p=1))=false) ⟨rfl,rfl,rfl⟩ ?_
 rintro i _ _ next hi ⟨rfl,rfl,hall⟩ hnx
 rename_i h1
 refine⟨s,_,_,_,rfl,?_⟩
 repeat' (refine az ?_)
 by_cases hlt:i<m.bads.length
 rotate_left
 ·refine aE (by simp;omega) ⟨_,l1,rb ?_ k⟩
  rw [List.take_of_length_le (by omega)]at hall
  unfold yn qH
  rw [MQ hall]
 refine aM (by simp;omega) ?_
 obtain⟨p,hpi⟩: ∃p,m.bads[i]?=some p:=⟨_,List.getElem?_eq_getElem hlt⟩
 obtain⟨e0,e1,e2,e3⟩:=FD a (g.bad p (List.mem_of_getElem? hpi))
 obtain⟨b,o,ha,hc⟩:=(hs.mono l1).bads.get hpi
 (refine az ?_)
 refine⟨b,o,ha,by omega,by omega,_,hc,?_⟩
 obtain⟨b1,o1,t,ha1,hlt1,hc1,ht⟩:=(hpv.mono l1).at e0 e1
 refine⟨b1,o1,ha1,e0,hlt1,t,hc1,?_⟩
 obtain⟨b2,o2,ha2,hc2,hl2⟩:=ht.elt e2
 refine⟨b2,o2,ha2,by omega,by omega,_,hc2,?_⟩
 refine ac (fun e=>⟨_,l1,rb ?_ k⟩) (fun e=>?_)
 ·have e':=bV e
  unfold yn qH
  rw [Jv hpi (by rw [decide_eq_true_eq];unfold cB;omega) hall]
 ·have e':=bk e
  rw [aC (by omega)]
  refine hnx hlt _ _ ⟨rfl,rfl,?_⟩
  rw [Ti hpi,hall,Bool.false_or,decide_eq_false_iff_not]
  unfold cB;omega
theorem vB (b:BindP) (r:List BindP) (p:Nat):cf (b::r) p=if b.state=(p:Int)then some b.node.toNat else cf r p:=by
 unfold cf
 rw [List.find?_cons]
 by_cases e:b.state=(p:Int)<;>simp [e]
theorem cO {m:ah} (g:dj m) (kind:Int): ∀p∈aH m.nodes kind,p<m.nodes.length:=fun p hp=>k7 hp
theorem fy (l:List NodeP) (kind:Int):(aH l kind).length<=l.length:=by
 unfold aH
 refine Nat.le_trans (List.length_filter_le _ _) ?_
 rw [List.length_range];omega
theorem KQ {l:List NodeP} {ps:List Nat} {v:List Nat} (h:v∈cX l ps):v.length<=4:=by
 unfold cX at h
 obtain⟨p,_,rfl⟩:=List.mem_map.1 h
 rw [List.length_replicate];exact dm _ _
theorem B0 {h:Hp} {M:MSl} {m:ah} {R:Value->Hp->Prop} (hs:aO h M m) (hm:bW m) (g:dj m)
  (k: ∀t h',h.le h'->t.n=m.nodes.length->gE h' t (oK m)->R (Sl.v t) h'):i8 #[aQ M] h R:=by
 apply xP
 refine uf_ ?_
 have hp36:=fy m.nodes 36
 have hp35:=fy m.nodes 35
 have hns:=hm.nodes
 refine aj fun b7 h1 hb7 l1 f7=>?_
 have x7:=fe f7
 repeat' (refine az ?_)
 refine eo (hs.mono l1) hm fun t1 h2 l2 p1=>⟨t1,rfl,?_⟩
 repeat' (((with_reducible apply kW);(assumption);(assumption)))
 have l12:=Hp.le_trans l1 l2
 refine sJ (hs.mono l12) hm p1 (cO g 36) (by omega) fun o1 ts1 h3 c1 n1=>⟨o1,rfl,?_⟩
 have l23:=Hp.le_trans c1.le (bz _ _)
 have l13:=Hp.le_trans l2 l23
 repeat' (((with_reducible apply kW);(assumption);(assumption)))
 refine eo (hs.mono (Hp.le_trans l1 l13)) hm fun t2 h4 l4 p2=>⟨t2,rfl,?_⟩
 have l14:=Hp.le_trans l13 l4
 repeat' (((with_reducible apply kW);(assumption);(assumption)))
 refine sJ (hs.mono (Hp.le_trans l1 l14)) hm p2 (cO g 35) (by omega) fun o2 ts2 h5 c2 n2=>⟨o2,rfl,?_⟩
 have l45:=Hp.le_trans c2.le (bz _ _)
 have l15:=Hp.le_trans l14 l45
 (((with_reducible apply kW);(assumption);(assumption)))
 have i1:IntSS h5 o1 ((cX m.nodes (stP m)).map VL):=(c1.ints (fun v hv=>by have:=KQ hv;omega) (by omega)).mono (Hp.le_trans l4 l45)
 have i2:IntSS h5 o2 ((cX m.nodes (inP m)).map VL):=c2.ints (fun v hv=>by have:=KQ hv;omega) (by omega)
 exact yO (hs.mono (Hp.le_trans l1 l15)) hm g.ok g.nl i1 c1.buf.2.1 (yL g.ok (kv _ _)) i2 c2.buf.2.1 (yL g.ok (kv _ _)) fun t h6 l6 hn hpv=>⟨t,rfl,k t h6 (Hp.le_trans l1 (Hp.le_trans l15 l6)) hn hpv⟩
structure ZS (l:List NodeP) (g:Hp) (ps:List Nat) (ts:List Sl):Prop where
 len:ts.length=ps.length
 val: ∀(j:Nat) (t:Sl),ts[j]?=some t->IntS g t (VL ((cX l ps).getD j []))
theorem ZS.mono {l:List NodeP} {g g':Hp} {ps:List Nat} {ts:List Sl} (le:g.le g') (e:ZS l g ps ts):ZS l g' ps ts:=⟨e.len,fun j t h=>(e.val j t h).mono le⟩
theorem ZS.ints {l:List NodeP} {g h:Hp} {ps:List Nat} {ts:List Sl} {s:Sl} (e:ZS l g ps ts) (le:g.le h) (hb:Buf h s 1 (ts.map Sl.v)) (hn:s.n<=1048576):IntSS h s ((cX l ps).map VL):=by
 refine⟨ts,by rw [List.length_map,nr];exact e.len,hb.slc_of (by omega),fun i h1 h2=>?_⟩
 have:=(e.val i _ (List.getElem?_eq_getElem h1)).mono le
 have hi:i<(cX l ps).length:=by rw [List.length_map]at h2;exact h2
 rw [List.getElem_map]
 rwa [List.getD_eq_getElem?_getD,List.getElem?_eq_getElem hi]at this
theorem Buf.fresh_ne {h:Hp} {s:Sl} {sz b:Nat} {cs:List Value} (e:Buf h s sz cs) (hb:h b=none): ∀a,s.a=some a->a.block≠b:=by
 intro a ha hab
 rcases e.2.2 with ⟨h0,_⟩|⟨c,hc,hcb⟩
 ·rw [h0]at ha;cases ha
 ·rw [hc]at ha;cases ha
  subst hab
  rw [hb]at hcb;cases hcb
theorem Buf.offS_new {h h':Hp} {s:Sl} {sz b:Nat} {cs:List Value} {x:Blk} (e:Buf h s sz cs) (hb:h b=none) (f:h' b=some x):(h'.offS s) b=some x:=by
 rw [B4 (e.fresh_ne hb)];exact f
theorem Buf.sub_le {h h':Hp} {s:Sl} {sz:Nat} {cs:List Value} (e:Buf (h'.sub h) s sz cs) (l:h.le h'):h.le (h'.offS s):=by
 unfold Hp.offS
 rcases e.2.2 with ⟨h0,_⟩|⟨b,ha,hb⟩
 ·rw [h0];exact l
 ·rw [ha]
  refine vQ ?_ l
  cases hx:h b with
  |none=>rfl
  |some x=>rw [ml hx]at hb;cases hb
theorem Buf.sub_buf {h h':Hp} {s:Sl} {sz:Nat} {cs:List Value} (e:Buf (h'.sub h) s sz cs):Buf h' s sz cs:=e.mono (Go.Lead.sub_le _ _)
theorem Buf.wr {h:Hp} {out x:Sl} {ts:List Sl} {q:Nat} {P:Hp->Prop} (e:Buf h out 1 (ts.map Sl.v)) (hq:q<ts.length)
  (k: ∀h',Buf h' out 1 ((ts.set q x).map Sl.v)->h'.offS out=h.offS out->P h'):
  ∃b o:Nat,out.a=some (Addr.mk b o none)/\(0:Int)<=(q:Int)/\(q:Int)<((out.n:Nat):Int)/\
   ∃(cs:List Value) (z:Nat),h b=some (.inl ⟨cs,z,false⟩)/\(o+Int.toNat (q:Int)*1)+1<=List.length cs/\cA (h.row b (cz cs (o+Int.toNat (q:Int)*1) [x.v]) z) P:=by
 have hl:=e.1
 rw [List.length_map]at hl
 rcases e.2.2 with ⟨_,h0,_⟩|⟨b,ha,hb⟩
 ·omega
 ·refine⟨b,0,ha,by omega,by omega,_,_,hb,by rw [List.length_map,Int.toNat_natCast];omega,?_⟩
  rw [RD]
  refine k _ ⟨by rw [List.length_map,List.length_set];omega,e.2.1, .inr ⟨b,ha,?_⟩⟩ ?_
  ·rw [bM,bJ,Int.toNat_natCast,Nat.zero_add,Nat.mul_one,List.map_set]
  ·unfold Hp.offS;rw [ha];exact vV _ _ _ _
theorem N0 (v:List Nat) (i x:Nat):(VL (v++List.replicate i x)).map I++ [I (x:Int)]=(VL (v++List.replicate (i+1) x)).map I:=by
 rw [List.replicate_succ',<-List.append_assoc,uF (v++List.replicate i x),List.map_append];rfl
theorem xE {h:Hp} {s:Sl} {v:List Nat} {i w:Int} {R:Value->Hp->Prop} (hs:IntS h s (VL v)) (h0:0<v.length) (hl:v.length<=4)
  (k: ∀t h',h.le h'->IntS h' t (VL (nE (cT ⟨i,w⟩) v))->R (.agg #[Sl.v t]) h'):mz #[.agg #[I i,I w], .agg #[s.v]] h R:=by
 apply Jj
 refine uf_ ?_
 refine aj fun b5 h1 hb5 l1 f5=>?_
 refine aj fun b7 h2 hb7 l2 f7=>?_
 replace f5:=l2 _ _ f5
 have l02:=Hp.le_trans l1 l2
 have b7n:=aF l1 hb7
 refine aj fun b9 h3 hb9 l3 f9=>?_
 have n59:=fresh_ne hb9 f5
 have n79:=fresh_ne hb9 f7
 have b9n:=aF l02 hb9
 replace f5:=l3 _ _ f5
 replace f7:=l3 _ _ f7
 have l03:=Hp.le_trans l02 l3
 (refine az ?_)
 refine nY (hs.mono l03) (by rw [aY];omega) fun c h4 l4 hb4=>⟨c,rfl,?_⟩
 have l4o:=hb4.sub_le l4
 have hb4':=hb4.sub_buf
 refine aj fun b16 h5 hb16 l5 f16'=>?_
 have b16n:=aF l4 hb16
 have l5o:=Hp.le_trans l4o (bQ c l5)
 have f16o:=hb4'.offS_new hb16 f16'
 (with_reducible apply vN);(exact f16o);(exact l5o);(exact b16n);(exact Nat.le_refl 1)
 intro h6 f16 kp l6 hbk
 have hbuf:=hbk _ _ (hb4'.mono l5)
 have hcn:=hbuf.1
 rw [List.length_map,aY]at hcn
 have hc4:=vD ⟨i,w⟩
 refine av (cT ⟨i,w⟩-v.length) (fun q vs h'=> ∃sl:Sl,vs= [.pointer (some ⟨b5,0,none⟩), .pointer (some ⟨b7,0,none⟩), .pointer (some ⟨b9,0,none⟩), .pointer (some ⟨b16,0,none⟩)]/\h3.le (h'.offS sl)/\
  (h'.offS sl) b16=some (.inl ⟨[sl.v],1,false⟩)/\sl.n=v.length+q/\Buf h' sl 1 ((VL (v++List.replicate q (v.getD 0 0))).map I)) ⟨c,rfl,l6,f16,by omega,by simpa using hbuf⟩ ?_
 clear hbuf hbk kp l6 f16 f16o l5o f16' l5 hb16 hb4' l4o hb4 l4 hcn h4 h5 h6
 rintro q _ h4 next hq ⟨sl,rfl,l4,f16,hsl,hbuf⟩ hnx
 have lo:=bz h4 sl
 have l4':=Hp.le_trans l4 lo
 have g5:=l4' _ _ f5
 have g7:=l4' _ _ f7
 have g16:=lo _ _ f16
 refine⟨_,_,_,_,_,_,_,_,rfl,?_⟩
 repeat' (refine az ?_)
 refine lQ ⟨_,rfl,rfl,?_⟩
 by_cases hlt:q<cT ⟨i,w⟩-v.length
 ·refine aM (by simp;omega) ?_
  repeat' (refine az ?_)
  obtain⟨b,o,ha,hc,hln⟩:=((hs.mono l03).mono l4').elt (i:=0) h0
  refine⟨b,o,ha,by omega,by omega,_,hc,?_⟩
  have x16:=fe g16
  refine aj fun b48 h5 hb48 l5 f48=>?_
  (((with_reducible apply kW);(assumption);(assumption)))
  have l5o:=bQ sl l5
  refine dx (hbuf.mono l5) (by omega) (by omega) (by omega) ⟨b48,0,rfl,ay f48⟩ (by simp) rfl ?_
  intro s' h6 hs'n hbuf' l6 _
  have l46:=Hp.le_trans l5o l6
  (with_reducible apply vN);(exact l46 _ _ f16);(exact Hp.le_trans l4 l46);(exact b16n);(exact Nat.le_refl 1)
  intro h7 e16 kp l7 hbk
  refine hnx hlt _ _ ⟨s',rfl,l7,e16,by omega,hbk _ _ ?_⟩
  rw [<-N0];exact hbuf'
 ·have hqe:q=cT ⟨i,w⟩-v.length:=by omega
  subst hqe
  refine aE (by simp;omega) ?_
  repeat' (refine az ?_)
  have f9o:(h4.offS sl) b9=some (.inl ⟨[.slice none 0 0],1,false⟩):=l4 _ _ f9
  (with_reducible apply vN);(exact f9o);(exact Hp.le_trans l03 l4);(exact b9n);(exact Nat.le_refl 1)
  intro h7 e9 kp l7 hbk
  have e9':=bz _ _ _ _ e9
  refine⟨sl,by rw [aq e9'];rfl,k sl h7 (Hp.le_trans l7 (bz _ _)) ((hbk _ _ hbuf).slc_of (by omega))⟩
def AY (m:ah) (v:List (List Nat)) (j p:Nat):List Nat:=((cf (m.nexts.take j) p).map fun k=>v.getD k []).getD (List.replicate (aK m.nodes p) 0)
theorem NZ (m:ah) (v:List (List Nat)) (p:Nat):AY m v m.nexts.length p=(gL m v p).getD (List.replicate (aK m.nodes p) 0):=by
 unfold AY gL;rw [List.take_length]
theorem Su {m:ah} (g:dj m) (v:List (List Nat)) {j:Nat} {b:BindP} (hb:m.nexts[j]?=some b) (p:Nat):AY m v (j+1) p=if b.state=(p:Int)then v.getD b.node.toNat []else AY m v j p:=by
 unfold AY
 rw [HL (qu g.twice).2.2 hb]
 split<;>rfl
theorem Xz {m:ah} (g:dj m) {v:List (List Nat)} (a:BX m v) {j p:Nat}:(AY m v j p).length<=4:=by
 unfold AY
 cases hb:cf (m.nexts.take j) p with
 |none=>simp only [Option.map_none,Option.getD_none,List.length_replicate];exact dm _ _
 |some k=>
  simp only [Option.map_some,Option.getD_some]
  obtain⟨b,hm,_,rfl⟩:=fT hb
  have hp:=fB.1 (gA (g.nex b (List.mem_of_mem_take hm))).2.1
  have:=uM g.ok (show b.node.toNat<m.nodes.length by omega) (a.fit b.node.toNat (by omega) (by omega))
  rw [this.1];exact dm _ _
theorem Hn (m:ah) (v:List (List Nat)) {i p:Nat} (h:(stP m)[i]?=some p):(eK m v).getD i []=AY m v m.nexts.length p:=by
 rw [NZ]
 unfold eK kJ
 rw [List.getD_eq_getElem?_getD,List.getElem?_map,h];rfl
theorem iZ {m:ah} (g:dj m) (kind:Int):(aH m.nodes kind).length<=1048576:=by have:=fy m.nodes kind;have:=g.nl;omega
theorem EE {h:Hp} {M:MSl} {m:ah} {s:Sl} {v:List (List Nat)} {R:Value->Hp->Prop} (hs:aO h M m) (hm:bW m) (g:dj m) (hpv:gE h s v) (a:BX m v)
  (k: ∀out h',h.le h'->IntSS h' out ((eK m v).map VL)->R (Sl.v out) h'):ju #[aQ M,s.v] h R:=by
 apply zv
 refine uf_ ?_
 have hp36:(stP m).length<=m.nodes.length:=fy m.nodes 36
 have hnl:=g.nl
 have hxl:=g.xl
 have hxn:=hs.nexts.len
 refine aj fun b8 h1 hb8 l1 f8=>?_
 repeat' (refine az ?_)
 refine eo (hs.mono l1) hm fun pt h2 l2 hp=>⟨pt,rfl,?_⟩
 replace f8:=l2 _ _ f8
 have l02:=Hp.le_trans l1 l2
 repeat' (refine az ?_)
 refine sJ (hs.mono l02) hm hp (cO g 36) (iZ g 36) fun out ts h3 c1 hon=>⟨out,rfl,?_⟩
 have hpn:pt.n=(stP m).length:=by have:=hp.len;rw [aY]at this;exact this
 have f83:=bz _ _ _ _ (c1.le _ _ f8)
 (refine az ?_)
 have hs2:=hs.mono l02
 have hpv2:=hpv.mono l02
 refine av m.nexts.length (fun j vs h'=> ∃ts:List Sl,vs= [s.v,pt.v,out.v,M.nex.v,I M.nex.n,I j]/\h2.le (h'.offS out)/\Buf h' out 1 (ts.map Sl.v)/\ts.length=(stP m).length/\
  ∀(i p:Nat) (t:Sl),(stP m)[i]?=some p->ts[i]?=some t->IntS (h'.offS out) t (VL (AY m v j p))) ⟨ts,rfl,c1.le,c1.buf,by rw [c1.len,nr],fun i p t hp ht=>?_⟩ ?_
 ·obtain⟨b,e1,e2,e3⟩:=c1.row i t ht
  have hz:(cX m.nodes (stP m)).getD i []=AY m v 0 p:=by
   unfold cX AY
   rw [List.getD_eq_getElem?_getD,List.getElem?_map,hp];rfl
  rw [hz]at e1 e3
  rw [e1]
  have:=Xz g a (j:=0) (p:=p)
  exact⟨by dsimp only;omega,by simp [aY], .inr ⟨b,0,rfl,ay e3⟩⟩
 clear c1 f83 ts h3
 rintro j _ h3 next hj ⟨ts,rfl,l3,hbuf,htl,hts⟩ hnx
 have lo:=bz h3 out
 have l23:=Hp.le_trans l3 lo
 refine⟨s,pt,out,M.nex,_,_,rfl,?_⟩
 by_cases hlt:j<m.nexts.length
 rotate_left
 ·have hje:j=m.nexts.length:=by omega
  subst hje
  refine aE (by simp;omega) (k out h3 (Hp.le_trans l02 l23) ⟨ts,by unfold eK kJ;rw [List.length_map,List.length_map];exact htl,hbuf.slc_of (by rw [hon];have:=iZ g 36;omega),fun i h1 h2=>?_⟩)
  have hi:i<(stP m).length:=by omega
  have hpi:(stP m)[i]?=some (stP m)[i]:=List.getElem?_eq_getElem hi
  have:=(hts i _ _ hpi (List.getElem?_eq_getElem h1)).mono lo
  rw [<-Hn m v hpi]at this
  rw [List.getElem_map]
  rwa [List.getD_eq_getElem?_getD,List.getElem?_eq_getElem (by unfold eK kJ;simp;exact hi)]at this
 refine aM (by simp;omega) ?_
 obtain⟨bd,hbd⟩: ∃bd,m.nexts[j]?=some bd:=⟨_,List.getElem?_eq_getElem hlt⟩
 obtain⟨q1,q2,q3,q4⟩:=gA (g.nex bd (List.mem_of_getElem? hbd))
 have q2':=fB.1 q2
 obtain⟨bx,ox,hax,cx1,cx2⟩:=(hs2.mono l23).nexts.at hbd
 refine⟨bx,ox,hax,by omega,by omega,_,cx1,_,cx2,?_⟩
 refine aj fun b48 h4 hb48 l4 f48'=>?_
 (with_reducible apply bZ);(exact f48');(exact l4);(exact hb48);(exact Nat.le_refl 2)
 intro h5 f48 kp l5
 have l5o:=bQ out l5
 have f48o:=hbuf.offS_new hb48 f48
 clear f48' kp l4
 refine av (stP m).length (fun q vs h'=> ∃ts:List Sl,vs= [s.v,pt.v,out.v, .pointer (some ⟨b48,0,none⟩),M.nex.v,I M.nex.n,I j,pt.v,I pt.n,I q]/\h2.le (h'.offS out)/\(h'.offS out) b48=some (.inl ⟨[I bd.state,I bd.node],2,false⟩)/\Buf h' out 1 (ts.map Sl.v)/\ts.length=(stP m).length/\
  ∀(i p:Nat) (t:Sl),(stP m)[i]?=some p->ts[i]?=some t->IntS (h'.offS out) t (VL (if i<q then AY m v (j+1) p else AY m v j p)))
  ⟨ts,rfl,Hp.le_trans l3 l5o,f48o,hbuf.mono l5,htl,fun i p t hp ht=>by rw [if_neg (by omega)];exact(hts i p t hp ht).mono l5o⟩ ?_
 clear f48o l5o l5 f48 hb48 hbuf htl hts ts l23 lo l3 hax cx1 cx2 h3 h4 h5
 rintro q _ h3 next2 hq ⟨ts,rfl,l3,f48,hbuf,htl,hts⟩ hnx2
 have lo:=bz h3 out
 have l23:=Hp.le_trans l3 lo
 have g48:=lo _ _ f48
 refine⟨s,pt,out,_,_,_,_,_,pt,_,_,rfl,?_⟩
 by_cases hlq:q<(stP m).length
 rotate_left
 ·refine aE (by simp;omega) ?_
  rw [aC (by omega)]
  refine hnx hlt _ _ ⟨ts,rfl,l3,hbuf,htl,fun i p t hp ht=>?_⟩
  have:=hts i p t hp ht
  rwa [if_pos (by have:=get_lt hp;omega)]at this
 refine aM (by simp;omega) ?_
 obtain⟨p,hpq⟩: ∃p,(stP m)[q]?=some p:=⟨_,List.getElem?_eq_getElem hlq⟩
 obtain⟨bp,op,hap,hcp⟩:=(hp.mono l23).get (gZ hpq)
 refine ap (fun J=> ∀(ts':List Sl) (h':Hp),h2.le (h'.offS out)->(h'.offS out) b48=some (.inl ⟨[I bd.state,I bd.node],2,false⟩)->Buf h' out 1 (ts'.map Sl.v)->ts'.length=(stP m).length->
  (∀(i p:Nat) (t:Sl),(stP m)[i]?=some p->ts'[i]?=some t->IntS (h'.offS out) t (VL (if i<q+1 then AY m v (j+1) p else AY m v j p)))->J h') ?_ (fun J hJ=>?_)
 ·intro ts' h' a1 a2 a3 a4 a5
  rw [aC (by omega)]
  exact hnx2 hlq _ _ ⟨ts',rfl,a1,a2,a3,a4,a5⟩
 refine⟨bp,op,hap,by omega,by omega,_,hcp,?_⟩
 (refine az ?_)
 have hst:=Su g v hbd p
 refine ac (fun e=>?_) (fun e=>?_)
 ·rw [if_pos (bV e).symm]at hst
  (refine az ?_)
  obtain⟨bv,ov,t,hav,hvn,hcv,ht⟩:=(hpv2.mono l23).at q2'.1 (by rw [a.len];exact q2'.2)
  refine⟨bv,ov,hav,q2'.1,hvn,t,hcv,?_⟩
  refine hbuf.wr (x:=t) (by omega) fun h4 hbuf' ho=>?_
  refine hJ _ h4 (by rw [ho];exact l3) (by rw [ho];exact f48) hbuf' (by rw [List.length_set];exact htl) fun i p' u hp' hu=>?_
  rw [ho]
  by_cases hiq:i=q
  ·subst hiq
   rw [hpq]at hp';cases hp'
   rw [List.getElem?_set_self (by omega)]at hu
   obtain rfl:=Option.some.inj hu
   rw [if_pos (by omega),hst]
   obtain⟨bv',ov',t',hav',_,hcv',ht'⟩:=(hpv2.mono l3).at q2'.1 (by rw [a.len];exact q2'.2)
   rw [hav]at hav';cases hav'
   have:=lo.cell hcv'
   rw [hcv]at this
   have htt:t=t':=by
    rcases t with ⟨ta,tn,tc⟩;rcases t' with ⟨ta',tn',tc'⟩
    simpa using this
   rw [htt];exact ht'
  ·rw [List.getElem?_set_ne (fun e=>hiq e.symm)]at hu
   have:=hts i p' u hp' hu
   by_cases h1:i<q
   ·rw [if_pos h1]at this;rw [if_pos (by omega)];exact this
   ·rw [if_neg h1]at this;rw [if_neg (by omega)];exact this
 ·rw [if_neg (fun e'=>bk e e'.symm)]at hst
  refine hJ ts h3 l3 f48 hbuf htl fun i p' u hp' hu=>?_
  have:=hts i p' u hp' hu
  by_cases hiq:i=q
  ·subst hiq
   rw [hpq]at hp';cases hp'
   rw [if_neg (by omega)]at this
   rw [if_pos (by omega),hst];exact this
  ·by_cases h1:i<q
   ·rw [if_pos h1]at this;rw [if_pos (by omega)];exact this
   ·rw [if_neg h1]at this;rw [if_neg (by omega)];exact this
theorem mb {m:ah} (kind:Int) (code:Nat) (g:dj m):zV m.nodes kind (fu m.nodes (aH m.nodes kind) code):=GL g.ok kind code
structure Kn (g h:Hp) (L:List (Nat×Blk)):Prop where
 le:g.le h
 mem: ∀e∈L,h e.1=some e.2
 new: ∀e∈L,g e.1=none
 nd:(L.map Prod.fst).Nodup
inductive Upd :List (Nat×Blk)->Nat->Blk->Blk->List (Nat×Blk)->Prop
 |head {L:List (Nat×Blk)} {b:Nat} {x y:Blk}:Upd ((b,x)::L) b x y ((b,y)::L)
 |tail {L L':List (Nat×Blk)} {b:Nat} {x y:Blk} {e:Nat×Blk}:Upd L b x y L'->Upd (e::L) b x y (e::L')
theorem Kn.nil (h:Hp):Kn h h []:=⟨Hp.le_refl _,fun e h=>(by simp at h),fun e h=>(by simp at h),List.nodup_nil⟩
theorem Kn.of {g h:Hp} (l:g.le h):Kn g h []:=⟨l,fun e h=>(by simp at h),fun e h=>(by simp at h),List.nodup_nil⟩
section
variable {g h h':Hp} {L L':List (Nat×Blk)}
theorem Kn.at (K:Kn g h L) {b:Nat} {x:Blk} (e:(b,x)∈L):h b=some x:=K.mem _ e
theorem Kn.mono (K:Kn g h L) (l:h.le h'):Kn g h' L:=⟨Hp.le_trans K.le l,fun e he=>l _ _ (K.mem e he),K.new,K.nd⟩
theorem Kn.cons (K:Kn g h L) {b:Nat} {x:Blk} (hb:h b=none) (l:h.le h') (f:h' b=some x):Kn g h' ((b,x)::L):=by
 refine⟨Hp.le_trans K.le l,fun e he=>?_,fun e he=>?_,?_⟩
 ·rcases List.mem_cons.1 he with rfl|he
  ·exact f
  ·exact l _ _ (K.mem e he)
 ·rcases List.mem_cons.1 he with rfl|he
  ·exact aF K.le hb
  ·exact K.new e he
 ·rw [List.map_cons,List.nodup_cons]
  refine⟨fun hm=>?_,K.nd⟩
  obtain⟨e,he,heb⟩:=List.mem_map.1 hm
  have:=K.mem e he
  rw [show e.1=b from heb,hb]at this;cases this
theorem Kn.al (K:Kn g h L) {cs:Nat->List Value} {n:Nat->Nat} {P:Nat->Hp->Prop} (k: ∀b h',Kn g h' ((b, .inl ⟨cs b,n b,false⟩)::L)->h.le h'->h b=none->P b h'):
  ∀b,h b=none->cA (h.row b (cs b) (n b)) fun h'=>P b h':=
 fun b hb=>k b _ (K.cons hb (fg _ _ hb) (bM _ _ _ _)) (fg _ _ hb) hb
theorem Upd.mem {b:Nat} {x y:Blk} (u:Upd L b x y L'):(b,x)∈L:=by
 induction u with
 |head=>exact .head _
 |tail _ ih=>exact .tail _ ih
theorem Upd.keys {b:Nat} {x y:Blk} (u:Upd L b x y L'):L'.map Prod.fst=L.map Prod.fst:=by
 induction u with
 |head=>rfl
 |tail _ ih=>rw [List.map_cons,List.map_cons,ih]
theorem Upd.out {b:Nat} {x y:Blk} (u:Upd L b x y L') (nd:(L.map Prod.fst).Nodup): ∀e∈L',e=(b,y)\/(e∈L/\e.1≠b):=by
 induction u with
 |head=>
  intro e he
  rcases List.mem_cons.1 he with rfl|he
  ·exact .inl rfl
  ·rw [List.map_cons,List.nodup_cons]at nd
   exact .inr ⟨.tail _ he,fun eb=>nd.1 (List.mem_map.2 ⟨e,he,eb⟩)⟩
 |tail u ih=>
  rename_i L L' b x y e0
  rw [List.map_cons,List.nodup_cons]at nd
  intro e he
  rcases List.mem_cons.1 he with rfl|he
  ·exact .inr ⟨.head _,fun eb=>nd.1 (List.mem_map.2 ⟨_,u.mem,eb.symm⟩)⟩
  ·rcases ih nd.2 e he with h|⟨h1,h2⟩
   ·exact .inl h
   ·exact .inr ⟨.tail _ h1,h2⟩
theorem Kn.set (K:Kn g h L) {b z z':Nat} {cs cs':List Value} {ro:Bool} (u:Upd L b (.inl ⟨cs,z,ro⟩) (.inl ⟨cs',z',false⟩) L'):Kn g (h.row b cs' z') L':=by
 have hb:=K.new _ u.mem
 refine⟨et _ _ hb K.le,fun e he=>?_,fun e he=>?_,by rw [u.keys];exact K.nd⟩
 ·rcases u.out K.nd e he with rfl|⟨h1,h2⟩
  ·exact bM _ _ _ _
  ·rw [bX _ _ h2];exact K.mem e h1
 ·rcases u.out K.nd e he with rfl|⟨h1,h2⟩
  ·exact hb
  ·exact K.new e h1
theorem Kn.wr (K:Kn g h L) {b z o m:Nat} {cs vs:List Value} {P:Hp->Prop} (u:Upd L b (.inl ⟨cs,z,false⟩) (.inl ⟨cz cs o vs,z,false⟩) L') (hl:m<=cs.length)
  (k: ∀h',Kn g h' L'->(∀c,c≠b->h' c=h c)->P h'):
  ∃(cs':List Value) (z':Nat),h b=some (.inl ⟨cs',z',false⟩)/\m<=List.length cs'/\cA (h.row b (cz cs' o vs) z') fun h'=>P h':=
 ⟨cs,z,K.at u.mem,hl,k _ (K.set u) fun c hc=>bX _ _ hc⟩
theorem Kn.base (K:Kn g h L):Kn (h.wo (L.map Prod.fst)) h L:=⟨wG _ _,K.mem,fun e he=>fj (List.mem_map.2 ⟨e,he,rfl⟩),K.nd⟩
theorem Kn.leBase (K:Kn g h L):g.le (h.wo (L.map Prod.fst)):=sU K.le fun b hb=>by
 obtain⟨e,he,rfl⟩:=List.mem_map.1 hb
 exact K.new e he
theorem Kn.has (K:Kn g h L): ∀b∈L.map Prod.fst,h b≠none:=fun b hb=>by
 obtain⟨e,he,rfl⟩:=List.mem_map.1 hb
 rw [K.mem e he];simp
theorem Kn.eq {g':Hp} (K':Kn g' h' L') (K:Kn g h L) {b:Nat} {x:Blk} {P:Prop} (e':(b,x)∈L') (e:(b,x)∈L) (k:P):h' b=h b/\P:=⟨by rw [K'.at e',K.at e],k⟩
theorem Kn.eqg (K':Kn g h' L') (K:Kn g h L) {b:Nat} {P:Prop} (e:g b≠none) (k:P):h' b=h b/\P:=by
 refine⟨?_,k⟩
 cases hb:g b with
 |none=>exact absurd hb e
 |some x=>rw [K'.le _ _ hb,K.le _ _ hb]
theorem Kn.sub (K:Kn g h L) (m: ∀e∈L',e∈L) (nd:(L'.map Prod.fst).Nodup):Kn g h L':=⟨K.le,fun e he=>K.mem e (m e he),fun e he=>K.new e (m e he),nd⟩
end
theorem dF {b o:Nat} {P:Nat->Nat->Prop} (k:P b o): ∃b' o':Nat,some (Addr.mk b o none)=some (Addr.mk b' o' none)/\P b' o':=⟨b,o,rfl,k⟩
theorem Kn.rd {α:Type} {f:α->Value} {g h:Hp} {L:List (Nat×Blk)} (K:Kn g h L) {b z o:Nat} {cs:List Value} {ro:Bool} {x:α} {P:α->Prop} (e:(b, .inl ⟨cs,z,ro⟩)∈L) (c:cs[o]?=some (f x)) (k:P x): ∃y:α,Hp.cell h b o=some (f y)/\P y:=⟨x,by rw [aq (K.at e)];exact c,k⟩
theorem Kn.rg {α:Type} {f:α->Value} {g h:Hp} {L:List (Nat×Blk)} (K:Kn g h L) {b z o:Nat} {cs:List Value} {ro:Bool} {x:α} {P:α->Prop} (e:g b=some (.inl ⟨cs,z,ro⟩)) (c:cs[o]?=some (f x)) (k:P x): ∃y:α,Hp.cell h b o=some (f y)/\P y:=⟨x,by rw [aq (K.le _ _ e)];exact c,k⟩
theorem kr_ {P Q:Prop} (k:Q) (h:Q->P:=by(first
 |((with_reducible apply Kn.rd);(assumption);((focus ((repeat first|exact .head _|apply List.Mem.tail);done)));(exact rfl))
 |((with_reducible apply Kn.rg);(assumption);(assumption);(exact rfl))
 |with_reducible exact And.intro (Eq.refl _)
 |with_reducible exact And.intro True.intro
 |with_reducible exact dF
 |((with_reducible apply Kn.eq);(assumption);(assumption);((focus ((repeat first|exact .head _|apply List.Mem.tail);done)));((focus ((repeat first|exact .head _|apply List.Mem.tail);done))))
 |((with_reducible apply Kn.eqg);(assumption);(assumption);(assumption))
 |fail)):P:=h k
theorem kw_ {P Q:Prop} (k:Q) (h:Q->P:=by((with_reducible apply Kn.wr);(assumption);(((focus ((repeat first|exact .head|apply Upd.tail);done))));(exact of_decide_eq_true rfl))):P:=h k
theorem PF (l:List NodeP) (c:Nat->Bool) (p:Nat): ∀ps,fY l c (ps++ [p])=fY l c ps+2^cC l ps*(if c p then 2^nbA l p-1 else 0):=by
 intro ps
 induction ps with
 |nil=>simp [fY,cC]
 |cons q ps ih=>
  simp only [List.cons_append,fY]
  rw [ih,pU,Nat.pow_add,Nat.mul_add,Nat.mul_assoc,Nat.add_assoc]
theorem Ih {l:List NodeP} {ps:List Nat} {c:Nat->Bool} {i p:Nat} (h:ps[i]?=some p):fY l c (ps.take (i+1))=fY l c (ps.take i)+2^cC l (ps.take i)*(if c p then 2^nbA l p-1 else 0):=by
 have hlt:=get_lt h
 rw [List.getElem?_eq_getElem hlt]at h
 rw [List.take_succ_eq_append_getElem hlt,PF,Option.some.inj h]
theorem Pm {binds:List BindP} {j:Nat} {b:BindP} (hb:binds[j]?=some b) (p:Nat):(cf (binds.take (j+1)) p).isSome=((cf (binds.take j) p).isSome||decide (b.state=(p:Int))):=by
 have hlt:=get_lt hb
 have hg:binds[j]=b:=by rw [List.getElem?_eq_getElem hlt]at hb;exact Option.some.inj hb
 unfold cf
 rw [List.take_succ_eq_append_getElem hlt,List.find?_append,hg]
 cases hf:(binds.take j).find? (fun b=>decide (b.state=(p:Int)))with
 |some x=>simp
 |none=>
  by_cases e:b.state=(p:Int)<;>simp [e]
theorem Yp {l:List NodeP} {p:Nat}:dR (aA l p)=nbA l p:=by unfold dR nbA cj aK;rw [Nat.mul_comm]
theorem Vi {l:List NodeP} {ps:List Nat} {i p:Nat} (h:ps[i]?=some p):cC l (ps.take i)+nbA l p<=cC l ps:=by
 have:=nF (l:=l) h
 have:=FH l ps (i+1)
 unfold nbA;omega
theorem aaf {l:List NodeP} {p:Nat} (hok:cv l=true) (hp:p<l.length):dR ⟨(aA l p).idx,(cj l p:Nat)⟩=nbA l p:=by
 have:=cd.1 (qT hok hp)
 have hw:((cj l p:Nat):Int)=(aA l p).wid:=by unfold cj;omega
 rw [hw];exact Yp
theorem xj {h:Hp} {M:MSl} {m:ah} {s:Sl} {binds:List BindP} {R:Value->Hp->Prop} (hs:aO h M m) (hm:bW m) (g:dj m) (hb:rq h s binds) (hbl:binds.length<=1048576)
  (k:R (I (Qx m binds)) h):gT #[aQ M,s.v] h R:=by
 refine ACalls.drop (wt ?_)
 refine uf_ ?_
 have hn8:=g.n8
 have hsw:=fq g
 have hbn:=hb.len
 have hp36:(stP m).length<=m.nodes.length:=fy m.nodes 36
 have hnl:=g.nl
 refine aj fun b8 h1 hb8 l1 f8=>?_
 repeat' (refine az ?_)
 refine eo (hs.mono l1) hm fun pt h2 l2 hp=>⟨pt,rfl,?_⟩
 have hpn:pt.n=(stP m).length:=by have:=hp.len;rw [aY]at this;exact this
 have l02:=Hp.le_trans l1 l2
 replace f8:=l2 _ _ f8
 refine av (stP m).length (fun i vs h'=>vs= [s.v, .pointer (some ⟨b8,0,none⟩),I (fY m.nodes (fun p=>(cf binds p).isSome) ((stP m).take i):Nat),I (cC m.nodes ((stP m).take i):Nat),pt.v,I pt.n,I i]/\h2.le h') ⟨by simp [fY,cC],Hp.le_refl _⟩ ?_
 rintro i _ h3 next hi ⟨rfl,l3⟩ hnx
 refine⟨s,_,_,_,_,pt,_,_,rfl,?_⟩
 have l03:=Hp.le_trans l02 l3
 have f83:=l3 _ _ f8
 by_cases hlt:i<(stP m).length
 rotate_left
 ·have hie:i=(stP m).length:=by omega
  subst hie
  refine aE (by simp;omega) ⟨_,l03,?_⟩
  rw [List.take_of_length_le (Nat.le_refl _)];exact k
 refine aM (by simp;omega) ?_
 obtain⟨p,hpi⟩: ∃p,(stP m)[i]?=some p:=⟨_,List.getElem?_eq_getElem hlt⟩
 have hpm:=cO g 36 p (List.mem_of_getElem? hpi)
 obtain⟨b,o,ha,hc⟩:=(hp.mono l3).get (gZ hpi)
 refine⟨b,o,ha,by omega,by omega,_,hc,?_⟩
 (refine az ?_)
 obtain⟨bn,on,han,hpn',c6,c7,w1,w16⟩:=(hs.mono l03).nodes.sortc2 hpm g.ok
 refine⟨bn,on,han,by omega,hpn',_,c6,_,c7,?_⟩
 refine sW ⟨_,rfl,?_⟩
 rw [aaf g.ok hpm]
 have hnb:=Vi (l:=m.nodes) hpi
 have hlo:=yr m.nodes (fun p=>(cf binds p).isSome) ((stP m).take i)
 have hpp:=Bu (n:=cC m.nodes ((stP m).take i)) (by omega)
 have hpb:=Bu (n:=nbA m.nodes p) (by omega)
 have hpb1:=bK (nbA m.nodes p)
 have hmul:(2^nbA m.nodes p-1)*2^cC m.nodes ((stP m).take i)<1048576:=by
  have h1:(2^nbA m.nodes p-1)*2^cC m.nodes ((stP m).take i)<=2^nbA m.nodes p*2^cC m.nodes ((stP m).take i):=Nat.mul_le_mul_right _ (Nat.sub_le _ _)
  rw [<-Nat.pow_add]at h1
  have h2:=Nat.pow_le_pow_right (n:=2) (by omega) (show nbA m.nodes p+cC m.nodes ((stP m).take i)<=8 by omega)
  have h3:(2:Nat)^8=256:=rfl
  omega
 have hlo2:fY m.nodes (fun p=>(cf binds p).isSome) ((stP m).take i)<1048576:=by
  have h2:=Nat.pow_le_pow_right (n:=2) (by omega) (show cC m.nodes ((stP m).take i)<=8 by omega)
  have h3:(2:Nat)^8=256:=rfl
  omega
 have hstep:=Ih (l:=m.nodes) (c:=fun p=>(cf binds p).isSome) hpi
 generalize hmi:fY m.nodes (fun p=>(cf binds p).isSome) ((stP m).take i)=mi at*
 generalize hat:cC m.nodes ((stP m).take i)=at_ at*
 refine av binds.length (fun j vs h'=>vs= [s.v, .pointer (some ⟨b8,0,none⟩),I (mi+(if(cf (binds.take j) p).isSome then(2^nbA m.nodes p-1)*2^at_ else 0):Nat),I at_,I p,I (nbA m.nodes p),pt.v,I pt.n,I i,s.v,I s.n,I j]/\h2.le h') ⟨by simp [cf],l3⟩ ?_
 clear hc ha c6 c7 han hpn' f83 l03 l3 h3
 rintro j _ h3 next2 hj ⟨rfl,l3⟩ hnx2
 have l03:=Hp.le_trans l02 l3
 refine⟨s,_,_,_,_,_,_,pt,_,_,s,_,_,rfl,?_⟩
 by_cases hlj:j<binds.length
 rotate_left
 ·have hje:j=binds.length:=by omega
  subst hje
  refine aE (by simp;omega) ?_
  rw [List.take_length,aC (by omega),bU (n:=(at_:Int)+(nbA m.nodes p:Nat)) (by omega) (by omega)]
  refine hnx hlt _ _ ⟨?_,l3⟩
  rw [hstep,nF hpi,hat,Nat.mul_comm (2^at_)]
  have:at_+cj m.nodes p*aK m.nodes p=at_+nbA m.nodes p:=rfl
  rw [this]
  have e2:(if(cf binds p).isSome=true then 2^nbA m.nodes p-1 else 0)*2^at_=if(cf binds p).isSome=true then(2^nbA m.nodes p-1)*2^at_ else 0:=by split<;>simp
  rw [e2];rfl
 refine aM (by simp;omega) ?_
 obtain⟨bd,hbd⟩: ∃bd,binds[j]?=some bd:=⟨_,List.getElem?_eq_getElem hlj⟩
 obtain⟨bx,ox,hax,cx1,cx2⟩:=(hb.mono l03).at hbd
 have hmore:=Pm hbd p
 refine ap (fun J=> ∀h',h2.le h'->J ((mi+(if(cf (binds.take (j+1)) p).isSome then(2^nbA m.nodes p-1)*2^at_ else 0):Nat):Int) h') ?_ (fun J hJ=>?_)
 ·intro h' l'
  rw [aC (by omega)]
  exact hnx2 hlj _ _ ⟨rfl,l'⟩
 refine⟨bx,ox,hax,by omega,by omega,_,cx1,_,cx2,?_⟩
 refine aj fun b74 h4 hb74 l4 f74=>?_
 (with_reducible apply bZ);(exact f74);(exact Hp.le_trans l3 l4);(exact aF l3 hb74);(exact Nat.le_refl 2)
 intro h5 f74' kp l5
 refine⟨_,by rw [aq f74'];rfl,?_⟩
 refine ac (fun e=>?_) (fun e=>?_)
 ·rw [decide_eq_true (bV e),Bool.or_true]at hmore
  refine dJ (by omega) ⟨_,rfl,?_⟩
  rw [if_neg (by omega)]
  have hm1:(((2^nbA m.nodes p:Nat):Int)-1)=((2^nbA m.nodes p-1:Nat):Int):=by omega
  have:=hJ h5 l5
  rw [hmore,if_pos rfl]at this
  rw [hm1,ik (by omega) (by omega),Cz (by split<;>omega) (by omega)]
  have e3:(mi+(if(cf (binds.take j) p).isSome=true then(2^nbA m.nodes p-1)*2^at_ else 0))|||(2^nbA m.nodes p-1)*2^at_=mi+(2^nbA m.nodes p-1)*2^at_:=by
   split
   ·rw [<-PH hlo,Nat.or_assoc,Nat.or_self]
   ·rw [Nat.add_zero,PH hlo]
  rw [e3];exact this
 ·rw [decide_eq_false (bk e),Bool.or_false]at hmore
  have:=hJ h5 l5
  rw [hmore]at this
  exact this
def eO (k:Nat):List Nat:=(List.range (k+1)).filter fun c=>decide (c&&&k=c)
theorem Buf.wo {h h':Hp} {t:Sl} {sz:Nat} {cs:List Value} {B:List Nat} (e:Buf h' t sz cs) (l:h.le (h'.offS t)) (hB: ∀b∈B,h b≠none):Buf (h'.wo B) t sz cs:=by
 refine⟨e.1,e.2.1,e.2.2.imp id ?_⟩
 rintro ⟨b,ha,hb⟩
 refine⟨b,ha,?_⟩
 rw [se]
 ·exact hb
 ·intro hm
  have:=hB b hm
  cases hx:h b with
  |none=>exact this hx
  |some x=>
   have:=l _ _ hx
   simp [Hp.offS,ha,Hp.off,Hp.set]at this
theorem NN {m:ah} (g:dj m):2^(ak m.nodes 36+ak m.nodes 35)<=8192:=by
 have h1:=g.n8
 have h2:=g.k5
 have:=Nat.pow_le_pow_right (n:=2) (by omega) (show ak m.nodes 36+ak m.nodes 35<=13 by omega)
 simpa using this
theorem ac1 {m:ah} (g:dj m):2^ak m.nodes 36<=256:=by
 have h1:=g.n8
 have:=Nat.pow_le_pow_right (n:=2) (by omega) h1
 simpa using this
theorem S4 {h:Hp} {M:MSl} {m:ah} {fid:FuncId} {u w:Array Value} {B:List Nat} {st:Nat->Hp->Prop} {R:Value->Hp->Prop} (hs:aO (h.wo B) M m) (hm:bW m) (g:dj m)
  (hB: ∀b∈B,h b≠none) (mono: ∀c h1 h2,st c h1->h1.le h2->st c h2) (h0:st 0 h)
  (step: ∀c,c<2^(ak m.nodes 36+ak m.nodes 35)-> ∀h1 t,(h.wo B).le h1->st c h1->gE h1 t (ck m (c%2^ak m.nodes 36) (c/2^ak m.nodes 36))-> ∀R':Value->Hp->Prop,
   (∀h2,st (c+1) h2->(h1.wo B).le h2->R' (.tuple #[]) h2)->ACalls PR fid ((u++ #[I c,Sl.v t])++w) h1 R')
  (k: ∀h',(h.wo B).le h'->st (2^(ak m.nodes 36+ak m.nodes 35)) h'->R (.tuple #[]) h'):nL #[aQ M, .func (.func fid) u w] h R:=by
 apply B8
 refine uf_ ?_
 have hn8:=g.n8
 have hk5:=g.k5
 have hp13:=NN g
 have hs0:aO h M m:=hs.mono (wG _ _)
 refine aj fun b10 h1 hb10 l1 f10=>?_
 have x10:=fe f10
 repeat' (refine az ?_)
 refine fk (hs0.mono l1) hm ⟨_,rfl,rfl,fk (hs0.mono l1) hm ⟨_,rfl,?_⟩⟩
 repeat' (refine az ?_)
 refine mP (hs0.mono l1) hm fun p1 h2 l2 n1 b1=>⟨p1,rfl,?_⟩
 have l2':=Hp.le_trans l2 (bz _ _)
 (((with_reducible apply kW);(assumption);(assumption)))
 refine mP ((hs0.mono l1).mono l2') hm fun p2 h3 l3 n2 b2=>⟨p2,rfl,?_⟩
 have l3':=Hp.le_trans l3 (bz _ _)
 have l13:=Hp.le_trans l2' l3'
 have l03:=Hp.le_trans l1 l13
 rw [bU (n:=((ak m.nodes 36:Nat):Int)+((ak m.nodes 35:Nat):Int)) (by omega) (by omega),if_neg (by omega),<-Int.natCast_add,bG (by omega)]
 have hB1: ∀b∈B,h1 b≠none:=fun b hb=>by
  cases hx:h b with
  |none=>exact absurd hx (hB b hb)
  |some x=>rw [l1 _ _ hx];simp
 have hB2: ∀b∈B,h2 b≠none:=fun b hb=>by
  cases hx:h1 b with
  |none=>exact absurd hx (hB1 b hb)
  |some x=>rw [l2' _ _ hx];simp
 have b1w:Buf (h3.wo B) p1 1 ((VL (aH m.nodes 36)).map I):=(b1.wo l2 hB1).mono (sU (Hp.le_trans (wG _ _) l3') fun b hb=>fj hb)
 have b2w:Buf (h3.wo B) p2 1 ((VL (aH m.nodes 35)).map I):=b2.wo l3 hB2
 have hnl:=g.nl
 have i1:IntS (h3.wo B) p1 (VL (aH m.nodes 36)):=b1w.slc_of (by omega)
 have i2:IntS (h3.wo B) p2 (VL (aH m.nodes 35)):=b2w.slc_of (by omega)
 have hs3:aO (h3.wo B) M m:=hs.mono (sU (Hp.le_trans (wG _ _) l03) fun b hb=>fj hb)
 have f10w:(h3.wo B) b10=some (.inl ⟨aw M,5,false⟩):=by
  rw [se (fun hb=>hB _ hb hb10)];exact l13 _ _ f10
 have hw:(h.wo B).le (h3.wo B):=sU (Hp.le_trans (wG _ _) l03) fun b hb=>fj hb
 refine av (2^(ak m.nodes 36+ak m.nodes 35)) (fun c vs h'=>vs= [.func (.func fid) u w, .pointer (some ⟨b10,0,none⟩),I (ak m.nodes 36),p1.v,p2.v,I (2^(ak m.nodes 36+ak m.nodes 35):Nat),I c]/\(h3.wo B).le h'/\st c h')
  ⟨rfl,wG _ _,mono _ _ _ h0 l03⟩ ?_
 clear f10 x10 b1 b2 l1 l2 l2' l3 l13 l3' hs hs0 h0
 rintro c _ h4 next hc ⟨rfl,l4,hst⟩ hnx
 refine⟨_,_,_,_,_,_,p1,p2,_,_,rfl,?_⟩
 by_cases hlt:c<2^(ak m.nodes 36+ak m.nodes 35)
 rotate_left
 ·have hce:c=2^(ak m.nodes 36+ak m.nodes 35):=by omega
  subst hce
  exact aE (by simp) (k h4 (Hp.le_trans hw l4) hst)
 refine aM (by rw [decide_eq_true_eq];exact_mod_cast hlt) ?_
 rw [if_neg (by omega)]
 have f104:=l4 _ _ f10w
 have x104:=fe f104
 repeat' (refine az ?_)
 refine dJ (by omega) ⟨_,rfl,?_⟩
 repeat' (refine az ?_)
 rw [ib (by omega),px,jx (by omega)]
 have h1':c%2^ak m.nodes 36<=c:=Nat.mod_le _ _
 have h2':c/2^ak m.nodes 36<=c:=Nat.div_le_self _ _
 refine tQ (hs3.mono l4) hm g.ok (i1.mono l4) (cO g 36) (iZ g 36) (by omega) fun o1 h5 l5 v1 c1=>⟨o1,rfl,?_⟩
 repeat' (((with_reducible apply kW);(assumption);(assumption)))
 have l45:=Hp.le_trans l4 l5
 refine tQ (hs3.mono l45) hm g.ok (i2.mono l45) (cO g 35) (iZ g 35) (by omega) fun o2 h6 l6 v2 c2=>⟨o2,rfl,?_⟩
 have l56:=Hp.le_trans l5 l6
 (((with_reducible apply kW);(assumption);(assumption)))
 have l46:=Hp.le_trans l4 l56
 refine yO (hs3.mono l46) hm g.ok g.nl (v1.mono l6) c1 (mb 36 _ g) v2 c2 (mb 35 _ g) fun t h7 l7 hn hpv=>⟨t,rfl,?_⟩
 have l47:=Hp.le_trans l56 l7
 refine step c hlt h7 t (Hp.le_trans hw (Hp.le_trans l4 l47)) (mono _ _ _ hst l47) hpv _ fun h8 hst8 l8=>⟨rfl,?_⟩
 rw [aC (by omega)]
 exact hnx hlt _ _ ⟨rfl,Hp.le_trans (sU (Hp.le_trans l4 l47) fun b hb=>fj hb) l8,hst8⟩
def dS (f:Nat->Bool) (c n:Nat):List Value:=(List.range n).map fun i=> .bool (decide (i<c)&&f i)
def k9 (f:Nat->Nat) (c n:Nat):List Value:=(List.range n).map fun i=>I ((if i<c then f i else 0:Nat):Int)
theorem yp (f:Nat->Bool) (c n:Nat):(dS f c n).length=n:=by simp [dS]
theorem O1 (f:Nat->Nat) (c n:Nat):(k9 f c n).length=n:=by simp [k9]
theorem lF (f:Nat->Bool) (n:Nat):List.replicate n (.bool false)=dS f 0 n:=by
 apply List.ext_getElem
 ·simp [dS]
 ·intro i h1 h2;simp [dS]
theorem Eg (f:Nat->Nat) (n:Nat):List.replicate n (I 0)=k9 f 0 n:=by
 apply List.ext_getElem
 ·simp [k9]
 ·intro i h1 h2;simp [k9]
theorem yi {f:Nat->Bool} {c n:Nat} (h:c<n):(dS f c n).set c (.bool (f c))=dS f (c+1) n:=by
 apply List.ext_getElem
 ·simp [dS]
 ·intro i h1 h2
  simp only [dS,List.getElem_set,List.getElem_map,List.getElem_range]
  by_cases e:c=i
  ·subst e;simp
  ·rw [if_neg e]
   have:decide (i<c)=decide (i<c+1):=by rw [Bool.eq_iff_iff,decide_eq_true_eq,decide_eq_true_eq];omega
   rw [this]
theorem P2 {f:Nat->Nat} {c n:Nat} (h:c<n):(k9 f c n).set c (I (f c:Nat))=k9 f (c+1) n:=by
 apply List.ext_getElem
 ·simp [k9]
 ·intro i h1 h2
  simp only [k9,List.getElem_set,List.getElem_map,List.getElem_range]
  by_cases e:c=i
  ·subst e;simp
  ·rw [if_neg e]
   by_cases h:i<c
   ·rw [if_pos h,if_pos (by omega)]
   ·rw [if_neg h,if_neg (by omega)]
theorem yh (f:Nat->Bool) (n:Nat):dS f n n=((List.range n).map f).map Value.bool:=by
 apply List.ext_getElem
 ·simp [dS]
 ·intro i h1 h2
  have hi:i<n:=by simpa [dS] using h1
  simp [dS,hi]
theorem Py (f:Nat->Nat) (n:Nat):k9 f n n=(VL ((List.range n).map f)).map I:=by
 apply List.ext_getElem
 ·simp [k9,VL]
 ·intro i h1 h2
  have hi:i<n:=by simpa [k9] using h1
  simp [k9,VL,hi]
theorem gE.keep {h h':Hp} {s:Sl} {vs:List (List Nat)} {b z:Nat} {cs:List Value} {ro:Bool} (e:gE h s vs) (f:h b=some (.inl ⟨cs,z,ro⟩)) (hn:wA cs) (hsl: ∀(j:Nat) (t:Sl),cs[j]?≠some t.v) (kp: ∀c,c≠b->h' c=h c):gE h' s vs:=by
 refine⟨e.1,e.2.1,fun p hp=>?_⟩
 obtain⟨b',o,t,h1,h2,h3⟩:=e.2.2 p hp
 refine⟨b',o,t,h1,?_,h3.keepN f hn kp⟩
 have hne:b'≠b:=by
  rintro rfl
  rw [aq f]at h2
  exact hsl _ _ h2
 unfold Hp.cell at h2⊢
 rw [kp b' hne];exact h2
theorem Eb (f:Nat->Bool) (c n:Nat):wA (dS f c n):=by
 intro j i h
 simp only [dS,List.getElem?_map,Option.map_eq_some_iff]at h
 obtain⟨a,_,h⟩:=h
 cases h
theorem Ga (f:Nat->Bool) (c n:Nat): ∀(j:Nat) (t:Sl),(dS f c n)[j]?≠some t.v:=by
 intro j t h
 simp only [dS,List.getElem?_map,Option.map_eq_some_iff]at h
 obtain⟨a,_,h⟩:=h
 cases h
abbrev Ox (M:MSl) (n k:Int) (st hold bad:Sl) (fixed:Int) (next:Sl) (bf ba:Int):List Value:= [M.no.v,M.ini.v,M.nex.v,M.bad.v,M.hol.v,I n,I k,st.v,hold.v,bad.v,I fixed,next.v,I bf,I ba]
abbrev arr (b n:Nat):Sl:=⟨some ⟨b,0,none⟩,n,n⟩
def tt (m:ah) (bH bB bN c:Nat):List (Nat×Blk):=
 [(bH, .inl ⟨dS (aG m).hold c (2^(ak m.nodes 36+ak m.nodes 35)),2^(ak m.nodes 36+ak m.nodes 35),false⟩),
  (bB, .inl ⟨dS (aG m).bad c (2^(ak m.nodes 36+ak m.nodes 35)),2^(ak m.nodes 36+ak m.nodes 35),false⟩),
  (bN, .inl ⟨k9 (aG m).next c (2^(ak m.nodes 36+ak m.nodes 35)),2^(ak m.nodes 36+ak m.nodes 35),false⟩)]
theorem Ar (m:ah) (v:List (List Nat)):decide (yn m v>=0)=(qH m v).isSome:=by
 unfold yn
 cases qH m v with
 |none=>rfl
 |some d=>simp
theorem Cp {g h:Hp} {M:MSl} {m:ah} {st t:Sl} {b7 b103 bx bH bB bN c:Nat} {n k f0 f1 f2:Int} {z1 z2 z3:Nat} {R:Value->Hp->Prop} (hs:aO g M m) (hm:bW m) (gd:dj m)
  (f7:g b7=some (.inl ⟨aw M,z1,false⟩)) (f103:g b103=some (.inl ⟨[.pointer (some ⟨bx,0,none⟩)],z2,false⟩))
  (fx:g bx=some (.inl ⟨Ox M n k st (arr bH (2^(ak m.nodes 36+ak m.nodes 35))) (arr bB (2^(ak m.nodes 36+ak m.nodes 35))) f0 (arr bN (2^(ak m.nodes 36+ak m.nodes 35))) f1 f2,z3,false⟩))
  (hst:IntS g st (VL (stP m))) (hc:c<2^(ak m.nodes 36+ak m.nodes 35)) (K:Kn g h (tt m bH bB bN c))
  (hpv:gE h t (ck m (c%2^ak m.nodes 36) (c/2^ak m.nodes 36)))
  (kk: ∀h',Kn (h.wo [bH,bB,bN]) h' (tt m bH bB bN (c+1))->R (.tuple #[]) h'):
  rl #[I c,t.v, .pointer (some ⟨b7,0,none⟩), .pointer (some ⟨b103,0,none⟩)] h R:=by
 apply zE
 refine uf_ ?_
 have a:BX m (ck m (c%2^ak m.nodes 36) (c/2^ak m.nodes 36)):=eD gd _ _
 have hp13:=NN gd
 have hv1:(aG m).hold c=gY m (ck m (c%2^ak m.nodes 36) (c/2^ak m.nodes 36)):=rfl
 have hv2:(aG m).bad c=(qH m (ck m (c%2^ak m.nodes 36) (c/2^ak m.nodes 36))).isSome:=rfl
 have hv3:(aG m).next c=dZ m.nodes (stP m) (eK m (ck m (c%2^ak m.nodes 36) (c/2^ak m.nodes 36))):=rfl
 generalize hv:ck m (c%2^ak m.nodes 36) (c/2^ak m.nodes 36)=v at*
 generalize hN:2^(ak m.nodes 36+ak m.nodes 35)=N at*
 have lg:g.le (h.wo [bH,bB,bN]):=K.leBase
 have K0:Kn (h.wo [bH,bB,bN]) h (tt m bH bB bN c):=K.base
 unfold tt at K0 kk
 rw [hN]at K0 kk
 clear K
 have hs':=hs.mono lg
 have f7':=lg _ _ f7
 have f103':=lg _ _ f103
 have fx':=lg _ _ fx
 have hst':=hst.mono lg
 have x7:=fe f7'
 have x103:=fe f103'
 have xx:=fe fx'
 generalize h.wo [bH,bB,bN]=g1 at*
 clear lg fx f103 f7 hst hs
 repeat' (refine kr_ ?_)
 refine Gk (hs'.mono K0.le) gd hpv a ⟨_,rfl,?_⟩
 repeat' (refine kr_ ?_)
 refine⟨by omega,by dsimp only;omega,?_⟩
 (((with_reducible apply Kn.wr);(assumption);((focus ((repeat first|exact .head|apply Upd.tail);done)))))
 ·rw [yp];omega
 intro h24 K1 kp1
 have hpv1:=hpv.keep (K0.at (.head _)) (Eb _ _ _) (Ga _ _ _) kp1
 rw [<-hv1,bJ,Nat.zero_add,Int.toNat_natCast,Nat.mul_one,yi hc]at K1
 repeat' (refine kr_ ?_)
 refine Ny (hs'.mono K1.le) gd hpv1 a ⟨_,rfl,?_⟩
 repeat' (refine kr_ ?_)
 refine⟨by omega,by dsimp only;omega,?_⟩
 (((with_reducible apply Kn.wr);(assumption);((focus ((repeat first|exact .head|apply Upd.tail);done)))))
 ·rw [yp];omega
 intro h42 K2 kp2
 have hpv2:=hpv1.keep (K1.at (.tail _ (.head _))) (Eb _ _ _) (Ga _ _ _) kp2
 rw [Ar,<-hv2,bJ,Nat.zero_add,Int.toNat_natCast,Nat.mul_one,yi hc]at K2
 repeat' (refine kr_ ?_)
 refine EE (hs'.mono K2.le) hm gd hpv2 a fun out h63 l63 hout=>⟨out,rfl,?_⟩
 have K3:=K2.mono l63
 repeat' (refine kr_ ?_)
 refine CU (hs'.mono K3.le) hm gd.ok (hst'.mono K3.le) (cO gd 36) (iZ gd 36) hout (nh gd a.fit) (by rw [fq gd];have:=gd.n8;omega) ⟨_,rfl,?_⟩
 repeat' (refine kr_ ?_)
 refine⟨by omega,by dsimp only;omega,?_⟩
 (((with_reducible apply Kn.wr);(assumption);((focus ((repeat first|exact .head|apply Upd.tail);done)))))
 ·rw [O1];omega
 intro h72 K4 kp4
 rw [<-hv3,bJ,Nat.zero_add,Int.toNat_natCast,Nat.mul_one,P2 hc]at K4
 exact kk h72 K4
def BO (h:Hp) (t:Sl) (n:Nat) (f:Nat->Nat):Prop:=IntS h t (VL ((List.range n).map f))
theorem BO.mono {h h':Hp} {t:Sl} {n:Nat} {f:Nat->Nat} (l:h.le h') (e:BO h t n f):BO h' t n f:=SlC.mono l e
def om (h:Hp) (b:Nat) (σ:aD):Prop:= ∃(M:MSl) (st hold bad next:Sl),h b=some (.inl ⟨Ox M σ.n σ.k st hold bad σ.fixed next σ.bfix σ.bas,14,false⟩)/\
 de h hold (2^(σ.n+σ.k)) σ.hold/\de h bad (2^(σ.n+σ.k)) σ.bad/\BO h next (2^(σ.n+σ.k)) σ.next
theorem om.mono {h h':Hp} {b:Nat} {σ:aD} (l:h.le h') (e:om h b σ):om h' b σ:=by
 obtain⟨M,st,hold,bad,next,h1,h2,h3,h4⟩:=e
 exact⟨M,st,hold,bad,next,l _ _ h1,h2.mono l,h3.mono l,h4.mono l⟩
theorem Sa {g h:Hp} {L:List (Nat×Blk)} {M:MSl} {m:ah} {kind:Int} {R:Value->Hp->Prop} (K:Kn g h L) (hs:aO g M m) (hm:bW m) (gd:dj m)
  (k: ∀t h' g',Kn g' h' L->IntS g' t (VL (aH m.nodes kind))->g.le g'->h.le h'->R (Sl.v t) h'):bO #[aQ M,I kind] h R:=
 mP (hs.mono K.le) hm fun t h' l hn hb=>by
  have l':=Hp.le_trans l (bz _ _)
  have K':=K.mono l'
  refine k t h' _ K'.base ?_ K'.leBase l'
  have:=gd.nl
  exact(hb.wo l K.has).slc_of (by omega)
def CV (m:ah) (j p:Nat):List Nat:=((cf (m.inits.take j) p).map fun k=>nE (aK m.nodes p) ((oK m).getD k [])).getD (List.replicate (aK m.nodes p) 0)
theorem Vj (m:ah) (p:Nat):CV m m.inits.length p=(ez m p).getD (List.replicate (aK m.nodes p) 0):=by
 unfold CV ez;rw [List.take_length]
theorem SW {m:ah} (g:dj m) {j:Nat} {b:BindP} (hb:m.inits[j]?=some b) (p:Nat):CV m (j+1) p=if b.state=(p:Int)then nE (aK m.nodes p) ((oK m).getD b.node.toNat [])else CV m j p:=by
 unfold CV
 rw [HL (qu g.twice).2.1 hb]
 split<;>rfl
theorem SF (m:ah) {i p:Nat} (h:(stP m)[i]?=some p):(iE m).getD i []=CV m m.inits.length p:=by
 rw [Vj]
 unfold iE kJ
 rw [List.getD_eq_getElem?_getD,List.getElem?_map,h];rfl
theorem uG {m:ah} (g:dj m) {b:BindP} (hb:b∈m.inits):0<=b.node/\b.node<m.nodes.length/\0<((oK m).getD b.node.toNat []).length/\((oK m).getD b.node.toNat []).length<=4/\0<=b.state/\b.state<m.nodes.length:=by
 obtain⟨q1,q2,q3,q4,_⟩:=pN (g.ini b hb)
 have q2':=fB.1 q2
 have q1':=fB.1 q1
 have hf:=(xq g).fit b.node.toNat (by omega) (by omega)
 have:=(uM g.ok (show b.node.toNat<m.nodes.length by omega) hf).1
 refine⟨q2'.1,q2'.2,hf.pos,?_,q1'.1,q1'.2⟩
 rw [this];exact dm _ _
set_option maxHeartbeats 4000000 in
theorem fo {h:Hp} {M:MSl} {m:ah} {R:Value->Hp->Prop} (hs:aO h M m) (hm:bW m)
  (k0: ∀h',h.le h'->ax m≠0->R (.tuple #[.pointer none, .bool false]) h')
  (k1:ax m=0->dj m-> ∀b h',h.le h'->om h' b (aG m)->R (.tuple #[.pointer (some ⟨b,0,none⟩), .bool true]) h'):dq #[aQ M] h R:=by
 apply C9
 refine uf_ ?_
 have K0:=Kn.nil h
 (with_reducible apply Kn.al);(assumption);(intro b7 h1 K1 l1 hb7)
 repeat' (refine kr_ ?_)
 refine lP (hs.mono l1) hm ⟨_,rfl,ac (fun e=>k0 h1 l1 (hR e)) (fun e=>?_)⟩
 have hcode:=fS e
 have gd:=cr hcode
 replace k1:=k1 hcode gd
 clear k0 e hcode l1 hb7 K0
 have hn8:=gd.n8
 have hk5:=gd.k5
 have hp13:=NN gd
 have hp13':=bK (ak m.nodes 36+ak m.nodes 35)
 refine ap (fun J=> ∀(bp bx:Nat) (h' g':Hp) (t:Sl) (L0:List (Nat×Blk)),Kn g' h' L0->(bp, .inl ⟨[.pointer (some ⟨bx,0,none⟩)],1,false⟩)∈L0->
  (bx, .inl ⟨Ox M (ak m.nodes 36) (ak m.nodes 35) t ⟨none,0,0⟩ ⟨none,0,0⟩ 0 ⟨none,0,0⟩ 0 0,14,false⟩)∈L0->(b7, .inl ⟨aw M,5,false⟩)∈L0->h.le g'->IntS g' t (VL (stP m))->J bp 0 h') ?_ (fun J hJ=>?_)
 rotate_left
 ·repeat' (first
   |(refine kr_ ?_)
   |(refine fk (hs.mono (Kn.le (by assumption))) hm ⟨_,rfl,?_⟩)
   |(refine Sa (by assumption) hs hm gd fun _ _ _ _ _ _ _=>⟨_,rfl,?_⟩)
   |((with_reducible apply Kn.al);(assumption);(intro _ _ _ _ _))
   |((((with_reducible apply Kn.wr);(assumption);((focus ((repeat first|exact .head|apply Upd.tail);done)))));(exact Nat.le_refl _);(intro _ _ _))
   |((with_reducible apply hJ)<;>first|assumption|((focus ((repeat first|exact .head _|apply List.Mem.tail);done))))
   |(refine And.intro ?_ ?_))
 intro bp bx h2 g2 st L0 K2' mp mx m7 l2 hst
 have K2:Kn g2 h2 [(bp, .inl ⟨[.pointer (some ⟨bx,0,none⟩)],1,false⟩),(bx, .inl ⟨Ox M (ak m.nodes 36) (ak m.nodes 35) st ⟨none,0,0⟩ ⟨none,0,0⟩ 0 ⟨none,0,0⟩ 0 0,14,false⟩),(b7, .inl ⟨aw M,5,false⟩)]:=by
  refine K2'.sub (fun e he=>?_) ?_
  ·simp only [List.mem_cons,List.not_mem_nil,or_false]at he
   rcases he with rfl|rfl|rfl<;>assumption
  ·have n1:=dQ (K2'.at mp) (K2'.at mx) (by simp)
   have n2:=dQ (K2'.at mp) (K2'.at m7) (by simp)
   have n3:=dQ (K2'.at mx) (K2'.at m7) (by simp)
   simp [n1,n2,n3]
 clear K2' mp mx m7 L0 K1
 have hs2:=hs.mono l2
 repeat' (refine kr_ ?_)
 rw [bU (n:=((ak m.nodes 36:Nat):Int)+((ak m.nodes 35:Nat):Int)) (by omega) (by omega),if_neg (by omega),<-Int.natCast_add,bG (by omega)]
 generalize hN:2^(ak m.nodes 36+ak m.nodes 35)=N at*
 have tN:Int.toNat (N:Int)=N:=Int.toNat_natCast N
 have nN:N*1=N:=Nat.mul_one N
 have zB:aR #[.bool false] N=dS (aG m).hold 0 N:=by rw [cn,lF]
 have zI:aR #[I 0] N=k9 (aG m).next 0 N:=by rw [cn,Eg]
 simp only [tN,nN,zB,zI]
 clear tN nN zB zI
 refine ap (fun J=> ∀(bH bB bN:Nat) (h':Hp) (L0:List (Nat×Blk)),Kn g2 h' L0->(bp, .inl ⟨[.pointer (some ⟨bx,0,none⟩)],1,false⟩)∈L0->
  (bx, .inl ⟨Ox M (ak m.nodes 36) (ak m.nodes 35) st (arr bH N) (arr bB N) 0 (arr bN N) 0 0,14,false⟩)∈L0->(b7, .inl ⟨aw M,5,false⟩)∈L0->
  (bH, .inl ⟨dS (aG m).hold 0 N,N,false⟩)∈L0->(bB, .inl ⟨dS (aG m).hold 0 N,N,false⟩)∈L0->(bN, .inl ⟨k9 (aG m).next 0 N,N,false⟩)∈L0->(bH≠bB/\bH≠bN/\bB≠bN)->J h') ?_ (fun J hJ=>?_)
 rotate_left
 ·repeat' (first
   |(refine kr_ ?_)
   |((with_reducible apply Kn.al);(assumption);(intro _ _ _ _ _))
   |(refine And.intro (by omega) ?_)
   |((((with_reducible apply Kn.wr);(assumption);((focus ((repeat first|exact .head|apply Upd.tail);done)))));(exact of_decide_eq_true rfl);(intro _ _ _))
   |((with_reducible apply hJ)<;>first|assumption|((focus ((repeat first|exact .head _|apply List.Mem.tail);done)))|((have hnd:=Kn.nd (by assumption);simp only [List.map_cons,List.map_nil,List.nodup_cons,List.mem_cons,List.not_mem_nil,not_or,or_false,not_false_eq_true,and_true,List.nodup_nil]at hnd;omega)))
   |(refine And.intro ?_ ?_))
 intro bH bB bN h3 L0 K3' mp mx m7 mH mB mN hne
 have e0:dS (aG m).hold 0 N=dS (aG m).bad 0 N:=by rw [<-lF,<-lF]
 rw [e0]at mB
 have n1:=dQ (K3'.at mp) (K3'.at mx) (by simp)
 have n2:=dQ (K3'.at mp) (K3'.at m7) (by simp)
 have n3:=dQ (K3'.at mx) (K3'.at m7) (by simp)
 have hb1: ∀b∈ [bH,bB,bN],g2 b=none:=by
  intro b hb
  simp only [List.mem_cons,List.not_mem_nil,or_false]at hb
  rcases hb with rfl|rfl|rfl
  ·exact K3'.new _ mH
  ·exact K3'.new _ mB
  ·exact K3'.new _ mN
 have h0b:(dS (aG m).hold 0 N)[0]?=some (.bool false):=by rw [<-lF,List.getElem?_replicate,if_pos hp13']
 have h0b2:(dS (aG m).bad 0 N)[0]?=some (.bool false):=by rw [<-lF,List.getElem?_replicate,if_pos hp13']
 have h0n:(k9 (aG m).next 0 N)[0]?=some (I 0):=by rw [<-Eg,List.getElem?_replicate,if_pos hp13']
 have dif: ∀{b c:Nat} {cs ds:List Value} {z y:Nat} {v w:Value},(b, .inl ⟨cs,z,false⟩)∈L0->(c, .inl ⟨ds,y,false⟩)∈L0->cs[0]?=some v->ds[0]?=some w->v≠w->b≠c:=by
  intro b c cs ds z y v w hb hc e1 e2 hvw hbc
  subst hbc
  have:=(K3'.at hb).symm.trans (K3'.at hc)
  simp only [Option.some.injEq,Sum.inl.injEq,Row.mk.injEq]at this
  rw [this.1,e2]at e1
  exact hvw (Option.some.inj e1).symm
 have K3:Kn g2 h3 (tt m bH bB bN 0++ [(bp, .inl ⟨[.pointer (some ⟨bx,0,none⟩)],1,false⟩),(bx, .inl ⟨Ox M (ak m.nodes 36) (ak m.nodes 35) st (arr bH N) (arr bB N) 0 (arr bN N) 0 0,14,false⟩),(b7, .inl ⟨aw M,5,false⟩)]):=by
  refine K3'.sub (fun e he=>?_) ?_
  ·simp only [tt,hN,List.mem_append,List.mem_cons,List.not_mem_nil,or_false]at he
   rcases he with (rfl|rfl|rfl)|rfl|rfl|rfl<;>assumption
  ·have a1:=dif mH mp h0b rfl (by simp)
   have a2:=dif mH mx h0b rfl (by simp)
   have a3:=dif mH m7 h0b rfl (by simp)
   have a4:=dif mB mp h0b2 rfl (by simp)
   have a5:=dif mB mx h0b2 rfl (by simp)
   have a6:=dif mB m7 h0b2 rfl (by simp)
   have a7:=dif mN mp h0n rfl (by simp)
   have a8:=dif mN mx h0n rfl (by simp)
   have a9:=dif mN m7 h0n rfl (by simp)
   simp [tt,hne.1,hne.2.1,hne.2.2,n1,n2,n3,a1,a2,a3,a4,a5,a6,a7,a8,a9]
 clear dif h0b h0b2 h0n e0 n1 n2 n3 mp mx m7 mH mB mN K3' L0 K2
 have Kf:Kn g2 h3 (tt m bH bB bN 0):=K3.sub (fun e he=>List.mem_append_left _ he) (by simp [tt,hne.1,hne.2.1,hne.2.2])
 have nB: ∀b∈ [bp,bx,b7],b∉ [bH,bB,bN]:=by
  have hnd:=K3.nd
  simp only [tt,List.cons_append,List.nil_append,List.map_cons,List.map_nil,List.nodup_cons,List.mem_cons,List.not_mem_nil,not_or,or_false,not_false_eq_true,and_true,List.nodup_nil]at hnd
  intro b hb hb2
  simp only [List.mem_cons,List.not_mem_nil,or_false]at hb hb2
  omega
 have f7:(h3.wo [bH,bB,bN]) b7=some (.inl ⟨aw M,5,false⟩):=by
  rw [se (nB _ (by simp))];exact K3.at (by simp)
 have fp:(h3.wo [bH,bB,bN]) bp=some (.inl ⟨[.pointer (some ⟨bx,0,none⟩)],1,false⟩):=by
  rw [se (nB _ (by simp))];exact K3.at (by simp)
 have fx:(h3.wo [bH,bB,bN]) bx=some (.inl ⟨Ox M (ak m.nodes 36) (ak m.nodes 35) st (arr bH N) (arr bB N) 0 (arr bN N) 0 0,14,false⟩):=by
  rw [se (nB _ (by simp))];exact K3.at (by simp)
 have lB:g2.le (h3.wo [bH,bB,bN]):=Kf.leBase
 have hsB:=hs2.mono lB
 have hstB:=hst.mono lB
 have Kr:=Kn.of (wG h3 [bH,bB,bN])
 repeat' (refine kr_ ?_)
 subst hN
 refine S4 (B:= [bH,bB,bN]) (st:=fun c h'=>Kn (h3.wo [bH,bB,bN]) h' (tt m bH bB bN c)) hsB hm gd Kf.has (fun c h1 h2 K l=>K.mono l) Kf.base (fun c hc h4 t l4 K hpv R' hR'=>?_) (fun h4 l4 K4=>⟨rfl,?_⟩)
 ·exact Cp hsB hm gd f7 fp fx hstB hc K hpv fun h5 K5=>hR' h5 ⟨Hp.le_trans K.leBase K5.le,K5.mem,fun e he=>by
   have:=K5.nd
   exact aF K.leBase (K5.new e he),K5.nd⟩ K5.le
 have K5:Kn g2 h4 (tt m bH bB bN (2^(ak m.nodes 36+ak m.nodes 35))++ [(bp, .inl ⟨[.pointer (some ⟨bx,0,none⟩)],1,false⟩),(bx, .inl ⟨Ox M (ak m.nodes 36) (ak m.nodes 35) st (arr bH (2^(ak m.nodes 36+ak m.nodes 35))) (arr bB (2^(ak m.nodes 36+ak m.nodes 35))) 0 (arr bN (2^(ak m.nodes 36+ak m.nodes 35))) 0 0,14,false⟩),(b7, .inl ⟨aw M,5,false⟩)]):=by
  refine⟨Hp.le_trans lB l4,fun e he=>?_,fun e he=>?_,K3.nd⟩
  ·rcases List.mem_append.1 he with he|he
   ·exact K4.mem e he
   ·simp only [List.mem_cons,List.not_mem_nil,or_false]at he
    rcases he with rfl|rfl|rfl
    ·exact l4 _ _ fp
    ·exact l4 _ _ fx
    ·exact l4 _ _ f7
  ·rcases List.mem_append.1 he with he|he
   ·have hm:e.1∈ [bH,bB,bN]:=by
     simp only [tt,List.mem_cons,List.not_mem_nil,or_false]at he
     rcases he with rfl|rfl|rfl<;>simp
    exact hb1 _ hm
   ·exact K3.new e (List.mem_append_right _ he)
 unfold tt at K5
 simp only [List.cons_append,List.nil_append]at K5
 clear K4 Kr hstB hsB lB fx fp f7 nB Kf K3 l4 h3
 have hil:=gd.il
 have hxl:=gd.xl
 have hin:=hs2.inits.len
 have hp36:(stP m).length<=m.nodes.length:=fy m.nodes 36
 have hnl:=gd.nl
 have hstn:st.n=(stP m).length:=by have:=hst.len;rw [aY]at this;exact this
 repeat' (refine kr_ ?_)
 refine xj (hs2.mono K5.le) hm gd (hs2.mono K5.le).nexts (by omega) ⟨_,rfl,?_⟩
 repeat' (refine kr_ ?_)
 refine kw_ ?_
 intro h5 K6 _
 clear K5
 repeat' (refine kr_ ?_)
 refine B0 (hs2.mono K6.le) hm gd fun vt h6 l6 hvn hpv=>⟨vt,rfl,?_⟩
 have K7:=K6.mono l6
 clear K6 l6
 have hs6:=hs2.mono K7.le
 have hst6:=hst.mono K7.le
 have f7:h6 b7=some (.inl ⟨aw M,5,false⟩):=K7.at (by simp)
 have fp:h6 bp=some (.inl ⟨[.pointer (some ⟨bx,0,none⟩)],1,false⟩):=K7.at (by simp)
 repeat' (refine kr_ ?_)
 refine sJ hs6 hm hst6 (cO gd 36) (iZ gd 36) fun out ts h7 c1 hon=>⟨out,rfl,?_⟩
 have Kr:=Kn.of (Hp.le_trans c1.le (bz _ _))
 repeat' (refine kr_ ?_)
 have aV:=xq gd
 refine av m.inits.length (fun j vs h'=> ∃ts:List Sl,vs= [.pointer (some ⟨b7,0,none⟩), .pointer (some ⟨bp,0,none⟩),vt.v,out.v,M.ini.v,I M.ini.n,I j]/\h6.le (h'.offS out)/\Buf h' out 1 (ts.map Sl.v)/\ts.length=(stP m).length/\
  ∀(i p:Nat) (t:Sl),(stP m)[i]?=some p->ts[i]?=some t->IntS (h'.offS out) t (VL (CV m j p))) ⟨ts,rfl,c1.le,c1.buf,by rw [c1.len,nr],fun i p t hp ht=>?_⟩ ?_
 ·obtain⟨b,e1,e2,e3⟩:=c1.row i t ht
  have hz:(cX m.nodes (stP m)).getD i []=CV m 0 p:=by
   unfold cX CV
   rw [List.getD_eq_getElem?_getD,List.getElem?_map,hp];rfl
  have hz4:((cX m.nodes (stP m)).getD i []).length<=4:=by
   unfold cX
   rw [List.getD_eq_getElem?_getD,List.getElem?_map,hp]
   simp only [Option.map_some,Option.getD_some,List.length_replicate]
   exact dm _ _
  rw [hz]at e1 e3 hz4
  rw [e1]
  exact⟨by dsimp only;omega,by simp [aY], .inr ⟨b,0,rfl,ay e3⟩⟩
 clear c1 Kr ts h7
 rintro j _ h8 next hj ⟨ts,rfl,l8,hbuf,htl,hts⟩ hnx
 have lo:=bz h8 out
 have l68:=Hp.le_trans l8 lo
 refine⟨_,_,_,_,vt,out,M.ini,_,_,rfl,?_⟩
 by_cases hlt:j<m.inits.length
 rotate_left
 ·have hje:j=m.inits.length:=by omega
  subst hje
  refine aE (by simp;omega) ?_
  have K9:=K7.mono l68
  have hbl:(iE m).length=(stP m).length:=by unfold iE kJ;rw [List.length_map]
  have iss:IntSS h8 out ((iE m).map VL):=⟨ts,by rw [List.length_map,hbl];exact htl,hbuf.slc_of (by rw [hon];have:=iZ gd 36;omega),fun i h1 h2=>by
   have hi:i<(stP m).length:=by omega
   have hpi:(stP m)[i]?=some (stP m)[i]:=List.getElem?_eq_getElem hi
   have:=(hts i _ _ hpi (List.getElem?_eq_getElem h1)).mono lo
   rw [<-SF m hpi]at this
   rw [List.getElem_map]
   rwa [List.getD_eq_getElem?_getD,List.getElem?_eq_getElem (by rw [hbl];exact hi)]at this⟩
  have hs8:=hs6.mono l68
  clear hbuf hts
  repeat' (refine kr_ ?_)
  refine xj hs8 hm gd hs8.inits (by omega) ⟨_,rfl,?_⟩
  repeat' (refine kr_ ?_)
  refine CU hs8 hm gd.ok (hst6.mono l68) (cO gd 36) (iZ gd 36) iss (uV gd) (by rw [fq gd];omega) ⟨_,rfl,?_⟩
  repeat' (refine kr_ ?_)
  refine kw_ ?_
  intro h9 K10 _
  repeat' (refine kr_ ?_)
  refine kw_ ?_
  intro h10 K11 _
  repeat' (refine kr_ ?_)
  refine k1 bx h10 (Hp.le_trans l2 K11.le) ⟨M,st,arr bH (2^(ak m.nodes 36+ak m.nodes 35)),arr bB (2^(ak m.nodes 36+ak m.nodes 35)),arr bN (2^(ak m.nodes 36+ak m.nodes 35)),K11.at (by((focus ((repeat first|exact .head _|apply List.Mem.tail);done)))),?_,?_,?_⟩
  ·refine⟨by dsimp only;omega,by simp [aG], .inr ⟨bH,0,rfl,?_⟩⟩
   have:=ay (K11.at (.head _))
   rwa [yh]at this
  ·refine⟨by dsimp only;omega,by simp [aG], .inr ⟨bB,0,rfl,?_⟩⟩
   have:=ay (K11.at (.tail _ (.head _)))
   rwa [yh]at this
  ·refine⟨by dsimp only;omega,by simp [aG,VL], .inr ⟨bN,0,rfl,?_⟩⟩
   have:=ay (K11.at (.tail _ (.tail _ (.head _))))
   rwa [Py]at this
 refine aM (by simp;omega) ?_
 obtain⟨bd,hbd⟩: ∃bd,m.inits[j]?=some bd:=⟨_,List.getElem?_eq_getElem hlt⟩
 obtain⟨v1,v2,v3,v4,s1,s2⟩:=uG gd (List.mem_of_getElem? hbd)
 obtain⟨bi,oi,hai,cx1,cx2⟩:=(hs6.mono l68).inits.at hbd
 refine⟨bi,oi,hai,by omega,by omega,_,cx1,_,cx2,?_⟩
 refine aj fun b48 h9 hb48 l9 f48'=>?_
 (with_reducible apply bZ);(exact f48');(exact l9);(exact hb48);(exact Nat.le_refl 2)
 intro h10 f48 kp l10
 have l10o:=bQ out l10
 have f48o:=hbuf.offS_new hb48 f48
 clear f48' kp l9
 have Kr:=Kn.of (Hp.le_trans l68 l10)
 have fx6:=K7.at (b:=bx) (.tail _ (.tail _ (.tail _ (.tail _ (.head _)))))
 repeat' (refine kr_ ?_)
 refine av (stP m).length (fun q vs h'=> ∃ts:List Sl,vs= [.pointer (some ⟨b7,0,none⟩), .pointer (some ⟨bp,0,none⟩),vt.v,out.v, .pointer (some ⟨b48,0,none⟩),M.ini.v,I M.ini.n,I j,st.v,I st.n,I q]/\h6.le (h'.offS out)/\(h'.offS out) b48=some (.inl ⟨[I bd.state,I bd.node],2,false⟩)/\Buf h' out 1 (ts.map Sl.v)/\ts.length=(stP m).length/\
  ∀(i p:Nat) (t:Sl),(stP m)[i]?=some p->ts[i]?=some t->IntS (h'.offS out) t (VL (if i<q then CV m (j+1) p else CV m j p)))
  ⟨ts,rfl,Hp.le_trans l8 l10o,f48o,hbuf.mono l10,htl,fun i p t hp ht=>by rw [if_neg (by omega)];exact(hts i p t hp ht).mono l10o⟩ ?_
 clear Kr f48o l10o l10 f48 hb48 hbuf htl hts ts l68 lo l8 hai cx1 cx2 h9 h8 h10
 rintro q _ h8 next2 hq ⟨ts,rfl,l8,f48,hbuf,htl,hts⟩ hnx2
 have lo:=bz h8 out
 have l68:=Hp.le_trans l8 lo
 have g48:=lo _ _ f48
 refine⟨_,_,_,_,vt,out,_,_,_,_,_,st,_,_,rfl,?_⟩
 by_cases hlq:q<(stP m).length
 rotate_left
 ·refine aE (by simp;omega) ?_
  rw [aC (by omega)]
  refine hnx hlt _ _ ⟨ts,rfl,l8,hbuf,htl,fun i p t hp ht=>?_⟩
  have:=hts i p t hp ht
  rwa [if_pos (by have:=get_lt hp;omega)]at this
 refine aM (by simp;omega) ?_
 obtain⟨p,hpq⟩: ∃p,(stP m)[q]?=some p:=⟨_,List.getElem?_eq_getElem hlq⟩
 have hpm:=cO gd 36 p (List.mem_of_getElem? hpq)
 obtain⟨bq,oq,hap,hcp⟩:=(hst6.mono l68).get (gZ hpq)
 refine ap (fun J=> ∀(ts':List Sl) (h':Hp),h6.le (h'.offS out)->(h'.offS out) b48=some (.inl ⟨[I bd.state,I bd.node],2,false⟩)->Buf h' out 1 (ts'.map Sl.v)->ts'.length=(stP m).length->
  (∀(i p:Nat) (t:Sl),(stP m)[i]?=some p->ts'[i]?=some t->IntS (h'.offS out) t (VL (if i<q+1 then CV m (j+1) p else CV m j p)))->J h') ?_ (fun J hJ=>?_)
 ·intro ts' h' a1 a2 a3 a4 a5
  rw [aC (by omega)]
  exact hnx2 hlq _ _ ⟨ts',rfl,a1,a2,a3,a4,a5⟩
 refine⟨bq,oq,hap,by omega,by omega,_,hcp,?_⟩
 (refine az ?_)
 have hst':=SW gd hbd p
 refine ac (fun e=>?_) (fun e=>?_)
 ·rw [if_pos (bV e).symm]at hst'
  have f78:=l68 _ _ f7
  (refine az ?_)
  obtain⟨bn,on,han,hpn',c6,c7,w1,w16⟩:=(hs6.mono l68).nodes.sortc2 hpm gd.ok
  refine⟨bn,on,han,by omega,hpn',_,c6,_,c7,?_⟩
  (refine az ?_)
  obtain⟨bv,ov,t,hav,hvn',hcv,ht⟩:=(hpv.mono l68).at v1 (by rw [aV.len];exact v2)
  refine⟨bv,ov,hav,v1,hvn',t,hcv,?_⟩
  refine xE ht v3 v4 fun t2 h9 l9 ht2=>⟨t2,rfl,?_⟩
  rw [qr gd.ok hpm]at ht2
  have l9o:=bQ out l9
  have hbuf9:=hbuf.mono l9
  refine hbuf9.wr (x:=t2) (by omega) fun h10 hbuf' ho=>?_
  refine hJ _ h10 (by rw [ho];exact Hp.le_trans l8 l9o) (by rw [ho];exact l9o _ _ f48) hbuf' (by rw [List.length_set];exact htl) fun i p' u hp' hu=>?_
  rw [ho]
  by_cases hiq:i=q
  ·subst hiq
   rw [hpq]at hp';cases hp'
   rw [List.getElem?_set_self (by omega)]at hu
   obtain rfl:=Option.some.inj hu
   rw [if_pos (by omega),hst']
   exact ht2.offL hbuf9
  ·rw [List.getElem?_set_ne (fun e=>hiq e.symm)]at hu
   have:=(hts i p' u hp' hu).mono l9o
   by_cases h1:i<q
   ·rw [if_pos h1]at this;rw [if_pos (by omega)];exact this
   ·rw [if_neg h1]at this;rw [if_neg (by omega)];exact this
 ·rw [if_neg (fun e'=>bk e e'.symm)]at hst'
  refine hJ ts h8 l8 f48 hbuf htl fun i p' u hp' hu=>?_
  have:=hts i p' u hp' hu
  by_cases hiq:i=q
  ·subst hiq
   rw [hpq]at hp';cases hp'
   rw [if_neg (by omega)]at this
   rw [if_pos (by omega),hst'];exact this
  ·by_cases h1:i<q
   ·rw [if_pos h1]at this;rw [if_pos (by omega)];exact this
   ·rw [if_neg h1]at this;rw [if_neg (by omega)];exact this
theorem gG {h h1 h2 h3:Hp} {b:Nat} {x:Blk} (l:h.le h1) (hb:h1 b=some x) (kp: ∀c,c≠b->h3 c=h2 c):(h2.sub h1).le (h3.sub h):=by
 intro c y e
 have hc:c≠b:=by rintro rfl;rw [ml hb]at e;cases e
 have h1c:h1 c=none:=by
  cases hx:h1 c with
  |none=>rfl
  |some z=>rw [ml hx]at e;cases e
 rw [ma (aF l h1c),kp c hc]
 rw [ma h1c]at e
 exact e
theorem de.get {h:Hp} {t:Sl} {n:Nat} {T:Nat->Bool} (e:de h t n T) {i:Nat} (hi:i<n): ∃b o,t.a=some (Addr.mk b o none)/\(i:Int)<(t.n:Int)/\Hp.cell h b (o+Int.toNat (i:Int)*1)=some (.bool (T i)):=by
 have hl:=rp.len e
 rw [List.length_map,List.length_range]at hl
 obtain⟨b,o,ha,hc⟩:=SlC.get e (by omega)
 refine⟨b,o,ha,by omega,?_⟩
 rw [Int.toNat_natCast,Nat.mul_one]
 exact hc i _ (by simp [hi])
theorem de.len {h:Hp} {t:Sl} {n:Nat} {T:Nat->Bool} (e:de h t n T):t.n=n:=by
 have hl:=rp.len e
 rwa [List.length_map,List.length_range]at hl
theorem BO.get {h:Hp} {t:Sl} {n:Nat} {f:Nat->Nat} (e:BO h t n f) {i:Nat} (hi:i<n): ∃b o,t.a=some (Addr.mk b o none)/\(i:Int)<(t.n:Int)/\Hp.cell h b (o+Int.toNat (i:Int)*1)=some (I (f i:Nat)):=by
 have hl:=IntS.len e
 rw [aY,List.length_map,List.length_range]at hl
 obtain⟨b,o,ha,hc⟩:=SlC.get e (by omega)
 refine⟨b,o,ha,by omega,?_⟩
 rw [Int.toNat_natCast,Nat.mul_one]
 exact hc i _ (by simp [VL,hi])
def xd (B:Bd) (s:Sl):Value:= .tuple #[.agg #[I B.v,s.v,I B.r], .bool B.ok]
theorem tZ {h:Hp} {t:Sl} {n:Nat} {f:Nat->Bool} {R:Value->Hp->Prop} (hn:n<=13) (ht:AR h t n f)
  (k: ∀s h',h.le h'->Own (h'.sub h) s 3 (bD (cQ n f).ns)->R (xd (cQ n f) s) h'):eX #[t.v] h R:=by
 have e:cQ (n:Int) f=match pq n f with|none=>js|some r=>⟨n,r.2,r.1,true⟩:=by
  unfold cQ;rw [if_pos (by omega),Int.toNat_natCast];cases pq n f<;>rfl
 refine LK hn ht (fun h0=>?_) (fun r hr s h' l o=>?_)
 ·have:=k ⟨none,0,0⟩ h (Hp.le_refl _)
  rw [e,h0]at this
  exact this (mL _ _)
 ·have:=k s h' l
  rw [e,hr]at this
  exact this o
theorem GQ {h:Hp} {b:Nat} {σ:aD} {fid:FuncId} {u w:Array Value} {f:Nat->Bool} {R:Value->Hp->Prop} (hs:om h b σ) (ok:σ.Ok) (hf:Fx h fid u w (2^σ.n) f)
  (k: ∀s h',h.le h'->Own (h'.sub h) s 3 (bD (cQ σ.n f).ns)->R (xd (cQ σ.n f) s) h'):jb #[.pointer (some ⟨b,0,none⟩), .func (.func fid) u w] h R:=by
 apply Bz
 refine uf_ ?_
 have h8:=ok.nle
 obtain⟨M,st,hold,bad,next,fx,_,_,_⟩:=hs
 refine aj fun b6 h1 hb6 l1 f6=>?_
 refine dF ?_
 replace fx:=l1 _ _ fx
 (refine az ?_)
 refine ux (by omega) (fun i hi h' l R k=>hf i hi h' (Hp.le_trans l1 l) R k) fun t h2 l2 ht=>⟨t,rfl,?_⟩
 refine tZ (by omega) (ht.mono (sub_le _ _)) fun s h3 l3 o3=>⟨_,_,_,_,rfl,?_⟩
 have l12:=Hp.le_trans l2 l3
 have f62:=l2 _ _ f6
 (with_reducible apply bZ);(exact l3 _ _ f62);(exact Hp.le_trans l1 l12);(exact hb6);(exact Nat.le_refl 3)
 intro h4 f4 kp l4
 refine⟨_,by rw [aq f4];rfl,_,by rw [aq f4];rfl,_,by rw [aq f4];rfl,?_⟩
 exact k s h4 l4 (o3.mono (gG (Hp.le_trans l1 l2) f62 kp))
theorem yc {h:Hp} {b s:Nat} {σ:aD} {R:Value->Hp->Prop} (hs:om h b σ) (ok:σ.Ok) (hlt:s<2^σ.n) (k:R (.bool (σ.begins s)) h):kQ #[.pointer (some ⟨b,0,none⟩),I s] h R:=by
 apply yB
 refine uf_ ?_
 obtain⟨M,st,hold,bad,next,fx,_,_,_⟩:=hs
 have h8:=Nat.pow_le_pow_right (n:=2) (by omega) ok.nle
 have h82:(2:Nat)^8=256:=rfl
 have hb:=ok.bfix
 have ha:=ok.bas
 refine dF (dF ?_)
 repeat' (refine az ?_)
 rw [sM (by omega) (by omega)]
 refine dr ?_ k
 unfold aD.begins
 rw [Bool.eq_iff_iff,decide_eq_true_eq,beq_iff_eq];omega
def iC (m:ah):Bd:=if ax m=0 then cQ (aG m).n (aG m).begins else js
def dL (m:ah):Bd:=if ax m=0 then cQ ((aG m).n+(aG m).k:Nat) (aG m).hold else js
theorem tJ {h:Hp} {M:MSl} {m:ah} {R:Value->Hp->Prop} (hs:aO h M m) (hm:bW m)
  (k: ∀s h',h.le h'->Own (h'.sub h) s 3 (bD (iC m).ns)->R (xd (iC m) s) h'):pc #[aQ M] h R:=by
 apply Ho
 refine uf_ ?_
 refine aj fun b7 h1 hb7 l1 f7=>?_
 refine aj fun b9 h2 hb9 l2 f9=>?_
 replace f7:=l2 _ _ f7
 have l02:=Hp.le_trans l1 l2
 have b9n:=aF l1 hb9
 repeat' (refine az ?_)
 refine fo (hs.mono l02) hm (fun h3 l3 hc=>⟨_,_,rfl,aM rfl ?_⟩) (fun hc g bx h3 l3 hx=>⟨_,_,rfl,aE rfl ?_⟩)
 ·have f93:=l3 _ _ f9
  (with_reducible apply bZ);(exact f93);(exact Hp.le_trans l02 l3);(exact b9n);(exact Nat.le_refl 3)
  intro h4 f4 kp l4
  refine⟨_,by rw [aq f4];rfl,⟨none,0,0⟩,by rw [aq f4];rfl,_,by rw [aq f4];rfl,?_⟩
  have:=k ⟨none,0,0⟩ h4 l4
  unfold iC at this
  rw [if_neg hc]at this
  exact this (mL _ _)
 ·have ok:=gQ g
  refine GQ hx ok (fun i hi h' l R k=>yc (hx.mono l) ok hi k) fun s h4 l4 o4=>⟨_,_,_,_,rfl,?_⟩
  have f93:=l3 _ _ f9
  (with_reducible apply bZ);(exact l4 _ _ f93);(exact Hp.le_trans l02 (Hp.le_trans l3 l4));(exact b9n);(exact Nat.le_refl 3)
  intro h5 f5 kp l5
  refine⟨_,by rw [aq f5];rfl,_,by rw [aq f5];rfl,_,by rw [aq f5];rfl,?_⟩
  have:=k s h5 l5
  unfold iC at this
  rw [if_pos hc]at this
  exact this (o4.mono (gG (Hp.le_trans l02 l3) f93 kp))
theorem tp {h:Hp} {M:MSl} {m:ah} {R:Value->Hp->Prop} (hs:aO h M m) (hm:bW m)
  (k: ∀s h',h.le h'->Own (h'.sub h) s 3 (bD (dL m).ns)->R (xd (dL m) s) h'):jI #[aQ M] h R:=by
 apply HE
 refine uf_ ?_
 refine aj fun b7 h1 hb7 l1 f7=>?_
 refine aj fun b9 h2 hb9 l2 f9=>?_
 replace f7:=l2 _ _ f7
 have l02:=Hp.le_trans l1 l2
 have b9n:=aF l1 hb9
 repeat' (refine az ?_)
 refine fo (hs.mono l02) hm (fun h3 l3 hc=>⟨_,_,rfl,?_⟩) (fun hc g bx h3 l3 hx=>⟨_,_,rfl,?_⟩)
 ·refine aj fun b21 h4 hb21 l4 f21'=>?_
  have n9:=fresh_ne hb21 (l3 _ _ f9)
  (with_reducible apply bZ);(exact f21');(exact Hp.le_trans l02 (Hp.le_trans l3 l4));(exact aF (Hp.le_trans l02 l3) hb21);(exact Nat.le_refl 1)
  intro h5 f21 kp5 l5
  have f95:=cm kp5 n9 (l4 _ _ (l3 _ _ f9))
  refine aM rfl ?_
  (with_reducible apply bZ);(exact f95);(exact l5);(exact b9n);(exact Nat.le_refl 3)
  intro h6 f6 kp l6
  refine⟨_,by rw [aq f6];rfl,⟨none,0,0⟩,by rw [aq f6];rfl,_,by rw [aq f6];rfl,?_⟩
  have:=k ⟨none,0,0⟩ h6 l6
  unfold dL at this
  rw [if_neg hc]at this
  exact this (mL _ _)
 ·have ok:=gQ g
  have hn8:=ok.nle
  have hk5:=ok.kle
  refine aj fun b21 h4 hb21 l4 f21'=>?_
  have n9:=fresh_ne hb21 (l3 _ _ f9)
  have lh3:=Hp.le_trans l02 l3
  have b21n:=aF lh3 hb21
  (with_reducible apply bZ);(exact f21');(exact Hp.le_trans lh3 l4);(exact b21n);(exact Nat.le_refl 1)
  intro h5 f21 kp5 l5
  have f21v:h5 b21=some (.inl ⟨[.pointer (some ⟨bx,0,none⟩)],1,false⟩):=f21
  have f95:=cm kp5 n9 (l4 _ _ (l3 _ _ f9))
  have l35:h3.le h5:=cL hb21 l4 kp5
  obtain⟨M',st,hold,bad,next,fx,t1,t2,t3⟩:=hx.mono l35
  refine aE rfl ?_
  refine⟨_,by rw [aq f21v];rfl,dF ?_⟩
  (refine az ?_)
  refine⟨_,by rw [aq f21v];rfl,dF ?_⟩
  (refine az ?_)
  rw [bU (n:=(((aG m).n:Nat):Int)+(((aG m).k:Nat):Int)) (by omega) (by omega),<-Int.natCast_add]
  refine ux (f:=(aG m).hold) (by omega) (fun i hi h' l R k=>?_) fun t h6 l6 ht=>⟨t,rfl,?_⟩
  ·apply Ce
   refine uf_ ?_
   refine⟨_,by rw [aq (l _ _ f21v)];rfl,dF ?_⟩
   have fx':=l _ _ fx
   (refine az ?_)
   obtain⟨b,o,ha,hlt,hc'⟩:=(t1.mono l).get hi
   exact⟨b,o,ha,by omega,hlt,_,hc',k⟩
  refine tZ (by omega) (ht.mono (sub_le _ _)) fun s h7 l7 o7=>⟨_,_,_,_,rfl,?_⟩
  have f96:=l6 _ _ f95
  (with_reducible apply bZ);(exact l7 _ _ f96);(exact Hp.le_trans l5 (Hp.le_trans l6 l7));(exact b9n);(exact Nat.le_refl 3)
  intro h8 f8 kp l8
  refine⟨_,by rw [aq f8];rfl,_,by rw [aq f8];rfl,_,by rw [aq f8];rfl,?_⟩
  have:=k s h8 l8
  unfold dL at this
  rw [if_pos hc]at this
  exact this (o7.mono (gG (Hp.le_trans l5 l6) f96 kp))
theorem IntS.up {h h':Hp} {s:Sl} {xs:List Int} (e:IntS h s xs) (l:h.le h'):IntS h' s xs:=e.mono l
theorem IntSS.up {h h':Hp} {s:Sl} {xs:List (List Int)} (e:IntSS h s xs) (l:h.le h'):IntSS h' s xs:=e.mono l
theorem aO.up {h h':Hp} {M:MSl} {m:ah} (e:aO h M m) (l:h.le h'):aO h' M m:=e.mono l
theorem kpU {h0 h h':Hp} {b:Nat} {x:Blk} {P:Prop} (f:h0 b=some x) (l1:h0.le h') (l2:h0.le h) (k:P):h' b=h b/\P:=⟨by rw [l1 _ _ f,l2 _ _ f],k⟩
theorem kpN {h0 h h':Hp} {b:Nat} {P:Prop} (f:h0 b≠none) (l1:h0.le h') (l2:h0.le h) (k:P):h' b=h b/\P:=by
 refine⟨?_,k⟩
 cases hb:h0 b with
 |none=>exact absurd hb f
 |some x=>rw [l1 _ _ hb,l2 _ _ hb]
theorem rdU {α:Type} {f:α->Value} {h0 h:Hp} {b z o:Nat} {cs:List Value} {ro:Bool} {x:α} {P:α->Prop} (e:h0 b=some (.inl ⟨cs,z,ro⟩)) (l:h0.le h) (c:cs[o]?=some (f x)) (k:P x): ∃y:α,Hp.cell h b o=some (f y)/\P y:=⟨x,by rw [aq (l _ _ e)];exact c,k⟩
theorem ku_ {P Q:Prop} (k:Q) (h:Q->P:=by(first
 |((with_reducible apply rdU);(assumption);((focus ((repeat (first|exact Hp.le_refl _|assumption|(refine Hp.le_trans ?_ (by assumption))));done)));(exact rfl))
 |with_reducible exact And.intro (Eq.refl _)
 |with_reducible exact And.intro True.intro
 |with_reducible exact dF
 |((with_reducible apply kpU);(assumption);((focus ((repeat (first|exact Hp.le_refl _|assumption|(refine Hp.le_trans ?_ (by assumption))));done)));((focus ((repeat (first|exact Hp.le_refl _|assumption|(refine Hp.le_trans ?_ (by assumption))));done))))
 |((with_reducible apply kpN);(assumption);((focus ((repeat (first|exact Hp.le_refl _|assumption|(refine Hp.le_trans ?_ (by assumption))));done)));((focus ((repeat (first|exact Hp.le_refl _|assumption|(refine Hp.le_trans ?_ (by assumption))));done))))
 |fail)):P:=h k
set_option maxHeartbeats 2000000 in
theorem zU {h:Hp} {M:MSl} {m:ah} {c:Nat} {R:Value->Hp->Prop} (hs:aO h M m) (hm:bW m) (g:dj m) (hc:c<2^(ak m.nodes 36+ak m.nodes 35))
  (k: ∀t h',h.le h'->t.n=m.nodes.length->gE h' t (ck m (c%2^ak m.nodes 36) (c/2^ak m.nodes 36))->XU h t->R (Sl.v t) h'):mR #[aQ M,I c] h R:=by
 apply E9
 refine uf_ ?_
 have hn8:=g.n8
 have hk5:=g.k5
 have hp13:=NN g
 have hp8:=ac1 g
 have h1':c%2^ak m.nodes 36<=c:=Nat.mod_le _ _
 have h2':c/2^ak m.nodes 36<=c:=Nat.div_le_self _ _
 have hpp:=bK (ak m.nodes 36)
 have hs36:cC m.nodes (aH m.nodes 36)<=60:=by have:=fq g;show cC m.nodes (stP m)<=60;omega
 have hs35:cC m.nodes (aH m.nodes 35)<=60:=by have:=Cy g;show cC m.nodes (inP m)<=60;omega
 have hshr:nJ (c:Int) ((ak m.nodes 36:Nat):Int)=((c/2^ak m.nodes 36:Nat):Int):=jx (by omega)
 have hmod:Int.tmod (c:Int) (((2^ak m.nodes 36:Nat)):Int)=((c%2^ak m.nodes 36:Nat):Int):=eU _ _
 have hwu:IntKind.wrap .u64 ((ak m.nodes 36:Nat):Int)=(ak m.nodes 36:Nat):=cu (by omega)
 have hsh1:au 1 ((ak m.nodes 36:Nat):Int)=((2^ak m.nodes 36:Nat):Int):=bG (by omega)
 refine aj fun b8 h1 hb8 l1 f8=>?_
 clear hb8
 repeat' (refine ku_ ?_)
 refine gC (hs.mono l1) hm ⟨_,rfl,?_⟩
 simp only [hwu,hsh1,hshr,hmod]
 repeat' (first
  |(refine ku_ ?_)
  |(rw [if_neg (by omega)])
  |(refine cU (hs.up (by((focus ((repeat (first|exact Hp.le_refl _|assumption|(refine Hp.le_trans ?_ (by assumption))));done))))) hm fun _ _ _ _=>⟨_,rfl,?_⟩)
  |(refine gi (hs.up (by((focus ((repeat (first|exact Hp.le_refl _|assumption|(refine Hp.le_trans ?_ (by assumption))));done))))) hm g.ok (IntS.up (by assumption) (by((focus ((repeat (first|exact Hp.le_refl _|assumption|(refine Hp.le_trans ?_ (by assumption))));done))))) (cO g 36) (iZ g 36) (by omega) hs36 fun _ _ _ _=>⟨_,rfl,?_⟩)
  |(refine gi (hs.up (by((focus ((repeat (first|exact Hp.le_refl _|assumption|(refine Hp.le_trans ?_ (by assumption))));done))))) hm g.ok (IntS.up (by assumption) (by((focus ((repeat (first|exact Hp.le_refl _|assumption|(refine Hp.le_trans ?_ (by assumption))));done))))) (cO g 35) (iZ g 35) (by omega) hs35 fun _ _ _ _=>⟨_,rfl,?_⟩)
  |(refine pT (hs.up (by((focus ((repeat (first|exact Hp.le_refl _|assumption|(refine Hp.le_trans ?_ (by assumption))));done))))) hm g.ok g.nl (IntSS.up (by assumption) (by((focus ((repeat (first|exact Hp.le_refl _|assumption|(refine Hp.le_trans ?_ (by assumption))));done))))) (mb 36 (c%2^ak m.nodes 36) g) (IntSS.up (by assumption) (by((focus ((repeat (first|exact Hp.le_refl _|assumption|(refine Hp.le_trans ?_ (by assumption))));done))))) (mb 35 (c/2^ak m.nodes 36) g) fun t h' l hn hpv hw=>⟨_,rfl,k t h' (by((focus ((repeat (first|exact Hp.le_refl _|assumption|(refine Hp.le_trans ?_ (by assumption))));done)))) hn hpv fun b o hb=>aF (by((focus ((repeat (first|exact Hp.le_refl _|assumption|(refine Hp.le_trans ?_ (by assumption))));done)))) (hw b o hb)⟩)
  |(refine And.intro ?_ ?_))
def l8T (m:ah) (bad:Bool) (c:Nat):Bool:=(aG m).hold c&&(!bad||(aG m).bad c)
def A6 (m:ah) (bad:Bool):Bd:=if ax m=0 then cQ ((aG m).n+(aG m).k:Nat) (l8T m bad)else js
theorem OD (m:ah):A6 m false=dL m:=by
 unfold A6 dL
 have:l8T m false=(aG m).hold:=by funext c;simp [l8T]
 rw [this]
theorem HI {h:Hp} {M:MSl} {m:ah} {bad:Bool} {R:Value->Hp->Prop} (hs:aO h M m) (hm:bW m)
  (k: ∀s h',h.le h'->Own (h'.sub h) s 3 (bD (A6 m bad).ns)->R (xd (A6 m bad) s) h'):rO #[aQ M, .bool bad] h R:=by
 apply MB
 refine uf_ ?_
 have K0:=Kn.nil h
 (with_reducible apply Kn.al);(assumption);(intro b8 h1 K1 l1 hb8)
 (with_reducible apply Kn.al);(assumption);(intro b10 h2 K2 l2 hb10)
 repeat' (refine kr_ ?_)
 refine aX (hs.mono K2.le) hm ⟨_,rfl,?_⟩
 unfold A6 at k
 refine ac (fun e=>?_) (fun e=>?_)
 ·rw [if_neg (hR e)]at k
  (((with_reducible apply Kn.wr);(assumption);((focus ((repeat first|exact .head|apply Upd.tail);done)))))
  ·exact Nat.le_refl _
  intro h3 K3 _
  refine⟨_,by rw [aq (K3.at (.head _))];rfl,⟨none,0,0⟩,by rw [aq (K3.at (.head _))];rfl,_,by rw [aq (K3.at (.head _))];rfl,?_⟩
  exact k ⟨none,0,0⟩ h3 K3.le (mL _ _)
 have hc:=fS e
 rw [if_pos hc]at k
 have g:=cr hc
 have hn8:=g.n8
 have hk5:=g.k5
 have hp13:=NN g
 clear K1 K0 l1 l2 hb8 hb10
 repeat' (refine kr_ ?_)
 refine gC (hs.mono K2.le) hm ⟨_,rfl,rfl,gC (hs.mono K2.le) hm ⟨_,rfl,?_⟩⟩
 have e1:(((ak m.nodes 36:Nat):Int)+((ak m.nodes 35:Nat):Int))=((ak m.nodes 36+ak m.nodes 35:Nat):Int):=by omega
 rw [e1,eM (by omega),cu (by omega),if_neg (by omega),bG (by omega)]
 refine⟨Int.natCast_nonneg _,Int.le_refl _,by omega,by omega,?_⟩
 (with_reducible apply Kn.al);(assumption);(intro b47 h3 K3 l3 hb47)
 rw [Int.toNat_natCast,Nat.mul_one,cn,lF (l8T m bad)]at K3
 rw [Int.toNat_natCast]
 refine av (2^(ak m.nodes 36+ak m.nodes 35)) (fun c vs h'=>vs= [.bool bad, .pointer (some ⟨b8,0,none⟩), .pointer (some ⟨b10,0,none⟩),I (ak m.nodes 36+ak m.nodes 35:Nat),(arr b47 (2^(ak m.nodes 36+ak m.nodes 35))).v,I c]/\
  Kn h h' [(b47, .inl ⟨dS (l8T m bad) c (2^(ak m.nodes 36+ak m.nodes 35)),2^(ak m.nodes 36+ak m.nodes 35),false⟩),(b10, .inl ⟨[I 0, .slice none 0 0,I 0],3,false⟩),(b8, .inl ⟨aw M,5,false⟩)]) ⟨rfl,K3⟩ ?_
 clear K3 K2 l3 hb47 h1 h2 h3
 rintro c _ h1 next hc' ⟨rfl,K1⟩ hnx
 refine⟨_,_,_,_,_,_,arr b47 _,_,rfl,?_⟩
 by_cases hlt:c<2^(ak m.nodes 36+ak m.nodes 35)
 rotate_left
 ·have hce:c=2^(ak m.nodes 36+ak m.nodes 35):=by omega
  subst hce
  refine aE (by simp) ?_
  have hT:de h1 (arr b47 (2^(ak m.nodes 36+ak m.nodes 35))) (2^(ak m.nodes 36+ak m.nodes 35)) (l8T m bad):=by
   refine⟨by dsimp only;omega,by simp, .inr ⟨b47,0,rfl,?_⟩⟩
   have:=ay (K1.at (.head _))
   rwa [yh]at this
  refine DF (by omega) hT fun s h2 l2 o2=>⟨_,_,_,_,rfl,?_⟩
  have K2:=K1.mono l2
  (((with_reducible apply Kn.wr);(assumption);((focus ((repeat first|exact .head|apply Upd.tail);done)))))
  ·exact Nat.le_refl _
  intro h3 K3 kp
  refine⟨_,by rw [aq (K3.at (.tail _ (.head _)))];rfl,_,by rw [aq (K3.at (.tail _ (.head _)))];rfl,_,by rw [aq (K3.at (.tail _ (.head _)))];rfl,?_⟩
  exact k s h3 K3.le (o2.mono (gG K1.le (K1.at (.tail _ (.head _))) kp))
 refine aM (by rw [decide_eq_true_eq];exact_mod_cast hlt) ?_
 refine ap (fun J=> ∀h',Kn h h' [(b47, .inl ⟨dS (l8T m bad) (c+1) (2^(ak m.nodes 36+ak m.nodes 35)),2^(ak m.nodes 36+ak m.nodes 35),false⟩),(b10, .inl ⟨[I 0, .slice none 0 0,I 0],3,false⟩),(b8, .inl ⟨aw M,5,false⟩)]->J h') ?_ (fun J hJ=>?_)
 ·intro h' K'
  rw [aC (by omega)]
  exact hnx hlt _ _ ⟨rfl,K'⟩
 repeat' (refine kr_ ?_)
 refine zU (hs.mono K1.le) hm g hlt fun t h2 l2 htn hpv _=>⟨t,rfl,?_⟩
 have K2:=K1.mono l2
 have a:BX m (ck m (c%2^ak m.nodes 36) (c/2^ak m.nodes 36)):=eD g _ _
 have hv1:(aG m).hold c=gY m (ck m (c%2^ak m.nodes 36) (c/2^ak m.nodes 36)):=rfl
 have hv2:(aG m).bad c=(qH m (ck m (c%2^ak m.nodes 36) (c/2^ak m.nodes 36))).isSome:=rfl
 have wr: ∀(x:Bool),x=l8T m bad c-> ∃(b o:Nat),some (Addr.mk b47 0 none)=some (Addr.mk b o none)/\(0:Int)<=(c:Int)/\(c:Int)<((2^(ak m.nodes 36+ak m.nodes 35):Nat):Int)/\ ∃(cs:List Value) (z:Nat),h2 b=some (.inl ⟨cs,z,false⟩)/\(o+Int.toNat (c:Int)*1)+1<=List.length cs/\
   cA (h2.row b (cz cs (o+Int.toNat (c:Int)*1) [.bool x]) z) fun h'=>J h':=by
  intro x hx
  refine⟨b47,0,rfl,by omega,by omega,?_⟩
  (((with_reducible apply Kn.wr);(assumption);((focus ((repeat first|exact .head|apply Upd.tail);done)))))
  ·rw [yp];omega
  intro h3 K3 _
  rw [hx,bJ,Nat.zero_add,Int.toNat_natCast,Nat.mul_one,yi hlt]at K3
  exact hJ h3 K3
 unfold l8T at wr
 rw [hv1,hv2]at wr
 repeat' (refine kr_ ?_)
 refine vn (hs.mono K2.le) g hpv a ⟨_,rfl,?_⟩
 refine ac (fun e1=>?_) (fun e1=>?_)
 ·refine ac (fun e2=>?_) (fun e2=>?_)
  ·exact wr true (by rw [e1,e2];rfl)
  ·repeat' (refine kr_ ?_)
   refine AK (hs.mono K2.le) g hpv a ⟨_,rfl,?_⟩
   rw [Ar]
   exact wr _ (by rw [e1,e2];rfl)
 ·exact wr false (by rw [e1];rfl)
theorem tE {h:Hp} {M:MSl} {m:ah} {R:Value->Hp->Prop} (hs:aO h M m) (hm:bW m)
  (k: ∀s h',h.le h'->Own (h'.sub h) s 3 (bD (dL m).ns)->R (xd (dL m) s) h'):jG #[aQ M] h R:=by
 apply Gm
 refine uf_ ?_
 rw [<-OD]at k
 have K0:=Kn.nil h
 (with_reducible apply Kn.al);(assumption);(intro b7 h1 K1 l1 hb7)
 (with_reducible apply Kn.al);(assumption);(intro b9 h2 K2 l2 hb9)
 repeat' (refine kr_ ?_)
 refine HI (hs.mono K2.le) hm fun s h3 l3 o3=>⟨_,_,_,_,rfl,?_⟩
 have K3:=K2.mono l3
 (((with_reducible apply Kn.wr);(assumption);((focus ((repeat first|exact .head|apply Upd.tail);done)))))
 ·exact Nat.le_refl _
 intro h4 K4 kp
 refine⟨_,by rw [aq (K4.at (.head _))];rfl,_,by rw [aq (K4.at (.head _))];rfl,_,by rw [aq (K4.at (.head _))];rfl,?_⟩
 exact k s h4 K4.le (o3.mono (gG K2.le (K2.at (.head _)) kp))
section
variable {g h h':Hp} {L L' A B X:List (Nat×Blk)}
theorem Kn.app (K:Kn g h L) (l:h.le h') (n: ∀e∈X,h e.1=none) (f: ∀e∈X,h' e.1=some e.2) (nd:(X.map Prod.fst).Nodup):Kn g h' (L++X):=by
 refine⟨Hp.le_trans K.le l,fun e he=>?_,fun e he=>?_,?_⟩
 ·rcases List.mem_append.1 he with he|he
  ·exact l _ _ (K.mem e he)
  ·exact f e he
 ·rcases List.mem_append.1 he with he|he
  ·exact K.new e he
  ·exact aF K.le (n e he)
 ·rw [List.map_append,List.nodup_append]
  refine⟨K.nd,nd,fun a ha b hb hab=>?_⟩
  obtain⟨e,he,rfl⟩:=List.mem_map.1 ha
  obtain⟨e',he',rfl⟩:=List.mem_map.1 hb
  have h1:=K.mem e he
  have h2:=n e' he'
  rw [hab,h2]at h1;cases h1
theorem Kn.off (K:Kn g h L) {b:Nat} {x y:Blk} (u:Upd L b x y L') (l:(h.off b).le h') (f:h' b=some y):Kn g h' L':=by
 refine⟨?_,fun e he=>?_,fun e he=>?_,by rw [u.keys];exact K.nd⟩
 ·exact Hp.le_trans (vQ (K.new (b,x) u.mem) K.le) l
 ·rcases u.out K.nd e he with rfl|⟨h1,h2⟩
  ·exact f
  ·refine l _ _ ?_
   simp only [Hp.off,Hp.set];rw [if_neg h2];exact K.mem e h1
 ·rcases u.out K.nd e he with rfl|⟨h1,h2⟩
  ·exact K.new (b,x) u.mem
  ·exact K.new e h1
def pm (X:List (Nat×Blk)) (s:Sl) (sz:Nat) (cs:List Value):Prop:=
 cs.length=s.n*sz/\s.n<=9223372036854775807/\((s.n=0/\X= [])\/(s.n≠0/\ ∃b z,s.a=some ⟨b,0,none⟩/\X= [(b, .inl ⟨cs,z,false⟩)]))
theorem pm.own {s:Sl} {sz:Nat} {cs:List Value} (o:pm X s sz cs) (K:Kn g h (L++X)):Own h s sz cs:=by
 refine⟨o.1,o.2.1,?_⟩
 rcases o.2.2 with ⟨h0,_⟩|⟨_,b,z,ha,rfl⟩
 ·exact .inl h0
 ·exact .inr ⟨b,z,ha,K.at (by simp)⟩
end
theorem list9 {cs:List Value} (h:cs.length=9): ∃a b c d e f g i j,cs= [a,b,c,d,e,f,g,i,j]:=by
 match cs,h with
 | [a,b,c,d,e,f,g,i,j],_=>exact⟨a,b,c,d,e,f,g,i,j,rfl⟩
theorem list2 {cs:List Value} (h:cs.length=2): ∃a b,cs= [a,b]:=by
 match cs,h with
 | [a,b],_=>exact⟨a,b,rfl⟩
theorem Got.flat {P:Program} {W:World} {t e:TypeId} {v:Value} {α:Type} {f:α->List Value} {m:Nat} {p:α->Prop} (hf: ∀x,(f x).length=m) (hpos:0<m) (ht:P.underlying t=some (.slice e)) (hsz:P.cellsOf e=m)
  (hg: ∀ds,Got P W e ds-> ∃x,ds=f x/\p x) (g:Got P W t [v]): ∃(s:Sl) (l:List α),v=s.v/\s.n<=s.c/\SlC (hW W) s m (l.flatMap f)/\ ∀x∈l,p x:=by
 obtain⟨s,hs,hm,hlc,h⟩:=Got.slice ht hsz hpos g
 simp only [List.cons.injEq,and_true]at hs
 rcases h with h|⟨b,o,ha,h⟩
 ·exact⟨s, [],hs,hlc,⟨hm,by simp [h], .inl h⟩,by simp⟩
 obtain⟨xs,hl,hx⟩:=FG (p:=fun i (x:α)=>(∀(j:Nat) v,(f x)[j]?=some v->Hp.cell (hW W) b (o+i*m+j)=some v)/\p x) s.n fun i hi=>by
  obtain⟨ds,hd,hgd,hc⟩:=h i hi
  obtain⟨x,rfl,hp⟩:=hg ds hgd
  exact⟨x,hc,hp⟩
 refine⟨s,xs,hs,hlc,⟨hm,by rw [eV hf,hl], .inr ⟨b,o,ha,?_⟩⟩,?_⟩
 ·intro i v hv
  have hi:i<(xs.flatMap f).length:=(List.getElem?_eq_some_iff.1 hv).1
  rw [eV hf]at hi
  have hq:i/m<xs.length:=by rw [Nat.div_lt_iff_lt_mul hpos];exact hi
  have hr:i%m<m:=Nat.mod_lt _ hpos
  have he:i=i/m*m+i%m:=by rw [Nat.mul_comm];exact(Nat.div_add_mod _ _).symm
  rw [he,si hf xs (i/m) xs[i/m] (i%m) (List.getElem?_eq_getElem hq) hr]at hv
  have:=(hx (i/m) hq).1 _ _ hv
  rw [he,<-Nat.add_assoc];exact this
 ·intro x hxm
  obtain⟨i,hi,rfl⟩:=List.getElem_of_mem hxm
  exact(hx i hi).2
def tb (n:Nat) (T:Nat->Bool):List Value:=(List.range n).map fun i=> .bool (T i)
def BA (h:Hp) (s:Sl) (n m:Nat) (L:Nat->Nat->Bool):Prop:= ∃ts:List Sl,ts.length=m/\SlC h s 1 (ts.map Sl.v)/\ ∀(j:Nat) (t:Sl),ts[j]?=some t->de h t n (L j)
theorem BA.mono {h h':Hp} {s:Sl} {n m:Nat} {L:Nat->Nat->Bool} (l:h.le h') (e:BA h s n m L):BA h' s n m L:=by
 obtain⟨ts,e1,e2,e3⟩:=e
 exact⟨ts,e1,e2.mono l,fun j t ht=>(e3 j t ht).mono l⟩
theorem BA.len {h:Hp} {s:Sl} {n m:Nat} {L:Nat->Nat->Bool} (e:BA h s n m L):s.n=m:=by
 obtain⟨ts,e1,e2,_⟩:=e
 have:=e2.2.1
 simp at this;omega
theorem BA.get {h:Hp} {s:Sl} {n m i:Nat} {L:Nat->Nat->Bool} (e:BA h s n m L) (hi:i<m):
  ∃b o t,s.a=some (Addr.mk b o none)/\(i:Int)<(s.n:Int)/\Hp.cell h b (o+Int.toNat (i:Int)*1)=some (Sl.v t)/\de h t n (L i):=by
 have hl:=e.len
 obtain⟨ts,e1,e2,e3⟩:=e
 obtain⟨t,ht⟩: ∃t,ts[i]?=some t:=⟨_,List.getElem?_eq_getElem (by omega)⟩
 obtain⟨b,o,ha,hc⟩:=SlC.get e2 (by omega)
 refine⟨b,o,t,ha,by omega,?_,e3 i t ht⟩
 rw [Int.toNat_natCast,Nat.mul_one]
 exact hc i _ (by simp [ht])
end Go.Lead
