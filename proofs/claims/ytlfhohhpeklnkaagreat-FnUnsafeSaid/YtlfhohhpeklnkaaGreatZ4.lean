/- What functions of the program and of the reference come to, walked one by one, and plain laws about it: part 5. No condition is added to the statement. -/
import Derived.Test.YtlfhohhpeklnkaaGreatZ3
namespace Go.Lead
open Go
set_option linter.unusedSimpArgs false
set_option linter.unusedVariables false
set_option maxRecDepth 100000
set_option maxHeartbeats 1000000
theorem tm {c:Prop} [Decidable c] {x t:SortP} (h:(if c then some x else none)=some t):c/\x=t:=by
 by_cases e:c
 ·rw [if_pos e]at h;exact⟨e,Option.some.inj h⟩
 ·rw [if_neg e]at h;cases h
theorem LZ {n:NodeP} {a b c t:SortP} (ha:bR a=true) (hb:2<=ar n.kind->bR b=true) (h:di n a b c=some t):bR t=true:=by
 obtain⟨⟨a1,a2⟩,a3,a4⟩:=lp ha
 unfold di at h
 by_cases e33:n.kind=33
 ·rw [if_pos e33]at h
  obtain⟨_,rfl⟩:=tm h
  exact hb (by rw [e33];decide)
 rw [if_neg e33]at h
 by_cases e37:n.kind=37
 ·rw [if_pos e37]at h
  obtain⟨_,rfl⟩:=tm h
  exact oZ a3 a4
 rw [if_neg e37]at h
 by_cases e38:n.kind=38
 ·rw [if_pos e38]at h
  obtain⟨_,rfl⟩:=tm h
  exact ha
 rw [if_neg e38]at h
 by_cases e21:n.kind=21
 ·rw [if_pos e21]at h
  obtain⟨_,rfl⟩:=tm h
  exact oZ (by omega) (by omega)
 rw [if_neg e21]at h
 by_cases ei:0<a.idx\/(ar n.kind=2/\0<b.idx)
 ·rw [if_pos ei]at h;cases h
 rw [if_neg ei]at h
 by_cases e29:n.kind=29
 ·rw [if_pos e29]at h
  obtain⟨e,rfl⟩:=tm h
  have:=lp (hb (by rw [e29];decide))
  exact oZ (by omega) (by omega)
 rw [if_neg e29]at h
 by_cases e30:n.kind=30
 ·rw [if_pos e30]at h
  obtain⟨e,rfl⟩:=tm h
  exact oZ (by omega) (by omega)
 rw [if_neg e30]at h
 by_cases e31:n.kind=31\/n.kind=32
 ·rw [if_pos e31]at h
  obtain⟨e,rfl⟩:=tm h
  exact oZ (by omega) (by omega)
 rw [if_neg e31]at h
 have hw: ∀q:Prop, [Decidable q]->bR (cE (if q then a.wid else 1))=true:=fun q _=>by
  by_cases e:q
  ·rw [if_pos e];exact oZ a3 a4
  ·rw [if_neg e];exact oZ (by omega) (by omega)
 by_cases e5:n.kind<=5
 ·rw [if_pos e5]at h
  obtain rfl:=Option.some.inj h
  exact hw _
 rw [if_neg e5]at h
 obtain⟨_,rfl⟩:=tm h
 exact hw _
theorem I5 {l:List NodeP} {n:NodeP} {t:SortP} (hk:ar n.kind≠0) (h:cW l n=some t):bR t=true:=by
 unfold cW at h
 by_cases e:l.length<=60/\fv l.length n=true
 ·rw [if_pos e,if_neg hk]at h
  by_cases e2:(bR (aA l n.a)&&((decide (ar n.kind<2)||bR (aA l n.b))&&(decide (ar n.kind<3)||bR (aA l n.c))))=true
  ·rw [if_pos e2]at h
   simp only [Bool.and_eq_true,Bool.or_eq_true,decide_eq_true_eq]at e2
   exact LZ e2.1 (fun h2=>e2.2.1.resolve_left (by omega)) h
  ·rw [if_neg e2]at h;cases h
 ·rw [if_neg e]at h;cases h
set_option maxHeartbeats 2000000 in
theorem Pl {g h:Hp} {A X:List (Nat×Blk)} {B p N:Nat} {s:Sl} {bs:List Nat} {M:MSl} {m:ah} {R:Value->Hp->Prop} (K:Kn g h ((B,rdC s p)::(A++X))) (hb:ByteS g s bs) (o:MG X M m) (d:DM m N) (hN:N<=1000)
  (hne:0<m.nodes.length) (hp:p<=800000)
  (k: ∀h' p' X' M' m',Kn g h' ((B,rdC s p')::(A++X'))->MG X' M' m'->DM m' (N+3)->0<m'.nodes.length->p'<=p+20->R (aQ M') h'):
  nX #[.pointer (some ⟨B,0,none⟩),aQ M] h R:=by
 apply BD
 refine uf_ ?_
 have hl:=o.lens
 have hsm:=d.small (by omega)
 have hdn:=d.nodes
 refine Kn.al K fun b8 h1 K1 l1 hb8=>?_
 refine Kn.al K1 fun b10 h2 K2 l2 hb10=>?_
 clear K K1 l1 l2 hb8 hb10
 refine kp_ ?_
 intro x15 h3 K3 hx15 _
 refine⟨_,rfl,?_⟩
 replace hx15:x15<33:=by have:=hx15 (by omega);omega
 refine Kn.al K3 fun b16 h4 K4 l4 hb16=>?_
 refine kw_ ?_
 intro h5 K5 kpz
 clear kpz
 rw [show W (1+(x15:Int))=((1+x15:Nat):Int) by rw [bU (by omega) (by omega)];omega]at K5
 have K5':Kn g h5 ((b16, .inl ⟨nodeCells ⟨(1+x15:Nat),0,0,0,0,0,⟨0,0⟩,⟨#[]⟩⟩,9,false⟩)::(b10, .inl ⟨df,5,false⟩)::(b8, .inl ⟨aw M,5,false⟩)::(B,rdC s (p+1))::(A++X)):=K5
 clear K5 K4 K3 K2 l4 hb16 h4 h3 h2 h1 h
 refine kp_ ?_
 intro x24 h6 K6 _ _
 refine⟨_,rfl,?_⟩
 clear K5' h5
 have hk0:ar ((1+x15:Nat):Int)≠0:=by
  unfold ar
  have h1: ¬(34<=((1+x15:Nat):Int)/\((1+x15:Nat):Int)<=36):=by omega
  rw [if_neg h1]
  split
  ·decide
  ·split
   ·decide
   ·split<;>decide
 refine ap (fun J=> ∀(kd:Int) h5 q,ar kd≠0->q<=p+3->Kn g h5 ((b16, .inl ⟨nodeCells ⟨kd,0,0,0,0,0,⟨0,0⟩,⟨#[]⟩⟩,9,false⟩)::(b10, .inl ⟨df,5,false⟩)::(b8, .inl ⟨aw M,5,false⟩)::(B,rdC s q)::(A++X))->J h5) (fun kd h5 q hkd hq K5=>?_) (fun J hJ=>?_)
 rotate_left
 ·refine ac (fun e=>?_) (fun e=>hJ _ h6 _ hk0 (by omega) K6)
  refine Kn.al K6 fun b27 h7 K7 l7 hb27=>?_
  refine kp_ ?_
  intro x31 h8 K8 hx31 _
  refine⟨_,rfl,?_⟩
  replace hx31:x31<2:=by have:=hx31 (by omega);omega
  clear K7 K6
  refine⟨b27,0,rfl,by omega,by omega,?_⟩
  obtain⟨kd,hkd,hk1⟩: ∃kd:Int,([I 37,I 38]:List Value)[x31]?=some (I kd)/\ar kd≠0:=by
   rcases x31 with _|_|i
   ·exact⟨37,rfl,by decide⟩
   ·exact⟨38,rfl,by decide⟩
   ·omega
  refine⟨kd,by rw [aq (K8.at (.head _)),Int.toNat_natCast,Nat.zero_add,Nat.mul_one];exact hkd,?_⟩
  refine kw_ ?_
  intro h9 K9 kpz
  clear kpz
  exact hJ kd h9 _ hk1 (by omega) K9.tl
 clear K6 hk0 hx15 h6
 (refine kr_ ?_)
 refine kp_ ?_
 intro a h6 K6 ha _
 refine⟨_,rfl,?_⟩
 replace ha:a<m.nodes.length:=by have:=ha (by omega);omega
 clear K5
 refine kw_ ?_
 intro h7 K7 kpz
 clear kpz
 have K7':Kn g h7 ((b16, .inl ⟨nodeCells ⟨kd,a,0,0,0,0,⟨0,0⟩,⟨#[]⟩⟩,9,false⟩)::(b10, .inl ⟨df,5,false⟩)::(b8, .inl ⟨aw M,5,false⟩)::(B,rdC s (q+1))::(A++X)):=K7
 clear K7 K6 h5 h6
 repeat' (refine kr_ ?_)
 obtain⟨na,hna⟩: ∃n,m.nodes[a]?=some n:=⟨_,List.getElem?_eq_getElem ha⟩
 have hs:=o.modelS (A:=_::_::_::_::A) hsm K7'
 obtain⟨b,oo,ha',e0,e1,e2,e3,e4,e5,e6,e7,e8⟩:=hs.nodes.at hna
 refine⟨b,oo,ha',(by first|omega|(dsimp only;omega)),(by first|omega|(dsimp only;omega)),_,by rw [Int.toNat_natCast];exact e6,_,by rw [Int.toNat_natCast];exact e7,?_⟩
 clear e0 e1 e2 e3 e4 e5 e6 e7 e8 ha' hs
 refine Kn.al K7' fun b54 h8 K8 l8 hb54=>?_
 refine kw_ ?_
 intro h9 K9 kpz
 clear kpz
 have K9':Kn g h9 ((b54, .inl ⟨[I na.sort.idx,I na.sort.wid],2,false⟩)::(b16, .inl ⟨nodeCells ⟨kd,a,0,0,0,0,⟨0,0⟩,⟨#[]⟩⟩,9,false⟩)::(b10, .inl ⟨df,5,false⟩)::(b8, .inl ⟨aw M,5,false⟩)::(B,rdC s (q+1))::(A++X)):=K9
 clear K9 K8 K7' l8 hb54 h8 h7
 have hst:=rW d hna
 obtain⟨⟨w1,w2⟩,w3,w4⟩:=lp hst
 refine ap (fun J=> ∀h5 q' X' M' m' (nd:NodeP) (z:Blk),nd.kind=kd->nd.name.size=0->MG X' M' m'->DM m' (N+2)->0<m'.nodes.length->q'<=q+10->Kn g h5 ((b54,z)::(b16, .inl ⟨nodeCells nd,9,false⟩)::(b10, .inl ⟨df,5,false⟩)::(b8, .inl ⟨aw M',5,false⟩)::(B,rdC s q')::(A++X'))->J b8 0 b10 0 b16 0 h5)
  (fun h5 q' X' M' m' nd z hkd2 hnm o' d' hpos hq' K5=>?_) (fun J hJ=>?_)
 ·clear K9'
  have hl':=o'.lens
  have hdn':=d'.nodes
  have hsm':=d'.small (by omega)
  have hs:=o'.modelS (A:=_::_::_::_::_::A) hsm' K5
  repeat' (refine kr_ ?_)
  refine nc (n:=nd) hs.nodes (by omega) ?_
  cases hns:cW m'.nodes nd with
  |none=>
   refine⟨_,_,_,rfl,?_⟩
   refine Kn.al K5 fun b327 h6 K6 l6 hb327=>?_
   clear K5
   refine kw_ ?_
   intro h7 K7 kpz
   clear kpz
   clear K6
   rw [ey]
   refine aM rfl (aM rfl ?_)
   repeat' (refine kr_ ?_)
   refine DN K7 (by((focus ((repeat first|exact .head|apply Upd.tail);done)))) fun h8 K8=>?_
   exact k h8 q' X' M' m' K8.tl.tl.tl.tl.tl o' (d'.more (by omega)) hpos (by omega)
  |some t=>
   refine⟨_,_,_,rfl,?_⟩
   have htok:=I5 (by rw [hkd2];exact hkd) hns
   refine Kn.al K5 fun b327 h6 K6 l6 hb327=>?_
   clear K5
   refine kw_ ?_
   intro h7 K7 kpz
   clear kpz
   have K7':Kn g h7 ((b327, .inl ⟨[I t.idx,I t.wid],2,false⟩)::(b54,z)::(b16, .inl ⟨nodeCells nd,9,false⟩)::(b10, .inl ⟨df,5,false⟩)::(b8, .inl ⟨aw M',5,false⟩)::(B,rdC s q')::(A++X')):=K7
   clear K6 K7
   refine ap (fun J=> ∀c,J c) (fun c=>?_) (fun J hJ=>?_)
   rotate_left
   ·refine aE rfl ?_
    (refine kr_ ?_)
    refine ac (fun _=>hJ _) (fun _=>?_)
    (refine kr_ ?_)
    exact hJ _
   cases c with
   |true=>
    refine aM rfl ?_
    repeat' (refine kr_ ?_)
    refine DN K7' (by((focus ((repeat first|exact .head|apply Upd.tail);done)))) fun h8 K8=>?_
    exact k h8 q' X' M' m' K8.tl.tl.tl.tl.tl o' (d'.more (by omega)) hpos (by omega)
   |false=>
    refine aE rfl ?_
    repeat' (refine kr_ ?_)
    refine kw_ ?_
    intro h8 K8 kpz
    clear kpz
    have K8':Kn g h8 ((b327, .inl ⟨[I t.idx,I t.wid],2,false⟩)::(b54,z)::(b16, .inl ⟨nodeCells {nd with sort:=t},9,false⟩)::(b10, .inl ⟨df,5,false⟩)::(b8, .inl ⟨aw M',5,false⟩)::(B,rdC s q')::(A++X')):=K8
    clear K8 K7'
    repeat' (refine kr_ ?_)
    refine Kn.al K8' fun b368 h9 K9 l9 hb368=>?_
    refine ll (H:=_::_::_::_::_::_::A) (nd:={nd with sort:=t}) o' K9 (by omega) (.tail _ (.tail _ (.tail _ (.tail _ (.head _))))) fun s' X9 h10 o9 KF=>?_
    have K10:=KF _ (by((focus ((repeat first|exact .head|apply Upd.tail);done))))
    simp only [List.cons_append]at K10
    clear KF K9 K8'
    repeat' (refine kr_ ?_)
    refine DN (M:={M' with no:=s'}) K10 (by((focus ((repeat first|exact .head|apply Upd.tail);done)))) fun h11 K11=>?_
    exact k h11 q' X9 _ _ K11.tl.tl.tl.tl.tl o9 ((d'.addN htok (by show nd.name.size<=100;omega)).more (by omega)) (by simp) (by omega)
 (refine kr_ ?_)
 refine ac (fun e=>?_) (fun e=>?_)
 ·repeat' (refine kr_ ?_)
  refine ce ⟨_,_,rfl,?_⟩
  repeat' (refine kr_ ?_)
  refine uV (p:=q+1) (A:=(b54, .inl ⟨[I na.sort.idx,I na.sort.wid],2,false⟩)::(b16, .inl ⟨nodeCells ⟨kd,a,0,0,0,0,⟨0,0⟩,⟨#[]⟩⟩,9,false⟩)::(b10, .inl ⟨df,5,false⟩)::(b8, .inl ⟨aw M,5,false⟩)::A) (st:=⟨0,1⟩)
   (K9'.perm (zZ _ _ _ _ _ _)) hb o d (by omega) hne (by omega) rfl fun h5 q5 X5 M5 m5 i5 K5 o5 d5 hi5 hl5 hq5=>⟨_,_,_,_,_,_,rfl,?_⟩
  replace K5:=K5.perm (zZ _ _ _ _ _ _).symm
  clear K9'
  refine j6 (M':=M5) K5 (by((focus ((repeat first|exact .head|apply Upd.tail);done)))) rfl fun h6 K6=>?_
  clear K5
  refine kw_ ?_
  intro h7 K7 kpz
  clear kpz
  have K7':Kn g h7 ((b54, .inl ⟨[I na.sort.idx,I na.sort.wid],2,false⟩)::(b16, .inl ⟨nodeCells ⟨kd,i5,0,0,0,0,⟨0,0⟩,⟨#[]⟩⟩,9,false⟩)::(b10, .inl ⟨df,5,false⟩)::(b8, .inl ⟨aw M5,5,false⟩)::(B,rdC s q5)::(A++X5)):=K7
  clear K6 K7
  have hl5':=o5.lens
  have hdn5:=d5.nodes
  (refine kr_ ?_)
  refine kp_ ?_
  intro x90 h8 K8 hx90 _
  refine⟨_,rfl,?_⟩
  replace hx90:x90<m5.nodes.length:=by have:=hx90 (by omega);omega
  clear K7'
  refine kw_ ?_
  intro h9 K9 kpz
  clear kpz
  have K9':Kn g h9 ((b54, .inl ⟨[I na.sort.idx,I na.sort.wid],2,false⟩)::(b16, .inl ⟨nodeCells ⟨kd,i5,x90,0,0,0,⟨0,0⟩,⟨#[]⟩⟩,9,false⟩)::(b10, .inl ⟨df,5,false⟩)::(b8, .inl ⟨aw M5,5,false⟩)::(B,rdC s (q5+1))::(A++X5)):=K9
  clear K8 K9
  repeat' (refine kr_ ?_)
  obtain⟨nb,hnb⟩: ∃n,m5.nodes[x90]?=some n:=⟨_,List.getElem?_eq_getElem hx90⟩
  have hs:=o5.modelS (A:=_::_::_::_::_::A) (d5.small (by omega)) K9'
  obtain⟨b,oo,ha',e0,e1,e2,e3,e4,e5,e6,e7,e8⟩:=hs.nodes.at hnb
  refine⟨b,oo,ha',(by first|omega|(dsimp only;omega)),(by first|omega|(dsimp only;omega)),_,by rw [Int.toNat_natCast];exact e6,_,by rw [Int.toNat_natCast];exact e7,?_⟩
  refine uV (p:=q5+1) (A:=(b54, .inl ⟨[I na.sort.idx,I na.sort.wid],2,false⟩)::(b16, .inl ⟨nodeCells ⟨kd,i5,x90,0,0,0,⟨0,0⟩,⟨#[]⟩⟩,9,false⟩)::(b10, .inl ⟨df,5,false⟩)::(b8, .inl ⟨aw M5,5,false⟩)::A) (st:=nb.sort)
   (K9'.perm (zZ _ _ _ _ _ _)) hb o5 d5 (by omega) (by omega) (by omega) (rW d5 hnb) fun h5 q6 X6 M6 m6 i6 K5 o6 d6 hi6 hl6 hq6=>⟨_,_,_,_,_,_,rfl,?_⟩
  replace K5:=K5.perm (zZ _ _ _ _ _ _).symm
  clear K9' hs e0 e1 e2 e3 e4 e5 e6 e7 e8
  refine j6 (M':=M6) K5 (by((focus ((repeat first|exact .head|apply Upd.tail);done)))) rfl fun h10 K10=>?_
  clear K5
  refine kw_ ?_
  intro h11 K11 kpz
  clear kpz
  exact hJ h11 q6 X6 M6 m6 ⟨kd,i5,x90,i6,0,0,⟨0,0⟩,⟨#[]⟩⟩ _ rfl rfl o6 d6 (by omega) (by omega) K11
 have hnl:=hdn
 refine ap (fun J=> ∀c,J c) (fun c=>?_) (fun J hJ=>?_)
 rotate_left
 ·(refine kr_ ?_)
  refine ac (fun _=>hJ _) (fun _=>?_)
  (refine kr_ ?_)
  exact hJ _
 refine ac (fun _=>?_) (fun _=>?_)
 ·--arrays
  refine av m.nodes.length (fun i vs h'=> ∃a:Nat,vs= [.pointer (some ⟨B,0,none⟩), .pointer (some ⟨b8,0,none⟩), .pointer (some ⟨b10,0,none⟩), .pointer (some ⟨b16,0,none⟩), .pointer (some ⟨b54,0,none⟩),I i]/\a<m.nodes.length/\
   Kn g h' ((b54, .inl ⟨[I na.sort.idx,I na.sort.wid],2,false⟩)::(b16, .inl ⟨nodeCells ⟨kd,a,0,0,0,0,⟨0,0⟩,⟨#[]⟩⟩,9,false⟩)::(b10, .inl ⟨df,5,false⟩)::(b8, .inl ⟨aw M,5,false⟩)::(B,rdC s (q+1))::(A++X))) ⟨a,rfl,ha,K9'⟩ ?_
  rintro i _ h4 nxt hi ⟨a',rfl,ha',K4⟩ hnx
  refine⟨_,b8,0,b10,0,b16,0,b54,0,_,rfl,?_⟩
  have hs:=o.modelS (A:=_::_::_::_::_::A) hsm K4
  clear K9'
  (refine kr_ ?_)
  by_cases hlt:i<m.nodes.length
  ·refine aM (by rw [decide_eq_true_eq];omega) ?_
   refine ap (fun J=> ∀h5 (c:Nat),c<m.nodes.length->Kn g h5 ((b54, .inl ⟨[I na.sort.idx,I na.sort.wid],2,false⟩)::(b16, .inl ⟨nodeCells ⟨kd,c,0,0,0,0,⟨0,0⟩,⟨#[]⟩⟩,9,false⟩)::(b10, .inl ⟨df,5,false⟩)::(b8, .inl ⟨aw M,5,false⟩)::(B,rdC s (q+1))::(A++X))->J h5) (fun h5 c hc K5=>?_) (fun J hJ=>?_)
   ·rw [aC (by omega)]
    exact hnx hlt _ _ ⟨c,rfl,hc,K5⟩
   ·(refine kr_ ?_)
    obtain⟨ni,hni⟩: ∃n,m.nodes[i]?=some n:=⟨_,List.getElem?_eq_getElem hlt⟩
    obtain⟨b,oo,ha2,e0,e1,e2,e3,e4,e5,e6,e7,e8⟩:=hs.nodes.at hni
    refine⟨b,oo,ha2,(by first|omega|(dsimp only;omega)),(by first|omega|(dsimp only;omega)),_,by rw [Int.toNat_natCast];exact e6,?_⟩
    clear e0 e1 e2 e3 e4 e5 e6 e7 e8
    refine ac (fun e=>?_) (fun e=>hJ h4 a' ha' K4)
    refine kw_ ?_
    intro h5 K5 kpz
    clear kpz
    exact hJ h5 i hlt K5
  refine aE (by rw [decide_eq_false_iff_not];omega) ?_
  clear hnx
  repeat' (refine kr_ ?_)
  obtain⟨nb,hnb⟩: ∃n,m.nodes[a']?=some n:=⟨_,List.getElem?_eq_getElem ha'⟩
  obtain⟨b,oo,ha2,e0,e1,e2,e3,e4,e5,e6,e7,e8⟩:=hs.nodes.at hnb
  refine⟨b,oo,ha2,(by first|omega|(dsimp only;omega)),(by first|omega|(dsimp only;omega)),_,by rw [Int.toNat_natCast];exact e6,_,by rw [Int.toNat_natCast];exact e7,?_⟩
  clear e0 e1 e2 e3 e4 e5 e6 e7 e8 hs
  obtain⟨⟨v1,v2⟩,v3,v4⟩:=lp (rW d hnb)
  refine kw_ ?_
  intro h5 K5 kpz
  clear kpz
  have K5':Kn g h5 ((b54, .inl ⟨[I nb.sort.idx,I nb.sort.wid],2,false⟩)::(b16, .inl ⟨nodeCells ⟨kd,a',0,0,0,0,⟨0,0⟩,⟨#[]⟩⟩,9,false⟩)::(b10, .inl ⟨df,5,false⟩)::(b8, .inl ⟨aw M,5,false⟩)::(B,rdC s (q+1))::(A++X)):=K5
  clear K5 K4
  (refine kr_ ?_)
  refine ac (fun e=>?_) (fun e=>?_)
  ·repeat' (refine kr_ ?_)
   refine DN K5' (by((focus ((repeat first|exact .head|apply Upd.tail);done)))) fun h8 K8=>?_
   exact k h8 (q+1) X M m K8.tl.tl.tl.tl o (d.more (by omega)) hne (by omega)
  have hi1:nb.sort.idx≠0:=fun q=>by rw [q]at e;simp at e
  repeat' (refine kr_ ?_)
  refine ce ⟨_,_,rfl,?_⟩
  repeat' (refine kr_ ?_)
  refine uV (p:=q+1) (A:=(b54, .inl ⟨[I nb.sort.idx,I nb.sort.wid],2,false⟩)::(b16, .inl ⟨nodeCells ⟨kd,a',0,0,0,0,⟨0,0⟩,⟨#[]⟩⟩,9,false⟩)::(b10, .inl ⟨df,5,false⟩)::(b8, .inl ⟨aw M,5,false⟩)::A) (st:=⟨0,nb.sort.idx⟩)
   (K5'.perm (zZ _ _ _ _ _ _)) hb o d (by omega) hne (by omega) (xW (by omega) (by omega) (by omega) (by omega)) fun h6 q6 X6 M6 m6 i6 K6 o6 d6 hi6 hl6 hq6=>⟨_,_,_,_,_,_,rfl,?_⟩
  replace K6:=K6.perm (zZ _ _ _ _ _ _).symm
  clear K5'
  refine j6 (M':=M6) K6 (by((focus ((repeat first|exact .head|apply Upd.tail);done)))) rfl fun h7 K7=>?_
  clear K6
  refine kw_ ?_
  intro h8 K8 kpz
  clear kpz
  have K8':Kn g h8 ((b54, .inl ⟨[I nb.sort.idx,I nb.sort.wid],2,false⟩)::(b16, .inl ⟨nodeCells ⟨kd,a',i6,0,0,0,⟨0,0⟩,⟨#[]⟩⟩,9,false⟩)::(b10, .inl ⟨df,5,false⟩)::(b8, .inl ⟨aw M6,5,false⟩)::(B,rdC s q6)::(A++X6)):=K8
  clear K8 K7
  (refine kr_ ?_)
  refine ac (fun e=>?_) (fun e=>?_)
  ·repeat' (refine kr_ ?_)
   refine ce ⟨_,_,rfl,?_⟩
   repeat' (refine kr_ ?_)
   refine uV (p:=q6) (A:=(b54, .inl ⟨[I nb.sort.idx,I nb.sort.wid],2,false⟩)::(b16, .inl ⟨nodeCells ⟨kd,a',i6,0,0,0,⟨0,0⟩,⟨#[]⟩⟩,9,false⟩)::(b10, .inl ⟨df,5,false⟩)::(b8, .inl ⟨aw M6,5,false⟩)::A) (st:=⟨0,nb.sort.wid⟩)
    (K8'.perm (zZ _ _ _ _ _ _)) hb o6 d6 (by omega) (by omega) (by omega) (xW (by omega) (by omega) (by omega) (by omega)) fun h9 q9 X9 M9 m9 i9 K9 o9 d9 hi9 hl9 hq9=>⟨_,_,_,_,_,_,rfl,?_⟩
   replace K9:=K9.perm (zZ _ _ _ _ _ _).symm
   clear K8'
   refine j6 (M':=M9) K9 (by((focus ((repeat first|exact .head|apply Upd.tail);done)))) rfl fun h10 K10=>?_
   clear K9
   refine kw_ ?_
   intro h11 K11 kpz
   clear kpz
   exact hJ h11 q9 X9 M9 m9 ⟨kd,a',i6,i9,0,0,⟨0,0⟩,⟨#[]⟩⟩ _ rfl rfl o9 d9 (by omega) (by omega) K11
  ·exact hJ h8 q6 X6 M6 m6 ⟨kd,a',i6,0,0,0,⟨0,0⟩,⟨#[]⟩⟩ _ rfl rfl o6 (d6.more (by omega)) (by omega) (by omega) K8'
 (refine kr_ ?_)
 refine ac (fun _=>?_) (fun _=>?_)
 ·(refine kr_ ?_)
  refine kp_ ?_
  intro y h10 K10 _ _
  refine⟨_,rfl,?_⟩
  clear K9'
  refine kw_ ?_
  intro h11 K11 kpz
  clear kpz
  exact hJ h11 _ X M m ⟨kd,a,y,0,0,0,⟨0,0⟩,⟨#[]⟩⟩ _ rfl rfl o (d.more (by omega)) hne (by omega) K11
 (refine kr_ ?_)
 refine ac (fun _=>?_) (fun _=>?_)
 ·(refine kr_ ?_)
  refine kp_ ?_
  intro y h10 K10 hy _
  refine⟨_,rfl,?_⟩
  replace hy:(y:Int)<na.sort.wid:=hy (by omega)
  clear K9'
  refine kw_ ?_
  intro h11 K11 kpz
  clear kpz
  have K11':Kn g h11 ((b54, .inl ⟨[I na.sort.idx,I na.sort.wid],2,false⟩)::(b16, .inl ⟨nodeCells ⟨kd,a,0,0,0,y,⟨0,0⟩,⟨#[]⟩⟩,9,false⟩)::(b10, .inl ⟨df,5,false⟩)::(b8, .inl ⟨aw M,5,false⟩)::(B,rdC s (q+1+1))::(A++X)):=K11
  clear K11 K10
  repeat' (refine kr_ ?_)
  (((with_reducible apply Ro);(assumption);(assumption);((focus ((repeat first|exact .head|apply Upd.tail);done)))))
  ·omega
  ·(show W (na.sort.wid-(y:Int))<=1000000000);rw [bU (by omega) (by omega)];omega
  intro w h12 K12 _ _
  refine⟨_,rfl,?_⟩
  repeat' (refine kr_ ?_)
  clear K11'
  refine kw_ ?_
  intro h13 K13 kpz
  clear kpz
  exact hJ h13 _ X M m ⟨kd,a,0,0,W ((y:Int)+(w:Int)),y,⟨0,0⟩,⟨#[]⟩⟩ _ rfl rfl o (d.more (by omega)) hne (by omega) K13
 refine ap (fun J=> ∀c,J c) (fun c=>?_) (fun J hJ=>?_)
 rotate_left
 ·(refine kr_ ?_)
  refine ac (fun _=>hJ _) (fun _=>?_)
  (refine kr_ ?_)
  exact hJ _
 refine ac (fun _=>?_) (fun _=>?_)
 ·refine kp_ ?_
  intro y h10 K10 _ _
  refine⟨_,rfl,?_⟩
  clear K9'
  refine kw_ ?_
  intro h11 K11 kpz
  clear kpz
  exact hJ h11 _ X M m ⟨kd,a,0,0,y,0,⟨0,0⟩,⟨#[]⟩⟩ _ rfl rfl o (d.more (by omega)) hne (by omega) K11
 (refine kr_ ?_)
 refine lK ⟨_,rfl,?_⟩
 refine ac (fun _=>?_) (fun _=>?_)
 ·repeat' (refine kr_ ?_)
  refine uV (p:=q+1) (A:=(b54, .inl ⟨[I na.sort.idx,I na.sort.wid],2,false⟩)::(b16, .inl ⟨nodeCells ⟨kd,a,0,0,0,0,⟨0,0⟩,⟨#[]⟩⟩,9,false⟩)::(b10, .inl ⟨df,5,false⟩)::(b8, .inl ⟨aw M,5,false⟩)::A) (st:=na.sort)
   (K9'.perm (zZ _ _ _ _ _ _)) hb o d (by omega) hne (by omega) hst fun h6 q6 X6 M6 m6 i6 K6 o6 d6 hi6 hl6 hq6=>⟨_,_,_,_,_,_,rfl,?_⟩
  replace K6:=K6.perm (zZ _ _ _ _ _ _).symm
  clear K9'
  refine j6 (M':=M6) K6 (by((focus ((repeat first|exact .head|apply Upd.tail);done)))) rfl fun h7 K7=>?_
  clear K6
  refine kw_ ?_
  intro h8 K8 kpz
  clear kpz
  exact hJ h8 q6 X6 M6 m6 ⟨kd,a,i6,0,0,0,⟨0,0⟩,⟨#[]⟩⟩ _ rfl rfl o6 (d6.more (by omega)) (by omega) (by omega) K8
 ·exact hJ h9 _ X M m ⟨kd,a,0,0,0,0,⟨0,0⟩,⟨#[]⟩⟩ _ rfl rfl o (d.more (by omega)) hne (by omega) K9'
theorem DM.addI {m:ah} {N:Nat} (d:DM m N) (x:BindP):DM {m with inits:=m.inits++ [x]} (N+1):=
 ⟨Nat.le_succ_of_le d.nodes,d.sorts,d.names,by have:=d.inits;simp;omega,Nat.le_succ_of_le d.nexts,Nat.le_succ_of_le d.bads,Nat.le_succ_of_le d.holds⟩
theorem DM.addE {m:ah} {N:Nat} (d:DM m N) (x:BindP):DM {m with nexts:=m.nexts++ [x]} (N+1):=
 ⟨Nat.le_succ_of_le d.nodes,d.sorts,d.names,Nat.le_succ_of_le d.inits,by have:=d.nexts;simp;omega,Nat.le_succ_of_le d.bads,Nat.le_succ_of_le d.holds⟩
theorem DM.addB {m:ah} {N:Nat} (d:DM m N) (x:Int):DM {m with bads:=m.bads++ [x]} (N+1):=
 ⟨Nat.le_succ_of_le d.nodes,d.sorts,d.names,Nat.le_succ_of_le d.inits,Nat.le_succ_of_le d.nexts,by have:=d.bads;simp;omega,Nat.le_succ_of_le d.holds⟩
theorem DM.addH {m:ah} {N:Nat} (d:DM m N) (x:Int):DM {m with holds:=m.holds++ [x]} (N+1):=
 ⟨Nat.le_succ_of_le d.nodes,d.sorts,d.names,Nat.le_succ_of_le d.inits,Nat.le_succ_of_le d.nexts,Nat.le_succ_of_le d.bads,by have:=d.holds;simp;omega⟩
theorem QW {g h:Hp} {H X:List (Nat×Blk)} {b bn:Nat} {M:MSl} {m:ah} {nd:BindP} {J:Hp->Prop} (o:MG X M m) (K:Kn g h ((bn, .inl ⟨bindCells nd,2,false⟩)::(H++X))) (hm:m.inits.length<=10000) (hb:(b, .inl ⟨aw M,5,false⟩)∈H)
  (k: ∀s' X' h',MG X' {M with ini:=s'} {m with inits:=m.inits++ [nd]}->(∀H',Upd H b (.inl ⟨aw M,5,false⟩) (.inl ⟨aw {M with ini:=s'},5,false⟩) H'->Kn g h' (H'++X'))->J h'):
  co h M.ini.a M.ini.n M.ini.c (some ⟨bn,0,none⟩) 1 2 16 fun a n c h95=> ∃(cs:List Value) (z:Nat),h95 b=some (.inl ⟨cs,z,false⟩)/\(0+1)+1<=List.length cs/\cA (h95.row b (cz cs (0+1) [.slice a n c]) z) fun h'=>J h':=by
 refine MG.appI (A:=_::H) (n:=nd) o K (by omega) (K.at (.head _)) fun s' X' h7 o' K7=>?_
 rw [List.cons_append]at K7
 have f:=K7.at (.tail _ (List.mem_append_left _ hb))
 exact⟨_,_,f,by simp,k s' X' _ o' fun H' u=>(K7.tl).set (u.app (X:=X'))⟩
theorem RK {g h:Hp} {H X:List (Nat×Blk)} {b bn:Nat} {M:MSl} {m:ah} {nd:BindP} {J:Hp->Prop} (o:MG X M m) (K:Kn g h ((bn, .inl ⟨bindCells nd,2,false⟩)::(H++X))) (hm:m.nexts.length<=10000) (hb:(b, .inl ⟨aw M,5,false⟩)∈H)
  (k: ∀s' X' h',MG X' {M with nex:=s'} {m with nexts:=m.nexts++ [nd]}->(∀H',Upd H b (.inl ⟨aw M,5,false⟩) (.inl ⟨aw {M with nex:=s'},5,false⟩) H'->Kn g h' (H'++X'))->J h'):
  co h M.nex.a M.nex.n M.nex.c (some ⟨bn,0,none⟩) 1 2 16 fun a n c h95=> ∃(cs:List Value) (z:Nat),h95 b=some (.inl ⟨cs,z,false⟩)/\(0+2)+1<=List.length cs/\cA (h95.row b (cz cs (0+2) [.slice a n c]) z) fun h'=>J h':=by
 refine MG.appE (A:=_::H) (n:=nd) o K (by omega) (K.at (.head _)) fun s' X' h7 o' K7=>?_
 rw [List.cons_append]at K7
 have f:=K7.at (.tail _ (List.mem_append_left _ hb))
 exact⟨_,_,f,by simp,k s' X' _ o' fun H' u=>(K7.tl).set (u.app (X:=X'))⟩
theorem Vd {g h:Hp} {H X:List (Nat×Blk)} {b bn:Nat} {M:MSl} {m:ah} {nd:Int} {J:Hp->Prop} (o:MG X M m) (K:Kn g h ((bn, .inl ⟨[I nd],1,false⟩)::(H++X))) (hm:m.bads.length<=10000) (hb:(b, .inl ⟨aw M,5,false⟩)∈H)
  (k: ∀s' X' h',MG X' {M with bad:=s'} {m with bads:=m.bads++ [nd]}->(∀H',Upd H b (.inl ⟨aw M,5,false⟩) (.inl ⟨aw {M with bad:=s'},5,false⟩) H'->Kn g h' (H'++X'))->J h'):
  co h M.bad.a M.bad.n M.bad.c (some ⟨bn,0,none⟩) 1 1 8 fun a n c h95=> ∃(cs:List Value) (z:Nat),h95 b=some (.inl ⟨cs,z,false⟩)/\(0+3)+1<=List.length cs/\cA (h95.row b (cz cs (0+3) [.slice a n c]) z) fun h'=>J h':=by
 refine MG.appB (A:=_::H) (n:=nd) o K (by omega) (K.at (.head _)) fun s' X' h7 o' K7=>?_
 rw [List.cons_append]at K7
 have f:=K7.at (.tail _ (List.mem_append_left _ hb))
 exact⟨_,_,f,by simp,k s' X' _ o' fun H' u=>(K7.tl).set (u.app (X:=X'))⟩
theorem QX {g h:Hp} {H X:List (Nat×Blk)} {b bn:Nat} {M:MSl} {m:ah} {nd:Int} {J:Hp->Prop} (o:MG X M m) (K:Kn g h ((bn, .inl ⟨[I nd],1,false⟩)::(H++X))) (hm:m.holds.length<=10000) (hb:(b, .inl ⟨aw M,5,false⟩)∈H)
  (k: ∀s' X' h',MG X' {M with hol:=s'} {m with holds:=m.holds++ [nd]}->(∀H',Upd H b (.inl ⟨aw M,5,false⟩) (.inl ⟨aw {M with hol:=s'},5,false⟩) H'->Kn g h' (H'++X'))->J h'):
  co h M.hol.a M.hol.n M.hol.c (some ⟨bn,0,none⟩) 1 1 8 fun a n c h95=> ∃(cs:List Value) (z:Nat),h95 b=some (.inl ⟨cs,z,false⟩)/\(0+4)+1<=List.length cs/\cA (h95.row b (cz cs (0+4) [.slice a n c]) z) fun h'=>J h':=by
 refine MG.appH (A:=_::H) (n:=nd) o K (by omega) (K.at (.head _)) fun s' X' h7 o' K7=>?_
 rw [List.cons_append]at K7
 have f:=K7.at (.tail _ (List.mem_append_left _ hb))
 exact⟨_,_,f,by simp,k s' X' _ o' fun H' u=>(K7.tl).set (u.app (X:=X'))⟩
set_option maxHeartbeats 2000000 in
theorem O2 {g h:Hp} {A X:List (Nat×Blk)} {B p N:Nat} {s:Sl} {bs:List Nat} {M:MSl} {m:ah} {R:Value->Hp->Prop} (K:Kn g h ((B,rdC s p)::(A++X))) (hb:ByteS g s bs) (o:MG X M m) (d:DM m N) (hN:N<=100)
  (hne:0<m.nodes.length) (hp:p<=100000)
  (k: ∀h' p' X' M' m',Kn g h' ((B,rdC s p')::(A++X'))->MG X' M' m'->DM m' (6*N)->0<m'.nodes.length->p'<=p+N*1000->R (aQ M') h'):
  oT #[.pointer (some ⟨B,0,none⟩),aQ M] h R:=by
 apply Cg
 refine uf_ ?_
 have hl:=o.lens
 have hsm:=d.small (by omega)
 have hdn:=d.nodes
 refine Kn.al K fun b8 h1 K1 l1 hb8=>?_
 refine Kn.al K1 fun b10 h2 K2 l2 hb10=>?_
 clear K K1 l1 l2 hb8 hb10
 (refine kr_ ?_)
 refine av m.nodes.length (fun i vs h'=> ∃q X' M' m',vs= [.pointer (some ⟨B,0,none⟩), .pointer (some ⟨b8,0,none⟩), .pointer (some ⟨b10,0,none⟩),I (M.no.n:Nat),I i]/\MG X' M' m'/\DM m' (N+5*i)/\m.nodes.length<=m'.nodes.length/\q<=p+i*1000/\
  Kn g h' ((b10, .inl ⟨df,5,false⟩)::(b8, .inl ⟨aw M',5,false⟩)::(B,rdC s q)::(A++X'))) ⟨p,X,M,m,rfl,o,d,Nat.le_refl _,by omega,K2⟩ ?_
 clear K2 h1 h2 h
 rintro i _ h4 nxt hi ⟨q,X',M',m',rfl,o',d',hle,hq,K4⟩ hnx
 refine⟨_,b8,0,b10,0,_,_,rfl,?_⟩
 have hl':=o'.lens
 have hdn':=d'.nodes
 have hsm':=d'.small (by omega)
 by_cases hlt:i<m.nodes.length
 rotate_left
 ·refine aE (by rw [decide_eq_false_iff_not];omega) ?_
  repeat' (refine kr_ ?_)
  refine DN K4 (by((focus ((repeat first|exact .head|apply Upd.tail);done)))) fun h6 K6=>?_
  exact k h6 q X' M' m' K6.tl.tl o' (d'.more (by omega)) (by omega) (by omega)
 refine aM (by rw [decide_eq_true_eq];omega) ?_
 refine ap (fun J=> ∀h5 q X M1 m1,MG X M1 m1->DM m1 (N+5*(i+1))->m.nodes.length<=m1.nodes.length->q<=p+(i+1)*1000->Kn g h5 ((b10, .inl ⟨df,5,false⟩)::(b8, .inl ⟨aw M1,5,false⟩)::(B,rdC s q)::(A++X))->J (some ⟨B,0,none⟩) b8 0 b10 0 (M.no.n:Nat) i h5)
  (fun h5 q X M1 m1 o1 d1 hl1 hq1 K5=>?_) (fun J hJ=>?_)
 ·rw [aC (by omega)]
  exact hnx hlt _ _ ⟨q,X,M1,m1,rfl,o1,d1,hl1,hq1,K5⟩
 clear hnx
 have hs:=o'.modelS (A:=_::_::_::A) hsm' K4
 obtain⟨ni,hni⟩: ∃n,m'.nodes[i]?=some n:=⟨_,List.getElem?_eq_getElem (by omega)⟩
 have hst:=rW d' hni
 obtain⟨b,oo,ha,e0,e1,e2,e3,e4,e5,e6,e7,e8⟩:=hs.nodes.at hni
 (refine kr_ ?_)
 refine⟨b,oo,ha,by omega,by omega,_,by rw [Int.toNat_natCast];exact e0,?_⟩
 refine ac (fun _=>hJ h4 q X' M' m' o' (d'.more (by omega)) hle (by omega) K4) (fun hkn=>?_)
 (refine kr_ ?_)
 refine⟨b,oo,ha,by omega,by omega,_,by rw [Int.toNat_natCast];exact e6,_,by rw [Int.toNat_natCast];exact e7,?_⟩
 generalize ni.sort=st at*
 clear hkn e0 e1 e2 e3 e4 e5 e6 e7 e8 hs hni ha ni oo b
 refine Kn.al K4 fun b41 h5 K5 l5 hb5=>?_
 refine kw_ ?_
 intro h6 K6 kpz
 clear kpz
 have K6':Kn g h6 ((b41, .inl ⟨[I st.idx,I st.wid],2,false⟩)::(b10, .inl ⟨df,5,false⟩)::(b8, .inl ⟨aw M',5,false⟩)::(B,rdC s q)::(A++X')):=K6
 clear K6 K5 K4 l5 hb5
 obtain⟨_,hw1,hw2⟩:=lp hst
 refine kp_ ?_
 intro x49 h7 K7 hx49 _
 refine⟨_,rfl,?_⟩
 clear K6'
 refine ap (fun J2=> ∀h8 q2 X2 M2 m2,MG X2 M2 m2->DM m2 (N+5*i+2)->m.nodes.length<=m2.nodes.length->q2<=p+i*1000+2->Kn g h8 ((b41, .inl ⟨[I st.idx,I st.wid],2,false⟩)::(b10, .inl ⟨df,5,false⟩)::(b8, .inl ⟨aw M2,5,false⟩)::(B,rdC s q2)::(A++X2))->J2 h8)
  (fun h8 q2 X2 M2 m2 o2 d2 hl2 hq2 K8=>?_) (fun J2 hJ2=>?_)
 rotate_left
 ·refine ac (fun _=>?_) (fun _=>hJ2 h7 _ X' M' m' o' (d'.more (by omega)) hle (by omega) K7)
  refine ap (fun J3=> ∀h8 s2 X2 q2 nd,MG X2 {M' with no:=s2} {m' with nodes:=m'.nodes++ [nd]}->bR nd.sort=true->nd.name.size=0->q2<=p+i*1000+2->
   Kn g h8 ((b41, .inl ⟨[I st.idx,I st.wid],2,false⟩)::(b10, .inl ⟨df,5,false⟩)::(b8, .inl ⟨aw {M' with no:=s2},5,false⟩)::(B,rdC s q2)::(A++X2))->J3 h8) (fun h8 s2 X2 q2 nd o2 hs2 hn2 hq2 K8=>?_) (fun J3 hJ3=>?_)
  ·have hdi:=d'.inits
   (refine kr_ ?_)
   (refine kr_ ?_)
   refine Kn.al K8 fun b104 h9 K9 l9 hb9=>?_
   refine QW (H:=_::_::_::_::A) (nd:=⟨i,W ((s2.n:Int)-1)⟩) o2 K9 (by dsimp only;omega) (.tail _ (.tail _ (.head _))) fun s3 X3 h10 o3 KF=>?_
   have K10:=KF _ (by((focus ((repeat first|exact .head|apply Upd.tail);done))))
   simp only [List.cons_append]at K10
   clear KF K9 K8 K7
   refine hJ2 h10 q2 X3 _ _ o3 (((d'.addN hs2 (by omega)).addI _).more (by omega)) (by simp;omega) hq2 K10
  obtain⟨w,hw⟩: ∃w:Nat,st.wid=w:=⟨st.wid.toNat,by omega⟩
  have hp2:0<2^w:=Nat.two_pow_pos w
  have fin: ∀(y:Nat) (h5 h6:Hp) (q2 b:Nat),q2<=p+i*1000+2->
    Kn g h6 ((b, .inl ⟨[I 34,I 0,I 0,I 0,I (Int.tmod y (2^w:Nat)),I 0,I 0,I st.wid, .string ⟨#[]⟩],9,false⟩)::(b41, .inl ⟨[I st.idx,I st.wid],2,false⟩)::(b10, .inl ⟨df,5,false⟩)::(b8, .inl ⟨aw M',5,false⟩)::(B,rdC s q2)::(A++X'))->
    co h6 M'.no.a M'.no.n M'.no.c (some (Addr.mk b 0 none)) 1 9 80 fun a92 n93 k94 h95=> ∃(cs96:List Value) (z97:Nat),h95 b8=some (.inl ⟨cs96,z97,false⟩)/\0+1<=List.length cs96/\cA (h95.row b8 (cz cs96 0 [(.slice a92 n93 k94)]) z97) fun h98=>J3 h98:=by
   intro y h5 h6 q2 b hq2 K6
   refine ll (H:=_::_::_::_::A) (nd:=⟨34,0,0,0,Int.tmod y (2^w:Nat),0,cE st.wid,⟨#[]⟩⟩) o' K6 (by omega) (.tail _ (.tail _ (.head _))) fun s2 X2 h8 o2 KF=>?_
   have K8:=KF _ (by((focus ((repeat first|exact .head|apply Upd.tail);done))))
   simp only [List.cons_append]at K8
   exact hJ3 h8 s2 X2 q2 _ o2 (oZ hw1 hw2) rfl hq2 K8
  repeat' (refine kr_ ?_)
  refine⟨?_,?_⟩
  ·refine kp_ ?_
   intro y h8 K8 hy _
   refine⟨_,rfl,?_⟩
   repeat' (refine kr_ ?_)
   refine⟨?_,?_⟩
   ·repeat' (refine kr_ ?_)
    rw [hw,cu (by omega),if_neg (by omega),bK (by omega),if_neg (by omega),<-hw]
    refine ce ⟨_,_,rfl,?_⟩
    repeat' (refine kr_ ?_)
    refine Kn.al K8 fun b90 h9 K9 l9 hb90=>?_
    (refine kr_ ?_)
    exact fin y h8 h9 _ b90 (by omega) K9
   ·repeat' (refine kr_ ?_)
    refine ce ⟨_,_,rfl,?_⟩
    repeat' (refine kr_ ?_)
    rw [hw,cu (by omega),if_neg (by omega),bK (by omega),if_neg (by omega),<-hw]
    refine Kn.al K8 fun b90 h9 K9 l9 hb90=>?_
    (refine kr_ ?_)
    exact fin y h8 h9 _ b90 (by omega) K9
  ·repeat' (refine kr_ ?_)
   rw [hw,cu (by omega),if_neg (by omega),bK (by omega),<-hw]
   refine kp_ ?_
   intro y h8 K8 hy _
   refine⟨_,rfl,?_⟩
   repeat' (refine kr_ ?_)
   rw [if_neg (by omega)]
   refine ce ⟨_,_,rfl,?_⟩
   repeat' (refine kr_ ?_)
   refine Kn.al K8 fun b90 h9 K9 l9 hb90=>?_
   (refine kr_ ?_)
   exact fin y h8 h9 _ b90 (by omega) K9
 clear K7 h7 hsm' hdn' hl' hq d' o' hle X' M' m' q
 have hl':=o2.lens
 have hdn':=d2.nodes
 have hsm':=d2.small (by omega)
 refine kp_ ?_
 intro x118 h9 K9 _ _
 refine⟨_,rfl,?_⟩
 refine ac (fun _=>hJ h9 _ X2 M2 m2 o2 (d2.more (by omega)) hl2 (by omega) K9.tl) (fun _=>?_)
 clear K8
 refine av m2.nodes.length (fun j vs h'=> ∃(a q:Nat),vs= [.pointer (some ⟨B,0,none⟩), .pointer (some ⟨b8,0,none⟩), .pointer (some ⟨b10,0,none⟩),I (M.no.n:Nat),I i, .pointer (some ⟨b41,0,none⟩),I a,I j]/\a<m2.nodes.length/\q<=p+i*1000+3+j/\
  Kn g h' ((b41, .inl ⟨[I st.idx,I st.wid],2,false⟩)::(b10, .inl ⟨df,5,false⟩)::(b8, .inl ⟨aw M2,5,false⟩)::(B,rdC s q)::(A++X2))) ⟨i,_,rfl,by omega,by omega,K9⟩ ?_
 clear K9 h9 h8 hq2
 rintro j _ h8 nxt hj ⟨a,q,rfl,haL,hq,K8⟩ hnx
 refine⟨_,b8,0,b10,0,_,_,b41,0,_,_,rfl,?_⟩
 have hs:=o2.modelS (A:=_::_::_::_::A) hsm' K8
 (refine kr_ ?_)
 by_cases hlj:j<m2.nodes.length
 ·refine aM (by rw [decide_eq_true_eq];omega) ?_
  refine ap (fun J3=> ∀(c:Nat) h5 q,c<m2.nodes.length->q<=p+i*1000+3+(j+1)->Kn g h5 ((b41, .inl ⟨[I st.idx,I st.wid],2,false⟩)::(b10, .inl ⟨df,5,false⟩)::(b8, .inl ⟨aw M2,5,false⟩)::(B,rdC s q)::(A++X2))->J3 (c:Int) h5) (fun c h5 q' hc hq' K5=>?_) (fun J3 hJ3=>?_)
  ·rw [aC (by omega)]
   exact hnx hlj _ _ ⟨c,q',rfl,hc,hq',K5⟩
  ·(refine kr_ ?_)
   obtain⟨nj,hnj⟩: ∃n,m2.nodes[j]?=some n:=⟨_,List.getElem?_eq_getElem hlj⟩
   obtain⟨b,oo,ha,e0,e1,e2,e3,e4,e5,e6,e7,e8⟩:=hs.nodes.at hnj
   refine⟨b,oo,ha,by omega,by omega,_,by rw [Int.toNat_natCast];exact e6,_,by rw [Int.toNat_natCast];exact e7,?_⟩
   (refine kr_ ?_)
   (refine kr_ ?_)
   refine ac (fun e=>?_) (fun e=>?_)
   ·(refine kr_ ?_)
    refine⟨b,oo,ha,by omega,by omega,_,by rw [Int.toNat_natCast];exact e0,?_⟩
    refine ac (fun e=>?_) (fun e=>?_)
    ·refine ac (fun e=>?_) (fun e=>?_)
     ·exact hJ3 _ h8 q hlj (by omega) K8
     refine kp_ ?_
     intro x h5 K5 hx _
     refine⟨_,rfl,?_⟩
     exact ac (fun e=>hJ3 _ h5 (q+1) hlj (by omega) K5) (fun e=>hJ3 _ h5 (q+1) haL (by omega) K5)
    ·exact hJ3 _ h8 q haL (by omega) K8
   ·exact hJ3 _ h8 q haL (by omega) K8
 refine aE (by rw [decide_eq_false_iff_not];omega) ?_
 clear hnx hs
 refine ap (fun J3=> ∀(c:Bool) h5 q,q<=p+i*1000+4+m2.nodes.length->Kn g h5 ((b41, .inl ⟨[I st.idx,I st.wid],2,false⟩)::(b10, .inl ⟨df,5,false⟩)::(b8, .inl ⟨aw M2,5,false⟩)::(B,rdC s q)::(A++X2))->J3 c h5) (fun c h5 q' hq' K5=>?_) (fun J3 hJ3=>?_)
 rotate_left
 ·refine ac (fun e=>?_) (fun e=>hJ3 _ h8 q (by omega) K8)
  repeat' (refine kr_ ?_)
  refine ac (fun e=>?_) (fun e=>hJ3 _ h8 q (by omega) K8)
  refine kp_ ?_
  intro x h5 K5 hx _
  exact⟨_,rfl,hJ3 _ h5 (q+1) (by omega) K5⟩
 clear K8 hq q h8
 refine ap (fun J3=> ∀(x:Int) h5 q X3 M3 m3,MG X3 M3 m3->DM m3 (N+5*i+4)->m.nodes.length<=m3.nodes.length->q<=p+i*1000+4+m2.nodes.length->Kn g h5 ((b41, .inl ⟨[I st.idx,I st.wid],2,false⟩)::(b10, .inl ⟨df,5,false⟩)::(b8, .inl ⟨aw M3,5,false⟩)::(B,rdC s q)::(A++X3))->J3 x h5)
  (fun x h6 q X3 M3 m3 o3 d3 hl3 hq3 K6=>?_) (fun J3 hJ3=>?_)
 ·have hde:=d3.nexts
  (refine kr_ ?_)
  refine Kn.al K6 fun b202 h9 K9 l9 hb9=>?_
  refine RK (H:=_::_::_::_::A) (nd:=⟨i,x⟩) o3 K9 (by omega) (.tail _ (.tail _ (.head _))) fun s3 X4 h10 o4 KF=>?_
  have K10:=KF _ (by((focus ((repeat first|exact .head|apply Upd.tail);done))))
  simp only [List.cons_append]at K10
  exact hJ h10 q X4 _ _ o4 ((d3.addE _).more (by omega)) (by simp;omega) (by omega) K10.tl
 refine ac (fun e=>?_) (fun e=>hJ3 _ h5 q' X2 M2 m2 o2 (d2.more (by omega)) hl2 (by omega) K5)
 repeat' (refine kr_ ?_)
 refine Kn.al K5 fun b173 h6 K6 l6 hb6=>?_
 refine ll (H:=_::_::_::_::A) (nd:=⟨34,0,0,0,1,0,st,⟨#[]⟩⟩) o2 K6 (by omega) (.tail _ (.tail _ (.head _))) fun s3 X3 h7 o3 KF=>?_
 have K7:=KF _ (by((focus ((repeat first|exact .head|apply Upd.tail);done))))
 simp only [List.cons_append]at K7
 clear KF K6 K5
 repeat' (refine kr_ ?_)
 refine Kn.al K7 fun b187 h8 K8 l8 hb8=>?_
 refine ll (H:=_::_::_::_::A) (nd:=⟨9,i,W ((s3.n:Int)-1),0,0,0,st,⟨#[]⟩⟩) o3 K8 (by simp;omega) (.tail _ (.tail _ (.head _))) fun s4 X4 h9 o4 KF=>?_
 have K9:=KF _ (by((focus ((repeat first|exact .head|apply Upd.tail);done))))
 simp only [List.cons_append]at K9
 clear KF K8 K7
 repeat' (refine kr_ ?_)
 have dA:=d2.addN (n:=⟨34,0,0,0,1,0,st,⟨#[]⟩⟩) hst (show (0:Nat)<=100 by omega)
 have dB:=dA.addN (n:=⟨9,i,W ((s3.n:Int)-1),0,0,0,st,⟨#[]⟩⟩) hst (show (0:Nat)<=100 by omega)
 exact hJ3 _ h9 q' X4 _ _ o4 (dB.more (by omega)) (by simp;omega) (by omega) K9
inductive Pk {α:Type}:List α->α->List α->Prop
 |head {L:List α} {a:α}:Pk (a::L) a L
 |tail {L L':List α} {a e:α}:Pk L a L'->Pk (e::L) a (e::L')
theorem Pk.perm {α:Type} {L L':List α} {a:α} (u:Pk L a L'):L.Perm (a::L'):=by
 induction u with
 |head=>exact List.Perm.refl _
 |tail _ ih=>exact(List.Perm.cons _ ih).trans (List.Perm.swap ..)
abbrev acj (w:Int):List NodeP:= [⟨36,0,0,0,0,0,⟨0,w⟩,⟨#[120]⟩⟩,⟨34,0,0,0,0,0,⟨0,w⟩,⟨#[]⟩⟩,⟨34,0,0,0,1,0,⟨0,w⟩,⟨#[]⟩⟩,⟨34,0,0,0,3,0,⟨0,w⟩,⟨#[]⟩⟩,⟨35,0,0,0,0,0,⟨0,1⟩,⟨#[103,111]⟩⟩,
 ⟨9,0,2,0,0,0,⟨0,w⟩,⟨#[]⟩⟩,⟨33,4,5,0,0,0,⟨0,w⟩,⟨#[]⟩⟩,⟨21,0,3,0,0,0,⟨0,1⟩,⟨#[]⟩⟩]
abbrev ac0 (w:Int):ah:=⟨acj w, [⟨0,1⟩], [⟨0,6⟩], [7], []⟩
abbrev acB (w:Int):List Value:=(acj w).flatMap nodeCells
set_option maxHeartbeats 4000000 in
theorem ul {g h:Hp} {A:List (Nat×Blk)} {B p:Nat} {s:Sl} {bs:List Nat} {R:Value->Hp->Prop} (K:Kn g h ((B,rdC s p)::A)) (hb:ByteS g s bs) (hp:p<=900000)
  (k: ∀h' p' X' M' m',Kn g h' ((B,rdC s p')::(A++X'))->MG X' M' m'->DM m' 8->ax m'=0->0<m'.nodes.length->p'<=p+1->R (aQ M') h'):
  gp #[.pointer (some ⟨B,0,none⟩)] h R:=by
 apply xp
 refine uf_ ?_
 refine Kn.al K fun b3 h1 K1 l1 hb3=>?_
 clear K l1 hb3
 refine kp_ ?_
 intro x h2 K2 hx _
 refine⟨_,rfl,?_⟩
 have hx':x<2:=by have:=hx (by omega);omega
 clear K1
 refine ce ⟨_,_,rfl,?_⟩
 refine Kn.al K2 fun b14 h3 K3 l3 hb14=>?_
 refine kw_ ?_
 intro h4 K4 kpz
 clear kpz
 obtain⟨w,hw,hw2⟩: ∃w:Int,W (2+(x:Int))=w/\(w=2\/w=3):=⟨_,rfl,by rw [bU (by omega) (by omega)];omega⟩
 rw [hw]at K4
 have K4':Kn g h4 ((b14, .inl ⟨[I 0,I w],2,false⟩)::(b3, .inl ⟨df,5,false⟩)::(B,rdC s (p+1))::A):=K4
 clear K4 K3 K2
 refine ap (fun J=> ∀h5 (bN bI bE bB:Nat),Kn g h5 ((bN, .inl ⟨acB w,72,false⟩)::(bI, .inl ⟨[I 0,I 1],2,false⟩)::(bE, .inl ⟨[I 0,I 6],2,false⟩)::(bB, .inl ⟨[I 7],1,false⟩)::(b14, .inl ⟨[I 0,I w],2,false⟩)::
   (b3, .inl ⟨aw ⟨⟨some ⟨bN,0,none⟩,8,8⟩,⟨some ⟨bI,0,none⟩,1,1⟩,⟨some ⟨bE,0,none⟩,1,1⟩,⟨some ⟨bB,0,none⟩,1,1⟩,⟨none,0,0⟩⟩,5,false⟩)::(B,rdC s (p+1))::A)->J h5) (fun h5 bN bI bE bB K5=>?_) (fun J hJ=>?_)
 ·clear K4'
  repeat' (refine kr_ ?_)
  have K6:=(K5.perm (List.perm_append_comm (l₁:= [_,_,_,_]) (l₂:=_::_::_::A))).tl.tl
  refine k h5 (p+1) _ ⟨⟨some ⟨bN,0,none⟩,8,8⟩,⟨some ⟨bI,0,none⟩,1,1⟩,⟨some ⟨bE,0,none⟩,1,1⟩,⟨some ⟨bB,0,none⟩,1,1⟩,⟨none,0,0⟩⟩ (ac0 w) K6 ?_ ?_ ?_ ?_ (Nat.le_refl _)
  ·exact⟨[_], [_], [_], [_], [],rfl,⟨rfl,Nat.le_refl _, .inr ⟨bN,rfl,rfl⟩⟩,⟨rfl,Nat.le_refl _, .inr ⟨bI,rfl,rfl⟩⟩,⟨rfl,Nat.le_refl _, .inr ⟨bE,rfl,rfl⟩⟩,⟨rfl,Nat.le_refl _, .inr ⟨bB,rfl,rfl⟩⟩,cD 1⟩
  ·refine⟨Nat.le_refl _,?_,?_,show (1:Nat)<=8 by omega,show (1:Nat)<=8 by omega,show (1:Nat)<=8 by omega,show (0:Nat)<=8 by omega⟩
   ·rcases hw2 with rfl|rfl<;>decide
   ·rcases hw2 with rfl|rfl<;>decide
  ·rcases hw2 with rfl|rfl<;>decide
  ·exact Nat.succ_pos _
 have leaf: ∀h5 L L1 L2 L3 (bN bI bE bB:Nat),Kn g h5 L->Pk L (bN, .inl ⟨acB w,72,false⟩) L1->Pk L1 (bI, .inl ⟨[I 0,I 1],2,false⟩) L2->Pk L2 (bE, .inl ⟨[I 0,I 6],2,false⟩) L3->
   Pk L3 (bB, .inl ⟨[I 7],1,false⟩) ((b14, .inl ⟨[I 0,I w],2,false⟩)::(b3, .inl ⟨df,5,false⟩)::(B,rdC s (p+1))::A)->
   ∃(cs:List Value) (z:Nat),h5 b3=some (.inl ⟨cs,z,false⟩)/\0+5<=List.length cs/\cA (h5.row b3 (cz cs 0 [.slice (some ⟨bN,0,none⟩) 8 8, .slice (some ⟨bI,0,none⟩) 1 1, .slice (some ⟨bE,0,none⟩) 1 1, .slice (some ⟨bB,0,none⟩) 1 1, .slice none 0 0]) z) fun h'=>J h':=by
  intro h5 L L1 L2 L3 bN bI bE bB K p1 p2 p3 p4
  have K':=K.perm (p1.perm.trans (List.Perm.cons _ (p2.perm.trans (List.Perm.cons _ (p3.perm.trans (List.Perm.cons _ p4.perm))))))
  refine j6 (M':=⟨⟨some ⟨bN,0,none⟩,8,8⟩,⟨some ⟨bI,0,none⟩,1,1⟩,⟨some ⟨bE,0,none⟩,1,1⟩,⟨some ⟨bB,0,none⟩,1,1⟩,⟨none,0,0⟩⟩) K' (by((focus ((repeat first|exact .head|apply Upd.tail);done)))) rfl fun h6 K6=>?_
  exact hJ h6 bN bI bE bB K6
 clear k hJ hw2 hw hx' hx
 repeat' (refine kr_ ?_)
 repeat' first
  |(refine kr_ ?_)
  |refine ce ⟨_,_,rfl,?_⟩
  |((with_reducible apply Kn.al);(assumption);(intro b hN KN lN hbN))
  |(refine leaf _ _ _ _ _ _ _ _ _ (by assumption) (by((focus ((repeat first|exact .head|apply Pk.tail);done)))) (by((focus ((repeat first|exact .head|apply Pk.tail);done)))) (by((focus ((repeat first|exact .head|apply Pk.tail);done)))) (by((focus ((repeat first|exact .head|apply Pk.tail);done)))))
  |refine⟨?_,?_⟩
theorem Kn.subl {g h:Hp} {L L':List (Nat×Blk)} (K:Kn g h L) (s:L'.Sublist L):Kn g h L':=K.sub (fun e he=>s.subset he) (List.Nodup.sublist (s.map _) K.nd)
theorem FW {g h:Hp} {L:List (Nat×Blk)} {s:Sl} {bs:List Nat} {R:Value->Hp->Prop} (K:Kn g h L) (hcap:s.n<=s.c) (hs:ByteS g s bs)
  (k: ∀B h' s' bs',ByteS g s' bs'->Kn g h' ((B,rdC s' 0)::L)->R (.pointer (some ⟨B,0,none⟩)) h'):iw #[s.v] h R:=by
 apply xA
 refine uf_ ?_
 have hl:=hs.len
 refine ac (fun e=>?_) (fun e=>?_)
 ·have e':2000<s.n:=by simp at e;omega
  obtain⟨b,o,ha,hc⟩:=SlC.get hs.1 (by omega)
  refine⟨by simp,by simp,by omega, .inr ⟨b,o,ha,?_⟩⟩
  refine Kn.al K fun B h1 K1 l1 hB=>?_
  have e0:(if s.c=(Int.ofNat 0).toNat then o else o+(Int.ofNat 0).toNat*1)=o:=by split<;>simp
  rw [e0]at K1
  refine k B h1 ⟨some ⟨b,o,none⟩,2000,s.c⟩ (bs.take 2000) ?_ K1
  refine⟨⟨by simp,by simp;omega, .inr ⟨b,o,rfl,?_⟩⟩,fun x hx=>hs.2 x (List.mem_of_mem_take hx)⟩
  intro i v hv
  refine hc i v ?_
  rw [List.map_take,List.getElem?_take]at hv
  split at hv
  ·exact hv
  ·cases hv
 ·refine Kn.al K fun B h1 K1 l1 hB=>?_
  exact k B h1 s bs hs K1
theorem xw {α:Type} (a b c:α) (L:List α):(a::b::c::L).Perm (c::a::b::L):=(List.Perm.cons a (List.Perm.swap c b L)).trans (List.Perm.swap c a _)
set_option maxHeartbeats 2000000 in
theorem GQ {g h:Hp} {A:List (Nat×Blk)} {B p:Nat} {s:Sl} {bs:List Nat} {R:Value->Hp->Prop} (K:Kn g h ((B,rdC s p)::A)) (hb:ByteS g s bs) (hp:p<=10000)
  (k: ∀h' p' X' M' m',Kn g h' ((B,rdC s p')::(A++X'))->MG X' M' m'->DM m' 400->ax m'=0->0<m'.nodes.length->p'<=p+100000->R (aQ M') h'):
  kK #[.pointer (some ⟨B,0,none⟩)] h R:=by
 apply BM
 refine uf_ ?_
 refine Kn.al K fun b3 h1 K1 l1 hb3=>?_
 clear K l1 hb3
 refine kp_ ?_
 intro x h2 K2 _ _
 refine⟨_,rfl,?_⟩
 clear K1
 refine Lx (A:=(b3, .inl ⟨df,5,false⟩)::A) K2.sw hb (by omega) fun h3 p3 X3 M3 m3 K3 o3 d3 n3 hp3=>⟨_,_,_,_,_,rfl,?_⟩
 replace K3:Kn g h3 ((b3, .inl ⟨df,5,false⟩)::(B,rdC s p3)::(A++X3)):=K3.sw
 clear K2
 refine Kn.al K3 fun b16 h4 K4 l4 hb16=>?_
 clear K3 l4 hb16
 refine j6 (M':=M3) K4 (by((focus ((repeat first|exact .head|apply Upd.tail);done)))) rfl fun h5 K5=>?_
 clear K4
 refine kp_ ?_
 intro n h6 K6 hn _
 refine⟨_,rfl,?_⟩
 replace hn:n<14:=by have:=hn (by omega);omega
 clear K5
 refine av n (fun i vs h'=> ∃q X' M' m',vs= [.pointer (some ⟨B,0,none⟩), .pointer (some ⟨b3,0,none⟩), .pointer (some ⟨b16,0,none⟩),I n,I i]/\MG X' M' m'/\DM m' (12+3*i)/\0<m'.nodes.length/\q<=p+100+i*20/\
  Kn g h' ((b16, .inl ⟨aw M',5,false⟩)::(b3, .inl ⟨df,5,false⟩)::(B,rdC s q)::(A++X'))) ⟨p3+1,X3,M3,m3,rfl,o3,d3,n3,by omega,K6⟩ ?_
 clear K6 hp3 n3 d3 o3 m3 M3 X3 p3 h6 h5 h4 h3 h2 h1 h
 rintro i _ h4 nxt hi ⟨q,X',M',m',rfl,o',d',hle,hq,K4⟩ hnx
 refine⟨_,b3,0,b16,0,_,_,rfl,?_⟩
 by_cases hlt:i<n
 ·refine aM (by rw [decide_eq_true_eq];omega) ?_
  repeat' (refine kr_ ?_)
  refine Pl (A:=(b16, .inl ⟨aw M',5,false⟩)::(b3, .inl ⟨df,5,false⟩)::A) (K4.perm (xw _ _ _ _)) hb o' d' (by omega) hle (by omega) fun h5 q5 X5 M5 m5 K5 o5 d5 n5 hq5=>⟨_,_,_,_,_,rfl,?_⟩
  replace K5:=K5.perm (xw _ _ _ _).symm
  refine j6 (M':=M5) K5 (by((focus ((repeat first|exact .head|apply Upd.tail);done)))) rfl fun h6 K6=>?_
  rw [aC (by omega)]
  exact hnx hlt _ _ ⟨q5,X5,M5,m5,rfl,o5,d5.more (by omega),n5,by omega,K6⟩
 refine aE (by rw [decide_eq_false_iff_not];omega) ?_
 clear hnx
 repeat' (refine kr_ ?_)
 refine O2 (N:=51) (A:=(b16, .inl ⟨aw M',5,false⟩)::(b3, .inl ⟨df,5,false⟩)::A) (K4.perm (xw _ _ _ _)) hb o' (d'.more (by omega)) (by omega) hle (by omega) fun h5 q5 X5 M5 m5 K5 o5 d5 n5 hq5=>⟨_,_,_,_,_,rfl,?_⟩
 replace K5:=K5.perm (xw _ _ _ _).symm
 clear K4
 refine j6 (M':=M5) K5 (by((focus ((repeat first|exact .head|apply Upd.tail);done)))) rfl fun h6 K6=>?_
 clear K5
 refine kp_ ?_
 intro x76 h7 K7 hx76 _
 refine⟨_,rfl,?_⟩
 clear K6
 refine kp_ ?_
 intro x80 h8 K8 _ _
 refine⟨_,rfl,?_⟩
 clear K7
 refine ap (fun J=> ∀c:Nat,c<=2->J (c:Int)) (fun c hc=>?_) (fun J hJ=>?_)
 rotate_left
 ·refine ac (fun _=>hJ 0 (by omega)) (fun _=>?_)
  have:=hx76 (by omega)
  rw [show (1:Int)+(x76:Nat)=((1+x76:Nat):Int) by omega,eO (by omega)]
  exact hJ _ (by omega)
 refine av c (fun i vs h'=> ∃q X' M' m',vs= [.pointer (some ⟨B,0,none⟩), .pointer (some ⟨b3,0,none⟩), .pointer (some ⟨b16,0,none⟩),I c,I i]/\MG X' M' m'/\DM m' (306+4*i)/\0<m'.nodes.length/\q<=p+51500+i*2000/\
  Kn g h' ((b16, .inl ⟨aw M',5,false⟩)::(b3, .inl ⟨df,5,false⟩)::(B,rdC s q)::(A++X'))) ⟨_,X5,M5,m5,rfl,o5,d5,n5,by omega,K8⟩ ?_
 clear K8 hq5 n5 d5 o5 m5 M5 X5 q5 h8 h7 h6 h5 hq d' o' hle hx76 hlt hi
 clear M' m' X' q h4 nxt i
 rintro i _ h4 nxt hi ⟨q,X',M',m',rfl,o',d',hle,hq,K4⟩ hnx
 refine⟨_,b3,0,b16,0,_,_,rfl,?_⟩
 by_cases hlt:i<c
 ·refine aM (by rw [decide_eq_true_eq];omega) ?_
  repeat' (refine kr_ ?_)
  refine JT (A:=(b16, .inl ⟨aw M',5,false⟩)::(b3, .inl ⟨df,5,false⟩)::A) (K4.perm (xw _ _ _ _)) hb o' d' (by omega) hle (by omega) fun h5 q5 X5 M5 m5 i5 K5 o5 d5 hi5 hl5 hq5=>⟨_,_,_,_,_,_,rfl,?_⟩
  replace K5:=K5.perm (xw _ _ _ _).symm
  clear K4
  refine j6 (M':=M5) K5 (by((focus ((repeat first|exact .head|apply Upd.tail);done)))) rfl fun h6 K6=>?_
  clear K5
  have hdb:=d5.bads
  (refine kr_ ?_)
  refine Kn.al K6 fun b119 h7 K7 l7 hb7=>?_
  refine Vd (H:=_::_::_::A) (nd:=(i5:Nat)) o5 K7 (by omega) (.head _) fun s8 X8 h8 o8 KF=>?_
  have K8:=KF _ (by((focus ((repeat first|exact .head|apply Upd.tail);done))))
  simp only [List.cons_append]at K8
  rw [aC (by omega)]
  exact hnx hlt _ _ ⟨q5,X8,_,_,rfl,o8,(d5.addB _).more (by omega),by dsimp only;omega,by omega,K8⟩
 refine aE (by rw [decide_eq_false_iff_not];omega) ?_
 clear hnx
 refine kp_ ?_
 intro x132 h5 K5 _ _
 refine⟨_,rfl,?_⟩
 clear K4
 refine ap (fun J=> ∀h5 q X' M' m',MG X' M' m'->DM m' 400->0<m'.nodes.length->q<=p+60000->Kn g h5 ((b16, .inl ⟨aw M',5,false⟩)::(b3, .inl ⟨df,5,false⟩)::(B,rdC s q)::(A++X'))->J h5)
  (fun h5 q X' M' m' o' d' hle hq K5=>?_) (fun J hJ=>?_)
 ·have hs:=o'.modelS (A:=_::_::_::A) (d'.small (by omega)) K5
  repeat' (refine kr_ ?_)
  refine aX hs (d'.small (by omega)) ⟨_,rfl,?_⟩
  refine ac (fun e=>?_) (fun e=>?_)
  ·refine ul (A:=(b3, .inl ⟨df,5,false⟩)::(A++X')) K5.tl.sw hb (by omega) fun h6 q6 X6 M6 m6 K6 o6 d6 c6 n6 hq6=>⟨_,_,_,_,_,rfl,?_⟩
   replace K6:Kn g h6 ((b3, .inl ⟨df,5,false⟩)::(B,rdC s q6)::((A++X')++X6)):=K6.sw
   refine DN (M:=M6) K6 (by((focus ((repeat first|exact .head|apply Upd.tail);done)))) fun h7 K7=>?_
   refine k h7 q6 X6 M6 m6 (K7.tl.subl ?_) o6 (d6.more (by omega)) c6 n6 (by omega)
   exact List.Sublist.cons_cons _ (List.Sublist.append_right (List.sublist_append_left _ _) _)
  ·repeat' (refine kr_ ?_)
   refine DN (M:=M') K5 (by((focus ((repeat first|exact .head|apply Upd.tail);done)))) fun h7 K7=>?_
   exact k h7 q X' M' m' K7.tl.tl o' d' (by simpa using e) hle (by omega)
 refine ac (fun e=>?_) (fun e=>hJ _ _ _ _ _ o' (d'.more (by omega)) hle (by omega) K5)
 repeat' (refine kr_ ?_)
 refine JT (A:=(b16, .inl ⟨aw M',5,false⟩)::(b3, .inl ⟨df,5,false⟩)::A) (K5.perm (xw _ _ _ _)) hb o' d' (by omega) hle (by omega) fun h6 q6 X6 M6 m6 i6 K6 o6 d6 hi6 hl6 hq6=>⟨_,_,_,_,_,_,rfl,?_⟩
 replace K6:=K6.perm (xw _ _ _ _).symm
 clear K5
 refine j6 (M':=M6) K6 (by((focus ((repeat first|exact .head|apply Upd.tail);done)))) rfl fun h7 K7=>?_
 clear K6
 refine kp_ ?_
 intro x155 h8 K8 _ _
 refine⟨_,rfl,?_⟩
 clear K7
 refine ap (fun J2=> ∀(y:Int) h5 q X' M' m',MG X' M' m'->DM m' 330->0<m'.nodes.length->q<=p+60000->Kn g h5 ((b16, .inl ⟨aw M',5,false⟩)::(b3, .inl ⟨df,5,false⟩)::(B,rdC s q)::(A++X'))->J2 y h5)
  (fun y h9 q9 X9 M9 m9 o9 d9 hle9 hq9 K9=>?_) (fun J2 hJ2=>?_)
 ·have hdh:=d9.holds
  (refine kr_ ?_)
  refine Kn.al K9 fun b119 h10 K10 l10 hb10=>?_
  refine QX (H:=_::_::_::A) (nd:=y) o9 K10 (by omega) (.head _) fun s8 X8 h8 o8 KF=>?_
  have K11:=KF _ (by((focus ((repeat first|exact .head|apply Upd.tail);done))))
  simp only [List.cons_append]at K11
  exact hJ _ _ _ _ _ o8 ((d9.addH _).more (by omega)) (by dsimp only;omega) (by omega) K11
 refine ac (fun e=>?_) (fun e=>hJ2 _ _ _ _ _ _ o6 (d6.more (by omega)) (by omega) (by omega) K8)
 have hdn:=d6.nodes
 (refine kr_ ?_)
 refine ce ⟨_,_,rfl,?_⟩
 repeat' (refine kr_ ?_)
 refine Kn.al K8 fun b163 h9 K9 l9 hb9=>?_
 (refine kr_ ?_)
 refine ll (H:=_::_::_::A) (nd:=⟨1,(i6:Nat),0,0,0,0,cE 1,⟨#[]⟩⟩) o6 K9 (by omega) (.head _) fun s10 X10 h10 o10 KF=>?_
 have K10:=KF _ (by((focus ((repeat first|exact .head|apply Upd.tail);done))))
 simp only [List.cons_append]at K10
 clear K9 K8
 repeat' (refine kr_ ?_)
 have dA:=d6.addN (n:=⟨1,(i6:Nat),0,0,0,0,cE 1,⟨#[]⟩⟩) (oZ (by omega) (by omega)) (show (0:Nat)<=100 by omega)
 exact hJ2 _ _ _ _ _ _ o10 (dA.more (by omega)) (by simp) (by omega) K10
theorem yw {h:Hp} {s t:Sl} {xs:List Int} {R:Value->Hp->Prop} (hs:IntS h s xs) (ht:IntS h t xs) (k:R (.bool true) h):kB #[s.v,t.v] h R:=by
 refine zW ?_
 refine uf_ ?_
 have ls:=hs.len
 have lt:=ht.len
 have hb:=hs.bound
 refine aE (by simp [ls,lt]) ?_
 refine av xs.length (fun i vs h'=>vs= [s.v,t.v,I i]/\h'=h) ⟨rfl,rfl⟩ ?_
 rintro i _ _ next hi ⟨rfl,rfl⟩ hn
 refine⟨_,_,_,rfl,?_⟩
 by_cases hlt:i<xs.length
 ·obtain⟨b,o,ha,hc⟩:=hs.at hlt
  obtain⟨b',o',ha',hc'⟩:=ht.at hlt
  refine aM (by simp [ls,hlt]) ?_
  simp only [vm,ls,lt,ha,ha',hc,hc',aC (n:=i) (by omega)]
  exact⟨by omega,by omega,aE (by simp) (hn hlt _ _ ⟨rfl,rfl⟩)⟩
 ·exact aE (by simp [ls];omega) k
theorem rF {h:Hp} {sS sI tS tI:Sl} {xs ys:List Int} {R:Value->Hp->Prop} (h1:IntS h sS xs/\IntS h sI ys) (h2:IntS h tS xs/\IntS h tI ys) (k:R (.bool true) h):jz #[.agg #[sS.v,sI.v], .agg #[tS.v,tI.v]] h R:=by
 refine ACalls.drop (Ip ?_)
 refine uf_ ?_
 have K0:=Kn.nil h
 (with_reducible apply Kn.al);(assumption);(intro b6 h3 K1 l1 hb6)
 (with_reducible apply Kn.al);(assumption);(intro b8 h4 K2 l2 hb8)
 clear K1 K0
 repeat' (refine kr_ ?_)
 refine yw (h1.1.mono K2.le) (h2.1.mono K2.le) ⟨_,rfl,aM rfl ?_⟩
 repeat' (refine kr_ ?_)
 refine yw (h1.2.mono K2.le) (h2.2.mono K2.le) ⟨_,rfl,⟨h,K2.le,k⟩⟩
theorem Wz : ∀(vs xs ys:List Value) (o:Nat),cz (xs++ys) (xs.length+o) vs=xs++cz ys o vs:=by
 intro vs
 induction vs with
 |nil=>intro xs ys o;rfl
 |cons v vs ih=>intro xs ys o;rw [pN,pN,List.set_append_right (xs.length+o) v (by omega),Nat.add_sub_cancel_left,Nat.add_assoc,ih]
theorem Tw : ∀(vs xs ys:List Value) (o:Nat),o+vs.length<=xs.length->cz (xs++ys) o vs=cz xs o vs++ys:=by
 intro vs
 induction vs with
 |nil=>intro xs ys o _;rfl
 |cons v vs ih=>
  intro xs ys o h
  rw [List.length_cons]at h
  rw [pN,pN,List.set_append_left o v (by omega),ih _ _ _ (by rw [List.length_set];omega)]
theorem Sn {off:Nat} {vs:List Value} {n n':NodeP} (hv:cz (nodeCells n) off vs=nodeCells n') (ho:off+vs.length<=9): ∀{l:List NodeP} {i:Nat},l[i]?=some n->cz (l.flatMap nodeCells) (i*9+off) vs=(l.set i n').flatMap nodeCells:=by
 intro l
 induction l with
 |nil=>intro i h;simp at h
 |cons a l ih=>
  intro i h
  cases i with
  |zero=>
   have:a=n:=by simpa using h
   subst this
   rw [List.set_cons_zero,List.flatMap_cons,List.flatMap_cons,Nat.zero_mul,Nat.zero_add,Tw _ _ _ _ (by show _<=9;exact ho),hv]
  |succ i=>
   have h':l[i]?=some n:=by simpa using h
   rw [List.set_cons_succ,List.flatMap_cons,List.flatMap_cons,show (i+1)*9+off=(nodeCells a).length+(i*9+off) by show _=9+_;omega,Wz,ih h']
theorem Upd.appL {L L':List (Nat×Blk)} {b:Nat} {x y:Blk} (u:Upd L b x y L'): ∀A:List (Nat×Blk),Upd (A++L) b x y (A++L')
 | []=>u
 |_::A=> .tail (u.appL A)
theorem tQ {g h:Hp} {A X:List (Nat×Blk)} {M:MSl} {m:ah} {i off k:Nat} {n n':NodeP} {vs:List Value} {F:Nat->Nat} {J:Hp->Prop} (o:MG X M m) (K:Kn g h (A++X)) (hni:m.nodes[i]?=some n)
  (hv:cz (nodeCells n) off vs=nodeCells n') (hk:vs.length=k) (ho:off+k<=9) (hF:F 0=i*9+off)
  (J': ∀X' h',MG X' M {m with nodes:=m.nodes.set i n'}->Kn g h' (A++X')->J h'):
  ∃(b p:Nat),M.no.a=some ⟨b,p,none⟩/\(0:Int)<=(i:Nat)/\((i:Nat):Int)<((M.no.n:Nat):Int)/\ ∃(cs:List Value) (z:Nat),h b=some (.inl ⟨cs,z,false⟩)/\F p+k<=List.length cs/\cA (h.row b (cz cs (F p) vs) z) fun h'=>J h':=by
 have hi:=get_lt hni
 have hl:=o.lens
 obtain⟨XN,XI,XE,XB,XH,rfl,a,b',c,d,e⟩:=o
 rcases a.2.2 with ⟨_,h0,_⟩|⟨b,ha,rfl⟩
 ·rw [h0]at hl;have:=hl.1;dsimp only at this;omega
 subst hk
 have hc:cz (m.nodes.flatMap nodeCells) (F 0) vs=(m.nodes.set i n').flatMap nodeCells:=by rw [hF];exact Sn hv ho hni
 refine⟨b,0,ha,by omega,by omega,?_⟩
 refine Kn.wr (cs:=m.nodes.flatMap nodeCells) (z:=M.no.c*9) (o:=F 0) (vs:=vs) K (L':=A++([(b, .inl ⟨(m.nodes.set i n').flatMap nodeCells,M.no.c*9,false⟩)]++(XI++(XE++(XB++(XH++ [])))))) (by rw [hc];exact Upd.appL .head A) (by rw [hF,a.1];omega) fun h' K' _=>?_
 exact J' _ h' ⟨_,XI,XE,XB,XH,rfl,⟨by rw [eV (m:=9) (fun _=>rfl),List.length_set];omega,a.2.1, .inr ⟨b,ha,rfl⟩⟩,b',c,d,e⟩ K'
structure DZ (m:ah) (N:Nat):Prop where
 nodes:m.nodes.length<=N
 names: ∀n∈m.nodes,n.name.size<=100
 inits:m.inits.length<=N
 nexts:m.nexts.length<=N
 bads:m.bads.length<=N
 holds:m.holds.length<=N
theorem DM.z {m:ah} {N:Nat} (d:DM m N):DZ m N:=⟨d.nodes,d.names,d.inits,d.nexts,d.bads,d.holds⟩
theorem DZ.small {m:ah} {N:Nat} (d:DZ m N) (hN:N<=100000):bW m:=
 ⟨by have:=d.nodes;omega,by have:=d.inits;omega,by have:=d.nexts;omega,by have:=d.bads;omega,by have:=d.holds;omega,fun n hn=>by have:=d.names n hn;omega⟩
theorem DZ.more {m:ah} {N N':Nat} (d:DZ m N) (h:N<=N'):DZ m N':=
 ⟨Nat.le_trans d.nodes h,d.names,Nat.le_trans d.inits h,Nat.le_trans d.nexts h,Nat.le_trans d.bads h,Nat.le_trans d.holds h⟩
theorem DZ.addN {m:ah} {N:Nat} (d:DZ m N) {n:NodeP} (h2:n.name.size<=100):DZ {m with nodes:=m.nodes++ [n]} (N+1):=
 ⟨by have:=d.nodes;simp;omega,fun x hx=>by rcases List.mem_append.1 hx with hx|hx;exact d.names x hx;rw [List.mem_singleton.1 hx];exact h2,
  Nat.le_succ_of_le d.inits,Nat.le_succ_of_le d.nexts,Nat.le_succ_of_le d.bads,Nat.le_succ_of_le d.holds⟩
theorem DZ.set {m:ah} {N i:Nat} (d:DZ m N) {n:NodeP} (h2:n.name.size<=100):DZ {m with nodes:=m.nodes.set i n} N:=
 ⟨by have:=d.nodes;simp;omega,fun x hx=>by rcases List.mem_or_eq_of_mem_set hx with hx|rfl;exact d.names x hx;exact h2,d.inits,d.nexts,d.bads,d.holds⟩
theorem DZ.addI {m:ah} {N:Nat} (d:DZ m N) (x:BindP):DZ {m with inits:=m.inits++ [x]} (N+1):=
 ⟨Nat.le_succ_of_le d.nodes,d.names,by have:=d.inits;simp;omega,Nat.le_succ_of_le d.nexts,Nat.le_succ_of_le d.bads,Nat.le_succ_of_le d.holds⟩
theorem DZ.addE {m:ah} {N:Nat} (d:DZ m N) (x:BindP):DZ {m with nexts:=m.nexts++ [x]} (N+1):=
 ⟨Nat.le_succ_of_le d.nodes,d.names,Nat.le_succ_of_le d.inits,by have:=d.nexts;simp;omega,Nat.le_succ_of_le d.bads,Nat.le_succ_of_le d.holds⟩
theorem DZ.addB {m:ah} {N:Nat} (d:DZ m N) (xs:List Int) (hx:xs.length<=N):DZ {m with bads:=m.bads++xs} (2*N):=
 ⟨by have:=d.nodes;dsimp only;omega,d.names,by have:=d.inits;dsimp only;omega,by have:=d.nexts;dsimp only;omega,by have:=d.bads;simp;omega,by have:=d.holds;dsimp only;omega⟩
theorem DZ.addH {m:ah} {N:Nat} (d:DZ m N) (x:Int):DZ {m with holds:=m.holds++ [x]} (N+1):=
 ⟨Nat.le_succ_of_le d.nodes,d.names,Nat.le_succ_of_le d.inits,Nat.le_succ_of_le d.nexts,Nat.le_succ_of_le d.bads,by have:=d.holds;simp;omega⟩
theorem MG.appBs {g h:Hp} {A X:List (Nat×Blk)} {M:MSl} {m:ah} {xs:List Int} {src:Option Addr} {C:Option Addr->Nat->Nat->Hp->Prop} (o:MG X M m) (K:Kn g h (A++X)) (hm:m.bads.length+xs.length<=100000) (hx:0<xs.length)
  (f: ∃b p,src=some ⟨b,p,none⟩/\gO h b p (xs.map I))
  (k: ∀s' X' h',MG X' {M with bad:=s'} {m with bads:=m.bads++xs}->Kn g h' (A++X')->C s'.a s'.n s'.c h'):co h M.bad.a M.bad.n M.bad.c src xs.length 1 8 C:=by
 have hl:=o.lens
 obtain⟨XN,XI,XE,XB,XH,rfl,a,b',c,d,e⟩:=o
 have sw: ∀Z:List (Nat×Blk),A++(XN++(XI++(XE++(Z++(XH++ [])))))=(A++(XN++XI))++(XE++(Z++(XH++ []))):=fun Z=>by simp
 rw [sw]at K
 refine Kn.growIn2 (news:=xs.map I) K d hx (by omega) (by omega) f (by simp) (List.all_eq_true.2 fun v hv=>by obtain⟨y,_,rfl⟩:=List.mem_map.1 hv;rfl) fun s' X' h' hn a' K' _=>?_
 rw [<-sw]at K'
 exact k s' _ h' ⟨XN,XI,XE,X',XH,rfl,a,b',c,by rw [List.map_append];exact a',e⟩ K'
abbrev acz :List Value:= [.string ⟨#[120]⟩, .string ⟨#[]⟩, .string ⟨#[88]⟩, .string ⟨#[116,111,111,108,111,110,103,110,97,109,101]⟩]
theorem abS {i:Nat} (h:i<4): ∃s:ByteArray,acz[i]?=some (.string s)/\s.size<=100:=by
 rcases i with _|_|_|_|i
 ·exact⟨_,rfl,by decide⟩
 ·exact⟨_,rfl,by decide⟩
 ·exact⟨_,rfl,by decide⟩
 ·exact⟨_,rfl,by decide⟩
 ·omega
theorem Ye {h:Hp} {A X:List (Nat×Blk)} {g:Hp} {M:MSl} {m:ah} (o:MG X M m) (K:Kn g h (A++X)) (hm:m.bads.length<=100000) (hp:0<m.bads.length): ∃b p,M.bad.a=some ⟨b,p,none⟩/\gO h b p (m.bads.map I):=by
 have hl:=o.lens
 obtain⟨XN,XI,XE,XB,XH,rfl,a,b',c,d,e⟩:=o
 have:=(d.slcOf (h:=h) (by omega) fun x hx=>K.mem x (List.mem_append_right _ (by simp [hx])))
 exact SlC.get this (by omega)
theorem Qc {g h:Hp} {H X:List (Nat×Blk)} {b:Nat} {M:MSl} {m:ah} {N:Nat} {J:Hp->Prop} (o:MG X M m) (d:DZ m N) (hN:N<=10000) (K:Kn g h (H++X)) (hb:(b, .inl ⟨aw M,5,false⟩)∈H)
  (k: ∀s' X' h' m',MG X' {M with bad:=s'} m'->DZ m' (2*N)->(∀H',Upd H b (.inl ⟨aw M,5,false⟩) (.inl ⟨aw {M with bad:=s'},5,false⟩) H'->Kn g h' (H'++X'))->J h'):
  co h M.bad.a M.bad.n M.bad.c M.bad.a M.bad.n 1 8 fun a n c h95=> ∃(cs:List Value) (z:Nat),h95 b=some (.inl ⟨cs,z,false⟩)/\3+1<=List.length cs/\cA (h95.row b (cz cs 3 [.slice a n c]) z) fun h'=>J h':=by
 have hl:=o.lens
 have hd:=d.bads
 by_cases h0:m.bads.length=0
 ·have hc:M.bad.n<=M.bad.c:=by obtain⟨_,_,_,_,_,_,_,_,_,d',_⟩:=o;exact d'.2.1
  refine .inl ⟨by omega,hc,?_⟩
  have f:=K.at (List.mem_append_left _ hb)
  exact⟨_,_,f,by simp,k M.bad X _ m o (d.more (by omega)) fun H' u=>K.set (u.app (X:=X))⟩
 have e:M.bad.n=m.bads.length:=by omega
 have key:=MG.appBs (xs:=m.bads) (C:=fun a n c h95=> ∃(cs:List Value) (z:Nat),h95 b=some (.inl ⟨cs,z,false⟩)/\3+1<=List.length cs/\cA (h95.row b (cz cs 3 [.slice a n c]) z) fun h'=>J h') o K (by omega) (by omega) (Ye o K (by omega) (by omega)) fun s' X' h7 o' K7=>by
  have f:=K7.at (List.mem_append_left _ hb)
  exact⟨_,_,f,by simp,k s' X' _ _ o' (d.addB _ d.bads) fun H' u=>K7.set (u.app (X:=X'))⟩
 rw [<-e]at key
 exact key
set_option maxHeartbeats 4000000 in
theorem tP {g h:Hp} {A:List (Nat×Blk)} {B p:Nat} {s:Sl} {bs:List Nat} {R:Value->Hp->Prop} (K:Kn g h ((B,rdC s p)::A)) (hb:ByteS g s bs) (hp:p<=10000)
  (k: ∀h' p' X' M' m',Kn g h' ((B,rdC s p')::(A++X'))->MG X' M' m'->DZ m' 4000->p'<=p+200000->R (aQ M') h'):
  fV #[.pointer (some ⟨B,0,none⟩)] h R:=by
 apply AF
 refine uf_ ?_
 refine Kn.al K fun b3 h1 K1 l1 hb3=>?_
 clear K l1 hb3
 refine GQ (A:=(b3, .inl ⟨df,5,false⟩)::A) K1.sw hb hp fun h2 p2 X2 M2 m2 K2 o2 d2 c2 n2 hp2=>⟨_,_,_,_,_,rfl,?_⟩
 replace K2:Kn g h2 ((b3, .inl ⟨df,5,false⟩)::(B,rdC s p2)::(A++X2)):=K2.sw
 refine Kn.al K2 fun b13 h3 K3 l3 hb13=>?_
 clear K2 l3 hb13
 refine j6 (M':=M2) K3 (by((focus ((repeat first|exact .head|apply Upd.tail);done)))) rfl fun h4 K4=>?_
 clear K3
 refine kp_ ?_
 intro x21 h5 K5 _ _
 refine⟨_,rfl,?_⟩
 clear K4
 refine ap (fun J=> ∀h5 q X M m,MG X M m->DZ m 400->0<m.nodes.length->q<=p+100002->Kn g h5 ((b13, .inl ⟨aw M,5,false⟩)::(b3, .inl ⟨df,5,false⟩)::(B,rdC s q)::(A++X))->J h5)
  (fun hz q X M m o d hne hq Kz=>?_) (fun J hJ=>?_)
 rotate_left
 ·refine ac (fun _=>?_) (fun _=>hJ h5 _ X2 M2 m2 o2 d2.z n2 (by omega) K5)
  refine ul (A:=(b13, .inl ⟨aw M2,5,false⟩)::(b3, .inl ⟨df,5,false⟩)::(A++X2)) (K5.perm (xw _ _ _ _)) hb (by omega) fun h6 q6 X6 M6 m6 K6 o6 d6 c6 n6 hq6=>⟨_,_,_,_,_,rfl,?_⟩
  have K6':Kn g h6 ((b13, .inl ⟨aw M2,5,false⟩)::(b3, .inl ⟨df,5,false⟩)::(B,rdC s q6)::((A++X2)++X6)):=K6.perm (xw _ _ _ _).symm
  clear K5 K6
  refine j6 (M':=M6) K6' (by((focus ((repeat first|exact .head|apply Upd.tail);done)))) rfl fun h7 K7=>?_
  refine hJ h7 q6 X6 M6 m6 o6 (d6.z.more (by omega)) n6 (by omega) (K7.subl ?_)
  exact List.Sublist.cons_cons _ (List.Sublist.cons_cons _ (List.Sublist.cons_cons _ (List.Sublist.append_right (List.sublist_append_left _ _) _)))
 clear K5 K1 o2 d2 c2 n2 hp2 m2 M2 X2 p2
 have hl:=o.lens
 have hnl:=d.nodes
 refine kp_ ?_
 intro x38 h6 K6 _ _
 refine⟨_,rfl,?_⟩
 clear Kz
 refine ac (fun _=>?_) (fun _=>?_)
 ·repeat' (refine kr_ ?_)
  refine DN (M:=M) K6 (by((focus ((repeat first|exact .head|apply Upd.tail);done)))) fun h7 K7=>?_
  exact k h7 _ X M m K7.tl.tl o (d.more (by omega)) (by omega)
 repeat' (refine kr_ ?_)
 refine kp_ ?_
 intro a h7 K7 ha _
 refine⟨_,rfl,?_⟩
 replace ha:a<m.nodes.length:=by have:=ha (by omega);omega
 clear K6
 refine kp_ ?_
 intro x62 h8 K8 _ _
 refine⟨_,rfl,?_⟩
 clear K7
 refine ap (fun J=> ∀h5 q X M m,MG X M m->DZ m 4000->q<=p+200000->Kn g h5 ((b13, .inl ⟨aw M,5,false⟩)::(b3, .inl ⟨df,5,false⟩)::(B,rdC s q)::(A++X))->J b3 0 b13 0 h5)
  (fun h5 q X M m o d hq K5=>?_) (fun J hJ=>?_)
 ·repeat' (refine kr_ ?_)
  refine DN (M:=M) K5 (by((focus ((repeat first|exact .head|apply Upd.tail);done)))) fun h7 K7=>?_
  exact k h7 _ X M m K7.tl.tl o d (by omega)
 clear k
 obtain⟨n,hna⟩: ∃n,m.nodes[a]?=some n:=⟨_,List.getElem?_eq_getElem ha⟩
 have hnm:=d.names n (List.mem_of_getElem? hna)
 have dset: ∀n':NodeP,n'.name.size<=100->DZ {m with nodes:=m.nodes.set a n'} 4000:=fun n' h=>(d.set h).more (by omega)
 refine ac (fun _=>?_) (fun _=>ac (fun _=>?_) (fun _=>ac (fun _=>?_) (fun _=>ac (fun _=>?_) (fun _=>ac (fun _=>?_) (fun _=>ac (fun _=>?_) (fun _=>ac (fun _=>?_) (fun _=>ac (fun _=>?_) (fun _=>ac (fun _=>?_) (fun _=>ac (fun _=>?_) (fun _=>ac (fun _=>?_) (fun _=>ac (fun _=>?_) (fun _=>ac (fun _=>?_) (fun _=>ac (fun _=>?_) (fun _=>?_))))))))))))))
 ·(refine kr_ ?_)
  refine kp_ ?_
  intro x h9 K9 _ _
  refine⟨_,rfl,?_⟩
  (refine kr_ ?_)
  refine tQ (A:=_::_::_::A) (n':={n with kind:=W ((x:Int)-1)}) (off:=0) o K9 hna rfl rfl (by omega) (by rw [Int.toNat_natCast];omega) fun X' h10 o' K10=>?_
  exact hJ h10 _ X' M _ o' (dset _ hnm) (by omega) K10
 ·(refine kr_ ?_)
  (refine kr_ ?_)
  rw [bU (by omega) (by omega)]
  refine kp_ ?_
  intro x h9 K9 _ _
  refine⟨_,rfl,?_⟩
  (refine kr_ ?_)
  refine tQ (A:=_::_::_::A) (n':={n with a:=W ((x:Int)-1)}) (off:=1) o K9 hna rfl rfl (by omega) (by rw [Int.toNat_natCast];omega) fun X' h10 o' K10=>?_
  exact hJ h10 _ X' M _ o' (dset _ hnm) (by omega) K10
 ·(refine kr_ ?_)
  refine kp_ ?_
  intro x h9 K9 _ _
  refine⟨_,rfl,?_⟩
  (refine kr_ ?_)
  refine tQ (A:=_::_::_::A) (n':={n with n:=W ((x:Int)-2)}) (off:=4) o K9 hna rfl rfl (by omega) (by rw [Int.toNat_natCast];omega) fun X' h10 o' K10=>?_
  exact hJ h10 _ X' M _ o' (dset _ hnm) (by omega) K10
 ·(refine kr_ ?_)
  refine kp_ ?_
  intro x h9 K9 _ _
  refine⟨_,rfl,?_⟩
  (refine kr_ ?_)
  refine tQ (A:=_::_::_::A) (n':={n with sort:=⟨n.sort.idx,W ((x:Int)-1)⟩}) (off:=7) o K9 hna rfl rfl (by omega) (by rw [Int.toNat_natCast];omega) fun X' h10 o' K10=>?_
  exact hJ h10 _ X' M _ o' (dset _ hnm) (by omega) K10
 ·(refine kr_ ?_)
  refine⟨?_,?_⟩
  ·refine Kn.al K8 fun b111 h9 K9 l9 hb9=>?_
   (refine kr_ ?_)
   refine kp_ ?_
   intro x h10 K10 hx _
   refine⟨_,rfl,?_⟩
   replace hx:x<4:=by have:=hx (by omega);omega
   obtain⟨t,ht,hz⟩:=abS hx
   repeat' (refine kr_ ?_)
   refine⟨by omega,by omega,t,by rw [aq (K10.at (.head _)),Int.toNat_natCast,Nat.zero_add,Nat.mul_one];exact ht,?_⟩
   refine tQ (A:=_::_::_::_::A) (n':={n with name:=t}) (off:=8) o K10 hna rfl rfl (by omega) (by rw [Int.toNat_natCast];omega) fun X' h11 o' K11=>?_
   exact hJ h11 _ X' M _ o' (dset _ hz) (by omega) K11.tl
  ·refine kp_ ?_
   intro x h9 K9 hx _
   refine⟨_,rfl,?_⟩
   replace hx:x<4:=by have:=hx (by omega);omega
   obtain⟨t,ht,hz⟩:=abS hx
   (refine kr_ ?_)
   refine Kn.al K9 fun b111 h10 K10 l10 hb10=>?_
   repeat' (refine kr_ ?_)
   refine⟨by omega,by omega,t,by rw [aq (K10.at (.head _)),Int.toNat_natCast,Nat.zero_add,Nat.mul_one];exact ht,?_⟩
   refine tQ (A:=_::_::_::_::A) (n':={n with name:=t}) (off:=8) o K10 hna rfl rfl (by omega) (by rw [Int.toNat_natCast];omega) fun X' h11 o' K11=>?_
   exact hJ h11 _ X' M _ o' (dset _ hz) (by omega) K11.tl
 ·(refine kr_ ?_)
  refine ce ⟨_,_,rfl,?_⟩
  (refine kr_ ?_)
  obtain⟨n0,hn0⟩: ∃n,m.nodes[0]?=some n:=⟨_,List.getElem?_eq_getElem hne⟩
  refine tQ (A:=_::_::_::A) (i:=0) (n':={n0 with sort:=cE 9}) (off:=6) o K8 hn0 rfl rfl (by omega) rfl fun X' h10 o' K10=>?_
  exact hJ h10 _ X' M _ o' ((DZ.set (i:=0) (n:={n0 with sort:=cE 9}) d (d.names n0 (List.mem_of_getElem? hn0))).more (by omega)) (by omega) K10
 ·have hdi:=d.inits
  (refine kr_ ?_)
  refine Kn.al K8 fun b9 h9 K9 l9 hb9=>?_
  refine QW (H:=_::_::_::A) (nd:=⟨0,(a:Nat)⟩) o K9 (by omega) (.head _) fun s' X' h10 o' KF=>?_
  have K10:=KF _ (by((focus ((repeat first|exact .head|apply Upd.tail);done))))
  simp only [List.cons_append]at K10
  exact hJ h10 _ X' _ _ o' ((d.addI _).more (by omega)) (by omega) K10
 ·have hde:=d.nexts
  (refine kr_ ?_)
  (refine kr_ ?_)
  refine kp_ ?_
  intro x h9 K9 _ _
  refine⟨_,rfl,?_⟩
  (refine kr_ ?_)
  refine Kn.al K9 fun b9 h10 K10 l10 hb10=>?_
  (refine kr_ ?_)
  refine RK (H:=_::_::_::A) (nd:=⟨(x:Nat),(a:Nat)⟩) o K10 (by omega) (.head _) fun s' X' h11 o' KF=>?_
  have K11:=KF _ (by((focus ((repeat first|exact .head|apply Upd.tail);done))))
  simp only [List.cons_append]at K11
  exact hJ h11 _ X' _ _ o' ((d.addE _).more (by omega)) (by omega) K11
 ·have hdb:=d.bads
  (refine kr_ ?_)
  (refine kr_ ?_)
  rw [bU (by omega) (by omega)]
  refine kp_ ?_
  intro x h9 K9 _ _
  refine⟨_,rfl,?_⟩
  (refine kr_ ?_)
  refine Kn.al K9 fun b9 h10 K10 l10 hb10=>?_
  (refine kr_ ?_)
  refine Vd (H:=_::_::_::A) (nd:=W ((x:Int)-1)) o K10 (by omega) (.head _) fun s' X' h11 o' KF=>?_
  have K11:=KF _ (by((focus ((repeat first|exact .head|apply Upd.tail);done))))
  simp only [List.cons_append]at K11
  exact hJ h11 _ X' _ _ o' ((d.addB [_] (by simp)).more (by omega)) (by omega) K11
 ·have hdh:=d.holds
  (refine kr_ ?_)
  refine Kn.al K8 fun b9 h9 K9 l9 hb9=>?_
  refine QX (H:=_::_::_::A) (nd:=(a:Nat)) o K9 (by omega) (.head _) fun s' X' h10 o' KF=>?_
  have K10:=KF _ (by((focus ((repeat first|exact .head|apply Upd.tail);done))))
  simp only [List.cons_append]at K10
  exact hJ h10 _ X' _ _ o' ((d.addH _).more (by omega)) (by omega) K10
 ·(refine kr_ ?_)
  (refine kr_ ?_)
  refine Qc (H:=_::_::_::A) o d (by omega) K8 (.head _) fun s' X' h9 m' o' d' KF=>?_
  have K9:=KF _ (by((focus ((repeat first|exact .head|apply Upd.tail);done))))
  simp only [List.cons_append]at K9
  clear KF K8
  (refine kr_ ?_)
  (refine kr_ ?_)
  refine Qc (H:=_::_::_::A) o' d' (by omega) K9 (.head _) fun s2 X2 h10 m2 o2 d2 KF=>?_
  have K10:=KF _ (by((focus ((repeat first|exact .head|apply Upd.tail);done))))
  simp only [List.cons_append]at K10
  clear KF K9
  (refine kr_ ?_)
  (refine kr_ ?_)
  refine Qc (H:=_::_::_::A) o2 d2 (by omega) K10 (.head _) fun s3 X3 h11 m3 o3 d3 KF=>?_
  have K11:=KF _ (by((focus ((repeat first|exact .head|apply Upd.tail);done))))
  simp only [List.cons_append]at K11
  exact hJ h11 _ X3 _ _ o3 (d3.more (by omega)) (by omega) K11
 ·refine av 62 (fun i vs h'=> ∃q X M m',vs= [.pointer (some ⟨B,0,none⟩), .pointer (some ⟨b3,0,none⟩), .pointer (some ⟨b13,0,none⟩)]/\MG X M m'/\DZ m' (400+i)/\m'.nodes.length=m.nodes.length+i/\q<=p+100010+i/\
   Kn g h' ((b13, .inl ⟨aw M,5,false⟩)::(b3, .inl ⟨df,5,false⟩)::(B,rdC s q)::(A++X))) ⟨_,X,M,m,rfl,o,d,rfl,by omega,K8⟩ ?_
  clear K8
  rintro i _ h9 nxt hi ⟨q',X',M',m',rfl,o',d',hl',hq',K9⟩ hnx
  refine⟨_,b3,0,b13,0,rfl,?_⟩
  have hn':=o'.lens
  (refine kr_ ?_)
  refine kp_ ?_
  intro x h10 K10 hx _
  refine⟨_,rfl,?_⟩
  replace hx:x<2:=by have:=hx (by omega);omega
  (refine kr_ ?_)
  rw [bU (by omega) (by omega)]
  refine ac (fun e=>?_) (fun e=>hJ h10 _ X' M' m' o' (d'.more (by omega)) (by omega) K10)
  have e:=of_decide_eq_true e
  clear K9
  (refine kr_ ?_)
  refine ce ⟨_,_,rfl,?_⟩
  (refine kr_ ?_)
  refine Kn.al K10 fun b9 h11 K11 l11 hb11=>?_
  (refine kr_ ?_)
  refine ll (H:=_::_::_::A) (nd:=⟨34,0,0,0,0,0,cE 3,⟨#[]⟩⟩) o' K11 (by omega) (.head _) fun s' X3 h12 o3 KF=>?_
  have K12:=KF _ (by((focus ((repeat first|exact .head|apply Upd.tail);done))))
  simp only [List.cons_append]at K12
  exact hnx (by omega) _ _ ⟨_,X3,_,_,rfl,o3,d'.addN (n:=⟨34,0,0,0,0,0,cE 3,⟨#[]⟩⟩) (show (0:Nat)<=100 by omega),by simp;omega,by omega,K12⟩
 ·(refine kr_ ?_)
  refine kp_ ?_
  intro x h9 K9 _ _
  refine⟨_,rfl,?_⟩
  (refine kr_ ?_)
  refine tQ (A:=_::_::_::A) (n':={n with sort:=⟨(x:Nat),n.sort.wid⟩}) (off:=6) o K9 hna rfl rfl (by omega) (by rw [Int.toNat_natCast];omega) fun X' h10 o' K10=>?_
  exact hJ h10 _ X' M _ o' (dset _ hnm) (by omega) K10
 ·(refine kr_ ?_)
  refine ce ⟨_,_,rfl,?_⟩
  (refine kr_ ?_)
  refine Kn.al K8 fun b9 h11 K11 l11 hb11=>?_
  (refine kr_ ?_)
  refine ll (H:=_::_::_::A) (nd:=⟨35,0,0,0,0,0,cE 4,⟨#[119,105,100,101]⟩⟩) o K11 (by omega) (.head _) fun s' X3 h12 o3 KF=>?_
  have K12:=KF _ (by((focus ((repeat first|exact .head|apply Upd.tail);done))))
  simp only [List.cons_append]at K12
  exact hJ h12 _ X3 _ _ o3 ((d.addN (n:=⟨35,0,0,0,0,0,cE 4,⟨#[119,105,100,101]⟩⟩) (show (4:Nat)<=100 by omega)).more (by omega)) (by omega) K12
 ·exact hJ h8 _ X M m o (d.more (by omega)) (by omega) K8
theorem oM {h:Hp} {M:MSl} {m:ah} {x:Int} {R:Value->Hp->Prop} (hs:aO h M m) (hm:bW m) (hc:ax m=0)
  (kf: ∀h',¬(0<=x/\x<(2^ak m.nodes 36:Nat))->h.le h'->R (.tuple #[.slice none 0 0, .bool false]) h')
  (kt: ∀(c:Nat) out h',x=c->c<2^ak m.nodes 36->h.le h'->IntSS h' out ((fy m.nodes (stP m) c).map VL)->R (.tuple #[Sl.v out, .bool true]) h'):eE #[aQ M,I x] h R:=by
 apply xB
 refine uf_ ?_
 have g:=cr hc
 have n8:=g.n8
 have hp2:2^ak m.nodes 36<=2^8:=Nat.pow_le_pow_right (by omega) n8
 have hp0:0<2^ak m.nodes 36:=Nat.two_pow_pos _
 have K0:=Kn.nil h
 (with_reducible apply Kn.al);(assumption);(intro b8 h1 K1 l1 hb8)
 clear K0
 have hs1:=hs.mono K1.le
 refine ap (fun J=>J (!decide (0<=x/\x<=((2^ak m.nodes 36:Nat):Int)-1)) h1) ?_ (fun J hJ=>?_)
 rotate_left
 ·repeat' (refine kr_ ?_)
  refine aX hs1 hm ⟨_,rfl,?_⟩
  refine aE (by rw [hc];rfl) ?_
  repeat' (refine kr_ ?_)
  refine gC hs1 hm ⟨_,rfl,?_⟩
  rw [cu (by omega),if_neg (by omega),bK (by omega),bU (by omega) (by omega)]
  exact dH ⟨_,rfl,hJ⟩
 refine ac (fun e=>kf h1 (fun q=>by
  have e':decide (0<=x/\x<=((2^ak m.nodes 36:Nat):Int)-1)=false:=by rw [Bool.not_eq_true']at e;exact e
  have:=of_decide_eq_false e'
  omega) K1.le) (fun e=>?_)
 have hx:0<=x/\x<(2^ak m.nodes 36:Nat):=by
  have:decide (0<=x/\x<=((2^ak m.nodes 36:Nat):Int)-1)=true:=by simpa using e
  have:=of_decide_eq_true this
  omega
 clear e kf
 obtain⟨c,rfl⟩: ∃c:Nat,x=c:=⟨x.toNat,by omega⟩
 repeat' (refine kr_ ?_)
 refine cU hs1 hm fun t h2 l2 it=>⟨_,rfl,?_⟩
 have K2:=K1.mono l2
 (refine kr_ ?_)
 refine gf (hs1.mono l2) hm g.ok it (fun p hp=>kV hp) (jb g 36) (by omega) (by rw [fq g];omega) fun out h3 l3 io=>⟨_,rfl,?_⟩
 exact kt c out h3 rfl (by omega) (Hp.le_trans K2.le l3) io
theorem vK {h:Hp} {M:MSl} {m:ah} {x:Int} {R:Value->Hp->Prop} (hs:aO h M m) (hm:bW m) (hc:ax m=0)
  (kf: ∀h',¬(0<=x/\x<(2^ak m.nodes 35:Nat))->h.le h'->R (.tuple #[.slice none 0 0, .bool false]) h')
  (kt: ∀(c:Nat) out h',x=c->c<2^ak m.nodes 35->h.le h'->IntSS h' out ((fy m.nodes (inP m) c).map VL)->R (.tuple #[Sl.v out, .bool true]) h'):iy #[aQ M,I x] h R:=by
 apply Hx
 refine uf_ ?_
 have g:=cr hc
 have n8:=g.k5
 have hp2:2^ak m.nodes 35<=2^5:=Nat.pow_le_pow_right (by omega) n8
 have hp0:0<2^ak m.nodes 35:=Nat.two_pow_pos _
 have K0:=Kn.nil h
 (with_reducible apply Kn.al);(assumption);(intro b8 h1 K1 l1 hb8)
 clear K0
 have hs1:=hs.mono K1.le
 refine ap (fun J=>J (!decide (0<=x/\x<=((2^ak m.nodes 35:Nat):Int)-1)) h1) ?_ (fun J hJ=>?_)
 rotate_left
 ·repeat' (refine kr_ ?_)
  refine aX hs1 hm ⟨_,rfl,?_⟩
  refine aE (by rw [hc];rfl) ?_
  repeat' (refine kr_ ?_)
  refine gC hs1 hm ⟨_,rfl,?_⟩
  rw [cu (by omega),if_neg (by omega),bK (by omega),bU (by omega) (by omega)]
  exact dH ⟨_,rfl,hJ⟩
 refine ac (fun e=>kf h1 (fun q=>by
  have e':decide (0<=x/\x<=((2^ak m.nodes 35:Nat):Int)-1)=false:=by rw [Bool.not_eq_true']at e;exact e
  have:=of_decide_eq_false e'
  omega) K1.le) (fun e=>?_)
 have hx:0<=x/\x<(2^ak m.nodes 35:Nat):=by
  have:decide (0<=x/\x<=((2^ak m.nodes 35:Nat):Int)-1)=true:=by simpa using e
  have:=of_decide_eq_true this
  omega
 clear e kf
 obtain⟨c,rfl⟩: ∃c:Nat,x=c:=⟨x.toNat,by omega⟩
 repeat' (refine kr_ ?_)
 refine cU hs1 hm fun t h2 l2 it=>⟨_,rfl,?_⟩
 have K2:=K1.mono l2
 (refine kr_ ?_)
 refine gf (hs1.mono l2) hm g.ok it (fun p hp=>kV hp) (jb g 35) (by omega) (by rw [Co g];omega) fun out h3 l3 io=>⟨_,rfl,?_⟩
 exact kt c out h3 rfl (by omega) (Hp.le_trans K2.le l3) io
set_option maxHeartbeats 1000000 in
theorem R9 {h:Hp} {M:MSl} {m:ah} {sS sI:Sl} {xs ys:List Int} {i c d:Nat} {R:Value->Hp->Prop} (hs:aO h M m) (hm:bW m) (g:dj m) (h1:IntS h sS xs) (h2:IntS h sI ys)
  (hc:xs[i]?=some (c:Int)) (hd:ys[i]?=some (d:Int)) (hcl:c<2^ak m.nodes 36) (hdl:d<2^ak m.nodes 35)
  (k: ∀s t h',h.le h'->IntSS h' s ((fy m.nodes (stP m) c).map VL)->IntSS h' t ((fy m.nodes (inP m) d).map VL)->R (.tuple #[Sl.v s,Sl.v t]) h'):
  jR #[aQ M, .agg #[sS.v,sI.v],I (i:Nat)] h R:=by
 apply Ou
 refine uf_ ?_
 have n8:=g.n8
 have k5:=g.k5
 have hp8:2^ak m.nodes 36<=2^8:=Nat.pow_le_pow_right (by omega) n8
 have hp5:2^ak m.nodes 35<=2^5:=Nat.pow_le_pow_right (by omega) k5
 have K0:=Kn.nil h
 (with_reducible apply Kn.al);(assumption);(intro b10 g1 K1 l1 hb10)
 (with_reducible apply Kn.al);(assumption);(intro b12 g2 K2 l2 hb12)
 clear K1 K0
 have hs2:=hs.mono K2.le
 have ls:=h1.len
 have lt:=h2.len
 have i1:=get_lt hc
 have i2:=get_lt hd
 obtain⟨b26,o26,ha,hca⟩:=h1.get hc
 obtain⟨b40,o40,hb,hcb⟩:=h2.get hd
 have x26:=gY hca
 have x40:=gY hcb
 replace hca:=K2.le.cell hca
 replace hcb:=K2.le.cell hcb
 repeat' (refine kr_ ?_)
 refine⟨b26,o26,ha,by omega,by omega,_,by rw [Int.toNat_natCast];exact hca,?_⟩
 repeat' (refine kr_ ?_)
 refine⟨b40,o40,hb,by omega,by omega,_,by rw [Int.toNat_natCast];exact hcb,?_⟩
 refine cU hs2 hm fun t1 g3 l3 it=>⟨_,rfl,?_⟩
 have K3:=K2.mono l3
 repeat' (refine kr_ ?_)
 refine gf (hs2.mono l3) hm g.ok it (fun p hp=>kV hp) (jb g 36) (by omega) (by rw [fq g];omega) fun out1 g4 l4 io1=>⟨_,rfl,?_⟩
 have K4:=K3.mono l4
 clear K3
 repeat' (refine kr_ ?_)
 refine cU (hs.mono K4.le) hm fun t2 g5 l5 it2=>⟨_,rfl,?_⟩
 have K5:=K4.mono l5
 clear K4
 repeat' (refine kr_ ?_)
 refine gf (hs.mono K5.le) hm g.ok it2 (fun p hp=>kV hp) (jb g 35) (by omega) (by rw [Co g];omega) fun out2 g6 l6 io2=>⟨_,rfl,?_⟩
 exact k out1 out2 g6 (Hp.le_trans K5.le l6) (io1.mono (Hp.le_trans l5 l6)) io2
def qZ (m:ah) (xs ys:List Int):Bool:=
 (decide (ax m=0)&&(decide (1<=(xs.length:Int)/\(xs.length:Int)<=301)&&decide (ys.length=xs.length)))&&(xs.all (jr (ak m.nodes 36))&&ys.all (jr (ak m.nodes 35)))
theorem CP {h:Hp} {M:MSl} {m:ah} {sS sI:Sl} {xs ys:List Int} {R:Value->Hp->Prop} (hs:aO h M m) (hm:bW m) (h1:IntS h sS xs) (h2:IntS h sI ys)
  (k:R (.bool (qZ m xs ys)) h):lT #[.agg #[sS.v,sI.v],aQ M] h R:=by
 refine ACalls.drop (zu ?_)
 refine uf_ ?_
 have K0:=Kn.nil h
 (with_reducible apply Kn.al);(assumption);(intro b9 g1 K1 l1 hb9)
 (with_reducible apply Kn.al);(assumption);(intro b11 g2 K2 l2 hb11)
 clear K1 K0
 have hs2:=hs.mono K2.le
 have ls:=h1.len
 have lt:=h2.len
 unfold qZ at k
 repeat' (refine kr_ ?_)
 refine mb hs2 hm ⟨_,rfl,?_⟩
 refine ac (fun e=>?_) (fun e=>?_)
 rotate_left
 ·repeat' (refine kr_ ?_)
  rw [decide_eq_false (fun q=>by rw [q]at e;simp at e)]at k
  exact⟨h,K2.le,k⟩
 have hc:ax m=0:=by simpa using e
 have g:=cr hc
 have n8:=g.n8
 have k5:=g.k5
 rw [decide_eq_true hc,Bool.true_and]at k
 repeat' (refine kr_ ?_)
 rw [ls]
 refine fK ⟨_,rfl,ac (fun e=>?_) (fun e=>?_)⟩
 rotate_left
 ·repeat' (refine kr_ ?_)
  rw [e]at k
  exact⟨h,K2.le,k⟩
 rw [e,Bool.true_and]at k
 repeat' (refine kr_ ?_)
 refine ac (fun e=>?_) (fun e=>?_)
 rotate_left
 ·repeat' (refine kr_ ?_)
  rw [decide_eq_false (fun q=>by rw [lt,q,ls]at e;simp at e)]at k
  exact⟨h,K2.le,k⟩
 rw [decide_eq_true (show ys.length=xs.length by have:=of_decide_eq_true e;omega),Bool.true_and]at k
 repeat' (refine kr_ ?_)
 refine fk hs2 hm ⟨_,rfl,?_⟩
 repeat' (refine kr_ ?_)
 refine wg (h1.mono K2.le) (by omega) ⟨_,rfl,ac (fun e=>?_) (fun e=>?_)⟩
 rotate_left
 ·repeat' (refine kr_ ?_)
  rw [e]at k
  exact⟨h,K2.le,k⟩
 rw [e,Bool.true_and]at k
 repeat' (refine kr_ ?_)
 refine fk hs2 hm ⟨_,rfl,?_⟩
 repeat' (refine kr_ ?_)
 exact wg (h2.mono K2.le) (by omega) ⟨_,rfl,⟨h,K2.le,k⟩⟩
theorem gv {n:Nat} {x:Int}:jr n x=true↔0<=x/\x<(2^n:Nat):=by
 unfold jr
 rw [decide_eq_true_eq];omega
theorem Ed {h:Hp} {M:MSl} {m:ah} {x:Int} {R:Value->Hp->Prop} (hs:aO h M m) (hm:bW m) (hc:ax m=0)
  (k: ∀s h',h.le h'->R (.tuple #[Sl.v s, .bool (jr (ak m.nodes 36) x)]) h'):eE #[aQ M,I x] h R:=by
 refine oM hs hm hc (fun h' e l=>?_) (fun c out h' e hlt l io=>?_)
 ·have:=k ⟨none,0,0⟩ h' l
  rw [Bool.eq_false_iff.2 fun q=>e (gv.1 q)]at this
  exact this
 ·have:=k out h' l
  rw [gv.2 ⟨by omega,by omega⟩]at this
  exact this
theorem DT {h:Hp} {M:MSl} {m:ah} {x:Int} {R:Value->Hp->Prop} (hs:aO h M m) (hm:bW m) (hc:ax m=0)
  (k: ∀s h',h.le h'->R (.tuple #[Sl.v s, .bool (jr (ak m.nodes 35) x)]) h'):iy #[aQ M,I x] h R:=by
 refine vK hs hm hc (fun h' e l=>?_) (fun c out h' e hlt l io=>?_)
 ·have:=k ⟨none,0,0⟩ h' l
  rw [Bool.eq_false_iff.2 fun q=>e (gv.1 q)]at this
  exact this
 ·have:=k out h' l
  rw [gv.2 ⟨by omega,by omega⟩]at this
  exact this
theorem vT {α:Type} {l:List α} {p:α->Bool} {i:Nat} {x:α} (h:l[i]?=some x) (e:p x=false):l.all p=false:=by
 rw [Bool.eq_false_iff]
 intro q
 rw [List.all_eq_true.1 q x (List.mem_of_getElem? h)]at e;cases e
theorem Dq {α:Type} {l:List α} {p:α->Bool} {i:Nat} {x:α} (h:l[i]?=some x) (e:p x=true) (q:(l.take i).all p=true):(l.take (i+1)).all p=true:=by
 rw [List.take_add_one,h,List.all_append,q]
 simp [e]
def Aj (m:ah) (xs ys:List Int):Bool:=decide (ax m=0)&&(decide (1<=(xs.length:Int)/\(xs.length:Int)<=301)&&decide (ys.length=xs.length))
set_option maxHeartbeats 1000000 in
theorem LT {h:Hp} {M:MSl} {m:ah} {sS sI:Sl} {xs ys:List Int} {R:Value->Hp->Prop} (hs:aO h M m) (hm:bW m) (h1:IntS h sS xs) (h2:IntS h sI ys)
  (k:R (.bool (qZ m xs ys)) h):sd #[aQ M, .agg #[sS.v,sI.v]] h R:=by
 refine ACalls.drop (Hm ?_)
 refine uf_ ?_
 have K0:=Kn.nil h
 (with_reducible apply Kn.al);(assumption);(intro b9 g1 K1 l1 hb9)
 (with_reducible apply Kn.al);(assumption);(intro b11 g2 K2 l2 hb11)
 clear K1 K0
 have hs2:=hs.mono K2.le
 have ls:=h1.len
 have lt:=h2.len
 replace k:R (.bool (Aj m xs ys&&(xs.all (jr (ak m.nodes 36))&&ys.all (jr (ak m.nodes 35))))) h:=k
 refine ap (fun J=>(Aj m xs ys=false->J true g2)/\
  (ax m=0->xs.length<=301->ys.length=xs.length->Aj m xs ys=true->J false g2)) ⟨fun e=>?_,fun hc hl hl2 e=>?_⟩ (fun J hJ=>?_)
 ·rw [e]at k
  exact aM rfl ⟨h,K2.le,k⟩
 ·rw [e,Bool.true_and]at k
  refine aE rfl ?_
  have g:=cr hc
  refine av xs.length (fun i vs h'=>vs= [.pointer (some ⟨b9,0,none⟩), .pointer (some ⟨b11,0,none⟩),I (i:Nat)]/\(xs.take i).all (jr (ak m.nodes 36))=true/\(ys.take i).all (jr (ak m.nodes 35))=true/\
   Kn h h' ((b11, .inl ⟨[sS.v,sI.v],2,false⟩)::(b9, .inl ⟨aw M,5,false⟩):: [])) ⟨rfl,by simp,by simp,K2⟩ ?_
  clear K2
  rintro i _ h3 next hi ⟨rfl,a1,a2,K3⟩ hnx
  refine⟨b9,0,b11,0,_,rfl,?_⟩
  (refine kr_ ?_)
  by_cases hlt:i<xs.length
  rotate_left
  ·refine aE (by simp [ls];omega) ?_
   rw [List.take_of_length_le (by omega)]at a1 a2
   rw [a1,a2]at k
   exact⟨h,K3.le,k⟩
  refine aM (by simp [ls];omega) ?_
  obtain⟨x,hx⟩: ∃x,xs[i]?=some x:=⟨_,List.getElem?_eq_getElem hlt⟩
  obtain⟨y,hy⟩: ∃y,ys[i]?=some y:=⟨_,List.getElem?_eq_getElem (by omega)⟩
  obtain⟨b,o,ha,hca⟩:=(h1.mono K3.le).get hx
  repeat' (refine kr_ ?_)
  refine⟨b,o,ha,by omega,by omega,_,by rw [Int.toNat_natCast];exact hca,?_⟩
  refine Ed (hs.mono K3.le) hm hc fun s1 h4 l4=>⟨_,_,rfl,?_⟩
  have K4:=K3.mono l4
  clear K3 hca ha o b
  obtain⟨b,o,ha,hca⟩:=(h2.mono K4.le).get hy
  repeat' (refine kr_ ?_)
  refine⟨b,o,ha,by omega,by omega,_,by rw [Int.toNat_natCast];exact hca,?_⟩
  refine DT (hs.mono K4.le) hm hc fun s2 h5 l5=>⟨_,_,rfl,?_⟩
  have K5:=K4.mono l5
  clear K4
  refine ap (fun J=>J (!(jr (ak m.nodes 36) x&&jr (ak m.nodes 35) y))) ?_ (fun J hJ=>?_)
  ·refine ac (fun e=>?_) (fun e=>?_)
   ·rw [Bool.not_eq_true',Bool.and_eq_false_iff]at e
    have:(xs.all (jr (ak m.nodes 36))&&ys.all (jr (ak m.nodes 35)))=false:=by
     rcases e with e|e
     ·rw [vT hx e,Bool.false_and]
     ·rw [vT hy e,Bool.and_false]
    rw [this]at k
    exact⟨h,K5.le,k⟩
   ·rw [Bool.not_eq_false',Bool.and_eq_true]at e
    rw [aC (by omega)]
    exact hnx hlt _ _ ⟨rfl,Dq hx e.1 a1,Dq hy e.2 a2,K5⟩
  ·refine ac (fun e=>?_) (fun e=>?_)
   ·rw [Bool.not_eq_true']at e;rw [e]at hJ;exact hJ
   ·rw [Bool.not_eq_false']at e;rw [e,Bool.true_and]at hJ;exact hJ
 ·repeat' (refine kr_ ?_)
  refine aX hs2 hm ⟨_,rfl,?_⟩
  refine ac (fun e=>hJ.1 (by unfold Aj;rw [decide_eq_false (fun q=>by rw [q]at e;simp at e)];rfl)) (fun e=>?_)
  have hc:ax m=0:=by simpa using e
  repeat' (refine kr_ ?_)
  rw [ls]
  refine dH ⟨_,rfl,ac (fun e=>hJ.1 (by rw [Bool.not_eq_true']at e;unfold Aj;rw [e,Bool.false_and,Bool.and_false])) (fun e=>?_)⟩
  rw [Bool.not_eq_false']at e
  have e2:=of_decide_eq_true e
  repeat' (refine kr_ ?_)
  by_cases hl:ys.length=xs.length
  ·rw [show ((sI.n:Int) !=((sS.n:Nat):Int))=false by rw [lt,ls,hl];simp]
   exact hJ.2 hc (by omega) hl (by unfold Aj;rw [decide_eq_true hc,e,decide_eq_true hl];rfl)
  ·rw [show ((sI.n:Int) !=((sS.n:Nat):Int))=true by rw [lt,ls,bne_iff_ne];omega]
   exact hJ.1 (by unfold Aj;rw [decide_eq_false hl,Bool.and_false,Bool.and_false])
theorem lV {h:Hp} {M:MSl} {m:ah} {t:Sl} {vs:List (List Nat)} {R:Value->Hp->Prop} (hs:aO h M m) (hm:bW m) (hc:ax m=0)
  (hv:IntSS h t (vs.map VL)) (hf:j7 m.nodes (inP m) vs) (k:R (.bool true) h):jG #[aQ M,t.v] h R:=by
 refine ACalls.drop (CG ?_)
 refine uf_ ?_
 have g:=cr hc
 refine aj fun b8 h1 hb8 l1 f8=>?_
 repeat' (refine ku_ ?_)
 refine aX (hs.up (by((focus ((repeat (first|exact Hp.le_refl _|assumption|(refine Hp.le_trans ?_ (by assumption))));done))))) hm ⟨_,rfl,aM (by rw [hc];rfl) ?_⟩
 repeat' (refine ku_ ?_)
 refine cU (hs.up (by((focus ((repeat (first|exact Hp.le_refl _|assumption|(refine Hp.le_trans ?_ (by assumption))));done))))) hm fun p h2 l2 i2=>⟨p,rfl,?_⟩
 repeat' (refine ku_ ?_)
 exact Ef (hs.up (by((focus ((repeat (first|exact Hp.le_refl _|assumption|(refine Hp.le_trans ?_ (by assumption))));done))))) hm g.ok i2 (cO g 35) (jb g 35) (hv.up (by((focus ((repeat (first|exact Hp.le_refl _|assumption|(refine Hp.le_trans ?_ (by assumption))));done))))) hf ⟨_,rfl,h,by((focus ((repeat (first|exact Hp.le_refl _|assumption|(refine Hp.le_trans ?_ (by assumption))));done))),k⟩
theorem jg (m:ah) (ps:List Nat) (c:Nat):j7 m.nodes ps (fy m.nodes ps c):=by rw [qi];exact Nk _ _ _
theorem sx {h:Hp} {M:MSl} {m:ah} {sS sI:Sl} {c d:Nat} {R:Value->Hp->Prop} (hs:aO h M m) (hm:bW m) (hc:ax m=0)
  (h1:IntSS h sS ((fy m.nodes (stP m) c).map VL)) (h2:IntSS h sI ((fy m.nodes (inP m) d).map VL)) (k:R (.bool (gZ m (cl m c d))) h):jN #[aQ M,sS.v,sI.v] h R:=by
 refine ACalls.drop (CE ?_)
 refine uf_ ?_
 have g:=cr hc
 refine aj fun b9 g1 hb9 l1 f9=>?_
 repeat' (refine ku_ ?_)
 refine gM (hs.up (by((focus ((repeat (first|exact Hp.le_refl _|assumption|(refine Hp.le_trans ?_ (by assumption))));done))))) hm hc (h1.up (by((focus ((repeat (first|exact Hp.le_refl _|assumption|(refine Hp.le_trans ?_ (by assumption))));done))))) (jg ..) ⟨_,rfl,aM rfl ?_⟩
 repeat' (refine ku_ ?_)
 refine lV (hs.up (by((focus ((repeat (first|exact Hp.le_refl _|assumption|(refine Hp.le_trans ?_ (by assumption))));done))))) hm hc (h2.up (by((focus ((repeat (first|exact Hp.le_refl _|assumption|(refine Hp.le_trans ?_ (by assumption))));done))))) (jg ..) ⟨_,rfl,aM rfl ?_⟩
 repeat' (refine ku_ ?_)
 refine pV (hs.up (by((focus ((repeat (first|exact Hp.le_refl _|assumption|(refine Hp.le_trans ?_ (by assumption))));done))))) hm g.ok g.nl (h1.up (by((focus ((repeat (first|exact Hp.le_refl _|assumption|(refine Hp.le_trans ?_ (by assumption))));done))))) (lO 36 c g) (h2.up (by((focus ((repeat (first|exact Hp.le_refl _|assumption|(refine Hp.le_trans ?_ (by assumption))));done))))) (lO 35 d g) fun t g2 l2 hn hpv _=>⟨t,rfl,?_⟩
 repeat' (refine ku_ ?_)
 exact v5 (hs.up (by((focus ((repeat (first|exact Hp.le_refl _|assumption|(refine Hp.le_trans ?_ (by assumption))));done))))) g hpv (eD g c d) ⟨_,rfl,h,by((focus ((repeat (first|exact Hp.le_refl _|assumption|(refine Hp.le_trans ?_ (by assumption))));done))),k⟩
theorem vX {h:Hp} {M:MSl} {m:ah} {sS sI:Sl} {c d:Nat} {R:Value->Hp->Prop} (hs:aO h M m) (hm:bW m) (hc:ax m=0)
  (h1:IntSS h sS ((fy m.nodes (stP m) c).map VL)) (h2:IntSS h sI ((fy m.nodes (inP m) d).map VL)) (k:R (I (xQ m (cl m c d))) h):ld #[aQ M,sS.v,sI.v] h R:=by
 refine ACalls.drop (G3 ?_)
 refine uf_ ?_
 have g:=cr hc
 refine aj fun b9 g1 hb9 l1 f9=>?_
 refine ap (fun J=>J false g1) (aE rfl ?_) (fun J hJ=>?_)
 ·repeat' (refine ku_ ?_)
  refine pV (hs.up (by((focus ((repeat (first|exact Hp.le_refl _|assumption|(refine Hp.le_trans ?_ (by assumption))));done))))) hm g.ok g.nl (h1.up (by((focus ((repeat (first|exact Hp.le_refl _|assumption|(refine Hp.le_trans ?_ (by assumption))));done))))) (lO 36 c g) (h2.up (by((focus ((repeat (first|exact Hp.le_refl _|assumption|(refine Hp.le_trans ?_ (by assumption))));done))))) (lO 35 d g) fun t g2 l2 hn hpv _=>⟨t,rfl,?_⟩
  repeat' (refine ku_ ?_)
  exact Ar (hs.up (by((focus ((repeat (first|exact Hp.le_refl _|assumption|(refine Hp.le_trans ?_ (by assumption))));done))))) g hpv (eD g c d) ⟨_,rfl,h,by((focus ((repeat (first|exact Hp.le_refl _|assumption|(refine Hp.le_trans ?_ (by assumption))));done))),k⟩
 ·repeat' (refine ku_ ?_)
  refine gM (hs.up (by((focus ((repeat (first|exact Hp.le_refl _|assumption|(refine Hp.le_trans ?_ (by assumption))));done))))) hm hc (h1.up (by((focus ((repeat (first|exact Hp.le_refl _|assumption|(refine Hp.le_trans ?_ (by assumption))));done))))) (jg ..) ⟨_,rfl,aE rfl ?_⟩
  repeat' (refine ku_ ?_)
  exact lV (hs.up (by((focus ((repeat (first|exact Hp.le_refl _|assumption|(refine Hp.le_trans ?_ (by assumption))));done))))) hm hc (h2.up (by((focus ((repeat (first|exact Hp.le_refl _|assumption|(refine Hp.le_trans ?_ (by assumption))));done))))) (jg ..) ⟨_,rfl,hJ⟩
theorem PQ {m:ah} (g:dj m) {p k:Nat} (h:cf m.nexts p=some k):k<m.nodes.length:=by
 obtain⟨b,hb,hs,rfl⟩:=fS h
 obtain⟨h1,h2,h3,h4⟩:=gz (g.nex b hb)
 have h2':=fC.1 h2
 omega
set_option maxHeartbeats 1000000 in
theorem zU {h:Hp} {M:MSl} {m:ah} {sS sI sT:Sl} {c d:Nat} {vs:List (List Nat)} {R:Value->Hp->Prop} (hs:aO h M m) (hm:bW m) (hc:ax m=0)
  (h1:IntSS h sS ((fy m.nodes (stP m) c).map VL)) (h2:IntSS h sI ((fy m.nodes (inP m) d).map VL)) (hv:IntSS h sT (vs.map VL)) (hf:j7 m.nodes (stP m) vs)
  (k:R (.bool (gj (stP m) (gH m (cl m c d)) vs (stP m).length)) h):mP #[aQ M,sS.v,sI.v,sT.v] h R:=by
 refine ACalls.drop (Fo ?_)
 refine uf_ ?_
 have g:=cr hc
 have hil:=g.xl
 have hnl:=g.nl
 have hp36:(stP m).length<=m.nodes.length:=fz m.nodes 36
 have htn:=hv.len
 rw [List.length_map]at htn
 have hvl:=oP hf
 have hbn: ∀b∈m.nexts,0<=b.node:=fun b hb=>by
  have h2':=fC.1 (gz (g.nex b hb)).2.1
  omega
 refine aj fun b8 g1 hb8 l1 f8=>?_
 refine ap (fun J=>J false g1) (aE rfl ?_) (fun J hJ=>?_)
 rotate_left
 ·repeat' (refine ku_ ?_)
  refine gM (hs.up (by((focus ((repeat (first|exact Hp.le_refl _|assumption|(refine Hp.le_trans ?_ (by assumption))));done))))) hm hc (h1.up (by((focus ((repeat (first|exact Hp.le_refl _|assumption|(refine Hp.le_trans ?_ (by assumption))));done))))) (jg ..) ⟨_,rfl,aE rfl ?_⟩
  repeat' (refine ku_ ?_)
  refine lV (hs.up (by((focus ((repeat (first|exact Hp.le_refl _|assumption|(refine Hp.le_trans ?_ (by assumption))));done))))) hm hc (h2.up (by((focus ((repeat (first|exact Hp.le_refl _|assumption|(refine Hp.le_trans ?_ (by assumption))));done))))) (jg ..) ⟨_,rfl,aE rfl ?_⟩
  repeat' (refine ku_ ?_)
  exact gM (hs.up (by((focus ((repeat (first|exact Hp.le_refl _|assumption|(refine Hp.le_trans ?_ (by assumption))));done))))) hm hc (hv.up (by((focus ((repeat (first|exact Hp.le_refl _|assumption|(refine Hp.le_trans ?_ (by assumption))));done))))) hf ⟨_,rfl,hJ⟩
 repeat' (refine ku_ ?_)
 refine pV (hs.up (by((focus ((repeat (first|exact Hp.le_refl _|assumption|(refine Hp.le_trans ?_ (by assumption))));done))))) hm g.ok g.nl (h1.up (by((focus ((repeat (first|exact Hp.le_refl _|assumption|(refine Hp.le_trans ?_ (by assumption))));done))))) (lO 36 c g) (h2.up (by((focus ((repeat (first|exact Hp.le_refl _|assumption|(refine Hp.le_trans ?_ (by assumption))));done))))) (lO 35 d g) fun vt g2 l2 hvn hpv _=>⟨vt,rfl,?_⟩
 repeat' (refine ku_ ?_)
 refine cU (hs.up (by((focus ((repeat (first|exact Hp.le_refl _|assumption|(refine Hp.le_trans ?_ (by assumption))));done))))) hm fun pt g3 l3 ip=>⟨pt,rfl,?_⟩
 have hpn:pt.n=(stP m).length:=by have:=ip.len;rw [aY]at this;exact this
 have f83:=l3 _ _ (l2 _ _ f8)
 have l03:=Hp.le_trans l1 (Hp.le_trans l2 l3)
 have aV:=eD g c d
 replace hpv:gD g3 vt (cl m c d):=gD.mono l3 hpv
 generalize cl m c d=v at*
 clear l2 l3 l1 hb8 f8 g2
 refine av (stP m).length (fun i ws h'=>g3.le h'/\ws= [sT.v, .pointer (some ⟨b8,0,none⟩),vt.v,pt.v,I i]/\gj (stP m) (gH m v) vs i=true) ⟨Hp.le_refl _,rfl,rfl⟩ ?_
 rintro i _ h4 next hi ⟨l4,rfl,hg⟩ hnx
 have l04:=Hp.le_trans l03 l4
 refine⟨sT,_,_,vt,pt,_,rfl,?_⟩
 by_cases hlt:i<(stP m).length
 rotate_left
 ·have hie:i=(stP m).length:=by omega
  subst hie
  refine aE (by simp;omega) ⟨_,l04,dq hg.symm k⟩
 refine aM (by simp;omega) ?_
 obtain⟨p,hpi⟩: ∃p,(stP m)[i]?=some p:=⟨_,List.getElem?_eq_getElem hlt⟩
 have hsucc:=Ea (f:=gH m v) (vs:=vs) hpi
 rw [hg,Bool.true_and]at hsucc
 obtain⟨b,o,ha,hcc⟩:=(ip.mono l4).get (gU hpi)
 refine⟨b,o,ha,by omega,by omega,?_⟩
 (refine ku_ ?_)
 refine⟨_,hcc,?_⟩
 refine oU (hs.mono l04).nexts (by omega) hbn ⟨_,rfl,?_⟩
 refine ap (fun J=> ∀h',h4.le h'->J (!gj (stP m) (gH m v) vs (i+1)) h') ?_ (fun J hJ=>?_)
 ·intro h' l'
  refine ac (fun e=>⟨_,Hp.le_trans l04 l',dq ?_ k⟩) (fun e=>?_)
  ·symm;exact Ke (i:=i+1) (by omega) (by simpa using e)
  ·rw [aC (by omega)]
   exact hnx hlt _ _ ⟨Hp.le_trans l4 l',rfl,by simpa using e⟩
 cases hbo:cf m.nexts p with
 |none=>
  rw [show iq m.nexts p= -1 from by unfold iq;rw [hbo]]
  refine aE (by simp) ?_
  have hn:gH m v p=none:=by unfold gH;rw [hbo];rfl
  rw [hn]at hsucc
  have:=hJ h4 (Hp.le_refl _)
  rw [hsucc]at this;exact this
 |some q=>
  rw [show iq m.nexts p=(q:Int)from by unfold iq;rw [hbo]]
  refine aM (by simp) ?_
  have hq:=PQ g hbo
  have hsm:gH m v p=some (v.getD q []):=by unfold gH;rw [hbo];rfl
  have hfit:=uR g aV.fit hsm
  have hcl:=dm m.nodes p
  have hgv:=mu hf hpi
  rw [hsm]at hsucc
  obtain⟨bt,ot,c1,hta,htc,hcv⟩:=(hv.mono l04).getV (i:=i) (by omega)
  obtain⟨bv,ov,u,hua,hun,huc,huv⟩:=(hpv.mono l4).at (p:=(q:Int)) (by omega) (by rw [aV.len];omega)
  have hcn:=hcv.len
  rw [aY]at hcn
  refine⟨bt,ot,hta,by omega,by omega,bv,ov,hua,by omega,hun,c1,htc,u,huc,?_⟩
  rw [Int.toNat_natCast]at huv
  refine xt hcv huv (by rw [aY];omega) (by rw [aY,aY,hgv.1,hfit.1];exact Nat.le_refl _) ⟨_,rfl,?_⟩
  have:=hJ h4 (Hp.le_refl _)
  simp only at hsucc
  rw [hsucc]at this
  have e2:decide (VL (vs.getD i [])=VL (v.getD q []))=decide (vs.getD i []=v.getD q []):=by
   rw [Bool.eq_iff_iff,decide_eq_true_eq,decide_eq_true_eq,Iz]
  rw [e2];exact this
abbrev cAt (xs:List Int) (i:Nat):Nat:=(xs.getD i 0).toNat
def D7 (m:ah) (xs ys:List Int) (i:Nat):Bool:=gj (stP m) (gH m (cl m (cAt xs i) (cAt ys i))) (fy m.nodes (stP m) (cAt xs (i+1))) (stP m).length
def JU (m:ah) (xs ys:List Int) (i:Nat):Bool:=gZ m (cl m (cAt xs i) (cAt ys i))
def dK (m:ah) (xs ys:List Int):Int:=
 if qZ m xs ys=false then 1 else
 if gj (stP m) (ez m) (fy m.nodes (stP m) (cAt xs 0)) (stP m).length=false then 2 else
 if(List.range (xs.length-1)).all (D7 m xs ys)=false then 3 else
 if(List.range xs.length).all (JU m xs ys)=false then 4 else
 if xQ m (cl m (cAt xs (xs.length-1)) (cAt ys (xs.length-1)))<0 then 5 else 0
theorem qT {m:ah} {xs ys:List Int} (h:qZ m xs ys=true):ax m=0/\1<=xs.length/\xs.length<=301/\ys.length=xs.length/\
  (∀i,i<xs.length->xs[i]?=some ((cAt xs i:Nat):Int)/\cAt xs i<2^ak m.nodes 36)/\ ∀i,i<xs.length->ys[i]?=some ((cAt ys i:Nat):Int)/\cAt ys i<2^ak m.nodes 35:=by
 unfold qZ at h
 simp only [Bool.and_eq_true,decide_eq_true_eq]at h
 obtain⟨⟨h1,⟨h2,h3⟩,h4⟩,h5,h6⟩:=h
 have key: ∀{n:Nat} {l:List Int},l.all (jr n)=true-> ∀i,i<l.length->l[i]?=some ((cAt l i:Nat):Int)/\cAt l i<2^n:=by
  intro n l ha i hi
  have e:l[i]?=some l[i]:=List.getElem?_eq_getElem hi
  have hb:=gv.1 (List.all_eq_true.1 ha _ (List.getElem_mem hi))
  have hc:cAt l i=l[i].toNat:=by unfold cAt;rw [List.getD_eq_getElem?_getD,e];rfl
  rw [hc,e]
  exact⟨by rw [Int.toNat_of_nonneg hb.1],by omega⟩
 exact⟨h1,by omega,by omega,h4,key h5,fun i hi=>key h6 i (by omega)⟩
theorem zk {n:Nat} {f:Nat->Bool} (h:(List.range n).all f=true) (e:f n=true):(List.range (n+1)).all f=true:=by
 rw [List.range_succ,List.all_append,h];simp [e]
theorem B8 {n i:Nat} {f:Nat->Bool} (hi:i<n) (e:f i=false):(List.range n).all f=false:=by
 rw [Bool.eq_false_iff]
 intro q
 rw [List.all_eq_true.1 q i (List.mem_range.2 hi)]at e;cases e
set_option maxHeartbeats 2000000 in
theorem rE {h:Hp} {M:MSl} {m:ah} {sS sI:Sl} {xs ys:List Int} {R:Value->Hp->Prop} (hs:aO h M m) (hm:bW m) (h1:IntS h sS xs) (h2:IntS h sI ys)
  (k:R (I (dK m xs ys)) h):lH #[aQ M, .agg #[sS.v,sI.v]] h R:=by
 refine ACalls.drop (CR ?_)
 refine uf_ ?_
 have K0:=Kn.nil h
 (with_reducible apply Kn.al);(assumption);(intro b9 g1 K1 l1 hb9)
 (with_reducible apply Kn.al);(assumption);(intro b11 g2 K2 l2 hb11)
 clear K1 K0
 have ls:=h1.len
 have lt:=h2.len
 unfold dK at k
 repeat' (refine kr_ ?_)
 refine LT (hs.mono K2.le) hm (h1.mono K2.le) (h2.mono K2.le) ⟨_,rfl,ac (fun e=>?_) (fun e=>?_)⟩
 ·rw [Bool.not_eq_true']at e
  rw [if_pos e]at k
  exact⟨h,K2.le,k⟩
 rw [Bool.not_eq_false']at e
 obtain⟨hc,n1,n2,n3,hx,hy⟩:=qT e
 rw [if_neg (by rw [e];decide)]at k
 clear e
 have g:=cr hc
 have at_: ∀{h':Hp} {R':Value->Hp->Prop} (i:Nat),h.le h'->i<xs.length->(∀s t h'',h'.le h''->IntSS h'' s ((fy m.nodes (stP m) (cAt xs i)).map VL)->IntSS h'' t ((fy m.nodes (inP m) (cAt ys i)).map VL)->R' (.tuple #[Sl.v s,Sl.v t]) h'')->
   jR #[aQ M, .agg #[sS.v,sI.v],I (i:Nat)] h' R':=fun i l hi kk=>R9 (hs.mono l) hm g (h1.mono l) (h2.mono l) (hx i hi).1 (hy i hi).1 (hx i hi).2 (hy i hi).2 kk
 repeat' (refine kr_ ?_)
 refine at_ 0 K2.le (by omega) fun s0 t0 g3 l3 i0 j0=>⟨_,_,rfl,?_⟩
 have K3:=K2.mono l3
 clear K2
 repeat' (refine kr_ ?_)
 refine kb (hs.mono K3.le) hm hc i0 (jg ..) ⟨_,rfl,ac (fun e=>?_) (fun e=>?_)⟩
 ·rw [Bool.not_eq_true']at e
  rw [if_pos e]at k
  exact⟨h,K3.le,k⟩
 rw [Bool.not_eq_false']at e
 rw [if_neg (by rw [e];decide)]at k
 clear e i0 j0 hb9 hb11 l1 l2
 refine av (xs.length-1) (fun i vs h'=>vs= [.pointer (some ⟨b9,0,none⟩), .pointer (some ⟨b11,0,none⟩),I (i:Nat)]/\(List.range i).all (D7 m xs ys)=true/\
  Kn h h' ((b11, .inl ⟨[sS.v,sI.v],2,false⟩)::(b9, .inl ⟨aw M,5,false⟩):: [])) ⟨rfl,rfl,K3⟩ ?_
 clear K3 l3 g3 g2 g1
 rintro i _ h3 next hi ⟨rfl,a1,K3⟩ hnx
 refine⟨b9,0,b11,0,_,rfl,?_⟩
 (refine kr_ ?_)
 rw [aC (by omega)]
 by_cases hlt:i<xs.length-1
 ·refine aM (by rw [decide_eq_true_eq];omega) ?_
  repeat' (refine kr_ ?_)
  refine at_ i K3.le (by omega) fun s1 t1 h4 l4 i1 j1=>⟨_,_,rfl,?_⟩
  have K4:=K3.mono l4
  clear K3
  repeat' (refine kr_ ?_)
  refine at_ (i+1) K4.le (by omega) fun s2 t2 h5 l5 i2 j2=>⟨_,_,rfl,?_⟩
  have K5:=K4.mono l5
  clear K4
  repeat' (refine kr_ ?_)
  refine zU (hs.mono K5.le) hm hc (i1.mono l5) (j1.mono l5) i2 (jg ..) ⟨_,rfl,ac (fun e=>?_) (fun e=>?_)⟩
  ·rw [Bool.not_eq_true']at e
   rw [if_pos (B8 hlt e)]at k
   exact⟨h,K5.le,k⟩
  ·rw [Bool.not_eq_false']at e
   exact hnx hlt _ _ ⟨rfl,zk a1 e,K5⟩
 refine aE (by rw [decide_eq_false_iff_not];omega) ?_
 clear hnx
 obtain rfl:i=xs.length-1:=by omega
 rw [if_neg (by rw [a1];decide)]at k
 clear a1 hlt hi
 refine av xs.length (fun i vs h'=>vs= [.pointer (some ⟨b9,0,none⟩), .pointer (some ⟨b11,0,none⟩),I (i:Nat)]/\(List.range i).all (JU m xs ys)=true/\
  Kn h h' ((b11, .inl ⟨[sS.v,sI.v],2,false⟩)::(b9, .inl ⟨aw M,5,false⟩):: [])) ⟨rfl,rfl,K3⟩ ?_
 clear K3 h3
 rintro i _ h3 next2 hi ⟨rfl,a1,K3⟩ hnx
 refine⟨b9,0,b11,0,_,rfl,?_⟩
 (refine kr_ ?_)
 by_cases hlt:i<xs.length
 ·refine aM (by rw [decide_eq_true_eq];omega) ?_
  repeat' (refine kr_ ?_)
  refine at_ i K3.le (by omega) fun s1 t1 h4 l4 i1 j1=>⟨_,_,rfl,?_⟩
  have K4:=K3.mono l4
  clear K3
  repeat' (refine kr_ ?_)
  refine sx (hs.mono K4.le) hm hc i1 j1 ⟨_,rfl,ac (fun e=>?_) (fun e=>?_)⟩
  ·rw [Bool.not_eq_true']at e
   rw [if_pos (B8 hlt e)]at k
   exact⟨h,K4.le,k⟩
  ·rw [Bool.not_eq_false']at e
   rw [aC (by omega)]
   exact hnx hlt _ _ ⟨rfl,zk a1 e,K4⟩
 refine aE (by rw [decide_eq_false_iff_not];omega) ?_
 clear hnx
 obtain rfl:i=xs.length:=by omega
 rw [if_neg (by rw [a1];decide)]at k
 repeat' (refine kr_ ?_)
 rw [show W ((sS.n:Int)-1)=((xs.length-1:Nat):Int) by rw [bU (by omega) (by omega)];omega]
 refine at_ (xs.length-1) K3.le (by omega) fun s1 t1 h4 l4 i1 j1=>⟨_,_,rfl,?_⟩
 have K4:=K3.mono l4
 clear K3
 repeat' (refine kr_ ?_)
 refine vX (hs.mono K4.le) hm hc i1 j1 ⟨_,rfl,ac (fun e=>?_) (fun e=>?_)⟩
 ·rw [if_pos (of_decide_eq_true e)]at k
  exact⟨h,K4.le,k⟩
 ·rw [if_neg (of_decide_eq_false e)]at k
  exact⟨h,K4.le,k⟩
theorem Qy {h:Hp} {s:Sl} {xs:List Int} {x:Int} {i:Nat} {R:Value->Hp->Prop} (hs:IntS h s xs) (hi:xs[i]?=some x) (hf: ∀j,j<i->xs[j]?≠some x) (k:R (I (i:Nat)) h):jI #[s.v,I x] h R:=by
 apply uO
 refine uf_ ?_
 have ls:=hs.len
 have hb:=hs.bound
 have hil:=get_lt hi
 refine av i (fun j vs h'=>vs= [s.v,I x,I (s.n:Nat),I (j:Nat)]/\h'=h) ⟨rfl,rfl⟩ ?_
 rintro j _ _ next hj ⟨rfl,rfl⟩ hnx
 refine⟨s,_,_,_,rfl,?_⟩
 refine aM (by rw [decide_eq_true_eq];omega) ?_
 obtain⟨y,hy⟩: ∃y,xs[j]?=some y:=⟨_,List.getElem?_eq_getElem (by omega)⟩
 obtain⟨b,o,ha,hc⟩:=hs.get hy
 refine⟨b,o,ha,by omega,by omega,_,by rw [Int.toNat_natCast];exact hc,?_⟩
 by_cases hlt:j<i
 ·refine aE (by rw [beq_eq_false_iff_ne];exact fun e=>hf j hlt (by rw [e];exact hy)) ?_
  rw [aC (by omega)]
  exact hnx hlt _ _ ⟨rfl,rfl⟩
 ·obtain rfl:j=i:=by omega
  rw [hi]at hy
  obtain rfl:=Option.some.inj hy
  exact aM (by simp) k
abbrev pJ (xs ys:List Int):List (Nat×Nat):=(List.range xs.length).map fun i=>(cAt xs i,cAt ys i)
theorem GV {xs ys:List Int} {i:Nat} {a:Nat×Nat} (h:(pJ xs ys)[i]?=some a):i<xs.length/\a=(cAt xs i,cAt ys i):=by
 have hi:=get_lt h
 have hl:i<xs.length:=by simpa using hi
 refine⟨hl,?_⟩
 rw [List.getElem?_map,List.getElem?_range hl]at h
 exact(Option.some.inj h).symm
theorem vd {xs ys:List Int} {i:Nat} (h:i<xs.length):(pJ xs ys)[i]?=some (cAt xs i,cAt ys i):=by
 rw [List.getElem?_map,List.getElem?_range h];rfl
theorem yL {m:ah} {s x:Nat} (hs:s<2^ak m.nodes 36):(aG m).hold ((aG m).at_ s x)=gZ m (cl m s x)/\(aG m).bad ((aG m).at_ s x)=(qC m (cl m s x)).isSome:=by
 have h1:(x*2^ak m.nodes 36+s)%2^ak m.nodes 36=s:=by rw [Nat.mul_add_mod_self_right,Nat.mod_eq_of_lt hs]
 have h2:(x*2^ak m.nodes 36+s)/2^ak m.nodes 36=x:=by
  rw [Nat.mul_comm,Nat.mul_add_div (Nat.two_pow_pos _),Nat.div_eq_of_lt hs,Nat.add_zero]
 constructor
 ·show gZ m (cl m ((x*2^ak m.nodes 36+s)%2^ak m.nodes 36) ((x*2^ak m.nodes 36+s)/2^ak m.nodes 36))=_
  rw [h1,h2]
 ·show (qC m (cl m ((x*2^ak m.nodes 36+s)%2^ak m.nodes 36) ((x*2^ak m.nodes 36+s)/2^ak m.nodes 36))).isSome=_
  rw [h1,h2]
theorem Hr {m:ah} {xs ys:List Int} (h:dK m xs ys=0):ax m=0/\1<=xs.length/\xs.length<=301/\ys.length=xs.length/\(aG m).Path (aG m).begins (pJ xs ys):=by
 unfold dK at h
 obtain⟨h1,h⟩:=ku (by decide) h
 obtain⟨h2,h⟩:=ku (by decide) h
 obtain⟨h3,h⟩:=ku (by decide) h
 obtain⟨h4,h⟩:=ku (by decide) h
 obtain⟨h5,_⟩:=ku (by decide) h
 rw [Bool.not_eq_false]at h1 h2 h3 h4
 obtain⟨hc,n1,n2,n3,hx,hy⟩:=qT h1
 have g:=cr hc
 refine⟨hc,n1,n2,n3,XQ _ _ ⟨_,vd (by omega),?_⟩ ?_ ?_ ⟨_,by rw [List.length_map,List.length_range];exact vd (by omega),?_⟩⟩
 ·rw [wh g];exact jl.1 h2
 ·intro a ha
  obtain⟨i,hi,rfl⟩:=List.mem_map.1 ha
  have hi':=List.mem_range.1 hi
  refine⟨(hx i hi').2,(hy i hi').2,?_⟩
  rw [(yL (hx i hi').2).1]
  exact List.all_eq_true.1 h4 i hi
 ·intro i a b ha hb
  obtain⟨_,rfl⟩:=GV ha
  obtain⟨hl,rfl⟩:=GV hb
  rw [Ox g (hx i (by omega)).2]
  exact jl.1 (List.all_eq_true.1 h3 i (List.mem_range.2 (by omega)))
 ·rw [(yL (hx _ (by omega)).2).2]
  unfold xQ at h5
  cases hb:qC m (cl m (cAt xs (xs.length-1)) (cAt ys (xs.length-1)))with
  |none=>rw [hb]at h5;exact absurd (show (-1:Int)<0 by decide) h5
  |some d=>rfl
theorem CH (l:List NodeP) (k:Int):(aH l k).Nodup:=List.Nodup.sublist List.filter_sublist List.nodup_range
theorem HA {α:Type} {l:List α} (nd:l.Nodup) {i:Nat} {p:α} (h:l[i]?=some p): ∀j,j<i->l[j]?≠some p:=by
 intro j hj e
 have h1:=get_lt h
 have h2:=get_lt e
 rw [List.getElem?_eq_getElem h1]at h
 rw [List.getElem?_eq_getElem h2]at e
 exact absurd ((List.getElem_inj nd (h₀:=h2) (h₁:=h1)).1 ((Option.some.inj e).trans (Option.some.inj h).symm)) (by omega)
theorem Na {α:Type} {l:List α} (nd:l.Nodup) {i j:Nat} {p:α} (h:l[i]?=some p) (e:l[j]?=some p):i=j:=by
 rcases Nat.lt_trichotomy i j with h1|h1|h1
 ·exact absurd h (HA nd e i h1)
 ·exact h1
 ·exact absurd e (HA nd h j h1)
theorem MC {binds:List BindP} (ag:jK (binds.map (·.state))=false) {b:BindP} (hb:b∈binds) {p:Nat} (e:b.state=(p:Int)):cf binds p=some b.node.toNat:=by
 cases hx:cf binds p with
 |none=>exact absurd e (P7 hx b hb)
 |some k=>
  obtain⟨b',hb',hs',rfl⟩:=fS hx
  obtain⟨i,hi⟩:=List.getElem?_of_mem hb
  obtain⟨j,hj⟩:=List.getElem?_of_mem hb'
  have key: ∀{i j:Nat} {x y:BindP},binds[i]?=some x->binds[j]?=some y->x.state=y.state-> ¬i<j:= @fun i j x y hi hj e h=>by
   refine CU ag hj _ ?_ e
   have h1:=get_lt hi
   refine List.mem_of_getElem? (i:=i) ?_
   rw [List.getElem?_take,if_pos h];exact hi
  have h1:=key hi hj (e.trans hs'.symm)
  have h2:=key hj hi (hs'.trans e.symm)
  obtain rfl:i=j:=by omega
  rw [hi]at hj
  rw [Option.some.inj hj]
theorem Hl {l:List Nat} {i:Nat} {x:Nat} (h:l[i]?=some x):(VL l)[i]?=some (x:Int):=by unfold VL;rw [List.getElem?_map,h];rfl
theorem aco {l:List Nat} {i:Nat} {x:Nat} (h:(VL l)[i]?=some (x:Int)):l[i]?=some x:=by
 unfold VL at h
 rw [List.getElem?_map,Option.map_eq_some_iff]at h
 obtain⟨y,hy,e⟩:=h
 rw [hy];exact congrArg some (by omega)
set_option maxHeartbeats 1000000 in
theorem uM {h:Hp} {M:MSl} {m:ah} {sB sV sT:Sl} {binds:List BindP} {v vs:List (List Nat)} {F:Nat->Option (List Nat)} {R:Value->Hp->Prop} (hs:aO h M m) (hm:bW m) (g:dj m)
  (hb:rA h sB binds) (hbl:binds.length<=60) (hpv:gD h sV v) (hT:IntSS h sT (vs.map VL)) (hvl:vs.length=(stP m).length) (hvs: ∀x∈vs,x.length<=4)
  (hin: ∀b∈binds,∃p:Nat,b.state=(p:Int)/\p∈stP m/\0<=b.node/\b.node<v.length/\0<(v.getD b.node.toNat []).length/\(v.getD b.node.toNat []).length<=4/\F p=some (nw (aK m.nodes p) (v.getD b.node.toNat [])))
  (hF: ∀p x,F p=some x-> ∃b∈binds,b.state=(p:Int))
  (k:R (.bool (gj (stP m) F vs (stP m).length)) h):kc #[aQ M,sB.v,sV.v,sT.v] h R:=by
 refine ACalls.drop (AM ?_)
 refine uf_ ?_
 have K0:=Kn.nil h
 (with_reducible apply Kn.al);(assumption);(intro b10 h1 K1 l1 hb10)
 clear K0
 have hbn:=hb.len
 have hTn:=hT.len
 rw [List.length_map]at hTn
 repeat' (refine kr_ ?_)
 refine eu (hs.mono K1.le) hm fun pt h2 l2 ip=>⟨_,rfl,?_⟩
 have K2:=K1.mono l2
 clear K1 l1 l2
 have hpn:pt.n=(stP m).length:=by have:=ip.len;rw [aY]at this;exact this
 have hpl:(stP m).length<=m.nodes.length:=fz m.nodes 36
 have nd:=CH m.nodes 36
 have hnl:=g.nl
 refine av binds.length (fun i ws h'=>ws= [sV.v,sT.v, .pointer (some ⟨b10,0,none⟩),pt.v,sB.v,I (sB.n:Nat),I (i:Nat)]/\IntS h' pt (VL (stP m))/\Kn h h' [(b10, .inl ⟨aw M,5,false⟩)]/\
  ∀(j:Nat) (b:BindP),j<i->binds[j]?=some b-> ∀(t p:Nat),(stP m)[t]?=some p->b.state=(p:Int)-> ∀x,F p=some x->vs.getD t []=x) ⟨rfl,ip,K2,fun j b hj=>by omega⟩ ?_
 clear K2 ip h2 h1 hb10
 rintro i _ h2 next hi ⟨rfl,ip,K2,hall⟩ hnx
 refine⟨sV,sT,b10,0,pt,sB,_,_,rfl,?_⟩
 by_cases hlt:i<binds.length
 rotate_left
 ·refine aE (by rw [decide_eq_false_iff_not];omega) ?_
  refine⟨h,K2.le,dq (Eq.symm (jl.2 fun t p ht x hx=>?_)) k⟩
  obtain⟨b,hbm,e⟩:=hF p x hx
  obtain⟨j,hj⟩:=List.getElem?_of_mem hbm
  exact hall j b (by have:=get_lt hj;omega) hj t p ht e x hx
 refine aM (by rw [decide_eq_true_eq];omega) ?_
 obtain⟨b,hbi⟩: ∃b,binds[i]?=some b:=⟨_,List.getElem?_eq_getElem hlt⟩
 obtain⟨p,ep,hp,n0,n1,v0,v4,hFp⟩:=hin b (List.mem_of_getElem? hbi)
 obtain⟨t,ht⟩:=List.getElem?_of_mem hp
 have htl:=get_lt ht
 have hpm:=cO g 36 p hp
 obtain⟨bi,oi,hai,cx1,cx2⟩:=(hb.mono K2.le).at hbi
 refine⟨bi,oi,hai,by omega,by omega,_,by rw [Int.toNat_natCast];exact cx1,_,by rw [Int.toNat_natCast];exact cx2,?_⟩
 clear hai cx1 cx2 bi oi
 refine Kn.al K2 fun b42 h3 K3 l3 hb42=>?_
 refine kw_ ?_
 intro h4 K4 kp4
 have l24:h2.le h4:=cL hb42 l3 kp4
 have ip4:=ip.mono l24
 clear K3 kp4 l3 hb42 h3
 refine ap (fun J=> ∀b' u h',Kn h h' ((b', .inl ⟨[Sl.v u],1,false⟩)::(b42, .inl ⟨[I b.state,I b.node],2,false⟩)::(b10, .inl ⟨aw M,5,false⟩):: [])->h4.le h'->
  IntS h' u (VL (nw (aK m.nodes p) (v.getD b.node.toNat [])))->J b' 0 h') (fun b' u h5 K5 l5 hu=>?_) (fun J hJ=>?_)
 ·repeat' (refine kr_ ?_)
  have ip5:=ip4.mono l5
  rw [ep]
  refine Qy ip5 (Hl ht) (fun j hj e=>HA nd ht j hj (aco e)) ⟨_,rfl,?_⟩
  repeat' (refine kr_ ?_)
  obtain⟨bt,ot,c,hat,hct,htc⟩:=(hT.mono K5.le).getV (i:=t) (by omega)
  refine⟨bt,ot,hat,by omega,by omega,c,by rw [Int.toNat_natCast];exact hct,?_⟩
  have hwl:(nw (aK m.nodes p) (v.getD b.node.toNat [])).length<=4:=by
   have:=dm m.nodes p
   unfold nw
   rw [List.length_append,List.length_replicate];omega
  refine xk hu htc (by rw [aY];omega) ⟨_,rfl,?_⟩
  refine ac (fun e=>⟨h,K5.le,dq (Eq.symm ?_) k⟩) (fun e=>?_)
  ·rw [Bool.not_eq_true',decide_eq_false_iff_not]at e
   rw [Bool.eq_false_iff]
   exact fun q=>e (by rw [jl.1 q t p ht _ hFp])
  ·rw [Bool.not_eq_false',decide_eq_true_eq]at e
   rw [aC (by omega)]
   refine hnx hlt _ _ ⟨rfl,ip5,K5.sub (fun e he=>by simp at he;simp [he]) (by simp),fun j b' hj hbj t' p' ht' ep' x hx=>?_⟩
   by_cases hji:j<i
   ·exact hall j b' hji hbj t' p' ht' ep' x hx
   ·obtain rfl:j=i:=by omega
    rw [hbi]at hbj
    obtain rfl:=Option.some.inj hbj
    obtain rfl:p=p':=by omega
    obtain rfl:=Na nd ht ht'
    rw [hFp]at hx
    rw [<-Option.some.inj hx]
    exact(Iz.1 e).symm
 ·repeat' (refine kr_ ?_)
  obtain⟨bn,on,han,hpn',c6,c7,w1,w16⟩:=hs.nodes.sortc2 hpm g.ok
  obtain⟨bv,ov,u,hav,hvn',hcv,hu⟩:=hpv.at n0 n1
  have xbn:=gY c6
  have xbv:=gY hcv
  replace c6:=K4.le.cell c6
  replace c7:=K4.le.cell c7
  replace hcv:=K4.le.cell hcv
  replace hu:=hu.mono K4.le
  rw [ep]
  refine⟨bn,on,han,by omega,hpn',_,c6,_,c7,?_⟩
  repeat' (refine kr_ ?_)
  refine⟨bv,ov,hav,n0,hvn',u,hcv,?_⟩
  clear han c6 c7 hav hvn' hcv hpn' w1 w16
  refine⟨?_,?_⟩
  ·refine yB hu v0 v4 fun t2 h5 l5 ht2=>⟨_,rfl,?_⟩
   rw [qN g.ok hpm]at ht2
   have K5:=K4.mono l5
   refine Kn.al K5 fun b61 h6 K6 l6 hb61=>?_
   repeat' (refine kr_ ?_)
   clear K5 K4
   refine kw_ ?_
   intro h7 K7 kp7
   have l57:=cL hb61 l6 kp7
   exact hJ b61 t2 h7 K7 (Hp.le_trans l5 l57) (ht2.mono l57)
  ·refine Kn.al K4 fun b66 h5 K5 l5 hb66=>?_
   repeat' (refine kr_ ?_)
   clear K4
   refine yB (hu.mono l5) v0 v4 fun t2 h6 l6 ht2=>⟨_,rfl,?_⟩
   rw [qN g.ok hpm]at ht2
   have K6:=K5.mono l6
   clear K5
   refine kw_ ?_
   intro h7 K7 kp7
   have l57:h4.le h7:=cL hb66 (Hp.le_trans l5 l6) kp7
   exact hJ b66 t2 h7 K7 l57 (ht2.keep (K6.at (.head _)) kp7)
theorem gD.out {h:Hp} {t:Sl} {vs:List (List Nat)} {X:List (Nat×Blk)} {s:Sl} {ts:List Sl} (e:gD h t vs) (he: ∀p,p<vs.length->0<(vs.getD p []).length) (o:cw X s 1 (ts.map Sl.v)) (m: ∀e∈X,h e.1=some e.2)
  (hts: ∀(j:Nat) (u:Sl),ts[j]?=some u-> ∃ws,(0<vs.length->0<ws.length)/\gD h u ws):gD (h.wo (X.map Prod.fst)) t vs:=by
 rcases o.2.2 with ⟨rfl,_,_⟩|⟨b,_,rfl⟩
 ·exact e.mono fun c x hc=>by simp [Hp.wo,hc]
 have hb:=m _ (.head _)
 have kp: ∀c,c≠b->(h.wo [b]) c=h c:=fun c hc=>by simp [Hp.wo,hc]
 refine⟨e.1,e.2.1,fun p hp=>?_⟩
 obtain⟨b',o',t',h1,h2,h3⟩:=e.2.2 p hp
 refine⟨b',o',t',h1,?_,h3.keepN hb (uL ts) kp⟩
 have hne:b'≠b:=by
  rintro rfl
  rw [aq hb,List.getElem?_map,Option.map_eq_some_iff]at h2
  obtain⟨u,hu,hv⟩:=h2
  obtain⟨ws,hw,hpw⟩:=hts _ u hu
  obtain rfl:u=t':=by
   obtain⟨a1,a2,a3⟩:=u
   obtain⟨c1,c2,c3⟩:=t'
   cases hv;rfl
  obtain⟨b2,o2,u2,g1,g2,_⟩:=hpw.2.2 0 (hw (by omega))
  obtain⟨b3,o3,g3,g4,_⟩:=IntS.elt h3 (i:=0) (he p hp)
  rw [g1]at g3
  cases g3
  rw [g2]at g4
  cases g4
 unfold Hp.cell at h2⊢
 rw [show (Hp.wo h (List.map Prod.fst [(b,(Sum.inl ⟨ts.map Sl.v,s.c*1,false⟩:Blk))])) b'=h b' from kp b' hne]
 exact h2
theorem YP {c:Nat} {v:List Nat} (h:v.length=c):nw c v=v:=by
 unfold nw
 rw [h,Nat.sub_self,List.replicate_zero,List.append_nil]
theorem NK {m:ah} {ps:List Nat} {c:Nat}: ∀x∈fy m.nodes ps c,x.length<=4:=by
 intro x hx
 unfold fy at hx
 obtain⟨i,_,rfl⟩:=List.mem_map.1 hx
 rw [qp]
 exact dm m.nodes (ps.getD i 0)
theorem Nj {l:List NodeP} {s:Int} (h:cY l s=true) (hk:jW l s=36): ∃p:Nat,s=(p:Int)/\p∈aH l 36:=by
 have hp:=fC.1 h
 refine⟨s.toNat,by omega,?_⟩
 unfold aH
 rw [List.mem_filter,List.mem_range]
 have hl:s.toNat<l.length:=by omega
 refine⟨hl,?_⟩
 unfold jW at hk
 rw [List.getElem?_eq_getElem hl]at hk⊢
 simpa using hk
theorem L8 {m:ah} (g:dj m): ∀b∈m.inits,∃p:Nat,b.state=(p:Int)/\p∈stP m/\0<=b.node/\b.node<(pa m).length/\0<((pa m).getD b.node.toNat []).length/\((pa m).getD b.node.toNat []).length<=4/\
  ez m p=some (nw (aK m.nodes p) ((pa m).getD b.node.toNat [])):=by
 intro b hb
 obtain⟨q1,q2,q3,_⟩:=pE (g.ini b hb)
 obtain⟨p,ep,hp⟩:=Nj q1 q3
 obtain⟨v1,v2,v3,v4,_⟩:=uH g hb
 refine⟨p,ep,hp,v1,by rw [(xY g).len];exact v2,v3,v4,?_⟩
 unfold ez
 rw [MC (qO g.twice).2.1 hb ep];rfl
theorem XJ {m:ah} (g:dj m) {v:List (List Nat)} (a:CA m v): ∀b∈m.nexts,∃p:Nat,b.state=(p:Int)/\p∈stP m/\0<=b.node/\b.node<v.length/\0<(v.getD b.node.toNat []).length/\(v.getD b.node.toNat []).length<=4/\
  gH m v p=some (nw (aK m.nodes p) (v.getD b.node.toNat [])):=by
 intro b hb
 obtain⟨q1,q2,q3,q4⟩:=gz (g.nex b hb)
 obtain⟨p,ep,hp⟩:=Nj q1 q3
 have n2:=fC.1 q2
 have hs:gH m v p=some (v.getD b.node.toNat []):=by
  unfold gH
  rw [MC (qO g.twice).2.2 hb ep];rfl
 have hf:=uR g a.fit hs
 have hq:=a.fit b.node.toNat (by omega) (by omega)
 have hc:=dm m.nodes p
 refine⟨p,ep,hp,n2.1,by rw [a.len];exact n2.2,hq.pos,by rw [hf.1];exact hc,?_⟩
 rw [YP hf.1];exact hs
theorem Zl {m:ah} {p:Nat} {x:List Nat} (h:ez m p=some x): ∃b∈m.inits,b.state=(p:Int):=by
 unfold ez at h
 rw [Option.map_eq_some_iff]at h
 obtain⟨k,hk,_⟩:=h
 obtain⟨b,hb,e,_⟩:=fS hk
 exact⟨b,hb,e⟩
theorem Yb {m:ah} {v:List (List Nat)} {p:Nat} {x:List Nat} (h:gH m v p=some x): ∃b∈m.nexts,b.state=(p:Int):=by
 unfold gH at h
 rw [Option.map_eq_some_iff]at h
 obtain⟨k,hk,_⟩:=h
 obtain⟨b,hb,e,_⟩:=fS hk
 exact⟨b,hb,e⟩
theorem SQ {m:ah} (g:dj m) (c d:Nat): ∀p,p<(cl m c d).length->0<((cl m c d).getD p []).length:=fun p hp=>by
 have a:=eD g c d
 rw [a.len]at hp
 exact(a.fit p hp hp).pos
set_option maxHeartbeats 4000000 in
theorem ry {h:Hp} {M:MSl} {m:ah} {sS sI:Sl} {xs ys:List Int} {R:Value->Hp->Prop} (hs:aO h M m) (hm:bW m) (h1:IntS h sS xs) (h2:IntS h sI ys) (hcap:sS.n<=sS.c)
  (k:R (I (dK m xs ys)) h):lD #[aQ M, .agg #[sS.v,sI.v]] h R:=by
 refine ACalls.drop (CV ?_)
 refine uf_ ?_
 have K0:=Kn.nil h
 (with_reducible apply Kn.al);(assumption);(intro b9 g1 K1 l1 hb9)
 (with_reducible apply Kn.al);(assumption);(intro b11 g2 K2 l2 hb11)
 clear K1 K0
 have ls:=h1.len
 have lt:=h2.len
 unfold dK at k
 repeat' (refine kr_ ?_)
 refine CP (hs.mono K2.le) hm (h1.mono K2.le) (h2.mono K2.le) ⟨_,rfl,ac (fun e=>?_) (fun e=>?_)⟩
 ·rw [Bool.not_eq_true']at e
  rw [if_pos e]at k
  exact⟨h,K2.le,k⟩
 rw [Bool.not_eq_false']at e
 obtain⟨hc,n1,n2,n3,hx,hy⟩:=qT e
 rw [if_neg (by rw [e];decide)]at k
 clear e
 have g:=cr hc
 have n8:=g.n8
 have k5:=g.k5
 have hp8:2^ak m.nodes 36<=2^8:=Nat.pow_le_pow_right (by omega) n8
 have hp5:2^ak m.nodes 35<=2^5:=Nat.pow_le_pow_right (by omega) k5
 repeat' (refine kr_ ?_)
 refine eu (hs.mono K2.le) hm fun ps h3 l3 ips=>⟨_,rfl,?_⟩
 have K3:=K2.mono l3
 repeat' (refine kr_ ?_)
 clear K2
 refine eu (hs.mono K3.le) hm fun pi h4 l4 ipi=>⟨_,rfl,?_⟩
 have K4:=K3.mono l4
 clear K3
 have ips4:=ips.mono l4
 repeat' (refine kr_ ?_)
 obtain⟨b61,o61,ha,hca⟩:=h1.get (hx 0 (by omega)).1
 have x61:=gY hca
 replace hca:=K4.le.cell hca
 refine⟨b61,o61,ha,by omega,by omega,_,hca,?_⟩
 refine Ck (hs.mono K4.le) hm g fun t0 h5 l5 _ hp0=>⟨_,rfl,?_⟩
 have K5:=K4.mono l5
 repeat' (refine kr_ ?_)
 refine tD (hs.mono K5.le) hm g.ok (ips4.mono l5) (cO g 36) (jb g 36) (by have:=(hx 0 (by omega)).2;omega) fun u0 h6 l6 iu _=>⟨_,rfl,?_⟩
 have K6:=K5.mono l6
 repeat' (refine kr_ ?_)
 refine uM (F:=ez m) (hs.mono K6.le) hm g (hs.mono K6.le).inits g.il (hp0.mono l6) iu (oP (jg ..)) NK (L8 g) (fun p x=>Zl) ⟨_,rfl,ac (fun e=>?_) (fun e=>?_)⟩
 ·rw [Bool.not_eq_true']at e
  rw [if_pos e]at k
  exact⟨h,K6.le,k⟩
 rw [Bool.not_eq_false']at e
 rw [if_neg (by rw [e];decide)]at k
 clear e K4 K5
 have l46:=Hp.le_trans l5 l6
 have f9:=K6.at (b:=b9) (by((focus ((repeat first|exact .head _|apply List.Mem.tail);done))))
 have f11:=K6.at (b:=b11) (by((focus ((repeat first|exact .head _|apply List.Mem.tail);done))))
 have hs6:=hs.mono K6.le
 have h16:=h1.mono K6.le
 have h26:=h2.mono K6.le
 have ips6:=ips4.mono l46
 have ipi6:=ipi.mono l46
 have l06:=K6.le
 repeat' (refine kr_ ?_)
 clear K6 iu hp0 ips4 ipi ips ha hca x61 l46 l6 l5 l4 l3 l2 l1 hb9 hb11 h3 h4 h5 g1 g2
 have pv: ∀i,i<xs.length->cAt xs i<2^ak m.nodes 36/\cAt ys i<2^ak m.nodes 35:=fun i hi=>⟨(hx i hi).2,(hy i hi).2⟩
 refine av xs.length (fun i vs h'=> ∃(out:Sl) (ts:List Sl) (X:List (Nat×Blk)) (g':Hp),vs= [.pointer (some ⟨b9,0,none⟩), .pointer (some ⟨b11,0,none⟩),ps.v,pi.v,out.v,sS.v,I (sS.n:Nat),I (i:Nat)]/\h6.le g'/\cw X out 1 (ts.map Sl.v)/\
  ts.length=i/\Kn g' h' X/\ ∀(j:Nat) (t:Sl),ts[j]?=some t->gD g' t (cl m (cAt xs j) (cAt ys j)))
  ⟨⟨none,0,0⟩, [], [],h6,rfl,Hp.le_refl _,cD 1,rfl,Kn.nil _,fun j t hj=>by simp at hj⟩ ?_
 rintro i _ h3 nxt hi ⟨out,ts,X,g',rfl,lg,oX,htl,K,hT⟩ hnx
 have hon:=oX.1
 rw [List.length_map,Nat.mul_one]at hon
 refine⟨b9,0,b11,0,ps,pi,out,sS,_,_,rfl,?_⟩
 have lG:=Hp.le_trans lg K.le
 have f9g:=lg _ _ f9
 have f11g:=lg _ _ f11
 by_cases hlt:i<xs.length
 ·refine aM (by rw [decide_eq_true_eq];omega) ?_
  obtain⟨ba,oa,ha,hca⟩:=(h16.mono lg).get (hx i hlt).1
  have xba:=gY hca
  replace hca:=K.le.cell hca
  refine⟨ba,oa,ha,by omega,by omega,_,by rw [Int.toNat_natCast];exact hca,?_⟩
  obtain⟨bb,ob,hb,hcb⟩:=(h26.mono lg).get (hy i hlt).1
  have xbb:=gY hcb
  replace hcb:=K.le.cell hcb
  repeat' (refine kr_ ?_)
  refine⟨bb,ob,hb,by omega,by omega,_,by rw [Int.toNat_natCast];exact hcb,?_⟩
  have pvi:=pv i hlt
  refine tD (hs6.mono lG) hm g.ok (ips6.mono lG) (cO g 36) (jb g 36) (by omega) fun u1 h4 l4 iu1 cu1=>⟨_,rfl,?_⟩
  have K4:=K.mono l4
  have x9:g' b9≠none:=eY f9g
  have x11:g' b11≠none:=eY f11g
  repeat' (refine kr_ ?_)
  refine tD (hs6.mono (Hp.le_trans lG l4)) hm g.ok (ipi6.mono (Hp.le_trans lG l4)) (cO g 35) (jb g 35) (by omega) fun u2 h5 l5 iu2 cu2=>⟨_,rfl,?_⟩
  have K5:=K4.mono l5
  repeat' (refine kr_ ?_)
  refine zf (hs6.mono (Hp.le_trans lG (Hp.le_trans l4 l5))) hm g.ok g.nl (iu1.mono l5) cu1 (lO 36 _ g) iu2 cu2 (lO 35 _ g) fun t h7 l7 _ hpv=>⟨_,rfl,?_⟩
  refine aj fun b128 h8 hb128 l8 f128=>?_
  have l38:=Hp.le_trans l4 (Hp.le_trans l5 (Hp.le_trans l7 l8))
  have K8:=K.mono l38
  replace hpv:gD h8 t (cl m (cAt xs i) (cAt ys i)):=hpv.mono l8
  have hnew:=hpv.out (SQ g _ _) oX (fun e he=>K8.mem e he) fun j u hj=>⟨_,by rw [(eD g _ _).len,(eD g _ _).len];exact id,(hT j u hj).mono K8.le⟩
  have lB:=K8.leBase
  have KB:=K8.base
  generalize h8.wo (X.map Prod.fst)=g8 at*
  rw [show X=X++ []from(List.append_nil _).symm]at KB
  refine Kn.grow KB oX (by omega) (by omega) (by omega) ⟨b128,0,rfl,ay f128⟩ rfl rfl fun out' X' h9 hn' oX' K9 l9=>?_
  rw [aC (by omega)]
  rw [List.append_nil]at K9
  refine hnx hlt _ _ ⟨out',ts++ [t],X',g8,rfl,Hp.le_trans lg lB,by rw [List.map_append];exact oX',by simp [htl],K9,fun j u hj=>?_⟩
  by_cases e:j<ts.length
  ·rw [List.getElem?_append_left e]at hj
   exact(hT j u hj).mono lB
  ·have h1:=get_lt hj
   simp at h1
   rw [List.getElem?_append_right (by omega),show j-ts.length=0 by omega]at hj
   simp at hj;subst hj
   rw [show j=i by omega];exact hnew
 obtain rfl:i=xs.length:=by omega
 refine aE (by rw [decide_eq_false_iff_not];omega) ?_
 have hO:SlC h3 out 1 (ts.map Sl.v):=(oX.buf fun e he=>K.mem e he).slc_of (by omega)
 replace hT: ∀(j:Nat) (t:Sl),ts[j]?=some t->gD h3 t (cl m (cAt xs j) (cAt ys j)):=fun j t hj=>(hT j t hj).mono K.le
 have f93:=lG _ _ f9
 have f113:=lG _ _ f11
 have x93:=eY f93
 have hs3:=hs6.mono lG
 have h13:=h16.mono lG
 have ips3:=ips6.mono lG
 have l03:=Hp.le_trans l06 lG
 clear K oX X f9g f11g lG lg hnx hi hlt f9 f11 hs6 h16 h26 ips6 ipi6 l06 g'
 have at_: ∀{h':Hp} (i:Nat),h3.le h'->i<xs.length-> ∃b o t,out.a=some (Addr.mk b o none)/\(0:Int)<=i/\(i:Int)<(out.n:Int)/\Hp.cell h' b (o+Int.toNat (i:Int)*1)=some (Sl.v t)/\gD h' t (cl m (cAt xs i) (cAt ys i))/\h3 b≠none:=by
  intro h' i l hi
  obtain⟨t,ht⟩: ∃t,ts[i]?=some t:=⟨_,List.getElem?_eq_getElem (by omega)⟩
  obtain⟨b,o,ha,hcc⟩:=hO.get (by omega)
  have hq:=hcc i _ (by rw [List.getElem?_map,ht];rfl)
  refine⟨b,o,t,ha,by omega,by omega,?_,(hT i t ht).mono l,gY hq⟩
  rw [Int.toNat_natCast,Nat.mul_one]
  exact l.cell hq
 refine ap (fun J=> ∀(w:Sl),w.n=xs.length-1->(∀i,i<xs.length-1-> ∃b o,w.a=some (Addr.mk b o none)/\ ∀h',h3.le h'->Hp.cell h' b (o+Int.toNat (i:Int)*1)=some (I (cAt xs (i+1):Nat)))->J w (((xs.length-1:Nat)):Int)) (fun w hwn hw=>?_) (fun J hJ=>?_)
 rotate_left
 ·have K3:=Kn.nil h3
  repeat' (refine kr_ ?_)
  refine⟨by omega,by simp;omega,by simp;omega,?_⟩
  obtain⟨ba,oa,ha,hca⟩:=h13.get (hx 0 (by omega)).1
  refine .inr ⟨ba,oa,ha,?_⟩
  rw [show (Int.ofNat sS.n).toNat-Int.toNat 1=xs.length-1 by simp;omega]
  refine hJ ⟨_,_,_⟩ rfl fun i hi=>⟨_,_,rfl,fun h' l'=>?_⟩
  obtain⟨bc,oc,ha',hcc⟩:=h13.get (hx (i+1) (by omega)).1
  rw [ha]at ha'
  cases ha'
  rw [if_neg (by simp;omega)]
  have:=l'.cell hcc
  rwa [show oa+(i+1)*1=oa+Int.toNat 1*1+Int.toNat (i:Int)*1 by simp;omega]at this
 refine av (xs.length-1) (fun i vs h'=>vs= [.pointer (some ⟨b9,0,none⟩),ps.v,out.v,w.v,I ((xs.length-1:Nat):Int),I (i:Nat)]/\h3.le h'/\(List.range i).all (D7 m xs ys)=true) ⟨rfl,Hp.le_refl _,rfl⟩ ?_
 rintro i _ h4 nxt hi ⟨rfl,l34,a1⟩ hnx
 have K4:=Kn.of l34
 refine⟨b9,0,ps,out,w,_,_,rfl,?_⟩
 by_cases hlt:i<xs.length-1
 ·refine aM (by rw [decide_eq_true_eq];omega) ?_
  obtain⟨ba,oa,ha,hca⟩:=hw i hlt
  have xba:=gY (hca h3 (Hp.le_refl _))
  refine⟨ba,oa,ha,by omega,by omega,_,hca h4 l34,?_⟩
  obtain⟨bt,ot,t,hta,t0,t1,htc,hpv,xbt⟩:=at_ i l34 (by omega)
  refine⟨bt,ot,hta,t0,t1,?_⟩
  repeat' (refine kr_ ?_)
  refine⟨t,htc,?_⟩
  repeat' (refine kr_ ?_)
  refine tD (hs3.mono l34) hm g.ok (ips3.mono l34) (cO g 36) (jb g 36) (by have:=(pv (i+1) (by omega)).1;omega) fun u h5 l5 iu _=>⟨_,rfl,?_⟩
  have K5:=K4.mono l5
  repeat' (refine kr_ ?_)
  refine uM (F:=gH m (cl m (cAt xs i) (cAt ys i))) (hs3.mono K5.le) hm g (hs3.mono K5.le).nexts g.xl (hpv.mono l5) iu (oP (jg ..)) NK (XJ g (eD g _ _)) (fun p x=>Yb) ⟨_,rfl,ac (fun e=>?_) (fun e=>?_)⟩
  ·rw [Bool.not_eq_true']at e
   rw [if_pos (B8 hlt e)]at k
   exact⟨h,Hp.le_trans l03 K5.le,k⟩
  ·rw [Bool.not_eq_false']at e
   rw [aC (by omega)]
   exact hnx hlt _ _ ⟨rfl,K5.le,zk a1 e⟩
 obtain rfl:i=xs.length-1:=by omega
 refine aE (by rw [decide_eq_false_iff_not];omega) ?_
 rw [if_neg (by rw [a1];decide)]at k
 clear hnx a1 hlt hi hw hwn w K4
 have on:out.n=xs.length:=by omega
 rw [on]
 refine av xs.length (fun i vs h'=>vs= [.pointer (some ⟨b9,0,none⟩),out.v,out.v,I ((xs.length:Nat):Int),I (i:Nat)]/\h3.le h'/\(List.range i).all (JU m xs ys)=true) ⟨rfl,l34,rfl⟩ ?_
 clear l34 h4
 rintro i _ h4 nxt hi ⟨rfl,l34,a1⟩ hnx
 have K4:=Kn.of l34
 refine⟨b9,0,out,out,_,_,rfl,?_⟩
 by_cases hlt:i<xs.length
 ·refine aM (by rw [decide_eq_true_eq];omega) ?_
  obtain⟨bt,ot,t,hta,t0,t1,htc,hpv,xbt⟩:=at_ i l34 hlt
  rw [on]at t1
  refine⟨bt,ot,hta,t0,by omega,t,htc,?_⟩
  repeat' (refine kr_ ?_)
  refine Ge (hs3.mono l34) g hpv (eD g _ _) ⟨_,rfl,ac (fun e=>?_) (fun e=>?_)⟩
  ·rw [Bool.not_eq_true']at e
   rw [if_pos (B8 hlt e)]at k
   exact⟨h,Hp.le_trans l03 l34,k⟩
  ·rw [Bool.not_eq_false']at e
   rw [aC (by omega)]
   exact hnx hlt _ _ ⟨rfl,l34,zk a1 e⟩
 obtain rfl:i=xs.length:=by omega
 refine aE (by rw [decide_eq_false_iff_not];omega) ?_
 rw [if_neg (by rw [a1];decide)]at k
 obtain⟨bt,ot,t,hta,t0,t1,htc,hpv,xbt⟩:=at_ (xs.length-1) l34 (by omega)
 rw [show W ((out.n:Int)-1)=((xs.length-1:Nat):Int) by rw [bU (by omega) (by omega)];omega]
 refine⟨bt,ot,hta,t0,t1,?_⟩
 repeat' (refine kr_ ?_)
 refine⟨t,htc,?_⟩
 refine M4 (hs3.mono l34) g hpv (eD g _ _) ⟨_,rfl,ac (fun e=>?_) (fun e=>?_)⟩
 ·rw [if_pos (of_decide_eq_true e)]at k
  exact⟨h,Hp.le_trans l03 l34,k⟩
 ·rw [if_neg (of_decide_eq_false e)]at k
  exact⟨h,Hp.le_trans l03 l34,k⟩
theorem yO {l:List NodeP} {ps:List Nat} {i p:Nat} (h:ps[i]?=some p):(cX l ps).getD i []=List.replicate (aK l p) 0:=by
 unfold cX
 rw [List.getD_eq_getElem?_getD,List.getElem?_map,h];rfl
theorem Mp (b n:Nat) {h:Hp} {z:Nat} {ro:Bool} (hn:n<=1000) (f:h b=some (.inl ⟨aR #[I 0] n,z,ro⟩)):IntS h ⟨some ⟨b,0,none⟩,n,n⟩ (VL (List.replicate n 0)):=by
 rw [cn]at f
 refine⟨by dsimp only;omega,by simp [aY], .inr ⟨b,0,rfl,?_⟩⟩
 have hc:(VL (List.replicate n 0)).map I=List.replicate n (I 0):=by simp [VL]
 rw [hc];exact ay f
theorem gD.offB {h0 h:Hp} {t out:Sl} {ts:List Sl} {vs:List (List Nat)} (e:gD h t vs) (pn:XG h0 t) (b0:Buf h0 out 1 (ts.map Sl.v)) (b1:Buf h out 1 (ts.map Sl.v)):gD (h.offS out) t vs:=by
 refine⟨e.1,e.2.1,fun p hp=>?_⟩
 obtain⟨b,o,t',h1,h2,h3⟩:=e.2.2 p hp
 refine⟨b,o,t',h1,?_,h3.offL b1⟩
 have hn:=pn b o h1
 have:(h.offS out) b=h b:=BQ (b0.fresh_ne hn)
 unfold Hp.cell at h2⊢
 rw [this];exact h2
set_option maxHeartbeats 1000000 in
theorem Ni {h:Hp} {M:MSl} {m:ah} {kind:Int} {R:Value->Hp->Prop} (hs:aO h M m) (hm:bW m) (g:dj m)
  (k: ∀(out:Sl) (ts:List Sl) (h':Hp),h.le (h'.offS out)->out.n=(aH m.nodes kind).length->ts.length=(aH m.nodes kind).length->Buf h' out 1 (ts.map Sl.v)->
   (∀(j:Nat) (t:Sl),ts[j]?=some t->IntS (h'.offS out) t (VL ((cX m.nodes (aH m.nodes kind)).getD j [])))->R (Sl.v out) h'):tW #[aQ M,I kind] h R:=by
 apply IY
 refine uf_ ?_
 have hpl:=fz m.nodes kind
 have hnl:=g.nl
 have K0:=Kn.nil h
 (with_reducible apply Kn.al);(assumption);(intro b8 h1 K1 l1 hb8)
 clear K0
 repeat' (refine kr_ ?_)
 refine cU (hs.mono K1.le) hm fun pt h2 l2 ip=>⟨_,rfl,?_⟩
 have f8:=l2 _ _ (K1.at (.head _))
 have hs2:=hs.mono (Hp.le_trans K1.le l2)
 have l02:=Hp.le_trans K1.le l2
 have hpn:pt.n=(aH m.nodes kind).length:=by have:=ip.len;rw [aY]at this;exact this
 clear K1 l1 hb8 l2
 refine av (aH m.nodes kind).length (fun i vs h'=> ∃(ts:List Sl) (out:Sl),vs= [.pointer (some ⟨b8,0,none⟩),pt.v,out.v,I (i:Nat)]/\h2.le (h'.offS out)/\out.n=i/\ts.length=i/\Buf h' out 1 (ts.map Sl.v)/\
  (∀(j:Nat) (t:Sl),ts[j]?=some t->IntS (h'.offS out) t (VL ((cX m.nodes (aH m.nodes kind)).getD j [])))) ⟨[],⟨none,0,0⟩,rfl,Hp.le_refl _,rfl,rfl,eZ _ _,fun j t ht=>by simp at ht⟩ ?_
 rintro i _ h3 next hi ⟨ts,out,rfl,l3',hon,htl,hbuf,hts⟩ hnx
 have l23:=Hp.le_trans l3' (bz h3 out)
 refine⟨b8,0,pt,out,_,rfl,?_⟩
 by_cases hlt:i<(aH m.nodes kind).length
 rotate_left
 ·obtain rfl:i=(aH m.nodes kind).length:=by omega
  refine aE (by rw [decide_eq_false_iff_not];omega) ?_
  exact k out ts h3 (Hp.le_trans l02 l3') hon htl hbuf hts
 refine aM (by rw [decide_eq_true_eq];omega) ?_
 obtain⟨p,hpi⟩: ∃p,(aH m.nodes kind)[i]?=some p:=⟨_,List.getElem?_eq_getElem hlt⟩
 have hpm:=cO g kind p (List.mem_of_getElem? hpi)
 obtain⟨bp,op,hap,hcp⟩:=(ip.mono l23).get (gU hpi)
 refine⟨bp,op,hap,by omega,by omega,?_⟩
 have K3:=Kn.of l23
 (refine kr_ ?_)
 refine⟨_,by rw [Int.toNat_natCast];exact hcp,?_⟩
 obtain⟨bn,on,han,hpn',c6,c7,w1,w16⟩:=(hs2.mono l23).nodes.sortc2 hpm g.ok
 refine⟨bn,on,han,by omega,hpn',_,c6,_,c7,?_⟩
 refine fD ⟨_,rfl,?_⟩
 rw [qN g.ok hpm]
 have hc4:=dm m.nodes p
 refine⟨by omega,by omega,by omega,by omega,?_⟩
 refine aj fun b33 h4 hb33 l4 f33=>?_
 rw [Int.toNat_natCast,Nat.mul_one]at f33
 have ht:=Mp b33 _ (by omega) f33
 rw [Int.toNat_natCast]
 refine aj fun b h5 hb l5 f5=>?_
 have l35:=Hp.le_trans l4 l5
 have l35o:=bP out l35
 refine dw (hbuf.mono l35) (by omega) (by omega) (by omega) ⟨b,0,rfl,ay f5⟩ (by simp) rfl ?_
 intro s' h6 hs'n hbuf' l6' _
 rw [aC (by omega)]
 have l36:=Hp.le_trans l35o l6'
 have hbuf'':Buf h6 s' 1 ((ts++ [(⟨some ⟨b33,0,none⟩,aK m.nodes p,aK m.nodes p⟩:Sl)]).map Sl.v):=by rw [List.map_append];exact hbuf'
 refine hnx hlt _ _ ⟨ts++ [⟨some ⟨b33,0,none⟩,aK m.nodes p,aK m.nodes p⟩],s',rfl,Hp.le_trans l3' l36,by omega,by simp;omega,hbuf'',fun j u hu=>?_⟩
 by_cases hj:j<i
 ·rw [List.getElem?_append_left (by omega)]at hu
  exact(hts j u hu).mono l36
 ·have hju:=get_lt hu
  simp at hju
  obtain rfl:j=i:=by omega
  rw [List.getElem?_append_right (by omega),htl,Nat.sub_self]at hu
  simp at hu;subst hu
  rw [yO hpi]
  exact((ht.mono l5).offL (hbuf.mono l35)).mono l6'
theorem Qz {m:ah} (g:dj m) {p q:Nat} (h:cf m.inits p=some q):q<m.nodes.length/\0<((pa m).getD q []).length/\((pa m).getD q []).length<=4:=by
 obtain⟨b,hb,_,rfl⟩:=fS h
 obtain⟨v1,v2,v3,v4,_⟩:=uH g hb
 exact⟨by omega,v3,v4⟩
theorem Nn (m:ah) {i p:Nat} (h:(stP m)[i]?=some p):(iJ m).getD i []=(ez m p).getD (List.replicate (aK m.nodes p) 0):=by
 unfold iJ kJ
 rw [List.getD_eq_getElem?_getD,List.getElem?_map,h];rfl
theorem KE (m:ah):(iJ m).length=(stP m).length:=by unfold iJ kJ;rw [List.length_map]
set_option maxHeartbeats 1000000 in
theorem Ch {h:Hp} {M:MSl} {m:ah} {R:Value->Hp->Prop} (hs:aO h M m) (hm:bW m) (g:dj m)
  (k: ∀out h',h.le h'->IntSS h' out ((iJ m).map VL)->R (Sl.v out) h'):oG #[aQ M] h R:=by
 apply HG
 refine uf_ ?_
 have hpl:(stP m).length<=m.nodes.length:=fz m.nodes 36
 have hnl:=g.nl
 have hil:=g.il
 have K0:=Kn.nil h
 (with_reducible apply Kn.al);(assumption);(intro b7 h1 K1 l1 hb7)
 clear K0
 repeat' (refine kr_ ?_)
 refine cU (hs.mono K1.le) hm fun pt h2 l2 ip=>⟨_,rfl,?_⟩
 have K2:=K1.mono l2
 clear K1
 repeat' (refine kr_ ?_)
 refine Ni (hs.mono K2.le) hm g fun out ts h3 l3 hon htl hbuf hts=>⟨_,rfl,?_⟩
 have l3':=Hp.le_trans l3 (bz _ _)
 replace hon:out.n=(stP m).length:=hon
 replace htl:ts.length=(stP m).length:=htl
 have K3:=K2.mono l3'
 repeat' (refine kr_ ?_)
 refine Ew (hs.mono K3.le) hm g fun vt h4 l4 hvn hpv pn=>⟨_,rfl,?_⟩
 have f7:=l4 _ _ (K3.at (.head _))
 have hpn:pt.n=(stP m).length:=by have:=ip.len;rw [aY]at this;exact this
 have f7o:(h4.offS out) b7=some (.inl ⟨aw M,5,false⟩):=bP out l4 _ _ (l3 _ _ (K2.at (.head _)))
 have hpvo:gD (h4.offS out) vt (pa m):=hpv.offB pn hbuf (hbuf.mono l4)
 replace hbuf:=hbuf.mono l4
 replace hts: ∀(j p:Nat) (t:Sl),(stP m)[j]?=some p->ts[j]?=some t->IntS (h4.offS out) t (VL (List.replicate (aK m.nodes p) 0)):=fun j p t hp ht=>by
  have:=(hts j t ht).mono (bP out l4)
  rwa [yO hp]at this
 have l04:h.le (h4.offS out):=Hp.le_trans K2.le (Hp.le_trans l3 (bP out l4))
 have ipo:IntS (h4.offS out) pt (VL (stP m)):=ip.mono (Hp.le_trans l3 (bP out l4))
 clear K3 K2 hb7 l1 l2 l3' hpv pn ip l4 l3 f7
 refine av (stP m).length (fun i vs h'=> ∃ts:List Sl,vs= [.pointer (some ⟨b7,0,none⟩),pt.v,out.v,vt.v,I (i:Nat)]/\(h4.offS out).le (h'.offS out)/\Buf h' out 1 (ts.map Sl.v)/\ts.length=(stP m).length/\
  ∀(j p:Nat) (t:Sl),(stP m)[j]?=some p->ts[j]?=some t->IntS (h'.offS out) t (VL (if j<i then(ez m p).getD (List.replicate (aK m.nodes p) 0)else List.replicate (aK m.nodes p) 0)))
  ⟨ts,rfl,Hp.le_refl _,hbuf,htl,fun j p t hp ht=>by rw [if_neg (by omega)];exact hts j p t hp ht⟩ ?_
 clear hbuf hts htl ts
 rintro i _ h5 next hi ⟨ts,rfl,l45,hbuf,htl,hts⟩ hnx
 have lo:=bz h5 out
 have l5:=Hp.le_trans l45 lo
 refine⟨b7,0,pt,out,vt,_,rfl,?_⟩
 by_cases hlt:i<(stP m).length
 rotate_left
 ·obtain rfl:i=(stP m).length:=by omega
  refine aE (by rw [decide_eq_false_iff_not];omega) ?_
  refine k out h5 (Hp.le_trans l04 l5) ⟨ts,by rw [List.length_map,KE];exact htl,hbuf.slc_of (by omega),fun j h1 h2=>?_⟩
  have hj:j<(stP m).length:=by omega
  obtain⟨p,hp⟩: ∃p,(stP m)[j]?=some p:=⟨_,List.getElem?_eq_getElem hj⟩
  have:=(hts j p _ hp (List.getElem?_eq_getElem h1)).mono lo
  rw [if_pos hj,<-Nn m hp,List.getD_eq_getElem?_getD,List.getElem?_eq_getElem (by rw [KE];exact hj)]at this
  rw [List.getElem_map];exact this
 refine aM (by rw [decide_eq_true_eq];omega) ?_
 obtain⟨p,hpi⟩: ∃p,(stP m)[i]?=some p:=⟨_,List.getElem?_eq_getElem hlt⟩
 have hpm:=cO g 36 p (List.mem_of_getElem? hpi)
 obtain⟨bp,op,hap,hcp⟩:=(ipo.mono l5).get (gU hpi)
 have K5:=Kn.of l5
 have f7:=l5 _ _ f7o
 have K05:=Kn.of (g:=h4.offS out) l5
 refine⟨bp,op,hap,by omega,by omega,?_⟩
 repeat' (refine kr_ ?_)
 refine⟨_,by rw [Int.toNat_natCast];exact hcp,?_⟩
 have hbn: ∀b∈m.inits,0<=b.node:=fun b hb=>(uH g hb).1
 refine oU (hs.mono (Hp.le_trans l04 l5)).inits (by omega) hbn ⟨_,rfl,?_⟩
 cases hbo:cf m.inits p with
 |none=>
  rw [show iq m.inits p= -1 from by unfold iq;rw [hbo]]
  refine aE (by simp) ?_
  rw [aC (by omega)]
  refine hnx hlt _ _ ⟨ts,rfl,l45,hbuf,htl,fun j p' t hp ht=>?_⟩
  have:=hts j p' t hp ht
  by_cases hj:j<i
  ·rw [if_pos hj]at this;rw [if_pos (by omega)];exact this
  ·rw [if_neg hj]at this
   by_cases hj2:j=i
   ·subst hj2
    rw [hpi]at hp
    obtain rfl:=Option.some.inj hp
    rw [if_pos (by omega),show ez m p=none by unfold ez;rw [hbo];rfl];exact this
   ·rw [if_neg (by omega)];exact this
 |some q=>
  rw [show iq m.inits p=(q:Int)from by unfold iq;rw [hbo]]
  refine aM (by simp) ?_
  obtain⟨hq,v3,v4⟩:=Qz g hbo
  obtain⟨bv,ov,u,hua,hun,huc,huv⟩:=(hpvo.mono l5).at (p:=(q:Int)) (by omega) (by rw [(xY g).len];omega)
  rw [Int.toNat_natCast]at huv
  obtain⟨t,hti⟩: ∃t,ts[i]?=some t:=⟨_,List.getElem?_eq_getElem (by omega)⟩
  have htI:=hts i p t hpi hti
  rw [if_neg (by omega)]at htI
  have htn:=htI.len
  rw [aY,List.length_replicate]at htn
  have hc4:=dm m.nodes p
  refine⟨bv,ov,hua,by omega,hun,?_⟩
  rcases hbuf.2.2 with ⟨_,h0,_⟩|⟨bo,hao,hbo'⟩
  ·omega
  refine⟨bo,0,hao,by omega,by omega,u,huc,t,by rw [aq hbo',Int.toNat_natCast,Nat.zero_add,Nat.mul_one,List.getElem?_map,hti];rfl,?_⟩
  rw [htn]
  refine DW huv v3 v4 hc4 fun t2 h6 l6 ht2=>⟨_,rfl,?_⟩
  have l6o:=bP out l6
  have hbuf6:=hbuf.mono l6
  refine hbuf6.wr (x:=t2) (by omega) fun h7 hbuf' ho=>?_
  rw [aC (by omega)]
  refine hnx hlt _ _ ⟨ts.set i t2,rfl,by rw [ho];exact Hp.le_trans l45 l6o,hbuf',by rw [List.length_set];exact htl,fun j p' w hp hw=>?_⟩
  rw [ho]
  by_cases hji:j=i
  ·subst hji
   rw [hpi]at hp
   obtain rfl:=Option.some.inj hp
   rw [List.getElem?_set_self (by omega)]at hw
   obtain rfl:=Option.some.inj hw
   rw [if_pos (by omega),show ez m p=some (nw (aK m.nodes p) ((pa m).getD q [])) by unfold ez;rw [hbo];rfl]
   exact ht2.offL hbuf6
  ·rw [List.getElem?_set_ne (fun e=>hji e.symm)]at hw
   have:=(hts j p' w hp hw).mono l6o
   by_cases hj:j<i
   ·rw [if_pos hj]at this;rw [if_pos (by omega)];exact this
   ·rw [if_neg hj]at this;rw [if_neg (by omega)];exact this
theorem O1 {h:Hp} {M:MSl} {m:ah} {x:Int} {R:Value->Hp->Prop} (hs:aO h M m) (hm:bW m) (hc:ax m≠0)
  (k: ∀h',h.le h'->R (.tuple #[.slice none 0 0, .bool false]) h'):eE #[aQ M,I x] h R:=by
 apply xB
 refine uf_ ?_
 have K0:=Kn.nil h
 (with_reducible apply Kn.al);(assumption);(intro b8 h1 K1 l1 hb8)
 refine ap (fun J=>J true h1) (aM rfl (k h1 l1)) (fun J hJ=>?_)
 repeat' (refine kr_ ?_)
 refine aX (hs.mono l1) hm ⟨_,rfl,?_⟩
 exact aM (by rw [bne_iff_ne];exact hc) hJ
def vb (m:ah):Nat->List Int->List (Nat×Nat)
 |_, []=> []
 |s,y::r=>(s,y.toNat)::vb m (mr m s y.toNat) r
def mq (m:ah) (x:Int) (ys:List Int):Bool:=
 decide (1<=(ys.length:Int)/\(ys.length:Int)<=301)&&(decide (ax m=0)&&(jr (ak m.nodes 36) x&&ys.all (jr (ak m.nodes 35))))
def tY (m:ah) (x:Int) (ys:List Int):List (Nat×Nat):=if mq m x ys then vb m x.toNat ys else []
theorem Ih (m:ah): ∀(ys:List Int) (s:Nat),(vb m s ys).length=ys.length:=by
 intro ys
 induction ys with
 |nil=>intro s;rfl
 |cons y r ih=>intro s;show (_::vb m _ r).length=_;rw [List.length_cons,ih,List.length_cons]
theorem RD {m:ah} {x:Int} {ys:List Int} (h:mq m x ys=false):tY m x ys= []:=by unfold tY;rw [h];rfl
theorem xO {m:ah} (g:dj m) (s i:Nat):mr m s i<2^ak m.nodes 36:=by
 have:=uB (mZ g (eD g s i).fit)
 rwa [fq g]at this
set_option maxHeartbeats 2000000 in
theorem sk {h:Hp} {M:MSl} {m:ah} {s:Sl} {x:Int} {ys:List Int} {R:Value->Hp->Prop} (hs:aO h M m) (hm:bW m) (hy:IntS h s ys)
  (k: ∀sS sI h',TrG h h' sS sI (tY m x ys)->R (F9 sS sI (mq m x ys)) h'):mR #[aQ M,I x,s.v] h R:=by
 apply Fc
 refine uf_ ?_
 have hn:=hy.len
 have K0:=Kn.nil h
 (with_reducible apply Kn.al);(assumption);(intro b9 h1 K1 l1 hb9)
 (with_reducible apply Kn.al);(assumption);(intro b11 h2 K2 l2 hb11)
 clear K0 K1
 have no: ∀{h':Hp},mq m x ys=false->Kn h h' [(b11, .inl ⟨[(⟨none,0,0⟩:Sl).v,(⟨none,0,0⟩:Sl).v],2,false⟩),(b9, .inl ⟨aw M,5,false⟩)]->
   ∃(cs:List Value) (z:Nat),h' b11=some (.inl ⟨cs,z,false⟩)/\0+2<=cs.length/\cA (h'.row b11 (cz cs 0 [.slice none 0 0, .slice none 0 0]) z) fun h3=> ∃s1:Sl,Hp.cell h3 b11 0=some s1.v/\ ∃s2:Sl,Hp.cell h3 b11 1=some s2.v/\R (.tuple #[.agg #[s1.v,s2.v], .bool false]) h3:=by
  intro h' e K'
  have k':=k
  rw [RD e,e]at k'
  refine kw_ ?_
  intro h3 K3 _
  exact⟨⟨none,0,0⟩,by rw [aq (K3.at (.head _))];rfl,⟨none,0,0⟩,by rw [aq (K3.at (.head _))];rfl,k' ⟨none,0,0⟩ ⟨none,0,0⟩ h3 (TrG.nil K3.le)⟩
 rw [hn]
 refine dH ⟨_,rfl,ac (fun e=>?_) (fun e=>?_)⟩
 ·refine no (by rw [Bool.not_eq_true']at e;unfold mq;rw [e,Bool.false_and]) K2
 rw [Bool.not_eq_false']at e
 have e1:=of_decide_eq_true e
 repeat' (refine kr_ ?_)
 by_cases hc:ax m=0
 rotate_left
 ·refine O1 (hs.mono K2.le) hm hc fun h3 l3=>⟨⟨none,0,0⟩,_,rfl,?_⟩
  exact aM rfl (no (by unfold mq;rw [decide_eq_false hc,Bool.false_and,Bool.and_false]) (K2.mono l3))
 refine Ed (hs.mono K2.le) hm hc fun s0 h3 l3=>⟨_,_,rfl,?_⟩
 have K3:=K2.mono l3
 clear K2
 refine ac (fun e=>?_) (fun e2=>?_)
 ·refine no (by rw [Bool.not_eq_true']at e;unfold mq;rw [e,Bool.false_and,Bool.and_false,Bool.and_false]) K3
 rw [Bool.not_eq_false']at e2
 have g:=cr hc
 have hok:mq m x ys=ys.all (jr (ak m.nodes 35)):=by
  unfold mq
  rw [e,decide_eq_true hc,e2];rfl
 have hxr:=gv.1 e2
 have n8:=g.n8
 have k5:=g.k5
 have hp8:2^ak m.nodes 36<=2^8:=Nat.pow_le_pow_right (by omega) n8
 have hp5:2^ak m.nodes 35<=2^5:=Nat.pow_le_pow_right (by omega) k5
 (with_reducible apply Kn.al);(exact Kn.nil h3);(intro b43 h4 K4 l4 hb43)
 have f9:=K3.at (b:=b9) (by((focus ((repeat first|exact .head _|apply List.Mem.tail);done))))
 have f11:=K3.at (b:=b11) (by((focus ((repeat first|exact .head _|apply List.Mem.tail);done))))
 have hs3:=hs.mono K3.le
 have hy3:=hy.mono K3.le
 refine av ys.length (fun i vs h'=> ∃(pre:List (Nat×Nat)) (cur:Nat) (sS sI:Sl) (XS XI:List (Nat×Blk)),
  vs= [I cur,s.v, .pointer (some ⟨b9,0,none⟩), .pointer (some ⟨b11,0,none⟩), .pointer (some ⟨b43,0,none⟩),I (i:Nat)]/\Kn h3 h' ((b43, .inl ⟨[sS.v,sI.v],2,false⟩)::(XS++(XI++ [])))/\
  cw XS sS 1 ((VL (pre.map Prod.fst)).map I)/\cw XI sI 1 ((VL (pre.map Prod.snd)).map I)/\pre.length=i/\cur<2^ak m.nodes 36/\(ys.take i).all (jr (ak m.nodes 35))=true/\pre++vb m cur (ys.drop i)=vb m x.toNat ys)
  ⟨[],x.toNat,⟨none,0,0⟩,⟨none,0,0⟩, [], [],by rw [Int.toNat_of_nonneg hxr.1];rfl,K4,cD 1,cD 1,rfl,by omega,by simp,rfl⟩ ?_
 clear K4 l4 hb43 h4
 rintro i _ h4 next hi ⟨pre,cur,sS,sI,XS,XI,rfl,K,oS,oI,hpl,hcur,hall,hrun⟩ hnx
 refine⟨_,s,b9,0,b11,0,b43,0,_,rfl,?_⟩
 have hpl1:=oS.1
 have hpl2:=oI.1
 simp only [List.length_map,aY,Nat.mul_one]at hpl1 hpl2
 rw [hn]
 by_cases hlt:i<ys.length
 rotate_left
 ·obtain rfl:i=ys.length:=by omega
  refine aE (by rw [decide_eq_false_iff_not];omega) ?_
  rw [List.take_of_length_le (Nat.le_refl _)]at hall
  rw [List.drop_length]at hrun
  replace hrun:pre=vb m x.toNat ys:=by rw [<-hrun];exact(List.append_nil pre).symm
  (refine kr_ ?_)
  (refine kr_ ?_)
  have K2':=K3.mono K.le
  (with_reducible apply Kn.wr);(exact K2');((focus ((repeat first|exact .head|apply Upd.tail);done)))
  ·exact of_decide_eq_true rfl
  intro h5 K5 kp
  refine⟨sS,by rw [aq (K5.at (.head _))];rfl,sI,by rw [aq (K5.at (.head _))];rfl,?_⟩
  have t:=UK (b6:=b11) K3.le (by rw [f11];simp) oS oI K K5.le kp
  rw [hrun]at t
  have:=k sS sI h5 (by unfold tY;rw [hok,hall];exact t)
  rwa [hok,hall]at this
 refine aM (by rw [decide_eq_true_eq];omega) ?_
 obtain⟨y,hyi⟩: ∃y,ys[i]?=some y:=⟨_,List.getElem?_eq_getElem hlt⟩
 obtain⟨ba,oa,ha,hca⟩:=(hy3.mono K.le).get hyi
 refine⟨ba,oa,ha,by omega,by omega,?_⟩
 repeat' (refine kr_ ?_)
 refine⟨_,by rw [Int.toNat_natCast];exact hca,?_⟩
 refine DT (hs3.mono K.le) hm hc fun s1 h5 l5=>⟨_,_,rfl,?_⟩
 have K5:=K.mono l5
 clear K
 refine ac (fun e=>?_) (fun e=>?_)
 ·refine no ?_ (K3.mono K5.le)
  rw [Bool.not_eq_true']at e
  rw [hok]
  exact vT hyi e
 rw [Bool.not_eq_false']at e
 have hyr:=gv.1 e
 (refine kr_ ?_)
 refine Kn.al K5 fun b87 h6 K6 l6 hb87=>?_
 have f87:=K6.at (.head _)
 refine Kn.growIn (A:= [_,_]) K6 oS (by omega) (by omega) (by omega) ⟨b87,0,rfl,ay f87⟩ rfl rfl fun sS' XS' h7 hnS oS' K7 l7=>?_
 simp only [List.cons_append,List.nil_append]at K7
 clear K6 l6 hb87 f87 K5 l5
 (((with_reducible apply Kn.wr);(assumption);((focus ((repeat first|exact .head|apply Upd.tail);done)))))
 ·simp
 intro h8 K8 _
 simp only [bG,List.set_cons_zero,List.set_cons_succ,Nat.zero_add,Nat.reduceAdd]at K8
 clear K7 l7
 obtain⟨ba,oa,ha,hca⟩:=hy3.get hyi
 have xba:=gY hca
 refine⟨ba,oa,ha,by omega,by omega,?_⟩
 (refine kr_ ?_)
 refine⟨_,by rw [Int.toNat_natCast];exact K8.le.cell hca,?_⟩
 refine Kn.al K8 fun b98 h9 K9 l9 hb98=>?_
 repeat' (refine kr_ ?_)
 have f98:=K9.at (.head _)
 refine Kn.growIn2 (A:= [_,_,_]) K9 oI (by omega) (by omega) (by omega) ⟨b98,0,rfl,ay f98⟩ rfl rfl fun sI' XI' h10 hnI oI' K10 l10=>?_
 simp only [List.cons_append,List.nil_append]at K10
 clear K9 l9 hb98 f98 K8
 (((with_reducible apply Kn.wr);(assumption);((focus ((repeat first|exact .head|apply Upd.tail);done)))))
 ·simp
 intro h11 K11 _
 simp only [bG,List.set_cons_zero,List.set_cons_succ,Nat.zero_add,Nat.reduceAdd]at K11
 clear K10 l10
 have nd:=K11.nd
 have KS:Kn h3 h11 ((b43, .inl ⟨[sS'.v,sI'.v],2,false⟩)::(XS'++(XI'++ []))):=by
  refine K11.sub (fun e he=> .tail _ (.tail _ he)) ?_
  simp only [List.map_cons,List.nodup_cons]at nd⊢
  exact nd.2.2
 obtain⟨ba,oa,ha,hca⟩:=(hy3.mono KS.le).get hyi
 clear K11
 refine⟨ba,oa,ha,by omega,by omega,?_⟩
 repeat' (refine kr_ ?_)
 refine⟨_,by rw [Int.toNat_natCast];exact hca,?_⟩
 obtain⟨c,rfl⟩: ∃c:Nat,y=c:=⟨y.toNat,by omega⟩
 refine EG (hs3.mono KS.le) hm g (by omega) (by omega) ⟨_,rfl,?_⟩
 rw [aC (by omega)]
 refine hnx hlt _ _ ⟨pre++ [(cur,c)],mr m cur c,sS',sI',XS',XI',rfl,KS,by simpa [VL] using oS',by simpa [VL] using oI',by simp;omega,xO g _ _,Dq hyi e hall,?_⟩
 rw [<-hrun,List.append_assoc]
 rw [List.drop_eq_getElem_cons hlt]
 have hyi':ys[i]=(c:Int):=by rw [List.getElem?_eq_getElem hlt]at hyi;exact Option.some.inj hyi
 rw [hyi'];rfl
theorem cw.one {X:List (Nat×Blk)} {s:Sl} {sz:Nat} {cs:List Value} (o:cw X s sz cs) (hn:s.n≠0): ∃b,s.a=some ⟨b,0,none⟩/\X= [(b, .inl ⟨cs,s.c*sz,false⟩)]:=by
 rcases o.2.2 with ⟨_,rfl,_⟩|h
 ·exact absurd rfl hn
 ·exact h
theorem Kn.ints {g h:Hp} {L:List (Nat×Blk)} {s:Sl} {b z:Nat} {ro:Bool} {xs:List Int} (K:Kn g h L) (m:(b, .inl ⟨xs.map I,z,ro⟩)∈L) (ha:s.a=some ⟨b,0,none⟩) (hn:xs.length=s.n) (hl:s.n<=1000000):IntS h s xs:=
 ⟨by omega,by rw [List.length_map,Nat.mul_one];exact hn, .inr ⟨b,0,ha,ay (K.at m)⟩⟩
theorem iL (a b:Sl):wK [a.v,b.v]:=uL [a,b]
abbrev TrR (g:Hp) (R:Value->Hp->Prop):Prop:= ∀tS tI us vs h',g.le h'->IntS h' tS us->IntS h' tI vs->tS.n<=tS.c->tI.n<=tI.c->us.length<=400->vs.length<=400->R (.agg #[Sl.v tS,Sl.v tI]) h'
set_option maxHeartbeats 4000000 in
theorem J8 {g h:Hp} {B p:Nat} {s sS sI:Sl} {bs:List Nat} {XS XI:List (Nat×Blk)} {xs ys:List Int} {R:Value->Hp->Prop} (hb:ByteS g s bs) (K:Kn g h ((B,rdC s p)::(XS++(XI++ []))))
  (oS:cw XS sS 1 (xs.map I)) (oI:cw XI sI 1 (ys.map I)) (hl:ys.length=xs.length) (hn:xs.length<=302) (hp:p<=500000) (k:TrR g R):kG #[.pointer (some ⟨B,0,none⟩), .agg #[sS.v,sI.v]] h R:=by
 apply Cd
 refine uf_ ?_
 have nS:=oS.1
 have nI:=oI.1
 have cS:=oS.2.1
 have cI:=oI.2.1
 rw [List.length_map,Nat.mul_one]at nS nI
 refine Kn.al K fun b5 h1 K1 l1 hb5=>?_
 refine Kn.al K1 fun b7 h2 K2 l2 hb7=>?_
 clear K K1
 have leaf: ∀{tS tI:Sl} {us vs:List Int} {h':Hp} {L:List (Nat×Blk)},Kn g h' ((b7, .inl ⟨[(⟨none,0,0⟩:Sl).v,(⟨none,0,0⟩:Sl).v],2,false⟩)::(b5, .inl ⟨[tS.v,tI.v],2,false⟩)::L)->IntS h' tS us->IntS h' tI vs->tS.n<=tS.c->tI.n<=tI.c->us.length<=400->vs.length<=400->
   ∃s1:Sl,Hp.cell h' b5 0=some s1.v/\ ∃s2:Sl,Hp.cell h' b5 1=some s2.v/\ ∃(cs:List Value) (z:Nat),h' b7=some (.inl ⟨cs,z,false⟩)/\0+2<=cs.length/\cA (h'.row b7 (cz cs 0 [s1.v,s2.v]) z) fun h3=>
    ∃s3:Sl,Hp.cell h3 b7 0=some s3.v/\ ∃s4:Sl,Hp.cell h3 b7 1=some s4.v/\R (.agg #[s3.v,s4.v]) h3:=by
  intro tS tI us vs h' L K' iS iI c1 c2 n1 n2
  refine⟨tS,by rw [aq (K'.at (.tail _ (.head _)))];rfl,tI,by rw [aq (K'.at (.tail _ (.head _)))];rfl,?_⟩
  have f7:=K'.at (.head _)
  refine kw_ ?_
  intro h3 K3 kp
  refine⟨tS,by rw [aq (K3.at (.head _))];rfl,tI,by rw [aq (K3.at (.head _))];rfl,?_⟩
  exact k tS tI us vs h3 K3.le (iS.keepN f7 (iL _ _) kp) (iI.keepN f7 (iL _ _) kp) c1 c2 n1 n2
 refine ap (fun J=> ∀(c:Bool) h' p',(c=false->sS.n≠0)->p'<=p+1->Kn g h' ((b7, .inl ⟨[(⟨none,0,0⟩:Sl).v,(⟨none,0,0⟩:Sl).v],2,false⟩)::(b5, .inl ⟨[sS.v,sI.v],2,false⟩)::(B,rdC s p')::(XS++(XI++ [])))->J c h')
  (fun c h3 p' hc hp' K3=>?_) (fun J hJ=>?_)
 rotate_left
 ·repeat' (refine kr_ ?_)
  refine ac (fun e=>hJ true h2 p (fun e=>nomatch e) (by omega) K2) (fun e=>?_)
  have e':sS.n≠0:=by
   intro q
   rw [q]at e;exact absurd e (by decide)
  refine kp_ ?_
  intro z h3 K3 _ _
  exact⟨_,rfl,hJ _ h3 _ (fun _=>e') (Nat.le_refl _) K3⟩
 clear K2
 refine ac (fun e=>?_) (fun e=>?_)
 ·have iS:IntS h3 sS xs:=(oS.buf fun e he=>K3.mem e (by simp [he])).slc_of (by omega)
  have iI:IntS h3 sI ys:=(oI.buf fun e he=>K3.mem e (by simp [he])).slc_of (by omega)
  exact leaf K3 iS iI cS cI (by omega) (by omega)
 have hn0:=hc e
 clear e hc
 obtain⟨bS,aS,rfl⟩:=oS.one hn0
 obtain⟨bI,aI,rfl⟩:=oI.one (by omega)
 simp only [List.cons_append,List.nil_append]at K3
 have oS0:=oS
 have oI0:=oI
 repeat' (refine kr_ ?_)
 refine kp_ ?_
 intro x h4 K4 hx hx0
 replace hx:x<sS.n:=by have:=hx (by omega);omega
 clear hx0
 refine⟨_,rfl,?_⟩
 clear K3
 refine kp_ ?_
 intro y h5 K5 _ _
 refine⟨_,rfl,?_⟩
 clear K4
 refine ap (fun J=> ∀{tS tI:Sl} {us vs:List Int} {h':Hp} {L:List (Nat×Blk)},Kn g h' ((b7, .inl ⟨[(⟨none,0,0⟩:Sl).v,(⟨none,0,0⟩:Sl).v],2,false⟩)::(b5, .inl ⟨[tS.v,tI.v],2,false⟩)::L)->IntS h' tS us->IntS h' tI vs->tS.n<=tS.c->tI.n<=tI.c->us.length<=400->vs.length<=400->J b5 0 b7 0 h')
  (fun {tS tI us vs h' L} K' iS iI c1 c2 n1 n2=>leaf K' iS iI c1 c2 n1 n2) (fun J hJ=>?_)
 clear leaf
 have iS:IntS h5 sS xs:=K5.ints (.tail _ (.tail _ (.tail _ (.head _)))) aS (by omega) (by omega)
 have iI:IntS h5 sI ys:=K5.ints (.tail _ (.tail _ (.tail _ (.tail _ (.head _))))) aI (by omega) (by omega)
 have wrS: ∀{L L':List (Nat×Blk)} {h':Hp} {v:Int} {b:Nat} {c:Sl} {zs:List Int} {P:Hp->Prop},Kn g h' L->c.a=some ⟨b,0,none⟩->x<zs.length->zs.length=c.n->Upd L b (.inl ⟨zs.map I,c.c*1,false⟩) (.inl ⟨(zs.set x v).map I,c.c*1,false⟩) L'->(∀h'',Kn g h'' L'->P h'')->
   ∃b' o':Nat,c.a=some ⟨b',o',none⟩/\(0:Int)<=(x:Int)/\(x:Int)<((c.n:Nat):Int)/\ ∃(cs:List Value) (z:Nat),h' b'=some (.inl ⟨cs,z,false⟩)/\(o'+Int.toNat (x:Int)*1)+1<=cs.length/\cA (h'.row b' (cz cs (o'+Int.toNat (x:Int)*1) [I v]) z) P:=by
  intro L L' h' v b c zs P K' ha hx hz u kk
  refine⟨b,0,ha,by omega,by omega,?_⟩
  rw [show (0+Int.toNat (x:Int)*1)=x by simp]
  have u':Upd L b (.inl ⟨zs.map I,c.c*1,false⟩) (.inl ⟨cz (zs.map I) x [I v],c.c*1,false⟩) L':=by
   rw [bG,<-List.map_set];exact u
  exact K'.wr u' (by rw [List.length_map];omega) fun h'' K'' _=>kk h'' K''
 refine ac (fun e=>?_) (fun e=>?_)
 ·repeat' (refine kr_ ?_)
  refine kp_ ?_
  intro z h6 K6 _ _
  refine⟨_,rfl,?_⟩
  repeat' (refine kr_ ?_)
  clear K5
  refine wrS (zs:=xs) K6 aS (by omega) (by omega) (by((focus ((repeat first|exact .head|apply Upd.tail);done)))) fun h7 K7=>?_
  exact hJ (us:=xs.set x _) (vs:=ys) K7 (K7.ints (.tail _ (.tail _ (.tail _ (.head _)))) aS (by rw [List.length_set];omega) (by omega)) (K7.ints (.tail _ (.tail _ (.tail _ (.tail _ (.head _))))) aI (by omega) (by omega)) cS cI (by rw [List.length_set];omega) (by omega)
 clear e
 refine ac (fun e=>?_) (fun e=>?_)
 ·repeat' (refine kr_ ?_)
  refine kp_ ?_
  intro z h6 K6 _ _
  refine⟨_,rfl,?_⟩
  repeat' (refine kr_ ?_)
  clear K5
  have hx':x<sI.n:=by omega
  refine wrS (zs:=ys) K6 aI (by omega) (by omega) (by((focus ((repeat first|exact .head|apply Upd.tail);done)))) fun h7 K7=>?_
  exact hJ (us:=xs) (vs:=ys.set x _) K7 (K7.ints (.tail _ (.tail _ (.tail _ (.head _)))) aS (by omega) (by omega)) (K7.ints (.tail _ (.tail _ (.tail _ (.tail _ (.head _))))) aI (by rw [List.length_set];omega) (by omega)) cS cI (by omega) (by rw [List.length_set];omega)
 clear e wrS
 have f5:=K5.at (b:=b5) (.tail _ (.head _))
 refine ac (fun e=>?_) (fun e=>?_)
 ·(refine kr_ ?_)
  refine⟨by omega,by simp;omega,by simp;omega, .inr ⟨bS,0,aS,?_⟩⟩
  refine kw_ ?_
  intro h6 K6 kp
  have iS6:=iS.keepN f5 (iL _ _) kp
  have iI6:=iI.keepN f5 (iL _ _) kp
  refine hJ (tS:=⟨_,_,_⟩) (us:=xs.drop 1) K6 ?_ iI6 ?_ cI (by simp;omega) (by omega)
  ·refine⟨by simp;omega,by simp;omega, .inr ⟨bS,_,rfl,?_⟩⟩
   intro i v hv
   rw [List.getElem?_map,List.getElem?_drop,Option.map_eq_some_iff]at hv
   obtain⟨w,hw,rfl⟩:=hv
   have:=get_lt hw
   rw [if_neg (by simp;omega)]
   rw [aq (K6.at (b:=bS) (.tail _ (.tail _ (.tail _ (.head _)))))]
   simp only [Nat.zero_add,List.getElem?_map]
   rw [show Int.toNat 1*1+i=1+i by simp,hw];rfl
  ·simp;omega
 clear e
 refine ac (fun e=>?_) (fun e=>?_)
 ·have tk: ∀{c:Sl} {b:Nat} {zs:List Int} {h':Hp},IntS h' c zs->c.a=some ⟨b,0,none⟩->x<zs.length->zs.length<=302->IntS h' ⟨some ⟨b,(if c.c=Int.toNat (Int.ofNat 0)then 0 else 0+Int.toNat (Int.ofNat 0)*1),none⟩,Int.toNat (x:Int)-Int.toNat (Int.ofNat 0),c.c-Int.toNat (Int.ofNat 0)⟩ (zs.take x):=by
   intro c b zs h' hz ha hx hzl
   have e0:(if c.c=Int.toNat (Int.ofNat 0)then 0 else 0+Int.toNat (Int.ofNat 0)*1)=0:=by split<;>simp
   rw [e0]
   obtain⟨b',o',ha',hcc⟩:=SlC.get hz (by have:=hz.len;omega)
   rw [ha]at ha'
   cases ha'
   refine⟨by simp;omega,by simp;omega, .inr ⟨b,0,rfl,fun i v hv=>?_⟩⟩
   rw [List.map_take,List.getElem?_take]at hv
   split at hv
   ·exact hcc i v hv
   ·cases hv
  refine ap (fun J=> ∀{tS:Sl} {h':Hp} {L:List (Nat×Blk)},Kn g h' ((b7, .inl ⟨[(⟨none,0,0⟩:Sl).v,(⟨none,0,0⟩:Sl).v],2,false⟩)::(b5, .inl ⟨[tS.v,sI.v],2,false⟩)::L)->IntS h' tS (xs.take x)->IntS h' sI ys->tS.n<=tS.c->J h')
   (fun {tS h' L} K6 iS6 iI6 c1=>?_) (fun J88 hJ88=>?_)
  ·have g5:=K6.at (b:=b5) (.tail _ (.head _))
   clear K5
   (refine kr_ ?_)
   refine⟨by simp,by simp,by omega, .inr ⟨bI,0,aI,?_⟩⟩
   refine kw_ ?_
   intro h7 K7 kp
   exact hJ (tI:=⟨_,_,_⟩) K7 (iS6.keepN g5 (iL _ _) kp) (tk (iI6.keepN g5 (iL _ _) kp) aI (by omega) (by omega)) c1 (by simp;omega) (by simp;omega) (by simp;omega)
  ·(refine kr_ ?_)
   refine⟨by simp,by simp,by omega, .inr ⟨bS,0,aS,?_⟩⟩
   refine kw_ ?_
   intro h6 K6 kp
   exact hJ88 (tS:=⟨_,_,_⟩) K6 (tk (iS.keepN f5 (iL _ _) kp) aS (by omega) (by omega)) (iI.keepN f5 (iL _ _) kp) (by simp;omega)
 clear e
 refine ac (fun e=>?_) (fun e=>hJ K5 iS iI cS cI (by omega) (by omega))
 clear e f5 iS iI
 refine nz (303-xs.length) (fun m vs h'=> ∃(sS sI:Sl) (XS XI:List (Nat×Blk)) (xs ys:List Int) (q:Nat),vs= [.pointer (some ⟨B,0,none⟩), .pointer (some ⟨b5,0,none⟩), .pointer (some ⟨b7,0,none⟩)]/\
  Kn g h' ((b7, .inl ⟨[(⟨none,0,0⟩:Sl).v,(⟨none,0,0⟩:Sl).v],2,false⟩)::(b5, .inl ⟨[sS.v,sI.v],2,false⟩)::(B,rdC s q)::(XS++(XI++ [])))/\cw XS sS 1 (xs.map I)/\cw XI sI 1 (ys.map I)/\ys.length=xs.length/\xs.length≠0/\xs.length+m=303/\q+m<=600000)
  ⟨sS,sI,_,_,xs,ys,_,rfl,K5,oS0,oI0,hl,by omega,by omega,by omega⟩ ?_
 clear K5 oS0 oI0 oS oI nS nI cS cI hl hn hn0 hx aS aI xs ys sS sI
 rintro m _ h3 nxt ⟨sS,sI,XS,XI,xs,ys,q,rfl,K,oS,oI,hl,hn0,hm,hq⟩ hnx
 refine⟨_,b5,0,b7,0,rfl,?_⟩
 have nS:=oS.1
 have nI:=oI.1
 have cS:=oS.2.1
 have cI:=oI.2.1
 rw [List.length_map,Nat.mul_one]at nS nI
 repeat' (refine kr_ ?_)
 refine kp_ ?_
 intro z h4 K4 hz _
 replace hz:z<2:=by have:=hz (by omega);omega
 refine⟨_,rfl,?_⟩
 repeat' (refine kr_ ?_)
 clear K
 rw [bU (by omega) (by omega)]
 have mS: ∀{h':Hp} {A L:List (Nat×Blk)},Kn g h' (A++(XS++L))-> ∀e∈XS,h' e.1=some e.2:=fun K e he=>K.mem e (by simp [he])
 have iS:IntS h4 sS xs:=(oS.buf fun e he=>K4.mem e (by simp [he])).slc_of (by omega)
 have iI:IntS h4 sI ys:=(oI.buf fun e he=>K4.mem e (by simp [he])).slc_of (by omega)
 by_cases hlt:xs.length<301+z
 rotate_left
 ·refine aE (decide_eq_false (by omega)) ?_
  exact hJ K4 iS iI cS cI (by omega) (by omega)
 refine aM (decide_eq_true (by omega)) ?_
 obtain⟨x0,hx0⟩: ∃x0,xs[0]?=some x0:=⟨_,List.getElem?_eq_getElem (by omega)⟩
 obtain⟨y0,hy0⟩: ∃y0,ys[0]?=some y0:=⟨_,List.getElem?_eq_getElem (by omega)⟩
 repeat' (refine kr_ ?_)
 obtain⟨ba,oa,ha,hca⟩:=iS.get hx0
 refine⟨ba,oa,ha,by omega,by omega,_,hca,?_⟩
 refine Kn.al K4 fun b112 h5 K5 l5 hb112=>?_
 have f112:=K5.at (.head _)
 repeat' (refine kr_ ?_)
 refine Kn.growIn (A:= [_,_,_,_]) K5 oS (by omega) (by omega) (by omega) ⟨b112,0,rfl,ay f112⟩ rfl rfl fun sS' XS' h6 hnS oS' K6 l6=>?_
 simp only [List.cons_append,List.nil_append]at K6
 clear K5 l5 hb112 f112 K4 iS iI ha hca
 refine kw_ ?_
 intro h7 K7 _
 simp only [bG,List.set_cons_zero,List.set_cons_succ,Nat.zero_add,Nat.reduceAdd]at K7
 clear K6 l6
 have iI:IntS h7 sI ys:=(oI.buf fun e he=>K7.mem e (by simp [he])).slc_of (by omega)
 repeat' (refine kr_ ?_)
 obtain⟨ba,oa,ha,hca⟩:=iI.get hy0
 refine⟨ba,oa,ha,by omega,by omega,_,hca,?_⟩
 refine Kn.al K7 fun b127 h8 K8 l8 hb127=>?_
 have f127:=K8.at (.head _)
 repeat' (refine kr_ ?_)
 refine Kn.growIn2 (A:= [_,_,_,_,_]) K8 oI (by omega) (by omega) (by omega) ⟨b127,0,rfl,ay f127⟩ rfl rfl fun sI' XI' h9 hnI oI' K9 l9=>?_
 simp only [List.cons_append,List.nil_append]at K9
 clear K8 l8 hb127 f127 K7 iI ha hca
 refine kw_ ?_
 intro h10 K10 _
 simp only [bG,List.set_cons_zero,List.set_cons_succ,Nat.zero_add,Nat.reduceAdd]at K10
 clear K9 l9
 have nd:=K10.nd
 refine hnx (m-1) (by omega) _ _ ⟨sS',sI',XS',XI',xs++ [x0],ys++ [y0],q+1,rfl,?_,by rw [List.map_append];exact oS',by rw [List.map_append];exact oI',by simp;omega,by simp,by simp;omega,by omega⟩
 refine K10.sub (fun e he=> .tail _ (.tail _ he)) ?_
 simp only [List.map_cons,List.nodup_cons]at nd⊢
 exact nd.2.2
theorem Kn.cut {g h:Hp} {A L:List (Nat×Blk)} (K:Kn g h (A++L)): ∃g0,Kn g g0 A/\Kn g0 h L:=by
 have nd:=K.nd
 rw [List.map_append,List.nodup_append]at nd
 have KL:Kn g h L:=K.sub (fun e he=>List.mem_append_right _ he) nd.2.1
 refine⟨h.wo (L.map Prod.fst),⟨KL.leBase,fun e he=>?_,fun e he=>K.new e (List.mem_append_left _ he),nd.1⟩,KL.base⟩
 rw [sy fun hm=>nd.2.2 e.1 (List.mem_map.2 ⟨e,he,rfl⟩) e.1 hm rfl]
 exact K.mem e (List.mem_append_left _ he)
set_option maxHeartbeats 4000000 in
theorem QG {g h:Hp} {B p:Nat} {s:Sl} {bs:List Nat} {M:MSl} {m:ah} {R:Value->Hp->Prop} (hb:ByteS g s bs) (K:Kn g h [(B,rdC s p)]) (hs:aO g M m) (hm:bW m) (hp:p<=400000) (k:TrR g R):
  nk #[.pointer (some ⟨B,0,none⟩),aQ M] h R:=by
 apply Ah
 refine uf_ ?_
 refine Kn.al K fun b8 h1 K1 l1 hb8=>?_
 refine Kn.al K1 fun b10 h2 K2 l2 hb10=>?_
 clear K K1 l1 l2 hb8 hb10
 have n10:=K2.new (b10,_) (.head _)
 have fin: ∀{g0 h':Hp} {uS uI:Sl} {us vs:List Int},g.le g0->g0 b10=some (.inl ⟨[(⟨none,0,0⟩:Sl).v,(⟨none,0,0⟩:Sl).v],2,false⟩)->g0.le h'->IntS h' uS us->IntS h' uI vs->uS.n<=uS.c->uI.n<=uI.c->us.length<=400->vs.length<=400->
   ∃(cs:List Value) (z:Nat),h' b10=some (.inl ⟨cs,z,false⟩)/\0+2<=cs.length/\cA (h'.row b10 (cz cs 0 [uS.v,uI.v]) z) fun h3=> ∃s3:Sl,Hp.cell h3 b10 0=some s3.v/\ ∃s4:Sl,Hp.cell h3 b10 1=some s4.v/\R (.agg #[s3.v,s4.v]) h3:=by
  intro g0 h' uS uI us vs lg f10 l i1 i2 c1 c2 n1 n2
  (with_reducible apply bZ);(exact l _ _ f10);(exact Hp.le_trans lg l);(exact n10);(exact of_decide_eq_true rfl)
  intro h6 f6 kp l6
  exact⟨uS,by rw [aq f6];rfl,uI,by rw [aq f6];rfl,k uS uI us vs h6 l6 (i1.keepN (l _ _ f10) (iL _ _) kp) (i2.keepN (l _ _ f10) (iL _ _) kp) c1 c2 n1 n2⟩
 repeat' (refine kr_ ?_)
 refine aX (hs.mono K2.le) hm ⟨_,rfl,ac (fun e=>?_) (fun e=>?_)⟩
 ·refine Kn.al K2 fun b23 h3 K3 l3 hb23=>?_
  refine Kn.al K3 fun b25 h4 K4 l4 hb25=>?_
  clear K2 K3
  refine kw_ ?_
  intro h5 K5 _
  exact⟨⟨some ⟨b23,0,none⟩,1,1⟩,by rw [aq (K5.at (b:=b10) (.tail _ (.tail _ (.head _))))];rfl,⟨some ⟨b25,0,none⟩,1,1⟩,by rw [aq (K5.at (b:=b10) (.tail _ (.tail _ (.head _))))];rfl,
   k _ _ [0] [0] h5 K5.le (IntS.one (K5.at (.tail _ (.head _)))) (IntS.one (K5.at (.head _))) (Nat.le_refl _) (Nat.le_refl _) (by simp) (by simp)⟩
 have hc:=fW e
 have gd:=cr hc
 have n8:=gd.n8
 have k5:=gd.k5
 have hp5:2^ak m.nodes 35<=2^5:=Nat.pow_le_pow_right (by omega) k5
 clear e
 repeat' (refine kr_ ?_)
 refine tG (hs.mono K2.le) hm fun tS tI h3 t3=>⟨_,_,_,rfl,?_⟩
 have hlen:=Kj m 256
 obtain⟨XS,XI,oS,oI,K3'⟩:=t3
 have K3:=K2.app K3'.le K3'.new K3'.mem K3'.nd
 simp only [List.cons_append,List.nil_append]at K3
 clear K3' K2
 generalize pI m 256=tl at*
 generalize rH m 256=tb
 refine Kn.al K3 fun b43 h4 K4 l4 hb43=>?_
 clear K3
 refine kw_ ?_
 intro h5 K5 _
 simp only [cz,List.set_cons_zero,List.set_cons_succ,Nat.zero_add,Nat.reduceAdd]at K5
 clear K4
 refine ap (fun J=> ∀(c:Bool) h' p',p'<=p+1->Kn g h' ((b43, .inl ⟨[tS.v,tI.v],2,false⟩)::(b10, .inl ⟨[(⟨none,0,0⟩:Sl).v,(⟨none,0,0⟩:Sl).v],2,false⟩)::(b8, .inl ⟨aw M,5,false⟩)::(B,rdC s p')::(XS++(XI++ [])))->J c h')
  (fun c h6 p6 hp6 K6=>?_) (fun J hJ=>?_)
 rotate_left
 ·refine ac (fun _=>?_) (fun _=>hJ false h5 p (by omega) K5)
  refine kp_ ?_
  intro z h6 K6 _ _
  exact⟨_,rfl,hJ _ h6 _ (Nat.le_refl _) K6⟩
 clear K5
 have lS:=oS.1
 have lI:=oI.1
 simp only [List.length_map,aY,Nat.mul_one]at lS lI
 refine ac (fun _=>?_) (fun _=>?_)
 ·repeat' (refine kr_ ?_)
  obtain⟨g0,KA,KL⟩:=Kn.cut (A:= [_,_,_]) K6
  refine J8 (hb.mono KA.le) KL oS oI (by simp [aY]) (by simp [aY];omega) (by omega) fun uS uI us vs h7 l7 i1 i2 c1 c2 n1 n2=>⟨_,_,rfl,?_⟩
  exact fin KA.le (KA.at (.tail _ (.head _))) l7 i1 i2 c1 c2 n1 n2
 replace K6:Kn g h6 ((b10, .inl ⟨[(⟨none,0,0⟩:Sl).v,(⟨none,0,0⟩:Sl).v],2,false⟩)::(b8, .inl ⟨aw M,5,false⟩)::(B,rdC s p6):: []):=K6.subl (List.Sublist.cons _ (List.Sublist.cons_cons _ (List.Sublist.cons_cons _ (List.Sublist.cons_cons _ (List.nil_sublist _)))))
 clear oS oI lS lI hlen
 repeat' (refine kr_ ?_)
 refine cU (hs.mono K6.le) hm fun pt h7 l7 ip=>⟨_,rfl,?_⟩
 have K7:=K6.mono l7
 repeat' (refine kr_ ?_)
 refine Ch (hs.mono K7.le) hm gd fun ot h8 l8 io=>⟨_,rfl,?_⟩
 have K8:=K7.mono l8
 repeat' (refine kr_ ?_)
 clear K7 K6
 refine yy (hs.mono K8.le) hm gd.ok (ip.mono l8) (cO gd 36) (jb gd 36) io (uU gd) (by rw [fq gd];omega) ⟨_,rfl,?_⟩
 generalize dZ m.nodes (stP m) (iJ m)=st0
 refine kp_ ?_
 intro z h9 K9 hz _
 replace hz:z<6:=by have:=hz (by omega);omega
 refine⟨_,rfl,?_⟩
 clear K8
 rw [bU (by omega) (by omega)]
 refine av (1+z) (fun i vs h'=> ∃(inS:Sl) (ins:List Int) (XL:List (Nat×Blk)) (q:Nat),vs= [.pointer (some ⟨B,0,none⟩), .pointer (some ⟨b8,0,none⟩), .pointer (some ⟨b10,0,none⟩),I st0,I (1+(z:Int)),inS.v,I (i:Nat)]/\
  Kn g h' ((b10, .inl ⟨[(⟨none,0,0⟩:Sl).v,(⟨none,0,0⟩:Sl).v],2,false⟩)::(b8, .inl ⟨aw M,5,false⟩)::(B,rdC s q)::(XL++ []))/\cw XL inS 1 (ins.map I)/\ins.length=i/\q<=p6+1+i)
  ⟨⟨none,0,0⟩, [], [],_,rfl,K9,cD 1,rfl,Nat.le_refl _⟩ ?_
 clear K9
 rintro i _ h7 next hi ⟨inS,ins,XL,q,rfl,K7,oL,hil,hq⟩ hnx
 refine⟨_,b8,0,b10,0,_,_,inS,_,rfl,?_⟩
 have lL:=oL.1
 simp only [List.length_map,Nat.mul_one]at lL
 by_cases hlt:i<1+z
 ·refine aM (by rw [decide_eq_true_eq];omega) ?_
  repeat' (refine kr_ ?_)
  refine gC (hs.mono K7.le) hm ⟨_,rfl,?_⟩
  rw [cu (by omega),if_neg (by omega),bK (by omega)]
  refine kp_ ?_
  intro y h8 K8 _ _
  refine⟨_,rfl,?_⟩
  clear K7
  refine Kn.al K8 fun b126 h9 K9 l9 hb126=>?_
  have f126:=K9.at (.head _)
  refine Kn.growIn (A:= [_,_,_,_]) K9 oL (by omega) (by omega) (by omega) ⟨b126,0,rfl,ay f126⟩ rfl rfl fun s' X' h10 hn' o' K10 l10=>?_
  rw [aC (by omega)]
  exact hnx hlt _ _ ⟨s',ins++ [(y:Int)],X',_,rfl,K10.tl,by rw [List.map_append];exact o',by simp;omega,by omega⟩
 refine aE (by rw [decide_eq_false_iff_not];omega) ?_
 clear hnx
 repeat' (refine kr_ ?_)
 have il:IntS h7 inS ins:=(oL.buf fun e he=>K7.mem e (by simp [he])).slc_of (by omega)
 refine sk (hs.mono K7.le) hm il fun uS uI h8 t8=>⟨_,_,_,rfl,?_⟩
 have hrl:(tY m st0 ins).length<=7:=by
  unfold tY
  split
  ·rw [Ih];omega
  ·exact Nat.zero_le _
 obtain⟨XS,XI,oS,oI,K8'⟩:=t8
 have K8:=K7.app K8'.le K8'.new K8'.mem K8'.nd
 simp only [List.cons_append,List.append_nil,List.append_assoc]at K8
 clear K8' K7
 generalize tY m st0 ins=tl at*
 generalize mq m st0 ins=tb
 refine Kn.al K8 fun b144 h9 K9 l9 hb144=>?_
 clear K8
 refine kw_ ?_
 intro h10 K10 _
 simp only [cz,List.set_cons_zero,List.set_cons_succ,Nat.zero_add,Nat.reduceAdd]at K10
 clear K9 l9 hb144
 repeat' (refine kr_ ?_)
 have lS:=oS.1
 have lI:=oI.1
 simp only [List.length_map,aY,Nat.mul_one]at lS lI
 replace K10:Kn g h10 ((b144, .inl ⟨[uS.v,uI.v],2,false⟩)::(b10, .inl ⟨[(⟨none,0,0⟩:Sl).v,(⟨none,0,0⟩:Sl).v],2,false⟩)::(b8, .inl ⟨aw M,5,false⟩)::(B,rdC s q)::(XS++(XI++ []))):=by
  rw [List.append_nil]
  exact K10.subl (List.Sublist.cons_cons _ (List.Sublist.cons_cons _ (List.Sublist.cons_cons _ (List.Sublist.cons_cons _ (List.sublist_append_right _ _)))))
 obtain⟨g0,KA,KL⟩:=Kn.cut (A:= [_,_,_]) K10
 refine J8 (hb.mono KA.le) KL oS oI (by simp [aY]) (by simp [aY];omega) (by omega) fun wS wI us vs h11 l11 i1 i2 c1 c2 n1 n2=>⟨_,_,rfl,?_⟩
 exact fin KA.le (KA.at (.tail _ (.head _))) l11 i1 i2 c1 c2 n1 n2
theorem GO (a b c d e:Sl):wK [a.v,b.v,c.v,d.v,e.v]:=uL [a,b,c,d,e]
set_option maxHeartbeats 1000000 in
theorem si {h:Hp} {s:Sl} {bs:List Nat} {R:Value->Hp->Prop} (hcap:s.n<=s.c) (hs:ByteS h s bs)
  (k: ∀(h':Hp) (M:MSl) (m:ah) (sS sI:Sl) (us vs:List Int),h.le h'->aO h' M m->bW m->IntS h' sS us->IntS h' sI vs->sS.n<=sS.c->sI.n<=sI.c->us.length<=400->vs.length<=400->
   R (.tuple #[aQ M, .agg #[sS.v,sI.v]]) h'):i7 #[s.v] h R:=by
 apply yn
 refine uf_ ?_
 (with_reducible apply Kn.al);(exact Kn.nil h);(intro b3 h1 K1 l1 hb3)
 refine Kn.al K1 fun b5 h2 K2 l2 hb5=>?_
 refine FW K2 hcap hs fun B h3 s' bs' hb K3=>⟨_,rfl,?_⟩
 clear K1 K2
 refine tP K3 hb (by omega) fun h4 q X M m K4 o d hq=>⟨_,_,_,_,_,rfl,?_⟩
 clear K3
 refine Kn.al K4 fun b19 h5 K5 l5 hb19=>?_
 refine j6 (M':=M) K5 (by((focus ((repeat first|exact .head|apply Upd.tail);done)))) rfl fun h6 K6=>?_
 clear K4 K5 l5 hb19
 simp only [List.cons_append,List.nil_append]at K6
 repeat' (refine kr_ ?_)
 have K7:Kn h h6 (((b19, .inl ⟨aw M,5,false⟩)::(b5, .inl ⟨[(⟨none,0,0⟩:Sl).v,(⟨none,0,0⟩:Sl).v],2,false⟩)::(b3, .inl ⟨df,5,false⟩)::X)++ [(B,rdC s' q)]):=by
  refine K6.perm ?_
  refine List.Perm.trans ?_ (List.perm_append_comm (l₁:= [(B,rdC s' q)]))
  exact List.Perm.swap _ _ _
 obtain⟨g0,KA,KL⟩:=Kn.cut K7
 clear K7
 have hm:=d.small (by omega)
 refine QG (hb.mono KA.le) KL (o.modelS (A:= [_,_,_]) hm KA) hm (by omega) fun sS sI us vs h8 l8 i1 i2 c1 c2 n1 n2=>⟨_,_,rfl,?_⟩
 have K8:=KA.mono l8
 clear KL KA
 repeat' (refine kr_ ?_)
 clear K6
 have f3:=K8.at (b:=b3) (.tail _ (.tail _ (.head _)))
 refine kw_ ?_
 intro h9 K9 kp9
 simp only [cz,List.set_cons_zero,List.set_cons_succ,Nat.zero_add,Nat.reduceAdd]at K9
 replace i1:=i1.keepN f3 (GO ⟨none,0,0⟩ ⟨none,0,0⟩ ⟨none,0,0⟩ ⟨none,0,0⟩ ⟨none,0,0⟩) kp9
 replace i2:=i2.keepN f3 (GO ⟨none,0,0⟩ ⟨none,0,0⟩ ⟨none,0,0⟩ ⟨none,0,0⟩ ⟨none,0,0⟩) kp9
 have f5:=K9.at (b:=b5) (.tail _ (.head _))
 clear K8 kp9 f3
 refine kw_ ?_
 intro h10 K10 kp10
 simp only [cz,List.set_cons_zero,List.set_cons_succ,Nat.zero_add,Nat.reduceAdd]at K10
 replace i1:=i1.keepN f5 (iL ⟨none,0,0⟩ ⟨none,0,0⟩) kp10
 replace i2:=i2.keepN f5 (iL ⟨none,0,0⟩ ⟨none,0,0⟩) kp10
 clear K9 kp10 f5
 repeat' (refine kr_ ?_)
 exact k h10 M m sS sI us vs K10.le (o.modelS (A:= [_,_,_]) hm K10) hm i1 i2 c1 c2 n1 n2
theorem pA (xs ys:List Int):(pJ xs ys).length=xs.length:=by rw [List.length_map,List.length_range]
theorem C5 {σ:aD} {d:Nat} (h:σ.depth=some d):σ.depthI=d:=by unfold aD.depthI;rw [h]
theorem Yd {m:ah} {d:Nat} (hc:ax m=0) (hd:(aG m).depth=some d):dy m 256=⟨3,d,(aG m).wit d (aG m).begins,js⟩:=by
 rw [show dy m 256=wT (aG m) 256 from if_pos hc,FC (gX (cr hc)),C5 hd,if_pos (by omega)];rfl
theorem Ot {m:ah} {d:Nat} {x:Int} (hc:ax m=0) (hd:(aG m).depth=some d) (hx:(d:Int)<=x):pI m x=(aG m).wit d (aG m).begins/\rH m x=true:=by
 obtain⟨d',hd',_,h1,h2⟩:=AV (m:=m) (x:=x) ⟨hc,by rw [C5 hd];omega,by rw [C5 hd];exact hx⟩
 rw [hd]at hd'
 obtain rfl:=Option.some.inj hd'
 exact⟨h1,h2⟩
set_option maxHeartbeats 1000000 in
theorem FnUnsafe_spec {h:Hp} {s:Sl} {bs:List Nat} {R:Value->Hp->Prop} (hcap:s.n<=s.c) (hs:ByteS h s bs) (k:R (.bool true) h):wO #[s.v] h R:=by
 refine ACalls.drop (EZ ?_)
 refine uf_ ?_
 refine ac (fun _=>⟨h,Hp.le_refl _,k⟩) (fun _=>?_)
 refine si hcap hs fun h1 M m sS sI us vs l1 hM hm i1 i2 c1 c2 n1 n2=>⟨_,_,_,_,_,_,_,rfl,?_⟩
 have fin: ∀h' L,Kn h1 h' L-> ∃h'',h''.le h'/\R (.bool true) h'':=fun h' L K=>⟨h,Hp.le_trans l1 K.le,k⟩
 (with_reducible apply Kn.al);(exact Kn.nil h1);(intro b16 h2 K1 l2 hb16)
 refine Kn.al K1 fun b18 h3 K2 l3 hb18=>?_
 refine j6 (M':=M) K2 (by((focus ((repeat first|exact .head|apply Upd.tail);done)))) rfl fun h4 K4=>?_
 clear K1 K2
 refine kw_ ?_
 intro h5 K5 _
 simp only [cz,List.set_cons_zero,List.set_cons_succ,Nat.zero_add,Nat.reduceAdd]at K5
 clear K4
 have ls:=i1.len
 repeat' (refine kr_ ?_)
 refine ry (hM.mono K5.le) hm (i1.mono K5.le) (i2.mono K5.le) c1 ⟨_,rfl,?_⟩
 repeat' (refine kr_ ?_)
 refine rE (hM.mono K5.le) hm (i1.mono K5.le) (i2.mono K5.le) ⟨_,rfl,aE (by simp) (ac (fun _=>fin _ _ K5) (fun e=>?_))⟩
 have e0:dK m us vs=0:=by simpa using e
 clear e
 obtain⟨hc,n3,n4,n5,hp⟩:=Hr e0
 obtain⟨d,hd,hdl⟩:=F1 hp
 rw [pA]at hdl
 have hv:=Yd hc hd
 obtain⟨hl,hl2⟩:=Ot (x:=((us.length:Nat):Int)-1) hc hd (by omega)
 repeat' (refine kr_ ?_)
 refine gA (hM.mono K5.le) hm fun wS wI wN h6 tw=>⟨_,_,_,_,_,_,_,rfl,?_⟩
 have K6:=K5.mono tw.le
 clear K5
 refine Kn.al K6 fun b68 h7 K7 l7 hb68=>?_
 refine kw_ ?_
 intro h8 K8 kp8
 have l68:=cL hb68 l7 kp8
 have hw:=(tw.mono l68).vrS
 replace K8:Kn h1 h8 ((b68, .inl ⟨SJ (dy m 256) wS wI wN,7,false⟩)::(b18, .inl ⟨[sS.v,sI.v],2,false⟩)::(b16, .inl ⟨aw M,5,false⟩):: []):=K8
 rw [hv]at K8 hw
 clear K6 K7 kp8 l7 hb68 tw hv h7
 repeat' (refine kr_ ?_)
 rw [bU (by omega) (by omega),ls]
 refine su (hM.mono K8.le) hm fun xS xI h9 tx=>⟨_,_,_,rfl,?_⟩
 rw [hl]at tx
 rw [hl2]
 have K9:=K8.mono tx.le
 replace hw:VrS h9 _ _ _ _:=⟨hw.1.mono tx.le,hw.2.1.mono tx.le,hw.2.2.mono tx.le⟩
 clear K8
 refine Kn.al K9 fun b85 h10 K10 l10 hb85=>?_
 refine kw_ ?_
 intro h11 K11 kp11
 have l9:=cL hb85 l10 kp11
 have hx:=(tx.mono l9).ints
 clear K9 K10 kp11 hb85 l10
 (refine kr_ ?_)
 refine aM rfl ?_
 repeat' (refine kr_ ?_)
 refine aM (by rw [decide_eq_true_eq,bU (by omega) (by omega)];show (d:Int)<=_;omega) (aM rfl ?_)
 repeat' (refine kr_ ?_)
 exact rF hx ⟨hw.1.mono l9,hw.2.1.mono l9⟩ ⟨_,rfl,fin _ _ K11⟩
end Go.Lead
