/- What functions of the program and of the reference come to, walked one by one, and plain laws about it: part 5. No condition is added to the statement. -/
import Derived.Test.YtlfhohhpeklnkaaGreatZ3
namespace Go.Lead
open Go
set_option linter.unusedSimpArgs false
set_option linter.unusedVariables false
set_option maxRecDepth 100000
set_option maxHeartbeats 1000000
theorem DM.addI {m:ah} {N:Nat} (d:DM m N) (x:BindP):DM {m with inits:=m.inits++ [x]} (N+1):=
 ⟨Nat.le_succ_of_le d.nodes,d.sorts,d.names,by have:=d.inits;simp;omega,Nat.le_succ_of_le d.nexts,Nat.le_succ_of_le d.bads,Nat.le_succ_of_le d.holds⟩
theorem DM.addE {m:ah} {N:Nat} (d:DM m N) (x:BindP):DM {m with nexts:=m.nexts++ [x]} (N+1):=
 ⟨Nat.le_succ_of_le d.nodes,d.sorts,d.names,Nat.le_succ_of_le d.inits,by have:=d.nexts;simp;omega,Nat.le_succ_of_le d.bads,Nat.le_succ_of_le d.holds⟩
theorem DM.addB {m:ah} {N:Nat} (d:DM m N) (x:Int):DM {m with bads:=m.bads++ [x]} (N+1):=
 ⟨Nat.le_succ_of_le d.nodes,d.sorts,d.names,Nat.le_succ_of_le d.inits,Nat.le_succ_of_le d.nexts,by have:=d.bads;simp;omega,Nat.le_succ_of_le d.holds⟩
theorem DM.addH {m:ah} {N:Nat} (d:DM m N) (x:Int):DM {m with holds:=m.holds++ [x]} (N+1):=
 ⟨Nat.le_succ_of_le d.nodes,d.sorts,d.names,Nat.le_succ_of_le d.inits,Nat.le_succ_of_le d.nexts,Nat.le_succ_of_le d.bads,by have:=d.holds;simp;omega⟩
theorem Rg {g h:Hp} {H X:List (Nat×Blk)} {b bn:Nat} {M:MSl} {m:ah} {nd:BindP} {J:Hp->Prop} (o:MG X M m) (K:Kn g h ((bn, .inl ⟨bindCells nd,2,false⟩)::(H++X))) (hm:m.inits.length<=10000) (hb:(b, .inl ⟨aw M,5,false⟩)∈H)
  (k: ∀s' X' h',MG X' {M with ini:=s'} {m with inits:=m.inits++ [nd]}->(∀H',Upd H b (.inl ⟨aw M,5,false⟩) (.inl ⟨aw {M with ini:=s'},5,false⟩) H'->Kn g h' (H'++X'))->J h'):
  co h M.ini.a M.ini.n M.ini.c (some ⟨bn,0,none⟩) 1 2 16 fun a n c h95=> ∃(cs:List Value) (z:Nat),h95 b=some (.inl ⟨cs,z,false⟩)/\(0+1)+1<=List.length cs/\cz (h95.row b (cA cs (0+1) [.slice a n c]) z) fun h'=>J h':=by
 refine MG.appI (A:=_::H) (n:=nd) o K (by omega) (K.at (.head _)) fun s' X' h7 o' K7=>?_
 rw [List.cons_append]at K7
 have f:=K7.at (.tail _ (List.mem_append_left _ hb))
 exact⟨_,_,f,by simp,k s' X' _ o' fun H' u=>(K7.tl).set (u.app (X:=X'))⟩
theorem Ra {g h:Hp} {H X:List (Nat×Blk)} {b bn:Nat} {M:MSl} {m:ah} {nd:BindP} {J:Hp->Prop} (o:MG X M m) (K:Kn g h ((bn, .inl ⟨bindCells nd,2,false⟩)::(H++X))) (hm:m.nexts.length<=10000) (hb:(b, .inl ⟨aw M,5,false⟩)∈H)
  (k: ∀s' X' h',MG X' {M with nex:=s'} {m with nexts:=m.nexts++ [nd]}->(∀H',Upd H b (.inl ⟨aw M,5,false⟩) (.inl ⟨aw {M with nex:=s'},5,false⟩) H'->Kn g h' (H'++X'))->J h'):
  co h M.nex.a M.nex.n M.nex.c (some ⟨bn,0,none⟩) 1 2 16 fun a n c h95=> ∃(cs:List Value) (z:Nat),h95 b=some (.inl ⟨cs,z,false⟩)/\(0+2)+1<=List.length cs/\cz (h95.row b (cA cs (0+2) [.slice a n c]) z) fun h'=>J h':=by
 refine MG.appE (A:=_::H) (n:=nd) o K (by omega) (K.at (.head _)) fun s' X' h7 o' K7=>?_
 rw [List.cons_append]at K7
 have f:=K7.at (.tail _ (List.mem_append_left _ hb))
 exact⟨_,_,f,by simp,k s' X' _ o' fun H' u=>(K7.tl).set (u.app (X:=X'))⟩
theorem Ww {g h:Hp} {H X:List (Nat×Blk)} {b bn:Nat} {M:MSl} {m:ah} {nd:Int} {J:Hp->Prop} (o:MG X M m) (K:Kn g h ((bn, .inl ⟨[I nd],1,false⟩)::(H++X))) (hm:m.bads.length<=10000) (hb:(b, .inl ⟨aw M,5,false⟩)∈H)
  (k: ∀s' X' h',MG X' {M with bad:=s'} {m with bads:=m.bads++ [nd]}->(∀H',Upd H b (.inl ⟨aw M,5,false⟩) (.inl ⟨aw {M with bad:=s'},5,false⟩) H'->Kn g h' (H'++X'))->J h'):
  co h M.bad.a M.bad.n M.bad.c (some ⟨bn,0,none⟩) 1 1 8 fun a n c h95=> ∃(cs:List Value) (z:Nat),h95 b=some (.inl ⟨cs,z,false⟩)/\(0+3)+1<=List.length cs/\cz (h95.row b (cA cs (0+3) [.slice a n c]) z) fun h'=>J h':=by
 refine MG.appB (A:=_::H) (n:=nd) o K (by omega) (K.at (.head _)) fun s' X' h7 o' K7=>?_
 rw [List.cons_append]at K7
 have f:=K7.at (.tail _ (List.mem_append_left _ hb))
 exact⟨_,_,f,by simp,k s' X' _ o' fun H' u=>(K7.tl).set (u.app (X:=X'))⟩
theorem QZ {g h:Hp} {H X:List (Nat×Blk)} {b bn:Nat} {M:MSl} {m:ah} {nd:Int} {J:Hp->Prop} (o:MG X M m) (K:Kn g h ((bn, .inl ⟨[I nd],1,false⟩)::(H++X))) (hm:m.holds.length<=10000) (hb:(b, .inl ⟨aw M,5,false⟩)∈H)
  (k: ∀s' X' h',MG X' {M with hol:=s'} {m with holds:=m.holds++ [nd]}->(∀H',Upd H b (.inl ⟨aw M,5,false⟩) (.inl ⟨aw {M with hol:=s'},5,false⟩) H'->Kn g h' (H'++X'))->J h'):
  co h M.hol.a M.hol.n M.hol.c (some ⟨bn,0,none⟩) 1 1 8 fun a n c h95=> ∃(cs:List Value) (z:Nat),h95 b=some (.inl ⟨cs,z,false⟩)/\(0+4)+1<=List.length cs/\cz (h95.row b (cA cs (0+4) [.slice a n c]) z) fun h'=>J h':=by
 refine MG.appH (A:=_::H) (n:=nd) o K (by omega) (K.at (.head _)) fun s' X' h7 o' K7=>?_
 rw [List.cons_append]at K7
 have f:=K7.at (.tail _ (List.mem_append_left _ hb))
 exact⟨_,_,f,by simp,k s' X' _ o' fun H' u=>(K7.tl).set (u.app (X:=X'))⟩
set_option maxHeartbeats 2000000 in
theorem QD {g h:Hp} {A X:List (Nat×Blk)} {B p N:Nat} {s:Sl} {bs:List Nat} {M:MSl} {m:ah} {R:Value->Hp->Prop} (K:Kn g h ((B,rdC s p)::(A++X))) (hb:ByteS g s bs) (o:MG X M m) (d:DM m N) (hN:N<=100)
  (hne:0<m.nodes.length) (hp:p<=100000)
  (k: ∀h' p' X' M' m',Kn g h' ((B,rdC s p')::(A++X'))->MG X' M' m'->DM m' (6*N)->0<m'.nodes.length->p'<=p+N*1000->R (aQ M') h'):
  oT #[.pointer (some ⟨B,0,none⟩),aQ M] h R:=by
 apply BW
 refine uf_ ?_
 have hl:=o.lens
 have hsm:=d.small (by omega)
 have hdn:=d.nodes
 refine Kn.al K fun b8 h1 K1 l1 hb8=>?_
 refine Kn.al K1 fun b10 h2 K2 l2 hb10=>?_
 clear K K1 l1 l2 hb8 hb10
 (refine kr_ ?_)
 refine av m.nodes.length (fun i vs h'=> ∃q X' M' m',vs= [.pointer (some ⟨B,0,none⟩), .pointer (some ⟨b8,0,none⟩), .pointer (some ⟨b10,0,none⟩),I (M.no.n:Nat),I i]/\MG X' M' m'/\DM m' (N+5*i)/\m.nodes.length<=m'.nodes.length/\q<=p+i*1000/\
  Kn g h' ((b10, .inl ⟨dg,5,false⟩)::(b8, .inl ⟨aw M',5,false⟩)::(B,rdC s q)::(A++X'))) ⟨p,X,M,m,rfl,o,d,Nat.le_refl _,by omega,K2⟩ ?_
 clear K2 h1 h2 h
 rintro i _ h4 nxt hi ⟨q,X',M',m',rfl,o',d',hle,hq,K4⟩ hnx
 refine⟨_,b8,0,b10,0,_,_,rfl,?_⟩
 have hl':=o'.lens
 have hdn':=d'.nodes
 have hsm':=d'.small (by omega)
 by_cases hlt:i<m.nodes.length
 rotate_left
 ·refine aE (by rw [decide_eq_false_iff_not];omega) ?_
  repeat' (refine kr_ ?_)
  refine Dn K4 (by((focus ((repeat first|exact .head|apply Upd.tail);done)))) fun h6 K6=>?_
  exact k h6 q X' M' m' K6.tl.tl o' (d'.more (by omega)) (by omega) (by omega)
 refine aM (by rw [decide_eq_true_eq];omega) ?_
 refine ap (fun J=> ∀h5 q X M1 m1,MG X M1 m1->DM m1 (N+5*(i+1))->m.nodes.length<=m1.nodes.length->q<=p+(i+1)*1000->Kn g h5 ((b10, .inl ⟨dg,5,false⟩)::(b8, .inl ⟨aw M1,5,false⟩)::(B,rdC s q)::(A++X))->J (some ⟨B,0,none⟩) b8 0 b10 0 (M.no.n:Nat) i h5)
  (fun h5 q X M1 m1 o1 d1 hl1 hq1 K5=>?_) (fun J hJ=>?_)
 ·rw [aC (by omega)]
  exact hnx hlt _ _ ⟨q,X,M1,m1,rfl,o1,d1,hl1,hq1,K5⟩
 clear hnx
 have hs:=o'.modelS (A:=_::_::_::A) hsm' K4
 obtain⟨ni,hni⟩: ∃n,m'.nodes[i]?=some n:=⟨_,List.getElem?_eq_getElem (by omega)⟩
 have hst:=rZ d' hni
 obtain⟨b,oo,ha,e0,e1,e2,e3,e4,e5,e6,e7,e8⟩:=hs.nodes.at hni
 (refine kr_ ?_)
 refine⟨b,oo,ha,by omega,by omega,_,by rw [Int.toNat_natCast];exact e0,?_⟩
 refine ac (fun _=>hJ h4 q X' M' m' o' (d'.more (by omega)) hle (by omega) K4) (fun hkn=>?_)
 (refine kr_ ?_)
 refine⟨b,oo,ha,by omega,by omega,_,by rw [Int.toNat_natCast];exact e6,_,by rw [Int.toNat_natCast];exact e7,?_⟩
 generalize ni.sort=st at*
 clear hkn e0 e1 e2 e3 e4 e5 e6 e7 e8 hs hni ha ni oo b
 refine Kn.al K4 fun b41 h5 K5 l5 hb5=>?_
 refine kw_ ?_
 intro h6 K6 kpz
 clear kpz
 have K6':Kn g h6 ((b41, .inl ⟨[I st.idx,I st.wid],2,false⟩)::(b10, .inl ⟨dg,5,false⟩)::(b8, .inl ⟨aw M',5,false⟩)::(B,rdC s q)::(A++X')):=K6
 clear K6 K5 K4 l5 hb5
 obtain⟨_,hw1,hw2⟩:=lp hst
 refine kp_ ?_
 intro x49 h7 K7 hx49 _
 refine⟨_,rfl,?_⟩
 clear K6'
 refine ap (fun J2=> ∀h8 q2 X2 M2 m2,MG X2 M2 m2->DM m2 (N+5*i+2)->m.nodes.length<=m2.nodes.length->q2<=p+i*1000+2->Kn g h8 ((b41, .inl ⟨[I st.idx,I st.wid],2,false⟩)::(b10, .inl ⟨dg,5,false⟩)::(b8, .inl ⟨aw M2,5,false⟩)::(B,rdC s q2)::(A++X2))->J2 h8)
  (fun h8 q2 X2 M2 m2 o2 d2 hl2 hq2 K8=>?_) (fun J2 hJ2=>?_)
 rotate_left
 ·refine ac (fun _=>?_) (fun _=>hJ2 h7 _ X' M' m' o' (d'.more (by omega)) hle (by omega) K7)
  refine ap (fun J3=> ∀h8 s2 X2 q2 nd,MG X2 {M' with no:=s2} {m' with nodes:=m'.nodes++ [nd]}->bT nd.sort=true->nd.name.size=0->q2<=p+i*1000+2->
   Kn g h8 ((b41, .inl ⟨[I st.idx,I st.wid],2,false⟩)::(b10, .inl ⟨dg,5,false⟩)::(b8, .inl ⟨aw {M' with no:=s2},5,false⟩)::(B,rdC s q2)::(A++X2))->J3 h8) (fun h8 s2 X2 q2 nd o2 hs2 hn2 hq2 K8=>?_) (fun J3 hJ3=>?_)
  ·have hdi:=d'.inits
   (refine kr_ ?_)
   (refine kr_ ?_)
   refine Kn.al K8 fun b104 h9 K9 l9 hb9=>?_
   refine Rg (H:=_::_::_::_::A) (nd:=⟨i,W ((s2.n:Int)-1)⟩) o2 K9 (by dsimp only;omega) (.tail _ (.tail _ (.head _))) fun s3 X3 h10 o3 KF=>?_
   have K10:=KF _ (by((focus ((repeat first|exact .head|apply Upd.tail);done))))
   simp only [List.cons_append]at K10
   clear KF K9 K8 K7
   refine hJ2 h10 q2 X3 _ _ o3 (((d'.addN hs2 (by omega)).addI _).more (by omega)) (by simp;omega) hq2 K10
  obtain⟨w,hw⟩: ∃w:Nat,st.wid=w:=⟨st.wid.toNat,by omega⟩
  have hp2:0<2^w:=Nat.two_pow_pos w
  have fin: ∀(y:Nat) (h5 h6:Hp) (q2 b:Nat),q2<=p+i*1000+2->
    Kn g h6 ((b, .inl ⟨[I 34,I 0,I 0,I 0,I (Int.tmod y (2^w:Nat)),I 0,I 0,I st.wid, .string ⟨#[]⟩],9,false⟩)::(b41, .inl ⟨[I st.idx,I st.wid],2,false⟩)::(b10, .inl ⟨dg,5,false⟩)::(b8, .inl ⟨aw M',5,false⟩)::(B,rdC s q2)::(A++X'))->
    co h6 M'.no.a M'.no.n M'.no.c (some (Addr.mk b 0 none)) 1 9 80 fun a92 n93 k94 h95=> ∃(cs96:List Value) (z97:Nat),h95 b8=some (.inl ⟨cs96,z97,false⟩)/\0+1<=List.length cs96/\cz (h95.row b8 (cA cs96 0 [(.slice a92 n93 k94)]) z97) fun h98=>J3 h98:=by
   intro y h5 h6 q2 b hq2 K6
   refine lE (H:=_::_::_::_::A) (nd:=⟨34,0,0,0,Int.tmod y (2^w:Nat),0,cF st.wid,⟨#[]⟩⟩) o' K6 (by omega) (.tail _ (.tail _ (.head _))) fun s2 X2 h8 o2 KF=>?_
   have K8:=KF _ (by((focus ((repeat first|exact .head|apply Upd.tail);done))))
   simp only [List.cons_append]at K8
   exact hJ3 h8 s2 X2 q2 _ o2 (nP hw1 hw2) rfl hq2 K8
  repeat' (refine kr_ ?_)
  refine⟨?_,?_⟩
  ·refine kp_ ?_
   intro y h8 K8 hy _
   refine⟨_,rfl,?_⟩
   repeat' (refine kr_ ?_)
   refine⟨?_,?_⟩
   ·repeat' (refine kr_ ?_)
    rw [hw,cu (by omega),if_neg (by omega),bJ (by omega),if_neg (by omega),<-hw]
    refine ce ⟨_,_,rfl,?_⟩
    repeat' (refine kr_ ?_)
    refine Kn.al K8 fun b90 h9 K9 l9 hb90=>?_
    (refine kr_ ?_)
    exact fin y h8 h9 _ b90 (by omega) K9
   ·repeat' (refine kr_ ?_)
    refine ce ⟨_,_,rfl,?_⟩
    repeat' (refine kr_ ?_)
    rw [hw,cu (by omega),if_neg (by omega),bJ (by omega),if_neg (by omega),<-hw]
    refine Kn.al K8 fun b90 h9 K9 l9 hb90=>?_
    (refine kr_ ?_)
    exact fin y h8 h9 _ b90 (by omega) K9
  ·repeat' (refine kr_ ?_)
   rw [hw,cu (by omega),if_neg (by omega),bJ (by omega),<-hw]
   refine kp_ ?_
   intro y h8 K8 hy _
   refine⟨_,rfl,?_⟩
   repeat' (refine kr_ ?_)
   rw [if_neg (by omega)]
   refine ce ⟨_,_,rfl,?_⟩
   repeat' (refine kr_ ?_)
   refine Kn.al K8 fun b90 h9 K9 l9 hb90=>?_
   (refine kr_ ?_)
   exact fin y h8 h9 _ b90 (by omega) K9
 clear K7 h7 hsm' hdn' hl' hq d' o' hle X' M' m' q
 have hl':=o2.lens
 have hdn':=d2.nodes
 have hsm':=d2.small (by omega)
 refine kp_ ?_
 intro x118 h9 K9 _ _
 refine⟨_,rfl,?_⟩
 refine ac (fun _=>hJ h9 _ X2 M2 m2 o2 (d2.more (by omega)) hl2 (by omega) K9.tl) (fun _=>?_)
 clear K8
 refine av m2.nodes.length (fun j vs h'=> ∃(a q:Nat),vs= [.pointer (some ⟨B,0,none⟩), .pointer (some ⟨b8,0,none⟩), .pointer (some ⟨b10,0,none⟩),I (M.no.n:Nat),I i, .pointer (some ⟨b41,0,none⟩),I a,I j]/\a<m2.nodes.length/\q<=p+i*1000+3+j/\
  Kn g h' ((b41, .inl ⟨[I st.idx,I st.wid],2,false⟩)::(b10, .inl ⟨dg,5,false⟩)::(b8, .inl ⟨aw M2,5,false⟩)::(B,rdC s q)::(A++X2))) ⟨i,_,rfl,by omega,by omega,K9⟩ ?_
 clear K9 h9 h8 hq2
 rintro j _ h8 nxt hj ⟨a,q,rfl,haL,hq,K8⟩ hnx
 refine⟨_,b8,0,b10,0,_,_,b41,0,_,_,rfl,?_⟩
 have hs:=o2.modelS (A:=_::_::_::_::A) hsm' K8
 (refine kr_ ?_)
 by_cases hlj:j<m2.nodes.length
 ·refine aM (by rw [decide_eq_true_eq];omega) ?_
  refine ap (fun J3=> ∀(c:Nat) h5 q,c<m2.nodes.length->q<=p+i*1000+3+(j+1)->Kn g h5 ((b41, .inl ⟨[I st.idx,I st.wid],2,false⟩)::(b10, .inl ⟨dg,5,false⟩)::(b8, .inl ⟨aw M2,5,false⟩)::(B,rdC s q)::(A++X2))->J3 (c:Int) h5) (fun c h5 q' hc hq' K5=>?_) (fun J3 hJ3=>?_)
  ·rw [aC (by omega)]
   exact hnx hlj _ _ ⟨c,q',rfl,hc,hq',K5⟩
  ·(refine kr_ ?_)
   obtain⟨nj,hnj⟩: ∃n,m2.nodes[j]?=some n:=⟨_,List.getElem?_eq_getElem hlj⟩
   obtain⟨b,oo,ha,e0,e1,e2,e3,e4,e5,e6,e7,e8⟩:=hs.nodes.at hnj
   refine⟨b,oo,ha,by omega,by omega,_,by rw [Int.toNat_natCast];exact e6,_,by rw [Int.toNat_natCast];exact e7,?_⟩
   (refine kr_ ?_)
   (refine kr_ ?_)
   refine ac (fun e=>?_) (fun e=>?_)
   ·(refine kr_ ?_)
    refine⟨b,oo,ha,by omega,by omega,_,by rw [Int.toNat_natCast];exact e0,?_⟩
    refine ac (fun e=>?_) (fun e=>?_)
    ·refine ac (fun e=>?_) (fun e=>?_)
     ·exact hJ3 _ h8 q hlj (by omega) K8
     refine kp_ ?_
     intro x h5 K5 hx _
     refine⟨_,rfl,?_⟩
     exact ac (fun e=>hJ3 _ h5 (q+1) hlj (by omega) K5) (fun e=>hJ3 _ h5 (q+1) haL (by omega) K5)
    ·exact hJ3 _ h8 q haL (by omega) K8
   ·exact hJ3 _ h8 q haL (by omega) K8
 refine aE (by rw [decide_eq_false_iff_not];omega) ?_
 clear hnx hs
 refine ap (fun J3=> ∀(c:Bool) h5 q,q<=p+i*1000+4+m2.nodes.length->Kn g h5 ((b41, .inl ⟨[I st.idx,I st.wid],2,false⟩)::(b10, .inl ⟨dg,5,false⟩)::(b8, .inl ⟨aw M2,5,false⟩)::(B,rdC s q)::(A++X2))->J3 c h5) (fun c h5 q' hq' K5=>?_) (fun J3 hJ3=>?_)
 rotate_left
 ·refine ac (fun e=>?_) (fun e=>hJ3 _ h8 q (by omega) K8)
  repeat' (refine kr_ ?_)
  refine ac (fun e=>?_) (fun e=>hJ3 _ h8 q (by omega) K8)
  refine kp_ ?_
  intro x h5 K5 hx _
  exact⟨_,rfl,hJ3 _ h5 (q+1) (by omega) K5⟩
 clear K8 hq q h8
 refine ap (fun J3=> ∀(x:Int) h5 q X3 M3 m3,MG X3 M3 m3->DM m3 (N+5*i+4)->m.nodes.length<=m3.nodes.length->q<=p+i*1000+4+m2.nodes.length->Kn g h5 ((b41, .inl ⟨[I st.idx,I st.wid],2,false⟩)::(b10, .inl ⟨dg,5,false⟩)::(b8, .inl ⟨aw M3,5,false⟩)::(B,rdC s q)::(A++X3))->J3 x h5)
  (fun x h6 q X3 M3 m3 o3 d3 hl3 hq3 K6=>?_) (fun J3 hJ3=>?_)
 ·have hde:=d3.nexts
  (refine kr_ ?_)
  refine Kn.al K6 fun b202 h9 K9 l9 hb9=>?_
  refine Ra (H:=_::_::_::_::A) (nd:=⟨i,x⟩) o3 K9 (by omega) (.tail _ (.tail _ (.head _))) fun s3 X4 h10 o4 KF=>?_
  have K10:=KF _ (by((focus ((repeat first|exact .head|apply Upd.tail);done))))
  simp only [List.cons_append]at K10
  exact hJ h10 q X4 _ _ o4 ((d3.addE _).more (by omega)) (by simp;omega) (by omega) K10.tl
 refine ac (fun e=>?_) (fun e=>hJ3 _ h5 q' X2 M2 m2 o2 (d2.more (by omega)) hl2 (by omega) K5)
 repeat' (refine kr_ ?_)
 refine Kn.al K5 fun b173 h6 K6 l6 hb6=>?_
 refine lE (H:=_::_::_::_::A) (nd:=⟨34,0,0,0,1,0,st,⟨#[]⟩⟩) o2 K6 (by omega) (.tail _ (.tail _ (.head _))) fun s3 X3 h7 o3 KF=>?_
 have K7:=KF _ (by((focus ((repeat first|exact .head|apply Upd.tail);done))))
 simp only [List.cons_append]at K7
 clear KF K6 K5
 repeat' (refine kr_ ?_)
 refine Kn.al K7 fun b187 h8 K8 l8 hb8=>?_
 refine lE (H:=_::_::_::_::A) (nd:=⟨9,i,W ((s3.n:Int)-1),0,0,0,st,⟨#[]⟩⟩) o3 K8 (by simp;omega) (.tail _ (.tail _ (.head _))) fun s4 X4 h9 o4 KF=>?_
 have K9:=KF _ (by((focus ((repeat first|exact .head|apply Upd.tail);done))))
 simp only [List.cons_append]at K9
 clear KF K8 K7
 repeat' (refine kr_ ?_)
 have dA:=d2.addN (n:=⟨34,0,0,0,1,0,st,⟨#[]⟩⟩) hst (show (0:Nat)<=100 by omega)
 have dB:=dA.addN (n:=⟨9,i,W ((s3.n:Int)-1),0,0,0,st,⟨#[]⟩⟩) hst (show (0:Nat)<=100 by omega)
 exact hJ3 _ h9 q' X4 _ _ o4 (dB.more (by omega)) (by simp;omega) (by omega) K9
inductive Pk {α:Type}:List α->α->List α->Prop
 |head {L:List α} {a:α}:Pk (a::L) a L
 |tail {L L':List α} {a e:α}:Pk L a L'->Pk (e::L) a (e::L')
theorem Pk.perm {α:Type} {L L':List α} {a:α} (u:Pk L a L'):L.Perm (a::L'):=by
 induction u with
 |head=>exact List.Perm.refl _
 |tail _ ih=>exact(List.Perm.cons _ ih).trans (List.Perm.swap ..)
abbrev acg (w:Int):List NodeP:= [⟨36,0,0,0,0,0,⟨0,w⟩,⟨#[120]⟩⟩,⟨34,0,0,0,0,0,⟨0,w⟩,⟨#[]⟩⟩,⟨34,0,0,0,1,0,⟨0,w⟩,⟨#[]⟩⟩,⟨34,0,0,0,3,0,⟨0,w⟩,⟨#[]⟩⟩,⟨35,0,0,0,0,0,⟨0,1⟩,⟨#[103,111]⟩⟩,
 ⟨9,0,2,0,0,0,⟨0,w⟩,⟨#[]⟩⟩,⟨33,4,5,0,0,0,⟨0,w⟩,⟨#[]⟩⟩,⟨21,0,3,0,0,0,⟨0,1⟩,⟨#[]⟩⟩]
abbrev acX (w:Int):ah:=⟨acg w, [⟨0,1⟩], [⟨0,6⟩], [7], []⟩
abbrev abU (w:Int):List Value:=(acg w).flatMap nodeCells
set_option maxHeartbeats 4000000 in
theorem tT {g h:Hp} {A:List (Nat×Blk)} {B p:Nat} {s:Sl} {bs:List Nat} {R:Value->Hp->Prop} (K:Kn g h ((B,rdC s p)::A)) (hb:ByteS g s bs) (hp:p<=900000)
  (k: ∀h' p' X' M' m',Kn g h' ((B,rdC s p')::(A++X'))->MG X' M' m'->DM m' 8->ax m'=0->0<m'.nodes.length->p'<=p+1->R (aQ M') h'):
  gu #[.pointer (some ⟨B,0,none⟩)] h R:=by
 apply yv
 refine uf_ ?_
 refine Kn.al K fun b3 h1 K1 l1 hb3=>?_
 clear K l1 hb3
 refine kp_ ?_
 intro x h2 K2 hx _
 refine⟨_,rfl,?_⟩
 have hx':x<2:=by have:=hx (by omega);omega
 clear K1
 refine ce ⟨_,_,rfl,?_⟩
 refine Kn.al K2 fun b14 h3 K3 l3 hb14=>?_
 refine kw_ ?_
 intro h4 K4 kpz
 clear kpz
 obtain⟨w,hw,hw2⟩: ∃w:Int,W (2+(x:Int))=w/\(w=2\/w=3):=⟨_,rfl,by rw [bU (by omega) (by omega)];omega⟩
 rw [hw]at K4
 have K4':Kn g h4 ((b14, .inl ⟨[I 0,I w],2,false⟩)::(b3, .inl ⟨dg,5,false⟩)::(B,rdC s (p+1))::A):=K4
 clear K4 K3 K2
 refine ap (fun J=> ∀h5 (bN bI bE bB:Nat),Kn g h5 ((bN, .inl ⟨abU w,72,false⟩)::(bI, .inl ⟨[I 0,I 1],2,false⟩)::(bE, .inl ⟨[I 0,I 6],2,false⟩)::(bB, .inl ⟨[I 7],1,false⟩)::(b14, .inl ⟨[I 0,I w],2,false⟩)::
   (b3, .inl ⟨aw ⟨⟨some ⟨bN,0,none⟩,8,8⟩,⟨some ⟨bI,0,none⟩,1,1⟩,⟨some ⟨bE,0,none⟩,1,1⟩,⟨some ⟨bB,0,none⟩,1,1⟩,⟨none,0,0⟩⟩,5,false⟩)::(B,rdC s (p+1))::A)->J h5) (fun h5 bN bI bE bB K5=>?_) (fun J hJ=>?_)
 ·clear K4'
  repeat' (refine kr_ ?_)
  have K6:=(K5.perm (List.perm_append_comm (l₁:= [_,_,_,_]) (l₂:=_::_::_::A))).tl.tl
  refine k h5 (p+1) _ ⟨⟨some ⟨bN,0,none⟩,8,8⟩,⟨some ⟨bI,0,none⟩,1,1⟩,⟨some ⟨bE,0,none⟩,1,1⟩,⟨some ⟨bB,0,none⟩,1,1⟩,⟨none,0,0⟩⟩ (acX w) K6 ?_ ?_ ?_ ?_ (Nat.le_refl _)
  ·exact⟨[_], [_], [_], [_], [],rfl,⟨rfl,Nat.le_refl _, .inr ⟨bN,rfl,rfl⟩⟩,⟨rfl,Nat.le_refl _, .inr ⟨bI,rfl,rfl⟩⟩,⟨rfl,Nat.le_refl _, .inr ⟨bE,rfl,rfl⟩⟩,⟨rfl,Nat.le_refl _, .inr ⟨bB,rfl,rfl⟩⟩,cC 1⟩
  ·refine⟨Nat.le_refl _,?_,?_,show (1:Nat)<=8 by omega,show (1:Nat)<=8 by omega,show (1:Nat)<=8 by omega,show (0:Nat)<=8 by omega⟩
   ·rcases hw2 with rfl|rfl<;>decide
   ·rcases hw2 with rfl|rfl<;>decide
  ·rcases hw2 with rfl|rfl<;>decide
  ·exact Nat.succ_pos _
 have leaf: ∀h5 L L1 L2 L3 (bN bI bE bB:Nat),Kn g h5 L->Pk L (bN, .inl ⟨abU w,72,false⟩) L1->Pk L1 (bI, .inl ⟨[I 0,I 1],2,false⟩) L2->Pk L2 (bE, .inl ⟨[I 0,I 6],2,false⟩) L3->
   Pk L3 (bB, .inl ⟨[I 7],1,false⟩) ((b14, .inl ⟨[I 0,I w],2,false⟩)::(b3, .inl ⟨dg,5,false⟩)::(B,rdC s (p+1))::A)->
   ∃(cs:List Value) (z:Nat),h5 b3=some (.inl ⟨cs,z,false⟩)/\0+5<=List.length cs/\cz (h5.row b3 (cA cs 0 [.slice (some ⟨bN,0,none⟩) 8 8, .slice (some ⟨bI,0,none⟩) 1 1, .slice (some ⟨bE,0,none⟩) 1 1, .slice (some ⟨bB,0,none⟩) 1 1, .slice none 0 0]) z) fun h'=>J h':=by
  intro h5 L L1 L2 L3 bN bI bE bB K p1 p2 p3 p4
  have K':=K.perm (p1.perm.trans (List.Perm.cons _ (p2.perm.trans (List.Perm.cons _ (p3.perm.trans (List.Perm.cons _ p4.perm))))))
  refine j3 (M':=⟨⟨some ⟨bN,0,none⟩,8,8⟩,⟨some ⟨bI,0,none⟩,1,1⟩,⟨some ⟨bE,0,none⟩,1,1⟩,⟨some ⟨bB,0,none⟩,1,1⟩,⟨none,0,0⟩⟩) K' (by((focus ((repeat first|exact .head|apply Upd.tail);done)))) rfl fun h6 K6=>?_
  exact hJ h6 bN bI bE bB K6
 clear k hJ hw2 hw hx' hx
 repeat' (refine kr_ ?_)
 repeat' first
  |(refine kr_ ?_)
  |refine ce ⟨_,_,rfl,?_⟩
  |((with_reducible apply Kn.al);(assumption);(intro b hN KN lN hbN))
  |(refine leaf _ _ _ _ _ _ _ _ _ (by assumption) (by((focus ((repeat first|exact .head|apply Pk.tail);done)))) (by((focus ((repeat first|exact .head|apply Pk.tail);done)))) (by((focus ((repeat first|exact .head|apply Pk.tail);done)))) (by((focus ((repeat first|exact .head|apply Pk.tail);done)))))
  |refine⟨?_,?_⟩
theorem Kn.subl {g h:Hp} {L L':List (Nat×Blk)} (K:Kn g h L) (s:L'.Sublist L):Kn g h L':=K.sub (fun e he=>s.subset he) (List.Nodup.sublist (s.map _) K.nd)
theorem FH {g h:Hp} {L:List (Nat×Blk)} {s:Sl} {bs:List Nat} {R:Value->Hp->Prop} (K:Kn g h L) (hcap:s.n<=s.c) (hs:ByteS g s bs)
  (k: ∀B h' s' bs',ByteS g s' bs'->Kn g h' ((B,rdC s' 0)::L)->R (.pointer (some ⟨B,0,none⟩)) h'):iy #[s.v] h R:=by
 apply xu
 refine uf_ ?_
 have hl:=hs.len
 refine ac (fun e=>?_) (fun e=>?_)
 ·have e':2000<s.n:=by simp at e;omega
  obtain⟨b,o,ha,hc⟩:=SlC.get hs.1 (by omega)
  refine⟨by simp,by simp,by omega, .inr ⟨b,o,ha,?_⟩⟩
  refine Kn.al K fun B h1 K1 l1 hB=>?_
  have e0:(if s.c=(Int.ofNat 0).toNat then o else o+(Int.ofNat 0).toNat*1)=o:=by split<;>simp
  rw [e0]at K1
  refine k B h1 ⟨some ⟨b,o,none⟩,2000,s.c⟩ (bs.take 2000) ?_ K1
  refine⟨⟨by simp,by simp;omega, .inr ⟨b,o,rfl,?_⟩⟩,fun x hx=>hs.2 x (List.mem_of_mem_take hx)⟩
  intro i v hv
  refine hc i v ?_
  rw [List.map_take,List.getElem?_take]at hv
  split at hv
  ·exact hv
  ·cases hv
 ·refine Kn.al K fun B h1 K1 l1 hB=>?_
  exact k B h1 s bs hs K1
theorem xK {α:Type} (a b c:α) (L:List α):(a::b::c::L).Perm (c::a::b::L):=(List.Perm.cons a (List.Perm.swap c b L)).trans (List.Perm.swap c a _)
set_option maxHeartbeats 2000000 in
theorem Iy {g h:Hp} {A:List (Nat×Blk)} {B p:Nat} {s:Sl} {bs:List Nat} {R:Value->Hp->Prop} (K:Kn g h ((B,rdC s p)::A)) (hb:ByteS g s bs) (hp:p<=10000)
  (k: ∀h' p' X' M' m',Kn g h' ((B,rdC s p')::(A++X'))->MG X' M' m'->DM m' 400->ax m'=0->0<m'.nodes.length->p'<=p+100000->R (aQ M') h'):
  kI #[.pointer (some ⟨B,0,none⟩)] h R:=by
 apply Cn
 refine uf_ ?_
 refine Kn.al K fun b3 h1 K1 l1 hb3=>?_
 clear K l1 hb3
 refine kp_ ?_
 intro x h2 K2 _ _
 refine⟨_,rfl,?_⟩
 clear K1
 refine Mh (A:=(b3, .inl ⟨dg,5,false⟩)::A) K2.sw hb (by omega) fun h3 p3 X3 M3 m3 K3 o3 d3 n3 hp3=>⟨_,_,_,_,_,rfl,?_⟩
 replace K3:Kn g h3 ((b3, .inl ⟨dg,5,false⟩)::(B,rdC s p3)::(A++X3)):=K3.sw
 clear K2
 refine Kn.al K3 fun b16 h4 K4 l4 hb16=>?_
 clear K3 l4 hb16
 refine j3 (M':=M3) K4 (by((focus ((repeat first|exact .head|apply Upd.tail);done)))) rfl fun h5 K5=>?_
 clear K4
 refine kp_ ?_
 intro n h6 K6 hn _
 refine⟨_,rfl,?_⟩
 replace hn:n<14:=by have:=hn (by omega);omega
 clear K5
 refine av n (fun i vs h'=> ∃q X' M' m',vs= [.pointer (some ⟨B,0,none⟩), .pointer (some ⟨b3,0,none⟩), .pointer (some ⟨b16,0,none⟩),I n,I i]/\MG X' M' m'/\DM m' (12+3*i)/\0<m'.nodes.length/\q<=p+100+i*20/\
  Kn g h' ((b16, .inl ⟨aw M',5,false⟩)::(b3, .inl ⟨dg,5,false⟩)::(B,rdC s q)::(A++X'))) ⟨p3+1,X3,M3,m3,rfl,o3,d3,n3,by omega,K6⟩ ?_
 clear K6 hp3 n3 d3 o3 m3 M3 X3 p3 h6 h5 h4 h3 h2 h1 h
 rintro i _ h4 nxt hi ⟨q,X',M',m',rfl,o',d',hle,hq,K4⟩ hnx
 refine⟨_,b3,0,b16,0,_,_,rfl,?_⟩
 by_cases hlt:i<n
 ·refine aM (by rw [decide_eq_true_eq];omega) ?_
  repeat' (refine kr_ ?_)
  refine Qa (A:=(b16, .inl ⟨aw M',5,false⟩)::(b3, .inl ⟨dg,5,false⟩)::A) (K4.perm (xK _ _ _ _)) hb o' d' (by omega) hle (by omega) fun h5 q5 X5 M5 m5 K5 o5 d5 n5 hq5=>⟨_,_,_,_,_,rfl,?_⟩
  replace K5:=K5.perm (xK _ _ _ _).symm
  refine j3 (M':=M5) K5 (by((focus ((repeat first|exact .head|apply Upd.tail);done)))) rfl fun h6 K6=>?_
  rw [aC (by omega)]
  exact hnx hlt _ _ ⟨q5,X5,M5,m5,rfl,o5,d5.more (by omega),n5,by omega,K6⟩
 refine aE (by rw [decide_eq_false_iff_not];omega) ?_
 clear hnx
 repeat' (refine kr_ ?_)
 refine QD (N:=51) (A:=(b16, .inl ⟨aw M',5,false⟩)::(b3, .inl ⟨dg,5,false⟩)::A) (K4.perm (xK _ _ _ _)) hb o' (d'.more (by omega)) (by omega) hle (by omega) fun h5 q5 X5 M5 m5 K5 o5 d5 n5 hq5=>⟨_,_,_,_,_,rfl,?_⟩
 replace K5:=K5.perm (xK _ _ _ _).symm
 clear K4
 refine j3 (M':=M5) K5 (by((focus ((repeat first|exact .head|apply Upd.tail);done)))) rfl fun h6 K6=>?_
 clear K5
 refine kp_ ?_
 intro x76 h7 K7 hx76 _
 refine⟨_,rfl,?_⟩
 clear K6
 refine kp_ ?_
 intro x80 h8 K8 _ _
 refine⟨_,rfl,?_⟩
 clear K7
 refine ap (fun J=> ∀c:Nat,c<=2->J (c:Int)) (fun c hc=>?_) (fun J hJ=>?_)
 rotate_left
 ·refine ac (fun _=>hJ 0 (by omega)) (fun _=>?_)
  have:=hx76 (by omega)
  rw [show (1:Int)+(x76:Nat)=((1+x76:Nat):Int) by omega,eO (by omega)]
  exact hJ _ (by omega)
 refine av c (fun i vs h'=> ∃q X' M' m',vs= [.pointer (some ⟨B,0,none⟩), .pointer (some ⟨b3,0,none⟩), .pointer (some ⟨b16,0,none⟩),I c,I i]/\MG X' M' m'/\DM m' (306+4*i)/\0<m'.nodes.length/\q<=p+51500+i*2000/\
  Kn g h' ((b16, .inl ⟨aw M',5,false⟩)::(b3, .inl ⟨dg,5,false⟩)::(B,rdC s q)::(A++X'))) ⟨_,X5,M5,m5,rfl,o5,d5,n5,by omega,K8⟩ ?_
 clear K8 hq5 n5 d5 o5 m5 M5 X5 q5 h8 h7 h6 h5 hq d' o' hle hx76 hlt hi
 clear M' m' X' q h4 nxt i
 rintro i _ h4 nxt hi ⟨q,X',M',m',rfl,o',d',hle,hq,K4⟩ hnx
 refine⟨_,b3,0,b16,0,_,_,rfl,?_⟩
 by_cases hlt:i<c
 ·refine aM (by rw [decide_eq_true_eq];omega) ?_
  repeat' (refine kr_ ?_)
  refine Lf (A:=(b16, .inl ⟨aw M',5,false⟩)::(b3, .inl ⟨dg,5,false⟩)::A) (K4.perm (xK _ _ _ _)) hb o' d' (by omega) hle (by omega) fun h5 q5 X5 M5 m5 i5 K5 o5 d5 hi5 hl5 hq5=>⟨_,_,_,_,_,_,rfl,?_⟩
  replace K5:=K5.perm (xK _ _ _ _).symm
  clear K4
  refine j3 (M':=M5) K5 (by((focus ((repeat first|exact .head|apply Upd.tail);done)))) rfl fun h6 K6=>?_
  clear K5
  have hdb:=d5.bads
  (refine kr_ ?_)
  refine Kn.al K6 fun b119 h7 K7 l7 hb7=>?_
  refine Ww (H:=_::_::_::A) (nd:=(i5:Nat)) o5 K7 (by omega) (.head _) fun s8 X8 h8 o8 KF=>?_
  have K8:=KF _ (by((focus ((repeat first|exact .head|apply Upd.tail);done))))
  simp only [List.cons_append]at K8
  rw [aC (by omega)]
  exact hnx hlt _ _ ⟨q5,X8,_,_,rfl,o8,(d5.addB _).more (by omega),by dsimp only;omega,by omega,K8⟩
 refine aE (by rw [decide_eq_false_iff_not];omega) ?_
 clear hnx
 refine kp_ ?_
 intro x132 h5 K5 _ _
 refine⟨_,rfl,?_⟩
 clear K4
 refine ap (fun J=> ∀h5 q X' M' m',MG X' M' m'->DM m' 400->0<m'.nodes.length->q<=p+60000->Kn g h5 ((b16, .inl ⟨aw M',5,false⟩)::(b3, .inl ⟨dg,5,false⟩)::(B,rdC s q)::(A++X'))->J h5)
  (fun h5 q X' M' m' o' d' hle hq K5=>?_) (fun J hJ=>?_)
 ·have hs:=o'.modelS (A:=_::_::_::A) (d'.small (by omega)) K5
  repeat' (refine kr_ ?_)
  refine aX hs (d'.small (by omega)) ⟨_,rfl,?_⟩
  refine ac (fun e=>?_) (fun e=>?_)
  ·refine tT (A:=(b3, .inl ⟨dg,5,false⟩)::(A++X')) K5.tl.sw hb (by omega) fun h6 q6 X6 M6 m6 K6 o6 d6 c6 n6 hq6=>⟨_,_,_,_,_,rfl,?_⟩
   replace K6:Kn g h6 ((b3, .inl ⟨dg,5,false⟩)::(B,rdC s q6)::((A++X')++X6)):=K6.sw
   refine Dn (M:=M6) K6 (by((focus ((repeat first|exact .head|apply Upd.tail);done)))) fun h7 K7=>?_
   refine k h7 q6 X6 M6 m6 (K7.tl.subl ?_) o6 (d6.more (by omega)) c6 n6 (by omega)
   exact List.Sublist.cons_cons _ (List.Sublist.append_right (List.sublist_append_left _ _) _)
  ·repeat' (refine kr_ ?_)
   refine Dn (M:=M') K5 (by((focus ((repeat first|exact .head|apply Upd.tail);done)))) fun h7 K7=>?_
   exact k h7 q X' M' m' K7.tl.tl o' d' (by simpa using e) hle (by omega)
 refine ac (fun e=>?_) (fun e=>hJ _ _ _ _ _ o' (d'.more (by omega)) hle (by omega) K5)
 repeat' (refine kr_ ?_)
 refine Lf (A:=(b16, .inl ⟨aw M',5,false⟩)::(b3, .inl ⟨dg,5,false⟩)::A) (K5.perm (xK _ _ _ _)) hb o' d' (by omega) hle (by omega) fun h6 q6 X6 M6 m6 i6 K6 o6 d6 hi6 hl6 hq6=>⟨_,_,_,_,_,_,rfl,?_⟩
 replace K6:=K6.perm (xK _ _ _ _).symm
 clear K5
 refine j3 (M':=M6) K6 (by((focus ((repeat first|exact .head|apply Upd.tail);done)))) rfl fun h7 K7=>?_
 clear K6
 refine kp_ ?_
 intro x155 h8 K8 _ _
 refine⟨_,rfl,?_⟩
 clear K7
 refine ap (fun J2=> ∀(y:Int) h5 q X' M' m',MG X' M' m'->DM m' 330->0<m'.nodes.length->q<=p+60000->Kn g h5 ((b16, .inl ⟨aw M',5,false⟩)::(b3, .inl ⟨dg,5,false⟩)::(B,rdC s q)::(A++X'))->J2 y h5)
  (fun y h9 q9 X9 M9 m9 o9 d9 hle9 hq9 K9=>?_) (fun J2 hJ2=>?_)
 ·have hdh:=d9.holds
  (refine kr_ ?_)
  refine Kn.al K9 fun b119 h10 K10 l10 hb10=>?_
  refine QZ (H:=_::_::_::A) (nd:=y) o9 K10 (by omega) (.head _) fun s8 X8 h8 o8 KF=>?_
  have K11:=KF _ (by((focus ((repeat first|exact .head|apply Upd.tail);done))))
  simp only [List.cons_append]at K11
  exact hJ _ _ _ _ _ o8 ((d9.addH _).more (by omega)) (by dsimp only;omega) (by omega) K11
 refine ac (fun e=>?_) (fun e=>hJ2 _ _ _ _ _ _ o6 (d6.more (by omega)) (by omega) (by omega) K8)
 have hdn:=d6.nodes
 (refine kr_ ?_)
 refine ce ⟨_,_,rfl,?_⟩
 repeat' (refine kr_ ?_)
 refine Kn.al K8 fun b163 h9 K9 l9 hb9=>?_
 (refine kr_ ?_)
 refine lE (H:=_::_::_::A) (nd:=⟨1,(i6:Nat),0,0,0,0,cF 1,⟨#[]⟩⟩) o6 K9 (by omega) (.head _) fun s10 X10 h10 o10 KF=>?_
 have K10:=KF _ (by((focus ((repeat first|exact .head|apply Upd.tail);done))))
 simp only [List.cons_append]at K10
 clear K9 K8
 repeat' (refine kr_ ?_)
 have dA:=d6.addN (n:=⟨1,(i6:Nat),0,0,0,0,cF 1,⟨#[]⟩⟩) (nP (by omega) (by omega)) (show (0:Nat)<=100 by omega)
 exact hJ2 _ _ _ _ _ _ o10 (dA.more (by omega)) (by simp) (by omega) K10
theorem fE {h:Hp} {s:Sl} {bs:List Nat} {R:Value->Hp->Prop} (hcap:s.n<=s.c) (hs:ByteS h s bs)
  (k: ∀h' M m,h.le h'->aO h' M m->bW m->ax m=0->R (aQ M) h'):dJ #[s.v] h R:=by
 apply CE
 refine uf_ ?_
 (with_reducible apply Kn.al);(exact Kn.nil h);(intro b3 h1 K1 l1 hb3)
 refine FH K1 hcap hs fun B h2 s' bs' hb K2=>⟨_,rfl,?_⟩
 clear K1
 refine kp_ ?_
 intro x h3 K3 _ _
 refine⟨_,rfl,?_⟩
 refine ac (fun e=>?_) (fun e=>?_)
 ·refine tT (A:= [(b3, .inl ⟨dg,5,false⟩)]) K3 hb (by omega) fun h6 q6 X6 M6 m6 K6 o6 d6 c6 n6 hq6=>⟨_,_,_,_,_,rfl,?_⟩
  replace K6:Kn h h6 ((b3, .inl ⟨dg,5,false⟩)::(B,rdC s' q6)::X6):=K6.sw
  refine Dn (M:=M6) K6 (by((focus ((repeat first|exact .head|apply Upd.tail);done)))) fun h7 K7=>?_
  exact k h7 M6 m6 K7.le (o6.modelS (A:= [_,_]) (d6.small (by omega)) K7) (d6.small (by omega)) c6
 ·refine Iy (A:= [(b3, .inl ⟨dg,5,false⟩)]) K3 hb (by omega) fun h6 q6 X6 M6 m6 K6 o6 d6 c6 n6 hq6=>⟨_,_,_,_,_,rfl,?_⟩
  replace K6:Kn h h6 ((b3, .inl ⟨dg,5,false⟩)::(B,rdC s' q6)::X6):=K6.sw
  refine Dn (M:=M6) K6 (by((focus ((repeat first|exact .head|apply Upd.tail);done)))) fun h7 K7=>?_
  exact k h7 M6 m6 K7.le (o6.modelS (A:= [_,_]) (d6.small (by omega)) K7) (d6.small (by omega)) c6
theorem sf {h:Hp} {s t:Sl} {ns:List Nd} {v r:Int} {R:Value->Hp->Prop} (hs:SlC h s 3 (bD ns)) (ht:SlC h t 3 (bD ns)) (k:R (.bool true) h):j7 #[.agg #[I v,s.v,I r], .agg #[I v,t.v,I r]] h R:=by
 refine ACalls.drop (LX ?_)
 refine uf_ ?_
 have K0:=Kn.nil h
 (with_reducible apply Kn.al);(assumption);(intro b8 h1 K1 l1 hb8)
 (with_reducible apply Kn.al);(assumption);(intro b10 h2 K2 l2 hb10)
 clear K1 K0
 have ls:=Mp hs
 have lt:=Mp ht
 have hb:=hs.1
 refine ap (fun J=>J false) (aE rfl ?_) (fun J hJ=>?_)
 rotate_left
 ·repeat' (refine kr_ ?_)
  refine aE (by simp) ?_
  repeat' (refine kr_ ?_)
  refine aE (by simp) ?_
  repeat' (refine kr_ ?_)
  rw [show ((s.n:Int) !=(t.n:Int))=false by rw [ls,lt];simp]
  exact hJ
 refine av ns.length (fun i vs h'=>vs= [.pointer (some ⟨b8,0,none⟩), .pointer (some ⟨b10,0,none⟩),I i]/\h2=h') ⟨rfl,rfl⟩ ?_
 rintro i _ _ next hi ⟨rfl,rfl⟩ hn
 refine⟨b8,0,b10,0,_,rfl,?_⟩
 (refine kr_ ?_)
 by_cases hlt:i<ns.length
 ·obtain⟨b,o,ha,c1,c2,c3⟩:=Q0 (hs.mono K2.le) hlt
  obtain⟨b',o',ha',d1,d2,d3⟩:=Q0 (ht.mono K2.le) hlt
  refine aM (by simp [ls,hlt]) ?_
  (refine kr_ ?_)
  refine⟨b,o,ha,by omega,by omega,_,by rw [Int.toNat_natCast];exact c1,_,by rw [Int.toNat_natCast];exact c2,_,by rw [Int.toNat_natCast];exact c3,?_⟩
  (refine kr_ ?_)
  refine⟨b',o',ha',by omega,by omega,_,by rw [Int.toNat_natCast];exact d1,_,by rw [Int.toNat_natCast];exact d2,_,by rw [Int.toNat_natCast];exact d3,?_⟩
  refine aE (by simp) ?_
  rw [aC (by omega)]
  exact hn hlt _ _ ⟨rfl,rfl⟩
 ·exact aE (by simp [ls];omega) ⟨h,K2.le,k⟩
structure DZ (m:ah) (N:Nat):Prop where
 nodes:m.nodes.length<=N
 names: ∀n∈m.nodes,n.name.size<=100
 inits:m.inits.length<=N
 nexts:m.nexts.length<=N
 bads:m.bads.length<=N
 holds:m.holds.length<=N
theorem DZ.small {m:ah} {N:Nat} (d:DZ m N) (hN:N<=100000):bW m:=
 ⟨by have:=d.nodes;omega,by have:=d.inits;omega,by have:=d.nexts;omega,by have:=d.bads;omega,by have:=d.holds;omega,fun n hn=>by have:=d.names n hn;omega⟩
theorem DZ.more {m:ah} {N N':Nat} (d:DZ m N) (h:N<=N'):DZ m N':=
 ⟨Nat.le_trans d.nodes h,d.names,Nat.le_trans d.inits h,Nat.le_trans d.nexts h,Nat.le_trans d.bads h,Nat.le_trans d.holds h⟩
theorem DZ.addN {m:ah} {N:Nat} (d:DZ m N) {n:NodeP} (h2:n.name.size<=100):DZ {m with nodes:=m.nodes++ [n]} (N+1):=
 ⟨by have:=d.nodes;simp;omega,fun x hx=>by rcases List.mem_append.1 hx with hx|hx;exact d.names x hx;rw [List.mem_singleton.1 hx];exact h2,
  Nat.le_succ_of_le d.inits,Nat.le_succ_of_le d.nexts,Nat.le_succ_of_le d.bads,Nat.le_succ_of_le d.holds⟩
theorem DZ.set {m:ah} {N i:Nat} (d:DZ m N) {n:NodeP} (h2:n.name.size<=100):DZ {m with nodes:=m.nodes.set i n} N:=
 ⟨by have:=d.nodes;simp;omega,fun x hx=>by rcases List.mem_or_eq_of_mem_set hx with hx|rfl;exact d.names x hx;exact h2,d.inits,d.nexts,d.bads,d.holds⟩
theorem DZ.addI {m:ah} {N:Nat} (d:DZ m N) (x:BindP):DZ {m with inits:=m.inits++ [x]} (N+1):=
 ⟨Nat.le_succ_of_le d.nodes,d.names,by have:=d.inits;simp;omega,Nat.le_succ_of_le d.nexts,Nat.le_succ_of_le d.bads,Nat.le_succ_of_le d.holds⟩
theorem DZ.addE {m:ah} {N:Nat} (d:DZ m N) (x:BindP):DZ {m with nexts:=m.nexts++ [x]} (N+1):=
 ⟨Nat.le_succ_of_le d.nodes,d.names,Nat.le_succ_of_le d.inits,by have:=d.nexts;simp;omega,Nat.le_succ_of_le d.bads,Nat.le_succ_of_le d.holds⟩
theorem DZ.addB {m:ah} {N:Nat} (d:DZ m N) (xs:List Int) (hx:xs.length<=N):DZ {m with bads:=m.bads++xs} (2*N):=
 ⟨by have:=d.nodes;dsimp only;omega,d.names,by have:=d.inits;dsimp only;omega,by have:=d.nexts;dsimp only;omega,by have:=d.bads;simp;omega,by have:=d.holds;dsimp only;omega⟩
theorem DZ.addH {m:ah} {N:Nat} (d:DZ m N) (x:Int):DZ {m with holds:=m.holds++ [x]} (N+1):=
 ⟨Nat.le_succ_of_le d.nodes,d.names,Nat.le_succ_of_le d.inits,Nat.le_succ_of_le d.nexts,Nat.le_succ_of_le d.bads,by have:=d.holds;simp;omega⟩
theorem jz {h:Hp} {M:MSl} {m:ah} {R:Value->Hp->Prop} (hs:aO h M m) (hm:bW m) (hc:ax m=0)
  (k:R (.tuple #[I (ak m.nodes 36),I (ak m.nodes 35)]) h):eg #[aQ M] h R:=by
 refine ACalls.drop (uR ?_)
 refine uf_ ?_
 have K0:=Kn.nil h
 (with_reducible apply Kn.al);(assumption);(intro b7 h1 K1 l1 hb7)
 clear K0
 have hs1:=hs.mono K1.le
 repeat' (refine kr_ ?_)
 refine aX hs1 hm ⟨_,rfl,?_⟩
 refine aE (by rw [hc];rfl) ?_
 repeat' (refine kr_ ?_)
 refine gC hs1 hm ⟨_,rfl,?_⟩
 repeat' (refine kr_ ?_)
 refine gC hs1 hm ⟨_,rfl,?_⟩
 exact⟨h,K1.le,k⟩
theorem oE {h:Hp} {M:MSl} {m:ah} {x:Int} {R:Value->Hp->Prop} (hs:aO h M m) (hm:bW m) (hc:ax m=0)
  (kf: ∀h',¬(0<=x/\x<(2^ak m.nodes 36:Nat))->h.le h'->R (.tuple #[.slice none 0 0, .bool false]) h')
  (kt: ∀(c:Nat) out h',x=c->c<2^ak m.nodes 36->h.le h'->IntSS h' out ((fq m.nodes (stP m) c).map VL)->R (.tuple #[Sl.v out, .bool true]) h'):eE #[aQ M,I x] h R:=by
 apply xO
 refine uf_ ?_
 have g:=cr hc
 have n8:=g.n8
 have hp2:2^ak m.nodes 36<=2^8:=Nat.pow_le_pow_right (by omega) n8
 have hp0:0<2^ak m.nodes 36:=Nat.two_pow_pos _
 have K0:=Kn.nil h
 (with_reducible apply Kn.al);(assumption);(intro b8 h1 K1 l1 hb8)
 clear K0
 have hs1:=hs.mono K1.le
 refine ap (fun J=>J (!decide (0<=x/\x<=((2^ak m.nodes 36:Nat):Int)-1)) h1) ?_ (fun J hJ=>?_)
 rotate_left
 ·repeat' (refine kr_ ?_)
  refine aX hs1 hm ⟨_,rfl,?_⟩
  refine aE (by rw [hc];rfl) ?_
  repeat' (refine kr_ ?_)
  refine gC hs1 hm ⟨_,rfl,?_⟩
  rw [cu (by omega),if_neg (by omega),bJ (by omega),bU (by omega) (by omega)]
  exact dH ⟨_,rfl,hJ⟩
 refine ac (fun e=>kf h1 (fun q=>by
  have e':decide (0<=x/\x<=((2^ak m.nodes 36:Nat):Int)-1)=false:=by rw [Bool.not_eq_true']at e;exact e
  have:=of_decide_eq_false e'
  omega) K1.le) (fun e=>?_)
 have hx:0<=x/\x<(2^ak m.nodes 36:Nat):=by
  have:decide (0<=x/\x<=((2^ak m.nodes 36:Nat):Int)-1)=true:=by simpa using e
  have:=of_decide_eq_true this
  omega
 clear e kf
 obtain⟨c,rfl⟩: ∃c:Nat,x=c:=⟨x.toNat,by omega⟩
 repeat' (refine kr_ ?_)
 refine cU hs1 hm fun t h2 l2 it=>⟨_,rfl,?_⟩
 have K2:=K1.mono l2
 (refine kr_ ?_)
 refine gi (hs1.mono l2) hm g.ok it (fun p hp=>k7 hp) (jc g 36) (by omega) (by rw [fo g];omega) fun out h3 l3 io=>⟨_,rfl,?_⟩
 exact kt c out h3 rfl (by omega) (Hp.le_trans K2.le l3) io
theorem vK {h:Hp} {M:MSl} {m:ah} {x:Int} {R:Value->Hp->Prop} (hs:aO h M m) (hm:bW m) (hc:ax m=0)
  (kf: ∀h',¬(0<=x/\x<(2^ak m.nodes 35:Nat))->h.le h'->R (.tuple #[.slice none 0 0, .bool false]) h')
  (kt: ∀(c:Nat) out h',x=c->c<2^ak m.nodes 35->h.le h'->IntSS h' out ((fq m.nodes (inP m) c).map VL)->R (.tuple #[Sl.v out, .bool true]) h'):iv #[aQ M,I x] h R:=by
 apply Gf
 refine uf_ ?_
 have g:=cr hc
 have n8:=g.k5
 have hp2:2^ak m.nodes 35<=2^5:=Nat.pow_le_pow_right (by omega) n8
 have hp0:0<2^ak m.nodes 35:=Nat.two_pow_pos _
 have K0:=Kn.nil h
 (with_reducible apply Kn.al);(assumption);(intro b8 h1 K1 l1 hb8)
 clear K0
 have hs1:=hs.mono K1.le
 refine ap (fun J=>J (!decide (0<=x/\x<=((2^ak m.nodes 35:Nat):Int)-1)) h1) ?_ (fun J hJ=>?_)
 rotate_left
 ·repeat' (refine kr_ ?_)
  refine aX hs1 hm ⟨_,rfl,?_⟩
  refine aE (by rw [hc];rfl) ?_
  repeat' (refine kr_ ?_)
  refine gC hs1 hm ⟨_,rfl,?_⟩
  rw [cu (by omega),if_neg (by omega),bJ (by omega),bU (by omega) (by omega)]
  exact dH ⟨_,rfl,hJ⟩
 refine ac (fun e=>kf h1 (fun q=>by
  have e':decide (0<=x/\x<=((2^ak m.nodes 35:Nat):Int)-1)=false:=by rw [Bool.not_eq_true']at e;exact e
  have:=of_decide_eq_false e'
  omega) K1.le) (fun e=>?_)
 have hx:0<=x/\x<(2^ak m.nodes 35:Nat):=by
  have:decide (0<=x/\x<=((2^ak m.nodes 35:Nat):Int)-1)=true:=by simpa using e
  have:=of_decide_eq_true this
  omega
 clear e kf
 obtain⟨c,rfl⟩: ∃c:Nat,x=c:=⟨x.toNat,by omega⟩
 repeat' (refine kr_ ?_)
 refine cU hs1 hm fun t h2 l2 it=>⟨_,rfl,?_⟩
 have K2:=K1.mono l2
 (refine kr_ ?_)
 refine gi (hs1.mono l2) hm g.ok it (fun p hp=>k7 hp) (jc g 35) (by omega) (by rw [Cy g];omega) fun out h3 l3 io=>⟨_,rfl,?_⟩
 exact kt c out h3 rfl (by omega) (Hp.le_trans K2.le l3) io
theorem ma {h:Hp} {M:MSl} {m:ah} {t:Sl} {vs:List (List Nat)} {R:Value->Hp->Prop} (hs:aO h M m) (hm:bW m) (hc:ax m=0)
  (hv:IntSS h t (vs.map VL)) (hf:j8 m.nodes (inP m) vs) (k:R (.bool true) h):jC #[aQ M,t.v] h R:=by
 refine ACalls.drop (De ?_)
 refine uf_ ?_
 have g:=cr hc
 refine aj fun b8 h1 hb8 l1 f8=>?_
 repeat' (refine ku_ ?_)
 refine aX (hs.up (by((focus ((repeat (first|exact Hp.le_refl _|assumption|(refine Hp.le_trans ?_ (by assumption))));done))))) hm ⟨_,rfl,aM (by rw [hc];rfl) ?_⟩
 repeat' (refine ku_ ?_)
 refine cU (hs.up (by((focus ((repeat (first|exact Hp.le_refl _|assumption|(refine Hp.le_trans ?_ (by assumption))));done))))) hm fun p h2 l2 i2=>⟨p,rfl,?_⟩
 repeat' (refine ku_ ?_)
 exact EC (hs.up (by((focus ((repeat (first|exact Hp.le_refl _|assumption|(refine Hp.le_trans ?_ (by assumption))));done))))) hm g.ok i2 (cO g 35) (jc g 35) (hv.up (by((focus ((repeat (first|exact Hp.le_refl _|assumption|(refine Hp.le_trans ?_ (by assumption))));done))))) hf ⟨_,rfl,h,by((focus ((repeat (first|exact Hp.le_refl _|assumption|(refine Hp.le_trans ?_ (by assumption))));done))),k⟩
theorem jd (m:ah) (ps:List Nat) (c:Nat):j8 m.nodes ps (fq m.nodes ps c):=by rw [qm];exact NJ _ _ _
theorem sy {h:Hp} {M:MSl} {m:ah} {sS sI:Sl} {c d:Nat} {R:Value->Hp->Prop} (hs:aO h M m) (hm:bW m) (hc:ax m=0)
  (h1:IntSS h sS ((fq m.nodes (stP m) c).map VL)) (h2:IntSS h sI ((fq m.nodes (inP m) d).map VL)) (k:R (.bool (gY m (cl m c d))) h):jO #[aQ M,sS.v,sI.v] h R:=by
 refine ACalls.drop (CT ?_)
 refine uf_ ?_
 have g:=cr hc
 refine aj fun b9 g1 hb9 l1 f9=>?_
 repeat' (refine ku_ ?_)
 refine gP (hs.up (by((focus ((repeat (first|exact Hp.le_refl _|assumption|(refine Hp.le_trans ?_ (by assumption))));done))))) hm hc (h1.up (by((focus ((repeat (first|exact Hp.le_refl _|assumption|(refine Hp.le_trans ?_ (by assumption))));done))))) (jd ..) ⟨_,rfl,aM rfl ?_⟩
 repeat' (refine ku_ ?_)
 refine ma (hs.up (by((focus ((repeat (first|exact Hp.le_refl _|assumption|(refine Hp.le_trans ?_ (by assumption))));done))))) hm hc (h2.up (by((focus ((repeat (first|exact Hp.le_refl _|assumption|(refine Hp.le_trans ?_ (by assumption))));done))))) (jd ..) ⟨_,rfl,aM rfl ?_⟩
 repeat' (refine ku_ ?_)
 refine pF (hs.up (by((focus ((repeat (first|exact Hp.le_refl _|assumption|(refine Hp.le_trans ?_ (by assumption))));done))))) hm g.ok g.nl (h1.up (by((focus ((repeat (first|exact Hp.le_refl _|assumption|(refine Hp.le_trans ?_ (by assumption))));done))))) (mb 36 c g) (h2.up (by((focus ((repeat (first|exact Hp.le_refl _|assumption|(refine Hp.le_trans ?_ (by assumption))));done))))) (mb 35 d g) fun t g2 l2 hn hpv _=>⟨t,rfl,?_⟩
 repeat' (refine ku_ ?_)
 exact vB (hs.up (by((focus ((repeat (first|exact Hp.le_refl _|assumption|(refine Hp.le_trans ?_ (by assumption))));done))))) g hpv (eD g c d) ⟨_,rfl,h,by((focus ((repeat (first|exact Hp.le_refl _|assumption|(refine Hp.le_trans ?_ (by assumption))));done))),k⟩
theorem Pa {m:ah} (g:dj m) {p k:Nat} (h:cf m.nexts p=some k):k<m.nodes.length:=by
 obtain⟨b,hb,hs,rfl⟩:=fS h
 obtain⟨h1,h2,h3,h4⟩:=gz (g.nex b hb)
 have h2':=fD.1 h2
 omega
set_option maxHeartbeats 1000000 in
theorem z9 {h:Hp} {M:MSl} {m:ah} {sS sI sT:Sl} {c d:Nat} {vs:List (List Nat)} {R:Value->Hp->Prop} (hs:aO h M m) (hm:bW m) (hc:ax m=0)
  (h1:IntSS h sS ((fq m.nodes (stP m) c).map VL)) (h2:IntSS h sI ((fq m.nodes (inP m) d).map VL)) (hv:IntSS h sT (vs.map VL)) (hf:j8 m.nodes (stP m) vs)
  (k:R (.bool (gt (stP m) (gH m (cl m c d)) vs (stP m).length)) h):mT #[aQ M,sS.v,sI.v,sT.v] h R:=by
 refine ACalls.drop (Fb ?_)
 refine uf_ ?_
 have g:=cr hc
 have hil:=g.xl
 have hnl:=g.nl
 have hp36:(stP m).length<=m.nodes.length:=fy m.nodes 36
 have htn:=hv.len
 rw [List.length_map]at htn
 have hvl:=nV hf
 have hbn: ∀b∈m.nexts,0<=b.node:=fun b hb=>by
  have h2':=fD.1 (gz (g.nex b hb)).2.1
  omega
 refine aj fun b8 g1 hb8 l1 f8=>?_
 refine ap (fun J=>J false g1) (aE rfl ?_) (fun J hJ=>?_)
 rotate_left
 ·repeat' (refine ku_ ?_)
  refine gP (hs.up (by((focus ((repeat (first|exact Hp.le_refl _|assumption|(refine Hp.le_trans ?_ (by assumption))));done))))) hm hc (h1.up (by((focus ((repeat (first|exact Hp.le_refl _|assumption|(refine Hp.le_trans ?_ (by assumption))));done))))) (jd ..) ⟨_,rfl,aE rfl ?_⟩
  repeat' (refine ku_ ?_)
  refine ma (hs.up (by((focus ((repeat (first|exact Hp.le_refl _|assumption|(refine Hp.le_trans ?_ (by assumption))));done))))) hm hc (h2.up (by((focus ((repeat (first|exact Hp.le_refl _|assumption|(refine Hp.le_trans ?_ (by assumption))));done))))) (jd ..) ⟨_,rfl,aE rfl ?_⟩
  repeat' (refine ku_ ?_)
  exact gP (hs.up (by((focus ((repeat (first|exact Hp.le_refl _|assumption|(refine Hp.le_trans ?_ (by assumption))));done))))) hm hc (hv.up (by((focus ((repeat (first|exact Hp.le_refl _|assumption|(refine Hp.le_trans ?_ (by assumption))));done))))) hf ⟨_,rfl,hJ⟩
 repeat' (refine ku_ ?_)
 refine pF (hs.up (by((focus ((repeat (first|exact Hp.le_refl _|assumption|(refine Hp.le_trans ?_ (by assumption))));done))))) hm g.ok g.nl (h1.up (by((focus ((repeat (first|exact Hp.le_refl _|assumption|(refine Hp.le_trans ?_ (by assumption))));done))))) (mb 36 c g) (h2.up (by((focus ((repeat (first|exact Hp.le_refl _|assumption|(refine Hp.le_trans ?_ (by assumption))));done))))) (mb 35 d g) fun vt g2 l2 hvn hpv _=>⟨vt,rfl,?_⟩
 repeat' (refine ku_ ?_)
 refine cU (hs.up (by((focus ((repeat (first|exact Hp.le_refl _|assumption|(refine Hp.le_trans ?_ (by assumption))));done))))) hm fun pt g3 l3 ip=>⟨pt,rfl,?_⟩
 have hpn:pt.n=(stP m).length:=by have:=ip.len;rw [aY]at this;exact this
 have f83:=l3 _ _ (l2 _ _ f8)
 have l03:=Hp.le_trans l1 (Hp.le_trans l2 l3)
 have aV:=eD g c d
 replace hpv:gE g3 vt (cl m c d):=gE.mono l3 hpv
 generalize cl m c d=v at*
 clear l2 l3 l1 hb8 f8 g2
 refine av (stP m).length (fun i ws h'=>g3.le h'/\ws= [sT.v, .pointer (some ⟨b8,0,none⟩),vt.v,pt.v,I i]/\gt (stP m) (gH m v) vs i=true) ⟨Hp.le_refl _,rfl,rfl⟩ ?_
 rintro i _ h4 next hi ⟨l4,rfl,hg⟩ hnx
 have l04:=Hp.le_trans l03 l4
 refine⟨sT,_,_,vt,pt,_,rfl,?_⟩
 by_cases hlt:i<(stP m).length
 rotate_left
 ·have hie:i=(stP m).length:=by omega
  subst hie
  refine aE (by simp;omega) ⟨_,l04,dt hg.symm k⟩
 refine aM (by simp;omega) ?_
 obtain⟨p,hpi⟩: ∃p,(stP m)[i]?=some p:=⟨_,List.getElem?_eq_getElem hlt⟩
 have hsucc:=DW (f:=gH m v) (vs:=vs) hpi
 rw [hg,Bool.true_and]at hsucc
 obtain⟨b,o,ha,hcc⟩:=(ip.mono l4).get (gU hpi)
 refine⟨b,o,ha,by omega,by omega,?_⟩
 (refine ku_ ?_)
 refine⟨_,hcc,?_⟩
 refine oP (hs.mono l04).nexts (by omega) hbn ⟨_,rfl,?_⟩
 refine ap (fun J=> ∀h',h4.le h'->J (!gt (stP m) (gH m v) vs (i+1)) h') ?_ (fun J hJ=>?_)
 ·intro h' l'
  refine ac (fun e=>⟨_,Hp.le_trans l04 l',dt ?_ k⟩) (fun e=>?_)
  ·symm;exact JX (i:=i+1) (by omega) (by simpa using e)
  ·rw [aC (by omega)]
   exact hnx hlt _ _ ⟨Hp.le_trans l4 l',rfl,by simpa using e⟩
 cases hbo:cf m.nexts p with
 |none=>
  rw [show ii m.nexts p= -1 from by unfold ii;rw [hbo]]
  refine aE (by simp) ?_
  have hn:gH m v p=none:=by unfold gH;rw [hbo];rfl
  rw [hn]at hsucc
  have:=hJ h4 (Hp.le_refl _)
  rw [hsucc]at this;exact this
 |some q=>
  rw [show ii m.nexts p=(q:Int)from by unfold ii;rw [hbo]]
  refine aM (by simp) ?_
  have hq:=Pa g hbo
  have hsm:gH m v p=some (v.getD q []):=by unfold gH;rw [hbo];rfl
  have hfit:=u6 g aV.fit hsm
  have hcl:=dq m.nodes p
  have hgv:=mh hf hpi
  rw [hsm]at hsucc
  obtain⟨bt,ot,c1,hta,htc,hcv⟩:=(hv.mono l04).getV (i:=i) (by omega)
  obtain⟨bv,ov,u,hua,hun,huc,huv⟩:=(hpv.mono l4).at (p:=(q:Int)) (by omega) (by rw [aV.len];omega)
  have hcn:=hcv.len
  rw [aY]at hcn
  refine⟨bt,ot,hta,by omega,by omega,bv,ov,hua,by omega,hun,c1,htc,u,huc,?_⟩
  rw [Int.toNat_natCast]at huv
  refine xR hcv huv (by rw [aY];omega) (by rw [aY,aY,hgv.1,hfit.1];exact Nat.le_refl _) ⟨_,rfl,?_⟩
  have:=hJ h4 (Hp.le_refl _)
  simp only at hsucc
  rw [hsucc]at this
  have e2:decide (VL (vs.getD i [])=VL (v.getD q []))=decide (vs.getD i []=v.getD q []):=by
   rw [Bool.eq_iff_iff,decide_eq_true_eq,decide_eq_true_eq,Ii]
  rw [e2];exact this
theorem zk {m:ah} {s x:Nat} (hs:s<2^ak m.nodes 36):(aG m).hold ((aG m).at_ s x)=gY m (cl m s x)/\(aG m).bad ((aG m).at_ s x)=(qD m (cl m s x)).isSome:=by
 have h1:(x*2^ak m.nodes 36+s)%2^ak m.nodes 36=s:=by rw [Nat.mul_add_mod_self_right,Nat.mod_eq_of_lt hs]
 have h2:(x*2^ak m.nodes 36+s)/2^ak m.nodes 36=x:=by
  rw [Nat.mul_comm,Nat.mul_add_div (Nat.two_pow_pos _),Nat.div_eq_of_lt hs,Nat.add_zero]
 constructor
 ·show gY m (cl m ((x*2^ak m.nodes 36+s)%2^ak m.nodes 36) ((x*2^ak m.nodes 36+s)/2^ak m.nodes 36))=_
  rw [h1,h2]
 ·show (qD m (cl m ((x*2^ak m.nodes 36+s)%2^ak m.nodes 36) ((x*2^ak m.nodes 36+s)/2^ak m.nodes 36))).isSome=_
  rw [h1,h2]
theorem HJ {l:List Nat} {i:Nat} {x:Nat} (h:l[i]?=some x):(VL l)[i]?=some (x:Int):=by unfold VL;rw [List.getElem?_map,h];rfl
theorem gE.out {h:Hp} {t:Sl} {vs:List (List Nat)} {X:List (Nat×Blk)} {s:Sl} {ts:List Sl} (e:gE h t vs) (he: ∀p,p<vs.length->0<(vs.getD p []).length) (o:cx X s 1 (ts.map Sl.v)) (m: ∀e∈X,h e.1=some e.2)
  (hts: ∀(j:Nat) (u:Sl),ts[j]?=some u-> ∃ws,(0<vs.length->0<ws.length)/\gE h u ws):gE (h.wo (X.map Prod.fst)) t vs:=by
 rcases o.2.2 with ⟨rfl,_,_⟩|⟨b,_,rfl⟩
 ·exact e.mono fun c x hc=>by simp [Hp.wo,hc]
 have hb:=m _ (.head _)
 have kp: ∀c,c≠b->(h.wo [b]) c=h c:=fun c hc=>by simp [Hp.wo,hc]
 refine⟨e.1,e.2.1,fun p hp=>?_⟩
 obtain⟨b',o',t',h1,h2,h3⟩:=e.2.2 p hp
 refine⟨b',o',t',h1,?_,h3.keepN hb (uJ ts) kp⟩
 have hne:b'≠b:=by
  rintro rfl
  rw [aq hb,List.getElem?_map,Option.map_eq_some_iff]at h2
  obtain⟨u,hu,hv⟩:=h2
  obtain⟨ws,hw,hpw⟩:=hts _ u hu
  obtain rfl:u=t':=by
   obtain⟨a1,a2,a3⟩:=u
   obtain⟨c1,c2,c3⟩:=t'
   cases hv;rfl
  obtain⟨b2,o2,u2,g1,g2,_⟩:=hpw.2.2 0 (hw (by omega))
  obtain⟨b3,o3,g3,g4,_⟩:=IntS.elt h3 (i:=0) (he p hp)
  rw [g1]at g3
  cases g3
  rw [g2]at g4
  cases g4
 unfold Hp.cell at h2⊢
 rw [show (Hp.wo h (List.map Prod.fst [(b,(Sum.inl ⟨ts.map Sl.v,s.c*1,false⟩:Blk))])) b'=h b' from kp b' hne]
 exact h2
theorem Kn.ints {g h:Hp} {L:List (Nat×Blk)} {s:Sl} {b z:Nat} {ro:Bool} {xs:List Int} (K:Kn g h L) (m:(b, .inl ⟨xs.map I,z,ro⟩)∈L) (ha:s.a=some ⟨b,0,none⟩) (hn:xs.length=s.n) (hl:s.n<=1000000):IntS h s xs:=
 ⟨by omega,by rw [List.length_map,Nat.mul_one];exact hn, .inr ⟨b,0,ha,ay (K.at m)⟩⟩
theorem Kn.cut {g h:Hp} {A L:List (Nat×Blk)} (K:Kn g h (A++L)): ∃g0,Kn g g0 A/\Kn g0 h L:=by
 have nd:=K.nd
 rw [List.map_append,List.nodup_append]at nd
 have KL:Kn g h L:=K.sub (fun e he=>List.mem_append_right _ he) nd.2.1
 refine⟨h.wo (L.map Prod.fst),⟨KL.leBase,fun e he=>?_,fun e he=>K.new e (List.mem_append_left _ he),nd.1⟩,KL.base⟩
 rw [sk fun hm=>nd.2.2 e.1 (List.mem_map.2 ⟨e,he,rfl⟩) e.1 hm rfl]
 exact K.mem e (List.mem_append_left _ he)
theorem yy {a:Nat} (h:a<=8):2^a<=256/\0<2^a:=⟨Nat.pow_le_pow_right (by omega) h,Nat.two_pow_pos _⟩
def vC (a:Nat):List Nat:=(List.range a).map (· +2)
theorem GF {x a:Nat}:x∈vC a↔2<=x/\x<a+2:=by
 unfold vC
 rw [List.mem_map]
 constructor
 ·rintro ⟨y,hy,rfl⟩
  have:=List.mem_range.1 hy
  omega
 ·exact fun h=>⟨x-2,List.mem_range.2 (by omega),by omega⟩
theorem yC (a:Nat):(vC a).length=a:=by unfold vC;rw [List.length_map,List.length_range]
theorem Sf (a:Nat):vC (a+1)=vC a++ [a+2]:=by unfold vC;rw [List.range_succ,List.map_append];rfl
theorem N5 {a b:Nat} (h:vC a=vC b):a=b:=by have:=congrArg List.length h;rwa [yC,yC]at this
inductive Ord (ns:List Nd):Nat->List Nat->List Nat->Prop
 |leaf {r:Nat} {d:List Nat}:r<2->Ord ns r d d
 |seen {r:Nat} {d:List Nat}:2<=r->r∈d->Ord ns r d d
 |node {r:Nat} {d d1 d2:List Nat} {nd:Nd}:2<=r->r∉d->ns[r-2]?=some nd->Ord ns nd.lo d d1->Ord ns nd.hi d1 d2->Ord ns r d (d2++ [r])
theorem Ord.stay {ns:List Nd} {r a:Nat} {o:List Nat} (h:Ord ns r (vC a) o) (hr:r<a+2):o=vC a:=by
 generalize hd:vC a=d at h
 cases h with
 |leaf=>rfl
 |seen=>rfl
 |node h2 hn=>
  subst hd
  exact absurd (GF.2 ⟨h2,hr⟩) hn
def GL (N:Nat) (ns:List Nd) (r:Nat):Nat:=if r<2 then N else match ns[r-2]? with|some nd=>nd.v|none=>0
def Wd (N:Nat) (ns:List Nd):Prop:= ∀(i:Nat) (nd:Nd),ns[i]?=some nd->nd.v<N/\nd.lo≠nd.hi/\nd.lo<i+2/\nd.hi<i+2/\nd.v<GL N ns nd.lo/\nd.v<GL N ns nd.hi/\ ∀j,j<i->ns[j]?≠some nd
theorem Yg {ns ns2:List Nd} (p:ns<+:ns2) {i:Nat} {nd:Nd} (h:ns[i]?=some nd):ns2[i]?=some nd:=by
 obtain⟨r,rfl⟩:=p
 rw [List.getElem?_append_left (List.getElem?_eq_some_iff.1 h).1];exact h
theorem Nj {ns ns2:List Nd} (p:ns<+:ns2) {i:Nat} (hi:i<ns.length):ns2[i]?=ns[i]?:=by
 obtain⟨r,rfl⟩:=p
 rw [List.getElem?_append_left hi]
theorem xV {N:Nat} {ns ns2:List Nd} (p:ns<+:ns2) {r:Nat} (hr:r<ns.length+2):GL N ns2 r=GL N ns r:=by
 unfold GL
 split
 ·rfl
 ·rw [Nj p (by omega)]
theorem Uz {ns:List Nd} {n:Nd} {i:Nat} (h:ns.idxOf? n=some i):ns[i]?=some n:=by
 simp only [List.idxOf?]at h
 obtain⟨hi,he,_⟩:=List.findIdx?_eq_some_iff_getElem.1 h
 rw [List.getElem?_eq_getElem hi]
 simp only [beq_iff_eq]at he
 rw [he]
theorem Vz {ns:List Nd} {n:Nd} (h:ns.idxOf? n=none) (j:Nat):ns[j]?≠some n:=by
 intro e
 simp only [List.idxOf?,List.findIdx?_eq_none_iff]at h
 have:=h n (List.mem_of_getElem? e)
 simp at this
theorem aaJ (N:Nat): ∀(n:Nat) (f:Nat->Bool) (low:Nat) (ns:List Nd),low+n=N->Wd N ns->
  Wd N (mkD n f low ns).2/\(mkD n f low ns).1<(mkD n f low ns).2.length+2/\low<=GL N (mkD n f low ns).2 (mkD n f low ns).1/\
  (∀(i:Nat) (nd:Nd),ns.length<=i->(mkD n f low ns).2[i]?=some nd->low<=nd.v)/\ ∀ns2,(mkD n f low ns).2<+:ns2->Ord ns2 (mkD n f low ns).1 (vC ns.length) (vC (mkD n f low ns).2.length):=by
 intro n
 induction n with
 |zero=>
  intro f low ns hN hW
  have h2:(mkD 0 f low ns).1<2:=by simp only [mkD];split<;>omega
  refine⟨hW,by omega,?_,fun i nd hi h=>?_,fun ns2 _=> .leaf h2⟩
  ·unfold GL;rw [if_pos h2];omega
  ·have h:ns[i]?=some nd:=h
   rw [List.getElem?_eq_none hi]at h;cases h
 |succ n ih=>
  intro f low ns hN hW
  obtain⟨a1,a2,a3,a4,a5⟩:=ih (fun i=>f (2*i)) (low+1) ns (by omega) hW
  have p1:=yY n (fun i=>f (2*i)) (low+1) ns
  simp only [mkD]
  generalize mkD n (fun i=>f (2*i)) (low+1) ns=r1 at*
  obtain⟨b1,b2,b3,b4,b5⟩:=ih (fun i=>f (2*i+1)) (low+1) r1.2 (by omega) a1
  have p2:=yY n (fun i=>f (2*i+1)) (low+1) r1.2
  generalize mkD n (fun i=>f (2*i+1)) (low+1) r1.2=r2 at*
  have l1:=p1.length_le
  have l2:=p2.length_le
  have hnew: ∀(i:Nat) (nd:Nd),ns.length<=i->r2.2[i]?=some nd->low+1<=nd.v:=fun i nd hi h=>by
   rcases Nat.lt_or_ge i r1.2.length with h1|h1
   ·exact a4 i nd hi (by rw [<-Nj p2 h1];exact h)
   ·exact b4 i nd h1 h
  split
  ·rename_i e
   refine⟨b1,b2,by omega,fun i nd hi h=>by have:=hnew i nd hi h;omega,fun ns2 p=>?_⟩
   have s1:=a5 ns2 (p2.trans p)
   have s2:=b5 ns2 p
   rw [<-e]at s2⊢
   have:=s2.stay (by omega)
   rw [this];exact s1
  ·rename_i e
   unfold je
   cases hx:r2.2.idxOf? ⟨low,r1.1,r2.1⟩with
   |some i=>
    have hi:=Uz hx
    have hil:=(List.getElem?_eq_some_iff.1 hi).1
    refine⟨b1,by dsimp only;omega,?_,fun i nd hi h=>by have:=hnew i nd hi h;omega,fun ns2 p=>?_⟩
    ·unfold GL
     dsimp only
     rw [if_neg (by omega),Nat.add_sub_cancel,hi];exact Nat.le_refl _
    ·dsimp only at p⊢
     have hlt:i<ns.length:=by
      rcases Nat.lt_or_ge i ns.length with h|h
      ·exact h
      ·have:=hnew i _ h hi
       dsimp only at this;omega
     obtain⟨_,_,w3,w4,_⟩:=b1 i _ hi
     dsimp only at w3 w4
     have s1:=N5 ((a5 ns2 (p2.trans p)).stay (by omega))
     have s2:=N5 ((b5 ns2 p).stay (by omega))
     rw [show r2.2.length=ns.length by omega]
     exact .seen (by omega) (GF.2 ⟨by omega,by omega⟩)
   |none=>
    have hno:=Vz hx
    have pp:r2.2<+:r2.2++ [⟨low,r1.1,r2.1⟩]:=List.prefix_append _ _
    refine⟨fun i nd h=>?_,by simp,?_,fun i nd hi h=>?_,fun ns2 p=>?_⟩
    ·dsimp only at h⊢
     rcases Nat.lt_or_ge i r2.2.length with h1|h1
     ·rw [List.getElem?_append_left h1]at h
      obtain⟨w1,w2,w3,w4,w5,w6,w7⟩:=b1 i nd h
      refine⟨w1,w2,w3,w4,by rw [xV pp (by omega)];exact w5,by rw [xV pp (by omega)];exact w6,fun j hj=>?_⟩
      rw [List.getElem?_append_left (by omega)];exact w7 j hj
     ·have hl:=(List.getElem?_eq_some_iff.1 h).1
      rw [List.length_append,List.length_singleton]at hl
      obtain rfl:i=r2.2.length:=by omega
      rw [List.getElem?_append_right (Nat.le_refl _),Nat.sub_self]at h
      simp at h;subst h
      dsimp only
      refine⟨by omega,e,by omega,by omega,?_,?_,fun j hj=>?_⟩
      ·rw [xV pp (by omega),xV p2 a2];omega
      ·rw [xV pp b2];omega
      ·rw [List.getElem?_append_left hj];exact hno j
    ·unfold GL
     dsimp only
     rw [if_neg (by omega),Nat.add_sub_cancel,List.getElem?_append_right (Nat.le_refl _),Nat.sub_self]
     exact Nat.le_refl _
    ·dsimp only at h
     rcases Nat.lt_or_ge i r2.2.length with h1|h1
     ·rw [List.getElem?_append_left h1]at h
      have:=hnew i nd hi h;omega
     ·have hl:=(List.getElem?_eq_some_iff.1 h).1
      rw [List.length_append,List.length_singleton]at hl
      obtain rfl:i=r2.2.length:=by omega
      rw [List.getElem?_append_right (Nat.le_refl _),Nat.sub_self]at h
      simp at h;subst h
      exact Nat.le_refl _
    ·dsimp only at p⊢
     have p':=pp.trans p
     rw [List.length_append,List.length_singleton,Sf]
     refine .node (nd:=⟨low,r1.1,r2.1⟩) (by omega) (fun h=>by have:=GF.1 h;omega) ?_ (a5 ns2 (p2.trans p')) (b5 ns2 p')
     rw [Nat.add_sub_cancel]
     refine Yg p ?_
     rw [List.getElem?_append_right (Nat.le_refl _),Nat.sub_self];rfl
theorem Us {n:Nat} {f:Nat->Bool} {r:Nat×List Nd} (h:pu n f=some r):Wd n r.2/\r.2.length<=600/\r.1<r.2.length+2/\Ord r.2 r.1 [] (vC r.2.length)/\ ∀c,c<2^n->Ev r.2 r.1 c (f c):=by
 unfold pu at h
 split at h
 ·cases h
 ·rename_i hl
  obtain rfl:=Option.some.inj h
  obtain⟨w1,w2,_,_,w5⟩:=aaJ n n f 0 [] (by omega) (fun i nd h=>by simp at h)
  refine⟨w1,by omega,w2,w5 _ (List.prefix_refl _),fun c hc=>?_⟩
  have:=Pw n f 0 [] c
  rwa [Nat.pow_zero,Nat.div_one,Nat.mod_eq_of_lt hc]at this
theorem Kn.weak {g g0 h:Hp} {L:List (Nat×Blk)} (K:Kn g0 h L) (l:g.le g0):Kn g h L:=⟨Hp.le_trans l K.le,K.mem,fun e he=>aF l (K.new e he),K.nd⟩
theorem zd {h:Hp} {s:Sl} {ns:List Nd} (e:SlC h s 3 (bD ns)) {i:Nat} {nd:Nd} (hn:ns[i]?=some nd): ∃b o,s.a=some (Addr.mk b o none)/\(0:Int)<=(i:Nat)/\((i:Nat):Int)<(s.n:Int)/\
  Hp.cell h b (o+Int.toNat ((i:Nat):Int)*3)=some (I nd.v)/\Hp.cell h b ((o+Int.toNat ((i:Nat):Int)*3)+1)=some (I nd.lo)/\Hp.cell h b ((o+Int.toNat ((i:Nat):Int)*3)+2)=some (I nd.hi):=by
 have hi:=get_lt hn
 obtain⟨b,o,ha,c0,c1,c2⟩:=Q0 e hi
 have hl:=Mp e
 rw [List.getElem?_eq_getElem hi]at hn
 rw [Option.some.inj hn]at c0 c1 c2
 rw [Int.toNat_natCast]
 exact⟨b,o,ha,by omega,by omega,c0,c1,c2⟩
theorem Wz {r:Nat} (h:2<=r) (h2:r<=1000000):W ((r:Int)-2)=((r-2:Nat):Int):=by rw [bU (by omega) (by omega)];omega
structure Bq (N:Nat) (ns:List Nd) (r:Nat) (f:Nat->Bool):Prop where
 wd:Wd N ns
 len:ns.length<=600
 root:r<ns.length+2
 ord:Ord ns r [] (vC ns.length)
 ev: ∀c,c<2^N->Ev ns r c (f c)
 vars:N<=13
theorem BG {h:Hp} {N r:Nat} {x:Int} {s:Sl} {ns:List Nd} {R:Value->Hp->Prop} (hs:SlC h s 3 (bD ns)) (hl:ns.length<=600) (hr:r<ns.length+2)
  (k:R (I (GL N ns r)) h):ou #[.agg #[I N,s.v,I x],I r] h R:=by
 refine ACalls.drop (Ho ?_)
 refine uf_ ?_
 (with_reducible apply Kn.al);(exact Kn.nil h);(intro b6 h1 K1 l1 hb6)
 unfold GL at k
 by_cases h2:r<2
 ·rw [if_pos h2]at k
  refine aM (decide_eq_true (by omega)) ?_
  repeat' (refine kr_ ?_)
  exact⟨h,K1.le,k⟩
 ·rw [if_neg h2]at k
  refine aE (decide_eq_false (by omega)) ?_
  repeat' (refine kr_ ?_)
  obtain⟨nd,hn⟩: ∃nd,ns[r-2]?=some nd:=⟨_,List.getElem?_eq_getElem (by omega)⟩
  rw [hn]at k
  obtain⟨b,o,ha,i0,i1,c0,_⟩:=zd (hs.mono K1.le) hn
  rw [Wz (by omega) (by omega)]
  exact⟨b,o,ha,i0,i1,_,c0,h,K1.le,k⟩
theorem AI {h:Hp} {N r c:Nat} {s:Sl} {ns:List Nd} {bv:Bool} {R:Value->Hp->Prop} (hs:SlC h s 3 (bD ns)) (hW:Wd N ns) (hN:N<=13) (hl:ns.length<=600) (hr:r<ns.length+2) (he:Ev ns r c bv)
  (k:R (.bool bv) h):nT #[.agg #[I N,s.v,I r],I c] h R:=by
 refine ACalls.drop (Mm ?_)
 refine uf_ ?_
 (with_reducible apply Kn.al);(exact Kn.nil h);(intro b6 h1 K1 l1 hb6)
 (refine kr_ ?_)
 refine nv r (fun q vs h'=>vs= [I c, .pointer (some ⟨b6,0,none⟩),I q]/\q<ns.length+2/\Ev ns q c bv/\Kn h h' [(b6, .inl ⟨[I N,s.v,I r],3,false⟩)]) ⟨rfl,hr,he,K1⟩ ?_
 clear K1 l1 hb6 h1 hr he
 rintro q _ h1 next ⟨rfl,hq,he,K1⟩ hnx
 refine⟨_,b6,0,_,rfl,?_⟩
 cases he with
 |no=>exact aE (decide_eq_false (by omega)) ⟨h,K1.le,k⟩
 |yes=>exact aE (decide_eq_false (by omega)) ⟨h,K1.le,k⟩
 | @node p _ nd _ hn he2=>
  obtain⟨w1,w2,w3,w4,_⟩:=hW p nd hn
  refine aM (decide_eq_true (by omega)) ?_
  (refine kr_ ?_)
  obtain⟨b,o,ha,i0,i1,c0,c1,c2⟩:=zd (hs.mono K1.le) hn
  rw [Wz (by omega) (by omega),Nat.add_sub_cancel]
  refine⟨b,o,ha,i0,i1,_,c0,_,c1,_,c2,?_⟩
  refine Kn.al K1 fun b27 h2 K2 l2 hb27=>?_
  clear K1
  refine kw_ ?_
  intro h3 K3 _
  simp only [cA,List.set_cons_zero,List.set_cons_succ,Nat.zero_add,Nat.reduceAdd]at K3
  clear K2
  repeat' (refine kr_ ?_)
  refine jk (by omega) ⟨_,rfl,?_⟩
  by_cases hb:c.testBit nd.v=true
  ·rw [hb,if_pos rfl]at he2⊢
   refine aM rfl ?_
   (refine kr_ ?_)
   exact hnx nd.hi (by omega) _ _ ⟨rfl,by have:=get_lt hn;omega,he2,K3.tl⟩
  ·rw [Bool.not_eq_true]at hb
   rw [hb]at he2⊢
   refine aE rfl ?_
   (refine kr_ ?_)
   exact hnx nd.lo (by omega) _ _ ⟨rfl,by have:=get_lt hn;omega,he2,K3.tl⟩
theorem Ord.len {ns:List Nd} {r:Nat} {d o:List Nat} (h:Ord ns r d o):d.length<=o.length:=by
 induction h with
 |leaf=>exact Nat.le_refl _
 |seen=>exact Nat.le_refl _
 |node _ _ _ _ _ i1 i2=>rw [List.length_append];omega
theorem LD {N:Nat} {rt:Int} {s:Sl} {ns:List Nd} (hW:Wd N ns) (hl:ns.length<=600): ∀{r:Nat} {d o:List Nat},Ord ns r d o-> ∀{g h:Hp} {X:List (Nat×Blk)} {t:Sl} {R:Value->Hp->Prop},SlC g s 3 (bD ns)->r<ns.length+2->o.length<=600->
  Kn g h X->cx X t 1 ((VL d).map I)->(∀t' X' h',cx X' t' 1 ((VL o).map I)->Kn g h' X'->R (Sl.v t') h')->la #[.agg #[I N,s.v,I rt],I r,t.v] h R:=by
 intro r d o ho
 induction ho with
 |leaf h2=>
  intro g h X t R hs hr hol K oX k
  refine sQ ?_
  refine uf_ ?_
  refine Kn.al K fun b7 h1 K1 l1 hb7=>?_
  exact aM (decide_eq_true (by omega)) (k t X h1 oX K1.tl)
 | @seen r d h2 hm=>
  intro g h X t R hs hr hol K oX k
  refine sQ ?_
  refine uf_ ?_
  refine Kn.al K fun b7 h1 K1 l1 hb7=>?_
  refine aE (decide_eq_false (by omega)) ?_
  have it:IntS h1 t (VL d):=(oX.buf fun e he=>K1.mem e (.tail _ he)).slc_of (by have:=oX.1;simp only [List.length_map,aY]at this;omega)
  have htl:=it.len
  rw [aY]at htl
  refine av d.length (fun i vs h'=>vs= [I r,t.v, .pointer (some ⟨b7,0,none⟩),I (i:Nat)]/\h'=h1/\ ∀j,j<i->d[j]?≠some r) ⟨rfl,rfl,fun j h=>by omega⟩ ?_
  rintro i _ _ next hi ⟨rfl,rfl,hno⟩ hnx
  refine⟨_,t,b7,0,_,rfl,?_⟩
  by_cases hlt:i<d.length
  ·refine aM (decide_eq_true (by omega)) ?_
   obtain⟨y,hy⟩: ∃y,d[i]?=some y:=⟨_,List.getElem?_eq_getElem hlt⟩
   obtain⟨b,o,ha,hc⟩:=it.get (HJ hy)
   refine⟨b,o,ha,by omega,by omega,_,by rw [Int.toNat_natCast];exact hc,?_⟩
   refine ac (fun _=>k t X _ oX K1.tl) (fun e=>?_)
   rw [aC (by omega)]
   refine hnx hlt _ _ ⟨rfl,rfl,fun j hj=>?_⟩
   by_cases hji:j<i
   ·exact hno j hji
   ·obtain rfl:j=i:=by omega
    rw [hy]
    intro q
    rw [Option.some.inj q]at e;simp at e
  ·obtain⟨j,hj⟩:=List.getElem?_of_mem hm
   exact absurd hj (hno j (by have:=get_lt hj;omega))
 | @node r d d1 d2 nd h2 hm hn o1 o2 ih1 ih2=>
  intro g h X t R hs hr hol K oX k
  refine sQ ?_
  refine uf_ ?_
  refine Kn.al K fun b7 h1 K1 l1 hb7=>?_
  refine aE (decide_eq_false (by omega)) ?_
  rw [List.length_append,List.length_singleton]at hol
  have l1':=o1.len
  have l2':=o2.len
  obtain⟨w1,w2,w3,w4,_⟩:=hW _ nd hn
  obtain⟨g0,KA,KL⟩:=Kn.cut (A:= [_]) K1
  have f7:=KA.at (.head _)
  have hs0:=hs.mono KA.le
  have it:IntS h1 t (VL d):=(oX.buf fun e he=>KL.mem e he).slc_of (by have:=oX.1;simp only [List.length_map,aY]at this;omega)
  have htl:=it.len
  rw [aY]at htl
  clear K1 K
  refine av d.length (fun i vs h'=>vs= [I r,t.v, .pointer (some ⟨b7,0,none⟩),I (i:Nat)]/\h'=h1) ⟨rfl,rfl⟩ ?_
  rintro i _ _ next hi ⟨rfl,rfl⟩ hnx
  refine⟨_,t,b7,0,_,rfl,?_⟩
  by_cases hlt:i<d.length
  ·refine aM (decide_eq_true (by omega)) ?_
   obtain⟨y,hy⟩: ∃y,d[i]?=some y:=⟨_,List.getElem?_eq_getElem hlt⟩
   obtain⟨b,o,ha,hc⟩:=it.get (HJ hy)
   refine⟨b,o,ha,by omega,by omega,_,by rw [Int.toNat_natCast];exact hc,?_⟩
   refine aE (by rw [beq_eq_false_iff_ne];intro q;exact hm (List.mem_of_getElem? (by rw [hy];exact congrArg some (by omega)))) ?_
   rw [aC (by omega)]
   exact hnx hlt _ _ ⟨rfl,rfl⟩
  refine aE (decide_eq_false (by omega)) ?_
  clear hnx
  repeat' (refine kr_ ?_)
  rw [Wz (by omega) (by omega)]
  obtain⟨b,o,ha,i0,i1,c0,c1,c2⟩:=zd (hs0.mono KL.le) hn
  refine⟨b,o,ha,i0,i1,_,c1,?_⟩
  refine ih1 (g:=g0) hs0 (by omega) (by omega) KL oX fun t1 X1 h2 oX1 K2=>⟨_,rfl,?_⟩
  clear c0 c1 c2 KL
  repeat' (refine kr_ ?_)
  obtain⟨b,o,ha,i0,i1,c0,c1,c2⟩:=zd (hs0.mono K2.le) hn
  refine⟨b,o,ha,i0,i1,_,c2,?_⟩
  refine ih2 (g:=g0) hs0 (by omega) (by omega) K2 oX1 fun t2 X2 h3 oX2 K3=>⟨_,rfl,?_⟩
  clear K2 oX1 c0 c1 c2
  have lX:=oX2.1
  simp only [List.length_map,aY,Nat.mul_one]at lX
  refine Kn.al K3 fun b55 h4 K4 l4 hb55=>?_
  have f55:=K4.at (.head _)
  rw [show X2=X2++ []from(List.append_nil _).symm]at K4
  refine Kn.growIn (A:= [_]) K4 oX2 (by omega) (by omega) (by omega) ⟨b55,0,rfl,ay f55⟩ rfl rfl fun t3 X3 h5 hn3 oX3 K5 l5=>?_
  rw [List.append_nil]at K5
  refine k t3 X3 h5 ?_ (K5.tl.weak KA.le)
  have e:(VL d2).map I++ [I (r:Int)]=(VL (d2++ [r])).map I:=by simp [VL]
  rw [<-e];exact oX3
set_option maxHeartbeats 400000 in
theorem AM {h:Hp} {N r:Nat} {s:Sl} {ns:List Nd} {f:Nat->Bool} {R:Value->Hp->Prop} (hs:SlC h s 3 (bD ns)) (D:Bq N ns r f) (k:R (.bool true) h):nL #[.agg #[I N,s.v,I r]] h R:=by
 refine ACalls.drop (Ma ?_)
 refine uf_ ?_
 have ls:=Mp hs
 have hl:=D.len
 have hN:=D.vars
 have hr:=D.root
 (with_reducible apply Kn.al);(exact Kn.nil h);(intro b5 h1 K1 l1 hb5)
 refine ap (fun J=>J false h1) (aE rfl ?_) (fun J hJ=>?_)
 rotate_left
 ·(refine kr_ ?_)
  refine Em ⟨_,rfl,aE (by rw [decide_eq_true ⟨by omega,by omega⟩];rfl) ?_⟩
  (refine kr_ ?_)
  refine aE (decide_eq_false (by omega)) ?_
  repeat' (refine kr_ ?_)
  rw [bU (by omega) (by omega)]
  refine dH ⟨_,rfl,?_⟩
  rw [decide_eq_true ⟨by omega,by omega⟩];exact hJ
 refine av ns.length (fun i vs h'=>vs= [.pointer (some ⟨b5,0,none⟩),I (i:Nat)]/\Kn h h' [(b5, .inl ⟨[I N,s.v,I r],3,false⟩)]) ⟨rfl,K1⟩ ?_
 clear K1 l1 hb5 h1
 rintro i _ h1 next hi ⟨rfl,K1⟩ hnx
 refine⟨b5,0,_,rfl,?_⟩
 (refine kr_ ?_)
 by_cases hlt:i<ns.length
 rotate_left
 ·refine aE (decide_eq_false (by omega)) ?_
  repeat' (refine kr_ ?_)
  refine LD (t:=⟨none,0,0⟩) (X:= []) D.wd hl D.ord (g:=h1) (hs.mono K1.le) D.root (by rw [yC];exact hl) (Kn.nil h1) (cC 1) fun t X h2 oX K2=>⟨_,rfl,?_⟩
  have K3:=K1.mono K2.le
  have it:IntS h2 t (VL (vC ns.length)):=(oX.buf fun e he=>K2.mem e he).slc_of (by have:=oX.1;simp only [List.length_map,aY,yC]at this;omega)
  have itl:=it.len
  rw [aY,yC]at itl
  clear K1 hnx
  refine av ns.length (fun j vs h'=>vs= [.pointer (some ⟨b5,0,none⟩),t.v,I (j:Nat)]/\h'=h2) ⟨rfl,rfl⟩ ?_
  rintro j _ _ next hj ⟨rfl,rfl⟩ hnx
  refine⟨b5,0,t,_,rfl,?_⟩
  by_cases hlt:j<ns.length
  ·refine aM (decide_eq_true (by omega)) ?_
   have hy:(vC ns.length)[j]?=some (j+2):=by unfold vC;rw [List.getElem?_map,List.getElem?_range hlt];rfl
   obtain⟨b,o,ha,hc⟩:=it.get (HJ hy)
   refine⟨b,o,ha,by omega,by omega,_,by rw [Int.toNat_natCast];exact hc,?_⟩
   refine aE (by rw [bU (by omega) (by omega),bne_eq_false_iff_eq];omega) ?_
   rw [aC (by omega)]
   exact hnx hlt _ _ ⟨rfl,rfl⟩
  refine aE (decide_eq_false (by omega)) ?_
  (refine kr_ ?_)
  rw [show ((t.n:Int)==(s.n:Int))=true by rw [beq_iff_eq];omega]
  exact⟨h,K3.le,k⟩
 refine aM (decide_eq_true (by omega)) ?_
 obtain⟨nd,hn⟩: ∃nd,ns[i]?=some nd:=⟨_,List.getElem?_eq_getElem hlt⟩
 obtain⟨w1,w2,w3,w4,w5,w6,w7⟩:=D.wd i nd hn
 (refine kr_ ?_)
 obtain⟨b,o,ha,i0,i1,c0,c1,c2⟩:=zd hs hn
 have xb:=gV c0
 refine⟨b,o,ha,i0,i1,_,K1.le.cell c0,_,K1.le.cell c1,_,K1.le.cell c2,?_⟩
 refine Kn.al K1 fun b41 h2 K2 l2 hb41=>?_
 clear K1
 refine kw_ ?_
 intro h3 K3 _
 simp only [cA,List.set_cons_zero,List.set_cons_succ,Nat.zero_add,Nat.reduceAdd]at K3
 clear K2
 refine ap (fun J=>J false h3) (aE rfl ?_) (fun J hJ=>?_)
 ·refine av i (fun j vs h'=>vs= [.pointer (some ⟨b5,0,none⟩),I (i:Nat), .pointer (some ⟨b41,0,none⟩),I (j:Nat)]/\h'=h3) ⟨rfl,rfl⟩ ?_
  rintro j _ _ next2 hj ⟨rfl,rfl⟩ hnx2
  refine⟨b5,0,_,b41,0,_,rfl,?_⟩
  by_cases hlj:j<i
  ·refine aM (decide_eq_true (by omega)) ?_
   obtain⟨me,hme⟩: ∃me,ns[j]?=some me:=⟨_,List.getElem?_eq_getElem (by omega)⟩
   (refine kr_ ?_)
   obtain⟨b',o',ha',j0,j1,e0,e1,e2⟩:=zd (hs.mono K3.le) hme
   refine⟨b',o',ha',j0,j1,_,e0,_,e1,_,e2,?_⟩
   repeat' (refine kr_ ?_)
   refine aE ?_ ?_
   ·rw [Bool.eq_false_iff]
    intro q
    simp only [Bool.and_eq_true,beq_iff_eq,Bool.and_true]at q
    refine w7 j hlj ?_
    rw [hme]
    obtain⟨a1,a2,a3⟩:=me
    obtain⟨d1,d2,d3⟩:=nd
    dsimp only at q
    rw [show a1=d1 by omega,show a2=d2 by omega,show a3=d3 by omega]
   ·rw [aC (by omega)]
    exact hnx2 hlj _ _ ⟨rfl,rfl⟩
  ·refine aE (decide_eq_false (by omega)) ?_
   rw [aC (by omega)]
   exact hnx hlt _ _ ⟨rfl,K3.tl⟩
 ·repeat' (refine kr_ ?_)
  rw [bU (by omega) (by omega)]
  refine dH ⟨_,rfl,aE (by rw [decide_eq_true ⟨by omega,by omega⟩];rfl) ?_⟩
  repeat' (refine kr_ ?_)
  refine aE (by rw [beq_eq_false_iff_ne];omega) ?_
  repeat' (refine kr_ ?_)
  rw [bU (by omega) (by omega)]
  refine dH ⟨_,rfl,aE (by rw [decide_eq_true ⟨by omega,by omega⟩];rfl) ?_⟩
  repeat' (refine kr_ ?_)
  refine dH ⟨_,rfl,aE (by rw [decide_eq_true ⟨by omega,by omega⟩];rfl) ?_⟩
  repeat' (refine kr_ ?_)
  refine BG (hs.mono K3.le) hl (by omega) ⟨_,rfl,?_⟩
  repeat' (refine kr_ ?_)
  refine aE (decide_eq_false (by omega)) ?_
  repeat' (refine kr_ ?_)
  refine BG (hs.mono K3.le) hl (by omega) ⟨_,rfl,?_⟩
  repeat' (refine kr_ ?_)
  rw [decide_eq_false (by omega)]
  exact hJ
def kc (n:Nat) (f:Nat->Bool):Nat:=((List.range n).filter f).length
theorem iK (n:Nat) (f:Nat->Bool):kc (n+1) f=kc n f+(if f n then 1 else 0):=by
 unfold kc
 rw [List.range_succ,List.filter_append,List.length_append]
 cases hf:f n<;>simp [List.filter_cons,hf]
theorem yP (n:Nat) (f:Nat->Bool):kc n f<=n:=by
 have:=List.length_filter_le f (List.range n)
 rwa [List.length_range]at this
theorem jo {h:Hp} {N r:Nat} {s:Sl} {ns:List Nd} {f:Nat->Bool} {R:Value->Hp->Prop} (hs:SlC h s 3 (bD ns)) (D:Bq N ns r f) (k:R (I (kc (2^N) f)) h):eF #[.agg #[I N,s.v,I r]] h R:=by
 refine ACalls.drop (EQ ?_)
 refine uf_ ?_
 have hN:=D.vars
 have hp:2^N<=2^13:=Nat.pow_le_pow_right (by omega) hN
 (with_reducible apply Kn.al);(exact Kn.nil h);(intro b5 h1 K1 l1 hb5)
 repeat' (refine kr_ ?_)
 refine AM (hs.mono K1.le) D ⟨_,rfl,aE rfl ?_⟩
 refine av (2^N) (fun i vs h'=>vs= [.pointer (some ⟨b5,0,none⟩),I (kc i f:Nat),I (i:Nat)]/\h'=h1) ⟨rfl,rfl⟩ ?_
 rintro i _ _ next hi ⟨rfl,rfl⟩ hnx
 refine⟨b5,0,_,_,rfl,?_⟩
 repeat' (refine kr_ ?_)
 rw [cu (by omega),if_neg (by omega),bJ (by omega)]
 have hc:=yP i f
 by_cases hlt:i<2^N
 ·refine aM (decide_eq_true (by omega)) ?_
  repeat' (refine kr_ ?_)
  refine AI (hs.mono K1.le) D.wd hN D.len D.root (D.ev i hlt) ⟨_,rfl,?_⟩
  refine pI ⟨_,rfl,?_⟩
  rw [aC (by omega)]
  refine hnx hlt _ _ ⟨?_,rfl⟩
  rw [iK]
  cases f i
  ·rw [if_neg (by simp),if_neg (by simp),Int.add_zero,eO (by omega)];rfl
  ·rw [if_pos rfl,if_pos rfl,aC (by omega)]
 ·obtain rfl:i=2^N:=by omega
  exact aE (decide_eq_false (by omega)) ⟨h,K1.le,k⟩
theorem qw {v:Nat} {f:Nat->Bool} (h:(cQ v f).ok=true): ∃r:Nat,(cQ v f).v=(v:Nat)/\(cQ v f).r=r/\Bq v (cQ v f).ns r f:=by
 unfold cQ at h⊢
 by_cases hv:0<=(v:Int)/\(v:Int)<=13
 ·rw [if_pos hv]at h⊢
  rw [Int.toNat_natCast]at h⊢
  cases hd:pu v f with
  |none=>rw [hd]at h;cases h
  |some r=>
   obtain⟨w1,w2,w3,w4,w5⟩:=Us hd
   exact⟨r.1,rfl,rfl,w1,w2,w3,w4,w5,by omega⟩
 ·rw [if_neg hv]at h;cases h
theorem qb {v:Nat} {f:Nat->Bool} (h:v<=8):(cQ v f).ok=true:=by
 unfold cQ
 rw [if_pos ⟨by omega,by omega⟩,Int.toNat_natCast]
 unfold pu
 have:=tp v f 0 []
 have hp:2^v<=2^8:=Nat.pow_le_pow_right (by omega) h
 rw [if_neg (by simp at this;omega)]
theorem kY {n:Nat} {f g:Nat->Bool} (h: ∀i,i<n->f i=g i):kc n f=kc n g:=by
 induction n with
 |zero=>rfl
 |succ n ih=>rw [iK,iK,ih fun i hi=>h i (by omega),h n (by omega)]
theorem wt (n:Nat):kc n (fun _=>false)=0:=by
 induction n with
 |zero=>rfl
 |succ n ih=>rw [iK,ih];rfl
def lY (n:Nat) (f:Nat->Bool):List Nat:=(List.range n).filter f
theorem Ou (n:Nat) (f:Nat->Bool):lY (n+1) f=lY n f++if f n then [n]else []:=by
 unfold lY
 rw [List.range_succ,List.filter_append]
 cases hf:f n<;>simp [List.filter_cons,hf]
theorem GJ (n:Nat) (f:Nat->Bool):(lY n f).length=kc n f:=rfl
theorem A6 {n:Nat} {f:Nat->Bool} {x:Nat}:x∈lY n f↔x<n/\f x=true:=by unfold lY;rw [List.mem_filter,List.mem_range]
set_option maxHeartbeats 1000000 in
theorem zX {h:Hp} {N r:Nat} {s:Sl} {ns:List Nd} {f:Nat->Bool} {R:Value->Hp->Prop} (hs:SlC h s 3 (bD ns)) (D:Bq N ns r f) (hc:kc (2^N) f<=256)
  (k: ∀t h',h.le h'->IntS h' t (VL (lY (2^N) f))->R (.tuple #[Sl.v t, .bool true]) h'):mI #[.agg #[I N,s.v,I r]] h R:=by
 apply EO
 refine uf_ ?_
 have hN:=D.vars
 have hp:2^N<=2^13:=Nat.pow_le_pow_right (by omega) hN
 (with_reducible apply Kn.al);(exact Kn.nil h);(intro b5 h1 K1 l1 hb5)
 refine ap (fun J=>J false h1) (aE rfl ?_) (fun J hJ=>?_)
 rotate_left
 ·repeat' (refine kr_ ?_)
  refine jo (hs.mono l1) D ⟨_,rfl,aE (decide_eq_false (by omega)) ?_⟩
  repeat' (refine kr_ ?_)
  exact AM (hs.mono l1) D ⟨_,rfl,hJ⟩
 refine av (2^N) (fun i vs h'=> ∃(t:Sl) (X:List (Nat×Blk)),vs= [.pointer (some ⟨b5,0,none⟩),t.v,I (i:Nat)]/\cx X t 1 ((VL (lY i f)).map I)/\Kn h h' ((b5, .inl ⟨[I N,s.v,I r],3,false⟩)::(X++ []))) ⟨⟨none,0,0⟩, [],rfl,cC 1,K1⟩ ?_
 clear K1 l1 hb5 h1
 rintro i _ h1 next hi ⟨t,X,rfl,oX,K1⟩ hnx
 refine⟨b5,0,t,_,rfl,?_⟩
 have lt:=oX.1
 have hcl:=yP i f
 simp only [List.length_map,aY,GJ,Nat.mul_one]at lt
 repeat' (refine kr_ ?_)
 rw [cu (by omega),if_neg (by omega),bJ (by omega)]
 by_cases hlt:i<2^N
 rotate_left
 ·obtain rfl:i=2^N:=by omega
  refine aE (decide_eq_false (by omega)) ?_
  exact k t h1 K1.le ((oX.buf fun e he=>K1.mem e (by simp [he])).slc_of (by omega))
 refine aM (decide_eq_true (by omega)) ?_
 repeat' (refine kr_ ?_)
 refine AI (hs.mono K1.le) D.wd hN D.len D.root (D.ev i hlt) ⟨_,rfl,?_⟩
 have hsucc:=Ou i f
 rw [aC (by omega)]
 refine ac (fun e=>?_) (fun e=>?_)
 ·rw [e,if_pos rfl]at hsucc
  refine Kn.al K1 fun b45 h2 K2 l2 hb45=>?_
  have f45:=K2.at (.head _)
  refine Kn.growIn (A:= [_,_]) K2 oX (by omega) (by omega) (by omega) ⟨b45,0,rfl,ay f45⟩ rfl rfl fun t' X' h3 hn' oX' K3 l3=>?_
  refine hnx hlt _ _ ⟨t',X',rfl,?_,K3.tl⟩
  rw [hsucc]
  have e2:(VL (lY i f)).map I++ [I (i:Int)]=(VL (lY i f++ [i])).map I:=by simp [VL]
  rw [<-e2];exact oX'
 ·rw [e,if_neg (by decide),List.append_nil]at hsucc
  exact hnx hlt _ _ ⟨t,X,rfl,by rw [hsucc];exact oX,K1⟩
def A2 (m:ah) (s x t:Nat):Bool:=gY m (cl m s x)&&gt (stP m) (gH m (cl m s x)) (fq m.nodes (stP m) t) (stP m).length
set_option maxHeartbeats 2000000 in
theorem Mr {h:Hp} {M:MSl} {m:ah} {r t:Nat} {s:Sl} {ns:List Nd} {f:Nat->Bool} {R:Value->Hp->Prop} (hs:aO h M m) (hm:bW m) (hc:ax m=0) (hd:SlC h s 3 (bD ns)) (D:Bq (ak m.nodes 36) ns r f)
  (ht:t<2^ak m.nodes 36) (hex: ∃q x,q<2^ak m.nodes 36/\x<2^ak m.nodes 35/\f q=true/\A2 m q x t=true) (k:R (.bool true) h):sm #[aQ M, .agg #[I (ak m.nodes 36:Nat),s.v,I r],I t] h R:=by
 refine ACalls.drop (G2 ?_)
 refine uf_ ?_
 have g:=cr hc
 have n8:=g.n8
 have k5:=g.k5
 have hp8:=yy n8
 have hp5:=yy (show ak m.nodes 35<=8 by omega)
 (with_reducible apply Kn.al);(exact Kn.nil h);(intro b11 h1 K1 l1 hb11)
 refine Kn.al K1 fun b13 h2 K2 l2 hb13=>?_
 clear K1
 repeat' (refine kr_ ?_)
 refine zX (hd.mono K2.le) D (Nat.le_trans (yP _ _) hp8.1) fun ct h3 l3 ic=>⟨_,_,rfl,?_⟩
 have K3:=K2.mono l3
 repeat' (refine kr_ ?_)
 refine jz (hs.mono K3.le) hm hc ⟨_,_,rfl,?_⟩
 repeat' (refine kr_ ?_)
 refine oE (hs.mono K3.le) hm hc (fun h' q _=>absurd ⟨by omega,by omega⟩ q) fun c tS h4 ec _ l4 iT=>⟨_,_,rfl,?_⟩
 obtain rfl:t=c:=by omega
 have K4:=K3.mono l4
 replace ic:=ic.mono l4
 have f11:=K4.at (b:=b11) (by((focus ((repeat first|exact .head _|apply List.Mem.tail);done))))
 have hs4:=hs.mono K4.le
 have l04:=K4.le
 have icn:=ic.len
 rw [aY]at icn
 have icl:=yP (2^ak m.nodes 36) f
 rw [<-GJ]at icl
 clear K2 K3 K4 l1 l2 hb11 hb13 l3 l4
 refine av (lY (2^ak m.nodes 36) f).length (fun i vs h'=>vs= [.pointer (some ⟨b11,0,none⟩),ct.v,I (ak m.nodes 35:Nat),tS.v,I (i:Nat)]/\h4.le h'/\ ∀j q,j<i->(lY (2^ak m.nodes 36) f)[j]?=some q-> ∀x,x<2^ak m.nodes 35->A2 m q x t=false) ⟨rfl,Hp.le_refl _,fun j q hj=>by omega⟩ ?_
 rintro i _ h5 next hi ⟨rfl,l5,hno⟩ hnx
 have K5:=Kn.of l5
 refine⟨b11,0,ct,_,tS,_,rfl,?_⟩
 by_cases hlt:i<(lY (2^ak m.nodes 36) f).length
 rotate_left
 ·obtain⟨q,x,hq,hx,hf,hcm⟩:=hex
  obtain⟨j,hj⟩:=List.getElem?_of_mem (A6.2 ⟨hq,hf⟩)
  rw [hno j q (by have:=get_lt hj;omega) hj x hx]at hcm
  cases hcm
 refine aM (decide_eq_true (by omega)) ?_
 obtain⟨q,hq⟩: ∃q,(lY (2^ak m.nodes 36) f)[i]?=some q:=⟨_,List.getElem?_eq_getElem hlt⟩
 have hqm:=A6.1 (List.mem_of_getElem? hq)
 obtain⟨bc,oc,ha,hcc⟩:=(ic.mono l5).get (HJ hq)
 refine⟨bc,oc,ha,by omega,by omega,?_⟩
 repeat' (refine kr_ ?_)
 refine⟨_,by rw [Int.toNat_natCast];exact hcc,?_⟩
 refine oE (hs4.mono l5) hm hc (fun h' q _=>absurd ⟨by omega,by omega⟩ q) fun c qS h6 ec _ l6 iQ=>⟨_,_,rfl,?_⟩
 obtain rfl:q=c:=by omega
 refine av (2^ak m.nodes 35) (fun x vs h'=>vs= [.pointer (some ⟨b11,0,none⟩),ct.v,I (ak m.nodes 35:Nat),tS.v,I (i:Nat),qS.v,I (x:Nat)]/\h6.le h'/\ ∀y,y<x->A2 m q y t=false) ⟨rfl,Hp.le_refl _,fun y hy=>by omega⟩ ?_
 clear K5
 rintro x _ h7 next2 hx ⟨rfl,l7,hno2⟩ hnx2
 refine⟨b11,0,ct,_,tS,_,qS,_,rfl,?_⟩
 have l47:=Hp.le_trans l5 (Hp.le_trans l6 l7)
 have K7:=Kn.of l47
 rw [cu (by omega),if_neg (by omega),bJ (by omega)]
 by_cases hlx:x<2^ak m.nodes 35
 rotate_left
 ·refine aE (decide_eq_false (by omega)) ?_
  rw [aC (by omega)]
  refine hnx hlt _ _ ⟨rfl,l47,fun j q' hj hq' y hy=>?_⟩
  by_cases hji:j<i
  ·exact hno j q' hji hq' y hy
  ·obtain rfl:j=i:=by omega
   rw [hq]at hq'
   obtain rfl:=Option.some.inj hq'
   exact hno2 y (by omega)
 refine aM (decide_eq_true (by omega)) ?_
 repeat' (refine kr_ ?_)
 refine vK (hs4.mono l47) hm hc (fun h' q _=>absurd ⟨by omega,by omega⟩ q) fun c xS h8 ec _ l8 iX=>⟨_,_,rfl,?_⟩
 obtain rfl:x=c:=by omega
 have K8:=K7.mono l8
 refine ap (fun J=>J (A2 m q x t) h8) ?_ (fun J hJ=>?_)
 ·refine ac (fun _=>⟨h,Hp.le_trans l04 K8.le,k⟩) (fun e=>?_)
  rw [aC (by omega)]
  refine hnx2 hlx _ _ ⟨rfl,Hp.le_trans l7 l8,fun y hy=>?_⟩
  by_cases hyx:y<x
  ·exact hno2 y hyx
  ·obtain rfl:y=x:=by omega
   exact e
 ·unfold A2 at hJ
  repeat' (refine kr_ ?_)
  refine sy (hs4.mono K8.le) hm hc (iQ.mono (Hp.le_trans l7 l8)) iX ⟨_,rfl,ac (fun e=>?_) (fun e=>?_)⟩
  ·rw [e,Bool.true_and]at hJ
   repeat' (refine kr_ ?_)
   exact z9 (hs4.mono K8.le) hm hc (iQ.mono (Hp.le_trans l7 l8)) iX (iT.mono K8.le) (jd ..) ⟨_,rfl,hJ⟩
  ·rw [e,Bool.false_and]at hJ
   exact hJ
theorem Yk {n:Nat} {f g:Nat->Bool} (h: ∀i,i<n->f i=true->g i=false):kc n (fun i=>f i||g i)=kc n f+kc n g:=by
 induction n with
 |zero=>rfl
 |succ n ih=>
  rw [iK,iK,iK,ih fun i hi=>h i (by omega)]
  have:=h n (by omega)
  cases hf:f n
  ·simp only [Bool.false_or,Bool.false_eq_true,if_false];omega
  ·rw [this hf];simp;omega
theorem VU {σ:aD} (i:Nat):kc (2^σ.n) (σ.seen (i+1))=kc (2^σ.n) (σ.seen i)+kc (2^σ.n) (σ.front i):=by
 rw [<-Yk fun t _ ht=>?_]
 ·exact kY fun t _=>aD.seen_succ σ i t
 ·cases hf:σ.front i t with
  |false=>rfl
  |true=>rw [aD.front_new σ i t hf]at ht;cases ht
theorem U8 {n t:Nat} {f:Nat->Bool} (ht:t<n) (h:f t=true):0<kc n f:=List.length_pos_of_mem (List.mem_filter.2 ⟨List.mem_range.2 ht,h⟩)
theorem Oe {m:ah} (g:dj m) {i t:Nat} (h:(aG m).front (i+1) t=true): ∃q x,q<2^ak m.nodes 36/\x<2^ak m.nodes 35/\(aG m).front i q=true/\A2 m q x t=true:=by
 rw [aD.front_succ,Bool.and_eq_true]at h
 obtain⟨q,x,hq,hx,h1,h2,h3⟩:=aD.fwd_iff.1 h.1
 refine⟨q,x,hq,hx,h1,?_⟩
 unfold A2
 rw [Bool.and_eq_true,<-(zk hq).1]
 exact⟨h2,jj.2 ((Oa g hq t).1 h3)⟩
theorem JK {m:ah} (hc:ax m=0) (i:Nat):(gp m (i:Nat)).ok=true/\ ∃r:Nat,(gp m (i:Nat)).v=(ak m.nodes 36:Nat)/\(gp m (i:Nat)).r=r/\
  Bq (ak m.nodes 36) (gp m (i:Nat)).ns r (if i<(aG m).nLay then(aG m).front i else fun _=>false):=by
 have g:=cr hc
 unfold gp
 rw [if_pos ⟨hc,by omega⟩,Int.toNat_natCast]
 by_cases h:i<(aG m).nLay
 ·rw [if_pos h,if_pos h];exact⟨qb g.n8,qw (qb g.n8)⟩
 ·rw [if_neg h,if_neg h];exact⟨qb g.n8,qw (qb g.n8)⟩
theorem RV {m:ah} (hc:ax m=0):(ew m).ok=true/\ ∃r:Nat,(ew m).v=(ak m.nodes 36:Nat)/\(ew m).r=r/\Bq (ak m.nodes 36) (ew m).ns r (aG m).reach:=by
 have g:=cr hc
 unfold ew
 rw [if_pos hc]
 exact⟨qb g.n8,qw (qb g.n8)⟩
abbrev bdC (v:Int) (s:Sl) (r:Int):Blk:= .inl ⟨[I v,s.v,I r],3,false⟩
set_option maxHeartbeats 4000000 in
theorem FnLayers_spec {h:Hp} {s:Sl} {bs:List Nat} {R:Value->Hp->Prop} (hcap:s.n<=s.c) (hs:ByteS h s bs) (k:R (.bool true) h):wF #[s.v] h R:=by
 refine ACalls.drop (Fs ?_)
 refine uf_ ?_
 refine ac (fun _=>⟨h,Hp.le_refl _,k⟩) (fun _=>?_)
 refine fE hcap hs fun h1 M m l1 hM hm hc=>⟨_,_,_,_,_,rfl,?_⟩
 have g:=cr hc
 have n8:=g.n8
 have k5:=g.k5
 have hp8:=yy n8
 have fin: ∀h',h1.le h'-> ∃h'',h''.le h'/\R (.bool true) h'':=fun h' l=>⟨h,Hp.le_trans l1 l,k⟩
 have hn1:0<(aG m).nLay:=aD.nLay_pos (gZ g)
 have hn2:(aG m).nLay<=256:=Nat.le_trans (aD.nLay_le _) hp8.1
 obtain⟨hlive,hdead⟩:=aD.nLay_live (σ:=aG m)
 have hlast:kz m=(((aG m).nLay-1:Nat):Int):=by unfold kz;rw [if_pos hc];omega
 obtain⟨okR_,rR,vR,eR,DR⟩:=RV hc
 (with_reducible apply Kn.al);(exact Kn.nil h1);(intro b14 h2 K1 l2 hb14)
 refine j3 (M':=M) K1 (by((focus ((repeat first|exact .head|apply Upd.tail);done)))) rfl fun h3 K3=>?_
 clear K1
 have sR: ∀{h':Hp} {R':Value->Hp->Prop},aO h' M m->(∀s h'',h'.le h''->Own (h''.sub h') s 3 (bD (ew m).ns)->R' (GQ (ew m) (kz m) s) h'')->fG #[aQ M] h' R':=fun a b=>jY a hm b
 repeat' (refine kr_ ?_)
 refine Ah (hM.mono K3.le) hm fun d1 h4 l4 o1=>⟨_,_,_,_,_,rfl,?_⟩
 generalize ew m=B1 at*
 have o1':=o1.slc.mono (sub_le _ _)
 have K4:=K3.mono l4
 clear K3 o1 l4
 refine Kn.al K4 fun b32 h5 K5 l5 hb32=>?_
 refine kw_ ?_
 intro h6 K6 kp6
 simp only [cA,List.set_cons_zero,List.set_cons_succ,Nat.zero_add,Nat.reduceAdd]at K6
 have o16:=o1'.mono (cL hb32 l5 kp6)
 clear K4 K5 kp6 l5 hb32 o1'
 repeat' (refine kr_ ?_)
 refine sR (hM.mono K6.le) fun d2 h7 l7 o2=>⟨_,_,_,_,_,rfl,?_⟩
 have o2':=o2.slc.mono (sub_le _ _)
 have K7:=K6.mono l7
 replace o16:=o16.mono l7
 clear K6 o2 l7
 refine Kn.al K7 fun b50 h8 K8 l8 hb50=>?_
 refine kw_ ?_
 intro h9 K9 kp9
 simp only [cA,List.set_cons_zero,List.set_cons_succ,Nat.zero_add,Nat.reduceAdd]at K9
 have l79:=cL hb50 l8 kp9
 replace o16:=o16.mono l79
 have o29:=o2'.mono l79
 clear K7 K8 kp9 l8 hb50 o2' l79
 refine ap (fun J=>J false h9) (aE rfl ?_) (fun J hJ=>?_)
 rotate_left
 ·refine aE (by rw [okR_];rfl) (aE (by simp) ?_)
  repeat' (refine kr_ ?_)
  exact sf o16 o29 ⟨_,rfl,hJ⟩
 replace K9:=K9.tl
 have f14:=K9.at (b:=b14) (by((focus ((repeat first|exact .head _|apply List.Mem.tail);done))))
 have f32:=K9.at (b:=b32) (by((focus ((repeat first|exact .head _|apply List.Mem.tail);done))))
 have hM9:=hM.mono K9.le
 have l19:=K9.le
 have oA:=o16
 clear K9 sR o29 o16
 (with_reducible apply Kn.al);(exact Kn.nil h9);(intro b71 h10 K10 l10 hb71)
 have hsn: ∀i,kc (2^ak m.nodes 36) ((aG m).seen i)<=256:=fun i=>Nat.le_trans (yP _ _) hp8.1
 rw [hlast]
 refine av (min (aG m).nLay 6) (fun i vs h'=> ∃(g0:Hp) (v r:Int) (dA:Sl) (ns:List Nd),vs= [.pointer (some ⟨b14,0,none⟩), .pointer (some ⟨b32,0,none⟩),I (((aG m).nLay-1:Nat):Int),I (kc (2^ak m.nodes 36) ((aG m).seen i):Nat), .pointer (some ⟨b71,0,none⟩),I (i:Nat)]/\h9.le g0/\
  Kn g0 h' [(b71,bdC v dA r)]/\ ∀j,i=j+1->v=(ak m.nodes 36:Nat)/\SlC g0 dA 3 (bD ns)/\ ∃r':Nat,r=r'/\Bq (ak m.nodes 36) ns r' ((aG m).front j))
  ⟨h9,0,0,⟨none,0,0⟩, [],by rw [kY (g:=fun _=>false) fun t _=>aD.seen_zero _ t,wt];rfl,Hp.le_refl _,K10,fun j hj=>by omega⟩ ?_
 clear K10 l10 hb71 h10
 rintro i _ h2 next hi ⟨g0,v,r,dA,ns,rfl,lg,K,hA⟩ hnx
 refine⟨b14,0,b32,0,_,_,b71,0,_,rfl,?_⟩
 have f14g:=lg _ _ f14
 have f32g:=lg _ _ f32
 by_cases hlt:i<(aG m).nLay/\i<6
 ·refine ap (fun J=>J true) (aM rfl ?_) (fun J hJ=>?_)
  rotate_left
  ·refine aM (decide_eq_true (by omega)) ?_
   rw [decide_eq_true (by omega)];exact hJ
  obtain⟨okL,rL,vL,eL,DL⟩:=JK hc i
  rw [if_pos hlt.1]at DL
  have sL: ∀{h':Hp} {R':Value->Hp->Prop},aO h' M m->(∀s h'',h'.le h''->Own (h''.sub h') s 3 (bD (gp m (i:Nat)).ns)->R' (xc (gp m (i:Nat)) s) h'')->mJ #[aQ M,I (i:Nat)] h' R':=fun a b=>Am a hm b
  repeat' (refine kr_ ?_)
  refine r6 (hM9.mono (Hp.le_trans lg K.le)) hm fun d2 h3 l3 o3=>⟨_,_,_,_,rfl,?_⟩
  generalize gp m (i:Nat)=B2 at*
  have o3b:SlC (h3.wo [b71]) d2 3 (bD B2.ns):=o3.slc.mono (yR K)
  have K3:=K.mono l3
  have KB:Kn (h3.wo [b71]) h3 _:=K3.base
  have lB:g0.le (h3.wo [b71]):=K3.leBase
  clear K K3 o3 l3
  generalize h3.wo [b71]=g3 at*
  refine Kn.al KB fun b103 h4 K4 l4 hb103=>?_
  clear KB
  refine kw_ ?_
  intro h5 K5 _
  simp only [cA,List.set_cons_zero,List.set_cons_succ,Nat.zero_add,Nat.reduceAdd]at K5
  obtain⟨g5,KA5,K6⟩:=Kn.cut (A:= [_]) K5
  have f103:=KA5.at (.head _)
  have l35:=KA5.le
  have lg5:=Hp.le_trans lg (Hp.le_trans lB l35)
  have f14g5:=lg5 _ _ f14
  have f32g5:=lg5 _ _ f32
  have o5:=o3b.mono l35
  clear K4 K5 KA5 l4 hb103 f14g f32g
  repeat' (refine kr_ ?_)
  refine sL (hM9.mono (Hp.le_trans lg5 K6.le)) fun d3 h7 l7 o7=>⟨_,_,_,_,rfl,?_⟩
  have o7':=o7.slc.mono (sub_le _ _)
  have K7:=K6.mono l7
  clear K6 o7 l7 sL
  refine Kn.al K7 fun b120 h8 K8 l8 hb120=>?_
  refine kw_ ?_
  intro h11 K11 kp11
  simp only [cA,List.set_cons_zero,List.set_cons_succ,Nat.zero_add,Nat.reduceAdd]at K11
  have o11:=o7'.mono (cL hb120 l8 kp11)
  clear K7 K8 l8 hb120 kp11 o7'
  have hpos:0<kc (2^ak m.nodes 36) ((aG m).front i):=by
   obtain⟨t,ht,hf⟩:=cE.1 (hlive i hlt.1)
   exact U8 ht hf
  refine ap (fun J=>J false h11) (aE rfl ?_) (fun J hJ=>?_)
  rotate_left
  ·refine aE (by rw [okL];rfl) ?_
   repeat' (refine kr_ ?_)
   refine sf (o5.mono K11.le) o11 ⟨_,rfl,aE rfl ?_⟩
   repeat' (refine kr_ ?_)
   rw [vL,eL]
   refine jo (o5.mono K11.le) DL ⟨_,rfl,?_⟩
   rw [show (((kc (2^ak m.nodes 36) ((aG m).front i):Nat):Int)==0)=false by rw [beq_eq_false_iff_ne];omega]
   exact hJ
  replace K11:=K11.tl
  clear o11
  repeat' (refine kr_ ?_)
  rw [vL,eL]
  refine jo (o5.mono K11.le) DL ⟨_,rfl,?_⟩
  repeat' (refine kr_ ?_)
  rw [vL,eL]
  refine zX (o5.mono K11.le) DL (Nat.le_trans (yP _ _) hp8.1) fun ct h12 l12 ic=>⟨_,_,rfl,?_⟩
  have K12:=K11.mono l12
  have icn:=ic.len
  rw [aY]at icn
  clear K11
  have hsc:=VU (σ:=aG m) i
  replace hsc:kc (2^ak m.nodes 36) ((aG m).seen (i+1))=kc (2^ak m.nodes 36) ((aG m).seen i)+kc (2^ak m.nodes 36) ((aG m).front i):=hsc
  have hs1:=hsn (i+1)
  rw [show W (((kc (2^ak m.nodes 36) ((aG m).seen i):Nat):Int)+((kc (2^ak m.nodes 36) ((aG m).front i):Nat):Int))=((kc (2^ak m.nodes 36) ((aG m).seen (i+1)):Nat):Int) by rw [bU (by omega) (by omega)];omega]
  refine av 4 (fun q vs h'=>vs= [.pointer (some ⟨b14,0,none⟩), .pointer (some ⟨b32,0,none⟩),I (((aG m).nLay-1:Nat):Int),I (kc (2^ak m.nodes 36) ((aG m).seen (i+1)):Nat), .pointer (some ⟨b71,0,none⟩),I (i:Nat), .pointer (some ⟨b103,0,none⟩),ct.v,I (q:Nat)]/\h'=h12) ⟨rfl,rfl⟩ ?_
  rintro q _ _ next2 hq ⟨rfl,rfl⟩ hnx2
  refine⟨b14,0,b32,0,_,_,b71,0,_,b103,0,ct,_,rfl,?_⟩
  have hM12:=hM9.mono (Hp.le_trans lg5 K12.le)
  by_cases hcq:q<(lY (2^ak m.nodes 36) ((aG m).front i)).length/\0<i/\q<4
  ·refine ap (fun J=>J true) (aM rfl ?_) (fun J hJ=>?_)
   rotate_left
   ·refine aM (decide_eq_true (by omega)) (aM (decide_eq_true (by omega)) ?_)
    rw [decide_eq_true (by omega)];exact hJ
   obtain⟨t,ht⟩: ∃t,(lY (2^ak m.nodes 36) ((aG m).front i))[q]?=some t:=⟨_,List.getElem?_eq_getElem hcq.1⟩
   have htm:=A6.1 (List.mem_of_getElem? ht)
   obtain⟨j,rfl⟩: ∃j,i=j+1:=⟨i-1,by omega⟩
   obtain⟨ev,oAh,r',er,DA⟩:=hA j rfl
   subst er
   subst ev
   obtain⟨bc,oc,ha,hcc⟩:=ic.get (HJ ht)
   refine⟨bc,oc,ha,by omega,by omega,?_⟩
   repeat' (refine kr_ ?_)
   refine⟨_,by rw [Int.toNat_natCast];exact hcc,?_⟩
   refine Mr hM12 hm hc (oAh.mono (Hp.le_trans (Hp.le_trans lB l35) K12.le)) DA htm.1 (Oe g htm.2) ⟨_,rfl,aE rfl ?_⟩
   rw [aC (by omega)]
   exact hnx2 hcq.2.2 _ _ ⟨rfl,rfl⟩
  ·refine ap (fun J=>J false) (aE rfl ?_) (fun J hJ=>?_)
   rotate_left
   ·refine ac (fun e1=>ac (fun e2=>?_) (fun _=>hJ)) (fun _=>hJ)
    have e1':=of_decide_eq_true e1
    have e2':=of_decide_eq_true e2
    rw [decide_eq_false (by omega)];exact hJ
   repeat' (refine kr_ ?_)
   refine kw_ ?_
   intro h13 K13 _
   simp only [cA,List.set_cons_zero,List.set_cons_succ,Nat.zero_add,Nat.reduceAdd]at K13
   rw [aC (by omega)]
   refine hnx (by omega) _ _ ⟨g5,_,_,d2,B2.ns,rfl,lg5,K13,fun j hj=>?_⟩
   obtain rfl:i=j:=by omega
   exact⟨vL,o5,rL,eL,DL⟩
 ·refine ap (fun J=>J false) (aE rfl ?_) (fun J hJ=>?_)
  rotate_left
  ·refine ac (fun e1=>?_) (fun _=>hJ)
   have e1':=of_decide_eq_true e1
   rw [decide_eq_false (by omega)];exact hJ
  clear hnx
  have oA2:=oA.mono (Hp.le_trans lg K.le)
  refine ap (fun J=>J false h2) (aE rfl ?_) (fun J hJ=>?_)
  rotate_left
  ·refine ac (fun e1=>?_) (fun _=>hJ)
   have e1':=of_decide_eq_true e1
   obtain rfl:i=(aG m).nLay:=by omega
   repeat' (refine kr_ ?_)
   rw [vR,eR]
   refine jo oA2 DR ⟨_,rfl,?_⟩
   rw [show (aG m).reach=(aG m).seen (aG m).nLay from rfl,bne_self_eq_false]
   exact hJ
  repeat' (refine kr_ ?_)
  rw [show W ((((aG m).nLay-1:Nat):Int)+1)=(((aG m).nLay:Nat):Int) by rw [aC (by omega)];omega]
  obtain⟨okL,rL,vL,eL,DL⟩:=JK hc (aG m).nLay
  rw [if_neg (Nat.lt_irrefl _)]at DL
  refine r6 (hM9.mono (Hp.le_trans lg K.le)) hm fun d2 h3 l3 o3=>⟨_,_,_,_,rfl,?_⟩
  generalize gp m ((aG m).nLay:Nat)=B2 at*
  have o3':=o3.slc.mono (sub_le _ _)
  have K3:=K.mono l3
  clear K
  refine Kn.al K3 fun b234 h4 K4 l4 hb234=>?_
  clear K3
  refine kw_ ?_
  intro h5 K5 kp5
  simp only [cA,List.set_cons_zero,List.set_cons_succ,Nat.zero_add,Nat.reduceAdd]at K5
  have o5:=o3'.mono (cL hb234 l4 kp5)
  refine aM okL ?_
  repeat' (refine kr_ ?_)
  rw [vL,eL]
  refine jo o5 DL ⟨_,rfl,?_⟩
  rw [wt]
  exact fin _ (Hp.le_trans l19 (Hp.le_trans lg K5.le))
end Go.Lead
