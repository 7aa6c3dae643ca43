/- What functions of the program and of the reference come to, walked one by one, and plain laws about it: part 4. No condition is added to the statement. -/
import Derived.Test.YtlfhohhpeklnkaaGreatZ2
namespace Go.Lead
open Go
set_option linter.unusedSimpArgs false
set_option linter.unusedVariables false
set_option maxRecDepth 100000
set_option maxHeartbeats 1000000
theorem DM.addI {m:ai} {N:Nat} (d:DM m N) (x:BindP):DM {m with inits:=m.inits++ [x]} (N+1):=
 ⟨Nat.le_succ_of_le d.nodes,d.sorts,d.names,by have:=d.inits;simp;omega,Nat.le_succ_of_le d.nexts,Nat.le_succ_of_le d.bads,Nat.le_succ_of_le d.holds⟩
theorem DM.addE {m:ai} {N:Nat} (d:DM m N) (x:BindP):DM {m with nexts:=m.nexts++ [x]} (N+1):=
 ⟨Nat.le_succ_of_le d.nodes,d.sorts,d.names,Nat.le_succ_of_le d.inits,by have:=d.nexts;simp;omega,Nat.le_succ_of_le d.bads,Nat.le_succ_of_le d.holds⟩
theorem DM.addB {m:ai} {N:Nat} (d:DM m N) (x:Int):DM {m with bads:=m.bads++ [x]} (N+1):=
 ⟨Nat.le_succ_of_le d.nodes,d.sorts,d.names,Nat.le_succ_of_le d.inits,Nat.le_succ_of_le d.nexts,by have:=d.bads;simp;omega,Nat.le_succ_of_le d.holds⟩
theorem DM.addH {m:ai} {N:Nat} (d:DM m N) (x:Int):DM {m with holds:=m.holds++ [x]} (N+1):=
 ⟨Nat.le_succ_of_le d.nodes,d.sorts,d.names,Nat.le_succ_of_le d.inits,Nat.le_succ_of_le d.nexts,Nat.le_succ_of_le d.bads,by have:=d.holds;simp;omega⟩
theorem Ps {g h:Hp} {H X:List (Nat×Blk)} {b bn:Nat} {M:MSl} {m:ai} {nd:BindP} {J:Hp->Prop} (o:MG X M m) (K:Kn g h ((bn, .inl ⟨bindCells nd,2,false⟩)::(H++X))) (hm:m.inits.length<=10000) (hb:(b, .inl ⟨aw M,5,false⟩)∈H)
  (k: ∀s' X' h',MG X' {M with ini:=s'} {m with inits:=m.inits++ [nd]}->(∀H',Upd H b (.inl ⟨aw M,5,false⟩) (.inl ⟨aw {M with ini:=s'},5,false⟩) H'->Kn g h' (H'++X'))->J h'):
  ck h M.ini.a M.ini.n M.ini.c (some ⟨bn,0,none⟩) 1 2 16 fun a n c h95=> ∃(cs:List Value) (z:Nat),h95 b=some (.inl ⟨cs,z,false⟩)/\(0+1)+1<=List.length cs/\cu (h95.row b (cv cs (0+1) [.slice a n c]) z) fun h'=>J h':=by
 refine MG.appI (A:=_::H) (n:=nd) o K (by omega) (K.at (.head _)) fun s' X' h7 o' K7=>?_
 rw [List.cons_append]at K7
 have f:=K7.at (.tail _ (List.mem_append_left _ hb))
 exact⟨_,_,f,by simp,k s' X' _ o' fun H' u=>(K7.tl).set (u.app (X:=X'))⟩
theorem Pd {g h:Hp} {H X:List (Nat×Blk)} {b bn:Nat} {M:MSl} {m:ai} {nd:BindP} {J:Hp->Prop} (o:MG X M m) (K:Kn g h ((bn, .inl ⟨bindCells nd,2,false⟩)::(H++X))) (hm:m.nexts.length<=10000) (hb:(b, .inl ⟨aw M,5,false⟩)∈H)
  (k: ∀s' X' h',MG X' {M with nex:=s'} {m with nexts:=m.nexts++ [nd]}->(∀H',Upd H b (.inl ⟨aw M,5,false⟩) (.inl ⟨aw {M with nex:=s'},5,false⟩) H'->Kn g h' (H'++X'))->J h'):
  ck h M.nex.a M.nex.n M.nex.c (some ⟨bn,0,none⟩) 1 2 16 fun a n c h95=> ∃(cs:List Value) (z:Nat),h95 b=some (.inl ⟨cs,z,false⟩)/\(0+2)+1<=List.length cs/\cu (h95.row b (cv cs (0+2) [.slice a n c]) z) fun h'=>J h':=by
 refine MG.appE (A:=_::H) (n:=nd) o K (by omega) (K.at (.head _)) fun s' X' h7 o' K7=>?_
 rw [List.cons_append]at K7
 have f:=K7.at (.tail _ (List.mem_append_left _ hb))
 exact⟨_,_,f,by simp,k s' X' _ o' fun H' u=>(K7.tl).set (u.app (X:=X'))⟩
theorem Uj {g h:Hp} {H X:List (Nat×Blk)} {b bn:Nat} {M:MSl} {m:ai} {nd:Int} {J:Hp->Prop} (o:MG X M m) (K:Kn g h ((bn, .inl ⟨[I nd],1,false⟩)::(H++X))) (hm:m.bads.length<=10000) (hb:(b, .inl ⟨aw M,5,false⟩)∈H)
  (k: ∀s' X' h',MG X' {M with bad:=s'} {m with bads:=m.bads++ [nd]}->(∀H',Upd H b (.inl ⟨aw M,5,false⟩) (.inl ⟨aw {M with bad:=s'},5,false⟩) H'->Kn g h' (H'++X'))->J h'):
  ck h M.bad.a M.bad.n M.bad.c (some ⟨bn,0,none⟩) 1 1 8 fun a n c h95=> ∃(cs:List Value) (z:Nat),h95 b=some (.inl ⟨cs,z,false⟩)/\(0+3)+1<=List.length cs/\cu (h95.row b (cv cs (0+3) [.slice a n c]) z) fun h'=>J h':=by
 refine MG.appB (A:=_::H) (n:=nd) o K (by omega) (K.at (.head _)) fun s' X' h7 o' K7=>?_
 rw [List.cons_append]at K7
 have f:=K7.at (.tail _ (List.mem_append_left _ hb))
 exact⟨_,_,f,by simp,k s' X' _ o' fun H' u=>(K7.tl).set (u.app (X:=X'))⟩
theorem O6 {g h:Hp} {H X:List (Nat×Blk)} {b bn:Nat} {M:MSl} {m:ai} {nd:Int} {J:Hp->Prop} (o:MG X M m) (K:Kn g h ((bn, .inl ⟨[I nd],1,false⟩)::(H++X))) (hm:m.holds.length<=10000) (hb:(b, .inl ⟨aw M,5,false⟩)∈H)
  (k: ∀s' X' h',MG X' {M with hol:=s'} {m with holds:=m.holds++ [nd]}->(∀H',Upd H b (.inl ⟨aw M,5,false⟩) (.inl ⟨aw {M with hol:=s'},5,false⟩) H'->Kn g h' (H'++X'))->J h'):
  ck h M.hol.a M.hol.n M.hol.c (some ⟨bn,0,none⟩) 1 1 8 fun a n c h95=> ∃(cs:List Value) (z:Nat),h95 b=some (.inl ⟨cs,z,false⟩)/\(0+4)+1<=List.length cs/\cu (h95.row b (cv cs (0+4) [.slice a n c]) z) fun h'=>J h':=by
 refine MG.appH (A:=_::H) (n:=nd) o K (by omega) (K.at (.head _)) fun s' X' h7 o' K7=>?_
 rw [List.cons_append]at K7
 have f:=K7.at (.tail _ (List.mem_append_left _ hb))
 exact⟨_,_,f,by simp,k s' X' _ o' fun H' u=>(K7.tl).set (u.app (X:=X'))⟩
set_option maxHeartbeats 2000000 in
theorem OE {g h:Hp} {A X:List (Nat×Blk)} {B p N:Nat} {s:Sl} {bs:List Nat} {M:MSl} {m:ai} {R:Value->Hp->Prop} (K:Kn g h ((B,rdC s p)::(A++X))) (hb:ByteS g s bs) (o:MG X M m) (d:DM m N) (hN:N<=100)
  (hne:0<m.nodes.length) (hp:p<=100000)
  (k: ∀h' p' X' M' m',Kn g h' ((B,rdC s p')::(A++X'))->MG X' M' m'->DM m' (6*N)->0<m'.nodes.length->p'<=p+N*1000->R (aO M') h'):
  nW #[.pointer (some ⟨B,0,none⟩),aO M] h R:=by
 apply Bz
 refine uf_ ?_
 have hl:=o.lens
 have hsm:=d.small (by omega)
 have hdn:=d.nodes
 refine Kn.al K fun b8 h1 K1 l1 hb8=>?_
 refine Kn.al K1 fun b10 h2 K2 l2 hb10=>?_
 clear K K1 l1 l2 hb8 hb10
 (refine kr_ ?_)
 refine av m.nodes.length (fun i vs h'=> ∃q X' M' m',vs= [.pointer (some ⟨B,0,none⟩), .pointer (some ⟨b8,0,none⟩), .pointer (some ⟨b10,0,none⟩),I (M.no.n:Nat),I i]/\MG X' M' m'/\DM m' (N+5*i)/\m.nodes.length<=m'.nodes.length/\q<=p+i*1000/\
  Kn g h' ((b10, .inl ⟨da,5,false⟩)::(b8, .inl ⟨aw M',5,false⟩)::(B,rdC s q)::(A++X'))) ⟨p,X,M,m,rfl,o,d,Nat.le_refl _,by omega,K2⟩ ?_
 clear K2 h1 h2 h
 rintro i _ h4 nxt hi ⟨q,X',M',m',rfl,o',d',hle,hq,K4⟩ hnx
 refine⟨_,b8,0,b10,0,_,_,rfl,?_⟩
 have hl':=o'.lens
 have hdn':=d'.nodes
 have hsm':=d'.small (by omega)
 by_cases hlt:i<m.nodes.length
 rotate_left
 ·refine aD (by rw [decide_eq_false_iff_not];omega) ?_
  repeat' (refine kr_ ?_)
  refine CB K4 (by((focus ((repeat first|exact .head|apply Upd.tail);done)))) fun h6 K6=>?_
  exact k h6 q X' M' m' K6.tl.tl o' (d'.more (by omega)) (by omega) (by omega)
 refine aJ (by rw [decide_eq_true_eq];omega) ?_
 refine ap (fun J=> ∀h5 q X M1 m1,MG X M1 m1->DM m1 (N+5*(i+1))->m.nodes.length<=m1.nodes.length->q<=p+(i+1)*1000->Kn g h5 ((b10, .inl ⟨da,5,false⟩)::(b8, .inl ⟨aw M1,5,false⟩)::(B,rdC s q)::(A++X))->J (some ⟨B,0,none⟩) b8 0 b10 0 (M.no.n:Nat) i h5)
  (fun h5 q X M1 m1 o1 d1 hl1 hq1 K5=>?_) (fun J hJ=>?_)
 ·rw [aA (by omega)]
  exact hnx hlt _ _ ⟨q,X,M1,m1,rfl,o1,d1,hl1,hq1,K5⟩
 clear hnx
 have hs:=o'.modelS (A:=_::_::_::A) hsm' K4
 obtain⟨ni,hni⟩: ∃n,m'.nodes[i]?=some n:=⟨_,List.getElem?_eq_getElem (by omega)⟩
 have hst:=ra d' hni
 obtain⟨b,oo,ha,e0,e1,e2,e3,e4,e5,e6,e7,e8⟩:=hs.nodes.at hni
 (refine kr_ ?_)
 refine⟨b,oo,ha,by omega,by omega,_,by rw [Int.toNat_natCast];exact e0,?_⟩
 refine ac (fun _=>hJ h4 q X' M' m' o' (d'.more (by omega)) hle (by omega) K4) (fun hkn=>?_)
 (refine kr_ ?_)
 refine⟨b,oo,ha,by omega,by omega,_,by rw [Int.toNat_natCast];exact e6,_,by rw [Int.toNat_natCast];exact e7,?_⟩
 generalize ni.sort=st at*
 clear hkn e0 e1 e2 e3 e4 e5 e6 e7 e8 hs hni ha ni oo b
 refine Kn.al K4 fun b41 h5 K5 l5 hb5=>?_
 refine kw_ ?_
 intro h6 K6 kpz
 clear kpz
 have K6':Kn g h6 ((b41, .inl ⟨[I st.idx,I st.wid],2,false⟩)::(b10, .inl ⟨da,5,false⟩)::(b8, .inl ⟨aw M',5,false⟩)::(B,rdC s q)::(A++X')):=K6
 clear K6 K5 K4 l5 hb5
 obtain⟨_,hw1,hw2⟩:=kL hst
 refine kp_ ?_
 intro x49 h7 K7 hx49 _
 refine⟨_,rfl,?_⟩
 clear K6'
 refine ap (fun J2=> ∀h8 q2 X2 M2 m2,MG X2 M2 m2->DM m2 (N+5*i+2)->m.nodes.length<=m2.nodes.length->q2<=p+i*1000+2->Kn g h8 ((b41, .inl ⟨[I st.idx,I st.wid],2,false⟩)::(b10, .inl ⟨da,5,false⟩)::(b8, .inl ⟨aw M2,5,false⟩)::(B,rdC s q2)::(A++X2))->J2 h8)
  (fun h8 q2 X2 M2 m2 o2 d2 hl2 hq2 K8=>?_) (fun J2 hJ2=>?_)
 rotate_left
 ·refine ac (fun _=>?_) (fun _=>hJ2 h7 _ X' M' m' o' (d'.more (by omega)) hle (by omega) K7)
  refine ap (fun J3=> ∀h8 s2 X2 q2 nd,MG X2 {M' with no:=s2} {m' with nodes:=m'.nodes++ [nd]}->bQ nd.sort=true->nd.name.size=0->q2<=p+i*1000+2->
   Kn g h8 ((b41, .inl ⟨[I st.idx,I st.wid],2,false⟩)::(b10, .inl ⟨da,5,false⟩)::(b8, .inl ⟨aw {M' with no:=s2},5,false⟩)::(B,rdC s q2)::(A++X2))->J3 h8) (fun h8 s2 X2 q2 nd o2 hs2 hn2 hq2 K8=>?_) (fun J3 hJ3=>?_)
  ·have hdi:=d'.inits
   (refine kr_ ?_)
   (refine kr_ ?_)
   refine Kn.al K8 fun b104 h9 K9 l9 hb9=>?_
   refine Ps (H:=_::_::_::_::A) (nd:=⟨i,W ((s2.n:Int)-1)⟩) o2 K9 (by dsimp only;omega) (.tail _ (.tail _ (.head _))) fun s3 X3 h10 o3 KF=>?_
   have K10:=KF _ (by((focus ((repeat first|exact .head|apply Upd.tail);done))))
   simp only [List.cons_append]at K10
   clear KF K9 K8 K7
   refine hJ2 h10 q2 X3 _ _ o3 (((d'.addN hs2 (by omega)).addI _).more (by omega)) (by simp;omega) hq2 K10
  obtain⟨w,hw⟩: ∃w:Nat,st.wid=w:=⟨st.wid.toNat,by omega⟩
  have hp2:0<2^w:=Nat.two_pow_pos w
  have fin: ∀(y:Nat) (h5 h6:Hp) (q2 b:Nat),q2<=p+i*1000+2->
    Kn g h6 ((b, .inl ⟨[I 34,I 0,I 0,I 0,I (Int.tmod y (2^w:Nat)),I 0,I 0,I st.wid, .string ⟨#[]⟩],9,false⟩)::(b41, .inl ⟨[I st.idx,I st.wid],2,false⟩)::(b10, .inl ⟨da,5,false⟩)::(b8, .inl ⟨aw M',5,false⟩)::(B,rdC s q2)::(A++X'))->
    ck h6 M'.no.a M'.no.n M'.no.c (some (Addr.mk b 0 none)) 1 9 80 fun a92 n93 k94 h95=> ∃(cs96:List Value) (z97:Nat),h95 b8=some (.inl ⟨cs96,z97,false⟩)/\0+1<=List.length cs96/\cu (h95.row b8 (cv cs96 0 [(.slice a92 n93 k94)]) z97) fun h98=>J3 h98:=by
   intro y h5 h6 q2 b hq2 K6
   refine kX (H:=_::_::_::_::A) (nd:=⟨34,0,0,0,Int.tmod y (2^w:Nat),0,cy st.wid,⟨#[]⟩⟩) o' K6 (by omega) (.tail _ (.tail _ (.head _))) fun s2 X2 h8 o2 KF=>?_
   have K8:=KF _ (by((focus ((repeat first|exact .head|apply Upd.tail);done))))
   simp only [List.cons_append]at K8
   exact hJ3 h8 s2 X2 q2 _ o2 (nE hw1 hw2) rfl hq2 K8
  repeat' (refine kr_ ?_)
  refine⟨?_,?_⟩
  ·refine kp_ ?_
   intro y h8 K8 hy _
   refine⟨_,rfl,?_⟩
   repeat' (refine kr_ ?_)
   refine⟨?_,?_⟩
   ·repeat' (refine kr_ ?_)
    rw [hw,cl (by omega),if_neg (by omega),bD (by omega),if_neg (by omega),<-hw]
    refine ca ⟨_,_,rfl,?_⟩
    repeat' (refine kr_ ?_)
    refine Kn.al K8 fun b90 h9 K9 l9 hb90=>?_
    (refine kr_ ?_)
    exact fin y h8 h9 _ b90 (by omega) K9
   ·repeat' (refine kr_ ?_)
    refine ca ⟨_,_,rfl,?_⟩
    repeat' (refine kr_ ?_)
    rw [hw,cl (by omega),if_neg (by omega),bD (by omega),if_neg (by omega),<-hw]
    refine Kn.al K8 fun b90 h9 K9 l9 hb90=>?_
    (refine kr_ ?_)
    exact fin y h8 h9 _ b90 (by omega) K9
  ·repeat' (refine kr_ ?_)
   rw [hw,cl (by omega),if_neg (by omega),bD (by omega),<-hw]
   refine kp_ ?_
   intro y h8 K8 hy _
   refine⟨_,rfl,?_⟩
   repeat' (refine kr_ ?_)
   rw [if_neg (by omega)]
   refine ca ⟨_,_,rfl,?_⟩
   repeat' (refine kr_ ?_)
   refine Kn.al K8 fun b90 h9 K9 l9 hb90=>?_
   (refine kr_ ?_)
   exact fin y h8 h9 _ b90 (by omega) K9
 clear K7 h7 hsm' hdn' hl' hq d' o' hle X' M' m' q
 have hl':=o2.lens
 have hdn':=d2.nodes
 have hsm':=d2.small (by omega)
 refine kp_ ?_
 intro x118 h9 K9 _ _
 refine⟨_,rfl,?_⟩
 refine ac (fun _=>hJ h9 _ X2 M2 m2 o2 (d2.more (by omega)) hl2 (by omega) K9.tl) (fun _=>?_)
 clear K8
 refine av m2.nodes.length (fun j vs h'=> ∃(a q:Nat),vs= [.pointer (some ⟨B,0,none⟩), .pointer (some ⟨b8,0,none⟩), .pointer (some ⟨b10,0,none⟩),I (M.no.n:Nat),I i, .pointer (some ⟨b41,0,none⟩),I a,I j]/\a<m2.nodes.length/\q<=p+i*1000+3+j/\
  Kn g h' ((b41, .inl ⟨[I st.idx,I st.wid],2,false⟩)::(b10, .inl ⟨da,5,false⟩)::(b8, .inl ⟨aw M2,5,false⟩)::(B,rdC s q)::(A++X2))) ⟨i,_,rfl,by omega,by omega,K9⟩ ?_
 clear K9 h9 h8 hq2
 rintro j _ h8 nxt hj ⟨a,q,rfl,haL,hq,K8⟩ hnx
 refine⟨_,b8,0,b10,0,_,_,b41,0,_,_,rfl,?_⟩
 have hs:=o2.modelS (A:=_::_::_::_::A) hsm' K8
 (refine kr_ ?_)
 by_cases hlj:j<m2.nodes.length
 ·refine aJ (by rw [decide_eq_true_eq];omega) ?_
  refine ap (fun J3=> ∀(c:Nat) h5 q,c<m2.nodes.length->q<=p+i*1000+3+(j+1)->Kn g h5 ((b41, .inl ⟨[I st.idx,I st.wid],2,false⟩)::(b10, .inl ⟨da,5,false⟩)::(b8, .inl ⟨aw M2,5,false⟩)::(B,rdC s q)::(A++X2))->J3 (c:Int) h5) (fun c h5 q' hc hq' K5=>?_) (fun J3 hJ3=>?_)
  ·rw [aA (by omega)]
   exact hnx hlj _ _ ⟨c,q',rfl,hc,hq',K5⟩
  ·(refine kr_ ?_)
   obtain⟨nj,hnj⟩: ∃n,m2.nodes[j]?=some n:=⟨_,List.getElem?_eq_getElem hlj⟩
   obtain⟨b,oo,ha,e0,e1,e2,e3,e4,e5,e6,e7,e8⟩:=hs.nodes.at hnj
   refine⟨b,oo,ha,by omega,by omega,_,by rw [Int.toNat_natCast];exact e6,_,by rw [Int.toNat_natCast];exact e7,?_⟩
   (refine kr_ ?_)
   (refine kr_ ?_)
   refine ac (fun e=>?_) (fun e=>?_)
   ·(refine kr_ ?_)
    refine⟨b,oo,ha,by omega,by omega,_,by rw [Int.toNat_natCast];exact e0,?_⟩
    refine ac (fun e=>?_) (fun e=>?_)
    ·refine ac (fun e=>?_) (fun e=>?_)
     ·exact hJ3 _ h8 q hlj (by omega) K8
     refine kp_ ?_
     intro x h5 K5 hx _
     refine⟨_,rfl,?_⟩
     exact ac (fun e=>hJ3 _ h5 (q+1) hlj (by omega) K5) (fun e=>hJ3 _ h5 (q+1) haL (by omega) K5)
    ·exact hJ3 _ h8 q haL (by omega) K8
   ·exact hJ3 _ h8 q haL (by omega) K8
 refine aD (by rw [decide_eq_false_iff_not];omega) ?_
 clear hnx hs
 refine ap (fun J3=> ∀(c:Bool) h5 q,q<=p+i*1000+4+m2.nodes.length->Kn g h5 ((b41, .inl ⟨[I st.idx,I st.wid],2,false⟩)::(b10, .inl ⟨da,5,false⟩)::(b8, .inl ⟨aw M2,5,false⟩)::(B,rdC s q)::(A++X2))->J3 c h5) (fun c h5 q' hq' K5=>?_) (fun J3 hJ3=>?_)
 rotate_left
 ·refine ac (fun e=>?_) (fun e=>hJ3 _ h8 q (by omega) K8)
  repeat' (refine kr_ ?_)
  refine ac (fun e=>?_) (fun e=>hJ3 _ h8 q (by omega) K8)
  refine kp_ ?_
  intro x h5 K5 hx _
  exact⟨_,rfl,hJ3 _ h5 (q+1) (by omega) K5⟩
 clear K8 hq q h8
 refine ap (fun J3=> ∀(x:Int) h5 q X3 M3 m3,MG X3 M3 m3->DM m3 (N+5*i+4)->m.nodes.length<=m3.nodes.length->q<=p+i*1000+4+m2.nodes.length->Kn g h5 ((b41, .inl ⟨[I st.idx,I st.wid],2,false⟩)::(b10, .inl ⟨da,5,false⟩)::(b8, .inl ⟨aw M3,5,false⟩)::(B,rdC s q)::(A++X3))->J3 x h5)
  (fun x h6 q X3 M3 m3 o3 d3 hl3 hq3 K6=>?_) (fun J3 hJ3=>?_)
 ·have hde:=d3.nexts
  (refine kr_ ?_)
  refine Kn.al K6 fun b202 h9 K9 l9 hb9=>?_
  refine Pd (H:=_::_::_::_::A) (nd:=⟨i,x⟩) o3 K9 (by omega) (.tail _ (.tail _ (.head _))) fun s3 X4 h10 o4 KF=>?_
  have K10:=KF _ (by((focus ((repeat first|exact .head|apply Upd.tail);done))))
  simp only [List.cons_append]at K10
  exact hJ h10 q X4 _ _ o4 ((d3.addE _).more (by omega)) (by simp;omega) (by omega) K10.tl
 refine ac (fun e=>?_) (fun e=>hJ3 _ h5 q' X2 M2 m2 o2 (d2.more (by omega)) hl2 (by omega) K5)
 repeat' (refine kr_ ?_)
 refine Kn.al K5 fun b173 h6 K6 l6 hb6=>?_
 refine kX (H:=_::_::_::_::A) (nd:=⟨34,0,0,0,1,0,st,⟨#[]⟩⟩) o2 K6 (by omega) (.tail _ (.tail _ (.head _))) fun s3 X3 h7 o3 KF=>?_
 have K7:=KF _ (by((focus ((repeat first|exact .head|apply Upd.tail);done))))
 simp only [List.cons_append]at K7
 clear KF K6 K5
 repeat' (refine kr_ ?_)
 refine Kn.al K7 fun b187 h8 K8 l8 hb8=>?_
 refine kX (H:=_::_::_::_::A) (nd:=⟨9,i,W ((s3.n:Int)-1),0,0,0,st,⟨#[]⟩⟩) o3 K8 (by simp;omega) (.tail _ (.tail _ (.head _))) fun s4 X4 h9 o4 KF=>?_
 have K9:=KF _ (by((focus ((repeat first|exact .head|apply Upd.tail);done))))
 simp only [List.cons_append]at K9
 clear KF K8 K7
 repeat' (refine kr_ ?_)
 have dA:=d2.addN (n:=⟨34,0,0,0,1,0,st,⟨#[]⟩⟩) hst (show (0:Nat)<=100 by omega)
 have dB:=dA.addN (n:=⟨9,i,W ((s3.n:Int)-1),0,0,0,st,⟨#[]⟩⟩) hst (show (0:Nat)<=100 by omega)
 exact hJ3 _ h9 q' X4 _ _ o4 (dB.more (by omega)) (by simp;omega) (by omega) K9
inductive Pk {α:Type}:List α->α->List α->Prop
 |head {L:List α} {a:α}:Pk (a::L) a L
 |tail {L L':List α} {a e:α}:Pk L a L'->Pk (e::L) a (e::L')
theorem Pk.perm {α:Type} {L L':List α} {a:α} (u:Pk L a L'):L.Perm (a::L'):=by
 induction u with
 |head=>exact List.Perm.refl _
 |tail _ ih=>exact(List.Perm.cons _ ih).trans (List.Perm.swap ..)
abbrev ZF (w:Int):List NodeP:= [⟨36,0,0,0,0,0,⟨0,w⟩,⟨#[120]⟩⟩,⟨34,0,0,0,0,0,⟨0,w⟩,⟨#[]⟩⟩,⟨34,0,0,0,1,0,⟨0,w⟩,⟨#[]⟩⟩,⟨34,0,0,0,3,0,⟨0,w⟩,⟨#[]⟩⟩,⟨35,0,0,0,0,0,⟨0,1⟩,⟨#[103,111]⟩⟩,
 ⟨9,0,2,0,0,0,⟨0,w⟩,⟨#[]⟩⟩,⟨33,4,5,0,0,0,⟨0,w⟩,⟨#[]⟩⟩,⟨21,0,3,0,0,0,⟨0,1⟩,⟨#[]⟩⟩]
abbrev aak (w:Int):ai:=⟨ZF w, [⟨0,1⟩], [⟨0,6⟩], [7], []⟩
abbrev Z2 (w:Int):List Value:=(ZF w).flatMap nodeCells
set_option maxHeartbeats 4000000 in
theorem te {g h:Hp} {A:List (Nat×Blk)} {B p:Nat} {s:Sl} {bs:List Nat} {R:Value->Hp->Prop} (K:Kn g h ((B,rdC s p)::A)) (hb:ByteS g s bs) (hp:p<=900000)
  (k: ∀h' p' X' M' m',Kn g h' ((B,rdC s p')::(A++X'))->MG X' M' m'->DM m' 8->ax m'=0->0<m'.nodes.length->p'<=p+1->R (aO M') h'):
  fU #[.pointer (some ⟨B,0,none⟩)] h R:=by
 apply xe
 refine uf_ ?_
 refine Kn.al K fun b3 h1 K1 l1 hb3=>?_
 clear K l1 hb3
 refine kp_ ?_
 intro x h2 K2 hx _
 refine⟨_,rfl,?_⟩
 have hx':x<2:=by have:=hx (by omega);omega
 clear K1
 refine ca ⟨_,_,rfl,?_⟩
 refine Kn.al K2 fun b14 h3 K3 l3 hb14=>?_
 refine kw_ ?_
 intro h4 K4 kpz
 clear kpz
 obtain⟨w,hw,hw2⟩: ∃w:Int,W (2+(x:Int))=w/\(w=2\/w=3):=⟨_,rfl,by rw [bV (by omega) (by omega)];omega⟩
 rw [hw]at K4
 have K4':Kn g h4 ((b14, .inl ⟨[I 0,I w],2,false⟩)::(b3, .inl ⟨da,5,false⟩)::(B,rdC s (p+1))::A):=K4
 clear K4 K3 K2
 refine ap (fun J=> ∀h5 (bN bI bE bB:Nat),Kn g h5 ((bN, .inl ⟨Z2 w,72,false⟩)::(bI, .inl ⟨[I 0,I 1],2,false⟩)::(bE, .inl ⟨[I 0,I 6],2,false⟩)::(bB, .inl ⟨[I 7],1,false⟩)::(b14, .inl ⟨[I 0,I w],2,false⟩)::
   (b3, .inl ⟨aw ⟨⟨some ⟨bN,0,none⟩,8,8⟩,⟨some ⟨bI,0,none⟩,1,1⟩,⟨some ⟨bE,0,none⟩,1,1⟩,⟨some ⟨bB,0,none⟩,1,1⟩,⟨none,0,0⟩⟩,5,false⟩)::(B,rdC s (p+1))::A)->J h5) (fun h5 bN bI bE bB K5=>?_) (fun J hJ=>?_)
 ·clear K4'
  repeat' (refine kr_ ?_)
  have K6:=(K5.perm (List.perm_append_comm (l₁:= [_,_,_,_]) (l₂:=_::_::_::A))).tl.tl
  refine k h5 (p+1) _ ⟨⟨some ⟨bN,0,none⟩,8,8⟩,⟨some ⟨bI,0,none⟩,1,1⟩,⟨some ⟨bE,0,none⟩,1,1⟩,⟨some ⟨bB,0,none⟩,1,1⟩,⟨none,0,0⟩⟩ (aak w) K6 ?_ ?_ ?_ ?_ (Nat.le_refl _)
  ·exact⟨[_], [_], [_], [_], [],rfl,⟨rfl,Nat.le_refl _, .inr ⟨bN,rfl,rfl⟩⟩,⟨rfl,Nat.le_refl _, .inr ⟨bI,rfl,rfl⟩⟩,⟨rfl,Nat.le_refl _, .inr ⟨bE,rfl,rfl⟩⟩,⟨rfl,Nat.le_refl _, .inr ⟨bB,rfl,rfl⟩⟩,cE 1⟩
  ·refine⟨Nat.le_refl _,?_,?_,show (1:Nat)<=8 by omega,show (1:Nat)<=8 by omega,show (1:Nat)<=8 by omega,show (0:Nat)<=8 by omega⟩
   ·rcases hw2 with rfl|rfl<;>decide
   ·rcases hw2 with rfl|rfl<;>decide
  ·rcases hw2 with rfl|rfl<;>decide
  ·exact Nat.succ_pos _
 have leaf: ∀h5 L L1 L2 L3 (bN bI bE bB:Nat),Kn g h5 L->Pk L (bN, .inl ⟨Z2 w,72,false⟩) L1->Pk L1 (bI, .inl ⟨[I 0,I 1],2,false⟩) L2->Pk L2 (bE, .inl ⟨[I 0,I 6],2,false⟩) L3->
   Pk L3 (bB, .inl ⟨[I 7],1,false⟩) ((b14, .inl ⟨[I 0,I w],2,false⟩)::(b3, .inl ⟨da,5,false⟩)::(B,rdC s (p+1))::A)->
   ∃(cs:List Value) (z:Nat),h5 b3=some (.inl ⟨cs,z,false⟩)/\0+5<=List.length cs/\cu (h5.row b3 (cv cs 0 [.slice (some ⟨bN,0,none⟩) 8 8, .slice (some ⟨bI,0,none⟩) 1 1, .slice (some ⟨bE,0,none⟩) 1 1, .slice (some ⟨bB,0,none⟩) 1 1, .slice none 0 0]) z) fun h'=>J h':=by
  intro h5 L L1 L2 L3 bN bI bE bB K p1 p2 p3 p4
  have K':=K.perm (p1.perm.trans (List.Perm.cons _ (p2.perm.trans (List.Perm.cons _ (p3.perm.trans (List.Perm.cons _ p4.perm))))))
  refine jB (M':=⟨⟨some ⟨bN,0,none⟩,8,8⟩,⟨some ⟨bI,0,none⟩,1,1⟩,⟨some ⟨bE,0,none⟩,1,1⟩,⟨some ⟨bB,0,none⟩,1,1⟩,⟨none,0,0⟩⟩) K' (by((focus ((repeat first|exact .head|apply Upd.tail);done)))) rfl fun h6 K6=>?_
  exact hJ h6 bN bI bE bB K6
 clear k hJ hw2 hw hx' hx
 repeat' (refine kr_ ?_)
 repeat' first
  |(refine kr_ ?_)
  |refine ca ⟨_,_,rfl,?_⟩
  |((with_reducible apply Kn.al);(assumption);(intro b hN KN lN hbN))
  |(refine leaf _ _ _ _ _ _ _ _ _ (by assumption) (by((focus ((repeat first|exact .head|apply Pk.tail);done)))) (by((focus ((repeat first|exact .head|apply Pk.tail);done)))) (by((focus ((repeat first|exact .head|apply Pk.tail);done)))) (by((focus ((repeat first|exact .head|apply Pk.tail);done)))))
  |refine⟨?_,?_⟩
theorem Kn.subl {g h:Hp} {L L':List (Nat×Blk)} (K:Kn g h L) (s:L'.Sublist L):Kn g h L':=K.sub (fun e he=>s.subset he) (List.Nodup.sublist (s.map _) K.nd)
theorem EU {g h:Hp} {L:List (Nat×Blk)} {s:Sl} {bs:List Nat} {R:Value->Hp->Prop} (K:Kn g h L) (hcap:s.n<=s.c) (hs:ByteS g s bs)
  (k: ∀B h' s' bs',ByteS g s' bs'->Kn g h' ((B,rdC s' 0)::L)->R (.pointer (some ⟨B,0,none⟩)) h'):gL #[s.v] h R:=by
 apply wm
 refine uf_ ?_
 have hl:=hs.len
 refine ac (fun e=>?_) (fun e=>?_)
 ·have e':2000<s.n:=by simp at e;omega
  obtain⟨b,o,ha,hc⟩:=SlC.get hs.1 (by omega)
  refine⟨by simp,by simp,by omega, .inr ⟨b,o,ha,?_⟩⟩
  refine Kn.al K fun B h1 K1 l1 hB=>?_
  have e0:(if s.c=(Int.ofNat 0).toNat then o else o+(Int.ofNat 0).toNat*1)=o:=by split<;>simp
  rw [e0]at K1
  refine k B h1 ⟨some ⟨b,o,none⟩,2000,s.c⟩ (bs.take 2000) ?_ K1
  refine⟨⟨by simp,by simp;omega, .inr ⟨b,o,rfl,?_⟩⟩,fun x hx=>hs.2 x (List.mem_of_mem_take hx)⟩
  intro i v hv
  refine hc i v ?_
  rw [List.map_take,List.getElem?_take]at hv
  split at hv
  ·exact hv
  ·cases hv
 ·refine Kn.al K fun B h1 K1 l1 hB=>?_
  exact k B h1 s bs hs K1
theorem w9 {α:Type} (a b c:α) (L:List α):(a::b::c::L).Perm (c::a::b::L):=(List.Perm.cons a (List.Perm.swap c b L)).trans (List.Perm.swap c a _)
set_option maxHeartbeats 2000000 in
theorem Gn {g h:Hp} {A:List (Nat×Blk)} {B p:Nat} {s:Sl} {bs:List Nat} {R:Value->Hp->Prop} (K:Kn g h ((B,rdC s p)::A)) (hb:ByteS g s bs) (hp:p<=10000)
  (k: ∀h' p' X' M' m',Kn g h' ((B,rdC s p')::(A++X'))->MG X' M' m'->DM m' 400->ax m'=0->0<m'.nodes.length->p'<=p+100000->R (aO M') h'):
  kc #[.pointer (some ⟨B,0,none⟩)] h R:=by
 apply Aq
 refine uf_ ?_
 refine Kn.al K fun b3 h1 K1 l1 hb3=>?_
 clear K l1 hb3
 refine kp_ ?_
 intro x h2 K2 _ _
 refine⟨_,rfl,?_⟩
 clear K1
 refine Kq (A:=(b3, .inl ⟨da,5,false⟩)::A) K2.sw hb (by omega) fun h3 p3 X3 M3 m3 K3 o3 d3 n3 hp3=>⟨_,_,_,_,_,rfl,?_⟩
 replace K3:Kn g h3 ((b3, .inl ⟨da,5,false⟩)::(B,rdC s p3)::(A++X3)):=K3.sw
 clear K2
 refine Kn.al K3 fun b16 h4 K4 l4 hb16=>?_
 clear K3 l4 hb16
 refine jB (M':=M3) K4 (by((focus ((repeat first|exact .head|apply Upd.tail);done)))) rfl fun h5 K5=>?_
 clear K4
 refine kp_ ?_
 intro n h6 K6 hn _
 refine⟨_,rfl,?_⟩
 replace hn:n<14:=by have:=hn (by omega);omega
 clear K5
 refine av n (fun i vs h'=> ∃q X' M' m',vs= [.pointer (some ⟨B,0,none⟩), .pointer (some ⟨b3,0,none⟩), .pointer (some ⟨b16,0,none⟩),I n,I i]/\MG X' M' m'/\DM m' (12+3*i)/\0<m'.nodes.length/\q<=p+100+i*20/\
  Kn g h' ((b16, .inl ⟨aw M',5,false⟩)::(b3, .inl ⟨da,5,false⟩)::(B,rdC s q)::(A++X'))) ⟨p3+1,X3,M3,m3,rfl,o3,d3,n3,by omega,K6⟩ ?_
 clear K6 hp3 n3 d3 o3 m3 M3 X3 p3 h6 h5 h4 h3 h2 h1 h
 rintro i _ h4 nxt hi ⟨q,X',M',m',rfl,o',d',hle,hq,K4⟩ hnx
 refine⟨_,b3,0,b16,0,_,_,rfl,?_⟩
 by_cases hlt:i<n
 ·refine aJ (by rw [decide_eq_true_eq];omega) ?_
  repeat' (refine kr_ ?_)
  refine Oi (A:=(b16, .inl ⟨aw M',5,false⟩)::(b3, .inl ⟨da,5,false⟩)::A) (K4.perm (w9 _ _ _ _)) hb o' d' (by omega) hle (by omega) fun h5 q5 X5 M5 m5 K5 o5 d5 n5 hq5=>⟨_,_,_,_,_,rfl,?_⟩
  replace K5:=K5.perm (w9 _ _ _ _).symm
  refine jB (M':=M5) K5 (by((focus ((repeat first|exact .head|apply Upd.tail);done)))) rfl fun h6 K6=>?_
  rw [aA (by omega)]
  exact hnx hlt _ _ ⟨q5,X5,M5,m5,rfl,o5,d5.more (by omega),n5,by omega,K6⟩
 refine aD (by rw [decide_eq_false_iff_not];omega) ?_
 clear hnx
 repeat' (refine kr_ ?_)
 refine OE (N:=51) (A:=(b16, .inl ⟨aw M',5,false⟩)::(b3, .inl ⟨da,5,false⟩)::A) (K4.perm (w9 _ _ _ _)) hb o' (d'.more (by omega)) (by omega) hle (by omega) fun h5 q5 X5 M5 m5 K5 o5 d5 n5 hq5=>⟨_,_,_,_,_,rfl,?_⟩
 replace K5:=K5.perm (w9 _ _ _ _).symm
 clear K4
 refine jB (M':=M5) K5 (by((focus ((repeat first|exact .head|apply Upd.tail);done)))) rfl fun h6 K6=>?_
 clear K5
 refine kp_ ?_
 intro x76 h7 K7 hx76 _
 refine⟨_,rfl,?_⟩
 clear K6
 refine kp_ ?_
 intro x80 h8 K8 _ _
 refine⟨_,rfl,?_⟩
 clear K7
 refine ap (fun J=> ∀c:Nat,c<=2->J (c:Int)) (fun c hc=>?_) (fun J hJ=>?_)
 rotate_left
 ·refine ac (fun _=>hJ 0 (by omega)) (fun _=>?_)
  have:=hx76 (by omega)
  rw [show (1:Int)+(x76:Nat)=((1+x76:Nat):Int) by omega,et (by omega)]
  exact hJ _ (by omega)
 refine av c (fun i vs h'=> ∃q X' M' m',vs= [.pointer (some ⟨B,0,none⟩), .pointer (some ⟨b3,0,none⟩), .pointer (some ⟨b16,0,none⟩),I c,I i]/\MG X' M' m'/\DM m' (306+4*i)/\0<m'.nodes.length/\q<=p+51500+i*2000/\
  Kn g h' ((b16, .inl ⟨aw M',5,false⟩)::(b3, .inl ⟨da,5,false⟩)::(B,rdC s q)::(A++X'))) ⟨_,X5,M5,m5,rfl,o5,d5,n5,by omega,K8⟩ ?_
 clear K8 hq5 n5 d5 o5 m5 M5 X5 q5 h8 h7 h6 h5 hq d' o' hle hx76 hlt hi
 clear M' m' X' q h4 nxt i
 rintro i _ h4 nxt hi ⟨q,X',M',m',rfl,o',d',hle,hq,K4⟩ hnx
 refine⟨_,b3,0,b16,0,_,_,rfl,?_⟩
 by_cases hlt:i<c
 ·refine aJ (by rw [decide_eq_true_eq];omega) ?_
  repeat' (refine kr_ ?_)
  refine Jp (A:=(b16, .inl ⟨aw M',5,false⟩)::(b3, .inl ⟨da,5,false⟩)::A) (K4.perm (w9 _ _ _ _)) hb o' d' (by omega) hle (by omega) fun h5 q5 X5 M5 m5 i5 K5 o5 d5 hi5 hl5 hq5=>⟨_,_,_,_,_,_,rfl,?_⟩
  replace K5:=K5.perm (w9 _ _ _ _).symm
  clear K4
  refine jB (M':=M5) K5 (by((focus ((repeat first|exact .head|apply Upd.tail);done)))) rfl fun h6 K6=>?_
  clear K5
  have hdb:=d5.bads
  (refine kr_ ?_)
  refine Kn.al K6 fun b119 h7 K7 l7 hb7=>?_
  refine Uj (H:=_::_::_::A) (nd:=(i5:Nat)) o5 K7 (by omega) (.head _) fun s8 X8 h8 o8 KF=>?_
  have K8:=KF _ (by((focus ((repeat first|exact .head|apply Upd.tail);done))))
  simp only [List.cons_append]at K8
  rw [aA (by omega)]
  exact hnx hlt _ _ ⟨q5,X8,_,_,rfl,o8,(d5.addB _).more (by omega),by dsimp only;omega,by omega,K8⟩
 refine aD (by rw [decide_eq_false_iff_not];omega) ?_
 clear hnx
 refine kp_ ?_
 intro x132 h5 K5 _ _
 refine⟨_,rfl,?_⟩
 clear K4
 refine ap (fun J=> ∀h5 q X' M' m',MG X' M' m'->DM m' 400->0<m'.nodes.length->q<=p+60000->Kn g h5 ((b16, .inl ⟨aw M',5,false⟩)::(b3, .inl ⟨da,5,false⟩)::(B,rdC s q)::(A++X'))->J h5)
  (fun h5 q X' M' m' o' d' hle hq K5=>?_) (fun J hJ=>?_)
 ·have hs:=o'.modelS (A:=_::_::_::A) (d'.small (by omega)) K5
  repeat' (refine kr_ ?_)
  refine aX hs (d'.small (by omega)) ⟨_,rfl,?_⟩
  refine ac (fun e=>?_) (fun e=>?_)
  ·refine te (A:=(b3, .inl ⟨da,5,false⟩)::(A++X')) K5.tl.sw hb (by omega) fun h6 q6 X6 M6 m6 K6 o6 d6 c6 n6 hq6=>⟨_,_,_,_,_,rfl,?_⟩
   replace K6:Kn g h6 ((b3, .inl ⟨da,5,false⟩)::(B,rdC s q6)::((A++X')++X6)):=K6.sw
   refine CB (M:=M6) K6 (by((focus ((repeat first|exact .head|apply Upd.tail);done)))) fun h7 K7=>?_
   refine k h7 q6 X6 M6 m6 (K7.tl.subl ?_) o6 (d6.more (by omega)) c6 n6 (by omega)
   exact List.Sublist.cons_cons _ (List.Sublist.append_right (List.sublist_append_left _ _) _)
  ·repeat' (refine kr_ ?_)
   refine CB (M:=M') K5 (by((focus ((repeat first|exact .head|apply Upd.tail);done)))) fun h7 K7=>?_
   exact k h7 q X' M' m' K7.tl.tl o' d' (by simpa using e) hle (by omega)
 refine ac (fun e=>?_) (fun e=>hJ _ _ _ _ _ o' (d'.more (by omega)) hle (by omega) K5)
 repeat' (refine kr_ ?_)
 refine Jp (A:=(b16, .inl ⟨aw M',5,false⟩)::(b3, .inl ⟨da,5,false⟩)::A) (K5.perm (w9 _ _ _ _)) hb o' d' (by omega) hle (by omega) fun h6 q6 X6 M6 m6 i6 K6 o6 d6 hi6 hl6 hq6=>⟨_,_,_,_,_,_,rfl,?_⟩
 replace K6:=K6.perm (w9 _ _ _ _).symm
 clear K5
 refine jB (M':=M6) K6 (by((focus ((repeat first|exact .head|apply Upd.tail);done)))) rfl fun h7 K7=>?_
 clear K6
 refine kp_ ?_
 intro x155 h8 K8 _ _
 refine⟨_,rfl,?_⟩
 clear K7
 refine ap (fun J2=> ∀(y:Int) h5 q X' M' m',MG X' M' m'->DM m' 330->0<m'.nodes.length->q<=p+60000->Kn g h5 ((b16, .inl ⟨aw M',5,false⟩)::(b3, .inl ⟨da,5,false⟩)::(B,rdC s q)::(A++X'))->J2 y h5)
  (fun y h9 q9 X9 M9 m9 o9 d9 hle9 hq9 K9=>?_) (fun J2 hJ2=>?_)
 ·have hdh:=d9.holds
  (refine kr_ ?_)
  refine Kn.al K9 fun b119 h10 K10 l10 hb10=>?_
  refine O6 (H:=_::_::_::A) (nd:=y) o9 K10 (by omega) (.head _) fun s8 X8 h8 o8 KF=>?_
  have K11:=KF _ (by((focus ((repeat first|exact .head|apply Upd.tail);done))))
  simp only [List.cons_append]at K11
  exact hJ _ _ _ _ _ o8 ((d9.addH _).more (by omega)) (by dsimp only;omega) (by omega) K11
 refine ac (fun e=>?_) (fun e=>hJ2 _ _ _ _ _ _ o6 (d6.more (by omega)) (by omega) (by omega) K8)
 have hdn:=d6.nodes
 (refine kr_ ?_)
 refine ca ⟨_,_,rfl,?_⟩
 repeat' (refine kr_ ?_)
 refine Kn.al K8 fun b163 h9 K9 l9 hb9=>?_
 (refine kr_ ?_)
 refine kX (H:=_::_::_::A) (nd:=⟨1,(i6:Nat),0,0,0,0,cy 1,⟨#[]⟩⟩) o6 K9 (by omega) (.head _) fun s10 X10 h10 o10 KF=>?_
 have K10:=KF _ (by((focus ((repeat first|exact .head|apply Upd.tail);done))))
 simp only [List.cons_append]at K10
 clear K9 K8
 repeat' (refine kr_ ?_)
 have dA:=d6.addN (n:=⟨1,(i6:Nat),0,0,0,0,cy 1,⟨#[]⟩⟩) (nE (by omega) (by omega)) (show (0:Nat)<=100 by omega)
 exact hJ2 _ _ _ _ _ _ o10 (dA.more (by omega)) (by simp) (by omega) K10
theorem wB {h:Hp} {s t:Sl} {xs:List Int} {R:Value->Hp->Prop} (hs:IntS h s xs) (ht:IntS h t xs) (k:R (.bool true) h):j3 #[s.v,t.v] h R:=by
 refine yQ ?_
 refine uf_ ?_
 have ls:=hs.len
 have lt:=ht.len
 have hb:=hs.bound
 refine aD (by simp [ls,lt]) ?_
 refine av xs.length (fun i vs h'=>vs= [s.v,t.v,I i]/\h'=h) ⟨rfl,rfl⟩ ?_
 rintro i _ _ next hi ⟨rfl,rfl⟩ hn
 refine⟨_,_,_,rfl,?_⟩
 by_cases hlt:i<xs.length
 ·obtain⟨b,o,ha,hc⟩:=hs.at hlt
  obtain⟨b',o',ha',hc'⟩:=ht.at hlt
  refine aJ (by simp [ls,hlt]) ?_
  simp only [vm,ls,lt,ha,ha',hc,hc',aA (n:=i) (by omega)]
  exact⟨by omega,by omega,aD (by simp) (hn hlt _ _ ⟨rfl,rfl⟩)⟩
 ·exact aD (by simp [ls];omega) k
theorem qQ {h:Hp} {sS sI tS tI:Sl} {xs ys:List Int} {R:Value->Hp->Prop} (h1:IntS h sS xs/\IntS h sI ys) (h2:IntS h tS xs/\IntS h tI ys) (k:R (.bool true) h):jb #[.agg #[sS.v,sI.v], .agg #[tS.v,tI.v]] h R:=by
 refine ACalls.drop (Fy ?_)
 refine uf_ ?_
 have K0:=Kn.nil h
 (with_reducible apply Kn.al);(assumption);(intro b6 h3 K1 l1 hb6)
 (with_reducible apply Kn.al);(assumption);(intro b8 h4 K2 l2 hb8)
 clear K1 K0
 repeat' (refine kr_ ?_)
 refine wB (h1.1.mono K2.le) (h2.1.mono K2.le) ⟨_,rfl,aJ rfl ?_⟩
 repeat' (refine kr_ ?_)
 refine wB (h1.2.mono K2.le) (h2.2.mono K2.le) ⟨_,rfl,⟨h,K2.le,k⟩⟩
theorem T4 : ∀(vs xs ys:List Value) (o:Nat),cv (xs++ys) (xs.length+o) vs=xs++cv ys o vs:=by
 intro vs
 induction vs with
 |nil=>intro xs ys o;rfl
 |cons v vs ih=>intro xs ys o;rw [oV,oV,List.set_append_right (xs.length+o) v (by omega),Nat.add_sub_cancel_left,Nat.add_assoc,ih]
theorem Q9 : ∀(vs xs ys:List Value) (o:Nat),o+vs.length<=xs.length->cv (xs++ys) o vs=cv xs o vs++ys:=by
 intro vs
 induction vs with
 |nil=>intro xs ys o _;rfl
 |cons v vs ih=>
  intro xs ys o h
  rw [List.length_cons]at h
  rw [oV,oV,List.set_append_left o v (by omega),ih _ _ _ (by rw [List.length_set];omega)]
theorem QJ {off:Nat} {vs:List Value} {n n':NodeP} (hv:cv (nodeCells n) off vs=nodeCells n') (ho:off+vs.length<=9): ∀{l:List NodeP} {i:Nat},l[i]?=some n->cv (l.flatMap nodeCells) (i*9+off) vs=(l.set i n').flatMap nodeCells:=by
 intro l
 induction l with
 |nil=>intro i h;simp at h
 |cons a l ih=>
  intro i h
  cases i with
  |zero=>
   have:a=n:=by simpa using h
   subst this
   rw [List.set_cons_zero,List.flatMap_cons,List.flatMap_cons,Nat.zero_mul,Nat.zero_add,Q9 _ _ _ _ (by show _<=9;exact ho),hv]
  |succ i=>
   have h':l[i]?=some n:=by simpa using h
   rw [List.set_cons_succ,List.flatMap_cons,List.flatMap_cons,show (i+1)*9+off=(nodeCells a).length+(i*9+off) by show _=9+_;omega,T4,ih h']
theorem Upd.appL {L L':List (Nat×Blk)} {b:Nat} {x y:Blk} (u:Upd L b x y L'): ∀A:List (Nat×Blk),Upd (A++L) b x y (A++L')
 | []=>u
 |_::A=> .tail (u.appL A)
theorem sF {g h:Hp} {A X:List (Nat×Blk)} {M:MSl} {m:ai} {i off k:Nat} {n n':NodeP} {vs:List Value} {F:Nat->Nat} {J:Hp->Prop} (o:MG X M m) (K:Kn g h (A++X)) (hni:m.nodes[i]?=some n)
  (hv:cv (nodeCells n) off vs=nodeCells n') (hk:vs.length=k) (ho:off+k<=9) (hF:F 0=i*9+off)
  (J': ∀X' h',MG X' M {m with nodes:=m.nodes.set i n'}->Kn g h' (A++X')->J h'):
  ∃(b p:Nat),M.no.a=some ⟨b,p,none⟩/\(0:Int)<=(i:Nat)/\((i:Nat):Int)<((M.no.n:Nat):Int)/\ ∃(cs:List Value) (z:Nat),h b=some (.inl ⟨cs,z,false⟩)/\F p+k<=List.length cs/\cu (h.row b (cv cs (F p) vs) z) fun h'=>J h':=by
 have hi:=get_lt hni
 have hl:=o.lens
 obtain⟨XN,XI,XE,XB,XH,rfl,a,b',c,d,e⟩:=o
 rcases a.2.2 with ⟨_,h0,_⟩|⟨b,ha,rfl⟩
 ·rw [h0]at hl;have:=hl.1;dsimp only at this;omega
 subst hk
 have hc:cv (m.nodes.flatMap nodeCells) (F 0) vs=(m.nodes.set i n').flatMap nodeCells:=by rw [hF];exact QJ hv ho hni
 refine⟨b,0,ha,by omega,by omega,?_⟩
 refine Kn.wr (cs:=m.nodes.flatMap nodeCells) (z:=M.no.c*9) (o:=F 0) (vs:=vs) K (L':=A++([(b, .inl ⟨(m.nodes.set i n').flatMap nodeCells,M.no.c*9,false⟩)]++(XI++(XE++(XB++(XH++ [])))))) (by rw [hc];exact Upd.appL .head A) (by rw [hF,a.1];omega) fun h' K' _=>?_
 exact J' _ h' ⟨_,XI,XE,XB,XH,rfl,⟨by rw [iJ (m:=9) (fun _=>rfl),List.length_set];omega,a.2.1, .inr ⟨b,ha,rfl⟩⟩,b',c,d,e⟩ K'
structure DZ (m:ai) (N:Nat):Prop where
 nodes:m.nodes.length<=N
 names: ∀n∈m.nodes,n.name.size<=100
 inits:m.inits.length<=N
 nexts:m.nexts.length<=N
 bads:m.bads.length<=N
 holds:m.holds.length<=N
theorem DM.z {m:ai} {N:Nat} (d:DM m N):DZ m N:=⟨d.nodes,d.names,d.inits,d.nexts,d.bads,d.holds⟩
theorem DZ.small {m:ai} {N:Nat} (d:DZ m N) (hN:N<=100000):bW m:=
 ⟨by have:=d.nodes;omega,by have:=d.inits;omega,by have:=d.nexts;omega,by have:=d.bads;omega,by have:=d.holds;omega,fun n hn=>by have:=d.names n hn;omega⟩
theorem DZ.more {m:ai} {N N':Nat} (d:DZ m N) (h:N<=N'):DZ m N':=
 ⟨Nat.le_trans d.nodes h,d.names,Nat.le_trans d.inits h,Nat.le_trans d.nexts h,Nat.le_trans d.bads h,Nat.le_trans d.holds h⟩
theorem DZ.addN {m:ai} {N:Nat} (d:DZ m N) {n:NodeP} (h2:n.name.size<=100):DZ {m with nodes:=m.nodes++ [n]} (N+1):=
 ⟨by have:=d.nodes;simp;omega,fun x hx=>by rcases List.mem_append.1 hx with hx|hx;exact d.names x hx;rw [List.mem_singleton.1 hx];exact h2,
  Nat.le_succ_of_le d.inits,Nat.le_succ_of_le d.nexts,Nat.le_succ_of_le d.bads,Nat.le_succ_of_le d.holds⟩
theorem DZ.set {m:ai} {N i:Nat} (d:DZ m N) {n:NodeP} (h2:n.name.size<=100):DZ {m with nodes:=m.nodes.set i n} N:=
 ⟨by have:=d.nodes;simp;omega,fun x hx=>by rcases List.mem_or_eq_of_mem_set hx with hx|rfl;exact d.names x hx;exact h2,d.inits,d.nexts,d.bads,d.holds⟩
theorem DZ.addI {m:ai} {N:Nat} (d:DZ m N) (x:BindP):DZ {m with inits:=m.inits++ [x]} (N+1):=
 ⟨Nat.le_succ_of_le d.nodes,d.names,by have:=d.inits;simp;omega,Nat.le_succ_of_le d.nexts,Nat.le_succ_of_le d.bads,Nat.le_succ_of_le d.holds⟩
theorem DZ.addE {m:ai} {N:Nat} (d:DZ m N) (x:BindP):DZ {m with nexts:=m.nexts++ [x]} (N+1):=
 ⟨Nat.le_succ_of_le d.nodes,d.names,Nat.le_succ_of_le d.inits,by have:=d.nexts;simp;omega,Nat.le_succ_of_le d.bads,Nat.le_succ_of_le d.holds⟩
theorem DZ.addB {m:ai} {N:Nat} (d:DZ m N) (xs:List Int) (hx:xs.length<=N):DZ {m with bads:=m.bads++xs} (2*N):=
 ⟨by have:=d.nodes;dsimp only;omega,d.names,by have:=d.inits;dsimp only;omega,by have:=d.nexts;dsimp only;omega,by have:=d.bads;simp;omega,by have:=d.holds;dsimp only;omega⟩
theorem DZ.addH {m:ai} {N:Nat} (d:DZ m N) (x:Int):DZ {m with holds:=m.holds++ [x]} (N+1):=
 ⟨Nat.le_succ_of_le d.nodes,d.names,Nat.le_succ_of_le d.inits,Nat.le_succ_of_le d.nexts,Nat.le_succ_of_le d.bads,by have:=d.holds;simp;omega⟩
theorem MG.appBs {g h:Hp} {A X:List (Nat×Blk)} {M:MSl} {m:ai} {xs:List Int} {src:Option Addr} {C:Option Addr->Nat->Nat->Hp->Prop} (o:MG X M m) (K:Kn g h (A++X)) (hm:m.bads.length+xs.length<=100000) (hx:0<xs.length)
  (f: ∃b p,src=some ⟨b,p,none⟩/\gO h b p (xs.map I))
  (k: ∀s' X' h',MG X' {M with bad:=s'} {m with bads:=m.bads++xs}->Kn g h' (A++X')->C s'.a s'.n s'.c h'):ck h M.bad.a M.bad.n M.bad.c src xs.length 1 8 C:=by
 have hl:=o.lens
 obtain⟨XN,XI,XE,XB,XH,rfl,a,b',c,d,e⟩:=o
 have sw: ∀Z:List (Nat×Blk),A++(XN++(XI++(XE++(Z++(XH++ [])))))=(A++(XN++XI))++(XE++(Z++(XH++ []))):=fun Z=>by simp
 rw [sw]at K
 refine Kn.growIn2 (news:=xs.map I) K d hx (by omega) (by omega) f (by simp) (List.all_eq_true.2 fun v hv=>by obtain⟨y,_,rfl⟩:=List.mem_map.1 hv;rfl) fun s' X' h' hn a' K' _=>?_
 rw [<-sw]at K'
 exact k s' _ h' ⟨XN,XI,XE,X',XH,rfl,a,b',c,by rw [List.map_append];exact a',e⟩ K'
abbrev ZK :List Value:= [.string ⟨#[120]⟩, .string ⟨#[]⟩, .string ⟨#[88]⟩, .string ⟨#[116,111,111,108,111,110,103,110,97,109,101]⟩]
theorem Zk {i:Nat} (h:i<4): ∃s:ByteArray,ZK[i]?=some (.string s)/\s.size<=100:=by
 rcases i with _|_|_|_|i
 ·exact⟨_,rfl,by decide⟩
 ·exact⟨_,rfl,by decide⟩
 ·exact⟨_,rfl,by decide⟩
 ·exact⟨_,rfl,by decide⟩
 ·omega
theorem VR {h:Hp} {A X:List (Nat×Blk)} {g:Hp} {M:MSl} {m:ai} (o:MG X M m) (K:Kn g h (A++X)) (hm:m.bads.length<=100000) (hp:0<m.bads.length): ∃b p,M.bad.a=some ⟨b,p,none⟩/\gO h b p (m.bads.map I):=by
 have hl:=o.lens
 obtain⟨XN,XI,XE,XB,XH,rfl,a,b',c,d,e⟩:=o
 have:=(d.slcOf (h:=h) (by omega) fun x hx=>K.mem x (List.mem_append_right _ (by simp [hx])))
 exact SlC.get this (by omega)
theorem Oq {g h:Hp} {H X:List (Nat×Blk)} {b:Nat} {M:MSl} {m:ai} {N:Nat} {J:Hp->Prop} (o:MG X M m) (d:DZ m N) (hN:N<=10000) (K:Kn g h (H++X)) (hb:(b, .inl ⟨aw M,5,false⟩)∈H)
  (k: ∀s' X' h' m',MG X' {M with bad:=s'} m'->DZ m' (2*N)->(∀H',Upd H b (.inl ⟨aw M,5,false⟩) (.inl ⟨aw {M with bad:=s'},5,false⟩) H'->Kn g h' (H'++X'))->J h'):
  ck h M.bad.a M.bad.n M.bad.c M.bad.a M.bad.n 1 8 fun a n c h95=> ∃(cs:List Value) (z:Nat),h95 b=some (.inl ⟨cs,z,false⟩)/\3+1<=List.length cs/\cu (h95.row b (cv cs 3 [.slice a n c]) z) fun h'=>J h':=by
 have hl:=o.lens
 have hd:=d.bads
 by_cases h0:m.bads.length=0
 ·have hc:M.bad.n<=M.bad.c:=by obtain⟨_,_,_,_,_,_,_,_,_,d',_⟩:=o;exact d'.2.1
  refine .inl ⟨by omega,hc,?_⟩
  have f:=K.at (List.mem_append_left _ hb)
  exact⟨_,_,f,by simp,k M.bad X _ m o (d.more (by omega)) fun H' u=>K.set (u.app (X:=X))⟩
 have e:M.bad.n=m.bads.length:=by omega
 have key:=MG.appBs (xs:=m.bads) (C:=fun a n c h95=> ∃(cs:List Value) (z:Nat),h95 b=some (.inl ⟨cs,z,false⟩)/\3+1<=List.length cs/\cu (h95.row b (cv cs 3 [.slice a n c]) z) fun h'=>J h') o K (by omega) (by omega) (VR o K (by omega) (by omega)) fun s' X' h7 o' K7=>by
  have f:=K7.at (List.mem_append_left _ hb)
  exact⟨_,_,f,by simp,k s' X' _ _ o' (d.addB _ d.bads) fun H' u=>K7.set (u.app (X:=X'))⟩
 rw [<-e]at key
 exact key
set_option maxHeartbeats 4000000 in
theorem sg {g h:Hp} {A:List (Nat×Blk)} {B p:Nat} {s:Sl} {bs:List Nat} {R:Value->Hp->Prop} (K:Kn g h ((B,rdC s p)::A)) (hb:ByteS g s bs) (hp:p<=10000)
  (k: ∀h' p' X' M' m',Kn g h' ((B,rdC s p')::(A++X'))->MG X' M' m'->DZ m' 4000->p'<=p+200000->R (aO M') h'):
  fD #[.pointer (some ⟨B,0,none⟩)] h R:=by
 apply zF
 refine uf_ ?_
 refine Kn.al K fun b3 h1 K1 l1 hb3=>?_
 clear K l1 hb3
 refine Gn (A:=(b3, .inl ⟨da,5,false⟩)::A) K1.sw hb hp fun h2 p2 X2 M2 m2 K2 o2 d2 c2 n2 hp2=>⟨_,_,_,_,_,rfl,?_⟩
 replace K2:Kn g h2 ((b3, .inl ⟨da,5,false⟩)::(B,rdC s p2)::(A++X2)):=K2.sw
 refine Kn.al K2 fun b13 h3 K3 l3 hb13=>?_
 clear K2 l3 hb13
 refine jB (M':=M2) K3 (by((focus ((repeat first|exact .head|apply Upd.tail);done)))) rfl fun h4 K4=>?_
 clear K3
 refine kp_ ?_
 intro x21 h5 K5 _ _
 refine⟨_,rfl,?_⟩
 clear K4
 refine ap (fun J=> ∀h5 q X M m,MG X M m->DZ m 400->0<m.nodes.length->q<=p+100002->Kn g h5 ((b13, .inl ⟨aw M,5,false⟩)::(b3, .inl ⟨da,5,false⟩)::(B,rdC s q)::(A++X))->J h5)
  (fun hz q X M m o d hne hq Kz=>?_) (fun J hJ=>?_)
 rotate_left
 ·refine ac (fun _=>?_) (fun _=>hJ h5 _ X2 M2 m2 o2 d2.z n2 (by omega) K5)
  refine te (A:=(b13, .inl ⟨aw M2,5,false⟩)::(b3, .inl ⟨da,5,false⟩)::(A++X2)) (K5.perm (w9 _ _ _ _)) hb (by omega) fun h6 q6 X6 M6 m6 K6 o6 d6 c6 n6 hq6=>⟨_,_,_,_,_,rfl,?_⟩
  have K6':Kn g h6 ((b13, .inl ⟨aw M2,5,false⟩)::(b3, .inl ⟨da,5,false⟩)::(B,rdC s q6)::((A++X2)++X6)):=K6.perm (w9 _ _ _ _).symm
  clear K5 K6
  refine jB (M':=M6) K6' (by((focus ((repeat first|exact .head|apply Upd.tail);done)))) rfl fun h7 K7=>?_
  refine hJ h7 q6 X6 M6 m6 o6 (d6.z.more (by omega)) n6 (by omega) (K7.subl ?_)
  exact List.Sublist.cons_cons _ (List.Sublist.cons_cons _ (List.Sublist.cons_cons _ (List.Sublist.append_right (List.sublist_append_left _ _) _)))
 clear K5 K1 o2 d2 c2 n2 hp2 m2 M2 X2 p2
 have hl:=o.lens
 have hnl:=d.nodes
 refine kp_ ?_
 intro x38 h6 K6 _ _
 refine⟨_,rfl,?_⟩
 clear Kz
 refine ac (fun _=>?_) (fun _=>?_)
 ·repeat' (refine kr_ ?_)
  refine CB (M:=M) K6 (by((focus ((repeat first|exact .head|apply Upd.tail);done)))) fun h7 K7=>?_
  exact k h7 _ X M m K7.tl.tl o (d.more (by omega)) (by omega)
 repeat' (refine kr_ ?_)
 refine kp_ ?_
 intro a h7 K7 ha _
 refine⟨_,rfl,?_⟩
 replace ha:a<m.nodes.length:=by have:=ha (by omega);omega
 clear K6
 refine kp_ ?_
 intro x62 h8 K8 _ _
 refine⟨_,rfl,?_⟩
 clear K7
 refine ap (fun J=> ∀h5 q X M m,MG X M m->DZ m 4000->q<=p+200000->Kn g h5 ((b13, .inl ⟨aw M,5,false⟩)::(b3, .inl ⟨da,5,false⟩)::(B,rdC s q)::(A++X))->J b3 0 b13 0 h5)
  (fun h5 q X M m o d hq K5=>?_) (fun J hJ=>?_)
 ·repeat' (refine kr_ ?_)
  refine CB (M:=M) K5 (by((focus ((repeat first|exact .head|apply Upd.tail);done)))) fun h7 K7=>?_
  exact k h7 _ X M m K7.tl.tl o d (by omega)
 clear k
 obtain⟨n,hna⟩: ∃n,m.nodes[a]?=some n:=⟨_,List.getElem?_eq_getElem ha⟩
 have hnm:=d.names n (List.mem_of_getElem? hna)
 have dset: ∀n':NodeP,n'.name.size<=100->DZ {m with nodes:=m.nodes.set a n'} 4000:=fun n' h=>(d.set h).more (by omega)
 refine ac (fun _=>?_) (fun _=>ac (fun _=>?_) (fun _=>ac (fun _=>?_) (fun _=>ac (fun _=>?_) (fun _=>ac (fun _=>?_) (fun _=>ac (fun _=>?_) (fun _=>ac (fun _=>?_) (fun _=>ac (fun _=>?_) (fun _=>ac (fun _=>?_) (fun _=>ac (fun _=>?_) (fun _=>ac (fun _=>?_) (fun _=>ac (fun _=>?_) (fun _=>ac (fun _=>?_) (fun _=>ac (fun _=>?_) (fun _=>?_))))))))))))))
 ·(refine kr_ ?_)
  refine kp_ ?_
  intro x h9 K9 _ _
  refine⟨_,rfl,?_⟩
  (refine kr_ ?_)
  refine sF (A:=_::_::_::A) (n':={n with kind:=W ((x:Int)-1)}) (off:=0) o K9 hna rfl rfl (by omega) (by rw [Int.toNat_natCast];omega) fun X' h10 o' K10=>?_
  exact hJ h10 _ X' M _ o' (dset _ hnm) (by omega) K10
 ·(refine kr_ ?_)
  (refine kr_ ?_)
  rw [bV (by omega) (by omega)]
  refine kp_ ?_
  intro x h9 K9 _ _
  refine⟨_,rfl,?_⟩
  (refine kr_ ?_)
  refine sF (A:=_::_::_::A) (n':={n with a:=W ((x:Int)-1)}) (off:=1) o K9 hna rfl rfl (by omega) (by rw [Int.toNat_natCast];omega) fun X' h10 o' K10=>?_
  exact hJ h10 _ X' M _ o' (dset _ hnm) (by omega) K10
 ·(refine kr_ ?_)
  refine kp_ ?_
  intro x h9 K9 _ _
  refine⟨_,rfl,?_⟩
  (refine kr_ ?_)
  refine sF (A:=_::_::_::A) (n':={n with n:=W ((x:Int)-2)}) (off:=4) o K9 hna rfl rfl (by omega) (by rw [Int.toNat_natCast];omega) fun X' h10 o' K10=>?_
  exact hJ h10 _ X' M _ o' (dset _ hnm) (by omega) K10
 ·(refine kr_ ?_)
  refine kp_ ?_
  intro x h9 K9 _ _
  refine⟨_,rfl,?_⟩
  (refine kr_ ?_)
  refine sF (A:=_::_::_::A) (n':={n with sort:=⟨n.sort.idx,W ((x:Int)-1)⟩}) (off:=7) o K9 hna rfl rfl (by omega) (by rw [Int.toNat_natCast];omega) fun X' h10 o' K10=>?_
  exact hJ h10 _ X' M _ o' (dset _ hnm) (by omega) K10
 ·(refine kr_ ?_)
  refine⟨?_,?_⟩
  ·refine Kn.al K8 fun b111 h9 K9 l9 hb9=>?_
   (refine kr_ ?_)
   refine kp_ ?_
   intro x h10 K10 hx _
   refine⟨_,rfl,?_⟩
   replace hx:x<4:=by have:=hx (by omega);omega
   obtain⟨t,ht,hz⟩:=Zk hx
   repeat' (refine kr_ ?_)
   refine⟨by omega,by omega,t,by rw [aq (K10.at (.head _)),Int.toNat_natCast,Nat.zero_add,Nat.mul_one];exact ht,?_⟩
   refine sF (A:=_::_::_::_::A) (n':={n with name:=t}) (off:=8) o K10 hna rfl rfl (by omega) (by rw [Int.toNat_natCast];omega) fun X' h11 o' K11=>?_
   exact hJ h11 _ X' M _ o' (dset _ hz) (by omega) K11.tl
  ·refine kp_ ?_
   intro x h9 K9 hx _
   refine⟨_,rfl,?_⟩
   replace hx:x<4:=by have:=hx (by omega);omega
   obtain⟨t,ht,hz⟩:=Zk hx
   (refine kr_ ?_)
   refine Kn.al K9 fun b111 h10 K10 l10 hb10=>?_
   repeat' (refine kr_ ?_)
   refine⟨by omega,by omega,t,by rw [aq (K10.at (.head _)),Int.toNat_natCast,Nat.zero_add,Nat.mul_one];exact ht,?_⟩
   refine sF (A:=_::_::_::_::A) (n':={n with name:=t}) (off:=8) o K10 hna rfl rfl (by omega) (by rw [Int.toNat_natCast];omega) fun X' h11 o' K11=>?_
   exact hJ h11 _ X' M _ o' (dset _ hz) (by omega) K11.tl
 ·(refine kr_ ?_)
  refine ca ⟨_,_,rfl,?_⟩
  (refine kr_ ?_)
  obtain⟨n0,hn0⟩: ∃n,m.nodes[0]?=some n:=⟨_,List.getElem?_eq_getElem hne⟩
  refine sF (A:=_::_::_::A) (i:=0) (n':={n0 with sort:=cy 9}) (off:=6) o K8 hn0 rfl rfl (by omega) rfl fun X' h10 o' K10=>?_
  exact hJ h10 _ X' M _ o' ((DZ.set (i:=0) (n:={n0 with sort:=cy 9}) d (d.names n0 (List.mem_of_getElem? hn0))).more (by omega)) (by omega) K10
 ·have hdi:=d.inits
  (refine kr_ ?_)
  refine Kn.al K8 fun b9 h9 K9 l9 hb9=>?_
  refine Ps (H:=_::_::_::A) (nd:=⟨0,(a:Nat)⟩) o K9 (by omega) (.head _) fun s' X' h10 o' KF=>?_
  have K10:=KF _ (by((focus ((repeat first|exact .head|apply Upd.tail);done))))
  simp only [List.cons_append]at K10
  exact hJ h10 _ X' _ _ o' ((d.addI _).more (by omega)) (by omega) K10
 ·have hde:=d.nexts
  (refine kr_ ?_)
  (refine kr_ ?_)
  refine kp_ ?_
  intro x h9 K9 _ _
  refine⟨_,rfl,?_⟩
  (refine kr_ ?_)
  refine Kn.al K9 fun b9 h10 K10 l10 hb10=>?_
  (refine kr_ ?_)
  refine Pd (H:=_::_::_::A) (nd:=⟨(x:Nat),(a:Nat)⟩) o K10 (by omega) (.head _) fun s' X' h11 o' KF=>?_
  have K11:=KF _ (by((focus ((repeat first|exact .head|apply Upd.tail);done))))
  simp only [List.cons_append]at K11
  exact hJ h11 _ X' _ _ o' ((d.addE _).more (by omega)) (by omega) K11
 ·have hdb:=d.bads
  (refine kr_ ?_)
  (refine kr_ ?_)
  rw [bV (by omega) (by omega)]
  refine kp_ ?_
  intro x h9 K9 _ _
  refine⟨_,rfl,?_⟩
  (refine kr_ ?_)
  refine Kn.al K9 fun b9 h10 K10 l10 hb10=>?_
  (refine kr_ ?_)
  refine Uj (H:=_::_::_::A) (nd:=W ((x:Int)-1)) o K10 (by omega) (.head _) fun s' X' h11 o' KF=>?_
  have K11:=KF _ (by((focus ((repeat first|exact .head|apply Upd.tail);done))))
  simp only [List.cons_append]at K11
  exact hJ h11 _ X' _ _ o' ((d.addB [_] (by simp)).more (by omega)) (by omega) K11
 ·have hdh:=d.holds
  (refine kr_ ?_)
  refine Kn.al K8 fun b9 h9 K9 l9 hb9=>?_
  refine O6 (H:=_::_::_::A) (nd:=(a:Nat)) o K9 (by omega) (.head _) fun s' X' h10 o' KF=>?_
  have K10:=KF _ (by((focus ((repeat first|exact .head|apply Upd.tail);done))))
  simp only [List.cons_append]at K10
  exact hJ h10 _ X' _ _ o' ((d.addH _).more (by omega)) (by omega) K10
 ·(refine kr_ ?_)
  (refine kr_ ?_)
  refine Oq (H:=_::_::_::A) o d (by omega) K8 (.head _) fun s' X' h9 m' o' d' KF=>?_
  have K9:=KF _ (by((focus ((repeat first|exact .head|apply Upd.tail);done))))
  simp only [List.cons_append]at K9
  clear KF K8
  (refine kr_ ?_)
  (refine kr_ ?_)
  refine Oq (H:=_::_::_::A) o' d' (by omega) K9 (.head _) fun s2 X2 h10 m2 o2 d2 KF=>?_
  have K10:=KF _ (by((focus ((repeat first|exact .head|apply Upd.tail);done))))
  simp only [List.cons_append]at K10
  clear KF K9
  (refine kr_ ?_)
  (refine kr_ ?_)
  refine Oq (H:=_::_::_::A) o2 d2 (by omega) K10 (.head _) fun s3 X3 h11 m3 o3 d3 KF=>?_
  have K11:=KF _ (by((focus ((repeat first|exact .head|apply Upd.tail);done))))
  simp only [List.cons_append]at K11
  exact hJ h11 _ X3 _ _ o3 (d3.more (by omega)) (by omega) K11
 ·refine av 62 (fun i vs h'=> ∃q X M m',vs= [.pointer (some ⟨B,0,none⟩), .pointer (some ⟨b3,0,none⟩), .pointer (some ⟨b13,0,none⟩)]/\MG X M m'/\DZ m' (400+i)/\m'.nodes.length=m.nodes.length+i/\q<=p+100010+i/\
   Kn g h' ((b13, .inl ⟨aw M,5,false⟩)::(b3, .inl ⟨da,5,false⟩)::(B,rdC s q)::(A++X))) ⟨_,X,M,m,rfl,o,d,rfl,by omega,K8⟩ ?_
  clear K8
  rintro i _ h9 nxt hi ⟨q',X',M',m',rfl,o',d',hl',hq',K9⟩ hnx
  refine⟨_,b3,0,b13,0,rfl,?_⟩
  have hn':=o'.lens
  (refine kr_ ?_)
  refine kp_ ?_
  intro x h10 K10 hx _
  refine⟨_,rfl,?_⟩
  replace hx:x<2:=by have:=hx (by omega);omega
  (refine kr_ ?_)
  rw [bV (by omega) (by omega)]
  refine ac (fun e=>?_) (fun e=>hJ h10 _ X' M' m' o' (d'.more (by omega)) (by omega) K10)
  have e:=of_decide_eq_true e
  clear K9
  (refine kr_ ?_)
  refine ca ⟨_,_,rfl,?_⟩
  (refine kr_ ?_)
  refine Kn.al K10 fun b9 h11 K11 l11 hb11=>?_
  (refine kr_ ?_)
  refine kX (H:=_::_::_::A) (nd:=⟨34,0,0,0,0,0,cy 3,⟨#[]⟩⟩) o' K11 (by omega) (.head _) fun s' X3 h12 o3 KF=>?_
  have K12:=KF _ (by((focus ((repeat first|exact .head|apply Upd.tail);done))))
  simp only [List.cons_append]at K12
  exact hnx (by omega) _ _ ⟨_,X3,_,_,rfl,o3,d'.addN (n:=⟨34,0,0,0,0,0,cy 3,⟨#[]⟩⟩) (show (0:Nat)<=100 by omega),by simp;omega,by omega,K12⟩
 ·(refine kr_ ?_)
  refine kp_ ?_
  intro x h9 K9 _ _
  refine⟨_,rfl,?_⟩
  (refine kr_ ?_)
  refine sF (A:=_::_::_::A) (n':={n with sort:=⟨(x:Nat),n.sort.wid⟩}) (off:=6) o K9 hna rfl rfl (by omega) (by rw [Int.toNat_natCast];omega) fun X' h10 o' K10=>?_
  exact hJ h10 _ X' M _ o' (dset _ hnm) (by omega) K10
 ·(refine kr_ ?_)
  refine ca ⟨_,_,rfl,?_⟩
  (refine kr_ ?_)
  refine Kn.al K8 fun b9 h11 K11 l11 hb11=>?_
  (refine kr_ ?_)
  refine kX (H:=_::_::_::A) (nd:=⟨35,0,0,0,0,0,cy 4,⟨#[119,105,100,101]⟩⟩) o K11 (by omega) (.head _) fun s' X3 h12 o3 KF=>?_
  have K12:=KF _ (by((focus ((repeat first|exact .head|apply Upd.tail);done))))
  simp only [List.cons_append]at K12
  exact hJ h12 _ X3 _ _ o3 ((d.addN (n:=⟨35,0,0,0,0,0,cy 4,⟨#[119,105,100,101]⟩⟩) (show (4:Nat)<=100 by omega)).more (by omega)) (by omega) K12
 ·exact hJ h8 _ X M m o (d.more (by omega)) (by omega) K8
theorem ja {h:Hp} {M:MSl} {m:ai} {R:Value->Hp->Prop} (hs:aN h M m) (hm:bW m) (hc:ax m=0)
  (k:R (.tuple #[I (ak m.nodes 36),I (ak m.nodes 35)]) h):dU #[aO M] h R:=by
 refine ACalls.drop (ug ?_)
 refine uf_ ?_
 have K0:=Kn.nil h
 (with_reducible apply Kn.al);(assumption);(intro b7 h1 K1 l1 hb7)
 clear K0
 have hs1:=hs.mono K1.le
 repeat' (refine kr_ ?_)
 refine aX hs1 hm ⟨_,rfl,?_⟩
 refine aD (by rw [hc];rfl) ?_
 repeat' (refine kr_ ?_)
 refine fZ hs1 hm ⟨_,rfl,?_⟩
 repeat' (refine kr_ ?_)
 refine fZ hs1 hm ⟨_,rfl,?_⟩
 exact⟨h,K1.le,k⟩
theorem nk {h:Hp} {M:MSl} {m:ai} {x:Int} {R:Value->Hp->Prop} (hs:aN h M m) (hm:bW m) (hc:ax m=0)
  (kf: ∀h',¬(0<=x/\x<(2^ak m.nodes 36:Nat))->h.le h'->R (.tuple #[.slice none 0 0, .bool false]) h')
  (kt: ∀(c:Nat) out h',x=c->c<2^ak m.nodes 36->h.le h'->IntSS h' out ((gj m.nodes (stP m) c).map VL)->R (.tuple #[Sl.v out, .bool true]) h'):ek #[aO M,I x] h R:=by
 apply xu
 refine uf_ ?_
 have g:=co hc
 have n8:=g.n8
 have hp2:2^ak m.nodes 36<=2^8:=Nat.pow_le_pow_right (by omega) n8
 have hp0:0<2^ak m.nodes 36:=Nat.two_pow_pos _
 have K0:=Kn.nil h
 (with_reducible apply Kn.al);(assumption);(intro b8 h1 K1 l1 hb8)
 clear K0
 have hs1:=hs.mono K1.le
 refine ap (fun J=>J (!decide (0<=x/\x<=((2^ak m.nodes 36:Nat):Int)-1)) h1) ?_ (fun J hJ=>?_)
 rotate_left
 ·repeat' (refine kr_ ?_)
  refine aX hs1 hm ⟨_,rfl,?_⟩
  refine aD (by rw [hc];rfl) ?_
  repeat' (refine kr_ ?_)
  refine fZ hs1 hm ⟨_,rfl,?_⟩
  rw [cl (by omega),if_neg (by omega),bD (by omega),bV (by omega) (by omega)]
  exact dx ⟨_,rfl,hJ⟩
 refine ac (fun e=>kf h1 (fun q=>by
  have e':decide (0<=x/\x<=((2^ak m.nodes 36:Nat):Int)-1)=false:=by rw [Bool.not_eq_true']at e;exact e
  have:=of_decide_eq_false e'
  omega) K1.le) (fun e=>?_)
 have hx:0<=x/\x<(2^ak m.nodes 36:Nat):=by
  have:decide (0<=x/\x<=((2^ak m.nodes 36:Nat):Int)-1)=true:=by simpa using e
  have:=of_decide_eq_true this
  omega
 clear e kf
 obtain⟨c,rfl⟩: ∃c:Nat,x=c:=⟨x.toNat,by omega⟩
 repeat' (refine kr_ ?_)
 refine cO hs1 hm fun t h2 l2 it=>⟨_,rfl,?_⟩
 have K2:=K1.mono l2
 (refine kr_ ?_)
 refine fM (hs1.mono l2) hm g.ok it (fun p hp=>mu hp) (iw g 36) (by omega) (by rw [fu g];omega) fun out h3 l3 io=>⟨_,rfl,?_⟩
 exact kt c out h3 rfl (by omega) (Hp.le_trans K2.le l3) io
theorem u5 {h:Hp} {M:MSl} {m:ai} {x:Int} {R:Value->Hp->Prop} (hs:aN h M m) (hm:bW m) (hc:ax m=0)
  (kf: ∀h',¬(0<=x/\x<(2^ak m.nodes 35:Nat))->h.le h'->R (.tuple #[.slice none 0 0, .bool false]) h')
  (kt: ∀(c:Nat) out h',x=c->c<2^ak m.nodes 35->h.le h'->IntSS h' out ((gj m.nodes (inP m) c).map VL)->R (.tuple #[Sl.v out, .bool true]) h'):gQ #[aO M,I x] h R:=by
 apply GL
 refine uf_ ?_
 have g:=co hc
 have n8:=g.k5
 have hp2:2^ak m.nodes 35<=2^5:=Nat.pow_le_pow_right (by omega) n8
 have hp0:0<2^ak m.nodes 35:=Nat.two_pow_pos _
 have K0:=Kn.nil h
 (with_reducible apply Kn.al);(assumption);(intro b8 h1 K1 l1 hb8)
 clear K0
 have hs1:=hs.mono K1.le
 refine ap (fun J=>J (!decide (0<=x/\x<=((2^ak m.nodes 35:Nat):Int)-1)) h1) ?_ (fun J hJ=>?_)
 rotate_left
 ·repeat' (refine kr_ ?_)
  refine aX hs1 hm ⟨_,rfl,?_⟩
  refine aD (by rw [hc];rfl) ?_
  repeat' (refine kr_ ?_)
  refine fZ hs1 hm ⟨_,rfl,?_⟩
  rw [cl (by omega),if_neg (by omega),bD (by omega),bV (by omega) (by omega)]
  exact dx ⟨_,rfl,hJ⟩
 refine ac (fun e=>kf h1 (fun q=>by
  have e':decide (0<=x/\x<=((2^ak m.nodes 35:Nat):Int)-1)=false:=by rw [Bool.not_eq_true']at e;exact e
  have:=of_decide_eq_false e'
  omega) K1.le) (fun e=>?_)
 have hx:0<=x/\x<(2^ak m.nodes 35:Nat):=by
  have:decide (0<=x/\x<=((2^ak m.nodes 35:Nat):Int)-1)=true:=by simpa using e
  have:=of_decide_eq_true this
  omega
 clear e kf
 obtain⟨c,rfl⟩: ∃c:Nat,x=c:=⟨x.toNat,by omega⟩
 repeat' (refine kr_ ?_)
 refine cO hs1 hm fun t h2 l2 it=>⟨_,rfl,?_⟩
 have K2:=K1.mono l2
 (refine kr_ ?_)
 refine fM (hs1.mono l2) hm g.ok it (fun p hp=>mu hp) (iw g 35) (by omega) (by rw [EP g];omega) fun out h3 l3 io=>⟨_,rfl,?_⟩
 exact kt c out h3 rfl (by omega) (Hp.le_trans K2.le l3) io
def vA (m:ai) (xs ys:List Int):Bool:=
 (decide (ax m=0)&&(decide (1<=(xs.length:Int)/\(xs.length:Int)<=301)&&decide (ys.length=xs.length)))&&(xs.all (jt (ak m.nodes 36))&&ys.all (jt (ak m.nodes 35)))
theorem Cs {h:Hp} {M:MSl} {m:ai} {sS sI:Sl} {xs ys:List Int} {R:Value->Hp->Prop} (hs:aN h M m) (hm:bW m) (h1:IntS h sS xs) (h2:IntS h sI ys)
  (k:R (.bool (vA m xs ys)) h):k8 #[.agg #[sS.v,sI.v],aO M] h R:=by
 refine ACalls.drop (yG ?_)
 refine uf_ ?_
 have K0:=Kn.nil h
 (with_reducible apply Kn.al);(assumption);(intro b9 g1 K1 l1 hb9)
 (with_reducible apply Kn.al);(assumption);(intro b11 g2 K2 l2 hb11)
 clear K1 K0
 have hs2:=hs.mono K2.le
 have ls:=h1.len
 have lt:=h2.len
 unfold vA at k
 repeat' (refine kr_ ?_)
 refine k9 hs2 hm ⟨_,rfl,?_⟩
 refine ac (fun e=>?_) (fun e=>?_)
 rotate_left
 ·repeat' (refine kr_ ?_)
  rw [decide_eq_false (fun q=>by rw [q]at e;simp at e)]at k
  exact⟨h,K2.le,k⟩
 have hc:ax m=0:=by simpa using e
 have g:=co hc
 have n8:=g.n8
 have k5:=g.k5
 rw [decide_eq_true hc,Bool.true_and]at k
 repeat' (refine kr_ ?_)
 rw [ls]
 refine fv ⟨_,rfl,ac (fun e=>?_) (fun e=>?_)⟩
 rotate_left
 ·repeat' (refine kr_ ?_)
  rw [e]at k
  exact⟨h,K2.le,k⟩
 rw [e,Bool.true_and]at k
 repeat' (refine kr_ ?_)
 refine ac (fun e=>?_) (fun e=>?_)
 rotate_left
 ·repeat' (refine kr_ ?_)
  rw [decide_eq_false (fun q=>by rw [lt,q,ls]at e;simp at e)]at k
  exact⟨h,K2.le,k⟩
 rw [decide_eq_true (show ys.length=xs.length by have:=of_decide_eq_true e;omega),Bool.true_and]at k
 repeat' (refine kr_ ?_)
 refine eP hs2 hm ⟨_,rfl,?_⟩
 repeat' (refine kr_ ?_)
 refine vh (h1.mono K2.le) (by omega) ⟨_,rfl,ac (fun e=>?_) (fun e=>?_)⟩
 rotate_left
 ·repeat' (refine kr_ ?_)
  rw [e]at k
  exact⟨h,K2.le,k⟩
 rw [e,Bool.true_and]at k
 repeat' (refine kr_ ?_)
 refine eP hs2 hm ⟨_,rfl,?_⟩
 repeat' (refine kr_ ?_)
 exact vh (h2.mono K2.le) (by omega) ⟨_,rfl,⟨h,K2.le,k⟩⟩
theorem ia {n:Nat} {x:Int}:jt n x=true↔0<=x/\x<(2^n:Nat):=by
 unfold jt
 rw [decide_eq_true_eq];omega
theorem Dw {h:Hp} {M:MSl} {m:ai} {x:Int} {R:Value->Hp->Prop} (hs:aN h M m) (hm:bW m) (hc:ax m=0)
  (k: ∀s h',h.le h'->R (.tuple #[Sl.v s, .bool (jt (ak m.nodes 36) x)]) h'):ek #[aO M,I x] h R:=by
 refine nk hs hm hc (fun h' e l=>?_) (fun c out h' e hlt l io=>?_)
 ·have:=k ⟨none,0,0⟩ h' l
  rw [Bool.eq_false_iff.2 fun q=>e (ia.1 q)]at this
  exact this
 ·have:=k out h' l
  rw [ia.2 ⟨by omega,by omega⟩]at this
  exact this
theorem Dd {h:Hp} {M:MSl} {m:ai} {x:Int} {R:Value->Hp->Prop} (hs:aN h M m) (hm:bW m) (hc:ax m=0)
  (k: ∀s h',h.le h'->R (.tuple #[Sl.v s, .bool (jt (ak m.nodes 35) x)]) h'):gQ #[aO M,I x] h R:=by
 refine u5 hs hm hc (fun h' e l=>?_) (fun c out h' e hlt l io=>?_)
 ·have:=k ⟨none,0,0⟩ h' l
  rw [Bool.eq_false_iff.2 fun q=>e (ia.1 q)]at this
  exact this
 ·have:=k out h' l
  rw [ia.2 ⟨by omega,by omega⟩]at this
  exact this
theorem uw {α:Type} {l:List α} {p:α->Bool} {i:Nat} {x:α} (h:l[i]?=some x) (e:p x=false):l.all p=false:=by
 rw [Bool.eq_false_iff]
 intro q
 rw [List.all_eq_true.1 q x (List.mem_of_getElem? h)]at e;cases e
theorem Cx {α:Type} {l:List α} {p:α->Bool} {i:Nat} {x:α} (h:l[i]?=some x) (e:p x=true) (q:(l.take i).all p=true):(l.take (i+1)).all p=true:=by
 rw [List.take_add_one,h,List.all_append,q]
 simp [e]
theorem jo (m:ai) (ps:List Nat) (c:Nat):mA m.nodes ps (gj m.nodes ps c):=by rw [sJ];exact My _ _ _
abbrev cAt (xs:List Int) (i:Nat):Nat:=(xs.getD i 0).toNat
def L9 (m:ai) (xs ys:List Int) (i:Nat):Bool:=hG (stP m) (iV m (cK m (cAt xs i) (cAt ys i))) (gj m.nodes (stP m) (cAt xs (i+1))) (stP m).length
def S7 (m:ai) (xs ys:List Int) (i:Nat):Bool:=iP m (cK m (cAt xs i) (cAt ys i))
def ey (m:ai) (xs ys:List Int):Int:=
 if vA m xs ys=false then 1 else
 if hG (stP m) (eU m) (gj m.nodes (stP m) (cAt xs 0)) (stP m).length=false then 2 else
 if(List.range (xs.length-1)).all (L9 m xs ys)=false then 3 else
 if(List.range xs.length).all (S7 m xs ys)=false then 4 else
 if Ey m (cK m (cAt xs (xs.length-1)) (cAt ys (xs.length-1)))<0 then 5 else 0
theorem sj {m:ai} {xs ys:List Int} (h:vA m xs ys=true):ax m=0/\1<=xs.length/\xs.length<=301/\ys.length=xs.length/\
  (∀i,i<xs.length->xs[i]?=some ((cAt xs i:Nat):Int)/\cAt xs i<2^ak m.nodes 36)/\ ∀i,i<xs.length->ys[i]?=some ((cAt ys i:Nat):Int)/\cAt ys i<2^ak m.nodes 35:=by
 unfold vA at h
 simp only [Bool.and_eq_true,decide_eq_true_eq]at h
 obtain⟨⟨h1,⟨h2,h3⟩,h4⟩,h5,h6⟩:=h
 have key: ∀{n:Nat} {l:List Int},l.all (jt n)=true-> ∀i,i<l.length->l[i]?=some ((cAt l i:Nat):Int)/\cAt l i<2^n:=by
  intro n l ha i hi
  have e:l[i]?=some l[i]:=List.getElem?_eq_getElem hi
  have hb:=ia.1 (List.all_eq_true.1 ha _ (List.getElem_mem hi))
  have hc:cAt l i=l[i].toNat:=by unfold cAt;rw [List.getD_eq_getElem?_getD,e];rfl
  rw [hc,e]
  exact⟨by rw [Int.toNat_of_nonneg hb.1],by omega⟩
 exact⟨h1,by omega,by omega,h4,key h5,fun i hi=>key h6 i (by omega)⟩
theorem xP {n:Nat} {f:Nat->Bool} (h:(List.range n).all f=true) (e:f n=true):(List.range (n+1)).all f=true:=by
 rw [List.range_succ,List.all_append,h];simp [e]
theorem Av {n i:Nat} {f:Nat->Bool} (hi:i<n) (e:f i=false):(List.range n).all f=false:=by
 rw [Bool.eq_false_iff]
 intro q
 rw [List.all_eq_true.1 q i (List.mem_range.2 hi)]at e;cases e
theorem N5 {h:Hp} {s:Sl} {xs:List Int} {x:Int} {i:Nat} {R:Value->Hp->Prop} (hs:IntS h s xs) (hi:xs[i]?=some x) (hf: ∀j,j<i->xs[j]?≠some x) (k:R (I (i:Nat)) h):jk #[s.v,I x] h R:=by
 apply uf
 refine uf_ ?_
 have ls:=hs.len
 have hb:=hs.bound
 have hil:=get_lt hi
 refine av i (fun j vs h'=>vs= [s.v,I x,I (s.n:Nat),I (j:Nat)]/\h'=h) ⟨rfl,rfl⟩ ?_
 rintro j _ _ next hj ⟨rfl,rfl⟩ hnx
 refine⟨s,_,_,_,rfl,?_⟩
 refine aJ (by rw [decide_eq_true_eq];omega) ?_
 obtain⟨y,hy⟩: ∃y,xs[j]?=some y:=⟨_,List.getElem?_eq_getElem (by omega)⟩
 obtain⟨b,o,ha,hc⟩:=hs.get hy
 refine⟨b,o,ha,by omega,by omega,_,by rw [Int.toNat_natCast];exact hc,?_⟩
 by_cases hlt:j<i
 ·refine aD (by rw [beq_eq_false_iff_ne];exact fun e=>hf j hlt (by rw [e];exact hy)) ?_
  rw [aA (by omega)]
  exact hnx hlt _ _ ⟨rfl,rfl⟩
 ·obtain rfl:j=i:=by omega
  rw [hi]at hy
  obtain rfl:=Option.some.inj hy
  exact aJ (by simp) k
theorem QU {g h:Hp} {L:List (Nat×Blk)} {B p:Nat} {s:Sl} {bs:List Nat} {x y:Int} {R:Value->Hp->Prop} (K:Kn g h ((B,rdC s p)::L)) (hb:ByteS g s bs) (hp:p<=900000)
  (k: ∀x h' p',Kn g h' ((B,rdC s p')::L)->p'<=p+2->R (I x) h'):nO #[.pointer (some ⟨B,0,none⟩),I x,I y] h R:=by
 apply Bw
 refine uf_ ?_
 refine ap (fun J=> ∀(c:Bool) h',(c=true->y>0)->Kn g h' ((B,rdC s (p+1))::L)->J c h') (fun c h' hc K1=>?_) (fun J hJ=>?_)
 ·refine ac (fun e=>?_) (fun e=>?_)
  ·have:=hc e
   rw [if_neg (by omega)]
   exact k _ h' _ K1 (by omega)
  ·refine kp_ ?_
   intro z h2 K2 _ _
   exact⟨_,rfl,k _ h2 _ K2 (by omega)⟩
 ·refine kp_ ?_
  intro z h1 K1 _ _
  exact⟨_,rfl,ac (fun _=>hJ _ h1 (fun e=>of_decide_eq_true e) K1) (fun _=>hJ _ h1 (fun e=>nomatch e) K1)⟩
theorem IB (l:List NodeP) (k:Int):(aU l k).Nodup:=List.Nodup.sublist List.filter_sublist List.nodup_range
theorem FC {α:Type} {l:List α} (nd:l.Nodup) {i:Nat} {p:α} (h:l[i]?=some p): ∀j,j<i->l[j]?≠some p:=by
 intro j hj e
 have h1:=get_lt h
 have h2:=get_lt e
 rw [List.getElem?_eq_getElem h1]at h
 rw [List.getElem?_eq_getElem h2]at e
 exact absurd ((List.getElem_inj nd (h₀:=h2) (h₁:=h1)).1 ((Option.some.inj e).trans (Option.some.inj h).symm)) (by omega)
theorem TN {α:Type} {l:List α} (nd:l.Nodup) {i j:Nat} {p:α} (h:l[i]?=some p) (e:l[j]?=some p):i=j:=by
 rcases Nat.lt_trichotomy i j with h1|h1|h1
 ·exact absurd h (FC nd e i h1)
 ·exact h1
 ·exact absurd e (FC nd h j h1)
theorem Pe {binds:List BindP} (ag:jE (binds.map (·.state))=false) {b:BindP} (hb:b∈binds) {p:Nat} (e:b.state=(p:Int)):ce binds p=some b.node.toNat:=by
 cases hx:ce binds p with
 |none=>exact absurd e (Nr hx b hb)
 |some k=>
  obtain⟨b',hb',hs',rfl⟩:=gU hx
  obtain⟨i,hi⟩:=List.getElem?_of_mem hb
  obtain⟨j,hj⟩:=List.getElem?_of_mem hb'
  have key: ∀{i j:Nat} {x y:BindP},binds[i]?=some x->binds[j]?=some y->x.state=y.state-> ¬i<j:= @fun i j x y hi hj e h=>by
   refine CN ag hj _ ?_ e
   have h1:=get_lt hi
   refine List.mem_of_getElem? (i:=i) ?_
   rw [List.getElem?_take,if_pos h];exact hi
  have h1:=key hi hj (e.trans hs'.symm)
  have h2:=key hj hi (hs'.trans e.symm)
  obtain rfl:i=j:=by omega
  rw [hi]at hj
  rw [Option.some.inj hj]
theorem Hc {l:List Nat} {i:Nat} {x:Nat} (h:l[i]?=some x):(VL l)[i]?=some (x:Int):=by unfold VL;rw [List.getElem?_map,h];rfl
theorem Zo {l:List Nat} {i:Nat} {x:Nat} (h:(VL l)[i]?=some (x:Int)):l[i]?=some x:=by
 unfold VL at h
 rw [List.getElem?_map,Option.map_eq_some_iff]at h
 obtain⟨y,hy,e⟩:=h
 rw [hy];exact congrArg some (by omega)
set_option maxHeartbeats 1000000 in
theorem uh {h:Hp} {M:MSl} {m:ai} {sB sV sT:Sl} {binds:List BindP} {v vs:List (List Nat)} {F:Nat->Option (List Nat)} {R:Value->Hp->Prop} (hs:aN h M m) (hm:bW m) (g:dP m)
  (hb:qH h sB binds) (hbl:binds.length<=60) (hpv:fX h sV v) (hT:IntSS h sT (vs.map VL)) (hvl:vs.length=(stP m).length) (hvs: ∀x∈vs,x.length<=4)
  (hin: ∀b∈binds,∃p:Nat,b.state=(p:Int)/\p∈stP m/\0<=b.node/\b.node<v.length/\0<(v.getD b.node.toNat []).length/\(v.getD b.node.toNat []).length<=4/\F p=some (mT (aK m.nodes p) (v.getD b.node.toNat [])))
  (hF: ∀p x,F p=some x-> ∃b∈binds,b.state=(p:Int))
  (k:R (.bool (hG (stP m) F vs (stP m).length)) h):jF #[aO M,sB.v,sV.v,sT.v] h R:=by
 refine ACalls.drop (zz ?_)
 refine uf_ ?_
 have K0:=Kn.nil h
 (with_reducible apply Kn.al);(assumption);(intro b10 h1 K1 l1 hb10)
 clear K0
 have hbn:=hb.len
 have hTn:=hT.len
 rw [List.length_map]at hTn
 repeat' (refine kr_ ?_)
 refine dS (hs.mono K1.le) hm fun pt h2 l2 ip=>⟨_,rfl,?_⟩
 have K2:=K1.mono l2
 clear K1 l1 l2
 have hpn:pt.n=(stP m).length:=by have:=ip.len;rw [bz]at this;exact this
 have hpl:(stP m).length<=m.nodes.length:=eY m.nodes 36
 have nd:=IB m.nodes 36
 have hnl:=g.nl
 refine av binds.length (fun i ws h'=>ws= [sV.v,sT.v, .pointer (some ⟨b10,0,none⟩),pt.v,sB.v,I (sB.n:Nat),I (i:Nat)]/\IntS h' pt (VL (stP m))/\Kn h h' [(b10, .inl ⟨aw M,5,false⟩)]/\
  ∀(j:Nat) (b:BindP),j<i->binds[j]?=some b-> ∀(t p:Nat),(stP m)[t]?=some p->b.state=(p:Int)-> ∀x,F p=some x->vs.getD t []=x) ⟨rfl,ip,K2,fun j b hj=>by omega⟩ ?_
 clear K2 ip h2 h1 hb10
 rintro i _ h2 next hi ⟨rfl,ip,K2,hall⟩ hnx
 refine⟨sV,sT,b10,0,pt,sB,_,_,rfl,?_⟩
 by_cases hlt:i<binds.length
 rotate_left
 ·refine aD (by rw [decide_eq_false_iff_not];omega) ?_
  refine⟨h,K2.le,di (Eq.symm (kj.2 fun t p ht x hx=>?_)) k⟩
  obtain⟨b,hbm,e⟩:=hF p x hx
  obtain⟨j,hj⟩:=List.getElem?_of_mem hbm
  exact hall j b (by have:=get_lt hj;omega) hj t p ht e x hx
 refine aJ (by rw [decide_eq_true_eq];omega) ?_
 obtain⟨b,hbi⟩: ∃b,binds[i]?=some b:=⟨_,List.getElem?_eq_getElem hlt⟩
 obtain⟨p,ep,hp,n0,n1,v0,v4,hFp⟩:=hin b (List.mem_of_getElem? hbi)
 obtain⟨t,ht⟩:=List.getElem?_of_mem hp
 have htl:=get_lt ht
 have hpm:=cH g 36 p hp
 obtain⟨bi,oi,hai,cx1,cx2⟩:=(hb.mono K2.le).at hbi
 refine⟨bi,oi,hai,by omega,by omega,_,by rw [Int.toNat_natCast];exact cx1,_,by rw [Int.toNat_natCast];exact cx2,?_⟩
 clear hai cx1 cx2 bi oi
 refine Kn.al K2 fun b42 h3 K3 l3 hb42=>?_
 refine kw_ ?_
 intro h4 K4 kp4
 have l24:h2.le h4:=cF hb42 l3 kp4
 have ip4:=ip.mono l24
 clear K3 kp4 l3 hb42 h3
 refine ap (fun J=> ∀b' u h',Kn h h' ((b', .inl ⟨[Sl.v u],1,false⟩)::(b42, .inl ⟨[I b.state,I b.node],2,false⟩)::(b10, .inl ⟨aw M,5,false⟩):: [])->h4.le h'->
  IntS h' u (VL (mT (aK m.nodes p) (v.getD b.node.toNat [])))->J b' 0 h') (fun b' u h5 K5 l5 hu=>?_) (fun J hJ=>?_)
 ·repeat' (refine kr_ ?_)
  have ip5:=ip4.mono l5
  rw [ep]
  refine N5 ip5 (Hc ht) (fun j hj e=>FC nd ht j hj (Zo e)) ⟨_,rfl,?_⟩
  repeat' (refine kr_ ?_)
  obtain⟨bt,ot,c,hat,hct,htc⟩:=(hT.mono K5.le).getV (i:=t) (by omega)
  refine⟨bt,ot,hat,by omega,by omega,c,by rw [Int.toNat_natCast];exact hct,?_⟩
  have hwl:(mT (aK m.nodes p) (v.getD b.node.toNat [])).length<=4:=by
   have:=dj m.nodes p
   unfold mT
   rw [List.length_append,List.length_replicate];omega
  refine wE hu htc (by rw [bz];omega) ⟨_,rfl,?_⟩
  refine ac (fun e=>⟨h,K5.le,di (Eq.symm ?_) k⟩) (fun e=>?_)
  ·rw [Bool.not_eq_true',decide_eq_false_iff_not]at e
   rw [Bool.eq_false_iff]
   exact fun q=>e (by rw [kj.1 q t p ht _ hFp])
  ·rw [Bool.not_eq_false',decide_eq_true_eq]at e
   rw [aA (by omega)]
   refine hnx hlt _ _ ⟨rfl,ip5,K5.sub (fun e he=>by simp at he;simp [he]) (by simp),fun j b' hj hbj t' p' ht' ep' x hx=>?_⟩
   by_cases hji:j<i
   ·exact hall j b' hji hbj t' p' ht' ep' x hx
   ·obtain rfl:j=i:=by omega
    rw [hbi]at hbj
    obtain rfl:=Option.some.inj hbj
    obtain rfl:p=p':=by omega
    obtain rfl:=TN nd ht ht'
    rw [hFp]at hx
    rw [<-Option.some.inj hx]
    exact(F9.1 e).symm
 ·repeat' (refine kr_ ?_)
  obtain⟨bn,on,han,hpn',c6,c7,w1,w16⟩:=hs.nodes.sortc2 hpm g.ok
  obtain⟨bv,ov,u,hav,hvn',hcv,hu⟩:=hpv.at n0 n1
  have xbn:=gp c6
  have xbv:=gp hcv
  replace c6:=K4.le.cell c6
  replace c7:=K4.le.cell c7
  replace hcv:=K4.le.cell hcv
  replace hu:=hu.mono K4.le
  rw [ep]
  refine⟨bn,on,han,by omega,hpn',_,c6,_,c7,?_⟩
  repeat' (refine kr_ ?_)
  refine⟨bv,ov,hav,n0,hvn',u,hcv,?_⟩
  clear han c6 c7 hav hvn' hcv hpn' w1 w16
  refine⟨?_,?_⟩
  ·refine xB hu v0 v4 fun t2 h5 l5 ht2=>⟨_,rfl,?_⟩
   rw [qi g.ok hpm]at ht2
   have K5:=K4.mono l5
   refine Kn.al K5 fun b61 h6 K6 l6 hb61=>?_
   repeat' (refine kr_ ?_)
   clear K5 K4
   refine kw_ ?_
   intro h7 K7 kp7
   have l57:=cF hb61 l6 kp7
   exact hJ b61 t2 h7 K7 (Hp.le_trans l5 l57) (ht2.mono l57)
  ·refine Kn.al K4 fun b66 h5 K5 l5 hb66=>?_
   repeat' (refine kr_ ?_)
   clear K4
   refine xB (hu.mono l5) v0 v4 fun t2 h6 l6 ht2=>⟨_,rfl,?_⟩
   rw [qi g.ok hpm]at ht2
   have K6:=K5.mono l6
   clear K5
   refine kw_ ?_
   intro h7 K7 kp7
   have l57:h4.le h7:=cF hb66 (Hp.le_trans l5 l6) kp7
   exact hJ b66 t2 h7 K7 l57 (ht2.keep (K6.at (.head _)) kp7)
theorem fX.out {h:Hp} {t:Sl} {vs:List (List Nat)} {X:List (Nat×Blk)} {s:Sl} {ts:List Sl} (e:fX h t vs) (he: ∀p,p<vs.length->0<(vs.getD p []).length) (o:cD X s 1 (ts.map Sl.v)) (m: ∀e∈X,h e.1=some e.2)
  (hts: ∀(j:Nat) (u:Sl),ts[j]?=some u-> ∃ws,(0<vs.length->0<ws.length)/\fX h u ws):fX (h.wo (X.map Prod.fst)) t vs:=by
 rcases o.2.2 with ⟨rfl,_,_⟩|⟨b,_,rfl⟩
 ·exact e.mono fun c x hc=>by simp [Hp.wo,hc]
 have hb:=m _ (.head _)
 have kp: ∀c,c≠b->(h.wo [b]) c=h c:=fun c hc=>by simp [Hp.wo,hc]
 refine⟨e.1,e.2.1,fun p hp=>?_⟩
 obtain⟨b',o',t',h1,h2,h3⟩:=e.2.2 p hp
 refine⟨b',o',t',h1,?_,h3.keepN hb (ue ts) kp⟩
 have hne:b'≠b:=by
  rintro rfl
  rw [aq hb,List.getElem?_map,Option.map_eq_some_iff]at h2
  obtain⟨u,hu,hv⟩:=h2
  obtain⟨ws,hw,hpw⟩:=hts _ u hu
  obtain rfl:u=t':=by
   obtain⟨a1,a2,a3⟩:=u
   obtain⟨c1,c2,c3⟩:=t'
   cases hv;rfl
  obtain⟨b2,o2,u2,g1,g2,_⟩:=hpw.2.2 0 (hw (by omega))
  obtain⟨b3,o3,g3,g4,_⟩:=IntS.elt h3 (i:=0) (he p hp)
  rw [g1]at g3
  cases g3
  rw [g2]at g4
  cases g4
 unfold Hp.cell at h2⊢
 rw [show (Hp.wo h (List.map Prod.fst [(b,(Sum.inl ⟨ts.map Sl.v,s.c*1,false⟩:Blk))])) b'=h b' from kp b' hne]
 exact h2
theorem V6 {c:Nat} {v:List Nat} (h:v.length=c):mT c v=v:=by
 unfold mT
 rw [h,Nat.sub_self,List.replicate_zero,List.append_nil]
theorem Md {m:ai} {ps:List Nat} {c:Nat}: ∀x∈gj m.nodes ps c,x.length<=4:=by
 intro x hx
 unfold gj at hx
 obtain⟨i,_,rfl⟩:=List.mem_map.1 hx
 rw [pZ]
 exact dj m.nodes (ps.getD i 0)
theorem LU {l:List NodeP} {s:Int} (h:cW l s=true) (hk:jA l s=36): ∃p:Nat,s=(p:Int)/\p∈aU l 36:=by
 have hp:=fg.1 h
 refine⟨s.toNat,by omega,?_⟩
 unfold aU
 rw [List.mem_filter,List.mem_range]
 have hl:s.toNat<l.length:=by omega
 refine⟨hl,?_⟩
 unfold jA at hk
 rw [List.getElem?_eq_getElem hl]at hk⊢
 simpa using hk
theorem Kh {m:ai} (g:dP m): ∀b∈m.inits,∃p:Nat,b.state=(p:Int)/\p∈stP m/\0<=b.node/\b.node<(od m).length/\0<((od m).getD b.node.toNat []).length/\((od m).getD b.node.toNat []).length<=4/\
  eU m p=some (mT (aK m.nodes p) ((od m).getD b.node.toNat [])):=by
 intro b hb
 obtain⟨q1,q2,q3,_⟩:=zZ (g.ini b hb)
 obtain⟨p,ep,hp⟩:=LU q1 q3
 obtain⟨v1,v2,v3,v4,_⟩:=tW g hb
 refine⟨p,ep,hp,v1,by rw [(ww g).len];exact v2,v3,v4,?_⟩
 unfold eU
 rw [Pe (pT g.twice).2.1 hb ep];rfl
theorem V7 {m:ai} (g:dP m) {v:List (List Nat)} (a:AY m v): ∀b∈m.nexts,∃p:Nat,b.state=(p:Int)/\p∈stP m/\0<=b.node/\b.node<v.length/\0<(v.getD b.node.toNat []).length/\(v.getD b.node.toNat []).length<=4/\
  iV m v p=some (mT (aK m.nodes p) (v.getD b.node.toNat [])):=by
 intro b hb
 obtain⟨q1,q2,q3,q4⟩:=jO (g.nex b hb)
 obtain⟨p,ep,hp⟩:=LU q1 q3
 have n2:=fg.1 q2
 have hs:iV m v p=some (v.getD b.node.toNat []):=by
  unfold iV
  rw [Pe (pT g.twice).2.2 hb ep];rfl
 have hf:=uk g a.fit hs
 have hq:=a.fit b.node.toNat (by omega) (by omega)
 have hc:=dj m.nodes p
 refine⟨p,ep,hp,n2.1,by rw [a.len];exact n2.2,hq.pos,by rw [hf.1];exact hc,?_⟩
 rw [V6 hf.1];exact hs
theorem VU {m:ai} {p:Nat} {x:List Nat} (h:eU m p=some x): ∃b∈m.inits,b.state=(p:Int):=by
 unfold eU at h
 rw [Option.map_eq_some_iff]at h
 obtain⟨k,hk,_⟩:=h
 obtain⟨b,hb,e,_⟩:=gU hk
 exact⟨b,hb,e⟩
theorem Ws {m:ai} {v:List (List Nat)} {p:Nat} {x:List Nat} (h:iV m v p=some x): ∃b∈m.nexts,b.state=(p:Int):=by
 unfold iV at h
 rw [Option.map_eq_some_iff]at h
 obtain⟨k,hk,_⟩:=h
 obtain⟨b,hb,e,_⟩:=gU hk
 exact⟨b,hb,e⟩
theorem Qe {m:ai} (g:dP m) (c d:Nat): ∀p,p<(cK m c d).length->0<((cK m c d).getD p []).length:=fun p hp=>by
 have a:=eD g c d
 rw [a.len]at hp
 exact(a.fit p hp hp).pos
set_option maxHeartbeats 4000000 in
theorem qL {h:Hp} {M:MSl} {m:ai} {sS sI:Sl} {xs ys:List Int} {R:Value->Hp->Prop} (hs:aN h M m) (hm:bW m) (h1:IntS h sS xs) (h2:IntS h sI ys) (hcap:sS.n<=sS.c)
  (k:R (I (ey m xs ys)) h):kY #[aO M, .agg #[sS.v,sI.v]] h R:=by
 refine ACalls.drop (Cd ?_)
 refine uf_ ?_
 have K0:=Kn.nil h
 (with_reducible apply Kn.al);(assumption);(intro b9 g1 K1 l1 hb9)
 (with_reducible apply Kn.al);(assumption);(intro b11 g2 K2 l2 hb11)
 clear K1 K0
 have ls:=h1.len
 have lt:=h2.len
 unfold ey at k
 repeat' (refine kr_ ?_)
 refine Cs (hs.mono K2.le) hm (h1.mono K2.le) (h2.mono K2.le) ⟨_,rfl,ac (fun e=>?_) (fun e=>?_)⟩
 ·rw [Bool.not_eq_true']at e
  rw [if_pos e]at k
  exact⟨h,K2.le,k⟩
 rw [Bool.not_eq_false']at e
 obtain⟨hc,n1,n2,n3,hx,hy⟩:=sj e
 rw [if_neg (by rw [e];decide)]at k
 clear e
 have g:=co hc
 have n8:=g.n8
 have k5:=g.k5
 have hp8:2^ak m.nodes 36<=2^8:=Nat.pow_le_pow_right (by omega) n8
 have hp5:2^ak m.nodes 35<=2^5:=Nat.pow_le_pow_right (by omega) k5
 repeat' (refine kr_ ?_)
 refine dS (hs.mono K2.le) hm fun ps h3 l3 ips=>⟨_,rfl,?_⟩
 have K3:=K2.mono l3
 repeat' (refine kr_ ?_)
 clear K2
 refine dS (hs.mono K3.le) hm fun pi h4 l4 ipi=>⟨_,rfl,?_⟩
 have K4:=K3.mono l4
 clear K3
 have ips4:=ips.mono l4
 repeat' (refine kr_ ?_)
 obtain⟨b61,o61,ha,hca⟩:=h1.get (hx 0 (by omega)).1
 have x61:=gp hca
 replace hca:=K4.le.cell hca
 refine⟨b61,o61,ha,by omega,by omega,_,hca,?_⟩
 refine A1 (hs.mono K4.le) hm g fun t0 h5 l5 _ hp0=>⟨_,rfl,?_⟩
 have K5:=K4.mono l5
 repeat' (refine kr_ ?_)
 refine sm (hs.mono K5.le) hm g.ok (ips4.mono l5) (cH g 36) (iw g 36) (by have:=(hx 0 (by omega)).2;omega) fun u0 h6 l6 iu _=>⟨_,rfl,?_⟩
 have K6:=K5.mono l6
 repeat' (refine kr_ ?_)
 refine uh (F:=eU m) (hs.mono K6.le) hm g (hs.mono K6.le).inits g.il (hp0.mono l6) iu (nv (jo ..)) Md (Kh g) (fun p x=>VU) ⟨_,rfl,ac (fun e=>?_) (fun e=>?_)⟩
 ·rw [Bool.not_eq_true']at e
  rw [if_pos e]at k
  exact⟨h,K6.le,k⟩
 rw [Bool.not_eq_false']at e
 rw [if_neg (by rw [e];decide)]at k
 clear e K4 K5
 have l46:=Hp.le_trans l5 l6
 have f9:=K6.at (b:=b9) (by((focus ((repeat first|exact .head _|apply List.Mem.tail);done))))
 have f11:=K6.at (b:=b11) (by((focus ((repeat first|exact .head _|apply List.Mem.tail);done))))
 have hs6:=hs.mono K6.le
 have h16:=h1.mono K6.le
 have h26:=h2.mono K6.le
 have ips6:=ips4.mono l46
 have ipi6:=ipi.mono l46
 have l06:=K6.le
 repeat' (refine kr_ ?_)
 clear K6 iu hp0 ips4 ipi ips ha hca x61 l46 l6 l5 l4 l3 l2 l1 hb9 hb11 h3 h4 h5 g1 g2
 have pv: ∀i,i<xs.length->cAt xs i<2^ak m.nodes 36/\cAt ys i<2^ak m.nodes 35:=fun i hi=>⟨(hx i hi).2,(hy i hi).2⟩
 refine av xs.length (fun i vs h'=> ∃(out:Sl) (ts:List Sl) (X:List (Nat×Blk)) (g':Hp),vs= [.pointer (some ⟨b9,0,none⟩), .pointer (some ⟨b11,0,none⟩),ps.v,pi.v,out.v,sS.v,I (sS.n:Nat),I (i:Nat)]/\h6.le g'/\cD X out 1 (ts.map Sl.v)/\
  ts.length=i/\Kn g' h' X/\ ∀(j:Nat) (t:Sl),ts[j]?=some t->fX g' t (cK m (cAt xs j) (cAt ys j)))
  ⟨⟨none,0,0⟩, [], [],h6,rfl,Hp.le_refl _,cE 1,rfl,Kn.nil _,fun j t hj=>by simp at hj⟩ ?_
 rintro i _ h3 nxt hi ⟨out,ts,X,g',rfl,lg,oX,htl,K,hT⟩ hnx
 have hon:=oX.1
 rw [List.length_map,Nat.mul_one]at hon
 refine⟨b9,0,b11,0,ps,pi,out,sS,_,_,rfl,?_⟩
 have lG:=Hp.le_trans lg K.le
 have f9g:=lg _ _ f9
 have f11g:=lg _ _ f11
 by_cases hlt:i<xs.length
 ·refine aJ (by rw [decide_eq_true_eq];omega) ?_
  obtain⟨ba,oa,ha,hca⟩:=(h16.mono lg).get (hx i hlt).1
  have xba:=gp hca
  replace hca:=K.le.cell hca
  refine⟨ba,oa,ha,by omega,by omega,_,by rw [Int.toNat_natCast];exact hca,?_⟩
  obtain⟨bb,ob,hb,hcb⟩:=(h26.mono lg).get (hy i hlt).1
  have xbb:=gp hcb
  replace hcb:=K.le.cell hcb
  repeat' (refine kr_ ?_)
  refine⟨bb,ob,hb,by omega,by omega,_,by rw [Int.toNat_natCast];exact hcb,?_⟩
  have pvi:=pv i hlt
  refine sm (hs6.mono lG) hm g.ok (ips6.mono lG) (cH g 36) (iw g 36) (by omega) fun u1 h4 l4 iu1 cu1=>⟨_,rfl,?_⟩
  have K4:=K.mono l4
  have x9:g' b9≠none:=eF f9g
  have x11:g' b11≠none:=eF f11g
  repeat' (refine kr_ ?_)
  refine sm (hs6.mono (Hp.le_trans lG l4)) hm g.ok (ipi6.mono (Hp.le_trans lG l4)) (cH g 35) (iw g 35) (by omega) fun u2 h5 l5 iu2 cu2=>⟨_,rfl,?_⟩
  have K5:=K4.mono l5
  repeat' (refine kr_ ?_)
  refine xV (hs6.mono (Hp.le_trans lG (Hp.le_trans l4 l5))) hm g.ok g.nl (iu1.mono l5) cu1 (lc 36 _ g) iu2 cu2 (lc 35 _ g) fun t h7 l7 _ hpv=>⟨_,rfl,?_⟩
  refine aj fun b128 h8 hb128 l8 f128=>?_
  have l38:=Hp.le_trans l4 (Hp.le_trans l5 (Hp.le_trans l7 l8))
  have K8:=K.mono l38
  replace hpv:fX h8 t (cK m (cAt xs i) (cAt ys i)):=hpv.mono l8
  have hnew:=hpv.out (Qe g _ _) oX (fun e he=>K8.mem e he) fun j u hj=>⟨_,by rw [(eD g _ _).len,(eD g _ _).len];exact id,(hT j u hj).mono K8.le⟩
  have lB:=K8.leBase
  have KB:=K8.base
  generalize h8.wo (X.map Prod.fst)=g8 at*
  rw [show X=X++ []from(List.append_nil _).symm]at KB
  refine Kn.grow KB oX (by omega) (by omega) (by omega) ⟨b128,0,rfl,ay f128⟩ rfl rfl fun out' X' h9 hn' oX' K9 l9=>?_
  rw [aA (by omega)]
  rw [List.append_nil]at K9
  refine hnx hlt _ _ ⟨out',ts++ [t],X',g8,rfl,Hp.le_trans lg lB,by rw [List.map_append];exact oX',by simp [htl],K9,fun j u hj=>?_⟩
  by_cases e:j<ts.length
  ·rw [List.getElem?_append_left e]at hj
   exact(hT j u hj).mono lB
  ·have h1:=get_lt hj
   simp at h1
   rw [List.getElem?_append_right (by omega),show j-ts.length=0 by omega]at hj
   simp at hj;subst hj
   rw [show j=i by omega];exact hnew
 obtain rfl:i=xs.length:=by omega
 refine aD (by rw [decide_eq_false_iff_not];omega) ?_
 have hO:SlC h3 out 1 (ts.map Sl.v):=(oX.buf fun e he=>K.mem e he).slc_of (by omega)
 replace hT: ∀(j:Nat) (t:Sl),ts[j]?=some t->fX h3 t (cK m (cAt xs j) (cAt ys j)):=fun j t hj=>(hT j t hj).mono K.le
 have f93:=lG _ _ f9
 have f113:=lG _ _ f11
 have x93:=eF f93
 have hs3:=hs6.mono lG
 have h13:=h16.mono lG
 have ips3:=ips6.mono lG
 have l03:=Hp.le_trans l06 lG
 clear K oX X f9g f11g lG lg hnx hi hlt f9 f11 hs6 h16 h26 ips6 ipi6 l06 g'
 have at_: ∀{h':Hp} (i:Nat),h3.le h'->i<xs.length-> ∃b o t,out.a=some (Addr.mk b o none)/\(0:Int)<=i/\(i:Int)<(out.n:Int)/\Hp.cell h' b (o+Int.toNat (i:Int)*1)=some (Sl.v t)/\fX h' t (cK m (cAt xs i) (cAt ys i))/\h3 b≠none:=by
  intro h' i l hi
  obtain⟨t,ht⟩: ∃t,ts[i]?=some t:=⟨_,List.getElem?_eq_getElem (by omega)⟩
  obtain⟨b,o,ha,hcc⟩:=hO.get (by omega)
  have hq:=hcc i _ (by rw [List.getElem?_map,ht];rfl)
  refine⟨b,o,t,ha,by omega,by omega,?_,(hT i t ht).mono l,gp hq⟩
  rw [Int.toNat_natCast,Nat.mul_one]
  exact l.cell hq
 refine ap (fun J=> ∀(w:Sl),w.n=xs.length-1->(∀i,i<xs.length-1-> ∃b o,w.a=some (Addr.mk b o none)/\ ∀h',h3.le h'->Hp.cell h' b (o+Int.toNat (i:Int)*1)=some (I (cAt xs (i+1):Nat)))->J w (((xs.length-1:Nat)):Int)) (fun w hwn hw=>?_) (fun J hJ=>?_)
 rotate_left
 ·have K3:=Kn.nil h3
  repeat' (refine kr_ ?_)
  refine⟨by omega,by simp;omega,by simp;omega,?_⟩
  obtain⟨ba,oa,ha,hca⟩:=h13.get (hx 0 (by omega)).1
  refine .inr ⟨ba,oa,ha,?_⟩
  rw [show (Int.ofNat sS.n).toNat-Int.toNat 1=xs.length-1 by simp;omega]
  refine hJ ⟨_,_,_⟩ rfl fun i hi=>⟨_,_,rfl,fun h' l'=>?_⟩
  obtain⟨bc,oc,ha',hcc⟩:=h13.get (hx (i+1) (by omega)).1
  rw [ha]at ha'
  cases ha'
  rw [if_neg (by simp;omega)]
  have:=l'.cell hcc
  rwa [show oa+(i+1)*1=oa+Int.toNat 1*1+Int.toNat (i:Int)*1 by simp;omega]at this
 refine av (xs.length-1) (fun i vs h'=>vs= [.pointer (some ⟨b9,0,none⟩),ps.v,out.v,w.v,I ((xs.length-1:Nat):Int),I (i:Nat)]/\h3.le h'/\(List.range i).all (L9 m xs ys)=true) ⟨rfl,Hp.le_refl _,rfl⟩ ?_
 rintro i _ h4 nxt hi ⟨rfl,l34,a1⟩ hnx
 have K4:=Kn.of l34
 refine⟨b9,0,ps,out,w,_,_,rfl,?_⟩
 by_cases hlt:i<xs.length-1
 ·refine aJ (by rw [decide_eq_true_eq];omega) ?_
  obtain⟨ba,oa,ha,hca⟩:=hw i hlt
  have xba:=gp (hca h3 (Hp.le_refl _))
  refine⟨ba,oa,ha,by omega,by omega,_,hca h4 l34,?_⟩
  obtain⟨bt,ot,t,hta,t0,t1,htc,hpv,xbt⟩:=at_ i l34 (by omega)
  refine⟨bt,ot,hta,t0,t1,?_⟩
  repeat' (refine kr_ ?_)
  refine⟨t,htc,?_⟩
  repeat' (refine kr_ ?_)
  refine sm (hs3.mono l34) hm g.ok (ips3.mono l34) (cH g 36) (iw g 36) (by have:=(pv (i+1) (by omega)).1;omega) fun u h5 l5 iu _=>⟨_,rfl,?_⟩
  have K5:=K4.mono l5
  repeat' (refine kr_ ?_)
  refine uh (F:=iV m (cK m (cAt xs i) (cAt ys i))) (hs3.mono K5.le) hm g (hs3.mono K5.le).nexts g.xl (hpv.mono l5) iu (nv (jo ..)) Md (V7 g (eD g _ _)) (fun p x=>Ws) ⟨_,rfl,ac (fun e=>?_) (fun e=>?_)⟩
  ·rw [Bool.not_eq_true']at e
   rw [if_pos (Av hlt e)]at k
   exact⟨h,Hp.le_trans l03 K5.le,k⟩
  ·rw [Bool.not_eq_false']at e
   rw [aA (by omega)]
   exact hnx hlt _ _ ⟨rfl,K5.le,xP a1 e⟩
 obtain rfl:i=xs.length-1:=by omega
 refine aD (by rw [decide_eq_false_iff_not];omega) ?_
 rw [if_neg (by rw [a1];decide)]at k
 clear hnx a1 hlt hi hw hwn w K4
 have on:out.n=xs.length:=by omega
 rw [on]
 refine av xs.length (fun i vs h'=>vs= [.pointer (some ⟨b9,0,none⟩),out.v,out.v,I ((xs.length:Nat):Int),I (i:Nat)]/\h3.le h'/\(List.range i).all (S7 m xs ys)=true) ⟨rfl,l34,rfl⟩ ?_
 clear l34 h4
 rintro i _ h4 nxt hi ⟨rfl,l34,a1⟩ hnx
 have K4:=Kn.of l34
 refine⟨b9,0,out,out,_,_,rfl,?_⟩
 by_cases hlt:i<xs.length
 ·refine aJ (by rw [decide_eq_true_eq];omega) ?_
  obtain⟨bt,ot,t,hta,t0,t1,htc,hpv,xbt⟩:=at_ i l34 hlt
  rw [on]at t1
  refine⟨bt,ot,hta,t0,by omega,t,htc,?_⟩
  repeat' (refine kr_ ?_)
  refine GG (hs3.mono l34) g hpv (eD g _ _) ⟨_,rfl,ac (fun e=>?_) (fun e=>?_)⟩
  ·rw [Bool.not_eq_true']at e
   rw [if_pos (Av hlt e)]at k
   exact⟨h,Hp.le_trans l03 l34,k⟩
  ·rw [Bool.not_eq_false']at e
   rw [aA (by omega)]
   exact hnx hlt _ _ ⟨rfl,l34,xP a1 e⟩
 obtain rfl:i=xs.length:=by omega
 refine aD (by rw [decide_eq_false_iff_not];omega) ?_
 rw [if_neg (by rw [a1];decide)]at k
 obtain⟨bt,ot,t,hta,t0,t1,htc,hpv,xbt⟩:=at_ (xs.length-1) l34 (by omega)
 rw [show W ((out.n:Int)-1)=((xs.length-1:Nat):Int) by rw [bV (by omega) (by omega)];omega]
 refine⟨bt,ot,hta,t0,t1,?_⟩
 repeat' (refine kr_ ?_)
 refine⟨t,htc,?_⟩
 refine MA (hs3.mono l34) g hpv (eD g _ _) ⟨_,rfl,ac (fun e=>?_) (fun e=>?_)⟩
 ·rw [if_pos (of_decide_eq_true e)]at k
  exact⟨h,Hp.le_trans l03 l34,k⟩
 ·rw [if_neg (of_decide_eq_false e)]at k
  exact⟨h,Hp.le_trans l03 l34,k⟩
theorem Jr {l:List NodeP} {ps:List Nat} {i p:Nat} (h:ps[i]?=some p):(cZ l ps).getD i []=List.replicate (aK l p) 0:=by
 unfold cZ
 rw [List.getD_eq_getElem?_getD,List.getElem?_map,h];rfl
theorem JD (b n:Nat) {h:Hp} {z:Nat} {ro:Bool} (hn:n<=1000) (f:h b=some (.inl ⟨aQ #[I 0] n,z,ro⟩)):IntS h ⟨some ⟨b,0,none⟩,n,n⟩ (VL (List.replicate n 0)):=by
 rw [cj]at f
 refine⟨by dsimp only;omega,by simp [bz], .inr ⟨b,0,rfl,?_⟩⟩
 have hc:(VL (List.replicate n 0)).map I=List.replicate n (I 0):=by simp [VL]
 rw [hc];exact ay f
theorem fX.offB {h0 h:Hp} {t out:Sl} {ts:List Sl} {vs:List (List Nat)} (e:fX h t vs) (pn:Ww h0 t) (b0:Buf h0 out 1 (ts.map Sl.v)) (b1:Buf h out 1 (ts.map Sl.v)):fX (h.offS out) t vs:=by
 refine⟨e.1,e.2.1,fun p hp=>?_⟩
 obtain⟨b,o,t',h1,h2,h3⟩:=e.2.2 p hp
 refine⟨b,o,t',h1,?_,h3.offL b1⟩
 have hn:=pn b o h1
 have:(h.offS out) b=h b:=Au (b0.fresh_ne hn)
 unfold Hp.cell at h2⊢
 rw [this];exact h2
set_option maxHeartbeats 1000000 in
theorem LP {h:Hp} {M:MSl} {m:ai} {kind:Int} {R:Value->Hp->Prop} (hs:aN h M m) (hm:bW m) (g:dP m)
  (k: ∀(out:Sl) (ts:List Sl) (h':Hp),h.le (h'.offS out)->out.n=(aU m.nodes kind).length->ts.length=(aU m.nodes kind).length->Buf h' out 1 (ts.map Sl.v)->
   (∀(j:Nat) (t:Sl),ts[j]?=some t->IntS (h'.offS out) t (VL ((cZ m.nodes (aU m.nodes kind)).getD j [])))->R (Sl.v out) h'):sW #[aO M,I kind] h R:=by
 apply HK
 refine uf_ ?_
 have hpl:=eY m.nodes kind
 have hnl:=g.nl
 have K0:=Kn.nil h
 (with_reducible apply Kn.al);(assumption);(intro b8 h1 K1 l1 hb8)
 clear K0
 repeat' (refine kr_ ?_)
 refine cO (hs.mono K1.le) hm fun pt h2 l2 ip=>⟨_,rfl,?_⟩
 have f8:=l2 _ _ (K1.at (.head _))
 have hs2:=hs.mono (Hp.le_trans K1.le l2)
 have l02:=Hp.le_trans K1.le l2
 have hpn:pt.n=(aU m.nodes kind).length:=by have:=ip.len;rw [bz]at this;exact this
 clear K1 l1 hb8 l2
 refine av (aU m.nodes kind).length (fun i vs h'=> ∃(ts:List Sl) (out:Sl),vs= [.pointer (some ⟨b8,0,none⟩),pt.v,out.v,I (i:Nat)]/\h2.le (h'.offS out)/\out.n=i/\ts.length=i/\Buf h' out 1 (ts.map Sl.v)/\
  (∀(j:Nat) (t:Sl),ts[j]?=some t->IntS (h'.offS out) t (VL ((cZ m.nodes (aU m.nodes kind)).getD j [])))) ⟨[],⟨none,0,0⟩,rfl,Hp.le_refl _,rfl,rfl,eG _ _,fun j t ht=>by simp at ht⟩ ?_
 rintro i _ h3 next hi ⟨ts,out,rfl,l3',hon,htl,hbuf,hts⟩ hnx
 have l23:=Hp.le_trans l3' (bk h3 out)
 refine⟨b8,0,pt,out,_,rfl,?_⟩
 by_cases hlt:i<(aU m.nodes kind).length
 rotate_left
 ·obtain rfl:i=(aU m.nodes kind).length:=by omega
  refine aD (by rw [decide_eq_false_iff_not];omega) ?_
  exact k out ts h3 (Hp.le_trans l02 l3') hon htl hbuf hts
 refine aJ (by rw [decide_eq_true_eq];omega) ?_
 obtain⟨p,hpi⟩: ∃p,(aU m.nodes kind)[i]?=some p:=⟨_,List.getElem?_eq_getElem hlt⟩
 have hpm:=cH g kind p (List.mem_of_getElem? hpi)
 obtain⟨bp,op,hap,hcp⟩:=(ip.mono l23).get (gn hpi)
 refine⟨bp,op,hap,by omega,by omega,?_⟩
 have K3:=Kn.of l23
 (refine kr_ ?_)
 refine⟨_,by rw [Int.toNat_natCast];exact hcp,?_⟩
 obtain⟨bn,on,han,hpn',c6,c7,w1,w16⟩:=(hs2.mono l23).nodes.sortc2 hpm g.ok
 refine⟨bn,on,han,by omega,hpn',_,c6,_,c7,?_⟩
 refine fe ⟨_,rfl,?_⟩
 rw [qi g.ok hpm]
 have hc4:=dj m.nodes p
 refine⟨by omega,by omega,by omega,by omega,?_⟩
 refine aj fun b33 h4 hb33 l4 f33=>?_
 rw [Int.toNat_natCast,Nat.mul_one]at f33
 have ht:=JD b33 _ (by omega) f33
 rw [Int.toNat_natCast]
 refine aj fun b h5 hb l5 f5=>?_
 have l35:=Hp.le_trans l4 l5
 have l35o:=bM out l35
 refine dp (hbuf.mono l35) (by omega) (by omega) (by omega) ⟨b,0,rfl,ay f5⟩ (by simp) rfl ?_
 intro s' h6 hs'n hbuf' l6' _
 rw [aA (by omega)]
 have l36:=Hp.le_trans l35o l6'
 have hbuf'':Buf h6 s' 1 ((ts++ [(⟨some ⟨b33,0,none⟩,aK m.nodes p,aK m.nodes p⟩:Sl)]).map Sl.v):=by rw [List.map_append];exact hbuf'
 refine hnx hlt _ _ ⟨ts++ [⟨some ⟨b33,0,none⟩,aK m.nodes p,aK m.nodes p⟩],s',rfl,Hp.le_trans l3' l36,by omega,by simp;omega,hbuf'',fun j u hu=>?_⟩
 by_cases hj:j<i
 ·rw [List.getElem?_append_left (by omega)]at hu
  exact(hts j u hu).mono l36
 ·have hju:=get_lt hu
  simp at hju
  obtain rfl:j=i:=by omega
  rw [List.getElem?_append_right (by omega),htl,Nat.sub_self]at hu
  simp at hu;subst hu
  rw [Jr hpi]
  exact((ht.mono l5).offL (hbuf.mono l35)).mono l6'
theorem ON {m:ai} (g:dP m) {p q:Nat} (h:ce m.inits p=some q):q<m.nodes.length/\0<((od m).getD q []).length/\((od m).getD q []).length<=4:=by
 obtain⟨b,hb,_,rfl⟩:=gU h
 obtain⟨v1,v2,v3,v4,_⟩:=tW g hb
 exact⟨by omega,v3,v4⟩
theorem T2 (m:ai) {i p:Nat} (h:(stP m)[i]?=some p):(lk m).getD i []=(eU m p).getD (List.replicate (aK m.nodes p) 0):=by
 unfold lk kJ
 rw [List.getD_eq_getElem?_getD,List.getElem?_map,h];rfl
theorem IG (m:ai):(lk m).length=(stP m).length:=by unfold lk kJ;rw [List.length_map]
set_option maxHeartbeats 1000000 in
theorem Ar {h:Hp} {M:MSl} {m:ai} {R:Value->Hp->Prop} (hs:aN h M m) (hm:bW m) (g:dP m)
  (k: ∀out h',h.le h'->IntSS h' out ((lk m).map VL)->R (Sl.v out) h'):nu #[aO M] h R:=by
 apply F3
 refine uf_ ?_
 have hpl:(stP m).length<=m.nodes.length:=eY m.nodes 36
 have hnl:=g.nl
 have hil:=g.il
 have K0:=Kn.nil h
 (with_reducible apply Kn.al);(assumption);(intro b7 h1 K1 l1 hb7)
 clear K0
 repeat' (refine kr_ ?_)
 refine cO (hs.mono K1.le) hm fun pt h2 l2 ip=>⟨_,rfl,?_⟩
 have K2:=K1.mono l2
 clear K1
 repeat' (refine kr_ ?_)
 refine LP (hs.mono K2.le) hm g fun out ts h3 l3 hon htl hbuf hts=>⟨_,rfl,?_⟩
 have l3':=Hp.le_trans l3 (bk _ _)
 replace hon:out.n=(stP m).length:=hon
 replace htl:ts.length=(stP m).length:=htl
 have K3:=K2.mono l3'
 repeat' (refine kr_ ?_)
 refine C5 (hs.mono K3.le) hm g fun vt h4 l4 hvn hpv pn=>⟨_,rfl,?_⟩
 have f7:=l4 _ _ (K3.at (.head _))
 have hpn:pt.n=(stP m).length:=by have:=ip.len;rw [bz]at this;exact this
 have f7o:(h4.offS out) b7=some (.inl ⟨aw M,5,false⟩):=bM out l4 _ _ (l3 _ _ (K2.at (.head _)))
 have hpvo:fX (h4.offS out) vt (od m):=hpv.offB pn hbuf (hbuf.mono l4)
 replace hbuf:=hbuf.mono l4
 replace hts: ∀(j p:Nat) (t:Sl),(stP m)[j]?=some p->ts[j]?=some t->IntS (h4.offS out) t (VL (List.replicate (aK m.nodes p) 0)):=fun j p t hp ht=>by
  have:=(hts j t ht).mono (bM out l4)
  rwa [Jr hp]at this
 have l04:h.le (h4.offS out):=Hp.le_trans K2.le (Hp.le_trans l3 (bM out l4))
 have ipo:IntS (h4.offS out) pt (VL (stP m)):=ip.mono (Hp.le_trans l3 (bM out l4))
 clear K3 K2 hb7 l1 l2 l3' hpv pn ip l4 l3 f7
 refine av (stP m).length (fun i vs h'=> ∃ts:List Sl,vs= [.pointer (some ⟨b7,0,none⟩),pt.v,out.v,vt.v,I (i:Nat)]/\(h4.offS out).le (h'.offS out)/\Buf h' out 1 (ts.map Sl.v)/\ts.length=(stP m).length/\
  ∀(j p:Nat) (t:Sl),(stP m)[j]?=some p->ts[j]?=some t->IntS (h'.offS out) t (VL (if j<i then(eU m p).getD (List.replicate (aK m.nodes p) 0)else List.replicate (aK m.nodes p) 0)))
  ⟨ts,rfl,Hp.le_refl _,hbuf,htl,fun j p t hp ht=>by rw [if_neg (by omega)];exact hts j p t hp ht⟩ ?_
 clear hbuf hts htl ts
 rintro i _ h5 next hi ⟨ts,rfl,l45,hbuf,htl,hts⟩ hnx
 have lo:=bk h5 out
 have l5:=Hp.le_trans l45 lo
 refine⟨b7,0,pt,out,vt,_,rfl,?_⟩
 by_cases hlt:i<(stP m).length
 rotate_left
 ·obtain rfl:i=(stP m).length:=by omega
  refine aD (by rw [decide_eq_false_iff_not];omega) ?_
  refine k out h5 (Hp.le_trans l04 l5) ⟨ts,by rw [List.length_map,IG];exact htl,hbuf.slc_of (by omega),fun j h1 h2=>?_⟩
  have hj:j<(stP m).length:=by omega
  obtain⟨p,hp⟩: ∃p,(stP m)[j]?=some p:=⟨_,List.getElem?_eq_getElem hj⟩
  have:=(hts j p _ hp (List.getElem?_eq_getElem h1)).mono lo
  rw [if_pos hj,<-T2 m hp,List.getD_eq_getElem?_getD,List.getElem?_eq_getElem (by rw [IG];exact hj)]at this
  rw [List.getElem_map];exact this
 refine aJ (by rw [decide_eq_true_eq];omega) ?_
 obtain⟨p,hpi⟩: ∃p,(stP m)[i]?=some p:=⟨_,List.getElem?_eq_getElem hlt⟩
 have hpm:=cH g 36 p (List.mem_of_getElem? hpi)
 obtain⟨bp,op,hap,hcp⟩:=(ipo.mono l5).get (gn hpi)
 have K5:=Kn.of l5
 have f7:=l5 _ _ f7o
 have K05:=Kn.of (g:=h4.offS out) l5
 refine⟨bp,op,hap,by omega,by omega,?_⟩
 repeat' (refine kr_ ?_)
 refine⟨_,by rw [Int.toNat_natCast];exact hcp,?_⟩
 have hbn: ∀b∈m.inits,0<=b.node:=fun b hb=>(tW g hb).1
 refine m8 (hs.mono (Hp.le_trans l04 l5)).inits (by omega) hbn ⟨_,rfl,?_⟩
 cases hbo:ce m.inits p with
 |none=>
  rw [show iL m.inits p= -1 from by unfold iL;rw [hbo]]
  refine aD (by simp) ?_
  rw [aA (by omega)]
  refine hnx hlt _ _ ⟨ts,rfl,l45,hbuf,htl,fun j p' t hp ht=>?_⟩
  have:=hts j p' t hp ht
  by_cases hj:j<i
  ·rw [if_pos hj]at this;rw [if_pos (by omega)];exact this
  ·rw [if_neg hj]at this
   by_cases hj2:j=i
   ·subst hj2
    rw [hpi]at hp
    obtain rfl:=Option.some.inj hp
    rw [if_pos (by omega),show eU m p=none by unfold eU;rw [hbo];rfl];exact this
   ·rw [if_neg (by omega)];exact this
 |some q=>
  rw [show iL m.inits p=(q:Int)from by unfold iL;rw [hbo]]
  refine aJ (by simp) ?_
  obtain⟨hq,v3,v4⟩:=ON g hbo
  obtain⟨bv,ov,u,hua,hun,huc,huv⟩:=(hpvo.mono l5).at (p:=(q:Int)) (by omega) (by rw [(ww g).len];omega)
  rw [Int.toNat_natCast]at huv
  obtain⟨t,hti⟩: ∃t,ts[i]?=some t:=⟨_,List.getElem?_eq_getElem (by omega)⟩
  have htI:=hts i p t hpi hti
  rw [if_neg (by omega)]at htI
  have htn:=htI.len
  rw [bz,List.length_replicate]at htn
  have hc4:=dj m.nodes p
  refine⟨bv,ov,hua,by omega,hun,?_⟩
  rcases hbuf.2.2 with ⟨_,h0,_⟩|⟨bo,hao,hbo'⟩
  ·omega
  refine⟨bo,0,hao,by omega,by omega,u,huc,t,by rw [aq hbo',Int.toNat_natCast,Nat.zero_add,Nat.mul_one,List.getElem?_map,hti];rfl,?_⟩
  rw [htn]
  refine DE huv v3 v4 hc4 fun t2 h6 l6 ht2=>⟨_,rfl,?_⟩
  have l6o:=bM out l6
  have hbuf6:=hbuf.mono l6
  refine hbuf6.wr (x:=t2) (by omega) fun h7 hbuf' ho=>?_
  rw [aA (by omega)]
  refine hnx hlt _ _ ⟨ts.set i t2,rfl,by rw [ho];exact Hp.le_trans l45 l6o,hbuf',by rw [List.length_set];exact htl,fun j p' w hp hw=>?_⟩
  rw [ho]
  by_cases hji:j=i
  ·subst hji
   rw [hpi]at hp
   obtain rfl:=Option.some.inj hp
   rw [List.getElem?_set_self (by omega)]at hw
   obtain rfl:=Option.some.inj hw
   rw [if_pos (by omega),show eU m p=some (mT (aK m.nodes p) ((od m).getD q [])) by unfold eU;rw [hbo];rfl]
   exact ht2.offL hbuf6
  ·rw [List.getElem?_set_ne (fun e=>hji e.symm)]at hw
   have:=(hts j p' w hp hw).mono l6o
   by_cases hj:j<i
   ·rw [if_pos hj]at this;rw [if_pos (by omega)];exact this
   ·rw [if_neg hj]at this;rw [if_neg (by omega)];exact this
theorem Ol {h:Hp} {M:MSl} {m:ai} {x:Int} {R:Value->Hp->Prop} (hs:aN h M m) (hm:bW m) (hc:ax m≠0)
  (k: ∀h',h.le h'->R (.tuple #[.slice none 0 0, .bool false]) h'):ek #[aO M,I x] h R:=by
 apply xu
 refine uf_ ?_
 have K0:=Kn.nil h
 (with_reducible apply Kn.al);(assumption);(intro b8 h1 K1 l1 hb8)
 refine ap (fun J=>J true h1) (aJ rfl (k h1 l1)) (fun J hJ=>?_)
 repeat' (refine kr_ ?_)
 refine aX (hs.mono l1) hm ⟨_,rfl,?_⟩
 exact aJ (by rw [bne_iff_ne];exact hc) hJ
def ud (m:ai):Nat->List Int->List (Nat×Nat)
 |_, []=> []
 |s,y::r=>(s,y.toNat)::ud m (lK m s y.toNat) r
def lC (m:ai) (x:Int) (ys:List Int):Bool:=
 decide (1<=(ys.length:Int)/\(ys.length:Int)<=301)&&(decide (ax m=0)&&(jt (ak m.nodes 36) x&&ys.all (jt (ak m.nodes 35))))
def sP (m:ai) (x:Int) (ys:List Int):List (Nat×Nat):=if lC m x ys then ud m x.toNat ys else []
theorem Hi (m:ai): ∀(ys:List Int) (s:Nat),(ud m s ys).length=ys.length:=by
 intro ys
 induction ys with
 |nil=>intro s;rfl
 |cons y r ih=>intro s;show (_::ud m _ r).length=_;rw [List.length_cons,ih,List.length_cons]
theorem PT {m:ai} {x:Int} {ys:List Int} (h:lC m x ys=false):sP m x ys= []:=by unfold sP;rw [h];rfl
theorem wx {m:ai} (g:dP m) (s i:Nat):lK m s i<2^ak m.nodes 36:=by
 have:=Ax (oW g (eD g s i).fit)
 rwa [fu g]at this
set_option maxHeartbeats 2000000 in
theorem rC {h:Hp} {M:MSl} {m:ai} {s:Sl} {x:Int} {ys:List Int} {R:Value->Hp->Prop} (hs:aN h M m) (hm:bW m) (hy:IntS h s ys)
  (k: ∀sS sI h',TrG h h' sS sI (sP m x ys)->R (Gy sS sI (lC m x ys)) h'):lZ #[aO M,I x,s.v] h R:=by
 apply En
 refine uf_ ?_
 have hn:=hy.len
 have K0:=Kn.nil h
 (with_reducible apply Kn.al);(assumption);(intro b9 h1 K1 l1 hb9)
 (with_reducible apply Kn.al);(assumption);(intro b11 h2 K2 l2 hb11)
 clear K0 K1
 have no: ∀{h':Hp},lC m x ys=false->Kn h h' [(b11, .inl ⟨[(⟨none,0,0⟩:Sl).v,(⟨none,0,0⟩:Sl).v],2,false⟩),(b9, .inl ⟨aw M,5,false⟩)]->
   ∃(cs:List Value) (z:Nat),h' b11=some (.inl ⟨cs,z,false⟩)/\0+2<=cs.length/\cu (h'.row b11 (cv cs 0 [.slice none 0 0, .slice none 0 0]) z) fun h3=> ∃s1:Sl,Hp.cell h3 b11 0=some s1.v/\ ∃s2:Sl,Hp.cell h3 b11 1=some s2.v/\R (.tuple #[.agg #[s1.v,s2.v], .bool false]) h3:=by
  intro h' e K'
  have k':=k
  rw [PT e,e]at k'
  refine kw_ ?_
  intro h3 K3 _
  exact⟨⟨none,0,0⟩,by rw [aq (K3.at (.head _))];rfl,⟨none,0,0⟩,by rw [aq (K3.at (.head _))];rfl,k' ⟨none,0,0⟩ ⟨none,0,0⟩ h3 (TrG.nil K3.le)⟩
 rw [hn]
 refine dx ⟨_,rfl,ac (fun e=>?_) (fun e=>?_)⟩
 ·refine no (by rw [Bool.not_eq_true']at e;unfold lC;rw [e,Bool.false_and]) K2
 rw [Bool.not_eq_false']at e
 have e1:=of_decide_eq_true e
 repeat' (refine kr_ ?_)
 by_cases hc:ax m=0
 rotate_left
 ·refine Ol (hs.mono K2.le) hm hc fun h3 l3=>⟨⟨none,0,0⟩,_,rfl,?_⟩
  exact aJ rfl (no (by unfold lC;rw [decide_eq_false hc,Bool.false_and,Bool.and_false]) (K2.mono l3))
 refine Dw (hs.mono K2.le) hm hc fun s0 h3 l3=>⟨_,_,rfl,?_⟩
 have K3:=K2.mono l3
 clear K2
 refine ac (fun e=>?_) (fun e2=>?_)
 ·refine no (by rw [Bool.not_eq_true']at e;unfold lC;rw [e,Bool.false_and,Bool.and_false,Bool.and_false]) K3
 rw [Bool.not_eq_false']at e2
 have g:=co hc
 have hok:lC m x ys=ys.all (jt (ak m.nodes 35)):=by
  unfold lC
  rw [e,decide_eq_true hc,e2];rfl
 have hxr:=ia.1 e2
 have n8:=g.n8
 have k5:=g.k5
 have hp8:2^ak m.nodes 36<=2^8:=Nat.pow_le_pow_right (by omega) n8
 have hp5:2^ak m.nodes 35<=2^5:=Nat.pow_le_pow_right (by omega) k5
 (with_reducible apply Kn.al);(exact Kn.nil h3);(intro b43 h4 K4 l4 hb43)
 have f9:=K3.at (b:=b9) (by((focus ((repeat first|exact .head _|apply List.Mem.tail);done))))
 have f11:=K3.at (b:=b11) (by((focus ((repeat first|exact .head _|apply List.Mem.tail);done))))
 have hs3:=hs.mono K3.le
 have hy3:=hy.mono K3.le
 refine av ys.length (fun i vs h'=> ∃(pre:List (Nat×Nat)) (cur:Nat) (sS sI:Sl) (XS XI:List (Nat×Blk)),
  vs= [I cur,s.v, .pointer (some ⟨b9,0,none⟩), .pointer (some ⟨b11,0,none⟩), .pointer (some ⟨b43,0,none⟩),I (i:Nat)]/\Kn h3 h' ((b43, .inl ⟨[sS.v,sI.v],2,false⟩)::(XS++(XI++ [])))/\
  cD XS sS 1 ((VL (pre.map Prod.fst)).map I)/\cD XI sI 1 ((VL (pre.map Prod.snd)).map I)/\pre.length=i/\cur<2^ak m.nodes 36/\(ys.take i).all (jt (ak m.nodes 35))=true/\pre++ud m cur (ys.drop i)=ud m x.toNat ys)
  ⟨[],x.toNat,⟨none,0,0⟩,⟨none,0,0⟩, [], [],by rw [Int.toNat_of_nonneg hxr.1];rfl,K4,cE 1,cE 1,rfl,by omega,by simp,rfl⟩ ?_
 clear K4 l4 hb43 h4
 rintro i _ h4 next hi ⟨pre,cur,sS,sI,XS,XI,rfl,K,oS,oI,hpl,hcur,hall,hrun⟩ hnx
 refine⟨_,s,b9,0,b11,0,b43,0,_,rfl,?_⟩
 have hpl1:=oS.1
 have hpl2:=oI.1
 simp only [List.length_map,bz,Nat.mul_one]at hpl1 hpl2
 rw [hn]
 by_cases hlt:i<ys.length
 rotate_left
 ·obtain rfl:i=ys.length:=by omega
  refine aD (by rw [decide_eq_false_iff_not];omega) ?_
  rw [List.take_of_length_le (Nat.le_refl _)]at hall
  rw [List.drop_length]at hrun
  replace hrun:pre=ud m x.toNat ys:=by rw [<-hrun];exact(List.append_nil pre).symm
  (refine kr_ ?_)
  (refine kr_ ?_)
  have K2':=K3.mono K.le
  (with_reducible apply Kn.wr);(exact K2');((focus ((repeat first|exact .head|apply Upd.tail);done)))
  ·exact of_decide_eq_true rfl
  intro h5 K5 kp
  refine⟨sS,by rw [aq (K5.at (.head _))];rfl,sI,by rw [aq (K5.at (.head _))];rfl,?_⟩
  have t:=UV (b6:=b11) K3.le (by rw [f11];simp) oS oI K K5.le kp
  rw [hrun]at t
  have:=k sS sI h5 (by unfold sP;rw [hok,hall];exact t)
  rwa [hok,hall]at this
 refine aJ (by rw [decide_eq_true_eq];omega) ?_
 obtain⟨y,hyi⟩: ∃y,ys[i]?=some y:=⟨_,List.getElem?_eq_getElem hlt⟩
 obtain⟨ba,oa,ha,hca⟩:=(hy3.mono K.le).get hyi
 refine⟨ba,oa,ha,by omega,by omega,?_⟩
 repeat' (refine kr_ ?_)
 refine⟨_,by rw [Int.toNat_natCast];exact hca,?_⟩
 refine Dd (hs3.mono K.le) hm hc fun s1 h5 l5=>⟨_,_,rfl,?_⟩
 have K5:=K.mono l5
 clear K
 refine ac (fun e=>?_) (fun e=>?_)
 ·refine no ?_ (K3.mono K5.le)
  rw [Bool.not_eq_true']at e
  rw [hok]
  exact uw hyi e
 rw [Bool.not_eq_false']at e
 have hyr:=ia.1 e
 (refine kr_ ?_)
 refine Kn.al K5 fun b87 h6 K6 l6 hb87=>?_
 have f87:=K6.at (.head _)
 refine Kn.growIn (A:= [_,_]) K6 oS (by omega) (by omega) (by omega) ⟨b87,0,rfl,ay f87⟩ rfl rfl fun sS' XS' h7 hnS oS' K7 l7=>?_
 simp only [List.cons_append,List.nil_append]at K7
 clear K6 l6 hb87 f87 K5 l5
 (((with_reducible apply Kn.wr);(assumption);((focus ((repeat first|exact .head|apply Upd.tail);done)))))
 ·simp
 intro h8 K8 _
 simp only [bP,List.set_cons_zero,List.set_cons_succ,Nat.zero_add,Nat.reduceAdd]at K8
 clear K7 l7
 obtain⟨ba,oa,ha,hca⟩:=hy3.get hyi
 have xba:=gp hca
 refine⟨ba,oa,ha,by omega,by omega,?_⟩
 (refine kr_ ?_)
 refine⟨_,by rw [Int.toNat_natCast];exact K8.le.cell hca,?_⟩
 refine Kn.al K8 fun b98 h9 K9 l9 hb98=>?_
 repeat' (refine kr_ ?_)
 have f98:=K9.at (.head _)
 refine Kn.growIn2 (A:= [_,_,_]) K9 oI (by omega) (by omega) (by omega) ⟨b98,0,rfl,ay f98⟩ rfl rfl fun sI' XI' h10 hnI oI' K10 l10=>?_
 simp only [List.cons_append,List.nil_append]at K10
 clear K9 l9 hb98 f98 K8
 (((with_reducible apply Kn.wr);(assumption);((focus ((repeat first|exact .head|apply Upd.tail);done)))))
 ·simp
 intro h11 K11 _
 simp only [bP,List.set_cons_zero,List.set_cons_succ,Nat.zero_add,Nat.reduceAdd]at K11
 clear K10 l10
 have nd:=K11.nd
 have KS:Kn h3 h11 ((b43, .inl ⟨[sS'.v,sI'.v],2,false⟩)::(XS'++(XI'++ []))):=by
  refine K11.sub (fun e he=> .tail _ (.tail _ he)) ?_
  simp only [List.map_cons,List.nodup_cons]at nd⊢
  exact nd.2.2
 obtain⟨ba,oa,ha,hca⟩:=(hy3.mono KS.le).get hyi
 clear K11
 refine⟨ba,oa,ha,by omega,by omega,?_⟩
 repeat' (refine kr_ ?_)
 refine⟨_,by rw [Int.toNat_natCast];exact hca,?_⟩
 obtain⟨c,rfl⟩: ∃c:Nat,y=c:=⟨y.toNat,by omega⟩
 refine Dt (hs3.mono KS.le) hm g (by omega) (by omega) ⟨_,rfl,?_⟩
 rw [aA (by omega)]
 refine hnx hlt _ _ ⟨pre++ [(cur,c)],lK m cur c,sS',sI',XS',XI',rfl,KS,by simpa [VL] using oS',by simpa [VL] using oI',by simp;omega,wx g _ _,Cx hyi e hall,?_⟩
 rw [<-hrun,List.append_assoc]
 rw [List.drop_eq_getElem_cons hlt]
 have hyi':ys[i]=(c:Int):=by rw [List.getElem?_eq_getElem hlt]at hyi;exact Option.some.inj hyi
 rw [hyi'];rfl
theorem cD.one {X:List (Nat×Blk)} {s:Sl} {sz:Nat} {cs:List Value} (o:cD X s sz cs) (hn:s.n≠0): ∃b,s.a=some ⟨b,0,none⟩/\X= [(b, .inl ⟨cs,s.c*sz,false⟩)]:=by
 rcases o.2.2 with ⟨_,rfl,_⟩|h
 ·exact absurd rfl hn
 ·exact h
theorem Kn.ints {g h:Hp} {L:List (Nat×Blk)} {s:Sl} {b z:Nat} {ro:Bool} {xs:List Int} (K:Kn g h L) (m:(b, .inl ⟨xs.map I,z,ro⟩)∈L) (ha:s.a=some ⟨b,0,none⟩) (hn:xs.length=s.n) (hl:s.n<=1000000):IntS h s xs:=
 ⟨by omega,by rw [List.length_map,Nat.mul_one];exact hn, .inr ⟨b,0,ha,ay (K.at m)⟩⟩
theorem tY {l:List (Nat×Nat)} {f:Nat×Nat->Nat} {i:Nat} {a:Nat×Nat} (h:l[i]?=some a):(VL (l.map f))[i]?=some ((f a:Nat):Int):=Hc (by rw [List.getElem?_map,h];rfl)
set_option maxHeartbeats 1000000 in
theorem zQ {h:Hp} {M:MSl} {m:ai} {s:Sl} {x:Int} {ys:List Int} {R:Value->Hp->Prop} (hs:aN h M m) (hm:bW m) (hy:IntS h s ys)
  (k: ∀sS sI h',TrX h h' sS sI (sP m x ys)->sS.n<=sS.c->R (Gy sS sI (lC m x ys)) h'):qv #[aO M,I x,s.v] h R:=by
 apply EJ
 refine uf_ ?_
 have hn:=hy.len
 (with_reducible apply Kn.al);(exact Kn.nil h);(intro b9 h1 K1 l1 hb9)
 refine Kn.al K1 fun b11 h2 K2 l2 hb11=>?_
 clear K1 l1 l2
 refine ap (fun J=> ∀(c:Bool) h',c=(!lC m x ys)->(c=false->ax m=0)->Kn h h' [(b11, .inl ⟨[(⟨none,0,0⟩:Sl).v,(⟨none,0,0⟩:Sl).v],2,false⟩),(b9, .inl ⟨aw M,5,false⟩)]->J c h') (fun c h3 hc0 hc1 K3=>?_) (fun J hJ=>?_)
 rotate_left
 ·repeat' (refine kr_ ?_)
  refine k9 (hs.mono K2.le) hm ⟨_,rfl,?_⟩
  by_cases hc:ax m=0
  rotate_left
  ·refine aJ (by rw [bne_iff_ne];exact hc) (hJ true h2 ?_ (fun e=>nomatch e) K2)
   unfold lC
   rw [decide_eq_false hc,Bool.false_and,Bool.and_false];rfl
  refine aD (by rw [hc];rfl) ?_
  have g:=co hc
  have n8:=g.n8
  have k5:=g.k5
  refine Kn.al K2 fun b22 h3 K3 l3 hb22=>?_
  clear K2
  repeat' (refine kr_ ?_)
  have hJ': ∀c,c=(!lC m x ys)->J c h3:=fun c e=>hJ c h3 e (fun _=>hc) K3.tl
  refine eP (hs.mono K3.le) hm ⟨_,rfl,?_⟩
  have i22:IntS h3 ⟨some ⟨b22,0,none⟩,1,1⟩ [x]:=IntS.one (K3.at (.head _))
  refine vh (s:=⟨some ⟨b22,0,none⟩,1,1⟩) (n:=ak m.nodes 36) i22 (by omega) ⟨_,rfl,?_⟩
  have e0: [x].all (jt (ak m.nodes 36))=jt (ak m.nodes 36) x:=by simp
  rw [e0]
  unfold lC at hJ'
  rw [decide_eq_true hc]at hJ'
  refine ac (fun e=>hJ' _ ?_) (fun e=>?_)
  ·rw [Bool.not_eq_true']at e
   rw [e,Bool.false_and,Bool.and_false,Bool.and_false];rfl
  rw [Bool.not_eq_false']at e
  rw [e]at hJ'
  clear e e0
  rw [hn]
  refine fv ⟨_,rfl,ac (fun e=>hJ' _ ?_) (fun e=>?_)⟩
  ·rw [Bool.not_eq_true']at e
   rw [e,Bool.false_and];rfl
  rw [Bool.not_eq_false']at e
  rw [e]at hJ'
  repeat' (refine kr_ ?_)
  refine eP (hs.mono K3.le) hm ⟨_,rfl,?_⟩
  exact vh (hy.mono K3.le) (by omega) ⟨_,rfl,hJ' _ (by rw [Bool.true_and,Bool.true_and,Bool.true_and])⟩
 clear K2 hb9 hb11
 refine ac (fun e=>?_) (fun e=>?_)
 ·have e':lC m x ys=false:=by rw [e]at hc0;simpa using hc0.symm
  rw [PT e',e']at k
  refine kw_ ?_
  intro h4 K4 _
  exact⟨⟨none,0,0⟩,by rw [aq (K4.at (.head _))];rfl,⟨none,0,0⟩,by rw [aq (K4.at (.head _))];rfl,k ⟨none,0,0⟩ ⟨none,0,0⟩ h4 (TrX.nil K4.le) (Nat.le_refl _)⟩
 have hc:=hc1 e
 have hok:lC m x ys=true:=by rw [e]at hc0;simpa using hc0.symm
 clear e hc0 hc1 c
 rw [hok]at k
 unfold sP at k
 rw [hok,if_pos rfl]at k
 unfold lC at hok
 simp only [Bool.and_eq_true,decide_eq_true_eq]at hok
 obtain⟨hl,_,hx,hall⟩:=hok
 have g:=co hc
 have n8:=g.n8
 have k5:=g.k5
 have hp8:2^ak m.nodes 36<=2^8:=Nat.pow_le_pow_right (by omega) n8
 have hp5:2^ak m.nodes 35<=2^5:=Nat.pow_le_pow_right (by omega) k5
 have hxr:=ia.1 hx
 repeat' (refine kr_ ?_)
 refine dS (hs.mono K3.le) hm fun ps h4 l4 ips=>⟨_,rfl,?_⟩
 have K4:=K3.mono l4
 clear K3
 have f9:=K4.at (b:=b9) (by((focus ((repeat first|exact .head _|apply List.Mem.tail);done))))
 have f11:=K4.at (b:=b11) (by((focus ((repeat first|exact .head _|apply List.Mem.tail);done))))
 have hs4:=hs.mono K4.le
 have hy4:=hy.mono K4.le
 (with_reducible apply Kn.al);(exact Kn.nil h4);(intro b68 h5 K5 l5 hb68)
 rw [hn]
 refine av ys.length (fun i vs h'=> ∃(pre:List (Nat×Nat)) (cur:Nat) (sS sI:Sl) (XS XI:List (Nat×Blk)),
  vs= [I cur, .pointer (some ⟨b9,0,none⟩), .pointer (some ⟨b11,0,none⟩),ps.v, .pointer (some ⟨b68,0,none⟩),s.v,I ((ys.length:Nat):Int),I (i:Nat)]/\Kn h4 h' ((b68, .inl ⟨[sS.v,sI.v],2,false⟩)::(XS++(XI++ [])))/\
  cD XS sS 1 ((VL (pre.map Prod.fst)).map I)/\cD XI sI 1 ((VL (pre.map Prod.snd)).map I)/\pre.length=i/\cur<2^ak m.nodes 36/\pre++ud m cur (ys.drop i)=ud m x.toNat ys)
  ⟨[],x.toNat,⟨none,0,0⟩,⟨none,0,0⟩, [], [],by rw [Int.toNat_of_nonneg hxr.1];rfl,K5,cE 1,cE 1,rfl,by omega,rfl⟩ ?_
 clear K5 l5 hb68 h5 l4
 rintro i _ h5 next hi ⟨pre,cur,sS,sI,XS,XI,rfl,K,oS,oI,hpl,hcur,hrun⟩ hnx
 refine⟨_,b9,0,b11,0,ps,b68,0,s,_,_,rfl,?_⟩
 have hpl1:=oS.1
 have hpl2:=oI.1
 simp only [List.length_map,bz,Nat.mul_one]at hpl1 hpl2
 by_cases hlt:i<ys.length
 rotate_left
 ·obtain rfl:i=ys.length:=by omega
  refine aD (by rw [decide_eq_false_iff_not];omega) ?_
  rw [List.drop_length]at hrun
  replace hrun:pre=ud m x.toNat ys:=by rw [<-hrun];exact(List.append_nil pre).symm
  (refine kr_ ?_)
  (refine kr_ ?_)
  have t:TrG h4 h5 sS sI pre:=by
   have nd:=K.nd
   rw [List.map_cons,List.nodup_cons]at nd
   exact⟨XS,XI,oS,oI,K.le,fun e he=>K.mem e (.tail _ he),fun e he=>K.new e (.tail _ he),nd.2⟩
  refine vH (t.tr (by omega)) (by omega) fun tS tI h6 t6 c6=>⟨_,_,rfl,?_⟩
  have K6:=K4.mono (Hp.le_trans K.le t6.le)
  (with_reducible apply Kn.wr);(exact K6);((focus ((repeat first|exact .head|apply Upd.tail);done)))
  ·exact of_decide_eq_true rfl
  intro h7 K7 kp
  refine⟨tS,by rw [aq (K7.at (.head _))];rfl,tI,by rw [aq (K7.at (.head _))];rfl,?_⟩
  refine k tS tI h7 ?_ c6
  rw [<-hrun]
  exact t6.up (Hp.le_trans K4.le K.le) (by rw [K.le _ _ f11];simp) K7.le kp
 refine aJ (by rw [decide_eq_true_eq];omega) ?_
 obtain⟨y,hyi⟩: ∃y,ys[i]?=some y:=⟨_,List.getElem?_eq_getElem hlt⟩
 have hyr:=ia.1 (List.all_eq_true.1 hall y (List.mem_of_getElem? hyi))
 obtain⟨ba,oa,ha,hca⟩:=(hy4.mono K.le).get hyi
 refine⟨ba,oa,ha,by omega,by omega,_,by rw [Int.toNat_natCast];exact hca,?_⟩
 (refine kr_ ?_)
 refine Kn.al K fun b87 h6 K6 l6 hb87=>?_
 have f87:=K6.at (.head _)
 refine Kn.growIn (A:= [_,_]) K6 oS (by omega) (by omega) (by omega) ⟨b87,0,rfl,ay f87⟩ rfl rfl fun sS' XS' h7 hnS oS' K7 l7=>?_
 simp only [List.cons_append,List.nil_append]at K7
 clear K6 l6 hb87 f87 K
 (((with_reducible apply Kn.wr);(assumption);((focus ((repeat first|exact .head|apply Upd.tail);done)))))
 ·simp
 intro h8 K8 _
 simp only [bP,List.set_cons_zero,List.set_cons_succ,Nat.zero_add,Nat.reduceAdd]at K8
 clear K7 l7
 (refine kr_ ?_)
 refine Kn.al K8 fun b98 h9 K9 l9 hb98=>?_
 have f98:=K9.at (.head _)
 refine Kn.growIn2 (A:= [_,_,_]) K9 oI (by omega) (by omega) (by omega) ⟨b98,0,rfl,ay f98⟩ rfl rfl fun sI' XI' h10 hnI oI' K10 l10=>?_
 simp only [List.cons_append,List.nil_append]at K10
 clear K9 l9 hb98 f98 K8
 (((with_reducible apply Kn.wr);(assumption);((focus ((repeat first|exact .head|apply Upd.tail);done)))))
 ·simp
 intro h11 K11 _
 simp only [bP,List.set_cons_zero,List.set_cons_succ,Nat.zero_add,Nat.reduceAdd]at K11
 clear K10 l10
 have nd:=K11.nd
 have KS:Kn h4 h11 ((b68, .inl ⟨[sS'.v,sI'.v],2,false⟩)::(XS'++(XI'++ []))):=by
  refine K11.sub (fun e he=> .tail _ (.tail _ he)) ?_
  simp only [List.map_cons,List.nodup_cons]at nd⊢
  exact nd.2.2
 clear K11 nd ha hca
 have x9:=eF f9
 have ips4:=ips
 obtain⟨c,rfl⟩: ∃c:Nat,y=c:=⟨y.toNat,by omega⟩
 repeat' (refine kr_ ?_)
 refine sm (hs4.mono KS.le) hm g.ok (ips.mono KS.le) (cH g 36) (iw g 36) (by omega) fun u1 h12 l12 iu1 cu1=>⟨_,rfl,?_⟩
 have K12:=KS.mono l12
 repeat' (refine kr_ ?_)
 refine dS (hs4.mono K12.le) hm fun pi h13 l13 ipi=>⟨_,rfl,?_⟩
 have K13:=K12.mono l13
 repeat' (refine kr_ ?_)
 refine sm (hs4.mono K13.le) hm g.ok ipi (cH g 35) (iw g 35) (by omega) fun u2 h14 l14 iu2 cu2=>⟨_,rfl,?_⟩
 have K14:=K13.mono l14
 repeat' (refine kr_ ?_)
 refine xV (hs4.mono K14.le) hm g.ok g.nl (iu1.mono (Hp.le_trans l13 l14)) cu1 (lc 36 cur g) iu2 cu2 (lc 35 c g) fun t h15 l15 _ hpv=>⟨_,rfl,?_⟩
 have K15:=K14.mono l15
 replace hpv:fX h15 t (cK m cur c):=hpv
 repeat' (refine kr_ ?_)
 refine DC (hs4.mono K15.le) hm g hpv (eD g cur c) fun out h16 l16 io=>⟨_,rfl,?_⟩
 have K16:=K15.mono l16
 repeat' (refine kr_ ?_)
 refine BM (hs4.mono K16.le) hm g.ok (ips4.mono K16.le) (cH g 36) (iw g 36) io (oW g (eD g cur c).fit) (by rw [fu g];omega) ⟨_,rfl,?_⟩
 rw [aA (by omega)]
 refine hnx hlt _ _ ⟨pre++ [(cur,c)],lK m cur c,sS',sI',XS',XI',rfl,K16,by simpa [VL] using oS',by simpa [VL] using oI',by simp;omega,wx g _ _,?_⟩
 rw [<-hrun,List.append_assoc]
 rw [List.drop_eq_getElem_cons hlt]
 have hyi':ys[i]=(c:Int):=by rw [List.getElem?_eq_getElem hlt]at hyi;exact Option.some.inj hyi
 rw [hyi'];rfl
theorem YD {m:ai} (g:dP m): ∀(ys:List Int) (s i:Nat) (a:Nat×Nat),(∀y∈ys,0<=y)->s<2^ak m.nodes 36->(ud m s ys)[i]?=some a->a.1<2^ak m.nodes 36/\ys[i]?=some (a.2:Int)/\(i=0->a.1=s)/\ ∀b,(ud m s ys)[i+1]?=some b->b.1=lK m a.1 a.2:=by
 intro ys
 induction ys with
 |nil=>intro s i a _ _ h;simp [ud]at h
 |cons y r ih=>
  intro s i a hy hs h
  have hy0:=hy y (List.mem_cons_self ..)
  cases i with
  |zero=>
   simp [ud]at h
   subst h
   refine⟨hs,by simp [Int.toNat_of_nonneg hy0],fun _=>rfl,fun b hb=>?_⟩
   cases r with
   |nil=>simp [ud]at hb
   |cons z r=>
    simp [ud]at hb
    subst hb;rfl
  |succ i=>
   have h':(ud m (lK m s y.toNat) r)[i]?=some a:=by simpa [ud] using h
   obtain⟨h1,h2,h3,h4⟩:=ih _ i a (fun z hz=>hy z (List.mem_cons_of_mem _ hz)) (wx g _ _) h'
   exact⟨h1,by simpa using h2,fun e=>by omega,fun b hb=>h4 b (by simpa [ud] using hb)⟩
theorem Sz {m:ai} {x:Int} {ys:List Int} (hok:lC m x ys=true):(∃c:Nat,x=c/\c<2^ak m.nodes 36/\ax m=0/\(hG (stP m) (eU m) (gj m.nodes (stP m) c) (stP m).length=false->ey m (VL ((sP m x ys).map Prod.fst)) (VL ((sP m x ys).map Prod.snd))=2)/\
  (hG (stP m) (eU m) (gj m.nodes (stP m) c) (stP m).length=true->ey m (VL ((sP m x ys).map Prod.fst)) (VL ((sP m x ys).map Prod.snd))=0\/ey m (VL ((sP m x ys).map Prod.fst)) (VL ((sP m x ys).map Prod.snd))=4\/ey m (VL ((sP m x ys).map Prod.fst)) (VL ((sP m x ys).map Prod.snd))=5))/\
  VL ((sP m x ys).map Prod.snd)=ys:=by
 unfold sP
 rw [hok,if_pos rfl]
 unfold lC at hok
 simp only [Bool.and_eq_true,decide_eq_true_eq]at hok
 obtain⟨hl,hc,hx,hall⟩:=hok
 have g:=co hc
 have hxr:=ia.1 hx
 have hyr: ∀y∈ys,0<=y/\y<(2^ak m.nodes 35:Nat):=fun y hy=>ia.1 (List.all_eq_true.1 hall y hy)
 obtain⟨c,rfl⟩: ∃c:Nat,x=c:=⟨x.toNat,by omega⟩
 rw [Int.toNat_natCast]
 have hcl:c<2^ak m.nodes 36:=by omega
 have hat:=fun i a h=>YD g ys c i a (fun y hy=>(hyr y hy).1) hcl h
 have hrl:=Hi m ys c
 generalize hrr:ud m c ys=rr at*
 have hsnd:VL (rr.map Prod.snd)=ys:=by
  refine List.ext_getElem? fun i=>?_
  rcases Nat.lt_or_ge i ys.length with hi|hi
  ·obtain⟨a,ha⟩: ∃a,rr[i]?=some a:=⟨_,List.getElem?_eq_getElem (by omega)⟩
   rw [tY ha,(hat i a ha).2.1]
  ·rw [List.getElem?_eq_none hi,List.getElem?_eq_none (by rw [bz,List.length_map];omega)]
 refine⟨⟨c,rfl,hcl,hc,?_⟩,hsnd⟩
 rw [hsnd]
 have hal:(VL (rr.map Prod.fst)).length=ys.length:=by rw [bz,List.length_map];exact hrl
 have hgs: ∀i a,rr[i]?=some a->cAt (VL (rr.map Prod.fst)) i=a.1/\cAt ys i=a.2:=fun i a ha=>by
  refine⟨?_,?_⟩
  ·unfold cAt
   rw [List.getD_eq_getElem?_getD,tY ha];rfl
  ·unfold cAt
   rw [List.getD_eq_getElem?_getD,(hat i a ha).2.1];rfl
 have hsh:vA m (VL (rr.map Prod.fst)) ys=true:=by
  unfold vA
  rw [hal,decide_eq_true hc,decide_eq_true hl,decide_eq_true rfl,hall]
  simp only [Bool.true_and,Bool.and_true]
  rw [List.all_eq_true]
  intro v hv
  obtain⟨i,hi⟩:=List.getElem?_of_mem hv
  obtain⟨a,ha⟩: ∃a,rr[i]?=some a:=⟨_,List.getElem?_eq_getElem (by have:=get_lt hi;omega)⟩
  rw [tY ha]at hi
  obtain rfl:=Option.some.inj hi
  exact ia.2 ⟨by omega,by have:=(hat i a ha).1;omega⟩
 have h0:cAt (VL (rr.map Prod.fst)) 0=c:=by
  obtain⟨a,ha⟩: ∃a,rr[0]?=some a:=⟨_,List.getElem?_eq_getElem (by omega)⟩
  rw [(hgs 0 a ha).1];exact(hat 0 a ha).2.2.1 rfl
 have hst:(List.range ((VL (rr.map Prod.fst)).length-1)).all (L9 m (VL (rr.map Prod.fst)) ys)=true:=by
  rw [List.all_eq_true]
  intro i hi
  have hi':=List.mem_range.1 hi
  obtain⟨a,ha⟩: ∃a,rr[i]?=some a:=⟨_,List.getElem?_eq_getElem (by omega)⟩
  obtain⟨b,hb⟩: ∃b,rr[i+1]?=some b:=⟨_,List.getElem?_eq_getElem (by omega)⟩
  obtain⟨q1,q2,_,q4⟩:=hat i a ha
  unfold L9
  rw [(hgs i a ha).1,(hgs i a ha).2,(hgs _ b hb).1,q4 b hb]
  refine kj.2 fun j p hp v hv=>?_
  unfold lK
  rw [sJ,yl (oW g (eD g _ _).fit)]
  unfold gv kJ
  rw [List.getD_eq_getElem?_getD,List.getElem?_map,hp]
  simp [hv]
 unfold ey
 rw [h0,if_neg (by rw [hsh];decide)]
 refine⟨fun e=>by rw [if_pos e],fun e=>?_⟩
 rw [if_neg (by rw [e];decide),if_neg (by rw [hst];decide)]
 split
 ·exact .inr (.inl rfl)
 ·split
  ·exact .inr (.inr rfl)
  ·exact .inl rfl
theorem HA {h:Hp} {M:MSl} {m:ai} {R:Value->Hp->Prop} (hs:aN h M m) (hm:bW m)
  (k: ∀a b:Nat,a<=8->b<=5->R (.tuple #[I a,I b]) h):dU #[aO M] h R:=by
 by_cases hc:ax m=0
 ·have g:=co hc
  exact ja hs hm hc (k _ _ g.n8 g.k5)
 refine ACalls.drop (ug ?_)
 refine uf_ ?_
 (with_reducible apply Kn.al);(exact Kn.nil h);(intro b7 h1 K1 l1 hb7)
 repeat' (refine kr_ ?_)
 refine aX (hs.mono K1.le) hm ⟨_,rfl,?_⟩
 exact aJ (by rw [bne_iff_ne];exact hc) ⟨h,K1.le,k 0 0 (by omega) (by omega)⟩
theorem wt {a:Nat} (h:a<=8):2^a<=256/\0<2^a:=⟨Nat.pow_le_pow_right (by omega) h,Nat.two_pow_pos _⟩
set_option maxHeartbeats 4000000 in
theorem AG {h:Hp} {s:Sl} {bs:List Nat} {R:Value->Hp->Prop} (hcap:s.n<=s.c) (hs:ByteS h s bs)
  (k: ∀(h':Hp) (M:MSl) (m:ai) (x:Int) (t:Sl) (us:List Int),h.le h'->aN h' M m->bW m->IntS h' t us->R (.tuple #[aO M,I x,t.v]) h'):ld #[s.v] h R:=by
 apply yu
 refine uf_ ?_
 (with_reducible apply Kn.al);(exact Kn.nil h);(intro b3 h1 K1 l1 hb3)
 refine EU K1 hcap hs fun B h2 s' bs' hb K2=>⟨_,rfl,?_⟩
 clear K1
 refine sg K2 hb (by omega) fun h3 q X M m K3 o d hq=>⟨_,_,_,_,_,rfl,?_⟩
 clear K2
 refine Kn.al K3 fun b17 h4 K4 l4 hb17=>?_
 refine jB (M':=M) K4 (by((focus ((repeat first|exact .head|apply Upd.tail);done)))) rfl fun h5 K5=>?_
 clear K3 K4
 simp only [List.cons_append,List.nil_append]at K5
 have hm:=d.small (by omega)
 have mS: ∀{h':Hp} {p:Nat} {Y:List (Nat×Blk)},Kn h h' ((b17, .inl ⟨aw M,5,false⟩)::(B,rdC s' p)::(b3, .inl ⟨da,5,false⟩)::(Y++X))->aN h' M m:= @fun h' p Y K=>o.modelS (A:=(b17, .inl ⟨aw M,5,false⟩)::(B,rdC s' p)::(b3, .inl ⟨da,5,false⟩)::Y) hm (by simpa using K)
 replace K5:Kn h h5 ((b17, .inl ⟨aw M,5,false⟩)::(B,rdC s' q)::(b3, .inl ⟨da,5,false⟩)::([]++X)):=K5
 repeat' (refine kr_ ?_)
 refine HA (mS K5) hm fun na nb ha8 hb5=>⟨_,_,rfl,?_⟩
 have hpa:=wt ha8
 have hpb:=wt (show nb<=8 by omega)
 refine kp_ ?_
 intro x6 h6 K6 hx6 _
 replace hx6:x6<6:=by have:=hx6 (by omega);omega
 refine⟨_,rfl,?_⟩
 refine kp_ ?_
 intro x7 h7 K7 hx7 _
 refine⟨_,rfl,?_⟩
 clear K5 K6
 refine ap (fun J=> ∀(n:Nat) h' p',n<=302->p'<=q+3->Kn h h' ((b17, .inl ⟨aw M,5,false⟩)::(B,rdC s' p')::(b3, .inl ⟨da,5,false⟩)::([]++X))->J n h') (fun n h8 p8 hn hp8 K8=>?_) (fun J hJ=>?_)
 rotate_left
 ·refine ac (fun _=>?_) (fun _=>hJ x6 h7 _ (by omega) (by omega) K7)
  refine kp_ ?_
  intro z h8 K8 hz _
  replace hz:z<3:=by have:=hz (by omega);omega
  refine⟨_,rfl,?_⟩
  rw [show (300:Int)+z=((300+z:Nat):Int) by omega,et (by omega)]
  exact hJ (300+z) h8 _ (by omega) (by omega) K8
 clear K7
 refine av n (fun i vs h'=> ∃(inS:Sl) (ins:List Int) (XL:List (Nat×Blk)) (p:Nat),vs= [.pointer (some ⟨b3,0,none⟩), .pointer (some ⟨B,0,none⟩), .pointer (some ⟨b17,0,none⟩),I na,I nb,inS.v,I (n:Nat),I (i:Nat)]/\
  Kn h h' ((b17, .inl ⟨aw M,5,false⟩)::(B,rdC s' p)::(b3, .inl ⟨da,5,false⟩)::(XL++X))/\cD XL inS 1 (ins.map I)/\ins.length=i/\p<=q+3+i)
  ⟨⟨none,0,0⟩, [], [],_,rfl,K8,cE 1,rfl,by omega⟩ ?_
 clear K8
 rintro i _ h8 next hi ⟨inS,ins,XL,p,rfl,K8,oL,hil,hp⟩ hnx
 refine⟨b3,0,_,b17,0,_,_,inS,_,_,rfl,?_⟩
 have lL:=oL.1
 simp only [List.length_map,Nat.mul_one]at lL
 by_cases hlt:i<n
 ·refine aJ (by rw [decide_eq_true_eq];omega) ?_
  refine kp_ ?_
  intro y h9 K9 _ _
  refine⟨_,rfl,?_⟩
  clear K8
  rw [cl (by omega),if_neg (by omega),bD (by omega),if_neg (by omega)]
  refine Kn.al K9 fun b70 h10 K10 l10 hb70=>?_
  have f70:=K10.at (.head _)
  refine Kn.growIn (A:= [_,_,_,_]) K10 oL (by omega) (by omega) (by omega) ⟨b70,0,rfl,ay f70⟩ rfl rfl fun t' X' h11 hn' o' K11 l11=>?_
  rw [aA (by omega)]
  exact hnx hlt _ _ ⟨t',ins++ [_],X',_,rfl,K11.tl,by rw [List.map_append];exact o',by simp;omega,by omega⟩
 refine aD (by rw [decide_eq_false_iff_not];omega) ?_
 obtain rfl:i=n:=by omega
 clear hnx hlt hi
 refine ap (fun J=> ∀(c:Bool) h' p',(c=true->i≠0)->p'<=q+1000->Kn h h' ((b17, .inl ⟨aw M,5,false⟩)::(B,rdC s' p')::(b3, .inl ⟨da,5,false⟩)::(XL++X))->J c h') (fun c h9 p9 hc hp9 K9=>?_) (fun J hJ=>?_)
 rotate_left
 ·refine ac (fun e=>?_) (fun _=>hJ false h8 _ (fun e=>nomatch e) (by omega) K8)
  refine kp_ ?_
  intro z h9 K9 _ _
  exact⟨_,rfl,hJ _ h9 _ (fun _=>by have:=of_decide_eq_true e;omega) (by omega) K9⟩
 clear K8
 refine ap (fun J=> ∀(h':Hp) (p':Nat) (ins':List Int) (XL':List (Nat×Blk)),ins'.length=i->cD XL' inS 1 (ins'.map I)->p'<=q+1010->Kn h h' ((b17, .inl ⟨aw M,5,false⟩)::(B,rdC s' p')::(b3, .inl ⟨da,5,false⟩)::(XL'++X))->J h') (fun h10 p10 ins' XL' hil' oL' hp10 K10=>?_) (fun J hJ=>?_)
 rotate_left
 ·refine ac (fun e=>?_) (fun _=>hJ h9 _ ins XL hil oL (by omega) K9)
  have hi0:=hc e
  refine kp_ ?_
  intro z h10 K10 hz _
  replace hz:z<i:=by have:=hz (by omega);omega
  refine⟨_,rfl,?_⟩
  clear K9
  rw [cl (by omega),if_neg (by omega),bD (by omega)]
  refine Kn.al K10 fun b88 h11 K11 l11 hb88=>?_
  clear K10
  refine kp_ ?_
  intro y h12 K12 hy _
  replace hy:y<2:=by have:=hy (by omega);omega
  refine⟨_,rfl,b88,0,rfl,by omega,by omega,?_⟩
  clear K11
  obtain⟨v,hv⟩: ∃v:Int, [I (-1),I ((2^nb:Nat):Int)][y]?=some (I v):=by
   rcases y with _|_|y
   ·exact⟨_,rfl⟩
   ·exact⟨_,rfl⟩
   ·omega
  refine⟨v,by rw [aq (K12.at (.head _)),Int.toNat_natCast,Nat.zero_add,Nat.mul_one];exact hv,?_⟩
  obtain⟨bL,aL,rfl⟩:=oL.one (by omega)
  replace K12:=K12.tl
  simp only [List.cons_append,List.nil_append]at K12
  refine⟨bL,0,aL,by omega,by omega,?_⟩
  rw [show (0+Int.toNat (z:Int)*1)=z by simp]
  (((with_reducible apply Kn.wr);(assumption);((focus ((repeat first|exact .head|apply Upd.tail);done)))))
  ·rw [List.length_map];omega
  intro h13 K13 _
  rw [bP,<-List.map_set]at K13
  refine hJ h13 _ (ins.set z v) [(bL, .inl ⟨(ins.set z v).map I,inS.c*1,false⟩)] (by rw [List.length_set];exact hil) ?_ (by omega) K13
  exact⟨by rw [List.length_map,List.length_set];omega,oL.2.1, .inr ⟨bL,aL,rfl⟩⟩
 clear K9 oL hil lL
 refine kp_ ?_
 intro z h11 K11 _ _
 refine⟨_,rfl,?_⟩
 clear K10
 rw [cl (by omega),if_neg (by omega),bD (by omega)]
 refine QU K11.sw hb (by omega) fun y h12 p12 K12' hp12=>⟨_,rfl,?_⟩
 have K12:=K12'.sw
 clear K11 K12'
 refine ap (fun J=> ∀(c:Bool) h' p',(c=true->ax m=0)->Kn h h' ((b17, .inl ⟨aw M,5,false⟩)::(B,rdC s' p')::(b3, .inl ⟨da,5,false⟩)::(XL'++X))->J c h') (fun c h13 p13 hc K13=>?_) (fun J hJ=>?_)
 rotate_left
 ·repeat' (refine kr_ ?_)
  refine aX (mS K12) hm ⟨_,rfl,?_⟩
  refine ac (fun e=>?_) (fun _=>hJ false h12 _ (fun e=>nomatch e) K12)
  refine kp_ ?_
  intro w h13 K13 _ _
  exact⟨_,rfl,hJ _ h13 _ (fun _=>bU e) K13⟩
 clear K12
 refine ap (fun J=> ∀(x:Int) h',Kn h h' ((b17, .inl ⟨aw M,5,false⟩)::(B,rdC s' p13)::(b3, .inl ⟨da,5,false⟩)::(XL'++X))->J x h') (fun x h14 K14=>?_) (fun J hJ=>?_)
 rotate_left
 ·refine ac (fun e=>?_) (fun _=>hJ y h13 K13)
  have gd:=co (hc e)
  have n8:=gd.n8
  repeat' (refine kr_ ?_)
  refine cO (mS K13) hm fun pt h14 l14 ip=>⟨_,rfl,?_⟩
  have K14:=K13.mono l14
  repeat' (refine kr_ ?_)
  refine Ar (mS K14) hm gd fun ot h15 l15 io=>⟨_,rfl,?_⟩
  have K15:=K14.mono l15
  repeat' (refine kr_ ?_)
  exact xv (mS K15) hm gd.ok (ip.mono l15) (cH gd 36) (iw gd 36) io (yn gd) (by rw [fu gd];omega) ⟨_,rfl,hJ _ h15 K15⟩
 clear K13
 repeat' (refine kr_ ?_)
 refine jB (M':=M) K14 (by((focus ((repeat first|exact .head|apply Upd.tail);done)))) rfl fun h15 K15=>?_
 clear K14
 repeat' (refine kr_ ?_)
 have lL:=oL'.1
 simp only [List.length_map,Nat.mul_one]at lL
 have iS:IntS h15 inS ins':=(oL'.buf fun e he=>K15.mem e (by simp [he])).slc_of (by omega)
 exact k h15 M m x inS ins' K15.le (o.modelS (A:=(b17, .inl ⟨aw M,5,false⟩)::(B,rdC s' p13)::(b3, .inl ⟨aw M,5,false⟩)::XL') hm (by simpa using K15)) hm iS
set_option maxHeartbeats 1000000 in
theorem FnRun_spec {h:Hp} {s:Sl} {bs:List Nat} {R:Value->Hp->Prop} (hcap:s.n<=s.c) (hs:ByteS h s bs) (k:R (.bool true) h):A5 #[s.v] h R:=by
 refine ACalls.drop (Kj ?_)
 refine uf_ ?_
 refine ac (fun _=>⟨h,Hp.le_refl _,k⟩) (fun _=>?_)
 refine AG hcap hs fun h1 M m x t us l1 hM hm it=>⟨_,_,_,_,_,_,_,rfl,?_⟩
 have fin: ∀h' L,Kn h1 h' L-> ∃h'',h''.le h'/\R (.bool true) h'':=fun h' L K=>⟨h,Hp.le_trans l1 K.le,k⟩
 (with_reducible apply Kn.al);(exact Kn.nil h1);(intro b16 h2 K1 l2 hb16)
 refine jB (M':=M) K1 (by((focus ((repeat first|exact .head|apply Upd.tail);done)))) rfl fun h3 K3=>?_
 clear K1
 repeat' (refine kr_ ?_)
 refine zQ (hM.mono K3.le) hm (it.mono K3.le) fun gS gI h4 tg cg=>⟨_,_,_,rfl,?_⟩
 have K4:=K3.mono tg.le
 clear K3
 refine Kn.al K4 fun b32 h5 K5 l5 hb32=>?_
 refine kw_ ?_
 intro h6 K6 kp6
 simp only [cv,List.set_cons_zero,List.set_cons_succ,Nat.zero_add,Nat.reduceAdd]at K6
 have hg:=(tg.mono (cF hb32 l5 kp6)).ints
 clear K4 K5 kp6 l5 hb32 tg
 repeat' (refine kr_ ?_)
 refine rC (hM.mono K6.le) hm (it.mono K6.le) fun wS wI h7 tw=>⟨_,_,_,rfl,?_⟩
 have hlen:(sP m x us).length<=301:=by
  unfold sP
  split
  ·rename_i e
   unfold lC at e
   rw [Bool.and_eq_true,decide_eq_true_eq]at e
   rw [Hi];omega
  ·exact Nat.zero_le _
 replace tw:=tw.tr (by omega)
 have K7:=K6.mono tw.le
 replace hg:IntS h7 gS _/\IntS h7 gI _:=⟨hg.1.mono tw.le,hg.2.mono tw.le⟩
 clear K6
 refine Kn.al K7 fun b48 h8 K8 l8 hb48=>?_
 refine kw_ ?_
 intro h9 K9 kp9
 simp only [cv,List.set_cons_zero,List.set_cons_succ,Nat.zero_add,Nat.reduceAdd]at K9
 have l9:=cF hb48 l8 kp9
 have hw:=(tw.mono l9).ints
 replace hg:IntS h9 gS _/\IntS h9 gI _:=⟨hg.1.mono l9,hg.2.mono l9⟩
 clear K7 K8 kp9 hb48 l8 l9 tw
 refine ap (fun J=>J false h9) (aD rfl ?_) (fun J hJ=>?_)
 rotate_left
 ·refine aD (by simp) ?_
  repeat' (refine kr_ ?_)
  exact qQ hg hw ⟨_,rfl,hJ⟩
 clear hw
 refine ac (fun _=>fin _ _ K9) (fun e=>?_)
 rw [Bool.not_eq_false']at e
 obtain⟨⟨c,rfl,hcl,hc,r1,r2⟩,hsnd⟩:=Sz e
 clear e
 repeat' (refine kr_ ?_)
 refine nk (hM.mono K9.le) hm hc (fun h' q _=>absurd ⟨by omega,by omega⟩ q) fun c' out h10 ec _ l10 io=>⟨_,_,rfl,?_⟩
 obtain rfl:c=c':=by omega
 have K10:=K9.mono l10
 clear K9
 replace hg:IntS h10 gS _/\IntS h10 gI _:=⟨hg.1.mono l10,hg.2.mono l10⟩
 repeat' (refine kr_ ?_)
 refine qL (hM.mono K10.le) hm hg.1 hg.2 cg ⟨_,rfl,?_⟩
 repeat' (refine kr_ ?_)
 refine jK (hM.mono K10.le) hm hc io (jo ..) ⟨_,rfl,ac (fun e=>?_) (fun e=>?_)⟩
 ·rw [Bool.not_eq_true']at e
  rw [r1 e]
  exact fin _ _ K10
 rw [Bool.not_eq_false']at e
 repeat' (refine kr_ ?_)
 rw [hsnd]at hg
 refine wB hg.2 (it.mono K10.le) ⟨_,rfl,aJ rfl ?_⟩
 rw [hsnd]at r2
 rw [hsnd]
 rcases r2 e with q|q|q<;>rw [q]
 ·exact aJ rfl (fin _ _ K10)
 ·exact aD rfl (aJ rfl (fin _ _ K10))
 ·exact aD rfl (aD rfl (fin _ _ K10))
inductive Ord (ns:List Nd):Nat->List Nat->List Nat->Prop
 |leaf {r:Nat} {d:List Nat}:r<2->Ord ns r d d
 |seen {r:Nat} {d:List Nat}:2<=r->r∈d->Ord ns r d d
 |node {r:Nat} {d d1 d2:List Nat} {nd:Nd}:2<=r->r∉d->ns[r-2]?=some nd->Ord ns nd.lo d d1->Ord ns nd.hi d1 d2->Ord ns r d (d2++ [r])
theorem Ord.len {ns:List Nd} {r:Nat} {d o:List Nat} (h:Ord ns r d o):d.length<=o.length:=by
 induction h with
 |leaf=>exact Nat.le_refl _
 |seen=>exact Nat.le_refl _
 |node _ _ _ _ _ i1 i2=>rw [List.length_append];omega
end Go.Lead
