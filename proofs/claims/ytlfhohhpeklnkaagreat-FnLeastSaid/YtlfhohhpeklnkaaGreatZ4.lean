/- What functions of the program and of the reference come to, walked one by one, and plain laws about it: part 5. No condition is added to the statement. -/
import Derived.Test.YtlfhohhpeklnkaaGreatZ3
namespace Go.Lead
open Go
set_option linter.unusedSimpArgs false
set_option linter.unusedVariables false
set_option maxRecDepth 100000
set_option maxHeartbeats 1000000
theorem DM.addI {m:ai} {N:Nat} (d:DM m N) (x:BindP):DM {m with inits:=m.inits++ [x]} (N+1):=
 ⟨Nat.le_succ_of_le d.nodes,d.sorts,d.names,by have:=d.inits;simp;omega,Nat.le_succ_of_le d.nexts,Nat.le_succ_of_le d.bads,Nat.le_succ_of_le d.holds⟩
theorem DM.addE {m:ai} {N:Nat} (d:DM m N) (x:BindP):DM {m with nexts:=m.nexts++ [x]} (N+1):=
 ⟨Nat.le_succ_of_le d.nodes,d.sorts,d.names,Nat.le_succ_of_le d.inits,by have:=d.nexts;simp;omega,Nat.le_succ_of_le d.bads,Nat.le_succ_of_le d.holds⟩
theorem DM.addB {m:ai} {N:Nat} (d:DM m N) (x:Int):DM {m with bads:=m.bads++ [x]} (N+1):=
 ⟨Nat.le_succ_of_le d.nodes,d.sorts,d.names,Nat.le_succ_of_le d.inits,Nat.le_succ_of_le d.nexts,by have:=d.bads;simp;omega,Nat.le_succ_of_le d.holds⟩
theorem DM.addH {m:ai} {N:Nat} (d:DM m N) (x:Int):DM {m with holds:=m.holds++ [x]} (N+1):=
 ⟨Nat.le_succ_of_le d.nodes,d.sorts,d.names,Nat.le_succ_of_le d.inits,Nat.le_succ_of_le d.nexts,Nat.le_succ_of_le d.bads,by have:=d.holds;simp;omega⟩
theorem Ps {g h:Hp} {H X:List (Nat×Blk)} {b bn:Nat} {M:MSl} {m:ai} {nd:BindP} {J:Hp->Prop} (o:MG X M m) (K:Kn g h ((bn, .inl ⟨bindCells nd,2,false⟩)::(H++X))) (hm:m.inits.length<=10000) (hb:(b, .inl ⟨aw M,5,false⟩)∈H)
  (k: ∀s' X' h',MG X' {M with ini:=s'} {m with inits:=m.inits++ [nd]}->(∀H',Upd H b (.inl ⟨aw M,5,false⟩) (.inl ⟨aw {M with ini:=s'},5,false⟩) H'->Kn g h' (H'++X'))->J h'):
  ck h M.ini.a M.ini.n M.ini.c (some ⟨bn,0,none⟩) 1 2 16 fun a n c h95=> ∃(cs:List Value) (z:Nat),h95 b=some (.inl ⟨cs,z,false⟩)/\(0+1)+1<=List.length cs/\cu (h95.row b (cv cs (0+1) [.slice a n c]) z) fun h'=>J h':=by
 refine MG.appI (A:=_::H) (n:=nd) o K (by omega) (K.at (.head _)) fun s' X' h7 o' K7=>?_
 rw [List.cons_append]at K7
 have f:=K7.at (.tail _ (List.mem_append_left _ hb))
 exact⟨_,_,f,by simp,k s' X' _ o' fun H' u=>(K7.tl).set (u.app (X:=X'))⟩
theorem PA {g h:Hp} {H X:List (Nat×Blk)} {b bn:Nat} {M:MSl} {m:ai} {nd:BindP} {J:Hp->Prop} (o:MG X M m) (K:Kn g h ((bn, .inl ⟨bindCells nd,2,false⟩)::(H++X))) (hm:m.nexts.length<=10000) (hb:(b, .inl ⟨aw M,5,false⟩)∈H)
  (k: ∀s' X' h',MG X' {M with nex:=s'} {m with nexts:=m.nexts++ [nd]}->(∀H',Upd H b (.inl ⟨aw M,5,false⟩) (.inl ⟨aw {M with nex:=s'},5,false⟩) H'->Kn g h' (H'++X'))->J h'):
  ck h M.nex.a M.nex.n M.nex.c (some ⟨bn,0,none⟩) 1 2 16 fun a n c h95=> ∃(cs:List Value) (z:Nat),h95 b=some (.inl ⟨cs,z,false⟩)/\(0+2)+1<=List.length cs/\cu (h95.row b (cv cs (0+2) [.slice a n c]) z) fun h'=>J h':=by
 refine MG.appE (A:=_::H) (n:=nd) o K (by omega) (K.at (.head _)) fun s' X' h7 o' K7=>?_
 rw [List.cons_append]at K7
 have f:=K7.at (.tail _ (List.mem_append_left _ hb))
 exact⟨_,_,f,by simp,k s' X' _ o' fun H' u=>(K7.tl).set (u.app (X:=X'))⟩
theorem TW {g h:Hp} {H X:List (Nat×Blk)} {b bn:Nat} {M:MSl} {m:ai} {nd:Int} {J:Hp->Prop} (o:MG X M m) (K:Kn g h ((bn, .inl ⟨[I nd],1,false⟩)::(H++X))) (hm:m.bads.length<=10000) (hb:(b, .inl ⟨aw M,5,false⟩)∈H)
  (k: ∀s' X' h',MG X' {M with bad:=s'} {m with bads:=m.bads++ [nd]}->(∀H',Upd H b (.inl ⟨aw M,5,false⟩) (.inl ⟨aw {M with bad:=s'},5,false⟩) H'->Kn g h' (H'++X'))->J h'):
  ck h M.bad.a M.bad.n M.bad.c (some ⟨bn,0,none⟩) 1 1 8 fun a n c h95=> ∃(cs:List Value) (z:Nat),h95 b=some (.inl ⟨cs,z,false⟩)/\(0+3)+1<=List.length cs/\cu (h95.row b (cv cs (0+3) [.slice a n c]) z) fun h'=>J h':=by
 refine MG.appB (A:=_::H) (n:=nd) o K (by omega) (K.at (.head _)) fun s' X' h7 o' K7=>?_
 rw [List.cons_append]at K7
 have f:=K7.at (.tail _ (List.mem_append_left _ hb))
 exact⟨_,_,f,by simp,k s' X' _ o' fun H' u=>(K7.tl).set (u.app (X:=X'))⟩
theorem PE {g h:Hp} {H X:List (Nat×Blk)} {b bn:Nat} {M:MSl} {m:ai} {nd:Int} {J:Hp->Prop} (o:MG X M m) (K:Kn g h ((bn, .inl ⟨[I nd],1,false⟩)::(H++X))) (hm:m.holds.length<=10000) (hb:(b, .inl ⟨aw M,5,false⟩)∈H)
  (k: ∀s' X' h',MG X' {M with hol:=s'} {m with holds:=m.holds++ [nd]}->(∀H',Upd H b (.inl ⟨aw M,5,false⟩) (.inl ⟨aw {M with hol:=s'},5,false⟩) H'->Kn g h' (H'++X'))->J h'):
  ck h M.hol.a M.hol.n M.hol.c (some ⟨bn,0,none⟩) 1 1 8 fun a n c h95=> ∃(cs:List Value) (z:Nat),h95 b=some (.inl ⟨cs,z,false⟩)/\(0+4)+1<=List.length cs/\cu (h95.row b (cv cs (0+4) [.slice a n c]) z) fun h'=>J h':=by
 refine MG.appH (A:=_::H) (n:=nd) o K (by omega) (K.at (.head _)) fun s' X' h7 o' K7=>?_
 rw [List.cons_append]at K7
 have f:=K7.at (.tail _ (List.mem_append_left _ hb))
 exact⟨_,_,f,by simp,k s' X' _ o' fun H' u=>(K7.tl).set (u.app (X:=X'))⟩
set_option maxHeartbeats 2000000 in
theorem OI {g h:Hp} {A X:List (Nat×Blk)} {B p N:Nat} {s:Sl} {bs:List Nat} {M:MSl} {m:ai} {R:Value->Hp->Prop} (K:Kn g h ((B,rdC s p)::(A++X))) (hb:ByteS g s bs) (o:MG X M m) (d:DM m N) (hN:N<=100)
  (hne:0<m.nodes.length) (hp:p<=100000)
  (k: ∀h' p' X' M' m',Kn g h' ((B,rdC s p')::(A++X'))->MG X' M' m'->DM m' (6*N)->0<m'.nodes.length->p'<=p+N*1000->R (aO M') h'):
  nM #[.pointer (some ⟨B,0,none⟩),aO M] h R:=by
 apply AB
 refine uf_ ?_
 have hl:=o.lens
 have hsm:=d.small (by omega)
 have hdn:=d.nodes
 refine Kn.al K fun b8 h1 K1 l1 hb8=>?_
 refine Kn.al K1 fun b10 h2 K2 l2 hb10=>?_
 clear K K1 l1 l2 hb8 hb10
 (refine kr_ ?_)
 refine av m.nodes.length (fun i vs h'=> ∃q X' M' m',vs= [.pointer (some ⟨B,0,none⟩), .pointer (some ⟨b8,0,none⟩), .pointer (some ⟨b10,0,none⟩),I (M.no.n:Nat),I i]/\MG X' M' m'/\DM m' (N+5*i)/\m.nodes.length<=m'.nodes.length/\q<=p+i*1000/\
  Kn g h' ((b10, .inl ⟨cZ,5,false⟩)::(b8, .inl ⟨aw M',5,false⟩)::(B,rdC s q)::(A++X'))) ⟨p,X,M,m,rfl,o,d,Nat.le_refl _,by omega,K2⟩ ?_
 clear K2 h1 h2 h
 rintro i _ h4 nxt hi ⟨q,X',M',m',rfl,o',d',hle,hq,K4⟩ hnx
 refine⟨_,b8,0,b10,0,_,_,rfl,?_⟩
 have hl':=o'.lens
 have hdn':=d'.nodes
 have hsm':=d'.small (by omega)
 by_cases hlt:i<m.nodes.length
 rotate_left
 ·refine aD (by rw [decide_eq_false_iff_not];omega) ?_
  repeat' (refine kr_ ?_)
  refine CK K4 (by((focus ((repeat first|exact .head|apply Upd.tail);done)))) fun h6 K6=>?_
  exact k h6 q X' M' m' K6.tl.tl o' (d'.more (by omega)) (by omega) (by omega)
 refine aJ (by rw [decide_eq_true_eq];omega) ?_
 refine ap (fun J=> ∀h5 q X M1 m1,MG X M1 m1->DM m1 (N+5*(i+1))->m.nodes.length<=m1.nodes.length->q<=p+(i+1)*1000->Kn g h5 ((b10, .inl ⟨cZ,5,false⟩)::(b8, .inl ⟨aw M1,5,false⟩)::(B,rdC s q)::(A++X))->J (some ⟨B,0,none⟩) b8 0 b10 0 (M.no.n:Nat) i h5)
  (fun h5 q X M1 m1 o1 d1 hl1 hq1 K5=>?_) (fun J hJ=>?_)
 ·rw [aA (by omega)]
  exact hnx hlt _ _ ⟨q,X,M1,m1,rfl,o1,d1,hl1,hq1,K5⟩
 clear hnx
 have hs:=o'.modelS (A:=_::_::_::A) hsm' K4
 obtain⟨ni,hni⟩: ∃n,m'.nodes[i]?=some n:=⟨_,List.getElem?_eq_getElem (by omega)⟩
 have hst:=qZ d' hni
 obtain⟨b,oo,ha,e0,e1,e2,e3,e4,e5,e6,e7,e8⟩:=hs.nodes.at hni
 (refine kr_ ?_)
 refine⟨b,oo,ha,by omega,by omega,_,by rw [Int.toNat_natCast];exact e0,?_⟩
 refine ac (fun _=>hJ h4 q X' M' m' o' (d'.more (by omega)) hle (by omega) K4) (fun hkn=>?_)
 (refine kr_ ?_)
 refine⟨b,oo,ha,by omega,by omega,_,by rw [Int.toNat_natCast];exact e6,_,by rw [Int.toNat_natCast];exact e7,?_⟩
 generalize ni.sort=st at*
 clear hkn e0 e1 e2 e3 e4 e5 e6 e7 e8 hs hni ha ni oo b
 refine Kn.al K4 fun b41 h5 K5 l5 hb5=>?_
 refine kw_ ?_
 intro h6 K6 kpz
 clear kpz
 have K6':Kn g h6 ((b41, .inl ⟨[I st.idx,I st.wid],2,false⟩)::(b10, .inl ⟨cZ,5,false⟩)::(b8, .inl ⟨aw M',5,false⟩)::(B,rdC s q)::(A++X')):=K6
 clear K6 K5 K4 l5 hb5
 obtain⟨_,hw1,hw2⟩:=kM hst
 refine kp_ ?_
 intro x49 h7 K7 hx49 _
 refine⟨_,rfl,?_⟩
 clear K6'
 refine ap (fun J2=> ∀h8 q2 X2 M2 m2,MG X2 M2 m2->DM m2 (N+5*i+2)->m.nodes.length<=m2.nodes.length->q2<=p+i*1000+2->Kn g h8 ((b41, .inl ⟨[I st.idx,I st.wid],2,false⟩)::(b10, .inl ⟨cZ,5,false⟩)::(b8, .inl ⟨aw M2,5,false⟩)::(B,rdC s q2)::(A++X2))->J2 h8)
  (fun h8 q2 X2 M2 m2 o2 d2 hl2 hq2 K8=>?_) (fun J2 hJ2=>?_)
 rotate_left
 ·refine ac (fun _=>?_) (fun _=>hJ2 h7 _ X' M' m' o' (d'.more (by omega)) hle (by omega) K7)
  refine ap (fun J3=> ∀h8 s2 X2 q2 nd,MG X2 {M' with no:=s2} {m' with nodes:=m'.nodes++ [nd]}->bR nd.sort=true->nd.name.size=0->q2<=p+i*1000+2->
   Kn g h8 ((b41, .inl ⟨[I st.idx,I st.wid],2,false⟩)::(b10, .inl ⟨cZ,5,false⟩)::(b8, .inl ⟨aw {M' with no:=s2},5,false⟩)::(B,rdC s q2)::(A++X2))->J3 h8) (fun h8 s2 X2 q2 nd o2 hs2 hn2 hq2 K8=>?_) (fun J3 hJ3=>?_)
  ·have hdi:=d'.inits
   (refine kr_ ?_)
   (refine kr_ ?_)
   refine Kn.al K8 fun b104 h9 K9 l9 hb9=>?_
   refine Ps (H:=_::_::_::_::A) (nd:=⟨i,W ((s2.n:Int)-1)⟩) o2 K9 (by dsimp only;omega) (.tail _ (.tail _ (.head _))) fun s3 X3 h10 o3 KF=>?_
   have K10:=KF _ (by((focus ((repeat first|exact .head|apply Upd.tail);done))))
   simp only [List.cons_append]at K10
   clear KF K9 K8 K7
   refine hJ2 h10 q2 X3 _ _ o3 (((d'.addN hs2 (by omega)).addI _).more (by omega)) (by simp;omega) hq2 K10
  obtain⟨w,hw⟩: ∃w:Nat,st.wid=w:=⟨st.wid.toNat,by omega⟩
  have hp2:0<2^w:=Nat.two_pow_pos w
  have fin: ∀(y:Nat) (h5 h6:Hp) (q2 b:Nat),q2<=p+i*1000+2->
    Kn g h6 ((b, .inl ⟨[I 34,I 0,I 0,I 0,I (Int.tmod y (2^w:Nat)),I 0,I 0,I st.wid, .string ⟨#[]⟩],9,false⟩)::(b41, .inl ⟨[I st.idx,I st.wid],2,false⟩)::(b10, .inl ⟨cZ,5,false⟩)::(b8, .inl ⟨aw M',5,false⟩)::(B,rdC s q2)::(A++X'))->
    ck h6 M'.no.a M'.no.n M'.no.c (some (Addr.mk b 0 none)) 1 9 80 fun a92 n93 k94 h95=> ∃(cs96:List Value) (z97:Nat),h95 b8=some (.inl ⟨cs96,z97,false⟩)/\0+1<=List.length cs96/\cu (h95.row b8 (cv cs96 0 [(.slice a92 n93 k94)]) z97) fun h98=>J3 h98:=by
   intro y h5 h6 q2 b hq2 K6
   refine kK (H:=_::_::_::_::A) (nd:=⟨34,0,0,0,Int.tmod y (2^w:Nat),0,cx st.wid,⟨#[]⟩⟩) o' K6 (by omega) (.tail _ (.tail _ (.head _))) fun s2 X2 h8 o2 KF=>?_
   have K8:=KF _ (by((focus ((repeat first|exact .head|apply Upd.tail);done))))
   simp only [List.cons_append]at K8
   exact hJ3 h8 s2 X2 q2 _ o2 (mX hw1 hw2) rfl hq2 K8
  repeat' (refine kr_ ?_)
  refine⟨?_,?_⟩
  ·refine kp_ ?_
   intro y h8 K8 hy _
   refine⟨_,rfl,?_⟩
   repeat' (refine kr_ ?_)
   refine⟨?_,?_⟩
   ·repeat' (refine kr_ ?_)
    rw [hw,cl (by omega),if_neg (by omega),bG (by omega),if_neg (by omega),<-hw]
    refine ca ⟨_,_,rfl,?_⟩
    repeat' (refine kr_ ?_)
    refine Kn.al K8 fun b90 h9 K9 l9 hb90=>?_
    (refine kr_ ?_)
    exact fin y h8 h9 _ b90 (by omega) K9
   ·repeat' (refine kr_ ?_)
    refine ca ⟨_,_,rfl,?_⟩
    repeat' (refine kr_ ?_)
    rw [hw,cl (by omega),if_neg (by omega),bG (by omega),if_neg (by omega),<-hw]
    refine Kn.al K8 fun b90 h9 K9 l9 hb90=>?_
    (refine kr_ ?_)
    exact fin y h8 h9 _ b90 (by omega) K9
  ·repeat' (refine kr_ ?_)
   rw [hw,cl (by omega),if_neg (by omega),bG (by omega),<-hw]
   refine kp_ ?_
   intro y h8 K8 hy _
   refine⟨_,rfl,?_⟩
   repeat' (refine kr_ ?_)
   rw [if_neg (by omega)]
   refine ca ⟨_,_,rfl,?_⟩
   repeat' (refine kr_ ?_)
   refine Kn.al K8 fun b90 h9 K9 l9 hb90=>?_
   (refine kr_ ?_)
   exact fin y h8 h9 _ b90 (by omega) K9
 clear K7 h7 hsm' hdn' hl' hq d' o' hle X' M' m' q
 have hl':=o2.lens
 have hdn':=d2.nodes
 have hsm':=d2.small (by omega)
 refine kp_ ?_
 intro x118 h9 K9 _ _
 refine⟨_,rfl,?_⟩
 refine ac (fun _=>hJ h9 _ X2 M2 m2 o2 (d2.more (by omega)) hl2 (by omega) K9.tl) (fun _=>?_)
 clear K8
 refine av m2.nodes.length (fun j vs h'=> ∃(a q:Nat),vs= [.pointer (some ⟨B,0,none⟩), .pointer (some ⟨b8,0,none⟩), .pointer (some ⟨b10,0,none⟩),I (M.no.n:Nat),I i, .pointer (some ⟨b41,0,none⟩),I a,I j]/\a<m2.nodes.length/\q<=p+i*1000+3+j/\
  Kn g h' ((b41, .inl ⟨[I st.idx,I st.wid],2,false⟩)::(b10, .inl ⟨cZ,5,false⟩)::(b8, .inl ⟨aw M2,5,false⟩)::(B,rdC s q)::(A++X2))) ⟨i,_,rfl,by omega,by omega,K9⟩ ?_
 clear K9 h9 h8 hq2
 rintro j _ h8 nxt hj ⟨a,q,rfl,haL,hq,K8⟩ hnx
 refine⟨_,b8,0,b10,0,_,_,b41,0,_,_,rfl,?_⟩
 have hs:=o2.modelS (A:=_::_::_::_::A) hsm' K8
 (refine kr_ ?_)
 by_cases hlj:j<m2.nodes.length
 ·refine aJ (by rw [decide_eq_true_eq];omega) ?_
  refine ap (fun J3=> ∀(c:Nat) h5 q,c<m2.nodes.length->q<=p+i*1000+3+(j+1)->Kn g h5 ((b41, .inl ⟨[I st.idx,I st.wid],2,false⟩)::(b10, .inl ⟨cZ,5,false⟩)::(b8, .inl ⟨aw M2,5,false⟩)::(B,rdC s q)::(A++X2))->J3 (c:Int) h5) (fun c h5 q' hc hq' K5=>?_) (fun J3 hJ3=>?_)
  ·rw [aA (by omega)]
   exact hnx hlj _ _ ⟨c,q',rfl,hc,hq',K5⟩
  ·(refine kr_ ?_)
   obtain⟨nj,hnj⟩: ∃n,m2.nodes[j]?=some n:=⟨_,List.getElem?_eq_getElem hlj⟩
   obtain⟨b,oo,ha,e0,e1,e2,e3,e4,e5,e6,e7,e8⟩:=hs.nodes.at hnj
   refine⟨b,oo,ha,by omega,by omega,_,by rw [Int.toNat_natCast];exact e6,_,by rw [Int.toNat_natCast];exact e7,?_⟩
   (refine kr_ ?_)
   (refine kr_ ?_)
   refine ac (fun e=>?_) (fun e=>?_)
   ·(refine kr_ ?_)
    refine⟨b,oo,ha,by omega,by omega,_,by rw [Int.toNat_natCast];exact e0,?_⟩
    refine ac (fun e=>?_) (fun e=>?_)
    ·refine ac (fun e=>?_) (fun e=>?_)
     ·exact hJ3 _ h8 q hlj (by omega) K8
     refine kp_ ?_
     intro x h5 K5 hx _
     refine⟨_,rfl,?_⟩
     exact ac (fun e=>hJ3 _ h5 (q+1) hlj (by omega) K5) (fun e=>hJ3 _ h5 (q+1) haL (by omega) K5)
    ·exact hJ3 _ h8 q haL (by omega) K8
   ·exact hJ3 _ h8 q haL (by omega) K8
 refine aD (by rw [decide_eq_false_iff_not];omega) ?_
 clear hnx hs
 refine ap (fun J3=> ∀(c:Bool) h5 q,q<=p+i*1000+4+m2.nodes.length->Kn g h5 ((b41, .inl ⟨[I st.idx,I st.wid],2,false⟩)::(b10, .inl ⟨cZ,5,false⟩)::(b8, .inl ⟨aw M2,5,false⟩)::(B,rdC s q)::(A++X2))->J3 c h5) (fun c h5 q' hq' K5=>?_) (fun J3 hJ3=>?_)
 rotate_left
 ·refine ac (fun e=>?_) (fun e=>hJ3 _ h8 q (by omega) K8)
  repeat' (refine kr_ ?_)
  refine ac (fun e=>?_) (fun e=>hJ3 _ h8 q (by omega) K8)
  refine kp_ ?_
  intro x h5 K5 hx _
  exact⟨_,rfl,hJ3 _ h5 (q+1) (by omega) K5⟩
 clear K8 hq q h8
 refine ap (fun J3=> ∀(x:Int) h5 q X3 M3 m3,MG X3 M3 m3->DM m3 (N+5*i+4)->m.nodes.length<=m3.nodes.length->q<=p+i*1000+4+m2.nodes.length->Kn g h5 ((b41, .inl ⟨[I st.idx,I st.wid],2,false⟩)::(b10, .inl ⟨cZ,5,false⟩)::(b8, .inl ⟨aw M3,5,false⟩)::(B,rdC s q)::(A++X3))->J3 x h5)
  (fun x h6 q X3 M3 m3 o3 d3 hl3 hq3 K6=>?_) (fun J3 hJ3=>?_)
 ·have hde:=d3.nexts
  (refine kr_ ?_)
  refine Kn.al K6 fun b202 h9 K9 l9 hb9=>?_
  refine PA (H:=_::_::_::_::A) (nd:=⟨i,x⟩) o3 K9 (by omega) (.tail _ (.tail _ (.head _))) fun s3 X4 h10 o4 KF=>?_
  have K10:=KF _ (by((focus ((repeat first|exact .head|apply Upd.tail);done))))
  simp only [List.cons_append]at K10
  exact hJ h10 q X4 _ _ o4 ((d3.addE _).more (by omega)) (by simp;omega) (by omega) K10.tl
 refine ac (fun e=>?_) (fun e=>hJ3 _ h5 q' X2 M2 m2 o2 (d2.more (by omega)) hl2 (by omega) K5)
 repeat' (refine kr_ ?_)
 refine Kn.al K5 fun b173 h6 K6 l6 hb6=>?_
 refine kK (H:=_::_::_::_::A) (nd:=⟨34,0,0,0,1,0,st,⟨#[]⟩⟩) o2 K6 (by omega) (.tail _ (.tail _ (.head _))) fun s3 X3 h7 o3 KF=>?_
 have K7:=KF _ (by((focus ((repeat first|exact .head|apply Upd.tail);done))))
 simp only [List.cons_append]at K7
 clear KF K6 K5
 repeat' (refine kr_ ?_)
 refine Kn.al K7 fun b187 h8 K8 l8 hb8=>?_
 refine kK (H:=_::_::_::_::A) (nd:=⟨9,i,W ((s3.n:Int)-1),0,0,0,st,⟨#[]⟩⟩) o3 K8 (by simp;omega) (.tail _ (.tail _ (.head _))) fun s4 X4 h9 o4 KF=>?_
 have K9:=KF _ (by((focus ((repeat first|exact .head|apply Upd.tail);done))))
 simp only [List.cons_append]at K9
 clear KF K8 K7
 repeat' (refine kr_ ?_)
 have dA:=d2.addN (n:=⟨34,0,0,0,1,0,st,⟨#[]⟩⟩) hst (show (0:Nat)<=100 by omega)
 have dB:=dA.addN (n:=⟨9,i,W ((s3.n:Int)-1),0,0,0,st,⟨#[]⟩⟩) hst (show (0:Nat)<=100 by omega)
 exact hJ3 _ h9 q' X4 _ _ o4 (dB.more (by omega)) (by simp;omega) (by omega) K9
inductive Pk {α:Type}:List α->α->List α->Prop
 |head {L:List α} {a:α}:Pk (a::L) a L
 |tail {L L':List α} {a e:α}:Pk L a L'->Pk (e::L) a (e::L')
theorem Pk.perm {α:Type} {L L':List α} {a:α} (u:Pk L a L'):L.Perm (a::L'):=by
 induction u with
 |head=>exact List.Perm.refl _
 |tail _ ih=>exact(List.Perm.cons _ ih).trans (List.Perm.swap ..)
abbrev Zy (w:Int):List NodeP:= [⟨36,0,0,0,0,0,⟨0,w⟩,⟨#[120]⟩⟩,⟨34,0,0,0,0,0,⟨0,w⟩,⟨#[]⟩⟩,⟨34,0,0,0,1,0,⟨0,w⟩,⟨#[]⟩⟩,⟨34,0,0,0,3,0,⟨0,w⟩,⟨#[]⟩⟩,⟨35,0,0,0,0,0,⟨0,1⟩,⟨#[103,111]⟩⟩,
 ⟨9,0,2,0,0,0,⟨0,w⟩,⟨#[]⟩⟩,⟨33,4,5,0,0,0,⟨0,w⟩,⟨#[]⟩⟩,⟨21,0,3,0,0,0,⟨0,1⟩,⟨#[]⟩⟩]
abbrev aaj (w:Int):ai:=⟨Zy w, [⟨0,1⟩], [⟨0,6⟩], [7], []⟩
abbrev ZR (w:Int):List Value:=(Zy w).flatMap nodeCells
set_option maxHeartbeats 4000000 in
theorem sZ {g h:Hp} {A:List (Nat×Blk)} {B p:Nat} {s:Sl} {bs:List Nat} {R:Value->Hp->Prop} (K:Kn g h ((B,rdC s p)::A)) (hb:ByteS g s bs) (hp:p<=900000)
  (k: ∀h' p' X' M' m',Kn g h' ((B,rdC s p')::(A++X'))->MG X' M' m'->DM m' 8->ax m'=0->0<m'.nodes.length->p'<=p+1->R (aO M') h'):
  fU #[.pointer (some ⟨B,0,none⟩)] h R:=by
 apply xJ
 refine uf_ ?_
 refine Kn.al K fun b3 h1 K1 l1 hb3=>?_
 clear K l1 hb3
 refine kp_ ?_
 intro x h2 K2 hx _
 refine⟨_,rfl,?_⟩
 have hx':x<2:=by have:=hx (by omega);omega
 clear K1
 refine ca ⟨_,_,rfl,?_⟩
 refine Kn.al K2 fun b14 h3 K3 l3 hb14=>?_
 refine kw_ ?_
 intro h4 K4 kpz
 clear kpz
 obtain⟨w,hw,hw2⟩: ∃w:Int,W (2+(x:Int))=w/\(w=2\/w=3):=⟨_,rfl,by rw [bV (by omega) (by omega)];omega⟩
 rw [hw]at K4
 have K4':Kn g h4 ((b14, .inl ⟨[I 0,I w],2,false⟩)::(b3, .inl ⟨cZ,5,false⟩)::(B,rdC s (p+1))::A):=K4
 clear K4 K3 K2
 refine ap (fun J=> ∀h5 (bN bI bE bB:Nat),Kn g h5 ((bN, .inl ⟨ZR w,72,false⟩)::(bI, .inl ⟨[I 0,I 1],2,false⟩)::(bE, .inl ⟨[I 0,I 6],2,false⟩)::(bB, .inl ⟨[I 7],1,false⟩)::(b14, .inl ⟨[I 0,I w],2,false⟩)::
   (b3, .inl ⟨aw ⟨⟨some ⟨bN,0,none⟩,8,8⟩,⟨some ⟨bI,0,none⟩,1,1⟩,⟨some ⟨bE,0,none⟩,1,1⟩,⟨some ⟨bB,0,none⟩,1,1⟩,⟨none,0,0⟩⟩,5,false⟩)::(B,rdC s (p+1))::A)->J h5) (fun h5 bN bI bE bB K5=>?_) (fun J hJ=>?_)
 ·clear K4'
  repeat' (refine kr_ ?_)
  have K6:=(K5.perm (List.perm_append_comm (l₁:= [_,_,_,_]) (l₂:=_::_::_::A))).tl.tl
  refine k h5 (p+1) _ ⟨⟨some ⟨bN,0,none⟩,8,8⟩,⟨some ⟨bI,0,none⟩,1,1⟩,⟨some ⟨bE,0,none⟩,1,1⟩,⟨some ⟨bB,0,none⟩,1,1⟩,⟨none,0,0⟩⟩ (aaj w) K6 ?_ ?_ ?_ ?_ (Nat.le_refl _)
  ·exact⟨[_], [_], [_], [_], [],rfl,⟨rfl,Nat.le_refl _, .inr ⟨bN,rfl,rfl⟩⟩,⟨rfl,Nat.le_refl _, .inr ⟨bI,rfl,rfl⟩⟩,⟨rfl,Nat.le_refl _, .inr ⟨bE,rfl,rfl⟩⟩,⟨rfl,Nat.le_refl _, .inr ⟨bB,rfl,rfl⟩⟩,cF 1⟩
  ·refine⟨Nat.le_refl _,?_,?_,show (1:Nat)<=8 by omega,show (1:Nat)<=8 by omega,show (1:Nat)<=8 by omega,show (0:Nat)<=8 by omega⟩
   ·rcases hw2 with rfl|rfl<;>decide
   ·rcases hw2 with rfl|rfl<;>decide
  ·rcases hw2 with rfl|rfl<;>decide
  ·exact Nat.succ_pos _
 have leaf: ∀h5 L L1 L2 L3 (bN bI bE bB:Nat),Kn g h5 L->Pk L (bN, .inl ⟨ZR w,72,false⟩) L1->Pk L1 (bI, .inl ⟨[I 0,I 1],2,false⟩) L2->Pk L2 (bE, .inl ⟨[I 0,I 6],2,false⟩) L3->
   Pk L3 (bB, .inl ⟨[I 7],1,false⟩) ((b14, .inl ⟨[I 0,I w],2,false⟩)::(b3, .inl ⟨cZ,5,false⟩)::(B,rdC s (p+1))::A)->
   ∃(cs:List Value) (z:Nat),h5 b3=some (.inl ⟨cs,z,false⟩)/\0+5<=List.length cs/\cu (h5.row b3 (cv cs 0 [.slice (some ⟨bN,0,none⟩) 8 8, .slice (some ⟨bI,0,none⟩) 1 1, .slice (some ⟨bE,0,none⟩) 1 1, .slice (some ⟨bB,0,none⟩) 1 1, .slice none 0 0]) z) fun h'=>J h':=by
  intro h5 L L1 L2 L3 bN bI bE bB K p1 p2 p3 p4
  have K':=K.perm (p1.perm.trans (List.Perm.cons _ (p2.perm.trans (List.Perm.cons _ (p3.perm.trans (List.Perm.cons _ p4.perm))))))
  refine jH (M':=⟨⟨some ⟨bN,0,none⟩,8,8⟩,⟨some ⟨bI,0,none⟩,1,1⟩,⟨some ⟨bE,0,none⟩,1,1⟩,⟨some ⟨bB,0,none⟩,1,1⟩,⟨none,0,0⟩⟩) K' (by((focus ((repeat first|exact .head|apply Upd.tail);done)))) rfl fun h6 K6=>?_
  exact hJ h6 bN bI bE bB K6
 clear k hJ hw2 hw hx' hx
 repeat' (refine kr_ ?_)
 repeat' first
  |(refine kr_ ?_)
  |refine ca ⟨_,_,rfl,?_⟩
  |((with_reducible apply Kn.al);(assumption);(intro b hN KN lN hbN))
  |(refine leaf _ _ _ _ _ _ _ _ _ (by assumption) (by((focus ((repeat first|exact .head|apply Pk.tail);done)))) (by((focus ((repeat first|exact .head|apply Pk.tail);done)))) (by((focus ((repeat first|exact .head|apply Pk.tail);done)))) (by((focus ((repeat first|exact .head|apply Pk.tail);done)))))
  |refine⟨?_,?_⟩
theorem Kn.subl {g h:Hp} {L L':List (Nat×Blk)} (K:Kn g h L) (s:L'.Sublist L):Kn g h L':=K.sub (fun e he=>s.subset he) (List.Nodup.sublist (s.map _) K.nd)
theorem E4 {g h:Hp} {L:List (Nat×Blk)} {s:Sl} {bs:List Nat} {R:Value->Hp->Prop} (K:Kn g h L) (hcap:s.n<=s.c) (hs:ByteS g s bs)
  (k: ∀B h' s' bs',ByteS g s' bs'->Kn g h' ((B,rdC s' 0)::L)->R (.pointer (some ⟨B,0,none⟩)) h'):gO #[s.v] h R:=by
 apply xG
 refine uf_ ?_
 have hl:=hs.len
 refine ac (fun e=>?_) (fun e=>?_)
 ·have e':2000<s.n:=by simp at e;omega
  obtain⟨b,o,ha,hc⟩:=SlC.get hs.1 (by omega)
  refine⟨by simp,by simp,by omega, .inr ⟨b,o,ha,?_⟩⟩
  refine Kn.al K fun B h1 K1 l1 hB=>?_
  have e0:(if s.c=(Int.ofNat 0).toNat then o else o+(Int.ofNat 0).toNat*1)=o:=by split<;>simp
  rw [e0]at K1
  refine k B h1 ⟨some ⟨b,o,none⟩,2000,s.c⟩ (bs.take 2000) ?_ K1
  refine⟨⟨by simp,by simp;omega, .inr ⟨b,o,rfl,?_⟩⟩,fun x hx=>hs.2 x (List.mem_of_mem_take hx)⟩
  intro i v hv
  refine hc i v ?_
  rw [List.map_take,List.getElem?_take]at hv
  split at hv
  ·exact hv
  ·cases hv
 ·refine Kn.al K fun B h1 K1 l1 hB=>?_
  exact k B h1 s bs hs K1
theorem xf {α:Type} (a b c:α) (L:List α):(a::b::c::L).Perm (c::a::b::L):=(List.Perm.cons a (List.Perm.swap c b L)).trans (List.Perm.swap c a _)
set_option maxHeartbeats 2000000 in
theorem Hv {g h:Hp} {A:List (Nat×Blk)} {B p:Nat} {s:Sl} {bs:List Nat} {R:Value->Hp->Prop} (K:Kn g h ((B,rdC s p)::A)) (hb:ByteS g s bs) (hp:p<=10000)
  (k: ∀h' p' X' M' m',Kn g h' ((B,rdC s p')::(A++X'))->MG X' M' m'->DM m' 400->ax m'=0->0<m'.nodes.length->p'<=p+100000->R (aO M') h'):
  kg #[.pointer (some ⟨B,0,none⟩)] h R:=by
 apply Bj
 refine uf_ ?_
 refine Kn.al K fun b3 h1 K1 l1 hb3=>?_
 clear K l1 hb3
 refine kp_ ?_
 intro x h2 K2 _ _
 refine⟨_,rfl,?_⟩
 clear K1
 refine KZ (A:=(b3, .inl ⟨cZ,5,false⟩)::A) K2.sw hb (by omega) fun h3 p3 X3 M3 m3 K3 o3 d3 n3 hp3=>⟨_,_,_,_,_,rfl,?_⟩
 replace K3:Kn g h3 ((b3, .inl ⟨cZ,5,false⟩)::(B,rdC s p3)::(A++X3)):=K3.sw
 clear K2
 refine Kn.al K3 fun b16 h4 K4 l4 hb16=>?_
 clear K3 l4 hb16
 refine jH (M':=M3) K4 (by((focus ((repeat first|exact .head|apply Upd.tail);done)))) rfl fun h5 K5=>?_
 clear K4
 refine kp_ ?_
 intro n h6 K6 hn _
 refine⟨_,rfl,?_⟩
 replace hn:n<14:=by have:=hn (by omega);omega
 clear K5
 refine av n (fun i vs h'=> ∃q X' M' m',vs= [.pointer (some ⟨B,0,none⟩), .pointer (some ⟨b3,0,none⟩), .pointer (some ⟨b16,0,none⟩),I n,I i]/\MG X' M' m'/\DM m' (12+3*i)/\0<m'.nodes.length/\q<=p+100+i*20/\
  Kn g h' ((b16, .inl ⟨aw M',5,false⟩)::(b3, .inl ⟨cZ,5,false⟩)::(B,rdC s q)::(A++X'))) ⟨p3+1,X3,M3,m3,rfl,o3,d3,n3,by omega,K6⟩ ?_
 clear K6 hp3 n3 d3 o3 m3 M3 X3 p3 h6 h5 h4 h3 h2 h1 h
 rintro i _ h4 nxt hi ⟨q,X',M',m',rfl,o',d',hle,hq,K4⟩ hnx
 refine⟨_,b3,0,b16,0,_,_,rfl,?_⟩
 by_cases hlt:i<n
 ·refine aJ (by rw [decide_eq_true_eq];omega) ?_
  repeat' (refine kr_ ?_)
  refine N4 (A:=(b16, .inl ⟨aw M',5,false⟩)::(b3, .inl ⟨cZ,5,false⟩)::A) (K4.perm (xf _ _ _ _)) hb o' d' (by omega) hle (by omega) fun h5 q5 X5 M5 m5 K5 o5 d5 n5 hq5=>⟨_,_,_,_,_,rfl,?_⟩
  replace K5:=K5.perm (xf _ _ _ _).symm
  refine jH (M':=M5) K5 (by((focus ((repeat first|exact .head|apply Upd.tail);done)))) rfl fun h6 K6=>?_
  rw [aA (by omega)]
  exact hnx hlt _ _ ⟨q5,X5,M5,m5,rfl,o5,d5.more (by omega),n5,by omega,K6⟩
 refine aD (by rw [decide_eq_false_iff_not];omega) ?_
 clear hnx
 repeat' (refine kr_ ?_)
 refine OI (N:=51) (A:=(b16, .inl ⟨aw M',5,false⟩)::(b3, .inl ⟨cZ,5,false⟩)::A) (K4.perm (xf _ _ _ _)) hb o' (d'.more (by omega)) (by omega) hle (by omega) fun h5 q5 X5 M5 m5 K5 o5 d5 n5 hq5=>⟨_,_,_,_,_,rfl,?_⟩
 replace K5:=K5.perm (xf _ _ _ _).symm
 clear K4
 refine jH (M':=M5) K5 (by((focus ((repeat first|exact .head|apply Upd.tail);done)))) rfl fun h6 K6=>?_
 clear K5
 refine kp_ ?_
 intro x76 h7 K7 hx76 _
 refine⟨_,rfl,?_⟩
 clear K6
 refine kp_ ?_
 intro x80 h8 K8 _ _
 refine⟨_,rfl,?_⟩
 clear K7
 refine ap (fun J=> ∀c:Nat,c<=2->J (c:Int)) (fun c hc=>?_) (fun J hJ=>?_)
 rotate_left
 ·refine ac (fun _=>hJ 0 (by omega)) (fun _=>?_)
  have:=hx76 (by omega)
  rw [show (1:Int)+(x76:Nat)=((1+x76:Nat):Int) by omega,eu (by omega)]
  exact hJ _ (by omega)
 refine av c (fun i vs h'=> ∃q X' M' m',vs= [.pointer (some ⟨B,0,none⟩), .pointer (some ⟨b3,0,none⟩), .pointer (some ⟨b16,0,none⟩),I c,I i]/\MG X' M' m'/\DM m' (306+4*i)/\0<m'.nodes.length/\q<=p+51500+i*2000/\
  Kn g h' ((b16, .inl ⟨aw M',5,false⟩)::(b3, .inl ⟨cZ,5,false⟩)::(B,rdC s q)::(A++X'))) ⟨_,X5,M5,m5,rfl,o5,d5,n5,by omega,K8⟩ ?_
 clear K8 hq5 n5 d5 o5 m5 M5 X5 q5 h8 h7 h6 h5 hq d' o' hle hx76 hlt hi
 clear M' m' X' q h4 nxt i
 rintro i _ h4 nxt hi ⟨q,X',M',m',rfl,o',d',hle,hq,K4⟩ hnx
 refine⟨_,b3,0,b16,0,_,_,rfl,?_⟩
 by_cases hlt:i<c
 ·refine aJ (by rw [decide_eq_true_eq];omega) ?_
  repeat' (refine kr_ ?_)
  refine IY (A:=(b16, .inl ⟨aw M',5,false⟩)::(b3, .inl ⟨cZ,5,false⟩)::A) (K4.perm (xf _ _ _ _)) hb o' d' (by omega) hle (by omega) fun h5 q5 X5 M5 m5 i5 K5 o5 d5 hi5 hl5 hq5=>⟨_,_,_,_,_,_,rfl,?_⟩
  replace K5:=K5.perm (xf _ _ _ _).symm
  clear K4
  refine jH (M':=M5) K5 (by((focus ((repeat first|exact .head|apply Upd.tail);done)))) rfl fun h6 K6=>?_
  clear K5
  have hdb:=d5.bads
  (refine kr_ ?_)
  refine Kn.al K6 fun b119 h7 K7 l7 hb7=>?_
  refine TW (H:=_::_::_::A) (nd:=(i5:Nat)) o5 K7 (by omega) (.head _) fun s8 X8 h8 o8 KF=>?_
  have K8:=KF _ (by((focus ((repeat first|exact .head|apply Upd.tail);done))))
  simp only [List.cons_append]at K8
  rw [aA (by omega)]
  exact hnx hlt _ _ ⟨q5,X8,_,_,rfl,o8,(d5.addB _).more (by omega),by dsimp only;omega,by omega,K8⟩
 refine aD (by rw [decide_eq_false_iff_not];omega) ?_
 clear hnx
 refine kp_ ?_
 intro x132 h5 K5 _ _
 refine⟨_,rfl,?_⟩
 clear K4
 refine ap (fun J=> ∀h5 q X' M' m',MG X' M' m'->DM m' 400->0<m'.nodes.length->q<=p+60000->Kn g h5 ((b16, .inl ⟨aw M',5,false⟩)::(b3, .inl ⟨cZ,5,false⟩)::(B,rdC s q)::(A++X'))->J h5)
  (fun h5 q X' M' m' o' d' hle hq K5=>?_) (fun J hJ=>?_)
 ·have hs:=o'.modelS (A:=_::_::_::A) (d'.small (by omega)) K5
  repeat' (refine kr_ ?_)
  refine aX hs (d'.small (by omega)) ⟨_,rfl,?_⟩
  refine ac (fun e=>?_) (fun e=>?_)
  ·refine sZ (A:=(b3, .inl ⟨cZ,5,false⟩)::(A++X')) K5.tl.sw hb (by omega) fun h6 q6 X6 M6 m6 K6 o6 d6 c6 n6 hq6=>⟨_,_,_,_,_,rfl,?_⟩
   replace K6:Kn g h6 ((b3, .inl ⟨cZ,5,false⟩)::(B,rdC s q6)::((A++X')++X6)):=K6.sw
   refine CK (M:=M6) K6 (by((focus ((repeat first|exact .head|apply Upd.tail);done)))) fun h7 K7=>?_
   refine k h7 q6 X6 M6 m6 (K7.tl.subl ?_) o6 (d6.more (by omega)) c6 n6 (by omega)
   exact List.Sublist.cons_cons _ (List.Sublist.append_right (List.sublist_append_left _ _) _)
  ·repeat' (refine kr_ ?_)
   refine CK (M:=M') K5 (by((focus ((repeat first|exact .head|apply Upd.tail);done)))) fun h7 K7=>?_
   exact k h7 q X' M' m' K7.tl.tl o' d' (by simpa using e) hle (by omega)
 refine ac (fun e=>?_) (fun e=>hJ _ _ _ _ _ o' (d'.more (by omega)) hle (by omega) K5)
 repeat' (refine kr_ ?_)
 refine IY (A:=(b16, .inl ⟨aw M',5,false⟩)::(b3, .inl ⟨cZ,5,false⟩)::A) (K5.perm (xf _ _ _ _)) hb o' d' (by omega) hle (by omega) fun h6 q6 X6 M6 m6 i6 K6 o6 d6 hi6 hl6 hq6=>⟨_,_,_,_,_,_,rfl,?_⟩
 replace K6:=K6.perm (xf _ _ _ _).symm
 clear K5
 refine jH (M':=M6) K6 (by((focus ((repeat first|exact .head|apply Upd.tail);done)))) rfl fun h7 K7=>?_
 clear K6
 refine kp_ ?_
 intro x155 h8 K8 _ _
 refine⟨_,rfl,?_⟩
 clear K7
 refine ap (fun J2=> ∀(y:Int) h5 q X' M' m',MG X' M' m'->DM m' 330->0<m'.nodes.length->q<=p+60000->Kn g h5 ((b16, .inl ⟨aw M',5,false⟩)::(b3, .inl ⟨cZ,5,false⟩)::(B,rdC s q)::(A++X'))->J2 y h5)
  (fun y h9 q9 X9 M9 m9 o9 d9 hle9 hq9 K9=>?_) (fun J2 hJ2=>?_)
 ·have hdh:=d9.holds
  (refine kr_ ?_)
  refine Kn.al K9 fun b119 h10 K10 l10 hb10=>?_
  refine PE (H:=_::_::_::A) (nd:=y) o9 K10 (by omega) (.head _) fun s8 X8 h8 o8 KF=>?_
  have K11:=KF _ (by((focus ((repeat first|exact .head|apply Upd.tail);done))))
  simp only [List.cons_append]at K11
  exact hJ _ _ _ _ _ o8 ((d9.addH _).more (by omega)) (by dsimp only;omega) (by omega) K11
 refine ac (fun e=>?_) (fun e=>hJ2 _ _ _ _ _ _ o6 (d6.more (by omega)) (by omega) (by omega) K8)
 have hdn:=d6.nodes
 (refine kr_ ?_)
 refine ca ⟨_,_,rfl,?_⟩
 repeat' (refine kr_ ?_)
 refine Kn.al K8 fun b163 h9 K9 l9 hb9=>?_
 (refine kr_ ?_)
 refine kK (H:=_::_::_::A) (nd:=⟨1,(i6:Nat),0,0,0,0,cx 1,⟨#[]⟩⟩) o6 K9 (by omega) (.head _) fun s10 X10 h10 o10 KF=>?_
 have K10:=KF _ (by((focus ((repeat first|exact .head|apply Upd.tail);done))))
 simp only [List.cons_append]at K10
 clear K9 K8
 repeat' (refine kr_ ?_)
 have dA:=d6.addN (n:=⟨1,(i6:Nat),0,0,0,0,cx 1,⟨#[]⟩⟩) (mX (by omega) (by omega)) (show (0:Nat)<=100 by omega)
 exact hJ2 _ _ _ _ _ _ o10 (dA.more (by omega)) (by simp) (by omega) K10
theorem wZ {h:Hp} {s t:Sl} {xs:List Int} {R:Value->Hp->Prop} (hs:IntS h s xs) (ht:IntS h t xs) (k:R (.bool true) h):jZ #[s.v,t.v] h R:=by
 refine zg ?_
 refine uf_ ?_
 have ls:=hs.len
 have lt:=ht.len
 have hb:=hs.bound
 refine aD (by simp [ls,lt]) ?_
 refine av xs.length (fun i vs h'=>vs= [s.v,t.v,I i]/\h'=h) ⟨rfl,rfl⟩ ?_
 rintro i _ _ next hi ⟨rfl,rfl⟩ hn
 refine⟨_,_,_,rfl,?_⟩
 by_cases hlt:i<xs.length
 ·obtain⟨b,o,ha,hc⟩:=hs.at hlt
  obtain⟨b',o',ha',hc'⟩:=ht.at hlt
  refine aJ (by simp [ls,hlt]) ?_
  simp only [vm,ls,lt,ha,ha',hc,hc',aA (n:=i) (by omega)]
  exact⟨by omega,by omega,aD (by simp) (hn hlt _ _ ⟨rfl,rfl⟩)⟩
 ·exact aD (by simp [ls];omega) k
theorem qR {h:Hp} {sS sI tS tI:Sl} {xs ys:List Int} {R:Value->Hp->Prop} (h1:IntS h sS xs/\IntS h sI ys) (h2:IntS h tS xs/\IntS h tI ys) (k:R (.bool true) h):jk #[.agg #[sS.v,sI.v], .agg #[tS.v,tI.v]] h R:=by
 refine ACalls.drop (Fk ?_)
 refine uf_ ?_
 have K0:=Kn.nil h
 (with_reducible apply Kn.al);(assumption);(intro b6 h3 K1 l1 hb6)
 (with_reducible apply Kn.al);(assumption);(intro b8 h4 K2 l2 hb8)
 clear K1 K0
 repeat' (refine kr_ ?_)
 refine wZ (h1.1.mono K2.le) (h2.1.mono K2.le) ⟨_,rfl,aJ rfl ?_⟩
 repeat' (refine kr_ ?_)
 refine wZ (h1.2.mono K2.le) (h2.2.mono K2.le) ⟨_,rfl,⟨h,K2.le,k⟩⟩
theorem SL : ∀(vs xs ys:List Value) (o:Nat),cv (xs++ys) (xs.length+o) vs=xs++cv ys o vs:=by
 intro vs
 induction vs with
 |nil=>intro xs ys o;rfl
 |cons v vs ih=>intro xs ys o;rw [pe,pe,List.set_append_right (xs.length+o) v (by omega),Nat.add_sub_cancel_left,Nat.add_assoc,ih]
theorem QK : ∀(vs xs ys:List Value) (o:Nat),o+vs.length<=xs.length->cv (xs++ys) o vs=cv xs o vs++ys:=by
 intro vs
 induction vs with
 |nil=>intro xs ys o _;rfl
 |cons v vs ih=>
  intro xs ys o h
  rw [List.length_cons]at h
  rw [pe,pe,List.set_append_left o v (by omega),ih _ _ _ (by rw [List.length_set];omega)]
theorem Qt {off:Nat} {vs:List Value} {n n':NodeP} (hv:cv (nodeCells n) off vs=nodeCells n') (ho:off+vs.length<=9): ∀{l:List NodeP} {i:Nat},l[i]?=some n->cv (l.flatMap nodeCells) (i*9+off) vs=(l.set i n').flatMap nodeCells:=by
 intro l
 induction l with
 |nil=>intro i h;simp at h
 |cons a l ih=>
  intro i h
  cases i with
  |zero=>
   have:a=n:=by simpa using h
   subst this
   rw [List.set_cons_zero,List.flatMap_cons,List.flatMap_cons,Nat.zero_mul,Nat.zero_add,QK _ _ _ _ (by show _<=9;exact ho),hv]
  |succ i=>
   have h':l[i]?=some n:=by simpa using h
   rw [List.set_cons_succ,List.flatMap_cons,List.flatMap_cons,show (i+1)*9+off=(nodeCells a).length+(i*9+off) by show _=9+_;omega,SL,ih h']
theorem Upd.appL {L L':List (Nat×Blk)} {b:Nat} {x y:Blk} (u:Upd L b x y L'): ∀A:List (Nat×Blk),Upd (A++L) b x y (A++L')
 | []=>u
 |_::A=> .tail (u.appL A)
theorem sF {g h:Hp} {A X:List (Nat×Blk)} {M:MSl} {m:ai} {i off k:Nat} {n n':NodeP} {vs:List Value} {F:Nat->Nat} {J:Hp->Prop} (o:MG X M m) (K:Kn g h (A++X)) (hni:m.nodes[i]?=some n)
  (hv:cv (nodeCells n) off vs=nodeCells n') (hk:vs.length=k) (ho:off+k<=9) (hF:F 0=i*9+off)
  (J': ∀X' h',MG X' M {m with nodes:=m.nodes.set i n'}->Kn g h' (A++X')->J h'):
  ∃(b p:Nat),M.no.a=some ⟨b,p,none⟩/\(0:Int)<=(i:Nat)/\((i:Nat):Int)<((M.no.n:Nat):Int)/\ ∃(cs:List Value) (z:Nat),h b=some (.inl ⟨cs,z,false⟩)/\F p+k<=List.length cs/\cu (h.row b (cv cs (F p) vs) z) fun h'=>J h':=by
 have hi:=get_lt hni
 have hl:=o.lens
 obtain⟨XN,XI,XE,XB,XH,rfl,a,b',c,d,e⟩:=o
 rcases a.2.2 with ⟨_,h0,_⟩|⟨b,ha,rfl⟩
 ·rw [h0]at hl;have:=hl.1;dsimp only at this;omega
 subst hk
 have hc:cv (m.nodes.flatMap nodeCells) (F 0) vs=(m.nodes.set i n').flatMap nodeCells:=by rw [hF];exact Qt hv ho hni
 refine⟨b,0,ha,by omega,by omega,?_⟩
 refine Kn.wr (cs:=m.nodes.flatMap nodeCells) (z:=M.no.c*9) (o:=F 0) (vs:=vs) K (L':=A++([(b, .inl ⟨(m.nodes.set i n').flatMap nodeCells,M.no.c*9,false⟩)]++(XI++(XE++(XB++(XH++ [])))))) (by rw [hc];exact Upd.appL .head A) (by rw [hF,a.1];omega) fun h' K' _=>?_
 exact J' _ h' ⟨_,XI,XE,XB,XH,rfl,⟨by rw [iw (m:=9) (fun _=>rfl),List.length_set];omega,a.2.1, .inr ⟨b,ha,rfl⟩⟩,b',c,d,e⟩ K'
structure DZ (m:ai) (N:Nat):Prop where
 nodes:m.nodes.length<=N
 names: ∀n∈m.nodes,n.name.size<=100
 inits:m.inits.length<=N
 nexts:m.nexts.length<=N
 bads:m.bads.length<=N
 holds:m.holds.length<=N
theorem DM.z {m:ai} {N:Nat} (d:DM m N):DZ m N:=⟨d.nodes,d.names,d.inits,d.nexts,d.bads,d.holds⟩
theorem DZ.small {m:ai} {N:Nat} (d:DZ m N) (hN:N<=100000):bW m:=
 ⟨by have:=d.nodes;omega,by have:=d.inits;omega,by have:=d.nexts;omega,by have:=d.bads;omega,by have:=d.holds;omega,fun n hn=>by have:=d.names n hn;omega⟩
theorem DZ.more {m:ai} {N N':Nat} (d:DZ m N) (h:N<=N'):DZ m N':=
 ⟨Nat.le_trans d.nodes h,d.names,Nat.le_trans d.inits h,Nat.le_trans d.nexts h,Nat.le_trans d.bads h,Nat.le_trans d.holds h⟩
theorem DZ.addN {m:ai} {N:Nat} (d:DZ m N) {n:NodeP} (h2:n.name.size<=100):DZ {m with nodes:=m.nodes++ [n]} (N+1):=
 ⟨by have:=d.nodes;simp;omega,fun x hx=>by rcases List.mem_append.1 hx with hx|hx;exact d.names x hx;rw [List.mem_singleton.1 hx];exact h2,
  Nat.le_succ_of_le d.inits,Nat.le_succ_of_le d.nexts,Nat.le_succ_of_le d.bads,Nat.le_succ_of_le d.holds⟩
theorem DZ.set {m:ai} {N i:Nat} (d:DZ m N) {n:NodeP} (h2:n.name.size<=100):DZ {m with nodes:=m.nodes.set i n} N:=
 ⟨by have:=d.nodes;simp;omega,fun x hx=>by rcases List.mem_or_eq_of_mem_set hx with hx|rfl;exact d.names x hx;exact h2,d.inits,d.nexts,d.bads,d.holds⟩
theorem DZ.addI {m:ai} {N:Nat} (d:DZ m N) (x:BindP):DZ {m with inits:=m.inits++ [x]} (N+1):=
 ⟨Nat.le_succ_of_le d.nodes,d.names,by have:=d.inits;simp;omega,Nat.le_succ_of_le d.nexts,Nat.le_succ_of_le d.bads,Nat.le_succ_of_le d.holds⟩
theorem DZ.addE {m:ai} {N:Nat} (d:DZ m N) (x:BindP):DZ {m with nexts:=m.nexts++ [x]} (N+1):=
 ⟨Nat.le_succ_of_le d.nodes,d.names,Nat.le_succ_of_le d.inits,by have:=d.nexts;simp;omega,Nat.le_succ_of_le d.bads,Nat.le_succ_of_le d.holds⟩
theorem DZ.addB {m:ai} {N:Nat} (d:DZ m N) (xs:List Int) (hx:xs.length<=N):DZ {m with bads:=m.bads++xs} (2*N):=
 ⟨by have:=d.nodes;dsimp only;omega,d.names,by have:=d.inits;dsimp only;omega,by have:=d.nexts;dsimp only;omega,by have:=d.bads;simp;omega,by have:=d.holds;dsimp only;omega⟩
theorem DZ.addH {m:ai} {N:Nat} (d:DZ m N) (x:Int):DZ {m with holds:=m.holds++ [x]} (N+1):=
 ⟨Nat.le_succ_of_le d.nodes,d.names,Nat.le_succ_of_le d.inits,Nat.le_succ_of_le d.nexts,Nat.le_succ_of_le d.bads,by have:=d.holds;simp;omega⟩
theorem MG.appBs {g h:Hp} {A X:List (Nat×Blk)} {M:MSl} {m:ai} {xs:List Int} {src:Option Addr} {C:Option Addr->Nat->Nat->Hp->Prop} (o:MG X M m) (K:Kn g h (A++X)) (hm:m.bads.length+xs.length<=100000) (hx:0<xs.length)
  (f: ∃b p,src=some ⟨b,p,none⟩/\gU h b p (xs.map I))
  (k: ∀s' X' h',MG X' {M with bad:=s'} {m with bads:=m.bads++xs}->Kn g h' (A++X')->C s'.a s'.n s'.c h'):ck h M.bad.a M.bad.n M.bad.c src xs.length 1 8 C:=by
 have hl:=o.lens
 obtain⟨XN,XI,XE,XB,XH,rfl,a,b',c,d,e⟩:=o
 have sw: ∀Z:List (Nat×Blk),A++(XN++(XI++(XE++(Z++(XH++ [])))))=(A++(XN++XI))++(XE++(Z++(XH++ []))):=fun Z=>by simp
 rw [sw]at K
 refine Kn.growIn2 (news:=xs.map I) K d hx (by omega) (by omega) f (by simp) (List.all_eq_true.2 fun v hv=>by obtain⟨y,_,rfl⟩:=List.mem_map.1 hv;rfl) fun s' X' h' hn a' K' _=>?_
 rw [<-sw]at K'
 exact k s' _ h' ⟨XN,XI,XE,X',XH,rfl,a,b',c,by rw [List.map_append];exact a',e⟩ K'
abbrev Zr :List Value:= [.string ⟨#[120]⟩, .string ⟨#[]⟩, .string ⟨#[88]⟩, .string ⟨#[116,111,111,108,111,110,103,110,97,109,101]⟩]
theorem Zm {i:Nat} (h:i<4): ∃s:ByteArray,Zr[i]?=some (.string s)/\s.size<=100:=by
 rcases i with _|_|_|_|i
 ·exact⟨_,rfl,by decide⟩
 ·exact⟨_,rfl,by decide⟩
 ·exact⟨_,rfl,by decide⟩
 ·exact⟨_,rfl,by decide⟩
 ·omega
theorem Wj {h:Hp} {A X:List (Nat×Blk)} {g:Hp} {M:MSl} {m:ai} (o:MG X M m) (K:Kn g h (A++X)) (hm:m.bads.length<=100000) (hp:0<m.bads.length): ∃b p,M.bad.a=some ⟨b,p,none⟩/\gU h b p (m.bads.map I):=by
 have hl:=o.lens
 obtain⟨XN,XI,XE,XB,XH,rfl,a,b',c,d,e⟩:=o
 have:=(d.slcOf (h:=h) (by omega) fun x hx=>K.mem x (List.mem_append_right _ (by simp [hx])))
 exact SlC.get this (by omega)
theorem Oe {g h:Hp} {H X:List (Nat×Blk)} {b:Nat} {M:MSl} {m:ai} {N:Nat} {J:Hp->Prop} (o:MG X M m) (d:DZ m N) (hN:N<=10000) (K:Kn g h (H++X)) (hb:(b, .inl ⟨aw M,5,false⟩)∈H)
  (k: ∀s' X' h' m',MG X' {M with bad:=s'} m'->DZ m' (2*N)->(∀H',Upd H b (.inl ⟨aw M,5,false⟩) (.inl ⟨aw {M with bad:=s'},5,false⟩) H'->Kn g h' (H'++X'))->J h'):
  ck h M.bad.a M.bad.n M.bad.c M.bad.a M.bad.n 1 8 fun a n c h95=> ∃(cs:List Value) (z:Nat),h95 b=some (.inl ⟨cs,z,false⟩)/\3+1<=List.length cs/\cu (h95.row b (cv cs 3 [.slice a n c]) z) fun h'=>J h':=by
 have hl:=o.lens
 have hd:=d.bads
 by_cases h0:m.bads.length=0
 ·have hc:M.bad.n<=M.bad.c:=by obtain⟨_,_,_,_,_,_,_,_,_,d',_⟩:=o;exact d'.2.1
  refine .inl ⟨by omega,hc,?_⟩
  have f:=K.at (List.mem_append_left _ hb)
  exact⟨_,_,f,by simp,k M.bad X _ m o (d.more (by omega)) fun H' u=>K.set (u.app (X:=X))⟩
 have e:M.bad.n=m.bads.length:=by omega
 have key:=MG.appBs (xs:=m.bads) (C:=fun a n c h95=> ∃(cs:List Value) (z:Nat),h95 b=some (.inl ⟨cs,z,false⟩)/\3+1<=List.length cs/\cu (h95.row b (cv cs 3 [.slice a n c]) z) fun h'=>J h') o K (by omega) (by omega) (Wj o K (by omega) (by omega)) fun s' X' h7 o' K7=>by
  have f:=K7.at (List.mem_append_left _ hb)
  exact⟨_,_,f,by simp,k s' X' _ _ o' (d.addB _ d.bads) fun H' u=>K7.set (u.app (X:=X'))⟩
 rw [<-e]at key
 exact key
set_option maxHeartbeats 4000000 in
theorem sx {g h:Hp} {A:List (Nat×Blk)} {B p:Nat} {s:Sl} {bs:List Nat} {R:Value->Hp->Prop} (K:Kn g h ((B,rdC s p)::A)) (hb:ByteS g s bs) (hp:p<=10000)
  (k: ∀h' p' X' M' m',Kn g h' ((B,rdC s p')::(A++X'))->MG X' M' m'->DZ m' 4000->p'<=p+200000->R (aO M') h'):
  fH #[.pointer (some ⟨B,0,none⟩)] h R:=by
 apply Ad
 refine uf_ ?_
 refine Kn.al K fun b3 h1 K1 l1 hb3=>?_
 clear K l1 hb3
 refine Hv (A:=(b3, .inl ⟨cZ,5,false⟩)::A) K1.sw hb hp fun h2 p2 X2 M2 m2 K2 o2 d2 c2 n2 hp2=>⟨_,_,_,_,_,rfl,?_⟩
 replace K2:Kn g h2 ((b3, .inl ⟨cZ,5,false⟩)::(B,rdC s p2)::(A++X2)):=K2.sw
 refine Kn.al K2 fun b13 h3 K3 l3 hb13=>?_
 clear K2 l3 hb13
 refine jH (M':=M2) K3 (by((focus ((repeat first|exact .head|apply Upd.tail);done)))) rfl fun h4 K4=>?_
 clear K3
 refine kp_ ?_
 intro x21 h5 K5 _ _
 refine⟨_,rfl,?_⟩
 clear K4
 refine ap (fun J=> ∀h5 q X M m,MG X M m->DZ m 400->0<m.nodes.length->q<=p+100002->Kn g h5 ((b13, .inl ⟨aw M,5,false⟩)::(b3, .inl ⟨cZ,5,false⟩)::(B,rdC s q)::(A++X))->J h5)
  (fun hz q X M m o d hne hq Kz=>?_) (fun J hJ=>?_)
 rotate_left
 ·refine ac (fun _=>?_) (fun _=>hJ h5 _ X2 M2 m2 o2 d2.z n2 (by omega) K5)
  refine sZ (A:=(b13, .inl ⟨aw M2,5,false⟩)::(b3, .inl ⟨cZ,5,false⟩)::(A++X2)) (K5.perm (xf _ _ _ _)) hb (by omega) fun h6 q6 X6 M6 m6 K6 o6 d6 c6 n6 hq6=>⟨_,_,_,_,_,rfl,?_⟩
  have K6':Kn g h6 ((b13, .inl ⟨aw M2,5,false⟩)::(b3, .inl ⟨cZ,5,false⟩)::(B,rdC s q6)::((A++X2)++X6)):=K6.perm (xf _ _ _ _).symm
  clear K5 K6
  refine jH (M':=M6) K6' (by((focus ((repeat first|exact .head|apply Upd.tail);done)))) rfl fun h7 K7=>?_
  refine hJ h7 q6 X6 M6 m6 o6 (d6.z.more (by omega)) n6 (by omega) (K7.subl ?_)
  exact List.Sublist.cons_cons _ (List.Sublist.cons_cons _ (List.Sublist.cons_cons _ (List.Sublist.append_right (List.sublist_append_left _ _) _)))
 clear K5 K1 o2 d2 c2 n2 hp2 m2 M2 X2 p2
 have hl:=o.lens
 have hnl:=d.nodes
 refine kp_ ?_
 intro x38 h6 K6 _ _
 refine⟨_,rfl,?_⟩
 clear Kz
 refine ac (fun _=>?_) (fun _=>?_)
 ·repeat' (refine kr_ ?_)
  refine CK (M:=M) K6 (by((focus ((repeat first|exact .head|apply Upd.tail);done)))) fun h7 K7=>?_
  exact k h7 _ X M m K7.tl.tl o (d.more (by omega)) (by omega)
 repeat' (refine kr_ ?_)
 refine kp_ ?_
 intro a h7 K7 ha _
 refine⟨_,rfl,?_⟩
 replace ha:a<m.nodes.length:=by have:=ha (by omega);omega
 clear K6
 refine kp_ ?_
 intro x62 h8 K8 _ _
 refine⟨_,rfl,?_⟩
 clear K7
 refine ap (fun J=> ∀h5 q X M m,MG X M m->DZ m 4000->q<=p+200000->Kn g h5 ((b13, .inl ⟨aw M,5,false⟩)::(b3, .inl ⟨cZ,5,false⟩)::(B,rdC s q)::(A++X))->J b3 0 b13 0 h5)
  (fun h5 q X M m o d hq K5=>?_) (fun J hJ=>?_)
 ·repeat' (refine kr_ ?_)
  refine CK (M:=M) K5 (by((focus ((repeat first|exact .head|apply Upd.tail);done)))) fun h7 K7=>?_
  exact k h7 _ X M m K7.tl.tl o d (by omega)
 clear k
 obtain⟨n,hna⟩: ∃n,m.nodes[a]?=some n:=⟨_,List.getElem?_eq_getElem ha⟩
 have hnm:=d.names n (List.mem_of_getElem? hna)
 have dset: ∀n':NodeP,n'.name.size<=100->DZ {m with nodes:=m.nodes.set a n'} 4000:=fun n' h=>(d.set h).more (by omega)
 refine ac (fun _=>?_) (fun _=>ac (fun _=>?_) (fun _=>ac (fun _=>?_) (fun _=>ac (fun _=>?_) (fun _=>ac (fun _=>?_) (fun _=>ac (fun _=>?_) (fun _=>ac (fun _=>?_) (fun _=>ac (fun _=>?_) (fun _=>ac (fun _=>?_) (fun _=>ac (fun _=>?_) (fun _=>ac (fun _=>?_) (fun _=>ac (fun _=>?_) (fun _=>ac (fun _=>?_) (fun _=>ac (fun _=>?_) (fun _=>?_))))))))))))))
 ·(refine kr_ ?_)
  refine kp_ ?_
  intro x h9 K9 _ _
  refine⟨_,rfl,?_⟩
  (refine kr_ ?_)
  refine sF (A:=_::_::_::A) (n':={n with kind:=W ((x:Int)-1)}) (off:=0) o K9 hna rfl rfl (by omega) (by rw [Int.toNat_natCast];omega) fun X' h10 o' K10=>?_
  exact hJ h10 _ X' M _ o' (dset _ hnm) (by omega) K10
 ·(refine kr_ ?_)
  (refine kr_ ?_)
  rw [bV (by omega) (by omega)]
  refine kp_ ?_
  intro x h9 K9 _ _
  refine⟨_,rfl,?_⟩
  (refine kr_ ?_)
  refine sF (A:=_::_::_::A) (n':={n with a:=W ((x:Int)-1)}) (off:=1) o K9 hna rfl rfl (by omega) (by rw [Int.toNat_natCast];omega) fun X' h10 o' K10=>?_
  exact hJ h10 _ X' M _ o' (dset _ hnm) (by omega) K10
 ·(refine kr_ ?_)
  refine kp_ ?_
  intro x h9 K9 _ _
  refine⟨_,rfl,?_⟩
  (refine kr_ ?_)
  refine sF (A:=_::_::_::A) (n':={n with n:=W ((x:Int)-2)}) (off:=4) o K9 hna rfl rfl (by omega) (by rw [Int.toNat_natCast];omega) fun X' h10 o' K10=>?_
  exact hJ h10 _ X' M _ o' (dset _ hnm) (by omega) K10
 ·(refine kr_ ?_)
  refine kp_ ?_
  intro x h9 K9 _ _
  refine⟨_,rfl,?_⟩
  (refine kr_ ?_)
  refine sF (A:=_::_::_::A) (n':={n with sort:=⟨n.sort.idx,W ((x:Int)-1)⟩}) (off:=7) o K9 hna rfl rfl (by omega) (by rw [Int.toNat_natCast];omega) fun X' h10 o' K10=>?_
  exact hJ h10 _ X' M _ o' (dset _ hnm) (by omega) K10
 ·(refine kr_ ?_)
  refine⟨?_,?_⟩
  ·refine Kn.al K8 fun b111 h9 K9 l9 hb9=>?_
   (refine kr_ ?_)
   refine kp_ ?_
   intro x h10 K10 hx _
   refine⟨_,rfl,?_⟩
   replace hx:x<4:=by have:=hx (by omega);omega
   obtain⟨t,ht,hz⟩:=Zm hx
   repeat' (refine kr_ ?_)
   refine⟨by omega,by omega,t,by rw [aq (K10.at (.head _)),Int.toNat_natCast,Nat.zero_add,Nat.mul_one];exact ht,?_⟩
   refine sF (A:=_::_::_::_::A) (n':={n with name:=t}) (off:=8) o K10 hna rfl rfl (by omega) (by rw [Int.toNat_natCast];omega) fun X' h11 o' K11=>?_
   exact hJ h11 _ X' M _ o' (dset _ hz) (by omega) K11.tl
  ·refine kp_ ?_
   intro x h9 K9 hx _
   refine⟨_,rfl,?_⟩
   replace hx:x<4:=by have:=hx (by omega);omega
   obtain⟨t,ht,hz⟩:=Zm hx
   (refine kr_ ?_)
   refine Kn.al K9 fun b111 h10 K10 l10 hb10=>?_
   repeat' (refine kr_ ?_)
   refine⟨by omega,by omega,t,by rw [aq (K10.at (.head _)),Int.toNat_natCast,Nat.zero_add,Nat.mul_one];exact ht,?_⟩
   refine sF (A:=_::_::_::_::A) (n':={n with name:=t}) (off:=8) o K10 hna rfl rfl (by omega) (by rw [Int.toNat_natCast];omega) fun X' h11 o' K11=>?_
   exact hJ h11 _ X' M _ o' (dset _ hz) (by omega) K11.tl
 ·(refine kr_ ?_)
  refine ca ⟨_,_,rfl,?_⟩
  (refine kr_ ?_)
  obtain⟨n0,hn0⟩: ∃n,m.nodes[0]?=some n:=⟨_,List.getElem?_eq_getElem hne⟩
  refine sF (A:=_::_::_::A) (i:=0) (n':={n0 with sort:=cx 9}) (off:=6) o K8 hn0 rfl rfl (by omega) rfl fun X' h10 o' K10=>?_
  exact hJ h10 _ X' M _ o' ((DZ.set (i:=0) (n:={n0 with sort:=cx 9}) d (d.names n0 (List.mem_of_getElem? hn0))).more (by omega)) (by omega) K10
 ·have hdi:=d.inits
  (refine kr_ ?_)
  refine Kn.al K8 fun b9 h9 K9 l9 hb9=>?_
  refine Ps (H:=_::_::_::A) (nd:=⟨0,(a:Nat)⟩) o K9 (by omega) (.head _) fun s' X' h10 o' KF=>?_
  have K10:=KF _ (by((focus ((repeat first|exact .head|apply Upd.tail);done))))
  simp only [List.cons_append]at K10
  exact hJ h10 _ X' _ _ o' ((d.addI _).more (by omega)) (by omega) K10
 ·have hde:=d.nexts
  (refine kr_ ?_)
  (refine kr_ ?_)
  refine kp_ ?_
  intro x h9 K9 _ _
  refine⟨_,rfl,?_⟩
  (refine kr_ ?_)
  refine Kn.al K9 fun b9 h10 K10 l10 hb10=>?_
  (refine kr_ ?_)
  refine PA (H:=_::_::_::A) (nd:=⟨(x:Nat),(a:Nat)⟩) o K10 (by omega) (.head _) fun s' X' h11 o' KF=>?_
  have K11:=KF _ (by((focus ((repeat first|exact .head|apply Upd.tail);done))))
  simp only [List.cons_append]at K11
  exact hJ h11 _ X' _ _ o' ((d.addE _).more (by omega)) (by omega) K11
 ·have hdb:=d.bads
  (refine kr_ ?_)
  (refine kr_ ?_)
  rw [bV (by omega) (by omega)]
  refine kp_ ?_
  intro x h9 K9 _ _
  refine⟨_,rfl,?_⟩
  (refine kr_ ?_)
  refine Kn.al K9 fun b9 h10 K10 l10 hb10=>?_
  (refine kr_ ?_)
  refine TW (H:=_::_::_::A) (nd:=W ((x:Int)-1)) o K10 (by omega) (.head _) fun s' X' h11 o' KF=>?_
  have K11:=KF _ (by((focus ((repeat first|exact .head|apply Upd.tail);done))))
  simp only [List.cons_append]at K11
  exact hJ h11 _ X' _ _ o' ((d.addB [_] (by simp)).more (by omega)) (by omega) K11
 ·have hdh:=d.holds
  (refine kr_ ?_)
  refine Kn.al K8 fun b9 h9 K9 l9 hb9=>?_
  refine PE (H:=_::_::_::A) (nd:=(a:Nat)) o K9 (by omega) (.head _) fun s' X' h10 o' KF=>?_
  have K10:=KF _ (by((focus ((repeat first|exact .head|apply Upd.tail);done))))
  simp only [List.cons_append]at K10
  exact hJ h10 _ X' _ _ o' ((d.addH _).more (by omega)) (by omega) K10
 ·(refine kr_ ?_)
  (refine kr_ ?_)
  refine Oe (H:=_::_::_::A) o d (by omega) K8 (.head _) fun s' X' h9 m' o' d' KF=>?_
  have K9:=KF _ (by((focus ((repeat first|exact .head|apply Upd.tail);done))))
  simp only [List.cons_append]at K9
  clear KF K8
  (refine kr_ ?_)
  (refine kr_ ?_)
  refine Oe (H:=_::_::_::A) o' d' (by omega) K9 (.head _) fun s2 X2 h10 m2 o2 d2 KF=>?_
  have K10:=KF _ (by((focus ((repeat first|exact .head|apply Upd.tail);done))))
  simp only [List.cons_append]at K10
  clear KF K9
  (refine kr_ ?_)
  (refine kr_ ?_)
  refine Oe (H:=_::_::_::A) o2 d2 (by omega) K10 (.head _) fun s3 X3 h11 m3 o3 d3 KF=>?_
  have K11:=KF _ (by((focus ((repeat first|exact .head|apply Upd.tail);done))))
  simp only [List.cons_append]at K11
  exact hJ h11 _ X3 _ _ o3 (d3.more (by omega)) (by omega) K11
 ·refine av 62 (fun i vs h'=> ∃q X M m',vs= [.pointer (some ⟨B,0,none⟩), .pointer (some ⟨b3,0,none⟩), .pointer (some ⟨b13,0,none⟩)]/\MG X M m'/\DZ m' (400+i)/\m'.nodes.length=m.nodes.length+i/\q<=p+100010+i/\
   Kn g h' ((b13, .inl ⟨aw M,5,false⟩)::(b3, .inl ⟨cZ,5,false⟩)::(B,rdC s q)::(A++X))) ⟨_,X,M,m,rfl,o,d,rfl,by omega,K8⟩ ?_
  clear K8
  rintro i _ h9 nxt hi ⟨q',X',M',m',rfl,o',d',hl',hq',K9⟩ hnx
  refine⟨_,b3,0,b13,0,rfl,?_⟩
  have hn':=o'.lens
  (refine kr_ ?_)
  refine kp_ ?_
  intro x h10 K10 hx _
  refine⟨_,rfl,?_⟩
  replace hx:x<2:=by have:=hx (by omega);omega
  (refine kr_ ?_)
  rw [bV (by omega) (by omega)]
  refine ac (fun e=>?_) (fun e=>hJ h10 _ X' M' m' o' (d'.more (by omega)) (by omega) K10)
  have e:=of_decide_eq_true e
  clear K9
  (refine kr_ ?_)
  refine ca ⟨_,_,rfl,?_⟩
  (refine kr_ ?_)
  refine Kn.al K10 fun b9 h11 K11 l11 hb11=>?_
  (refine kr_ ?_)
  refine kK (H:=_::_::_::A) (nd:=⟨34,0,0,0,0,0,cx 3,⟨#[]⟩⟩) o' K11 (by omega) (.head _) fun s' X3 h12 o3 KF=>?_
  have K12:=KF _ (by((focus ((repeat first|exact .head|apply Upd.tail);done))))
  simp only [List.cons_append]at K12
  exact hnx (by omega) _ _ ⟨_,X3,_,_,rfl,o3,d'.addN (n:=⟨34,0,0,0,0,0,cx 3,⟨#[]⟩⟩) (show (0:Nat)<=100 by omega),by simp;omega,by omega,K12⟩
 ·(refine kr_ ?_)
  refine kp_ ?_
  intro x h9 K9 _ _
  refine⟨_,rfl,?_⟩
  (refine kr_ ?_)
  refine sF (A:=_::_::_::A) (n':={n with sort:=⟨(x:Nat),n.sort.wid⟩}) (off:=6) o K9 hna rfl rfl (by omega) (by rw [Int.toNat_natCast];omega) fun X' h10 o' K10=>?_
  exact hJ h10 _ X' M _ o' (dset _ hnm) (by omega) K10
 ·(refine kr_ ?_)
  refine ca ⟨_,_,rfl,?_⟩
  (refine kr_ ?_)
  refine Kn.al K8 fun b9 h11 K11 l11 hb11=>?_
  (refine kr_ ?_)
  refine kK (H:=_::_::_::A) (nd:=⟨35,0,0,0,0,0,cx 4,⟨#[119,105,100,101]⟩⟩) o K11 (by omega) (.head _) fun s' X3 h12 o3 KF=>?_
  have K12:=KF _ (by((focus ((repeat first|exact .head|apply Upd.tail);done))))
  simp only [List.cons_append]at K12
  exact hJ h12 _ X3 _ _ o3 ((d.addN (n:=⟨35,0,0,0,0,0,cx 4,⟨#[119,105,100,101]⟩⟩) (show (4:Nat)<=100 by omega)).more (by omega)) (by omega) K12
 ·exact hJ h8 _ X M m o (d.more (by omega)) (by omega) K8
theorem nR {h:Hp} {M:MSl} {m:ai} {x:Int} {R:Value->Hp->Prop} (hs:aN h M m) (hm:bW m) (hc:ax m=0)
  (kf: ∀h',¬(0<=x/\x<(2^ak m.nodes 36:Nat))->h.le h'->R (.tuple #[.slice none 0 0, .bool false]) h')
  (kt: ∀(c:Nat) out h',x=c->c<2^ak m.nodes 36->h.le h'->IntSS h' out ((gj m.nodes (stP m) c).map VL)->R (.tuple #[Sl.v out, .bool true]) h'):ek #[aO M,I x] h R:=by
 apply xu
 refine uf_ ?_
 have g:=cn hc
 have n8:=g.n8
 have hp2:2^ak m.nodes 36<=2^8:=Nat.pow_le_pow_right (by omega) n8
 have hp0:0<2^ak m.nodes 36:=Nat.two_pow_pos _
 have K0:=Kn.nil h
 (with_reducible apply Kn.al);(assumption);(intro b8 h1 K1 l1 hb8)
 clear K0
 have hs1:=hs.mono K1.le
 refine ap (fun J=>J (!decide (0<=x/\x<=((2^ak m.nodes 36:Nat):Int)-1)) h1) ?_ (fun J hJ=>?_)
 rotate_left
 ·repeat' (refine kr_ ?_)
  refine aX hs1 hm ⟨_,rfl,?_⟩
  refine aD (by rw [hc];rfl) ?_
  repeat' (refine kr_ ?_)
  refine fY hs1 hm ⟨_,rfl,?_⟩
  rw [cl (by omega),if_neg (by omega),bG (by omega),bV (by omega) (by omega)]
  exact dx ⟨_,rfl,hJ⟩
 refine ac (fun e=>kf h1 (fun q=>by
  have e':decide (0<=x/\x<=((2^ak m.nodes 36:Nat):Int)-1)=false:=by rw [Bool.not_eq_true']at e;exact e
  have:=of_decide_eq_false e'
  omega) K1.le) (fun e=>?_)
 have hx:0<=x/\x<(2^ak m.nodes 36:Nat):=by
  have:decide (0<=x/\x<=((2^ak m.nodes 36:Nat):Int)-1)=true:=by simpa using e
  have:=of_decide_eq_true this
  omega
 clear e kf
 obtain⟨c,rfl⟩: ∃c:Nat,x=c:=⟨x.toNat,by omega⟩
 repeat' (refine kr_ ?_)
 refine cO hs1 hm fun t h2 l2 it=>⟨_,rfl,?_⟩
 have K2:=K1.mono l2
 (refine kr_ ?_)
 refine fK (hs1.mono l2) hm g.ok it (fun p hp=>mu hp) (iE g 36) (by omega) (by rw [fu g];omega) fun out h3 l3 io=>⟨_,rfl,?_⟩
 exact kt c out h3 rfl (by omega) (Hp.le_trans K2.le l3) io
theorem uP {h:Hp} {M:MSl} {m:ai} {x:Int} {R:Value->Hp->Prop} (hs:aN h M m) (hm:bW m) (hc:ax m=0)
  (kf: ∀h',¬(0<=x/\x<(2^ak m.nodes 35:Nat))->h.le h'->R (.tuple #[.slice none 0 0, .bool false]) h')
  (kt: ∀(c:Nat) out h',x=c->c<2^ak m.nodes 35->h.le h'->IntSS h' out ((gj m.nodes (inP m) c).map VL)->R (.tuple #[Sl.v out, .bool true]) h'):gJ #[aO M,I x] h R:=by
 apply Fg
 refine uf_ ?_
 have g:=cn hc
 have n8:=g.k5
 have hp2:2^ak m.nodes 35<=2^5:=Nat.pow_le_pow_right (by omega) n8
 have hp0:0<2^ak m.nodes 35:=Nat.two_pow_pos _
 have K0:=Kn.nil h
 (with_reducible apply Kn.al);(assumption);(intro b8 h1 K1 l1 hb8)
 clear K0
 have hs1:=hs.mono K1.le
 refine ap (fun J=>J (!decide (0<=x/\x<=((2^ak m.nodes 35:Nat):Int)-1)) h1) ?_ (fun J hJ=>?_)
 rotate_left
 ·repeat' (refine kr_ ?_)
  refine aX hs1 hm ⟨_,rfl,?_⟩
  refine aD (by rw [hc];rfl) ?_
  repeat' (refine kr_ ?_)
  refine fY hs1 hm ⟨_,rfl,?_⟩
  rw [cl (by omega),if_neg (by omega),bG (by omega),bV (by omega) (by omega)]
  exact dx ⟨_,rfl,hJ⟩
 refine ac (fun e=>kf h1 (fun q=>by
  have e':decide (0<=x/\x<=((2^ak m.nodes 35:Nat):Int)-1)=false:=by rw [Bool.not_eq_true']at e;exact e
  have:=of_decide_eq_false e'
  omega) K1.le) (fun e=>?_)
 have hx:0<=x/\x<(2^ak m.nodes 35:Nat):=by
  have:decide (0<=x/\x<=((2^ak m.nodes 35:Nat):Int)-1)=true:=by simpa using e
  have:=of_decide_eq_true this
  omega
 clear e kf
 obtain⟨c,rfl⟩: ∃c:Nat,x=c:=⟨x.toNat,by omega⟩
 repeat' (refine kr_ ?_)
 refine cO hs1 hm fun t h2 l2 it=>⟨_,rfl,?_⟩
 have K2:=K1.mono l2
 (refine kr_ ?_)
 refine fK (hs1.mono l2) hm g.ok it (fun p hp=>mu hp) (iE g 35) (by omega) (by rw [EV g];omega) fun out h3 l3 io=>⟨_,rfl,?_⟩
 exact kt c out h3 rfl (by omega) (Hp.le_trans K2.le l3) io
set_option maxHeartbeats 1000000 in
theorem Ra {h:Hp} {M:MSl} {m:ai} {sS sI:Sl} {xs ys:List Int} {i c d:Nat} {R:Value->Hp->Prop} (hs:aN h M m) (hm:bW m) (g:dP m) (h1:IntS h sS xs) (h2:IntS h sI ys)
  (hc:xs[i]?=some (c:Int)) (hd:ys[i]?=some (d:Int)) (hcl:c<2^ak m.nodes 36) (hdl:d<2^ak m.nodes 35)
  (k: ∀s t h',h.le h'->IntSS h' s ((gj m.nodes (stP m) c).map VL)->IntSS h' t ((gj m.nodes (inP m) d).map VL)->R (.tuple #[Sl.v s,Sl.v t]) h'):
  ju #[aO M, .agg #[sS.v,sI.v],I (i:Nat)] h R:=by
 apply Lo
 refine uf_ ?_
 have n8:=g.n8
 have k5:=g.k5
 have hp8:2^ak m.nodes 36<=2^8:=Nat.pow_le_pow_right (by omega) n8
 have hp5:2^ak m.nodes 35<=2^5:=Nat.pow_le_pow_right (by omega) k5
 have K0:=Kn.nil h
 (with_reducible apply Kn.al);(assumption);(intro b10 g1 K1 l1 hb10)
 (with_reducible apply Kn.al);(assumption);(intro b12 g2 K2 l2 hb12)
 clear K1 K0
 have hs2:=hs.mono K2.le
 have ls:=h1.len
 have lt:=h2.len
 have i1:=get_lt hc
 have i2:=get_lt hd
 obtain⟨b26,o26,ha,hca⟩:=h1.get hc
 obtain⟨b40,o40,hb,hcb⟩:=h2.get hd
 have x26:=gq hca
 have x40:=gq hcb
 replace hca:=K2.le.cell hca
 replace hcb:=K2.le.cell hcb
 repeat' (refine kr_ ?_)
 refine⟨b26,o26,ha,by omega,by omega,_,by rw [Int.toNat_natCast];exact hca,?_⟩
 repeat' (refine kr_ ?_)
 refine⟨b40,o40,hb,by omega,by omega,_,by rw [Int.toNat_natCast];exact hcb,?_⟩
 refine cO hs2 hm fun t1 g3 l3 it=>⟨_,rfl,?_⟩
 have K3:=K2.mono l3
 repeat' (refine kr_ ?_)
 refine fK (hs2.mono l3) hm g.ok it (fun p hp=>mu hp) (iE g 36) (by omega) (by rw [fu g];omega) fun out1 g4 l4 io1=>⟨_,rfl,?_⟩
 have K4:=K3.mono l4
 clear K3
 repeat' (refine kr_ ?_)
 refine cO (hs.mono K4.le) hm fun t2 g5 l5 it2=>⟨_,rfl,?_⟩
 have K5:=K4.mono l5
 clear K4
 repeat' (refine kr_ ?_)
 refine fK (hs.mono K5.le) hm g.ok it2 (fun p hp=>mu hp) (iE g 35) (by omega) (by rw [EV g];omega) fun out2 g6 l6 io2=>⟨_,rfl,?_⟩
 exact k out1 out2 g6 (Hp.le_trans K5.le l6) (io1.mono (Hp.le_trans l5 l6)) io2
def vb (m:ai) (xs ys:List Int):Bool:=
 (decide (ax m=0)&&(decide (1<=(xs.length:Int)/\(xs.length:Int)<=301)&&decide (ys.length=xs.length)))&&(xs.all (jv (ak m.nodes 36))&&ys.all (jv (ak m.nodes 35)))
theorem ik {n:Nat} {x:Int}:jv n x=true↔0<=x/\x<(2^n:Nat):=by
 unfold jv
 rw [decide_eq_true_eq];omega
theorem Dt {h:Hp} {M:MSl} {m:ai} {x:Int} {R:Value->Hp->Prop} (hs:aN h M m) (hm:bW m) (hc:ax m=0)
  (k: ∀s h',h.le h'->R (.tuple #[Sl.v s, .bool (jv (ak m.nodes 36) x)]) h'):ek #[aO M,I x] h R:=by
 refine nR hs hm hc (fun h' e l=>?_) (fun c out h' e hlt l io=>?_)
 ·have:=k ⟨none,0,0⟩ h' l
  rw [Bool.eq_false_iff.2 fun q=>e (ik.1 q)]at this
  exact this
 ·have:=k out h' l
  rw [ik.2 ⟨by omega,by omega⟩]at this
  exact this
theorem C9 {h:Hp} {M:MSl} {m:ai} {x:Int} {R:Value->Hp->Prop} (hs:aN h M m) (hm:bW m) (hc:ax m=0)
  (k: ∀s h',h.le h'->R (.tuple #[Sl.v s, .bool (jv (ak m.nodes 35) x)]) h'):gJ #[aO M,I x] h R:=by
 refine uP hs hm hc (fun h' e l=>?_) (fun c out h' e hlt l io=>?_)
 ·have:=k ⟨none,0,0⟩ h' l
  rw [Bool.eq_false_iff.2 fun q=>e (ik.1 q)]at this
  exact this
 ·have:=k out h' l
  rw [ik.2 ⟨by omega,by omega⟩]at this
  exact this
theorem uY {α:Type} {l:List α} {p:α->Bool} {i:Nat} {x:α} (h:l[i]?=some x) (e:p x=false):l.all p=false:=by
 rw [Bool.eq_false_iff]
 intro q
 rw [List.all_eq_true.1 q x (List.mem_of_getElem? h)]at e;cases e
theorem BU {α:Type} {l:List α} {p:α->Bool} {i:Nat} {x:α} (h:l[i]?=some x) (e:p x=true) (q:(l.take i).all p=true):(l.take (i+1)).all p=true:=by
 rw [List.take_add_one,h,List.all_append,q]
 simp [e]
def zp (m:ai) (xs ys:List Int):Bool:=decide (ax m=0)&&(decide (1<=(xs.length:Int)/\(xs.length:Int)<=301)&&decide (ys.length=xs.length))
set_option maxHeartbeats 1000000 in
theorem Kt {h:Hp} {M:MSl} {m:ai} {sS sI:Sl} {xs ys:List Int} {R:Value->Hp->Prop} (hs:aN h M m) (hm:bW m) (h1:IntS h sS xs) (h2:IntS h sI ys)
  (k:R (.bool (vb m xs ys)) h):rO #[aO M, .agg #[sS.v,sI.v]] h R:=by
 refine ACalls.drop (FC ?_)
 refine uf_ ?_
 have K0:=Kn.nil h
 (with_reducible apply Kn.al);(assumption);(intro b9 g1 K1 l1 hb9)
 (with_reducible apply Kn.al);(assumption);(intro b11 g2 K2 l2 hb11)
 clear K1 K0
 have hs2:=hs.mono K2.le
 have ls:=h1.len
 have lt:=h2.len
 replace k:R (.bool (zp m xs ys&&(xs.all (jv (ak m.nodes 36))&&ys.all (jv (ak m.nodes 35))))) h:=k
 refine ap (fun J=>(zp m xs ys=false->J true g2)/\
  (ax m=0->xs.length<=301->ys.length=xs.length->zp m xs ys=true->J false g2)) ⟨fun e=>?_,fun hc hl hl2 e=>?_⟩ (fun J hJ=>?_)
 ·rw [e]at k
  exact aJ rfl ⟨h,K2.le,k⟩
 ·rw [e,Bool.true_and]at k
  refine aD rfl ?_
  have g:=cn hc
  refine av xs.length (fun i vs h'=>vs= [.pointer (some ⟨b9,0,none⟩), .pointer (some ⟨b11,0,none⟩),I (i:Nat)]/\(xs.take i).all (jv (ak m.nodes 36))=true/\(ys.take i).all (jv (ak m.nodes 35))=true/\
   Kn h h' ((b11, .inl ⟨[sS.v,sI.v],2,false⟩)::(b9, .inl ⟨aw M,5,false⟩):: [])) ⟨rfl,by simp,by simp,K2⟩ ?_
  clear K2
  rintro i _ h3 next hi ⟨rfl,a1,a2,K3⟩ hnx
  refine⟨b9,0,b11,0,_,rfl,?_⟩
  (refine kr_ ?_)
  by_cases hlt:i<xs.length
  rotate_left
  ·refine aD (by simp [ls];omega) ?_
   rw [List.take_of_length_le (by omega)]at a1 a2
   rw [a1,a2]at k
   exact⟨h,K3.le,k⟩
  refine aJ (by simp [ls];omega) ?_
  obtain⟨x,hx⟩: ∃x,xs[i]?=some x:=⟨_,List.getElem?_eq_getElem hlt⟩
  obtain⟨y,hy⟩: ∃y,ys[i]?=some y:=⟨_,List.getElem?_eq_getElem (by omega)⟩
  obtain⟨b,o,ha,hca⟩:=(h1.mono K3.le).get hx
  repeat' (refine kr_ ?_)
  refine⟨b,o,ha,by omega,by omega,_,by rw [Int.toNat_natCast];exact hca,?_⟩
  refine Dt (hs.mono K3.le) hm hc fun s1 h4 l4=>⟨_,_,rfl,?_⟩
  have K4:=K3.mono l4
  clear K3 hca ha o b
  obtain⟨b,o,ha,hca⟩:=(h2.mono K4.le).get hy
  repeat' (refine kr_ ?_)
  refine⟨b,o,ha,by omega,by omega,_,by rw [Int.toNat_natCast];exact hca,?_⟩
  refine C9 (hs.mono K4.le) hm hc fun s2 h5 l5=>⟨_,_,rfl,?_⟩
  have K5:=K4.mono l5
  clear K4
  refine ap (fun J=>J (!(jv (ak m.nodes 36) x&&jv (ak m.nodes 35) y))) ?_ (fun J hJ=>?_)
  ·refine ac (fun e=>?_) (fun e=>?_)
   ·rw [Bool.not_eq_true',Bool.and_eq_false_iff]at e
    have:(xs.all (jv (ak m.nodes 36))&&ys.all (jv (ak m.nodes 35)))=false:=by
     rcases e with e|e
     ·rw [uY hx e,Bool.false_and]
     ·rw [uY hy e,Bool.and_false]
    rw [this]at k
    exact⟨h,K5.le,k⟩
   ·rw [Bool.not_eq_false',Bool.and_eq_true]at e
    rw [aA (by omega)]
    exact hnx hlt _ _ ⟨rfl,BU hx e.1 a1,BU hy e.2 a2,K5⟩
  ·refine ac (fun e=>?_) (fun e=>?_)
   ·rw [Bool.not_eq_true']at e;rw [e]at hJ;exact hJ
   ·rw [Bool.not_eq_false']at e;rw [e,Bool.true_and]at hJ;exact hJ
 ·repeat' (refine kr_ ?_)
  refine aX hs2 hm ⟨_,rfl,?_⟩
  refine ac (fun e=>hJ.1 (by unfold zp;rw [decide_eq_false (fun q=>by rw [q]at e;simp at e)];rfl)) (fun e=>?_)
  have hc:ax m=0:=by simpa using e
  repeat' (refine kr_ ?_)
  rw [ls]
  refine dx ⟨_,rfl,ac (fun e=>hJ.1 (by rw [Bool.not_eq_true']at e;unfold zp;rw [e,Bool.false_and,Bool.and_false])) (fun e=>?_)⟩
  rw [Bool.not_eq_false']at e
  have e2:=of_decide_eq_true e
  repeat' (refine kr_ ?_)
  by_cases hl:ys.length=xs.length
  ·rw [show ((sI.n:Int) !=((sS.n:Nat):Int))=false by rw [lt,ls,hl];simp]
   exact hJ.2 hc (by omega) hl (by unfold zp;rw [decide_eq_true hc,e,decide_eq_true hl];rfl)
  ·rw [show ((sI.n:Int) !=((sS.n:Nat):Int))=true by rw [lt,ls,bne_iff_ne];omega]
   exact hJ.1 (by unfold zp;rw [decide_eq_false hl,Bool.and_false,Bool.and_false])
theorem lc {h:Hp} {M:MSl} {m:ai} {t:Sl} {vs:List (List Nat)} {R:Value->Hp->Prop} (hs:aN h M m) (hm:bW m) (hc:ax m=0)
  (hv:IntSS h t (vs.map VL)) (hf:mw m.nodes (inP m) vs) (k:R (.bool true) h):jr #[aO M,t.v] h R:=by
 refine ACalls.drop (Cv ?_)
 refine uf_ ?_
 have g:=cn hc
 refine aj fun b8 h1 hb8 l1 f8=>?_
 repeat' (refine ku_ ?_)
 refine aX (hs.up (by((focus ((repeat (first|exact Hp.le_refl _|assumption|(refine Hp.le_trans ?_ (by assumption))));done))))) hm ⟨_,rfl,aJ (by rw [hc];rfl) ?_⟩
 repeat' (refine ku_ ?_)
 refine cO (hs.up (by((focus ((repeat (first|exact Hp.le_refl _|assumption|(refine Hp.le_trans ?_ (by assumption))));done))))) hm fun p h2 l2 i2=>⟨p,rfl,?_⟩
 repeat' (refine ku_ ?_)
 exact Dv (hs.up (by((focus ((repeat (first|exact Hp.le_refl _|assumption|(refine Hp.le_trans ?_ (by assumption))));done))))) hm g.ok i2 (cH g 35) (iE g 35) (hv.up (by((focus ((repeat (first|exact Hp.le_refl _|assumption|(refine Hp.le_trans ?_ (by assumption))));done))))) hf ⟨_,rfl,h,by((focus ((repeat (first|exact Hp.le_refl _|assumption|(refine Hp.le_trans ?_ (by assumption))));done))),k⟩
theorem jb (m:ai) (ps:List Nat) (c:Nat):mw m.nodes ps (gj m.nodes ps c):=by rw [sk];exact Ma _ _ _
theorem rz {h:Hp} {M:MSl} {m:ai} {sS sI:Sl} {c d:Nat} {R:Value->Hp->Prop} (hs:aN h M m) (hm:bW m) (hc:ax m=0)
  (h1:IntSS h sS ((gj m.nodes (stP m) c).map VL)) (h2:IntSS h sI ((gj m.nodes (inP m) d).map VL)) (k:R (.bool (iR m (cK m c d))) h):jh #[aO M,sS.v,sI.v] h R:=by
 refine ACalls.drop (BR ?_)
 refine uf_ ?_
 have g:=cn hc
 refine aj fun b9 g1 hb9 l1 f9=>?_
 repeat' (refine ku_ ?_)
 refine gm (hs.up (by((focus ((repeat (first|exact Hp.le_refl _|assumption|(refine Hp.le_trans ?_ (by assumption))));done))))) hm hc (h1.up (by((focus ((repeat (first|exact Hp.le_refl _|assumption|(refine Hp.le_trans ?_ (by assumption))));done))))) (jb ..) ⟨_,rfl,aJ rfl ?_⟩
 repeat' (refine ku_ ?_)
 refine lc (hs.up (by((focus ((repeat (first|exact Hp.le_refl _|assumption|(refine Hp.le_trans ?_ (by assumption))));done))))) hm hc (h2.up (by((focus ((repeat (first|exact Hp.le_refl _|assumption|(refine Hp.le_trans ?_ (by assumption))));done))))) (jb ..) ⟨_,rfl,aJ rfl ?_⟩
 repeat' (refine ku_ ?_)
 refine ph (hs.up (by((focus ((repeat (first|exact Hp.le_refl _|assumption|(refine Hp.le_trans ?_ (by assumption))));done))))) hm g.ok g.nl (h1.up (by((focus ((repeat (first|exact Hp.le_refl _|assumption|(refine Hp.le_trans ?_ (by assumption))));done))))) (ld 36 c g) (h2.up (by((focus ((repeat (first|exact Hp.le_refl _|assumption|(refine Hp.le_trans ?_ (by assumption))));done))))) (ld 35 d g) fun t g2 l2 hn hpv _=>⟨t,rfl,?_⟩
 repeat' (refine ku_ ?_)
 exact uD (hs.up (by((focus ((repeat (first|exact Hp.le_refl _|assumption|(refine Hp.le_trans ?_ (by assumption))));done))))) g hpv (eC g c d) ⟨_,rfl,h,by((focus ((repeat (first|exact Hp.le_refl _|assumption|(refine Hp.le_trans ?_ (by assumption))));done))),k⟩
theorem vq {h:Hp} {M:MSl} {m:ai} {sS sI:Sl} {c d:Nat} {R:Value->Hp->Prop} (hs:aN h M m) (hm:bW m) (hc:ax m=0)
  (h1:IntSS h sS ((gj m.nodes (stP m) c).map VL)) (h2:IntSS h sI ((gj m.nodes (inP m) d).map VL)) (k:R (I (DT m (cK m c d))) h):kj #[aO M,sS.v,sI.v] h R:=by
 refine ACalls.drop (FL ?_)
 refine uf_ ?_
 have g:=cn hc
 refine aj fun b9 g1 hb9 l1 f9=>?_
 refine ap (fun J=>J false g1) (aD rfl ?_) (fun J hJ=>?_)
 ·repeat' (refine ku_ ?_)
  refine ph (hs.up (by((focus ((repeat (first|exact Hp.le_refl _|assumption|(refine Hp.le_trans ?_ (by assumption))));done))))) hm g.ok g.nl (h1.up (by((focus ((repeat (first|exact Hp.le_refl _|assumption|(refine Hp.le_trans ?_ (by assumption))));done))))) (ld 36 c g) (h2.up (by((focus ((repeat (first|exact Hp.le_refl _|assumption|(refine Hp.le_trans ?_ (by assumption))));done))))) (ld 35 d g) fun t g2 l2 hn hpv _=>⟨t,rfl,?_⟩
  repeat' (refine ku_ ?_)
  exact Aj (hs.up (by((focus ((repeat (first|exact Hp.le_refl _|assumption|(refine Hp.le_trans ?_ (by assumption))));done))))) g hpv (eC g c d) ⟨_,rfl,h,by((focus ((repeat (first|exact Hp.le_refl _|assumption|(refine Hp.le_trans ?_ (by assumption))));done))),k⟩
 ·repeat' (refine ku_ ?_)
  refine gm (hs.up (by((focus ((repeat (first|exact Hp.le_refl _|assumption|(refine Hp.le_trans ?_ (by assumption))));done))))) hm hc (h1.up (by((focus ((repeat (first|exact Hp.le_refl _|assumption|(refine Hp.le_trans ?_ (by assumption))));done))))) (jb ..) ⟨_,rfl,aD rfl ?_⟩
  repeat' (refine ku_ ?_)
  exact lc (hs.up (by((focus ((repeat (first|exact Hp.le_refl _|assumption|(refine Hp.le_trans ?_ (by assumption))));done))))) hm hc (h2.up (by((focus ((repeat (first|exact Hp.le_refl _|assumption|(refine Hp.le_trans ?_ (by assumption))));done))))) (jb ..) ⟨_,rfl,hJ⟩
theorem Or {m:ai} (g:dP m) {p k:Nat} (h:ce m.nexts p=some k):k<m.nodes.length:=by
 obtain⟨b,hb,hs,rfl⟩:=gP h
 obtain⟨h1,h2,h3,h4⟩:=jA (g.nex b hb)
 have h2':=eZ.1 h2
 omega
set_option maxHeartbeats 1000000 in
theorem zn {h:Hp} {M:MSl} {m:ai} {sS sI sT:Sl} {c d:Nat} {vs:List (List Nat)} {R:Value->Hp->Prop} (hs:aN h M m) (hm:bW m) (hc:ax m=0)
  (h1:IntSS h sS ((gj m.nodes (stP m) c).map VL)) (h2:IntSS h sI ((gj m.nodes (inP m) d).map VL)) (hv:IntSS h sT (vs.map VL)) (hf:mw m.nodes (stP m) vs)
  (k:R (.bool (hE (stP m) (iV m (cK m c d)) vs (stP m).length)) h):ml #[aO M,sS.v,sI.v,sT.v] h R:=by
 refine ACalls.drop (Es ?_)
 refine uf_ ?_
 have g:=cn hc
 have hil:=g.xl
 have hnl:=g.nl
 have hp36:(stP m).length<=m.nodes.length:=eP m.nodes 36
 have htn:=hv.len
 rw [List.length_map]at htn
 have hvl:=nZ hf
 have hbn: ∀b∈m.nexts,0<=b.node:=fun b hb=>by
  have h2':=eZ.1 (jA (g.nex b hb)).2.1
  omega
 refine aj fun b8 g1 hb8 l1 f8=>?_
 refine ap (fun J=>J false g1) (aD rfl ?_) (fun J hJ=>?_)
 rotate_left
 ·repeat' (refine ku_ ?_)
  refine gm (hs.up (by((focus ((repeat (first|exact Hp.le_refl _|assumption|(refine Hp.le_trans ?_ (by assumption))));done))))) hm hc (h1.up (by((focus ((repeat (first|exact Hp.le_refl _|assumption|(refine Hp.le_trans ?_ (by assumption))));done))))) (jb ..) ⟨_,rfl,aD rfl ?_⟩
  repeat' (refine ku_ ?_)
  refine lc (hs.up (by((focus ((repeat (first|exact Hp.le_refl _|assumption|(refine Hp.le_trans ?_ (by assumption))));done))))) hm hc (h2.up (by((focus ((repeat (first|exact Hp.le_refl _|assumption|(refine Hp.le_trans ?_ (by assumption))));done))))) (jb ..) ⟨_,rfl,aD rfl ?_⟩
  repeat' (refine ku_ ?_)
  exact gm (hs.up (by((focus ((repeat (first|exact Hp.le_refl _|assumption|(refine Hp.le_trans ?_ (by assumption))));done))))) hm hc (hv.up (by((focus ((repeat (first|exact Hp.le_refl _|assumption|(refine Hp.le_trans ?_ (by assumption))));done))))) hf ⟨_,rfl,hJ⟩
 repeat' (refine ku_ ?_)
 refine ph (hs.up (by((focus ((repeat (first|exact Hp.le_refl _|assumption|(refine Hp.le_trans ?_ (by assumption))));done))))) hm g.ok g.nl (h1.up (by((focus ((repeat (first|exact Hp.le_refl _|assumption|(refine Hp.le_trans ?_ (by assumption))));done))))) (ld 36 c g) (h2.up (by((focus ((repeat (first|exact Hp.le_refl _|assumption|(refine Hp.le_trans ?_ (by assumption))));done))))) (ld 35 d g) fun vt g2 l2 hvn hpv _=>⟨vt,rfl,?_⟩
 repeat' (refine ku_ ?_)
 refine cO (hs.up (by((focus ((repeat (first|exact Hp.le_refl _|assumption|(refine Hp.le_trans ?_ (by assumption))));done))))) hm fun pt g3 l3 ip=>⟨pt,rfl,?_⟩
 have hpn:pt.n=(stP m).length:=by have:=ip.len;rw [bz]at this;exact this
 have f83:=l3 _ _ (l2 _ _ f8)
 have l03:=Hp.le_trans l1 (Hp.le_trans l2 l3)
 have aV:=eC g c d
 replace hpv:ge g3 vt (cK m c d):=ge.mono l3 hpv
 generalize cK m c d=v at*
 clear l2 l3 l1 hb8 f8 g2
 refine av (stP m).length (fun i ws h'=>g3.le h'/\ws= [sT.v, .pointer (some ⟨b8,0,none⟩),vt.v,pt.v,I i]/\hE (stP m) (iV m v) vs i=true) ⟨Hp.le_refl _,rfl,rfl⟩ ?_
 rintro i _ h4 next hi ⟨l4,rfl,hg⟩ hnx
 have l04:=Hp.le_trans l03 l4
 refine⟨sT,_,_,vt,pt,_,rfl,?_⟩
 by_cases hlt:i<(stP m).length
 rotate_left
 ·have hie:i=(stP m).length:=by omega
  subst hie
  refine aD (by simp;omega) ⟨_,l04,dj hg.symm k⟩
 refine aJ (by simp;omega) ?_
 obtain⟨p,hpi⟩: ∃p,(stP m)[i]?=some p:=⟨_,List.getElem?_eq_getElem hlt⟩
 have hsucc:=C3 (f:=iV m v) (vs:=vs) hpi
 rw [hg,Bool.true_and]at hsucc
 obtain⟨b,o,ha,hcc⟩:=(ip.mono l4).get (gp hpi)
 refine⟨b,o,ha,by omega,by omega,?_⟩
 (refine ku_ ?_)
 refine⟨_,hcc,?_⟩
 refine nr (hs.mono l04).nexts (by omega) hbn ⟨_,rfl,?_⟩
 refine ap (fun J=> ∀h',h4.le h'->J (!hE (stP m) (iV m v) vs (i+1)) h') ?_ (fun J hJ=>?_)
 ·intro h' l'
  refine ac (fun e=>⟨_,Hp.le_trans l04 l',dj ?_ k⟩) (fun e=>?_)
  ·symm;exact Jx (i:=i+1) (by omega) (by simpa using e)
  ·rw [aA (by omega)]
   exact hnx hlt _ _ ⟨Hp.le_trans l4 l',rfl,by simpa using e⟩
 cases hbo:ce m.nexts p with
 |none=>
  rw [show iO m.nexts p= -1 from by unfold iO;rw [hbo]]
  refine aD (by simp) ?_
  have hn:iV m v p=none:=by unfold iV;rw [hbo];rfl
  rw [hn]at hsucc
  have:=hJ h4 (Hp.le_refl _)
  rw [hsucc]at this;exact this
 |some q=>
  rw [show iO m.nexts p=(q:Int)from by unfold iO;rw [hbo]]
  refine aJ (by simp) ?_
  have hq:=Or g hbo
  have hsm:iV m v p=some (v.getD q []):=by unfold iV;rw [hbo];rfl
  have hfit:=ub g aV.fit hsm
  have hcl:=di m.nodes p
  have hgv:=pJ hf hpi
  rw [hsm]at hsucc
  obtain⟨bt,ot,c1,hta,htc,hcv⟩:=(hv.mono l04).getV (i:=i) (by omega)
  obtain⟨bv,ov,u,hua,hun,huc,huv⟩:=(hpv.mono l4).at (p:=(q:Int)) (by omega) (by rw [aV.len];omega)
  have hcn:=hcv.len
  rw [bz]at hcn
  refine⟨bt,ot,hta,by omega,by omega,bv,ov,hua,by omega,hun,c1,htc,u,huc,?_⟩
  rw [Int.toNat_natCast]at huv
  refine xv hcv huv (by rw [bz];omega) (by rw [bz,bz,hgv.1,hfit.1];exact Nat.le_refl _) ⟨_,rfl,?_⟩
  have:=hJ h4 (Hp.le_refl _)
  simp only at hsucc
  rw [hsucc]at this
  have e2:decide (VL (vs.getD i [])=VL (v.getD q []))=decide (vs.getD i []=v.getD q []):=by
   rw [Bool.eq_iff_iff,decide_eq_true_eq,decide_eq_true_eq,Gl]
  rw [e2];exact this
abbrev cAt (xs:List Int) (i:Nat):Nat:=(xs.getD i 0).toNat
def Mh (m:ai) (xs ys:List Int) (i:Nat):Bool:=hE (stP m) (iV m (cK m (cAt xs i) (cAt ys i))) (gj m.nodes (stP m) (cAt xs (i+1))) (stP m).length
def T9 (m:ai) (xs ys:List Int) (i:Nat):Bool:=iR m (cK m (cAt xs i) (cAt ys i))
def ey (m:ai) (xs ys:List Int):Int:=
 if vb m xs ys=false then 1 else
 if hE (stP m) (eV m) (gj m.nodes (stP m) (cAt xs 0)) (stP m).length=false then 2 else
 if(List.range (xs.length-1)).all (Mh m xs ys)=false then 3 else
 if(List.range xs.length).all (T9 m xs ys)=false then 4 else
 if DT m (cK m (cAt xs (xs.length-1)) (cAt ys (xs.length-1)))<0 then 5 else 0
theorem sr {m:ai} {xs ys:List Int} (h:vb m xs ys=true):ax m=0/\1<=xs.length/\xs.length<=301/\ys.length=xs.length/\
  (∀i,i<xs.length->xs[i]?=some ((cAt xs i:Nat):Int)/\cAt xs i<2^ak m.nodes 36)/\ ∀i,i<xs.length->ys[i]?=some ((cAt ys i:Nat):Int)/\cAt ys i<2^ak m.nodes 35:=by
 unfold vb at h
 simp only [Bool.and_eq_true,decide_eq_true_eq]at h
 obtain⟨⟨h1,⟨h2,h3⟩,h4⟩,h5,h6⟩:=h
 have key: ∀{n:Nat} {l:List Int},l.all (jv n)=true-> ∀i,i<l.length->l[i]?=some ((cAt l i:Nat):Int)/\cAt l i<2^n:=by
  intro n l ha i hi
  have e:l[i]?=some l[i]:=List.getElem?_eq_getElem hi
  have hb:=ik.1 (List.all_eq_true.1 ha _ (List.getElem_mem hi))
  have hc:cAt l i=l[i].toNat:=by unfold cAt;rw [List.getD_eq_getElem?_getD,e];rfl
  rw [hc,e]
  exact⟨by rw [Int.toNat_of_nonneg hb.1],by omega⟩
 exact⟨h1,by omega,by omega,h4,key h5,fun i hi=>key h6 i (by omega)⟩
theorem yl {n:Nat} {f:Nat->Bool} (h:(List.range n).all f=true) (e:f n=true):(List.range (n+1)).all f=true:=by
 rw [List.range_succ,List.all_append,h];simp [e]
theorem AU {n i:Nat} {f:Nat->Bool} (hi:i<n) (e:f i=false):(List.range n).all f=false:=by
 rw [Bool.eq_false_iff]
 intro q
 rw [List.all_eq_true.1 q i (List.mem_range.2 hi)]at e;cases e
set_option maxHeartbeats 2000000 in
theorem qB {h:Hp} {M:MSl} {m:ai} {sS sI:Sl} {xs ys:List Int} {R:Value->Hp->Prop} (hs:aN h M m) (hm:bW m) (h1:IntS h sS xs) (h2:IntS h sI ys)
  (k:R (I (ey m xs ys)) h):k4 #[aO M, .agg #[sS.v,sI.v]] h R:=by
 refine ACalls.drop (C1 ?_)
 refine uf_ ?_
 have K0:=Kn.nil h
 (with_reducible apply Kn.al);(assumption);(intro b9 g1 K1 l1 hb9)
 (with_reducible apply Kn.al);(assumption);(intro b11 g2 K2 l2 hb11)
 clear K1 K0
 have ls:=h1.len
 have lt:=h2.len
 unfold ey at k
 repeat' (refine kr_ ?_)
 refine Kt (hs.mono K2.le) hm (h1.mono K2.le) (h2.mono K2.le) ⟨_,rfl,ac (fun e=>?_) (fun e=>?_)⟩
 ·rw [Bool.not_eq_true']at e
  rw [if_pos e]at k
  exact⟨h,K2.le,k⟩
 rw [Bool.not_eq_false']at e
 obtain⟨hc,n1,n2,n3,hx,hy⟩:=sr e
 rw [if_neg (by rw [e];decide)]at k
 clear e
 have g:=cn hc
 have at_: ∀{h':Hp} {R':Value->Hp->Prop} (i:Nat),h.le h'->i<xs.length->(∀s t h'',h'.le h''->IntSS h'' s ((gj m.nodes (stP m) (cAt xs i)).map VL)->IntSS h'' t ((gj m.nodes (inP m) (cAt ys i)).map VL)->R' (.tuple #[Sl.v s,Sl.v t]) h'')->
   ju #[aO M, .agg #[sS.v,sI.v],I (i:Nat)] h' R':=fun i l hi kk=>Ra (hs.mono l) hm g (h1.mono l) (h2.mono l) (hx i hi).1 (hy i hi).1 (hx i hi).2 (hy i hi).2 kk
 repeat' (refine kr_ ?_)
 refine at_ 0 K2.le (by omega) fun s0 t0 g3 l3 i0 j0=>⟨_,_,rfl,?_⟩
 have K3:=K2.mono l3
 clear K2
 repeat' (refine kr_ ?_)
 refine jK (hs.mono K3.le) hm hc i0 (jb ..) ⟨_,rfl,ac (fun e=>?_) (fun e=>?_)⟩
 ·rw [Bool.not_eq_true']at e
  rw [if_pos e]at k
  exact⟨h,K3.le,k⟩
 rw [Bool.not_eq_false']at e
 rw [if_neg (by rw [e];decide)]at k
 clear e i0 j0 hb9 hb11 l1 l2
 refine av (xs.length-1) (fun i vs h'=>vs= [.pointer (some ⟨b9,0,none⟩), .pointer (some ⟨b11,0,none⟩),I (i:Nat)]/\(List.range i).all (Mh m xs ys)=true/\
  Kn h h' ((b11, .inl ⟨[sS.v,sI.v],2,false⟩)::(b9, .inl ⟨aw M,5,false⟩):: [])) ⟨rfl,rfl,K3⟩ ?_
 clear K3 l3 g3 g2 g1
 rintro i _ h3 next hi ⟨rfl,a1,K3⟩ hnx
 refine⟨b9,0,b11,0,_,rfl,?_⟩
 (refine kr_ ?_)
 rw [aA (by omega)]
 by_cases hlt:i<xs.length-1
 ·refine aJ (by rw [decide_eq_true_eq];omega) ?_
  repeat' (refine kr_ ?_)
  refine at_ i K3.le (by omega) fun s1 t1 h4 l4 i1 j1=>⟨_,_,rfl,?_⟩
  have K4:=K3.mono l4
  clear K3
  repeat' (refine kr_ ?_)
  refine at_ (i+1) K4.le (by omega) fun s2 t2 h5 l5 i2 j2=>⟨_,_,rfl,?_⟩
  have K5:=K4.mono l5
  clear K4
  repeat' (refine kr_ ?_)
  refine zn (hs.mono K5.le) hm hc (i1.mono l5) (j1.mono l5) i2 (jb ..) ⟨_,rfl,ac (fun e=>?_) (fun e=>?_)⟩
  ·rw [Bool.not_eq_true']at e
   rw [if_pos (AU hlt e)]at k
   exact⟨h,K5.le,k⟩
  ·rw [Bool.not_eq_false']at e
   exact hnx hlt _ _ ⟨rfl,yl a1 e,K5⟩
 refine aD (by rw [decide_eq_false_iff_not];omega) ?_
 clear hnx
 obtain rfl:i=xs.length-1:=by omega
 rw [if_neg (by rw [a1];decide)]at k
 clear a1 hlt hi
 refine av xs.length (fun i vs h'=>vs= [.pointer (some ⟨b9,0,none⟩), .pointer (some ⟨b11,0,none⟩),I (i:Nat)]/\(List.range i).all (T9 m xs ys)=true/\
  Kn h h' ((b11, .inl ⟨[sS.v,sI.v],2,false⟩)::(b9, .inl ⟨aw M,5,false⟩):: [])) ⟨rfl,rfl,K3⟩ ?_
 clear K3 h3
 rintro i _ h3 next2 hi ⟨rfl,a1,K3⟩ hnx
 refine⟨b9,0,b11,0,_,rfl,?_⟩
 (refine kr_ ?_)
 by_cases hlt:i<xs.length
 ·refine aJ (by rw [decide_eq_true_eq];omega) ?_
  repeat' (refine kr_ ?_)
  refine at_ i K3.le (by omega) fun s1 t1 h4 l4 i1 j1=>⟨_,_,rfl,?_⟩
  have K4:=K3.mono l4
  clear K3
  repeat' (refine kr_ ?_)
  refine rz (hs.mono K4.le) hm hc i1 j1 ⟨_,rfl,ac (fun e=>?_) (fun e=>?_)⟩
  ·rw [Bool.not_eq_true']at e
   rw [if_pos (AU hlt e)]at k
   exact⟨h,K4.le,k⟩
  ·rw [Bool.not_eq_false']at e
   rw [aA (by omega)]
   exact hnx hlt _ _ ⟨rfl,yl a1 e,K4⟩
 refine aD (by rw [decide_eq_false_iff_not];omega) ?_
 clear hnx
 obtain rfl:i=xs.length:=by omega
 rw [if_neg (by rw [a1];decide)]at k
 repeat' (refine kr_ ?_)
 rw [show W ((sS.n:Int)-1)=((xs.length-1:Nat):Int) by rw [bV (by omega) (by omega)];omega]
 refine at_ (xs.length-1) K3.le (by omega) fun s1 t1 h4 l4 i1 j1=>⟨_,_,rfl,?_⟩
 have K4:=K3.mono l4
 clear K3
 repeat' (refine kr_ ?_)
 refine vq (hs.mono K4.le) hm hc i1 j1 ⟨_,rfl,ac (fun e=>?_) (fun e=>?_)⟩
 ·rw [if_pos (of_decide_eq_true e)]at k
  exact⟨h,K4.le,k⟩
 ·rw [if_neg (of_decide_eq_false e)]at k
  exact⟨h,K4.le,k⟩
abbrev uH (xs ys:List Int):List (Nat×Nat):=(List.range xs.length).map fun i=>(cAt xs i,cAt ys i)
theorem Fs {xs ys:List Int} {i:Nat} {a:Nat×Nat} (h:(uH xs ys)[i]?=some a):i<xs.length/\a=(cAt xs i,cAt ys i):=by
 have hi:=get_lt h
 have hl:i<xs.length:=by simpa using hi
 refine⟨hl,?_⟩
 rw [List.getElem?_map,List.getElem?_range hl]at h
 exact(Option.some.inj h).symm
theorem CO {xs ys:List Int} {i:Nat} (h:i<xs.length):(uH xs ys)[i]?=some (cAt xs i,cAt ys i):=by
 rw [List.getElem?_map,List.getElem?_range h];rfl
theorem yg {m:ai} {s x:Nat} (hs:s<2^ak m.nodes 36):(aG m).hold ((aG m).at_ s x)=iR m (cK m s x)/\(aG m).bad ((aG m).at_ s x)=(qp m (cK m s x)).isSome:=by
 have h1:(x*2^ak m.nodes 36+s)%2^ak m.nodes 36=s:=by rw [Nat.mul_add_mod_self_right,Nat.mod_eq_of_lt hs]
 have h2:(x*2^ak m.nodes 36+s)/2^ak m.nodes 36=x:=by
  rw [Nat.mul_comm,Nat.mul_add_div (Nat.two_pow_pos _),Nat.div_eq_of_lt hs,Nat.add_zero]
 constructor
 ·show iR m (cK m ((x*2^ak m.nodes 36+s)%2^ak m.nodes 36) ((x*2^ak m.nodes 36+s)/2^ak m.nodes 36))=_
  rw [h1,h2]
 ·show (qp m (cK m ((x*2^ak m.nodes 36+s)%2^ak m.nodes 36) ((x*2^ak m.nodes 36+s)/2^ak m.nodes 36))).isSome=_
  rw [h1,h2]
theorem FV {m:ai} {xs ys:List Int} (h:ey m xs ys=0):ax m=0/\1<=xs.length/\xs.length<=301/\ys.length=xs.length/\(aG m).Path (aG m).begins (uH xs ys):=by
 unfold ey at h
 obtain⟨h1,h⟩:=jT (by decide) h
 obtain⟨h2,h⟩:=jT (by decide) h
 obtain⟨h3,h⟩:=jT (by decide) h
 obtain⟨h4,h⟩:=jT (by decide) h
 obtain⟨h5,_⟩:=jT (by decide) h
 rw [Bool.not_eq_false]at h1 h2 h3 h4
 obtain⟨hc,n1,n2,n3,hx,hy⟩:=sr h1
 have g:=cn hc
 refine⟨hc,n1,n2,n3,WL _ _ ⟨_,CO (by omega),?_⟩ ?_ ?_ ⟨_,by rw [List.length_map,List.length_range];exact CO (by omega),?_⟩⟩
 ·rw [vd g];exact kA.1 h2
 ·intro a ha
  obtain⟨i,hi,rfl⟩:=List.mem_map.1 ha
  have hi':=List.mem_range.1 hi
  refine⟨(hx i hi').2,(hy i hi').2,?_⟩
  rw [(yg (hx i hi').2).1]
  exact List.all_eq_true.1 h4 i hi
 ·intro i a b ha hb
  obtain⟨_,rfl⟩:=Fs ha
  obtain⟨hl,rfl⟩:=Fs hb
  rw [Ms g (hx i (by omega)).2]
  exact kA.1 (List.all_eq_true.1 h3 i (List.mem_range.2 (by omega)))
 ·rw [(yg (hx _ (by omega)).2).2]
  unfold DT at h5
  cases hb:qp m (cK m (cAt xs (xs.length-1)) (cAt ys (xs.length-1)))with
  |none=>rw [hb]at h5;exact absurd (show (-1:Int)<0 by decide) h5
  |some d=>rfl
theorem GD {l:List Nat} {i:Nat} {x:Nat} (h:l[i]?=some x):(VL l)[i]?=some (x:Int):=by unfold VL;rw [List.getElem?_map,h];rfl
theorem ge.out {h:Hp} {t:Sl} {vs:List (List Nat)} {X:List (Nat×Blk)} {s:Sl} {ts:List Sl} (e:ge h t vs) (he: ∀p,p<vs.length->0<(vs.getD p []).length) (o:cD X s 1 (ts.map Sl.v)) (m: ∀e∈X,h e.1=some e.2)
  (hts: ∀(j:Nat) (u:Sl),ts[j]?=some u-> ∃ws,(0<vs.length->0<ws.length)/\ge h u ws):ge (h.wo (X.map Prod.fst)) t vs:=by
 rcases o.2.2 with ⟨rfl,_,_⟩|⟨b,_,rfl⟩
 ·exact e.mono fun c x hc=>by simp [Hp.wo,hc]
 have hb:=m _ (.head _)
 have kp: ∀c,c≠b->(h.wo [b]) c=h c:=fun c hc=>by simp [Hp.wo,hc]
 refine⟨e.1,e.2.1,fun p hp=>?_⟩
 obtain⟨b',o',t',h1,h2,h3⟩:=e.2.2 p hp
 refine⟨b',o',t',h1,?_,h3.keepN hb (uh ts) kp⟩
 have hne:b'≠b:=by
  rintro rfl
  rw [aq hb,List.getElem?_map,Option.map_eq_some_iff]at h2
  obtain⟨u,hu,hv⟩:=h2
  obtain⟨ws,hw,hpw⟩:=hts _ u hu
  obtain rfl:u=t':=by
   obtain⟨a1,a2,a3⟩:=u
   obtain⟨c1,c2,c3⟩:=t'
   cases hv;rfl
  obtain⟨b2,o2,u2,g1,g2,_⟩:=hpw.2.2 0 (hw (by omega))
  obtain⟨b3,o3,g3,g4,_⟩:=IntS.elt h3 (i:=0) (he p hp)
  rw [g1]at g3
  cases g3
  rw [g2]at g4
  cases g4
 unfold Hp.cell at h2⊢
 rw [show (Hp.wo h (List.map Prod.fst [(b,(Sum.inl ⟨ts.map Sl.v,s.c*1,false⟩:Blk))])) b'=h b' from kp b' hne]
 exact h2
theorem Jm {l:List NodeP} {ps:List Nat} {i p:Nat} (h:ps[i]?=some p):(da l ps).getD i []=List.replicate (aK l p) 0:=by
 unfold da
 rw [List.getD_eq_getElem?_getD,List.getElem?_map,h];rfl
theorem Kb (b n:Nat) {h:Hp} {z:Nat} {ro:Bool} (hn:n<=1000) (f:h b=some (.inl ⟨aQ #[I 0] n,z,ro⟩)):IntS h ⟨some ⟨b,0,none⟩,n,n⟩ (VL (List.replicate n 0)):=by
 rw [cj]at f
 refine⟨by dsimp only;omega,by simp [bz], .inr ⟨b,0,rfl,?_⟩⟩
 have hc:(VL (List.replicate n 0)).map I=List.replicate n (I 0):=by simp [VL]
 rw [hc];exact ay f
theorem ge.offB {h0 h:Hp} {t out:Sl} {ts:List Sl} {vs:List (List Nat)} (e:ge h t vs) (pn:WH h0 t) (b0:Buf h0 out 1 (ts.map Sl.v)) (b1:Buf h out 1 (ts.map Sl.v)):ge (h.offS out) t vs:=by
 refine⟨e.1,e.2.1,fun p hp=>?_⟩
 obtain⟨b,o,t',h1,h2,h3⟩:=e.2.2 p hp
 refine⟨b,o,t',h1,?_,h3.offL b1⟩
 have hn:=pn b o h1
 have:(h.offS out) b=h b:=BH (b0.fresh_ne hn)
 unfold Hp.cell at h2⊢
 rw [this];exact h2
set_option maxHeartbeats 1000000 in
theorem LW {h:Hp} {M:MSl} {m:ai} {kind:Int} {R:Value->Hp->Prop} (hs:aN h M m) (hm:bW m) (g:dP m)
  (k: ∀(out:Sl) (ts:List Sl) (h':Hp),h.le (h'.offS out)->out.n=(aU m.nodes kind).length->ts.length=(aU m.nodes kind).length->Buf h' out 1 (ts.map Sl.v)->
   (∀(j:Nat) (t:Sl),ts[j]?=some t->IntS (h'.offS out) t (VL ((da m.nodes (aU m.nodes kind)).getD j [])))->R (Sl.v out) h'):tj #[aO M,I kind] h R:=by
 apply HC
 refine uf_ ?_
 have hpl:=eP m.nodes kind
 have hnl:=g.nl
 have K0:=Kn.nil h
 (with_reducible apply Kn.al);(assumption);(intro b8 h1 K1 l1 hb8)
 clear K0
 repeat' (refine kr_ ?_)
 refine cO (hs.mono K1.le) hm fun pt h2 l2 ip=>⟨_,rfl,?_⟩
 have f8:=l2 _ _ (K1.at (.head _))
 have hs2:=hs.mono (Hp.le_trans K1.le l2)
 have l02:=Hp.le_trans K1.le l2
 have hpn:pt.n=(aU m.nodes kind).length:=by have:=ip.len;rw [bz]at this;exact this
 clear K1 l1 hb8 l2
 refine av (aU m.nodes kind).length (fun i vs h'=> ∃(ts:List Sl) (out:Sl),vs= [.pointer (some ⟨b8,0,none⟩),pt.v,out.v,I (i:Nat)]/\h2.le (h'.offS out)/\out.n=i/\ts.length=i/\Buf h' out 1 (ts.map Sl.v)/\
  (∀(j:Nat) (t:Sl),ts[j]?=some t->IntS (h'.offS out) t (VL ((da m.nodes (aU m.nodes kind)).getD j [])))) ⟨[],⟨none,0,0⟩,rfl,Hp.le_refl _,rfl,rfl,eG _ _,fun j t ht=>by simp at ht⟩ ?_
 rintro i _ h3 next hi ⟨ts,out,rfl,l3',hon,htl,hbuf,hts⟩ hnx
 have l23:=Hp.le_trans l3' (bk h3 out)
 refine⟨b8,0,pt,out,_,rfl,?_⟩
 by_cases hlt:i<(aU m.nodes kind).length
 rotate_left
 ·obtain rfl:i=(aU m.nodes kind).length:=by omega
  refine aD (by rw [decide_eq_false_iff_not];omega) ?_
  exact k out ts h3 (Hp.le_trans l02 l3') hon htl hbuf hts
 refine aJ (by rw [decide_eq_true_eq];omega) ?_
 obtain⟨p,hpi⟩: ∃p,(aU m.nodes kind)[i]?=some p:=⟨_,List.getElem?_eq_getElem hlt⟩
 have hpm:=cH g kind p (List.mem_of_getElem? hpi)
 obtain⟨bp,op,hap,hcp⟩:=(ip.mono l23).get (gp hpi)
 refine⟨bp,op,hap,by omega,by omega,?_⟩
 have K3:=Kn.of l23
 (refine kr_ ?_)
 refine⟨_,by rw [Int.toNat_natCast];exact hcp,?_⟩
 obtain⟨bn,on,han,hpn',c6,c7,w1,w16⟩:=(hs2.mono l23).nodes.sortc2 hpm g.ok
 refine⟨bn,on,han,by omega,hpn',_,c6,_,c7,?_⟩
 refine ff ⟨_,rfl,?_⟩
 rw [qi g.ok hpm]
 have hc4:=di m.nodes p
 refine⟨by omega,by omega,by omega,by omega,?_⟩
 refine aj fun b33 h4 hb33 l4 f33=>?_
 rw [Int.toNat_natCast,Nat.mul_one]at f33
 have ht:=Kb b33 _ (by omega) f33
 rw [Int.toNat_natCast]
 refine aj fun b h5 hb l5 f5=>?_
 have l35:=Hp.le_trans l4 l5
 have l35o:=bM out l35
 refine dm (hbuf.mono l35) (by omega) (by omega) (by omega) ⟨b,0,rfl,ay f5⟩ (by simp) rfl ?_
 intro s' h6 hs'n hbuf' l6' _
 rw [aA (by omega)]
 have l36:=Hp.le_trans l35o l6'
 have hbuf'':Buf h6 s' 1 ((ts++ [(⟨some ⟨b33,0,none⟩,aK m.nodes p,aK m.nodes p⟩:Sl)]).map Sl.v):=by rw [List.map_append];exact hbuf'
 refine hnx hlt _ _ ⟨ts++ [⟨some ⟨b33,0,none⟩,aK m.nodes p,aK m.nodes p⟩],s',rfl,Hp.le_trans l3' l36,by omega,by simp;omega,hbuf'',fun j u hu=>?_⟩
 by_cases hj:j<i
 ·rw [List.getElem?_append_left (by omega)]at hu
  exact(hts j u hu).mono l36
 ·have hju:=get_lt hu
  simp at hju
  obtain rfl:j=i:=by omega
  rw [List.getElem?_append_right (by omega),htl,Nat.sub_self]at hu
  simp at hu;subst hu
  rw [Jm hpi]
  exact((ht.mono l5).offL (hbuf.mono l35)).mono l6'
theorem NP {m:ai} (g:dP m) {p q:Nat} (h:ce m.inits p=some q):q<m.nodes.length/\0<((od m).getD q []).length/\((od m).getD q []).length<=4:=by
 obtain⟨b,hb,_,rfl⟩:=gP h
 obtain⟨v1,v2,v3,v4,_⟩:=ul g hb
 exact⟨by omega,v3,v4⟩
theorem Th (m:ai) {i p:Nat} (h:(stP m)[i]?=some p):(ln m).getD i []=(eV m p).getD (List.replicate (aK m.nodes p) 0):=by
 unfold ln kz
 rw [List.getD_eq_getElem?_getD,List.getElem?_map,h];rfl
theorem II (m:ai):(ln m).length=(stP m).length:=by unfold ln kz;rw [List.length_map]
set_option maxHeartbeats 1000000 in
theorem AL {h:Hp} {M:MSl} {m:ai} {R:Value->Hp->Prop} (hs:aN h M m) (hm:bW m) (g:dP m)
  (k: ∀out h',h.le h'->IntSS h' out ((ln m).map VL)->R (Sl.v out) h'):nA #[aO M] h R:=by
 apply Gp
 refine uf_ ?_
 have hpl:(stP m).length<=m.nodes.length:=eP m.nodes 36
 have hnl:=g.nl
 have hil:=g.il
 have K0:=Kn.nil h
 (with_reducible apply Kn.al);(assumption);(intro b7 h1 K1 l1 hb7)
 clear K0
 repeat' (refine kr_ ?_)
 refine cO (hs.mono K1.le) hm fun pt h2 l2 ip=>⟨_,rfl,?_⟩
 have K2:=K1.mono l2
 clear K1
 repeat' (refine kr_ ?_)
 refine LW (hs.mono K2.le) hm g fun out ts h3 l3 hon htl hbuf hts=>⟨_,rfl,?_⟩
 have l3':=Hp.le_trans l3 (bk _ _)
 replace hon:out.n=(stP m).length:=hon
 replace htl:ts.length=(stP m).length:=htl
 have K3:=K2.mono l3'
 repeat' (refine kr_ ?_)
 refine Dy (hs.mono K3.le) hm g fun vt h4 l4 hvn hpv pn=>⟨_,rfl,?_⟩
 have f7:=l4 _ _ (K3.at (.head _))
 have hpn:pt.n=(stP m).length:=by have:=ip.len;rw [bz]at this;exact this
 have f7o:(h4.offS out) b7=some (.inl ⟨aw M,5,false⟩):=bM out l4 _ _ (l3 _ _ (K2.at (.head _)))
 have hpvo:ge (h4.offS out) vt (od m):=hpv.offB pn hbuf (hbuf.mono l4)
 replace hbuf:=hbuf.mono l4
 replace hts: ∀(j p:Nat) (t:Sl),(stP m)[j]?=some p->ts[j]?=some t->IntS (h4.offS out) t (VL (List.replicate (aK m.nodes p) 0)):=fun j p t hp ht=>by
  have:=(hts j t ht).mono (bM out l4)
  rwa [Jm hp]at this
 have l04:h.le (h4.offS out):=Hp.le_trans K2.le (Hp.le_trans l3 (bM out l4))
 have ipo:IntS (h4.offS out) pt (VL (stP m)):=ip.mono (Hp.le_trans l3 (bM out l4))
 clear K3 K2 hb7 l1 l2 l3' hpv pn ip l4 l3 f7
 refine av (stP m).length (fun i vs h'=> ∃ts:List Sl,vs= [.pointer (some ⟨b7,0,none⟩),pt.v,out.v,vt.v,I (i:Nat)]/\(h4.offS out).le (h'.offS out)/\Buf h' out 1 (ts.map Sl.v)/\ts.length=(stP m).length/\
  ∀(j p:Nat) (t:Sl),(stP m)[j]?=some p->ts[j]?=some t->IntS (h'.offS out) t (VL (if j<i then(eV m p).getD (List.replicate (aK m.nodes p) 0)else List.replicate (aK m.nodes p) 0)))
  ⟨ts,rfl,Hp.le_refl _,hbuf,htl,fun j p t hp ht=>by rw [if_neg (by omega)];exact hts j p t hp ht⟩ ?_
 clear hbuf hts htl ts
 rintro i _ h5 next hi ⟨ts,rfl,l45,hbuf,htl,hts⟩ hnx
 have lo:=bk h5 out
 have l5:=Hp.le_trans l45 lo
 refine⟨b7,0,pt,out,vt,_,rfl,?_⟩
 by_cases hlt:i<(stP m).length
 rotate_left
 ·obtain rfl:i=(stP m).length:=by omega
  refine aD (by rw [decide_eq_false_iff_not];omega) ?_
  refine k out h5 (Hp.le_trans l04 l5) ⟨ts,by rw [List.length_map,II];exact htl,hbuf.slc_of (by omega),fun j h1 h2=>?_⟩
  have hj:j<(stP m).length:=by omega
  obtain⟨p,hp⟩: ∃p,(stP m)[j]?=some p:=⟨_,List.getElem?_eq_getElem hj⟩
  have:=(hts j p _ hp (List.getElem?_eq_getElem h1)).mono lo
  rw [if_pos hj,<-Th m hp,List.getD_eq_getElem?_getD,List.getElem?_eq_getElem (by rw [II];exact hj)]at this
  rw [List.getElem_map];exact this
 refine aJ (by rw [decide_eq_true_eq];omega) ?_
 obtain⟨p,hpi⟩: ∃p,(stP m)[i]?=some p:=⟨_,List.getElem?_eq_getElem hlt⟩
 have hpm:=cH g 36 p (List.mem_of_getElem? hpi)
 obtain⟨bp,op,hap,hcp⟩:=(ipo.mono l5).get (gp hpi)
 have K5:=Kn.of l5
 have f7:=l5 _ _ f7o
 have K05:=Kn.of (g:=h4.offS out) l5
 refine⟨bp,op,hap,by omega,by omega,?_⟩
 repeat' (refine kr_ ?_)
 refine⟨_,by rw [Int.toNat_natCast];exact hcp,?_⟩
 have hbn: ∀b∈m.inits,0<=b.node:=fun b hb=>(ul g hb).1
 refine nr (hs.mono (Hp.le_trans l04 l5)).inits (by omega) hbn ⟨_,rfl,?_⟩
 cases hbo:ce m.inits p with
 |none=>
  rw [show iO m.inits p= -1 from by unfold iO;rw [hbo]]
  refine aD (by simp) ?_
  rw [aA (by omega)]
  refine hnx hlt _ _ ⟨ts,rfl,l45,hbuf,htl,fun j p' t hp ht=>?_⟩
  have:=hts j p' t hp ht
  by_cases hj:j<i
  ·rw [if_pos hj]at this;rw [if_pos (by omega)];exact this
  ·rw [if_neg hj]at this
   by_cases hj2:j=i
   ·subst hj2
    rw [hpi]at hp
    obtain rfl:=Option.some.inj hp
    rw [if_pos (by omega),show eV m p=none by unfold eV;rw [hbo];rfl];exact this
   ·rw [if_neg (by omega)];exact this
 |some q=>
  rw [show iO m.inits p=(q:Int)from by unfold iO;rw [hbo]]
  refine aJ (by simp) ?_
  obtain⟨hq,v3,v4⟩:=NP g hbo
  obtain⟨bv,ov,u,hua,hun,huc,huv⟩:=(hpvo.mono l5).at (p:=(q:Int)) (by omega) (by rw [(wO g).len];omega)
  rw [Int.toNat_natCast]at huv
  obtain⟨t,hti⟩: ∃t,ts[i]?=some t:=⟨_,List.getElem?_eq_getElem (by omega)⟩
  have htI:=hts i p t hpi hti
  rw [if_neg (by omega)]at htI
  have htn:=htI.len
  rw [bz,List.length_replicate]at htn
  have hc4:=di m.nodes p
  refine⟨bv,ov,hua,by omega,hun,?_⟩
  rcases hbuf.2.2 with ⟨_,h0,_⟩|⟨bo,hao,hbo'⟩
  ·omega
  refine⟨bo,0,hao,by omega,by omega,u,huc,t,by rw [aq hbo',Int.toNat_natCast,Nat.zero_add,Nat.mul_one,List.getElem?_map,hti];rfl,?_⟩
  rw [htn]
  refine Dm huv v3 v4 hc4 fun t2 h6 l6 ht2=>⟨_,rfl,?_⟩
  have l6o:=bM out l6
  have hbuf6:=hbuf.mono l6
  refine hbuf6.wr (x:=t2) (by omega) fun h7 hbuf' ho=>?_
  rw [aA (by omega)]
  refine hnx hlt _ _ ⟨ts.set i t2,rfl,by rw [ho];exact Hp.le_trans l45 l6o,hbuf',by rw [List.length_set];exact htl,fun j p' w hp hw=>?_⟩
  rw [ho]
  by_cases hji:j=i
  ·subst hji
   rw [hpi]at hp
   obtain rfl:=Option.some.inj hp
   rw [List.getElem?_set_self (by omega)]at hw
   obtain rfl:=Option.some.inj hw
   rw [if_pos (by omega),show eV m p=some (mL (aK m.nodes p) ((od m).getD q [])) by unfold eV;rw [hbo];rfl]
   exact ht2.offL hbuf6
  ·rw [List.getElem?_set_ne (fun e=>hji e.symm)]at hw
   have:=(hts j p' w hp hw).mono l6o
   by_cases hj:j<i
   ·rw [if_pos hj]at this;rw [if_pos (by omega)];exact this
   ·rw [if_neg hj]at this;rw [if_neg (by omega)];exact this
theorem NK {h:Hp} {M:MSl} {m:ai} {x:Int} {R:Value->Hp->Prop} (hs:aN h M m) (hm:bW m) (hc:ax m≠0)
  (k: ∀h',h.le h'->R (.tuple #[.slice none 0 0, .bool false]) h'):ek #[aO M,I x] h R:=by
 apply xu
 refine uf_ ?_
 have K0:=Kn.nil h
 (with_reducible apply Kn.al);(assumption);(intro b8 h1 K1 l1 hb8)
 refine ap (fun J=>J true h1) (aJ rfl (k h1 l1)) (fun J hJ=>?_)
 repeat' (refine kr_ ?_)
 refine aX (hs.mono l1) hm ⟨_,rfl,?_⟩
 exact aJ (by rw [bne_iff_ne];exact hc) hJ
def ug (m:ai):Nat->List Int->List (Nat×Nat)
 |_, []=> []
 |s,y::r=>(s,y.toNat)::ug m (lO m s y.toNat) r
def lw (m:ai) (x:Int) (ys:List Int):Bool:=
 decide (1<=(ys.length:Int)/\(ys.length:Int)<=301)&&(decide (ax m=0)&&(jv (ak m.nodes 36) x&&ys.all (jv (ak m.nodes 35))))
def ti (m:ai) (x:Int) (ys:List Int):List (Nat×Nat):=if lw m x ys then ug m x.toNat ys else []
theorem Hl (m:ai): ∀(ys:List Int) (s:Nat),(ug m s ys).length=ys.length:=by
 intro ys
 induction ys with
 |nil=>intro s;rfl
 |cons y r ih=>intro s;show (_::ug m _ r).length=_;rw [List.length_cons,ih,List.length_cons]
theorem Pz {m:ai} {x:Int} {ys:List Int} (h:lw m x ys=false):ti m x ys= []:=by unfold ti;rw [h];rfl
theorem xc {m:ai} (g:dP m) (s i:Nat):lO m s i<2^ak m.nodes 36:=by
 have:=A0 (oP g (eC g s i).fit)
 rwa [fu g]at this
set_option maxHeartbeats 2000000 in
theorem rP {h:Hp} {M:MSl} {m:ai} {s:Sl} {x:Int} {ys:List Int} {R:Value->Hp->Prop} (hs:aN h M m) (hm:bW m) (hy:IntS h s ys)
  (k: ∀sS sI h',TrG h h' sS sI (ti m x ys)->R (Ga sS sI (lw m x ys)) h'):mb #[aO M,I x,s.v] h R:=by
 apply D5
 refine uf_ ?_
 have hn:=hy.len
 have K0:=Kn.nil h
 (with_reducible apply Kn.al);(assumption);(intro b9 h1 K1 l1 hb9)
 (with_reducible apply Kn.al);(assumption);(intro b11 h2 K2 l2 hb11)
 clear K0 K1
 have no: ∀{h':Hp},lw m x ys=false->Kn h h' [(b11, .inl ⟨[(⟨none,0,0⟩:Sl).v,(⟨none,0,0⟩:Sl).v],2,false⟩),(b9, .inl ⟨aw M,5,false⟩)]->
   ∃(cs:List Value) (z:Nat),h' b11=some (.inl ⟨cs,z,false⟩)/\0+2<=cs.length/\cu (h'.row b11 (cv cs 0 [.slice none 0 0, .slice none 0 0]) z) fun h3=> ∃s1:Sl,Hp.cell h3 b11 0=some s1.v/\ ∃s2:Sl,Hp.cell h3 b11 1=some s2.v/\R (.tuple #[.agg #[s1.v,s2.v], .bool false]) h3:=by
  intro h' e K'
  have k':=k
  rw [Pz e,e]at k'
  refine kw_ ?_
  intro h3 K3 _
  exact⟨⟨none,0,0⟩,by rw [aq (K3.at (.head _))];rfl,⟨none,0,0⟩,by rw [aq (K3.at (.head _))];rfl,k' ⟨none,0,0⟩ ⟨none,0,0⟩ h3 (TrG.nil K3.le)⟩
 rw [hn]
 refine dx ⟨_,rfl,ac (fun e=>?_) (fun e=>?_)⟩
 ·refine no (by rw [Bool.not_eq_true']at e;unfold lw;rw [e,Bool.false_and]) K2
 rw [Bool.not_eq_false']at e
 have e1:=of_decide_eq_true e
 repeat' (refine kr_ ?_)
 by_cases hc:ax m=0
 rotate_left
 ·refine NK (hs.mono K2.le) hm hc fun h3 l3=>⟨⟨none,0,0⟩,_,rfl,?_⟩
  exact aJ rfl (no (by unfold lw;rw [decide_eq_false hc,Bool.false_and,Bool.and_false]) (K2.mono l3))
 refine Dt (hs.mono K2.le) hm hc fun s0 h3 l3=>⟨_,_,rfl,?_⟩
 have K3:=K2.mono l3
 clear K2
 refine ac (fun e=>?_) (fun e2=>?_)
 ·refine no (by rw [Bool.not_eq_true']at e;unfold lw;rw [e,Bool.false_and,Bool.and_false,Bool.and_false]) K3
 rw [Bool.not_eq_false']at e2
 have g:=cn hc
 have hok:lw m x ys=ys.all (jv (ak m.nodes 35)):=by
  unfold lw
  rw [e,decide_eq_true hc,e2];rfl
 have hxr:=ik.1 e2
 have n8:=g.n8
 have k5:=g.k5
 have hp8:2^ak m.nodes 36<=2^8:=Nat.pow_le_pow_right (by omega) n8
 have hp5:2^ak m.nodes 35<=2^5:=Nat.pow_le_pow_right (by omega) k5
 (with_reducible apply Kn.al);(exact Kn.nil h3);(intro b43 h4 K4 l4 hb43)
 have f9:=K3.at (b:=b9) (by((focus ((repeat first|exact .head _|apply List.Mem.tail);done))))
 have f11:=K3.at (b:=b11) (by((focus ((repeat first|exact .head _|apply List.Mem.tail);done))))
 have hs3:=hs.mono K3.le
 have hy3:=hy.mono K3.le
 refine av ys.length (fun i vs h'=> ∃(pre:List (Nat×Nat)) (cur:Nat) (sS sI:Sl) (XS XI:List (Nat×Blk)),
  vs= [I cur,s.v, .pointer (some ⟨b9,0,none⟩), .pointer (some ⟨b11,0,none⟩), .pointer (some ⟨b43,0,none⟩),I (i:Nat)]/\Kn h3 h' ((b43, .inl ⟨[sS.v,sI.v],2,false⟩)::(XS++(XI++ [])))/\
  cD XS sS 1 ((VL (pre.map Prod.fst)).map I)/\cD XI sI 1 ((VL (pre.map Prod.snd)).map I)/\pre.length=i/\cur<2^ak m.nodes 36/\(ys.take i).all (jv (ak m.nodes 35))=true/\pre++ug m cur (ys.drop i)=ug m x.toNat ys)
  ⟨[],x.toNat,⟨none,0,0⟩,⟨none,0,0⟩, [], [],by rw [Int.toNat_of_nonneg hxr.1];rfl,K4,cF 1,cF 1,rfl,by omega,by simp,rfl⟩ ?_
 clear K4 l4 hb43 h4
 rintro i _ h4 next hi ⟨pre,cur,sS,sI,XS,XI,rfl,K,oS,oI,hpl,hcur,hall,hrun⟩ hnx
 refine⟨_,s,b9,0,b11,0,b43,0,_,rfl,?_⟩
 have hpl1:=oS.1
 have hpl2:=oI.1
 simp only [List.length_map,bz,Nat.mul_one]at hpl1 hpl2
 rw [hn]
 by_cases hlt:i<ys.length
 rotate_left
 ·obtain rfl:i=ys.length:=by omega
  refine aD (by rw [decide_eq_false_iff_not];omega) ?_
  rw [List.take_of_length_le (Nat.le_refl _)]at hall
  rw [List.drop_length]at hrun
  replace hrun:pre=ug m x.toNat ys:=by rw [<-hrun];exact(List.append_nil pre).symm
  (refine kr_ ?_)
  (refine kr_ ?_)
  have K2':=K3.mono K.le
  (with_reducible apply Kn.wr);(exact K2');((focus ((repeat first|exact .head|apply Upd.tail);done)))
  ·exact of_decide_eq_true rfl
  intro h5 K5 kp
  refine⟨sS,by rw [aq (K5.at (.head _))];rfl,sI,by rw [aq (K5.at (.head _))];rfl,?_⟩
  have t:=Uc (b6:=b11) K3.le (by rw [f11];simp) oS oI K K5.le kp
  rw [hrun]at t
  have:=k sS sI h5 (by unfold ti;rw [hok,hall];exact t)
  rwa [hok,hall]at this
 refine aJ (by rw [decide_eq_true_eq];omega) ?_
 obtain⟨y,hyi⟩: ∃y,ys[i]?=some y:=⟨_,List.getElem?_eq_getElem hlt⟩
 obtain⟨ba,oa,ha,hca⟩:=(hy3.mono K.le).get hyi
 refine⟨ba,oa,ha,by omega,by omega,?_⟩
 repeat' (refine kr_ ?_)
 refine⟨_,by rw [Int.toNat_natCast];exact hca,?_⟩
 refine C9 (hs3.mono K.le) hm hc fun s1 h5 l5=>⟨_,_,rfl,?_⟩
 have K5:=K.mono l5
 clear K
 refine ac (fun e=>?_) (fun e=>?_)
 ·refine no ?_ (K3.mono K5.le)
  rw [Bool.not_eq_true']at e
  rw [hok]
  exact uY hyi e
 rw [Bool.not_eq_false']at e
 have hyr:=ik.1 e
 (refine kr_ ?_)
 refine Kn.al K5 fun b87 h6 K6 l6 hb87=>?_
 have f87:=K6.at (.head _)
 refine Kn.growIn (A:= [_,_]) K6 oS (by omega) (by omega) (by omega) ⟨b87,0,rfl,ay f87⟩ rfl rfl fun sS' XS' h7 hnS oS' K7 l7=>?_
 simp only [List.cons_append,List.nil_append]at K7
 clear K6 l6 hb87 f87 K5 l5
 (((with_reducible apply Kn.wr);(assumption);((focus ((repeat first|exact .head|apply Upd.tail);done)))))
 ·simp
 intro h8 K8 _
 simp only [bO,List.set_cons_zero,List.set_cons_succ,Nat.zero_add,Nat.reduceAdd]at K8
 clear K7 l7
 obtain⟨ba,oa,ha,hca⟩:=hy3.get hyi
 have xba:=gq hca
 refine⟨ba,oa,ha,by omega,by omega,?_⟩
 (refine kr_ ?_)
 refine⟨_,by rw [Int.toNat_natCast];exact K8.le.cell hca,?_⟩
 refine Kn.al K8 fun b98 h9 K9 l9 hb98=>?_
 repeat' (refine kr_ ?_)
 have f98:=K9.at (.head _)
 refine Kn.growIn2 (A:= [_,_,_]) K9 oI (by omega) (by omega) (by omega) ⟨b98,0,rfl,ay f98⟩ rfl rfl fun sI' XI' h10 hnI oI' K10 l10=>?_
 simp only [List.cons_append,List.nil_append]at K10
 clear K9 l9 hb98 f98 K8
 (((with_reducible apply Kn.wr);(assumption);((focus ((repeat first|exact .head|apply Upd.tail);done)))))
 ·simp
 intro h11 K11 _
 simp only [bO,List.set_cons_zero,List.set_cons_succ,Nat.zero_add,Nat.reduceAdd]at K11
 clear K10 l10
 have nd:=K11.nd
 have KS:Kn h3 h11 ((b43, .inl ⟨[sS'.v,sI'.v],2,false⟩)::(XS'++(XI'++ []))):=by
  refine K11.sub (fun e he=> .tail _ (.tail _ he)) ?_
  simp only [List.map_cons,List.nodup_cons]at nd⊢
  exact nd.2.2
 obtain⟨ba,oa,ha,hca⟩:=(hy3.mono KS.le).get hyi
 clear K11
 refine⟨ba,oa,ha,by omega,by omega,?_⟩
 repeat' (refine kr_ ?_)
 refine⟨_,by rw [Int.toNat_natCast];exact hca,?_⟩
 obtain⟨c,rfl⟩: ∃c:Nat,y=c:=⟨y.toNat,by omega⟩
 refine Dj (hs3.mono KS.le) hm g (by omega) (by omega) ⟨_,rfl,?_⟩
 rw [aA (by omega)]
 refine hnx hlt _ _ ⟨pre++ [(cur,c)],lO m cur c,sS',sI',XS',XI',rfl,KS,by simpa [VL] using oS',by simpa [VL] using oI',by simp;omega,xc g _ _,BU hyi e hall,?_⟩
 rw [<-hrun,List.append_assoc]
 rw [List.drop_eq_getElem_cons hlt]
 have hyi':ys[i]=(c:Int):=by rw [List.getElem?_eq_getElem hlt]at hyi;exact Option.some.inj hyi
 rw [hyi'];rfl
theorem cD.one {X:List (Nat×Blk)} {s:Sl} {sz:Nat} {cs:List Value} (o:cD X s sz cs) (hn:s.n≠0): ∃b,s.a=some ⟨b,0,none⟩/\X= [(b, .inl ⟨cs,s.c*sz,false⟩)]:=by
 rcases o.2.2 with ⟨_,rfl,_⟩|h
 ·exact absurd rfl hn
 ·exact h
theorem Kn.ints {g h:Hp} {L:List (Nat×Blk)} {s:Sl} {b z:Nat} {ro:Bool} {xs:List Int} (K:Kn g h L) (m:(b, .inl ⟨xs.map I,z,ro⟩)∈L) (ha:s.a=some ⟨b,0,none⟩) (hn:xs.length=s.n) (hl:s.n<=1000000):IntS h s xs:=
 ⟨by omega,by rw [List.length_map,Nat.mul_one];exact hn, .inr ⟨b,0,ha,ay (K.at m)⟩⟩
theorem ia (a b:Sl):yS [a.v,b.v]:=uh [a,b]
abbrev TrR (g:Hp) (R:Value->Hp->Prop):Prop:= ∀tS tI us vs h',g.le h'->IntS h' tS us->IntS h' tI vs->tS.n<=tS.c->tI.n<=tI.c->us.length<=400->vs.length<=400->R (.agg #[Sl.v tS,Sl.v tI]) h'
set_option maxHeartbeats 4000000 in
theorem Jr {g h:Hp} {B p:Nat} {s sS sI:Sl} {bs:List Nat} {XS XI:List (Nat×Blk)} {xs ys:List Int} {R:Value->Hp->Prop} (hb:ByteS g s bs) (K:Kn g h ((B,rdC s p)::(XS++(XI++ []))))
  (oS:cD XS sS 1 (xs.map I)) (oI:cD XI sI 1 (ys.map I)) (hl:ys.length=xs.length) (hn:xs.length<=302) (hp:p<=500000) (k:TrR g R):ka #[.pointer (some ⟨B,0,none⟩), .agg #[sS.v,sI.v]] h R:=by
 apply BM
 refine uf_ ?_
 have nS:=oS.1
 have nI:=oI.1
 have cS:=oS.2.1
 have cI:=oI.2.1
 rw [List.length_map,Nat.mul_one]at nS nI
 refine Kn.al K fun b5 h1 K1 l1 hb5=>?_
 refine Kn.al K1 fun b7 h2 K2 l2 hb7=>?_
 clear K K1
 have leaf: ∀{tS tI:Sl} {us vs:List Int} {h':Hp} {L:List (Nat×Blk)},Kn g h' ((b7, .inl ⟨[(⟨none,0,0⟩:Sl).v,(⟨none,0,0⟩:Sl).v],2,false⟩)::(b5, .inl ⟨[tS.v,tI.v],2,false⟩)::L)->IntS h' tS us->IntS h' tI vs->tS.n<=tS.c->tI.n<=tI.c->us.length<=400->vs.length<=400->
   ∃s1:Sl,Hp.cell h' b5 0=some s1.v/\ ∃s2:Sl,Hp.cell h' b5 1=some s2.v/\ ∃(cs:List Value) (z:Nat),h' b7=some (.inl ⟨cs,z,false⟩)/\0+2<=cs.length/\cu (h'.row b7 (cv cs 0 [s1.v,s2.v]) z) fun h3=>
    ∃s3:Sl,Hp.cell h3 b7 0=some s3.v/\ ∃s4:Sl,Hp.cell h3 b7 1=some s4.v/\R (.agg #[s3.v,s4.v]) h3:=by
  intro tS tI us vs h' L K' iS iI c1 c2 n1 n2
  refine⟨tS,by rw [aq (K'.at (.tail _ (.head _)))];rfl,tI,by rw [aq (K'.at (.tail _ (.head _)))];rfl,?_⟩
  have f7:=K'.at (.head _)
  refine kw_ ?_
  intro h3 K3 kp
  refine⟨tS,by rw [aq (K3.at (.head _))];rfl,tI,by rw [aq (K3.at (.head _))];rfl,?_⟩
  exact k tS tI us vs h3 K3.le (iS.keepN f7 (ia _ _) kp) (iI.keepN f7 (ia _ _) kp) c1 c2 n1 n2
 refine ap (fun J=> ∀(c:Bool) h' p',(c=false->sS.n≠0)->p'<=p+1->Kn g h' ((b7, .inl ⟨[(⟨none,0,0⟩:Sl).v,(⟨none,0,0⟩:Sl).v],2,false⟩)::(b5, .inl ⟨[sS.v,sI.v],2,false⟩)::(B,rdC s p')::(XS++(XI++ [])))->J c h')
  (fun c h3 p' hc hp' K3=>?_) (fun J hJ=>?_)
 rotate_left
 ·repeat' (refine kr_ ?_)
  refine ac (fun e=>hJ true h2 p (fun e=>nomatch e) (by omega) K2) (fun e=>?_)
  have e':sS.n≠0:=by
   intro q
   rw [q]at e;exact absurd e (by decide)
  refine kp_ ?_
  intro z h3 K3 _ _
  exact⟨_,rfl,hJ _ h3 _ (fun _=>e') (Nat.le_refl _) K3⟩
 clear K2
 refine ac (fun e=>?_) (fun e=>?_)
 ·have iS:IntS h3 sS xs:=(oS.buf fun e he=>K3.mem e (by simp [he])).slc_of (by omega)
  have iI:IntS h3 sI ys:=(oI.buf fun e he=>K3.mem e (by simp [he])).slc_of (by omega)
  exact leaf K3 iS iI cS cI (by omega) (by omega)
 have hn0:=hc e
 clear e hc
 obtain⟨bS,aS,rfl⟩:=oS.one hn0
 obtain⟨bI,aI,rfl⟩:=oI.one (by omega)
 simp only [List.cons_append,List.nil_append]at K3
 have oS0:=oS
 have oI0:=oI
 repeat' (refine kr_ ?_)
 refine kp_ ?_
 intro x h4 K4 hx hx0
 replace hx:x<sS.n:=by have:=hx (by omega);omega
 clear hx0
 refine⟨_,rfl,?_⟩
 clear K3
 refine kp_ ?_
 intro y h5 K5 _ _
 refine⟨_,rfl,?_⟩
 clear K4
 refine ap (fun J=> ∀{tS tI:Sl} {us vs:List Int} {h':Hp} {L:List (Nat×Blk)},Kn g h' ((b7, .inl ⟨[(⟨none,0,0⟩:Sl).v,(⟨none,0,0⟩:Sl).v],2,false⟩)::(b5, .inl ⟨[tS.v,tI.v],2,false⟩)::L)->IntS h' tS us->IntS h' tI vs->tS.n<=tS.c->tI.n<=tI.c->us.length<=400->vs.length<=400->J b5 0 b7 0 h')
  (fun {tS tI us vs h' L} K' iS iI c1 c2 n1 n2=>leaf K' iS iI c1 c2 n1 n2) (fun J hJ=>?_)
 clear leaf
 have iS:IntS h5 sS xs:=K5.ints (.tail _ (.tail _ (.tail _ (.head _)))) aS (by omega) (by omega)
 have iI:IntS h5 sI ys:=K5.ints (.tail _ (.tail _ (.tail _ (.tail _ (.head _))))) aI (by omega) (by omega)
 have wrS: ∀{L L':List (Nat×Blk)} {h':Hp} {v:Int} {b:Nat} {c:Sl} {zs:List Int} {P:Hp->Prop},Kn g h' L->c.a=some ⟨b,0,none⟩->x<zs.length->zs.length=c.n->Upd L b (.inl ⟨zs.map I,c.c*1,false⟩) (.inl ⟨(zs.set x v).map I,c.c*1,false⟩) L'->(∀h'',Kn g h'' L'->P h'')->
   ∃b' o':Nat,c.a=some ⟨b',o',none⟩/\(0:Int)<=(x:Int)/\(x:Int)<((c.n:Nat):Int)/\ ∃(cs:List Value) (z:Nat),h' b'=some (.inl ⟨cs,z,false⟩)/\(o'+Int.toNat (x:Int)*1)+1<=cs.length/\cu (h'.row b' (cv cs (o'+Int.toNat (x:Int)*1) [I v]) z) P:=by
  intro L L' h' v b c zs P K' ha hx hz u kk
  refine⟨b,0,ha,by omega,by omega,?_⟩
  rw [show (0+Int.toNat (x:Int)*1)=x by simp]
  have u':Upd L b (.inl ⟨zs.map I,c.c*1,false⟩) (.inl ⟨cv (zs.map I) x [I v],c.c*1,false⟩) L':=by
   rw [bO,<-List.map_set];exact u
  exact K'.wr u' (by rw [List.length_map];omega) fun h'' K'' _=>kk h'' K''
 refine ac (fun e=>?_) (fun e=>?_)
 ·repeat' (refine kr_ ?_)
  refine kp_ ?_
  intro z h6 K6 _ _
  refine⟨_,rfl,?_⟩
  repeat' (refine kr_ ?_)
  clear K5
  refine wrS (zs:=xs) K6 aS (by omega) (by omega) (by((focus ((repeat first|exact .head|apply Upd.tail);done)))) fun h7 K7=>?_
  exact hJ (us:=xs.set x _) (vs:=ys) K7 (K7.ints (.tail _ (.tail _ (.tail _ (.head _)))) aS (by rw [List.length_set];omega) (by omega)) (K7.ints (.tail _ (.tail _ (.tail _ (.tail _ (.head _))))) aI (by omega) (by omega)) cS cI (by rw [List.length_set];omega) (by omega)
 clear e
 refine ac (fun e=>?_) (fun e=>?_)
 ·repeat' (refine kr_ ?_)
  refine kp_ ?_
  intro z h6 K6 _ _
  refine⟨_,rfl,?_⟩
  repeat' (refine kr_ ?_)
  clear K5
  have hx':x<sI.n:=by omega
  refine wrS (zs:=ys) K6 aI (by omega) (by omega) (by((focus ((repeat first|exact .head|apply Upd.tail);done)))) fun h7 K7=>?_
  exact hJ (us:=xs) (vs:=ys.set x _) K7 (K7.ints (.tail _ (.tail _ (.tail _ (.head _)))) aS (by omega) (by omega)) (K7.ints (.tail _ (.tail _ (.tail _ (.tail _ (.head _))))) aI (by rw [List.length_set];omega) (by omega)) cS cI (by omega) (by rw [List.length_set];omega)
 clear e wrS
 have f5:=K5.at (b:=b5) (.tail _ (.head _))
 refine ac (fun e=>?_) (fun e=>?_)
 ·(refine kr_ ?_)
  refine⟨by omega,by simp;omega,by simp;omega, .inr ⟨bS,0,aS,?_⟩⟩
  refine kw_ ?_
  intro h6 K6 kp
  have iS6:=iS.keepN f5 (ia _ _) kp
  have iI6:=iI.keepN f5 (ia _ _) kp
  refine hJ (tS:=⟨_,_,_⟩) (us:=xs.drop 1) K6 ?_ iI6 ?_ cI (by simp;omega) (by omega)
  ·refine⟨by simp;omega,by simp;omega, .inr ⟨bS,_,rfl,?_⟩⟩
   intro i v hv
   rw [List.getElem?_map,List.getElem?_drop,Option.map_eq_some_iff]at hv
   obtain⟨w,hw,rfl⟩:=hv
   have:=get_lt hw
   rw [if_neg (by simp;omega)]
   rw [aq (K6.at (b:=bS) (.tail _ (.tail _ (.tail _ (.head _)))))]
   simp only [Nat.zero_add,List.getElem?_map]
   rw [show Int.toNat 1*1+i=1+i by simp,hw];rfl
  ·simp;omega
 clear e
 refine ac (fun e=>?_) (fun e=>?_)
 ·have tk: ∀{c:Sl} {b:Nat} {zs:List Int} {h':Hp},IntS h' c zs->c.a=some ⟨b,0,none⟩->x<zs.length->zs.length<=302->IntS h' ⟨some ⟨b,(if c.c=Int.toNat (Int.ofNat 0)then 0 else 0+Int.toNat (Int.ofNat 0)*1),none⟩,Int.toNat (x:Int)-Int.toNat (Int.ofNat 0),c.c-Int.toNat (Int.ofNat 0)⟩ (zs.take x):=by
   intro c b zs h' hz ha hx hzl
   have e0:(if c.c=Int.toNat (Int.ofNat 0)then 0 else 0+Int.toNat (Int.ofNat 0)*1)=0:=by split<;>simp
   rw [e0]
   obtain⟨b',o',ha',hcc⟩:=SlC.get hz (by have:=hz.len;omega)
   rw [ha]at ha'
   cases ha'
   refine⟨by simp;omega,by simp;omega, .inr ⟨b,0,rfl,fun i v hv=>?_⟩⟩
   rw [List.map_take,List.getElem?_take]at hv
   split at hv
   ·exact hcc i v hv
   ·cases hv
  refine ap (fun J=> ∀{tS:Sl} {h':Hp} {L:List (Nat×Blk)},Kn g h' ((b7, .inl ⟨[(⟨none,0,0⟩:Sl).v,(⟨none,0,0⟩:Sl).v],2,false⟩)::(b5, .inl ⟨[tS.v,sI.v],2,false⟩)::L)->IntS h' tS (xs.take x)->IntS h' sI ys->tS.n<=tS.c->J h')
   (fun {tS h' L} K6 iS6 iI6 c1=>?_) (fun J88 hJ88=>?_)
  ·have g5:=K6.at (b:=b5) (.tail _ (.head _))
   clear K5
   (refine kr_ ?_)
   refine⟨by simp,by simp,by omega, .inr ⟨bI,0,aI,?_⟩⟩
   refine kw_ ?_
   intro h7 K7 kp
   exact hJ (tI:=⟨_,_,_⟩) K7 (iS6.keepN g5 (ia _ _) kp) (tk (iI6.keepN g5 (ia _ _) kp) aI (by omega) (by omega)) c1 (by simp;omega) (by simp;omega) (by simp;omega)
  ·(refine kr_ ?_)
   refine⟨by simp,by simp,by omega, .inr ⟨bS,0,aS,?_⟩⟩
   refine kw_ ?_
   intro h6 K6 kp
   exact hJ88 (tS:=⟨_,_,_⟩) K6 (tk (iS.keepN f5 (ia _ _) kp) aS (by omega) (by omega)) (iI.keepN f5 (ia _ _) kp) (by simp;omega)
 clear e
 refine ac (fun e=>?_) (fun e=>hJ K5 iS iI cS cI (by omega) (by omega))
 clear e f5 iS iI
 refine oy (303-xs.length) (fun m vs h'=> ∃(sS sI:Sl) (XS XI:List (Nat×Blk)) (xs ys:List Int) (q:Nat),vs= [.pointer (some ⟨B,0,none⟩), .pointer (some ⟨b5,0,none⟩), .pointer (some ⟨b7,0,none⟩)]/\
  Kn g h' ((b7, .inl ⟨[(⟨none,0,0⟩:Sl).v,(⟨none,0,0⟩:Sl).v],2,false⟩)::(b5, .inl ⟨[sS.v,sI.v],2,false⟩)::(B,rdC s q)::(XS++(XI++ [])))/\cD XS sS 1 (xs.map I)/\cD XI sI 1 (ys.map I)/\ys.length=xs.length/\xs.length≠0/\xs.length+m=303/\q+m<=600000)
  ⟨sS,sI,_,_,xs,ys,_,rfl,K5,oS0,oI0,hl,by omega,by omega,by omega⟩ ?_
 clear K5 oS0 oI0 oS oI nS nI cS cI hl hn hn0 hx aS aI xs ys sS sI
 rintro m _ h3 nxt ⟨sS,sI,XS,XI,xs,ys,q,rfl,K,oS,oI,hl,hn0,hm,hq⟩ hnx
 refine⟨_,b5,0,b7,0,rfl,?_⟩
 have nS:=oS.1
 have nI:=oI.1
 have cS:=oS.2.1
 have cI:=oI.2.1
 rw [List.length_map,Nat.mul_one]at nS nI
 repeat' (refine kr_ ?_)
 refine kp_ ?_
 intro z h4 K4 hz _
 replace hz:z<2:=by have:=hz (by omega);omega
 refine⟨_,rfl,?_⟩
 repeat' (refine kr_ ?_)
 clear K
 rw [bV (by omega) (by omega)]
 have mS: ∀{h':Hp} {A L:List (Nat×Blk)},Kn g h' (A++(XS++L))-> ∀e∈XS,h' e.1=some e.2:=fun K e he=>K.mem e (by simp [he])
 have iS:IntS h4 sS xs:=(oS.buf fun e he=>K4.mem e (by simp [he])).slc_of (by omega)
 have iI:IntS h4 sI ys:=(oI.buf fun e he=>K4.mem e (by simp [he])).slc_of (by omega)
 by_cases hlt:xs.length<301+z
 rotate_left
 ·refine aD (decide_eq_false (by omega)) ?_
  exact hJ K4 iS iI cS cI (by omega) (by omega)
 refine aJ (decide_eq_true (by omega)) ?_
 obtain⟨x0,hx0⟩: ∃x0,xs[0]?=some x0:=⟨_,List.getElem?_eq_getElem (by omega)⟩
 obtain⟨y0,hy0⟩: ∃y0,ys[0]?=some y0:=⟨_,List.getElem?_eq_getElem (by omega)⟩
 repeat' (refine kr_ ?_)
 obtain⟨ba,oa,ha,hca⟩:=iS.get hx0
 refine⟨ba,oa,ha,by omega,by omega,_,hca,?_⟩
 refine Kn.al K4 fun b112 h5 K5 l5 hb112=>?_
 have f112:=K5.at (.head _)
 repeat' (refine kr_ ?_)
 refine Kn.growIn (A:= [_,_,_,_]) K5 oS (by omega) (by omega) (by omega) ⟨b112,0,rfl,ay f112⟩ rfl rfl fun sS' XS' h6 hnS oS' K6 l6=>?_
 simp only [List.cons_append,List.nil_append]at K6
 clear K5 l5 hb112 f112 K4 iS iI ha hca
 refine kw_ ?_
 intro h7 K7 _
 simp only [bO,List.set_cons_zero,List.set_cons_succ,Nat.zero_add,Nat.reduceAdd]at K7
 clear K6 l6
 have iI:IntS h7 sI ys:=(oI.buf fun e he=>K7.mem e (by simp [he])).slc_of (by omega)
 repeat' (refine kr_ ?_)
 obtain⟨ba,oa,ha,hca⟩:=iI.get hy0
 refine⟨ba,oa,ha,by omega,by omega,_,hca,?_⟩
 refine Kn.al K7 fun b127 h8 K8 l8 hb127=>?_
 have f127:=K8.at (.head _)
 repeat' (refine kr_ ?_)
 refine Kn.growIn2 (A:= [_,_,_,_,_]) K8 oI (by omega) (by omega) (by omega) ⟨b127,0,rfl,ay f127⟩ rfl rfl fun sI' XI' h9 hnI oI' K9 l9=>?_
 simp only [List.cons_append,List.nil_append]at K9
 clear K8 l8 hb127 f127 K7 iI ha hca
 refine kw_ ?_
 intro h10 K10 _
 simp only [bO,List.set_cons_zero,List.set_cons_succ,Nat.zero_add,Nat.reduceAdd]at K10
 clear K9 l9
 have nd:=K10.nd
 refine hnx (m-1) (by omega) _ _ ⟨sS',sI',XS',XI',xs++ [x0],ys++ [y0],q+1,rfl,?_,by rw [List.map_append];exact oS',by rw [List.map_append];exact oI',by simp;omega,by simp,by simp;omega,by omega⟩
 refine K10.sub (fun e he=> .tail _ (.tail _ he)) ?_
 simp only [List.map_cons,List.nodup_cons]at nd⊢
 exact nd.2.2
theorem Kn.cut {g h:Hp} {A L:List (Nat×Blk)} (K:Kn g h (A++L)): ∃g0,Kn g g0 A/\Kn g0 h L:=by
 have nd:=K.nd
 rw [List.map_append,List.nodup_append]at nd
 have KL:Kn g h L:=K.sub (fun e he=>List.mem_append_right _ he) nd.2.1
 refine⟨h.wo (L.map Prod.fst),⟨KL.leBase,fun e he=>?_,fun e he=>K.new e (List.mem_append_left _ he),nd.1⟩,KL.base⟩
 rw [rc fun hm=>nd.2.2 e.1 (List.mem_map.2 ⟨e,he,rfl⟩) e.1 hm rfl]
 exact K.mem e (List.mem_append_left _ he)
set_option maxHeartbeats 4000000 in
theorem Oh {g h:Hp} {B p:Nat} {s:Sl} {bs:List Nat} {M:MSl} {m:ai} {R:Value->Hp->Prop} (hb:ByteS g s bs) (K:Kn g h [(B,rdC s p)]) (hs:aN g M m) (hm:bW m) (hp:p<=400000) (k:TrR g R):
  mn #[.pointer (some ⟨B,0,none⟩),aO M] h R:=by
 apply Ae
 refine uf_ ?_
 refine Kn.al K fun b8 h1 K1 l1 hb8=>?_
 refine Kn.al K1 fun b10 h2 K2 l2 hb10=>?_
 clear K K1 l1 l2 hb8 hb10
 have n10:=K2.new (b10,_) (.head _)
 have fin: ∀{g0 h':Hp} {uS uI:Sl} {us vs:List Int},g.le g0->g0 b10=some (.inl ⟨[(⟨none,0,0⟩:Sl).v,(⟨none,0,0⟩:Sl).v],2,false⟩)->g0.le h'->IntS h' uS us->IntS h' uI vs->uS.n<=uS.c->uI.n<=uI.c->us.length<=400->vs.length<=400->
   ∃(cs:List Value) (z:Nat),h' b10=some (.inl ⟨cs,z,false⟩)/\0+2<=cs.length/\cu (h'.row b10 (cv cs 0 [uS.v,uI.v]) z) fun h3=> ∃s3:Sl,Hp.cell h3 b10 0=some s3.v/\ ∃s4:Sl,Hp.cell h3 b10 1=some s4.v/\R (.agg #[s3.v,s4.v]) h3:=by
  intro g0 h' uS uI us vs lg f10 l i1 i2 c1 c2 n1 n2
  (with_reducible apply cb);(exact l _ _ f10);(exact Hp.le_trans lg l);(exact n10);(exact of_decide_eq_true rfl)
  intro h6 f6 kp l6
  exact⟨uS,by rw [aq f6];rfl,uI,by rw [aq f6];rfl,k uS uI us vs h6 l6 (i1.keepN (l _ _ f10) (ia _ _) kp) (i2.keepN (l _ _ f10) (ia _ _) kp) c1 c2 n1 n2⟩
 repeat' (refine kr_ ?_)
 refine aX (hs.mono K2.le) hm ⟨_,rfl,ac (fun e=>?_) (fun e=>?_)⟩
 ·refine Kn.al K2 fun b23 h3 K3 l3 hb23=>?_
  refine Kn.al K3 fun b25 h4 K4 l4 hb25=>?_
  clear K2 K3
  refine kw_ ?_
  intro h5 K5 _
  exact⟨⟨some ⟨b23,0,none⟩,1,1⟩,by rw [aq (K5.at (b:=b10) (.tail _ (.tail _ (.head _))))];rfl,⟨some ⟨b25,0,none⟩,1,1⟩,by rw [aq (K5.at (b:=b10) (.tail _ (.tail _ (.head _))))];rfl,
   k _ _ [0] [0] h5 K5.le (IntS.one (K5.at (.tail _ (.head _)))) (IntS.one (K5.at (.head _))) (Nat.le_refl _) (Nat.le_refl _) (by simp) (by simp)⟩
 have hc:=fE e
 have gd:=cn hc
 have n8:=gd.n8
 have k5:=gd.k5
 have hp5:2^ak m.nodes 35<=2^5:=Nat.pow_le_pow_right (by omega) k5
 clear e
 repeat' (refine kr_ ?_)
 refine sv (hs.mono K2.le) hm fun tS tI h3 t3=>⟨_,_,_,rfl,?_⟩
 have hlen:=Jd m 256
 obtain⟨XS,XI,oS,oI,K3'⟩:=t3
 have K3:=K2.app K3'.le K3'.new K3'.mem K3'.nd
 simp only [List.cons_append,List.nil_append]at K3
 clear K3' K2
 generalize oV m 256=tl at*
 generalize qQ m 256=tb
 refine Kn.al K3 fun b43 h4 K4 l4 hb43=>?_
 clear K3
 refine kw_ ?_
 intro h5 K5 _
 simp only [cv,List.set_cons_zero,List.set_cons_succ,Nat.zero_add,Nat.reduceAdd]at K5
 clear K4
 refine ap (fun J=> ∀(c:Bool) h' p',p'<=p+1->Kn g h' ((b43, .inl ⟨[tS.v,tI.v],2,false⟩)::(b10, .inl ⟨[(⟨none,0,0⟩:Sl).v,(⟨none,0,0⟩:Sl).v],2,false⟩)::(b8, .inl ⟨aw M,5,false⟩)::(B,rdC s p')::(XS++(XI++ [])))->J c h')
  (fun c h6 p6 hp6 K6=>?_) (fun J hJ=>?_)
 rotate_left
 ·refine ac (fun _=>?_) (fun _=>hJ false h5 p (by omega) K5)
  refine kp_ ?_
  intro z h6 K6 _ _
  exact⟨_,rfl,hJ _ h6 _ (Nat.le_refl _) K6⟩
 clear K5
 have lS:=oS.1
 have lI:=oI.1
 simp only [List.length_map,bz,Nat.mul_one]at lS lI
 refine ac (fun _=>?_) (fun _=>?_)
 ·repeat' (refine kr_ ?_)
  obtain⟨g0,KA,KL⟩:=Kn.cut (A:= [_,_,_]) K6
  refine Jr (hb.mono KA.le) KL oS oI (by simp [bz]) (by simp [bz];omega) (by omega) fun uS uI us vs h7 l7 i1 i2 c1 c2 n1 n2=>⟨_,_,rfl,?_⟩
  exact fin KA.le (KA.at (.tail _ (.head _))) l7 i1 i2 c1 c2 n1 n2
 replace K6:Kn g h6 ((b10, .inl ⟨[(⟨none,0,0⟩:Sl).v,(⟨none,0,0⟩:Sl).v],2,false⟩)::(b8, .inl ⟨aw M,5,false⟩)::(B,rdC s p6):: []):=K6.subl (List.Sublist.cons _ (List.Sublist.cons_cons _ (List.Sublist.cons_cons _ (List.Sublist.cons_cons _ (List.nil_sublist _)))))
 clear oS oI lS lI hlen
 repeat' (refine kr_ ?_)
 refine cO (hs.mono K6.le) hm fun pt h7 l7 ip=>⟨_,rfl,?_⟩
 have K7:=K6.mono l7
 repeat' (refine kr_ ?_)
 refine AL (hs.mono K7.le) hm gd fun ot h8 l8 io=>⟨_,rfl,?_⟩
 have K8:=K7.mono l8
 repeat' (refine kr_ ?_)
 clear K7 K6
 refine xg (hs.mono K8.le) hm gd.ok (ip.mono l8) (cH gd 36) (iE gd 36) io (yf gd) (by rw [fu gd];omega) ⟨_,rfl,?_⟩
 generalize dZ m.nodes (stP m) (ln m)=st0
 refine kp_ ?_
 intro z h9 K9 hz _
 replace hz:z<6:=by have:=hz (by omega);omega
 refine⟨_,rfl,?_⟩
 clear K8
 rw [bV (by omega) (by omega)]
 refine av (1+z) (fun i vs h'=> ∃(inS:Sl) (ins:List Int) (XL:List (Nat×Blk)) (q:Nat),vs= [.pointer (some ⟨B,0,none⟩), .pointer (some ⟨b8,0,none⟩), .pointer (some ⟨b10,0,none⟩),I st0,I (1+(z:Int)),inS.v,I (i:Nat)]/\
  Kn g h' ((b10, .inl ⟨[(⟨none,0,0⟩:Sl).v,(⟨none,0,0⟩:Sl).v],2,false⟩)::(b8, .inl ⟨aw M,5,false⟩)::(B,rdC s q)::(XL++ []))/\cD XL inS 1 (ins.map I)/\ins.length=i/\q<=p6+1+i)
  ⟨⟨none,0,0⟩, [], [],_,rfl,K9,cF 1,rfl,Nat.le_refl _⟩ ?_
 clear K9
 rintro i _ h7 next hi ⟨inS,ins,XL,q,rfl,K7,oL,hil,hq⟩ hnx
 refine⟨_,b8,0,b10,0,_,_,inS,_,rfl,?_⟩
 have lL:=oL.1
 simp only [List.length_map,Nat.mul_one]at lL
 by_cases hlt:i<1+z
 ·refine aJ (by rw [decide_eq_true_eq];omega) ?_
  repeat' (refine kr_ ?_)
  refine fY (hs.mono K7.le) hm ⟨_,rfl,?_⟩
  rw [cl (by omega),if_neg (by omega),bG (by omega)]
  refine kp_ ?_
  intro y h8 K8 _ _
  refine⟨_,rfl,?_⟩
  clear K7
  refine Kn.al K8 fun b126 h9 K9 l9 hb126=>?_
  have f126:=K9.at (.head _)
  refine Kn.growIn (A:= [_,_,_,_]) K9 oL (by omega) (by omega) (by omega) ⟨b126,0,rfl,ay f126⟩ rfl rfl fun s' X' h10 hn' o' K10 l10=>?_
  rw [aA (by omega)]
  exact hnx hlt _ _ ⟨s',ins++ [(y:Int)],X',_,rfl,K10.tl,by rw [List.map_append];exact o',by simp;omega,by omega⟩
 refine aD (by rw [decide_eq_false_iff_not];omega) ?_
 clear hnx
 repeat' (refine kr_ ?_)
 have il:IntS h7 inS ins:=(oL.buf fun e he=>K7.mem e (by simp [he])).slc_of (by omega)
 refine rP (hs.mono K7.le) hm il fun uS uI h8 t8=>⟨_,_,_,rfl,?_⟩
 have hrl:(ti m st0 ins).length<=7:=by
  unfold ti
  split
  ·rw [Hl];omega
  ·exact Nat.zero_le _
 obtain⟨XS,XI,oS,oI,K8'⟩:=t8
 have K8:=K7.app K8'.le K8'.new K8'.mem K8'.nd
 simp only [List.cons_append,List.append_nil,List.append_assoc]at K8
 clear K8' K7
 generalize ti m st0 ins=tl at*
 generalize lw m st0 ins=tb
 refine Kn.al K8 fun b144 h9 K9 l9 hb144=>?_
 clear K8
 refine kw_ ?_
 intro h10 K10 _
 simp only [cv,List.set_cons_zero,List.set_cons_succ,Nat.zero_add,Nat.reduceAdd]at K10
 clear K9 l9 hb144
 repeat' (refine kr_ ?_)
 have lS:=oS.1
 have lI:=oI.1
 simp only [List.length_map,bz,Nat.mul_one]at lS lI
 replace K10:Kn g h10 ((b144, .inl ⟨[uS.v,uI.v],2,false⟩)::(b10, .inl ⟨[(⟨none,0,0⟩:Sl).v,(⟨none,0,0⟩:Sl).v],2,false⟩)::(b8, .inl ⟨aw M,5,false⟩)::(B,rdC s q)::(XS++(XI++ []))):=by
  rw [List.append_nil]
  exact K10.subl (List.Sublist.cons_cons _ (List.Sublist.cons_cons _ (List.Sublist.cons_cons _ (List.Sublist.cons_cons _ (List.sublist_append_right _ _)))))
 obtain⟨g0,KA,KL⟩:=Kn.cut (A:= [_,_,_]) K10
 refine Jr (hb.mono KA.le) KL oS oI (by simp [bz]) (by simp [bz];omega) (by omega) fun wS wI us vs h11 l11 i1 i2 c1 c2 n1 n2=>⟨_,_,rfl,?_⟩
 exact fin KA.le (KA.at (.tail _ (.head _))) l11 i1 i2 c1 c2 n1 n2
theorem GE (a b c d e:Sl):yS [a.v,b.v,c.v,d.v,e.v]:=uh [a,b,c,d,e]
set_option maxHeartbeats 1000000 in
theorem rp {h:Hp} {s:Sl} {bs:List Nat} {R:Value->Hp->Prop} (hcap:s.n<=s.c) (hs:ByteS h s bs)
  (k: ∀(h':Hp) (M:MSl) (m:ai) (sS sI:Sl) (us vs:List Int),h.le h'->aN h' M m->bW m->IntS h' sS us->IntS h' sI vs->sS.n<=sS.c->sI.n<=sI.c->us.length<=400->vs.length<=400->
   R (.tuple #[aO M, .agg #[sS.v,sI.v]]) h'):iy #[s.v] h R:=by
 apply wY
 refine uf_ ?_
 (with_reducible apply Kn.al);(exact Kn.nil h);(intro b3 h1 K1 l1 hb3)
 refine Kn.al K1 fun b5 h2 K2 l2 hb5=>?_
 refine E4 K2 hcap hs fun B h3 s' bs' hb K3=>⟨_,rfl,?_⟩
 clear K1 K2
 refine sx K3 hb (by omega) fun h4 q X M m K4 o d hq=>⟨_,_,_,_,_,rfl,?_⟩
 clear K3
 refine Kn.al K4 fun b19 h5 K5 l5 hb19=>?_
 refine jH (M':=M) K5 (by((focus ((repeat first|exact .head|apply Upd.tail);done)))) rfl fun h6 K6=>?_
 clear K4 K5 l5 hb19
 simp only [List.cons_append,List.nil_append]at K6
 repeat' (refine kr_ ?_)
 have K7:Kn h h6 (((b19, .inl ⟨aw M,5,false⟩)::(b5, .inl ⟨[(⟨none,0,0⟩:Sl).v,(⟨none,0,0⟩:Sl).v],2,false⟩)::(b3, .inl ⟨cZ,5,false⟩)::X)++ [(B,rdC s' q)]):=by
  refine K6.perm ?_
  refine List.Perm.trans ?_ (List.perm_append_comm (l₁:= [(B,rdC s' q)]))
  exact List.Perm.swap _ _ _
 obtain⟨g0,KA,KL⟩:=Kn.cut K7
 clear K7
 have hm:=d.small (by omega)
 refine Oh (hb.mono KA.le) KL (o.modelS (A:= [_,_,_]) hm KA) hm (by omega) fun sS sI us vs h8 l8 i1 i2 c1 c2 n1 n2=>⟨_,_,rfl,?_⟩
 have K8:=KA.mono l8
 clear KL KA
 repeat' (refine kr_ ?_)
 clear K6
 have f3:=K8.at (b:=b3) (.tail _ (.tail _ (.head _)))
 refine kw_ ?_
 intro h9 K9 kp9
 simp only [cv,List.set_cons_zero,List.set_cons_succ,Nat.zero_add,Nat.reduceAdd]at K9
 replace i1:=i1.keepN f3 (GE ⟨none,0,0⟩ ⟨none,0,0⟩ ⟨none,0,0⟩ ⟨none,0,0⟩ ⟨none,0,0⟩) kp9
 replace i2:=i2.keepN f3 (GE ⟨none,0,0⟩ ⟨none,0,0⟩ ⟨none,0,0⟩ ⟨none,0,0⟩ ⟨none,0,0⟩) kp9
 have f5:=K9.at (b:=b5) (.tail _ (.head _))
 clear K8 kp9 f3
 refine kw_ ?_
 intro h10 K10 kp10
 simp only [cv,List.set_cons_zero,List.set_cons_succ,Nat.zero_add,Nat.reduceAdd]at K10
 replace i1:=i1.keepN f5 (ia ⟨none,0,0⟩ ⟨none,0,0⟩) kp10
 replace i2:=i2.keepN f5 (ia ⟨none,0,0⟩ ⟨none,0,0⟩) kp10
 clear K9 kp10 f5
 repeat' (refine kr_ ?_)
 exact k h10 M m sS sI us vs K10.le (o.modelS (A:= [_,_,_]) hm K10) hm i1 i2 c1 c2 n1 n2
theorem L8 {m:ai} {xs ys:List Int} (h:ey m xs ys=0):vb m xs ys=true:=by
 unfold ey at h
 obtain⟨h1,_⟩:=jT (by decide) h
 rwa [Bool.not_eq_false]at h1
theorem q8 (xs ys:List Int):(uH xs ys).length=xs.length:=by rw [List.length_map,List.length_range]
theorem CI {σ:aC} {d:Nat} (h:σ.depth=some d):σ.depthI=d:=by unfold aC.depthI;rw [h]
theorem LX {m:ai} {d:Nat} {x:Int} (hc:ax m=0) (hd:(aG m).depth=some d) (hx:(d:Int)<=x):oV m x=(aG m).wit d (aG m).begins/\qQ m x=true:=by
 obtain⟨d',hd',_,h1,h2⟩:=zQ (m:=m) (x:=x) ⟨hc,by rw [CI hd];omega,by rw [CI hd];exact hx⟩
 rw [hd]at hd'
 obtain rfl:=Option.some.inj hd'
 exact⟨h1,h2⟩
theorem P6 {a b:Nat×Nat} {l r:List (Nat×Nat)} (h:Iu (a::l) (b::r)=true):(a.1≠b.1->a.1<b.1)/\(a.1=b.1->a.2≠b.2->a.2<b.2)/\(a.1=b.1->a.2=b.2->Iu l r=true):=by
 obtain⟨s,x⟩:=a
 obtain⟨t,y⟩:=b
 simp only [Iu]at h
 refine⟨fun e=>?_,fun e f=>?_,fun e f=>?_⟩
 ·dsimp only at e⊢
  rw [if_pos e]at h
  exact of_decide_eq_true h
 ·dsimp only at e f⊢
  rw [if_neg (not_not_intro e),if_pos f]at h
  exact of_decide_eq_true h
 ·dsimp only at e f
  rwa [if_neg (not_not_intro e),if_neg (not_not_intro f)]at h
theorem uu {l:List (Nat×Nat)} {f:Nat×Nat->Nat} {i:Nat} {a:Nat×Nat} (h:l[i]?=some a):(VL (l.map f))[i]?=some ((f a:Nat):Int):=GD (by rw [List.getElem?_map,h];rfl)
set_option maxHeartbeats 2000000 in
theorem FnLeast_spec {h:Hp} {s:Sl} {bs:List Nat} {R:Value->Hp->Prop} (hcap:s.n<=s.c) (hs:ByteS h s bs) (k:R (.bool true) h):wW #[s.v] h R:=by
 refine ACalls.drop (GI ?_)
 refine uf_ ?_
 refine ac (fun _=>⟨h,Hp.le_refl _,k⟩) (fun _=>?_)
 refine rp hcap hs fun h1 M m sS sI us vs l1 hM hm i1 i2 c1 c2 n1 n2=>⟨_,_,_,_,_,_,_,rfl,?_⟩
 have fin: ∀h' L,Kn h1 h' L-> ∃h'',h''.le h'/\R (.bool true) h'':=fun h' L K=>⟨h,Hp.le_trans l1 K.le,k⟩
 (with_reducible apply Kn.al);(exact Kn.nil h1);(intro b16 h2 K1 l2 hb16)
 refine Kn.al K1 fun b18 h3 K2 l3 hb18=>?_
 refine jH (M':=M) K2 (by((focus ((repeat first|exact .head|apply Upd.tail);done)))) rfl fun h4 K4=>?_
 clear K1 K2
 refine kw_ ?_
 intro h5 K5 _
 simp only [cv,List.set_cons_zero,List.set_cons_succ,Nat.zero_add,Nat.reduceAdd]at K5
 clear K4
 have ls:=i1.len
 repeat' (refine kr_ ?_)
 refine rX (hM.mono K5.le) hm fun gS gI h6 tg=>⟨_,_,_,rfl,?_⟩
 have K6:=K5.mono tg.le
 clear K5
 refine Kn.al K6 fun b37 h7 K7 l7 hb37=>?_
 refine kw_ ?_
 intro h8 K8 kp8
 simp only [cv,List.set_cons_zero,List.set_cons_succ,Nat.zero_add,Nat.reduceAdd]at K8
 have hg:=(tg.mono (cE hb37 l7 kp8)).ints
 clear K6 K7 kp8 l7 hb37 tg h7
 repeat' (refine kr_ ?_)
 refine Ah (hM.mono K8.le) hm fun wS wI h9 tw=>⟨_,_,_,rfl,?_⟩
 have K9:=K8.mono tw.le
 replace hg:IntS h9 gS _/\IntS h9 gI _:=⟨hg.1.mono tw.le,hg.2.mono tw.le⟩
 clear K8
 refine Kn.al K9 fun b53 h10 K10 l10 hb53=>?_
 refine kw_ ?_
 intro h11 K11 kp11
 simp only [cv,List.set_cons_zero,List.set_cons_succ,Nat.zero_add,Nat.reduceAdd]at K11
 have l9:=cE hb53 l10 kp11
 have hw:=(tw.mono l9).ints
 replace hg:IntS h11 gS _/\IntS h11 gI _:=⟨hg.1.mono l9,hg.2.mono l9⟩
 clear K9 K10 kp11 hb53 l10 l9 tw
 refine ap (fun J=>J false h11) (aD rfl ?_) (fun J hJ=>?_)
 rotate_left
 ·refine aD (by simp) ?_
  repeat' (refine kr_ ?_)
  exact qR hg hw ⟨_,rfl,hJ⟩
 clear hw
 repeat' (refine kr_ ?_)
 refine qB (hM.mono K11.le) hm (i1.mono K11.le) (i2.mono K11.le) ⟨_,rfl,ac (fun _=>fin _ _ K11) (fun e=>?_)⟩
 have e0:ey m us vs=0:=by simpa using e
 clear e
 obtain⟨hc,n3,n4,n5,hp⟩:=FV e0
 obtain⟨_,_,_,_,hx,hy⟩:=sr (L8 e0)
 obtain⟨d,hd,hdl⟩:=FT hp
 rw [q8]at hdl
 obtain⟨hl,hl2⟩:=LX (x:=300) hc hd (by omega)
 rw [hl]at hg
 rw [hl2]
 have hgn:=hg.1.len
 rw [bz,List.length_map,vj]at hgn
 have hwl:((aG m).wit d (aG m).begins).length=d+1:=vj _ _ _
 refine ap (fun J=>J false) (aD rfl ?_) (fun J hJ=>?_)
 rotate_left
 ·refine aD rfl ?_
  repeat' (refine kr_ ?_)
  rw [show decide ((gS.n:Int)>(sS.n:Int))=false by rw [decide_eq_false_iff_not];omega]
  exact hJ
 repeat' (refine kr_ ?_)
 refine ac (fun _=>fin _ _ K11) (fun e=>?_)
 have hle:us.length=d+1:=by have:=of_decide_eq_false e;omega
 clear e
 have hlex:Iu ((aG m).wit d (aG m).begins) (uH us vs)=true:=by
  cases hq:uH us vs with
  |nil=>have:=q8 us vs;rw [hq]at this;simp at this;omega
  |cons a l=>
   rw [hq]at hp
   have hll:l.length=d:=by have:=q8 us vs;rw [hq,List.length_cons]at this;omega
   have:=TX l _ a hp
   rwa [hll]at this
 generalize (aG m).wit d (aG m).begins=W at*
 clear hp hl hl2
 have i1':=i1.mono K11.le
 have i2':=i2.mono K11.le
 refine av (d+1) (fun i ws h'=>ws= [.pointer (some ⟨b18,0,none⟩), .pointer (some ⟨b37,0,none⟩),I (i:Nat)]/\h11=h'/\Iu (W.drop i) ((uH us vs).drop i)=true) ⟨rfl,rfl,hlex⟩ ?_
 rintro i _ _ next hi ⟨rfl,rfl,hlx⟩ hnx
 refine⟨b18,0,b37,0,_,rfl,?_⟩
 (refine kr_ ?_)
 by_cases hlt:i<d+1
 rotate_left
 ·exact aD (by rw [decide_eq_false_iff_not];omega) (fin _ _ K11)
 refine aJ (by rw [decide_eq_true_eq];omega) ?_
 obtain⟨a,ha⟩: ∃a,W[i]?=some a:=⟨_,List.getElem?_eq_getElem (by omega)⟩
 have hb:=CO (ys:=vs) (show i<us.length by omega)
 have hWd:W.drop i=a::W.drop (i+1):=by
  rw [List.drop_eq_getElem_cons (by omega)]
  rw [List.getElem?_eq_getElem (by omega)]at ha
  rw [Option.some.inj ha]
 have hPd:(uH us vs).drop i=(cAt us i,cAt vs i)::(uH us vs).drop (i+1):=by
  rw [List.drop_eq_getElem_cons (by rw [q8];omega)]
  rw [List.getElem?_eq_getElem (by rw [q8];omega)]at hb
  rw [Option.some.inj hb]
 rw [hWd,hPd]at hlx
 obtain⟨q1,q2,q3⟩:=P6 hlx
 dsimp only at q1 q2 q3
 obtain⟨bg,og,hga,hgc⟩:=hg.1.get (uu ha)
 obtain⟨bt,ot,hta,htc⟩:=i1'.get (hx i (by omega)).1
 obtain⟨bg2,og2,hga2,hgc2⟩:=hg.2.get (uu ha)
 obtain⟨bt2,ot2,hta2,htc2⟩:=i2'.get (hy i (by omega)).1
 have hn2:=hg.2.len
 rw [bz,List.length_map]at hn2
 have ln2:=i2.len
 repeat' (refine kr_ ?_)
 refine⟨bg,og,hga,by omega,by omega,_,by rw [Int.toNat_natCast];exact hgc,?_⟩
 repeat' (refine kr_ ?_)
 refine⟨bt,ot,hta,by omega,by omega,_,by rw [Int.toNat_natCast];exact htc,?_⟩
 refine ac (fun e=>?_) (fun e=>?_)
 ·repeat' (refine kr_ ?_)
  refine⟨bg,og,hga,by omega,by omega,_,by rw [Int.toNat_natCast];exact hgc,?_⟩
  repeat' (refine kr_ ?_)
  refine⟨bt,ot,hta,by omega,by omega,_,by rw [Int.toNat_natCast];exact htc,?_⟩
  rw [decide_eq_true (by have:=q1 (by rw [bne_iff_ne]at e;omega);omega)]
  exact fin _ _ K11
 have e1:a.1=cAt us i:=by have:=fE e;omega
 clear e
 repeat' (refine kr_ ?_)
 refine⟨bg2,og2,hga2,by omega,by omega,_,by rw [Int.toNat_natCast];exact hgc2,?_⟩
 repeat' (refine kr_ ?_)
 refine⟨bt2,ot2,hta2,by omega,by omega,_,by rw [Int.toNat_natCast];exact htc2,?_⟩
 refine ac (fun e=>?_) (fun e=>?_)
 ·repeat' (refine kr_ ?_)
  refine⟨bg2,og2,hga2,by omega,by omega,_,by rw [Int.toNat_natCast];exact hgc2,?_⟩
  repeat' (refine kr_ ?_)
  refine⟨bt2,ot2,hta2,by omega,by omega,_,by rw [Int.toNat_natCast];exact htc2,?_⟩
  rw [decide_eq_true (by have:=q2 e1 (by rw [bne_iff_ne]at e;omega);omega)]
  exact fin _ _ K11
 have e2:a.2=cAt vs i:=by have:=fE e;omega
 rw [aA (by omega)]
 exact hnx hlt _ _ ⟨rfl,rfl,q3 e1 e2⟩
inductive Ord (ns:List Nd):Nat->List Nat->List Nat->Prop
 |leaf {r:Nat} {d:List Nat}:r<2->Ord ns r d d
 |seen {r:Nat} {d:List Nat}:2<=r->r∈d->Ord ns r d d
 |node {r:Nat} {d d1 d2:List Nat} {nd:Nd}:2<=r->r∉d->ns[r-2]?=some nd->Ord ns nd.lo d d1->Ord ns nd.hi d1 d2->Ord ns r d (d2++ [r])
theorem Ord.len {ns:List Nd} {r:Nat} {d o:List Nat} (h:Ord ns r d o):d.length<=o.length:=by
 induction h with
 |leaf=>exact Nat.le_refl _
 |seen=>exact Nat.le_refl _
 |node _ _ _ _ _ i1 i2=>rw [List.length_append];omega
end Go.Lead
