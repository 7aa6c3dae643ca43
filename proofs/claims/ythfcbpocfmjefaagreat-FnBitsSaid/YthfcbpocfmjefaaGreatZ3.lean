/- What functions of the program and of the reference come to, walked one by one, and plain laws about it: part 4. No condition is added to the statement. -/
import Derived.Test.YthfcbpocfmjefaaGreatZ2
namespace Go.Lead
open Go
set_option linter.unusedSimpArgs false
set_option linter.unusedVariables false
set_option maxRecDepth 100000
set_option maxHeartbeats 1000000
theorem DM.addI {m:ah} {N:Nat} (d:DM m N) (x:BindP):DM {m with inits:=m.inits++ [x]} (N+1):=
 ⟨Nat.le_succ_of_le d.nodes,d.sorts,d.names,by have:=d.inits;simp;omega,Nat.le_succ_of_le d.nexts,Nat.le_succ_of_le d.bads,Nat.le_succ_of_le d.holds⟩
theorem DM.addE {m:ah} {N:Nat} (d:DM m N) (x:BindP):DM {m with nexts:=m.nexts++ [x]} (N+1):=
 ⟨Nat.le_succ_of_le d.nodes,d.sorts,d.names,Nat.le_succ_of_le d.inits,by have:=d.nexts;simp;omega,Nat.le_succ_of_le d.bads,Nat.le_succ_of_le d.holds⟩
theorem DM.addB {m:ah} {N:Nat} (d:DM m N) (x:Int):DM {m with bads:=m.bads++ [x]} (N+1):=
 ⟨Nat.le_succ_of_le d.nodes,d.sorts,d.names,Nat.le_succ_of_le d.inits,Nat.le_succ_of_le d.nexts,by have:=d.bads;simp;omega,Nat.le_succ_of_le d.holds⟩
theorem DM.addH {m:ah} {N:Nat} (d:DM m N) (x:Int):DM {m with holds:=m.holds++ [x]} (N+1):=
 ⟨Nat.le_succ_of_le d.nodes,d.sorts,d.names,Nat.le_succ_of_le d.inits,Nat.le_succ_of_le d.nexts,Nat.le_succ_of_le d.bads,by have:=d.holds;simp;omega⟩
theorem Tc {g h:Hp} {H X:List (Nat×Blk)} {b bn:Nat} {M:MSl} {m:ah} {nd:BindP} {J:Hp->Prop} (o:MG X M m) (K:Kn g h ((bn, .inl ⟨bindCells nd,2,false⟩)::(H++X))) (hm:m.inits.length<=10000) (hb:(b, .inl ⟨aG M,5,false⟩)∈H)
  (k: ∀s' X' h',MG X' {M with ini:=s'} {m with inits:=m.inits++ [nd]}->(∀H',Upd H b (.inl ⟨aG M,5,false⟩) (.inl ⟨aG {M with ini:=s'},5,false⟩) H'->Kn g h' (H'++X'))->J h'):
  cm h M.ini.a M.ini.n M.ini.c (some ⟨bn,0,none⟩) 1 2 16 fun a n c h95=> ∃(cs:List Value) (z:Nat),h95 b=some (.inl ⟨cs,z,false⟩)/\(0+1)+1<=List.length cs/\cJ (h95.row b (ce cs (0+1) [.slice a n c]) z) fun h'=>J h':=by
 refine MG.appI (A:=_::H) (n:=nd) o K (by omega) (K.at (.head _)) fun s' X' h7 o' K7=>?_
 rw [List.cons_append]at K7
 have f:=K7.at (.tail _ (List.mem_append_left _ hb))
 exact⟨_,_,f,by simp,k s' X' _ o' fun H' u=>(K7.tl).set (u.app (X:=X'))⟩
theorem Ub {g h:Hp} {H X:List (Nat×Blk)} {b bn:Nat} {M:MSl} {m:ah} {nd:BindP} {J:Hp->Prop} (o:MG X M m) (K:Kn g h ((bn, .inl ⟨bindCells nd,2,false⟩)::(H++X))) (hm:m.nexts.length<=10000) (hb:(b, .inl ⟨aG M,5,false⟩)∈H)
  (k: ∀s' X' h',MG X' {M with nex:=s'} {m with nexts:=m.nexts++ [nd]}->(∀H',Upd H b (.inl ⟨aG M,5,false⟩) (.inl ⟨aG {M with nex:=s'},5,false⟩) H'->Kn g h' (H'++X'))->J h'):
  cm h M.nex.a M.nex.n M.nex.c (some ⟨bn,0,none⟩) 1 2 16 fun a n c h95=> ∃(cs:List Value) (z:Nat),h95 b=some (.inl ⟨cs,z,false⟩)/\(0+2)+1<=List.length cs/\cJ (h95.row b (ce cs (0+2) [.slice a n c]) z) fun h'=>J h':=by
 refine MG.appE (A:=_::H) (n:=nd) o K (by omega) (K.at (.head _)) fun s' X' h7 o' K7=>?_
 rw [List.cons_append]at K7
 have f:=K7.at (.tail _ (List.mem_append_left _ hb))
 exact⟨_,_,f,by simp,k s' X' _ o' fun H' u=>(K7.tl).set (u.app (X:=X'))⟩
theorem aaq {g h:Hp} {H X:List (Nat×Blk)} {b bn:Nat} {M:MSl} {m:ah} {nd:Int} {J:Hp->Prop} (o:MG X M m) (K:Kn g h ((bn, .inl ⟨[I nd],1,false⟩)::(H++X))) (hm:m.bads.length<=10000) (hb:(b, .inl ⟨aG M,5,false⟩)∈H)
  (k: ∀s' X' h',MG X' {M with bad:=s'} {m with bads:=m.bads++ [nd]}->(∀H',Upd H b (.inl ⟨aG M,5,false⟩) (.inl ⟨aG {M with bad:=s'},5,false⟩) H'->Kn g h' (H'++X'))->J h'):
  cm h M.bad.a M.bad.n M.bad.c (some ⟨bn,0,none⟩) 1 1 8 fun a n c h95=> ∃(cs:List Value) (z:Nat),h95 b=some (.inl ⟨cs,z,false⟩)/\(0+3)+1<=List.length cs/\cJ (h95.row b (ce cs (0+3) [.slice a n c]) z) fun h'=>J h':=by
 refine MG.appB (A:=_::H) (n:=nd) o K (by omega) (K.at (.head _)) fun s' X' h7 o' K7=>?_
 rw [List.cons_append]at K7
 have f:=K7.at (.tail _ (List.mem_append_left _ hb))
 exact⟨_,_,f,by simp,k s' X' _ o' fun H' u=>(K7.tl).set (u.app (X:=X'))⟩
theorem Ua {g h:Hp} {H X:List (Nat×Blk)} {b bn:Nat} {M:MSl} {m:ah} {nd:Int} {J:Hp->Prop} (o:MG X M m) (K:Kn g h ((bn, .inl ⟨[I nd],1,false⟩)::(H++X))) (hm:m.holds.length<=10000) (hb:(b, .inl ⟨aG M,5,false⟩)∈H)
  (k: ∀s' X' h',MG X' {M with hol:=s'} {m with holds:=m.holds++ [nd]}->(∀H',Upd H b (.inl ⟨aG M,5,false⟩) (.inl ⟨aG {M with hol:=s'},5,false⟩) H'->Kn g h' (H'++X'))->J h'):
  cm h M.hol.a M.hol.n M.hol.c (some ⟨bn,0,none⟩) 1 1 8 fun a n c h95=> ∃(cs:List Value) (z:Nat),h95 b=some (.inl ⟨cs,z,false⟩)/\(0+4)+1<=List.length cs/\cJ (h95.row b (ce cs (0+4) [.slice a n c]) z) fun h'=>J h':=by
 refine MG.appH (A:=_::H) (n:=nd) o K (by omega) (K.at (.head _)) fun s' X' h7 o' K7=>?_
 rw [List.cons_append]at K7
 have f:=K7.at (.tail _ (List.mem_append_left _ hb))
 exact⟨_,_,f,by simp,k s' X' _ o' fun H' u=>(K7.tl).set (u.app (X:=X'))⟩
set_option maxHeartbeats 2000000 in
theorem Rb {g h:Hp} {A X:List (Nat×Blk)} {B p N:Nat} {s:Sl} {bs:List Nat} {M:MSl} {m:ah} {R:Value->Hp->Prop} (K:Kn g h ((B,rdC s p)::(A++X))) (hb:ByteS g s bs) (o:MG X M m) (d:DM m N) (hN:N<=100)
  (hne:0<m.nodes.length) (hp:p<=100000)
  (k: ∀h' p' X' M' m',Kn g h' ((B,rdC s p')::(A++X'))->MG X' M' m'->DM m' (6*N)->0<m'.nodes.length->p'<=p+N*1000->R (aN M') h'):
  pO #[.pointer (some ⟨B,0,none⟩),aN M] h R:=by
 apply Ct
 refine uf_ ?_
 have hl:=o.lens
 have hsm:=d.small (by omega)
 have hdn:=d.nodes
 refine Kn.al K fun b8 h1 K1 l1 hb8=>?_
 refine Kn.al K1 fun b10 h2 K2 l2 hb10=>?_
 clear K K1 l1 l2 hb8 hb10
 (refine kr_ ?_)
 refine ar m.nodes.length (fun i vs h'=> ∃q X' M' m',vs= [.pointer (some ⟨B,0,none⟩), .pointer (some ⟨b8,0,none⟩), .pointer (some ⟨b10,0,none⟩),I (M.no.n:Nat),I i]/\MG X' M' m'/\DM m' (N+5*i)/\m.nodes.length<=m'.nodes.length/\q<=p+i*1000/\
  Kn g h' ((b10, .inl ⟨dT,5,false⟩)::(b8, .inl ⟨aG M',5,false⟩)::(B,rdC s q)::(A++X'))) ⟨p,X,M,m,rfl,o,d,Nat.le_refl _,by omega,K2⟩ ?_
 clear K2 h1 h2 h
 rintro i _ h4 nxt hi ⟨q,X',M',m',rfl,o',d',hle,hq,K4⟩ hnx
 refine⟨_,b8,0,b10,0,_,_,rfl,?_⟩
 have hl':=o'.lens
 have hdn':=d'.nodes
 have hsm':=d'.small (by omega)
 by_cases hlt:i<m.nodes.length
 rotate_left
 ·refine aA (by rw [decide_eq_false_iff_not];omega) ?_
  repeat' (refine kr_ ?_)
  refine EO K4 (by((focus ((repeat first|exact .head|apply Upd.tail);done)))) fun h6 K6=>?_
  exact k h6 q X' M' m' K6.tl.tl o' (d'.more (by omega)) (by omega) (by omega)
 refine aL (by rw [decide_eq_true_eq];omega) ?_
 refine aq (fun J=> ∀h5 q X M1 m1,MG X M1 m1->DM m1 (N+5*(i+1))->m.nodes.length<=m1.nodes.length->q<=p+(i+1)*1000->Kn g h5 ((b10, .inl ⟨dT,5,false⟩)::(b8, .inl ⟨aG M1,5,false⟩)::(B,rdC s q)::(A++X))->J (some ⟨B,0,none⟩) b8 0 b10 0 (M.no.n:Nat) i h5)
  (fun h5 q X M1 m1 o1 d1 hl1 hq1 K5=>?_) (fun J hJ=>?_)
 ·rw [aw (by omega)]
  exact hnx hlt _ _ ⟨q,X,M1,m1,rfl,o1,d1,hl1,hq1,K5⟩
 clear hnx
 have hs:=o'.modelS (A:=_::_::_::A) hsm' K4
 obtain⟨ni,hni⟩: ∃n,m'.nodes[i]?=some n:=⟨_,List.getElem?_eq_getElem (by omega)⟩
 have hst:=th d' hni
 obtain⟨b,oo,ha,e0,e1,e2,e3,e4,e5,e6,e7,e8⟩:=hs.nodes.at hni
 (refine kr_ ?_)
 refine⟨b,oo,ha,by omega,by omega,_,by rw [Int.toNat_natCast];exact e0,?_⟩
 refine ad (fun _=>hJ h4 q X' M' m' o' (d'.more (by omega)) hle (by omega) K4) (fun hkn=>?_)
 (refine kr_ ?_)
 refine⟨b,oo,ha,by omega,by omega,_,by rw [Int.toNat_natCast];exact e6,_,by rw [Int.toNat_natCast];exact e7,?_⟩
 generalize ni.sort=st at*
 clear hkn e0 e1 e2 e3 e4 e5 e6 e7 e8 hs hni ha ni oo b
 refine Kn.al K4 fun b41 h5 K5 l5 hb5=>?_
 refine kw_ ?_
 intro h6 K6 kpz
 clear kpz
 have K6':Kn g h6 ((b41, .inl ⟨[I st.idx,I st.wid],2,false⟩)::(b10, .inl ⟨dT,5,false⟩)::(b8, .inl ⟨aG M',5,false⟩)::(B,rdC s q)::(A++X')):=K6
 clear K6 K5 K4 l5 hb5
 obtain⟨_,hw1,hw2⟩:=mv hst
 refine kp_ ?_
 intro x49 h7 K7 hx49 _
 refine⟨_,rfl,?_⟩
 clear K6'
 refine aq (fun J2=> ∀h8 q2 X2 M2 m2,MG X2 M2 m2->DM m2 (N+5*i+2)->m.nodes.length<=m2.nodes.length->q2<=p+i*1000+2->Kn g h8 ((b41, .inl ⟨[I st.idx,I st.wid],2,false⟩)::(b10, .inl ⟨dT,5,false⟩)::(b8, .inl ⟨aG M2,5,false⟩)::(B,rdC s q2)::(A++X2))->J2 h8)
  (fun h8 q2 X2 M2 m2 o2 d2 hl2 hq2 K8=>?_) (fun J2 hJ2=>?_)
 rotate_left
 ·refine ad (fun _=>?_) (fun _=>hJ2 h7 _ X' M' m' o' (d'.more (by omega)) hle (by omega) K7)
  refine aq (fun J3=> ∀h8 s2 X2 q2 nd,MG X2 {M' with no:=s2} {m' with nodes:=m'.nodes++ [nd]}->bO nd.sort=true->nd.name.size=0->q2<=p+i*1000+2->
   Kn g h8 ((b41, .inl ⟨[I st.idx,I st.wid],2,false⟩)::(b10, .inl ⟨dT,5,false⟩)::(b8, .inl ⟨aG {M' with no:=s2},5,false⟩)::(B,rdC s q2)::(A++X2))->J3 h8) (fun h8 s2 X2 q2 nd o2 hs2 hn2 hq2 K8=>?_) (fun J3 hJ3=>?_)
  ·have hdi:=d'.inits
   (refine kr_ ?_)
   (refine kr_ ?_)
   refine Kn.al K8 fun b104 h9 K9 l9 hb9=>?_
   refine Tc (H:=_::_::_::_::A) (nd:=⟨i,W ((s2.n:Int)-1)⟩) o2 K9 (by dsimp only;omega) (.tail _ (.tail _ (.head _))) fun s3 X3 h10 o3 KF=>?_
   have K10:=KF _ (by((focus ((repeat first|exact .head|apply Upd.tail);done))))
   simp only [List.cons_append]at K10
   clear KF K9 K8 K7
   refine hJ2 h10 q2 X3 _ _ o3 (((d'.addN hs2 (by omega)).addI _).more (by omega)) (by simp;omega) hq2 K10
  obtain⟨w,hw⟩: ∃w:Nat,st.wid=w:=⟨st.wid.toNat,by omega⟩
  have hp2:0<2^w:=Nat.two_pow_pos w
  have fin: ∀(y:Nat) (h5 h6:Hp) (q2 b:Nat),q2<=p+i*1000+2->
    Kn g h6 ((b, .inl ⟨[I 34,I 0,I 0,I 0,I (Int.tmod y (2^w:Nat)),I 0,I 0,I st.wid, .string ⟨#[]⟩],9,false⟩)::(b41, .inl ⟨[I st.idx,I st.wid],2,false⟩)::(b10, .inl ⟨dT,5,false⟩)::(b8, .inl ⟨aG M',5,false⟩)::(B,rdC s q2)::(A++X'))->
    cm h6 M'.no.a M'.no.n M'.no.c (some (Addr.mk b 0 none)) 1 9 80 fun a92 n93 k94 h95=> ∃(cs96:List Value) (z97:Nat),h95 b8=some (.inl ⟨cs96,z97,false⟩)/\0+1<=List.length cs96/\cJ (h95.row b8 (ce cs96 0 [(.slice a92 n93 k94)]) z97) fun h98=>J3 h98:=by
   intro y h5 h6 q2 b hq2 K6
   refine mK (H:=_::_::_::_::A) (nd:=⟨34,0,0,0,Int.tmod y (2^w:Nat),0,cP st.wid,⟨#[]⟩⟩) o' K6 (by omega) (.tail _ (.tail _ (.head _))) fun s2 X2 h8 o2 KF=>?_
   have K8:=KF _ (by((focus ((repeat first|exact .head|apply Upd.tail);done))))
   simp only [List.cons_append]at K8
   exact hJ3 h8 s2 X2 q2 _ o2 (pd hw1 hw2) rfl hq2 K8
  repeat' (refine kr_ ?_)
  refine⟨?_,?_⟩
  ·refine kp_ ?_
   intro y h8 K8 hy _
   refine⟨_,rfl,?_⟩
   repeat' (refine kr_ ?_)
   refine⟨?_,?_⟩
   ·repeat' (refine kr_ ?_)
    rw [hw,cR (by omega),if_neg (by omega),ck (by omega),if_neg (by omega),<-hw]
    refine cd ⟨_,_,rfl,?_⟩
    repeat' (refine kr_ ?_)
    refine Kn.al K8 fun b90 h9 K9 l9 hb90=>?_
    (refine kr_ ?_)
    exact fin y h8 h9 _ b90 (by omega) K9
   ·repeat' (refine kr_ ?_)
    refine cd ⟨_,_,rfl,?_⟩
    repeat' (refine kr_ ?_)
    rw [hw,cR (by omega),if_neg (by omega),ck (by omega),if_neg (by omega),<-hw]
    refine Kn.al K8 fun b90 h9 K9 l9 hb90=>?_
    (refine kr_ ?_)
    exact fin y h8 h9 _ b90 (by omega) K9
  ·repeat' (refine kr_ ?_)
   rw [hw,cR (by omega),if_neg (by omega),ck (by omega),<-hw]
   refine kp_ ?_
   intro y h8 K8 hy _
   refine⟨_,rfl,?_⟩
   repeat' (refine kr_ ?_)
   rw [if_neg (by omega)]
   refine cd ⟨_,_,rfl,?_⟩
   repeat' (refine kr_ ?_)
   refine Kn.al K8 fun b90 h9 K9 l9 hb90=>?_
   (refine kr_ ?_)
   exact fin y h8 h9 _ b90 (by omega) K9
 clear K7 h7 hsm' hdn' hl' hq d' o' hle X' M' m' q
 have hl':=o2.lens
 have hdn':=d2.nodes
 have hsm':=d2.small (by omega)
 refine kp_ ?_
 intro x118 h9 K9 _ _
 refine⟨_,rfl,?_⟩
 refine ad (fun _=>hJ h9 _ X2 M2 m2 o2 (d2.more (by omega)) hl2 (by omega) K9.tl) (fun _=>?_)
 clear K8
 refine ar m2.nodes.length (fun j vs h'=> ∃(a q:Nat),vs= [.pointer (some ⟨B,0,none⟩), .pointer (some ⟨b8,0,none⟩), .pointer (some ⟨b10,0,none⟩),I (M.no.n:Nat),I i, .pointer (some ⟨b41,0,none⟩),I a,I j]/\a<m2.nodes.length/\q<=p+i*1000+3+j/\
  Kn g h' ((b41, .inl ⟨[I st.idx,I st.wid],2,false⟩)::(b10, .inl ⟨dT,5,false⟩)::(b8, .inl ⟨aG M2,5,false⟩)::(B,rdC s q)::(A++X2))) ⟨i,_,rfl,by omega,by omega,K9⟩ ?_
 clear K9 h9 h8 hq2
 rintro j _ h8 nxt hj ⟨a,q,rfl,haL,hq,K8⟩ hnx
 refine⟨_,b8,0,b10,0,_,_,b41,0,_,_,rfl,?_⟩
 have hs:=o2.modelS (A:=_::_::_::_::A) hsm' K8
 (refine kr_ ?_)
 by_cases hlj:j<m2.nodes.length
 ·refine aL (by rw [decide_eq_true_eq];omega) ?_
  refine aq (fun J3=> ∀(c:Nat) h5 q,c<m2.nodes.length->q<=p+i*1000+3+(j+1)->Kn g h5 ((b41, .inl ⟨[I st.idx,I st.wid],2,false⟩)::(b10, .inl ⟨dT,5,false⟩)::(b8, .inl ⟨aG M2,5,false⟩)::(B,rdC s q)::(A++X2))->J3 (c:Int) h5) (fun c h5 q' hc hq' K5=>?_) (fun J3 hJ3=>?_)
  ·rw [aw (by omega)]
   exact hnx hlj _ _ ⟨c,q',rfl,hc,hq',K5⟩
  ·(refine kr_ ?_)
   obtain⟨nj,hnj⟩: ∃n,m2.nodes[j]?=some n:=⟨_,List.getElem?_eq_getElem hlj⟩
   obtain⟨b,oo,ha,e0,e1,e2,e3,e4,e5,e6,e7,e8⟩:=hs.nodes.at hnj
   refine⟨b,oo,ha,by omega,by omega,_,by rw [Int.toNat_natCast];exact e6,_,by rw [Int.toNat_natCast];exact e7,?_⟩
   (refine kr_ ?_)
   (refine kr_ ?_)
   refine ad (fun e=>?_) (fun e=>?_)
   ·(refine kr_ ?_)
    refine⟨b,oo,ha,by omega,by omega,_,by rw [Int.toNat_natCast];exact e0,?_⟩
    refine ad (fun e=>?_) (fun e=>?_)
    ·refine ad (fun e=>?_) (fun e=>?_)
     ·exact hJ3 _ h8 q hlj (by omega) K8
     refine kp_ ?_
     intro x h5 K5 hx _
     refine⟨_,rfl,?_⟩
     exact ad (fun e=>hJ3 _ h5 (q+1) hlj (by omega) K5) (fun e=>hJ3 _ h5 (q+1) haL (by omega) K5)
    ·exact hJ3 _ h8 q haL (by omega) K8
   ·exact hJ3 _ h8 q haL (by omega) K8
 refine aA (by rw [decide_eq_false_iff_not];omega) ?_
 clear hnx hs
 refine aq (fun J3=> ∀(c:Bool) h5 q,q<=p+i*1000+4+m2.nodes.length->Kn g h5 ((b41, .inl ⟨[I st.idx,I st.wid],2,false⟩)::(b10, .inl ⟨dT,5,false⟩)::(b8, .inl ⟨aG M2,5,false⟩)::(B,rdC s q)::(A++X2))->J3 c h5) (fun c h5 q' hq' K5=>?_) (fun J3 hJ3=>?_)
 rotate_left
 ·refine ad (fun e=>?_) (fun e=>hJ3 _ h8 q (by omega) K8)
  repeat' (refine kr_ ?_)
  refine ad (fun e=>?_) (fun e=>hJ3 _ h8 q (by omega) K8)
  refine kp_ ?_
  intro x h5 K5 hx _
  exact⟨_,rfl,hJ3 _ h5 (q+1) (by omega) K5⟩
 clear K8 hq q h8
 refine aq (fun J3=> ∀(x:Int) h5 q X3 M3 m3,MG X3 M3 m3->DM m3 (N+5*i+4)->m.nodes.length<=m3.nodes.length->q<=p+i*1000+4+m2.nodes.length->Kn g h5 ((b41, .inl ⟨[I st.idx,I st.wid],2,false⟩)::(b10, .inl ⟨dT,5,false⟩)::(b8, .inl ⟨aG M3,5,false⟩)::(B,rdC s q)::(A++X3))->J3 x h5)
  (fun x h6 q X3 M3 m3 o3 d3 hl3 hq3 K6=>?_) (fun J3 hJ3=>?_)
 ·have hde:=d3.nexts
  (refine kr_ ?_)
  refine Kn.al K6 fun b202 h9 K9 l9 hb9=>?_
  refine Ub (H:=_::_::_::_::A) (nd:=⟨i,x⟩) o3 K9 (by omega) (.tail _ (.tail _ (.head _))) fun s3 X4 h10 o4 KF=>?_
  have K10:=KF _ (by((focus ((repeat first|exact .head|apply Upd.tail);done))))
  simp only [List.cons_append]at K10
  exact hJ h10 q X4 _ _ o4 ((d3.addE _).more (by omega)) (by simp;omega) (by omega) K10.tl
 refine ad (fun e=>?_) (fun e=>hJ3 _ h5 q' X2 M2 m2 o2 (d2.more (by omega)) hl2 (by omega) K5)
 repeat' (refine kr_ ?_)
 refine Kn.al K5 fun b173 h6 K6 l6 hb6=>?_
 refine mK (H:=_::_::_::_::A) (nd:=⟨34,0,0,0,1,0,st,⟨#[]⟩⟩) o2 K6 (by omega) (.tail _ (.tail _ (.head _))) fun s3 X3 h7 o3 KF=>?_
 have K7:=KF _ (by((focus ((repeat first|exact .head|apply Upd.tail);done))))
 simp only [List.cons_append]at K7
 clear KF K6 K5
 repeat' (refine kr_ ?_)
 refine Kn.al K7 fun b187 h8 K8 l8 hb8=>?_
 refine mK (H:=_::_::_::_::A) (nd:=⟨9,i,W ((s3.n:Int)-1),0,0,0,st,⟨#[]⟩⟩) o3 K8 (by simp;omega) (.tail _ (.tail _ (.head _))) fun s4 X4 h9 o4 KF=>?_
 have K9:=KF _ (by((focus ((repeat first|exact .head|apply Upd.tail);done))))
 simp only [List.cons_append]at K9
 clear KF K8 K7
 repeat' (refine kr_ ?_)
 have dA:=d2.addN (n:=⟨34,0,0,0,1,0,st,⟨#[]⟩⟩) hst (show (0:Nat)<=100 by omega)
 have dB:=dA.addN (n:=⟨9,i,W ((s3.n:Int)-1),0,0,0,st,⟨#[]⟩⟩) hst (show (0:Nat)<=100 by omega)
 exact hJ3 _ h9 q' X4 _ _ o4 (dB.more (by omega)) (by simp;omega) (by omega) K9
inductive Pk {α:Type}:List α->α->List α->Prop
 |head {L:List α} {a:α}:Pk (a::L) a L
 |tail {L L':List α} {a e:α}:Pk L a L'->Pk (e::L) a (e::L')
theorem Pk.perm {α:Type} {L L':List α} {a:α} (u:Pk L a L'):L.Perm (a::L'):=by
 induction u with
 |head=>exact List.Perm.refl _
 |tail _ ih=>exact(List.Perm.cons _ ih).trans (List.Perm.swap ..)
abbrev afn (w:Int):List NodeP:= [⟨36,0,0,0,0,0,⟨0,w⟩,⟨#[120]⟩⟩,⟨34,0,0,0,0,0,⟨0,w⟩,⟨#[]⟩⟩,⟨34,0,0,0,1,0,⟨0,w⟩,⟨#[]⟩⟩,⟨34,0,0,0,3,0,⟨0,w⟩,⟨#[]⟩⟩,⟨35,0,0,0,0,0,⟨0,1⟩,⟨#[103,111]⟩⟩,
 ⟨9,0,2,0,0,0,⟨0,w⟩,⟨#[]⟩⟩,⟨33,4,5,0,0,0,⟨0,w⟩,⟨#[]⟩⟩,⟨21,0,3,0,0,0,⟨0,1⟩,⟨#[]⟩⟩]
abbrev aga (w:Int):ah:=⟨afn w, [⟨0,1⟩], [⟨0,6⟩], [7], []⟩
abbrev afJ (w:Int):List Value:=(afn w).flatMap nodeCells
set_option maxHeartbeats 4000000 in
theorem vw {g h:Hp} {A:List (Nat×Blk)} {B p:Nat} {s:Sl} {bs:List Nat} {R:Value->Hp->Prop} (K:Kn g h ((B,rdC s p)::A)) (hb:ByteS g s bs) (hp:p<=900000)
  (k: ∀h' p' X' M' m',Kn g h' ((B,rdC s p')::(A++X'))->MG X' M' m'->DM m' 8->aD m'=0->0<m'.nodes.length->p'<=p+1->R (aN M') h'):
  gQ #[.pointer (some ⟨B,0,none⟩)] h R:=by
 apply yV
 refine uf_ ?_
 refine Kn.al K fun b3 h1 K1 l1 hb3=>?_
 clear K l1 hb3
 refine kp_ ?_
 intro x h2 K2 hx _
 refine⟨_,rfl,?_⟩
 have hx':x<2:=by have:=hx (by omega);omega
 clear K1
 refine cd ⟨_,_,rfl,?_⟩
 refine Kn.al K2 fun b14 h3 K3 l3 hb14=>?_
 refine kw_ ?_
 intro h4 K4 kpz
 clear kpz
 obtain⟨w,hw,hw2⟩: ∃w:Int,W (2+(x:Int))=w/\(w=2\/w=3):=⟨_,rfl,by rw [bQ (by omega) (by omega)];omega⟩
 rw [hw]at K4
 have K4':Kn g h4 ((b14, .inl ⟨[I 0,I w],2,false⟩)::(b3, .inl ⟨dT,5,false⟩)::(B,rdC s (p+1))::A):=K4
 clear K4 K3 K2
 refine aq (fun J=> ∀h5 (bN bI bE bB:Nat),Kn g h5 ((bN, .inl ⟨afJ w,72,false⟩)::(bI, .inl ⟨[I 0,I 1],2,false⟩)::(bE, .inl ⟨[I 0,I 6],2,false⟩)::(bB, .inl ⟨[I 7],1,false⟩)::(b14, .inl ⟨[I 0,I w],2,false⟩)::
   (b3, .inl ⟨aG ⟨⟨some ⟨bN,0,none⟩,8,8⟩,⟨some ⟨bI,0,none⟩,1,1⟩,⟨some ⟨bE,0,none⟩,1,1⟩,⟨some ⟨bB,0,none⟩,1,1⟩,⟨none,0,0⟩⟩,5,false⟩)::(B,rdC s (p+1))::A)->J h5) (fun h5 bN bI bE bB K5=>?_) (fun J hJ=>?_)
 ·clear K4'
  repeat' (refine kr_ ?_)
  have K6:=(K5.perm (List.perm_append_comm (l₁:= [_,_,_,_]) (l₂:=_::_::_::A))).tl.tl
  refine k h5 (p+1) _ ⟨⟨some ⟨bN,0,none⟩,8,8⟩,⟨some ⟨bI,0,none⟩,1,1⟩,⟨some ⟨bE,0,none⟩,1,1⟩,⟨some ⟨bB,0,none⟩,1,1⟩,⟨none,0,0⟩⟩ (aga w) K6 ?_ ?_ ?_ ?_ (Nat.le_refl _)
  ·exact⟨[_], [_], [_], [_], [],rfl,⟨rfl,Nat.le_refl _, .inr ⟨bN,rfl,rfl⟩⟩,⟨rfl,Nat.le_refl _, .inr ⟨bI,rfl,rfl⟩⟩,⟨rfl,Nat.le_refl _, .inr ⟨bE,rfl,rfl⟩⟩,⟨rfl,Nat.le_refl _, .inr ⟨bB,rfl,rfl⟩⟩,cw 1⟩
  ·refine⟨Nat.le_refl _,?_,?_,show (1:Nat)<=8 by omega,show (1:Nat)<=8 by omega,show (1:Nat)<=8 by omega,show (0:Nat)<=8 by omega⟩
   ·rcases hw2 with rfl|rfl<;>decide
   ·rcases hw2 with rfl|rfl<;>decide
  ·rcases hw2 with rfl|rfl<;>decide
  ·exact Nat.succ_pos _
 have leaf: ∀h5 L L1 L2 L3 (bN bI bE bB:Nat),Kn g h5 L->Pk L (bN, .inl ⟨afJ w,72,false⟩) L1->Pk L1 (bI, .inl ⟨[I 0,I 1],2,false⟩) L2->Pk L2 (bE, .inl ⟨[I 0,I 6],2,false⟩) L3->
   Pk L3 (bB, .inl ⟨[I 7],1,false⟩) ((b14, .inl ⟨[I 0,I w],2,false⟩)::(b3, .inl ⟨dT,5,false⟩)::(B,rdC s (p+1))::A)->
   ∃(cs:List Value) (z:Nat),h5 b3=some (.inl ⟨cs,z,false⟩)/\0+5<=List.length cs/\cJ (h5.row b3 (ce cs 0 [.slice (some ⟨bN,0,none⟩) 8 8, .slice (some ⟨bI,0,none⟩) 1 1, .slice (some ⟨bE,0,none⟩) 1 1, .slice (some ⟨bB,0,none⟩) 1 1, .slice none 0 0]) z) fun h'=>J h':=by
  intro h5 L L1 L2 L3 bN bI bE bB K p1 p2 p3 p4
  have K':=K.perm (p1.perm.trans (List.Perm.cons _ (p2.perm.trans (List.Perm.cons _ (p3.perm.trans (List.Perm.cons _ p4.perm))))))
  refine vp (M':=⟨⟨some ⟨bN,0,none⟩,8,8⟩,⟨some ⟨bI,0,none⟩,1,1⟩,⟨some ⟨bE,0,none⟩,1,1⟩,⟨some ⟨bB,0,none⟩,1,1⟩,⟨none,0,0⟩⟩) K' (by((focus ((repeat first|exact .head|apply Upd.tail);done)))) rfl fun h6 K6=>?_
  exact hJ h6 bN bI bE bB K6
 clear k hJ hw2 hw hx' hx
 repeat' (refine kr_ ?_)
 repeat' first
  |(refine kr_ ?_)
  |refine cd ⟨_,_,rfl,?_⟩
  |((with_reducible apply Kn.al);(assumption);(intro b hN KN lN hbN))
  |(refine leaf _ _ _ _ _ _ _ _ _ (by assumption) (by((focus ((repeat first|exact .head|apply Pk.tail);done)))) (by((focus ((repeat first|exact .head|apply Pk.tail);done)))) (by((focus ((repeat first|exact .head|apply Pk.tail);done)))) (by((focus ((repeat first|exact .head|apply Pk.tail);done)))))
  |refine⟨?_,?_⟩
theorem Kn.subl {g h:Hp} {L L':List (Nat×Blk)} (K:Kn g h L) (s:L'.Sublist L):Kn g h L':=K.sub (fun e he=>s.subset he) (List.Nodup.sublist (s.map _) K.nd)
theorem Oj {g h:Hp} {L:List (Nat×Blk)} {s:Sl} {bs:List Nat} {R:Value->Hp->Prop} (K:Kn g h L) (hcap:s.n<=s.c) (hs:ByteS g s bs)
  (k: ∀B h' s' bs',ByteS g s' bs'->Kn g h' ((B,rdC s' 0)::L)->R (.pointer (some ⟨B,0,none⟩)) h'):i8 #[s.v] h R:=by
 apply zG
 refine uf_ ?_
 have hl:=hs.len
 refine ad (fun e=>?_) (fun e=>?_)
 ·have e':2000<s.n:=by simp at e;omega
  obtain⟨b,o,ha,hc⟩:=SlC.get hs.1 (by omega)
  refine⟨by simp,by simp,by omega, .inr ⟨b,o,ha,?_⟩⟩
  refine Kn.al K fun B h1 K1 l1 hB=>?_
  have e0:(if s.c=(Int.ofNat 0).toNat then o else o+(Int.ofNat 0).toNat*1)=o:=by split<;>simp
  rw [e0]at K1
  refine k B h1 ⟨some ⟨b,o,none⟩,2000,s.c⟩ (bs.take 2000) ?_ K1
  refine⟨⟨by simp,by simp;omega, .inr ⟨b,o,rfl,?_⟩⟩,fun x hx=>hs.2 x (List.mem_of_mem_take hx)⟩
  intro i v hv
  refine hc i v ?_
  rw [List.map_take,List.getElem?_take]at hv
  split at hv
  ·exact hv
  ·cases hv
 ·refine Kn.al K fun B h1 K1 l1 hB=>?_
  exact k B h1 s bs hs K1
theorem Bj {α:Type} (a b c:α) (L:List α):(a::b::c::L).Perm (c::a::b::L):=(List.Perm.cons a (List.Perm.swap c b L)).trans (List.Perm.swap c a _)
set_option maxHeartbeats 2000000 in
theorem Io {g h:Hp} {A:List (Nat×Blk)} {B p:Nat} {s:Sl} {bs:List Nat} {R:Value->Hp->Prop} (K:Kn g h ((B,rdC s p)::A)) (hb:ByteS g s bs) (hp:p<=10000)
  (k: ∀h' p' X' M' m',Kn g h' ((B,rdC s p')::(A++X'))->MG X' M' m'->DM m' 400->aD m'=0->0<m'.nodes.length->p'<=p+100000->R (aN M') h'):
  lw #[.pointer (some ⟨B,0,none⟩)] h R:=by
 apply Dz
 refine uf_ ?_
 refine Kn.al K fun b3 h1 K1 l1 hb3=>?_
 clear K l1 hb3
 refine kp_ ?_
 intro x h2 K2 _ _
 refine⟨_,rfl,?_⟩
 clear K1
 refine Or (A:=(b3, .inl ⟨dT,5,false⟩)::A) K2.sw hb (by omega) fun h3 p3 X3 M3 m3 K3 o3 d3 n3 hp3=>⟨_,_,_,_,_,rfl,?_⟩
 replace K3:Kn g h3 ((b3, .inl ⟨dT,5,false⟩)::(B,rdC s p3)::(A++X3)):=K3.sw
 clear K2
 refine Kn.al K3 fun b16 h4 K4 l4 hb16=>?_
 clear K3 l4 hb16
 refine vp (M':=M3) K4 (by((focus ((repeat first|exact .head|apply Upd.tail);done)))) rfl fun h5 K5=>?_
 clear K4
 refine kp_ ?_
 intro n h6 K6 hn _
 refine⟨_,rfl,?_⟩
 replace hn:n<14:=by have:=hn (by omega);omega
 clear K5
 refine ar n (fun i vs h'=> ∃q X' M' m',vs= [.pointer (some ⟨B,0,none⟩), .pointer (some ⟨b3,0,none⟩), .pointer (some ⟨b16,0,none⟩),I n,I i]/\MG X' M' m'/\DM m' (12+3*i)/\0<m'.nodes.length/\q<=p+100+i*20/\
  Kn g h' ((b16, .inl ⟨aG M',5,false⟩)::(b3, .inl ⟨dT,5,false⟩)::(B,rdC s q)::(A++X'))) ⟨p3+1,X3,M3,m3,rfl,o3,d3,n3,by omega,K6⟩ ?_
 clear K6 hp3 n3 d3 o3 m3 M3 X3 p3 h6 h5 h4 h3 h2 h1 h
 rintro i _ h4 nxt hi ⟨q,X',M',m',rfl,o',d',hle,hq,K4⟩ hnx
 refine⟨_,b3,0,b16,0,_,_,rfl,?_⟩
 by_cases hlt:i<n
 ·refine aL (by rw [decide_eq_true_eq];omega) ?_
  repeat' (refine kr_ ?_)
  refine Rn (A:=(b16, .inl ⟨aG M',5,false⟩)::(b3, .inl ⟨dT,5,false⟩)::A) (K4.perm (Bj _ _ _ _)) hb o' d' (by omega) hle (by omega) fun h5 q5 X5 M5 m5 K5 o5 d5 n5 hq5=>⟨_,_,_,_,_,rfl,?_⟩
  replace K5:=K5.perm (Bj _ _ _ _).symm
  refine vp (M':=M5) K5 (by((focus ((repeat first|exact .head|apply Upd.tail);done)))) rfl fun h6 K6=>?_
  rw [aw (by omega)]
  exact hnx hlt _ _ ⟨q5,X5,M5,m5,rfl,o5,d5.more (by omega),n5,by omega,K6⟩
 refine aA (by rw [decide_eq_false_iff_not];omega) ?_
 clear hnx
 repeat' (refine kr_ ?_)
 refine Rb (N:=51) (A:=(b16, .inl ⟨aG M',5,false⟩)::(b3, .inl ⟨dT,5,false⟩)::A) (K4.perm (Bj _ _ _ _)) hb o' (d'.more (by omega)) (by omega) hle (by omega) fun h5 q5 X5 M5 m5 K5 o5 d5 n5 hq5=>⟨_,_,_,_,_,rfl,?_⟩
 replace K5:=K5.perm (Bj _ _ _ _).symm
 clear K4
 refine vp (M':=M5) K5 (by((focus ((repeat first|exact .head|apply Upd.tail);done)))) rfl fun h6 K6=>?_
 clear K5
 refine kp_ ?_
 intro x76 h7 K7 hx76 _
 refine⟨_,rfl,?_⟩
 clear K6
 refine kp_ ?_
 intro x80 h8 K8 _ _
 refine⟨_,rfl,?_⟩
 clear K7
 refine aq (fun J=> ∀c:Nat,c<=2->J (c:Int)) (fun c hc=>?_) (fun J hJ=>?_)
 rotate_left
 ·refine ad (fun _=>hJ 0 (by omega)) (fun _=>?_)
  have:=hx76 (by omega)
  rw [show (1:Int)+(x76:Nat)=((1+x76:Nat):Int) by omega,fu (by omega)]
  exact hJ _ (by omega)
 refine ar c (fun i vs h'=> ∃q X' M' m',vs= [.pointer (some ⟨B,0,none⟩), .pointer (some ⟨b3,0,none⟩), .pointer (some ⟨b16,0,none⟩),I c,I i]/\MG X' M' m'/\DM m' (306+4*i)/\0<m'.nodes.length/\q<=p+51500+i*2000/\
  Kn g h' ((b16, .inl ⟨aG M',5,false⟩)::(b3, .inl ⟨dT,5,false⟩)::(B,rdC s q)::(A++X'))) ⟨_,X5,M5,m5,rfl,o5,d5,n5,by omega,K8⟩ ?_
 clear K8 hq5 n5 d5 o5 m5 M5 X5 q5 h8 h7 h6 h5 hq d' o' hle hx76 hlt hi
 clear M' m' X' q h4 nxt i
 rintro i _ h4 nxt hi ⟨q,X',M',m',rfl,o',d',hle,hq,K4⟩ hnx
 refine⟨_,b3,0,b16,0,_,_,rfl,?_⟩
 by_cases hlt:i<c
 ·refine aL (by rw [decide_eq_true_eq];omega) ?_
  repeat' (refine kr_ ?_)
  refine LJ (A:=(b16, .inl ⟨aG M',5,false⟩)::(b3, .inl ⟨dT,5,false⟩)::A) (K4.perm (Bj _ _ _ _)) hb o' d' (by omega) hle (by omega) fun h5 q5 X5 M5 m5 i5 K5 o5 d5 hi5 hl5 hq5=>⟨_,_,_,_,_,_,rfl,?_⟩
  replace K5:=K5.perm (Bj _ _ _ _).symm
  clear K4
  refine vp (M':=M5) K5 (by((focus ((repeat first|exact .head|apply Upd.tail);done)))) rfl fun h6 K6=>?_
  clear K5
  have hdb:=d5.bads
  (refine kr_ ?_)
  refine Kn.al K6 fun b119 h7 K7 l7 hb7=>?_
  refine aaq (H:=_::_::_::A) (nd:=(i5:Nat)) o5 K7 (by omega) (.head _) fun s8 X8 h8 o8 KF=>?_
  have K8:=KF _ (by((focus ((repeat first|exact .head|apply Upd.tail);done))))
  simp only [List.cons_append]at K8
  rw [aw (by omega)]
  exact hnx hlt _ _ ⟨q5,X8,_,_,rfl,o8,(d5.addB _).more (by omega),by dsimp only;omega,by omega,K8⟩
 refine aA (by rw [decide_eq_false_iff_not];omega) ?_
 clear hnx
 refine kp_ ?_
 intro x132 h5 K5 _ _
 refine⟨_,rfl,?_⟩
 clear K4
 refine aq (fun J=> ∀h5 q X' M' m',MG X' M' m'->DM m' 400->0<m'.nodes.length->q<=p+60000->Kn g h5 ((b16, .inl ⟨aG M',5,false⟩)::(b3, .inl ⟨dT,5,false⟩)::(B,rdC s q)::(A++X'))->J h5)
  (fun h5 q X' M' m' o' d' hle hq K5=>?_) (fun J hJ=>?_)
 ·have hs:=o'.modelS (A:=_::_::_::A) (d'.small (by omega)) K5
  repeat' (refine kr_ ?_)
  refine cj hs (d'.small (by omega)) ⟨_,rfl,?_⟩
  refine ad (fun e=>?_) (fun e=>?_)
  ·refine vw (A:=(b3, .inl ⟨dT,5,false⟩)::(A++X')) K5.tl.sw hb (by omega) fun h6 q6 X6 M6 m6 K6 o6 d6 c6 n6 hq6=>⟨_,_,_,_,_,rfl,?_⟩
   replace K6:Kn g h6 ((b3, .inl ⟨dT,5,false⟩)::(B,rdC s q6)::((A++X')++X6)):=K6.sw
   refine EO (M:=M6) K6 (by((focus ((repeat first|exact .head|apply Upd.tail);done)))) fun h7 K7=>?_
   refine k h7 q6 X6 M6 m6 (K7.tl.subl ?_) o6 (d6.more (by omega)) c6 n6 (by omega)
   exact List.Sublist.cons_cons _ (List.Sublist.append_right (List.sublist_append_left _ _) _)
  ·repeat' (refine kr_ ?_)
   refine EO (M:=M') K5 (by((focus ((repeat first|exact .head|apply Upd.tail);done)))) fun h7 K7=>?_
   exact k h7 q X' M' m' K7.tl.tl o' d' (by simpa using e) hle (by omega)
 refine ad (fun e=>?_) (fun e=>hJ _ _ _ _ _ o' (d'.more (by omega)) hle (by omega) K5)
 repeat' (refine kr_ ?_)
 refine LJ (A:=(b16, .inl ⟨aG M',5,false⟩)::(b3, .inl ⟨dT,5,false⟩)::A) (K5.perm (Bj _ _ _ _)) hb o' d' (by omega) hle (by omega) fun h6 q6 X6 M6 m6 i6 K6 o6 d6 hi6 hl6 hq6=>⟨_,_,_,_,_,_,rfl,?_⟩
 replace K6:=K6.perm (Bj _ _ _ _).symm
 clear K5
 refine vp (M':=M6) K6 (by((focus ((repeat first|exact .head|apply Upd.tail);done)))) rfl fun h7 K7=>?_
 clear K6
 refine kp_ ?_
 intro x155 h8 K8 _ _
 refine⟨_,rfl,?_⟩
 clear K7
 refine aq (fun J2=> ∀(y:Int) h5 q X' M' m',MG X' M' m'->DM m' 330->0<m'.nodes.length->q<=p+60000->Kn g h5 ((b16, .inl ⟨aG M',5,false⟩)::(b3, .inl ⟨dT,5,false⟩)::(B,rdC s q)::(A++X'))->J2 y h5)
  (fun y h9 q9 X9 M9 m9 o9 d9 hle9 hq9 K9=>?_) (fun J2 hJ2=>?_)
 ·have hdh:=d9.holds
  (refine kr_ ?_)
  refine Kn.al K9 fun b119 h10 K10 l10 hb10=>?_
  refine Ua (H:=_::_::_::A) (nd:=y) o9 K10 (by omega) (.head _) fun s8 X8 h8 o8 KF=>?_
  have K11:=KF _ (by((focus ((repeat first|exact .head|apply Upd.tail);done))))
  simp only [List.cons_append]at K11
  exact hJ _ _ _ _ _ o8 ((d9.addH _).more (by omega)) (by dsimp only;omega) (by omega) K11
 refine ad (fun e=>?_) (fun e=>hJ2 _ _ _ _ _ _ o6 (d6.more (by omega)) (by omega) (by omega) K8)
 have hdn:=d6.nodes
 (refine kr_ ?_)
 refine cd ⟨_,_,rfl,?_⟩
 repeat' (refine kr_ ?_)
 refine Kn.al K8 fun b163 h9 K9 l9 hb9=>?_
 (refine kr_ ?_)
 refine mK (H:=_::_::_::A) (nd:=⟨1,(i6:Nat),0,0,0,0,cP 1,⟨#[]⟩⟩) o6 K9 (by omega) (.head _) fun s10 X10 h10 o10 KF=>?_
 have K10:=KF _ (by((focus ((repeat first|exact .head|apply Upd.tail);done))))
 simp only [List.cons_append]at K10
 clear K9 K8
 repeat' (refine kr_ ?_)
 have dA:=d6.addN (n:=⟨1,(i6:Nat),0,0,0,0,cP 1,⟨#[]⟩⟩) (pd (by omega) (by omega)) (show (0:Nat)<=100 by omega)
 exact hJ2 _ _ _ _ _ _ o10 (dA.more (by omega)) (by simp) (by omega) K10
theorem Z3 : ∀(vs xs ys:List Value) (o:Nat),ce (xs++ys) (xs.length+o) vs=xs++ce ys o vs:=by
 intro vs
 induction vs with
 |nil=>intro xs ys o;rfl
 |cons v vs ih=>intro xs ys o;rw [qB,qB,List.set_append_right (xs.length+o) v (by omega),Nat.add_sub_cancel_left,Nat.add_assoc,ih]
theorem VD : ∀(vs xs ys:List Value) (o:Nat),o+vs.length<=xs.length->ce (xs++ys) o vs=ce xs o vs++ys:=by
 intro vs
 induction vs with
 |nil=>intro xs ys o _;rfl
 |cons v vs ih=>
  intro xs ys o h
  rw [List.length_cons]at h
  rw [qB,qB,List.set_append_left o v (by omega),ih _ _ _ (by rw [List.length_set];omega)]
theorem Wk {off:Nat} {vs:List Value} {n n':NodeP} (hv:ce (nodeCells n) off vs=nodeCells n') (ho:off+vs.length<=9): ∀{l:List NodeP} {i:Nat},l[i]?=some n->ce (l.flatMap nodeCells) (i*9+off) vs=(l.set i n').flatMap nodeCells:=by
 intro l
 induction l with
 |nil=>intro i h;simp at h
 |cons a l ih=>
  intro i h
  cases i with
  |zero=>
   have:a=n:=by simpa using h
   subst this
   rw [List.set_cons_zero,List.flatMap_cons,List.flatMap_cons,Nat.zero_mul,Nat.zero_add,VD _ _ _ _ (by show _<=9;exact ho),hv]
  |succ i=>
   have h':l[i]?=some n:=by simpa using h
   rw [List.set_cons_succ,List.flatMap_cons,List.flatMap_cons,show (i+1)*9+off=(nodeCells a).length+(i*9+off) by show _=9+_;omega,Z3,ih h']
theorem Upd.appL {L L':List (Nat×Blk)} {b:Nat} {x y:Blk} (u:Upd L b x y L'): ∀A:List (Nat×Blk),Upd (A++L) b x y (A++L')
 | []=>u
 |_::A=> .tail (u.appL A)
theorem uK {g h:Hp} {A X:List (Nat×Blk)} {M:MSl} {m:ah} {i off k:Nat} {n n':NodeP} {vs:List Value} {F:Nat->Nat} {J:Hp->Prop} (o:MG X M m) (K:Kn g h (A++X)) (hni:m.nodes[i]?=some n)
  (hv:ce (nodeCells n) off vs=nodeCells n') (hk:vs.length=k) (ho:off+k<=9) (hF:F 0=i*9+off)
  (J': ∀X' h',MG X' M {m with nodes:=m.nodes.set i n'}->Kn g h' (A++X')->J h'):
  ∃(b p:Nat),M.no.a=some ⟨b,p,none⟩/\(0:Int)<=(i:Nat)/\((i:Nat):Int)<((M.no.n:Nat):Int)/\ ∃(cs:List Value) (z:Nat),h b=some (.inl ⟨cs,z,false⟩)/\F p+k<=List.length cs/\cJ (h.row b (ce cs (F p) vs) z) fun h'=>J h':=by
 have hi:=get_lt hni
 have hl:=o.lens
 obtain⟨XN,XI,XE,XB,XH,rfl,a,b',c,d,e⟩:=o
 rcases a.2.2 with ⟨_,h0,_⟩|⟨b,ha,rfl⟩
 ·rw [h0]at hl;have:=hl.1;dsimp only at this;omega
 subst hk
 have hc:ce (m.nodes.flatMap nodeCells) (F 0) vs=(m.nodes.set i n').flatMap nodeCells:=by rw [hF];exact Wk hv ho hni
 refine⟨b,0,ha,by omega,by omega,?_⟩
 refine Kn.wr (cs:=m.nodes.flatMap nodeCells) (z:=M.no.c*9) (o:=F 0) (vs:=vs) K (L':=A++([(b, .inl ⟨(m.nodes.set i n').flatMap nodeCells,M.no.c*9,false⟩)]++(XI++(XE++(XB++(XH++ [])))))) (by rw [hc];exact Upd.appL .head A) (by rw [hF,a.1];omega) fun h' K' _=>?_
 exact J' _ h' ⟨_,XI,XE,XB,XH,rfl,⟨by rw [cf (m:=9) (fun _=>rfl),List.length_set];omega,a.2.1, .inr ⟨b,ha,rfl⟩⟩,b',c,d,e⟩ K'
structure DZ (m:ah) (N:Nat):Prop where
 nodes:m.nodes.length<=N
 names: ∀n∈m.nodes,n.name.size<=100
 inits:m.inits.length<=N
 nexts:m.nexts.length<=N
 bads:m.bads.length<=N
 holds:m.holds.length<=N
theorem DM.z {m:ah} {N:Nat} (d:DM m N):DZ m N:=⟨d.nodes,d.names,d.inits,d.nexts,d.bads,d.holds⟩
theorem DZ.small {m:ah} {N:Nat} (d:DZ m N) (hN:N<=100000):bM m:=
 ⟨by have:=d.nodes;omega,by have:=d.inits;omega,by have:=d.nexts;omega,by have:=d.bads;omega,by have:=d.holds;omega,fun n hn=>by have:=d.names n hn;omega⟩
theorem DZ.more {m:ah} {N N':Nat} (d:DZ m N) (h:N<=N'):DZ m N':=
 ⟨Nat.le_trans d.nodes h,d.names,Nat.le_trans d.inits h,Nat.le_trans d.nexts h,Nat.le_trans d.bads h,Nat.le_trans d.holds h⟩
theorem DZ.addN {m:ah} {N:Nat} (d:DZ m N) {n:NodeP} (h2:n.name.size<=100):DZ {m with nodes:=m.nodes++ [n]} (N+1):=
 ⟨by have:=d.nodes;simp;omega,fun x hx=>by rcases List.mem_append.1 hx with hx|hx;exact d.names x hx;rw [List.mem_singleton.1 hx];exact h2,
  Nat.le_succ_of_le d.inits,Nat.le_succ_of_le d.nexts,Nat.le_succ_of_le d.bads,Nat.le_succ_of_le d.holds⟩
theorem DZ.set {m:ah} {N i:Nat} (d:DZ m N) {n:NodeP} (h2:n.name.size<=100):DZ {m with nodes:=m.nodes.set i n} N:=
 ⟨by have:=d.nodes;simp;omega,fun x hx=>by rcases List.mem_or_eq_of_mem_set hx with hx|rfl;exact d.names x hx;exact h2,d.inits,d.nexts,d.bads,d.holds⟩
theorem DZ.addI {m:ah} {N:Nat} (d:DZ m N) (x:BindP):DZ {m with inits:=m.inits++ [x]} (N+1):=
 ⟨Nat.le_succ_of_le d.nodes,d.names,by have:=d.inits;simp;omega,Nat.le_succ_of_le d.nexts,Nat.le_succ_of_le d.bads,Nat.le_succ_of_le d.holds⟩
theorem DZ.addE {m:ah} {N:Nat} (d:DZ m N) (x:BindP):DZ {m with nexts:=m.nexts++ [x]} (N+1):=
 ⟨Nat.le_succ_of_le d.nodes,d.names,Nat.le_succ_of_le d.inits,by have:=d.nexts;simp;omega,Nat.le_succ_of_le d.bads,Nat.le_succ_of_le d.holds⟩
theorem DZ.addB {m:ah} {N:Nat} (d:DZ m N) (xs:List Int) (hx:xs.length<=N):DZ {m with bads:=m.bads++xs} (2*N):=
 ⟨by have:=d.nodes;dsimp only;omega,d.names,by have:=d.inits;dsimp only;omega,by have:=d.nexts;dsimp only;omega,by have:=d.bads;simp;omega,by have:=d.holds;dsimp only;omega⟩
theorem DZ.addH {m:ah} {N:Nat} (d:DZ m N) (x:Int):DZ {m with holds:=m.holds++ [x]} (N+1):=
 ⟨Nat.le_succ_of_le d.nodes,d.names,Nat.le_succ_of_le d.inits,Nat.le_succ_of_le d.nexts,Nat.le_succ_of_le d.bads,by have:=d.holds;simp;omega⟩
theorem MG.appBs {g h:Hp} {A X:List (Nat×Blk)} {M:MSl} {m:ah} {xs:List Int} {src:Option Addr} {C:Option Addr->Nat->Nat->Hp->Prop} (o:MG X M m) (K:Kn g h (A++X)) (hm:m.bads.length+xs.length<=100000) (hx:0<xs.length)
  (f: ∃b p,src=some ⟨b,p,none⟩/\ir h b p (xs.map I))
  (k: ∀s' X' h',MG X' {M with bad:=s'} {m with bads:=m.bads++xs}->Kn g h' (A++X')->C s'.a s'.n s'.c h'):cm h M.bad.a M.bad.n M.bad.c src xs.length 1 8 C:=by
 have hl:=o.lens
 obtain⟨XN,XI,XE,XB,XH,rfl,a,b',c,d,e⟩:=o
 have sw: ∀Z:List (Nat×Blk),A++(XN++(XI++(XE++(Z++(XH++ [])))))=(A++(XN++XI))++(XE++(Z++(XH++ []))):=fun Z=>by simp
 rw [sw]at K
 refine Kn.growIn2 (news:=xs.map I) K d hx (by omega) (by omega) f (by simp) (List.all_eq_true.2 fun v hv=>by obtain⟨y,_,rfl⟩:=List.mem_map.1 hv;rfl) fun s' X' h' hn a' K' _=>?_
 rw [<-sw]at K'
 exact k s' _ h' ⟨XN,XI,XE,X',XH,rfl,a,b',c,by rw [List.map_append];exact a',e⟩ K'
abbrev afv :List Value:= [.string ⟨#[120]⟩, .string ⟨#[]⟩, .string ⟨#[88]⟩, .string ⟨#[116,111,111,108,111,110,103,110,97,109,101]⟩]
theorem ae4 {i:Nat} (h:i<4): ∃s:ByteArray,afv[i]?=some (.string s)/\s.size<=100:=by
 rcases i with _|_|_|_|i
 ·exact⟨_,rfl,by decide⟩
 ·exact⟨_,rfl,by decide⟩
 ·exact⟨_,rfl,by decide⟩
 ·exact⟨_,rfl,by decide⟩
 ·omega
theorem abu {h:Hp} {A X:List (Nat×Blk)} {g:Hp} {M:MSl} {m:ah} (o:MG X M m) (K:Kn g h (A++X)) (hm:m.bads.length<=100000) (hp:0<m.bads.length): ∃b p,M.bad.a=some ⟨b,p,none⟩/\ir h b p (m.bads.map I):=by
 have hl:=o.lens
 obtain⟨XN,XI,XE,XB,XH,rfl,a,b',c,d,e⟩:=o
 have:=(d.slcOf (h:=h) (by omega) fun x hx=>K.mem x (List.mem_append_right _ (by simp [hx])))
 exact SlC.get this (by omega)
theorem R1 {g h:Hp} {H X:List (Nat×Blk)} {b:Nat} {M:MSl} {m:ah} {N:Nat} {J:Hp->Prop} (o:MG X M m) (d:DZ m N) (hN:N<=10000) (K:Kn g h (H++X)) (hb:(b, .inl ⟨aG M,5,false⟩)∈H)
  (k: ∀s' X' h' m',MG X' {M with bad:=s'} m'->DZ m' (2*N)->(∀H',Upd H b (.inl ⟨aG M,5,false⟩) (.inl ⟨aG {M with bad:=s'},5,false⟩) H'->Kn g h' (H'++X'))->J h'):
  cm h M.bad.a M.bad.n M.bad.c M.bad.a M.bad.n 1 8 fun a n c h95=> ∃(cs:List Value) (z:Nat),h95 b=some (.inl ⟨cs,z,false⟩)/\3+1<=List.length cs/\cJ (h95.row b (ce cs 3 [.slice a n c]) z) fun h'=>J h':=by
 have hl:=o.lens
 have hd:=d.bads
 by_cases h0:m.bads.length=0
 ·have hc:M.bad.n<=M.bad.c:=by obtain⟨_,_,_,_,_,_,_,_,_,d',_⟩:=o;exact d'.2.1
  refine .inl ⟨by omega,hc,?_⟩
  have f:=K.at (List.mem_append_left _ hb)
  exact⟨_,_,f,by simp,k M.bad X _ m o (d.more (by omega)) fun H' u=>K.set (u.app (X:=X))⟩
 have e:M.bad.n=m.bads.length:=by omega
 have key:=MG.appBs (xs:=m.bads) (C:=fun a n c h95=> ∃(cs:List Value) (z:Nat),h95 b=some (.inl ⟨cs,z,false⟩)/\3+1<=List.length cs/\cJ (h95.row b (ce cs 3 [.slice a n c]) z) fun h'=>J h') o K (by omega) (by omega) (abu o K (by omega) (by omega)) fun s' X' h7 o' K7=>by
  have f:=K7.at (List.mem_append_left _ hb)
  exact⟨_,_,f,by simp,k s' X' _ _ o' (d.addB _ d.bads) fun H' u=>K7.set (u.app (X:=X'))⟩
 rw [<-e]at key
 exact key
set_option maxHeartbeats 4000000 in
theorem FD {g h:Hp} {A:List (Nat×Blk)} {B p:Nat} {s:Sl} {bs:List Nat} {R:Value->Hp->Prop} (K:Kn g h ((B,rdC s p)::A)) (hb:ByteS g s bs) (hp:p<=10000)
  (k: ∀h' p' X' M' m',Kn g h' ((B,rdC s p')::(A++X'))->MG X' M' m'->DZ m' 4000->p'<=p+200000->R (aN M') h'):
  jd #[.pointer (some ⟨B,0,none⟩)] h R:=by
 apply BF
 refine uf_ ?_
 refine Kn.al K fun b3 h1 K1 l1 hb3=>?_
 clear K l1 hb3
 refine Io (A:=(b3, .inl ⟨dT,5,false⟩)::A) K1.sw hb hp fun h2 p2 X2 M2 m2 K2 o2 d2 c2 n2 hp2=>⟨_,_,_,_,_,rfl,?_⟩
 replace K2:Kn g h2 ((b3, .inl ⟨dT,5,false⟩)::(B,rdC s p2)::(A++X2)):=K2.sw
 refine Kn.al K2 fun b13 h3 K3 l3 hb13=>?_
 clear K2 l3 hb13
 refine vp (M':=M2) K3 (by((focus ((repeat first|exact .head|apply Upd.tail);done)))) rfl fun h4 K4=>?_
 clear K3
 refine kp_ ?_
 intro x21 h5 K5 _ _
 refine⟨_,rfl,?_⟩
 clear K4
 refine aq (fun J=> ∀h5 q X M m,MG X M m->DZ m 400->0<m.nodes.length->q<=p+100002->Kn g h5 ((b13, .inl ⟨aG M,5,false⟩)::(b3, .inl ⟨dT,5,false⟩)::(B,rdC s q)::(A++X))->J h5)
  (fun hz q X M m o d hne hq Kz=>?_) (fun J hJ=>?_)
 rotate_left
 ·refine ad (fun _=>?_) (fun _=>hJ h5 _ X2 M2 m2 o2 d2.z n2 (by omega) K5)
  refine vw (A:=(b13, .inl ⟨aG M2,5,false⟩)::(b3, .inl ⟨dT,5,false⟩)::(A++X2)) (K5.perm (Bj _ _ _ _)) hb (by omega) fun h6 q6 X6 M6 m6 K6 o6 d6 c6 n6 hq6=>⟨_,_,_,_,_,rfl,?_⟩
  have K6':Kn g h6 ((b13, .inl ⟨aG M2,5,false⟩)::(b3, .inl ⟨dT,5,false⟩)::(B,rdC s q6)::((A++X2)++X6)):=K6.perm (Bj _ _ _ _).symm
  clear K5 K6
  refine vp (M':=M6) K6' (by((focus ((repeat first|exact .head|apply Upd.tail);done)))) rfl fun h7 K7=>?_
  refine hJ h7 q6 X6 M6 m6 o6 (d6.z.more (by omega)) n6 (by omega) (K7.subl ?_)
  exact List.Sublist.cons_cons _ (List.Sublist.cons_cons _ (List.Sublist.cons_cons _ (List.Sublist.append_right (List.sublist_append_left _ _) _)))
 clear K5 K1 o2 d2 c2 n2 hp2 m2 M2 X2 p2
 have hl:=o.lens
 have hnl:=d.nodes
 refine kp_ ?_
 intro x38 h6 K6 _ _
 refine⟨_,rfl,?_⟩
 clear Kz
 refine ad (fun _=>?_) (fun _=>?_)
 ·repeat' (refine kr_ ?_)
  refine EO (M:=M) K6 (by((focus ((repeat first|exact .head|apply Upd.tail);done)))) fun h7 K7=>?_
  exact k h7 _ X M m K7.tl.tl o (d.more (by omega)) (by omega)
 repeat' (refine kr_ ?_)
 refine kp_ ?_
 intro a h7 K7 ha _
 refine⟨_,rfl,?_⟩
 replace ha:a<m.nodes.length:=by have:=ha (by omega);omega
 clear K6
 refine kp_ ?_
 intro x62 h8 K8 _ _
 refine⟨_,rfl,?_⟩
 clear K7
 refine aq (fun J=> ∀h5 q X M m,MG X M m->DZ m 4000->q<=p+200000->Kn g h5 ((b13, .inl ⟨aG M,5,false⟩)::(b3, .inl ⟨dT,5,false⟩)::(B,rdC s q)::(A++X))->J b3 0 b13 0 h5)
  (fun h5 q X M m o d hq K5=>?_) (fun J hJ=>?_)
 ·repeat' (refine kr_ ?_)
  refine EO (M:=M) K5 (by((focus ((repeat first|exact .head|apply Upd.tail);done)))) fun h7 K7=>?_
  exact k h7 _ X M m K7.tl.tl o d (by omega)
 clear k
 obtain⟨n,hna⟩: ∃n,m.nodes[a]?=some n:=⟨_,List.getElem?_eq_getElem ha⟩
 have hnm:=d.names n (List.mem_of_getElem? hna)
 have dset: ∀n':NodeP,n'.name.size<=100->DZ {m with nodes:=m.nodes.set a n'} 4000:=fun n' h=>(d.set h).more (by omega)
 refine ad (fun _=>?_) (fun _=>ad (fun _=>?_) (fun _=>ad (fun _=>?_) (fun _=>ad (fun _=>?_) (fun _=>ad (fun _=>?_) (fun _=>ad (fun _=>?_) (fun _=>ad (fun _=>?_) (fun _=>ad (fun _=>?_) (fun _=>ad (fun _=>?_) (fun _=>ad (fun _=>?_) (fun _=>ad (fun _=>?_) (fun _=>ad (fun _=>?_) (fun _=>ad (fun _=>?_) (fun _=>ad (fun _=>?_) (fun _=>?_))))))))))))))
 ·(refine kr_ ?_)
  refine kp_ ?_
  intro x h9 K9 _ _
  refine⟨_,rfl,?_⟩
  (refine kr_ ?_)
  refine uK (A:=_::_::_::A) (n':={n with kind:=W ((x:Int)-1)}) (off:=0) o K9 hna rfl rfl (by omega) (by rw [Int.toNat_natCast];omega) fun X' h10 o' K10=>?_
  exact hJ h10 _ X' M _ o' (dset _ hnm) (by omega) K10
 ·(refine kr_ ?_)
  (refine kr_ ?_)
  rw [bQ (by omega) (by omega)]
  refine kp_ ?_
  intro x h9 K9 _ _
  refine⟨_,rfl,?_⟩
  (refine kr_ ?_)
  refine uK (A:=_::_::_::A) (n':={n with a:=W ((x:Int)-1)}) (off:=1) o K9 hna rfl rfl (by omega) (by rw [Int.toNat_natCast];omega) fun X' h10 o' K10=>?_
  exact hJ h10 _ X' M _ o' (dset _ hnm) (by omega) K10
 ·(refine kr_ ?_)
  refine kp_ ?_
  intro x h9 K9 _ _
  refine⟨_,rfl,?_⟩
  (refine kr_ ?_)
  refine uK (A:=_::_::_::A) (n':={n with n:=W ((x:Int)-2)}) (off:=4) o K9 hna rfl rfl (by omega) (by rw [Int.toNat_natCast];omega) fun X' h10 o' K10=>?_
  exact hJ h10 _ X' M _ o' (dset _ hnm) (by omega) K10
 ·(refine kr_ ?_)
  refine kp_ ?_
  intro x h9 K9 _ _
  refine⟨_,rfl,?_⟩
  (refine kr_ ?_)
  refine uK (A:=_::_::_::A) (n':={n with sort:=⟨n.sort.idx,W ((x:Int)-1)⟩}) (off:=7) o K9 hna rfl rfl (by omega) (by rw [Int.toNat_natCast];omega) fun X' h10 o' K10=>?_
  exact hJ h10 _ X' M _ o' (dset _ hnm) (by omega) K10
 ·(refine kr_ ?_)
  refine⟨?_,?_⟩
  ·refine Kn.al K8 fun b111 h9 K9 l9 hb9=>?_
   (refine kr_ ?_)
   refine kp_ ?_
   intro x h10 K10 hx _
   refine⟨_,rfl,?_⟩
   replace hx:x<4:=by have:=hx (by omega);omega
   obtain⟨t,ht,hz⟩:=ae4 hx
   repeat' (refine kr_ ?_)
   refine⟨by omega,by omega,t,by rw [av (K10.at (.head _)),Int.toNat_natCast,Nat.zero_add,Nat.mul_one];exact ht,?_⟩
   refine uK (A:=_::_::_::_::A) (n':={n with name:=t}) (off:=8) o K10 hna rfl rfl (by omega) (by rw [Int.toNat_natCast];omega) fun X' h11 o' K11=>?_
   exact hJ h11 _ X' M _ o' (dset _ hz) (by omega) K11.tl
  ·refine kp_ ?_
   intro x h9 K9 hx _
   refine⟨_,rfl,?_⟩
   replace hx:x<4:=by have:=hx (by omega);omega
   obtain⟨t,ht,hz⟩:=ae4 hx
   (refine kr_ ?_)
   refine Kn.al K9 fun b111 h10 K10 l10 hb10=>?_
   repeat' (refine kr_ ?_)
   refine⟨by omega,by omega,t,by rw [av (K10.at (.head _)),Int.toNat_natCast,Nat.zero_add,Nat.mul_one];exact ht,?_⟩
   refine uK (A:=_::_::_::_::A) (n':={n with name:=t}) (off:=8) o K10 hna rfl rfl (by omega) (by rw [Int.toNat_natCast];omega) fun X' h11 o' K11=>?_
   exact hJ h11 _ X' M _ o' (dset _ hz) (by omega) K11.tl
 ·(refine kr_ ?_)
  refine cd ⟨_,_,rfl,?_⟩
  (refine kr_ ?_)
  obtain⟨n0,hn0⟩: ∃n,m.nodes[0]?=some n:=⟨_,List.getElem?_eq_getElem hne⟩
  refine uK (A:=_::_::_::A) (i:=0) (n':={n0 with sort:=cP 9}) (off:=6) o K8 hn0 rfl rfl (by omega) rfl fun X' h10 o' K10=>?_
  exact hJ h10 _ X' M _ o' ((DZ.set (i:=0) (n:={n0 with sort:=cP 9}) d (d.names n0 (List.mem_of_getElem? hn0))).more (by omega)) (by omega) K10
 ·have hdi:=d.inits
  (refine kr_ ?_)
  refine Kn.al K8 fun b9 h9 K9 l9 hb9=>?_
  refine Tc (H:=_::_::_::A) (nd:=⟨0,(a:Nat)⟩) o K9 (by omega) (.head _) fun s' X' h10 o' KF=>?_
  have K10:=KF _ (by((focus ((repeat first|exact .head|apply Upd.tail);done))))
  simp only [List.cons_append]at K10
  exact hJ h10 _ X' _ _ o' ((d.addI _).more (by omega)) (by omega) K10
 ·have hde:=d.nexts
  (refine kr_ ?_)
  (refine kr_ ?_)
  refine kp_ ?_
  intro x h9 K9 _ _
  refine⟨_,rfl,?_⟩
  (refine kr_ ?_)
  refine Kn.al K9 fun b9 h10 K10 l10 hb10=>?_
  (refine kr_ ?_)
  refine Ub (H:=_::_::_::A) (nd:=⟨(x:Nat),(a:Nat)⟩) o K10 (by omega) (.head _) fun s' X' h11 o' KF=>?_
  have K11:=KF _ (by((focus ((repeat first|exact .head|apply Upd.tail);done))))
  simp only [List.cons_append]at K11
  exact hJ h11 _ X' _ _ o' ((d.addE _).more (by omega)) (by omega) K11
 ·have hdb:=d.bads
  (refine kr_ ?_)
  (refine kr_ ?_)
  rw [bQ (by omega) (by omega)]
  refine kp_ ?_
  intro x h9 K9 _ _
  refine⟨_,rfl,?_⟩
  (refine kr_ ?_)
  refine Kn.al K9 fun b9 h10 K10 l10 hb10=>?_
  (refine kr_ ?_)
  refine aaq (H:=_::_::_::A) (nd:=W ((x:Int)-1)) o K10 (by omega) (.head _) fun s' X' h11 o' KF=>?_
  have K11:=KF _ (by((focus ((repeat first|exact .head|apply Upd.tail);done))))
  simp only [List.cons_append]at K11
  exact hJ h11 _ X' _ _ o' ((d.addB [_] (by simp)).more (by omega)) (by omega) K11
 ·have hdh:=d.holds
  (refine kr_ ?_)
  refine Kn.al K8 fun b9 h9 K9 l9 hb9=>?_
  refine Ua (H:=_::_::_::A) (nd:=(a:Nat)) o K9 (by omega) (.head _) fun s' X' h10 o' KF=>?_
  have K10:=KF _ (by((focus ((repeat first|exact .head|apply Upd.tail);done))))
  simp only [List.cons_append]at K10
  exact hJ h10 _ X' _ _ o' ((d.addH _).more (by omega)) (by omega) K10
 ·(refine kr_ ?_)
  (refine kr_ ?_)
  refine R1 (H:=_::_::_::A) o d (by omega) K8 (.head _) fun s' X' h9 m' o' d' KF=>?_
  have K9:=KF _ (by((focus ((repeat first|exact .head|apply Upd.tail);done))))
  simp only [List.cons_append]at K9
  clear KF K8
  (refine kr_ ?_)
  (refine kr_ ?_)
  refine R1 (H:=_::_::_::A) o' d' (by omega) K9 (.head _) fun s2 X2 h10 m2 o2 d2 KF=>?_
  have K10:=KF _ (by((focus ((repeat first|exact .head|apply Upd.tail);done))))
  simp only [List.cons_append]at K10
  clear KF K9
  (refine kr_ ?_)
  (refine kr_ ?_)
  refine R1 (H:=_::_::_::A) o2 d2 (by omega) K10 (.head _) fun s3 X3 h11 m3 o3 d3 KF=>?_
  have K11:=KF _ (by((focus ((repeat first|exact .head|apply Upd.tail);done))))
  simp only [List.cons_append]at K11
  exact hJ h11 _ X3 _ _ o3 (d3.more (by omega)) (by omega) K11
 ·refine ar 62 (fun i vs h'=> ∃q X M m',vs= [.pointer (some ⟨B,0,none⟩), .pointer (some ⟨b3,0,none⟩), .pointer (some ⟨b13,0,none⟩)]/\MG X M m'/\DZ m' (400+i)/\m'.nodes.length=m.nodes.length+i/\q<=p+100010+i/\
   Kn g h' ((b13, .inl ⟨aG M,5,false⟩)::(b3, .inl ⟨dT,5,false⟩)::(B,rdC s q)::(A++X))) ⟨_,X,M,m,rfl,o,d,rfl,by omega,K8⟩ ?_
  clear K8
  rintro i _ h9 nxt hi ⟨q',X',M',m',rfl,o',d',hl',hq',K9⟩ hnx
  refine⟨_,b3,0,b13,0,rfl,?_⟩
  have hn':=o'.lens
  (refine kr_ ?_)
  refine kp_ ?_
  intro x h10 K10 hx _
  refine⟨_,rfl,?_⟩
  replace hx:x<2:=by have:=hx (by omega);omega
  (refine kr_ ?_)
  rw [bQ (by omega) (by omega)]
  refine ad (fun e=>?_) (fun e=>hJ h10 _ X' M' m' o' (d'.more (by omega)) (by omega) K10)
  have e:=of_decide_eq_true e
  clear K9
  (refine kr_ ?_)
  refine cd ⟨_,_,rfl,?_⟩
  (refine kr_ ?_)
  refine Kn.al K10 fun b9 h11 K11 l11 hb11=>?_
  (refine kr_ ?_)
  refine mK (H:=_::_::_::A) (nd:=⟨34,0,0,0,0,0,cP 3,⟨#[]⟩⟩) o' K11 (by omega) (.head _) fun s' X3 h12 o3 KF=>?_
  have K12:=KF _ (by((focus ((repeat first|exact .head|apply Upd.tail);done))))
  simp only [List.cons_append]at K12
  exact hnx (by omega) _ _ ⟨_,X3,_,_,rfl,o3,d'.addN (n:=⟨34,0,0,0,0,0,cP 3,⟨#[]⟩⟩) (show (0:Nat)<=100 by omega),by simp;omega,by omega,K12⟩
 ·(refine kr_ ?_)
  refine kp_ ?_
  intro x h9 K9 _ _
  refine⟨_,rfl,?_⟩
  (refine kr_ ?_)
  refine uK (A:=_::_::_::A) (n':={n with sort:=⟨(x:Nat),n.sort.wid⟩}) (off:=6) o K9 hna rfl rfl (by omega) (by rw [Int.toNat_natCast];omega) fun X' h10 o' K10=>?_
  exact hJ h10 _ X' M _ o' (dset _ hnm) (by omega) K10
 ·(refine kr_ ?_)
  refine cd ⟨_,_,rfl,?_⟩
  (refine kr_ ?_)
  refine Kn.al K8 fun b9 h11 K11 l11 hb11=>?_
  (refine kr_ ?_)
  refine mK (H:=_::_::_::A) (nd:=⟨35,0,0,0,0,0,cP 4,⟨#[119,105,100,101]⟩⟩) o K11 (by omega) (.head _) fun s' X3 h12 o3 KF=>?_
  have K12:=KF _ (by((focus ((repeat first|exact .head|apply Upd.tail);done))))
  simp only [List.cons_append]at K12
  exact hJ h12 _ X3 _ _ o3 ((d.addN (n:=⟨35,0,0,0,0,0,cP 4,⟨#[119,105,100,101]⟩⟩) (show (4:Nat)<=100 by omega)).more (by omega)) (by omega) K12
 ·exact hJ h8 _ X M m o (d.more (by omega)) (by omega) K8
theorem ur {h:Hp} {M:MSl} {m:ah} {R:Value->Hp->Prop} (hs:aM h M m) (hm:bM m) (hc:aD m=0)
  (k:R (.tuple #[I (am m.nodes 36),I (am m.nodes 35)]) h):jU #[aN M] h R:=by
 refine ACalls.drop (vT ?_)
 refine uf_ ?_
 have K0:=Kn.nil h
 (with_reducible apply Kn.al);(assumption);(intro b7 h1 K1 l1 hb7)
 clear K0
 have hs1:=hs.mono K1.le
 repeat' (refine kr_ ?_)
 refine cj hs1 hm ⟨_,rfl,?_⟩
 refine aA (by rw [hc];rfl) ?_
 repeat' (refine kr_ ?_)
 refine ia hs1 hm ⟨_,rfl,?_⟩
 repeat' (refine kr_ ?_)
 refine ia hs1 hm ⟨_,rfl,?_⟩
 exact⟨h,K1.le,k⟩
theorem Dd {h:Hp} {M:MSl} {m:ah} {x:Int} {R:Value->Hp->Prop} (hs:aM h M m) (hm:bM m) (hc:aD m=0)
  (kf: ∀h',¬(0<=x/\x<(2^am m.nodes 36:Nat))->h.le h'->R (.tuple #[.slice none 0 0, .bool false]) h')
  (kt: ∀(c:Nat) out h',x=c->c<2^am m.nodes 36->h.le h'->IntSS h' out ((dR m.nodes (stP m) c).map VL)->R (.tuple #[Sl.v out, .bool true]) h'):ja #[aN M,I x] h R:=by
 apply yW
 refine uf_ ?_
 have g:=cA hc
 have n8:=g.n8
 have hp2:2^am m.nodes 36<=2^8:=Nat.pow_le_pow_right (by omega) n8
 have hp0:0<2^am m.nodes 36:=Nat.two_pow_pos _
 have K0:=Kn.nil h
 (with_reducible apply Kn.al);(assumption);(intro b8 h1 K1 l1 hb8)
 clear K0
 have hs1:=hs.mono K1.le
 refine aq (fun J=>J (!decide (0<=x/\x<=((2^am m.nodes 36:Nat):Int)-1)) h1) ?_ (fun J hJ=>?_)
 rotate_left
 ·repeat' (refine kr_ ?_)
  refine cj hs1 hm ⟨_,rfl,?_⟩
  refine aA (by rw [hc];rfl) ?_
  repeat' (refine kr_ ?_)
  refine ia hs1 hm ⟨_,rfl,?_⟩
  rw [cR (by omega),if_neg (by omega),ck (by omega),bQ (by omega) (by omega)]
  exact dM ⟨_,rfl,hJ⟩
 refine ad (fun e=>kf h1 (fun q=>by
  have e':decide (0<=x/\x<=((2^am m.nodes 36:Nat):Int)-1)=false:=by rw [Bool.not_eq_true']at e;exact e
  have:=of_decide_eq_false e'
  omega) K1.le) (fun e=>?_)
 have hx:0<=x/\x<(2^am m.nodes 36:Nat):=by
  have:decide (0<=x/\x<=((2^am m.nodes 36:Nat):Int)-1)=true:=by simpa using e
  have:=of_decide_eq_true this
  omega
 clear e kf
 obtain⟨c,rfl⟩: ∃c:Nat,x=c:=⟨x.toNat,by omega⟩
 repeat' (refine kr_ ?_)
 refine cC hs1 hm fun t h2 l2 it=>⟨_,rfl,?_⟩
 have K2:=K1.mono l2
 (refine kr_ ?_)
 refine eZ (hs1.mono l2) hm g.ok it (fun p hp=>lR hp) (fA g 36) (by omega) (by rw [ed g];omega) fun out h3 l3 io=>⟨_,rfl,?_⟩
 exact kt c out h3 rfl (by omega) (Hp.le_trans K2.le l3) io
theorem Dm {h:Hp} {M:MSl} {m:ah} {x:Int} {R:Value->Hp->Prop} (hs:aM h M m) (hm:bM m) (hc:aD m=0)
  (kf: ∀h',¬(0<=x/\x<(2^am m.nodes 35:Nat))->h.le h'->R (.tuple #[.slice none 0 0, .bool false]) h')
  (kt: ∀(c:Nat) out h',x=c->c<2^am m.nodes 35->h.le h'->IntSS h' out ((dR m.nodes (inP m) c).map VL)->R (.tuple #[Sl.v out, .bool true]) h'):jZ #[aN M,I x] h R:=by
 apply JD
 refine uf_ ?_
 have g:=cA hc
 have n8:=g.k5
 have hp2:2^am m.nodes 35<=2^5:=Nat.pow_le_pow_right (by omega) n8
 have hp0:0<2^am m.nodes 35:=Nat.two_pow_pos _
 have K0:=Kn.nil h
 (with_reducible apply Kn.al);(assumption);(intro b8 h1 K1 l1 hb8)
 clear K0
 have hs1:=hs.mono K1.le
 refine aq (fun J=>J (!decide (0<=x/\x<=((2^am m.nodes 35:Nat):Int)-1)) h1) ?_ (fun J hJ=>?_)
 rotate_left
 ·repeat' (refine kr_ ?_)
  refine cj hs1 hm ⟨_,rfl,?_⟩
  refine aA (by rw [hc];rfl) ?_
  repeat' (refine kr_ ?_)
  refine ia hs1 hm ⟨_,rfl,?_⟩
  rw [cR (by omega),if_neg (by omega),ck (by omega),bQ (by omega) (by omega)]
  exact dM ⟨_,rfl,hJ⟩
 refine ad (fun e=>kf h1 (fun q=>by
  have e':decide (0<=x/\x<=((2^am m.nodes 35:Nat):Int)-1)=false:=by rw [Bool.not_eq_true']at e;exact e
  have:=of_decide_eq_false e'
  omega) K1.le) (fun e=>?_)
 have hx:0<=x/\x<(2^am m.nodes 35:Nat):=by
  have:decide (0<=x/\x<=((2^am m.nodes 35:Nat):Int)-1)=true:=by simpa using e
  have:=of_decide_eq_true this
  omega
 clear e kf
 obtain⟨c,rfl⟩: ∃c:Nat,x=c:=⟨x.toNat,by omega⟩
 repeat' (refine kr_ ?_)
 refine cC hs1 hm fun t h2 l2 it=>⟨_,rfl,?_⟩
 have K2:=K1.mono l2
 (refine kr_ ?_)
 refine eZ (hs1.mono l2) hm g.ok it (fun p hp=>lR hp) (fA g 35) (by omega) (by rw [uX g];omega) fun out h3 l3 io=>⟨_,rfl,?_⟩
 exact kt c out h3 rfl (by omega) (Hp.le_trans K2.le l3) io
theorem pJ {α:Type} {l:List α} {p:α->Bool} {i:Nat} {x:α} (h:l[i]?=some x) (e:p x=false):l.all p=false:=by
 rw [Bool.eq_false_iff]
 intro q
 rw [List.all_eq_true.1 q x (List.mem_of_getElem? h)]at e;cases e
theorem jK {h:Hp} {M:MSl} {m:ah} {t:Sl} {vs:List (List Nat)} {R:Value->Hp->Prop} (hs:aM h M m) (hm:bM m) (hc:aD m=0)
  (hv:IntSS h t (vs.map VL)) (hf:jx m.nodes (inP m) vs) (k:R (.bool true) h):iW #[aN M,t.v] h R:=by
 refine ACalls.drop (Ee ?_)
 refine uf_ ?_
 have g:=cA hc
 refine ai fun b8 h1 hb8 l1 f8=>?_
 repeat' (refine ku_ ?_)
 refine cj (hs.up (by((focus ((repeat (first|exact Hp.le_refl _|assumption|(refine Hp.le_trans ?_ (by assumption))));done))))) hm ⟨_,rfl,aL (by rw [hc];rfl) ?_⟩
 repeat' (refine ku_ ?_)
 refine cC (hs.up (by((focus ((repeat (first|exact Hp.le_refl _|assumption|(refine Hp.le_trans ?_ (by assumption))));done))))) hm fun p h2 l2 i2=>⟨p,rfl,?_⟩
 repeat' (refine ku_ ?_)
 exact Fd (hs.up (by((focus ((repeat (first|exact Hp.le_refl _|assumption|(refine Hp.le_trans ?_ (by assumption))));done))))) hm g.ok i2 (bT g 35) (fA g 35) (hv.up (by((focus ((repeat (first|exact Hp.le_refl _|assumption|(refine Hp.le_trans ?_ (by assumption))));done))))) hf ⟨_,rfl,h,by((focus ((repeat (first|exact Hp.le_refl _|assumption|(refine Hp.le_trans ?_ (by assumption))));done))),k⟩
theorem j4 (m:ah) (ps:List Nat) (c:Nat):jx m.nodes ps (dR m.nodes ps c):=by rw [jI];exact Jm _ _ _
theorem Mn {l:List Nat} {i:Nat} {x:Nat} (h:l[i]?=some x):(VL l)[i]?=some (x:Int):=by unfold VL;rw [List.getElem?_map,h];rfl
theorem gv.out {h:Hp} {t:Sl} {vs:List (List Nat)} {X:List (Nat×Blk)} {s:Sl} {ts:List Sl} (e:gv h t vs) (he: ∀p,p<vs.length->0<(vs.getD p []).length) (o:bW X s 1 (ts.map Sl.v)) (m: ∀e∈X,h e.1=some e.2)
  (hts: ∀(j:Nat) (u:Sl),ts[j]?=some u-> ∃ws,(0<vs.length->0<ws.length)/\gv h u ws):gv (h.wo (X.map Prod.fst)) t vs:=by
 rcases o.2.2 with ⟨rfl,_,_⟩|⟨b,_,rfl⟩
 ·exact e.mono fun c x hc=>by simp [Hp.wo,hc]
 have hb:=m _ (.head _)
 have kp: ∀c,c≠b->(h.wo [b]) c=h c:=fun c hc=>by simp [Hp.wo,hc]
 refine⟨e.1,e.2.1,fun p hp=>?_⟩
 obtain⟨b',o',t',h1,h2,h3⟩:=e.2.2 p hp
 refine⟨b',o',t',h1,?_,h3.keepN hb (vW ts) kp⟩
 have hne:b'≠b:=by
  rintro rfl
  rw [av hb,List.getElem?_map,Option.map_eq_some_iff]at h2
  obtain⟨u,hu,hv⟩:=h2
  obtain⟨ws,hw,hpw⟩:=hts _ u hu
  obtain rfl:u=t':=by
   obtain⟨a1,a2,a3⟩:=u
   obtain⟨c1,c2,c3⟩:=t'
   cases hv;rfl
  obtain⟨b2,o2,u2,g1,g2,_⟩:=hpw.2.2 0 (hw (by omega))
  obtain⟨b3,o3,g3,g4,_⟩:=IntS.elt h3 (i:=0) (he p hp)
  rw [g1]at g3
  cases g3
  rw [g2]at g4
  cases g4
 unfold Hp.cell at h2⊢
 rw [show (Hp.wo h (List.map Prod.fst [(b,(Sum.inl ⟨ts.map Sl.v,s.c*1,false⟩:Blk))])) b'=h b' from kp b' hne]
 exact h2
theorem bW.one {X:List (Nat×Blk)} {s:Sl} {sz:Nat} {cs:List Value} (o:bW X s sz cs) (hn:s.n≠0): ∃b,s.a=some ⟨b,0,none⟩/\X= [(b, .inl ⟨cs,s.c*sz,false⟩)]:=by
 rcases o.2.2 with ⟨_,rfl,_⟩|h
 ·exact absurd rfl hn
 ·exact h
theorem Kn.ints {g h:Hp} {L:List (Nat×Blk)} {s:Sl} {b z:Nat} {ro:Bool} {xs:List Int} (K:Kn g h L) (m:(b, .inl ⟨xs.map I,z,ro⟩)∈L) (ha:s.a=some ⟨b,0,none⟩) (hn:xs.length=s.n) (hl:s.n<=1000000):IntS h s xs:=
 ⟨by omega,by rw [List.length_map,Nat.mul_one];exact hn, .inr ⟨b,0,ha,au (K.at m)⟩⟩
theorem Kn.cut {g h:Hp} {A L:List (Nat×Blk)} (K:Kn g h (A++L)): ∃g0,Kn g g0 A/\Kn g0 h L:=by
 have nd:=K.nd
 rw [List.map_append,List.nodup_append]at nd
 have KL:Kn g h L:=K.sub (fun e he=>List.mem_append_right _ he) nd.2.1
 refine⟨h.wo (L.map Prod.fst),⟨KL.leBase,fun e he=>?_,fun e he=>K.new e (List.mem_append_left _ he),nd.1⟩,KL.base⟩
 rw [uf fun hm=>nd.2.2 e.1 (List.mem_map.2 ⟨e,he,rfl⟩) e.1 hm rfl]
 exact K.mem e (List.mem_append_left _ he)
theorem RB {a:Nat} (h:a<=8):2^a<=256/\0<2^a:=⟨Nat.pow_le_pow_right (by omega) h,Nat.two_pow_pos _⟩
def xu (a:Nat):List Nat:=(List.range a).map (· +2)
theorem H1 {x a:Nat}:x∈xu a↔2<=x/\x<a+2:=by
 unfold xu
 rw [List.mem_map]
 constructor
 ·rintro ⟨y,hy,rfl⟩
  have:=List.mem_range.1 hy
  omega
 ·exact fun h=>⟨x-2,List.mem_range.2 (by omega),by omega⟩
theorem zO (a:Nat):(xu a).length=a:=by unfold xu;rw [List.length_map,List.length_range]
theorem Vs (a:Nat):xu (a+1)=xu a++ [a+2]:=by unfold xu;rw [List.range_succ,List.map_append];rfl
theorem PU {a b:Nat} (h:xu a=xu b):a=b:=by have:=congrArg List.length h;rwa [zO,zO]at this
inductive Ord (ns:List Nd):Nat->List Nat->List Nat->Prop
 |leaf {r:Nat} {d:List Nat}:r<2->Ord ns r d d
 |seen {r:Nat} {d:List Nat}:2<=r->r∈d->Ord ns r d d
 |node {r:Nat} {d d1 d2:List Nat} {nd:Nd}:2<=r->r∉d->ns[r-2]?=some nd->Ord ns nd.lo d d1->Ord ns nd.hi d1 d2->Ord ns r d (d2++ [r])
theorem Ord.stay {ns:List Nd} {r a:Nat} {o:List Nat} (h:Ord ns r (xu a) o) (hr:r<a+2):o=xu a:=by
 generalize hd:xu a=d at h
 cases h with
 |leaf=>rfl
 |seen=>rfl
 |node h2 hn=>
  subst hd
  exact absurd (H1.2 ⟨h2,hr⟩) hn
def HX (N:Nat) (ns:List Nd) (r:Nat):Nat:=if r<2 then N else match ns[r-2]? with|some nd=>nd.v|none=>0
def Wd (N:Nat) (ns:List Nd):Prop:= ∀(i:Nat) (nd:Nd),ns[i]?=some nd->nd.v<N/\nd.lo≠nd.hi/\nd.lo<i+2/\nd.hi<i+2/\nd.v<HX N ns nd.lo/\nd.v<HX N ns nd.hi/\ ∀j,j<i->ns[j]?≠some nd
theorem abP {ns ns2:List Nd} (p:ns<+:ns2) {i:Nat} {nd:Nd} (h:ns[i]?=some nd):ns2[i]?=some nd:=by
 obtain⟨r,rfl⟩:=p
 rw [List.getElem?_append_left (List.getElem?_eq_some_iff.1 h).1];exact h
theorem QH {ns ns2:List Nd} (p:ns<+:ns2) {i:Nat} (hi:i<ns.length):ns2[i]?=ns[i]?:=by
 obtain⟨r,rfl⟩:=p
 rw [List.getElem?_append_left hi]
theorem yG {N:Nat} {ns ns2:List Nd} (p:ns<+:ns2) {r:Nat} (hr:r<ns.length+2):HX N ns2 r=HX N ns r:=by
 unfold HX
 split
 ·rfl
 ·rw [QH p (by omega)]
theorem aat {ns:List Nd} {n:Nd} {i:Nat} (h:ns.idxOf? n=some i):ns[i]?=some n:=by
 simp only [List.idxOf?]at h
 obtain⟨hi,he,_⟩:=List.findIdx?_eq_some_iff_getElem.1 h
 rw [List.getElem?_eq_getElem hi]
 simp only [beq_iff_eq]at he
 rw [he]
theorem YL {ns:List Nd} {n:Nd} (h:ns.idxOf? n=none) (j:Nat):ns[j]?≠some n:=by
 intro e
 simp only [List.idxOf?,List.findIdx?_eq_none_iff]at h
 have:=h n (List.mem_of_getElem? e)
 simp at this
theorem adM (N:Nat): ∀(n:Nat) (f:Nat->Bool) (low:Nat) (ns:List Nd),low+n=N->Wd N ns->
  Wd N (mkD n f low ns).2/\(mkD n f low ns).1<(mkD n f low ns).2.length+2/\low<=HX N (mkD n f low ns).2 (mkD n f low ns).1/\
  (∀(i:Nat) (nd:Nd),ns.length<=i->(mkD n f low ns).2[i]?=some nd->low<=nd.v)/\ ∀ns2,(mkD n f low ns).2<+:ns2->Ord ns2 (mkD n f low ns).1 (xu ns.length) (xu (mkD n f low ns).2.length):=by
 intro n
 induction n with
 |zero=>
  intro f low ns hN hW
  have h2:(mkD 0 f low ns).1<2:=by simp only [mkD];split<;>omega
  refine⟨hW,by omega,?_,fun i nd hi h=>?_,fun ns2 _=> .leaf h2⟩
  ·unfold HX;rw [if_pos h2];omega
  ·have h:ns[i]?=some nd:=h
   rw [List.getElem?_eq_none hi]at h;cases h
 |succ n ih=>
  intro f low ns hN hW
  obtain⟨a1,a2,a3,a4,a5⟩:=ih (fun i=>f (2*i)) (low+1) ns (by omega) hW
  have p1:=z5 n (fun i=>f (2*i)) (low+1) ns
  simp only [mkD]
  generalize mkD n (fun i=>f (2*i)) (low+1) ns=r1 at*
  obtain⟨b1,b2,b3,b4,b5⟩:=ih (fun i=>f (2*i+1)) (low+1) r1.2 (by omega) a1
  have p2:=z5 n (fun i=>f (2*i+1)) (low+1) r1.2
  generalize mkD n (fun i=>f (2*i+1)) (low+1) r1.2=r2 at*
  have l1:=p1.length_le
  have l2:=p2.length_le
  have hnew: ∀(i:Nat) (nd:Nd),ns.length<=i->r2.2[i]?=some nd->low+1<=nd.v:=fun i nd hi h=>by
   rcases Nat.lt_or_ge i r1.2.length with h1|h1
   ·exact a4 i nd hi (by rw [<-QH p2 h1];exact h)
   ·exact b4 i nd h1 h
  split
  ·rename_i e
   refine⟨b1,b2,by omega,fun i nd hi h=>by have:=hnew i nd hi h;omega,fun ns2 p=>?_⟩
   have s1:=a5 ns2 (p2.trans p)
   have s2:=b5 ns2 p
   rw [<-e]at s2⊢
   have:=s2.stay (by omega)
   rw [this];exact s1
  ·rename_i e
   unfold jp
   cases hx:r2.2.idxOf? ⟨low,r1.1,r2.1⟩with
   |some i=>
    have hi:=aat hx
    have hil:=(List.getElem?_eq_some_iff.1 hi).1
    refine⟨b1,by dsimp only;omega,?_,fun i nd hi h=>by have:=hnew i nd hi h;omega,fun ns2 p=>?_⟩
    ·unfold HX
     dsimp only
     rw [if_neg (by omega),Nat.add_sub_cancel,hi];exact Nat.le_refl _
    ·dsimp only at p⊢
     have hlt:i<ns.length:=by
      rcases Nat.lt_or_ge i ns.length with h|h
      ·exact h
      ·have:=hnew i _ h hi
       dsimp only at this;omega
     obtain⟨_,_,w3,w4,_⟩:=b1 i _ hi
     dsimp only at w3 w4
     have s1:=PU ((a5 ns2 (p2.trans p)).stay (by omega))
     have s2:=PU ((b5 ns2 p).stay (by omega))
     rw [show r2.2.length=ns.length by omega]
     exact .seen (by omega) (H1.2 ⟨by omega,by omega⟩)
   |none=>
    have hno:=YL hx
    have pp:r2.2<+:r2.2++ [⟨low,r1.1,r2.1⟩]:=List.prefix_append _ _
    refine⟨fun i nd h=>?_,by simp,?_,fun i nd hi h=>?_,fun ns2 p=>?_⟩
    ·dsimp only at h⊢
     rcases Nat.lt_or_ge i r2.2.length with h1|h1
     ·rw [List.getElem?_append_left h1]at h
      obtain⟨w1,w2,w3,w4,w5,w6,w7⟩:=b1 i nd h
      refine⟨w1,w2,w3,w4,by rw [yG pp (by omega)];exact w5,by rw [yG pp (by omega)];exact w6,fun j hj=>?_⟩
      rw [List.getElem?_append_left (by omega)];exact w7 j hj
     ·have hl:=(List.getElem?_eq_some_iff.1 h).1
      rw [List.length_append,List.length_singleton]at hl
      obtain rfl:i=r2.2.length:=by omega
      rw [List.getElem?_append_right (Nat.le_refl _),Nat.sub_self]at h
      simp at h;subst h
      dsimp only
      refine⟨by omega,e,by omega,by omega,?_,?_,fun j hj=>?_⟩
      ·rw [yG pp (by omega),yG p2 a2];omega
      ·rw [yG pp b2];omega
      ·rw [List.getElem?_append_left hj];exact hno j
    ·unfold HX
     dsimp only
     rw [if_neg (by omega),Nat.add_sub_cancel,List.getElem?_append_right (Nat.le_refl _),Nat.sub_self]
     exact Nat.le_refl _
    ·dsimp only at h
     rcases Nat.lt_or_ge i r2.2.length with h1|h1
     ·rw [List.getElem?_append_left h1]at h
      have:=hnew i nd hi h;omega
     ·have hl:=(List.getElem?_eq_some_iff.1 h).1
      rw [List.length_append,List.length_singleton]at hl
      obtain rfl:i=r2.2.length:=by omega
      rw [List.getElem?_append_right (Nat.le_refl _),Nat.sub_self]at h
      simp at h;subst h
      exact Nat.le_refl _
    ·dsimp only at p⊢
     have p':=pp.trans p
     rw [List.length_append,List.length_singleton,Vs]
     refine .node (nd:=⟨low,r1.1,r2.1⟩) (by omega) (fun h=>by have:=H1.1 h;omega) ?_ (a5 ns2 (p2.trans p')) (b5 ns2 p')
     rw [Nat.add_sub_cancel]
     refine abP p ?_
     rw [List.getElem?_append_right (Nat.le_refl _),Nat.sub_self];rfl
theorem Y0 {n:Nat} {f:Nat->Bool} {r:Nat×List Nd} (h:qe n f=some r):Wd n r.2/\r.2.length<=600/\r.1<r.2.length+2/\Ord r.2 r.1 [] (xu r.2.length)/\ ∀c,c<2^n->Ev r.2 r.1 c (f c):=by
 unfold qe at h
 split at h
 ·cases h
 ·rename_i hl
  obtain rfl:=Option.some.inj h
  obtain⟨w1,w2,_,_,w5⟩:=adM n n f 0 [] (by omega) (fun i nd h=>by simp at h)
  refine⟨w1,by omega,w2,w5 _ (List.prefix_refl _),fun c hc=>?_⟩
  have:=SN n f 0 [] c
  rwa [Nat.pow_zero,Nat.div_one,Nat.mod_eq_of_lt hc]at this
theorem Kn.weak {g g0 h:Hp} {L:List (Nat×Blk)} (K:Kn g0 h L) (l:g.le g0):Kn g h L:=⟨Hp.le_trans l K.le,K.mem,fun e he=>aE l (K.new e he),K.nd⟩
theorem z7 {h:Hp} {s:Sl} {ns:List Nd} (e:SlC h s 3 (cQ ns)) {i:Nat} {nd:Nd} (hn:ns[i]?=some nd): ∃b o,s.a=some (Addr.mk b o none)/\(0:Int)<=(i:Nat)/\((i:Nat):Int)<(s.n:Int)/\
  Hp.cell h b (o+Int.toNat ((i:Nat):Int)*3)=some (I nd.v)/\Hp.cell h b ((o+Int.toNat ((i:Nat):Int)*3)+1)=some (I nd.lo)/\Hp.cell h b ((o+Int.toNat ((i:Nat):Int)*3)+2)=some (I nd.hi):=by
 have hi:=get_lt hn
 obtain⟨b,o,ha,c0,c1,c2⟩:=TW e hi
 have hl:=N2 e
 rw [List.getElem?_eq_getElem hi]at hn
 rw [Option.some.inj hn]at c0 c1 c2
 rw [Int.toNat_natCast]
 exact⟨b,o,ha,by omega,by omega,c0,c1,c2⟩
theorem Xu {r:Nat} (h:2<=r) (h2:r<=1000000):W ((r:Int)-2)=((r-2:Nat):Int):=by rw [bQ (by omega) (by omega)];omega
structure ZM (N:Nat) (ns:List Nd) (r:Nat) (f:Nat->Bool):Prop where
 wd:Wd N ns
 len:ns.length<=600
 root:r<ns.length+2
 ord:Ord ns r [] (xu ns.length)
 ev: ∀c,c<2^N->Ev ns r c (f c)
 vars:N<=13
theorem Dy {h:Hp} {N r:Nat} {x:Int} {s:Sl} {ns:List Nd} {R:Value->Hp->Prop} (hs:SlC h s 3 (cQ ns)) (hl:ns.length<=600) (hr:r<ns.length+2)
  (k:R (I (HX N ns r)) h):pm #[.agg #[I N,s.v,I x],I r] h R:=by
 refine ACalls.drop (Hh ?_)
 refine uf_ ?_
 (with_reducible apply Kn.al);(exact Kn.nil h);(intro b6 h1 K1 l1 hb6)
 unfold HX at k
 by_cases h2:r<2
 ·rw [if_pos h2]at k
  refine aL (decide_eq_true (by omega)) ?_
  repeat' (refine kr_ ?_)
  exact⟨h,K1.le,k⟩
 ·rw [if_neg h2]at k
  refine aA (decide_eq_false (by omega)) ?_
  repeat' (refine kr_ ?_)
  obtain⟨nd,hn⟩: ∃nd,ns[r-2]?=some nd:=⟨_,List.getElem?_eq_getElem (by omega)⟩
  rw [hn]at k
  obtain⟨b,o,ha,i0,i1,c0,_⟩:=z7 (hs.mono K1.le) hn
  rw [Xu (by omega) (by omega)]
  exact⟨b,o,ha,i0,i1,_,c0,h,K1.le,k⟩
theorem SY {h:Hp} {N r c:Nat} {s:Sl} {ns:List Nd} {bv:Bool} {R:Value->Hp->Prop} (hs:SlC h s 3 (cQ ns)) (hW:Wd N ns) (hN:N<=13) (hl:ns.length<=600) (hr:r<ns.length+2) (he:Ev ns r c bv)
  (k:R (.bool bv) h):yb #[.agg #[I N,s.v,I r],I c] h R:=by
 refine ACalls.drop (Nm ?_)
 refine uf_ ?_
 (with_reducible apply Kn.al);(exact Kn.nil h);(intro b6 h1 K1 l1 hb6)
 (refine kr_ ?_)
 refine mz r (fun q vs h'=>vs= [I c, .pointer (some ⟨b6,0,none⟩),I q]/\q<ns.length+2/\Ev ns q c bv/\Kn h h' [(b6, .inl ⟨[I N,s.v,I r],3,false⟩)]) ⟨rfl,hr,he,K1⟩ ?_
 clear K1 l1 hb6 h1 hr he
 rintro q _ h1 next ⟨rfl,hq,he,K1⟩ hnx
 refine⟨_,b6,0,_,rfl,?_⟩
 cases he with
 |no=>exact aA (decide_eq_false (by omega)) ⟨h,K1.le,k⟩
 |yes=>exact aA (decide_eq_false (by omega)) ⟨h,K1.le,k⟩
 | @node p _ nd _ hn he2=>
  obtain⟨w1,w2,w3,w4,_⟩:=hW p nd hn
  refine aL (decide_eq_true (by omega)) ?_
  (refine kr_ ?_)
  obtain⟨b,o,ha,i0,i1,c0,c1,c2⟩:=z7 (hs.mono K1.le) hn
  rw [Xu (by omega) (by omega),Nat.add_sub_cancel]
  refine⟨b,o,ha,i0,i1,_,c0,_,c1,_,c2,?_⟩
  refine Kn.al K1 fun b27 h2 K2 l2 hb27=>?_
  clear K1
  refine kw_ ?_
  intro h3 K3 _
  simp only [ce,List.set_cons_zero,List.set_cons_succ,Nat.zero_add,Nat.reduceAdd]at K3
  clear K2
  repeat' (refine kr_ ?_)
  refine jc (by omega) ⟨_,rfl,?_⟩
  by_cases hb:c.testBit nd.v=true
  ·rw [hb,if_pos rfl]at he2⊢
   refine aL rfl ?_
   (refine kr_ ?_)
   exact hnx nd.hi (by omega) _ _ ⟨rfl,by have:=get_lt hn;omega,he2,K3.tl⟩
  ·rw [Bool.not_eq_true]at hb
   rw [hb]at he2⊢
   refine aA rfl ?_
   (refine kr_ ?_)
   exact hnx nd.lo (by omega) _ _ ⟨rfl,by have:=get_lt hn;omega,he2,K3.tl⟩
theorem Ord.len {ns:List Nd} {r:Nat} {d o:List Nat} (h:Ord ns r d o):d.length<=o.length:=by
 induction h with
 |leaf=>exact Nat.le_refl _
 |seen=>exact Nat.le_refl _
 |node _ _ _ _ _ i1 i2=>rw [List.length_append];omega
theorem NJ {N:Nat} {rt:Int} {s:Sl} {ns:List Nd} (hW:Wd N ns) (hl:ns.length<=600): ∀{r:Nat} {d o:List Nat},Ord ns r d o-> ∀{g h:Hp} {X:List (Nat×Blk)} {t:Sl} {R:Value->Hp->Prop},SlC g s 3 (cQ ns)->r<ns.length+2->o.length<=600->
  Kn g h X->bW X t 1 ((VL d).map I)->(∀t' X' h',bW X' t' 1 ((VL o).map I)->Kn g h' X'->R (Sl.v t') h')->mg #[.agg #[I N,s.v,I rt],I r,t.v] h R:=by
 intro r d o ho
 induction ho with
 |leaf h2=>
  intro g h X t R hs hr hol K oX k
  refine ul ?_
  refine uf_ ?_
  refine Kn.al K fun b7 h1 K1 l1 hb7=>?_
  exact aL (decide_eq_true (by omega)) (k t X h1 oX K1.tl)
 | @seen r d h2 hm=>
  intro g h X t R hs hr hol K oX k
  refine ul ?_
  refine uf_ ?_
  refine Kn.al K fun b7 h1 K1 l1 hb7=>?_
  refine aA (decide_eq_false (by omega)) ?_
  have it:IntS h1 t (VL d):=(oX.buf fun e he=>K1.mem e (.tail _ he)).slc_of (by have:=oX.1;simp only [List.length_map,aX]at this;omega)
  have htl:=it.len
  rw [aX]at htl
  refine ar d.length (fun i vs h'=>vs= [I r,t.v, .pointer (some ⟨b7,0,none⟩),I (i:Nat)]/\h'=h1/\ ∀j,j<i->d[j]?≠some r) ⟨rfl,rfl,fun j h=>by omega⟩ ?_
  rintro i _ _ next hi ⟨rfl,rfl,hno⟩ hnx
  refine⟨_,t,b7,0,_,rfl,?_⟩
  by_cases hlt:i<d.length
  ·refine aL (decide_eq_true (by omega)) ?_
   obtain⟨y,hy⟩: ∃y,d[i]?=some y:=⟨_,List.getElem?_eq_getElem hlt⟩
   obtain⟨b,o,ha,hc⟩:=it.get (Mn hy)
   refine⟨b,o,ha,by omega,by omega,_,by rw [Int.toNat_natCast];exact hc,?_⟩
   refine ad (fun _=>k t X _ oX K1.tl) (fun e=>?_)
   rw [aw (by omega)]
   refine hnx hlt _ _ ⟨rfl,rfl,fun j hj=>?_⟩
   by_cases hji:j<i
   ·exact hno j hji
   ·obtain rfl:j=i:=by omega
    rw [hy]
    intro q
    rw [Option.some.inj q]at e;simp at e
  ·obtain⟨j,hj⟩:=List.getElem?_of_mem hm
   exact absurd hj (hno j (by have:=get_lt hj;omega))
 | @node r d d1 d2 nd h2 hm hn o1 o2 ih1 ih2=>
  intro g h X t R hs hr hol K oX k
  refine ul ?_
  refine uf_ ?_
  refine Kn.al K fun b7 h1 K1 l1 hb7=>?_
  refine aA (decide_eq_false (by omega)) ?_
  rw [List.length_append,List.length_singleton]at hol
  have l1':=o1.len
  have l2':=o2.len
  obtain⟨w1,w2,w3,w4,_⟩:=hW _ nd hn
  obtain⟨g0,KA,KL⟩:=Kn.cut (A:= [_]) K1
  have f7:=KA.at (.head _)
  have hs0:=hs.mono KA.le
  have it:IntS h1 t (VL d):=(oX.buf fun e he=>KL.mem e he).slc_of (by have:=oX.1;simp only [List.length_map,aX]at this;omega)
  have htl:=it.len
  rw [aX]at htl
  clear K1 K
  refine ar d.length (fun i vs h'=>vs= [I r,t.v, .pointer (some ⟨b7,0,none⟩),I (i:Nat)]/\h'=h1) ⟨rfl,rfl⟩ ?_
  rintro i _ _ next hi ⟨rfl,rfl⟩ hnx
  refine⟨_,t,b7,0,_,rfl,?_⟩
  by_cases hlt:i<d.length
  ·refine aL (decide_eq_true (by omega)) ?_
   obtain⟨y,hy⟩: ∃y,d[i]?=some y:=⟨_,List.getElem?_eq_getElem hlt⟩
   obtain⟨b,o,ha,hc⟩:=it.get (Mn hy)
   refine⟨b,o,ha,by omega,by omega,_,by rw [Int.toNat_natCast];exact hc,?_⟩
   refine aA (by rw [beq_eq_false_iff_ne];intro q;exact hm (List.mem_of_getElem? (by rw [hy];exact congrArg some (by omega)))) ?_
   rw [aw (by omega)]
   exact hnx hlt _ _ ⟨rfl,rfl⟩
  refine aA (decide_eq_false (by omega)) ?_
  clear hnx
  repeat' (refine kr_ ?_)
  rw [Xu (by omega) (by omega)]
  obtain⟨b,o,ha,i0,i1,c0,c1,c2⟩:=z7 (hs0.mono KL.le) hn
  refine⟨b,o,ha,i0,i1,_,c1,?_⟩
  refine ih1 (g:=g0) hs0 (by omega) (by omega) KL oX fun t1 X1 h2 oX1 K2=>⟨_,rfl,?_⟩
  clear c0 c1 c2 KL
  repeat' (refine kr_ ?_)
  obtain⟨b,o,ha,i0,i1,c0,c1,c2⟩:=z7 (hs0.mono K2.le) hn
  refine⟨b,o,ha,i0,i1,_,c2,?_⟩
  refine ih2 (g:=g0) hs0 (by omega) (by omega) K2 oX1 fun t2 X2 h3 oX2 K3=>⟨_,rfl,?_⟩
  clear K2 oX1 c0 c1 c2
  have lX:=oX2.1
  simp only [List.length_map,aX,Nat.mul_one]at lX
  refine Kn.al K3 fun b55 h4 K4 l4 hb55=>?_
  have f55:=K4.at (.head _)
  rw [show X2=X2++ []from(List.append_nil _).symm]at K4
  refine Kn.growIn (A:= [_]) K4 oX2 (by omega) (by omega) (by omega) ⟨b55,0,rfl,au f55⟩ rfl rfl fun t3 X3 h5 hn3 oX3 K5 l5=>?_
  rw [List.append_nil]at K5
  refine k t3 X3 h5 ?_ (K5.tl.weak KA.le)
  have e:(VL d2).map I++ [I (r:Int)]=(VL (d2++ [r])).map I:=by simp [VL]
  rw [<-e];exact oX3
set_option maxHeartbeats 400000 in
theorem Rt {h:Hp} {N r:Nat} {s:Sl} {ns:List Nd} {f:Nat->Bool} {R:Value->Hp->Prop} (hs:SlC h s 3 (cQ ns)) (D:ZM N ns r f) (k:R (.bool true) h):xQ #[.agg #[I N,s.v,I r]] h R:=by
 refine ACalls.drop (Na ?_)
 refine uf_ ?_
 have ls:=N2 hs
 have hl:=D.len
 have hN:=D.vars
 have hr:=D.root
 (with_reducible apply Kn.al);(exact Kn.nil h);(intro b5 h1 K1 l1 hb5)
 refine aq (fun J=>J false h1) (aA rfl ?_) (fun J hJ=>?_)
 rotate_left
 ·(refine kr_ ?_)
  refine Qh ⟨_,rfl,aA (by rw [decide_eq_true ⟨by omega,by omega⟩];rfl) ?_⟩
  (refine kr_ ?_)
  refine aA (decide_eq_false (by omega)) ?_
  repeat' (refine kr_ ?_)
  rw [bQ (by omega) (by omega)]
  refine dM ⟨_,rfl,?_⟩
  rw [decide_eq_true ⟨by omega,by omega⟩];exact hJ
 refine ar ns.length (fun i vs h'=>vs= [.pointer (some ⟨b5,0,none⟩),I (i:Nat)]/\Kn h h' [(b5, .inl ⟨[I N,s.v,I r],3,false⟩)]) ⟨rfl,K1⟩ ?_
 clear K1 l1 hb5 h1
 rintro i _ h1 next hi ⟨rfl,K1⟩ hnx
 refine⟨b5,0,_,rfl,?_⟩
 (refine kr_ ?_)
 by_cases hlt:i<ns.length
 rotate_left
 ·refine aA (decide_eq_false (by omega)) ?_
  repeat' (refine kr_ ?_)
  refine NJ (t:=⟨none,0,0⟩) (X:= []) D.wd hl D.ord (g:=h1) (hs.mono K1.le) D.root (by rw [zO];exact hl) (Kn.nil h1) (cw 1) fun t X h2 oX K2=>⟨_,rfl,?_⟩
  have K3:=K1.mono K2.le
  have it:IntS h2 t (VL (xu ns.length)):=(oX.buf fun e he=>K2.mem e he).slc_of (by have:=oX.1;simp only [List.length_map,aX,zO]at this;omega)
  have itl:=it.len
  rw [aX,zO]at itl
  clear K1 hnx
  refine ar ns.length (fun j vs h'=>vs= [.pointer (some ⟨b5,0,none⟩),t.v,I (j:Nat)]/\h'=h2) ⟨rfl,rfl⟩ ?_
  rintro j _ _ next hj ⟨rfl,rfl⟩ hnx
  refine⟨b5,0,t,_,rfl,?_⟩
  by_cases hlt:j<ns.length
  ·refine aL (decide_eq_true (by omega)) ?_
   have hy:(xu ns.length)[j]?=some (j+2):=by unfold xu;rw [List.getElem?_map,List.getElem?_range hlt];rfl
   obtain⟨b,o,ha,hc⟩:=it.get (Mn hy)
   refine⟨b,o,ha,by omega,by omega,_,by rw [Int.toNat_natCast];exact hc,?_⟩
   refine aA (by rw [bQ (by omega) (by omega),bne_eq_false_iff_eq];omega) ?_
   rw [aw (by omega)]
   exact hnx hlt _ _ ⟨rfl,rfl⟩
  refine aA (decide_eq_false (by omega)) ?_
  (refine kr_ ?_)
  rw [show ((t.n:Int)==(s.n:Int))=true by rw [beq_iff_eq];omega]
  exact⟨h,K3.le,k⟩
 refine aL (decide_eq_true (by omega)) ?_
 obtain⟨nd,hn⟩: ∃nd,ns[i]?=some nd:=⟨_,List.getElem?_eq_getElem hlt⟩
 obtain⟨w1,w2,w3,w4,w5,w6,w7⟩:=D.wd i nd hn
 (refine kr_ ?_)
 obtain⟨b,o,ha,i0,i1,c0,c1,c2⟩:=z7 hs hn
 have xb:=fI c0
 refine⟨b,o,ha,i0,i1,_,K1.le.cell c0,_,K1.le.cell c1,_,K1.le.cell c2,?_⟩
 refine Kn.al K1 fun b41 h2 K2 l2 hb41=>?_
 clear K1
 refine kw_ ?_
 intro h3 K3 _
 simp only [ce,List.set_cons_zero,List.set_cons_succ,Nat.zero_add,Nat.reduceAdd]at K3
 clear K2
 refine aq (fun J=>J false h3) (aA rfl ?_) (fun J hJ=>?_)
 ·refine ar i (fun j vs h'=>vs= [.pointer (some ⟨b5,0,none⟩),I (i:Nat), .pointer (some ⟨b41,0,none⟩),I (j:Nat)]/\h'=h3) ⟨rfl,rfl⟩ ?_
  rintro j _ _ next2 hj ⟨rfl,rfl⟩ hnx2
  refine⟨b5,0,_,b41,0,_,rfl,?_⟩
  by_cases hlj:j<i
  ·refine aL (decide_eq_true (by omega)) ?_
   obtain⟨me,hme⟩: ∃me,ns[j]?=some me:=⟨_,List.getElem?_eq_getElem (by omega)⟩
   (refine kr_ ?_)
   obtain⟨b',o',ha',j0,j1,e0,e1,e2⟩:=z7 (hs.mono K3.le) hme
   refine⟨b',o',ha',j0,j1,_,e0,_,e1,_,e2,?_⟩
   repeat' (refine kr_ ?_)
   refine aA ?_ ?_
   ·rw [Bool.eq_false_iff]
    intro q
    simp only [Bool.and_eq_true,beq_iff_eq,Bool.and_true]at q
    refine w7 j hlj ?_
    rw [hme]
    obtain⟨a1,a2,a3⟩:=me
    obtain⟨d1,d2,d3⟩:=nd
    dsimp only at q
    rw [show a1=d1 by omega,show a2=d2 by omega,show a3=d3 by omega]
   ·rw [aw (by omega)]
    exact hnx2 hlj _ _ ⟨rfl,rfl⟩
  ·refine aA (decide_eq_false (by omega)) ?_
   rw [aw (by omega)]
   exact hnx hlt _ _ ⟨rfl,K3.tl⟩
 ·repeat' (refine kr_ ?_)
  rw [bQ (by omega) (by omega)]
  refine dM ⟨_,rfl,aA (by rw [decide_eq_true ⟨by omega,by omega⟩];rfl) ?_⟩
  repeat' (refine kr_ ?_)
  refine aA (by rw [beq_eq_false_iff_ne];omega) ?_
  repeat' (refine kr_ ?_)
  rw [bQ (by omega) (by omega)]
  refine dM ⟨_,rfl,aA (by rw [decide_eq_true ⟨by omega,by omega⟩];rfl) ?_⟩
  repeat' (refine kr_ ?_)
  refine dM ⟨_,rfl,aA (by rw [decide_eq_true ⟨by omega,by omega⟩];rfl) ?_⟩
  repeat' (refine kr_ ?_)
  refine Dy (hs.mono K3.le) hl (by omega) ⟨_,rfl,?_⟩
  repeat' (refine kr_ ?_)
  refine aA (decide_eq_false (by omega)) ?_
  repeat' (refine kr_ ?_)
  refine Dy (hs.mono K3.le) hl (by omega) ⟨_,rfl,?_⟩
  repeat' (refine kr_ ?_)
  rw [decide_eq_false (by omega)]
  exact hJ
theorem NG {h:Hp} {N r c:Nat} {s:Sl} {ns:List Nd} {f:Nat->Bool} {R:Value->Hp->Prop} (hs:SlC h s 3 (cQ ns)) (D:ZM N ns r f) (hc:c<2^N) (k:R (.bool (f c)) h):jO #[.agg #[I N,s.v,I r],I c] h R:=by
 refine ACalls.drop (H4 ?_)
 refine uf_ ?_
 have hN:=D.vars
 have hp:2^N<=2^13:=Nat.pow_le_pow_right (by omega) hN
 (with_reducible apply Kn.al);(exact Kn.nil h);(intro b6 h1 K1 l1 hb6)
 repeat' (refine kr_ ?_)
 refine Rt (hs.mono K1.le) D ⟨_,rfl,aL rfl ?_⟩
 repeat' (refine kr_ ?_)
 rw [cR (by omega),if_neg (by omega),ck (by omega),bQ (by omega) (by omega)]
 refine dM ⟨_,rfl,aL (decide_eq_true ⟨by omega,by omega⟩) ?_⟩
 repeat' (refine kr_ ?_)
 exact SY (hs.mono K1.le) D.wd hN D.len D.root (D.ev c hc) ⟨_,rfl,h,K1.le,k⟩
theorem CL {v:Nat} {f:Nat->Bool} (h:(dX v f).ok=true): ∃r:Nat,(dX v f).v=(v:Nat)/\(dX v f).r=r/\ZM v (dX v f).ns r f:=by
 unfold dX at h⊢
 by_cases hv:0<=(v:Int)/\(v:Int)<=13
 ·rw [if_pos hv]at h⊢
  rw [Int.toNat_natCast]at h⊢
  cases hd:qe v f with
  |none=>rw [hd]at h;cases h
  |some r=>
   obtain⟨w1,w2,w3,w4,w5⟩:=Y0 hd
   exact⟨r.1,rfl,rfl,w1,w2,w3,w4,w5,by omega⟩
 ·rw [if_neg hv]at h;cases h
set_option maxHeartbeats 1000000 in
theorem Nv {h:Hp} {M:MSl} {m:ah} {s:Sl} {bs:List Nat} {i:Nat} {R:Value->Hp->Prop} (hs:aM h M m) (hm:bM m) (hc:aD m=0) (hb:ByteS h s bs) (hi:i<=1000)
  (k: ∀a b sS sI h',a<2^am m.nodes 36->b<2^am m.nodes 35->h.le h'->IntSS h' sS ((dR m.nodes (stP m) a).map VL)->IntSS h' sI ((dR m.nodes (inP m) b).map VL)->R (.tuple #[I a,I b,Sl.v sS,Sl.v sI]) h'):
  tV #[aN M,s.v,I i] h R:=by
 apply HC
 refine uf_ ?_
 have g:=cA hc
 have n8:=g.n8
 have k5:=g.k5
 have hp8:=RB n8
 have hp5:=RB (show am m.nodes 35<=8 by omega)
 (with_reducible apply Kn.al);(exact Kn.nil h);(intro b9 h1 K1 l1 hb9)
 repeat' (refine kr_ ?_)
 refine ur (hs.mono K1.le) hm hc ⟨_,_,rfl,?_⟩
 refine FF (hb.mono K1.le) (by omega) fun x hx=>⟨_,rfl,?_⟩
 rw [cR (by omega),if_neg (by omega),ck (by omega),if_neg (by omega),aw (by omega)]
 refine FF (hb.mono K1.le) (by omega) fun y hy=>⟨_,rfl,?_⟩
 rw [cR (by omega),if_neg (by omega),ck (by omega),if_neg (by omega)]
 rw [show W (W ((x:Int)*5)+(i:Int))=((x*5+i:Nat):Int) by rw [bQ (n:=(x:Int)*5) (by omega) (by omega),bQ (by omega) (by omega)];omega,eh,eh]
 have ha:=Nat.mod_lt (x*5+i) hp8.2
 have hb':=Nat.mod_lt y hp5.2
 generalize (x*5+i)%2^am m.nodes 36=a at*
 generalize y%2^am m.nodes 35=b at*
 repeat' (refine kr_ ?_)
 refine Dd (hs.mono K1.le) hm hc (fun h' q _=>absurd ⟨by omega,by omega⟩ q) fun c out h2 ec _ l2 io=>⟨_,_,rfl,?_⟩
 obtain rfl:a=c:=by omega
 have K2:=K1.mono l2
 repeat' (refine kr_ ?_)
 refine Dm (hs.mono K2.le) hm hc (fun h' q _=>absurd ⟨by omega,by omega⟩ q) fun c out2 h3 ec _ l3 io2=>⟨_,_,rfl,?_⟩
 obtain rfl:b=c:=by omega
 exact k a b out out2 h3 ha hb' (Hp.le_trans K2.le l3) (io.mono l3) io2
theorem abK {n k a b:Nat} (hn:n<=8) (hk:k<=5) (ha:a<2^n) (hb:b<2^k):W ((a:Int)+ax (b:Int) (IntKind.wrap .u64 (n:Int)))=((b*2^n+a:Nat):Int)/\b*2^n+a<2^(n+k)/\ ¬IntKind.wrap .u64 (n:Int)<0:=by
 have h1:=RB hn
 have h2:2^k<=2^5:=Nat.pow_le_pow_right (by omega) hk
 have h3:b*2^n<=32*256:=Nat.mul_le_mul (by omega) h1.1
 have h4:b*2^n+2^n<=2^(n+k):=by
  rw [Nat.pow_add,Nat.mul_comm (2^n),<-Nat.succ_mul]
  exact Nat.mul_le_mul_right _ hb
 rw [cR (by omega),iY (by omega) (by omega),bQ (by omega) (by omega)]
 exact⟨by omega,by omega,by omega⟩
theorem Upd.back {L L':List (Nat×Blk)} {b:Nat} {x y:Blk} (u:Upd L b x y L'): ∀A:List (Nat×Blk),Upd (A++L) b x y (A++L'):=by
 intro A
 induction A with
 |nil=>exact u
 |cons e A ih=>exact .tail ih
structure hG (Xs:List (List (Nat×Blk))) (ts:List Sl) (sz:Nat) (css:List (List Value)):Prop where
 l1:Xs.length=ts.length
 l2:css.length=ts.length
 at_: ∀(k:Nat) X t cs,Xs[k]?=some X->ts[k]?=some t->css[k]?=some cs->bW X t sz cs
theorem uo {α:Type} {Xs:List (List α)} {k:Nat} {X:List α} (h:Xs[k]?=some X):Xs.flatten=(Xs.take k).flatten++(X++(Xs.drop (k+1)).flatten):=by
 have hl:=get_lt h
 rw [List.getElem?_eq_getElem hl]at h
 conv=>lhs;rw [<-List.take_append_drop k Xs,List.flatten_append,List.drop_eq_getElem_cons hl,List.flatten_cons,Option.some.inj h]
theorem IX {α:Type} {Xs:List (List α)} {k:Nat} (hk:k<Xs.length) (X':List α):(Xs.set k X').flatten=(Xs.take k).flatten++(X'++(Xs.drop (k+1)).flatten):=by
 have h:(Xs.set k X')[k]?=some X':=by rw [List.getElem?_set_self hk]
 rw [uo h,List.take_set_of_le (Nat.le_refl k),List.drop_set_of_lt (by omega)]
theorem hG.set {Xs:List (List (Nat×Blk))} {ts:List Sl} {sz:Nat} {css:List (List Value)} (o:hG Xs ts sz css) (k:Nat) {X:List (Nat×Blk)} {t:Sl} {cs:List Value} (g:bW X t sz cs):hG (Xs.set k X) (ts.set k t) sz (css.set k cs):=by
 refine⟨by simp [o.l1],by simp [o.l2],fun j Y u ds hY hu hd=>?_⟩
 by_cases e:k=j
 ·subst e
  have h1:=get_lt hY
  rw [List.length_set]at h1
  have e1:=o.l1
  have e2:=o.l2
  rw [List.getElem?_set_self h1]at hY
  rw [List.getElem?_set_self (by omega)]at hu hd
  cases hY;cases hu;cases hd
  exact g
 ·rw [List.getElem?_set_ne e]at hY hu hd
  exact o.at_ j Y u ds hY hu hd
theorem hG.get {Xs:List (List (Nat×Blk))} {ts:List Sl} {sz:Nat} {css:List (List Value)} (o:hG Xs ts sz css) {k:Nat} {t:Sl} {cs:List Value} (ht:ts[k]?=some t) (hc:css[k]?=some cs): ∃X,Xs[k]?=some X/\bW X t sz cs:=by
 obtain⟨X,hX⟩: ∃X,Xs[k]?=some X:=⟨_,List.getElem?_eq_getElem (by have:=get_lt ht;have:=o.l1;omega)⟩
 exact⟨X,hX,o.at_ k X t cs hX ht hc⟩
theorem Kn.growAt {g h:Hp} {A:List (Nat×Blk)} {Xs:List (List (Nat×Blk))} {ts:List Sl} {s:Sl} {sz by_ m k:Nat} {cs news:List Value} {css:List (List Value)} {src:Option Addr} {C:Option Addr->Nat->Nat->Hp->Prop}
  (K:Kn g h (A++Xs.flatten)) (o:hG Xs ts sz css) (ht:ts[k]?=some s) (hc:css[k]?=some cs) (hm:0<m) (hsz:(s.n+m)*by_<=140737488355328) (hsz':s.n+m<=9223372036854775807)
  (hs: ∃sb so,src=some ⟨sb,so,none⟩/\ir h sb so news) (hl:news.length=m*sz) (ho:news.all (·.oneCell')=true)
  (kk: ∀s' Xs' h',s'.n=s.n+m->hG Xs' (ts.set k s') sz (css.set k (cs++news))->Kn g h' (A++Xs'.flatten)->C s'.a s'.n s'.c h'):cm h s.a s.n s.c src m sz by_ C:=by
 obtain⟨X,hX,oX⟩:=o.get ht hc
 have hk:=get_lt hX
 rw [uo hX,<-List.append_assoc]at K
 refine Kn.growIn K oX hm hsz hsz' hs hl ho fun s' X' h' hn oX' K' _=>?_
 refine kk s' (Xs.set k X') h' hn (o.set k oX') ?_
 rw [IX hk,<-List.append_assoc];exact K'
theorem hG.upd {Xs:List (List (Nat×Blk))} {ts:List Sl} {t:Sl} {k i:Nat} {cs:List Value} {css:List (List Value)} {v:Value} {A:List (Nat×Blk)} (o:hG Xs ts 1 css) (ht:ts[k]?=some t) (hc:css[k]?=some cs) (hi:i<cs.length):
  ∃b Xs',t.a=some ⟨b,0,none⟩/\hG Xs' ts 1 (css.set k (cs.set i v))/\Upd (A++Xs.flatten) b (.inl ⟨cs,t.c*1,false⟩) (.inl ⟨cs.set i v,t.c*1,false⟩) (A++Xs'.flatten):=by
 obtain⟨X,hX,oX⟩:=o.get ht hc
 have hk:=get_lt hX
 have hn:t.n≠0:=by have:=oX.1;omega
 obtain⟨b,ha,rfl⟩:=oX.one hn
 refine⟨b,Xs.set k [(b, .inl ⟨cs.set i v,t.c*1,false⟩)],ha,?_,?_⟩
 ·have:=o.set k (X:= [(b, .inl ⟨cs.set i v,t.c*1,false⟩)]) (t:=t) (cs:=cs.set i v) ⟨by rw [List.length_set];exact oX.1,oX.2.1, .inr ⟨b,ha,rfl⟩⟩
  rwa [show ts.set k t=ts from ?_]at this
  refine List.ext_getElem? fun j=>?_
  by_cases e:k=j
  ·subst e
   rw [List.getElem?_set_self (get_lt ht),ht]
  ·rw [List.getElem?_set_ne e]
 ·rw [uo hX,IX hk]
  refine Upd.back ?_ A
  refine Upd.back ?_ _
  exact .head
theorem hG.keys {Xs Xs':List (List (Nat×Blk))} {b:Nat} {x y:Blk} {A:List (Nat×Blk)} (u:Upd (A++Xs.flatten) b x y (A++Xs'.flatten)):Xs'.flatten.map Prod.fst=Xs.flatten.map Prod.fst:=by
 have:=u.keys
 rw [List.map_append,List.map_append]at this
 exact List.append_cancel_left this
structure xH (X:List (Nat×Blk)) (s:Sl) (ds:List Bd) (XO:List (Nat×Blk)) (Xs:List (List (Nat×Blk))) (ts:List Sl):Prop where
 eq:X=XO++Xs.flatten
 l1:Xs.length=ts.length
 l2:ds.length=ts.length
 out:bW XO s 3 ((ts.zip ds).flatMap fun e=> [I e.2.v,e.1.v,I e.2.r])
 inn: ∀(k:Nat) Y t d,Xs[k]?=some Y->ts[k]?=some t->ds[k]?=some d->ll Y t 3 (cQ d.ns)
abbrev fq (m:ah):Nat:=am m.nodes 36+am m.nodes 35
def qp (m:ah) (at_ k c:Nat):Bool:=(((bR m (c%2^am m.nodes 36) (c/2^am m.nodes 36)).getD at_ []).getD (k/bG m.nodes at_) 0).testBit (k%bG m.nodes at_)
def sq (m:ah) (at_:Nat):List Bd:=(List.range (nbA m.nodes at_)).map fun k=>dX (fq m:Nat) (qp m at_ k)
def ji (m:ah) (x:Int):Bool:=decide (aD m=0)&&(decide (0<=x/\x<=(m.nodes.length:Int)-1)&&(sq m x.toNat).all (·.ok))
def rA (m:ah) (x:Int):List Bd:=if ji m x then sq m x.toNat else []
theorem G9 {m:ah} {x:Int} (h:ji m x=false):rA m x= []:=by unfold rA;rw [h];rfl
theorem Jv {m:ah} (g:cE m) {p:Nat} (hp:p<m.nodes.length):nbA m.nodes p<=64/\1<=bG m.nodes p/\bG m.nodes p<=16:=by
 obtain⟨h1,h2⟩:=(mv (rh g.ok hp)).2
 have hw:bG m.nodes p=(az m.nodes p).wid.toNat:=rfl
 have hc:=da m.nodes p
 refine⟨?_,by omega,by omega⟩
 unfold nbA
 have:=Nat.mul_le_mul (show bG m.nodes p<=16 by omega) hc
 omega
theorem IntS.woN {h:Hp} {t:Sl} {xs:List Int} {L:List (Nat×Blk)} (e:IntS h t xs) (m: ∀x∈L,h x.1=some x.2) (hn: ∀x∈L,∃cs z ro,x.2= .inl ⟨cs,z,ro⟩/\ww cs):IntS (h.wo (L.map Prod.fst)) t xs:=by
 refine⟨e.1,e.2.1,?_⟩
 rcases e.2.2 with h0|⟨b,o,ha,hc⟩
 ·exact .inl h0
 by_cases hx:xs= []
 ·subst hx
  exact .inl (by have:=e.len;simpa using this)
 refine .inr ⟨b,o,ha,fun i v hv=>?_⟩
 have hne:b∉L.map Prod.fst:=by
  intro hm
  obtain⟨y,hy,rfl⟩:=List.mem_map.1 hm
  obtain⟨cs,z,ro,hr,hno⟩:=hn y hy
  have hb:=m y hy
  rw [hr]at hb
  obtain⟨x,xs',rfl⟩:=List.exists_cons_of_ne_nil hx
  have:=hc 0 (I x) rfl
  rw [av hb]at this
  exact hno _ _ this
 have:=hc i v hv
 unfold Hp.cell at this⊢
 rw [uf hne];exact this
def EQ (f:Nat->Nat->Bool) (K code k:Nat):List (List Value):=(List.range K).map fun j=>(List.range (if j<k then code+1 else code)).map fun c=> .bool (f j c)
theorem t9 {f:Nat->Nat->Bool} {K code k j:Nat} (h:j<K):(EQ f K code k)[j]?=some ((List.range (if j<k then code+1 else code)).map fun c=> .bool (f j c)):=by
 unfold EQ;rw [List.getElem?_map,List.getElem?_range h];rfl
theorem zC (f:Nat->Nat->Bool) (K code k:Nat):(EQ f K code k).length=K:=by unfold EQ;rw [List.length_map,List.length_range]
theorem Un {f:Nat->Nat->Bool} {K code k:Nat} (h:k<K):(EQ f K code k).set k ((List.range code).map (fun c=> .bool (f k c))++ [.bool (f k code)])=EQ f K code (k+1):=by
 refine List.ext_getElem? fun j=>?_
 by_cases hj:j<K
 ·by_cases e:k=j
  ·subst e
   rw [List.getElem?_set_self (by rw [zC];exact h),t9 h,if_pos (by omega),List.range_succ,List.map_append];rfl
  ·rw [List.getElem?_set_ne e,t9 hj,t9 hj]
   by_cases h2:j<k
   ·rw [if_pos h2,if_pos (by omega)]
   ·rw [if_neg h2,if_neg (by omega)]
 ·rw [List.getElem?_eq_none (by rw [List.length_set,zC];omega),List.getElem?_eq_none (by rw [zC];omega)]
theorem aak (f:Nat->Nat->Bool) (K code:Nat):EQ f K code K=EQ f K (code+1) 0:=by
 unfold EQ
 refine List.map_congr_left fun j hj=>?_
 rw [if_pos (List.mem_range.1 hj),if_neg (by omega)]
theorem FC (n:Nat) (f:Nat->Bool):ww ((List.range n).map fun c=> .bool (f c)):=by
 intro j i h
 rw [List.getElem?_map,Option.map_eq_some_iff]at h
 obtain⟨x,_,e⟩:=h
 cases e
theorem Uq {Xs:List (List (Nat×Blk))} {ts:List Sl} {f:Nat->Nat->Bool} {K code k b z:Nat} (o:hG Xs ts 1 (EQ f K code k)): ∀x∈((b,(Sum.inl ⟨ts.map Sl.v,z,false⟩:Blk))::Xs.flatten),∃cs z ro,x.2= .inl ⟨cs,z,ro⟩/\ww cs:=by
 intro x hx
 rcases List.mem_cons.1 hx with rfl|hx
 ·exact⟨_,_,_,rfl,vW ts⟩
 ·obtain⟨X,hX,hm⟩:=List.mem_flatten.1 hx
  obtain⟨j,hj⟩:=List.getElem?_of_mem hX
  have e1:=o.l1
  have e2:=o.l2
  have hjl:=get_lt hj
  obtain⟨t,ht⟩: ∃t,ts[j]?=some t:=⟨_,List.getElem?_eq_getElem (by omega)⟩
  have hc:=t9 (f:=f) (code:=code) (k:=k) (show j<K by rw [zC]at e2;omega)
  rcases (o.at_ j X t _ hj ht hc).2.2 with ⟨rfl,_⟩|⟨b',_,rfl⟩
  ·cases hm
  ·rw [List.mem_singleton.1 hm]
   exact⟨_,_,_,rfl,FC _ _⟩
theorem GB :xH [] ⟨none,0,0⟩ [] [] [] []:=⟨rfl,rfl,rfl,cw 3,fun k Y t d h=>by simp at h⟩
theorem xH.snoc {X XO Y:List (Nat×Blk)} {Xs:List (List (Nat×Blk))} {ts:List Sl} {s s' t:Sl} {ds:List Bd} {d:Bd} {XO':List (Nat×Blk)} (o:xH X s ds XO Xs ts) (oY:ll Y t 3 (cQ d.ns))
  (oO:bW XO' s' 3 (((ts.zip ds).flatMap fun e=> [I e.2.v,e.1.v,I e.2.r])++ [I d.v,t.v,I d.r])):xH (XO'++(Xs++ [Y]).flatten) s' (ds++ [d]) XO' (Xs++ [Y]) (ts++ [t]):=by
 refine⟨rfl,by simp [o.l1],by simp [o.l2],?_,fun k Z u e hZ hu he=>?_⟩
 ·rw [List.zip_append o.l2.symm,List.flatMap_append]
  simpa using oO
 ·have e1:=o.l1
  have e2:=o.l2
  by_cases hk:k<ts.length
  ·rw [List.getElem?_append_left (by omega)]at hZ hu he
   exact o.inn k Z u e hZ hu he
  ·have:=get_lt hu
   simp at this
   obtain rfl:k=ts.length:=by omega
   rw [List.getElem?_append_right (by omega),show ts.length-Xs.length=0 by omega]at hZ
   rw [List.getElem?_append_right (Nat.le_refl _),Nat.sub_self]at hu
   rw [List.getElem?_append_right (by omega),show ts.length-ds.length=0 by omega]at he
   simp at hZ hu he
   subst hZ;subst hu;subst he
   exact oY
theorem DN {m:ah} {a k:Nat} (h:k<nbA m.nodes a):(sq m a)[k]?=some (dX (fq m:Nat) (qp m a k)):=by unfold sq;rw [List.getElem?_map,List.getElem?_range h];rfl
theorem qh (m:ah) (a:Nat):(sq m a).length=nbA m.nodes a:=by unfold sq;rw [List.length_map,List.length_range]
theorem qD {α:Type} {l:List α} {i:Nat} {x:α} (h:l[i]?=some x):l.take (i+1)=l.take i++ [x]:=by rw [List.take_add_one,h];rfl
set_option maxHeartbeats 4000000 in
theorem tM {h:Hp} {M:MSl} {m:ah} {x:Int} {R:Value->Hp->Prop} (hs:aM h M m) (hm:bM m)
  (k: ∀s h' X XO Xs ts,Kn h h' X->xH X s (rA m x) XO Xs ts->R (.tuple #[Sl.v s, .bool (ji m x)]) h'):nJ #[aN M,I x] h R:=by
 apply FX
 refine uf_ ?_
 (with_reducible apply Kn.al);(exact Kn.nil h);(intro b8 h1 K1 l1 hb8)
 have hnn:=hs.nodes.len
 have hns:=hm.nodes
 have no: ∀{h':Hp},ji m x=false->h.le h'->R (.tuple #[.slice none 0 0, .bool false]) h':=by
  intro h' e l
  have:=k ⟨none,0,0⟩ h' [] [] [] [] (Kn.of l) (by rw [G9 e];exact GB)
  rw [e]at this
  exact this
 refine aq (fun J=> ∀c,(c=true->ji m x=false)->(c=false->aD m=0/\0<=x/\x<m.nodes.length)->J c h1) (fun c hc1 hc2=>ad (fun e=>no (hc1 e) l1) (fun e=>?_)) (fun J hJ=>?_)
 rotate_left
 ·repeat' (refine kr_ ?_)
  refine cj (hs.mono l1) hm ⟨_,rfl,ad (fun e=>hJ _ (fun _=>?_) (fun e=>nomatch e)) (fun e=>?_)⟩
  ·unfold ji
   rw [decide_eq_false (iQ e),Bool.false_and]
  (refine kr_ ?_)
  rw [hnn,bQ (by omega) (by omega)]
  refine dM ⟨_,rfl,hJ _ (fun q=>?_) (fun q=>?_)⟩
  ·unfold ji
   rw [Bool.not_eq_true']at q
   rw [q,Bool.false_and,Bool.and_false]
  ·rw [Bool.not_eq_false']at q
   have:=of_decide_eq_true q
   exact⟨gV e,by omega,by omega⟩
 obtain⟨hc,x0,x1⟩:=hc2 e
 clear hc1 hc2 e c
 obtain⟨a,rfl⟩: ∃a:Nat,x=a:=⟨x.toNat,by omega⟩
 have ha:a<m.nodes.length:=by omega
 have g:=cA hc
 have n8:=g.n8
 have k5:=g.k5
 obtain⟨hK,hw1,hw2⟩:=Jv g ha
 have hok:ji m (a:Nat)=(sq m a).all (·.ok):=by
  unfold ji
  rw [decide_eq_true hc,decide_eq_true ⟨by omega,by omega⟩,Bool.true_and,Bool.true_and,Int.toNat_natCast]
 have hR:ji m (a:Nat)=true->rA m (a:Nat)=sq m a:=fun e=>by unfold rA;rw [e,if_pos rfl,Int.toNat_natCast]
 have hp13:2^fq m<=2^13:=Nat.pow_le_pow_right (by omega) (by unfold fq;omega)
 repeat' (refine kr_ ?_)
 refine ia (hs.mono l1) hm ⟨_,rfl,?_⟩
 repeat' (refine kr_ ?_)
 refine ia (hs.mono l1) hm ⟨_,rfl,?_⟩
 repeat' (refine kr_ ?_)
 obtain⟨bn,on,han,hpn',c6,c7,w1,w16⟩:=(hs.mono l1).nodes.sortc2 ha g.ok
 refine⟨bn,on,han,by omega,hpn',_,c6,_,c7,?_⟩
 refine Kn.al K1 fun b50 h2 K2 l2 hb50=>?_
 refine kw_ ?_
 intro h3 K3 _
 simp only [ce,List.set_cons_zero,List.set_cons_succ,Nat.zero_add,Nat.reduceAdd]at K3
 clear K1 K2 c6 c7 han hpn'
 repeat' (refine kr_ ?_)
 refine je ⟨_,rfl,?_⟩
 have e1:dz ⟨(az m.nodes a).idx,(bG m.nodes a:Nat)⟩=nbA m.nodes a:=by
  unfold dz nbA
  rw [nr g.ok ha,Int.toNat_natCast,Nat.mul_comm]
 rw [e1]
 refine⟨by omega,by omega,by omega,by omega,?_⟩
 rw [Int.toNat_natCast,Nat.mul_one,ct]
 have f8:=K3.at (b:=b8) (by((focus ((repeat first|exact .head _|apply List.Mem.tail);done))))
 have f50:=K3.at (b:=b50) (by((focus ((repeat first|exact .head _|apply List.Mem.tail);done))))
 have hs3:=hs.mono K3.le
 have l03:=K3.le
 have x8:=bV f8
 have x50:=bV f50
 clear K3
 (with_reducible apply Kn.al);(exact Kn.nil h3);(intro b61 h4 K4 l4 hb61)
 rw [show W (((am m.nodes 36:Nat):Int)+((am m.nodes 35:Nat):Int))=((fq m:Nat):Int) by rw [bQ (by omega) (by omega)];show _=((am m.nodes 36+am m.nodes 35:Nat):Int);omega]
 have hv13:fq m<=13:=by show am m.nodes 36+am m.nodes 35<=13;omega
 have z0:hG (List.replicate (nbA m.nodes a) []) (List.replicate (nbA m.nodes a) ⟨none,0,0⟩) 1 (EQ (qp m a) (nbA m.nodes a) 0 0):=by
  refine⟨by simp,by rw [zC];simp,fun j X t cs hX ht hcs=>?_⟩
  have hj:=get_lt hX
  rw [List.length_replicate]at hj
  rw [t9 hj,if_neg (by omega)]at hcs
  rw [List.getElem?_replicate,if_pos hj]at hX ht
  cases hX;cases ht;cases hcs
  exact cw 1
 refine ar (2^fq m) (fun c vs h'=> ∃(ts:List Sl) (Xs:List (List (Nat×Blk))),vs= [I (a:Nat), .pointer (some ⟨b8,0,none⟩),I (fq m:Nat), .pointer (some ⟨b50,0,none⟩),(arr b61 (nbA m.nodes a)).v,I (c:Nat)]/\ts.length=nbA m.nodes a/\
  Kn h3 h' ((b61, .inl ⟨ts.map Sl.v,nbA m.nodes a,false⟩)::Xs.flatten)/\hG Xs ts 1 (EQ (qp m a) (nbA m.nodes a) c 0))
  ⟨List.replicate (nbA m.nodes a) ⟨none,0,0⟩,List.replicate (nbA m.nodes a) [],rfl,by simp,by simpa using K4,z0⟩ ?_
 clear K4 l4 hb61 h4 z0
 rintro c _ h4 next hci ⟨ts,Xs,rfl,htl,K4,oX⟩ hnx
 refine⟨_,b8,0,_,b50,0,arr b61 (nbA m.nodes a),_,rfl,?_⟩
 rw [cR (by omega),if_neg (by omega),ck (by omega)]
 by_cases hlt:c<2^fq m
 ·refine aL (decide_eq_true (by omega)) ?_
  repeat' (refine kr_ ?_)
  refine Bq (hs3.mono K4.le) hm g hlt fun vt h5 l5 hvn hpv _=>⟨_,rfl,?_⟩
  have K5:=K4.mono l5
  obtain⟨bv,ov,u,hav,hvn',hcv,hu⟩:=hpv.at (p:=(a:Nat)) (by omega) (by rw [(dg g _ _).len];omega)
  rw [Int.toNat_natCast]at hu
  refine⟨bv,ov,hav,by omega,hvn',u,hcv,?_⟩
  have hu2:=hu.woN (fun e he=>K5.mem e he) (Uq oX)
  have lB:=K5.leBase
  have KB:=K5.base
  clear K4 K5 hpv hcv hav hu
  generalize h5.wo (((b61,(Sum.inl ⟨ts.map Sl.v,nbA m.nodes a,false⟩:Blk))::Xs.flatten).map Prod.fst)=g5 at*
  have hcell: ∀q,q<nbA m.nodes a->q/bG m.nodes a<aF m.nodes a:=fun q hq=>by
   unfold nbA at hq
   exact Nat.div_lt_of_lt_mul hq
  have aV:=dg g (c%2^am m.nodes 36) (c/2^am m.nodes 36)
  have hfit:=oM g.ok ha (aV.fit a ha ha)
  have hun:=hu2.len
  rw [aX,hfit.1]at hun
  refine Kn.al KB fun b91 h6 K6 l6 hb91=>?_
  clear KB
  refine kw_ ?_
  intro h7 K7 _
  simp only [ce,List.set_cons_zero,List.set_cons_succ,Nat.zero_add,Nat.reduceAdd]at K7
  clear K6 l6 hb91
  have f8g:=lB _ _ f8
  have f50g:=lB _ _ f50
  have x50g:=bV f50g
  refine ar (nbA m.nodes a) (fun q vs h'=> ∃(ts:List Sl) (Xs:List (List (Nat×Blk))),vs= [I (a:Nat), .pointer (some ⟨b8,0,none⟩),I (fq m:Nat), .pointer (some ⟨b50,0,none⟩),(arr b61 (nbA m.nodes a)).v,I (c:Nat), .pointer (some ⟨b91,0,none⟩),I (q:Nat)]/\ts.length=nbA m.nodes a/\
   Kn g5 h' ((b91, .inl ⟨[u.v],1,false⟩)::(b61, .inl ⟨ts.map Sl.v,nbA m.nodes a,false⟩)::Xs.flatten)/\hG Xs ts 1 (EQ (qp m a) (nbA m.nodes a) c q)) ⟨ts,Xs,rfl,htl,K7,oX⟩ ?_
  clear K7 oX htl ts Xs
  rintro q _ h8 next2 hq ⟨ts,Xs,rfl,htl,K8,oX⟩ hnx2
  refine⟨_,b8,0,_,b50,0,arr b61 (nbA m.nodes a),_,b91,0,_,rfl,?_⟩
  by_cases hlq:q<nbA m.nodes a
  rotate_left
  ·refine aA (decide_eq_false (by show¬_<((nbA m.nodes a:Nat):Int);omega)) ?_
   obtain rfl:q=nbA m.nodes a:=by omega
   rw [aw (by omega)]
   rw [aak]at oX
   exact hnx hlt _ _ ⟨ts,Xs,rfl,htl,K8.tl.weak lB,oX⟩
  refine aL (decide_eq_true (by show _<((nbA m.nodes a:Nat):Int);omega)) ?_
  obtain⟨t,ht⟩: ∃t,ts[q]?=some t:=⟨_,List.getElem?_eq_getElem (by omega)⟩
  refine⟨b61,0,rfl,by omega,by show _<((nbA m.nodes a:Nat):Int);omega,?_⟩
  refine⟨t,by rw [av (K8.at (.tail _ (.head _))),Int.toNat_natCast,Nat.zero_add,Nat.mul_one,List.getElem?_map,ht];rfl,?_⟩
  repeat' (refine kr_ ?_)
  rw [if_neg (by omega)]
  have hq1:W (Int.tdiv (q:Int) (bG m.nodes a:Nat))=((q/bG m.nodes a:Nat):Int):=by
   rw [uy,fu]
   have:=Nat.div_le_self q (bG m.nodes a)
   omega
  rw [hq1]
  have hqc:=hcell q hlq
  obtain⟨bu,ou,hau,hcu,hiu⟩:=(hu2.mono K8.le).elt (i:=q/bG m.nodes a) (by rw [hfit.1];exact hqc)
  refine⟨bu,ou,hau,Int.natCast_nonneg _,Int.ofNat_lt.2 (by rw [hun];exact hqc),_,by rw [Int.toNat_natCast];exact hcu,?_⟩
  repeat' (refine kr_ ?_)
  rw [if_neg (by omega),eh]
  refine jc (by have:=Nat.mod_lt q (show 0<bG m.nodes a by omega);omega) ⟨_,rfl,?_⟩
  repeat' (refine kr_ ?_)
  refine Kn.al K8 fun b128 h9 K9 l9 hb128=>?_
  repeat' (refine kr_ ?_)
  clear K8
  have f128:=K9.at (.head _)
  have hbit:qp m a q c=(((bR m (c%2^am m.nodes 36) (c/2^am m.nodes 36)).getD a []).getD (q/bG m.nodes a) 0).testBit (q%bG m.nodes a):=rfl
  have hval:((if(((bR m (c%2^am m.nodes 36) (c/2^am m.nodes 36)).getD a []).getD (q/bG m.nodes a) 0).testBit (q%bG m.nodes a)=true then(1:Int)else 0)==1)=qp m a q c:=by
   rw [hbit]
   cases (((bR m (c%2^am m.nodes 36) (c/2^am m.nodes 36)).getD a []).getD (q/bG m.nodes a) 0).testBit (q%bG m.nodes a)<;>rfl
  rw [hval]at f128 K9
  have hcq:=t9 (f:=qp m a) (code:=c) (k:=q) hlq
  rw [if_neg (by omega)]at hcq
  have htn:t.n=c:=by
   obtain⟨X,_,oXq⟩:=oX.get ht hcq
   have:=oXq.1
   simp at this;omega
  refine Kn.growAt (A:= [_,_,_]) K9 oX ht hcq (by omega) (by omega) (by omega) ⟨b128,0,rfl,au f128⟩ rfl rfl fun t' Xs' h10 hn' oX' K10=>?_
  rw [Un hlq]at oX'
  simp only [List.cons_append,List.nil_append]at K10
  replace K10:=K10.tl
  clear K9 oX f128
  refine⟨b61,0,rfl,by omega,by show _<((nbA m.nodes a:Nat):Int);omega,?_⟩
  rw [show (0+Int.toNat (q:Int)*1)=q by simp]
  (((with_reducible apply Kn.wr);(assumption);((focus ((repeat first|exact .head|apply Upd.tail);done)))))
  ·rw [List.length_map];omega
  intro h11 K11 _
  rw [bD,show (Value.slice t'.a t'.n t'.c)=Sl.v t' from rfl,<-List.map_set]at K11
  rw [aw (by omega)]
  exact hnx2 hlq _ _ ⟨ts.set q t',Xs',rfl,by rw [List.length_set];exact htl,K11,oX'⟩
 obtain rfl:c=2^fq m:=by omega
 refine aA (decide_eq_false (by omega)) ?_
 clear hnx hlt hci
 have l04:=Hp.le_trans l03 K4.le
 have hT: ∀q t,ts[q]?=some t->eJ h4 t (2^fq m) (qp m a q):=by
  intro q t ht
  have hql:=get_lt ht
  have hcq:=t9 (f:=qp m a) (code:=2^fq m) (k:=0) (show q<nbA m.nodes a by omega)
  rw [if_neg (by omega)]at hcq
  obtain⟨X,hX,oXq⟩:=oX.get ht hcq
  have hn:=oXq.1
  simp at hn
  have:=(oXq.buf fun e he=>K4.mem e (.tail _ (List.mem_flatten.2 ⟨X,List.mem_of_getElem? hX,he⟩))).slc_of (by omega)
  unfold eJ rf
  rw [List.map_map]
  exact this
 have f61:=K4.at (.head _)
 clear K4 oX Xs
 refine ar (nbA m.nodes a) (fun q vs h'=> ∃(s:Sl) (X XO:List (Nat×Blk)) (Xs:List (List (Nat×Blk))) (us:List Sl),vs= [I (fq m:Nat),(arr b61 (nbA m.nodes a)).v,s.v,I (q:Nat)]/\Kn h4 h' X/\xH X s ((sq m a).take q) XO Xs us/\((sq m a).take q).all (·.ok)=true)
  ⟨⟨none,0,0⟩, [], [], [], [],rfl,Kn.nil h4,GB,rfl⟩ ?_
 rintro q _ h5 next hq ⟨s,X,XO,Xs,us,rfl,K5,oB,hall⟩ hnx
 refine⟨_,arr b61 (nbA m.nodes a),s,_,rfl,?_⟩
 by_cases hlq:q<nbA m.nodes a
 rotate_left
 ·refine aA (decide_eq_false (by show¬_<((nbA m.nodes a:Nat):Int);omega)) ?_
  rw [List.take_of_length_le (by rw [qh];omega)]at oB hall
  have e:=hok.trans hall
  have:=k s h5 X XO Xs us (K5.weak l04) (by rw [hR e];exact oB)
  rwa [e]at this
 refine aL (decide_eq_true (by show _<((nbA m.nodes a:Nat):Int);omega)) ?_
 obtain⟨t,ht⟩: ∃t,ts[q]?=some t:=⟨_,List.getElem?_eq_getElem (by omega)⟩
 have hd:=DN (m:=m) (a:=a) hlq
 refine⟨b61,0,rfl,by omega,by show _<((nbA m.nodes a:Nat):Int);omega,t,by rw [av (K5.le _ _ f61),Int.toNat_natCast,Nat.zero_add,Nat.mul_one,List.getElem?_map,ht];rfl,?_⟩
 refine Wm hv13 ((hT q t ht).mono K5.le) fun w h6 l6 ow=>⟨_,_,_,_,rfl,?_⟩
 have htk:=qD hd
 generalize dX (fq m:Nat) (qp m a q)=d at*
 obtain⟨Y,oY,K6⟩:=K5.addOwn l6 ow
 clear K5
 refine Kn.al K6 fun b164 h7 K7 l7 hb164=>?_
 clear K6
 refine kw_ ?_
 intro h8 K8 _
 simp only [ce,List.set_cons_zero,List.set_cons_succ,Nat.zero_add,Nat.reduceAdd]at K8
 clear K7
 refine ad (fun e=>no ?_ (Hp.le_trans l04 K8.le)) (fun e=>?_)
 ·rw [Bool.not_eq_true']at e
  rw [hok]
  exact pJ hd e
 rw [Bool.not_eq_false']at e
 repeat' (refine kr_ ?_)
 refine Kn.al K8 fun b176 h9 K9 l9 hb176=>?_
 clear K8
 have f176:=K9.at (.head _)
 rw [oB.eq]at K9
 rw [List.append_assoc]at K9
 have lens:=oB.out.1
 have e1:=oB.l2
 rw [List.length_take,qh]at e1
 refine Kn.growIn (A:= [_,_]) K9 oB.out (by omega) ?_ ?_ ⟨b176,0,rfl,au f176⟩ rfl rfl fun s' XO' h10 hn' oO' K10 l10=>?_
 ·rw [cf (m:=3) (fun _=>rfl),List.length_zip]at lens
  have:=oB.l2
  omega
 ·rw [cf (m:=3) (fun _=>rfl),List.length_zip]at lens
  have:=oB.l2
  omega
 rw [aw (by omega)]
 refine hnx hlq _ _ ⟨s',XO'++(Xs++ [Y]).flatten,XO',Xs++ [Y],us++ [w],rfl,?_,?_,?_⟩
 ·have:=K10.tl.tl
  rw [List.flatten_append,List.flatten_cons,List.flatten_nil,List.append_nil]
  exact this
 ·rw [htk];exact oB.snoc oY oO'
 ·rw [htk,List.all_append,hall];simp [e]
def vn (f:Nat->Bool) (c n:Nat):List Value:=(List.range n).map fun i=> .int .u8 (if(decide (i<c)&&f i)=true then 1 else 0)
theorem G5 (f:Nat->Bool) (c n:Nat):(vn f c n).length=n:=by simp [vn]
theorem Yq {f:Nat->Bool} {c n:Nat} (h:c<n):(vn f c n).set c (.int .u8 (if f c=true then 1 else 0))=vn f (c+1) n:=by
 apply List.ext_getElem
 ·simp [vn]
 ·intro i h1 h2
  simp only [vn,List.getElem_set,List.getElem_map,List.getElem_range]
  by_cases e:c=i
  ·subst e;simp
  ·rw [if_neg e]
   have:decide (i<c)=decide (i<c+1):=by rw [Bool.eq_iff_iff,decide_eq_true_eq,decide_eq_true_eq];omega
   rw [this]
theorem Wc (f:Nat->Bool) (n:Nat):List.replicate n (Value.int .u8 0)=vn f 0 n:=by
 apply List.ext_getElem
 ·simp [vn]
 ·intro i h1 h2;simp [vn]
theorem aah (f:Nat->Bool) (n:Nat):vn f (2^n) (2^n)=ew n f:=by
 unfold vn ew
 refine List.map_congr_left fun i hi=>?_
 rw [decide_eq_true (List.mem_range.1 hi),Bool.true_and]
theorem Yr (f:Nat->Bool) (c n:Nat):ww (vn f c n):=by
 intro j i h
 simp only [vn,List.getElem?_map,Option.map_eq_some_iff]at h
 obtain⟨a,_,h⟩:=h
 cases h
theorem abr (f:Nat->Bool) (c n:Nat): ∀(j:Nat) (t:Sl),(vn f c n)[j]?≠some t.v:=by
 intro j t h
 simp only [vn,List.getElem?_map,Option.map_eq_some_iff]at h
 obtain⟨a,_,h⟩:=h
 cases h
def yx (f:Nat->Nat->Bool) (K c k N:Nat):List (List Value):=(List.range K).map fun j=>vn (f j) (if j<k then c+1 else c) N
theorem HV (f:Nat->Nat->Bool) (K c k N:Nat):(yx f K c k N).length=K:=by unfold yx;rw [List.length_map,List.length_range]
theorem zq {f:Nat->Nat->Bool} {K c k N j:Nat} (h:j<K):(yx f K c k N)[j]?=some (vn (f j) (if j<k then c+1 else c) N):=by
 unfold yx;rw [List.getElem?_map,List.getElem?_range h];rfl
theorem Vz {f:Nat->Nat->Bool} {K c k N:Nat} (h:k<K):(yx f K c k N).set k (vn (f k) (c+1) N)=yx f K c (k+1) N:=by
 refine List.ext_getElem? fun j=>?_
 by_cases hj:j<K
 ·by_cases e:k=j
  ·subst e
   rw [List.getElem?_set_self (by rw [HV];exact h),zq h,if_pos (by omega)]
  ·rw [List.getElem?_set_ne e,zq hj,zq hj]
   by_cases h2:j<k
   ·rw [if_pos h2,if_pos (by omega)]
   ·rw [if_neg h2,if_neg (by omega)]
 ·rw [List.getElem?_eq_none (by rw [List.length_set,HV];omega),List.getElem?_eq_none (by rw [HV];omega)]
theorem Zu (f:Nat->Nat->Bool) (K c N:Nat):yx f K c K N=yx f K (c+1) 0 N:=by
 unfold yx
 refine List.map_congr_left fun j hj=>?_
 rw [if_pos (List.mem_range.1 hj),if_neg (by omega)]
theorem adR (x w:Nat) (hx:x<65536) (hw:w<=64):IntKind.wrap .u8 (sD (mU (x:Int) (w:Int)) 1)=if x.testBit w=true then 1 else 0:=by
 rw [js hw,XY (by have:=Nat.div_le_self x (2^w);omega)]
 have e:x.testBit w=decide (x/2^w%2=1):=Nat.testBit_eq_decide_div_mod_eq ..
 rw [e]
 rcases Nat.mod_two_eq_zero_or_one (x/2^w)with h|h<;>rw [h]<;>rfl
set_option maxHeartbeats 1000000 in
theorem D3 {gB h:Hp} {m:ah} {vt:Sl} {ts:List Sl} {Xs:List (List (Nat×Blk))} {b54 b10 b41 b52 c a:Nat} {B:List Nat} {z1 z2 z3 z4:Nat} {R:Value->Hp->Prop} (g:cE m) (ha:a<m.nodes.length)
  (f54:gB b54=some (.inl ⟨[(arr b52 (nbA m.nodes a)).v],z1,false⟩)) (f10:gB b10=some (.inl ⟨[I (a:Nat)],z2,false⟩)) (f41:gB b41=some (.inl ⟨[I (az m.nodes a).idx,I (bG m.nodes a:Nat)],z3,false⟩))
  (f52:gB b52=some (.inl ⟨ts.map Sl.v,z4,false⟩)) (htl:ts.length=nbA m.nodes a) (hc:c<2^fq m) (hB:Xs.flatten.map Prod.fst=B) (oX:hG Xs ts 1 (yx (qp m a) (nbA m.nodes a) c 0 (2^fq m))) (K:Kn gB h Xs.flatten)
  (hpv:gv h vt (bR m (c%2^am m.nodes 36) (c/2^am m.nodes 36)))
  (kk: ∀h' Xs',Xs'.flatten.map Prod.fst=B->hG Xs' ts 1 (yx (qp m a) (nbA m.nodes a) (c+1) 0 (2^fq m))->Kn (h.wo B) h' Xs'.flatten->R (.tuple #[]) h'):
  tW #[I (c:Nat),vt.v, .pointer (some ⟨b54,0,none⟩), .pointer (some ⟨b10,0,none⟩), .pointer (some ⟨b41,0,none⟩)] h R:=by
 apply BX
 refine uf_ ?_
 obtain⟨hK,hw1,hw2⟩:=Jv g ha
 have hp13:2^fq m<=2^13:=Nat.pow_le_pow_right (by omega) (by have:=g.n8;have:=g.k5;show am m.nodes 36+am m.nodes 35<=13;omega)
 have lB:gB.le (h.wo B):=hB▸K.leBase
 have KB:Kn (h.wo B) h Xs.flatten:=hB▸K.base
 have aV:=dg g (c%2^am m.nodes 36) (c/2^am m.nodes 36)
 have hfit:=oM g.ok ha (aV.fit a ha ha)
 clear K
 generalize h.wo B=g5 at*
 replace f54:=lB _ _ f54
 replace f10:=lB _ _ f10
 replace f41:=lB _ _ f41
 replace f52:=lB _ _ f52
 (refine kr_ ?_)
 refine ar (nbA m.nodes a) (fun q vs h'=> ∃Xs:List (List (Nat×Blk)),vs= [I (c:Nat),vt.v, .pointer (some ⟨b54,0,none⟩), .pointer (some ⟨b10,0,none⟩), .pointer (some ⟨b41,0,none⟩),I (nbA m.nodes a:Nat),I (q:Nat)]/\Xs.flatten.map Prod.fst=B/\
  hG Xs ts 1 (yx (qp m a) (nbA m.nodes a) c q (2^fq m))/\Kn g5 h' Xs.flatten/\gv h' vt (bR m (c%2^am m.nodes 36) (c/2^am m.nodes 36))) ⟨Xs,rfl,hB,oX,KB,hpv⟩ ?_
 clear KB oX hB hpv Xs lB
 rintro q _ h2 next hq ⟨Xs,rfl,hB,oX,K2,hpv⟩ hnx
 refine⟨_,vt,b54,0,b10,0,b41,0,_,_,rfl,?_⟩
 by_cases hlq:q<nbA m.nodes a
 rotate_left
 ·obtain rfl:q=nbA m.nodes a:=by omega
  refine aA (decide_eq_false (by omega)) ?_
  rw [Zu]at oX
  exact kk h2 Xs hB oX K2
 refine aL (decide_eq_true (by omega)) ?_
 obtain⟨t,ht⟩: ∃t,ts[q]?=some t:=⟨_,List.getElem?_eq_getElem (by omega)⟩
 have f522:=K2.le _ _ f52
 have hcq:=zq (f:=qp m a) (c:=c) (k:=q) (N:=2^fq m) hlq
 rw [if_neg (by omega)]at hcq
 (refine kr_ ?_)
 refine⟨b52,0,rfl,by omega,by show _<((nbA m.nodes a:Nat):Int);omega,t,by rw [av f522,Int.toNat_natCast,Nat.zero_add,Nat.mul_one,List.getElem?_map,ht];rfl,?_⟩
 (refine kr_ ?_)
 obtain⟨bv,ov,u,hav,hvn',hcv,hu⟩:=hpv.at (p:=(a:Nat)) (by omega) (by rw [aV.len];omega)
 rw [Int.toNat_natCast]at hu
 have hun:=hu.len
 rw [aX,hfit.1]at hun
 refine⟨bv,ov,hav,by omega,hvn',u,hcv,?_⟩
 have hqc:q/bG m.nodes a<aF m.nodes a:=by
  unfold nbA at hlq
  exact Nat.div_lt_of_lt_mul hlq
 have hq1:W (Int.tdiv (q:Int) (bG m.nodes a:Nat))=((q/bG m.nodes a:Nat):Int):=by
  rw [uy,fu]
  have:=Nat.div_le_self q (bG m.nodes a)
  omega
 (refine kr_ ?_)
 rw [if_neg (by omega),hq1]
 obtain⟨bu,ou,hau,hcu,hiu⟩:=hu.elt (i:=q/bG m.nodes a) (by rw [hfit.1];exact hqc)
 refine⟨bu,ou,hau,Int.natCast_nonneg _,Int.ofNat_lt.2 (by rw [hun];exact hqc),_,by rw [Int.toNat_natCast];exact hcu,?_⟩
 (refine kr_ ?_)
 rw [if_neg (by omega),eh,if_neg (Int.not_lt.2 (Int.natCast_nonneg _))]
 repeat' (refine kr_ ?_)
 have hxlt:((bR m (c%2^am m.nodes 36) (c/2^am m.nodes 36)).getD a []).getD (q/bG m.nodes a) 0<65536:=by
  have hl:q/bG m.nodes a<((bR m (c%2^am m.nodes 36) (c/2^am m.nodes 36)).getD a []).length:=by rw [hfit.1];exact hqc
  generalize (bR m (c%2^am m.nodes 36) (c/2^am m.nodes 36)).getD a []=xs at*
  have:=hfit.2 (xs.getD (q/bG m.nodes a) 0) (by rw [List.getD_eq_getElem?_getD,List.getElem?_eq_getElem hl];exact List.getElem_mem hl)
  have hp:=Nat.pow_le_pow_right (n:=2) (by omega) hw2
  omega
 rw [adR _ _ hxlt (by have:=Nat.mod_lt q (show 0<bG m.nodes a by omega);omega)]
 obtain⟨b,Xs',hta,oX',up⟩:=oX.upd (A:= []) (i:=c) (v:= .int .u8 (if qp m a q c=true then 1 else 0)) ht hcq (by rw [G5];exact hc)
 have hB':=hG.keys up
 rw [Yq hc,Vz hlq]at oX'
 have hfb:=K2.at (show _∈Xs.flatten from up.mem)
 have htn:t.n=2^fq m:=by
  obtain⟨X,_,oXq⟩:=oX.get ht hcq
  have:=oXq.1
  rw [G5]at this;omega
 refine⟨b,0,hta,by omega,by omega,?_⟩
 rw [show (0+Int.toNat (c:Int)*1)=c by simp]
 have u':Upd Xs.flatten b (.inl ⟨vn (qp m a q) c (2^fq m),t.c*1,false⟩) (.inl ⟨ce (vn (qp m a q) c (2^fq m)) c [.int .u8 (if qp m a q c=true then 1 else 0)],t.c*1,false⟩) Xs'.flatten:=up
 refine K2.wr u' (by rw [G5];omega) fun h3 K3 kp=>?_
 rw [aw (by omega)]
 exact hnx hlq _ _ ⟨Xs',rfl,hB'.trans hB,oX',K3,hpv.keep hfb (Yr _ _ _) (abr _ _ _) kp⟩
theorem hG.snoc {Xs:List (List (Nat×Blk))} {ts:List Sl} {sz:Nat} {css:List (List Value)} {X:List (Nat×Blk)} {t:Sl} {cs:List Value} (o:hG Xs ts sz css) (g:bW X t sz cs):hG (Xs++ [X]) (ts++ [t]) sz (css++ [cs]):=by
 have e1:=o.l1
 have e2:=o.l2
 refine⟨by simp [e1],by simp [e2],fun k Y u ds hY hu hd=>?_⟩
 by_cases hk:k<ts.length
 ·rw [List.getElem?_append_left (by omega)]at hY hu hd
  exact o.at_ k Y u ds hY hu hd
 ·have:=get_lt hu
  simp at this
  obtain rfl:k=ts.length:=by omega
  rw [List.getElem?_append_right (by omega),show ts.length-Xs.length=0 by omega]at hY
  rw [List.getElem?_append_right (Nat.le_refl _),Nat.sub_self]at hu
  rw [List.getElem?_append_right (by omega),show ts.length-css.length=0 by omega]at hd
  simp at hY hu hd
  subst hY;subst hu;subst hd
  exact g
theorem Vh (f:Nat->Nat->Bool) (K N:Nat):yx f (K+1) 0 0 N=yx f K 0 0 N++ [vn (f K) 0 N]:=by
 unfold yx
 rw [List.range_succ,List.map_append];rfl
set_option maxHeartbeats 4000000 in
theorem uv {h:Hp} {M:MSl} {m:ah} {x:Int} {R:Value->Hp->Prop} (hs:aM h M m) (hm:bM m)
  (k: ∀s h' X XO Xs ts,Kn h h' X->xH X s (rA m x) XO Xs ts->R (.tuple #[Sl.v s, .bool (ji m x)]) h'):jj #[aN M,I x] h R:=by
 apply Gf
 refine uf_ ?_
 (with_reducible apply Kn.al);(exact Kn.nil h);(intro b8 h1 K1 l1 hb8)
 refine Kn.al K1 fun b10 h2 K2 l2 hb10=>?_
 clear K1
 have hnn:=hs.nodes.len
 have hns:=hm.nodes
 have no: ∀{h':Hp},ji m x=false->h.le h'->R (.tuple #[.slice none 0 0, .bool false]) h':=by
  intro h' e l
  have:=k ⟨none,0,0⟩ h' [] [] [] [] (Kn.of l) (by rw [G9 e];exact GB)
  rw [e]at this
  exact this
 refine aq (fun J=> ∀c,(c=true->ji m x=false)->(c=false->aD m=0/\0<=x/\x<m.nodes.length)->J c h2) (fun c hc1 hc2=>ad (fun e=>no (hc1 e) K2.le) (fun e=>?_)) (fun J hJ=>?_)
 rotate_left
 ·repeat' (refine kr_ ?_)
  refine im (hs.mono K2.le) hm ⟨_,rfl,ad (fun e=>hJ _ (fun _=>?_) (fun e=>nomatch e)) (fun e=>?_)⟩
  ·unfold ji
   rw [decide_eq_false (iQ e),Bool.false_and]
  repeat' (refine kr_ ?_)
  refine sP hnn hm.nodes ⟨_,rfl,hJ _ (fun q=>?_) (fun q=>?_)⟩
  ·unfold ji
   rw [Bool.not_eq_true',Bool.eq_false_iff]at q
   rw [decide_eq_false (p:=0<=x/\x<=(m.nodes.length:Int)-1) (fun r=>q (eV.2 (by omega))),Bool.false_and,Bool.and_false]
  ·rw [Bool.not_eq_false']at q
   have:=eV.1 q
   exact⟨gV e,this.1,this.2⟩
 obtain⟨hc,x0,x1⟩:=hc2 e
 clear hc1 hc2 e c
 obtain⟨a,rfl⟩: ∃a:Nat,x=a:=⟨x.toNat,by omega⟩
 have ha:a<m.nodes.length:=by omega
 have g:=cA hc
 have n8:=g.n8
 have k5:=g.k5
 obtain⟨hK,hw1,hw2⟩:=Jv g ha
 have hok:ji m (a:Nat)=(sq m a).all (·.ok):=by
  unfold ji
  rw [decide_eq_true hc,decide_eq_true ⟨by omega,by omega⟩,Bool.true_and,Bool.true_and,Int.toNat_natCast]
 have hR:ji m (a:Nat)=true->rA m (a:Nat)=sq m a:=fun e=>by unfold rA;rw [e,if_pos rfl,Int.toNat_natCast]
 have hp13:2^fq m<=2^13:=Nat.pow_le_pow_right (by omega) (by show am m.nodes 36+am m.nodes 35<=13;omega)
 have hv13:fq m<=13:=by show am m.nodes 36+am m.nodes 35<=13;omega
 repeat' (refine kr_ ?_)
 obtain⟨bn,on,han,hpn',c6,c7,w1,w16⟩:=(hs.mono K2.le).nodes.sortc2 ha g.ok
 refine⟨bn,on,han,by omega,hpn',_,c6,_,c7,?_⟩
 refine Kn.al K2 fun b41 h3 K3 l3 hb41=>?_
 refine kw_ ?_
 intro h4 K4 _
 simp only [ce,List.set_cons_zero,List.set_cons_succ,Nat.zero_add,Nat.reduceAdd]at K4
 clear K2 K3 c6 c7 han hpn'
 repeat' (refine kr_ ?_)
 refine nV ⟨_,rfl,?_⟩
 have e1:dz ⟨(az m.nodes a).idx,(bG m.nodes a:Nat)⟩=nbA m.nodes a:=by
  unfold dz nbA
  rw [nr g.ok ha,Int.toNat_natCast,Nat.mul_comm]
 rw [e1]
 refine⟨by omega,by omega,by omega,by omega,?_⟩
 rw [Int.toNat_natCast,Nat.mul_one,ct]
 refine Kn.al K4 fun b52 h5 K5 l5 hb52=>?_
 refine Kn.al K5 fun b54 h6 K6 l6 hb54=>?_
 clear K4 K5
 refine kw_ ?_
 intro h7 K7 _
 simp only [ce,List.set_cons_zero,List.set_cons_succ,Nat.zero_add,Nat.reduceAdd]at K7
 clear K6
 replace K7:Kn h h7 ((b54, .inl ⟨[(arr b52 (nbA m.nodes a)).v],1,false⟩)::(b52, .inl ⟨List.replicate (nbA m.nodes a) (.slice none 0 0),nbA m.nodes a,false⟩)::(b41, .inl ⟨[I (az m.nodes a).idx,I (bG m.nodes a:Nat)],2,false⟩)::(b10, .inl ⟨[I (a:Nat)],1,false⟩)::(b8, .inl ⟨aG M,5,false⟩):: []):=K7
 (refine kr_ ?_)
 obtain⟨gA,KA,KL⟩:=Kn.cut (A:= [(b54, .inl ⟨[(arr b52 (nbA m.nodes a)).v],1,false⟩),(b41, .inl ⟨[I (az m.nodes a).idx,I (bG m.nodes a:Nat)],2,false⟩),(b10, .inl ⟨[I (a:Nat)],1,false⟩),(b8, .inl ⟨aG M,5,false⟩)])
  (L:= [(b52, .inl ⟨List.replicate (nbA m.nodes a) (.slice none 0 0),nbA m.nodes a,false⟩)]) (K7.perm (List.Perm.cons _ (List.perm_append_comm (l₁:= [_]))))
 have f54:=KA.at (b:=b54) (by((focus ((repeat first|exact .head _|apply List.Mem.tail);done))))
 have f41:=KA.at (b:=b41) (by((focus ((repeat first|exact .head _|apply List.Mem.tail);done))))
 have f10:=KA.at (b:=b10) (by((focus ((repeat first|exact .head _|apply List.Mem.tail);done))))
 have f8:=KA.at (b:=b8) (by((focus ((repeat first|exact .head _|apply List.Mem.tail);done))))
 have x54:=bV f54
 have x41:=bV f41
 have x10:=bV f10
 have x8:=bV f8
 have hsA:=hs.mono KA.le
 have l0A:=KA.le
 clear K7 KA
 have hsum:W (((am m.nodes 36:Nat):Int)+((am m.nodes 35:Nat):Int))=((fq m:Nat):Int):=by rw [bQ (by omega) (by omega)];show _=((am m.nodes 36+am m.nodes 35:Nat):Int);omega
 refine ar (nbA m.nodes a) (fun i vs h'=> ∃(us:List Sl) (Xs:List (List (Nat×Blk))),vs= [.pointer (some ⟨b8,0,none⟩), .pointer (some ⟨b10,0,none⟩), .pointer (some ⟨b41,0,none⟩), .pointer (some ⟨b54,0,none⟩),I (nbA m.nodes a:Nat),I (i:Nat)]/\us.length=i/\
  Kn gA h' ((b52, .inl ⟨us.map Sl.v++List.replicate (nbA m.nodes a-i) (.slice none 0 0),nbA m.nodes a,false⟩)::Xs.flatten)/\hG Xs us 1 (yx (qp m a) i 0 0 (2^fq m)))
  ⟨[], [],rfl,rfl,by simpa using KL,⟨rfl,rfl,fun k X t cs h=>by simp at h⟩⟩ ?_
 clear KL
 rintro i _ h8 next hi ⟨us,Xs,rfl,hul,K8,oX⟩ hnx
 refine⟨b8,0,b10,0,b41,0,b54,0,_,_,rfl,?_⟩
 by_cases hlt:i<nbA m.nodes a
 ·refine aL (decide_eq_true (by omega)) ?_
  repeat' (refine kr_ ?_)
  refine fN (hsA.mono K8.le) hm ⟨_,rfl,?_⟩
  repeat' (refine kr_ ?_)
  refine fN (hsA.mono K8.le) hm ⟨_,rfl,?_⟩
  repeat' (refine kr_ ?_)
  rw [hsum,if_neg (by omega),ck (by omega)]
  refine⟨Int.natCast_nonneg _,Int.le_refl _,by omega,by omega,?_⟩
  rw [Int.toNat_natCast,Nat.mul_one,ct]
  refine Kn.al K8 fun b97 h9 K9 l9 hb97=>?_
  repeat' (refine kr_ ?_)
  clear K8
  refine⟨by omega,by show _<((nbA m.nodes a:Nat):Int);omega,?_⟩
  rw [show (0+Int.toNat (i:Int)*1)=i by simp]
  (((with_reducible apply Kn.wr);(assumption);((focus ((repeat first|exact .head|apply Upd.tail);done)))))
  ·simp;omega
  intro h10 K10 _
  rw [aw (by omega)]
  have hset:ce (us.map Sl.v++List.replicate (nbA m.nodes a-i) (.slice none 0 0)) i [.slice (some (Addr.mk b97 0 none)) (2^fq m) (2^fq m)]=(us++ [arr b97 (2^fq m)]).map Sl.v++List.replicate (nbA m.nodes a-(i+1)) (.slice none 0 0):=by
   rw [bD,List.set_append_right _ _ (by simp;omega),List.length_map,hul,Nat.sub_self,show nbA m.nodes a-i=(nbA m.nodes a-(i+1))+1 by omega,List.replicate_succ,List.set_cons_zero,List.map_append,List.append_assoc];rfl
  rw [hset]at K10
  refine hnx hlt _ _ ⟨us++ [arr b97 (2^fq m)],Xs++ [[(b97, .inl ⟨List.replicate (2^fq m) (.int .u8 0),2^fq m,false⟩)]],rfl,by simp [hul],?_,?_⟩
  ·rw [List.flatten_append,List.flatten_cons,List.flatten_nil,List.append_nil]
   refine K10.perm ?_
   refine(List.Perm.swap _ _ _).trans (List.Perm.cons _ ?_)
   exact List.perm_append_comm (l₁:= [_])
  ·rw [Vh]
   refine oX.snoc ?_
   rw [<-Wc]
   exact⟨by simp,Nat.le_refl _, .inr ⟨b97,rfl,by rw [Nat.mul_one]⟩⟩
 refine aA (decide_eq_false (by omega)) ?_
 obtain rfl:i=nbA m.nodes a:=by omega
 clear hnx hlt hi
 rw [Nat.sub_self,List.replicate_zero,List.append_nil]at K8
 obtain⟨g0,KB,KL⟩:=Kn.cut (A:= [_]) K8
 have f52:=KB.at (.head _)
 have lA0:=KB.le
 replace f54:=lA0 _ _ f54
 replace f41:=lA0 _ _ f41
 replace f10:=lA0 _ _ f10
 replace f8:=lA0 _ _ f8
 have hs0:=hsA.mono lA0
 have l00:=Hp.le_trans l0A lA0
 clear K8 KB
 repeat' (refine kr_ ?_)
 refine Mi (B:=Xs.flatten.map Prod.fst) (st:=fun c h'=> ∃Xs',Xs'.flatten.map Prod.fst=Xs.flatten.map Prod.fst/\hG Xs' us 1 (yx (qp m a) (nbA m.nodes a) c 0 (2^fq m))/\Kn g0 h' Xs'.flatten) (hs0.mono KL.leBase) hm g KL.has
  (fun c h1 h2 ⟨Xs',e1,e2,e3⟩ l=>⟨Xs',e1,e2,e3.mono l⟩) ⟨Xs,rfl,oX,KL⟩ (fun c hc' h1 t l ⟨Xs',e1,e2,e3⟩ hpv R' kk=>?_) (fun h9 l9 ⟨Xs',e1,e2,e3⟩=>⟨rfl,?_⟩)
 ·exact D3 g ha f54 f10 f41 f52 hul hc' e1 e2 e3 hpv fun h2 Xs2 q1 q2 q3=>kk h2 ⟨Xs2,q1,q2,q3.weak (e1▸e3.leBase)⟩ q3.le
 replace e2:hG Xs' us 1 (yx (qp m a) (nbA m.nodes a) (2^fq m) 0 (2^fq m)):=e2
 have hT: ∀q t,us[q]?=some t->Bs h9 t (fq m) (qp m a q):=by
  intro q t ht
  have hql:=get_lt ht
  have hcq:=zq (f:=qp m a) (c:=2^fq m) (k:=0) (N:=2^fq m) (show q<nbA m.nodes a by omega)
  rw [if_neg (by omega),aah]at hcq
  obtain⟨X,hX,oXq⟩:=e2.get ht hcq
  have hn:=oXq.1
  rw [xt]at hn
  exact(oXq.buf fun e he=>e3.mem e (List.mem_flatten.2 ⟨X,List.mem_of_getElem? hX,he⟩)).slc_of (by omega)
 have f529:=e3.le _ _ f52
 have l09:=Hp.le_trans l00 e3.le
 have K9:=Kn.of e3.le
 (refine kr_ ?_)
 clear K9 e2 e3 oX KL l9
 refine ar (nbA m.nodes a) (fun q vs h'=> ∃(s:Sl) (X XO:List (Nat×Blk)) (Xs:List (List (Nat×Blk))) (ws:List Sl),vs= [s.v,(arr b52 (nbA m.nodes a)).v,I (nbA m.nodes a:Nat),I (q:Nat)]/\Kn h9 h' X/\xH X s ((sq m a).take q) XO Xs ws/\((sq m a).take q).all (·.ok)=true)
  ⟨⟨none,0,0⟩, [], [], [], [],rfl,Kn.nil h9,GB,rfl⟩ ?_
 rintro q _ h5 next hq ⟨s,X,XO,Xs,ws,rfl,K5,oB,hall⟩ hnx
 refine⟨s,arr b52 (nbA m.nodes a),_,_,rfl,?_⟩
 by_cases hlq:q<nbA m.nodes a
 rotate_left
 ·refine aA (decide_eq_false (by omega)) ?_
  rw [List.take_of_length_le (by rw [qh];omega)]at oB hall
  have e:=hok.trans hall
  have:=k s h5 X XO Xs ws (K5.weak l09) (by rw [hR e];exact oB)
  rwa [e]at this
 refine aL (decide_eq_true (by omega)) ?_
 obtain⟨t,ht⟩: ∃t,us[q]?=some t:=⟨_,List.getElem?_eq_getElem (by omega)⟩
 have hd:=DN (m:=m) (a:=a) hlq
 refine⟨b52,0,rfl,by omega,by show _<((nbA m.nodes a:Nat):Int);omega,t,by rw [av (K5.le _ _ f529),Int.toNat_natCast,Nat.zero_add,Nat.mul_one,List.getElem?_map,ht];rfl,?_⟩
 refine Lx hv13 ((hT q t ht).mono K5.le) fun w h6 l6 ow=>⟨_,_,_,_,rfl,?_⟩
 have htk:=qD hd
 generalize dX (fq m:Nat) (qp m a q)=d at*
 obtain⟨Y,oY,K6⟩:=K5.addOwn l6 ow
 clear K5
 refine Kn.al K6 fun b164 h7 K7 l7 hb164=>?_
 clear K6
 refine kw_ ?_
 intro h8 K8 _
 simp only [ce,List.set_cons_zero,List.set_cons_succ,Nat.zero_add,Nat.reduceAdd]at K8
 clear K7
 refine ad (fun e=>no ?_ (Hp.le_trans l09 K8.le)) (fun e=>?_)
 ·rw [Bool.not_eq_true']at e
  rw [hok]
  exact pJ hd e
 rw [Bool.not_eq_false']at e
 repeat' (refine kr_ ?_)
 refine Kn.al K8 fun b176 h9' K9 l9 hb176=>?_
 clear K8
 have f176:=K9.at (.head _)
 rw [oB.eq]at K9
 rw [List.append_assoc]at K9
 have lens:=oB.out.1
 have e1:=oB.l2
 rw [List.length_take,qh]at e1
 refine Kn.growIn (A:= [_,_]) K9 oB.out (by omega) ?_ ?_ ⟨b176,0,rfl,au f176⟩ rfl rfl fun s' XO' h10 hn' oO' K10 l10=>?_
 ·rw [cf (m:=3) (fun _=>rfl),List.length_zip]at lens
  have:=oB.l2
  omega
 ·rw [cf (m:=3) (fun _=>rfl),List.length_zip]at lens
  have:=oB.l2
  omega
 rw [aw (by omega)]
 refine hnx hlq _ _ ⟨s',XO'++(Xs++ [Y]).flatten,XO',Xs++ [Y],ws++ [w],rfl,?_,?_,?_⟩
 ·have:=K10.tl.tl
  rw [List.flatten_append,List.flatten_cons,List.flatten_nil,List.append_nil]
  exact this
 ·rw [htk];exact oB.snoc oY oO'
 ·rw [htk,List.all_append,hall];simp [e]
theorem CE {h:Hp} {s:Sl} {bs:List Nat} {R:Value->Hp->Prop} (hcap:s.n<=s.c) (hs:ByteS h s bs)
  (k: ∀(h':Hp) (M:MSl) (m:ah) (x:Int),h.le h'->aM h' M m->bM m->R (.tuple #[aN M,I x]) h'):mP #[s.v] h R:=by
 apply AD
 refine uf_ ?_
 (with_reducible apply Kn.al);(exact Kn.nil h);(intro b3 h1 K1 l1 hb3)
 refine Oj K1 hcap hs fun B h2 s' bs' hb K2=>⟨_,rfl,?_⟩
 clear K1
 refine FD K2 hb (by omega) fun h3 q X M m K3 o d hq=>⟨_,_,_,_,_,rfl,?_⟩
 clear K2
 refine Kn.al K3 fun b17 h4 K4 l4 hb17=>?_
 refine vp (M':=M) K4 (by((focus ((repeat first|exact .head|apply Upd.tail);done)))) rfl fun h5 K5=>?_
 clear K3 K4
 simp only [List.cons_append,List.nil_append]at K5
 have hm:=d.small (by omega)
 have hl:=o.lens.1
 have hl2:=d.nodes
 repeat' (refine kr_ ?_)
 rw [bQ (by omega) (by omega)]
 refine kp_ ?_
 intro x h6 K6 _ _
 refine⟨_,rfl,?_⟩
 repeat' (refine kr_ ?_)
 refine kp_ ?_
 intro y h7 K7 _ _
 refine⟨_,rfl,?_⟩
 repeat' (refine kr_ ?_)
 clear K5 K6
 refine vp (M':=M) K7 (by((focus ((repeat first|exact .head|apply Upd.tail);done)))) rfl fun h8 K8=>?_
 clear K7
 repeat' (refine kr_ ?_)
 exact k h8 M m _ K8.le (o.modelS (A:= [_,_,_]) hm K8) hm
theorem NE {h:Hp} {M:MSl} {m:ah} {sS sI:Sl} {c d:Nat} {R:Value->Hp->Prop} (hs:aM h M m) (hm:bM m) (hc:aD m=0)
  (h1:IntSS h sS ((dR m.nodes (stP m) c).map VL)) (h2:IntSS h sI ((dR m.nodes (inP m) d).map VL)) (k: ∀t h',h.le h'->t.n=m.nodes.length->gv h' t (bR m c d)->R (Sl.v t) h'):tA #[aN M,sS.v,sI.v] h R:=by
 apply Jb
 refine uf_ ?_
 have g:=cA hc
 refine ai fun b9 g1 hb9 l1 f9=>?_
 refine aq (fun J=>J false g1) (aA rfl ?_) (fun J hJ=>?_)
 ·repeat' (refine ku_ ?_)
  exact nQ (hs.up (by((focus ((repeat (first|exact Hp.le_refl _|assumption|(refine Hp.le_trans ?_ (by assumption))));done))))) hm g.ok g.nl (h1.up (by((focus ((repeat (first|exact Hp.le_refl _|assumption|(refine Hp.le_trans ?_ (by assumption))));done))))) (j7 36 c g) (h2.up (by((focus ((repeat (first|exact Hp.le_refl _|assumption|(refine Hp.le_trans ?_ (by assumption))));done))))) (j7 35 d g) fun t g2 l2 hn hpv _=>⟨t,rfl,k t g2 (Hp.le_trans l1 l2) hn hpv⟩
 ·repeat' (refine ku_ ?_)
  refine fT (hs.up (by((focus ((repeat (first|exact Hp.le_refl _|assumption|(refine Hp.le_trans ?_ (by assumption))));done))))) hm hc (h1.up (by((focus ((repeat (first|exact Hp.le_refl _|assumption|(refine Hp.le_trans ?_ (by assumption))));done))))) (j4 ..) ⟨_,rfl,aA rfl ?_⟩
  repeat' (refine ku_ ?_)
  exact jK (hs.up (by((focus ((repeat (first|exact Hp.le_refl _|assumption|(refine Hp.le_trans ?_ (by assumption))));done))))) hm hc (h2.up (by((focus ((repeat (first|exact Hp.le_refl _|assumption|(refine Hp.le_trans ?_ (by assumption))));done))))) (j4 ..) ⟨_,rfl,hJ⟩
theorem xH.get {X XO:List (Nat×Blk)} {Xs:List (List (Nat×Blk))} {ts:List Sl} {s:Sl} {ds:List Bd} {g h:Hp} {k:Nat} {d:Bd} (o:xH X s ds XO Xs ts) (K:Kn g h X) (hl:ds.length<=1000) (hk:ds[k]?=some d):
  ∃b q t,s.a=some (Addr.mk b q none)/\(0:Int)<=(k:Nat)/\((k:Nat):Int)<(s.n:Int)/\Hp.cell h b (q+Int.toNat ((k:Nat):Int)*3)=some (I d.v)/\Hp.cell h b ((q+Int.toNat ((k:Nat):Int)*3)+1)=some (Sl.v t)/\Hp.cell h b ((q+Int.toNat ((k:Nat):Int)*3)+2)=some (I d.r)/\SlC h t 3 (cQ d.ns):=by
 have hkl:=get_lt hk
 have e1:=o.l1
 have e2:=o.l2
 obtain⟨t,ht⟩: ∃t,ts[k]?=some t:=⟨_,List.getElem?_eq_getElem (by omega)⟩
 obtain⟨Y,hY⟩: ∃Y,Xs[k]?=some Y:=⟨_,List.getElem?_eq_getElem (by omega)⟩
 have oY:=o.inn k Y t d hY ht hk
 have lo:=o.out.1
 rw [cf (m:=3) (fun _=>rfl),List.length_zip]at lo
 have hm1: ∀e∈XO,h e.1=some e.2:=fun e he=>K.mem e (by rw [o.eq];exact List.mem_append_left _ he)
 have hm2: ∀e∈Y,h e.1=some e.2:=fun e he=>K.mem e (by rw [o.eq];exact List.mem_append_right _ (List.mem_flatten.2 ⟨Y,List.mem_of_getElem? hY,he⟩))
 obtain⟨b,q,ha,hcc⟩:=SlC.get ((o.out.buf hm1).slc_of (by omega)) (by omega)
 have hz:(ts.zip ds)[k]?=some (t,d):=by
  rw [List.getElem?_zip_eq_some];exact⟨ht,hk⟩
 have cc: ∀j v,j<3-> [I d.v,t.v,I d.r][j]?=some v->Hp.cell h b ((q+k*3)+j)=some v:=fun j v hj hv=>by
  rw [Nat.add_assoc]
  refine hcc _ _ ?_
  rw [lY (m:=3) (fun _=>rfl) (ts.zip ds) k (t,d) j hz hj];exact hv
 refine⟨b,q,t,ha,by omega,by omega,?_,?_,?_,oY.slcOf hm2⟩
 ·rw [Int.toNat_natCast];exact cc 0 _ (by omega) rfl
 ·rw [Int.toNat_natCast];exact cc 1 _ (by omega) rfl
 ·rw [Int.toNat_natCast];exact cc 2 _ (by omega) rfl
theorem xH.len {X XO:List (Nat×Blk)} {Xs:List (List (Nat×Blk))} {ts:List Sl} {s:Sl} {ds:List Bd} (o:xH X s ds XO Xs ts):s.n=ds.length:=by
 have lo:=o.out.1
 have:=o.l2
 rw [cf (m:=3) (fun _=>rfl),List.length_zip]at lo
 omega
theorem act {m:ah} {at_ k a b:Nat} (ha:a<2^am m.nodes 36):qp m at_ k (b*2^am m.nodes 36+a)=(((bR m a b).getD at_ []).getD (k/bG m.nodes at_) 0).testBit (k%bG m.nodes at_):=by
 have h1:(b*2^am m.nodes 36+a)%2^am m.nodes 36=a:=by rw [Nat.mul_add_mod_self_right,Nat.mod_eq_of_lt ha]
 have h2:(b*2^am m.nodes 36+a)/2^am m.nodes 36=b:=by
  rw [Nat.mul_comm,Nat.mul_add_div (Nat.two_pow_pos _),Nat.div_eq_of_lt ha,Nat.add_zero]
 unfold qp
 rw [h1,h2]
theorem acr (x w:Nat) (hw:w<=64):(Int.tmod (mU (x:Int) (w:Int)) 2==1)=x.testBit w:=by
 rw [js hw]
 have e:x.testBit w=decide (x/2^w%2=1):=Nat.testBit_eq_decide_div_mod_eq ..
 rw [e,show (2:Int)=((2:Nat):Int)from rfl,eh]
 rcases Nat.mod_two_eq_zero_or_one (x/2^w)with h|h<;>rw [h]<;>rfl
set_option maxHeartbeats 4000000 in
theorem FnBits_spec {h:Hp} {s t:Sl} {bs ts:List Nat} {R:Value->Hp->Prop} (hcap:s.n<=s.c) (hs:ByteS h s bs) (hcap2:t.n<=t.c) (ht:ByteS h t ts) (k:R (.bool true) h):Bp #[s.v,t.v] h R:=by
 refine ACalls.drop (JX ?_)
 refine uf_ ?_
 refine aq (fun J=> ∀c,J c) (fun c=>ad (fun _=>⟨h,Hp.le_refl _,k⟩) (fun _=>?_)) (fun J hJ=>ad (fun _=>hJ _) (fun _=>hJ _))
 refine CE hcap hs fun h1 M m x l1 hM hm=>⟨_,_,_,_,_,_,rfl,?_⟩
 have ht1:=ht.mono l1
 have fin: ∀h',h1.le h'-> ∃h'',h''.le h'/\R (.bool true) h'':=fun h' l=>⟨h,Hp.le_trans l1 l,k⟩
 (with_reducible apply Kn.al);(exact Kn.nil h1);(intro b17 h2 K1 l2 hb17)
 refine vp (M':=M) K1 (by((focus ((repeat first|exact .head|apply Upd.tail);done)))) rfl fun h3 K3=>?_
 clear K1
 repeat' (refine kr_ ?_)
 refine uv (hM.mono K3.le) hm fun gs h4 X XO Xs us KX oB=>⟨_,_,rfl,?_⟩
 have K4:=K3.mono KX.le
 clear K3
 repeat' (refine kr_ ?_)
 refine tM (hM.mono K4.le) hm fun ws h5 X2 XO2 Xs2 us2 KX2 oB2=>⟨_,_,rfl,?_⟩
 have K5:=K4.mono KX2.le
 have l45:=KX2.le
 clear K4
 have gl:=oB.len
 have wl:=oB2.len
 refine aq (fun J=>J false) (aA rfl ?_) (fun J hJ=>?_)
 rotate_left
 ·refine aA (by simp) ?_
  rw [show ((gs.n:Int) !=(ws.n:Int))=false by rw [gl,wl,bne_self_eq_false]]
  exact hJ
 clear oB2 wl KX2
 refine ad (fun e=>?_) (fun e=>?_)
 ·rw [Bool.not_eq_true']at e
  rw [G9 e]at gl
  rw [show ((gs.n:Int)==0)=true by rw [beq_iff_eq];simp at gl;omega]
  exact fin _ K5.le
 rw [Bool.not_eq_false']at e
 have hall:rA m x=sq m x.toNat/\aD m=0/\(0<=x/\x<=(m.nodes.length:Int)-1)/\(sq m x.toNat).all (·.ok)=true:=by
  have e':=e
  unfold ji at e'
  simp only [Bool.and_eq_true,decide_eq_true_eq]at e'
  exact⟨by unfold rA;rw [e];rfl,e'.1,e'.2.1,e'.2.2⟩
 obtain⟨hR,hc,hx,hok⟩:=hall
 clear e
 obtain⟨a,rfl⟩: ∃a:Nat,x=a:=⟨x.toNat,by omega⟩
 rw [Int.toNat_natCast]at hR hok
 rw [hR]at oB gl
 rw [qh]at gl
 have ha:a<m.nodes.length:=by omega
 have g:=cA hc
 have n8:=g.n8
 have k5:=g.k5
 obtain⟨hK,hw1,hw2⟩:=Jv g ha
 repeat' (refine kr_ ?_)
 refine ur (hM.mono K5.le) hm hc ⟨_,_,rfl,?_⟩
 repeat' (refine kr_ ?_)
 obtain⟨bn,on,han,hpn',c6,c7,w1,w16⟩:=(hM.mono K5.le).nodes.sortc2 ha g.ok
 refine⟨bn,on,han,by omega,hpn',_,c7,?_⟩
 clear c6 c7 han hpn'
 have f17:=K5.at (b:=b17) (by((focus ((repeat first|exact .head _|apply List.Mem.tail);done))))
 have x17:=bV f17
 have hM5:=hM.mono K5.le
 have ht5:=ht1.mono K5.le
 have l15:=K5.le
 have Kb:=KX.mono l45
 clear K5 KX
 refine ar 6 (fun i vs h'=>vs= [t.v, .pointer (some ⟨b17,0,none⟩),I (a:Nat),gs.v,I (am m.nodes 36:Nat),I (bG m.nodes a:Nat),I (i:Nat)]/\h5.le h') ⟨rfl,Hp.le_refl _⟩ ?_
 rintro i _ h6 next hi ⟨rfl,l6⟩ hnx
 refine⟨t,b17,0,_,gs,_,_,_,rfl,?_⟩
 have K6:=Kn.of l6
 by_cases hlt:i<6
 rotate_left
 ·exact aA (decide_eq_false (by omega)) (fin _ (Hp.le_trans l15 l6))
 refine aL (decide_eq_true (by omega)) ?_
 repeat' (refine kr_ ?_)
 rw [show W (2*(i:Int))=((2*i:Nat):Int) by rw [bQ (by omega) (by omega)];omega]
 refine Nv (hM5.mono l6) hm hc (ht5.mono l6) (by omega) fun ca cb sS sI h7 hca hcb l7 iS iI=>⟨_,_,_,_,rfl,?_⟩
 have K7:=K6.mono l7
 obtain⟨w1',w2,w3⟩:=abK n8 k5 hca hcb
 repeat' (refine kr_ ?_)
 refine NE (hM5.mono K7.le) hm hc iS iI fun vt h8 l8 hvn hpv=>⟨_,rfl,?_⟩
 have K8:=K7.mono l8
 have aV:=dg g ca cb
 have hfit:=oM g.ok ha (aV.fit a ha ha)
 obtain⟨bv,ov,u,hav,hvn',hcv,hu⟩:=hpv.at (p:=(a:Nat)) (by omega) (by rw [aV.len];omega)
 rw [Int.toNat_natCast]at hu
 have hun:=hu.len
 rw [aX,hfit.1]at hun
 refine⟨bv,ov,hav,by omega,hvn',u,hcv,?_⟩
 clear K6 K7
 refine Kn.al K8 fun b104 h9 K9 l9 hb104=>?_
 refine kw_ ?_
 intro h10 K10 kp10
 simp only [ce,List.set_cons_zero,List.set_cons_succ,Nat.zero_add,Nat.reduceAdd]at K10
 have l810:=jg hb104 l9 kp10
 replace hu:=hu.mono l810
 clear K8 K9 kp10 l9 hb104
 refine ar (nbA m.nodes a) (fun q vs h'=>vs= [t.v, .pointer (some ⟨b17,0,none⟩),I (a:Nat),gs.v,I (am m.nodes 36:Nat),I (bG m.nodes a:Nat),I (i:Nat),I (ca:Nat),I (cb:Nat), .pointer (some ⟨b104,0,none⟩),I (q:Nat)]/\h'=h10) ⟨rfl,rfl⟩ ?_
 rintro q _ h11 next2 hq ⟨rfl,e11⟩ hnx2
 rw [e11]
 clear e11 h11
 refine⟨t,b17,0,_,gs,_,_,_,_,_,b104,0,_,rfl,?_⟩
 by_cases hlq:q<nbA m.nodes a
 rotate_left
 ·refine aA (decide_eq_false (by omega)) ?_
  rw [aw (by omega)]
  exact hnx hlt _ _ ⟨rfl,K10.le⟩
 refine aL (decide_eq_true (by omega)) ?_
 have hd:=DN (m:=m) (a:=a) hlq
 have hdo:=List.all_eq_true.1 hok _ (List.mem_of_getElem? hd)
 obtain⟨r,ev,er,D⟩:=CL hdo
 have hqc:q/bG m.nodes a<aF m.nodes a:=by
  unfold nbA at hlq
  exact Nat.div_lt_of_lt_mul hlq
 have hqm:=Nat.mod_lt q (show 0<bG m.nodes a by omega)
 have hq1:W (Int.tdiv (q:Int) (bG m.nodes a:Nat))=((q/bG m.nodes a:Nat):Int):=by
  rw [uy,fu]
  have:=Nat.div_le_self q (bG m.nodes a)
  omega
 have hbit:=act (m:=m) (at_:=a) (k:=q) (b:=cb) hca
 refine aq (fun J=>J h10) ?_ (fun J hJ=>?_)
 ·rw [aw (by omega)]
  exact hnx2 hlq _ _ ⟨rfl,rfl⟩
 obtain⟨bg,og,dt,hga,g0,g1,c0,c1,c2,hdt⟩:=oB.get (Kb.mono K10.le) (by rw [qh];omega) hd
 refine⟨bg,og,hga,g0,g1,?_⟩
 rw [if_neg (by omega),if_neg (by omega)]
 refine⟨_,c0,dt,c1,_,c2,?_⟩
 (refine kr_ ?_)
 obtain⟨bu,ou,hau,hcu,hiu⟩:=hu.elt (i:=q/bG m.nodes a) (by rw [hfit.1];exact hqc)
 rw [hq1,eh,cR (n:=q%bG m.nodes a) (by omega)]
 refine⟨bu,ou,hau,Int.natCast_nonneg _,Int.ofNat_lt.2 (by rw [hun];exact hqc),_,by rw [Int.toNat_natCast];exact hcu,?_⟩
 have hq0: ¬((q%bG m.nodes a:Nat):Int)<0:=Int.not_lt.2 (Int.natCast_nonneg _)
 rw [acr _ _ (by omega),w1',ev,er]
 simp only [if_neg w3,if_neg hq0,eq_self_iff_true,true_and]
 have hE: ∀{R':Value->Hp->Prop},R' (.bool ((((bR m ca cb).getD a []).getD (q/bG m.nodes a) 0).testBit (q%bG m.nodes a))) h10->
   jO #[.agg #[I (fq m:Nat),dt.v,I r],I ((cb*2^am m.nodes 36+ca:Nat):Int)] h10 R':=fun kk=>NG hdt D w2 (by rw [hbit];exact kk)
 have hf: ∀x:Bool,(!(x==x))=false:=fun x=>by simp
 refine⟨⟨?_,?_⟩,?_⟩
 all_goals
  refine hE ⟨_,rfl,?_⟩
  (try simp only [if_neg hq0,eq_self_iff_true,true_and])
  exact aA (hf _) hJ
def rN (ts:List Sl) (es:List (Int×Int×List Value)):List Value:=(ts.zip es).flatMap fun e=> [I e.2.1,e.1.v,I e.2.2.1]
theorem tm (t:Sl) (ts:List Sl) (e:Int×Int×List Value) (es:List (Int×Int×List Value)):rN (t::ts) (e::es)=I e.1::t.v::I e.2.1::rN ts es:=rfl
theorem Mm : ∀{ts:List Sl} {es:List (Int×Int×List Value)} {k:Nat} {e:Int×Int×List Value} (cs:List Value),es[k]?=some e->rN ts (es.set k (e.1,e.2.1,cs))=rN ts es
 | [],_,k,e,cs,_=>rfl
 |_::_, [],k,e,cs,_=>by simp
 |t::ts,e0::es,0,e,cs,h=>by cases h;rfl
 |t::ts,e0::es,k+1,e,cs,h=>by
  rw [List.set_cons_succ,tm,tm,Mm cs (by simpa using h)]
structure BK (X:List (Nat×Blk)) (s:Sl) (es:List (Int×Int×List Value)) (XO:List (Nat×Blk)) (Xs:List (List (Nat×Blk))) (ts:List Sl):Prop where
 eq:X=XO++Xs.flatten
 l1:Xs.length=ts.length
 l2:es.length=ts.length
 out:bW XO s 3 (rN ts es)
 inn: ∀(k:Nat) Y t e,Xs[k]?=some Y->ts[k]?=some t->es[k]?=some e->ll Y t 3 e.2.2
theorem BK.len {X XO:List (Nat×Blk)} {Xs:List (List (Nat×Blk))} {ts:List Sl} {s:Sl} {es:List (Int×Int×List Value)} (o:BK X s es XO Xs ts):s.n=ts.length:=by
 have h1:=o.out.1
 have h2:=o.l2
 unfold rN at h1
 rw [cf (m:=3) (fun _=>rfl),List.length_zip]at h1
 omega
theorem BK.inner {g h h':Hp} {A X XO:List (Nat×Blk)} {Xs:List (List (Nat×Blk))} {ts:List Sl} {s t:Sl} {es:List (Int×Int×List Value)} {e:Int×Int×List Value} {k:Nat} {cs':List Value}
  (o:BK X s es XO Xs ts) (K:Kn g h (A++X)) (ht:ts[k]?=some t) (he:es[k]?=some e) (l:(h.wo t.used).le h') (o':Own h' t 3 cs'):
  ∃X' Xs',BK X' s (es.set k (e.1,e.2.1,cs')) XO Xs' ts/\Kn g h' (A++X'):=by
 have e1:=o.l1
 have hk:=get_lt ht
 obtain⟨Y,hY⟩: ∃Y,Xs[k]?=some Y:=⟨_,List.getElem?_eq_getElem (by omega)⟩
 have oY:=o.inn k Y t e hY ht he
 have K1:Kn g h ((A++XO++(Xs.take k).flatten++(Xs.drop (k+1)).flatten)++Y):=K.perm (by
  rw [o.eq,uo hY]
  simp only [List.append_assoc]
  exact((List.perm_append_comm.append_left _).append_left _).append_left _)
 obtain⟨Y',oY',K2⟩:=oY.mark K1 l o'
 refine⟨XO++(Xs.set k Y').flatten,Xs.set k Y',⟨rfl,by simp [o.l1],by simp [o.l2],by rw [Mm _ he];exact o.out,fun j Z u e' hZ hu he'=>?_⟩,K2.perm ?_⟩
 ·by_cases q:k=j
  ·subst q
   rw [List.getElem?_set_self (get_lt hY)]at hZ
   rw [List.getElem?_set_self (get_lt he)]at he'
   cases hZ;cases he'
   rw [ht]at hu;cases hu
   exact oY'
  ·rw [List.getElem?_set_ne q]at hZ he'
   exact o.inn j Z u e' hZ hu he'
 ·rw [IX (by omega)]
  simp only [List.append_assoc]
  exact((List.perm_append_comm.append_left _).append_left _).append_left _
theorem BK.own {g h:Hp} {A X XO:List (Nat×Blk)} {Xs:List (List (Nat×Blk))} {ts:List Sl} {s t:Sl} {es:List (Int×Int×List Value)} {e:Int×Int×List Value} {k:Nat}
  (o:BK X s es XO Xs ts) (K:Kn g h (A++X)) (ht:ts[k]?=some t) (he:es[k]?=some e):Own h t 3 e.2.2:=by
 have e1:=o.l1
 have hk:=get_lt ht
 obtain⟨Y,hY⟩: ∃Y,Xs[k]?=some Y:=⟨_,List.getElem?_eq_getElem (by omega)⟩
 have oY:=o.inn k Y t e hY ht he
 have K1:Kn g h ((A++XO++(Xs.take k).flatten++(Xs.drop (k+1)).flatten)++Y):=K.perm (by
  rw [o.eq,uo hY]
  simp only [List.append_assoc]
  exact((List.perm_append_comm.append_left _).append_left _).append_left _)
 exact oY.own K1
theorem BK.put {X XO:List (Nat×Blk)} {Xs:List (List (Nat×Blk))} {ts:List Sl} {s:Sl} {es es':List (Int×Int×List Value)} {b:Nat} (o:BK X s es XO Xs ts) (ha:s.a=some ⟨b,0,none⟩)
  (hl:es'.length=es.length) (hc: ∀(k:Nat) e',es'[k]?=some e'-> ∃e,es[k]?=some e/\e.2.2=e'.2.2):
  BK ([(b, .inl ⟨rN ts es',s.c*3,false⟩)]++Xs.flatten) s es' [(b, .inl ⟨rN ts es',s.c*3,false⟩)] Xs ts:=by
 refine⟨rfl,o.l1,by rw [hl];exact o.l2,⟨?_,o.out.2.1, .inr ⟨b,ha,rfl⟩⟩,fun k Y t e hY ht he=>?_⟩
 ·rw [o.len]
  unfold rN
  rw [cf (m:=3) (fun _=>rfl),List.length_zip,hl,o.l2,Nat.min_self]
 ·obtain⟨e0,h0,h1⟩:=hc k e he
  rw [<-h1]
  exact o.inn k Y t e0 hY ht h0
def Uv (h:Hp) (s:Sl) (ds:List Bd):Prop:=s.n=ds.length/\ ∀(k:Nat) d,ds[k]?=some d-> ∃b q t,s.a=some (Addr.mk b q none)/\Hp.cell h b (q+k*3)=some (I d.v)/\Hp.cell h b (q+k*3+1)=some (Sl.v t)/\Hp.cell h b (q+k*3+2)=some (I d.r)/\SlC h t 3 (cQ d.ns)
theorem Uv.mono {h h':Hp} {s:Sl} {ds:List Bd} (o:Uv h s ds) (l:h.le h'):Uv h' s ds:=by
 refine⟨o.1,fun k d hk=>?_⟩
 obtain⟨b,q,t,ha,c0,c1,c2,hs⟩:=o.2 k d hk
 exact⟨b,q,t,ha,l.cell c0,l.cell c1,l.cell c2,hs.mono l⟩
theorem xH.small {X XO:List (Nat×Blk)} {Xs:List (List (Nat×Blk))} {ts:List Sl} {s:Sl} {ds:List Bd} (o:xH X s ds XO Xs ts) (hd: ∀d∈ds,d.ns.length<=600): ∀t∈ts,t.n<=1000:=by
 intro t ht
 obtain⟨k,hk⟩:=List.mem_iff_getElem?.1 ht
 have hl:=get_lt hk
 have e1:=o.l1
 have e2:=o.l2
 obtain⟨Y,hY⟩: ∃Y,Xs[k]?=some Y:=⟨_,List.getElem?_eq_getElem (by omega)⟩
 obtain⟨d,hdk⟩: ∃d,ds[k]?=some d:=⟨_,List.getElem?_eq_getElem (by omega)⟩
 have h1:=(o.inn k Y t d hY hk hdk).1
 rw [mh]at h1
 have:=hd d (List.mem_of_getElem? hdk)
 omega
end Go.Lead
