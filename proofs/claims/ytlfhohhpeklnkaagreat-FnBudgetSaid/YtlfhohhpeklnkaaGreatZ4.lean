/- What functions of the program and of the reference come to, walked one by one, and plain laws about it: part 5. No condition is added to the statement. -/
import Derived.Test.YtlfhohhpeklnkaaGreatZ3
namespace Go.Lead
open Go
set_option linter.unusedSimpArgs false
set_option linter.unusedVariables false
set_option maxRecDepth 100000
set_option maxHeartbeats 1000000
abbrev rdC (s:Sl) (p:Nat):Blk:= .inl ⟨[s.v,I p],2,false⟩
theorem Pp {g h:Hp} {L L':List (Nat×Blk)} {B p:Nat} {s:Sl} {bs:List Nat} {n:Int} {R:Value->Hp->Prop} (K:Kn g h L) (hb:ByteS g s bs) (u:Upd L B (rdC s p) (rdC s (p+1)) L') (hp:p<=1000000) (hn:n<=1000000000)
  (k: ∀(x:Nat) h',Kn g h' L'->(1<=n->(x:Int)<n)->(n<1->x=0)->R (I x) h'):ah #[.pointer (some ⟨B,0,none⟩),I n] h R:=
 CJ ⟨K.at u.mem,hb.mono (uR (K.new (B,_) u.mem) K.le)⟩ (by omega) hn fun x h1 h2=>k x _ (K.set u) h1 h2
theorem kp_ {P Q:Prop} (k:Q) (h:Q->P:=by((with_reducible apply Pp);(assumption);(assumption);(((focus ((repeat first|exact .head|apply Upd.tail);done))));(omega);(omega))):P:=h k
def MG (X:List (Nat×Blk)) (M:MSl) (m:ai):Prop:=
 ∃XN XI XE XB XH,X=XN++(XI++(XE++(XB++(XH++ []))))/\cE XN M.no 9 (m.nodes.flatMap nodeCells)/\cE XI M.ini 2 (m.inits.flatMap bindCells)/\cE XE M.nex 2 (m.nexts.flatMap bindCells)/\
  cE XB M.bad 1 (m.bads.map I)/\cE XH M.hol 1 (m.holds.map I)
abbrev noM :MSl:=⟨⟨none,0,0⟩,⟨none,0,0⟩,⟨none,0,0⟩,⟨none,0,0⟩,⟨none,0,0⟩⟩
abbrev noP :ai:=⟨[], [], [], [], []⟩
theorem MG.nil :MG [] noM noP:=⟨[], [], [], [], [],rfl,cD 9,cD 2,cD 2,cD 1,cD 1⟩
section
variable {g h:Hp} {A X:List (Nat×Blk)} {M:MSl} {m:ai}
theorem cE.slcOf {X:List (Nat×Blk)} {s:Sl} {sz:Nat} {cs:List Value} (o:cE X s sz cs) (hn:s.n<=9223372036854775807) (m: ∀e∈X,h e.1=some e.2):SlC h s sz cs:=(o.buf m).slc_of hn
theorem MG.lens (o:MG X M m):M.no.n=m.nodes.length/\M.ini.n=m.inits.length/\M.nex.n=m.nexts.length/\M.bad.n=m.bads.length/\M.hol.n=m.holds.length/\M.no.n<=M.no.c:=by
 obtain⟨XN,XI,XE,XB,XH,_,a,b,c,d,e⟩:=o
 have h1:=a.1;have h2:=b.1;have h3:=c.1;have h4:=d.1;have h5:=e.1;have h6:=a.2.1
 rw [iq (m:=9) (fun _=>rfl)]at h1
 rw [iq (m:=2) (fun _=>rfl)]at h2 h3
 rw [List.length_map]at h4 h5
 omega
theorem MG.blk (o:MG X M m) (hn:0<m.nodes.length): ∃b x,M.no.a=some ⟨b,0,none⟩/\(b,x)∈X:=by
 have hl:=o.lens
 obtain⟨XN,XI,XE,XB,XH,rfl,a,_⟩:=o
 rcases a.2.2 with ⟨_,h0,_⟩|⟨b,ha,rfl⟩
 ·rw [h0]at hl;have:=hl.1;dsimp only at this;omega
 ·exact⟨b,_,ha,List.mem_append_left _ (.head _)⟩
theorem MG.modelS (o:MG X M m) (hm:bW m) (K:Kn g h (A++X)):aN h M m:=by
 have hl:=o.lens
 have hm':=hm.nodes;have h2:=hm.inits;have h3:=hm.nexts;have h4:=hm.bads;have h5:=hm.holds
 obtain⟨XN,XI,XE,XB,XH,rfl,a,b,c,d,e⟩:=o
 have mem: ∀x∈XN++(XI++(XE++(XB++(XH++ [])))),h x.1=some x.2:=fun x hx=>K.mem x (List.mem_append_right _ hx)
 refine⟨a.slcOf (by omega) fun x hx=>mem x (by simp [hx]),b.slcOf (by omega) fun x hx=>mem x (by simp [hx]),c.slcOf (by omega) fun x hx=>mem x (by simp [hx]),
  d.slcOf (by omega) fun x hx=>mem x (by simp [hx]),e.slcOf (by omega) fun x hx=>mem x (by simp [hx]),hl.2.2.2.2.2⟩
theorem MG.appN {b:Nat} {n:NodeP} {C:Option Addr->Nat->Nat->Hp->Prop} (o:MG X M m) (K:Kn g h (A++X)) (hm:m.nodes.length<=100000) (f:h b=some (.inl ⟨nodeCells n,9,false⟩))
  (k: ∀s' X' h',MG X' {M with no:=s'} {m with nodes:=m.nodes++ [n]}->Kn g h' (A++X')->C s'.a s'.n s'.c h'):ck h M.no.a M.no.n M.no.c (some ⟨b,0,none⟩) 1 9 80 C:=by
 have hl:=o.lens
 obtain⟨XN,XI,XE,XB,XH,rfl,a,b',c,d,e⟩:=o
 refine Kn.growIn K a (by omega) (by omega) (by omega) ⟨b,0,rfl,ay f⟩ rfl rfl fun s' X' h' hn a' K' _=>?_
 exact k s' _ h' ⟨X',XI,XE,XB,XH,rfl,by rw [List.flatMap_append];exact a',b',c,d,e⟩ K'
theorem MG.appI {b:Nat} {n:BindP} {C:Option Addr->Nat->Nat->Hp->Prop} (o:MG X M m) (K:Kn g h (A++X)) (hm:m.inits.length<=100000) (f:h b=some (.inl ⟨bindCells n,2,false⟩))
  (k: ∀s' X' h',MG X' {M with ini:=s'} {m with inits:=m.inits++ [n]}->Kn g h' (A++X')->C s'.a s'.n s'.c h'):ck h M.ini.a M.ini.n M.ini.c (some ⟨b,0,none⟩) 1 2 16 C:=by
 have hl:=o.lens
 obtain⟨XN,XI,XE,XB,XH,rfl,a,b',c,d,e⟩:=o
 refine Kn.growIn2 K b' (by omega) (by omega) (by omega) ⟨b,0,rfl,ay f⟩ rfl rfl fun s' X' h' hn a' K' _=>?_
 exact k s' _ h' ⟨XN,X',XE,XB,XH,rfl,a,by rw [List.flatMap_append];exact a',c,d,e⟩ K'
theorem MG.appE {b:Nat} {n:BindP} {C:Option Addr->Nat->Nat->Hp->Prop} (o:MG X M m) (K:Kn g h (A++X)) (hm:m.nexts.length<=100000) (f:h b=some (.inl ⟨bindCells n,2,false⟩))
  (k: ∀s' X' h',MG X' {M with nex:=s'} {m with nexts:=m.nexts++ [n]}->Kn g h' (A++X')->C s'.a s'.n s'.c h'):ck h M.nex.a M.nex.n M.nex.c (some ⟨b,0,none⟩) 1 2 16 C:=by
 have hl:=o.lens
 obtain⟨XN,XI,XE,XB,XH,rfl,a,b',c,d,e⟩:=o
 refine Kn.growIn3 K c (by omega) (by omega) (by omega) ⟨b,0,rfl,ay f⟩ rfl rfl fun s' X' h' hn a' K' _=>?_
 exact k s' _ h' ⟨XN,XI,X',XB,XH,rfl,a,b',by rw [List.flatMap_append];exact a',d,e⟩ K'
theorem MG.appB {b:Nat} {n:Int} {C:Option Addr->Nat->Nat->Hp->Prop} (o:MG X M m) (K:Kn g h (A++X)) (hm:m.bads.length<=100000) (f:h b=some (.inl ⟨[I n],1,false⟩))
  (k: ∀s' X' h',MG X' {M with bad:=s'} {m with bads:=m.bads++ [n]}->Kn g h' (A++X')->C s'.a s'.n s'.c h'):ck h M.bad.a M.bad.n M.bad.c (some ⟨b,0,none⟩) 1 1 8 C:=by
 have hl:=o.lens
 obtain⟨XN,XI,XE,XB,XH,rfl,a,b',c,d,e⟩:=o
 have sw: ∀Z:List (Nat×Blk),A++(XN++(XI++(XE++(Z++(XH++ [])))))=(A++(XN++XI))++(XE++(Z++(XH++ []))):=fun Z=>by simp
 rw [sw]at K
 refine Kn.growIn2 K d (by omega) (by omega) (by omega) ⟨b,0,rfl,ay f⟩ rfl rfl fun s' X' h' hn a' K' _=>?_
 rw [<-sw]at K'
 exact k s' _ h' ⟨XN,XI,XE,X',XH,rfl,a,b',c,by rw [List.map_append];exact a',e⟩ K'
theorem MG.appH {b:Nat} {n:Int} {C:Option Addr->Nat->Nat->Hp->Prop} (o:MG X M m) (K:Kn g h (A++X)) (hm:m.holds.length<=100000) (f:h b=some (.inl ⟨[I n],1,false⟩))
  (k: ∀s' X' h',MG X' {M with hol:=s'} {m with holds:=m.holds++ [n]}->Kn g h' (A++X')->C s'.a s'.n s'.c h'):ck h M.hol.a M.hol.n M.hol.c (some ⟨b,0,none⟩) 1 1 8 C:=by
 have hl:=o.lens
 obtain⟨XN,XI,XE,XB,XH,rfl,a,b',c,d,e⟩:=o
 have sw: ∀Z:List (Nat×Blk),A++(XN++(XI++(XE++(XB++(Z++ [])))))=(A++(XN++XI))++(XE++(XB++(Z++ []))):=fun Z=>by simp
 rw [sw]at K
 refine Kn.growIn3 K e (by omega) (by omega) (by omega) ⟨b,0,rfl,ay f⟩ rfl rfl fun s' X' h' hn a' K' _=>?_
 rw [<-sw]at K'
 exact k s' _ h' ⟨XN,XI,XE,XB,X',rfl,a,b',c,d,by rw [List.map_append];exact a'⟩ K'
end
structure DM (m:ai) (N:Nat):Prop where
 nodes:m.nodes.length<=N
 sorts: ∀n∈m.nodes,bT n.sort=true
 names: ∀n∈m.nodes,n.name.size<=100
 inits:m.inits.length<=N
 nexts:m.nexts.length<=N
 bads:m.bads.length<=N
 holds:m.holds.length<=N
theorem DM.small {m:ai} {N:Nat} (d:DM m N) (hN:N<=100000):bW m:=
 ⟨by have:=d.nodes;omega,by have:=d.inits;omega,by have:=d.nexts;omega,by have:=d.bads;omega,by have:=d.holds;omega,fun n hn=>by have:=d.names n hn;omega⟩
theorem DM.more {m:ai} {N N':Nat} (d:DM m N) (h:N<=N'):DM m N':=
 ⟨Nat.le_trans d.nodes h,d.sorts,d.names,Nat.le_trans d.inits h,Nat.le_trans d.nexts h,Nat.le_trans d.bads h,Nat.le_trans d.holds h⟩
theorem DM.addN {m:ai} {N:Nat} (d:DM m N) {n:NodeP} (h1:bT n.sort=true) (h2:n.name.size<=100):DM {m with nodes:=m.nodes++ [n]} (N+1):=
 ⟨by have:=d.nodes;simp;omega,fun x hx=>by rcases List.mem_append.1 hx with hx|hx;exact d.sorts x hx;rw [List.mem_singleton.1 hx];exact h1,
  fun x hx=>by rcases List.mem_append.1 hx with hx|hx;exact d.names x hx;rw [List.mem_singleton.1 hx];exact h2,
  by have:=d.inits;dsimp only;omega,by have:=d.nexts;dsimp only;omega,by have:=d.bads;dsimp only;omega,by have:=d.holds;dsimp only;omega⟩
theorem Kn.tl {g h:Hp} {L:List (Nat×Blk)} {e:Nat×Blk} (K:Kn g h (e::L)):Kn g h L:=K.sub (fun x hx=> .tail _ hx) (by have:=K.nd;rw [List.map_cons,List.nodup_cons]at this;exact this.2)
theorem Kn.sw {g h:Hp} {L:List (Nat×Blk)} {a b:Nat×Blk} (K:Kn g h (a::b::L)):Kn g h (b::a::L):=K.perm (List.Perm.swap ..)
theorem q8 {m:ai} {N:Nat} (d:DM m N) {i:Nat} {n:NodeP} (h:m.nodes[i]?=some n):bT n.sort=true:=d.sorts n (List.mem_of_getElem? h)
theorem kS {s:SortP} (h:bT s=true):(0<=s.idx/\s.idx<=2)/\1<=s.wid/\s.wid<=16:=of_decide_eq_true h
theorem m4 {w:Int} (h1:1<=w) (h2:w<=16):bT (cx w)=true:=decide_eq_true ⟨by simp [cx],h1,h2⟩
theorem Upd.mem2 {L L':List (Nat×Blk)} {b:Nat} {x y:Blk} (u:Upd L b x y L'):(b,y)∈L':=by
 induction u with
 |head=>exact .head _
 |tail _ ih=>exact .tail _ ih
section
variable {g h:Hp} {L L':List (Nat×Blk)} {b:Nat} {M M':MSl}
abbrev cZ :List Value:= [.slice none 0 0, .slice none 0 0, .slice none 0 0, .slice none 0 0, .slice none 0 0]
theorem jA {cs:List Value} {Q:Hp->Prop} (K:Kn g h L) (u:Upd L b (.inl ⟨cs,5,false⟩) (.inl ⟨aw M',5,false⟩) L') (hl:cs.length=5) (k: ∀h',Kn g h' L'->Q h'):
  ∃(cs:List Value) (z:Nat),h b=some (.inl ⟨cs,z,false⟩)/\0+5<=List.length cs/\cu (h.row b (cv cs 0 (aw M')) z) fun h'=>Q h':=by
 have e:cv cs 0 (aw M')=aw M':=by
  match cs,hl with
  | [_,_,_,_,_],_=>rfl
 exact Kn.wr (cs:=cs) (z:=5) (o:=0) (vs:=aw M') K (L':=L') (by rw [e];exact u) (by omega) fun h' K' _=>k h' K'
theorem Cn {Q:Sl->Sl->Sl->Sl->Sl->Hp->Prop} (K:Kn g h L) (u:Upd L b (.inl ⟨cZ,5,false⟩) (.inl ⟨aw M,5,false⟩) L') (k: ∀h',Kn g h' L'->Q M.no M.ini M.nex M.bad M.hol h'):
  ∃(cs:List Value) (z:Nat),h b=some (.inl ⟨cs,z,false⟩)/\0+5<=List.length cs/\cu (h.row b (cv cs 0 (aw M)) z) fun h'=> ∃s1:Sl,Hp.cell h' b 0=some s1.v/\ ∃s2:Sl,Hp.cell h' b 1=some s2.v/\
   ∃s3:Sl,Hp.cell h' b 2=some s3.v/\ ∃s4:Sl,Hp.cell h' b 3=some s4.v/\ ∃s5:Sl,Hp.cell h' b 4=some s5.v/\Q s1 s2 s3 s4 s5 h':=by
 refine jA K u rfl fun h' K'=>?_
 have hm:=u.mem2
 have c:=fun o=>aq (K'.at hm) o
 exact⟨_,c 0,_,c 1,_,c 2,_,c 3,_,c 4,k h' K'⟩
end
theorem yZ {α:Type} (a b c d e:α) (L:List α):(a::b::c::d::e::L).Perm (e::a::b::c::d::L):=by
 refine((List.Perm.cons a ((List.Perm.cons b ((List.Perm.cons c (List.Perm.swap e d L)).trans (List.Perm.swap e c _))).trans (List.Perm.swap e b _))).trans (List.Perm.swap e a _))
theorem Upd.app {L L' X:List (Nat×Blk)} {b:Nat} {x y:Blk} (u:Upd L b x y L'):Upd (L++X) b x y (L'++X):=by
 induction u with
 |head=>exact .head
 |tail _ ih=>exact .tail ih
theorem kR {g h:Hp} {H X:List (Nat×Blk)} {b bn:Nat} {M:MSl} {m:ai} {nd:NodeP} {J:Hp->Prop} (o:MG X M m) (K:Kn g h ((bn, .inl ⟨nodeCells nd,9,false⟩)::(H++X))) (hm:m.nodes.length<=10000) (hb:(b, .inl ⟨aw M,5,false⟩)∈H)
  (k: ∀s' X' h',MG X' {M with no:=s'} {m with nodes:=m.nodes++ [nd]}->(∀H',Upd H b (.inl ⟨aw M,5,false⟩) (.inl ⟨aw {M with no:=s'},5,false⟩) H'->Kn g h' (H'++X'))->J h'):
  ck h M.no.a M.no.n M.no.c (some ⟨bn,0,none⟩) 1 9 80 fun a n c h95=> ∃(cs:List Value) (z:Nat),h95 b=some (.inl ⟨cs,z,false⟩)/\0+1<=List.length cs/\cu (h95.row b (cv cs 0 [.slice a n c]) z) fun h'=>J h':=by
 refine MG.appN (A:=_::H) (n:=nd) o K (by omega) (K.at (.head _)) fun s' X' h7 o' K7=>?_
 rw [List.cons_append]at K7
 have f:=K7.at (.tail _ (List.mem_append_left _ hb))
 exact⟨_,_,f,by simp,k s' X' _ o' fun H' u=>(K7.tl).set (u.app (X:=X'))⟩
set_option maxHeartbeats 1000000 in
theorem ue {g h:Hp} {A X:List (Nat×Blk)} {B p N:Nat} {s:Sl} {bs:List Nat} {M:MSl} {m:ai} {st:SortP} {R:Value->Hp->Prop} (K:Kn g h ((B,rdC s p)::(A++X))) (hb:ByteS g s bs) (o:MG X M m) (d:DM m N) (hN:N<=10000)
  (hne:0<m.nodes.length) (hp:p<=900000) (hst:bT st=true)
  (k: ∀h' p' X' M' m' (i:Nat),Kn g h' ((B,rdC s p')::(A++X'))->MG X' M' m'->DM m' (N+1)->i<m'.nodes.length->m.nodes.length<=m'.nodes.length->p'<=p+2->R (.tuple #[aO M',I i]) h'):
  fk #[.pointer (some ⟨B,0,none⟩),aO M,uo st] h R:=by
 apply DT
 refine uf_ ?_
 obtain⟨_,hw1,hw2⟩:=kS hst
 have hl:=o.lens
 have hsm:=d.small (by omega)
 have hdn:=d.nodes
 refine Kn.al K fun b10 h1 K1 l1 hb10=>?_
 refine Kn.al K1 fun b12 h2 K2 l2 hb12=>?_
 refine Kn.al K2 fun b14 h3 K3 l3 hb14=>?_
 clear K K1 K2 l1 l2 l3 hb10 hb12 hb14
 (refine kr_ ?_)
 refine kp_ ?_
 intro x h4 K4 hx _
 refine⟨_,rfl,?_⟩
 replace hx:x<m.nodes.length:=by have:=hx (by omega);omega
 clear K3 h3 h2 h1 h
 have hs:=o.modelS (A:=_::_::_::_::A) hsm K4
 refine av m.nodes.length (fun i vs h'=>vs= [.pointer (some ⟨B,0,none⟩), .pointer (some ⟨b10,0,none⟩), .pointer (some ⟨b12,0,none⟩), .pointer (some ⟨b14,0,none⟩),I x,I i]/\h4=h') ⟨rfl,rfl⟩ ?_
 rintro i _ _ nxt hi ⟨rfl,rfl⟩ hnx
 refine⟨_,b10,0,b12,0,b14,0,_,_,rfl,?_⟩
 (refine kr_ ?_)
 have same: ∀q:Nat,q<m.nodes.length-> ∃(cs:List Value) (z:Nat),h4 b14=some (.inl ⟨cs,z,false⟩)/\0+5<=List.length cs/\cu (h4.row b14 (cv cs 0 (aw M)) z) fun h58=> ∃s59:Sl,Hp.cell h58 b14 0=some s59.v/\ ∃s60:Sl,Hp.cell h58 b14 (0+1)=some s60.v/\
   ∃s61:Sl,Hp.cell h58 b14 (0+2)=some s61.v/\ ∃s62:Sl,Hp.cell h58 b14 (0+3)=some s62.v/\ ∃s63:Sl,Hp.cell h58 b14 (0+4)=some s63.v/\R (.tuple #[.agg #[s59.v,s60.v,s61.v,s62.v,s63.v],I q]) h58:=by
  intro q hq
  refine kw_ ?_
  intro h5 K5 _
  have K5':Kn g h5 ((b14, .inl ⟨aw M,5,false⟩)::(b12, .inl ⟨[I st.idx,I st.wid],2,false⟩)::(b10, .inl ⟨aw M,5,false⟩)::(B,rdC s (p+1))::(A++X)):=K5
  clear K5 K4
  repeat' (refine kr_ ?_)
  exact k h5 (p+1) X M m q K5'.tl.tl.tl o (d.more (by omega)) hq (Nat.le_refl _) (by omega)
 by_cases hlt:i<m.nodes.length
 ·refine aJ (by rw [decide_eq_true_eq];omega) ?_
  (refine kr_ ?_)
  rw [if_neg (by omega)]
  (refine kr_ ?_)
  have hq:(x+i)%m.nodes.length<m.nodes.length:=Nat.mod_lt _ hne
  rw [<-Int.natCast_add,et (by omega),show ((M.no.n:Nat):Int)=(m.nodes.length:Nat) by omega,eV]
  generalize (x+i)%m.nodes.length=q at*
  obtain⟨n,hni⟩: ∃n,m.nodes[q]?=some n:=⟨_,List.getElem?_eq_getElem hq⟩
  obtain⟨b,oo,ha,e0,e1,e2,e3,e4,e5,e6,e7,e8⟩:=hs.nodes.at hni
  rw [Int.toNat_natCast]
  refine⟨b,oo,ha,by omega,by omega,_,e6,_,e7,?_⟩
  (refine kr_ ?_)
  (refine kr_ ?_)
  refine ac (fun e=>?_) (fun e=>?_)
  ·repeat' (refine kr_ ?_)
   exact same q hq
  ·rw [aA (by omega)]
   exact hnx hlt _ _ ⟨rfl,rfl⟩
 refine aD (by rw [decide_eq_false_iff_not];omega) ?_
 clear hnx hlt hi
 (refine kr_ ?_)
 refine ac (fun e=>?_) (fun e=>?_)
 ·repeat' (refine kr_ ?_)
  exact same 0 hne
 have e':=of_decide_eq_false e
 have hi0:st.idx=0:=by have:=(kS hst).1;omega
 clear same hs
 refine ap (fun J=> ∀h5 X' s' p' nd,nd.sort=st->nd.name.size=0->MG X' {M with no:=s'} {m with nodes:=m.nodes++ [nd]}->Kn g h5 ((b14, .inl ⟨[.slice none 0 0, .slice none 0 0, .slice none 0 0, .slice none 0 0, .slice none 0 0],5,false⟩)::(b12, .inl ⟨[I st.idx,I st.wid],2,false⟩)::
  (b10, .inl ⟨aw {M with no:=s'},5,false⟩)::(B,rdC s p')::(A++X'))->p'<=p+2->J h5) (fun h5 X' s' p' nd hs1 hs2 o' K5 hp'=>?_) (fun J hJ=>?_)
 ·have hl':=o'.lens
  repeat' (refine kr_ ?_)
  refine kw_ ?_
  intro h6 K6 kp6
  have K6':Kn g h6 ((b14, .inl ⟨aw {M with no:=s'},5,false⟩)::(b12, .inl ⟨[I st.idx,I st.wid],2,false⟩)::(b10, .inl ⟨aw {M with no:=s'},5,false⟩)::(B,rdC s p')::(A++X')):=K6
  repeat' (refine kr_ ?_)
  clear K5 K6 K4
  repeat' (refine kr_ ?_)
  rw [show W ((s'.n:Int)-1)=(m.nodes.length:Nat) by
   have h1:=hl'.1
   simp at h1
   rw [bV (by omega) (by omega)];omega]
  exact k h6 p' X' _ _ m.nodes.length K6'.tl.tl.tl o' (d.addN (by rw [hs1];exact hst) (by omega)) (by simp) (by simp) hp'
 obtain⟨w,hw⟩: ∃w:Nat,st.wid=w:=⟨st.wid.toNat,by omega⟩
 have hp2:0<2^w:=Nat.two_pow_pos w
 have fin: ∀(y:Nat) (h5 h6:Hp) (q b:Nat),q<=p+2->Kn g h5 ((b14, .inl ⟨[.slice none 0 0, .slice none 0 0, .slice none 0 0, .slice none 0 0, .slice none 0 0],5,false⟩)::(b12, .inl ⟨[I st.idx,I st.wid],2,false⟩)::(b10, .inl ⟨aw M,5,false⟩)::(B,rdC s q)::(A++X))->
   Kn g h6 ((b, .inl ⟨[I 34,I 0,I 0,I 0,I (Int.tmod y (2^w:Nat)),I 0,I st.idx,I st.wid, .string ⟨#[]⟩],9,false⟩)::(b14, .inl ⟨[.slice none 0 0, .slice none 0 0, .slice none 0 0, .slice none 0 0, .slice none 0 0],5,false⟩)::(b12, .inl ⟨[I st.idx,I st.wid],2,false⟩)::(b10, .inl ⟨aw M,5,false⟩)::(B,rdC s q)::(A++X))->
   ck h6 M.no.a M.no.n M.no.c (some (Addr.mk b 0 none)) 1 9 80 fun a92 n93 k94 h95=> ∃(cs96:List Value) (z97:Nat),h95 b10=some (.inl ⟨cs96,z97,false⟩)/\0+1<=List.length cs96/\cu (h95.row b10 (cv cs96 0 [(.slice a92 n93 k94)]) z97) fun h98=>J h98:=by
  intro y h5 h6 q b hq K5 K6
  refine MG.appN (A:=_::_::_::_::_::A) (n:=⟨34,0,0,0,Int.tmod y (2^w:Nat),0,st,⟨#[]⟩⟩) o K6 (by omega) (K6.at (.head _)) fun s' X' h7 o' K7=>?_
  simp only [List.cons_append]at K7
  clear K6 K5 K4
  refine kw_ ?_
  intro h8 K8 _
  exact hJ h8 X' s' q _ rfl rfl o' K8.tl hq
 repeat' (refine kr_ ?_)
 refine⟨?_,?_⟩
 ·refine kp_ ?_
  intro y h5 K5 hy _
  refine⟨_,rfl,?_⟩
  repeat' (refine kr_ ?_)
  rw [hw,cl (by omega),if_neg (by omega),bG (by omega),if_neg (by omega),<-hw]
  refine Kn.al K5 fun b90 h6 K6 l6 hb90=>?_
  (refine kr_ ?_)
  exact fin y h5 h6 (p+2) b90 (Nat.le_refl _) K5 K6
 ·repeat' (refine kr_ ?_)
  rw [hw,cl (by omega),if_neg (by omega),bG (by omega),<-hw]
  refine kp_ ?_
  intro y h5 K5 hy _
  refine⟨_,rfl,?_⟩
  repeat' (refine kr_ ?_)
  rw [if_neg (by omega)]
  refine Kn.al K5 fun b90 h6 K6 l6 hb90=>?_
  (refine kr_ ?_)
  exact fin y h5 h6 (p+2) b90 (Nat.le_refl _) K5 K6
set_option maxHeartbeats 1000000 in
theorem IO {g h:Hp} {A X:List (Nat×Blk)} {B p N:Nat} {s:Sl} {bs:List Nat} {M:MSl} {m:ai} {R:Value->Hp->Prop} (K:Kn g h ((B,rdC s p)::(A++X))) (hb:ByteS g s bs) (o:MG X M m) (d:DM m N) (hN:N<=1000)
  (hne:0<m.nodes.length) (hp:p<=800000)
  (k: ∀h' p' X' M' m' (i:Nat),Kn g h' ((B,rdC s p')::(A++X'))->MG X' M' m'->DM m' (N+3)->i<m'.nodes.length->m.nodes.length<=m'.nodes.length->p'<=p+2*N+10->R (.tuple #[aO M',I i]) h'):
  kO #[.pointer (some ⟨B,0,none⟩),aO M] h R:=by
 apply Ca
 refine uf_ ?_
 have hl:=o.lens
 have hsm:=d.small (by omega)
 have hdn:=d.nodes
 refine Kn.al K fun b8 h1 K1 l1 hb8=>?_
 refine Kn.al K1 fun b10 h2 K2 l2 hb10=>?_
 clear K K1 l1 l2 hb8 hb10
 (refine kr_ ?_)
 rw [show W ((M.no.n:Int)-1)=(m.nodes.length:Int)-1 by rw [bV (by omega) (by omega)];omega]
 refine oR m.nodes.length (fun i vs h'=>vs= [.pointer (some ⟨B,0,none⟩), .pointer (some ⟨b8,0,none⟩), .pointer (some ⟨b10,0,none⟩),I ((i:Int)-1)]/\i<=m.nodes.length/\
  ∃q,q+i<=p+m.nodes.length/\Kn g h' ((b10, .inl ⟨cZ,5,false⟩)::(b8, .inl ⟨aw M,5,false⟩)::(B,rdC s q)::(A++X))) ⟨rfl,Nat.le_refl _,p,Nat.le_refl _,K2⟩ ?_
 clear K2 h1 h2 h
 rintro i _ h4 nxt ⟨rfl,hi,q,hq,K4⟩ hnx
 refine⟨_,b8,0,b10,0,_,rfl,?_⟩
 have hs:=o.modelS (A:=_::_::_::A) hsm K4
 cases i with
 |succ i=>
  rw [show (((i+1:Nat):Int)-1)=(i:Nat) by omega]
  refine aJ (by rw [decide_eq_true_eq];omega) ?_
  refine ap (fun J=> ∀c h5 q,q+i<=p+m.nodes.length->Kn g h5 ((b10, .inl ⟨cZ,5,false⟩)::(b8, .inl ⟨aw M,5,false⟩)::(B,rdC s q)::(A++X))->J c h5) (fun c h5 q' hq' K5=>?_) (fun J hJ=>?_)
  ·refine ac (fun e=>?_) (fun e=>?_)
   ·clear K4
    repeat' (refine kr_ ?_)
    refine Cn K5 (by((focus ((repeat first|exact .head|apply Upd.tail);done)))) fun h6 K6=>?_
    exact k h6 q' X M m i K6.tl.tl o (d.more (by omega)) (by omega) (Nat.le_refl _) (by omega)
   ·rw [bV (by omega) (by omega)]
    exact hnx i (by omega) _ _ ⟨rfl,by omega,q',hq',K5⟩
  ·(refine kr_ ?_)
   obtain⟨n,hni⟩: ∃n,m.nodes[i]?=some n:=⟨_,List.getElem?_eq_getElem (by omega)⟩
   obtain⟨b,oo,ha,e0,e1,e2,e3,e4,e5,e6,e7,e8⟩:=hs.nodes.at hni
   refine⟨b,oo,ha,by omega,by omega,_,by rw [Int.toNat_natCast];exact e6,_,by rw [Int.toNat_natCast];exact e7,?_⟩
   refine ca ⟨_,_,rfl,?_⟩
   repeat' (refine kr_ ?_)
   refine ac (fun e=>?_) (fun e=>?_)
   ·(refine kr_ ?_)
    refine⟨b,oo,ha,by omega,by omega,_,by rw [Int.toNat_natCast];exact e0,?_⟩
    refine ac (fun e=>?_) (fun e=>?_)
    ·refine kp_ ?_
     intro x h5 K5 hx _
     exact⟨_,rfl,hJ _ h5 (q+1) (by omega) K5⟩
    ·exact hJ _ h4 q (by omega) K4
   ·exact hJ _ h4 q (by omega) K4
 |zero=>
 refine aD (by rw [decide_eq_false_iff_not];omega) ?_
 clear hnx
 refine av m.nodes.length (fun i vs h'=> ∃(a q:Nat),vs= [.pointer (some ⟨B,0,none⟩), .pointer (some ⟨b8,0,none⟩), .pointer (some ⟨b10,0,none⟩),I a,I i]/\a<m.nodes.length/\
  q<=p+m.nodes.length+i/\Kn g h' ((b10, .inl ⟨cZ,5,false⟩)::(b8, .inl ⟨aw M,5,false⟩)::(B,rdC s q)::(A++X))) ⟨0,q,rfl,hne,by omega,K4⟩ ?_
 clear K4 hq hs h4 hi q
 rintro i _ h4 nxt hi ⟨a,q,rfl,ha',hq,K4⟩ hnx
 refine⟨_,b8,0,b10,0,_,_,rfl,?_⟩
 have hs:=o.modelS (A:=_::_::_::A) hsm K4
 (refine kr_ ?_)
 obtain⟨na,hna⟩: ∃n,m.nodes[a]?=some n:=⟨_,List.getElem?_eq_getElem ha'⟩
 by_cases hlt:i<m.nodes.length
 ·refine aJ (by rw [decide_eq_true_eq];omega) ?_
  refine ap (fun J=> ∀(c:Nat) h5 q,c<m.nodes.length->q<=p+m.nodes.length+(i+1)->Kn g h5 ((b10, .inl ⟨cZ,5,false⟩)::(b8, .inl ⟨aw M,5,false⟩)::(B,rdC s q)::(A++X))->J (c:Int) h5) (fun c h5 q' hc hq' K5=>?_) (fun J hJ=>?_)
  ·rw [aA (by omega)]
   exact hnx hlt _ _ ⟨c,q',rfl,hc,hq',K5⟩
  ·(refine kr_ ?_)
   obtain⟨n,hni⟩: ∃n,m.nodes[i]?=some n:=⟨_,List.getElem?_eq_getElem hlt⟩
   obtain⟨b,oo,ha,e0,_⟩:=hs.nodes.at hni
   refine⟨b,oo,ha,by omega,by omega,_,by rw [Int.toNat_natCast];exact e0,?_⟩
   refine ac (fun e=>?_) (fun e=>?_)
   ·(refine kr_ ?_)
    obtain⟨b,oo,ha,e0,_⟩:=hs.nodes.at hna
    refine⟨b,oo,ha,by omega,by omega,_,by rw [Int.toNat_natCast];exact e0,?_⟩
    refine ac (fun e=>?_) (fun e=>?_)
    ·exact hJ i h4 q hlt (by omega) K4
    ·refine kp_ ?_
     intro x h5 K5 hx _
     refine⟨_,rfl,ac (fun e=>?_) (fun e=>?_)⟩
     ·exact hJ i h5 _ hlt (by omega) K5
     ·exact hJ a h5 _ ha' (by omega) K5
   ·exact hJ a h4 q ha' (by omega) K4
 refine aD (by rw [decide_eq_false_iff_not];omega) ?_
 clear hnx
 repeat' (refine kr_ ?_)
 obtain⟨b,oo,ha,e0,e1,e2,e3,e4,e5,e6,e7,e8⟩:=hs.nodes.at hna
 refine⟨b,oo,ha,by omega,by omega,_,by rw [Int.toNat_natCast];exact e6,_,by rw [Int.toNat_natCast];exact e7,?_⟩
 refine ue (p:=q) (A:=(b10, .inl ⟨cZ,5,false⟩)::(b8, .inl ⟨aw M,5,false⟩)::A) (st:=na.sort) (K4.perm ?_) hb o d (by omega) hne (by omega) (q8 d hna) fun h5 q5 X5 M5 m5 i5 K5 o5 d5 hi5 hl5 hq5=>⟨_,_,_,_,_,_,rfl,?_⟩
 ·exact(List.Perm.cons _ (List.Perm.swap ..)).trans (List.Perm.swap ..)
 have K5':Kn g h5 ((b10, .inl ⟨cZ,5,false⟩)::(b8, .inl ⟨aw M,5,false⟩)::(B,rdC s q5)::(A++X5)):=K5.perm ((List.Perm.swap ..).trans (List.Perm.cons _ (List.Perm.swap ..)))
 clear K5 K4 hs e0 e1 e2 e3 e4 e5 e6 e7 e8 ha
 refine jA (M':=M5) K5' (by((focus ((repeat first|exact .head|apply Upd.tail);done)))) rfl fun h6 K6=>?_
 clear K5'
 have hl5':=o5.lens
 have hsm5:=d5.small (by omega)
 have hs6:=o5.modelS (A:=_::_::_::A) hsm5 K6
 obtain⟨nb,hnb⟩: ∃n,m5.nodes[a]?=some n:=⟨_,List.getElem?_eq_getElem (by omega)⟩
 refine ap (fun J=> ∀c,J c) (fun c=>?_) (fun J hJ=>?_)
 rotate_left
 ·refine ac (fun e=>?_) (fun e=>hJ _)
  (refine kr_ ?_)
  obtain⟨b,oo,ha,e0,e1,e2,e3,e4,e5,e6,e7,e8⟩:=hs6.nodes.at hnb
  exact⟨b,oo,ha,by omega,by omega,_,by rw [Int.toNat_natCast];exact e6,hJ _⟩
 have d5n:=d5.nodes
 refine ap (fun J=> ∀(x:Nat) h7 q X7 M7 m7,MG X7 M7 m7->DM m7 (N+2)->x<m7.nodes.length->m5.nodes.length<=m7.nodes.length->q<=q5+1->Kn g h7 ((b10, .inl ⟨cZ,5,false⟩)::(b8, .inl ⟨aw M7,5,false⟩)::(B,rdC s q)::(A++X7))->J (x:Int) h7)
  (fun x h7 q7 X7 M7 m7 o7 d7 hx7 hl7 hq7 K7=>?_) (fun J hJ=>?_)
 ·clear K6 hs6
  have hl7':=o7.lens
  have d7n:=d7.nodes
  (refine kr_ ?_)
  refine ca ⟨_,_,rfl,?_⟩
  repeat' (refine kr_ ?_)
  refine Kn.al K7 fun b173 h8 K8 l8 hb173=>?_
  repeat' (refine kr_ ?_)
  refine kR (H:=_::_::_::A) (nd:=⟨21,a,x,0,0,0,⟨0,1⟩,⟨#[]⟩⟩) o7 K8 (by omega) (.tail _ (.head _)) fun s' X9 h9 o9 KF=>?_
  have K9:=KF _ (by((focus ((repeat first|exact .head|apply Upd.tail);done))))
  simp only [List.cons_append]at K9
  clear KF K8 K7
  have hl9:=o9.lens
  repeat' (refine kr_ ?_)
  refine jA (M':={M7 with no:=s'}) K9 (by((focus ((repeat first|exact .head|apply Upd.tail);done)))) rfl fun h11 K11=>?_
  repeat' (refine kr_ ?_)
  rw [show W ((s'.n:Int)-1)=(m7.nodes.length:Nat) by
   have h1:=hl9.1
   simp at h1
   rw [bV (by omega) (by omega)];omega]
  exact k h11 q7 X9 _ _ m7.nodes.length K11.tl.tl o9 (d7.addN rfl (show (0:Nat)<=100 by omega)) (by simp) (by simp;omega) (by omega)
 ·refine ac (fun e=>?_) (fun e=>?_)
  rotate_left
  ·exact hJ i5 h6 q5 X5 M5 m5 o5 (d5.more (by omega)) hi5 (Nat.le_refl _) (by omega) K6
  have hok:=q8 d5 hnb
  obtain⟨_,hw1,hw2⟩:=kS hok
  obtain⟨b,oo,ha,e0,e1,e2,e3,e4,e5,e6,e7,e8⟩:=hs6.nodes.at hnb
  obtain⟨bN,xN,haN,hmN⟩:=o5.blk (by omega)
  repeat' (refine kr_ ?_)
  refine⟨b,oo,ha,by omega,by omega,_,by rw [Int.toNat_natCast];exact e7,?_⟩
  repeat' (refine kr_ ?_)
  refine⟨b,oo,ha,by omega,by omega,_,by rw [Int.toNat_natCast];exact e6,_,by rw [Int.toNat_natCast];exact e7,?_⟩
  rw [haN]at ha
  cases ha
  obtain⟨w,hw⟩: ∃w:Nat,nb.sort.wid=w:=⟨nb.sort.wid.toNat,by omega⟩
  have hp2:0<2^w:=Nat.two_pow_pos w
  have fin: ∀(y:Nat) (h8:Hp) (b:Nat),Kn g h8 ((b, .inl ⟨[I 34,I 0,I 0,I 0,I (Int.tmod y (2^w:Nat)),I 0,I nb.sort.idx,I nb.sort.wid, .string ⟨#[]⟩],9,false⟩)::(b10, .inl ⟨cZ,5,false⟩)::(b8, .inl ⟨aw M5,5,false⟩)::(B,rdC s (q5+1))::(A++X5))->
    ck h8 M5.no.a M5.no.n M5.no.c (some (Addr.mk b 0 none)) 1 9 80 fun a92 n93 k94 h95=> ∃(cs96:List Value) (z97:Nat),h95 b8=some (.inl ⟨cs96,z97,false⟩)/\0+1<=List.length cs96/\cu (h95.row b8 (cv cs96 0 [(.slice a92 n93 k94)]) z97) fun h148=>
     ∃s150:Sl,Hp.cell h148 b8 0=some s150.v/\J (W ((s150.n:Int)-1)) h148:=by
   intro y h8 b K8
   refine kR (H:=_::_::_::A) (nd:=⟨34,0,0,0,Int.tmod y (2^w:Nat),0,nb.sort,⟨#[]⟩⟩) o5 K8 (by omega) (.tail _ (.head _)) fun s' X9 h9 o9 KF=>?_
   have K9:=KF _ (by((focus ((repeat first|exact .head|apply Upd.tail);done))))
   simp only [List.cons_append]at K9
   clear KF K8 K6
   have hl9:=o9.lens
   (refine kr_ ?_)
   rw [show W ((s'.n:Int)-1)=(m5.nodes.length:Nat) by
    have h1:=hl9.1
    simp at h1
    rw [bV (by omega) (by omega)];omega]
   exact hJ m5.nodes.length h9 (q5+1) X9 _ _ o9 (d5.addN hok (show (0:Nat)<=100 by omega)) (by simp) (by simp) (by omega) K9
  refine⟨?_,?_⟩
  ·refine kp_ ?_
   intro y h7 K7 hy _
   refine⟨_,rfl,?_⟩
   have hq:h7 b=h6 b:=by rw [K7.at (.tail _ (.tail _ (.tail _ (List.mem_append_right _ hmN)))),K6.at (.tail _ (.tail _ (.tail _ (List.mem_append_right _ hmN))))]
   repeat' (first|(refine kr_ ?_)|refine And.intro hq ?_)
   rw [hw,cl (by omega),if_neg (by omega),bG (by omega),if_neg (by omega),<-hw]
   refine Kn.al K7 fun b90 h8 K8 l8 hb90=>?_
   (refine kr_ ?_)
   exact fin y h8 b90 K8
  ·repeat' (refine kr_ ?_)
   rw [hw,cl (by omega),if_neg (by omega),bG (by omega),<-hw]
   refine kp_ ?_
   intro y h7 K7 hy _
   refine⟨_,rfl,?_⟩
   have hq:h7 b=h6 b:=by rw [K7.at (.tail _ (.tail _ (.tail _ (List.mem_append_right _ hmN)))),K6.at (.tail _ (.tail _ (.tail _ (List.mem_append_right _ hmN))))]
   repeat' (first|(refine kr_ ?_)|refine And.intro hq ?_)
   rw [if_neg (by omega)]
   refine Kn.al K7 fun b90 h8 K8 l8 hb90=>?_
   (refine kr_ ?_)
   exact fin y h8 b90 K8
theorem Ya :DM noP 0:=⟨by simp,fun n hn=>by simp at hn,fun n hn=>by simp at hn,by simp,by simp,by simp,by simp⟩
theorem aat {i:Nat} (h:i<4): ∃s:ByteArray,([.string ⟨#[120]⟩, .string ⟨#[121]⟩, .string ⟨#[122]⟩, .string ⟨#[109,101,109]⟩]:List Value)[i]?=some (.string s)/\s.size<=100:=by
 rcases i with _|_|_|_|i
 ·exact⟨_,rfl,by decide⟩
 ·exact⟨_,rfl,by decide⟩
 ·exact⟨_,rfl,by decide⟩
 ·exact⟨_,rfl,by decide⟩
 ·omega
theorem aan {i:Nat} (h:i<2): ∃s:ByteArray,([.string ⟨#[103,111]⟩, .string ⟨#[105,110]⟩]:List Value)[i]?=some (.string s)/\s.size<=100:=by
 rcases i with _|_|i
 ·exact⟨_,rfl,by decide⟩
 ·exact⟨_,rfl,by decide⟩
 ·omega
theorem xA {a b:Int} (h1:0<=a) (h2:a<=2) (h3:1<=b) (h4:b<=16):bT ⟨a,b⟩=true:=decide_eq_true ⟨⟨h1,h2⟩,h3,h4⟩
set_option maxHeartbeats 2000000 in
theorem JK {g h:Hp} {A:List (Nat×Blk)} {B p:Nat} {s:Sl} {bs:List Nat} {big:Bool} {R:Value->Hp->Prop} (K:Kn g h ((B,rdC s p)::A)) (hb:ByteS g s bs) (hp:p<=800000)
  (k: ∀h' p' X' M' m',Kn g h' ((B,rdC s p')::(A++X'))->MG X' M' m'->DM m' 12->0<m'.nodes.length->p'<=p+60->R (aO M') h'):
  lm #[.pointer (some ⟨B,0,none⟩),aO noM, .bool big] h R:=by
 apply yJ
 refine uf_ ?_
 refine Kn.al K fun b9 h1 K1 l1 hb9=>?_
 refine Kn.al K1 fun b11 h2 K2 l2 hb11=>?_
 refine Kn.al K2 fun b14 h3 K3 l3 hb14=>?_
 clear K K1 K2 l1 l2 l3 hb9 hb11 hb14
 refine ap (fun J=> ∀x:Int,J x) (fun x20=>?_) (fun J hJ=>ac (fun _=>hJ _) (fun _=>hJ _))
 refine kp_ ?_
 intro x24 h4 K4 hx24 _
 refine⟨_,rfl,?_⟩
 replace hx24:x24<3:=by have:=hx24 (by omega);omega
 clear K3 h3 h2 h1 h
 rw [show W (1+(x24:Int))=((1+x24:Nat):Int) by rw [bV (by omega) (by omega)];omega]
 refine av (1+x24) (fun i vs h'=> ∃(bits:Int) (q:Nat) (X:List (Nat×Blk)) (M:MSl) (m:ai),vs= [.pointer (some ⟨B,0,none⟩), .pointer (some ⟨b9,0,none⟩), .pointer (some ⟨b11,0,none⟩),(arr b14 4).v,I bits,I (1+x24:Nat),I i]/\
  MG X M m/\DM m i/\q<=p+1+4*i/\Kn g h' ((b14, .inl ⟨[.string ⟨#[120]⟩, .string ⟨#[121]⟩, .string ⟨#[122]⟩, .string ⟨#[109,101,109]⟩],4,false⟩)::(b11, .inl ⟨cZ,5,false⟩)::(b9, .inl ⟨aw M,5,false⟩)::(B,rdC s q)::(A++X)))
  ⟨x20,p+1, [],noM,noP,rfl,MG.nil,Ya,by omega,by rw [List.append_nil];exact K4⟩ ?_
 clear K4 h4
 rintro i _ h4 nxt hi ⟨bits,q,X,M,m,rfl,o,d,hq,K4⟩ hnx
 refine⟨_,b9,0,b11,0,arr b14 4,_,_,_,rfl,?_⟩
 have hl:=o.lens
 have hdn:=d.nodes
 by_cases hlt:i<1+x24
 ·refine aJ (by rw [decide_eq_true_eq];omega) ?_
  have hi4:i<4:=by omega
  refine ap (fun J=> ∀(bits:Int) h5 q X M m,MG X M m->DM m (i+1)->q<=p+1+4*(i+1)->Kn g h5 ((b14, .inl ⟨[.string ⟨#[120]⟩, .string ⟨#[121]⟩, .string ⟨#[122]⟩, .string ⟨#[109,101,109]⟩],4,false⟩)::(b11, .inl ⟨cZ,5,false⟩)::(b9, .inl ⟨aw M,5,false⟩)::(B,rdC s q)::(A++X))->J bits h5)
   (fun bits h5 q X M m o d hq K5=>?_) (fun J hJ=>?_)
  ·rw [aA (by omega)]
   exact hnx hlt _ _ ⟨bits,q,X,M,m,rfl,o,d,hq,K5⟩
  ·refine kp_ ?_
   intro x45 h5 K5 hx45 _
   refine⟨_,rfl,?_⟩
   replace hx45:x45<4:=by have:=hx45 (by omega);omega
   refine Kn.al K5 fun b46 h6 K6 l6 hb46=>?_
   clear K5 K4
   refine kw_ ?_
   intro h7 K7 _
   clear K6 l6 hb46
   refine kp_ ?_
   intro x54 h8 K8 _ _
   refine⟨_,rfl,?_⟩
   clear K7
   refine ap (fun J=> ∀(a w:Int) h9 q',0<=a->a<=2->1<=w->w<=16->q'<=q+4->Kn g h9 ((b46, .inl ⟨[I a,I w],2,false⟩)::(b14, .inl ⟨[.string ⟨#[120]⟩, .string ⟨#[121]⟩, .string ⟨#[122]⟩, .string ⟨#[109,101,109]⟩],4,false⟩)::(b11, .inl ⟨cZ,5,false⟩)::(b9, .inl ⟨aw M,5,false⟩)::(B,rdC s q')::(A++X))->J h9)
    (fun a w h9 q' a1 a2 w1 w2 hq' K9=>?_) (fun J hJ=>?_)
   ·repeat' (refine kr_ ?_)
    refine gP ⟨_,rfl,?_⟩
    refine ac (fun e=>?_) (fun e=>hJ _ _ q' X M m o (d.more (by omega)) (by omega) K9.tl)
    repeat' (refine kr_ ?_)
    refine gP ⟨_,rfl,?_⟩
    refine⟨b14,0,rfl,by omega,by dsimp only;omega,?_⟩
    repeat' (refine kr_ ?_)
    obtain⟨nm,hnm,hsz⟩:=aat hi4
    refine⟨nm,by rw [aq (K9.at (.tail _ (.head _))),Int.toNat_natCast,Nat.zero_add,Nat.mul_one];exact hnm,?_⟩
    refine Kn.al K9 fun b86 h10 K10 l10 hb86=>?_
    repeat' (refine kr_ ?_)
    refine kR (H:=_::_::_::_::_::A) (nd:=⟨36,0,0,0,0,0,⟨a,w⟩,nm⟩) o K10 (by omega) (.tail _ (.tail _ (.tail _ (.head _)))) fun s' X9 h11 o9 KF=>?_
    have K11:=KF _ (by((focus ((repeat first|exact .head|apply Upd.tail);done))))
    simp only [List.cons_append]at K11
    exact hJ _ h11 q' X9 _ _ o9 (d.addN (xA a1 a2 w1 w2) hsz) (by omega) K11.tl
   ·refine ac (fun e=>?_) (fun e=>?_)
    ·refine kp_ ?_
     intro x59 h9 K9 hx59 _
     refine⟨_,rfl,?_⟩
     refine kp_ ?_
     intro x62 h10 K10 hx62 _
     refine⟨_,rfl,?_⟩
     replace hx59:x59<2:=by have:=hx59 (by omega);omega
     replace hx62:x62<2:=by have:=hx62 (by omega);omega
     clear K9 K8
     refine kw_ ?_
     intro h11 K11 _
     refine hJ (W (1+(x59:Int))) (W (1+(x62:Int))) h11 _ ?_ ?_ ?_ ?_ ?_ K11
     ·rw [bV (by omega) (by omega)];omega
     ·rw [bV (by omega) (by omega)];omega
     ·rw [bV (by omega) (by omega)];omega
     ·rw [bV (by omega) (by omega)];omega
     ·omega
    ·refine hJ 0 (W (1+(x45:Int))) h8 _ (by omega) (by omega) ?_ ?_ ?_ K8
     ·rw [bV (by omega) (by omega)];omega
     ·rw [bV (by omega) (by omega)];omega
     ·omega
 refine aD (by rw [decide_eq_false_iff_not];omega) ?_
 clear hnx
 (refine kr_ ?_)
 refine ap (fun J=> ∀h5 X M m,MG X M m->DM m 4->0<m.nodes.length->Kn g h5 ((b14, .inl ⟨[.string ⟨#[120]⟩, .string ⟨#[121]⟩, .string ⟨#[122]⟩, .string ⟨#[109,101,109]⟩],4,false⟩)::(b11, .inl ⟨cZ,5,false⟩)::(b9, .inl ⟨aw M,5,false⟩)::(B,rdC s q)::(A++X))->J h5)
  (fun h5 X1 M1 m1 o1 d1 hpos K5=>?_) (fun J hJ=>?_)
 rotate_left
 ·refine ac (fun e=>?_) (fun e=>?_)
  ·(refine kr_ ?_)
   refine ca ⟨_,_,rfl,?_⟩
   repeat' (refine kr_ ?_)
   refine Kn.al K4 fun b109 h5 K5 l5 hb109=>?_
   repeat' (refine kr_ ?_)
   refine kR (H:=_::_::_::_::A) (nd:=⟨36,0,0,0,0,0,⟨0,2⟩,⟨#[120]⟩⟩) o K5 (by omega) (.tail _ (.tail _ (.head _))) fun s' X9 h11 o9 KF=>?_
   have K11:=KF _ (by((focus ((repeat first|exact .head|apply Upd.tail);done))))
   simp only [List.cons_append]at K11
   have hl9:=o9.lens
   exact hJ h11 X9 _ _ o9 ((d.addN (n:=⟨36,0,0,0,0,0,⟨0,2⟩,⟨#[120]⟩⟩) rfl (show (1:Nat)<=100 by omega)).more (by omega)) (by simp) K11
  ·have:m.nodes.length≠0:=fun q=>by rw [show M.no.n=0 by omega]at e;simp at e
   exact hJ h4 X M m o (d.more (by omega)) (by omega) K4
 clear K4 hdn hl d o h4
 refine kp_ ?_
 intro x122 h6 K6 hx122 _
 refine⟨_,rfl,?_⟩
 replace hx122:x122<3:=by have:=hx122 (by omega);omega
 refine av x122 (fun i vs h'=> ∃(q:Nat) (X:List (Nat×Blk)) (M:MSl) (m:ai),vs= [.pointer (some ⟨B,0,none⟩), .pointer (some ⟨b9,0,none⟩), .pointer (some ⟨b11,0,none⟩),I x122,I i]/\
  MG X M m/\DM m (4+i)/\0<m.nodes.length/\q<=p+20+i/\Kn g h' ((b14, .inl ⟨[.string ⟨#[120]⟩, .string ⟨#[121]⟩, .string ⟨#[122]⟩, .string ⟨#[109,101,109]⟩],4,false⟩)::(b11, .inl ⟨cZ,5,false⟩)::(b9, .inl ⟨aw M,5,false⟩)::(B,rdC s q)::(A++X)))
  ⟨q+1,X1,M1,m1,rfl,o1,d1,hpos,by omega,K6⟩ ?_
 clear K6 K5 hpos d1 o1 hq q m1 M1 X1 h5 h6 m M X
 rintro j _ h4 nxt hj ⟨q,X,M,m,rfl,o,d,hpos,hq,K4⟩ hnx
 refine⟨_,b9,0,b11,0,_,_,rfl,?_⟩
 have hl:=o.lens
 have hdn:=d.nodes
 by_cases hlt:j<x122
 ·refine aJ (by rw [decide_eq_true_eq];omega) ?_
  have hj2:j<2:=by omega
  refine ap (fun J=> ∀h5 q X M m,MG X M m->DM m (4+j+1)->0<m.nodes.length->q<=p+20+(j+1)->Kn g h5 ((b14, .inl ⟨[.string ⟨#[120]⟩, .string ⟨#[121]⟩, .string ⟨#[122]⟩, .string ⟨#[109,101,109]⟩],4,false⟩)::(b11, .inl ⟨cZ,5,false⟩)::(b9, .inl ⟨aw M,5,false⟩)::(B,rdC s q)::(A++X))->J h5)
   (fun h5 q X M m o d hpos hq K5=>?_) (fun J hJ=>?_)
  ·rw [aA (by omega)]
   exact hnx hlt _ _ ⟨q,X,M,m,rfl,o,d,hpos,hq,K5⟩
  obtain⟨nm,hnm,hsz⟩:=aan hj2
  have fin: ∀(x bn bg:Nat) (h8:Hp),x<2->Kn g h8 ((bn, .inl ⟨[I 35,I 0,I 0,I 0,I 0,I 0,I 0,I (W (1+(x:Int))), .string nm],9,false⟩)::(bg, .inl ⟨[.string ⟨#[103,111]⟩, .string ⟨#[105,110]⟩],2,false⟩)::(b14, .inl ⟨[.string ⟨#[120]⟩, .string ⟨#[121]⟩, .string ⟨#[122]⟩, .string ⟨#[109,101,109]⟩],4,false⟩)::
    (b11, .inl ⟨cZ,5,false⟩)::(b9, .inl ⟨aw M,5,false⟩)::(B,rdC s (q+1))::(A++X))->
    ck h8 M.no.a M.no.n M.no.c (some (Addr.mk bn 0 none)) 1 9 80 fun a92 n93 k94 h95=> ∃(cs96:List Value) (z97:Nat),h95 b9=some (.inl ⟨cs96,z97,false⟩)/\0+1<=List.length cs96/\cu (h95.row b9 (cv cs96 0 [(.slice a92 n93 k94)]) z97) fun h148=>J h148:=by
   intro x bn bg h8 hx K8
   refine kR (H:=_::_::_::_::_::A) (nd:=⟨35,0,0,0,0,0,⟨0,W (1+(x:Int))⟩,nm⟩) o K8 (by omega) (.tail _ (.tail _ (.tail _ (.head _)))) fun s' X9 h9 o9 KF=>?_
   have K9:=KF _ (by((focus ((repeat first|exact .head|apply Upd.tail);done))))
   simp only [List.cons_append]at K9
   exact hJ h9 (q+1) X9 _ _ o9 (d.addN (xA (by omega) (by omega) (by rw [bV (by omega) (by omega)];omega) (by rw [bV (by omega) (by omega)];omega)) hsz) (by simp) (by omega) K9.tl
  have rd: ∀{h':Hp} {L:List (Nat×Blk)} {bg:Nat} {Q:ByteArray->Prop},Kn g h' ((bg, .inl ⟨[.string ⟨#[103,111]⟩, .string ⟨#[105,110]⟩],2,false⟩)::L)->Q nm-> ∃y:ByteArray,Hp.cell h' bg (0+Int.toNat (j:Int)*1)=some (.string y)/\Q y:=fun K' q=>⟨nm,by rw [aq (K'.at (.head _)),Int.toNat_natCast,Nat.zero_add,Nat.mul_one];exact hnm,q⟩
  (refine kr_ ?_)
  refine⟨?_,?_⟩
  ·refine kp_ ?_
   intro x h5 K5 hx _
   refine⟨_,rfl,?_⟩
   replace hx:x<2:=by have:=hx (by omega);omega
   repeat' (refine kr_ ?_)
   refine⟨?_,?_⟩
   ·refine ca ⟨_,_,rfl,?_⟩
    repeat' (refine kr_ ?_)
    refine Kn.al K5 fun bg h6 K6 l6 hbg=>?_
    repeat' (refine kr_ ?_)
    refine⟨by omega,by omega,?_⟩
    refine rd K6 ?_
    refine Kn.al K6 fun bn h7 K7 l7 hbn=>?_
    repeat' (refine kr_ ?_)
    exact fin x bn bg h7 hx K7
   ·refine Kn.al K5 fun bg h6 K6 l6 hbg=>?_
    repeat' (refine kr_ ?_)
    refine⟨by omega,by omega,?_⟩
    refine rd K6 ?_
    refine ca ⟨_,_,rfl,?_⟩
    repeat' (refine kr_ ?_)
    refine Kn.al K6 fun bn h7 K7 l7 hbn=>?_
    repeat' (refine kr_ ?_)
    exact fin x bn bg h7 hx K7
  ·refine Kn.al K4 fun bg h5 K5 l5 hbg=>?_
   repeat' (refine kr_ ?_)
   refine⟨by omega,by omega,?_⟩
   refine rd K5 ?_
   refine kp_ ?_
   intro x h6 K6 hx _
   refine⟨_,rfl,?_⟩
   replace hx:x<2:=by have:=hx (by omega);omega
   repeat' (refine kr_ ?_)
   refine ca ⟨_,_,rfl,?_⟩
   repeat' (refine kr_ ?_)
   refine Kn.al K6 fun bn h7 K7 l7 hbn=>?_
   repeat' (refine kr_ ?_)
   exact fin x bn bg h7 hx K7
 refine aD (by rw [decide_eq_false_iff_not];omega) ?_
 clear hnx
 refine kp_ ?_
 intro x205 h6 K6 hx205 _
 refine⟨_,rfl,?_⟩
 replace hx205:x205<3:=by have:=hx205 (by omega);omega
 rw [show W (1+(x205:Int))=((1+x205:Nat):Int) by rw [bV (by omega) (by omega)];omega]
 refine av (1+x205) (fun i vs h'=> ∃(q:Nat) (X:List (Nat×Blk)) (M:MSl) (m:ai),vs= [.pointer (some ⟨B,0,none⟩), .pointer (some ⟨b9,0,none⟩), .pointer (some ⟨b11,0,none⟩),I (1+x205:Nat),I i]/\
  MG X M m/\DM m (6+i)/\0<m.nodes.length/\q<=p+30+2*i/\Kn g h' ((b14, .inl ⟨[.string ⟨#[120]⟩, .string ⟨#[121]⟩, .string ⟨#[122]⟩, .string ⟨#[109,101,109]⟩],4,false⟩)::(b11, .inl ⟨cZ,5,false⟩)::(b9, .inl ⟨aw M,5,false⟩)::(B,rdC s q)::(A++X)))
  ⟨q+1,X,M,m,rfl,o,d.more (by omega),hpos,by omega,K6⟩ ?_
 clear K6 K4 hpos d o hl hdn hq q m M X h4 h6
 rintro i _ h4 nxt hi ⟨q,X,M,m,rfl,o,d,hpos,hq,K4⟩ hnx
 refine⟨_,b9,0,b11,0,_,_,rfl,?_⟩
 have hl:=o.lens
 have hdn:=d.nodes
 by_cases hlt:i<1+x205
 rotate_left
 ·refine aD (by rw [decide_eq_false_iff_not];omega) ?_
  repeat' (refine kr_ ?_)
  refine Cn K4 (by((focus ((repeat first|exact .head|apply Upd.tail);done)))) fun h6 K6=>?_
  exact k h6 q X M m K6.tl.tl.tl o (d.more (by omega)) hpos (by omega)
 refine aJ (by rw [decide_eq_true_eq];omega) ?_
 refine ap (fun J=> ∀h5 q X M m,MG X M m->DM m (6+i+1)->0<m.nodes.length->q<=p+30+2*(i+1)->Kn g h5 ((b14, .inl ⟨[.string ⟨#[120]⟩, .string ⟨#[121]⟩, .string ⟨#[122]⟩, .string ⟨#[109,101,109]⟩],4,false⟩)::(b11, .inl ⟨cZ,5,false⟩)::(b9, .inl ⟨aw M,5,false⟩)::(B,rdC s q)::(A++X))->J h5)
  (fun h5 q X M m o d hpos hq K5=>?_) (fun J hJ=>?_)
 ·rw [aA (by omega)]
  exact hnx hlt _ _ ⟨q,X,M,m,rfl,o,d,hpos,hq,K5⟩
 refine kp_ ?_
 intro w h5 K5 hw _
 refine⟨_,rfl,?_⟩
 replace hw:w<4:=by have:=hw (by omega);omega
 have hp2:0<2^(1+w):=Nat.two_pow_pos _
 rw [show W (1+(w:Int))=((1+w:Nat):Int) by rw [bV (by omega) (by omega)];omega]
 have fin: ∀(y bn:Nat) (h8:Hp),Kn g h8 ((bn, .inl ⟨[I 34,I 0,I 0,I 0,I (Int.tmod y (2^(1+w):Nat)),I 0,I 0,I (1+w:Nat), .string ⟨#[]⟩],9,false⟩)::(b14, .inl ⟨[.string ⟨#[120]⟩, .string ⟨#[121]⟩, .string ⟨#[122]⟩, .string ⟨#[109,101,109]⟩],4,false⟩)::
   (b11, .inl ⟨cZ,5,false⟩)::(b9, .inl ⟨aw M,5,false⟩)::(B,rdC s (q+1+1))::(A++X))->
   ck h8 M.no.a M.no.n M.no.c (some (Addr.mk bn 0 none)) 1 9 80 fun a92 n93 k94 h95=> ∃(cs96:List Value) (z97:Nat),h95 b9=some (.inl ⟨cs96,z97,false⟩)/\0+1<=List.length cs96/\cu (h95.row b9 (cv cs96 0 [(.slice a92 n93 k94)]) z97) fun h148=>J h148:=by
  intro y bn h8 K8
  refine kR (H:=_::_::_::_::A) (nd:=⟨34,0,0,0,Int.tmod y (2^(1+w):Nat),0,⟨0,(1+w:Nat)⟩,⟨#[]⟩⟩) o K8 (by omega) (.tail _ (.tail _ (.head _))) fun s' X9 h9 o9 KF=>?_
  have K9:=KF _ (by((focus ((repeat first|exact .head|apply Upd.tail);done))))
  simp only [List.cons_append]at K9
  exact hJ h9 _ X9 _ _ o9 (d.addN (xA (by omega) (by omega) (by omega) (by omega)) (show (0:Nat)<=100 by omega)) (by simp) (by omega) K9
 (refine kr_ ?_)
 refine⟨?_,?_⟩
 ·refine kp_ ?_
  intro y h6 K6 hy _
  refine⟨_,rfl,?_⟩
  repeat' (refine kr_ ?_)
  refine⟨?_,?_⟩
  ·repeat' (refine kr_ ?_)
   rw [cl (by omega),if_neg (by omega),bG (by omega),if_neg (by omega)]
   refine ca ⟨_,_,rfl,?_⟩
   repeat' (refine kr_ ?_)
   refine Kn.al K6 fun bn h7 K7 l7 hbn=>?_
   repeat' (refine kr_ ?_)
   exact fin y bn h7 K7
  ·refine ca ⟨_,_,rfl,?_⟩
   repeat' (refine kr_ ?_)
   rw [cl (by omega),if_neg (by omega),bG (by omega),if_neg (by omega)]
   refine Kn.al K6 fun bn h7 K7 l7 hbn=>?_
   repeat' (refine kr_ ?_)
   exact fin y bn h7 K7
 ·repeat' (refine kr_ ?_)
  rw [cl (by omega),if_neg (by omega),bG (by omega)]
  refine kp_ ?_
  intro y h6 K6 hy _
  refine⟨_,rfl,?_⟩
  repeat' (refine kr_ ?_)
  rw [if_neg (by omega)]
  refine ca ⟨_,_,rfl,?_⟩
  repeat' (refine kr_ ?_)
  refine Kn.al K6 fun bn h7 K7 l7 hbn=>?_
  repeat' (refine kr_ ?_)
  exact fin y bn h7 K7
theorem sG {c:Prop} [Decidable c] {x t:SortP} (h:(if c then some x else none)=some t):c/\x=t:=by
 by_cases e:c
 ·rw [if_pos e]at h;exact⟨e,Option.some.inj h⟩
 ·rw [if_neg e]at h;cases h
theorem Lb {n:NodeP} {a b c t:SortP} (ha:bT a=true) (hb:2<=ar n.kind->bT b=true) (h:de n a b c=some t):bT t=true:=by
 obtain⟨⟨a1,a2⟩,a3,a4⟩:=kS ha
 unfold de at h
 by_cases e33:n.kind=33
 ·rw [if_pos e33]at h
  obtain⟨_,rfl⟩:=sG h
  exact hb (by rw [e33];decide)
 rw [if_neg e33]at h
 by_cases e37:n.kind=37
 ·rw [if_pos e37]at h
  obtain⟨_,rfl⟩:=sG h
  exact m4 a3 a4
 rw [if_neg e37]at h
 by_cases e38:n.kind=38
 ·rw [if_pos e38]at h
  obtain⟨_,rfl⟩:=sG h
  exact ha
 rw [if_neg e38]at h
 by_cases e21:n.kind=21
 ·rw [if_pos e21]at h
  obtain⟨_,rfl⟩:=sG h
  exact m4 (by omega) (by omega)
 rw [if_neg e21]at h
 by_cases ei:0<a.idx\/(ar n.kind=2/\0<b.idx)
 ·rw [if_pos ei]at h;cases h
 rw [if_neg ei]at h
 by_cases e29:n.kind=29
 ·rw [if_pos e29]at h
  obtain⟨e,rfl⟩:=sG h
  have:=kS (hb (by rw [e29];decide))
  exact m4 (by omega) (by omega)
 rw [if_neg e29]at h
 by_cases e30:n.kind=30
 ·rw [if_pos e30]at h
  obtain⟨e,rfl⟩:=sG h
  exact m4 (by omega) (by omega)
 rw [if_neg e30]at h
 by_cases e31:n.kind=31\/n.kind=32
 ·rw [if_pos e31]at h
  obtain⟨e,rfl⟩:=sG h
  exact m4 (by omega) (by omega)
 rw [if_neg e31]at h
 have hw: ∀q:Prop, [Decidable q]->bT (cx (if q then a.wid else 1))=true:=fun q _=>by
  by_cases e:q
  ·rw [if_pos e];exact m4 a3 a4
  ·rw [if_neg e];exact m4 (by omega) (by omega)
 by_cases e5:n.kind<=5
 ·rw [if_pos e5]at h
  obtain rfl:=Option.some.inj h
  exact hw _
 rw [if_neg e5]at h
 obtain⟨_,rfl⟩:=sG h
 exact hw _
theorem Iv {l:List NodeP} {n:NodeP} {t:SortP} (hk:ar n.kind≠0) (h:cQ l n=some t):bT t=true:=by
 unfold cQ at h
 by_cases e:l.length<=60/\eY l.length n=true
 ·rw [if_pos e,if_neg hk]at h
  by_cases e2:(bT (aE l n.a)&&((decide (ar n.kind<2)||bT (aE l n.b))&&(decide (ar n.kind<3)||bT (aE l n.c))))=true
  ·rw [if_pos e2]at h
   simp only [Bool.and_eq_true,Bool.or_eq_true,decide_eq_true_eq]at e2
   exact Lb e2.1 (fun h2=>e2.2.1.resolve_left (by omega)) h
  ·rw [if_neg e2]at h;cases h
 ·rw [if_neg e]at h;cases h
set_option maxHeartbeats 2000000 in
theorem Ot {g h:Hp} {A X:List (Nat×Blk)} {B p N:Nat} {s:Sl} {bs:List Nat} {M:MSl} {m:ai} {R:Value->Hp->Prop} (K:Kn g h ((B,rdC s p)::(A++X))) (hb:ByteS g s bs) (o:MG X M m) (d:DM m N) (hN:N<=1000)
  (hne:0<m.nodes.length) (hp:p<=800000)
  (k: ∀h' p' X' M' m',Kn g h' ((B,rdC s p')::(A++X'))->MG X' M' m'->DM m' (N+3)->0<m'.nodes.length->p'<=p+20->R (aO M') h'):
  ny #[.pointer (some ⟨B,0,none⟩),aO M] h R:=by
 apply Bw
 refine uf_ ?_
 have hl:=o.lens
 have hsm:=d.small (by omega)
 have hdn:=d.nodes
 refine Kn.al K fun b8 h1 K1 l1 hb8=>?_
 refine Kn.al K1 fun b10 h2 K2 l2 hb10=>?_
 clear K K1 l1 l2 hb8 hb10
 refine kp_ ?_
 intro x15 h3 K3 hx15 _
 refine⟨_,rfl,?_⟩
 replace hx15:x15<33:=by have:=hx15 (by omega);omega
 refine Kn.al K3 fun b16 h4 K4 l4 hb16=>?_
 refine kw_ ?_
 intro h5 K5 kpz
 clear kpz
 rw [show W (1+(x15:Int))=((1+x15:Nat):Int) by rw [bV (by omega) (by omega)];omega]at K5
 have K5':Kn g h5 ((b16, .inl ⟨nodeCells ⟨(1+x15:Nat),0,0,0,0,0,⟨0,0⟩,⟨#[]⟩⟩,9,false⟩)::(b10, .inl ⟨cZ,5,false⟩)::(b8, .inl ⟨aw M,5,false⟩)::(B,rdC s (p+1))::(A++X)):=K5
 clear K5 K4 K3 K2 l4 hb16 h4 h3 h2 h1 h
 refine kp_ ?_
 intro x24 h6 K6 _ _
 refine⟨_,rfl,?_⟩
 clear K5' h5
 have hk0:ar ((1+x15:Nat):Int)≠0:=by
  unfold ar
  have h1: ¬(34<=((1+x15:Nat):Int)/\((1+x15:Nat):Int)<=36):=by omega
  rw [if_neg h1]
  split
  ·decide
  ·split
   ·decide
   ·split<;>decide
 refine ap (fun J=> ∀(kd:Int) h5 q,ar kd≠0->q<=p+3->Kn g h5 ((b16, .inl ⟨nodeCells ⟨kd,0,0,0,0,0,⟨0,0⟩,⟨#[]⟩⟩,9,false⟩)::(b10, .inl ⟨cZ,5,false⟩)::(b8, .inl ⟨aw M,5,false⟩)::(B,rdC s q)::(A++X))->J h5) (fun kd h5 q hkd hq K5=>?_) (fun J hJ=>?_)
 rotate_left
 ·refine ac (fun e=>?_) (fun e=>hJ _ h6 _ hk0 (by omega) K6)
  refine Kn.al K6 fun b27 h7 K7 l7 hb27=>?_
  refine kp_ ?_
  intro x31 h8 K8 hx31 _
  refine⟨_,rfl,?_⟩
  replace hx31:x31<2:=by have:=hx31 (by omega);omega
  clear K7 K6
  refine⟨b27,0,rfl,by omega,by omega,?_⟩
  obtain⟨kd,hkd,hk1⟩: ∃kd:Int,([I 37,I 38]:List Value)[x31]?=some (I kd)/\ar kd≠0:=by
   rcases x31 with _|_|i
   ·exact⟨37,rfl,by decide⟩
   ·exact⟨38,rfl,by decide⟩
   ·omega
  refine⟨kd,by rw [aq (K8.at (.head _)),Int.toNat_natCast,Nat.zero_add,Nat.mul_one];exact hkd,?_⟩
  refine kw_ ?_
  intro h9 K9 kpz
  clear kpz
  exact hJ kd h9 _ hk1 (by omega) K9.tl
 clear K6 hk0 hx15 h6
 (refine kr_ ?_)
 refine kp_ ?_
 intro a h6 K6 ha _
 refine⟨_,rfl,?_⟩
 replace ha:a<m.nodes.length:=by have:=ha (by omega);omega
 clear K5
 refine kw_ ?_
 intro h7 K7 kpz
 clear kpz
 have K7':Kn g h7 ((b16, .inl ⟨nodeCells ⟨kd,a,0,0,0,0,⟨0,0⟩,⟨#[]⟩⟩,9,false⟩)::(b10, .inl ⟨cZ,5,false⟩)::(b8, .inl ⟨aw M,5,false⟩)::(B,rdC s (q+1))::(A++X)):=K7
 clear K7 K6 h5 h6
 repeat' (refine kr_ ?_)
 obtain⟨na,hna⟩: ∃n,m.nodes[a]?=some n:=⟨_,List.getElem?_eq_getElem ha⟩
 have hs:=o.modelS (A:=_::_::_::_::A) hsm K7'
 obtain⟨b,oo,ha',e0,e1,e2,e3,e4,e5,e6,e7,e8⟩:=hs.nodes.at hna
 refine⟨b,oo,ha',(by first|omega|(dsimp only;omega)),(by first|omega|(dsimp only;omega)),_,by rw [Int.toNat_natCast];exact e6,_,by rw [Int.toNat_natCast];exact e7,?_⟩
 clear e0 e1 e2 e3 e4 e5 e6 e7 e8 ha' hs
 refine Kn.al K7' fun b54 h8 K8 l8 hb54=>?_
 refine kw_ ?_
 intro h9 K9 kpz
 clear kpz
 have K9':Kn g h9 ((b54, .inl ⟨[I na.sort.idx,I na.sort.wid],2,false⟩)::(b16, .inl ⟨nodeCells ⟨kd,a,0,0,0,0,⟨0,0⟩,⟨#[]⟩⟩,9,false⟩)::(b10, .inl ⟨cZ,5,false⟩)::(b8, .inl ⟨aw M,5,false⟩)::(B,rdC s (q+1))::(A++X)):=K9
 clear K9 K8 K7' l8 hb54 h8 h7
 have hst:=q8 d hna
 obtain⟨⟨w1,w2⟩,w3,w4⟩:=kS hst
 refine ap (fun J=> ∀h5 q' X' M' m' (nd:NodeP) (z:Blk),nd.kind=kd->nd.name.size=0->MG X' M' m'->DM m' (N+2)->0<m'.nodes.length->q'<=q+10->Kn g h5 ((b54,z)::(b16, .inl ⟨nodeCells nd,9,false⟩)::(b10, .inl ⟨cZ,5,false⟩)::(b8, .inl ⟨aw M',5,false⟩)::(B,rdC s q')::(A++X'))->J b8 0 b10 0 b16 0 h5)
  (fun h5 q' X' M' m' nd z hkd2 hnm o' d' hpos hq' K5=>?_) (fun J hJ=>?_)
 ·clear K9'
  have hl':=o'.lens
  have hdn':=d'.nodes
  have hsm':=d'.small (by omega)
  have hs:=o'.modelS (A:=_::_::_::_::_::A) hsm' K5
  repeat' (refine kr_ ?_)
  refine mE (n:=nd) hs.nodes (by omega) ?_
  cases hns:cQ m'.nodes nd with
  |none=>
   refine⟨_,_,_,rfl,?_⟩
   refine Kn.al K5 fun b327 h6 K6 l6 hb327=>?_
   clear K5
   refine kw_ ?_
   intro h7 K7 kpz
   clear kpz
   clear K6
   rw [dW]
   refine aJ rfl (aJ rfl ?_)
   repeat' (refine kr_ ?_)
   refine Cn K7 (by((focus ((repeat first|exact .head|apply Upd.tail);done)))) fun h8 K8=>?_
   exact k h8 q' X' M' m' K8.tl.tl.tl.tl.tl o' (d'.more (by omega)) hpos (by omega)
  |some t=>
   refine⟨_,_,_,rfl,?_⟩
   have htok:=Iv (by rw [hkd2];exact hkd) hns
   refine Kn.al K5 fun b327 h6 K6 l6 hb327=>?_
   clear K5
   refine kw_ ?_
   intro h7 K7 kpz
   clear kpz
   have K7':Kn g h7 ((b327, .inl ⟨[I t.idx,I t.wid],2,false⟩)::(b54,z)::(b16, .inl ⟨nodeCells nd,9,false⟩)::(b10, .inl ⟨cZ,5,false⟩)::(b8, .inl ⟨aw M',5,false⟩)::(B,rdC s q')::(A++X')):=K7
   clear K6 K7
   refine ap (fun J=> ∀c,J c) (fun c=>?_) (fun J hJ=>?_)
   rotate_left
   ·refine aD rfl ?_
    (refine kr_ ?_)
    refine ac (fun _=>hJ _) (fun _=>?_)
    (refine kr_ ?_)
    exact hJ _
   cases c with
   |true=>
    refine aJ rfl ?_
    repeat' (refine kr_ ?_)
    refine Cn K7' (by((focus ((repeat first|exact .head|apply Upd.tail);done)))) fun h8 K8=>?_
    exact k h8 q' X' M' m' K8.tl.tl.tl.tl.tl o' (d'.more (by omega)) hpos (by omega)
   |false=>
    refine aD rfl ?_
    repeat' (refine kr_ ?_)
    refine kw_ ?_
    intro h8 K8 kpz
    clear kpz
    have K8':Kn g h8 ((b327, .inl ⟨[I t.idx,I t.wid],2,false⟩)::(b54,z)::(b16, .inl ⟨nodeCells {nd with sort:=t},9,false⟩)::(b10, .inl ⟨cZ,5,false⟩)::(b8, .inl ⟨aw M',5,false⟩)::(B,rdC s q')::(A++X')):=K8
    clear K8 K7'
    repeat' (refine kr_ ?_)
    refine Kn.al K8' fun b368 h9 K9 l9 hb368=>?_
    refine kR (H:=_::_::_::_::_::_::A) (nd:={nd with sort:=t}) o' K9 (by omega) (.tail _ (.tail _ (.tail _ (.tail _ (.head _))))) fun s' X9 h10 o9 KF=>?_
    have K10:=KF _ (by((focus ((repeat first|exact .head|apply Upd.tail);done))))
    simp only [List.cons_append]at K10
    clear KF K9 K8'
    repeat' (refine kr_ ?_)
    refine Cn (M:={M' with no:=s'}) K10 (by((focus ((repeat first|exact .head|apply Upd.tail);done)))) fun h11 K11=>?_
    exact k h11 q' X9 _ _ K11.tl.tl.tl.tl.tl o9 ((d'.addN htok (by show nd.name.size<=100;omega)).more (by omega)) (by simp) (by omega)
 (refine kr_ ?_)
 refine ac (fun e=>?_) (fun e=>?_)
 ·repeat' (refine kr_ ?_)
  refine ca ⟨_,_,rfl,?_⟩
  repeat' (refine kr_ ?_)
  refine ue (p:=q+1) (A:=(b54, .inl ⟨[I na.sort.idx,I na.sort.wid],2,false⟩)::(b16, .inl ⟨nodeCells ⟨kd,a,0,0,0,0,⟨0,0⟩,⟨#[]⟩⟩,9,false⟩)::(b10, .inl ⟨cZ,5,false⟩)::(b8, .inl ⟨aw M,5,false⟩)::A) (st:=⟨0,1⟩)
   (K9'.perm (yZ _ _ _ _ _ _)) hb o d (by omega) hne (by omega) rfl fun h5 q5 X5 M5 m5 i5 K5 o5 d5 hi5 hl5 hq5=>⟨_,_,_,_,_,_,rfl,?_⟩
  replace K5:=K5.perm (yZ _ _ _ _ _ _).symm
  clear K9'
  refine jA (M':=M5) K5 (by((focus ((repeat first|exact .head|apply Upd.tail);done)))) rfl fun h6 K6=>?_
  clear K5
  refine kw_ ?_
  intro h7 K7 kpz
  clear kpz
  have K7':Kn g h7 ((b54, .inl ⟨[I na.sort.idx,I na.sort.wid],2,false⟩)::(b16, .inl ⟨nodeCells ⟨kd,i5,0,0,0,0,⟨0,0⟩,⟨#[]⟩⟩,9,false⟩)::(b10, .inl ⟨cZ,5,false⟩)::(b8, .inl ⟨aw M5,5,false⟩)::(B,rdC s q5)::(A++X5)):=K7
  clear K6 K7
  have hl5':=o5.lens
  have hdn5:=d5.nodes
  (refine kr_ ?_)
  refine kp_ ?_
  intro x90 h8 K8 hx90 _
  refine⟨_,rfl,?_⟩
  replace hx90:x90<m5.nodes.length:=by have:=hx90 (by omega);omega
  clear K7'
  refine kw_ ?_
  intro h9 K9 kpz
  clear kpz
  have K9':Kn g h9 ((b54, .inl ⟨[I na.sort.idx,I na.sort.wid],2,false⟩)::(b16, .inl ⟨nodeCells ⟨kd,i5,x90,0,0,0,⟨0,0⟩,⟨#[]⟩⟩,9,false⟩)::(b10, .inl ⟨cZ,5,false⟩)::(b8, .inl ⟨aw M5,5,false⟩)::(B,rdC s (q5+1))::(A++X5)):=K9
  clear K8 K9
  repeat' (refine kr_ ?_)
  obtain⟨nb,hnb⟩: ∃n,m5.nodes[x90]?=some n:=⟨_,List.getElem?_eq_getElem hx90⟩
  have hs:=o5.modelS (A:=_::_::_::_::_::A) (d5.small (by omega)) K9'
  obtain⟨b,oo,ha',e0,e1,e2,e3,e4,e5,e6,e7,e8⟩:=hs.nodes.at hnb
  refine⟨b,oo,ha',(by first|omega|(dsimp only;omega)),(by first|omega|(dsimp only;omega)),_,by rw [Int.toNat_natCast];exact e6,_,by rw [Int.toNat_natCast];exact e7,?_⟩
  refine ue (p:=q5+1) (A:=(b54, .inl ⟨[I na.sort.idx,I na.sort.wid],2,false⟩)::(b16, .inl ⟨nodeCells ⟨kd,i5,x90,0,0,0,⟨0,0⟩,⟨#[]⟩⟩,9,false⟩)::(b10, .inl ⟨cZ,5,false⟩)::(b8, .inl ⟨aw M5,5,false⟩)::A) (st:=nb.sort)
   (K9'.perm (yZ _ _ _ _ _ _)) hb o5 d5 (by omega) (by omega) (by omega) (q8 d5 hnb) fun h5 q6 X6 M6 m6 i6 K5 o6 d6 hi6 hl6 hq6=>⟨_,_,_,_,_,_,rfl,?_⟩
  replace K5:=K5.perm (yZ _ _ _ _ _ _).symm
  clear K9' hs e0 e1 e2 e3 e4 e5 e6 e7 e8
  refine jA (M':=M6) K5 (by((focus ((repeat first|exact .head|apply Upd.tail);done)))) rfl fun h10 K10=>?_
  clear K5
  refine kw_ ?_
  intro h11 K11 kpz
  clear kpz
  exact hJ h11 q6 X6 M6 m6 ⟨kd,i5,x90,i6,0,0,⟨0,0⟩,⟨#[]⟩⟩ _ rfl rfl o6 d6 (by omega) (by omega) K11
 have hnl:=hdn
 refine ap (fun J=> ∀c,J c) (fun c=>?_) (fun J hJ=>?_)
 rotate_left
 ·(refine kr_ ?_)
  refine ac (fun _=>hJ _) (fun _=>?_)
  (refine kr_ ?_)
  exact hJ _
 refine ac (fun _=>?_) (fun _=>?_)
 ·--arrays
  refine av m.nodes.length (fun i vs h'=> ∃a:Nat,vs= [.pointer (some ⟨B,0,none⟩), .pointer (some ⟨b8,0,none⟩), .pointer (some ⟨b10,0,none⟩), .pointer (some ⟨b16,0,none⟩), .pointer (some ⟨b54,0,none⟩),I i]/\a<m.nodes.length/\
   Kn g h' ((b54, .inl ⟨[I na.sort.idx,I na.sort.wid],2,false⟩)::(b16, .inl ⟨nodeCells ⟨kd,a,0,0,0,0,⟨0,0⟩,⟨#[]⟩⟩,9,false⟩)::(b10, .inl ⟨cZ,5,false⟩)::(b8, .inl ⟨aw M,5,false⟩)::(B,rdC s (q+1))::(A++X))) ⟨a,rfl,ha,K9'⟩ ?_
  rintro i _ h4 nxt hi ⟨a',rfl,ha',K4⟩ hnx
  refine⟨_,b8,0,b10,0,b16,0,b54,0,_,rfl,?_⟩
  have hs:=o.modelS (A:=_::_::_::_::_::A) hsm K4
  clear K9'
  (refine kr_ ?_)
  by_cases hlt:i<m.nodes.length
  ·refine aJ (by rw [decide_eq_true_eq];omega) ?_
   refine ap (fun J=> ∀h5 (c:Nat),c<m.nodes.length->Kn g h5 ((b54, .inl ⟨[I na.sort.idx,I na.sort.wid],2,false⟩)::(b16, .inl ⟨nodeCells ⟨kd,c,0,0,0,0,⟨0,0⟩,⟨#[]⟩⟩,9,false⟩)::(b10, .inl ⟨cZ,5,false⟩)::(b8, .inl ⟨aw M,5,false⟩)::(B,rdC s (q+1))::(A++X))->J h5) (fun h5 c hc K5=>?_) (fun J hJ=>?_)
   ·rw [aA (by omega)]
    exact hnx hlt _ _ ⟨c,rfl,hc,K5⟩
   ·(refine kr_ ?_)
    obtain⟨ni,hni⟩: ∃n,m.nodes[i]?=some n:=⟨_,List.getElem?_eq_getElem hlt⟩
    obtain⟨b,oo,ha2,e0,e1,e2,e3,e4,e5,e6,e7,e8⟩:=hs.nodes.at hni
    refine⟨b,oo,ha2,(by first|omega|(dsimp only;omega)),(by first|omega|(dsimp only;omega)),_,by rw [Int.toNat_natCast];exact e6,?_⟩
    clear e0 e1 e2 e3 e4 e5 e6 e7 e8
    refine ac (fun e=>?_) (fun e=>hJ h4 a' ha' K4)
    refine kw_ ?_
    intro h5 K5 kpz
    clear kpz
    exact hJ h5 i hlt K5
  refine aD (by rw [decide_eq_false_iff_not];omega) ?_
  clear hnx
  repeat' (refine kr_ ?_)
  obtain⟨nb,hnb⟩: ∃n,m.nodes[a']?=some n:=⟨_,List.getElem?_eq_getElem ha'⟩
  obtain⟨b,oo,ha2,e0,e1,e2,e3,e4,e5,e6,e7,e8⟩:=hs.nodes.at hnb
  refine⟨b,oo,ha2,(by first|omega|(dsimp only;omega)),(by first|omega|(dsimp only;omega)),_,by rw [Int.toNat_natCast];exact e6,_,by rw [Int.toNat_natCast];exact e7,?_⟩
  clear e0 e1 e2 e3 e4 e5 e6 e7 e8 hs
  obtain⟨⟨v1,v2⟩,v3,v4⟩:=kS (q8 d hnb)
  refine kw_ ?_
  intro h5 K5 kpz
  clear kpz
  have K5':Kn g h5 ((b54, .inl ⟨[I nb.sort.idx,I nb.sort.wid],2,false⟩)::(b16, .inl ⟨nodeCells ⟨kd,a',0,0,0,0,⟨0,0⟩,⟨#[]⟩⟩,9,false⟩)::(b10, .inl ⟨cZ,5,false⟩)::(b8, .inl ⟨aw M,5,false⟩)::(B,rdC s (q+1))::(A++X)):=K5
  clear K5 K4
  (refine kr_ ?_)
  refine ac (fun e=>?_) (fun e=>?_)
  ·repeat' (refine kr_ ?_)
   refine Cn K5' (by((focus ((repeat first|exact .head|apply Upd.tail);done)))) fun h8 K8=>?_
   exact k h8 (q+1) X M m K8.tl.tl.tl.tl o (d.more (by omega)) hne (by omega)
  have hi1:nb.sort.idx≠0:=fun q=>by rw [q]at e;simp at e
  repeat' (refine kr_ ?_)
  refine ca ⟨_,_,rfl,?_⟩
  repeat' (refine kr_ ?_)
  refine ue (p:=q+1) (A:=(b54, .inl ⟨[I nb.sort.idx,I nb.sort.wid],2,false⟩)::(b16, .inl ⟨nodeCells ⟨kd,a',0,0,0,0,⟨0,0⟩,⟨#[]⟩⟩,9,false⟩)::(b10, .inl ⟨cZ,5,false⟩)::(b8, .inl ⟨aw M,5,false⟩)::A) (st:=⟨0,nb.sort.idx⟩)
   (K5'.perm (yZ _ _ _ _ _ _)) hb o d (by omega) hne (by omega) (xA (by omega) (by omega) (by omega) (by omega)) fun h6 q6 X6 M6 m6 i6 K6 o6 d6 hi6 hl6 hq6=>⟨_,_,_,_,_,_,rfl,?_⟩
  replace K6:=K6.perm (yZ _ _ _ _ _ _).symm
  clear K5'
  refine jA (M':=M6) K6 (by((focus ((repeat first|exact .head|apply Upd.tail);done)))) rfl fun h7 K7=>?_
  clear K6
  refine kw_ ?_
  intro h8 K8 kpz
  clear kpz
  have K8':Kn g h8 ((b54, .inl ⟨[I nb.sort.idx,I nb.sort.wid],2,false⟩)::(b16, .inl ⟨nodeCells ⟨kd,a',i6,0,0,0,⟨0,0⟩,⟨#[]⟩⟩,9,false⟩)::(b10, .inl ⟨cZ,5,false⟩)::(b8, .inl ⟨aw M6,5,false⟩)::(B,rdC s q6)::(A++X6)):=K8
  clear K8 K7
  (refine kr_ ?_)
  refine ac (fun e=>?_) (fun e=>?_)
  ·repeat' (refine kr_ ?_)
   refine ca ⟨_,_,rfl,?_⟩
   repeat' (refine kr_ ?_)
   refine ue (p:=q6) (A:=(b54, .inl ⟨[I nb.sort.idx,I nb.sort.wid],2,false⟩)::(b16, .inl ⟨nodeCells ⟨kd,a',i6,0,0,0,⟨0,0⟩,⟨#[]⟩⟩,9,false⟩)::(b10, .inl ⟨cZ,5,false⟩)::(b8, .inl ⟨aw M6,5,false⟩)::A) (st:=⟨0,nb.sort.wid⟩)
    (K8'.perm (yZ _ _ _ _ _ _)) hb o6 d6 (by omega) (by omega) (by omega) (xA (by omega) (by omega) (by omega) (by omega)) fun h9 q9 X9 M9 m9 i9 K9 o9 d9 hi9 hl9 hq9=>⟨_,_,_,_,_,_,rfl,?_⟩
   replace K9:=K9.perm (yZ _ _ _ _ _ _).symm
   clear K8'
   refine jA (M':=M9) K9 (by((focus ((repeat first|exact .head|apply Upd.tail);done)))) rfl fun h10 K10=>?_
   clear K9
   refine kw_ ?_
   intro h11 K11 kpz
   clear kpz
   exact hJ h11 q9 X9 M9 m9 ⟨kd,a',i6,i9,0,0,⟨0,0⟩,⟨#[]⟩⟩ _ rfl rfl o9 d9 (by omega) (by omega) K11
  ·exact hJ h8 q6 X6 M6 m6 ⟨kd,a',i6,0,0,0,⟨0,0⟩,⟨#[]⟩⟩ _ rfl rfl o6 (d6.more (by omega)) (by omega) (by omega) K8'
 (refine kr_ ?_)
 refine ac (fun _=>?_) (fun _=>?_)
 ·(refine kr_ ?_)
  refine kp_ ?_
  intro y h10 K10 _ _
  refine⟨_,rfl,?_⟩
  clear K9'
  refine kw_ ?_
  intro h11 K11 kpz
  clear kpz
  exact hJ h11 _ X M m ⟨kd,a,y,0,0,0,⟨0,0⟩,⟨#[]⟩⟩ _ rfl rfl o (d.more (by omega)) hne (by omega) K11
 (refine kr_ ?_)
 refine ac (fun _=>?_) (fun _=>?_)
 ·(refine kr_ ?_)
  refine kp_ ?_
  intro y h10 K10 hy _
  refine⟨_,rfl,?_⟩
  replace hy:(y:Int)<na.sort.wid:=hy (by omega)
  clear K9'
  refine kw_ ?_
  intro h11 K11 kpz
  clear kpz
  have K11':Kn g h11 ((b54, .inl ⟨[I na.sort.idx,I na.sort.wid],2,false⟩)::(b16, .inl ⟨nodeCells ⟨kd,a,0,0,0,y,⟨0,0⟩,⟨#[]⟩⟩,9,false⟩)::(b10, .inl ⟨cZ,5,false⟩)::(b8, .inl ⟨aw M,5,false⟩)::(B,rdC s (q+1+1))::(A++X)):=K11
  clear K11 K10
  repeat' (refine kr_ ?_)
  (((with_reducible apply Pp);(assumption);(assumption);((focus ((repeat first|exact .head|apply Upd.tail);done)))))
  ·omega
  ·(show W (na.sort.wid-(y:Int))<=1000000000);rw [bV (by omega) (by omega)];omega
  intro w h12 K12 _ _
  refine⟨_,rfl,?_⟩
  repeat' (refine kr_ ?_)
  clear K11'
  refine kw_ ?_
  intro h13 K13 kpz
  clear kpz
  exact hJ h13 _ X M m ⟨kd,a,0,0,W ((y:Int)+(w:Int)),y,⟨0,0⟩,⟨#[]⟩⟩ _ rfl rfl o (d.more (by omega)) hne (by omega) K13
 refine ap (fun J=> ∀c,J c) (fun c=>?_) (fun J hJ=>?_)
 rotate_left
 ·(refine kr_ ?_)
  refine ac (fun _=>hJ _) (fun _=>?_)
  (refine kr_ ?_)
  exact hJ _
 refine ac (fun _=>?_) (fun _=>?_)
 ·refine kp_ ?_
  intro y h10 K10 _ _
  refine⟨_,rfl,?_⟩
  clear K9'
  refine kw_ ?_
  intro h11 K11 kpz
  clear kpz
  exact hJ h11 _ X M m ⟨kd,a,0,0,y,0,⟨0,0⟩,⟨#[]⟩⟩ _ rfl rfl o (d.more (by omega)) hne (by omega) K11
 (refine kr_ ?_)
 refine m8 ⟨_,rfl,?_⟩
 refine ac (fun _=>?_) (fun _=>?_)
 ·repeat' (refine kr_ ?_)
  refine ue (p:=q+1) (A:=(b54, .inl ⟨[I na.sort.idx,I na.sort.wid],2,false⟩)::(b16, .inl ⟨nodeCells ⟨kd,a,0,0,0,0,⟨0,0⟩,⟨#[]⟩⟩,9,false⟩)::(b10, .inl ⟨cZ,5,false⟩)::(b8, .inl ⟨aw M,5,false⟩)::A) (st:=na.sort)
   (K9'.perm (yZ _ _ _ _ _ _)) hb o d (by omega) hne (by omega) hst fun h6 q6 X6 M6 m6 i6 K6 o6 d6 hi6 hl6 hq6=>⟨_,_,_,_,_,_,rfl,?_⟩
  replace K6:=K6.perm (yZ _ _ _ _ _ _).symm
  clear K9'
  refine jA (M':=M6) K6 (by((focus ((repeat first|exact .head|apply Upd.tail);done)))) rfl fun h7 K7=>?_
  clear K6
  refine kw_ ?_
  intro h8 K8 kpz
  clear kpz
  exact hJ h8 q6 X6 M6 m6 ⟨kd,a,i6,0,0,0,⟨0,0⟩,⟨#[]⟩⟩ _ rfl rfl o6 (d6.more (by omega)) (by omega) (by omega) K8
 ·exact hJ h9 _ X M m ⟨kd,a,0,0,0,0,⟨0,0⟩,⟨#[]⟩⟩ _ rfl rfl o (d.more (by omega)) hne (by omega) K9'
theorem DM.addI {m:ai} {N:Nat} (d:DM m N) (x:BindP):DM {m with inits:=m.inits++ [x]} (N+1):=
 ⟨Nat.le_succ_of_le d.nodes,d.sorts,d.names,by have:=d.inits;simp;omega,Nat.le_succ_of_le d.nexts,Nat.le_succ_of_le d.bads,Nat.le_succ_of_le d.holds⟩
theorem DM.addE {m:ai} {N:Nat} (d:DM m N) (x:BindP):DM {m with nexts:=m.nexts++ [x]} (N+1):=
 ⟨Nat.le_succ_of_le d.nodes,d.sorts,d.names,Nat.le_succ_of_le d.inits,by have:=d.nexts;simp;omega,Nat.le_succ_of_le d.bads,Nat.le_succ_of_le d.holds⟩
theorem DM.addB {m:ai} {N:Nat} (d:DM m N) (x:Int):DM {m with bads:=m.bads++ [x]} (N+1):=
 ⟨Nat.le_succ_of_le d.nodes,d.sorts,d.names,Nat.le_succ_of_le d.inits,Nat.le_succ_of_le d.nexts,by have:=d.bads;simp;omega,Nat.le_succ_of_le d.holds⟩
theorem DM.addH {m:ai} {N:Nat} (d:DM m N) (x:Int):DM {m with holds:=m.holds++ [x]} (N+1):=
 ⟨Nat.le_succ_of_le d.nodes,d.sorts,d.names,Nat.le_succ_of_le d.inits,Nat.le_succ_of_le d.nexts,Nat.le_succ_of_le d.bads,by have:=d.holds;simp;omega⟩
theorem PO {g h:Hp} {H X:List (Nat×Blk)} {b bn:Nat} {M:MSl} {m:ai} {nd:BindP} {J:Hp->Prop} (o:MG X M m) (K:Kn g h ((bn, .inl ⟨bindCells nd,2,false⟩)::(H++X))) (hm:m.inits.length<=10000) (hb:(b, .inl ⟨aw M,5,false⟩)∈H)
  (k: ∀s' X' h',MG X' {M with ini:=s'} {m with inits:=m.inits++ [nd]}->(∀H',Upd H b (.inl ⟨aw M,5,false⟩) (.inl ⟨aw {M with ini:=s'},5,false⟩) H'->Kn g h' (H'++X'))->J h'):
  ck h M.ini.a M.ini.n M.ini.c (some ⟨bn,0,none⟩) 1 2 16 fun a n c h95=> ∃(cs:List Value) (z:Nat),h95 b=some (.inl ⟨cs,z,false⟩)/\(0+1)+1<=List.length cs/\cu (h95.row b (cv cs (0+1) [.slice a n c]) z) fun h'=>J h':=by
 refine MG.appI (A:=_::H) (n:=nd) o K (by omega) (K.at (.head _)) fun s' X' h7 o' K7=>?_
 rw [List.cons_append]at K7
 have f:=K7.at (.tail _ (List.mem_append_left _ hb))
 exact⟨_,_,f,by simp,k s' X' _ o' fun H' u=>(K7.tl).set (u.app (X:=X'))⟩
theorem Pr {g h:Hp} {H X:List (Nat×Blk)} {b bn:Nat} {M:MSl} {m:ai} {nd:BindP} {J:Hp->Prop} (o:MG X M m) (K:Kn g h ((bn, .inl ⟨bindCells nd,2,false⟩)::(H++X))) (hm:m.nexts.length<=10000) (hb:(b, .inl ⟨aw M,5,false⟩)∈H)
  (k: ∀s' X' h',MG X' {M with nex:=s'} {m with nexts:=m.nexts++ [nd]}->(∀H',Upd H b (.inl ⟨aw M,5,false⟩) (.inl ⟨aw {M with nex:=s'},5,false⟩) H'->Kn g h' (H'++X'))->J h'):
  ck h M.nex.a M.nex.n M.nex.c (some ⟨bn,0,none⟩) 1 2 16 fun a n c h95=> ∃(cs:List Value) (z:Nat),h95 b=some (.inl ⟨cs,z,false⟩)/\(0+2)+1<=List.length cs/\cu (h95.row b (cv cs (0+2) [.slice a n c]) z) fun h'=>J h':=by
 refine MG.appE (A:=_::H) (n:=nd) o K (by omega) (K.at (.head _)) fun s' X' h7 o' K7=>?_
 rw [List.cons_append]at K7
 have f:=K7.at (.tail _ (List.mem_append_left _ hb))
 exact⟨_,_,f,by simp,k s' X' _ o' fun H' u=>(K7.tl).set (u.app (X:=X'))⟩
theorem TS {g h:Hp} {H X:List (Nat×Blk)} {b bn:Nat} {M:MSl} {m:ai} {nd:Int} {J:Hp->Prop} (o:MG X M m) (K:Kn g h ((bn, .inl ⟨[I nd],1,false⟩)::(H++X))) (hm:m.bads.length<=10000) (hb:(b, .inl ⟨aw M,5,false⟩)∈H)
  (k: ∀s' X' h',MG X' {M with bad:=s'} {m with bads:=m.bads++ [nd]}->(∀H',Upd H b (.inl ⟨aw M,5,false⟩) (.inl ⟨aw {M with bad:=s'},5,false⟩) H'->Kn g h' (H'++X'))->J h'):
  ck h M.bad.a M.bad.n M.bad.c (some ⟨bn,0,none⟩) 1 1 8 fun a n c h95=> ∃(cs:List Value) (z:Nat),h95 b=some (.inl ⟨cs,z,false⟩)/\(0+3)+1<=List.length cs/\cu (h95.row b (cv cs (0+3) [.slice a n c]) z) fun h'=>J h':=by
 refine MG.appB (A:=_::H) (n:=nd) o K (by omega) (K.at (.head _)) fun s' X' h7 o' K7=>?_
 rw [List.cons_append]at K7
 have f:=K7.at (.tail _ (List.mem_append_left _ hb))
 exact⟨_,_,f,by simp,k s' X' _ o' fun H' u=>(K7.tl).set (u.app (X:=X'))⟩
theorem Pc {g h:Hp} {H X:List (Nat×Blk)} {b bn:Nat} {M:MSl} {m:ai} {nd:Int} {J:Hp->Prop} (o:MG X M m) (K:Kn g h ((bn, .inl ⟨[I nd],1,false⟩)::(H++X))) (hm:m.holds.length<=10000) (hb:(b, .inl ⟨aw M,5,false⟩)∈H)
  (k: ∀s' X' h',MG X' {M with hol:=s'} {m with holds:=m.holds++ [nd]}->(∀H',Upd H b (.inl ⟨aw M,5,false⟩) (.inl ⟨aw {M with hol:=s'},5,false⟩) H'->Kn g h' (H'++X'))->J h'):
  ck h M.hol.a M.hol.n M.hol.c (some ⟨bn,0,none⟩) 1 1 8 fun a n c h95=> ∃(cs:List Value) (z:Nat),h95 b=some (.inl ⟨cs,z,false⟩)/\(0+4)+1<=List.length cs/\cu (h95.row b (cv cs (0+4) [.slice a n c]) z) fun h'=>J h':=by
 refine MG.appH (A:=_::H) (n:=nd) o K (by omega) (K.at (.head _)) fun s' X' h7 o' K7=>?_
 rw [List.cons_append]at K7
 have f:=K7.at (.tail _ (List.mem_append_left _ hb))
 exact⟨_,_,f,by simp,k s' X' _ o' fun H' u=>(K7.tl).set (u.app (X:=X'))⟩
set_option maxHeartbeats 2000000 in
theorem Nv {g h:Hp} {A X:List (Nat×Blk)} {B p N:Nat} {s:Sl} {bs:List Nat} {M:MSl} {m:ai} {R:Value->Hp->Prop} (K:Kn g h ((B,rdC s p)::(A++X))) (hb:ByteS g s bs) (o:MG X M m) (d:DM m N) (hN:N<=100)
  (hne:0<m.nodes.length) (hp:p<=100000)
  (k: ∀h' p' X' M' m',Kn g h' ((B,rdC s p')::(A++X'))->MG X' M' m'->DM m' (6*N)->0<m'.nodes.length->p'<=p+N*1000->R (aO M') h'):
  nz #[.pointer (some ⟨B,0,none⟩),aO M] h R:=by
 apply AK
 refine uf_ ?_
 have hl:=o.lens
 have hsm:=d.small (by omega)
 have hdn:=d.nodes
 refine Kn.al K fun b8 h1 K1 l1 hb8=>?_
 refine Kn.al K1 fun b10 h2 K2 l2 hb10=>?_
 clear K K1 l1 l2 hb8 hb10
 (refine kr_ ?_)
 refine av m.nodes.length (fun i vs h'=> ∃q X' M' m',vs= [.pointer (some ⟨B,0,none⟩), .pointer (some ⟨b8,0,none⟩), .pointer (some ⟨b10,0,none⟩),I (M.no.n:Nat),I i]/\MG X' M' m'/\DM m' (N+5*i)/\m.nodes.length<=m'.nodes.length/\q<=p+i*1000/\
  Kn g h' ((b10, .inl ⟨cZ,5,false⟩)::(b8, .inl ⟨aw M',5,false⟩)::(B,rdC s q)::(A++X'))) ⟨p,X,M,m,rfl,o,d,Nat.le_refl _,by omega,K2⟩ ?_
 clear K2 h1 h2 h
 rintro i _ h4 nxt hi ⟨q,X',M',m',rfl,o',d',hle,hq,K4⟩ hnx
 refine⟨_,b8,0,b10,0,_,_,rfl,?_⟩
 have hl':=o'.lens
 have hdn':=d'.nodes
 have hsm':=d'.small (by omega)
 by_cases hlt:i<m.nodes.length
 rotate_left
 ·refine aD (by rw [decide_eq_false_iff_not];omega) ?_
  repeat' (refine kr_ ?_)
  refine Cn K4 (by((focus ((repeat first|exact .head|apply Upd.tail);done)))) fun h6 K6=>?_
  exact k h6 q X' M' m' K6.tl.tl o' (d'.more (by omega)) (by omega) (by omega)
 refine aJ (by rw [decide_eq_true_eq];omega) ?_
 refine ap (fun J=> ∀h5 q X M1 m1,MG X M1 m1->DM m1 (N+5*(i+1))->m.nodes.length<=m1.nodes.length->q<=p+(i+1)*1000->Kn g h5 ((b10, .inl ⟨cZ,5,false⟩)::(b8, .inl ⟨aw M1,5,false⟩)::(B,rdC s q)::(A++X))->J (some ⟨B,0,none⟩) b8 0 b10 0 (M.no.n:Nat) i h5)
  (fun h5 q X M1 m1 o1 d1 hl1 hq1 K5=>?_) (fun J hJ=>?_)
 ·rw [aA (by omega)]
  exact hnx hlt _ _ ⟨q,X,M1,m1,rfl,o1,d1,hl1,hq1,K5⟩
 clear hnx
 have hs:=o'.modelS (A:=_::_::_::A) hsm' K4
 obtain⟨ni,hni⟩: ∃n,m'.nodes[i]?=some n:=⟨_,List.getElem?_eq_getElem (by omega)⟩
 have hst:=q8 d' hni
 obtain⟨b,oo,ha,e0,e1,e2,e3,e4,e5,e6,e7,e8⟩:=hs.nodes.at hni
 (refine kr_ ?_)
 refine⟨b,oo,ha,by omega,by omega,_,by rw [Int.toNat_natCast];exact e0,?_⟩
 refine ac (fun _=>hJ h4 q X' M' m' o' (d'.more (by omega)) hle (by omega) K4) (fun hkn=>?_)
 (refine kr_ ?_)
 refine⟨b,oo,ha,by omega,by omega,_,by rw [Int.toNat_natCast];exact e6,_,by rw [Int.toNat_natCast];exact e7,?_⟩
 generalize ni.sort=st at*
 clear hkn e0 e1 e2 e3 e4 e5 e6 e7 e8 hs hni ha ni oo b
 refine Kn.al K4 fun b41 h5 K5 l5 hb5=>?_
 refine kw_ ?_
 intro h6 K6 kpz
 clear kpz
 have K6':Kn g h6 ((b41, .inl ⟨[I st.idx,I st.wid],2,false⟩)::(b10, .inl ⟨cZ,5,false⟩)::(b8, .inl ⟨aw M',5,false⟩)::(B,rdC s q)::(A++X')):=K6
 clear K6 K5 K4 l5 hb5
 obtain⟨_,hw1,hw2⟩:=kS hst
 refine kp_ ?_
 intro x49 h7 K7 hx49 _
 refine⟨_,rfl,?_⟩
 clear K6'
 refine ap (fun J2=> ∀h8 q2 X2 M2 m2,MG X2 M2 m2->DM m2 (N+5*i+2)->m.nodes.length<=m2.nodes.length->q2<=p+i*1000+2->Kn g h8 ((b41, .inl ⟨[I st.idx,I st.wid],2,false⟩)::(b10, .inl ⟨cZ,5,false⟩)::(b8, .inl ⟨aw M2,5,false⟩)::(B,rdC s q2)::(A++X2))->J2 h8)
  (fun h8 q2 X2 M2 m2 o2 d2 hl2 hq2 K8=>?_) (fun J2 hJ2=>?_)
 rotate_left
 ·refine ac (fun _=>?_) (fun _=>hJ2 h7 _ X' M' m' o' (d'.more (by omega)) hle (by omega) K7)
  refine ap (fun J3=> ∀h8 s2 X2 q2 nd,MG X2 {M' with no:=s2} {m' with nodes:=m'.nodes++ [nd]}->bT nd.sort=true->nd.name.size=0->q2<=p+i*1000+2->
   Kn g h8 ((b41, .inl ⟨[I st.idx,I st.wid],2,false⟩)::(b10, .inl ⟨cZ,5,false⟩)::(b8, .inl ⟨aw {M' with no:=s2},5,false⟩)::(B,rdC s q2)::(A++X2))->J3 h8) (fun h8 s2 X2 q2 nd o2 hs2 hn2 hq2 K8=>?_) (fun J3 hJ3=>?_)
  ·have hdi:=d'.inits
   (refine kr_ ?_)
   (refine kr_ ?_)
   refine Kn.al K8 fun b104 h9 K9 l9 hb9=>?_
   refine PO (H:=_::_::_::_::A) (nd:=⟨i,W ((s2.n:Int)-1)⟩) o2 K9 (by dsimp only;omega) (.tail _ (.tail _ (.head _))) fun s3 X3 h10 o3 KF=>?_
   have K10:=KF _ (by((focus ((repeat first|exact .head|apply Upd.tail);done))))
   simp only [List.cons_append]at K10
   clear KF K9 K8 K7
   refine hJ2 h10 q2 X3 _ _ o3 (((d'.addN hs2 (by omega)).addI _).more (by omega)) (by simp;omega) hq2 K10
  obtain⟨w,hw⟩: ∃w:Nat,st.wid=w:=⟨st.wid.toNat,by omega⟩
  have hp2:0<2^w:=Nat.two_pow_pos w
  have fin: ∀(y:Nat) (h5 h6:Hp) (q2 b:Nat),q2<=p+i*1000+2->
    Kn g h6 ((b, .inl ⟨[I 34,I 0,I 0,I 0,I (Int.tmod y (2^w:Nat)),I 0,I 0,I st.wid, .string ⟨#[]⟩],9,false⟩)::(b41, .inl ⟨[I st.idx,I st.wid],2,false⟩)::(b10, .inl ⟨cZ,5,false⟩)::(b8, .inl ⟨aw M',5,false⟩)::(B,rdC s q2)::(A++X'))->
    ck h6 M'.no.a M'.no.n M'.no.c (some (Addr.mk b 0 none)) 1 9 80 fun a92 n93 k94 h95=> ∃(cs96:List Value) (z97:Nat),h95 b8=some (.inl ⟨cs96,z97,false⟩)/\0+1<=List.length cs96/\cu (h95.row b8 (cv cs96 0 [(.slice a92 n93 k94)]) z97) fun h98=>J3 h98:=by
   intro y h5 h6 q2 b hq2 K6
   refine kR (H:=_::_::_::_::A) (nd:=⟨34,0,0,0,Int.tmod y (2^w:Nat),0,cx st.wid,⟨#[]⟩⟩) o' K6 (by omega) (.tail _ (.tail _ (.head _))) fun s2 X2 h8 o2 KF=>?_
   have K8:=KF _ (by((focus ((repeat first|exact .head|apply Upd.tail);done))))
   simp only [List.cons_append]at K8
   exact hJ3 h8 s2 X2 q2 _ o2 (m4 hw1 hw2) rfl hq2 K8
  repeat' (refine kr_ ?_)
  refine⟨?_,?_⟩
  ·refine kp_ ?_
   intro y h8 K8 hy _
   refine⟨_,rfl,?_⟩
   repeat' (refine kr_ ?_)
   refine⟨?_,?_⟩
   ·repeat' (refine kr_ ?_)
    rw [hw,cl (by omega),if_neg (by omega),bG (by omega),if_neg (by omega),<-hw]
    refine ca ⟨_,_,rfl,?_⟩
    repeat' (refine kr_ ?_)
    refine Kn.al K8 fun b90 h9 K9 l9 hb90=>?_
    (refine kr_ ?_)
    exact fin y h8 h9 _ b90 (by omega) K9
   ·repeat' (refine kr_ ?_)
    refine ca ⟨_,_,rfl,?_⟩
    repeat' (refine kr_ ?_)
    rw [hw,cl (by omega),if_neg (by omega),bG (by omega),if_neg (by omega),<-hw]
    refine Kn.al K8 fun b90 h9 K9 l9 hb90=>?_
    (refine kr_ ?_)
    exact fin y h8 h9 _ b90 (by omega) K9
  ·repeat' (refine kr_ ?_)
   rw [hw,cl (by omega),if_neg (by omega),bG (by omega),<-hw]
   refine kp_ ?_
   intro y h8 K8 hy _
   refine⟨_,rfl,?_⟩
   repeat' (refine kr_ ?_)
   rw [if_neg (by omega)]
   refine ca ⟨_,_,rfl,?_⟩
   repeat' (refine kr_ ?_)
   refine Kn.al K8 fun b90 h9 K9 l9 hb90=>?_
   (refine kr_ ?_)
   exact fin y h8 h9 _ b90 (by omega) K9
 clear K7 h7 hsm' hdn' hl' hq d' o' hle X' M' m' q
 have hl':=o2.lens
 have hdn':=d2.nodes
 have hsm':=d2.small (by omega)
 refine kp_ ?_
 intro x118 h9 K9 _ _
 refine⟨_,rfl,?_⟩
 refine ac (fun _=>hJ h9 _ X2 M2 m2 o2 (d2.more (by omega)) hl2 (by omega) K9.tl) (fun _=>?_)
 clear K8
 refine av m2.nodes.length (fun j vs h'=> ∃(a q:Nat),vs= [.pointer (some ⟨B,0,none⟩), .pointer (some ⟨b8,0,none⟩), .pointer (some ⟨b10,0,none⟩),I (M.no.n:Nat),I i, .pointer (some ⟨b41,0,none⟩),I a,I j]/\a<m2.nodes.length/\q<=p+i*1000+3+j/\
  Kn g h' ((b41, .inl ⟨[I st.idx,I st.wid],2,false⟩)::(b10, .inl ⟨cZ,5,false⟩)::(b8, .inl ⟨aw M2,5,false⟩)::(B,rdC s q)::(A++X2))) ⟨i,_,rfl,by omega,by omega,K9⟩ ?_
 clear K9 h9 h8 hq2
 rintro j _ h8 nxt hj ⟨a,q,rfl,haL,hq,K8⟩ hnx
 refine⟨_,b8,0,b10,0,_,_,b41,0,_,_,rfl,?_⟩
 have hs:=o2.modelS (A:=_::_::_::_::A) hsm' K8
 (refine kr_ ?_)
 by_cases hlj:j<m2.nodes.length
 ·refine aJ (by rw [decide_eq_true_eq];omega) ?_
  refine ap (fun J3=> ∀(c:Nat) h5 q,c<m2.nodes.length->q<=p+i*1000+3+(j+1)->Kn g h5 ((b41, .inl ⟨[I st.idx,I st.wid],2,false⟩)::(b10, .inl ⟨cZ,5,false⟩)::(b8, .inl ⟨aw M2,5,false⟩)::(B,rdC s q)::(A++X2))->J3 (c:Int) h5) (fun c h5 q' hc hq' K5=>?_) (fun J3 hJ3=>?_)
  ·rw [aA (by omega)]
   exact hnx hlj _ _ ⟨c,q',rfl,hc,hq',K5⟩
  ·(refine kr_ ?_)
   obtain⟨nj,hnj⟩: ∃n,m2.nodes[j]?=some n:=⟨_,List.getElem?_eq_getElem hlj⟩
   obtain⟨b,oo,ha,e0,e1,e2,e3,e4,e5,e6,e7,e8⟩:=hs.nodes.at hnj
   refine⟨b,oo,ha,by omega,by omega,_,by rw [Int.toNat_natCast];exact e6,_,by rw [Int.toNat_natCast];exact e7,?_⟩
   (refine kr_ ?_)
   (refine kr_ ?_)
   refine ac (fun e=>?_) (fun e=>?_)
   ·(refine kr_ ?_)
    refine⟨b,oo,ha,by omega,by omega,_,by rw [Int.toNat_natCast];exact e0,?_⟩
    refine ac (fun e=>?_) (fun e=>?_)
    ·refine ac (fun e=>?_) (fun e=>?_)
     ·exact hJ3 _ h8 q hlj (by omega) K8
     refine kp_ ?_
     intro x h5 K5 hx _
     refine⟨_,rfl,?_⟩
     exact ac (fun e=>hJ3 _ h5 (q+1) hlj (by omega) K5) (fun e=>hJ3 _ h5 (q+1) haL (by omega) K5)
    ·exact hJ3 _ h8 q haL (by omega) K8
   ·exact hJ3 _ h8 q haL (by omega) K8
 refine aD (by rw [decide_eq_false_iff_not];omega) ?_
 clear hnx hs
 refine ap (fun J3=> ∀(c:Bool) h5 q,q<=p+i*1000+4+m2.nodes.length->Kn g h5 ((b41, .inl ⟨[I st.idx,I st.wid],2,false⟩)::(b10, .inl ⟨cZ,5,false⟩)::(b8, .inl ⟨aw M2,5,false⟩)::(B,rdC s q)::(A++X2))->J3 c h5) (fun c h5 q' hq' K5=>?_) (fun J3 hJ3=>?_)
 rotate_left
 ·refine ac (fun e=>?_) (fun e=>hJ3 _ h8 q (by omega) K8)
  repeat' (refine kr_ ?_)
  refine ac (fun e=>?_) (fun e=>hJ3 _ h8 q (by omega) K8)
  refine kp_ ?_
  intro x h5 K5 hx _
  exact⟨_,rfl,hJ3 _ h5 (q+1) (by omega) K5⟩
 clear K8 hq q h8
 refine ap (fun J3=> ∀(x:Int) h5 q X3 M3 m3,MG X3 M3 m3->DM m3 (N+5*i+4)->m.nodes.length<=m3.nodes.length->q<=p+i*1000+4+m2.nodes.length->Kn g h5 ((b41, .inl ⟨[I st.idx,I st.wid],2,false⟩)::(b10, .inl ⟨cZ,5,false⟩)::(b8, .inl ⟨aw M3,5,false⟩)::(B,rdC s q)::(A++X3))->J3 x h5)
  (fun x h6 q X3 M3 m3 o3 d3 hl3 hq3 K6=>?_) (fun J3 hJ3=>?_)
 ·have hde:=d3.nexts
  (refine kr_ ?_)
  refine Kn.al K6 fun b202 h9 K9 l9 hb9=>?_
  refine Pr (H:=_::_::_::_::A) (nd:=⟨i,x⟩) o3 K9 (by omega) (.tail _ (.tail _ (.head _))) fun s3 X4 h10 o4 KF=>?_
  have K10:=KF _ (by((focus ((repeat first|exact .head|apply Upd.tail);done))))
  simp only [List.cons_append]at K10
  exact hJ h10 q X4 _ _ o4 ((d3.addE _).more (by omega)) (by simp;omega) (by omega) K10.tl
 refine ac (fun e=>?_) (fun e=>hJ3 _ h5 q' X2 M2 m2 o2 (d2.more (by omega)) hl2 (by omega) K5)
 repeat' (refine kr_ ?_)
 refine Kn.al K5 fun b173 h6 K6 l6 hb6=>?_
 refine kR (H:=_::_::_::_::A) (nd:=⟨34,0,0,0,1,0,st,⟨#[]⟩⟩) o2 K6 (by omega) (.tail _ (.tail _ (.head _))) fun s3 X3 h7 o3 KF=>?_
 have K7:=KF _ (by((focus ((repeat first|exact .head|apply Upd.tail);done))))
 simp only [List.cons_append]at K7
 clear KF K6 K5
 repeat' (refine kr_ ?_)
 refine Kn.al K7 fun b187 h8 K8 l8 hb8=>?_
 refine kR (H:=_::_::_::_::A) (nd:=⟨9,i,W ((s3.n:Int)-1),0,0,0,st,⟨#[]⟩⟩) o3 K8 (by simp;omega) (.tail _ (.tail _ (.head _))) fun s4 X4 h9 o4 KF=>?_
 have K9:=KF _ (by((focus ((repeat first|exact .head|apply Upd.tail);done))))
 simp only [List.cons_append]at K9
 clear KF K8 K7
 repeat' (refine kr_ ?_)
 have dA:=d2.addN (n:=⟨34,0,0,0,1,0,st,⟨#[]⟩⟩) hst (show (0:Nat)<=100 by omega)
 have dB:=dA.addN (n:=⟨9,i,W ((s3.n:Int)-1),0,0,0,st,⟨#[]⟩⟩) hst (show (0:Nat)<=100 by omega)
 exact hJ3 _ h9 q' X4 _ _ o4 (dB.more (by omega)) (by simp;omega) (by omega) K9
inductive Pk {α:Type}:List α->α->List α->Prop
 |head {L:List α} {a:α}:Pk (a::L) a L
 |tail {L L':List α} {a e:α}:Pk L a L'->Pk (e::L) a (e::L')
theorem Pk.perm {α:Type} {L L':List α} {a:α} (u:Pk L a L'):L.Perm (a::L'):=by
 induction u with
 |head=>exact List.Perm.refl _
 |tail _ ih=>exact(List.Perm.cons _ ih).trans (List.Perm.swap ..)
abbrev Z8 (w:Int):List NodeP:= [⟨36,0,0,0,0,0,⟨0,w⟩,⟨#[120]⟩⟩,⟨34,0,0,0,0,0,⟨0,w⟩,⟨#[]⟩⟩,⟨34,0,0,0,1,0,⟨0,w⟩,⟨#[]⟩⟩,⟨34,0,0,0,3,0,⟨0,w⟩,⟨#[]⟩⟩,⟨35,0,0,0,0,0,⟨0,1⟩,⟨#[103,111]⟩⟩,
 ⟨9,0,2,0,0,0,⟨0,w⟩,⟨#[]⟩⟩,⟨33,4,5,0,0,0,⟨0,w⟩,⟨#[]⟩⟩,⟨21,0,3,0,0,0,⟨0,1⟩,⟨#[]⟩⟩]
abbrev aap (w:Int):ai:=⟨Z8 w, [⟨0,1⟩], [⟨0,6⟩], [7], []⟩
abbrev ZM (w:Int):List Value:=(Z8 w).flatMap nodeCells
set_option maxHeartbeats 4000000 in
theorem tH {g h:Hp} {A:List (Nat×Blk)} {B p:Nat} {s:Sl} {bs:List Nat} {R:Value->Hp->Prop} (K:Kn g h ((B,rdC s p)::A)) (hb:ByteS g s bs) (hp:p<=900000)
  (k: ∀h' p' X' M' m',Kn g h' ((B,rdC s p')::(A++X'))->MG X' M' m'->DM m' 8->ax m'=0->0<m'.nodes.length->p'<=p+1->R (aO M') h'):
  fR #[.pointer (some ⟨B,0,none⟩)] h R:=by
 apply wO
 refine uf_ ?_
 refine Kn.al K fun b3 h1 K1 l1 hb3=>?_
 clear K l1 hb3
 refine kp_ ?_
 intro x h2 K2 hx _
 refine⟨_,rfl,?_⟩
 have hx':x<2:=by have:=hx (by omega);omega
 clear K1
 refine ca ⟨_,_,rfl,?_⟩
 refine Kn.al K2 fun b14 h3 K3 l3 hb14=>?_
 refine kw_ ?_
 intro h4 K4 kpz
 clear kpz
 obtain⟨w,hw,hw2⟩: ∃w:Int,W (2+(x:Int))=w/\(w=2\/w=3):=⟨_,rfl,by rw [bV (by omega) (by omega)];omega⟩
 rw [hw]at K4
 have K4':Kn g h4 ((b14, .inl ⟨[I 0,I w],2,false⟩)::(b3, .inl ⟨cZ,5,false⟩)::(B,rdC s (p+1))::A):=K4
 clear K4 K3 K2
 refine ap (fun J=> ∀h5 (bN bI bE bB:Nat),Kn g h5 ((bN, .inl ⟨ZM w,72,false⟩)::(bI, .inl ⟨[I 0,I 1],2,false⟩)::(bE, .inl ⟨[I 0,I 6],2,false⟩)::(bB, .inl ⟨[I 7],1,false⟩)::(b14, .inl ⟨[I 0,I w],2,false⟩)::
   (b3, .inl ⟨aw ⟨⟨some ⟨bN,0,none⟩,8,8⟩,⟨some ⟨bI,0,none⟩,1,1⟩,⟨some ⟨bE,0,none⟩,1,1⟩,⟨some ⟨bB,0,none⟩,1,1⟩,⟨none,0,0⟩⟩,5,false⟩)::(B,rdC s (p+1))::A)->J h5) (fun h5 bN bI bE bB K5=>?_) (fun J hJ=>?_)
 ·clear K4'
  repeat' (refine kr_ ?_)
  have K6:=(K5.perm (List.perm_append_comm (l₁:= [_,_,_,_]) (l₂:=_::_::_::A))).tl.tl
  refine k h5 (p+1) _ ⟨⟨some ⟨bN,0,none⟩,8,8⟩,⟨some ⟨bI,0,none⟩,1,1⟩,⟨some ⟨bE,0,none⟩,1,1⟩,⟨some ⟨bB,0,none⟩,1,1⟩,⟨none,0,0⟩⟩ (aap w) K6 ?_ ?_ ?_ ?_ (Nat.le_refl _)
  ·exact⟨[_], [_], [_], [_], [],rfl,⟨rfl,Nat.le_refl _, .inr ⟨bN,rfl,rfl⟩⟩,⟨rfl,Nat.le_refl _, .inr ⟨bI,rfl,rfl⟩⟩,⟨rfl,Nat.le_refl _, .inr ⟨bE,rfl,rfl⟩⟩,⟨rfl,Nat.le_refl _, .inr ⟨bB,rfl,rfl⟩⟩,cD 1⟩
  ·refine⟨Nat.le_refl _,?_,?_,show (1:Nat)<=8 by omega,show (1:Nat)<=8 by omega,show (1:Nat)<=8 by omega,show (0:Nat)<=8 by omega⟩
   ·rcases hw2 with rfl|rfl<;>decide
   ·rcases hw2 with rfl|rfl<;>decide
  ·rcases hw2 with rfl|rfl<;>decide
  ·exact Nat.succ_pos _
 have leaf: ∀h5 L L1 L2 L3 (bN bI bE bB:Nat),Kn g h5 L->Pk L (bN, .inl ⟨ZM w,72,false⟩) L1->Pk L1 (bI, .inl ⟨[I 0,I 1],2,false⟩) L2->Pk L2 (bE, .inl ⟨[I 0,I 6],2,false⟩) L3->
   Pk L3 (bB, .inl ⟨[I 7],1,false⟩) ((b14, .inl ⟨[I 0,I w],2,false⟩)::(b3, .inl ⟨cZ,5,false⟩)::(B,rdC s (p+1))::A)->
   ∃(cs:List Value) (z:Nat),h5 b3=some (.inl ⟨cs,z,false⟩)/\0+5<=List.length cs/\cu (h5.row b3 (cv cs 0 [.slice (some ⟨bN,0,none⟩) 8 8, .slice (some ⟨bI,0,none⟩) 1 1, .slice (some ⟨bE,0,none⟩) 1 1, .slice (some ⟨bB,0,none⟩) 1 1, .slice none 0 0]) z) fun h'=>J h':=by
  intro h5 L L1 L2 L3 bN bI bE bB K p1 p2 p3 p4
  have K':=K.perm (p1.perm.trans (List.Perm.cons _ (p2.perm.trans (List.Perm.cons _ (p3.perm.trans (List.Perm.cons _ p4.perm))))))
  refine jA (M':=⟨⟨some ⟨bN,0,none⟩,8,8⟩,⟨some ⟨bI,0,none⟩,1,1⟩,⟨some ⟨bE,0,none⟩,1,1⟩,⟨some ⟨bB,0,none⟩,1,1⟩,⟨none,0,0⟩⟩) K' (by((focus ((repeat first|exact .head|apply Upd.tail);done)))) rfl fun h6 K6=>?_
  exact hJ h6 bN bI bE bB K6
 clear k hJ hw2 hw hx' hx
 repeat' (refine kr_ ?_)
 repeat' first
  |(refine kr_ ?_)
  |refine ca ⟨_,_,rfl,?_⟩
  |((with_reducible apply Kn.al);(assumption);(intro b hN KN lN hbN))
  |(refine leaf _ _ _ _ _ _ _ _ _ (by assumption) (by((focus ((repeat first|exact .head|apply Pk.tail);done)))) (by((focus ((repeat first|exact .head|apply Pk.tail);done)))) (by((focus ((repeat first|exact .head|apply Pk.tail);done)))) (by((focus ((repeat first|exact .head|apply Pk.tail);done)))))
  |refine⟨?_,?_⟩
theorem Kn.subl {g h:Hp} {L L':List (Nat×Blk)} (K:Kn g h L) (s:L'.Sublist L):Kn g h L':=K.sub (fun e he=>s.subset he) (List.Nodup.sublist (s.map _) K.nd)
theorem EV {g h:Hp} {L:List (Nat×Blk)} {s:Sl} {bs:List Nat} {R:Value->Hp->Prop} (K:Kn g h L) (hcap:s.n<=s.c) (hs:ByteS g s bs)
  (k: ∀B h' s' bs',ByteS g s' bs'->Kn g h' ((B,rdC s' 0)::L)->R (.pointer (some ⟨B,0,none⟩)) h'):gV #[s.v] h R:=by
 apply xE
 refine uf_ ?_
 have hl:=hs.len
 refine ac (fun e=>?_) (fun e=>?_)
 ·have e':2000<s.n:=by simp at e;omega
  obtain⟨b,o,ha,hc⟩:=SlC.get hs.1 (by omega)
  refine⟨by simp,by simp,by omega, .inr ⟨b,o,ha,?_⟩⟩
  refine Kn.al K fun B h1 K1 l1 hB=>?_
  have e0:(if s.c=(Int.ofNat 0).toNat then o else o+(Int.ofNat 0).toNat*1)=o:=by split<;>simp
  rw [e0]at K1
  refine k B h1 ⟨some ⟨b,o,none⟩,2000,s.c⟩ (bs.take 2000) ?_ K1
  refine⟨⟨by simp,by simp;omega, .inr ⟨b,o,rfl,?_⟩⟩,fun x hx=>hs.2 x (List.mem_of_mem_take hx)⟩
  intro i v hv
  refine hc i v ?_
  rw [List.map_take,List.getElem?_take]at hv
  split at hv
  ·exact hv
  ·cases hv
 ·refine Kn.al K fun B h1 K1 l1 hB=>?_
  exact k B h1 s bs hs K1
theorem wu {α:Type} (a b c:α) (L:List α):(a::b::c::L).Perm (c::a::b::L):=(List.Perm.cons a (List.Perm.swap c b L)).trans (List.Perm.swap c a _)
set_option maxHeartbeats 2000000 in
theorem Fs {g h:Hp} {A:List (Nat×Blk)} {B p:Nat} {s:Sl} {bs:List Nat} {R:Value->Hp->Prop} (K:Kn g h ((B,rdC s p)::A)) (hb:ByteS g s bs) (hp:p<=10000)
  (k: ∀h' p' X' M' m',Kn g h' ((B,rdC s p')::(A++X'))->MG X' M' m'->DM m' 400->ax m'=0->0<m'.nodes.length->p'<=p+100000->R (aO M') h'):
  ka #[.pointer (some ⟨B,0,none⟩)] h R:=by
 apply AJ
 refine uf_ ?_
 refine Kn.al K fun b3 h1 K1 l1 hb3=>?_
 clear K l1 hb3
 refine kp_ ?_
 intro x h2 K2 _ _
 refine⟨_,rfl,?_⟩
 clear K1
 refine JK (A:=(b3, .inl ⟨cZ,5,false⟩)::A) K2.sw hb (by omega) fun h3 p3 X3 M3 m3 K3 o3 d3 n3 hp3=>⟨_,_,_,_,_,rfl,?_⟩
 replace K3:Kn g h3 ((b3, .inl ⟨cZ,5,false⟩)::(B,rdC s p3)::(A++X3)):=K3.sw
 clear K2
 refine Kn.al K3 fun b16 h4 K4 l4 hb16=>?_
 clear K3 l4 hb16
 refine jA (M':=M3) K4 (by((focus ((repeat first|exact .head|apply Upd.tail);done)))) rfl fun h5 K5=>?_
 clear K4
 refine kp_ ?_
 intro n h6 K6 hn _
 refine⟨_,rfl,?_⟩
 replace hn:n<14:=by have:=hn (by omega);omega
 clear K5
 refine av n (fun i vs h'=> ∃q X' M' m',vs= [.pointer (some ⟨B,0,none⟩), .pointer (some ⟨b3,0,none⟩), .pointer (some ⟨b16,0,none⟩),I n,I i]/\MG X' M' m'/\DM m' (12+3*i)/\0<m'.nodes.length/\q<=p+100+i*20/\
  Kn g h' ((b16, .inl ⟨aw M',5,false⟩)::(b3, .inl ⟨cZ,5,false⟩)::(B,rdC s q)::(A++X'))) ⟨p3+1,X3,M3,m3,rfl,o3,d3,n3,by omega,K6⟩ ?_
 clear K6 hp3 n3 d3 o3 m3 M3 X3 p3 h6 h5 h4 h3 h2 h1 h
 rintro i _ h4 nxt hi ⟨q,X',M',m',rfl,o',d',hle,hq,K4⟩ hnx
 refine⟨_,b3,0,b16,0,_,_,rfl,?_⟩
 by_cases hlt:i<n
 ·refine aJ (by rw [decide_eq_true_eq];omega) ?_
  repeat' (refine kr_ ?_)
  refine Ot (A:=(b16, .inl ⟨aw M',5,false⟩)::(b3, .inl ⟨cZ,5,false⟩)::A) (K4.perm (wu _ _ _ _)) hb o' d' (by omega) hle (by omega) fun h5 q5 X5 M5 m5 K5 o5 d5 n5 hq5=>⟨_,_,_,_,_,rfl,?_⟩
  replace K5:=K5.perm (wu _ _ _ _).symm
  refine jA (M':=M5) K5 (by((focus ((repeat first|exact .head|apply Upd.tail);done)))) rfl fun h6 K6=>?_
  rw [aA (by omega)]
  exact hnx hlt _ _ ⟨q5,X5,M5,m5,rfl,o5,d5.more (by omega),n5,by omega,K6⟩
 refine aD (by rw [decide_eq_false_iff_not];omega) ?_
 clear hnx
 repeat' (refine kr_ ?_)
 refine Nv (N:=51) (A:=(b16, .inl ⟨aw M',5,false⟩)::(b3, .inl ⟨cZ,5,false⟩)::A) (K4.perm (wu _ _ _ _)) hb o' (d'.more (by omega)) (by omega) hle (by omega) fun h5 q5 X5 M5 m5 K5 o5 d5 n5 hq5=>⟨_,_,_,_,_,rfl,?_⟩
 replace K5:=K5.perm (wu _ _ _ _).symm
 clear K4
 refine jA (M':=M5) K5 (by((focus ((repeat first|exact .head|apply Upd.tail);done)))) rfl fun h6 K6=>?_
 clear K5
 refine kp_ ?_
 intro x76 h7 K7 hx76 _
 refine⟨_,rfl,?_⟩
 clear K6
 refine kp_ ?_
 intro x80 h8 K8 _ _
 refine⟨_,rfl,?_⟩
 clear K7
 refine ap (fun J=> ∀c:Nat,c<=2->J (c:Int)) (fun c hc=>?_) (fun J hJ=>?_)
 rotate_left
 ·refine ac (fun _=>hJ 0 (by omega)) (fun _=>?_)
  have:=hx76 (by omega)
  rw [show (1:Int)+(x76:Nat)=((1+x76:Nat):Int) by omega,et (by omega)]
  exact hJ _ (by omega)
 refine av c (fun i vs h'=> ∃q X' M' m',vs= [.pointer (some ⟨B,0,none⟩), .pointer (some ⟨b3,0,none⟩), .pointer (some ⟨b16,0,none⟩),I c,I i]/\MG X' M' m'/\DM m' (306+4*i)/\0<m'.nodes.length/\q<=p+51500+i*2000/\
  Kn g h' ((b16, .inl ⟨aw M',5,false⟩)::(b3, .inl ⟨cZ,5,false⟩)::(B,rdC s q)::(A++X'))) ⟨_,X5,M5,m5,rfl,o5,d5,n5,by omega,K8⟩ ?_
 clear K8 hq5 n5 d5 o5 m5 M5 X5 q5 h8 h7 h6 h5 hq d' o' hle hx76 hlt hi
 clear M' m' X' q h4 nxt i
 rintro i _ h4 nxt hi ⟨q,X',M',m',rfl,o',d',hle,hq,K4⟩ hnx
 refine⟨_,b3,0,b16,0,_,_,rfl,?_⟩
 by_cases hlt:i<c
 ·refine aJ (by rw [decide_eq_true_eq];omega) ?_
  repeat' (refine kr_ ?_)
  refine IO (A:=(b16, .inl ⟨aw M',5,false⟩)::(b3, .inl ⟨cZ,5,false⟩)::A) (K4.perm (wu _ _ _ _)) hb o' d' (by omega) hle (by omega) fun h5 q5 X5 M5 m5 i5 K5 o5 d5 hi5 hl5 hq5=>⟨_,_,_,_,_,_,rfl,?_⟩
  replace K5:=K5.perm (wu _ _ _ _).symm
  clear K4
  refine jA (M':=M5) K5 (by((focus ((repeat first|exact .head|apply Upd.tail);done)))) rfl fun h6 K6=>?_
  clear K5
  have hdb:=d5.bads
  (refine kr_ ?_)
  refine Kn.al K6 fun b119 h7 K7 l7 hb7=>?_
  refine TS (H:=_::_::_::A) (nd:=(i5:Nat)) o5 K7 (by omega) (.head _) fun s8 X8 h8 o8 KF=>?_
  have K8:=KF _ (by((focus ((repeat first|exact .head|apply Upd.tail);done))))
  simp only [List.cons_append]at K8
  rw [aA (by omega)]
  exact hnx hlt _ _ ⟨q5,X8,_,_,rfl,o8,(d5.addB _).more (by omega),by dsimp only;omega,by omega,K8⟩
 refine aD (by rw [decide_eq_false_iff_not];omega) ?_
 clear hnx
 refine kp_ ?_
 intro x132 h5 K5 _ _
 refine⟨_,rfl,?_⟩
 clear K4
 refine ap (fun J=> ∀h5 q X' M' m',MG X' M' m'->DM m' 400->0<m'.nodes.length->q<=p+60000->Kn g h5 ((b16, .inl ⟨aw M',5,false⟩)::(b3, .inl ⟨cZ,5,false⟩)::(B,rdC s q)::(A++X'))->J h5)
  (fun h5 q X' M' m' o' d' hle hq K5=>?_) (fun J hJ=>?_)
 ·have hs:=o'.modelS (A:=_::_::_::A) (d'.small (by omega)) K5
  repeat' (refine kr_ ?_)
  refine aX hs (d'.small (by omega)) ⟨_,rfl,?_⟩
  refine ac (fun e=>?_) (fun e=>?_)
  ·refine tH (A:=(b3, .inl ⟨cZ,5,false⟩)::(A++X')) K5.tl.sw hb (by omega) fun h6 q6 X6 M6 m6 K6 o6 d6 c6 n6 hq6=>⟨_,_,_,_,_,rfl,?_⟩
   replace K6:Kn g h6 ((b3, .inl ⟨cZ,5,false⟩)::(B,rdC s q6)::((A++X')++X6)):=K6.sw
   refine Cn (M:=M6) K6 (by((focus ((repeat first|exact .head|apply Upd.tail);done)))) fun h7 K7=>?_
   refine k h7 q6 X6 M6 m6 (K7.tl.subl ?_) o6 (d6.more (by omega)) c6 n6 (by omega)
   exact List.Sublist.cons_cons _ (List.Sublist.append_right (List.sublist_append_left _ _) _)
  ·repeat' (refine kr_ ?_)
   refine Cn (M:=M') K5 (by((focus ((repeat first|exact .head|apply Upd.tail);done)))) fun h7 K7=>?_
   exact k h7 q X' M' m' K7.tl.tl o' d' (by simpa using e) hle (by omega)
 refine ac (fun e=>?_) (fun e=>hJ _ _ _ _ _ o' (d'.more (by omega)) hle (by omega) K5)
 repeat' (refine kr_ ?_)
 refine IO (A:=(b16, .inl ⟨aw M',5,false⟩)::(b3, .inl ⟨cZ,5,false⟩)::A) (K5.perm (wu _ _ _ _)) hb o' d' (by omega) hle (by omega) fun h6 q6 X6 M6 m6 i6 K6 o6 d6 hi6 hl6 hq6=>⟨_,_,_,_,_,_,rfl,?_⟩
 replace K6:=K6.perm (wu _ _ _ _).symm
 clear K5
 refine jA (M':=M6) K6 (by((focus ((repeat first|exact .head|apply Upd.tail);done)))) rfl fun h7 K7=>?_
 clear K6
 refine kp_ ?_
 intro x155 h8 K8 _ _
 refine⟨_,rfl,?_⟩
 clear K7
 refine ap (fun J2=> ∀(y:Int) h5 q X' M' m',MG X' M' m'->DM m' 330->0<m'.nodes.length->q<=p+60000->Kn g h5 ((b16, .inl ⟨aw M',5,false⟩)::(b3, .inl ⟨cZ,5,false⟩)::(B,rdC s q)::(A++X'))->J2 y h5)
  (fun y h9 q9 X9 M9 m9 o9 d9 hle9 hq9 K9=>?_) (fun J2 hJ2=>?_)
 ·have hdh:=d9.holds
  (refine kr_ ?_)
  refine Kn.al K9 fun b119 h10 K10 l10 hb10=>?_
  refine Pc (H:=_::_::_::A) (nd:=y) o9 K10 (by omega) (.head _) fun s8 X8 h8 o8 KF=>?_
  have K11:=KF _ (by((focus ((repeat first|exact .head|apply Upd.tail);done))))
  simp only [List.cons_append]at K11
  exact hJ _ _ _ _ _ o8 ((d9.addH _).more (by omega)) (by dsimp only;omega) (by omega) K11
 refine ac (fun e=>?_) (fun e=>hJ2 _ _ _ _ _ _ o6 (d6.more (by omega)) (by omega) (by omega) K8)
 have hdn:=d6.nodes
 (refine kr_ ?_)
 refine ca ⟨_,_,rfl,?_⟩
 repeat' (refine kr_ ?_)
 refine Kn.al K8 fun b163 h9 K9 l9 hb9=>?_
 (refine kr_ ?_)
 refine kR (H:=_::_::_::A) (nd:=⟨1,(i6:Nat),0,0,0,0,cx 1,⟨#[]⟩⟩) o6 K9 (by omega) (.head _) fun s10 X10 h10 o10 KF=>?_
 have K10:=KF _ (by((focus ((repeat first|exact .head|apply Upd.tail);done))))
 simp only [List.cons_append]at K10
 clear K9 K8
 repeat' (refine kr_ ?_)
 have dA:=d6.addN (n:=⟨1,(i6:Nat),0,0,0,0,cx 1,⟨#[]⟩⟩) (m4 (by omega) (by omega)) (show (0:Nat)<=100 by omega)
 exact hJ2 _ _ _ _ _ _ o10 (dA.more (by omega)) (by simp) (by omega) K10
theorem wz {h:Hp} {s t:Sl} {xs:List Int} {R:Value->Hp->Prop} (hs:IntS h s xs) (ht:IntS h t xs) (k:R (.bool true) h):jZ #[s.v,t.v] h R:=by
 refine yW ?_
 refine uf_ ?_
 have ls:=hs.len
 have lt:=ht.len
 have hb:=hs.bound
 refine aD (by simp [ls,lt]) ?_
 refine av xs.length (fun i vs h'=>vs= [s.v,t.v,I i]/\h'=h) ⟨rfl,rfl⟩ ?_
 rintro i _ _ next hi ⟨rfl,rfl⟩ hn
 refine⟨_,_,_,rfl,?_⟩
 by_cases hlt:i<xs.length
 ·obtain⟨b,o,ha,hc⟩:=hs.at hlt
  obtain⟨b',o',ha',hc'⟩:=ht.at hlt
  refine aJ (by simp [ls,hlt]) ?_
  simp only [vm,ls,lt,ha,ha',hc,hc',aA (n:=i) (by omega)]
  exact⟨by omega,by omega,aD (by simp) (hn hlt _ _ ⟨rfl,rfl⟩)⟩
 ·exact aD (by simp [ls];omega) k
theorem qT {h:Hp} {sS sI tS tI:Sl} {xs ys:List Int} {R:Value->Hp->Prop} (h1:IntS h sS xs/\IntS h sI ys) (h2:IntS h tS xs/\IntS h tI ys) (k:R (.bool true) h):jk #[.agg #[sS.v,sI.v], .agg #[tS.v,tI.v]] h R:=by
 refine ACalls.drop (FV ?_)
 refine uf_ ?_
 have K0:=Kn.nil h
 (with_reducible apply Kn.al);(assumption);(intro b6 h3 K1 l1 hb6)
 (with_reducible apply Kn.al);(assumption);(intro b8 h4 K2 l2 hb8)
 clear K1 K0
 repeat' (refine kr_ ?_)
 refine wz (h1.1.mono K2.le) (h2.1.mono K2.le) ⟨_,rfl,aJ rfl ?_⟩
 repeat' (refine kr_ ?_)
 refine wz (h1.2.mono K2.le) (h2.2.mono K2.le) ⟨_,rfl,⟨h,K2.le,k⟩⟩
theorem rk {h:Hp} {s t:Sl} {ns:List Nd} {v r:Int} {R:Value->Hp->Prop} (hs:SlC h s 3 (bK ns)) (ht:SlC h t 3 (bK ns)) (k:R (.bool true) h):jz #[.agg #[I v,s.v,I r], .agg #[I v,t.v,I r]] h R:=by
 refine ACalls.drop (KO ?_)
 refine uf_ ?_
 have K0:=Kn.nil h
 (with_reducible apply Kn.al);(assumption);(intro b8 h1 K1 l1 hb8)
 (with_reducible apply Kn.al);(assumption);(intro b10 h2 K2 l2 hb10)
 clear K1 K0
 have ls:=Kp hs
 have lt:=Kp ht
 have hb:=hs.1
 refine ap (fun J=>J false) (aD rfl ?_) (fun J hJ=>?_)
 rotate_left
 ·repeat' (refine kr_ ?_)
  refine aD (by simp) ?_
  repeat' (refine kr_ ?_)
  refine aD (by simp) ?_
  repeat' (refine kr_ ?_)
  rw [show ((s.n:Int) !=(t.n:Int))=false by rw [ls,lt];simp]
  exact hJ
 refine av ns.length (fun i vs h'=>vs= [.pointer (some ⟨b8,0,none⟩), .pointer (some ⟨b10,0,none⟩),I i]/\h2=h') ⟨rfl,rfl⟩ ?_
 rintro i _ _ next hi ⟨rfl,rfl⟩ hn
 refine⟨b8,0,b10,0,_,rfl,?_⟩
 (refine kr_ ?_)
 by_cases hlt:i<ns.length
 ·obtain⟨b,o,ha,c1,c2,c3⟩:=Pz (hs.mono K2.le) hlt
  obtain⟨b',o',ha',d1,d2,d3⟩:=Pz (ht.mono K2.le) hlt
  refine aJ (by simp [ls,hlt]) ?_
  (refine kr_ ?_)
  refine⟨b,o,ha,by omega,by omega,_,by rw [Int.toNat_natCast];exact c1,_,by rw [Int.toNat_natCast];exact c2,_,by rw [Int.toNat_natCast];exact c3,?_⟩
  (refine kr_ ?_)
  refine⟨b',o',ha',by omega,by omega,_,by rw [Int.toNat_natCast];exact d1,_,by rw [Int.toNat_natCast];exact d2,_,by rw [Int.toNat_natCast];exact d3,?_⟩
  refine aD (by simp) ?_
  rw [aA (by omega)]
  exact hn hlt _ _ ⟨rfl,rfl⟩
 ·exact aD (by simp [ls];omega) ⟨h,K2.le,k⟩
theorem kI {h:Hp} {sS sI sN tS tI tN:Sl} {p:Cr} {R:Value->Hp->Prop} (h1:VrS h sS sI sN p) (h2:VrS h tS tI tN p) (k:R (.bool true) h):fC #[Ke p sS sI sN,Ke p tS tI tN] h R:=by
 refine ACalls.drop (Cl ?_)
 refine uf_ ?_
 have K0:=Kn.nil h
 (with_reducible apply Kn.al);(assumption);(intro b6 h3 K1 l1 hb6)
 (with_reducible apply Kn.al);(assumption);(intro b8 h4 K2 l2 hb8)
 clear K1 K0
 repeat' (refine kr_ ?_)
 refine aJ (by simp) ?_
 repeat' (refine kr_ ?_)
 refine aJ (by simp) ?_
 repeat' (refine kr_ ?_)
 refine qT ⟨h1.1.mono K2.le,h1.2.1.mono K2.le⟩ ⟨h2.1.mono K2.le,h2.2.1.mono K2.le⟩ ⟨_,rfl,aJ rfl ?_⟩
 repeat' (refine kr_ ?_)
 exact rk (h1.2.2.mono K2.le) (h2.2.2.mono K2.le) ⟨_,rfl,⟨h,K2.le,k⟩⟩
theorem Ti : ∀(vs xs ys:List Value) (o:Nat),cv (xs++ys) (xs.length+o) vs=xs++cv ys o vs:=by
 intro vs
 induction vs with
 |nil=>intro xs ys o;rfl
 |cons v vs ih=>intro xs ys o;rw [oZ,oZ,List.set_append_right (xs.length+o) v (by omega),Nat.add_sub_cancel_left,Nat.add_assoc,ih]
theorem Ri : ∀(vs xs ys:List Value) (o:Nat),o+vs.length<=xs.length->cv (xs++ys) o vs=cv xs o vs++ys:=by
 intro vs
 induction vs with
 |nil=>intro xs ys o _;rfl
 |cons v vs ih=>
  intro xs ys o h
  rw [List.length_cons]at h
  rw [oZ,oZ,List.set_append_left o v (by omega),ih _ _ _ (by rw [List.length_set];omega)]
theorem Ro {off:Nat} {vs:List Value} {n n':NodeP} (hv:cv (nodeCells n) off vs=nodeCells n') (ho:off+vs.length<=9): ∀{l:List NodeP} {i:Nat},l[i]?=some n->cv (l.flatMap nodeCells) (i*9+off) vs=(l.set i n').flatMap nodeCells:=by
 intro l
 induction l with
 |nil=>intro i h;simp at h
 |cons a l ih=>
  intro i h
  cases i with
  |zero=>
   have:a=n:=by simpa using h
   subst this
   rw [List.set_cons_zero,List.flatMap_cons,List.flatMap_cons,Nat.zero_mul,Nat.zero_add,Ri _ _ _ _ (by show _<=9;exact ho),hv]
  |succ i=>
   have h':l[i]?=some n:=by simpa using h
   rw [List.set_cons_succ,List.flatMap_cons,List.flatMap_cons,show (i+1)*9+off=(nodeCells a).length+(i*9+off) by show _=9+_;omega,Ti,ih h']
theorem Upd.appL {L L':List (Nat×Blk)} {b:Nat} {x y:Blk} (u:Upd L b x y L'): ∀A:List (Nat×Blk),Upd (A++L) b x y (A++L')
 | []=>u
 |_::A=> .tail (u.appL A)
theorem sO {g h:Hp} {A X:List (Nat×Blk)} {M:MSl} {m:ai} {i off k:Nat} {n n':NodeP} {vs:List Value} {F:Nat->Nat} {J:Hp->Prop} (o:MG X M m) (K:Kn g h (A++X)) (hni:m.nodes[i]?=some n)
  (hv:cv (nodeCells n) off vs=nodeCells n') (hk:vs.length=k) (ho:off+k<=9) (hF:F 0=i*9+off)
  (J': ∀X' h',MG X' M {m with nodes:=m.nodes.set i n'}->Kn g h' (A++X')->J h'):
  ∃(b p:Nat),M.no.a=some ⟨b,p,none⟩/\(0:Int)<=(i:Nat)/\((i:Nat):Int)<((M.no.n:Nat):Int)/\ ∃(cs:List Value) (z:Nat),h b=some (.inl ⟨cs,z,false⟩)/\F p+k<=List.length cs/\cu (h.row b (cv cs (F p) vs) z) fun h'=>J h':=by
 have hi:=get_lt hni
 have hl:=o.lens
 obtain⟨XN,XI,XE,XB,XH,rfl,a,b',c,d,e⟩:=o
 rcases a.2.2 with ⟨_,h0,_⟩|⟨b,ha,rfl⟩
 ·rw [h0]at hl;have:=hl.1;dsimp only at this;omega
 subst hk
 have hc:cv (m.nodes.flatMap nodeCells) (F 0) vs=(m.nodes.set i n').flatMap nodeCells:=by rw [hF];exact Ro hv ho hni
 refine⟨b,0,ha,by omega,by omega,?_⟩
 refine Kn.wr (cs:=m.nodes.flatMap nodeCells) (z:=M.no.c*9) (o:=F 0) (vs:=vs) K (L':=A++([(b, .inl ⟨(m.nodes.set i n').flatMap nodeCells,M.no.c*9,false⟩)]++(XI++(XE++(XB++(XH++ [])))))) (by rw [hc];exact Upd.appL .head A) (by rw [hF,a.1];omega) fun h' K' _=>?_
 exact J' _ h' ⟨_,XI,XE,XB,XH,rfl,⟨by rw [iq (m:=9) (fun _=>rfl),List.length_set];omega,a.2.1, .inr ⟨b,ha,rfl⟩⟩,b',c,d,e⟩ K'
structure DZ (m:ai) (N:Nat):Prop where
 nodes:m.nodes.length<=N
 names: ∀n∈m.nodes,n.name.size<=100
 inits:m.inits.length<=N
 nexts:m.nexts.length<=N
 bads:m.bads.length<=N
 holds:m.holds.length<=N
theorem DM.z {m:ai} {N:Nat} (d:DM m N):DZ m N:=⟨d.nodes,d.names,d.inits,d.nexts,d.bads,d.holds⟩
theorem DZ.small {m:ai} {N:Nat} (d:DZ m N) (hN:N<=100000):bW m:=
 ⟨by have:=d.nodes;omega,by have:=d.inits;omega,by have:=d.nexts;omega,by have:=d.bads;omega,by have:=d.holds;omega,fun n hn=>by have:=d.names n hn;omega⟩
theorem DZ.more {m:ai} {N N':Nat} (d:DZ m N) (h:N<=N'):DZ m N':=
 ⟨Nat.le_trans d.nodes h,d.names,Nat.le_trans d.inits h,Nat.le_trans d.nexts h,Nat.le_trans d.bads h,Nat.le_trans d.holds h⟩
theorem DZ.addN {m:ai} {N:Nat} (d:DZ m N) {n:NodeP} (h2:n.name.size<=100):DZ {m with nodes:=m.nodes++ [n]} (N+1):=
 ⟨by have:=d.nodes;simp;omega,fun x hx=>by rcases List.mem_append.1 hx with hx|hx;exact d.names x hx;rw [List.mem_singleton.1 hx];exact h2,
  Nat.le_succ_of_le d.inits,Nat.le_succ_of_le d.nexts,Nat.le_succ_of_le d.bads,Nat.le_succ_of_le d.holds⟩
theorem DZ.set {m:ai} {N i:Nat} (d:DZ m N) {n:NodeP} (h2:n.name.size<=100):DZ {m with nodes:=m.nodes.set i n} N:=
 ⟨by have:=d.nodes;simp;omega,fun x hx=>by rcases List.mem_or_eq_of_mem_set hx with hx|rfl;exact d.names x hx;exact h2,d.inits,d.nexts,d.bads,d.holds⟩
theorem DZ.addI {m:ai} {N:Nat} (d:DZ m N) (x:BindP):DZ {m with inits:=m.inits++ [x]} (N+1):=
 ⟨Nat.le_succ_of_le d.nodes,d.names,by have:=d.inits;simp;omega,Nat.le_succ_of_le d.nexts,Nat.le_succ_of_le d.bads,Nat.le_succ_of_le d.holds⟩
theorem DZ.addE {m:ai} {N:Nat} (d:DZ m N) (x:BindP):DZ {m with nexts:=m.nexts++ [x]} (N+1):=
 ⟨Nat.le_succ_of_le d.nodes,d.names,Nat.le_succ_of_le d.inits,by have:=d.nexts;simp;omega,Nat.le_succ_of_le d.bads,Nat.le_succ_of_le d.holds⟩
theorem DZ.addB {m:ai} {N:Nat} (d:DZ m N) (xs:List Int) (hx:xs.length<=N):DZ {m with bads:=m.bads++xs} (2*N):=
 ⟨by have:=d.nodes;dsimp only;omega,d.names,by have:=d.inits;dsimp only;omega,by have:=d.nexts;dsimp only;omega,by have:=d.bads;simp;omega,by have:=d.holds;dsimp only;omega⟩
theorem DZ.addH {m:ai} {N:Nat} (d:DZ m N) (x:Int):DZ {m with holds:=m.holds++ [x]} (N+1):=
 ⟨Nat.le_succ_of_le d.nodes,d.names,Nat.le_succ_of_le d.inits,Nat.le_succ_of_le d.nexts,Nat.le_succ_of_le d.bads,by have:=d.holds;simp;omega⟩
theorem MG.appBs {g h:Hp} {A X:List (Nat×Blk)} {M:MSl} {m:ai} {xs:List Int} {src:Option Addr} {C:Option Addr->Nat->Nat->Hp->Prop} (o:MG X M m) (K:Kn g h (A++X)) (hm:m.bads.length+xs.length<=100000) (hx:0<xs.length)
  (f: ∃b p,src=some ⟨b,p,none⟩/\gT h b p (xs.map I))
  (k: ∀s' X' h',MG X' {M with bad:=s'} {m with bads:=m.bads++xs}->Kn g h' (A++X')->C s'.a s'.n s'.c h'):ck h M.bad.a M.bad.n M.bad.c src xs.length 1 8 C:=by
 have hl:=o.lens
 obtain⟨XN,XI,XE,XB,XH,rfl,a,b',c,d,e⟩:=o
 have sw: ∀Z:List (Nat×Blk),A++(XN++(XI++(XE++(Z++(XH++ [])))))=(A++(XN++XI))++(XE++(Z++(XH++ []))):=fun Z=>by simp
 rw [sw]at K
 refine Kn.growIn2 (news:=xs.map I) K d hx (by omega) (by omega) f (by simp) (List.all_eq_true.2 fun v hv=>by obtain⟨y,_,rfl⟩:=List.mem_map.1 hv;rfl) fun s' X' h' hn a' K' _=>?_
 rw [<-sw]at K'
 exact k s' _ h' ⟨XN,XI,XE,X',XH,rfl,a,b',c,by rw [List.map_append];exact a',e⟩ K'
abbrev Zq :List Value:= [.string ⟨#[120]⟩, .string ⟨#[]⟩, .string ⟨#[88]⟩, .string ⟨#[116,111,111,108,111,110,103,110,97,109,101]⟩]
theorem Z3 {i:Nat} (h:i<4): ∃s:ByteArray,Zq[i]?=some (.string s)/\s.size<=100:=by
 rcases i with _|_|_|_|i
 ·exact⟨_,rfl,by decide⟩
 ·exact⟨_,rfl,by decide⟩
 ·exact⟨_,rfl,by decide⟩
 ·exact⟨_,rfl,by decide⟩
 ·omega
theorem Ww {h:Hp} {A X:List (Nat×Blk)} {g:Hp} {M:MSl} {m:ai} (o:MG X M m) (K:Kn g h (A++X)) (hm:m.bads.length<=100000) (hp:0<m.bads.length): ∃b p,M.bad.a=some ⟨b,p,none⟩/\gT h b p (m.bads.map I):=by
 have hl:=o.lens
 obtain⟨XN,XI,XE,XB,XH,rfl,a,b',c,d,e⟩:=o
 have:=(d.slcOf (h:=h) (by omega) fun x hx=>K.mem x (List.mem_append_right _ (by simp [hx])))
 exact SlC.get this (by omega)
theorem OL {g h:Hp} {H X:List (Nat×Blk)} {b:Nat} {M:MSl} {m:ai} {N:Nat} {J:Hp->Prop} (o:MG X M m) (d:DZ m N) (hN:N<=10000) (K:Kn g h (H++X)) (hb:(b, .inl ⟨aw M,5,false⟩)∈H)
  (k: ∀s' X' h' m',MG X' {M with bad:=s'} m'->DZ m' (2*N)->(∀H',Upd H b (.inl ⟨aw M,5,false⟩) (.inl ⟨aw {M with bad:=s'},5,false⟩) H'->Kn g h' (H'++X'))->J h'):
  ck h M.bad.a M.bad.n M.bad.c M.bad.a M.bad.n 1 8 fun a n c h95=> ∃(cs:List Value) (z:Nat),h95 b=some (.inl ⟨cs,z,false⟩)/\3+1<=List.length cs/\cu (h95.row b (cv cs 3 [.slice a n c]) z) fun h'=>J h':=by
 have hl:=o.lens
 have hd:=d.bads
 by_cases h0:m.bads.length=0
 ·have hc:M.bad.n<=M.bad.c:=by obtain⟨_,_,_,_,_,_,_,_,_,d',_⟩:=o;exact d'.2.1
  refine .inl ⟨by omega,hc,?_⟩
  have f:=K.at (List.mem_append_left _ hb)
  exact⟨_,_,f,by simp,k M.bad X _ m o (d.more (by omega)) fun H' u=>K.set (u.app (X:=X))⟩
 have e:M.bad.n=m.bads.length:=by omega
 have key:=MG.appBs (xs:=m.bads) (C:=fun a n c h95=> ∃(cs:List Value) (z:Nat),h95 b=some (.inl ⟨cs,z,false⟩)/\3+1<=List.length cs/\cu (h95.row b (cv cs 3 [.slice a n c]) z) fun h'=>J h') o K (by omega) (by omega) (Ww o K (by omega) (by omega)) fun s' X' h7 o' K7=>by
  have f:=K7.at (List.mem_append_left _ hb)
  exact⟨_,_,f,by simp,k s' X' _ _ o' (d.addB _ d.bads) fun H' u=>K7.set (u.app (X:=X'))⟩
 rw [<-e]at key
 exact key
set_option maxHeartbeats 4000000 in
theorem si {g h:Hp} {A:List (Nat×Blk)} {B p:Nat} {s:Sl} {bs:List Nat} {R:Value->Hp->Prop} (K:Kn g h ((B,rdC s p)::A)) (hb:ByteS g s bs) (hp:p<=10000)
  (k: ∀h' p' X' M' m',Kn g h' ((B,rdC s p')::(A++X'))->MG X' M' m'->DZ m' 4000->p'<=p+200000->R (aO M') h'):
  fG #[.pointer (some ⟨B,0,none⟩)] h R:=by
 apply zL
 refine uf_ ?_
 refine Kn.al K fun b3 h1 K1 l1 hb3=>?_
 clear K l1 hb3
 refine Fs (A:=(b3, .inl ⟨cZ,5,false⟩)::A) K1.sw hb hp fun h2 p2 X2 M2 m2 K2 o2 d2 c2 n2 hp2=>⟨_,_,_,_,_,rfl,?_⟩
 replace K2:Kn g h2 ((b3, .inl ⟨cZ,5,false⟩)::(B,rdC s p2)::(A++X2)):=K2.sw
 refine Kn.al K2 fun b13 h3 K3 l3 hb13=>?_
 clear K2 l3 hb13
 refine jA (M':=M2) K3 (by((focus ((repeat first|exact .head|apply Upd.tail);done)))) rfl fun h4 K4=>?_
 clear K3
 refine kp_ ?_
 intro x21 h5 K5 _ _
 refine⟨_,rfl,?_⟩
 clear K4
 refine ap (fun J=> ∀h5 q X M m,MG X M m->DZ m 400->0<m.nodes.length->q<=p+100002->Kn g h5 ((b13, .inl ⟨aw M,5,false⟩)::(b3, .inl ⟨cZ,5,false⟩)::(B,rdC s q)::(A++X))->J h5)
  (fun hz q X M m o d hne hq Kz=>?_) (fun J hJ=>?_)
 rotate_left
 ·refine ac (fun _=>?_) (fun _=>hJ h5 _ X2 M2 m2 o2 d2.z n2 (by omega) K5)
  refine tH (A:=(b13, .inl ⟨aw M2,5,false⟩)::(b3, .inl ⟨cZ,5,false⟩)::(A++X2)) (K5.perm (wu _ _ _ _)) hb (by omega) fun h6 q6 X6 M6 m6 K6 o6 d6 c6 n6 hq6=>⟨_,_,_,_,_,rfl,?_⟩
  have K6':Kn g h6 ((b13, .inl ⟨aw M2,5,false⟩)::(b3, .inl ⟨cZ,5,false⟩)::(B,rdC s q6)::((A++X2)++X6)):=K6.perm (wu _ _ _ _).symm
  clear K5 K6
  refine jA (M':=M6) K6' (by((focus ((repeat first|exact .head|apply Upd.tail);done)))) rfl fun h7 K7=>?_
  refine hJ h7 q6 X6 M6 m6 o6 (d6.z.more (by omega)) n6 (by omega) (K7.subl ?_)
  exact List.Sublist.cons_cons _ (List.Sublist.cons_cons _ (List.Sublist.cons_cons _ (List.Sublist.append_right (List.sublist_append_left _ _) _)))
 clear K5 K1 o2 d2 c2 n2 hp2 m2 M2 X2 p2
 have hl:=o.lens
 have hnl:=d.nodes
 refine kp_ ?_
 intro x38 h6 K6 _ _
 refine⟨_,rfl,?_⟩
 clear Kz
 refine ac (fun _=>?_) (fun _=>?_)
 ·repeat' (refine kr_ ?_)
  refine Cn (M:=M) K6 (by((focus ((repeat first|exact .head|apply Upd.tail);done)))) fun h7 K7=>?_
  exact k h7 _ X M m K7.tl.tl o (d.more (by omega)) (by omega)
 repeat' (refine kr_ ?_)
 refine kp_ ?_
 intro a h7 K7 ha _
 refine⟨_,rfl,?_⟩
 replace ha:a<m.nodes.length:=by have:=ha (by omega);omega
 clear K6
 refine kp_ ?_
 intro x62 h8 K8 _ _
 refine⟨_,rfl,?_⟩
 clear K7
 refine ap (fun J=> ∀h5 q X M m,MG X M m->DZ m 4000->q<=p+200000->Kn g h5 ((b13, .inl ⟨aw M,5,false⟩)::(b3, .inl ⟨cZ,5,false⟩)::(B,rdC s q)::(A++X))->J b3 0 b13 0 h5)
  (fun h5 q X M m o d hq K5=>?_) (fun J hJ=>?_)
 ·repeat' (refine kr_ ?_)
  refine Cn (M:=M) K5 (by((focus ((repeat first|exact .head|apply Upd.tail);done)))) fun h7 K7=>?_
  exact k h7 _ X M m K7.tl.tl o d (by omega)
 clear k
 obtain⟨n,hna⟩: ∃n,m.nodes[a]?=some n:=⟨_,List.getElem?_eq_getElem ha⟩
 have hnm:=d.names n (List.mem_of_getElem? hna)
 have dset: ∀n':NodeP,n'.name.size<=100->DZ {m with nodes:=m.nodes.set a n'} 4000:=fun n' h=>(d.set h).more (by omega)
 refine ac (fun _=>?_) (fun _=>ac (fun _=>?_) (fun _=>ac (fun _=>?_) (fun _=>ac (fun _=>?_) (fun _=>ac (fun _=>?_) (fun _=>ac (fun _=>?_) (fun _=>ac (fun _=>?_) (fun _=>ac (fun _=>?_) (fun _=>ac (fun _=>?_) (fun _=>ac (fun _=>?_) (fun _=>ac (fun _=>?_) (fun _=>ac (fun _=>?_) (fun _=>ac (fun _=>?_) (fun _=>ac (fun _=>?_) (fun _=>?_))))))))))))))
 ·(refine kr_ ?_)
  refine kp_ ?_
  intro x h9 K9 _ _
  refine⟨_,rfl,?_⟩
  (refine kr_ ?_)
  refine sO (A:=_::_::_::A) (n':={n with kind:=W ((x:Int)-1)}) (off:=0) o K9 hna rfl rfl (by omega) (by rw [Int.toNat_natCast];omega) fun X' h10 o' K10=>?_
  exact hJ h10 _ X' M _ o' (dset _ hnm) (by omega) K10
 ·(refine kr_ ?_)
  (refine kr_ ?_)
  rw [bV (by omega) (by omega)]
  refine kp_ ?_
  intro x h9 K9 _ _
  refine⟨_,rfl,?_⟩
  (refine kr_ ?_)
  refine sO (A:=_::_::_::A) (n':={n with a:=W ((x:Int)-1)}) (off:=1) o K9 hna rfl rfl (by omega) (by rw [Int.toNat_natCast];omega) fun X' h10 o' K10=>?_
  exact hJ h10 _ X' M _ o' (dset _ hnm) (by omega) K10
 ·(refine kr_ ?_)
  refine kp_ ?_
  intro x h9 K9 _ _
  refine⟨_,rfl,?_⟩
  (refine kr_ ?_)
  refine sO (A:=_::_::_::A) (n':={n with n:=W ((x:Int)-2)}) (off:=4) o K9 hna rfl rfl (by omega) (by rw [Int.toNat_natCast];omega) fun X' h10 o' K10=>?_
  exact hJ h10 _ X' M _ o' (dset _ hnm) (by omega) K10
 ·(refine kr_ ?_)
  refine kp_ ?_
  intro x h9 K9 _ _
  refine⟨_,rfl,?_⟩
  (refine kr_ ?_)
  refine sO (A:=_::_::_::A) (n':={n with sort:=⟨n.sort.idx,W ((x:Int)-1)⟩}) (off:=7) o K9 hna rfl rfl (by omega) (by rw [Int.toNat_natCast];omega) fun X' h10 o' K10=>?_
  exact hJ h10 _ X' M _ o' (dset _ hnm) (by omega) K10
 ·(refine kr_ ?_)
  refine⟨?_,?_⟩
  ·refine Kn.al K8 fun b111 h9 K9 l9 hb9=>?_
   (refine kr_ ?_)
   refine kp_ ?_
   intro x h10 K10 hx _
   refine⟨_,rfl,?_⟩
   replace hx:x<4:=by have:=hx (by omega);omega
   obtain⟨t,ht,hz⟩:=Z3 hx
   repeat' (refine kr_ ?_)
   refine⟨by omega,by omega,t,by rw [aq (K10.at (.head _)),Int.toNat_natCast,Nat.zero_add,Nat.mul_one];exact ht,?_⟩
   refine sO (A:=_::_::_::_::A) (n':={n with name:=t}) (off:=8) o K10 hna rfl rfl (by omega) (by rw [Int.toNat_natCast];omega) fun X' h11 o' K11=>?_
   exact hJ h11 _ X' M _ o' (dset _ hz) (by omega) K11.tl
  ·refine kp_ ?_
   intro x h9 K9 hx _
   refine⟨_,rfl,?_⟩
   replace hx:x<4:=by have:=hx (by omega);omega
   obtain⟨t,ht,hz⟩:=Z3 hx
   (refine kr_ ?_)
   refine Kn.al K9 fun b111 h10 K10 l10 hb10=>?_
   repeat' (refine kr_ ?_)
   refine⟨by omega,by omega,t,by rw [aq (K10.at (.head _)),Int.toNat_natCast,Nat.zero_add,Nat.mul_one];exact ht,?_⟩
   refine sO (A:=_::_::_::_::A) (n':={n with name:=t}) (off:=8) o K10 hna rfl rfl (by omega) (by rw [Int.toNat_natCast];omega) fun X' h11 o' K11=>?_
   exact hJ h11 _ X' M _ o' (dset _ hz) (by omega) K11.tl
 ·(refine kr_ ?_)
  refine ca ⟨_,_,rfl,?_⟩
  (refine kr_ ?_)
  obtain⟨n0,hn0⟩: ∃n,m.nodes[0]?=some n:=⟨_,List.getElem?_eq_getElem hne⟩
  refine sO (A:=_::_::_::A) (i:=0) (n':={n0 with sort:=cx 9}) (off:=6) o K8 hn0 rfl rfl (by omega) rfl fun X' h10 o' K10=>?_
  exact hJ h10 _ X' M _ o' ((DZ.set (i:=0) (n:={n0 with sort:=cx 9}) d (d.names n0 (List.mem_of_getElem? hn0))).more (by omega)) (by omega) K10
 ·have hdi:=d.inits
  (refine kr_ ?_)
  refine Kn.al K8 fun b9 h9 K9 l9 hb9=>?_
  refine PO (H:=_::_::_::A) (nd:=⟨0,(a:Nat)⟩) o K9 (by omega) (.head _) fun s' X' h10 o' KF=>?_
  have K10:=KF _ (by((focus ((repeat first|exact .head|apply Upd.tail);done))))
  simp only [List.cons_append]at K10
  exact hJ h10 _ X' _ _ o' ((d.addI _).more (by omega)) (by omega) K10
 ·have hde:=d.nexts
  (refine kr_ ?_)
  (refine kr_ ?_)
  refine kp_ ?_
  intro x h9 K9 _ _
  refine⟨_,rfl,?_⟩
  (refine kr_ ?_)
  refine Kn.al K9 fun b9 h10 K10 l10 hb10=>?_
  (refine kr_ ?_)
  refine Pr (H:=_::_::_::A) (nd:=⟨(x:Nat),(a:Nat)⟩) o K10 (by omega) (.head _) fun s' X' h11 o' KF=>?_
  have K11:=KF _ (by((focus ((repeat first|exact .head|apply Upd.tail);done))))
  simp only [List.cons_append]at K11
  exact hJ h11 _ X' _ _ o' ((d.addE _).more (by omega)) (by omega) K11
 ·have hdb:=d.bads
  (refine kr_ ?_)
  (refine kr_ ?_)
  rw [bV (by omega) (by omega)]
  refine kp_ ?_
  intro x h9 K9 _ _
  refine⟨_,rfl,?_⟩
  (refine kr_ ?_)
  refine Kn.al K9 fun b9 h10 K10 l10 hb10=>?_
  (refine kr_ ?_)
  refine TS (H:=_::_::_::A) (nd:=W ((x:Int)-1)) o K10 (by omega) (.head _) fun s' X' h11 o' KF=>?_
  have K11:=KF _ (by((focus ((repeat first|exact .head|apply Upd.tail);done))))
  simp only [List.cons_append]at K11
  exact hJ h11 _ X' _ _ o' ((d.addB [_] (by simp)).more (by omega)) (by omega) K11
 ·have hdh:=d.holds
  (refine kr_ ?_)
  refine Kn.al K8 fun b9 h9 K9 l9 hb9=>?_
  refine Pc (H:=_::_::_::A) (nd:=(a:Nat)) o K9 (by omega) (.head _) fun s' X' h10 o' KF=>?_
  have K10:=KF _ (by((focus ((repeat first|exact .head|apply Upd.tail);done))))
  simp only [List.cons_append]at K10
  exact hJ h10 _ X' _ _ o' ((d.addH _).more (by omega)) (by omega) K10
 ·(refine kr_ ?_)
  (refine kr_ ?_)
  refine OL (H:=_::_::_::A) o d (by omega) K8 (.head _) fun s' X' h9 m' o' d' KF=>?_
  have K9:=KF _ (by((focus ((repeat first|exact .head|apply Upd.tail);done))))
  simp only [List.cons_append]at K9
  clear KF K8
  (refine kr_ ?_)
  (refine kr_ ?_)
  refine OL (H:=_::_::_::A) o' d' (by omega) K9 (.head _) fun s2 X2 h10 m2 o2 d2 KF=>?_
  have K10:=KF _ (by((focus ((repeat first|exact .head|apply Upd.tail);done))))
  simp only [List.cons_append]at K10
  clear KF K9
  (refine kr_ ?_)
  (refine kr_ ?_)
  refine OL (H:=_::_::_::A) o2 d2 (by omega) K10 (.head _) fun s3 X3 h11 m3 o3 d3 KF=>?_
  have K11:=KF _ (by((focus ((repeat first|exact .head|apply Upd.tail);done))))
  simp only [List.cons_append]at K11
  exact hJ h11 _ X3 _ _ o3 (d3.more (by omega)) (by omega) K11
 ·refine av 62 (fun i vs h'=> ∃q X M m',vs= [.pointer (some ⟨B,0,none⟩), .pointer (some ⟨b3,0,none⟩), .pointer (some ⟨b13,0,none⟩)]/\MG X M m'/\DZ m' (400+i)/\m'.nodes.length=m.nodes.length+i/\q<=p+100010+i/\
   Kn g h' ((b13, .inl ⟨aw M,5,false⟩)::(b3, .inl ⟨cZ,5,false⟩)::(B,rdC s q)::(A++X))) ⟨_,X,M,m,rfl,o,d,rfl,by omega,K8⟩ ?_
  clear K8
  rintro i _ h9 nxt hi ⟨q',X',M',m',rfl,o',d',hl',hq',K9⟩ hnx
  refine⟨_,b3,0,b13,0,rfl,?_⟩
  have hn':=o'.lens
  (refine kr_ ?_)
  refine kp_ ?_
  intro x h10 K10 hx _
  refine⟨_,rfl,?_⟩
  replace hx:x<2:=by have:=hx (by omega);omega
  (refine kr_ ?_)
  rw [bV (by omega) (by omega)]
  refine ac (fun e=>?_) (fun e=>hJ h10 _ X' M' m' o' (d'.more (by omega)) (by omega) K10)
  have e:=of_decide_eq_true e
  clear K9
  (refine kr_ ?_)
  refine ca ⟨_,_,rfl,?_⟩
  (refine kr_ ?_)
  refine Kn.al K10 fun b9 h11 K11 l11 hb11=>?_
  (refine kr_ ?_)
  refine kR (H:=_::_::_::A) (nd:=⟨34,0,0,0,0,0,cx 3,⟨#[]⟩⟩) o' K11 (by omega) (.head _) fun s' X3 h12 o3 KF=>?_
  have K12:=KF _ (by((focus ((repeat first|exact .head|apply Upd.tail);done))))
  simp only [List.cons_append]at K12
  exact hnx (by omega) _ _ ⟨_,X3,_,_,rfl,o3,d'.addN (n:=⟨34,0,0,0,0,0,cx 3,⟨#[]⟩⟩) (show (0:Nat)<=100 by omega),by simp;omega,by omega,K12⟩
 ·(refine kr_ ?_)
  refine kp_ ?_
  intro x h9 K9 _ _
  refine⟨_,rfl,?_⟩
  (refine kr_ ?_)
  refine sO (A:=_::_::_::A) (n':={n with sort:=⟨(x:Nat),n.sort.wid⟩}) (off:=6) o K9 hna rfl rfl (by omega) (by rw [Int.toNat_natCast];omega) fun X' h10 o' K10=>?_
  exact hJ h10 _ X' M _ o' (dset _ hnm) (by omega) K10
 ·(refine kr_ ?_)
  refine ca ⟨_,_,rfl,?_⟩
  (refine kr_ ?_)
  refine Kn.al K8 fun b9 h11 K11 l11 hb11=>?_
  (refine kr_ ?_)
  refine kR (H:=_::_::_::A) (nd:=⟨35,0,0,0,0,0,cx 4,⟨#[119,105,100,101]⟩⟩) o K11 (by omega) (.head _) fun s' X3 h12 o3 KF=>?_
  have K12:=KF _ (by((focus ((repeat first|exact .head|apply Upd.tail);done))))
  simp only [List.cons_append]at K12
  exact hJ h12 _ X3 _ _ o3 ((d.addN (n:=⟨35,0,0,0,0,0,cx 4,⟨#[119,105,100,101]⟩⟩) (show (4:Nat)<=100 by omega)).more (by omega)) (by omega) K12
 ·exact hJ h8 _ X M m o (d.more (by omega)) (by omega) K8
abbrev UJ :List Value:= [I (-1),I 0,I 1,I 2,I 3,I 5,I 256,I 1000]
theorem Kj {i:Nat} (h:i<8): ∃x:Int,UJ[i]?=some (I x):=by
 rcases i with _|_|_|_|_|_|_|_|i
 iterate 8 exact⟨_,rfl⟩
 omega
set_option maxHeartbeats 2000000 in
theorem DW {h:Hp} {s:Sl} {bs:List Nat} {R:Value->Hp->Prop} (hcap:s.n<=s.c) (hs:ByteS h s bs)
  (k: ∀h' M m x,h.le h'->aN h' M m->bW m->R (.tuple #[aO M,I x]) h'):oP #[s.v] h R:=by
 apply CZ
 refine uf_ ?_
 (with_reducible apply Kn.al);(exact Kn.nil h);(intro b3 h1 K1 l1 hb3)
 refine EV K1 hcap hs fun B h2 s' bs' hb K2=>⟨_,rfl,?_⟩
 clear K1
 refine ap (fun J=> ∀x h5 q X M m,MG X M m->DZ m 4000->Kn h h5 ((b3, .inl ⟨aw M,5,false⟩)::(B,rdC s' q)::X)->J x h5)
  (fun x hz q X M m o d Kz=>?_) (fun J hJ=>?_)
 ·clear K2
  repeat' (refine kr_ ?_)
  exact k hz M m x Kz.le (o.modelS (A:= [_,_]) (d.small (by omega)) Kz) (d.small (by omega))
 clear k
 refine⟨?_,?_⟩
 ·refine si (A:= [(b3, .inl ⟨cZ,5,false⟩)]) K2 hb (by omega) fun h3 q X M m K3 o d hq=>⟨_,_,_,_,_,rfl,?_⟩
  replace K3:Kn h h3 ((b3, .inl ⟨cZ,5,false⟩)::(B,rdC s' q)::X):=K3.sw
  clear K2
  refine⟨?_,?_⟩
  ·refine Kn.al K3 fun b17 h4 K4 l4 hb4=>?_
   clear K3
   refine kp_ ?_
   intro x h5 K5 hx _
   refine⟨_,rfl,?_⟩
   replace hx:x<8:=by have:=hx (by omega);omega
   obtain⟨y,hy⟩:=Kj hx
   repeat' (refine kr_ ?_)
   refine⟨by omega,by omega,y,by rw [aq (K5.at (.head _)),Int.toNat_natCast,Nat.zero_add,Nat.mul_one];exact hy,?_⟩
   refine jA (M':=M) K5 (by((focus ((repeat first|exact .head|apply Upd.tail);done)))) rfl fun h6 K6=>?_
   (refine kr_ ?_)
   exact hJ y h6 _ X M m o d K6.tl
  ·refine kp_ ?_
   intro x h5 K5 hx _
   refine⟨_,rfl,?_⟩
   replace hx:x<8:=by have:=hx (by omega);omega
   obtain⟨y,hy⟩:=Kj hx
   clear K3
   refine⟨?_,?_⟩
   ·refine Kn.al K5 fun b17 h4 K4 l4 hb4=>?_
    clear K5
    repeat' (refine kr_ ?_)
    refine⟨by omega,by omega,y,by rw [aq (K4.at (.head _)),Int.toNat_natCast,Nat.zero_add,Nat.mul_one];exact hy,?_⟩
    refine jA (M':=M) K4 (by((focus ((repeat first|exact .head|apply Upd.tail);done)))) rfl fun h6 K6=>?_
    (refine kr_ ?_)
    exact hJ y h6 _ X M m o d K6.tl
   ·refine jA (M':=M) K5 (by((focus ((repeat first|exact .head|apply Upd.tail);done)))) rfl fun h6 K6=>?_
    clear K5
    refine Kn.al K6 fun b17 h4 K4 l4 hb4=>?_
    clear K6
    repeat' (refine kr_ ?_)
    refine⟨by omega,by omega,y,by rw [aq (K4.at (.head _)),Int.toNat_natCast,Nat.zero_add,Nat.mul_one];exact hy,?_⟩
    exact hJ y h4 _ X M m o d K4.tl
 ·refine Kn.al K2 fun b47 h3 K3 l3 hb3'=>?_
  clear K2
  refine si (A:= [(b47, .inl ⟨UJ,8,false⟩),(b3, .inl ⟨cZ,5,false⟩)]) K3.sw hb (by omega) fun h4 q X M m K4 o d hq=>⟨_,_,_,_,_,rfl,?_⟩
  replace K4:Kn h h4 ((b47, .inl ⟨UJ,8,false⟩)::(b3, .inl ⟨cZ,5,false⟩)::(B,rdC s' q)::X):=K4.perm (wu _ _ _ _).symm
  clear K3
  refine kp_ ?_
  intro x h5 K5 hx _
  refine⟨_,rfl,?_⟩
  replace hx:x<8:=by have:=hx (by omega);omega
  obtain⟨y,hy⟩:=Kj hx
  clear K4
  repeat' (refine kr_ ?_)
  refine⟨by omega,by omega,y,by rw [aq (K5.at (.head _)),Int.toNat_natCast,Nat.zero_add,Nat.mul_one];exact hy,?_⟩
  refine jA (M':=M) K5 (by((focus ((repeat first|exact .head|apply Upd.tail);done)))) rfl fun h6 K6=>?_
  (refine kr_ ?_)
  exact hJ y h6 _ X M m o d K6.tl
set_option maxHeartbeats 1000000 in
theorem FnBudget_spec {h:Hp} {s:Sl} {bs:List Nat} {R:Value->Hp->Prop} (hcap:s.n<=s.c) (hs:ByteS h s bs) (k:R (.bool true) h):vO #[s.v] h R:=by
 refine ACalls.drop (EI ?_)
 refine uf_ ?_
 refine ac (fun _=>⟨h,Hp.le_refl _,k⟩) (fun _=>?_)
 refine DW hcap hs fun h1 M m x l1 hM hm=>⟨_,_,_,_,_,_,rfl,?_⟩
 have K0:=Kn.nil h1
 have fin: ∀h' L,Kn h1 h' L-> ∃h'',h''.le h'/\R (.bool true) h'':=fun h' L K=>⟨h,Hp.le_trans l1 K.le,k⟩
 (with_reducible apply Kn.al);(assumption);(intro b15 h2 K1 l2 hb15)
 refine jA (M':=M) K1 (by((focus ((repeat first|exact .head|apply Upd.tail);done)))) rfl fun h3 K3=>?_
 clear K0 K1
 repeat' (refine kr_ ?_)
 refine fX (hM.mono K3.le) hm fun wS wI wN h4 tw=>⟨_,_,_,_,_,_,_,rfl,?_⟩
 have K4:=K3.mono tw.le
 have v0:ax m=0->(dm m x).kind≠0:=fun e=>by unfold dm;rw [if_pos e];exact Tf _ _
 have v1:(dm m x).kind≠0->(dm m x).kind≠1->dm m 256=dm m x:=fun a b=>by
  have e:ax m=0:=Decidable.byContradiction fun e=>a (by unfold dm;rw [if_neg e])
  unfold dm at b⊢
  rw [if_pos e]at b⊢
  rw [if_pos e]
  exact((NM (gq (co e)) x).resolve_left b).symm
 have hSp: ∀{h':Hp} {R':Value->Hp->Prop},aN h' M m->(∀sS sI sN h'',VrX h' h'' sS sI sN (dm m x)->R' (Ke (dm m x) sS sI sN) h'')->kV #[aO M,I x] h' R':=fun a d=>vG a hm d
 have hI:dm m 256=dm m x-> ∀{h':Hp} {R':Value->Hp->Prop},aN h' M m->(∀sS sI sN h'',VrX h' h'' sS sI sN (dm m x)->R' (Ke (dm m x) sS sI sN) h'')->eo #[aO M,I 256] h' R':=fun e _ _ a d=>fX a hm (by rw [e];exact d)
 generalize dm m x=V at*
 refine Kn.al K4 fun b35 h5 K5 l5 hb35=>?_
 refine kw_ ?_
 intro h6 K6 kp6
 have l46:=cF hb35 l5 kp6
 have hw:=(tw.mono l46).vrS
 have K6':Kn h1 h6 ((b35, .inl ⟨P8 V wS wI wN,7,false⟩)::(b15, .inl ⟨aw M,5,false⟩):: []):=K6
 clear K3 K4 K5 K6 kp6
 repeat' (refine kr_ ?_)
 refine hSp (hM.mono K6'.le) fun tS tI tN h7 tv=>⟨_,_,_,_,_,_,_,rfl,?_⟩
 have K7:=K6'.mono tv.le
 (refine kr_ ?_)
 refine kI (hw.mono tv.le) tv.vrS ⟨_,rfl,aD rfl ?_⟩
 clear K6'
 (refine kr_ ?_)
 refine ac (fun e=>?_) (fun e0=>?_)
 ·repeat' (refine kr_ ?_)
  refine aX (hM.mono K7.le) hm ⟨_,rfl,?_⟩
  have e:=of_decide_eq_true e
  rw [show (ax m !=0)=true by rw [bne_iff_ne];exact fun q=>v0 q e]
  exact fin _ _ K7
 (refine kr_ ?_)
 refine ac (fun e=>?_) (fun e1=>?_)
 ·repeat' (refine kr_ ?_)
  exact fin _ _ K7
 repeat' (refine kr_ ?_)
 refine hI (v1 (by simpa using e0) (by simpa using e1)) (hM.mono K7.le) fun gS gI gN h8 t8=>⟨_,_,_,_,_,_,_,rfl,?_⟩
 have K8:=K7.mono t8.le
 (refine kr_ ?_)
 refine kI (hw.mono (Hp.le_trans tv.le t8.le)) t8.vrS ⟨_,rfl,?_⟩
 exact fin _ _ K8
theorem ge.out {h:Hp} {t:Sl} {vs:List (List Nat)} {X:List (Nat×Blk)} {s:Sl} {ts:List Sl} (e:ge h t vs) (he: ∀p,p<vs.length->0<(vs.getD p []).length) (o:cE X s 1 (ts.map Sl.v)) (m: ∀e∈X,h e.1=some e.2)
  (hts: ∀(j:Nat) (u:Sl),ts[j]?=some u-> ∃ws,(0<vs.length->0<ws.length)/\ge h u ws):ge (h.wo (X.map Prod.fst)) t vs:=by
 rcases o.2.2 with ⟨rfl,_,_⟩|⟨b,_,rfl⟩
 ·exact e.mono fun c x hc=>by simp [Hp.wo,hc]
 have hb:=m _ (.head _)
 have kp: ∀c,c≠b->(h.wo [b]) c=h c:=fun c hc=>by simp [Hp.wo,hc]
 refine⟨e.1,e.2.1,fun p hp=>?_⟩
 obtain⟨b',o',t',h1,h2,h3⟩:=e.2.2 p hp
 refine⟨b',o',t',h1,?_,h3.keepN hb (tY ts) kp⟩
 have hne:b'≠b:=by
  rintro rfl
  rw [aq hb,List.getElem?_map,Option.map_eq_some_iff]at h2
  obtain⟨u,hu,hv⟩:=h2
  obtain⟨ws,hw,hpw⟩:=hts _ u hu
  obtain rfl:u=t':=by
   obtain⟨a1,a2,a3⟩:=u
   obtain⟨c1,c2,c3⟩:=t'
   cases hv;rfl
  obtain⟨b2,o2,u2,g1,g2,_⟩:=hpw.2.2 0 (hw (by omega))
  obtain⟨b3,o3,g3,g4,_⟩:=IntS.elt h3 (i:=0) (he p hp)
  rw [g1]at g3
  cases g3
  rw [g2]at g4
  cases g4
 unfold Hp.cell at h2⊢
 rw [show (Hp.wo h (List.map Prod.fst [(b,(Sum.inl ⟨ts.map Sl.v,s.c*1,false⟩:Blk))])) b'=h b' from kp b' hne]
 exact h2
theorem Kn.ints {g h:Hp} {L:List (Nat×Blk)} {s:Sl} {b z:Nat} {ro:Bool} {xs:List Int} (K:Kn g h L) (m:(b, .inl ⟨xs.map I,z,ro⟩)∈L) (ha:s.a=some ⟨b,0,none⟩) (hn:xs.length=s.n) (hl:s.n<=1000000):IntS h s xs:=
 ⟨by omega,by rw [List.length_map,Nat.mul_one];exact hn, .inr ⟨b,0,ha,ay (K.at m)⟩⟩
inductive Ord (ns:List Nd):Nat->List Nat->List Nat->Prop
 |leaf {r:Nat} {d:List Nat}:r<2->Ord ns r d d
 |seen {r:Nat} {d:List Nat}:2<=r->r∈d->Ord ns r d d
 |node {r:Nat} {d d1 d2:List Nat} {nd:Nd}:2<=r->r∉d->ns[r-2]?=some nd->Ord ns nd.lo d d1->Ord ns nd.hi d1 d2->Ord ns r d (d2++ [r])
theorem Ord.len {ns:List Nd} {r:Nat} {d o:List Nat} (h:Ord ns r d o):d.length<=o.length:=by
 induction h with
 |leaf=>exact Nat.le_refl _
 |seen=>exact Nat.le_refl _
 |node _ _ _ _ _ i1 i2=>rw [List.length_append];omega
end Go.Lead
