/- What functions of the program and of the reference come to, walked one by one, and plain laws about it: part 4. No condition is added to the statement. -/
import Derived.Test.YthfcbpocfmjefaaGreatZ2
namespace Go.Lead
open Go
set_option linter.unusedSimpArgs false
set_option linter.unusedVariables false
set_option maxRecDepth 100000
set_option maxHeartbeats 1000000
theorem Upd.mem2 {L L':List (Nat×Blk)} {b:Nat} {x y:Blk} (u:Upd L b x y L'):(b,y)∈L':=by
 induction u with
 |head=>exact .head _
 |tail _ ih=>exact .tail _ ih
section
variable {g h:Hp} {L L':List (Nat×Blk)} {b:Nat} {M M':MSl}
abbrev eA :List Value:= [.slice none 0 0, .slice none 0 0, .slice none 0 0, .slice none 0 0, .slice none 0 0]
theorem ww {cs:List Value} {Q:Hp->Prop} (K:Kn g h L) (u:Upd L b (.inl ⟨cs,5,false⟩) (.inl ⟨aH M',5,false⟩) L') (hl:cs.length=5) (k: ∀h',Kn g h' L'->Q h'):
  ∃(cs:List Value) (z:Nat),h b=some (.inl ⟨cs,z,false⟩)/\0+5<=List.length cs/\cM (h.row b (bX cs 0 (aH M')) z) fun h'=>Q h':=by
 have e:bX cs 0 (aH M')=aH M':=by
  match cs,hl with
  | [_,_,_,_,_],_=>rfl
 exact Kn.wr (cs:=cs) (z:=5) (o:=0) (vs:=aH M') K (L':=L') (by rw [e];exact u) (by omega) fun h' K' _=>k h' K'
theorem G0 {Q:Sl->Sl->Sl->Sl->Sl->Hp->Prop} (K:Kn g h L) (u:Upd L b (.inl ⟨eA,5,false⟩) (.inl ⟨aH M,5,false⟩) L') (k: ∀h',Kn g h' L'->Q M.no M.ini M.nex M.bad M.hol h'):
  ∃(cs:List Value) (z:Nat),h b=some (.inl ⟨cs,z,false⟩)/\0+5<=List.length cs/\cM (h.row b (bX cs 0 (aH M)) z) fun h'=> ∃s1:Sl,Hp.cell h' b 0=some s1.v/\ ∃s2:Sl,Hp.cell h' b 1=some s2.v/\
   ∃s3:Sl,Hp.cell h' b 2=some s3.v/\ ∃s4:Sl,Hp.cell h' b 3=some s4.v/\ ∃s5:Sl,Hp.cell h' b 4=some s5.v/\Q s1 s2 s3 s4 s5 h':=by
 refine ww K u rfl fun h' K'=>?_
 have hm:=u.mem2
 have c:=fun o=>ax (K'.at hm) o
 exact⟨_,c 0,_,c 1,_,c 2,_,c 3,_,c 4,k h' K'⟩
end
theorem CV {α:Type} (a b c d e:α) (L:List α):(a::b::c::d::e::L).Perm (e::a::b::c::d::L):=by
 refine((List.Perm.cons a ((List.Perm.cons b ((List.Perm.cons c (List.Perm.swap e d L)).trans (List.Perm.swap e c _))).trans (List.Perm.swap e b _))).trans (List.Perm.swap e a _))
theorem Upd.app {L L' X:List (Nat×Blk)} {b:Nat} {x y:Blk} (u:Upd L b x y L'):Upd (L++X) b x y (L'++X):=by
 induction u with
 |head=>exact .head
 |tail _ ih=>exact .tail ih
theorem nr {g h:Hp} {H X:List (Nat×Blk)} {b bn:Nat} {M:MSl} {m:ah} {nd:NodeP} {J:Hp->Prop} (o:MG X M m) (K:Kn g h ((bn, .inl ⟨nodeCells nd,9,false⟩)::(H++X))) (hm:m.nodes.length<=10000) (hb:(b, .inl ⟨aH M,5,false⟩)∈H)
  (k: ∀s' X' h',MG X' {M with no:=s'} {m with nodes:=m.nodes++ [nd]}->(∀H',Upd H b (.inl ⟨aH M,5,false⟩) (.inl ⟨aH {M with no:=s'},5,false⟩) H'->Kn g h' (H'++X'))->J h'):
  cy h M.no.a M.no.n M.no.c (some ⟨bn,0,none⟩) 1 9 80 fun a n c h95=> ∃(cs:List Value) (z:Nat),h95 b=some (.inl ⟨cs,z,false⟩)/\0+1<=List.length cs/\cM (h95.row b (bX cs 0 [.slice a n c]) z) fun h'=>J h':=by
 refine MG.appN (A:=_::H) (n:=nd) o K (by omega) (K.at (.head _)) fun s' X' h7 o' K7=>?_
 rw [List.cons_append]at K7
 have f:=K7.at (.tail _ (List.mem_append_left _ hb))
 exact⟨_,_,f,by simp,k s' X' _ o' fun H' u=>(K7.tl).set (u.app (X:=X'))⟩
set_option maxHeartbeats 1000000 in
theorem yu {g h:Hp} {A X:List (Nat×Blk)} {B p N:Nat} {s:Sl} {bs:List Nat} {M:MSl} {m:ah} {st:SortP} {R:Value->Hp->Prop} (K:Kn g h ((B,rdC s p)::(A++X))) (hb:ByteS g s bs) (o:MG X M m) (d:DM m N) (hN:N<=10000)
  (hne:0<m.nodes.length) (hp:p<=900000) (hst:bW st=true)
  (k: ∀h' p' X' M' m' (i:Nat),Kn g h' ((B,rdC s p')::(A++X'))->MG X' M' m'->DM m' (N+1)->i<m'.nodes.length->m.nodes.length<=m'.nodes.length->p'<=p+2->R (.tuple #[aQ M',I i]) h'):
  gL #[.pointer (some ⟨B,0,none⟩),aQ M,uq st] h R:=by
 apply IA
 refine uf_ ?_
 obtain⟨_,hw1,hw2⟩:=nH hst
 have hl:=o.lens
 have hsm:=d.small (by omega)
 have hdn:=d.nodes
 refine Kn.al K fun b10 h1 K1 l1 hb10=>?_
 refine Kn.al K1 fun b12 h2 K2 l2 hb12=>?_
 refine Kn.al K2 fun b14 h3 K3 l3 hb14=>?_
 clear K K1 K2 l1 l2 l3 hb10 hb12 hb14
 (refine kr_ ?_)
 refine kp_ ?_
 intro x h4 K4 hx _
 refine⟨_,rfl,?_⟩
 replace hx:x<m.nodes.length:=by have:=hx (by omega);omega
 clear K3 h3 h2 h1 h
 have hs:=o.modelS (A:=_::_::_::_::A) hsm K4
 refine au m.nodes.length (fun i vs h'=>vs= [.pointer (some ⟨B,0,none⟩), .pointer (some ⟨b10,0,none⟩), .pointer (some ⟨b12,0,none⟩), .pointer (some ⟨b14,0,none⟩),I x,I i]/\h4=h') ⟨rfl,rfl⟩ ?_
 rintro i _ _ nxt hi ⟨rfl,rfl⟩ hnx
 refine⟨_,b10,0,b12,0,b14,0,_,_,rfl,?_⟩
 (refine kr_ ?_)
 have same: ∀q:Nat,q<m.nodes.length-> ∃(cs:List Value) (z:Nat),h4 b14=some (.inl ⟨cs,z,false⟩)/\0+5<=List.length cs/\cM (h4.row b14 (bX cs 0 (aH M)) z) fun h58=> ∃s59:Sl,Hp.cell h58 b14 0=some s59.v/\ ∃s60:Sl,Hp.cell h58 b14 (0+1)=some s60.v/\
   ∃s61:Sl,Hp.cell h58 b14 (0+2)=some s61.v/\ ∃s62:Sl,Hp.cell h58 b14 (0+3)=some s62.v/\ ∃s63:Sl,Hp.cell h58 b14 (0+4)=some s63.v/\R (.tuple #[.agg #[s59.v,s60.v,s61.v,s62.v,s63.v],I q]) h58:=by
  intro q hq
  refine kw_ ?_
  intro h5 K5 _
  have K5':Kn g h5 ((b14, .inl ⟨aH M,5,false⟩)::(b12, .inl ⟨[I st.idx,I st.wid],2,false⟩)::(b10, .inl ⟨aH M,5,false⟩)::(B,rdC s (p+1))::(A++X)):=K5
  clear K5 K4
  repeat' (refine kr_ ?_)
  exact k h5 (p+1) X M m q K5'.tl.tl.tl o (d.more (by omega)) hq (Nat.le_refl _) (by omega)
 by_cases hlt:i<m.nodes.length
 ·refine aM (by rw [decide_eq_true_eq];omega) ?_
  (refine kr_ ?_)
  rw [if_neg (by omega)]
  (refine kr_ ?_)
  have hq:(x+i)%m.nodes.length<m.nodes.length:=Nat.mod_lt _ hne
  rw [<-Int.natCast_add,fW (by omega),show ((M.no.n:Nat):Int)=(m.nodes.length:Nat) by omega,eP]
  generalize (x+i)%m.nodes.length=q at*
  obtain⟨n,hni⟩: ∃n,m.nodes[q]?=some n:=⟨_,List.getElem?_eq_getElem hq⟩
  obtain⟨b,oo,ha,e0,e1,e2,e3,e4,e5,e6,e7,e8⟩:=hs.nodes.at hni
  rw [Int.toNat_natCast]
  refine⟨b,oo,ha,by omega,by omega,_,e6,_,e7,?_⟩
  (refine kr_ ?_)
  (refine kr_ ?_)
  refine ad (fun e=>?_) (fun e=>?_)
  ·repeat' (refine kr_ ?_)
   exact same q hq
  ·rw [ay (by omega)]
   exact hnx hlt _ _ ⟨rfl,rfl⟩
 refine aC (by rw [decide_eq_false_iff_not];omega) ?_
 clear hnx hlt hi
 (refine kr_ ?_)
 refine ad (fun e=>?_) (fun e=>?_)
 ·repeat' (refine kr_ ?_)
  exact same 0 hne
 have e':=of_decide_eq_false e
 have hi0:st.idx=0:=by have:=(nH hst).1;omega
 clear same hs
 refine ap (fun J=> ∀h5 X' s' p' nd,nd.sort=st->nd.name.size=0->MG X' {M with no:=s'} {m with nodes:=m.nodes++ [nd]}->Kn g h5 ((b14, .inl ⟨[.slice none 0 0, .slice none 0 0, .slice none 0 0, .slice none 0 0, .slice none 0 0],5,false⟩)::(b12, .inl ⟨[I st.idx,I st.wid],2,false⟩)::
  (b10, .inl ⟨aH {M with no:=s'},5,false⟩)::(B,rdC s p')::(A++X'))->p'<=p+2->J h5) (fun h5 X' s' p' nd hs1 hs2 o' K5 hp'=>?_) (fun J hJ=>?_)
 ·have hl':=o'.lens
  repeat' (refine kr_ ?_)
  refine kw_ ?_
  intro h6 K6 kp6
  have K6':Kn g h6 ((b14, .inl ⟨aH {M with no:=s'},5,false⟩)::(b12, .inl ⟨[I st.idx,I st.wid],2,false⟩)::(b10, .inl ⟨aH {M with no:=s'},5,false⟩)::(B,rdC s p')::(A++X')):=K6
  repeat' (refine kr_ ?_)
  clear K5 K6 K4
  repeat' (refine kr_ ?_)
  rw [show W ((s'.n:Int)-1)=(m.nodes.length:Nat) by
   have h1:=hl'.1
   simp at h1
   rw [cd (by omega) (by omega)];omega]
  exact k h6 p' X' _ _ m.nodes.length K6'.tl.tl.tl o' (d.addN (by rw [hs1];exact hst) (by omega)) (by simp) (by simp) hp'
 obtain⟨w,hw⟩: ∃w:Nat,st.wid=w:=⟨st.wid.toNat,by omega⟩
 have hp2:0<2^w:=Nat.two_pow_pos w
 have fin: ∀(y:Nat) (h5 h6:Hp) (q b:Nat),q<=p+2->Kn g h5 ((b14, .inl ⟨[.slice none 0 0, .slice none 0 0, .slice none 0 0, .slice none 0 0, .slice none 0 0],5,false⟩)::(b12, .inl ⟨[I st.idx,I st.wid],2,false⟩)::(b10, .inl ⟨aH M,5,false⟩)::(B,rdC s q)::(A++X))->
   Kn g h6 ((b, .inl ⟨[I 34,I 0,I 0,I 0,I (Int.tmod y (2^w:Nat)),I 0,I st.idx,I st.wid, .string ⟨#[]⟩],9,false⟩)::(b14, .inl ⟨[.slice none 0 0, .slice none 0 0, .slice none 0 0, .slice none 0 0, .slice none 0 0],5,false⟩)::(b12, .inl ⟨[I st.idx,I st.wid],2,false⟩)::(b10, .inl ⟨aH M,5,false⟩)::(B,rdC s q)::(A++X))->
   cy h6 M.no.a M.no.n M.no.c (some (Addr.mk b 0 none)) 1 9 80 fun a92 n93 k94 h95=> ∃(cs96:List Value) (z97:Nat),h95 b10=some (.inl ⟨cs96,z97,false⟩)/\0+1<=List.length cs96/\cM (h95.row b10 (bX cs96 0 [(.slice a92 n93 k94)]) z97) fun h98=>J h98:=by
  intro y h5 h6 q b hq K5 K6
  refine MG.appN (A:=_::_::_::_::_::A) (n:=⟨34,0,0,0,Int.tmod y (2^w:Nat),0,st,⟨#[]⟩⟩) o K6 (by omega) (K6.at (.head _)) fun s' X' h7 o' K7=>?_
  simp only [List.cons_append]at K7
  clear K6 K5 K4
  refine kw_ ?_
  intro h8 K8 _
  exact hJ h8 X' s' q _ rfl rfl o' K8.tl hq
 repeat' (refine kr_ ?_)
 refine⟨?_,?_⟩
 ·refine kp_ ?_
  intro y h5 K5 hy _
  refine⟨_,rfl,?_⟩
  repeat' (refine kr_ ?_)
  rw [hw,cY (by omega),if_neg (by omega),cw (by omega),if_neg (by omega),<-hw]
  refine Kn.al K5 fun b90 h6 K6 l6 hb90=>?_
  (refine kr_ ?_)
  exact fin y h5 h6 (p+2) b90 (Nat.le_refl _) K5 K6
 ·repeat' (refine kr_ ?_)
  rw [hw,cY (by omega),if_neg (by omega),cw (by omega),<-hw]
  refine kp_ ?_
  intro y h5 K5 hy _
  refine⟨_,rfl,?_⟩
  repeat' (refine kr_ ?_)
  rw [if_neg (by omega)]
  refine Kn.al K5 fun b90 h6 K6 l6 hb90=>?_
  (refine kr_ ?_)
  exact fin y h5 h6 (p+2) b90 (Nat.le_refl _) K5 K6
set_option maxHeartbeats 1000000 in
theorem Oc {g h:Hp} {A X:List (Nat×Blk)} {B p N:Nat} {s:Sl} {bs:List Nat} {M:MSl} {m:ah} {R:Value->Hp->Prop} (K:Kn g h ((B,rdC s p)::(A++X))) (hb:ByteS g s bs) (o:MG X M m) (d:DM m N) (hN:N<=1000)
  (hne:0<m.nodes.length) (hp:p<=800000)
  (k: ∀h' p' X' M' m' (i:Nat),Kn g h' ((B,rdC s p')::(A++X'))->MG X' M' m'->DM m' (N+3)->i<m'.nodes.length->m.nodes.length<=m'.nodes.length->p'<=p+2*N+10->R (.tuple #[aQ M',I i]) h'):
  nD #[.pointer (some ⟨B,0,none⟩),aQ M] h R:=by
 apply GS
 refine uf_ ?_
 have hl:=o.lens
 have hsm:=d.small (by omega)
 have hdn:=d.nodes
 refine Kn.al K fun b8 h1 K1 l1 hb8=>?_
 refine Kn.al K1 fun b10 h2 K2 l2 hb10=>?_
 clear K K1 l1 l2 hb8 hb10
 (refine kr_ ?_)
 rw [show W ((M.no.n:Int)-1)=(m.nodes.length:Int)-1 by rw [cd (by omega) (by omega)];omega]
 refine nA m.nodes.length (fun i vs h'=>vs= [.pointer (some ⟨B,0,none⟩), .pointer (some ⟨b8,0,none⟩), .pointer (some ⟨b10,0,none⟩),I ((i:Int)-1)]/\i<=m.nodes.length/\
  ∃q,q+i<=p+m.nodes.length/\Kn g h' ((b10, .inl ⟨eA,5,false⟩)::(b8, .inl ⟨aH M,5,false⟩)::(B,rdC s q)::(A++X))) ⟨rfl,Nat.le_refl _,p,Nat.le_refl _,K2⟩ ?_
 clear K2 h1 h2 h
 rintro i _ h4 nxt ⟨rfl,hi,q,hq,K4⟩ hnx
 refine⟨_,b8,0,b10,0,_,rfl,?_⟩
 have hs:=o.modelS (A:=_::_::_::A) hsm K4
 cases i with
 |succ i=>
  rw [show (((i+1:Nat):Int)-1)=(i:Nat) by omega]
  refine aM (by rw [decide_eq_true_eq];omega) ?_
  refine ap (fun J=> ∀c h5 q,q+i<=p+m.nodes.length->Kn g h5 ((b10, .inl ⟨eA,5,false⟩)::(b8, .inl ⟨aH M,5,false⟩)::(B,rdC s q)::(A++X))->J c h5) (fun c h5 q' hq' K5=>?_) (fun J hJ=>?_)
  ·refine ad (fun e=>?_) (fun e=>?_)
   ·clear K4
    repeat' (refine kr_ ?_)
    refine G0 K5 (by((focus ((repeat first|exact .head|apply Upd.tail);done)))) fun h6 K6=>?_
    exact k h6 q' X M m i K6.tl.tl o (d.more (by omega)) (by omega) (Nat.le_refl _) (by omega)
   ·rw [cd (by omega) (by omega)]
    exact hnx i (by omega) _ _ ⟨rfl,by omega,q',hq',K5⟩
  ·(refine kr_ ?_)
   obtain⟨n,hni⟩: ∃n,m.nodes[i]?=some n:=⟨_,List.getElem?_eq_getElem (by omega)⟩
   obtain⟨b,oo,ha,e0,e1,e2,e3,e4,e5,e6,e7,e8⟩:=hs.nodes.at hni
   refine⟨b,oo,ha,by omega,by omega,_,by rw [Int.toNat_natCast];exact e6,_,by rw [Int.toNat_natCast];exact e7,?_⟩
   refine cm ⟨_,_,rfl,?_⟩
   repeat' (refine kr_ ?_)
   refine ad (fun e=>?_) (fun e=>?_)
   ·(refine kr_ ?_)
    refine⟨b,oo,ha,by omega,by omega,_,by rw [Int.toNat_natCast];exact e0,?_⟩
    refine ad (fun e=>?_) (fun e=>?_)
    ·refine kp_ ?_
     intro x h5 K5 hx _
     exact⟨_,rfl,hJ _ h5 (q+1) (by omega) K5⟩
    ·exact hJ _ h4 q (by omega) K4
   ·exact hJ _ h4 q (by omega) K4
 |zero=>
 refine aC (by rw [decide_eq_false_iff_not];omega) ?_
 clear hnx
 refine au m.nodes.length (fun i vs h'=> ∃(a q:Nat),vs= [.pointer (some ⟨B,0,none⟩), .pointer (some ⟨b8,0,none⟩), .pointer (some ⟨b10,0,none⟩),I a,I i]/\a<m.nodes.length/\
  q<=p+m.nodes.length+i/\Kn g h' ((b10, .inl ⟨eA,5,false⟩)::(b8, .inl ⟨aH M,5,false⟩)::(B,rdC s q)::(A++X))) ⟨0,q,rfl,hne,by omega,K4⟩ ?_
 clear K4 hq hs h4 hi q
 rintro i _ h4 nxt hi ⟨a,q,rfl,ha',hq,K4⟩ hnx
 refine⟨_,b8,0,b10,0,_,_,rfl,?_⟩
 have hs:=o.modelS (A:=_::_::_::A) hsm K4
 (refine kr_ ?_)
 obtain⟨na,hna⟩: ∃n,m.nodes[a]?=some n:=⟨_,List.getElem?_eq_getElem ha'⟩
 by_cases hlt:i<m.nodes.length
 ·refine aM (by rw [decide_eq_true_eq];omega) ?_
  refine ap (fun J=> ∀(c:Nat) h5 q,c<m.nodes.length->q<=p+m.nodes.length+(i+1)->Kn g h5 ((b10, .inl ⟨eA,5,false⟩)::(b8, .inl ⟨aH M,5,false⟩)::(B,rdC s q)::(A++X))->J (c:Int) h5) (fun c h5 q' hc hq' K5=>?_) (fun J hJ=>?_)
  ·rw [ay (by omega)]
   exact hnx hlt _ _ ⟨c,q',rfl,hc,hq',K5⟩
  ·(refine kr_ ?_)
   obtain⟨n,hni⟩: ∃n,m.nodes[i]?=some n:=⟨_,List.getElem?_eq_getElem hlt⟩
   obtain⟨b,oo,ha,e0,_⟩:=hs.nodes.at hni
   refine⟨b,oo,ha,by omega,by omega,_,by rw [Int.toNat_natCast];exact e0,?_⟩
   refine ad (fun e=>?_) (fun e=>?_)
   ·(refine kr_ ?_)
    obtain⟨b,oo,ha,e0,_⟩:=hs.nodes.at hna
    refine⟨b,oo,ha,by omega,by omega,_,by rw [Int.toNat_natCast];exact e0,?_⟩
    refine ad (fun e=>?_) (fun e=>?_)
    ·exact hJ i h4 q hlt (by omega) K4
    ·refine kp_ ?_
     intro x h5 K5 hx _
     refine⟨_,rfl,ad (fun e=>?_) (fun e=>?_)⟩
     ·exact hJ i h5 _ hlt (by omega) K5
     ·exact hJ a h5 _ ha' (by omega) K5
   ·exact hJ a h4 q ha' (by omega) K4
 refine aC (by rw [decide_eq_false_iff_not];omega) ?_
 clear hnx
 repeat' (refine kr_ ?_)
 obtain⟨b,oo,ha,e0,e1,e2,e3,e4,e5,e6,e7,e8⟩:=hs.nodes.at hna
 refine⟨b,oo,ha,by omega,by omega,_,by rw [Int.toNat_natCast];exact e6,_,by rw [Int.toNat_natCast];exact e7,?_⟩
 refine yu (p:=q) (A:=(b10, .inl ⟨eA,5,false⟩)::(b8, .inl ⟨aH M,5,false⟩)::A) (st:=na.sort) (K4.perm ?_) hb o d (by omega) hne (by omega) (uV d hna) fun h5 q5 X5 M5 m5 i5 K5 o5 d5 hi5 hl5 hq5=>⟨_,_,_,_,_,_,rfl,?_⟩
 ·exact(List.Perm.cons _ (List.Perm.swap ..)).trans (List.Perm.swap ..)
 have K5':Kn g h5 ((b10, .inl ⟨eA,5,false⟩)::(b8, .inl ⟨aH M,5,false⟩)::(B,rdC s q5)::(A++X5)):=K5.perm ((List.Perm.swap ..).trans (List.Perm.cons _ (List.Perm.swap ..)))
 clear K5 K4 hs e0 e1 e2 e3 e4 e5 e6 e7 e8 ha
 refine ww (M':=M5) K5' (by((focus ((repeat first|exact .head|apply Upd.tail);done)))) rfl fun h6 K6=>?_
 clear K5'
 have hl5':=o5.lens
 have hsm5:=d5.small (by omega)
 have hs6:=o5.modelS (A:=_::_::_::A) hsm5 K6
 obtain⟨nb,hnb⟩: ∃n,m5.nodes[a]?=some n:=⟨_,List.getElem?_eq_getElem (by omega)⟩
 refine ap (fun J=> ∀c,J c) (fun c=>?_) (fun J hJ=>?_)
 rotate_left
 ·refine ad (fun e=>?_) (fun e=>hJ _)
  (refine kr_ ?_)
  obtain⟨b,oo,ha,e0,e1,e2,e3,e4,e5,e6,e7,e8⟩:=hs6.nodes.at hnb
  exact⟨b,oo,ha,by omega,by omega,_,by rw [Int.toNat_natCast];exact e6,hJ _⟩
 have d5n:=d5.nodes
 refine ap (fun J=> ∀(x:Nat) h7 q X7 M7 m7,MG X7 M7 m7->DM m7 (N+2)->x<m7.nodes.length->m5.nodes.length<=m7.nodes.length->q<=q5+1->Kn g h7 ((b10, .inl ⟨eA,5,false⟩)::(b8, .inl ⟨aH M7,5,false⟩)::(B,rdC s q)::(A++X7))->J (x:Int) h7)
  (fun x h7 q7 X7 M7 m7 o7 d7 hx7 hl7 hq7 K7=>?_) (fun J hJ=>?_)
 ·clear K6 hs6
  have hl7':=o7.lens
  have d7n:=d7.nodes
  (refine kr_ ?_)
  refine cm ⟨_,_,rfl,?_⟩
  repeat' (refine kr_ ?_)
  refine Kn.al K7 fun b173 h8 K8 l8 hb173=>?_
  repeat' (refine kr_ ?_)
  refine nr (H:=_::_::_::A) (nd:=⟨21,a,x,0,0,0,⟨0,1⟩,⟨#[]⟩⟩) o7 K8 (by omega) (.tail _ (.head _)) fun s' X9 h9 o9 KF=>?_
  have K9:=KF _ (by((focus ((repeat first|exact .head|apply Upd.tail);done))))
  simp only [List.cons_append]at K9
  clear KF K8 K7
  have hl9:=o9.lens
  repeat' (refine kr_ ?_)
  refine ww (M':={M7 with no:=s'}) K9 (by((focus ((repeat first|exact .head|apply Upd.tail);done)))) rfl fun h11 K11=>?_
  repeat' (refine kr_ ?_)
  rw [show W ((s'.n:Int)-1)=(m7.nodes.length:Nat) by
   have h1:=hl9.1
   simp at h1
   rw [cd (by omega) (by omega)];omega]
  exact k h11 q7 X9 _ _ m7.nodes.length K11.tl.tl o9 (d7.addN rfl (show (0:Nat)<=100 by omega)) (by simp) (by simp;omega) (by omega)
 ·refine ad (fun e=>?_) (fun e=>?_)
  rotate_left
  ·exact hJ i5 h6 q5 X5 M5 m5 o5 (d5.more (by omega)) hi5 (Nat.le_refl _) (by omega) K6
  have hok:=uV d5 hnb
  obtain⟨_,hw1,hw2⟩:=nH hok
  obtain⟨b,oo,ha,e0,e1,e2,e3,e4,e5,e6,e7,e8⟩:=hs6.nodes.at hnb
  obtain⟨bN,xN,haN,hmN⟩:=o5.blk (by omega)
  repeat' (refine kr_ ?_)
  refine⟨b,oo,ha,by omega,by omega,_,by rw [Int.toNat_natCast];exact e7,?_⟩
  repeat' (refine kr_ ?_)
  refine⟨b,oo,ha,by omega,by omega,_,by rw [Int.toNat_natCast];exact e6,_,by rw [Int.toNat_natCast];exact e7,?_⟩
  rw [haN]at ha
  cases ha
  obtain⟨w,hw⟩: ∃w:Nat,nb.sort.wid=w:=⟨nb.sort.wid.toNat,by omega⟩
  have hp2:0<2^w:=Nat.two_pow_pos w
  have fin: ∀(y:Nat) (h8:Hp) (b:Nat),Kn g h8 ((b, .inl ⟨[I 34,I 0,I 0,I 0,I (Int.tmod y (2^w:Nat)),I 0,I nb.sort.idx,I nb.sort.wid, .string ⟨#[]⟩],9,false⟩)::(b10, .inl ⟨eA,5,false⟩)::(b8, .inl ⟨aH M5,5,false⟩)::(B,rdC s (q5+1))::(A++X5))->
    cy h8 M5.no.a M5.no.n M5.no.c (some (Addr.mk b 0 none)) 1 9 80 fun a92 n93 k94 h95=> ∃(cs96:List Value) (z97:Nat),h95 b8=some (.inl ⟨cs96,z97,false⟩)/\0+1<=List.length cs96/\cM (h95.row b8 (bX cs96 0 [(.slice a92 n93 k94)]) z97) fun h148=>
     ∃s150:Sl,Hp.cell h148 b8 0=some s150.v/\J (W ((s150.n:Int)-1)) h148:=by
   intro y h8 b K8
   refine nr (H:=_::_::_::A) (nd:=⟨34,0,0,0,Int.tmod y (2^w:Nat),0,nb.sort,⟨#[]⟩⟩) o5 K8 (by omega) (.tail _ (.head _)) fun s' X9 h9 o9 KF=>?_
   have K9:=KF _ (by((focus ((repeat first|exact .head|apply Upd.tail);done))))
   simp only [List.cons_append]at K9
   clear KF K8 K6
   have hl9:=o9.lens
   (refine kr_ ?_)
   rw [show W ((s'.n:Int)-1)=(m5.nodes.length:Nat) by
    have h1:=hl9.1
    simp at h1
    rw [cd (by omega) (by omega)];omega]
   exact hJ m5.nodes.length h9 (q5+1) X9 _ _ o9 (d5.addN hok (show (0:Nat)<=100 by omega)) (by simp) (by simp) (by omega) K9
  refine⟨?_,?_⟩
  ·refine kp_ ?_
   intro y h7 K7 hy _
   refine⟨_,rfl,?_⟩
   have hq:h7 b=h6 b:=by rw [K7.at (.tail _ (.tail _ (.tail _ (List.mem_append_right _ hmN)))),K6.at (.tail _ (.tail _ (.tail _ (List.mem_append_right _ hmN))))]
   repeat' (first|(refine kr_ ?_)|refine And.intro hq ?_)
   rw [hw,cY (by omega),if_neg (by omega),cw (by omega),if_neg (by omega),<-hw]
   refine Kn.al K7 fun b90 h8 K8 l8 hb90=>?_
   (refine kr_ ?_)
   exact fin y h8 b90 K8
  ·repeat' (refine kr_ ?_)
   rw [hw,cY (by omega),if_neg (by omega),cw (by omega),<-hw]
   refine kp_ ?_
   intro y h7 K7 hy _
   refine⟨_,rfl,?_⟩
   have hq:h7 b=h6 b:=by rw [K7.at (.tail _ (.tail _ (.tail _ (List.mem_append_right _ hmN)))),K6.at (.tail _ (.tail _ (.tail _ (List.mem_append_right _ hmN))))]
   repeat' (first|(refine kr_ ?_)|refine And.intro hq ?_)
   rw [if_neg (by omega)]
   refine Kn.al K7 fun b90 h8 K8 l8 hb90=>?_
   (refine kr_ ?_)
   exact fin y h8 b90 K8
theorem agQ :DM noP 0:=⟨by simp,fun n hn=>by simp at hn,fun n hn=>by simp at hn,by simp,by simp,by simp,by simp⟩
theorem aiU {i:Nat} (h:i<4): ∃s:ByteArray,([.string ⟨#[120]⟩, .string ⟨#[121]⟩, .string ⟨#[122]⟩, .string ⟨#[109,101,109]⟩]:List Value)[i]?=some (.string s)/\s.size<=100:=by
 rcases i with _|_|_|_|i
 ·exact⟨_,rfl,by decide⟩
 ·exact⟨_,rfl,by decide⟩
 ·exact⟨_,rfl,by decide⟩
 ·exact⟨_,rfl,by decide⟩
 ·omega
theorem ai0 {i:Nat} (h:i<2): ∃s:ByteArray,([.string ⟨#[103,111]⟩, .string ⟨#[105,110]⟩]:List Value)[i]?=some (.string s)/\s.size<=100:=by
 rcases i with _|_|i
 ·exact⟨_,rfl,by decide⟩
 ·exact⟨_,rfl,by decide⟩
 ·omega
theorem Bs {a b:Int} (h1:0<=a) (h2:a<=2) (h3:1<=b) (h4:b<=16):bW ⟨a,b⟩=true:=decide_eq_true ⟨⟨h1,h2⟩,h3,h4⟩
set_option maxHeartbeats 2000000 in
theorem Qn {g h:Hp} {A:List (Nat×Blk)} {B p:Nat} {s:Sl} {bs:List Nat} {big:Bool} {R:Value->Hp->Prop} (K:Kn g h ((B,rdC s p)::A)) (hb:ByteS g s bs) (hp:p<=800000)
  (k: ∀h' p' X' M' m',Kn g h' ((B,rdC s p')::(A++X'))->MG X' M' m'->DM m' 12->0<m'.nodes.length->p'<=p+60->R (aQ M') h'):
  oZ #[.pointer (some ⟨B,0,none⟩),aQ noM, .bool big] h R:=by
 apply Cx
 refine uf_ ?_
 refine Kn.al K fun b9 h1 K1 l1 hb9=>?_
 refine Kn.al K1 fun b11 h2 K2 l2 hb11=>?_
 refine Kn.al K2 fun b14 h3 K3 l3 hb14=>?_
 clear K K1 K2 l1 l2 l3 hb9 hb11 hb14
 refine ap (fun J=> ∀x:Int,J x) (fun x20=>?_) (fun J hJ=>ad (fun _=>hJ _) (fun _=>hJ _))
 refine kp_ ?_
 intro x24 h4 K4 hx24 _
 refine⟨_,rfl,?_⟩
 replace hx24:x24<3:=by have:=hx24 (by omega);omega
 clear K3 h3 h2 h1 h
 rw [show W (1+(x24:Int))=((1+x24:Nat):Int) by rw [cd (by omega) (by omega)];omega]
 refine au (1+x24) (fun i vs h'=> ∃(bits:Int) (q:Nat) (X:List (Nat×Blk)) (M:MSl) (m:ah),vs= [.pointer (some ⟨B,0,none⟩), .pointer (some ⟨b9,0,none⟩), .pointer (some ⟨b11,0,none⟩),(arr b14 4).v,I bits,I (1+x24:Nat),I i]/\
  MG X M m/\DM m i/\q<=p+1+4*i/\Kn g h' ((b14, .inl ⟨[.string ⟨#[120]⟩, .string ⟨#[121]⟩, .string ⟨#[122]⟩, .string ⟨#[109,101,109]⟩],4,false⟩)::(b11, .inl ⟨eA,5,false⟩)::(b9, .inl ⟨aH M,5,false⟩)::(B,rdC s q)::(A++X)))
  ⟨x20,p+1, [],noM,noP,rfl,MG.nil,agQ,by omega,by rw [List.append_nil];exact K4⟩ ?_
 clear K4 h4
 rintro i _ h4 nxt hi ⟨bits,q,X,M,m,rfl,o,d,hq,K4⟩ hnx
 refine⟨_,b9,0,b11,0,arr b14 4,_,_,_,rfl,?_⟩
 have hl:=o.lens
 have hdn:=d.nodes
 by_cases hlt:i<1+x24
 ·refine aM (by rw [decide_eq_true_eq];omega) ?_
  have hi4:i<4:=by omega
  refine ap (fun J=> ∀(bits:Int) h5 q X M m,MG X M m->DM m (i+1)->q<=p+1+4*(i+1)->Kn g h5 ((b14, .inl ⟨[.string ⟨#[120]⟩, .string ⟨#[121]⟩, .string ⟨#[122]⟩, .string ⟨#[109,101,109]⟩],4,false⟩)::(b11, .inl ⟨eA,5,false⟩)::(b9, .inl ⟨aH M,5,false⟩)::(B,rdC s q)::(A++X))->J bits h5)
   (fun bits h5 q X M m o d hq K5=>?_) (fun J hJ=>?_)
  ·rw [ay (by omega)]
   exact hnx hlt _ _ ⟨bits,q,X,M,m,rfl,o,d,hq,K5⟩
  ·refine kp_ ?_
   intro x45 h5 K5 hx45 _
   refine⟨_,rfl,?_⟩
   replace hx45:x45<4:=by have:=hx45 (by omega);omega
   refine Kn.al K5 fun b46 h6 K6 l6 hb46=>?_
   clear K5 K4
   refine kw_ ?_
   intro h7 K7 _
   clear K6 l6 hb46
   refine kp_ ?_
   intro x54 h8 K8 _ _
   refine⟨_,rfl,?_⟩
   clear K7
   refine ap (fun J=> ∀(a w:Int) h9 q',0<=a->a<=2->1<=w->w<=16->q'<=q+4->Kn g h9 ((b46, .inl ⟨[I a,I w],2,false⟩)::(b14, .inl ⟨[.string ⟨#[120]⟩, .string ⟨#[121]⟩, .string ⟨#[122]⟩, .string ⟨#[109,101,109]⟩],4,false⟩)::(b11, .inl ⟨eA,5,false⟩)::(b9, .inl ⟨aH M,5,false⟩)::(B,rdC s q')::(A++X))->J h9)
    (fun a w h9 q' a1 a2 w1 w2 hq' K9=>?_) (fun J hJ=>?_)
   ·repeat' (refine kr_ ?_)
    refine jM ⟨_,rfl,?_⟩
    refine ad (fun e=>?_) (fun e=>hJ _ _ q' X M m o (d.more (by omega)) (by omega) K9.tl)
    repeat' (refine kr_ ?_)
    refine jM ⟨_,rfl,?_⟩
    refine⟨b14,0,rfl,by omega,by dsimp only;omega,?_⟩
    repeat' (refine kr_ ?_)
    obtain⟨nm,hnm,hsz⟩:=aiU hi4
    refine⟨nm,by rw [ax (K9.at (.tail _ (.head _))),Int.toNat_natCast,Nat.zero_add,Nat.mul_one];exact hnm,?_⟩
    refine Kn.al K9 fun b86 h10 K10 l10 hb86=>?_
    repeat' (refine kr_ ?_)
    refine nr (H:=_::_::_::_::_::A) (nd:=⟨36,0,0,0,0,0,⟨a,w⟩,nm⟩) o K10 (by omega) (.tail _ (.tail _ (.tail _ (.head _)))) fun s' X9 h11 o9 KF=>?_
    have K11:=KF _ (by((focus ((repeat first|exact .head|apply Upd.tail);done))))
    simp only [List.cons_append]at K11
    exact hJ _ h11 q' X9 _ _ o9 (d.addN (Bs a1 a2 w1 w2) hsz) (by omega) K11.tl
   ·refine ad (fun e=>?_) (fun e=>?_)
    ·refine kp_ ?_
     intro x59 h9 K9 hx59 _
     refine⟨_,rfl,?_⟩
     refine kp_ ?_
     intro x62 h10 K10 hx62 _
     refine⟨_,rfl,?_⟩
     replace hx59:x59<2:=by have:=hx59 (by omega);omega
     replace hx62:x62<2:=by have:=hx62 (by omega);omega
     clear K9 K8
     refine kw_ ?_
     intro h11 K11 _
     refine hJ (W (1+(x59:Int))) (W (1+(x62:Int))) h11 _ ?_ ?_ ?_ ?_ ?_ K11
     ·rw [cd (by omega) (by omega)];omega
     ·rw [cd (by omega) (by omega)];omega
     ·rw [cd (by omega) (by omega)];omega
     ·rw [cd (by omega) (by omega)];omega
     ·omega
    ·refine hJ 0 (W (1+(x45:Int))) h8 _ (by omega) (by omega) ?_ ?_ ?_ K8
     ·rw [cd (by omega) (by omega)];omega
     ·rw [cd (by omega) (by omega)];omega
     ·omega
 refine aC (by rw [decide_eq_false_iff_not];omega) ?_
 clear hnx
 (refine kr_ ?_)
 refine ap (fun J=> ∀h5 X M m,MG X M m->DM m 4->0<m.nodes.length->Kn g h5 ((b14, .inl ⟨[.string ⟨#[120]⟩, .string ⟨#[121]⟩, .string ⟨#[122]⟩, .string ⟨#[109,101,109]⟩],4,false⟩)::(b11, .inl ⟨eA,5,false⟩)::(b9, .inl ⟨aH M,5,false⟩)::(B,rdC s q)::(A++X))->J h5)
  (fun h5 X1 M1 m1 o1 d1 hpos K5=>?_) (fun J hJ=>?_)
 rotate_left
 ·refine ad (fun e=>?_) (fun e=>?_)
  ·(refine kr_ ?_)
   refine cm ⟨_,_,rfl,?_⟩
   repeat' (refine kr_ ?_)
   refine Kn.al K4 fun b109 h5 K5 l5 hb109=>?_
   repeat' (refine kr_ ?_)
   refine nr (H:=_::_::_::_::A) (nd:=⟨36,0,0,0,0,0,⟨0,2⟩,⟨#[120]⟩⟩) o K5 (by omega) (.tail _ (.tail _ (.head _))) fun s' X9 h11 o9 KF=>?_
   have K11:=KF _ (by((focus ((repeat first|exact .head|apply Upd.tail);done))))
   simp only [List.cons_append]at K11
   have hl9:=o9.lens
   exact hJ h11 X9 _ _ o9 ((d.addN (n:=⟨36,0,0,0,0,0,⟨0,2⟩,⟨#[120]⟩⟩) rfl (show (1:Nat)<=100 by omega)).more (by omega)) (by simp) K11
  ·have:m.nodes.length≠0:=fun q=>by rw [show M.no.n=0 by omega]at e;simp at e
   exact hJ h4 X M m o (d.more (by omega)) (by omega) K4
 clear K4 hdn hl d o h4
 refine kp_ ?_
 intro x122 h6 K6 hx122 _
 refine⟨_,rfl,?_⟩
 replace hx122:x122<3:=by have:=hx122 (by omega);omega
 refine au x122 (fun i vs h'=> ∃(q:Nat) (X:List (Nat×Blk)) (M:MSl) (m:ah),vs= [.pointer (some ⟨B,0,none⟩), .pointer (some ⟨b9,0,none⟩), .pointer (some ⟨b11,0,none⟩),I x122,I i]/\
  MG X M m/\DM m (4+i)/\0<m.nodes.length/\q<=p+20+i/\Kn g h' ((b14, .inl ⟨[.string ⟨#[120]⟩, .string ⟨#[121]⟩, .string ⟨#[122]⟩, .string ⟨#[109,101,109]⟩],4,false⟩)::(b11, .inl ⟨eA,5,false⟩)::(b9, .inl ⟨aH M,5,false⟩)::(B,rdC s q)::(A++X)))
  ⟨q+1,X1,M1,m1,rfl,o1,d1,hpos,by omega,K6⟩ ?_
 clear K6 K5 hpos d1 o1 hq q m1 M1 X1 h5 h6 m M X
 rintro j _ h4 nxt hj ⟨q,X,M,m,rfl,o,d,hpos,hq,K4⟩ hnx
 refine⟨_,b9,0,b11,0,_,_,rfl,?_⟩
 have hl:=o.lens
 have hdn:=d.nodes
 by_cases hlt:j<x122
 ·refine aM (by rw [decide_eq_true_eq];omega) ?_
  have hj2:j<2:=by omega
  refine ap (fun J=> ∀h5 q X M m,MG X M m->DM m (4+j+1)->0<m.nodes.length->q<=p+20+(j+1)->Kn g h5 ((b14, .inl ⟨[.string ⟨#[120]⟩, .string ⟨#[121]⟩, .string ⟨#[122]⟩, .string ⟨#[109,101,109]⟩],4,false⟩)::(b11, .inl ⟨eA,5,false⟩)::(b9, .inl ⟨aH M,5,false⟩)::(B,rdC s q)::(A++X))->J h5)
   (fun h5 q X M m o d hpos hq K5=>?_) (fun J hJ=>?_)
  ·rw [ay (by omega)]
   exact hnx hlt _ _ ⟨q,X,M,m,rfl,o,d,hpos,hq,K5⟩
  obtain⟨nm,hnm,hsz⟩:=ai0 hj2
  have fin: ∀(x bn bg:Nat) (h8:Hp),x<2->Kn g h8 ((bn, .inl ⟨[I 35,I 0,I 0,I 0,I 0,I 0,I 0,I (W (1+(x:Int))), .string nm],9,false⟩)::(bg, .inl ⟨[.string ⟨#[103,111]⟩, .string ⟨#[105,110]⟩],2,false⟩)::(b14, .inl ⟨[.string ⟨#[120]⟩, .string ⟨#[121]⟩, .string ⟨#[122]⟩, .string ⟨#[109,101,109]⟩],4,false⟩)::
    (b11, .inl ⟨eA,5,false⟩)::(b9, .inl ⟨aH M,5,false⟩)::(B,rdC s (q+1))::(A++X))->
    cy h8 M.no.a M.no.n M.no.c (some (Addr.mk bn 0 none)) 1 9 80 fun a92 n93 k94 h95=> ∃(cs96:List Value) (z97:Nat),h95 b9=some (.inl ⟨cs96,z97,false⟩)/\0+1<=List.length cs96/\cM (h95.row b9 (bX cs96 0 [(.slice a92 n93 k94)]) z97) fun h148=>J h148:=by
   intro x bn bg h8 hx K8
   refine nr (H:=_::_::_::_::_::A) (nd:=⟨35,0,0,0,0,0,⟨0,W (1+(x:Int))⟩,nm⟩) o K8 (by omega) (.tail _ (.tail _ (.tail _ (.head _)))) fun s' X9 h9 o9 KF=>?_
   have K9:=KF _ (by((focus ((repeat first|exact .head|apply Upd.tail);done))))
   simp only [List.cons_append]at K9
   exact hJ h9 (q+1) X9 _ _ o9 (d.addN (Bs (by omega) (by omega) (by rw [cd (by omega) (by omega)];omega) (by rw [cd (by omega) (by omega)];omega)) hsz) (by simp) (by omega) K9.tl
  have rd: ∀{h':Hp} {L:List (Nat×Blk)} {bg:Nat} {Q:ByteArray->Prop},Kn g h' ((bg, .inl ⟨[.string ⟨#[103,111]⟩, .string ⟨#[105,110]⟩],2,false⟩)::L)->Q nm-> ∃y:ByteArray,Hp.cell h' bg (0+Int.toNat (j:Int)*1)=some (.string y)/\Q y:=fun K' q=>⟨nm,by rw [ax (K'.at (.head _)),Int.toNat_natCast,Nat.zero_add,Nat.mul_one];exact hnm,q⟩
  (refine kr_ ?_)
  refine⟨?_,?_⟩
  ·refine kp_ ?_
   intro x h5 K5 hx _
   refine⟨_,rfl,?_⟩
   replace hx:x<2:=by have:=hx (by omega);omega
   repeat' (refine kr_ ?_)
   refine⟨?_,?_⟩
   ·refine cm ⟨_,_,rfl,?_⟩
    repeat' (refine kr_ ?_)
    refine Kn.al K5 fun bg h6 K6 l6 hbg=>?_
    repeat' (refine kr_ ?_)
    refine⟨by omega,by omega,?_⟩
    refine rd K6 ?_
    refine Kn.al K6 fun bn h7 K7 l7 hbn=>?_
    repeat' (refine kr_ ?_)
    exact fin x bn bg h7 hx K7
   ·refine Kn.al K5 fun bg h6 K6 l6 hbg=>?_
    repeat' (refine kr_ ?_)
    refine⟨by omega,by omega,?_⟩
    refine rd K6 ?_
    refine cm ⟨_,_,rfl,?_⟩
    repeat' (refine kr_ ?_)
    refine Kn.al K6 fun bn h7 K7 l7 hbn=>?_
    repeat' (refine kr_ ?_)
    exact fin x bn bg h7 hx K7
  ·refine Kn.al K4 fun bg h5 K5 l5 hbg=>?_
   repeat' (refine kr_ ?_)
   refine⟨by omega,by omega,?_⟩
   refine rd K5 ?_
   refine kp_ ?_
   intro x h6 K6 hx _
   refine⟨_,rfl,?_⟩
   replace hx:x<2:=by have:=hx (by omega);omega
   repeat' (refine kr_ ?_)
   refine cm ⟨_,_,rfl,?_⟩
   repeat' (refine kr_ ?_)
   refine Kn.al K6 fun bn h7 K7 l7 hbn=>?_
   repeat' (refine kr_ ?_)
   exact fin x bn bg h7 hx K7
 refine aC (by rw [decide_eq_false_iff_not];omega) ?_
 clear hnx
 refine kp_ ?_
 intro x205 h6 K6 hx205 _
 refine⟨_,rfl,?_⟩
 replace hx205:x205<3:=by have:=hx205 (by omega);omega
 rw [show W (1+(x205:Int))=((1+x205:Nat):Int) by rw [cd (by omega) (by omega)];omega]
 refine au (1+x205) (fun i vs h'=> ∃(q:Nat) (X:List (Nat×Blk)) (M:MSl) (m:ah),vs= [.pointer (some ⟨B,0,none⟩), .pointer (some ⟨b9,0,none⟩), .pointer (some ⟨b11,0,none⟩),I (1+x205:Nat),I i]/\
  MG X M m/\DM m (6+i)/\0<m.nodes.length/\q<=p+30+2*i/\Kn g h' ((b14, .inl ⟨[.string ⟨#[120]⟩, .string ⟨#[121]⟩, .string ⟨#[122]⟩, .string ⟨#[109,101,109]⟩],4,false⟩)::(b11, .inl ⟨eA,5,false⟩)::(b9, .inl ⟨aH M,5,false⟩)::(B,rdC s q)::(A++X)))
  ⟨q+1,X,M,m,rfl,o,d.more (by omega),hpos,by omega,K6⟩ ?_
 clear K6 K4 hpos d o hl hdn hq q m M X h4 h6
 rintro i _ h4 nxt hi ⟨q,X,M,m,rfl,o,d,hpos,hq,K4⟩ hnx
 refine⟨_,b9,0,b11,0,_,_,rfl,?_⟩
 have hl:=o.lens
 have hdn:=d.nodes
 by_cases hlt:i<1+x205
 rotate_left
 ·refine aC (by rw [decide_eq_false_iff_not];omega) ?_
  repeat' (refine kr_ ?_)
  refine G0 K4 (by((focus ((repeat first|exact .head|apply Upd.tail);done)))) fun h6 K6=>?_
  exact k h6 q X M m K6.tl.tl.tl o (d.more (by omega)) hpos (by omega)
 refine aM (by rw [decide_eq_true_eq];omega) ?_
 refine ap (fun J=> ∀h5 q X M m,MG X M m->DM m (6+i+1)->0<m.nodes.length->q<=p+30+2*(i+1)->Kn g h5 ((b14, .inl ⟨[.string ⟨#[120]⟩, .string ⟨#[121]⟩, .string ⟨#[122]⟩, .string ⟨#[109,101,109]⟩],4,false⟩)::(b11, .inl ⟨eA,5,false⟩)::(b9, .inl ⟨aH M,5,false⟩)::(B,rdC s q)::(A++X))->J h5)
  (fun h5 q X M m o d hpos hq K5=>?_) (fun J hJ=>?_)
 ·rw [ay (by omega)]
  exact hnx hlt _ _ ⟨q,X,M,m,rfl,o,d,hpos,hq,K5⟩
 refine kp_ ?_
 intro w h5 K5 hw _
 refine⟨_,rfl,?_⟩
 replace hw:w<4:=by have:=hw (by omega);omega
 have hp2:0<2^(1+w):=Nat.two_pow_pos _
 rw [show W (1+(w:Int))=((1+w:Nat):Int) by rw [cd (by omega) (by omega)];omega]
 have fin: ∀(y bn:Nat) (h8:Hp),Kn g h8 ((bn, .inl ⟨[I 34,I 0,I 0,I 0,I (Int.tmod y (2^(1+w):Nat)),I 0,I 0,I (1+w:Nat), .string ⟨#[]⟩],9,false⟩)::(b14, .inl ⟨[.string ⟨#[120]⟩, .string ⟨#[121]⟩, .string ⟨#[122]⟩, .string ⟨#[109,101,109]⟩],4,false⟩)::
   (b11, .inl ⟨eA,5,false⟩)::(b9, .inl ⟨aH M,5,false⟩)::(B,rdC s (q+1+1))::(A++X))->
   cy h8 M.no.a M.no.n M.no.c (some (Addr.mk bn 0 none)) 1 9 80 fun a92 n93 k94 h95=> ∃(cs96:List Value) (z97:Nat),h95 b9=some (.inl ⟨cs96,z97,false⟩)/\0+1<=List.length cs96/\cM (h95.row b9 (bX cs96 0 [(.slice a92 n93 k94)]) z97) fun h148=>J h148:=by
  intro y bn h8 K8
  refine nr (H:=_::_::_::_::A) (nd:=⟨34,0,0,0,Int.tmod y (2^(1+w):Nat),0,⟨0,(1+w:Nat)⟩,⟨#[]⟩⟩) o K8 (by omega) (.tail _ (.tail _ (.head _))) fun s' X9 h9 o9 KF=>?_
  have K9:=KF _ (by((focus ((repeat first|exact .head|apply Upd.tail);done))))
  simp only [List.cons_append]at K9
  exact hJ h9 _ X9 _ _ o9 (d.addN (Bs (by omega) (by omega) (by omega) (by omega)) (show (0:Nat)<=100 by omega)) (by simp) (by omega) K9
 (refine kr_ ?_)
 refine⟨?_,?_⟩
 ·refine kp_ ?_
  intro y h6 K6 hy _
  refine⟨_,rfl,?_⟩
  repeat' (refine kr_ ?_)
  refine⟨?_,?_⟩
  ·repeat' (refine kr_ ?_)
   rw [cY (by omega),if_neg (by omega),cw (by omega),if_neg (by omega)]
   refine cm ⟨_,_,rfl,?_⟩
   repeat' (refine kr_ ?_)
   refine Kn.al K6 fun bn h7 K7 l7 hbn=>?_
   repeat' (refine kr_ ?_)
   exact fin y bn h7 K7
  ·refine cm ⟨_,_,rfl,?_⟩
   repeat' (refine kr_ ?_)
   rw [cY (by omega),if_neg (by omega),cw (by omega),if_neg (by omega)]
   refine Kn.al K6 fun bn h7 K7 l7 hbn=>?_
   repeat' (refine kr_ ?_)
   exact fin y bn h7 K7
 ·repeat' (refine kr_ ?_)
  rw [cY (by omega),if_neg (by omega),cw (by omega)]
  refine kp_ ?_
  intro y h6 K6 hy _
  refine⟨_,rfl,?_⟩
  repeat' (refine kr_ ?_)
  rw [if_neg (by omega)]
  refine cm ⟨_,_,rfl,?_⟩
  repeat' (refine kr_ ?_)
  refine Kn.al K6 fun bn h7 K7 l7 hbn=>?_
  repeat' (refine kr_ ?_)
  exact fin y bn h7 K7
theorem wC {c:Prop} [Decidable c] {x t:SortP} (h:(if c then some x else none)=some t):c/\x=t:=by
 by_cases e:c
 ·rw [if_pos e]at h;exact⟨e,Option.some.inj h⟩
 ·rw [if_neg e]at h;cases h
theorem QC {n:NodeP} {a b c t:SortP} (ha:bW a=true) (hb:2<=ai n.kind->bW b=true) (h:di n a b c=some t):bW t=true:=by
 obtain⟨⟨a1,a2⟩,a3,a4⟩:=nH ha
 unfold di at h
 by_cases e33:n.kind=33
 ·rw [if_pos e33]at h
  obtain⟨_,rfl⟩:=wC h
  exact hb (by rw [e33];decide)
 rw [if_neg e33]at h
 by_cases e37:n.kind=37
 ·rw [if_pos e37]at h
  obtain⟨_,rfl⟩:=wC h
  exact qM a3 a4
 rw [if_neg e37]at h
 by_cases e38:n.kind=38
 ·rw [if_pos e38]at h
  obtain⟨_,rfl⟩:=wC h
  exact ha
 rw [if_neg e38]at h
 by_cases e21:n.kind=21
 ·rw [if_pos e21]at h
  obtain⟨_,rfl⟩:=wC h
  exact qM (by omega) (by omega)
 rw [if_neg e21]at h
 by_cases ei:0<a.idx\/(ai n.kind=2/\0<b.idx)
 ·rw [if_pos ei]at h;cases h
 rw [if_neg ei]at h
 by_cases e29:n.kind=29
 ·rw [if_pos e29]at h
  obtain⟨e,rfl⟩:=wC h
  have:=nH (hb (by rw [e29];decide))
  exact qM (by omega) (by omega)
 rw [if_neg e29]at h
 by_cases e30:n.kind=30
 ·rw [if_pos e30]at h
  obtain⟨e,rfl⟩:=wC h
  exact qM (by omega) (by omega)
 rw [if_neg e30]at h
 by_cases e31:n.kind=31\/n.kind=32
 ·rw [if_pos e31]at h
  obtain⟨e,rfl⟩:=wC h
  exact qM (by omega) (by omega)
 rw [if_neg e31]at h
 have hw: ∀q:Prop, [Decidable q]->bW (cR (if q then a.wid else 1))=true:=fun q _=>by
  by_cases e:q
  ·rw [if_pos e];exact qM a3 a4
  ·rw [if_neg e];exact qM (by omega) (by omega)
 by_cases e5:n.kind<=5
 ·rw [if_pos e5]at h
  obtain rfl:=Option.some.inj h
  exact hw _
 rw [if_neg e5]at h
 obtain⟨_,rfl⟩:=wC h
 exact hw _
theorem NY {l:List NodeP} {n:NodeP} {t:SortP} (hk:ai n.kind≠0) (h:dc l n=some t):bW t=true:=by
 unfold dc at h
 by_cases e:l.length<=60/\fR l.length n=true
 ·rw [if_pos e,if_neg hk]at h
  by_cases e2:(bW (ar l n.a)&&((decide (ai n.kind<2)||bW (ar l n.b))&&(decide (ai n.kind<3)||bW (ar l n.c))))=true
  ·rw [if_pos e2]at h
   simp only [Bool.and_eq_true,Bool.or_eq_true,decide_eq_true_eq]at e2
   exact QC e2.1 (fun h2=>e2.2.1.resolve_left (by omega)) h
  ·rw [if_neg e2]at h;cases h
 ·rw [if_neg e]at h;cases h
set_option maxHeartbeats 2000000 in
theorem UA {g h:Hp} {A X:List (Nat×Blk)} {B p N:Nat} {s:Sl} {bs:List Nat} {M:MSl} {m:ah} {R:Value->Hp->Prop} (K:Kn g h ((B,rdC s p)::(A++X))) (hb:ByteS g s bs) (o:MG X M m) (d:DM m N) (hN:N<=1000)
  (hne:0<m.nodes.length) (hp:p<=800000)
  (k: ∀h' p' X' M' m',Kn g h' ((B,rdC s p')::(A++X'))->MG X' M' m'->DM m' (N+3)->0<m'.nodes.length->p'<=p+20->R (aQ M') h'):
  qI #[.pointer (some ⟨B,0,none⟩),aQ M] h R:=by
 apply Ff
 refine uf_ ?_
 have hl:=o.lens
 have hsm:=d.small (by omega)
 have hdn:=d.nodes
 refine Kn.al K fun b8 h1 K1 l1 hb8=>?_
 refine Kn.al K1 fun b10 h2 K2 l2 hb10=>?_
 clear K K1 l1 l2 hb8 hb10
 refine kp_ ?_
 intro x15 h3 K3 hx15 _
 refine⟨_,rfl,?_⟩
 replace hx15:x15<33:=by have:=hx15 (by omega);omega
 refine Kn.al K3 fun b16 h4 K4 l4 hb16=>?_
 refine kw_ ?_
 intro h5 K5 kpz
 clear kpz
 rw [show W (1+(x15:Int))=((1+x15:Nat):Int) by rw [cd (by omega) (by omega)];omega]at K5
 have K5':Kn g h5 ((b16, .inl ⟨nodeCells ⟨(1+x15:Nat),0,0,0,0,0,⟨0,0⟩,⟨#[]⟩⟩,9,false⟩)::(b10, .inl ⟨eA,5,false⟩)::(b8, .inl ⟨aH M,5,false⟩)::(B,rdC s (p+1))::(A++X)):=K5
 clear K5 K4 K3 K2 l4 hb16 h4 h3 h2 h1 h
 refine kp_ ?_
 intro x24 h6 K6 _ _
 refine⟨_,rfl,?_⟩
 clear K5' h5
 have hk0:ai ((1+x15:Nat):Int)≠0:=by
  unfold ai
  have h1: ¬(34<=((1+x15:Nat):Int)/\((1+x15:Nat):Int)<=36):=by omega
  rw [if_neg h1]
  split
  ·decide
  ·split
   ·decide
   ·split<;>decide
 refine ap (fun J=> ∀(kd:Int) h5 q,ai kd≠0->q<=p+3->Kn g h5 ((b16, .inl ⟨nodeCells ⟨kd,0,0,0,0,0,⟨0,0⟩,⟨#[]⟩⟩,9,false⟩)::(b10, .inl ⟨eA,5,false⟩)::(b8, .inl ⟨aH M,5,false⟩)::(B,rdC s q)::(A++X))->J h5) (fun kd h5 q hkd hq K5=>?_) (fun J hJ=>?_)
 rotate_left
 ·refine ad (fun e=>?_) (fun e=>hJ _ h6 _ hk0 (by omega) K6)
  refine Kn.al K6 fun b27 h7 K7 l7 hb27=>?_
  refine kp_ ?_
  intro x31 h8 K8 hx31 _
  refine⟨_,rfl,?_⟩
  replace hx31:x31<2:=by have:=hx31 (by omega);omega
  clear K7 K6
  refine⟨b27,0,rfl,by omega,by omega,?_⟩
  obtain⟨kd,hkd,hk1⟩: ∃kd:Int,([I 37,I 38]:List Value)[x31]?=some (I kd)/\ai kd≠0:=by
   rcases x31 with _|_|i
   ·exact⟨37,rfl,by decide⟩
   ·exact⟨38,rfl,by decide⟩
   ·omega
  refine⟨kd,by rw [ax (K8.at (.head _)),Int.toNat_natCast,Nat.zero_add,Nat.mul_one];exact hkd,?_⟩
  refine kw_ ?_
  intro h9 K9 kpz
  clear kpz
  exact hJ kd h9 _ hk1 (by omega) K9.tl
 clear K6 hk0 hx15 h6
 (refine kr_ ?_)
 refine kp_ ?_
 intro a h6 K6 ha _
 refine⟨_,rfl,?_⟩
 replace ha:a<m.nodes.length:=by have:=ha (by omega);omega
 clear K5
 refine kw_ ?_
 intro h7 K7 kpz
 clear kpz
 have K7':Kn g h7 ((b16, .inl ⟨nodeCells ⟨kd,a,0,0,0,0,⟨0,0⟩,⟨#[]⟩⟩,9,false⟩)::(b10, .inl ⟨eA,5,false⟩)::(b8, .inl ⟨aH M,5,false⟩)::(B,rdC s (q+1))::(A++X)):=K7
 clear K7 K6 h5 h6
 repeat' (refine kr_ ?_)
 obtain⟨na,hna⟩: ∃n,m.nodes[a]?=some n:=⟨_,List.getElem?_eq_getElem ha⟩
 have hs:=o.modelS (A:=_::_::_::_::A) hsm K7'
 obtain⟨b,oo,ha',e0,e1,e2,e3,e4,e5,e6,e7,e8⟩:=hs.nodes.at hna
 refine⟨b,oo,ha',(by first|omega|(dsimp only;omega)),(by first|omega|(dsimp only;omega)),_,by rw [Int.toNat_natCast];exact e6,_,by rw [Int.toNat_natCast];exact e7,?_⟩
 clear e0 e1 e2 e3 e4 e5 e6 e7 e8 ha' hs
 refine Kn.al K7' fun b54 h8 K8 l8 hb54=>?_
 refine kw_ ?_
 intro h9 K9 kpz
 clear kpz
 have K9':Kn g h9 ((b54, .inl ⟨[I na.sort.idx,I na.sort.wid],2,false⟩)::(b16, .inl ⟨nodeCells ⟨kd,a,0,0,0,0,⟨0,0⟩,⟨#[]⟩⟩,9,false⟩)::(b10, .inl ⟨eA,5,false⟩)::(b8, .inl ⟨aH M,5,false⟩)::(B,rdC s (q+1))::(A++X)):=K9
 clear K9 K8 K7' l8 hb54 h8 h7
 have hst:=uV d hna
 obtain⟨⟨w1,w2⟩,w3,w4⟩:=nH hst
 refine ap (fun J=> ∀h5 q' X' M' m' (nd:NodeP) (z:Blk),nd.kind=kd->nd.name.size=0->MG X' M' m'->DM m' (N+2)->0<m'.nodes.length->q'<=q+10->Kn g h5 ((b54,z)::(b16, .inl ⟨nodeCells nd,9,false⟩)::(b10, .inl ⟨eA,5,false⟩)::(b8, .inl ⟨aH M',5,false⟩)::(B,rdC s q')::(A++X'))->J b8 0 b10 0 b16 0 h5)
  (fun h5 q' X' M' m' nd z hkd2 hnm o' d' hpos hq' K5=>?_) (fun J hJ=>?_)
 ·clear K9'
  have hl':=o'.lens
  have hdn':=d'.nodes
  have hsm':=d'.small (by omega)
  have hs:=o'.modelS (A:=_::_::_::_::_::A) hsm' K5
  repeat' (refine kr_ ?_)
  refine pQ (n:=nd) hs.nodes (by omega) ?_
  cases hns:dc m'.nodes nd with
  |none=>
   refine⟨_,_,_,rfl,?_⟩
   refine Kn.al K5 fun b327 h6 K6 l6 hb327=>?_
   clear K5
   refine kw_ ?_
   intro h7 K7 kpz
   clear kpz
   clear K6
   rw [jD]
   refine aM rfl (aM rfl ?_)
   repeat' (refine kr_ ?_)
   refine G0 K7 (by((focus ((repeat first|exact .head|apply Upd.tail);done)))) fun h8 K8=>?_
   exact k h8 q' X' M' m' K8.tl.tl.tl.tl.tl o' (d'.more (by omega)) hpos (by omega)
  |some t=>
   refine⟨_,_,_,rfl,?_⟩
   have htok:=NY (by rw [hkd2];exact hkd) hns
   refine Kn.al K5 fun b327 h6 K6 l6 hb327=>?_
   clear K5
   refine kw_ ?_
   intro h7 K7 kpz
   clear kpz
   have K7':Kn g h7 ((b327, .inl ⟨[I t.idx,I t.wid],2,false⟩)::(b54,z)::(b16, .inl ⟨nodeCells nd,9,false⟩)::(b10, .inl ⟨eA,5,false⟩)::(b8, .inl ⟨aH M',5,false⟩)::(B,rdC s q')::(A++X')):=K7
   clear K6 K7
   refine ap (fun J=> ∀c,J c) (fun c=>?_) (fun J hJ=>?_)
   rotate_left
   ·refine aC rfl ?_
    (refine kr_ ?_)
    refine ad (fun _=>hJ _) (fun _=>?_)
    (refine kr_ ?_)
    exact hJ _
   cases c with
   |true=>
    refine aM rfl ?_
    repeat' (refine kr_ ?_)
    refine G0 K7' (by((focus ((repeat first|exact .head|apply Upd.tail);done)))) fun h8 K8=>?_
    exact k h8 q' X' M' m' K8.tl.tl.tl.tl.tl o' (d'.more (by omega)) hpos (by omega)
   |false=>
    refine aC rfl ?_
    repeat' (refine kr_ ?_)
    refine kw_ ?_
    intro h8 K8 kpz
    clear kpz
    have K8':Kn g h8 ((b327, .inl ⟨[I t.idx,I t.wid],2,false⟩)::(b54,z)::(b16, .inl ⟨nodeCells {nd with sort:=t},9,false⟩)::(b10, .inl ⟨eA,5,false⟩)::(b8, .inl ⟨aH M',5,false⟩)::(B,rdC s q')::(A++X')):=K8
    clear K8 K7'
    repeat' (refine kr_ ?_)
    refine Kn.al K8' fun b368 h9 K9 l9 hb368=>?_
    refine nr (H:=_::_::_::_::_::_::A) (nd:={nd with sort:=t}) o' K9 (by omega) (.tail _ (.tail _ (.tail _ (.tail _ (.head _))))) fun s' X9 h10 o9 KF=>?_
    have K10:=KF _ (by((focus ((repeat first|exact .head|apply Upd.tail);done))))
    simp only [List.cons_append]at K10
    clear KF K9 K8'
    repeat' (refine kr_ ?_)
    refine G0 (M:={M' with no:=s'}) K10 (by((focus ((repeat first|exact .head|apply Upd.tail);done)))) fun h11 K11=>?_
    exact k h11 q' X9 _ _ K11.tl.tl.tl.tl.tl o9 ((d'.addN htok (by show nd.name.size<=100;omega)).more (by omega)) (by simp) (by omega)
 (refine kr_ ?_)
 refine ad (fun e=>?_) (fun e=>?_)
 ·repeat' (refine kr_ ?_)
  refine cm ⟨_,_,rfl,?_⟩
  repeat' (refine kr_ ?_)
  refine yu (p:=q+1) (A:=(b54, .inl ⟨[I na.sort.idx,I na.sort.wid],2,false⟩)::(b16, .inl ⟨nodeCells ⟨kd,a,0,0,0,0,⟨0,0⟩,⟨#[]⟩⟩,9,false⟩)::(b10, .inl ⟨eA,5,false⟩)::(b8, .inl ⟨aH M,5,false⟩)::A) (st:=⟨0,1⟩)
   (K9'.perm (CV _ _ _ _ _ _)) hb o d (by omega) hne (by omega) rfl fun h5 q5 X5 M5 m5 i5 K5 o5 d5 hi5 hl5 hq5=>⟨_,_,_,_,_,_,rfl,?_⟩
  replace K5:=K5.perm (CV _ _ _ _ _ _).symm
  clear K9'
  refine ww (M':=M5) K5 (by((focus ((repeat first|exact .head|apply Upd.tail);done)))) rfl fun h6 K6=>?_
  clear K5
  refine kw_ ?_
  intro h7 K7 kpz
  clear kpz
  have K7':Kn g h7 ((b54, .inl ⟨[I na.sort.idx,I na.sort.wid],2,false⟩)::(b16, .inl ⟨nodeCells ⟨kd,i5,0,0,0,0,⟨0,0⟩,⟨#[]⟩⟩,9,false⟩)::(b10, .inl ⟨eA,5,false⟩)::(b8, .inl ⟨aH M5,5,false⟩)::(B,rdC s q5)::(A++X5)):=K7
  clear K6 K7
  have hl5':=o5.lens
  have hdn5:=d5.nodes
  (refine kr_ ?_)
  refine kp_ ?_
  intro x90 h8 K8 hx90 _
  refine⟨_,rfl,?_⟩
  replace hx90:x90<m5.nodes.length:=by have:=hx90 (by omega);omega
  clear K7'
  refine kw_ ?_
  intro h9 K9 kpz
  clear kpz
  have K9':Kn g h9 ((b54, .inl ⟨[I na.sort.idx,I na.sort.wid],2,false⟩)::(b16, .inl ⟨nodeCells ⟨kd,i5,x90,0,0,0,⟨0,0⟩,⟨#[]⟩⟩,9,false⟩)::(b10, .inl ⟨eA,5,false⟩)::(b8, .inl ⟨aH M5,5,false⟩)::(B,rdC s (q5+1))::(A++X5)):=K9
  clear K8 K9
  repeat' (refine kr_ ?_)
  obtain⟨nb,hnb⟩: ∃n,m5.nodes[x90]?=some n:=⟨_,List.getElem?_eq_getElem hx90⟩
  have hs:=o5.modelS (A:=_::_::_::_::_::A) (d5.small (by omega)) K9'
  obtain⟨b,oo,ha',e0,e1,e2,e3,e4,e5,e6,e7,e8⟩:=hs.nodes.at hnb
  refine⟨b,oo,ha',(by first|omega|(dsimp only;omega)),(by first|omega|(dsimp only;omega)),_,by rw [Int.toNat_natCast];exact e6,_,by rw [Int.toNat_natCast];exact e7,?_⟩
  refine yu (p:=q5+1) (A:=(b54, .inl ⟨[I na.sort.idx,I na.sort.wid],2,false⟩)::(b16, .inl ⟨nodeCells ⟨kd,i5,x90,0,0,0,⟨0,0⟩,⟨#[]⟩⟩,9,false⟩)::(b10, .inl ⟨eA,5,false⟩)::(b8, .inl ⟨aH M5,5,false⟩)::A) (st:=nb.sort)
   (K9'.perm (CV _ _ _ _ _ _)) hb o5 d5 (by omega) (by omega) (by omega) (uV d5 hnb) fun h5 q6 X6 M6 m6 i6 K5 o6 d6 hi6 hl6 hq6=>⟨_,_,_,_,_,_,rfl,?_⟩
  replace K5:=K5.perm (CV _ _ _ _ _ _).symm
  clear K9' hs e0 e1 e2 e3 e4 e5 e6 e7 e8
  refine ww (M':=M6) K5 (by((focus ((repeat first|exact .head|apply Upd.tail);done)))) rfl fun h10 K10=>?_
  clear K5
  refine kw_ ?_
  intro h11 K11 kpz
  clear kpz
  exact hJ h11 q6 X6 M6 m6 ⟨kd,i5,x90,i6,0,0,⟨0,0⟩,⟨#[]⟩⟩ _ rfl rfl o6 d6 (by omega) (by omega) K11
 have hnl:=hdn
 refine ap (fun J=> ∀c,J c) (fun c=>?_) (fun J hJ=>?_)
 rotate_left
 ·(refine kr_ ?_)
  refine ad (fun _=>hJ _) (fun _=>?_)
  (refine kr_ ?_)
  exact hJ _
 refine ad (fun _=>?_) (fun _=>?_)
 ·--arrays
  refine au m.nodes.length (fun i vs h'=> ∃a:Nat,vs= [.pointer (some ⟨B,0,none⟩), .pointer (some ⟨b8,0,none⟩), .pointer (some ⟨b10,0,none⟩), .pointer (some ⟨b16,0,none⟩), .pointer (some ⟨b54,0,none⟩),I i]/\a<m.nodes.length/\
   Kn g h' ((b54, .inl ⟨[I na.sort.idx,I na.sort.wid],2,false⟩)::(b16, .inl ⟨nodeCells ⟨kd,a,0,0,0,0,⟨0,0⟩,⟨#[]⟩⟩,9,false⟩)::(b10, .inl ⟨eA,5,false⟩)::(b8, .inl ⟨aH M,5,false⟩)::(B,rdC s (q+1))::(A++X))) ⟨a,rfl,ha,K9'⟩ ?_
  rintro i _ h4 nxt hi ⟨a',rfl,ha',K4⟩ hnx
  refine⟨_,b8,0,b10,0,b16,0,b54,0,_,rfl,?_⟩
  have hs:=o.modelS (A:=_::_::_::_::_::A) hsm K4
  clear K9'
  (refine kr_ ?_)
  by_cases hlt:i<m.nodes.length
  ·refine aM (by rw [decide_eq_true_eq];omega) ?_
   refine ap (fun J=> ∀h5 (c:Nat),c<m.nodes.length->Kn g h5 ((b54, .inl ⟨[I na.sort.idx,I na.sort.wid],2,false⟩)::(b16, .inl ⟨nodeCells ⟨kd,c,0,0,0,0,⟨0,0⟩,⟨#[]⟩⟩,9,false⟩)::(b10, .inl ⟨eA,5,false⟩)::(b8, .inl ⟨aH M,5,false⟩)::(B,rdC s (q+1))::(A++X))->J h5) (fun h5 c hc K5=>?_) (fun J hJ=>?_)
   ·rw [ay (by omega)]
    exact hnx hlt _ _ ⟨c,rfl,hc,K5⟩
   ·(refine kr_ ?_)
    obtain⟨ni,hni⟩: ∃n,m.nodes[i]?=some n:=⟨_,List.getElem?_eq_getElem hlt⟩
    obtain⟨b,oo,ha2,e0,e1,e2,e3,e4,e5,e6,e7,e8⟩:=hs.nodes.at hni
    refine⟨b,oo,ha2,(by first|omega|(dsimp only;omega)),(by first|omega|(dsimp only;omega)),_,by rw [Int.toNat_natCast];exact e6,?_⟩
    clear e0 e1 e2 e3 e4 e5 e6 e7 e8
    refine ad (fun e=>?_) (fun e=>hJ h4 a' ha' K4)
    refine kw_ ?_
    intro h5 K5 kpz
    clear kpz
    exact hJ h5 i hlt K5
  refine aC (by rw [decide_eq_false_iff_not];omega) ?_
  clear hnx
  repeat' (refine kr_ ?_)
  obtain⟨nb,hnb⟩: ∃n,m.nodes[a']?=some n:=⟨_,List.getElem?_eq_getElem ha'⟩
  obtain⟨b,oo,ha2,e0,e1,e2,e3,e4,e5,e6,e7,e8⟩:=hs.nodes.at hnb
  refine⟨b,oo,ha2,(by first|omega|(dsimp only;omega)),(by first|omega|(dsimp only;omega)),_,by rw [Int.toNat_natCast];exact e6,_,by rw [Int.toNat_natCast];exact e7,?_⟩
  clear e0 e1 e2 e3 e4 e5 e6 e7 e8 hs
  obtain⟨⟨v1,v2⟩,v3,v4⟩:=nH (uV d hnb)
  refine kw_ ?_
  intro h5 K5 kpz
  clear kpz
  have K5':Kn g h5 ((b54, .inl ⟨[I nb.sort.idx,I nb.sort.wid],2,false⟩)::(b16, .inl ⟨nodeCells ⟨kd,a',0,0,0,0,⟨0,0⟩,⟨#[]⟩⟩,9,false⟩)::(b10, .inl ⟨eA,5,false⟩)::(b8, .inl ⟨aH M,5,false⟩)::(B,rdC s (q+1))::(A++X)):=K5
  clear K5 K4
  (refine kr_ ?_)
  refine ad (fun e=>?_) (fun e=>?_)
  ·repeat' (refine kr_ ?_)
   refine G0 K5' (by((focus ((repeat first|exact .head|apply Upd.tail);done)))) fun h8 K8=>?_
   exact k h8 (q+1) X M m K8.tl.tl.tl.tl o (d.more (by omega)) hne (by omega)
  have hi1:nb.sort.idx≠0:=fun q=>by rw [q]at e;simp at e
  repeat' (refine kr_ ?_)
  refine cm ⟨_,_,rfl,?_⟩
  repeat' (refine kr_ ?_)
  refine yu (p:=q+1) (A:=(b54, .inl ⟨[I nb.sort.idx,I nb.sort.wid],2,false⟩)::(b16, .inl ⟨nodeCells ⟨kd,a',0,0,0,0,⟨0,0⟩,⟨#[]⟩⟩,9,false⟩)::(b10, .inl ⟨eA,5,false⟩)::(b8, .inl ⟨aH M,5,false⟩)::A) (st:=⟨0,nb.sort.idx⟩)
   (K5'.perm (CV _ _ _ _ _ _)) hb o d (by omega) hne (by omega) (Bs (by omega) (by omega) (by omega) (by omega)) fun h6 q6 X6 M6 m6 i6 K6 o6 d6 hi6 hl6 hq6=>⟨_,_,_,_,_,_,rfl,?_⟩
  replace K6:=K6.perm (CV _ _ _ _ _ _).symm
  clear K5'
  refine ww (M':=M6) K6 (by((focus ((repeat first|exact .head|apply Upd.tail);done)))) rfl fun h7 K7=>?_
  clear K6
  refine kw_ ?_
  intro h8 K8 kpz
  clear kpz
  have K8':Kn g h8 ((b54, .inl ⟨[I nb.sort.idx,I nb.sort.wid],2,false⟩)::(b16, .inl ⟨nodeCells ⟨kd,a',i6,0,0,0,⟨0,0⟩,⟨#[]⟩⟩,9,false⟩)::(b10, .inl ⟨eA,5,false⟩)::(b8, .inl ⟨aH M6,5,false⟩)::(B,rdC s q6)::(A++X6)):=K8
  clear K8 K7
  (refine kr_ ?_)
  refine ad (fun e=>?_) (fun e=>?_)
  ·repeat' (refine kr_ ?_)
   refine cm ⟨_,_,rfl,?_⟩
   repeat' (refine kr_ ?_)
   refine yu (p:=q6) (A:=(b54, .inl ⟨[I nb.sort.idx,I nb.sort.wid],2,false⟩)::(b16, .inl ⟨nodeCells ⟨kd,a',i6,0,0,0,⟨0,0⟩,⟨#[]⟩⟩,9,false⟩)::(b10, .inl ⟨eA,5,false⟩)::(b8, .inl ⟨aH M6,5,false⟩)::A) (st:=⟨0,nb.sort.wid⟩)
    (K8'.perm (CV _ _ _ _ _ _)) hb o6 d6 (by omega) (by omega) (by omega) (Bs (by omega) (by omega) (by omega) (by omega)) fun h9 q9 X9 M9 m9 i9 K9 o9 d9 hi9 hl9 hq9=>⟨_,_,_,_,_,_,rfl,?_⟩
   replace K9:=K9.perm (CV _ _ _ _ _ _).symm
   clear K8'
   refine ww (M':=M9) K9 (by((focus ((repeat first|exact .head|apply Upd.tail);done)))) rfl fun h10 K10=>?_
   clear K9
   refine kw_ ?_
   intro h11 K11 kpz
   clear kpz
   exact hJ h11 q9 X9 M9 m9 ⟨kd,a',i6,i9,0,0,⟨0,0⟩,⟨#[]⟩⟩ _ rfl rfl o9 d9 (by omega) (by omega) K11
  ·exact hJ h8 q6 X6 M6 m6 ⟨kd,a',i6,0,0,0,⟨0,0⟩,⟨#[]⟩⟩ _ rfl rfl o6 (d6.more (by omega)) (by omega) (by omega) K8'
 (refine kr_ ?_)
 refine ad (fun _=>?_) (fun _=>?_)
 ·(refine kr_ ?_)
  refine kp_ ?_
  intro y h10 K10 _ _
  refine⟨_,rfl,?_⟩
  clear K9'
  refine kw_ ?_
  intro h11 K11 kpz
  clear kpz
  exact hJ h11 _ X M m ⟨kd,a,y,0,0,0,⟨0,0⟩,⟨#[]⟩⟩ _ rfl rfl o (d.more (by omega)) hne (by omega) K11
 (refine kr_ ?_)
 refine ad (fun _=>?_) (fun _=>?_)
 ·(refine kr_ ?_)
  refine kp_ ?_
  intro y h10 K10 hy _
  refine⟨_,rfl,?_⟩
  replace hy:(y:Int)<na.sort.wid:=hy (by omega)
  clear K9'
  refine kw_ ?_
  intro h11 K11 kpz
  clear kpz
  have K11':Kn g h11 ((b54, .inl ⟨[I na.sort.idx,I na.sort.wid],2,false⟩)::(b16, .inl ⟨nodeCells ⟨kd,a,0,0,0,y,⟨0,0⟩,⟨#[]⟩⟩,9,false⟩)::(b10, .inl ⟨eA,5,false⟩)::(b8, .inl ⟨aH M,5,false⟩)::(B,rdC s (q+1+1))::(A++X)):=K11
  clear K11 K10
  repeat' (refine kr_ ?_)
  (((with_reducible apply Wg);(assumption);(assumption);((focus ((repeat first|exact .head|apply Upd.tail);done)))))
  ·omega
  ·(show W (na.sort.wid-(y:Int))<=1000000000);rw [cd (by omega) (by omega)];omega
  intro w h12 K12 _ _
  refine⟨_,rfl,?_⟩
  repeat' (refine kr_ ?_)
  clear K11'
  refine kw_ ?_
  intro h13 K13 kpz
  clear kpz
  exact hJ h13 _ X M m ⟨kd,a,0,0,W ((y:Int)+(w:Int)),y,⟨0,0⟩,⟨#[]⟩⟩ _ rfl rfl o (d.more (by omega)) hne (by omega) K13
 refine ap (fun J=> ∀c,J c) (fun c=>?_) (fun J hJ=>?_)
 rotate_left
 ·(refine kr_ ?_)
  refine ad (fun _=>hJ _) (fun _=>?_)
  (refine kr_ ?_)
  exact hJ _
 refine ad (fun _=>?_) (fun _=>?_)
 ·refine kp_ ?_
  intro y h10 K10 _ _
  refine⟨_,rfl,?_⟩
  clear K9'
  refine kw_ ?_
  intro h11 K11 kpz
  clear kpz
  exact hJ h11 _ X M m ⟨kd,a,0,0,y,0,⟨0,0⟩,⟨#[]⟩⟩ _ rfl rfl o (d.more (by omega)) hne (by omega) K11
 (refine kr_ ?_)
 refine lA ⟨_,rfl,?_⟩
 refine ad (fun _=>?_) (fun _=>?_)
 ·repeat' (refine kr_ ?_)
  refine yu (p:=q+1) (A:=(b54, .inl ⟨[I na.sort.idx,I na.sort.wid],2,false⟩)::(b16, .inl ⟨nodeCells ⟨kd,a,0,0,0,0,⟨0,0⟩,⟨#[]⟩⟩,9,false⟩)::(b10, .inl ⟨eA,5,false⟩)::(b8, .inl ⟨aH M,5,false⟩)::A) (st:=na.sort)
   (K9'.perm (CV _ _ _ _ _ _)) hb o d (by omega) hne (by omega) hst fun h6 q6 X6 M6 m6 i6 K6 o6 d6 hi6 hl6 hq6=>⟨_,_,_,_,_,_,rfl,?_⟩
  replace K6:=K6.perm (CV _ _ _ _ _ _).symm
  clear K9'
  refine ww (M':=M6) K6 (by((focus ((repeat first|exact .head|apply Upd.tail);done)))) rfl fun h7 K7=>?_
  clear K6
  refine kw_ ?_
  intro h8 K8 kpz
  clear kpz
  exact hJ h8 q6 X6 M6 m6 ⟨kd,a,i6,0,0,0,⟨0,0⟩,⟨#[]⟩⟩ _ rfl rfl o6 (d6.more (by omega)) (by omega) (by omega) K8
 ·exact hJ h9 _ X M m ⟨kd,a,0,0,0,0,⟨0,0⟩,⟨#[]⟩⟩ _ rfl rfl o (d.more (by omega)) hne (by omega) K9'
theorem DM.addI {m:ah} {N:Nat} (d:DM m N) (x:BindP):DM {m with inits:=m.inits++ [x]} (N+1):=
 ⟨Nat.le_succ_of_le d.nodes,d.sorts,d.names,by have:=d.inits;simp;omega,Nat.le_succ_of_le d.nexts,Nat.le_succ_of_le d.bads,Nat.le_succ_of_le d.holds⟩
theorem DM.addE {m:ah} {N:Nat} (d:DM m N) (x:BindP):DM {m with nexts:=m.nexts++ [x]} (N+1):=
 ⟨Nat.le_succ_of_le d.nodes,d.sorts,d.names,Nat.le_succ_of_le d.inits,by have:=d.nexts;simp;omega,Nat.le_succ_of_le d.bads,Nat.le_succ_of_le d.holds⟩
theorem DM.addB {m:ah} {N:Nat} (d:DM m N) (x:Int):DM {m with bads:=m.bads++ [x]} (N+1):=
 ⟨Nat.le_succ_of_le d.nodes,d.sorts,d.names,Nat.le_succ_of_le d.inits,Nat.le_succ_of_le d.nexts,by have:=d.bads;simp;omega,Nat.le_succ_of_le d.holds⟩
theorem DM.addH {m:ah} {N:Nat} (d:DM m N) (x:Int):DM {m with holds:=m.holds++ [x]} (N+1):=
 ⟨Nat.le_succ_of_le d.nodes,d.sorts,d.names,Nat.le_succ_of_le d.inits,Nat.le_succ_of_le d.nexts,Nat.le_succ_of_le d.bads,by have:=d.holds;simp;omega⟩
theorem WN {g h:Hp} {H X:List (Nat×Blk)} {b bn:Nat} {M:MSl} {m:ah} {nd:BindP} {J:Hp->Prop} (o:MG X M m) (K:Kn g h ((bn, .inl ⟨bindCells nd,2,false⟩)::(H++X))) (hm:m.inits.length<=10000) (hb:(b, .inl ⟨aH M,5,false⟩)∈H)
  (k: ∀s' X' h',MG X' {M with ini:=s'} {m with inits:=m.inits++ [nd]}->(∀H',Upd H b (.inl ⟨aH M,5,false⟩) (.inl ⟨aH {M with ini:=s'},5,false⟩) H'->Kn g h' (H'++X'))->J h'):
  cy h M.ini.a M.ini.n M.ini.c (some ⟨bn,0,none⟩) 1 2 16 fun a n c h95=> ∃(cs:List Value) (z:Nat),h95 b=some (.inl ⟨cs,z,false⟩)/\(0+1)+1<=List.length cs/\cM (h95.row b (bX cs (0+1) [.slice a n c]) z) fun h'=>J h':=by
 refine MG.appI (A:=_::H) (n:=nd) o K (by omega) (K.at (.head _)) fun s' X' h7 o' K7=>?_
 rw [List.cons_append]at K7
 have f:=K7.at (.tail _ (List.mem_append_left _ hb))
 exact⟨_,_,f,by simp,k s' X' _ o' fun H' u=>(K7.tl).set (u.app (X:=X'))⟩
theorem Ws {g h:Hp} {H X:List (Nat×Blk)} {b bn:Nat} {M:MSl} {m:ah} {nd:BindP} {J:Hp->Prop} (o:MG X M m) (K:Kn g h ((bn, .inl ⟨bindCells nd,2,false⟩)::(H++X))) (hm:m.nexts.length<=10000) (hb:(b, .inl ⟨aH M,5,false⟩)∈H)
  (k: ∀s' X' h',MG X' {M with nex:=s'} {m with nexts:=m.nexts++ [nd]}->(∀H',Upd H b (.inl ⟨aH M,5,false⟩) (.inl ⟨aH {M with nex:=s'},5,false⟩) H'->Kn g h' (H'++X'))->J h'):
  cy h M.nex.a M.nex.n M.nex.c (some ⟨bn,0,none⟩) 1 2 16 fun a n c h95=> ∃(cs:List Value) (z:Nat),h95 b=some (.inl ⟨cs,z,false⟩)/\(0+2)+1<=List.length cs/\cM (h95.row b (bX cs (0+2) [.slice a n c]) z) fun h'=>J h':=by
 refine MG.appE (A:=_::H) (n:=nd) o K (by omega) (K.at (.head _)) fun s' X' h7 o' K7=>?_
 rw [List.cons_append]at K7
 have f:=K7.at (.tail _ (List.mem_append_left _ hb))
 exact⟨_,_,f,by simp,k s' X' _ o' fun H' u=>(K7.tl).set (u.app (X:=X'))⟩
theorem aa6 {g h:Hp} {H X:List (Nat×Blk)} {b bn:Nat} {M:MSl} {m:ah} {nd:Int} {J:Hp->Prop} (o:MG X M m) (K:Kn g h ((bn, .inl ⟨[I nd],1,false⟩)::(H++X))) (hm:m.bads.length<=10000) (hb:(b, .inl ⟨aH M,5,false⟩)∈H)
  (k: ∀s' X' h',MG X' {M with bad:=s'} {m with bads:=m.bads++ [nd]}->(∀H',Upd H b (.inl ⟨aH M,5,false⟩) (.inl ⟨aH {M with bad:=s'},5,false⟩) H'->Kn g h' (H'++X'))->J h'):
  cy h M.bad.a M.bad.n M.bad.c (some ⟨bn,0,none⟩) 1 1 8 fun a n c h95=> ∃(cs:List Value) (z:Nat),h95 b=some (.inl ⟨cs,z,false⟩)/\(0+3)+1<=List.length cs/\cM (h95.row b (bX cs (0+3) [.slice a n c]) z) fun h'=>J h':=by
 refine MG.appB (A:=_::H) (n:=nd) o K (by omega) (K.at (.head _)) fun s' X' h7 o' K7=>?_
 rw [List.cons_append]at K7
 have f:=K7.at (.tail _ (List.mem_append_left _ hb))
 exact⟨_,_,f,by simp,k s' X' _ o' fun H' u=>(K7.tl).set (u.app (X:=X'))⟩
theorem VN {g h:Hp} {H X:List (Nat×Blk)} {b bn:Nat} {M:MSl} {m:ah} {nd:Int} {J:Hp->Prop} (o:MG X M m) (K:Kn g h ((bn, .inl ⟨[I nd],1,false⟩)::(H++X))) (hm:m.holds.length<=10000) (hb:(b, .inl ⟨aH M,5,false⟩)∈H)
  (k: ∀s' X' h',MG X' {M with hol:=s'} {m with holds:=m.holds++ [nd]}->(∀H',Upd H b (.inl ⟨aH M,5,false⟩) (.inl ⟨aH {M with hol:=s'},5,false⟩) H'->Kn g h' (H'++X'))->J h'):
  cy h M.hol.a M.hol.n M.hol.c (some ⟨bn,0,none⟩) 1 1 8 fun a n c h95=> ∃(cs:List Value) (z:Nat),h95 b=some (.inl ⟨cs,z,false⟩)/\(0+4)+1<=List.length cs/\cM (h95.row b (bX cs (0+4) [.slice a n c]) z) fun h'=>J h':=by
 refine MG.appH (A:=_::H) (n:=nd) o K (by omega) (K.at (.head _)) fun s' X' h7 o' K7=>?_
 rw [List.cons_append]at K7
 have f:=K7.at (.tail _ (List.mem_append_left _ hb))
 exact⟨_,_,f,by simp,k s' X' _ o' fun H' u=>(K7.tl).set (u.app (X:=X'))⟩
set_option maxHeartbeats 2000000 in
theorem TQ {g h:Hp} {A X:List (Nat×Blk)} {B p N:Nat} {s:Sl} {bs:List Nat} {M:MSl} {m:ah} {R:Value->Hp->Prop} (K:Kn g h ((B,rdC s p)::(A++X))) (hb:ByteS g s bs) (o:MG X M m) (d:DM m N) (hN:N<=100)
  (hne:0<m.nodes.length) (hp:p<=100000)
  (k: ∀h' p' X' M' m',Kn g h' ((B,rdC s p')::(A++X'))->MG X' M' m'->DM m' (6*N)->0<m'.nodes.length->p'<=p+N*1000->R (aQ M') h'):
  qD #[.pointer (some ⟨B,0,none⟩),aQ M] h R:=by
 apply FF
 refine uf_ ?_
 have hl:=o.lens
 have hsm:=d.small (by omega)
 have hdn:=d.nodes
 refine Kn.al K fun b8 h1 K1 l1 hb8=>?_
 refine Kn.al K1 fun b10 h2 K2 l2 hb10=>?_
 clear K K1 l1 l2 hb8 hb10
 (refine kr_ ?_)
 refine au m.nodes.length (fun i vs h'=> ∃q X' M' m',vs= [.pointer (some ⟨B,0,none⟩), .pointer (some ⟨b8,0,none⟩), .pointer (some ⟨b10,0,none⟩),I (M.no.n:Nat),I i]/\MG X' M' m'/\DM m' (N+5*i)/\m.nodes.length<=m'.nodes.length/\q<=p+i*1000/\
  Kn g h' ((b10, .inl ⟨eA,5,false⟩)::(b8, .inl ⟨aH M',5,false⟩)::(B,rdC s q)::(A++X'))) ⟨p,X,M,m,rfl,o,d,Nat.le_refl _,by omega,K2⟩ ?_
 clear K2 h1 h2 h
 rintro i _ h4 nxt hi ⟨q,X',M',m',rfl,o',d',hle,hq,K4⟩ hnx
 refine⟨_,b8,0,b10,0,_,_,rfl,?_⟩
 have hl':=o'.lens
 have hdn':=d'.nodes
 have hsm':=d'.small (by omega)
 by_cases hlt:i<m.nodes.length
 rotate_left
 ·refine aC (by rw [decide_eq_false_iff_not];omega) ?_
  repeat' (refine kr_ ?_)
  refine G0 K4 (by((focus ((repeat first|exact .head|apply Upd.tail);done)))) fun h6 K6=>?_
  exact k h6 q X' M' m' K6.tl.tl o' (d'.more (by omega)) (by omega) (by omega)
 refine aM (by rw [decide_eq_true_eq];omega) ?_
 refine ap (fun J=> ∀h5 q X M1 m1,MG X M1 m1->DM m1 (N+5*(i+1))->m.nodes.length<=m1.nodes.length->q<=p+(i+1)*1000->Kn g h5 ((b10, .inl ⟨eA,5,false⟩)::(b8, .inl ⟨aH M1,5,false⟩)::(B,rdC s q)::(A++X))->J (some ⟨B,0,none⟩) b8 0 b10 0 (M.no.n:Nat) i h5)
  (fun h5 q X M1 m1 o1 d1 hl1 hq1 K5=>?_) (fun J hJ=>?_)
 ·rw [ay (by omega)]
  exact hnx hlt _ _ ⟨q,X,M1,m1,rfl,o1,d1,hl1,hq1,K5⟩
 clear hnx
 have hs:=o'.modelS (A:=_::_::_::A) hsm' K4
 obtain⟨ni,hni⟩: ∃n,m'.nodes[i]?=some n:=⟨_,List.getElem?_eq_getElem (by omega)⟩
 have hst:=uV d' hni
 obtain⟨b,oo,ha,e0,e1,e2,e3,e4,e5,e6,e7,e8⟩:=hs.nodes.at hni
 (refine kr_ ?_)
 refine⟨b,oo,ha,by omega,by omega,_,by rw [Int.toNat_natCast];exact e0,?_⟩
 refine ad (fun _=>hJ h4 q X' M' m' o' (d'.more (by omega)) hle (by omega) K4) (fun hkn=>?_)
 (refine kr_ ?_)
 refine⟨b,oo,ha,by omega,by omega,_,by rw [Int.toNat_natCast];exact e6,_,by rw [Int.toNat_natCast];exact e7,?_⟩
 generalize ni.sort=st at*
 clear hkn e0 e1 e2 e3 e4 e5 e6 e7 e8 hs hni ha ni oo b
 refine Kn.al K4 fun b41 h5 K5 l5 hb5=>?_
 refine kw_ ?_
 intro h6 K6 kpz
 clear kpz
 have K6':Kn g h6 ((b41, .inl ⟨[I st.idx,I st.wid],2,false⟩)::(b10, .inl ⟨eA,5,false⟩)::(b8, .inl ⟨aH M',5,false⟩)::(B,rdC s q)::(A++X')):=K6
 clear K6 K5 K4 l5 hb5
 obtain⟨_,hw1,hw2⟩:=nH hst
 refine kp_ ?_
 intro x49 h7 K7 hx49 _
 refine⟨_,rfl,?_⟩
 clear K6'
 refine ap (fun J2=> ∀h8 q2 X2 M2 m2,MG X2 M2 m2->DM m2 (N+5*i+2)->m.nodes.length<=m2.nodes.length->q2<=p+i*1000+2->Kn g h8 ((b41, .inl ⟨[I st.idx,I st.wid],2,false⟩)::(b10, .inl ⟨eA,5,false⟩)::(b8, .inl ⟨aH M2,5,false⟩)::(B,rdC s q2)::(A++X2))->J2 h8)
  (fun h8 q2 X2 M2 m2 o2 d2 hl2 hq2 K8=>?_) (fun J2 hJ2=>?_)
 rotate_left
 ·refine ad (fun _=>?_) (fun _=>hJ2 h7 _ X' M' m' o' (d'.more (by omega)) hle (by omega) K7)
  refine ap (fun J3=> ∀h8 s2 X2 q2 nd,MG X2 {M' with no:=s2} {m' with nodes:=m'.nodes++ [nd]}->bW nd.sort=true->nd.name.size=0->q2<=p+i*1000+2->
   Kn g h8 ((b41, .inl ⟨[I st.idx,I st.wid],2,false⟩)::(b10, .inl ⟨eA,5,false⟩)::(b8, .inl ⟨aH {M' with no:=s2},5,false⟩)::(B,rdC s q2)::(A++X2))->J3 h8) (fun h8 s2 X2 q2 nd o2 hs2 hn2 hq2 K8=>?_) (fun J3 hJ3=>?_)
  ·have hdi:=d'.inits
   (refine kr_ ?_)
   (refine kr_ ?_)
   refine Kn.al K8 fun b104 h9 K9 l9 hb9=>?_
   refine WN (H:=_::_::_::_::A) (nd:=⟨i,W ((s2.n:Int)-1)⟩) o2 K9 (by dsimp only;omega) (.tail _ (.tail _ (.head _))) fun s3 X3 h10 o3 KF=>?_
   have K10:=KF _ (by((focus ((repeat first|exact .head|apply Upd.tail);done))))
   simp only [List.cons_append]at K10
   clear KF K9 K8 K7
   refine hJ2 h10 q2 X3 _ _ o3 (((d'.addN hs2 (by omega)).addI _).more (by omega)) (by simp;omega) hq2 K10
  obtain⟨w,hw⟩: ∃w:Nat,st.wid=w:=⟨st.wid.toNat,by omega⟩
  have hp2:0<2^w:=Nat.two_pow_pos w
  have fin: ∀(y:Nat) (h5 h6:Hp) (q2 b:Nat),q2<=p+i*1000+2->
    Kn g h6 ((b, .inl ⟨[I 34,I 0,I 0,I 0,I (Int.tmod y (2^w:Nat)),I 0,I 0,I st.wid, .string ⟨#[]⟩],9,false⟩)::(b41, .inl ⟨[I st.idx,I st.wid],2,false⟩)::(b10, .inl ⟨eA,5,false⟩)::(b8, .inl ⟨aH M',5,false⟩)::(B,rdC s q2)::(A++X'))->
    cy h6 M'.no.a M'.no.n M'.no.c (some (Addr.mk b 0 none)) 1 9 80 fun a92 n93 k94 h95=> ∃(cs96:List Value) (z97:Nat),h95 b8=some (.inl ⟨cs96,z97,false⟩)/\0+1<=List.length cs96/\cM (h95.row b8 (bX cs96 0 [(.slice a92 n93 k94)]) z97) fun h98=>J3 h98:=by
   intro y h5 h6 q2 b hq2 K6
   refine nr (H:=_::_::_::_::A) (nd:=⟨34,0,0,0,Int.tmod y (2^w:Nat),0,cR st.wid,⟨#[]⟩⟩) o' K6 (by omega) (.tail _ (.tail _ (.head _))) fun s2 X2 h8 o2 KF=>?_
   have K8:=KF _ (by((focus ((repeat first|exact .head|apply Upd.tail);done))))
   simp only [List.cons_append]at K8
   exact hJ3 h8 s2 X2 q2 _ o2 (qM hw1 hw2) rfl hq2 K8
  repeat' (refine kr_ ?_)
  refine⟨?_,?_⟩
  ·refine kp_ ?_
   intro y h8 K8 hy _
   refine⟨_,rfl,?_⟩
   repeat' (refine kr_ ?_)
   refine⟨?_,?_⟩
   ·repeat' (refine kr_ ?_)
    rw [hw,cY (by omega),if_neg (by omega),cw (by omega),if_neg (by omega),<-hw]
    refine cm ⟨_,_,rfl,?_⟩
    repeat' (refine kr_ ?_)
    refine Kn.al K8 fun b90 h9 K9 l9 hb90=>?_
    (refine kr_ ?_)
    exact fin y h8 h9 _ b90 (by omega) K9
   ·repeat' (refine kr_ ?_)
    refine cm ⟨_,_,rfl,?_⟩
    repeat' (refine kr_ ?_)
    rw [hw,cY (by omega),if_neg (by omega),cw (by omega),if_neg (by omega),<-hw]
    refine Kn.al K8 fun b90 h9 K9 l9 hb90=>?_
    (refine kr_ ?_)
    exact fin y h8 h9 _ b90 (by omega) K9
  ·repeat' (refine kr_ ?_)
   rw [hw,cY (by omega),if_neg (by omega),cw (by omega),<-hw]
   refine kp_ ?_
   intro y h8 K8 hy _
   refine⟨_,rfl,?_⟩
   repeat' (refine kr_ ?_)
   rw [if_neg (by omega)]
   refine cm ⟨_,_,rfl,?_⟩
   repeat' (refine kr_ ?_)
   refine Kn.al K8 fun b90 h9 K9 l9 hb90=>?_
   (refine kr_ ?_)
   exact fin y h8 h9 _ b90 (by omega) K9
 clear K7 h7 hsm' hdn' hl' hq d' o' hle X' M' m' q
 have hl':=o2.lens
 have hdn':=d2.nodes
 have hsm':=d2.small (by omega)
 refine kp_ ?_
 intro x118 h9 K9 _ _
 refine⟨_,rfl,?_⟩
 refine ad (fun _=>hJ h9 _ X2 M2 m2 o2 (d2.more (by omega)) hl2 (by omega) K9.tl) (fun _=>?_)
 clear K8
 refine au m2.nodes.length (fun j vs h'=> ∃(a q:Nat),vs= [.pointer (some ⟨B,0,none⟩), .pointer (some ⟨b8,0,none⟩), .pointer (some ⟨b10,0,none⟩),I (M.no.n:Nat),I i, .pointer (some ⟨b41,0,none⟩),I a,I j]/\a<m2.nodes.length/\q<=p+i*1000+3+j/\
  Kn g h' ((b41, .inl ⟨[I st.idx,I st.wid],2,false⟩)::(b10, .inl ⟨eA,5,false⟩)::(b8, .inl ⟨aH M2,5,false⟩)::(B,rdC s q)::(A++X2))) ⟨i,_,rfl,by omega,by omega,K9⟩ ?_
 clear K9 h9 h8 hq2
 rintro j _ h8 nxt hj ⟨a,q,rfl,haL,hq,K8⟩ hnx
 refine⟨_,b8,0,b10,0,_,_,b41,0,_,_,rfl,?_⟩
 have hs:=o2.modelS (A:=_::_::_::_::A) hsm' K8
 (refine kr_ ?_)
 by_cases hlj:j<m2.nodes.length
 ·refine aM (by rw [decide_eq_true_eq];omega) ?_
  refine ap (fun J3=> ∀(c:Nat) h5 q,c<m2.nodes.length->q<=p+i*1000+3+(j+1)->Kn g h5 ((b41, .inl ⟨[I st.idx,I st.wid],2,false⟩)::(b10, .inl ⟨eA,5,false⟩)::(b8, .inl ⟨aH M2,5,false⟩)::(B,rdC s q)::(A++X2))->J3 (c:Int) h5) (fun c h5 q' hc hq' K5=>?_) (fun J3 hJ3=>?_)
  ·rw [ay (by omega)]
   exact hnx hlj _ _ ⟨c,q',rfl,hc,hq',K5⟩
  ·(refine kr_ ?_)
   obtain⟨nj,hnj⟩: ∃n,m2.nodes[j]?=some n:=⟨_,List.getElem?_eq_getElem hlj⟩
   obtain⟨b,oo,ha,e0,e1,e2,e3,e4,e5,e6,e7,e8⟩:=hs.nodes.at hnj
   refine⟨b,oo,ha,by omega,by omega,_,by rw [Int.toNat_natCast];exact e6,_,by rw [Int.toNat_natCast];exact e7,?_⟩
   (refine kr_ ?_)
   (refine kr_ ?_)
   refine ad (fun e=>?_) (fun e=>?_)
   ·(refine kr_ ?_)
    refine⟨b,oo,ha,by omega,by omega,_,by rw [Int.toNat_natCast];exact e0,?_⟩
    refine ad (fun e=>?_) (fun e=>?_)
    ·refine ad (fun e=>?_) (fun e=>?_)
     ·exact hJ3 _ h8 q hlj (by omega) K8
     refine kp_ ?_
     intro x h5 K5 hx _
     refine⟨_,rfl,?_⟩
     exact ad (fun e=>hJ3 _ h5 (q+1) hlj (by omega) K5) (fun e=>hJ3 _ h5 (q+1) haL (by omega) K5)
    ·exact hJ3 _ h8 q haL (by omega) K8
   ·exact hJ3 _ h8 q haL (by omega) K8
 refine aC (by rw [decide_eq_false_iff_not];omega) ?_
 clear hnx hs
 refine ap (fun J3=> ∀(c:Bool) h5 q,q<=p+i*1000+4+m2.nodes.length->Kn g h5 ((b41, .inl ⟨[I st.idx,I st.wid],2,false⟩)::(b10, .inl ⟨eA,5,false⟩)::(b8, .inl ⟨aH M2,5,false⟩)::(B,rdC s q)::(A++X2))->J3 c h5) (fun c h5 q' hq' K5=>?_) (fun J3 hJ3=>?_)
 rotate_left
 ·refine ad (fun e=>?_) (fun e=>hJ3 _ h8 q (by omega) K8)
  repeat' (refine kr_ ?_)
  refine ad (fun e=>?_) (fun e=>hJ3 _ h8 q (by omega) K8)
  refine kp_ ?_
  intro x h5 K5 hx _
  exact⟨_,rfl,hJ3 _ h5 (q+1) (by omega) K5⟩
 clear K8 hq q h8
 refine ap (fun J3=> ∀(x:Int) h5 q X3 M3 m3,MG X3 M3 m3->DM m3 (N+5*i+4)->m.nodes.length<=m3.nodes.length->q<=p+i*1000+4+m2.nodes.length->Kn g h5 ((b41, .inl ⟨[I st.idx,I st.wid],2,false⟩)::(b10, .inl ⟨eA,5,false⟩)::(b8, .inl ⟨aH M3,5,false⟩)::(B,rdC s q)::(A++X3))->J3 x h5)
  (fun x h6 q X3 M3 m3 o3 d3 hl3 hq3 K6=>?_) (fun J3 hJ3=>?_)
 ·have hde:=d3.nexts
  (refine kr_ ?_)
  refine Kn.al K6 fun b202 h9 K9 l9 hb9=>?_
  refine Ws (H:=_::_::_::_::A) (nd:=⟨i,x⟩) o3 K9 (by omega) (.tail _ (.tail _ (.head _))) fun s3 X4 h10 o4 KF=>?_
  have K10:=KF _ (by((focus ((repeat first|exact .head|apply Upd.tail);done))))
  simp only [List.cons_append]at K10
  exact hJ h10 q X4 _ _ o4 ((d3.addE _).more (by omega)) (by simp;omega) (by omega) K10.tl
 refine ad (fun e=>?_) (fun e=>hJ3 _ h5 q' X2 M2 m2 o2 (d2.more (by omega)) hl2 (by omega) K5)
 repeat' (refine kr_ ?_)
 refine Kn.al K5 fun b173 h6 K6 l6 hb6=>?_
 refine nr (H:=_::_::_::_::A) (nd:=⟨34,0,0,0,1,0,st,⟨#[]⟩⟩) o2 K6 (by omega) (.tail _ (.tail _ (.head _))) fun s3 X3 h7 o3 KF=>?_
 have K7:=KF _ (by((focus ((repeat first|exact .head|apply Upd.tail);done))))
 simp only [List.cons_append]at K7
 clear KF K6 K5
 repeat' (refine kr_ ?_)
 refine Kn.al K7 fun b187 h8 K8 l8 hb8=>?_
 refine nr (H:=_::_::_::_::A) (nd:=⟨9,i,W ((s3.n:Int)-1),0,0,0,st,⟨#[]⟩⟩) o3 K8 (by simp;omega) (.tail _ (.tail _ (.head _))) fun s4 X4 h9 o4 KF=>?_
 have K9:=KF _ (by((focus ((repeat first|exact .head|apply Upd.tail);done))))
 simp only [List.cons_append]at K9
 clear KF K8 K7
 repeat' (refine kr_ ?_)
 have dA:=d2.addN (n:=⟨34,0,0,0,1,0,st,⟨#[]⟩⟩) hst (show (0:Nat)<=100 by omega)
 have dB:=dA.addN (n:=⟨9,i,W ((s3.n:Int)-1),0,0,0,st,⟨#[]⟩⟩) hst (show (0:Nat)<=100 by omega)
 exact hJ3 _ h9 q' X4 _ _ o4 (dB.more (by omega)) (by simp;omega) (by omega) K9
inductive Pk {α:Type}:List α->α->List α->Prop
 |head {L:List α} {a:α}:Pk (a::L) a L
 |tail {L L':List α} {a e:α}:Pk L a L'->Pk (e::L) a (e::L')
theorem Pk.perm {α:Type} {L L':List α} {a:α} (u:Pk L a L'):L.Perm (a::L'):=by
 induction u with
 |head=>exact List.Perm.refl _
 |tail _ ih=>exact(List.Perm.cons _ ih).trans (List.Perm.swap ..)
abbrev ais (w:Int):List NodeP:= [⟨36,0,0,0,0,0,⟨0,w⟩,⟨#[120]⟩⟩,⟨34,0,0,0,0,0,⟨0,w⟩,⟨#[]⟩⟩,⟨34,0,0,0,1,0,⟨0,w⟩,⟨#[]⟩⟩,⟨34,0,0,0,3,0,⟨0,w⟩,⟨#[]⟩⟩,⟨35,0,0,0,0,0,⟨0,1⟩,⟨#[103,111]⟩⟩,
 ⟨9,0,2,0,0,0,⟨0,w⟩,⟨#[]⟩⟩,⟨33,4,5,0,0,0,⟨0,w⟩,⟨#[]⟩⟩,⟨21,0,3,0,0,0,⟨0,1⟩,⟨#[]⟩⟩]
abbrev aiV (w:Int):ah:=⟨ais w, [⟨0,1⟩], [⟨0,6⟩], [7], []⟩
abbrev aip (w:Int):List Value:=(ais w).flatMap nodeCells
set_option maxHeartbeats 4000000 in
theorem xg {g h:Hp} {A:List (Nat×Blk)} {B p:Nat} {s:Sl} {bs:List Nat} {R:Value->Hp->Prop} (K:Kn g h ((B,rdC s p)::A)) (hb:ByteS g s bs) (hp:p<=900000)
  (k: ∀h' p' X' M' m',Kn g h' ((B,rdC s p')::(A++X'))->MG X' M' m'->DM m' 8->aG m'=0->0<m'.nodes.length->p'<=p+1->R (aQ M') h'):
  iP #[.pointer (some ⟨B,0,none⟩)] h R:=by
 apply AW
 refine uf_ ?_
 refine Kn.al K fun b3 h1 K1 l1 hb3=>?_
 clear K l1 hb3
 refine kp_ ?_
 intro x h2 K2 hx _
 refine⟨_,rfl,?_⟩
 have hx':x<2:=by have:=hx (by omega);omega
 clear K1
 refine cm ⟨_,_,rfl,?_⟩
 refine Kn.al K2 fun b14 h3 K3 l3 hb14=>?_
 refine kw_ ?_
 intro h4 K4 kpz
 clear kpz
 obtain⟨w,hw,hw2⟩: ∃w:Int,W (2+(x:Int))=w/\(w=2\/w=3):=⟨_,rfl,by rw [cd (by omega) (by omega)];omega⟩
 rw [hw]at K4
 have K4':Kn g h4 ((b14, .inl ⟨[I 0,I w],2,false⟩)::(b3, .inl ⟨eA,5,false⟩)::(B,rdC s (p+1))::A):=K4
 clear K4 K3 K2
 refine ap (fun J=> ∀h5 (bN bI bE bB:Nat),Kn g h5 ((bN, .inl ⟨aip w,72,false⟩)::(bI, .inl ⟨[I 0,I 1],2,false⟩)::(bE, .inl ⟨[I 0,I 6],2,false⟩)::(bB, .inl ⟨[I 7],1,false⟩)::(b14, .inl ⟨[I 0,I w],2,false⟩)::
   (b3, .inl ⟨aH ⟨⟨some ⟨bN,0,none⟩,8,8⟩,⟨some ⟨bI,0,none⟩,1,1⟩,⟨some ⟨bE,0,none⟩,1,1⟩,⟨some ⟨bB,0,none⟩,1,1⟩,⟨none,0,0⟩⟩,5,false⟩)::(B,rdC s (p+1))::A)->J h5) (fun h5 bN bI bE bB K5=>?_) (fun J hJ=>?_)
 ·clear K4'
  repeat' (refine kr_ ?_)
  have K6:=(K5.perm (List.perm_append_comm (l₁:= [_,_,_,_]) (l₂:=_::_::_::A))).tl.tl
  refine k h5 (p+1) _ ⟨⟨some ⟨bN,0,none⟩,8,8⟩,⟨some ⟨bI,0,none⟩,1,1⟩,⟨some ⟨bE,0,none⟩,1,1⟩,⟨some ⟨bB,0,none⟩,1,1⟩,⟨none,0,0⟩⟩ (aiV w) K6 ?_ ?_ ?_ ?_ (Nat.le_refl _)
  ·exact⟨[_], [_], [_], [_], [],rfl,⟨rfl,Nat.le_refl _, .inr ⟨bN,rfl,rfl⟩⟩,⟨rfl,Nat.le_refl _, .inr ⟨bI,rfl,rfl⟩⟩,⟨rfl,Nat.le_refl _, .inr ⟨bE,rfl,rfl⟩⟩,⟨rfl,Nat.le_refl _, .inr ⟨bB,rfl,rfl⟩⟩,cF 1⟩
  ·refine⟨Nat.le_refl _,?_,?_,show (1:Nat)<=8 by omega,show (1:Nat)<=8 by omega,show (1:Nat)<=8 by omega,show (0:Nat)<=8 by omega⟩
   ·rcases hw2 with rfl|rfl<;>decide
   ·rcases hw2 with rfl|rfl<;>decide
  ·rcases hw2 with rfl|rfl<;>decide
  ·exact Nat.succ_pos _
 have leaf: ∀h5 L L1 L2 L3 (bN bI bE bB:Nat),Kn g h5 L->Pk L (bN, .inl ⟨aip w,72,false⟩) L1->Pk L1 (bI, .inl ⟨[I 0,I 1],2,false⟩) L2->Pk L2 (bE, .inl ⟨[I 0,I 6],2,false⟩) L3->
   Pk L3 (bB, .inl ⟨[I 7],1,false⟩) ((b14, .inl ⟨[I 0,I w],2,false⟩)::(b3, .inl ⟨eA,5,false⟩)::(B,rdC s (p+1))::A)->
   ∃(cs:List Value) (z:Nat),h5 b3=some (.inl ⟨cs,z,false⟩)/\0+5<=List.length cs/\cM (h5.row b3 (bX cs 0 [.slice (some ⟨bN,0,none⟩) 8 8, .slice (some ⟨bI,0,none⟩) 1 1, .slice (some ⟨bE,0,none⟩) 1 1, .slice (some ⟨bB,0,none⟩) 1 1, .slice none 0 0]) z) fun h'=>J h':=by
  intro h5 L L1 L2 L3 bN bI bE bB K p1 p2 p3 p4
  have K':=K.perm (p1.perm.trans (List.Perm.cons _ (p2.perm.trans (List.Perm.cons _ (p3.perm.trans (List.Perm.cons _ p4.perm))))))
  refine ww (M':=⟨⟨some ⟨bN,0,none⟩,8,8⟩,⟨some ⟨bI,0,none⟩,1,1⟩,⟨some ⟨bE,0,none⟩,1,1⟩,⟨some ⟨bB,0,none⟩,1,1⟩,⟨none,0,0⟩⟩) K' (by((focus ((repeat first|exact .head|apply Upd.tail);done)))) rfl fun h6 K6=>?_
  exact hJ h6 bN bI bE bB K6
 clear k hJ hw2 hw hx' hx
 repeat' (refine kr_ ?_)
 repeat' first
  |(refine kr_ ?_)
  |refine cm ⟨_,_,rfl,?_⟩
  |((with_reducible apply Kn.al);(assumption);(intro b hN KN lN hbN))
  |(refine leaf _ _ _ _ _ _ _ _ _ (by assumption) (by((focus ((repeat first|exact .head|apply Pk.tail);done)))) (by((focus ((repeat first|exact .head|apply Pk.tail);done)))) (by((focus ((repeat first|exact .head|apply Pk.tail);done)))) (by((focus ((repeat first|exact .head|apply Pk.tail);done)))))
  |refine⟨?_,?_⟩
theorem Kn.subl {g h:Hp} {L L':List (Nat×Blk)} (K:Kn g h L) (s:L'.Sublist L):Kn g h L':=K.sub (fun e he=>s.subset he) (List.Nodup.sublist (s.map _) K.nd)
theorem I5 {g h:Hp} {L:List (Nat×Blk)} {s:Sl} {bs:List Nat} {R:Value->Hp->Prop} (K:Kn g h L) (hcap:s.n<=s.c) (hs:ByteS g s bs)
  (k: ∀B h' s' bs',ByteS g s' bs'->Kn g h' ((B,rdC s' 0)::L)->R (.pointer (some ⟨B,0,none⟩)) h'):jG #[s.v] h R:=by
 apply A2
 refine uf_ ?_
 have hl:=hs.len
 refine ad (fun e=>?_) (fun e=>?_)
 ·have e':2000<s.n:=by simp at e;omega
  obtain⟨b,o,ha,hc⟩:=SlC.get hs.1 (by omega)
  refine⟨by simp,by simp,by omega, .inr ⟨b,o,ha,?_⟩⟩
  refine Kn.al K fun B h1 K1 l1 hB=>?_
  have e0:(if s.c=(Int.ofNat 0).toNat then o else o+(Int.ofNat 0).toNat*1)=o:=by split<;>simp
  rw [e0]at K1
  refine k B h1 ⟨some ⟨b,o,none⟩,2000,s.c⟩ (bs.take 2000) ?_ K1
  refine⟨⟨by simp,by simp;omega, .inr ⟨b,o,rfl,?_⟩⟩,fun x hx=>hs.2 x (List.mem_of_mem_take hx)⟩
  intro i v hv
  refine hc i v ?_
  rw [List.map_take,List.getElem?_take]at hv
  split at hv
  ·exact hv
  ·cases hv
 ·refine Kn.al K fun B h1 K1 l1 hB=>?_
  exact k B h1 s bs hs K1
theorem CL {α:Type} (a b c:α) (L:List α):(a::b::c::L).Perm (c::a::b::L):=(List.Perm.cons a (List.Perm.swap c b L)).trans (List.Perm.swap c a _)
set_option maxHeartbeats 2000000 in
theorem Mw {g h:Hp} {A:List (Nat×Blk)} {B p:Nat} {s:Sl} {bs:List Nat} {R:Value->Hp->Prop} (K:Kn g h ((B,rdC s p)::A)) (hb:ByteS g s bs) (hp:p<=10000)
  (k: ∀h' p' X' M' m',Kn g h' ((B,rdC s p')::(A++X'))->MG X' M' m'->DM m' 400->aG m'=0->0<m'.nodes.length->p'<=p+100000->R (aQ M') h'):
  mG #[.pointer (some ⟨B,0,none⟩)] h R:=by
 apply Ez
 refine uf_ ?_
 refine Kn.al K fun b3 h1 K1 l1 hb3=>?_
 clear K l1 hb3
 refine kp_ ?_
 intro x h2 K2 _ _
 refine⟨_,rfl,?_⟩
 clear K1
 refine Qn (A:=(b3, .inl ⟨eA,5,false⟩)::A) K2.sw hb (by omega) fun h3 p3 X3 M3 m3 K3 o3 d3 n3 hp3=>⟨_,_,_,_,_,rfl,?_⟩
 replace K3:Kn g h3 ((b3, .inl ⟨eA,5,false⟩)::(B,rdC s p3)::(A++X3)):=K3.sw
 clear K2
 refine Kn.al K3 fun b16 h4 K4 l4 hb16=>?_
 clear K3 l4 hb16
 refine ww (M':=M3) K4 (by((focus ((repeat first|exact .head|apply Upd.tail);done)))) rfl fun h5 K5=>?_
 clear K4
 refine kp_ ?_
 intro n h6 K6 hn _
 refine⟨_,rfl,?_⟩
 replace hn:n<14:=by have:=hn (by omega);omega
 clear K5
 refine au n (fun i vs h'=> ∃q X' M' m',vs= [.pointer (some ⟨B,0,none⟩), .pointer (some ⟨b3,0,none⟩), .pointer (some ⟨b16,0,none⟩),I n,I i]/\MG X' M' m'/\DM m' (12+3*i)/\0<m'.nodes.length/\q<=p+100+i*20/\
  Kn g h' ((b16, .inl ⟨aH M',5,false⟩)::(b3, .inl ⟨eA,5,false⟩)::(B,rdC s q)::(A++X'))) ⟨p3+1,X3,M3,m3,rfl,o3,d3,n3,by omega,K6⟩ ?_
 clear K6 hp3 n3 d3 o3 m3 M3 X3 p3 h6 h5 h4 h3 h2 h1 h
 rintro i _ h4 nxt hi ⟨q,X',M',m',rfl,o',d',hle,hq,K4⟩ hnx
 refine⟨_,b3,0,b16,0,_,_,rfl,?_⟩
 by_cases hlt:i<n
 ·refine aM (by rw [decide_eq_true_eq];omega) ?_
  repeat' (refine kr_ ?_)
  refine UA (A:=(b16, .inl ⟨aH M',5,false⟩)::(b3, .inl ⟨eA,5,false⟩)::A) (K4.perm (CL _ _ _ _)) hb o' d' (by omega) hle (by omega) fun h5 q5 X5 M5 m5 K5 o5 d5 n5 hq5=>⟨_,_,_,_,_,rfl,?_⟩
  replace K5:=K5.perm (CL _ _ _ _).symm
  refine ww (M':=M5) K5 (by((focus ((repeat first|exact .head|apply Upd.tail);done)))) rfl fun h6 K6=>?_
  rw [ay (by omega)]
  exact hnx hlt _ _ ⟨q5,X5,M5,m5,rfl,o5,d5.more (by omega),n5,by omega,K6⟩
 refine aC (by rw [decide_eq_false_iff_not];omega) ?_
 clear hnx
 repeat' (refine kr_ ?_)
 refine TQ (N:=51) (A:=(b16, .inl ⟨aH M',5,false⟩)::(b3, .inl ⟨eA,5,false⟩)::A) (K4.perm (CL _ _ _ _)) hb o' (d'.more (by omega)) (by omega) hle (by omega) fun h5 q5 X5 M5 m5 K5 o5 d5 n5 hq5=>⟨_,_,_,_,_,rfl,?_⟩
 replace K5:=K5.perm (CL _ _ _ _).symm
 clear K4
 refine ww (M':=M5) K5 (by((focus ((repeat first|exact .head|apply Upd.tail);done)))) rfl fun h6 K6=>?_
 clear K5
 refine kp_ ?_
 intro x76 h7 K7 hx76 _
 refine⟨_,rfl,?_⟩
 clear K6
 refine kp_ ?_
 intro x80 h8 K8 _ _
 refine⟨_,rfl,?_⟩
 clear K7
 refine ap (fun J=> ∀c:Nat,c<=2->J (c:Int)) (fun c hc=>?_) (fun J hJ=>?_)
 rotate_left
 ·refine ad (fun _=>hJ 0 (by omega)) (fun _=>?_)
  have:=hx76 (by omega)
  rw [show (1:Int)+(x76:Nat)=((1+x76:Nat):Int) by omega,fW (by omega)]
  exact hJ _ (by omega)
 refine au c (fun i vs h'=> ∃q X' M' m',vs= [.pointer (some ⟨B,0,none⟩), .pointer (some ⟨b3,0,none⟩), .pointer (some ⟨b16,0,none⟩),I c,I i]/\MG X' M' m'/\DM m' (306+4*i)/\0<m'.nodes.length/\q<=p+51500+i*2000/\
  Kn g h' ((b16, .inl ⟨aH M',5,false⟩)::(b3, .inl ⟨eA,5,false⟩)::(B,rdC s q)::(A++X'))) ⟨_,X5,M5,m5,rfl,o5,d5,n5,by omega,K8⟩ ?_
 clear K8 hq5 n5 d5 o5 m5 M5 X5 q5 h8 h7 h6 h5 hq d' o' hle hx76 hlt hi
 clear M' m' X' q h4 nxt i
 rintro i _ h4 nxt hi ⟨q,X',M',m',rfl,o',d',hle,hq,K4⟩ hnx
 refine⟨_,b3,0,b16,0,_,_,rfl,?_⟩
 by_cases hlt:i<c
 ·refine aM (by rw [decide_eq_true_eq];omega) ?_
  repeat' (refine kr_ ?_)
  refine Oc (A:=(b16, .inl ⟨aH M',5,false⟩)::(b3, .inl ⟨eA,5,false⟩)::A) (K4.perm (CL _ _ _ _)) hb o' d' (by omega) hle (by omega) fun h5 q5 X5 M5 m5 i5 K5 o5 d5 hi5 hl5 hq5=>⟨_,_,_,_,_,_,rfl,?_⟩
  replace K5:=K5.perm (CL _ _ _ _).symm
  clear K4
  refine ww (M':=M5) K5 (by((focus ((repeat first|exact .head|apply Upd.tail);done)))) rfl fun h6 K6=>?_
  clear K5
  have hdb:=d5.bads
  (refine kr_ ?_)
  refine Kn.al K6 fun b119 h7 K7 l7 hb7=>?_
  refine aa6 (H:=_::_::_::A) (nd:=(i5:Nat)) o5 K7 (by omega) (.head _) fun s8 X8 h8 o8 KF=>?_
  have K8:=KF _ (by((focus ((repeat first|exact .head|apply Upd.tail);done))))
  simp only [List.cons_append]at K8
  rw [ay (by omega)]
  exact hnx hlt _ _ ⟨q5,X8,_,_,rfl,o8,(d5.addB _).more (by omega),by dsimp only;omega,by omega,K8⟩
 refine aC (by rw [decide_eq_false_iff_not];omega) ?_
 clear hnx
 refine kp_ ?_
 intro x132 h5 K5 _ _
 refine⟨_,rfl,?_⟩
 clear K4
 refine ap (fun J=> ∀h5 q X' M' m',MG X' M' m'->DM m' 400->0<m'.nodes.length->q<=p+60000->Kn g h5 ((b16, .inl ⟨aH M',5,false⟩)::(b3, .inl ⟨eA,5,false⟩)::(B,rdC s q)::(A++X'))->J h5)
  (fun h5 q X' M' m' o' d' hle hq K5=>?_) (fun J hJ=>?_)
 ·have hs:=o'.modelS (A:=_::_::_::A) (d'.small (by omega)) K5
  repeat' (refine kr_ ?_)
  refine cj hs (d'.small (by omega)) ⟨_,rfl,?_⟩
  refine ad (fun e=>?_) (fun e=>?_)
  ·refine xg (A:=(b3, .inl ⟨eA,5,false⟩)::(A++X')) K5.tl.sw hb (by omega) fun h6 q6 X6 M6 m6 K6 o6 d6 c6 n6 hq6=>⟨_,_,_,_,_,rfl,?_⟩
   replace K6:Kn g h6 ((b3, .inl ⟨eA,5,false⟩)::(B,rdC s q6)::((A++X')++X6)):=K6.sw
   refine G0 (M:=M6) K6 (by((focus ((repeat first|exact .head|apply Upd.tail);done)))) fun h7 K7=>?_
   refine k h7 q6 X6 M6 m6 (K7.tl.subl ?_) o6 (d6.more (by omega)) c6 n6 (by omega)
   exact List.Sublist.cons_cons _ (List.Sublist.append_right (List.sublist_append_left _ _) _)
  ·repeat' (refine kr_ ?_)
   refine G0 (M:=M') K5 (by((focus ((repeat first|exact .head|apply Upd.tail);done)))) fun h7 K7=>?_
   exact k h7 q X' M' m' K7.tl.tl o' d' (by simpa using e) hle (by omega)
 refine ad (fun e=>?_) (fun e=>hJ _ _ _ _ _ o' (d'.more (by omega)) hle (by omega) K5)
 repeat' (refine kr_ ?_)
 refine Oc (A:=(b16, .inl ⟨aH M',5,false⟩)::(b3, .inl ⟨eA,5,false⟩)::A) (K5.perm (CL _ _ _ _)) hb o' d' (by omega) hle (by omega) fun h6 q6 X6 M6 m6 i6 K6 o6 d6 hi6 hl6 hq6=>⟨_,_,_,_,_,_,rfl,?_⟩
 replace K6:=K6.perm (CL _ _ _ _).symm
 clear K5
 refine ww (M':=M6) K6 (by((focus ((repeat first|exact .head|apply Upd.tail);done)))) rfl fun h7 K7=>?_
 clear K6
 refine kp_ ?_
 intro x155 h8 K8 _ _
 refine⟨_,rfl,?_⟩
 clear K7
 refine ap (fun J2=> ∀(y:Int) h5 q X' M' m',MG X' M' m'->DM m' 330->0<m'.nodes.length->q<=p+60000->Kn g h5 ((b16, .inl ⟨aH M',5,false⟩)::(b3, .inl ⟨eA,5,false⟩)::(B,rdC s q)::(A++X'))->J2 y h5)
  (fun y h9 q9 X9 M9 m9 o9 d9 hle9 hq9 K9=>?_) (fun J2 hJ2=>?_)
 ·have hdh:=d9.holds
  (refine kr_ ?_)
  refine Kn.al K9 fun b119 h10 K10 l10 hb10=>?_
  refine VN (H:=_::_::_::A) (nd:=y) o9 K10 (by omega) (.head _) fun s8 X8 h8 o8 KF=>?_
  have K11:=KF _ (by((focus ((repeat first|exact .head|apply Upd.tail);done))))
  simp only [List.cons_append]at K11
  exact hJ _ _ _ _ _ o8 ((d9.addH _).more (by omega)) (by dsimp only;omega) (by omega) K11
 refine ad (fun e=>?_) (fun e=>hJ2 _ _ _ _ _ _ o6 (d6.more (by omega)) (by omega) (by omega) K8)
 have hdn:=d6.nodes
 (refine kr_ ?_)
 refine cm ⟨_,_,rfl,?_⟩
 repeat' (refine kr_ ?_)
 refine Kn.al K8 fun b163 h9 K9 l9 hb9=>?_
 (refine kr_ ?_)
 refine nr (H:=_::_::_::A) (nd:=⟨1,(i6:Nat),0,0,0,0,cR 1,⟨#[]⟩⟩) o6 K9 (by omega) (.head _) fun s10 X10 h10 o10 KF=>?_
 have K10:=KF _ (by((focus ((repeat first|exact .head|apply Upd.tail);done))))
 simp only [List.cons_append]at K10
 clear K9 K8
 repeat' (refine kr_ ?_)
 have dA:=d6.addN (n:=⟨1,(i6:Nat),0,0,0,0,cR 1,⟨#[]⟩⟩) (qM (by omega) (by omega)) (show (0:Nat)<=100 by omega)
 exact hJ2 _ _ _ _ _ _ o10 (dA.more (by omega)) (by simp) (by omega) K10
theorem abJ : ∀(vs xs ys:List Value) (o:Nat),bX (xs++ys) (xs.length+o) vs=xs++bX ys o vs:=by
 intro vs
 induction vs with
 |nil=>intro xs ys o;rfl
 |cons v vs ih=>intro xs ys o;rw [r6,r6,List.set_append_right (xs.length+o) v (by omega),Nat.add_sub_cancel_left,Nat.add_assoc,ih]
theorem W8 : ∀(vs xs ys:List Value) (o:Nat),o+vs.length<=xs.length->bX (xs++ys) o vs=bX xs o vs++ys:=by
 intro vs
 induction vs with
 |nil=>intro xs ys o _;rfl
 |cons v vs ih=>
  intro xs ys o h
  rw [List.length_cons]at h
  rw [r6,r6,List.set_append_left o v (by omega),ih _ _ _ (by rw [List.length_set];omega)]
theorem XM {off:Nat} {vs:List Value} {n n':NodeP} (hv:bX (nodeCells n) off vs=nodeCells n') (ho:off+vs.length<=9): ∀{l:List NodeP} {i:Nat},l[i]?=some n->bX (l.flatMap nodeCells) (i*9+off) vs=(l.set i n').flatMap nodeCells:=by
 intro l
 induction l with
 |nil=>intro i h;simp at h
 |cons a l ih=>
  intro i h
  cases i with
  |zero=>
   have:a=n:=by simpa using h
   subst this
   rw [List.set_cons_zero,List.flatMap_cons,List.flatMap_cons,Nat.zero_mul,Nat.zero_add,W8 _ _ _ _ (by show _<=9;exact ho),hv]
  |succ i=>
   have h':l[i]?=some n:=by simpa using h
   rw [List.set_cons_succ,List.flatMap_cons,List.flatMap_cons,show (i+1)*9+off=(nodeCells a).length+(i*9+off) by show _=9+_;omega,abJ,ih h']
theorem Upd.appL {L L':List (Nat×Blk)} {b:Nat} {x y:Blk} (u:Upd L b x y L'): ∀A:List (Nat×Blk),Upd (A++L) b x y (A++L')
 | []=>u
 |_::A=> .tail (u.appL A)
theorem wY {g h:Hp} {A X:List (Nat×Blk)} {M:MSl} {m:ah} {i off k:Nat} {n n':NodeP} {vs:List Value} {F:Nat->Nat} {J:Hp->Prop} (o:MG X M m) (K:Kn g h (A++X)) (hni:m.nodes[i]?=some n)
  (hv:bX (nodeCells n) off vs=nodeCells n') (hk:vs.length=k) (ho:off+k<=9) (hF:F 0=i*9+off)
  (J': ∀X' h',MG X' M {m with nodes:=m.nodes.set i n'}->Kn g h' (A++X')->J h'):
  ∃(b p:Nat),M.no.a=some ⟨b,p,none⟩/\(0:Int)<=(i:Nat)/\((i:Nat):Int)<((M.no.n:Nat):Int)/\ ∃(cs:List Value) (z:Nat),h b=some (.inl ⟨cs,z,false⟩)/\F p+k<=List.length cs/\cM (h.row b (bX cs (F p) vs) z) fun h'=>J h':=by
 have hi:=get_lt hni
 have hl:=o.lens
 obtain⟨XN,XI,XE,XB,XH,rfl,a,b',c,d,e⟩:=o
 rcases a.2.2 with ⟨_,h0,_⟩|⟨b,ha,rfl⟩
 ·rw [h0]at hl;have:=hl.1;dsimp only at this;omega
 subst hk
 have hc:bX (m.nodes.flatMap nodeCells) (F 0) vs=(m.nodes.set i n').flatMap nodeCells:=by rw [hF];exact XM hv ho hni
 refine⟨b,0,ha,by omega,by omega,?_⟩
 refine Kn.wr (cs:=m.nodes.flatMap nodeCells) (z:=M.no.c*9) (o:=F 0) (vs:=vs) K (L':=A++([(b, .inl ⟨(m.nodes.set i n').flatMap nodeCells,M.no.c*9,false⟩)]++(XI++(XE++(XB++(XH++ [])))))) (by rw [hc];exact Upd.appL .head A) (by rw [hF,a.1];omega) fun h' K' _=>?_
 exact J' _ h' ⟨_,XI,XE,XB,XH,rfl,⟨by rw [ck (m:=9) (fun _=>rfl),List.length_set];omega,a.2.1, .inr ⟨b,ha,rfl⟩⟩,b',c,d,e⟩ K'
structure DZ (m:ah) (N:Nat):Prop where
 nodes:m.nodes.length<=N
 names: ∀n∈m.nodes,n.name.size<=100
 inits:m.inits.length<=N
 nexts:m.nexts.length<=N
 bads:m.bads.length<=N
 holds:m.holds.length<=N
theorem DM.z {m:ah} {N:Nat} (d:DM m N):DZ m N:=⟨d.nodes,d.names,d.inits,d.nexts,d.bads,d.holds⟩
theorem DZ.small {m:ah} {N:Nat} (d:DZ m N) (hN:N<=100000):bT m:=
 ⟨by have:=d.nodes;omega,by have:=d.inits;omega,by have:=d.nexts;omega,by have:=d.bads;omega,by have:=d.holds;omega,fun n hn=>by have:=d.names n hn;omega⟩
theorem DZ.more {m:ah} {N N':Nat} (d:DZ m N) (h:N<=N'):DZ m N':=
 ⟨Nat.le_trans d.nodes h,d.names,Nat.le_trans d.inits h,Nat.le_trans d.nexts h,Nat.le_trans d.bads h,Nat.le_trans d.holds h⟩
theorem DZ.addN {m:ah} {N:Nat} (d:DZ m N) {n:NodeP} (h2:n.name.size<=100):DZ {m with nodes:=m.nodes++ [n]} (N+1):=
 ⟨by have:=d.nodes;simp;omega,fun x hx=>by rcases List.mem_append.1 hx with hx|hx;exact d.names x hx;rw [List.mem_singleton.1 hx];exact h2,
  Nat.le_succ_of_le d.inits,Nat.le_succ_of_le d.nexts,Nat.le_succ_of_le d.bads,Nat.le_succ_of_le d.holds⟩
theorem DZ.set {m:ah} {N i:Nat} (d:DZ m N) {n:NodeP} (h2:n.name.size<=100):DZ {m with nodes:=m.nodes.set i n} N:=
 ⟨by have:=d.nodes;simp;omega,fun x hx=>by rcases List.mem_or_eq_of_mem_set hx with hx|rfl;exact d.names x hx;exact h2,d.inits,d.nexts,d.bads,d.holds⟩
theorem DZ.addI {m:ah} {N:Nat} (d:DZ m N) (x:BindP):DZ {m with inits:=m.inits++ [x]} (N+1):=
 ⟨Nat.le_succ_of_le d.nodes,d.names,by have:=d.inits;simp;omega,Nat.le_succ_of_le d.nexts,Nat.le_succ_of_le d.bads,Nat.le_succ_of_le d.holds⟩
theorem DZ.addE {m:ah} {N:Nat} (d:DZ m N) (x:BindP):DZ {m with nexts:=m.nexts++ [x]} (N+1):=
 ⟨Nat.le_succ_of_le d.nodes,d.names,Nat.le_succ_of_le d.inits,by have:=d.nexts;simp;omega,Nat.le_succ_of_le d.bads,Nat.le_succ_of_le d.holds⟩
theorem DZ.addB {m:ah} {N:Nat} (d:DZ m N) (xs:List Int) (hx:xs.length<=N):DZ {m with bads:=m.bads++xs} (2*N):=
 ⟨by have:=d.nodes;dsimp only;omega,d.names,by have:=d.inits;dsimp only;omega,by have:=d.nexts;dsimp only;omega,by have:=d.bads;simp;omega,by have:=d.holds;dsimp only;omega⟩
theorem DZ.addH {m:ah} {N:Nat} (d:DZ m N) (x:Int):DZ {m with holds:=m.holds++ [x]} (N+1):=
 ⟨Nat.le_succ_of_le d.nodes,d.names,Nat.le_succ_of_le d.inits,Nat.le_succ_of_le d.nexts,Nat.le_succ_of_le d.bads,by have:=d.holds;simp;omega⟩
theorem MG.appBs {g h:Hp} {A X:List (Nat×Blk)} {M:MSl} {m:ah} {xs:List Int} {src:Option Addr} {C:Option Addr->Nat->Nat->Hp->Prop} (o:MG X M m) (K:Kn g h (A++X)) (hm:m.bads.length+xs.length<=100000) (hx:0<xs.length)
  (f: ∃b p,src=some ⟨b,p,none⟩/\ji h b p (xs.map I))
  (k: ∀s' X' h',MG X' {M with bad:=s'} {m with bads:=m.bads++xs}->Kn g h' (A++X')->C s'.a s'.n s'.c h'):cy h M.bad.a M.bad.n M.bad.c src xs.length 1 8 C:=by
 have hl:=o.lens
 obtain⟨XN,XI,XE,XB,XH,rfl,a,b',c,d,e⟩:=o
 have sw: ∀Z:List (Nat×Blk),A++(XN++(XI++(XE++(Z++(XH++ [])))))=(A++(XN++XI))++(XE++(Z++(XH++ []))):=fun Z=>by simp
 rw [sw]at K
 refine Kn.growIn2 (news:=xs.map I) K d hx (by omega) (by omega) f (by simp) (List.all_eq_true.2 fun v hv=>by obtain⟨y,_,rfl⟩:=List.mem_map.1 hv;rfl) fun s' X' h' hn a' K' _=>?_
 rw [<-sw]at K'
 exact k s' _ h' ⟨XN,XI,XE,X',XH,rfl,a,b',c,by rw [List.map_append];exact a',e⟩ K'
abbrev aik :List Value:= [.string ⟨#[120]⟩, .string ⟨#[]⟩, .string ⟨#[88]⟩, .string ⟨#[116,111,111,108,111,110,103,110,97,109,101]⟩]
theorem ah0 {i:Nat} (h:i<4): ∃s:ByteArray,aik[i]?=some (.string s)/\s.size<=100:=by
 rcases i with _|_|_|_|i
 ·exact⟨_,rfl,by decide⟩
 ·exact⟨_,rfl,by decide⟩
 ·exact⟨_,rfl,by decide⟩
 ·exact⟨_,rfl,by decide⟩
 ·omega
theorem ae3 {h:Hp} {A X:List (Nat×Blk)} {g:Hp} {M:MSl} {m:ah} (o:MG X M m) (K:Kn g h (A++X)) (hm:m.bads.length<=100000) (hp:0<m.bads.length): ∃b p,M.bad.a=some ⟨b,p,none⟩/\ji h b p (m.bads.map I):=by
 have hl:=o.lens
 obtain⟨XN,XI,XE,XB,XH,rfl,a,b',c,d,e⟩:=o
 have:=(d.slcOf (h:=h) (by omega) fun x hx=>K.mem x (List.mem_append_right _ (by simp [hx])))
 exact SlC.get this (by omega)
theorem T8 {g h:Hp} {H X:List (Nat×Blk)} {b:Nat} {M:MSl} {m:ah} {N:Nat} {J:Hp->Prop} (o:MG X M m) (d:DZ m N) (hN:N<=10000) (K:Kn g h (H++X)) (hb:(b, .inl ⟨aH M,5,false⟩)∈H)
  (k: ∀s' X' h' m',MG X' {M with bad:=s'} m'->DZ m' (2*N)->(∀H',Upd H b (.inl ⟨aH M,5,false⟩) (.inl ⟨aH {M with bad:=s'},5,false⟩) H'->Kn g h' (H'++X'))->J h'):
  cy h M.bad.a M.bad.n M.bad.c M.bad.a M.bad.n 1 8 fun a n c h95=> ∃(cs:List Value) (z:Nat),h95 b=some (.inl ⟨cs,z,false⟩)/\3+1<=List.length cs/\cM (h95.row b (bX cs 3 [.slice a n c]) z) fun h'=>J h':=by
 have hl:=o.lens
 have hd:=d.bads
 by_cases h0:m.bads.length=0
 ·have hc:M.bad.n<=M.bad.c:=by obtain⟨_,_,_,_,_,_,_,_,_,d',_⟩:=o;exact d'.2.1
  refine .inl ⟨by omega,hc,?_⟩
  have f:=K.at (List.mem_append_left _ hb)
  exact⟨_,_,f,by simp,k M.bad X _ m o (d.more (by omega)) fun H' u=>K.set (u.app (X:=X))⟩
 have e:M.bad.n=m.bads.length:=by omega
 have key:=MG.appBs (xs:=m.bads) (C:=fun a n c h95=> ∃(cs:List Value) (z:Nat),h95 b=some (.inl ⟨cs,z,false⟩)/\3+1<=List.length cs/\cM (h95.row b (bX cs 3 [.slice a n c]) z) fun h'=>J h') o K (by omega) (by omega) (ae3 o K (by omega) (by omega)) fun s' X' h7 o' K7=>by
  have f:=K7.at (List.mem_append_left _ hb)
  exact⟨_,_,f,by simp,k s' X' _ _ o' (d.addB _ d.bads) fun H' u=>K7.set (u.app (X:=X'))⟩
 rw [<-e]at key
 exact key
set_option maxHeartbeats 4000000 in
theorem Bc {g h:Hp} {A:List (Nat×Blk)} {B p:Nat} {s:Sl} {bs:List Nat} {R:Value->Hp->Prop} (K:Kn g h ((B,rdC s p)::A)) (hb:ByteS g s bs) (hp:p<=10000)
  (k: ∀h' p' X' M' m',Kn g h' ((B,rdC s p')::(A++X'))->MG X' M' m'->DZ m' 4000->p'<=p+200000->R (aQ M') h'):
  jJ #[.pointer (some ⟨B,0,none⟩)] h R:=by
 apply Dv
 refine uf_ ?_
 refine Kn.al K fun b3 h1 K1 l1 hb3=>?_
 clear K l1 hb3
 refine Mw (A:=(b3, .inl ⟨eA,5,false⟩)::A) K1.sw hb hp fun h2 p2 X2 M2 m2 K2 o2 d2 c2 n2 hp2=>⟨_,_,_,_,_,rfl,?_⟩
 replace K2:Kn g h2 ((b3, .inl ⟨eA,5,false⟩)::(B,rdC s p2)::(A++X2)):=K2.sw
 refine Kn.al K2 fun b13 h3 K3 l3 hb13=>?_
 clear K2 l3 hb13
 refine ww (M':=M2) K3 (by((focus ((repeat first|exact .head|apply Upd.tail);done)))) rfl fun h4 K4=>?_
 clear K3
 refine kp_ ?_
 intro x21 h5 K5 _ _
 refine⟨_,rfl,?_⟩
 clear K4
 refine ap (fun J=> ∀h5 q X M m,MG X M m->DZ m 400->0<m.nodes.length->q<=p+100002->Kn g h5 ((b13, .inl ⟨aH M,5,false⟩)::(b3, .inl ⟨eA,5,false⟩)::(B,rdC s q)::(A++X))->J h5)
  (fun hz q X M m o d hne hq Kz=>?_) (fun J hJ=>?_)
 rotate_left
 ·refine ad (fun _=>?_) (fun _=>hJ h5 _ X2 M2 m2 o2 d2.z n2 (by omega) K5)
  refine xg (A:=(b13, .inl ⟨aH M2,5,false⟩)::(b3, .inl ⟨eA,5,false⟩)::(A++X2)) (K5.perm (CL _ _ _ _)) hb (by omega) fun h6 q6 X6 M6 m6 K6 o6 d6 c6 n6 hq6=>⟨_,_,_,_,_,rfl,?_⟩
  have K6':Kn g h6 ((b13, .inl ⟨aH M2,5,false⟩)::(b3, .inl ⟨eA,5,false⟩)::(B,rdC s q6)::((A++X2)++X6)):=K6.perm (CL _ _ _ _).symm
  clear K5 K6
  refine ww (M':=M6) K6' (by((focus ((repeat first|exact .head|apply Upd.tail);done)))) rfl fun h7 K7=>?_
  refine hJ h7 q6 X6 M6 m6 o6 (d6.z.more (by omega)) n6 (by omega) (K7.subl ?_)
  exact List.Sublist.cons_cons _ (List.Sublist.cons_cons _ (List.Sublist.cons_cons _ (List.Sublist.append_right (List.sublist_append_left _ _) _)))
 clear K5 K1 o2 d2 c2 n2 hp2 m2 M2 X2 p2
 have hl:=o.lens
 have hnl:=d.nodes
 refine kp_ ?_
 intro x38 h6 K6 _ _
 refine⟨_,rfl,?_⟩
 clear Kz
 refine ad (fun _=>?_) (fun _=>?_)
 ·repeat' (refine kr_ ?_)
  refine G0 (M:=M) K6 (by((focus ((repeat first|exact .head|apply Upd.tail);done)))) fun h7 K7=>?_
  exact k h7 _ X M m K7.tl.tl o (d.more (by omega)) (by omega)
 repeat' (refine kr_ ?_)
 refine kp_ ?_
 intro a h7 K7 ha _
 refine⟨_,rfl,?_⟩
 replace ha:a<m.nodes.length:=by have:=ha (by omega);omega
 clear K6
 refine kp_ ?_
 intro x62 h8 K8 _ _
 refine⟨_,rfl,?_⟩
 clear K7
 refine ap (fun J=> ∀h5 q X M m,MG X M m->DZ m 4000->q<=p+200000->Kn g h5 ((b13, .inl ⟨aH M,5,false⟩)::(b3, .inl ⟨eA,5,false⟩)::(B,rdC s q)::(A++X))->J b3 0 b13 0 h5)
  (fun h5 q X M m o d hq K5=>?_) (fun J hJ=>?_)
 ·repeat' (refine kr_ ?_)
  refine G0 (M:=M) K5 (by((focus ((repeat first|exact .head|apply Upd.tail);done)))) fun h7 K7=>?_
  exact k h7 _ X M m K7.tl.tl o d (by omega)
 clear k
 obtain⟨n,hna⟩: ∃n,m.nodes[a]?=some n:=⟨_,List.getElem?_eq_getElem ha⟩
 have hnm:=d.names n (List.mem_of_getElem? hna)
 have dset: ∀n':NodeP,n'.name.size<=100->DZ {m with nodes:=m.nodes.set a n'} 4000:=fun n' h=>(d.set h).more (by omega)
 refine ad (fun _=>?_) (fun _=>ad (fun _=>?_) (fun _=>ad (fun _=>?_) (fun _=>ad (fun _=>?_) (fun _=>ad (fun _=>?_) (fun _=>ad (fun _=>?_) (fun _=>ad (fun _=>?_) (fun _=>ad (fun _=>?_) (fun _=>ad (fun _=>?_) (fun _=>ad (fun _=>?_) (fun _=>ad (fun _=>?_) (fun _=>ad (fun _=>?_) (fun _=>ad (fun _=>?_) (fun _=>ad (fun _=>?_) (fun _=>?_))))))))))))))
 ·(refine kr_ ?_)
  refine kp_ ?_
  intro x h9 K9 _ _
  refine⟨_,rfl,?_⟩
  (refine kr_ ?_)
  refine wY (A:=_::_::_::A) (n':={n with kind:=W ((x:Int)-1)}) (off:=0) o K9 hna rfl rfl (by omega) (by rw [Int.toNat_natCast];omega) fun X' h10 o' K10=>?_
  exact hJ h10 _ X' M _ o' (dset _ hnm) (by omega) K10
 ·(refine kr_ ?_)
  (refine kr_ ?_)
  rw [cd (by omega) (by omega)]
  refine kp_ ?_
  intro x h9 K9 _ _
  refine⟨_,rfl,?_⟩
  (refine kr_ ?_)
  refine wY (A:=_::_::_::A) (n':={n with a:=W ((x:Int)-1)}) (off:=1) o K9 hna rfl rfl (by omega) (by rw [Int.toNat_natCast];omega) fun X' h10 o' K10=>?_
  exact hJ h10 _ X' M _ o' (dset _ hnm) (by omega) K10
 ·(refine kr_ ?_)
  refine kp_ ?_
  intro x h9 K9 _ _
  refine⟨_,rfl,?_⟩
  (refine kr_ ?_)
  refine wY (A:=_::_::_::A) (n':={n with n:=W ((x:Int)-2)}) (off:=4) o K9 hna rfl rfl (by omega) (by rw [Int.toNat_natCast];omega) fun X' h10 o' K10=>?_
  exact hJ h10 _ X' M _ o' (dset _ hnm) (by omega) K10
 ·(refine kr_ ?_)
  refine kp_ ?_
  intro x h9 K9 _ _
  refine⟨_,rfl,?_⟩
  (refine kr_ ?_)
  refine wY (A:=_::_::_::A) (n':={n with sort:=⟨n.sort.idx,W ((x:Int)-1)⟩}) (off:=7) o K9 hna rfl rfl (by omega) (by rw [Int.toNat_natCast];omega) fun X' h10 o' K10=>?_
  exact hJ h10 _ X' M _ o' (dset _ hnm) (by omega) K10
 ·(refine kr_ ?_)
  refine⟨?_,?_⟩
  ·refine Kn.al K8 fun b111 h9 K9 l9 hb9=>?_
   (refine kr_ ?_)
   refine kp_ ?_
   intro x h10 K10 hx _
   refine⟨_,rfl,?_⟩
   replace hx:x<4:=by have:=hx (by omega);omega
   obtain⟨t,ht,hz⟩:=ah0 hx
   repeat' (refine kr_ ?_)
   refine⟨by omega,by omega,t,by rw [ax (K10.at (.head _)),Int.toNat_natCast,Nat.zero_add,Nat.mul_one];exact ht,?_⟩
   refine wY (A:=_::_::_::_::A) (n':={n with name:=t}) (off:=8) o K10 hna rfl rfl (by omega) (by rw [Int.toNat_natCast];omega) fun X' h11 o' K11=>?_
   exact hJ h11 _ X' M _ o' (dset _ hz) (by omega) K11.tl
  ·refine kp_ ?_
   intro x h9 K9 hx _
   refine⟨_,rfl,?_⟩
   replace hx:x<4:=by have:=hx (by omega);omega
   obtain⟨t,ht,hz⟩:=ah0 hx
   (refine kr_ ?_)
   refine Kn.al K9 fun b111 h10 K10 l10 hb10=>?_
   repeat' (refine kr_ ?_)
   refine⟨by omega,by omega,t,by rw [ax (K10.at (.head _)),Int.toNat_natCast,Nat.zero_add,Nat.mul_one];exact ht,?_⟩
   refine wY (A:=_::_::_::_::A) (n':={n with name:=t}) (off:=8) o K10 hna rfl rfl (by omega) (by rw [Int.toNat_natCast];omega) fun X' h11 o' K11=>?_
   exact hJ h11 _ X' M _ o' (dset _ hz) (by omega) K11.tl
 ·(refine kr_ ?_)
  refine cm ⟨_,_,rfl,?_⟩
  (refine kr_ ?_)
  obtain⟨n0,hn0⟩: ∃n,m.nodes[0]?=some n:=⟨_,List.getElem?_eq_getElem hne⟩
  refine wY (A:=_::_::_::A) (i:=0) (n':={n0 with sort:=cR 9}) (off:=6) o K8 hn0 rfl rfl (by omega) rfl fun X' h10 o' K10=>?_
  exact hJ h10 _ X' M _ o' ((DZ.set (i:=0) (n:={n0 with sort:=cR 9}) d (d.names n0 (List.mem_of_getElem? hn0))).more (by omega)) (by omega) K10
 ·have hdi:=d.inits
  (refine kr_ ?_)
  refine Kn.al K8 fun b9 h9 K9 l9 hb9=>?_
  refine WN (H:=_::_::_::A) (nd:=⟨0,(a:Nat)⟩) o K9 (by omega) (.head _) fun s' X' h10 o' KF=>?_
  have K10:=KF _ (by((focus ((repeat first|exact .head|apply Upd.tail);done))))
  simp only [List.cons_append]at K10
  exact hJ h10 _ X' _ _ o' ((d.addI _).more (by omega)) (by omega) K10
 ·have hde:=d.nexts
  (refine kr_ ?_)
  (refine kr_ ?_)
  refine kp_ ?_
  intro x h9 K9 _ _
  refine⟨_,rfl,?_⟩
  (refine kr_ ?_)
  refine Kn.al K9 fun b9 h10 K10 l10 hb10=>?_
  (refine kr_ ?_)
  refine Ws (H:=_::_::_::A) (nd:=⟨(x:Nat),(a:Nat)⟩) o K10 (by omega) (.head _) fun s' X' h11 o' KF=>?_
  have K11:=KF _ (by((focus ((repeat first|exact .head|apply Upd.tail);done))))
  simp only [List.cons_append]at K11
  exact hJ h11 _ X' _ _ o' ((d.addE _).more (by omega)) (by omega) K11
 ·have hdb:=d.bads
  (refine kr_ ?_)
  (refine kr_ ?_)
  rw [cd (by omega) (by omega)]
  refine kp_ ?_
  intro x h9 K9 _ _
  refine⟨_,rfl,?_⟩
  (refine kr_ ?_)
  refine Kn.al K9 fun b9 h10 K10 l10 hb10=>?_
  (refine kr_ ?_)
  refine aa6 (H:=_::_::_::A) (nd:=W ((x:Int)-1)) o K10 (by omega) (.head _) fun s' X' h11 o' KF=>?_
  have K11:=KF _ (by((focus ((repeat first|exact .head|apply Upd.tail);done))))
  simp only [List.cons_append]at K11
  exact hJ h11 _ X' _ _ o' ((d.addB [_] (by simp)).more (by omega)) (by omega) K11
 ·have hdh:=d.holds
  (refine kr_ ?_)
  refine Kn.al K8 fun b9 h9 K9 l9 hb9=>?_
  refine VN (H:=_::_::_::A) (nd:=(a:Nat)) o K9 (by omega) (.head _) fun s' X' h10 o' KF=>?_
  have K10:=KF _ (by((focus ((repeat first|exact .head|apply Upd.tail);done))))
  simp only [List.cons_append]at K10
  exact hJ h10 _ X' _ _ o' ((d.addH _).more (by omega)) (by omega) K10
 ·(refine kr_ ?_)
  (refine kr_ ?_)
  refine T8 (H:=_::_::_::A) o d (by omega) K8 (.head _) fun s' X' h9 m' o' d' KF=>?_
  have K9:=KF _ (by((focus ((repeat first|exact .head|apply Upd.tail);done))))
  simp only [List.cons_append]at K9
  clear KF K8
  (refine kr_ ?_)
  (refine kr_ ?_)
  refine T8 (H:=_::_::_::A) o' d' (by omega) K9 (.head _) fun s2 X2 h10 m2 o2 d2 KF=>?_
  have K10:=KF _ (by((focus ((repeat first|exact .head|apply Upd.tail);done))))
  simp only [List.cons_append]at K10
  clear KF K9
  (refine kr_ ?_)
  (refine kr_ ?_)
  refine T8 (H:=_::_::_::A) o2 d2 (by omega) K10 (.head _) fun s3 X3 h11 m3 o3 d3 KF=>?_
  have K11:=KF _ (by((focus ((repeat first|exact .head|apply Upd.tail);done))))
  simp only [List.cons_append]at K11
  exact hJ h11 _ X3 _ _ o3 (d3.more (by omega)) (by omega) K11
 ·refine au 62 (fun i vs h'=> ∃q X M m',vs= [.pointer (some ⟨B,0,none⟩), .pointer (some ⟨b3,0,none⟩), .pointer (some ⟨b13,0,none⟩)]/\MG X M m'/\DZ m' (400+i)/\m'.nodes.length=m.nodes.length+i/\q<=p+100010+i/\
   Kn g h' ((b13, .inl ⟨aH M,5,false⟩)::(b3, .inl ⟨eA,5,false⟩)::(B,rdC s q)::(A++X))) ⟨_,X,M,m,rfl,o,d,rfl,by omega,K8⟩ ?_
  clear K8
  rintro i _ h9 nxt hi ⟨q',X',M',m',rfl,o',d',hl',hq',K9⟩ hnx
  refine⟨_,b3,0,b13,0,rfl,?_⟩
  have hn':=o'.lens
  (refine kr_ ?_)
  refine kp_ ?_
  intro x h10 K10 hx _
  refine⟨_,rfl,?_⟩
  replace hx:x<2:=by have:=hx (by omega);omega
  (refine kr_ ?_)
  rw [cd (by omega) (by omega)]
  refine ad (fun e=>?_) (fun e=>hJ h10 _ X' M' m' o' (d'.more (by omega)) (by omega) K10)
  have e:=of_decide_eq_true e
  clear K9
  (refine kr_ ?_)
  refine cm ⟨_,_,rfl,?_⟩
  (refine kr_ ?_)
  refine Kn.al K10 fun b9 h11 K11 l11 hb11=>?_
  (refine kr_ ?_)
  refine nr (H:=_::_::_::A) (nd:=⟨34,0,0,0,0,0,cR 3,⟨#[]⟩⟩) o' K11 (by omega) (.head _) fun s' X3 h12 o3 KF=>?_
  have K12:=KF _ (by((focus ((repeat first|exact .head|apply Upd.tail);done))))
  simp only [List.cons_append]at K12
  exact hnx (by omega) _ _ ⟨_,X3,_,_,rfl,o3,d'.addN (n:=⟨34,0,0,0,0,0,cR 3,⟨#[]⟩⟩) (show (0:Nat)<=100 by omega),by simp;omega,by omega,K12⟩
 ·(refine kr_ ?_)
  refine kp_ ?_
  intro x h9 K9 _ _
  refine⟨_,rfl,?_⟩
  (refine kr_ ?_)
  refine wY (A:=_::_::_::A) (n':={n with sort:=⟨(x:Nat),n.sort.wid⟩}) (off:=6) o K9 hna rfl rfl (by omega) (by rw [Int.toNat_natCast];omega) fun X' h10 o' K10=>?_
  exact hJ h10 _ X' M _ o' (dset _ hnm) (by omega) K10
 ·(refine kr_ ?_)
  refine cm ⟨_,_,rfl,?_⟩
  (refine kr_ ?_)
  refine Kn.al K8 fun b9 h11 K11 l11 hb11=>?_
  (refine kr_ ?_)
  refine nr (H:=_::_::_::A) (nd:=⟨35,0,0,0,0,0,cR 4,⟨#[119,105,100,101]⟩⟩) o K11 (by omega) (.head _) fun s' X3 h12 o3 KF=>?_
  have K12:=KF _ (by((focus ((repeat first|exact .head|apply Upd.tail);done))))
  simp only [List.cons_append]at K12
  exact hJ h12 _ X3 _ _ o3 ((d.addN (n:=⟨35,0,0,0,0,0,cR 4,⟨#[119,105,100,101]⟩⟩) (show (4:Nat)<=100 by omega)).more (by omega)) (by omega) K12
 ·exact hJ h8 _ X M m o (d.more (by omega)) (by omega) K8
theorem Eb {h:Hp} {M:MSl} {m:ah} {x:Int} {R:Value->Hp->Prop} (hs:aO h M m) (hm:bT m) (hc:aG m=0)
  (kf: ∀h',¬(0<=x/\x<(2^ak m.nodes 36:Nat))->h.le h'->R (.tuple #[.slice none 0 0, .bool false]) h')
  (kt: ∀(c:Nat) out h',x=c->c<2^ak m.nodes 36->h.le h'->IntSS h' out ((dP m.nodes (stP m) c).map VL)->R (.tuple #[Sl.v out, .bool true]) h'):jB #[aQ M,I x] h R:=by
 apply A9
 refine uf_ ?_
 have g:=cD hc
 have n8:=g.n8
 have hp2:2^ak m.nodes 36<=2^8:=Nat.pow_le_pow_right (by omega) n8
 have hp0:0<2^ak m.nodes 36:=Nat.two_pow_pos _
 have K0:=Kn.nil h
 (with_reducible apply Kn.al);(assumption);(intro b8 h1 K1 l1 hb8)
 clear K0
 have hs1:=hs.mono K1.le
 refine ap (fun J=>J (!decide (0<=x/\x<=((2^ak m.nodes 36:Nat):Int)-1)) h1) ?_ (fun J hJ=>?_)
 rotate_left
 ·repeat' (refine kr_ ?_)
  refine cj hs1 hm ⟨_,rfl,?_⟩
  refine aC (by rw [hc];rfl) ?_
  repeat' (refine kr_ ?_)
  refine jg hs1 hm ⟨_,rfl,?_⟩
  rw [cY (by omega),if_neg (by omega),cw (by omega),cd (by omega) (by omega)]
  exact ey ⟨_,rfl,hJ⟩
 refine ad (fun e=>kf h1 (fun q=>by
  have e':decide (0<=x/\x<=((2^ak m.nodes 36:Nat):Int)-1)=false:=by rw [Bool.not_eq_true']at e;exact e
  have:=of_decide_eq_false e'
  omega) K1.le) (fun e=>?_)
 have hx:0<=x/\x<(2^ak m.nodes 36:Nat):=by
  have:decide (0<=x/\x<=((2^ak m.nodes 36:Nat):Int)-1)=true:=by simpa using e
  have:=of_decide_eq_true this
  omega
 clear e kf
 obtain⟨c,rfl⟩: ∃c:Nat,x=c:=⟨x.toNat,by omega⟩
 repeat' (refine kr_ ?_)
 refine cJ hs1 hm fun t h2 l2 it=>⟨_,rfl,?_⟩
 have K2:=K1.mono l2
 (refine kr_ ?_)
 refine fN (hs1.mono l2) hm g.ok it (fun p hp=>lc hp) (ge g 36) (by omega) (by rw [eM g];omega) fun out h3 l3 io=>⟨_,rfl,?_⟩
 exact kt c out h3 rfl (by omega) (Hp.le_trans K2.le l3) io
theorem Fm {h:Hp} {M:MSl} {m:ah} {x:Int} {R:Value->Hp->Prop} (hs:aO h M m) (hm:bT m) (hc:aG m=0)
  (kf: ∀h',¬(0<=x/\x<(2^ak m.nodes 35:Nat))->h.le h'->R (.tuple #[.slice none 0 0, .bool false]) h')
  (kt: ∀(c:Nat) out h',x=c->c<2^ak m.nodes 35->h.le h'->IntSS h' out ((dP m.nodes (inP m) c).map VL)->R (.tuple #[Sl.v out, .bool true]) h'):kN #[aQ M,I x] h R:=by
 apply Li
 refine uf_ ?_
 have g:=cD hc
 have n8:=g.k5
 have hp2:2^ak m.nodes 35<=2^5:=Nat.pow_le_pow_right (by omega) n8
 have hp0:0<2^ak m.nodes 35:=Nat.two_pow_pos _
 have K0:=Kn.nil h
 (with_reducible apply Kn.al);(assumption);(intro b8 h1 K1 l1 hb8)
 clear K0
 have hs1:=hs.mono K1.le
 refine ap (fun J=>J (!decide (0<=x/\x<=((2^ak m.nodes 35:Nat):Int)-1)) h1) ?_ (fun J hJ=>?_)
 rotate_left
 ·repeat' (refine kr_ ?_)
  refine cj hs1 hm ⟨_,rfl,?_⟩
  refine aC (by rw [hc];rfl) ?_
  repeat' (refine kr_ ?_)
  refine jg hs1 hm ⟨_,rfl,?_⟩
  rw [cY (by omega),if_neg (by omega),cw (by omega),cd (by omega) (by omega)]
  exact ey ⟨_,rfl,hJ⟩
 refine ad (fun e=>kf h1 (fun q=>by
  have e':decide (0<=x/\x<=((2^ak m.nodes 35:Nat):Int)-1)=false:=by rw [Bool.not_eq_true']at e;exact e
  have:=of_decide_eq_false e'
  omega) K1.le) (fun e=>?_)
 have hx:0<=x/\x<(2^ak m.nodes 35:Nat):=by
  have:decide (0<=x/\x<=((2^ak m.nodes 35:Nat):Int)-1)=true:=by simpa using e
  have:=of_decide_eq_true this
  omega
 clear e kf
 obtain⟨c,rfl⟩: ∃c:Nat,x=c:=⟨x.toNat,by omega⟩
 repeat' (refine kr_ ?_)
 refine cJ hs1 hm fun t h2 l2 it=>⟨_,rfl,?_⟩
 have K2:=K1.mono l2
 (refine kr_ ?_)
 refine fN (hs1.mono l2) hm g.ok it (fun p hp=>lc hp) (ge g 35) (by omega) (by rw [wH g];omega) fun out h3 l3 io=>⟨_,rfl,?_⟩
 exact kt c out h3 rfl (by omega) (Hp.le_trans K2.le l3) io
set_option maxHeartbeats 1000000 in
theorem B9 {h:Hp} {M:MSl} {m:ah} {sS sI:Sl} {xs ys:List Int} {i c d:Nat} {R:Value->Hp->Prop} (hs:aO h M m) (hm:bT m) (g:cr m) (h1:IntS h sS xs) (h2:IntS h sI ys)
  (hc:xs[i]?=some (c:Int)) (hd:ys[i]?=some (d:Int)) (hcl:c<2^ak m.nodes 36) (hdl:d<2^ak m.nodes 35)
  (k: ∀s t h',h.le h'->IntSS h' s ((dP m.nodes (stP m) c).map VL)->IntSS h' t ((dP m.nodes (inP m) d).map VL)->R (.tuple #[Sl.v s,Sl.v t]) h'):
  js #[aQ M, .agg #[sS.v,sI.v],I (i:Nat)] h R:=by
 apply Td
 refine uf_ ?_
 have n8:=g.n8
 have k5:=g.k5
 have hp8:2^ak m.nodes 36<=2^8:=Nat.pow_le_pow_right (by omega) n8
 have hp5:2^ak m.nodes 35<=2^5:=Nat.pow_le_pow_right (by omega) k5
 have K0:=Kn.nil h
 (with_reducible apply Kn.al);(assumption);(intro b10 g1 K1 l1 hb10)
 (with_reducible apply Kn.al);(assumption);(intro b12 g2 K2 l2 hb12)
 clear K1 K0
 have hs2:=hs.mono K2.le
 have ls:=h1.len
 have lt:=h2.len
 have i1:=get_lt hc
 have i2:=get_lt hd
 obtain⟨b26,o26,ha,hca⟩:=h1.get hc
 obtain⟨b40,o40,hb,hcb⟩:=h2.get hd
 have x26:=fT hca
 have x40:=fT hcb
 replace hca:=K2.le.cell hca
 replace hcb:=K2.le.cell hcb
 repeat' (refine kr_ ?_)
 refine⟨b26,o26,ha,by omega,by omega,_,by rw [Int.toNat_natCast];exact hca,?_⟩
 repeat' (refine kr_ ?_)
 refine⟨b40,o40,hb,by omega,by omega,_,by rw [Int.toNat_natCast];exact hcb,?_⟩
 refine cJ hs2 hm fun t1 g3 l3 it=>⟨_,rfl,?_⟩
 have K3:=K2.mono l3
 repeat' (refine kr_ ?_)
 refine fN (hs2.mono l3) hm g.ok it (fun p hp=>lc hp) (ge g 36) (by omega) (by rw [eM g];omega) fun out1 g4 l4 io1=>⟨_,rfl,?_⟩
 have K4:=K3.mono l4
 clear K3
 repeat' (refine kr_ ?_)
 refine cJ (hs.mono K4.le) hm fun t2 g5 l5 it2=>⟨_,rfl,?_⟩
 have K5:=K4.mono l5
 clear K4
 repeat' (refine kr_ ?_)
 refine fN (hs.mono K5.le) hm g.ok it2 (fun p hp=>lc hp) (ge g 35) (by omega) (by rw [wH g];omega) fun out2 g6 l6 io2=>⟨_,rfl,?_⟩
 exact k out1 out2 g6 (Hp.le_trans K5.le l6) (io1.mono (Hp.le_trans l5 l6)) io2
def p9 (m:ah) (xs ys:List Int):Bool:=
 (decide (aG m=0)&&(decide (1<=(xs.length:Int)/\(xs.length:Int)<=301)&&decide (ys.length=xs.length)))&&(xs.all (k9 (ak m.nodes 36))&&ys.all (k9 (ak m.nodes 35)))
theorem ye {h:Hp} {M:MSl} {m:ah} {sS sI:Sl} {xs ys:List Int} {R:Value->Hp->Prop} (hs:aO h M m) (hm:bT m) (h1:IntS h sS xs) (h2:IntS h sI ys)
  (k:R (.bool (p9 m xs ys)) h):kq #[.agg #[sS.v,sI.v],aQ M] h R:=by
 refine ACalls.drop (CC ?_)
 refine uf_ ?_
 have K0:=Kn.nil h
 (with_reducible apply Kn.al);(assumption);(intro b9 g1 K1 l1 hb9)
 (with_reducible apply Kn.al);(assumption);(intro b11 g2 K2 l2 hb11)
 clear K1 K0
 have hs2:=hs.mono K2.le
 have ls:=h1.len
 have lt:=h2.len
 unfold p9 at k
 repeat' (refine kr_ ?_)
 refine gJ hs2 hm ⟨_,rfl,?_⟩
 refine ad (fun e=>?_) (fun e=>?_)
 rotate_left
 ·repeat' (refine kr_ ?_)
  rw [decide_eq_false (fun q=>by rw [q]at e;simp at e)]at k
  exact⟨h,K2.le,k⟩
 have hc:aG m=0:=by simpa using e
 have g:=cD hc
 have n8:=g.n8
 have k5:=g.k5
 rw [decide_eq_true hc,Bool.true_and]at k
 repeat' (refine kr_ ?_)
 rw [ls]
 refine gU ⟨_,rfl,ad (fun e=>?_) (fun e=>?_)⟩
 rotate_left
 ·repeat' (refine kr_ ?_)
  rw [e]at k
  exact⟨h,K2.le,k⟩
 rw [e,Bool.true_and]at k
 repeat' (refine kr_ ?_)
 refine ad (fun e=>?_) (fun e=>?_)
 rotate_left
 ·repeat' (refine kr_ ?_)
  rw [decide_eq_false (fun q=>by rw [lt,q,ls]at e;simp at e)]at k
  exact⟨h,K2.le,k⟩
 rw [decide_eq_true (show ys.length=xs.length by have:=of_decide_eq_true e;omega),Bool.true_and]at k
 repeat' (refine kr_ ?_)
 refine gy hs2 hm ⟨_,rfl,?_⟩
 repeat' (refine kr_ ?_)
 refine L8 (h1.mono K2.le) (by omega) ⟨_,rfl,ad (fun e=>?_) (fun e=>?_)⟩
 rotate_left
 ·repeat' (refine kr_ ?_)
  rw [e]at k
  exact⟨h,K2.le,k⟩
 rw [e,Bool.true_and]at k
 repeat' (refine kr_ ?_)
 refine gy hs2 hm ⟨_,rfl,?_⟩
 repeat' (refine kr_ ?_)
 exact L8 (h2.mono K2.le) (by omega) ⟨_,rfl,⟨h,K2.le,k⟩⟩
theorem jX {n:Nat} {x:Int}:k9 n x=true↔0<=x/\x<(2^n:Nat):=by
 unfold k9
 rw [decide_eq_true_eq];omega
theorem HA {h:Hp} {M:MSl} {m:ah} {x:Int} {R:Value->Hp->Prop} (hs:aO h M m) (hm:bT m) (hc:aG m=0)
  (k: ∀s h',h.le h'->R (.tuple #[Sl.v s, .bool (k9 (ak m.nodes 36) x)]) h'):jB #[aQ M,I x] h R:=by
 refine Eb hs hm hc (fun h' e l=>?_) (fun c out h' e hlt l io=>?_)
 ·have:=k ⟨none,0,0⟩ h' l
  rw [Bool.eq_false_iff.2 fun q=>e (jX.1 q)]at this
  exact this
 ·have:=k out h' l
  rw [jX.2 ⟨by omega,by omega⟩]at this
  exact this
theorem HC {h:Hp} {M:MSl} {m:ah} {x:Int} {R:Value->Hp->Prop} (hs:aO h M m) (hm:bT m) (hc:aG m=0)
  (k: ∀s h',h.le h'->R (.tuple #[Sl.v s, .bool (k9 (ak m.nodes 35) x)]) h'):kN #[aQ M,I x] h R:=by
 refine Fm hs hm hc (fun h' e l=>?_) (fun c out h' e hlt l io=>?_)
 ·have:=k ⟨none,0,0⟩ h' l
  rw [Bool.eq_false_iff.2 fun q=>e (jX.1 q)]at this
  exact this
 ·have:=k out h' l
  rw [jX.2 ⟨by omega,by omega⟩]at this
  exact this
theorem ri {α:Type} {l:List α} {p:α->Bool} {i:Nat} {x:α} (h:l[i]?=some x) (e:p x=false):l.all p=false:=by
 rw [Bool.eq_false_iff]
 intro q
 rw [List.all_eq_true.1 q x (List.mem_of_getElem? h)]at e;cases e
theorem GA {α:Type} {l:List α} {p:α->Bool} {i:Nat} {x:α} (h:l[i]?=some x) (e:p x=true) (q:(l.take i).all p=true):(l.take (i+1)).all p=true:=by
 rw [List.take_add_one,h,List.all_append,q]
 simp [e]
def DP (m:ah) (xs ys:List Int):Bool:=decide (aG m=0)&&(decide (1<=(xs.length:Int)/\(xs.length:Int)<=301)&&decide (ys.length=xs.length))
set_option maxHeartbeats 1000000 in
theorem zJ {h:Hp} {M:MSl} {m:ah} {sS sI:Sl} {xs ys:List Int} {R:Value->Hp->Prop} (hs:aO h M m) (hm:bT m) (h1:IntS h sS xs) (h2:IntS h sI ys)
  (k:R (.bool (p9 m xs ys)) h):rb #[aQ M, .agg #[sS.v,sI.v]] h R:=by
 refine ACalls.drop (Kk ?_)
 refine uf_ ?_
 have K0:=Kn.nil h
 (with_reducible apply Kn.al);(assumption);(intro b9 g1 K1 l1 hb9)
 (with_reducible apply Kn.al);(assumption);(intro b11 g2 K2 l2 hb11)
 clear K1 K0
 have hs2:=hs.mono K2.le
 have ls:=h1.len
 have lt:=h2.len
 replace k:R (.bool (DP m xs ys&&(xs.all (k9 (ak m.nodes 36))&&ys.all (k9 (ak m.nodes 35))))) h:=k
 refine ap (fun J=>(DP m xs ys=false->J true g2)/\
  (aG m=0->xs.length<=301->ys.length=xs.length->DP m xs ys=true->J false g2)) ⟨fun e=>?_,fun hc hl hl2 e=>?_⟩ (fun J hJ=>?_)
 ·rw [e]at k
  exact aM rfl ⟨h,K2.le,k⟩
 ·rw [e,Bool.true_and]at k
  refine aC rfl ?_
  have g:=cD hc
  refine au xs.length (fun i vs h'=>vs= [.pointer (some ⟨b9,0,none⟩), .pointer (some ⟨b11,0,none⟩),I (i:Nat)]/\(xs.take i).all (k9 (ak m.nodes 36))=true/\(ys.take i).all (k9 (ak m.nodes 35))=true/\
   Kn h h' ((b11, .inl ⟨[sS.v,sI.v],2,false⟩)::(b9, .inl ⟨aH M,5,false⟩):: [])) ⟨rfl,by simp,by simp,K2⟩ ?_
  clear K2
  rintro i _ h3 next hi ⟨rfl,a1,a2,K3⟩ hnx
  refine⟨b9,0,b11,0,_,rfl,?_⟩
  (refine kr_ ?_)
  by_cases hlt:i<xs.length
  rotate_left
  ·refine aC (by simp [ls];omega) ?_
   rw [List.take_of_length_le (by omega)]at a1 a2
   rw [a1,a2]at k
   exact⟨h,K3.le,k⟩
  refine aM (by simp [ls];omega) ?_
  obtain⟨x,hx⟩: ∃x,xs[i]?=some x:=⟨_,List.getElem?_eq_getElem hlt⟩
  obtain⟨y,hy⟩: ∃y,ys[i]?=some y:=⟨_,List.getElem?_eq_getElem (by omega)⟩
  obtain⟨b,o,ha,hca⟩:=(h1.mono K3.le).get hx
  repeat' (refine kr_ ?_)
  refine⟨b,o,ha,by omega,by omega,_,by rw [Int.toNat_natCast];exact hca,?_⟩
  refine HA (hs.mono K3.le) hm hc fun s1 h4 l4=>⟨_,_,rfl,?_⟩
  have K4:=K3.mono l4
  clear K3 hca ha o b
  obtain⟨b,o,ha,hca⟩:=(h2.mono K4.le).get hy
  repeat' (refine kr_ ?_)
  refine⟨b,o,ha,by omega,by omega,_,by rw [Int.toNat_natCast];exact hca,?_⟩
  refine HC (hs.mono K4.le) hm hc fun s2 h5 l5=>⟨_,_,rfl,?_⟩
  have K5:=K4.mono l5
  clear K4
  refine ap (fun J=>J (!(k9 (ak m.nodes 36) x&&k9 (ak m.nodes 35) y))) ?_ (fun J hJ=>?_)
  ·refine ad (fun e=>?_) (fun e=>?_)
   ·rw [Bool.not_eq_true',Bool.and_eq_false_iff]at e
    have:(xs.all (k9 (ak m.nodes 36))&&ys.all (k9 (ak m.nodes 35)))=false:=by
     rcases e with e|e
     ·rw [ri hx e,Bool.false_and]
     ·rw [ri hy e,Bool.and_false]
    rw [this]at k
    exact⟨h,K5.le,k⟩
   ·rw [Bool.not_eq_false',Bool.and_eq_true]at e
    rw [ay (by omega)]
    exact hnx hlt _ _ ⟨rfl,GA hx e.1 a1,GA hy e.2 a2,K5⟩
  ·refine ad (fun e=>?_) (fun e=>?_)
   ·rw [Bool.not_eq_true']at e;rw [e]at hJ;exact hJ
   ·rw [Bool.not_eq_false']at e;rw [e,Bool.true_and]at hJ;exact hJ
 ·repeat' (refine kr_ ?_)
  refine cj hs2 hm ⟨_,rfl,?_⟩
  refine ad (fun e=>hJ.1 (by unfold DP;rw [decide_eq_false (fun q=>by rw [q]at e;simp at e)];rfl)) (fun e=>?_)
  have hc:aG m=0:=by simpa using e
  repeat' (refine kr_ ?_)
  rw [ls]
  refine ey ⟨_,rfl,ad (fun e=>hJ.1 (by rw [Bool.not_eq_true']at e;unfold DP;rw [e,Bool.false_and,Bool.and_false])) (fun e=>?_)⟩
  rw [Bool.not_eq_false']at e
  have e2:=of_decide_eq_true e
  repeat' (refine kr_ ?_)
  by_cases hl:ys.length=xs.length
  ·rw [show ((sI.n:Int) !=((sS.n:Nat):Int))=false by rw [lt,ls,hl];simp]
   exact hJ.2 hc (by omega) hl (by unfold DP;rw [decide_eq_true hc,e,decide_eq_true hl];rfl)
  ·rw [show ((sI.n:Int) !=((sS.n:Nat):Int))=true by rw [lt,ls,bne_iff_ne];omega]
   exact hJ.1 (by unfold DP;rw [decide_eq_false hl,Bool.and_false,Bool.and_false])
theorem kv {h:Hp} {M:MSl} {m:ah} {t:Sl} {vs:List (List Nat)} {R:Value->Hp->Prop} (hs:aO h M m) (hm:bT m) (hc:aG m=0)
  (hv:IntSS h t (vs.map VL)) (hf:jQ m.nodes (inP m) vs) (k:R (.bool true) h):jA #[aQ M,t.v] h R:=by
 refine ACalls.drop (Gw ?_)
 refine uf_ ?_
 have g:=cD hc
 refine aj fun b8 h1 hb8 l1 f8=>?_
 repeat' (refine ku_ ?_)
 refine cj (hs.up (by((focus ((repeat (first|exact Hp.le_refl _|assumption|(refine Hp.le_trans ?_ (by assumption))));done))))) hm ⟨_,rfl,aM (by rw [hc];rfl) ?_⟩
 repeat' (refine ku_ ?_)
 refine cJ (hs.up (by((focus ((repeat (first|exact Hp.le_refl _|assumption|(refine Hp.le_trans ?_ (by assumption))));done))))) hm fun p h2 l2 i2=>⟨p,rfl,?_⟩
 repeat' (refine ku_ ?_)
 exact He (hs.up (by((focus ((repeat (first|exact Hp.le_refl _|assumption|(refine Hp.le_trans ?_ (by assumption))));done))))) hm g.ok i2 (bV g 35) (ge g 35) (hv.up (by((focus ((repeat (first|exact Hp.le_refl _|assumption|(refine Hp.le_trans ?_ (by assumption))));done))))) hf ⟨_,rfl,h,by((focus ((repeat (first|exact Hp.le_refl _|assumption|(refine Hp.le_trans ?_ (by assumption))));done))),k⟩
theorem kE (m:ah) (ps:List Nat) (c:Nat):jQ m.nodes ps (dP m.nodes ps c):=by rw [jN];exact Jg _ _ _
theorem La {h:Hp} {M:MSl} {m:ah} {sS sI:Sl} {c d:Nat} {R:Value->Hp->Prop} (hs:aO h M m) (hm:bT m) (hc:aG m=0)
  (h1:IntSS h sS ((dP m.nodes (stP m) c).map VL)) (h2:IntSS h sI ((dP m.nodes (inP m) d).map VL)) (k:R (.bool (iC m (bK m c d))) h):rN #[aQ M,sS.v,sI.v] h R:=by
 refine ACalls.drop (Gi ?_)
 refine uf_ ?_
 have g:=cD hc
 refine aj fun b9 g1 hb9 l1 f9=>?_
 repeat' (refine ku_ ?_)
 refine gF (hs.up (by((focus ((repeat (first|exact Hp.le_refl _|assumption|(refine Hp.le_trans ?_ (by assumption))));done))))) hm hc (h1.up (by((focus ((repeat (first|exact Hp.le_refl _|assumption|(refine Hp.le_trans ?_ (by assumption))));done))))) (kE ..) ⟨_,rfl,aM rfl ?_⟩
 repeat' (refine ku_ ?_)
 refine kv (hs.up (by((focus ((repeat (first|exact Hp.le_refl _|assumption|(refine Hp.le_trans ?_ (by assumption))));done))))) hm hc (h2.up (by((focus ((repeat (first|exact Hp.le_refl _|assumption|(refine Hp.le_trans ?_ (by assumption))));done))))) (kE ..) ⟨_,rfl,aM rfl ?_⟩
 repeat' (refine ku_ ?_)
 refine qd (hs.up (by((focus ((repeat (first|exact Hp.le_refl _|assumption|(refine Hp.le_trans ?_ (by assumption))));done))))) hm g.ok g.nl (h1.up (by((focus ((repeat (first|exact Hp.le_refl _|assumption|(refine Hp.le_trans ?_ (by assumption))));done))))) (jR 36 c g) (h2.up (by((focus ((repeat (first|exact Hp.le_refl _|assumption|(refine Hp.le_trans ?_ (by assumption))));done))))) (jR 35 d g) fun t g2 l2 hn hpv _=>⟨t,rfl,?_⟩
 repeat' (refine ku_ ?_)
 exact Fc (hs.up (by((focus ((repeat (first|exact Hp.le_refl _|assumption|(refine Hp.le_trans ?_ (by assumption))));done))))) g hpv (dr g c d) ⟨_,rfl,h,by((focus ((repeat (first|exact Hp.le_refl _|assumption|(refine Hp.le_trans ?_ (by assumption))));done))),k⟩
theorem Fk {h:Hp} {M:MSl} {m:ah} {sS sI:Sl} {c d:Nat} {R:Value->Hp->Prop} (hs:aO h M m) (hm:bT m) (hc:aG m=0)
  (h1:IntSS h sS ((dP m.nodes (stP m) c).map VL)) (h2:IntSS h sI ((dP m.nodes (inP m) d).map VL)) (k:R (I (xM m (bK m c d))) h):qN #[aQ M,sS.v,sI.v] h R:=by
 refine ACalls.drop (JV ?_)
 refine uf_ ?_
 have g:=cD hc
 refine aj fun b9 g1 hb9 l1 f9=>?_
 refine ap (fun J=>J false g1) (aC rfl ?_) (fun J hJ=>?_)
 ·repeat' (refine ku_ ?_)
  refine qd (hs.up (by((focus ((repeat (first|exact Hp.le_refl _|assumption|(refine Hp.le_trans ?_ (by assumption))));done))))) hm g.ok g.nl (h1.up (by((focus ((repeat (first|exact Hp.le_refl _|assumption|(refine Hp.le_trans ?_ (by assumption))));done))))) (jR 36 c g) (h2.up (by((focus ((repeat (first|exact Hp.le_refl _|assumption|(refine Hp.le_trans ?_ (by assumption))));done))))) (jR 35 d g) fun t g2 l2 hn hpv _=>⟨t,rfl,?_⟩
  repeat' (refine ku_ ?_)
  exact LK (hs.up (by((focus ((repeat (first|exact Hp.le_refl _|assumption|(refine Hp.le_trans ?_ (by assumption))));done))))) g hpv (dr g c d) ⟨_,rfl,h,by((focus ((repeat (first|exact Hp.le_refl _|assumption|(refine Hp.le_trans ?_ (by assumption))));done))),k⟩
 ·repeat' (refine ku_ ?_)
  refine gF (hs.up (by((focus ((repeat (first|exact Hp.le_refl _|assumption|(refine Hp.le_trans ?_ (by assumption))));done))))) hm hc (h1.up (by((focus ((repeat (first|exact Hp.le_refl _|assumption|(refine Hp.le_trans ?_ (by assumption))));done))))) (kE ..) ⟨_,rfl,aC rfl ?_⟩
  repeat' (refine ku_ ?_)
  exact kv (hs.up (by((focus ((repeat (first|exact Hp.le_refl _|assumption|(refine Hp.le_trans ?_ (by assumption))));done))))) hm hc (h2.up (by((focus ((repeat (first|exact Hp.le_refl _|assumption|(refine Hp.le_trans ?_ (by assumption))));done))))) (kE ..) ⟨_,rfl,hJ⟩
theorem Ui {m:ah} (g:cr m) {p k:Nat} (h:bO m.nexts p=some k):k<m.nodes.length:=by
 obtain⟨b,hb,hs,rfl⟩:=dW h
 obtain⟨h1,h2,h3,h4⟩:=dn (g.nex b hb)
 have h2':=et.1 h2
 omega
set_option maxHeartbeats 1000000 in
theorem Nf {h:Hp} {M:MSl} {m:ah} {sS sI sT:Sl} {c d:Nat} {vs:List (List Nat)} {R:Value->Hp->Prop} (hs:aO h M m) (hm:bT m) (hc:aG m=0)
  (h1:IntSS h sS ((dP m.nodes (stP m) c).map VL)) (h2:IntSS h sI ((dP m.nodes (inP m) d).map VL)) (hv:IntSS h sT (vs.map VL)) (hf:jQ m.nodes (stP m) vs)
  (k:R (.bool (ig (stP m) (gt m (bK m c d)) vs (stP m).length)) h):tQ #[aQ M,sS.v,sI.v,sT.v] h R:=by
 refine ACalls.drop (Ib ?_)
 refine uf_ ?_
 have g:=cD hc
 have hil:=g.xl
 have hnl:=g.nl
 have hp36:(stP m).length<=m.nodes.length:=dV m.nodes 36
 have htn:=hv.len
 rw [List.length_map]at htn
 have hvl:=j9 hf
 have hbn: ∀b∈m.nexts,0<=b.node:=fun b hb=>by
  have h2':=et.1 (dn (g.nex b hb)).2.1
  omega
 refine aj fun b8 g1 hb8 l1 f8=>?_
 refine ap (fun J=>J false g1) (aC rfl ?_) (fun J hJ=>?_)
 rotate_left
 ·repeat' (refine ku_ ?_)
  refine gF (hs.up (by((focus ((repeat (first|exact Hp.le_refl _|assumption|(refine Hp.le_trans ?_ (by assumption))));done))))) hm hc (h1.up (by((focus ((repeat (first|exact Hp.le_refl _|assumption|(refine Hp.le_trans ?_ (by assumption))));done))))) (kE ..) ⟨_,rfl,aC rfl ?_⟩
  repeat' (refine ku_ ?_)
  refine kv (hs.up (by((focus ((repeat (first|exact Hp.le_refl _|assumption|(refine Hp.le_trans ?_ (by assumption))));done))))) hm hc (h2.up (by((focus ((repeat (first|exact Hp.le_refl _|assumption|(refine Hp.le_trans ?_ (by assumption))));done))))) (kE ..) ⟨_,rfl,aC rfl ?_⟩
  repeat' (refine ku_ ?_)
  exact gF (hs.up (by((focus ((repeat (first|exact Hp.le_refl _|assumption|(refine Hp.le_trans ?_ (by assumption))));done))))) hm hc (hv.up (by((focus ((repeat (first|exact Hp.le_refl _|assumption|(refine Hp.le_trans ?_ (by assumption))));done))))) hf ⟨_,rfl,hJ⟩
 repeat' (refine ku_ ?_)
 refine qd (hs.up (by((focus ((repeat (first|exact Hp.le_refl _|assumption|(refine Hp.le_trans ?_ (by assumption))));done))))) hm g.ok g.nl (h1.up (by((focus ((repeat (first|exact Hp.le_refl _|assumption|(refine Hp.le_trans ?_ (by assumption))));done))))) (jR 36 c g) (h2.up (by((focus ((repeat (first|exact Hp.le_refl _|assumption|(refine Hp.le_trans ?_ (by assumption))));done))))) (jR 35 d g) fun vt g2 l2 hvn hpv _=>⟨vt,rfl,?_⟩
 repeat' (refine ku_ ?_)
 refine cJ (hs.up (by((focus ((repeat (first|exact Hp.le_refl _|assumption|(refine Hp.le_trans ?_ (by assumption))));done))))) hm fun pt g3 l3 ip=>⟨pt,rfl,?_⟩
 have hpn:pt.n=(stP m).length:=by have:=ip.len;rw [aX]at this;exact this
 have f83:=l3 _ _ (l2 _ _ f8)
 have l03:=Hp.le_trans l1 (Hp.le_trans l2 l3)
 have aV:=dr g c d
 replace hpv:gO g3 vt (bK m c d):=gO.mono l3 hpv
 generalize bK m c d=v at*
 clear l2 l3 l1 hb8 f8 g2
 refine au (stP m).length (fun i ws h'=>g3.le h'/\ws= [sT.v, .pointer (some ⟨b8,0,none⟩),vt.v,pt.v,I i]/\ig (stP m) (gt m v) vs i=true) ⟨Hp.le_refl _,rfl,rfl⟩ ?_
 rintro i _ h4 next hi ⟨l4,rfl,hg⟩ hnx
 have l04:=Hp.le_trans l03 l4
 refine⟨sT,_,_,vt,pt,_,rfl,?_⟩
 by_cases hlt:i<(stP m).length
 rotate_left
 ·have hie:i=(stP m).length:=by omega
  subst hie
  refine aC (by simp;omega) ⟨_,l04,dL hg.symm k⟩
 refine aM (by simp;omega) ?_
 obtain⟨p,hpi⟩: ∃p,(stP m)[i]?=some p:=⟨_,List.getElem?_eq_getElem hlt⟩
 have hsucc:=HO (f:=gt m v) (vs:=vs) hpi
 rw [hg,Bool.true_and]at hsucc
 obtain⟨b,o,ha,hcc⟩:=(ip.mono l4).get (iy hpi)
 refine⟨b,o,ha,by omega,by omega,?_⟩
 (refine ku_ ?_)
 refine⟨_,hcc,?_⟩
 refine lj (hs.mono l04).nexts (by omega) hbn ⟨_,rfl,?_⟩
 refine ap (fun J=> ∀h',h4.le h'->J (!ig (stP m) (gt m v) vs (i+1)) h') ?_ (fun J hJ=>?_)
 ·intro h' l'
  refine ad (fun e=>⟨_,Hp.le_trans l04 l',dL ?_ k⟩) (fun e=>?_)
  ·symm;exact Pf (i:=i+1) (by omega) (by simpa using e)
  ·rw [ay (by omega)]
   exact hnx hlt _ _ ⟨Hp.le_trans l4 l',rfl,by simpa using e⟩
 cases hbo:bO m.nexts p with
 |none=>
  rw [show ic m.nexts p= -1 from by unfold ic;rw [hbo]]
  refine aC (by simp) ?_
  have hn:gt m v p=none:=by unfold gt;rw [hbo];rfl
  rw [hn]at hsucc
  have:=hJ h4 (Hp.le_refl _)
  rw [hsucc]at this;exact this
 |some q=>
  rw [show ic m.nexts p=(q:Int)from by unfold ic;rw [hbo]]
  refine aM (by simp) ?_
  have hq:=Ui g hbo
  have hsm:gt m v p=some (v.getD q []):=by unfold gt;rw [hbo];rfl
  have hfit:=xO g aV.fit hsm
  have hcl:=dl m.nodes p
  have hgv:=lM hf hpi
  rw [hsm]at hsucc
  obtain⟨bt,ot,c1,hta,htc,hcv⟩:=(hv.mono l04).getV (i:=i) (by omega)
  obtain⟨bv,ov,u,hua,hun,huc,huv⟩:=(hpv.mono l4).at (p:=(q:Int)) (by omega) (by rw [aV.len];omega)
  have hcn:=hcv.len
  rw [aX]at hcn
  refine⟨bt,ot,hta,by omega,by omega,bv,ov,hua,by omega,hun,c1,htc,u,huc,?_⟩
  rw [Int.toNat_natCast]at huv
  refine A3 hcv huv (by rw [aX];omega) (by rw [aX,aX,hgv.1,hfit.1];exact Nat.le_refl _) ⟨_,rfl,?_⟩
  have:=hJ h4 (Hp.le_refl _)
  simp only at hsucc
  rw [hsucc]at this
  have e2:decide (VL (vs.getD i [])=VL (v.getD q []))=decide (vs.getD i []=v.getD q []):=by
   rw [Bool.eq_iff_iff,decide_eq_true_eq,decide_eq_true_eq,GI]
  rw [e2];exact this
abbrev cAt (xs:List Int) (i:Nat):Nat:=(xs.getD i 0).toNat
def CW (m:ah) (xs ys:List Int) (i:Nat):Bool:=ig (stP m) (gt m (bK m (cAt xs i) (cAt ys i))) (dP m.nodes (stP m) (cAt xs (i+1))) (stP m).length
def G7 (m:ah) (xs ys:List Int) (i:Nat):Bool:=iC m (bK m (cAt xs i) (cAt ys i))
def dM (m:ah) (xs ys:List Int):Int:=
 if p9 m xs ys=false then 1 else
 if ig (stP m) (ed m) (dP m.nodes (stP m) (cAt xs 0)) (stP m).length=false then 2 else
 if(List.range (xs.length-1)).all (CW m xs ys)=false then 3 else
 if(List.range xs.length).all (G7 m xs ys)=false then 4 else
 if xM m (bK m (cAt xs (xs.length-1)) (cAt ys (xs.length-1)))<0 then 5 else 0
theorem gN {m:ah} {xs ys:List Int} (h:p9 m xs ys=true):aG m=0/\1<=xs.length/\xs.length<=301/\ys.length=xs.length/\
  (∀i,i<xs.length->xs[i]?=some ((cAt xs i:Nat):Int)/\cAt xs i<2^ak m.nodes 36)/\ ∀i,i<xs.length->ys[i]?=some ((cAt ys i:Nat):Int)/\cAt ys i<2^ak m.nodes 35:=by
 unfold p9 at h
 simp only [Bool.and_eq_true,decide_eq_true_eq]at h
 obtain⟨⟨h1,⟨h2,h3⟩,h4⟩,h5,h6⟩:=h
 have key: ∀{n:Nat} {l:List Int},l.all (k9 n)=true-> ∀i,i<l.length->l[i]?=some ((cAt l i:Nat):Int)/\cAt l i<2^n:=by
  intro n l ha i hi
  have e:l[i]?=some l[i]:=List.getElem?_eq_getElem hi
  have hb:=jX.1 (List.all_eq_true.1 ha _ (List.getElem_mem hi))
  have hc:cAt l i=l[i].toNat:=by unfold cAt;rw [List.getD_eq_getElem?_getD,e];rfl
  rw [hc,e]
  exact⟨by rw [Int.toNat_of_nonneg hb.1],by omega⟩
 exact⟨h1,by omega,by omega,h4,key h5,fun i hi=>key h6 i (by omega)⟩
theorem BK {n:Nat} {f:Nat->Bool} (h:(List.range n).all f=true) (e:f n=true):(List.range (n+1)).all f=true:=by
 rw [List.range_succ,List.all_append,h];simp [e]
theorem E5 {n i:Nat} {f:Nat->Bool} (hi:i<n) (e:f i=false):(List.range n).all f=false:=by
 rw [Bool.eq_false_iff]
 intro q
 rw [List.all_eq_true.1 q i (List.mem_range.2 hi)]at e;cases e
set_option maxHeartbeats 2000000 in
theorem oQ {h:Hp} {M:MSl} {m:ah} {sS sI:Sl} {xs ys:List Int} {R:Value->Hp->Prop} (hs:aO h M m) (hm:bT m) (h1:IntS h sS xs) (h2:IntS h sI ys)
  (k:R (I (dM m xs ys)) h):kK #[aQ M, .agg #[sS.v,sI.v]] h R:=by
 refine ACalls.drop (Gr ?_)
 refine uf_ ?_
 have K0:=Kn.nil h
 (with_reducible apply Kn.al);(assumption);(intro b9 g1 K1 l1 hb9)
 (with_reducible apply Kn.al);(assumption);(intro b11 g2 K2 l2 hb11)
 clear K1 K0
 have ls:=h1.len
 have lt:=h2.len
 unfold dM at k
 repeat' (refine kr_ ?_)
 refine zJ (hs.mono K2.le) hm (h1.mono K2.le) (h2.mono K2.le) ⟨_,rfl,ad (fun e=>?_) (fun e=>?_)⟩
 ·rw [Bool.not_eq_true']at e
  rw [if_pos e]at k
  exact⟨h,K2.le,k⟩
 rw [Bool.not_eq_false']at e
 obtain⟨hc,n1,n2,n3,hx,hy⟩:=gN e
 rw [if_neg (by rw [e];decide)]at k
 clear e
 have g:=cD hc
 have at_: ∀{h':Hp} {R':Value->Hp->Prop} (i:Nat),h.le h'->i<xs.length->(∀s t h'',h'.le h''->IntSS h'' s ((dP m.nodes (stP m) (cAt xs i)).map VL)->IntSS h'' t ((dP m.nodes (inP m) (cAt ys i)).map VL)->R' (.tuple #[Sl.v s,Sl.v t]) h'')->
   js #[aQ M, .agg #[sS.v,sI.v],I (i:Nat)] h' R':=fun i l hi kk=>B9 (hs.mono l) hm g (h1.mono l) (h2.mono l) (hx i hi).1 (hy i hi).1 (hx i hi).2 (hy i hi).2 kk
 repeat' (refine kr_ ?_)
 refine at_ 0 K2.le (by omega) fun s0 t0 g3 l3 i0 j0=>⟨_,_,rfl,?_⟩
 have K3:=K2.mono l3
 clear K2
 repeat' (refine kr_ ?_)
 refine vd (hs.mono K3.le) hm hc i0 (kE ..) ⟨_,rfl,ad (fun e=>?_) (fun e=>?_)⟩
 ·rw [Bool.not_eq_true']at e
  rw [if_pos e]at k
  exact⟨h,K3.le,k⟩
 rw [Bool.not_eq_false']at e
 rw [if_neg (by rw [e];decide)]at k
 clear e i0 j0 hb9 hb11 l1 l2
 refine au (xs.length-1) (fun i vs h'=>vs= [.pointer (some ⟨b9,0,none⟩), .pointer (some ⟨b11,0,none⟩),I (i:Nat)]/\(List.range i).all (CW m xs ys)=true/\
  Kn h h' ((b11, .inl ⟨[sS.v,sI.v],2,false⟩)::(b9, .inl ⟨aH M,5,false⟩):: [])) ⟨rfl,rfl,K3⟩ ?_
 clear K3 l3 g3 g2 g1
 rintro i _ h3 next hi ⟨rfl,a1,K3⟩ hnx
 refine⟨b9,0,b11,0,_,rfl,?_⟩
 (refine kr_ ?_)
 rw [ay (by omega)]
 by_cases hlt:i<xs.length-1
 ·refine aM (by rw [decide_eq_true_eq];omega) ?_
  repeat' (refine kr_ ?_)
  refine at_ i K3.le (by omega) fun s1 t1 h4 l4 i1 j1=>⟨_,_,rfl,?_⟩
  have K4:=K3.mono l4
  clear K3
  repeat' (refine kr_ ?_)
  refine at_ (i+1) K4.le (by omega) fun s2 t2 h5 l5 i2 j2=>⟨_,_,rfl,?_⟩
  have K5:=K4.mono l5
  clear K4
  repeat' (refine kr_ ?_)
  refine Nf (hs.mono K5.le) hm hc (i1.mono l5) (j1.mono l5) i2 (kE ..) ⟨_,rfl,ad (fun e=>?_) (fun e=>?_)⟩
  ·rw [Bool.not_eq_true']at e
   rw [if_pos (E5 hlt e)]at k
   exact⟨h,K5.le,k⟩
  ·rw [Bool.not_eq_false']at e
   exact hnx hlt _ _ ⟨rfl,BK a1 e,K5⟩
 refine aC (by rw [decide_eq_false_iff_not];omega) ?_
 clear hnx
 obtain rfl:i=xs.length-1:=by omega
 rw [if_neg (by rw [a1];decide)]at k
 clear a1 hlt hi
 refine au xs.length (fun i vs h'=>vs= [.pointer (some ⟨b9,0,none⟩), .pointer (some ⟨b11,0,none⟩),I (i:Nat)]/\(List.range i).all (G7 m xs ys)=true/\
  Kn h h' ((b11, .inl ⟨[sS.v,sI.v],2,false⟩)::(b9, .inl ⟨aH M,5,false⟩):: [])) ⟨rfl,rfl,K3⟩ ?_
 clear K3 h3
 rintro i _ h3 next2 hi ⟨rfl,a1,K3⟩ hnx
 refine⟨b9,0,b11,0,_,rfl,?_⟩
 (refine kr_ ?_)
 by_cases hlt:i<xs.length
 ·refine aM (by rw [decide_eq_true_eq];omega) ?_
  repeat' (refine kr_ ?_)
  refine at_ i K3.le (by omega) fun s1 t1 h4 l4 i1 j1=>⟨_,_,rfl,?_⟩
  have K4:=K3.mono l4
  clear K3
  repeat' (refine kr_ ?_)
  refine La (hs.mono K4.le) hm hc i1 j1 ⟨_,rfl,ad (fun e=>?_) (fun e=>?_)⟩
  ·rw [Bool.not_eq_true']at e
   rw [if_pos (E5 hlt e)]at k
   exact⟨h,K4.le,k⟩
  ·rw [Bool.not_eq_false']at e
   rw [ay (by omega)]
   exact hnx hlt _ _ ⟨rfl,BK a1 e,K4⟩
 refine aC (by rw [decide_eq_false_iff_not];omega) ?_
 clear hnx
 obtain rfl:i=xs.length:=by omega
 rw [if_neg (by rw [a1];decide)]at k
 repeat' (refine kr_ ?_)
 rw [show W ((sS.n:Int)-1)=((xs.length-1:Nat):Int) by rw [cd (by omega) (by omega)];omega]
 refine at_ (xs.length-1) K3.le (by omega) fun s1 t1 h4 l4 i1 j1=>⟨_,_,rfl,?_⟩
 have K4:=K3.mono l4
 clear K3
 repeat' (refine kr_ ?_)
 refine Fk (hs.mono K4.le) hm hc i1 j1 ⟨_,rfl,ad (fun e=>?_) (fun e=>?_)⟩
 ·rw [if_pos (of_decide_eq_true e)]at k
  exact⟨h,K4.le,k⟩
 ·rw [if_neg (of_decide_eq_false e)]at k
  exact⟨h,K4.le,k⟩
theorem DE {h:Hp} {s:Sl} {xs:List Int} {x:Int} {i:Nat} {R:Value->Hp->Prop} (hs:IntS h s xs) (hi:xs[i]?=some x) (hf: ∀j,j<i->xs[j]?≠some x) (k:R (I (i:Nat)) h):dN #[s.v,I x] h R:=by
 apply qk
 refine uf_ ?_
 have ls:=hs.len
 have hb:=hs.bound
 have hil:=get_lt hi
 refine au i (fun j vs h'=>vs= [s.v,I x,I (s.n:Nat),I (j:Nat)]/\h'=h) ⟨rfl,rfl⟩ ?_
 rintro j _ _ next hj ⟨rfl,rfl⟩ hnx
 refine⟨s,_,_,_,rfl,?_⟩
 refine aM (by rw [decide_eq_true_eq];omega) ?_
 obtain⟨y,hy⟩: ∃y,xs[j]?=some y:=⟨_,List.getElem?_eq_getElem (by omega)⟩
 obtain⟨b,o,ha,hc⟩:=hs.get hy
 refine⟨b,o,ha,by omega,by omega,_,by rw [Int.toNat_natCast];exact hc,?_⟩
 by_cases hlt:j<i
 ·refine aC (by rw [beq_eq_false_iff_ne];exact fun e=>hf j hlt (by rw [e];exact hy)) ?_
  rw [ay (by omega)]
  exact hnx hlt _ _ ⟨rfl,rfl⟩
 ·obtain rfl:j=i:=by omega
  rw [hi]at hy
  obtain rfl:=Option.some.inj hy
  exact aM (by simp) k
theorem xU (l:List NodeP) (k:Int):(av l k).Nodup:=List.Nodup.sublist List.filter_sublist List.nodup_range
theorem Fl {α:Type} {l:List α} (nd:l.Nodup) {i:Nat} {p:α} (h:l[i]?=some p): ∀j,j<i->l[j]?≠some p:=by
 intro j hj e
 have h1:=get_lt h
 have h2:=get_lt e
 rw [List.getElem?_eq_getElem h1]at h
 rw [List.getElem?_eq_getElem h2]at e
 exact absurd ((List.getElem_inj nd (h₀:=h2) (h₁:=h1)).1 ((Option.some.inj e).trans (Option.some.inj h).symm)) (by omega)
theorem Fz {α:Type} {l:List α} (nd:l.Nodup) {i j:Nat} {p:α} (h:l[i]?=some p) (e:l[j]?=some p):i=j:=by
 rcases Nat.lt_trichotomy i j with h1|h1|h1
 ·exact absurd h (Fl nd e i h1)
 ·exact h1
 ·exact absurd e (Fl nd h j h1)
theorem Qd {binds:List BindP} (ag:gQ (binds.map (·.state))=false) {b:BindP} (hb:b∈binds) {p:Nat} (e:b.state=(p:Int)):bO binds p=some b.node.toNat:=by
 cases hx:bO binds p with
 |none=>exact absurd e (TV hx b hb)
 |some k=>
  obtain⟨b',hb',hs',rfl⟩:=dW hx
  obtain⟨i,hi⟩:=List.getElem?_of_mem hb
  obtain⟨j,hj⟩:=List.getElem?_of_mem hb'
  have key: ∀{i j:Nat} {x y:BindP},binds[i]?=some x->binds[j]?=some y->x.state=y.state-> ¬i<j:= @fun i j x y hi hj e h=>by
   refine GX ag hj _ ?_ e
   have h1:=get_lt hi
   refine List.mem_of_getElem? (i:=i) ?_
   rw [List.getElem?_take,if_pos h];exact hi
  have h1:=key hi hj (e.trans hs'.symm)
  have h2:=key hj hi (hs'.trans e.symm)
  obtain rfl:i=j:=by omega
  rw [hi]at hj
  rw [Option.some.inj hj]
theorem aeY {h h':Hp} {b:Nat} (l:h.le h') (e:h b≠none):h' b=h b:=by
 cases hb:h b with
 |none=>exact absurd hb e
 |some x=>exact l _ _ hb
theorem OB {l:List Nat} {i:Nat} {x:Nat} (h:l[i]?=some x):(VL l)[i]?=some (x:Int):=by unfold VL;rw [List.getElem?_map,h];rfl
theorem af5 {l:List Nat} {i:Nat} {x:Nat} (h:(VL l)[i]?=some (x:Int)):l[i]?=some x:=by
 unfold VL at h
 rw [List.getElem?_map,Option.map_eq_some_iff]at h
 obtain⟨y,hy,e⟩:=h
 rw [hy];exact congrArg some (by omega)
set_option maxHeartbeats 1000000 in
theorem yc {h:Hp} {M:MSl} {m:ah} {sB sV sT:Sl} {binds:List BindP} {v vs:List (List Nat)} {F:Nat->Option (List Nat)} {R:Value->Hp->Prop} (hs:aO h M m) (hm:bT m) (g:cr m)
  (hb:iA h sB binds) (hbl:binds.length<=60) (hpv:gO h sV v) (hT:IntSS h sT (vs.map VL)) (hvl:vs.length=(stP m).length) (hvs: ∀x∈vs,x.length<=4)
  (hin: ∀b∈binds,∃p:Nat,b.state=(p:Int)/\p∈stP m/\0<=b.node/\b.node<v.length/\0<(v.getD b.node.toNat []).length/\(v.getD b.node.toNat []).length<=4/\F p=some (kQ (aE m.nodes p) (v.getD b.node.toNat [])))
  (hF: ∀p x,F p=some x-> ∃b∈binds,b.state=(p:Int))
  (k:R (.bool (ig (stP m) F vs (stP m).length)) h):lr #[aQ M,sB.v,sV.v,sT.v] h R:=by
 refine ACalls.drop (Dh ?_)
 refine uf_ ?_
 have K0:=Kn.nil h
 (with_reducible apply Kn.al);(assumption);(intro b10 h1 K1 l1 hb10)
 clear K0
 have hbn:=hb.len
 have hTn:=hT.len
 rw [List.length_map]at hTn
 repeat' (refine kr_ ?_)
 refine dk (hs.mono K1.le) hm fun pt h2 l2 ip=>⟨_,rfl,?_⟩
 have K2:=K1.mono l2
 clear K1 l1 l2
 have hpn:pt.n=(stP m).length:=by have:=ip.len;rw [aX]at this;exact this
 have hpl:(stP m).length<=m.nodes.length:=dV m.nodes 36
 have nd:=xU m.nodes 36
 have hnl:=g.nl
 refine au binds.length (fun i ws h'=>ws= [sV.v,sT.v, .pointer (some ⟨b10,0,none⟩),pt.v,sB.v,I (sB.n:Nat),I (i:Nat)]/\IntS h' pt (VL (stP m))/\Kn h h' [(b10, .inl ⟨aH M,5,false⟩)]/\
  ∀(j:Nat) (b:BindP),j<i->binds[j]?=some b-> ∀(t p:Nat),(stP m)[t]?=some p->b.state=(p:Int)-> ∀x,F p=some x->vs.getD t []=x) ⟨rfl,ip,K2,fun j b hj=>by omega⟩ ?_
 clear K2 ip h2 h1 hb10
 rintro i _ h2 next hi ⟨rfl,ip,K2,hall⟩ hnx
 refine⟨sV,sT,b10,0,pt,sB,_,_,rfl,?_⟩
 by_cases hlt:i<binds.length
 rotate_left
 ·refine aC (by rw [decide_eq_false_iff_not];omega) ?_
  refine⟨h,K2.le,dL (Eq.symm (jC.2 fun t p ht x hx=>?_)) k⟩
  obtain⟨b,hbm,e⟩:=hF p x hx
  obtain⟨j,hj⟩:=List.getElem?_of_mem hbm
  exact hall j b (by have:=get_lt hj;omega) hj t p ht e x hx
 refine aM (by rw [decide_eq_true_eq];omega) ?_
 obtain⟨b,hbi⟩: ∃b,binds[i]?=some b:=⟨_,List.getElem?_eq_getElem hlt⟩
 obtain⟨p,ep,hp,n0,n1,v0,v4,hFp⟩:=hin b (List.mem_of_getElem? hbi)
 obtain⟨t,ht⟩:=List.getElem?_of_mem hp
 have htl:=get_lt ht
 have hpm:=bV g 36 p hp
 obtain⟨bi,oi,hai,cx1,cx2⟩:=(hb.mono K2.le).at hbi
 refine⟨bi,oi,hai,by omega,by omega,_,by rw [Int.toNat_natCast];exact cx1,_,by rw [Int.toNat_natCast];exact cx2,?_⟩
 clear hai cx1 cx2 bi oi
 refine Kn.al K2 fun b42 h3 K3 l3 hb42=>?_
 refine kw_ ?_
 intro h4 K4 kp4
 have l24:h2.le h4:=im hb42 l3 kp4
 have ip4:=ip.mono l24
 clear K3 kp4 l3 hb42 h3
 refine ap (fun J=> ∀b' u h',Kn h h' ((b', .inl ⟨[Sl.v u],1,false⟩)::(b42, .inl ⟨[I b.state,I b.node],2,false⟩)::(b10, .inl ⟨aH M,5,false⟩):: [])->h4.le h'->
  IntS h' u (VL (kQ (aE m.nodes p) (v.getD b.node.toNat [])))->J b' 0 h') (fun b' u h5 K5 l5 hu=>?_) (fun J hJ=>?_)
 ·repeat' (refine kr_ ?_)
  have ip5:=ip4.mono l5
  rw [ep]
  refine DE ip5 (OB ht) (fun j hj e=>Fl nd ht j hj (af5 e)) ⟨_,rfl,?_⟩
  repeat' (refine kr_ ?_)
  obtain⟨bt,ot,c,hat,hct,htc⟩:=(hT.mono K5.le).getV (i:=t) (by omega)
  refine⟨bt,ot,hat,by omega,by omega,c,by rw [Int.toNat_natCast];exact hct,?_⟩
  have hwl:(kQ (aE m.nodes p) (v.getD b.node.toNat [])).length<=4:=by
   have:=dl m.nodes p
   unfold kQ
   rw [List.length_append,List.length_replicate];omega
  refine vZ hu htc (by rw [aX];omega) ⟨_,rfl,?_⟩
  refine ad (fun e=>⟨h,K5.le,dL (Eq.symm ?_) k⟩) (fun e=>?_)
  ·rw [Bool.not_eq_true',decide_eq_false_iff_not]at e
   rw [Bool.eq_false_iff]
   exact fun q=>e (by rw [jC.1 q t p ht _ hFp])
  ·rw [Bool.not_eq_false',decide_eq_true_eq]at e
   rw [ay (by omega)]
   refine hnx hlt _ _ ⟨rfl,ip5,K5.sub (fun e he=>by simp at he;simp [he]) (by simp),fun j b' hj hbj t' p' ht' ep' x hx=>?_⟩
   by_cases hji:j<i
   ·exact hall j b' hji hbj t' p' ht' ep' x hx
   ·obtain rfl:j=i:=by omega
    rw [hbi]at hbj
    obtain rfl:=Option.some.inj hbj
    obtain rfl:p=p':=by omega
    obtain rfl:=Fz nd ht ht'
    rw [hFp]at hx
    rw [<-Option.some.inj hx]
    exact(GI.1 e).symm
 ·repeat' (refine kr_ ?_)
  obtain⟨bn,on,han,hpn',c6,c7,w1,w16⟩:=hs.nodes.sortc2 hpm g.ok
  obtain⟨bv,ov,u,hav,hvn',hcv,hu⟩:=hpv.at n0 n1
  have xbn:=fT c6
  have xbv:=fT hcv
  replace c6:=K4.le.cell c6
  replace c7:=K4.le.cell c7
  replace hcv:=K4.le.cell hcv
  replace hu:=hu.mono K4.le
  rw [ep]
  refine⟨bn,on,han,by omega,hpn',_,c6,_,c7,?_⟩
  repeat' (refine kr_ ?_)
  refine⟨bv,ov,hav,n0,hvn',u,hcv,?_⟩
  clear han c6 c7 hav hvn' hcv hpn' w1 w16
  refine⟨?_,?_⟩
  ·refine wW hu v0 v4 fun t2 h5 l5 ht2=>⟨_,rfl,?_⟩
   rw [px g.ok hpm]at ht2
   have K5:=K4.mono l5
   refine Kn.al K5 fun b61 h6 K6 l6 hb61=>?_
   repeat' (refine kr_ ?_)
   clear K5 K4
   refine kw_ ?_
   intro h7 K7 kp7
   have l57:=im hb61 l6 kp7
   exact hJ b61 t2 h7 K7 (Hp.le_trans l5 l57) (ht2.mono l57)
  ·refine Kn.al K4 fun b66 h5 K5 l5 hb66=>?_
   repeat' (refine kr_ ?_)
   clear K4
   refine wW (hu.mono l5) v0 v4 fun t2 h6 l6 ht2=>⟨_,rfl,?_⟩
   rw [px g.ok hpm]at ht2
   have K6:=K5.mono l6
   clear K5
   refine kw_ ?_
   intro h7 K7 kp7
   have l57:h4.le h7:=im hb66 (Hp.le_trans l5 l6) kp7
   exact hJ b66 t2 h7 K7 l57 (ht2.keep (K6.at (.head _)) kp7)
theorem gO.out {h:Hp} {t:Sl} {vs:List (List Nat)} {X:List (Nat×Blk)} {s:Sl} {ts:List Sl} (e:gO h t vs) (he: ∀p,p<vs.length->0<(vs.getD p []).length) (o:bR X s 1 (ts.map Sl.v)) (m: ∀e∈X,h e.1=some e.2)
  (hts: ∀(j:Nat) (u:Sl),ts[j]?=some u-> ∃ws,(0<vs.length->0<ws.length)/\gO h u ws):gO (h.wo (X.map Prod.fst)) t vs:=by
 rcases o.2.2 with ⟨rfl,_,_⟩|⟨b,_,rfl⟩
 ·exact e.mono fun c x hc=>by simp [Hp.wo,hc]
 have hb:=m _ (.head _)
 have kp: ∀c,c≠b->(h.wo [b]) c=h c:=fun c hc=>by simp [Hp.wo,hc]
 refine⟨e.1,e.2.1,fun p hp=>?_⟩
 obtain⟨b',o',t',h1,h2,h3⟩:=e.2.2 p hp
 refine⟨b',o',t',h1,?_,h3.keepN hb (yd ts) kp⟩
 have hne:b'≠b:=by
  rintro rfl
  rw [ax hb,List.getElem?_map,Option.map_eq_some_iff]at h2
  obtain⟨u,hu,hv⟩:=h2
  obtain⟨ws,hw,hpw⟩:=hts _ u hu
  obtain rfl:u=t':=by
   obtain⟨a1,a2,a3⟩:=u
   obtain⟨c1,c2,c3⟩:=t'
   cases hv;rfl
  obtain⟨b2,o2,u2,g1,g2,_⟩:=hpw.2.2 0 (hw (by omega))
  obtain⟨b3,o3,g3,g4,_⟩:=IntS.elt h3 (i:=0) (he p hp)
  rw [g1]at g3
  cases g3
  rw [g2]at g4
  cases g4
 unfold Hp.cell at h2⊢
 rw [show (Hp.wo h (List.map Prod.fst [(b,(Sum.inl ⟨ts.map Sl.v,s.c*1,false⟩:Blk))])) b'=h b' from kp b' hne]
 exact h2
theorem afC {c:Nat} {v:List Nat} (h:v.length=c):kQ c v=v:=by
 unfold kQ
 rw [h,Nat.sub_self,List.replicate_zero,List.append_nil]
theorem xP {m:ah} {ps:List Nat} {c:Nat}: ∀x∈dP m.nodes ps c,x.length<=4:=by
 intro x hx
 unfold dP at hx
 obtain⟨i,_,rfl⟩:=List.mem_map.1 hx
 rw [tE]
 exact dl m.nodes (ps.getD i 0)
theorem JW {l:List NodeP} {s:Int} (h:cU l s=true) (hk:gz l s=36): ∃p:Nat,s=(p:Int)/\p∈av l 36:=by
 have hp:=et.1 h
 refine⟨s.toNat,by omega,?_⟩
 unfold av
 rw [List.mem_filter,List.mem_range]
 have hl:s.toNat<l.length:=by omega
 refine⟨hl,?_⟩
 unfold gz at hk
 rw [List.getElem?_eq_getElem hl]at hk⊢
 simpa using hk
theorem Qr {m:ah} (g:cr m): ∀b∈m.inits,∃p:Nat,b.state=(p:Int)/\p∈stP m/\0<=b.node/\b.node<(kH m).length/\0<((kH m).getD b.node.toNat []).length/\((kH m).getD b.node.toNat []).length<=4/\
  ed m p=some (kQ (aE m.nodes p) ((kH m).getD b.node.toNat [])):=by
 intro b hb
 obtain⟨q1,q2,q3,_⟩:=eU (g.ini b hb)
 obtain⟨p,ep,hp⟩:=JW q1 q3
 obtain⟨v1,v2,v3,v4,_⟩:=yD g hb
 refine⟨p,ep,hp,v1,by rw [(xR g).len];exact v2,v3,v4,?_⟩
 unfold ed
 rw [Qd (j8 g.twice).2.1 hb ep];rfl
theorem aeC {m:ah} (g:cr m) {v:List (List Nat)} (a:Gs m v): ∀b∈m.nexts,∃p:Nat,b.state=(p:Int)/\p∈stP m/\0<=b.node/\b.node<v.length/\0<(v.getD b.node.toNat []).length/\(v.getD b.node.toNat []).length<=4/\
  gt m v p=some (kQ (aE m.nodes p) (v.getD b.node.toNat [])):=by
 intro b hb
 obtain⟨q1,q2,q3,q4⟩:=dn (g.nex b hb)
 obtain⟨p,ep,hp⟩:=JW q1 q3
 have n2:=et.1 q2
 have hs:gt m v p=some (v.getD b.node.toNat []):=by
  unfold gt
  rw [Qd (j8 g.twice).2.2 hb ep];rfl
 have hf:=xO g a.fit hs
 have hq:=a.fit b.node.toNat (by omega) (by omega)
 have hc:=dl m.nodes p
 refine⟨p,ep,hp,n2.1,by rw [a.len];exact n2.2,hq.pos,by rw [hf.1];exact hc,?_⟩
 rw [afC hf.1];exact hs
theorem afy {m:ah} {p:Nat} {x:List Nat} (h:ed m p=some x): ∃b∈m.inits,b.state=(p:Int):=by
 unfold ed at h
 rw [Option.map_eq_some_iff]at h
 obtain⟨k,hk,_⟩:=h
 obtain⟨b,hb,e,_⟩:=dW hk
 exact⟨b,hb,e⟩
theorem ae2 {m:ah} {v:List (List Nat)} {p:Nat} {x:List Nat} (h:gt m v p=some x): ∃b∈m.nexts,b.state=(p:Int):=by
 unfold gt at h
 rw [Option.map_eq_some_iff]at h
 obtain⟨k,hk,_⟩:=h
 obtain⟨b,hb,e,_⟩:=dW hk
 exact⟨b,hb,e⟩
theorem X0 {m:ah} (g:cr m) (c d:Nat): ∀p,p<(bK m c d).length->0<((bK m c d).getD p []).length:=fun p hp=>by
 have a:=dr g c d
 rw [a.len]at hp
 exact(a.fit p hp hp).pos
set_option maxHeartbeats 4000000 in
theorem ky {h:Hp} {M:MSl} {m:ah} {sS sI:Sl} {xs ys:List Int} {R:Value->Hp->Prop} (hs:aO h M m) (hm:bT m) (h1:IntS h sS xs) (h2:IntS h sI ys) (hcap:sS.n<=sS.c)
  (k:R (I (dM m xs ys)) h):jy #[aQ M, .agg #[sS.v,sI.v]] h R:=by
 refine ACalls.drop (F1 ?_)
 refine uf_ ?_
 have K0:=Kn.nil h
 (with_reducible apply Kn.al);(assumption);(intro b9 g1 K1 l1 hb9)
 (with_reducible apply Kn.al);(assumption);(intro b11 g2 K2 l2 hb11)
 clear K1 K0
 have ls:=h1.len
 have lt:=h2.len
 unfold dM at k
 repeat' (refine kr_ ?_)
 refine ye (hs.mono K2.le) hm (h1.mono K2.le) (h2.mono K2.le) ⟨_,rfl,ad (fun e=>?_) (fun e=>?_)⟩
 ·rw [Bool.not_eq_true']at e
  rw [if_pos e]at k
  exact⟨h,K2.le,k⟩
 rw [Bool.not_eq_false']at e
 obtain⟨hc,n1,n2,n3,hx,hy⟩:=gN e
 rw [if_neg (by rw [e];decide)]at k
 clear e
 have g:=cD hc
 have n8:=g.n8
 have k5:=g.k5
 have hp8:2^ak m.nodes 36<=2^8:=Nat.pow_le_pow_right (by omega) n8
 have hp5:2^ak m.nodes 35<=2^5:=Nat.pow_le_pow_right (by omega) k5
 repeat' (refine kr_ ?_)
 refine dk (hs.mono K2.le) hm fun ps h3 l3 ips=>⟨_,rfl,?_⟩
 have K3:=K2.mono l3
 repeat' (refine kr_ ?_)
 clear K2
 refine dk (hs.mono K3.le) hm fun pi h4 l4 ipi=>⟨_,rfl,?_⟩
 have K4:=K3.mono l4
 clear K3
 have ips4:=ips.mono l4
 repeat' (refine kr_ ?_)
 obtain⟨b61,o61,ha,hca⟩:=h1.get (hx 0 (by omega)).1
 have x61:=fT hca
 replace hca:=K4.le.cell hca
 refine⟨b61,o61,ha,by omega,by omega,_,hca,?_⟩
 refine yY (hs.mono K4.le) hm g fun t0 h5 l5 _ hp0=>⟨_,rfl,?_⟩
 have K5:=K4.mono l5
 repeat' (refine kr_ ?_)
 refine wV (hs.mono K5.le) hm g.ok (ips4.mono l5) (bV g 36) (ge g 36) (by have:=(hx 0 (by omega)).2;omega) fun u0 h6 l6 iu _=>⟨_,rfl,?_⟩
 have K6:=K5.mono l6
 repeat' (refine kr_ ?_)
 refine yc (F:=ed m) (hs.mono K6.le) hm g (hs.mono K6.le).inits g.il (hp0.mono l6) iu (j9 (kE ..)) xP (Qr g) (fun p x=>afy) ⟨_,rfl,ad (fun e=>?_) (fun e=>?_)⟩
 ·rw [Bool.not_eq_true']at e
  rw [if_pos e]at k
  exact⟨h,K6.le,k⟩
 rw [Bool.not_eq_false']at e
 rw [if_neg (by rw [e];decide)]at k
 clear e K4 K5
 have l46:=Hp.le_trans l5 l6
 have f9:=K6.at (b:=b9) (by((focus ((repeat first|exact .head _|apply List.Mem.tail);done))))
 have f11:=K6.at (b:=b11) (by((focus ((repeat first|exact .head _|apply List.Mem.tail);done))))
 have hs6:=hs.mono K6.le
 have h16:=h1.mono K6.le
 have h26:=h2.mono K6.le
 have ips6:=ips4.mono l46
 have ipi6:=ipi.mono l46
 have l06:=K6.le
 repeat' (refine kr_ ?_)
 clear K6 iu hp0 ips4 ipi ips ha hca x61 l46 l6 l5 l4 l3 l2 l1 hb9 hb11 h3 h4 h5 g1 g2
 have pv: ∀i,i<xs.length->cAt xs i<2^ak m.nodes 36/\cAt ys i<2^ak m.nodes 35:=fun i hi=>⟨(hx i hi).2,(hy i hi).2⟩
 refine au xs.length (fun i vs h'=> ∃(out:Sl) (ts:List Sl) (X:List (Nat×Blk)) (g':Hp),vs= [.pointer (some ⟨b9,0,none⟩), .pointer (some ⟨b11,0,none⟩),ps.v,pi.v,out.v,sS.v,I (sS.n:Nat),I (i:Nat)]/\h6.le g'/\bR X out 1 (ts.map Sl.v)/\
  ts.length=i/\Kn g' h' X/\ ∀(j:Nat) (t:Sl),ts[j]?=some t->gO g' t (bK m (cAt xs j) (cAt ys j)))
  ⟨⟨none,0,0⟩, [], [],h6,rfl,Hp.le_refl _,cF 1,rfl,Kn.nil _,fun j t hj=>by simp at hj⟩ ?_
 rintro i _ h3 nxt hi ⟨out,ts,X,g',rfl,lg,oX,htl,K,hT⟩ hnx
 have hon:=oX.1
 rw [List.length_map,Nat.mul_one]at hon
 refine⟨b9,0,b11,0,ps,pi,out,sS,_,_,rfl,?_⟩
 have lG:=Hp.le_trans lg K.le
 have f9g:=lg _ _ f9
 have f11g:=lg _ _ f11
 by_cases hlt:i<xs.length
 ·refine aM (by rw [decide_eq_true_eq];omega) ?_
  obtain⟨ba,oa,ha,hca⟩:=(h16.mono lg).get (hx i hlt).1
  have xba:=fT hca
  replace hca:=K.le.cell hca
  refine⟨ba,oa,ha,by omega,by omega,_,by rw [Int.toNat_natCast];exact hca,?_⟩
  obtain⟨bb,ob,hb,hcb⟩:=(h26.mono lg).get (hy i hlt).1
  have xbb:=fT hcb
  replace hcb:=K.le.cell hcb
  repeat' (refine kr_ ?_)
  refine⟨bb,ob,hb,by omega,by omega,_,by rw [Int.toNat_natCast];exact hcb,?_⟩
  have pvi:=pv i hlt
  refine wV (hs6.mono lG) hm g.ok (ips6.mono lG) (bV g 36) (ge g 36) (by omega) fun u1 h4 l4 iu1 cu1=>⟨_,rfl,?_⟩
  have K4:=K.mono l4
  have x9:g' b9≠none:=cf f9g
  have x11:g' b11≠none:=cf f11g
  repeat' (refine kr_ ?_)
  refine wV (hs6.mono (Hp.le_trans lG l4)) hm g.ok (ipi6.mono (Hp.le_trans lG l4)) (bV g 35) (ge g 35) (by omega) fun u2 h5 l5 iu2 cu2=>⟨_,rfl,?_⟩
  have K5:=K4.mono l5
  repeat' (refine kr_ ?_)
  refine xX (hs6.mono (Hp.le_trans lG (Hp.le_trans l4 l5))) hm g.ok g.nl (iu1.mono l5) cu1 (jR 36 _ g) iu2 cu2 (jR 35 _ g) fun t h7 l7 _ hpv=>⟨_,rfl,?_⟩
  refine aj fun b128 h8 hb128 l8 f128=>?_
  have l38:=Hp.le_trans l4 (Hp.le_trans l5 (Hp.le_trans l7 l8))
  have K8:=K.mono l38
  replace hpv:gO h8 t (bK m (cAt xs i) (cAt ys i)):=hpv.mono l8
  have hnew:=hpv.out (X0 g _ _) oX (fun e he=>K8.mem e he) fun j u hj=>⟨_,by rw [(dr g _ _).len,(dr g _ _).len];exact id,(hT j u hj).mono K8.le⟩
  have lB:=K8.leBase
  have KB:=K8.base
  generalize h8.wo (X.map Prod.fst)=g8 at*
  rw [show X=X++ []from(List.append_nil _).symm]at KB
  refine Kn.grow KB oX (by omega) (by omega) (by omega) ⟨b128,0,rfl,aw f128⟩ rfl rfl fun out' X' h9 hn' oX' K9 l9=>?_
  rw [ay (by omega)]
  rw [List.append_nil]at K9
  refine hnx hlt _ _ ⟨out',ts++ [t],X',g8,rfl,Hp.le_trans lg lB,by rw [List.map_append];exact oX',by simp [htl],K9,fun j u hj=>?_⟩
  by_cases e:j<ts.length
  ·rw [List.getElem?_append_left e]at hj
   exact(hT j u hj).mono lB
  ·have h1:=get_lt hj
   simp at h1
   rw [List.getElem?_append_right (by omega),show j-ts.length=0 by omega]at hj
   simp at hj;subst hj
   rw [show j=i by omega];exact hnew
 obtain rfl:i=xs.length:=by omega
 refine aC (by rw [decide_eq_false_iff_not];omega) ?_
 have hO:SlC h3 out 1 (ts.map Sl.v):=(oX.buf fun e he=>K.mem e he).slc_of (by omega)
 replace hT: ∀(j:Nat) (t:Sl),ts[j]?=some t->gO h3 t (bK m (cAt xs j) (cAt ys j)):=fun j t hj=>(hT j t hj).mono K.le
 have f93:=lG _ _ f9
 have f113:=lG _ _ f11
 have x93:=cf f93
 have hs3:=hs6.mono lG
 have h13:=h16.mono lG
 have ips3:=ips6.mono lG
 have l03:=Hp.le_trans l06 lG
 clear K oX X f9g f11g lG lg hnx hi hlt f9 f11 hs6 h16 h26 ips6 ipi6 l06 g'
 have at_: ∀{h':Hp} (i:Nat),h3.le h'->i<xs.length-> ∃b o t,out.a=some (Addr.mk b o none)/\(0:Int)<=i/\(i:Int)<(out.n:Int)/\Hp.cell h' b (o+Int.toNat (i:Int)*1)=some (Sl.v t)/\gO h' t (bK m (cAt xs i) (cAt ys i))/\h3 b≠none:=by
  intro h' i l hi
  obtain⟨t,ht⟩: ∃t,ts[i]?=some t:=⟨_,List.getElem?_eq_getElem (by omega)⟩
  obtain⟨b,o,ha,hcc⟩:=hO.get (by omega)
  have hq:=hcc i _ (by rw [List.getElem?_map,ht];rfl)
  refine⟨b,o,t,ha,by omega,by omega,?_,(hT i t ht).mono l,fT hq⟩
  rw [Int.toNat_natCast,Nat.mul_one]
  exact l.cell hq
 refine ap (fun J=> ∀(w:Sl),w.n=xs.length-1->(∀i,i<xs.length-1-> ∃b o,w.a=some (Addr.mk b o none)/\ ∀h',h3.le h'->Hp.cell h' b (o+Int.toNat (i:Int)*1)=some (I (cAt xs (i+1):Nat)))->J w (((xs.length-1:Nat)):Int)) (fun w hwn hw=>?_) (fun J hJ=>?_)
 rotate_left
 ·have K3:=Kn.nil h3
  repeat' (refine kr_ ?_)
  refine⟨by omega,by simp;omega,by simp;omega,?_⟩
  obtain⟨ba,oa,ha,hca⟩:=h13.get (hx 0 (by omega)).1
  refine .inr ⟨ba,oa,ha,?_⟩
  rw [show (Int.ofNat sS.n).toNat-Int.toNat 1=xs.length-1 by simp;omega]
  refine hJ ⟨_,_,_⟩ rfl fun i hi=>⟨_,_,rfl,fun h' l'=>?_⟩
  obtain⟨bc,oc,ha',hcc⟩:=h13.get (hx (i+1) (by omega)).1
  rw [ha]at ha'
  cases ha'
  rw [if_neg (by simp;omega)]
  have:=l'.cell hcc
  rwa [show oa+(i+1)*1=oa+Int.toNat 1*1+Int.toNat (i:Int)*1 by simp;omega]at this
 refine au (xs.length-1) (fun i vs h'=>vs= [.pointer (some ⟨b9,0,none⟩),ps.v,out.v,w.v,I ((xs.length-1:Nat):Int),I (i:Nat)]/\h3.le h'/\(List.range i).all (CW m xs ys)=true) ⟨rfl,Hp.le_refl _,rfl⟩ ?_
 rintro i _ h4 nxt hi ⟨rfl,l34,a1⟩ hnx
 have K4:=Kn.of l34
 refine⟨b9,0,ps,out,w,_,_,rfl,?_⟩
 by_cases hlt:i<xs.length-1
 ·refine aM (by rw [decide_eq_true_eq];omega) ?_
  obtain⟨ba,oa,ha,hca⟩:=hw i hlt
  have xba:=fT (hca h3 (Hp.le_refl _))
  refine⟨ba,oa,ha,by omega,by omega,_,hca h4 l34,?_⟩
  obtain⟨bt,ot,t,hta,t0,t1,htc,hpv,xbt⟩:=at_ i l34 (by omega)
  refine⟨bt,ot,hta,t0,t1,?_⟩
  repeat' (refine kr_ ?_)
  refine⟨t,htc,?_⟩
  repeat' (refine kr_ ?_)
  refine wV (hs3.mono l34) hm g.ok (ips3.mono l34) (bV g 36) (ge g 36) (by have:=(pv (i+1) (by omega)).1;omega) fun u h5 l5 iu _=>⟨_,rfl,?_⟩
  have K5:=K4.mono l5
  repeat' (refine kr_ ?_)
  refine yc (F:=gt m (bK m (cAt xs i) (cAt ys i))) (hs3.mono K5.le) hm g (hs3.mono K5.le).nexts g.xl (hpv.mono l5) iu (j9 (kE ..)) xP (aeC g (dr g _ _)) (fun p x=>ae2) ⟨_,rfl,ad (fun e=>?_) (fun e=>?_)⟩
  ·rw [Bool.not_eq_true']at e
   rw [if_pos (E5 hlt e)]at k
   exact⟨h,Hp.le_trans l03 K5.le,k⟩
  ·rw [Bool.not_eq_false']at e
   rw [ay (by omega)]
   exact hnx hlt _ _ ⟨rfl,K5.le,BK a1 e⟩
 obtain rfl:i=xs.length-1:=by omega
 refine aC (by rw [decide_eq_false_iff_not];omega) ?_
 rw [if_neg (by rw [a1];decide)]at k
 clear hnx a1 hlt hi hw hwn w K4
 have on:out.n=xs.length:=by omega
 rw [on]
 refine au xs.length (fun i vs h'=>vs= [.pointer (some ⟨b9,0,none⟩),out.v,out.v,I ((xs.length:Nat):Int),I (i:Nat)]/\h3.le h'/\(List.range i).all (G7 m xs ys)=true) ⟨rfl,l34,rfl⟩ ?_
 clear l34 h4
 rintro i _ h4 nxt hi ⟨rfl,l34,a1⟩ hnx
 have K4:=Kn.of l34
 refine⟨b9,0,out,out,_,_,rfl,?_⟩
 by_cases hlt:i<xs.length
 ·refine aM (by rw [decide_eq_true_eq];omega) ?_
  obtain⟨bt,ot,t,hta,t0,t1,htc,hpv,xbt⟩:=at_ i l34 hlt
  rw [on]at t1
  refine⟨bt,ot,hta,t0,by omega,t,htc,?_⟩
  repeat' (refine kr_ ?_)
  refine Kt (hs3.mono l34) g hpv (dr g _ _) ⟨_,rfl,ad (fun e=>?_) (fun e=>?_)⟩
  ·rw [Bool.not_eq_true']at e
   rw [if_pos (E5 hlt e)]at k
   exact⟨h,Hp.le_trans l03 l34,k⟩
  ·rw [Bool.not_eq_false']at e
   rw [ay (by omega)]
   exact hnx hlt _ _ ⟨rfl,l34,BK a1 e⟩
 obtain rfl:i=xs.length:=by omega
 refine aC (by rw [decide_eq_false_iff_not];omega) ?_
 rw [if_neg (by rw [a1];decide)]at k
 obtain⟨bt,ot,t,hta,t0,t1,htc,hpv,xbt⟩:=at_ (xs.length-1) l34 (by omega)
 rw [show W ((out.n:Int)-1)=((xs.length-1:Nat):Int) by rw [cd (by omega) (by omega)];omega]
 refine⟨bt,ot,hta,t0,t1,?_⟩
 repeat' (refine kr_ ?_)
 refine⟨t,htc,?_⟩
 refine LT (hs3.mono l34) g hpv (dr g _ _) ⟨_,rfl,ad (fun e=>?_) (fun e=>?_)⟩
 ·rw [if_pos (of_decide_eq_true e)]at k
  exact⟨h,Hp.le_trans l03 l34,k⟩
 ·rw [if_neg (of_decide_eq_false e)]at k
  exact⟨h,Hp.le_trans l03 l34,k⟩
theorem qo {l:List NodeP} {ps:List Nat} {i p:Nat} (h:ps[i]?=some p):(ct l ps).getD i []=List.replicate (aE l p) 0:=by
 unfold ct
 rw [List.getD_eq_getElem?_getD,List.getElem?_map,h];rfl
theorem Qg (b n:Nat) {h:Hp} {z:Nat} {ro:Bool} (hn:n<=1000) (f:h b=some (.inl ⟨aR #[I 0] n,z,ro⟩)):IntS h ⟨some ⟨b,0,none⟩,n,n⟩ (VL (List.replicate n 0)):=by
 rw [cE]at f
 refine⟨by dsimp only;omega,by simp [aX], .inr ⟨b,0,rfl,?_⟩⟩
 have hc:(VL (List.replicate n 0)).map I=List.replicate n (I 0):=by simp [VL]
 rw [hc];exact aw f
theorem gO.offB {h0 h:Hp} {t out:Sl} {ts:List Sl} {vs:List (List Nat)} (e:gO h t vs) (pn:aee h0 t) (b0:Buf h0 out 1 (ts.map Sl.v)) (b1:Buf h out 1 (ts.map Sl.v)):gO (h.offS out) t vs:=by
 refine⟨e.1,e.2.1,fun p hp=>?_⟩
 obtain⟨b,o,t',h1,h2,h3⟩:=e.2.2 p hp
 refine⟨b,o,t',h1,?_,h3.offL b1⟩
 have hn:=pn b o h1
 have:(h.offS out) b=h b:=zR (b0.fresh_ne hn)
 unfold Hp.cell at h2⊢
 rw [this];exact h2
set_option maxHeartbeats 1000000 in
theorem Ba {h:Hp} {M:MSl} {m:ah} {kind:Int} {R:Value->Hp->Prop} (hs:aO h M m) (hm:bT m) (g:cr m)
  (k: ∀(out:Sl) (ts:List Sl) (h':Hp),h.le (h'.offS out)->out.n=(av m.nodes kind).length->ts.length=(av m.nodes kind).length->Buf h' out 1 (ts.map Sl.v)->
   (∀(j:Nat) (t:Sl),ts[j]?=some t->IntS (h'.offS out) t (VL ((ct m.nodes (av m.nodes kind)).getD j [])))->R (Sl.v out) h'):mj #[aQ M,I kind] h R:=by
 apply Nb
 refine uf_ ?_
 have hpl:=dV m.nodes kind
 have hnl:=g.nl
 have K0:=Kn.nil h
 (with_reducible apply Kn.al);(assumption);(intro b8 h1 K1 l1 hb8)
 clear K0
 repeat' (refine kr_ ?_)
 refine cJ (hs.mono K1.le) hm fun pt h2 l2 ip=>⟨_,rfl,?_⟩
 have f8:=l2 _ _ (K1.at (.head _))
 have hs2:=hs.mono (Hp.le_trans K1.le l2)
 have l02:=Hp.le_trans K1.le l2
 have hpn:pt.n=(av m.nodes kind).length:=by have:=ip.len;rw [aX]at this;exact this
 clear K1 l1 hb8 l2
 refine au (av m.nodes kind).length (fun i vs h'=> ∃(ts:List Sl) (out:Sl),vs= [.pointer (some ⟨b8,0,none⟩),pt.v,out.v,I (i:Nat)]/\h2.le (h'.offS out)/\out.n=i/\ts.length=i/\Buf h' out 1 (ts.map Sl.v)/\
  (∀(j:Nat) (t:Sl),ts[j]?=some t->IntS (h'.offS out) t (VL ((ct m.nodes (av m.nodes kind)).getD j [])))) ⟨[],⟨none,0,0⟩,rfl,Hp.le_refl _,rfl,rfl,fD _ _,fun j t ht=>by simp at ht⟩ ?_
 rintro i _ h3 next hi ⟨ts,out,rfl,l3',hon,htl,hbuf,hts⟩ hnx
 have l23:=Hp.le_trans l3' (aW h3 out)
 refine⟨b8,0,pt,out,_,rfl,?_⟩
 by_cases hlt:i<(av m.nodes kind).length
 rotate_left
 ·obtain rfl:i=(av m.nodes kind).length:=by omega
  refine aC (by rw [decide_eq_false_iff_not];omega) ?_
  exact k out ts h3 (Hp.le_trans l02 l3') hon htl hbuf hts
 refine aM (by rw [decide_eq_true_eq];omega) ?_
 obtain⟨p,hpi⟩: ∃p,(av m.nodes kind)[i]?=some p:=⟨_,List.getElem?_eq_getElem hlt⟩
 have hpm:=bV g kind p (List.mem_of_getElem? hpi)
 obtain⟨bp,op,hap,hcp⟩:=(ip.mono l23).get (iy hpi)
 refine⟨bp,op,hap,by omega,by omega,?_⟩
 have K3:=Kn.of l23
 (refine kr_ ?_)
 refine⟨_,by rw [Int.toNat_natCast];exact hcp,?_⟩
 obtain⟨bn,on,han,hpn',c6,c7,w1,w16⟩:=(hs2.mono l23).nodes.sortc2 hpm g.ok
 refine⟨bn,on,han,by omega,hpn',_,c6,_,c7,?_⟩
 refine gH ⟨_,rfl,?_⟩
 rw [px g.ok hpm]
 have hc4:=dl m.nodes p
 refine⟨by omega,by omega,by omega,by omega,?_⟩
 refine aj fun b33 h4 hb33 l4 f33=>?_
 rw [Int.toNat_natCast,Nat.mul_one]at f33
 have ht:=Qg b33 _ (by omega) f33
 rw [Int.toNat_natCast]
 refine aj fun b h5 hb l5 f5=>?_
 have l35:=Hp.le_trans l4 l5
 have l35o:=bC out l35
 refine dG (hbuf.mono l35) (by omega) (by omega) (by omega) ⟨b,0,rfl,aw f5⟩ (by simp) rfl ?_
 intro s' h6 hs'n hbuf' l6' _
 rw [ay (by omega)]
 have l36:=Hp.le_trans l35o l6'
 have hbuf'':Buf h6 s' 1 ((ts++ [(⟨some ⟨b33,0,none⟩,aE m.nodes p,aE m.nodes p⟩:Sl)]).map Sl.v):=by rw [List.map_append];exact hbuf'
 refine hnx hlt _ _ ⟨ts++ [⟨some ⟨b33,0,none⟩,aE m.nodes p,aE m.nodes p⟩],s',rfl,Hp.le_trans l3' l36,by omega,by simp;omega,hbuf'',fun j u hu=>?_⟩
 by_cases hj:j<i
 ·rw [List.getElem?_append_left (by omega)]at hu
  exact(hts j u hu).mono l36
 ·have hju:=get_lt hu
  simp at hju
  obtain rfl:j=i:=by omega
  rw [List.getElem?_append_right (by omega),htl,Nat.sub_self]at hu
  simp at hu;subst hu
  rw [qo hpi]
  exact((ht.mono l5).offL (hbuf.mono l35)).mono l6'
theorem LP {m:ah} (g:cr m) {p q:Nat} (h:bO m.inits p=some q):q<m.nodes.length/\0<((kH m).getD q []).length/\((kH m).getD q []).length<=4:=by
 obtain⟨b,hb,_,rfl⟩:=dW h
 obtain⟨v1,v2,v3,v4,_⟩:=yD g hb
 exact⟨by omega,v3,v4⟩
theorem RB (m:ah) {i p:Nat} (h:(stP m)[i]?=some p):(fP m).getD i []=(ed m p).getD (List.replicate (aE m.nodes p) 0):=by
 unfold fP mA
 rw [List.getD_eq_getElem?_getD,List.getElem?_map,h];rfl
theorem B4 (m:ah):(fP m).length=(stP m).length:=by unfold fP mA;rw [List.length_map]
set_option maxHeartbeats 1000000 in
theorem yP {h:Hp} {M:MSl} {m:ah} {R:Value->Hp->Prop} (hs:aO h M m) (hm:bT m) (g:cr m)
  (k: ∀out h',h.le h'->IntSS h' out ((fP m).map VL)->R (Sl.v out) h'):qO #[aQ M] h R:=by
 apply JD
 refine uf_ ?_
 have hpl:(stP m).length<=m.nodes.length:=dV m.nodes 36
 have hnl:=g.nl
 have hil:=g.il
 have K0:=Kn.nil h
 (with_reducible apply Kn.al);(assumption);(intro b7 h1 K1 l1 hb7)
 clear K0
 repeat' (refine kr_ ?_)
 refine cJ (hs.mono K1.le) hm fun pt h2 l2 ip=>⟨_,rfl,?_⟩
 have K2:=K1.mono l2
 clear K1
 repeat' (refine kr_ ?_)
 refine Ba (hs.mono K2.le) hm g fun out ts h3 l3 hon htl hbuf hts=>⟨_,rfl,?_⟩
 have l3':=Hp.le_trans l3 (aW _ _)
 replace hon:out.n=(stP m).length:=hon
 replace htl:ts.length=(stP m).length:=htl
 have K3:=K2.mono l3'
 repeat' (refine kr_ ?_)
 refine HK (hs.mono K3.le) hm g fun vt h4 l4 hvn hpv pn=>⟨_,rfl,?_⟩
 have f7:=l4 _ _ (K3.at (.head _))
 have hpn:pt.n=(stP m).length:=by have:=ip.len;rw [aX]at this;exact this
 have f7o:(h4.offS out) b7=some (.inl ⟨aH M,5,false⟩):=bC out l4 _ _ (l3 _ _ (K2.at (.head _)))
 have hpvo:gO (h4.offS out) vt (kH m):=hpv.offB pn hbuf (hbuf.mono l4)
 replace hbuf:=hbuf.mono l4
 replace hts: ∀(j p:Nat) (t:Sl),(stP m)[j]?=some p->ts[j]?=some t->IntS (h4.offS out) t (VL (List.replicate (aE m.nodes p) 0)):=fun j p t hp ht=>by
  have:=(hts j t ht).mono (bC out l4)
  rwa [qo hp]at this
 have l04:h.le (h4.offS out):=Hp.le_trans K2.le (Hp.le_trans l3 (bC out l4))
 have ipo:IntS (h4.offS out) pt (VL (stP m)):=ip.mono (Hp.le_trans l3 (bC out l4))
 clear K3 K2 hb7 l1 l2 l3' hpv pn ip l4 l3 f7
 refine au (stP m).length (fun i vs h'=> ∃ts:List Sl,vs= [.pointer (some ⟨b7,0,none⟩),pt.v,out.v,vt.v,I (i:Nat)]/\(h4.offS out).le (h'.offS out)/\Buf h' out 1 (ts.map Sl.v)/\ts.length=(stP m).length/\
  ∀(j p:Nat) (t:Sl),(stP m)[j]?=some p->ts[j]?=some t->IntS (h'.offS out) t (VL (if j<i then(ed m p).getD (List.replicate (aE m.nodes p) 0)else List.replicate (aE m.nodes p) 0)))
  ⟨ts,rfl,Hp.le_refl _,hbuf,htl,fun j p t hp ht=>by rw [if_neg (by omega)];exact hts j p t hp ht⟩ ?_
 clear hbuf hts htl ts
 rintro i _ h5 next hi ⟨ts,rfl,l45,hbuf,htl,hts⟩ hnx
 have lo:=aW h5 out
 have l5:=Hp.le_trans l45 lo
 refine⟨b7,0,pt,out,vt,_,rfl,?_⟩
 by_cases hlt:i<(stP m).length
 rotate_left
 ·obtain rfl:i=(stP m).length:=by omega
  refine aC (by rw [decide_eq_false_iff_not];omega) ?_
  refine k out h5 (Hp.le_trans l04 l5) ⟨ts,by rw [List.length_map,B4];exact htl,hbuf.slc_of (by omega),fun j h1 h2=>?_⟩
  have hj:j<(stP m).length:=by omega
  obtain⟨p,hp⟩: ∃p,(stP m)[j]?=some p:=⟨_,List.getElem?_eq_getElem hj⟩
  have:=(hts j p _ hp (List.getElem?_eq_getElem h1)).mono lo
  rw [if_pos hj,<-RB m hp,List.getD_eq_getElem?_getD,List.getElem?_eq_getElem (by rw [B4];exact hj)]at this
  rw [List.getElem_map];exact this
 refine aM (by rw [decide_eq_true_eq];omega) ?_
 obtain⟨p,hpi⟩: ∃p,(stP m)[i]?=some p:=⟨_,List.getElem?_eq_getElem hlt⟩
 have hpm:=bV g 36 p (List.mem_of_getElem? hpi)
 obtain⟨bp,op,hap,hcp⟩:=(ipo.mono l5).get (iy hpi)
 have K5:=Kn.of l5
 have f7:=l5 _ _ f7o
 have K05:=Kn.of (g:=h4.offS out) l5
 refine⟨bp,op,hap,by omega,by omega,?_⟩
 repeat' (refine kr_ ?_)
 refine⟨_,by rw [Int.toNat_natCast];exact hcp,?_⟩
 have hbn: ∀b∈m.inits,0<=b.node:=fun b hb=>(yD g hb).1
 refine lj (hs.mono (Hp.le_trans l04 l5)).inits (by omega) hbn ⟨_,rfl,?_⟩
 cases hbo:bO m.inits p with
 |none=>
  rw [show ic m.inits p= -1 from by unfold ic;rw [hbo]]
  refine aC (by simp) ?_
  rw [ay (by omega)]
  refine hnx hlt _ _ ⟨ts,rfl,l45,hbuf,htl,fun j p' t hp ht=>?_⟩
  have:=hts j p' t hp ht
  by_cases hj:j<i
  ·rw [if_pos hj]at this;rw [if_pos (by omega)];exact this
  ·rw [if_neg hj]at this
   by_cases hj2:j=i
   ·subst hj2
    rw [hpi]at hp
    obtain rfl:=Option.some.inj hp
    rw [if_pos (by omega),show ed m p=none by unfold ed;rw [hbo];rfl];exact this
   ·rw [if_neg (by omega)];exact this
 |some q=>
  rw [show ic m.inits p=(q:Int)from by unfold ic;rw [hbo]]
  refine aM (by simp) ?_
  obtain⟨hq,v3,v4⟩:=LP g hbo
  obtain⟨bv,ov,u,hua,hun,huc,huv⟩:=(hpvo.mono l5).at (p:=(q:Int)) (by omega) (by rw [(xR g).len];omega)
  rw [Int.toNat_natCast]at huv
  obtain⟨t,hti⟩: ∃t,ts[i]?=some t:=⟨_,List.getElem?_eq_getElem (by omega)⟩
  have htI:=hts i p t hpi hti
  rw [if_neg (by omega)]at htI
  have htn:=htI.len
  rw [aX,List.length_replicate]at htn
  have hc4:=dl m.nodes p
  refine⟨bv,ov,hua,by omega,hun,?_⟩
  rcases hbuf.2.2 with ⟨_,h0,_⟩|⟨bo,hao,hbo'⟩
  ·omega
  refine⟨bo,0,hao,by omega,by omega,u,huc,t,by rw [ax hbo',Int.toNat_natCast,Nat.zero_add,Nat.mul_one,List.getElem?_map,hti];rfl,?_⟩
  rw [htn]
  refine Hw huv v3 v4 hc4 fun t2 h6 l6 ht2=>⟨_,rfl,?_⟩
  have l6o:=bC out l6
  have hbuf6:=hbuf.mono l6
  refine hbuf6.wr (x:=t2) (by omega) fun h7 hbuf' ho=>?_
  rw [ay (by omega)]
  refine hnx hlt _ _ ⟨ts.set i t2,rfl,by rw [ho];exact Hp.le_trans l45 l6o,hbuf',by rw [List.length_set];exact htl,fun j p' w hp hw=>?_⟩
  rw [ho]
  by_cases hji:j=i
  ·subst hji
   rw [hpi]at hp
   obtain rfl:=Option.some.inj hp
   rw [List.getElem?_set_self (by omega)]at hw
   obtain rfl:=Option.some.inj hw
   rw [if_pos (by omega),show ed m p=some (kQ (aE m.nodes p) ((kH m).getD q [])) by unfold ed;rw [hbo];rfl]
   exact ht2.offL hbuf6
  ·rw [List.getElem?_set_ne (fun e=>hji e.symm)]at hw
   have:=(hts j p' w hp hw).mono l6o
   by_cases hj:j<i
   ·rw [if_pos hj]at this;rw [if_pos (by omega)];exact this
   ·rw [if_neg hj]at this;rw [if_neg (by omega)];exact this
theorem UY {h:Hp} {M:MSl} {m:ah} {x:Int} {R:Value->Hp->Prop} (hs:aO h M m) (hm:bT m) (hc:aG m≠0)
  (k: ∀h',h.le h'->R (.tuple #[.slice none 0 0, .bool false]) h'):jB #[aQ M,I x] h R:=by
 apply A9
 refine uf_ ?_
 have K0:=Kn.nil h
 (with_reducible apply Kn.al);(assumption);(intro b8 h1 K1 l1 hb8)
 refine ap (fun J=>J true h1) (aM rfl (k h1 l1)) (fun J hJ=>?_)
 repeat' (refine kr_ ?_)
 refine cj (hs.mono l1) hm ⟨_,rfl,?_⟩
 exact aM (by rw [bne_iff_ne];exact hc) hJ
def AA (m:ah):Nat->List Int->List (Nat×Nat)
 |_, []=> []
 |s,y::r=>(s,y.toNat)::AA m (mZ m s y.toNat) r
def z7 (m:ah) (x:Int) (ys:List Int):Bool:=
 decide (1<=(ys.length:Int)/\(ys.length:Int)<=301)&&(decide (aG m=0)&&(k9 (ak m.nodes 36) x&&ys.all (k9 (ak m.nodes 35))))
def Bf (m:ah) (x:Int) (ys:List Int):List (Nat×Nat):=if z7 m x ys then AA m x.toNat ys else []
theorem S5 (m:ah): ∀(ys:List Int) (s:Nat),(AA m s ys).length=ys.length:=by
 intro ys
 induction ys with
 |nil=>intro s;rfl
 |cons y r ih=>intro s;show (_::AA m _ r).length=_;rw [List.length_cons,ih,List.length_cons]
theorem aeg {m:ah} {x:Int} {ys:List Int} (h:z7 m x ys=false):Bf m x ys= []:=by unfold Bf;rw [h];rfl
theorem wX {m:ah} (g:cr m) (s i:Nat):mZ m s i<2^ak m.nodes 36:=by
 have:=yg (jL g (dr g s i).fit)
 rwa [eM g]at this
set_option maxHeartbeats 2000000 in
theorem DC {h:Hp} {M:MSl} {m:ah} {s:Sl} {x:Int} {ys:List Int} {R:Value->Hp->Prop} (hs:aO h M m) (hm:bT m) (hy:IntS h s ys)
  (k: ∀sS sI h',TrG h h' sS sI (Bf m x ys)->R (AM sS sI (z7 m x ys)) h'):tY #[aQ M,I x,s.v] h R:=by
 apply H5
 refine uf_ ?_
 have hn:=hy.len
 have K0:=Kn.nil h
 (with_reducible apply Kn.al);(assumption);(intro b9 h1 K1 l1 hb9)
 (with_reducible apply Kn.al);(assumption);(intro b11 h2 K2 l2 hb11)
 clear K0 K1
 have no: ∀{h':Hp},z7 m x ys=false->Kn h h' [(b11, .inl ⟨[(⟨none,0,0⟩:Sl).v,(⟨none,0,0⟩:Sl).v],2,false⟩),(b9, .inl ⟨aH M,5,false⟩)]->
   ∃(cs:List Value) (z:Nat),h' b11=some (.inl ⟨cs,z,false⟩)/\0+2<=cs.length/\cM (h'.row b11 (bX cs 0 [.slice none 0 0, .slice none 0 0]) z) fun h3=> ∃s1:Sl,Hp.cell h3 b11 0=some s1.v/\ ∃s2:Sl,Hp.cell h3 b11 1=some s2.v/\R (.tuple #[.agg #[s1.v,s2.v], .bool false]) h3:=by
  intro h' e K'
  have k':=k
  rw [aeg e,e]at k'
  refine kw_ ?_
  intro h3 K3 _
  exact⟨⟨none,0,0⟩,by rw [ax (K3.at (.head _))];rfl,⟨none,0,0⟩,by rw [ax (K3.at (.head _))];rfl,k' ⟨none,0,0⟩ ⟨none,0,0⟩ h3 (TrG.nil K3.le)⟩
 rw [hn]
 refine ey ⟨_,rfl,ad (fun e=>?_) (fun e=>?_)⟩
 ·refine no (by rw [Bool.not_eq_true']at e;unfold z7;rw [e,Bool.false_and]) K2
 rw [Bool.not_eq_false']at e
 have e1:=of_decide_eq_true e
 repeat' (refine kr_ ?_)
 by_cases hc:aG m=0
 rotate_left
 ·refine UY (hs.mono K2.le) hm hc fun h3 l3=>⟨⟨none,0,0⟩,_,rfl,?_⟩
  exact aM rfl (no (by unfold z7;rw [decide_eq_false hc,Bool.false_and,Bool.and_false]) (K2.mono l3))
 refine HA (hs.mono K2.le) hm hc fun s0 h3 l3=>⟨_,_,rfl,?_⟩
 have K3:=K2.mono l3
 clear K2
 refine ad (fun e=>?_) (fun e2=>?_)
 ·refine no (by rw [Bool.not_eq_true']at e;unfold z7;rw [e,Bool.false_and,Bool.and_false,Bool.and_false]) K3
 rw [Bool.not_eq_false']at e2
 have g:=cD hc
 have hok:z7 m x ys=ys.all (k9 (ak m.nodes 35)):=by
  unfold z7
  rw [e,decide_eq_true hc,e2];rfl
 have hxr:=jX.1 e2
 have n8:=g.n8
 have k5:=g.k5
 have hp8:2^ak m.nodes 36<=2^8:=Nat.pow_le_pow_right (by omega) n8
 have hp5:2^ak m.nodes 35<=2^5:=Nat.pow_le_pow_right (by omega) k5
 (with_reducible apply Kn.al);(exact Kn.nil h3);(intro b43 h4 K4 l4 hb43)
 have f9:=K3.at (b:=b9) (by((focus ((repeat first|exact .head _|apply List.Mem.tail);done))))
 have f11:=K3.at (b:=b11) (by((focus ((repeat first|exact .head _|apply List.Mem.tail);done))))
 have hs3:=hs.mono K3.le
 have hy3:=hy.mono K3.le
 refine au ys.length (fun i vs h'=> ∃(pre:List (Nat×Nat)) (cur:Nat) (sS sI:Sl) (XS XI:List (Nat×Blk)),
  vs= [I cur,s.v, .pointer (some ⟨b9,0,none⟩), .pointer (some ⟨b11,0,none⟩), .pointer (some ⟨b43,0,none⟩),I (i:Nat)]/\Kn h3 h' ((b43, .inl ⟨[sS.v,sI.v],2,false⟩)::(XS++(XI++ [])))/\
  bR XS sS 1 ((VL (pre.map Prod.fst)).map I)/\bR XI sI 1 ((VL (pre.map Prod.snd)).map I)/\pre.length=i/\cur<2^ak m.nodes 36/\(ys.take i).all (k9 (ak m.nodes 35))=true/\pre++AA m cur (ys.drop i)=AA m x.toNat ys)
  ⟨[],x.toNat,⟨none,0,0⟩,⟨none,0,0⟩, [], [],by rw [Int.toNat_of_nonneg hxr.1];rfl,K4,cF 1,cF 1,rfl,by omega,by simp,rfl⟩ ?_
 clear K4 l4 hb43 h4
 rintro i _ h4 next hi ⟨pre,cur,sS,sI,XS,XI,rfl,K,oS,oI,hpl,hcur,hall,hrun⟩ hnx
 refine⟨_,s,b9,0,b11,0,b43,0,_,rfl,?_⟩
 have hpl1:=oS.1
 have hpl2:=oI.1
 simp only [List.length_map,aX,Nat.mul_one]at hpl1 hpl2
 rw [hn]
 by_cases hlt:i<ys.length
 rotate_left
 ·obtain rfl:i=ys.length:=by omega
  refine aC (by rw [decide_eq_false_iff_not];omega) ?_
  rw [List.take_of_length_le (Nat.le_refl _)]at hall
  rw [List.drop_length]at hrun
  replace hrun:pre=AA m x.toNat ys:=by rw [<-hrun];exact(List.append_nil pre).symm
  (refine kr_ ?_)
  (refine kr_ ?_)
  have K2':=K3.mono K.le
  (with_reducible apply Kn.wr);(exact K2');((focus ((repeat first|exact .head|apply Upd.tail);done)))
  ·exact of_decide_eq_true rfl
  intro h5 K5 kp
  refine⟨sS,by rw [ax (K5.at (.head _))];rfl,sI,by rw [ax (K5.at (.head _))];rfl,?_⟩
  have t:=Qi (b6:=b11) K3.le (by rw [f11];simp) oS oI K K5.le kp
  rw [hrun]at t
  have:=k sS sI h5 (by unfold Bf;rw [hok,hall];exact t)
  rwa [hok,hall]at this
 refine aM (by rw [decide_eq_true_eq];omega) ?_
 obtain⟨y,hyi⟩: ∃y,ys[i]?=some y:=⟨_,List.getElem?_eq_getElem hlt⟩
 obtain⟨ba,oa,ha,hca⟩:=(hy3.mono K.le).get hyi
 refine⟨ba,oa,ha,by omega,by omega,?_⟩
 repeat' (refine kr_ ?_)
 refine⟨_,by rw [Int.toNat_natCast];exact hca,?_⟩
 refine HC (hs3.mono K.le) hm hc fun s1 h5 l5=>⟨_,_,rfl,?_⟩
 have K5:=K.mono l5
 clear K
 refine ad (fun e=>?_) (fun e=>?_)
 ·refine no ?_ (K3.mono K5.le)
  rw [Bool.not_eq_true']at e
  rw [hok]
  exact ri hyi e
 rw [Bool.not_eq_false']at e
 have hyr:=jX.1 e
 (refine kr_ ?_)
 refine Kn.al K5 fun b87 h6 K6 l6 hb87=>?_
 have f87:=K6.at (.head _)
 refine Kn.growIn (A:= [_,_]) K6 oS (by omega) (by omega) (by omega) ⟨b87,0,rfl,aw f87⟩ rfl rfl fun sS' XS' h7 hnS oS' K7 l7=>?_
 simp only [List.cons_append,List.nil_append]at K7
 clear K6 l6 hb87 f87 K5 l5
 (((with_reducible apply Kn.wr);(assumption);((focus ((repeat first|exact .head|apply Upd.tail);done)))))
 ·simp
 intro h8 K8 _
 simp only [bG,List.set_cons_zero,List.set_cons_succ,Nat.zero_add,Nat.reduceAdd]at K8
 clear K7 l7
 obtain⟨ba,oa,ha,hca⟩:=hy3.get hyi
 have xba:=fT hca
 refine⟨ba,oa,ha,by omega,by omega,?_⟩
 (refine kr_ ?_)
 refine⟨_,by rw [Int.toNat_natCast];exact K8.le.cell hca,?_⟩
 refine Kn.al K8 fun b98 h9 K9 l9 hb98=>?_
 repeat' (refine kr_ ?_)
 have f98:=K9.at (.head _)
 refine Kn.growIn2 (A:= [_,_,_]) K9 oI (by omega) (by omega) (by omega) ⟨b98,0,rfl,aw f98⟩ rfl rfl fun sI' XI' h10 hnI oI' K10 l10=>?_
 simp only [List.cons_append,List.nil_append]at K10
 clear K9 l9 hb98 f98 K8
 (((with_reducible apply Kn.wr);(assumption);((focus ((repeat first|exact .head|apply Upd.tail);done)))))
 ·simp
 intro h11 K11 _
 simp only [bG,List.set_cons_zero,List.set_cons_succ,Nat.zero_add,Nat.reduceAdd]at K11
 clear K10 l10
 have nd:=K11.nd
 have KS:Kn h3 h11 ((b43, .inl ⟨[sS'.v,sI'.v],2,false⟩)::(XS'++(XI'++ []))):=by
  refine K11.sub (fun e he=> .tail _ (.tail _ he)) ?_
  simp only [List.map_cons,List.nodup_cons]at nd⊢
  exact nd.2.2
 obtain⟨ba,oa,ha,hca⟩:=(hy3.mono KS.le).get hyi
 clear K11
 refine⟨ba,oa,ha,by omega,by omega,?_⟩
 repeat' (refine kr_ ?_)
 refine⟨_,by rw [Int.toNat_natCast];exact hca,?_⟩
 obtain⟨c,rfl⟩: ∃c:Nat,y=c:=⟨y.toNat,by omega⟩
 refine wP (hs3.mono KS.le) hm g (by omega) (by omega) ⟨_,rfl,?_⟩
 rw [ay (by omega)]
 refine hnx hlt _ _ ⟨pre++ [(cur,c)],mZ m cur c,sS',sI',XS',XI',rfl,KS,by simpa [VL] using oS',by simpa [VL] using oI',by simp;omega,wX g _ _,GA hyi e hall,?_⟩
 rw [<-hrun,List.append_assoc]
 rw [List.drop_eq_getElem_cons hlt]
 have hyi':ys[i]=(c:Int):=by rw [List.getElem?_eq_getElem hlt]at hyi;exact Option.some.inj hyi
 rw [hyi'];rfl
theorem bR.one {X:List (Nat×Blk)} {s:Sl} {sz:Nat} {cs:List Value} (o:bR X s sz cs) (hn:s.n≠0): ∃b,s.a=some ⟨b,0,none⟩/\X= [(b, .inl ⟨cs,s.c*sz,false⟩)]:=by
 rcases o.2.2 with ⟨_,rfl,_⟩|h
 ·exact absurd rfl hn
 ·exact h
theorem Kn.ints {g h:Hp} {L:List (Nat×Blk)} {s:Sl} {b z:Nat} {ro:Bool} {xs:List Int} (K:Kn g h L) (m:(b, .inl ⟨xs.map I,z,ro⟩)∈L) (ha:s.a=some ⟨b,0,none⟩) (hn:xs.length=s.n) (hl:s.n<=1000000):IntS h s xs:=
 ⟨by omega,by rw [List.length_map,Nat.mul_one];exact hn, .inr ⟨b,0,ha,aw (K.at m)⟩⟩
theorem hG (a b:Sl):yx [a.v,b.v]:=yd [a,b]
abbrev TrR (g:Hp) (R:Value->Hp->Prop):Prop:= ∀tS tI us vs h',g.le h'->IntS h' tS us->IntS h' tI vs->tS.n<=tS.c->tI.n<=tI.c->us.length<=400->vs.length<=400->R (.agg #[Sl.v tS,Sl.v tI]) h'
set_option maxHeartbeats 4000000 in
theorem Pp {g h:Hp} {B p:Nat} {s sS sI:Sl} {bs:List Nat} {XS XI:List (Nat×Blk)} {xs ys:List Int} {R:Value->Hp->Prop} (hb:ByteS g s bs) (K:Kn g h ((B,rdC s p)::(XS++(XI++ []))))
  (oS:bR XS sS 1 (xs.map I)) (oI:bR XI sI 1 (ys.map I)) (hl:ys.length=xs.length) (hn:xs.length<=302) (hp:p<=500000) (k:TrR g R):mz #[.pointer (some ⟨B,0,none⟩), .agg #[sS.v,sI.v]] h R:=by
 apply Fy
 refine uf_ ?_
 have nS:=oS.1
 have nI:=oI.1
 have cS:=oS.2.1
 have cI:=oI.2.1
 rw [List.length_map,Nat.mul_one]at nS nI
 refine Kn.al K fun b5 h1 K1 l1 hb5=>?_
 refine Kn.al K1 fun b7 h2 K2 l2 hb7=>?_
 clear K K1
 have leaf: ∀{tS tI:Sl} {us vs:List Int} {h':Hp} {L:List (Nat×Blk)},Kn g h' ((b7, .inl ⟨[(⟨none,0,0⟩:Sl).v,(⟨none,0,0⟩:Sl).v],2,false⟩)::(b5, .inl ⟨[tS.v,tI.v],2,false⟩)::L)->IntS h' tS us->IntS h' tI vs->tS.n<=tS.c->tI.n<=tI.c->us.length<=400->vs.length<=400->
   ∃s1:Sl,Hp.cell h' b5 0=some s1.v/\ ∃s2:Sl,Hp.cell h' b5 1=some s2.v/\ ∃(cs:List Value) (z:Nat),h' b7=some (.inl ⟨cs,z,false⟩)/\0+2<=cs.length/\cM (h'.row b7 (bX cs 0 [s1.v,s2.v]) z) fun h3=>
    ∃s3:Sl,Hp.cell h3 b7 0=some s3.v/\ ∃s4:Sl,Hp.cell h3 b7 1=some s4.v/\R (.agg #[s3.v,s4.v]) h3:=by
  intro tS tI us vs h' L K' iS iI c1 c2 n1 n2
  refine⟨tS,by rw [ax (K'.at (.tail _ (.head _)))];rfl,tI,by rw [ax (K'.at (.tail _ (.head _)))];rfl,?_⟩
  have f7:=K'.at (.head _)
  refine kw_ ?_
  intro h3 K3 kp
  refine⟨tS,by rw [ax (K3.at (.head _))];rfl,tI,by rw [ax (K3.at (.head _))];rfl,?_⟩
  exact k tS tI us vs h3 K3.le (iS.keepN f7 (hG _ _) kp) (iI.keepN f7 (hG _ _) kp) c1 c2 n1 n2
 refine ap (fun J=> ∀(c:Bool) h' p',(c=false->sS.n≠0)->p'<=p+1->Kn g h' ((b7, .inl ⟨[(⟨none,0,0⟩:Sl).v,(⟨none,0,0⟩:Sl).v],2,false⟩)::(b5, .inl ⟨[sS.v,sI.v],2,false⟩)::(B,rdC s p')::(XS++(XI++ [])))->J c h')
  (fun c h3 p' hc hp' K3=>?_) (fun J hJ=>?_)
 rotate_left
 ·repeat' (refine kr_ ?_)
  refine ad (fun e=>hJ true h2 p (fun e=>nomatch e) (by omega) K2) (fun e=>?_)
  have e':sS.n≠0:=by
   intro q
   rw [q]at e;exact absurd e (by decide)
  refine kp_ ?_
  intro z h3 K3 _ _
  exact⟨_,rfl,hJ _ h3 _ (fun _=>e') (Nat.le_refl _) K3⟩
 clear K2
 refine ad (fun e=>?_) (fun e=>?_)
 ·have iS:IntS h3 sS xs:=(oS.buf fun e he=>K3.mem e (by simp [he])).slc_of (by omega)
  have iI:IntS h3 sI ys:=(oI.buf fun e he=>K3.mem e (by simp [he])).slc_of (by omega)
  exact leaf K3 iS iI cS cI (by omega) (by omega)
 have hn0:=hc e
 clear e hc
 obtain⟨bS,aS,rfl⟩:=oS.one hn0
 obtain⟨bI,aI,rfl⟩:=oI.one (by omega)
 simp only [List.cons_append,List.nil_append]at K3
 have oS0:=oS
 have oI0:=oI
 repeat' (refine kr_ ?_)
 refine kp_ ?_
 intro x h4 K4 hx hx0
 replace hx:x<sS.n:=by have:=hx (by omega);omega
 clear hx0
 refine⟨_,rfl,?_⟩
 clear K3
 refine kp_ ?_
 intro y h5 K5 _ _
 refine⟨_,rfl,?_⟩
 clear K4
 refine ap (fun J=> ∀{tS tI:Sl} {us vs:List Int} {h':Hp} {L:List (Nat×Blk)},Kn g h' ((b7, .inl ⟨[(⟨none,0,0⟩:Sl).v,(⟨none,0,0⟩:Sl).v],2,false⟩)::(b5, .inl ⟨[tS.v,tI.v],2,false⟩)::L)->IntS h' tS us->IntS h' tI vs->tS.n<=tS.c->tI.n<=tI.c->us.length<=400->vs.length<=400->J b5 0 b7 0 h')
  (fun {tS tI us vs h' L} K' iS iI c1 c2 n1 n2=>leaf K' iS iI c1 c2 n1 n2) (fun J hJ=>?_)
 clear leaf
 have iS:IntS h5 sS xs:=K5.ints (.tail _ (.tail _ (.tail _ (.head _)))) aS (by omega) (by omega)
 have iI:IntS h5 sI ys:=K5.ints (.tail _ (.tail _ (.tail _ (.tail _ (.head _))))) aI (by omega) (by omega)
 have wrS: ∀{L L':List (Nat×Blk)} {h':Hp} {v:Int} {b:Nat} {c:Sl} {zs:List Int} {P:Hp->Prop},Kn g h' L->c.a=some ⟨b,0,none⟩->x<zs.length->zs.length=c.n->Upd L b (.inl ⟨zs.map I,c.c*1,false⟩) (.inl ⟨(zs.set x v).map I,c.c*1,false⟩) L'->(∀h'',Kn g h'' L'->P h'')->
   ∃b' o':Nat,c.a=some ⟨b',o',none⟩/\(0:Int)<=(x:Int)/\(x:Int)<((c.n:Nat):Int)/\ ∃(cs:List Value) (z:Nat),h' b'=some (.inl ⟨cs,z,false⟩)/\(o'+Int.toNat (x:Int)*1)+1<=cs.length/\cM (h'.row b' (bX cs (o'+Int.toNat (x:Int)*1) [I v]) z) P:=by
  intro L L' h' v b c zs P K' ha hx hz u kk
  refine⟨b,0,ha,by omega,by omega,?_⟩
  rw [show (0+Int.toNat (x:Int)*1)=x by simp]
  have u':Upd L b (.inl ⟨zs.map I,c.c*1,false⟩) (.inl ⟨bX (zs.map I) x [I v],c.c*1,false⟩) L':=by
   rw [bG,<-List.map_set];exact u
  exact K'.wr u' (by rw [List.length_map];omega) fun h'' K'' _=>kk h'' K''
 refine ad (fun e=>?_) (fun e=>?_)
 ·repeat' (refine kr_ ?_)
  refine kp_ ?_
  intro z h6 K6 _ _
  refine⟨_,rfl,?_⟩
  repeat' (refine kr_ ?_)
  clear K5
  refine wrS (zs:=xs) K6 aS (by omega) (by omega) (by((focus ((repeat first|exact .head|apply Upd.tail);done)))) fun h7 K7=>?_
  exact hJ (us:=xs.set x _) (vs:=ys) K7 (K7.ints (.tail _ (.tail _ (.tail _ (.head _)))) aS (by rw [List.length_set];omega) (by omega)) (K7.ints (.tail _ (.tail _ (.tail _ (.tail _ (.head _))))) aI (by omega) (by omega)) cS cI (by rw [List.length_set];omega) (by omega)
 clear e
 refine ad (fun e=>?_) (fun e=>?_)
 ·repeat' (refine kr_ ?_)
  refine kp_ ?_
  intro z h6 K6 _ _
  refine⟨_,rfl,?_⟩
  repeat' (refine kr_ ?_)
  clear K5
  have hx':x<sI.n:=by omega
  refine wrS (zs:=ys) K6 aI (by omega) (by omega) (by((focus ((repeat first|exact .head|apply Upd.tail);done)))) fun h7 K7=>?_
  exact hJ (us:=xs) (vs:=ys.set x _) K7 (K7.ints (.tail _ (.tail _ (.tail _ (.head _)))) aS (by omega) (by omega)) (K7.ints (.tail _ (.tail _ (.tail _ (.tail _ (.head _))))) aI (by rw [List.length_set];omega) (by omega)) cS cI (by omega) (by rw [List.length_set];omega)
 clear e wrS
 have f5:=K5.at (b:=b5) (.tail _ (.head _))
 refine ad (fun e=>?_) (fun e=>?_)
 ·(refine kr_ ?_)
  refine⟨by omega,by simp;omega,by simp;omega, .inr ⟨bS,0,aS,?_⟩⟩
  refine kw_ ?_
  intro h6 K6 kp
  have iS6:=iS.keepN f5 (hG _ _) kp
  have iI6:=iI.keepN f5 (hG _ _) kp
  refine hJ (tS:=⟨_,_,_⟩) (us:=xs.drop 1) K6 ?_ iI6 ?_ cI (by simp;omega) (by omega)
  ·refine⟨by simp;omega,by simp;omega, .inr ⟨bS,_,rfl,?_⟩⟩
   intro i v hv
   rw [List.getElem?_map,List.getElem?_drop,Option.map_eq_some_iff]at hv
   obtain⟨w,hw,rfl⟩:=hv
   have:=get_lt hw
   rw [if_neg (by simp;omega)]
   rw [ax (K6.at (b:=bS) (.tail _ (.tail _ (.tail _ (.head _)))))]
   simp only [Nat.zero_add,List.getElem?_map]
   rw [show Int.toNat 1*1+i=1+i by simp,hw];rfl
  ·simp;omega
 clear e
 refine ad (fun e=>?_) (fun e=>?_)
 ·have tk: ∀{c:Sl} {b:Nat} {zs:List Int} {h':Hp},IntS h' c zs->c.a=some ⟨b,0,none⟩->x<zs.length->zs.length<=302->IntS h' ⟨some ⟨b,(if c.c=Int.toNat (Int.ofNat 0)then 0 else 0+Int.toNat (Int.ofNat 0)*1),none⟩,Int.toNat (x:Int)-Int.toNat (Int.ofNat 0),c.c-Int.toNat (Int.ofNat 0)⟩ (zs.take x):=by
   intro c b zs h' hz ha hx hzl
   have e0:(if c.c=Int.toNat (Int.ofNat 0)then 0 else 0+Int.toNat (Int.ofNat 0)*1)=0:=by split<;>simp
   rw [e0]
   obtain⟨b',o',ha',hcc⟩:=SlC.get hz (by have:=hz.len;omega)
   rw [ha]at ha'
   cases ha'
   refine⟨by simp;omega,by simp;omega, .inr ⟨b,0,rfl,fun i v hv=>?_⟩⟩
   rw [List.map_take,List.getElem?_take]at hv
   split at hv
   ·exact hcc i v hv
   ·cases hv
  refine ap (fun J=> ∀{tS:Sl} {h':Hp} {L:List (Nat×Blk)},Kn g h' ((b7, .inl ⟨[(⟨none,0,0⟩:Sl).v,(⟨none,0,0⟩:Sl).v],2,false⟩)::(b5, .inl ⟨[tS.v,sI.v],2,false⟩)::L)->IntS h' tS (xs.take x)->IntS h' sI ys->tS.n<=tS.c->J h')
   (fun {tS h' L} K6 iS6 iI6 c1=>?_) (fun J88 hJ88=>?_)
  ·have g5:=K6.at (b:=b5) (.tail _ (.head _))
   clear K5
   (refine kr_ ?_)
   refine⟨by simp,by simp,by omega, .inr ⟨bI,0,aI,?_⟩⟩
   refine kw_ ?_
   intro h7 K7 kp
   exact hJ (tI:=⟨_,_,_⟩) K7 (iS6.keepN g5 (hG _ _) kp) (tk (iI6.keepN g5 (hG _ _) kp) aI (by omega) (by omega)) c1 (by simp;omega) (by simp;omega) (by simp;omega)
  ·(refine kr_ ?_)
   refine⟨by simp,by simp,by omega, .inr ⟨bS,0,aS,?_⟩⟩
   refine kw_ ?_
   intro h6 K6 kp
   exact hJ88 (tS:=⟨_,_,_⟩) K6 (tk (iS.keepN f5 (hG _ _) kp) aS (by omega) (by omega)) (iI.keepN f5 (hG _ _) kp) (by simp;omega)
 clear e
 refine ad (fun e=>?_) (fun e=>hJ K5 iS iI cS cI (by omega) (by omega))
 clear e f5 iS iI
 refine nA (303-xs.length) (fun m vs h'=> ∃(sS sI:Sl) (XS XI:List (Nat×Blk)) (xs ys:List Int) (q:Nat),vs= [.pointer (some ⟨B,0,none⟩), .pointer (some ⟨b5,0,none⟩), .pointer (some ⟨b7,0,none⟩)]/\
  Kn g h' ((b7, .inl ⟨[(⟨none,0,0⟩:Sl).v,(⟨none,0,0⟩:Sl).v],2,false⟩)::(b5, .inl ⟨[sS.v,sI.v],2,false⟩)::(B,rdC s q)::(XS++(XI++ [])))/\bR XS sS 1 (xs.map I)/\bR XI sI 1 (ys.map I)/\ys.length=xs.length/\xs.length≠0/\xs.length+m=303/\q+m<=600000)
  ⟨sS,sI,_,_,xs,ys,_,rfl,K5,oS0,oI0,hl,by omega,by omega,by omega⟩ ?_
 clear K5 oS0 oI0 oS oI nS nI cS cI hl hn hn0 hx aS aI xs ys sS sI
 rintro m _ h3 nxt ⟨sS,sI,XS,XI,xs,ys,q,rfl,K,oS,oI,hl,hn0,hm,hq⟩ hnx
 refine⟨_,b5,0,b7,0,rfl,?_⟩
 have nS:=oS.1
 have nI:=oI.1
 have cS:=oS.2.1
 have cI:=oI.2.1
 rw [List.length_map,Nat.mul_one]at nS nI
 repeat' (refine kr_ ?_)
 refine kp_ ?_
 intro z h4 K4 hz _
 replace hz:z<2:=by have:=hz (by omega);omega
 refine⟨_,rfl,?_⟩
 repeat' (refine kr_ ?_)
 clear K
 rw [cd (by omega) (by omega)]
 have mS: ∀{h':Hp} {A L:List (Nat×Blk)},Kn g h' (A++(XS++L))-> ∀e∈XS,h' e.1=some e.2:=fun K e he=>K.mem e (by simp [he])
 have iS:IntS h4 sS xs:=(oS.buf fun e he=>K4.mem e (by simp [he])).slc_of (by omega)
 have iI:IntS h4 sI ys:=(oI.buf fun e he=>K4.mem e (by simp [he])).slc_of (by omega)
 by_cases hlt:xs.length<301+z
 rotate_left
 ·refine aC (decide_eq_false (by omega)) ?_
  exact hJ K4 iS iI cS cI (by omega) (by omega)
 refine aM (decide_eq_true (by omega)) ?_
 obtain⟨x0,hx0⟩: ∃x0,xs[0]?=some x0:=⟨_,List.getElem?_eq_getElem (by omega)⟩
 obtain⟨y0,hy0⟩: ∃y0,ys[0]?=some y0:=⟨_,List.getElem?_eq_getElem (by omega)⟩
 repeat' (refine kr_ ?_)
 obtain⟨ba,oa,ha,hca⟩:=iS.get hx0
 refine⟨ba,oa,ha,by omega,by omega,_,hca,?_⟩
 refine Kn.al K4 fun b112 h5 K5 l5 hb112=>?_
 have f112:=K5.at (.head _)
 repeat' (refine kr_ ?_)
 refine Kn.growIn (A:= [_,_,_,_]) K5 oS (by omega) (by omega) (by omega) ⟨b112,0,rfl,aw f112⟩ rfl rfl fun sS' XS' h6 hnS oS' K6 l6=>?_
 simp only [List.cons_append,List.nil_append]at K6
 clear K5 l5 hb112 f112 K4 iS iI ha hca
 refine kw_ ?_
 intro h7 K7 _
 simp only [bG,List.set_cons_zero,List.set_cons_succ,Nat.zero_add,Nat.reduceAdd]at K7
 clear K6 l6
 have iI:IntS h7 sI ys:=(oI.buf fun e he=>K7.mem e (by simp [he])).slc_of (by omega)
 repeat' (refine kr_ ?_)
 obtain⟨ba,oa,ha,hca⟩:=iI.get hy0
 refine⟨ba,oa,ha,by omega,by omega,_,hca,?_⟩
 refine Kn.al K7 fun b127 h8 K8 l8 hb127=>?_
 have f127:=K8.at (.head _)
 repeat' (refine kr_ ?_)
 refine Kn.growIn2 (A:= [_,_,_,_,_]) K8 oI (by omega) (by omega) (by omega) ⟨b127,0,rfl,aw f127⟩ rfl rfl fun sI' XI' h9 hnI oI' K9 l9=>?_
 simp only [List.cons_append,List.nil_append]at K9
 clear K8 l8 hb127 f127 K7 iI ha hca
 refine kw_ ?_
 intro h10 K10 _
 simp only [bG,List.set_cons_zero,List.set_cons_succ,Nat.zero_add,Nat.reduceAdd]at K10
 clear K9 l9
 have nd:=K10.nd
 refine hnx (m-1) (by omega) _ _ ⟨sS',sI',XS',XI',xs++ [x0],ys++ [y0],q+1,rfl,?_,by rw [List.map_append];exact oS',by rw [List.map_append];exact oI',by simp;omega,by simp,by simp;omega,by omega⟩
 refine K10.sub (fun e he=> .tail _ (.tail _ he)) ?_
 simp only [List.map_cons,List.nodup_cons]at nd⊢
 exact nd.2.2
theorem Kn.cut {g h:Hp} {A L:List (Nat×Blk)} (K:Kn g h (A++L)): ∃g0,Kn g g0 A/\Kn g0 h L:=by
 have nd:=K.nd
 rw [List.map_append,List.nodup_append]at nd
 have KL:Kn g h L:=K.sub (fun e he=>List.mem_append_right _ he) nd.2.1
 refine⟨h.wo (L.map Prod.fst),⟨KL.leBase,fun e he=>?_,fun e he=>K.new e (List.mem_append_left _ he),nd.1⟩,KL.base⟩
 rw [v5 fun hm=>nd.2.2 e.1 (List.mem_map.2 ⟨e,he,rfl⟩) e.1 hm rfl]
 exact K.mem e (List.mem_append_left _ he)
set_option maxHeartbeats 4000000 in
theorem LR {g h:Hp} {B p:Nat} {s:Sl} {bs:List Nat} {M:MSl} {m:ah} {R:Value->Hp->Prop} (hb:ByteS g s bs) (K:Kn g h [(B,rdC s p)]) (hs:aO g M m) (hm:bT m) (hp:p<=400000) (k:TrR g R):
  lm #[.pointer (some ⟨B,0,none⟩),aQ M] h R:=by
 apply Dz
 refine uf_ ?_
 refine Kn.al K fun b8 h1 K1 l1 hb8=>?_
 refine Kn.al K1 fun b10 h2 K2 l2 hb10=>?_
 clear K K1 l1 l2 hb8 hb10
 have n10:=K2.new (b10,_) (.head _)
 have fin: ∀{g0 h':Hp} {uS uI:Sl} {us vs:List Int},g.le g0->g0 b10=some (.inl ⟨[(⟨none,0,0⟩:Sl).v,(⟨none,0,0⟩:Sl).v],2,false⟩)->g0.le h'->IntS h' uS us->IntS h' uI vs->uS.n<=uS.c->uI.n<=uI.c->us.length<=400->vs.length<=400->
   ∃(cs:List Value) (z:Nat),h' b10=some (.inl ⟨cs,z,false⟩)/\0+2<=cs.length/\cM (h'.row b10 (bX cs 0 [uS.v,uI.v]) z) fun h3=> ∃s3:Sl,Hp.cell h3 b10 0=some s3.v/\ ∃s4:Sl,Hp.cell h3 b10 1=some s4.v/\R (.agg #[s3.v,s4.v]) h3:=by
  intro g0 h' uS uI us vs lg f10 l i1 i2 c1 c2 n1 n2
  (with_reducible apply cC);(exact l _ _ f10);(exact Hp.le_trans lg l);(exact n10);(exact of_decide_eq_true rfl)
  intro h6 f6 kp l6
  exact⟨uS,by rw [ax f6];rfl,uI,by rw [ax f6];rfl,k uS uI us vs h6 l6 (i1.keepN (l _ _ f10) (hG _ _) kp) (i2.keepN (l _ _ f10) (hG _ _) kp) c1 c2 n1 n2⟩
 repeat' (refine kr_ ?_)
 refine cj (hs.mono K2.le) hm ⟨_,rfl,ad (fun e=>?_) (fun e=>?_)⟩
 ·refine Kn.al K2 fun b23 h3 K3 l3 hb23=>?_
  refine Kn.al K3 fun b25 h4 K4 l4 hb25=>?_
  clear K2 K3
  refine kw_ ?_
  intro h5 K5 _
  exact⟨⟨some ⟨b23,0,none⟩,1,1⟩,by rw [ax (K5.at (b:=b10) (.tail _ (.tail _ (.head _))))];rfl,⟨some ⟨b25,0,none⟩,1,1⟩,by rw [ax (K5.at (b:=b10) (.tail _ (.tail _ (.head _))))];rfl,
   k _ _ [0] [0] h5 K5.le (IntS.one (K5.at (.tail _ (.head _)))) (IntS.one (K5.at (.head _))) (Nat.le_refl _) (Nat.le_refl _) (by simp) (by simp)⟩
 have hc:=fY e
 have gd:=cD hc
 have n8:=gd.n8
 have k5:=gd.k5
 have hp5:2^ak m.nodes 35<=2^5:=Nat.pow_le_pow_right (by omega) k5
 clear e
 repeat' (refine kr_ ?_)
 refine xe (hs.mono K2.le) hm fun tS tI h3 t3=>⟨_,_,_,rfl,?_⟩
 have hlen:=Pa m 256
 obtain⟨XS,XI,oS,oI,K3'⟩:=t3
 have K3:=K2.app K3'.le K3'.new K3'.mem K3'.nd
 simp only [List.cons_append,List.nil_append]at K3
 clear K3' K2
 generalize ua m 256=tl at*
 generalize wT m 256=tb
 refine Kn.al K3 fun b43 h4 K4 l4 hb43=>?_
 clear K3
 refine kw_ ?_
 intro h5 K5 _
 simp only [bX,List.set_cons_zero,List.set_cons_succ,Nat.zero_add,Nat.reduceAdd]at K5
 clear K4
 refine ap (fun J=> ∀(c:Bool) h' p',p'<=p+1->Kn g h' ((b43, .inl ⟨[tS.v,tI.v],2,false⟩)::(b10, .inl ⟨[(⟨none,0,0⟩:Sl).v,(⟨none,0,0⟩:Sl).v],2,false⟩)::(b8, .inl ⟨aH M,5,false⟩)::(B,rdC s p')::(XS++(XI++ [])))->J c h')
  (fun c h6 p6 hp6 K6=>?_) (fun J hJ=>?_)
 rotate_left
 ·refine ad (fun _=>?_) (fun _=>hJ false h5 p (by omega) K5)
  refine kp_ ?_
  intro z h6 K6 _ _
  exact⟨_,rfl,hJ _ h6 _ (Nat.le_refl _) K6⟩
 clear K5
 have lS:=oS.1
 have lI:=oI.1
 simp only [List.length_map,aX,Nat.mul_one]at lS lI
 refine ad (fun _=>?_) (fun _=>?_)
 ·repeat' (refine kr_ ?_)
  obtain⟨g0,KA,KL⟩:=Kn.cut (A:= [_,_,_]) K6
  refine Pp (hb.mono KA.le) KL oS oI (by simp [aX]) (by simp [aX];omega) (by omega) fun uS uI us vs h7 l7 i1 i2 c1 c2 n1 n2=>⟨_,_,rfl,?_⟩
  exact fin KA.le (KA.at (.tail _ (.head _))) l7 i1 i2 c1 c2 n1 n2
 replace K6:Kn g h6 ((b10, .inl ⟨[(⟨none,0,0⟩:Sl).v,(⟨none,0,0⟩:Sl).v],2,false⟩)::(b8, .inl ⟨aH M,5,false⟩)::(B,rdC s p6):: []):=K6.subl (List.Sublist.cons _ (List.Sublist.cons_cons _ (List.Sublist.cons_cons _ (List.Sublist.cons_cons _ (List.nil_sublist _)))))
 clear oS oI lS lI hlen
 repeat' (refine kr_ ?_)
 refine cJ (hs.mono K6.le) hm fun pt h7 l7 ip=>⟨_,rfl,?_⟩
 have K7:=K6.mono l7
 repeat' (refine kr_ ?_)
 refine yP (hs.mono K7.le) hm gd fun ot h8 l8 io=>⟨_,rfl,?_⟩
 have K8:=K7.mono l8
 repeat' (refine kr_ ?_)
 clear K7 K6
 refine qq (hs.mono K8.le) hm gd.ok (ip.mono l8) (bV gd 36) (ge gd 36) io (rU gd) (by rw [eM gd];omega) ⟨_,rfl,?_⟩
 generalize dX m.nodes (stP m) (fP m)=st0
 refine kp_ ?_
 intro z h9 K9 hz _
 replace hz:z<6:=by have:=hz (by omega);omega
 refine⟨_,rfl,?_⟩
 clear K8
 rw [cd (by omega) (by omega)]
 refine au (1+z) (fun i vs h'=> ∃(inS:Sl) (ins:List Int) (XL:List (Nat×Blk)) (q:Nat),vs= [.pointer (some ⟨B,0,none⟩), .pointer (some ⟨b8,0,none⟩), .pointer (some ⟨b10,0,none⟩),I st0,I (1+(z:Int)),inS.v,I (i:Nat)]/\
  Kn g h' ((b10, .inl ⟨[(⟨none,0,0⟩:Sl).v,(⟨none,0,0⟩:Sl).v],2,false⟩)::(b8, .inl ⟨aH M,5,false⟩)::(B,rdC s q)::(XL++ []))/\bR XL inS 1 (ins.map I)/\ins.length=i/\q<=p6+1+i)
  ⟨⟨none,0,0⟩, [], [],_,rfl,K9,cF 1,rfl,Nat.le_refl _⟩ ?_
 clear K9
 rintro i _ h7 next hi ⟨inS,ins,XL,q,rfl,K7,oL,hil,hq⟩ hnx
 refine⟨_,b8,0,b10,0,_,_,inS,_,rfl,?_⟩
 have lL:=oL.1
 simp only [List.length_map,Nat.mul_one]at lL
 by_cases hlt:i<1+z
 ·refine aM (by rw [decide_eq_true_eq];omega) ?_
  repeat' (refine kr_ ?_)
  refine jg (hs.mono K7.le) hm ⟨_,rfl,?_⟩
  rw [cY (by omega),if_neg (by omega),cw (by omega)]
  refine kp_ ?_
  intro y h8 K8 _ _
  refine⟨_,rfl,?_⟩
  clear K7
  refine Kn.al K8 fun b126 h9 K9 l9 hb126=>?_
  have f126:=K9.at (.head _)
  refine Kn.growIn (A:= [_,_,_,_]) K9 oL (by omega) (by omega) (by omega) ⟨b126,0,rfl,aw f126⟩ rfl rfl fun s' X' h10 hn' o' K10 l10=>?_
  rw [ay (by omega)]
  exact hnx hlt _ _ ⟨s',ins++ [(y:Int)],X',_,rfl,K10.tl,by rw [List.map_append];exact o',by simp;omega,by omega⟩
 refine aC (by rw [decide_eq_false_iff_not];omega) ?_
 clear hnx
 repeat' (refine kr_ ?_)
 have il:IntS h7 inS ins:=(oL.buf fun e he=>K7.mem e (by simp [he])).slc_of (by omega)
 refine DC (hs.mono K7.le) hm il fun uS uI h8 t8=>⟨_,_,_,rfl,?_⟩
 have hrl:(Bf m st0 ins).length<=7:=by
  unfold Bf
  split
  ·rw [S5];omega
  ·exact Nat.zero_le _
 obtain⟨XS,XI,oS,oI,K8'⟩:=t8
 have K8:=K7.app K8'.le K8'.new K8'.mem K8'.nd
 simp only [List.cons_append,List.append_nil,List.append_assoc]at K8
 clear K8' K7
 generalize Bf m st0 ins=tl at*
 generalize z7 m st0 ins=tb
 refine Kn.al K8 fun b144 h9 K9 l9 hb144=>?_
 clear K8
 refine kw_ ?_
 intro h10 K10 _
 simp only [bX,List.set_cons_zero,List.set_cons_succ,Nat.zero_add,Nat.reduceAdd]at K10
 clear K9 l9 hb144
 repeat' (refine kr_ ?_)
 have lS:=oS.1
 have lI:=oI.1
 simp only [List.length_map,aX,Nat.mul_one]at lS lI
 replace K10:Kn g h10 ((b144, .inl ⟨[uS.v,uI.v],2,false⟩)::(b10, .inl ⟨[(⟨none,0,0⟩:Sl).v,(⟨none,0,0⟩:Sl).v],2,false⟩)::(b8, .inl ⟨aH M,5,false⟩)::(B,rdC s q)::(XS++(XI++ []))):=by
  rw [List.append_nil]
  exact K10.subl (List.Sublist.cons_cons _ (List.Sublist.cons_cons _ (List.Sublist.cons_cons _ (List.Sublist.cons_cons _ (List.sublist_append_right _ _)))))
 obtain⟨g0,KA,KL⟩:=Kn.cut (A:= [_,_,_]) K10
 refine Pp (hb.mono KA.le) KL oS oI (by simp [aX]) (by simp [aX];omega) (by omega) fun wS wI us vs h11 l11 i1 i2 c1 c2 n1 n2=>⟨_,_,rfl,?_⟩
 exact fin KA.le (KA.at (.tail _ (.head _))) l11 i1 i2 c1 c2 n1 n2
theorem yV (a b c d e:Sl):yx [a.v,b.v,c.v,d.v,e.v]:=yd [a,b,c,d,e]
theorem wR {m:ah} {xs ys:List Int} (h:dM m xs ys=0):p9 m xs ys=true:=by
 unfold dM at h
 obtain⟨h1,_⟩:=lU (by decide) h
 rwa [Bool.not_eq_false]at h1
theorem Kn.weak {g g0 h:Hp} {L:List (Nat×Blk)} (K:Kn g0 h L) (l:g.le g0):Kn g h L:=⟨Hp.le_trans l K.le,K.mem,fun e he=>aF l (K.new e he),K.nd⟩
theorem Upd.back {L L':List (Nat×Blk)} {b:Nat} {x y:Blk} (u:Upd L b x y L'): ∀A:List (Nat×Blk),Upd (A++L) b x y (A++L'):=by
 intro A
 induction A with
 |nil=>exact u
 |cons e A ih=>exact .tail ih
theorem sg {α:Type} {l:List α} {i:Nat} {x:α} (h:l[i]?=some x):l.take (i+1)=l.take i++ [x]:=by rw [List.take_add_one,h];rfl
def cA (f:Nat->Int) (n:NodeP):NodeP:={n with a:=if 0<ai n.kind then f n.a.toNat else n.a,b:=if 1<ai n.kind then f n.b.toNat else n.b,c:=if 2<ai n.kind then f n.c.toNat else n.c}
abbrev pB (n:NodeP):Value:= .agg #[I n.kind,I n.a,I n.b,I n.c,I n.n,I n.m,I n.sort.idx,I n.sort.wid, .string n.name]
def dv (to:List Int) (i:Nat):Int:=to.getD i 0
theorem aaK {to:List Int} {i:Nat} (h:i<to.length):to[i]?=some (dv to i):=by
 unfold dv
 rw [List.getD_eq_getElem?_getD,List.getElem?_eq_getElem h];rfl
theorem IntS.rd {h:Hp} {t:Sl} {to:List Int} (e:IntS h t to) {p:Int} (h0:0<=p) (hp:p<to.length):
  ∃b o,t.a=some (Addr.mk b o none)/\(0:Int)<=p/\p<(t.n:Int)/\Hp.cell h b (o+Int.toNat p*1)=some (I (dv to p.toNat)):=by
 obtain⟨b,o,ha,hc⟩:=e.get (aaK (to:=to) (i:=p.toNat) (by omega))
 exact⟨b,o,ha,h0,by rw [e.len];exact hp,hc⟩
theorem yG {f g:Nat->Int} {n:NodeP} (hk:0<=ai n.kind) (h: ∀p∈dK n,f p=g p):cA f n=cA g n:=by
 have a:=fun(e:0<ai n.kind)=>h n.a.toNat ((fv hk).2 ⟨0,by omega,e,rfl⟩)
 have b:=fun(e:1<ai n.kind)=>h n.b.toNat ((fv hk).2 ⟨1,by omega,e,rfl⟩)
 have c:=fun(e:2<ai n.kind)=>h n.c.toNat ((fv hk).2 ⟨2,by omega,e,rfl⟩)
 unfold cA
 congr 1
 ·split
  ·rename_i e;exact a e
  ·rfl
 ·split
  ·rename_i e;exact b e
  ·rfl
 ·split
  ·rename_i e;exact c e
  ·rfl
abbrev slN :Value:= .slice none 0 0
theorem BB (h:Hp):aO h ⟨⟨none,0,0⟩,⟨none,0,0⟩,⟨none,0,0⟩,⟨none,0,0⟩,⟨none,0,0⟩⟩ ⟨[], [], [], [], []⟩:=by
 have z: ∀sz,SlC h ⟨none,0,0⟩ sz []:=fun sz=>⟨by simp,by simp, .inl rfl⟩
 exact⟨z 9,z 2,z 2,z 1,z 1,Nat.le_refl _⟩
theorem Kn.copy {g h:Hp} {L:List (Nat×Blk)} {s:Sl} {sz by_:Nat} {cs:List Value} {C:Option Addr->Nat->Nat->Hp->Prop} (K:Kn g h L) (hs:SlC h s sz cs) (hsz:s.n*by_<=140737488355328) (ho:cs.all (·.oneCell')=true)
  (k: ∀s' X' h',bR X' s' sz cs->Kn g h' (L++X')->s'.n=s.n->C s'.a s'.n s'.c h'):cy h none 0 0 s.a s.n sz by_ C:=by
 by_cases h0:s.n=0
 ·have hc:cs= []:=List.eq_nil_of_length_eq_zero (by rw [hs.2.1,h0,Nat.zero_mul])
  subst hc
  rw [h0]
  exact .inl ⟨rfl,Nat.le_refl _,k ⟨none,0,0⟩ [] h (cF sz) (by rw [List.append_nil];exact K) h0.symm⟩
 ·obtain⟨b,o,ha,hc⟩:=hs.get (by omega)
  refine Kn.growIn (A:=L) (X:= []) (L:= []) (s:=⟨none,0,0⟩) (cs:= []) (by simpa using K) (cF sz) (by omega) (by rw [Nat.zero_add];exact hsz) (by have:=hs.1;dsimp only;omega) ⟨b,o,ha,hc⟩ hs.2.1 ho fun s' X' h' hn o' K' _=>?_
  rw [List.append_nil]at K'
  rw [List.nil_append]at o'
  exact k s' X' h' o' K' (by dsimp only at hn;omega)
theorem ON (l:List BindP):(l.flatMap bindCells).all (·.oneCell')=true:=by
 rw [List.all_eq_true];intro v hv;obtain⟨x,_,hx⟩:=List.mem_flatMap.1 hv;simp at hx;rcases hx with rfl|rfl<;>rfl
theorem ab2 (l:List Int):(l.map I).all (·.oneCell')=true:=by
 rw [List.all_eq_true];intro v hv;obtain⟨x,_,rfl⟩:=List.mem_map.1 hv;rfl
theorem OJ (l:List NodeP):(l.flatMap nodeCells).all (·.oneCell')=true:=by
 rw [List.all_eq_true];intro v hv;obtain⟨x,_,hx⟩:=List.mem_flatMap.1 hv
 simp at hx;rcases hx with rfl|rfl|rfl|rfl|rfl|rfl|rfl|rfl|rfl<;>rfl
theorem CJ {g h:Hp} {L:List (Nat×Blk)} {s:Sl} {l:List BindP} {R:Value->Hp->Prop} (K:Kn g h L) (hs:iA h s l) (hl:l.length<=1048576)
  (k: ∀s' X' h',bR X' s' 2 (l.flatMap bindCells)->Kn g h' (L++X')->R (Sl.v s') h'):mF #[s.v] h R:=by
 apply Fh
 refine uf_ ?_
 have:=hs.len
 exact K.copy hs (by omega) (ON l) fun s' X' h' o K' _=>k s' X' h' o K'
theorem E2 {g h:Hp} {L:List (Nat×Blk)} {s:Sl} {l:List Int} {R:Value->Hp->Prop} (K:Kn g h L) (hs:IntS h s l) (hl:l.length<=1048576)
  (k: ∀s' X' h',bR X' s' 1 (l.map I)->Kn g h' (L++X')->R (Sl.v s') h'):eu #[s.v] h R:=by
 apply yn
 refine uf_ ?_
 have:=hs.len
 exact K.copy hs (by omega) (ab2 l) fun s' X' h' o K' _=>k s' X' h' o K'
structure ahg (XN XI XX XB XH:List (Nat×Blk)) (M:MSl) (m:ah):Prop where
 no:bR XN M.no 9 (m.nodes.flatMap nodeCells)
 ini:bR XI M.ini 2 (m.inits.flatMap bindCells)
 nex:bR XX M.nex 2 (m.nexts.flatMap bindCells)
 bad:bR XB M.bad 1 (m.bads.map I)
 hol:bR XH M.hol 1 (m.holds.map I)
set_option maxHeartbeats 1000000 in
theorem nz {h:Hp} {M:MSl} {m:ah} {R:Value->Hp->Prop} (hs:aO h M m) (hm:bT m)
  (k: ∀M' XN XI XX XB XH h',ahg XN XI XX XB XH M' m->Kn h h' (XN++(XI++(XX++(XB++XH))))->R (aQ M') h'):g9 #[aQ M] h R:=by
 apply Dm
 refine uf_ ?_
 (with_reducible apply Kn.al);(exact Kn.nil h);(intro b7 h1 K1 l1 hb7)
 refine Kn.al K1 fun b9 h2 K2 l2 hb9=>?_
 clear K1
 obtain⟨g1,KA,K⟩:=Kn.cut (A:= [(b7, .inl ⟨aH M,5,false⟩)]) (L:= [(b9, .inl ⟨[slN,slN,slN,slN,slN],5,false⟩)]) K2.sw
 have f7:=KA.at (.head _)
 have x7:=cf f7
 have hs1:=hs.mono KA.le
 have l01:=KA.le
 clear K2 KA
 have n1:=hs.nodes.len
 have n2:=hm.nodes
 repeat' (refine kr_ ?_)
 refine K.copy (hs1.mono K.le).nodes (by omega) (OJ _) fun sN XN h3 oN K3 _=>?_
 repeat' (refine kr_ ?_)
 refine CJ K3 (hs1.mono K3.le).inits hm.inits fun sI XI h4 oI K4=>⟨_,rfl,?_⟩
 repeat' (refine kr_ ?_)
 refine CJ K4 (hs1.mono K4.le).nexts hm.nexts fun sX XX h5 oX K5=>⟨_,rfl,?_⟩
 repeat' (refine kr_ ?_)
 refine E2 K5 (hs1.mono K5.le).bads hm.bads fun sB XB h6 oB K6=>⟨_,rfl,?_⟩
 repeat' (refine kr_ ?_)
 refine E2 K6 (hs1.mono K6.le).holds hm.holds fun sH XH h7 oH K7=>⟨_,rfl,?_⟩
 clear K K3 K4 K5 K6
 simp only [List.cons_append,List.nil_append,List.append_assoc]at K7
 refine kw_ ?_
 intro h8 K8 _
 simp only [bX,List.set_cons_zero,List.set_cons_succ,Nat.zero_add,Nat.reduceAdd]at K8
 replace K8:Kn g1 h8 ((b9, .inl ⟨[sN.v,sI.v,sX.v,sB.v,sH.v],5,false⟩)::(XN++(XI++(XX++(XB++XH))))):=K8
 clear K7
 repeat' (refine kr_ ?_)
 exact k ⟨sN,sI,sX,sB,sH⟩ XN XI XX XB XH h8 ⟨oN,oI,oX,oB,oH⟩ (K8.tl.weak l01)
set_option maxHeartbeats 1000000 in
theorem Ha {h:Hp} {n:NodeP} {t:Sl} {to:List Int} {R:Value->Hp->Prop} (ht:IntS h t to) (hk:0<=ai n.kind) (hp: ∀i:Nat,i<3->(i:Int)<ai n.kind->0<=az n i/\az n i<to.length)
  (k:R (pB (cA (dv to) n)) h):lp #[pB n,t.v] h R:=by
 refine ACalls.drop (Dt ?_)
 refine uf_ ?_
 (with_reducible apply Kn.al);(exact Kn.nil h);(intro b12 h1 K1 l1 hb12)
 refine Kn.al K1 fun b14 h2 K2 l2 hb14=>?_
 refine Kn.al K2 fun b17 h3 K3 l3 hb17=>?_
 clear K1 K2
 obtain⟨P,hP⟩: ∃P:Nat->Int,P=fun(i:Nat)=>if(i:Int)<ai n.kind then dv to (az n i).toNat else az n i:=⟨_,rfl⟩
 have hres:cA (dv to) n={n with a:=P 0,b:=P 1,c:=P 2}:=by rw [hP];rfl
 rw [hres]at k
 clear hres
 have hP1: ∀i:Nat,(i:Int)<ai n.kind->P i=dv to (az n i).toNat:=fun i hi=>by rw [hP];exact if_pos hi
 have hP2: ∀i:Nat,¬(i:Int)<ai n.kind->P i=az n i:=fun i hi=>by rw [hP];exact if_neg hi
 clear hP
 let Q:Nat->Nat->Int:=fun i j=>if j<i then P j else az n j
 refine au 3 (fun i vs h'=>vs= [t.v, .pointer (some ⟨b12,0,none⟩), .pointer (some ⟨b14,0,none⟩),(arr b17 3).v,I 3,I (i:Nat)]/\
  Kn h h' ((b17, .inl ⟨[.pointer (some ⟨b12,1,none⟩), .pointer (some ⟨b12,2,none⟩), .pointer (some ⟨b12,3,none⟩)],3,false⟩)::(b14, .inl ⟨[I 0,I 0,I 0,I 0,I 0,I 0,I 0,I 0, .string ⟨#[]⟩],9,false⟩)::
   (b12, .inl ⟨[I n.kind,I (Q i 0),I (Q i 1),I (Q i 2),I n.n,I n.m,I n.sort.idx,I n.sort.wid, .string n.name],9,false⟩):: [])) ⟨rfl,K3⟩ ?_
 clear K3
 rintro i _ h4 next hi ⟨rfl,K4⟩ hnx
 refine⟨t,b12,0,b14,0,arr b17 3,_,_,rfl,?_⟩
 by_cases hlt:i<3
 rotate_left
 ·obtain rfl:i=3:=by omega
  refine aC (by decide) ?_
  repeat' (refine kr_ ?_)
  refine kw_ ?_
  intro h5 K5 _
  simp only [bX,List.set_cons_zero,List.set_cons_succ,Nat.zero_add,Nat.reduceAdd]at K5
  clear K4
  repeat' (refine kr_ ?_)
  exact⟨h,K5.le,k⟩
 refine aM (decide_eq_true (by omega)) ?_
 have hQ: ∀j,j≠i->Q i j=Q (i+1) j:=fun j hj=>by
  show (if j<i then P j else az n j)=(if j<i+1 then P j else az n j)
  by_cases q:j<i
  ·rw [if_pos q,if_pos (by omega)]
  ·rw [if_neg q,if_neg (by omega)]
 have hQi:Q i i=az n i:=if_neg (Nat.lt_irrefl i)
 have hQs:Q (i+1) i=P i:=if_pos (Nat.lt_succ_self i)
 refine ap (fun J=> ∀h',Kn h h' ((b17, .inl ⟨[.pointer (some ⟨b12,1,none⟩), .pointer (some ⟨b12,2,none⟩), .pointer (some ⟨b12,3,none⟩)],3,false⟩)::(b14, .inl ⟨[I 0,I 0,I 0,I 0,I 0,I 0,I 0,I 0, .string ⟨#[]⟩],9,false⟩)::
   (b12, .inl ⟨[I n.kind,I (Q (i+1) 0),I (Q (i+1) 1),I (Q (i+1) 2),I n.n,I n.m,I n.sort.idx,I n.sort.wid, .string n.name],9,false⟩):: [])->J h') (fun h' K'=>?_) (fun J hJ=>?_)
 ·rw [ay (by omega)]
  exact hnx hlt _ _ ⟨rfl,K'⟩
 have f17:=K4.at (.head _)
 have fb:=K4.at (.tail _ (.tail _ (.head _)))
 refine⟨b17,0,rfl,by omega,by show _<((3:Nat):Int);omega,some ⟨b12,i+1,none⟩,?_,?_⟩
 ·rw [ax f17]
  obtain rfl|rfl|rfl:i=0\/i=1\/i=2:=by omega
  all_goals rfl
 repeat' (refine kr_ ?_)
 refine dZ ⟨_,rfl,?_⟩
 refine ad (fun e=>?_) (fun e=>?_)
 ·rw [decide_eq_true_eq]at e
  have hr:=hp i hlt e
  obtain⟨b,o,ha,q0,q1,hc⟩:=(ht.mono K4.le).rd hr.1 hr.2
  refine⟨b12,i+1,rfl,az n i,?_,b,o,ha,q0,q1,_,hc,b12,i+1,rfl,?_⟩
  ·rw [ax fb,<-hQi]
   obtain rfl|rfl|rfl:i=0\/i=1\/i=2:=by omega
   all_goals rfl
  clear f17 fb
  rw [<-hP1 i e,<-hQs]
  (((with_reducible apply Kn.wr);(assumption);((focus ((repeat first|exact .head|apply Upd.tail);done)))))
  ·show i+1+1<=9;omega
  intro h5 K5 _
  refine hJ h5 ?_
  rw [bG]at K5
  obtain rfl|rfl|rfl:i=0\/i=1\/i=2:=by omega
  ·rw [hQ 1 (by omega),hQ 2 (by omega)]at K5;exact K5
  ·rw [hQ 0 (by omega),hQ 2 (by omega)]at K5;exact K5
  ·rw [hQ 0 (by omega),hQ 1 (by omega)]at K5;exact K5
 ·rw [decide_eq_false_iff_not]at e
  refine hJ h4 ?_
  have hsame: ∀j,Q i j=Q (i+1) j:=fun j=>by
   by_cases q:j=i
   ·subst q;rw [hQi,hQs,hP2 j e]
   ·exact hQ j q
  rw [hsame 0,hsame 1,hsame 2]at K4;exact K4
theorem FL : ∀{ys:List BindP} {m:Nat} {x:BindP},m<ys.length->bX (ys.flatMap bindCells) (m*2) [I x.state,I x.node]=(ys.set m x).flatMap bindCells
 | [],m,x,h=>by simp at h
 |y::ys,0,x,_=>rfl
 |y::ys,m+1,x,h=>by
  have ih:=FL (ys:=ys) (m:=m) (x:=x) (by simpa using h)
  simp only [bX]at ih⊢
  rw [show (m+1)*2=m*2+2 by omega,List.flatMap_cons,List.set_cons_succ,List.flatMap_cons,<-ih]
  rfl
end Go.Lead
