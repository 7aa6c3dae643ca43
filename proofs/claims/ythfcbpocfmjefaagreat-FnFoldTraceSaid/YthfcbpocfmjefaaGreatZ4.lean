/- What functions of the program and of the reference come to, walked one by one, and plain laws about it: part 5. No condition is added to the statement. -/
import Derived.Test.YthfcbpocfmjefaaGreatZ3
namespace Go.Lead
open Go
set_option linter.unusedSimpArgs false
set_option linter.unusedVariables false
set_option maxRecDepth 100000
set_option maxHeartbeats 1000000
theorem Rh {α:Type} {f:α->α} {l:List α} {q:Nat} {x:α} (h:l[q]?=some x):((l.take q).map f++l.drop q).set q (f x)=(l.take (q+1)).map f++l.drop (q+1):=by
 have hq:=get_lt h
 have hl:((l.take q).map f).length=q:=by rw [List.length_map,List.length_take];omega
 rw [List.set_append_right _ _ (by omega),hl,Nat.sub_self,List.drop_eq_getElem_cons hq,List.set_cons_zero,sg h,List.map_append,List.append_assoc];rfl
theorem SH {α:Type} {f:α->α} {l:List α} {q:Nat} {x:α} (h:l[q]?=some x):((l.take q).map f++l.drop q)[q]?=some x:=by
 have hq:=get_lt h
 have hl:((l.take q).map f).length=q:=by rw [List.length_map,List.length_take];omega
 rw [List.getElem?_append_right (by omega),hl,Nat.sub_self,List.getElem?_drop,Nat.add_zero];exact h
theorem SF {α:Type} {f:α->α} {l:List α} {q:Nat}:((l.take q).map f++l.drop q).length=l.length:=by
 rw [List.length_append,List.length_map,List.length_take,List.length_drop];omega
def mvB (to:List Int) (b:BindP):BindP:=⟨dv to b.state.toNat,dv to b.node.toNat⟩
def mvI (to:List Int) (p:Int):Int:=dv to p.toNat
def FV (to:List Int) (p:Int):Prop:=0<=p/\p<to.length
def mvM (to:List Int) (nds:List NodeP) (m:ah):ah:=⟨nds,m.inits.map (mvB to),m.nexts.map (mvB to),m.bads.map (mvI to),m.holds.map (mvI to)⟩
set_option maxHeartbeats 4000000 in
theorem I9 {h:Hp} {M:MSl} {m:ah} {sN t:Sl} {nds:List NodeP} {to:List Int} {R:Value->Hp->Prop} (hs:aO h M m) (hm:bT m) (hN:gw h sN nds) (hcap:sN.n<=sN.c) (ht:IntS h t to)
  (hi: ∀b∈m.inits,FV to b.state/\FV to b.node) (hx: ∀b∈m.nexts,FV to b.state/\FV to b.node) (hb: ∀p∈m.bads,FV to p) (hh: ∀p∈m.holds,FV to p)
  (k: ∀M' h',h.le h'->aO h' M' (mvM to nds m)->R (aQ M') h'):lC #[aQ M,sN.v,t.v] h R:=by
 apply DA
 refine uf_ ?_
 (with_reducible apply Kn.al);(exact Kn.nil h);(intro b9 h1 K1 l1 hb9)
 refine Kn.al K1 fun b11 h2 K2 l2 hb11=>?_
 clear K1
 repeat' (refine kr_ ?_)
 refine nz (hs.mono K2.le) hm fun M1 XN XI XX XB XH h3 o K3=>⟨_,_,_,_,_,rfl,?_⟩
 have K4:=K2.app K3.le (fun e he=>K3.new e he) (fun e he=>K3.mem e he) K3.nd
 clear K2 K3
 refine Kn.al K4 fun b26 h4 K5 l4 hb26=>?_
 clear K4
 refine kw_ ?_
 intro h5 K6 _
 simp only [bX,List.set_cons_zero,List.set_cons_succ,Nat.zero_add,Nat.reduceAdd]at K6
 clear K5
 refine kw_ ?_
 intro h6 K7 _
 simp only [bX,List.set_cons_zero,List.set_cons_succ,Nat.zero_add,Nat.reduceAdd]at K7
 clear K6
 repeat' (refine kr_ ?_)
 refine Kn.al K7 fun b38 h7 K8 l7 hb38=>?_
 clear K7
 obtain⟨g1,KA,K⟩:=Kn.cut (A:= [(b38, .inl ⟨[M1.ini.v,M1.nex.v],2,false⟩),(b26, .inl ⟨[sN.v,M1.ini.v,M1.nex.v,M1.bad.v,M1.hol.v],5,false⟩),(b9, .inl ⟨aH M,5,false⟩)]++XN) (L:=(b11, .inl ⟨[slN,slN,slN,slN,slN],5,false⟩)::(XI++(XX++(XB++XH))))
  (K8.perm (by
   simp only [List.cons_append,List.nil_append]
   refine List.Perm.cons _ (List.Perm.cons _ ?_)
   refine(List.Perm.swap _ _ _).trans (List.Perm.cons _ ?_)
   exact List.perm_middle.symm))
 clear K8
 have f38:=KA.at (b:=b38) (List.mem_append_left _ (by((focus ((repeat first|exact .head _|apply List.Mem.tail);done)))))
 have f26:=KA.at (b:=b26) (List.mem_append_left _ (by((focus ((repeat first|exact .head _|apply List.Mem.tail);done)))))
 have l01:=KA.le
 clear KA
 have ht1:=ht.mono l01
 have hN1:=hN.mono l01
 have oI:=o.ini
 have oX:=o.nex
 have oB:=o.bad
 have oH:=o.hol
 clear o
 have n1:=hm.inits
 have n2:=hm.nexts
 have n3:=hm.bads
 have n4:=hm.holds
 have htl:=ht.len
 let lI:Nat->List BindP:=fun i=>if 0<i then m.inits.map (mvB to)else m.inits
 let lX:Nat->List BindP:=fun i=>if 1<i then m.nexts.map (mvB to)else m.nexts
 refine au 2 (fun i vs h'=> ∃XI XX,vs= [t.v, .pointer (some ⟨b11,0,none⟩), .pointer (some ⟨b26,0,none⟩),(arr b38 2).v,I 2,I (i:Nat)]/\bR XI M1.ini 2 ((lI i).flatMap bindCells)/\bR XX M1.nex 2 ((lX i).flatMap bindCells)/\
  Kn g1 h' ((b11, .inl ⟨[slN,slN,slN,slN,slN],5,false⟩)::(XI++(XX++(XB++XH))))) ⟨XI,XX,rfl,oI,oX,K⟩ ?_
 clear K oI oX XI XX
 rintro i _ h8 next hi2 ⟨XI,XX,rfl,oI,oX,K⟩ hnx
 refine⟨t,b11,0,b26,0,arr b38 2,_,_,rfl,?_⟩
 by_cases hlt:i<2
 ·refine aM (decide_eq_true (by omega)) ?_
  obtain⟨s,l,A,X,B,hcell,oS,hl,hr,KS,hnext⟩: ∃(s:Sl) (l:List BindP) (A X B:List (Nat×Blk)), [M1.ini.v,M1.nex.v][i]?=some s.v/\bR X s 2 (l.flatMap bindCells)/\l.length<=1048576/\(∀b∈l,FV to b.state/\FV to b.node)/\Kn g1 h8 (A++(X++B))/\
    ∀X' h',bR X' s 2 ((l.map (mvB to)).flatMap bindCells)->Kn g1 h' (A++(X'++B))->next [t.v, .pointer (some ⟨b11,0,none⟩), .pointer (some ⟨b26,0,none⟩),(arr b38 2).v,I 2,I ((i+1:Nat):Int)] h':=by
   obtain rfl|rfl:i=0\/i=1:=by omega
   ·exact⟨M1.ini,m.inits, [(b11, .inl ⟨[slN,slN,slN,slN,slN],5,false⟩)],XI,XX++(XB++XH),rfl,oI,n1,hi,K,fun X' h' o' K'=>hnx hlt _ _ ⟨X',XX,rfl,o',oX,K'⟩⟩
   ·exact⟨M1.nex,m.nexts,(b11, .inl ⟨[slN,slN,slN,slN,slN],5,false⟩)::XI,XX,XB++XH,rfl,oX,n2,hx,K,fun X' h' o' K'=>hnx hlt _ _ ⟨XI,X',rfl,oI,o',K'⟩⟩
  clear hnx oI oX
  refine⟨b38,0,rfl,by omega,by show _<((2:Nat):Int);omega,s,by rw [ax (K.le _ _ f38),show (0+Int.toNat (i:Int)*1)=i by simp];exact hcell,?_⟩
  clear K
  have hsn:=oS.1
  rw [ck (m:=2) (fun _=>rfl)]at hsn
  refine au l.length (fun q vs h'=> ∃X,vs= [t.v, .pointer (some ⟨b11,0,none⟩), .pointer (some ⟨b26,0,none⟩),s.v,(arr b38 2).v,I 2,I (i:Nat),s.v,I ((s.n:Nat):Int),I (q:Nat)]/\bR X s 2 (((l.take q).map (mvB to)++l.drop q).flatMap bindCells)/\Kn g1 h' (A++(X++B)))
   ⟨X,rfl,oS,KS⟩ ?_
  clear oS KS X
  rintro q _ h9 next2 hq ⟨X,rfl,oS,K⟩ hnx2
  refine⟨t,b11,0,b26,0,s,arr b38 2,_,_,s,_,_,rfl,?_⟩
  by_cases hlq:q<l.length
  rotate_left
  ·refine aC (decide_eq_false (by omega)) ?_
   obtain rfl:q=l.length:=by omega
   rw [List.take_length,List.drop_length,List.append_nil]at oS
   rw [ay (by omega)]
   exact hnext X h9 oS K
  refine aM (decide_eq_true (by omega)) ?_
  obtain⟨x,hxq⟩: ∃x,l[q]?=some x:=⟨_,List.getElem?_eq_getElem hlq⟩
  obtain⟨r1,r2⟩:=hr x (List.mem_of_getElem? hxq)
  obtain⟨b,ha,rfl⟩:=oS.one (by omega)
  have hg:=SH (f:=mvB to) hxq
  have hst:=Rh (f:=mvB to) hxq
  have hhl:=SF (f:=mvB to) (l:=l) (q:=q)
  generalize (l.take q).map (mvB to)++l.drop q=ys at*
  have fb:=K.at (b:=b) (List.mem_append_right _ (.head _))
  refine⟨b,0,ha,by omega,by omega,x.state,?_,x.node,?_,?_⟩
  ·rw [ax fb,show (0+Int.toNat (q:Int)*2)=q*2+0 by simp,mT (m:=2) (fun _=>rfl) ys q x 0 hg (by omega)];rfl
  ·rw [ax fb,show (0+Int.toNat (q:Int)*2+1)=q*2+1 by simp,mT (m:=2) (fun _=>rfl) ys q x 1 hg (by omega)];rfl
  refine Kn.al K fun b84 h10 K10 l10 hb84=>?_
  clear fb K
  refine kw_ ?_
  intro h11 K11 _
  simp only [bX,List.set_cons_zero,List.set_cons_succ,Nat.zero_add,Nat.reduceAdd]at K11
  clear K10
  obtain⟨b2,o2,ha2,q0,q1,hc2⟩:=(ht1.mono K11.le).rd r1.1 r1.2
  obtain⟨b3,o3,ha3,q2,q3,hc3⟩:=(ht1.mono K11.le).rd r2.1 r2.2
  repeat' (refine kr_ ?_)
  refine⟨b2,o2,ha2,q0,q1,_,hc2,?_⟩
  repeat' (refine kr_ ?_)
  refine⟨b3,o3,ha3,q2,q3,_,hc3,b,0,ha,by omega,by omega,?_⟩
  have u:Upd ((b84, .inl ⟨[I x.state,I x.node],2,false⟩)::(A++([(b, .inl ⟨ys.flatMap bindCells,s.c*2,false⟩)]++B))) b (.inl ⟨ys.flatMap bindCells,s.c*2,false⟩) (.inl ⟨bX (ys.flatMap bindCells) (0+Int.toNat (q:Int)*2) [I (dv to x.state.toNat),I (dv to x.node.toNat)],s.c*2,false⟩)
    ((b84, .inl ⟨[I x.state,I x.node],2,false⟩)::(A++([(b, .inl ⟨(ys.set q (mvB to x)).flatMap bindCells,s.c*2,false⟩)]++B))):=by
   rw [show (0+Int.toNat (q:Int)*2)=q*2 by simp,show ([I (dv to x.state.toNat),I (dv to x.node.toNat)]:List Value)= [I (mvB to x).state,I (mvB to x).node]from rfl,FL (by omega)]
   exact .tail (Upd.back .head A)
  refine K11.wr u (by rw [ck (m:=2) (fun _=>rfl)];simp;omega) fun h12 K12 _=>?_
  rw [ay (by omega)]
  refine hnx2 hlq _ _ ⟨_,rfl,?_,K12.tl⟩
  rw [<-hst]
  exact⟨by rw [ck (m:=2) (fun _=>rfl),List.length_set,hhl];exact hsn,oS.2.1, .inr ⟨b,ha,rfl⟩⟩
 refine aC (decide_eq_false (by omega)) ?_
 obtain rfl:i=2:=by omega
 clear hnx hlt hi2 next
 replace oI:bR XI M1.ini 2 ((m.inits.map (mvB to)).flatMap bindCells):=oI
 replace oX:bR XX M1.nex 2 ((m.nexts.map (mvB to)).flatMap bindCells):=oX
 have x26:=cf f26
 repeat' (refine kr_ ?_)
 refine Kn.al K fun b108 h9 K9 l9 hb108=>?_
 clear K
 obtain⟨g2,KA,K⟩:=Kn.cut (A:=(b108, .inl ⟨[M1.bad.v,M1.hol.v],2,false⟩)::(XI++XX)) (L:=(b11, .inl ⟨[slN,slN,slN,slN,slN],5,false⟩)::(XB++XH))
  (K9.perm (by
   refine List.Perm.cons _ ?_
   have:=(List.perm_middle (a:=((b11, .inl ⟨[slN,slN,slN,slN,slN],5,false⟩):Nat×Blk)) (l₁:=XI++XX) (l₂:=XB++XH)).symm
   rw [List.append_assoc]at this
   exact this))
 clear K9
 have f108:=KA.at (b:=b108) (.head _)
 have hI2:iA g2 M1.ini (m.inits.map (mvB to)):=oI.slcOf (by have:=oI.1;rw [ck (m:=2) (fun _=>rfl),List.length_map]at this;omega) fun x hx=>KA.mem x (.tail _ (List.mem_append_left _ hx))
 have hX2:iA g2 M1.nex (m.nexts.map (mvB to)):=oX.slcOf (by have:=oX.1;rw [ck (m:=2) (fun _=>rfl),List.length_map]at this;omega) fun x hx=>KA.mem x (.tail _ (List.mem_append_right _ hx))
 have l12:=KA.le
 clear KA oI oX x26
 replace f26:=l12 _ _ f26
 have ht2:=ht1.mono l12
 have hN2:=hN1.mono l12
 have l02:=Hp.le_trans l01 l12
 let lB:Nat->List Int:=fun i=>if 0<i then m.bads.map (mvI to)else m.bads
 let lH:Nat->List Int:=fun i=>if 1<i then m.holds.map (mvI to)else m.holds
 refine au 2 (fun i vs h'=> ∃XB XH,vs= [t.v, .pointer (some ⟨b11,0,none⟩), .pointer (some ⟨b26,0,none⟩),(arr b108 2).v,I 2,I (i:Nat)]/\bR XB M1.bad 1 ((lB i).map I)/\bR XH M1.hol 1 ((lH i).map I)/\
  Kn g2 h' ((b11, .inl ⟨[slN,slN,slN,slN,slN],5,false⟩)::(XB++XH))) ⟨XB,XH,rfl,oB,oH,K⟩ ?_
 clear K oB oH
 rintro i _ h8 next hi2 ⟨XB,XH,rfl,oB,oH,K⟩ hnx
 refine⟨t,b11,0,b26,0,arr b108 2,_,_,rfl,?_⟩
 by_cases hlt:i<2
 ·refine aM (decide_eq_true (by omega)) ?_
  obtain⟨s,l,A,X,B,hcell,oS,hl,hr,KS,hnext⟩: ∃(s:Sl) (l:List Int) (A X B:List (Nat×Blk)), [M1.bad.v,M1.hol.v][i]?=some s.v/\bR X s 1 (l.map I)/\l.length<=1048576/\(∀p∈l,FV to p)/\Kn g2 h8 (A++(X++B))/\
    ∀X' h',bR X' s 1 ((l.map (mvI to)).map I)->Kn g2 h' (A++(X'++B))->next [t.v, .pointer (some ⟨b11,0,none⟩), .pointer (some ⟨b26,0,none⟩),(arr b108 2).v,I 2,I ((i+1:Nat):Int)] h':=by
   obtain rfl|rfl:i=0\/i=1:=by omega
   ·exact⟨M1.bad,m.bads, [(b11, .inl ⟨[slN,slN,slN,slN,slN],5,false⟩)],XB,XH,rfl,oB,n3,hb,K,fun X' h' o' K'=>hnx hlt _ _ ⟨X',XH,rfl,o',oH,K'⟩⟩
   ·exact⟨M1.hol,m.holds,(b11, .inl ⟨[slN,slN,slN,slN,slN],5,false⟩)::XB,XH, [],rfl,oH,n4,hh,by rw [List.append_nil];exact K,fun X' h' o' K'=>hnx hlt _ _ ⟨XB,X',rfl,oB,o',by rw [List.append_nil]at K';exact K'⟩⟩
  clear hnx oB oH
  refine⟨b108,0,rfl,by omega,by show _<((2:Nat):Int);omega,s,by rw [ax (K.le _ _ f108),show (0+Int.toNat (i:Int)*1)=i by simp];exact hcell,?_⟩
  clear K
  have hsn:=oS.1
  rw [List.length_map]at hsn
  refine au l.length (fun q vs h'=> ∃X,vs= [t.v, .pointer (some ⟨b11,0,none⟩), .pointer (some ⟨b26,0,none⟩),s.v,(arr b108 2).v,I 2,I (i:Nat),s.v,I ((s.n:Nat):Int),I (q:Nat)]/\bR X s 1 (((l.take q).map (mvI to)++l.drop q).map I)/\Kn g2 h' (A++(X++B)))
   ⟨X,rfl,oS,KS⟩ ?_
  clear oS KS X
  rintro q _ h9 next2 hq ⟨X,rfl,oS,K⟩ hnx2
  refine⟨t,b11,0,b26,0,s,arr b108 2,_,_,s,_,_,rfl,?_⟩
  by_cases hlq:q<l.length
  rotate_left
  ·refine aC (decide_eq_false (by omega)) ?_
   obtain rfl:q=l.length:=by omega
   rw [List.take_length,List.drop_length,List.append_nil]at oS
   rw [ay (by omega)]
   exact hnext X h9 oS K
  refine aM (decide_eq_true (by omega)) ?_
  obtain⟨x,hxq⟩: ∃x,l[q]?=some x:=⟨_,List.getElem?_eq_getElem hlq⟩
  have r1:=hr x (List.mem_of_getElem? hxq)
  obtain⟨b,ha,rfl⟩:=oS.one (by omega)
  have hg:=SH (f:=mvI to) hxq
  have hst:=Rh (f:=mvI to) hxq
  have hhl:=SF (f:=mvI to) (l:=l) (q:=q)
  generalize (l.take q).map (mvI to)++l.drop q=ys at*
  have fb:=K.at (b:=b) (List.mem_append_right _ (.head _))
  have hq1:0+Int.toNat (q:Int)*1=q:=by simp
  refine⟨b,0,ha,by omega,by omega,x,by rw [ax fb,hq1,List.getElem?_map,hg];rfl,?_⟩
  obtain⟨b2,o2,ha2,q0,q1,hc2⟩:=(ht2.mono K.le).rd r1.1 r1.2
  refine⟨b2,o2,ha2,q0,q1,_,hc2,b,0,ha,by omega,by omega,?_⟩
  have u:Upd (A++([(b, .inl ⟨ys.map I,s.c*1,false⟩)]++B)) b (.inl ⟨ys.map I,s.c*1,false⟩) (.inl ⟨bX (ys.map I) (0+Int.toNat (q:Int)*1) [I (dv to x.toNat)],s.c*1,false⟩)
    (A++([(b, .inl ⟨(ys.set q (mvI to x)).map I,s.c*1,false⟩)]++B)):=by
   rw [hq1,bG,List.map_set]
   exact Upd.back .head A
  refine K.wr u (by rw [List.length_map];omega) fun h12 K12 _=>?_
  rw [ay (by omega)]
  refine hnx2 hlq _ _ ⟨_,rfl,?_,K12⟩
  rw [<-hst]
  exact⟨by rw [List.length_map,List.length_set,hhl];exact hsn,oS.2.1, .inr ⟨b,ha,rfl⟩⟩
 refine aC (decide_eq_false (by omega)) ?_
 obtain rfl:i=2:=by omega
 clear hnx hlt hi2 next
 replace oB:bR XB M1.bad 1 ((m.bads.map (mvI to)).map I):=oB
 replace oH:bR XH M1.hol 1 ((m.holds.map (mvI to)).map I):=oH
 have x26:=cf f26
 repeat' (refine kr_ ?_)
 obtain⟨g3,KA,K'⟩:=Kn.cut (A:=XB++XH) (L:= [(b11, .inl ⟨[slN,slN,slN,slN,slN],5,false⟩)]) (K.perm (List.perm_append_comm (l₁:= [_])))
 clear K
 have hB3:IntS g3 M1.bad (m.bads.map (mvI to)):=oB.slcOf (by have:=oB.1;rw [List.length_map,List.length_map]at this;omega) fun x hx=>KA.mem x (List.mem_append_left _ hx)
 have hH3:IntS g3 M1.hol (m.holds.map (mvI to)):=oH.slcOf (by have:=oH.1;rw [List.length_map,List.length_map]at this;omega) fun x hx=>KA.mem x (List.mem_append_right _ hx)
 have l23:=KA.le
 clear KA
 refine kw_ ?_
 intro h12 K12 _
 simp only [bX,List.set_cons_zero,List.set_cons_succ,Nat.zero_add,Nat.reduceAdd]at K12
 clear K'
 repeat' (refine kr_ ?_)
 have l3:=K12.le
 have l2:=Hp.le_trans l23 l3
 exact k ⟨sN,M1.ini,M1.nex,M1.bad,M1.hol⟩ h12 (Hp.le_trans l02 l2) ⟨hN2.mono l2,hI2.mono l2,hX2.mono l2,hB3.mono l3,hH3.mono l3,hcap⟩
theorem ahg.modelS {XN XI XX XB XH:List (Nat×Blk)} {M:MSl} {m:ah} {g h:Hp} (o:ahg XN XI XX XB XH M m) (K:Kn g h (XN++(XI++(XX++(XB++XH))))) (hm:bT m):aO h M m:=by
 obtain⟨a,b,c,d,e⟩:=o
 have n1:=a.1
 have n2:=b.1
 have n3:=c.1
 have n4:=d.1
 have n5:=e.1
 rw [ck (m:=9) (fun _=>rfl)]at n1
 rw [ck (m:=2) (fun _=>rfl)]at n2 n3
 rw [List.length_map]at n4 n5
 have h1:=hm.nodes
 have h2:=hm.inits
 have h3:=hm.nexts
 have h4:=hm.bads
 have h5:=hm.holds
 refine⟨a.slcOf (by omega) fun x hx=>K.mem x ?_,b.slcOf (by omega) fun x hx=>K.mem x ?_,c.slcOf (by omega) fun x hx=>K.mem x ?_,d.slcOf (by omega) fun x hx=>K.mem x ?_,e.slcOf (by omega) fun x hx=>K.mem x ?_,a.2.1⟩
 ·exact List.mem_append_left _ hx
 ·exact List.mem_append_right _ (List.mem_append_left _ hx)
 ·exact List.mem_append_right _ (List.mem_append_right _ (List.mem_append_left _ hx))
 ·exact List.mem_append_right _ (List.mem_append_right _ (List.mem_append_right _ (List.mem_append_left _ hx)))
 ·exact List.mem_append_right _ (List.mem_append_right _ (List.mem_append_right _ (List.mem_append_right _ hx)))
theorem R1 (f:Nat->Int) (n:NodeP):(cA f n).kind=n.kind/\(cA f n).n=n.n/\(cA f n).m=n.m/\(cA f n).sort=n.sort:=⟨rfl,rfl,rfl,rfl⟩
theorem wF (A:List NodeP) (x:NodeP) (kind:Int):av (A++ [x]) kind=av A kind++if x.kind=kind then [A.length]else []:=by
 have:=ja (l:=A++ [x]) (kind:=kind) (i:=A.length) (n:=x) (by rw [List.getElem?_append_right (Nat.le_refl _),Nat.sub_self];rfl)
 rwa [List.take_append_of_le_length (Nat.le_refl _),List.take_length,List.take_of_length_le (by simp)]at this
theorem uw {l L:List NodeP} {n:NodeP} {f:Nat->Nat} {v v':List (List Nat)} (hk:0<=ai n.kind) (h35: ¬n.kind=35) (h36: ¬n.kind=36)
  (h: ∀p∈dK n,v'.getD (f p) []=v.getD p []/\ar L ((f p:Nat):Int)=ar l (p:Int)):bz L (cA (fun p=>(f p:Int)) n) v'=bz l n v:=by
 have st: ∀(l:List NodeP) (x:Int),ar l ((x.toNat:Nat):Int)=ar l x:=fun l x=>by unfold ar;rw [Int.toNat_natCast]
 have a:=fun(e:0<ai n.kind)=>h n.a.toNat ((fv hk).2 ⟨0,by omega,e,rfl⟩)
 have b:=fun(e:1<ai n.kind)=>h n.b.toNat ((fv hk).2 ⟨1,by omega,e,rfl⟩)
 have c:=fun(e:2<ai n.kind)=>h n.c.toNat ((fv hk).2 ⟨2,by omega,e,rfl⟩)
 by_cases h34:n.kind=34
 ·unfold bz
  rw [(R1 _ n).1,if_pos h34,if_pos h34];rfl
 have hp:0<ai n.kind:=by
  rcases qE n.kind with e|e|e|e|e
  ·unfold ai at e
   split at e
   ·omega
   ·split at e
    ·omega
    ·split at e
     ·omega
     ·split at e
      ·omega
      ·omega
  all_goals omega
 have a:=a hp
 have ea:(cA (fun p=>(f p:Int)) n).a=(f n.a.toNat:Nat):=by unfold cA;exact if_pos hp
 have eb:1<ai n.kind->(cA (fun p=>(f p:Int)) n).b=(f n.b.toNat:Nat):=fun e=>by unfold cA;exact if_pos e
 have ec:2<ai n.kind->(cA (fun p=>(f p:Int)) n).c=(f n.c.toNat:Nat):=fun e=>by unfold cA;exact if_pos e
 have ek:(cA (fun p=>(f p:Int)) n).kind=n.kind:=rfl
 have en:(cA (fun p=>(f p:Int)) n).n=n.n:=rfl
 have em:(cA (fun p=>(f p:Int)) n).m=n.m:=rfl
 generalize cA (fun p=>(f p:Int)) n=nn at*
 have ga:v'.getD nn.a.toNat []=v.getD n.a.toNat []:=by rw [ea,Int.toNat_natCast];exact a.1
 have gb:1<ai n.kind->v'.getD nn.b.toNat []=v.getD n.b.toNat []:=fun e=>by rw [eb e,Int.toNat_natCast];exact(b e).1
 have gc:2<ai n.kind->v'.getD nn.c.toNat []=v.getD n.c.toNat []:=fun e=>by rw [ec e,Int.toNat_natCast];exact(c e).1
 have sa:ar L nn.a=ar l n.a:=by rw [ea,a.2,st]
 have sb:1<ai n.kind->ar L nn.b=ar l n.b:=fun e=>by rw [eb e,(b e).2,st]
 have ca:aK v' nn.a=aK v n.a:=by unfold aK;rw [ga]
 have cb:1<ai n.kind->aK v' nn.b=aK v n.b:=fun e=>by unfold aK;rw [gb e]
 have cc:2<ai n.kind->aK v' nn.c=aK v n.c:=fun e=>by unfold aK;rw [gc e]
 unfold bz
 rw [ek,en,em,ca,sa]
 rcases ju hp with ⟨h1,h2,h3⟩|⟨h1,h2,h3⟩|⟨h1,h2,h3⟩|⟨h1,h3⟩|⟨h1,h3⟩|⟨h1,h3⟩
 ·simp only [if_neg h34,if_neg (show¬n.kind=33 by omega),if_neg (show¬n.kind=21 by omega),if_neg (show¬n.kind=37 by omega),if_neg (show¬n.kind=38 by omega),if_neg (show¬n.kind=29 by omega),if_pos h3]
 ·rw [cb (by omega),gb (by omega),ga,sb (by omega)]
  simp only [if_neg h34,if_neg (show¬n.kind=33 by omega),if_neg (show¬n.kind=38 by omega)]
 ·simp only [if_neg h34,if_neg (show¬n.kind=33 by omega),if_neg (show¬n.kind=21 by omega),if_neg (show¬n.kind=37 by omega),if_neg (show¬n.kind=38 by omega),if_neg (show¬n.kind=29 by omega),if_pos h3]
 ·simp only [if_neg h34,if_pos h1,gb (show 1<ai n.kind by omega),gc (show 2<ai n.kind by omega)]
 ·simp only [if_neg h34,if_neg (show¬n.kind=33 by omega),if_neg (show¬n.kind=21 by omega),if_pos h1,ga,cb (show 1<ai n.kind by omega)]
 ·simp only [if_neg h34,if_neg (show¬n.kind=33 by omega),if_neg (show¬n.kind=21 by omega),if_neg (show¬n.kind=37 by omega),if_pos h1,ga,cb (show 1<ai n.kind by omega),cc (show 2<ai n.kind by omega)]
theorem Az {α:Type} {a:List α} {x d:α}:(a++ [x]).getD a.length d=x:=by simp [List.getD_eq_getElem?_getD]
theorem Ay {α:Type} {l:List α} {f q:α->Bool} (h: ∀x∈l,f x=q x):l.findIdx? f=l.findIdx? q:=by
 induction l with
 |nil=>rfl
 |cons x l ih=>rw [List.findIdx?_cons,List.findIdx?_cons,h x (.head _),ih fun y hy=>h y (.tail _ hy)]
theorem Kn.low {g g1 h':Hp} {L:List (Nat×Blk)} (l:g.le g1) (K:Kn g1 h' L):Kn g h' L:=⟨Hp.le_trans l K.le,K.mem,fun e he=>aF l (K.new e he),K.nd⟩
def fI (m:ah) (xs ys:List Int):Int:=if dM m xs ys=0 then xM m (bK m (cAt xs (xs.length-1)) (cAt ys (xs.length-1)))else-1
theorem pS {h:Hp} {M:MSl} {m:ah} {sS sI:Sl} {xs ys:List Int} {R:Value->Hp->Prop} (hs:aO h M m) (hm:bT m) (h1:IntS h sS xs) (h2:IntS h sI ys)
  (k:R (I (fI m xs ys)) h):lV #[aQ M, .agg #[sS.v,sI.v]] h R:=by
 refine ACalls.drop (H7 ?_)
 refine uf_ ?_
 have hn:=h1.len
 have fin: ∀h' L,Kn h h' L-> ∃h'',h''.le h'/\R (I (fI m xs ys)) h'':=fun h' L K=>⟨h,K.le,k⟩
 (with_reducible apply Kn.al);(exact Kn.nil h);(intro b9 h3 K1 l3 hb9)
 refine Kn.al K1 fun b11 h4 K2 l4 hb11=>?_
 clear K1
 repeat' (refine kr_ ?_)
 refine oQ (hs.mono K2.le) hm (h1.mono K2.le) (h2.mono K2.le) ⟨_,rfl,ad (fun e=>?_) (fun e=>?_)⟩
 ·have:=fin _ _ K2
  unfold fI at this
  rwa [if_neg (i7 e)]at this
 have e0:=fY e
 obtain⟨hc,_,hx1,hx2,hyl,hxs,hys⟩:=And.intro (gN (wR e0)).1 (gN (wR e0))
 have g:=cD hc
 repeat' (refine kr_ ?_)
 obtain⟨a1,a2⟩:=hxs (xs.length-1) (by omega)
 obtain⟨c1,c2⟩:=hys (xs.length-1) (by omega)
 rw [show W (((sS.n:Nat):Int)-1)=((xs.length-1:Nat):Int) by rw [cd (by omega) (by omega)];omega]
 refine B9 (hs.mono K2.le) hm g (h1.mono K2.le) (h2.mono K2.le) a1 c1 a2 c2 fun u w h5 l5 iu iw=>⟨_,_,rfl,?_⟩
 have K5:=K2.mono l5
 clear K2
 repeat' (refine kr_ ?_)
 refine Fk (hs.mono K5.le) hm hc iu iw ⟨_,rfl,?_⟩
 have:=fin _ _ K5
 unfold fI at this
 rwa [if_pos e0]at this
theorem pY {h:Hp} {M:MSl} {m:ah} {sS sI:Sl} {xs ys:List Int} {R:Value->Hp->Prop} (hs:aO h M m) (hm:bT m) (h1:IntS h sS xs) (h2:IntS h sI ys) (hcap:sS.n<=sS.c)
  (k:R (I (fI m xs ys)) h):lR #[aQ M, .agg #[sS.v,sI.v]] h R:=by
 refine ACalls.drop (Im ?_)
 refine uf_ ?_
 have hn:=h1.len
 have hni:=h2.len
 have fin: ∀h' L,Kn h h' L-> ∃h'',h''.le h'/\R (I (fI m xs ys)) h'':=fun h' L K=>⟨h,K.le,k⟩
 (with_reducible apply Kn.al);(exact Kn.nil h);(intro b9 h3 K1 l3 hb9)
 refine Kn.al K1 fun b11 h4 K2 l4 hb11=>?_
 clear K1
 repeat' (refine kr_ ?_)
 refine ky (hs.mono K2.le) hm (h1.mono K2.le) (h2.mono K2.le) hcap ⟨_,rfl,ad (fun e=>?_) (fun e=>?_)⟩
 ·have:=fin _ _ K2
  unfold fI at this
  rwa [if_neg (i7 e)]at this
 have e0:=fY e
 obtain⟨hc,_,hx1,hx2,hyl,hxs,hys⟩:=And.intro (gN (wR e0)).1 (gN (wR e0))
 have g:=cD hc
 have n8:=g.n8
 have k5:=g.k5
 have hp8:2^ak m.nodes 36<=2^8:=Nat.pow_le_pow_right (by omega) n8
 have hp5:2^ak m.nodes 35<=2^5:=Nat.pow_le_pow_right (by omega) k5
 repeat' (refine kr_ ?_)
 obtain⟨a1,a2⟩:=hxs (xs.length-1) (by omega)
 obtain⟨c1,c2⟩:=hys (xs.length-1) (by omega)
 rw [show W (((sS.n:Nat):Int)-1)=((xs.length-1:Nat):Int) by rw [cd (by omega) (by omega)];omega]
 obtain⟨bx,ox,hax,hcx⟩:=h1.get a1
 obtain⟨by_,oy,hay,hcy⟩:=h2.get c1
 have xbx:=fT hcx
 have xby:=fT hcy
 refine⟨bx,ox,hax,by omega,by omega,_,by rw [Int.toNat_natCast];exact K2.le.cell hcx,?_⟩
 repeat' (refine kr_ ?_)
 refine⟨by_,oy,hay,by omega,by omega,_,by rw [Int.toNat_natCast];exact K2.le.cell hcy,?_⟩
 refine dk (hs.mono K2.le) hm fun p1 h5 l5 ip1=>⟨_,rfl,?_⟩
 have K5:=K2.mono l5
 repeat' (refine kr_ ?_)
 refine wV (hs.mono K5.le) hm g.ok ip1 (bV g 36) (ge g 36) (by omega) fun u1 h6 l6 iu1 cu1=>⟨_,rfl,?_⟩
 have K6:=K5.mono l6
 repeat' (refine kr_ ?_)
 refine dk (hs.mono K6.le) hm fun p2 h7 l7 ip2=>⟨_,rfl,?_⟩
 have K7:=K6.mono l7
 repeat' (refine kr_ ?_)
 refine wV (hs.mono K7.le) hm g.ok ip2 (bV g 35) (ge g 35) (by omega) fun u2 h8 l8 iu2 cu2=>⟨_,rfl,?_⟩
 have K8:=K7.mono l8
 repeat' (refine kr_ ?_)
 refine xX (hs.mono K8.le) hm g.ok g.nl (iu1.mono (Hp.le_trans l7 l8)) cu1 (jR 36 _ g) iu2 cu2 (jR 35 _ g) fun t h9 l9 _ hpv=>⟨_,rfl,?_⟩
 have K9:=K8.mono l9
 replace hpv:gO h9 t (bK m (cAt xs (xs.length-1)) (cAt ys (xs.length-1))):=hpv
 repeat' (refine kr_ ?_)
 refine LT (hs.mono K9.le) g hpv (dr g _ _) ⟨_,rfl,?_⟩
 have:=fin _ _ K9
 unfold fI at this
 rwa [if_pos e0]at this
def aiB :NodeP:=⟨0,0,0,0,0,0,⟨0,0⟩,⟨#[]⟩⟩
def eL (l:List NodeP) (p:Int):NodeP:=(l[p.toNat]?).getD aiB
theorem Jp {l:List NodeP} {p:Int} {n:NodeP} (h:l[p.toNat]?=some n):eL l p=n:=by unfold eL;rw [h];rfl
inductive Rl where
 |no
 |pl (p:Int)
 |co (w v:Int)
def Rl.or :Rl->Rl->Rl
 | .no,r=>r
 |r,_=>r
def mR (fl:List NodeP):List (List Nat):=fl.map fun c=> [c.n.toNat]
def adh (fl:List NodeP) (n:NodeP):Nat:=(bz fl n (mR fl)).getD 0 0
def Nj (fl:List NodeP) (n:NodeP):Bool:=decide (0<ai n.kind)&&(dK n).all fun p=>decide ((eL fl (p:Int)).kind=34)
def D5 (n:NodeP):Rl:=
 if n.kind=6\/n.kind=7 then .pl n.a else if n.kind=8\/n.kind=10 then .co n.sort.wid 0 else
 if n.kind=21\/n.kind=24\/n.kind=25 then .co 1 1 else if n.kind=22\/n.kind=23 then .co 1 0 else .no
def byP (fl:List NodeP) (kind c other:Int):Rl:=
 if¬(eL fl c).kind=34 then .no else
 if kind=6/\(eL fl c).n=0\/kind=7/\(eL fl c).n=((2^(eL fl c).sort.wid.toNat-1:Nat):Int)\/kind=11/\(eL fl c).n=0 then .pl c else
 if kind=6/\(eL fl c).n=((2^(eL fl c).sort.wid.toNat-1:Nat):Int)\/kind=7/\(eL fl c).n=0\/kind=8/\(eL fl c).n=0\/kind=9/\(eL fl c).n=0\/kind=11/\(eL fl c).n=1 then .pl other else .no
def GE (fl:List NodeP) (n:NodeP):Rl:=if((eL fl n.b).kind=34/\(eL fl n.b).n=0)/\(n.kind=10\/16<=n.kind/\n.kind<=20)then .pl n.a else .no
def PA (fl:List NodeP) (n:NodeP):Rl:=(if n.a=n.b then D5 n else .no).or ((byP fl n.kind n.a n.b).or ((byP fl n.kind n.b n.a).or (GE fl n)))
def AE (fl:List NodeP) (n:NodeP):Rl:=
 if Nj fl n=true then .co n.sort.wid (adh fl n)else
 if n.kind=33 then(if(eL fl n.a).kind=34/\(eL fl n.a).n=1 then .pl n.b else if(eL fl n.a).kind=34 then .pl n.c else if n.b=n.c then .pl n.b else .no)else
 if n.kind=37 then(if(eL fl n.a).kind=38/\(eL fl n.a).b=n.b then .pl (eL fl n.a).c else .no)else
 if n.kind=1\/n.kind=2 then(if(eL fl n.a).kind=n.kind then .pl (eL fl n.a).a else .no)else
 if n.kind=30 then(if n.m=0/\n.n=(eL fl n.a).sort.wid-1 then .pl n.a else .no)else
 if n.kind=31\/n.kind=32 then(if n.n=0 then .pl n.a else .no)else
 if 6<=n.kind/\n.kind<=29 then PA fl n else .no
theorem gV {p:Int} (h:0<=p):((p.toNat:Nat):Int)=p:=Int.toNat_of_nonneg h
theorem Xz {n:NodeP} (h: ∀j:Nat,j<3->(j:Int)<ai n.kind->0<=az n j):cA (fun p=>((id p:Nat):Int)) n=n:=by
 have e0:=h 0 (by omega)
 have e1:=h 1 (by omega)
 have e2:=h 2 (by omega)
 unfold az at e0 e1 e2
 unfold cA
 cases n
 congr 1
 ·split
  ·rename_i q;exact gV (e0 q)
  ·rfl
 ·split
  ·rename_i q;exact gV (e1 q)
  ·rfl
 ·split
  ·rename_i q;exact gV (e2 q)
  ·rfl
theorem pg {l L:List NodeP} {n:NodeP} {v v':List (List Nat)} (hk:0<=ai n.kind) (h35: ¬n.kind=35) (h36: ¬n.kind=36) (hp: ∀j:Nat,j<3->(j:Int)<ai n.kind->0<=az n j)
  (h: ∀p∈dK n,v'.getD p []=v.getD p []/\ar L (p:Int)=ar l (p:Int)):bz L n v'=bz l n v:=by
 have:=uw (l:=l) (L:=L) (n:=n) (f:=id) (v:=v) (v':=v') hk h35 h36 h
 rwa [Xz hp]at this
structure FOk (fl:List NodeP) (v:List (List Nat)):Prop where
 ok:bP fl=true
 len:v.length=fl.length
 fit:zZ fl fl.length v
 val: ∀(p:Nat) (n:NodeP),fl[p]?=some n->n.kind≠35->n.kind≠36->v.getD p []=bz fl n v
theorem jK {l:List NodeP} {p:Int} (h0:0<=p) (h:p<l.length): ∃n,l[p.toNat]?=some n/\eL l p=n/\ar l p=n.sort:=by
 have hl:p.toNat<l.length:=by omega
 refine⟨l[p.toNat],List.getElem?_eq_getElem hl,Jp (List.getElem?_eq_getElem hl),?_⟩
 unfold ar;rw [List.getElem?_eq_getElem hl]
section
variable {fl :List NodeP} {v:List (List Nat)} {n:NodeP}
theorem FOk.con (f:FOk fl v) {p:Int} (h0:0<=p) (hp:p<fl.length) (hk:(eL fl p).kind=34):
  v.getD p.toNat []= [(eL fl p).n.toNat]/\aK v p=(eL fl p).n.toNat/\0<=(eL fl p).n/\(eL fl p).n<((2^(ar fl p).wid.toNat:Nat):Int)/\(ar fl p).idx=0:=by
 obtain⟨x,hx,e1,e2⟩:=jK h0 hp
 rw [e1]at hk⊢
 have ht:=(fM f.ok hx).const hk
 have hv:=f.val _ _ hx (by omega) (by omega)
 unfold bz at hv
 rw [if_pos hk]at hv
 have:=ib.1 ht.2
 rw [e2]
 refine⟨hv,by unfold aK;rw [hv];rfl,this.2.1,?_,ht.1⟩
 have pp:=bQ x.sort.wid.toNat
 omega
theorem FOk.part (f:FOk fl v) (t:iJ fl fl.length n) {j:Nat} (h1:j<3) (h2:(j:Int)<ai n.kind):
  0<=az n j/\az n j<fl.length/\bW (ar fl (az n j))=true/\Fit (ar fl (az n j)) (v.getD (az n j).toNat []):=by
 obtain⟨a,b,c⟩:=t.part j h1 h2
 exact⟨a,b,c,f.fit.part t (Nat.le_refl _) h1 h2⟩
def HN (fl:List NodeP) (v:List (List Nat)) (n:NodeP):Rl->Prop
 | .no=>True
 | .pl p=>0<=p/\p<fl.length/\ar fl p=n.sort/\v.getD p.toNat []=bz fl n v
 | .co w x=>n.sort=⟨0,w⟩/\(1<=w/\w<=16)/\(0<=x/\x<((2^w.toNat:Nat):Int))/\bz fl n v= [x.toNat]
theorem Lq {a b:Rl} (ha:HN fl v n a) (hb:HN fl v n b):HN fl v n (a.or b):=by
 cases a
 ·exact hb
 ·exact ha
 ·exact ha
theorem Qm (h:6<=n.kind/\n.kind<=28/\n.kind≠21):bz fl n v= [(qt n.kind (ar fl n.a).wid.toNat (aK v n.a) (aK v n.b)).1]:=by
 have hp:ai n.kind=2:=by unfold ai;rw [if_neg (by omega),if_pos (by omega)]
 unfold bz
 rw [if_neg (by omega),if_neg (by omega),if_neg (by omega),if_neg (by omega),if_neg (by omega),if_neg (by omega),if_neg (by omega),if_neg (by omega),if_neg (by omega)]
theorem uQ (h:6<=n.kind/\n.kind<=29):ai n.kind=2:=by unfold ai;rw [if_neg (by omega),if_pos (by omega)]
theorem zo {kind:Int} (h:kind<=20) (w a b:Nat):(qt kind w a b).1=BH kind w a b:=by unfold qt;rw [if_pos h]
theorem I4 {kind:Int} (h: ¬kind<=20) (w a b:Nat):(qt kind w a b).1=if AD kind w a b then 1 else 0:=by unfold qt;rw [if_neg h]
theorem AB {s:SortP} (h: ¬0<s.idx) (ok:bW s=true):s=cR s.wid:=by
 have:=bD.1 ok
 obtain⟨i,w⟩:=s
 have:i=0:=by dsimp only at*;omega
 subst this;rfl
theorem Cb (f:FOk fl v) (t:iJ fl fl.length n) (h:6<=n.kind/\n.kind<=28/\n.kind≠21):
  ∃w:Nat,1<=w/\w<=16/\ar fl n.a=⟨0,w⟩/\ar fl n.b=⟨0,w⟩/\n.sort=cR (if n.kind<=20 then(w:Int)else 1)/\v.getD n.a.toNat []= [aK v n.a]/\v.getD n.b.toNat []= [aK v n.b]/\aK v n.a<2^w/\aK v n.b<2^w/\
   bz fl n v= [(qt n.kind w (aK v n.a) (aK v n.b)).1]/\(0<=n.a/\n.a<fl.length)/\(0<=n.b/\n.b<fl.length):=by
 have hp:=uQ (n:=n) ⟨h.1,by omega⟩
 obtain⟨a1,a2,a3,a4⟩:=f.part t (j:=0) (by omega) (by omega)
 obtain⟨b1,b2,b3,b4⟩:=f.part t (j:=1) (by omega) (by omega)
 simp only [az]at a1 a2 a3 a4 b1 b2 b3 b4
 obtain⟨r1,r2,r3⟩:=SN h (t.res (by omega))
 have hs:=AB r1 a3
 have hw:=bD.1 a3
 refine⟨(ar fl n.a).wid.toNat,by omega,by omega,?_,?_,?_,?_,?_,?_,?_,Qm h,⟨a1,a2⟩,b1,b2⟩
 ·conv=>lhs;rw [hs]
  show (⟨0,_⟩:SortP)=_
  congr 1;omega
 ·rw [<-r2]
  conv=>lhs;rw [hs]
  show (⟨0,_⟩:SortP)=_
  congr 1;omega
 ·rw [r3,show (((ar fl n.a).wid.toNat:Nat):Int)=(ar fl n.a).wid by omega]
 ·exact(a4.word (by rw [hs];rfl)).1
 ·exact(b4.word (by rw [<-r2,hs];rfl)).1
 ·exact a4.cell
 ·have:=b4.cell
  rwa [<-r2]at this
end
theorem acH {w y:Nat} (h:y<2^w):(2^w-1)&&&y=y:=by rw [Nat.and_comm,Nat.and_two_pow_sub_one_eq_mod,Nat.mod_eq_of_lt h]
theorem ae8 {w y:Nat} (h:y<2^w):(2^w-1)|||y=2^w-1:=by
 refine Nat.eq_of_testBit_eq fun i=>?_
 rw [Nat.testBit_or,Nat.testBit_two_pow_sub_one]
 by_cases hi:i<w
 ·simp [hi]
 ·have:y.testBit i=false:=Nat.testBit_lt_two_pow (Nat.lt_of_lt_of_le h (Nat.pow_le_pow_right (by omega) (by omega)))
  simp [hi,this]
theorem Rx {w a:Nat} (h:a<2^w):DL w a 0=a:=by
 unfold DL
 rw [Nat.pow_zero,Nat.mul_one,Nat.sub_zero,Nat.div_eq_of_lt h,Nat.or_zero,Nat.mod_eq_of_lt h]
theorem Ob {kind:Int} (h:kind=6\/kind=7\/kind=8\/kind=9\/kind=11) (w a b:Nat):BH kind w a b=BH kind w b a:=by
 rcases h with rfl|rfl|rfl|rfl|rfl
 ·show a&&&b=b&&&a
  exact Nat.and_comm _ _
 ·show a|||b=b|||a
  exact Nat.or_comm _ _
 ·show a^^^b=b^^^a
  exact Nat.xor_comm _ _
 ·show fG w ((a:Int)+b)=fG w ((b:Int)+a)
  rw [Int.add_comm]
 ·show fG w ((a:Int)*b)=fG w ((b:Int)*a)
  rw [Int.mul_comm]
section
variable {fl :List NodeP} {v:List (List Nat)} {n:NodeP}
theorem Ry (f:FOk fl v) (t:iJ fl fl.length n) (h:6<=n.kind/\n.kind<=29) (e:n.a=n.b):HN fl v n (D5 n):=by
 unfold D5
 by_cases h21:n.kind=21
 ·rw [if_neg (by omega),if_neg (by omega),if_pos (by omega)]
  have hp:=uQ (n:=n) h
  obtain⟨r1,r2⟩:=Pg h21 (t.res (by omega))
  refine⟨r2,by omega,⟨by omega,by decide⟩,?_⟩
  unfold bz
  rw [if_neg (by omega),if_neg (by omega),if_pos h21,e,if_pos rfl];rfl
 by_cases h29:n.kind=29
 ·rw [if_neg (by omega),if_neg (by omega),if_neg (by omega),if_neg (by omega)];trivial
 obtain⟨w,w1,w2,sa,sb,ns,va,vb,la,lb,val,pa,pb⟩:=Cb f t ⟨h.1,by omega,h21⟩
 rw [<-e]at vb lb val sb
 split
 ·rename_i q
  rw [if_pos (by omega)]at ns
  refine⟨pa.1,pa.2,by rw [sa,ns];rfl,?_⟩
  rw [val,va,zo (by omega)]
  rcases q with q|q<;>rw [q]
  ·show _= [aK v n.a&&&aK v n.a]
   rw [Nat.and_self]
  ·show _= [aK v n.a|||aK v n.a]
   rw [Nat.or_self]
 split
 ·rename_i q
  rw [if_pos (by omega)]at ns
  have pp:=bQ w
  rw [ns]
  refine⟨ns,⟨by show 1<=(w:Int);omega,by show (w:Int)<=16;omega⟩,⟨by omega,by show (0:Int)<((2^Int.toNat (w:Int):Nat):Int);rw [Int.toNat_natCast];omega⟩,?_⟩
  rw [val,zo (by omega)]
  rcases q with q|q<;>rw [q]
  ·show [aK v n.a^^^aK v n.a]=_
   rw [Nat.xor_self];rfl
  ·show [fG w ((aK v n.a:Int)-aK v n.a)]=_
   rw [Int.sub_self]
   show [(((0:Int)%_).toNat)]=_
   rw [Int.zero_emod]
 split
 ·rename_i q
  rw [if_neg (by omega)]at ns
  refine⟨ns,by omega,⟨by omega,by decide⟩,?_⟩
  rw [val,I4 (by omega)]
  rcases q with q|q|q
  ·omega
  ·rw [q]
   show [if decide (aK v n.a<=aK v n.a)then 1 else 0]=_
   rw [decide_eq_true (Nat.le_refl _)];rfl
  ·rw [q]
   show [if decide (sgn w (aK v n.a)<=sgn w (aK v n.a))then 1 else 0]=_
   rw [decide_eq_true (Int.le_refl _)];rfl
 split
 ·rename_i q
  rw [if_neg (by omega)]at ns
  refine⟨ns,by omega,⟨by omega,by decide⟩,?_⟩
  rw [val,I4 (by omega)]
  rcases q with q|q
  ·rw [q]
   show [if decide (aK v n.a<aK v n.a)then 1 else 0]=_
   rw [decide_eq_false (Nat.lt_irrefl _)];rfl
  ·rw [q]
   show [if decide (sgn w (aK v n.a)<sgn w (aK v n.a))then 1 else 0]=_
   rw [decide_eq_false (Int.lt_irrefl _)];rfl
 trivial
theorem Oa (f:FOk fl v) {w:Nat} {c o:Int} (hw:1<=w) (hc:0<=c/\c<fl.length) (ho:0<=o/\o<fl.length) (sc:ar fl c=⟨0,w⟩) (so:ar fl o=⟨0,w⟩)
  (lo:aK v o<2^w) (vo:v.getD o.toNat []= [aK v o]) (val:(n.kind=6\/n.kind=7\/n.kind=8\/n.kind=9\/n.kind=11)->n.sort=⟨0,w⟩/\bz fl n v= [BH n.kind w (aK v c) (aK v o)]):HN fl v n (byP fl n.kind c o):=by
 unfold byP
 obtain⟨x,hx,e1,e2⟩:=jK hc.1 hc.2
 by_cases hk:(eL fl c).kind=34
 rotate_left
 ·rw [if_pos hk];trivial
 obtain⟨c1,c2,c3,c4,c5⟩:=f.con hc.1 hc.2 hk
 rw [if_neg (fun q=>q hk)]
 have hsw:(eL fl c).sort.wid.toNat=w:=by rw [e1,<-e2,sc];exact Int.toNat_natCast w
 rw [hsw]
 have pp:=bQ w
 have pc:((2^w-1:Nat):Int)=((2^w:Nat):Int)-1:=by omega
 split
 ·rename_i q
  obtain⟨v1,v2⟩:=val (by omega)
  refine⟨hc.1,hc.2,by rw [sc,v1],?_⟩
  rw [v2,c1,<-c2]
  rcases q with ⟨q,z⟩|⟨q,z⟩|⟨q,z⟩<;>rw [q]
  ·have:aK v c=0:=by omega
   show _= [aK v c&&&aK v o]
   rw [this,Nat.zero_and]
  ·have:aK v c=2^w-1:=by omega
   show _= [aK v c|||aK v o]
   rw [this,ae8 lo]
  ·have:aK v c=0:=by omega
   show _= [fG w ((aK v c:Int)*aK v o)]
   rw [this,Int.natCast_zero,Int.zero_mul]
   show [0]= [(((0:Int)%_).toNat)]
   rw [Int.zero_emod];rfl
 split
 ·rename_i q
  obtain⟨v1,v2⟩:=val (by omega)
  refine⟨ho.1,ho.2,by rw [so,v1],?_⟩
  rw [v2,vo]
  rcases q with ⟨q,z⟩|⟨q,z⟩|⟨q,z⟩|⟨q,z⟩|⟨q,z⟩<;>rw [q]
  ·have:aK v c=2^w-1:=by omega
   show _= [aK v c&&&aK v o]
   rw [this,acH lo]
  ·have:aK v c=0:=by omega
   show _= [aK v c|||aK v o]
   rw [this,Nat.zero_or]
  ·have:aK v c=0:=by omega
   show _= [aK v c^^^aK v o]
   rw [this,Nat.zero_xor]
  ·have:aK v c=0:=by omega
   show _= [fG w ((aK v c:Int)+aK v o)]
   rw [this,Int.natCast_zero,Int.zero_add,Fi lo]
  ·have:aK v c=1:=by omega
   show _= [fG w ((aK v c:Int)*aK v o)]
   rw [this]
   show _= [fG w ((1:Int)*aK v o)]
   rw [Int.one_mul,Fi lo]
 trivial
theorem VH (f:FOk fl v) (t:iJ fl fl.length n) (h:6<=n.kind/\n.kind<=29):HN fl v n (PA fl n):=by
 unfold PA
 have hby: ∀k:Int,¬(k=6\/k=7\/k=8\/k=9\/k=11)-> ∀c o,byP fl k c o= .no:=fun k hk c o=>by
  unfold byP
  split
  ·rfl
  ·rw [if_neg (by omega),if_neg (by omega)]
 refine Lq ?_ (Lq ?_ (Lq ?_ ?_))
 ·split
  ·rename_i e;exact Ry f t h e
  ·trivial
 ·by_cases q:n.kind=6\/n.kind=7\/n.kind=8\/n.kind=9\/n.kind=11
  ·obtain⟨w,w1,w2,sa,sb,ns,va,vb,la,lb,val,pa,pb⟩:=Cb f t (by omega)
   rw [if_pos (by omega)]at ns
   exact Oa f w1 pa pb sa sb lb vb fun _=>⟨ns,by rw [val,zo (by omega)]⟩
  ·rw [hby _ q];trivial
 ·by_cases q:n.kind=6\/n.kind=7\/n.kind=8\/n.kind=9\/n.kind=11
  ·obtain⟨w,w1,w2,sa,sb,ns,va,vb,la,lb,val,pa,pb⟩:=Cb f t (by omega)
   rw [if_pos (by omega)]at ns
   exact Oa f w1 pb pa sb sa la va fun _=>⟨ns,by rw [val,zo (by omega),Ob q]⟩
  ·rw [hby _ q];trivial
 ·unfold GE
  split
  ·rename_i q
   obtain⟨⟨q1,q2⟩,q3⟩:=q
   obtain⟨w,w1,w2,sa,sb,ns,va,vb,la,lb,val,pa,pb⟩:=Cb f t (by omega)
   rw [if_pos (by omega)]at ns
   obtain⟨c1,c2,c3,c4,c5⟩:=f.con pb.1 pb.2 q1
   have hz:aK v n.b=0:=by omega
   refine⟨pa.1,pa.2,by rw [sa,ns];rfl,?_⟩
   rw [val,zo (by omega),va,hz]
   have hs:n.kind=10\/n.kind=16\/n.kind=17\/n.kind=18\/n.kind=19\/n.kind=20:=by omega
   rcases hs with q|q|q|q|q|q<;>rw [q]
   ·show _= [fG w ((aK v n.a:Int)-(0:Nat))]
    rw [Int.natCast_zero,Int.sub_zero,Fi la]
   ·show _= [aK v n.a*2^min 0 w%2^w]
    rw [Nat.zero_min,Nat.pow_zero,Nat.mul_one,Nat.mod_eq_of_lt la]
   ·show _= [aK v n.a/2^min 0 w]
    rw [Nat.zero_min,Nat.pow_zero,Nat.div_one]
   ·show _= [fG w (sgn w (aK v n.a)/((2^min 0 w:Nat):Int))]
    rw [Nat.zero_min,Nat.pow_zero,Int.natCast_one,Int.ediv_one,Sx w1 la]
   ·show _= [DL w (aK v n.a) (0%w)]
    rw [Nat.zero_mod,Rx la]
   ·show _= [DL w (aK v n.a) ((w-0%w)%w)]
    rw [Nat.zero_mod,Nat.sub_zero,Nat.mod_self,Rx la]
  ·trivial
theorem tj (hk:0<=ai n.kind) {j:Nat} (h1:j<3) (h2:(j:Int)<ai n.kind):(az n j).toNat∈dK n:=(fv hk).2 ⟨j,h1,h2,rfl⟩
theorem O1 (f:FOk fl v) (t:iJ fl fl.length n) (h:Nj fl n=true):HN fl v n (.co n.sort.wid (adh fl n)):=by
 unfold Nj at h
 obtain⟨hp,hall⟩:=Bool.and_eq_true_iff.1 h
 have hp:=of_decide_eq_true hp
 have hall:=List.all_eq_true.1 hall
 have hk35: ¬n.kind=35:=fun e=>by rw [e]at hp;revert hp;decide
 have hk36: ¬n.kind=36:=fun e=>by rw [e]at hp;revert hp;decide
 have con: ∀j:Nat,j<3->(j:Int)<ai n.kind->(ar fl (az n j)).idx=0/\(mR fl).getD (az n j).toNat []=v.getD (az n j).toNat []:=fun j h1 h2=>by
  obtain⟨a1,a2,_,_⟩:=f.part t h1 h2
  have:=of_decide_eq_true (hall _ (tj t.kind h1 h2))
  rw [gV a1]at this
  obtain⟨c1,c2,c3,c4,c5⟩:=f.con a1 a2 this
  refine⟨c5,?_⟩
  rw [c1]
  obtain⟨x,hx,e1,_⟩:=jK a1 a2
  unfold mR
  rw [List.getD_eq_getElem?_getD,List.getElem?_map,hx,e1];rfl
 have hval:bz fl n (mR fl)=bz fl n v:=pg t.kind hk35 hk36 (fun j h1 h2=>(t.part j h1 h2).1) fun p hpm=>by
  obtain⟨j,h1,h2,e⟩:=(fv t.kind).1 hpm
  refine⟨?_,rfl⟩
  have:=(con j h1 h2).2
  rwa [<-e]at this
 have fit:=G5 (Nat.le_refl _) t f.fit hk35 hk36
 have hidx:n.sort.idx=0:=by
  have hr:=t.res hp
  have h0:=(con 0 (by omega) (by omega)).1
  simp only [az]at h0
  rcases ju hp with ⟨h1,h2,h3⟩|⟨h1,h2,h3⟩|⟨h1,h2,h3⟩|⟨h1,h3⟩|⟨h1,h3⟩|⟨h1,h3⟩
  ·rw [(acx ⟨h1,h2⟩ hr).2];rfl
  ·by_cases q:n.kind=21
   ·rw [(Pg q hr).2];rfl
   by_cases q2:n.kind=29
   ·rw [(OY q2 hr).2.2.2];rfl
   ·rw [(SN ⟨h1,by omega,q⟩ hr).2.2];rfl
  ·by_cases q:n.kind=30
   ·rw [(Ht q hr).2.2];rfl
   ·rw [(Em (by omega) hr).2.2];rfl
  ·have h1':=(con 1 (by omega) (by omega)).1
   simp only [az]at h1'
   rw [(V7 h1 hr).2.2];exact h1'
  ·have:=(KK h1 hr).1;omega
  ·have:=(Js h1 hr).1;omega
 obtain⟨e1,e2⟩:=fit.word hidx
 have so:=bD.1 t.sort
 unfold adh
 rw [hval]
 refine⟨?_,so.2,⟨by omega,by omega⟩,by rw [Int.toNat_natCast];exact e1⟩
 have hs:=AB (s:=n.sort) (by omega) t.sort
 exact hs
theorem zD (f:FOk fl v) (t:iJ fl fl.length n):HN fl v n (AE fl n):=by
 unfold AE
 split
 ·rename_i h;exact O1 f t h
 split
 ·rename_i _ hk
  have hp:ai n.kind=3:=by rw [hk];rfl
  obtain⟨r1,r2,r3⟩:=V7 hk (t.res (by omega))
  obtain⟨a1,a2,a3,a4⟩:=f.part t (j:=0) (by omega) (by omega)
  obtain⟨b1,b2,b3,b4⟩:=f.part t (j:=1) (by omega) (by omega)
  obtain⟨c1,c2,c3,c4⟩:=f.part t (j:=2) (by omega) (by omega)
  simp only [az]at a1 a2 a3 a4 b1 b2 b3 b4 c1 c2 c3 c4
  have val:bz fl n v=if aK v n.a=1 then v.getD n.b.toNat []else v.getD n.c.toNat []:=by
   unfold bz
   rw [if_neg (by omega),if_pos hk]
  split
  ·rename_i q
   obtain⟨d1,d2,d3,d4,d5⟩:=f.con a1 a2 q.1
   refine⟨b1,b2,r3.symm,?_⟩
   rw [val,if_pos (by omega)]
  split
  ·rename_i q1 q
   obtain⟨d1,d2,d3,d4,d5⟩:=f.con a1 a2 q
   refine⟨c1,c2,by rw [<-r2];exact r3.symm,?_⟩
   rw [val,if_neg ?_]
   intro e
   exact q1 ⟨q,by omega⟩
  split
  ·rename_i q
   refine⟨b1,b2,r3.symm,?_⟩
   rw [val,<-q]
   split<;>rfl
  ·trivial
 split
 ·rename_i _ _ hk
  have hp:ai n.kind=2:=by rw [hk];rfl
  obtain⟨r1,r2,r3⟩:=KK hk (t.res (by omega))
  obtain⟨a1,a2,a3,a4⟩:=f.part t (j:=0) (by omega) (by omega)
  simp only [az]at a1 a2 a3 a4
  split
  ·rename_i q
   obtain⟨x,hx,e1,e2⟩:=jK a1 a2
   rw [e1]at q⊢
   have tx:=fM f.ok hx
   have hxp:ai x.kind=3:=by rw [q.1];rfl
   have hxl:=get_lt hx
   obtain⟨s1,s2,s3,s4⟩:=Js q.1 (tx.res (by omega))
   have pa:=tx.part 0 (by omega) (by omega)
   have pb:=tx.part 1 (by omega) (by omega)
   have pc:=tx.part 2 (by omega) (by omega)
   simp only [az]at pa pb pc
   have fa:=f.fit x.a.toNat (by omega) (by omega)
   have fb:=f.fit x.b.toNat (by omega) (by omega)
   have fc:=f.fit x.c.toNat (by omega) (by omega)
   rw [gV pa.1]at fa
   rw [gV pb.1]at fb
   rw [gV pc.1]at fc
   refine⟨pc.1,by omega,?_,?_⟩
   ·rw [s3,r3,e2,s4]
   have vx:=f.val _ _ hx (by omega) (by omega)
   unfold bz at vx
   rw [if_neg (by omega),if_neg (by omega),if_neg (by omega),if_neg (by omega),if_pos q.1]at vx
   have val:bz fl n v= [(v.getD n.a.toNat []).getD (aK v n.b) 0]:=by
    unfold bz
    rw [if_neg (by omega),if_neg (by omega),if_neg (by omega),if_pos hk]
   have lb:aK v n.b<(v.getD x.a.toNat []).length:=by
    rw [fa.len,<-q.2]
    have:=fb.cell
    rwa [s2]at this
   have es:((v.getD x.a.toNat []).set (aK v n.b) (aK v x.c)).getD (aK v n.b) 0=aK v x.c:=by rw [List.getD_eq_getElem?_getD,List.getElem?_set_self lb];rfl
   rw [val,vx,q.2,es]
   exact(fc.word (by rw [s3];rfl)).1
  ·trivial
 split
 ·rename_i _ _ _ hk
  split
  ·rename_i q
   have hp:ai n.kind=1:=by rcases hk with e|e<;>rw [e]<;>rfl
   obtain⟨r1,r2⟩:=acx (by omega) (t.res (by omega))
   obtain⟨a1,a2,a3,a4⟩:=f.part t (j:=0) (by omega) (by omega)
   simp only [az]at a1 a2 a3 a4
   obtain⟨x,hx,e1,e2⟩:=jK a1 a2
   rw [e1]at q⊢
   have tx:=fM f.ok hx
   have hxl:=get_lt hx
   obtain⟨s1,s2⟩:=acx (n:=x) (by omega) (tx.res (by rw [q];omega))
   have pa:=tx.part 0 (by omega) (by rw [q];omega)
   simp only [az]at pa
   have fa:=f.fit x.a.toNat (by omega) (by omega)
   rw [gV pa.1]at fa
   have hsw:=AB s1 pa.2.2
   have hw:=bD.1 pa.2.2
   obtain⟨f1,f2⟩:=fa.word (by rw [hsw];rfl)
   rw [if_pos (by omega)]at s2 r2
   have hnw:(ar fl n.a).wid=(ar fl x.a).wid:=by rw [e2,s2];rfl
   refine⟨pa.1,by omega,by rw [r2,hnw];exact hsw,?_⟩
   have one: ∀y:NodeP,(y.kind=1\/y.kind=2)->bz fl y v= [(yH y.kind (ar fl y.a).wid.toNat (aK v y.a)).1]:=fun y hy=>by
    unfold bz
    rw [if_neg (by omega),if_neg (by omega),if_neg (by omega),if_neg (by omega),if_neg (by omega),if_neg (by omega),if_neg (by omega),if_neg (by omega),if_pos (by rcases hy with e|e<;>rw [e]<;>rfl)]
   have vx:=f.val _ _ hx (by omega) (by omega)
   rw [one x (by omega)]at vx
   have ca:aK v n.a=(yH x.kind (ar fl x.a).wid.toNat (aK v x.a)).1:=by unfold aK at vx⊢;rw [vx];rfl
   rw [one n hk,hnw,ca,q]
   have fl2:aK v x.a<2^(ar fl x.a).wid.toNat:=f2
   rw [show v.getD x.a.toNat []= [aK v x.a]from f1]
   generalize aK v x.a=y at*
   generalize hww:(ar fl x.a).wid.toNat=w at*
   rcases hk with e|e<;>rw [e]
   ·show [y]= [2^w-1-(2^w-1-y)]
    congr 1;omega
   ·show [y]= [fG w (-((fG w (-(y:Int)):Nat):Int))]
    congr 1
    have h1:((fG w (-((fG w (-(y:Int)):Nat):Int)):Nat):Int)=y:=by
     rw [yJ,yJ]
     rw [Int.emod_def (-(y:Int)),show-(-(y:Int)-((2^w:Nat):Int)*(-(y:Int)/((2^w:Nat):Int)))=(y:Int)+((2^w:Nat):Int)*(-(y:Int)/((2^w:Nat):Int)) by omega,Int.add_mul_emod_self_left]
     exact Int.emod_eq_of_lt (by omega) (by omega)
    omega
  ·trivial
 split
 ·rename_i _ _ _ _ hk
  split
  ·rename_i q
   have hp:ai n.kind=1:=by rw [hk];rfl
   obtain⟨r1,r2,r3⟩:=Ht hk (t.res (by omega))
   obtain⟨a1,a2,a3,a4⟩:=f.part t (j:=0) (by omega) (by omega)
   simp only [az]at a1 a2 a3 a4
   obtain⟨x,hx,e1,e2⟩:=jK a1 a2
   have hsw:=AB r1 a3
   have hw:=bD.1 a3
   obtain⟨f1,f2⟩:=a4.word (by rw [hsw];rfl)
   rw [e1,<-e2]at q
   have hnn:n.n-n.m+1=(ar fl n.a).wid:=by omega
   refine⟨a1,a2,by rw [r3,hnn];exact hsw,?_⟩
   have val:bz fl n v= [JT (aK v n.a) n.m.toNat (n.n-n.m+1).toNat]:=by
    unfold bz
    rw [if_neg (by omega),if_neg (by omega),if_neg (by omega),if_neg (by omega),if_neg (by omega),if_neg (by omega),if_pos hk]
   rw [val,hnn,q.1]
   show _= [aK v n.a/2^0%_]
   have fl2:aK v n.a<2^(ar fl n.a).wid.toNat:=f2
   rw [Nat.pow_zero,Nat.div_one,Nat.mod_eq_of_lt fl2]
   exact f1
  ·trivial
 split
 ·rename_i _ _ _ _ _ hk
  split
  ·rename_i q
   have hp:ai n.kind=1:=by rcases hk with e|e<;>rw [e]<;>rfl
   obtain⟨r1,r2,r3⟩:=Em hk (t.res (by omega))
   obtain⟨a1,a2,a3,a4⟩:=f.part t (j:=0) (by omega) (by omega)
   simp only [az]at a1 a2 a3 a4
   have hsw:=AB r1 a3
   have hw:=bD.1 a3
   obtain⟨f1,f2⟩:=a4.word (by rw [hsw];rfl)
   refine⟨a1,a2,by rw [r3,q,Int.add_zero];exact hsw,?_⟩
   have val:bz fl n v= [EW (ar fl n.a).wid.toNat (aK v n.a) n.n.toNat (decide (n.kind=32))]:=by
    unfold bz
    rw [if_neg (by omega),if_neg (by omega),if_neg (by omega),if_neg (by omega),if_neg (by omega),if_neg (by omega),if_neg (by omega),if_pos hk]
   have fl2:aK v n.a<2^(ar fl n.a).wid.toNat:=f2
   rw [val,q]
   unfold EW
   have:(if decide (n.kind=32)=true then fG ((ar fl n.a).wid.toNat+Int.toNat 0) (sgn (ar fl n.a).wid.toNat (aK v n.a))else aK v n.a)=aK v n.a:=by
    split
    ·show fG (_+0) _=_
     rw [Nat.add_zero,Sx (by omega) fl2]
    ·rfl
   rw [this];exact f1
  ·trivial
 split
 ·rename_i h;exact VH f t h
 ·trivial
end
theorem Ja {l:List NodeP} {n:NodeP} (hl:l.length<=60) (t:iJ l l.length n):dc l n=some n.sort:=by
 unfold dc
 rw [if_pos ⟨hl,t.fields⟩]
 by_cases h0:ai n.kind=0
 ·rw [if_pos h0]
  by_cases h34:n.kind=34
  ·obtain⟨c1,c2⟩:=t.const h34
   rw [if_pos h34,decide_eq_true c1,c2];rfl
  ·rw [if_neg h34,t.sort];rfl
 ·have hk:=t.kind
  rw [if_neg h0]
  have p0:=(t.part 0 (by omega) (by omega)).2.2
  have p1:(decide (ai n.kind<2)||bW (ar l n.b))=true:=by
   by_cases h:ai n.kind<2
   ·rw [decide_eq_true h];rfl
   ·have:=(t.part 1 (by omega) (by omega)).2.2
    simp only [az]at this
    rw [this,Bool.or_true]
  have p2:(decide (ai n.kind<3)||bW (ar l n.c))=true:=by
   by_cases h:ai n.kind<3
   ·rw [decide_eq_true h];rfl
   ·have:=(t.part 2 (by omega) (by omega)).2.2
    simp only [az]at this
    rw [this,Bool.or_true]
  simp only [az]at p0
  rw [p0,p1,p2]
  exact t.res (by omega)
theorem P6 {l:List NodeP} {n:NodeP} (h:bP l=true) (hl:l.length<=60) (t:iJ l l.length n):bP (l++ [n])=true:=by
 refine np.2 fun i x hx=>?_
 by_cases hi:i<l.length
 ·rw [List.getElem?_append_left hi]at hx
  rw [List.take_append_of_le_length (by omega)]
  exact np.1 h i x hx
 ·rw [List.getElem?_append_right (by omega)]at hx
  have h0:=get_lt hx
  simp at h0
  obtain rfl:i=l.length:=by omega
  rw [Nat.sub_self]at hx
  obtain rfl:n=x:=by simpa using hx
  rw [List.take_left]
  exact Ja hl t
theorem Dr {l:List NodeP} {r:List NodeP} {p:Int} (h:p.toNat<l.length):ar (l++r) p=ar l p:=by unfold ar;rw [List.getElem?_append_left h]
theorem Sp (l:List NodeP) (n:NodeP):ar (l++ [n]) ((l.length:Nat):Int)=n.sort:=by
 unfold ar
 rw [Int.toNat_natCast,List.getElem?_append_right (Nat.le_refl _),Nat.sub_self];rfl
theorem SE {l:List NodeP} (hok:bP l=true) (r:List NodeP) (s i:List (List Nat)): ∀k,k<=l.length->du (l++r) s i k=du l s i k:=by
 intro k
 induction k with
 |zero=>intro _;rfl
 |succ k ih=>
  intro hk
  obtain⟨n,hn⟩: ∃n,l[k]?=some n:=⟨_,List.getElem?_eq_getElem (by omega)⟩
  have hn':(l++r)[k]?=some n:=by rw [List.getElem?_append_left (by omega)];exact hn
  rw [jE hn,jE hn',ih (by omega),List.take_append_of_le_length (by omega)]
  congr 2
  split
  ·rfl
  split
  ·rfl
  ·rename_i h36 h35
   have t:=fM hok hn
   refine pg t.kind h35 h36 (fun j h1 h2=>(t.part j h1 h2).1) fun p hp=>⟨rfl,?_⟩
   have:=(dH hok k n hn).2 p hp
   exact Dr (by rw [Int.toNat_natCast];omega)
theorem WA {l:List NodeP} (hok:bP l=true) (s i:List (List Nat)) {k p:Nat} {n:NodeP} (hk:k<=l.length) (hp:p<k) (hn:l[p]?=some n):
  (du l s i k).getD p []=if n.kind=36 then s.getD (av (l.take p) 36).length []else if n.kind=35 then i.getD (av (l.take p) 35).length []else bz l n (du l s i k):=by
 have h1:(du l s i k).getD p []=(du l s i (p+1)).getD p []:=by
  have:=nJ l s i (k-(p+1)) (p+1) p (by omega)
  rwa [show p+1+(k-(p+1))=k by omega]at this
 rw [h1,jE hn]
 have h2: ∀x:List Nat,(du l s i p++ [x]).getD p []=x:=fun x=>by
  have:=Az (a:=du l s i p) (x:=x) (d:= [])
  rwa [dE]at this
 rw [h2]
 split
 ·rfl
 split
 ·rfl
 ·rename_i h36 h35
  have t:=fM hok hn
  refine pg t.kind h35 h36 (fun j h1 h2=>(t.part j h1 h2).1) fun q hq=>⟨?_,rfl⟩
  have hql:=(dH hok p n hn).2 q hq
  have:=nJ l s i (k-p) p q hql
  rw [show p+(k-p)=k by omega]at this
  exact this.symm
theorem OS {n n':NodeP} {a b c a' b' c':SortP} (hp:0<ai n.kind) (hk:n'.kind=n.kind) (hn:n'.n=n.n) (hm:n'.m=n.m) (ha:a'=a) (hb:1<ai n.kind->b'=b) (hc:2<ai n.kind->c'=c):
  di n' a' b' c'=di n a b c:=by
 subst ha
 unfold di
 rw [hk,hn,hm]
 have e1:ai n.kind=1-> ∀z:SortP,(0<a'.idx\/ai n.kind=2/\0<z.idx)=(0<a'.idx):=fun e z=>propext ⟨fun h=>by omega,fun h=> .inl h⟩
 rcases ju hp with ⟨h1,h2,h3⟩|⟨h1,h2,h3⟩|⟨h1,h2,h3⟩|⟨h1,h3⟩|⟨h1,h3⟩|⟨h1,h3⟩
 ·simp only [e1 h3,if_neg (show¬n.kind=33 by omega),if_neg (show¬n.kind=37 by omega),if_neg (show¬n.kind=38 by omega),if_neg (show¬n.kind=21 by omega),if_neg (show¬n.kind=29 by omega),if_neg (show¬n.kind=30 by omega),
   if_neg (show¬(n.kind=31\/n.kind=32) by omega),if_pos h2]
 ·rw [hb (by omega)]
  simp only [if_neg (show¬n.kind=33 by omega),if_neg (show¬n.kind=38 by omega)]
 ·simp only [e1 h3,if_neg (show¬n.kind=33 by omega),if_neg (show¬n.kind=37 by omega),if_neg (show¬n.kind=38 by omega),if_neg (show¬n.kind=21 by omega),if_neg (show¬n.kind=29 by omega)]
  by_cases q30:n.kind=30
  ·simp only [if_pos q30]
  ·simp only [if_neg q30,if_pos (show n.kind=31\/n.kind=32 by omega)]
 ·simp only [if_pos h1,hb (show 1<ai n.kind by omega),hc (show 2<ai n.kind by omega)]
 ·simp only [if_neg (show¬n.kind=33 by omega),if_pos h1,hb (show 1<ai n.kind by omega)]
 ·simp only [if_neg (show¬n.kind=33 by omega),if_neg (show¬n.kind=37 by omega),if_pos h1,hb (show 1<ai n.kind by omega),hc (show 2<ai n.kind by omega)]
theorem uN {f:Nat->Int} {n:NodeP} {j:Nat} (h1:j<3) (h2:(j:Int)<ai n.kind):az (cA f n) j=f (az n j).toNat:=by
 unfold az cA
 have:j=0\/j=1\/j=2:=by omega
 rcases this with rfl|rfl|rfl
 ·exact if_pos (by omega)
 ·exact if_pos (by omega)
 ·exact if_pos (by omega)
theorem m4 {len:Nat} {n:NodeP}:fR len n=true↔0<=ai n.kind/\(∀j:Nat,j<3->nV (ai n.kind) len j (az n j)=true)/\(if cX n.kind then gD n.name else decide (n.name.size=0))=true/\
  (decide (n.kind=30)||decide (n.m=0))=true/\(decide (n.kind=30\/n.kind=31\/n.kind=32\/n.kind=34)||decide (n.n=0))=true:=by
 unfold fR
 simp only [Bool.and_eq_true,decide_eq_true_eq]
 constructor
 ·rintro ⟨⟨⟨⟨h0,⟨ha,hb⟩,hc⟩,hn⟩,hm⟩,hx⟩
  refine⟨h0,fun j hj=>?_,hn,hm,hx⟩
  have:j=0\/j=1\/j=2:=by omega
  rcases this with rfl|rfl|rfl
  ·exact ha
  ·exact hb
  ·exact hc
 ·rintro ⟨h0,hp,hn,hm,hx⟩
  exact⟨⟨⟨⟨h0,⟨hp 0 (by omega),hp 1 (by omega)⟩,hp 2 (by omega)⟩,hn⟩,hm⟩,hx⟩
theorem Mf {k:Int} {len:Nat} {i p:Int} (h:i<k):nV k len i p=true↔0<=p/\p<=(len:Int)-1:=by unfold nV;rw [if_pos h,decide_eq_true_eq]
theorem Oq {k:Int} {len:Nat} {i p:Int} (h: ¬i<k):nV k len i p=true↔p=0:=by unfold nV;rw [if_neg h,decide_eq_true_eq]
theorem abY {l fl:List NodeP} {i:Nat} {n:NodeP} {f:Nat->Int} (t:iJ l i n) (hl:i<=l.length) (h: ∀j,j<i->0<=f j/\f j<fl.length/\ar fl (f j)=ar l (j:Int)):iJ fl fl.length (cA f n):=by
 have hpt: ∀j:Nat,j<3->(j:Int)<ai n.kind->0<=f (az n j).toNat/\f (az n j).toNat<fl.length/\ar fl (f (az n j).toNat)=ar l (az n j):=fun j h1 h2=>by
  obtain⟨a,b,_⟩:=t.part j h1 h2
  have:=h (az n j).toNat (by omega)
  rwa [gV a]at this
 refine⟨t.kind,?_,t.sort,t.const,fun j h1 h2=>?_,fun hp=>?_⟩
 ·obtain⟨e0,ep,en,em,ex⟩:=m4.1 t.fields
  refine m4.2 ⟨e0,fun j hj=>?_,en,em,ex⟩
  show nV (ai n.kind) _ _ _=true
  by_cases q:(j:Int)<ai n.kind
  ·rw [Mf q,uN hj q]
   have:=hpt j hj q
   omega
  ·have:=ep j hj
   rw [Oq q]at this⊢
   have hn:az (cA f n) j=az n j:=by
    unfold az cA
    have:j=0\/j=1\/j=2:=by omega
    rcases this with rfl|rfl|rfl
    ·exact if_neg (by omega)
    ·exact if_neg (by omega)
    ·exact if_neg (by omega)
   rw [hn];exact this
 ·have h2:(j:Int)<ai n.kind:=h2
  obtain⟨a,b,c⟩:=hpt j h1 h2
  rw [uN h1 h2,c]
  exact⟨a,b,(t.part j h1 h2).2.2⟩
 ·have hp:0<ai n.kind:=hp
  show di (cA f n) _ _ _=some n.sort
  rw [<-t.res hp]
  have e0:=hpt 0 (by omega) (by omega)
  have q0:=uN (f:=f) (n:=n) (j:=0) (by omega) (by omega)
  simp only [az]at e0 q0
  refine OS hp rfl rfl rfl (by rw [q0];exact e0.2.2) (fun h=>?_) (fun h=>?_)
  ·have e1:=hpt 1 (by omega) (by omega)
   have q1:=uN (f:=f) (n:=n) (j:=1) (by omega) (by omega)
   simp only [az]at e1 q1
   rw [q1];exact e1.2.2
  ·have e1:=hpt 2 (by omega) (by omega)
   have q1:=uN (f:=f) (n:=n) (j:=2) (by omega) (by omega)
   simp only [az]at e1 q1
   rw [q1];exact e1.2.2
theorem Uu {l fl:List NodeP} {i:Nat} {n:NodeP} {f:Nat->Int} {v w:List (List Nat)} (t:iJ l i n) (h35: ¬n.kind=35) (h36: ¬n.kind=36)
  (h: ∀j,j<i->0<=f j/\ar fl (f j)=ar l (j:Int)/\w.getD (f j).toNat []=v.getD j []):bz fl (cA f n) w=bz l n v:=by
 have e:cA f n=cA (fun p=>(((f p).toNat:Nat):Int)) n:=yG t.kind fun p hp=>by
  obtain⟨j,h1,h2,e⟩:=(fv t.kind).1 hp
  have:=t.part j h1 h2
  exact(gV (h p (by omega)).1).symm
 rw [e]
 refine uw t.kind h35 h36 fun p hp=>?_
 obtain⟨j,h1,h2,e⟩:=(fv t.kind).1 hp
 have:=t.part j h1 h2
 obtain⟨a,b,c⟩:=h p (by omega)
 exact⟨c,by rw [gV a];exact b⟩
def DH (kind:Int):Bool:=decide (kind=6\/kind=7\/kind=8\/kind=9\/kind=11\/kind=21\/kind=26\/kind=27\/kind=28)
def Hn (n:NodeP):NodeP:={n with a:=n.b,b:=n.a}
def tA (n:NodeP):NodeP:=if DH n.kind=true/\n.b<n.a then Hn n else n
theorem U4 {fl:List NodeP} {n:NodeP} (t:iJ fl fl.length n) (h:DH n.kind=true):iJ fl fl.length (Hn n)/\ ∀v,FOk fl v->bz fl (Hn n) v=bz fl n v:=by
 have hk:=of_decide_eq_true h
 have hp:=uQ (n:=n) (by omega)
 have pa:=t.part 0 (by omega) (by omega)
 have pb:=t.part 1 (by omega) (by omega)
 simp only [az]at pa pb
 have hs:ar fl n.a=ar fl n.b:=by
  by_cases q:n.kind=21
  ·exact(Pg q (t.res (by omega))).1
  ·exact(SN (by omega) (t.res (by omega))).2.1
 have t':iJ fl fl.length (Hn n):=by
  refine⟨t.kind,?_,t.sort,t.const,fun j h1 h2=>?_,fun _=>?_⟩
  ·obtain⟨e0,ep,en,em,ex⟩:=m4.1 t.fields
   refine m4.2 ⟨e0,fun j hj=>?_,en,em,ex⟩
   have:j=0\/j=1\/j=2:=by omega
   rcases this with rfl|rfl|rfl
   ·exact(Mf (by show _<ai n.kind;omega)).2 (by show 0<=n.b/\n.b<=_;omega)
   ·exact(Mf (by show _<ai n.kind;omega)).2 (by show 0<=n.a/\n.a<=_;omega)
   ·exact ep 2 (by omega)
  ·have h2:(j:Int)<ai n.kind:=h2
   have:j=0\/j=1:=by omega
   rcases this with rfl|rfl
   ·exact pb
   ·exact pa
  ·show di (Hn n) (ar fl n.b) (ar fl n.a) (ar fl n.c)=some n.sort
   rw [<-t.res (by omega)]
   exact OS (by omega) rfl rfl rfl hs.symm (fun _=>hs) fun _=>rfl
 refine⟨t',fun v f=>?_⟩
 by_cases q:n.kind=21
 ·have eq21: ∀x:NodeP,x.kind=21->bz fl x v= [if v.getD x.a.toNat []=v.getD x.b.toNat []then 1 else 0]:=fun x hx=>by
   unfold bz
   rw [if_neg (by omega),if_neg (by omega),if_pos hx]
  rw [eq21 n q,eq21 (Hn n) q]
  show [if v.getD n.b.toNat []=v.getD n.a.toNat []then 1 else 0]=_
  by_cases e:v.getD n.a.toNat []=v.getD n.b.toNat []
  ·rw [if_pos e,if_pos e.symm]
  ·rw [if_neg e,if_neg (fun x=>e x.symm)]
 ·rw [Qm (n:=n) (by omega),Qm (n:=Hn n) (by show 6<=n.kind/\n.kind<=28/\n.kind≠21;omega)]
  show [(qt n.kind (ar fl n.b).wid.toNat (aK v n.b) (aK v n.a)).1]=_
  rw [<-hs]
  by_cases q2:n.kind<=20
  ·rw [zo q2,zo q2,Ob (by omega)]
  ·rw [I4 q2,I4 q2]
   have:AD n.kind (ar fl n.a).wid.toNat (aK v n.b) (aK v n.a)=AD n.kind (ar fl n.a).wid.toNat (aK v n.a) (aK v n.b):=by
    have:n.kind=26\/n.kind=27\/n.kind=28:=by omega
    rcases this with e|e|e<;>rw [e]
    ·show decide (_<=aK v n.b+aK v n.a)=decide (_<=aK v n.a+aK v n.b)
     rw [Nat.add_comm]
    ·show (!decide (_<=sgn _ (aK v n.b)+sgn _ (aK v n.a)/\sgn _ (aK v n.b)+sgn _ (aK v n.a)<_))= !decide (_<=sgn _ (aK v n.a)+sgn _ (aK v n.b)/\sgn _ (aK v n.a)+sgn _ (aK v n.b)<_)
     rw [Int.add_comm]
    ·show decide (_<=aK v n.b*aK v n.a)=decide (_<=aK v n.a*aK v n.b)
     rw [Nat.mul_comm]
   rw [this]
theorem U9 {fl:List NodeP} {n:NodeP} (t:iJ fl fl.length n):iJ fl fl.length (tA n)/\(tA n).kind=n.kind/\(tA n).sort=n.sort/\(∀p,p∈dK (tA n)↔p∈dK n)/\ ∀v,FOk fl v->bz fl (tA n) v=bz fl n v:=by
 unfold tA
 split
 ·rename_i h
  obtain⟨t',hv⟩:=U4 t h.1
  refine⟨t',rfl,rfl,fun p=>?_,hv⟩
  have hk:=of_decide_eq_true h.1
  have hp:=uQ (n:=n) (by omega)
  unfold dK
  rw [show ai (Hn n).kind=2 from hp,hp]
  show p∈ [n.b.toNat,n.a.toNat]↔p∈ [n.a.toNat,n.b.toNat]
  simp only [List.mem_cons,List.not_mem_nil,or_false]
  exact or_comm
 ·exact⟨t,rfl,rfl,fun p=>Iff.rfl,fun _ _=>rfl⟩
def xJ (x y:NodeP):Bool:=
 (x.kind==y.kind)&&((x.a==y.a)&&((x.b==y.b)&&((x.c==y.c)&&((x.n==y.n)&&((x.m==y.m)&&((x.sort.idx==y.sort.idx)&&((x.sort.wid==y.sort.wid)&&(decide (x.name=y.name)))))))))
theorem U5 {x y:NodeP}:xJ x y=true↔x=y:=by
 unfold xJ
 simp only [Bool.and_eq_true,beq_iff_eq,decide_eq_true_eq]
 constructor
 ·rintro ⟨h1,h2,h3,h4,h5,h6,h7,h8,h9⟩
  obtain⟨_,_,_,_,_,_,⟨_,_⟩,_⟩:=x
  obtain⟨_,_,_,_,_,_,⟨_,_⟩,_⟩:=y
  simp only at*
  subst h1 h2 h3 h4 h5 h6 h7 h8 h9
  rfl
 ·rintro rfl;simp
def yk (fl:List NodeP) (n:NodeP):List NodeP×Nat:=match fl.findIdx? (fun x=>xJ x n)with
 |some i=>(fl,i)
 |none=>(fl++ [n],fl.length)
def Ek (w x:Int):NodeP:=⟨34,0,0,0,x,0,⟨0,w⟩,⟨#[]⟩⟩
def CI (fl:List NodeP) (n:NodeP):List NodeP×Nat:=match AE fl n with
 | .pl p=>(fl,p.toNat)
 | .co w x=>yk fl (Ek w x)
 | .no=>yk fl (tA n)
def jP (l:List NodeP):Nat->List NodeP×List Int
 |0=>([], [])
 |i+1=>((CI (jP l i).1 (cA (dv (jP l i).2) (eL l (i:Int)))).1,(jP l i).2++ [((CI (jP l i).1 (cA (dv (jP l i).2) (eL l (i:Int)))).2:Int)])
theorem kU {to:List Int} {x:Int} {j:Nat} (h:j<to.length):dv (to++ [x]) j=dv to j:=by unfold dv;exact ii h
theorem nc {to:List Int} {x:Int} {i:Nat} (h:to.length=i):dv (to++ [x]) i=x:=by subst h;exact Az
structure tR (l:List NodeP) (i:Nat) (fl:List NodeP) (to:List Int):Prop where
 tl:to.length=i
 le:fl.length<=i
 ok:bP fl=true
 rng: ∀j,j<i-> ∃p:Nat,dv to j=(p:Int)/\p<fl.length
 sur: ∀p,p<fl.length-> ∃j,j<i/\dv to j=(p:Int)
 srt: ∀j,j<i->ar fl (dv to j)=ar l (j:Int)
 plc: ∀kind:Int,cX kind=true->av fl kind=(av (l.take i) kind).map fun j=>(dv to j).toNat
 val: ∀s inp,kZ l 36 s->kZ l 35 inp-> ∀j,j<i->(du fl s inp fl.length).getD (dv to j).toNat []=(du l s inp i).getD j []
 md: ∀j,j<i->jz fl (dv to j).toNat=true->jz l j=true
 nam: ∀(p:Nat) (x:NodeP),fl[p]?=some x->cX x.kind=true-> ∃j,j<i/\l[j]?=some x/\dv to j=(p:Int)
theorem kD {k:Int}:cX k=true↔k=35\/k=36:=by unfold cX;rw [decide_eq_true_eq]
section
variable {l :List NodeP} {i:Nat} {fl:List NodeP} {to:List Int}
theorem tR.fok (F:tR l i fl to) (hok:bP l=true) (hi:i<=l.length) {s inp:List (List Nat)} (hs:kZ l 36 s) (hp:kZ l 35 inp):FOk fl (du fl s inp fl.length):=by
 refine⟨F.ok,dE ..,fun p h1 h2=>?_,fun p n hn h35 h36=>?_⟩
 ·obtain⟨j,hj,e⟩:=F.sur p h2
  have hv:=F.val s inp hs hp j hj
  have hsr:=F.srt j hj
  rw [e]at hv hsr
  rw [Int.toNat_natCast]at hv
  rw [hsr,hv]
  exact xZ hok hs hp i hi j hj (by omega)
 ·have:=WA F.ok s inp (Nat.le_refl _) (get_lt hn) hn
  rwa [if_neg h36,if_neg h35]at this
theorem tR.typed (F:tR l i fl to) (hok:bP l=true) {n:NodeP} (hn:l[i]?=some n):iJ fl fl.length (cA (dv to) n):=
 abY (fM hok hn) (Nat.le_of_lt (get_lt hn)) fun j hj=>by
  obtain⟨p,e,hp⟩:=F.rng j hj
  rw [e]
  exact⟨by omega,by omega,by rw [<-e];exact F.srt j hj⟩
theorem PG (hok:bP l=true) {n:NodeP} (hn:l[i]?=some n) (s inp:List (List Nat)):(du l s inp (i+1)).getD i []=if n.kind=36 then s.getD (av (l.take i) 36).length []else if n.kind=35 then inp.getD (av (l.take i) 35).length []else bz l n (du l s inp i):=by
 rw [jE hn]
 have:=Az (a:=du l s inp i) (x:=if n.kind=36 then s.getD (av (l.take i) 36).length []else if n.kind=35 then inp.getD (av (l.take i) 35).length []else bz l n (du l s inp i)) (d:= [])
 rwa [dE]at this
theorem tR.nodeVal (F:tR l i fl to) (hok:bP l=true) {n:NodeP} (hn:l[i]?=some n) (h35: ¬n.kind=35) (h36: ¬n.kind=36) {s inp:List (List Nat)} (hs:kZ l 36 s) (hp:kZ l 35 inp):
  bz fl (cA (dv to) n) (du fl s inp fl.length)=(du l s inp (i+1)).getD i []:=by
 rw [PG hok hn,if_neg h36,if_neg h35]
 refine Uu (fM hok hn) h35 h36 fun j hj=>?_
 obtain⟨p,e,_⟩:=F.rng j hj
 exact⟨by rw [e];omega,F.srt j hj,F.val s inp hs hp j hj⟩
theorem HE {n:NodeP} (hn:l[i]?=some n) {kind:Int} (hk: ¬n.kind=kind):av (l.take (i+1)) kind=av (l.take i) kind:=by
 rw [ja hn,if_neg hk,List.append_nil]
theorem N8 {n:NodeP} (hn:l[i]?=some n):ar l (i:Int)=n.sort:=by unfold ar;rw [Int.toNat_natCast,hn]
theorem Dj {to:List Int} {x:Int} (htl:to.length=i) (kind:Int):((av (l.take i) kind).map fun j=>(dv (to++ [x]) j).toNat)=(av (l.take i) kind).map fun j=>(dv to j).toNat:=by
 refine List.map_congr_left fun j hj=>?_
 have:=lc hj
 rw [List.length_take]at this
 rw [kU (by omega)]
theorem tR.old (F:tR l i fl to) (hok:bP l=true) {n:NodeP} (hn:l[i]?=some n) (h35: ¬n.kind=35) (h36: ¬n.kind=36) {p:Nat} (hp:p<fl.length) (hs:ar fl (p:Int)=n.sort)
  (hv: ∀s inp,kZ l 36 s->kZ l 35 inp->(du fl s inp fl.length).getD p []=bz fl (cA (dv to) n) (du fl s inp fl.length)) (hm:jz fl p=true->jz l i=true):tR l (i+1) fl (to++ [(p:Int)]):=by
 have hl:=get_lt hn
 have hnk: ∀kind:Int,cX kind=true-> ¬n.kind=kind:=fun kind hk e=>by rcases kD.1 hk with q|q<;>omega
 refine⟨by rw [List.length_append,F.tl];rfl,by have:=F.le;omega,F.ok,fun j hj=>?_,fun q hq=>?_,fun j hj=>?_,fun kind hk=>?_,fun s inp hs' hp' j hj=>?_,fun j hj=>?_,fun q x hx hnm=>?_⟩
 ·by_cases e:j=i
  ·rw [e,nc F.tl];exact⟨p,rfl,hp⟩
  ·rw [kU (by rw [F.tl];omega)];exact F.rng j (by omega)
 ·obtain⟨j,hj,e⟩:=F.sur q hq
  exact⟨j,by omega,by rw [kU (by rw [F.tl];omega)];exact e⟩
 ·by_cases e:j=i
  ·rw [e,nc F.tl,N8 hn];exact hs
  ·rw [kU (by rw [F.tl];omega)];exact F.srt j (by omega)
 ·rw [HE hn (hnk kind hk),Dj F.tl];exact F.plc kind hk
 ·by_cases e:j=i
  ·rw [e,nc F.tl,Int.toNat_natCast,hv s inp hs' hp',F.nodeVal hok hn h35 h36 hs' hp']
  ·rw [kU (by rw [F.tl];omega),nJ l s inp 1 i j (by omega)];exact F.val s inp hs' hp' j (by omega)
 ·by_cases e:j=i
  ·rw [e,nc F.tl,Int.toNat_natCast];exact hm
  ·rw [kU (by rw [F.tl];omega)];exact F.md j (by omega)
 ·obtain⟨j,hj,e1,e2⟩:=F.nam q x hx hnm
  exact⟨j,by omega,e1,by rw [kU (by rw [F.tl];omega)];exact e2⟩
theorem SO {x:NodeP} (hok:bP fl=true) {p:Nat} (hp:p<fl.length):jz (fl++ [x]) p=jz fl p:=by
 have e: ∀k,k<=fl.length->dQ (fl++ [x]) k=dQ fl k:=by
  intro k
  induction k with
  |zero=>intro _;rfl
  |succ k ih=>
   intro hk
   unfold dQ
   rw [ih (by omega),List.getElem?_append_left (by omega)]
 unfold jz
 rw [List.length_append]
 show (dQ (fl++ [x]) (fl.length+1)).getD p false=_
 rw [O8 (fl++ [x]) 1 fl.length p hp,e _ (Nat.le_refl _)]
theorem tR.new (F:tR l i fl to) (hok:bP l=true) (hl60:l.length<=60) {n x:NodeP} (hn:l[i]?=some n) (tx:iJ fl fl.length x) (hs:x.sort=n.sort)
  (hv: ¬cX x.kind=true->(¬n.kind=35/\ ¬n.kind=36)/\ ∀s inp,kZ l 36 s->kZ l 35 inp->bz fl x (du fl s inp fl.length)=bz fl (cA (dv to) n) (du fl s inp fl.length))
  (hnx:cX x.kind=true->x=n) (hm: ¬cX x.kind=true->(∃q∈dK x,jz fl q=true)->jz l i=true):tR l (i+1) (fl++ [x]) (to++ [((fl.length:Nat):Int)]):=by
 have hl:=get_lt hn
 have hle:=F.le
 have ok':=P6 F.ok (by omega) tx
 have hlen:(fl++ [x]).length=fl.length+1:=by rw [List.length_append];rfl
 have hx:(fl++ [x])[fl.length]?=some x:=by rw [List.getElem?_append_right (Nat.le_refl _),Nat.sub_self];rfl
 have hnk: ¬cX x.kind=true-> ∀kind:Int,cX kind=true-> ¬n.kind=kind:=fun hxk kind hk e=>by
  have:=(hv hxk).1
  rcases kD.1 hk with q|q<;>omega
 refine⟨by rw [List.length_append,F.tl];rfl,by rw [hlen];omega,ok',fun j hj=>?_,fun q hq=>?_,fun j hj=>?_,fun kind hk=>?_,fun s inp hs' hp' j hj=>?_,fun j hj=>?_,fun q y hy hnm=>?_⟩
 ·by_cases e:j=i
  ·rw [e,nc F.tl];exact⟨fl.length,rfl,by omega⟩
  ·rw [kU (by rw [F.tl];omega)]
   obtain⟨p,e1,e2⟩:=F.rng j (by omega)
   exact⟨p,e1,by omega⟩
 ·by_cases e:q=fl.length
  ·exact⟨i,by omega,by rw [nc F.tl,e]⟩
  ·obtain⟨j,hj,e⟩:=F.sur q (by omega)
   exact⟨j,by omega,by rw [kU (by rw [F.tl];omega)];exact e⟩
 ·by_cases e:j=i
  ·rw [e,nc F.tl,N8 hn,Sp];exact hs
  ·rw [kU (by rw [F.tl];omega)]
   obtain⟨p,e1,e2⟩:=F.rng j (by omega)
   rw [Dr (by rw [e1,Int.toNat_natCast];exact e2)]
   exact F.srt j (by omega)
 ·rw [wF]
  by_cases hxk:cX x.kind=true
  ·obtain rfl:=hnx hxk
   rw [ja hn,List.map_append,Dj F.tl,<-F.plc kind hk]
   congr 1
   split
   ·rw [List.map_cons,List.map_nil,nc F.tl,Int.toNat_natCast]
   ·rfl
  ·rw [if_neg (fun e=>hxk (by rw [e];exact hk)),List.append_nil,HE hn (hnk hxk kind hk),Dj F.tl];exact F.plc kind hk
 ·by_cases e:j=i
  ·rw [e,nc F.tl,Int.toNat_natCast,WA ok' s inp (Nat.le_refl _) (by omega) hx,List.take_left]
   have hplen: ∀kind:Int,cX kind=true->(av fl kind).length=(av (l.take i) kind).length:=fun kind hk=>by rw [F.plc kind hk,List.length_map]
   by_cases h36:x.kind=36
   ·obtain rfl:=hnx (kD.2 (.inr h36))
    rw [if_pos h36,PG hok hn,if_pos h36,hplen 36 rfl]
   by_cases h35:x.kind=35
   ·obtain rfl:=hnx (kD.2 (.inl h35))
    rw [if_neg h36,if_pos h35,PG hok hn,if_neg h36,if_pos h35,hplen 35 rfl]
   rw [if_neg h36,if_neg h35]
   have hxk: ¬cX x.kind=true:=fun q=>by rcases kD.1 q with q|q<;>contradiction
   obtain⟨⟨k35,k36⟩,hv⟩:=hv hxk
   rw [<-F.nodeVal hok hn k35 k36 hs' hp',<-hv s inp hs' hp']
   refine pg tx.kind h35 h36 (fun j h1 h2=>(tx.part j h1 h2).1) fun p hp=>?_
   obtain⟨j,h1,h2,e⟩:=(fv tx.kind).1 hp
   have hpl:=tx.part j h1 h2
   have hpl:p<fl.length:=by omega
   refine⟨?_,Dr (by rw [Int.toNat_natCast];exact hpl)⟩
   rw [hlen,nJ (fl++ [x]) s inp 1 fl.length p hpl,SE F.ok [x] s inp _ (Nat.le_refl _)]
  ·rw [kU (by rw [F.tl];omega),nJ l s inp 1 i j (by omega),<-F.val s inp hs' hp' j (by omega)]
   obtain⟨p,e1,e2⟩:=F.rng j (by omega)
   rw [e1,Int.toNat_natCast,hlen,nJ (fl++ [x]) s inp 1 fl.length p e2,SE F.ok [x] s inp _ (Nat.le_refl _)]
 ·by_cases e:j=i
  ·rw [e,nc F.tl,Int.toNat_natCast,vH (dH ok') hx]
   rintro (q|⟨q,hq,hqm⟩)
   ·obtain rfl:=hnx q
    exact(vH (dH hok) hn).2 (.inl q)
   ·by_cases hxk:cX x.kind=true
    ·obtain rfl:=hnx hxk
     exact(vH (dH hok) hn).2 (.inl hxk)
    ·refine hm hxk ⟨q,hq,?_⟩
     obtain⟨j',h1,h2,e⟩:=(fv tx.kind).1 hq
     have hpl:=tx.part j' h1 h2
     rwa [SO F.ok (by omega)]at hqm
  ·rw [kU (by rw [F.tl];omega)]
   obtain⟨p,e1,e2⟩:=F.rng j (by omega)
   have:=F.md j (by omega)
   rw [e1,Int.toNat_natCast]at this⊢
   rw [SO F.ok e2]
   exact this
 ·by_cases e:q=fl.length
  ·subst e
   rw [hx]at hy
   obtain rfl:=Option.some.inj hy
   exact⟨i,by omega,by rw [hnx hnm];exact hn,nc F.tl⟩
  ·have hq:q<fl.length:=by have:=get_lt hy;omega
   rw [List.getElem?_append_left hq]at hy
   obtain⟨j,hj,e1,e2⟩:=F.nam q y hy hnm
   exact⟨j,by omega,e1,by rw [kU (by rw [F.tl];omega)];exact e2⟩
theorem SU {fl:List NodeP} {n:NodeP} {p:Nat} (h:fl.findIdx? (fun x=>xJ x n)=some p):fl[p]?=some n:=by
 rw [List.findIdx?_eq_some_iff_getElem]at h
 obtain⟨hp,he,_⟩:=h
 rw [List.getElem?_eq_getElem hp,U5.1 he]
theorem tR.put (F:tR l i fl to) (hok:bP l=true) (hl60:l.length<=60) (hnm:fJ l=false) {n x:NodeP} (hn:l[i]?=some n) (tx:iJ fl fl.length x) (hs:x.sort=n.sort)
  (hv: ¬cX x.kind=true->(¬n.kind=35/\ ¬n.kind=36)/\ ∀s inp,kZ l 36 s->kZ l 35 inp->bz fl x (du fl s inp fl.length)=bz fl (cA (dv to) n) (du fl s inp fl.length))
  (hnx:cX x.kind=true->x=n) (hm: ¬cX x.kind=true->(∃q∈dK x,jz fl q=true)->jz l i=true):tR l (i+1) (yk fl x).1 (to++ [((yk fl x).2:Int)]):=by
 unfold yk
 cases h:fl.findIdx? (fun y=>xJ y x)with
 |none=>exact F.new hok hl60 hn tx hs hv hnx hm
 |some p=>
  have hp:=SU h
  have hpl:=get_lt hp
  by_cases hxk:cX x.kind=true
  ·exfalso
   obtain rfl:=hnx hxk
   obtain⟨j,hj,e1,_⟩:=F.nam p x hp hxk
   have hnz:x.name.size≠0:=by
    have:=(m4.1 (fM hok hn).fields).2.2.1
    rw [if_pos hxk]at this
    unfold gD at this
    have:=of_decide_eq_true (Bool.and_eq_true_iff.1 this).1
    omega
   unfold fJ at hnm
   rw [List.any_eq_false]at hnm
   have:=hnm i (List.mem_range.2 (get_lt hn))
   rw [hn]at this
   refine this ?_
   show (decide (x.name.size≠0)&&(l.take i).any fun y=>decide (y.name=x.name))=true
   rw [decide_eq_true hnz,Bool.true_and,List.any_eq_true]
   refine⟨x,List.mem_of_getElem? (i:=j) ?_,by simp⟩
   rw [List.getElem?_take_of_lt hj];exact e1
  ·obtain⟨⟨k35,k36⟩,hv⟩:=hv hxk
   have h35: ¬x.kind=35:=fun e=>hxk (kD.2 (.inl e))
   have h36: ¬x.kind=36:=fun e=>hxk (kD.2 (.inr e))
   refine F.old hok hn k35 k36 hpl ?_ (fun s inp hs' hp'=>?_) fun hmd=>?_
   ·unfold ar
    rw [Int.toNat_natCast,hp];exact hs
   ·rw [<-hv s inp hs' hp']
    exact(F.fok hok (Nat.le_of_lt (get_lt hn)) hs' hp').val p x hp h35 h36
   ·rcases (vH (dH F.ok) hp).1 hmd with q|q
    ·exact absurd q hxk
    ·exact hm hxk q
theorem Z2 {w x:Int} (hw:1<=w/\w<=16) (hx:0<=x/\x<((2^w.toNat:Nat):Int)):iJ fl fl.length (Ek w x):=by
 have hp:ai (Ek w x).kind=0:=rfl
 refine⟨by rw [hp];omega,m4.2 ⟨by rw [hp];omega,fun j hj=>?_,rfl,rfl,rfl⟩,bD.2 ⟨⟨by show (0:Int)<=0;omega,by show (0:Int)<=2;omega⟩,hw⟩,fun _=>⟨rfl,ib.2 ⟨hw,hx.1,hx.2⟩⟩,fun j h1 h2=>by rw [hp]at h2;omega,fun h=>by rw [hp]at h;omega⟩
 rw [hp,Oq (by omega)]
 have:j=0\/j=1\/j=2:=by omega
 rcases this with rfl|rfl|rfl<;>rfl
theorem adi {x:NodeP} {p:Int} (hok:bP fl=true) {q:Nat} (hx:fl[q]?=some x) {j:Nat} (h1:j<3) (h2:(j:Int)<ai x.kind) (h:jz fl (az x j).toNat=true):jz fl q=true:=
 (vH (dH hok) hx).2 (.inr ⟨_,tj (fM hok hx).kind h1 h2,h⟩)
theorem XP (hok:bP fl=true) {n:NodeP} (t:iJ fl fl.length n) {p:Int} (h:AE fl n= .pl p) (hm:jz fl p.toNat=true): ∃q∈dK n,jz fl q=true:=by
 have hpt: ∀j:Nat,j<3->(j:Int)<ai n.kind->p=az n j-> ∃q∈dK n,jz fl q=true:=fun j h1 h2 e=>⟨_,tj t.kind h1 h2,by rw [<-e];exact hm⟩
 unfold AE at h
 split at h
 ·cases h
 split at h
 ·rename_i _ hk
  have hp:ai n.kind=3:=by rw [hk];rfl
  split at h
  ·cases h;exact hpt 1 (by omega) (by omega) rfl
  split at h
  ·cases h;exact hpt 2 (by omega) (by omega) rfl
  split at h
  ·cases h;exact hpt 1 (by omega) (by omega) rfl
  ·cases h
 split at h
 ·rename_i _ _ hk
  have hp:ai n.kind=2:=by rw [hk];rfl
  split at h
  ·rename_i q
   cases h
   have pa:=t.part 0 (by omega) (by omega)
   simp only [az]at pa
   obtain⟨x,hx,e1,e2⟩:=jK pa.1 pa.2.1
   rw [e1]at q hm
   have hxp:ai x.kind=3:=by rw [q.1];rfl
   exact⟨_,tj (j:=0) t.kind (by omega) (by omega),adi (p:=0) hok hx (j:=2) (by omega) (by omega) hm⟩
  ·cases h
 split at h
 ·rename_i _ _ _ hk
  have hp:ai n.kind=1:=by rcases hk with e|e<;>rw [e]<;>rfl
  split at h
  ·rename_i q
   cases h
   have pa:=t.part 0 (by omega) (by omega)
   simp only [az]at pa
   obtain⟨x,hx,e1,e2⟩:=jK pa.1 pa.2.1
   rw [e1]at q hm
   exact⟨_,tj (j:=0) t.kind (by omega) (by omega),adi (p:=0) hok hx (j:=0) (by omega) (by rw [q];omega) hm⟩
  ·cases h
 split at h
 ·rename_i _ _ _ _ hk
  have hp:ai n.kind=1:=by rw [hk];rfl
  split at h
  ·cases h;exact hpt 0 (by omega) (by omega) rfl
  ·cases h
 split at h
 ·rename_i _ _ _ _ _ hk
  have hp:ai n.kind=1:=by rcases hk with e|e<;>rw [e]<;>rfl
  split at h
  ·cases h;exact hpt 0 (by omega) (by omega) rfl
  ·cases h
 split at h
 ·rename_i hk
  have hp:=uQ hk
  have fa:p=n.a-> ∃q∈dK n,jz fl q=true:=hpt 0 (by omega) (by omega)
  have fb:p=n.b-> ∃q∈dK n,jz fl q=true:=hpt 1 (by omega) (by omega)
  have hby: ∀c o,byP fl n.kind c o= .pl p->p=c\/p=o:=fun c o hb=>by
   unfold byP at hb
   split at hb
   ·cases hb
   split at hb
   ·cases hb;exact .inl rfl
   split at hb
   ·cases hb;exact .inr rfl
   ·cases hb
  have hor: ∀{a b:Rl},a.or b= .pl p->a= .pl p\/b= .pl p:=fun {a b} hb=>by
   cases a
   ·exact .inr hb
   ·exact .inl hb
   ·exact .inl hb
  unfold PA at h
  rcases hor h with h|h
  ·split at h
   ·unfold D5 at h
    split at h
    ·cases h;exact fa rfl
    split at h
    ·cases h
    split at h
    ·cases h
    split at h
    ·cases h
    ·cases h
   ·cases h
  rcases hor h with h|h
  ·rcases hby _ _ h with q|q
   ·exact fa q
   ·exact fb q
  rcases hor h with h|h
  ·rcases hby _ _ h with q|q
   ·exact fb q
   ·exact fa q
  ·unfold GE at h
   split at h
   ·cases h;exact fa rfl
   ·cases h
 ·cases h
theorem ZM {n:NodeP} (h:n.kind=34\/n.kind=35\/n.kind=36):AE fl n= .no:=by
 have hp:ai n.kind=0:=by rcases h with e|e|e<;>rw [e]<;>rfl
 unfold AE
 rw [if_neg ?_,if_neg (by omega),if_neg (by omega),if_neg (by omega),if_neg (by omega),if_neg (by omega),if_neg (by omega)]
 unfold Nj
 rw [hp]
 intro q
 cases q
theorem tR.lay (F:tR l i fl to) (hok:bP l=true) (hl60:l.length<=60) (hnm:fJ l=false) {n:NodeP} (hn:l[i]?=some n):
  tR l (i+1) (CI fl (cA (dv to) n)).1 (to++ [((CI fl (cA (dv to) n)).2:Int)]):=by
 have hl:=get_lt hn
 have t:=F.typed hok hn
 have tn:=fM hok hn
 have hkind:(cA (dv to) n).kind=n.kind:=rfl
 have hzs: ∀ps,jQ l ps (ct l ps):=fun ps=>ew l ps
 have z36:kZ l 36 (ct l (av l 36)):=pE hok (hzs _)
 have z35:kZ l 35 (ct l (av l 35)):=pE hok (hzs _)
 have hmd:(∃q∈dK (cA (dv to) n),jz fl q=true)->jz l i=true:=by
  rintro ⟨q,hq,hqm⟩
  obtain⟨j,h1,h2,e⟩:=(fv t.kind).1 hq
  have h2:(j:Int)<ai n.kind:=h2
  rw [uN h1 h2]at e
  have:=tn.part j h1 h2
  have:=F.md (az n j).toNat (by omega) (by rw [<-e];exact hqm)
  exact(vH (dH hok) hn).2 (.inr ⟨_,tj tn.kind h1 h2,this⟩)
 by_cases hnk:n.kind=34\/n.kind=35\/n.kind=36
 ·unfold CI
  rw [ZM (n:=cA (dv to) n) hnk]
  have hp0:ai n.kind=0:=by rcases hnk with e|e|e<;>rw [e]<;>rfl
  have e1:cA (dv to) n=n:=by
   unfold cA
   cases n
   dsimp only at hp0⊢
   rw [hp0];rfl
  have e2:tA n=n:=by
   unfold tA
   rw [if_neg]
   rintro ⟨h,_⟩
   have:=of_decide_eq_true h
   omega
  show tR l (i+1) (yk fl (tA (cA (dv to) n))).1 (to++ [((yk fl (tA (cA (dv to) n))).2:Int)])
  rw [e1,e2]
  rw [e1]at t
  refine F.put hok hl60 hnm hn t rfl (fun hx=>⟨⟨fun e=>hx (kD.2 (.inl e)),fun e=>hx (kD.2 (.inr e))⟩,fun s inp _ _=>by rw [e1]⟩) (fun _=>rfl) fun hx hq=>?_
  rw [e1]at hmd
  exact hmd hq
 have k35: ¬n.kind=35:=fun e=>hnk (.inr (.inl e))
 have k36: ¬n.kind=36:=fun e=>hnk (.inr (.inr e))
 have hr0:=zD (F.fok hok (Nat.le_of_lt hl) z36 z35) t
 unfold CI
 cases hr:AE fl (cA (dv to) n)with
 |no=>
  obtain⟨t1,t2,t3,t4,t5⟩:=U9 t
  show tR l (i+1) (yk fl (tA (cA (dv to) n))).1 (to++ [((yk fl (tA (cA (dv to) n))).2:Int)])
  refine F.put hok hl60 hnm hn t1 t3 (fun hx=>⟨⟨k35,k36⟩,fun s inp hs' hp'=>t5 _ (F.fok hok (Nat.le_of_lt hl) hs' hp')⟩) (fun hx=>?_) fun hx hq=>?_
  ·exfalso
   rw [t2]at hx
   rcases kD.1 hx with e|e
   ·exact k35 e
   ·exact k36 e
  ·obtain⟨q,h1,h2⟩:=hq
   exact hmd ⟨q,(t4 q).1 h1,h2⟩
 |pl p=>
  rw [hr]at hr0
  obtain⟨p1,p2,p3,_⟩:=hr0
  show tR l (i+1) fl (to++ [((p.toNat:Nat):Int)])
  refine F.old hok hn k35 k36 (by omega) (by rw [gV p1];exact p3) (fun s inp hs' hp'=>?_) fun hm=>hmd (XP F.ok t hr hm)
  have:=zD (F.fok hok (Nat.le_of_lt hl) hs' hp') t
  rw [hr]at this
  exact this.2.2.2
 |co w x=>
  rw [hr]at hr0
  obtain⟨p1,p2,p3,_⟩:=hr0
  show tR l (i+1) (yk fl (Ek w x)).1 (to++ [((yk fl (Ek w x)).2:Int)])
  refine F.put hok hl60 hnm hn (Z2 p2 p3) p1.symm (fun _=>⟨⟨k35,k36⟩,fun s inp hs' hp'=>?_⟩) (fun hx=>?_) fun _ hq=>?_
  ·have:=zD (F.fok hok (Nat.le_of_lt hl) hs' hp') t
   rw [hr]at this
   rw [this.2.2.2];rfl
  ·rcases kD.1 hx with e|e
   ·exact absurd (show (34:Int)=35 from e) (by decide)
   ·exact absurd (show (34:Int)=36 from e) (by decide)
  ·obtain⟨q,h1,_⟩:=hq
   exact absurd h1 (by show¬q∈dK (Ek w x);unfold dK;rw [show ai (Ek w x).kind=0 from rfl];exact List.not_mem_nil)
end
theorem Sz {l:List NodeP} (hok:bP l=true) (hl60:l.length<=60) (hnm:fJ l=false): ∀i,i<=l.length->tR l i (jP l i).1 (jP l i).2:=by
 intro i
 induction i with
 |zero=>
  intro _
  refine⟨rfl,Nat.le_refl _,rfl,fun j hj=>by omega,fun p hp=>by simp [jP]at hp,fun j hj=>by omega,fun kind _=>rfl,fun s inp _ _ j hj=>by omega,fun j hj=>by omega,fun p x hx=>by simp [jP]at hx⟩
 |succ i ih=>
  intro hi
  obtain⟨n,hn⟩: ∃n,l[i]?=some n:=⟨_,List.getElem?_eq_getElem (by omega)⟩
  have:=(ih (by omega)).lay hok hl60 hnm hn
  show tR l (i+1) (CI (jP l i).1 (cA (dv (jP l i).2) (eL l (i:Int)))).1 ((jP l i).2++ [((CI (jP l i).1 (cA (dv (jP l i).2) (eL l (i:Int)))).2:Int)])
  rw [show eL l (i:Int)=n from Jp (by rw [Int.toNat_natCast];exact hn)]
  exact this
def gv (m:ah):List Int:=(jP m.nodes m.nodes.length).2
def dm (m:ah):List NodeP:=(jP m.nodes m.nodes.length).1
def iH (m:ah):ah:=mvM (gv m) (dm m) m
def Ld (m:ah):ah:=if aG m=0 then iH m else⟨[], [], [], [], []⟩
def toN (m:ah) (j:Nat):Nat:=(dv (gv m) j).toNat
theorem wE {m:ah} (g:cr m):tR m.nodes m.nodes.length (dm m) (gv m):=Sz g.ok g.nl (j8 g.twice).1 _ (Nat.le_refl _)
theorem Um {α:Type} [DecidableEq α] {l:List α}:gQ l=false↔ ∀(i:Nat) (x:α),l[i]?=some x-> ∀y∈l.take i,y≠x:=by
 unfold gQ
 rw [List.any_eq_false]
 constructor
 ·intro h i x hx y hy e
  have:=h i (List.mem_range.2 (get_lt hx))
  rw [hx]at this
  exact this (List.any_eq_true.2 ⟨y,hy,decide_eq_true e⟩)
 ·intro h i hi
  cases hx:l[i]? with
  |none=>simp
  |some x=>
   intro hc
   obtain⟨y,hy,e⟩:=List.any_eq_true.1 hc
   exact h i x hx y hy (of_decide_eq_true e)
theorem Xm {α β:Type} [DecidableEq α] [DecidableEq β] {l:List α} {f:α->β} (h:gQ l=false) (inj: ∀x∈l,∀y∈l,f x=f y->x=y):gQ (l.map f)=false:=by
 rw [Um]at h⊢
 intro i z hz y hy e
 rw [List.getElem?_map]at hz
 rw [<-List.map_take]at hy
 obtain⟨w,hw,rfl⟩:=List.mem_map.1 hy
 cases hx:l[i]? with
 |none=>rw [hx]at hz;cases hz
 |some x=>
  rw [hx]at hz
  obtain rfl:=Option.some.inj hz
  exact h i x hx w hw (inj w (List.mem_of_mem_take hw) x (List.mem_of_getElem? hx) e)
theorem abl {l:List NodeP} (h:fJ l=false) {j k:Nat} {x y:NodeP} (hx:l[j]?=some x) (hy:l[k]?=some y) (e:x.name=y.name) (hz:x.name.size≠0):j=k:=by
 have key: ∀{a b:Nat} {u w:NodeP},l[a]?=some u->l[b]?=some w->u.name=w.name->w.name.size≠0-> ¬a<b:=fun {a b u w} hu hw e hz hab=>by
  unfold fJ at h
  rw [List.any_eq_false]at h
  have:=h b (List.mem_range.2 (get_lt hw))
  rw [hw]at this
  refine this ?_
  show (decide (w.name.size≠0)&&(l.take b).any fun y=>decide (y.name=w.name))=true
  rw [decide_eq_true hz,Bool.true_and,List.any_eq_true]
  exact⟨u,List.mem_of_getElem? (i:=a) (by rw [List.getElem?_take_of_lt hab];exact hu),decide_eq_true e⟩
 rcases Nat.lt_trichotomy j k with q|q|q
 ·exact absurd q (key hx hy e (by rw [<-e];exact hz))
 ·exact q
 ·exact absurd q (key hy hx e.symm hz)
section
variable {m :ah}
theorem ac4 (g:cr m):(gv m).length=m.nodes.length:=(wE g).tl
theorem aaP (g:cr m) {j:Nat} (hj:j<m.nodes.length):dv (gv m) j=(toN m j:Int)/\toN m j<(dm m).length:=by
 obtain⟨p,e,hp⟩:=(wE g).rng j hj
 unfold toN
 rw [e,Int.toNat_natCast]
 exact⟨rfl,hp⟩
theorem O6 (g:cr m) {j:Nat} (hj:j<m.nodes.length):ar (dm m) (toN m j:Int)=ar m.nodes (j:Int):=by
 rw [<-(aaP g hj).1];exact(wE g).srt j hj
theorem rM (g:cr m) {j:Nat} (hj:j<m.nodes.length):aE (dm m) (toN m j)=aE m.nodes j/\bL (dm m) (toN m j)=bL m.nodes j:=by
 unfold aE bL
 rw [O6 g hj];exact⟨rfl,rfl⟩
theorem qh (g:cr m) {kind:Int} (hk:cX kind=true):av (dm m) kind=(av m.nodes kind).map (toN m):=by
 have:=(wE g).plc kind hk
 rw [List.take_length]at this
 exact this
theorem Sa (g:cr m) {kind:Int} (hk:cX kind=true) {j k:Nat} (hj:j∈av m.nodes kind) (hk':k∈av m.nodes kind) (e:toN m j=toN m k):j=k:=by
 have nd:=xU (dm m) kind
 rw [qh g hk]at nd
 obtain⟨a,ha⟩:=List.getElem?_of_mem hj
 obtain⟨b,hb⟩:=List.getElem?_of_mem hk'
 have h1:((av m.nodes kind).map (toN m))[a]?=some (toN m j):=by rw [List.getElem?_map,ha];rfl
 have h2:((av m.nodes kind).map (toN m))[b]?=some (toN m j):=by rw [List.getElem?_map,hb,e];rfl
 have:=Fz nd h1 h2
 subst this
 rw [ha]at hb
 exact Option.some.inj hb
theorem Zx (g:cr m) {ps:List Nat} (h: ∀p∈ps,p<m.nodes.length):cH (dm m) (ps.map (toN m))=cH m.nodes ps:=by
 unfold cH
 rw [List.map_map]
 congr 1
 exact List.map_congr_left fun p hp=>by
  show bL _ (toN m p)*aE _ (toN m p)=_
  rw [(rM g (h p hp)).1,(rM g (h p hp)).2]
theorem B2 (g:cr m) {kind:Int} (hk:cX kind=true):ak (dm m) kind=ak m.nodes kind:=by
 rw [<-xa _ (wE g).ok kind,<-xa _ g.ok kind,qh g hk,Zx g (bV g kind)]
theorem jH (g:cr m) {p:Int} (h:cU m.nodes p=true):cU (dm m) (dv (gv m) p.toNat)=true/\ar (dm m) (dv (gv m) p.toNat)=ar m.nodes p/\p.toNat<m.nodes.length/\dv (gv m) p.toNat=(toN m p.toNat:Int):=by
 have hp:=et.1 h
 have hl:p.toNat<m.nodes.length:=by omega
 have q:=aaP g hl
 have s:=O6 g hl
 rw [gV hp.1]at s
 rw [q.1]
 exact⟨et.2 ⟨by omega,by omega⟩,s,hl,rfl⟩
theorem BO {l:List NodeP} {s:Int} (h:cU l s=true) (hk:gz l s=36):s.toNat∈av l 36/\s=(s.toNat:Int):=by
 obtain⟨p,e,hp⟩:=JW h hk
 rw [e,Int.toNat_natCast];exact⟨hp,rfl⟩
theorem Oe (g:cr m) {s:Int} (h:cU m.nodes s=true) (hk:gz m.nodes s=36):gz (dm m) (dv (gv m) s.toNat)=36:=by
 obtain⟨h1,_⟩:=BO h hk
 have h2:toN m s.toNat∈av (dm m) 36:=by rw [qh g rfl];exact List.mem_map_of_mem h1
 obtain⟨n,hn,e⟩:=DS h2
 rw [(jH g h).2.2.2]
 unfold gz
 rw [Int.toNat_natCast,hn];exact e
theorem OX (g:cr m) {l:List BindP} (h: ∀b∈l,cU m.nodes b.state=true/\gz m.nodes b.state=36) (ag:gQ (l.map (·.state))=false):gQ ((l.map (mvB (gv m))).map (·.state))=false:=by
 have e:(l.map (mvB (gv m))).map (·.state)=(l.map (·.state)).map fun s=>dv (gv m) s.toNat:=by rw [List.map_map,List.map_map];rfl
 rw [e]
 refine Xm ag fun x hx y hy exy=>?_
 obtain⟨b,hb,rfl⟩:=List.mem_map.1 hx
 obtain⟨c,hc,rfl⟩:=List.mem_map.1 hy
 obtain⟨b1,b2⟩:=h b hb
 obtain⟨c1,c2⟩:=h c hc
 obtain⟨p1,p2⟩:=BO b1 b2
 obtain⟨q1,q2⟩:=BO c1 c2
 have ee:((toN m b.state.toNat:Nat):Int)=(toN m c.state.toNat:Nat):=by rw [<-(jH g b1).2.2.2,<-(jH g c1).2.2.2];exact exy
 have:=Sa g rfl p1 q1 (by omega)
 omega
theorem GM (g:cr m):cr (iH m):=by
 have F:=wE g
 obtain⟨t1,t2,t3⟩:=j8 g.twice
 have hi: ∀b∈m.inits,cU m.nodes b.state=true/\gz m.nodes b.state=36:=fun b hb=>⟨(eU (g.ini b hb)).1,(eU (g.ini b hb)).2.2.1⟩
 have hx: ∀b∈m.nexts,cU m.nodes b.state=true/\gz m.nodes b.state=36:=fun b hb=>⟨(dn (g.nex b hb)).1,(dn (g.nex b hb)).2.2.1⟩
 have hprop: ∀p,da m.nodes p=true->da (dm m) (mvI (gv m) p)=true:=fun p hp=>by
  unfold da at hp⊢
  obtain⟨a,b⟩:=Bool.and_eq_true_iff.1 hp
  obtain⟨q1,q2,_⟩:=jH g a
  unfold mvI
  rw [q1,q2];exact b
 refine⟨by show (dm m).length<=60;have:=F.le;have:=g.nl;omega,by show (m.inits.map _).length<=_;rw [List.length_map];exact g.il,by show (m.nexts.map _).length<=_;rw [List.length_map];exact g.xl,
  by show (m.bads.map _).length<=_;rw [List.length_map];exact g.bl,by show (m.holds.map _).length<=_;rw [List.length_map];exact g.hl,F.ok,?_,fun b hb=>?_,fun b hb=>?_,fun p hp=>?_,fun p hp=>?_,?_,?_⟩
 ·unfold vC
  have n1:fJ (dm m)=false:=by
   unfold fJ
   rw [List.any_eq_false]
   intro p hp
   cases hx:(dm m)[p]? with
   |none=>simp
   |some x=>
    intro hc
    obtain⟨hc1,hc2⟩:=Bool.and_eq_true_iff.1 hc
    have hz:=of_decide_eq_true hc1
    obtain⟨y,hy,e⟩:=List.any_eq_true.1 hc2
    have e:=of_decide_eq_true e
    obtain⟨q,hq⟩:=List.getElem?_of_mem hy
    have hqp:q<p:=by have:=get_lt hq;rw [List.length_take]at this;omega
    rw [List.getElem?_take_of_lt hqp]at hq
    have nm: ∀{r:Nat} {z:NodeP},(dm m)[r]?=some z->z.name.size≠0->cX z.kind=true:=fun {r z} hz hs=>by
     have:=(m4.1 (fM F.ok hz).fields).2.2.1
     cases hk:cX z.kind
     ·rw [hk]at this
      exact absurd (of_decide_eq_true this) hs
     ·rfl
    obtain⟨j,_,j1,j2⟩:=F.nam p x hx (nm hx hz)
    obtain⟨k,_,k1,k2⟩:=F.nam q y hq (nm hq (by rw [e];exact hz))
    have:=abl t1 j1 k1 e.symm hz
    subst this
    rw [j2]at k2
    omega
  show (fJ (dm m)||(gQ ((m.inits.map (mvB (gv m))).map (·.state))||gQ ((m.nexts.map (mvB (gv m))).map (·.state))))=false
  rw [n1,OX g hi t2,OX g hx t3];rfl
 ·obtain⟨c,hc,rfl⟩:=List.mem_map.1 hb
  obtain⟨i1,i2,i3,i4,i5⟩:=eU (g.ini c hc)
  obtain⟨a1,a2,a3,a4⟩:=jH g i1
  obtain⟨b1,b2,b3,b4⟩:=jH g i2
  show jo (dm m) ⟨dv (gv m) c.state.toNat,dv (gv m) c.node.toNat⟩=true
  unfold jo
  dsimp only
  rw [a1,b1,decide_eq_true (Oe g i1 i3),a2,b2]
  have hmd:(dQ (dm m) (dm m).length).getD (dv (gv m) c.node.toNat).toNat false=false:=by
   show jz (dm m) _=false
   cases hh:jz (dm m) (dv (gv m) c.node.toNat).toNat
   ·rfl
   ·have:=F.md _ b3 hh
    rw [show jz m.nodes c.node.toNat=false from i5]at this
    cases this
  rw [hmd]
  rcases i4 with q|q
  ·rw [decide_eq_true q];rfl
  ·rw [decide_eq_true q,Bool.or_true];rfl
 ·obtain⟨c,hc,rfl⟩:=List.mem_map.1 hb
  obtain⟨i1,i2,i3,i4⟩:=dn (g.nex c hc)
  obtain⟨a1,a2,a3,a4⟩:=jH g i1
  obtain⟨b1,b2,b3,b4⟩:=jH g i2
  show gk (dm m) ⟨dv (gv m) c.state.toNat,dv (gv m) c.node.toNat⟩=true
  unfold gk
  dsimp only
  rw [a1,b1,decide_eq_true (Oe g i1 i3),a2,b2,decide_eq_true i4];rfl
 ·obtain⟨q,hq,rfl⟩:=List.mem_map.1 hp
  exact hprop q (g.bad q hq)
 ·obtain⟨q,hq,rfl⟩:=List.mem_map.1 hp
  exact hprop q (g.hol q hq)
 ·show ak (dm m) 36<=8
  rw [B2 g rfl];exact g.n8
 ·show ak (dm m) 35<=5
  rw [B2 g rfl];exact g.k5
theorem abo (g:cr m) {ps:List Nat} (h: ∀p∈ps,p<m.nodes.length) (c:Nat):tT (dm m) (ps.map (toN m)) c=tT m.nodes ps c:=by
 induction ps generalizing c with
 |nil=>rfl
 |cons p ps ih=>
  have hp:=h p (.head _)
  rw [List.map_cons]
  unfold tT nbA
  rw [(rM g hp).1,(rM g hp).2,ih fun q hq=>h q (.tail _ hq)]
theorem FP (g:cr m) {kind:Int} (hk:cX kind=true) (c:Nat):dP (dm m) (av (dm m) kind) c=dP m.nodes (av m.nodes kind) c:=by
 rw [jN,jN,qh g hk,abo g (bV g kind)]
theorem JN (g:cr m) {kind:Int} (hk:cX kind=true):ct (dm m) (av (dm m) kind)=ct m.nodes (av m.nodes kind):=by
 unfold ct
 rw [qh g hk,List.map_map]
 refine List.map_congr_left fun p hp=>?_
 show List.replicate (aE _ (toN m p)) 0=_
 rw [(rM g (bV g kind p hp)).1]
theorem J4 (g:cr m) (s i:Nat) {j:Nat} (hj:j<m.nodes.length):(bK (iH m) s i).getD (toN m j) []=(bK m s i).getD j []:=by
 show (du (dm m) (dP (dm m) (av (dm m) 36) s) (dP (dm m) (av (dm m) 35) i) (dm m).length).getD (toN m j) []=_
 rw [FP g rfl,FP g rfl]
 exact(wE g).val _ _ (jR 36 s g) (jR 35 i g) j hj
theorem Xt (g:cr m) {j:Nat} (hj:j<m.nodes.length):(kH (iH m)).getD (toN m j) []=(kH m).getD j []:=by
 show (du (dm m) (ct (dm m) (av (dm m) 36)) (ct (dm m) (av (dm m) 35)) (dm m).length).getD (toN m j) []=_
 rw [JN g rfl,JN g rfl]
 exact(wE g).val _ _ (pE g.ok (ew _ _)) (pE g.ok (ew _ _)) j hj
theorem Oh (g:cr m) (s i:Nat) {p:Int} (h:da m.nodes p=true):aK (bK (iH m) s i) (mvI (gv m) p)=aK (bK m s i) p:=by
 unfold da at h
 have q:=jH g (Bool.and_eq_true_iff.1 h).1
 unfold aK mvI
 rw [q.2.2.2,Int.toNat_natCast,J4 g s i q.2.2.1]
theorem UQ (g:cr m) (s i:Nat):iC (iH m) (bK (iH m) s i)=iC m (bK m s i):=by
 unfold iC
 show (m.holds.map _).all _=_
 rw [List.all_map,Bool.eq_iff_iff,List.all_eq_true,List.all_eq_true]
 refine forall_congr' fun p=>forall_congr' fun hp=>?_
 show decide _=true↔decide _=true
 rw [Oh g s i (g.hol p hp)]
theorem Tq (g:cr m) (s i:Nat):xM (iH m) (bK (iH m) s i)=xM m (bK m s i):=by
 unfold xM uc
 have:(iH m).bads.findIdx? (fun p=>decide (aK (bK (iH m) s i) p=1))=m.bads.findIdx? fun p=>decide (aK (bK m s i) p=1):=by
  show (m.bads.map _).findIdx? _=_
  rw [List.findIdx?_map]
  refine Ay fun p hp=>?_
  show decide _=_
  rw [Oh g s i (g.bad p hp)]
 rw [this]
theorem Jz (g:cr m) {l:List BindP} (h: ∀b∈l,cU m.nodes b.state=true/\cU m.nodes b.node=true/\gz m.nodes b.state=36) {p:Nat} (hp:p∈stP m):bO (l.map (mvB (gv m))) (toN m p)=(bO l p).map (toN m):=by
 induction l with
 |nil=>rfl
 |cons b l ih=>
  have ih:=ih fun x hx=>h x (.tail _ hx)
  obtain⟨h1,h2,h3⟩:=h b (.head _)
  obtain⟨p1,p2⟩:=BO h1 h3
  rw [List.map_cons,rV,rV b l p,ih]
  have e1:(mvB (gv m) b).state=(toN m b.state.toNat:Int):=(jH g h1).2.2.2
  have e2:(mvB (gv m) b).node=(toN m b.node.toNat:Int):=(jH g h2).2.2.2
  rw [e1,e2]
  by_cases q:b.state=(p:Int)
  ·rw [if_pos q,if_pos (by rw [q,Int.toNat_natCast])]
   rw [Int.toNat_natCast];rfl
  ·rw [if_neg q,if_neg ?_]
   intro e
   have:=Sa g rfl p1 hp (by omega)
   omega
theorem VE (g:cr m) {p:Nat} (hp:p∈stP m):ed (iH m) (toN m p)=ed m p:=by
 have hpl:=bV g 36 p hp
 unfold ed
 show Option.map (fun k=>kQ (aE (dm m) (toN m p)) ((kH (iH m)).getD k [])) (bO (m.inits.map (mvB (gv m))) (toN m p))=_
 rw [Jz g (fun b hb=>⟨(eU (g.ini b hb)).1,(eU (g.ini b hb)).2.1,(eU (g.ini b hb)).2.2.1⟩) hp,(rM g hpl).1]
 cases e:bO m.inits p with
 |none=>rfl
 |some k=>
  have hk:=(LP g e).1
  show some (kQ (aE m.nodes p) ((kH (iH m)).getD (toN m k) []))=some (kQ (aE m.nodes p) ((kH m).getD k []))
  rw [Xt g hk]
theorem Vf (g:cr m) (s i:Nat) {p:Nat} (hp:p∈stP m):gt (iH m) (bK (iH m) s i) (toN m p)=gt m (bK m s i) p:=by
 unfold gt
 show Option.map _ (bO (m.nexts.map (mvB (gv m))) (toN m p))=_
 rw [Jz g (fun b hb=>⟨(dn (g.nex b hb)).1,(dn (g.nex b hb)).2.1,(dn (g.nex b hb)).2.2.1⟩) hp]
 cases e:bO m.nexts p with
 |none=>rfl
 |some k=>
  have hk:=KH g e
  show some ((bK (iH m) s i).getD (toN m k) [])=some ((bK m s i).getD k [])
  rw [J4 g s i hk]
theorem Lo (g:cr m) {F G:Nat->Option (List Nat)} (h: ∀p∈stP m,G (toN m p)=F p) (c:Nat):
  ig (stP (iH m)) G (dP (iH m).nodes (stP (iH m)) c) (stP (iH m)).length=ig (stP m) F (dP m.nodes (stP m) c) (stP m).length:=by
 have e1:stP (iH m)=(stP m).map (toN m):=qh g rfl
 have e2:dP (iH m).nodes (stP (iH m)) c=dP m.nodes (stP m) c:=FP g rfl c
 rw [e2,Bool.eq_iff_iff,jC,jC]
 constructor
 ·intro k i p hp v hv
  exact k i (toN m p) (by rw [e1,List.getElem?_map,hp];rfl) v (by rw [h p (List.mem_of_getElem? hp)];exact hv)
 ·intro k i q hq v hv
  rw [e1,List.getElem?_map]at hq
  cases hp:(stP m)[i]? with
  |none=>rw [hp]at hq;cases hq
  |some p=>
   rw [hp]at hq
   obtain rfl:=Option.some.inj hq
   exact k i p hp v (by rw [<-h p (List.mem_of_getElem? hp)];exact hv)
theorem Uv (g:cr m) (xs ys:List Int):dM (iH m) xs ys=dM m xs ys/\ ∀s i,xM (iH m) (bK (iH m) s i)=xM m (bK m s i):=by
 refine⟨?_,Tq g⟩
 have e0:p9 (iH m) xs ys=p9 m xs ys:=by
  unfold p9
  rw [decide_eq_true (IW (GM g)),decide_eq_true (IW g)]
  rw [show ak (iH m).nodes 36=ak m.nodes 36 from B2 g rfl,show ak (iH m).nodes 35=ak m.nodes 35 from B2 g rfl]
 have e2:CW (iH m) xs ys=CW m xs ys:=by
  funext i
  exact Lo g (fun p hp=>Vf g _ _ hp) _
 have e3:G7 (iH m) xs ys=G7 m xs ys:=by
  funext i
  exact UQ g _ _
 unfold dM
 rw [e0,Lo g (fun p hp=>VE g hp),e2,e3,Tq g]
end
set_option maxHeartbeats 1000000 in
theorem Tw {h:Hp} {l:List NodeP} {n:NodeP} {s:Sl} {v:List (List Nat)} {f:FuncId} {u w:Array Value} {R:Value->Hp->Prop}
  (ht:iJ l l.length n) (hvl:v.length=l.length) (hpv:gO h s v) (hk35: ¬n.kind=35) (hk36: ¬n.kind=36)
  (pf: ∀j:Nat,j<3->(j:Int)<ai n.kind->Fit (ar l (az n j)) (v.getD (az n j).toNat []))
  (hf: ∀j:Nat,j<3->(j:Int)<ai n.kind-> ∀h',h.le h'-> ∀R':Value->Hp->Prop,R' (uq (ar l (az n j))) h'->ACalls PR f ((u++ #[I (az n j)])++w) h' R')
  (k: ∀t h',h.le h'->IntS h' t (VL (bz l n v))->R (.agg #[Sl.v t]) h'):j5 #[wD n,s.v, .func (.func f) u w] h R:=by
 obtain⟨val,hnv⟩: ∃val,val=bz l n v:=⟨_,rfl⟩
 rw [<-hnv]at k
 unfold bz at hnv
 apply wU
 refine uf_ ?_
 refine aj fun b15 h1 hb15 l1 f15=>?_
 refine aj fun b17 h2 hb17 l2 f17=>?_
 replace f15:=l2 _ _ f15
 replace l2:=Hp.le_trans l1 l2
 refine aj fun b19 h3 hb19 l3 f19=>?_
 have n15:=fresh_ne hb19 f15
 have n17:=fresh_ne hb19 f17
 have b0:=aF l2 hb19
 replace f15:=l3 _ _ f15
 replace f17:=l3 _ _ f17
 have l0:=Hp.le_trans l2 l3
 clear l1 l2 l3 hb15 hb17 hb19 h1 h2
 have res: ∀(h4:Hp) (t:Sl),h.le h4->h4 b19=some (.inl ⟨[.slice none 0 0],1,false⟩)->IntS h4 t (VL val)->
   ∃(cs:List Value) (z:Nat),h4 b19=some (.inl ⟨cs,z,false⟩)/\0+1<=List.length cs/\cM (h4.row b19 (bX cs 0 [t.v]) z) fun h'=> ∃(s:Sl),Hp.cell h' b19 0=some s.v/\R (.agg #[s.v]) h':=by
  intro h4 t l4 g19 hval
  (with_reducible apply cC);(exact g19);(exact l4);(exact b0);(exact Nat.le_refl 1)
  intro h5 g kp l5
  exact⟨t,by rw [ax g];rfl,k t h5 l5 (hval.keep g19 kp)⟩
 clear k
 have wres: ∀(x:Nat) (z:Int),z=x->val= [x]->cQ #[I z] h3 fun v30 h31=> ∃(s32:Sl),v30=(.agg #[s32.v])/\(∃(cs33:List Value) (z34:Nat),h31 b19=some (.inl ⟨cs33,z34,false⟩)/\0+1<=List.length cs33/\cM (h31.row b19 (bX cs33 0 [s32.v]) z34) fun h35=> ∃(s36:Sl),Hp.cell h35 b19 0=some s36.v/\(R (.agg #[s36.v]) h35)):=by
  intro x z hz hx
  subst hz
  refine CX fun t h4 l4 hval=>⟨t,rfl,res h4 t (Hp.le_trans l0 l4) (l4 _ _ f19) ?_⟩
  rw [hx];exact hval
 have hpv3:=hpv.mono l0
 have hk:=ht.kind
 have pk:=ht.part
 have cel: ∀j:Nat,j<3->(j:Int)<ai n.kind-> ∀R':Value->Hp->Prop,R' (I (aK v (az n j))) h3->cv #[I (az n j), .pointer (some ⟨b17,0,none⟩)] h3 R':=fun j h1 h2 R' k=>
  mh hpv3 (pk j h1 h2).1 (by have:=(pk j h1 h2).2.1;omega) (pf j h1 h2).pos f17 k
 have srt: ∀j:Nat,j<3->(j:Int)<ai n.kind-> ∀R':Value->Hp->Prop,R' (uq (ar l (az n j))) h3->ACalls PR f ((u++ #[I (az n j)])++w) h3 R':=fun j h1 h2 R' k=>
  hf j h1 h2 h3 l0 R' k
 have vat: ∀j:Nat,j<3->(j:Int)<ai n.kind->_:=fun j h1 h2=>hpv3.at (pk j h1 h2).1 (by have:=(pk j h1 h2).2.1;omega)
 have hres:=ht.res
 (refine aD ?_)
 refine ad (fun e=>?_) (fun e34=>?_)
 ·have e:=bZ e
  obtain⟨c1,c2⟩:=ht.const e
  have:=ib.1 c2
  (refine aD ?_)
  exact wres n.n.toNat n.n (by omega) (by rw [if_pos e]at hnv;exact hnv)
 replace e34:=bA e34
 have hp:0<ai n.kind:=by
  have:ai n.kind≠0:=by intro h0;revert h0;unfold ai;(repeat' split)<;>(intro h;omega)
  omega
 replace hres:=hres hp
 have oa:=bD.1 (pk 0 (by omega) hp).2.2
 rw [if_neg e34]at hnv
 have hkinds:=ju hp
 refine ad (fun e=>?_) (fun e33=>?_)
 ·have e:=bZ e
  have hp3:ai n.kind=3:=by omega
  rw [if_pos e]at hnv
  (refine aD ?_)
  refine cel 0 (by omega) (by omega) _ ⟨_,rfl,ad (fun e=>?_) (fun e=>?_)⟩
  ·repeat' (refine aD ?_)
   obtain⟨b,o,t,ha,h1,h2,h3'⟩:=vat 1 (by omega) (by omega)
   refine⟨b,o,ha,(pk 1 (by omega) (by omega)).1,h1,t,h2,res _ _ l0 f19 ?_⟩
   rw [hnv,if_pos (by have:=bZ e;simp only [az]at this;omega)];exact h3'
  ·repeat' (refine aD ?_)
   obtain⟨b,o,t,ha,h1,h2,h3'⟩:=vat 2 (by omega) (by omega)
   refine⟨b,o,ha,(pk 2 (by omega) (by omega)).1,h1,t,h2,res _ _ l0 f19 ?_⟩
   rw [hnv,if_neg (by have:=bA e;simp only [az]at this;omega)];exact h3'
 replace e33:=bA e33
 rw [if_neg e33]at hnv
 refine ad (fun e=>?_) (fun e21=>?_)
 ·have e:=bZ e
  have hp2:ai n.kind=2:=by omega
  rw [if_pos e]at hnv
  repeat' (refine aD ?_)
  obtain⟨b,o,t,ha,h1,h2,h3'⟩:=vat 0 (by omega) (by omega)
  refine⟨b,o,ha,(pk 0 (by omega) (by omega)).1,h1,t,h2,?_⟩
  repeat' (refine aD ?_)
  obtain⟨b',o',t',ha',h1',h2',h3''⟩:=vat 1 (by omega) (by omega)
  refine⟨b',o',ha',(pk 1 (by omega) (by omega)).1,h1',t',h2',?_⟩
  have fl:=(pf 0 (by omega) (by omega)).len
  refine vZ h3' h3'' (by rw [aX,fl];have:=Nat.pow_le_pow_right (n:=2) (by omega) (show (ar l (az n 0)).idx.toNat<=2 by omega);omega) ⟨_,rfl,BD ⟨_,rfl,?_⟩⟩
  refine wres _ _ ?_ hnv
  simp only [az,GI]
  split<;>simp_all
 replace e21:=bA e21
 rw [if_neg e21]at hnv
 refine ad (fun e=>?_) (fun e37=>?_)
 ·have e:=bZ e
  have hp2:ai n.kind=2:=by omega
  obtain⟨r1,r2,r3⟩:=KK e hres
  rw [if_pos e]at hnv
  repeat' (refine aD ?_)
  obtain⟨b,o,t,ha,h1,h2,h3'⟩:=vat 0 (by omega) (by omega)
  refine⟨b,o,ha,(pk 0 (by omega) (by omega)).1,h1,t,h2,?_⟩
  (refine aD ?_)
  refine cel 1 (by omega) (by omega) _ ⟨_,rfl,rfl,rfl,rfl,?_⟩
  have fb:=(pf 1 (by omega) (by omega)).cell
  have fa:=(pf 0 (by omega) (by omega)).len
  simp only [az]at fb fa h3'
  rw [r2]at fb
  have hlt:aK v n.b<(v.getD n.a.toNat []).length:=by rw [fa];exact fb
  obtain⟨b2,o2,ha2,hc2,hl2⟩:=h3'.elt hlt
  refine⟨b2,o2,ha2,by omega,by simp only [az];omega,_,hc2,?_⟩
  exact wres _ _ rfl hnv
 replace e37:=bA e37
 rw [if_neg e37]at hnv
 simp only [az]at oa
 refine ad (fun e=>?_) (fun e38=>?_)
 ·have e:=bZ e
  have hp3:ai n.kind=3:=by omega
  obtain⟨r1,r2,r3,r4⟩:=Js e hres
  rw [if_pos e]at hnv
  repeat' (refine aD ?_)
  obtain⟨b,o,t,ha,h1,h2,h3'⟩:=vat 0 (by omega) (by omega)
  refine⟨b,o,ha,(pk 0 (by omega) (by omega)).1,h1,t,h2,?_⟩
  have fb:=(pf 1 (by omega) (by omega)).cell
  have fa:=(pf 0 (by omega) (by omega)).len
  simp only [az]at fb fa h3'
  rw [r2]at fb
  have hlt:aK v n.b<(v.getD n.a.toNat []).length:=by rw [fa];exact fb
  have hle4:(v.getD n.a.toNat []).length<=4:=by
   rw [fa];have:=Nat.pow_le_pow_right (n:=2) (by omega) (show (ar l n.a).idx.toNat<=2 by omega);simpa using this
  refine kO h3' (by rw [aX];omega) fun c h4 l4 hb4=>⟨c,rfl,?_⟩
  have hcn:c.n=(v.getD n.a.toNat []).length:=by have:=hb4.1;rw [List.length_map,aX]at this;omega
  obtain⟨bc,hca,hcrow⟩: ∃bc,c.a=some ⟨bc,0,none⟩/\(h4.sub h3) bc=some (.inl ⟨(VL (v.getD n.a.toNat [])).map I,c.c*1,false⟩):=by
   rcases hb4.2.2 with ⟨_,h0,_⟩|h0
   ·omega
   ·exact h0
  have hc4:h4 bc=some (.inl ⟨(VL (v.getD n.a.toNat [])).map I,c.c*1,false⟩):=sub_le _ _ _ _ hcrow
  have hc3:h3 bc=none:=by
   cases hx:h3 bc with
   |none=>rfl
   |some x=>rw [mK hx]at hcrow;cases hcrow
  have g15:=l4 _ _ f15
  have g17:=l4 _ _ f17
  have g19:=l4 _ _ f19
  refine aj fun b24 h5 hb24 l5 f24'=>?_
  have m15:=fresh_ne hb24 g15
  have m17:=fresh_ne hb24 g17
  have m19:=fresh_ne hb24 g19
  have mc:=fresh_ne hb24 hc4
  have hb24n:=aF l4 hb24
  have l35:=Hp.le_trans l4 l5
  (with_reducible apply cC);(exact f24');(exact l35);(exact hb24n);(exact Nat.le_refl 1)
  intro h6 f24 kp l6
  replace g15:=cB kp m15 (l5 _ _ g15)
  replace g17:=cB kp m17 (l5 _ _ g17)
  replace g19:=cB kp m19 (l5 _ _ g19)
  have gc:=cB kp mc (l5 _ _ hc4)
  have l06:=Hp.le_trans l0 l6
  have hpv6:=hpv3.mono l6
  refine⟨c,by rw [ax f24];rfl,?_⟩
  repeat' (refine aD ?_)
  refine mh hpv6 (pk 1 (by omega) (by omega)).1 (by have:=(pk 1 (by omega) (by omega)).2.1;simp only [az]at this⊢;omega) (pf 1 (by omega) (by omega)).pos g17 ⟨_,rfl,rfl,rfl,?_⟩
  refine mh hpv6 (pk 2 (by omega) (by omega)).1 (by have:=(pk 2 (by omega) (by omega)).2.1;simp only [az]at this⊢;omega) (pf 2 (by omega) (by omega)).pos g17 ⟨_,rfl,rfl,?_⟩
  refine⟨bc,0,hca,by omega,by omega,?_⟩
  (with_reducible apply cC);(exact gc);(exact l6);(exact hc3);(rw [List.length_map,aX];omega)
  intro h7 gc' kp7 l7
  have n24:b24≠bc:=fun e=>mc e.symm
  have n19c:b19≠bc:=fun e=>by subst e;rw [hc3]at f19;cases f19
  replace f24:=cB kp7 n24 f24
  refine⟨c,by rw [ax f24];rfl,?_⟩
  refine res h7 c (Hp.le_trans l0 l7) (cB kp7 n19c g19) ?_
  have hcells:bX ((VL (v.getD n.a.toNat [])).map I) (0+Int.toNat (aK v n.b:Int)*1) [I (aK v n.c)]=(VL val).map I:=by
   rw [hnv,bG,Int.toNat_natCast,Nat.mul_one,Nat.zero_add]
   simp [VL,List.map_set]
  rw [hcells]at gc'
  refine⟨by omega,by simp [aX,hnv,hcn], .inr ⟨bc,0,hca,aw gc'⟩⟩
 replace e38:=bA e38
 rw [if_neg e38]at hnv
 have word0: ∀wn:Nat,(ar l n.a).wid=wn->WO wn (aK v n.a):=fun wn hw=>by
  have:=(pf 0 (by omega) (by omega)).cell
  simp only [az]at this
  rw [hw]at this
  refine⟨by omega,this⟩
 obtain⟨wa,hwa⟩: ∃wn:Nat,(ar l n.a).wid=wn:=⟨(ar l n.a).wid.toNat,by omega⟩
 have hwo:=word0 wa hwa
 have h16:=hwo.pow
 have hlta:=hwo.2
 rw [hwa,Int.toNat_natCast]at hnv
 refine ad (fun e=>?_) (fun e29=>?_)
 ·have e:=bZ e
  have hp2:ai n.kind=2:=by omega
  obtain⟨r1,r2,r3,r4⟩:=OY e hres
  rw [if_pos e]at hnv
  have ob:=bD.1 (pk 1 (by omega) (by omega)).2.2
  simp only [az]at ob
  obtain⟨wb,hwb⟩: ∃wn:Nat,(ar l n.b).wid=wn:=⟨(ar l n.b).wid.toNat,by omega⟩
  have hltb:=(pf 1 (by omega) (by omega)).cell
  simp only [az]at hltb
  rw [hwb,Int.toNat_natCast]at hltb
  rw [hwb,Int.toNat_natCast]at hnv
  have hpb:=Br (w:=wb) (by omega)
  have hmul:=EF (a:=aK v n.a) (b:=2^wb) (by omega) hpb
  have hltb':aK v n.b<2^wb:=hltb
  repeat' (refine aD ?_)
  refine cel 0 (by omega) (by omega) _ ⟨_,rfl,rfl,rfl,?_⟩
  refine srt 1 (by omega) (by omega) _ ⟨_,_,rfl,rfl,?_⟩
  simp only [az,hwb]
  rw [if_neg (by omega)]
  refine cel 1 (by omega) (by omega) _ ⟨_,rfl,?_⟩
  refine wres _ _ ?_ hnv
  simp only [az]
  rw [jj (by omega) (by omega),cd (by omega) (by omega)];omega
 replace e29:=bA e29
 rw [if_neg e29]at hnv
 refine ad (fun e=>?_) (fun e30=>?_)
 ·have e:=bZ e
  obtain⟨r1,r2,r3⟩:=Ht e hres
  rw [if_pos e]at hnv
  obtain⟨lo,hlo⟩: ∃z:Nat,n.m=z:=⟨n.m.toNat,by omega⟩
  obtain⟨sz,hsz⟩: ∃z:Nat,n.n-n.m+1=z:=⟨(n.n-n.m+1).toNat,by omega⟩
  repeat' (refine aD ?_)
  refine cel 0 (by omega) (by omega) _ ⟨_,rfl,rfl,rfl,rfl,?_⟩
  rw [if_neg (by omega),cd (n:=n.n-n.m) (by omega) (by omega),cd (n:=n.n-n.m+1) (by omega) (by omega),hsz]
  refine dF (by omega) ⟨_,rfl,rfl,?_⟩
  refine wres _ _ ?_ hnv
  unfold JT
  simp only [az]
  rw [hlo]at hsz⊢
  rw [hsz,Int.toNat_natCast,Int.toNat_natCast,jI (by omega),ia (by omega),nF]
 replace e30:=bA e30
 rw [if_neg e30]at hnv
 refine ap (fun J=>J (decide (n.kind=31\/n.kind=32))) ?_ (fun J hJ=>?_)
 rotate_left
 ·clear res wres hf cel srt vat
  repeat' (first|(with_reducible first|refine aM (b:=true) rfl ?_|refine aC (b:=false) rfl ?_|refine ad (fun _=>?_) fun _=>?_)|(refine aD ?_)|(refine gP ?_ hJ))
  all_goals (clear hJ;have:= @decide_eq_true_eq;rw [Bool.eq_iff_iff];simp_all)
 refine ad (fun e=>?_) (fun e31=>?_)
 ·have e:=of_decide_eq_true e
  obtain⟨r1,r2,r3⟩:=Em e hres
  rw [if_pos e]at hnv
  obtain⟨mo,hmo⟩: ∃z:Nat,n.n=z:=⟨n.n.toNat,by omega⟩
  repeat' (refine aD ?_)
  refine srt 0 (by omega) (by omega) _ ⟨_,_,rfl,rfl,rfl,rfl,?_⟩
  refine cel 0 (by omega) (by omega) _ ⟨_,rfl,rfl,rfl,?_⟩
  simp only [az,hwa,hmo]
  refine Pi hwo (by omega) ⟨_,rfl,?_⟩
  refine wres _ _ ?_ hnv
  rw [hmo,Int.toNat_natCast];rfl
 replace e31:=of_decide_eq_false e31
 rw [if_neg e31]at hnv
 (refine aD ?_)
 refine dZ ⟨_,rfl,ad (fun e=>?_) (fun e1=>?_)⟩
 ·have e:=bZ e
  rw [if_pos e]at hnv
  repeat' (refine aD ?_)
  refine srt 0 (by omega) (by omega) _ ⟨_,_,rfl,rfl,rfl,?_⟩
  refine cel 0 (by omega) (by omega) _ ⟨_,rfl,rfl,?_⟩
  simp only [az,hwa]
  exact R6 (by omega) hwo ⟨_,_,rfl,wres _ _ rfl hnv⟩
 ·replace e1:=bA e1
  rw [if_neg e1]at hnv
  have hp2:ai n.kind=2:=by omega
  obtain⟨r1,r2,r3⟩:=SN (by omega) hres
  have hltb:=(pf 1 (by omega) (by omega)).cell
  simp only [az]at hltb
  rw [<-r2,hwa,Int.toNat_natCast]at hltb
  repeat' (refine aD ?_)
  refine srt 0 (by omega) (by omega) _ ⟨_,_,rfl,rfl,rfl,rfl,?_⟩
  refine cel 0 (by omega) (by omega) _ ⟨_,rfl,rfl,rfl,?_⟩
  refine cel 1 (by omega) (by omega) _ ⟨_,rfl,rfl,?_⟩
  simp only [az,hwa]
  exact Se (by omega) hwo ⟨hwo.1,hltb⟩ ⟨_,_,rfl,wres _ _ rfl hnv⟩
theorem afA (a b:Int):(a==b)=decide (a=b):=by rw [Bool.eq_iff_iff,beq_iff_eq,decide_eq_true_eq]
theorem gG {a b:Int} {x y:Prop} (h1:a=b->x) (h2:a≠b->y):ac (a==b) x y:=ad (fun e=>h1 (beq_iff_eq.1 e)) (fun e=>h2 (beq_eq_false_iff_ne.1 e))
theorem Ss (n x:NodeP):((n.kind==x.kind)&&((n.a==x.a)&&((n.b==x.b)&&((n.c==x.c)&&((n.n==x.n)&&((n.m==x.m)&&(((n.sort.idx==x.sort.idx)&&((n.sort.wid==x.sort.wid)&&true))&&((ByteArray.toList n.name==ByteArray.toList x.name)&&true))))))))=xJ x n:=by
 rw [agw]
 unfold xJ
 rw [Bool.eq_iff_iff]
 simp only [Bool.and_eq_true,beq_iff_eq,decide_eq_true_eq,and_true]
 constructor
 ·rintro ⟨h1,h2,h3,h4,h5,h6,⟨h7,h8⟩,h9⟩
  exact⟨h1.symm,h2.symm,h3.symm,h4.symm,h5.symm,h6.symm,h7.symm,h8.symm,h9.symm⟩
 ·rintro ⟨h1,h2,h3,h4,h5,h6,h7,h8,h9⟩
  exact⟨h1.symm,h2.symm,h3.symm,h4.symm,h5.symm,h6.symm,⟨h7.symm,h8.symm⟩,h9.symm⟩
def aeP (fl:List NodeP) (n:NodeP):Int:=match fl.findIdx? (fun x=>xJ x n)with
 |some i=>i
 |none=> -1
theorem Ia {h:Hp} {s:Sl} {fl:List NodeP} {n:NodeP} {R:Value->Hp->Prop} (hN:gw h s fl) (k:R (I (aeP fl n)) h):fO #[s.v,pB n] h R:=by
 refine ACalls.drop (po ?_)
 refine uf_ ?_
 (with_reducible apply Kn.al);(exact Kn.nil h);(intro b12 h1 K1 l1 hb12)
 have ls:=hN.len
 have hb:s.n<=9223372036854775807:=hN.1
 refine au fl.length (fun i vs h'=>vs= [s.v, .pointer (some ⟨b12,0,none⟩),I (s.n:Nat),I (i:Nat)]/\h1=h'/\(fl.take i).any (fun x=>xJ x n)=false) ⟨rfl,rfl,rfl⟩ ?_
 rintro i _ _ next hi ⟨rfl,rfl,hno⟩ hnx
 refine⟨s,b12,0,_,_,rfl,?_⟩
 by_cases hlt:i<fl.length
 rotate_left
 ·refine aC (by rw [decide_eq_false_iff_not];omega) ⟨h,K1.le,?_⟩
  rw [List.take_of_length_le (by omega)]at hno
  unfold aeP at k
  rwa [Hy hno]at k
 refine aM (by rw [decide_eq_true_eq];omega) ?_
 obtain⟨x,hx⟩: ∃x,fl[i]?=some x:=⟨_,List.getElem?_eq_getElem hlt⟩
 obtain⟨b,o,ha,c0,c1,c2,c3,c4,c5,c6,c7,c8⟩:=(hN.mono K1.le).at hx
 refine⟨b,o,ha,by omega,by omega,?_⟩
 repeat' (refine kr_ ?_)
 rw [Int.toNat_natCast]
 refine⟨_,c0,_,c1,_,c2,_,c3,_,c4,_,c5,_,c6,_,c7,_,c8,?_⟩
 rw [Ss]
 refine ad (fun e=>⟨h,K1.le,?_⟩) (fun e=>?_)
 ·unfold aeP at k
  rwa [CQ hx e hno]at k
 ·rw [ay (by omega)]
  exact hnx hlt _ _ ⟨rfl,rfl,by rw [OP hx,hno,e];rfl⟩
structure QZ (h:Hp) (F:Nat) (s:Sl) (fl:List NodeP):Prop where
 row:h F=some (.inl ⟨[s.v],1,false⟩)
 ns:gw h s fl
theorem QZ.mono {h h':Hp} {F:Nat} {s:Sl} {fl:List NodeP} (l:h.le h') (e:QZ h F s fl):QZ h' F s fl:=⟨l _ _ e.row,e.ns.mono l⟩
abbrev Eo (F:Nat):Value:= .pointer (some ⟨F,0,none⟩)
section
variable {h :Hp} {F:Nat} {s:Sl} {fl:List NodeP} {n:NodeP} {R:Value->Hp->Prop}
theorem uK {p:Int} (e:QZ h F s fl) (h0:0<=p) (hp:p<fl.length) (k:R (.tuple #[I (eL fl p).n, .bool (decide ((eL fl p).kind=34))]) h):fH #[Eo F,I p] h R:=by
 apply Al
 refine uf_ ?_
 have ls:=e.ns.len
 obtain⟨x,hx,e1,e2⟩:=jK h0 hp
 obtain⟨b,o,ha,c0,c1,c2,c3,c4,c5,c6,c7,c8⟩:=e.ns.at hx
 rw [e1,<-afA]at k
 exact⟨F,0,rfl,F,0,rfl,s,by rw [ax e.row];rfl,b,o,ha,h0,by omega,_,c4,s,by rw [ax e.row];rfl,b,o,ha,h0,by omega,_,c0,k⟩
def rlV :Rl->Value
 | .pl p=> .tuple #[I p, .bool true]
 |_=> .tuple #[I 0, .bool false]
theorem Wh {kind c other:Int} (e:QZ h F s fl) (ok:bP fl=true) (h0:0<=c) (hc:c<fl.length) (k:R (rlV (byP fl kind c other)) h):nq #[Eo F,I kind,I c,I other] h R:=by
 apply FJ
 refine uf_ ?_
 have ls:=e.ns.len
 refine uK e h0 hc ⟨_,_,rfl,?_⟩
 obtain⟨x,hx,e1,e2⟩:=jK h0 hc
 obtain⟨b,o,ha,c0,c1,c2,c3,c4,c5,c6,c7,c8⟩:=e.ns.at hx
 have so:=bD.1 (fM ok hx).sort
 obtain⟨w,hw⟩: ∃w:Nat,x.sort.wid=w:=⟨x.sort.wid.toNat,by omega⟩
 refine⟨F,0,rfl,s,by rw [ax e.row];rfl,b,o,ha,h0,by omega,_,c7,?_⟩
 rw [hw]
 refine dF (by omega) ⟨_,rfl,?_⟩
 unfold byP at k
 rw [e1]at k⊢
 rw [hw,Int.toNat_natCast]at k
 have pp:=bQ w
 rw [show ((2^w-1:Nat):Int)=((2^w:Nat):Int)-1 by omega]at k
 generalize ((2^w:Nat):Int)-1=full at*
 generalize x.n=v at*
 refine ad (fun q=>?_) (fun q=>?_)
 ·rw [Bool.not_eq_true',decide_eq_false_iff_not]at q
  rw [if_pos q]at k
  exact k
 rw [Bool.not_eq_false',decide_eq_true_eq]at q
 rw [if_neg (fun z=>z q)]at k
 refine ap (fun J=> ∀b:Bool,(b=true↔(kind=6/\v=0\/kind=7/\v=full\/kind=11/\v=0))->J b) (fun b hb=>?_) (fun J hJ=>?_)
 rotate_left
 ·have jt:(kind=6/\v=0\/kind=7/\v=full\/kind=11/\v=0)->J true:=fun z=>hJ true (by simp [z])
  have jf: ¬(kind=6/\v=0\/kind=7/\v=full\/kind=11/\v=0)->J false:=fun z=>hJ false (by simp [z])
  clear k ha c0 c1 c2 c3 c4 c5 c6 c7 c8
  repeat' (refine gG (fun _=>?_) (fun _=>?_))
  all_goals first|exact jt (by omega)|exact jf (by omega)|exact hJ _ (by rw [beq_iff_eq];omega)
 refine ad (fun z=>?_) (fun z=>?_)
 ·rw [if_pos (hb.1 z)]at k
  exact k
 rw [if_neg (fun y=>by rw [hb.2 y]at z;cases z)]at k
 have kt:(kind=6/\v=full\/kind=7/\v=0\/kind=8/\v=0\/kind=9/\v=0\/kind=11/\v=1)->R (.tuple #[I other, .bool true]) h:=fun y=>by rw [if_pos y]at k;exact k
 have kf: ¬(kind=6/\v=full\/kind=7/\v=0\/kind=8/\v=0\/kind=9/\v=0\/kind=11/\v=1)->R (.tuple #[I 0, .bool false]) h:=fun y=>by rw [if_neg y]at k;exact k
 clear k ha c0 c1 c2 c3 c4 c5 c6 c7 c8 hb z
 repeat' (refine gG (fun _=>?_) (fun _=>?_))
 all_goals first|exact kt (by omega)|exact kf (by omega)
theorem aco (e:QZ h F s fl) (t:iJ fl fl.length n) (k:R (.bool (Nj fl n)) h):qz #[Eo F,pB n] h R:=by
 refine ACalls.drop (Fn ?_)
 refine uf_ ?_
 have hk:=t.kind
 have hk3:=iX n.kind
 (with_reducible apply Kn.al);(exact Kn.nil h);(intro b12 h1 K1 l1 hb12)
 (refine kr_ ?_)
 refine dZ ⟨_,rfl,?_⟩
 refine ap (fun J=> ∀b h',Kn h h' [(b, .inl ⟨[I n.a,I n.b,I n.c],3,false⟩)]->J (Sl.mk (some ⟨b,0,none⟩) (ai n.kind).toNat 3) h') (fun b h2 K2=>?_) (fun J hJ=>?_)
 rotate_left
 ·repeat' (refine kr_ ?_)
  refine Kn.al K1 fun b23 h2 K2 l2 hb23=>?_
  refine⟨by decide,by simpa using hk,by simpa using hk3, .inr ⟨_,_,rfl,?_⟩⟩
  exact hJ b23 h2 (K2.sub (fun x hx=>by simp at hx;simp [hx]) (by simp))
 clear K1 l1 hb12 h1
 have f:=K2.at (.head _)
 rw [show (((Int.toNat (ai n.kind)-Int.toNat (Int.ofNat 0)):Nat):Int)=(((ai n.kind).toNat:Nat):Int) by simp]
 refine au (ai n.kind).toNat (fun q vs h'=>vs= [Eo F,I (ai n.kind),(Sl.mk (some ⟨b,0,none⟩) (ai n.kind).toNat 3).v,I (((ai n.kind).toNat:Nat):Int),I (q:Nat)]/\h2=h'/\ ∀j:Nat,j<q->(eL fl (az n j)).kind=34) ⟨rfl,rfl,fun j hj=>by omega⟩ ?_
 rintro q _ _ next hq ⟨rfl,rfl,hall⟩ hnx
 refine⟨_,_,Sl.mk (some ⟨b,0,none⟩) (ai n.kind).toNat 3,_,_,rfl,?_⟩
 by_cases hlt:q<(ai n.kind).toNat
 rotate_left
 ·refine aC (by rw [decide_eq_false_iff_not];omega) ⟨h,K2.le,dL ?_ k⟩
  unfold Nj
  have:((dK n).all fun p=>decide ((eL fl (p:Int)).kind=34))=true:=by
   rw [List.all_eq_true]
   intro p hp
   obtain⟨j,h1,h2,e⟩:=(fv hk).1 hp
   rw [e,gV (t.part j h1 h2).1,hall j (by omega)];rfl
  rw [this,Bool.and_true]
 refine aM (by rw [decide_eq_true_eq];omega) ⟨b,0,rfl,by omega,by dsimp only;omega,_,by rw [Int.toNat_natCast,Nat.zero_add,Nat.mul_one];exact nU f (by omega),?_⟩
 obtain⟨p1,p2,_⟩:=t.part q (by omega) (by omega)
 refine uK (e.mono K2.le) p1 p2 ⟨_,_,rfl,ad (fun z=>⟨h,K2.le,dL ?_ k⟩) (fun z=>?_)⟩
 ·rw [Bool.not_eq_true',decide_eq_false_iff_not]at z
  unfold Nj
  symm
  rw [Bool.and_eq_false_iff]
  right
  rw [List.all_eq_false]
  refine⟨(az n q).toNat,tj hk (by omega) (by omega),?_⟩
  rw [gV p1,decide_eq_true_eq];exact z
 ·rw [Bool.not_eq_false',decide_eq_true_eq]at z
  rw [ay (by omega)]
  exact hnx hlt _ _ ⟨rfl,rfl,fun j hj=>by
   by_cases e:j=q
   ·rw [e];exact z
   ·exact hall j (by omega)⟩
end
theorem US {h:Hp} {s:Sl} {xs:List Int} {x:Int} {R:Value->Hp->Prop} (hs:IntS h s xs) (hf: ∀j,j<xs.length->xs[j]?≠some x) (k:R (I (-1)) h):dN #[s.v,I x] h R:=by
 apply qk
 refine uf_ ?_
 have ls:=hs.len
 have hb:=hs.bound
 refine au xs.length (fun j vs h'=>vs= [s.v,I x,I (s.n:Nat),I (j:Nat)]/\h'=h) ⟨rfl,rfl⟩ ?_
 rintro j _ _ next hj ⟨rfl,rfl⟩ hnx
 refine⟨s,_,_,_,rfl,?_⟩
 by_cases hlt:j<xs.length
 ·refine aM (by rw [decide_eq_true_eq];omega) ?_
  obtain⟨y,hy⟩: ∃y,xs[j]?=some y:=⟨_,List.getElem?_eq_getElem (by omega)⟩
  obtain⟨b,o,ha,hc⟩:=hs.get hy
  refine⟨b,o,ha,by omega,by omega,_,by rw [Int.toNat_natCast];exact hc,aC (by rw [beq_eq_false_iff_ne];exact fun e=>hf j hlt (by rw [e];exact hy)) ?_⟩
  rw [ay (by omega)]
  exact hnx hlt _ _ ⟨rfl,rfl⟩
 ·exact aC (by rw [decide_eq_false_iff_not];omega) k
theorem TM {h:Hp} {kind:Int} {R:Value->Hp->Prop} (k:R (.bool (DH kind)) h):yI #[I kind] h R:=by
 refine ACalls.drop (PY ?_)
 refine uf_ ?_
 (with_reducible apply Kn.al);(exact Kn.nil h);(intro b4 h1 K1 l1 hb4)
 have is:IntS h1 ⟨some ⟨b4,0,none⟩,9,9⟩ [6,7,8,9,11,21,26,27,28]:=⟨(by decide:9<=9223372036854775807),rfl, .inr ⟨b4,0,rfl,aw (K1.at (.head _))⟩⟩
 refine vD (s1:=⟨some ⟨b4,0,none⟩,9,9⟩) ?_
 refine uf_ ?_
 have yes: ∀i:Nat,([6,7,8,9,11,21,26,27,28]:List Int)[i]?=some kind->(∀j,j<i->([6,7,8,9,11,21,26,27,28]:List Int)[j]?≠some kind)->DH kind=true->dN #[(Sl.mk (some ⟨b4,0,none⟩) 9 9).v,I kind] h1 fun v h=> ∃x7:Int,v=I x7/\ ∃c8:Bool,Value.bool (decide (x7>=0))= .bool c8/\ ∃h'',Hp.le h'' h/\R (.bool c8) h'':=fun i hi hj ht=>by
  refine DE is hi hj ⟨_,rfl,_,rfl,h,K1.le,?_⟩
  rw [ht]at k
  rw [decide_eq_true (by omega)];exact k
 by_cases ht:DH kind=true
 ·rcases of_decide_eq_true ht with e|e|e|e|e|e|e|e|e<;>subst e
  ·exact yes 0 rfl (by decide) ht
  ·exact yes 1 rfl (by decide) ht
  ·exact yes 2 rfl (by decide) ht
  ·exact yes 3 rfl (by decide) ht
  ·exact yes 4 rfl (by decide) ht
  ·exact yes 5 rfl (by decide) ht
  ·exact yes 6 rfl (by decide) ht
  ·exact yes 7 rfl (by decide) ht
  ·exact yes 8 rfl (by decide) ht
 ·have ht':DH kind=false:=Bool.eq_false_iff.2 ht
  refine US is (fun j hj e=>ht (decide_eq_true ?_)) ⟨_,rfl,_,rfl,h,K1.le,?_⟩
  ·have hm:kind∈([6,7,8,9,11,21,26,27,28]:List Int):=List.mem_of_getElem? e
   simpa using hm
  ·rw [ht']at k;exact k
abbrev vT (F:Nat) (s:Sl):Nat×Blk:=(F, .inl ⟨[s.v],1,false⟩)
section
variable {g h:Hp} {F:Nat} {s:Sl} {X A:List (Nat×Blk)} {fl:List NodeP} {n:NodeP} {R:Value->Hp->Prop}
theorem abv {L:List (Nat×Blk)} (K:Kn g h (L++(vT F s::(X++A)))) (o:bR X s 9 (fl.flatMap nodeCells)) (hl:fl.length<=1000):QZ h F s fl:=by
 have hn:=o.1
 rw [ck (m:=9) (fun _=>rfl)]at hn
 exact⟨K.at (List.mem_append_right _ (.head _)),o.slcOf (by omega) fun e he=>K.mem e (List.mem_append_right _ (.tail _ (List.mem_append_left _ he)))⟩
theorem RE (K:Kn g h (vT F s::(X++A))) (o:bR X s 9 (fl.flatMap nodeCells)) (hl:fl.length<=1000)
  (k: ∀s' X' h',Kn g h' (vT F s'::(X'++A))->bR X' s' 9 ((yk fl n).1.flatMap nodeCells)->R (I ((yk fl n).2:Nat)) h'):mE #[Eo F,pB n] h R:=by
 apply EJ
 refine uf_ ?_
 have hn:=o.1
 rw [ck (m:=9) (fun _=>rfl)]at hn
 refine Kn.al K fun b12 h1 K1 l1 hb12=>?_
 clear K
 repeat' (refine kr_ ?_)
 have e:=abv (L:= [_]) K1 o hl
 refine Ia (n:=n) e.ns ⟨_,rfl,?_⟩
 unfold aeP
 unfold yk at k
 cases hf:fl.findIdx? (fun x=>xJ x n)with
 |some i=>
  rw [hf]at k
  dsimp only at k⊢
  exact aC (by rw [decide_eq_false_iff_not];omega) (k s X h1 K1.tl o)
 |none=>
  rw [hf]at k
  dsimp only at k⊢
  refine aM (by decide) ?_
  repeat' (refine kr_ ?_)
  refine Kn.al K1 fun b48 h2 K2 l2 hb48=>?_
  repeat' (refine kr_ ?_)
  clear e
  refine Kn.growIn (A:= [(b48, .inl ⟨nodeCells n,9,false⟩),(b12, .inl ⟨nodeCells n,9,false⟩),vT F s]) K2 o (by omega) (by omega) (by omega) ⟨b48,0,rfl,aw (K2.at (.head _))⟩ rfl rfl fun s' X' h3 hn3 o3 K3 _=>?_
  simp only [List.cons_append,List.nil_append]at K3
  clear K1 K2
  repeat' (refine kr_ ?_)
  refine kw_ ?_
  intro h4 K4 _
  simp only [bX,List.set_cons_zero,List.set_cons_succ,Nat.zero_add,Nat.reduceAdd]at K4
  rw [show (Value.slice s'.a s'.n s'.c)=s'.v from rfl]at K4
  rw [show s.n=fl.length by omega]
  exact k s' X' h4 K4.tl.tl (by rw [List.flatMap_append];exact o3)
theorem Uh {w:Int} (k:R (.agg #[I 0,I w]) h):dC #[I w] h R:=by
 refine ACalls.drop (EP ?_)
 refine uf_ ?_
 (with_reducible apply Kn.al);(exact Kn.nil h);(intro b3 h1 K1 l1 hb3)
 refine kw_ ?_
 intro h2 K2 _
 simp only [bX,List.set_cons_zero,List.set_cons_succ,Nat.zero_add,Nat.reduceAdd]at K2
 repeat' (refine kr_ ?_)
 exact⟨h,K2.le,k⟩
theorem sA {w x:Int} (K:Kn g h (vT F s::(X++A))) (o:bR X s 9 (fl.flatMap nodeCells)) (hl:fl.length<=1000)
  (k: ∀s' X' h',Kn g h' (vT F s'::(X'++A))->bR X' s' 9 ((yk fl (Ek w x)).1.flatMap nodeCells)->R (I ((yk fl (Ek w x)).2:Nat)) h'):fh #[Eo F,I w,I x] h R:=by
 apply zr
 refine uf_ ?_
 refine Uh ⟨_,_,rfl,?_⟩
 exact RE (n:=Ek w x) K o hl fun s' X' h' K' o'=>⟨_,rfl,k s' X' h' K' o'⟩
def ahe (fl:List NodeP):Rl->Option (List NodeP×Int)
 | .no=>none
 | .pl p=>some (fl,p)
 | .co w x=>some ((yk fl (Ek w x)).1,((yk fl (Ek w x)).2:Int))
structure HX (g:Hp) (F:Nat) (A:List (Nat×Blk)) (fl:List NodeP) (r:Rl) (R:Value->Hp->Prop):Prop where
 no:r= .no-> ∀(s:Sl) (X:List (Nat×Blk)) (x:Int) h',Kn g h' (vT F s::(X++A))->bR X s 9 (fl.flatMap nodeCells)->R (.tuple #[I x, .bool false]) h'
 yes: ∀fl' p,ahe fl r=some (fl',p)-> ∀(s:Sl) (X:List (Nat×Blk)) h',Kn g h' (vT F s::(X++A))->bR X s 9 (fl'.flatMap nodeCells)->R (.tuple #[I p, .bool true]) h'
theorem HX.low {g1:Hp} {r:Rl} (k:HX g F A fl r R) (l:g.le g1):HX g1 F A fl r R:=⟨fun e s X x h' K o=>k.no e s X x h' (K.low l) o,fun fl' p e s X h' K o=>k.yes fl' p e s X h' (K.low l) o⟩
theorem HX.leaf {r:Rl} {b:Bool} {x:Int} (k:HX g F A fl r R) (K:Kn g h (vT F s::(X++A))) (o:bR X s 9 (fl.flatMap nodeCells)) (e:r=if b=true then .pl x else .no):R (.tuple #[I x, .bool b]) h:=by
 cases b
 ·exact k.no (by rw [e];rfl) s X x h K o
 ·exact k.yes fl x (by rw [e];rfl) s X h K o
theorem HX.con {w x:Int} (k:HX g F A fl (.co w x) R) (s':Sl) (X':List (Nat×Blk)) (h':Hp) (K:Kn g h' (vT F s'::(X'++A))) (o:bR X' s' 9 ((yk fl (Ek w x)).1.flatMap nodeCells)):R (.tuple #[I ((yk fl (Ek w x)).2:Nat), .bool true]) h':=
 k.yes _ _ rfl s' X' h' K o
theorem ag1 (fl:List NodeP) (a b:Rl):a≠ .no->ahe fl (a.or b)=ahe fl a:=by cases a<;>simp [Rl.or]
theorem U6 (K:Kn g h (vT F s::(X++A))) (o:bR X s 9 (fl.flatMap nodeCells)) (hl:fl.length<=1000) (k:HX g F A fl (D5 n) R):oh #[Eo F,pB n] h R:=by
 apply Co
 refine uf_ ?_
 refine Kn.al K fun b12 h1 K1 l1 hb12=>?_
 obtain⟨g1,KA,K2⟩:=Kn.cut (A:= [(b12, .inl ⟨nodeCells n,9,false⟩)]) (L:=vT F s::(X++A)) K1
 have f12:=KA.at (.head _)
 replace k:=k.low KA.le
 clear K K1 KA
 unfold D5 at k
 repeat' (refine kr_ ?_)
 have jn: ∀{P Q:Prop} {J:Bool->Prop} [Decidable P] {a b:Int},True:=trivial
 clear jn
 refine ap (fun J=> ∀b:Bool,(b=true↔(n.kind=6\/n.kind=7))->J b) (fun b hb=>?_) (fun J hJ=>?_)
 rotate_left
 ·clear k
  repeat' (refine gG (fun _=>?_) (fun _=>?_))
  all_goals first|exact hJ true (by simp;omega)|exact hJ false (by simp;omega)|exact hJ _ (by rw [beq_iff_eq];omega)
 refine ad (fun z=>?_) (fun z=>?_)
 ·rw [if_pos (hb.1 z)]at k
  repeat' (refine kr_ ?_)
  exact k.leaf K2 o (by rw [if_pos rfl])
 rw [if_neg (fun y=>by rw [hb.2 y]at z;cases z)]at k
 clear hb z
 refine ap (fun J=> ∀b:Bool,(b=true↔(n.kind=8\/n.kind=10))->J b) (fun b hb=>?_) (fun J hJ=>?_)
 rotate_left
 ·clear k
  repeat' (refine gG (fun _=>?_) (fun _=>?_))
  all_goals first|exact hJ true (by simp;omega)|exact hJ false (by simp;omega)|exact hJ _ (by rw [beq_iff_eq];omega)
 refine ad (fun z=>?_) (fun z=>?_)
 ·rw [if_pos (hb.1 z)]at k
  repeat' (refine kr_ ?_)
  exact sA K2 o hl fun s' X' h' K' o'=>⟨_,rfl,k.con s' X' h' K' o'⟩
 rw [if_neg (fun y=>by rw [hb.2 y]at z;cases z)]at k
 clear hb z
 refine ap (fun J=> ∀b:Bool,(b=true↔(n.kind=21\/n.kind=24\/n.kind=25))->J b) (fun b hb=>?_) (fun J hJ=>?_)
 rotate_left
 ·clear k
  repeat' (refine gG (fun _=>?_) (fun _=>?_))
  all_goals first|exact hJ true (by simp;omega)|exact hJ false (by simp;omega)|exact hJ _ (by rw [beq_iff_eq];omega)
 refine ad (fun z=>?_) (fun z=>?_)
 ·rw [if_pos (hb.1 z)]at k
  exact sA K2 o hl fun s' X' h' K' o'=>⟨_,rfl,k.con s' X' h' K' o'⟩
 rw [if_neg (fun y=>by rw [hb.2 y]at z;cases z)]at k
 clear hb z
 refine ap (fun J=> ∀b:Bool,(b=true↔(n.kind=22\/n.kind=23))->J b) (fun b hb=>?_) (fun J hJ=>?_)
 rotate_left
 ·clear k
  repeat' (refine gG (fun _=>?_) (fun _=>?_))
  all_goals first|exact hJ true (by simp;omega)|exact hJ false (by simp;omega)|exact hJ _ (by rw [beq_iff_eq];omega)
 refine ad (fun z=>?_) (fun z=>?_)
 ·rw [if_pos (hb.1 z)]at k
  exact sA K2 o hl fun s' X' h' K' o'=>⟨_,rfl,k.con s' X' h' K' o'⟩
 rw [if_neg (fun y=>by rw [hb.2 y]at z;cases z)]at k
 exact k.leaf K2 o (by rw [if_neg (by decide)])
theorem acj (fl:List NodeP) (kind c o w x:Int):byP fl kind c o≠ .co w x:=by
 unfold byP
 split
 ·simp
 split
 ·simp
 split
 ·simp
 ·simp
theorem YO (K:Kn g h (vT F s::(X++A))) (o:bR X s 9 (fl.flatMap nodeCells)) (hl:fl.length<=1000) (ok:bP fl=true) (t:iJ fl fl.length n) (hk:6<=n.kind/\n.kind<=29) (k:HX g F A fl (PA fl n) R):qa #[Eo F,pB n] h R:=by
 apply DT
 refine uf_ ?_
 have hp:=uQ (n:=n) hk
 obtain⟨a1,a2,_⟩:=t.part 0 (by omega) (by omega)
 obtain⟨b1,b2,_⟩:=t.part 1 (by omega) (by omega)
 simp only [az]at a1 a2 b1 b2
 refine Kn.al K fun b12 h1 K1 l1 hb12=>?_
 obtain⟨g1,KA,K2⟩:=Kn.cut (A:= [(b12, .inl ⟨nodeCells n,9,false⟩)]) (L:=vT F s::(X++A)) K1
 have f12:=KA.at (.head _)
 replace k:=k.low KA.le
 clear K K1 KA
 unfold PA at k
 repeat' (refine kr_ ?_)
 refine ap (fun J=>(if n.a=n.b then D5 n else .no)= .no-> ∀s X h',Kn g1 h' (vT F s::(X++A))->bR X s 9 (fl.flatMap nodeCells)->J h') (fun e0 s X h2 K o=>?_) (fun J hJ=>?_)
 rotate_left
 ·refine gG (fun z=>?_) (fun z=>hJ (by rw [if_neg z]) s X h1 K2 o)
  rw [if_pos z]at k hJ
  repeat' (refine kr_ ?_)
  refine U6 (n:=n) K2 o hl ⟨fun e s X x h' K o=>⟨_,_,rfl,aC rfl (hJ e s X h' K o)⟩,fun fl' p e s X h' K o=>⟨_,_,rfl,aM rfl ?_⟩⟩
  exact k.yes fl' p (by rw [ag1 _ _ _ (by intro q;rw [q]at e;cases e)];exact e) s X h' K o
 rw [e0]at k
 replace k:HX g1 F A fl ((byP fl n.kind n.a n.b).or ((byP fl n.kind n.b n.a).or (GE fl n))) R:=k
 clear K2 e0
 have e:=abv (L:= []) K o hl
 repeat' (refine kr_ ?_)
 refine Wh e ok a1 a2 ?_
 cases hb:byP fl n.kind n.a n.b with
 |co w x=>exact absurd hb (acj _ _ _ _ _ _)
 |pl p=>
  rw [hb]at k
  exact⟨_,_,rfl,aM rfl (k.leaf K o (by rw [if_pos rfl];rfl))⟩
 |no=>
  rw [hb]at k
  refine⟨_,_,rfl,aC rfl ?_⟩
  repeat' (refine kr_ ?_)
  refine Wh e ok b1 b2 ?_
  cases hb2:byP fl n.kind n.b n.a with
  |co w x=>exact absurd hb2 (acj _ _ _ _ _ _)
  |pl p=>
   rw [hb2]at k
   exact⟨_,_,rfl,aM rfl (k.leaf K o (by rw [if_pos rfl];rfl))⟩
  |no=>
   rw [hb2]at k
   replace k:HX g1 F A fl (GE fl n) R:=k
   refine⟨_,_,rfl,aC rfl ?_⟩
   repeat' (refine kr_ ?_)
   refine uK e b1 b2 ⟨_,_,rfl,?_⟩
   unfold GE at k
   refine ap (fun J=> ∀b:Bool,(b=true↔((eL fl n.b).kind=34/\(eL fl n.b).n=0)/\(n.kind=10\/16<=n.kind/\n.kind<=20))->J b h2) (fun b hb=>?_) (fun J hJ=>?_)
   rotate_left
   ·refine ad (fun z=>?_) (fun z=>?_)
    ·have z:=of_decide_eq_true z
     refine gG (fun z2=>?_) (fun z2=>hJ false (by simp [z2]))
     repeat' (refine kr_ ?_)
     refine gG (fun z3=>hJ true (by simp [z,z2,z3])) (fun z3=>?_)
     repeat' (refine kr_ ?_)
     refine gU ⟨_,rfl,hJ _ ?_⟩
     rw [decide_eq_true_eq]
     constructor
     ·intro q;exact⟨⟨z,z2⟩, .inr q⟩
     ·rintro ⟨_,q|q⟩
      ·exact absurd q z3
      ·exact q
    ·have z:=of_decide_eq_false z
     exact hJ false (by simp [z])
   refine ad (fun z=>?_) (fun z=>?_)
   ·rw [if_pos (hb.1 z)]at k
    repeat' (refine kr_ ?_)
    exact k.leaf K o (by rw [if_pos rfl])
   ·rw [if_neg (fun y=>by rw [hb.2 y]at z;cases z)]at k
    exact k.leaf K o (by rw [if_neg (by decide)])
end
theorem afi {l:List NodeP} {i:Nat} {n:NodeP} (t:iJ l i n):0<=n.n:=by
 have hf:=(m4.1 t.fields).2.2.2.2
 by_cases h:n.kind=30\/n.kind=31\/n.kind=32\/n.kind=34
 ·rcases h with h|h|h|h
  ·have:=(Ht h (t.res (by rw [h];decide))).2.1;omega
  ·have:=(Em (.inl h) (t.res (by rw [h];decide))).2.1;omega
  ·have:=(Em (.inr h) (t.res (by rw [h];decide))).2.1;omega
  ·have:=ib.1 (t.const h).2;omega
 ·rw [decide_eq_false h,Bool.false_or,decide_eq_true_eq]at hf
  omega
section
variable {g h:Hp} {F:Nat} {s:Sl} {X A:List (Nat×Blk)} {fl:List NodeP} {n:NodeP} {R:Value->Hp->Prop}
theorem Si {v:List (List Nat)} (f:FOk fl v) (t:iJ fl fl.length n) (h:Nj fl n=true) {j:Nat} (h1:j<3) (h2:(j:Int)<ai n.kind):
  Fit (ar fl (az n j)) ((mR fl).getD (az n j).toNat [])/\(mR fl).getD (az n j).toNat []=v.getD (az n j).toNat []:=by
 obtain⟨a1,a2,a3,a4⟩:=f.part t h1 h2
 have:=of_decide_eq_true (List.all_eq_true.1 (Bool.and_eq_true_iff.1 h).2 _ (tj t.kind h1 h2))
 rw [gV a1]at this
 have c1:=(f.con a1 a2 this).1
 have e:(mR fl).getD (az n j).toNat []=v.getD (az n j).toNat []:=by
  rw [c1]
  obtain⟨x,hx,e1,_⟩:=jK a1 a2
  unfold mR
  rw [List.getD_eq_getElem?_getD,List.getElem?_map,hx,e1];rfl
 exact⟨by rw [e];exact a4,e⟩
theorem Zj {v:List (List Nat)} (f:FOk fl v) (t:iJ fl fl.length n) (h:Nj fl n=true):bz fl n (mR fl)= [adh fl n]:=by
 have hp:=of_decide_eq_true (Bool.and_eq_true_iff.1 h).1
 have hk35: ¬n.kind=35:=fun e=>by rw [e]at hp;revert hp;decide
 have hk36: ¬n.kind=36:=fun e=>by rw [e]at hp;revert hp;decide
 have hval:bz fl n (mR fl)=bz fl n v:=pg t.kind hk35 hk36 (fun j h1 h2=>(t.part j h1 h2).1) fun p hpm=>by
  obtain⟨j,h1,h2,e⟩:=(fv t.kind).1 hpm
  have:=(Si f t h h1 h2).2
  rw [<-e]at this
  exact⟨this,rfl⟩
 have:=(O1 f t h).2.2.2
 rw [hval,this,Int.toNat_natCast]
theorem Bu {b12 z:Nat} {ro:Bool} {p:Int} (f12:h b12=some (.inl ⟨[Eo F],z,ro⟩)) (e:QZ h F s fl) (h0:0<=p) (hp:p<fl.length) (k:R (uq (ar fl p)) h):rp #[I p, .pointer (some ⟨b12,0,none⟩)] h R:=by
 refine ACalls.drop (zG ?_)
 refine uf_ ?_
 have ls:=e.ns.len
 obtain⟨x,hx,e1,e2⟩:=jK h0 hp
 (with_reducible apply Kn.al);(exact Kn.nil h);(intro b5 h1 K1 l1 hb5)
 have fF:=e.row
 repeat' (refine kr_ ?_)
 obtain⟨b,o,ha,c0,c1,c2,c3,c4,c5,c6,c7,c8⟩:=(e.ns.mono K1.le).at hx
 refine⟨b,o,ha,h0,by omega,_,c6,_,c7,?_⟩
 refine kw_ ?_
 intro h2 K2 _
 simp only [bX,List.set_cons_zero,List.set_cons_succ,Nat.zero_add,Nat.reduceAdd]at K2
 clear K1
 repeat' (refine kr_ ?_)
 rw [e2]at k
 exact⟨h,K2.le,k⟩
set_option maxHeartbeats 1000000 in
theorem Fd {v:List (List Nat)} (e:QZ h F s fl) (f:FOk fl v) (t:iJ fl fl.length n) (ha:Nj fl n=true) (hl:fl.length<=60) (k:R (I (adh fl n:Nat)) h):od #[Eo F,pB n] h R:=by
 refine ACalls.drop (Ck ?_)
 refine uf_ ?_
 have hp:=of_decide_eq_true (Bool.and_eq_true_iff.1 ha).1
 have hk35: ¬n.kind=35:=fun e=>by rw [e]at hp;revert hp;decide
 have hk36: ¬n.kind=36:=fun e=>by rw [e]at hp;revert hp;decide
 have ls:=e.ns.len
 have fF:=e.row
 have xF:=cf fF
 (with_reducible apply Kn.al);(exact Kn.nil h);(intro b12 h1 K1 l1 hb12)
 refine Kn.al K1 fun b14 h2 K2 l2 hb14=>?_
 clear K1
 repeat' (refine kr_ ?_)
 refine⟨by omega,by omega,by omega,by omega,?_⟩
 rw [ls,Int.toNat_natCast,Nat.mul_one,cE]
 refine Kn.al K2 fun b21 h3 K3 l3 hb21=>?_
 clear K2
 repeat' (refine kr_ ?_)
 have hcl:(mR fl).length=fl.length:=by unfold mR;rw [List.length_map]
 refine au fl.length (fun i vs h'=> ∃ts:List Sl,vs= [.pointer (some ⟨b12,0,none⟩), .pointer (some ⟨b14,0,none⟩),(arr b21 fl.length).v,s.v,I (s.n:Nat),I (i:Nat)]/\ts.length=i/\
  Kn h h' ((b21, .inl ⟨ts.map Sl.v++List.replicate (fl.length-i) (.slice none 0 0),fl.length,false⟩)::(b14, .inl ⟨nodeCells n,9,false⟩)::(b12, .inl ⟨[Eo F],1,false⟩):: [])/\
  ∀(j:Nat) (t:Sl),ts[j]?=some t->IntS h' t (VL ((mR fl).getD j []))) ⟨[],by rw [ls];rfl,rfl,K3,fun j t ht=>by simp at ht⟩ ?_
 clear K3 l3 hb21 h3
 rintro i _ h3 next hi ⟨ts,rfl,htl,K3,hts⟩ hnx
 refine⟨b12,0,b14,0,arr b21 fl.length,s,_,_,rfl,?_⟩
 by_cases hlt:i<fl.length
 ·refine aM (by rw [decide_eq_true_eq];omega) ?_
  obtain⟨x,hx⟩: ∃x,fl[i]?=some x:=⟨_,List.getElem?_eq_getElem hlt⟩
  obtain⟨b,o,hax,c0,c1,c2,c3,c4,c5,c6,c7,c8⟩:=(e.ns.mono K3.le).at hx
  refine⟨b,o,hax,by omega,by omega,?_⟩
  rw [Int.toNat_natCast]
  refine⟨_,c0,_,c1,_,c2,_,c3,_,c4,_,c5,_,c6,_,c7,_,c8,?_⟩
  have hx0:=afi (fM f.ok hx)
  refine Kn.al K3 fun b55 h4 K4 l4 hb55=>?_
  refine kw_ ?_
  intro h5 K5 kp5
  simp only [bX,List.set_cons_zero,List.set_cons_succ,Nat.zero_add,Nat.reduceAdd]at K5
  have l35:=im hb55 l4 kp5
  clear K3 K4 kp5 hax c0 c1 c2 c3 c4 c5 c6 c7 c8 l4 hb55 h4
  repeat' (refine kr_ ?_)
  refine Kn.al K5 fun b62 h6 K6 l6 hb62=>?_
  clear K5
  have i62:IntS h6 (arr b62 1) (VL ((mR fl).getD i [])):=by
   have e1:(mR fl).getD i []= [x.n.toNat]:=by
    unfold mR
    rw [List.getD_eq_getElem?_getD,List.getElem?_map,hx];rfl
   rw [e1]
   refine⟨by show 1<=_;omega,rfl, .inr ⟨b62,0,rfl,?_⟩⟩
   have:=aw (K6.at (.head _))
   have e2:(VL [x.n.toNat]).map I= [I x.n]:=by show [I ((x.n.toNat:Nat):Int)]=_;rw [gV hx0]
   rw [e2];exact this
  refine⟨b21,0,rfl,by omega,by show _<((fl.length:Nat):Int);omega,?_⟩
  have f21:=K6.at (b:=b21) (by((focus ((repeat first|exact .head _|apply List.Mem.tail);done))))
  (((with_reducible apply Kn.wr);(assumption);((focus ((repeat first|exact .head|apply Upd.tail);done)))))
  ·rw [List.length_append,List.length_map,List.length_replicate];omega
  intro h7 K7 kp7
  have hrow:(ts.map Sl.v++List.replicate (fl.length-i) (Value.slice none 0 0)).set i (arr b62 1).v=(ts++ [arr b62 1]).map Sl.v++List.replicate (fl.length-(i+1)) (.slice none 0 0):=by
   rw [List.set_append_right _ _ (by simp;omega),List.length_map,htl,Nat.sub_self,show fl.length-i=(fl.length-(i+1))+1 by omega,List.replicate_succ,List.set_cons_zero]
   simp
  rw [Nat.mul_one,Nat.zero_add,bG,show (Value.slice (some ⟨b62,0,none⟩) 1 1)=(arr b62 1).v from rfl,hrow]at K7
  rw [ay (by omega)]
  refine hnx hlt _ _ ⟨ts++ [arr b62 1],rfl,by simp;omega,K7.tl.tl,fun j u hu=>?_⟩
  by_cases hj:j<i
  ·rw [List.getElem?_append_left (by omega)]at hu
   exact((hts j u hu).mono (Hp.le_trans l35 l6)).keepN f21 (yw _ _) kp7
  ·have hju:=get_lt hu
   simp at hju
   obtain rfl:j=i:=by omega
   rw [List.getElem?_append_right (by omega),htl,Nat.sub_self]at hu
   simp at hu;subst hu
   exact i62.keepN f21 (yw _ _) kp7
 refine aC (by rw [decide_eq_false_iff_not];omega) ?_
 obtain rfl:i=fl.length:=by omega
 clear hnx hlt hi next
 repeat' (refine kr_ ?_)
 have hpv:gO h3 (arr b21 fl.length) (mR fl):=by
  refine⟨by rw [hcl];exact Nat.le_refl _,by dsimp only;omega,fun p hp=>?_⟩
  rw [hcl]at hp
  refine⟨b21,0,ts[p]'(by omega),rfl,?_,hts p _ (List.getElem?_eq_getElem (by omega))⟩
  rw [ax (K3.at (.head _)),Nat.zero_add,Nat.mul_one,List.getElem?_append_left (by simp;omega),List.getElem?_map,List.getElem?_eq_getElem (by omega)]
  rfl
 have f12:=K3.at (b:=b12) (by((focus ((repeat first|exact .head _|apply List.Mem.tail);done))))
 have e3:=e.mono K3.le
 refine Tw (f:=rc) (u:= #[]) (w:= #[.pointer (some ⟨b12,0,none⟩)]) t hcl hpv hk35 hk36 (fun j h1 h2=>(Si f t ha h1 h2).1)
  (fun j h1 h2 h' l R' kk=>Bu (l _ _ f12) (e3.mono l) (t.part j h1 h2).1 (t.part j h1 h2).2.1 kk) fun u h4 l4 iu=>⟨_,rfl,?_⟩
 rw [Zj f t ha]at iu
 obtain⟨bu,ou,hua,huc,hun⟩:=iu.elt (i:=0) (by simp)
 exact⟨bu,ou,hua,by omega,by omega,_,huc,h,Hp.le_trans K3.le l4,k⟩
end
section
variable {g h:Hp} {F:Nat} {s:Sl} {X A:List (Nat×Blk)} {fl:List NodeP} {n:NodeP} {R:Value->Hp->Prop}
set_option maxHeartbeats 1000000 in
theorem Yd {v:List (List Nat)} (K:Kn g h (vT F s::(X++A))) (o:bR X s 9 (fl.flatMap nodeCells)) (hl:fl.length<=60) (f:FOk fl v) (t:iJ fl fl.length n) (k:HX g F A fl (AE fl n) R):pO #[Eo F,pB n] h R:=by
 apply Dq
 refine uf_ ?_
 have pt: ∀j:Nat,j<3->(j:Int)<ai n.kind->0<=az n j/\az n j<fl.length:=fun j h1 h2=>⟨(t.part j h1 h2).1,(t.part j h1 h2).2.1⟩
 refine Kn.al K fun b12 h1 K1 l1 hb12=>?_
 obtain⟨g1,KA,K2⟩:=Kn.cut (A:= [(b12, .inl ⟨nodeCells n,9,false⟩)]) (L:=vT F s::(X++A)) K1
 have f12:=KA.at (.head _)
 have x12:=cf f12
 replace k:=k.low KA.le
 clear K K1 KA
 unfold AE at k
 have e:=abv (L:= []) K2 o (by omega)
 have hN:=e.ns
 have ls:=e.ns.len
 repeat' (refine kr_ ?_)
 refine aco e t ⟨_,rfl,?_⟩
 refine ad (fun z=>?_) (fun z=>?_)
 ·rw [if_pos z]at k
  repeat' (refine kr_ ?_)
  refine Fd e f t z hl ⟨_,rfl,?_⟩
  repeat' (refine kr_ ?_)
  exact sA K2 o (by omega) fun s' X' h' K' o'=>⟨_,rfl,k.con s' X' h' K' o'⟩
 rw [if_neg (by rw [z];decide)]at k
 clear z
 repeat' (refine kr_ ?_)
 refine gG (fun hk=>?_) (fun hk=>?_)
 ·rw [if_pos hk]at k
  have hp:ai n.kind=3:=by rw [hk];rfl
  obtain⟨a1,a2⟩:=pt 0 (by omega) (by omega)
  simp only [az]at a1 a2
  repeat' (refine kr_ ?_)
  refine uK e a1 a2 ⟨_,_,rfl,?_⟩
  refine ap (fun J=> ∀b:Bool,(b=true↔(eL fl n.a).kind=34/\(eL fl n.a).n=1)->J b) (fun b hb=>?_) (fun J hJ=>?_)
  rotate_left
  ·refine ad (fun z=>hJ _ ?_) (fun z=>hJ _ ?_)
   ·have z:=of_decide_eq_true z
    rw [beq_iff_eq];exact⟨fun q=>⟨z,q⟩,fun q=>q.2⟩
   ·have z:=of_decide_eq_false z
    exact⟨(fun q=>by cases q),fun q=>absurd q.1 z⟩
  refine ad (fun z=>?_) (fun z=>?_)
  ·rw [if_pos (hb.1 z)]at k
   repeat' (refine kr_ ?_)
   exact k.leaf K2 o (by rw [if_pos rfl])
  rw [if_neg (fun y=>by rw [hb.2 y]at z;cases z)]at k
  refine ad (fun z=>?_) (fun z=>?_)
  ·rw [if_pos (of_decide_eq_true z)]at k
   repeat' (refine kr_ ?_)
   exact k.leaf K2 o (by rw [if_pos rfl])
  rw [if_neg (of_decide_eq_false z)]at k
  repeat' (refine kr_ ?_)
  exact k.leaf K2 o (by simp only [beq_iff_eq])
 rw [if_neg hk]at k
 refine gG (fun hk2=>?_) (fun hk2=>?_)
 ·rw [if_pos hk2]at k
  have hp:ai n.kind=2:=by rw [hk2];rfl
  obtain⟨a1,a2⟩:=pt 0 (by omega) (by omega)
  simp only [az]at a1 a2
  obtain⟨x,hx,e1,e2⟩:=jK a1 a2
  rw [e1]at k
  repeat' (refine kr_ ?_)
  obtain⟨b,q,hax,c0,c1,c2,c3,c4,c5,c6,c7,c8⟩:=hN.at hx
  refine⟨b,q,hax,a1,by omega,?_⟩
  refine⟨_,c0,_,c1,_,c2,_,c3,_,c4,_,c5,_,c6,_,c7,_,c8,?_⟩
  refine Kn.al K2 fun b89 h3 K3 l3 hb89=>?_
  refine⟨aeY l3 (fT c0),?_⟩
  repeat' (refine kr_ ?_)
  clear hN e hax c0 c1 c2 c3 c4 c5 c6 c7 c8
  refine kw_ ?_
  intro h4 K4 _
  simp only [bX,List.set_cons_zero,List.set_cons_succ,Nat.zero_add,Nat.reduceAdd]at K4
  clear K2 K3
  repeat' (refine kr_ ?_)
  refine gG (fun z=>?_) (fun z=>?_)
  ·repeat' (refine kr_ ?_)
   refine k.leaf K4.tl o ?_
   by_cases y:x.b=n.b
   ·rw [if_pos ⟨z,y⟩,if_pos (by rw [beq_iff_eq];exact y)]
   ·rw [if_neg (fun w=>y w.2),if_neg (by rw [beq_iff_eq];exact y)]
  ·exact k.leaf K4.tl o (by rw [if_neg (fun w=>z w.1),if_neg (by decide)])
 rw [if_neg hk2]at k
 refine ap (fun J=> ∀b:Bool,(b=true↔n.kind=1\/n.kind=2)->J b) (fun b hb=>?_) (fun J hJ=>?_)
 rotate_left
 ·clear k
  repeat' (refine gG (fun _=>?_) (fun _=>?_))
  all_goals first|exact hJ true (by simp;omega)|exact hJ false (by simp;omega)|exact hJ _ (by rw [beq_iff_eq];omega)
 refine ad (fun z=>?_) (fun z=>?_)
 ·have hk3:=hb.1 z
  rw [if_pos hk3]at k
  have hp:ai n.kind=1:=by rcases hk3 with q|q<;>rw [q]<;>rfl
  obtain⟨a1,a2⟩:=pt 0 (by omega) (by omega)
  simp only [az]at a1 a2
  obtain⟨x,hx,e1,e2⟩:=jK a1 a2
  rw [e1]at k
  repeat' (refine kr_ ?_)
  obtain⟨b,q,hax,c0,c1,c2,c3,c4,c5,c6,c7,c8⟩:=hN.at hx
  refine⟨b,q,hax,a1,by omega,_,c1,?_⟩
  repeat' (refine kr_ ?_)
  refine⟨b,q,hax,a1,by omega,_,c0,?_⟩
  repeat' (refine kr_ ?_)
  exact k.leaf K2 o (by simp only [beq_iff_eq])
 rw [if_neg (fun y=>by rw [hb.2 y]at z;cases z)]at k
 clear hb z
 refine gG (fun hk3=>?_) (fun hk3=>?_)
 ·rw [if_pos hk3]at k
  have hp:ai n.kind=1:=by rw [hk3];rfl
  obtain⟨a1,a2⟩:=pt 0 (by omega) (by omega)
  simp only [az]at a1 a2
  obtain⟨x,hx,e1,e2⟩:=jK a1 a2
  have so:=bD.1 (fM f.ok hx).sort
  rw [e1]at k
  repeat' (refine kr_ ?_)
  refine gG (fun z=>?_) (fun z=>?_)
  ·repeat' (refine kr_ ?_)
   obtain⟨b,q,hax,c0,c1,c2,c3,c4,c5,c6,c7,c8⟩:=hN.at hx
   refine⟨b,q,hax,a1,by omega,_,c7,?_⟩
   rw [cd (n:=x.sort.wid-1) (by omega) (by omega)]
   refine k.leaf K2 o ?_
   by_cases y:n.n=x.sort.wid-1
   ·rw [if_pos ⟨z,y⟩,if_pos (by rw [beq_iff_eq];exact y)]
   ·rw [if_neg (fun w=>y w.2),if_neg (by rw [beq_iff_eq];exact y)]
  ·exact k.leaf K2 o (by rw [if_neg (fun w=>z w.1),if_neg (by decide)])
 rw [if_neg hk3]at k
 refine ap (fun J=> ∀b:Bool,(b=true↔n.kind=31\/n.kind=32)->J b) (fun b hb=>?_) (fun J hJ=>?_)
 rotate_left
 ·clear k
  repeat' (refine gG (fun _=>?_) (fun _=>?_))
  all_goals first|exact hJ true (by simp;omega)|exact hJ false (by simp;omega)|exact hJ _ (by rw [beq_iff_eq];omega)
 refine ad (fun z=>?_) (fun z=>?_)
 ·rw [if_pos (hb.1 z)]at k
  repeat' (refine kr_ ?_)
  exact k.leaf K2 o (by simp only [beq_iff_eq])
 rw [if_neg (fun y=>by rw [hb.2 y]at z;cases z)]at k
 clear hb z
 repeat' (refine kr_ ?_)
 refine gU ⟨_,rfl,ad (fun z=>?_) (fun z=>?_)⟩
 ·have hk4:=of_decide_eq_true z
  rw [if_pos hk4]at k
  repeat' (refine kr_ ?_)
  exact YO (n:=n) K2 o (by omega) f.ok t hk4 ⟨fun q s X x h' K o=>⟨_,_,rfl,k.no q s X x h' K o⟩,fun fl' p q s X h' K o=>⟨_,_,rfl,k.yes fl' p q s X h' K o⟩⟩
 ·rw [if_neg (of_decide_eq_false z)]at k
  exact k.leaf K2 o (by rw [if_neg (by decide)])
theorem Kn.inn {a b:Nat×Blk} (K:Kn g h (b::a::(X++A))):Kn g h (a::(X++(b::A))):=K.perm ((List.Perm.swap _ _ _).trans (List.Perm.cons _ List.perm_middle.symm))
theorem Kn.outb {a b:Nat×Blk} (K:Kn g h (a::(X++(b::A)))):Kn g h (b::a::(X++A)):=K.perm ((List.Perm.cons _ List.perm_middle).trans (List.Perm.swap _ _ _))
theorem abE {v:List (List Nat)} (K:Kn g h (vT F s::(X++A))) (o:bR X s 9 (fl.flatMap nodeCells)) (hl:fl.length<=60) (f:FOk fl v) (t:iJ fl fl.length n)
  (k: ∀s' X' h',Kn g h' (vT F s'::(X'++A))->bR X' s' 9 ((CI fl n).1.flatMap nodeCells)->R (I ((CI fl n).2:Nat)) h'):qW #[Eo F,pB n] h R:=by
 apply Fj
 refine uf_ ?_
 refine Kn.al K fun b12 h1 K1 l1 hb12=>?_
 repeat' (refine kr_ ?_)
 have hr:=zD f t
 refine Yd (n:=n) (A:=(b12, .inl ⟨nodeCells n,9,false⟩)::A) K1.inn o hl f t ⟨fun e s1 X1 x h2 K2 o2=>⟨_,_,rfl,aC rfl ?_⟩,fun fl' p e s1 X1 h2 K2 o2=>⟨_,_,rfl,aM rfl ?_⟩⟩
 rotate_left
 ·replace K2:=K2.outb.tl
  unfold CI at k
  cases hru:AE fl n with
  |no=>rw [hru]at e;cases e
  |pl q=>
   rw [hru]at e k hr
   cases e
   dsimp only at k
   rw [gV hr.1]at k
   exact k s1 X1 h2 K2 o2
  |co w x=>
   rw [hru]at e k
   cases e
   exact k s1 X1 h2 K2 o2
 clear K K1
 replace K2:=K2.outb
 unfold CI at k
 rw [e]at k
 dsimp only at k
 repeat' (refine kr_ ?_)
 refine ap (fun J=> ∀b:Bool,(b=true↔DH n.kind=true/\n.b<n.a)->J b h2) (fun b hb=>?_) (fun J hJ=>?_)
 rotate_left
 ·repeat' (refine kr_ ?_)
  refine TM ⟨_,rfl,ad (fun z=>?_) (fun z=>hJ _ (by simp [z]))⟩
  repeat' (refine kr_ ?_)
  exact hJ _ (by rw [decide_eq_true_eq];exact⟨fun q=>⟨z,q⟩,fun q=>q.2⟩)
 refine ap (fun J=> ∀h',Kn g h' ((b12, .inl ⟨nodeCells (tA n),9,false⟩)::vT F s1::(X1++A))->J h') (fun h3 K3=>?_) (fun J hJ=>?_)
 ·repeat' (refine kr_ ?_)
  exact RE (n:=tA n) (A:=(b12, .inl ⟨nodeCells (tA n),9,false⟩)::A) K3.inn o2 (by omega) fun s' X' h' K' o'=>⟨_,rfl,k s' X' h' K'.outb.tl o'⟩
 ·unfold tA at hJ
  refine ad (fun z=>?_) (fun z=>?_)
  ·rw [if_pos (hb.1 z)]at hJ
   repeat' (refine kr_ ?_)
   refine kw_ ?_
   intro h3 K3 _
   simp only [bX,List.set_cons_zero,List.set_cons_succ,Nat.zero_add,Nat.reduceAdd]at K3
   clear K2
   refine kw_ ?_
   intro h4 K4 _
   simp only [bX,List.set_cons_zero,List.set_cons_succ,Nat.zero_add,Nat.reduceAdd]at K4
   exact hJ h4 K4
  ·rw [if_neg (fun y=>by rw [hb.2 y]at z;cases z)]at hJ
   exact hJ h2 K2
end
theorem EC {h:Hp} {s:Sl} {bs:List Nat} {R:Value->Hp->Prop} (hcap:s.n<=s.c) (hs:ByteS h s bs)
  (k: ∀(h':Hp) (M:MSl) (m:ah) (sS sI:Sl) (us vs:List Int),h.le h'->aO h' M m->bT m->IntS h' sS us->IntS h' sI vs->sS.n<=sS.c->sI.n<=sI.c->us.length<=400->vs.length<=400->
   R (.tuple #[aQ M, .agg #[sS.v,sI.v]]) h'):oM #[s.v] h R:=by
 apply Cv
 refine uf_ ?_
 (with_reducible apply Kn.al);(exact Kn.nil h);(intro b3 h1 K1 l1 hb3)
 refine Kn.al K1 fun b5 h2 K2 l2 hb5=>?_
 refine I5 K2 hcap hs fun B h3 s' bs' hb K3=>⟨_,rfl,?_⟩
 clear K1 K2
 refine Bc K3 hb (by omega) fun h4 q X M m K4 o d hq=>⟨_,_,_,_,_,rfl,?_⟩
 clear K3
 refine Kn.al K4 fun b19 h5 K5 l5 hb19=>?_
 refine ww (M':=M) K5 (by((focus ((repeat first|exact .head|apply Upd.tail);done)))) rfl fun h6 K6=>?_
 clear K4 K5 l5 hb19
 simp only [List.cons_append,List.nil_append]at K6
 repeat' (refine kr_ ?_)
 have K7:Kn h h6 (((b19, .inl ⟨aH M,5,false⟩)::(b5, .inl ⟨[(⟨none,0,0⟩:Sl).v,(⟨none,0,0⟩:Sl).v],2,false⟩)::(b3, .inl ⟨eA,5,false⟩)::X)++ [(B,rdC s' q)]):=by
  refine K6.perm ?_
  refine List.Perm.trans ?_ (List.perm_append_comm (l₁:= [(B,rdC s' q)]))
  exact List.Perm.swap _ _ _
 obtain⟨g0,KA,KL⟩:=Kn.cut K7
 clear K7
 have hm:=d.small (by omega)
 refine LR (hb.mono KA.le) KL (o.modelS (A:= [_,_,_]) hm KA) hm (by omega) fun sS sI us vs h8 l8 i1 i2 c1 c2 n1 n2=>⟨_,_,rfl,?_⟩
 have K8:=KA.mono l8
 clear KL KA
 repeat' (refine kr_ ?_)
 clear K6
 have f3:=K8.at (b:=b3) (.tail _ (.tail _ (.head _)))
 refine kw_ ?_
 intro h9 K9 kp9
 simp only [bX,List.set_cons_zero,List.set_cons_succ,Nat.zero_add,Nat.reduceAdd]at K9
 replace i1:=i1.keepN f3 (yV ⟨none,0,0⟩ ⟨none,0,0⟩ ⟨none,0,0⟩ ⟨none,0,0⟩ ⟨none,0,0⟩) kp9
 replace i2:=i2.keepN f3 (yV ⟨none,0,0⟩ ⟨none,0,0⟩ ⟨none,0,0⟩ ⟨none,0,0⟩ ⟨none,0,0⟩) kp9
 have f5:=K9.at (b:=b5) (.tail _ (.head _))
 clear K8 kp9 f3
 refine kw_ ?_
 intro h10 K10 kp10
 simp only [bX,List.set_cons_zero,List.set_cons_succ,Nat.zero_add,Nat.reduceAdd]at K10
 replace i1:=i1.keepN f5 (hG ⟨none,0,0⟩ ⟨none,0,0⟩) kp10
 replace i2:=i2.keepN f5 (hG ⟨none,0,0⟩ ⟨none,0,0⟩) kp10
 clear K9 kp10 f5
 repeat' (refine kr_ ?_)
 exact k h10 M m sS sI us vs K10.le (o.modelS (A:= [_,_,_]) hm K10) hm i1 i2 c1 c2 n1 n2
theorem JB {m:ah} (g:cr m):bT m:=by
 have:=g.nl
 have:=g.il
 have:=g.xl
 have:=g.bl
 have:=g.hl
 exact⟨by omega,by omega,by omega,by omega,by omega,fun n hn=>by have:=g.small n hn;omega⟩
theorem So {m:ah}:bT (Ld m):=by
 unfold Ld
 split
 ·rename_i hc;exact JB (GM (cD hc))
 ·exact⟨by simp,by simp,by simp,by simp,by simp,fun n hn=>by simp at hn⟩
set_option maxHeartbeats 1000000 in
theorem CB {h:Hp} {M:MSl} {m:ah} {R:Value->Hp->Prop} (hs:aO h M m) (hm:bT m)
  (k: ∀M' h',h.le h'->aO h' M' (Ld m)->R (aQ M') h'):rR #[aQ M] h R:=by
 apply F0
 refine uf_ ?_
 (with_reducible apply Kn.al);(exact Kn.nil h);(intro b7 h1 K1 l1 hb7)
 refine Kn.al K1 fun b9 h2 K2 l2 hb9=>?_
 clear K1
 repeat' (refine kr_ ?_)
 refine gJ (hs.mono K2.le) hm ⟨_,rfl,?_⟩
 unfold Ld at k
 refine ad (fun e=>?_) (fun e=>?_)
 ·rw [if_neg (i7 e)]at k
  refine kw_ ?_
  intro h3 K3 _
  simp only [bX,List.set_cons_zero,List.set_cons_succ,Nat.zero_add,Nat.reduceAdd]at K3
  refine⟨⟨none,0,0⟩,by rw [ax (K3.at (.head _))];rfl,⟨none,0,0⟩,by rw [ax (K3.at (.head _))];rfl,⟨none,0,0⟩,by rw [ax (K3.at (.head _))];rfl,⟨none,0,0⟩,by rw [ax (K3.at (.head _))];rfl,⟨none,0,0⟩,by rw [ax (K3.at (.head _))];rfl,?_⟩
  exact k _ h3 K3.le (BB h3)
 have hc:=fY e
 rw [if_pos hc]at k
 have g:=cD hc
 have hN:=g.nl
 have hnl:=hs.nodes.len
 have hna:=(j8 g.twice).1
 have z36:kZ m.nodes 36 (ct m.nodes (av m.nodes 36)):=pE g.ok (ew _ _)
 have z35:kZ m.nodes 35 (ct m.nodes (av m.nodes 35)):=pE g.ok (ew _ _)
 obtain⟨g1,KA,K3⟩:=Kn.cut (A:= [(b7, .inl ⟨aH M,5,false⟩)]) (L:= [(b9, .inl ⟨[slN,slN,slN,slN,slN],5,false⟩)]) K2.sw
 have f7:=KA.at (.head _)
 have l01:=KA.le
 have hs1:=hs.mono l01
 have x7:=cf f7
 clear K2 KA
 refine Kn.al K3 fun b31 h3 K4 l3 hb31=>?_
 clear K3
 repeat' (refine kr_ ?_)
 refine au m.nodes.length (fun i vs h'=> ∃(sL sT:Sl) (XL XT:List (Nat×Blk)),vs= [.pointer (some ⟨b7,0,none⟩), .pointer (some ⟨b9,0,none⟩),Eo b31,sT.v,M.no.v,I (M.no.n:Nat),I (i:Nat)]/\
  Kn g1 h' (vT b31 sL::(XL++(XT++ [(b9, .inl ⟨[slN,slN,slN,slN,slN],5,false⟩)])))/\bR XL sL 9 ((jP m.nodes i).1.flatMap nodeCells)/\bR XT sT 1 ((jP m.nodes i).2.map I))
  ⟨⟨none,0,0⟩,⟨none,0,0⟩, [], [],rfl,K4,cF 9,cF 1⟩ ?_
 clear K4 l3 hb31 h3
 rintro i _ h3 next hi ⟨sL,sT,XL,XT,rfl,K,oL,oT⟩ hnx
 refine⟨b7,0,b9,0,b31,0,sT,M.no,_,_,rfl,?_⟩
 have FI:=Sz g.ok g.nl hna i hi
 have hle:=FI.le
 have htl:=FI.tl
 have nL:=oL.1
 rw [ck (m:=9) (fun _=>rfl)]at nL
 have nT:=oT.1
 rw [List.length_map,htl]at nT
 have iT:IntS h3 sT (jP m.nodes i).2:=oT.slcOf (by omega) fun e he=>K.mem e (.tail _ (List.mem_append_right _ (List.mem_append_left _ he)))
 by_cases hlt:i<m.nodes.length
 ·refine aM (by rw [decide_eq_true_eq];omega) ?_
  obtain⟨n,hn⟩: ∃n,m.nodes[i]?=some n:=⟨_,List.getElem?_eq_getElem hlt⟩
  obtain⟨b,o,hax,c0,c1,c2,c3,c4,c5,c6,c7,c8⟩:=(hs1.mono K.le).nodes.at hn
  refine⟨b,o,hax,by omega,by omega,?_⟩
  rw [Int.toNat_natCast]
  refine⟨_,c0,_,c1,_,c2,_,c3,_,c4,_,c5,_,c6,_,c7,_,c8,?_⟩
  clear hax c0 c1 c2 c3 c4 c5 c6 c7 c8
  refine Kn.al K fun b65 h4 K4 l4 hb65=>?_
  refine kw_ ?_
  intro h5 K5 kp5
  simp only [bX,List.set_cons_zero,List.set_cons_succ,Nat.zero_add,Nat.reduceAdd]at K5
  replace iT:=iT.mono (im hb65 l4 kp5)
  clear K4 kp5 l4 hb65 K
  repeat' (refine kr_ ?_)
  have tn:=fM g.ok hn
  refine Ha (n:=n) iT tn.kind (fun j h1 h2=>by have:=tn.part j h1 h2;rw [htl];exact⟨this.1,this.2.1⟩) ⟨_,_,_,_,_,_,_,_,_,rfl,?_⟩
  have t:=FI.typed g.ok hn
  have fo:=FI.fok g.ok (Nat.le_of_lt hlt) z36 z35
  have hst:jP m.nodes (i+1)=((CI (jP m.nodes i).1 (cA (dv (jP m.nodes i).2) n)).1,(jP m.nodes i).2++ [((CI (jP m.nodes i).1 (cA (dv (jP m.nodes i).2) n)).2:Int)]):=by
   show ((CI (jP m.nodes i).1 (cA (dv (jP m.nodes i).2) (eL m.nodes (i:Int)))).1,_)=_
   rw [show eL m.nodes (i:Int)=n from Jp (by rw [Int.toNat_natCast];exact hn)]
  refine abE (n:=cA (dv (jP m.nodes i).2) n) (A:=XT++ [(b9, .inl ⟨[slN,slN,slN,slN,slN],5,false⟩)]) K5.tl oL (by omega) fo t fun sL' XL' h6 K6 oL'=>⟨_,rfl,?_⟩
  clear K5 iT
  refine Kn.al K6 fun b94 h7 K7 l7 hb94=>?_
  clear K6
  refine Kn.growIn (A:=(b94, .inl ⟨[I ((CI (jP m.nodes i).1 (cA (dv (jP m.nodes i).2) n)).2:Nat)],1,false⟩)::vT b31 sL'::XL') (X:=XT) (L:= [(b9, .inl ⟨[slN,slN,slN,slN,slN],5,false⟩)]) K7 oT (by omega) (by omega) (by omega) ⟨b94,0,rfl,aw (K7.at (.head _))⟩ rfl rfl fun sT' XT' h8 hn8 oT' K8 _=>?_
  rw [ay (by omega)]
  refine hnx hlt _ _ ⟨sL',sT',XL',XT',rfl,K8.tl,by rw [hst];exact oL',by rw [hst,List.map_append];exact oT'⟩
 refine aC (by rw [decide_eq_false_iff_not];omega) ?_
 obtain rfl:i=m.nodes.length:=by omega
 clear hnx hlt hi next
 repeat' (refine kr_ ?_)
 have K2:Kn g1 h3 ((vT b31 sL::(XL++XT))++ [(b9, .inl ⟨[slN,slN,slN,slN,slN],5,false⟩)]):=by rw [List.cons_append,List.append_assoc];exact K
 obtain⟨g3,KA,KL⟩:=Kn.cut K2
 clear K K2 iT
 have iT:IntS g3 sT (gv m):=oT.slcOf (by omega) fun e he=>KA.mem e (.tail _ (List.mem_append_right _ he))
 have iN:gw g3 sL (dm m):=oL.slcOf (by omega) fun e he=>KA.mem e (.tail _ (List.mem_append_left _ he))
 have hs3:=hs1.mono KA.le
 have l03:=Hp.le_trans l01 KA.le
 have hcap:=oL.2.1
 have inT: ∀p:Int,cU m.nodes p=true->FV (gv m) p:=fun p hp=>by
  unfold FV
  have:=et.1 hp
  rw [ac4 g]
  exact this
 clear KA
 refine I9 (M:=M) (sN:=sL) (t:=sT) (hs3.mono KL.le) hm (iN.mono KL.le) hcap (iT.mono KL.le)
  (fun b hb=>⟨inT _ (eU (g.ini b hb)).1,inT _ (eU (g.ini b hb)).2.1⟩) (fun b hb=>⟨inT _ (dn (g.nex b hb)).1,inT _ (dn (g.nex b hb)).2.1⟩)
  (fun p hp=>inT p (by have:=g.bad p hp;unfold da at this;exact(Bool.and_eq_true_iff.1 this).1)) (fun p hp=>inT p (by have:=g.hol p hp;unfold da at this;exact(Bool.and_eq_true_iff.1 this).1)) fun M2 h15 l15 hM2=>⟨_,_,_,_,_,rfl,?_⟩
 replace hM2:aO h15 M2 (iH m):=hM2
 have K16:=KL.mono l15
 clear KL
 have smF:=JB (GM g)
 refine nz hM2 smF fun M3 ZN ZI ZX ZB ZH h16 o3 K17=>⟨_,_,_,_,_,rfl,?_⟩
 have K18:=K16.app K17.le (fun e he=>K17.new e he) (fun e he=>K17.mem e he) K17.nd
 clear K16 K17
 refine kw_ ?_
 intro h17 K19 _
 simp only [bX,List.set_cons_zero,List.set_cons_succ,Nat.zero_add,Nat.reduceAdd]at K19
 clear K18
 repeat' (refine kr_ ?_)
 exact k M3 h17 (Hp.le_trans l03 K19.le) (o3.modelS (K19.tl) smF)
set_option maxHeartbeats 1000000 in
theorem FnFoldTrace_spec {h:Hp} {s:Sl} {bs:List Nat} {R:Value->Hp->Prop} (hcap:s.n<=s.c) (hs:ByteS h s bs) (k:R (.bool true) h):vE #[s.v] h R:=by
 refine ACalls.drop (DB ?_)
 refine uf_ ?_
 refine ad (fun _=>⟨h,Hp.le_refl _,k⟩) (fun _=>?_)
 refine EC hcap hs fun h1 M m sS sI us vs l1 hM hm i1 i2 c1 c2 n1 n2=>⟨_,_,_,_,_,_,_,rfl,?_⟩
 have fin: ∀h' L,Kn h1 h' L-> ∃h'',h''.le h'/\R (.bool true) h'':=fun h' L K=>⟨h,Hp.le_trans l1 K.le,k⟩
 (with_reducible apply Kn.al);(exact Kn.nil h1);(intro b16 h2 K1 l2 hb16)
 refine Kn.al K1 fun b18 h3 K2 l3 hb18=>?_
 refine ww (M':=M) K2 (by((focus ((repeat first|exact .head|apply Upd.tail);done)))) rfl fun h4 K4=>?_
 clear K1 K2
 refine kw_ ?_
 intro h5 K5 _
 simp only [bX,List.set_cons_zero,List.set_cons_succ,Nat.zero_add,Nat.reduceAdd]at K5
 clear K4
 repeat' (refine kr_ ?_)
 refine CB (M:=M) (hM.mono K5.le) hm fun C h6 l6 hC=>⟨_,_,_,_,_,rfl,?_⟩
 have K6:=K5.mono l6
 clear K5
 refine Kn.al K6 fun b39 h7 K7 l7 hb39=>?_
 refine kw_ ?_
 intro h8 K8 kp8
 simp only [bX,List.set_cons_zero,List.set_cons_succ,Nat.zero_add,Nat.reduceAdd]at K8
 replace hC:=hC.mono (im hb39 l7 kp8)
 clear K6 K7 kp8 l7 hb39 h7 l6
 have hM8:=hM.mono K8.le
 have j1:=i1.mono K8.le
 have j2:=i2.mono K8.le
 have smF:bT (Ld m):=So
 repeat' (refine kr_ ?_)
 refine ky (M:=M) (sS:=sS) (sI:=sI) hM8 hm j1 j2 c1 ⟨_,rfl,?_⟩
 refine ap (fun J=>J false h8) ?_ (fun J hJ=>?_)
 rotate_left
 ·repeat' (refine kr_ ?_)
  refine oQ (M:=M) (sS:=sS) (sI:=sI) hM8 hm j1 j2 ⟨_,rfl,aC (by simp) ?_⟩
  repeat' (refine kr_ ?_)
  refine pY (M:=M) (sS:=sS) (sI:=sI) hM8 hm j1 j2 c1 ⟨_,rfl,?_⟩
  repeat' (refine kr_ ?_)
  refine pS (M:=M) (sS:=sS) (sI:=sI) hM8 hm j1 j2 ⟨_,rfl,?_⟩
  simpa using hJ
 refine aC rfl ?_
 repeat' (refine kr_ ?_)
 refine cj (M:=M) hM8 hm ⟨_,rfl,ad (fun _=>?_) (fun e=>?_)⟩
 ·repeat' (refine kr_ ?_)
  exact fin _ _ K8
 have hc:=fY e
 have g:=cD hc
 obtain⟨q1,q2⟩:=Uv g us vs
 rw [show Ld m=iH m by unfold Ld;rw [if_pos hc]]at hC smF
 have q3:fI (iH m) us vs=fI m us vs:=by
  unfold fI
  rw [q1,q2]
 repeat' (refine kr_ ?_)
 refine ky (M:=C) (sS:=sS) (sI:=sI) hC smF j1 j2 c1 ⟨_,rfl,aM (by rw [q1];simp) ?_⟩
 repeat' (refine kr_ ?_)
 refine pY (M:=C) (sS:=sS) (sI:=sI) hC smF j1 j2 c1 ⟨_,rfl,?_⟩
 repeat' (refine kr_ ?_)
 refine pS (M:=M) (sS:=sS) (sI:=sI) hM8 hm j1 j2 ⟨_,rfl,?_⟩
 rw [q3,show ((fI m us vs==fI m us vs)=true) by simp]
 exact fin _ _ K8
end Go.Lead
