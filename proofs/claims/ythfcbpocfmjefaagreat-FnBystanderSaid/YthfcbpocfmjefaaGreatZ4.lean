/- What functions of the program and of the reference come to, walked one by one, and plain laws about it: part 5. No condition is added to the statement. -/
import Derived.Test.YthfcbpocfmjefaaGreatZ3
namespace Go.Lead
open Go
set_option linter.unusedSimpArgs false
set_option linter.unusedVariables false
set_option maxRecDepth 100000
set_option maxHeartbeats 1000000
def Fl (m:ah) (f:Nat->Bool):Prop:=I6 m.nodes f/\ ∀i,f i=true->kX m i
theorem Fl.join {m:ah} (gd:cr m) {f:Nat->Bool} (V0:Fl m f) {a:Nat} (ha:kX m a):Fl m fun j=>f j||z7 m.nodes a j:=by
 refine⟨fun k b n hk hn hb=>?_,fun i hi=>?_⟩
 ·rcases Bool.or_eq_true_iff.1 hk with hk|hk
  ·exact Bool.or_eq_true_iff.2 (.inl (V0.1 k b n hk hn hb))
  ·exact Bool.or_eq_true_iff.2 (.inr (Ry (dH gd.ok) a k b n hk hn hb))
 ·rcases Bool.or_eq_true_iff.1 hi with hi|hi
  ·exact V0.2 i hi
  ·exact Va ha hi
theorem or_self {f D:Nat->Bool} (h: ∀j,D j=true->f j=true):(fun j=>f j||D j)=f:=by
 funext j
 cases hD:D j
 ·rw [Bool.or_false]
 ·rw [h j hD,Bool.true_or]
theorem BN {binds:List BindP} {a:Nat}:0<=ii binds a↔ ∃k:Nat,bO binds a=some k:=by
 unfold ii
 cases bO binds a with
 |none=>simp
 |some k=>simp
theorem Wy {m:ah} {binds:List BindP} (ag:gQ (binds.map (·.state))=false) {f:Nat->Bool} {a:Nat} (h: ∀k:Nat,bO binds a=some k->f k=true): ∀b∈binds,b.state=(a:Int)->f b.node.toNat=true:=
 fun b hb e=>h _ (P4 ag hb e)
set_option maxHeartbeats 1000000 in
theorem BH {h:Hp} {M:MSl} {m:ah} {R:Value->Hp->Prop} (hs:aO h M m) (hm:bT m) (gd:cr m)
  (k: ∀h' b,Kn h h' [(b, .inl ⟨mkC m.nodes.length (cP m),m.nodes.length,false⟩)]->R (Sl.v (arr b m.nodes.length)) h'):sM #[aQ M] h R:=by
 apply Nm
 refine uf_ ?_
 have hn:=hs.nodes.len
 have hN:=gd.nl
 (with_reducible apply Kn.al);(exact Kn.nil h);(intro b7 h1 K1 l1 hb7)
 repeat' (refine kr_ ?_)
 rw [hn]
 refine⟨by omega,by omega,by omega,by omega,?_⟩
 rw [Int.toNat_natCast,Nat.mul_one,cE,BQ]
 refine Kn.al K1 fun b11 h2 K2 l2 hb11=>?_
 obtain⟨g0,KA,KL⟩:=Kn.cut (A:= [_]) (L:= [_]) K2.sw
 clear K1 K2 l1 l2 hb7 hb11
 have f7:=KA.at (.head _)
 have x7:=cf f7
 have hs0:=hs.mono KA.le
 have l00:=KA.le
 clear KA
 have lt_of: ∀{i:Nat},kX m i->i<m.nodes.length:=fun h=>zK gd h
 have hbn:=hs.bads.len
 have hhn:=hs.holds.len
 have hbl:=gd.bl
 have hhl:=gd.hl
 refine au m.bads.length (fun i vs h'=>vs= [.pointer (some ⟨b7,0,none⟩),(arr b11 m.nodes.length).v,I (i:Nat)]/\ ∃f,Fl m f/\(∀j p,j<i->m.bads[j]?=some p->f p.toNat=true)/\Kn g0 h' [(b11, .inl ⟨mkC m.nodes.length f,m.nodes.length,false⟩)])
  ⟨rfl,fun _=>false,⟨(fun _ _ _ e=>nomatch e),(fun _ e=>nomatch e)⟩,(fun j p hj=>by omega),KL⟩ ?_
 clear KL h1 h2
 rintro i _ h1 next hi ⟨rfl,f,V0,hb,K⟩ hnx
 refine⟨b7,0,_,_,rfl,?_⟩
 repeat' (refine kr_ ?_)
 by_cases hlt:i<m.bads.length
 ·refine aM (decide_eq_true (by omega)) ?_
  repeat' (refine kr_ ?_)
  obtain⟨p,hp⟩: ∃p,m.bads[i]?=some p:=⟨_,List.getElem?_eq_getElem hlt⟩
  obtain⟨b,o,ha,hc⟩:=(hs0.mono K.le).bads.get hp
  refine⟨b,o,ha,by omega,by omega,p,by rw [Int.toNat_natCast];exact hc,?_⟩
  have hpm:=List.mem_of_getElem? hp
  have hpp:=gd.bad p hpm
  have hpn:=lt_of (.bad hpm)
  obtain⟨q,rfl⟩: ∃q:Nat,p=q:=⟨p.toNat,by
   unfold da at hpp
   have:=eE (Bool.and_eq_true_iff.1 hpp).1
   omega⟩
  rw [Int.toNat_natCast]at hpn
  refine wO hs0 hm gd K hpn fun h2 c K2 _ _=>⟨c,rfl,?_⟩
  rw [ay (by omega)]
  refine hnx hlt _ _ ⟨rfl,_,V0.join gd (by have:=kX.bad hpm;rwa [Int.toNat_natCast]at this),fun j p' hj hp'=>?_,K2⟩
  by_cases e:j=i
  ·subst e
   rw [hp]at hp';cases hp'
   rw [Int.toNat_natCast,zR,Bool.or_true]
  ·rw [hb j p' (by omega) hp',Bool.true_or]
 refine aC (decide_eq_false (by omega)) ?_
 obtain rfl:i=m.bads.length:=by omega
 have hb': ∀p∈m.bads,f p.toNat=true:=fun p hp=>by
  obtain⟨j,hj⟩:=List.mem_iff_getElem?.1 hp
  exact hb j p (get_lt hj) hj
 clear hnx hlt hi hb next
 refine au m.holds.length (fun i vs h'=>vs= [.pointer (some ⟨b7,0,none⟩),(arr b11 m.nodes.length).v,I (i:Nat)]/\ ∃f,Fl m f/\(∀p∈m.bads,f p.toNat=true)/\(∀j p,j<i->m.holds[j]?=some p->f p.toNat=true)/\Kn g0 h' [(b11, .inl ⟨mkC m.nodes.length f,m.nodes.length,false⟩)])
  ⟨rfl,f,V0,hb',(fun j p hj=>by omega),K⟩ ?_
 clear K V0 hb' f h1
 rintro i _ h1 next hi ⟨rfl,f,V0,hb',hb,K⟩ hnx
 refine⟨b7,0,_,_,rfl,?_⟩
 repeat' (refine kr_ ?_)
 by_cases hlt:i<m.holds.length
 ·refine aM (decide_eq_true (by omega)) ?_
  repeat' (refine kr_ ?_)
  obtain⟨p,hp⟩: ∃p,m.holds[i]?=some p:=⟨_,List.getElem?_eq_getElem hlt⟩
  obtain⟨b,o,ha,hc⟩:=(hs0.mono K.le).holds.get hp
  refine⟨b,o,ha,by omega,by omega,p,by rw [Int.toNat_natCast];exact hc,?_⟩
  have hpm:=List.mem_of_getElem? hp
  have hpp:=gd.hol p hpm
  have hpn:=lt_of (.hold hpm)
  obtain⟨q,rfl⟩: ∃q:Nat,p=q:=⟨p.toNat,by
   unfold da at hpp
   have:=eE (Bool.and_eq_true_iff.1 hpp).1
   omega⟩
  rw [Int.toNat_natCast]at hpn
  refine wO hs0 hm gd K hpn fun h2 c K2 _ _=>⟨c,rfl,?_⟩
  rw [ay (by omega)]
  refine hnx hlt _ _ ⟨rfl,_,V0.join gd (by have:=kX.hold hpm;rwa [Int.toNat_natCast]at this),(fun p hp=>by rw [hb' p hp,Bool.true_or]),fun j p' hj hp'=>?_,K2⟩
  by_cases e:j=i
  ·subst e
   rw [hp]at hp';cases hp'
   rw [Int.toNat_natCast,zR,Bool.or_true]
  ·rw [hb j p' (by omega) hp',Bool.true_or]
 refine aC (decide_eq_false (by omega)) ?_
 obtain rfl:i=m.holds.length:=by omega
 have hh': ∀p∈m.holds,f p.toNat=true:=fun p hp=>by
  obtain⟨j,hj⟩:=List.mem_iff_getElem?.1 hp
  exact hb j p (get_lt hj) hj
 clear hnx hlt hi hb next
 refine nF (pg f m.nodes.length+1) (fun q vs h'=> ∃(c:Bool) (f:Nat->Bool),q=(if c then pg f m.nodes.length+1 else 0)/\vs= [.pointer (some ⟨b7,0,none⟩),(arr b11 m.nodes.length).v, .bool c]/\Fl m f/\(∀p∈m.bads,f p.toNat=true)/\(∀p∈m.holds,f p.toNat=true)/\
  (c=false-> ∀a,a<m.nodes.length->IJ m f a)/\Kn g0 h' [(b11, .inl ⟨mkC m.nodes.length f,m.nodes.length,false⟩)]) ⟨true,f,rfl,rfl,V0,hb',hh',(fun e=>nomatch e),K⟩ ?_
 clear K V0 hb' hh' f h1
 rintro q _ h1 next ⟨c,f,eq,rfl,V0,hb',hh',hc,K⟩ hnx
 refine⟨b7,0,arr b11 _,c,rfl,?_⟩
 cases c
 ·refine aC rfl ?_
  have:=WU hb' hh' V0.1 (fun a=>(fun e=>hc rfl a (lt_of (V0.2 a e)) e)) V0.2
  subst this
  exact k h1 b11 (K.weak l00)
 refine aM rfl ?_
 rw [if_pos rfl]at eq
 subst eq
 clear hc
 obtain⟨_,agi,agx⟩:=j6 gd.twice
 have hil:=gd.il
 have hxl:=gd.xl
 have ini0: ∀b∈m.inits,0<=b.node:=fun b hb=>by have:=eE (eO (gd.ini b hb)).2.1;omega
 have nex0: ∀b∈m.nexts,0<=b.node:=fun b hb=>by have:=eE (dn (gd.nex b hb)).2.1;omega
 refine au m.nodes.length (fun i vs h'=> ∃(c:Bool) (f':Nat->Bool),vs= [.pointer (some ⟨b7,0,none⟩),(arr b11 m.nodes.length).v, .bool c,I (i:Nat)]/\Fl m f'/\(∀p∈m.bads,f' p.toNat=true)/\(∀p∈m.holds,f' p.toNat=true)/\
  (pg f' m.nodes.length<=pg f m.nodes.length)/\(c=true->pg f' m.nodes.length<pg f m.nodes.length)/\(c=false-> ∀a,a<i->IJ m f' a)/\Kn g0 h' [(b11, .inl ⟨mkC m.nodes.length f',m.nodes.length,false⟩)])
  ⟨false,f,rfl,V0,hb',hh',Nat.le_refl _,(fun e=>nomatch e),(fun _ a ha=>by omega),K⟩ ?_
 clear K V0 hb' hh' h1
 rintro i _ h1 next2 hi ⟨c,f',rfl,V0,hb',hh',hle,hct,hcf,K⟩ hnx2
 refine⟨b7,0,arr b11 _,c,_,rfl,?_⟩
 repeat' (refine kr_ ?_)
 by_cases hlt:i<m.nodes.length
 rotate_left
 ·refine aC (decide_eq_false (by omega)) ?_
  obtain rfl:i=m.nodes.length:=by omega
  refine hnx (if c then pg f' m.nodes.length+1 else 0) ?_ _ _ ⟨c,f',rfl,rfl,V0,hb',hh',hcf,K⟩
  cases c
  ·show 0<_;omega
  ·have:=hct rfl
   show pg f' m.nodes.length+1<_;omega
 refine aM (decide_eq_true (by omega)) ?_
 have fb:=K.at (.head _)
 obtain⟨n,hni⟩: ∃n,m.nodes[i]?=some n:=⟨_,List.getElem?_eq_getElem hlt⟩
 refine ap (fun J=>J (!(f' i&&decide (n.kind=36)))) (ad (fun e=>?_) (fun e=>?_)) (fun J hJ=>?_)
 ·rw [ay (by omega)]
  refine hnx2 hlt _ _ ⟨c,f',rfl,V0,hb',hh',hle,hct,fun ec a ha=>?_,K⟩
  by_cases q:a=i
  ·subst q
   intro hf
   rw [hf,Bool.true_and,Bool.not_eq_true',decide_eq_false_iff_not]at e
   have kk:gu m.nodes (a:Nat)=n.kind:=by
    unfold gu;simp [hni]
   exact⟨fun b hb es=>absurd (by have:=(eO (gd.ini b hb)).2.2.1;rw [es,kk]at this;exact this) e,fun b hb es=>absurd (by have:=(dn (gd.nex b hb)).2.2.1;rw [es,kk]at this;exact this) e⟩
  ·exact hcf ec a (by omega)
 ·rw [Bool.not_eq_false',Bool.and_eq_true,decide_eq_true_eq]at e
  have hNi:=V0.2 i e.1
  repeat' (refine kr_ ?_)
  refine lw (hs0.mono K.le).inits hm.inits ini0 ⟨_,rfl,?_⟩
  repeat' (refine kr_ ?_)
  refine lw (hs0.mono K.le).nexts hm.nexts nex0 ⟨_,rfl,?_⟩
  refine ap (fun J=> ∀h' c1 f1,Fl m f1->(∀j,f' j=true->f1 j=true)->(c1=true->pg f1 m.nodes.length<pg f' m.nodes.length)->(c1=false->f1=f')->(∀k:Nat,bO m.inits i=some k->f1 k=true)->
   Kn g0 h' [(b11, .inl ⟨mkC m.nodes.length f1,m.nodes.length,false⟩)]->J c1 h') ?_ (fun J hJ=>?_)
  rotate_left
  ·refine ad (fun eb=>?_) (fun eb=>?_)
   ·rw [decide_eq_true_eq]at eb
    obtain⟨q,hq⟩:=BN.1 eb
    have hqI:ii m.inits i=(q:Nat):=by unfold ii;rw [hq]
    obtain⟨b,hbm,hbs,hbn⟩:=dV hq
    have hNq:kX m q:=hbn▸kX.ini hNi hbm hbs
    rw [hqI]
    repeat' (refine kr_ ?_)
    refine wO hs0 hm gd K (lt_of hNq) fun h2 c2 K2 r1 r2=>⟨c2,rfl,?_⟩
    refine hJ h2 c2 _ (V0.join gd hNq) (fun j hj=>by rw [hj,Bool.true_or]) (fun ec=>?_) (fun ec=>or_self (r1 ec)) (fun k hk=>?_) K2
    ·obtain⟨j,j1,j2,j3⟩:=r2 ec
     exact Ky (fun j hj=>by rw [hj,Bool.true_or]) j3 (by rw [j2,Bool.or_true]) _ j1
    ·rw [hq]at hk;cases hk
     rw [zR,Bool.or_true]
   ·refine hJ h1 false f' V0 (fun j hj=>hj) (fun e=>nomatch e) (fun _=>rfl) (fun k hk=>?_) K
    rw [decide_eq_false_iff_not]at eb
    exact absurd (BN.2 ⟨k,hk⟩) eb
  intro h2 c1 f1 I1 s1 t1 u1 v1 K2
  clear K fb
  refine ap (fun J=>J (c||c1)) ?_ (fun J hJ=>?_)
  rotate_left
  ·refine ad (fun ec=>?_) (fun ec=>?_)
   ·rw [ec,Bool.or_true]at hJ;exact hJ
   ·rw [ec,Bool.or_false]at hJ;exact hJ
  refine ap (fun J=> ∀h' c2 f2,Fl m f2->(∀j,f1 j=true->f2 j=true)->(c2=true->pg f2 m.nodes.length<pg f1 m.nodes.length)->(c2=false->f2=f1)->(∀k:Nat,bO m.nexts i=some k->f2 k=true)->
   Kn g0 h' [(b11, .inl ⟨mkC m.nodes.length f2,m.nodes.length,false⟩)]->J c2 h') ?_ (fun J hJ=>?_)
  rotate_left
  ·refine ad (fun eb=>?_) (fun eb=>?_)
   ·rw [decide_eq_true_eq]at eb
    obtain⟨q,hq⟩:=BN.1 eb
    have hqI:ii m.nexts i=(q:Nat):=by unfold ii;rw [hq]
    obtain⟨b,hbm,hbs,hbn⟩:=dV hq
    have hNq:kX m q:=hbn▸kX.nex hNi hbm hbs
    rw [hqI]
    repeat' (refine kr_ ?_)
    refine wO hs0 hm gd K2 (lt_of hNq) fun h3 c2 K3 r1 r2=>⟨c2,rfl,?_⟩
    refine hJ h3 c2 _ (I1.join gd hNq) (fun j hj=>by rw [hj,Bool.true_or]) (fun ec=>?_) (fun ec=>or_self (r1 ec)) (fun k hk=>?_) K3
    ·obtain⟨j,j1,j2,j3⟩:=r2 ec
     exact Ky (fun j hj=>by rw [hj,Bool.true_or]) j3 (by rw [j2,Bool.or_true]) _ j1
    ·rw [hq]at hk;cases hk
     rw [zR,Bool.or_true]
   ·refine hJ h2 false f1 I1 (fun j hj=>hj) (fun e=>nomatch e) (fun _=>rfl) (fun k hk=>?_) K2
    rw [decide_eq_false_iff_not]at eb
    exact absurd (BN.2 ⟨k,hk⟩) eb
  intro h3 c2 f2 I2 s2 t2 u2 v2 K3
  have m1:=wv s1 m.nodes.length
  have m2:=wv s2 m.nodes.length
  have fin: ∀c':Bool,c'=(c||c1||c2)->next2 [.pointer (some ⟨b7,0,none⟩),(arr b11 m.nodes.length).v, .bool c',I ((i+1:Nat):Int)] h3:=by
   intro c' ec'
   refine hnx2 hlt _ _ ⟨c',f2,rfl,I2,(fun p hp=>s2 _ (s1 _ (hb' p hp))),(fun p hp=>s2 _ (s1 _ (hh' p hp))),by omega,fun ec=>?_,fun ec a ha=>?_,K3⟩
   ·rw [ec']at ec
    rcases Bool.or_eq_true_iff.1 ec with ec|ec
    ·rcases Bool.or_eq_true_iff.1 ec with ec|ec
     ·have:=hct ec;omega
     ·have:=t1 ec;omega
    ·have:=t2 ec;omega
   ·rw [ec',Bool.or_eq_false_iff,Bool.or_eq_false_iff]at ec
    obtain⟨⟨e1,e2⟩,e3⟩:=ec
    have g1:=u1 e2
    have g2:=u2 e3
    subst g1
    subst g2
    by_cases q:a=i
    ·subst q
     exact fun _=>⟨Wy (m:=m) agi v1,Wy (m:=m) agx v2⟩
    ·exact hcf e1 a (by omega)
  rw [ay (by omega)]
  refine ad (fun ec=>?_) (fun ec=>?_)
  ·exact fin true (by rw [ec,Bool.or_true])
  ·exact fin (c||c1) (by rw [ec,Bool.or_false])
 ·refine⟨b11,0,rfl,by omega,by show _<((m.nodes.length:Nat):Int);omega,f' i,by rw [ax fb,show (0+Int.toNat (i:Int)*1)=i by simp];exact pC f' hlt,?_⟩
  refine ad (fun e=>?_) (fun e=>?_)
  ·rw [Bool.not_eq_true']at e
   rw [e]at hJ
   exact hJ
  ·rw [Bool.not_eq_false']at e
   rw [e,Bool.true_and]at hJ
   repeat' (refine kr_ ?_)
   obtain⟨b,o,ha,c0,_⟩:=(hs0.mono K.le).nodes.at hni
   refine⟨b,o,ha,by omega,by omega,n.kind,by rw [Int.toNat_natCast];exact c0,?_⟩
   have:(n.kind !=36)= !decide (n.kind=36):=by
    by_cases q:n.kind=36
    ·rw [q];rfl
    ·rw [decide_eq_false q];simpa using q
   rw [this];exact hJ
structure HO (g h:Hp) (s:Sl) (cs:List Value):Prop where
 le:g.le h
 len:cs.length=s.n*2
 room:s.n<=s.c
 row:(s.a=none/\s.n=0/\s.c=0)\/ ∃b all,s.a=some ⟨b,0,none⟩/\g b=none/\h b=some (.inl ⟨all,s.c*2,false⟩)/\s.n*2<=all.length/\all.take (s.n*2)=cs
theorem HO.slc {g h:Hp} {s:Sl} {cs:List Value} (e:HO g h s cs) (hn:s.n<=9223372036854775807):SlC h s 2 cs:=by
 refine⟨hn,e.len,?_⟩
 rcases e.row with ⟨_,h0,_⟩|⟨b,all,ha,_,hb,_,ht⟩
 ·exact .inl h0
 ·refine .inr ⟨b,0,ha,fun i v hv=>?_⟩
  rw [Nat.zero_add,ax hb]
  rw [<-ht]at hv
  rw [List.getElem?_take]at hv
  split at hv
  ·exact hv
  ·cases hv
theorem HO.sub {g h:Hp} {s:Sl} {cs:List Value} (e:HO g h s cs) (hn:s.n<=9223372036854775807):SlC (h.sub g) s 2 cs:=by
 refine⟨hn,e.len,?_⟩
 rcases e.row with ⟨_,h0,_⟩|⟨b,all,ha,hg,hb,_,ht⟩
 ·exact .inl h0
 ·refine .inr ⟨b,0,ha,fun i v hv=>?_⟩
  have hs:(h.sub g) b=some (.inl ⟨all,s.c*2,false⟩):=by unfold Hp.sub;rw [hg];exact hb
  rw [Nat.zero_add,ax hs]
  rw [<-ht]at hv
  rw [List.getElem?_take]at hv
  split at hv
  ·exact hv
  ·cases hv
theorem TN {g h:Hp} {s:Sl} {by_ m:Nat} {cs news:List Value} {src:Option Addr} {K:Option Addr->Nat->Nat->Hp->Prop}
  (hb:HO g h s cs) (hsz:(s.n+m)*by_<=140737488355328) (hsz':s.n+m<=9223372036854775807)
  (hs:0<m-> ∃sb so,src=some ⟨sb,so,none⟩/\ji g sb so news) (hl:news.length=m*2) (ho:news.all (·.oneCell')=true)
  (k: ∀(s':Sl) (h':Hp),s'.n=s.n+m->HO g h' s' (cs++news)->K s'.a s'.n s'.c h'):cy h s.a s.n s.c src m 2 by_ K:=by
 by_cases h0:m=0
 ·subst h0
  have:news= []:=List.eq_nil_of_length_eq_zero (by omega)
  subst this
  refine .inl ⟨rfl,hb.room,k s h rfl ?_⟩
  rw [List.append_nil];exact hb
 ·obtain⟨sb,so,hsa,hsc⟩:=hs (by omega)
  refine .inr ⟨by omega,hsz,hsz',sb,so,news,hsa,by omega,fun i v hv=>hb.le.cell (hsc i v hv),ho,?_⟩
  rcases hb.row with ⟨ha,hn,hc⟩|⟨b,all,ha,hg,hbb,hall,ht⟩
  ·have hcs:cs= []:=List.eq_nil_of_length_eq_zero (by rw [hb.len,hn])
   subst hcs
   refine .inl ⟨by omega, [],?_,fun _=>⟨hn,hc⟩,fun b c hbn hle=>?_⟩
   ·rw [hn];simp [pD]
   ·rw [hn,Nat.zero_add]
    refine k ⟨some ⟨b,0,none⟩,m,c⟩ _ (by dsimp only;omega) ⟨eu _ _ (aF hb.le hbn) hb.le,by simp;omega,by dsimp only;omega, .inr ⟨b,news,rfl,aF hb.le hbn,?_,by dsimp only;omega,?_⟩⟩
    ·rw [bU];simp
    ·simp [<-hl]
  ·refine .inr ⟨b,all,ha,hbb,by omega,fun b' c hb' hle=>?_⟩
   rw [ht]
   have hgb:g b'=none:=by
    rcases hb' with rfl|hb'
    ·exact hg
    ·exact aF hb.le hb'
   refine k ⟨some ⟨b',0,none⟩,s.n+m,c⟩ _ rfl ⟨?_,by simp [hb.len,hl];omega,by dsimp only;omega, .inr ⟨b',cs++news,rfl,hgb,bU _ _ _ _,by simp [hb.len,hl];omega,?_⟩⟩
   ·exact ml _ (ml _ hb.le hg) hgb
   ·exact List.take_of_length_le (by simp [hb.len,hl];omega)
theorem NN {h:Hp} {n:Nat} {R:Value->Hp->Prop} (hn:n<=4194304) (k: ∀s h',HO h h' s []->R (Sl.v s) h'):fX #[.slice none 0 0,I n] h R:=by
 refine p9 (s1:=⟨none,0,0⟩) ?_
 refine uf_ ?_
 have hw:W ((n:Int)-W (((0:Nat):Int)-((0:Nat):Int)))=n:=by
  rw [cd (n:=((0:Nat):Int)-((0:Nat):Int)) (by omega) (by omega),cd (by omega) (by omega)];omega
 refine aC (by simp) ?_
 simp only [hw]
 refine ad (fun e=>?_) (fun e=>?_)
 ·have e':0<n:=by simpa using e
  refine⟨by decide,by decide,by omega, .inl ⟨by(first|trivial|rfl|omega|decide),by(first|trivial|rfl|omega|decide),by(first|trivial|rfl|omega|decide),by(first|trivial|rfl|omega|decide),by(first|trivial|rfl|omega|decide),by(first|trivial|rfl|omega|decide),by(first|trivial|rfl|omega|decide),by(first|trivial|rfl|omega|decide),fun b c hb hc=>?_⟩⟩
  refine⟨by decide,by decide,by omega, .inr ⟨b,0,rfl,?_⟩⟩
  have hif:(if c=Int.toNat (Int.ofNat 0)then 0 else 0+Int.toNat (Int.ofNat 0)*2)=0:=by split<;>rfl
  rw [hif]
  refine k ⟨some ⟨b,0,none⟩,0,c⟩ _ ⟨gp _ _ hb,rfl,by dsimp only;omega, .inr ⟨b,_,rfl,hb,bU _ _ _ _,by dsimp only;omega,by dsimp only;rw [Nat.zero_mul,List.take_zero]⟩⟩
 ·exact k ⟨none,0,0⟩ h ⟨Hp.le_refl _,rfl,Nat.le_refl _, .inl ⟨rfl,rfl,rfl⟩⟩
theorem GW {h:Hp} {b:Nat} {s1 s2:Sl} {xs ys:List BindP} {R:Value->Hp->Prop} (hb:h b=some (.inl ⟨[s1.v,s2.v],2,false⟩)) (h1:iH h s1 xs) (h2:iH h s2 ys)
  (hx:xs.length<=1048576) (hy:ys.length<=1048576) (k: ∀t h',h.le h'->iH (h'.sub h) t (xs++ys)->R (Sl.v t) h'):fz #[.slice (some ⟨b,0,none⟩) 2 2] h R:=by
 refine oe (s1:=⟨some ⟨b,0,none⟩,2,2⟩) ?_
 refine uf_ ?_
 have n1:=h1.len
 have n2:=h2.len
 let sl:Nat->Sl:=fun i=>if i=0 then s1 else s2
 let ls:Nat->List BindP:=fun i=>if i=0 then xs else ys
 have hc: ∀i,i<2-> ∀h',h.le h'->Hp.cell h' b i=some (sl i).v:=fun i hi h' l'=>by
  rw [ax (l' _ _ hb)]
  obtain rfl|rfl:i=0\/i=1:=by omega
  all_goals rfl
 have hls: ∀i,(sl i).n=(ls i).length/\(ls i).length<=1048576/\iH h (sl i) (ls i):=fun i=>by
  by_cases h0:i=0
  ·subst h0;exact⟨n1,hx,h1⟩
  ·simp only [sl,ls,if_neg h0];exact⟨n2,hy,h2⟩
 let tot:Nat->Nat:=fun i=>if i=0 then 0 else if i=1 then xs.length else xs.length+ys.length
 let cat:Nat->List BindP:=fun i=>if i=0 then []else if i=1 then xs else xs++ys
 have htot: ∀i,i<2->tot i+(ls i).length=tot (i+1)/\cat i++ls i=cat (i+1)/\(cat i).length=tot i/\tot i<=2097152:=fun i hi=>by
  obtain rfl|rfl:i=0\/i=1:=by omega
  ·refine⟨?_,?_,rfl,?_⟩<;>simp [tot,ls,cat]
  ·refine⟨?_,?_,rfl,?_⟩<;>simp [tot,ls,cat]
   omega
 refine au 2 (fun i vs h'=>vs= [.slice (some ⟨b,0,none⟩) 2 2,I (tot i), .slice (some ⟨b,0,none⟩) 2 2,I 2,I i]/\h'=h) ⟨rfl,rfl⟩ ?_
 rintro i _ h' next hi ⟨rfl,rfl⟩ hnx
 refine⟨⟨some ⟨b,0,none⟩,2,2⟩,_,⟨some ⟨b,0,none⟩,2,2⟩,_,_,rfl,?_⟩
 by_cases hlt:i<2
 ·refine aM (by simp;omega) ?_
  have:=hls i
  have ht:=htot i hlt
  refine⟨b,0,rfl,by omega,by dsimp only;omega,sl i,by have:=hc i hlt h' (Hp.le_refl _);simpa using this,?_⟩
  rw [show W ((tot i:Int)+((sl i).n:Int))=((tot (i+1):Nat):Int) by rw [cd (by omega) (by omega)];omega,ay (by omega)]
  exact aC (by simp) (hnx hlt _ _ ⟨rfl,rfl⟩)
 ·have hi2:i=2:=by omega
  subst hi2
  refine aC (by simp) ?_
  refine NN (by simp [tot];omega) fun t h1' hp=>⟨t,rfl,?_⟩
  refine au 2 (fun i vs h2'=> ∃u:Sl,vs= [u.v, .slice (some ⟨b,0,none⟩) 2 2,I 2,I i]/\HO h' h2' u ((cat i).flatMap bindCells)) ⟨t,rfl,hp⟩ ?_
  clear hp
  rintro i _ h2' next2 hi ⟨u,rfl,hp⟩ hnx2
  refine⟨u,⟨some ⟨b,0,none⟩,2,2⟩,_,_,rfl,?_⟩
  by_cases hlt2:i<2
  ·refine aM (by simp;omega) ?_
   have hli:=hls i
   have ht:=htot i hlt2
   have hun:=hp.len
   rw [ck (m:=2) (fun _=>rfl)]at hun
   refine⟨b,0,rfl,by omega,by dsimp only;omega,sl i,by have:=hc i hlt2 h2' hp.le;simpa using this,?_⟩
   refine TN (news:=(ls i).flatMap bindCells) hp (by omega) (by omega) (fun hpos=>?_) (by rw [ck (m:=2) (fun _=>rfl)];omega) (by rw [List.all_eq_true];intro v hv;obtain⟨x,_,hx⟩:=List.mem_flatMap.1 hv;simp at hx;rcases hx with rfl|rfl<;>rfl) fun s' h3 hs' hp'=>?_
   ·obtain⟨sb,so,e1,e2⟩:=SlC.get hli.2.2 (by omega)
    exact⟨sb,so,e1,e2⟩
   ·rw [ay (by omega)]
    refine hnx2 hlt2 _ _ ⟨s',rfl,?_⟩
    rw [<-ht.2.1,List.flatMap_append];exact hp'
  ·have hi2:i=2:=by omega
   subst hi2
   refine aC (by simp) (k u h2' hp.le ?_)
   have hun:=hp.len
   have:cat 2=xs++ys:=rfl
   rw [this]at hun hp
   rw [ck (m:=2) (fun _=>rfl),List.length_append]at hun
   exact hp.sub (by omega)
def P5 (m:ah) (f:Nat->Bool) (j:Nat):Prop:=
 (∀(n:NodeP) (b:Nat),m.nodes[j]?=some n->b∈dP n->f b=true)/\(∀b∈m.inits,b.state=(j:Int)->f b.node.toNat=true)/\ ∀b∈m.nexts,b.state=(j:Int)->f b.node.toNat=true
theorem P5.up {m:ah} {f f':Nat->Bool} {j:Nat} (s: ∀j,f j=true->f' j=true) (c:P5 m f j):P5 m f' j:=
 ⟨fun n b hn hb=>s _ (c.1 n b hn hb),fun b hb e=>s _ (c.2.1 b hb e),fun b hb e=>s _ (c.2.2 b hb e)⟩
structure uX (m:ah) (f f':Nat->Bool):Prop where
 sub: ∀j,f j=true->f' j=true
 done: ∀j,f' j=true->f j=false->P5 m f' j
 need: ∀j,f' j=true->f j=true\/kX m j
theorem uX.refl (m:ah) (f:Nat->Bool):uX m f f:=⟨fun _ h=>h,fun j h1 h2=>by(rw [h1]at h2;cases h2),fun _ h=> .inl h⟩
theorem uX.trans {m:ah} {f f1 f2:Nat->Bool} (a:uX m f f1) (b:uX m f1 f2):uX m f f2:=by
 refine⟨fun j h=>b.sub j (a.sub j h),fun j h2 h0=>?_,fun j h=>?_⟩
 ·cases h1:f1 j
  ·exact b.done j h2 h1
  ·exact(a.done j h1 h0).up b.sub
 ·rcases b.need j h with h|h
  ·exact a.need j h
  ·exact .inr h
abbrev agm (b13 b7 b19:Nat):Value:= .func (.func tD) #[] #[.pointer (some ⟨b13,0,none⟩), .pointer (some ⟨b7,0,none⟩), .pointer (some ⟨b19,0,none⟩)]
set_option maxHeartbeats 2000000 in
theorem Q0 {M:MSl} {m:ah} {b11 b13 b7 b19 z1 z2 z3:Nat} (hm:bT m) (gd:cr m): ∀(cn:Nat) {g0 h:Hp} {f:Nat->Bool} {a:Nat} {R:Value->Hp->Prop},pg f m.nodes.length=cn->
  aO g0 M m->g0 b13=some (.inl ⟨[(arr b11 m.nodes.length).v],z1,false⟩)->g0 b7=some (.inl ⟨aH M,z2,false⟩)->g0 b19=some (.inl ⟨[agm b13 b7 b19],z3,false⟩)->
  Kn g0 h [(b11, .inl ⟨mkC m.nodes.length f,m.nodes.length,false⟩)]->kX m a->
  (∀h' f',Kn g0 h' [(b11, .inl ⟨mkC m.nodes.length f',m.nodes.length,false⟩)]->uX m f f'->f' a=true->R (.tuple #[]) h')->
  tJ #[I (a:Nat), .pointer (some ⟨b13,0,none⟩), .pointer (some ⟨b7,0,none⟩), .pointer (some ⟨b19,0,none⟩)] h R:=by
 intro cn
 induction cn using Nat.strongRecOn with
 |_ cn ih=>
 intro g0 h f a R hcn hs0 f13 f7 f19 K hN kk
 apply A3
 refine uf_ ?_
 have hlt:=zK gd hN
 have hN60:=gd.nl
 have x13:=cf f13
 have x7:=cf f7
 have x19:=cf f19
 have hnl:=hs0.nodes.len
 repeat' (refine kr_ ?_)
 refine⟨by omega,by show _<((m.nodes.length:Nat):Int);omega,f a,by rw [ax (K.at (.head _)),show (0+Int.toNat (a:Int)*1)=a by simp];exact pC f hlt,?_⟩
 refine ad (fun e=>kk h f K (uX.refl m f) e) (fun e=>?_)
 repeat' (refine kr_ ?_)
 refine⟨by omega,by show _<((m.nodes.length:Nat):Int);omega,?_⟩
 (((with_reducible apply Kn.wr);(assumption);((focus ((repeat first|exact .head|apply Upd.tail);done)))))
 ·rw [xd];simp;omega
 intro h1 K1 _
 rw [show (0+Int.toNat (a:Int)*1)=a by simp,bG,B1]at K1
 have s01: ∀j,f j=true->(f j||decide (j=a))=true:=fun j hj=>by rw [hj,Bool.true_or]
 have hc1:pg (fun j=>f j||decide (j=a)) m.nodes.length<cn:=hcn▸Ky s01 e (by simp) _ hlt
 clear K
 obtain⟨nd,hni⟩: ∃n,m.nodes[a]?=some n:=⟨_,List.getElem?_eq_getElem hlt⟩
 repeat' (refine kr_ ?_)
 obtain⟨b,o,ha,c0,c1,c2,c3,c4,c5,c6,c7,c8⟩:=(hs0.mono K1.le).nodes.at hni
 refine⟨b,o,ha,by omega,by omega,?_⟩
 rw [Int.toNat_natCast]
 refine⟨_,c0,_,c1,_,c2,_,c3,_,c4,_,c5,_,c6,_,c7,_,c8,?_⟩
 refine Kn.al K1 fun b34 h2 K2 l2 hb34=>?_
 refine kw_ ?_
 intro h3 K3 _
 simp only [bX,List.set_cons_zero,List.set_cons_succ,Nat.zero_add,Nat.reduceAdd]at K3
 clear K1 K2 l2 hb34 ha c0 c1 c2 c3 c4 c5 c6 c7 c8 b o
 have hf:=fU gd.ok hni
 have hk:=fD hf
 have hk3:=iY nd.kind
 generalize ef1:(fun j=>f j||decide (j=a))=f1 at*
 refine ap (fun J=> ∀b44 h',Kn g0 h' ((b44, .inl ⟨[I nd.a,I nd.b,I nd.c],3,false⟩):: [(b11, .inl ⟨mkC m.nodes.length f1,m.nodes.length,false⟩)])->J (Sl.mk (some ⟨b44,0,none⟩) (ai nd.kind).toNat 3) (((ai nd.kind).toNat:Nat):Int) h') ?_ (fun J hJ=>?_)
 rotate_left
 ·repeat' (refine kr_ ?_)
  constructor
  ·refine Kn.al K3 fun b44 h4 K4 l4 hb44=>?_
   repeat' (refine kr_ ?_)
   refine ed ⟨_,rfl,?_⟩
   repeat' (refine kr_ ?_)
   refine⟨by decide,by simpa using hk,by simpa using hk3, .inr ⟨_,_,rfl,?_⟩⟩
   exact hJ b44 h4 (K4.sub (fun x hx=>by rcases List.mem_cons.1 hx with rfl|hx;exact .head _;exact .tail _ (.tail _ hx)) (by have:=K4.nd;simp only [List.map_cons,List.nodup_cons,List.mem_cons,not_or,List.map_nil]at this⊢;exact⟨this.1.2,this.2.2⟩))
  ·refine ed ⟨_,rfl,?_⟩
   repeat' (refine kr_ ?_)
   refine Kn.al K3 fun b44 h4 K4 l4 hb44=>?_
   repeat' (refine kr_ ?_)
   refine⟨by decide,by simpa using hk,by simpa using hk3, .inr ⟨_,_,rfl,?_⟩⟩
   exact hJ b44 h4 (K4.sub (fun x hx=>by rcases List.mem_cons.1 hx with rfl|hx;exact .head _;exact .tail _ (.tail _ hx)) (by have:=K4.nd;simp only [List.map_cons,List.nodup_cons,List.mem_cons,not_or,List.map_nil]at this⊢;exact⟨this.1.2,this.2.2⟩))
 intro b44 h4 K4
 clear K3
 obtain⟨g1,KA,KB⟩:=Kn.cut (A:= [_]) (L:= [_]) K4
 have f44:=KA.at (.head _)
 have l01:=KA.le
 clear K4 KA
 replace f13:=l01 _ _ f13
 replace f7:=l01 _ _ f7
 replace f19:=l01 _ _ f19
 have hs1:=hs0.mono l01
 refine au (ai nd.kind).toNat (fun q vs h'=>vs= [I (a:Nat), .pointer (some ⟨b7,0,none⟩), .pointer (some ⟨b19,0,none⟩),(Sl.mk (some ⟨b44,0,none⟩) (ai nd.kind).toNat 3).v,I (((ai nd.kind).toNat:Nat):Int),I (q:Nat)]/\
  ∃f2,uX m f1 f2/\(∀(j p:Nat),j<q->(dP nd)[j]?=some p->f2 p=true)/\Kn g1 h' [(b11, .inl ⟨mkC m.nodes.length f2,m.nodes.length,false⟩)])
  ⟨rfl,f1,uX.refl m f1,(fun j p hj=>by omega),KB⟩ ?_
 clear KB
 rintro q _ h4 next hq ⟨rfl,f2,M2,hp2,K4⟩ hnx
 refine⟨_,b7,0,b19,0,Sl.mk (some ⟨b44,0,none⟩) (ai nd.kind).toNat 3,_,_,rfl,?_⟩
 by_cases hlq:q<(ai nd.kind).toNat
 ·refine aM (decide_eq_true (by omega)) ?_
  have cp:=nD (K4.le _ _ f44) (i:=q) (by omega)
  refine⟨b44,0,rfl,by omega,by show _<(((ai nd.kind).toNat:Nat):Int);omega,az nd q,by simpa using cp,?_⟩
  refine⟨_,_,_,by rw [ax (K4.le _ _ f19)];rfl,?_⟩
  have hr:=iU hf (i:=q) (by omega) (by omega)
  have hpq:=Ge hk hlq
  obtain⟨p,hp⟩: ∃p:Nat,az nd q=p:=⟨(az nd q).toNat,by omega⟩
  rw [hp]at hpq⊢
  rw [Int.toNat_natCast]at hpq
  have hNp:kX m p:= .part hN hni (List.mem_of_getElem? hpq)
  have hc2:=wv M2.sub m.nodes.length
  refine ih _ (by omega) rfl hs1 f13 f7 f19 K4 hNp fun h5 f3 K5 M3 e3=>⟨rfl,?_⟩
  rw [ay (by omega)]
  refine hnx hlq _ _ ⟨rfl,f3,M2.trans M3,fun j p' hj hp'=>?_,K5⟩
  by_cases ej:j=q
  ·subst ej
   rw [hpq]at hp';cases hp'
   exact e3
  ·exact M3.sub _ (hp2 j p' (by omega) hp')
 refine aC (decide_eq_false (by omega)) ?_
 obtain rfl:q=(ai nd.kind).toNat:=by omega
 have hparts: ∀p∈dP nd,f2 p=true:=fun p hp=>by
  obtain⟨j,hj⟩:=List.mem_iff_getElem?.1 hp
  exact hp2 j p (by have:=get_lt hj;rwa [D3 hk]at this) hj
 clear hnx hq hlq hp2 next
 repeat' (refine kr_ ?_)
 refine Kn.al K4 fun b90 h5 K5 l5 hb90=>?_
 have hil:=gd.il
 have hxl:=gd.xl
 refine GW (K5.at (.head _)) (hs1.mono K5.le).inits (hs1.mono K5.le).nexts hm.inits hm.nexts fun t h6 l6 ht=>⟨t,rfl,?_⟩
 replace K5:=K5.tl
 have ht2:=ht.mono (ya K5)
 have K6:=(K5.mono l6).base
 have l12:=(K5.mono l6).leBase
 clear K4 K5 ht l5 hb90 l6
 generalize h6.wo ([(b11,(Sum.inl ⟨mkC m.nodes.length f2,m.nodes.length,false⟩:Blk))].map Prod.fst)=g2 at*
 replace f13:=l12 _ _ f13
 replace f7:=l12 _ _ f7
 replace f19:=l12 _ _ f19
 have hs2:=hs1.mono l12
 have htn:=ht2.len
 have hapl:(m.inits++m.nexts).length<=120:=by rw [List.length_append];omega
 refine au (m.inits++m.nexts).length (fun q vs h'=>vs= [I (a:Nat), .pointer (some ⟨b19,0,none⟩),t.v,I ((t.n:Nat):Int),I (q:Nat)]/\
  ∃f3,uX m f1 f3/\(∀p∈dP nd,f3 p=true)/\(∀(j:Nat) (b:BindP),j<q->(m.inits++m.nexts)[j]?=some b->b.state=(a:Int)->f3 b.node.toNat=true)/\Kn g2 h' [(b11, .inl ⟨mkC m.nodes.length f3,m.nodes.length,false⟩)])
  ⟨rfl,f2,M2,hparts,(fun j p hj=>by omega),K6⟩ ?_
 clear K6 M2 hparts
 rintro q _ h4 next hq ⟨rfl,f3,M3,hparts,hb3,K4⟩ hnx
 refine⟨_,b19,0,t,_,_,rfl,?_⟩
 by_cases hlq:q<(m.inits++m.nexts).length
 ·refine aM (decide_eq_true (by omega)) ?_
  obtain⟨x,hxi⟩: ∃x,(m.inits++m.nexts)[q]?=some x:=⟨_,List.getElem?_eq_getElem hlq⟩
  obtain⟨b,o,ha,c0,c1⟩:=(ht2.mono K4.le).at hxi
  refine⟨b,o,ha,by omega,by omega,x.state,by rw [Int.toNat_natCast];exact c0,x.node,by rw [Int.toNat_natCast];exact c1,?_⟩
  refine Kn.al K4 fun b112 h5 K5 l5 hb112=>?_
  refine kw_ ?_
  intro h6 K6 _
  simp only [bX,List.set_cons_zero,List.set_cons_succ,Nat.zero_add,Nat.reduceAdd]at K6
  clear K4 K5 l5 hb112 ha c0 c1
  repeat' (refine kr_ ?_)
  refine ad (fun e1=>?_) (fun e1=>?_)
  ·rw [beq_iff_eq]at e1
   refine⟨_,_,_,by rw [ax (K6.le _ _ f19)];rfl,?_⟩
   repeat' (refine kr_ ?_)
   have hxm:=List.mem_append.1 (List.mem_of_getElem? hxi)
   have hx0:0<=x.node:=by
    rcases hxm with hx|hx
    ·have:=eE (eO (gd.ini x hx)).2.1;omega
    ·have:=eE (dn (gd.nex x hx)).2.1;omega
   have hNx:kX m x.node.toNat:=by
    rcases hxm with hx|hx
    ·exact .ini hN hx e1
    ·exact .nex hN hx e1
   obtain⟨p,hp⟩: ∃p:Nat,x.node=p:=⟨x.node.toNat,by omega⟩
   rw [hp]at hNx⊢
   rw [Int.toNat_natCast]at hNx
   have hc3:=wv M3.sub m.nodes.length
   refine ih _ (by omega) rfl hs2 f13 f7 f19 K6.tl hNx fun h7 f4 K7 M4 e4=>⟨rfl,?_⟩
   rw [ay (by omega)]
   refine hnx hlq _ _ ⟨rfl,f4,M3.trans M4,(fun p hp=>M4.sub _ (hparts p hp)),fun j x' hj hx' es=>?_,K7⟩
   by_cases ej:j=q
   ·subst ej
    rw [hxi]at hx';cases hx'
    rw [hp,Int.toNat_natCast]
    exact e4
   ·exact M4.sub _ (hb3 j x' (by omega) hx' es)
  ·rw [ay (by omega)]
   refine hnx hlq _ _ ⟨rfl,f3,M3,hparts,fun j x' hj hx' es=>?_,K6.tl⟩
   by_cases ej:j=q
   ·subst ej
    rw [hxi]at hx';cases hx'
    rw [es]at e1
    simp at e1
   ·exact hb3 j x' (by omega) hx' es
 refine aC (decide_eq_false (by omega)) ?_
 obtain rfl:q=(m.inits++m.nexts).length:=by omega
 have hbinds: ∀x∈m.inits++m.nexts,x.state=(a:Int)->f3 x.node.toNat=true:=fun x hx=>by
  obtain⟨j,hj⟩:=List.mem_iff_getElem?.1 hx
  exact hb3 j x (get_lt hj) hj
 have e1a: ∀j,f1 j=true->f j=true\/j=a:=fun j hj=>by
  rw [<-ef1]at hj
  simpa using hj
 have e1b: ∀j,f j=true->f1 j=true:=fun j hj=>by rw [<-ef1];exact s01 j hj
 refine kk h4 f3 (K4.weak (Hp.le_trans l01 l12)) ⟨fun j hj=>M3.sub j (e1b j hj),fun j h3 h0=>?_,fun j h3=>?_⟩ (M3.sub a (by rw [<-ef1];simp))
 ·cases hj1:f1 j
  ·exact M3.done j h3 hj1
  ·rcases e1a j hj1 with hj|rfl
   ·rw [hj]at h0;cases h0
   ·refine⟨fun n b hn hb=>?_,fun b hb e=>hbinds b (List.mem_append_left _ hb) e,fun b hb e=>hbinds b (List.mem_append_right _ hb) e⟩
    rw [hni]at hn;cases hn
    exact hparts b hb
 ·rcases M3.need j h3 with hj|hj
  ·rcases e1a j hj with hj|rfl
   ·exact .inl hj
   ·exact .inr hN
  ·exact .inr hj
theorem ZW (n:Nat) (f:Nat->Bool):xV (mkC n f):=Hr n f
theorem Pw {h:Hp} {M:MSl} {m:ah} {R:Value->Hp->Prop} (hs:aO h M m) (hm:bT m) (gd:cr m)
  (k: ∀h' b,Kn h h' [(b, .inl ⟨mkC m.nodes.length (cP m),m.nodes.length,false⟩)]->R (Sl.v (arr b m.nodes.length)) h'):mG #[aQ M] h R:=by
 apply Ew
 refine uf_ ?_
 have hn:=hs.nodes.len
 have hN:=gd.nl
 (with_reducible apply Kn.al);(exact Kn.nil h);(intro b7 h1 K1 l1 hb7)
 repeat' (refine kr_ ?_)
 rw [hn]
 refine⟨by omega,by omega,by omega,by omega,?_⟩
 rw [Int.toNat_natCast,Nat.mul_one,cE,BQ]
 refine Kn.al K1 fun b11 h2 K2 l2 hb11=>?_
 refine Kn.al K2 fun b13 h3 K3 l3 hb13=>?_
 refine kw_ ?_
 intro h4 K4 _
 refine Kn.al K4 fun b19 h5 K5 l5 hb19=>?_
 refine kw_ ?_
 intro h6 K6 _
 simp only [bX,List.set_cons_zero,List.set_cons_succ,Nat.zero_add,Nat.reduceAdd]at K6
 clear K1 K2 K3 K4 K5
 repeat' (refine kr_ ?_)
 refine Kn.al K6 fun b28 h7 K7 l7 hb28=>?_
 refine z8 (K7.at (.head _)) (hs.mono K7.le).bads (hs.mono K7.le).holds hm.bads hm.holds fun t h8 l8 ht=>⟨t,rfl,?_⟩
 replace K7:=(K7.mono l8).tl
 clear K6 l8 l7 hb28
 obtain⟨g0,KA,KL⟩:=Kn.cut (A:= [(b19, .inl ⟨[agm b13 b7 b19],1,false⟩),(b13, .inl ⟨[(arr b11 m.nodes.length).v],1,false⟩),(b7, .inl ⟨aH M,5,false⟩)]) (L:= [(b11, .inl ⟨mkC m.nodes.length fun _=>false,m.nodes.length,false⟩)])
  (K7.perm (List.Perm.cons _ (List.Perm.cons _ (List.Perm.swap _ _ _))))
 have ht2:=ht.woN (L:= [(b11, .inl ⟨mkC m.nodes.length fun _=>false,m.nodes.length,false⟩)]) (fun x hx=>KL.mem x hx) fun x hx=>by
  rw [List.mem_singleton.1 hx]
  exact⟨_,_,_,rfl,ZW _ _⟩
 have lB:=KL.leBase
 have KB:=KL.base
 have l0A:=KA.le
 have f19:=lB _ _ (KA.at (b:=b19) (by((focus ((repeat first|exact .head _|apply List.Mem.tail);done)))))
 have f13:=lB _ _ (KA.at (b:=b13) (by((focus ((repeat first|exact .head _|apply List.Mem.tail);done)))))
 have f7:=lB _ _ (KA.at (b:=b7) (by((focus ((repeat first|exact .head _|apply List.Mem.tail);done)))))
 have hsB:=hs.mono (Hp.le_trans l0A lB)
 have l0B:=Hp.le_trans l0A lB
 clear K7 KA KL ht lB l0A g0
 generalize h8.wo ([(b11,(Sum.inl ⟨mkC m.nodes.length fun _=>false,m.nodes.length,false⟩:Blk))].map Prod.fst)=g2 at*
 have x19:=cf f19
 have x13:=cf f13
 have x7:=cf f7
 have htn:=ht2.len
 have hapl:(m.bads++m.holds).length<=8:=by have:=gd.bl;have:=gd.hl;rw [List.length_append];omega
 have hpok: ∀p∈m.bads++m.holds,0<=p/\kX m p.toNat:=fun p hp=>by
  rcases List.mem_append.1 hp with hp|hp
  ·have hpp:=gd.bad p hp
   unfold da at hpp
   exact⟨(eE (Bool.and_eq_true_iff.1 hpp).1).1, .bad hp⟩
  ·have hpp:=gd.hol p hp
   unfold da at hpp
   exact⟨(eE (Bool.and_eq_true_iff.1 hpp).1).1, .hold hp⟩
 refine au (m.bads++m.holds).length (fun q vs h'=>vs= [.pointer (some ⟨b13,0,none⟩), .pointer (some ⟨b19,0,none⟩),t.v,I ((t.n:Nat):Int),I (q:Nat)]/\
  ∃f,uX m (fun _=>false) f/\(∀(j:Nat) (p:Int),j<q->(m.bads++m.holds)[j]?=some p->f p.toNat=true)/\Kn g2 h' [(b11, .inl ⟨mkC m.nodes.length f,m.nodes.length,false⟩)])
  ⟨rfl,_,uX.refl m _,(fun j p hj=>by omega),KB⟩ ?_
 clear KB
 rintro q _ h9 next hq ⟨rfl,f,Mk,hp,K⟩ hnx
 refine⟨b13,0,b19,0,t,_,_,rfl,?_⟩
 by_cases hlq:q<(m.bads++m.holds).length
 ·refine aM (decide_eq_true (by omega)) ?_
  obtain⟨x,hxi⟩: ∃x,(m.bads++m.holds)[q]?=some x:=⟨_,List.getElem?_eq_getElem hlq⟩
  obtain⟨b,o,ha,c0⟩:=(ht2.mono K.le).get hxi
  refine⟨b,o,ha,by omega,by omega,x,by rw [Int.toNat_natCast];exact c0,?_⟩
  refine⟨_,_,_,by rw [ax (K.le _ _ f19)];rfl,?_⟩
  obtain⟨hx0,hNx⟩:=hpok x (List.mem_of_getElem? hxi)
  obtain⟨p,rfl⟩: ∃p:Nat,x=p:=⟨x.toNat,by omega⟩
  rw [Int.toNat_natCast]at hNx
  refine Q0 hm gd _ rfl hsB f13 f7 f19 K hNx fun h10 f' K' M' e'=>⟨rfl,?_⟩
  rw [ay (by omega)]
  refine hnx hlq _ _ ⟨rfl,f',Mk.trans M',fun j x' hj hx'=>?_,K'⟩
  by_cases ej:j=q
  ·subst ej
   rw [hxi]at hx';cases hx'
   rw [Int.toNat_natCast];exact e'
  ·exact M'.sub _ (hp j x' (by omega) hx')
 refine aC (decide_eq_false (by omega)) ?_
 obtain rfl:q=(m.bads++m.holds).length:=by omega
 repeat' (refine kr_ ?_)
 have hall: ∀p∈m.bads++m.holds,f p.toNat=true:=fun p hp'=>by
  obtain⟨j,hj⟩:=List.mem_iff_getElem?.1 hp'
  exact hp j p (get_lt hj) hj
 have ef:f=cP m:=WU (fun p hp=>hall p (List.mem_append_left _ hp)) (fun p hp=>hall p (List.mem_append_right _ hp))
  (fun a b n ha hn hb=>(Mk.done a ha rfl).1 n b hn hb) (fun a ha=>(Mk.done a ha rfl).2) (fun i hi=>(Mk.need i hi).resolve_left (by simp))
 subst ef
 exact k h9 b11 (K.weak l0B)
def cA (f:Nat->Int) (n:NodeP):NodeP:={n with a:=if 0<ai n.kind then f n.a.toNat else n.a,b:=if 1<ai n.kind then f n.b.toNat else n.b,c:=if 2<ai n.kind then f n.c.toNat else n.c}
abbrev pE (n:NodeP):Value:= .agg #[I n.kind,I n.a,I n.b,I n.c,I n.n,I n.m,I n.sort.idx,I n.sort.wid, .string n.name]
def dv (to:List Int) (i:Nat):Int:=to.getD i 0
theorem abJ {to:List Int} {i:Nat} (h:i<to.length):to[i]?=some (dv to i):=by
 unfold dv
 rw [List.getD_eq_getElem?_getD,List.getElem?_eq_getElem h];rfl
theorem IntS.rd {h:Hp} {t:Sl} {to:List Int} (e:IntS h t to) {p:Int} (h0:0<=p) (hp:p<to.length):
  ∃b o,t.a=some (Addr.mk b o none)/\(0:Int)<=p/\p<(t.n:Int)/\Hp.cell h b (o+Int.toNat p*1)=some (I (dv to p.toNat)):=by
 obtain⟨b,o,ha,hc⟩:=e.get (abJ (to:=to) (i:=p.toNat) (by omega))
 exact⟨b,o,ha,h0,by rw [e.len];exact hp,hc⟩
set_option maxHeartbeats 1000000 in
theorem PW {h:Hp} {n:NodeP} {t:Sl} {to:List Int} {R:Value->Hp->Prop} (ht:IntS h t to) (hk:0<=ai n.kind) (hp: ∀i:Nat,i<3->(i:Int)<ai n.kind->0<=az n i/\az n i<to.length)
  (k:R (pE (cA (dv to) n)) h):vN #[pE n,t.v] h R:=by
 refine ACalls.drop (Jo ?_)
 refine uf_ ?_
 (with_reducible apply Kn.al);(exact Kn.nil h);(intro b12 h1 K1 l1 hb12)
 refine Kn.al K1 fun b14 h2 K2 l2 hb14=>?_
 clear K1
 repeat' (refine kr_ ?_)
 refine lD ⟨_,rfl,?_⟩
 have r0:=fun h=>hp 0 (by omega) h
 have r1:=fun h=>hp 1 (by omega) h
 have r2:=fun h=>hp 2 (by omega) h
 have e0:az n 0=n.a:=rfl
 have e1:az n 1=n.b:=rfl
 have e2:az n 2=n.c:=rfl
 rw [e0]at r0
 rw [e1]at r1
 rw [e2]at r2
 obtain⟨A,hA⟩: ∃A,A=(if 0<ai n.kind then dv to n.a.toNat else n.a):=⟨_,rfl⟩
 obtain⟨B,hB⟩: ∃B,B=(if 1<ai n.kind then dv to n.b.toNat else n.b):=⟨_,rfl⟩
 obtain⟨C,hC⟩: ∃C,C=(if 2<ai n.kind then dv to n.c.toNat else n.c):=⟨_,rfl⟩
 have hres:cA (dv to) n={n with a:=A,b:=B,c:=C}:=by unfold cA;rw [hA,hB,hC]
 rw [hres]at k
 clear hres
 refine ap (fun J=> ∀h',Kn h h' ((b14, .inl ⟨[I 0,I 0,I 0,I 0,I 0,I 0,I 0,I 0, .string ⟨#[]⟩],9,false⟩)::(b12, .inl ⟨[I n.kind,I A,I n.b,I n.c,I n.n,I n.m,I n.sort.idx,I n.sort.wid, .string n.name],9,false⟩):: [])->J h') ?_ (fun J hJ=>?_)
 rotate_left
 ·refine ad (fun e=>?_) (fun e=>?_)
  ·rw [decide_eq_true_eq]at e
   have r:=r0 e
   repeat' (refine kr_ ?_)
   obtain⟨b,o,ha,q0,q1,hc⟩:=(ht.mono K2.le).rd r.1 r.2
   refine⟨b,o,ha,q0,q1,_,hc,?_⟩
   refine kw_ ?_
   intro h3 K3 _
   simp only [bX,List.set_cons_zero,List.set_cons_succ,Nat.zero_add,Nat.reduceAdd]at K3
   rw [if_pos e]at hA
   rw [<-hA]at K3
   exact hJ h3 K3
  ·rw [decide_eq_false_iff_not]at e
   rw [if_neg e]at hA
   rw [hA]at hJ
   exact hJ h2 K2
 intro h3 K3
 clear K2 hA r0
 refine ap (fun J=> ∀h',Kn h h' ((b14, .inl ⟨[I 0,I 0,I 0,I 0,I 0,I 0,I 0,I 0, .string ⟨#[]⟩],9,false⟩)::(b12, .inl ⟨[I n.kind,I A,I B,I n.c,I n.n,I n.m,I n.sort.idx,I n.sort.wid, .string n.name],9,false⟩):: [])->J h') ?_ (fun J hJ=>?_)
 rotate_left
 ·refine ad (fun e=>?_) (fun e=>?_)
  ·rw [decide_eq_true_eq]at e
   have r:=r1 e
   repeat' (refine kr_ ?_)
   obtain⟨b,o,ha,q0,q1,hc⟩:=(ht.mono K3.le).rd r.1 r.2
   refine⟨b,o,ha,q0,q1,_,hc,?_⟩
   refine kw_ ?_
   intro h4 K4 _
   simp only [bX,List.set_cons_zero,List.set_cons_succ,Nat.zero_add,Nat.reduceAdd]at K4
   rw [if_pos e]at hB
   rw [<-hB]at K4
   exact hJ h4 K4
  ·rw [decide_eq_false_iff_not]at e
   rw [if_neg e]at hB
   rw [hB]at hJ
   exact hJ h3 K3
 intro h4 K4
 clear K3 hB r1
 refine ap (fun J=> ∀h',Kn h h' ((b14, .inl ⟨[I 0,I 0,I 0,I 0,I 0,I 0,I 0,I 0, .string ⟨#[]⟩],9,false⟩)::(b12, .inl ⟨[I n.kind,I A,I B,I C,I n.n,I n.m,I n.sort.idx,I n.sort.wid, .string n.name],9,false⟩):: [])->J h') ?_ (fun J hJ=>?_)
 rotate_left
 ·refine ad (fun e=>?_) (fun e=>?_)
  ·rw [decide_eq_true_eq]at e
   have r:=r2 e
   repeat' (refine kr_ ?_)
   obtain⟨b,o,ha,q0,q1,hc⟩:=(ht.mono K4.le).rd r.1 r.2
   refine⟨b,o,ha,q0,q1,_,hc,?_⟩
   refine kw_ ?_
   intro h5 K5 _
   simp only [bX,List.set_cons_zero,List.set_cons_succ,Nat.zero_add,Nat.reduceAdd]at K5
   rw [if_pos e]at hC
   rw [<-hC]at K5
   exact hJ h5 K5
  ·rw [decide_eq_false_iff_not]at e
   rw [if_neg e]at hC
   rw [hC]at hJ
   exact hJ h4 K4
 intro h5 K5
 clear K4 hC r2
 repeat' (refine kr_ ?_)
 refine kw_ ?_
 intro h6 K6 _
 simp only [bX,List.set_cons_zero,List.set_cons_succ,Nat.zero_add,Nat.reduceAdd]at K6
 clear K5
 repeat' (refine kr_ ?_)
 exact⟨h,K6.le,k⟩
theorem E8 {h:Hp} {s t:Sl} {l to:List Int} {R:Value->Hp->Prop} (hs:IntS h s l) (ht:IntS h t to) (hl:l.length<=1048576) (hp: ∀p∈l,0<=p/\p<to.length)
  (k: ∀s' h' X,Kn h h' X->bR X s' 1 ((l.map fun p=>dv to p.toNat).map I)->R (Sl.v s') h'):rb #[s.v,t.v] h R:=by
 apply Mv
 refine uf_ ?_
 have hn:=hs.len
 refine au l.length (fun i vs h'=> ∃(s':Sl) (X:List (Nat×Blk)),vs= [s.v,t.v,s'.v,I (i:Nat)]/\Kn h h' X/\bR X s' 1 (((l.take i).map fun p=>dv to p.toNat).map I)) ⟨⟨none,0,0⟩, [],rfl,Kn.nil h,cF 1⟩ ?_
 rintro i _ h1 next hi ⟨s',X,rfl,K,o⟩ hnx
 refine⟨s,t,s',_,rfl,?_⟩
 by_cases hlt:i<l.length
 rotate_left
 ·refine aC (decide_eq_false (by omega)) (k s' h1 X K ?_)
  rwa [List.take_of_length_le (by omega)]at o
 refine aM (decide_eq_true (by omega)) ?_
 obtain⟨p,hpi⟩: ∃p,l[i]?=some p:=⟨_,List.getElem?_eq_getElem hlt⟩
 obtain⟨b,o1,ha,hc⟩:=(hs.mono K.le).get hpi
 refine⟨b,o1,ha,by omega,by omega,p,by rw [Int.toNat_natCast];exact hc,?_⟩
 obtain⟨b2,o2,ha2,q0,q1,hc2⟩:=(ht.mono K.le).rd (hp p (List.mem_of_getElem? hpi)).1 (hp p (List.mem_of_getElem? hpi)).2
 refine⟨b2,o2,ha2,q0,q1,_,hc2,?_⟩
 have hsn:=o.1
 rw [List.length_map,List.length_map,List.length_take]at hsn
 refine Kn.al K fun b24 h2 K2 l2 hb24=>?_
 refine Kn.growIn (A:= [(b24, .inl ⟨[I (dv to p.toNat)],1,false⟩)]) (L:= []) (by rw [List.append_nil];exact K2) o (by omega) (by omega) (by omega) ⟨b24,0,rfl,aw (K2.at (.head _))⟩ rfl rfl fun s2 X2 h3 hn2 o2 K3 _=>?_
 rw [ay (by omega)]
 refine hnx hlt _ _ ⟨s2,X2,rfl,?_,?_⟩
 ·rw [List.append_nil]at K3;exact K3.tl
 ·rw [sk hpi,List.map_append,List.map_append]
  exact o2
theorem EX {h:Hp} {s t:Sl} {l:List BindP} {to:List Int} {R:Value->Hp->Prop} (hs:iH h s l) (ht:IntS h t to) (hl:l.length<=1048576) (hp: ∀b∈l,(0<=b.state/\b.state<to.length)/\0<=b.node/\b.node<to.length)
  (k: ∀s' h' X,Kn h h' X->bR X s' 2 (((l.filter fun b=>decide (0<=dv to b.state.toNat)).map fun b=>(⟨dv to b.state.toNat,dv to b.node.toNat⟩:BindP)).flatMap bindCells)->R (Sl.v s') h'):ru #[s.v,t.v] h R:=by
 apply KQ
 refine uf_ ?_
 have hn:=hs.len
 refine au l.length (fun i vs h'=> ∃(s':Sl) (X:List (Nat×Blk)),vs= [s.v,t.v,s'.v,I (i:Nat)]/\s'.n<=i/\Kn h h' X/\bR X s' 2 ((((l.take i).filter fun b=>decide (0<=dv to b.state.toNat)).map fun b=>(⟨dv to b.state.toNat,dv to b.node.toNat⟩:BindP)).flatMap bindCells)) ⟨⟨none,0,0⟩, [],rfl,Nat.le_refl _,Kn.nil h,cF 2⟩ ?_
 rintro i _ h1 next hi ⟨s',X,rfl,hsn,K,o⟩ hnx
 refine⟨s,t,s',_,rfl,?_⟩
 by_cases hlt:i<l.length
 rotate_left
 ·refine aC (decide_eq_false (by omega)) (k s' h1 X K ?_)
  rwa [List.take_of_length_le (by omega)]at o
 refine aM (decide_eq_true (by omega)) ?_
 obtain⟨x,hxi⟩: ∃x,l[i]?=some x:=⟨_,List.getElem?_eq_getElem hlt⟩
 obtain⟨r1,r2⟩:=hp x (List.mem_of_getElem? hxi)
 obtain⟨b,o1,ha,c0,c1⟩:=(hs.mono K.le).at hxi
 obtain⟨b2,o2,ha2,q0,q1,hc2⟩:=(ht.mono K.le).rd r1.1 r1.2
 obtain⟨b3,o3,ha3,q2,q3,hc3⟩:=(ht.mono K.le).rd r2.1 r2.2
 refine⟨b,o1,ha,by omega,by omega,x.state,by rw [Int.toNat_natCast];exact c0,b2,o2,ha2,q0,q1,_,hc2,?_⟩
 refine ad (fun e=>?_) (fun e=>?_)
 ·rw [decide_eq_true_eq]at e
  refine⟨b,o1,ha,by omega,by omega,b,o1,ha,by omega,by omega,x.state,by rw [Int.toNat_natCast];exact c0,b2,o2,ha2,q0,q1,_,hc2,x.node,by rw [Int.toNat_natCast];exact c1,b3,o3,ha3,q2,q3,_,hc3,?_⟩
  refine Kn.al K fun b36 h2 K2 l2 hb36=>?_
  refine Kn.growIn (A:= [(b36, .inl ⟨[I (dv to x.state.toNat),I (dv to x.node.toNat)],2,false⟩)]) (L:= []) (by rw [List.append_nil];exact K2) o (by omega) (by omega) (by omega) ⟨b36,0,rfl,aw (K2.at (.head _))⟩ rfl rfl fun s2 X2 h3 hn2 o2 K3 _=>?_
  rw [ay (by omega)]
  refine hnx hlt _ _ ⟨s2,X2,rfl,by omega,?_,?_⟩
  ·rw [List.append_nil]at K3;exact K3.tl
  ·rw [sk hxi,List.filter_append,List.filter_cons_of_pos (by simpa using e),List.filter_nil,List.map_append,List.flatMap_append]
   exact o2
 ·rw [decide_eq_false_iff_not]at e
  rw [ay (by omega)]
  refine hnx hlt _ _ ⟨s',X,rfl,by omega,K,?_⟩
  rw [sk hxi,List.filter_append,List.filter_cons_of_neg (by simpa using e),List.filter_nil,List.append_nil]
  exact o
noncomputable def fu (m:ah) (i:Nat):Nat:=((List.range i).filter (cP m)).length
def EQ (m:ah) (j:Nat):NodeP:=(m.nodes[j]?).getD ⟨0,0,0,0,0,0,⟨0,0⟩,⟨#[]⟩⟩
noncomputable def gZ (m:ah) (i:Nat):List NodeP:=((List.range i).filter (cP m)).map fun j=>cA (fun p=>(fu m p:Int)) (EQ m j)
noncomputable def jq (m:ah) (l:List BindP):List BindP:=(l.filter fun b=>cP m b.state.toNat).map fun b=>⟨fu m b.state.toNat,fu m b.node.toNat⟩
noncomputable def de (m:ah):ah:=⟨gZ m m.nodes.length,jq m m.inits,jq m m.nexts,m.bads.map fun p=>(fu m p.toNat:Int),m.holds.map fun p=>(fu m p.toNat:Int)⟩
noncomputable def iW (m:ah):ah:=if aG m=0 then de m else⟨[], [], [], [], []⟩
noncomputable def toL (m:ah) (i:Nat):List Int:=(List.range i).map fun j=>if cP m j=true then(fu m j:Int)else-1
theorem yC {m:ah} {j:Nat} {n:NodeP} (h:m.nodes[j]?=some n):EQ m j=n:=by unfold EQ;rw [h];rfl
theorem P8 (m:ah) (i:Nat):fu m i<=i:=by
 unfold fu
 exact Nat.le_trans (List.length_filter_le _ _) (by rw [List.length_range];exact Nat.le_refl _)
theorem sd {m:ah} {i:Nat} (h:cP m i=true):gZ m (i+1)=gZ m i++ [cA (fun p=>(fu m p:Int)) (EQ m i)]:=by
 unfold gZ
 rw [List.range_succ,List.filter_append,List.map_append];simp [h]
theorem uN {m:ah} {i:Nat} (h:cP m i=false):gZ m (i+1)=gZ m i:=by
 unfold gZ
 rw [List.range_succ,List.filter_append,List.map_append];simp [h]
theorem ll (m:ah) (i:Nat):(gZ m i).length=fu m i:=by unfold gZ fu;rw [List.length_map]
theorem BO (m:ah) (i:Nat):(toL m i).length=i:=by unfold toL;rw [List.length_map,List.length_range]
theorem SJ (m:ah) (i:Nat):toL m (i+1)=toL m i++ [if cP m i=true then(fu m i:Int)else-1]:=by
 unfold toL;rw [List.range_succ,List.map_append];rfl
theorem Mm {m:ah} {i p:Nat} (h:p<i):dv (toL m i) p=if cP m p=true then(fu m p:Int)else-1:=by
 unfold dv toL
 rw [List.getD_eq_getElem?_getD,List.getElem?_map,List.getElem?_range h];rfl
theorem yK {f g:Nat->Int} {n:NodeP} (hk:0<=ai n.kind) (h: ∀p∈dP n,f p=g p):cA f n=cA g n:=by
 have a:=fun(e:0<ai n.kind)=>h n.a.toNat ((fv hk).2 ⟨0,by omega,e,rfl⟩)
 have b:=fun(e:1<ai n.kind)=>h n.b.toNat ((fv hk).2 ⟨1,by omega,e,rfl⟩)
 have c:=fun(e:2<ai n.kind)=>h n.c.toNat ((fv hk).2 ⟨2,by omega,e,rfl⟩)
 unfold cA
 congr 1
 ·split
  ·rename_i e;exact a e
  ·rfl
 ·split
  ·rename_i e;exact b e
  ·rfl
 ·split
  ·rename_i e;exact c e
  ·rfl
theorem kj {l:List NodeP} {p:Int} (h:da l p=true):0<=p/\p<l.length:=by
 unfold da at h
 have:=eE (Bool.and_eq_true_iff.1 h).1
 exact⟨this.1,this.2.1⟩
theorem Km {m:ah} {l:List Int} (h: ∀p∈l,0<=p/\p<m.nodes.length/\kX m p.toNat):(l.map fun p=>dv (toL m m.nodes.length) p.toNat)=l.map fun p=>(fu m p.toNat:Int):=by
 refine List.map_congr_left fun p hp=>?_
 obtain⟨h0,h1,h2⟩:=h p hp
 rw [Mm (by omega),if_pos (fh.2 h2)]
theorem Jg {m:ah} {l:List BindP} (h: ∀b∈l,(0<=b.state/\b.state<m.nodes.length)/\(0<=b.node/\b.node<m.nodes.length)/\(kX m b.state.toNat->kX m b.node.toNat)):
  ((l.filter fun b=>decide (0<=dv (toL m m.nodes.length) b.state.toNat)).map fun b=>(⟨dv (toL m m.nodes.length) b.state.toNat,dv (toL m m.nodes.length) b.node.toNat⟩:BindP))=jq m l:=by
 unfold jq
 have e:l.filter (fun b=>decide (0<=dv (toL m m.nodes.length) b.state.toNat))=l.filter fun b=>cP m b.state.toNat:=by
  refine List.filter_congr fun b hb=>?_
  obtain⟨h1,_,_⟩:=h b hb
  rw [Mm (by omega)]
  cases cP m b.state.toNat
  ·rfl
  ·rw [if_pos rfl,decide_eq_true (by omega)]
 rw [e]
 refine List.map_congr_left fun b hb=>?_
 obtain⟨hb,hn⟩:=List.mem_filter.1 hb
 obtain⟨h1,h2,h3⟩:=h b hb
 rw [Mm (by omega),Mm (by omega),if_pos hn,if_pos (fh.2 (h3 (fh.1 hn)))]
theorem fZ {m:ah} (gd:cr m) {b:BindP} (hb:b∈m.inits\/b∈m.nexts):(0<=b.state/\b.state<m.nodes.length)/\(0<=b.node/\b.node<m.nodes.length)/\(kX m b.state.toNat->kX m b.node.toNat):=by
 rcases hb with hb|hb
 ·have h1:=eE (eO (gd.ini b hb)).1
  have h2:=eE (eO (gd.ini b hb)).2.1
  exact⟨⟨h1.1,h1.2.1⟩,⟨h2.1,h2.2.1⟩,fun h=> .ini h hb (by omega)⟩
 ·have h1:=eE (dn (gd.nex b hb)).1
  have h2:=eE (dn (gd.nex b hb)).2.1
  exact⟨⟨h1.1,h1.2.1⟩,⟨h2.1,h2.2.1⟩,fun h=> .nex h hb (by omega)⟩
theorem Kn.shift {g h h' h0:Hp} {L X:List (Nat×Blk)} {s:Sl} {sz:Nat} {cs:List Value} (l0:h0.le g) (K:Kn g h L) (K':Kn h h' X) (o:bR X s sz cs) (hn:s.n<=9223372036854775807): ∃g',g.le g'/\Kn g' h' L/\SlC (g'.sub h0) s sz cs:=by
 have hsub: ∀e∈X,(h'.sub h) e.1=some e.2:=fun e he=>by
  unfold Hp.sub
  rw [K'.new e he]
  exact K'.mem e he
 refine⟨_,(K.mono K'.le).leBase,(K.mono K'.le).base,(o.slcOf hn hsub).mono fun c x e=>?_⟩
 have e2:=ya K c x e
 have e0:h0 c=none:=aF (Hp.le_trans l0 K.le) (mb (by rw [e];simp))
 rw [ln e0];exact e2
abbrev slN :Value:= .slice none 0 0
theorem Bx (h:Hp):aO h ⟨⟨none,0,0⟩,⟨none,0,0⟩,⟨none,0,0⟩,⟨none,0,0⟩,⟨none,0,0⟩⟩ ⟨[], [], [], [], []⟩:=by
 have z: ∀sz,SlC h ⟨none,0,0⟩ sz []:=fun sz=>⟨by simp,by simp, .inl rfl⟩
 exact⟨z 9,z 2,z 2,z 1,z 1,Nat.le_refl _⟩
set_option maxHeartbeats 2000000 in
theorem vQ {h:Hp} {M:MSl} {m:ah} {R:Value->Hp->Prop} (hs:aO h M m) (hm:bT m)
  (k: ∀M' h',h.le h'->aO (h'.sub h) M' (iW m)->R (aQ M') h'):ie #[aQ M] h R:=by
 apply F1
 refine uf_ ?_
 (with_reducible apply Kn.al);(exact Kn.nil h);(intro b7 h1 K1 l1 hb7)
 refine Kn.al K1 fun b9 h2 K2 l2 hb9=>?_
 clear K1
 repeat' (refine kr_ ?_)
 refine cj (hs.mono K2.le) hm ⟨_,rfl,?_⟩
 unfold iW at k
 refine ad (fun e=>?_) (fun e=>?_)
 ·rw [if_neg (iV e)]at k
  refine kw_ ?_
  intro h3 K3 _
  simp only [bX,List.set_cons_zero,List.set_cons_succ,Nat.zero_add,Nat.reduceAdd]at K3
  refine⟨⟨none,0,0⟩,by rw [ax (K3.at (.head _))];rfl,⟨none,0,0⟩,by rw [ax (K3.at (.head _))];rfl,⟨none,0,0⟩,by rw [ax (K3.at (.head _))];rfl,⟨none,0,0⟩,by rw [ax (K3.at (.head _))];rfl,⟨none,0,0⟩,by rw [ax (K3.at (.head _))];rfl,?_⟩
  exact k _ h3 K3.le (Bx _)
 have hc:=fY e
 rw [if_pos hc]at k
 have gd:=cD hc
 have hN:=gd.nl
 have hah:=dH gd.ok
 repeat' (refine kr_ ?_)
 refine BH (hs.mono K2.le) hm gd fun h3 bn Kn3=>⟨_,rfl,?_⟩
 have K3:=K2.app Kn3.le (fun e he=>Kn3.new e he) (fun e he=>Kn3.mem e he) Kn3.nd
 clear K2 Kn3
 refine Kn.al K3 fun b40 h4 K4 l4 hb40=>?_
 obtain⟨g2,KA,KL⟩:=Kn.cut (A:= [(b7, .inl ⟨aH M,5,false⟩),(bn, .inl ⟨mkC m.nodes.length (cP m),m.nodes.length,false⟩)]) (L:= [(b40, .inl ⟨[slN,slN,slN,slN,slN],5,false⟩),(b9, .inl ⟨[slN,slN,slN,slN,slN],5,false⟩)])
  (K4.perm (List.perm_append_comm (l₁:= [_,_]) (l₂:= [_,_])))
 clear K3 K4 l4 hb40
 have f7:=KA.at (b:=b7) (by((focus ((repeat first|exact .head _|apply List.Mem.tail);done))))
 have fn:=KA.at (b:=bn) (by((focus ((repeat first|exact .head _|apply List.Mem.tail);done))))
 have x7:=cf f7
 have xn:=cf fn
 have hs2:=hs.mono KA.le
 have l02:=KA.le
 have hnl:=hs2.nodes.len
 clear KA
 refine au m.nodes.length (fun i vs h'=> ∃(sN sT:Sl) (XN XT:List (Nat×Blk)),vs= [.pointer (some ⟨b7,0,none⟩), .pointer (some ⟨b9,0,none⟩),(arr bn m.nodes.length).v, .pointer (some ⟨b40,0,none⟩),sT.v,I (i:Nat)]/\
  Kn g2 h' ((b40, .inl ⟨[sN.v,slN,slN,slN,slN],5,false⟩)::(b9, .inl ⟨[slN,slN,slN,slN,slN],5,false⟩)::(XN++XT))/\bR XN sN 9 ((gZ m i).flatMap nodeCells)/\bR XT sT 1 ((toL m i).map I))
  ⟨⟨none,0,0⟩,⟨none,0,0⟩, [], [],rfl,KL,cF 9,cF 1⟩ ?_
 clear KL
 rintro i _ h5 next hi ⟨sN,sT,XN,XT,rfl,K5,oN,oT⟩ hnx
 refine⟨b7,0,b9,0,arr bn _,b40,0,sT,_,rfl,?_⟩
 have hsN:=oN.1
 rw [ck (m:=9) (fun _=>rfl),ll]at hsN
 have hsT:=oT.1
 rw [List.length_map,BO]at hsT
 have hcp:=P8 m i
 by_cases hlt:i<m.nodes.length
 ·refine aM (decide_eq_true (by show _<((m.nodes.length:Nat):Int);omega)) ?_
  refine ap (fun J=> ∀(sN' sT':Sl) (XN' XT':List (Nat×Blk)) h',Kn g2 h' ((b40, .inl ⟨[sN'.v,slN,slN,slN,slN],5,false⟩)::(b9, .inl ⟨[slN,slN,slN,slN,slN],5,false⟩)::(XN'++XT'))->
   bR XN' sN' 9 ((gZ m (i+1)).flatMap nodeCells)->bR XT' sT' 1 ((toL m (i+1)).map I)->J sT' h') (fun sN' sT' XN' XT' h' K' a' b'=>?_) (fun J hJ=>?_)
  ·rw [ay (by omega)]
   exact hnx hlt _ _ ⟨sN',sT',XN',XT',rfl,K',a',b'⟩
  refine⟨bn,0,rfl,by omega,by show _<((m.nodes.length:Nat):Int);omega,cP m i,by rw [ax (K5.le _ _ fn),show (0+Int.toNat (i:Int)*1)=i by simp];exact pC _ hlt,?_⟩
  refine ad (fun e=>?_) (fun e=>?_)
  ·rw [Bool.not_eq_true']at e
   refine Kn.al K5 fun b66 h6 K6 l6 hb66=>?_
   refine Kn.growIn (A:= [(b66, .inl ⟨[I (-1)],1,false⟩),(b40, .inl ⟨[sN.v,slN,slN,slN,slN],5,false⟩),(b9, .inl ⟨[slN,slN,slN,slN,slN],5,false⟩)]++XN) (L:= []) (by rw [List.append_nil,List.append_assoc];exact K6) oT (by omega) (by omega) (by omega)
    ⟨b66,0,rfl,aw (K6.at (.head _))⟩ rfl rfl fun sT' XT' h7 hn7 oT' K7 _=>?_
   refine hJ sN sT' XN XT' h7 ?_ (by rw [uN e];exact oN) (by rw [SJ,e,List.map_append];exact oT')
   rw [List.append_nil,List.append_assoc]at K7
   exact K7.tl
  ·rw [Bool.not_eq_false']at e
   obtain⟨nd,hni⟩: ∃n,m.nodes[i]?=some n:=⟨_,List.getElem?_eq_getElem hlt⟩
   repeat' (refine kr_ ?_)
   obtain⟨b,o,ha,c0,c1,c2,c3,c4,c5,c6,c7,c8⟩:=(hs2.mono K5.le).nodes.at hni
   refine⟨b,o,ha,by omega,by omega,?_⟩
   rw [Int.toNat_natCast]
   refine⟨_,c0,_,c1,_,c2,_,c3,_,c4,_,c5,_,c6,_,c7,_,c8,?_⟩
   have hf:=fU gd.ok hni
   have hk:=fD hf
   have hT:IntS h5 sT (toL m i):=oT.slcOf (by omega) fun x hx=>K5.mem x (.tail _ (.tail _ (List.mem_append_right _ hx)))
   refine PW hT hk (fun j h3 hj=>by have:=iU hf h3 hj;rw [BO];exact⟨this.1,by omega⟩) ⟨_,_,_,_,_,_,_,_,_,rfl,?_⟩
   have hpt:cA (dv (toL m i)) nd=cA (fun p=>(fu m p:Int)) nd:=yK hk fun p hp=>by
    have hpi:=(hah i nd hni).2 p hp
    rw [Mm hpi,if_pos (fh.2 (.part (fh.1 e) hni hp))]
   rw [hpt]
   have hne:=sd e
   rw [yC hni]at hne
   generalize cA (fun p=>(fu m p:Int)) nd=nn at*
   clear hpt ha c0 c1 c2 c3 c4 c5 c6 c7 c8 hT
   repeat' (refine kr_ ?_)
   refine Kn.al K5 fun b97 h6 K6 l6 hb97=>?_
   repeat' (refine kr_ ?_)
   refine Kn.growIn (A:= [(b97, .inl ⟨nodeCells nn,9,false⟩),(b40, .inl ⟨[sN.v,slN,slN,slN,slN],5,false⟩),(b9, .inl ⟨[slN,slN,slN,slN,slN],5,false⟩)]) (L:=XT) K6 oN (by omega) (by omega) (by omega)
    ⟨b97,0,rfl,aw (K6.at (.head _))⟩ rfl rfl fun sN' XN' h7 hn7 oN' K7 _=>?_
   clear K5 K6
   simp only [List.cons_append,List.nil_append]at K7
   refine kw_ ?_
   intro h8 K8 _
   rw [bG,List.set_cons_zero,show (Value.slice sN'.a sN'.n sN'.c)=sN'.v from rfl]at K8
   replace K8:=K8.tl
   clear K7
   repeat' (refine kr_ ?_)
   have hw:W (((sN'.n:Nat):Int)-1)=((fu m i:Nat):Int):=by rw [cd (by omega) (by omega)];omega
   rw [hw]
   refine Kn.al K8 fun b108 h9 K9 l9 hb108=>?_
   refine Kn.growIn (A:= [(b108, .inl ⟨[I (fu m i:Nat)],1,false⟩),(b40, .inl ⟨[sN'.v,slN,slN,slN,slN],5,false⟩),(b9, .inl ⟨[slN,slN,slN,slN,slN],5,false⟩)]++XN') (L:= []) (by rw [List.append_nil,List.append_assoc];exact K9) oT (by omega) (by omega) (by omega)
    ⟨b108,0,rfl,aw (K9.at (.head _))⟩ rfl rfl fun sT' XT' h10 hn10 oT' K10 _=>?_
   refine hJ sN' sT' XN' XT' h10 ?_ (by rw [hne,List.flatMap_append];exact oN') (by rw [SJ,if_pos e,List.map_append];exact oT')
   rw [List.append_nil,List.append_assoc]at K10
   exact K10.tl
 refine aC (decide_eq_false (by show¬_<((m.nodes.length:Nat):Int);omega)) ?_
 obtain rfl:i=m.nodes.length:=by omega
 clear hnx hlt hi next
 obtain⟨g3,KA,KL⟩:=Kn.cut (A:=XN++XT) (L:= [(b40, .inl ⟨[sN.v,slN,slN,slN,slN],5,false⟩),(b9, .inl ⟨[slN,slN,slN,slN,slN],5,false⟩)]) (K5.perm (List.perm_append_comm (l₁:= [_,_])))
 have hNo:gD (g3.sub h) sN (gZ m m.nodes.length):=oN.slcOf (by omega) fun x hx=>by rw [ln (aF l02 (KA.new x (List.mem_append_left _ hx)))];exact KA.mem x (List.mem_append_left _ hx)
 have hT:IntS g3 sT (toL m m.nodes.length):=oT.slcOf (by omega) fun x hx=>KA.mem x (List.mem_append_right _ hx)
 have l23:=KA.le
 have hcap:=oN.2.1
 clear K5 KA oN oT
 replace f7:=l23 _ _ f7
 replace hs2:=hs2.mono l23
 replace l02:=Hp.le_trans l02 l23
 clear l23 fn xn x7
 have hbi:=fun b (hb:b∈m.inits)=>fZ gd (.inl hb)
 have hbx:=fun b (hb:b∈m.nexts)=>fZ gd (.inr hb)
 have hpb: ∀p∈m.bads,0<=p/\p<m.nodes.length/\kX m p.toNat:=fun p hp=>⟨(kj (gd.bad p hp)).1,(kj (gd.bad p hp)).2, .bad hp⟩
 have hph: ∀p∈m.holds,0<=p/\p<m.nodes.length/\kX m p.toNat:=fun p hp=>⟨(kj (gd.hol p hp)).1,(kj (gd.hol p hp)).2, .hold hp⟩
 have eI:=Jg hbi
 have eX:=Jg hbx
 have eB:=Km hpb
 have eH:=Km hph
 have hil:=gd.il
 have hxl:=gd.xl
 have hbl:=gd.bl
 have hhl:=gd.hl
 repeat' (refine kr_ ?_)
 refine EX (hs2.mono KL.le).inits (hT.mono KL.le) hm.inits (fun b hb=>by rw [BO];exact⟨(hbi b hb).1,(hbi b hb).2.1⟩) fun s1 h6 X1 KX o1=>⟨_,rfl,?_⟩
 rw [eI]at o1
 have hl1:s1.n<=60:=by
  have:=o1.1
  rw [ck (m:=2) (fun _=>rfl)]at this
  unfold jq at this
  rw [List.length_map]at this
  have:=List.length_filter_le (fun b=>cP m b.state.toNat) m.inits
  omega
 obtain⟨g4,l34,K6,hI⟩:=Kn.shift l02 KL KX o1 (by omega)
 clear KL KX o1
 replace f7:=l34 _ _ f7
 replace hs2:=hs2.mono l34
 replace l02:=Hp.le_trans l02 l34
 replace hNo:=hNo.mono (eV h l34)
 replace hT:=hT.mono l34
 clear l34
 refine kw_ ?_
 intro h7 K7 _
 simp only [bX,List.set_cons_zero,List.set_cons_succ,Nat.zero_add,Nat.reduceAdd]at K7
 clear K6
 repeat' (refine kr_ ?_)
 refine EX (hs2.mono K7.le).nexts (hT.mono K7.le) hm.nexts (fun b hb=>by rw [BO];exact⟨(hbx b hb).1,(hbx b hb).2.1⟩) fun s2 h8 X2 KX o2=>⟨_,rfl,?_⟩
 rw [eX]at o2
 have hl2:s2.n<=60:=by
  have:=o2.1
  rw [ck (m:=2) (fun _=>rfl)]at this
  unfold jq at this
  rw [List.length_map]at this
  have:=List.length_filter_le (fun b=>cP m b.state.toNat) m.nexts
  omega
 obtain⟨g5,l45,K8,hX⟩:=Kn.shift l02 K7 KX o2 (by omega)
 clear K7 KX o2
 replace f7:=l45 _ _ f7
 replace hs2:=hs2.mono l45
 replace l02:=Hp.le_trans l02 l45
 replace hNo:=hNo.mono (eV h l45)
 replace hT:=hT.mono l45
 replace hI:=hI.mono (eV h l45)
 clear l45
 refine kw_ ?_
 intro h9 K9 _
 simp only [bX,List.set_cons_zero,List.set_cons_succ,Nat.zero_add,Nat.reduceAdd]at K9
 clear K8
 repeat' (refine kr_ ?_)
 refine E8 (hs2.mono K9.le).bads (hT.mono K9.le) hm.bads (fun p hp=>by rw [BO];exact⟨(hpb p hp).1,(hpb p hp).2.1⟩) fun s3 h10 X3 KX o3=>⟨_,rfl,?_⟩
 rw [eB]at o3
 have hl3:s3.n<=60:=by
  have:=o3.1
  rw [List.length_map,List.length_map]at this
  omega
 obtain⟨g6,l56,K10,hB⟩:=Kn.shift l02 K9 KX o3 (by omega)
 clear K9 KX o3
 replace f7:=l56 _ _ f7
 replace hs2:=hs2.mono l56
 replace l02:=Hp.le_trans l02 l56
 replace hNo:=hNo.mono (eV h l56)
 replace hT:=hT.mono l56
 replace hI:=hI.mono (eV h l56)
 replace hX:=hX.mono (eV h l56)
 clear l56
 refine kw_ ?_
 intro h11 K11 _
 simp only [bX,List.set_cons_zero,List.set_cons_succ,Nat.zero_add,Nat.reduceAdd]at K11
 clear K10
 repeat' (refine kr_ ?_)
 refine E8 (hs2.mono K11.le).holds (hT.mono K11.le) hm.holds (fun p hp=>by rw [BO];exact⟨(hph p hp).1,(hph p hp).2.1⟩) fun s4 h12 X4 KX o4=>⟨_,rfl,?_⟩
 rw [eH]at o4
 have hl4:s4.n<=60:=by
  have:=o4.1
  rw [List.length_map,List.length_map]at this
  omega
 obtain⟨g7,l67,K12,hH⟩:=Kn.shift l02 K11 KX o4 (by omega)
 clear K11 KX o4
 replace l02:=Hp.le_trans l02 l67
 replace hNo:=hNo.mono (eV h l67)
 replace hI:=hI.mono (eV h l67)
 replace hX:=hX.mono (eV h l67)
 replace hB:=hB.mono (eV h l67)
 clear l67 f7 hs2 hT
 refine kw_ ?_
 intro h13 K13 _
 simp only [bX,List.set_cons_zero,List.set_cons_succ,Nat.zero_add,Nat.reduceAdd]at K13
 clear K12
 repeat' (refine kr_ ?_)
 refine kw_ ?_
 intro h14 K14 _
 simp only [bX,List.set_cons_zero,List.set_cons_succ,Nat.zero_add,Nat.reduceAdd]at K14
 clear K13
 repeat' (refine kr_ ?_)
 exact k ⟨sN,s1,s2,s3,s4⟩ h14 (Hp.le_trans l02 K14.le) ⟨hNo.mono (eV h K14.le),hI.mono (eV h K14.le),hX.mono (eV h K14.le),hB.mono (eV h K14.le),hH.mono (eV h K14.le),hcap⟩
theorem ko {h:Hp} {M:MSl} {m:ah} {R:Value->Hp->Prop} (hs:aO h M m) (hm:bT m)
  (k: ∀M' h',h.le h'->aO h' M' (iW m)->R (aQ M') h'):ie #[aQ M] h R:=
 vQ hs hm fun M' h' l hM=>k M' h' l (hM.mono (sub_le _ _))
theorem Kn.copy {g h:Hp} {L:List (Nat×Blk)} {s:Sl} {sz by_:Nat} {cs:List Value} {C:Option Addr->Nat->Nat->Hp->Prop} (K:Kn g h L) (hs:SlC h s sz cs) (hsz:s.n*by_<=140737488355328) (ho:cs.all (·.oneCell')=true)
  (k: ∀s' X' h',bR X' s' sz cs->Kn g h' (L++X')->s'.n=s.n->C s'.a s'.n s'.c h'):cy h none 0 0 s.a s.n sz by_ C:=by
 by_cases h0:s.n=0
 ·have hc:cs= []:=List.eq_nil_of_length_eq_zero (by rw [hs.2.1,h0,Nat.zero_mul])
  subst hc
  rw [h0]
  exact .inl ⟨rfl,Nat.le_refl _,k ⟨none,0,0⟩ [] h (cF sz) (by rw [List.append_nil];exact K) h0.symm⟩
 ·obtain⟨b,o,ha,hc⟩:=hs.get (by omega)
  refine Kn.growIn (A:=L) (X:= []) (L:= []) (s:=⟨none,0,0⟩) (cs:= []) (by simpa using K) (cF sz) (by omega) (by rw [Nat.zero_add];exact hsz) (by have:=hs.1;dsimp only;omega) ⟨b,o,ha,hc⟩ hs.2.1 ho fun s' X' h' hn o' K' _=>?_
  rw [List.append_nil]at K'
  rw [List.nil_append]at o'
  exact k s' X' h' o' K' (by dsimp only at hn;omega)
theorem OG (l:List BindP):(l.flatMap bindCells).all (·.oneCell')=true:=by
 rw [List.all_eq_true];intro v hv;obtain⟨x,_,hx⟩:=List.mem_flatMap.1 hv;simp at hx;rcases hx with rfl|rfl<;>rfl
theorem ac6 (l:List Int):(l.map I).all (·.oneCell')=true:=by
 rw [List.all_eq_true];intro v hv;obtain⟨x,_,rfl⟩:=List.mem_map.1 hv;rfl
theorem Pf (l:List NodeP):(l.flatMap nodeCells).all (·.oneCell')=true:=by
 rw [List.all_eq_true];intro v hv;obtain⟨x,_,hx⟩:=List.mem_flatMap.1 hv
 simp at hx;rcases hx with rfl|rfl|rfl|rfl|rfl|rfl|rfl|rfl|rfl<;>rfl
theorem CN {g h:Hp} {L:List (Nat×Blk)} {s:Sl} {l:List BindP} {R:Value->Hp->Prop} (K:Kn g h L) (hs:iH h s l) (hl:l.length<=1048576)
  (k: ∀s' X' h',bR X' s' 2 (l.flatMap bindCells)->Kn g h' (L++X')->R (Sl.v s') h'):mw #[s.v] h R:=by
 apply Fg
 refine uf_ ?_
 have:=hs.len
 exact K.copy hs (by omega) (OG l) fun s' X' h' o K' _=>k s' X' h' o K'
theorem Fx {g h:Hp} {L:List (Nat×Blk)} {s:Sl} {l:List Int} {R:Value->Hp->Prop} (K:Kn g h L) (hs:IntS h s l) (hl:l.length<=1048576)
  (k: ∀s' X' h',bR X' s' 1 (l.map I)->Kn g h' (L++X')->R (Sl.v s') h'):ez #[s.v] h R:=by
 apply yi
 refine uf_ ?_
 have:=hs.len
 exact K.copy hs (by omega) (ac6 l) fun s' X' h' o K' _=>k s' X' h' o K'
structure ahl (XN XI XX XB XH:List (Nat×Blk)) (M:MSl) (m:ah):Prop where
 no:bR XN M.no 9 (m.nodes.flatMap nodeCells)
 ini:bR XI M.ini 2 (m.inits.flatMap bindCells)
 nex:bR XX M.nex 2 (m.nexts.flatMap bindCells)
 bad:bR XB M.bad 1 (m.bads.map I)
 hol:bR XH M.hol 1 (m.holds.map I)
set_option maxHeartbeats 1000000 in
theorem nG {h:Hp} {M:MSl} {m:ah} {R:Value->Hp->Prop} (hs:aO h M m) (hm:bT m)
  (k: ∀M' XN XI XX XB XH h',ahl XN XI XX XB XH M' m->Kn h h' (XN++(XI++(XX++(XB++XH))))->R (aQ M') h'):hG #[aQ M] h R:=by
 apply Dd
 refine uf_ ?_
 (with_reducible apply Kn.al);(exact Kn.nil h);(intro b7 h1 K1 l1 hb7)
 refine Kn.al K1 fun b9 h2 K2 l2 hb9=>?_
 clear K1
 obtain⟨g1,KA,K⟩:=Kn.cut (A:= [(b7, .inl ⟨aH M,5,false⟩)]) (L:= [(b9, .inl ⟨[slN,slN,slN,slN,slN],5,false⟩)]) K2.sw
 have f7:=KA.at (.head _)
 have x7:=cf f7
 have hs1:=hs.mono KA.le
 have l01:=KA.le
 clear K2 KA
 have n1:=hs.nodes.len
 have n2:=hm.nodes
 repeat' (refine kr_ ?_)
 refine K.copy (hs1.mono K.le).nodes (by omega) (Pf _) fun sN XN h3 oN K3 _=>?_
 repeat' (refine kr_ ?_)
 refine CN K3 (hs1.mono K3.le).inits hm.inits fun sI XI h4 oI K4=>⟨_,rfl,?_⟩
 repeat' (refine kr_ ?_)
 refine CN K4 (hs1.mono K4.le).nexts hm.nexts fun sX XX h5 oX K5=>⟨_,rfl,?_⟩
 repeat' (refine kr_ ?_)
 refine Fx K5 (hs1.mono K5.le).bads hm.bads fun sB XB h6 oB K6=>⟨_,rfl,?_⟩
 repeat' (refine kr_ ?_)
 refine Fx K6 (hs1.mono K6.le).holds hm.holds fun sH XH h7 oH K7=>⟨_,rfl,?_⟩
 clear K K3 K4 K5 K6
 simp only [List.cons_append,List.nil_append,List.append_assoc]at K7
 refine kw_ ?_
 intro h8 K8 _
 simp only [bX,List.set_cons_zero,List.set_cons_succ,Nat.zero_add,Nat.reduceAdd]at K8
 replace K8:Kn g1 h8 ((b9, .inl ⟨[sN.v,sI.v,sX.v,sB.v,sH.v],5,false⟩)::(XN++(XI++(XX++(XB++XH))))):=K8
 clear K7
 repeat' (refine kr_ ?_)
 exact k ⟨sN,sI,sX,sB,sH⟩ XN XI XX XB XH h8 ⟨oN,oI,oX,oB,oH⟩ (K8.tl.weak l01)
theorem Q2 {h:Hp} {b3 bk z n:Nat} {f:Nat->Bool} {x:BindP} {R:Value->Hp->Prop} (f3:h b3=some (.inl ⟨[(arr bk n).v],z,false⟩)) (fk:h bk=some (.inl ⟨mkC n f,n,false⟩)) (h0:0<=x.state) (hx:x.state<n)
  (k:R (.bool (!f x.state.toNat)) h):um #[xa x, .pointer (some ⟨b3,0,none⟩)] h R:=by
 refine ACalls.drop (Ch ?_)
 refine uf_ ?_
 (with_reducible apply Kn.al);(exact Kn.nil h);(intro b6 h1 K1 l1 hb6)
 have x3:=cf f3
 repeat' (refine kr_ ?_)
 refine⟨h0,by show _<((n:Nat):Int);omega,f x.state.toNat,by rw [ax (l1 _ _ fk),Nat.zero_add,Nat.mul_one];exact pC f (by omega),h,l1,k⟩
set_option maxHeartbeats 1000000 in
theorem G6 {h:Hp} {n:NodeP} {t:Sl} {to:List Int} {R:Value->Hp->Prop} (ht:IntS h t to) (hk:0<=ai n.kind) (hp: ∀i:Nat,i<3->(i:Int)<ai n.kind->0<=az n i/\az n i<to.length)
  (k:R (pE (cA (dv to) n)) h):lj #[pE n,t.v] h R:=by
 refine ACalls.drop (Dk ?_)
 refine uf_ ?_
 (with_reducible apply Kn.al);(exact Kn.nil h);(intro b12 h1 K1 l1 hb12)
 refine Kn.al K1 fun b14 h2 K2 l2 hb14=>?_
 refine Kn.al K2 fun b17 h3 K3 l3 hb17=>?_
 clear K1 K2
 obtain⟨P,hP⟩: ∃P:Nat->Int,P=fun(i:Nat)=>if(i:Int)<ai n.kind then dv to (az n i).toNat else az n i:=⟨_,rfl⟩
 have hres:cA (dv to) n={n with a:=P 0,b:=P 1,c:=P 2}:=by rw [hP];rfl
 rw [hres]at k
 clear hres
 have hP1: ∀i:Nat,(i:Int)<ai n.kind->P i=dv to (az n i).toNat:=fun i hi=>by rw [hP];exact if_pos hi
 have hP2: ∀i:Nat,¬(i:Int)<ai n.kind->P i=az n i:=fun i hi=>by rw [hP];exact if_neg hi
 clear hP
 let Q:Nat->Nat->Int:=fun i j=>if j<i then P j else az n j
 refine au 3 (fun i vs h'=>vs= [t.v, .pointer (some ⟨b12,0,none⟩), .pointer (some ⟨b14,0,none⟩),(arr b17 3).v,I 3,I (i:Nat)]/\
  Kn h h' ((b17, .inl ⟨[.pointer (some ⟨b12,1,none⟩), .pointer (some ⟨b12,2,none⟩), .pointer (some ⟨b12,3,none⟩)],3,false⟩)::(b14, .inl ⟨[I 0,I 0,I 0,I 0,I 0,I 0,I 0,I 0, .string ⟨#[]⟩],9,false⟩)::
   (b12, .inl ⟨[I n.kind,I (Q i 0),I (Q i 1),I (Q i 2),I n.n,I n.m,I n.sort.idx,I n.sort.wid, .string n.name],9,false⟩):: [])) ⟨rfl,K3⟩ ?_
 clear K3
 rintro i _ h4 next hi ⟨rfl,K4⟩ hnx
 refine⟨t,b12,0,b14,0,arr b17 3,_,_,rfl,?_⟩
 by_cases hlt:i<3
 rotate_left
 ·obtain rfl:i=3:=by omega
  refine aC (by decide) ?_
  repeat' (refine kr_ ?_)
  refine kw_ ?_
  intro h5 K5 _
  simp only [bX,List.set_cons_zero,List.set_cons_succ,Nat.zero_add,Nat.reduceAdd]at K5
  clear K4
  repeat' (refine kr_ ?_)
  exact⟨h,K5.le,k⟩
 refine aM (decide_eq_true (by omega)) ?_
 have hQ: ∀j,j≠i->Q i j=Q (i+1) j:=fun j hj=>by
  show (if j<i then P j else az n j)=(if j<i+1 then P j else az n j)
  by_cases q:j<i
  ·rw [if_pos q,if_pos (by omega)]
  ·rw [if_neg q,if_neg (by omega)]
 have hQi:Q i i=az n i:=if_neg (Nat.lt_irrefl i)
 have hQs:Q (i+1) i=P i:=if_pos (Nat.lt_succ_self i)
 refine ap (fun J=> ∀h',Kn h h' ((b17, .inl ⟨[.pointer (some ⟨b12,1,none⟩), .pointer (some ⟨b12,2,none⟩), .pointer (some ⟨b12,3,none⟩)],3,false⟩)::(b14, .inl ⟨[I 0,I 0,I 0,I 0,I 0,I 0,I 0,I 0, .string ⟨#[]⟩],9,false⟩)::
   (b12, .inl ⟨[I n.kind,I (Q (i+1) 0),I (Q (i+1) 1),I (Q (i+1) 2),I n.n,I n.m,I n.sort.idx,I n.sort.wid, .string n.name],9,false⟩):: [])->J h') (fun h' K'=>?_) (fun J hJ=>?_)
 ·rw [ay (by omega)]
  exact hnx hlt _ _ ⟨rfl,K'⟩
 have f17:=K4.at (.head _)
 have fb:=K4.at (.tail _ (.tail _ (.head _)))
 refine⟨b17,0,rfl,by omega,by show _<((3:Nat):Int);omega,some ⟨b12,i+1,none⟩,?_,?_⟩
 ·rw [ax f17]
  obtain rfl|rfl|rfl:i=0\/i=1\/i=2:=by omega
  all_goals rfl
 repeat' (refine kr_ ?_)
 refine ed ⟨_,rfl,?_⟩
 refine ad (fun e=>?_) (fun e=>?_)
 ·rw [decide_eq_true_eq]at e
  have hr:=hp i hlt e
  obtain⟨b,o,ha,q0,q1,hc⟩:=(ht.mono K4.le).rd hr.1 hr.2
  refine⟨b12,i+1,rfl,az n i,?_,b,o,ha,q0,q1,_,hc,b12,i+1,rfl,?_⟩
  ·rw [ax fb,<-hQi]
   obtain rfl|rfl|rfl:i=0\/i=1\/i=2:=by omega
   all_goals rfl
  clear f17 fb
  rw [<-hP1 i e,<-hQs]
  (((with_reducible apply Kn.wr);(assumption);((focus ((repeat first|exact .head|apply Upd.tail);done)))))
  ·show i+1+1<=9;omega
  intro h5 K5 _
  refine hJ h5 ?_
  rw [bG]at K5
  obtain rfl|rfl|rfl:i=0\/i=1\/i=2:=by omega
  ·rw [hQ 1 (by omega),hQ 2 (by omega)]at K5;exact K5
  ·rw [hQ 0 (by omega),hQ 2 (by omega)]at K5;exact K5
  ·rw [hQ 0 (by omega),hQ 1 (by omega)]at K5;exact K5
 ·rw [decide_eq_false_iff_not]at e
  refine hJ h4 ?_
  have hsame: ∀j,Q i j=Q (i+1) j:=fun j=>by
   by_cases q:j=i
   ·subst q;rw [hQi,hQs,hP2 j e]
   ·exact hQ j q
  rw [hsame 0,hsame 1,hsame 2]at K4;exact K4
theorem GB : ∀{ys:List BindP} {m:Nat} {x:BindP},m<ys.length->bX (ys.flatMap bindCells) (m*2) [I x.state,I x.node]=(ys.set m x).flatMap bindCells
 | [],m,x,h=>by simp at h
 |y::ys,0,x,_=>rfl
 |y::ys,m+1,x,h=>by
  have ih:=GB (ys:=ys) (m:=m) (x:=x) (by simpa using h)
  simp only [bX]at ih⊢
  rw [show (m+1)*2=m*2+2 by omega,List.flatMap_cons,List.set_cons_succ,List.flatMap_cons,<-ih]
  rfl
set_option maxHeartbeats 1000000 in
theorem D2 {g h:Hp} {b c:Nat} {xs:List BindP} {f:FuncId} {u w:Array Value} (p:BindP->Bool) {R:Value->Hp->Prop} (K:Kn g h [(b, .inl ⟨xs.flatMap bindCells,c*2,false⟩)]) (hcap:xs.length<=c) (hl:xs.length<=1048576)
  (hf: ∀x∈xs,∀h',g.le h'-> ∀R:Value->Hp->Prop,R (.bool (p x)) h'->ACalls PR f ((u++ #[xa x])++w) h' R)
  (k: ∀(s':Sl) h' cs',Kn g h' [(b, .inl ⟨cs',c*2,false⟩)]->(∀g':Hp,g' b=some (.inl ⟨cs',c*2,false⟩)->iH g' s' (xs.filter fun x=> !p x))->R (Sl.v s') h'):
  cU #[(Sl.mk (some ⟨b,0,none⟩) xs.length c).v, .func (.func f) u w] h R:=by
 refine gY (s1:=⟨some ⟨b,0,none⟩,xs.length,c⟩) ?_
 refine uf_ ?_
 have hs:iH h ⟨some ⟨b,0,none⟩,xs.length,c⟩ xs:=⟨by show xs.length<=_;omega,ck (m:=2) (fun _=>rfl) xs, .inr ⟨b,0,rfl,aw (K.at (.head _))⟩⟩
 refine od p hs hl (fun x hx R k=>hf x hx h K.le R k) ⟨_,rfl,?_⟩
 by_cases hany:xs.any p=false
 ·rw [uR hany]
  refine aM rfl (k _ h _ K fun g' f=>?_)
  have:(xs.filter fun x=> !p x)=xs:=by
   rw [List.filter_eq_self]
   intro x hx
   rw [List.any_eq_false]at hany
   simpa using hany x hx
  rw [this]
  exact⟨by show xs.length<=_;omega,ck (m:=2) (fun _=>rfl) xs, .inr ⟨b,0,rfl,aw f⟩⟩
 rcases Sz p xs with hno|⟨q,hq,hpq,hbef⟩
 ·exact absurd (List.any_eq_false.2 fun x hx=>by simp [hno x hx]) hany
 have htk:(xs.take q).any p=false:=by
  rw [List.any_eq_false]
  intro x hx
  obtain⟨j,hj,rfl⟩:=List.getElem_of_mem hx
  simp only [List.length_take]at hj
  rw [List.getElem_take]
  simp [hbef j (by omega) (by omega)]
 rw [BM hq htk hpq]
 refine aC (by simp) ?_
 rw [ay (by omega)]
 have hft:((xs.take q).filter fun x=> !p x)=xs.take q:=by
  rw [List.filter_eq_self]
  intro x hx
  rw [List.any_eq_false]at htk
  simpa using htk x hx
 have hft2:((xs.take (q+1)).filter fun x=> !p x)=xs.take q:=by
  rw [List.take_succ_eq_append_getElem hq,List.filter_append,hft];simp [hpq]
 refine nF (xs.length-(q+1)) (fun r vs h'=> ∃(m j:Nat) (ys:List BindP),vs= [(Sl.mk (some ⟨b,0,none⟩) xs.length c).v, .func (.func f) u w,I (m:Nat),I (j:Nat)]/\Kn g h' [(b, .inl ⟨ys.flatMap bindCells,c*2,false⟩)]/\ys.length=xs.length/\j<=xs.length/\m<j/\
   ys.take m=((xs.take j).filter fun x=> !p x)/\ys.drop j=xs.drop j/\r=xs.length-j/\((xs.take j).filter fun x=> !p x).length=m)
  ⟨q,q+1,xs,rfl,K,rfl,by omega,by omega,hft2.symm,rfl,rfl,by rw [hft2];simp;omega⟩ ?_
 clear K hs
 rintro r _ h1 next ⟨m,j,ys,rfl,K,hyl,hj,hmj,htake,hdrop,rfl,hlen⟩ hnx
 refine⟨⟨some ⟨b,0,none⟩,xs.length,c⟩,_,_,_,_,_,rfl,?_⟩
 by_cases hlt:j<xs.length
 ·obtain⟨x,hx⟩: ∃x,xs[j]?=some x:=⟨_,List.getElem?_eq_getElem hlt⟩
  have hxy:ys[j]?=some x:=by
   have:=congrArg (fun l:List BindP=>l[0]?) hdrop
   simp only [List.getElem?_drop,Nat.add_zero]at this
   rw [this];exact hx
  have hxs:xs[j]=x:=by rw [List.getElem?_eq_getElem hlt]at hx;exact Option.some.inj hx
  refine aM (decide_eq_true (by show _<((xs.length:Nat):Int);omega)) ?_
  have fb:=K.at (.head _)
  refine⟨b,0,rfl,by omega,by show _<((xs.length:Nat):Int);omega,x.state,?_,x.node,?_,?_⟩
  ·rw [ax fb,show (0+Int.toNat (j:Int)*2)=j*2+0 by simp,mL (m:=2) (fun _=>rfl) ys j x 0 hxy (by omega)];rfl
  ·rw [ax fb,show (0+Int.toNat (j:Int)*2+1)=j*2+1 by simp,mL (m:=2) (fun _=>rfl) ys j x 1 hxy (by omega)];rfl
  refine Kn.al K fun b31 h2 K2 l2 hb31=>?_
  clear fb
  refine kw_ ?_
  intro h3 K3 _
  simp only [bX,List.set_cons_zero,List.set_cons_succ,Nat.zero_add,Nat.reduceAdd]at K3
  clear K K2
  repeat' (refine kr_ ?_)
  refine hf x (List.mem_of_getElem? hx) h3 K3.le _ ⟨_,rfl,ad (fun he=>?_) (fun he=>?_)⟩
  ·have he':p xs[j]=false:=by rw [hxs];simpa using he
   repeat' (refine kr_ ?_)
   refine⟨by omega,by show _<((xs.length:Nat):Int);omega,?_⟩
   (((with_reducible apply Kn.wr);(assumption);((focus ((repeat first|exact .head|apply Upd.tail);done)))))
   ·rw [ck (m:=2) (fun _=>rfl)];simp;omega
   intro h4 K4 _
   rw [show (0+Int.toNat (m:Int)*2)=m*2 by simp,GB (by omega)]at K4
   rw [ay (by omega),ay (by omega)]
   refine hnx (xs.length-(j+1)) (by omega) _ _ ⟨m+1,j+1,ys.set m x,rfl,K4.tl,by simpa using hyl,by omega,by omega,?_,?_,rfl,?_⟩
   ·rw [pd _ (by omega),htake,List.take_succ_eq_append_getElem hlt,List.filter_append,hxs];rw [hxs]at he';simp [he']
   ·rw [List.drop_set_of_lt (by omega),<-List.drop_drop (i:=1) (j:=j),hdrop,List.drop_drop]
   ·rw [List.take_succ_eq_append_getElem hlt,List.filter_append,List.length_append,hlen];simp [he']
  ·have he':p xs[j]=true:=by rw [hxs];simpa using he
   rw [ay (by omega)]
   refine hnx (xs.length-(j+1)) (by omega) _ _ ⟨m,j+1,ys,rfl,K3.tl,hyl,by omega,by omega,?_,?_,rfl,?_⟩
   ·rw [htake,List.take_succ_eq_append_getElem hlt,List.filter_append];simp [he']
   ·rw [<-List.drop_drop (i:=1) (j:=j),hdrop,List.drop_drop]
   ·rw [List.take_succ_eq_append_getElem hlt,List.filter_append,List.length_append,hlen];simp [he']
 ·obtain rfl:j=xs.length:=by omega
  rw [List.take_length]at htake hlen
  refine aC (decide_eq_false (by show¬_<((xs.length:Nat):Int);omega)) ?_
  refine ap (fun J=> ∀h' cs',Kn g h' [(b, .inl ⟨cs',c*2,false⟩)]->cs'.take (m*2)=(xs.filter fun x=> !p x).flatMap bindCells->J h') ?_ ?_
  ·intro h' cs' K' ht'
   have e0:(if c=(Int.ofNat 0).toNat then 0 else 0+(Int.ofNat 0).toNat*2)=0:=by split<;>rfl
   refine⟨by decide,by show (0:Int)<=(m:Nat);omega,by show ((m:Nat):Int)<=((c:Nat):Int);omega, .inr ⟨b,0,rfl,?_⟩⟩
   dsimp only
   rw [e0]
   have hm:Int.toNat ((m:Nat):Int)-Int.toNat (Int.ofNat 0)=m:=by simp
   rw [hm]
   refine k ⟨some ⟨b,0,none⟩,m,c-Int.toNat (Int.ofNat 0)⟩ h' cs' K' fun g' f=>⟨by show m<=_;omega,by rw [ck (m:=2) (fun _=>rfl),hlen], .inr ⟨b,0,rfl,?_⟩⟩
   intro i v hv
   rw [ax f,Nat.zero_add,<-hv,<-ht',List.getElem?_take_of_lt]
   rw [<-ht']at hv
   have:=(List.getElem?_eq_some_iff.1 hv).1
   simp at this;omega
  ·intro J hJ
   have hcl:(ys.flatMap bindCells).length=xs.length*2:=by rw [ck (m:=2) (fun _=>rfl),hyl]
   have htk2:(ys.flatMap bindCells).take (m*2)=(xs.filter fun x=> !p x).flatMap bindCells:=by
    rw [<-htake]
    have e:ys.flatMap bindCells=(ys.take m).flatMap bindCells++(ys.drop m).flatMap bindCells:=by rw [<-List.flatMap_append,List.take_append_drop]
    have hl2:((ys.take m).flatMap bindCells).length=m*2:=by rw [ck (m:=2) (fun _=>rfl),List.length_take];omega
    rw [e,List.take_append_of_le_length (by omega),List.take_of_length_le (by omega)]
   have hz:(Int.ofNat xs.length).toNat-Int.toNat ((m:Nat):Int)=xs.length-m:=by simp
   refine⟨by omega,by show ((m:Nat):Int)<=((xs.length:Nat):Int);omega,by show ((xs.length:Nat):Int)<=((c:Nat):Int);omega, .inr ⟨b,0,rfl, .inr ?_⟩⟩
   dsimp only
   rw [hz,if_neg (by rw [Int.toNat_natCast];omega)]
   have hm2:0+Int.toNat ((m:Nat):Int)*2=m*2:=by simp
   rw [hm2]
   refine⟨b,m*2,ys.flatMap bindCells,c*2,rfl,K.at (.head _),by omega,rfl,by omega,?_⟩
   have K':=K.set (Upd.head (b:=b) (x:= .inl ⟨ys.flatMap bindCells,c*2,false⟩) (y:= .inl ⟨bX (ys.flatMap bindCells) (m*2) (aR #[I 0,I 0] ((xs.length-m)*2)),c*2,false⟩) (L:= []))
   exact hJ _ _ K' (by rw [(ZZ _ _ _).1];exact htk2)
theorem th {g h:Hp} {A X B:List (Nat×Blk)} {s:Sl} {xs:List BindP} {f:FuncId} {u w:Array Value} (p:BindP->Bool) {R:Value->Hp->Prop} (K:Kn g h (A++(X++B))) (o:bR X s 2 (xs.flatMap bindCells)) (hl:xs.length<=1048576)
  (hf: ∀x∈xs,∀h',g.le h'-> ∀R:Value->Hp->Prop,R (.bool (p x)) h'->ACalls PR f ((u++ #[xa x])++w) h' R)
  (k: ∀(s':Sl) g' h',g.le g'->Kn g' h' (A++B)->iH g' s' (xs.filter fun x=> !p x)->R (Sl.v s') h'):
  cU #[s.v, .func (.func f) u w] h R:=by
 have hn:=o.1
 rw [ck (m:=2) (fun _=>rfl)]at hn
 rcases o.2.2 with ⟨rfl,rfl,hc⟩|⟨b,ha,rfl⟩
 ·have hx:xs= []:=List.eq_nil_of_length_eq_zero (by dsimp only at hn;omega)
  subst hx
  refine gY (s1:=⟨none,0,0⟩) ?_
  refine uf_ ?_
  have z: ∀h:Hp,iH h ⟨none,0,0⟩ []:=fun h=>⟨by simp,by simp, .inl rfl⟩
  refine od p (z h) hl (fun x hx=>nomatch hx) ⟨_,rfl,?_⟩
  rw [uR rfl]
  exact aM rfl (k ⟨none,0,0⟩ g h (Hp.le_refl g) K (z g))
 ·obtain⟨sa,sn,sc⟩:=s
  dsimp only at ha hn K
  subst ha
  obtain rfl:sn=xs.length:=by omega
  obtain⟨g1,KA,KX⟩:=Kn.cut (A:=A++B) (L:= [(b, .inl ⟨xs.flatMap bindCells,sc*2,false⟩)]) (K.perm (by
   rw [List.append_assoc]
   exact List.perm_append_comm.append_left _))
  refine D2 p KX o.2.1 hl (fun x hx h' l=>hf x hx h' (Hp.le_trans KA.le l)) fun s' h' cs' K' hB=>?_
  have KM:=KA.app K'.le (fun e he=>K'.new e he) (fun e he=>K'.mem e he) K'.nd
  obtain⟨g2,KC,KD⟩:=Kn.cut (A:= [(b, .inl ⟨cs',sc*2,false⟩)]) (L:=A++B) (KM.perm List.perm_append_comm)
  exact k s' g2 h' KC.le KD (hB g2 (KC.at (.head _)))
theorem Sf {α:Type} {f:α->α} {l:List α} {q:Nat} {x:α} (h:l[q]?=some x):((l.take q).map f++l.drop q).set q (f x)=(l.take (q+1)).map f++l.drop (q+1):=by
 have hq:=get_lt h
 have hl:((l.take q).map f).length=q:=by rw [List.length_map,List.length_take];omega
 rw [List.set_append_right _ _ (by omega),hl,Nat.sub_self,List.drop_eq_getElem_cons hq,List.set_cons_zero,sk h,List.map_append,List.append_assoc];rfl
theorem SA {α:Type} {f:α->α} {l:List α} {q:Nat} {x:α} (h:l[q]?=some x):((l.take q).map f++l.drop q)[q]?=some x:=by
 have hq:=get_lt h
 have hl:((l.take q).map f).length=q:=by rw [List.length_map,List.length_take];omega
 rw [List.getElem?_append_right (by omega),hl,Nat.sub_self,List.getElem?_drop,Nat.add_zero];exact h
theorem Rk {α:Type} {f:α->α} {l:List α} {q:Nat}:((l.take q).map f++l.drop q).length=l.length:=by
 rw [List.length_append,List.length_map,List.length_take,List.length_drop];omega
def mvB (to:List Int) (b:BindP):BindP:=⟨dv to b.state.toNat,dv to b.node.toNat⟩
def mvI (to:List Int) (p:Int):Int:=dv to p.toNat
def Gu (to:List Int) (p:Int):Prop:=0<=p/\p<to.length
def mvM (to:List Int) (nds:List NodeP) (m:ah):ah:=⟨nds,m.inits.map (mvB to),m.nexts.map (mvB to),m.bads.map (mvI to),m.holds.map (mvI to)⟩
set_option maxHeartbeats 4000000 in
theorem Ma {h:Hp} {M:MSl} {m:ah} {sN t:Sl} {nds:List NodeP} {to:List Int} {R:Value->Hp->Prop} (hs:aO h M m) (hm:bT m) (hN:gD h sN nds) (hcap:sN.n<=sN.c) (ht:IntS h t to)
  (hi: ∀b∈m.inits,Gu to b.state/\Gu to b.node) (hx: ∀b∈m.nexts,Gu to b.state/\Gu to b.node) (hb: ∀p∈m.bads,Gu to p) (hh: ∀p∈m.holds,Gu to p)
  (k: ∀M' h',h.le h'->aO h' M' (mvM to nds m)->R (aQ M') h'):lp #[aQ M,sN.v,t.v] h R:=by
 apply DB
 refine uf_ ?_
 (with_reducible apply Kn.al);(exact Kn.nil h);(intro b9 h1 K1 l1 hb9)
 refine Kn.al K1 fun b11 h2 K2 l2 hb11=>?_
 clear K1
 repeat' (refine kr_ ?_)
 refine nG (hs.mono K2.le) hm fun M1 XN XI XX XB XH h3 o K3=>⟨_,_,_,_,_,rfl,?_⟩
 have K4:=K2.app K3.le (fun e he=>K3.new e he) (fun e he=>K3.mem e he) K3.nd
 clear K2 K3
 refine Kn.al K4 fun b26 h4 K5 l4 hb26=>?_
 clear K4
 refine kw_ ?_
 intro h5 K6 _
 simp only [bX,List.set_cons_zero,List.set_cons_succ,Nat.zero_add,Nat.reduceAdd]at K6
 clear K5
 refine kw_ ?_
 intro h6 K7 _
 simp only [bX,List.set_cons_zero,List.set_cons_succ,Nat.zero_add,Nat.reduceAdd]at K7
 clear K6
 repeat' (refine kr_ ?_)
 refine Kn.al K7 fun b38 h7 K8 l7 hb38=>?_
 clear K7
 obtain⟨g1,KA,K⟩:=Kn.cut (A:= [(b38, .inl ⟨[M1.ini.v,M1.nex.v],2,false⟩),(b26, .inl ⟨[sN.v,M1.ini.v,M1.nex.v,M1.bad.v,M1.hol.v],5,false⟩),(b9, .inl ⟨aH M,5,false⟩)]++XN) (L:=(b11, .inl ⟨[slN,slN,slN,slN,slN],5,false⟩)::(XI++(XX++(XB++XH))))
  (K8.perm (by
   simp only [List.cons_append,List.nil_append]
   refine List.Perm.cons _ (List.Perm.cons _ ?_)
   refine(List.Perm.swap _ _ _).trans (List.Perm.cons _ ?_)
   exact List.perm_middle.symm))
 clear K8
 have f38:=KA.at (b:=b38) (List.mem_append_left _ (by((focus ((repeat first|exact .head _|apply List.Mem.tail);done)))))
 have f26:=KA.at (b:=b26) (List.mem_append_left _ (by((focus ((repeat first|exact .head _|apply List.Mem.tail);done)))))
 have l01:=KA.le
 clear KA
 have ht1:=ht.mono l01
 have hN1:=hN.mono l01
 have oI:=o.ini
 have oX:=o.nex
 have oB:=o.bad
 have oH:=o.hol
 clear o
 have n1:=hm.inits
 have n2:=hm.nexts
 have n3:=hm.bads
 have n4:=hm.holds
 have htl:=ht.len
 let lI:Nat->List BindP:=fun i=>if 0<i then m.inits.map (mvB to)else m.inits
 let lX:Nat->List BindP:=fun i=>if 1<i then m.nexts.map (mvB to)else m.nexts
 refine au 2 (fun i vs h'=> ∃XI XX,vs= [t.v, .pointer (some ⟨b11,0,none⟩), .pointer (some ⟨b26,0,none⟩),(arr b38 2).v,I 2,I (i:Nat)]/\bR XI M1.ini 2 ((lI i).flatMap bindCells)/\bR XX M1.nex 2 ((lX i).flatMap bindCells)/\
  Kn g1 h' ((b11, .inl ⟨[slN,slN,slN,slN,slN],5,false⟩)::(XI++(XX++(XB++XH))))) ⟨XI,XX,rfl,oI,oX,K⟩ ?_
 clear K oI oX XI XX
 rintro i _ h8 next hi2 ⟨XI,XX,rfl,oI,oX,K⟩ hnx
 refine⟨t,b11,0,b26,0,arr b38 2,_,_,rfl,?_⟩
 by_cases hlt:i<2
 ·refine aM (decide_eq_true (by omega)) ?_
  obtain⟨s,l,A,X,B,hcell,oS,hl,hr,KS,hnext⟩: ∃(s:Sl) (l:List BindP) (A X B:List (Nat×Blk)), [M1.ini.v,M1.nex.v][i]?=some s.v/\bR X s 2 (l.flatMap bindCells)/\l.length<=1048576/\(∀b∈l,Gu to b.state/\Gu to b.node)/\Kn g1 h8 (A++(X++B))/\
    ∀X' h',bR X' s 2 ((l.map (mvB to)).flatMap bindCells)->Kn g1 h' (A++(X'++B))->next [t.v, .pointer (some ⟨b11,0,none⟩), .pointer (some ⟨b26,0,none⟩),(arr b38 2).v,I 2,I ((i+1:Nat):Int)] h':=by
   obtain rfl|rfl:i=0\/i=1:=by omega
   ·exact⟨M1.ini,m.inits, [(b11, .inl ⟨[slN,slN,slN,slN,slN],5,false⟩)],XI,XX++(XB++XH),rfl,oI,n1,hi,K,fun X' h' o' K'=>hnx hlt _ _ ⟨X',XX,rfl,o',oX,K'⟩⟩
   ·exact⟨M1.nex,m.nexts,(b11, .inl ⟨[slN,slN,slN,slN,slN],5,false⟩)::XI,XX,XB++XH,rfl,oX,n2,hx,K,fun X' h' o' K'=>hnx hlt _ _ ⟨XI,X',rfl,oI,o',K'⟩⟩
  clear hnx oI oX
  refine⟨b38,0,rfl,by omega,by show _<((2:Nat):Int);omega,s,by rw [ax (K.le _ _ f38),show (0+Int.toNat (i:Int)*1)=i by simp];exact hcell,?_⟩
  clear K
  have hsn:=oS.1
  rw [ck (m:=2) (fun _=>rfl)]at hsn
  refine au l.length (fun q vs h'=> ∃X,vs= [t.v, .pointer (some ⟨b11,0,none⟩), .pointer (some ⟨b26,0,none⟩),s.v,(arr b38 2).v,I 2,I (i:Nat),s.v,I ((s.n:Nat):Int),I (q:Nat)]/\bR X s 2 (((l.take q).map (mvB to)++l.drop q).flatMap bindCells)/\Kn g1 h' (A++(X++B)))
   ⟨X,rfl,oS,KS⟩ ?_
  clear oS KS X
  rintro q _ h9 next2 hq ⟨X,rfl,oS,K⟩ hnx2
  refine⟨t,b11,0,b26,0,s,arr b38 2,_,_,s,_,_,rfl,?_⟩
  by_cases hlq:q<l.length
  rotate_left
  ·refine aC (decide_eq_false (by omega)) ?_
   obtain rfl:q=l.length:=by omega
   rw [List.take_length,List.drop_length,List.append_nil]at oS
   rw [ay (by omega)]
   exact hnext X h9 oS K
  refine aM (decide_eq_true (by omega)) ?_
  obtain⟨x,hxq⟩: ∃x,l[q]?=some x:=⟨_,List.getElem?_eq_getElem hlq⟩
  obtain⟨r1,r2⟩:=hr x (List.mem_of_getElem? hxq)
  obtain⟨b,ha,rfl⟩:=oS.one (by omega)
  have hg:=SA (f:=mvB to) hxq
  have hst:=Sf (f:=mvB to) hxq
  have hhl:=Rk (f:=mvB to) (l:=l) (q:=q)
  generalize (l.take q).map (mvB to)++l.drop q=ys at*
  have fb:=K.at (b:=b) (List.mem_append_right _ (.head _))
  refine⟨b,0,ha,by omega,by omega,x.state,?_,x.node,?_,?_⟩
  ·rw [ax fb,show (0+Int.toNat (q:Int)*2)=q*2+0 by simp,mL (m:=2) (fun _=>rfl) ys q x 0 hg (by omega)];rfl
  ·rw [ax fb,show (0+Int.toNat (q:Int)*2+1)=q*2+1 by simp,mL (m:=2) (fun _=>rfl) ys q x 1 hg (by omega)];rfl
  refine Kn.al K fun b84 h10 K10 l10 hb84=>?_
  clear fb K
  refine kw_ ?_
  intro h11 K11 _
  simp only [bX,List.set_cons_zero,List.set_cons_succ,Nat.zero_add,Nat.reduceAdd]at K11
  clear K10
  obtain⟨b2,o2,ha2,q0,q1,hc2⟩:=(ht1.mono K11.le).rd r1.1 r1.2
  obtain⟨b3,o3,ha3,q2,q3,hc3⟩:=(ht1.mono K11.le).rd r2.1 r2.2
  repeat' (refine kr_ ?_)
  refine⟨b2,o2,ha2,q0,q1,_,hc2,?_⟩
  repeat' (refine kr_ ?_)
  refine⟨b3,o3,ha3,q2,q3,_,hc3,b,0,ha,by omega,by omega,?_⟩
  have u:Upd ((b84, .inl ⟨[I x.state,I x.node],2,false⟩)::(A++([(b, .inl ⟨ys.flatMap bindCells,s.c*2,false⟩)]++B))) b (.inl ⟨ys.flatMap bindCells,s.c*2,false⟩) (.inl ⟨bX (ys.flatMap bindCells) (0+Int.toNat (q:Int)*2) [I (dv to x.state.toNat),I (dv to x.node.toNat)],s.c*2,false⟩)
    ((b84, .inl ⟨[I x.state,I x.node],2,false⟩)::(A++([(b, .inl ⟨(ys.set q (mvB to x)).flatMap bindCells,s.c*2,false⟩)]++B))):=by
   rw [show (0+Int.toNat (q:Int)*2)=q*2 by simp,show ([I (dv to x.state.toNat),I (dv to x.node.toNat)]:List Value)= [I (mvB to x).state,I (mvB to x).node]from rfl,GB (by omega)]
   exact .tail (Upd.back .head A)
  refine K11.wr u (by rw [ck (m:=2) (fun _=>rfl)];simp;omega) fun h12 K12 _=>?_
  rw [ay (by omega)]
  refine hnx2 hlq _ _ ⟨_,rfl,?_,K12.tl⟩
  rw [<-hst]
  exact⟨by rw [ck (m:=2) (fun _=>rfl),List.length_set,hhl];exact hsn,oS.2.1, .inr ⟨b,ha,rfl⟩⟩
 refine aC (decide_eq_false (by omega)) ?_
 obtain rfl:i=2:=by omega
 clear hnx hlt hi2 next
 replace oI:bR XI M1.ini 2 ((m.inits.map (mvB to)).flatMap bindCells):=oI
 replace oX:bR XX M1.nex 2 ((m.nexts.map (mvB to)).flatMap bindCells):=oX
 have x26:=cf f26
 repeat' (refine kr_ ?_)
 refine Kn.al K fun b108 h9 K9 l9 hb108=>?_
 clear K
 obtain⟨g2,KA,K⟩:=Kn.cut (A:=(b108, .inl ⟨[M1.bad.v,M1.hol.v],2,false⟩)::(XI++XX)) (L:=(b11, .inl ⟨[slN,slN,slN,slN,slN],5,false⟩)::(XB++XH))
  (K9.perm (by
   refine List.Perm.cons _ ?_
   have:=(List.perm_middle (a:=((b11, .inl ⟨[slN,slN,slN,slN,slN],5,false⟩):Nat×Blk)) (l₁:=XI++XX) (l₂:=XB++XH)).symm
   rw [List.append_assoc]at this
   exact this))
 clear K9
 have f108:=KA.at (b:=b108) (.head _)
 have hI2:iH g2 M1.ini (m.inits.map (mvB to)):=oI.slcOf (by have:=oI.1;rw [ck (m:=2) (fun _=>rfl),List.length_map]at this;omega) fun x hx=>KA.mem x (.tail _ (List.mem_append_left _ hx))
 have hX2:iH g2 M1.nex (m.nexts.map (mvB to)):=oX.slcOf (by have:=oX.1;rw [ck (m:=2) (fun _=>rfl),List.length_map]at this;omega) fun x hx=>KA.mem x (.tail _ (List.mem_append_right _ hx))
 have l12:=KA.le
 clear KA oI oX x26
 replace f26:=l12 _ _ f26
 have ht2:=ht1.mono l12
 have hN2:=hN1.mono l12
 have l02:=Hp.le_trans l01 l12
 let lB:Nat->List Int:=fun i=>if 0<i then m.bads.map (mvI to)else m.bads
 let lH:Nat->List Int:=fun i=>if 1<i then m.holds.map (mvI to)else m.holds
 refine au 2 (fun i vs h'=> ∃XB XH,vs= [t.v, .pointer (some ⟨b11,0,none⟩), .pointer (some ⟨b26,0,none⟩),(arr b108 2).v,I 2,I (i:Nat)]/\bR XB M1.bad 1 ((lB i).map I)/\bR XH M1.hol 1 ((lH i).map I)/\
  Kn g2 h' ((b11, .inl ⟨[slN,slN,slN,slN,slN],5,false⟩)::(XB++XH))) ⟨XB,XH,rfl,oB,oH,K⟩ ?_
 clear K oB oH
 rintro i _ h8 next hi2 ⟨XB,XH,rfl,oB,oH,K⟩ hnx
 refine⟨t,b11,0,b26,0,arr b108 2,_,_,rfl,?_⟩
 by_cases hlt:i<2
 ·refine aM (decide_eq_true (by omega)) ?_
  obtain⟨s,l,A,X,B,hcell,oS,hl,hr,KS,hnext⟩: ∃(s:Sl) (l:List Int) (A X B:List (Nat×Blk)), [M1.bad.v,M1.hol.v][i]?=some s.v/\bR X s 1 (l.map I)/\l.length<=1048576/\(∀p∈l,Gu to p)/\Kn g2 h8 (A++(X++B))/\
    ∀X' h',bR X' s 1 ((l.map (mvI to)).map I)->Kn g2 h' (A++(X'++B))->next [t.v, .pointer (some ⟨b11,0,none⟩), .pointer (some ⟨b26,0,none⟩),(arr b108 2).v,I 2,I ((i+1:Nat):Int)] h':=by
   obtain rfl|rfl:i=0\/i=1:=by omega
   ·exact⟨M1.bad,m.bads, [(b11, .inl ⟨[slN,slN,slN,slN,slN],5,false⟩)],XB,XH,rfl,oB,n3,hb,K,fun X' h' o' K'=>hnx hlt _ _ ⟨X',XH,rfl,o',oH,K'⟩⟩
   ·exact⟨M1.hol,m.holds,(b11, .inl ⟨[slN,slN,slN,slN,slN],5,false⟩)::XB,XH, [],rfl,oH,n4,hh,by rw [List.append_nil];exact K,fun X' h' o' K'=>hnx hlt _ _ ⟨XB,X',rfl,oB,o',by rw [List.append_nil]at K';exact K'⟩⟩
  clear hnx oB oH
  refine⟨b108,0,rfl,by omega,by show _<((2:Nat):Int);omega,s,by rw [ax (K.le _ _ f108),show (0+Int.toNat (i:Int)*1)=i by simp];exact hcell,?_⟩
  clear K
  have hsn:=oS.1
  rw [List.length_map]at hsn
  refine au l.length (fun q vs h'=> ∃X,vs= [t.v, .pointer (some ⟨b11,0,none⟩), .pointer (some ⟨b26,0,none⟩),s.v,(arr b108 2).v,I 2,I (i:Nat),s.v,I ((s.n:Nat):Int),I (q:Nat)]/\bR X s 1 (((l.take q).map (mvI to)++l.drop q).map I)/\Kn g2 h' (A++(X++B)))
   ⟨X,rfl,oS,KS⟩ ?_
  clear oS KS X
  rintro q _ h9 next2 hq ⟨X,rfl,oS,K⟩ hnx2
  refine⟨t,b11,0,b26,0,s,arr b108 2,_,_,s,_,_,rfl,?_⟩
  by_cases hlq:q<l.length
  rotate_left
  ·refine aC (decide_eq_false (by omega)) ?_
   obtain rfl:q=l.length:=by omega
   rw [List.take_length,List.drop_length,List.append_nil]at oS
   rw [ay (by omega)]
   exact hnext X h9 oS K
  refine aM (decide_eq_true (by omega)) ?_
  obtain⟨x,hxq⟩: ∃x,l[q]?=some x:=⟨_,List.getElem?_eq_getElem hlq⟩
  have r1:=hr x (List.mem_of_getElem? hxq)
  obtain⟨b,ha,rfl⟩:=oS.one (by omega)
  have hg:=SA (f:=mvI to) hxq
  have hst:=Sf (f:=mvI to) hxq
  have hhl:=Rk (f:=mvI to) (l:=l) (q:=q)
  generalize (l.take q).map (mvI to)++l.drop q=ys at*
  have fb:=K.at (b:=b) (List.mem_append_right _ (.head _))
  have hq1:0+Int.toNat (q:Int)*1=q:=by simp
  refine⟨b,0,ha,by omega,by omega,x,by rw [ax fb,hq1,List.getElem?_map,hg];rfl,?_⟩
  obtain⟨b2,o2,ha2,q0,q1,hc2⟩:=(ht2.mono K.le).rd r1.1 r1.2
  refine⟨b2,o2,ha2,q0,q1,_,hc2,b,0,ha,by omega,by omega,?_⟩
  have u:Upd (A++([(b, .inl ⟨ys.map I,s.c*1,false⟩)]++B)) b (.inl ⟨ys.map I,s.c*1,false⟩) (.inl ⟨bX (ys.map I) (0+Int.toNat (q:Int)*1) [I (dv to x.toNat)],s.c*1,false⟩)
    (A++([(b, .inl ⟨(ys.set q (mvI to x)).map I,s.c*1,false⟩)]++B)):=by
   rw [hq1,bG,List.map_set]
   exact Upd.back .head A
  refine K.wr u (by rw [List.length_map];omega) fun h12 K12 _=>?_
  rw [ay (by omega)]
  refine hnx2 hlq _ _ ⟨_,rfl,?_,K12⟩
  rw [<-hst]
  exact⟨by rw [List.length_map,List.length_set,hhl];exact hsn,oS.2.1, .inr ⟨b,ha,rfl⟩⟩
 refine aC (decide_eq_false (by omega)) ?_
 obtain rfl:i=2:=by omega
 clear hnx hlt hi2 next
 replace oB:bR XB M1.bad 1 ((m.bads.map (mvI to)).map I):=oB
 replace oH:bR XH M1.hol 1 ((m.holds.map (mvI to)).map I):=oH
 have x26:=cf f26
 repeat' (refine kr_ ?_)
 obtain⟨g3,KA,K'⟩:=Kn.cut (A:=XB++XH) (L:= [(b11, .inl ⟨[slN,slN,slN,slN,slN],5,false⟩)]) (K.perm (List.perm_append_comm (l₁:= [_])))
 clear K
 have hB3:IntS g3 M1.bad (m.bads.map (mvI to)):=oB.slcOf (by have:=oB.1;rw [List.length_map,List.length_map]at this;omega) fun x hx=>KA.mem x (List.mem_append_left _ hx)
 have hH3:IntS g3 M1.hol (m.holds.map (mvI to)):=oH.slcOf (by have:=oH.1;rw [List.length_map,List.length_map]at this;omega) fun x hx=>KA.mem x (List.mem_append_right _ hx)
 have l23:=KA.le
 clear KA
 refine kw_ ?_
 intro h12 K12 _
 simp only [bX,List.set_cons_zero,List.set_cons_succ,Nat.zero_add,Nat.reduceAdd]at K12
 clear K'
 repeat' (refine kr_ ?_)
 have l3:=K12.le
 have l2:=Hp.le_trans l23 l3
 exact k ⟨sN,M1.ini,M1.nex,M1.bad,M1.hol⟩ h12 (Hp.le_trans l02 l2) ⟨hN2.mono l2,hI2.mono l2,hX2.mono l2,hB3.mono l3,hH3.mono l3,hcap⟩
noncomputable def toZ (m:ah) (i:Nat):List Int:=(List.range m.nodes.length).map fun j=>if j<i then(fu m j:Int)else 0
theorem FK (m:ah) (i:Nat):(toZ m i).length=m.nodes.length:=by unfold toZ;rw [List.length_map,List.length_range]
theorem abd (m:ah):(toZ m 0).map I=List.replicate m.nodes.length (I 0):=by
 unfold toZ
 refine List.ext_getElem (by simp) fun j h1 h2=>?_
 simp
theorem aek {m:ah} {i:Nat} (h:i<m.nodes.length):((toZ m i).map I).set i (I (fu m i:Nat))=(toZ m (i+1)).map I:=by
 unfold toZ
 refine List.ext_getElem (by simp) fun j h1 h2=>?_
 rw [List.getElem_set]
 simp only [List.getElem_map,List.getElem_range]
 by_cases e:i=j
 ·subst e
  rw [if_pos rfl,if_pos (Nat.lt_succ_self i)]
 ·rw [if_neg e]
  by_cases q:j<i
  ·rw [if_pos q,if_pos (by omega)]
  ·rw [if_neg q,if_neg (by omega)]
theorem Kp {m:ah} {i p:Nat} (hp:p<i) (hn:p<m.nodes.length):dv (toZ m i) p=(fu m p:Int):=by
 unfold dv toZ
 rw [List.getD_eq_getElem?_getD,List.getElem?_map,List.getElem?_range hn]
 show (if p<i then(fu m p:Int)else 0)=_
 rw [if_pos hp]
theorem ahl.modelS {XN XI XX XB XH:List (Nat×Blk)} {M:MSl} {m:ah} {g h:Hp} (o:ahl XN XI XX XB XH M m) (K:Kn g h (XN++(XI++(XX++(XB++XH))))) (hm:bT m):aO h M m:=by
 obtain⟨a,b,c,d,e⟩:=o
 have n1:=a.1
 have n2:=b.1
 have n3:=c.1
 have n4:=d.1
 have n5:=e.1
 rw [ck (m:=9) (fun _=>rfl)]at n1
 rw [ck (m:=2) (fun _=>rfl)]at n2 n3
 rw [List.length_map]at n4 n5
 have h1:=hm.nodes
 have h2:=hm.inits
 have h3:=hm.nexts
 have h4:=hm.bads
 have h5:=hm.holds
 refine⟨a.slcOf (by omega) fun x hx=>K.mem x ?_,b.slcOf (by omega) fun x hx=>K.mem x ?_,c.slcOf (by omega) fun x hx=>K.mem x ?_,d.slcOf (by omega) fun x hx=>K.mem x ?_,e.slcOf (by omega) fun x hx=>K.mem x ?_,a.2.1⟩
 ·exact List.mem_append_left _ hx
 ·exact List.mem_append_right _ (List.mem_append_left _ hx)
 ·exact List.mem_append_right _ (List.mem_append_right _ (List.mem_append_left _ hx))
 ·exact List.mem_append_right _ (List.mem_append_right _ (List.mem_append_right _ (List.mem_append_left _ hx)))
 ·exact List.mem_append_right _ (List.mem_append_right _ (List.mem_append_right _ (List.mem_append_right _ hx)))
theorem aa7 {m:ah} (gd:cr m):mvM (toZ m m.nodes.length) (gZ m m.nodes.length) ⟨m.nodes,m.inits.filter fun b=> !!cP m b.state.toNat,m.nexts.filter fun b=> !!cP m b.state.toNat,m.bads,m.holds⟩=de m:=by
 have hb: ∀l:List BindP,(∀b∈l,b∈m.inits\/b∈m.nexts)->(l.filter fun b=> !!cP m b.state.toNat).map (mvB (toZ m m.nodes.length))=jq m l:=by
  intro l hl
  unfold jq
  have e:(l.filter fun b=> !!cP m b.state.toNat)=l.filter fun b=>cP m b.state.toNat:=by simp only [Bool.not_not]
  rw [e]
  refine List.map_congr_left fun b hb=>?_
  obtain⟨h1,h2,_⟩:=fZ gd (hl b (List.mem_filter.1 hb).1)
  unfold mvB
  rw [Kp (by omega) (by omega),Kp (by omega) (by omega)]
 unfold mvM de
 rw [hb m.inits fun b h=> .inl h,hb m.nexts fun b h=> .inr h]
 congr 1
 ·refine List.map_congr_left fun p hp=>?_
  have:=kj (gd.bad p hp)
  unfold mvI
  rw [Kp (by omega) (by omega)]
 ·refine List.map_congr_left fun p hp=>?_
  have:=kj (gd.hol p hp)
  unfold mvI
  rw [Kp (by omega) (by omega)]
theorem kc {m:ah} (gd:cr m) (hm:bT m):bT (de m):=by
 have h0:=P8 m m.nodes.length
 have:=gd.nl
 refine⟨by show (gZ m m.nodes.length).length<=_;rw [ll];omega,?_,?_,?_,?_,fun n hn=>?_⟩
 ·show (jq m m.inits).length<=_
  unfold jq
  rw [List.length_map]
  exact Nat.le_trans (List.length_filter_le _ _) hm.inits
 ·show (jq m m.nexts).length<=_
  unfold jq
  rw [List.length_map]
  exact Nat.le_trans (List.length_filter_le _ _) hm.nexts
 ·show (m.bads.map _).length<=_
  rw [List.length_map];exact hm.bads
 ·show (m.holds.map _).length<=_
  rw [List.length_map];exact hm.holds
 ·obtain⟨j,hj,rfl⟩:=List.mem_map.1 hn
  have hjl:=List.mem_range.1 (List.mem_filter.1 hj).1
  show (EQ m j).name.size<=_
  rw [yC (List.getElem?_eq_getElem hjl)]
  exact hm.names _ (List.getElem_mem hjl)
set_option maxHeartbeats 400000 in
theorem uo {h:Hp} {M:MSl} {m:ah} {R:Value->Hp->Prop} (hs:aO h M m) (hm:bT m)
  (k: ∀M' h',h.le h'->aO h' M' (iW m)->R (aQ M') h'):nE #[aQ M] h R:=by
 apply FU
 refine uf_ ?_
 (with_reducible apply Kn.al);(exact Kn.nil h);(intro b7 h1 K1 l1 hb7)
 refine Kn.al K1 fun b9 h2 K2 l2 hb9=>?_
 clear K1
 repeat' (refine kr_ ?_)
 refine gJ (hs.mono K2.le) hm ⟨_,rfl,?_⟩
 unfold iW at k
 refine ad (fun e=>?_) (fun e=>?_)
 ·rw [if_neg (iV e)]at k
  refine kw_ ?_
  intro h3 K3 _
  simp only [bX,List.set_cons_zero,List.set_cons_succ,Nat.zero_add,Nat.reduceAdd]at K3
  refine⟨⟨none,0,0⟩,by rw [ax (K3.at (.head _))];rfl,⟨none,0,0⟩,by rw [ax (K3.at (.head _))];rfl,⟨none,0,0⟩,by rw [ax (K3.at (.head _))];rfl,⟨none,0,0⟩,by rw [ax (K3.at (.head _))];rfl,⟨none,0,0⟩,by rw [ax (K3.at (.head _))];rfl,?_⟩
  exact k _ h3 K3.le (Bx h3)
 have hc:=fY e
 rw [if_pos hc]at k
 have gd:=cD hc
 have hN:=gd.nl
 have hah:=dH gd.ok
 have hnl:=hs.nodes.len
 repeat' (refine kr_ ?_)
 refine Pw (hs.mono K2.le) hm gd fun h3 bn Kn3=>⟨_,rfl,?_⟩
 have K3:=K2.app Kn3.le (fun e he=>Kn3.new e he) (fun e he=>Kn3.mem e he) Kn3.nd
 clear K2 Kn3
 refine Kn.al K3 fun b39 h4 K4 l4 hb39=>?_
 clear K3
 refine kw_ ?_
 intro h5 K5 _
 simp only [bX,List.set_cons_zero,List.set_cons_succ,Nat.zero_add,Nat.reduceAdd]at K5
 clear K4
 repeat' (refine kr_ ?_)
 rw [hnl]
 refine⟨by omega,by omega,by omega,by omega,?_⟩
 rw [Int.toNat_natCast,Nat.mul_one,cE,<-abd m]
 refine Kn.al K5 fun b46 h6 K6 l6 hb46=>?_
 clear K5
 obtain⟨g2,KA,KL⟩:=Kn.cut (A:= [(b39, .inl ⟨[(arr bn m.nodes.length).v],1,false⟩),(b7, .inl ⟨aH M,5,false⟩),(bn, .inl ⟨mkC m.nodes.length (cP m),m.nodes.length,false⟩)])
  (L:= [(b46, .inl ⟨(toZ m 0).map I,m.nodes.length,false⟩),(b9, .inl ⟨[slN,slN,slN,slN,slN],5,false⟩)])
  (K6.perm (by
   refine(List.Perm.swap _ _ _).trans (List.Perm.cons _ ?_)
   refine List.Perm.trans ?_ (List.perm_append_comm (l₁:= [_,_]) (l₂:= [_,_]))
   exact List.Perm.refl _))
 clear K6
 have f39:=KA.at (b:=b39) (by((focus ((repeat first|exact .head _|apply List.Mem.tail);done))))
 have f7:=KA.at (b:=b7) (by((focus ((repeat first|exact .head _|apply List.Mem.tail);done))))
 have fn:=KA.at (b:=bn) (by((focus ((repeat first|exact .head _|apply List.Mem.tail);done))))
 have hs2:=hs.mono KA.le
 have l02:=KA.le
 have x39:=cf f39
 have x7:=cf f7
 clear KA
 repeat' (refine kr_ ?_)
 refine au m.nodes.length (fun i vs h'=> ∃(sN:Sl) (XN:List (Nat×Blk)),vs= [.pointer (some ⟨b7,0,none⟩), .pointer (some ⟨b9,0,none⟩), .pointer (some ⟨b39,0,none⟩),(arr b46 m.nodes.length).v,sN.v,M.no.v,I (m.nodes.length:Nat),I (i:Nat)]/\
  Kn g2 h' ((b46, .inl ⟨(toZ m i).map I,m.nodes.length,false⟩)::(b9, .inl ⟨[slN,slN,slN,slN,slN],5,false⟩)::XN)/\bR XN sN 9 ((gZ m i).flatMap nodeCells))
  ⟨⟨none,0,0⟩, [],by rw [hnl];rfl,KL,cF 9⟩ ?_
 clear KL
 rintro i _ h7 next hi ⟨sN,XN,rfl,K7,oN⟩ hnx
 refine⟨b7,0,b9,0,b39,0,arr b46 _,sN,M.no,_,_,rfl,?_⟩
 have hsN:=oN.1
 rw [ck (m:=9) (fun _=>rfl),ll]at hsN
 have hcp:=P8 m i
 by_cases hlt:i<m.nodes.length
 ·refine aM (decide_eq_true (by omega)) ?_
  refine ap (fun J=> ∀(sN':Sl) (XN':List (Nat×Blk)) h',Kn g2 h' ((b46, .inl ⟨(toZ m (i+1)).map I,m.nodes.length,false⟩)::(b9, .inl ⟨[slN,slN,slN,slN,slN],5,false⟩)::XN')->bR XN' sN' 9 ((gZ m (i+1)).flatMap nodeCells)->J sN' h') (fun sN' XN' h' K' o'=>?_) (fun J hJ=>?_)
  ·rw [ay (by omega)]
   exact hnx hlt _ _ ⟨sN',XN',rfl,K',o'⟩
  obtain⟨nd,hni⟩: ∃n,m.nodes[i]?=some n:=⟨_,List.getElem?_eq_getElem hlt⟩
  obtain⟨b,o,ha,c0,c1,c2,c3,c4,c5,c6,c7,c8⟩:=(hs2.mono K7.le).nodes.at hni
  refine⟨b,o,ha,by omega,by omega,?_⟩
  rw [Int.toNat_natCast]
  refine⟨_,c0,_,c1,_,c2,_,c3,_,c4,_,c5,_,c6,_,c7,_,c8,?_⟩
  refine Kn.al K7 fun b81 h8 K8 l8 hb81=>?_
  clear K7 ha c0 c1 c2 c3 c4 c5 c6 c7 c8
  refine kw_ ?_
  intro h9 K9 _
  simp only [bX,List.set_cons_zero,List.set_cons_succ,Nat.zero_add,Nat.reduceAdd]at K9
  clear K8
  refine⟨b46,0,rfl,by omega,by show _<((m.nodes.length:Nat):Int);omega,?_⟩
  have hi1:0+Int.toNat (i:Int)*1=i:=by simp
  (((with_reducible apply Kn.wr);(assumption);((focus ((repeat first|exact .head|apply Upd.tail);done)))))
  ·rw [List.length_map,FK];omega
  intro h10 K10 _
  rw [Nat.zero_add,Nat.mul_one,bG,show ((sN.n:Nat):Int)=((fu m i:Nat):Int) by omega,aek hlt]at K10
  clear K9
  repeat' (refine kr_ ?_)
  refine⟨by omega,by show _<((m.nodes.length:Nat):Int);omega,cP m i,by rw [ax (K10.le _ _ fn),Nat.zero_add,Nat.mul_one];exact pC _ hlt,?_⟩
  refine ad (fun e=>?_) (fun e=>?_)
  ·repeat' (refine kr_ ?_)
   have hf:=fU gd.ok hni
   have hk:=fD hf
   have f46:=K10.at (b:=b46) (by((focus ((repeat first|exact .head _|apply List.Mem.tail);done))))
   have hT:IntS h10 (arr b46 m.nodes.length) (toZ m (i+1)):=⟨by show m.nodes.length<=_;omega,by rw [List.length_map,FK,Nat.mul_one], .inr ⟨b46,0,rfl,aw f46⟩⟩
   refine G6 hT hk (fun j h3 hj=>by have:=iU hf h3 hj;rw [FK];exact⟨this.1,by omega⟩) ⟨_,_,_,_,_,_,_,_,_,rfl,?_⟩
   have hpt:cA (dv (toZ m (i+1))) nd=cA (fun p=>(fu m p:Int)) nd:=yK hk fun p hp=>by
    have hpi:=(hah i nd hni).2 p hp
    exact Kp (by omega) (by omega)
   rw [hpt]
   have hne:=sd e
   rw [yC hni]at hne
   generalize cA (fun p=>(fu m p:Int)) nd=nn at*
   clear hpt f46 hT
   refine Kn.al K10 fun b118 h11 K11 l11 hb118=>?_
   clear K10
   refine Kn.growIn (A:= [(b118, .inl ⟨nodeCells nn,9,false⟩),(b81, .inl ⟨nodeCells nd,9,false⟩),(b46, .inl ⟨(toZ m (i+1)).map I,m.nodes.length,false⟩),(b9, .inl ⟨[slN,slN,slN,slN,slN],5,false⟩)]) (L:= []) (by rw [List.append_nil];exact K11) oN (by omega) (by omega) (by omega)
    ⟨b118,0,rfl,aw (K11.at (.head _))⟩ rfl rfl fun sN' XN' h12 hn12 oN' K12 _=>?_
   rw [List.append_nil]at K12
   refine hJ sN' XN' h12 ?_ (by rw [hne,List.flatMap_append];exact oN')
   exact K12.tl.tl
  ·refine hJ sN XN h10 K10.tl (by rw [uN e];exact oN)
 refine aC (decide_eq_false (by omega)) ?_
 obtain rfl:i=m.nodes.length:=by omega
 clear hnx hlt hi next
 repeat' (refine kr_ ?_)
 obtain⟨g3,KA,K⟩:=Kn.cut (A:=(b46, .inl ⟨(toZ m m.nodes.length).map I,m.nodes.length,false⟩)::XN) (L:= [(b9, .inl ⟨[slN,slN,slN,slN,slN],5,false⟩)]) (K7.perm (by
  refine List.Perm.cons _ ?_
  exact List.perm_append_comm (l₁:= [_])))
 clear K7
 have hNs:gD g3 sN (gZ m m.nodes.length):=oN.slcOf (by omega) fun x hx=>KA.mem x (.tail _ hx)
 have hT:IntS g3 (arr b46 m.nodes.length) (toZ m m.nodes.length):=⟨by show m.nodes.length<=_;omega,by rw [List.length_map,FK,Nat.mul_one], .inr ⟨b46,0,rfl,aw (KA.at (.head _))⟩⟩
 have hcap:=oN.2.1
 have l23:=KA.le
 clear KA oN
 replace f39:=l23 _ _ f39
 replace fn:=l23 _ _ fn
 replace hs2:=hs2.mono l23
 replace l02:=Hp.le_trans l02 l23
 clear l23 x39 x7 f7
 refine nG (hs2.mono K.le) hm fun M1 YN YI YX YB YH h8 o K8=>⟨_,_,_,_,_,rfl,?_⟩
 have K9:=K.app K8.le (fun e he=>K8.new e he) (fun e he=>K8.mem e he) K8.nd
 clear K K8
 refine Kn.al K9 fun b141 h9 K10 l9 hb141=>?_
 clear K9
 refine kw_ ?_
 intro h10 K11 _
 simp only [bX,List.set_cons_zero,List.set_cons_succ,Nat.zero_add,Nat.reduceAdd]at K11
 clear K10
 repeat' (refine kr_ ?_)
 have oI:=o.ini
 have oX:=o.nex
 have oB:=o.bad
 have oH:=o.hol
 have oNo:=o.no
 clear o
 have hdel: ∀{g h':Hp} {x:BindP} {R:Value->Hp->Prop},g3.le g->g.le h'->(x∈m.inits\/x∈m.nexts)->R (.bool (!cP m x.state.toNat)) h'->ACalls PR jl ((#[]++ #[xa x])++ #[.pointer (some ⟨b39,0,none⟩)]) h' R:=fun l1 l2 hx kk=>by
  have hp:=fZ gd hx
  exact Q2 (l2 _ _ (l1 _ _ f39)) (l2 _ _ (l1 _ _ fn)) hp.1.1 hp.1.2 kk
 refine th (f:=jl) (u:= #[]) (w:= #[.pointer (some ⟨b39,0,none⟩)]) (A:=(b141, .inl ⟨aH M1,5,false⟩)::(b9, .inl ⟨[slN,slN,slN,slN,slN],5,false⟩)::YN) (B:=YX++(YB++YH)) (fun b=> !cP m b.state.toNat) K11 oI hm.inits
  (fun x hx h' l R kk=>hdel (Hp.le_refl _) l (.inl hx) kk) fun sI g4 h11 l34 K12 hI=>⟨_,rfl,?_⟩
 have k141:=K11.at (.head _)
 have k141':=K12.at (.head _)
 refine⟨by rw [k141,k141'],?_⟩
 clear K11 oI k141 k141'
 refine th (f:=jl) (u:= #[]) (w:= #[.pointer (some ⟨b39,0,none⟩)]) (A:=(b141, .inl ⟨aH M1,5,false⟩)::(b9, .inl ⟨[slN,slN,slN,slN,slN],5,false⟩)::YN) (B:=YB++YH) (fun b=> !cP m b.state.toNat) K12 oX hm.nexts
  (fun x hx h' l R kk=>hdel l34 l (.inr hx) kk) fun sX g5 h12 l45 K13 hX=>⟨_,rfl,?_⟩
 clear K12 oX hdel
 simp only [List.cons_append,List.nil_append]at K13
 refine kw_ ?_
 intro h13 K14 _
 simp only [bX,List.set_cons_zero,List.set_cons_succ,Nat.zero_add,Nat.reduceAdd]at K14
 clear K13
 refine kw_ ?_
 intro h14 K15 _
 simp only [bX,List.set_cons_zero,List.set_cons_succ,Nat.zero_add,Nat.reduceAdd]at K15
 clear K14
 repeat' (refine kr_ ?_)
 obtain⟨g6,KA,K⟩:=Kn.cut (A:=(b141, .inl ⟨[M1.no.v,sI.v,sX.v,M1.bad.v,M1.hol.v],5,false⟩)::(YN++(YB++YH))) (L:= [(b9, .inl ⟨[slN,slN,slN,slN,slN],5,false⟩)]) (K15.perm (by
  refine List.Perm.cons _ ?_
  exact List.perm_append_comm (l₁:= [_])))
 clear K15
 have l56:=KA.le
 have l36:=Hp.le_trans l34 (Hp.le_trans l45 l56)
 have n1:=oNo.1
 have n4:=oB.1
 have n5:=oH.1
 rw [ck (m:=9) (fun _=>rfl)]at n1
 rw [List.length_map]at n4 n5
 have hbl:=gd.bl
 have hhl:=gd.hl
 have hM6:aO g6 ⟨M1.no,sI,sX,M1.bad,M1.hol⟩ ⟨m.nodes,m.inits.filter fun b=> !!cP m b.state.toNat,m.nexts.filter fun b=> !!cP m b.state.toNat,m.bads,m.holds⟩:=
  ⟨oNo.slcOf (by omega) fun x hx=>KA.mem x (.tail _ (List.mem_append_left _ hx)),hI.mono (Hp.le_trans l45 l56),hX.mono l56,oB.slcOf (by omega) fun x hx=>KA.mem x (.tail _ (List.mem_append_right _ (List.mem_append_left _ hx))),oH.slcOf (by omega) fun x hx=>KA.mem x (.tail _ (List.mem_append_right _ (List.mem_append_right _ hx))),oNo.2.1⟩
 clear KA
 have sm6:bT ⟨m.nodes,m.inits.filter fun b=> !!cP m b.state.toNat,m.nexts.filter fun b=> !!cP m b.state.toNat,m.bads,m.holds⟩:=
  ⟨hm.nodes,Nat.le_trans (List.length_filter_le _ _) hm.inits,Nat.le_trans (List.length_filter_le _ _) hm.nexts,hm.bads,hm.holds,hm.names⟩
 have inT: ∀p:Int,(0<=p/\p<m.nodes.length)->Gu (toZ m m.nodes.length) p:=fun p hp=>by unfold Gu;rw [FK];exact hp
 refine Ma (M:=⟨M1.no,sI,sX,M1.bad,M1.hol⟩) (sN:=sN) (t:=arr b46 m.nodes.length) (hM6.mono K.le) sm6 ((hNs.mono l36).mono K.le) hcap ((hT.mono l36).mono K.le)
  (fun b hb=>by have:=fZ gd (.inl (List.mem_filter.1 hb).1);exact⟨inT _ this.1,inT _ this.2.1⟩) (fun b hb=>by have:=fZ gd (.inr (List.mem_filter.1 hb).1);exact⟨inT _ this.1,inT _ this.2.1⟩)
  (fun p hp=>inT p (kj (gd.bad p hp))) (fun p hp=>inT p (kj (gd.hol p hp))) fun M2 h15 l15 hM2=>⟨_,_,_,_,_,rfl,?_⟩
 rw [aa7 gd]at hM2
 have K16:=K.mono l15
 clear K
 refine nG hM2 (kc gd hm) fun M3 ZN ZI ZX ZB ZH h16 o3 K17=>⟨_,_,_,_,_,rfl,?_⟩
 have hM3:=o3.modelS K17 (kc gd hm)
 have K18:=K16.app K17.le (fun e he=>K17.new e he) (fun e he=>K17.mem e he) K17.nd
 clear K16 K17
 refine kw_ ?_
 intro h17 K19 _
 simp only [bX,List.set_cons_zero,List.set_cons_succ,Nat.zero_add,Nat.reduceAdd]at K19
 clear K18
 repeat' (refine kr_ ?_)
 have l06:=Hp.le_trans l02 l36
 exact k M3 h17 (Hp.le_trans l06 K19.le) (o3.modelS (K19.tl) (kc gd hm))
theorem SB (f:Nat->Int) (n:NodeP):(cA f n).kind=n.kind/\(cA f n).n=n.n/\(cA f n).m=n.m/\(cA f n).sort=n.sort:=⟨rfl,rfl,rfl,rfl⟩
theorem wT (A:List NodeP) (x:NodeP) (kind:Int):av (A++ [x]) kind=av A kind++if x.kind=kind then [A.length]else []:=by
 have:=ja (l:=A++ [x]) (kind:=kind) (i:=A.length) (n:=x) (by rw [List.getElem?_append_right (Nat.le_refl _),Nat.sub_self];rfl)
 rwa [List.take_append_of_le_length (Nat.le_refl _),List.take_length,List.take_of_length_le (by simp)]at this
theorem uB {l L:List NodeP} {n:NodeP} {f:Nat->Nat} {v v':List (List Nat)} (hk:0<=ai n.kind) (h35: ¬n.kind=35) (h36: ¬n.kind=36)
  (h: ∀p∈dP n,v'.getD (f p) []=v.getD p []/\ar L ((f p:Nat):Int)=ar l (p:Int)):bz L (cA (fun p=>(f p:Int)) n) v'=bz l n v:=by
 have st: ∀(l:List NodeP) (x:Int),ar l ((x.toNat:Nat):Int)=ar l x:=fun l x=>by unfold ar;rw [Int.toNat_natCast]
 have a:=fun(e:0<ai n.kind)=>h n.a.toNat ((fv hk).2 ⟨0,by omega,e,rfl⟩)
 have b:=fun(e:1<ai n.kind)=>h n.b.toNat ((fv hk).2 ⟨1,by omega,e,rfl⟩)
 have c:=fun(e:2<ai n.kind)=>h n.c.toNat ((fv hk).2 ⟨2,by omega,e,rfl⟩)
 by_cases h34:n.kind=34
 ·unfold bz
  rw [(SB _ n).1,if_pos h34,if_pos h34];rfl
 have hp:0<ai n.kind:=by
  rcases qE n.kind with e|e|e|e|e
  ·unfold ai at e
   split at e
   ·omega
   ·split at e
    ·omega
    ·split at e
     ·omega
     ·split at e
      ·omega
      ·omega
  all_goals omega
 have a:=a hp
 have ea:(cA (fun p=>(f p:Int)) n).a=(f n.a.toNat:Nat):=by unfold cA;exact if_pos hp
 have eb:1<ai n.kind->(cA (fun p=>(f p:Int)) n).b=(f n.b.toNat:Nat):=fun e=>by unfold cA;exact if_pos e
 have ec:2<ai n.kind->(cA (fun p=>(f p:Int)) n).c=(f n.c.toNat:Nat):=fun e=>by unfold cA;exact if_pos e
 have ek:(cA (fun p=>(f p:Int)) n).kind=n.kind:=rfl
 have en:(cA (fun p=>(f p:Int)) n).n=n.n:=rfl
 have em:(cA (fun p=>(f p:Int)) n).m=n.m:=rfl
 generalize cA (fun p=>(f p:Int)) n=nn at*
 have ga:v'.getD nn.a.toNat []=v.getD n.a.toNat []:=by rw [ea,Int.toNat_natCast];exact a.1
 have gb:1<ai n.kind->v'.getD nn.b.toNat []=v.getD n.b.toNat []:=fun e=>by rw [eb e,Int.toNat_natCast];exact(b e).1
 have gc:2<ai n.kind->v'.getD nn.c.toNat []=v.getD n.c.toNat []:=fun e=>by rw [ec e,Int.toNat_natCast];exact(c e).1
 have sa:ar L nn.a=ar l n.a:=by rw [ea,a.2,st]
 have sb:1<ai n.kind->ar L nn.b=ar l n.b:=fun e=>by rw [eb e,(b e).2,st]
 have ca:aK v' nn.a=aK v n.a:=by unfold aK;rw [ga]
 have cb:1<ai n.kind->aK v' nn.b=aK v n.b:=fun e=>by unfold aK;rw [gb e]
 have cc:2<ai n.kind->aK v' nn.c=aK v n.c:=fun e=>by unfold aK;rw [gc e]
 unfold bz
 rw [ek,en,em,ca,sa]
 rcases jw hp with ⟨h1,h2,h3⟩|⟨h1,h2,h3⟩|⟨h1,h2,h3⟩|⟨h1,h3⟩|⟨h1,h3⟩|⟨h1,h3⟩
 ·simp only [if_neg h34,if_neg (show¬n.kind=33 by omega),if_neg (show¬n.kind=21 by omega),if_neg (show¬n.kind=37 by omega),if_neg (show¬n.kind=38 by omega),if_neg (show¬n.kind=29 by omega),if_pos h3]
 ·rw [cb (by omega),gb (by omega),ga,sb (by omega)]
  simp only [if_neg h34,if_neg (show¬n.kind=33 by omega),if_neg (show¬n.kind=38 by omega)]
 ·simp only [if_neg h34,if_neg (show¬n.kind=33 by omega),if_neg (show¬n.kind=21 by omega),if_neg (show¬n.kind=37 by omega),if_neg (show¬n.kind=38 by omega),if_neg (show¬n.kind=29 by omega),if_pos h3]
 ·simp only [if_neg h34,if_pos h1,gb (show 1<ai n.kind by omega),gc (show 2<ai n.kind by omega)]
 ·simp only [if_neg h34,if_neg (show¬n.kind=33 by omega),if_neg (show¬n.kind=21 by omega),if_pos h1,ga,cb (show 1<ai n.kind by omega)]
 ·simp only [if_neg h34,if_neg (show¬n.kind=33 by omega),if_neg (show¬n.kind=21 by omega),if_neg (show¬n.kind=37 by omega),if_pos h1,ga,cb (show 1<ai n.kind by omega),cc (show 2<ai n.kind by omega)]
theorem Bv {α:Type} {a:List α} {x d:α}:(a++ [x]).getD a.length d=x:=by simp [List.getD_eq_getElem?_getD]
theorem Aw {α:Type} {l:List α} {f q:α->Bool} (h: ∀x∈l,f x=q x):l.findIdx? f=l.findIdx? q:=by
 induction l with
 |nil=>rfl
 |cons x l ih=>rw [List.findIdx?_cons,List.findIdx?_cons,h x (.head _),ih fun y hy=>h y (.tail _ hy)]
def EZ :NodeP:=⟨36,0,0,0,0,0,⟨0,1⟩,⟨#[98,121,115,116]⟩⟩
def dm (m:ah) (b:Bool):ah:=⟨m.nodes++ [EZ],m.inits,if b then m.nexts++ [⟨m.nodes.length,m.nodes.length⟩]else m.nexts,m.bads,m.holds⟩
section
variable {m :ah} {b:Bool}
theorem Ml (b:Bool) {p:Nat} (h:p<m.nodes.length):(dm m b).nodes[p]?=m.nodes[p]?:=List.getElem?_append_left h
theorem Ru (b:Bool) {p:Nat} (h:p<m.nodes.length):ar (dm m b).nodes (p:Int)=ar m.nodes (p:Int):=by
 unfold ar;rw [Int.toNat_natCast,Ml b h]
theorem sh (b:Bool) {p:Nat} (h:p<m.nodes.length):aE (dm m b).nodes p=aE m.nodes p/\bK (dm m b).nodes p=bK m.nodes p:=by
 unfold aE bK;rw [Ru b h];exact⟨rfl,rfl⟩
theorem BG (b:Bool):stP (dm m b)=stP m++ [m.nodes.length]:=by
 show av (m.nodes++ [EZ]) 36=_
 rw [wT];rfl
theorem abW (b:Bool):inP (dm m b)=inP m:=by
 show av (m.nodes++ [EZ]) 35=_
 rw [wT,if_neg (by decide),List.append_nil]
theorem abv (b:Bool) {ps:List Nat} (h: ∀p∈ps,p<m.nodes.length):cH (dm m b).nodes ps=cH m.nodes ps:=by
 unfold cH
 congr 1
 exact List.map_congr_left fun p hp=>by rw [(sh b (h p hp)).1,(sh b (h p hp)).2]
theorem WJ (b:Bool) {ps:List Nat} (h: ∀p∈ps,p<m.nodes.length) (c:Nat):tQ (dm m b).nodes ps c=tQ m.nodes ps c:=by
 induction ps generalizing c with
 |nil=>rfl
 |cons p ps ih=>
  have hp:=h p (.head _)
  unfold tQ nbA
  rw [(sh b hp).1,(sh b hp).2,ih fun q hq=>h q (.tail _ hq)]
theorem aff (l:List NodeP) (ps:List Nat) (c:Nat):tQ l ps (c%2^cH l ps)=tQ l ps c:=by
 rw [<-Yj l ps c,nR (JU l ps c)]
theorem aaI (l:List NodeP) (c:Nat) {ps qs:List Nat} {i:Nat} (h:i<ps.length):(tQ l (ps++qs) c).getD i []=(tQ l ps c).getD i []:=by
 induction ps generalizing i c with
 |nil=>simp at h
 |cons p ps ih=>
  cases i with
  |zero=>rfl
  |succ i=>
   show (tQ l (ps++qs) _).getD i []=(tQ l ps _).getD i []
   exact ih _ (by simpa using h)
theorem yb (g:cr m) (b:Bool) (s:Nat) {i:Nat} (h:i<(stP m).length):
  (dM (dm m b).nodes (stP (dm m b)) s).getD i []=(dM m.nodes (stP m) (s%2^ak m.nodes 36)).getD i []:=by
 rw [jN,jN,BG,aaI _ _ h,WJ b (bV g 36),<-eM g,aff]
theorem Z2 (g:cr m) (b:Bool) (i:Nat):dM (dm m b).nodes (inP (dm m b)) i=dM m.nodes (inP m) i:=by
 rw [jN,jN,abW,WJ b (bV g 35)]
theorem L8 {l:List NodeP} {kind:Int} {i:Nat} {n:NodeP} (h:l[i]?=some n) (hk:n.kind=kind):(av (l.take i) kind).length<(av l kind).length:=by
 have:=get_lt (qp h hk)
 exact this
theorem ado (g:cr m) (b:Bool) {s i s' i':List (List Nat)} (hs: ∀k,k<(stP m).length->s'.getD k []=s.getD k []) (hi: ∀k,k<(inP m).length->i'.getD k []=i.getD k []):
  ∀k,k<=m.nodes.length->du (dm m b).nodes s' i' k=du m.nodes s i k:=by
 intro k
 induction k with
 |zero=>intro _;rfl
 |succ k ih=>
  intro hk
  have ih:=ih (by omega)
  obtain⟨n,hn⟩: ∃n,m.nodes[k]?=some n:=⟨_,List.getElem?_eq_getElem (by omega)⟩
  rw [jI hn,jI (l:=(dm m b).nodes) (by rw [Ml b (by omega)];exact hn),ih]
  have ht:(dm m b).nodes.take k=m.nodes.take k:=List.take_append_of_le_length (by omega)
  rw [ht]
  congr 2
  split
  ·rename_i h36
   exact hs _ (L8 hn h36)
  split
  ·rename_i h35
   exact hi _ (L8 hn h35)
  ·rename_i h36 h35
   have hf:=fU g.ok hn
   have hkk:=fD hf
   have:=uB (l:=m.nodes) (L:=(dm m b).nodes) (n:=n) (f:=id) (v:=du m.nodes s i k) (v':=du m.nodes s i k) hkk h35 h36 fun p hp=>⟨rfl,by
    have:=(dH g.ok k n hn).2 p hp
    exact Ru b (show p<m.nodes.length by omega)⟩
   rw [<-this]
   congr 1
   symm
   have fp:=fun(j:Nat) (h3:j<3) (hj:(j:Int)<ai n.kind)=>iU hf h3 hj
   unfold cA
   have e0:=fp 0 (by omega)
   have e1:=fp 1 (by omega)
   have e2:=fp 2 (by omega)
   unfold az at e0 e1 e2
   cases n
   congr 1
   ·split
    ·rename_i q;exact Int.toNat_of_nonneg (e0 q).1
    ·rfl
   ·split
    ·rename_i q;exact Int.toNat_of_nonneg (e1 q).1
    ·rfl
   ·split
    ·rename_i q;exact Int.toNat_of_nonneg (e2 q).1
    ·rfl
theorem SZ (g:cr m) (b:Bool) {s i s' i':List (List Nat)} (hs: ∀k,k<(stP m).length->s'.getD k []=s.getD k []) (hi: ∀k,k<(inP m).length->i'.getD k []=i.getD k []) {p:Nat} (h:p<m.nodes.length):
  (wW (dm m b) s' i').getD p []=(wW m s i).getD p []:=by
 unfold wW
 rw [show (dm m b).nodes.length=m.nodes.length+1 by show (m.nodes++ [EZ]).length=_;simp,nv _ _ _ 1 _ _ h,ado g b hs hi _ (Nat.le_refl _)]
theorem GZ (g:cr m) (b:Bool) (s i:Nat) {p:Nat} (h:p<m.nodes.length):(bL (dm m b) s i).getD p []=(bL m (s%2^ak m.nodes 36) i).getD p []:=
 SZ g b (fun k hk=>yb g b s hk) (fun k hk=>by rw [Z2 g b]) h
theorem ZJ (g:cr m) (b:Bool) (s i:Nat):iG (dm m b) (bL (dm m b) s i)=iG m (bL m (s%2^ak m.nodes 36) i):=by
 unfold iG
 show m.holds.all _=_
 rw [Bool.eq_iff_iff,List.all_eq_true,List.all_eq_true]
 refine forall_congr' fun p=>forall_congr' fun hp=>?_
 have:=kj (g.hol p hp)
 unfold aK
 rw [GZ g b s i (by omega)]
theorem aeA (g:cr m) (b:Bool) (s i:Nat):t7 (dm m b) (bL (dm m b) s i)=t7 m (bL m (s%2^ak m.nodes 36) i):=by
 unfold t7
 show m.bads.findIdx? _=_
 refine Aw fun p hp=>?_
 have:=kj (g.bad p hp)
 unfold aK
 rw [GZ g b s i (by omega)]
theorem AE (b:Bool):ak (dm m b).nodes 36=ak m.nodes 36+1/\ak (dm m b).nodes 35=ak m.nodes 35:=by
 unfold ak
 show ((List.filter _ (m.nodes++ [EZ])).map _).sum=_/\((List.filter _ (m.nodes++ [EZ])).map _).sum=_
 rw [List.filter_append,List.filter_append,List.map_append,List.map_append,List.sum_append,List.sum_append]
 exact⟨rfl,rfl⟩
theorem Sv (l:List BindP) (x:BindP) (p:Nat) (h:x.state≠(p:Int)):bO (l++ [x]) p=bO l p:=by
 unfold bO
 rw [List.find?_append]
 have:List.find? (fun b=>decide (b.state=(p:Int))) [x]=none:=by
  rw [List.find?_cons,decide_eq_false h];rfl
 rw [this,Option.or_none]
theorem Ps (g:cr m) (b:Bool) {p:Nat} (h:p<m.nodes.length):dZ (dm m b) p=dZ m p:=by
 unfold dZ
 rw [(sh b h).1]
 show Option.map _ (bO m.inits p)=_
 cases e:bO m.inits p with
 |none=>rfl
 |some k=>
  obtain⟨b',hbm,h1,h2⟩:=dV e
  have hk:=(fZ g (.inl hbm)).2.1
  have hv:(kE (dm m b)).getD k []=(kE m).getD k []:=by
   refine SZ g b (fun j hj=>?_) (fun j hj=>?_) (by omega)
   ·obtain⟨q,hq⟩: ∃q,(stP m)[j]?=some q:=⟨_,List.getElem?_eq_getElem hj⟩
    rw [ql hq,ql (ps:=stP (dm m b)) (i:=j) (p:=q) (by rw [BG,List.getElem?_append_left hj];exact hq),(sh b (bV g 36 q (List.mem_of_getElem? hq))).1]
   ·obtain⟨q,hq⟩: ∃q,(inP m)[j]?=some q:=⟨_,List.getElem?_eq_getElem hj⟩
    rw [ql hq,ql (ps:=inP (dm m b)) (i:=j) (p:=q) (by rw [abW];exact hq),(sh b (bV g 35 q (List.mem_of_getElem? hq))).1]
  show some (kK (aE m.nodes p) ((kE (dm m b)).getD k []))=some (kK (aE m.nodes p) ((kE m).getD k []))
  rw [hv]
theorem YJ (g:cr m) (b:Bool):dZ (dm m b) m.nodes.length=none:=by
 unfold dZ
 show Option.map _ (bO m.inits _)=none
 cases e:bO m.inits m.nodes.length with
 |none=>rfl
 |some k=>
  obtain⟨b',hbm,h1,_⟩:=dV e
  have:=(fZ g (.inl hbm)).1
  omega
theorem Yz (b:Bool) {p:Nat} (h:p<m.nodes.length):bO (dm m b).nexts p=bO m.nexts p:=by
 show bO (if b then m.nexts++ [⟨m.nodes.length,m.nodes.length⟩]else m.nexts) p=_
 cases b
 ·rfl
 ·exact Sv _ _ _ (by show ((m.nodes.length:Nat):Int)≠_;omega)
theorem Oo (g:cr m) (b:Bool) (s i:Nat) {p:Nat} (h:p<m.nodes.length):gt (dm m b) (bL (dm m b) s i) p=gt m (bL m (s%2^ak m.nodes 36) i) p:=by
 unfold gt
 rw [Yz b h]
 cases e:bO m.nexts p with
 |none=>rfl
 |some k=>
  obtain⟨b',hbm,h1,h2⟩:=dV e
  have hk:=(fZ g (.inr hbm)).2.1
  show some ((bL (dm m b) s i).getD k [])=some ((bL m (s%2^ak m.nodes 36) i).getD k [])
  rw [GZ g b s i (by omega)]
theorem Mw (g:cr m) (gx:cr (dm m b)) (s:Nat):(aZ (dm m b)).begins s=(aZ m).begins (s%2^ak m.nodes 36):=by
 rw [Bool.eq_iff_iff,vD gx,vD g]
 constructor
 ·intro h i p hp v hv
  have hi:=get_lt hp
  have hpl:=bV g 36 p (List.mem_of_getElem? hp)
  have:=h i p (by rw [BG,List.getElem?_append_left hi];exact hp) v (by rw [Ps g b hpl];exact hv)
  rwa [yb g b s hi]at this
 ·intro h i p hp v hv
  rw [BG]at hp
  by_cases hi:i<(stP m).length
  ·rw [List.getElem?_append_left hi]at hp
   have hpl:=bV g 36 p (List.mem_of_getElem? hp)
   rw [Ps g b hpl]at hv
   rw [yb g b s hi]
   exact h i p hp v hv
  ·rw [List.getElem?_append_right (by omega)]at hp
   obtain⟨hp0,rfl⟩:i-(stP m).length=0/\m.nodes.length=p:=by
    have:=get_lt hp
    have h0:i-(stP m).length=0:=by simpa using this
    rw [h0]at hp
    exact⟨h0,by simpa using hp⟩
   rw [YJ g b]at hv;cases hv
theorem aaZ (g:cr m) (gx:cr (dm m b)) {s i:Nat} (hs:s<2^(ak m.nodes 36+1)) (t:Nat) (h:(aZ (dm m b)).goes ((aZ (dm m b)).at_ s i) t=true):
  (aZ m).goes ((aZ m).at_ (s%2^ak m.nodes 36) i) (t%2^ak m.nodes 36)=true:=by
 rw [yh gx (by rw [(AE b).1];exact hs)]at h
 rw [yh g (Nat.mod_lt _ (Nat.two_pow_pos _))]
 intro j p hp v hv
 have hi:=get_lt hp
 have hpl:=bV g 36 p (List.mem_of_getElem? hp)
 have:=h j p (by rw [BG,List.getElem?_append_left hi];exact hp) v (by rw [Oo g b s i hpl];exact hv)
 rwa [yb g b t hi]at this
theorem RT (b:Bool) {t:Nat} (g:cr m) (ht:t<2^ak m.nodes 36):(dM (dm m b).nodes (stP (dm m b)) t).getD (stP m).length []= [0]:=by
 have hg:=EI (l:=(dm m b).nodes) (ps:=stP (dm m b)) (code:=t) (i:=(stP m).length) (p:=m.nodes.length) (by rw [BG,List.getElem?_append_right (Nat.le_refl _),Nat.sub_self];rfl)
 rw [hg,BG,List.take_left,abv b (bV g 36),eM g,Nat.div_eq_of_lt ht]
 have:ar (dm m b).nodes ((m.nodes.length:Nat):Int)=⟨0,1⟩:=by
  unfold ar
  rw [Int.toNat_natCast]
  show (match (m.nodes++ [EZ])[m.nodes.length]? with|some n=>n.sort|none=>⟨0,0⟩)=_
  rw [List.getElem?_append_right (Nat.le_refl _),Nat.sub_self];rfl
 unfold bK aE
 rw [this];rfl
theorem Zx (g:cr m) (gx:cr (dm m b)) {s i t:Nat} (hs:s<2^ak m.nodes 36) (ht:t<2^ak m.nodes 36) (h:(aZ m).goes ((aZ m).at_ s i) t=true):
  (aZ (dm m b)).goes ((aZ (dm m b)).at_ s i) t=true:=by
 have h2:(2:Nat)^(ak m.nodes 36+1)=2*2^ak m.nodes 36:=by rw [Nat.pow_succ];omega
 rw [yh g hs]at h
 rw [yh gx (by rw [(AE b).1];omega)]
 intro j p hp v hv
 rw [BG]at hp
 by_cases hi:j<(stP m).length
 ·rw [List.getElem?_append_left hi]at hp
  have hpl:=bV g 36 p (List.mem_of_getElem? hp)
  rw [Oo g b s i hpl,Nat.mod_eq_of_lt hs]at hv
  rw [yb g b t hi,Nat.mod_eq_of_lt ht]
  exact h j p hp v hv
 ·rw [List.getElem?_append_right (by omega)]at hp
  obtain⟨hp0,rfl⟩:j-(stP m).length=0/\m.nodes.length=p:=by
   have:=get_lt hp
   have h0:j-(stP m).length=0:=by simpa using this
   rw [h0]at hp
   exact⟨h0,by simpa using hp⟩
  obtain rfl:j=(stP m).length:=by have:=get_lt hp;simp at this;omega
  rw [RT b g ht]
  unfold gt at hv
  cases e:bO (dm m b).nexts m.nodes.length with
  |none=>rw [e]at hv;cases hv
  |some k=>
   rw [e]at hv
   obtain⟨b',hbm,h1,h2⟩:=dV e
   have hk:k=m.nodes.length:=by
    rw [<-h2]
    have hbm':b'∈(if b then m.nexts++ [⟨m.nodes.length,m.nodes.length⟩]else m.nexts):=hbm
    cases b
    ·have:=(fZ g (.inr hbm')).1;omega
    ·rcases List.mem_append.1 hbm' with q|q
     ·have:=(fZ g (.inr q)).1;omega
     ·have:=List.mem_singleton.1 q
      subst this;rfl
   subst hk
   have hv':(bL (dm m b) s i).getD m.nodes.length []=v:=Option.some.inj hv
   rw [<-hv']
   symm
   have hn:(dm m b).nodes[m.nodes.length]?=some EZ:=by
    show (m.nodes++ [EZ])[m.nodes.length]?=_
    rw [List.getElem?_append_right (Nat.le_refl _),Nat.sub_self];rfl
   unfold bL wW
   rw [show (dm m b).nodes.length=m.nodes.length+1 by show (m.nodes++ [EZ]).length=_;simp,jI hn]
   conv=>lhs;arg 2;rw [<-dE (dm m b).nodes (dM (dm m b).nodes (stP (dm m b)) s) (dM (dm m b).nodes (inP (dm m b)) i) m.nodes.length]
   rw [show∀(A:List (List Nat)) (k:Nat) (x:List Nat),A.length=k->(A++ [x]).getD A.length []=x from fun A k x _=>Bv]
   ·rw [if_pos (by rfl)]
    rw [show (dm m b).nodes.take m.nodes.length=m.nodes from List.take_left]
    exact RT b g hs
   ·exact m.nodes.length
   ·exact dE ..
theorem Xn (g:cr m) (gx:cr (dm m b)):(aZ (dm m b)).depthI=(aZ m).depthI:=by
 have hn:(aZ (dm m b)).n=ak m.nodes 36+1:=(AE b).1
 have hk:(aZ (dm m b)).k=(aZ m).k:=(AE b).2
 have hm:(aZ m).n=ak m.nodes 36:=rfl
 have h2:(2:Nat)^(ak m.nodes 36+1)=2*2^ak m.nodes 36:=by rw [Nat.pow_succ];omega
 have pp:0<2^ak m.nodes 36:=Nat.two_pow_pos _
 have ehold: ∀s i,s<2^(ak m.nodes 36+1)->(aZ (dm m b)).hold ((aZ (dm m b)).at_ s i)=(aZ m).hold ((aZ m).at_ (s%2^ak m.nodes 36) i)/\(aZ (dm m b)).bad ((aZ (dm m b)).at_ s i)=(aZ m).bad ((aZ m).at_ (s%2^ak m.nodes 36) i):=fun s i hs=>by
  have q:=Fm (m:=dm m b) (s:=s) (x:=i) (by rw [(AE b).1];exact hs)
  have r:=Fm (m:=m) (s:=s%2^ak m.nodes 36) (x:=i) (Nat.mod_lt _ pp)
  rw [q.1,q.2,r.1,r.2,ZJ g,aeA g];exact⟨rfl,rfl⟩
 have eends: ∀s,s<2^(ak m.nodes 36+1)->((aZ (dm m b)).endsAt s=true↔(aZ m).endsAt (s%2^ak m.nodes 36)=true):=fun s hs=>by
  rw [aL.endsAt_iff,aL.endsAt_iff,hk]
  refine exists_congr fun x=>and_congr_right fun _=>?_
  rw [(ehold s x hs).1,(ehold s x hs).2]
 have r1: ∀i s,s<2^(ak m.nodes 36+1)->(aZ (dm m b)).run i s=true->(aZ m).run i (s%2^ak m.nodes 36)=true:=by
  intro i
  induction i with
  |zero=>intro s hs h;show (aZ m).begins _=true;rw [<-Mw g gx];exact h
  |succ i ih=>
   intro s hs h
   obtain⟨t,x,ht,hx,h1,h2',h3⟩:=aL.fwd_iff.1 h
   rw [hn]at ht
   refine aL.fwd_iff.2 ⟨t%2^ak m.nodes 36,x,Nat.mod_lt _ pp,by rw [<-hk];exact hx,ih t ht h1,?_,?_⟩
   ·rw [<-(ehold t x ht).1];exact h2'
   ·exact aaZ g gx ht s h3
 have r2: ∀i s,s<2^ak m.nodes 36->(aZ m).run i s=true->(aZ (dm m b)).run i s=true:=by
  intro i
  induction i with
  |zero=>intro s hs h;show (aZ (dm m b)).begins _=true;rw [Mw g gx,Nat.mod_eq_of_lt hs];exact h
  |succ i ih=>
   intro s hs h
   obtain⟨t,x,ht,hx,h1,h2',h3⟩:=aL.fwd_iff.1 h
   rw [hm]at ht
   refine aL.fwd_iff.2 ⟨t,x,by rw [hn];omega,by rw [hk];exact hx,ih t ht h1,?_,Zx g gx ht hs h3⟩
   rw [(ehold t x (by omega)).1,Nat.mod_eq_of_lt ht];exact h2'
 have d1: ∀d,(aZ (dm m b)).depth=some d-> ∃e,(aZ m).depth=some e/\e<=d:=fun d hd=>by
  obtain⟨s,hs,q1,q2⟩:=aL.run_of_depth hd
  rw [hn]at hs
  exact aL.depth_of_run (Nat.mod_lt _ pp) (r1 d s hs q1) ((eends s hs).1 q2)
 have d2: ∀d,(aZ m).depth=some d-> ∃e,(aZ (dm m b)).depth=some e/\e<=d:=fun d hd=>by
  obtain⟨s,hs,q1,q2⟩:=aL.run_of_depth hd
  rw [hm]at hs
  exact aL.depth_of_run (by rw [hn];omega) (r2 d s hs q1) ((eends s (by omega)).2 (by rw [Nat.mod_eq_of_lt hs];exact q2))
 have e:(aZ (dm m b)).depth=(aZ m).depth:=by
  cases h:(aZ m).depth with
  |none=>
   cases h':(aZ (dm m b)).depth with
   |none=>rfl
   |some d=>obtain⟨e,he,_⟩:=d1 d h';rw [h]at he;cases he
  |some d=>
   obtain⟨e,he,hed⟩:=d2 d h
   obtain⟨f,hf,hfe⟩:=d1 e he
   rw [h]at hf;cases hf
   rw [he];congr 1;omega
 unfold aL.depthI
 rw [e]
theorem aa0 (g:cr m) (b:Bool) (i:Nat):kX (dm m b) i↔kX m i:=by
 constructor
 ·intro h
  induction h with
  |bad h=>exact .bad h
  |hold h=>exact .hold h
  |part ha hn hb ih=>
   have hl:=zK g ih
   rw [Ml b hl]at hn
   exact .part ih hn hb
  |ini ha hb e ih=>exact .ini ih hb e
  | @nex a x ha hb e ih=>
   have hl:=zK g ih
   have hb':x∈(if b then m.nexts++ [⟨m.nodes.length,m.nodes.length⟩]else m.nexts):=hb
   cases b
   ·exact .nex ih hb' e
   ·rcases List.mem_append.1 hb' with q|q
    ·exact .nex ih q e
    ·have:=List.mem_singleton.1 q
     subst this
     have:((m.nodes.length:Nat):Int)=a:=e
     omega
 ·intro h
  induction h with
  |bad h=>exact .bad (m:=dm m b) h
  |hold h=>exact .hold (m:=dm m b) h
  |part ha hn hb ih=>
   exact .part ih (by rw [Ml b (get_lt hn)];exact hn) hb
  |ini ha hb e ih=>exact .ini (m:=dm m b) ih hb e
  | @nex a x ha hb e ih=>
   refine .nex (m:=dm m b) (b:=x) ih ?_ e
   show x∈(if b then m.nexts++ [⟨m.nodes.length,m.nodes.length⟩]else m.nexts)
   cases b
   ·exact hb
   ·exact List.mem_append_left _ hb
theorem Xj (g:cr m) (b:Bool):cP (dm m b)=cP m:=by
 funext i
 rw [Bool.eq_iff_iff,fh,fh]
 exact aa0 g b i
theorem aa2 (g:cr m) (b:Bool):de (dm m b)=de m:=by
 have hB:=Xj g b
 have hP: ∀i,fu (dm m b) i=fu m i:=fun i=>by unfold fu;rw [hB]
 have hN:cP m m.nodes.length=false:=by
  rw [Bool.eq_false_iff]
  intro e
  have:=zK g (fh.1 e)
  omega
 have hbs: ∀l,jq (dm m b) l=jq m l:=fun l=>by
  unfold jq
  rw [hB]
  refine List.map_congr_left fun x _=>?_
  rw [hP,hP]
 unfold de
 have e1:gZ (dm m b) (dm m b).nodes.length=gZ m m.nodes.length:=by
  rw [show (dm m b).nodes.length=m.nodes.length+1 by show (m.nodes++ [EZ]).length=_;simp]
  rw [uN (by rw [hB];exact hN)]
  unfold gZ
  rw [hB]
  refine List.map_congr_left fun j hj=>?_
  have hjl:=List.mem_range.1 (List.mem_filter.1 hj).1
  have:EQ (dm m b) j=EQ m j:=by unfold EQ;rw [Ml b hjl]
  rw [this]
  simp only [hP]
 have e2:jq (dm m b) (dm m b).nexts=jq m m.nexts:=by
  rw [hbs]
  show jq m (if b then m.nexts++ [⟨m.nodes.length,m.nodes.length⟩]else m.nexts)=_
  cases b
  ·rfl
  ·show jq m (m.nexts++ [_])=_
   unfold jq
   rw [List.filter_append]
   have:List.filter (fun b:BindP=>cP m b.state.toNat) [⟨m.nodes.length,m.nodes.length⟩]= []:=by
    rw [List.filter_cons,if_neg]
    ·rfl
    ·show¬cP m ((m.nodes.length:Nat):Int).toNat=true
     rw [Int.toNat_natCast,hN];decide
   rw [this,List.append_nil]
 rw [e1,e2]
 simp only [hP]
 rw [show (dm m b).inits=m.inits from rfl,hbs];rfl
end
theorem FD {h:Hp} {s t:Sl} {xs:List BindP} {R:Value->Hp->Prop} (hs:iH h s xs) (ht:iH h t xs) (k:R (.bool true) h):qy #[s.v,t.v] h R:=by
 refine Ka ?_
 refine uf_ ?_
 have ls:=hs.len
 have lt:=ht.len
 have hb:=hs.1
 refine aC (by simp [ls,lt]) ?_
 refine au xs.length (fun i vs h'=>vs= [s.v,t.v,I (i:Nat)]/\h'=h) ⟨rfl,rfl⟩ ?_
 rintro i _ _ next hi ⟨rfl,rfl⟩ hn
 refine⟨s,t,_,rfl,?_⟩
 by_cases hlt:i<xs.length
 ·obtain⟨x,hx⟩: ∃x,xs[i]?=some x:=⟨_,List.getElem?_eq_getElem hlt⟩
  obtain⟨b,o,ha,c1,c2⟩:=hs.at hx
  obtain⟨b',o',ha',d1,d2⟩:=ht.at hx
  refine aM (by rw [decide_eq_true_eq];omega) ⟨b,o,ha,by omega,by omega,b',o',ha',by omega,by omega,_,by rw [Int.toNat_natCast];exact c1,_,by rw [Int.toNat_natCast];exact c2,_,by rw [Int.toNat_natCast];exact d1,_,by rw [Int.toNat_natCast];exact d2,aC (by simp) ?_⟩
  rw [ay (by omega)]
  exact hn hlt _ _ ⟨rfl,rfl⟩
 ·exact aC (by rw [decide_eq_false_iff_not];omega) k
theorem Qx {h:Hp} {M M':MSl} {m:ah} {R:Value->Hp->Prop} (hs:aO h M m) (ht:aO h M' m) (k:R (.bool true) h):wm #[aQ M,aQ M'] h R:=by
 refine ACalls.drop (LN ?_)
 refine uf_ ?_
 (with_reducible apply Kn.al);(exact Kn.nil h);(intro b12 h1 K1 l1 hb12)
 refine Kn.al K1 fun b14 h2 K2 l2 hb14=>?_
 clear K1
 have hs2:=hs.mono K2.le
 have ht2:=ht.mono K2.le
 have ls:=hs.nodes.len
 have lt:=ht.nodes.len
 refine ap (fun J=>J false h2) ?_ (fun J hJ=>?_)
 rotate_left
 ·repeat' (refine kr_ ?_)
  refine aC (by simp [ls,lt]) ?_
  repeat' (refine kr_ ?_)
  refine FD hs2.inits ht2.inits ⟨_,rfl,aC rfl ?_⟩
  repeat' (refine kr_ ?_)
  refine FD hs2.nexts ht2.nexts ⟨_,rfl,aC rfl ?_⟩
  repeat' (refine kr_ ?_)
  refine wJ hs2.bads ht2.bads ⟨_,rfl,aC rfl ?_⟩
  repeat' (refine kr_ ?_)
  exact wJ hs2.holds ht2.holds ⟨_,rfl,hJ⟩
 refine aC rfl ?_
 have hb:m.nodes.length<=9223372036854775807:=by have:=hs.nodes.1;omega
 refine au m.nodes.length (fun i vs h'=>vs= [.pointer (some ⟨b12,0,none⟩), .pointer (some ⟨b14,0,none⟩),I (i:Nat)]/\h2=h') ⟨rfl,rfl⟩ ?_
 rintro i _ _ next hi ⟨rfl,rfl⟩ hnx
 refine⟨b12,0,b14,0,_,rfl,?_⟩
 repeat' (refine kr_ ?_)
 by_cases hlt:i<m.nodes.length
 rotate_left
 ·exact aC (by rw [decide_eq_false_iff_not];omega) ⟨h,K2.le,k⟩
 obtain⟨n,hn⟩: ∃n,m.nodes[i]?=some n:=⟨_,List.getElem?_eq_getElem hlt⟩
 obtain⟨b,o,ha,c0,c1,c2,c3,c4,c5,c6,c7,c8⟩:=hs2.nodes.at hn
 obtain⟨b',o',ha',d0,d1,d2,d3,d4,d5,d6,d7,d8⟩:=ht2.nodes.at hn
 refine aM (by rw [decide_eq_true_eq];omega) ?_
 repeat' (refine kr_ ?_)
 refine⟨b,o,ha,by omega,by omega,?_⟩
 rw [Int.toNat_natCast]
 refine⟨_,c0,_,c1,_,c2,_,c3,_,c4,_,c5,_,c6,_,c7,_,c8,?_⟩
 repeat' (refine kr_ ?_)
 refine⟨b',o',ha',by omega,by omega,?_⟩
 refine⟨_,d0,_,d1,_,d2,_,d3,_,d4,_,d5,_,d6,_,d7,_,d8,aC (by simp) ?_⟩
 rw [ay (by omega)]
 exact hnx hlt _ _ ⟨rfl,rfl⟩
theorem Kn.growAny {g h:Hp} {A X L:List (Nat×Blk)} {s t:Sl} {sz by_:Nat} {cs news:List Value} {C:Option Addr->Nat->Nat->Hp->Prop}
  (K:Kn g h (A++(X++L))) (o:bR X s sz cs) (hs:SlC h t sz news) (hsz:(s.n+t.n)*by_<=140737488355328) (hsz':s.n+t.n<=9223372036854775807) (ho:news.all (·.oneCell')=true)
  (k: ∀s' X' h',s'.n=s.n+t.n->bR X' s' sz (cs++news)->Kn g h' (A++(X'++L))->C s'.a s'.n s'.c h'):cy h s.a s.n s.c t.a t.n sz by_ C:=by
 by_cases h0:t.n=0
 ·have hc:news= []:=List.eq_nil_of_length_eq_zero (by rw [hs.2.1,h0,Nat.zero_mul])
  subst hc
  exact .inl ⟨h0,o.2.1,k s X h (by omega) (by rw [List.append_nil];exact o) K⟩
 ·obtain⟨b,p,ha,hc⟩:=hs.get (by omega)
  exact Kn.growIn K o (by omega) hsz hsz' ⟨b,p,ha,fun i v hv=>hc i v hv⟩ hs.2.1 ho fun s' X' h' n' o' K' _=>k s' X' h' n' o' K'
theorem N9 (b sz:Nat):bR [(b, .inl ⟨[],0,false⟩)] ⟨some ⟨b,0,none⟩,0,0⟩ sz []:=⟨by simp,Nat.le_refl _, .inr ⟨b,rfl,by simp⟩⟩
theorem Zy {m:ah} (hm:bT m) (b:Bool) (h:m.nodes.length<=60) (hx:m.nexts.length<=60):bT (dm m b):=by
 refine⟨by show (m.nodes++ [EZ]).length<=_;simp;omega,hm.inits,?_,hm.bads,hm.holds,fun n hn=>?_⟩
 ·show (if b then m.nexts++ [_]else m.nexts).length<=_
  cases b
  ·exact hm.nexts
  ·show (m.nexts++ [_]).length<=_
   simp;omega
 ·rcases List.mem_append.1 hn with q|q
  ·exact hm.names n q
  ·rw [List.mem_singleton.1 q];decide
set_option maxHeartbeats 1000000 in
theorem FnBystander_spec {h:Hp} {s t:Sl} {bs cs:List Nat} {R:Value->Hp->Prop} (hcap:s.n<=s.c) (hs:ByteS h s bs) (hcap2:t.n<=t.c) (ht:ByteS h t cs) (k:R (.bool true) h):vC #[s.v,t.v] h R:=by
 refine ACalls.drop (Di ?_)
 refine uf_ ?_
 refine ap (fun J=> ∀c,J c) (fun c=>?_) (fun J hJ=>ad (fun _=>hJ _) (fun _=>hJ _))
 refine ad (fun _=>⟨h,Hp.le_refl _,k⟩) (fun _=>?_)
 refine Ia hcap hs fun h1 M m l1 hM hm hc=>⟨_,_,_,_,_,rfl,?_⟩
 have fin: ∀h' L,Kn h1 h' L-> ∃h'',h''.le h'/\R (.bool true) h'':=fun h' L K=>⟨h,Hp.le_trans l1 K.le,k⟩
 have g:=cD hc
 have hnl:=g.nl
 have hxl:=g.xl
 have hnn:=hM.nodes.len
 have hxn:=hM.nexts.len
 have ht1:=ht.mono l1
 (with_reducible apply Kn.al);(exact Kn.nil h1);(intro b16 h2 K2 l2 hb16)
 refine kw_ ?_
 intro h3 K3 _
 simp only [bX,List.set_cons_zero,List.set_cons_succ,Nat.zero_add,Nat.reduceAdd]at K3
 clear K2
 repeat' (refine kr_ ?_)
 refine Kn.al K3 fun b27 h4 K4 l4 hb27=>?_
 clear K3
 refine kw_ ?_
 intro h5 K5 _
 simp only [bX,List.set_cons_zero,List.set_cons_succ,Nat.zero_add,Nat.reduceAdd]at K5
 clear K4
 refine Kn.al K5 fun b33 h6 K6 l6 hb33=>?_
 clear K5
 repeat' (refine kr_ ?_)
 refine Kn.growAny (s:=⟨some ⟨b33,0,none⟩,0,0⟩) (t:=M.no) (A:= []) (L:= [(b27, .inl ⟨aH M,5,false⟩),(b16, .inl ⟨aH M,5,false⟩)]) K6 (N9 b33 9) (hM.mono K6.le).nodes (by dsimp only;omega) (by dsimp only;omega) (Pf _) fun sN XN h7 hn7 oN K7=>?_
 rw [List.nil_append]at oN K7
 dsimp only at hn7
 clear K6
 replace K7:=K7.perm (List.perm_append_comm (l₁:=XN) (l₂:= [(b27, .inl ⟨aH M,5,false⟩),(b16, .inl ⟨aH M,5,false⟩)]))
 simp only [List.cons_append,List.nil_append]at K7
 refine kw_ ?_
 intro h8 K8 _
 simp only [bX,List.set_cons_zero,List.set_cons_succ,Nat.zero_add,Nat.reduceAdd]at K8
 clear K7
 rw [show (Value.slice sN.a sN.n sN.c)=sN.v from rfl]at K8
 repeat' (refine kr_ ?_)
 refine Kn.al K8 fun b45 h9 K9 l9 hb45=>?_
 clear K8
 refine Kn.growIn (A:= [(b45, .inl ⟨nodeCells EZ,9,false⟩),(b27, .inl ⟨[sN.v,M.ini.v,M.nex.v,M.bad.v,M.hol.v],5,false⟩),(b16, .inl ⟨aH M,5,false⟩)]) (L:= []) (by rw [List.append_nil];exact K9) oN (by omega) (by omega) (by omega) ⟨b45,0,rfl,aw (K9.at (.head _))⟩ rfl rfl fun sN' XN' h10 hn10 oN' K10 _=>?_
 rw [List.append_nil]at K10
 simp only [List.cons_append,List.nil_append]at K10
 clear K9 oN
 refine kw_ ?_
 intro h11 K11 _
 simp only [bX,List.set_cons_zero,List.set_cons_succ,Nat.zero_add,Nat.reduceAdd]at K11
 rw [show (Value.slice sN'.a sN'.n sN'.c)=sN'.v from rfl]at K11
 replace K11:=K11.tl
 clear K10
 refine Bw (i:=0) (ht1.mono K11.le) (by omega) fun x hx=>⟨_,rfl,?_⟩
 refine ap (fun J=> ∀(b:Bool) (sE:Sl) (XE:List (Nat×Blk)) h',Kn h1 h' ((b27, .inl ⟨[sN'.v,M.ini.v,sE.v,M.bad.v,M.hol.v],5,false⟩)::(b16, .inl ⟨aH M,5,false⟩)::(XN'++XE))->iH h' sE (dm m b).nexts->J h') (fun b sE XE h12 K12 iE=>?_) (fun J hJ=>?_)
 rotate_left
 ·refine ad (fun _=>?_) (fun _=>hJ false M.nex [] h11 (by rw [List.append_nil];exact K11) (hM.mono K11.le).nexts)
  refine Kn.al K11 fun b60 h12 K12 l12 hb60=>?_
  clear K11
  repeat' (refine kr_ ?_)
  refine Kn.growAny (s:=⟨some ⟨b60,0,none⟩,0,0⟩) (t:=M.nex) (A:= []) (L:=(b27, .inl ⟨[sN'.v,M.ini.v,M.nex.v,M.bad.v,M.hol.v],5,false⟩)::(b16, .inl ⟨aH M,5,false⟩)::XN') K12 (N9 b60 2) (hM.mono K12.le).nexts (by dsimp only;omega) (by dsimp only;omega) (OG _) fun sE XE h13 hn13 oE K13=>?_
  rw [List.nil_append]at oE K13
  dsimp only at hn13
  clear K12
  replace K13:=K13.perm (List.perm_append_comm (l₁:=XE))
  simp only [List.cons_append,List.nil_append]at K13
  refine kw_ ?_
  intro h14 K14 _
  simp only [bX,List.set_cons_zero,List.set_cons_succ,Nat.zero_add,Nat.reduceAdd]at K14
  clear K13
  rw [show (Value.slice sE.a sE.n sE.c)=sE.v from rfl]at K14
  repeat' (refine kr_ ?_)
  rw [hnn]
  refine Kn.al K14 fun b74 h15 K15 l15 hb74=>?_
  clear K14
  refine Kn.growIn (A:=(b74, .inl ⟨bindCells ⟨m.nodes.length,m.nodes.length⟩,2,false⟩)::(b27, .inl ⟨[sN'.v,M.ini.v,sE.v,M.bad.v,M.hol.v],5,false⟩)::(b16, .inl ⟨aH M,5,false⟩)::XN') (L:= []) (by rw [List.append_nil];exact K15) oE (by omega) (by omega) (by omega) ⟨b74,0,rfl,aw (K15.at (.head _))⟩ rfl rfl fun sE' XE' h16 hn16 oE' K16 _=>?_
  rw [List.append_nil]at K16
  simp only [List.cons_append,List.nil_append]at K16
  clear K15 oE
  refine kw_ ?_
  intro h17 K17 _
  simp only [bX,List.set_cons_zero,List.set_cons_succ,Nat.zero_add,Nat.reduceAdd]at K17
  rw [show (Value.slice sE'.a sE'.n sE'.c)=sE'.v from rfl]at K17
  replace K17:=K17.tl
  refine hJ true sE' XE' h17 K17 ?_
  show SlC h17 sE' 2 ((m.nexts++ [(⟨m.nodes.length,m.nodes.length⟩:BindP)]).flatMap bindCells)
  rw [List.flatMap_append]
  exact oE'.slcOf (by omega) fun e he=>K17.mem e (.tail _ (.tail _ (List.mem_append_right _ he)))
 clear K11
 have iN:gD h12 sN' (m.nodes++ [EZ]):=by
  show SlC h12 sN' 9 _
  rw [List.flatMap_append]
  exact oN'.slcOf (by omega) fun e he=>K12.mem e (.tail _ (.tail _ (List.mem_append_left _ he)))
 have hMb:=hM.mono K12.le
 have hX:aO h12 ⟨sN',M.ini,sE,M.bad,M.hol⟩ (dm m b):=⟨iN,hMb.inits,iE,hMb.bads,hMb.holds,oN'.2.1⟩
 have smX:=Zy hm b hnl hxl
 clear iN oN' iE
 repeat' (refine kr_ ?_)
 refine cj (M:=⟨sN',M.ini,sE,M.bad,M.hol⟩) hX smX ⟨_,rfl,ad (fun _=>fin _ _ K12) (fun e=>?_)⟩
 have hcx:=fY e
 have gx:=cD hcx
 have hd:=Xn g gx
 repeat' (refine kr_ ?_)
 refine pX (M:=⟨sN',M.ini,sE,M.bad,M.hol⟩) hX smX ⟨_,rfl,?_⟩
 repeat' (refine kr_ ?_)
 refine pX (M:=M) hMb hm ⟨_,rfl,?_⟩
 rw [if_pos hc,if_pos hcx,hd]
 refine aM (by simp) ?_
 repeat' (refine kr_ ?_)
 refine pX (M:=⟨sN',M.ini,sE,M.bad,M.hol⟩) hX smX ⟨_,rfl,?_⟩
 repeat' (refine kr_ ?_)
 refine D5 (M:=M) hMb hm ⟨_,rfl,?_⟩
 rw [if_pos hc,if_pos hcx,hd]
 refine aM (by simp) ?_
 repeat' (refine kr_ ?_)
 refine uo (M:=⟨sN',M.ini,sE,M.bad,M.hol⟩) hX smX fun C1 h13 l13 hC1=>⟨_,_,_,_,_,rfl,?_⟩
 have K13:=K12.mono l13
 repeat' (refine kr_ ?_)
 refine ko (M:=M) (hMb.mono l13) hm fun C2 h14 l14 hC2=>⟨_,_,_,_,_,rfl,?_⟩
 have eC:iW (dm m b)=iW m:=by
  unfold iW
  rw [if_pos hcx,if_pos hc,aa2 g b]
 rw [eC]at hC1
 refine Qx (M:=C1) (M':=C2) (hC1.mono l14) hC2 ⟨_,rfl,?_⟩
 exact fin _ _ (K13.mono l14)
end Go.Lead
