/- What functions of the program and of the reference come to, walked one by one, and plain laws about it: part 4. No condition is added to the statement. -/
import Derived.Test.YthfcbpocfmjefaaGreatZ2
namespace Go.Lead
open Go
set_option linter.unusedSimpArgs false
set_option linter.unusedVariables false
set_option maxRecDepth 100000
set_option maxHeartbeats 1000000
def TrG (h h':Hp) (sS sI:Sl) (l:List (Nat×Nat)):Prop:=
 ∃XS XI,bT XS sS 1 ((VL (l.map Prod.fst)).map I)/\bT XI sI 1 ((VL (l.map Prod.snd)).map I)/\Kn h h' (XS++(XI++ []))
theorem Qe {h g h1 h5:Hp} {b6 b73:Nat} {y:Blk} {sS sI:Sl} {XS XI:List (Nat×Blk)} {pre:List (Nat×Nat)} (lg:h.le g) (h6:g b6≠none) (oS:bT XS sS 1 ((VL (pre.map Prod.fst)).map I)) (oI:bT XI sI 1 ((VL (pre.map Prod.snd)).map I))
  (K:Kn g h1 ((b73,y)::(XS++(XI++ [])))) (l5:h.le h5) (kp: ∀c,c≠b6->h5 c=h1 c):TrG h h5 sS sI pre:=by
 refine⟨XS,XI,oS,oI,l5,fun e he=>?_,fun e he=>aG lg (K.new e (.tail _ he)),?_⟩
 ·have hne:e.1≠b6:=by
   intro e6
   have h1:=K.new e (.tail _ he)
   rw [e6]at h1;exact h6 h1
  rw [kp _ hne];exact K.mem e (.tail _ he)
 ·have nd:=K.nd
  rw [List.map_cons,List.nodup_cons]at nd
  exact nd.2
theorem TrG.nil {h h':Hp} (l:h.le h'):TrG h h' ⟨none,0,0⟩ ⟨none,0,0⟩ []:=⟨[], [],cF 1,cF 1,Kn.of l⟩
theorem TrG.up {h g h1 h5:Hp} {b6:Nat} {sS sI:Sl} {l:List (Nat×Nat)} (t:TrG g h1 sS sI l) (lg:h.le g) (h6:g b6≠none) (l5:h.le h5) (kp: ∀c,c≠b6->h5 c=h1 c):TrG h h5 sS sI l:=by
 obtain⟨XS,XI,oS,oI,K⟩:=t
 refine⟨XS,XI,oS,oI,l5,fun e he=>?_,fun e he=>aG lg (K.new e he),K.nd⟩
 have hne:e.1≠b6:=by
  intro e6
  have h1:=K.new e he
  rw [e6]at h1;exact h6 h1
 rw [kp _ hne];exact K.mem e he
theorem TrG.tr {h h':Hp} {sS sI:Sl} {l:List (Nat×Nat)} (t:TrG h h' sS sI l) (hl:l.length<=1000000):TrX h h' sS sI l:=by
 obtain⟨XS,XI,oS,oI,K⟩:=t
 have h1:=oS.1
 have h2:=oI.1
 simp only [List.length_map,aX,Nat.mul_one]at h1 h2
 obtain⟨XS',oS',K6⟩:=oS.toOwn (by omega) (A:= []) (L:=XI++ []) K
 obtain⟨XI',oI',K7⟩:=oI.toOwn (by omega) (A:=XS') (L:= []) K6
 rw [List.append_nil]at K7
 exact⟨XS',XI',oS',oI',K7⟩
set_option maxHeartbeats 1000000 in
theorem Fw {h:Hp} {q:F3} {σ:aL} {d:Nat} {R:Value->Hp->Prop} (hq:FS h q σ) (ok:σ.Ok) (hd:d<=256) (hw: ∃s,s<2^σ.n/\(σ.begins s&&σ.ahead d s)=true)
  (k: ∀sS sI h',TrG h h' sS sI (σ.wit d σ.begins)->R (.agg #[Sl.v sS,Sl.v sI]) h'):pD #[NC σ q,I d] h R:=by
 apply HX
 refine uf_ ?_
 have hn:=mO ok
 have K0:=Kn.nil h
 (with_reducible apply Kn.al);(assumption);(intro b10 h1 K1 l1 hb10)
 (with_reducible apply Kn.al);(assumption);(intro b12 h2 K2 l2 hb12)
 repeat' (refine kr_ ?_)
 refine Mz (hq.mono K2.le) ok hd fun w h3 l3 hL=>⟨_,rfl,?_⟩
 have hq3:=hq.mono (Hp.le_trans K2.le l3)
 have f10:=l3 _ _ (K2.at (.tail _ (.head _)))
 have f12:=l3 _ _ (K2.at (.head _))
 have hwl:=hL.len
 obtain⟨hs0,hfit,hno⟩:=aL.leastB_at hw
 have hW0:aL.leastB (2^σ.n) (fun s=>σ.begins s&&σ.ahead d s)=tt σ d σ.begins:=rfl
 rw [hW0]at hs0 hfit hno
 clear hW0
 have hS0:tt σ d σ.begins=tt σ d σ.begins:=rfl
 generalize hse:tt σ d σ.begins=s0 at hs0 hfit hno
 clear hS0
 refine au s0 (fun s vs h'=>vs= [I d, .pointer (some ⟨b10,0,none⟩), .pointer (some ⟨b12,0,none⟩),w.v,I s]/\h3=h') ⟨rfl,rfl⟩ ?_
 rintro s _ _ nxt hs ⟨rfl,rfl⟩ hnx
 refine⟨_,b10,0,b12,0,w,_,rfl,?_⟩
 have K3:=Kn.nil h3
 refine ap (fun J=>J (!(σ.begins s&&σ.ahead d s))) ?_ (fun J hJ=>?_)
 rotate_left
 ·(refine kr_ ?_)
  obtain⟨b,o,ha,e1,e2⟩:=hq3.2.2.2.2.get (show s<2^σ.n by omega)
  refine⟨b,o,ha,by omega,e1,_,e2,?_⟩
  refine ad (fun e=>?_) (fun e=>?_)
  ·rw [show σ.begins s=false by simpa using e]at hJ;exact hJ
  ·rw [show σ.begins s=true by simpa using e,Bool.true_and]at hJ
   obtain⟨bl,ol,r,ha,h3',h4',hr⟩:=hL.get (show d<d+1 by omega)
   refine⟨bl,ol,ha,by omega,by omega,r,h4',?_⟩
   obtain⟨br,or,har,hr1,hr2⟩:=hr.get (show s<2^σ.n by omega)
   exact⟨br,or,har,by omega,hr1,_,hr2,hJ⟩
 by_cases hlt:s<s0
 ·refine aM (by rw [hno s hlt];rfl) ?_
  rw [ay (by omega)]
  exact hnx hlt _ _ ⟨rfl,rfl⟩
 obtain rfl:s=s0:=by omega
 refine aC (by rw [hfit];rfl) ?_
 clear hnx hlt hs K3
 (with_reducible apply Kn.al);(exact Kn.nil h3);(intro b54 h4 K4 l4 hb54)
 refine nr (d+1) (fun m vs h'=> ∃(pre:List (Nat×Nat)) (cur:Nat) (fits:Nat->Bool) (sS sI:Sl) (XS XI:List (Nat×Blk)),
  vs= [.pointer (some ⟨b10,0,none⟩), .pointer (some ⟨b12,0,none⟩),w.v,I cur, .pointer (some ⟨b54,0,none⟩),I ((m:Int)-1)]/\Kn h3 h' ((b54, .inl ⟨[sS.v,sI.v],2,false⟩)::(XS++(XI++ [])))/\
  bT XS sS 1 ((VL (pre.map Prod.fst)).map I)/\bT XI sI 1 ((VL (pre.map Prod.snd)).map I)/\pre.length+m=d+1/\(m=0->pre=σ.wit d σ.begins)/\
  ∀k',m=k'+1->cur=tt σ k' fits/\pre++σ.wit k' fits=σ.wit d σ.begins/\ ∃s,s<2^σ.n/\(fits s&&σ.ahead k' s)=true)
  ⟨[],s,σ.begins,⟨none,0,0⟩,⟨none,0,0⟩, [], [],by rw [show (((d+1:Nat):Int)-1)=d by omega],K4,cF 1,cF 1,by simp,
   fun e=>by omega,fun k' e=>by obtain rfl:k'=d:=by omega
                                exact⟨hse.symm,rfl,hw⟩⟩ ?_
 clear K4 l4 hb54 h4
 rintro m _ h4 nxt ⟨pre,cur,fits,sS,sI,XS,XI,rfl,K,oS,oI,hpl,hz,hsc⟩ hnx
 refine⟨b10,0,b12,0,w,_,b54,0,_,rfl,?_⟩
 have hpl1:=oS.1
 have hpl2:=oI.1
 simp only [List.length_map,aX,Nat.mul_one]at hpl1 hpl2
 cases m with
 |zero=>
  refine aC (by rw [decide_eq_false_iff_not];omega) ?_
  (refine kr_ ?_)
  (refine kr_ ?_)
  have K2':=K2.mono (Hp.le_trans l3 K.le)
  (with_reducible apply Kn.wr);(exact K2');((focus ((repeat first|exact .head|apply Upd.tail);done)))
  ·exact Nat.le_refl _
  intro h5 K5 kp
  refine⟨sS,by rw [ax (K5.at (.head _))];rfl,sI,by rw [ax (K5.at (.head _))];rfl,?_⟩
  refine k sS sI h5 ?_
  rw [<-hz rfl]
  exact Qe (Hp.le_trans K2.le l3) (by rw [f12];simp) oS oI K K5.le kp
 |succ k=>
 rename_i kf
 obtain⟨rfl,hwit,hex⟩:=hsc k rfl
 have hk1:(((k+1:Nat):Int)-1)=k:=by omega
 rw [hk1]
 refine aM (by rw [decide_eq_true_eq];omega) ?_
 obtain⟨hc0,hcf,_⟩:=aL.leastB_at hex
 rw [show aL.leastB (2^σ.n) (fun s=>fits s&&σ.ahead k s)=tt σ k fits from rfl]at hc0 hcf
 rw [Bool.and_eq_true]at hcf
 obtain⟨hx0,hon,_⟩:=aL.leastB_at (aL.ahead_on.1 hcf.2)
 rw [show aL.leastB (2^σ.k) (fun x=>σ.onB k (σ.at_ (tt σ k fits) x))=Fp σ k (tt σ k fits)from rfl]at hx0 hon
 repeat' (refine kr_ ?_)
 refine UC (hq3.mono K.le) ok hc0 (hL.mono K.le) (by omega) (by omega) hcf.2 ⟨_,_,rfl,?_⟩
 (refine kr_ ?_)
 refine Kn.al K fun b87 h6 K6 l6 hb87=>?_
 have f87:=K6.at (.head _)
 refine Kn.growIn (A:= [_,_]) K6 oS (by omega) (by omega) (by omega) ⟨b87,0,rfl,aw f87⟩ rfl rfl fun sS' XS' h7 hnS oS' K7 l7=>?_
 simp only [List.cons_append,List.nil_append]at K7
 clear K6 l6 hb87 f87 K
 (((with_reducible apply Kn.wr);(assumption);((focus ((repeat first|exact .head|apply Upd.tail);done)))))
 ·simp
 intro h8 K8 _
 simp only [bG,List.set_cons_zero,List.set_cons_succ,Nat.zero_add,Nat.reduceAdd]at K8
 clear K7 l7
 (refine kr_ ?_)
 refine Kn.al K8 fun b98 h9 K9 l9 hb98=>?_
 have f98:=K9.at (.head _)
 refine Kn.growIn2 (A:= [_,_,_]) K9 oI (by omega) (by omega) (by omega) ⟨b98,0,rfl,aw f98⟩ rfl rfl fun sI' XI' h10 hnI oI' K10 l10=>?_
 simp only [List.cons_append,List.nil_append]at K10
 clear K9 l9 hb98 f98 K8
 (((with_reducible apply Kn.wr);(assumption);((focus ((repeat first|exact .head|apply Upd.tail);done)))))
 ·simp
 intro h11 K11 _
 simp only [bG,List.set_cons_zero,List.set_cons_succ,Nat.zero_add,Nat.reduceAdd]at K11
 clear K10 l10
 have nd:=K11.nd
 have KS:Kn h3 h11 ((b54, .inl ⟨[sS'.v,sI'.v],2,false⟩)::(XS'++(XI'++ []))):=by
  refine K11.sub (fun e he=> .tail _ (.tail _ he)) ?_
  simp only [List.map_cons,List.nodup_cons]at nd⊢
  exact nd.2.2
 rw [cd (by omega) (by omega)]
 refine hnx k (by omega) _ _ ⟨pre++ [(tt σ k fits,Fp σ k (tt σ k fits))],_,σ.goes (σ.at_ (tt σ k fits) (Fp σ k (tt σ k fits))),sS',sI',XS',XI',rfl,KS,by simpa [VL] using oS',by simpa [VL] using oI',by simp;omega,fun e=>?_,fun k' e=>⟨?_,?_,?_⟩⟩
 ·subst e;exact hwit
 ·subst e;rw [if_neg (by omega)];rfl
 ·subst e;rw [<-hwit,Rj,List.append_assoc];rfl
 ·subst e
  exact aL.onB_next hon
def tR (m:ah) (x:Int):List (Nat×Nat):=match (aZ m).depth with|some d=>if aF m=0/\(d:Int)<=x then(aZ m).wit d (aZ m).begins else []|none=> []
def wV (m:ah) (x:Int):Bool:=match (aZ m).depth with|some d=>decide (aF m=0/\(d:Int)<=x)|none=>false
theorem Or {m:ah} {x:Int} (h: ¬(aF m=0/\0<=(aZ m).depthI/\(aZ m).depthI<=x)):tR m x= []/\wV m x=false:=by
 unfold tR wV
 unfold aL.depthI at h
 cases hd:(aZ m).depth with
 |none=>exact⟨rfl,rfl⟩
 |some d=>
  rw [hd]at h
  have: ¬(aF m=0/\(d:Int)<=x):=fun q=>h ⟨q.1,Int.natCast_nonneg _,q.2⟩
  exact⟨if_neg this,decide_eq_false this⟩
theorem Ln {m:ah} {x:Int} (h:aF m=0/\0<=(aZ m).depthI/\(aZ m).depthI<=x): ∃d,(aZ m).depth=some d/\(aZ m).depthI=d/\tR m x=(aZ m).wit d (aZ m).begins/\wV m x=true:=by
 unfold tR wV
 unfold aL.depthI at h⊢
 cases hd:(aZ m).depth with
 |none=>rw [hd]at h;exact absurd (show (0:Int)<= -1 from h.2.1) (by decide)
 |some d=>
  rw [hd]at h
  have:aF m=0/\(d:Int)<=x:=⟨h.1,h.2.2⟩
  exact⟨d,rfl,rfl,if_pos this,decide_eq_true this⟩
abbrev A0 (sS sI:Sl) (b:Bool):Value:= .tuple #[.agg #[sS.v,sI.v], .bool b]
theorem TrX.nil {h h':Hp} (l:h.le h'):TrX h h' ⟨none,0,0⟩ ⟨none,0,0⟩ []:=⟨[], [],⟨rfl,by simp, .inl ⟨rfl,rfl⟩⟩,⟨rfl,by simp, .inl ⟨rfl,rfl⟩⟩,Kn.of l⟩
theorem Ef {σ:aL} (ok:σ.Ok) {d:Nat} (h:σ.depth=some d):d<=256:=by
 have h1:=aL.depth_lt h
 have h2:=aL.nLay_le σ
 have h3:=mO ok
 omega
theorem TrX.up {h g h1 h5:Hp} {b6:Nat} {sS sI:Sl} {l:List (Nat×Nat)} (t:TrX g h1 sS sI l) (lg:h.le g) (h6:g b6≠none) (l5:h.le h5) (kp: ∀c,c≠b6->h5 c=h1 c):TrX h h5 sS sI l:=by
 obtain⟨XS,XI,oS,oI,K⟩:=t
 refine⟨XS,XI,oS,oI,l5,fun e he=>?_,fun e he=>aG lg (K.new e he),K.nd⟩
 have hne:e.1≠b6:=by
  intro e6
  have h1:=K.new e he
  rw [e6]at h1;exact h6 h1
 rw [kp _ hne];exact K.mem e he
theorem TrX.mono {h h1 h2:Hp} {sS sI:Sl} {l:List (Nat×Nat)} (t:TrX h h1 sS sI l) (l12:h1.le h2):TrX h h2 sS sI l:=by
 obtain⟨XS,XI,oS,oI,K⟩:=t
 exact⟨XS,XI,oS,oI,K.mono l12⟩
theorem mu.slcOf {X:List (Nat×Blk)} {h:Hp} {s:Sl} {sz:Nat} {cs:List Value} (o:mu X s sz cs) (m: ∀e∈X,h e.1=some e.2):SlC h s sz cs:=by
 refine⟨o.2.1,o.1,?_⟩
 rcases o.2.2 with ⟨h0,_⟩|⟨_,b,z,ha,rfl⟩
 ·exact .inl h0
 ·exact .inr ⟨b,0,ha,aw (m _ (.head _))⟩
theorem TrX.ints {h h1:Hp} {sS sI:Sl} {l:List (Nat×Nat)} (t:TrX h h1 sS sI l):IntS h1 sS (VL (l.map Prod.fst))/\IntS h1 sI (VL (l.map Prod.snd)):=by
 obtain⟨XS,XI,oS,oI,K⟩:=t
 exact⟨oS.slcOf fun e he=>K.mem e (List.mem_append_left _ he),oI.slcOf fun e he=>K.mem e (List.mem_append_right _ he)⟩
theorem Ab {h g:Hp} {sS sI:Sl} {l:List (Nat×Nat)} {R:Value->Hp->Prop} (t:TrX g h sS sI l) (hl:l.length<=1048576)
  (k: ∀sS sI h',TrX h h' sS sI l->sS.n<=sS.c->R (.agg #[Sl.v sS,Sl.v sI]) h'):lm #[.agg #[sS.v,sI.v]] h R:=by
 apply DB
 refine uf_ ?_
 obtain⟨iS,iI⟩:=t.ints
 have K0:=Kn.nil h
 (with_reducible apply Kn.al);(assumption);(intro b4 h1 K1 l1 hb4)
 (with_reducible apply Kn.al);(assumption);(intro b6 h2 K2 l2 hb6)
 repeat' (refine kr_ ?_)
 refine kO (iS.mono K2.le) (by simp [VL];omega) fun tS h3 l3 bS=>⟨_,rfl,?_⟩
 have K3:=K2.mono l3
 repeat' (refine kr_ ?_)
 refine kO (iI.mono K3.le) (by simp [VL];omega) fun tI h4 l4 bI=>⟨_,rfl,?_⟩
 have K4:=K3.mono l4
 (((with_reducible apply Kn.wr);(assumption);((focus ((repeat first|exact .head|apply Upd.tail);done)))))
 ·exact Nat.le_refl _
 intro h5 K5 kp
 refine⟨tS,by rw [ax (K5.at (.head _))];rfl,tI,by rw [ax (K5.at (.head _))];rfl,?_⟩
 have nS:tS.n<=1048576:=by have:=bS.1;simp [VL]at this;omega
 have nI:tI.n<=1048576:=by have:=bI.1;simp [VL]at this;omega
 obtain⟨XS,oS,KS⟩:=(Kn.nil h2).addOwn l3 (bS.own (by omega))
 obtain⟨XI,oI,KI⟩:=KS.addOwn l4 (bI.own (by omega))
 rw [List.nil_append]at KI
 exact k tS tI h5 (TrX.up ⟨XS,XI,oS,oI,KI⟩ K2.le (by rw [K2.at (.head _)];simp) K5.le kp) bS.2.1
theorem w9 {h:Hp} {M:MSl} {m:ah} {x:Int} {R:Value->Hp->Prop} (hs:aO h M m) (hm:bR m)
  (k: ∀sS sI h',TrG h h' sS sI (tR m x)->R (A0 sS sI (wV m x)) h'):pM #[aQ M,I x] h R:=by
 apply Io
 refine uf_ ?_
 have K0:=Kn.nil h
 (with_reducible apply Kn.al);(assumption);(intro b8 h1 K1 l1 hb8)
 (with_reducible apply Kn.al);(assumption);(intro b10 h2 K2 l2 hb10)
 repeat' (refine kr_ ?_)
 refine cj (hs.mono K2.le) hm ⟨_,rfl,?_⟩
 refine ad (fun e=>?_) (fun e=>?_)
 ·obtain⟨e1,e2⟩:=Or (m:=m) (x:=x) fun q=>iW e q.1
  rw [e1,e2]at k
  (((with_reducible apply Kn.wr);(assumption);((focus ((repeat first|exact .head|apply Upd.tail);done)))))
  ·exact Nat.le_refl _
  intro h3 K3 _
  refine⟨⟨none,0,0⟩,by rw [ax (K3.at (.head _))];rfl,⟨none,0,0⟩,by rw [ax (K3.at (.head _))];rfl,?_⟩
  exact k ⟨none,0,0⟩ ⟨none,0,0⟩ h3 (TrG.nil K3.le)
 have hc:=fZ e
 have ok:=yE (cD hc)
 repeat' (refine kr_ ?_)
 refine La (hs.mono K2.le) hm hc fun q h3 l3 hq=>⟨_,_,_,_,_,_,_,rfl,?_⟩
 have K3:=K2.mono l3
 refine Kn.al K3 fun b43 h4 K4 l4 hb43=>?_
 refine kw_ ?_
 intro h5 K5 kp5
 simp only [bX,List.set_cons_zero,List.set_cons_succ,Nat.zero_add,Nat.reduceAdd]at K5
 have hq5:=hq.mono (im hb43 l4 kp5)
 clear K4 K3 kp5
 repeat' (refine kr_ ?_)
 refine CT hq5 ok ⟨_,rfl,?_⟩
 refine ap (fun J=>J (decide (¬(0<=(aZ m).depthI/\(aZ m).depthI<=x)))) ?_ (fun J hJ=>?_)
 rotate_left
 ·refine ad (fun e=>?_) (fun e=>?_)
  ·rw [show decide (¬(0<=(aZ m).depthI/\(aZ m).depthI<=x))=true from by rw [decide_eq_true_eq]at e⊢;omega]at hJ;exact hJ
  ·rw [show decide (¬(0<=(aZ m).depthI/\(aZ m).depthI<=x))=decide ((aZ m).depthI>x)from by rw [decide_eq_false_iff_not]at e;rw [Bool.eq_iff_iff,decide_eq_true_eq,decide_eq_true_eq];omega]at hJ;exact hJ
 refine ad (fun e=>?_) (fun e=>?_)
 ·obtain⟨e1,e2⟩:=Or (m:=m) (x:=x) fun q=>(of_decide_eq_true e) q.2
  rw [e1,e2]at k
  refine kw_ ?_
  intro h6 K6 _
  refine⟨⟨none,0,0⟩,by rw [ax (K6.at (.tail _ (.head _)))];rfl,⟨none,0,0⟩,by rw [ax (K6.at (.tail _ (.head _)))];rfl,?_⟩
  exact k ⟨none,0,0⟩ ⟨none,0,0⟩ h6 (TrG.nil K6.le)
 have e':=Decidable.not_not.1 (of_decide_eq_false e)
 obtain⟨d,hd,hdI,e1,e2⟩:=Ln ⟨hc,e'⟩
 rw [e1,e2]at k
 rw [hdI]
 repeat' (refine kr_ ?_)
 refine Fw hq5 ok (Ef ok hd) (aL.wit_begins hd) fun sS sI h6 t6=>⟨_,_,rfl,?_⟩
 have l56:h5.le h6:=by obtain⟨_,_,_,_,K6⟩:=t6;exact K6.le
 have K6:=K5.mono l56
 have f10:=K5.at (.tail _ (.head _))
 refine kw_ ?_
 intro h7 K7 kp
 refine⟨sS,by rw [ax (K7.at (.tail _ (.head _)))];rfl,sI,by rw [ax (K7.at (.tail _ (.head _)))];rfl,?_⟩
 exact k sS sI h7 (t6.up K5.le (by rw [f10];simp) K7.le kp)
theorem PA (m:ah) (x:Int):(tR m x).length<=257:=by
 unfold tR
 cases hd:(aZ m).depth with
 |none=>exact Nat.zero_le _
 |some d=>
  dsimp only
  split
  ·rename_i e
   rw [IQ]
   have:=Ef (yE (cD e.1)) hd
   omega
  ·exact Nat.zero_le _
theorem TrX.le {h h':Hp} {sS sI:Sl} {l:List (Nat×Nat)} (t:TrX h h' sS sI l):h.le h':=by obtain⟨_,_,_,_,K⟩:=t;exact K.le
section
variable {g h:Hp} {L XS XI:List (Nat×Blk)} {sS sI tS tI:Sl} {xs ys:List Int} {cS cI:List Value} {k0:Int} {R:Value->Hp->Prop}
end
abbrev rdC (s:Sl) (p:Nat):Blk:= .inl ⟨[s.v,I p],2,false⟩
theorem WP {g h:Hp} {L L':List (Nat×Blk)} {B p:Nat} {s:Sl} {bs:List Nat} {n:Int} {R:Value->Hp->Prop} (K:Kn g h L) (hb:ByteS g s bs) (u:Upd L B (rdC s p) (rdC s (p+1)) L') (hp:p<=1000000) (hn:n<=1000000000)
  (k: ∀(x:Nat) h',Kn g h' L'->(1<=n->(x:Int)<n)->(n<1->x=0)->R (I x) h'):am #[.pointer (some ⟨B,0,none⟩),I n] h R:=
 FO ⟨K.at u.mem,hb.mono (zx (K.new (B,_) u.mem) K.le)⟩ (by omega) hn fun x h1 h2=>k x _ (K.set u) h1 h2
theorem kp_ {P Q:Prop} (k:Q) (h:Q->P:=by((with_reducible apply WP);(assumption);(assumption);(((focus ((repeat first|exact .head|apply Upd.tail);done))));(omega);(omega))):P:=h k
def MG (X:List (Nat×Blk)) (M:MSl) (m:ah):Prop:=
 ∃XN XI XE XB XH,X=XN++(XI++(XE++(XB++(XH++ []))))/\bT XN M.no 9 (m.nodes.flatMap nodeCells)/\bT XI M.ini 2 (m.inits.flatMap bindCells)/\bT XE M.nex 2 (m.nexts.flatMap bindCells)/\
  bT XB M.bad 1 (m.bads.map I)/\bT XH M.hol 1 (m.holds.map I)
abbrev noM :MSl:=⟨⟨none,0,0⟩,⟨none,0,0⟩,⟨none,0,0⟩,⟨none,0,0⟩,⟨none,0,0⟩⟩
abbrev noP :ah:=⟨[], [], [], [], []⟩
theorem MG.nil :MG [] noM noP:=⟨[], [], [], [], [],rfl,cF 9,cF 2,cF 2,cF 1,cF 1⟩
section
variable {g h:Hp} {A X:List (Nat×Blk)} {M:MSl} {m:ah}
theorem bT.slcOf {X:List (Nat×Blk)} {s:Sl} {sz:Nat} {cs:List Value} (o:bT X s sz cs) (hn:s.n<=9223372036854775807) (m: ∀e∈X,h e.1=some e.2):SlC h s sz cs:=(o.buf m).slc_of hn
theorem MG.lens (o:MG X M m):M.no.n=m.nodes.length/\M.ini.n=m.inits.length/\M.nex.n=m.nexts.length/\M.bad.n=m.bads.length/\M.hol.n=m.holds.length/\M.no.n<=M.no.c:=by
 obtain⟨XN,XI,XE,XB,XH,_,a,b,c,d,e⟩:=o
 have h1:=a.1;have h2:=b.1;have h3:=c.1;have h4:=d.1;have h5:=e.1;have h6:=a.2.1
 rw [ck (m:=9) (fun _=>rfl)]at h1
 rw [ck (m:=2) (fun _=>rfl)]at h2 h3
 rw [List.length_map]at h4 h5
 omega
theorem MG.blk (o:MG X M m) (hn:0<m.nodes.length): ∃b x,M.no.a=some ⟨b,0,none⟩/\(b,x)∈X:=by
 have hl:=o.lens
 obtain⟨XN,XI,XE,XB,XH,rfl,a,_⟩:=o
 rcases a.2.2 with ⟨_,h0,_⟩|⟨b,ha,rfl⟩
 ·rw [h0]at hl;have:=hl.1;dsimp only at this;omega
 ·exact⟨b,_,ha,List.mem_append_left _ (.head _)⟩
theorem MG.modelS (o:MG X M m) (hm:bR m) (K:Kn g h (A++X)):aO h M m:=by
 have hl:=o.lens
 have hm':=hm.nodes;have h2:=hm.inits;have h3:=hm.nexts;have h4:=hm.bads;have h5:=hm.holds
 obtain⟨XN,XI,XE,XB,XH,rfl,a,b,c,d,e⟩:=o
 have mem: ∀x∈XN++(XI++(XE++(XB++(XH++ [])))),h x.1=some x.2:=fun x hx=>K.mem x (List.mem_append_right _ hx)
 refine⟨a.slcOf (by omega) fun x hx=>mem x (by simp [hx]),b.slcOf (by omega) fun x hx=>mem x (by simp [hx]),c.slcOf (by omega) fun x hx=>mem x (by simp [hx]),
  d.slcOf (by omega) fun x hx=>mem x (by simp [hx]),e.slcOf (by omega) fun x hx=>mem x (by simp [hx]),hl.2.2.2.2.2⟩
theorem MG.appN {b:Nat} {n:NodeP} {C:Option Addr->Nat->Nat->Hp->Prop} (o:MG X M m) (K:Kn g h (A++X)) (hm:m.nodes.length<=100000) (f:h b=some (.inl ⟨nodeCells n,9,false⟩))
  (k: ∀s' X' h',MG X' {M with no:=s'} {m with nodes:=m.nodes++ [n]}->Kn g h' (A++X')->C s'.a s'.n s'.c h'):cy h M.no.a M.no.n M.no.c (some ⟨b,0,none⟩) 1 9 80 C:=by
 have hl:=o.lens
 obtain⟨XN,XI,XE,XB,XH,rfl,a,b',c,d,e⟩:=o
 refine Kn.growIn K a (by omega) (by omega) (by omega) ⟨b,0,rfl,aw f⟩ rfl rfl fun s' X' h' hn a' K' _=>?_
 exact k s' _ h' ⟨X',XI,XE,XB,XH,rfl,by rw [List.flatMap_append];exact a',b',c,d,e⟩ K'
theorem MG.appI {b:Nat} {n:BindP} {C:Option Addr->Nat->Nat->Hp->Prop} (o:MG X M m) (K:Kn g h (A++X)) (hm:m.inits.length<=100000) (f:h b=some (.inl ⟨bindCells n,2,false⟩))
  (k: ∀s' X' h',MG X' {M with ini:=s'} {m with inits:=m.inits++ [n]}->Kn g h' (A++X')->C s'.a s'.n s'.c h'):cy h M.ini.a M.ini.n M.ini.c (some ⟨b,0,none⟩) 1 2 16 C:=by
 have hl:=o.lens
 obtain⟨XN,XI,XE,XB,XH,rfl,a,b',c,d,e⟩:=o
 refine Kn.growIn2 K b' (by omega) (by omega) (by omega) ⟨b,0,rfl,aw f⟩ rfl rfl fun s' X' h' hn a' K' _=>?_
 exact k s' _ h' ⟨XN,X',XE,XB,XH,rfl,a,by rw [List.flatMap_append];exact a',c,d,e⟩ K'
theorem MG.appE {b:Nat} {n:BindP} {C:Option Addr->Nat->Nat->Hp->Prop} (o:MG X M m) (K:Kn g h (A++X)) (hm:m.nexts.length<=100000) (f:h b=some (.inl ⟨bindCells n,2,false⟩))
  (k: ∀s' X' h',MG X' {M with nex:=s'} {m with nexts:=m.nexts++ [n]}->Kn g h' (A++X')->C s'.a s'.n s'.c h'):cy h M.nex.a M.nex.n M.nex.c (some ⟨b,0,none⟩) 1 2 16 C:=by
 have hl:=o.lens
 obtain⟨XN,XI,XE,XB,XH,rfl,a,b',c,d,e⟩:=o
 refine Kn.growIn3 K c (by omega) (by omega) (by omega) ⟨b,0,rfl,aw f⟩ rfl rfl fun s' X' h' hn a' K' _=>?_
 exact k s' _ h' ⟨XN,XI,X',XB,XH,rfl,a,b',by rw [List.flatMap_append];exact a',d,e⟩ K'
theorem MG.appB {b:Nat} {n:Int} {C:Option Addr->Nat->Nat->Hp->Prop} (o:MG X M m) (K:Kn g h (A++X)) (hm:m.bads.length<=100000) (f:h b=some (.inl ⟨[I n],1,false⟩))
  (k: ∀s' X' h',MG X' {M with bad:=s'} {m with bads:=m.bads++ [n]}->Kn g h' (A++X')->C s'.a s'.n s'.c h'):cy h M.bad.a M.bad.n M.bad.c (some ⟨b,0,none⟩) 1 1 8 C:=by
 have hl:=o.lens
 obtain⟨XN,XI,XE,XB,XH,rfl,a,b',c,d,e⟩:=o
 have sw: ∀Z:List (Nat×Blk),A++(XN++(XI++(XE++(Z++(XH++ [])))))=(A++(XN++XI))++(XE++(Z++(XH++ []))):=fun Z=>by simp
 rw [sw]at K
 refine Kn.growIn2 K d (by omega) (by omega) (by omega) ⟨b,0,rfl,aw f⟩ rfl rfl fun s' X' h' hn a' K' _=>?_
 rw [<-sw]at K'
 exact k s' _ h' ⟨XN,XI,XE,X',XH,rfl,a,b',c,by rw [List.map_append];exact a',e⟩ K'
theorem MG.appH {b:Nat} {n:Int} {C:Option Addr->Nat->Nat->Hp->Prop} (o:MG X M m) (K:Kn g h (A++X)) (hm:m.holds.length<=100000) (f:h b=some (.inl ⟨[I n],1,false⟩))
  (k: ∀s' X' h',MG X' {M with hol:=s'} {m with holds:=m.holds++ [n]}->Kn g h' (A++X')->C s'.a s'.n s'.c h'):cy h M.hol.a M.hol.n M.hol.c (some ⟨b,0,none⟩) 1 1 8 C:=by
 have hl:=o.lens
 obtain⟨XN,XI,XE,XB,XH,rfl,a,b',c,d,e⟩:=o
 have sw: ∀Z:List (Nat×Blk),A++(XN++(XI++(XE++(XB++(Z++ [])))))=(A++(XN++XI))++(XE++(XB++(Z++ []))):=fun Z=>by simp
 rw [sw]at K
 refine Kn.growIn3 K e (by omega) (by omega) (by omega) ⟨b,0,rfl,aw f⟩ rfl rfl fun s' X' h' hn a' K' _=>?_
 rw [<-sw]at K'
 exact k s' _ h' ⟨XN,XI,XE,XB,X',rfl,a,b',c,d,by rw [List.map_append];exact a'⟩ K'
end
structure DM (m:ah) (N:Nat):Prop where
 nodes:m.nodes.length<=N
 sorts: ∀n∈m.nodes,bW n.sort=true
 names: ∀n∈m.nodes,n.name.size<=100
 inits:m.inits.length<=N
 nexts:m.nexts.length<=N
 bads:m.bads.length<=N
 holds:m.holds.length<=N
theorem DM.small {m:ah} {N:Nat} (d:DM m N) (hN:N<=100000):bR m:=
 ⟨by have:=d.nodes;omega,by have:=d.inits;omega,by have:=d.nexts;omega,by have:=d.bads;omega,by have:=d.holds;omega,fun n hn=>by have:=d.names n hn;omega⟩
theorem DM.more {m:ah} {N N':Nat} (d:DM m N) (h:N<=N'):DM m N':=
 ⟨Nat.le_trans d.nodes h,d.sorts,d.names,Nat.le_trans d.inits h,Nat.le_trans d.nexts h,Nat.le_trans d.bads h,Nat.le_trans d.holds h⟩
theorem DM.addN {m:ah} {N:Nat} (d:DM m N) {n:NodeP} (h1:bW n.sort=true) (h2:n.name.size<=100):DM {m with nodes:=m.nodes++ [n]} (N+1):=
 ⟨by have:=d.nodes;simp;omega,fun x hx=>by rcases List.mem_append.1 hx with hx|hx;exact d.sorts x hx;rw [List.mem_singleton.1 hx];exact h1,
  fun x hx=>by rcases List.mem_append.1 hx with hx|hx;exact d.names x hx;rw [List.mem_singleton.1 hx];exact h2,
  by have:=d.inits;dsimp only;omega,by have:=d.nexts;dsimp only;omega,by have:=d.bads;dsimp only;omega,by have:=d.holds;dsimp only;omega⟩
theorem Kn.tl {g h:Hp} {L:List (Nat×Blk)} {e:Nat×Blk} (K:Kn g h (e::L)):Kn g h L:=K.sub (fun x hx=> .tail _ hx) (by have:=K.nd;rw [List.map_cons,List.nodup_cons]at this;exact this.2)
theorem Kn.sw {g h:Hp} {L:List (Nat×Blk)} {a b:Nat×Blk} (K:Kn g h (a::b::L)):Kn g h (b::a::L):=K.perm (List.Perm.swap ..)
theorem uT {m:ah} {N:Nat} (d:DM m N) {i:Nat} {n:NodeP} (h:m.nodes[i]?=some n):bW n.sort=true:=d.sorts n (List.mem_of_getElem? h)
theorem nA {s:SortP} (h:bW s=true):(0<=s.idx/\s.idx<=2)/\1<=s.wid/\s.wid<=16:=of_decide_eq_true h
theorem qP {w:Int} (h1:1<=w) (h2:w<=16):bW (cR w)=true:=decide_eq_true ⟨by simp [cR],h1,h2⟩
theorem Upd.mem2 {L L':List (Nat×Blk)} {b:Nat} {x y:Blk} (u:Upd L b x y L'):(b,y)∈L':=by
 induction u with
 |head=>exact .head _
 |tail _ ih=>exact .tail _ ih
section
variable {g h:Hp} {L L':List (Nat×Blk)} {b:Nat} {M M':MSl}
abbrev eA :List Value:= [.slice none 0 0, .slice none 0 0, .slice none 0 0, .slice none 0 0, .slice none 0 0]
theorem vu {cs:List Value} {Q:Hp->Prop} (K:Kn g h L) (u:Upd L b (.inl ⟨cs,5,false⟩) (.inl ⟨aH M',5,false⟩) L') (hl:cs.length=5) (k: ∀h',Kn g h' L'->Q h'):
  ∃(cs:List Value) (z:Nat),h b=some (.inl ⟨cs,z,false⟩)/\0+5<=List.length cs/\cM (h.row b (bX cs 0 (aH M')) z) fun h'=>Q h':=by
 have e:bX cs 0 (aH M')=aH M':=by
  match cs,hl with
  | [_,_,_,_,_],_=>rfl
 exact Kn.wr (cs:=cs) (z:=5) (o:=0) (vs:=aH M') K (L':=L') (by rw [e];exact u) (by omega) fun h' K' _=>k h' K'
theorem GR {Q:Sl->Sl->Sl->Sl->Sl->Hp->Prop} (K:Kn g h L) (u:Upd L b (.inl ⟨eA,5,false⟩) (.inl ⟨aH M,5,false⟩) L') (k: ∀h',Kn g h' L'->Q M.no M.ini M.nex M.bad M.hol h'):
  ∃(cs:List Value) (z:Nat),h b=some (.inl ⟨cs,z,false⟩)/\0+5<=List.length cs/\cM (h.row b (bX cs 0 (aH M)) z) fun h'=> ∃s1:Sl,Hp.cell h' b 0=some s1.v/\ ∃s2:Sl,Hp.cell h' b 1=some s2.v/\
   ∃s3:Sl,Hp.cell h' b 2=some s3.v/\ ∃s4:Sl,Hp.cell h' b 3=some s4.v/\ ∃s5:Sl,Hp.cell h' b 4=some s5.v/\Q s1 s2 s3 s4 s5 h':=by
 refine vu K u rfl fun h' K'=>?_
 have hm:=u.mem2
 have c:=fun o=>ax (K'.at hm) o
 exact⟨_,c 0,_,c 1,_,c 2,_,c 3,_,c 4,k h' K'⟩
end
theorem CK {α:Type} (a b c d e:α) (L:List α):(a::b::c::d::e::L).Perm (e::a::b::c::d::L):=by
 refine((List.Perm.cons a ((List.Perm.cons b ((List.Perm.cons c (List.Perm.swap e d L)).trans (List.Perm.swap e c _))).trans (List.Perm.swap e b _))).trans (List.Perm.swap e a _))
theorem Upd.app {L L' X:List (Nat×Blk)} {b:Nat} {x y:Blk} (u:Upd L b x y L'):Upd (L++X) b x y (L'++X):=by
 induction u with
 |head=>exact .head
 |tail _ ih=>exact .tail ih
theorem nq {g h:Hp} {H X:List (Nat×Blk)} {b bn:Nat} {M:MSl} {m:ah} {nd:NodeP} {J:Hp->Prop} (o:MG X M m) (K:Kn g h ((bn, .inl ⟨nodeCells nd,9,false⟩)::(H++X))) (hm:m.nodes.length<=10000) (hb:(b, .inl ⟨aH M,5,false⟩)∈H)
  (k: ∀s' X' h',MG X' {M with no:=s'} {m with nodes:=m.nodes++ [nd]}->(∀H',Upd H b (.inl ⟨aH M,5,false⟩) (.inl ⟨aH {M with no:=s'},5,false⟩) H'->Kn g h' (H'++X'))->J h'):
  cy h M.no.a M.no.n M.no.c (some ⟨bn,0,none⟩) 1 9 80 fun a n c h95=> ∃(cs:List Value) (z:Nat),h95 b=some (.inl ⟨cs,z,false⟩)/\0+1<=List.length cs/\cM (h95.row b (bX cs 0 [.slice a n c]) z) fun h'=>J h':=by
 refine MG.appN (A:=_::H) (n:=nd) o K (by omega) (K.at (.head _)) fun s' X' h7 o' K7=>?_
 rw [List.cons_append]at K7
 have f:=K7.at (.tail _ (List.mem_append_left _ hb))
 exact⟨_,_,f,by simp,k s' X' _ o' fun H' u=>(K7.tl).set (u.app (X:=X'))⟩
set_option maxHeartbeats 1000000 in
theorem ye {g h:Hp} {A X:List (Nat×Blk)} {B p N:Nat} {s:Sl} {bs:List Nat} {M:MSl} {m:ah} {st:SortP} {R:Value->Hp->Prop} (K:Kn g h ((B,rdC s p)::(A++X))) (hb:ByteS g s bs) (o:MG X M m) (d:DM m N) (hN:N<=10000)
  (hne:0<m.nodes.length) (hp:p<=900000) (hst:bW st=true)
  (k: ∀h' p' X' M' m' (i:Nat),Kn g h' ((B,rdC s p')::(A++X'))->MG X' M' m'->DM m' (N+1)->i<m'.nodes.length->m.nodes.length<=m'.nodes.length->p'<=p+2->R (.tuple #[aQ M',I i]) h'):
  gL #[.pointer (some ⟨B,0,none⟩),aQ M,um st] h R:=by
 apply HU
 refine uf_ ?_
 obtain⟨_,hw1,hw2⟩:=nA hst
 have hl:=o.lens
 have hsm:=d.small (by omega)
 have hdn:=d.nodes
 refine Kn.al K fun b10 h1 K1 l1 hb10=>?_
 refine Kn.al K1 fun b12 h2 K2 l2 hb12=>?_
 refine Kn.al K2 fun b14 h3 K3 l3 hb14=>?_
 clear K K1 K2 l1 l2 l3 hb10 hb12 hb14
 (refine kr_ ?_)
 refine kp_ ?_
 intro x h4 K4 hx _
 refine⟨_,rfl,?_⟩
 replace hx:x<m.nodes.length:=by have:=hx (by omega);omega
 clear K3 h3 h2 h1 h
 have hs:=o.modelS (A:=_::_::_::_::A) hsm K4
 refine au m.nodes.length (fun i vs h'=>vs= [.pointer (some ⟨B,0,none⟩), .pointer (some ⟨b10,0,none⟩), .pointer (some ⟨b12,0,none⟩), .pointer (some ⟨b14,0,none⟩),I x,I i]/\h4=h') ⟨rfl,rfl⟩ ?_
 rintro i _ _ nxt hi ⟨rfl,rfl⟩ hnx
 refine⟨_,b10,0,b12,0,b14,0,_,_,rfl,?_⟩
 (refine kr_ ?_)
 have same: ∀q:Nat,q<m.nodes.length-> ∃(cs:List Value) (z:Nat),h4 b14=some (.inl ⟨cs,z,false⟩)/\0+5<=List.length cs/\cM (h4.row b14 (bX cs 0 (aH M)) z) fun h58=> ∃s59:Sl,Hp.cell h58 b14 0=some s59.v/\ ∃s60:Sl,Hp.cell h58 b14 (0+1)=some s60.v/\
   ∃s61:Sl,Hp.cell h58 b14 (0+2)=some s61.v/\ ∃s62:Sl,Hp.cell h58 b14 (0+3)=some s62.v/\ ∃s63:Sl,Hp.cell h58 b14 (0+4)=some s63.v/\R (.tuple #[.agg #[s59.v,s60.v,s61.v,s62.v,s63.v],I q]) h58:=by
  intro q hq
  refine kw_ ?_
  intro h5 K5 _
  have K5':Kn g h5 ((b14, .inl ⟨aH M,5,false⟩)::(b12, .inl ⟨[I st.idx,I st.wid],2,false⟩)::(b10, .inl ⟨aH M,5,false⟩)::(B,rdC s (p+1))::(A++X)):=K5
  clear K5 K4
  repeat' (refine kr_ ?_)
  exact k h5 (p+1) X M m q K5'.tl.tl.tl o (d.more (by omega)) hq (Nat.le_refl _) (by omega)
 by_cases hlt:i<m.nodes.length
 ·refine aM (by rw [decide_eq_true_eq];omega) ?_
  (refine kr_ ?_)
  rw [if_neg (by omega)]
  (refine kr_ ?_)
  have hq:(x+i)%m.nodes.length<m.nodes.length:=Nat.mod_lt _ hne
  rw [<-Int.natCast_add,fV (by omega),show ((M.no.n:Nat):Int)=(m.nodes.length:Nat) by omega,eU]
  generalize (x+i)%m.nodes.length=q at*
  obtain⟨n,hni⟩: ∃n,m.nodes[q]?=some n:=⟨_,List.getElem?_eq_getElem hq⟩
  obtain⟨b,oo,ha,e0,e1,e2,e3,e4,e5,e6,e7,e8⟩:=hs.nodes.at hni
  rw [Int.toNat_natCast]
  refine⟨b,oo,ha,by omega,by omega,_,e6,_,e7,?_⟩
  (refine kr_ ?_)
  (refine kr_ ?_)
  refine ad (fun e=>?_) (fun e=>?_)
  ·repeat' (refine kr_ ?_)
   exact same q hq
  ·rw [ay (by omega)]
   exact hnx hlt _ _ ⟨rfl,rfl⟩
 refine aC (by rw [decide_eq_false_iff_not];omega) ?_
 clear hnx hlt hi
 (refine kr_ ?_)
 refine ad (fun e=>?_) (fun e=>?_)
 ·repeat' (refine kr_ ?_)
  exact same 0 hne
 have e':=of_decide_eq_false e
 have hi0:st.idx=0:=by have:=(nA hst).1;omega
 clear same hs
 refine ap (fun J=> ∀h5 X' s' p' nd,nd.sort=st->nd.name.size=0->MG X' {M with no:=s'} {m with nodes:=m.nodes++ [nd]}->Kn g h5 ((b14, .inl ⟨[.slice none 0 0, .slice none 0 0, .slice none 0 0, .slice none 0 0, .slice none 0 0],5,false⟩)::(b12, .inl ⟨[I st.idx,I st.wid],2,false⟩)::
  (b10, .inl ⟨aH {M with no:=s'},5,false⟩)::(B,rdC s p')::(A++X'))->p'<=p+2->J h5) (fun h5 X' s' p' nd hs1 hs2 o' K5 hp'=>?_) (fun J hJ=>?_)
 ·have hl':=o'.lens
  repeat' (refine kr_ ?_)
  refine kw_ ?_
  intro h6 K6 kp6
  have K6':Kn g h6 ((b14, .inl ⟨aH {M with no:=s'},5,false⟩)::(b12, .inl ⟨[I st.idx,I st.wid],2,false⟩)::(b10, .inl ⟨aH {M with no:=s'},5,false⟩)::(B,rdC s p')::(A++X')):=K6
  repeat' (refine kr_ ?_)
  clear K5 K6 K4
  repeat' (refine kr_ ?_)
  rw [show W ((s'.n:Int)-1)=(m.nodes.length:Nat) by
   have h1:=hl'.1
   simp at h1
   rw [cd (by omega) (by omega)];omega]
  exact k h6 p' X' _ _ m.nodes.length K6'.tl.tl.tl o' (d.addN (by rw [hs1];exact hst) (by omega)) (by simp) (by simp) hp'
 obtain⟨w,hw⟩: ∃w:Nat,st.wid=w:=⟨st.wid.toNat,by omega⟩
 have hp2:0<2^w:=Nat.two_pow_pos w
 have fin: ∀(y:Nat) (h5 h6:Hp) (q b:Nat),q<=p+2->Kn g h5 ((b14, .inl ⟨[.slice none 0 0, .slice none 0 0, .slice none 0 0, .slice none 0 0, .slice none 0 0],5,false⟩)::(b12, .inl ⟨[I st.idx,I st.wid],2,false⟩)::(b10, .inl ⟨aH M,5,false⟩)::(B,rdC s q)::(A++X))->
   Kn g h6 ((b, .inl ⟨[I 34,I 0,I 0,I 0,I (Int.tmod y (2^w:Nat)),I 0,I st.idx,I st.wid, .string ⟨#[]⟩],9,false⟩)::(b14, .inl ⟨[.slice none 0 0, .slice none 0 0, .slice none 0 0, .slice none 0 0, .slice none 0 0],5,false⟩)::(b12, .inl ⟨[I st.idx,I st.wid],2,false⟩)::(b10, .inl ⟨aH M,5,false⟩)::(B,rdC s q)::(A++X))->
   cy h6 M.no.a M.no.n M.no.c (some (Addr.mk b 0 none)) 1 9 80 fun a92 n93 k94 h95=> ∃(cs96:List Value) (z97:Nat),h95 b10=some (.inl ⟨cs96,z97,false⟩)/\0+1<=List.length cs96/\cM (h95.row b10 (bX cs96 0 [(.slice a92 n93 k94)]) z97) fun h98=>J h98:=by
  intro y h5 h6 q b hq K5 K6
  refine MG.appN (A:=_::_::_::_::_::A) (n:=⟨34,0,0,0,Int.tmod y (2^w:Nat),0,st,⟨#[]⟩⟩) o K6 (by omega) (K6.at (.head _)) fun s' X' h7 o' K7=>?_
  simp only [List.cons_append]at K7
  clear K6 K5 K4
  refine kw_ ?_
  intro h8 K8 _
  exact hJ h8 X' s' q _ rfl rfl o' K8.tl hq
 repeat' (refine kr_ ?_)
 refine⟨?_,?_⟩
 ·refine kp_ ?_
  intro y h5 K5 hy _
  refine⟨_,rfl,?_⟩
  repeat' (refine kr_ ?_)
  rw [hw,cX (by omega),if_neg (by omega),cw (by omega),if_neg (by omega),<-hw]
  refine Kn.al K5 fun b90 h6 K6 l6 hb90=>?_
  (refine kr_ ?_)
  exact fin y h5 h6 (p+2) b90 (Nat.le_refl _) K5 K6
 ·repeat' (refine kr_ ?_)
  rw [hw,cX (by omega),if_neg (by omega),cw (by omega),<-hw]
  refine kp_ ?_
  intro y h5 K5 hy _
  refine⟨_,rfl,?_⟩
  repeat' (refine kr_ ?_)
  rw [if_neg (by omega)]
  refine Kn.al K5 fun b90 h6 K6 l6 hb90=>?_
  (refine kr_ ?_)
  exact fin y h5 h6 (p+2) b90 (Nat.le_refl _) K5 K6
set_option maxHeartbeats 1000000 in
theorem Ph {g h:Hp} {A X:List (Nat×Blk)} {B p N:Nat} {s:Sl} {bs:List Nat} {M:MSl} {m:ah} {R:Value->Hp->Prop} (K:Kn g h ((B,rdC s p)::(A++X))) (hb:ByteS g s bs) (o:MG X M m) (d:DM m N) (hN:N<=1000)
  (hne:0<m.nodes.length) (hp:p<=800000)
  (k: ∀h' p' X' M' m' (i:Nat),Kn g h' ((B,rdC s p')::(A++X'))->MG X' M' m'->DM m' (N+3)->i<m'.nodes.length->m.nodes.length<=m'.nodes.length->p'<=p+2*N+10->R (.tuple #[aQ M',I i]) h'):
  nM #[.pointer (some ⟨B,0,none⟩),aQ M] h R:=by
 apply GX
 refine uf_ ?_
 have hl:=o.lens
 have hsm:=d.small (by omega)
 have hdn:=d.nodes
 refine Kn.al K fun b8 h1 K1 l1 hb8=>?_
 refine Kn.al K1 fun b10 h2 K2 l2 hb10=>?_
 clear K K1 l1 l2 hb8 hb10
 (refine kr_ ?_)
 rw [show W ((M.no.n:Int)-1)=(m.nodes.length:Int)-1 by rw [cd (by omega) (by omega)];omega]
 refine nr m.nodes.length (fun i vs h'=>vs= [.pointer (some ⟨B,0,none⟩), .pointer (some ⟨b8,0,none⟩), .pointer (some ⟨b10,0,none⟩),I ((i:Int)-1)]/\i<=m.nodes.length/\
  ∃q,q+i<=p+m.nodes.length/\Kn g h' ((b10, .inl ⟨eA,5,false⟩)::(b8, .inl ⟨aH M,5,false⟩)::(B,rdC s q)::(A++X))) ⟨rfl,Nat.le_refl _,p,Nat.le_refl _,K2⟩ ?_
 clear K2 h1 h2 h
 rintro i _ h4 nxt ⟨rfl,hi,q,hq,K4⟩ hnx
 refine⟨_,b8,0,b10,0,_,rfl,?_⟩
 have hs:=o.modelS (A:=_::_::_::A) hsm K4
 cases i with
 |succ i=>
  rw [show (((i+1:Nat):Int)-1)=(i:Nat) by omega]
  refine aM (by rw [decide_eq_true_eq];omega) ?_
  refine ap (fun J=> ∀c h5 q,q+i<=p+m.nodes.length->Kn g h5 ((b10, .inl ⟨eA,5,false⟩)::(b8, .inl ⟨aH M,5,false⟩)::(B,rdC s q)::(A++X))->J c h5) (fun c h5 q' hq' K5=>?_) (fun J hJ=>?_)
  ·refine ad (fun e=>?_) (fun e=>?_)
   ·clear K4
    repeat' (refine kr_ ?_)
    refine GR K5 (by((focus ((repeat first|exact .head|apply Upd.tail);done)))) fun h6 K6=>?_
    exact k h6 q' X M m i K6.tl.tl o (d.more (by omega)) (by omega) (Nat.le_refl _) (by omega)
   ·rw [cd (by omega) (by omega)]
    exact hnx i (by omega) _ _ ⟨rfl,by omega,q',hq',K5⟩
  ·(refine kr_ ?_)
   obtain⟨n,hni⟩: ∃n,m.nodes[i]?=some n:=⟨_,List.getElem?_eq_getElem (by omega)⟩
   obtain⟨b,oo,ha,e0,e1,e2,e3,e4,e5,e6,e7,e8⟩:=hs.nodes.at hni
   refine⟨b,oo,ha,by omega,by omega,_,by rw [Int.toNat_natCast];exact e6,_,by rw [Int.toNat_natCast];exact e7,?_⟩
   refine cm ⟨_,_,rfl,?_⟩
   repeat' (refine kr_ ?_)
   refine ad (fun e=>?_) (fun e=>?_)
   ·(refine kr_ ?_)
    refine⟨b,oo,ha,by omega,by omega,_,by rw [Int.toNat_natCast];exact e0,?_⟩
    refine ad (fun e=>?_) (fun e=>?_)
    ·refine kp_ ?_
     intro x h5 K5 hx _
     exact⟨_,rfl,hJ _ h5 (q+1) (by omega) K5⟩
    ·exact hJ _ h4 q (by omega) K4
   ·exact hJ _ h4 q (by omega) K4
 |zero=>
 refine aC (by rw [decide_eq_false_iff_not];omega) ?_
 clear hnx
 refine au m.nodes.length (fun i vs h'=> ∃(a q:Nat),vs= [.pointer (some ⟨B,0,none⟩), .pointer (some ⟨b8,0,none⟩), .pointer (some ⟨b10,0,none⟩),I a,I i]/\a<m.nodes.length/\
  q<=p+m.nodes.length+i/\Kn g h' ((b10, .inl ⟨eA,5,false⟩)::(b8, .inl ⟨aH M,5,false⟩)::(B,rdC s q)::(A++X))) ⟨0,q,rfl,hne,by omega,K4⟩ ?_
 clear K4 hq hs h4 hi q
 rintro i _ h4 nxt hi ⟨a,q,rfl,ha',hq,K4⟩ hnx
 refine⟨_,b8,0,b10,0,_,_,rfl,?_⟩
 have hs:=o.modelS (A:=_::_::_::A) hsm K4
 (refine kr_ ?_)
 obtain⟨na,hna⟩: ∃n,m.nodes[a]?=some n:=⟨_,List.getElem?_eq_getElem ha'⟩
 by_cases hlt:i<m.nodes.length
 ·refine aM (by rw [decide_eq_true_eq];omega) ?_
  refine ap (fun J=> ∀(c:Nat) h5 q,c<m.nodes.length->q<=p+m.nodes.length+(i+1)->Kn g h5 ((b10, .inl ⟨eA,5,false⟩)::(b8, .inl ⟨aH M,5,false⟩)::(B,rdC s q)::(A++X))->J (c:Int) h5) (fun c h5 q' hc hq' K5=>?_) (fun J hJ=>?_)
  ·rw [ay (by omega)]
   exact hnx hlt _ _ ⟨c,q',rfl,hc,hq',K5⟩
  ·(refine kr_ ?_)
   obtain⟨n,hni⟩: ∃n,m.nodes[i]?=some n:=⟨_,List.getElem?_eq_getElem hlt⟩
   obtain⟨b,oo,ha,e0,_⟩:=hs.nodes.at hni
   refine⟨b,oo,ha,by omega,by omega,_,by rw [Int.toNat_natCast];exact e0,?_⟩
   refine ad (fun e=>?_) (fun e=>?_)
   ·(refine kr_ ?_)
    obtain⟨b,oo,ha,e0,_⟩:=hs.nodes.at hna
    refine⟨b,oo,ha,by omega,by omega,_,by rw [Int.toNat_natCast];exact e0,?_⟩
    refine ad (fun e=>?_) (fun e=>?_)
    ·exact hJ i h4 q hlt (by omega) K4
    ·refine kp_ ?_
     intro x h5 K5 hx _
     refine⟨_,rfl,ad (fun e=>?_) (fun e=>?_)⟩
     ·exact hJ i h5 _ hlt (by omega) K5
     ·exact hJ a h5 _ ha' (by omega) K5
   ·exact hJ a h4 q ha' (by omega) K4
 refine aC (by rw [decide_eq_false_iff_not];omega) ?_
 clear hnx
 repeat' (refine kr_ ?_)
 obtain⟨b,oo,ha,e0,e1,e2,e3,e4,e5,e6,e7,e8⟩:=hs.nodes.at hna
 refine⟨b,oo,ha,by omega,by omega,_,by rw [Int.toNat_natCast];exact e6,_,by rw [Int.toNat_natCast];exact e7,?_⟩
 refine ye (p:=q) (A:=(b10, .inl ⟨eA,5,false⟩)::(b8, .inl ⟨aH M,5,false⟩)::A) (st:=na.sort) (K4.perm ?_) hb o d (by omega) hne (by omega) (uT d hna) fun h5 q5 X5 M5 m5 i5 K5 o5 d5 hi5 hl5 hq5=>⟨_,_,_,_,_,_,rfl,?_⟩
 ·exact(List.Perm.cons _ (List.Perm.swap ..)).trans (List.Perm.swap ..)
 have K5':Kn g h5 ((b10, .inl ⟨eA,5,false⟩)::(b8, .inl ⟨aH M,5,false⟩)::(B,rdC s q5)::(A++X5)):=K5.perm ((List.Perm.swap ..).trans (List.Perm.cons _ (List.Perm.swap ..)))
 clear K5 K4 hs e0 e1 e2 e3 e4 e5 e6 e7 e8 ha
 refine vu (M':=M5) K5' (by((focus ((repeat first|exact .head|apply Upd.tail);done)))) rfl fun h6 K6=>?_
 clear K5'
 have hl5':=o5.lens
 have hsm5:=d5.small (by omega)
 have hs6:=o5.modelS (A:=_::_::_::A) hsm5 K6
 obtain⟨nb,hnb⟩: ∃n,m5.nodes[a]?=some n:=⟨_,List.getElem?_eq_getElem (by omega)⟩
 refine ap (fun J=> ∀c,J c) (fun c=>?_) (fun J hJ=>?_)
 rotate_left
 ·refine ad (fun e=>?_) (fun e=>hJ _)
  (refine kr_ ?_)
  obtain⟨b,oo,ha,e0,e1,e2,e3,e4,e5,e6,e7,e8⟩:=hs6.nodes.at hnb
  exact⟨b,oo,ha,by omega,by omega,_,by rw [Int.toNat_natCast];exact e6,hJ _⟩
 have d5n:=d5.nodes
 refine ap (fun J=> ∀(x:Nat) h7 q X7 M7 m7,MG X7 M7 m7->DM m7 (N+2)->x<m7.nodes.length->m5.nodes.length<=m7.nodes.length->q<=q5+1->Kn g h7 ((b10, .inl ⟨eA,5,false⟩)::(b8, .inl ⟨aH M7,5,false⟩)::(B,rdC s q)::(A++X7))->J (x:Int) h7)
  (fun x h7 q7 X7 M7 m7 o7 d7 hx7 hl7 hq7 K7=>?_) (fun J hJ=>?_)
 ·clear K6 hs6
  have hl7':=o7.lens
  have d7n:=d7.nodes
  (refine kr_ ?_)
  refine cm ⟨_,_,rfl,?_⟩
  repeat' (refine kr_ ?_)
  refine Kn.al K7 fun b173 h8 K8 l8 hb173=>?_
  repeat' (refine kr_ ?_)
  refine nq (H:=_::_::_::A) (nd:=⟨21,a,x,0,0,0,⟨0,1⟩,⟨#[]⟩⟩) o7 K8 (by omega) (.tail _ (.head _)) fun s' X9 h9 o9 KF=>?_
  have K9:=KF _ (by((focus ((repeat first|exact .head|apply Upd.tail);done))))
  simp only [List.cons_append]at K9
  clear KF K8 K7
  have hl9:=o9.lens
  repeat' (refine kr_ ?_)
  refine vu (M':={M7 with no:=s'}) K9 (by((focus ((repeat first|exact .head|apply Upd.tail);done)))) rfl fun h11 K11=>?_
  repeat' (refine kr_ ?_)
  rw [show W ((s'.n:Int)-1)=(m7.nodes.length:Nat) by
   have h1:=hl9.1
   simp at h1
   rw [cd (by omega) (by omega)];omega]
  exact k h11 q7 X9 _ _ m7.nodes.length K11.tl.tl o9 (d7.addN rfl (show (0:Nat)<=100 by omega)) (by simp) (by simp;omega) (by omega)
 ·refine ad (fun e=>?_) (fun e=>?_)
  rotate_left
  ·exact hJ i5 h6 q5 X5 M5 m5 o5 (d5.more (by omega)) hi5 (Nat.le_refl _) (by omega) K6
  have hok:=uT d5 hnb
  obtain⟨_,hw1,hw2⟩:=nA hok
  obtain⟨b,oo,ha,e0,e1,e2,e3,e4,e5,e6,e7,e8⟩:=hs6.nodes.at hnb
  obtain⟨bN,xN,haN,hmN⟩:=o5.blk (by omega)
  repeat' (refine kr_ ?_)
  refine⟨b,oo,ha,by omega,by omega,_,by rw [Int.toNat_natCast];exact e7,?_⟩
  repeat' (refine kr_ ?_)
  refine⟨b,oo,ha,by omega,by omega,_,by rw [Int.toNat_natCast];exact e6,_,by rw [Int.toNat_natCast];exact e7,?_⟩
  rw [haN]at ha
  cases ha
  obtain⟨w,hw⟩: ∃w:Nat,nb.sort.wid=w:=⟨nb.sort.wid.toNat,by omega⟩
  have hp2:0<2^w:=Nat.two_pow_pos w
  have fin: ∀(y:Nat) (h8:Hp) (b:Nat),Kn g h8 ((b, .inl ⟨[I 34,I 0,I 0,I 0,I (Int.tmod y (2^w:Nat)),I 0,I nb.sort.idx,I nb.sort.wid, .string ⟨#[]⟩],9,false⟩)::(b10, .inl ⟨eA,5,false⟩)::(b8, .inl ⟨aH M5,5,false⟩)::(B,rdC s (q5+1))::(A++X5))->
    cy h8 M5.no.a M5.no.n M5.no.c (some (Addr.mk b 0 none)) 1 9 80 fun a92 n93 k94 h95=> ∃(cs96:List Value) (z97:Nat),h95 b8=some (.inl ⟨cs96,z97,false⟩)/\0+1<=List.length cs96/\cM (h95.row b8 (bX cs96 0 [(.slice a92 n93 k94)]) z97) fun h148=>
     ∃s150:Sl,Hp.cell h148 b8 0=some s150.v/\J (W ((s150.n:Int)-1)) h148:=by
   intro y h8 b K8
   refine nq (H:=_::_::_::A) (nd:=⟨34,0,0,0,Int.tmod y (2^w:Nat),0,nb.sort,⟨#[]⟩⟩) o5 K8 (by omega) (.tail _ (.head _)) fun s' X9 h9 o9 KF=>?_
   have K9:=KF _ (by((focus ((repeat first|exact .head|apply Upd.tail);done))))
   simp only [List.cons_append]at K9
   clear KF K8 K6
   have hl9:=o9.lens
   (refine kr_ ?_)
   rw [show W ((s'.n:Int)-1)=(m5.nodes.length:Nat) by
    have h1:=hl9.1
    simp at h1
    rw [cd (by omega) (by omega)];omega]
   exact hJ m5.nodes.length h9 (q5+1) X9 _ _ o9 (d5.addN hok (show (0:Nat)<=100 by omega)) (by simp) (by simp) (by omega) K9
  refine⟨?_,?_⟩
  ·refine kp_ ?_
   intro y h7 K7 hy _
   refine⟨_,rfl,?_⟩
   have hq:h7 b=h6 b:=by rw [K7.at (.tail _ (.tail _ (.tail _ (List.mem_append_right _ hmN)))),K6.at (.tail _ (.tail _ (.tail _ (List.mem_append_right _ hmN))))]
   repeat' (first|(refine kr_ ?_)|refine And.intro hq ?_)
   rw [hw,cX (by omega),if_neg (by omega),cw (by omega),if_neg (by omega),<-hw]
   refine Kn.al K7 fun b90 h8 K8 l8 hb90=>?_
   (refine kr_ ?_)
   exact fin y h8 b90 K8
  ·repeat' (refine kr_ ?_)
   rw [hw,cX (by omega),if_neg (by omega),cw (by omega),<-hw]
   refine kp_ ?_
   intro y h7 K7 hy _
   refine⟨_,rfl,?_⟩
   have hq:h7 b=h6 b:=by rw [K7.at (.tail _ (.tail _ (.tail _ (List.mem_append_right _ hmN)))),K6.at (.tail _ (.tail _ (.tail _ (List.mem_append_right _ hmN))))]
   repeat' (first|(refine kr_ ?_)|refine And.intro hq ?_)
   rw [if_neg (by omega)]
   refine Kn.al K7 fun b90 h8 K8 l8 hb90=>?_
   (refine kr_ ?_)
   exact fin y h8 b90 K8
theorem ag1 :DM noP 0:=⟨by simp,fun n hn=>by simp at hn,fun n hn=>by simp at hn,by simp,by simp,by simp,by simp⟩
theorem ai2 {i:Nat} (h:i<4): ∃s:ByteArray,([.string ⟨#[120]⟩, .string ⟨#[121]⟩, .string ⟨#[122]⟩, .string ⟨#[109,101,109]⟩]:List Value)[i]?=some (.string s)/\s.size<=100:=by
 rcases i with _|_|_|_|i
 ·exact⟨_,rfl,by decide⟩
 ·exact⟨_,rfl,by decide⟩
 ·exact⟨_,rfl,by decide⟩
 ·exact⟨_,rfl,by decide⟩
 ·omega
theorem aiV {i:Nat} (h:i<2): ∃s:ByteArray,([.string ⟨#[103,111]⟩, .string ⟨#[105,110]⟩]:List Value)[i]?=some (.string s)/\s.size<=100:=by
 rcases i with _|_|i
 ·exact⟨_,rfl,by decide⟩
 ·exact⟨_,rfl,by decide⟩
 ·omega
theorem Au {a b:Int} (h1:0<=a) (h2:a<=2) (h3:1<=b) (h4:b<=16):bW ⟨a,b⟩=true:=decide_eq_true ⟨⟨h1,h2⟩,h3,h4⟩
set_option maxHeartbeats 2000000 in
theorem QI {g h:Hp} {A:List (Nat×Blk)} {B p:Nat} {s:Sl} {bs:List Nat} {big:Bool} {R:Value->Hp->Prop} (K:Kn g h ((B,rdC s p)::A)) (hb:ByteS g s bs) (hp:p<=800000)
  (k: ∀h' p' X' M' m',Kn g h' ((B,rdC s p')::(A++X'))->MG X' M' m'->DM m' 12->0<m'.nodes.length->p'<=p+60->R (aQ M') h'):
  oP #[.pointer (some ⟨B,0,none⟩),aQ noM, .bool big] h R:=by
 apply Ce
 refine uf_ ?_
 refine Kn.al K fun b9 h1 K1 l1 hb9=>?_
 refine Kn.al K1 fun b11 h2 K2 l2 hb11=>?_
 refine Kn.al K2 fun b14 h3 K3 l3 hb14=>?_
 clear K K1 K2 l1 l2 l3 hb9 hb11 hb14
 refine ap (fun J=> ∀x:Int,J x) (fun x20=>?_) (fun J hJ=>ad (fun _=>hJ _) (fun _=>hJ _))
 refine kp_ ?_
 intro x24 h4 K4 hx24 _
 refine⟨_,rfl,?_⟩
 replace hx24:x24<3:=by have:=hx24 (by omega);omega
 clear K3 h3 h2 h1 h
 rw [show W (1+(x24:Int))=((1+x24:Nat):Int) by rw [cd (by omega) (by omega)];omega]
 refine au (1+x24) (fun i vs h'=> ∃(bits:Int) (q:Nat) (X:List (Nat×Blk)) (M:MSl) (m:ah),vs= [.pointer (some ⟨B,0,none⟩), .pointer (some ⟨b9,0,none⟩), .pointer (some ⟨b11,0,none⟩),(arr b14 4).v,I bits,I (1+x24:Nat),I i]/\
  MG X M m/\DM m i/\q<=p+1+4*i/\Kn g h' ((b14, .inl ⟨[.string ⟨#[120]⟩, .string ⟨#[121]⟩, .string ⟨#[122]⟩, .string ⟨#[109,101,109]⟩],4,false⟩)::(b11, .inl ⟨eA,5,false⟩)::(b9, .inl ⟨aH M,5,false⟩)::(B,rdC s q)::(A++X)))
  ⟨x20,p+1, [],noM,noP,rfl,MG.nil,ag1,by omega,by rw [List.append_nil];exact K4⟩ ?_
 clear K4 h4
 rintro i _ h4 nxt hi ⟨bits,q,X,M,m,rfl,o,d,hq,K4⟩ hnx
 refine⟨_,b9,0,b11,0,arr b14 4,_,_,_,rfl,?_⟩
 have hl:=o.lens
 have hdn:=d.nodes
 by_cases hlt:i<1+x24
 ·refine aM (by rw [decide_eq_true_eq];omega) ?_
  have hi4:i<4:=by omega
  refine ap (fun J=> ∀(bits:Int) h5 q X M m,MG X M m->DM m (i+1)->q<=p+1+4*(i+1)->Kn g h5 ((b14, .inl ⟨[.string ⟨#[120]⟩, .string ⟨#[121]⟩, .string ⟨#[122]⟩, .string ⟨#[109,101,109]⟩],4,false⟩)::(b11, .inl ⟨eA,5,false⟩)::(b9, .inl ⟨aH M,5,false⟩)::(B,rdC s q)::(A++X))->J bits h5)
   (fun bits h5 q X M m o d hq K5=>?_) (fun J hJ=>?_)
  ·rw [ay (by omega)]
   exact hnx hlt _ _ ⟨bits,q,X,M,m,rfl,o,d,hq,K5⟩
  ·refine kp_ ?_
   intro x45 h5 K5 hx45 _
   refine⟨_,rfl,?_⟩
   replace hx45:x45<4:=by have:=hx45 (by omega);omega
   refine Kn.al K5 fun b46 h6 K6 l6 hb46=>?_
   clear K5 K4
   refine kw_ ?_
   intro h7 K7 _
   clear K6 l6 hb46
   refine kp_ ?_
   intro x54 h8 K8 _ _
   refine⟨_,rfl,?_⟩
   clear K7
   refine ap (fun J=> ∀(a w:Int) h9 q',0<=a->a<=2->1<=w->w<=16->q'<=q+4->Kn g h9 ((b46, .inl ⟨[I a,I w],2,false⟩)::(b14, .inl ⟨[.string ⟨#[120]⟩, .string ⟨#[121]⟩, .string ⟨#[122]⟩, .string ⟨#[109,101,109]⟩],4,false⟩)::(b11, .inl ⟨eA,5,false⟩)::(b9, .inl ⟨aH M,5,false⟩)::(B,rdC s q')::(A++X))->J h9)
    (fun a w h9 q' a1 a2 w1 w2 hq' K9=>?_) (fun J hJ=>?_)
   ·repeat' (refine kr_ ?_)
    refine jD ⟨_,rfl,?_⟩
    refine ad (fun e=>?_) (fun e=>hJ _ _ q' X M m o (d.more (by omega)) (by omega) K9.tl)
    repeat' (refine kr_ ?_)
    refine jD ⟨_,rfl,?_⟩
    refine⟨b14,0,rfl,by omega,by dsimp only;omega,?_⟩
    repeat' (refine kr_ ?_)
    obtain⟨nm,hnm,hsz⟩:=ai2 hi4
    refine⟨nm,by rw [ax (K9.at (.tail _ (.head _))),Int.toNat_natCast,Nat.zero_add,Nat.mul_one];exact hnm,?_⟩
    refine Kn.al K9 fun b86 h10 K10 l10 hb86=>?_
    repeat' (refine kr_ ?_)
    refine nq (H:=_::_::_::_::_::A) (nd:=⟨36,0,0,0,0,0,⟨a,w⟩,nm⟩) o K10 (by omega) (.tail _ (.tail _ (.tail _ (.head _)))) fun s' X9 h11 o9 KF=>?_
    have K11:=KF _ (by((focus ((repeat first|exact .head|apply Upd.tail);done))))
    simp only [List.cons_append]at K11
    exact hJ _ h11 q' X9 _ _ o9 (d.addN (Au a1 a2 w1 w2) hsz) (by omega) K11.tl
   ·refine ad (fun e=>?_) (fun e=>?_)
    ·refine kp_ ?_
     intro x59 h9 K9 hx59 _
     refine⟨_,rfl,?_⟩
     refine kp_ ?_
     intro x62 h10 K10 hx62 _
     refine⟨_,rfl,?_⟩
     replace hx59:x59<2:=by have:=hx59 (by omega);omega
     replace hx62:x62<2:=by have:=hx62 (by omega);omega
     clear K9 K8
     refine kw_ ?_
     intro h11 K11 _
     refine hJ (W (1+(x59:Int))) (W (1+(x62:Int))) h11 _ ?_ ?_ ?_ ?_ ?_ K11
     ·rw [cd (by omega) (by omega)];omega
     ·rw [cd (by omega) (by omega)];omega
     ·rw [cd (by omega) (by omega)];omega
     ·rw [cd (by omega) (by omega)];omega
     ·omega
    ·refine hJ 0 (W (1+(x45:Int))) h8 _ (by omega) (by omega) ?_ ?_ ?_ K8
     ·rw [cd (by omega) (by omega)];omega
     ·rw [cd (by omega) (by omega)];omega
     ·omega
 refine aC (by rw [decide_eq_false_iff_not];omega) ?_
 clear hnx
 (refine kr_ ?_)
 refine ap (fun J=> ∀h5 X M m,MG X M m->DM m 4->0<m.nodes.length->Kn g h5 ((b14, .inl ⟨[.string ⟨#[120]⟩, .string ⟨#[121]⟩, .string ⟨#[122]⟩, .string ⟨#[109,101,109]⟩],4,false⟩)::(b11, .inl ⟨eA,5,false⟩)::(b9, .inl ⟨aH M,5,false⟩)::(B,rdC s q)::(A++X))->J h5)
  (fun h5 X1 M1 m1 o1 d1 hpos K5=>?_) (fun J hJ=>?_)
 rotate_left
 ·refine ad (fun e=>?_) (fun e=>?_)
  ·(refine kr_ ?_)
   refine cm ⟨_,_,rfl,?_⟩
   repeat' (refine kr_ ?_)
   refine Kn.al K4 fun b109 h5 K5 l5 hb109=>?_
   repeat' (refine kr_ ?_)
   refine nq (H:=_::_::_::_::A) (nd:=⟨36,0,0,0,0,0,⟨0,2⟩,⟨#[120]⟩⟩) o K5 (by omega) (.tail _ (.tail _ (.head _))) fun s' X9 h11 o9 KF=>?_
   have K11:=KF _ (by((focus ((repeat first|exact .head|apply Upd.tail);done))))
   simp only [List.cons_append]at K11
   have hl9:=o9.lens
   exact hJ h11 X9 _ _ o9 ((d.addN (n:=⟨36,0,0,0,0,0,⟨0,2⟩,⟨#[120]⟩⟩) rfl (show (1:Nat)<=100 by omega)).more (by omega)) (by simp) K11
  ·have:m.nodes.length≠0:=fun q=>by rw [show M.no.n=0 by omega]at e;simp at e
   exact hJ h4 X M m o (d.more (by omega)) (by omega) K4
 clear K4 hdn hl d o h4
 refine kp_ ?_
 intro x122 h6 K6 hx122 _
 refine⟨_,rfl,?_⟩
 replace hx122:x122<3:=by have:=hx122 (by omega);omega
 refine au x122 (fun i vs h'=> ∃(q:Nat) (X:List (Nat×Blk)) (M:MSl) (m:ah),vs= [.pointer (some ⟨B,0,none⟩), .pointer (some ⟨b9,0,none⟩), .pointer (some ⟨b11,0,none⟩),I x122,I i]/\
  MG X M m/\DM m (4+i)/\0<m.nodes.length/\q<=p+20+i/\Kn g h' ((b14, .inl ⟨[.string ⟨#[120]⟩, .string ⟨#[121]⟩, .string ⟨#[122]⟩, .string ⟨#[109,101,109]⟩],4,false⟩)::(b11, .inl ⟨eA,5,false⟩)::(b9, .inl ⟨aH M,5,false⟩)::(B,rdC s q)::(A++X)))
  ⟨q+1,X1,M1,m1,rfl,o1,d1,hpos,by omega,K6⟩ ?_
 clear K6 K5 hpos d1 o1 hq q m1 M1 X1 h5 h6 m M X
 rintro j _ h4 nxt hj ⟨q,X,M,m,rfl,o,d,hpos,hq,K4⟩ hnx
 refine⟨_,b9,0,b11,0,_,_,rfl,?_⟩
 have hl:=o.lens
 have hdn:=d.nodes
 by_cases hlt:j<x122
 ·refine aM (by rw [decide_eq_true_eq];omega) ?_
  have hj2:j<2:=by omega
  refine ap (fun J=> ∀h5 q X M m,MG X M m->DM m (4+j+1)->0<m.nodes.length->q<=p+20+(j+1)->Kn g h5 ((b14, .inl ⟨[.string ⟨#[120]⟩, .string ⟨#[121]⟩, .string ⟨#[122]⟩, .string ⟨#[109,101,109]⟩],4,false⟩)::(b11, .inl ⟨eA,5,false⟩)::(b9, .inl ⟨aH M,5,false⟩)::(B,rdC s q)::(A++X))->J h5)
   (fun h5 q X M m o d hpos hq K5=>?_) (fun J hJ=>?_)
  ·rw [ay (by omega)]
   exact hnx hlt _ _ ⟨q,X,M,m,rfl,o,d,hpos,hq,K5⟩
  obtain⟨nm,hnm,hsz⟩:=aiV hj2
  have fin: ∀(x bn bg:Nat) (h8:Hp),x<2->Kn g h8 ((bn, .inl ⟨[I 35,I 0,I 0,I 0,I 0,I 0,I 0,I (W (1+(x:Int))), .string nm],9,false⟩)::(bg, .inl ⟨[.string ⟨#[103,111]⟩, .string ⟨#[105,110]⟩],2,false⟩)::(b14, .inl ⟨[.string ⟨#[120]⟩, .string ⟨#[121]⟩, .string ⟨#[122]⟩, .string ⟨#[109,101,109]⟩],4,false⟩)::
    (b11, .inl ⟨eA,5,false⟩)::(b9, .inl ⟨aH M,5,false⟩)::(B,rdC s (q+1))::(A++X))->
    cy h8 M.no.a M.no.n M.no.c (some (Addr.mk bn 0 none)) 1 9 80 fun a92 n93 k94 h95=> ∃(cs96:List Value) (z97:Nat),h95 b9=some (.inl ⟨cs96,z97,false⟩)/\0+1<=List.length cs96/\cM (h95.row b9 (bX cs96 0 [(.slice a92 n93 k94)]) z97) fun h148=>J h148:=by
   intro x bn bg h8 hx K8
   refine nq (H:=_::_::_::_::_::A) (nd:=⟨35,0,0,0,0,0,⟨0,W (1+(x:Int))⟩,nm⟩) o K8 (by omega) (.tail _ (.tail _ (.tail _ (.head _)))) fun s' X9 h9 o9 KF=>?_
   have K9:=KF _ (by((focus ((repeat first|exact .head|apply Upd.tail);done))))
   simp only [List.cons_append]at K9
   exact hJ h9 (q+1) X9 _ _ o9 (d.addN (Au (by omega) (by omega) (by rw [cd (by omega) (by omega)];omega) (by rw [cd (by omega) (by omega)];omega)) hsz) (by simp) (by omega) K9.tl
  have rd: ∀{h':Hp} {L:List (Nat×Blk)} {bg:Nat} {Q:ByteArray->Prop},Kn g h' ((bg, .inl ⟨[.string ⟨#[103,111]⟩, .string ⟨#[105,110]⟩],2,false⟩)::L)->Q nm-> ∃y:ByteArray,Hp.cell h' bg (0+Int.toNat (j:Int)*1)=some (.string y)/\Q y:=fun K' q=>⟨nm,by rw [ax (K'.at (.head _)),Int.toNat_natCast,Nat.zero_add,Nat.mul_one];exact hnm,q⟩
  (refine kr_ ?_)
  refine⟨?_,?_⟩
  ·refine kp_ ?_
   intro x h5 K5 hx _
   refine⟨_,rfl,?_⟩
   replace hx:x<2:=by have:=hx (by omega);omega
   repeat' (refine kr_ ?_)
   refine⟨?_,?_⟩
   ·refine cm ⟨_,_,rfl,?_⟩
    repeat' (refine kr_ ?_)
    refine Kn.al K5 fun bg h6 K6 l6 hbg=>?_
    repeat' (refine kr_ ?_)
    refine⟨by omega,by omega,?_⟩
    refine rd K6 ?_
    refine Kn.al K6 fun bn h7 K7 l7 hbn=>?_
    repeat' (refine kr_ ?_)
    exact fin x bn bg h7 hx K7
   ·refine Kn.al K5 fun bg h6 K6 l6 hbg=>?_
    repeat' (refine kr_ ?_)
    refine⟨by omega,by omega,?_⟩
    refine rd K6 ?_
    refine cm ⟨_,_,rfl,?_⟩
    repeat' (refine kr_ ?_)
    refine Kn.al K6 fun bn h7 K7 l7 hbn=>?_
    repeat' (refine kr_ ?_)
    exact fin x bn bg h7 hx K7
  ·refine Kn.al K4 fun bg h5 K5 l5 hbg=>?_
   repeat' (refine kr_ ?_)
   refine⟨by omega,by omega,?_⟩
   refine rd K5 ?_
   refine kp_ ?_
   intro x h6 K6 hx _
   refine⟨_,rfl,?_⟩
   replace hx:x<2:=by have:=hx (by omega);omega
   repeat' (refine kr_ ?_)
   refine cm ⟨_,_,rfl,?_⟩
   repeat' (refine kr_ ?_)
   refine Kn.al K6 fun bn h7 K7 l7 hbn=>?_
   repeat' (refine kr_ ?_)
   exact fin x bn bg h7 hx K7
 refine aC (by rw [decide_eq_false_iff_not];omega) ?_
 clear hnx
 refine kp_ ?_
 intro x205 h6 K6 hx205 _
 refine⟨_,rfl,?_⟩
 replace hx205:x205<3:=by have:=hx205 (by omega);omega
 rw [show W (1+(x205:Int))=((1+x205:Nat):Int) by rw [cd (by omega) (by omega)];omega]
 refine au (1+x205) (fun i vs h'=> ∃(q:Nat) (X:List (Nat×Blk)) (M:MSl) (m:ah),vs= [.pointer (some ⟨B,0,none⟩), .pointer (some ⟨b9,0,none⟩), .pointer (some ⟨b11,0,none⟩),I (1+x205:Nat),I i]/\
  MG X M m/\DM m (6+i)/\0<m.nodes.length/\q<=p+30+2*i/\Kn g h' ((b14, .inl ⟨[.string ⟨#[120]⟩, .string ⟨#[121]⟩, .string ⟨#[122]⟩, .string ⟨#[109,101,109]⟩],4,false⟩)::(b11, .inl ⟨eA,5,false⟩)::(b9, .inl ⟨aH M,5,false⟩)::(B,rdC s q)::(A++X)))
  ⟨q+1,X,M,m,rfl,o,d.more (by omega),hpos,by omega,K6⟩ ?_
 clear K6 K4 hpos d o hl hdn hq q m M X h4 h6
 rintro i _ h4 nxt hi ⟨q,X,M,m,rfl,o,d,hpos,hq,K4⟩ hnx
 refine⟨_,b9,0,b11,0,_,_,rfl,?_⟩
 have hl:=o.lens
 have hdn:=d.nodes
 by_cases hlt:i<1+x205
 rotate_left
 ·refine aC (by rw [decide_eq_false_iff_not];omega) ?_
  repeat' (refine kr_ ?_)
  refine GR K4 (by((focus ((repeat first|exact .head|apply Upd.tail);done)))) fun h6 K6=>?_
  exact k h6 q X M m K6.tl.tl.tl o (d.more (by omega)) hpos (by omega)
 refine aM (by rw [decide_eq_true_eq];omega) ?_
 refine ap (fun J=> ∀h5 q X M m,MG X M m->DM m (6+i+1)->0<m.nodes.length->q<=p+30+2*(i+1)->Kn g h5 ((b14, .inl ⟨[.string ⟨#[120]⟩, .string ⟨#[121]⟩, .string ⟨#[122]⟩, .string ⟨#[109,101,109]⟩],4,false⟩)::(b11, .inl ⟨eA,5,false⟩)::(b9, .inl ⟨aH M,5,false⟩)::(B,rdC s q)::(A++X))->J h5)
  (fun h5 q X M m o d hpos hq K5=>?_) (fun J hJ=>?_)
 ·rw [ay (by omega)]
  exact hnx hlt _ _ ⟨q,X,M,m,rfl,o,d,hpos,hq,K5⟩
 refine kp_ ?_
 intro w h5 K5 hw _
 refine⟨_,rfl,?_⟩
 replace hw:w<4:=by have:=hw (by omega);omega
 have hp2:0<2^(1+w):=Nat.two_pow_pos _
 rw [show W (1+(w:Int))=((1+w:Nat):Int) by rw [cd (by omega) (by omega)];omega]
 have fin: ∀(y bn:Nat) (h8:Hp),Kn g h8 ((bn, .inl ⟨[I 34,I 0,I 0,I 0,I (Int.tmod y (2^(1+w):Nat)),I 0,I 0,I (1+w:Nat), .string ⟨#[]⟩],9,false⟩)::(b14, .inl ⟨[.string ⟨#[120]⟩, .string ⟨#[121]⟩, .string ⟨#[122]⟩, .string ⟨#[109,101,109]⟩],4,false⟩)::
   (b11, .inl ⟨eA,5,false⟩)::(b9, .inl ⟨aH M,5,false⟩)::(B,rdC s (q+1+1))::(A++X))->
   cy h8 M.no.a M.no.n M.no.c (some (Addr.mk bn 0 none)) 1 9 80 fun a92 n93 k94 h95=> ∃(cs96:List Value) (z97:Nat),h95 b9=some (.inl ⟨cs96,z97,false⟩)/\0+1<=List.length cs96/\cM (h95.row b9 (bX cs96 0 [(.slice a92 n93 k94)]) z97) fun h148=>J h148:=by
  intro y bn h8 K8
  refine nq (H:=_::_::_::_::A) (nd:=⟨34,0,0,0,Int.tmod y (2^(1+w):Nat),0,⟨0,(1+w:Nat)⟩,⟨#[]⟩⟩) o K8 (by omega) (.tail _ (.tail _ (.head _))) fun s' X9 h9 o9 KF=>?_
  have K9:=KF _ (by((focus ((repeat first|exact .head|apply Upd.tail);done))))
  simp only [List.cons_append]at K9
  exact hJ h9 _ X9 _ _ o9 (d.addN (Au (by omega) (by omega) (by omega) (by omega)) (show (0:Nat)<=100 by omega)) (by simp) (by omega) K9
 (refine kr_ ?_)
 refine⟨?_,?_⟩
 ·refine kp_ ?_
  intro y h6 K6 hy _
  refine⟨_,rfl,?_⟩
  repeat' (refine kr_ ?_)
  refine⟨?_,?_⟩
  ·repeat' (refine kr_ ?_)
   rw [cX (by omega),if_neg (by omega),cw (by omega),if_neg (by omega)]
   refine cm ⟨_,_,rfl,?_⟩
   repeat' (refine kr_ ?_)
   refine Kn.al K6 fun bn h7 K7 l7 hbn=>?_
   repeat' (refine kr_ ?_)
   exact fin y bn h7 K7
  ·refine cm ⟨_,_,rfl,?_⟩
   repeat' (refine kr_ ?_)
   rw [cX (by omega),if_neg (by omega),cw (by omega),if_neg (by omega)]
   refine Kn.al K6 fun bn h7 K7 l7 hbn=>?_
   repeat' (refine kr_ ?_)
   exact fin y bn h7 K7
 ·repeat' (refine kr_ ?_)
  rw [cX (by omega),if_neg (by omega),cw (by omega)]
  refine kp_ ?_
  intro y h6 K6 hy _
  refine⟨_,rfl,?_⟩
  repeat' (refine kr_ ?_)
  rw [if_neg (by omega)]
  refine cm ⟨_,_,rfl,?_⟩
  repeat' (refine kr_ ?_)
  refine Kn.al K6 fun bn h7 K7 l7 hbn=>?_
  repeat' (refine kr_ ?_)
  exact fin y bn h7 K7
theorem wY {c:Prop} [Decidable c] {x t:SortP} (h:(if c then some x else none)=some t):c/\x=t:=by
 by_cases e:c
 ·rw [if_pos e]at h;exact⟨e,Option.some.inj h⟩
 ·rw [if_neg e]at h;cases h
theorem PN {n:NodeP} {a b c t:SortP} (ha:bW a=true) (hb:2<=ai n.kind->bW b=true) (h:dh n a b c=some t):bW t=true:=by
 obtain⟨⟨a1,a2⟩,a3,a4⟩:=nA ha
 unfold dh at h
 by_cases e33:n.kind=33
 ·rw [if_pos e33]at h
  obtain⟨_,rfl⟩:=wY h
  exact hb (by rw [e33];decide)
 rw [if_neg e33]at h
 by_cases e37:n.kind=37
 ·rw [if_pos e37]at h
  obtain⟨_,rfl⟩:=wY h
  exact qP a3 a4
 rw [if_neg e37]at h
 by_cases e38:n.kind=38
 ·rw [if_pos e38]at h
  obtain⟨_,rfl⟩:=wY h
  exact ha
 rw [if_neg e38]at h
 by_cases e21:n.kind=21
 ·rw [if_pos e21]at h
  obtain⟨_,rfl⟩:=wY h
  exact qP (by omega) (by omega)
 rw [if_neg e21]at h
 by_cases ei:0<a.idx\/(ai n.kind=2/\0<b.idx)
 ·rw [if_pos ei]at h;cases h
 rw [if_neg ei]at h
 by_cases e29:n.kind=29
 ·rw [if_pos e29]at h
  obtain⟨e,rfl⟩:=wY h
  have:=nA (hb (by rw [e29];decide))
  exact qP (by omega) (by omega)
 rw [if_neg e29]at h
 by_cases e30:n.kind=30
 ·rw [if_pos e30]at h
  obtain⟨e,rfl⟩:=wY h
  exact qP (by omega) (by omega)
 rw [if_neg e30]at h
 by_cases e31:n.kind=31\/n.kind=32
 ·rw [if_pos e31]at h
  obtain⟨e,rfl⟩:=wY h
  exact qP (by omega) (by omega)
 rw [if_neg e31]at h
 have hw: ∀q:Prop, [Decidable q]->bW (cR (if q then a.wid else 1))=true:=fun q _=>by
  by_cases e:q
  ·rw [if_pos e];exact qP a3 a4
  ·rw [if_neg e];exact qP (by omega) (by omega)
 by_cases e5:n.kind<=5
 ·rw [if_pos e5]at h
  obtain rfl:=Option.some.inj h
  exact hw _
 rw [if_neg e5]at h
 obtain⟨_,rfl⟩:=wY h
 exact hw _
theorem MT {l:List NodeP} {n:NodeP} {t:SortP} (hk:ai n.kind≠0) (h:dc l n=some t):bW t=true:=by
 unfold dc at h
 by_cases e:l.length<=60/\fU l.length n=true
 ·rw [if_pos e,if_neg hk]at h
  by_cases e2:(bW (ar l n.a)&&((decide (ai n.kind<2)||bW (ar l n.b))&&(decide (ai n.kind<3)||bW (ar l n.c))))=true
  ·rw [if_pos e2]at h
   simp only [Bool.and_eq_true,Bool.or_eq_true,decide_eq_true_eq]at e2
   exact PN e2.1 (fun h2=>e2.2.1.resolve_left (by omega)) h
  ·rw [if_neg e2]at h;cases h
 ·rw [if_neg e]at h;cases h
set_option maxHeartbeats 2000000 in
theorem U6 {g h:Hp} {A X:List (Nat×Blk)} {B p N:Nat} {s:Sl} {bs:List Nat} {M:MSl} {m:ah} {R:Value->Hp->Prop} (K:Kn g h ((B,rdC s p)::(A++X))) (hb:ByteS g s bs) (o:MG X M m) (d:DM m N) (hN:N<=1000)
  (hne:0<m.nodes.length) (hp:p<=800000)
  (k: ∀h' p' X' M' m',Kn g h' ((B,rdC s p')::(A++X'))->MG X' M' m'->DM m' (N+3)->0<m'.nodes.length->p'<=p+20->R (aQ M') h'):
  qE #[.pointer (some ⟨B,0,none⟩),aQ M] h R:=by
 apply EU
 refine uf_ ?_
 have hl:=o.lens
 have hsm:=d.small (by omega)
 have hdn:=d.nodes
 refine Kn.al K fun b8 h1 K1 l1 hb8=>?_
 refine Kn.al K1 fun b10 h2 K2 l2 hb10=>?_
 clear K K1 l1 l2 hb8 hb10
 refine kp_ ?_
 intro x15 h3 K3 hx15 _
 refine⟨_,rfl,?_⟩
 replace hx15:x15<33:=by have:=hx15 (by omega);omega
 refine Kn.al K3 fun b16 h4 K4 l4 hb16=>?_
 refine kw_ ?_
 intro h5 K5 kpz
 clear kpz
 rw [show W (1+(x15:Int))=((1+x15:Nat):Int) by rw [cd (by omega) (by omega)];omega]at K5
 have K5':Kn g h5 ((b16, .inl ⟨nodeCells ⟨(1+x15:Nat),0,0,0,0,0,⟨0,0⟩,⟨#[]⟩⟩,9,false⟩)::(b10, .inl ⟨eA,5,false⟩)::(b8, .inl ⟨aH M,5,false⟩)::(B,rdC s (p+1))::(A++X)):=K5
 clear K5 K4 K3 K2 l4 hb16 h4 h3 h2 h1 h
 refine kp_ ?_
 intro x24 h6 K6 _ _
 refine⟨_,rfl,?_⟩
 clear K5' h5
 have hk0:ai ((1+x15:Nat):Int)≠0:=by
  unfold ai
  have h1: ¬(34<=((1+x15:Nat):Int)/\((1+x15:Nat):Int)<=36):=by omega
  rw [if_neg h1]
  split
  ·decide
  ·split
   ·decide
   ·split<;>decide
 refine ap (fun J=> ∀(kd:Int) h5 q,ai kd≠0->q<=p+3->Kn g h5 ((b16, .inl ⟨nodeCells ⟨kd,0,0,0,0,0,⟨0,0⟩,⟨#[]⟩⟩,9,false⟩)::(b10, .inl ⟨eA,5,false⟩)::(b8, .inl ⟨aH M,5,false⟩)::(B,rdC s q)::(A++X))->J h5) (fun kd h5 q hkd hq K5=>?_) (fun J hJ=>?_)
 rotate_left
 ·refine ad (fun e=>?_) (fun e=>hJ _ h6 _ hk0 (by omega) K6)
  refine Kn.al K6 fun b27 h7 K7 l7 hb27=>?_
  refine kp_ ?_
  intro x31 h8 K8 hx31 _
  refine⟨_,rfl,?_⟩
  replace hx31:x31<2:=by have:=hx31 (by omega);omega
  clear K7 K6
  refine⟨b27,0,rfl,by omega,by omega,?_⟩
  obtain⟨kd,hkd,hk1⟩: ∃kd:Int,([I 37,I 38]:List Value)[x31]?=some (I kd)/\ai kd≠0:=by
   rcases x31 with _|_|i
   ·exact⟨37,rfl,by decide⟩
   ·exact⟨38,rfl,by decide⟩
   ·omega
  refine⟨kd,by rw [ax (K8.at (.head _)),Int.toNat_natCast,Nat.zero_add,Nat.mul_one];exact hkd,?_⟩
  refine kw_ ?_
  intro h9 K9 kpz
  clear kpz
  exact hJ kd h9 _ hk1 (by omega) K9.tl
 clear K6 hk0 hx15 h6
 (refine kr_ ?_)
 refine kp_ ?_
 intro a h6 K6 ha _
 refine⟨_,rfl,?_⟩
 replace ha:a<m.nodes.length:=by have:=ha (by omega);omega
 clear K5
 refine kw_ ?_
 intro h7 K7 kpz
 clear kpz
 have K7':Kn g h7 ((b16, .inl ⟨nodeCells ⟨kd,a,0,0,0,0,⟨0,0⟩,⟨#[]⟩⟩,9,false⟩)::(b10, .inl ⟨eA,5,false⟩)::(b8, .inl ⟨aH M,5,false⟩)::(B,rdC s (q+1))::(A++X)):=K7
 clear K7 K6 h5 h6
 repeat' (refine kr_ ?_)
 obtain⟨na,hna⟩: ∃n,m.nodes[a]?=some n:=⟨_,List.getElem?_eq_getElem ha⟩
 have hs:=o.modelS (A:=_::_::_::_::A) hsm K7'
 obtain⟨b,oo,ha',e0,e1,e2,e3,e4,e5,e6,e7,e8⟩:=hs.nodes.at hna
 refine⟨b,oo,ha',(by first|omega|(dsimp only;omega)),(by first|omega|(dsimp only;omega)),_,by rw [Int.toNat_natCast];exact e6,_,by rw [Int.toNat_natCast];exact e7,?_⟩
 clear e0 e1 e2 e3 e4 e5 e6 e7 e8 ha' hs
 refine Kn.al K7' fun b54 h8 K8 l8 hb54=>?_
 refine kw_ ?_
 intro h9 K9 kpz
 clear kpz
 have K9':Kn g h9 ((b54, .inl ⟨[I na.sort.idx,I na.sort.wid],2,false⟩)::(b16, .inl ⟨nodeCells ⟨kd,a,0,0,0,0,⟨0,0⟩,⟨#[]⟩⟩,9,false⟩)::(b10, .inl ⟨eA,5,false⟩)::(b8, .inl ⟨aH M,5,false⟩)::(B,rdC s (q+1))::(A++X)):=K9
 clear K9 K8 K7' l8 hb54 h8 h7
 have hst:=uT d hna
 obtain⟨⟨w1,w2⟩,w3,w4⟩:=nA hst
 refine ap (fun J=> ∀h5 q' X' M' m' (nd:NodeP) (z:Blk),nd.kind=kd->nd.name.size=0->MG X' M' m'->DM m' (N+2)->0<m'.nodes.length->q'<=q+10->Kn g h5 ((b54,z)::(b16, .inl ⟨nodeCells nd,9,false⟩)::(b10, .inl ⟨eA,5,false⟩)::(b8, .inl ⟨aH M',5,false⟩)::(B,rdC s q')::(A++X'))->J b8 0 b10 0 b16 0 h5)
  (fun h5 q' X' M' m' nd z hkd2 hnm o' d' hpos hq' K5=>?_) (fun J hJ=>?_)
 ·clear K9'
  have hl':=o'.lens
  have hdn':=d'.nodes
  have hsm':=d'.small (by omega)
  have hs:=o'.modelS (A:=_::_::_::_::_::A) hsm' K5
  repeat' (refine kr_ ?_)
  refine p5 (n:=nd) hs.nodes (by omega) ?_
  cases hns:dc m'.nodes nd with
  |none=>
   refine⟨_,_,_,rfl,?_⟩
   refine Kn.al K5 fun b327 h6 K6 l6 hb327=>?_
   clear K5
   refine kw_ ?_
   intro h7 K7 kpz
   clear kpz
   clear K6
   rw [jE]
   refine aM rfl (aM rfl ?_)
   repeat' (refine kr_ ?_)
   refine GR K7 (by((focus ((repeat first|exact .head|apply Upd.tail);done)))) fun h8 K8=>?_
   exact k h8 q' X' M' m' K8.tl.tl.tl.tl.tl o' (d'.more (by omega)) hpos (by omega)
  |some t=>
   refine⟨_,_,_,rfl,?_⟩
   have htok:=MT (by rw [hkd2];exact hkd) hns
   refine Kn.al K5 fun b327 h6 K6 l6 hb327=>?_
   clear K5
   refine kw_ ?_
   intro h7 K7 kpz
   clear kpz
   have K7':Kn g h7 ((b327, .inl ⟨[I t.idx,I t.wid],2,false⟩)::(b54,z)::(b16, .inl ⟨nodeCells nd,9,false⟩)::(b10, .inl ⟨eA,5,false⟩)::(b8, .inl ⟨aH M',5,false⟩)::(B,rdC s q')::(A++X')):=K7
   clear K6 K7
   refine ap (fun J=> ∀c,J c) (fun c=>?_) (fun J hJ=>?_)
   rotate_left
   ·refine aC rfl ?_
    (refine kr_ ?_)
    refine ad (fun _=>hJ _) (fun _=>?_)
    (refine kr_ ?_)
    exact hJ _
   cases c with
   |true=>
    refine aM rfl ?_
    repeat' (refine kr_ ?_)
    refine GR K7' (by((focus ((repeat first|exact .head|apply Upd.tail);done)))) fun h8 K8=>?_
    exact k h8 q' X' M' m' K8.tl.tl.tl.tl.tl o' (d'.more (by omega)) hpos (by omega)
   |false=>
    refine aC rfl ?_
    repeat' (refine kr_ ?_)
    refine kw_ ?_
    intro h8 K8 kpz
    clear kpz
    have K8':Kn g h8 ((b327, .inl ⟨[I t.idx,I t.wid],2,false⟩)::(b54,z)::(b16, .inl ⟨nodeCells {nd with sort:=t},9,false⟩)::(b10, .inl ⟨eA,5,false⟩)::(b8, .inl ⟨aH M',5,false⟩)::(B,rdC s q')::(A++X')):=K8
    clear K8 K7'
    repeat' (refine kr_ ?_)
    refine Kn.al K8' fun b368 h9 K9 l9 hb368=>?_
    refine nq (H:=_::_::_::_::_::_::A) (nd:={nd with sort:=t}) o' K9 (by omega) (.tail _ (.tail _ (.tail _ (.tail _ (.head _))))) fun s' X9 h10 o9 KF=>?_
    have K10:=KF _ (by((focus ((repeat first|exact .head|apply Upd.tail);done))))
    simp only [List.cons_append]at K10
    clear KF K9 K8'
    repeat' (refine kr_ ?_)
    refine GR (M:={M' with no:=s'}) K10 (by((focus ((repeat first|exact .head|apply Upd.tail);done)))) fun h11 K11=>?_
    exact k h11 q' X9 _ _ K11.tl.tl.tl.tl.tl o9 ((d'.addN htok (by show nd.name.size<=100;omega)).more (by omega)) (by simp) (by omega)
 (refine kr_ ?_)
 refine ad (fun e=>?_) (fun e=>?_)
 ·repeat' (refine kr_ ?_)
  refine cm ⟨_,_,rfl,?_⟩
  repeat' (refine kr_ ?_)
  refine ye (p:=q+1) (A:=(b54, .inl ⟨[I na.sort.idx,I na.sort.wid],2,false⟩)::(b16, .inl ⟨nodeCells ⟨kd,a,0,0,0,0,⟨0,0⟩,⟨#[]⟩⟩,9,false⟩)::(b10, .inl ⟨eA,5,false⟩)::(b8, .inl ⟨aH M,5,false⟩)::A) (st:=⟨0,1⟩)
   (K9'.perm (CK _ _ _ _ _ _)) hb o d (by omega) hne (by omega) rfl fun h5 q5 X5 M5 m5 i5 K5 o5 d5 hi5 hl5 hq5=>⟨_,_,_,_,_,_,rfl,?_⟩
  replace K5:=K5.perm (CK _ _ _ _ _ _).symm
  clear K9'
  refine vu (M':=M5) K5 (by((focus ((repeat first|exact .head|apply Upd.tail);done)))) rfl fun h6 K6=>?_
  clear K5
  refine kw_ ?_
  intro h7 K7 kpz
  clear kpz
  have K7':Kn g h7 ((b54, .inl ⟨[I na.sort.idx,I na.sort.wid],2,false⟩)::(b16, .inl ⟨nodeCells ⟨kd,i5,0,0,0,0,⟨0,0⟩,⟨#[]⟩⟩,9,false⟩)::(b10, .inl ⟨eA,5,false⟩)::(b8, .inl ⟨aH M5,5,false⟩)::(B,rdC s q5)::(A++X5)):=K7
  clear K6 K7
  have hl5':=o5.lens
  have hdn5:=d5.nodes
  (refine kr_ ?_)
  refine kp_ ?_
  intro x90 h8 K8 hx90 _
  refine⟨_,rfl,?_⟩
  replace hx90:x90<m5.nodes.length:=by have:=hx90 (by omega);omega
  clear K7'
  refine kw_ ?_
  intro h9 K9 kpz
  clear kpz
  have K9':Kn g h9 ((b54, .inl ⟨[I na.sort.idx,I na.sort.wid],2,false⟩)::(b16, .inl ⟨nodeCells ⟨kd,i5,x90,0,0,0,⟨0,0⟩,⟨#[]⟩⟩,9,false⟩)::(b10, .inl ⟨eA,5,false⟩)::(b8, .inl ⟨aH M5,5,false⟩)::(B,rdC s (q5+1))::(A++X5)):=K9
  clear K8 K9
  repeat' (refine kr_ ?_)
  obtain⟨nb,hnb⟩: ∃n,m5.nodes[x90]?=some n:=⟨_,List.getElem?_eq_getElem hx90⟩
  have hs:=o5.modelS (A:=_::_::_::_::_::A) (d5.small (by omega)) K9'
  obtain⟨b,oo,ha',e0,e1,e2,e3,e4,e5,e6,e7,e8⟩:=hs.nodes.at hnb
  refine⟨b,oo,ha',(by first|omega|(dsimp only;omega)),(by first|omega|(dsimp only;omega)),_,by rw [Int.toNat_natCast];exact e6,_,by rw [Int.toNat_natCast];exact e7,?_⟩
  refine ye (p:=q5+1) (A:=(b54, .inl ⟨[I na.sort.idx,I na.sort.wid],2,false⟩)::(b16, .inl ⟨nodeCells ⟨kd,i5,x90,0,0,0,⟨0,0⟩,⟨#[]⟩⟩,9,false⟩)::(b10, .inl ⟨eA,5,false⟩)::(b8, .inl ⟨aH M5,5,false⟩)::A) (st:=nb.sort)
   (K9'.perm (CK _ _ _ _ _ _)) hb o5 d5 (by omega) (by omega) (by omega) (uT d5 hnb) fun h5 q6 X6 M6 m6 i6 K5 o6 d6 hi6 hl6 hq6=>⟨_,_,_,_,_,_,rfl,?_⟩
  replace K5:=K5.perm (CK _ _ _ _ _ _).symm
  clear K9' hs e0 e1 e2 e3 e4 e5 e6 e7 e8
  refine vu (M':=M6) K5 (by((focus ((repeat first|exact .head|apply Upd.tail);done)))) rfl fun h10 K10=>?_
  clear K5
  refine kw_ ?_
  intro h11 K11 kpz
  clear kpz
  exact hJ h11 q6 X6 M6 m6 ⟨kd,i5,x90,i6,0,0,⟨0,0⟩,⟨#[]⟩⟩ _ rfl rfl o6 d6 (by omega) (by omega) K11
 have hnl:=hdn
 refine ap (fun J=> ∀c,J c) (fun c=>?_) (fun J hJ=>?_)
 rotate_left
 ·(refine kr_ ?_)
  refine ad (fun _=>hJ _) (fun _=>?_)
  (refine kr_ ?_)
  exact hJ _
 refine ad (fun _=>?_) (fun _=>?_)
 ·--arrays
  refine au m.nodes.length (fun i vs h'=> ∃a:Nat,vs= [.pointer (some ⟨B,0,none⟩), .pointer (some ⟨b8,0,none⟩), .pointer (some ⟨b10,0,none⟩), .pointer (some ⟨b16,0,none⟩), .pointer (some ⟨b54,0,none⟩),I i]/\a<m.nodes.length/\
   Kn g h' ((b54, .inl ⟨[I na.sort.idx,I na.sort.wid],2,false⟩)::(b16, .inl ⟨nodeCells ⟨kd,a,0,0,0,0,⟨0,0⟩,⟨#[]⟩⟩,9,false⟩)::(b10, .inl ⟨eA,5,false⟩)::(b8, .inl ⟨aH M,5,false⟩)::(B,rdC s (q+1))::(A++X))) ⟨a,rfl,ha,K9'⟩ ?_
  rintro i _ h4 nxt hi ⟨a',rfl,ha',K4⟩ hnx
  refine⟨_,b8,0,b10,0,b16,0,b54,0,_,rfl,?_⟩
  have hs:=o.modelS (A:=_::_::_::_::_::A) hsm K4
  clear K9'
  (refine kr_ ?_)
  by_cases hlt:i<m.nodes.length
  ·refine aM (by rw [decide_eq_true_eq];omega) ?_
   refine ap (fun J=> ∀h5 (c:Nat),c<m.nodes.length->Kn g h5 ((b54, .inl ⟨[I na.sort.idx,I na.sort.wid],2,false⟩)::(b16, .inl ⟨nodeCells ⟨kd,c,0,0,0,0,⟨0,0⟩,⟨#[]⟩⟩,9,false⟩)::(b10, .inl ⟨eA,5,false⟩)::(b8, .inl ⟨aH M,5,false⟩)::(B,rdC s (q+1))::(A++X))->J h5) (fun h5 c hc K5=>?_) (fun J hJ=>?_)
   ·rw [ay (by omega)]
    exact hnx hlt _ _ ⟨c,rfl,hc,K5⟩
   ·(refine kr_ ?_)
    obtain⟨ni,hni⟩: ∃n,m.nodes[i]?=some n:=⟨_,List.getElem?_eq_getElem hlt⟩
    obtain⟨b,oo,ha2,e0,e1,e2,e3,e4,e5,e6,e7,e8⟩:=hs.nodes.at hni
    refine⟨b,oo,ha2,(by first|omega|(dsimp only;omega)),(by first|omega|(dsimp only;omega)),_,by rw [Int.toNat_natCast];exact e6,?_⟩
    clear e0 e1 e2 e3 e4 e5 e6 e7 e8
    refine ad (fun e=>?_) (fun e=>hJ h4 a' ha' K4)
    refine kw_ ?_
    intro h5 K5 kpz
    clear kpz
    exact hJ h5 i hlt K5
  refine aC (by rw [decide_eq_false_iff_not];omega) ?_
  clear hnx
  repeat' (refine kr_ ?_)
  obtain⟨nb,hnb⟩: ∃n,m.nodes[a']?=some n:=⟨_,List.getElem?_eq_getElem ha'⟩
  obtain⟨b,oo,ha2,e0,e1,e2,e3,e4,e5,e6,e7,e8⟩:=hs.nodes.at hnb
  refine⟨b,oo,ha2,(by first|omega|(dsimp only;omega)),(by first|omega|(dsimp only;omega)),_,by rw [Int.toNat_natCast];exact e6,_,by rw [Int.toNat_natCast];exact e7,?_⟩
  clear e0 e1 e2 e3 e4 e5 e6 e7 e8 hs
  obtain⟨⟨v1,v2⟩,v3,v4⟩:=nA (uT d hnb)
  refine kw_ ?_
  intro h5 K5 kpz
  clear kpz
  have K5':Kn g h5 ((b54, .inl ⟨[I nb.sort.idx,I nb.sort.wid],2,false⟩)::(b16, .inl ⟨nodeCells ⟨kd,a',0,0,0,0,⟨0,0⟩,⟨#[]⟩⟩,9,false⟩)::(b10, .inl ⟨eA,5,false⟩)::(b8, .inl ⟨aH M,5,false⟩)::(B,rdC s (q+1))::(A++X)):=K5
  clear K5 K4
  (refine kr_ ?_)
  refine ad (fun e=>?_) (fun e=>?_)
  ·repeat' (refine kr_ ?_)
   refine GR K5' (by((focus ((repeat first|exact .head|apply Upd.tail);done)))) fun h8 K8=>?_
   exact k h8 (q+1) X M m K8.tl.tl.tl.tl o (d.more (by omega)) hne (by omega)
  have hi1:nb.sort.idx≠0:=fun q=>by rw [q]at e;simp at e
  repeat' (refine kr_ ?_)
  refine cm ⟨_,_,rfl,?_⟩
  repeat' (refine kr_ ?_)
  refine ye (p:=q+1) (A:=(b54, .inl ⟨[I nb.sort.idx,I nb.sort.wid],2,false⟩)::(b16, .inl ⟨nodeCells ⟨kd,a',0,0,0,0,⟨0,0⟩,⟨#[]⟩⟩,9,false⟩)::(b10, .inl ⟨eA,5,false⟩)::(b8, .inl ⟨aH M,5,false⟩)::A) (st:=⟨0,nb.sort.idx⟩)
   (K5'.perm (CK _ _ _ _ _ _)) hb o d (by omega) hne (by omega) (Au (by omega) (by omega) (by omega) (by omega)) fun h6 q6 X6 M6 m6 i6 K6 o6 d6 hi6 hl6 hq6=>⟨_,_,_,_,_,_,rfl,?_⟩
  replace K6:=K6.perm (CK _ _ _ _ _ _).symm
  clear K5'
  refine vu (M':=M6) K6 (by((focus ((repeat first|exact .head|apply Upd.tail);done)))) rfl fun h7 K7=>?_
  clear K6
  refine kw_ ?_
  intro h8 K8 kpz
  clear kpz
  have K8':Kn g h8 ((b54, .inl ⟨[I nb.sort.idx,I nb.sort.wid],2,false⟩)::(b16, .inl ⟨nodeCells ⟨kd,a',i6,0,0,0,⟨0,0⟩,⟨#[]⟩⟩,9,false⟩)::(b10, .inl ⟨eA,5,false⟩)::(b8, .inl ⟨aH M6,5,false⟩)::(B,rdC s q6)::(A++X6)):=K8
  clear K8 K7
  (refine kr_ ?_)
  refine ad (fun e=>?_) (fun e=>?_)
  ·repeat' (refine kr_ ?_)
   refine cm ⟨_,_,rfl,?_⟩
   repeat' (refine kr_ ?_)
   refine ye (p:=q6) (A:=(b54, .inl ⟨[I nb.sort.idx,I nb.sort.wid],2,false⟩)::(b16, .inl ⟨nodeCells ⟨kd,a',i6,0,0,0,⟨0,0⟩,⟨#[]⟩⟩,9,false⟩)::(b10, .inl ⟨eA,5,false⟩)::(b8, .inl ⟨aH M6,5,false⟩)::A) (st:=⟨0,nb.sort.wid⟩)
    (K8'.perm (CK _ _ _ _ _ _)) hb o6 d6 (by omega) (by omega) (by omega) (Au (by omega) (by omega) (by omega) (by omega)) fun h9 q9 X9 M9 m9 i9 K9 o9 d9 hi9 hl9 hq9=>⟨_,_,_,_,_,_,rfl,?_⟩
   replace K9:=K9.perm (CK _ _ _ _ _ _).symm
   clear K8'
   refine vu (M':=M9) K9 (by((focus ((repeat first|exact .head|apply Upd.tail);done)))) rfl fun h10 K10=>?_
   clear K9
   refine kw_ ?_
   intro h11 K11 kpz
   clear kpz
   exact hJ h11 q9 X9 M9 m9 ⟨kd,a',i6,i9,0,0,⟨0,0⟩,⟨#[]⟩⟩ _ rfl rfl o9 d9 (by omega) (by omega) K11
  ·exact hJ h8 q6 X6 M6 m6 ⟨kd,a',i6,0,0,0,⟨0,0⟩,⟨#[]⟩⟩ _ rfl rfl o6 (d6.more (by omega)) (by omega) (by omega) K8'
 (refine kr_ ?_)
 refine ad (fun _=>?_) (fun _=>?_)
 ·(refine kr_ ?_)
  refine kp_ ?_
  intro y h10 K10 _ _
  refine⟨_,rfl,?_⟩
  clear K9'
  refine kw_ ?_
  intro h11 K11 kpz
  clear kpz
  exact hJ h11 _ X M m ⟨kd,a,y,0,0,0,⟨0,0⟩,⟨#[]⟩⟩ _ rfl rfl o (d.more (by omega)) hne (by omega) K11
 (refine kr_ ?_)
 refine ad (fun _=>?_) (fun _=>?_)
 ·(refine kr_ ?_)
  refine kp_ ?_
  intro y h10 K10 hy _
  refine⟨_,rfl,?_⟩
  replace hy:(y:Int)<na.sort.wid:=hy (by omega)
  clear K9'
  refine kw_ ?_
  intro h11 K11 kpz
  clear kpz
  have K11':Kn g h11 ((b54, .inl ⟨[I na.sort.idx,I na.sort.wid],2,false⟩)::(b16, .inl ⟨nodeCells ⟨kd,a,0,0,0,y,⟨0,0⟩,⟨#[]⟩⟩,9,false⟩)::(b10, .inl ⟨eA,5,false⟩)::(b8, .inl ⟨aH M,5,false⟩)::(B,rdC s (q+1+1))::(A++X)):=K11
  clear K11 K10
  repeat' (refine kr_ ?_)
  (((with_reducible apply WP);(assumption);(assumption);((focus ((repeat first|exact .head|apply Upd.tail);done)))))
  ·omega
  ·(show W (na.sort.wid-(y:Int))<=1000000000);rw [cd (by omega) (by omega)];omega
  intro w h12 K12 _ _
  refine⟨_,rfl,?_⟩
  repeat' (refine kr_ ?_)
  clear K11'
  refine kw_ ?_
  intro h13 K13 kpz
  clear kpz
  exact hJ h13 _ X M m ⟨kd,a,0,0,W ((y:Int)+(w:Int)),y,⟨0,0⟩,⟨#[]⟩⟩ _ rfl rfl o (d.more (by omega)) hne (by omega) K13
 refine ap (fun J=> ∀c,J c) (fun c=>?_) (fun J hJ=>?_)
 rotate_left
 ·(refine kr_ ?_)
  refine ad (fun _=>hJ _) (fun _=>?_)
  (refine kr_ ?_)
  exact hJ _
 refine ad (fun _=>?_) (fun _=>?_)
 ·refine kp_ ?_
  intro y h10 K10 _ _
  refine⟨_,rfl,?_⟩
  clear K9'
  refine kw_ ?_
  intro h11 K11 kpz
  clear kpz
  exact hJ h11 _ X M m ⟨kd,a,0,0,y,0,⟨0,0⟩,⟨#[]⟩⟩ _ rfl rfl o (d.more (by omega)) hne (by omega) K11
 (refine kr_ ?_)
 refine lE ⟨_,rfl,?_⟩
 refine ad (fun _=>?_) (fun _=>?_)
 ·repeat' (refine kr_ ?_)
  refine ye (p:=q+1) (A:=(b54, .inl ⟨[I na.sort.idx,I na.sort.wid],2,false⟩)::(b16, .inl ⟨nodeCells ⟨kd,a,0,0,0,0,⟨0,0⟩,⟨#[]⟩⟩,9,false⟩)::(b10, .inl ⟨eA,5,false⟩)::(b8, .inl ⟨aH M,5,false⟩)::A) (st:=na.sort)
   (K9'.perm (CK _ _ _ _ _ _)) hb o d (by omega) hne (by omega) hst fun h6 q6 X6 M6 m6 i6 K6 o6 d6 hi6 hl6 hq6=>⟨_,_,_,_,_,_,rfl,?_⟩
  replace K6:=K6.perm (CK _ _ _ _ _ _).symm
  clear K9'
  refine vu (M':=M6) K6 (by((focus ((repeat first|exact .head|apply Upd.tail);done)))) rfl fun h7 K7=>?_
  clear K6
  refine kw_ ?_
  intro h8 K8 kpz
  clear kpz
  exact hJ h8 q6 X6 M6 m6 ⟨kd,a,i6,0,0,0,⟨0,0⟩,⟨#[]⟩⟩ _ rfl rfl o6 (d6.more (by omega)) (by omega) (by omega) K8
 ·exact hJ h9 _ X M m ⟨kd,a,0,0,0,0,⟨0,0⟩,⟨#[]⟩⟩ _ rfl rfl o (d.more (by omega)) hne (by omega) K9'
theorem DM.addI {m:ah} {N:Nat} (d:DM m N) (x:BindP):DM {m with inits:=m.inits++ [x]} (N+1):=
 ⟨Nat.le_succ_of_le d.nodes,d.sorts,d.names,by have:=d.inits;simp;omega,Nat.le_succ_of_le d.nexts,Nat.le_succ_of_le d.bads,Nat.le_succ_of_le d.holds⟩
theorem DM.addE {m:ah} {N:Nat} (d:DM m N) (x:BindP):DM {m with nexts:=m.nexts++ [x]} (N+1):=
 ⟨Nat.le_succ_of_le d.nodes,d.sorts,d.names,Nat.le_succ_of_le d.inits,by have:=d.nexts;simp;omega,Nat.le_succ_of_le d.bads,Nat.le_succ_of_le d.holds⟩
theorem DM.addB {m:ah} {N:Nat} (d:DM m N) (x:Int):DM {m with bads:=m.bads++ [x]} (N+1):=
 ⟨Nat.le_succ_of_le d.nodes,d.sorts,d.names,Nat.le_succ_of_le d.inits,Nat.le_succ_of_le d.nexts,by have:=d.bads;simp;omega,Nat.le_succ_of_le d.holds⟩
theorem DM.addH {m:ah} {N:Nat} (d:DM m N) (x:Int):DM {m with holds:=m.holds++ [x]} (N+1):=
 ⟨Nat.le_succ_of_le d.nodes,d.sorts,d.names,Nat.le_succ_of_le d.inits,Nat.le_succ_of_le d.nexts,Nat.le_succ_of_le d.bads,by have:=d.holds;simp;omega⟩
theorem WT {g h:Hp} {H X:List (Nat×Blk)} {b bn:Nat} {M:MSl} {m:ah} {nd:BindP} {J:Hp->Prop} (o:MG X M m) (K:Kn g h ((bn, .inl ⟨bindCells nd,2,false⟩)::(H++X))) (hm:m.inits.length<=10000) (hb:(b, .inl ⟨aH M,5,false⟩)∈H)
  (k: ∀s' X' h',MG X' {M with ini:=s'} {m with inits:=m.inits++ [nd]}->(∀H',Upd H b (.inl ⟨aH M,5,false⟩) (.inl ⟨aH {M with ini:=s'},5,false⟩) H'->Kn g h' (H'++X'))->J h'):
  cy h M.ini.a M.ini.n M.ini.c (some ⟨bn,0,none⟩) 1 2 16 fun a n c h95=> ∃(cs:List Value) (z:Nat),h95 b=some (.inl ⟨cs,z,false⟩)/\(0+1)+1<=List.length cs/\cM (h95.row b (bX cs (0+1) [.slice a n c]) z) fun h'=>J h':=by
 refine MG.appI (A:=_::H) (n:=nd) o K (by omega) (K.at (.head _)) fun s' X' h7 o' K7=>?_
 rw [List.cons_append]at K7
 have f:=K7.at (.tail _ (List.mem_append_left _ hb))
 exact⟨_,_,f,by simp,k s' X' _ o' fun H' u=>(K7.tl).set (u.app (X:=X'))⟩
theorem WA {g h:Hp} {H X:List (Nat×Blk)} {b bn:Nat} {M:MSl} {m:ah} {nd:BindP} {J:Hp->Prop} (o:MG X M m) (K:Kn g h ((bn, .inl ⟨bindCells nd,2,false⟩)::(H++X))) (hm:m.nexts.length<=10000) (hb:(b, .inl ⟨aH M,5,false⟩)∈H)
  (k: ∀s' X' h',MG X' {M with nex:=s'} {m with nexts:=m.nexts++ [nd]}->(∀H',Upd H b (.inl ⟨aH M,5,false⟩) (.inl ⟨aH {M with nex:=s'},5,false⟩) H'->Kn g h' (H'++X'))->J h'):
  cy h M.nex.a M.nex.n M.nex.c (some ⟨bn,0,none⟩) 1 2 16 fun a n c h95=> ∃(cs:List Value) (z:Nat),h95 b=some (.inl ⟨cs,z,false⟩)/\(0+2)+1<=List.length cs/\cM (h95.row b (bX cs (0+2) [.slice a n c]) z) fun h'=>J h':=by
 refine MG.appE (A:=_::H) (n:=nd) o K (by omega) (K.at (.head _)) fun s' X' h7 o' K7=>?_
 rw [List.cons_append]at K7
 have f:=K7.at (.tail _ (List.mem_append_left _ hb))
 exact⟨_,_,f,by simp,k s' X' _ o' fun H' u=>(K7.tl).set (u.app (X:=X'))⟩
theorem aaS {g h:Hp} {H X:List (Nat×Blk)} {b bn:Nat} {M:MSl} {m:ah} {nd:Int} {J:Hp->Prop} (o:MG X M m) (K:Kn g h ((bn, .inl ⟨[I nd],1,false⟩)::(H++X))) (hm:m.bads.length<=10000) (hb:(b, .inl ⟨aH M,5,false⟩)∈H)
  (k: ∀s' X' h',MG X' {M with bad:=s'} {m with bads:=m.bads++ [nd]}->(∀H',Upd H b (.inl ⟨aH M,5,false⟩) (.inl ⟨aH {M with bad:=s'},5,false⟩) H'->Kn g h' (H'++X'))->J h'):
  cy h M.bad.a M.bad.n M.bad.c (some ⟨bn,0,none⟩) 1 1 8 fun a n c h95=> ∃(cs:List Value) (z:Nat),h95 b=some (.inl ⟨cs,z,false⟩)/\(0+3)+1<=List.length cs/\cM (h95.row b (bX cs (0+3) [.slice a n c]) z) fun h'=>J h':=by
 refine MG.appB (A:=_::H) (n:=nd) o K (by omega) (K.at (.head _)) fun s' X' h7 o' K7=>?_
 rw [List.cons_append]at K7
 have f:=K7.at (.tail _ (List.mem_append_left _ hb))
 exact⟨_,_,f,by simp,k s' X' _ o' fun H' u=>(K7.tl).set (u.app (X:=X'))⟩
theorem Wo {g h:Hp} {H X:List (Nat×Blk)} {b bn:Nat} {M:MSl} {m:ah} {nd:Int} {J:Hp->Prop} (o:MG X M m) (K:Kn g h ((bn, .inl ⟨[I nd],1,false⟩)::(H++X))) (hm:m.holds.length<=10000) (hb:(b, .inl ⟨aH M,5,false⟩)∈H)
  (k: ∀s' X' h',MG X' {M with hol:=s'} {m with holds:=m.holds++ [nd]}->(∀H',Upd H b (.inl ⟨aH M,5,false⟩) (.inl ⟨aH {M with hol:=s'},5,false⟩) H'->Kn g h' (H'++X'))->J h'):
  cy h M.hol.a M.hol.n M.hol.c (some ⟨bn,0,none⟩) 1 1 8 fun a n c h95=> ∃(cs:List Value) (z:Nat),h95 b=some (.inl ⟨cs,z,false⟩)/\(0+4)+1<=List.length cs/\cM (h95.row b (bX cs (0+4) [.slice a n c]) z) fun h'=>J h':=by
 refine MG.appH (A:=_::H) (n:=nd) o K (by omega) (K.at (.head _)) fun s' X' h7 o' K7=>?_
 rw [List.cons_append]at K7
 have f:=K7.at (.tail _ (List.mem_append_left _ hb))
 exact⟨_,_,f,by simp,k s' X' _ o' fun H' u=>(K7.tl).set (u.app (X:=X'))⟩
set_option maxHeartbeats 2000000 in
theorem Uz {g h:Hp} {A X:List (Nat×Blk)} {B p N:Nat} {s:Sl} {bs:List Nat} {M:MSl} {m:ah} {R:Value->Hp->Prop} (K:Kn g h ((B,rdC s p)::(A++X))) (hb:ByteS g s bs) (o:MG X M m) (d:DM m N) (hN:N<=100)
  (hne:0<m.nodes.length) (hp:p<=100000)
  (k: ∀h' p' X' M' m',Kn g h' ((B,rdC s p')::(A++X'))->MG X' M' m'->DM m' (6*N)->0<m'.nodes.length->p'<=p+N*1000->R (aQ M') h'):
  ri #[.pointer (some ⟨B,0,none⟩),aQ M] h R:=by
 apply Ek
 refine uf_ ?_
 have hl:=o.lens
 have hsm:=d.small (by omega)
 have hdn:=d.nodes
 refine Kn.al K fun b8 h1 K1 l1 hb8=>?_
 refine Kn.al K1 fun b10 h2 K2 l2 hb10=>?_
 clear K K1 l1 l2 hb8 hb10
 (refine kr_ ?_)
 refine au m.nodes.length (fun i vs h'=> ∃q X' M' m',vs= [.pointer (some ⟨B,0,none⟩), .pointer (some ⟨b8,0,none⟩), .pointer (some ⟨b10,0,none⟩),I (M.no.n:Nat),I i]/\MG X' M' m'/\DM m' (N+5*i)/\m.nodes.length<=m'.nodes.length/\q<=p+i*1000/\
  Kn g h' ((b10, .inl ⟨eA,5,false⟩)::(b8, .inl ⟨aH M',5,false⟩)::(B,rdC s q)::(A++X'))) ⟨p,X,M,m,rfl,o,d,Nat.le_refl _,by omega,K2⟩ ?_
 clear K2 h1 h2 h
 rintro i _ h4 nxt hi ⟨q,X',M',m',rfl,o',d',hle,hq,K4⟩ hnx
 refine⟨_,b8,0,b10,0,_,_,rfl,?_⟩
 have hl':=o'.lens
 have hdn':=d'.nodes
 have hsm':=d'.small (by omega)
 by_cases hlt:i<m.nodes.length
 rotate_left
 ·refine aC (by rw [decide_eq_false_iff_not];omega) ?_
  repeat' (refine kr_ ?_)
  refine GR K4 (by((focus ((repeat first|exact .head|apply Upd.tail);done)))) fun h6 K6=>?_
  exact k h6 q X' M' m' K6.tl.tl o' (d'.more (by omega)) (by omega) (by omega)
 refine aM (by rw [decide_eq_true_eq];omega) ?_
 refine ap (fun J=> ∀h5 q X M1 m1,MG X M1 m1->DM m1 (N+5*(i+1))->m.nodes.length<=m1.nodes.length->q<=p+(i+1)*1000->Kn g h5 ((b10, .inl ⟨eA,5,false⟩)::(b8, .inl ⟨aH M1,5,false⟩)::(B,rdC s q)::(A++X))->J (some ⟨B,0,none⟩) b8 0 b10 0 (M.no.n:Nat) i h5)
  (fun h5 q X M1 m1 o1 d1 hl1 hq1 K5=>?_) (fun J hJ=>?_)
 ·rw [ay (by omega)]
  exact hnx hlt _ _ ⟨q,X,M1,m1,rfl,o1,d1,hl1,hq1,K5⟩
 clear hnx
 have hs:=o'.modelS (A:=_::_::_::A) hsm' K4
 obtain⟨ni,hni⟩: ∃n,m'.nodes[i]?=some n:=⟨_,List.getElem?_eq_getElem (by omega)⟩
 have hst:=uT d' hni
 obtain⟨b,oo,ha,e0,e1,e2,e3,e4,e5,e6,e7,e8⟩:=hs.nodes.at hni
 (refine kr_ ?_)
 refine⟨b,oo,ha,by omega,by omega,_,by rw [Int.toNat_natCast];exact e0,?_⟩
 refine ad (fun _=>hJ h4 q X' M' m' o' (d'.more (by omega)) hle (by omega) K4) (fun hkn=>?_)
 (refine kr_ ?_)
 refine⟨b,oo,ha,by omega,by omega,_,by rw [Int.toNat_natCast];exact e6,_,by rw [Int.toNat_natCast];exact e7,?_⟩
 generalize ni.sort=st at*
 clear hkn e0 e1 e2 e3 e4 e5 e6 e7 e8 hs hni ha ni oo b
 refine Kn.al K4 fun b41 h5 K5 l5 hb5=>?_
 refine kw_ ?_
 intro h6 K6 kpz
 clear kpz
 have K6':Kn g h6 ((b41, .inl ⟨[I st.idx,I st.wid],2,false⟩)::(b10, .inl ⟨eA,5,false⟩)::(b8, .inl ⟨aH M',5,false⟩)::(B,rdC s q)::(A++X')):=K6
 clear K6 K5 K4 l5 hb5
 obtain⟨_,hw1,hw2⟩:=nA hst
 refine kp_ ?_
 intro x49 h7 K7 hx49 _
 refine⟨_,rfl,?_⟩
 clear K6'
 refine ap (fun J2=> ∀h8 q2 X2 M2 m2,MG X2 M2 m2->DM m2 (N+5*i+2)->m.nodes.length<=m2.nodes.length->q2<=p+i*1000+2->Kn g h8 ((b41, .inl ⟨[I st.idx,I st.wid],2,false⟩)::(b10, .inl ⟨eA,5,false⟩)::(b8, .inl ⟨aH M2,5,false⟩)::(B,rdC s q2)::(A++X2))->J2 h8)
  (fun h8 q2 X2 M2 m2 o2 d2 hl2 hq2 K8=>?_) (fun J2 hJ2=>?_)
 rotate_left
 ·refine ad (fun _=>?_) (fun _=>hJ2 h7 _ X' M' m' o' (d'.more (by omega)) hle (by omega) K7)
  refine ap (fun J3=> ∀h8 s2 X2 q2 nd,MG X2 {M' with no:=s2} {m' with nodes:=m'.nodes++ [nd]}->bW nd.sort=true->nd.name.size=0->q2<=p+i*1000+2->
   Kn g h8 ((b41, .inl ⟨[I st.idx,I st.wid],2,false⟩)::(b10, .inl ⟨eA,5,false⟩)::(b8, .inl ⟨aH {M' with no:=s2},5,false⟩)::(B,rdC s q2)::(A++X2))->J3 h8) (fun h8 s2 X2 q2 nd o2 hs2 hn2 hq2 K8=>?_) (fun J3 hJ3=>?_)
  ·have hdi:=d'.inits
   (refine kr_ ?_)
   (refine kr_ ?_)
   refine Kn.al K8 fun b104 h9 K9 l9 hb9=>?_
   refine WT (H:=_::_::_::_::A) (nd:=⟨i,W ((s2.n:Int)-1)⟩) o2 K9 (by dsimp only;omega) (.tail _ (.tail _ (.head _))) fun s3 X3 h10 o3 KF=>?_
   have K10:=KF _ (by((focus ((repeat first|exact .head|apply Upd.tail);done))))
   simp only [List.cons_append]at K10
   clear KF K9 K8 K7
   refine hJ2 h10 q2 X3 _ _ o3 (((d'.addN hs2 (by omega)).addI _).more (by omega)) (by simp;omega) hq2 K10
  obtain⟨w,hw⟩: ∃w:Nat,st.wid=w:=⟨st.wid.toNat,by omega⟩
  have hp2:0<2^w:=Nat.two_pow_pos w
  have fin: ∀(y:Nat) (h5 h6:Hp) (q2 b:Nat),q2<=p+i*1000+2->
    Kn g h6 ((b, .inl ⟨[I 34,I 0,I 0,I 0,I (Int.tmod y (2^w:Nat)),I 0,I 0,I st.wid, .string ⟨#[]⟩],9,false⟩)::(b41, .inl ⟨[I st.idx,I st.wid],2,false⟩)::(b10, .inl ⟨eA,5,false⟩)::(b8, .inl ⟨aH M',5,false⟩)::(B,rdC s q2)::(A++X'))->
    cy h6 M'.no.a M'.no.n M'.no.c (some (Addr.mk b 0 none)) 1 9 80 fun a92 n93 k94 h95=> ∃(cs96:List Value) (z97:Nat),h95 b8=some (.inl ⟨cs96,z97,false⟩)/\0+1<=List.length cs96/\cM (h95.row b8 (bX cs96 0 [(.slice a92 n93 k94)]) z97) fun h98=>J3 h98:=by
   intro y h5 h6 q2 b hq2 K6
   refine nq (H:=_::_::_::_::A) (nd:=⟨34,0,0,0,Int.tmod y (2^w:Nat),0,cR st.wid,⟨#[]⟩⟩) o' K6 (by omega) (.tail _ (.tail _ (.head _))) fun s2 X2 h8 o2 KF=>?_
   have K8:=KF _ (by((focus ((repeat first|exact .head|apply Upd.tail);done))))
   simp only [List.cons_append]at K8
   exact hJ3 h8 s2 X2 q2 _ o2 (qP hw1 hw2) rfl hq2 K8
  repeat' (refine kr_ ?_)
  refine⟨?_,?_⟩
  ·refine kp_ ?_
   intro y h8 K8 hy _
   refine⟨_,rfl,?_⟩
   repeat' (refine kr_ ?_)
   refine⟨?_,?_⟩
   ·repeat' (refine kr_ ?_)
    rw [hw,cX (by omega),if_neg (by omega),cw (by omega),if_neg (by omega),<-hw]
    refine cm ⟨_,_,rfl,?_⟩
    repeat' (refine kr_ ?_)
    refine Kn.al K8 fun b90 h9 K9 l9 hb90=>?_
    (refine kr_ ?_)
    exact fin y h8 h9 _ b90 (by omega) K9
   ·repeat' (refine kr_ ?_)
    refine cm ⟨_,_,rfl,?_⟩
    repeat' (refine kr_ ?_)
    rw [hw,cX (by omega),if_neg (by omega),cw (by omega),if_neg (by omega),<-hw]
    refine Kn.al K8 fun b90 h9 K9 l9 hb90=>?_
    (refine kr_ ?_)
    exact fin y h8 h9 _ b90 (by omega) K9
  ·repeat' (refine kr_ ?_)
   rw [hw,cX (by omega),if_neg (by omega),cw (by omega),<-hw]
   refine kp_ ?_
   intro y h8 K8 hy _
   refine⟨_,rfl,?_⟩
   repeat' (refine kr_ ?_)
   rw [if_neg (by omega)]
   refine cm ⟨_,_,rfl,?_⟩
   repeat' (refine kr_ ?_)
   refine Kn.al K8 fun b90 h9 K9 l9 hb90=>?_
   (refine kr_ ?_)
   exact fin y h8 h9 _ b90 (by omega) K9
 clear K7 h7 hsm' hdn' hl' hq d' o' hle X' M' m' q
 have hl':=o2.lens
 have hdn':=d2.nodes
 have hsm':=d2.small (by omega)
 refine kp_ ?_
 intro x118 h9 K9 _ _
 refine⟨_,rfl,?_⟩
 refine ad (fun _=>hJ h9 _ X2 M2 m2 o2 (d2.more (by omega)) hl2 (by omega) K9.tl) (fun _=>?_)
 clear K8
 refine au m2.nodes.length (fun j vs h'=> ∃(a q:Nat),vs= [.pointer (some ⟨B,0,none⟩), .pointer (some ⟨b8,0,none⟩), .pointer (some ⟨b10,0,none⟩),I (M.no.n:Nat),I i, .pointer (some ⟨b41,0,none⟩),I a,I j]/\a<m2.nodes.length/\q<=p+i*1000+3+j/\
  Kn g h' ((b41, .inl ⟨[I st.idx,I st.wid],2,false⟩)::(b10, .inl ⟨eA,5,false⟩)::(b8, .inl ⟨aH M2,5,false⟩)::(B,rdC s q)::(A++X2))) ⟨i,_,rfl,by omega,by omega,K9⟩ ?_
 clear K9 h9 h8 hq2
 rintro j _ h8 nxt hj ⟨a,q,rfl,haL,hq,K8⟩ hnx
 refine⟨_,b8,0,b10,0,_,_,b41,0,_,_,rfl,?_⟩
 have hs:=o2.modelS (A:=_::_::_::_::A) hsm' K8
 (refine kr_ ?_)
 by_cases hlj:j<m2.nodes.length
 ·refine aM (by rw [decide_eq_true_eq];omega) ?_
  refine ap (fun J3=> ∀(c:Nat) h5 q,c<m2.nodes.length->q<=p+i*1000+3+(j+1)->Kn g h5 ((b41, .inl ⟨[I st.idx,I st.wid],2,false⟩)::(b10, .inl ⟨eA,5,false⟩)::(b8, .inl ⟨aH M2,5,false⟩)::(B,rdC s q)::(A++X2))->J3 (c:Int) h5) (fun c h5 q' hc hq' K5=>?_) (fun J3 hJ3=>?_)
  ·rw [ay (by omega)]
   exact hnx hlj _ _ ⟨c,q',rfl,hc,hq',K5⟩
  ·(refine kr_ ?_)
   obtain⟨nj,hnj⟩: ∃n,m2.nodes[j]?=some n:=⟨_,List.getElem?_eq_getElem hlj⟩
   obtain⟨b,oo,ha,e0,e1,e2,e3,e4,e5,e6,e7,e8⟩:=hs.nodes.at hnj
   refine⟨b,oo,ha,by omega,by omega,_,by rw [Int.toNat_natCast];exact e6,_,by rw [Int.toNat_natCast];exact e7,?_⟩
   (refine kr_ ?_)
   (refine kr_ ?_)
   refine ad (fun e=>?_) (fun e=>?_)
   ·(refine kr_ ?_)
    refine⟨b,oo,ha,by omega,by omega,_,by rw [Int.toNat_natCast];exact e0,?_⟩
    refine ad (fun e=>?_) (fun e=>?_)
    ·refine ad (fun e=>?_) (fun e=>?_)
     ·exact hJ3 _ h8 q hlj (by omega) K8
     refine kp_ ?_
     intro x h5 K5 hx _
     refine⟨_,rfl,?_⟩
     exact ad (fun e=>hJ3 _ h5 (q+1) hlj (by omega) K5) (fun e=>hJ3 _ h5 (q+1) haL (by omega) K5)
    ·exact hJ3 _ h8 q haL (by omega) K8
   ·exact hJ3 _ h8 q haL (by omega) K8
 refine aC (by rw [decide_eq_false_iff_not];omega) ?_
 clear hnx hs
 refine ap (fun J3=> ∀(c:Bool) h5 q,q<=p+i*1000+4+m2.nodes.length->Kn g h5 ((b41, .inl ⟨[I st.idx,I st.wid],2,false⟩)::(b10, .inl ⟨eA,5,false⟩)::(b8, .inl ⟨aH M2,5,false⟩)::(B,rdC s q)::(A++X2))->J3 c h5) (fun c h5 q' hq' K5=>?_) (fun J3 hJ3=>?_)
 rotate_left
 ·refine ad (fun e=>?_) (fun e=>hJ3 _ h8 q (by omega) K8)
  repeat' (refine kr_ ?_)
  refine ad (fun e=>?_) (fun e=>hJ3 _ h8 q (by omega) K8)
  refine kp_ ?_
  intro x h5 K5 hx _
  exact⟨_,rfl,hJ3 _ h5 (q+1) (by omega) K5⟩
 clear K8 hq q h8
 refine ap (fun J3=> ∀(x:Int) h5 q X3 M3 m3,MG X3 M3 m3->DM m3 (N+5*i+4)->m.nodes.length<=m3.nodes.length->q<=p+i*1000+4+m2.nodes.length->Kn g h5 ((b41, .inl ⟨[I st.idx,I st.wid],2,false⟩)::(b10, .inl ⟨eA,5,false⟩)::(b8, .inl ⟨aH M3,5,false⟩)::(B,rdC s q)::(A++X3))->J3 x h5)
  (fun x h6 q X3 M3 m3 o3 d3 hl3 hq3 K6=>?_) (fun J3 hJ3=>?_)
 ·have hde:=d3.nexts
  (refine kr_ ?_)
  refine Kn.al K6 fun b202 h9 K9 l9 hb9=>?_
  refine WA (H:=_::_::_::_::A) (nd:=⟨i,x⟩) o3 K9 (by omega) (.tail _ (.tail _ (.head _))) fun s3 X4 h10 o4 KF=>?_
  have K10:=KF _ (by((focus ((repeat first|exact .head|apply Upd.tail);done))))
  simp only [List.cons_append]at K10
  exact hJ h10 q X4 _ _ o4 ((d3.addE _).more (by omega)) (by simp;omega) (by omega) K10.tl
 refine ad (fun e=>?_) (fun e=>hJ3 _ h5 q' X2 M2 m2 o2 (d2.more (by omega)) hl2 (by omega) K5)
 repeat' (refine kr_ ?_)
 refine Kn.al K5 fun b173 h6 K6 l6 hb6=>?_
 refine nq (H:=_::_::_::_::A) (nd:=⟨34,0,0,0,1,0,st,⟨#[]⟩⟩) o2 K6 (by omega) (.tail _ (.tail _ (.head _))) fun s3 X3 h7 o3 KF=>?_
 have K7:=KF _ (by((focus ((repeat first|exact .head|apply Upd.tail);done))))
 simp only [List.cons_append]at K7
 clear KF K6 K5
 repeat' (refine kr_ ?_)
 refine Kn.al K7 fun b187 h8 K8 l8 hb8=>?_
 refine nq (H:=_::_::_::_::A) (nd:=⟨9,i,W ((s3.n:Int)-1),0,0,0,st,⟨#[]⟩⟩) o3 K8 (by simp;omega) (.tail _ (.tail _ (.head _))) fun s4 X4 h9 o4 KF=>?_
 have K9:=KF _ (by((focus ((repeat first|exact .head|apply Upd.tail);done))))
 simp only [List.cons_append]at K9
 clear KF K8 K7
 repeat' (refine kr_ ?_)
 have dA:=d2.addN (n:=⟨34,0,0,0,1,0,st,⟨#[]⟩⟩) hst (show (0:Nat)<=100 by omega)
 have dB:=dA.addN (n:=⟨9,i,W ((s3.n:Int)-1),0,0,0,st,⟨#[]⟩⟩) hst (show (0:Nat)<=100 by omega)
 exact hJ3 _ h9 q' X4 _ _ o4 (dB.more (by omega)) (by simp;omega) (by omega) K9
inductive Pk {α:Type}:List α->α->List α->Prop
 |head {L:List α} {a:α}:Pk (a::L) a L
 |tail {L L':List α} {a e:α}:Pk L a L'->Pk (e::L) a (e::L')
theorem Pk.perm {α:Type} {L L':List α} {a:α} (u:Pk L a L'):L.Perm (a::L'):=by
 induction u with
 |head=>exact List.Perm.refl _
 |tail _ ih=>exact(List.Perm.cons _ ih).trans (List.Perm.swap ..)
abbrev ah6 (w:Int):List NodeP:= [⟨36,0,0,0,0,0,⟨0,w⟩,⟨#[120]⟩⟩,⟨34,0,0,0,0,0,⟨0,w⟩,⟨#[]⟩⟩,⟨34,0,0,0,1,0,⟨0,w⟩,⟨#[]⟩⟩,⟨34,0,0,0,3,0,⟨0,w⟩,⟨#[]⟩⟩,⟨35,0,0,0,0,0,⟨0,1⟩,⟨#[103,111]⟩⟩,
 ⟨9,0,2,0,0,0,⟨0,w⟩,⟨#[]⟩⟩,⟨33,4,5,0,0,0,⟨0,w⟩,⟨#[]⟩⟩,⟨21,0,3,0,0,0,⟨0,1⟩,⟨#[]⟩⟩]
abbrev aiU (w:Int):ah:=⟨ah6 w, [⟨0,1⟩], [⟨0,6⟩], [7], []⟩
abbrev aiv (w:Int):List Value:=(ah6 w).flatMap nodeCells
set_option maxHeartbeats 4000000 in
theorem xH {g h:Hp} {A:List (Nat×Blk)} {B p:Nat} {s:Sl} {bs:List Nat} {R:Value->Hp->Prop} (K:Kn g h ((B,rdC s p)::A)) (hb:ByteS g s bs) (hp:p<=900000)
  (k: ∀h' p' X' M' m',Kn g h' ((B,rdC s p')::(A++X'))->MG X' M' m'->DM m' 8->aF m'=0->0<m'.nodes.length->p'<=p+1->R (aQ M') h'):
  iA #[.pointer (some ⟨B,0,none⟩)] h R:=by
 apply Ax
 refine uf_ ?_
 refine Kn.al K fun b3 h1 K1 l1 hb3=>?_
 clear K l1 hb3
 refine kp_ ?_
 intro x h2 K2 hx _
 refine⟨_,rfl,?_⟩
 have hx':x<2:=by have:=hx (by omega);omega
 clear K1
 refine cm ⟨_,_,rfl,?_⟩
 refine Kn.al K2 fun b14 h3 K3 l3 hb14=>?_
 refine kw_ ?_
 intro h4 K4 kpz
 clear kpz
 obtain⟨w,hw,hw2⟩: ∃w:Int,W (2+(x:Int))=w/\(w=2\/w=3):=⟨_,rfl,by rw [cd (by omega) (by omega)];omega⟩
 rw [hw]at K4
 have K4':Kn g h4 ((b14, .inl ⟨[I 0,I w],2,false⟩)::(b3, .inl ⟨eA,5,false⟩)::(B,rdC s (p+1))::A):=K4
 clear K4 K3 K2
 refine ap (fun J=> ∀h5 (bN bI bE bB:Nat),Kn g h5 ((bN, .inl ⟨aiv w,72,false⟩)::(bI, .inl ⟨[I 0,I 1],2,false⟩)::(bE, .inl ⟨[I 0,I 6],2,false⟩)::(bB, .inl ⟨[I 7],1,false⟩)::(b14, .inl ⟨[I 0,I w],2,false⟩)::
   (b3, .inl ⟨aH ⟨⟨some ⟨bN,0,none⟩,8,8⟩,⟨some ⟨bI,0,none⟩,1,1⟩,⟨some ⟨bE,0,none⟩,1,1⟩,⟨some ⟨bB,0,none⟩,1,1⟩,⟨none,0,0⟩⟩,5,false⟩)::(B,rdC s (p+1))::A)->J h5) (fun h5 bN bI bE bB K5=>?_) (fun J hJ=>?_)
 ·clear K4'
  repeat' (refine kr_ ?_)
  have K6:=(K5.perm (List.perm_append_comm (l₁:= [_,_,_,_]) (l₂:=_::_::_::A))).tl.tl
  refine k h5 (p+1) _ ⟨⟨some ⟨bN,0,none⟩,8,8⟩,⟨some ⟨bI,0,none⟩,1,1⟩,⟨some ⟨bE,0,none⟩,1,1⟩,⟨some ⟨bB,0,none⟩,1,1⟩,⟨none,0,0⟩⟩ (aiU w) K6 ?_ ?_ ?_ ?_ (Nat.le_refl _)
  ·exact⟨[_], [_], [_], [_], [],rfl,⟨rfl,Nat.le_refl _, .inr ⟨bN,rfl,rfl⟩⟩,⟨rfl,Nat.le_refl _, .inr ⟨bI,rfl,rfl⟩⟩,⟨rfl,Nat.le_refl _, .inr ⟨bE,rfl,rfl⟩⟩,⟨rfl,Nat.le_refl _, .inr ⟨bB,rfl,rfl⟩⟩,cF 1⟩
  ·refine⟨Nat.le_refl _,?_,?_,show (1:Nat)<=8 by omega,show (1:Nat)<=8 by omega,show (1:Nat)<=8 by omega,show (0:Nat)<=8 by omega⟩
   ·rcases hw2 with rfl|rfl<;>decide
   ·rcases hw2 with rfl|rfl<;>decide
  ·rcases hw2 with rfl|rfl<;>decide
  ·exact Nat.succ_pos _
 have leaf: ∀h5 L L1 L2 L3 (bN bI bE bB:Nat),Kn g h5 L->Pk L (bN, .inl ⟨aiv w,72,false⟩) L1->Pk L1 (bI, .inl ⟨[I 0,I 1],2,false⟩) L2->Pk L2 (bE, .inl ⟨[I 0,I 6],2,false⟩) L3->
   Pk L3 (bB, .inl ⟨[I 7],1,false⟩) ((b14, .inl ⟨[I 0,I w],2,false⟩)::(b3, .inl ⟨eA,5,false⟩)::(B,rdC s (p+1))::A)->
   ∃(cs:List Value) (z:Nat),h5 b3=some (.inl ⟨cs,z,false⟩)/\0+5<=List.length cs/\cM (h5.row b3 (bX cs 0 [.slice (some ⟨bN,0,none⟩) 8 8, .slice (some ⟨bI,0,none⟩) 1 1, .slice (some ⟨bE,0,none⟩) 1 1, .slice (some ⟨bB,0,none⟩) 1 1, .slice none 0 0]) z) fun h'=>J h':=by
  intro h5 L L1 L2 L3 bN bI bE bB K p1 p2 p3 p4
  have K':=K.perm (p1.perm.trans (List.Perm.cons _ (p2.perm.trans (List.Perm.cons _ (p3.perm.trans (List.Perm.cons _ p4.perm))))))
  refine vu (M':=⟨⟨some ⟨bN,0,none⟩,8,8⟩,⟨some ⟨bI,0,none⟩,1,1⟩,⟨some ⟨bE,0,none⟩,1,1⟩,⟨some ⟨bB,0,none⟩,1,1⟩,⟨none,0,0⟩⟩) K' (by((focus ((repeat first|exact .head|apply Upd.tail);done)))) rfl fun h6 K6=>?_
  exact hJ h6 bN bI bE bB K6
 clear k hJ hw2 hw hx' hx
 repeat' (refine kr_ ?_)
 repeat' first
  |(refine kr_ ?_)
  |refine cm ⟨_,_,rfl,?_⟩
  |((with_reducible apply Kn.al);(assumption);(intro b hN KN lN hbN))
  |(refine leaf _ _ _ _ _ _ _ _ _ (by assumption) (by((focus ((repeat first|exact .head|apply Pk.tail);done)))) (by((focus ((repeat first|exact .head|apply Pk.tail);done)))) (by((focus ((repeat first|exact .head|apply Pk.tail);done)))) (by((focus ((repeat first|exact .head|apply Pk.tail);done)))))
  |refine⟨?_,?_⟩
theorem Kn.subl {g h:Hp} {L L':List (Nat×Blk)} (K:Kn g h L) (s:L'.Sublist L):Kn g h L':=K.sub (fun e he=>s.subset he) (List.Nodup.sublist (s.map _) K.nd)
theorem IC {g h:Hp} {L:List (Nat×Blk)} {s:Sl} {bs:List Nat} {R:Value->Hp->Prop} (K:Kn g h L) (hcap:s.n<=s.c) (hs:ByteS g s bs)
  (k: ∀B h' s' bs',ByteS g s' bs'->Kn g h' ((B,rdC s' 0)::L)->R (.pointer (some ⟨B,0,none⟩)) h'):jM #[s.v] h R:=by
 apply A9
 refine uf_ ?_
 have hl:=hs.len
 refine ad (fun e=>?_) (fun e=>?_)
 ·have e':2000<s.n:=by simp at e;omega
  obtain⟨b,o,ha,hc⟩:=SlC.get hs.1 (by omega)
  refine⟨by simp,by simp,by omega, .inr ⟨b,o,ha,?_⟩⟩
  refine Kn.al K fun B h1 K1 l1 hB=>?_
  have e0:(if s.c=(Int.ofNat 0).toNat then o else o+(Int.ofNat 0).toNat*1)=o:=by split<;>simp
  rw [e0]at K1
  refine k B h1 ⟨some ⟨b,o,none⟩,2000,s.c⟩ (bs.take 2000) ?_ K1
  refine⟨⟨by simp,by simp;omega, .inr ⟨b,o,rfl,?_⟩⟩,fun x hx=>hs.2 x (List.mem_of_mem_take hx)⟩
  intro i v hv
  refine hc i v ?_
  rw [List.map_take,List.getElem?_take]at hv
  split at hv
  ·exact hv
  ·cases hv
 ·refine Kn.al K fun B h1 K1 l1 hB=>?_
  exact k B h1 s bs hs K1
theorem C8 {α:Type} (a b c:α) (L:List α):(a::b::c::L).Perm (c::a::b::L):=(List.Perm.cons a (List.Perm.swap c b L)).trans (List.Perm.swap c a _)
set_option maxHeartbeats 2000000 in
theorem J9 {g h:Hp} {A:List (Nat×Blk)} {B p:Nat} {s:Sl} {bs:List Nat} {R:Value->Hp->Prop} (K:Kn g h ((B,rdC s p)::A)) (hb:ByteS g s bs) (hp:p<=10000)
  (k: ∀h' p' X' M' m',Kn g h' ((B,rdC s p')::(A++X'))->MG X' M' m'->DM m' 400->aF m'=0->0<m'.nodes.length->p'<=p+100000->R (aQ M') h'):
  mA #[.pointer (some ⟨B,0,none⟩)] h R:=by
 apply Fj
 refine uf_ ?_
 refine Kn.al K fun b3 h1 K1 l1 hb3=>?_
 clear K l1 hb3
 refine kp_ ?_
 intro x h2 K2 _ _
 refine⟨_,rfl,?_⟩
 clear K1
 refine QI (A:=(b3, .inl ⟨eA,5,false⟩)::A) K2.sw hb (by omega) fun h3 p3 X3 M3 m3 K3 o3 d3 n3 hp3=>⟨_,_,_,_,_,rfl,?_⟩
 replace K3:Kn g h3 ((b3, .inl ⟨eA,5,false⟩)::(B,rdC s p3)::(A++X3)):=K3.sw
 clear K2
 refine Kn.al K3 fun b16 h4 K4 l4 hb16=>?_
 clear K3 l4 hb16
 refine vu (M':=M3) K4 (by((focus ((repeat first|exact .head|apply Upd.tail);done)))) rfl fun h5 K5=>?_
 clear K4
 refine kp_ ?_
 intro n h6 K6 hn _
 refine⟨_,rfl,?_⟩
 replace hn:n<14:=by have:=hn (by omega);omega
 clear K5
 refine au n (fun i vs h'=> ∃q X' M' m',vs= [.pointer (some ⟨B,0,none⟩), .pointer (some ⟨b3,0,none⟩), .pointer (some ⟨b16,0,none⟩),I n,I i]/\MG X' M' m'/\DM m' (12+3*i)/\0<m'.nodes.length/\q<=p+100+i*20/\
  Kn g h' ((b16, .inl ⟨aH M',5,false⟩)::(b3, .inl ⟨eA,5,false⟩)::(B,rdC s q)::(A++X'))) ⟨p3+1,X3,M3,m3,rfl,o3,d3,n3,by omega,K6⟩ ?_
 clear K6 hp3 n3 d3 o3 m3 M3 X3 p3 h6 h5 h4 h3 h2 h1 h
 rintro i _ h4 nxt hi ⟨q,X',M',m',rfl,o',d',hle,hq,K4⟩ hnx
 refine⟨_,b3,0,b16,0,_,_,rfl,?_⟩
 by_cases hlt:i<n
 ·refine aM (by rw [decide_eq_true_eq];omega) ?_
  repeat' (refine kr_ ?_)
  refine U6 (A:=(b16, .inl ⟨aH M',5,false⟩)::(b3, .inl ⟨eA,5,false⟩)::A) (K4.perm (C8 _ _ _ _)) hb o' d' (by omega) hle (by omega) fun h5 q5 X5 M5 m5 K5 o5 d5 n5 hq5=>⟨_,_,_,_,_,rfl,?_⟩
  replace K5:=K5.perm (C8 _ _ _ _).symm
  refine vu (M':=M5) K5 (by((focus ((repeat first|exact .head|apply Upd.tail);done)))) rfl fun h6 K6=>?_
  rw [ay (by omega)]
  exact hnx hlt _ _ ⟨q5,X5,M5,m5,rfl,o5,d5.more (by omega),n5,by omega,K6⟩
 refine aC (by rw [decide_eq_false_iff_not];omega) ?_
 clear hnx
 repeat' (refine kr_ ?_)
 refine Uz (N:=51) (A:=(b16, .inl ⟨aH M',5,false⟩)::(b3, .inl ⟨eA,5,false⟩)::A) (K4.perm (C8 _ _ _ _)) hb o' (d'.more (by omega)) (by omega) hle (by omega) fun h5 q5 X5 M5 m5 K5 o5 d5 n5 hq5=>⟨_,_,_,_,_,rfl,?_⟩
 replace K5:=K5.perm (C8 _ _ _ _).symm
 clear K4
 refine vu (M':=M5) K5 (by((focus ((repeat first|exact .head|apply Upd.tail);done)))) rfl fun h6 K6=>?_
 clear K5
 refine kp_ ?_
 intro x76 h7 K7 hx76 _
 refine⟨_,rfl,?_⟩
 clear K6
 refine kp_ ?_
 intro x80 h8 K8 _ _
 refine⟨_,rfl,?_⟩
 clear K7
 refine ap (fun J=> ∀c:Nat,c<=2->J (c:Int)) (fun c hc=>?_) (fun J hJ=>?_)
 rotate_left
 ·refine ad (fun _=>hJ 0 (by omega)) (fun _=>?_)
  have:=hx76 (by omega)
  rw [show (1:Int)+(x76:Nat)=((1+x76:Nat):Int) by omega,fV (by omega)]
  exact hJ _ (by omega)
 refine au c (fun i vs h'=> ∃q X' M' m',vs= [.pointer (some ⟨B,0,none⟩), .pointer (some ⟨b3,0,none⟩), .pointer (some ⟨b16,0,none⟩),I c,I i]/\MG X' M' m'/\DM m' (306+4*i)/\0<m'.nodes.length/\q<=p+51500+i*2000/\
  Kn g h' ((b16, .inl ⟨aH M',5,false⟩)::(b3, .inl ⟨eA,5,false⟩)::(B,rdC s q)::(A++X'))) ⟨_,X5,M5,m5,rfl,o5,d5,n5,by omega,K8⟩ ?_
 clear K8 hq5 n5 d5 o5 m5 M5 X5 q5 h8 h7 h6 h5 hq d' o' hle hx76 hlt hi
 clear M' m' X' q h4 nxt i
 rintro i _ h4 nxt hi ⟨q,X',M',m',rfl,o',d',hle,hq,K4⟩ hnx
 refine⟨_,b3,0,b16,0,_,_,rfl,?_⟩
 by_cases hlt:i<c
 ·refine aM (by rw [decide_eq_true_eq];omega) ?_
  repeat' (refine kr_ ?_)
  refine Ph (A:=(b16, .inl ⟨aH M',5,false⟩)::(b3, .inl ⟨eA,5,false⟩)::A) (K4.perm (C8 _ _ _ _)) hb o' d' (by omega) hle (by omega) fun h5 q5 X5 M5 m5 i5 K5 o5 d5 hi5 hl5 hq5=>⟨_,_,_,_,_,_,rfl,?_⟩
  replace K5:=K5.perm (C8 _ _ _ _).symm
  clear K4
  refine vu (M':=M5) K5 (by((focus ((repeat first|exact .head|apply Upd.tail);done)))) rfl fun h6 K6=>?_
  clear K5
  have hdb:=d5.bads
  (refine kr_ ?_)
  refine Kn.al K6 fun b119 h7 K7 l7 hb7=>?_
  refine aaS (H:=_::_::_::A) (nd:=(i5:Nat)) o5 K7 (by omega) (.head _) fun s8 X8 h8 o8 KF=>?_
  have K8:=KF _ (by((focus ((repeat first|exact .head|apply Upd.tail);done))))
  simp only [List.cons_append]at K8
  rw [ay (by omega)]
  exact hnx hlt _ _ ⟨q5,X8,_,_,rfl,o8,(d5.addB _).more (by omega),by dsimp only;omega,by omega,K8⟩
 refine aC (by rw [decide_eq_false_iff_not];omega) ?_
 clear hnx
 refine kp_ ?_
 intro x132 h5 K5 _ _
 refine⟨_,rfl,?_⟩
 clear K4
 refine ap (fun J=> ∀h5 q X' M' m',MG X' M' m'->DM m' 400->0<m'.nodes.length->q<=p+60000->Kn g h5 ((b16, .inl ⟨aH M',5,false⟩)::(b3, .inl ⟨eA,5,false⟩)::(B,rdC s q)::(A++X'))->J h5)
  (fun h5 q X' M' m' o' d' hle hq K5=>?_) (fun J hJ=>?_)
 ·have hs:=o'.modelS (A:=_::_::_::A) (d'.small (by omega)) K5
  repeat' (refine kr_ ?_)
  refine cj hs (d'.small (by omega)) ⟨_,rfl,?_⟩
  refine ad (fun e=>?_) (fun e=>?_)
  ·refine xH (A:=(b3, .inl ⟨eA,5,false⟩)::(A++X')) K5.tl.sw hb (by omega) fun h6 q6 X6 M6 m6 K6 o6 d6 c6 n6 hq6=>⟨_,_,_,_,_,rfl,?_⟩
   replace K6:Kn g h6 ((b3, .inl ⟨eA,5,false⟩)::(B,rdC s q6)::((A++X')++X6)):=K6.sw
   refine GR (M:=M6) K6 (by((focus ((repeat first|exact .head|apply Upd.tail);done)))) fun h7 K7=>?_
   refine k h7 q6 X6 M6 m6 (K7.tl.subl ?_) o6 (d6.more (by omega)) c6 n6 (by omega)
   exact List.Sublist.cons_cons _ (List.Sublist.append_right (List.sublist_append_left _ _) _)
  ·repeat' (refine kr_ ?_)
   refine GR (M:=M') K5 (by((focus ((repeat first|exact .head|apply Upd.tail);done)))) fun h7 K7=>?_
   exact k h7 q X' M' m' K7.tl.tl o' d' (by simpa using e) hle (by omega)
 refine ad (fun e=>?_) (fun e=>hJ _ _ _ _ _ o' (d'.more (by omega)) hle (by omega) K5)
 repeat' (refine kr_ ?_)
 refine Ph (A:=(b16, .inl ⟨aH M',5,false⟩)::(b3, .inl ⟨eA,5,false⟩)::A) (K5.perm (C8 _ _ _ _)) hb o' d' (by omega) hle (by omega) fun h6 q6 X6 M6 m6 i6 K6 o6 d6 hi6 hl6 hq6=>⟨_,_,_,_,_,_,rfl,?_⟩
 replace K6:=K6.perm (C8 _ _ _ _).symm
 clear K5
 refine vu (M':=M6) K6 (by((focus ((repeat first|exact .head|apply Upd.tail);done)))) rfl fun h7 K7=>?_
 clear K6
 refine kp_ ?_
 intro x155 h8 K8 _ _
 refine⟨_,rfl,?_⟩
 clear K7
 refine ap (fun J2=> ∀(y:Int) h5 q X' M' m',MG X' M' m'->DM m' 330->0<m'.nodes.length->q<=p+60000->Kn g h5 ((b16, .inl ⟨aH M',5,false⟩)::(b3, .inl ⟨eA,5,false⟩)::(B,rdC s q)::(A++X'))->J2 y h5)
  (fun y h9 q9 X9 M9 m9 o9 d9 hle9 hq9 K9=>?_) (fun J2 hJ2=>?_)
 ·have hdh:=d9.holds
  (refine kr_ ?_)
  refine Kn.al K9 fun b119 h10 K10 l10 hb10=>?_
  refine Wo (H:=_::_::_::A) (nd:=y) o9 K10 (by omega) (.head _) fun s8 X8 h8 o8 KF=>?_
  have K11:=KF _ (by((focus ((repeat first|exact .head|apply Upd.tail);done))))
  simp only [List.cons_append]at K11
  exact hJ _ _ _ _ _ o8 ((d9.addH _).more (by omega)) (by dsimp only;omega) (by omega) K11
 refine ad (fun e=>?_) (fun e=>hJ2 _ _ _ _ _ _ o6 (d6.more (by omega)) (by omega) (by omega) K8)
 have hdn:=d6.nodes
 (refine kr_ ?_)
 refine cm ⟨_,_,rfl,?_⟩
 repeat' (refine kr_ ?_)
 refine Kn.al K8 fun b163 h9 K9 l9 hb9=>?_
 (refine kr_ ?_)
 refine nq (H:=_::_::_::A) (nd:=⟨1,(i6:Nat),0,0,0,0,cR 1,⟨#[]⟩⟩) o6 K9 (by omega) (.head _) fun s10 X10 h10 o10 KF=>?_
 have K10:=KF _ (by((focus ((repeat first|exact .head|apply Upd.tail);done))))
 simp only [List.cons_append]at K10
 clear K9 K8
 repeat' (refine kr_ ?_)
 have dA:=d6.addN (n:=⟨1,(i6:Nat),0,0,0,0,cR 1,⟨#[]⟩⟩) (qP (by omega) (by omega)) (show (0:Nat)<=100 by omega)
 exact hJ2 _ _ _ _ _ _ o10 (dA.more (by omega)) (by simp) (by omega) K10
theorem xf {h:Hp} {s t:Sl} {xs:List Int} {R:Value->Hp->Prop} (hs:IntS h s xs) (ht:IntS h t xs) (k:R (.bool true) h):ke #[s.v,t.v] h R:=by
 refine CO ?_
 refine uf_ ?_
 have ls:=hs.len
 have lt:=ht.len
 have hb:=hs.bound
 refine aC (by simp [ls,lt]) ?_
 refine au xs.length (fun i vs h'=>vs= [s.v,t.v,I i]/\h'=h) ⟨rfl,rfl⟩ ?_
 rintro i _ _ next hi ⟨rfl,rfl⟩ hn
 refine⟨_,_,_,rfl,?_⟩
 by_cases hlt:i<xs.length
 ·obtain⟨b,o,ha,hc⟩:=hs.at hlt
  obtain⟨b',o',ha',hc'⟩:=ht.at hlt
  refine aM (by simp [ls,hlt]) ?_
  simp only [vm,ls,lt,ha,ha',hc,hc',ay (n:=i) (by omega)]
  exact⟨by omega,by omega,aC (by simp) (hn hlt _ _ ⟨rfl,rfl⟩)⟩
 ·exact aC (by simp [ls];omega) k
theorem Qz {h:Hp} {sS sI tS tI:Sl} {xs ys:List Int} {R:Value->Hp->Prop} (h1:IntS h sS xs/\IntS h sI ys) (h2:IntS h tS xs/\IntS h tI ys) (k:R (.bool true) h):vP #[.agg #[sS.v,sI.v], .agg #[tS.v,tI.v]] h R:=by
 refine ACalls.drop (Ms ?_)
 refine uf_ ?_
 have K0:=Kn.nil h
 (with_reducible apply Kn.al);(assumption);(intro b6 h3 K1 l1 hb6)
 (with_reducible apply Kn.al);(assumption);(intro b8 h4 K2 l2 hb8)
 clear K1 K0
 repeat' (refine kr_ ?_)
 refine xf (h1.1.mono K2.le) (h2.1.mono K2.le) ⟨_,rfl,aM rfl ?_⟩
 repeat' (refine kr_ ?_)
 refine xf (h1.2.mono K2.le) (h2.2.mono K2.le) ⟨_,rfl,⟨h,K2.le,k⟩⟩
theorem ab9 : ∀(vs xs ys:List Value) (o:Nat),bX (xs++ys) (xs.length+o) vs=xs++bX ys o vs:=by
 intro vs
 induction vs with
 |nil=>intro xs ys o;rfl
 |cons v vs ih=>intro xs ys o;rw [sg,sg,List.set_append_right (xs.length+o) v (by omega),Nat.add_sub_cancel_left,Nat.add_assoc,ih]
theorem Yj : ∀(vs xs ys:List Value) (o:Nat),o+vs.length<=xs.length->bX (xs++ys) o vs=bX xs o vs++ys:=by
 intro vs
 induction vs with
 |nil=>intro xs ys o _;rfl
 |cons v vs ih=>
  intro xs ys o h
  rw [List.length_cons]at h
  rw [sg,sg,List.set_append_left o v (by omega),ih _ _ _ (by rw [List.length_set];omega)]
theorem Yo {off:Nat} {vs:List Value} {n n':NodeP} (hv:bX (nodeCells n) off vs=nodeCells n') (ho:off+vs.length<=9): ∀{l:List NodeP} {i:Nat},l[i]?=some n->bX (l.flatMap nodeCells) (i*9+off) vs=(l.set i n').flatMap nodeCells:=by
 intro l
 induction l with
 |nil=>intro i h;simp at h
 |cons a l ih=>
  intro i h
  cases i with
  |zero=>
   have:a=n:=by simpa using h
   subst this
   rw [List.set_cons_zero,List.flatMap_cons,List.flatMap_cons,Nat.zero_mul,Nat.zero_add,Yj _ _ _ _ (by show _<=9;exact ho),hv]
  |succ i=>
   have h':l[i]?=some n:=by simpa using h
   rw [List.set_cons_succ,List.flatMap_cons,List.flatMap_cons,show (i+1)*9+off=(nodeCells a).length+(i*9+off) by show _=9+_;omega,ab9,ih h']
theorem Upd.appL {L L':List (Nat×Blk)} {b:Nat} {x y:Blk} (u:Upd L b x y L'): ∀A:List (Nat×Blk),Upd (A++L) b x y (A++L')
 | []=>u
 |_::A=> .tail (u.appL A)
theorem wT {g h:Hp} {A X:List (Nat×Blk)} {M:MSl} {m:ah} {i off k:Nat} {n n':NodeP} {vs:List Value} {F:Nat->Nat} {J:Hp->Prop} (o:MG X M m) (K:Kn g h (A++X)) (hni:m.nodes[i]?=some n)
  (hv:bX (nodeCells n) off vs=nodeCells n') (hk:vs.length=k) (ho:off+k<=9) (hF:F 0=i*9+off)
  (J': ∀X' h',MG X' M {m with nodes:=m.nodes.set i n'}->Kn g h' (A++X')->J h'):
  ∃(b p:Nat),M.no.a=some ⟨b,p,none⟩/\(0:Int)<=(i:Nat)/\((i:Nat):Int)<((M.no.n:Nat):Int)/\ ∃(cs:List Value) (z:Nat),h b=some (.inl ⟨cs,z,false⟩)/\F p+k<=List.length cs/\cM (h.row b (bX cs (F p) vs) z) fun h'=>J h':=by
 have hi:=get_lt hni
 have hl:=o.lens
 obtain⟨XN,XI,XE,XB,XH,rfl,a,b',c,d,e⟩:=o
 rcases a.2.2 with ⟨_,h0,_⟩|⟨b,ha,rfl⟩
 ·rw [h0]at hl;have:=hl.1;dsimp only at this;omega
 subst hk
 have hc:bX (m.nodes.flatMap nodeCells) (F 0) vs=(m.nodes.set i n').flatMap nodeCells:=by rw [hF];exact Yo hv ho hni
 refine⟨b,0,ha,by omega,by omega,?_⟩
 refine Kn.wr (cs:=m.nodes.flatMap nodeCells) (z:=M.no.c*9) (o:=F 0) (vs:=vs) K (L':=A++([(b, .inl ⟨(m.nodes.set i n').flatMap nodeCells,M.no.c*9,false⟩)]++(XI++(XE++(XB++(XH++ [])))))) (by rw [hc];exact Upd.appL .head A) (by rw [hF,a.1];omega) fun h' K' _=>?_
 exact J' _ h' ⟨_,XI,XE,XB,XH,rfl,⟨by rw [ck (m:=9) (fun _=>rfl),List.length_set];omega,a.2.1, .inr ⟨b,ha,rfl⟩⟩,b',c,d,e⟩ K'
structure DZ (m:ah) (N:Nat):Prop where
 nodes:m.nodes.length<=N
 names: ∀n∈m.nodes,n.name.size<=100
 inits:m.inits.length<=N
 nexts:m.nexts.length<=N
 bads:m.bads.length<=N
 holds:m.holds.length<=N
theorem DM.z {m:ah} {N:Nat} (d:DM m N):DZ m N:=⟨d.nodes,d.names,d.inits,d.nexts,d.bads,d.holds⟩
theorem DZ.small {m:ah} {N:Nat} (d:DZ m N) (hN:N<=100000):bR m:=
 ⟨by have:=d.nodes;omega,by have:=d.inits;omega,by have:=d.nexts;omega,by have:=d.bads;omega,by have:=d.holds;omega,fun n hn=>by have:=d.names n hn;omega⟩
theorem DZ.more {m:ah} {N N':Nat} (d:DZ m N) (h:N<=N'):DZ m N':=
 ⟨Nat.le_trans d.nodes h,d.names,Nat.le_trans d.inits h,Nat.le_trans d.nexts h,Nat.le_trans d.bads h,Nat.le_trans d.holds h⟩
theorem DZ.addN {m:ah} {N:Nat} (d:DZ m N) {n:NodeP} (h2:n.name.size<=100):DZ {m with nodes:=m.nodes++ [n]} (N+1):=
 ⟨by have:=d.nodes;simp;omega,fun x hx=>by rcases List.mem_append.1 hx with hx|hx;exact d.names x hx;rw [List.mem_singleton.1 hx];exact h2,
  Nat.le_succ_of_le d.inits,Nat.le_succ_of_le d.nexts,Nat.le_succ_of_le d.bads,Nat.le_succ_of_le d.holds⟩
theorem DZ.set {m:ah} {N i:Nat} (d:DZ m N) {n:NodeP} (h2:n.name.size<=100):DZ {m with nodes:=m.nodes.set i n} N:=
 ⟨by have:=d.nodes;simp;omega,fun x hx=>by rcases List.mem_or_eq_of_mem_set hx with hx|rfl;exact d.names x hx;exact h2,d.inits,d.nexts,d.bads,d.holds⟩
theorem DZ.addI {m:ah} {N:Nat} (d:DZ m N) (x:BindP):DZ {m with inits:=m.inits++ [x]} (N+1):=
 ⟨Nat.le_succ_of_le d.nodes,d.names,by have:=d.inits;simp;omega,Nat.le_succ_of_le d.nexts,Nat.le_succ_of_le d.bads,Nat.le_succ_of_le d.holds⟩
theorem DZ.addE {m:ah} {N:Nat} (d:DZ m N) (x:BindP):DZ {m with nexts:=m.nexts++ [x]} (N+1):=
 ⟨Nat.le_succ_of_le d.nodes,d.names,Nat.le_succ_of_le d.inits,by have:=d.nexts;simp;omega,Nat.le_succ_of_le d.bads,Nat.le_succ_of_le d.holds⟩
theorem DZ.addB {m:ah} {N:Nat} (d:DZ m N) (xs:List Int) (hx:xs.length<=N):DZ {m with bads:=m.bads++xs} (2*N):=
 ⟨by have:=d.nodes;dsimp only;omega,d.names,by have:=d.inits;dsimp only;omega,by have:=d.nexts;dsimp only;omega,by have:=d.bads;simp;omega,by have:=d.holds;dsimp only;omega⟩
theorem DZ.addH {m:ah} {N:Nat} (d:DZ m N) (x:Int):DZ {m with holds:=m.holds++ [x]} (N+1):=
 ⟨Nat.le_succ_of_le d.nodes,d.names,Nat.le_succ_of_le d.inits,Nat.le_succ_of_le d.nexts,Nat.le_succ_of_le d.bads,by have:=d.holds;simp;omega⟩
theorem MG.appBs {g h:Hp} {A X:List (Nat×Blk)} {M:MSl} {m:ah} {xs:List Int} {src:Option Addr} {C:Option Addr->Nat->Nat->Hp->Prop} (o:MG X M m) (K:Kn g h (A++X)) (hm:m.bads.length+xs.length<=100000) (hx:0<xs.length)
  (f: ∃b p,src=some ⟨b,p,none⟩/\ji h b p (xs.map I))
  (k: ∀s' X' h',MG X' {M with bad:=s'} {m with bads:=m.bads++xs}->Kn g h' (A++X')->C s'.a s'.n s'.c h'):cy h M.bad.a M.bad.n M.bad.c src xs.length 1 8 C:=by
 have hl:=o.lens
 obtain⟨XN,XI,XE,XB,XH,rfl,a,b',c,d,e⟩:=o
 have sw: ∀Z:List (Nat×Blk),A++(XN++(XI++(XE++(Z++(XH++ [])))))=(A++(XN++XI))++(XE++(Z++(XH++ []))):=fun Z=>by simp
 rw [sw]at K
 refine Kn.growIn2 (news:=xs.map I) K d hx (by omega) (by omega) f (by simp) (List.all_eq_true.2 fun v hv=>by obtain⟨y,_,rfl⟩:=List.mem_map.1 hv;rfl) fun s' X' h' hn a' K' _=>?_
 rw [<-sw]at K'
 exact k s' _ h' ⟨XN,XI,XE,X',XH,rfl,a,b',c,by rw [List.map_append];exact a',e⟩ K'
abbrev ah9 :List Value:= [.string ⟨#[120]⟩, .string ⟨#[]⟩, .string ⟨#[88]⟩, .string ⟨#[116,111,111,108,111,110,103,110,97,109,101]⟩]
theorem aix {i:Nat} (h:i<4): ∃s:ByteArray,ah9[i]?=some (.string s)/\s.size<=100:=by
 rcases i with _|_|_|_|i
 ·exact⟨_,rfl,by decide⟩
 ·exact⟨_,rfl,by decide⟩
 ·exact⟨_,rfl,by decide⟩
 ·exact⟨_,rfl,by decide⟩
 ·omega
theorem ae5 {h:Hp} {A X:List (Nat×Blk)} {g:Hp} {M:MSl} {m:ah} (o:MG X M m) (K:Kn g h (A++X)) (hm:m.bads.length<=100000) (hp:0<m.bads.length): ∃b p,M.bad.a=some ⟨b,p,none⟩/\ji h b p (m.bads.map I):=by
 have hl:=o.lens
 obtain⟨XN,XI,XE,XB,XH,rfl,a,b',c,d,e⟩:=o
 have:=(d.slcOf (h:=h) (by omega) fun x hx=>K.mem x (List.mem_append_right _ (by simp [hx])))
 exact SlC.get this (by omega)
theorem U8 {g h:Hp} {H X:List (Nat×Blk)} {b:Nat} {M:MSl} {m:ah} {N:Nat} {J:Hp->Prop} (o:MG X M m) (d:DZ m N) (hN:N<=10000) (K:Kn g h (H++X)) (hb:(b, .inl ⟨aH M,5,false⟩)∈H)
  (k: ∀s' X' h' m',MG X' {M with bad:=s'} m'->DZ m' (2*N)->(∀H',Upd H b (.inl ⟨aH M,5,false⟩) (.inl ⟨aH {M with bad:=s'},5,false⟩) H'->Kn g h' (H'++X'))->J h'):
  cy h M.bad.a M.bad.n M.bad.c M.bad.a M.bad.n 1 8 fun a n c h95=> ∃(cs:List Value) (z:Nat),h95 b=some (.inl ⟨cs,z,false⟩)/\3+1<=List.length cs/\cM (h95.row b (bX cs 3 [.slice a n c]) z) fun h'=>J h':=by
 have hl:=o.lens
 have hd:=d.bads
 by_cases h0:m.bads.length=0
 ·have hc:M.bad.n<=M.bad.c:=by obtain⟨_,_,_,_,_,_,_,_,_,d',_⟩:=o;exact d'.2.1
  refine .inl ⟨by omega,hc,?_⟩
  have f:=K.at (List.mem_append_left _ hb)
  exact⟨_,_,f,by simp,k M.bad X _ m o (d.more (by omega)) fun H' u=>K.set (u.app (X:=X))⟩
 have e:M.bad.n=m.bads.length:=by omega
 have key:=MG.appBs (xs:=m.bads) (C:=fun a n c h95=> ∃(cs:List Value) (z:Nat),h95 b=some (.inl ⟨cs,z,false⟩)/\3+1<=List.length cs/\cM (h95.row b (bX cs 3 [.slice a n c]) z) fun h'=>J h') o K (by omega) (by omega) (ae5 o K (by omega) (by omega)) fun s' X' h7 o' K7=>by
  have f:=K7.at (List.mem_append_left _ hb)
  exact⟨_,_,f,by simp,k s' X' _ _ o' (d.addB _ d.bads) fun H' u=>K7.set (u.app (X:=X'))⟩
 rw [<-e]at key
 exact key
set_option maxHeartbeats 4000000 in
theorem Bo {g h:Hp} {A:List (Nat×Blk)} {B p:Nat} {s:Sl} {bs:List Nat} {R:Value->Hp->Prop} (K:Kn g h ((B,rdC s p)::A)) (hb:ByteS g s bs) (hp:p<=10000)
  (k: ∀h' p' X' M' m',Kn g h' ((B,rdC s p')::(A++X'))->MG X' M' m'->DZ m' 4000->p'<=p+200000->R (aQ M') h'):
  jL #[.pointer (some ⟨B,0,none⟩)] h R:=by
 apply Ds
 refine uf_ ?_
 refine Kn.al K fun b3 h1 K1 l1 hb3=>?_
 clear K l1 hb3
 refine J9 (A:=(b3, .inl ⟨eA,5,false⟩)::A) K1.sw hb hp fun h2 p2 X2 M2 m2 K2 o2 d2 c2 n2 hp2=>⟨_,_,_,_,_,rfl,?_⟩
 replace K2:Kn g h2 ((b3, .inl ⟨eA,5,false⟩)::(B,rdC s p2)::(A++X2)):=K2.sw
 refine Kn.al K2 fun b13 h3 K3 l3 hb13=>?_
 clear K2 l3 hb13
 refine vu (M':=M2) K3 (by((focus ((repeat first|exact .head|apply Upd.tail);done)))) rfl fun h4 K4=>?_
 clear K3
 refine kp_ ?_
 intro x21 h5 K5 _ _
 refine⟨_,rfl,?_⟩
 clear K4
 refine ap (fun J=> ∀h5 q X M m,MG X M m->DZ m 400->0<m.nodes.length->q<=p+100002->Kn g h5 ((b13, .inl ⟨aH M,5,false⟩)::(b3, .inl ⟨eA,5,false⟩)::(B,rdC s q)::(A++X))->J h5)
  (fun hz q X M m o d hne hq Kz=>?_) (fun J hJ=>?_)
 rotate_left
 ·refine ad (fun _=>?_) (fun _=>hJ h5 _ X2 M2 m2 o2 d2.z n2 (by omega) K5)
  refine xH (A:=(b13, .inl ⟨aH M2,5,false⟩)::(b3, .inl ⟨eA,5,false⟩)::(A++X2)) (K5.perm (C8 _ _ _ _)) hb (by omega) fun h6 q6 X6 M6 m6 K6 o6 d6 c6 n6 hq6=>⟨_,_,_,_,_,rfl,?_⟩
  have K6':Kn g h6 ((b13, .inl ⟨aH M2,5,false⟩)::(b3, .inl ⟨eA,5,false⟩)::(B,rdC s q6)::((A++X2)++X6)):=K6.perm (C8 _ _ _ _).symm
  clear K5 K6
  refine vu (M':=M6) K6' (by((focus ((repeat first|exact .head|apply Upd.tail);done)))) rfl fun h7 K7=>?_
  refine hJ h7 q6 X6 M6 m6 o6 (d6.z.more (by omega)) n6 (by omega) (K7.subl ?_)
  exact List.Sublist.cons_cons _ (List.Sublist.cons_cons _ (List.Sublist.cons_cons _ (List.Sublist.append_right (List.sublist_append_left _ _) _)))
 clear K5 K1 o2 d2 c2 n2 hp2 m2 M2 X2 p2
 have hl:=o.lens
 have hnl:=d.nodes
 refine kp_ ?_
 intro x38 h6 K6 _ _
 refine⟨_,rfl,?_⟩
 clear Kz
 refine ad (fun _=>?_) (fun _=>?_)
 ·repeat' (refine kr_ ?_)
  refine GR (M:=M) K6 (by((focus ((repeat first|exact .head|apply Upd.tail);done)))) fun h7 K7=>?_
  exact k h7 _ X M m K7.tl.tl o (d.more (by omega)) (by omega)
 repeat' (refine kr_ ?_)
 refine kp_ ?_
 intro a h7 K7 ha _
 refine⟨_,rfl,?_⟩
 replace ha:a<m.nodes.length:=by have:=ha (by omega);omega
 clear K6
 refine kp_ ?_
 intro x62 h8 K8 _ _
 refine⟨_,rfl,?_⟩
 clear K7
 refine ap (fun J=> ∀h5 q X M m,MG X M m->DZ m 4000->q<=p+200000->Kn g h5 ((b13, .inl ⟨aH M,5,false⟩)::(b3, .inl ⟨eA,5,false⟩)::(B,rdC s q)::(A++X))->J b3 0 b13 0 h5)
  (fun h5 q X M m o d hq K5=>?_) (fun J hJ=>?_)
 ·repeat' (refine kr_ ?_)
  refine GR (M:=M) K5 (by((focus ((repeat first|exact .head|apply Upd.tail);done)))) fun h7 K7=>?_
  exact k h7 _ X M m K7.tl.tl o d (by omega)
 clear k
 obtain⟨n,hna⟩: ∃n,m.nodes[a]?=some n:=⟨_,List.getElem?_eq_getElem ha⟩
 have hnm:=d.names n (List.mem_of_getElem? hna)
 have dset: ∀n':NodeP,n'.name.size<=100->DZ {m with nodes:=m.nodes.set a n'} 4000:=fun n' h=>(d.set h).more (by omega)
 refine ad (fun _=>?_) (fun _=>ad (fun _=>?_) (fun _=>ad (fun _=>?_) (fun _=>ad (fun _=>?_) (fun _=>ad (fun _=>?_) (fun _=>ad (fun _=>?_) (fun _=>ad (fun _=>?_) (fun _=>ad (fun _=>?_) (fun _=>ad (fun _=>?_) (fun _=>ad (fun _=>?_) (fun _=>ad (fun _=>?_) (fun _=>ad (fun _=>?_) (fun _=>ad (fun _=>?_) (fun _=>ad (fun _=>?_) (fun _=>?_))))))))))))))
 ·(refine kr_ ?_)
  refine kp_ ?_
  intro x h9 K9 _ _
  refine⟨_,rfl,?_⟩
  (refine kr_ ?_)
  refine wT (A:=_::_::_::A) (n':={n with kind:=W ((x:Int)-1)}) (off:=0) o K9 hna rfl rfl (by omega) (by rw [Int.toNat_natCast];omega) fun X' h10 o' K10=>?_
  exact hJ h10 _ X' M _ o' (dset _ hnm) (by omega) K10
 ·(refine kr_ ?_)
  (refine kr_ ?_)
  rw [cd (by omega) (by omega)]
  refine kp_ ?_
  intro x h9 K9 _ _
  refine⟨_,rfl,?_⟩
  (refine kr_ ?_)
  refine wT (A:=_::_::_::A) (n':={n with a:=W ((x:Int)-1)}) (off:=1) o K9 hna rfl rfl (by omega) (by rw [Int.toNat_natCast];omega) fun X' h10 o' K10=>?_
  exact hJ h10 _ X' M _ o' (dset _ hnm) (by omega) K10
 ·(refine kr_ ?_)
  refine kp_ ?_
  intro x h9 K9 _ _
  refine⟨_,rfl,?_⟩
  (refine kr_ ?_)
  refine wT (A:=_::_::_::A) (n':={n with n:=W ((x:Int)-2)}) (off:=4) o K9 hna rfl rfl (by omega) (by rw [Int.toNat_natCast];omega) fun X' h10 o' K10=>?_
  exact hJ h10 _ X' M _ o' (dset _ hnm) (by omega) K10
 ·(refine kr_ ?_)
  refine kp_ ?_
  intro x h9 K9 _ _
  refine⟨_,rfl,?_⟩
  (refine kr_ ?_)
  refine wT (A:=_::_::_::A) (n':={n with sort:=⟨n.sort.idx,W ((x:Int)-1)⟩}) (off:=7) o K9 hna rfl rfl (by omega) (by rw [Int.toNat_natCast];omega) fun X' h10 o' K10=>?_
  exact hJ h10 _ X' M _ o' (dset _ hnm) (by omega) K10
 ·(refine kr_ ?_)
  refine⟨?_,?_⟩
  ·refine Kn.al K8 fun b111 h9 K9 l9 hb9=>?_
   (refine kr_ ?_)
   refine kp_ ?_
   intro x h10 K10 hx _
   refine⟨_,rfl,?_⟩
   replace hx:x<4:=by have:=hx (by omega);omega
   obtain⟨t,ht,hz⟩:=aix hx
   repeat' (refine kr_ ?_)
   refine⟨by omega,by omega,t,by rw [ax (K10.at (.head _)),Int.toNat_natCast,Nat.zero_add,Nat.mul_one];exact ht,?_⟩
   refine wT (A:=_::_::_::_::A) (n':={n with name:=t}) (off:=8) o K10 hna rfl rfl (by omega) (by rw [Int.toNat_natCast];omega) fun X' h11 o' K11=>?_
   exact hJ h11 _ X' M _ o' (dset _ hz) (by omega) K11.tl
  ·refine kp_ ?_
   intro x h9 K9 hx _
   refine⟨_,rfl,?_⟩
   replace hx:x<4:=by have:=hx (by omega);omega
   obtain⟨t,ht,hz⟩:=aix hx
   (refine kr_ ?_)
   refine Kn.al K9 fun b111 h10 K10 l10 hb10=>?_
   repeat' (refine kr_ ?_)
   refine⟨by omega,by omega,t,by rw [ax (K10.at (.head _)),Int.toNat_natCast,Nat.zero_add,Nat.mul_one];exact ht,?_⟩
   refine wT (A:=_::_::_::_::A) (n':={n with name:=t}) (off:=8) o K10 hna rfl rfl (by omega) (by rw [Int.toNat_natCast];omega) fun X' h11 o' K11=>?_
   exact hJ h11 _ X' M _ o' (dset _ hz) (by omega) K11.tl
 ·(refine kr_ ?_)
  refine cm ⟨_,_,rfl,?_⟩
  (refine kr_ ?_)
  obtain⟨n0,hn0⟩: ∃n,m.nodes[0]?=some n:=⟨_,List.getElem?_eq_getElem hne⟩
  refine wT (A:=_::_::_::A) (i:=0) (n':={n0 with sort:=cR 9}) (off:=6) o K8 hn0 rfl rfl (by omega) rfl fun X' h10 o' K10=>?_
  exact hJ h10 _ X' M _ o' ((DZ.set (i:=0) (n:={n0 with sort:=cR 9}) d (d.names n0 (List.mem_of_getElem? hn0))).more (by omega)) (by omega) K10
 ·have hdi:=d.inits
  (refine kr_ ?_)
  refine Kn.al K8 fun b9 h9 K9 l9 hb9=>?_
  refine WT (H:=_::_::_::A) (nd:=⟨0,(a:Nat)⟩) o K9 (by omega) (.head _) fun s' X' h10 o' KF=>?_
  have K10:=KF _ (by((focus ((repeat first|exact .head|apply Upd.tail);done))))
  simp only [List.cons_append]at K10
  exact hJ h10 _ X' _ _ o' ((d.addI _).more (by omega)) (by omega) K10
 ·have hde:=d.nexts
  (refine kr_ ?_)
  (refine kr_ ?_)
  refine kp_ ?_
  intro x h9 K9 _ _
  refine⟨_,rfl,?_⟩
  (refine kr_ ?_)
  refine Kn.al K9 fun b9 h10 K10 l10 hb10=>?_
  (refine kr_ ?_)
  refine WA (H:=_::_::_::A) (nd:=⟨(x:Nat),(a:Nat)⟩) o K10 (by omega) (.head _) fun s' X' h11 o' KF=>?_
  have K11:=KF _ (by((focus ((repeat first|exact .head|apply Upd.tail);done))))
  simp only [List.cons_append]at K11
  exact hJ h11 _ X' _ _ o' ((d.addE _).more (by omega)) (by omega) K11
 ·have hdb:=d.bads
  (refine kr_ ?_)
  (refine kr_ ?_)
  rw [cd (by omega) (by omega)]
  refine kp_ ?_
  intro x h9 K9 _ _
  refine⟨_,rfl,?_⟩
  (refine kr_ ?_)
  refine Kn.al K9 fun b9 h10 K10 l10 hb10=>?_
  (refine kr_ ?_)
  refine aaS (H:=_::_::_::A) (nd:=W ((x:Int)-1)) o K10 (by omega) (.head _) fun s' X' h11 o' KF=>?_
  have K11:=KF _ (by((focus ((repeat first|exact .head|apply Upd.tail);done))))
  simp only [List.cons_append]at K11
  exact hJ h11 _ X' _ _ o' ((d.addB [_] (by simp)).more (by omega)) (by omega) K11
 ·have hdh:=d.holds
  (refine kr_ ?_)
  refine Kn.al K8 fun b9 h9 K9 l9 hb9=>?_
  refine Wo (H:=_::_::_::A) (nd:=(a:Nat)) o K9 (by omega) (.head _) fun s' X' h10 o' KF=>?_
  have K10:=KF _ (by((focus ((repeat first|exact .head|apply Upd.tail);done))))
  simp only [List.cons_append]at K10
  exact hJ h10 _ X' _ _ o' ((d.addH _).more (by omega)) (by omega) K10
 ·(refine kr_ ?_)
  (refine kr_ ?_)
  refine U8 (H:=_::_::_::A) o d (by omega) K8 (.head _) fun s' X' h9 m' o' d' KF=>?_
  have K9:=KF _ (by((focus ((repeat first|exact .head|apply Upd.tail);done))))
  simp only [List.cons_append]at K9
  clear KF K8
  (refine kr_ ?_)
  (refine kr_ ?_)
  refine U8 (H:=_::_::_::A) o' d' (by omega) K9 (.head _) fun s2 X2 h10 m2 o2 d2 KF=>?_
  have K10:=KF _ (by((focus ((repeat first|exact .head|apply Upd.tail);done))))
  simp only [List.cons_append]at K10
  clear KF K9
  (refine kr_ ?_)
  (refine kr_ ?_)
  refine U8 (H:=_::_::_::A) o2 d2 (by omega) K10 (.head _) fun s3 X3 h11 m3 o3 d3 KF=>?_
  have K11:=KF _ (by((focus ((repeat first|exact .head|apply Upd.tail);done))))
  simp only [List.cons_append]at K11
  exact hJ h11 _ X3 _ _ o3 (d3.more (by omega)) (by omega) K11
 ·refine au 62 (fun i vs h'=> ∃q X M m',vs= [.pointer (some ⟨B,0,none⟩), .pointer (some ⟨b3,0,none⟩), .pointer (some ⟨b13,0,none⟩)]/\MG X M m'/\DZ m' (400+i)/\m'.nodes.length=m.nodes.length+i/\q<=p+100010+i/\
   Kn g h' ((b13, .inl ⟨aH M,5,false⟩)::(b3, .inl ⟨eA,5,false⟩)::(B,rdC s q)::(A++X))) ⟨_,X,M,m,rfl,o,d,rfl,by omega,K8⟩ ?_
  clear K8
  rintro i _ h9 nxt hi ⟨q',X',M',m',rfl,o',d',hl',hq',K9⟩ hnx
  refine⟨_,b3,0,b13,0,rfl,?_⟩
  have hn':=o'.lens
  (refine kr_ ?_)
  refine kp_ ?_
  intro x h10 K10 hx _
  refine⟨_,rfl,?_⟩
  replace hx:x<2:=by have:=hx (by omega);omega
  (refine kr_ ?_)
  rw [cd (by omega) (by omega)]
  refine ad (fun e=>?_) (fun e=>hJ h10 _ X' M' m' o' (d'.more (by omega)) (by omega) K10)
  have e:=of_decide_eq_true e
  clear K9
  (refine kr_ ?_)
  refine cm ⟨_,_,rfl,?_⟩
  (refine kr_ ?_)
  refine Kn.al K10 fun b9 h11 K11 l11 hb11=>?_
  (refine kr_ ?_)
  refine nq (H:=_::_::_::A) (nd:=⟨34,0,0,0,0,0,cR 3,⟨#[]⟩⟩) o' K11 (by omega) (.head _) fun s' X3 h12 o3 KF=>?_
  have K12:=KF _ (by((focus ((repeat first|exact .head|apply Upd.tail);done))))
  simp only [List.cons_append]at K12
  exact hnx (by omega) _ _ ⟨_,X3,_,_,rfl,o3,d'.addN (n:=⟨34,0,0,0,0,0,cR 3,⟨#[]⟩⟩) (show (0:Nat)<=100 by omega),by simp;omega,by omega,K12⟩
 ·(refine kr_ ?_)
  refine kp_ ?_
  intro x h9 K9 _ _
  refine⟨_,rfl,?_⟩
  (refine kr_ ?_)
  refine wT (A:=_::_::_::A) (n':={n with sort:=⟨(x:Nat),n.sort.wid⟩}) (off:=6) o K9 hna rfl rfl (by omega) (by rw [Int.toNat_natCast];omega) fun X' h10 o' K10=>?_
  exact hJ h10 _ X' M _ o' (dset _ hnm) (by omega) K10
 ·(refine kr_ ?_)
  refine cm ⟨_,_,rfl,?_⟩
  (refine kr_ ?_)
  refine Kn.al K8 fun b9 h11 K11 l11 hb11=>?_
  (refine kr_ ?_)
  refine nq (H:=_::_::_::A) (nd:=⟨35,0,0,0,0,0,cR 4,⟨#[119,105,100,101]⟩⟩) o K11 (by omega) (.head _) fun s' X3 h12 o3 KF=>?_
  have K12:=KF _ (by((focus ((repeat first|exact .head|apply Upd.tail);done))))
  simp only [List.cons_append]at K12
  exact hJ h12 _ X3 _ _ o3 ((d.addN (n:=⟨35,0,0,0,0,0,cR 4,⟨#[119,105,100,101]⟩⟩) (show (4:Nat)<=100 by omega)).more (by omega)) (by omega) K12
 ·exact hJ h8 _ X M m o (d.more (by omega)) (by omega) K8
theorem EF {h:Hp} {M:MSl} {m:ah} {x:Int} {R:Value->Hp->Prop} (hs:aO h M m) (hm:bR m) (hc:aF m=0)
  (kf: ∀h',¬(0<=x/\x<(2^ak m.nodes 36:Nat))->h.le h'->R (.tuple #[.slice none 0 0, .bool false]) h')
  (kt: ∀(c:Nat) out h',x=c->c<2^ak m.nodes 36->h.le h'->IntSS h' out ((dL m.nodes (stP m) c).map VL)->R (.tuple #[Sl.v out, .bool true]) h'):jC #[aQ M,I x] h R:=by
 apply AF
 refine uf_ ?_
 have g:=cD hc
 have n8:=g.n8
 have hp2:2^ak m.nodes 36<=2^8:=Nat.pow_le_pow_right (by omega) n8
 have hp0:0<2^ak m.nodes 36:=Nat.two_pow_pos _
 have K0:=Kn.nil h
 (with_reducible apply Kn.al);(assumption);(intro b8 h1 K1 l1 hb8)
 clear K0
 have hs1:=hs.mono K1.le
 refine ap (fun J=>J (!decide (0<=x/\x<=((2^ak m.nodes 36:Nat):Int)-1)) h1) ?_ (fun J hJ=>?_)
 rotate_left
 ·repeat' (refine kr_ ?_)
  refine cj hs1 hm ⟨_,rfl,?_⟩
  refine aC (by rw [hc];rfl) ?_
  repeat' (refine kr_ ?_)
  refine ja hs1 hm ⟨_,rfl,?_⟩
  rw [cX (by omega),if_neg (by omega),cw (by omega),cd (by omega) (by omega)]
  exact eu ⟨_,rfl,hJ⟩
 refine ad (fun e=>kf h1 (fun q=>by
  have e':decide (0<=x/\x<=((2^ak m.nodes 36:Nat):Int)-1)=false:=by rw [Bool.not_eq_true']at e;exact e
  have:=of_decide_eq_false e'
  omega) K1.le) (fun e=>?_)
 have hx:0<=x/\x<(2^ak m.nodes 36:Nat):=by
  have:decide (0<=x/\x<=((2^ak m.nodes 36:Nat):Int)-1)=true:=by simpa using e
  have:=of_decide_eq_true this
  omega
 clear e kf
 obtain⟨c,rfl⟩: ∃c:Nat,x=c:=⟨x.toNat,by omega⟩
 repeat' (refine kr_ ?_)
 refine cJ hs1 hm fun t h2 l2 it=>⟨_,rfl,?_⟩
 have K2:=K1.mono l2
 (refine kr_ ?_)
 refine fM (hs1.mono l2) hm g.ok it (fun p hp=>ld hp) (ge g 36) (by omega) (by rw [eM g];omega) fun out h3 l3 io=>⟨_,rfl,?_⟩
 exact kt c out h3 rfl (by omega) (Hp.le_trans K2.le l3) io
theorem E9 {h:Hp} {M:MSl} {m:ah} {x:Int} {R:Value->Hp->Prop} (hs:aO h M m) (hm:bR m) (hc:aF m=0)
  (kf: ∀h',¬(0<=x/\x<(2^ak m.nodes 35:Nat))->h.le h'->R (.tuple #[.slice none 0 0, .bool false]) h')
  (kt: ∀(c:Nat) out h',x=c->c<2^ak m.nodes 35->h.le h'->IntSS h' out ((dL m.nodes (inP m) c).map VL)->R (.tuple #[Sl.v out, .bool true]) h'):kG #[aQ M,I x] h R:=by
 apply Jh
 refine uf_ ?_
 have g:=cD hc
 have n8:=g.k5
 have hp2:2^ak m.nodes 35<=2^5:=Nat.pow_le_pow_right (by omega) n8
 have hp0:0<2^ak m.nodes 35:=Nat.two_pow_pos _
 have K0:=Kn.nil h
 (with_reducible apply Kn.al);(assumption);(intro b8 h1 K1 l1 hb8)
 clear K0
 have hs1:=hs.mono K1.le
 refine ap (fun J=>J (!decide (0<=x/\x<=((2^ak m.nodes 35:Nat):Int)-1)) h1) ?_ (fun J hJ=>?_)
 rotate_left
 ·repeat' (refine kr_ ?_)
  refine cj hs1 hm ⟨_,rfl,?_⟩
  refine aC (by rw [hc];rfl) ?_
  repeat' (refine kr_ ?_)
  refine ja hs1 hm ⟨_,rfl,?_⟩
  rw [cX (by omega),if_neg (by omega),cw (by omega),cd (by omega) (by omega)]
  exact eu ⟨_,rfl,hJ⟩
 refine ad (fun e=>kf h1 (fun q=>by
  have e':decide (0<=x/\x<=((2^ak m.nodes 35:Nat):Int)-1)=false:=by rw [Bool.not_eq_true']at e;exact e
  have:=of_decide_eq_false e'
  omega) K1.le) (fun e=>?_)
 have hx:0<=x/\x<(2^ak m.nodes 35:Nat):=by
  have:decide (0<=x/\x<=((2^ak m.nodes 35:Nat):Int)-1)=true:=by simpa using e
  have:=of_decide_eq_true this
  omega
 clear e kf
 obtain⟨c,rfl⟩: ∃c:Nat,x=c:=⟨x.toNat,by omega⟩
 repeat' (refine kr_ ?_)
 refine cJ hs1 hm fun t h2 l2 it=>⟨_,rfl,?_⟩
 have K2:=K1.mono l2
 (refine kr_ ?_)
 refine fM (hs1.mono l2) hm g.ok it (fun p hp=>ld hp) (ge g 35) (by omega) (by rw [xd g];omega) fun out h3 l3 io=>⟨_,rfl,?_⟩
 exact kt c out h3 rfl (by omega) (Hp.le_trans K2.le l3) io
set_option maxHeartbeats 1000000 in
theorem BN {h:Hp} {M:MSl} {m:ah} {sS sI:Sl} {xs ys:List Int} {i c d:Nat} {R:Value->Hp->Prop} (hs:aO h M m) (hm:bR m) (g:cr m) (h1:IntS h sS xs) (h2:IntS h sI ys)
  (hc:xs[i]?=some (c:Int)) (hd:ys[i]?=some (d:Int)) (hcl:c<2^ak m.nodes 36) (hdl:d<2^ak m.nodes 35)
  (k: ∀s t h',h.le h'->IntSS h' s ((dL m.nodes (stP m) c).map VL)->IntSS h' t ((dL m.nodes (inP m) d).map VL)->R (.tuple #[Sl.v s,Sl.v t]) h'):
  js #[aQ M, .agg #[sS.v,sI.v],I (i:Nat)] h R:=by
 apply RN
 refine uf_ ?_
 have n8:=g.n8
 have k5:=g.k5
 have hp8:2^ak m.nodes 36<=2^8:=Nat.pow_le_pow_right (by omega) n8
 have hp5:2^ak m.nodes 35<=2^5:=Nat.pow_le_pow_right (by omega) k5
 have K0:=Kn.nil h
 (with_reducible apply Kn.al);(assumption);(intro b10 g1 K1 l1 hb10)
 (with_reducible apply Kn.al);(assumption);(intro b12 g2 K2 l2 hb12)
 clear K1 K0
 have hs2:=hs.mono K2.le
 have ls:=h1.len
 have lt:=h2.len
 have i1:=get_lt hc
 have i2:=get_lt hd
 obtain⟨b26,o26,ha,hca⟩:=h1.get hc
 obtain⟨b40,o40,hb,hcb⟩:=h2.get hd
 have x26:=fR hca
 have x40:=fR hcb
 replace hca:=K2.le.cell hca
 replace hcb:=K2.le.cell hcb
 repeat' (refine kr_ ?_)
 refine⟨b26,o26,ha,by omega,by omega,_,by rw [Int.toNat_natCast];exact hca,?_⟩
 repeat' (refine kr_ ?_)
 refine⟨b40,o40,hb,by omega,by omega,_,by rw [Int.toNat_natCast];exact hcb,?_⟩
 refine cJ hs2 hm fun t1 g3 l3 it=>⟨_,rfl,?_⟩
 have K3:=K2.mono l3
 repeat' (refine kr_ ?_)
 refine fM (hs2.mono l3) hm g.ok it (fun p hp=>ld hp) (ge g 36) (by omega) (by rw [eM g];omega) fun out1 g4 l4 io1=>⟨_,rfl,?_⟩
 have K4:=K3.mono l4
 clear K3
 repeat' (refine kr_ ?_)
 refine cJ (hs.mono K4.le) hm fun t2 g5 l5 it2=>⟨_,rfl,?_⟩
 have K5:=K4.mono l5
 clear K4
 repeat' (refine kr_ ?_)
 refine fM (hs.mono K5.le) hm g.ok it2 (fun p hp=>ld hp) (ge g 35) (by omega) (by rw [xd g];omega) fun out2 g6 l6 io2=>⟨_,rfl,?_⟩
 exact k out1 out2 g6 (Hp.le_trans K5.le l6) (io1.mono (Hp.le_trans l5 l6)) io2
def pS (m:ah) (xs ys:List Int):Bool:=
 (decide (aF m=0)&&(decide (1<=(xs.length:Int)/\(xs.length:Int)<=301)&&decide (ys.length=xs.length)))&&(xs.all (k9 (ak m.nodes 36))&&ys.all (k9 (ak m.nodes 35)))
theorem yq {h:Hp} {M:MSl} {m:ah} {sS sI:Sl} {xs ys:List Int} {R:Value->Hp->Prop} (hs:aO h M m) (hm:bR m) (h1:IntS h sS xs) (h2:IntS h sI ys)
  (k:R (.bool (pS m xs ys)) h):kz #[.agg #[sS.v,sI.v],aQ M] h R:=by
 refine ACalls.drop (Cr ?_)
 refine uf_ ?_
 have K0:=Kn.nil h
 (with_reducible apply Kn.al);(assumption);(intro b9 g1 K1 l1 hb9)
 (with_reducible apply Kn.al);(assumption);(intro b11 g2 K2 l2 hb11)
 clear K1 K0
 have hs2:=hs.mono K2.le
 have ls:=h1.len
 have lt:=h2.len
 unfold pS at k
 repeat' (refine kr_ ?_)
 refine gG hs2 hm ⟨_,rfl,?_⟩
 refine ad (fun e=>?_) (fun e=>?_)
 rotate_left
 ·repeat' (refine kr_ ?_)
  rw [decide_eq_false (fun q=>by rw [q]at e;simp at e)]at k
  exact⟨h,K2.le,k⟩
 have hc:aF m=0:=by simpa using e
 have g:=cD hc
 have n8:=g.n8
 have k5:=g.k5
 rw [decide_eq_true hc,Bool.true_and]at k
 repeat' (refine kr_ ?_)
 rw [ls]
 refine gU ⟨_,rfl,ad (fun e=>?_) (fun e=>?_)⟩
 rotate_left
 ·repeat' (refine kr_ ?_)
  rw [e]at k
  exact⟨h,K2.le,k⟩
 rw [e,Bool.true_and]at k
 repeat' (refine kr_ ?_)
 refine ad (fun e=>?_) (fun e=>?_)
 rotate_left
 ·repeat' (refine kr_ ?_)
  rw [decide_eq_false (fun q=>by rw [lt,q,ls]at e;simp at e)]at k
  exact⟨h,K2.le,k⟩
 rw [decide_eq_true (show ys.length=xs.length by have:=of_decide_eq_true e;omega),Bool.true_and]at k
 repeat' (refine kr_ ?_)
 refine gD hs2 hm ⟨_,rfl,?_⟩
 repeat' (refine kr_ ?_)
 refine Lx (h1.mono K2.le) (by omega) ⟨_,rfl,ad (fun e=>?_) (fun e=>?_)⟩
 rotate_left
 ·repeat' (refine kr_ ?_)
  rw [e]at k
  exact⟨h,K2.le,k⟩
 rw [e,Bool.true_and]at k
 repeat' (refine kr_ ?_)
 refine gD hs2 hm ⟨_,rfl,?_⟩
 repeat' (refine kr_ ?_)
 exact Lx (h2.mono K2.le) (by omega) ⟨_,rfl,⟨h,K2.le,k⟩⟩
theorem jU {n:Nat} {x:Int}:k9 n x=true↔0<=x/\x<(2^n:Nat):=by
 unfold k9
 rw [decide_eq_true_eq];omega
theorem G8 {h:Hp} {M:MSl} {m:ah} {x:Int} {R:Value->Hp->Prop} (hs:aO h M m) (hm:bR m) (hc:aF m=0)
  (k: ∀s h',h.le h'->R (.tuple #[Sl.v s, .bool (k9 (ak m.nodes 36) x)]) h'):jC #[aQ M,I x] h R:=by
 refine EF hs hm hc (fun h' e l=>?_) (fun c out h' e hlt l io=>?_)
 ·have:=k ⟨none,0,0⟩ h' l
  rw [Bool.eq_false_iff.2 fun q=>e (jU.1 q)]at this
  exact this
 ·have:=k out h' l
  rw [jU.2 ⟨by omega,by omega⟩]at this
  exact this
theorem Hw {h:Hp} {M:MSl} {m:ah} {x:Int} {R:Value->Hp->Prop} (hs:aO h M m) (hm:bR m) (hc:aF m=0)
  (k: ∀s h',h.le h'->R (.tuple #[Sl.v s, .bool (k9 (ak m.nodes 35) x)]) h'):kG #[aQ M,I x] h R:=by
 refine E9 hs hm hc (fun h' e l=>?_) (fun c out h' e hlt l io=>?_)
 ·have:=k ⟨none,0,0⟩ h' l
  rw [Bool.eq_false_iff.2 fun q=>e (jU.1 q)]at this
  exact this
 ·have:=k out h' l
  rw [jU.2 ⟨by omega,by omega⟩]at this
  exact this
theorem qK {α:Type} {l:List α} {p:α->Bool} {i:Nat} {x:α} (h:l[i]?=some x) (e:p x=false):l.all p=false:=by
 rw [Bool.eq_false_iff]
 intro q
 rw [List.all_eq_true.1 q x (List.mem_of_getElem? h)]at e;cases e
theorem FK {α:Type} {l:List α} {p:α->Bool} {i:Nat} {x:α} (h:l[i]?=some x) (e:p x=true) (q:(l.take i).all p=true):(l.take (i+1)).all p=true:=by
 rw [List.take_add_one,h,List.all_append,q]
 simp [e]
def Dp (m:ah) (xs ys:List Int):Bool:=decide (aF m=0)&&(decide (1<=(xs.length:Int)/\(xs.length:Int)<=301)&&decide (ys.length=xs.length))
set_option maxHeartbeats 1000000 in
theorem zW {h:Hp} {M:MSl} {m:ah} {sS sI:Sl} {xs ys:List Int} {R:Value->Hp->Prop} (hs:aO h M m) (hm:bR m) (h1:IntS h sS xs) (h2:IntS h sI ys)
  (k:R (.bool (pS m xs ys)) h):qY #[aQ M, .agg #[sS.v,sI.v]] h R:=by
 refine ACalls.drop (LL ?_)
 refine uf_ ?_
 have K0:=Kn.nil h
 (with_reducible apply Kn.al);(assumption);(intro b9 g1 K1 l1 hb9)
 (with_reducible apply Kn.al);(assumption);(intro b11 g2 K2 l2 hb11)
 clear K1 K0
 have hs2:=hs.mono K2.le
 have ls:=h1.len
 have lt:=h2.len
 replace k:R (.bool (Dp m xs ys&&(xs.all (k9 (ak m.nodes 36))&&ys.all (k9 (ak m.nodes 35))))) h:=k
 refine ap (fun J=>(Dp m xs ys=false->J true g2)/\
  (aF m=0->xs.length<=301->ys.length=xs.length->Dp m xs ys=true->J false g2)) ⟨fun e=>?_,fun hc hl hl2 e=>?_⟩ (fun J hJ=>?_)
 ·rw [e]at k
  exact aM rfl ⟨h,K2.le,k⟩
 ·rw [e,Bool.true_and]at k
  refine aC rfl ?_
  have g:=cD hc
  refine au xs.length (fun i vs h'=>vs= [.pointer (some ⟨b9,0,none⟩), .pointer (some ⟨b11,0,none⟩),I (i:Nat)]/\(xs.take i).all (k9 (ak m.nodes 36))=true/\(ys.take i).all (k9 (ak m.nodes 35))=true/\
   Kn h h' ((b11, .inl ⟨[sS.v,sI.v],2,false⟩)::(b9, .inl ⟨aH M,5,false⟩):: [])) ⟨rfl,by simp,by simp,K2⟩ ?_
  clear K2
  rintro i _ h3 next hi ⟨rfl,a1,a2,K3⟩ hnx
  refine⟨b9,0,b11,0,_,rfl,?_⟩
  (refine kr_ ?_)
  by_cases hlt:i<xs.length
  rotate_left
  ·refine aC (by simp [ls];omega) ?_
   rw [List.take_of_length_le (by omega)]at a1 a2
   rw [a1,a2]at k
   exact⟨h,K3.le,k⟩
  refine aM (by simp [ls];omega) ?_
  obtain⟨x,hx⟩: ∃x,xs[i]?=some x:=⟨_,List.getElem?_eq_getElem hlt⟩
  obtain⟨y,hy⟩: ∃y,ys[i]?=some y:=⟨_,List.getElem?_eq_getElem (by omega)⟩
  obtain⟨b,o,ha,hca⟩:=(h1.mono K3.le).get hx
  repeat' (refine kr_ ?_)
  refine⟨b,o,ha,by omega,by omega,_,by rw [Int.toNat_natCast];exact hca,?_⟩
  refine G8 (hs.mono K3.le) hm hc fun s1 h4 l4=>⟨_,_,rfl,?_⟩
  have K4:=K3.mono l4
  clear K3 hca ha o b
  obtain⟨b,o,ha,hca⟩:=(h2.mono K4.le).get hy
  repeat' (refine kr_ ?_)
  refine⟨b,o,ha,by omega,by omega,_,by rw [Int.toNat_natCast];exact hca,?_⟩
  refine Hw (hs.mono K4.le) hm hc fun s2 h5 l5=>⟨_,_,rfl,?_⟩
  have K5:=K4.mono l5
  clear K4
  refine ap (fun J=>J (!(k9 (ak m.nodes 36) x&&k9 (ak m.nodes 35) y))) ?_ (fun J hJ=>?_)
  ·refine ad (fun e=>?_) (fun e=>?_)
   ·rw [Bool.not_eq_true',Bool.and_eq_false_iff]at e
    have:(xs.all (k9 (ak m.nodes 36))&&ys.all (k9 (ak m.nodes 35)))=false:=by
     rcases e with e|e
     ·rw [qK hx e,Bool.false_and]
     ·rw [qK hy e,Bool.and_false]
    rw [this]at k
    exact⟨h,K5.le,k⟩
   ·rw [Bool.not_eq_false',Bool.and_eq_true]at e
    rw [ay (by omega)]
    exact hnx hlt _ _ ⟨rfl,FK hx e.1 a1,FK hy e.2 a2,K5⟩
  ·refine ad (fun e=>?_) (fun e=>?_)
   ·rw [Bool.not_eq_true']at e;rw [e]at hJ;exact hJ
   ·rw [Bool.not_eq_false']at e;rw [e,Bool.true_and]at hJ;exact hJ
 ·repeat' (refine kr_ ?_)
  refine cj hs2 hm ⟨_,rfl,?_⟩
  refine ad (fun e=>hJ.1 (by unfold Dp;rw [decide_eq_false (fun q=>by rw [q]at e;simp at e)];rfl)) (fun e=>?_)
  have hc:aF m=0:=by simpa using e
  repeat' (refine kr_ ?_)
  rw [ls]
  refine eu ⟨_,rfl,ad (fun e=>hJ.1 (by rw [Bool.not_eq_true']at e;unfold Dp;rw [e,Bool.false_and,Bool.and_false])) (fun e=>?_)⟩
  rw [Bool.not_eq_false']at e
  have e2:=of_decide_eq_true e
  repeat' (refine kr_ ?_)
  by_cases hl:ys.length=xs.length
  ·rw [show ((sI.n:Int) !=((sS.n:Nat):Int))=false by rw [lt,ls,hl];simp]
   exact hJ.2 hc (by omega) hl (by unfold Dp;rw [decide_eq_true hc,e,decide_eq_true hl];rfl)
  ·rw [show ((sI.n:Int) !=((sS.n:Nat):Int))=true by rw [lt,ls,bne_iff_ne];omega]
   exact hJ.1 (by unfold Dp;rw [decide_eq_false hl,Bool.and_false,Bool.and_false])
theorem ky {h:Hp} {M:MSl} {m:ah} {t:Sl} {vs:List (List Nat)} {R:Value->Hp->Prop} (hs:aO h M m) (hm:bR m) (hc:aF m=0)
  (hv:IntSS h t (vs.map VL)) (hf:jS m.nodes (inP m) vs) (k:R (.bool true) h):jz #[aQ M,t.v] h R:=by
 refine ACalls.drop (Gv ?_)
 refine uf_ ?_
 have g:=cD hc
 refine aj fun b8 h1 hb8 l1 f8=>?_
 repeat' (refine ku_ ?_)
 refine cj (hs.up (by((focus ((repeat (first|exact Hp.le_refl _|assumption|(refine Hp.le_trans ?_ (by assumption))));done))))) hm ⟨_,rfl,aM (by rw [hc];rfl) ?_⟩
 repeat' (refine ku_ ?_)
 refine cJ (hs.up (by((focus ((repeat (first|exact Hp.le_refl _|assumption|(refine Hp.le_trans ?_ (by assumption))));done))))) hm fun p h2 l2 i2=>⟨p,rfl,?_⟩
 repeat' (refine ku_ ?_)
 exact Hv (hs.up (by((focus ((repeat (first|exact Hp.le_refl _|assumption|(refine Hp.le_trans ?_ (by assumption))));done))))) hm g.ok i2 (bV g 35) (ge g 35) (hv.up (by((focus ((repeat (first|exact Hp.le_refl _|assumption|(refine Hp.le_trans ?_ (by assumption))));done))))) hf ⟨_,rfl,h,by((focus ((repeat (first|exact Hp.le_refl _|assumption|(refine Hp.le_trans ?_ (by assumption))));done))),k⟩
theorem kK (m:ah) (ps:List Nat) (c:Nat):jS m.nodes ps (dL m.nodes ps c):=by rw [jN];exact Me _ _ _
theorem Mg {h:Hp} {M:MSl} {m:ah} {sS sI:Sl} {c d:Nat} {R:Value->Hp->Prop} (hs:aO h M m) (hm:bR m) (hc:aF m=0)
  (h1:IntSS h sS ((dL m.nodes (stP m) c).map VL)) (h2:IntSS h sI ((dL m.nodes (inP m) d).map VL)) (k:R (.bool (iG m (bL m c d))) h):r7 #[aQ M,sS.v,sI.v] h R:=by
 refine ACalls.drop (Gy ?_)
 refine uf_ ?_
 have g:=cD hc
 refine aj fun b9 g1 hb9 l1 f9=>?_
 repeat' (refine ku_ ?_)
 refine gH (hs.up (by((focus ((repeat (first|exact Hp.le_refl _|assumption|(refine Hp.le_trans ?_ (by assumption))));done))))) hm hc (h1.up (by((focus ((repeat (first|exact Hp.le_refl _|assumption|(refine Hp.le_trans ?_ (by assumption))));done))))) (kK ..) ⟨_,rfl,aM rfl ?_⟩
 repeat' (refine ku_ ?_)
 refine ky (hs.up (by((focus ((repeat (first|exact Hp.le_refl _|assumption|(refine Hp.le_trans ?_ (by assumption))));done))))) hm hc (h2.up (by((focus ((repeat (first|exact Hp.le_refl _|assumption|(refine Hp.le_trans ?_ (by assumption))));done))))) (kK ..) ⟨_,rfl,aM rfl ?_⟩
 repeat' (refine ku_ ?_)
 refine pW (hs.up (by((focus ((repeat (first|exact Hp.le_refl _|assumption|(refine Hp.le_trans ?_ (by assumption))));done))))) hm g.ok g.nl (h1.up (by((focus ((repeat (first|exact Hp.le_refl _|assumption|(refine Hp.le_trans ?_ (by assumption))));done))))) (jT 36 c g) (h2.up (by((focus ((repeat (first|exact Hp.le_refl _|assumption|(refine Hp.le_trans ?_ (by assumption))));done))))) (jT 35 d g) fun t g2 l2 hn hpv _=>⟨t,rfl,?_⟩
 repeat' (refine ku_ ?_)
 exact D8 (hs.up (by((focus ((repeat (first|exact Hp.le_refl _|assumption|(refine Hp.le_trans ?_ (by assumption))));done))))) g hpv (dr g c d) ⟨_,rfl,h,by((focus ((repeat (first|exact Hp.le_refl _|assumption|(refine Hp.le_trans ?_ (by assumption))));done))),k⟩
theorem Fu {h:Hp} {M:MSl} {m:ah} {sS sI:Sl} {c d:Nat} {R:Value->Hp->Prop} (hs:aO h M m) (hm:bR m) (hc:aF m=0)
  (h1:IntSS h sS ((dL m.nodes (stP m) c).map VL)) (h2:IntSS h sI ((dL m.nodes (inP m) d).map VL)) (k:R (I (xB m (bL m c d))) h):rk #[aQ M,sS.v,sI.v] h R:=by
 refine ACalls.drop (Kc ?_)
 refine uf_ ?_
 have g:=cD hc
 refine aj fun b9 g1 hb9 l1 f9=>?_
 refine ap (fun J=>J false g1) (aC rfl ?_) (fun J hJ=>?_)
 ·repeat' (refine ku_ ?_)
  refine pW (hs.up (by((focus ((repeat (first|exact Hp.le_refl _|assumption|(refine Hp.le_trans ?_ (by assumption))));done))))) hm g.ok g.nl (h1.up (by((focus ((repeat (first|exact Hp.le_refl _|assumption|(refine Hp.le_trans ?_ (by assumption))));done))))) (jT 36 c g) (h2.up (by((focus ((repeat (first|exact Hp.le_refl _|assumption|(refine Hp.le_trans ?_ (by assumption))));done))))) (jT 35 d g) fun t g2 l2 hn hpv _=>⟨t,rfl,?_⟩
  repeat' (refine ku_ ?_)
  exact Lv (hs.up (by((focus ((repeat (first|exact Hp.le_refl _|assumption|(refine Hp.le_trans ?_ (by assumption))));done))))) g hpv (dr g c d) ⟨_,rfl,h,by((focus ((repeat (first|exact Hp.le_refl _|assumption|(refine Hp.le_trans ?_ (by assumption))));done))),k⟩
 ·repeat' (refine ku_ ?_)
  refine gH (hs.up (by((focus ((repeat (first|exact Hp.le_refl _|assumption|(refine Hp.le_trans ?_ (by assumption))));done))))) hm hc (h1.up (by((focus ((repeat (first|exact Hp.le_refl _|assumption|(refine Hp.le_trans ?_ (by assumption))));done))))) (kK ..) ⟨_,rfl,aC rfl ?_⟩
  repeat' (refine ku_ ?_)
  exact ky (hs.up (by((focus ((repeat (first|exact Hp.le_refl _|assumption|(refine Hp.le_trans ?_ (by assumption))));done))))) hm hc (h2.up (by((focus ((repeat (first|exact Hp.le_refl _|assumption|(refine Hp.le_trans ?_ (by assumption))));done))))) (kK ..) ⟨_,rfl,hJ⟩
theorem U0 {m:ah} (g:cr m) {p k:Nat} (h:bO m.nexts p=some k):k<m.nodes.length:=by
 obtain⟨b,hb,hs,rfl⟩:=dW h
 obtain⟨h1,h2,h3,h4⟩:=dm (g.nex b hb)
 have h2':=ew.1 h2
 omega
set_option maxHeartbeats 1000000 in
theorem NA {h:Hp} {M:MSl} {m:ah} {sS sI sT:Sl} {c d:Nat} {vs:List (List Nat)} {R:Value->Hp->Prop} (hs:aO h M m) (hm:bR m) (hc:aF m=0)
  (h1:IntSS h sS ((dL m.nodes (stP m) c).map VL)) (h2:IntSS h sI ((dL m.nodes (inP m) d).map VL)) (hv:IntSS h sT (vs.map VL)) (hf:jS m.nodes (stP m) vs)
  (k:R (.bool (g9 (stP m) (gt m (bL m c d)) vs (stP m).length)) h):tM #[aQ M,sS.v,sI.v,sT.v] h R:=by
 refine ACalls.drop (H2 ?_)
 refine uf_ ?_
 have g:=cD hc
 have hil:=g.xl
 have hnl:=g.nl
 have hp36:(stP m).length<=m.nodes.length:=dV m.nodes 36
 have htn:=hv.len
 rw [List.length_map]at htn
 have hvl:=jZ hf
 have hbn: ∀b∈m.nexts,0<=b.node:=fun b hb=>by
  have h2':=ew.1 (dm (g.nex b hb)).2.1
  omega
 refine aj fun b8 g1 hb8 l1 f8=>?_
 refine ap (fun J=>J false g1) (aC rfl ?_) (fun J hJ=>?_)
 rotate_left
 ·repeat' (refine ku_ ?_)
  refine gH (hs.up (by((focus ((repeat (first|exact Hp.le_refl _|assumption|(refine Hp.le_trans ?_ (by assumption))));done))))) hm hc (h1.up (by((focus ((repeat (first|exact Hp.le_refl _|assumption|(refine Hp.le_trans ?_ (by assumption))));done))))) (kK ..) ⟨_,rfl,aC rfl ?_⟩
  repeat' (refine ku_ ?_)
  refine ky (hs.up (by((focus ((repeat (first|exact Hp.le_refl _|assumption|(refine Hp.le_trans ?_ (by assumption))));done))))) hm hc (h2.up (by((focus ((repeat (first|exact Hp.le_refl _|assumption|(refine Hp.le_trans ?_ (by assumption))));done))))) (kK ..) ⟨_,rfl,aC rfl ?_⟩
  repeat' (refine ku_ ?_)
  exact gH (hs.up (by((focus ((repeat (first|exact Hp.le_refl _|assumption|(refine Hp.le_trans ?_ (by assumption))));done))))) hm hc (hv.up (by((focus ((repeat (first|exact Hp.le_refl _|assumption|(refine Hp.le_trans ?_ (by assumption))));done))))) hf ⟨_,rfl,hJ⟩
 repeat' (refine ku_ ?_)
 refine pW (hs.up (by((focus ((repeat (first|exact Hp.le_refl _|assumption|(refine Hp.le_trans ?_ (by assumption))));done))))) hm g.ok g.nl (h1.up (by((focus ((repeat (first|exact Hp.le_refl _|assumption|(refine Hp.le_trans ?_ (by assumption))));done))))) (jT 36 c g) (h2.up (by((focus ((repeat (first|exact Hp.le_refl _|assumption|(refine Hp.le_trans ?_ (by assumption))));done))))) (jT 35 d g) fun vt g2 l2 hvn hpv _=>⟨vt,rfl,?_⟩
 repeat' (refine ku_ ?_)
 refine cJ (hs.up (by((focus ((repeat (first|exact Hp.le_refl _|assumption|(refine Hp.le_trans ?_ (by assumption))));done))))) hm fun pt g3 l3 ip=>⟨pt,rfl,?_⟩
 have hpn:pt.n=(stP m).length:=by have:=ip.len;rw [aX]at this;exact this
 have f83:=l3 _ _ (l2 _ _ f8)
 have l03:=Hp.le_trans l1 (Hp.le_trans l2 l3)
 have aV:=dr g c d
 replace hpv:gP g3 vt (bL m c d):=gP.mono l3 hpv
 generalize bL m c d=v at*
 clear l2 l3 l1 hb8 f8 g2
 refine au (stP m).length (fun i ws h'=>g3.le h'/\ws= [sT.v, .pointer (some ⟨b8,0,none⟩),vt.v,pt.v,I i]/\g9 (stP m) (gt m v) vs i=true) ⟨Hp.le_refl _,rfl,rfl⟩ ?_
 rintro i _ h4 next hi ⟨l4,rfl,hg⟩ hnx
 have l04:=Hp.le_trans l03 l4
 refine⟨sT,_,_,vt,pt,_,rfl,?_⟩
 by_cases hlt:i<(stP m).length
 rotate_left
 ·have hie:i=(stP m).length:=by omega
  subst hie
  refine aC (by simp;omega) ⟨_,l04,dK hg.symm k⟩
 refine aM (by simp;omega) ?_
 obtain⟨p,hpi⟩: ∃p,(stP m)[i]?=some p:=⟨_,List.getElem?_eq_getElem hlt⟩
 have hsucc:=HG (f:=gt m v) (vs:=vs) hpi
 rw [hg,Bool.true_and]at hsucc
 obtain⟨b,o,ha,hcc⟩:=(ip.mono l4).get (iq hpi)
 refine⟨b,o,ha,by omega,by omega,?_⟩
 (refine ku_ ?_)
 refine⟨_,hcc,?_⟩
 refine ly (hs.mono l04).nexts (by omega) hbn ⟨_,rfl,?_⟩
 refine ap (fun J=> ∀h',h4.le h'->J (!g9 (stP m) (gt m v) vs (i+1)) h') ?_ (fun J hJ=>?_)
 ·intro h' l'
  refine ad (fun e=>⟨_,Hp.le_trans l04 l',dK ?_ k⟩) (fun e=>?_)
  ·symm;exact Od (i:=i+1) (by omega) (by simpa using e)
  ·rw [ay (by omega)]
   exact hnx hlt _ _ ⟨Hp.le_trans l4 l',rfl,by simpa using e⟩
 cases hbo:bO m.nexts p with
 |none=>
  rw [show ig m.nexts p= -1 from by unfold ig;rw [hbo]]
  refine aC (by simp) ?_
  have hn:gt m v p=none:=by unfold gt;rw [hbo];rfl
  rw [hn]at hsucc
  have:=hJ h4 (Hp.le_refl _)
  rw [hsucc]at this;exact this
 |some q=>
  rw [show ig m.nexts p=(q:Int)from by unfold ig;rw [hbo]]
  refine aM (by simp) ?_
  have hq:=U0 g hbo
  have hsm:gt m v p=some (v.getD q []):=by unfold gt;rw [hbo];rfl
  have hfit:=yu g aV.fit hsm
  have hcl:=dk m.nodes p
  have hgv:=lU hf hpi
  rw [hsm]at hsucc
  obtain⟨bt,ot,c1,hta,htc,hcv⟩:=(hv.mono l04).getV (i:=i) (by omega)
  obtain⟨bv,ov,u,hua,hun,huc,huv⟩:=(hpv.mono l4).at (p:=(q:Int)) (by omega) (by rw [aV.len];omega)
  have hcn:=hcv.len
  rw [aX]at hcn
  refine⟨bt,ot,hta,by omega,by omega,bv,ov,hua,by omega,hun,c1,htc,u,huc,?_⟩
  rw [Int.toNat_natCast]at huv
  refine BB hcv huv (by rw [aX];omega) (by rw [aX,aX,hgv.1,hfit.1];exact Nat.le_refl _) ⟨_,rfl,?_⟩
  have:=hJ h4 (Hp.le_refl _)
  simp only at hsucc
  rw [hsucc]at this
  have e2:decide (VL (vs.getD i [])=VL (v.getD q []))=decide (vs.getD i []=v.getD q []):=by
   rw [Bool.eq_iff_iff,decide_eq_true_eq,decide_eq_true_eq,Gx]
  rw [e2];exact this
abbrev cAt (xs:List Int) (i:Nat):Nat:=(xs.getD i 0).toNat
def CV (m:ah) (xs ys:List Int) (i:Nat):Bool:=g9 (stP m) (gt m (bL m (cAt xs i) (cAt ys i))) (dL m.nodes (stP m) (cAt xs (i+1))) (stP m).length
def HH (m:ah) (xs ys:List Int) (i:Nat):Bool:=iG m (bL m (cAt xs i) (cAt ys i))
def dN (m:ah) (xs ys:List Int):Int:=
 if pS m xs ys=false then 1 else
 if g9 (stP m) (dY m) (dL m.nodes (stP m) (cAt xs 0)) (stP m).length=false then 2 else
 if(List.range (xs.length-1)).all (CV m xs ys)=false then 3 else
 if(List.range xs.length).all (HH m xs ys)=false then 4 else
 if xB m (bL m (cAt xs (xs.length-1)) (cAt ys (xs.length-1)))<0 then 5 else 0
theorem gN {m:ah} {xs ys:List Int} (h:pS m xs ys=true):aF m=0/\1<=xs.length/\xs.length<=301/\ys.length=xs.length/\
  (∀i,i<xs.length->xs[i]?=some ((cAt xs i:Nat):Int)/\cAt xs i<2^ak m.nodes 36)/\ ∀i,i<xs.length->ys[i]?=some ((cAt ys i:Nat):Int)/\cAt ys i<2^ak m.nodes 35:=by
 unfold pS at h
 simp only [Bool.and_eq_true,decide_eq_true_eq]at h
 obtain⟨⟨h1,⟨h2,h3⟩,h4⟩,h5,h6⟩:=h
 have key: ∀{n:Nat} {l:List Int},l.all (k9 n)=true-> ∀i,i<l.length->l[i]?=some ((cAt l i:Nat):Int)/\cAt l i<2^n:=by
  intro n l ha i hi
  have e:l[i]?=some l[i]:=List.getElem?_eq_getElem hi
  have hb:=jU.1 (List.all_eq_true.1 ha _ (List.getElem_mem hi))
  have hc:cAt l i=l[i].toNat:=by unfold cAt;rw [List.getD_eq_getElem?_getD,e];rfl
  rw [hc,e]
  exact⟨by rw [Int.toNat_of_nonneg hb.1],by omega⟩
 exact⟨h1,by omega,by omega,h4,key h5,fun i hi=>key h6 i (by omega)⟩
theorem B9 {n:Nat} {f:Nat->Bool} (h:(List.range n).all f=true) (e:f n=true):(List.range (n+1)).all f=true:=by
 rw [List.range_succ,List.all_append,h];simp [e]
theorem Fr {n i:Nat} {f:Nat->Bool} (hi:i<n) (e:f i=false):(List.range n).all f=false:=by
 rw [Bool.eq_false_iff]
 intro q
 rw [List.all_eq_true.1 q i (List.mem_range.2 hi)]at e;cases e
set_option maxHeartbeats 2000000 in
theorem oM {h:Hp} {M:MSl} {m:ah} {sS sI:Sl} {xs ys:List Int} {R:Value->Hp->Prop} (hs:aO h M m) (hm:bR m) (h1:IntS h sS xs) (h2:IntS h sI ys)
  (k:R (I (dN m xs ys)) h):kF #[aQ M, .agg #[sS.v,sI.v]] h R:=by
 refine ACalls.drop (Ga ?_)
 refine uf_ ?_
 have K0:=Kn.nil h
 (with_reducible apply Kn.al);(assumption);(intro b9 g1 K1 l1 hb9)
 (with_reducible apply Kn.al);(assumption);(intro b11 g2 K2 l2 hb11)
 clear K1 K0
 have ls:=h1.len
 have lt:=h2.len
 unfold dN at k
 repeat' (refine kr_ ?_)
 refine zW (hs.mono K2.le) hm (h1.mono K2.le) (h2.mono K2.le) ⟨_,rfl,ad (fun e=>?_) (fun e=>?_)⟩
 ·rw [Bool.not_eq_true']at e
  rw [if_pos e]at k
  exact⟨h,K2.le,k⟩
 rw [Bool.not_eq_false']at e
 obtain⟨hc,n1,n2,n3,hx,hy⟩:=gN e
 rw [if_neg (by rw [e];decide)]at k
 clear e
 have g:=cD hc
 have at_: ∀{h':Hp} {R':Value->Hp->Prop} (i:Nat),h.le h'->i<xs.length->(∀s t h'',h'.le h''->IntSS h'' s ((dL m.nodes (stP m) (cAt xs i)).map VL)->IntSS h'' t ((dL m.nodes (inP m) (cAt ys i)).map VL)->R' (.tuple #[Sl.v s,Sl.v t]) h'')->
   js #[aQ M, .agg #[sS.v,sI.v],I (i:Nat)] h' R':=fun i l hi kk=>BN (hs.mono l) hm g (h1.mono l) (h2.mono l) (hx i hi).1 (hy i hi).1 (hx i hi).2 (hy i hi).2 kk
 repeat' (refine kr_ ?_)
 refine at_ 0 K2.le (by omega) fun s0 t0 g3 l3 i0 j0=>⟨_,_,rfl,?_⟩
 have K3:=K2.mono l3
 clear K2
 repeat' (refine kr_ ?_)
 refine vh (hs.mono K3.le) hm hc i0 (kK ..) ⟨_,rfl,ad (fun e=>?_) (fun e=>?_)⟩
 ·rw [Bool.not_eq_true']at e
  rw [if_pos e]at k
  exact⟨h,K3.le,k⟩
 rw [Bool.not_eq_false']at e
 rw [if_neg (by rw [e];decide)]at k
 clear e i0 j0 hb9 hb11 l1 l2
 refine au (xs.length-1) (fun i vs h'=>vs= [.pointer (some ⟨b9,0,none⟩), .pointer (some ⟨b11,0,none⟩),I (i:Nat)]/\(List.range i).all (CV m xs ys)=true/\
  Kn h h' ((b11, .inl ⟨[sS.v,sI.v],2,false⟩)::(b9, .inl ⟨aH M,5,false⟩):: [])) ⟨rfl,rfl,K3⟩ ?_
 clear K3 l3 g3 g2 g1
 rintro i _ h3 next hi ⟨rfl,a1,K3⟩ hnx
 refine⟨b9,0,b11,0,_,rfl,?_⟩
 (refine kr_ ?_)
 rw [ay (by omega)]
 by_cases hlt:i<xs.length-1
 ·refine aM (by rw [decide_eq_true_eq];omega) ?_
  repeat' (refine kr_ ?_)
  refine at_ i K3.le (by omega) fun s1 t1 h4 l4 i1 j1=>⟨_,_,rfl,?_⟩
  have K4:=K3.mono l4
  clear K3
  repeat' (refine kr_ ?_)
  refine at_ (i+1) K4.le (by omega) fun s2 t2 h5 l5 i2 j2=>⟨_,_,rfl,?_⟩
  have K5:=K4.mono l5
  clear K4
  repeat' (refine kr_ ?_)
  refine NA (hs.mono K5.le) hm hc (i1.mono l5) (j1.mono l5) i2 (kK ..) ⟨_,rfl,ad (fun e=>?_) (fun e=>?_)⟩
  ·rw [Bool.not_eq_true']at e
   rw [if_pos (Fr hlt e)]at k
   exact⟨h,K5.le,k⟩
  ·rw [Bool.not_eq_false']at e
   exact hnx hlt _ _ ⟨rfl,B9 a1 e,K5⟩
 refine aC (by rw [decide_eq_false_iff_not];omega) ?_
 clear hnx
 obtain rfl:i=xs.length-1:=by omega
 rw [if_neg (by rw [a1];decide)]at k
 clear a1 hlt hi
 refine au xs.length (fun i vs h'=>vs= [.pointer (some ⟨b9,0,none⟩), .pointer (some ⟨b11,0,none⟩),I (i:Nat)]/\(List.range i).all (HH m xs ys)=true/\
  Kn h h' ((b11, .inl ⟨[sS.v,sI.v],2,false⟩)::(b9, .inl ⟨aH M,5,false⟩):: [])) ⟨rfl,rfl,K3⟩ ?_
 clear K3 h3
 rintro i _ h3 next2 hi ⟨rfl,a1,K3⟩ hnx
 refine⟨b9,0,b11,0,_,rfl,?_⟩
 (refine kr_ ?_)
 by_cases hlt:i<xs.length
 ·refine aM (by rw [decide_eq_true_eq];omega) ?_
  repeat' (refine kr_ ?_)
  refine at_ i K3.le (by omega) fun s1 t1 h4 l4 i1 j1=>⟨_,_,rfl,?_⟩
  have K4:=K3.mono l4
  clear K3
  repeat' (refine kr_ ?_)
  refine Mg (hs.mono K4.le) hm hc i1 j1 ⟨_,rfl,ad (fun e=>?_) (fun e=>?_)⟩
  ·rw [Bool.not_eq_true']at e
   rw [if_pos (Fr hlt e)]at k
   exact⟨h,K4.le,k⟩
  ·rw [Bool.not_eq_false']at e
   rw [ay (by omega)]
   exact hnx hlt _ _ ⟨rfl,B9 a1 e,K4⟩
 refine aC (by rw [decide_eq_false_iff_not];omega) ?_
 clear hnx
 obtain rfl:i=xs.length:=by omega
 rw [if_neg (by rw [a1];decide)]at k
 repeat' (refine kr_ ?_)
 rw [show W ((sS.n:Int)-1)=((xs.length-1:Nat):Int) by rw [cd (by omega) (by omega)];omega]
 refine at_ (xs.length-1) K3.le (by omega) fun s1 t1 h4 l4 i1 j1=>⟨_,_,rfl,?_⟩
 have K4:=K3.mono l4
 clear K3
 repeat' (refine kr_ ?_)
 refine Fu (hs.mono K4.le) hm hc i1 j1 ⟨_,rfl,ad (fun e=>?_) (fun e=>?_)⟩
 ·rw [if_pos (of_decide_eq_true e)]at k
  exact⟨h,K4.le,k⟩
 ·rw [if_neg (of_decide_eq_false e)]at k
  exact⟨h,K4.le,k⟩
theorem Dl {h:Hp} {s:Sl} {xs:List Int} {x:Int} {i:Nat} {R:Value->Hp->Prop} (hs:IntS h s xs) (hi:xs[i]?=some x) (hf: ∀j,j<i->xs[j]?≠some x) (k:R (I (i:Nat)) h):dP #[s.v,I x] h R:=by
 apply qg
 refine uf_ ?_
 have ls:=hs.len
 have hb:=hs.bound
 have hil:=get_lt hi
 refine au i (fun j vs h'=>vs= [s.v,I x,I (s.n:Nat),I (j:Nat)]/\h'=h) ⟨rfl,rfl⟩ ?_
 rintro j _ _ next hj ⟨rfl,rfl⟩ hnx
 refine⟨s,_,_,_,rfl,?_⟩
 refine aM (by rw [decide_eq_true_eq];omega) ?_
 obtain⟨y,hy⟩: ∃y,xs[j]?=some y:=⟨_,List.getElem?_eq_getElem (by omega)⟩
 obtain⟨b,o,ha,hc⟩:=hs.get hy
 refine⟨b,o,ha,by omega,by omega,_,by rw [Int.toNat_natCast];exact hc,?_⟩
 by_cases hlt:j<i
 ·refine aC (by rw [beq_eq_false_iff_ne];exact fun e=>hf j hlt (by rw [e];exact hy)) ?_
  rw [ay (by omega)]
  exact hnx hlt _ _ ⟨rfl,rfl⟩
 ·obtain rfl:j=i:=by omega
  rw [hi]at hy
  obtain rfl:=Option.some.inj hy
  exact aM (by simp) k
abbrev jm (xs ys:List Int):List (Nat×Nat):=(List.range xs.length).map fun i=>(cAt xs i,cAt ys i)
theorem uQ {xs ys:List Int} {i:Nat} (h:i<xs.length):(jm xs ys)[i]?=some (cAt xs i,cAt ys i):=by
 rw [List.getElem?_map,List.getElem?_range h];rfl
theorem yi (l:List NodeP) (k:Int):(av l k).Nodup:=List.Nodup.sublist List.filter_sublist List.nodup_range
theorem D9 {α:Type} {l:List α} (nd:l.Nodup) {i:Nat} {p:α} (h:l[i]?=some p): ∀j,j<i->l[j]?≠some p:=by
 intro j hj e
 have h1:=get_lt h
 have h2:=get_lt e
 rw [List.getElem?_eq_getElem h1]at h
 rw [List.getElem?_eq_getElem h2]at e
 exact absurd ((List.getElem_inj nd (h₀:=h2) (h₁:=h1)).1 ((Option.some.inj e).trans (Option.some.inj h).symm)) (by omega)
theorem EK {α:Type} {l:List α} (nd:l.Nodup) {i j:Nat} {p:α} (h:l[i]?=some p) (e:l[j]?=some p):i=j:=by
 rcases Nat.lt_trichotomy i j with h1|h1|h1
 ·exact absurd h (D9 nd e i h1)
 ·exact h1
 ·exact absurd e (D9 nd h j h1)
theorem Q8 {binds:List BindP} (ag:gO (binds.map (·.state))=false) {b:BindP} (hb:b∈binds) {p:Nat} (e:b.state=(p:Int)):bO binds p=some b.node.toNat:=by
 cases hx:bO binds p with
 |none=>exact absurd e (Ut hx b hb)
 |some k=>
  obtain⟨b',hb',hs',rfl⟩:=dW hx
  obtain⟨i,hi⟩:=List.getElem?_of_mem hb
  obtain⟨j,hj⟩:=List.getElem?_of_mem hb'
  have key: ∀{i j:Nat} {x y:BindP},binds[i]?=some x->binds[j]?=some y->x.state=y.state-> ¬i<j:= @fun i j x y hi hj e h=>by
   refine Gr ag hj _ ?_ e
   have h1:=get_lt hi
   refine List.mem_of_getElem? (i:=i) ?_
   rw [List.getElem?_take,if_pos h];exact hi
  have h1:=key hi hj (e.trans hs'.symm)
  have h2:=key hj hi (hs'.trans e.symm)
  obtain rfl:i=j:=by omega
  rw [hi]at hj
  rw [Option.some.inj hj]
theorem N9 {l:List Nat} {i:Nat} {x:Nat} (h:l[i]?=some x):(VL l)[i]?=some (x:Int):=by unfold VL;rw [List.getElem?_map,h];rfl
theorem af0 {l:List Nat} {i:Nat} {x:Nat} (h:(VL l)[i]?=some (x:Int)):l[i]?=some x:=by
 unfold VL at h
 rw [List.getElem?_map,Option.map_eq_some_iff]at h
 obtain⟨y,hy,e⟩:=h
 rw [hy];exact congrArg some (by omega)
set_option maxHeartbeats 1000000 in
theorem yf {h:Hp} {M:MSl} {m:ah} {sB sV sT:Sl} {binds:List BindP} {v vs:List (List Nat)} {F:Nat->Option (List Nat)} {R:Value->Hp->Prop} (hs:aO h M m) (hm:bR m) (g:cr m)
  (hb:iL h sB binds) (hbl:binds.length<=60) (hpv:gP h sV v) (hT:IntSS h sT (vs.map VL)) (hvl:vs.length=(stP m).length) (hvs: ∀x∈vs,x.length<=4)
  (hin: ∀b∈binds,∃p:Nat,b.state=(p:Int)/\p∈stP m/\0<=b.node/\b.node<v.length/\0<(v.getD b.node.toNat []).length/\(v.getD b.node.toNat []).length<=4/\F p=some (kJ (aE m.nodes p) (v.getD b.node.toNat [])))
  (hF: ∀p x,F p=some x-> ∃b∈binds,b.state=(p:Int))
  (k:R (.bool (g9 (stP m) F vs (stP m).length)) h):lD #[aQ M,sB.v,sV.v,sT.v] h R:=by
 refine ACalls.drop (Db ?_)
 refine uf_ ?_
 have K0:=Kn.nil h
 (with_reducible apply Kn.al);(assumption);(intro b10 h1 K1 l1 hb10)
 clear K0
 have hbn:=hb.len
 have hTn:=hT.len
 rw [List.length_map]at hTn
 repeat' (refine kr_ ?_)
 refine dj (hs.mono K1.le) hm fun pt h2 l2 ip=>⟨_,rfl,?_⟩
 have K2:=K1.mono l2
 clear K1 l1 l2
 have hpn:pt.n=(stP m).length:=by have:=ip.len;rw [aX]at this;exact this
 have hpl:(stP m).length<=m.nodes.length:=dV m.nodes 36
 have nd:=yi m.nodes 36
 have hnl:=g.nl
 refine au binds.length (fun i ws h'=>ws= [sV.v,sT.v, .pointer (some ⟨b10,0,none⟩),pt.v,sB.v,I (sB.n:Nat),I (i:Nat)]/\IntS h' pt (VL (stP m))/\Kn h h' [(b10, .inl ⟨aH M,5,false⟩)]/\
  ∀(j:Nat) (b:BindP),j<i->binds[j]?=some b-> ∀(t p:Nat),(stP m)[t]?=some p->b.state=(p:Int)-> ∀x,F p=some x->vs.getD t []=x) ⟨rfl,ip,K2,fun j b hj=>by omega⟩ ?_
 clear K2 ip h2 h1 hb10
 rintro i _ h2 next hi ⟨rfl,ip,K2,hall⟩ hnx
 refine⟨sV,sT,b10,0,pt,sB,_,_,rfl,?_⟩
 by_cases hlt:i<binds.length
 rotate_left
 ·refine aC (by rw [decide_eq_false_iff_not];omega) ?_
  refine⟨h,K2.le,dK (Eq.symm (jF.2 fun t p ht x hx=>?_)) k⟩
  obtain⟨b,hbm,e⟩:=hF p x hx
  obtain⟨j,hj⟩:=List.getElem?_of_mem hbm
  exact hall j b (by have:=get_lt hj;omega) hj t p ht e x hx
 refine aM (by rw [decide_eq_true_eq];omega) ?_
 obtain⟨b,hbi⟩: ∃b,binds[i]?=some b:=⟨_,List.getElem?_eq_getElem hlt⟩
 obtain⟨p,ep,hp,n0,n1,v0,v4,hFp⟩:=hin b (List.mem_of_getElem? hbi)
 obtain⟨t,ht⟩:=List.getElem?_of_mem hp
 have htl:=get_lt ht
 have hpm:=bV g 36 p hp
 obtain⟨bi,oi,hai,cx1,cx2⟩:=(hb.mono K2.le).at hbi
 refine⟨bi,oi,hai,by omega,by omega,_,by rw [Int.toNat_natCast];exact cx1,_,by rw [Int.toNat_natCast];exact cx2,?_⟩
 clear hai cx1 cx2 bi oi
 refine Kn.al K2 fun b42 h3 K3 l3 hb42=>?_
 refine kw_ ?_
 intro h4 K4 kp4
 have l24:h2.le h4:=im hb42 l3 kp4
 have ip4:=ip.mono l24
 clear K3 kp4 l3 hb42 h3
 refine ap (fun J=> ∀b' u h',Kn h h' ((b', .inl ⟨[Sl.v u],1,false⟩)::(b42, .inl ⟨[I b.state,I b.node],2,false⟩)::(b10, .inl ⟨aH M,5,false⟩):: [])->h4.le h'->
  IntS h' u (VL (kJ (aE m.nodes p) (v.getD b.node.toNat [])))->J b' 0 h') (fun b' u h5 K5 l5 hu=>?_) (fun J hJ=>?_)
 ·repeat' (refine kr_ ?_)
  have ip5:=ip4.mono l5
  rw [ep]
  refine Dl ip5 (N9 ht) (fun j hj e=>D9 nd ht j hj (af0 e)) ⟨_,rfl,?_⟩
  repeat' (refine kr_ ?_)
  obtain⟨bt,ot,c,hat,hct,htc⟩:=(hT.mono K5.le).getV (i:=t) (by omega)
  refine⟨bt,ot,hat,by omega,by omega,c,by rw [Int.toNat_natCast];exact hct,?_⟩
  have hwl:(kJ (aE m.nodes p) (v.getD b.node.toNat [])).length<=4:=by
   have:=dk m.nodes p
   unfold kJ
   rw [List.length_append,List.length_replicate];omega
  refine vC hu htc (by rw [aX];omega) ⟨_,rfl,?_⟩
  refine ad (fun e=>⟨h,K5.le,dK (Eq.symm ?_) k⟩) (fun e=>?_)
  ·rw [Bool.not_eq_true',decide_eq_false_iff_not]at e
   rw [Bool.eq_false_iff]
   exact fun q=>e (by rw [jF.1 q t p ht _ hFp])
  ·rw [Bool.not_eq_false',decide_eq_true_eq]at e
   rw [ay (by omega)]
   refine hnx hlt _ _ ⟨rfl,ip5,K5.sub (fun e he=>by simp at he;simp [he]) (by simp),fun j b' hj hbj t' p' ht' ep' x hx=>?_⟩
   by_cases hji:j<i
   ·exact hall j b' hji hbj t' p' ht' ep' x hx
   ·obtain rfl:j=i:=by omega
    rw [hbi]at hbj
    obtain rfl:=Option.some.inj hbj
    obtain rfl:p=p':=by omega
    obtain rfl:=EK nd ht ht'
    rw [hFp]at hx
    rw [<-Option.some.inj hx]
    exact(Gx.1 e).symm
 ·repeat' (refine kr_ ?_)
  obtain⟨bn,on,han,hpn',c6,c7,w1,w16⟩:=hs.nodes.sortc2 hpm g.ok
  obtain⟨bv,ov,u,hav,hvn',hcv,hu⟩:=hpv.at n0 n1
  have xbn:=fR c6
  have xbv:=fR hcv
  replace c6:=K4.le.cell c6
  replace c7:=K4.le.cell c7
  replace hcv:=K4.le.cell hcv
  replace hu:=hu.mono K4.le
  rw [ep]
  refine⟨bn,on,han,by omega,hpn',_,c6,_,c7,?_⟩
  repeat' (refine kr_ ?_)
  refine⟨bv,ov,hav,n0,hvn',u,hcv,?_⟩
  clear han c6 c7 hav hvn' hcv hpn' w1 w16
  refine⟨?_,?_⟩
  ·refine wQ hu v0 v4 fun t2 h5 l5 ht2=>⟨_,rfl,?_⟩
   rw [pg g.ok hpm]at ht2
   have K5:=K4.mono l5
   refine Kn.al K5 fun b61 h6 K6 l6 hb61=>?_
   repeat' (refine kr_ ?_)
   clear K5 K4
   refine kw_ ?_
   intro h7 K7 kp7
   have l57:=im hb61 l6 kp7
   exact hJ b61 t2 h7 K7 (Hp.le_trans l5 l57) (ht2.mono l57)
  ·refine Kn.al K4 fun b66 h5 K5 l5 hb66=>?_
   repeat' (refine kr_ ?_)
   clear K4
   refine wQ (hu.mono l5) v0 v4 fun t2 h6 l6 ht2=>⟨_,rfl,?_⟩
   rw [pg g.ok hpm]at ht2
   have K6:=K5.mono l6
   clear K5
   refine kw_ ?_
   intro h7 K7 kp7
   have l57:h4.le h7:=im hb66 (Hp.le_trans l5 l6) kp7
   exact hJ b66 t2 h7 K7 l57 (ht2.keep (K6.at (.head _)) kp7)
theorem gP.out {h:Hp} {t:Sl} {vs:List (List Nat)} {X:List (Nat×Blk)} {s:Sl} {ts:List Sl} (e:gP h t vs) (he: ∀p,p<vs.length->0<(vs.getD p []).length) (o:bT X s 1 (ts.map Sl.v)) (m: ∀e∈X,h e.1=some e.2)
  (hts: ∀(j:Nat) (u:Sl),ts[j]?=some u-> ∃ws,(0<vs.length->0<ws.length)/\gP h u ws):gP (h.wo (X.map Prod.fst)) t vs:=by
 rcases o.2.2 with ⟨rfl,_,_⟩|⟨b,_,rfl⟩
 ·exact e.mono fun c x hc=>by simp [Hp.wo,hc]
 have hb:=m _ (.head _)
 have kp: ∀c,c≠b->(h.wo [b]) c=h c:=fun c hc=>by simp [Hp.wo,hc]
 refine⟨e.1,e.2.1,fun p hp=>?_⟩
 obtain⟨b',o',t',h1,h2,h3⟩:=e.2.2 p hp
 refine⟨b',o',t',h1,?_,h3.keepN hb (yC ts) kp⟩
 have hne:b'≠b:=by
  rintro rfl
  rw [ax hb,List.getElem?_map,Option.map_eq_some_iff]at h2
  obtain⟨u,hu,hv⟩:=h2
  obtain⟨ws,hw,hpw⟩:=hts _ u hu
  obtain rfl:u=t':=by
   obtain⟨a1,a2,a3⟩:=u
   obtain⟨c1,c2,c3⟩:=t'
   cases hv;rfl
  obtain⟨b2,o2,u2,g1,g2,_⟩:=hpw.2.2 0 (hw (by omega))
  obtain⟨b3,o3,g3,g4,_⟩:=IntS.elt h3 (i:=0) (he p hp)
  rw [g1]at g3
  cases g3
  rw [g2]at g4
  cases g4
 unfold Hp.cell at h2⊢
 rw [show (Hp.wo h (List.map Prod.fst [(b,(Sum.inl ⟨ts.map Sl.v,s.c*1,false⟩:Blk))])) b'=h b' from kp b' hne]
 exact h2
theorem aev {c:Nat} {v:List Nat} (h:v.length=c):kJ c v=v:=by
 unfold kJ
 rw [h,Nat.sub_self,List.replicate_zero,List.append_nil]
theorem yD {m:ah} {ps:List Nat} {c:Nat}: ∀x∈dL m.nodes ps c,x.length<=4:=by
 intro x hx
 unfold dL at hx
 obtain⟨i,_,rfl⟩:=List.mem_map.1 hx
 rw [tC]
 exact dk m.nodes (ps.getD i 0)
theorem Jv {l:List NodeP} {s:Int} (h:cT l s=true) (hk:gu l s=36): ∃p:Nat,s=(p:Int)/\p∈av l 36:=by
 have hp:=ew.1 h
 refine⟨s.toNat,by omega,?_⟩
 unfold av
 rw [List.mem_filter,List.mem_range]
 have hl:s.toNat<l.length:=by omega
 refine⟨hl,?_⟩
 unfold gu at hk
 rw [List.getElem?_eq_getElem hl]at hk⊢
 simpa using hk
theorem QP {m:ah} (g:cr m): ∀b∈m.inits,∃p:Nat,b.state=(p:Int)/\p∈stP m/\0<=b.node/\b.node<(kV m).length/\0<((kV m).getD b.node.toNat []).length/\((kV m).getD b.node.toNat []).length<=4/\
  dY m p=some (kJ (aE m.nodes p) ((kV m).getD b.node.toNat [])):=by
 intro b hb
 obtain⟨q1,q2,q3,_⟩:=eR (g.ini b hb)
 obtain⟨p,ep,hp⟩:=Jv q1 q3
 obtain⟨v1,v2,v3,v4,_⟩:=xQ g hb
 refine⟨p,ep,hp,v1,by rw [(yg g).len];exact v2,v3,v4,?_⟩
 unfold dY
 rw [Q8 (j9 g.twice).2.1 hb ep];rfl
theorem aft {m:ah} (g:cr m) {v:List (List Nat)} (a:Ge m v): ∀b∈m.nexts,∃p:Nat,b.state=(p:Int)/\p∈stP m/\0<=b.node/\b.node<v.length/\0<(v.getD b.node.toNat []).length/\(v.getD b.node.toNat []).length<=4/\
  gt m v p=some (kJ (aE m.nodes p) (v.getD b.node.toNat [])):=by
 intro b hb
 obtain⟨q1,q2,q3,q4⟩:=dm (g.nex b hb)
 obtain⟨p,ep,hp⟩:=Jv q1 q3
 have n2:=ew.1 q2
 have hs:gt m v p=some (v.getD b.node.toNat []):=by
  unfold gt
  rw [Q8 (j9 g.twice).2.2 hb ep];rfl
 have hf:=yu g a.fit hs
 have hq:=a.fit b.node.toNat (by omega) (by omega)
 have hc:=dk m.nodes p
 refine⟨p,ep,hp,n2.1,by rw [a.len];exact n2.2,hq.pos,by rw [hf.1];exact hc,?_⟩
 rw [aev hf.1];exact hs
theorem aeY {m:ah} {p:Nat} {x:List Nat} (h:dY m p=some x): ∃b∈m.inits,b.state=(p:Int):=by
 unfold dY at h
 rw [Option.map_eq_some_iff]at h
 obtain⟨k,hk,_⟩:=h
 obtain⟨b,hb,e,_⟩:=dW hk
 exact⟨b,hb,e⟩
theorem aeI {m:ah} {v:List (List Nat)} {p:Nat} {x:List Nat} (h:gt m v p=some x): ∃b∈m.nexts,b.state=(p:Int):=by
 unfold gt at h
 rw [Option.map_eq_some_iff]at h
 obtain⟨k,hk,_⟩:=h
 obtain⟨b,hb,e,_⟩:=dW hk
 exact⟨b,hb,e⟩
theorem W4 {m:ah} (g:cr m) (c d:Nat): ∀p,p<(bL m c d).length->0<((bL m c d).getD p []).length:=fun p hp=>by
 have a:=dr g c d
 rw [a.len]at hp
 exact(a.fit p hp hp).pos
set_option maxHeartbeats 4000000 in
theorem kx {h:Hp} {M:MSl} {m:ah} {sS sI:Sl} {xs ys:List Int} {R:Value->Hp->Prop} (hs:aO h M m) (hm:bR m) (h1:IntS h sS xs) (h2:IntS h sI ys) (hcap:sS.n<=sS.c)
  (k:R (I (dN m xs ys)) h):jy #[aQ M, .agg #[sS.v,sI.v]] h R:=by
 refine ACalls.drop (FV ?_)
 refine uf_ ?_
 have K0:=Kn.nil h
 (with_reducible apply Kn.al);(assumption);(intro b9 g1 K1 l1 hb9)
 (with_reducible apply Kn.al);(assumption);(intro b11 g2 K2 l2 hb11)
 clear K1 K0
 have ls:=h1.len
 have lt:=h2.len
 unfold dN at k
 repeat' (refine kr_ ?_)
 refine yq (hs.mono K2.le) hm (h1.mono K2.le) (h2.mono K2.le) ⟨_,rfl,ad (fun e=>?_) (fun e=>?_)⟩
 ·rw [Bool.not_eq_true']at e
  rw [if_pos e]at k
  exact⟨h,K2.le,k⟩
 rw [Bool.not_eq_false']at e
 obtain⟨hc,n1,n2,n3,hx,hy⟩:=gN e
 rw [if_neg (by rw [e];decide)]at k
 clear e
 have g:=cD hc
 have n8:=g.n8
 have k5:=g.k5
 have hp8:2^ak m.nodes 36<=2^8:=Nat.pow_le_pow_right (by omega) n8
 have hp5:2^ak m.nodes 35<=2^5:=Nat.pow_le_pow_right (by omega) k5
 repeat' (refine kr_ ?_)
 refine dj (hs.mono K2.le) hm fun ps h3 l3 ips=>⟨_,rfl,?_⟩
 have K3:=K2.mono l3
 repeat' (refine kr_ ?_)
 clear K2
 refine dj (hs.mono K3.le) hm fun pi h4 l4 ipi=>⟨_,rfl,?_⟩
 have K4:=K3.mono l4
 clear K3
 have ips4:=ips.mono l4
 repeat' (refine kr_ ?_)
 obtain⟨b61,o61,ha,hca⟩:=h1.get (hx 0 (by omega)).1
 have x61:=fR hca
 replace hca:=K4.le.cell hca
 refine⟨b61,o61,ha,by omega,by omega,_,hca,?_⟩
 refine zR (hs.mono K4.le) hm g fun t0 h5 l5 _ hp0=>⟨_,rfl,?_⟩
 have K5:=K4.mono l5
 repeat' (refine kr_ ?_)
 refine wK (hs.mono K5.le) hm g.ok (ips4.mono l5) (bV g 36) (ge g 36) (by have:=(hx 0 (by omega)).2;omega) fun u0 h6 l6 iu _=>⟨_,rfl,?_⟩
 have K6:=K5.mono l6
 repeat' (refine kr_ ?_)
 refine yf (F:=dY m) (hs.mono K6.le) hm g (hs.mono K6.le).inits g.il (hp0.mono l6) iu (jZ (kK ..)) yD (QP g) (fun p x=>aeY) ⟨_,rfl,ad (fun e=>?_) (fun e=>?_)⟩
 ·rw [Bool.not_eq_true']at e
  rw [if_pos e]at k
  exact⟨h,K6.le,k⟩
 rw [Bool.not_eq_false']at e
 rw [if_neg (by rw [e];decide)]at k
 clear e K4 K5
 have l46:=Hp.le_trans l5 l6
 have f9:=K6.at (b:=b9) (by((focus ((repeat first|exact .head _|apply List.Mem.tail);done))))
 have f11:=K6.at (b:=b11) (by((focus ((repeat first|exact .head _|apply List.Mem.tail);done))))
 have hs6:=hs.mono K6.le
 have h16:=h1.mono K6.le
 have h26:=h2.mono K6.le
 have ips6:=ips4.mono l46
 have ipi6:=ipi.mono l46
 have l06:=K6.le
 repeat' (refine kr_ ?_)
 clear K6 iu hp0 ips4 ipi ips ha hca x61 l46 l6 l5 l4 l3 l2 l1 hb9 hb11 h3 h4 h5 g1 g2
 have pv: ∀i,i<xs.length->cAt xs i<2^ak m.nodes 36/\cAt ys i<2^ak m.nodes 35:=fun i hi=>⟨(hx i hi).2,(hy i hi).2⟩
 refine au xs.length (fun i vs h'=> ∃(out:Sl) (ts:List Sl) (X:List (Nat×Blk)) (g':Hp),vs= [.pointer (some ⟨b9,0,none⟩), .pointer (some ⟨b11,0,none⟩),ps.v,pi.v,out.v,sS.v,I (sS.n:Nat),I (i:Nat)]/\h6.le g'/\bT X out 1 (ts.map Sl.v)/\
  ts.length=i/\Kn g' h' X/\ ∀(j:Nat) (t:Sl),ts[j]?=some t->gP g' t (bL m (cAt xs j) (cAt ys j)))
  ⟨⟨none,0,0⟩, [], [],h6,rfl,Hp.le_refl _,cF 1,rfl,Kn.nil _,fun j t hj=>by simp at hj⟩ ?_
 rintro i _ h3 nxt hi ⟨out,ts,X,g',rfl,lg,oX,htl,K,hT⟩ hnx
 have hon:=oX.1
 rw [List.length_map,Nat.mul_one]at hon
 refine⟨b9,0,b11,0,ps,pi,out,sS,_,_,rfl,?_⟩
 have lG:=Hp.le_trans lg K.le
 have f9g:=lg _ _ f9
 have f11g:=lg _ _ f11
 by_cases hlt:i<xs.length
 ·refine aM (by rw [decide_eq_true_eq];omega) ?_
  obtain⟨ba,oa,ha,hca⟩:=(h16.mono lg).get (hx i hlt).1
  have xba:=fR hca
  replace hca:=K.le.cell hca
  refine⟨ba,oa,ha,by omega,by omega,_,by rw [Int.toNat_natCast];exact hca,?_⟩
  obtain⟨bb,ob,hb,hcb⟩:=(h26.mono lg).get (hy i hlt).1
  have xbb:=fR hcb
  replace hcb:=K.le.cell hcb
  repeat' (refine kr_ ?_)
  refine⟨bb,ob,hb,by omega,by omega,_,by rw [Int.toNat_natCast];exact hcb,?_⟩
  have pvi:=pv i hlt
  refine wK (hs6.mono lG) hm g.ok (ips6.mono lG) (bV g 36) (ge g 36) (by omega) fun u1 h4 l4 iu1 cu1=>⟨_,rfl,?_⟩
  have K4:=K.mono l4
  have x9:g' b9≠none:=cf f9g
  have x11:g' b11≠none:=cf f11g
  repeat' (refine kr_ ?_)
  refine wK (hs6.mono (Hp.le_trans lG l4)) hm g.ok (ipi6.mono (Hp.le_trans lG l4)) (bV g 35) (ge g 35) (by omega) fun u2 h5 l5 iu2 cu2=>⟨_,rfl,?_⟩
  have K5:=K4.mono l5
  repeat' (refine kr_ ?_)
  refine yB (hs6.mono (Hp.le_trans lG (Hp.le_trans l4 l5))) hm g.ok g.nl (iu1.mono l5) cu1 (jT 36 _ g) iu2 cu2 (jT 35 _ g) fun t h7 l7 _ hpv=>⟨_,rfl,?_⟩
  refine aj fun b128 h8 hb128 l8 f128=>?_
  have l38:=Hp.le_trans l4 (Hp.le_trans l5 (Hp.le_trans l7 l8))
  have K8:=K.mono l38
  replace hpv:gP h8 t (bL m (cAt xs i) (cAt ys i)):=hpv.mono l8
  have hnew:=hpv.out (W4 g _ _) oX (fun e he=>K8.mem e he) fun j u hj=>⟨_,by rw [(dr g _ _).len,(dr g _ _).len];exact id,(hT j u hj).mono K8.le⟩
  have lB:=K8.leBase
  have KB:=K8.base
  generalize h8.wo (X.map Prod.fst)=g8 at*
  rw [show X=X++ []from(List.append_nil _).symm]at KB
  refine Kn.grow KB oX (by omega) (by omega) (by omega) ⟨b128,0,rfl,aw f128⟩ rfl rfl fun out' X' h9 hn' oX' K9 l9=>?_
  rw [ay (by omega)]
  rw [List.append_nil]at K9
  refine hnx hlt _ _ ⟨out',ts++ [t],X',g8,rfl,Hp.le_trans lg lB,by rw [List.map_append];exact oX',by simp [htl],K9,fun j u hj=>?_⟩
  by_cases e:j<ts.length
  ·rw [List.getElem?_append_left e]at hj
   exact(hT j u hj).mono lB
  ·have h1:=get_lt hj
   simp at h1
   rw [List.getElem?_append_right (by omega),show j-ts.length=0 by omega]at hj
   simp at hj;subst hj
   rw [show j=i by omega];exact hnew
 obtain rfl:i=xs.length:=by omega
 refine aC (by rw [decide_eq_false_iff_not];omega) ?_
 have hO:SlC h3 out 1 (ts.map Sl.v):=(oX.buf fun e he=>K.mem e he).slc_of (by omega)
 replace hT: ∀(j:Nat) (t:Sl),ts[j]?=some t->gP h3 t (bL m (cAt xs j) (cAt ys j)):=fun j t hj=>(hT j t hj).mono K.le
 have f93:=lG _ _ f9
 have f113:=lG _ _ f11
 have x93:=cf f93
 have hs3:=hs6.mono lG
 have h13:=h16.mono lG
 have ips3:=ips6.mono lG
 have l03:=Hp.le_trans l06 lG
 clear K oX X f9g f11g lG lg hnx hi hlt f9 f11 hs6 h16 h26 ips6 ipi6 l06 g'
 have at_: ∀{h':Hp} (i:Nat),h3.le h'->i<xs.length-> ∃b o t,out.a=some (Addr.mk b o none)/\(0:Int)<=i/\(i:Int)<(out.n:Int)/\Hp.cell h' b (o+Int.toNat (i:Int)*1)=some (Sl.v t)/\gP h' t (bL m (cAt xs i) (cAt ys i))/\h3 b≠none:=by
  intro h' i l hi
  obtain⟨t,ht⟩: ∃t,ts[i]?=some t:=⟨_,List.getElem?_eq_getElem (by omega)⟩
  obtain⟨b,o,ha,hcc⟩:=hO.get (by omega)
  have hq:=hcc i _ (by rw [List.getElem?_map,ht];rfl)
  refine⟨b,o,t,ha,by omega,by omega,?_,(hT i t ht).mono l,fR hq⟩
  rw [Int.toNat_natCast,Nat.mul_one]
  exact l.cell hq
 refine ap (fun J=> ∀(w:Sl),w.n=xs.length-1->(∀i,i<xs.length-1-> ∃b o,w.a=some (Addr.mk b o none)/\ ∀h',h3.le h'->Hp.cell h' b (o+Int.toNat (i:Int)*1)=some (I (cAt xs (i+1):Nat)))->J w (((xs.length-1:Nat)):Int)) (fun w hwn hw=>?_) (fun J hJ=>?_)
 rotate_left
 ·have K3:=Kn.nil h3
  repeat' (refine kr_ ?_)
  refine⟨by omega,by simp;omega,by simp;omega,?_⟩
  obtain⟨ba,oa,ha,hca⟩:=h13.get (hx 0 (by omega)).1
  refine .inr ⟨ba,oa,ha,?_⟩
  rw [show (Int.ofNat sS.n).toNat-Int.toNat 1=xs.length-1 by simp;omega]
  refine hJ ⟨_,_,_⟩ rfl fun i hi=>⟨_,_,rfl,fun h' l'=>?_⟩
  obtain⟨bc,oc,ha',hcc⟩:=h13.get (hx (i+1) (by omega)).1
  rw [ha]at ha'
  cases ha'
  rw [if_neg (by simp;omega)]
  have:=l'.cell hcc
  rwa [show oa+(i+1)*1=oa+Int.toNat 1*1+Int.toNat (i:Int)*1 by simp;omega]at this
 refine au (xs.length-1) (fun i vs h'=>vs= [.pointer (some ⟨b9,0,none⟩),ps.v,out.v,w.v,I ((xs.length-1:Nat):Int),I (i:Nat)]/\h3.le h'/\(List.range i).all (CV m xs ys)=true) ⟨rfl,Hp.le_refl _,rfl⟩ ?_
 rintro i _ h4 nxt hi ⟨rfl,l34,a1⟩ hnx
 have K4:=Kn.of l34
 refine⟨b9,0,ps,out,w,_,_,rfl,?_⟩
 by_cases hlt:i<xs.length-1
 ·refine aM (by rw [decide_eq_true_eq];omega) ?_
  obtain⟨ba,oa,ha,hca⟩:=hw i hlt
  have xba:=fR (hca h3 (Hp.le_refl _))
  refine⟨ba,oa,ha,by omega,by omega,_,hca h4 l34,?_⟩
  obtain⟨bt,ot,t,hta,t0,t1,htc,hpv,xbt⟩:=at_ i l34 (by omega)
  refine⟨bt,ot,hta,t0,t1,?_⟩
  repeat' (refine kr_ ?_)
  refine⟨t,htc,?_⟩
  repeat' (refine kr_ ?_)
  refine wK (hs3.mono l34) hm g.ok (ips3.mono l34) (bV g 36) (ge g 36) (by have:=(pv (i+1) (by omega)).1;omega) fun u h5 l5 iu _=>⟨_,rfl,?_⟩
  have K5:=K4.mono l5
  repeat' (refine kr_ ?_)
  refine yf (F:=gt m (bL m (cAt xs i) (cAt ys i))) (hs3.mono K5.le) hm g (hs3.mono K5.le).nexts g.xl (hpv.mono l5) iu (jZ (kK ..)) yD (aft g (dr g _ _)) (fun p x=>aeI) ⟨_,rfl,ad (fun e=>?_) (fun e=>?_)⟩
  ·rw [Bool.not_eq_true']at e
   rw [if_pos (Fr hlt e)]at k
   exact⟨h,Hp.le_trans l03 K5.le,k⟩
  ·rw [Bool.not_eq_false']at e
   rw [ay (by omega)]
   exact hnx hlt _ _ ⟨rfl,K5.le,B9 a1 e⟩
 obtain rfl:i=xs.length-1:=by omega
 refine aC (by rw [decide_eq_false_iff_not];omega) ?_
 rw [if_neg (by rw [a1];decide)]at k
 clear hnx a1 hlt hi hw hwn w K4
 have on:out.n=xs.length:=by omega
 rw [on]
 refine au xs.length (fun i vs h'=>vs= [.pointer (some ⟨b9,0,none⟩),out.v,out.v,I ((xs.length:Nat):Int),I (i:Nat)]/\h3.le h'/\(List.range i).all (HH m xs ys)=true) ⟨rfl,l34,rfl⟩ ?_
 clear l34 h4
 rintro i _ h4 nxt hi ⟨rfl,l34,a1⟩ hnx
 have K4:=Kn.of l34
 refine⟨b9,0,out,out,_,_,rfl,?_⟩
 by_cases hlt:i<xs.length
 ·refine aM (by rw [decide_eq_true_eq];omega) ?_
  obtain⟨bt,ot,t,hta,t0,t1,htc,hpv,xbt⟩:=at_ i l34 hlt
  rw [on]at t1
  refine⟨bt,ot,hta,t0,by omega,t,htc,?_⟩
  repeat' (refine kr_ ?_)
  refine Lk (hs3.mono l34) g hpv (dr g _ _) ⟨_,rfl,ad (fun e=>?_) (fun e=>?_)⟩
  ·rw [Bool.not_eq_true']at e
   rw [if_pos (Fr hlt e)]at k
   exact⟨h,Hp.le_trans l03 l34,k⟩
  ·rw [Bool.not_eq_false']at e
   rw [ay (by omega)]
   exact hnx hlt _ _ ⟨rfl,l34,B9 a1 e⟩
 obtain rfl:i=xs.length:=by omega
 refine aC (by rw [decide_eq_false_iff_not];omega) ?_
 rw [if_neg (by rw [a1];decide)]at k
 obtain⟨bt,ot,t,hta,t0,t1,htc,hpv,xbt⟩:=at_ (xs.length-1) l34 (by omega)
 rw [show W ((out.n:Int)-1)=((xs.length-1:Nat):Int) by rw [cd (by omega) (by omega)];omega]
 refine⟨bt,ot,hta,t0,t1,?_⟩
 repeat' (refine kr_ ?_)
 refine⟨t,htc,?_⟩
 refine I9 (hs3.mono l34) g hpv (dr g _ _) ⟨_,rfl,ad (fun e=>?_) (fun e=>?_)⟩
 ·rw [if_pos (of_decide_eq_true e)]at k
  exact⟨h,Hp.le_trans l03 l34,k⟩
 ·rw [if_neg (of_decide_eq_false e)]at k
  exact⟨h,Hp.le_trans l03 l34,k⟩
theorem qq {l:List NodeP} {ps:List Nat} {i p:Nat} (h:ps[i]?=some p):(ct l ps).getD i []=List.replicate (aE l p) 0:=by
 unfold ct
 rw [List.getD_eq_getElem?_getD,List.getElem?_map,h];rfl
theorem Qu (b n:Nat) {h:Hp} {z:Nat} {ro:Bool} (hn:n<=1000) (f:h b=some (.inl ⟨aR #[I 0] n,z,ro⟩)):IntS h ⟨some ⟨b,0,none⟩,n,n⟩ (VL (List.replicate n 0)):=by
 rw [cE]at f
 refine⟨by dsimp only;omega,by simp [aX], .inr ⟨b,0,rfl,?_⟩⟩
 have hc:(VL (List.replicate n 0)).map I=List.replicate n (I 0):=by simp [VL]
 rw [hc];exact aw f
theorem gP.offB {h0 h:Hp} {t out:Sl} {ts:List Sl} {vs:List (List Nat)} (e:gP h t vs) (pn:afK h0 t) (b0:Buf h0 out 1 (ts.map Sl.v)) (b1:Buf h out 1 (ts.map Sl.v)):gP (h.offS out) t vs:=by
 refine⟨e.1,e.2.1,fun p hp=>?_⟩
 obtain⟨b,o,t',h1,h2,h3⟩:=e.2.2 p hp
 refine⟨b,o,t',h1,?_,h3.offL b1⟩
 have hn:=pn b o h1
 have:(h.offS out) b=h b:=yO (b0.fresh_ne hn)
 unfold Hp.cell at h2⊢
 rw [this];exact h2
set_option maxHeartbeats 1000000 in
theorem BD {h:Hp} {M:MSl} {m:ah} {kind:Int} {R:Value->Hp->Prop} (hs:aO h M m) (hm:bR m) (g:cr m)
  (k: ∀(out:Sl) (ts:List Sl) (h':Hp),h.le (h'.offS out)->out.n=(av m.nodes kind).length->ts.length=(av m.nodes kind).length->Buf h' out 1 (ts.map Sl.v)->
   (∀(j:Nat) (t:Sl),ts[j]?=some t->IntS (h'.offS out) t (VL ((ct m.nodes (av m.nodes kind)).getD j [])))->R (Sl.v out) h'):mb #[aQ M,I kind] h R:=by
 apply Np
 refine uf_ ?_
 have hpl:=dV m.nodes kind
 have hnl:=g.nl
 have K0:=Kn.nil h
 (with_reducible apply Kn.al);(assumption);(intro b8 h1 K1 l1 hb8)
 clear K0
 repeat' (refine kr_ ?_)
 refine cJ (hs.mono K1.le) hm fun pt h2 l2 ip=>⟨_,rfl,?_⟩
 have f8:=l2 _ _ (K1.at (.head _))
 have hs2:=hs.mono (Hp.le_trans K1.le l2)
 have l02:=Hp.le_trans K1.le l2
 have hpn:pt.n=(av m.nodes kind).length:=by have:=ip.len;rw [aX]at this;exact this
 clear K1 l1 hb8 l2
 refine au (av m.nodes kind).length (fun i vs h'=> ∃(ts:List Sl) (out:Sl),vs= [.pointer (some ⟨b8,0,none⟩),pt.v,out.v,I (i:Nat)]/\h2.le (h'.offS out)/\out.n=i/\ts.length=i/\Buf h' out 1 (ts.map Sl.v)/\
  (∀(j:Nat) (t:Sl),ts[j]?=some t->IntS (h'.offS out) t (VL ((ct m.nodes (av m.nodes kind)).getD j [])))) ⟨[],⟨none,0,0⟩,rfl,Hp.le_refl _,rfl,rfl,fD _ _,fun j t ht=>by simp at ht⟩ ?_
 rintro i _ h3 next hi ⟨ts,out,rfl,l3',hon,htl,hbuf,hts⟩ hnx
 have l23:=Hp.le_trans l3' (aW h3 out)
 refine⟨b8,0,pt,out,_,rfl,?_⟩
 by_cases hlt:i<(av m.nodes kind).length
 rotate_left
 ·obtain rfl:i=(av m.nodes kind).length:=by omega
  refine aC (by rw [decide_eq_false_iff_not];omega) ?_
  exact k out ts h3 (Hp.le_trans l02 l3') hon htl hbuf hts
 refine aM (by rw [decide_eq_true_eq];omega) ?_
 obtain⟨p,hpi⟩: ∃p,(av m.nodes kind)[i]?=some p:=⟨_,List.getElem?_eq_getElem hlt⟩
 have hpm:=bV g kind p (List.mem_of_getElem? hpi)
 obtain⟨bp,op,hap,hcp⟩:=(ip.mono l23).get (iq hpi)
 refine⟨bp,op,hap,by omega,by omega,?_⟩
 have K3:=Kn.of l23
 (refine kr_ ?_)
 refine⟨_,by rw [Int.toNat_natCast];exact hcp,?_⟩
 obtain⟨bn,on,han,hpn',c6,c7,w1,w16⟩:=(hs2.mono l23).nodes.sortc2 hpm g.ok
 refine⟨bn,on,han,by omega,hpn',_,c6,_,c7,?_⟩
 refine gF ⟨_,rfl,?_⟩
 rw [pg g.ok hpm]
 have hc4:=dk m.nodes p
 refine⟨by omega,by omega,by omega,by omega,?_⟩
 refine aj fun b33 h4 hb33 l4 f33=>?_
 rw [Int.toNat_natCast,Nat.mul_one]at f33
 have ht:=Qu b33 _ (by omega) f33
 rw [Int.toNat_natCast]
 refine aj fun b h5 hb l5 f5=>?_
 have l35:=Hp.le_trans l4 l5
 have l35o:=bC out l35
 refine dG (hbuf.mono l35) (by omega) (by omega) (by omega) ⟨b,0,rfl,aw f5⟩ (by simp) rfl ?_
 intro s' h6 hs'n hbuf' l6' _
 rw [ay (by omega)]
 have l36:=Hp.le_trans l35o l6'
 have hbuf'':Buf h6 s' 1 ((ts++ [(⟨some ⟨b33,0,none⟩,aE m.nodes p,aE m.nodes p⟩:Sl)]).map Sl.v):=by rw [List.map_append];exact hbuf'
 refine hnx hlt _ _ ⟨ts++ [⟨some ⟨b33,0,none⟩,aE m.nodes p,aE m.nodes p⟩],s',rfl,Hp.le_trans l3' l36,by omega,by simp;omega,hbuf'',fun j u hu=>?_⟩
 by_cases hj:j<i
 ·rw [List.getElem?_append_left (by omega)]at hu
  exact(hts j u hu).mono l36
 ·have hju:=get_lt hu
  simp at hju
  obtain rfl:j=i:=by omega
  rw [List.getElem?_append_right (by omega),htl,Nat.sub_self]at hu
  simp at hu;subst hu
  rw [qq hpi]
  exact((ht.mono l5).offL (hbuf.mono l35)).mono l6'
theorem Lr {m:ah} (g:cr m) {p q:Nat} (h:bO m.inits p=some q):q<m.nodes.length/\0<((kV m).getD q []).length/\((kV m).getD q []).length<=4:=by
 obtain⟨b,hb,_,rfl⟩:=dW h
 obtain⟨v1,v2,v3,v4,_⟩:=xQ g hb
 exact⟨by omega,v3,v4⟩
theorem Sd (m:ah) {i p:Nat} (h:(stP m)[i]?=some p):(fL m).getD i []=(dY m p).getD (List.replicate (aE m.nodes p) 0):=by
 unfold fL mG
 rw [List.getD_eq_getElem?_getD,List.getElem?_map,h];rfl
theorem BT (m:ah):(fL m).length=(stP m).length:=by unfold fL mG;rw [List.length_map]
set_option maxHeartbeats 1000000 in
theorem yP {h:Hp} {M:MSl} {m:ah} {R:Value->Hp->Prop} (hs:aO h M m) (hm:bR m) (g:cr m)
  (k: ∀out h',h.le h'->IntSS h' out ((fL m).map VL)->R (Sl.v out) h'):rp #[aQ M] h R:=by
 apply Mx
 refine uf_ ?_
 have hpl:(stP m).length<=m.nodes.length:=dV m.nodes 36
 have hnl:=g.nl
 have hil:=g.il
 have K0:=Kn.nil h
 (with_reducible apply Kn.al);(assumption);(intro b7 h1 K1 l1 hb7)
 clear K0
 repeat' (refine kr_ ?_)
 refine cJ (hs.mono K1.le) hm fun pt h2 l2 ip=>⟨_,rfl,?_⟩
 have K2:=K1.mono l2
 clear K1
 repeat' (refine kr_ ?_)
 refine BD (hs.mono K2.le) hm g fun out ts h3 l3 hon htl hbuf hts=>⟨_,rfl,?_⟩
 have l3':=Hp.le_trans l3 (aW _ _)
 replace hon:out.n=(stP m).length:=hon
 replace htl:ts.length=(stP m).length:=htl
 have K3:=K2.mono l3'
 repeat' (refine kr_ ?_)
 refine Hb (hs.mono K3.le) hm g fun vt h4 l4 hvn hpv pn=>⟨_,rfl,?_⟩
 have f7:=l4 _ _ (K3.at (.head _))
 have hpn:pt.n=(stP m).length:=by have:=ip.len;rw [aX]at this;exact this
 have f7o:(h4.offS out) b7=some (.inl ⟨aH M,5,false⟩):=bC out l4 _ _ (l3 _ _ (K2.at (.head _)))
 have hpvo:gP (h4.offS out) vt (kV m):=hpv.offB pn hbuf (hbuf.mono l4)
 replace hbuf:=hbuf.mono l4
 replace hts: ∀(j p:Nat) (t:Sl),(stP m)[j]?=some p->ts[j]?=some t->IntS (h4.offS out) t (VL (List.replicate (aE m.nodes p) 0)):=fun j p t hp ht=>by
  have:=(hts j t ht).mono (bC out l4)
  rwa [qq hp]at this
 have l04:h.le (h4.offS out):=Hp.le_trans K2.le (Hp.le_trans l3 (bC out l4))
 have ipo:IntS (h4.offS out) pt (VL (stP m)):=ip.mono (Hp.le_trans l3 (bC out l4))
 clear K3 K2 hb7 l1 l2 l3' hpv pn ip l4 l3 f7
 refine au (stP m).length (fun i vs h'=> ∃ts:List Sl,vs= [.pointer (some ⟨b7,0,none⟩),pt.v,out.v,vt.v,I (i:Nat)]/\(h4.offS out).le (h'.offS out)/\Buf h' out 1 (ts.map Sl.v)/\ts.length=(stP m).length/\
  ∀(j p:Nat) (t:Sl),(stP m)[j]?=some p->ts[j]?=some t->IntS (h'.offS out) t (VL (if j<i then(dY m p).getD (List.replicate (aE m.nodes p) 0)else List.replicate (aE m.nodes p) 0)))
  ⟨ts,rfl,Hp.le_refl _,hbuf,htl,fun j p t hp ht=>by rw [if_neg (by omega)];exact hts j p t hp ht⟩ ?_
 clear hbuf hts htl ts
 rintro i _ h5 next hi ⟨ts,rfl,l45,hbuf,htl,hts⟩ hnx
 have lo:=aW h5 out
 have l5:=Hp.le_trans l45 lo
 refine⟨b7,0,pt,out,vt,_,rfl,?_⟩
 by_cases hlt:i<(stP m).length
 rotate_left
 ·obtain rfl:i=(stP m).length:=by omega
  refine aC (by rw [decide_eq_false_iff_not];omega) ?_
  refine k out h5 (Hp.le_trans l04 l5) ⟨ts,by rw [List.length_map,BT];exact htl,hbuf.slc_of (by omega),fun j h1 h2=>?_⟩
  have hj:j<(stP m).length:=by omega
  obtain⟨p,hp⟩: ∃p,(stP m)[j]?=some p:=⟨_,List.getElem?_eq_getElem hj⟩
  have:=(hts j p _ hp (List.getElem?_eq_getElem h1)).mono lo
  rw [if_pos hj,<-Sd m hp,List.getD_eq_getElem?_getD,List.getElem?_eq_getElem (by rw [BT];exact hj)]at this
  rw [List.getElem_map];exact this
 refine aM (by rw [decide_eq_true_eq];omega) ?_
 obtain⟨p,hpi⟩: ∃p,(stP m)[i]?=some p:=⟨_,List.getElem?_eq_getElem hlt⟩
 have hpm:=bV g 36 p (List.mem_of_getElem? hpi)
 obtain⟨bp,op,hap,hcp⟩:=(ipo.mono l5).get (iq hpi)
 have K5:=Kn.of l5
 have f7:=l5 _ _ f7o
 have K05:=Kn.of (g:=h4.offS out) l5
 refine⟨bp,op,hap,by omega,by omega,?_⟩
 repeat' (refine kr_ ?_)
 refine⟨_,by rw [Int.toNat_natCast];exact hcp,?_⟩
 have hbn: ∀b∈m.inits,0<=b.node:=fun b hb=>(xQ g hb).1
 refine ly (hs.mono (Hp.le_trans l04 l5)).inits (by omega) hbn ⟨_,rfl,?_⟩
 cases hbo:bO m.inits p with
 |none=>
  rw [show ig m.inits p= -1 from by unfold ig;rw [hbo]]
  refine aC (by simp) ?_
  rw [ay (by omega)]
  refine hnx hlt _ _ ⟨ts,rfl,l45,hbuf,htl,fun j p' t hp ht=>?_⟩
  have:=hts j p' t hp ht
  by_cases hj:j<i
  ·rw [if_pos hj]at this;rw [if_pos (by omega)];exact this
  ·rw [if_neg hj]at this
   by_cases hj2:j=i
   ·subst hj2
    rw [hpi]at hp
    obtain rfl:=Option.some.inj hp
    rw [if_pos (by omega),show dY m p=none by unfold dY;rw [hbo];rfl];exact this
   ·rw [if_neg (by omega)];exact this
 |some q=>
  rw [show ig m.inits p=(q:Int)from by unfold ig;rw [hbo]]
  refine aM (by simp) ?_
  obtain⟨hq,v3,v4⟩:=Lr g hbo
  obtain⟨bv,ov,u,hua,hun,huc,huv⟩:=(hpvo.mono l5).at (p:=(q:Int)) (by omega) (by rw [(yg g).len];omega)
  rw [Int.toNat_natCast]at huv
  obtain⟨t,hti⟩: ∃t,ts[i]?=some t:=⟨_,List.getElem?_eq_getElem (by omega)⟩
  have htI:=hts i p t hpi hti
  rw [if_neg (by omega)]at htI
  have htn:=htI.len
  rw [aX,List.length_replicate]at htn
  have hc4:=dk m.nodes p
  refine⟨bv,ov,hua,by omega,hun,?_⟩
  rcases hbuf.2.2 with ⟨_,h0,_⟩|⟨bo,hao,hbo'⟩
  ·omega
  refine⟨bo,0,hao,by omega,by omega,u,huc,t,by rw [ax hbo',Int.toNat_natCast,Nat.zero_add,Nat.mul_one,List.getElem?_map,hti];rfl,?_⟩
  rw [htn]
  refine HI huv v3 v4 hc4 fun t2 h6 l6 ht2=>⟨_,rfl,?_⟩
  have l6o:=bC out l6
  have hbuf6:=hbuf.mono l6
  refine hbuf6.wr (x:=t2) (by omega) fun h7 hbuf' ho=>?_
  rw [ay (by omega)]
  refine hnx hlt _ _ ⟨ts.set i t2,rfl,by rw [ho];exact Hp.le_trans l45 l6o,hbuf',by rw [List.length_set];exact htl,fun j p' w hp hw=>?_⟩
  rw [ho]
  by_cases hji:j=i
  ·subst hji
   rw [hpi]at hp
   obtain rfl:=Option.some.inj hp
   rw [List.getElem?_set_self (by omega)]at hw
   obtain rfl:=Option.some.inj hw
   rw [if_pos (by omega),show dY m p=some (kJ (aE m.nodes p) ((kV m).getD q [])) by unfold dY;rw [hbo];rfl]
   exact ht2.offL hbuf6
  ·rw [List.getElem?_set_ne (fun e=>hji e.symm)]at hw
   have:=(hts j p' w hp hw).mono l6o
   by_cases hj:j<i
   ·rw [if_pos hj]at this;rw [if_pos (by omega)];exact this
   ·rw [if_neg hj]at this;rw [if_neg (by omega)];exact this
theorem UA {h:Hp} {M:MSl} {m:ah} {x:Int} {R:Value->Hp->Prop} (hs:aO h M m) (hm:bR m) (hc:aF m≠0)
  (k: ∀h',h.le h'->R (.tuple #[.slice none 0 0, .bool false]) h'):jC #[aQ M,I x] h R:=by
 apply AF
 refine uf_ ?_
 have K0:=Kn.nil h
 (with_reducible apply Kn.al);(assumption);(intro b8 h1 K1 l1 hb8)
 refine ap (fun J=>J true h1) (aM rfl (k h1 l1)) (fun J hJ=>?_)
 repeat' (refine kr_ ?_)
 refine cj (hs.mono l1) hm ⟨_,rfl,?_⟩
 exact aM (by rw [bne_iff_ne];exact hc) hJ
def Bt (m:ah):Nat->List Int->List (Nat×Nat)
 |_, []=> []
 |s,y::r=>(s,y.toNat)::Bt m (nc m s y.toNat) r
def Af (m:ah) (x:Int) (ys:List Int):Bool:=
 decide (1<=(ys.length:Int)/\(ys.length:Int)<=301)&&(decide (aF m=0)&&(k9 (ak m.nodes 36) x&&ys.all (k9 (ak m.nodes 35))))
def A5 (m:ah) (x:Int) (ys:List Int):List (Nat×Nat):=if Af m x ys then Bt m x.toNat ys else []
theorem RQ (m:ah): ∀(ys:List Int) (s:Nat),(Bt m s ys).length=ys.length:=by
 intro ys
 induction ys with
 |nil=>intro s;rfl
 |cons y r ih=>intro s;show (_::Bt m _ r).length=_;rw [List.length_cons,ih,List.length_cons]
theorem aeC {m:ah} {x:Int} {ys:List Int} (h:Af m x ys=false):A5 m x ys= []:=by unfold A5;rw [h];rfl
theorem xc {m:ah} (g:cr m) (s i:Nat):nc m s i<2^ak m.nodes 36:=by
 have:=xP (jB g (dr g s i).fit)
 rwa [eM g]at this
set_option maxHeartbeats 2000000 in
theorem D5 {h:Hp} {M:MSl} {m:ah} {s:Sl} {x:Int} {ys:List Int} {R:Value->Hp->Prop} (hs:aO h M m) (hm:bR m) (hy:IntS h s ys)
  (k: ∀sS sI h',TrG h h' sS sI (A5 m x ys)->R (A0 sS sI (Af m x ys)) h'):t7 #[aQ M,I x,s.v] h R:=by
 apply HZ
 refine uf_ ?_
 have hn:=hy.len
 have K0:=Kn.nil h
 (with_reducible apply Kn.al);(assumption);(intro b9 h1 K1 l1 hb9)
 (with_reducible apply Kn.al);(assumption);(intro b11 h2 K2 l2 hb11)
 clear K0 K1
 have no: ∀{h':Hp},Af m x ys=false->Kn h h' [(b11, .inl ⟨[(⟨none,0,0⟩:Sl).v,(⟨none,0,0⟩:Sl).v],2,false⟩),(b9, .inl ⟨aH M,5,false⟩)]->
   ∃(cs:List Value) (z:Nat),h' b11=some (.inl ⟨cs,z,false⟩)/\0+2<=cs.length/\cM (h'.row b11 (bX cs 0 [.slice none 0 0, .slice none 0 0]) z) fun h3=> ∃s1:Sl,Hp.cell h3 b11 0=some s1.v/\ ∃s2:Sl,Hp.cell h3 b11 1=some s2.v/\R (.tuple #[.agg #[s1.v,s2.v], .bool false]) h3:=by
  intro h' e K'
  have k':=k
  rw [aeC e,e]at k'
  refine kw_ ?_
  intro h3 K3 _
  exact⟨⟨none,0,0⟩,by rw [ax (K3.at (.head _))];rfl,⟨none,0,0⟩,by rw [ax (K3.at (.head _))];rfl,k' ⟨none,0,0⟩ ⟨none,0,0⟩ h3 (TrG.nil K3.le)⟩
 rw [hn]
 refine eu ⟨_,rfl,ad (fun e=>?_) (fun e=>?_)⟩
 ·refine no (by rw [Bool.not_eq_true']at e;unfold Af;rw [e,Bool.false_and]) K2
 rw [Bool.not_eq_false']at e
 have e1:=of_decide_eq_true e
 repeat' (refine kr_ ?_)
 by_cases hc:aF m=0
 rotate_left
 ·refine UA (hs.mono K2.le) hm hc fun h3 l3=>⟨⟨none,0,0⟩,_,rfl,?_⟩
  exact aM rfl (no (by unfold Af;rw [decide_eq_false hc,Bool.false_and,Bool.and_false]) (K2.mono l3))
 refine G8 (hs.mono K2.le) hm hc fun s0 h3 l3=>⟨_,_,rfl,?_⟩
 have K3:=K2.mono l3
 clear K2
 refine ad (fun e=>?_) (fun e2=>?_)
 ·refine no (by rw [Bool.not_eq_true']at e;unfold Af;rw [e,Bool.false_and,Bool.and_false,Bool.and_false]) K3
 rw [Bool.not_eq_false']at e2
 have g:=cD hc
 have hok:Af m x ys=ys.all (k9 (ak m.nodes 35)):=by
  unfold Af
  rw [e,decide_eq_true hc,e2];rfl
 have hxr:=jU.1 e2
 have n8:=g.n8
 have k5:=g.k5
 have hp8:2^ak m.nodes 36<=2^8:=Nat.pow_le_pow_right (by omega) n8
 have hp5:2^ak m.nodes 35<=2^5:=Nat.pow_le_pow_right (by omega) k5
 (with_reducible apply Kn.al);(exact Kn.nil h3);(intro b43 h4 K4 l4 hb43)
 have f9:=K3.at (b:=b9) (by((focus ((repeat first|exact .head _|apply List.Mem.tail);done))))
 have f11:=K3.at (b:=b11) (by((focus ((repeat first|exact .head _|apply List.Mem.tail);done))))
 have hs3:=hs.mono K3.le
 have hy3:=hy.mono K3.le
 refine au ys.length (fun i vs h'=> ∃(pre:List (Nat×Nat)) (cur:Nat) (sS sI:Sl) (XS XI:List (Nat×Blk)),
  vs= [I cur,s.v, .pointer (some ⟨b9,0,none⟩), .pointer (some ⟨b11,0,none⟩), .pointer (some ⟨b43,0,none⟩),I (i:Nat)]/\Kn h3 h' ((b43, .inl ⟨[sS.v,sI.v],2,false⟩)::(XS++(XI++ [])))/\
  bT XS sS 1 ((VL (pre.map Prod.fst)).map I)/\bT XI sI 1 ((VL (pre.map Prod.snd)).map I)/\pre.length=i/\cur<2^ak m.nodes 36/\(ys.take i).all (k9 (ak m.nodes 35))=true/\pre++Bt m cur (ys.drop i)=Bt m x.toNat ys)
  ⟨[],x.toNat,⟨none,0,0⟩,⟨none,0,0⟩, [], [],by rw [Int.toNat_of_nonneg hxr.1];rfl,K4,cF 1,cF 1,rfl,by omega,by simp,rfl⟩ ?_
 clear K4 l4 hb43 h4
 rintro i _ h4 next hi ⟨pre,cur,sS,sI,XS,XI,rfl,K,oS,oI,hpl,hcur,hall,hrun⟩ hnx
 refine⟨_,s,b9,0,b11,0,b43,0,_,rfl,?_⟩
 have hpl1:=oS.1
 have hpl2:=oI.1
 simp only [List.length_map,aX,Nat.mul_one]at hpl1 hpl2
 rw [hn]
 by_cases hlt:i<ys.length
 rotate_left
 ·obtain rfl:i=ys.length:=by omega
  refine aC (by rw [decide_eq_false_iff_not];omega) ?_
  rw [List.take_of_length_le (Nat.le_refl _)]at hall
  rw [List.drop_length]at hrun
  replace hrun:pre=Bt m x.toNat ys:=by rw [<-hrun];exact(List.append_nil pre).symm
  (refine kr_ ?_)
  (refine kr_ ?_)
  have K2':=K3.mono K.le
  (with_reducible apply Kn.wr);(exact K2');((focus ((repeat first|exact .head|apply Upd.tail);done)))
  ·exact of_decide_eq_true rfl
  intro h5 K5 kp
  refine⟨sS,by rw [ax (K5.at (.head _))];rfl,sI,by rw [ax (K5.at (.head _))];rfl,?_⟩
  have t:=Qe (b6:=b11) K3.le (by rw [f11];simp) oS oI K K5.le kp
  rw [hrun]at t
  have:=k sS sI h5 (by unfold A5;rw [hok,hall];exact t)
  rwa [hok,hall]at this
 refine aM (by rw [decide_eq_true_eq];omega) ?_
 obtain⟨y,hyi⟩: ∃y,ys[i]?=some y:=⟨_,List.getElem?_eq_getElem hlt⟩
 obtain⟨ba,oa,ha,hca⟩:=(hy3.mono K.le).get hyi
 refine⟨ba,oa,ha,by omega,by omega,?_⟩
 repeat' (refine kr_ ?_)
 refine⟨_,by rw [Int.toNat_natCast];exact hca,?_⟩
 refine Hw (hs3.mono K.le) hm hc fun s1 h5 l5=>⟨_,_,rfl,?_⟩
 have K5:=K.mono l5
 clear K
 refine ad (fun e=>?_) (fun e=>?_)
 ·refine no ?_ (K3.mono K5.le)
  rw [Bool.not_eq_true']at e
  rw [hok]
  exact qK hyi e
 rw [Bool.not_eq_false']at e
 have hyr:=jU.1 e
 (refine kr_ ?_)
 refine Kn.al K5 fun b87 h6 K6 l6 hb87=>?_
 have f87:=K6.at (.head _)
 refine Kn.growIn (A:= [_,_]) K6 oS (by omega) (by omega) (by omega) ⟨b87,0,rfl,aw f87⟩ rfl rfl fun sS' XS' h7 hnS oS' K7 l7=>?_
 simp only [List.cons_append,List.nil_append]at K7
 clear K6 l6 hb87 f87 K5 l5
 (((with_reducible apply Kn.wr);(assumption);((focus ((repeat first|exact .head|apply Upd.tail);done)))))
 ·simp
 intro h8 K8 _
 simp only [bG,List.set_cons_zero,List.set_cons_succ,Nat.zero_add,Nat.reduceAdd]at K8
 clear K7 l7
 obtain⟨ba,oa,ha,hca⟩:=hy3.get hyi
 have xba:=fR hca
 refine⟨ba,oa,ha,by omega,by omega,?_⟩
 (refine kr_ ?_)
 refine⟨_,by rw [Int.toNat_natCast];exact K8.le.cell hca,?_⟩
 refine Kn.al K8 fun b98 h9 K9 l9 hb98=>?_
 repeat' (refine kr_ ?_)
 have f98:=K9.at (.head _)
 refine Kn.growIn2 (A:= [_,_,_]) K9 oI (by omega) (by omega) (by omega) ⟨b98,0,rfl,aw f98⟩ rfl rfl fun sI' XI' h10 hnI oI' K10 l10=>?_
 simp only [List.cons_append,List.nil_append]at K10
 clear K9 l9 hb98 f98 K8
 (((with_reducible apply Kn.wr);(assumption);((focus ((repeat first|exact .head|apply Upd.tail);done)))))
 ·simp
 intro h11 K11 _
 simp only [bG,List.set_cons_zero,List.set_cons_succ,Nat.zero_add,Nat.reduceAdd]at K11
 clear K10 l10
 have nd:=K11.nd
 have KS:Kn h3 h11 ((b43, .inl ⟨[sS'.v,sI'.v],2,false⟩)::(XS'++(XI'++ []))):=by
  refine K11.sub (fun e he=> .tail _ (.tail _ he)) ?_
  simp only [List.map_cons,List.nodup_cons]at nd⊢
  exact nd.2.2
 obtain⟨ba,oa,ha,hca⟩:=(hy3.mono KS.le).get hyi
 clear K11
 refine⟨ba,oa,ha,by omega,by omega,?_⟩
 repeat' (refine kr_ ?_)
 refine⟨_,by rw [Int.toNat_natCast];exact hca,?_⟩
 obtain⟨c,rfl⟩: ∃c:Nat,y=c:=⟨y.toNat,by omega⟩
 refine wW (hs3.mono KS.le) hm g (by omega) (by omega) ⟨_,rfl,?_⟩
 rw [ay (by omega)]
 refine hnx hlt _ _ ⟨pre++ [(cur,c)],nc m cur c,sS',sI',XS',XI',rfl,KS,by simpa [VL] using oS',by simpa [VL] using oI',by simp;omega,xc g _ _,FK hyi e hall,?_⟩
 rw [<-hrun,List.append_assoc]
 rw [List.drop_eq_getElem_cons hlt]
 have hyi':ys[i]=(c:Int):=by rw [List.getElem?_eq_getElem hlt]at hyi;exact Option.some.inj hyi
 rw [hyi'];rfl
end Go.Lead
