/- What functions of the program and of the reference come to, walked one by one, and plain laws about it: part 4. No condition is added to the statement. -/
import Derived.Test.YtlfhohhpeklnkaaGreatZ2
namespace Go.Lead
open Go
set_option linter.unusedSimpArgs false
set_option linter.unusedVariables false
set_option maxRecDepth 100000
set_option maxHeartbeats 1000000
def cw (X:List (Nat×Blk)) (s:Sl) (sz:Nat) (cs:List Value):Prop:=
 cs.length=s.n*sz/\s.n<=s.c/\((X= []/\s=⟨none,0,0⟩/\cs= [])\/ ∃b,s.a=some ⟨b,0,none⟩/\X= [(b, .inl ⟨cs,s.c*sz,false⟩)])
theorem cD (sz:Nat):cw [] ⟨none,0,0⟩ sz []:=⟨by simp,Nat.le_refl _, .inl ⟨rfl,rfl,rfl⟩⟩
theorem cw.buf {X:List (Nat×Blk)} {h:Hp} {s:Sl} {sz:Nat} {cs:List Value} (o:cw X s sz cs) (m: ∀e∈X,h e.1=some e.2):Buf h s sz cs:=by
 refine⟨o.1,o.2.1,?_⟩
 rcases o.2.2 with ⟨_,rfl,_⟩|⟨b,ha,rfl⟩
 ·exact .inl ⟨rfl,rfl,rfl⟩
 ·exact .inr ⟨b,ha,m _ (.head _)⟩
theorem Kn.perm {g h:Hp} {L L':List (Nat×Blk)} (K:Kn g h L) (p:L.Perm L'):Kn g h L':=K.sub (fun e he=>p.mem_iff.2 he) ((p.map Prod.fst).nodup_iff.1 K.nd)
theorem Kn.grow {g h:Hp} {X L:List (Nat×Blk)} {s:Sl} {sz by_ m:Nat} {cs news:List Value} {src:Option Addr} {C:Option Addr->Nat->Nat->Hp->Prop}
  (K:Kn g h (X++L)) (o:cw X s sz cs) (hm:0<m) (hsz:(s.n+m)*by_<=140737488355328) (hsz':s.n+m<=9223372036854775807)
  (hs: ∃sb so,src=some ⟨sb,so,none⟩/\gO h sb so news) (hl:news.length=m*sz) (ho:news.all (·.oneCell')=true)
  (k: ∀s' X' h',s'.n=s.n+m->cw X' s' sz (cs++news)->Kn g h' (X'++L)->(h.offS s).le h'->C s'.a s'.n s'.c h'):co h s.a s.n s.c src m sz by_ C:=by
 refine dx (o.buf fun e he=>K.mem e (List.mem_append_left _ he)) hm hsz hsz' hs hl ho fun s' h' hn B l _=>?_
 have nd:=K.nd
 rw [List.map_append,List.nodup_append]at nd
 have base:g.le (h.offS s)/\ ∀e∈L,(h.offS s) e.1=some e.2:=by
  rcases o.2.2 with ⟨_,rfl,_⟩|⟨b,ha,rfl⟩
  ·exact⟨K.le,fun e he=>K.mem e (List.mem_append_right _ he)⟩
  ·unfold Hp.offS
   rw [ha]
   refine⟨vQ (K.new (b,_) (.head _)) K.le,fun e he=>?_⟩
   have hne:e.1≠b:=fun hb=>nd.2.2 b (by simp) e.1 (List.mem_map.2 ⟨e,he,rfl⟩) hb.symm
   simp only [Hp.off,Hp.set]
   rw [if_neg hne];exact K.mem e (List.mem_append_right _ he)
 rcases B.2.2 with ⟨_,h0,_⟩|⟨b,ha,hb⟩
 ·omega
 have hoff:(h'.offS s') b=none:=by simp [Hp.offS,ha,Hp.off,Hp.set]
 refine k s' [(b, .inl ⟨cs++news,s'.c*sz,false⟩)] h' hn ⟨B.1,B.2.1, .inr ⟨b,ha,rfl⟩⟩ ?_ (Hp.le_trans l (bz h' s'))
 have lo:=bz h' s'
 have hg:g b=none:=by
  cases hgb:g b with
  |none=>rfl
  |some x=>rw [l _ _ (base.1 _ _ hgb)]at hoff;cases hoff
 refine⟨Hp.le_trans base.1 (Hp.le_trans l lo),fun e he=>?_,fun e he=>?_,?_⟩
 ·rcases List.mem_cons.1 he with rfl|he
  ·exact hb
  ·exact lo _ _ (l _ _ (base.2 e he))
 ·rcases List.mem_cons.1 he with rfl|he
  ·exact hg
  ·exact K.new e (List.mem_append_right _ he)
 ·show (b::L.map Prod.fst).Nodup
  rw [List.nodup_cons]
  refine⟨fun hm=>?_,nd.2.1⟩
  obtain⟨e,he,heb⟩:=List.mem_map.1 hm
  have:=l _ _ (base.2 e he)
  rw [heb,hoff]at this;cases this
theorem Kn.growIn {g h:Hp} {A X L:List (Nat×Blk)} {s:Sl} {sz by_ m:Nat} {cs news:List Value} {src:Option Addr} {C:Option Addr->Nat->Nat->Hp->Prop}
  (K:Kn g h (A++(X++L))) (o:cw X s sz cs) (hm:0<m) (hsz:(s.n+m)*by_<=140737488355328) (hsz':s.n+m<=9223372036854775807)
  (hs: ∃sb so,src=some ⟨sb,so,none⟩/\gO h sb so news) (hl:news.length=m*sz) (ho:news.all (·.oneCell')=true)
  (k: ∀s' X' h',s'.n=s.n+m->cw X' s' sz (cs++news)->Kn g h' (A++(X'++L))->(h.offS s).le h'->C s'.a s'.n s'.c h'):co h s.a s.n s.c src m sz by_ C:=by
 have sw: ∀Y:List (Nat×Blk),(A++(Y++L)).Perm (Y++(A++L)):=fun Y=>by
  rw [<-List.append_assoc,<-List.append_assoc]
  exact List.perm_append_comm.append_right L
 exact Kn.grow (K.perm (sw X)) o hm hsz hsz' hs hl ho fun s' X' h' hn o' K' l=>k s' X' h' hn o' (K'.perm (sw X').symm) l
theorem Kn.growIn2 {g h:Hp} {A Y X L:List (Nat×Blk)} {s:Sl} {sz by_ m:Nat} {cs news:List Value} {src:Option Addr} {C:Option Addr->Nat->Nat->Hp->Prop}
  (K:Kn g h (A++(Y++(X++L)))) (o:cw X s sz cs) (hm:0<m) (hsz:(s.n+m)*by_<=140737488355328) (hsz':s.n+m<=9223372036854775807)
  (hs: ∃sb so,src=some ⟨sb,so,none⟩/\gO h sb so news) (hl:news.length=m*sz) (ho:news.all (·.oneCell')=true)
  (k: ∀s' X' h',s'.n=s.n+m->cw X' s' sz (cs++news)->Kn g h' (A++(Y++(X'++L)))->(h.offS s).le h'->C s'.a s'.n s'.c h'):co h s.a s.n s.c src m sz by_ C:=by
 have sw: ∀Z:List (Nat×Blk),(A++(Y++(Z++L))).Perm (A++(Z++(Y++L))):=fun Z=>by
  refine List.Perm.append_left A ?_
  rw [<-List.append_assoc,<-List.append_assoc]
  exact List.perm_append_comm.append_right L
 exact Kn.growIn (K.perm (sw X)) o hm hsz hsz' hs hl ho fun s' X' h' hn o' K' l=>k s' X' h' hn o' (K'.perm (sw X').symm) l
theorem Kn.growIn3 {g h:Hp} {A Y Z X L:List (Nat×Blk)} {s:Sl} {sz by_ m:Nat} {cs news:List Value} {src:Option Addr} {C:Option Addr->Nat->Nat->Hp->Prop}
  (K:Kn g h (A++(Y++(Z++(X++L))))) (o:cw X s sz cs) (hm:0<m) (hsz:(s.n+m)*by_<=140737488355328) (hsz':s.n+m<=9223372036854775807)
  (hs: ∃sb so,src=some ⟨sb,so,none⟩/\gO h sb so news) (hl:news.length=m*sz) (ho:news.all (·.oneCell')=true)
  (k: ∀s' X' h',s'.n=s.n+m->cw X' s' sz (cs++news)->Kn g h' (A++(Y++(Z++(X'++L))))->(h.offS s).le h'->C s'.a s'.n s'.c h'):co h s.a s.n s.c src m sz by_ C:=by
 have sw: ∀W:List (Nat×Blk),(A++(Y++(Z++(W++L)))).Perm (A++((Y++Z)++(W++L))):=fun W=>by rw [<-List.append_assoc Y Z]
 exact Kn.growIn2 (K.perm (sw X)) o hm hsz hsz' hs hl ho fun s' X' h' hn o' K' l=>k s' X' h' hn o' (K'.perm (sw X').symm) l
theorem cw.slc {X A L:List (Nat×Blk)} {g h:Hp} {s:Sl} {sz:Nat} {cs:List Value} (o:cw X s sz cs) (K:Kn g h (A++(X++L))) (hn:s.n<=9223372036854775807):SlC h s sz cs:=
 (o.buf fun e he=>K.mem e (List.mem_append_right _ (List.mem_append_left _ he))).slc_of hn
structure BD where
 hs:Sl
 es:Sl
 ns:Sl
 fs:Sl
 bs:Sl
def Ay (h:Hp) (q:BD) (σ:aD):Prop:=de h q.hs (2^(σ.n+σ.k)) σ.hold/\de h q.es (2^(σ.n+σ.k)) σ.ends/\BO h q.ns (2^(σ.n+σ.k)) σ.next/\
 (∃fm,fm+σ.fixed=2^σ.n-1/\IntS h q.fs (VL (eO fm)))/\de h q.bs (2^σ.n) σ.begins
theorem Ay.mono {h h':Hp} {q:BD} {σ:aD} (l:h.le h') (e:Ay h q σ):Ay h' q σ:=by
 obtain⟨a,b,c,⟨fm,d1,d2⟩,f⟩:=e
 exact⟨a.mono l,b.mono l,c.mono l,⟨fm,d1,d2.mono l⟩,f.mono l⟩
theorem de.wo {g h h':Hp} {L:List (Nat×Blk)} {t:Sl} {n:Nat} {T:Nat->Bool} (K:Kn g h L) (e:de (h'.sub h) t n T):de (h'.wo (L.map Prod.fst)) t n T:=
 de.mono (sU (sub_le _ _) fun b hb=>by
  cases hx:h b with
  |none=>exact absurd hx (K.has b hb)
  |some x=>exact ml hx) e
theorem cw.toOwn {g h:Hp} {A X L:List (Nat×Blk)} {s:Sl} {sz:Nat} {cs:List Value} (o:cw X s sz cs) (hn:s.n<=9223372036854775807) (K:Kn g h (A++(X++L))): ∃X',pm X' s sz cs/\Kn g h (A++(X'++L)):=by
 by_cases h0:s.n=0
 ·refine⟨[],⟨o.1,hn, .inl ⟨h0,rfl⟩⟩,K.sub (fun e he=>?_) ?_⟩
  ·rcases List.mem_append.1 he with he|he
   ·exact List.mem_append_left _ he
   ·exact List.mem_append_right _ (List.mem_append_right _ he)
  ·have nd:=K.nd
   rw [List.map_append,List.map_append]at nd
   rw [List.nil_append,List.map_append]
   exact nd.sublist (List.Sublist.append_left (List.sublist_append_right _ _) _)
 ·rcases o.2.2 with ⟨_,rfl,_⟩|⟨b,ha,rfl⟩
  ·exact absurd rfl h0
  ·exact⟨_,⟨o.1,hn, .inr ⟨h0,b,_,ha,rfl⟩⟩,K⟩
def TrX (h h':Hp) (sS sI:Sl) (l:List (Nat×Nat)):Prop:=
 ∃XS XI,pm XS sS 1 ((VL (l.map Prod.fst)).map I)/\pm XI sI 1 ((VL (l.map Prod.snd)).map I)/\Kn h h' (XS++XI)
theorem cw.at {X:List (Nat×Blk)} {h:Hp} {s t:Sl} {ts:List Sl} {i:Nat} (o:cw X s 1 (ts.map Sl.v)) (m: ∀e∈X,h e.1=some e.2) (hi:ts[i]?=some t):
  ∃b x,s.a=some ⟨b,0,none⟩/\h b=some x/\Hp.cell h b (0+i*1)=some t.v:=by
 have hlt:=get_lt hi
 rcases o.2.2 with ⟨_,_,h0⟩|⟨b,ha,rfl⟩
 ·have:ts.length=0:=by have:=congrArg List.length h0;simpa using this
  omega
 ·have hb:=m _ (.head _)
  refine⟨b,_,ha,hb,?_⟩
  rw [aq hb,Nat.zero_add,Nat.mul_one,List.getElem?_map,hi];rfl
def TrG (h h':Hp) (sS sI:Sl) (l:List (Nat×Nat)):Prop:=
 ∃XS XI,cw XS sS 1 ((VL (l.map Prod.fst)).map I)/\cw XI sI 1 ((VL (l.map Prod.snd)).map I)/\Kn h h' (XS++(XI++ []))
theorem TrG.nil {h h':Hp} (l:h.le h'):TrG h h' ⟨none,0,0⟩ ⟨none,0,0⟩ []:=⟨[], [],cD 1,cD 1,Kn.of l⟩
theorem TrG.up {h g h1 h5:Hp} {b6:Nat} {sS sI:Sl} {l:List (Nat×Nat)} (t:TrG g h1 sS sI l) (lg:h.le g) (h6:g b6≠none) (l5:h.le h5) (kp: ∀c,c≠b6->h5 c=h1 c):TrG h h5 sS sI l:=by
 obtain⟨XS,XI,oS,oI,K⟩:=t
 refine⟨XS,XI,oS,oI,l5,fun e he=>?_,fun e he=>aF lg (K.new e he),K.nd⟩
 have hne:e.1≠b6:=by
  intro e6
  have h1:=K.new e he
  rw [e6]at h1;exact h6 h1
 rw [kp _ hne];exact K.mem e he
theorem TrG.tr {h h':Hp} {sS sI:Sl} {l:List (Nat×Nat)} (t:TrG h h' sS sI l) (hl:l.length<=1000000):TrX h h' sS sI l:=by
 obtain⟨XS,XI,oS,oI,K⟩:=t
 have h1:=oS.1
 have h2:=oI.1
 simp only [List.length_map,aY,Nat.mul_one]at h1 h2
 obtain⟨XS',oS',K6⟩:=oS.toOwn (by omega) (A:= []) (L:=XI++ []) K
 obtain⟨XI',oI',K7⟩:=oI.toOwn (by omega) (A:=XS') (L:= []) K6
 rw [List.append_nil]at K7
 exact⟨XS',XI',oS',oI',K7⟩
theorem TrX.nil {h h':Hp} (l:h.le h'):TrX h h' ⟨none,0,0⟩ ⟨none,0,0⟩ []:=⟨[], [],⟨rfl,by simp, .inl ⟨rfl,rfl⟩⟩,⟨rfl,by simp, .inl ⟨rfl,rfl⟩⟩,Kn.of l⟩
theorem TrX.up {h g h1 h5:Hp} {b6:Nat} {sS sI:Sl} {l:List (Nat×Nat)} (t:TrX g h1 sS sI l) (lg:h.le g) (h6:g b6≠none) (l5:h.le h5) (kp: ∀c,c≠b6->h5 c=h1 c):TrX h h5 sS sI l:=by
 obtain⟨XS,XI,oS,oI,K⟩:=t
 refine⟨XS,XI,oS,oI,l5,fun e he=>?_,fun e he=>aF lg (K.new e he),K.nd⟩
 have hne:e.1≠b6:=by
  intro e6
  have h1:=K.new e he
  rw [e6]at h1;exact h6 h1
 rw [kp _ hne];exact K.mem e he
theorem TrX.mono {h h1 h2:Hp} {sS sI:Sl} {l:List (Nat×Nat)} (t:TrX h h1 sS sI l) (l12:h1.le h2):TrX h h2 sS sI l:=by
 obtain⟨XS,XI,oS,oI,K⟩:=t
 exact⟨XS,XI,oS,oI,K.mono l12⟩
theorem pm.slcOf {X:List (Nat×Blk)} {h:Hp} {s:Sl} {sz:Nat} {cs:List Value} (o:pm X s sz cs) (m: ∀e∈X,h e.1=some e.2):SlC h s sz cs:=by
 refine⟨o.2.1,o.1,?_⟩
 rcases o.2.2 with ⟨h0,_⟩|⟨_,b,z,ha,rfl⟩
 ·exact .inl h0
 ·exact .inr ⟨b,0,ha,ay (m _ (.head _))⟩
theorem TrX.ints {h h1:Hp} {sS sI:Sl} {l:List (Nat×Nat)} (t:TrX h h1 sS sI l):IntS h1 sS (VL (l.map Prod.fst))/\IntS h1 sI (VL (l.map Prod.snd)):=by
 obtain⟨XS,XI,oS,oI,K⟩:=t
 exact⟨oS.slcOf fun e he=>K.mem e (List.mem_append_left _ he),oI.slcOf fun e he=>K.mem e (List.mem_append_right _ he)⟩
theorem TrX.le {h h':Hp} {sS sI:Sl} {l:List (Nat×Nat)} (t:TrX h h' sS sI l):h.le h':=by obtain⟨_,_,_,_,K⟩:=t;exact K.le
theorem TrX.add {g h h':Hp} {L:List (Nat×Blk)} {sS sI:Sl} {l:List (Nat×Nat)} (t:TrX h h' sS sI l) (K:Kn g h L):
  ∃XS XI,pm XS sS 1 ((VL (l.map Prod.fst)).map I)/\pm XI sI 1 ((VL (l.map Prod.snd)).map I)/\Kn g h' (L++(XS++XI)):=by
 obtain⟨XS,XI,oS,oI,K'⟩:=t
 exact⟨XS,XI,oS,oI,K.app K'.le K'.new K'.mem K'.nd⟩
section
variable {g h:Hp} {L XS XI:List (Nat×Blk)} {sS sI tS tI:Sl} {xs ys:List Int} {cS cI:List Value} {k0:Int} {R:Value->Hp->Prop}
end
structure Ds where
 kind:Int
 depth:Int
 tr:List (Nat×Nat)
 bd:Bd
def VrX (h h':Hp) (sS sI sN:Sl) (p:Ds):Prop:=
 ∃XS XI XN,pm XS sS 1 ((VL (p.tr.map Prod.fst)).map I)/\pm XI sI 1 ((VL (p.tr.map Prod.snd)).map I)/\pm XN sN 3 (bD p.bd.ns)/\Kn h h' (XS++(XI++XN))
theorem VrX.up {h g h1 h5:Hp} {b6:Nat} {sS sI sN:Sl} {p:Ds} (t:VrX g h1 sS sI sN p) (lg:h.le g) (h6:g b6≠none) (l5:h.le h5) (kp: ∀c,c≠b6->h5 c=h1 c):VrX h h5 sS sI sN p:=by
 obtain⟨XS,XI,XN,oS,oI,oN,K⟩:=t
 refine⟨XS,XI,XN,oS,oI,oN,l5,fun e he=>?_,fun e he=>aF lg (K.new e he),K.nd⟩
 have hne:e.1≠b6:=by
  intro e6
  have h1:=K.new e he
  rw [e6]at h1;exact h6 h1
 rw [kp _ hne];exact K.mem e he
theorem VrX.mono {h h1 h2:Hp} {sS sI sN:Sl} {p:Ds} (t:VrX h h1 sS sI sN p) (l12:h1.le h2):VrX h h2 sS sI sN p:=by
 obtain⟨XS,XI,XN,oS,oI,oN,K⟩:=t
 exact⟨XS,XI,XN,oS,oI,oN,K.mono l12⟩
theorem VrX.le {h h':Hp} {sS sI sN:Sl} {p:Ds} (t:VrX h h' sS sI sN p):h.le h':=by obtain⟨_,_,_,_,_,_,K⟩:=t;exact K.le
theorem Iz (sz:Nat):pm [] ⟨none,0,0⟩ sz []:=⟨by simp,by simp, .inl ⟨rfl,rfl⟩⟩
theorem VrX.ofTr {h h':Hp} {sS sI:Sl} {l:List (Nat×Nat)} {k d:Int} (t:TrX h h' sS sI l):VrX h h' sS sI ⟨none,0,0⟩ ⟨k,d,l,js⟩:=by
 obtain⟨XS,XI,oS,oI,K⟩:=t
 exact⟨XS,XI, [],oS,oI,Iz 3,by rw [List.append_nil];exact K⟩
theorem VrX.nil {h h':Hp} {k d:Int} (l:h.le h'):VrX h h' ⟨none,0,0⟩ ⟨none,0,0⟩ ⟨none,0,0⟩ ⟨k,d, [],js⟩:=VrX.ofTr (TrX.nil l)
theorem VrX.add {g h h':Hp} {L:List (Nat×Blk)} {sS sI sN:Sl} {p:Ds} (t:VrX h h' sS sI sN p) (K:Kn g h L):
  ∃XS XI XN,pm XS sS 1 ((VL (p.tr.map Prod.fst)).map I)/\pm XI sI 1 ((VL (p.tr.map Prod.snd)).map I)/\pm XN sN 3 (bD p.bd.ns)/\Kn g h' (L++(XS++(XI++XN))):=by
 obtain⟨XS,XI,XN,oS,oI,oN,K'⟩:=t
 exact⟨XS,XI,XN,oS,oI,oN,K.app K'.le K'.new K'.mem K'.nd⟩
def VrS (h:Hp) (sS sI sN:Sl) (p:Ds):Prop:=IntS h sS (VL (p.tr.map Prod.fst))/\IntS h sI (VL (p.tr.map Prod.snd))/\SlC h sN 3 (bD p.bd.ns)
theorem VrS.mono {h h':Hp} {sS sI sN:Sl} {p:Ds} (l:h.le h') (t:VrS h sS sI sN p):VrS h' sS sI sN p:=⟨t.1.mono l,t.2.1.mono l,t.2.2.mono l⟩
abbrev rdC (s:Sl) (p:Nat):Blk:= .inl ⟨[s.v,I p],2,false⟩
theorem RA {g h:Hp} {L L':List (Nat×Blk)} {B p:Nat} {s:Sl} {bs:List Nat} {n:Int} {R:Value->Hp->Prop} (K:Kn g h L) (hb:ByteS g s bs) (u:Upd L B (rdC s p) (rdC s (p+1)) L') (hp:p<=1000000) (hn:n<=1000000000)
  (k: ∀(x:Nat) h',Kn g h' L'->(1<=n->(x:Int)<n)->(n<1->x=0)->R (I x) h'):ai #[.pointer (some ⟨B,0,none⟩),I n] h R:=
 Dt ⟨K.at u.mem,hb.mono (vQ (K.new (B,_) u.mem) K.le)⟩ (by omega) hn fun x h1 h2=>k x _ (K.set u) h1 h2
theorem kp_ {P Q:Prop} (k:Q) (h:Q->P:=by((with_reducible apply RA);(assumption);(assumption);(((focus ((repeat first|exact .head|apply Upd.tail);done))));(omega);(omega))):P:=h k
def MG (X:List (Nat×Blk)) (M:MSl) (m:ah):Prop:=
 ∃XN XI XE XB XH,X=XN++(XI++(XE++(XB++(XH++ []))))/\cw XN M.no 9 (m.nodes.flatMap nodeCells)/\cw XI M.ini 2 (m.inits.flatMap bindCells)/\cw XE M.nex 2 (m.nexts.flatMap bindCells)/\
  cw XB M.bad 1 (m.bads.map I)/\cw XH M.hol 1 (m.holds.map I)
abbrev noM :MSl:=⟨⟨none,0,0⟩,⟨none,0,0⟩,⟨none,0,0⟩,⟨none,0,0⟩,⟨none,0,0⟩⟩
abbrev noP :ah:=⟨[], [], [], [], []⟩
theorem MG.nil :MG [] noM noP:=⟨[], [], [], [], [],rfl,cD 9,cD 2,cD 2,cD 1,cD 1⟩
section
variable {g h:Hp} {A X:List (Nat×Blk)} {M:MSl} {m:ah}
theorem cw.slcOf {X:List (Nat×Blk)} {s:Sl} {sz:Nat} {cs:List Value} (o:cw X s sz cs) (hn:s.n<=9223372036854775807) (m: ∀e∈X,h e.1=some e.2):SlC h s sz cs:=(o.buf m).slc_of hn
theorem MG.lens (o:MG X M m):M.no.n=m.nodes.length/\M.ini.n=m.inits.length/\M.nex.n=m.nexts.length/\M.bad.n=m.bads.length/\M.hol.n=m.holds.length/\M.no.n<=M.no.c:=by
 obtain⟨XN,XI,XE,XB,XH,_,a,b,c,d,e⟩:=o
 have h1:=a.1;have h2:=b.1;have h3:=c.1;have h4:=d.1;have h5:=e.1;have h6:=a.2.1
 rw [eV (m:=9) (fun _=>rfl)]at h1
 rw [eV (m:=2) (fun _=>rfl)]at h2 h3
 rw [List.length_map]at h4 h5
 omega
theorem MG.blk (o:MG X M m) (hn:0<m.nodes.length): ∃b x,M.no.a=some ⟨b,0,none⟩/\(b,x)∈X:=by
 have hl:=o.lens
 obtain⟨XN,XI,XE,XB,XH,rfl,a,_⟩:=o
 rcases a.2.2 with ⟨_,h0,_⟩|⟨b,ha,rfl⟩
 ·rw [h0]at hl;have:=hl.1;dsimp only at this;omega
 ·exact⟨b,_,ha,List.mem_append_left _ (.head _)⟩
theorem MG.modelS (o:MG X M m) (hm:bW m) (K:Kn g h (A++X)):aO h M m:=by
 have hl:=o.lens
 have hm':=hm.nodes;have h2:=hm.inits;have h3:=hm.nexts;have h4:=hm.bads;have h5:=hm.holds
 obtain⟨XN,XI,XE,XB,XH,rfl,a,b,c,d,e⟩:=o
 have mem: ∀x∈XN++(XI++(XE++(XB++(XH++ [])))),h x.1=some x.2:=fun x hx=>K.mem x (List.mem_append_right _ hx)
 refine⟨a.slcOf (by omega) fun x hx=>mem x (by simp [hx]),b.slcOf (by omega) fun x hx=>mem x (by simp [hx]),c.slcOf (by omega) fun x hx=>mem x (by simp [hx]),
  d.slcOf (by omega) fun x hx=>mem x (by simp [hx]),e.slcOf (by omega) fun x hx=>mem x (by simp [hx]),hl.2.2.2.2.2⟩
theorem MG.appN {b:Nat} {n:NodeP} {C:Option Addr->Nat->Nat->Hp->Prop} (o:MG X M m) (K:Kn g h (A++X)) (hm:m.nodes.length<=100000) (f:h b=some (.inl ⟨nodeCells n,9,false⟩))
  (k: ∀s' X' h',MG X' {M with no:=s'} {m with nodes:=m.nodes++ [n]}->Kn g h' (A++X')->C s'.a s'.n s'.c h'):co h M.no.a M.no.n M.no.c (some ⟨b,0,none⟩) 1 9 80 C:=by
 have hl:=o.lens
 obtain⟨XN,XI,XE,XB,XH,rfl,a,b',c,d,e⟩:=o
 refine Kn.growIn K a (by omega) (by omega) (by omega) ⟨b,0,rfl,ay f⟩ rfl rfl fun s' X' h' hn a' K' _=>?_
 exact k s' _ h' ⟨X',XI,XE,XB,XH,rfl,by rw [List.flatMap_append];exact a',b',c,d,e⟩ K'
theorem MG.appI {b:Nat} {n:BindP} {C:Option Addr->Nat->Nat->Hp->Prop} (o:MG X M m) (K:Kn g h (A++X)) (hm:m.inits.length<=100000) (f:h b=some (.inl ⟨bindCells n,2,false⟩))
  (k: ∀s' X' h',MG X' {M with ini:=s'} {m with inits:=m.inits++ [n]}->Kn g h' (A++X')->C s'.a s'.n s'.c h'):co h M.ini.a M.ini.n M.ini.c (some ⟨b,0,none⟩) 1 2 16 C:=by
 have hl:=o.lens
 obtain⟨XN,XI,XE,XB,XH,rfl,a,b',c,d,e⟩:=o
 refine Kn.growIn2 K b' (by omega) (by omega) (by omega) ⟨b,0,rfl,ay f⟩ rfl rfl fun s' X' h' hn a' K' _=>?_
 exact k s' _ h' ⟨XN,X',XE,XB,XH,rfl,a,by rw [List.flatMap_append];exact a',c,d,e⟩ K'
theorem MG.appE {b:Nat} {n:BindP} {C:Option Addr->Nat->Nat->Hp->Prop} (o:MG X M m) (K:Kn g h (A++X)) (hm:m.nexts.length<=100000) (f:h b=some (.inl ⟨bindCells n,2,false⟩))
  (k: ∀s' X' h',MG X' {M with nex:=s'} {m with nexts:=m.nexts++ [n]}->Kn g h' (A++X')->C s'.a s'.n s'.c h'):co h M.nex.a M.nex.n M.nex.c (some ⟨b,0,none⟩) 1 2 16 C:=by
 have hl:=o.lens
 obtain⟨XN,XI,XE,XB,XH,rfl,a,b',c,d,e⟩:=o
 refine Kn.growIn3 K c (by omega) (by omega) (by omega) ⟨b,0,rfl,ay f⟩ rfl rfl fun s' X' h' hn a' K' _=>?_
 exact k s' _ h' ⟨XN,XI,X',XB,XH,rfl,a,b',by rw [List.flatMap_append];exact a',d,e⟩ K'
theorem MG.appB {b:Nat} {n:Int} {C:Option Addr->Nat->Nat->Hp->Prop} (o:MG X M m) (K:Kn g h (A++X)) (hm:m.bads.length<=100000) (f:h b=some (.inl ⟨[I n],1,false⟩))
  (k: ∀s' X' h',MG X' {M with bad:=s'} {m with bads:=m.bads++ [n]}->Kn g h' (A++X')->C s'.a s'.n s'.c h'):co h M.bad.a M.bad.n M.bad.c (some ⟨b,0,none⟩) 1 1 8 C:=by
 have hl:=o.lens
 obtain⟨XN,XI,XE,XB,XH,rfl,a,b',c,d,e⟩:=o
 have sw: ∀Z:List (Nat×Blk),A++(XN++(XI++(XE++(Z++(XH++ [])))))=(A++(XN++XI))++(XE++(Z++(XH++ []))):=fun Z=>by simp
 rw [sw]at K
 refine Kn.growIn2 K d (by omega) (by omega) (by omega) ⟨b,0,rfl,ay f⟩ rfl rfl fun s' X' h' hn a' K' _=>?_
 rw [<-sw]at K'
 exact k s' _ h' ⟨XN,XI,XE,X',XH,rfl,a,b',c,by rw [List.map_append];exact a',e⟩ K'
theorem MG.appH {b:Nat} {n:Int} {C:Option Addr->Nat->Nat->Hp->Prop} (o:MG X M m) (K:Kn g h (A++X)) (hm:m.holds.length<=100000) (f:h b=some (.inl ⟨[I n],1,false⟩))
  (k: ∀s' X' h',MG X' {M with hol:=s'} {m with holds:=m.holds++ [n]}->Kn g h' (A++X')->C s'.a s'.n s'.c h'):co h M.hol.a M.hol.n M.hol.c (some ⟨b,0,none⟩) 1 1 8 C:=by
 have hl:=o.lens
 obtain⟨XN,XI,XE,XB,XH,rfl,a,b',c,d,e⟩:=o
 have sw: ∀Z:List (Nat×Blk),A++(XN++(XI++(XE++(XB++(Z++ [])))))=(A++(XN++XI))++(XE++(XB++(Z++ []))):=fun Z=>by simp
 rw [sw]at K
 refine Kn.growIn3 K e (by omega) (by omega) (by omega) ⟨b,0,rfl,ay f⟩ rfl rfl fun s' X' h' hn a' K' _=>?_
 rw [<-sw]at K'
 exact k s' _ h' ⟨XN,XI,XE,XB,X',rfl,a,b',c,d,by rw [List.map_append];exact a'⟩ K'
end
structure DM (m:ah) (N:Nat):Prop where
 nodes:m.nodes.length<=N
 sorts: ∀n∈m.nodes,bR n.sort=true
 names: ∀n∈m.nodes,n.name.size<=100
 inits:m.inits.length<=N
 nexts:m.nexts.length<=N
 bads:m.bads.length<=N
 holds:m.holds.length<=N
theorem DM.small {m:ah} {N:Nat} (d:DM m N) (hN:N<=100000):bW m:=
 ⟨by have:=d.nodes;omega,by have:=d.inits;omega,by have:=d.nexts;omega,by have:=d.bads;omega,by have:=d.holds;omega,fun n hn=>by have:=d.names n hn;omega⟩
theorem DM.more {m:ah} {N N':Nat} (d:DM m N) (h:N<=N'):DM m N':=
 ⟨Nat.le_trans d.nodes h,d.sorts,d.names,Nat.le_trans d.inits h,Nat.le_trans d.nexts h,Nat.le_trans d.bads h,Nat.le_trans d.holds h⟩
theorem DM.addN {m:ah} {N:Nat} (d:DM m N) {n:NodeP} (h1:bR n.sort=true) (h2:n.name.size<=100):DM {m with nodes:=m.nodes++ [n]} (N+1):=
 ⟨by have:=d.nodes;simp;omega,fun x hx=>by rcases List.mem_append.1 hx with hx|hx;exact d.sorts x hx;rw [List.mem_singleton.1 hx];exact h1,
  fun x hx=>by rcases List.mem_append.1 hx with hx|hx;exact d.names x hx;rw [List.mem_singleton.1 hx];exact h2,
  by have:=d.inits;dsimp only;omega,by have:=d.nexts;dsimp only;omega,by have:=d.bads;dsimp only;omega,by have:=d.holds;dsimp only;omega⟩
theorem Kn.tl {g h:Hp} {L:List (Nat×Blk)} {e:Nat×Blk} (K:Kn g h (e::L)):Kn g h L:=K.sub (fun x hx=> .tail _ hx) (by have:=K.nd;rw [List.map_cons,List.nodup_cons]at this;exact this.2)
theorem Kn.sw {g h:Hp} {L:List (Nat×Blk)} {a b:Nat×Blk} (K:Kn g h (a::b::L)):Kn g h (b::a::L):=K.perm (List.Perm.swap ..)
theorem rX {m:ah} {N:Nat} (d:DM m N) {i:Nat} {n:NodeP} (h:m.nodes[i]?=some n):bR n.sort=true:=d.sorts n (List.mem_of_getElem? h)
theorem lw {s:SortP} (h:bR s=true):(0<=s.idx/\s.idx<=2)/\1<=s.wid/\s.wid<=16:=of_decide_eq_true h
theorem nZ {w:Int} (h1:1<=w) (h2:w<=16):bR (cF w)=true:=decide_eq_true ⟨by simp [cF],h1,h2⟩
theorem Upd.mem2 {L L':List (Nat×Blk)} {b:Nat} {x y:Blk} (u:Upd L b x y L'):(b,y)∈L':=by
 induction u with
 |head=>exact .head _
 |tail _ ih=>exact .tail _ ih
section
variable {g h:Hp} {L L':List (Nat×Blk)} {b:Nat} {M M':MSl}
abbrev df :List Value:= [.slice none 0 0, .slice none 0 0, .slice none 0 0, .slice none 0 0, .slice none 0 0]
theorem jU {cs:List Value} {Q:Hp->Prop} (K:Kn g h L) (u:Upd L b (.inl ⟨cs,5,false⟩) (.inl ⟨aw M',5,false⟩) L') (hl:cs.length=5) (k: ∀h',Kn g h' L'->Q h'):
  ∃(cs:List Value) (z:Nat),h b=some (.inl ⟨cs,z,false⟩)/\0+5<=List.length cs/\cA (h.row b (cz cs 0 (aw M')) z) fun h'=>Q h':=by
 have e:cz cs 0 (aw M')=aw M':=by
  match cs,hl with
  | [_,_,_,_,_],_=>rfl
 exact Kn.wr (cs:=cs) (z:=5) (o:=0) (vs:=aw M') K (L':=L') (by rw [e];exact u) (by omega) fun h' K' _=>k h' K'
theorem CW {Q:Sl->Sl->Sl->Sl->Sl->Hp->Prop} (K:Kn g h L) (u:Upd L b (.inl ⟨df,5,false⟩) (.inl ⟨aw M,5,false⟩) L') (k: ∀h',Kn g h' L'->Q M.no M.ini M.nex M.bad M.hol h'):
  ∃(cs:List Value) (z:Nat),h b=some (.inl ⟨cs,z,false⟩)/\0+5<=List.length cs/\cA (h.row b (cz cs 0 (aw M)) z) fun h'=> ∃s1:Sl,Hp.cell h' b 0=some s1.v/\ ∃s2:Sl,Hp.cell h' b 1=some s2.v/\
   ∃s3:Sl,Hp.cell h' b 2=some s3.v/\ ∃s4:Sl,Hp.cell h' b 3=some s4.v/\ ∃s5:Sl,Hp.cell h' b 4=some s5.v/\Q s1 s2 s3 s4 s5 h':=by
 refine jU K u rfl fun h' K'=>?_
 have hm:=u.mem2
 have c:=fun o=>aq (K'.at hm) o
 exact⟨_,c 0,_,c 1,_,c 2,_,c 3,_,c 4,k h' K'⟩
end
theorem z8 {α:Type} (a b c d e:α) (L:List α):(a::b::c::d::e::L).Perm (e::a::b::c::d::L):=by
 refine((List.Perm.cons a ((List.Perm.cons b ((List.Perm.cons c (List.Perm.swap e d L)).trans (List.Perm.swap e c _))).trans (List.Perm.swap e b _))).trans (List.Perm.swap e a _))
theorem Upd.app {L L' X:List (Nat×Blk)} {b:Nat} {x y:Blk} (u:Upd L b x y L'):Upd (L++X) b x y (L'++X):=by
 induction u with
 |head=>exact .head
 |tail _ ih=>exact .tail ih
theorem lA {g h:Hp} {H X:List (Nat×Blk)} {b bn:Nat} {M:MSl} {m:ah} {nd:NodeP} {J:Hp->Prop} (o:MG X M m) (K:Kn g h ((bn, .inl ⟨nodeCells nd,9,false⟩)::(H++X))) (hm:m.nodes.length<=10000) (hb:(b, .inl ⟨aw M,5,false⟩)∈H)
  (k: ∀s' X' h',MG X' {M with no:=s'} {m with nodes:=m.nodes++ [nd]}->(∀H',Upd H b (.inl ⟨aw M,5,false⟩) (.inl ⟨aw {M with no:=s'},5,false⟩) H'->Kn g h' (H'++X'))->J h'):
  co h M.no.a M.no.n M.no.c (some ⟨bn,0,none⟩) 1 9 80 fun a n c h95=> ∃(cs:List Value) (z:Nat),h95 b=some (.inl ⟨cs,z,false⟩)/\0+1<=List.length cs/\cA (h95.row b (cz cs 0 [.slice a n c]) z) fun h'=>J h':=by
 refine MG.appN (A:=_::H) (n:=nd) o K (by omega) (K.at (.head _)) fun s' X' h7 o' K7=>?_
 rw [List.cons_append]at K7
 have f:=K7.at (.tail _ (List.mem_append_left _ hb))
 exact⟨_,_,f,by simp,k s' X' _ o' fun H' u=>(K7.tl).set (u.app (X:=X'))⟩
set_option maxHeartbeats 1000000 in
theorem uX {g h:Hp} {A X:List (Nat×Blk)} {B p N:Nat} {s:Sl} {bs:List Nat} {M:MSl} {m:ah} {st:SortP} {R:Value->Hp->Prop} (K:Kn g h ((B,rdC s p)::(A++X))) (hb:ByteS g s bs) (o:MG X M m) (d:DM m N) (hN:N<=10000)
  (hne:0<m.nodes.length) (hp:p<=900000) (hst:bR st=true)
  (k: ∀h' p' X' M' m' (i:Nat),Kn g h' ((B,rdC s p')::(A++X'))->MG X' M' m'->DM m' (N+1)->i<m'.nodes.length->m.nodes.length<=m'.nodes.length->p'<=p+2->R (.tuple #[aQ M',I i]) h'):
  fH #[.pointer (some ⟨B,0,none⟩),aQ M,uQ st] h R:=by
 apply Fb
 refine uf_ ?_
 obtain⟨_,hw1,hw2⟩:=lw hst
 have hl:=o.lens
 have hsm:=d.small (by omega)
 have hdn:=d.nodes
 refine Kn.al K fun b10 h1 K1 l1 hb10=>?_
 refine Kn.al K1 fun b12 h2 K2 l2 hb12=>?_
 refine Kn.al K2 fun b14 h3 K3 l3 hb14=>?_
 clear K K1 K2 l1 l2 l3 hb10 hb12 hb14
 (refine kr_ ?_)
 refine kp_ ?_
 intro x h4 K4 hx _
 refine⟨_,rfl,?_⟩
 replace hx:x<m.nodes.length:=by have:=hx (by omega);omega
 clear K3 h3 h2 h1 h
 have hs:=o.modelS (A:=_::_::_::_::A) hsm K4
 refine av m.nodes.length (fun i vs h'=>vs= [.pointer (some ⟨B,0,none⟩), .pointer (some ⟨b10,0,none⟩), .pointer (some ⟨b12,0,none⟩), .pointer (some ⟨b14,0,none⟩),I x,I i]/\h4=h') ⟨rfl,rfl⟩ ?_
 rintro i _ _ nxt hi ⟨rfl,rfl⟩ hnx
 refine⟨_,b10,0,b12,0,b14,0,_,_,rfl,?_⟩
 (refine kr_ ?_)
 have same: ∀q:Nat,q<m.nodes.length-> ∃(cs:List Value) (z:Nat),h4 b14=some (.inl ⟨cs,z,false⟩)/\0+5<=List.length cs/\cA (h4.row b14 (cz cs 0 (aw M)) z) fun h58=> ∃s59:Sl,Hp.cell h58 b14 0=some s59.v/\ ∃s60:Sl,Hp.cell h58 b14 (0+1)=some s60.v/\
   ∃s61:Sl,Hp.cell h58 b14 (0+2)=some s61.v/\ ∃s62:Sl,Hp.cell h58 b14 (0+3)=some s62.v/\ ∃s63:Sl,Hp.cell h58 b14 (0+4)=some s63.v/\R (.tuple #[.agg #[s59.v,s60.v,s61.v,s62.v,s63.v],I q]) h58:=by
  intro q hq
  refine kw_ ?_
  intro h5 K5 _
  have K5':Kn g h5 ((b14, .inl ⟨aw M,5,false⟩)::(b12, .inl ⟨[I st.idx,I st.wid],2,false⟩)::(b10, .inl ⟨aw M,5,false⟩)::(B,rdC s (p+1))::(A++X)):=K5
  clear K5 K4
  repeat' (refine kr_ ?_)
  exact k h5 (p+1) X M m q K5'.tl.tl.tl o (d.more (by omega)) hq (Nat.le_refl _) (by omega)
 by_cases hlt:i<m.nodes.length
 ·refine aM (by rw [decide_eq_true_eq];omega) ?_
  (refine kr_ ?_)
  rw [if_neg (by omega)]
  (refine kr_ ?_)
  have hq:(x+i)%m.nodes.length<m.nodes.length:=Nat.mod_lt _ hne
  rw [<-Int.natCast_add,eM (by omega),show ((M.no.n:Nat):Int)=(m.nodes.length:Nat) by omega,eU]
  generalize (x+i)%m.nodes.length=q at*
  obtain⟨n,hni⟩: ∃n,m.nodes[q]?=some n:=⟨_,List.getElem?_eq_getElem hq⟩
  obtain⟨b,oo,ha,e0,e1,e2,e3,e4,e5,e6,e7,e8⟩:=hs.nodes.at hni
  rw [Int.toNat_natCast]
  refine⟨b,oo,ha,by omega,by omega,_,e6,_,e7,?_⟩
  (refine kr_ ?_)
  (refine kr_ ?_)
  refine ac (fun e=>?_) (fun e=>?_)
  ·repeat' (refine kr_ ?_)
   exact same q hq
  ·rw [aC (by omega)]
   exact hnx hlt _ _ ⟨rfl,rfl⟩
 refine aE (by rw [decide_eq_false_iff_not];omega) ?_
 clear hnx hlt hi
 (refine kr_ ?_)
 refine ac (fun e=>?_) (fun e=>?_)
 ·repeat' (refine kr_ ?_)
  exact same 0 hne
 have e':=of_decide_eq_false e
 have hi0:st.idx=0:=by have:=(lw hst).1;omega
 clear same hs
 refine ap (fun J=> ∀h5 X' s' p' nd,nd.sort=st->nd.name.size=0->MG X' {M with no:=s'} {m with nodes:=m.nodes++ [nd]}->Kn g h5 ((b14, .inl ⟨[.slice none 0 0, .slice none 0 0, .slice none 0 0, .slice none 0 0, .slice none 0 0],5,false⟩)::(b12, .inl ⟨[I st.idx,I st.wid],2,false⟩)::
  (b10, .inl ⟨aw {M with no:=s'},5,false⟩)::(B,rdC s p')::(A++X'))->p'<=p+2->J h5) (fun h5 X' s' p' nd hs1 hs2 o' K5 hp'=>?_) (fun J hJ=>?_)
 ·have hl':=o'.lens
  repeat' (refine kr_ ?_)
  refine kw_ ?_
  intro h6 K6 kp6
  have K6':Kn g h6 ((b14, .inl ⟨aw {M with no:=s'},5,false⟩)::(b12, .inl ⟨[I st.idx,I st.wid],2,false⟩)::(b10, .inl ⟨aw {M with no:=s'},5,false⟩)::(B,rdC s p')::(A++X')):=K6
  repeat' (refine kr_ ?_)
  clear K5 K6 K4
  repeat' (refine kr_ ?_)
  rw [show W ((s'.n:Int)-1)=(m.nodes.length:Nat) by
   have h1:=hl'.1
   simp at h1
   rw [bU (by omega) (by omega)];omega]
  exact k h6 p' X' _ _ m.nodes.length K6'.tl.tl.tl o' (d.addN (by rw [hs1];exact hst) (by omega)) (by simp) (by simp) hp'
 obtain⟨w,hw⟩: ∃w:Nat,st.wid=w:=⟨st.wid.toNat,by omega⟩
 have hp2:0<2^w:=Nat.two_pow_pos w
 have fin: ∀(y:Nat) (h5 h6:Hp) (q b:Nat),q<=p+2->Kn g h5 ((b14, .inl ⟨[.slice none 0 0, .slice none 0 0, .slice none 0 0, .slice none 0 0, .slice none 0 0],5,false⟩)::(b12, .inl ⟨[I st.idx,I st.wid],2,false⟩)::(b10, .inl ⟨aw M,5,false⟩)::(B,rdC s q)::(A++X))->
   Kn g h6 ((b, .inl ⟨[I 34,I 0,I 0,I 0,I (Int.tmod y (2^w:Nat)),I 0,I st.idx,I st.wid, .string ⟨#[]⟩],9,false⟩)::(b14, .inl ⟨[.slice none 0 0, .slice none 0 0, .slice none 0 0, .slice none 0 0, .slice none 0 0],5,false⟩)::(b12, .inl ⟨[I st.idx,I st.wid],2,false⟩)::(b10, .inl ⟨aw M,5,false⟩)::(B,rdC s q)::(A++X))->
   co h6 M.no.a M.no.n M.no.c (some (Addr.mk b 0 none)) 1 9 80 fun a92 n93 k94 h95=> ∃(cs96:List Value) (z97:Nat),h95 b10=some (.inl ⟨cs96,z97,false⟩)/\0+1<=List.length cs96/\cA (h95.row b10 (cz cs96 0 [(.slice a92 n93 k94)]) z97) fun h98=>J h98:=by
  intro y h5 h6 q b hq K5 K6
  refine MG.appN (A:=_::_::_::_::_::A) (n:=⟨34,0,0,0,Int.tmod y (2^w:Nat),0,st,⟨#[]⟩⟩) o K6 (by omega) (K6.at (.head _)) fun s' X' h7 o' K7=>?_
  simp only [List.cons_append]at K7
  clear K6 K5 K4
  refine kw_ ?_
  intro h8 K8 _
  exact hJ h8 X' s' q _ rfl rfl o' K8.tl hq
 repeat' (refine kr_ ?_)
 refine⟨?_,?_⟩
 ·refine kp_ ?_
  intro y h5 K5 hy _
  refine⟨_,rfl,?_⟩
  repeat' (refine kr_ ?_)
  rw [hw,cu (by omega),if_neg (by omega),bG (by omega),if_neg (by omega),<-hw]
  refine Kn.al K5 fun b90 h6 K6 l6 hb90=>?_
  (refine kr_ ?_)
  exact fin y h5 h6 (p+2) b90 (Nat.le_refl _) K5 K6
 ·repeat' (refine kr_ ?_)
  rw [hw,cu (by omega),if_neg (by omega),bG (by omega),<-hw]
  refine kp_ ?_
  intro y h5 K5 hy _
  refine⟨_,rfl,?_⟩
  repeat' (refine kr_ ?_)
  rw [if_neg (by omega)]
  refine Kn.al K5 fun b90 h6 K6 l6 hb90=>?_
  (refine kr_ ?_)
  exact fin y h5 h6 (p+2) b90 (Nat.le_refl _) K5 K6
set_option maxHeartbeats 1000000 in
theorem JH {g h:Hp} {A X:List (Nat×Blk)} {B p N:Nat} {s:Sl} {bs:List Nat} {M:MSl} {m:ah} {R:Value->Hp->Prop} (K:Kn g h ((B,rdC s p)::(A++X))) (hb:ByteS g s bs) (o:MG X M m) (d:DM m N) (hN:N<=1000)
  (hne:0<m.nodes.length) (hp:p<=800000)
  (k: ∀h' p' X' M' m' (i:Nat),Kn g h' ((B,rdC s p')::(A++X'))->MG X' M' m'->DM m' (N+3)->i<m'.nodes.length->m.nodes.length<=m'.nodes.length->p'<=p+2*N+10->R (.tuple #[aQ M',I i]) h'):
  lK #[.pointer (some ⟨B,0,none⟩),aQ M] h R:=by
 apply Db
 refine uf_ ?_
 have hl:=o.lens
 have hsm:=d.small (by omega)
 have hdn:=d.nodes
 refine Kn.al K fun b8 h1 K1 l1 hb8=>?_
 refine Kn.al K1 fun b10 h2 K2 l2 hb10=>?_
 clear K K1 l1 l2 hb8 hb10
 (refine kr_ ?_)
 rw [show W ((M.no.n:Int)-1)=(m.nodes.length:Int)-1 by rw [bU (by omega) (by omega)];omega]
 refine nD m.nodes.length (fun i vs h'=>vs= [.pointer (some ⟨B,0,none⟩), .pointer (some ⟨b8,0,none⟩), .pointer (some ⟨b10,0,none⟩),I ((i:Int)-1)]/\i<=m.nodes.length/\
  ∃q,q+i<=p+m.nodes.length/\Kn g h' ((b10, .inl ⟨df,5,false⟩)::(b8, .inl ⟨aw M,5,false⟩)::(B,rdC s q)::(A++X))) ⟨rfl,Nat.le_refl _,p,Nat.le_refl _,K2⟩ ?_
 clear K2 h1 h2 h
 rintro i _ h4 nxt ⟨rfl,hi,q,hq,K4⟩ hnx
 refine⟨_,b8,0,b10,0,_,rfl,?_⟩
 have hs:=o.modelS (A:=_::_::_::A) hsm K4
 cases i with
 |succ i=>
  rw [show (((i+1:Nat):Int)-1)=(i:Nat) by omega]
  refine aM (by rw [decide_eq_true_eq];omega) ?_
  refine ap (fun J=> ∀c h5 q,q+i<=p+m.nodes.length->Kn g h5 ((b10, .inl ⟨df,5,false⟩)::(b8, .inl ⟨aw M,5,false⟩)::(B,rdC s q)::(A++X))->J c h5) (fun c h5 q' hq' K5=>?_) (fun J hJ=>?_)
  ·refine ac (fun e=>?_) (fun e=>?_)
   ·clear K4
    repeat' (refine kr_ ?_)
    refine CW K5 (by((focus ((repeat first|exact .head|apply Upd.tail);done)))) fun h6 K6=>?_
    exact k h6 q' X M m i K6.tl.tl o (d.more (by omega)) (by omega) (Nat.le_refl _) (by omega)
   ·rw [bU (by omega) (by omega)]
    exact hnx i (by omega) _ _ ⟨rfl,by omega,q',hq',K5⟩
  ·(refine kr_ ?_)
   obtain⟨n,hni⟩: ∃n,m.nodes[i]?=some n:=⟨_,List.getElem?_eq_getElem (by omega)⟩
   obtain⟨b,oo,ha,e0,e1,e2,e3,e4,e5,e6,e7,e8⟩:=hs.nodes.at hni
   refine⟨b,oo,ha,by omega,by omega,_,by rw [Int.toNat_natCast];exact e6,_,by rw [Int.toNat_natCast];exact e7,?_⟩
   refine ce ⟨_,_,rfl,?_⟩
   repeat' (refine kr_ ?_)
   refine ac (fun e=>?_) (fun e=>?_)
   ·(refine kr_ ?_)
    refine⟨b,oo,ha,by omega,by omega,_,by rw [Int.toNat_natCast];exact e0,?_⟩
    refine ac (fun e=>?_) (fun e=>?_)
    ·refine kp_ ?_
     intro x h5 K5 hx _
     exact⟨_,rfl,hJ _ h5 (q+1) (by omega) K5⟩
    ·exact hJ _ h4 q (by omega) K4
   ·exact hJ _ h4 q (by omega) K4
 |zero=>
 refine aE (by rw [decide_eq_false_iff_not];omega) ?_
 clear hnx
 refine av m.nodes.length (fun i vs h'=> ∃(a q:Nat),vs= [.pointer (some ⟨B,0,none⟩), .pointer (some ⟨b8,0,none⟩), .pointer (some ⟨b10,0,none⟩),I a,I i]/\a<m.nodes.length/\
  q<=p+m.nodes.length+i/\Kn g h' ((b10, .inl ⟨df,5,false⟩)::(b8, .inl ⟨aw M,5,false⟩)::(B,rdC s q)::(A++X))) ⟨0,q,rfl,hne,by omega,K4⟩ ?_
 clear K4 hq hs h4 hi q
 rintro i _ h4 nxt hi ⟨a,q,rfl,ha',hq,K4⟩ hnx
 refine⟨_,b8,0,b10,0,_,_,rfl,?_⟩
 have hs:=o.modelS (A:=_::_::_::A) hsm K4
 (refine kr_ ?_)
 obtain⟨na,hna⟩: ∃n,m.nodes[a]?=some n:=⟨_,List.getElem?_eq_getElem ha'⟩
 by_cases hlt:i<m.nodes.length
 ·refine aM (by rw [decide_eq_true_eq];omega) ?_
  refine ap (fun J=> ∀(c:Nat) h5 q,c<m.nodes.length->q<=p+m.nodes.length+(i+1)->Kn g h5 ((b10, .inl ⟨df,5,false⟩)::(b8, .inl ⟨aw M,5,false⟩)::(B,rdC s q)::(A++X))->J (c:Int) h5) (fun c h5 q' hc hq' K5=>?_) (fun J hJ=>?_)
  ·rw [aC (by omega)]
   exact hnx hlt _ _ ⟨c,q',rfl,hc,hq',K5⟩
  ·(refine kr_ ?_)
   obtain⟨n,hni⟩: ∃n,m.nodes[i]?=some n:=⟨_,List.getElem?_eq_getElem hlt⟩
   obtain⟨b,oo,ha,e0,_⟩:=hs.nodes.at hni
   refine⟨b,oo,ha,by omega,by omega,_,by rw [Int.toNat_natCast];exact e0,?_⟩
   refine ac (fun e=>?_) (fun e=>?_)
   ·(refine kr_ ?_)
    obtain⟨b,oo,ha,e0,_⟩:=hs.nodes.at hna
    refine⟨b,oo,ha,by omega,by omega,_,by rw [Int.toNat_natCast];exact e0,?_⟩
    refine ac (fun e=>?_) (fun e=>?_)
    ·exact hJ i h4 q hlt (by omega) K4
    ·refine kp_ ?_
     intro x h5 K5 hx _
     refine⟨_,rfl,ac (fun e=>?_) (fun e=>?_)⟩
     ·exact hJ i h5 _ hlt (by omega) K5
     ·exact hJ a h5 _ ha' (by omega) K5
   ·exact hJ a h4 q ha' (by omega) K4
 refine aE (by rw [decide_eq_false_iff_not];omega) ?_
 clear hnx
 repeat' (refine kr_ ?_)
 obtain⟨b,oo,ha,e0,e1,e2,e3,e4,e5,e6,e7,e8⟩:=hs.nodes.at hna
 refine⟨b,oo,ha,by omega,by omega,_,by rw [Int.toNat_natCast];exact e6,_,by rw [Int.toNat_natCast];exact e7,?_⟩
 refine uX (p:=q) (A:=(b10, .inl ⟨df,5,false⟩)::(b8, .inl ⟨aw M,5,false⟩)::A) (st:=na.sort) (K4.perm ?_) hb o d (by omega) hne (by omega) (rX d hna) fun h5 q5 X5 M5 m5 i5 K5 o5 d5 hi5 hl5 hq5=>⟨_,_,_,_,_,_,rfl,?_⟩
 ·exact(List.Perm.cons _ (List.Perm.swap ..)).trans (List.Perm.swap ..)
 have K5':Kn g h5 ((b10, .inl ⟨df,5,false⟩)::(b8, .inl ⟨aw M,5,false⟩)::(B,rdC s q5)::(A++X5)):=K5.perm ((List.Perm.swap ..).trans (List.Perm.cons _ (List.Perm.swap ..)))
 clear K5 K4 hs e0 e1 e2 e3 e4 e5 e6 e7 e8 ha
 refine jU (M':=M5) K5' (by((focus ((repeat first|exact .head|apply Upd.tail);done)))) rfl fun h6 K6=>?_
 clear K5'
 have hl5':=o5.lens
 have hsm5:=d5.small (by omega)
 have hs6:=o5.modelS (A:=_::_::_::A) hsm5 K6
 obtain⟨nb,hnb⟩: ∃n,m5.nodes[a]?=some n:=⟨_,List.getElem?_eq_getElem (by omega)⟩
 refine ap (fun J=> ∀c,J c) (fun c=>?_) (fun J hJ=>?_)
 rotate_left
 ·refine ac (fun e=>?_) (fun e=>hJ _)
  (refine kr_ ?_)
  obtain⟨b,oo,ha,e0,e1,e2,e3,e4,e5,e6,e7,e8⟩:=hs6.nodes.at hnb
  exact⟨b,oo,ha,by omega,by omega,_,by rw [Int.toNat_natCast];exact e6,hJ _⟩
 have d5n:=d5.nodes
 refine ap (fun J=> ∀(x:Nat) h7 q X7 M7 m7,MG X7 M7 m7->DM m7 (N+2)->x<m7.nodes.length->m5.nodes.length<=m7.nodes.length->q<=q5+1->Kn g h7 ((b10, .inl ⟨df,5,false⟩)::(b8, .inl ⟨aw M7,5,false⟩)::(B,rdC s q)::(A++X7))->J (x:Int) h7)
  (fun x h7 q7 X7 M7 m7 o7 d7 hx7 hl7 hq7 K7=>?_) (fun J hJ=>?_)
 ·clear K6 hs6
  have hl7':=o7.lens
  have d7n:=d7.nodes
  (refine kr_ ?_)
  refine ce ⟨_,_,rfl,?_⟩
  repeat' (refine kr_ ?_)
  refine Kn.al K7 fun b173 h8 K8 l8 hb173=>?_
  repeat' (refine kr_ ?_)
  refine lA (H:=_::_::_::A) (nd:=⟨21,a,x,0,0,0,⟨0,1⟩,⟨#[]⟩⟩) o7 K8 (by omega) (.tail _ (.head _)) fun s' X9 h9 o9 KF=>?_
  have K9:=KF _ (by((focus ((repeat first|exact .head|apply Upd.tail);done))))
  simp only [List.cons_append]at K9
  clear KF K8 K7
  have hl9:=o9.lens
  repeat' (refine kr_ ?_)
  refine jU (M':={M7 with no:=s'}) K9 (by((focus ((repeat first|exact .head|apply Upd.tail);done)))) rfl fun h11 K11=>?_
  repeat' (refine kr_ ?_)
  rw [show W ((s'.n:Int)-1)=(m7.nodes.length:Nat) by
   have h1:=hl9.1
   simp at h1
   rw [bU (by omega) (by omega)];omega]
  exact k h11 q7 X9 _ _ m7.nodes.length K11.tl.tl o9 (d7.addN rfl (show (0:Nat)<=100 by omega)) (by simp) (by simp;omega) (by omega)
 ·refine ac (fun e=>?_) (fun e=>?_)
  rotate_left
  ·exact hJ i5 h6 q5 X5 M5 m5 o5 (d5.more (by omega)) hi5 (Nat.le_refl _) (by omega) K6
  have hok:=rX d5 hnb
  obtain⟨_,hw1,hw2⟩:=lw hok
  obtain⟨b,oo,ha,e0,e1,e2,e3,e4,e5,e6,e7,e8⟩:=hs6.nodes.at hnb
  obtain⟨bN,xN,haN,hmN⟩:=o5.blk (by omega)
  repeat' (refine kr_ ?_)
  refine⟨b,oo,ha,by omega,by omega,_,by rw [Int.toNat_natCast];exact e7,?_⟩
  repeat' (refine kr_ ?_)
  refine⟨b,oo,ha,by omega,by omega,_,by rw [Int.toNat_natCast];exact e6,_,by rw [Int.toNat_natCast];exact e7,?_⟩
  rw [haN]at ha
  cases ha
  obtain⟨w,hw⟩: ∃w:Nat,nb.sort.wid=w:=⟨nb.sort.wid.toNat,by omega⟩
  have hp2:0<2^w:=Nat.two_pow_pos w
  have fin: ∀(y:Nat) (h8:Hp) (b:Nat),Kn g h8 ((b, .inl ⟨[I 34,I 0,I 0,I 0,I (Int.tmod y (2^w:Nat)),I 0,I nb.sort.idx,I nb.sort.wid, .string ⟨#[]⟩],9,false⟩)::(b10, .inl ⟨df,5,false⟩)::(b8, .inl ⟨aw M5,5,false⟩)::(B,rdC s (q5+1))::(A++X5))->
    co h8 M5.no.a M5.no.n M5.no.c (some (Addr.mk b 0 none)) 1 9 80 fun a92 n93 k94 h95=> ∃(cs96:List Value) (z97:Nat),h95 b8=some (.inl ⟨cs96,z97,false⟩)/\0+1<=List.length cs96/\cA (h95.row b8 (cz cs96 0 [(.slice a92 n93 k94)]) z97) fun h148=>
     ∃s150:Sl,Hp.cell h148 b8 0=some s150.v/\J (W ((s150.n:Int)-1)) h148:=by
   intro y h8 b K8
   refine lA (H:=_::_::_::A) (nd:=⟨34,0,0,0,Int.tmod y (2^w:Nat),0,nb.sort,⟨#[]⟩⟩) o5 K8 (by omega) (.tail _ (.head _)) fun s' X9 h9 o9 KF=>?_
   have K9:=KF _ (by((focus ((repeat first|exact .head|apply Upd.tail);done))))
   simp only [List.cons_append]at K9
   clear KF K8 K6
   have hl9:=o9.lens
   (refine kr_ ?_)
   rw [show W ((s'.n:Int)-1)=(m5.nodes.length:Nat) by
    have h1:=hl9.1
    simp at h1
    rw [bU (by omega) (by omega)];omega]
   exact hJ m5.nodes.length h9 (q5+1) X9 _ _ o9 (d5.addN hok (show (0:Nat)<=100 by omega)) (by simp) (by simp) (by omega) K9
  refine⟨?_,?_⟩
  ·refine kp_ ?_
   intro y h7 K7 hy _
   refine⟨_,rfl,?_⟩
   have hq:h7 b=h6 b:=by rw [K7.at (.tail _ (.tail _ (.tail _ (List.mem_append_right _ hmN)))),K6.at (.tail _ (.tail _ (.tail _ (List.mem_append_right _ hmN))))]
   repeat' (first|(refine kr_ ?_)|refine And.intro hq ?_)
   rw [hw,cu (by omega),if_neg (by omega),bG (by omega),if_neg (by omega),<-hw]
   refine Kn.al K7 fun b90 h8 K8 l8 hb90=>?_
   (refine kr_ ?_)
   exact fin y h8 b90 K8
  ·repeat' (refine kr_ ?_)
   rw [hw,cu (by omega),if_neg (by omega),bG (by omega),<-hw]
   refine kp_ ?_
   intro y h7 K7 hy _
   refine⟨_,rfl,?_⟩
   have hq:h7 b=h6 b:=by rw [K7.at (.tail _ (.tail _ (.tail _ (List.mem_append_right _ hmN)))),K6.at (.tail _ (.tail _ (.tail _ (List.mem_append_right _ hmN))))]
   repeat' (first|(refine kr_ ?_)|refine And.intro hq ?_)
   rw [if_neg (by omega)]
   refine Kn.al K7 fun b90 h8 K8 l8 hb90=>?_
   (refine kr_ ?_)
   exact fin y h8 b90 K8
theorem aa0 :DM noP 0:=⟨by simp,fun n hn=>by simp at hn,fun n hn=>by simp at hn,by simp,by simp,by simp,by simp⟩
theorem acZ {i:Nat} (h:i<4): ∃s:ByteArray,([.string ⟨#[120]⟩, .string ⟨#[121]⟩, .string ⟨#[122]⟩, .string ⟨#[109,101,109]⟩]:List Value)[i]?=some (.string s)/\s.size<=100:=by
 rcases i with _|_|_|_|i
 ·exact⟨_,rfl,by decide⟩
 ·exact⟨_,rfl,by decide⟩
 ·exact⟨_,rfl,by decide⟩
 ·exact⟨_,rfl,by decide⟩
 ·omega
theorem ac0 {i:Nat} (h:i<2): ∃s:ByteArray,([.string ⟨#[103,111]⟩, .string ⟨#[105,110]⟩]:List Value)[i]?=some (.string s)/\s.size<=100:=by
 rcases i with _|_|i
 ·exact⟨_,rfl,by decide⟩
 ·exact⟨_,rfl,by decide⟩
 ·omega
theorem xh {a b:Int} (h1:0<=a) (h2:a<=2) (h3:1<=b) (h4:b<=16):bR ⟨a,b⟩=true:=decide_eq_true ⟨⟨h1,h2⟩,h3,h4⟩
set_option maxHeartbeats 2000000 in
theorem Lv {g h:Hp} {A:List (Nat×Blk)} {B p:Nat} {s:Sl} {bs:List Nat} {big:Bool} {R:Value->Hp->Prop} (K:Kn g h ((B,rdC s p)::A)) (hb:ByteS g s bs) (hp:p<=800000)
  (k: ∀h' p' X' M' m',Kn g h' ((B,rdC s p')::(A++X'))->MG X' M' m'->DM m' 12->0<m'.nodes.length->p'<=p+60->R (aQ M') h'):
  lW #[.pointer (some ⟨B,0,none⟩),aQ noM, .bool big] h R:=by
 apply zp
 refine uf_ ?_
 refine Kn.al K fun b9 h1 K1 l1 hb9=>?_
 refine Kn.al K1 fun b11 h2 K2 l2 hb11=>?_
 refine Kn.al K2 fun b14 h3 K3 l3 hb14=>?_
 clear K K1 K2 l1 l2 l3 hb9 hb11 hb14
 refine ap (fun J=> ∀x:Int,J x) (fun x20=>?_) (fun J hJ=>ac (fun _=>hJ _) (fun _=>hJ _))
 refine kp_ ?_
 intro x24 h4 K4 hx24 _
 refine⟨_,rfl,?_⟩
 replace hx24:x24<3:=by have:=hx24 (by omega);omega
 clear K3 h3 h2 h1 h
 rw [show W (1+(x24:Int))=((1+x24:Nat):Int) by rw [bU (by omega) (by omega)];omega]
 refine av (1+x24) (fun i vs h'=> ∃(bits:Int) (q:Nat) (X:List (Nat×Blk)) (M:MSl) (m:ah),vs= [.pointer (some ⟨B,0,none⟩), .pointer (some ⟨b9,0,none⟩), .pointer (some ⟨b11,0,none⟩),(arr b14 4).v,I bits,I (1+x24:Nat),I i]/\
  MG X M m/\DM m i/\q<=p+1+4*i/\Kn g h' ((b14, .inl ⟨[.string ⟨#[120]⟩, .string ⟨#[121]⟩, .string ⟨#[122]⟩, .string ⟨#[109,101,109]⟩],4,false⟩)::(b11, .inl ⟨df,5,false⟩)::(b9, .inl ⟨aw M,5,false⟩)::(B,rdC s q)::(A++X)))
  ⟨x20,p+1, [],noM,noP,rfl,MG.nil,aa0,by omega,by rw [List.append_nil];exact K4⟩ ?_
 clear K4 h4
 rintro i _ h4 nxt hi ⟨bits,q,X,M,m,rfl,o,d,hq,K4⟩ hnx
 refine⟨_,b9,0,b11,0,arr b14 4,_,_,_,rfl,?_⟩
 have hl:=o.lens
 have hdn:=d.nodes
 by_cases hlt:i<1+x24
 ·refine aM (by rw [decide_eq_true_eq];omega) ?_
  have hi4:i<4:=by omega
  refine ap (fun J=> ∀(bits:Int) h5 q X M m,MG X M m->DM m (i+1)->q<=p+1+4*(i+1)->Kn g h5 ((b14, .inl ⟨[.string ⟨#[120]⟩, .string ⟨#[121]⟩, .string ⟨#[122]⟩, .string ⟨#[109,101,109]⟩],4,false⟩)::(b11, .inl ⟨df,5,false⟩)::(b9, .inl ⟨aw M,5,false⟩)::(B,rdC s q)::(A++X))->J bits h5)
   (fun bits h5 q X M m o d hq K5=>?_) (fun J hJ=>?_)
  ·rw [aC (by omega)]
   exact hnx hlt _ _ ⟨bits,q,X,M,m,rfl,o,d,hq,K5⟩
  ·refine kp_ ?_
   intro x45 h5 K5 hx45 _
   refine⟨_,rfl,?_⟩
   replace hx45:x45<4:=by have:=hx45 (by omega);omega
   refine Kn.al K5 fun b46 h6 K6 l6 hb46=>?_
   clear K5 K4
   refine kw_ ?_
   intro h7 K7 _
   clear K6 l6 hb46
   refine kp_ ?_
   intro x54 h8 K8 _ _
   refine⟨_,rfl,?_⟩
   clear K7
   refine ap (fun J=> ∀(a w:Int) h9 q',0<=a->a<=2->1<=w->w<=16->q'<=q+4->Kn g h9 ((b46, .inl ⟨[I a,I w],2,false⟩)::(b14, .inl ⟨[.string ⟨#[120]⟩, .string ⟨#[121]⟩, .string ⟨#[122]⟩, .string ⟨#[109,101,109]⟩],4,false⟩)::(b11, .inl ⟨df,5,false⟩)::(b9, .inl ⟨aw M,5,false⟩)::(B,rdC s q')::(A++X))->J h9)
    (fun a w h9 q' a1 a2 w1 w2 hq' K9=>?_) (fun J hJ=>?_)
   ·repeat' (refine kr_ ?_)
    refine ii ⟨_,rfl,?_⟩
    refine ac (fun e=>?_) (fun e=>hJ _ _ q' X M m o (d.more (by omega)) (by omega) K9.tl)
    repeat' (refine kr_ ?_)
    refine ii ⟨_,rfl,?_⟩
    refine⟨b14,0,rfl,by omega,by dsimp only;omega,?_⟩
    repeat' (refine kr_ ?_)
    obtain⟨nm,hnm,hsz⟩:=acZ hi4
    refine⟨nm,by rw [aq (K9.at (.tail _ (.head _))),Int.toNat_natCast,Nat.zero_add,Nat.mul_one];exact hnm,?_⟩
    refine Kn.al K9 fun b86 h10 K10 l10 hb86=>?_
    repeat' (refine kr_ ?_)
    refine lA (H:=_::_::_::_::_::A) (nd:=⟨36,0,0,0,0,0,⟨a,w⟩,nm⟩) o K10 (by omega) (.tail _ (.tail _ (.tail _ (.head _)))) fun s' X9 h11 o9 KF=>?_
    have K11:=KF _ (by((focus ((repeat first|exact .head|apply Upd.tail);done))))
    simp only [List.cons_append]at K11
    exact hJ _ h11 q' X9 _ _ o9 (d.addN (xh a1 a2 w1 w2) hsz) (by omega) K11.tl
   ·refine ac (fun e=>?_) (fun e=>?_)
    ·refine kp_ ?_
     intro x59 h9 K9 hx59 _
     refine⟨_,rfl,?_⟩
     refine kp_ ?_
     intro x62 h10 K10 hx62 _
     refine⟨_,rfl,?_⟩
     replace hx59:x59<2:=by have:=hx59 (by omega);omega
     replace hx62:x62<2:=by have:=hx62 (by omega);omega
     clear K9 K8
     refine kw_ ?_
     intro h11 K11 _
     refine hJ (W (1+(x59:Int))) (W (1+(x62:Int))) h11 _ ?_ ?_ ?_ ?_ ?_ K11
     ·rw [bU (by omega) (by omega)];omega
     ·rw [bU (by omega) (by omega)];omega
     ·rw [bU (by omega) (by omega)];omega
     ·rw [bU (by omega) (by omega)];omega
     ·omega
    ·refine hJ 0 (W (1+(x45:Int))) h8 _ (by omega) (by omega) ?_ ?_ ?_ K8
     ·rw [bU (by omega) (by omega)];omega
     ·rw [bU (by omega) (by omega)];omega
     ·omega
 refine aE (by rw [decide_eq_false_iff_not];omega) ?_
 clear hnx
 (refine kr_ ?_)
 refine ap (fun J=> ∀h5 X M m,MG X M m->DM m 4->0<m.nodes.length->Kn g h5 ((b14, .inl ⟨[.string ⟨#[120]⟩, .string ⟨#[121]⟩, .string ⟨#[122]⟩, .string ⟨#[109,101,109]⟩],4,false⟩)::(b11, .inl ⟨df,5,false⟩)::(b9, .inl ⟨aw M,5,false⟩)::(B,rdC s q)::(A++X))->J h5)
  (fun h5 X1 M1 m1 o1 d1 hpos K5=>?_) (fun J hJ=>?_)
 rotate_left
 ·refine ac (fun e=>?_) (fun e=>?_)
  ·(refine kr_ ?_)
   refine ce ⟨_,_,rfl,?_⟩
   repeat' (refine kr_ ?_)
   refine Kn.al K4 fun b109 h5 K5 l5 hb109=>?_
   repeat' (refine kr_ ?_)
   refine lA (H:=_::_::_::_::A) (nd:=⟨36,0,0,0,0,0,⟨0,2⟩,⟨#[120]⟩⟩) o K5 (by omega) (.tail _ (.tail _ (.head _))) fun s' X9 h11 o9 KF=>?_
   have K11:=KF _ (by((focus ((repeat first|exact .head|apply Upd.tail);done))))
   simp only [List.cons_append]at K11
   have hl9:=o9.lens
   exact hJ h11 X9 _ _ o9 ((d.addN (n:=⟨36,0,0,0,0,0,⟨0,2⟩,⟨#[120]⟩⟩) rfl (show (1:Nat)<=100 by omega)).more (by omega)) (by simp) K11
  ·have:m.nodes.length≠0:=fun q=>by rw [show M.no.n=0 by omega]at e;simp at e
   exact hJ h4 X M m o (d.more (by omega)) (by omega) K4
 clear K4 hdn hl d o h4
 refine kp_ ?_
 intro x122 h6 K6 hx122 _
 refine⟨_,rfl,?_⟩
 replace hx122:x122<3:=by have:=hx122 (by omega);omega
 refine av x122 (fun i vs h'=> ∃(q:Nat) (X:List (Nat×Blk)) (M:MSl) (m:ah),vs= [.pointer (some ⟨B,0,none⟩), .pointer (some ⟨b9,0,none⟩), .pointer (some ⟨b11,0,none⟩),I x122,I i]/\
  MG X M m/\DM m (4+i)/\0<m.nodes.length/\q<=p+20+i/\Kn g h' ((b14, .inl ⟨[.string ⟨#[120]⟩, .string ⟨#[121]⟩, .string ⟨#[122]⟩, .string ⟨#[109,101,109]⟩],4,false⟩)::(b11, .inl ⟨df,5,false⟩)::(b9, .inl ⟨aw M,5,false⟩)::(B,rdC s q)::(A++X)))
  ⟨q+1,X1,M1,m1,rfl,o1,d1,hpos,by omega,K6⟩ ?_
 clear K6 K5 hpos d1 o1 hq q m1 M1 X1 h5 h6 m M X
 rintro j _ h4 nxt hj ⟨q,X,M,m,rfl,o,d,hpos,hq,K4⟩ hnx
 refine⟨_,b9,0,b11,0,_,_,rfl,?_⟩
 have hl:=o.lens
 have hdn:=d.nodes
 by_cases hlt:j<x122
 ·refine aM (by rw [decide_eq_true_eq];omega) ?_
  have hj2:j<2:=by omega
  refine ap (fun J=> ∀h5 q X M m,MG X M m->DM m (4+j+1)->0<m.nodes.length->q<=p+20+(j+1)->Kn g h5 ((b14, .inl ⟨[.string ⟨#[120]⟩, .string ⟨#[121]⟩, .string ⟨#[122]⟩, .string ⟨#[109,101,109]⟩],4,false⟩)::(b11, .inl ⟨df,5,false⟩)::(b9, .inl ⟨aw M,5,false⟩)::(B,rdC s q)::(A++X))->J h5)
   (fun h5 q X M m o d hpos hq K5=>?_) (fun J hJ=>?_)
  ·rw [aC (by omega)]
   exact hnx hlt _ _ ⟨q,X,M,m,rfl,o,d,hpos,hq,K5⟩
  obtain⟨nm,hnm,hsz⟩:=ac0 hj2
  have fin: ∀(x bn bg:Nat) (h8:Hp),x<2->Kn g h8 ((bn, .inl ⟨[I 35,I 0,I 0,I 0,I 0,I 0,I 0,I (W (1+(x:Int))), .string nm],9,false⟩)::(bg, .inl ⟨[.string ⟨#[103,111]⟩, .string ⟨#[105,110]⟩],2,false⟩)::(b14, .inl ⟨[.string ⟨#[120]⟩, .string ⟨#[121]⟩, .string ⟨#[122]⟩, .string ⟨#[109,101,109]⟩],4,false⟩)::
    (b11, .inl ⟨df,5,false⟩)::(b9, .inl ⟨aw M,5,false⟩)::(B,rdC s (q+1))::(A++X))->
    co h8 M.no.a M.no.n M.no.c (some (Addr.mk bn 0 none)) 1 9 80 fun a92 n93 k94 h95=> ∃(cs96:List Value) (z97:Nat),h95 b9=some (.inl ⟨cs96,z97,false⟩)/\0+1<=List.length cs96/\cA (h95.row b9 (cz cs96 0 [(.slice a92 n93 k94)]) z97) fun h148=>J h148:=by
   intro x bn bg h8 hx K8
   refine lA (H:=_::_::_::_::_::A) (nd:=⟨35,0,0,0,0,0,⟨0,W (1+(x:Int))⟩,nm⟩) o K8 (by omega) (.tail _ (.tail _ (.tail _ (.head _)))) fun s' X9 h9 o9 KF=>?_
   have K9:=KF _ (by((focus ((repeat first|exact .head|apply Upd.tail);done))))
   simp only [List.cons_append]at K9
   exact hJ h9 (q+1) X9 _ _ o9 (d.addN (xh (by omega) (by omega) (by rw [bU (by omega) (by omega)];omega) (by rw [bU (by omega) (by omega)];omega)) hsz) (by simp) (by omega) K9.tl
  have rd: ∀{h':Hp} {L:List (Nat×Blk)} {bg:Nat} {Q:ByteArray->Prop},Kn g h' ((bg, .inl ⟨[.string ⟨#[103,111]⟩, .string ⟨#[105,110]⟩],2,false⟩)::L)->Q nm-> ∃y:ByteArray,Hp.cell h' bg (0+Int.toNat (j:Int)*1)=some (.string y)/\Q y:=fun K' q=>⟨nm,by rw [aq (K'.at (.head _)),Int.toNat_natCast,Nat.zero_add,Nat.mul_one];exact hnm,q⟩
  (refine kr_ ?_)
  refine⟨?_,?_⟩
  ·refine kp_ ?_
   intro x h5 K5 hx _
   refine⟨_,rfl,?_⟩
   replace hx:x<2:=by have:=hx (by omega);omega
   repeat' (refine kr_ ?_)
   refine⟨?_,?_⟩
   ·refine ce ⟨_,_,rfl,?_⟩
    repeat' (refine kr_ ?_)
    refine Kn.al K5 fun bg h6 K6 l6 hbg=>?_
    repeat' (refine kr_ ?_)
    refine⟨by omega,by omega,?_⟩
    refine rd K6 ?_
    refine Kn.al K6 fun bn h7 K7 l7 hbn=>?_
    repeat' (refine kr_ ?_)
    exact fin x bn bg h7 hx K7
   ·refine Kn.al K5 fun bg h6 K6 l6 hbg=>?_
    repeat' (refine kr_ ?_)
    refine⟨by omega,by omega,?_⟩
    refine rd K6 ?_
    refine ce ⟨_,_,rfl,?_⟩
    repeat' (refine kr_ ?_)
    refine Kn.al K6 fun bn h7 K7 l7 hbn=>?_
    repeat' (refine kr_ ?_)
    exact fin x bn bg h7 hx K7
  ·refine Kn.al K4 fun bg h5 K5 l5 hbg=>?_
   repeat' (refine kr_ ?_)
   refine⟨by omega,by omega,?_⟩
   refine rd K5 ?_
   refine kp_ ?_
   intro x h6 K6 hx _
   refine⟨_,rfl,?_⟩
   replace hx:x<2:=by have:=hx (by omega);omega
   repeat' (refine kr_ ?_)
   refine ce ⟨_,_,rfl,?_⟩
   repeat' (refine kr_ ?_)
   refine Kn.al K6 fun bn h7 K7 l7 hbn=>?_
   repeat' (refine kr_ ?_)
   exact fin x bn bg h7 hx K7
 refine aE (by rw [decide_eq_false_iff_not];omega) ?_
 clear hnx
 refine kp_ ?_
 intro x205 h6 K6 hx205 _
 refine⟨_,rfl,?_⟩
 replace hx205:x205<3:=by have:=hx205 (by omega);omega
 rw [show W (1+(x205:Int))=((1+x205:Nat):Int) by rw [bU (by omega) (by omega)];omega]
 refine av (1+x205) (fun i vs h'=> ∃(q:Nat) (X:List (Nat×Blk)) (M:MSl) (m:ah),vs= [.pointer (some ⟨B,0,none⟩), .pointer (some ⟨b9,0,none⟩), .pointer (some ⟨b11,0,none⟩),I (1+x205:Nat),I i]/\
  MG X M m/\DM m (6+i)/\0<m.nodes.length/\q<=p+30+2*i/\Kn g h' ((b14, .inl ⟨[.string ⟨#[120]⟩, .string ⟨#[121]⟩, .string ⟨#[122]⟩, .string ⟨#[109,101,109]⟩],4,false⟩)::(b11, .inl ⟨df,5,false⟩)::(b9, .inl ⟨aw M,5,false⟩)::(B,rdC s q)::(A++X)))
  ⟨q+1,X,M,m,rfl,o,d.more (by omega),hpos,by omega,K6⟩ ?_
 clear K6 K4 hpos d o hl hdn hq q m M X h4 h6
 rintro i _ h4 nxt hi ⟨q,X,M,m,rfl,o,d,hpos,hq,K4⟩ hnx
 refine⟨_,b9,0,b11,0,_,_,rfl,?_⟩
 have hl:=o.lens
 have hdn:=d.nodes
 by_cases hlt:i<1+x205
 rotate_left
 ·refine aE (by rw [decide_eq_false_iff_not];omega) ?_
  repeat' (refine kr_ ?_)
  refine CW K4 (by((focus ((repeat first|exact .head|apply Upd.tail);done)))) fun h6 K6=>?_
  exact k h6 q X M m K6.tl.tl.tl o (d.more (by omega)) hpos (by omega)
 refine aM (by rw [decide_eq_true_eq];omega) ?_
 refine ap (fun J=> ∀h5 q X M m,MG X M m->DM m (6+i+1)->0<m.nodes.length->q<=p+30+2*(i+1)->Kn g h5 ((b14, .inl ⟨[.string ⟨#[120]⟩, .string ⟨#[121]⟩, .string ⟨#[122]⟩, .string ⟨#[109,101,109]⟩],4,false⟩)::(b11, .inl ⟨df,5,false⟩)::(b9, .inl ⟨aw M,5,false⟩)::(B,rdC s q)::(A++X))->J h5)
  (fun h5 q X M m o d hpos hq K5=>?_) (fun J hJ=>?_)
 ·rw [aC (by omega)]
  exact hnx hlt _ _ ⟨q,X,M,m,rfl,o,d,hpos,hq,K5⟩
 refine kp_ ?_
 intro w h5 K5 hw _
 refine⟨_,rfl,?_⟩
 replace hw:w<4:=by have:=hw (by omega);omega
 have hp2:0<2^(1+w):=Nat.two_pow_pos _
 rw [show W (1+(w:Int))=((1+w:Nat):Int) by rw [bU (by omega) (by omega)];omega]
 have fin: ∀(y bn:Nat) (h8:Hp),Kn g h8 ((bn, .inl ⟨[I 34,I 0,I 0,I 0,I (Int.tmod y (2^(1+w):Nat)),I 0,I 0,I (1+w:Nat), .string ⟨#[]⟩],9,false⟩)::(b14, .inl ⟨[.string ⟨#[120]⟩, .string ⟨#[121]⟩, .string ⟨#[122]⟩, .string ⟨#[109,101,109]⟩],4,false⟩)::
   (b11, .inl ⟨df,5,false⟩)::(b9, .inl ⟨aw M,5,false⟩)::(B,rdC s (q+1+1))::(A++X))->
   co h8 M.no.a M.no.n M.no.c (some (Addr.mk bn 0 none)) 1 9 80 fun a92 n93 k94 h95=> ∃(cs96:List Value) (z97:Nat),h95 b9=some (.inl ⟨cs96,z97,false⟩)/\0+1<=List.length cs96/\cA (h95.row b9 (cz cs96 0 [(.slice a92 n93 k94)]) z97) fun h148=>J h148:=by
  intro y bn h8 K8
  refine lA (H:=_::_::_::_::A) (nd:=⟨34,0,0,0,Int.tmod y (2^(1+w):Nat),0,⟨0,(1+w:Nat)⟩,⟨#[]⟩⟩) o K8 (by omega) (.tail _ (.tail _ (.head _))) fun s' X9 h9 o9 KF=>?_
  have K9:=KF _ (by((focus ((repeat first|exact .head|apply Upd.tail);done))))
  simp only [List.cons_append]at K9
  exact hJ h9 _ X9 _ _ o9 (d.addN (xh (by omega) (by omega) (by omega) (by omega)) (show (0:Nat)<=100 by omega)) (by simp) (by omega) K9
 (refine kr_ ?_)
 refine⟨?_,?_⟩
 ·refine kp_ ?_
  intro y h6 K6 hy _
  refine⟨_,rfl,?_⟩
  repeat' (refine kr_ ?_)
  refine⟨?_,?_⟩
  ·repeat' (refine kr_ ?_)
   rw [cu (by omega),if_neg (by omega),bG (by omega),if_neg (by omega)]
   refine ce ⟨_,_,rfl,?_⟩
   repeat' (refine kr_ ?_)
   refine Kn.al K6 fun bn h7 K7 l7 hbn=>?_
   repeat' (refine kr_ ?_)
   exact fin y bn h7 K7
  ·refine ce ⟨_,_,rfl,?_⟩
   repeat' (refine kr_ ?_)
   rw [cu (by omega),if_neg (by omega),bG (by omega),if_neg (by omega)]
   refine Kn.al K6 fun bn h7 K7 l7 hbn=>?_
   repeat' (refine kr_ ?_)
   exact fin y bn h7 K7
 ·repeat' (refine kr_ ?_)
  rw [cu (by omega),if_neg (by omega),bG (by omega)]
  refine kp_ ?_
  intro y h6 K6 hy _
  refine⟨_,rfl,?_⟩
  repeat' (refine kr_ ?_)
  rw [if_neg (by omega)]
  refine ce ⟨_,_,rfl,?_⟩
  repeat' (refine kr_ ?_)
  refine Kn.al K6 fun bn h7 K7 l7 hbn=>?_
  repeat' (refine kr_ ?_)
  exact fin y bn h7 K7
theorem tM {c:Prop} [Decidable c] {x t:SortP} (h:(if c then some x else none)=some t):c/\x=t:=by
 by_cases e:c
 ·rw [if_pos e]at h;exact⟨e,Option.some.inj h⟩
 ·rw [if_neg e]at h;cases h
theorem Ms {n:NodeP} {a b c t:SortP} (ha:bR a=true) (hb:2<=ar n.kind->bR b=true) (h:di n a b c=some t):bR t=true:=by
 obtain⟨⟨a1,a2⟩,a3,a4⟩:=lw ha
 unfold di at h
 by_cases e33:n.kind=33
 ·rw [if_pos e33]at h
  obtain⟨_,rfl⟩:=tM h
  exact hb (by rw [e33];decide)
 rw [if_neg e33]at h
 by_cases e37:n.kind=37
 ·rw [if_pos e37]at h
  obtain⟨_,rfl⟩:=tM h
  exact nZ a3 a4
 rw [if_neg e37]at h
 by_cases e38:n.kind=38
 ·rw [if_pos e38]at h
  obtain⟨_,rfl⟩:=tM h
  exact ha
 rw [if_neg e38]at h
 by_cases e21:n.kind=21
 ·rw [if_pos e21]at h
  obtain⟨_,rfl⟩:=tM h
  exact nZ (by omega) (by omega)
 rw [if_neg e21]at h
 by_cases ei:0<a.idx\/(ar n.kind=2/\0<b.idx)
 ·rw [if_pos ei]at h;cases h
 rw [if_neg ei]at h
 by_cases e29:n.kind=29
 ·rw [if_pos e29]at h
  obtain⟨e,rfl⟩:=tM h
  have:=lw (hb (by rw [e29];decide))
  exact nZ (by omega) (by omega)
 rw [if_neg e29]at h
 by_cases e30:n.kind=30
 ·rw [if_pos e30]at h
  obtain⟨e,rfl⟩:=tM h
  exact nZ (by omega) (by omega)
 rw [if_neg e30]at h
 by_cases e31:n.kind=31\/n.kind=32
 ·rw [if_pos e31]at h
  obtain⟨e,rfl⟩:=tM h
  exact nZ (by omega) (by omega)
 rw [if_neg e31]at h
 have hw: ∀q:Prop, [Decidable q]->bR (cF (if q then a.wid else 1))=true:=fun q _=>by
  by_cases e:q
  ·rw [if_pos e];exact nZ a3 a4
  ·rw [if_neg e];exact nZ (by omega) (by omega)
 by_cases e5:n.kind<=5
 ·rw [if_pos e5]at h
  obtain rfl:=Option.some.inj h
  exact hw _
 rw [if_neg e5]at h
 obtain⟨_,rfl⟩:=tM h
 exact hw _
theorem Jg {l:List NodeP} {n:NodeP} {t:SortP} (hk:ar n.kind≠0) (h:cV l n=some t):bR t=true:=by
 unfold cV at h
 by_cases e:l.length<=60/\fz l.length n=true
 ·rw [if_pos e,if_neg hk]at h
  by_cases e2:(bR (aA l n.a)&&((decide (ar n.kind<2)||bR (aA l n.b))&&(decide (ar n.kind<3)||bR (aA l n.c))))=true
  ·rw [if_pos e2]at h
   simp only [Bool.and_eq_true,Bool.or_eq_true,decide_eq_true_eq]at e2
   exact Ms e2.1 (fun h2=>e2.2.1.resolve_left (by omega)) h
  ·rw [if_neg e2]at h;cases h
 ·rw [if_neg e]at h;cases h
set_option maxHeartbeats 2000000 in
theorem O4 {g h:Hp} {A X:List (Nat×Blk)} {B p N:Nat} {s:Sl} {bs:List Nat} {M:MSl} {m:ah} {R:Value->Hp->Prop} (K:Kn g h ((B,rdC s p)::(A++X))) (hb:ByteS g s bs) (o:MG X M m) (d:DM m N) (hN:N<=1000)
  (hne:0<m.nodes.length) (hp:p<=800000)
  (k: ∀h' p' X' M' m',Kn g h' ((B,rdC s p')::(A++X'))->MG X' M' m'->DM m' (N+3)->0<m'.nodes.length->p'<=p+20->R (aQ M') h'):
  pa #[.pointer (some ⟨B,0,none⟩),aQ M] h R:=by
 apply BZ
 refine uf_ ?_
 have hl:=o.lens
 have hsm:=d.small (by omega)
 have hdn:=d.nodes
 refine Kn.al K fun b8 h1 K1 l1 hb8=>?_
 refine Kn.al K1 fun b10 h2 K2 l2 hb10=>?_
 clear K K1 l1 l2 hb8 hb10
 refine kp_ ?_
 intro x15 h3 K3 hx15 _
 refine⟨_,rfl,?_⟩
 replace hx15:x15<33:=by have:=hx15 (by omega);omega
 refine Kn.al K3 fun b16 h4 K4 l4 hb16=>?_
 refine kw_ ?_
 intro h5 K5 kpz
 clear kpz
 rw [show W (1+(x15:Int))=((1+x15:Nat):Int) by rw [bU (by omega) (by omega)];omega]at K5
 have K5':Kn g h5 ((b16, .inl ⟨nodeCells ⟨(1+x15:Nat),0,0,0,0,0,⟨0,0⟩,⟨#[]⟩⟩,9,false⟩)::(b10, .inl ⟨df,5,false⟩)::(b8, .inl ⟨aw M,5,false⟩)::(B,rdC s (p+1))::(A++X)):=K5
 clear K5 K4 K3 K2 l4 hb16 h4 h3 h2 h1 h
 refine kp_ ?_
 intro x24 h6 K6 _ _
 refine⟨_,rfl,?_⟩
 clear K5' h5
 have hk0:ar ((1+x15:Nat):Int)≠0:=by
  unfold ar
  have h1: ¬(34<=((1+x15:Nat):Int)/\((1+x15:Nat):Int)<=36):=by omega
  rw [if_neg h1]
  split
  ·decide
  ·split
   ·decide
   ·split<;>decide
 refine ap (fun J=> ∀(kd:Int) h5 q,ar kd≠0->q<=p+3->Kn g h5 ((b16, .inl ⟨nodeCells ⟨kd,0,0,0,0,0,⟨0,0⟩,⟨#[]⟩⟩,9,false⟩)::(b10, .inl ⟨df,5,false⟩)::(b8, .inl ⟨aw M,5,false⟩)::(B,rdC s q)::(A++X))->J h5) (fun kd h5 q hkd hq K5=>?_) (fun J hJ=>?_)
 rotate_left
 ·refine ac (fun e=>?_) (fun e=>hJ _ h6 _ hk0 (by omega) K6)
  refine Kn.al K6 fun b27 h7 K7 l7 hb27=>?_
  refine kp_ ?_
  intro x31 h8 K8 hx31 _
  refine⟨_,rfl,?_⟩
  replace hx31:x31<2:=by have:=hx31 (by omega);omega
  clear K7 K6
  refine⟨b27,0,rfl,by omega,by omega,?_⟩
  obtain⟨kd,hkd,hk1⟩: ∃kd:Int,([I 37,I 38]:List Value)[x31]?=some (I kd)/\ar kd≠0:=by
   rcases x31 with _|_|i
   ·exact⟨37,rfl,by decide⟩
   ·exact⟨38,rfl,by decide⟩
   ·omega
  refine⟨kd,by rw [aq (K8.at (.head _)),Int.toNat_natCast,Nat.zero_add,Nat.mul_one];exact hkd,?_⟩
  refine kw_ ?_
  intro h9 K9 kpz
  clear kpz
  exact hJ kd h9 _ hk1 (by omega) K9.tl
 clear K6 hk0 hx15 h6
 (refine kr_ ?_)
 refine kp_ ?_
 intro a h6 K6 ha _
 refine⟨_,rfl,?_⟩
 replace ha:a<m.nodes.length:=by have:=ha (by omega);omega
 clear K5
 refine kw_ ?_
 intro h7 K7 kpz
 clear kpz
 have K7':Kn g h7 ((b16, .inl ⟨nodeCells ⟨kd,a,0,0,0,0,⟨0,0⟩,⟨#[]⟩⟩,9,false⟩)::(b10, .inl ⟨df,5,false⟩)::(b8, .inl ⟨aw M,5,false⟩)::(B,rdC s (q+1))::(A++X)):=K7
 clear K7 K6 h5 h6
 repeat' (refine kr_ ?_)
 obtain⟨na,hna⟩: ∃n,m.nodes[a]?=some n:=⟨_,List.getElem?_eq_getElem ha⟩
 have hs:=o.modelS (A:=_::_::_::_::A) hsm K7'
 obtain⟨b,oo,ha',e0,e1,e2,e3,e4,e5,e6,e7,e8⟩:=hs.nodes.at hna
 refine⟨b,oo,ha',(by first|omega|(dsimp only;omega)),(by first|omega|(dsimp only;omega)),_,by rw [Int.toNat_natCast];exact e6,_,by rw [Int.toNat_natCast];exact e7,?_⟩
 clear e0 e1 e2 e3 e4 e5 e6 e7 e8 ha' hs
 refine Kn.al K7' fun b54 h8 K8 l8 hb54=>?_
 refine kw_ ?_
 intro h9 K9 kpz
 clear kpz
 have K9':Kn g h9 ((b54, .inl ⟨[I na.sort.idx,I na.sort.wid],2,false⟩)::(b16, .inl ⟨nodeCells ⟨kd,a,0,0,0,0,⟨0,0⟩,⟨#[]⟩⟩,9,false⟩)::(b10, .inl ⟨df,5,false⟩)::(b8, .inl ⟨aw M,5,false⟩)::(B,rdC s (q+1))::(A++X)):=K9
 clear K9 K8 K7' l8 hb54 h8 h7
 have hst:=rX d hna
 obtain⟨⟨w1,w2⟩,w3,w4⟩:=lw hst
 refine ap (fun J=> ∀h5 q' X' M' m' (nd:NodeP) (z:Blk),nd.kind=kd->nd.name.size=0->MG X' M' m'->DM m' (N+2)->0<m'.nodes.length->q'<=q+10->Kn g h5 ((b54,z)::(b16, .inl ⟨nodeCells nd,9,false⟩)::(b10, .inl ⟨df,5,false⟩)::(b8, .inl ⟨aw M',5,false⟩)::(B,rdC s q')::(A++X'))->J b8 0 b10 0 b16 0 h5)
  (fun h5 q' X' M' m' nd z hkd2 hnm o' d' hpos hq' K5=>?_) (fun J hJ=>?_)
 ·clear K9'
  have hl':=o'.lens
  have hdn':=d'.nodes
  have hsm':=d'.small (by omega)
  have hs:=o'.modelS (A:=_::_::_::_::_::A) hsm' K5
  repeat' (refine kr_ ?_)
  refine mW (n:=nd) hs.nodes (by omega) ?_
  cases hns:cV m'.nodes nd with
  |none=>
   refine⟨_,_,_,rfl,?_⟩
   refine Kn.al K5 fun b327 h6 K6 l6 hb327=>?_
   clear K5
   refine kw_ ?_
   intro h7 K7 kpz
   clear kpz
   clear K6
   rw [ew]
   refine aM rfl (aM rfl ?_)
   repeat' (refine kr_ ?_)
   refine CW K7 (by((focus ((repeat first|exact .head|apply Upd.tail);done)))) fun h8 K8=>?_
   exact k h8 q' X' M' m' K8.tl.tl.tl.tl.tl o' (d'.more (by omega)) hpos (by omega)
  |some t=>
   refine⟨_,_,_,rfl,?_⟩
   have htok:=Jg (by rw [hkd2];exact hkd) hns
   refine Kn.al K5 fun b327 h6 K6 l6 hb327=>?_
   clear K5
   refine kw_ ?_
   intro h7 K7 kpz
   clear kpz
   have K7':Kn g h7 ((b327, .inl ⟨[I t.idx,I t.wid],2,false⟩)::(b54,z)::(b16, .inl ⟨nodeCells nd,9,false⟩)::(b10, .inl ⟨df,5,false⟩)::(b8, .inl ⟨aw M',5,false⟩)::(B,rdC s q')::(A++X')):=K7
   clear K6 K7
   refine ap (fun J=> ∀c,J c) (fun c=>?_) (fun J hJ=>?_)
   rotate_left
   ·refine aE rfl ?_
    (refine kr_ ?_)
    refine ac (fun _=>hJ _) (fun _=>?_)
    (refine kr_ ?_)
    exact hJ _
   cases c with
   |true=>
    refine aM rfl ?_
    repeat' (refine kr_ ?_)
    refine CW K7' (by((focus ((repeat first|exact .head|apply Upd.tail);done)))) fun h8 K8=>?_
    exact k h8 q' X' M' m' K8.tl.tl.tl.tl.tl o' (d'.more (by omega)) hpos (by omega)
   |false=>
    refine aE rfl ?_
    repeat' (refine kr_ ?_)
    refine kw_ ?_
    intro h8 K8 kpz
    clear kpz
    have K8':Kn g h8 ((b327, .inl ⟨[I t.idx,I t.wid],2,false⟩)::(b54,z)::(b16, .inl ⟨nodeCells {nd with sort:=t},9,false⟩)::(b10, .inl ⟨df,5,false⟩)::(b8, .inl ⟨aw M',5,false⟩)::(B,rdC s q')::(A++X')):=K8
    clear K8 K7'
    repeat' (refine kr_ ?_)
    refine Kn.al K8' fun b368 h9 K9 l9 hb368=>?_
    refine lA (H:=_::_::_::_::_::_::A) (nd:={nd with sort:=t}) o' K9 (by omega) (.tail _ (.tail _ (.tail _ (.tail _ (.head _))))) fun s' X9 h10 o9 KF=>?_
    have K10:=KF _ (by((focus ((repeat first|exact .head|apply Upd.tail);done))))
    simp only [List.cons_append]at K10
    clear KF K9 K8'
    repeat' (refine kr_ ?_)
    refine CW (M:={M' with no:=s'}) K10 (by((focus ((repeat first|exact .head|apply Upd.tail);done)))) fun h11 K11=>?_
    exact k h11 q' X9 _ _ K11.tl.tl.tl.tl.tl o9 ((d'.addN htok (by show nd.name.size<=100;omega)).more (by omega)) (by simp) (by omega)
 (refine kr_ ?_)
 refine ac (fun e=>?_) (fun e=>?_)
 ·repeat' (refine kr_ ?_)
  refine ce ⟨_,_,rfl,?_⟩
  repeat' (refine kr_ ?_)
  refine uX (p:=q+1) (A:=(b54, .inl ⟨[I na.sort.idx,I na.sort.wid],2,false⟩)::(b16, .inl ⟨nodeCells ⟨kd,a,0,0,0,0,⟨0,0⟩,⟨#[]⟩⟩,9,false⟩)::(b10, .inl ⟨df,5,false⟩)::(b8, .inl ⟨aw M,5,false⟩)::A) (st:=⟨0,1⟩)
   (K9'.perm (z8 _ _ _ _ _ _)) hb o d (by omega) hne (by omega) rfl fun h5 q5 X5 M5 m5 i5 K5 o5 d5 hi5 hl5 hq5=>⟨_,_,_,_,_,_,rfl,?_⟩
  replace K5:=K5.perm (z8 _ _ _ _ _ _).symm
  clear K9'
  refine jU (M':=M5) K5 (by((focus ((repeat first|exact .head|apply Upd.tail);done)))) rfl fun h6 K6=>?_
  clear K5
  refine kw_ ?_
  intro h7 K7 kpz
  clear kpz
  have K7':Kn g h7 ((b54, .inl ⟨[I na.sort.idx,I na.sort.wid],2,false⟩)::(b16, .inl ⟨nodeCells ⟨kd,i5,0,0,0,0,⟨0,0⟩,⟨#[]⟩⟩,9,false⟩)::(b10, .inl ⟨df,5,false⟩)::(b8, .inl ⟨aw M5,5,false⟩)::(B,rdC s q5)::(A++X5)):=K7
  clear K6 K7
  have hl5':=o5.lens
  have hdn5:=d5.nodes
  (refine kr_ ?_)
  refine kp_ ?_
  intro x90 h8 K8 hx90 _
  refine⟨_,rfl,?_⟩
  replace hx90:x90<m5.nodes.length:=by have:=hx90 (by omega);omega
  clear K7'
  refine kw_ ?_
  intro h9 K9 kpz
  clear kpz
  have K9':Kn g h9 ((b54, .inl ⟨[I na.sort.idx,I na.sort.wid],2,false⟩)::(b16, .inl ⟨nodeCells ⟨kd,i5,x90,0,0,0,⟨0,0⟩,⟨#[]⟩⟩,9,false⟩)::(b10, .inl ⟨df,5,false⟩)::(b8, .inl ⟨aw M5,5,false⟩)::(B,rdC s (q5+1))::(A++X5)):=K9
  clear K8 K9
  repeat' (refine kr_ ?_)
  obtain⟨nb,hnb⟩: ∃n,m5.nodes[x90]?=some n:=⟨_,List.getElem?_eq_getElem hx90⟩
  have hs:=o5.modelS (A:=_::_::_::_::_::A) (d5.small (by omega)) K9'
  obtain⟨b,oo,ha',e0,e1,e2,e3,e4,e5,e6,e7,e8⟩:=hs.nodes.at hnb
  refine⟨b,oo,ha',(by first|omega|(dsimp only;omega)),(by first|omega|(dsimp only;omega)),_,by rw [Int.toNat_natCast];exact e6,_,by rw [Int.toNat_natCast];exact e7,?_⟩
  refine uX (p:=q5+1) (A:=(b54, .inl ⟨[I na.sort.idx,I na.sort.wid],2,false⟩)::(b16, .inl ⟨nodeCells ⟨kd,i5,x90,0,0,0,⟨0,0⟩,⟨#[]⟩⟩,9,false⟩)::(b10, .inl ⟨df,5,false⟩)::(b8, .inl ⟨aw M5,5,false⟩)::A) (st:=nb.sort)
   (K9'.perm (z8 _ _ _ _ _ _)) hb o5 d5 (by omega) (by omega) (by omega) (rX d5 hnb) fun h5 q6 X6 M6 m6 i6 K5 o6 d6 hi6 hl6 hq6=>⟨_,_,_,_,_,_,rfl,?_⟩
  replace K5:=K5.perm (z8 _ _ _ _ _ _).symm
  clear K9' hs e0 e1 e2 e3 e4 e5 e6 e7 e8
  refine jU (M':=M6) K5 (by((focus ((repeat first|exact .head|apply Upd.tail);done)))) rfl fun h10 K10=>?_
  clear K5
  refine kw_ ?_
  intro h11 K11 kpz
  clear kpz
  exact hJ h11 q6 X6 M6 m6 ⟨kd,i5,x90,i6,0,0,⟨0,0⟩,⟨#[]⟩⟩ _ rfl rfl o6 d6 (by omega) (by omega) K11
 have hnl:=hdn
 refine ap (fun J=> ∀c,J c) (fun c=>?_) (fun J hJ=>?_)
 rotate_left
 ·(refine kr_ ?_)
  refine ac (fun _=>hJ _) (fun _=>?_)
  (refine kr_ ?_)
  exact hJ _
 refine ac (fun _=>?_) (fun _=>?_)
 ·--arrays
  refine av m.nodes.length (fun i vs h'=> ∃a:Nat,vs= [.pointer (some ⟨B,0,none⟩), .pointer (some ⟨b8,0,none⟩), .pointer (some ⟨b10,0,none⟩), .pointer (some ⟨b16,0,none⟩), .pointer (some ⟨b54,0,none⟩),I i]/\a<m.nodes.length/\
   Kn g h' ((b54, .inl ⟨[I na.sort.idx,I na.sort.wid],2,false⟩)::(b16, .inl ⟨nodeCells ⟨kd,a,0,0,0,0,⟨0,0⟩,⟨#[]⟩⟩,9,false⟩)::(b10, .inl ⟨df,5,false⟩)::(b8, .inl ⟨aw M,5,false⟩)::(B,rdC s (q+1))::(A++X))) ⟨a,rfl,ha,K9'⟩ ?_
  rintro i _ h4 nxt hi ⟨a',rfl,ha',K4⟩ hnx
  refine⟨_,b8,0,b10,0,b16,0,b54,0,_,rfl,?_⟩
  have hs:=o.modelS (A:=_::_::_::_::_::A) hsm K4
  clear K9'
  (refine kr_ ?_)
  by_cases hlt:i<m.nodes.length
  ·refine aM (by rw [decide_eq_true_eq];omega) ?_
   refine ap (fun J=> ∀h5 (c:Nat),c<m.nodes.length->Kn g h5 ((b54, .inl ⟨[I na.sort.idx,I na.sort.wid],2,false⟩)::(b16, .inl ⟨nodeCells ⟨kd,c,0,0,0,0,⟨0,0⟩,⟨#[]⟩⟩,9,false⟩)::(b10, .inl ⟨df,5,false⟩)::(b8, .inl ⟨aw M,5,false⟩)::(B,rdC s (q+1))::(A++X))->J h5) (fun h5 c hc K5=>?_) (fun J hJ=>?_)
   ·rw [aC (by omega)]
    exact hnx hlt _ _ ⟨c,rfl,hc,K5⟩
   ·(refine kr_ ?_)
    obtain⟨ni,hni⟩: ∃n,m.nodes[i]?=some n:=⟨_,List.getElem?_eq_getElem hlt⟩
    obtain⟨b,oo,ha2,e0,e1,e2,e3,e4,e5,e6,e7,e8⟩:=hs.nodes.at hni
    refine⟨b,oo,ha2,(by first|omega|(dsimp only;omega)),(by first|omega|(dsimp only;omega)),_,by rw [Int.toNat_natCast];exact e6,?_⟩
    clear e0 e1 e2 e3 e4 e5 e6 e7 e8
    refine ac (fun e=>?_) (fun e=>hJ h4 a' ha' K4)
    refine kw_ ?_
    intro h5 K5 kpz
    clear kpz
    exact hJ h5 i hlt K5
  refine aE (by rw [decide_eq_false_iff_not];omega) ?_
  clear hnx
  repeat' (refine kr_ ?_)
  obtain⟨nb,hnb⟩: ∃n,m.nodes[a']?=some n:=⟨_,List.getElem?_eq_getElem ha'⟩
  obtain⟨b,oo,ha2,e0,e1,e2,e3,e4,e5,e6,e7,e8⟩:=hs.nodes.at hnb
  refine⟨b,oo,ha2,(by first|omega|(dsimp only;omega)),(by first|omega|(dsimp only;omega)),_,by rw [Int.toNat_natCast];exact e6,_,by rw [Int.toNat_natCast];exact e7,?_⟩
  clear e0 e1 e2 e3 e4 e5 e6 e7 e8 hs
  obtain⟨⟨v1,v2⟩,v3,v4⟩:=lw (rX d hnb)
  refine kw_ ?_
  intro h5 K5 kpz
  clear kpz
  have K5':Kn g h5 ((b54, .inl ⟨[I nb.sort.idx,I nb.sort.wid],2,false⟩)::(b16, .inl ⟨nodeCells ⟨kd,a',0,0,0,0,⟨0,0⟩,⟨#[]⟩⟩,9,false⟩)::(b10, .inl ⟨df,5,false⟩)::(b8, .inl ⟨aw M,5,false⟩)::(B,rdC s (q+1))::(A++X)):=K5
  clear K5 K4
  (refine kr_ ?_)
  refine ac (fun e=>?_) (fun e=>?_)
  ·repeat' (refine kr_ ?_)
   refine CW K5' (by((focus ((repeat first|exact .head|apply Upd.tail);done)))) fun h8 K8=>?_
   exact k h8 (q+1) X M m K8.tl.tl.tl.tl o (d.more (by omega)) hne (by omega)
  have hi1:nb.sort.idx≠0:=fun q=>by rw [q]at e;simp at e
  repeat' (refine kr_ ?_)
  refine ce ⟨_,_,rfl,?_⟩
  repeat' (refine kr_ ?_)
  refine uX (p:=q+1) (A:=(b54, .inl ⟨[I nb.sort.idx,I nb.sort.wid],2,false⟩)::(b16, .inl ⟨nodeCells ⟨kd,a',0,0,0,0,⟨0,0⟩,⟨#[]⟩⟩,9,false⟩)::(b10, .inl ⟨df,5,false⟩)::(b8, .inl ⟨aw M,5,false⟩)::A) (st:=⟨0,nb.sort.idx⟩)
   (K5'.perm (z8 _ _ _ _ _ _)) hb o d (by omega) hne (by omega) (xh (by omega) (by omega) (by omega) (by omega)) fun h6 q6 X6 M6 m6 i6 K6 o6 d6 hi6 hl6 hq6=>⟨_,_,_,_,_,_,rfl,?_⟩
  replace K6:=K6.perm (z8 _ _ _ _ _ _).symm
  clear K5'
  refine jU (M':=M6) K6 (by((focus ((repeat first|exact .head|apply Upd.tail);done)))) rfl fun h7 K7=>?_
  clear K6
  refine kw_ ?_
  intro h8 K8 kpz
  clear kpz
  have K8':Kn g h8 ((b54, .inl ⟨[I nb.sort.idx,I nb.sort.wid],2,false⟩)::(b16, .inl ⟨nodeCells ⟨kd,a',i6,0,0,0,⟨0,0⟩,⟨#[]⟩⟩,9,false⟩)::(b10, .inl ⟨df,5,false⟩)::(b8, .inl ⟨aw M6,5,false⟩)::(B,rdC s q6)::(A++X6)):=K8
  clear K8 K7
  (refine kr_ ?_)
  refine ac (fun e=>?_) (fun e=>?_)
  ·repeat' (refine kr_ ?_)
   refine ce ⟨_,_,rfl,?_⟩
   repeat' (refine kr_ ?_)
   refine uX (p:=q6) (A:=(b54, .inl ⟨[I nb.sort.idx,I nb.sort.wid],2,false⟩)::(b16, .inl ⟨nodeCells ⟨kd,a',i6,0,0,0,⟨0,0⟩,⟨#[]⟩⟩,9,false⟩)::(b10, .inl ⟨df,5,false⟩)::(b8, .inl ⟨aw M6,5,false⟩)::A) (st:=⟨0,nb.sort.wid⟩)
    (K8'.perm (z8 _ _ _ _ _ _)) hb o6 d6 (by omega) (by omega) (by omega) (xh (by omega) (by omega) (by omega) (by omega)) fun h9 q9 X9 M9 m9 i9 K9 o9 d9 hi9 hl9 hq9=>⟨_,_,_,_,_,_,rfl,?_⟩
   replace K9:=K9.perm (z8 _ _ _ _ _ _).symm
   clear K8'
   refine jU (M':=M9) K9 (by((focus ((repeat first|exact .head|apply Upd.tail);done)))) rfl fun h10 K10=>?_
   clear K9
   refine kw_ ?_
   intro h11 K11 kpz
   clear kpz
   exact hJ h11 q9 X9 M9 m9 ⟨kd,a',i6,i9,0,0,⟨0,0⟩,⟨#[]⟩⟩ _ rfl rfl o9 d9 (by omega) (by omega) K11
  ·exact hJ h8 q6 X6 M6 m6 ⟨kd,a',i6,0,0,0,⟨0,0⟩,⟨#[]⟩⟩ _ rfl rfl o6 (d6.more (by omega)) (by omega) (by omega) K8'
 (refine kr_ ?_)
 refine ac (fun _=>?_) (fun _=>?_)
 ·(refine kr_ ?_)
  refine kp_ ?_
  intro y h10 K10 _ _
  refine⟨_,rfl,?_⟩
  clear K9'
  refine kw_ ?_
  intro h11 K11 kpz
  clear kpz
  exact hJ h11 _ X M m ⟨kd,a,y,0,0,0,⟨0,0⟩,⟨#[]⟩⟩ _ rfl rfl o (d.more (by omega)) hne (by omega) K11
 (refine kr_ ?_)
 refine ac (fun _=>?_) (fun _=>?_)
 ·(refine kr_ ?_)
  refine kp_ ?_
  intro y h10 K10 hy _
  refine⟨_,rfl,?_⟩
  replace hy:(y:Int)<na.sort.wid:=hy (by omega)
  clear K9'
  refine kw_ ?_
  intro h11 K11 kpz
  clear kpz
  have K11':Kn g h11 ((b54, .inl ⟨[I na.sort.idx,I na.sort.wid],2,false⟩)::(b16, .inl ⟨nodeCells ⟨kd,a,0,0,0,y,⟨0,0⟩,⟨#[]⟩⟩,9,false⟩)::(b10, .inl ⟨df,5,false⟩)::(b8, .inl ⟨aw M,5,false⟩)::(B,rdC s (q+1+1))::(A++X)):=K11
  clear K11 K10
  repeat' (refine kr_ ?_)
  (((with_reducible apply RA);(assumption);(assumption);((focus ((repeat first|exact .head|apply Upd.tail);done)))))
  ·omega
  ·(show W (na.sort.wid-(y:Int))<=1000000000);rw [bU (by omega) (by omega)];omega
  intro w h12 K12 _ _
  refine⟨_,rfl,?_⟩
  repeat' (refine kr_ ?_)
  clear K11'
  refine kw_ ?_
  intro h13 K13 kpz
  clear kpz
  exact hJ h13 _ X M m ⟨kd,a,0,0,W ((y:Int)+(w:Int)),y,⟨0,0⟩,⟨#[]⟩⟩ _ rfl rfl o (d.more (by omega)) hne (by omega) K13
 refine ap (fun J=> ∀c,J c) (fun c=>?_) (fun J hJ=>?_)
 rotate_left
 ·(refine kr_ ?_)
  refine ac (fun _=>hJ _) (fun _=>?_)
  (refine kr_ ?_)
  exact hJ _
 refine ac (fun _=>?_) (fun _=>?_)
 ·refine kp_ ?_
  intro y h10 K10 _ _
  refine⟨_,rfl,?_⟩
  clear K9'
  refine kw_ ?_
  intro h11 K11 kpz
  clear kpz
  exact hJ h11 _ X M m ⟨kd,a,0,0,y,0,⟨0,0⟩,⟨#[]⟩⟩ _ rfl rfl o (d.more (by omega)) hne (by omega) K11
 (refine kr_ ?_)
 refine lz ⟨_,rfl,?_⟩
 refine ac (fun _=>?_) (fun _=>?_)
 ·repeat' (refine kr_ ?_)
  refine uX (p:=q+1) (A:=(b54, .inl ⟨[I na.sort.idx,I na.sort.wid],2,false⟩)::(b16, .inl ⟨nodeCells ⟨kd,a,0,0,0,0,⟨0,0⟩,⟨#[]⟩⟩,9,false⟩)::(b10, .inl ⟨df,5,false⟩)::(b8, .inl ⟨aw M,5,false⟩)::A) (st:=na.sort)
   (K9'.perm (z8 _ _ _ _ _ _)) hb o d (by omega) hne (by omega) hst fun h6 q6 X6 M6 m6 i6 K6 o6 d6 hi6 hl6 hq6=>⟨_,_,_,_,_,_,rfl,?_⟩
  replace K6:=K6.perm (z8 _ _ _ _ _ _).symm
  clear K9'
  refine jU (M':=M6) K6 (by((focus ((repeat first|exact .head|apply Upd.tail);done)))) rfl fun h7 K7=>?_
  clear K6
  refine kw_ ?_
  intro h8 K8 kpz
  clear kpz
  exact hJ h8 q6 X6 M6 m6 ⟨kd,a,i6,0,0,0,⟨0,0⟩,⟨#[]⟩⟩ _ rfl rfl o6 (d6.more (by omega)) (by omega) (by omega) K8
 ·exact hJ h9 _ X M m ⟨kd,a,0,0,0,0,⟨0,0⟩,⟨#[]⟩⟩ _ rfl rfl o (d.more (by omega)) hne (by omega) K9'
theorem DM.addI {m:ah} {N:Nat} (d:DM m N) (x:BindP):DM {m with inits:=m.inits++ [x]} (N+1):=
 ⟨Nat.le_succ_of_le d.nodes,d.sorts,d.names,by have:=d.inits;simp;omega,Nat.le_succ_of_le d.nexts,Nat.le_succ_of_le d.bads,Nat.le_succ_of_le d.holds⟩
theorem DM.addE {m:ah} {N:Nat} (d:DM m N) (x:BindP):DM {m with nexts:=m.nexts++ [x]} (N+1):=
 ⟨Nat.le_succ_of_le d.nodes,d.sorts,d.names,Nat.le_succ_of_le d.inits,by have:=d.nexts;simp;omega,Nat.le_succ_of_le d.bads,Nat.le_succ_of_le d.holds⟩
theorem DM.addB {m:ah} {N:Nat} (d:DM m N) (x:Int):DM {m with bads:=m.bads++ [x]} (N+1):=
 ⟨Nat.le_succ_of_le d.nodes,d.sorts,d.names,Nat.le_succ_of_le d.inits,Nat.le_succ_of_le d.nexts,by have:=d.bads;simp;omega,Nat.le_succ_of_le d.holds⟩
theorem DM.addH {m:ah} {N:Nat} (d:DM m N) (x:Int):DM {m with holds:=m.holds++ [x]} (N+1):=
 ⟨Nat.le_succ_of_le d.nodes,d.sorts,d.names,Nat.le_succ_of_le d.inits,Nat.le_succ_of_le d.nexts,Nat.le_succ_of_le d.bads,by have:=d.holds;simp;omega⟩
theorem Q0 {g h:Hp} {H X:List (Nat×Blk)} {b bn:Nat} {M:MSl} {m:ah} {nd:BindP} {J:Hp->Prop} (o:MG X M m) (K:Kn g h ((bn, .inl ⟨bindCells nd,2,false⟩)::(H++X))) (hm:m.inits.length<=10000) (hb:(b, .inl ⟨aw M,5,false⟩)∈H)
  (k: ∀s' X' h',MG X' {M with ini:=s'} {m with inits:=m.inits++ [nd]}->(∀H',Upd H b (.inl ⟨aw M,5,false⟩) (.inl ⟨aw {M with ini:=s'},5,false⟩) H'->Kn g h' (H'++X'))->J h'):
  co h M.ini.a M.ini.n M.ini.c (some ⟨bn,0,none⟩) 1 2 16 fun a n c h95=> ∃(cs:List Value) (z:Nat),h95 b=some (.inl ⟨cs,z,false⟩)/\(0+1)+1<=List.length cs/\cA (h95.row b (cz cs (0+1) [.slice a n c]) z) fun h'=>J h':=by
 refine MG.appI (A:=_::H) (n:=nd) o K (by omega) (K.at (.head _)) fun s' X' h7 o' K7=>?_
 rw [List.cons_append]at K7
 have f:=K7.at (.tail _ (List.mem_append_left _ hb))
 exact⟨_,_,f,by simp,k s' X' _ o' fun H' u=>(K7.tl).set (u.app (X:=X'))⟩
theorem RF {g h:Hp} {H X:List (Nat×Blk)} {b bn:Nat} {M:MSl} {m:ah} {nd:BindP} {J:Hp->Prop} (o:MG X M m) (K:Kn g h ((bn, .inl ⟨bindCells nd,2,false⟩)::(H++X))) (hm:m.nexts.length<=10000) (hb:(b, .inl ⟨aw M,5,false⟩)∈H)
  (k: ∀s' X' h',MG X' {M with nex:=s'} {m with nexts:=m.nexts++ [nd]}->(∀H',Upd H b (.inl ⟨aw M,5,false⟩) (.inl ⟨aw {M with nex:=s'},5,false⟩) H'->Kn g h' (H'++X'))->J h'):
  co h M.nex.a M.nex.n M.nex.c (some ⟨bn,0,none⟩) 1 2 16 fun a n c h95=> ∃(cs:List Value) (z:Nat),h95 b=some (.inl ⟨cs,z,false⟩)/\(0+2)+1<=List.length cs/\cA (h95.row b (cz cs (0+2) [.slice a n c]) z) fun h'=>J h':=by
 refine MG.appE (A:=_::H) (n:=nd) o K (by omega) (K.at (.head _)) fun s' X' h7 o' K7=>?_
 rw [List.cons_append]at K7
 have f:=K7.at (.tail _ (List.mem_append_left _ hb))
 exact⟨_,_,f,by simp,k s' X' _ o' fun H' u=>(K7.tl).set (u.app (X:=X'))⟩
theorem UO {g h:Hp} {H X:List (Nat×Blk)} {b bn:Nat} {M:MSl} {m:ah} {nd:Int} {J:Hp->Prop} (o:MG X M m) (K:Kn g h ((bn, .inl ⟨[I nd],1,false⟩)::(H++X))) (hm:m.bads.length<=10000) (hb:(b, .inl ⟨aw M,5,false⟩)∈H)
  (k: ∀s' X' h',MG X' {M with bad:=s'} {m with bads:=m.bads++ [nd]}->(∀H',Upd H b (.inl ⟨aw M,5,false⟩) (.inl ⟨aw {M with bad:=s'},5,false⟩) H'->Kn g h' (H'++X'))->J h'):
  co h M.bad.a M.bad.n M.bad.c (some ⟨bn,0,none⟩) 1 1 8 fun a n c h95=> ∃(cs:List Value) (z:Nat),h95 b=some (.inl ⟨cs,z,false⟩)/\(0+3)+1<=List.length cs/\cA (h95.row b (cz cs (0+3) [.slice a n c]) z) fun h'=>J h':=by
 refine MG.appB (A:=_::H) (n:=nd) o K (by omega) (K.at (.head _)) fun s' X' h7 o' K7=>?_
 rw [List.cons_append]at K7
 have f:=K7.at (.tail _ (List.mem_append_left _ hb))
 exact⟨_,_,f,by simp,k s' X' _ o' fun H' u=>(K7.tl).set (u.app (X:=X'))⟩
theorem RI {g h:Hp} {H X:List (Nat×Blk)} {b bn:Nat} {M:MSl} {m:ah} {nd:Int} {J:Hp->Prop} (o:MG X M m) (K:Kn g h ((bn, .inl ⟨[I nd],1,false⟩)::(H++X))) (hm:m.holds.length<=10000) (hb:(b, .inl ⟨aw M,5,false⟩)∈H)
  (k: ∀s' X' h',MG X' {M with hol:=s'} {m with holds:=m.holds++ [nd]}->(∀H',Upd H b (.inl ⟨aw M,5,false⟩) (.inl ⟨aw {M with hol:=s'},5,false⟩) H'->Kn g h' (H'++X'))->J h'):
  co h M.hol.a M.hol.n M.hol.c (some ⟨bn,0,none⟩) 1 1 8 fun a n c h95=> ∃(cs:List Value) (z:Nat),h95 b=some (.inl ⟨cs,z,false⟩)/\(0+4)+1<=List.length cs/\cA (h95.row b (cz cs (0+4) [.slice a n c]) z) fun h'=>J h':=by
 refine MG.appH (A:=_::H) (n:=nd) o K (by omega) (K.at (.head _)) fun s' X' h7 o' K7=>?_
 rw [List.cons_append]at K7
 have f:=K7.at (.tail _ (List.mem_append_left _ hb))
 exact⟨_,_,f,by simp,k s' X' _ o' fun H' u=>(K7.tl).set (u.app (X:=X'))⟩
set_option maxHeartbeats 2000000 in
theorem O0 {g h:Hp} {A X:List (Nat×Blk)} {B p N:Nat} {s:Sl} {bs:List Nat} {M:MSl} {m:ah} {R:Value->Hp->Prop} (K:Kn g h ((B,rdC s p)::(A++X))) (hb:ByteS g s bs) (o:MG X M m) (d:DM m N) (hN:N<=100)
  (hne:0<m.nodes.length) (hp:p<=100000)
  (k: ∀h' p' X' M' m',Kn g h' ((B,rdC s p')::(A++X'))->MG X' M' m'->DM m' (6*N)->0<m'.nodes.length->p'<=p+N*1000->R (aQ M') h'):
  nU #[.pointer (some ⟨B,0,none⟩),aQ M] h R:=by
 apply Cu
 refine uf_ ?_
 have hl:=o.lens
 have hsm:=d.small (by omega)
 have hdn:=d.nodes
 refine Kn.al K fun b8 h1 K1 l1 hb8=>?_
 refine Kn.al K1 fun b10 h2 K2 l2 hb10=>?_
 clear K K1 l1 l2 hb8 hb10
 (refine kr_ ?_)
 refine av m.nodes.length (fun i vs h'=> ∃q X' M' m',vs= [.pointer (some ⟨B,0,none⟩), .pointer (some ⟨b8,0,none⟩), .pointer (some ⟨b10,0,none⟩),I (M.no.n:Nat),I i]/\MG X' M' m'/\DM m' (N+5*i)/\m.nodes.length<=m'.nodes.length/\q<=p+i*1000/\
  Kn g h' ((b10, .inl ⟨df,5,false⟩)::(b8, .inl ⟨aw M',5,false⟩)::(B,rdC s q)::(A++X'))) ⟨p,X,M,m,rfl,o,d,Nat.le_refl _,by omega,K2⟩ ?_
 clear K2 h1 h2 h
 rintro i _ h4 nxt hi ⟨q,X',M',m',rfl,o',d',hle,hq,K4⟩ hnx
 refine⟨_,b8,0,b10,0,_,_,rfl,?_⟩
 have hl':=o'.lens
 have hdn':=d'.nodes
 have hsm':=d'.small (by omega)
 by_cases hlt:i<m.nodes.length
 rotate_left
 ·refine aE (by rw [decide_eq_false_iff_not];omega) ?_
  repeat' (refine kr_ ?_)
  refine CW K4 (by((focus ((repeat first|exact .head|apply Upd.tail);done)))) fun h6 K6=>?_
  exact k h6 q X' M' m' K6.tl.tl o' (d'.more (by omega)) (by omega) (by omega)
 refine aM (by rw [decide_eq_true_eq];omega) ?_
 refine ap (fun J=> ∀h5 q X M1 m1,MG X M1 m1->DM m1 (N+5*(i+1))->m.nodes.length<=m1.nodes.length->q<=p+(i+1)*1000->Kn g h5 ((b10, .inl ⟨df,5,false⟩)::(b8, .inl ⟨aw M1,5,false⟩)::(B,rdC s q)::(A++X))->J (some ⟨B,0,none⟩) b8 0 b10 0 (M.no.n:Nat) i h5)
  (fun h5 q X M1 m1 o1 d1 hl1 hq1 K5=>?_) (fun J hJ=>?_)
 ·rw [aC (by omega)]
  exact hnx hlt _ _ ⟨q,X,M1,m1,rfl,o1,d1,hl1,hq1,K5⟩
 clear hnx
 have hs:=o'.modelS (A:=_::_::_::A) hsm' K4
 obtain⟨ni,hni⟩: ∃n,m'.nodes[i]?=some n:=⟨_,List.getElem?_eq_getElem (by omega)⟩
 have hst:=rX d' hni
 obtain⟨b,oo,ha,e0,e1,e2,e3,e4,e5,e6,e7,e8⟩:=hs.nodes.at hni
 (refine kr_ ?_)
 refine⟨b,oo,ha,by omega,by omega,_,by rw [Int.toNat_natCast];exact e0,?_⟩
 refine ac (fun _=>hJ h4 q X' M' m' o' (d'.more (by omega)) hle (by omega) K4) (fun hkn=>?_)
 (refine kr_ ?_)
 refine⟨b,oo,ha,by omega,by omega,_,by rw [Int.toNat_natCast];exact e6,_,by rw [Int.toNat_natCast];exact e7,?_⟩
 generalize ni.sort=st at*
 clear hkn e0 e1 e2 e3 e4 e5 e6 e7 e8 hs hni ha ni oo b
 refine Kn.al K4 fun b41 h5 K5 l5 hb5=>?_
 refine kw_ ?_
 intro h6 K6 kpz
 clear kpz
 have K6':Kn g h6 ((b41, .inl ⟨[I st.idx,I st.wid],2,false⟩)::(b10, .inl ⟨df,5,false⟩)::(b8, .inl ⟨aw M',5,false⟩)::(B,rdC s q)::(A++X')):=K6
 clear K6 K5 K4 l5 hb5
 obtain⟨_,hw1,hw2⟩:=lw hst
 refine kp_ ?_
 intro x49 h7 K7 hx49 _
 refine⟨_,rfl,?_⟩
 clear K6'
 refine ap (fun J2=> ∀h8 q2 X2 M2 m2,MG X2 M2 m2->DM m2 (N+5*i+2)->m.nodes.length<=m2.nodes.length->q2<=p+i*1000+2->Kn g h8 ((b41, .inl ⟨[I st.idx,I st.wid],2,false⟩)::(b10, .inl ⟨df,5,false⟩)::(b8, .inl ⟨aw M2,5,false⟩)::(B,rdC s q2)::(A++X2))->J2 h8)
  (fun h8 q2 X2 M2 m2 o2 d2 hl2 hq2 K8=>?_) (fun J2 hJ2=>?_)
 rotate_left
 ·refine ac (fun _=>?_) (fun _=>hJ2 h7 _ X' M' m' o' (d'.more (by omega)) hle (by omega) K7)
  refine ap (fun J3=> ∀h8 s2 X2 q2 nd,MG X2 {M' with no:=s2} {m' with nodes:=m'.nodes++ [nd]}->bR nd.sort=true->nd.name.size=0->q2<=p+i*1000+2->
   Kn g h8 ((b41, .inl ⟨[I st.idx,I st.wid],2,false⟩)::(b10, .inl ⟨df,5,false⟩)::(b8, .inl ⟨aw {M' with no:=s2},5,false⟩)::(B,rdC s q2)::(A++X2))->J3 h8) (fun h8 s2 X2 q2 nd o2 hs2 hn2 hq2 K8=>?_) (fun J3 hJ3=>?_)
  ·have hdi:=d'.inits
   (refine kr_ ?_)
   (refine kr_ ?_)
   refine Kn.al K8 fun b104 h9 K9 l9 hb9=>?_
   refine Q0 (H:=_::_::_::_::A) (nd:=⟨i,W ((s2.n:Int)-1)⟩) o2 K9 (by dsimp only;omega) (.tail _ (.tail _ (.head _))) fun s3 X3 h10 o3 KF=>?_
   have K10:=KF _ (by((focus ((repeat first|exact .head|apply Upd.tail);done))))
   simp only [List.cons_append]at K10
   clear KF K9 K8 K7
   refine hJ2 h10 q2 X3 _ _ o3 (((d'.addN hs2 (by omega)).addI _).more (by omega)) (by simp;omega) hq2 K10
  obtain⟨w,hw⟩: ∃w:Nat,st.wid=w:=⟨st.wid.toNat,by omega⟩
  have hp2:0<2^w:=Nat.two_pow_pos w
  have fin: ∀(y:Nat) (h5 h6:Hp) (q2 b:Nat),q2<=p+i*1000+2->
    Kn g h6 ((b, .inl ⟨[I 34,I 0,I 0,I 0,I (Int.tmod y (2^w:Nat)),I 0,I 0,I st.wid, .string ⟨#[]⟩],9,false⟩)::(b41, .inl ⟨[I st.idx,I st.wid],2,false⟩)::(b10, .inl ⟨df,5,false⟩)::(b8, .inl ⟨aw M',5,false⟩)::(B,rdC s q2)::(A++X'))->
    co h6 M'.no.a M'.no.n M'.no.c (some (Addr.mk b 0 none)) 1 9 80 fun a92 n93 k94 h95=> ∃(cs96:List Value) (z97:Nat),h95 b8=some (.inl ⟨cs96,z97,false⟩)/\0+1<=List.length cs96/\cA (h95.row b8 (cz cs96 0 [(.slice a92 n93 k94)]) z97) fun h98=>J3 h98:=by
   intro y h5 h6 q2 b hq2 K6
   refine lA (H:=_::_::_::_::A) (nd:=⟨34,0,0,0,Int.tmod y (2^w:Nat),0,cF st.wid,⟨#[]⟩⟩) o' K6 (by omega) (.tail _ (.tail _ (.head _))) fun s2 X2 h8 o2 KF=>?_
   have K8:=KF _ (by((focus ((repeat first|exact .head|apply Upd.tail);done))))
   simp only [List.cons_append]at K8
   exact hJ3 h8 s2 X2 q2 _ o2 (nZ hw1 hw2) rfl hq2 K8
  repeat' (refine kr_ ?_)
  refine⟨?_,?_⟩
  ·refine kp_ ?_
   intro y h8 K8 hy _
   refine⟨_,rfl,?_⟩
   repeat' (refine kr_ ?_)
   refine⟨?_,?_⟩
   ·repeat' (refine kr_ ?_)
    rw [hw,cu (by omega),if_neg (by omega),bG (by omega),if_neg (by omega),<-hw]
    refine ce ⟨_,_,rfl,?_⟩
    repeat' (refine kr_ ?_)
    refine Kn.al K8 fun b90 h9 K9 l9 hb90=>?_
    (refine kr_ ?_)
    exact fin y h8 h9 _ b90 (by omega) K9
   ·repeat' (refine kr_ ?_)
    refine ce ⟨_,_,rfl,?_⟩
    repeat' (refine kr_ ?_)
    rw [hw,cu (by omega),if_neg (by omega),bG (by omega),if_neg (by omega),<-hw]
    refine Kn.al K8 fun b90 h9 K9 l9 hb90=>?_
    (refine kr_ ?_)
    exact fin y h8 h9 _ b90 (by omega) K9
  ·repeat' (refine kr_ ?_)
   rw [hw,cu (by omega),if_neg (by omega),bG (by omega),<-hw]
   refine kp_ ?_
   intro y h8 K8 hy _
   refine⟨_,rfl,?_⟩
   repeat' (refine kr_ ?_)
   rw [if_neg (by omega)]
   refine ce ⟨_,_,rfl,?_⟩
   repeat' (refine kr_ ?_)
   refine Kn.al K8 fun b90 h9 K9 l9 hb90=>?_
   (refine kr_ ?_)
   exact fin y h8 h9 _ b90 (by omega) K9
 clear K7 h7 hsm' hdn' hl' hq d' o' hle X' M' m' q
 have hl':=o2.lens
 have hdn':=d2.nodes
 have hsm':=d2.small (by omega)
 refine kp_ ?_
 intro x118 h9 K9 _ _
 refine⟨_,rfl,?_⟩
 refine ac (fun _=>hJ h9 _ X2 M2 m2 o2 (d2.more (by omega)) hl2 (by omega) K9.tl) (fun _=>?_)
 clear K8
 refine av m2.nodes.length (fun j vs h'=> ∃(a q:Nat),vs= [.pointer (some ⟨B,0,none⟩), .pointer (some ⟨b8,0,none⟩), .pointer (some ⟨b10,0,none⟩),I (M.no.n:Nat),I i, .pointer (some ⟨b41,0,none⟩),I a,I j]/\a<m2.nodes.length/\q<=p+i*1000+3+j/\
  Kn g h' ((b41, .inl ⟨[I st.idx,I st.wid],2,false⟩)::(b10, .inl ⟨df,5,false⟩)::(b8, .inl ⟨aw M2,5,false⟩)::(B,rdC s q)::(A++X2))) ⟨i,_,rfl,by omega,by omega,K9⟩ ?_
 clear K9 h9 h8 hq2
 rintro j _ h8 nxt hj ⟨a,q,rfl,haL,hq,K8⟩ hnx
 refine⟨_,b8,0,b10,0,_,_,b41,0,_,_,rfl,?_⟩
 have hs:=o2.modelS (A:=_::_::_::_::A) hsm' K8
 (refine kr_ ?_)
 by_cases hlj:j<m2.nodes.length
 ·refine aM (by rw [decide_eq_true_eq];omega) ?_
  refine ap (fun J3=> ∀(c:Nat) h5 q,c<m2.nodes.length->q<=p+i*1000+3+(j+1)->Kn g h5 ((b41, .inl ⟨[I st.idx,I st.wid],2,false⟩)::(b10, .inl ⟨df,5,false⟩)::(b8, .inl ⟨aw M2,5,false⟩)::(B,rdC s q)::(A++X2))->J3 (c:Int) h5) (fun c h5 q' hc hq' K5=>?_) (fun J3 hJ3=>?_)
  ·rw [aC (by omega)]
   exact hnx hlj _ _ ⟨c,q',rfl,hc,hq',K5⟩
  ·(refine kr_ ?_)
   obtain⟨nj,hnj⟩: ∃n,m2.nodes[j]?=some n:=⟨_,List.getElem?_eq_getElem hlj⟩
   obtain⟨b,oo,ha,e0,e1,e2,e3,e4,e5,e6,e7,e8⟩:=hs.nodes.at hnj
   refine⟨b,oo,ha,by omega,by omega,_,by rw [Int.toNat_natCast];exact e6,_,by rw [Int.toNat_natCast];exact e7,?_⟩
   (refine kr_ ?_)
   (refine kr_ ?_)
   refine ac (fun e=>?_) (fun e=>?_)
   ·(refine kr_ ?_)
    refine⟨b,oo,ha,by omega,by omega,_,by rw [Int.toNat_natCast];exact e0,?_⟩
    refine ac (fun e=>?_) (fun e=>?_)
    ·refine ac (fun e=>?_) (fun e=>?_)
     ·exact hJ3 _ h8 q hlj (by omega) K8
     refine kp_ ?_
     intro x h5 K5 hx _
     refine⟨_,rfl,?_⟩
     exact ac (fun e=>hJ3 _ h5 (q+1) hlj (by omega) K5) (fun e=>hJ3 _ h5 (q+1) haL (by omega) K5)
    ·exact hJ3 _ h8 q haL (by omega) K8
   ·exact hJ3 _ h8 q haL (by omega) K8
 refine aE (by rw [decide_eq_false_iff_not];omega) ?_
 clear hnx hs
 refine ap (fun J3=> ∀(c:Bool) h5 q,q<=p+i*1000+4+m2.nodes.length->Kn g h5 ((b41, .inl ⟨[I st.idx,I st.wid],2,false⟩)::(b10, .inl ⟨df,5,false⟩)::(b8, .inl ⟨aw M2,5,false⟩)::(B,rdC s q)::(A++X2))->J3 c h5) (fun c h5 q' hq' K5=>?_) (fun J3 hJ3=>?_)
 rotate_left
 ·refine ac (fun e=>?_) (fun e=>hJ3 _ h8 q (by omega) K8)
  repeat' (refine kr_ ?_)
  refine ac (fun e=>?_) (fun e=>hJ3 _ h8 q (by omega) K8)
  refine kp_ ?_
  intro x h5 K5 hx _
  exact⟨_,rfl,hJ3 _ h5 (q+1) (by omega) K5⟩
 clear K8 hq q h8
 refine ap (fun J3=> ∀(x:Int) h5 q X3 M3 m3,MG X3 M3 m3->DM m3 (N+5*i+4)->m.nodes.length<=m3.nodes.length->q<=p+i*1000+4+m2.nodes.length->Kn g h5 ((b41, .inl ⟨[I st.idx,I st.wid],2,false⟩)::(b10, .inl ⟨df,5,false⟩)::(b8, .inl ⟨aw M3,5,false⟩)::(B,rdC s q)::(A++X3))->J3 x h5)
  (fun x h6 q X3 M3 m3 o3 d3 hl3 hq3 K6=>?_) (fun J3 hJ3=>?_)
 ·have hde:=d3.nexts
  (refine kr_ ?_)
  refine Kn.al K6 fun b202 h9 K9 l9 hb9=>?_
  refine RF (H:=_::_::_::_::A) (nd:=⟨i,x⟩) o3 K9 (by omega) (.tail _ (.tail _ (.head _))) fun s3 X4 h10 o4 KF=>?_
  have K10:=KF _ (by((focus ((repeat first|exact .head|apply Upd.tail);done))))
  simp only [List.cons_append]at K10
  exact hJ h10 q X4 _ _ o4 ((d3.addE _).more (by omega)) (by simp;omega) (by omega) K10.tl
 refine ac (fun e=>?_) (fun e=>hJ3 _ h5 q' X2 M2 m2 o2 (d2.more (by omega)) hl2 (by omega) K5)
 repeat' (refine kr_ ?_)
 refine Kn.al K5 fun b173 h6 K6 l6 hb6=>?_
 refine lA (H:=_::_::_::_::A) (nd:=⟨34,0,0,0,1,0,st,⟨#[]⟩⟩) o2 K6 (by omega) (.tail _ (.tail _ (.head _))) fun s3 X3 h7 o3 KF=>?_
 have K7:=KF _ (by((focus ((repeat first|exact .head|apply Upd.tail);done))))
 simp only [List.cons_append]at K7
 clear KF K6 K5
 repeat' (refine kr_ ?_)
 refine Kn.al K7 fun b187 h8 K8 l8 hb8=>?_
 refine lA (H:=_::_::_::_::A) (nd:=⟨9,i,W ((s3.n:Int)-1),0,0,0,st,⟨#[]⟩⟩) o3 K8 (by simp;omega) (.tail _ (.tail _ (.head _))) fun s4 X4 h9 o4 KF=>?_
 have K9:=KF _ (by((focus ((repeat first|exact .head|apply Upd.tail);done))))
 simp only [List.cons_append]at K9
 clear KF K8 K7
 repeat' (refine kr_ ?_)
 have dA:=d2.addN (n:=⟨34,0,0,0,1,0,st,⟨#[]⟩⟩) hst (show (0:Nat)<=100 by omega)
 have dB:=dA.addN (n:=⟨9,i,W ((s3.n:Int)-1),0,0,0,st,⟨#[]⟩⟩) hst (show (0:Nat)<=100 by omega)
 exact hJ3 _ h9 q' X4 _ _ o4 (dB.more (by omega)) (by simp;omega) (by omega) K9
inductive Pk {α:Type}:List α->α->List α->Prop
 |head {L:List α} {a:α}:Pk (a::L) a L
 |tail {L L':List α} {a e:α}:Pk L a L'->Pk (e::L) a (e::L')
theorem Pk.perm {α:Type} {L L':List α} {a:α} (u:Pk L a L'):L.Perm (a::L'):=by
 induction u with
 |head=>exact List.Perm.refl _
 |tail _ ih=>exact(List.Perm.cons _ ih).trans (List.Perm.swap ..)
abbrev abZ (w:Int):List NodeP:= [⟨36,0,0,0,0,0,⟨0,w⟩,⟨#[120]⟩⟩,⟨34,0,0,0,0,0,⟨0,w⟩,⟨#[]⟩⟩,⟨34,0,0,0,1,0,⟨0,w⟩,⟨#[]⟩⟩,⟨34,0,0,0,3,0,⟨0,w⟩,⟨#[]⟩⟩,⟨35,0,0,0,0,0,⟨0,1⟩,⟨#[103,111]⟩⟩,
 ⟨9,0,2,0,0,0,⟨0,w⟩,⟨#[]⟩⟩,⟨33,4,5,0,0,0,⟨0,w⟩,⟨#[]⟩⟩,⟨21,0,3,0,0,0,⟨0,1⟩,⟨#[]⟩⟩]
abbrev acY (w:Int):ah:=⟨abZ w, [⟨0,1⟩], [⟨0,6⟩], [7], []⟩
abbrev ab9 (w:Int):List Value:=(abZ w).flatMap nodeCells
set_option maxHeartbeats 4000000 in
theorem ul {g h:Hp} {A:List (Nat×Blk)} {B p:Nat} {s:Sl} {bs:List Nat} {R:Value->Hp->Prop} (K:Kn g h ((B,rdC s p)::A)) (hb:ByteS g s bs) (hp:p<=900000)
  (k: ∀h' p' X' M' m',Kn g h' ((B,rdC s p')::(A++X'))->MG X' M' m'->DM m' 8->ax m'=0->0<m'.nodes.length->p'<=p+1->R (aQ M') h'):
  gt #[.pointer (some ⟨B,0,none⟩)] h R:=by
 apply yk
 refine uf_ ?_
 refine Kn.al K fun b3 h1 K1 l1 hb3=>?_
 clear K l1 hb3
 refine kp_ ?_
 intro x h2 K2 hx _
 refine⟨_,rfl,?_⟩
 have hx':x<2:=by have:=hx (by omega);omega
 clear K1
 refine ce ⟨_,_,rfl,?_⟩
 refine Kn.al K2 fun b14 h3 K3 l3 hb14=>?_
 refine kw_ ?_
 intro h4 K4 kpz
 clear kpz
 obtain⟨w,hw,hw2⟩: ∃w:Int,W (2+(x:Int))=w/\(w=2\/w=3):=⟨_,rfl,by rw [bU (by omega) (by omega)];omega⟩
 rw [hw]at K4
 have K4':Kn g h4 ((b14, .inl ⟨[I 0,I w],2,false⟩)::(b3, .inl ⟨df,5,false⟩)::(B,rdC s (p+1))::A):=K4
 clear K4 K3 K2
 refine ap (fun J=> ∀h5 (bN bI bE bB:Nat),Kn g h5 ((bN, .inl ⟨ab9 w,72,false⟩)::(bI, .inl ⟨[I 0,I 1],2,false⟩)::(bE, .inl ⟨[I 0,I 6],2,false⟩)::(bB, .inl ⟨[I 7],1,false⟩)::(b14, .inl ⟨[I 0,I w],2,false⟩)::
   (b3, .inl ⟨aw ⟨⟨some ⟨bN,0,none⟩,8,8⟩,⟨some ⟨bI,0,none⟩,1,1⟩,⟨some ⟨bE,0,none⟩,1,1⟩,⟨some ⟨bB,0,none⟩,1,1⟩,⟨none,0,0⟩⟩,5,false⟩)::(B,rdC s (p+1))::A)->J h5) (fun h5 bN bI bE bB K5=>?_) (fun J hJ=>?_)
 ·clear K4'
  repeat' (refine kr_ ?_)
  have K6:=(K5.perm (List.perm_append_comm (l₁:= [_,_,_,_]) (l₂:=_::_::_::A))).tl.tl
  refine k h5 (p+1) _ ⟨⟨some ⟨bN,0,none⟩,8,8⟩,⟨some ⟨bI,0,none⟩,1,1⟩,⟨some ⟨bE,0,none⟩,1,1⟩,⟨some ⟨bB,0,none⟩,1,1⟩,⟨none,0,0⟩⟩ (acY w) K6 ?_ ?_ ?_ ?_ (Nat.le_refl _)
  ·exact⟨[_], [_], [_], [_], [],rfl,⟨rfl,Nat.le_refl _, .inr ⟨bN,rfl,rfl⟩⟩,⟨rfl,Nat.le_refl _, .inr ⟨bI,rfl,rfl⟩⟩,⟨rfl,Nat.le_refl _, .inr ⟨bE,rfl,rfl⟩⟩,⟨rfl,Nat.le_refl _, .inr ⟨bB,rfl,rfl⟩⟩,cD 1⟩
  ·refine⟨Nat.le_refl _,?_,?_,show (1:Nat)<=8 by omega,show (1:Nat)<=8 by omega,show (1:Nat)<=8 by omega,show (0:Nat)<=8 by omega⟩
   ·rcases hw2 with rfl|rfl<;>decide
   ·rcases hw2 with rfl|rfl<;>decide
  ·rcases hw2 with rfl|rfl<;>decide
  ·exact Nat.succ_pos _
 have leaf: ∀h5 L L1 L2 L3 (bN bI bE bB:Nat),Kn g h5 L->Pk L (bN, .inl ⟨ab9 w,72,false⟩) L1->Pk L1 (bI, .inl ⟨[I 0,I 1],2,false⟩) L2->Pk L2 (bE, .inl ⟨[I 0,I 6],2,false⟩) L3->
   Pk L3 (bB, .inl ⟨[I 7],1,false⟩) ((b14, .inl ⟨[I 0,I w],2,false⟩)::(b3, .inl ⟨df,5,false⟩)::(B,rdC s (p+1))::A)->
   ∃(cs:List Value) (z:Nat),h5 b3=some (.inl ⟨cs,z,false⟩)/\0+5<=List.length cs/\cA (h5.row b3 (cz cs 0 [.slice (some ⟨bN,0,none⟩) 8 8, .slice (some ⟨bI,0,none⟩) 1 1, .slice (some ⟨bE,0,none⟩) 1 1, .slice (some ⟨bB,0,none⟩) 1 1, .slice none 0 0]) z) fun h'=>J h':=by
  intro h5 L L1 L2 L3 bN bI bE bB K p1 p2 p3 p4
  have K':=K.perm (p1.perm.trans (List.Perm.cons _ (p2.perm.trans (List.Perm.cons _ (p3.perm.trans (List.Perm.cons _ p4.perm))))))
  refine jU (M':=⟨⟨some ⟨bN,0,none⟩,8,8⟩,⟨some ⟨bI,0,none⟩,1,1⟩,⟨some ⟨bE,0,none⟩,1,1⟩,⟨some ⟨bB,0,none⟩,1,1⟩,⟨none,0,0⟩⟩) K' (by((focus ((repeat first|exact .head|apply Upd.tail);done)))) rfl fun h6 K6=>?_
  exact hJ h6 bN bI bE bB K6
 clear k hJ hw2 hw hx' hx
 repeat' (refine kr_ ?_)
 repeat' first
  |(refine kr_ ?_)
  |refine ce ⟨_,_,rfl,?_⟩
  |((with_reducible apply Kn.al);(assumption);(intro b hN KN lN hbN))
  |(refine leaf _ _ _ _ _ _ _ _ _ (by assumption) (by((focus ((repeat first|exact .head|apply Pk.tail);done)))) (by((focus ((repeat first|exact .head|apply Pk.tail);done)))) (by((focus ((repeat first|exact .head|apply Pk.tail);done)))) (by((focus ((repeat first|exact .head|apply Pk.tail);done)))))
  |refine⟨?_,?_⟩
theorem Kn.subl {g h:Hp} {L L':List (Nat×Blk)} (K:Kn g h L) (s:L'.Sublist L):Kn g h L':=K.sub (fun e he=>s.subset he) (List.Nodup.sublist (s.map _) K.nd)
theorem FS {g h:Hp} {L:List (Nat×Blk)} {s:Sl} {bs:List Nat} {R:Value->Hp->Prop} (K:Kn g h L) (hcap:s.n<=s.c) (hs:ByteS g s bs)
  (k: ∀B h' s' bs',ByteS g s' bs'->Kn g h' ((B,rdC s' 0)::L)->R (.pointer (some ⟨B,0,none⟩)) h'):iq #[s.v] h R:=by
 apply xL
 refine uf_ ?_
 have hl:=hs.len
 refine ac (fun e=>?_) (fun e=>?_)
 ·have e':2000<s.n:=by simp at e;omega
  obtain⟨b,o,ha,hc⟩:=SlC.get hs.1 (by omega)
  refine⟨by simp,by simp,by omega, .inr ⟨b,o,ha,?_⟩⟩
  refine Kn.al K fun B h1 K1 l1 hB=>?_
  have e0:(if s.c=(Int.ofNat 0).toNat then o else o+(Int.ofNat 0).toNat*1)=o:=by split<;>simp
  rw [e0]at K1
  refine k B h1 ⟨some ⟨b,o,none⟩,2000,s.c⟩ (bs.take 2000) ?_ K1
  refine⟨⟨by simp,by simp;omega, .inr ⟨b,o,rfl,?_⟩⟩,fun x hx=>hs.2 x (List.mem_of_mem_take hx)⟩
  intro i v hv
  refine hc i v ?_
  rw [List.map_take,List.getElem?_take]at hv
  split at hv
  ·exact hv
  ·cases hv
 ·refine Kn.al K fun B h1 K1 l1 hB=>?_
  exact k B h1 s bs hs K1
theorem xR {α:Type} (a b c:α) (L:List α):(a::b::c::L).Perm (c::a::b::L):=(List.Perm.cons a (List.Perm.swap c b L)).trans (List.Perm.swap c a _)
set_option maxHeartbeats 2000000 in
theorem Ij {g h:Hp} {A:List (Nat×Blk)} {B p:Nat} {s:Sl} {bs:List Nat} {R:Value->Hp->Prop} (K:Kn g h ((B,rdC s p)::A)) (hb:ByteS g s bs) (hp:p<=10000)
  (k: ∀h' p' X' M' m',Kn g h' ((B,rdC s p')::(A++X'))->MG X' M' m'->DM m' 400->ax m'=0->0<m'.nodes.length->p'<=p+100000->R (aQ M') h'):
  kK #[.pointer (some ⟨B,0,none⟩)] h R:=by
 apply BK
 refine uf_ ?_
 refine Kn.al K fun b3 h1 K1 l1 hb3=>?_
 clear K l1 hb3
 refine kp_ ?_
 intro x h2 K2 _ _
 refine⟨_,rfl,?_⟩
 clear K1
 refine Lv (A:=(b3, .inl ⟨df,5,false⟩)::A) K2.sw hb (by omega) fun h3 p3 X3 M3 m3 K3 o3 d3 n3 hp3=>⟨_,_,_,_,_,rfl,?_⟩
 replace K3:Kn g h3 ((b3, .inl ⟨df,5,false⟩)::(B,rdC s p3)::(A++X3)):=K3.sw
 clear K2
 refine Kn.al K3 fun b16 h4 K4 l4 hb16=>?_
 clear K3 l4 hb16
 refine jU (M':=M3) K4 (by((focus ((repeat first|exact .head|apply Upd.tail);done)))) rfl fun h5 K5=>?_
 clear K4
 refine kp_ ?_
 intro n h6 K6 hn _
 refine⟨_,rfl,?_⟩
 replace hn:n<14:=by have:=hn (by omega);omega
 clear K5
 refine av n (fun i vs h'=> ∃q X' M' m',vs= [.pointer (some ⟨B,0,none⟩), .pointer (some ⟨b3,0,none⟩), .pointer (some ⟨b16,0,none⟩),I n,I i]/\MG X' M' m'/\DM m' (12+3*i)/\0<m'.nodes.length/\q<=p+100+i*20/\
  Kn g h' ((b16, .inl ⟨aw M',5,false⟩)::(b3, .inl ⟨df,5,false⟩)::(B,rdC s q)::(A++X'))) ⟨p3+1,X3,M3,m3,rfl,o3,d3,n3,by omega,K6⟩ ?_
 clear K6 hp3 n3 d3 o3 m3 M3 X3 p3 h6 h5 h4 h3 h2 h1 h
 rintro i _ h4 nxt hi ⟨q,X',M',m',rfl,o',d',hle,hq,K4⟩ hnx
 refine⟨_,b3,0,b16,0,_,_,rfl,?_⟩
 by_cases hlt:i<n
 ·refine aM (by rw [decide_eq_true_eq];omega) ?_
  repeat' (refine kr_ ?_)
  refine O4 (A:=(b16, .inl ⟨aw M',5,false⟩)::(b3, .inl ⟨df,5,false⟩)::A) (K4.perm (xR _ _ _ _)) hb o' d' (by omega) hle (by omega) fun h5 q5 X5 M5 m5 K5 o5 d5 n5 hq5=>⟨_,_,_,_,_,rfl,?_⟩
  replace K5:=K5.perm (xR _ _ _ _).symm
  refine jU (M':=M5) K5 (by((focus ((repeat first|exact .head|apply Upd.tail);done)))) rfl fun h6 K6=>?_
  rw [aC (by omega)]
  exact hnx hlt _ _ ⟨q5,X5,M5,m5,rfl,o5,d5.more (by omega),n5,by omega,K6⟩
 refine aE (by rw [decide_eq_false_iff_not];omega) ?_
 clear hnx
 repeat' (refine kr_ ?_)
 refine O0 (N:=51) (A:=(b16, .inl ⟨aw M',5,false⟩)::(b3, .inl ⟨df,5,false⟩)::A) (K4.perm (xR _ _ _ _)) hb o' (d'.more (by omega)) (by omega) hle (by omega) fun h5 q5 X5 M5 m5 K5 o5 d5 n5 hq5=>⟨_,_,_,_,_,rfl,?_⟩
 replace K5:=K5.perm (xR _ _ _ _).symm
 clear K4
 refine jU (M':=M5) K5 (by((focus ((repeat first|exact .head|apply Upd.tail);done)))) rfl fun h6 K6=>?_
 clear K5
 refine kp_ ?_
 intro x76 h7 K7 hx76 _
 refine⟨_,rfl,?_⟩
 clear K6
 refine kp_ ?_
 intro x80 h8 K8 _ _
 refine⟨_,rfl,?_⟩
 clear K7
 refine ap (fun J=> ∀c:Nat,c<=2->J (c:Int)) (fun c hc=>?_) (fun J hJ=>?_)
 rotate_left
 ·refine ac (fun _=>hJ 0 (by omega)) (fun _=>?_)
  have:=hx76 (by omega)
  rw [show (1:Int)+(x76:Nat)=((1+x76:Nat):Int) by omega,eM (by omega)]
  exact hJ _ (by omega)
 refine av c (fun i vs h'=> ∃q X' M' m',vs= [.pointer (some ⟨B,0,none⟩), .pointer (some ⟨b3,0,none⟩), .pointer (some ⟨b16,0,none⟩),I c,I i]/\MG X' M' m'/\DM m' (306+4*i)/\0<m'.nodes.length/\q<=p+51500+i*2000/\
  Kn g h' ((b16, .inl ⟨aw M',5,false⟩)::(b3, .inl ⟨df,5,false⟩)::(B,rdC s q)::(A++X'))) ⟨_,X5,M5,m5,rfl,o5,d5,n5,by omega,K8⟩ ?_
 clear K8 hq5 n5 d5 o5 m5 M5 X5 q5 h8 h7 h6 h5 hq d' o' hle hx76 hlt hi
 clear M' m' X' q h4 nxt i
 rintro i _ h4 nxt hi ⟨q,X',M',m',rfl,o',d',hle,hq,K4⟩ hnx
 refine⟨_,b3,0,b16,0,_,_,rfl,?_⟩
 by_cases hlt:i<c
 ·refine aM (by rw [decide_eq_true_eq];omega) ?_
  repeat' (refine kr_ ?_)
  refine JH (A:=(b16, .inl ⟨aw M',5,false⟩)::(b3, .inl ⟨df,5,false⟩)::A) (K4.perm (xR _ _ _ _)) hb o' d' (by omega) hle (by omega) fun h5 q5 X5 M5 m5 i5 K5 o5 d5 hi5 hl5 hq5=>⟨_,_,_,_,_,_,rfl,?_⟩
  replace K5:=K5.perm (xR _ _ _ _).symm
  clear K4
  refine jU (M':=M5) K5 (by((focus ((repeat first|exact .head|apply Upd.tail);done)))) rfl fun h6 K6=>?_
  clear K5
  have hdb:=d5.bads
  (refine kr_ ?_)
  refine Kn.al K6 fun b119 h7 K7 l7 hb7=>?_
  refine UO (H:=_::_::_::A) (nd:=(i5:Nat)) o5 K7 (by omega) (.head _) fun s8 X8 h8 o8 KF=>?_
  have K8:=KF _ (by((focus ((repeat first|exact .head|apply Upd.tail);done))))
  simp only [List.cons_append]at K8
  rw [aC (by omega)]
  exact hnx hlt _ _ ⟨q5,X8,_,_,rfl,o8,(d5.addB _).more (by omega),by dsimp only;omega,by omega,K8⟩
 refine aE (by rw [decide_eq_false_iff_not];omega) ?_
 clear hnx
 refine kp_ ?_
 intro x132 h5 K5 _ _
 refine⟨_,rfl,?_⟩
 clear K4
 refine ap (fun J=> ∀h5 q X' M' m',MG X' M' m'->DM m' 400->0<m'.nodes.length->q<=p+60000->Kn g h5 ((b16, .inl ⟨aw M',5,false⟩)::(b3, .inl ⟨df,5,false⟩)::(B,rdC s q)::(A++X'))->J h5)
  (fun h5 q X' M' m' o' d' hle hq K5=>?_) (fun J hJ=>?_)
 ·have hs:=o'.modelS (A:=_::_::_::A) (d'.small (by omega)) K5
  repeat' (refine kr_ ?_)
  refine aX hs (d'.small (by omega)) ⟨_,rfl,?_⟩
  refine ac (fun e=>?_) (fun e=>?_)
  ·refine ul (A:=(b3, .inl ⟨df,5,false⟩)::(A++X')) K5.tl.sw hb (by omega) fun h6 q6 X6 M6 m6 K6 o6 d6 c6 n6 hq6=>⟨_,_,_,_,_,rfl,?_⟩
   replace K6:Kn g h6 ((b3, .inl ⟨df,5,false⟩)::(B,rdC s q6)::((A++X')++X6)):=K6.sw
   refine CW (M:=M6) K6 (by((focus ((repeat first|exact .head|apply Upd.tail);done)))) fun h7 K7=>?_
   refine k h7 q6 X6 M6 m6 (K7.tl.subl ?_) o6 (d6.more (by omega)) c6 n6 (by omega)
   exact List.Sublist.cons_cons _ (List.Sublist.append_right (List.sublist_append_left _ _) _)
  ·repeat' (refine kr_ ?_)
   refine CW (M:=M') K5 (by((focus ((repeat first|exact .head|apply Upd.tail);done)))) fun h7 K7=>?_
   exact k h7 q X' M' m' K7.tl.tl o' d' (by simpa using e) hle (by omega)
 refine ac (fun e=>?_) (fun e=>hJ _ _ _ _ _ o' (d'.more (by omega)) hle (by omega) K5)
 repeat' (refine kr_ ?_)
 refine JH (A:=(b16, .inl ⟨aw M',5,false⟩)::(b3, .inl ⟨df,5,false⟩)::A) (K5.perm (xR _ _ _ _)) hb o' d' (by omega) hle (by omega) fun h6 q6 X6 M6 m6 i6 K6 o6 d6 hi6 hl6 hq6=>⟨_,_,_,_,_,_,rfl,?_⟩
 replace K6:=K6.perm (xR _ _ _ _).symm
 clear K5
 refine jU (M':=M6) K6 (by((focus ((repeat first|exact .head|apply Upd.tail);done)))) rfl fun h7 K7=>?_
 clear K6
 refine kp_ ?_
 intro x155 h8 K8 _ _
 refine⟨_,rfl,?_⟩
 clear K7
 refine ap (fun J2=> ∀(y:Int) h5 q X' M' m',MG X' M' m'->DM m' 330->0<m'.nodes.length->q<=p+60000->Kn g h5 ((b16, .inl ⟨aw M',5,false⟩)::(b3, .inl ⟨df,5,false⟩)::(B,rdC s q)::(A++X'))->J2 y h5)
  (fun y h9 q9 X9 M9 m9 o9 d9 hle9 hq9 K9=>?_) (fun J2 hJ2=>?_)
 ·have hdh:=d9.holds
  (refine kr_ ?_)
  refine Kn.al K9 fun b119 h10 K10 l10 hb10=>?_
  refine RI (H:=_::_::_::A) (nd:=y) o9 K10 (by omega) (.head _) fun s8 X8 h8 o8 KF=>?_
  have K11:=KF _ (by((focus ((repeat first|exact .head|apply Upd.tail);done))))
  simp only [List.cons_append]at K11
  exact hJ _ _ _ _ _ o8 ((d9.addH _).more (by omega)) (by dsimp only;omega) (by omega) K11
 refine ac (fun e=>?_) (fun e=>hJ2 _ _ _ _ _ _ o6 (d6.more (by omega)) (by omega) (by omega) K8)
 have hdn:=d6.nodes
 (refine kr_ ?_)
 refine ce ⟨_,_,rfl,?_⟩
 repeat' (refine kr_ ?_)
 refine Kn.al K8 fun b163 h9 K9 l9 hb9=>?_
 (refine kr_ ?_)
 refine lA (H:=_::_::_::A) (nd:=⟨1,(i6:Nat),0,0,0,0,cF 1,⟨#[]⟩⟩) o6 K9 (by omega) (.head _) fun s10 X10 h10 o10 KF=>?_
 have K10:=KF _ (by((focus ((repeat first|exact .head|apply Upd.tail);done))))
 simp only [List.cons_append]at K10
 clear K9 K8
 repeat' (refine kr_ ?_)
 have dA:=d6.addN (n:=⟨1,(i6:Nat),0,0,0,0,cF 1,⟨#[]⟩⟩) (nZ (by omega) (by omega)) (show (0:Nat)<=100 by omega)
 exact hJ2 _ _ _ _ _ _ o10 (dA.more (by omega)) (by simp) (by omega) K10
theorem fE {h:Hp} {s:Sl} {bs:List Nat} {R:Value->Hp->Prop} (hcap:s.n<=s.c) (hs:ByteS h s bs)
  (k: ∀h' M m,h.le h'->aO h' M m->bW m->ax m=0->R (aQ M) h'):dI #[s.v] h R:=by
 apply DP
 refine uf_ ?_
 (with_reducible apply Kn.al);(exact Kn.nil h);(intro b3 h1 K1 l1 hb3)
 refine FS K1 hcap hs fun B h2 s' bs' hb K2=>⟨_,rfl,?_⟩
 clear K1
 refine kp_ ?_
 intro x h3 K3 _ _
 refine⟨_,rfl,?_⟩
 refine ac (fun e=>?_) (fun e=>?_)
 ·refine ul (A:= [(b3, .inl ⟨df,5,false⟩)]) K3 hb (by omega) fun h6 q6 X6 M6 m6 K6 o6 d6 c6 n6 hq6=>⟨_,_,_,_,_,rfl,?_⟩
  replace K6:Kn h h6 ((b3, .inl ⟨df,5,false⟩)::(B,rdC s' q6)::X6):=K6.sw
  refine CW (M:=M6) K6 (by((focus ((repeat first|exact .head|apply Upd.tail);done)))) fun h7 K7=>?_
  exact k h7 M6 m6 K7.le (o6.modelS (A:= [_,_]) (d6.small (by omega)) K7) (d6.small (by omega)) c6
 ·refine Ij (A:= [(b3, .inl ⟨df,5,false⟩)]) K3 hb (by omega) fun h6 q6 X6 M6 m6 K6 o6 d6 c6 n6 hq6=>⟨_,_,_,_,_,rfl,?_⟩
  replace K6:Kn h h6 ((b3, .inl ⟨df,5,false⟩)::(B,rdC s' q6)::X6):=K6.sw
  refine CW (M:=M6) K6 (by((focus ((repeat first|exact .head|apply Upd.tail);done)))) fun h7 K7=>?_
  exact k h7 M6 m6 K7.le (o6.modelS (A:= [_,_]) (d6.small (by omega)) K7) (d6.small (by omega)) c6
structure DZ (m:ah) (N:Nat):Prop where
 nodes:m.nodes.length<=N
 names: ∀n∈m.nodes,n.name.size<=100
 inits:m.inits.length<=N
 nexts:m.nexts.length<=N
 bads:m.bads.length<=N
 holds:m.holds.length<=N
theorem DZ.small {m:ah} {N:Nat} (d:DZ m N) (hN:N<=100000):bW m:=
 ⟨by have:=d.nodes;omega,by have:=d.inits;omega,by have:=d.nexts;omega,by have:=d.bads;omega,by have:=d.holds;omega,fun n hn=>by have:=d.names n hn;omega⟩
theorem DZ.more {m:ah} {N N':Nat} (d:DZ m N) (h:N<=N'):DZ m N':=
 ⟨Nat.le_trans d.nodes h,d.names,Nat.le_trans d.inits h,Nat.le_trans d.nexts h,Nat.le_trans d.bads h,Nat.le_trans d.holds h⟩
theorem DZ.addN {m:ah} {N:Nat} (d:DZ m N) {n:NodeP} (h2:n.name.size<=100):DZ {m with nodes:=m.nodes++ [n]} (N+1):=
 ⟨by have:=d.nodes;simp;omega,fun x hx=>by rcases List.mem_append.1 hx with hx|hx;exact d.names x hx;rw [List.mem_singleton.1 hx];exact h2,
  Nat.le_succ_of_le d.inits,Nat.le_succ_of_le d.nexts,Nat.le_succ_of_le d.bads,Nat.le_succ_of_le d.holds⟩
theorem DZ.set {m:ah} {N i:Nat} (d:DZ m N) {n:NodeP} (h2:n.name.size<=100):DZ {m with nodes:=m.nodes.set i n} N:=
 ⟨by have:=d.nodes;simp;omega,fun x hx=>by rcases List.mem_or_eq_of_mem_set hx with hx|rfl;exact d.names x hx;exact h2,d.inits,d.nexts,d.bads,d.holds⟩
theorem DZ.addI {m:ah} {N:Nat} (d:DZ m N) (x:BindP):DZ {m with inits:=m.inits++ [x]} (N+1):=
 ⟨Nat.le_succ_of_le d.nodes,d.names,by have:=d.inits;simp;omega,Nat.le_succ_of_le d.nexts,Nat.le_succ_of_le d.bads,Nat.le_succ_of_le d.holds⟩
theorem DZ.addE {m:ah} {N:Nat} (d:DZ m N) (x:BindP):DZ {m with nexts:=m.nexts++ [x]} (N+1):=
 ⟨Nat.le_succ_of_le d.nodes,d.names,Nat.le_succ_of_le d.inits,by have:=d.nexts;simp;omega,Nat.le_succ_of_le d.bads,Nat.le_succ_of_le d.holds⟩
theorem DZ.addB {m:ah} {N:Nat} (d:DZ m N) (xs:List Int) (hx:xs.length<=N):DZ {m with bads:=m.bads++xs} (2*N):=
 ⟨by have:=d.nodes;dsimp only;omega,d.names,by have:=d.inits;dsimp only;omega,by have:=d.nexts;dsimp only;omega,by have:=d.bads;simp;omega,by have:=d.holds;dsimp only;omega⟩
theorem DZ.addH {m:ah} {N:Nat} (d:DZ m N) (x:Int):DZ {m with holds:=m.holds++ [x]} (N+1):=
 ⟨Nat.le_succ_of_le d.nodes,d.names,Nat.le_succ_of_le d.inits,Nat.le_succ_of_le d.nexts,Nat.le_succ_of_le d.bads,by have:=d.holds;simp;omega⟩
theorem jw {h:Hp} {M:MSl} {m:ah} {R:Value->Hp->Prop} (hs:aO h M m) (hm:bW m) (hc:ax m=0)
  (k:R (.tuple #[I (ak m.nodes 36),I (ak m.nodes 35)]) h):eu #[aQ M] h R:=by
 refine ACalls.drop (uE ?_)
 refine uf_ ?_
 have K0:=Kn.nil h
 (with_reducible apply Kn.al);(assumption);(intro b7 h1 K1 l1 hb7)
 clear K0
 have hs1:=hs.mono K1.le
 repeat' (refine kr_ ?_)
 refine aX hs1 hm ⟨_,rfl,?_⟩
 refine aE (by rw [hc];rfl) ?_
 repeat' (refine kr_ ?_)
 refine gC hs1 hm ⟨_,rfl,?_⟩
 repeat' (refine kr_ ?_)
 refine gC hs1 hm ⟨_,rfl,?_⟩
 exact⟨h,K1.le,k⟩
theorem CD (l:List NodeP) (k:Int):(aH l k).Nodup:=List.Nodup.sublist List.filter_sublist List.nodup_range
theorem Mu {binds:List BindP} (ag:jD (binds.map (·.state))=false) {b:BindP} (hb:b∈binds) {p:Nat} (e:b.state=(p:Int)):cf binds p=some b.node.toNat:=by
 cases hx:cf binds p with
 |none=>exact absurd e (Pc hx b hb)
 |some k=>
  obtain⟨b',hb',hs',rfl⟩:=fT hx
  obtain⟨i,hi⟩:=List.getElem?_of_mem hb
  obtain⟨j,hj⟩:=List.getElem?_of_mem hb'
  have key: ∀{i j:Nat} {x y:BindP},binds[i]?=some x->binds[j]?=some y->x.state=y.state-> ¬i<j:= @fun i j x y hi hj e h=>by
   refine CF ag hj _ ?_ e
   have h1:=get_lt hi
   refine List.mem_of_getElem? (i:=i) ?_
   rw [List.getElem?_take,if_pos h];exact hi
  have h1:=key hi hj (e.trans hs'.symm)
  have h2:=key hj hi (hs'.trans e.symm)
  obtain rfl:i=j:=by omega
  rw [hi]at hj
  rw [Option.some.inj hj]
theorem Ia {l:List Nat} {i:Nat} {x:Nat} (h:l[i]?=some x):(VL l)[i]?=some (x:Int):=by unfold VL;rw [List.getElem?_map,h];rfl
theorem gE.out {h:Hp} {t:Sl} {vs:List (List Nat)} {X:List (Nat×Blk)} {s:Sl} {ts:List Sl} (e:gE h t vs) (he: ∀p,p<vs.length->0<(vs.getD p []).length) (o:cw X s 1 (ts.map Sl.v)) (m: ∀e∈X,h e.1=some e.2)
  (hts: ∀(j:Nat) (u:Sl),ts[j]?=some u-> ∃ws,(0<vs.length->0<ws.length)/\gE h u ws):gE (h.wo (X.map Prod.fst)) t vs:=by
 rcases o.2.2 with ⟨rfl,_,_⟩|⟨b,_,rfl⟩
 ·exact e.mono fun c x hc=>by simp [Hp.wo,hc]
 have hb:=m _ (.head _)
 have kp: ∀c,c≠b->(h.wo [b]) c=h c:=fun c hc=>by simp [Hp.wo,hc]
 refine⟨e.1,e.2.1,fun p hp=>?_⟩
 obtain⟨b',o',t',h1,h2,h3⟩:=e.2.2 p hp
 refine⟨b',o',t',h1,?_,h3.keepN hb (u9 ts) kp⟩
 have hne:b'≠b:=by
  rintro rfl
  rw [aq hb,List.getElem?_map,Option.map_eq_some_iff]at h2
  obtain⟨u,hu,hv⟩:=h2
  obtain⟨ws,hw,hpw⟩:=hts _ u hu
  obtain rfl:u=t':=by
   obtain⟨a1,a2,a3⟩:=u
   obtain⟨c1,c2,c3⟩:=t'
   cases hv;rfl
  obtain⟨b2,o2,u2,g1,g2,_⟩:=hpw.2.2 0 (hw (by omega))
  obtain⟨b3,o3,g3,g4,_⟩:=IntS.elt h3 (i:=0) (he p hp)
  rw [g1]at g3
  cases g3
  rw [g2]at g4
  cases g4
 unfold Hp.cell at h2⊢
 rw [show (Hp.wo h (List.map Prod.fst [(b,(Sum.inl ⟨ts.map Sl.v,s.c*1,false⟩:Blk))])) b'=h b' from kp b' hne]
 exact h2
theorem ND {l:List NodeP} {s:Int} (h:cY l s=true) (hk:jT l s=36): ∃p:Nat,s=(p:Int)/\p∈aH l 36:=by
 have hp:=fB.1 h
 refine⟨s.toNat,by omega,?_⟩
 unfold aH
 rw [List.mem_filter,List.mem_range]
 have hl:s.toNat<l.length:=by omega
 refine⟨hl,?_⟩
 unfold jT at hk
 rw [List.getElem?_eq_getElem hl]at hk⊢
 simpa using hk
theorem LU {m:ah} (g:dj m): ∀b∈m.inits,∃p:Nat,b.state=(p:Int)/\p∈stP m/\0<=b.node/\b.node<(oK m).length/\0<((oK m).getD b.node.toNat []).length/\((oK m).getD b.node.toNat []).length<=4/\
  ez m p=some (nE (aK m.nodes p) ((oK m).getD b.node.toNat [])):=by
 intro b hb
 obtain⟨q1,q2,q3,_⟩:=pN (g.ini b hb)
 obtain⟨p,ep,hp⟩:=ND q1 q3
 obtain⟨v1,v2,v3,v4,_⟩:=uG g hb
 refine⟨p,ep,hp,v1,by rw [(xq g).len];exact v2,v3,v4,?_⟩
 unfold ez
 rw [Mu (qu g.twice).2.1 hb ep];rfl
theorem Kn.ints {g h:Hp} {L:List (Nat×Blk)} {s:Sl} {b z:Nat} {ro:Bool} {xs:List Int} (K:Kn g h L) (m:(b, .inl ⟨xs.map I,z,ro⟩)∈L) (ha:s.a=some ⟨b,0,none⟩) (hn:xs.length=s.n) (hl:s.n<=1000000):IntS h s xs:=
 ⟨by omega,by rw [List.length_map,Nat.mul_one];exact hn, .inr ⟨b,0,ha,ay (K.at m)⟩⟩
theorem Kn.cut {g h:Hp} {A L:List (Nat×Blk)} (K:Kn g h (A++L)): ∃g0,Kn g g0 A/\Kn g0 h L:=by
 have nd:=K.nd
 rw [List.map_append,List.nodup_append]at nd
 have KL:Kn g h L:=K.sub (fun e he=>List.mem_append_right _ he) nd.2.1
 refine⟨h.wo (L.map Prod.fst),⟨KL.leBase,fun e he=>?_,fun e he=>K.new e (List.mem_append_left _ he),nd.1⟩,KL.base⟩
 rw [se fun hm=>nd.2.2 e.1 (List.mem_map.2 ⟨e,he,rfl⟩) e.1 hm rfl]
 exact K.mem e (List.mem_append_left _ he)
def vo (a:Nat):List Nat:=(List.range a).map (· +2)
theorem HG {x a:Nat}:x∈vo a↔2<=x/\x<a+2:=by
 unfold vo
 rw [List.mem_map]
 constructor
 ·rintro ⟨y,hy,rfl⟩
  have:=List.mem_range.1 hy
  omega
 ·exact fun h=>⟨x-2,List.mem_range.2 (by omega),by omega⟩
theorem xF (a:Nat):(vo a).length=a:=by unfold vo;rw [List.length_map,List.length_range]
theorem Tw (a:Nat):vo (a+1)=vo a++ [a+2]:=by unfold vo;rw [List.range_succ,List.map_append];rfl
theorem NB {a b:Nat} (h:vo a=vo b):a=b:=by have:=congrArg List.length h;rwa [xF,xF]at this
inductive Ord (ns:List Nd):Nat->List Nat->List Nat->Prop
 |leaf {r:Nat} {d:List Nat}:r<2->Ord ns r d d
 |seen {r:Nat} {d:List Nat}:2<=r->r∈d->Ord ns r d d
 |node {r:Nat} {d d1 d2:List Nat} {nd:Nd}:2<=r->r∉d->ns[r-2]?=some nd->Ord ns nd.lo d d1->Ord ns nd.hi d1 d2->Ord ns r d (d2++ [r])
theorem Ord.stay {ns:List Nd} {r a:Nat} {o:List Nat} (h:Ord ns r (vo a) o) (hr:r<a+2):o=vo a:=by
 generalize hd:vo a=d at h
 cases h with
 |leaf=>rfl
 |seen=>rfl
 |node h2 hn=>
  subst hd
  exact absurd (HG.2 ⟨h2,hr⟩) hn
def F2 (N:Nat) (ns:List Nd) (r:Nat):Nat:=if r<2 then N else match ns[r-2]? with|some nd=>nd.v|none=>0
def Wd (N:Nat) (ns:List Nd):Prop:= ∀(i:Nat) (nd:Nd),ns[i]?=some nd->nd.v<N/\nd.lo≠nd.hi/\nd.lo<i+2/\nd.hi<i+2/\nd.v<F2 N ns nd.lo/\nd.v<F2 N ns nd.hi/\ ∀j,j<i->ns[j]?≠some nd
theorem Yd {ns ns2:List Nd} (p:ns<+:ns2) {i:Nat} {nd:Nd} (h:ns[i]?=some nd):ns2[i]?=some nd:=by
 obtain⟨r,rfl⟩:=p
 rw [List.getElem?_append_left (List.getElem?_eq_some_iff.1 h).1];exact h
theorem Nl {ns ns2:List Nd} (p:ns<+:ns2) {i:Nat} (hi:i<ns.length):ns2[i]?=ns[i]?:=by
 obtain⟨r,rfl⟩:=p
 rw [List.getElem?_append_left hi]
theorem xn {N:Nat} {ns ns2:List Nd} (p:ns<+:ns2) {r:Nat} (hr:r<ns.length+2):F2 N ns2 r=F2 N ns r:=by
 unfold F2
 split
 ·rfl
 ·rw [Nl p (by omega)]
theorem WQ {ns:List Nd} {n:Nd} {i:Nat} (h:ns.idxOf? n=some i):ns[i]?=some n:=by
 simp only [List.idxOf?]at h
 obtain⟨hi,he,_⟩:=List.findIdx?_eq_some_iff_getElem.1 h
 rw [List.getElem?_eq_getElem hi]
 simp only [beq_iff_eq]at he
 rw [he]
theorem V7 {ns:List Nd} {n:Nd} (h:ns.idxOf? n=none) (j:Nat):ns[j]?≠some n:=by
 intro e
 simp only [List.idxOf?,List.findIdx?_eq_none_iff]at h
 have:=h n (List.mem_of_getElem? e)
 simp at this
theorem aaO (N:Nat): ∀(n:Nat) (f:Nat->Bool) (low:Nat) (ns:List Nd),low+n=N->Wd N ns->
  Wd N (mkD n f low ns).2/\(mkD n f low ns).1<(mkD n f low ns).2.length+2/\low<=F2 N (mkD n f low ns).2 (mkD n f low ns).1/\
  (∀(i:Nat) (nd:Nd),ns.length<=i->(mkD n f low ns).2[i]?=some nd->low<=nd.v)/\ ∀ns2,(mkD n f low ns).2<+:ns2->Ord ns2 (mkD n f low ns).1 (vo ns.length) (vo (mkD n f low ns).2.length):=by
 intro n
 induction n with
 |zero=>
  intro f low ns hN hW
  have h2:(mkD 0 f low ns).1<2:=by simp only [mkD];split<;>omega
  refine⟨hW,by omega,?_,fun i nd hi h=>?_,fun ns2 _=> .leaf h2⟩
  ·unfold F2;rw [if_pos h2];omega
  ·have h:ns[i]?=some nd:=h
   rw [List.getElem?_eq_none hi]at h;cases h
 |succ n ih=>
  intro f low ns hN hW
  obtain⟨a1,a2,a3,a4,a5⟩:=ih (fun i=>f (2*i)) (low+1) ns (by omega) hW
  have p1:=yP n (fun i=>f (2*i)) (low+1) ns
  simp only [mkD]
  generalize mkD n (fun i=>f (2*i)) (low+1) ns=r1 at*
  obtain⟨b1,b2,b3,b4,b5⟩:=ih (fun i=>f (2*i+1)) (low+1) r1.2 (by omega) a1
  have p2:=yP n (fun i=>f (2*i+1)) (low+1) r1.2
  generalize mkD n (fun i=>f (2*i+1)) (low+1) r1.2=r2 at*
  have l1:=p1.length_le
  have l2:=p2.length_le
  have hnew: ∀(i:Nat) (nd:Nd),ns.length<=i->r2.2[i]?=some nd->low+1<=nd.v:=fun i nd hi h=>by
   rcases Nat.lt_or_ge i r1.2.length with h1|h1
   ·exact a4 i nd hi (by rw [<-Nl p2 h1];exact h)
   ·exact b4 i nd h1 h
  split
  ·rename_i e
   refine⟨b1,b2,by omega,fun i nd hi h=>by have:=hnew i nd hi h;omega,fun ns2 p=>?_⟩
   have s1:=a5 ns2 (p2.trans p)
   have s2:=b5 ns2 p
   rw [<-e]at s2⊢
   have:=s2.stay (by omega)
   rw [this];exact s1
  ·rename_i e
   unfold jg
   cases hx:r2.2.idxOf? ⟨low,r1.1,r2.1⟩with
   |some i=>
    have hi:=WQ hx
    have hil:=(List.getElem?_eq_some_iff.1 hi).1
    refine⟨b1,by dsimp only;omega,?_,fun i nd hi h=>by have:=hnew i nd hi h;omega,fun ns2 p=>?_⟩
    ·unfold F2
     dsimp only
     rw [if_neg (by omega),Nat.add_sub_cancel,hi];exact Nat.le_refl _
    ·dsimp only at p⊢
     have hlt:i<ns.length:=by
      rcases Nat.lt_or_ge i ns.length with h|h
      ·exact h
      ·have:=hnew i _ h hi
       dsimp only at this;omega
     obtain⟨_,_,w3,w4,_⟩:=b1 i _ hi
     dsimp only at w3 w4
     have s1:=NB ((a5 ns2 (p2.trans p)).stay (by omega))
     have s2:=NB ((b5 ns2 p).stay (by omega))
     rw [show r2.2.length=ns.length by omega]
     exact .seen (by omega) (HG.2 ⟨by omega,by omega⟩)
   |none=>
    have hno:=V7 hx
    have pp:r2.2<+:r2.2++ [⟨low,r1.1,r2.1⟩]:=List.prefix_append _ _
    refine⟨fun i nd h=>?_,by simp,?_,fun i nd hi h=>?_,fun ns2 p=>?_⟩
    ·dsimp only at h⊢
     rcases Nat.lt_or_ge i r2.2.length with h1|h1
     ·rw [List.getElem?_append_left h1]at h
      obtain⟨w1,w2,w3,w4,w5,w6,w7⟩:=b1 i nd h
      refine⟨w1,w2,w3,w4,by rw [xn pp (by omega)];exact w5,by rw [xn pp (by omega)];exact w6,fun j hj=>?_⟩
      rw [List.getElem?_append_left (by omega)];exact w7 j hj
     ·have hl:=(List.getElem?_eq_some_iff.1 h).1
      rw [List.length_append,List.length_singleton]at hl
      obtain rfl:i=r2.2.length:=by omega
      rw [List.getElem?_append_right (Nat.le_refl _),Nat.sub_self]at h
      simp at h;subst h
      dsimp only
      refine⟨by omega,e,by omega,by omega,?_,?_,fun j hj=>?_⟩
      ·rw [xn pp (by omega),xn p2 a2];omega
      ·rw [xn pp b2];omega
      ·rw [List.getElem?_append_left hj];exact hno j
    ·unfold F2
     dsimp only
     rw [if_neg (by omega),Nat.add_sub_cancel,List.getElem?_append_right (Nat.le_refl _),Nat.sub_self]
     exact Nat.le_refl _
    ·dsimp only at h
     rcases Nat.lt_or_ge i r2.2.length with h1|h1
     ·rw [List.getElem?_append_left h1]at h
      have:=hnew i nd hi h;omega
     ·have hl:=(List.getElem?_eq_some_iff.1 h).1
      rw [List.length_append,List.length_singleton]at hl
      obtain rfl:i=r2.2.length:=by omega
      rw [List.getElem?_append_right (Nat.le_refl _),Nat.sub_self]at h
      simp at h;subst h
      exact Nat.le_refl _
    ·dsimp only at p⊢
     have p':=pp.trans p
     rw [List.length_append,List.length_singleton,Tw]
     refine .node (nd:=⟨low,r1.1,r2.1⟩) (by omega) (fun h=>by have:=HG.1 h;omega) ?_ (a5 ns2 (p2.trans p')) (b5 ns2 p')
     rw [Nat.add_sub_cancel]
     refine Yd p ?_
     rw [List.getElem?_append_right (Nat.le_refl _),Nat.sub_self];rfl
theorem VD {n:Nat} {f:Nat->Bool} {r:Nat×List Nd} (h:pq n f=some r):Wd n r.2/\r.2.length<=600/\r.1<r.2.length+2/\Ord r.2 r.1 [] (vo r.2.length)/\ ∀c,c<2^n->Ev r.2 r.1 c (f c):=by
 unfold pq at h
 split at h
 ·cases h
 ·rename_i hl
  obtain rfl:=Option.some.inj h
  obtain⟨w1,w2,_,_,w5⟩:=aaO n n f 0 [] (by omega) (fun i nd h=>by simp at h)
  refine⟨w1,by omega,w2,w5 _ (List.prefix_refl _),fun c hc=>?_⟩
  have:=Pe n f 0 [] c
  rwa [Nat.pow_zero,Nat.div_one,Nat.mod_eq_of_lt hc]at this
theorem Kn.weak {g g0 h:Hp} {L:List (Nat×Blk)} (K:Kn g0 h L) (l:g.le g0):Kn g h L:=⟨Hp.le_trans l K.le,K.mem,fun e he=>aF l (K.new e he),K.nd⟩
theorem zi {h:Hp} {s:Sl} {ns:List Nd} (e:SlC h s 3 (bD ns)) {i:Nat} {nd:Nd} (hn:ns[i]?=some nd): ∃b o,s.a=some (Addr.mk b o none)/\(0:Int)<=(i:Nat)/\((i:Nat):Int)<(s.n:Int)/\
  Hp.cell h b (o+Int.toNat ((i:Nat):Int)*3)=some (I nd.v)/\Hp.cell h b ((o+Int.toNat ((i:Nat):Int)*3)+1)=some (I nd.lo)/\Hp.cell h b ((o+Int.toNat ((i:Nat):Int)*3)+2)=some (I nd.hi):=by
 have hi:=get_lt hn
 obtain⟨b,o,ha,c0,c1,c2⟩:=Rv e hi
 have hl:=Lu e
 rw [List.getElem?_eq_getElem hi]at hn
 rw [Option.some.inj hn]at c0 c1 c2
 rw [Int.toNat_natCast]
 exact⟨b,o,ha,by omega,by omega,c0,c1,c2⟩
theorem VE {r:Nat} (h:2<=r) (h2:r<=1000000):W ((r:Int)-2)=((r-2:Nat):Int):=by rw [bU (by omega) (by omega)];omega
structure CA (N:Nat) (ns:List Nd) (r:Nat) (f:Nat->Bool):Prop where
 wd:Wd N ns
 len:ns.length<=600
 root:r<ns.length+2
 ord:Ord ns r [] (vo ns.length)
 ev: ∀c,c<2^N->Ev ns r c (f c)
 vars:N<=13
theorem Bo {h:Hp} {N r:Nat} {x:Int} {s:Sl} {ns:List Nd} {R:Value->Hp->Prop} (hs:SlC h s 3 (bD ns)) (hl:ns.length<=600) (hr:r<ns.length+2)
  (k:R (I (F2 N ns r)) h):nX #[.agg #[I N,s.v,I x],I r] h R:=by
 refine ACalls.drop (HR ?_)
 refine uf_ ?_
 (with_reducible apply Kn.al);(exact Kn.nil h);(intro b6 h1 K1 l1 hb6)
 unfold F2 at k
 by_cases h2:r<2
 ·rw [if_pos h2]at k
  refine aM (decide_eq_true (by omega)) ?_
  repeat' (refine kr_ ?_)
  exact⟨h,K1.le,k⟩
 ·rw [if_neg h2]at k
  refine aE (decide_eq_false (by omega)) ?_
  repeat' (refine kr_ ?_)
  obtain⟨nd,hn⟩: ∃nd,ns[r-2]?=some nd:=⟨_,List.getElem?_eq_getElem (by omega)⟩
  rw [hn]at k
  obtain⟨b,o,ha,i0,i1,c0,_⟩:=zi (hs.mono K1.le) hn
  rw [VE (by omega) (by omega)]
  exact⟨b,o,ha,i0,i1,_,c0,h,K1.le,k⟩
theorem AH {h:Hp} {N r c:Nat} {s:Sl} {ns:List Nd} {bv:Bool} {R:Value->Hp->Prop} (hs:SlC h s 3 (bD ns)) (hW:Wd N ns) (hN:N<=13) (hl:ns.length<=600) (hr:r<ns.length+2) (he:Ev ns r c bv)
  (k:R (.bool bv) h):nW #[.agg #[I N,s.v,I r],I c] h R:=by
 refine ACalls.drop (Ls ?_)
 refine uf_ ?_
 (with_reducible apply Kn.al);(exact Kn.nil h);(intro b6 h1 K1 l1 hb6)
 (refine kr_ ?_)
 refine nD r (fun q vs h'=>vs= [I c, .pointer (some ⟨b6,0,none⟩),I q]/\q<ns.length+2/\Ev ns q c bv/\Kn h h' [(b6, .inl ⟨[I N,s.v,I r],3,false⟩)]) ⟨rfl,hr,he,K1⟩ ?_
 clear K1 l1 hb6 h1 hr he
 rintro q _ h1 next ⟨rfl,hq,he,K1⟩ hnx
 refine⟨_,b6,0,_,rfl,?_⟩
 cases he with
 |no=>exact aE (decide_eq_false (by omega)) ⟨h,K1.le,k⟩
 |yes=>exact aE (decide_eq_false (by omega)) ⟨h,K1.le,k⟩
 | @node p _ nd _ hn he2=>
  obtain⟨w1,w2,w3,w4,_⟩:=hW p nd hn
  refine aM (decide_eq_true (by omega)) ?_
  (refine kr_ ?_)
  obtain⟨b,o,ha,i0,i1,c0,c1,c2⟩:=zi (hs.mono K1.le) hn
  rw [VE (by omega) (by omega),Nat.add_sub_cancel]
  refine⟨b,o,ha,i0,i1,_,c0,_,c1,_,c2,?_⟩
  refine Kn.al K1 fun b27 h2 K2 l2 hb27=>?_
  clear K1
  refine kw_ ?_
  intro h3 K3 _
  simp only [cz,List.set_cons_zero,List.set_cons_succ,Nat.zero_add,Nat.reduceAdd]at K3
  clear K2
  repeat' (refine kr_ ?_)
  refine jn (by omega) ⟨_,rfl,?_⟩
  by_cases hb:c.testBit nd.v=true
  ·rw [hb,if_pos rfl]at he2⊢
   refine aM rfl ?_
   (refine kr_ ?_)
   exact hnx nd.hi (by omega) _ _ ⟨rfl,by have:=get_lt hn;omega,he2,K3.tl⟩
  ·rw [Bool.not_eq_true]at hb
   rw [hb]at he2⊢
   refine aE rfl ?_
   (refine kr_ ?_)
   exact hnx nd.lo (by omega) _ _ ⟨rfl,by have:=get_lt hn;omega,he2,K3.tl⟩
theorem Ord.len {ns:List Nd} {r:Nat} {d o:List Nat} (h:Ord ns r d o):d.length<=o.length:=by
 induction h with
 |leaf=>exact Nat.le_refl _
 |seen=>exact Nat.le_refl _
 |node _ _ _ _ _ i1 i2=>rw [List.length_append];omega
theorem LZ {N:Nat} {rt:Int} {s:Sl} {ns:List Nd} (hW:Wd N ns) (hl:ns.length<=600): ∀{r:Nat} {d o:List Nat},Ord ns r d o-> ∀{g h:Hp} {X:List (Nat×Blk)} {t:Sl} {R:Value->Hp->Prop},SlC g s 3 (bD ns)->r<ns.length+2->o.length<=600->
  Kn g h X->cw X t 1 ((VL d).map I)->(∀t' X' h',cw X' t' 1 ((VL o).map I)->Kn g h' X'->R (Sl.v t') h')->kP #[.agg #[I N,s.v,I rt],I r,t.v] h R:=by
 intro r d o ho
 induction ho with
 |leaf h2=>
  intro g h X t R hs hr hol K oX k
  refine sq ?_
  refine uf_ ?_
  refine Kn.al K fun b7 h1 K1 l1 hb7=>?_
  exact aM (decide_eq_true (by omega)) (k t X h1 oX K1.tl)
 | @seen r d h2 hm=>
  intro g h X t R hs hr hol K oX k
  refine sq ?_
  refine uf_ ?_
  refine Kn.al K fun b7 h1 K1 l1 hb7=>?_
  refine aE (decide_eq_false (by omega)) ?_
  have it:IntS h1 t (VL d):=(oX.buf fun e he=>K1.mem e (.tail _ he)).slc_of (by have:=oX.1;simp only [List.length_map,aY]at this;omega)
  have htl:=it.len
  rw [aY]at htl
  refine av d.length (fun i vs h'=>vs= [I r,t.v, .pointer (some ⟨b7,0,none⟩),I (i:Nat)]/\h'=h1/\ ∀j,j<i->d[j]?≠some r) ⟨rfl,rfl,fun j h=>by omega⟩ ?_
  rintro i _ _ next hi ⟨rfl,rfl,hno⟩ hnx
  refine⟨_,t,b7,0,_,rfl,?_⟩
  by_cases hlt:i<d.length
  ·refine aM (decide_eq_true (by omega)) ?_
   obtain⟨y,hy⟩: ∃y,d[i]?=some y:=⟨_,List.getElem?_eq_getElem hlt⟩
   obtain⟨b,o,ha,hc⟩:=it.get (Ia hy)
   refine⟨b,o,ha,by omega,by omega,_,by rw [Int.toNat_natCast];exact hc,?_⟩
   refine ac (fun _=>k t X _ oX K1.tl) (fun e=>?_)
   rw [aC (by omega)]
   refine hnx hlt _ _ ⟨rfl,rfl,fun j hj=>?_⟩
   by_cases hji:j<i
   ·exact hno j hji
   ·obtain rfl:j=i:=by omega
    rw [hy]
    intro q
    rw [Option.some.inj q]at e;simp at e
  ·obtain⟨j,hj⟩:=List.getElem?_of_mem hm
   exact absurd hj (hno j (by have:=get_lt hj;omega))
 | @node r d d1 d2 nd h2 hm hn o1 o2 ih1 ih2=>
  intro g h X t R hs hr hol K oX k
  refine sq ?_
  refine uf_ ?_
  refine Kn.al K fun b7 h1 K1 l1 hb7=>?_
  refine aE (decide_eq_false (by omega)) ?_
  rw [List.length_append,List.length_singleton]at hol
  have l1':=o1.len
  have l2':=o2.len
  obtain⟨w1,w2,w3,w4,_⟩:=hW _ nd hn
  obtain⟨g0,KA,KL⟩:=Kn.cut (A:= [_]) K1
  have f7:=KA.at (.head _)
  have hs0:=hs.mono KA.le
  have it:IntS h1 t (VL d):=(oX.buf fun e he=>KL.mem e he).slc_of (by have:=oX.1;simp only [List.length_map,aY]at this;omega)
  have htl:=it.len
  rw [aY]at htl
  clear K1 K
  refine av d.length (fun i vs h'=>vs= [I r,t.v, .pointer (some ⟨b7,0,none⟩),I (i:Nat)]/\h'=h1) ⟨rfl,rfl⟩ ?_
  rintro i _ _ next hi ⟨rfl,rfl⟩ hnx
  refine⟨_,t,b7,0,_,rfl,?_⟩
  by_cases hlt:i<d.length
  ·refine aM (decide_eq_true (by omega)) ?_
   obtain⟨y,hy⟩: ∃y,d[i]?=some y:=⟨_,List.getElem?_eq_getElem hlt⟩
   obtain⟨b,o,ha,hc⟩:=it.get (Ia hy)
   refine⟨b,o,ha,by omega,by omega,_,by rw [Int.toNat_natCast];exact hc,?_⟩
   refine aE (by rw [beq_eq_false_iff_ne];intro q;exact hm (List.mem_of_getElem? (by rw [hy];exact congrArg some (by omega)))) ?_
   rw [aC (by omega)]
   exact hnx hlt _ _ ⟨rfl,rfl⟩
  refine aE (decide_eq_false (by omega)) ?_
  clear hnx
  repeat' (refine kr_ ?_)
  rw [VE (by omega) (by omega)]
  obtain⟨b,o,ha,i0,i1,c0,c1,c2⟩:=zi (hs0.mono KL.le) hn
  refine⟨b,o,ha,i0,i1,_,c1,?_⟩
  refine ih1 (g:=g0) hs0 (by omega) (by omega) KL oX fun t1 X1 h2 oX1 K2=>⟨_,rfl,?_⟩
  clear c0 c1 c2 KL
  repeat' (refine kr_ ?_)
  obtain⟨b,o,ha,i0,i1,c0,c1,c2⟩:=zi (hs0.mono K2.le) hn
  refine⟨b,o,ha,i0,i1,_,c2,?_⟩
  refine ih2 (g:=g0) hs0 (by omega) (by omega) K2 oX1 fun t2 X2 h3 oX2 K3=>⟨_,rfl,?_⟩
  clear K2 oX1 c0 c1 c2
  have lX:=oX2.1
  simp only [List.length_map,aY,Nat.mul_one]at lX
  refine Kn.al K3 fun b55 h4 K4 l4 hb55=>?_
  have f55:=K4.at (.head _)
  rw [show X2=X2++ []from(List.append_nil _).symm]at K4
  refine Kn.growIn (A:= [_]) K4 oX2 (by omega) (by omega) (by omega) ⟨b55,0,rfl,ay f55⟩ rfl rfl fun t3 X3 h5 hn3 oX3 K5 l5=>?_
  rw [List.append_nil]at K5
  refine k t3 X3 h5 ?_ (K5.tl.weak KA.le)
  have e:(VL d2).map I++ [I (r:Int)]=(VL (d2++ [r])).map I:=by simp [VL]
  rw [<-e];exact oX3
set_option maxHeartbeats 400000 in
theorem AL {h:Hp} {N r:Nat} {s:Sl} {ns:List Nd} {f:Nat->Bool} {R:Value->Hp->Prop} (hs:SlC h s 3 (bD ns)) (D:CA N ns r f) (k:R (.bool true) h):oE #[.agg #[I N,s.v,I r]] h R:=by
 refine ACalls.drop (L4 ?_)
 refine uf_ ?_
 have ls:=Lu hs
 have hl:=D.len
 have hN:=D.vars
 have hr:=D.root
 (with_reducible apply Kn.al);(exact Kn.nil h);(intro b5 h1 K1 l1 hb5)
 refine ap (fun J=>J false h1) (aE rfl ?_) (fun J hJ=>?_)
 rotate_left
 ·(refine kr_ ?_)
  refine EB ⟨_,rfl,aE (by rw [decide_eq_true ⟨by omega,by omega⟩];rfl) ?_⟩
  (refine kr_ ?_)
  refine aE (decide_eq_false (by omega)) ?_
  repeat' (refine kr_ ?_)
  rw [bU (by omega) (by omega)]
  refine dH ⟨_,rfl,?_⟩
  rw [decide_eq_true ⟨by omega,by omega⟩];exact hJ
 refine av ns.length (fun i vs h'=>vs= [.pointer (some ⟨b5,0,none⟩),I (i:Nat)]/\Kn h h' [(b5, .inl ⟨[I N,s.v,I r],3,false⟩)]) ⟨rfl,K1⟩ ?_
 clear K1 l1 hb5 h1
 rintro i _ h1 next hi ⟨rfl,K1⟩ hnx
 refine⟨b5,0,_,rfl,?_⟩
 (refine kr_ ?_)
 by_cases hlt:i<ns.length
 rotate_left
 ·refine aE (decide_eq_false (by omega)) ?_
  repeat' (refine kr_ ?_)
  refine LZ (t:=⟨none,0,0⟩) (X:= []) D.wd hl D.ord (g:=h1) (hs.mono K1.le) D.root (by rw [xF];exact hl) (Kn.nil h1) (cD 1) fun t X h2 oX K2=>⟨_,rfl,?_⟩
  have K3:=K1.mono K2.le
  have it:IntS h2 t (VL (vo ns.length)):=(oX.buf fun e he=>K2.mem e he).slc_of (by have:=oX.1;simp only [List.length_map,aY,xF]at this;omega)
  have itl:=it.len
  rw [aY,xF]at itl
  clear K1 hnx
  refine av ns.length (fun j vs h'=>vs= [.pointer (some ⟨b5,0,none⟩),t.v,I (j:Nat)]/\h'=h2) ⟨rfl,rfl⟩ ?_
  rintro j _ _ next hj ⟨rfl,rfl⟩ hnx
  refine⟨b5,0,t,_,rfl,?_⟩
  by_cases hlt:j<ns.length
  ·refine aM (decide_eq_true (by omega)) ?_
   have hy:(vo ns.length)[j]?=some (j+2):=by unfold vo;rw [List.getElem?_map,List.getElem?_range hlt];rfl
   obtain⟨b,o,ha,hc⟩:=it.get (Ia hy)
   refine⟨b,o,ha,by omega,by omega,_,by rw [Int.toNat_natCast];exact hc,?_⟩
   refine aE (by rw [bU (by omega) (by omega),bne_eq_false_iff_eq];omega) ?_
   rw [aC (by omega)]
   exact hnx hlt _ _ ⟨rfl,rfl⟩
  refine aE (decide_eq_false (by omega)) ?_
  (refine kr_ ?_)
  rw [show ((t.n:Int)==(s.n:Int))=true by rw [beq_iff_eq];omega]
  exact⟨h,K3.le,k⟩
 refine aM (decide_eq_true (by omega)) ?_
 obtain⟨nd,hn⟩: ∃nd,ns[i]?=some nd:=⟨_,List.getElem?_eq_getElem hlt⟩
 obtain⟨w1,w2,w3,w4,w5,w6,w7⟩:=D.wd i nd hn
 (refine kr_ ?_)
 obtain⟨b,o,ha,i0,i1,c0,c1,c2⟩:=zi hs hn
 have xb:=gX c0
 refine⟨b,o,ha,i0,i1,_,K1.le.cell c0,_,K1.le.cell c1,_,K1.le.cell c2,?_⟩
 refine Kn.al K1 fun b41 h2 K2 l2 hb41=>?_
 clear K1
 refine kw_ ?_
 intro h3 K3 _
 simp only [cz,List.set_cons_zero,List.set_cons_succ,Nat.zero_add,Nat.reduceAdd]at K3
 clear K2
 refine ap (fun J=>J false h3) (aE rfl ?_) (fun J hJ=>?_)
 ·refine av i (fun j vs h'=>vs= [.pointer (some ⟨b5,0,none⟩),I (i:Nat), .pointer (some ⟨b41,0,none⟩),I (j:Nat)]/\h'=h3) ⟨rfl,rfl⟩ ?_
  rintro j _ _ next2 hj ⟨rfl,rfl⟩ hnx2
  refine⟨b5,0,_,b41,0,_,rfl,?_⟩
  by_cases hlj:j<i
  ·refine aM (decide_eq_true (by omega)) ?_
   obtain⟨me,hme⟩: ∃me,ns[j]?=some me:=⟨_,List.getElem?_eq_getElem (by omega)⟩
   (refine kr_ ?_)
   obtain⟨b',o',ha',j0,j1,e0,e1,e2⟩:=zi (hs.mono K3.le) hme
   refine⟨b',o',ha',j0,j1,_,e0,_,e1,_,e2,?_⟩
   repeat' (refine kr_ ?_)
   refine aE ?_ ?_
   ·rw [Bool.eq_false_iff]
    intro q
    simp only [Bool.and_eq_true,beq_iff_eq,Bool.and_true]at q
    refine w7 j hlj ?_
    rw [hme]
    obtain⟨a1,a2,a3⟩:=me
    obtain⟨d1,d2,d3⟩:=nd
    dsimp only at q
    rw [show a1=d1 by omega,show a2=d2 by omega,show a3=d3 by omega]
   ·rw [aC (by omega)]
    exact hnx2 hlj _ _ ⟨rfl,rfl⟩
  ·refine aE (decide_eq_false (by omega)) ?_
   rw [aC (by omega)]
   exact hnx hlt _ _ ⟨rfl,K3.tl⟩
 ·repeat' (refine kr_ ?_)
  rw [bU (by omega) (by omega)]
  refine dH ⟨_,rfl,aE (by rw [decide_eq_true ⟨by omega,by omega⟩];rfl) ?_⟩
  repeat' (refine kr_ ?_)
  refine aE (by rw [beq_eq_false_iff_ne];omega) ?_
  repeat' (refine kr_ ?_)
  rw [bU (by omega) (by omega)]
  refine dH ⟨_,rfl,aE (by rw [decide_eq_true ⟨by omega,by omega⟩];rfl) ?_⟩
  repeat' (refine kr_ ?_)
  refine dH ⟨_,rfl,aE (by rw [decide_eq_true ⟨by omega,by omega⟩];rfl) ?_⟩
  repeat' (refine kr_ ?_)
  refine Bo (hs.mono K3.le) hl (by omega) ⟨_,rfl,?_⟩
  repeat' (refine kr_ ?_)
  refine aE (decide_eq_false (by omega)) ?_
  repeat' (refine kr_ ?_)
  refine Bo (hs.mono K3.le) hl (by omega) ⟨_,rfl,?_⟩
  repeat' (refine kr_ ?_)
  rw [decide_eq_false (by omega)]
  exact hJ
def jW (n:Nat) (f:Nat->Bool):Nat:=((List.range n).filter f).length
theorem iL (n:Nat) (f:Nat->Bool):jW (n+1) f=jW n f+(if f n then 1 else 0):=by
 unfold jW
 rw [List.range_succ,List.filter_append,List.length_append]
 cases hf:f n<;>simp [List.filter_cons,hf]
theorem yH (n:Nat) (f:Nat->Bool):jW n f<=n:=by
 have:=List.length_filter_le f (List.range n)
 rwa [List.length_range]at this
theorem jl {h:Hp} {N r:Nat} {s:Sl} {ns:List Nd} {f:Nat->Bool} {R:Value->Hp->Prop} (hs:SlC h s 3 (bD ns)) (D:CA N ns r f) (k:R (I (jW (2^N) f)) h):eG #[.agg #[I N,s.v,I r]] h R:=by
 refine ACalls.drop (Fs ?_)
 refine uf_ ?_
 have hN:=D.vars
 have hp:2^N<=2^13:=Nat.pow_le_pow_right (by omega) hN
 (with_reducible apply Kn.al);(exact Kn.nil h);(intro b5 h1 K1 l1 hb5)
 repeat' (refine kr_ ?_)
 refine AL (hs.mono K1.le) D ⟨_,rfl,aE rfl ?_⟩
 refine av (2^N) (fun i vs h'=>vs= [.pointer (some ⟨b5,0,none⟩),I (jW i f:Nat),I (i:Nat)]/\h'=h1) ⟨rfl,rfl⟩ ?_
 rintro i _ _ next hi ⟨rfl,rfl⟩ hnx
 refine⟨b5,0,_,_,rfl,?_⟩
 repeat' (refine kr_ ?_)
 rw [cu (by omega),if_neg (by omega),bG (by omega)]
 have hc:=yH i f
 by_cases hlt:i<2^N
 ·refine aM (decide_eq_true (by omega)) ?_
  repeat' (refine kr_ ?_)
  refine AH (hs.mono K1.le) D.wd hN D.len D.root (D.ev i hlt) ⟨_,rfl,?_⟩
  refine pM ⟨_,rfl,?_⟩
  rw [aC (by omega)]
  refine hnx hlt _ _ ⟨?_,rfl⟩
  rw [iL]
  cases f i
  ·rw [if_neg (by simp),if_neg (by simp),Int.add_zero,eM (by omega)];rfl
  ·rw [if_pos rfl,if_pos rfl,aC (by omega)]
 ·obtain rfl:i=2^N:=by omega
  exact aE (decide_eq_false (by omega)) ⟨h,K1.le,k⟩
theorem qM {v:Nat} {f:Nat->Bool} (h:(cQ v f).ok=true): ∃r:Nat,(cQ v f).v=(v:Nat)/\(cQ v f).r=r/\CA v (cQ v f).ns r f:=by
 unfold cQ at h⊢
 by_cases hv:0<=(v:Int)/\(v:Int)<=13
 ·rw [if_pos hv]at h⊢
  rw [Int.toNat_natCast]at h⊢
  cases hd:pq v f with
  |none=>rw [hd]at h;cases h
  |some r=>
   obtain⟨w1,w2,w3,w4,w5⟩:=VD hd
   exact⟨r.1,rfl,rfl,w1,w2,w3,w4,w5,by omega⟩
 ·rw [if_neg hv]at h;cases h
theorem qk {v:Nat} {f:Nat->Bool} (h:v<=8):(cQ v f).ok=true:=by
 unfold cQ
 rw [if_pos ⟨by omega,by omega⟩,Int.toNat_natCast]
 unfold pq
 have:=tL v f 0 []
 have hp:2^v<=2^8:=Nat.pow_le_pow_right (by omega) h
 rw [if_neg (by simp at this;omega)]
theorem lb {n:Nat} {f g:Nat->Bool} (h: ∀i,i<n->f i=g i):jW n f=jW n g:=by
 induction n with
 |zero=>rfl
 |succ n ih=>rw [iL,iL,ih fun i hi=>h i (by omega),h n (by omega)]
theorem Uz (x:Nat) (f:Nat->Bool): ∀y,jW (x+y) f=jW x f+jW y fun i=>f (x+i):=by
 intro y
 induction y with
 |zero=>rfl
 |succ y ih=>rw [<-Nat.add_assoc,iL,ih,iL];omega
theorem JU (n:Nat):jW n (fun _=>true)=n:=by
 induction n with
 |zero=>rfl
 |succ n ih=>rw [iL,ih];rfl
theorem vO (n:Nat):jW n (fun _=>false)=0:=by
 induction n with
 |zero=>rfl
 |succ n ih=>rw [iL,ih];rfl
theorem Wx {n y:Nat} (h:y<n):jW n (fun x=>decide (x=y))=1:=by
 induction n with
 |zero=>omega
 |succ n ih=>
  rw [iL]
  by_cases e:n=y
  ·subst e
   rw [lb (g:=fun _=>false) fun i hi=>decide_eq_false (by omega),vO];simp
  ·rw [ih (by omega)];simp [e]
theorem Td {A:Nat} (hA:0<A) (P Q:Nat->Bool): ∀m,jW (A*m) (fun c=>P (c%A)&&Q (c/A))=jW A P*jW m Q:=by
 intro m
 induction m with
 |zero=>rfl
 |succ m ih=>
  rw [Nat.mul_succ,Uz,ih,iL,Nat.mul_add]
  congr 1
  rw [lb (g:=fun i=>P i&&Q m) fun i hi=>by rw [Nat.mul_add_mod,Nat.mod_eq_of_lt hi,Nat.mul_add_div hA,Nat.div_eq_of_lt hi,Nat.add_zero]]
  cases Q m
  ·rw [lb (g:=fun _=>false) fun i _=>Bool.and_false _,vO];rfl
  ·rw [lb (g:=P) fun i _=>Bool.and_true _];simp
def okR (l:List NodeP) (f:Nat->Option (List Nat)):List Nat->Nat->Bool
 | [],_=>true
 |p::ps,c=>(match f p with|some v=>decide (lv (cj l p) (aK l p) c=v)|none=>true)&&okR l f ps (c/2^nbA l p)
def J9 (l:List NodeP) (f:Nat->Option (List Nat)) (ps:List Nat):Nat:=(ps.map fun p=>if(f p).isSome then 0 else nbA l p).sum
theorem Xw {l:List NodeP} {f:Nat->Option (List Nat)}: ∀{ps:List Nat},(∀p∈ps,∀v,f p=some v->v.length=aK l p/\ ∀x∈v,x<2^cj l p)->jW (2^cC l ps) (okR l f ps)=2^J9 l f ps:=by
 intro ps
 induction ps with
 |nil=>intro _;rfl
 |cons p ps ih=>
  intro h
  have ih':=ih fun q hq=>h q (List.mem_cons_of_mem _ hq)
  have hp:=h p (List.mem_cons_self ..)
  rw [pU,Nat.pow_add]
  have e:okR l f (p::ps)=fun c=>(match f p with|some v=>decide (lv (cj l p) (aK l p) (c%2^nbA l p)=v)|none=>true)&&okR l f ps (c/2^nbA l p):=by
   funext c
   rw [show lv (cj l p) (aK l p) (c%2^nbA l p)=lv (cj l p) (aK l p) c from F4 _ _ _ _ (Nat.le_refl _)]
   rfl
  rw [e]
  have hs:=Td (Nat.two_pow_pos (nbA l p)) (fun x=>match f p with|some v=>decide (lv (cj l p) (aK l p) x=v)|none=>true) (okR l f ps) (2^cC l ps)
  rw [hs,ih']
  have ef:J9 l f (p::ps)=(if(f p).isSome then 0 else nbA l p)+J9 l f ps:=by unfold J9;rw [List.map_cons,List.sum_cons]
  rw [ef,Nat.pow_add]
  congr 1
  cases hf:f p with
  |none=>simp only [Option.isSome_none];rw [JU];simp
  |some v=>
   obtain⟨h1,h2⟩:=hp v hf
   have hlt:=xJ h2
   rw [h1]at hlt
   replace hlt:fP (cj l p) v<2^nbA l p:=hlt
   simp only [Option.isSome_some]
   rw [lb (g:=fun x=>decide (x=fP (cj l p) v)) fun x hx=>?_,Wx hlt]
   ·rfl
   ·rw [Bool.eq_iff_iff,decide_eq_true_eq,decide_eq_true_eq]
    constructor
    ·intro q
     rw [<-q,Dg]
     exact(Nat.mod_eq_of_lt hx).symm
    ·intro q
     rw [q,<-h1,Dj h2]
theorem Yr {l:List NodeP} {f:Nat->Option (List Nat)}: ∀{ps:List Nat} {c:Nat},okR l f ps c=true↔ ∀(i p:Nat),ps[i]?=some p-> ∀v,f p=some v->(fu l ps c).getD i []=v:=by
 intro ps
 induction ps with
 |nil=>intro c;simp [okR]
 |cons p ps ih=>
  intro c
  rw [pX,okR,DI,Bool.and_eq_true,ih]
  constructor
  ·rintro ⟨h1,h2⟩ i q hq v hv
   cases i with
   |zero=>
    simp at hq;subst hq
    rw [hv]at h1
    simpa using h1
   |succ i=>
    rw [List.getD_cons_succ,<-pX]
    exact h2 i q (by simpa using hq) v hv
  ·intro h
   refine⟨?_,fun i q hq v hv=>?_⟩
   ·cases hf:f p with
    |none=>rfl
    |some v=>exact decide_eq_true (h 0 p rfl v hf)
   ·have:=h (i+1) q (by simpa using hq) v hv
    rwa [List.getD_cons_succ,<-pX]at this
theorem Qo {ps:List Nat} (nd:ps.Nodup) {q:Nat} (hq:q∈ps) (f:Nat->Nat):(ps.map fun p=>if q=p then f p else 0).sum=f q:=by
 induction ps with
 |nil=>cases hq
 |cons p ps ih=>
  rw [List.nodup_cons]at nd
  rw [List.map_cons,List.sum_cons]
  by_cases e:q=p
  ·subst e
   rw [if_pos rfl]
   have:(ps.map fun p=>if q=p then f p else 0).sum=0:=by
    have hz: ∀(l:List Nat),q∉l->(l.map fun p=>if q=p then f p else 0).sum=0:=by
     intro l
     induction l with
     |nil=>intro _;rfl
     |cons a l ih=>
      intro h
      rw [List.map_cons,List.sum_cons,if_neg fun e=>h (by rw [e];exact List.mem_cons_self ..),ih fun hm=>h (List.mem_cons_of_mem _ hm)]
    exact hz ps nd.1
   omega
  ·rw [if_neg e,ih nd.2 (by rcases List.mem_cons.1 hq with h|h;exact absurd h e;exact h)];omega
def C8 (l:List NodeP) (binds:List BindP):Nat:=(binds.map fun b=>nbA l b.state.toNat).sum
theorem Ro (ps:List Nat) (f g:Nat->Nat):(ps.map fun p=>f p+g p).sum=(ps.map f).sum+(ps.map g).sum:=by
 induction ps with
 |nil=>rfl
 |cons p ps ih=>simp only [List.map_cons,List.sum_cons,ih];omega
theorem Tf {l:List NodeP} {ps:List Nat} (nd:ps.Nodup): ∀{binds:List BindP},(binds.map (·.state)).Nodup->(∀b∈binds,∃p:Nat,b.state=(p:Int)/\p∈ps)->(ps.map fun p=>if(cf binds p).isSome then nbA l p else 0).sum=C8 l binds:=by
 intro binds
 induction binds with
 |nil=>
  intro _ _
  have:(fun p=>if(cf [] p).isSome then nbA l p else 0)=fun _=>0:=by funext p;rfl
  rw [this]
  show _=0
  induction ps with
  |nil=>rfl
  |cons p ps ih=>
   rw [List.map_cons,List.sum_cons,ih (List.nodup_cons.1 nd).2 (fun b hb=>nomatch hb)]
   rfl
 |cons b r ih=>
  intro h1 h2
  rw [List.map_cons,List.nodup_cons]at h1
  obtain⟨q,hq,hm⟩:=h2 b (List.mem_cons_self ..)
  have e:(fun p=>if(cf (b::r) p).isSome then nbA l p else 0)=fun p=>(if q=p then nbA l p else 0)+(if(cf r p).isSome then nbA l p else 0):=by
   funext p
   rw [vB]
   by_cases hp:q=p
   ·subst hp
    rw [if_pos hq,if_pos rfl]
    have:cf r q=none:=by
     cases hx:cf r q with
     |none=>rfl
     |some k=>
      obtain⟨b',hb',hs',_⟩:=fT hx
      exact absurd (List.mem_map.2 ⟨b',hb',hs'.trans hq.symm⟩) h1.1
    rw [this];rfl
   ·rw [if_neg (show¬b.state=(p:Int) by omega),if_neg hp,Nat.zero_add]
  rw [e,Ro,Qo nd hm,ih h1.2 fun b' hb'=>h2 b' (List.mem_cons_of_mem _ hb')]
  unfold C8
  rw [List.map_cons,List.sum_cons,hq,Int.toNat_natCast]
theorem H3 {binds:List BindP} (h:jD (binds.map (·.state))=false):(binds.map (·.state)).Nodup:=by
 rw [List.nodup_iff_pairwise_ne,List.pairwise_map,List.pairwise_iff_getElem]
 intro i j hi hj hij e
 refine CF h (List.getElem?_eq_getElem hj) binds[i] ?_ e
 refine List.mem_of_getElem? (i:=i) ?_
 rw [List.getElem?_take,if_pos hij,List.getElem?_eq_getElem hi]
theorem Tj {m:ah} (g:dj m): ∃d:Nat,d+C8 m.nodes m.inits=ak m.nodes 36/\jW (2^ak m.nodes 36) (aG m).begins=2^d:=by
 have hb: ∀b∈m.inits,∃p:Nat,b.state=(p:Int)/\p∈stP m:=fun b hb=>by
  obtain⟨p,h1,h2,_⟩:=LU g b hb
  exact⟨p,h1,h2⟩
 have hs:=Tf (l:=m.nodes) (CD m.nodes 36) (H3 (qu g.twice).2.1) hb
 refine⟨J9 m.nodes (ez m) (stP m),?_,?_⟩
 ·rw [<-hs,<-fq g]
  unfold J9 cC
  rw [<-Ro]
  congr 1
  refine List.map_congr_left fun p _=>?_
  have:(ez m p).isSome=(cf m.inits p).isSome:=by unfold ez;rw [Option.isSome_map]
  rw [this]
  cases (cf m.inits p).isSome<;>simp [nbA]
 ·rw [<-Xw fun p _ v hv=>rV g hv,fq g]
  refine lb fun i hi=>?_
  rw [Bool.eq_iff_iff,vd g,Yr]
theorem RL {l:List NodeP} {binds:List BindP} {i:Nat} {b:BindP} (h:binds[i]?=some b):C8 l (binds.take (i+1))=C8 l (binds.take i)+nbA l b.state.toNat:=by
 have hlt:=get_lt h
 rw [List.getElem?_eq_getElem hlt]at h
 unfold C8
 rw [List.take_succ_eq_append_getElem hlt,Option.some.inj h,List.map_append,List.sum_append];simp
theorem Ra (l:List NodeP) (binds:List BindP) (i:Nat):C8 l (binds.take i)<=C8 l binds:=by
 conv=>rhs;rw [<-List.take_append_drop i binds]
 unfold C8
 rw [List.map_append,List.sum_append];omega
theorem Sx {m:ah} (h:m.holds= []) (c:Nat):(aG m).hold c=true:=by
 show gY m _=true
 unfold gY
 rw [h];rfl
theorem R2 {v:Nat} {f g:Nat->Bool} (h: ∀i,i<2^v->f i=g i):cQ v f=cQ v g:=by
 unfold cQ pq
 rw [Int.toNat_natCast,FE v 0 [] h]
set_option maxHeartbeats 2000000 in
theorem FnBegin_spec {h:Hp} {s:Sl} {bs:List Nat} {R:Value->Hp->Prop} (hcap:s.n<=s.c) (hs:ByteS h s bs) (k:R (.bool true) h):yC #[s.v] h R:=by
 refine ACalls.drop (Gp ?_)
 refine uf_ ?_
 refine ac (fun _=>⟨h,Hp.le_refl _,k⟩) (fun _=>?_)
 refine fE hcap hs fun h1 M m l1 hM hm hc=>⟨_,_,_,_,_,rfl,?_⟩
 have g:=cr hc
 have n8:=g.n8
 have k5:=g.k5
 have hil:=g.il
 have fin: ∀h' L,Kn h1 h' L-> ∃h'',h''.le h'/\R (.bool true) h'':=fun h' L K=>⟨h,Hp.le_trans l1 K.le,k⟩
 (with_reducible apply Kn.al);(exact Kn.nil h1);(intro b14 h2 K1 l2 hb14)
 refine jU (M':=M) K1 (by((focus ((repeat first|exact .head|apply Upd.tail);done)))) rfl fun h3 K3=>?_
 clear K1
 have f1:(iC m).ok=true/\ ∃r:Nat,(iC m).v=(ak m.nodes 36:Nat)/\(iC m).r=r/\CA (ak m.nodes 36) (iC m).ns r (aG m).begins:=by
  unfold iC
  rw [if_pos hc]
  exact⟨qk n8,qM (qk n8)⟩
 have f2:m.holds= []-> ∃r:Nat,(dL m).v=(ak m.nodes 36+ak m.nodes 35:Nat)/\(dL m).r=r/\CA (ak m.nodes 36+ak m.nodes 35) (dL m).ns r fun _=>true:=by
  intro e
  unfold dL
  rw [if_pos hc]
  have ee:cQ (((aG m).n+(aG m).k:Nat):Int) (aG m).hold=cQ ((ak m.nodes 36+ak m.nodes 35:Nat):Int) fun _=>true:=R2 fun i _=>Sx e i
  rw [ee]
  refine qM ?_
  rw [xA,if_pos ⟨by omega,by omega⟩]
 obtain⟨d,hd,hcnt⟩:=Tj g
 have sH: ∀{h':Hp} {R':Value->Hp->Prop},aO h' M m->(∀s h'',h'.le h''->Own (h''.sub h') s 3 (bD (dL m).ns)->R' (xd (dL m) s) h'')->jG #[aQ M] h' R':=fun a b=>tE a hm b
 have iH: ∀{h':Hp} {R':Value->Hp->Prop},aO h' M m->(∀s h'',h'.le h''->Own (h''.sub h') s 3 (bD (dL m).ns)->R' (xd (dL m) s) h'')->jI #[aQ M] h' R':=fun a b=>tp a hm b
 repeat' (refine kr_ ?_)
 refine tJ (hM.mono K3.le) hm fun d1 h4 l4 o1=>⟨_,_,_,_,rfl,?_⟩
 generalize iC m=B1 at*
 generalize dL m=B2 at*
 have o1':=o1.slc.mono (sub_le _ _)
 have K4:=K3.mono l4
 clear K3 o1 l4
 refine Kn.al K4 fun b31 h5 K5 l5 hb31=>?_
 refine kw_ ?_
 intro h6 K6 kp6
 simp only [cz,List.set_cons_zero,List.set_cons_succ,Nat.zero_add,Nat.reduceAdd]at K6
 have o16:=o1'.mono (cL hb31 l5 kp6)
 clear K4 K5 kp6 l5 hb31 o1'
 repeat' (refine kr_ ?_)
 refine iH (hM.mono K6.le) fun d2 h7 l7 o2=>⟨_,_,_,_,rfl,?_⟩
 have o2':=o2.slc.mono (sub_le _ _)
 have K7:=K6.mono l7
 replace o16:=o16.mono l7
 clear K6 o2 l7
 refine Kn.al K7 fun b48 h8 K8 l8 hb48=>?_
 refine kw_ ?_
 intro h9 K9 kp9
 simp only [cz,List.set_cons_zero,List.set_cons_succ,Nat.zero_add,Nat.reduceAdd]at K9
 have l79:=cL hb48 l8 kp9
 have o19:=o16.mono l79
 have o29:=o2'.mono l79
 clear K7 K8 kp9 l8 hb48 o2' o16 l79
 repeat' (refine kr_ ?_)
 refine jw (hM.mono K9.le) hm hc ⟨_,_,rfl,?_⟩
 have hM9:=hM.mono K9.le
 refine av m.inits.length (fun i vs h'=>vs= [.pointer (some ⟨b14,0,none⟩), .pointer (some ⟨b31,0,none⟩), .bool B1.ok, .pointer (some ⟨b48,0,none⟩), .bool B2.ok,I ((ak m.nodes 36:Nat)-(C8 m.nodes (m.inits.take i):Nat):Int),I (ak m.nodes 35:Nat),I (i:Nat)]/\h'=h9)
  ⟨by show _= [_,_,_,_,_,I ((ak m.nodes 36:Nat)-((0:Nat):Int)),_,_];rw [show ((ak m.nodes 36:Nat):Int)-((0:Nat):Int)=(ak m.nodes 36:Nat) by omega];rfl,rfl⟩ ?_
 rintro i _ _ next hi ⟨rfl,rfl⟩ hnx
 refine⟨b14,0,b31,0,_,b48,0,_,_,_,_,rfl,?_⟩
 (refine kr_ ?_)
 have hin:=hM9.inits.len
 have hle:=Ra m.nodes m.inits i
 by_cases hlt:i<m.inits.length
 ·refine aM (decide_eq_true (by omega)) ?_
  obtain⟨b,hb⟩: ∃b,m.inits[i]?=some b:=⟨_,List.getElem?_eq_getElem hlt⟩
  obtain⟨p,ep,hp,_⟩:=LU g b (List.mem_of_getElem? hb)
  have hpm:=cO g 36 p hp
  obtain⟨bi,oi,hai,cx1,cx2⟩:=hM9.inits.at hb
  repeat' (refine kr_ ?_)
  refine⟨bi,oi,hai,by omega,by omega,_,by rw [Int.toNat_natCast];exact cx1,?_⟩
  obtain⟨bn,on,han,hpn',c6,c7,w1,w16⟩:=hM9.nodes.sortc2 hpm g.ok
  rw [ep]
  refine⟨bn,on,han,by omega,hpn',_,c6,_,c7,?_⟩
  refine ii ⟨_,rfl,?_⟩
  have e1:dR ⟨(aA m.nodes p).idx,(cj m.nodes p:Nat)⟩=nbA m.nodes p:=by
   unfold dR nbA
   rw [qr g.ok hpm,Int.toNat_natCast,Nat.mul_comm]
  have st:=RL (l:=m.nodes) hb
  have hle1:=Ra m.nodes m.inits (i+1)
  rw [ep,Int.toNat_natCast]at st
  rw [e1,aC (by omega),bU (by omega) (by omega)]
  refine hnx hlt _ _ ⟨?_,rfl⟩
  rw [show ((ak m.nodes 36:Nat):Int)-((C8 m.nodes (m.inits.take (i+1)):Nat):Int)=((ak m.nodes 36:Nat):Int)-((C8 m.nodes (m.inits.take i):Nat):Int)-((nbA m.nodes p:Nat):Int) by omega]
 refine aE (decide_eq_false (by omega)) ?_
 obtain rfl:i=m.inits.length:=by omega
 clear hnx hle hi hlt
 rw [List.take_of_length_le (Nat.le_refl _),show ((ak m.nodes 36:Nat):Int)-((C8 m.nodes m.inits:Nat):Int)=(d:Nat) by omega]
 repeat' (refine kr_ ?_)
 refine sH (hM.mono K9.le) fun d3 h10 l10 o3=>⟨_,_,_,_,rfl,?_⟩
 have K10:=K9.mono l10
 replace o19:=o19.mono l10
 replace o29:=o29.mono l10
 clear K9 o3 l10
 refine Kn.al K10 fun b109 h11 K11 l11 hb109=>?_
 refine kw_ ?_
 intro h12 K12 kp12
 have l1012:=cL hb109 l11 kp12
 replace o19:=o19.mono l1012
 replace o29:=o29.mono l1012
 clear K10 K11 kp12 l11 hb109 l1012
 replace K12:=K12.tl
 obtain⟨ok1,r1,v1,e1,D1⟩:=f1
 refine ap (fun J=>J false h12) (aE rfl ?_) (fun J hJ=>?_)
 rotate_left
 ·refine aE (by rw [ok1];rfl) (aE (by simp) ?_)
  repeat' (refine kr_ ?_)
  rw [v1,e1]
  refine jl o19 D1 ⟨_,rfl,?_⟩
  rw [cu (by omega),if_neg (by omega),bG (by omega),hcnt,bne_self_eq_false]
  exact hJ
 repeat' (refine kr_ ?_)
 refine jw (hM.mono K12.le) hm hc ⟨_,_,rfl,?_⟩
 (refine kr_ ?_)
 have hhn:=(hM.mono K12.le).holds.len
 refine ac (fun _=>fin _ _ K12) (fun e=>?_)
 have hh0:m.holds= []:=List.eq_nil_of_length_eq_zero (by have:=of_decide_eq_false e;omega)
 obtain⟨r2,v2,e2,D2⟩:=f2 hh0
 repeat' (refine kr_ ?_)
 rw [v2,e2]
 refine jl o29 D2 ⟨_,rfl,?_⟩
 rw [show W (((ak m.nodes 36:Nat):Int)+((ak m.nodes 35:Nat):Int))=((ak m.nodes 36+ak m.nodes 35:Nat):Int) by rw [bU (by omega) (by omega)];omega]
 rw [cu (by omega),if_neg (by omega),bG (by omega),JU,beq_self_eq_true]
 exact fin _ _ K12
end Go.Lead
