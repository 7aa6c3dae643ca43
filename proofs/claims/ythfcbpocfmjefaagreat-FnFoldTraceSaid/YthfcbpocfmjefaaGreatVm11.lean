/- The abstract walk, part 11: parts of memory, and lists that grow; no statement of the program. -/
import Derived.Test.YthfcbpocfmjefaaGreatVm10
namespace Go.Lead
open Go
set_option linter.unusedSimpArgs false
set_option linter.unusedVariables false
def Hp.off (h:Hp) (b:Nat):Hp:=h.set b none
def Hp.sub (h' h:Hp):Hp:=fun c=>match h c with|none=>h' c|some _=>none
theorem Gl (h:Hp) (b:Nat):(h.off b).le h:=by
 intro c x e;simp only [Hp.off,Hp.set]at e;split at e
 ·cases e
 ·exact e
theorem zE (h:Hp) (b:Nat) (cs:List Value) (n:Nat):(h.row b cs n).off b=h.off b:=by
 funext c;simp only [Hp.row,Hp.off,Hp.set];split<;>rfl
theorem aiM (h:Hp) (b:Nat) (x:Option Blk):(h.set b x).off b=h.off b:=by
 funext c;simp only [Hp.off,Hp.set];split<;>rfl
theorem zC {h h':Hp} {b:Nat} (hb:h b=none) (l:h.le h'):h.le (h'.off b):=by
 intro c x e;simp only [Hp.off,Hp.set];split
 ·rename_i hc;subst hc;rw [hb]at e;cases e
 ·exact l _ _ e
theorem Kl {h h':Hp} (b:Nat) (l:h.le h'):(h.off b).le (h'.off b):=by
 intro c x e;simp only [Hp.off,Hp.set]at e⊢;split
 ·rename_i hc;simp [hc]at e
 ·rename_i hc;simp [hc]at e;exact l _ _ e
theorem Kd {h:Hp} {b:Nat} (hb:h b=none):h.off b=h:=by
 funext c;simp only [Hp.off,Hp.set];split
 ·rename_i hc;rw [hc,hb]
 ·rfl
theorem Jb (h:Hp) (b:Nat) (cs:List Value) (n:Nat):(h.off b).le (h.row b cs n):=zE h b cs n▸Gl _ b
theorem ve (h:Hp) (b:Nat):h.off b b=none:=by simp [Hp.off,Hp.set]
theorem abh (h:Hp) (b c:Nat):(h.off b).off c=(h.off c).off b:=by
 funext d;simp only [Hp.off,Hp.set];split<;>split<;>rfl
theorem sub_le (h' h:Hp):(h'.sub h).le h':=by
 intro c x e;simp only [Hp.sub]at e;split at e
 ·exact e
 ·cases e
theorem eV {h' h'':Hp} (h:Hp) (l:h'.le h''):(h'.sub h).le (h''.sub h):=by
 intro c x e;simp only [Hp.sub]at e⊢;split at e
 ·exact l _ _ e
 ·cases e
theorem sQ {h1 h2:Hp} (h':Hp) (l:h1.le h2):(h'.sub h2).le (h'.sub h1):=by
 intro c x e;simp only [Hp.sub]at e⊢;split at e
 ·rename_i h0
  cases h3:h1 c with
  |none=>exact e
  |some y=>rw [l _ _ h3]at h0;cases h0
 ·cases e
theorem lz {h' h:Hp} {b:Nat} (hb:h b=none):h'.sub h b=h' b:=by simp [Hp.sub,hb]
theorem afJ {h' h:Hp} {b:Nat} {x:Blk} (hb:h b=some x):(h'.sub h).le (h'.off b):=by
 intro c y e;simp only [Hp.sub]at e;simp only [Hp.off,Hp.set];split
 ·rename_i hc;subst hc;rw [hb]at e;cases e
 ·split at e
  ·exact e
  ·cases e
theorem acu {h' h h0:Hp} {b:Nat} {x:Blk} (l:h0.le h) (hb:h b=some x):(h'.sub h).le ((h'.sub h0).off b):=by
 intro c y e
 have e2:=sQ h' l _ _ e
 simp only [Hp.off,Hp.set];split
 ·rename_i hc;subst hc;simp only [Hp.sub,hb]at e;cases e
 ·exact e2
theorem agh (h h0:Hp) (b:Nat) (cs:List Value) (n:Nat):((h.row b cs n).sub h0).off b=(h.sub h0).off b:=by
 funext c;simp only [Hp.row,Hp.off,Hp.set,Hp.sub];split
 ·rfl
 ·rfl
theorem afm {h h0:Hp} {b:Nat} (cs:List Value) (n:Nat) (hb:h0 b=none):(h.row b cs n).sub h0 b=some (.inl ⟨cs,n,false⟩):=by
 rw [lz hb,bU]
theorem abB {h h' h0:Hp} {b:Nat} (l:h.le h'):((h.sub h0).off b).le ((h'.sub h0).off b):=Kl b (eV h0 l)
theorem mK {h' h:Hp} {b:Nat} {x:Blk} (hb:h b=some x):h'.sub h b=none:=by simp [Hp.sub,hb]
theorem ez {h h1:Hp} {b:Nat} (cs:List Value) (n:Nat) (hb:h b=none) (l:h.le h1):h.le (h1.row b cs n):=
 Hp.le_trans (zC hb l) (Jb _ _ _ _)
theorem cE (z:Value) (n:Nat):aR #[z] n=List.replicate n z:=by
 apply List.ext_getElem
 ·simp [aR]
 ·intro i h1 h2;simp [aR,Nat.mod_one]
theorem bG (cs:List Value) (o:Nat) (v:Value):bX cs o [v]=cs.set o v:=rfl
theorem WS (h:Hp) (b:Nat) (cs cs':List Value) (n n':Nat):(h.row b cs n).row b cs' n'=h.row b cs' n':=by
 funext c;simp only [Hp.row,Hp.set];split<;>rfl
theorem pj {α:Type} {cs:List α} {i:Nat} (v:α) (hi:i<cs.length):(cs.set i v).take (i+1)=cs.take i++ [v]:=by
 rw [List.take_succ_eq_append_getElem (by simpa using hi),List.take_set_of_le (Nat.le_refl i)];simp
theorem C8 {α β:Type} {f:α->β} {xs:List α} {i:Nat} (hi:i<xs.length):(xs.take (i+1)).map f=(xs.take i).map f++ [f xs[i]]:=by
 rw [List.take_succ_eq_append_getElem hi,List.map_append];rfl
theorem yj {α:Type} {xs ys:List α} {i:Nat} (hx:i<xs.length) (hy:i<ys.length) (hp:xs.take i=ys.take i) (he:xs[i]=ys[i]):
  xs.take (i+1)=ys.take (i+1):=by
 rw [List.take_succ_eq_append_getElem hx,List.take_succ_eq_append_getElem hy,hp,he]
theorem afH (h:Hp) (b:Nat) (cs:List Value) (n:Nat):ji (h.row b cs n) b 0 cs:=fun i v e=>by
 rw [tK,Nat.zero_add];exact e
theorem aw {h:Hp} {b:Nat} {cs:List Value} {n:Nat} {ro:Bool} (e:h b=some (.inl ⟨cs,n,ro⟩)):ji h b 0 cs:=fun i v hi=>by
 rw [ax e,Nat.zero_add];exact hi
theorem ma {g h:Hp} {b:Nat} (x:Option Blk) (l:g.le h) (hb:g b=none):g.le (h.set b x):=by
 intro c y e
 by_cases hc:c=b
 ·rw [hc,hb]at e;cases e
 ·rw [Hp.set_ne _ _ hc];exact l _ _ e
theorem eJ {h:Hp} {b c:Nat} {x y:Blk} (e:h b=some x) (f:h c=some y) (hne:x≠y):b≠c:=fun hbc=>by
 subst hbc;rw [e]at f;cases f;exact hne rfl
theorem aF {g h:Hp} {b:Nat} (l:g.le h) (e:h b=none):g b=none:=by
 cases hg:g b with
 |none=>rfl
 |some x=>rw [l _ _ hg]at e;cases e
def Hp.wo (h:Hp) (bs:List Nat):Hp:=fun c=>if c∈bs then none else h c
theorem uf (h:Hp) (bs:List Nat):(h.wo bs).le h:=by
 intro c x e;simp only [Hp.wo]at e;split at e
 ·cases e
 ·exact e
theorem fS {h:Hp} {bs:List Nat} {b:Nat} (hb:b∈bs):h.wo bs b=none:=by simp [Hp.wo,hb]
theorem v5 {h:Hp} {bs:List Nat} {b:Nat} (hb:b∉bs):h.wo bs b=h b:=by simp [Hp.wo,hb]
theorem vQ {g h:Hp} {bs:List Nat} (l:g.le h) (d: ∀b∈bs,g b=none):g.le (h.wo bs):=by
 intro c x e;simp only [Hp.wo];split
 ·rename_i hc;rw [d c hc]at e;cases e
 ·exact l _ _ e
theorem BC {h:Hp} {b c:Nat} {cs:List Value} {n:Nat}:((h.row b cs n) c=none)=(c≠b/\h c=none):=by
 apply propext
 by_cases e:c=b
 ·subst e;simp [bU]
 ·simp [cl cs n e,e]
theorem abm (cs:List Value) (n:Nat) (ro:Bool) (p:List Value->Nat->Prop):
  (∃(cs':List Value) (n':Nat),some (Sum.inl (Row.mk cs n ro):Blk)=some (Sum.inl (Row.mk cs' n' ro))/\p cs' n')=p cs n:=by
 apply propext;constructor
 ·rintro ⟨y,z,e,k⟩;cases e;exact k
 ·exact fun k=>⟨_,_,rfl,k⟩
theorem Lr (cs:List Value) (o:Nat):bX cs o []=cs:=rfl
theorem r6 (cs:List Value) (o:Nat) (v:Value) (r:List Value):bX cs o (v::r)=bX (cs.set o v) (o+1) r:=rfl
theorem VR (x:Hp) (k:Hp->Prop):cM x k=k x:=rfl
theorem SR {g h' h:Hp} {b:Nat} (cs:List Value) (n:Nat) (hg:g b=none) (l:g.le (h'.sub h)):g.le ((h'.row b cs n).sub h):=by
 intro c x e
 have:=l c x e
 have hc:c≠b:=fun hcb=>by rw [hcb,hg]at e;cases e
 simp only [Hp.sub]at this⊢
 rw [cl cs n hc];exact this
theorem mm :(∀x k,cM x k=k x)/\(∀h b cs n,(Hp.row h b cs n) b=some (.inl ⟨cs,n,false⟩))/\
  (∀h b cs n o,Hp.cell (Hp.row h b cs n) b o=cs[o]?)/\
  (∀h b c cs n o,c≠b->Hp.cell (Hp.row h b cs n) c o=Hp.cell h c o)/\(∀h b c cs n,c≠b->(Hp.row h b cs n) c=h c)/\
  (∀h b cs cs' n n',(Hp.row h b cs n).row b cs' n'=h.row b cs' n')/\
  (∀(cs:List Value) (n:Nat) (ro:Bool) (p:List Value->Nat->Prop),
   (∃(cs':List Value) (n':Nat),some (Sum.inl (Row.mk cs n ro):Blk)=some (Sum.inl (Row.mk cs' n' ro))/\p cs' n')=p cs n)/\
  (∀cs o,bX cs o []=cs)/\(∀cs o v r,bX cs o (v::r)=bX (cs.set o v) (o+1) r)/\
  (∀(v:Value) r,(v::r)[0]?=some v)/\(∀(v:Value) r (i:Nat),(v::r)[i+1]?=r[i]?)/\
  (∀(v w:Value) r,(v::r).set 0 w=w::r)/\(∀(v w:Value) r (i:Nat),(v::r).set (i+1) w=v::r.set i w)/\
  (∀(v:Value) r,(v::r).length=r.length+1)/\([]:List Value).length=0/\
  (∀h b c cs n,((Hp.row h b cs n) c=none)=(c≠b/\h c=none)):=
 ⟨fun _ _=>rfl,bU,tK,fun h b c cs n o e=>aeI cs n o e,fun h b c cs n e=>cl cs n e,WS,abm,Lr,r6,
  fun _ _=>rfl,fun _ _ _=>rfl,fun _ _ _=>rfl,fun _ _ _ _=>rfl,fun _ _=>rfl,rfl,fun _ _ _ _ _=>BC⟩
def Buf (h:Hp) (s:Sl) (sz:Nat) (cs:List Value):Prop:=
 cs.length=s.n*sz/\s.n<=s.c/\((s.a=none/\s.n=0/\s.c=0)\/ ∃b,s.a=some ⟨b,0,none⟩/\h b=some (.inl ⟨cs,s.c*sz,false⟩))
def Hp.offS (h:Hp) (s:Sl):Hp:=match s.a with|none=>h|some a=>h.off a.block
theorem aW (h:Hp) (s:Sl):(h.offS s).le h:=by
 unfold Hp.offS;split
 ·exact Hp.le_refl _
 ·exact Gl _ _
theorem bC {h h':Hp} (s:Sl) (l:h.le h'):(h.offS s).le (h'.offS s):=by
 unfold Hp.offS;split
 ·exact l
 ·exact Kl _ l
theorem fD (h:Hp) (sz:Nat):Buf h ⟨none,0,0⟩ sz []:=⟨by simp,by simp, .inl ⟨rfl,rfl,rfl⟩⟩
theorem Buf.mono {h h':Hp} {s:Sl} {sz:Nat} {cs:List Value} (l:h.le h') (e:Buf h s sz cs):Buf h' s sz cs:=by
 refine⟨e.1,e.2.1,e.2.2.imp id ?_⟩
 rintro ⟨b,ha,hb⟩
 exact⟨b,ha,l _ _ hb⟩
theorem Buf.slc {h:Hp} {s:Sl} {sz:Nat} {cs:List Value} (e:Buf h s sz cs) (hn:s.n<=9223372036854775807):SlC h s sz cs:=by
 refine⟨hn,e.1,?_⟩
 rcases e.2.2 with ⟨_,h0,_⟩|⟨b,ha,hb⟩
 ·exact .inl h0
 ·exact .inr ⟨b,0,ha,aw hb⟩
theorem Buf.sub_offS {h h':Hp} {s:Sl} {sz:Nat} {cs:List Value} (e:Buf h s sz cs):(h'.sub h).le (h'.offS s):=by
 unfold Hp.offS
 rcases e.2.2 with ⟨h0,_⟩|⟨b,ha,hb⟩
 ·rw [h0];exact sub_le _ _
 ·rw [ha];exact afJ hb
theorem iq {h:Hp} {s:Sl} {c:Nat} (d: ∀a,s.a=some a->a.block≠c):(h.offS s) c=h c:=by
 unfold Hp.offS
 cases hs:s.a with
 |none=>rfl
 |some a=>simp only [Hp.off];rw [Hp.set_ne _ _ (d a hs).symm]
theorem mb {h h':Hp} {s s':Sl} (l:(h.offS s).le (h'.offS s')) {c:Nat} {x:Blk} (e:h c=some x) (d: ∀a,s.a=some a->a.block≠c):
  h' c=some x/\ ∀a,s'.a=some a->a.block≠c:=by
 have:=l c x (by rw [iq d];exact e)
 refine⟨aW _ _ _ _ this,fun a ha hac=>?_⟩
 subst hac
 simp [Hp.offS,ha,Hp.off,Hp.set]at this
theorem dG {h:Hp} {s:Sl} {sz by_ m:Nat} {cs news:List Value} {src:Option Addr} {K:Option Addr->Nat->Nat->Hp->Prop}
  (hb:Buf h s sz cs) (hm:0<m) (hsz:(s.n+m)*by_<=140737488355328) (hsz':s.n+m<=9223372036854775807)
  (hs: ∃sb so,src=some ⟨sb,so,none⟩/\ji h sb so news) (hl:news.length=m*sz) (ho:news.all (·.oneCell')=true)
  (k: ∀(s':Sl) (h':Hp),s'.n=s.n+m->Buf h' s' sz (cs++news)->(h.offS s).le (h'.offS s')->(∀h0:Hp,h0.le (h.offS s)->(h'.sub h0).offS s'=(h.sub h0).offS s)->K s'.a s'.n s'.c h'):
  cy h s.a s.n s.c src m sz by_ K:=by
 obtain⟨sb,so,hsa,hsc⟩:=hs
 refine .inr ⟨hm,hsz,hsz',sb,so,news,hsa,hl,hsc,ho,?_⟩
 rcases hb.2.2 with ⟨ha,hn,hc⟩|⟨b,ha,hbb⟩
 ·have hcs:cs= []:=List.eq_nil_of_length_eq_zero (by rw [hb.1,hn,Nat.zero_mul])
  subst hcs
  refine .inl ⟨by omega, [],⟨by simp [hn], .inl (by simp [hn])⟩,fun _=>⟨hn,hc⟩,?_⟩
  intro b c hbn hmc
  have hoff:(h.row b ([]++news) (c*sz)).off b=h:=by rw [zE,Kd hbn]
  refine k ⟨some ⟨b,0,none⟩,s.n+m,c⟩ _ rfl ⟨?_,hmc, .inr ⟨b,rfl,bU ..⟩⟩ ?_ ?_
  ·show ([]++news).length=(s.n+m)*sz
   simp [hl,hn]
  ·simp only [Hp.offS,ha];rw [hoff];exact Hp.le_refl _
  ·intro h0 hle
   simp only [Hp.offS,ha]at hle⊢
   funext d;simp only [Hp.off,Hp.set,Hp.sub,Hp.row]
   by_cases hd:d=b
   ·subst hd;simp only [if_true,hbn];cases h0 d<;>rfl
   ·simp only [if_neg hd]
 ·refine .inr ⟨b,cs,ha,hbb,by rw [hb.1];exact Nat.le_refl _,?_⟩
  intro b' c hb' hmc
  have htk:cs.take (s.n*sz)=cs:=by rw [<-hb.1,List.take_length]
  rw [htk]
  refine k ⟨some ⟨b',0,none⟩,s.n+m,c⟩ _ rfl ⟨?_,hmc, .inr ⟨b',rfl,bU ..⟩⟩ ?_ ?_
  ·show (cs++news).length=(s.n+m)*sz
   simp [hl,hb.1,Nat.add_mul]
  ·simp only [Hp.offS,ha];rw [zE]
   refine zC ?_ (Hp.le_refl _)
   rcases hb' with rfl|hb'
   ·exact ve ..
   ·simp only [Hp.off,Hp.set];split
    ·rfl
    ·exact hb'
  ·intro h0 hle
   simp only [Hp.offS,ha]at hle⊢
   funext d;simp only [Hp.off,Hp.set,Hp.sub,Hp.row]
   by_cases hd:d=b
   ·subst hd;split<;>simp
    cases h0 d<;>rfl
   ·by_cases hd':d=b'
    ·subst hd';simp only [if_true,if_neg hd]
     rcases hb' with rfl|hb'
     ·exact absurd rfl hd
     ·rw [hb'];cases h0 d<;>rfl
    ·simp only [if_neg hd,if_neg hd']
def Own (h:Hp) (s:Sl) (sz:Nat) (cs:List Value):Prop:=
 cs.length=s.n*sz/\s.n<=9223372036854775807/\(s.n=0\/ ∃b z,s.a=some ⟨b,0,none⟩/\h b=some (.inl ⟨cs,z,false⟩))
theorem Own.mono {h h':Hp} {s:Sl} {sz:Nat} {cs:List Value} (l:h.le h') (e:Own h s sz cs):Own h' s sz cs:=by
 refine⟨e.1,e.2.1,e.2.2.imp id ?_⟩
 rintro ⟨b,z,ha,hb⟩
 exact⟨b,z,ha,l _ _ hb⟩
theorem Own.slc {h:Hp} {s:Sl} {sz:Nat} {cs:List Value} (e:Own h s sz cs):SlC h s sz cs:=by
 refine⟨e.2.1,e.1,e.2.2.imp id ?_⟩
 rintro ⟨b,z,ha,hb⟩
 exact⟨b,0,ha,aw hb⟩
theorem Buf.own {h:Hp} {s:Sl} {sz:Nat} {cs:List Value} (e:Buf h s sz cs) (hn:s.n<=9223372036854775807):Own h s sz cs:=by
 refine⟨e.1,hn,?_⟩
 rcases e.2.2 with ⟨_,h0,_⟩|⟨b,ha,hb⟩
 ·exact .inl h0
 ·exact .inr ⟨b,_,ha,hb⟩
theorem WL (h:Hp) (sz:Nat):Own h ⟨none,0,0⟩ sz []:=⟨by simp,by simp, .inl rfl⟩
theorem Pz {h:Hp} {s:Sl} {sz by_:Nat} {cs:List Value} {K:Option Addr->Nat->Nat->Hp->Prop}
  (hs:SlC h s sz cs) (hb:s.n*by_<=140737488355328) (ho:cs.all (·.oneCell')=true)
  (k: ∀(s':Sl) (h':Hp),s'.n=s.n->h.le h'->Buf (h'.sub h) s' sz cs->K s'.a s'.n s'.c h'):cy h none 0 0 s.a s.n sz by_ K:=by
 by_cases h0:s.n=0
 ·have hc:cs= []:=List.eq_nil_of_length_eq_zero (by rw [hs.2.1,h0,Nat.zero_mul])
  subst hc
  exact .inl ⟨h0,by omega,k ⟨none,0,0⟩ h h0.symm (Hp.le_refl _) (fD _ _)⟩
 ·obtain⟨b,o,ha,hc⟩:=hs.get (by omega)
  refine dG (s:=⟨none,0,0⟩) (cs:= []) (fD _ _) (by omega) (by simpa using hb) (by have:=hs.1;simpa using this) ⟨b,o,ha,fun i v hv=>hc i v hv⟩ hs.2.1 ho ?_
  intro s' h' hn hbuf hl _
  have hl':h.le (h'.offS s'):=hl
  refine k s' h' (by simpa using hn) (Hp.le_trans hl' (aW _ _)) ⟨hbuf.1,hbuf.2.1,hbuf.2.2.imp id ?_⟩
  rintro ⟨c,hc2,hcb⟩
  refine⟨c,hc2,?_⟩
  rw [lz]
  ·exact hcb
  ·refine aF hl' ?_
   simp [Hp.offS,hc2,Hp.off,Hp.set]
def Sl.blk (s:Sl):List Nat:=match s.a with|none=> []|some a=> [a.block]
theorem yU {s:Sl} {p:Nat->Prop}:(∀b∈s.blk,p b)↔ ∀a,s.a=some a->p a.block:=by
 unfold Sl.blk
 cases h:s.a with
 |none=>simp
 |some a=>simp
def Sl.used (s:Sl):List Nat:=if s.n=0 then []else s.blk
theorem ahU {g h h':Hp} {U:List Nat} (l:g.le h) (d: ∀c∈U,g c=none) (m:(h.wo U).le h'):g.le h':=Hp.le_trans (vQ l d) m
theorem Own.used {h:Hp} {s:Sl} {sz:Nat} {cs:List Value} (e:Own h s sz cs): ∀b∈s.used,h b≠none:=by
 intro b hb
 unfold Sl.used at hb
 split at hb
 ·simp at hb
 ·rename_i h0
  obtain⟨c,z,ha,hc⟩:=e.2.2.resolve_left h0
  simp only [Sl.blk,ha,List.mem_singleton]at hb
  subst hb
  rw [hc];simp
theorem lY {h' h:Hp} {b:Nat} (e:h'.sub h b≠none):h b=none:=by
 cases hb:h b with
 |none=>rfl
 |some x=>exact absurd (mK hb) e
theorem ap {α:Sort _} {c:α} {k:α->Prop} (q:α->Prop) (hc:q c) (hk: ∀j,q j->k j):aN c k:=hk c hc
end Go.Lead
