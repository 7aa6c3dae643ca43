/- What functions of the program and of the reference come to, walked one by one, and plain laws about it: part 1. No condition is added to the statement. -/
import Derived.Test.YthfcbpocfmjefaaGreatVm15
import Derived.Test.YthfcbpocfmjefaaGreatFn0
import Derived.Test.YthfcbpocfmjefaaGreatFn1
import Derived.Test.YthfcbpocfmjefaaGreatFn2
import Derived.Test.YthfcbpocfmjefaaGreatFn3
import Derived.Test.YthfcbpocfmjefaaGreatFn4
namespace Go.Lead
open Go
set_option linter.unusedVariables false
set_option linter.unusedSimpArgs false
set_option maxHeartbeats 1000000
structure Nd where
 v:Nat
 lo:Nat
 hi:Nat
 deriving DecidableEq,Repr
def jZ (n:Nd) (ns:List Nd):Nat×List Nd:=match ns.idxOf? n with|some i=>(i+2,ns)|none=>(ns.length+2,ns++ [n])
def mkD :Nat->(Nat->Bool)->Nat->List Nd->Nat×List Nd
 |0,f,_,ns=>(if f 0 then 1 else 0,ns)
 |n+1,f,low,ns=>
  let r1:=mkD n (fun i=>f (2*i)) (low+1) ns
  let r2:=mkD n (fun i=>f (2*i+1)) (low+1) r1.2
  if r1.1=r2.1 then r2 else jZ ⟨low,r1.1,r2.1⟩ r2.2
def i7 (set:List Int):List Int->Int->Int×Bool
 | [],left=>(left,left==0)
 |x::r,left=>
  if set.contains x then(0,false)else
  if set.contains (-x)then i7 set r left else
  if left !=0&&left !=x then(0,false)else i7 set r x
def nZ :List (List Int)->List Int->Bool->Option (List Int×Bool)
 | [],set,more=>some (set,more)
 |l::r,set,more=>if(i7 set l 0).2 then none else if(i7 set l 0).1 !=0 then nZ r (set++ [(i7 set l 0).1]) true else nZ r set more
def mw (cls:List (List Int)) (set:List Int):Option (List Int):=
 match nZ cls set false with
 |none=>none
 |some (set',more)=>if more then(if h:set.length<set'.length/\set'.length<=20 then mw cls set' else none)else some set'
termination_by 20-set.length
decreasing_by omega
def vg :List Int->List Int->Option (List Int)
 | [],set=>some set
 |x::r,set=>if set.contains (-x)then none else vg r (if set.contains x then set else set++ [x])
def ld (cls:List (List Int)) (given:List Int):Option (List Int):=(vg given []).bind (mw cls)
structure qX (v:Int) (set:List Int):Prop where
 lit: ∀x∈set,x≠0/\ -v<=x/\x<=v
 nodup:set.Nodup
 cons: ∀x∈set, -x∉set
theorem ND (v:Int):qX v []:=⟨by simp,List.nodup_nil,by simp⟩
theorem qX.add {v:Int} {set:List Int} (k:qX v set) {x:Int} (hx:x≠0/\ -v<=x/\x<=v) (h1:x∉set) (h2: -x∉set):qX v (set++ [x]):=by
 refine⟨?_,?_,?_⟩
 ·intro y hy
  rcases List.mem_append.1 hy with h|h
  ·exact k.lit y h
  ·simp only [List.mem_singleton]at h;subst h;exact hx
 ·rw [List.nodup_append]
  refine⟨k.nodup,by simp,?_⟩
  intro a ha b hb
  simp only [List.mem_singleton]at hb;subst hb
  intro e;subst e;exact h1 ha
 ·intro y hy hn
  rcases List.mem_append.1 hy with h|h<;>rcases List.mem_append.1 hn with h'|h'
  ·exact k.cons y h h'
  ·simp only [List.mem_singleton]at h';exact h2 (by rw [<-h',Int.neg_neg];exact h)
  ·simp only [List.mem_singleton]at h;subst h;exact h2 h'
  ·simp only [List.mem_singleton]at h h';subst h;omega
theorem Hq : ∀(n:Nat) (l:List Int) (a:Int),l.Nodup->(∀x∈l,a<=x/\x<a+n)->l.length<=n:=by
 intro n
 induction n with
 |zero=>
  intro l a _ h
  cases l with
  |nil=>simp
  |cons x r=>have:=h x (by simp);omega
 |succ n ih=>
  intro l a hd h
  by_cases hm:(a+n)∈l
  ·have h1:=ih (l.erase (a+n)) a (hd.erase _) (fun x hx=>by
    have hx':=List.mem_of_mem_erase hx
    have:=h x hx'
    have hne:x≠a+n:=fun e=>by
     subst e
     exact(List.Nodup.not_mem_erase hd) hx
    omega)
   rw [List.length_erase_of_mem hm]at h1
   omega
  ·have:=ih l a hd (fun x hx=>by
    have h1:=h x hx
    have hne:x≠a+n:=fun e=>hm (e▸hx)
    omega)
   omega
theorem qX.len {v:Int} {set:List Int} (k:qX v set) (hv:v<=10) (hv0:0<=v):set.length<=20:=by
 have h0:(0:Int)∉set:=fun h=>(k.lit 0 h).1 rfl
 have h1:=Hq 21 (0::set) (-10) (List.nodup_cons.2 ⟨h0,k.nodup⟩) (fun x hx=>by
  rcases List.mem_cons.1 hx with rfl|hx
  ·omega
  ·have:=k.lit x hx;omega)
 simp only [List.length_cons]at h1
 omega
theorem YG {set:List Int} (hcons: ∀x∈set, -x∉set) (h0:(0:Int)∉set) {l:List Int} (hl: ∀x∈l,x≠0) (hne:(i7 set l 0).1≠0):
  (i7 set l 0).1∈l/\(i7 set l 0).1∉set/\ -(i7 set l 0).1∉set:=by
 have key: ∀(l:List Int) (o:Int),(∀x∈l,x≠0)->(o=0\/(o∉set/\ -o∉set))->(i7 set l o).1≠0->
   ((i7 set l o).1∈l\/(i7 set l o).1=o)/\(i7 set l o).1∉set/\ -(i7 set l o).1∉set:=by
  intro l
  induction l with
  |nil=>
   intro o _ ho hne
   simp only [i7]at hne⊢
   rcases ho with h|h
   ·exact absurd h hne
   ·exact⟨by simp,h⟩
  |cons x r ih=>
   intro o hx ho hne
   have hr:=fun y hy=>hx y (List.mem_cons_of_mem _ hy)
   simp only [i7]at hne⊢
   split at hne
   ·exact absurd rfl hne
   ·rename_i h1
    rw [if_neg h1]
    split at hne
    ·rename_i h2
     rw [if_pos h2]
     have:=ih o hr ho hne
     exact⟨this.1.imp (List.mem_cons_of_mem _) id,this.2⟩
    ·rename_i h2
     rw [if_neg h2]
     split at hne
     ·exact absurd rfl hne
     ·rename_i h3
      rw [if_neg h3]
      have:=ih x hr (.inr ⟨by simpa using h1,by simpa using h2⟩) hne
      refine⟨.inl ?_,this.2⟩
      rcases this.1 with h|h
      ·exact List.mem_cons_of_mem _ h
      ·rw [h];simp
 have:=key l 0 hl (.inl rfl) hne
 refine⟨?_,this.2⟩
 rcases this.1 with h|h
 ·exact h
 ·exact absurd h hne
theorem sx {v:Int}: ∀(cls:List (List Int)) (set:List Int) (more:Bool),qX v set->(∀l∈cls,∀x∈l,x≠0/\ -v<=x/\x<=v)->
  ∀set' more',nZ cls set more=some (set',more')->qX v set'/\set.length<=set'.length/\(more'=true->more=true\/set.length<set'.length):=by
 intro cls
 induction cls with
 |nil=>intro set more k _ set' more' h;simp only [nZ,Option.some.injEq,Prod.mk.injEq]at h;obtain⟨rfl,rfl⟩:=h;exact⟨k,by omega, .inl⟩
 |cons l r ih=>
  intro set more k hc set' more' h
  have h0:(0:Int)∉set:=fun h=>(k.lit 0 h).1 rfl
  simp only [nZ]at h
  split at h
  ·cases h
  ·split at h
   ·rename_i hne
    have hne':(i7 set l 0).1≠0:=by simpa using hne
    have hl:=hc l (by simp)
    have hn:=YG k.cons h0 (fun x hx=>(hl x hx).1) hne'
    have:=ih (set++ [(i7 set l 0).1]) true (k.add (hl _ hn.1) hn.2.1 hn.2.2) (fun l' h'=>hc l' (by simp [h'])) _ _ h
    simp only [List.length_append,List.length_cons,List.length_nil]at this
    exact⟨this.1,by omega,fun _=> .inr (by omega)⟩
   ·exact ih set more k (fun l' h'=>hc l' (by simp [h'])) _ _ h
theorem DW {v:Int}: ∀(g:List Int) (set:List Int),qX v set->(∀x∈g,x≠0/\ -v<=x/\x<=v)-> ∀set',vg g set=some set'->qX v set':=by
 intro g
 induction g with
 |nil=>intro set k _ set' h;simp only [vg,Option.some.injEq]at h;subst h;exact k
 |cons x r ih=>
  intro set k hg set' h
  simp only [vg]at h
  split at h
  ·cases h
  ·rename_i h1
   refine ih _ ?_ (fun y hy=>hg y (by simp [hy])) _ h
   split
   ·exact k
   ·rename_i h2
    exact k.add (hg x (by simp)) (by simpa using h2) (by simpa using h1)
theorem Yo {α:Type} {xs:List α} {p:α->Bool} {i:Nat} (hi:i<xs.length) (hp:p xs[i]=false):xs.all p=false:=by
 rw [List.all_eq_false];exact⟨_,List.getElem_mem hi,by simp [hp]⟩
theorem aaE {α:Type} {xs:List α} {p:α->Bool} {i:Nat} (hi:i<xs.length):(xs.take (i+1)).all p=((xs.take i).all p&&p xs[i]):=by
 rw [List.take_succ_eq_append_getElem hi,List.all_append];simp
theorem QB {α:Type} {xs:List α} {p:α->Bool} {i:Nat} (hi:i<xs.length):(xs.take (i+1)).any p=((xs.take i).any p||p xs[i]):=by
 rw [List.take_succ_eq_append_getElem hi,List.any_append];simp
theorem wm {h:Hp} {s t:Sl} {xs ys:List Int} {R:Value->Hp->Prop} (hs:IntS h s xs) (ht:IntS h t ys)
  (k:R (.bool (decide (xs=ys))) h):lZ #[s.v,t.v] h R:=by
 apply Ma
 refine uf_ ?_
 have ls:=hs.len
 have lt:=ht.len
 by_cases hl:xs.length=ys.length
 ·refine aC (by simp [ls,lt,hl]) ?_
  refine au xs.length (fun i vs h'=>vs= [s.v,t.v,I i]/\h'=h/\xs.take i=ys.take i) ⟨rfl,rfl,by simp⟩ ?_
  rintro i _ _ next hi ⟨rfl,rfl,hp⟩ hn
  refine⟨_,_,_,rfl,?_⟩
  by_cases hlt:i<xs.length
  ·obtain⟨b,o,ha,hc⟩:=hs.at hlt
   have hi':i<ys.length:=by omega
   obtain⟨b',o',ha',hc'⟩:=ht.at hi'
   have hb:=hs.bound
   refine aN (by simp [ls,hlt]) ?_
   simp only [vm,ls,lt,ha,ha',hc,hc',ay (n:=i) (by omega)]
   refine⟨by omega,by omega,ad (fun he=>?_) (fun he=>?_)⟩
   ·rwa [decide_eq_false (fun e=>by subst e;simp at he)]at k
   ·exact hn hlt _ _ ⟨rfl,rfl,xz hlt hi' hp (by simpa using he)⟩
  ·have:i=xs.length:=by omega
   subst this
   refine aC (by simp [ls]) ?_
   rw [List.take_length,hl,List.take_length]at hp
   rwa [decide_eq_true hp]at k
 ·refine aN (by simp [ls,lt];omega) ?_
  rwa [decide_eq_false (fun e=>hl (by rw [e]))]at k
theorem wg {h:Hp} {s:Sl} {xs:List Int} {left:Int} {R:Value->Hp->Prop} (hs:IntS h s xs) (h0:0<=left) (h1:left<=1048576)
  (k: ∀r:Int,(r<0\/0<=r/\r+xs.length=left)->R (I r) h):lT #[s.v,I left] h R:=by
 apply L5
 refine uf_ ?_
 have hb:=hs.bound
 rw [hs.len,bX (by omega) (by omega)]
 exact ad (fun e=>k _ (by simp)) (fun e=>k _ (by simp at e;omega))
structure Lp (h:Hp) (t:Sl) (ts:List Sl) (xss:List (List Int)):Prop where
 len:ts.length=xss.length
 outer:SlC (h.wo (ts.flatMap Sl.used)) t 1 (ts.map Sl.v)
 inner: ∀(i:Nat) (h1:i<ts.length) (h2:i<xss.length),Own h ts[i] 1 (xss[i].map I)
theorem Lp.ints {h:Hp} {t:Sl} {ts:List Sl} {xss:List (List Int)} (e:Lp h t ts xss):IntSS h t xss:=
 ⟨ts,e.len,e.outer.mono (tW _ _),fun i h1 h2=>(e.inner i h1 h2).slc⟩
theorem Lp.mono {h h':Hp} {t:Sl} {ts:List Sl} {xss:List (List Int)} (l:h.le h') (e:Lp h t ts xss):Lp h' t ts xss:=
 ⟨e.len,e.outer.mono (uP (Hp.le_trans (tW _ _) l) fun b hb=>fN hb),fun i h1 h2=>(e.inner i h1 h2).mono l⟩
theorem Lp.used {h:Hp} {t:Sl} {ts:List Sl} {xss:List (List Int)} (e:Lp h t ts xss): ∀b∈ts.flatMap Sl.used,h b≠none:=by
 intro b hb
 obtain⟨u,hu,hbu⟩:=List.mem_flatMap.1 hb
 obtain⟨i,hi,rfl⟩:=List.getElem_of_mem hu
 exact(e.inner i hi (by rw [<-e.len];exact hi)).used b hbu
theorem eu {h:Hp} {x a b:Int} {R:Value->Hp->Prop} (k:R (.bool (decide (a<=x/\x<=b))) h):cZ #[I x,I a,I b] h R:=by
 apply QE
 refine uf_ ?_
 refine ad (fun e=>?_) (fun e=>?_)
 ·simp at e;simpa [e] using k
 ·simp at e;rwa [decide_eq_false (by omega)]at k
theorem iM {h:Hp} {x a b:Int} {R:Value->Hp->Prop} (k:R (.bool (decide (a<=x/\x<=b))) h):dS #[I x,I a,I b] h R:=by
 apply Y3
 refine uf_ ?_
 refine ad (fun e=>?_) (fun e=>?_)
 ·simp at e;simpa [e] using k
 ·simp at e;rwa [decide_eq_false (by omega)]at k
def LT (vars n:Int):Bool:=decide (n≠0/\ -vars<=n/\n<=vars)
def ij (vars:Int) (l:List Int):Bool:=decide (l.length<=10)&&l.all (LT vars)
def eM (vars:Int) (c:List (List Int)):Bool:=decide (1<=vars/\vars<=10)&&(decide (c.length<=60)&&c.all (ij vars))
def IZ {α:Type} (p:α->Bool) (xs:List α):Int:=match xs.findIdx? p with|some i=>i|none=> -1
theorem ut {α:Type} {p:α->Bool} {xs:List α} (e:xs.any p=false):IZ p xs= -1:=by
 have:xs.findIdx? p=none:=by
  rw [List.findIdx?_eq_none_iff];intro x hx;rw [List.any_eq_false]at e;simpa using e x hx
 simp [IZ,this]
theorem Bu {α:Type} {p:α->Bool} {xs:List α} {i:Nat} (hi:i<xs.length) (e:(xs.take i).any p=false) (hp:p xs[i]=true):IZ p xs=i:=by
 have:xs.findIdx? p=some i:=by
  rw [List.findIdx?_eq_some_iff_getElem]
  refine⟨hi,hp,fun j hj=>?_⟩
  rw [List.any_eq_false]at e
  exact e _ (by rw [List.mem_take_iff_getElem];exact⟨j,by omega,rfl⟩)
 simp [IZ,this]
theorem Ql {α:Type} (p:α->Bool) (xs:List α):decide (IZ p xs>=0)=xs.any p:=by
 cases h:xs.any p with
 |false=>rw [ut h];rfl
 |true=>
  unfold IZ
  cases h':xs.findIdx? p with
  |some i=>simp
  |none=>rw [List.findIdx?_eq_none_iff]at h';rw [List.any_eq_true]at h;obtain⟨x,hx,hp⟩:=h;simp [h' x hx]at hp
theorem uR {h:Hp} {s:Sl} {xs:List Int} {f:FuncId} {u w:Array Value} (p:Int->Bool) {R:Value->Hp->Prop} (hs:IntS h s xs)
  (hf: ∀x∈xs,∀R:Value->Hp->Prop,R (.bool (p x)) h->ACalls PR f ((u++ #[I x])++w) h R)
  (k:R (I (IZ p xs)) h):gh #[s.v, .func (.func f) u w] h R:=by
 apply uj
 refine uf_ ?_
 have hb:=hs.bound
 refine au xs.length (fun i vs h'=>vs= [s.v, .func (.func f) u w,I xs.length,I i]/\h'=h/\(xs.take i).any p=false) ⟨by rw [hs.len];rfl,rfl,by simp⟩ ?_
 rintro i _ _ next hi ⟨rfl,rfl,hp⟩ hn
 refine⟨_,_,_,_,_,_,rfl,?_⟩
 by_cases hlt:i<xs.length
 ·obtain⟨b,o,ha,hc⟩:=hs.at hlt
  refine aN (by simp [hlt]) ?_
  simp only [vm,hs.len,ha,hc,ay (n:=i) (by omega)]
  refine⟨by omega,hf _ (List.getElem_mem hlt) _ ⟨_,rfl,ad (fun he=>?_) (fun he=>?_)⟩⟩
  ·rwa [Bu hlt hp he]at k
  ·exact hn hlt _ _ ⟨rfl,rfl,by rw [QB hlt,hp,he];rfl⟩
 ·have:i=xs.length:=by omega
  subst this
  rw [List.take_length]at hp
  refine aC (by simp) ?_
  rwa [ut hp]at k
theorem qV {h:Hp} {s:Sl} {xs:List Int} {f:FuncId} {u w:Array Value} (p:Int->Bool) {R:Value->Hp->Prop} (hs:IntS h s xs)
  (hf: ∀x∈xs,∀R:Value->Hp->Prop,R (.bool (p x)) h->ACalls PR f ((u++ #[I x])++w) h R)
  (k:R (.bool (xs.any p)) h):ff #[s.v, .func (.func f) u w] h R:=by
 apply rp
 refine uf_ ?_
 exact uR p hs hf ⟨_,rfl,by rwa [Ql]⟩
def sD (h:Hp) (s:Sl) (xs:List Bool):Prop:=SlC h s 1 (xs.map Value.bool)
theorem sD.mono {h h':Hp} {s:Sl} {xs:List Bool} (l:h.le h') (e:sD h s xs):sD h' s xs:=SlC.mono l e
theorem sD.len {h:Hp} {s:Sl} {xs:List Bool} (e:sD h s xs):s.n=xs.length:=by have:=e.2.1;simp at this;omega
theorem sD.bound {h:Hp} {s:Sl} {xs:List Bool} (e:sD h s xs):xs.length<=9223372036854775807:=by rw [<-e.len];exact e.1
theorem sD.at {h:Hp} {s:Sl} {xs:List Bool} (e:sD h s xs) {i:Nat} (hi:i<xs.length):
  ∃b o,s.a=some (Addr.mk b o none)/\Hp.cell h b (o+i)=some (.bool xs[i]):=by
 have hl:=e.len
 obtain⟨b,o,ha,hc⟩:=SlC.get e (by omega)
 exact⟨b,o,ha,hc i _ (by simp [hi])⟩
theorem jA {h:Hp} {c n:Nat} {R:Value->Hp->Prop} (hn:n<=64) (k:R (I (if c.testBit n then 1 else 0)) h):eA #[I c,I n] h R:=by
 apply Pj
 refine uf_ ?_
 rw [cX (by omega),if_neg (by omega),jE hn,JG,agL]
 split<;>simp_all
theorem LT.iff {v n:Int}:LT v n=true↔n≠0/\ -v<=n/\n<=v:=by simp [LT]
theorem ij.lit {v:Int} {l:List Int} (e:ij v l=true) {n:Int} (hn:n∈l):LT v n=true:=by
 simp only [ij,Bool.and_eq_true,List.all_eq_true]at e;exact e.2 n hn
theorem ij.len {v:Int} {l:List Int} (e:ij v l=true):l.length<=10:=by
 simp only [ij,Bool.and_eq_true,decide_eq_true_eq]at e;exact e.1
theorem eM.iff {v:Int} {c:List (List Int)}:eM v c=true↔(1<=v/\v<=10)/\c.length<=60/\ ∀l∈c,ij v l=true:=by
 simp [eM,List.all_eq_true]
def cw (k:Int) (n:Nat):List Value:=(List.range n).map fun(i:Nat)=>I (k+(i:Int))
theorem WL {cs:List Value} {i:Nat} {k:Int} (hl:i<cs.length) (hp:cs.take i=cw k i) (x:Value) (hx:x=I (k+(i:Nat))):
  (cs.set i x).take (i+1)=cw k (i+1):=by
 rw [oJ _ hl,hp]
 subst hx
 simp only [cw,List.range_succ,List.map_append,List.map_cons,List.map_nil]
theorem MQ {h:Hp} {s:Sl} {cs:List Value} {k0:Int} {R:Value->Hp->Prop} (hs:Own h s 1 cs) (h0:0<=k0) (hk:k0+s.n<=9223372036854775807)
  (k: ∀h',(h.wo s.used).le h'->Own h' s 1 (cw k0 s.n)->(∀b,h b=none->h' b=none)->R (I (k0+s.n)) h'):gD #[s.v,I k0] h R:=by
 apply zK
 refine uf_ ?_
 by_cases hn0:s.n=0
 ·refine au 0 (fun i vs h'=>vs= [s.v,I k0,I i]/\h'=h) ⟨rfl,rfl⟩ ?_
  rintro i _ _ next hi ⟨rfl,rfl⟩ hn
  refine⟨_,_,_,rfl,aC (by simp [hn0]) ?_⟩
  have:=k _ (tW _ _) ⟨by simp [hn0,cw],hs.2.1, .inl hn0⟩ (fun b hb=>hb)
  simpa [hn0] using this
 obtain⟨b,z,ha,hb⟩:=hs.2.2.resolve_left hn0
 have hcl0:cs.length=s.n:=by have:=hs.1;omega
 refine au s.n (fun i vs h'=>vs= [s.v,I (k0+(i:Nat)),I i]/\ ∃cs',h'=h.set b (some (.inl ⟨cs',z,false⟩))/\cs'.length=s.n/\cs'.take i=cw k0 i)
  ⟨by simp,cs,?_,hcl0,by simp [cw]⟩ ?_
 ·funext c
  by_cases hc:c=b
  ·subst hc;rw [Hp.set_eq,hb]
  ·rw [Hp.set_ne _ _ hc]
 rintro i _ _ next hi ⟨rfl,cs',rfl,hcl,hp⟩ hn
 refine⟨_,_,_,rfl,?_⟩
 have hrow: ∀cs',h.set b (some (.inl ⟨cs',z,false⟩))=h.row b cs' z:=fun _=>rfl
 by_cases hlt:i<s.n
 ·refine aN (by simp [hlt]) ?_
  have w1:W (k0+(i:Nat)+1)=k0+(i+1:Nat):=by rw [bX (by omega) (by omega)];omega
  simp only [vm,mm,ha,hrow,w1,ay (n:=i) (by omega)]
  refine⟨by omega,by omega,hn hlt _ _ ⟨rfl,_,rfl,by simpa using hcl,WL (by omega) hp _ rfl⟩⟩
 ·have:i=s.n:=by omega
  subst this
  rw [<-hcl,List.take_length,hcl]at hp
  subst hp
  refine aC (by simp) ?_
  refine k (h.set b (some (.inl ⟨cw k0 s.n,z,false⟩))) ?_ ⟨by simp [cw],hs.2.1, .inr ⟨b,z,ha,Hp.set_eq ..⟩⟩ ?_
  ·refine mb _ (tW _ _) (fN ?_)
   simp [Sl.used,hn0,Sl.blk,ha]
  ·intro c hc
   rw [Hp.set_ne _ _ (fun e=>by subst e;rw [hb]at hc;cases hc)];exact hc
theorem Cr {h:Hp} {s:Sl} {k0:Int} {R:Value->Hp->Prop} (hs:SlC h s 1 (cw k0 s.n)) (h0:0<=k0) (hk:k0+s.n<=9223372036854775807)
  (k:R (I (k0+s.n)) h):pm #[s.v,I k0] h R:=by
 apply HB
 refine uf_ ?_
 refine au s.n (fun i vs h'=>vs= [s.v,I (k0+(i:Nat)),I i]/\h'=h) ⟨by simp,rfl⟩ ?_
 rintro i _ _ next hi ⟨rfl,rfl⟩ hn
 refine⟨_,_,_,rfl,?_⟩
 by_cases hlt:i<s.n
 ·obtain⟨b,o,ha,hc⟩:=hs.get (by omega)
  have c1:=hc i (I (k0+(i:Nat))) (by rw [cw,List.getElem?_map,List.getElem?_range (by omega)];rfl)
  have w1:W (k0+(i:Nat)+1)=k0+(i+1:Nat):=by rw [bX (by omega) (by omega)];omega
  refine aN (by simp [hlt]) ?_
  simp only [vm,ha,c1,w1,ay (n:=i) (by omega)]
  exact⟨by omega,aC (by simp) (hn hlt _ _ ⟨rfl,rfl⟩)⟩
 ·have:i=s.n:=by omega
  subst this
  exact aC (by simp) k
theorem Wr (xs:List Int):(xs.map I).all (·.oneCell')=true:=by
 rw [List.all_eq_true]
 intro v hv
 obtain⟨x,_,rfl⟩:=List.mem_map.1 hv
 rfl
theorem IntS.slc {h:Hp} {s:Sl} {xs:List Int} (e:IntS h s xs):SlC h s 1 (xs.map I):=e
theorem kv {h:Hp} {s:Sl} {xs:List Int} {R:Value->Hp->Prop} (hs:IntS h s xs) (hl:xs.length<=1048576)
  (k: ∀t h',h.le h'->Buf (h'.sub h) t 1 (xs.map I)->R (Sl.v t) h'):et #[s.v] h R:=by
 apply xP
 refine uf_ ?_
 have:=hs.len
 exact OC hs (by omega) (Wr _) fun t h' hn hle hb=>k t h' hle hb
theorem Wu : ∀(vs cs:List Value) (o:Nat),(ce cs o vs).take o=cs.take o/\(ce cs o vs).length=cs.length:=by
 intro vs
 induction vs with
 |nil=>intro cs o;exact⟨rfl,rfl⟩
 |cons v r ih=>
  intro cs o
  have h:=ih (cs.set o v) (o+1)
  simp only [ce]
  refine⟨?_,by rw [h.2];simp⟩
  have h1:=congrArg (List.take o) h.1
  rw [List.take_take,List.take_take,Nat.min_eq_left (by omega)]at h1
  rw [h1,List.take_set_of_le (Nat.le_refl o)]
theorem Re (l:List UInt8): ∀(k i:Nat) (r:List UInt8),i+k=l.length->ByteArray.toList.loop ⟨l.toArray⟩ i r=r.reverse++l.drop i:=by
 intro k
 induction k with
 |zero=>
  intro i r hi
  unfold ByteArray.toList.loop
  rw [if_neg (by simp [ByteArray.size];omega),List.drop_eq_nil_of_le (by omega),List.append_nil]
 |succ k ih=>
  intro i r hi
  unfold ByteArray.toList.loop
  rw [if_pos (by simp [ByteArray.size];omega),ih (i+1) _ (by omega),List.drop_eq_getElem_cons (i:=i) (by omega)]
  simp [ByteArray.get!,show i<l.length by omega]
theorem nw (l:List UInt8):(⟨l.toArray⟩:ByteArray).toList=l:=by
 unfold ByteArray.toList
 rw [Re l l.length 0 [] (by omega)];rfl
def eP (n:Nat) (f:Nat->Bool):List Value:=(List.range (2^n)).map fun i=>Value.int .u8 (if f i then 1 else 0)
def du (n:Nat) (f:Nat->Bool):List UInt8:=(List.range (2^n)).map fun i=>if f i then 1 else 0
theorem Nn (n:Nat) (f:Nat->Bool):fC (du n f)=eP n f:=by
 unfold fC du eP
 rw [List.map_map]
 apply List.map_congr_left
 intro i _
 simp only [Function.comp]
 cases f i<;>rfl
def CO (h:Hp) (t:Sl) (n:Nat) (f:Nat->Bool):Prop:=SlC h t 1 (eP n f)
theorem CO.mono {h h':Hp} {t:Sl} {n:Nat} {f:Nat->Bool} (l:h.le h') (e:CO h t n f):CO h' t n f:=SlC.mono l e
theorem CO.len {h:Hp} {t:Sl} {n:Nat} {f:Nat->Bool} (e:CO h t n f):t.n=2^n:=by have:=e.2.1;simp [eP]at this;omega
theorem CO.at {h:Hp} {t:Sl} {n:Nat} {f:Nat->Bool} (e:CO h t n f) {i:Nat} (hi:i<2^n):
  ∃b o,t.a=some (Addr.mk b o none)/\Hp.cell h b (o+i)=some (.int .u8 (if f i then 1 else 0)):=by
 have hl:=e.len
 obtain⟨b,o,ha,hc⟩:=SlC.get e (by omega)
 exact⟨b,o,ha,hc i _ (by simp [eP,hi])⟩
theorem CO.all {h:Hp} {t:Sl} {n:Nat} {f:Nat->Bool} (e:CO h t n f):oU h t.a t.n (fC (du n f)):=by
 rw [Nn]
 exact⟨by rw [e.2.1,Nat.mul_one],e.2.2⟩
theorem Ao {h:Hp} {c:Bool} {R:Value->Hp->Prop} (k:R (I (if c then 1 else 0)) h):rF #[.bool c] h R:=by
 apply Ty
 refine uf_ ?_
 cases c<;>exact k
def cW (ns:List Nd):List Value:=ns.flatMap fun n=> [I n.v,I n.lo,I n.hi]
def IR (n:Nd):Value:= .agg #[I n.v,I n.lo,I n.hi]
structure BI (h:Hp) (B rs rn:Nat) (vars:Nat) (s:Sl) (ns:List Nd) (es:List (ByteArray×Nat)):Prop where
 row:h B=some (.inl ⟨[I vars,s.v,I 0, .map (some rs), .map (some rn)],5,false⟩)
 buf:Buf h s 3 (cW ns)
 seen:h rs=some (.inr (es.map fun e=>(.string e.1,I e.2)))
 nodes:h rn=some (.inr (ns.zipIdx.map fun e=>(IR e.1,I (e.2+2:Nat))))
 far:rs≠rn
 own: ∀a,s.a=some a->a.block≠B
 true: ∀e∈es,∃n f low,low+n=vars/\e.1=⟨(du n f).toArray⟩/\mkD n f low ns=(e.2,ns)
theorem BI.mono {h h':Hp} {B rs rn vars:Nat} {s:Sl} {ns:List Nd} {es:List (ByteArray×Nat)} (l:h.le h') (e:BI h B rs rn vars s ns es):BI h' B rs rn vars s ns es:=
 ⟨l _ _ e.row,e.buf.mono l,l _ _ e.seen,l _ _ e.nodes,e.far,e.own,e.true⟩
theorem mY (ns:List Nd):(cW ns).length=ns.length*3:=by
 induction ns with
 |nil=>rfl
 |cons n ns ih=>simp only [cW,List.flatMap_cons,List.length_append,List.length_cons,List.length_nil]at ih⊢;omega
structure Bd where
 v:Int
 ns:List Nd
 r:Int
 ok:Bool
def kc :Bd:=⟨0, [],0,false⟩
def wV (h:Hp) (s:Sl) (xs:List Int):Prop:=Buf h s 1 (xs.map I)
theorem wV.len {h:Hp} {s:Sl} {xs:List Int} (e:wV h s xs):s.n=xs.length:=by have:=e.1;simp at this;omega
theorem wV.ints {h:Hp} {s:Sl} {xs:List Int} (e:wV h s xs) (hn:xs.length<=1048576):IntS h s xs:=Buf.slc e (by rw [e.len];omega)
theorem wV.mono {h h':Hp} {s:Sl} {xs:List Int} (l:h.le h') (e:wV h s xs):wV h' s xs:=Buf.mono l e
theorem Sz {h:Hp} {s:Sl} {xs:List Int} {x:Int} {b:Nat} {K:Option Addr->Nat->Nat->Hp->Prop} (hb:wV h s xs) (hl:xs.length<=1048576) (hc:Hp.cell h b 0=some (I x))
  (k: ∀(s':Sl) (h':Hp),wV h' s' (xs++ [x])->(h.offS s).le (h'.offS s')->K s'.a s'.n s'.c h'):cx h s.a s.n s.c (some ⟨b,0,none⟩) 1 1 8 K:=by
 refine dF hb (by omega) (by rw [hb.len];omega) (by rw [hb.len];omega) ⟨b,0,rfl,fun i v hi=>?_⟩ (news:= [I x]) rfl rfl ?_
 ·cases i with
  |zero=>simp at hi;subst hi;exact hc
  |succ i=>simp at hi
 ·intro s' h' hn hbuf hle _
  exact k s' h' (by unfold wV;rw [List.map_append];exact hbuf) hle
structure im (h h':Hp) (t:Sl) (set:List Int):Prop where
 buf:wV h' t set
 le:h.le (h'.offS t)
theorem im.keep {h h':Hp} {t:Sl} {set:List Int} (e:im h h' t set):h.le h':=Hp.le_trans e.le (aW _ _)
theorem im.app {h h':Hp} {t:Sl} {set:List Int} {x:Int} {b:Nat} {K:Option Addr->Nat->Nat->Hp->Prop} (e:im h h' t set) (hl:set.length<=1048576) (hb:h' b=none)
  (k: ∀(t':Sl) (h'':Hp),im h h'' t' (set++ [x])->K t'.a t'.n t'.c h''):cx (h'.row b [I x] 1) t.a t.n t.c (some ⟨b,0,none⟩) 1 1 8 K:=by
 have l:=gk [I x] 1 hb
 refine Sz (e.buf.mono l) hl (sq _ _ _ _ _) fun t' h'' hb' hl'=>k t' h'' ⟨hb',Hp.le_trans (Hp.le_trans e.le (bA t l)) hl'⟩
theorem im.own {h h':Hp} {t:Sl} {set:List Int} (e:im h h' t set) (hl:set.length<=1048576):Own (h'.sub h) t 1 (set.map I):=by
 have hn:=e.buf.len
 refine⟨e.buf.1,by omega,?_⟩
 rcases e.buf.2.2 with ⟨_,h0,_⟩|⟨b,ha,hb⟩
 ·exact .inl h0
 ·refine .inr ⟨b,t.c*1,ha,?_⟩
  rw [k8]
  ·exact hb
  ·refine aF e.le ?_
   simp [Hp.offS,ha,Hp.off,Hp.set]
theorem ij.all {v:Int} {l:List Int} (e:ij v l=true): ∀x∈l,x≠0/\ -v<=x/\x<=v:=fun x hx=>LT.iff.1 (ij.lit e hx)
def Ep (set:List Int):List (Value×Value):=set.map fun x=>(I x, .bool true)
theorem Xp (set:List Int) (n:Int): ∃res,gP (Instr.sameNow (.int .i64) (I n)) (Ep set) 0=some res/\Option.getD (Option.map (fun p=>p.2) res) (.bool false)= .bool (set.contains n)/\
  yv (Ep set) (I n) (.bool true) res=Ep (if set.contains n then set else set++ [n]):=by
 unfold Ep
 rcases sf (Instr.sameNow (.int .i64) (I n)) (fun x:Int=>I x) (fun _=> .bool true) (fun x=>n==x) set 0 (fun x _=>SR _ _ _)with ⟨hno,hm⟩|⟨j,hj,hyes,_,hm⟩
 ·have hc:set.contains n=false:=by
   rw [Bool.eq_false_iff];intro h
   have:=hno n (by simpa using h)
   simp at this
  exact⟨_,hm,by rw [hc];rfl,by rw [hc];simp [yv]⟩
 ·have he:n=set[j]:=by simpa using hyes
  have hc:set.contains n=true:=by
   rw [he];simp
  refine⟨_,hm,by rw [hc];rfl,?_⟩
  rw [hc,if_pos rfl]
  simp only [yv,Nat.zero_add]
  apply List.ext_getElem
  ·simp
  ·intro i h1 h2
   rw [List.getElem_set]
   split
   ·rename_i hij;subst hij;simp [he]
   ·rfl
structure eg (h h':Hp) (t:Sl) (xss:List (List Int)):Prop where
 buf: ∃ts:List Sl,Buf h' t 1 (ts.map Sl.v)/\ts.length=xss.length/\ ∀(i:Nat) (h1:i<ts.length) (h2:i<xss.length),IntS h ts[i] xss[i]
 le:h.le (h'.offS t)
theorem eg.keep {h h':Hp} {t:Sl} {xss:List (List Int)} (e:eg h h' t xss):h.le h':=Hp.le_trans e.le (aW _ _)
theorem eg.ints {h h':Hp} {t:Sl} {xss:List (List Int)} (e:eg h h' t xss) (hl:xss.length<=1048576):IntSS h' t xss:=by
 obtain⟨ts,hb,h1,h2⟩:=e.buf
 have hn:t.n=xss.length:=by have:=hb.1;simp at this;omega
 exact⟨ts,h1,hb.slc (by omega),fun i a b=>(h2 i a b).mono e.keep⟩
theorem eg.app {h h':Hp} {t u:Sl} {xss:List (List Int)} {x:List Int} {b:Nat} {K:Option Addr->Nat->Nat->Hp->Prop} (e:eg h h' t xss) (hl:xss.length<=1048576) (hu:IntS h u x) (hb:h' b=none)
  (k: ∀(t':Sl) (h'':Hp),eg h h'' t' (xss++ [x])->K t'.a t'.n t'.c h''):cx (h'.row b [u.v] 1) t.a t.n t.c (some ⟨b,0,none⟩) 1 1 24 K:=by
 have l:=gk [u.v] 1 hb
 obtain⟨ts,hbuf,h1,h2⟩:=e.buf
 have hn:t.n=xss.length:=by have:=hbuf.1;simp at this;omega
 refine dF (hbuf.mono l) (by omega) (by omega) (by omega) ⟨b,0,rfl,fun i v hi=>?_⟩ (news:= [u.v]) rfl rfl ?_
 ·cases i with
  |zero=>simp at hi;subst hi;exact sq _ _ _ _ _
  |succ i=>simp at hi
 ·intro t' h'' hn' hb' hle _
  refine k t' h'' ⟨⟨ts++ [u],by rw [List.map_append];exact hb',by simp [h1],?_⟩,Hp.le_trans (Hp.le_trans e.le (bA t l)) hle⟩
  intro i a c
  by_cases hi:i<ts.length
  ·rw [List.getElem_append_left hi,List.getElem_append_left (by omega)];exact h2 i hi (by omega)
  ·have:i=ts.length:=by simp at a;omega
   subst this
   simp only [List.getElem_append_right (Nat.le_refl _),Nat.sub_self,List.getElem_cons_zero]
   simp only [h1,List.getElem_append_right (Nat.le_refl _),Nat.sub_self,List.getElem_cons_zero]
   exact hu
def yz (S:List Int) (l:List Int):Prop:=
 (∃x∈l,x∈S)\/ ∃x∈l,∃y∈l,x≠y/\(x∉S/\ -x∉S)/\(y∉S/\ -y∉S)
def Uj (S:List Int):Prop:= ∀x∈S, -x∉S
def WfL (v:Int) (l:List Int):Prop:= ∀x∈l,x≠0/\ -v<=x/\x<=v
def WfC (v:Int) (c:List (List Int)):Prop:= ∀l∈c,WfL v l
theorem GL (set:List Int): ∀(l:List Int) (left:Int),(∀x∈l,x≠0)->(left≠0->left∉set/\ -left∉set)->
  (i7 set l left=(0,false)/\((∃x∈l,x∈set)\/ ∃x∈l,∃y∈left::l,y≠0/\x≠y/\(x∉set/\ -x∉set)/\(y∉set/\ -y∉set)))\/
  ((i7 set l left).2=((i7 set l left).1==0)/\(left≠0->(i7 set l left).1=left)/\ ∀x∈l,x=(i7 set l left).1\/ -x∈set):=by
 intro l
 induction l with
 |nil=>intro left _ _;exact .inr ⟨rfl,fun _=>rfl,by simp⟩
 |cons x r ih=>
  intro left hx ho
  have hr:=fun y hy=>hx y (List.mem_cons_of_mem _ hy)
  have hx0:=hx x (by simp)
  simp only [i7]
  by_cases h1:set.contains x=true
  ·rw [if_pos h1];exact .inl ⟨rfl, .inl ⟨x,by simp,by simpa using h1⟩⟩
  rw [if_neg h1]
  by_cases h2:set.contains (-x)=true
  ·rw [if_pos h2]
   rcases ih left hr ho with ⟨e,h⟩|⟨e,h,h'⟩
   ·refine .inl ⟨e,?_⟩
    rcases h with ⟨z,hz,hs⟩|⟨z,hz,y,hy,h⟩
    ·exact .inl ⟨z,by simp [hz],hs⟩
    ·refine .inr ⟨z,by simp [hz],y,?_,h⟩
     rcases List.mem_cons.1 hy with rfl|hy
     ·simp
     ·simp [hy]
   ·refine .inr ⟨e,h,?_⟩
    intro z hz
    rcases List.mem_cons.1 hz with rfl|hz
    ·exact .inr (by simpa using h2)
    ·exact h' z hz
  rw [if_neg h2]
  have hxo:x∉set/\ -x∉set:=⟨by simpa using h1,by simpa using h2⟩
  by_cases h3:(left !=0&&left !=x)=true
  ·rw [if_pos h3]
   simp at h3
   exact .inl ⟨rfl, .inr ⟨x,by simp,left,by simp,h3.1,fun e=>h3.2 e.symm,hxo,ho h3.1⟩⟩
  rw [if_neg h3]
  have hl:left≠0->left=x:=by simpa using h3
  rcases ih x hr (fun _=>hxo)with ⟨e,h⟩|⟨e,h,h'⟩
  ·refine .inl ⟨e,?_⟩
   rcases h with ⟨z,hz,hs⟩|⟨z,hz,y,hy,h⟩
   ·exact .inl ⟨z,by simp [hz],hs⟩
   ·exact .inr ⟨z,by simp [hz],y,List.mem_cons_of_mem _ hy,h⟩
  ·refine .inr ⟨e,fun h0=>?_,?_⟩
   ·rw [h hx0,hl h0]
   ·intro z hz
    rcases List.mem_cons.1 hz with rfl|hz
    ·exact .inl (h hx0).symm
    ·exact h' z hz
theorem YW {set S l:List Int} (hs:set⊆S) (hc:Uj S) (hl: ∀x∈l,x≠0) (st:yz S l):
  (i7 set l 0).2=false/\((i7 set l 0).1≠0->(i7 set l 0).1∈S):=by
 rcases GL set l 0 hl (fun h=>absurd rfl h)with ⟨e,_⟩|⟨e,_,h⟩
 ·rw [e];exact⟨rfl,fun h=>absurd rfl h⟩
 ·obtain⟨x,hx,hn,hS⟩: ∃x∈l,x=(i7 set l 0).1/\x∈S:=by
   rcases st with ⟨x,hx,hS⟩|⟨x,hx,y,hy,hne,hxo,hyo⟩
   ·rcases h x hx with h1|h1
    ·exact⟨x,hx,h1,hS⟩
    ·exact absurd (hs h1) (hc x hS)
   ·rcases h x hx with h1|h1
    ·rcases h y hy with h2|h2
     ·exact absurd (h1.trans h2.symm) hne
     ·exact absurd (hs h2) hyo.2
    ·exact absurd (hs h1) hxo.2
  rw [e,<-hn]
  exact⟨by simpa using hl x hx,fun _=>hS⟩
theorem Qb {set l:List Int} (hl: ∀x∈l,x≠0) (h1:(i7 set l 0).2=false) (h2:(i7 set l 0).1=0):yz set l:=by
 rcases GL set l 0 hl (fun h=>absurd rfl h)with ⟨e,h⟩|⟨e,_,h⟩
 ·refine h.imp id ?_
  rintro ⟨x,hx,y,hy,hy0,h⟩
  rcases List.mem_cons.1 hy with rfl|hy
  ·exact absurd rfl hy0
  ·exact⟨x,hx,y,hy,h⟩
 ·rw [h1,h2]at e;simp at e
theorem OR {S:List Int} (hc:Uj S): ∀(cls:List (List Int)) (set:List Int) (more:Bool),set⊆S->(∀l∈cls,(∀x∈l,x≠0)/\yz S l)->
  ∃set' more',nZ cls set more=some (set',more')/\set'⊆S:=by
 intro cls
 induction cls with
 |nil=>intro set more hs _;exact⟨set,more,rfl,hs⟩
 |cons l r ih=>
  intro set more hs hl
  have h:=YW hs hc (hl l (by simp)).1 (hl l (by simp)).2
  have hr:=fun l' h'=>hl l' (List.mem_cons_of_mem _ h')
  simp only [nZ,h.1,Bool.false_eq_true,if_false]
  split
  ·rename_i hne
   refine ih _ _ ?_ hr
   intro x hx
   rcases List.mem_append.1 hx with hx|hx
   ·exact hs hx
   ·simp only [List.mem_singleton]at hx;subst hx;exact h.2 (by simpa using hne)
  ·exact ih _ _ hs hr
theorem QN : ∀(cls:List (List Int)) (set:List Int) (more:Bool) (set':List Int) (more':Bool),nZ cls set more=some (set',more')->set⊆set':=by
 intro cls
 induction cls with
 |nil=>intro set more set' more' h;simp only [nZ,Option.some.injEq,Prod.mk.injEq]at h;rw [h.1];exact fun x hx=>hx
 |cons l r ih=>
  intro set more set' more' h
  simp only [nZ]at h
  split at h
  ·cases h
  ·split at h
   ·exact fun x hx=>ih _ _ _ _ h (List.mem_append_left _ hx)
   ·exact ih _ _ _ _ h
theorem EF : ∀(cls:List (List Int)) (set:List Int) (more:Bool) (set':List Int),(∀l∈cls,∀x∈l,x≠0)->nZ cls set more=some (set',false)->
  more=false/\set'=set/\ ∀l∈cls,yz set l:=by
 intro cls
 induction cls with
 |nil=>intro set more set' _ h;simp only [nZ,Option.some.injEq,Prod.mk.injEq]at h;exact⟨h.2,h.1.symm,by simp⟩
 |cons l r ih=>
  intro set more set' hl h
  have hr:=fun l' h'=>hl l' (List.mem_cons_of_mem _ h')
  simp only [nZ]at h
  split at h
  ·cases h
  ·rename_i h1
   split at h
   ·have:=(ih _ _ _ hr h).1;cases this
   ·rename_i h2
    obtain⟨e1,e2,e3⟩:=ih _ _ _ hr h
    refine⟨e1,e2,?_⟩
    intro l' h'
    rcases List.mem_cons.1 h' with rfl|h'
    ·exact Qb (hl _ (by simp)) (by simpa using h1) (by simpa using h2)
    ·exact e3 l' h'
theorem zw {cls:List (List Int)} {set:List Int} {v:Int} (hv0:0<=v) (hv:v<=10) (hc:WfC v cls) (k:qX v set):
  mw cls set=match nZ cls set false with|none=>none|some (set',more)=>if more then mw cls set' else some set':=by
 rw [mw]
 cases hp:nZ cls set false with
 |none=>rfl
 |some p=>
  obtain⟨set',more⟩:=p
  obtain⟨k',hl,hm⟩:=sx cls set false k hc _ _ hp
  cases more with
  |false=>rfl
  |true=>
   have h1:set.length<set'.length:=by
    rcases hm rfl with h|h
    ·cases h
    ·exact h
   have h2:=k'.len hv hv0
   simp [h1,h2]
theorem SH {S:List Int} (hS:Uj S) {cls:List (List Int)} {v:Int} (hv0:0<=v) (hv:v<=10) (hc:WfC v cls) (hst: ∀l∈cls,yz S l):
  ∀(n:Nat) (set:List Int),20-set.length<=n->qX v set->set⊆S-> ∃set',mw cls set=some set'/\set'⊆S:=by
 intro n
 induction n with
 |zero=>
  intro set hn k hs
  obtain⟨set',more',hp,hs'⟩:=OR hS cls set false hs (fun l h=>⟨fun x hx=>(hc l h x hx).1,hst l h⟩)
  obtain⟨k',hl,hm⟩:=sx cls set false k hc _ _ hp
  have h2:=k'.len hv hv0
  rw [zw hv0 hv hc k,hp]
  cases more' with
  |false=>exact⟨set',rfl,hs'⟩
  |true=>
   rcases hm rfl with h|h
   ·cases h
   ·omega
 |succ n ih=>
  intro set hn k hs
  obtain⟨set',more',hp,hs'⟩:=OR hS cls set false hs (fun l h=>⟨fun x hx=>(hc l h x hx).1,hst l h⟩)
  obtain⟨k',hl,hm⟩:=sx cls set false k hc _ _ hp
  rw [zw hv0 hv hc k,hp]
  cases more' with
  |false=>exact⟨set',rfl,hs'⟩
  |true=>
   rcases hm rfl with h|h
   ·cases h
   ·exact ih set' (by omega) k' hs'
theorem Jp {cls:List (List Int)} {v:Int} (hv0:0<=v) (hv:v<=10) (hc:WfC v cls):
  ∀(n:Nat) (set set':List Int),20-set.length<=n->qX v set->mw cls set=some set'->set⊆set'/\qX v set'/\ ∀l∈cls,yz set' l:=by
 intro n
 induction n with
 |zero=>
  intro set set' hn k h
  rw [zw hv0 hv hc k]at h
  cases hp:nZ cls set false with
  |none=>rw [hp]at h;cases h
  |some p=>
   obtain⟨s,more⟩:=p
   rw [hp]at h
   obtain⟨k',hl,hm⟩:=sx cls set false k hc _ _ hp
   have h2:=k'.len hv hv0
   cases more with
   |true=>
    rcases hm rfl with h|h
    ·cases h
    ·omega
   |false=>
    simp only [Bool.false_eq_true,if_false,Option.some.injEq]at h
    subst h
    have:=EF cls set false s (fun l h x hx=>(hc l h x hx).1) hp
    rw [this.2.1]
    exact⟨fun x hx=>hx,k,this.2.2⟩
 |succ n ih=>
  intro set set' hn k h
  rw [zw hv0 hv hc k]at h
  cases hp:nZ cls set false with
  |none=>rw [hp]at h;cases h
  |some p=>
   obtain⟨s,more⟩:=p
   rw [hp]at h
   obtain⟨k',hl,hm⟩:=sx cls set false k hc _ _ hp
   cases more with
   |true=>
    rcases hm rfl with h'|h'
    ·cases h'
    ·simp only [if_true]at h
     obtain⟨a,b,c⟩:=ih s set' (by omega) k' h
     exact⟨fun x hx=>a (QN _ _ _ _ _ hp hx),b,c⟩
   |false=>
    simp only [Bool.false_eq_true,if_false,Option.some.injEq]at h
    subst h
    have:=EF cls set false s (fun l h x hx=>(hc l h x hx).1) hp
    rw [this.2.1]
    exact⟨fun x hx=>hx,k,this.2.2⟩
theorem Ux {S:List Int} (hS:Uj S): ∀(g set:List Int),g⊆S->set⊆S-> ∃set',vg g set=some set'/\set'⊆S:=by
 intro g
 induction g with
 |nil=>intro set _ hs;exact⟨set,rfl,hs⟩
 |cons x r ih=>
  intro set hg hs
  have hx:x∈S:=hg (by simp)
  have hr:r⊆S:=fun y hy=>hg (List.mem_cons_of_mem _ hy)
  have hn: ¬set.contains (-x)=true:=fun h=>hS x hx (hs (by simpa using h))
  simp only [vg,if_neg hn]
  refine ih _ hr ?_
  split
  ·exact hs
  ·intro y hy
   rcases List.mem_append.1 hy with hy|hy
   ·exact hs hy
   ·simp only [List.mem_singleton]at hy;subst hy;exact hx
theorem Un : ∀(g set set':List Int),vg g set=some set'->set⊆set'/\g⊆set':=by
 intro g
 induction g with
 |nil=>intro set set' h;simp only [vg,Option.some.injEq]at h;subst h;exact⟨fun x hx=>hx,by simp⟩
 |cons x r ih=>
  intro set set' h
  simp only [vg]at h
  split at h
  ·cases h
  ·obtain⟨h1,h2⟩:=ih _ _ h
   split at h1
   ·rename_i hx
    refine⟨h1,?_⟩
    intro y hy
    rcases List.mem_cons.1 hy with rfl|hy
    ·exact h1 (by simpa using hx)
    ·exact h2 hy
   ·refine⟨fun y hy=>h1 (List.mem_append_left _ hy),?_⟩
    intro y hy
    rcases List.mem_cons.1 hy with rfl|hy
    ·exact h1 (by simp)
    ·exact h2 hy
section
variable {cls :List (List Int)} {given:List Int} {v:Int}
theorem OA (hv0:0<=v) (hv:v<=10) (hc:WfC v cls) (hg:WfL v given) {S:List Int} (hS:Uj S) (hgS:given⊆S) (hst: ∀l∈cls,yz S l):
  ∃set,ld cls given=some set/\set⊆S:=by
 obtain⟨s,h1,h2⟩:=Ux hS given [] hgS (by simp)
 obtain⟨s',h3,h4⟩:=SH hS hv0 hv hc hst _ s (Nat.le_refl _) (DW given [] (ND v) hg s h1) h2
 exact⟨s',by rw [ld,h1];exact h3,h4⟩
theorem yH (hv0:0<=v) (hv:v<=10) (hc:WfC v cls) (hg:WfL v given) {set:List Int} (h:ld cls given=some set):
  Uj set/\given⊆set/\(∀l∈cls,yz set l)/\qX v set:=by
 rw [ld]at h
 cases h1:vg given []with
 |none=>rw [h1]at h;cases h
 |some s=>
  rw [h1]at h
  have k:=DW given [] (ND v) hg s h1
  obtain⟨a,b,c⟩:=Jp hv0 hv hc _ s set (Nat.le_refl _) k h
  exact⟨b.cons,fun x hx=>a ((Un _ _ _ h1).2 hx),c,b⟩
theorem CE (hv0:0<=v) (hv:v<=10) {cls':List (List Int)} {given':List Int} (hc:WfC v cls') (hg:WfL v given') (h1:cls⊆cls') (h2:given⊆given')
  (h:ld cls given=none):ld cls' given'=none:=by
 cases h':ld cls' given' with
 |none=>rfl
 |some set=>
  obtain⟨a,b,c,_⟩:=yH hv0 hv hc hg h'
  obtain⟨s,hs,_⟩:=OA hv0 hv (fun l hl=>hc l (h1 hl)) (fun x hx=>hg x (h2 hx)) a (fun x hx=>b (h2 hx)) (fun l hl=>c l (h1 hl))
  rw [hs]at h;cases h
end
def jH (cls:List (List Int)) (p:List (List Int)):Prop:= ∀(i:Nat) (h:i<p.length),ld (cls++p.take i) (p[i].map (- ·))=none
theorem HZ {v:Int} {l:List Int} (h:WfL v l):WfL v (l.map (- ·)):=by
 intro x hx
 obtain⟨y,hy,rfl⟩:=List.mem_map.1 hx
 have:=h y hy
 omega
theorem yC {v:Int} {a b:List (List Int)} (ha:WfC v a) (hb:WfC v b):WfC v (a++b):=by
 intro l hl
 rcases List.mem_append.1 hl with h|h
 ·exact ha l h
 ·exact hb l h
theorem Ry {v:Int} {a:List (List Int)} (ha:WfC v a) (n:Nat):WfC v (a.take n):=fun l hl=>ha l (List.mem_of_mem_take hl)
theorem jH.mono {v:Int} (hv0:0<=v) (hv:v<=10) {cls cls' p:List (List Int)} (hc:WfC v cls') (hp:WfC v p) (hs:cls⊆cls') (h:jH cls p):jH cls' p:=by
 intro i hi
 refine CE hv0 hv (yC hc (Ry hp i)) (HZ (hp _ (List.getElem_mem hi))) ?_ (fun x hx=>hx) (h i hi)
 intro l hl
 rcases List.mem_append.1 hl with h|h
 ·exact List.mem_append_left _ (hs h)
 ·exact List.mem_append_right _ h
theorem jH.snoc {cls p:List (List Int)} {l:List Int} (h:jH cls p) (hl:ld (cls++p) (l.map (- ·))=none):jH cls (p++ [l]):=by
 intro i hi
 by_cases hlt:i<p.length
 ·rw [List.getElem_append_left hlt,List.take_append_of_le_length (by omega)]
  exact h i hlt
 ·have:i=p.length:=by simp at hi;omega
  subst this
  simp only [List.getElem_append_right (Nat.le_refl _),Nat.sub_self,List.getElem_cons_zero]
  rw [List.take_left' rfl];exact hl
def yU (B:List Int):Prop:= ∀(i:Nat) (h:i<B.length),B[i]=(i:Int)+1\/B[i]= -((i:Int)+1)
theorem yU.snoc {B:List Int} (h:yU B) {x:Int} (hx:x=(B.length:Int)+1\/x= -((B.length:Int)+1)):yU (B++ [x]):=by
 intro i hi
 by_cases hlt:i<B.length
 ·rw [List.getElem_append_left hlt];exact h i hlt
 ·have:i=B.length:=by simp at hi;omega
  subst this
  simp only [List.getElem_append_right (Nat.le_refl _),Nat.sub_self,List.getElem_cons_zero]
  exact hx
def dl :Nat->(Nat->Bool)->Nat
 |0,_=>0
 |n+1,f=>dl n f+(if f n then 2^n else 0)
theorem un (n:Nat) (f:Nat->Bool):dl n f<2^n:=by
 induction n with
 |zero=>simp [dl]
 |succ n ih=>simp only [dl,Nat.pow_succ];split<;>omega
theorem u9 (n:Nat) (f:Nat->Bool): ∀i,i<n->(dl n f).testBit i=f i:=by
 induction n with
 |zero=>intro i h;omega
 |succ n ih=>
  intro i hi
  have hl:=un n f
  simp only [dl]
  by_cases h:i=n
  ·subst h
   cases hf:f i with
   |true=>rw [if_pos rfl,Nat.add_comm,Nat.testBit_two_pow_add_eq,Nat.testBit_lt_two_pow hl];rfl
   |false=>simp [Nat.testBit_lt_two_pow hl]
  ·cases hf:f n with
   |true=>rw [if_pos rfl,Nat.add_comm,Nat.testBit_two_pow_add_gt (by omega)];exact ih i (by omega)
   |false=>simp only [Bool.false_eq_true,if_false,Nat.add_zero];exact ih i (by omega)
structure MI (h:Hp) (K:Nat) (vars:Nat) (tb s:Sl) (ns:List Nd):Prop where
 row:h K=some (.inl ⟨[I vars,tb.v,s.v],3,false⟩)
 buf:Buf h s 3 (cW ns)
 own: ∀a,s.a=some a->a.block≠K
theorem MI.mono {h h':Hp} {K vars:Nat} {tb s:Sl} {ns:List Nd} (l:h.le h') (e:MI h K vars tb s ns):MI h' K vars tb s ns:=⟨l _ _ e.row,e.buf.mono l,e.own⟩
theorem MI.len {h:Hp} {K vars:Nat} {tb s:Sl} {ns:List Nd} (e:MI h K vars tb s ns):s.n=ns.length:=by
 have:=e.buf.1;rw [mY]at this;omega
def fg (h:Hp) (t:Sl) (n:Nat) (T:Nat->Bool):Prop:=sD h t ((List.range n).map T)
theorem fg.mono {h h':Hp} {t:Sl} {n:Nat} {T:Nat->Bool} (l:h.le h') (e:fg h t n T):fg h' t n T:=sD.mono l e
theorem uZ {h:Hp} {c:Bool} {R:Value->Hp->Prop} (k:R (I (if c then 1 else 0)) h):lv #[.bool c] h R:=by
 apply Qq
 refine uf_ ?_
 cases c<;>exact k
def kR (n:Nat) (x:Int):Bool:=decide (0<=x/\x<=((2^n:Nat):Int)-1)
theorem KZ {h:Hp} {s:Sl} {xs:List Int} {n:Nat} {R:Value->Hp->Prop} (hs:IntS h s xs) (hn:n<=62)
  (k:R (.bool (xs.all (kR n))) h):um #[s.v,I n] h R:=by
 apply PK
 refine uf_ ?_
 have h2:=pF (n:=n) (by omega)
 have h0:(0:Int)<((2^n:Nat):Int):=Int.ofNat_lt.2 (Nat.pow_pos (by omega))
 have hb:=hs.bound
 refine au xs.length (fun i vs h'=>vs= [I n,s.v,I xs.length,I i]/\h'=h/\(xs.take i).all (kR n)=true) ⟨by rw [hs.len];rfl,rfl,by simp⟩ ?_
 rintro i _ _ next hi ⟨rfl,rfl,hp⟩ hnx
 refine⟨_,_,_,_,rfl,?_⟩
 by_cases hlt:i<xs.length
 ·obtain⟨b,o,ha,hc⟩:=hs.at hlt
  refine aN (by simp [hlt]) ?_
  simp only [vm,hs.len,ha,hc,ay (n:=i) (by omega)]
  refine⟨by omega,?_⟩
  rw [if_neg (by omega),cv (by omega),bX (by omega) (by omega)]
  refine iM ⟨_,rfl,ad (fun he=>?_) (fun he=>?_)⟩
  ·rwa [Yo (xs:=xs) hlt (by unfold kR;rw [<-Bool.not_eq_true'];exact he)]at k
  ·exact hnx hlt _ _ ⟨rfl,rfl,by rw [aaE hlt,hp];unfold kR;simpa using he⟩
 ·have:i=xs.length:=by omega
  subst this
  rw [List.take_length]at hp
  refine aC (by simp) ?_
  rwa [hp]at k
structure gj (g h:Hp) (bw:Nat) (v:Int) (t:Sl) (xss:List (List Int)):Prop where
 buf: ∃ts:List Sl,Buf h t 1 (ts.map Sl.v)/\ts.length=xss.length/\ ∀(i:Nat) (h1:i<ts.length) (h2:i<xss.length),IntS g ts[i] xss[i]
 le:g.le (h.offS t)
 row:h bw=some (.inl ⟨[I v,t.v],2,false⟩)
 new:g bw=none
 own: ∀a,t.a=some a->a.block≠bw
theorem df {h:Hp} {t:Sl} {c:Nat} {x:Blk} (e:(h.offS t) c=some x):h c=some x/\ ∀a,t.a=some a->a.block≠c:=by
 refine⟨aW _ _ _ _ e,fun a ha hac=>?_⟩
 subst hac
 simp [Hp.offS,ha,Hp.off,Hp.set]at e
theorem gj.keep {g h:Hp} {bw:Nat} {v:Int} {t:Sl} {xss:List (List Int)} (e:gj g h bw v t xss):g.le h:=Hp.le_trans e.le (aW _ _)
theorem gj.len {g h:Hp} {bw:Nat} {v:Int} {t:Sl} {xss:List (List Int)} (e:gj g h bw v t xss):t.n=xss.length:=by
 obtain⟨ts,hb,h1,_⟩:=e.buf
 have:=hb.1;simp at this;omega
theorem gj.blk {g h:Hp} {bw:Nat} {v:Int} {t:Sl} {xss:List (List Int)} (e:gj g h bw v t xss): ∀a,t.a=some a-> ∃ts:List Sl,∃z,h a.block=some (.inl ⟨ts.map Sl.v,z,false⟩):=by
 intro a ha
 obtain⟨ts,hb,_,_⟩:=e.buf
 rcases hb.2.2 with ⟨h0,_⟩|⟨b,hb1,hb2⟩
 ·rw [h0]at ha;cases ha
 ·rw [hb1]at ha;cases ha;exact⟨ts,_,hb2⟩
theorem gj.to {g h g' h':Hp} {bw:Nat} {v v':Int} {t:Sl} {xss:List (List Int)} (e:gj g h bw v t xss) (l:g.le g') (l':g'.le (h'.offS t)) (hr:h' bw=some (.inl ⟨[I v',t.v],2,false⟩))
  (hbuf: ∀a,t.a=some a->h' a.block=h a.block) (hn:g' bw=none):gj g' h' bw v' t xss:=by
 obtain⟨ts,hb,h1,h2⟩:=e.buf
 refine⟨⟨ts,⟨hb.1,hb.2.1,hb.2.2.imp id ?_⟩,h1,fun i a b=>(h2 i a b).mono l⟩,l',hr,hn,e.own⟩
 rintro ⟨b,hb1,hb2⟩
 exact⟨b,hb1,(hbuf _ hb1).trans hb2⟩
theorem gj.lit {g h:Hp} {bw b n:Nat} {v:Int} {t:Sl} {xss:List (List Int)} {cs:List Value} (e:gj g h bw v t xss) (hb:h b=none):gj (g.row b cs n) (h.row b cs n) bw v t xss:=by
 have gb:g b=none:=aF e.keep hb
 have nb:=fresh_ne hb e.row
 have nt: ∀a,t.a=some a->a.block≠b:=fun a ha=>by
  obtain⟨ts,z,hx⟩:=e.blk a ha
  exact fresh_ne hb hx
 refine e.to (gk _ _ gb) ?_ (by rw [ck _ _ nb];exact e.row) (fun a ha=>ck _ _ (nt a ha)) (by rw [ck _ _ nb];exact e.new)
 intro c x hc
 by_cases h':c=b
 ·subst h'
  rw [ie nt,bT];rw [bT]at hc;exact hc
 ·rw [ck _ _ h']at hc
  obtain⟨h1,h2⟩:=df (e.le _ _ hc)
  rw [ie h2,ck _ _ h'];exact h1
theorem gj.app {g h:Hp} {bw b:Nat} {v:Int} {t u:Sl} {xss:List (List Int)} {x:List Int} {K:Option Addr->Nat->Nat->Hp->Prop} (e:gj g h bw v t xss) (hl:xss.length<=1048576) (hu:IntS g u x) (hb:h b=none)
  (k: ∀(t':Sl) (h':Hp),h' bw=some (.inl ⟨[I v,t.v],2,false⟩)->(h.offS t).le (h'.offS t')->gj g (h'.row bw [I v,t'.v] 2) bw v t' (xss++ [x])->K t'.a t'.n t'.c h'):
  cx (h.row b [u.v] 1) t.a t.n t.c (some ⟨b,0,none⟩) 1 1 24 K:=by
 have l:=gk [u.v] 1 hb
 have hn:=e.len
 obtain⟨ts,hbuf,h1,h2⟩:=e.buf
 refine dF (hbuf.mono l) (by omega) (by omega) (by omega) ⟨b,0,rfl,fun i v hi=>?_⟩ (news:= [u.v]) rfl rfl ?_
 ·cases i with
  |zero=>simp at hi;subst hi;exact sq _ _ _ _ _
  |succ i=>simp at hi
 intro t' h' hn' hb' hle _
 have hle':(h.offS t).le (h'.offS t'):=Hp.le_trans (bA t l) hle
 obtain⟨f,o⟩:=lV hle' e.row e.own
 refine k t' h' f hle' ⟨⟨ts++ [u],?_,by simp [h1],?_⟩,?_,bT ..,e.new,o⟩
 ·rw [List.map_append]
  refine⟨hb'.1,hb'.2.1,hb'.2.2.imp id ?_⟩
  rintro ⟨c,hc,hcb⟩
  exact⟨c,hc,by rw [ck _ _ (o _ hc)];exact hcb⟩
 ·intro i a c
  by_cases hi:i<ts.length
  ·rw [List.getElem_append_left hi,List.getElem_append_left (by omega)];exact h2 i hi (by omega)
  ·have:i=ts.length:=by simp at a;omega
   subst this
   simp only [List.getElem_append_right (Nat.le_refl _),Nat.sub_self,List.getElem_cons_zero]
   simp only [h1,List.getElem_append_right (Nat.le_refl _),Nat.sub_self,List.getElem_cons_zero]
   exact hu
 ·intro c x hc
  obtain⟨h3,h4⟩:=df (hle' _ _ (e.le _ _ hc))
  have hcb:c≠bw:=fun hh=>by rw [hh,e.new]at hc;cases hc
  rw [ie h4,ck _ _ hcb];exact h3
structure Rd (h:Hp) (B:Nat) (s:Sl) (bs:List Nat) (p:Nat):Prop where
 row:h B=some (.inl ⟨[s.v,I p],2,false⟩)
 byt:ByteS (h.off B) s bs
theorem Rd.next {h:Hp} {B:Nat} {s:Sl} {bs:List Nat} {p:Nat} (e:Rd h B s bs p) (q:Nat):Rd (h.row B [s.v,I q] 2) B s bs q:=⟨bT ..,by rw [zv];exact e.byt⟩
theorem Rd.to {h h':Hp} {B:Nat} {s:Sl} {bs:List Nat} {p:Nat} (e:Rd h B s bs p) (l:h.le h'):Rd h' B s bs p:=⟨l _ _ e.row,e.byt.mono (Ju _ l)⟩
theorem im.appK {h h':Hp} {t:Sl} {set:List Int} {x:Int} {b:Nat} {K:Option Addr->Nat->Nat->Hp->Prop} (e:im h h' t set) (hl:set.length<=1048576) (hb:h' b=none)
  (k: ∀(t':Sl) (h'':Hp),(h'.offS t).le (h''.offS t')->im h h'' t' (set++ [x])->K t'.a t'.n t'.c h''):cx (h'.row b [I x] 1) t.a t.n t.c (some ⟨b,0,none⟩) 1 1 8 K:=by
 have l:=gk [I x] 1 hb
 exact Sz (e.buf.mono l) hl (sq _ _ _ _ _) fun t' h'' hb' hl'=>k t' h'' (Hp.le_trans (bA t l) hl') ⟨hb',Hp.le_trans (Hp.le_trans e.le (bA t l)) hl'⟩
theorem im.neB {g h:Hp} {o s:Sl} {xs:List Int} (e:im g h o xs) {B p n:Nat} (hB:h B=some (.inl ⟨[s.v,I p],n,false⟩)): ∀a,o.a=some a->a.block≠B:=by
 intro a ha
 rcases e.buf.2.2 with ⟨h0,_⟩|⟨b,hb1,hb2⟩
 ·rw [h0]at ha;cases ha
 ·rw [hb1]at ha;cases ha
  refine eJ hb2 hB ?_
  intro h
  simp only [Sum.inl.injEq,Row.mk.injEq]at h
  rcases xs with _|⟨x,r⟩
  ·simp at h
  ·simp [Sl.v]at h
theorem gj.neB {g h:Hp} {bw:Nat} {v:Int} {t s:Sl} {xss:List (List Int)} (e:gj g h bw v t xss) {B p n:Nat} (hB:h B=some (.inl ⟨[s.v,I p],n,false⟩)): ∀a,t.a=some a->a.block≠B:=by
 intro a ha
 obtain⟨ts,z,hx⟩:=e.blk a ha
 refine eJ hx hB ?_
 intro h
 simp only [Sum.inl.injEq,Row.mk.injEq]at h
 rcases ts with _|⟨t1,_|⟨t2,r⟩⟩
 ·simp at h
 ·simp at h
 ·simp [Sl.v]at h
theorem gj.ne3 {g h:Hp} {bw:Nat} {v:Int} {t:Sl} {xss:List (List Int)} (e:gj g h bw v t xss) {B n:Nat} {x:Int} {y:List Value} (hB:h B=some (.inl ⟨I x::y,n,false⟩)): ∀a,t.a=some a->a.block≠B:=by
 intro a ha
 obtain⟨ts,z,hx⟩:=e.blk a ha
 refine eJ hx hB ?_
 intro h
 simp only [Sum.inl.injEq,Row.mk.injEq]at h
 rcases ts with _|⟨t1,r⟩
 ·simp at h
 ·simp [Sl.v]at h
theorem rZ {h:Hp} {t:Sl} {c:Nat} {x:Blk} (e:h c=some x) (d: ∀a,t.a=some a->a.block≠c):(h.offS t) c=some x:=by rw [ie d];exact e
structure CS (h0:Hp) (B b3 b9:Nat) (s:Sl) (c:Nat) (h:Hp) (v:Int) (t:Sl) (cls:List (List Int)):Prop where
 rd: ∃q,q<=c/\h B=some (.inl ⟨[s.v,I (q:Nat)],2,false⟩)
 r3:h b3=some (.inl ⟨[I 0, .slice none 0 0],2,false⟩)
 n39:b3≠b9
 fr:(h0.off B).le (h.offS t)
 fr9:h0 b9=none
 fr3:h0 b3=none
 gr: ∃g:Hp,(∀c x,g c=some x->h0 c=none/\c≠b3)/\gj g h b9 v t cls
section
variable {h0 h:Hp} {B b3 b9 c p0:Nat} {s t:Sl} {v:Int} {cls:List (List Int)} {bs:List Nat}
theorem CS.row (e:CS h0 B b3 b9 s c h v t cls):h b9=some (.inl ⟨[I v,t.v],2,false⟩):=by obtain⟨g,_,hg⟩:=e.gr;exact hg.row
theorem CS.frame (e:CS h0 B b3 b9 s c h v t cls):(h0.off B).le h:=Hp.le_trans e.fr (aW _ _)
theorem CS.nB9 (e:CS h0 B b3 b9 s c h v t cls):b9≠B:=by
 obtain⟨q,_,hq⟩:=e.rd
 exact eJ e.row hq (by intro h;simp [Sl.v]at h)
theorem CS.nB3 (e:CS h0 B b3 b9 s c h v t cls):b3≠B:=by
 obtain⟨q,_,hq⟩:=e.rd
 exact eJ e.r3 hq (by intro h;simp [Sl.v]at h)
theorem CS.app (e:CS h0 B b3 b9 s c h v t cls) (hB: ∃x,h0 B=some x) {h2:Hp} {o:Sl} {xs:List Int} {q2 c2 b:Nat} {K:Option Addr->Nat->Nat->Hp->Prop} (hl:cls.length<=1048576) (hx:xs.length<=1048576)
  (hgr:im (h.off B) h2 o xs) (hr2:h2 B=some (.inl ⟨[s.v,I (q2:Nat)],2,false⟩)) (hq2:q2<=c2) (hb:h2 b=none)
  (k: ∀(t':Sl) (h3:Hp),h3 b9=some (.inl ⟨[I v,t.v],2,false⟩)->CS h0 B b3 b9 s c2 (h3.row b9 [I v,t'.v] 2) v t' (cls++ [xs])->K t'.a t'.n t'.c h3):
  cx (h2.row b [o.v] 1) t.a t.n t.c (some ⟨b,0,none⟩) 1 1 24 K:=by
 obtain⟨g,hg,gr⟩:=e.gr
 obtain⟨q,hq,hr⟩:=e.rd
 have base: ∀c x,h c=some x->c≠B->h2 c=some x/\ ∀a,o.a=some a->a.block≠c:=by
  intro c x hc hcB
  exact df (hgr.le c x (by rw [Hp.off,Hp.set_ne _ _ hcB];exact hc))
 have r9:=base _ _ gr.row e.nB9
 have r3:=base _ _ e.r3 e.nB3
 have tB:=gr.neB hr
 have oB:=hgr.neB hr2
 have t3:=gr.ne3 e.r3
 have tblk: ∀a,t.a=some a->h2 a.block=h a.block/\ ∀a',o.a=some a'->a'.block≠a.block:=by
  intro a ha
  obtain⟨ts,z,hx⟩:=gr.blk a ha
  obtain⟨h1,h2⟩:=base _ _ hx (tB a ha)
  exact⟨h1.trans hx.symm,h2⟩
 have hg': ∀c x,((h2.sub h0).wo ([b9,b3]++t.blk)) c=some x->h2 c=some x/\h0 c=none/\c≠b3/\c≠b9/\ ∀a,t.a=some a->a.block≠c:=by
  intro c x hc
  have hm:c∉ [b9,b3]++t.blk:=fun hm=>by rw [fN hm]at hc;cases hc
  rw [uW hm]at hc
  have h1:h0 c=none:=lO (by rw [hc];simp)
  rw [k8 h1]at hc
  simp only [List.cons_append,List.nil_append,List.mem_cons,not_or]at hm
  exact⟨hc,h1,hm.2.1,hm.1,fun a ha hac=>hm.2.2 (by unfold Sl.blk;rw [ha];simp [hac])⟩
 have hgi: ∀c x,h2 c=some x->h0 c=none->c≠b3->c≠b9->(∀a,t.a=some a->a.block≠c)->((h2.sub h0).wo ([b9,b3]++t.blk)) c=some x:=by
  intro c x h1 h2 h3 h4 h5
  rw [uW,k8 h2]
  ·exact h1
  ·simp only [List.cons_append,List.nil_append,List.mem_cons,not_or]
   refine⟨h4,h3,fun hm=>?_⟩
   unfold Sl.blk at hm
   split at hm
   ·simp at hm
   ·rename_i a ha;simp at hm;exact h5 a ha hm.symm
 have gr':gj ((h2.sub h0).wo ([b9,b3]++t.blk)) h2 b9 v t cls:=by
  refine gr.to ?_ ?_ r9.1 (fun a ha=>(tblk a ha).1) (fN (by simp))
  ·intro c x hc
   obtain⟨g1,g2⟩:=df (gr.le _ _ hc)
   have hn:=hg _ _ hc
   have hcB:c≠B:=fun hh=>by obtain⟨y,hy⟩:=hB;rw [hh,hy]at hn;cases hn.1
   exact hgi c x (base c x g1 hcB).1 hn.1 hn.2 (fun hh=>by rw [hh,gr.new]at hc;cases hc) g2
  ·intro c x hc
   obtain⟨g1,g2,g3,g4,g5⟩:=hg' c x hc
   exact rZ g1 g5
 have hu:IntS ((h2.sub h0).wo ([b9,b3]++t.blk)) o xs:=by
  refine wV.ints ⟨hgr.buf.1,hgr.buf.2.1,hgr.buf.2.2.imp id ?_⟩ hx
  rintro ⟨d,hd,hdb⟩
  refine⟨d,hd,hgi _ _ hdb ?_ ?_ ?_ ?_⟩
  ·cases hx:h0 d with
   |none=>rfl
   |some x=>
    have hdB:d≠B:=oB _ hd
    have:=e.frame d x (by rw [Hp.off,Hp.set_ne _ _ hdB];exact hx)
    exact absurd rfl ((base d x this hdB).2 _ hd)
  ·exact r3.2 _ hd
  ·exact r9.2 _ hd
  ·intro a ha hab
   exact(tblk a ha).2 _ hd hab.symm
 refine gr'.app hl hu hb fun t' h3 f9 hk hgd=>k t' h3 f9 ?_
 have kp: ∀c x,h2 c=some x->(∀a,t.a=some a->a.block≠c)->h3 c=some x/\ ∀a,t'.a=some a->a.block≠c:=by
  intro c x h1 h2
  exact df (hk _ _ (rZ h1 h2))
 have n9: ∀a,t.a=some a->a.block≠b9:=gr.own
 refine⟨⟨q2,hq2,by rw [ck _ _ e.nB9.symm];exact(kp _ _ hr2 tB).1⟩,by rw [ck _ _ e.n39];exact(kp _ _ r3.1 t3).1,e.n39,?_,e.fr9,e.fr3,_,fun c x hc=>⟨(hg' c x hc).2.1,(hg' c x hc).2.2.1⟩,hgd⟩
 intro c x hc
 have hcB:c≠B:=fun hh=>by rw [hh,vG]at hc;cases hc
 have hc9:c≠b9:=fun hh=>by rw [hh,Hp.off,Hp.set_ne _ _ e.nB9,e.fr9]at hc;cases hc
 obtain⟨g1,g2⟩:=df (e.fr _ _ hc)
 obtain⟨g3,g4⟩:=kp _ _ (base c x g1 hcB).1 g2
 rw [ie g4,ck _ _ hc9];exact g3
theorem CS.lit (e:CS h0 B b3 b9 s c h v t cls) {b n:Nat} {cs:List Value} (hb:h b=none):CS h0 B b3 b9 s c (h.row b cs n) v t cls:=by
 obtain⟨g,hg,gr⟩:=e.gr
 obtain⟨q,hq,hr⟩:=e.rd
 have tb: ∀{c x},(h.offS t) c=some x->((h.row b cs n).offS t) c=some x:=by
  intro c x hc
  obtain⟨h1,h2⟩:=df hc
  rw [ie h2,ck _ _ (fresh_ne hb h1)];exact h1
 exact⟨⟨q,hq,by rw [ck _ _ (fresh_ne hb hr)];exact hr⟩,by rw [ck _ _ (fresh_ne hb e.r3)];exact e.r3,e.n39,fun c x hc=>tb (e.fr _ _ hc),e.fr9,e.fr3,g,hg,
  gr.to (Hp.le_refl _) (fun c x hc=>tb (gr.le _ _ hc)) (by rw [ck _ _ (fresh_ne hb gr.row)];exact gr.row) (fun a ha=>by
   obtain⟨ts,z,hx⟩:=gr.blk a ha
   exact ck _ _ (fresh_ne hb hx)) gr.new⟩
end
theorem eg.up {h h' h'':Hp} {t:Sl} {xss:List (List Int)} (e:eg h h' t xss) (l:h'.le h''):eg h h'' t xss:=by
 obtain⟨ts,h1,h2,h3⟩:=e.buf
 exact⟨⟨ts,h1.mono l,h2,h3⟩,Hp.le_trans e.le (bA t l)⟩
def nG (v:Int) (cls p:List (List Int)):Bool:=eM v cls&&(decide (p.length<=300)&&p.all (ij v))
theorem nG.iff {v:Int} {cls p:List (List Int)}:nG v cls p=true↔eM v cls=true/\p.length<=300/\ ∀l∈p,ij v l=true:=by
 simp [nG,List.all_eq_true]
theorem eg.len {g h:Hp} {o:Sl} {out:List (List Int)} (e:eg g h o out):o.n=out.length:=by
 obtain⟨ts,hb,h1,_⟩:=e.buf
 have:=hb.1;simp at this;omega
theorem eg.base {g g2 h:Hp} {o:Sl} {out:List (List Int)} (e:eg g h o out) (l:g.le g2) (l2:g2.le (h.offS o)):eg g2 h o out:=by
 obtain⟨ts,h1,h2,h3⟩:=e.buf
 exact⟨⟨ts,h1,h2,fun i a b=>(h3 i a b).mono l⟩,l2⟩
theorem eg.blk {g h:Hp} {o:Sl} {out:List (List Int)} (e:eg g h o out): ∀a,o.a=some a-> ∃x,h a.block=some x:=by
 intro a ha
 obtain⟨ts,hb,_,_⟩:=e.buf
 rcases hb.2.2 with ⟨h0,_⟩|⟨b,hb1,hb2⟩
 ·rw [h0]at ha;cases ha
 ·rw [hb1]at ha;cases ha;exact⟨_,hb2⟩
theorem im.apart {h2 h3:Hp} {u o:Sl} {xs:List Int} (hg:im h2 h3 u xs) (ho: ∀a,o.a=some a-> ∃x,h2 a.block=some x): ∀a a',u.a=some a->o.a=some a'->a.block≠a'.block:=by
 intro a a' ha ha'
 obtain⟨x,hx⟩:=ho a' ha'
 exact(df (hg.le _ _ hx)).2 a ha
theorem im.offS {h2 h3:Hp} {u o:Sl} {xs:List Int} (hg:im h2 h3 u xs) (ho: ∀a,o.a=some a-> ∃x,h2 a.block=some x):wV (h3.offS o) u xs:=by
 refine⟨hg.buf.1,hg.buf.2.1,hg.buf.2.2.imp id ?_⟩
 rintro ⟨b,hb1,hb2⟩
 exact⟨b,hb1,rZ hb2 fun a ha=>(hg.apart ho _ a hb1 ha).symm⟩
theorem im.beside {h0 h' h'':Hp} {a b b':Sl} {xs:List Int} (e:im h0 h' a xs) (l0:h0.le (h'.offS b)) (hk:(h'.offS b).le (h''.offS b')) (nab: ∀x y,a.a=some x->b.a=some y->y.block≠x.block):
  im h0 h'' a xs/\ ∀x y,a.a=some x->b'.a=some y->y.block≠x.block:=by
 constructor
 ·refine⟨⟨e.buf.1,e.buf.2.1,e.buf.2.2.imp id ?_⟩,?_⟩
  ·rintro ⟨c,hc,hcb⟩
   exact⟨c,hc,(df (hk _ _ (rZ hcb fun y hy=>nab _ y hc hy))).1⟩
  ·intro c x hc
   obtain⟨g1,g2⟩:=df (e.le _ _ hc)
   obtain⟨g3,g4⟩:=df (l0 _ _ hc)
   exact rZ (df (hk _ _ (rZ g1 g4))).1 g2
 ·intro x y hx hy
  rcases e.buf.2.2 with ⟨h0,_⟩|⟨c,hc,hcb⟩
  ·rw [h0]at hx;cases hx
  ·rw [hc]at hx;cases hx
   exact(df (hk _ _ (rZ hcb fun y hy=>nab _ y hc hy))).2 y hy
theorem IntS.one {h:Hp} {b:Nat} {x:Int} {n:Nat} {ro:Bool} (e:h b=some (.inl ⟨[I x],n,ro⟩)):IntS h ⟨some ⟨b,0,none⟩,1,1⟩ [x]:=⟨by simp,by simp, .inr ⟨b,0,rfl,aw e⟩⟩
theorem eg.appK {g h:Hp} {t u:Sl} {xss:List (List Int)} {x:List Int} {b:Nat} {K:Option Addr->Nat->Nat->Hp->Prop} (e:eg g h t xss) (hl:xss.length<=1048576) (hu:IntS g u x) (hb:h b=none)
  (k: ∀(t':Sl) (h'':Hp),(h.offS t).le (h''.offS t')->eg g h'' t' (xss++ [x])->K t'.a t'.n t'.c h''):cx (h.row b [u.v] 1) t.a t.n t.c (some ⟨b,0,none⟩) 1 1 24 K:=by
 have l:=gk [u.v] 1 hb
 have hn:=e.len
 obtain⟨ts,hbuf,h1,h2⟩:=e.buf
 refine dF (hbuf.mono l) (by omega) (by omega) (by omega) ⟨b,0,rfl,fun i v hi=>?_⟩ (news:= [u.v]) rfl rfl ?_
 ·cases i with
  |zero=>simp at hi;subst hi;exact sq _ _ _ _ _
  |succ i=>simp at hi
 ·intro t' h'' hn' hb' hle _
  have hle':(h.offS t).le (h''.offS t'):=Hp.le_trans (bA t l) hle
  refine k t' h'' hle' ⟨⟨ts++ [u],by rw [List.map_append];exact hb',by simp [h1],?_⟩,Hp.le_trans e.le hle'⟩
  intro i a c
  by_cases hi:i<ts.length
  ·rw [List.getElem_append_left hi,List.getElem_append_left (by omega)];exact h2 i hi (by omega)
  ·have:i=ts.length:=by simp at a;omega
   subst this
   simp only [List.getElem_append_right (Nat.le_refl _),Nat.sub_self,List.getElem_cons_zero]
   simp only [h1,List.getElem_append_right (Nat.le_refl _),Nat.sub_self,List.getElem_cons_zero]
   exact hu
theorem eg.neB {g h:Hp} {t s:Sl} {xss:List (List Int)} (e:eg g h t xss) {B p n:Nat} (hB:h B=some (.inl ⟨[s.v,I p],n,false⟩)): ∀a,t.a=some a->a.block≠B:=by
 intro a ha
 obtain⟨ts,hb,_,_⟩:=e.buf
 rcases hb.2.2 with ⟨h0,_⟩|⟨c,hc,hcb⟩
 ·rw [h0]at ha;cases ha
 ·rw [hc]at ha;cases ha
  refine eJ hcb hB ?_
  intro h
  simp only [Sum.inl.injEq,Row.mk.injEq]at h
  rcases ts with _|⟨t1,_|⟨t2,r⟩⟩
  ·simp at h
  ·simp at h
  ·simp [Sl.v]at h
structure PS (h:Hp) (B:Nat) (s:Sl) (c:Nat) (g h':Hp) (t:Sl) (res:List (List Int)):Prop where
 rd: ∃q,q<=c/\h' B=some (.inl ⟨[s.v,I (q:Nat)],2,false⟩)
 gr:eg g h' t res
 new: ∀c x,g c=some x->h c=none
 fr:(h.off B).le (h'.offS t)
section
variable {h g h':Hp} {B c:Nat} {s t:Sl} {res:List (List Int)} {bs:List Nat}
theorem PS.frame (e:PS h B s c g h' t res):(h.off B).le h':=Hp.le_trans e.fr (aW _ _)
theorem PS.lit (e:PS h B s c g h' t res) (hB: ∃x,h B=some x) {b n:Nat} {cs:List Value} (hb:h' b=none):PS h B s c (g.row b cs n) (h'.row b cs n) t res:=by
 obtain⟨q,hq,hr⟩:=e.rd
 have nB:=fresh_ne hb hr
 have hb0:h b=none:=by
  cases hx:h b with
  |none=>rfl
  |some x=>
   have:=e.frame b x (by rw [Hp.off,Hp.set_ne _ _ nB.symm];exact hx)
   rw [hb]at this;cases this
 have tb: ∀a,t.a=some a->a.block≠b:=fun a ha=>by
  obtain⟨x,hx⟩:=e.gr.blk a ha
  exact fresh_ne hb hx
 have key: ∀c x,c≠b->(h'.offS t) c=some x->((h'.row b cs n).offS t) c=some x:=by
  intro c x hcB hc
  obtain⟨h1,h2⟩:=df hc
  rw [ie h2,ck _ _ hcB];exact h1
 have gb:g b=none:=aF e.gr.keep hb
 refine⟨⟨q,hq,by rw [ck _ _ nB];exact hr⟩,(e.gr.up (gk cs n hb)).base (gk _ _ gb) ?_,?_,fun c x hc=>key c x (fun hh=>by rw [hh,Hp.off,Hp.set_ne _ _ nB.symm,hb0]at hc;cases hc) (e.fr _ _ hc)⟩
 ·intro c x hc
  by_cases hcb:c=b
  ·subst hcb
   rw [bT]at hc
   rw [ie tb,bT];exact hc
  ·rw [ck _ _ hcb]at hc
   exact key c x hcb (e.gr.le _ _ hc)
 ·intro c x hc
  by_cases hcb:c=b
  ·subst hcb;exact hb0
  ·rw [ck _ _ hcb]at hc;exact e.new _ _ hc
theorem PS.app {u:Sl} {x:List Int} {b:Nat} {K:Option Addr->Nat->Nat->Hp->Prop} (e:PS h B s c g h' t res) (hl:res.length<=1048576) (hu:IntS g u x) (hb:h' b=none)
  (k: ∀(t':Sl) (h'':Hp),PS h B s c g h'' t' (res++ [x])->K t'.a t'.n t'.c h''):cx (h'.row b [u.v] 1) t.a t.n t.c (some ⟨b,0,none⟩) 1 1 24 K:=by
 obtain⟨q,hq,hr⟩:=e.rd
 exact e.gr.appK hl hu hb fun t' h'' hk gr=>k t' h'' ⟨⟨q,hq,(df (hk _ _ (rZ hr (e.gr.neB hr)))).1⟩,gr,e.new,Hp.le_trans e.fr hk⟩
end
def fv (w:Nat) (n:Int):Nat:=(n%((2^w:Nat):Int)).toNat
def sgn (w a:Nat):Int:=if 2^(w-1)<=a then(a:Int)-((2^w:Nat):Int)else a
theorem bP (w:Nat):0<2^w:=Nat.pow_pos (by omega)
theorem kG (w:Nat) (n:Int):fv w n<2^w:=by
 unfold fv
 have h:=Int.emod_lt_of_pos n (b:=((2^w:Nat):Int)) (Int.ofNat_lt.2 (bP w))
 have h0:=Int.emod_nonneg n (b:=((2^w:Nat):Int)) (by have:=bP w;omega)
 omega
theorem nr (w a:Nat):fv w (a:Int)=a%2^w:=by
 unfold fv
 rw [<-Int.natCast_emod,Int.toNat_natCast]
theorem zr (w:Nat) (n:Int):((fv w n:Nat):Int)=n%((2^w:Nat):Int):=by
 unfold fv
 have h0:=Int.emod_nonneg n (b:=((2^w:Nat):Int)) (by have:=bP w;omega)
 omega
theorem si {w:Nat} (h:1<=w):2^w=2*2^(w-1):=by
 obtain⟨n,rfl⟩: ∃n,w=n+1:=⟨w-1,by omega⟩
 rw [Nat.pow_succ,Nat.add_sub_cancel];omega
theorem Nx {w a:Nat} (h:1<=w) (ha:a<2^w): -((2^(w-1):Nat):Int)<=sgn w a/\sgn w a<((2^(w-1):Nat):Int):=by
 have:=si h
 unfold sgn;split<;>omega
theorem aa6 {w:Nat} (h:1<=w) (n:Int):sgn w (fv w n)=n↔ -((2^(w-1):Nat):Int)<=n/\n<((2^(w-1):Nat):Int):=by
 have hp:=si h
 have hl:=kG w n
 have hb:=Nx h hl
 constructor
 ·intro e;rw [e]at hb;exact hb
 ·rintro ⟨h1,h2⟩
  have hc:=zr w n
  have h3:n%((2^w:Nat):Int)=if n<0 then n+((2^w:Nat):Int)else n:=by
   split
   ·rw [<-Int.add_emod_right,Int.emod_eq_of_lt (by omega) (by omega)]
   ·rw [Int.emod_eq_of_lt (by omega) (by omega)]
  rw [h3]at hc
  unfold sgn
  split at hc<;>split<;>omega
theorem ku {w x:Nat} {f:Nat->Bool} (hx:x<2^w) (h: ∀i,i<w->x.testBit i=f i):dl w f=x:=by
 apply Nat.eq_of_testBit_eq
 intro i
 by_cases hi:i<w
 ·rw [u9 _ _ _ hi,h i hi]
 ·rw [Nat.testBit_lt_two_pow (Nat.lt_of_lt_of_le (un w f) (Nat.pow_le_pow_right (by omega) (by omega))),
   Nat.testBit_lt_two_pow (Nat.lt_of_lt_of_le hx (Nat.pow_le_pow_right (by omega) (by omega)))]
theorem vv {w:Nat} {f g:Nat->Bool} (h: ∀i,i<w->f i=g i):dl w f=dl w g:=ku (un _ _) fun i hi=>by rw [u9 _ _ _ hi,h i hi]
theorem TT {w p:Nat} {f:Nat->Bool} (hp:p<w) (hf:f p=false):dl w f+2^p=dl w (fun i=>f i||decide (i=p)):=by
 induction w with
 |zero=>omega
 |succ w ih=>
  simp only [dl]
  by_cases h:p=w
  ·subst h
   have:dl p (fun i=>f i||decide (i=p))=dl p f:=vv fun i hi=>by simp;omega
   rw [this];simp [hf]
  ·have:=ih (by omega)
   have e:(f w||decide (w=p))=f w:=by simp;omega
   simp only [e]
   omega
def kU :Nat->Nat->Nat
 |0,_=>0
 |w+1,a=>kU w a+(if a.testBit w then 1 else 0)
theorem RW (w a:Nat):kU w a<=w:=by
 induction w with
 |zero=>simp [kU]
 |succ w ih=>simp only [kU];split<;>omega
theorem Th {w a:Nat} (ha:a<2^w):kU w a=w↔a=2^w-1:=by
 have key: ∀w,kU w a=w↔ ∀i,i<w->a.testBit i=true:=by
  intro w
  induction w with
  |zero=>simp [kU]
  |succ w ih=>
   have:=RW w a
   simp only [kU]
   constructor
   ·intro h i hi
    by_cases hw:a.testBit w=true
    ·rw [if_pos hw]at h
     by_cases hiw:i=w
     ·subst hiw;exact hw
     ·exact ih.1 (by omega) i (by omega)
    ·rw [if_neg hw]at h;omega
   ·intro h
    rw [if_pos (h w (by omega)),ih.2 fun i hi=>h i (by omega)]
 rw [key]
 constructor
 ·intro h
  apply Nat.eq_of_testBit_eq
  intro i
  rw [Nat.testBit_two_pow_sub_one]
  by_cases hi:i<w
  ·rw [h i hi];simp [hi]
  ·rw [Nat.testBit_lt_two_pow (Nat.lt_of_lt_of_le ha (Nat.pow_le_pow_right (by omega) (by omega)))];simp [hi]
 ·rintro rfl i hi
  rw [Nat.testBit_two_pow_sub_one];simpa using hi
theorem LJ {w a b:Nat} (ha:a<2^w):dl w (fun i=>a.testBit i&&b.testBit i)=a&&&b:=
 ku (Nat.lt_of_le_of_lt Nat.and_le_left ha) fun i _=>by rw [Nat.testBit_and]
theorem Vm {w a b:Nat} (ha:a<2^w) (hb:b<2^w):dl w (fun i=>a.testBit i||b.testBit i)=a|||b:=
 ku (Nat.or_lt_two_pow ha hb) fun i _=>by rw [Nat.testBit_or]
theorem ach {w a b:Nat} (ha:a<2^w) (hb:b<2^w):dl w (fun i=>a.testBit i^^b.testBit i)=a^^^b:=
 ku (Nat.xor_lt_two_pow ha hb) fun i _=>by rw [Nat.testBit_xor]
def aec (w a b:Nat):Nat:=a*2^min b w%2^w
def aeA (w a b:Nat):Nat:=a/2^min b w
def aeh (w a b:Nat):Nat:=fv w (sgn w a/((2^min b w:Nat):Int))
theorem ab5 {w a b:Nat}:dl w (fun i=>decide (b<=i)&&a.testBit (i-b))=aec w a b:=by
 unfold aec
 refine ku (Nat.mod_lt _ (bP w)) fun i hi=>?_
 rw [Nat.testBit_mod_two_pow,Nat.mul_comm,Nat.testBit_two_pow_mul]
 have:decide (i<w)=true:=by simpa using hi
 rw [this,Bool.true_and]
 by_cases h:b<=i
 ·rw [Nat.min_eq_left (by omega)]
 ·have h1:decide (b<=i)=false:=by simpa using h
  have h2:decide (min b w<=i)=false:=by simp;omega
  simp [h1,h2]
theorem aaI {w a b:Nat} (ha:a<2^w):dl w (fun i=>decide (i+b<w)&&a.testBit (i+b))=aeA w a b:=by
 unfold aeA
 refine ku (Nat.lt_of_le_of_lt (Nat.div_le_self _ _) ha) fun i hi=>?_
 rw [Nat.testBit_div_two_pow]
 by_cases h:i+b<w
 ·rw [Nat.min_eq_left (by omega)];simp [h]
 ·have h1:decide (i+b<w)=false:=by simpa using h
  rw [h1,Bool.false_and]
  refine Nat.testBit_lt_two_pow (Nat.lt_of_lt_of_le ha (Nat.pow_le_pow_right (by omega) ?_))
  omega
theorem abC {w a b:Nat} (hw:1<=w) (hw16:w<=16) (ha:a<2^w):dl w (fun i=>if i+b<w then a.testBit (i+b)else a.testBit (w-1))=aeh w a b:=by
 have hp:=si hw
 have top:a.testBit (w-1)=decide (2^(w-1)<=a):=by
  rw [Nat.testBit_eq_decide_div_mod_eq]
  by_cases h:2^(w-1)<=a
  ·have:a/2^(w-1)=1:=by
    rw [Nat.div_eq_iff (bP _)];omega
   simp [this,h]
  ·have:a/2^(w-1)=0:=Nat.div_eq_of_lt (by omega)
   simp [this,h]
 have hb:min b w<=w:=Nat.min_le_right _ _
 have small: ∀i,i<w->i+b<w->min b w=b:=fun i _ h=>Nat.min_eq_left (by omega)
 unfold aeh
 refine ku (kG _ _) fun i hi=>?_
 by_cases hs:2^(w-1)<=a
 ·--with the sign
  have e1:sgn w a=(a:Int)-((2^w:Nat):Int):=by unfold sgn;rw [if_pos hs]
  have e2:fv w (sgn w a/((2^min b w:Nat):Int))=((a+2^w*(2^16-1))/2^min b w)%2^w:=by
   have h1:sgn w a=((a+2^w*(2^16-1):Nat):Int)-((2^min b w:Nat):Int)*((2^(w+16-min b w):Nat):Int):=by
    have h2:2^min b w*2^(w+16-min b w)=2^w*2^16:=by rw [<-Nat.pow_add,<-Nat.pow_add];congr 1;omega
    rw [e1,<-Int.natCast_mul,h2]
    have:2^w*(2^16-1)+2^w=2^w*2^16:=by rw [<-Nat.mul_succ]
    omega
   have hpos:((2^min b w:Nat):Int)≠0:=by have:=bP (min b w);omega
   have h3:sgn w a/((2^min b w:Nat):Int)=(((a+2^w*(2^16-1))/2^min b w:Nat):Int)-((2^w:Nat):Int)*((2^(16-min b w):Nat):Int):=by
    rw [h1,Int.sub_eq_add_neg,<-Int.mul_neg,Int.add_mul_ediv_left _ _ hpos,<-Int.natCast_ediv]
    have:2^(w+16-min b w)=2^w*2^(16-min b w):=by rw [<-Nat.pow_add];congr 1;omega
    rw [this,Int.natCast_mul];omega
   rw [h3]
   unfold fv
   rw [Int.sub_mul_emod_self_left,<-Int.natCast_emod,Int.toNat_natCast]
  rw [e2,Nat.testBit_mod_two_pow,Nat.testBit_div_two_pow,Nat.add_comm a,Nat.testBit_two_pow_mul_add _ ha]
  have hd:decide (i<w)=true:=by simpa using hi
  rw [hd,Bool.true_and]
  by_cases h:i+b<w
  ·have hm:=small i hi h
   rw [if_pos h,hm,if_pos (by omega)]
  ·have hm: ¬i+min b w<w:=by omega
   rw [if_neg h,if_neg hm,Nat.testBit_two_pow_sub_one,top]
   simp only [hs,decide_true,decide_eq_true_eq]
   omega
 ·have e1:sgn w a=a:=by unfold sgn;rw [if_neg hs]
  rw [e1,<-Int.natCast_ediv,nr,Nat.testBit_mod_two_pow,Nat.testBit_div_two_pow]
  have hd:decide (i<w)=true:=by simpa using hi
  rw [hd,Bool.true_and]
  by_cases h:i+b<w
  ·rw [if_pos h,small i hi h]
  ·rw [if_neg h,top]
   have hm: ¬i+min b w<w:=by omega
   have:decide (2^(w-1)<=a)=false:=by simpa using hs
   rw [this]
   exact Nat.testBit_lt_two_pow (Nat.lt_of_lt_of_le ha (Nat.pow_le_pow_right (by omega) (by omega)))
def Dd (w a k:Nat):Nat:=((a*2^k)|||(a/2^(w-k)))%2^w
theorem aeK {w a k i:Nat} (ha:a<2^w) (hk:k<w) (hi:i<w):(Dd w a k).testBit i=a.testBit ((i+(w-k))%w):=by
 unfold Dd
 rw [Nat.testBit_mod_two_pow,Nat.testBit_or,Nat.mul_comm,Nat.testBit_two_pow_mul,Nat.testBit_div_two_pow]
 have hd:decide (i<w)=true:=by simpa using hi
 rw [hd,Bool.true_and]
 by_cases h:k<=i
 ·have e:(i+(w-k))%w=i-k:=by
   have:i+(w-k)=(i-k)+w:=by omega
   rw [this,Nat.add_mod_right,Nat.mod_eq_of_lt (by omega)]
  have z:a.testBit (i+(w-k))=false:=Nat.testBit_lt_two_pow (Nat.lt_of_lt_of_le ha (Nat.pow_le_pow_right (by omega) (by omega)))
  rw [e,z];simp [h]
 ·have e:(i+(w-k))%w=i+(w-k):=Nat.mod_eq_of_lt (by omega)
  rw [e]
  have:decide (k<=i)=false:=by simpa using h
  rw [this];simp
theorem abG {w a k:Nat} (ha:a<2^w) (hk:k<w):dl w (fun j=>a.testBit ((j+(w-k))%w))=Dd w a k:=
 ku (Nat.mod_lt _ (bP w)) fun i hi=>aeK ha hk hi
theorem YT {w a k i:Nat} (hk:k<w) (hi:i<w):
  dl w (fun j=>decide ((j+(w-k))%w<i)&&a.testBit ((j+(w-k))%w))+(if a.testBit i then 2^((i+k)%w)else 0)=
   dl w (fun j=>decide ((j+(w-k))%w<i+1)&&a.testBit ((j+(w-k))%w)):=by
 have hpw:(i+k)%w<w:=Nat.mod_lt _ (by omega)
 have back:((i+k)%w+(w-k))%w=i:=by
  rw [Nat.mod_add_mod]
  have:i+k+(w-k)=i+w:=by omega
  rw [this,Nat.add_mod_right,Nat.mod_eq_of_lt hi]
 have inj: ∀j,j<w->((j+(w-k))%w=i↔j=(i+k)%w):=by
  intro j hj
  constructor
  ·intro h
   have:(j+(w-k)+k)%w=(i+k)%w:=by rw [<-h,Nat.mod_add_mod]
   rw [<-this]
   have:j+(w-k)+k=j+w:=by omega
   rw [this,Nat.add_mod_right,Nat.mod_eq_of_lt hj]
  ·rintro rfl;exact back
 cases hb:a.testBit i with
 |false=>
  simp only [Bool.false_eq_true,if_false,Nat.add_zero]
  refine vv fun j hj=>?_
  by_cases h:(j+(w-k))%w=i
  ·rw [h,hb];simp
  ·have:decide ((j+(w-k))%w<i+1)=decide ((j+(w-k))%w<i):=by
    rw [decide_eq_decide];omega
   rw [this]
 |true=>
  simp only [if_true]
  rw [TT hpw (by rw [back];simp)]
  refine vv fun j hj=>?_
  by_cases h:j=(i+k)%w
  ·have h2:=(inj j hj).2 h
   rw [h2,hb];simp [h]
  ·have h2: ¬(j+(w-k))%w=i:=fun e=>h ((inj j hj).1 e)
   have:decide ((j+(w-k))%w<i+1)=decide ((j+(w-k))%w<i):=by
    rw [decide_eq_decide];omega
   rw [this];simp [h]
def yI (kind:Int) (w a:Nat):Nat×Nat:=
 if kind=1 then(2^w-1-a,w)else if kind=2 then(fv w (-(a:Int)),w)else if kind=3 then(if a=0 then 0 else 1,1)else
 if kind=4 then(if a=2^w-1 then 1 else 0,1)else(kU w a%2,1)
def Oy (w a b:Nat):Nat:=if sgn w b=0 then(if sgn w a<0 then 1 else 2^w-1)else fv w (Int.tdiv (sgn w a) (sgn w b))
def N1 (w a b:Nat):Nat:=if sgn w b=0 then a else fv w (Int.tmod (sgn w a) (sgn w b))
def Bh (kind:Int) (w a b:Nat):Bool:=
 if kind=21 then decide (a=b)else if kind=22 then decide (a<b)else if kind=23 then decide (sgn w a<sgn w b)else
 if kind=24 then decide (a<=b)else if kind=25 then decide (sgn w a<=sgn w b)else if kind=26 then decide (2^w<=a+b)else
 if kind=27 then !decide (-((2^(w-1):Nat):Int)<=sgn w a+sgn w b/\sgn w a+sgn w b<((2^(w-1):Nat):Int))else decide (2^w<=a*b)
def Az (kind:Int) (w a b:Nat):Nat:=
 if kind=6 then a&&&b else if kind=7 then a|||b else if kind=8 then a^^^b else if kind=9 then fv w ((a:Int)+b)else
 if kind=10 then fv w ((a:Int)-b)else if kind=11 then fv w ((a:Int)*b)else if kind=12 then(if b=0 then 2^w-1 else a/b)else
 if kind=13 then(if b=0 then a else a%b)else if kind=14 then Oy w a b else if kind=15 then N1 w a b else
 if kind=16 then aec w a b else if kind=17 then aeA w a b else if kind=18 then aeh w a b else if kind=19 then Dd w a (b%w)else Dd w a ((w-b%w)%w)
def pY (kind:Int) (w a b:Nat):Nat×Nat:=if kind<=20 then(Az kind w a b,w)else(if Bh kind w a b then 1 else 0,1)
theorem aep {kind:Int} {w a:Nat} (hw:1<=w) (ha:a<2^w):(yI kind w a).1<2^(yI kind w a).2:=by
 have:=bP w
 unfold yI
 split
 ·simp only;omega
 ·split
  ·exact kG _ _
  ·split
   ·simp only;split<;>omega
   ·split
    ·simp only;split<;>omega
    ·simp only;omega
theorem Vg (w a k:Nat):Dd w a k<2^w:=Nat.mod_lt _ (bP w)
theorem kX {c:Prop} [Decidable c] {x y n:Nat} (hx:x<n) (hy:y<n):(if c then x else y)<n:=by
 by_cases h:c
 ·rw [if_pos h];exact hx
 ·rw [if_neg h];exact hy
theorem aar {kind:Int} {w a b:Nat} (hw:1<=w) (ha:a<2^w) (hb:b<2^w):Az kind w a b<2^w:=by
 have hp:=bP w
 have hp1:1<2^w:=by
  have:=si hw;have:=bP (w-1);omega
 unfold Az
 refine kX (Nat.lt_of_le_of_lt Nat.and_le_left ha) (kX (Nat.or_lt_two_pow ha hb) (kX (Nat.xor_lt_two_pow ha hb) (kX (kG _ _) (kX (kG _ _) (kX (kG _ _)
  (kX (kX (by omega) (Nat.lt_of_le_of_lt (Nat.div_le_self _ _) ha)) (kX (kX ha (Nat.lt_of_le_of_lt (Nat.mod_le _ _) ha)) (kX ?_ (kX ?_ (kX (Nat.mod_lt _ hp)
  (kX (Nat.lt_of_le_of_lt (Nat.div_le_self _ _) ha) (kX (kG _ _) (kX (Vg _ _ _) (Vg _ _ _))))))))))))))
 ·unfold Oy
  exact kX (kX hp1 (by omega)) (kG _ _)
 ·unfold N1
  exact kX ha (kG _ _)
theorem adT {kind:Int} {w a b:Nat} (hw:1<=w) (ha:a<2^w) (hb:b<2^w):(pY kind w a b).1<2^(pY kind w a b).2:=by
 unfold pY
 split
 ·exact aar hw ha hb
 ·simp only;split<;>omega
theorem ahN {w a b:Nat} (hw:1<=w):(sgn w (fv w (sgn w a+sgn w b))≠sgn w a+sgn w b)↔ ¬(-((2^(w-1):Nat):Int)<=sgn w a+sgn w b/\sgn w a+sgn w b<((2^(w-1):Nat):Int)):=by
 rw [ne_eq,aa6 hw]
structure SortP where
 idx:Int
 wid:Int
 deriving DecidableEq
structure NodeP where
 kind:Int
 a:Int
 b:Int
 c:Int
 n:Int
 m:Int
 sort:SortP
 name:ByteArray
structure BindP where
 state:Int
 node:Int
 deriving DecidableEq
structure ah where
 nodes:List NodeP
 inits:List BindP
 nexts:List BindP
 bads:List Int
 holds:List Int
def bV (s:SortP):Bool:=decide ((0<=s.idx/\s.idx<=2)/\(1<=s.wid/\s.wid<=16))
def di (s:SortP):Nat:=if bV s then 2^s.idx.toNat else 0
def dT (s:SortP):Nat:=di s*s.wid.toNat
def cT (w:Int):SortP:=⟨0,w⟩
def ai (kind:Int):Int:=
 if(1<=kind/\kind<=5)\/(30<=kind/\kind<=32)then 1 else if(6<=kind/\kind<=29)\/kind=37 then 2 else if kind=33\/kind=38 then 3 else
 if 34<=kind/\kind<=36 then 0 else-1
def je (c:UInt8):Bool:=decide (97<=c.toNat/\c.toNat<=122)
def qO (c:UInt8):Bool:=decide (48<=c.toNat/\c.toNat<=57)
def gp (s:ByteArray):Bool:=decide (1<=s.size/\s.size<=8)&&(match s.data.toList with| []=>false|c::r=>je c&&r.all fun c=>je c||qO c)
def cY (kind:Int):Bool:=decide (kind=35\/kind=36)
def nF (k:Int) (len:Nat) (i:Int) (p:Int):Bool:=if i<k then decide (0<=p/\p<=(len:Int)-1)else decide (p=0)
def fL (len:Nat) (n:NodeP):Bool:=
 decide (0<=ai n.kind)&&(nF (ai n.kind) len 0 n.a&&nF (ai n.kind) len 1 n.b&&nF (ai n.kind) len 2 n.c)&&
 (if cY n.kind then gp n.name else decide (n.name.size=0))&&(decide (n.kind=30)||decide (n.m=0))&&
 (decide (n.kind=30\/n.kind=31\/n.kind=32\/n.kind=34)||decide (n.n=0))
def jT (w v:Int):Bool:=decide ((1<=w/\w<=16)/\0<=v/\v<=((2^w.toNat:Nat):Int)-1)
def dh (n:NodeP) (a b c:SortP):Option SortP:=
 if n.kind=33 then(if a=cT 1/\b=c then some b else none)else
 if n.kind=37 then(if 0<a.idx/\b=cT a.idx then some (cT a.wid)else none)else
 if n.kind=38 then(if 0<a.idx/\b=cT a.idx/\c=cT a.wid then some a else none)else
 if n.kind=21 then(if a=b then some (cT 1)else none)else
 if 0<a.idx\/(ai n.kind=2/\0<b.idx)then none else
 if n.kind=29 then(if a.wid+b.wid<=16 then some (cT (a.wid+b.wid))else none)else
 if n.kind=30 then(if(0<=n.n/\n.n<=a.wid-1)/\0<=n.m/\n.m<=n.n then some (cT (n.n-n.m+1))else none)else
 if n.kind=31\/n.kind=32 then(if 0<=n.n/\n.n<=16-a.wid then some (cT (a.wid+n.n))else none)else
 if n.kind<=5 then some (cT (if n.kind<=2 then a.wid else 1))else
 if a=b then some (cT (if n.kind<=20 then a.wid else 1))else none
def aq (l:List NodeP) (p:Int):SortP:=match l[p.toNat]? with|some n=>n.sort|none=>⟨0,0⟩
def da (l:List NodeP) (n:NodeP):Option SortP:=
 if l.length<=60/\fL l.length n=true then
  (if ai n.kind=0 then(if(if n.kind=34 then decide (n.sort.idx=0)&&jT n.sort.wid n.n else bV n.sort)then some n.sort else none)else
   if bV (aq l n.a)&&((decide (ai n.kind<2)||bV (aq l n.b))&&(decide (ai n.kind<3)||bV (aq l n.c)))then
    dh n (aq l n.a) (aq l n.b) (aq l n.c)else none)
 else none
def bQ (l:List NodeP):Bool:=(List.range l.length).all fun i=>match l[i]? with|some n=>decide (da (l.take i) n=some n.sort)|none=>true
def gH {α:Type} [DecidableEq α] (l:List α):Bool:=(List.range l.length).any fun i=>match l[i]? with|some x=>(l.take i).any fun y=>decide (y=x)|none=>false
def fD (l:List NodeP):Bool:=(List.range l.length).any fun i=>match l[i]? with|some n=>decide (n.name.size≠0)&&(l.take i).any fun y=>decide (y.name=n.name)|none=>false
def uH (m:ah):Bool:=fD m.nodes||(gH (m.inits.map (·.state))||gH (m.nexts.map (·.state)))
def dR (l:List NodeP):Nat->List Bool
 |0=> []
 |i+1=>dR l i++ [match l[i]? with
   |some n=>cY n.kind||((decide (0<ai n.kind)&&(dR l i).getD n.a.toNat false)||((decide (1<ai n.kind)&&(dR l i).getD n.b.toNat false)||(decide (2<ai n.kind)&&(dR l i).getD n.c.toNat false)))
   |none=>false]
def cV (l:List NodeP) (p:Int):Bool:=decide (0<=p/\p<=(l.length:Int)-1)
def gt (l:List NodeP) (p:Int):Int:=match l[p.toNat]? with|some n=>n.kind|none=>0
def jd (l:List NodeP) (b:BindP):Bool:=
 (cV l b.state&&cV l b.node&&decide (gt l b.state=36))&&((decide (aq l b.state=aq l b.node)||decide (aq l b.node=cT (aq l b.state).wid))&& !(dR l l.length).getD b.node.toNat false)
def ge (l:List NodeP) (b:BindP):Bool:=(cV l b.state&&cV l b.node&&decide (gt l b.state=36))&&decide (aq l b.state=aq l b.node)
def de (l:List NodeP) (p:Int):Bool:=cV l p&&decide (aq l p=cT 1)
def ak (l:List NodeP) (kind:Int):Nat:=((l.filter fun n=>decide (n.kind=kind)).map fun n=>dT n.sort).sum
def av (l:List NodeP) (kind:Int):List Nat:=(List.range l.length).filter fun i=>match l[i]? with|some n=>decide (n.kind=kind)|none=>false
def aG (m:ah):Int:=
 if 60<m.nodes.length\/60<m.inits.length\/60<m.nexts.length\/4<m.bads.length\/4<m.holds.length then 1 else
 if bQ m.nodes=false then 2 else if uH m=true then 3 else
 if(m.inits.all (jd m.nodes)&&m.nexts.all (ge m.nodes))=false then 4 else
 if(m.bads.all (de m.nodes)&&m.holds.all (de m.nodes))=false then 5 else
 if 8<ak m.nodes 36\/5<ak m.nodes 35 then 6 else 0
def aK (v:List (List Nat)) (p:Int):Nat:=(v.getD p.toNat []).getD 0 0
def Jf (a lo n:Nat):Nat:=a/2^lo%2^n
def ET (w a more:Nat) (signed:Bool):Nat:=if signed then fv (w+more) (sgn w a)else a
def bC (l:List NodeP) (n:NodeP) (v:List (List Nat)):List Nat:=
 if n.kind=34 then [n.n.toNat]else
 if n.kind=33 then(if aK v n.a=1 then v.getD n.b.toNat []else v.getD n.c.toNat [])else
 if n.kind=21 then [if v.getD n.a.toNat []=v.getD n.b.toNat []then 1 else 0]else
 if n.kind=37 then [(v.getD n.a.toNat []).getD (aK v n.b) 0]else
 if n.kind=38 then(v.getD n.a.toNat []).set (aK v n.b) (aK v n.c)else
 if n.kind=29 then [aK v n.a*2^(aq l n.b).wid.toNat+aK v n.b]else
 if n.kind=30 then [Jf (aK v n.a) n.m.toNat (n.n-n.m+1).toNat]else
 if n.kind=31\/n.kind=32 then [ET (aq l n.a).wid.toNat (aK v n.a) n.n.toNat (decide (n.kind=32))]else
 if ai n.kind=1 then [(yI n.kind (aq l n.a).wid.toNat (aK v n.a)).1]else [(pY n.kind (aq l n.a).wid.toNat (aK v n.a) (aK v n.b)).1]
def dp (l:List NodeP) (s inp:List (List Nat)):Nat->List (List Nat)
 |0=> []
 |i+1=>dp l s inp i++ [match l[i]? with
   |some n=>if n.kind=36 then s.getD (av (l.take i) 36).length []else if n.kind=35 then inp.getD (av (l.take i) 35).length []else bC l n (dp l s inp i)
   |none=> []]
def dP (n:NodeP):List Nat:=([n.a.toNat,n.b.toNat,n.c.toNat]).take (ai n.kind).toNat
theorem qH (k:Int):ai k=0\/ai k=1\/ai k=2\/ai k=3\/ai k= -1:=by
 unfold ai
 by_cases h1:(1<=k/\k<=5)\/(30<=k/\k<=32)
 ·rw [if_pos h1];simp
 rw [if_neg h1]
 by_cases h2:(6<=k/\k<=29)\/k=37
 ·rw [if_pos h2];simp
 rw [if_neg h2]
 by_cases h3:k=33\/k=38
 ·rw [if_pos h3];simp
 rw [if_neg h3]
 by_cases h4:34<=k/\k<=36
 ·rw [if_pos h4];simp
 rw [if_neg h4];simp
def DD (l:List NodeP):Prop:= ∀(i:Nat) (n:NodeP),l[i]?=some n->0<=ai n.kind/\ ∀p∈dP n,p<i
def tZ (l:List NodeP) (j:Nat):Bool:=match l[j]? with|some n=>cY n.kind|none=>false
def js (l:List NodeP) (j:Nat):Bool:=(dR l l.length).getD j false
theorem jQ (l:List NodeP): ∀i,(dR l i).length=i:=by
 intro i
 induction i with
 |zero=>rfl
 |succ i ih=>simp only [dR,List.length_append,ih,List.length_cons,List.length_nil]
theorem ON (l:List NodeP): ∀d i j,j<i->(dR l (i+d)).getD j false=(dR l i).getD j false:=by
 intro d
 induction d with
 |zero=>intro i j _;rfl
 |succ d ih=>
  intro i j hj
  rw [<-Nat.add_assoc]
  simp only [dR]
  have hl:=jQ l (i+d)
  rw [List.getD,List.getElem?_append_left (by omega)]
  exact ih i j hj
theorem vz {l:List NodeP} {i j:Nat} (hj:j<i) (hi:i<=l.length):(dR l i).getD j false=js l j:=by
 have:=ON l (l.length-i) i j hj
 rw [show i+(l.length-i)=l.length by omega]at this
 exact this.symm
theorem uO {l:List NodeP} (ha:DD l) {i:Nat} {n:NodeP} (hn:l[i]?=some n):js l i=true↔cY n.kind=true\/ ∃p∈dP n,js l p=true:=by
 have hi:i<l.length:=(List.getElem?_eq_some_iff.1 hn).1
 obtain⟨hk,hp⟩:=ha i n hn
 have e:js l i=(cY n.kind||((decide (0<ai n.kind)&&(dR l i).getD n.a.toNat false)||((decide (1<ai n.kind)&&(dR l i).getD n.b.toNat false)||(decide (2<ai n.kind)&&(dR l i).getD n.c.toNat false)))):=by
  rw [<-vz (Nat.lt_succ_self i) hi]
  simp only [dR]
  have hl:=jQ l i
  rw [List.getD,List.getElem?_append_right (by omega),hl,Nat.sub_self]
  simp only [hn,List.getElem?_cons_zero,Option.getD_some]
 rw [e]
 unfold dP at hp⊢
 rcases qH n.kind with h|h|h|h|h
 ·simp [h]
 ·rw [h]at hp⊢
  have h1:=hp n.a.toNat (by simp)
  rw [vz h1 (by omega)]
  simp
 ·rw [h]at hp⊢
  have h1:=hp n.a.toNat (by simp)
  have h2:=hp n.b.toNat (by simp)
  rw [vz h1 (by omega),vz h2 (by omega)]
  simp
 ·rw [h]at hp⊢
  have h1:=hp n.a.toNat (by simp)
  have h2:=hp n.b.toNat (by simp)
  have h3:=hp n.c.toNat (by simp)
  rw [vz h1 (by omega),vz h2 (by omega),vz h3 (by omega)]
  simp
 ·omega
def ka (l:List NodeP):Nat->(Nat->Bool)->Nat->Bool
 |0,S=>S
 |i+1,S=>ka l i (if S i then fun j=>S j||(match l[i]? with|some n=>(dP n).contains j|none=>false)else S)
theorem WJ {l:List NodeP} (ha:DD l): ∀(i:Nat) (S:Nat->Bool),i<=l.length->
  ((∃j,ka l i S j=true/\tZ l j=true)↔(∃j,i<=j/\S j=true/\tZ l j=true)\/ ∃j,j<i/\S j=true/\js l j=true):=by
 intro i
 induction i with
 |zero=>intro S _;simp [ka]
 |succ i ih=>
  intro S hi
  simp only [ka]
  rw [ih _ (by omega)]
  obtain⟨n,hn⟩: ∃n,l[i]?=some n:=⟨l[i],List.getElem?_eq_getElem (by omega)⟩
  have hm:=uO ha hn
  have hp:=(ha i n hn).2
  have hnm:tZ l i=cY n.kind:=by unfold tZ;rw [hn]
  by_cases hS:S i=true
  ·simp only [hS,if_true,hn]
   constructor
   ·rintro (⟨j,h1,h2,h3⟩|⟨j,h1,h2,h3⟩)
    ·by_cases hji:j=i
     ·subst hji
      exact .inr ⟨j,by omega,hS,hm.2 (.inl (hnm▸h3))⟩
     ·rcases Bool.or_eq_true_iff.1 h2 with h2|h2
      ·exact .inl ⟨j,by omega,h2,h3⟩
      ·have:=hp j (by simpa using h2);omega
    ·rcases Bool.or_eq_true_iff.1 h2 with h2|h2
     ·exact .inr ⟨j,by omega,h2,h3⟩
     ·exact .inr ⟨i,by omega,hS,hm.2 (.inr ⟨j,by simpa using h2,h3⟩)⟩
   ·rintro (⟨j,h1,h2,h3⟩|⟨j,h1,h2,h3⟩)
    ·exact .inl ⟨j,by omega,by simp [h2],h3⟩
    ·by_cases hji:j=i
     ·subst hji
      rcases hm.1 h3 with h4|⟨p,hp1,hp2⟩
      ·exact .inl ⟨j,Nat.le_refl _,by simp [hS],hnm▸h4⟩
      ·exact .inr ⟨p,hp p hp1,by simp [hp1],hp2⟩
     ·exact .inr ⟨j,by omega,by simp [h2],h3⟩
  ·simp only [hS,if_false]
   constructor
   ·rintro (⟨j,h1,h2,h3⟩|⟨j,h1,h2,h3⟩)
    ·by_cases hji:j=i
     ·subst hji;exact absurd h2 hS
     ·exact .inl ⟨j,by omega,h2,h3⟩
    ·exact .inr ⟨j,by omega,h2,h3⟩
   ·rintro (⟨j,h1,h2,h3⟩|⟨j,h1,h2,h3⟩)
    ·exact .inl ⟨j,by omega,h2,h3⟩
    ·by_cases hji:j=i
     ·subst hji;exact absurd h2 hS
     ·exact .inr ⟨j,by omega,h2,h3⟩
theorem aeO {l:List NodeP} (ha:DD l) {i:Nat} (hi:i<l.length):(∃j,ka l (i+1) (fun j=>decide (j=i)) j=true/\tZ l j=true)↔js l i=true:=by
 rw [WJ ha _ _ (by omega)]
 constructor
 ·rintro (⟨j,h1,h2,h3⟩|⟨j,h1,h2,h3⟩)
  ·simp at h2;omega
  ·simp at h2;subst h2;exact h3
 ·intro h;exact .inr ⟨i,by omega,by simp,h⟩
theorem aeR {l:List NodeP} (ha:DD l) (k:Nat): ∀(i:Nat) (S:Nat->Bool),i<=k+1->i<=l.length->(∀j,S j=true->j<=k)-> ∀j,ka l i S j=true->j<=k:=by
 intro i
 induction i with
 |zero=>intro S _ _ hS j hj;exact hS j hj
 |succ i ih=>
  intro S hk hi hS j hj
  simp only [ka]at hj
  refine ih _ (by omega) (by omega) ?_ j hj
  intro j' hj'
  split at hj'
  ·rcases Bool.or_eq_true_iff.1 hj' with h|h
   ·exact hS j' h
   ·obtain⟨n,hn⟩: ∃n,l[i]?=some n:=⟨l[i],List.getElem?_eq_getElem (by omega)⟩
    rw [hn]at h
    have:=(ha i n hn).2 j' (by simpa using h)
    omega
  ·exact hS j' hj'
def np (w:Nat):Nat->Nat->List Nat
 |0,_=> []
 |c+1,code=>np w c code++ [code/2^(w*c)%2^w]
def bJ (l:List NodeP) (p:Nat):Nat:=(aq l p).wid.toNat
def aE (l:List NodeP) (p:Nat):Nat:=di (aq l p)
def cH (l:List NodeP) (ps:List Nat):Nat:=(ps.map fun p=>bJ l p*aE l p).sum
def dM (l:List NodeP) (ps:List Nat) (code:Nat):List (List Nat):=
 (List.range ps.length).map fun i=>np (bJ l (ps.getD i 0)) (aE l (ps.getD i 0)) (code/2^cH l (ps.take i))
theorem sA (w c code:Nat):(np w c code).length=c:=by
 induction c with
 |zero=>rfl
 |succ c ih=>simp only [np,List.length_append,ih,List.length_cons,List.length_nil]
theorem Wi {w c code x:Nat} (h:x∈np w c code):x<2^w:=by
 induction c with
 |zero=>cases h
 |succ c ih=>
  simp only [np,List.mem_append,List.mem_singleton]at h
  rcases h with h|h
  ·exact ih h
  ·subst h;exact Nat.mod_lt _ (bP w)
theorem jV (l:List NodeP) (ps:List Nat) (code:Nat):(dM l ps code).length=ps.length:=by simp [dM]
theorem Wl {α:Type} {l:List α} {i:Nat} {x:α} (h:l[i]?=some x):i<l.length:=by
 rcases Nat.lt_or_ge i l.length with h'|h'
 ·exact h'
 ·rw [List.getElem?_eq_none h']at h;cases h
theorem DG {l:List NodeP} {ps:List Nat} {code i p:Nat} (h:ps[i]?=some p):(dM l ps code).getD i []=np (bJ l p) (aE l p) (code/2^cH l (ps.take i)):=by
 have hlt:=Wl h
 have hp:ps.getD i 0=p:=by rw [List.getD_eq_getElem?_getD,h];rfl
 unfold dM
 rw [List.getD_eq_getElem?_getD,List.getElem?_map,List.getElem?_range hlt]
 simp only [Option.map_some,Option.getD_some,hp]
theorem ny {l:List NodeP} {ps:List Nat} {i p:Nat} (h:ps[i]?=some p):cH l (ps.take (i+1))=cH l (ps.take i)+bJ l p*aE l p:=by
 have hlt:=Wl h
 rw [List.getElem?_eq_getElem hlt]at h
 unfold cH
 rw [List.take_succ_eq_append_getElem hlt,Option.some.inj h,List.map_append,List.sum_append];simp
theorem Ik (l:List NodeP) (ps:List Nat) (i:Nat):cH l (ps.take i)<=cH l ps:=by
 conv=>rhs;rw [<-List.take_append_drop i ps]
 unfold cH
 rw [List.map_append,List.sum_append];omega
def gO (w:Nat):List Nat->Nat
 | []=>0
 |x::xs=>x+2^w*gO w xs
theorem A2 {w:Nat}: ∀{xs:List Nat},(∀x∈xs,x<2^w)->gO w xs<2^(w*xs.length):=by
 intro xs
 induction xs with
 |nil=>intro _;simp [gO]
 |cons x xs ih=>
  intro h
  have h1:=ih fun y hy=>h y (by simp [hy])
  have h2:=h x (by simp)
  simp only [gO,List.length_cons]
  rw [Nat.mul_add,Nat.mul_one,Nat.pow_add,Nat.mul_comm (2^(w*xs.length))]
  have h3:=Nat.mul_le_mul_left (2^w) (Nat.succ_le_of_lt h1)
  rw [Nat.succ_eq_add_one,Nat.mul_add,Nat.mul_one]at h3
  omega
theorem Kv (w:Nat) (xs:List Nat) (x:Nat):gO w (xs++ [x])=gO w xs+2^(w*xs.length)*x:=by
 induction xs with
 |nil=>simp [gO]
 |cons y ys ih=>
  simp only [List.cons_append,gO,ih,List.length_cons]
  rw [Nat.mul_add,<-Nat.add_assoc]
  congr 1
  rw [Nat.mul_add w,Nat.mul_one,Nat.add_comm (w*ys.length),Nat.pow_add,Nat.mul_assoc]
theorem Jb (w:Nat) (code k:Nat): ∀c,c<=k->np w c (code%2^(w*k))=np w c code:=by
 intro c
 induction c with
 |zero=>intro _;rfl
 |succ c ih=>
  intro h
  simp only [np,ih (by omega)]
  congr 2
  have hk:w*k=w*c+(w+w*(k-c-1)):=by
   have:k=c+(1+(k-c-1)):=by omega
   conv=>lhs;rw [this]
   simp only [Nat.mul_add,Nat.mul_one]
  rw [hk,Nat.pow_add,Nat.mod_mul_right_div_self,Nat.pow_add,Nat.mod_mul_right_mod]
theorem WM {w:Nat}: ∀{xs:List Nat} {k:Nat},(∀x∈xs,x<2^w)->k<xs.length->gO w xs/2^(w*k)%2^w=xs.getD k 0:=by
 intro xs
 induction xs with
 |nil=>intro k _ h;simp at h
 |cons x xs ih=>
  intro k h hk
  have hx:=h x (by simp)
  have hp:=bP w
  cases k with
  |zero=>
   simp only [gO,Nat.mul_zero,Nat.pow_zero,Nat.div_one,List.getD_cons_zero]
   rw [Nat.add_mul_mod_self_left,Nat.mod_eq_of_lt hx]
  |succ k=>
   rw [List.getD_cons_succ,<-ih (fun y hy=>h y (by simp [hy])) (by simpa using hk)]
   simp only [gO]
   rw [Nat.mul_add,Nat.mul_one,Nat.add_comm (w*k),Nat.pow_add,<-Nat.div_div_eq_div_mul,Nat.add_mul_div_left _ _ hp,Nat.div_eq_of_lt hx,Nat.zero_add]
theorem Gb {w:Nat} {xs:List Nat} (h: ∀x∈xs,x<2^w):np w xs.length (gO w xs)=xs:=by
 have key: ∀c,c<=xs.length->np w c (gO w xs)=xs.take c:=by
  intro c
  induction c with
  |zero=>intro _;rfl
  |succ c ih=>
   intro hc
   rw [np,ih (by omega),WM h (by omega),List.take_succ_eq_append_getElem (by omega),List.getD_eq_getElem?_getD,List.getElem?_eq_getElem (by omega)];rfl
 have:=key xs.length (Nat.le_refl _)
 rwa [List.take_length]at this
def nbA (l:List NodeP) (p:Nat):Nat:=bJ l p*aE l p
def tm (l:List NodeP):List Nat->Nat->List (List Nat)
 | [],_=> []
 |p::ps,code=>np (bJ l p) (aE l p) code::tm l ps (code/2^nbA l p)
def dX (l:List NodeP):List Nat->List (List Nat)->Nat
 | [],_=>0
 |p::ps,vs=>gO (bJ l p) (vs.headD [])+2^nbA l p*dX l ps vs.tail
def jM (l:List NodeP):List Nat->List (List Nat)->Prop
 | [],vs=>vs= []
 |p::ps,vs=> ∃v r,vs=v::r/\v.length=aE l p/\(∀x∈v,x<2^bJ l p)/\jM l ps r
theorem rf (l:List NodeP) (p:Nat) (ps:List Nat):cH l (p::ps)=nbA l p+cH l ps:=by simp [cH,nbA]
theorem jI (l:List NodeP): ∀(ps:List Nat) (code:Nat),dM l ps code=tm l ps code:=by
 intro ps
 induction ps with
 |nil=>intro code;simp [dM,tm]
 |cons p ps ih=>
  intro code
  rw [tm,<-ih]
  unfold dM
  rw [List.length_cons,List.range_succ_eq_map,List.map_cons,List.map_map]
  simp only [List.getD_cons_zero,List.take_zero,cH,List.map_nil,List.sum_nil,Nat.pow_zero,Nat.div_one,List.cons.injEq,true_and]
  apply List.map_congr_left
  intro i _
  simp only [Function.comp,List.getD_cons_succ,List.take_succ_cons,List.map_cons,List.sum_cons,nbA]
  rw [Nat.pow_add,Nat.div_div_eq_div_mul]
theorem LG (l:List NodeP): ∀(ps:List Nat) (code:Nat),jM l ps (tm l ps code):=by
 intro ps
 induction ps with
 |nil=>intro code;rfl
 |cons p ps ih=>exact fun code=>⟨_,_,rfl,sA _ _ _,fun x hx=>Wi hx,ih _⟩
theorem xK {l:List NodeP}: ∀{ps:List Nat} {vs:List (List Nat)},jM l ps vs->dX l ps vs<2^cH l ps:=by
 intro ps
 induction ps with
 |nil=>intro vs _;simp [dX,cH]
 |cons p ps ih=>
  rintro _ ⟨v,r,rfl,h1,h2,h3⟩
  have h4:=ih h3
  have h5:=A2 h2
  rw [h1]at h5
  have h5':gO (bJ l p) v<2^nbA l p:=h5
  simp only [dX,List.headD_cons,List.tail_cons]
  rw [rf,Nat.pow_add]
  have h6:=Nat.mul_le_mul_left (2^nbA l p) (Nat.succ_le_of_lt h4)
  rw [Nat.succ_eq_add_one,Nat.mul_add,Nat.mul_one]at h6
  omega
theorem nf {l:List NodeP}: ∀{ps:List Nat} {vs:List (List Nat)},jM l ps vs->tm l ps (dX l ps vs)=vs:=by
 intro ps
 induction ps with
 |nil=>rintro vs rfl;rfl
 |cons p ps ih=>
  rintro _ ⟨v,r,rfl,h1,h2,h3⟩
  have h5:=A2 h2
  rw [h1]at h5
  have h5':gO (bJ l p) v<2^nbA l p:=h5
  simp only [tm,dX,List.headD_cons,List.tail_cons]
  rw [Nat.add_mul_div_left _ _ (bP _),Nat.div_eq_of_lt h5',Nat.zero_add,ih h3,<-Jb _ _ _ _ (Nat.le_refl _)]
  have:(gO (bJ l p) v+2^nbA l p*dX l ps r)%2^(bJ l p*aE l p)=gO (bJ l p) v:=by
   show _%2^nbA l p=_
   rw [Nat.add_mul_mod_self_left,Nat.mod_eq_of_lt h5']
  rw [this,<-h1,Gb h2]
theorem jX {l:List NodeP}: ∀{ps:List Nat} {vs:List (List Nat)},jM l ps vs->vs.length=ps.length:=by
 intro ps
 induction ps with
 |nil=>rintro vs rfl;rfl
 |cons p ps ih=>rintro _ ⟨v,r,rfl,h1,h2,h3⟩;simp [ih h3]
theorem TF {l:List NodeP}: ∀{ps:List Nat} {vs:List (List Nat)} {p:Nat} {v:List Nat},vs.length=ps.length->
  dX l (ps++ [p]) (vs++ [v])=dX l ps vs+2^cH l ps*gO (bJ l p) v:=by
 intro ps
 induction ps with
 |nil=>
  intro vs p v h
  obtain rfl:vs= []:=List.eq_nil_of_length_eq_zero (by simpa using h)
  simp [dX,cH]
 |cons q ps ih=>
  intro vs p v h
  obtain⟨u,r,rfl⟩: ∃u r,vs=u::r:=by
   cases vs with
   |nil=>simp at h
   |cons u r=>exact⟨u,r,rfl⟩
  simp only [List.cons_append,dX,List.headD_cons,List.tail_cons]
  rw [ih (by simpa using h),rf,Nat.pow_add,Nat.mul_add,Nat.mul_assoc,Nat.add_assoc]
theorem YC {l:List NodeP}: ∀{ps:List Nat} {vs:List (List Nat)},jM l ps vs-> ∀i,jM l (ps.take i) (vs.take i):=by
 intro ps
 induction ps with
 |nil=>rintro vs rfl i;simp [jM]
 |cons p ps ih=>
  rintro _ ⟨v,r,rfl,h1,h2,h3⟩ i
  cases i with
  |zero=>rfl
  |succ i=>exact⟨v,r.take i,rfl,h1,h2,ih h3 i⟩
theorem lF {l:List NodeP}: ∀{ps:List Nat} {vs:List (List Nat)},jM l ps vs-> ∀{i p:Nat},ps[i]?=some p->(vs.getD i []).length=aE l p/\ ∀x∈vs.getD i [],x<2^bJ l p:=by
 intro ps
 induction ps with
 |nil=>rintro vs rfl i p h;simp at h
 |cons q ps ih=>
  rintro _ ⟨v,r,rfl,h1,h2,h3⟩ i p h
  cases i with
  |zero=>simp at h;subst h;exact⟨h1,h2⟩
  |succ i=>exact ih h3 (by simpa using h)
theorem Wg {l:List NodeP}: ∀{ps:List Nat} {vs:List (List Nat)},vs.length=ps.length->(∀(i p:Nat),ps[i]?=some p->(vs.getD i []).length=aE l p/\ ∀x∈vs.getD i [],x<2^bJ l p)->jM l ps vs:=by
 intro ps
 induction ps with
 |nil=>intro vs h _;exact List.eq_nil_of_length_eq_zero (by simpa using h)
 |cons q ps ih=>
  intro vs h hg
  obtain⟨u,r,rfl⟩: ∃u r,vs=u::r:=by
   cases vs with
   |nil=>simp at h
   |cons u r=>exact⟨u,r,rfl⟩
  have h0:=hg 0 q rfl
  exact⟨u,r,rfl,h0.1,h0.2,ih (by simpa using h) fun i p hp=>hg (i+1) p (by simpa using hp)⟩
def bO (binds:List BindP) (p:Nat):Option Nat:=(binds.find? fun b=>decide (b.state=(p:Int))).map (·.node.toNat)
def mu (l:List NodeP) (f:Nat->Option (List Nat)) (ps:List Nat):List (List Nat):=ps.map fun p=>(f p).getD (List.replicate (aE l p) 0)
theorem F3 {l:List NodeP} {f:Nat->Option (List Nat)} {ps:List Nat} (h: ∀p∈ps,∀v,f p=some v->v.length=aE l p/\ ∀x∈v,x<2^bJ l p):jM l ps (mu l f ps):=by
 induction ps with
 |nil=>rfl
 |cons p ps ih=>
  refine⟨_,_,rfl,?_,?_,ih fun q hq=>h q (by simp [hq])⟩
  ·show ((f p).getD (List.replicate (aE l p) 0)).length=_
   cases hv:f p with
   |none=>simp
   |some v=>exact(h p (by simp) v hv).1
  ·show∀x∈(f p).getD (List.replicate (aE l p) 0),_
   cases hv:f p with
   |none=>
    intro x hx
    simp at hx
    rw [hx.2];exact bP _
   |some v=>exact(h p (by simp) v hv).2
def qS (n:Nat) (p:Nat->Bool):Bool:=(List.range n).any p
structure aL where
 n:Nat
 k:Nat
 hold:Nat->Bool
 bad:Nat->Bool
 next:Nat->Nat
 fixed:Nat
 bfix:Nat
 bas:Nat
namespace aL
def begins (σ:aL) (s:Nat):Bool:=decide (s&&&σ.bfix=σ.bas)
def ends (σ:aL) (c:Nat):Bool:=σ.hold c&&σ.bad c
def goes (σ:aL) (c t:Nat):Bool:=decide (t&&&σ.fixed=σ.next c)
def at_ (σ:aL) (s i:Nat):Nat:=i*2^σ.n+s
def some_ (σ:aL) (f:Nat->Nat->Bool) (s:Nat):Bool:=qS (2^σ.k) fun i=>f s (σ.at_ s i)
def leads (σ:aL) (S:Nat->Bool) (c:Nat):Bool:=qS (2^σ.n) fun t=>S t&&σ.goes c t
def fwd (σ:aL) (p S:Nat->Bool) (t:Nat):Bool:=qS (2^(σ.n+σ.k)) fun c=>(S (c%2^σ.n)&&p c)&&σ.goes c t
def bwd (σ:aL) (p S:Nat->Bool):Nat->Bool:=σ.some_ fun _ c=>p c&&σ.leads S c
def lay (σ:aL):Nat->(Nat->Bool)×(Nat->Bool)
 |0=>(σ.begins,fun _=>false)
 |i+1=>(fun t=>σ.fwd σ.hold (σ.lay i).1 t&& !((σ.lay i).2 t||(σ.lay i).1 t),fun t=>(σ.lay i).2 t||(σ.lay i).1 t)
def front (σ:aL) (i:Nat):Nat->Bool:=(σ.lay i).1
def seen (σ:aL) (i:Nat):Nat->Bool:=(σ.lay i).2
def live (σ:aL) (i:Nat):Bool:=qS (2^σ.n) (σ.front i)
def nLay (σ:aL):Nat:=(List.range (2^σ.n+1)).findIdx fun i=> !σ.live i
def endsAt (σ:aL):Nat->Bool:=σ.some_ fun _ c=>σ.ends c
def hits (σ:aL) (i:Nat):Bool:=qS (2^σ.n) fun s=>σ.front i s&&σ.endsAt s
def depth (σ:aL):Option Nat:=(List.range σ.nLay).find? fun i=>σ.hits i
def back (σ:aL):Nat->Nat->Bool
 |0=>σ.endsAt
 |i+1=>σ.some_ fun s c=>σ.back i s||(σ.hold c&&σ.leads (σ.back i) c)
def clean (σ:aL) (c:Nat):Bool:=σ.hold c&& !σ.bad c
def back2 (σ:aL):Nat->Nat->Bool
 |0=>σ.endsAt
 |i+1=>σ.bwd σ.clean (σ.back2 i)
def kind (σ:aL) (k:Nat):Int:=if(match σ.depth with|some d=>decide (d<k)|none=>false)then 1 else if qS (2^σ.n) (σ.back2 k)then 2 else 0
end aL
theorem abn {x:Int} {n:Nat} (hn:n<=64):nM x (n:Int)=x/((2^n:Nat):Int):=by
 unfold nM
 have h1:min (Int.toNat (n:Int)) IntKind.i64.bits=n:=by simp [IntKind.bits];omega
 rw [h1,Int.fdiv_eq_ediv_of_nonneg _ (Int.pow_nonneg (by decide))]
 simp
theorem gV {x:Int} {w:Nat} (hw:w<=62):ul x (((2^w:Nat):Int)-1)=((fv w x:Nat):Int):=by
 have h2:=pF hw
 have hp:=bP w
 have hm:(((2^w:Nat):Int)-1)=((2^w-1:Nat):Int):=by omega
 rw [hm]
 show IntKind.i64.wrap _=_
 have h1:(BitVec.ofInt IntKind.i64.bits x&&&BitVec.ofInt IntKind.i64.bits ((2^w-1:Nat):Int)).toNat=fv w x:=by
  show (BitVec.ofInt 64 x&&&BitVec.ofInt 64 ((2^w-1:Nat):Int)).toNat=fv w x
  rw [BitVec.ofInt_natCast,BitVec.toNat_and,BitVec.toNat_ofNat,BitVec.toNat_ofInt,Nat.mod_eq_of_lt (by omega),Nat.and_two_pow_sub_one_eq_mod]
  have hd:((2^w:Nat):Int)∣((2^64:Nat):Int):=Int.natCast_dvd_natCast.2 (Nat.pow_dvd_pow 2 (by omega))
  have h3:=Int.emod_emod_of_dvd x hd
  have h4:=Int.emod_nonneg x (b:=((2^64:Nat):Int)) (by decide)
  unfold fv
  rw [<-h3]
  generalize x%((2^64:Nat):Int)=y at*
  obtain⟨z,rfl⟩: ∃z:Nat,y=z:=⟨y.toNat,by omega⟩
  rw [<-Int.natCast_emod,Int.toNat_natCast,Int.toNat_natCast]
 rw [h1]
 exact fP (by have:=kG w x;omega)
theorem abw {w:Nat} (hw:w<=62):az (-1) (w:Int)= -((2^w:Nat):Int):=by
 have h2:=pF hw
 unfold az
 have h1:min (Int.toNat (w:Int)) IntKind.i64.bits=w:=by simp [IntKind.bits];omega
 rw [h1]
 have h3:(-1:Int)*2^w= -((2^w:Nat):Int):=by simp
 have key: ∀N:Nat,N<=4611686018427387904->W (-(N:Int))= -(N:Int):=fun N h=>bX (by omega) (by omega)
 rw [h3];exact key _ h2
theorem Ap {w:Nat} (hw:w<=16):2^w<=65536:=by
 have:=Nat.pow_le_pow_right (n:=2) (by omega) hw
 simpa using this
theorem iT {w v:Int}:jT w v=true↔(1<=w/\w<=16)/\0<=v/\v<((2^w.toNat:Nat):Int):=by
 unfold jT
 rw [decide_eq_true_eq]
 constructor
 ·rintro ⟨h1,h2,h3⟩;exact⟨h1,h2,by omega⟩
 ·rintro ⟨h1,h2,h3⟩;exact⟨h1,h2,by omega⟩
theorem dE {h:Hp} {w:Nat} {R:Value->Hp->Prop} (hw:w<=62) (k:R (I (((2^w:Nat):Int)-1)) h):cU #[I w] h R:=by
 apply RM
 refine uf_ ?_
 have:=pF hw
 have hp:=bP w
 rw [if_neg (by omega),cv hw,bX (by omega) (by omega)]
 exact k
theorem EV {h:Hp} {w:Int} {R:Value->Hp->Prop} (k:R (.bool (decide (1<=w/\w<=16))) h):qa #[I w] h R:=by
 apply Kd
 refine uf_ ?_
 exact iM ⟨_,rfl,k⟩
theorem yA {h:Hp} {w:Int} {R:Value->Hp->Prop} (k:R (.bool (decide (1<=w/\w<=16))) h):mW #[I w] h R:=by
 apply Kt
 refine uf_ ?_
 exact eu ⟨_,rfl,k⟩
theorem Lb (w v:Int):jT w v=(decide (1<=w/\w<=16)&&decide (0<=v/\v<=((2^w.toNat:Nat):Int)-1)):=by
 unfold jT;rw [Bool.eq_iff_iff];simp
theorem E9 {h:Hp} {w v:Int} {R:Value->Hp->Prop} (k:R (.bool (jT w v)) h):wN #[I w,I v] h R:=by
 apply MP
 refine uf_ ?_
 rw [Lb]at k
 refine EV ⟨_,rfl,ad (fun e=>?_) (fun e=>?_)⟩
 ·rw [e,Bool.true_and]at k
  have e':1<=w/\w<=16:=by simpa using e
  obtain⟨n,rfl⟩: ∃n:Nat,w=n:=⟨w.toNat,by omega⟩
  rw [Int.toNat_natCast]at k
  exact dE (by omega) ⟨_,rfl,iM ⟨_,rfl,k⟩⟩
 ·rw [e,Bool.false_and]at k;exact k
theorem cO {h:Hp} {w v:Int} {R:Value->Hp->Prop} (k:R (.bool (jT w v)) h):dQ #[I w,I v] h R:=by
 apply Ni
 refine uf_ ?_
 rw [Lb]at k
 refine yA ⟨_,rfl,ad (fun e=>?_) (fun e=>?_)⟩
 ·rw [e,Bool.true_and]at k
  have e':1<=w/\w<=16:=by simpa using e
  obtain⟨n,rfl⟩: ∃n:Nat,w=n:=⟨w.toNat,by omega⟩
  rw [Int.toNat_natCast]at k
  have:=pF (n:=n) (by omega)
  have hp:=bP n
  rw [cX (by omega),if_neg (by omega),cv (by omega),bX (by omega) (by omega)]
  exact eu ⟨_,rfl,k⟩
 ·rw [e,Bool.false_and]at k;exact k
def WO (w a:Nat):Prop:=(1<=w/\w<=16)/\a<2^w
theorem WO.ok {w a:Nat} (e:WO w a):jT (w:Int) (a:Int)=true:=iT.2 ⟨by have:=e.1;omega,by omega,by rw [Int.toNat_natCast];have:=e.2;omega⟩
theorem WO.pow {w a:Nat} (e:WO w a):2^w<=65536:=Ap e.1.2
theorem pR {h:Hp} {w a:Nat} {R:Value->Hp->Prop} (e:WO w a) (k:R (I (sgn w a)) h):jn #[I w,I a] h R:=by
 apply L4
 refine uf_ ?_
 obtain⟨⟨h1,h2⟩,ha⟩:=e
 have hp:=si h1
 have h16:=Ap h2
 have w1:W ((w:Int)-1)=((w-1:Nat):Int):=by rw [bX (by omega) (by omega)];omega
 rw [w1,if_neg (by omega),if_neg (by omega),jE (by omega)]
 unfold sgn at k
 by_cases hs:2^(w-1)<=a
 ·have e1:a/2^(w-1)=1:=by rw [Nat.div_eq_iff (bP _)];omega
  rw [e1,iZ (by omega) (by omega),Nat.one_mul,bX (by omega) (by omega)]
  rw [if_pos hs]at k;exact k
 ·have e1:a/2^(w-1)=0:=Nat.div_eq_of_lt (by omega)
  rw [e1,iZ (by omega) (by omega),Nat.zero_mul,bX (by omega) (by omega)]
  rw [if_neg hs]at k
  simpa using k
theorem jO {h:Hp} {w a:Nat} {R:Value->Hp->Prop} (e:WO w a) (k:R (I (sgn w a)) h):fB #[I w,I a] h R:=by
 apply D5
 refine uf_ ?_
 obtain⟨⟨h1,h2⟩,ha⟩:=e
 have hp:=si h1
 have h16:=Ap h2
 have w1:W ((w:Int)-1)=((w-1:Nat):Int):=by rw [bX (by omega) (by omega)];omega
 refine cO ⟨_,rfl,aC (by rw [WO.ok ⟨⟨h1,h2⟩,ha⟩];rfl) ?_⟩
 rw [w1,cX (by omega),if_neg (by omega),cv (by omega)]
 unfold sgn at k
 refine ad (fun e=>?_) (fun e=>?_)
 ·have hs:2^(w-1)<=a:=by
   have:=of_decide_eq_true e;omega
  rw [if_pos hs]at k
  rw [cX (by omega),if_neg (by omega),cv (by omega),bX (by omega) (by omega)]
  exact k
 ·have hs: ¬2^(w-1)<=a:=by
   have:=of_decide_eq_false e;omega
  rw [if_neg hs]at k;exact k
theorem Tc (w:Nat) (n:Int):((fv w n:Nat):Int)=if Int.tmod n ((2^w:Nat):Int)<0 then Int.tmod n ((2^w:Nat):Int)+((2^w:Nat):Int)else Int.tmod n ((2^w:Nat):Int):=by
 rw [zr]
 have hp:(0:Int)<((2^w:Nat):Int):=Int.ofNat_lt.2 (bP w)
 have h1:=Int.emod_nonneg n (b:=((2^w:Nat):Int)) (by omega)
 have h2:=Int.emod_lt_of_pos n hp
 have h3:=Int.tmod_eq_emod (a:=n) (b:=((2^w:Nat):Int))
 have h4:n%((2^w:Nat):Int)=0->((2^w:Nat):Int)∣n:=Int.dvd_of_emod_eq_zero
 rw [h3]
 generalize ((2^w:Nat):Int)=N at*
 by_cases hn:0<=n\/N∣n
 ·rw [if_pos hn];split<;>omega
 ·have h5:n%N≠0:=fun e=>hn (.inr (h4 e))
  rw [if_neg hn]
  generalize n%N=r at*
  split<;>omega
theorem jj {h:Hp} {w:Nat} {n:Int} {R:Value->Hp->Prop} (hw:1<=w/\w<=16) (k:R (I (fv w n)) h):eR #[I w,I n] h R:=by
 apply HH
 refine uf_ ?_
 have h16:=Ap hw.2
 have hp:=bP w
 have hlt:=kG w n
 have ht:=Tc w n
 refine yA ⟨_,rfl,aC (by simp;omega) ?_⟩
 rw [cX (by omega),if_neg (by omega),cv (by omega),if_neg (by omega)]
 refine ad (fun e=>?_) (fun e=>?_)
 ·have e':=of_decide_eq_true e
  rw [if_pos e']at ht
  rw [if_neg (by omega),bX (by omega) (by omega),<-ht];exact k
 ·have e':=of_decide_eq_false e
  rw [if_neg e']at ht
  rw [<-ht];exact k
theorem GC {h:Hp} {w a:Nat} {R:Value->Hp->Prop} (hw:w<=16) (k:R (I (kU w a)) h):rQ #[I w,I a] h R:=by
 apply MR
 refine uf_ ?_
 refine au w (fun i vs h'=>vs= [I w,I a,I (kU i a),I i]/\h'=h) ⟨rfl,rfl⟩ ?_
 rintro i _ _ next hi ⟨rfl,rfl⟩ hn
 refine⟨_,_,_,_,rfl,?_⟩
 by_cases hlt:i<w
 ·refine aN (by simp [hlt]) (jA (by omega) ⟨_,rfl,?_⟩)
  have hl:=RW i a
  have e:W ((kU i a:Int)+(if a.testBit i then 1 else 0))=((kU (i+1) a:Nat):Int):=by
   rw [bX (by split<;>omega) (by split<;>omega)]
   simp only [kU]
   split<;>simp
  rw [e,ay (by omega)]
  exact hn hlt _ _ ⟨rfl,rfl⟩
 ·have:i=w:=by omega
  subst this
  exact aC (by simp) k
theorem QH {a b:Nat} (ha:a<18446744073709551616) (hb:b<18446744073709551616):bG .and .u64 (a:Int) (b:Int)=((a&&&b:Nat):Int):=by
 show IntKind.u64.wrap _=_
 have h1:(BitVec.ofInt IntKind.u64.bits (a:Int)&&&BitVec.ofInt IntKind.u64.bits (b:Int)).toNat=a&&&b:=by
  show (BitVec.ofInt 64 (a:Int)&&&BitVec.ofInt 64 (b:Int)).toNat=a&&&b
  rw [BitVec.ofInt_natCast,BitVec.ofInt_natCast,BitVec.toNat_and,BitVec.toNat_ofNat,BitVec.toNat_ofNat,Nat.mod_eq_of_lt (by omega),Nat.mod_eq_of_lt (by omega)]
 rw [h1,IntKind.wrap_u64]
 have:=Nat.and_le_left (n:=a) (m:=b)
 omega
def abY (x:Nat):Nat:=(x/2&&&6148914691236517205)+(x&&&6148914691236517205)
def abl (x:Nat):Nat:=(x/4&&&3689348814741910323)+(x&&&3689348814741910323)
def abD (x:Nat):Nat:=(x/16+x)&&&1085102592571150095
def abB (x:Nat):Nat:=x/256+x
def acl (x:Nat):Nat:=x/65536+x
def aaD (x:Nat):Nat:=x/4294967296+x
def MV (x:Nat):Nat:=aaD (acl (abB (abD (abl (abY x)))))&&&127
def Tj (x:Nat):Bool:=Nat.beq (MV (2*x)) (MV x)&&Nat.beq (MV (2*x+1)) (MV x+1)
def SN (hi:Nat):Nat->Bool
 |0=>true
 |n+1=>Tj (hi*256+n)&&SN hi n
def Wm :Nat->Bool
 |0=>true
 |n+1=>SN n 256&&Wm n
theorem aeT :Wm 128=true:=by kernel_rfl
theorem aap {hi:Nat}: ∀n,SN hi n=true-> ∀i,i<n->Tj (hi*256+i)=true:=by
 intro n
 induction n with
 |zero=>intro _ i h;omega
 |succ n ih=>
  intro h i hi
  simp only [SN,Bool.and_eq_true]at h
  by_cases e:i=n
  ·subst e;exact h.1
  ·exact ih h.2 i (by omega)
theorem ab3 : ∀n,Wm n=true-> ∀i,i<n->SN i 256=true:=by
 intro n
 induction n with
 |zero=>intro _ i h;omega
 |succ n ih=>
  intro h i hi
  simp only [Wm,Bool.and_eq_true]at h
  by_cases e:i=n
  ·subst e;exact h.1
  ·exact ih h.2 i (by omega)
theorem abx {x:Nat} (h:x<32768):MV (2*x)=MV x/\MV (2*x+1)=MV x+1:=by
 have h1:=ab3 128 aeT (x/256) (by omega)
 have h2:=aap 256 h1 (x%256) (Nat.mod_lt _ (by omega))
 rw [show x/256*256+x%256=x by omega]at h2
 simp only [Tj,Bool.and_eq_true]at h2
 exact⟨Nat.eq_of_beq_eq_true h2.1,Nat.eq_of_beq_eq_true h2.2⟩
theorem UO (a:Nat): ∀w,kU (w+1) a=a%2+kU w (a/2):=by
 intro w
 induction w with
 |zero=>
  simp only [kU,Nat.testBit_zero]
  rcases Nat.mod_two_eq_zero_or_one a with h|h<;>simp [h]
 |succ w ih=>
  rw [kU,ih,kU,Nat.testBit_succ];omega
theorem adS : ∀w,w<=16-> ∀x,x<2^w->MV x=kU w x:=by
 intro w
 induction w with
 |zero=>intro _ x hx;have:x=0:=by simpa using hx
        subst this;rfl
 |succ w ih=>
  intro hw x hx
  have h16:2^w<=32768:=by
   have:=Nat.pow_le_pow_right (n:=2) (by omega) (show w<=15 by omega)
   simpa using this
  have hp:2^(w+1)=2*2^w:=by rw [Nat.pow_succ];omega
  have h1:=ih (by omega) (x/2) (by omega)
  have h2:=abx (x:=x/2) (by omega)
  rw [UO,<-h1]
  rcases Nat.mod_two_eq_zero_or_one x with h|h
  ·have e:2*(x/2)=x:=by omega
   rw [e]at h2;rw [h2.1,h];omega
  ·have e:2*(x/2)+1=x:=by omega
   rw [e]at h2;rw [h2.2,h];omega
theorem Oh {a k:Nat} (hk:k<=64):Int.fdiv (a:Int) (2^(min (Int.toNat (k:Int)) (IntKind.bits .u64)))=((a/2^k:Nat):Int):=by
 have h1:min (Int.toNat (k:Int)) (IntKind.bits .u64)=k:=by simp [IntKind.bits];omega
 rw [h1,Int.fdiv_eq_ediv_of_nonneg _ (Int.pow_nonneg (by decide))]
 simp
def q1 (x:Int):Int:=IntKind.wrap .u64 ((bG .and .u64 (Int.fdiv x (2^(min (Int.toNat 1) (IntKind.bits .u64)))) 6148914691236517205)+(bG .and .u64 x 6148914691236517205))
def q2 (x:Int):Int:=IntKind.wrap .u64 ((bG .and .u64 (Int.fdiv x (2^(min (Int.toNat 2) (IntKind.bits .u64)))) 3689348814741910323)+(bG .and .u64 x 3689348814741910323))
def q3 (x:Int):Int:=bG .and .u64 (IntKind.wrap .u64 ((Int.fdiv x (2^(min (Int.toNat 4) (IntKind.bits .u64))))+x)) 1085102592571150095
def q4 (x:Int):Int:=IntKind.wrap .u64 (x+Int.fdiv x (2^(min (Int.toNat 8) (IntKind.bits .u64))))
def q5 (x:Int):Int:=IntKind.wrap .u64 (x+Int.fdiv x (2^(min (Int.toNat 16) (IntKind.bits .u64))))
def q6 (x:Int):Int:=IntKind.wrap .u64 (x+Int.fdiv x (2^(min (Int.toNat 32) (IntKind.bits .u64))))
theorem Ku {h:Hp} {a:Nat} {R:Value->Hp->Prop} (ha:a<65536) (k:R (I (kU 16 a)) h):mh #[.int .u64 a] h R:=by
 apply zT
 refine uf_ ?_
 apply xR
 refine uf_ ?_
 refine⟨_,rfl,?_⟩
 have e1:q1 a=((abY a:Nat):Int):=by
  have l1:=Nat.and_le_left (n:=a/2) (m:=6148914691236517205)
  have l2:=Nat.and_le_left (n:=a) (m:=6148914691236517205)
  have:=Oh (a:=a) (k:=1) (by omega)
  unfold q1 abY
  rw [show (Int.toNat 1)=Int.toNat ((1:Nat):Int)from rfl,this,Nat.pow_one]
  rw [show (6148914691236517205:Int)=((6148914691236517205:Nat):Int)from rfl,QH (by omega) (by omega),QH (by omega) (by omega),<-Int.natCast_add,cX (by omega)]
 have b1:abY a<=98304:=by
  have l1:=Nat.and_le_left (n:=a/2) (m:=6148914691236517205)
  have l2:=Nat.and_le_left (n:=a) (m:=6148914691236517205)
  unfold abY;omega
 have e2: ∀x:Nat,x<=98304->q2 x=((abl x:Nat):Int)/\abl x<=196608:=by
  intro x hx
  have l1:=Nat.and_le_left (n:=x/4) (m:=3689348814741910323)
  have l2:=Nat.and_le_left (n:=x) (m:=3689348814741910323)
  have:=Oh (a:=x) (k:=2) (by omega)
  refine⟨?_,by unfold abl;omega⟩
  unfold q2 abl
  rw [show (Int.toNat 2)=Int.toNat ((2:Nat):Int)from rfl,this,show 2^2=4 from rfl]
  rw [show (3689348814741910323:Int)=((3689348814741910323:Nat):Int)from rfl,QH (by omega) (by omega),QH (by omega) (by omega),<-Int.natCast_add,cX (by omega)]
 have e3: ∀x:Nat,x<=196608->q3 x=((abD x:Nat):Int)/\abD x<=393216:=by
  intro x hx
  have l1:=Nat.and_le_left (n:=x/16+x) (m:=1085102592571150095)
  have:=Oh (a:=x) (k:=4) (by omega)
  refine⟨?_,by unfold abD;omega⟩
  unfold q3 abD
  rw [show (Int.toNat 4)=Int.toNat ((4:Nat):Int)from rfl,this,show 2^4=16 from rfl,<-Int.natCast_add,cX (by omega)]
  rw [show (1085102592571150095:Int)=((1085102592571150095:Nat):Int)from rfl,QH (by omega) (by omega)]
 have e4: ∀x:Nat,x<=393216->q4 x=((abB x:Nat):Int)/\abB x<=786432:=by
  intro x hx
  have:=Oh (a:=x) (k:=8) (by omega)
  refine⟨?_,by unfold abB;omega⟩
  unfold q4 abB
  rw [show (Int.toNat 8)=Int.toNat ((8:Nat):Int)from rfl,this,show 2^8=256 from rfl,<-Int.natCast_add,cX (by omega),Nat.add_comm]
 have e5: ∀x:Nat,x<=786432->q5 x=((acl x:Nat):Int)/\acl x<=1572864:=by
  intro x hx
  have:=Oh (a:=x) (k:=16) (by omega)
  refine⟨?_,by unfold acl;omega⟩
  unfold q5 acl
  rw [show (Int.toNat 16)=Int.toNat ((16:Nat):Int)from rfl,this,show 2^16=65536 from rfl,<-Int.natCast_add,cX (by omega),Nat.add_comm]
 have e6: ∀x:Nat,x<=1572864->q6 x=((aaD x:Nat):Int)/\aaD x<=3145728:=by
  intro x hx
  have:=Oh (a:=x) (k:=32) (by omega)
  refine⟨?_,by unfold aaD;omega⟩
  unfold q6 aaD
  rw [show (Int.toNat 32)=Int.toNat ((32:Nat):Int)from rfl,this,show 2^32=4294967296 from rfl,<-Int.natCast_add,cX (by omega),Nat.add_comm]
 have b2:=(e2 _ b1).2
 have b3:=(e3 _ b2).2
 have b4:=(e4 _ b3).2
 have b5:=(e5 _ b4).2
 have b6:=(e6 _ b5).2
 show R (I (ul (W (q6 (q5 (q4 (q3 (q2 (q1 a))))))) 127)) h
 rw [e1,(e2 _ b1).1,(e3 _ b2).1,(e4 _ b3).1,(e5 _ b4).1,(e6 _ b5).1,fP (by omega),show (127:Int)=((127:Nat):Int)from rfl,AY (by omega) (by omega)]
 have:=adS 16 (by omega) a (by simpa using ha)
 unfold MV at this
 rw [this];exact k
theorem U2 {w a:Nat} (ha:a<2^w): ∀d,kU (w+d) a=kU w a:=by
 intro d
 induction d with
 |zero=>rfl
 |succ d ih=>
  have hz:a.testBit (w+d)=false:=Nat.testBit_lt_two_pow (Nat.lt_of_lt_of_le ha (Nat.pow_le_pow_right (by omega) (by omega)))
  rw [<-Nat.add_assoc,kU,ih,hz]
  simp
theorem Rk {h:Hp} {kind:Int} {w a:Nat} {R:Value->Hp->Prop} (hk:1<=kind/\kind<=5) (e:WO w a)
  (k:R (.tuple #[I (yI kind w a).1,I (yI kind w a).2]) h):Db #[I kind,I w,I a] h R:=by
 apply Ut
 refine uf_ ?_
 have h16:=e.pow
 have hp:=bP w
 have ha:=e.2
 have hw:=e.1
 unfold yI at k
 refine ad (fun e1=>?_) (fun e1=>ad (fun e2=>?_) (fun e2=>ad (fun e3=>?_) (fun e3=>ad (fun e4=>?_) (fun e4=>?_))))
 ·rw [if_pos (by simpa using e1)]at k
  refine dE (by omega) ⟨_,rfl,?_⟩
  have:W ((((2^w:Nat):Int)-1)-a)=((2^w-1-a:Nat):Int):=by rw [bX (by omega) (by omega)];omega
  rw [this];exact k
 ·rw [if_neg (by simpa using e1),if_pos (by simpa using e2)]at k
  refine dE (by omega) ⟨_,rfl,?_⟩
  rw [bX (n:=0-(a:Int)) (by omega) (by omega),gV (by omega),Int.zero_sub]
  exact k
 ·rw [if_neg (by simpa using e1),if_neg (by simpa using e2),if_pos (by simpa using e3)]at k
  refine Ao ⟨_,rfl,?_⟩
  by_cases h0:a=0
  ·subst h0;simpa using k
  ·have:((a:Int) !=0)=true:=by simpa using h0
   rw [this];rw [if_neg h0]at k;simpa using k
 ·rw [if_neg (by simpa using e1),if_neg (by simpa using e2),if_neg (by simpa using e3),if_pos (by simpa using e4)]at k
  refine dE (by omega) ⟨_,rfl,Ao ⟨_,rfl,?_⟩⟩
  by_cases h0:a=2^w-1
  ·have:((a:Int)==((2^w:Nat):Int)-1)=true:=by rw [beq_iff_eq];omega
   rw [this];rw [if_pos h0]at k;simpa using k
  ·have:((a:Int)==((2^w:Nat):Int)-1)=false:=by rw [beq_eq_false_iff_ne];omega
   rw [this];rw [if_neg h0]at k;simpa using k
 ·rw [if_neg (by simpa using e1),if_neg (by simpa using e2),if_neg (by simpa using e3),if_neg (by simpa using e4)]at k
  rw [cX (by omega)]
  refine Ku (by omega) ⟨_,rfl,?_⟩
  have:=U2 ha (16-w)
  rw [show w+(16-w)=16 by omega]at this
  rw [this,JG];exact k
theorem En {h:Hp} {kind:Int} {w a:Nat} {R:Value->Hp->Prop} (hk:1<=kind/\kind<=5) (e:WO w a)
  (k:R (.tuple #[I (yI kind w a).1,I (yI kind w a).2, .bool true]) h):qt #[I kind,I w,I a] h R:=by
 apply JK
 refine uf_ ?_
 have h16:=e.pow
 have hp:=bP w
 have ha:=e.2
 have hw:=e.1
 unfold yI at k
 refine cO ⟨_,rfl,aC (by rw [e.ok];rfl) ?_⟩
 refine ad (fun e1=>?_) (fun e1=>ad (fun e2=>?_) (fun e2=>ad (fun e3=>?_) (fun e3=>ad (fun e4=>?_) (fun e4=>?_))))
 ·rw [if_pos (by simpa using e1)]at k
  rw [cX (by omega),if_neg (by omega),cv (by omega),bX (n:=((2^w:Nat):Int)-1) (by omega) (by omega)]
  have:W ((((2^w:Nat):Int)-1)-a)=((2^w-1-a:Nat):Int):=by rw [bX (by omega) (by omega)];omega
  rw [this];exact k
 ·rw [if_neg (by simpa using e1),if_pos (by simpa using e2)]at k
  rw [bX (n:=0-(a:Int)) (by omega) (by omega),Int.zero_sub]
  exact jj hw ⟨_,rfl,k⟩
 ·rw [if_neg (by simpa using e1),if_neg (by simpa using e2),if_pos (by simpa using e3)]at k
  refine uZ ⟨_,rfl,?_⟩
  by_cases h0:a=0
  ·subst h0;simpa using k
  ·have:decide ((a:Int)>0)=true:=by simp;omega
   rw [this];rw [if_neg h0]at k;simpa using k
 ·rw [if_neg (by simpa using e1),if_neg (by simpa using e2),if_neg (by simpa using e3),if_pos (by simpa using e4)]at k
  refine GC (by omega) ⟨_,rfl,uZ ⟨_,rfl,?_⟩⟩
  have hf:=Th ha
  by_cases h0:a=2^w-1
  ·have:(((kU w a:Nat):Int)==(w:Int))=true:=by rw [beq_iff_eq,hf.2 h0]
   rw [this];rw [if_pos h0]at k;simpa using k
  ·have:(((kU w a:Nat):Int)==(w:Int))=false:=by rw [beq_eq_false_iff_ne];intro he;exact h0 (hf.1 (by omega))
   rw [this];rw [if_neg h0]at k;simpa using k
 ·rw [if_neg (by simpa using e1),if_neg (by simpa using e2),if_neg (by simpa using e3),if_neg (by simpa using e4)]at k
  have:kind=5:=by
   have h1:kind≠1:=by simpa using e1
   have h2:kind≠2:=by simpa using e2
   have h3:kind≠3:=by simpa using e3
   have h4:kind≠4:=by simpa using e4
   omega
  refine aN (by simpa using this) (GC (by omega) ⟨_,rfl,?_⟩)
  rw [JG];exact k
theorem eQ (a b:Nat):Int.tmod (a:Int) (b:Int)=((a%b:Nat):Int):=(Int.ofNat_tmod a b).symm
theorem vr (a b:Nat):Int.tdiv (a:Int) (b:Int)=((a/b:Nat):Int):=(Int.ofNat_tdiv a b).symm
theorem EC {a b:Nat} (ha:a<65536) (hb:b<=65536):a*b<=4294967296:=by
 have:=Nat.mul_le_mul (Nat.le_of_lt ha) hb
 omega
theorem Gv {w a:Nat} (e:WO w a): -65536<=sgn w a/\sgn w a<=65536:=by
 have h:=Nx e.1.1 e.2
 have hp:=si e.1.1
 have h16:=e.pow
 omega
theorem bz {a b:Int} (e:(a==b)=false): ¬a=b:=by simpa using e
theorem bW {a b:Int} (e:(a==b)=true):a=b:=by simpa using e
theorem GD {h:Hp} {w a p:Nat} {R:Value->Hp->Prop} (e:WO w a) (k:R (I (Dd w a (p%w))) h):r6 #[I w,I a,I p] h R:=by
 apply Mx
 refine uf_ ?_
 obtain⟨⟨h1,h2⟩,ha⟩:=e
 have h16:=Ap h2
 have hm:p%w<w:=Nat.mod_lt _ (by omega)
 have hpm:=Ap (w:=p%w) (by omega)
 have ht:Int.tmod (p:Int) (w:Int)=((p%w:Nat):Int):=eQ p w
 have hw:W ((w:Int)-((p%w:Nat):Int))=((w-p%w:Nat):Int):=by rw [bX (by omega) (by omega)];omega
 have hmul:=EC (a:=a) (b:=2^(p%w)) (by omega) hpm
 rw [if_neg (by omega),ht,if_neg (by omega),hw,if_neg (by omega)]
 refine dE (by omega) ⟨_,rfl,?_⟩
 have hd:a/2^(w-p%w)<=a:=Nat.div_le_self _ _
 rw [iZ (by omega) (by omega),jE (by omega),Ex (by omega) (by omega),gV (by omega),nr]
 exact k
theorem Pe {h:Hp} {kind:Int} {w a b:Nat} {R:Value->Hp->Prop} (hk:kind=14\/kind=15) (ea:WO w a) (eb:WO w b)
  (k:R (I ((if kind=14 then Oy w a b else N1 w a b:Nat):Int)) h):u6 #[I kind,I w,I a,I b] h R:=by
 apply Iy
 refine uf_ ?_
 have h16:=ea.pow
 have hp:=bP w
 have sa:=Gv ea
 have sb:=Gv eb
 have hw:=ea.1
 refine pR ea ⟨_,rfl,pR eb ⟨_,rfl,?_⟩⟩
 unfold Oy N1 at k
 by_cases hy:sgn w b=0
 ·rw [if_pos hy,if_pos hy]at k
  rw [hy]
  refine ar (fun J=>J (decide (kind=15))) ?_ (fun J hJ=>aN rfl (by rw [show (kind==15)=decide (kind=15)from rfl];exact hJ))
  refine ad (fun e=>?_) (fun e=>?_)
  ·have e':kind=15:=by simpa using e
   rw [if_neg (by omega)]at k;exact k
  ·have e':kind=14:=by have: ¬kind=15:=by simpa using e
                       omega
   rw [if_pos e']at k
   refine ar (fun J=>J (decide (sgn w a<0))) ?_ (fun J hJ=>aN rfl hJ)
   refine ad (fun e=>?_) (fun e=>aN rfl (dE (by omega) ⟨_,rfl,?_⟩))
   ·rw [if_pos (by simpa using e)]at k;exact k
   ·rw [if_neg (by simpa using e)]at k
    have:((2^w-1:Nat):Int)=((2^w:Nat):Int)-1:=by omega
    rw [<-this];exact k
 ·rw [if_neg hy,if_neg hy]at k
  have hyb:(sgn w b==0)=false:=by simpa using hy
  refine ar (fun J=>J false) ?_ (fun J hJ=>aC hyb hJ)
  refine aC rfl (ar (fun J=>J false) ?_ (fun J hJ=>aC hyb hJ))
  refine aC rfl (aC hyb ?_)
  have hdiv:(Int.tdiv (sgn w a) (sgn w b)).natAbs<=65536:=by
   rw [Int.natAbs_tdiv]
   exact Nat.le_trans (Nat.div_le_self _ _) (by omega)
  refine ad (fun e=>?_) (fun e=>?_)
  ·rw [if_pos (by simpa using e)]at k
   rw [if_neg hy]
   refine dE (by omega) ⟨_,rfl,?_⟩
   rw [bX (by omega) (by omega),gV (by omega)];exact k
  ·rw [if_neg (by simpa using e)]at k
   rw [if_neg hy]
   refine dE (by omega) ⟨_,rfl,?_⟩
   rw [gV (by omega)];exact k
def FC (kind:Int) (w a b:Nat):Nat:=if kind=16 then aec w a b else if kind=17 then aeA w a b else aeh w a b
theorem Pb {h:Hp} {kind:Int} {w a b:Nat} {R:Value->Hp->Prop} (ea:WO w a) (hb:b<=65536)
  (k:R (I (FC kind w a b)) h):uV #[I kind,I w,I a,I b] h R:=by
 apply Jy
 refine uf_ ?_
 have h16:=ea.pow
 have ha:=ea.2
 have hw:=ea.1
 have hmin:(if(w:Int)<(b:Int)then(w:Int)else(b:Int))=((min b w:Nat):Int):=by
  by_cases h:w<b
  ·rw [if_pos (by omega),Nat.min_eq_right (by omega)]
  ·rw [if_neg (by omega),Nat.min_eq_left (by omega)]
 have hm:min b w<=w:=Nat.min_le_right _ _
 have hpm:=Ap (w:=min b w) (by omega)
 have hmul:=EC (a:=a) (b:=2^min b w) (by omega) hpm
 unfold FC at k
 rw [hmin]
 refine ad (fun e=>?_) (fun e=>ad (fun e2=>?_) (fun e2=>?_))
 ·rw [if_pos (bW e)]at k
  rw [if_neg (by omega)]
  refine dE (by omega) ⟨_,rfl,?_⟩
  rw [iZ (by omega) (by omega),gV (by omega),nr];exact k
 ·rw [if_neg (bz e),if_pos (bW e2)]at k
  rw [if_neg (by omega),jE (by omega)];exact k
 ·rw [if_neg (bz e),if_neg (bz e2)]at k
  refine pR ea ⟨_,rfl,?_⟩
  rw [if_neg (by omega)]
  refine dE (by omega) ⟨_,rfl,?_⟩
  rw [abn (by omega),gV (by omega)];exact k
theorem Nm {h:Hp} {kind:Int} {w a b:Nat} {R:Value->Hp->Prop} (hk:21<=kind/\kind<=28) (ea:WO w a) (eb:WO w b)
  (k:R (.bool (Bh kind w a b)) h):sW #[I kind,I w,I a,I b] h R:=by
 apply HF
 refine uf_ ?_
 have h16:=ea.pow
 have hp:=bP w
 have sa:=Gv ea
 have sb:=Gv eb
 have ha:=ea.2
 have hb:=eb.2
 have hw:=ea.1
 unfold Bh at k
 have dd: ∀{p q:Prop} [Decidable p] [Decidable q],(p↔q)->decide p=decide q:=fun h=>by rw [decide_eq_decide];exact h
 refine pR ea ⟨_,rfl,pR eb ⟨_,rfl,?_⟩⟩
 refine ad (fun e1=>?_) (fun e1=>ad (fun e2=>?_) (fun e2=>ad (fun e3=>?_) (fun e3=>ad (fun e4=>?_) (fun e4=>ad (fun e5=>?_) (fun e5=>ad (fun e6=>?_) (fun e6=>ad (fun e7=>?_) (fun e7=>?_)))))))
 ·rw [if_pos (bW e1)]at k
  have:((a:Int)==(b:Int))=decide (a=b):=by rw [Bool.eq_iff_iff];simp;omega
  rw [this];exact k
 all_goals rw [if_neg (bz e1)]at k
 ·rw [if_pos (bW e2)]at k
  rw [dd (p:=(a:Int)<(b:Int)) (q:=a<b) (by omega)];exact k
 all_goals rw [if_neg (bz e2)]at k
 ·rw [if_pos (bW e3)]at k;exact k
 all_goals rw [if_neg (bz e3)]at k
 ·rw [if_pos (bW e4)]at k
  rw [dd (p:=(a:Int)<=(b:Int)) (q:=a<=b) (by omega)];exact k
 all_goals rw [if_neg (bz e4)]at k
 ·rw [if_pos (bW e5)]at k;exact k
 all_goals rw [if_neg (bz e5)]at k
 ·rw [if_pos (bW e6)]at k
  refine dE (by omega) ⟨_,rfl,?_⟩
  rw [bX (by omega) (by omega),dd (p:=(a:Int)+(b:Int)>((2^w:Nat):Int)-1) (q:=2^w<=a+b) (by omega)];exact k
 all_goals rw [if_neg (bz e6)]at k
 ·rw [if_pos (bW e7)]at k
  have w1:W ((w:Int)-1)=((w-1:Nat):Int):=by rw [bX (by omega) (by omega)];omega
  have hpp:=si hw.1
  rw [w1,if_neg (by omega),if_neg (by omega),abw (by omega),cv (by omega),bX (n:=sgn w a+sgn w b) (by omega) (by omega),bX (n:=((2^(w-1):Nat):Int)-1) (by omega) (by omega)]
  refine iM ⟨_,rfl,?_⟩
  rw [dd (p:= -((2^(w-1):Nat):Int)<=sgn w a+sgn w b/\sgn w a+sgn w b<=((2^(w-1):Nat):Int)-1) (q:= -((2^(w-1):Nat):Int)<=sgn w a+sgn w b/\sgn w a+sgn w b<((2^(w-1):Nat):Int)) (by omega)]
  exact k
 ·rw [if_neg (bz e7)]at k
  have hmul:=EC (a:=a) (b:=b) (by omega) (by omega)
  have hmi:(a:Int)*(b:Int)=((a*b:Nat):Int):=(Int.natCast_mul _ _).symm
  refine dE (by omega) ⟨_,rfl,?_⟩
  rw [hmi]
  generalize a*b=ab at*
  rw [fP (by omega),dd (p:=(ab:Int)>((2^w:Nat):Int)-1) (q:=2^w<=ab) (by omega)];exact k
theorem Rh {h:Hp} {kind:Int} {w a b:Nat} {R:Value->Hp->Prop} (hk:6<=kind/\kind<=28) (ea:WO w a) (eb:WO w b)
  (k:R (.tuple #[I (pY kind w a b).1,I (pY kind w a b).2]) h):Df #[I kind,I w,I a,I b] h R:=by
 apply U8
 refine uf_ ?_
 have h16:=ea.pow
 have hp:=bP w
 have ha:=ea.2
 have hb:=eb.2
 have hw:=ea.1
 have hand:a&&&b<=a:=Nat.and_le_left
 have hmul:=EC (a:=a) (b:=b) (by omega) (by omega)
 by_cases h20:kind<=20
 rotate_left
 ·have t:pY kind w a b=(if Bh kind w a b then 1 else 0,1):=by unfold pY;rw [if_neg h20]
  rw [t]at k
  have nb: ∀n:Int,n<=20->(kind==n)=false:=fun n hn=>by rw [beq_eq_false_iff_ne];omega
  refine aC (nb _ (by omega)) (aC (nb _ (by omega)) (aC (nb _ (by omega)) (aC (nb _ (by omega)) (aC (nb _ (by omega)) (aC (nb _ (by omega)) (aC (nb _ (by omega)) (aC (nb _ (by omega)) ?_)))))))
  refine ar (fun J=>J false) ?_ (fun J hJ=>aC (nb _ (by omega)) (by rw [nb 15 (by omega)];exact hJ))
  refine aC rfl (ar (fun J=>J false) ?_ (fun J hJ=>aC (nb _ (by omega)) (aC (nb _ (by omega)) (by rw [nb 18 (by omega)];exact hJ))))
  refine aC rfl (aC (nb _ (by omega)) (aC (nb _ (by omega)) ?_))
  refine Nm (by omega) ea eb ⟨_,rfl,Ao ⟨_,rfl,?_⟩⟩
  cases hs:Bh kind w a b
  ·rw [hs]at k;simpa using k
  ·rw [hs]at k;simpa using k
 have t:pY kind w a b=(Az kind w a b,w):=by unfold pY;rw [if_pos h20]
 rw [t]at k
 unfold Az at k
 simp only at k
 refine ad (fun e=>?_) (fun e6=>?_)
 ·rw [if_pos (bW e)]at k;rw [AY (by omega) (by omega)];exact k
 rw [if_neg (bz e6)]at k
 refine ad (fun e=>?_) (fun e7=>?_)
 ·rw [if_pos (bW e)]at k;rw [Ex (by omega) (by omega)];exact k
 rw [if_neg (bz e7)]at k
 refine ad (fun e=>?_) (fun e8=>?_)
 ·rw [if_pos (bW e)]at k;rw [RY (by omega) (by omega)];exact k
 rw [if_neg (bz e8)]at k
 refine ad (fun e=>?_) (fun e9=>?_)
 ·rw [if_pos (bW e)]at k
  refine dE (by omega) ⟨_,rfl,?_⟩
  rw [bX (by omega) (by omega),gV (by omega)];exact k
 rw [if_neg (bz e9)]at k
 refine ad (fun e=>?_) (fun e10=>?_)
 ·rw [if_pos (bW e)]at k
  refine dE (by omega) ⟨_,rfl,?_⟩
  rw [bX (by omega) (by omega),gV (by omega)];exact k
 rw [if_neg (bz e10)]at k
 refine ad (fun e=>?_) (fun e11=>?_)
 ·rw [if_pos (bW e)]at k
  refine dE (by omega) ⟨_,rfl,?_⟩
  have hmi:(a:Int)*(b:Int)=((a*b:Nat):Int):=(Int.natCast_mul _ _).symm
  rw [hmi]at k⊢
  generalize a*b=ab at*
  rw [fP (by omega),gV (by omega)];exact k
 rw [if_neg (bz e11)]at k
 refine ad (fun e=>?_) (fun e12=>?_)
 ·rw [if_pos (bW e)]at k
  refine dE (by omega) ⟨_,rfl,ad (fun eb0=>?_) (fun eb0=>?_)⟩
  ·have hb0: ¬b=0:=by have:=of_decide_eq_true eb0;omega
   rw [if_neg hb0]at k
   have hd:=Nat.div_le_self a b
   rw [if_neg (by omega),vr,fP (by omega)];exact k
  ·have hb0:b=0:=by have:=of_decide_eq_false eb0;omega
   rw [if_pos hb0]at k
   have:((2^w-1:Nat):Int)=((2^w:Nat):Int)-1:=by omega
   rw [<-this];exact k
 rw [if_neg (bz e12)]at k
 refine ad (fun e=>?_) (fun e13=>?_)
 ·rw [if_pos (bW e)]at k
  refine ad (fun eb0=>?_) (fun eb0=>?_)
  ·have hb0: ¬b=0:=by have:=of_decide_eq_true eb0;omega
   rw [if_neg hb0]at k
   rw [if_neg (by omega),eQ];exact k
  ·have hb0:b=0:=by have:=of_decide_eq_false eb0;omega
   rw [if_pos hb0]at k;exact k
 rw [if_neg (bz e13)]at k
 refine ar (fun J=>J (decide (kind=14\/kind=15))) ?_ ?_
 rotate_left
 ·intro J hJ
  refine ad (fun e=>?_) (fun e=>?_)
  ·rw [decide_eq_true (.inl (bW e))]at hJ;exact hJ
  ·have:(kind==15)=decide (kind=14\/kind=15):=by
    have:=bz e
    rw [Bool.eq_iff_iff];simp [this]
   rw [this];exact hJ
 refine ad (fun e=>?_) (fun e1415=>?_)
 ·have e':kind=14\/kind=15:=by simpa using e
  refine Pe e' ea eb ⟨_,rfl,?_⟩
  rcases e' with rfl|rfl
  ·simpa using k
  ·simpa using k
 have n14: ¬kind=14/\ ¬kind=15:=by simpa using e1415
 rw [if_neg n14.1,if_neg n14.2]at k
 refine ar (fun J=>J (decide (kind=16\/kind=17\/kind=18))) ?_ ?_
 rotate_left
 ·intro J hJ
  refine ad (fun e=>?_) (fun e=>ad (fun e2=>?_) (fun e2=>?_))
  ·rw [decide_eq_true (.inl (bW e))]at hJ;exact hJ
  ·rw [decide_eq_true (.inr (.inl (bW e2)))]at hJ;exact hJ
  ·have:(kind==18)=decide (kind=16\/kind=17\/kind=18):=by
    have h1:=bz e
    have h2:=bz e2
    rw [Bool.eq_iff_iff];simp [h1,h2]
   rw [this];exact hJ
 refine ad (fun e=>?_) (fun e1618=>?_)
 ·have e':kind=16\/kind=17\/kind=18:=by simpa using e
  refine Pb ea (by omega) ⟨_,rfl,?_⟩
  unfold FC
  rcases e' with rfl|rfl|rfl
  ·simpa using k
  ·simpa using k
  ·simpa using k
 have n16: ¬kind=16/\ ¬kind=17/\ ¬kind=18:=by simpa using e1618
 rw [if_neg n16.1,if_neg n16.2.1,if_neg n16.2.2]at k
 refine ad (fun e=>?_) (fun e19=>?_)
 ·rw [if_pos (bW e)]at k
  exact GD ea ⟨_,rfl,k⟩
 rw [if_neg (bz e19)]at k
 have h20':kind=20:=by
  have:=bz e6;have:=bz e7;have:=bz e8;have:=bz e9;have:=bz e10;have:=bz e11;have:=bz e12;have:=bz e13;have:=bz e19
  omega
 refine aN (by simpa using h20') ?_
 have hm:b%w<w:=Nat.mod_lt _ (by omega)
 have hw2:W ((w:Int)-((b%w:Nat):Int))=((w-b%w:Nat):Int):=by rw [bX (by omega) (by omega)];omega
 rw [if_neg (by omega),eQ,hw2]
 exact GD ea ⟨_,rfl,k⟩
def I4 (kind:Int) (x y:Bool):Bool:=if kind=8 then x^^y else if kind=7 then x||y else x&&y
theorem Pi {c:Bool} {n:Nat} (hn:n<=62):az (if c then 1 else 0) (n:Int)=((if c then 2^n else 0:Nat):Int):=by
 cases c
 ·have:=iZ (a:=0) (n:=n) (by omega) (by omega);simpa using this
 ·have:=cv hn;simpa using this
theorem NC {i:Nat} {f:Nat->Bool} {c:Bool} (hi:i<=60) (hc:c=f i):W ((dl i f:Int)+((if c then 2^i else 0:Nat):Int))=((dl (i+1) f:Nat):Int):=by
 have h1:=un i f
 have h2:=pF (n:=i) (by omega)
 subst hc
 simp only [dl]
 rw [bX (by split<;>omega) (by split<;>omega)]
 omega
theorem QW {h:Hp} {kind:Int} {w a b:Nat} {R:Value->Hp->Prop} (hw:w<=16)
  (k:R (I (dl w fun i=>I4 kind (a.testBit i) (b.testBit i))) h):xm #[I kind,I w,I a,I b] h R:=by
 apply Mf
 refine uf_ ?_
 refine au w (fun i vs h'=>vs= [I kind,I w,I a,I b,I (dl i fun i=>I4 kind (a.testBit i) (b.testBit i)),I i]/\h'=h) ⟨rfl,rfl⟩ ?_
 rintro i _ _ next hi ⟨rfl,rfl⟩ hn
 refine⟨_,_,_,_,_,_,rfl,?_⟩
 by_cases hlt:i<w
 ·refine aN (by simp [hlt]) (jA (by omega) ⟨_,rfl,jA (by omega) ⟨_,rfl,?_⟩⟩)
  have hn':=hn hlt _ _ ⟨rfl,rfl⟩
  generalize hx:a.testBit i=x at*
  generalize hy:b.testBit i=y at*
  refine ar (fun J=>J (if kind=7 then(if x||y then 1 else 0)else(if x&&y then 1 else 0))) ?_ ?_
  ·refine ar (fun J=>J (if I4 kind x y then 1 else 0)) ?_ ?_
   ·rw [cX (by omega),if_neg (by omega),Pi (by omega),NC (by omega) (by rw [hx,hy]),ay (by omega)]
    exact hn'
   ·intro J hJ
    refine ad (fun e=>?_) (fun e=>?_)
    ·have:I4 kind x y=(x^^y):=by unfold I4;rw [if_pos (bW e)]
     rw [this]at hJ
     revert hJ;cases x<;>cases y<;>exact id
    ·have:I4 kind x y=if kind=7 then x||y else x&&y:=by unfold I4;rw [if_neg (bz e)]
     rw [this]at hJ
     by_cases h7:kind=7
     ·rw [if_pos h7]at hJ⊢;exact hJ
     ·rw [if_neg h7]at hJ⊢;exact hJ
  ·intro J hJ
   refine ad (fun e=>?_) (fun e=>?_)
   ·rw [if_pos (bW e)]at hJ
    revert hJ;cases x<;>cases y<;>exact id
   ·rw [if_neg (bz e)]at hJ
    revert hJ;cases x<;>cases y<;>exact id
 ·have:i=w:=by omega
  subst this
  exact aC (by simp) k
theorem Td {h:Hp} {kind:Int} {w a b:Nat} {R:Value->Hp->Prop} (ea:WO w a) (eb:WO w b)
  (k:R (I ((if kind=12 then(if b=0 then 2^w-1 else a/b)else if b=0 then a else a%b:Nat))) h):zj #[I kind,I w,I a,I b] h R:=by
 apply Ps
 refine uf_ ?_
 have h16:=ea.pow
 have hp:=bP w
 have ha:=ea.2
 have hw:=ea.1
 refine ad (fun e=>?_) (fun e=>?_)
 ·rw [if_pos (bW e)]at k
  refine ad (fun e0=>?_) (fun e0=>?_)
  ·have hb0:b=0:=by have:=bW e0;omega
   rw [if_pos hb0]at k
   rw [cX (by omega),if_neg (by omega),cv (by omega),bX (by omega) (by omega)]
   have:((2^w-1:Nat):Int)=((2^w:Nat):Int)-1:=by omega
   rw [<-this];exact k
  ·have hb0: ¬b=0:=by have:=bz e0;omega
   rw [if_neg hb0]at k
   have hd:=Nat.div_le_self a b
   rw [if_neg (by omega),vr,fP (by omega)];exact k
 ·rw [if_neg (bz e)]at k
  refine ad (fun e0=>?_) (fun e0=>?_)
  ·have hb0:b=0:=by have:=bW e0;omega
   rw [if_pos hb0]at k;exact k
  ·have hb0: ¬b=0:=by have:=bz e0;omega
   rw [if_neg hb0]at k
   rw [if_neg (by omega),eQ];exact k
theorem Rv {h:Hp} {kind:Int} {w a b:Nat} {R:Value->Hp->Prop} (hk:kind=14\/kind=15) (ea:WO w a) (eb:WO w b)
  (k:R (I ((if kind=14 then Oy w a b else N1 w a b:Nat):Int)) h):w9 #[I kind,I w,I a,I b] h R:=by
 apply Me
 refine uf_ ?_
 have h16:=ea.pow
 have hp:=bP w
 have sa:=Gv ea
 have sb:=Gv eb
 have hw:=ea.1
 refine jO ea ⟨_,rfl,jO eb ⟨_,rfl,?_⟩⟩
 unfold Oy N1 at k
 refine ad (fun e=>?_) (fun e=>?_)
 ·have e':=bW e
  rw [if_neg (by omega)]at k
  refine ad (fun e0=>?_) (fun e0=>?_)
  ·rw [if_pos (bW e0)]at k;exact k
  ·rw [if_neg (bz e0)]at k
   rw [if_neg (bz e0)]
   exact jj hw ⟨_,rfl,k⟩
 ·have e':kind=14:=by have:=bz e;omega
  rw [if_pos e']at k
  by_cases hy:sgn w b=0
  ·rw [if_pos hy]at k
   have hyb:(sgn w b==0)=true:=by simpa using hy
   refine ar (fun J=>J (decide (sgn w a<0))) ?_ (fun J hJ=>aN hyb hJ)
   refine ad (fun e=>?_) (fun e=>aN hyb ?_)
   ·rw [if_pos (of_decide_eq_true e)]at k;exact k
   ·rw [if_neg (of_decide_eq_false e)]at k
    rw [cX (by omega),if_neg (by omega),cv (by omega),bX (by omega) (by omega)]
    have:((2^w-1:Nat):Int)=((2^w:Nat):Int)-1:=by omega
    rw [<-this];exact k
  ·rw [if_neg hy]at k
   have hyb:(sgn w b==0)=false:=by simpa using hy
   refine ar (fun J=>J false) ?_ (fun J hJ=>aC hyb hJ)
   refine aC rfl (aC hyb ?_)
   have hdiv:(Int.tdiv (sgn w a) (sgn w b)).natAbs<=65536:=by
    rw [Int.natAbs_tdiv]
    exact Nat.le_trans (Nat.div_le_self _ _) (by omega)
   rw [if_neg hy,bX (by omega) (by omega)]
   exact jj hw ⟨_,rfl,k⟩
theorem PP {h:Hp} {kind:Int} {w a b:Nat} {R:Value->Hp->Prop} (hk:kind=16\/kind=17\/kind=18) (ea:WO w a) (hb:b<=65536)
  (k:R (I (FC kind w a b)) h):qe #[I kind,I w,I a,I b] h R:=by
 have hw:=ea.1
 have key: ∀f:Nat->Bool,dl w f=FC kind w a b->
   (∀i,i<w->f i=if kind=16 then decide (b<=i)&&a.testBit (i-b)else if kind=17 then decide (i+b<w)&&a.testBit (i+b)else if i+b<w then a.testBit (i+b)else a.testBit (w-1))->
   qe #[I kind,I w,I a,I b] h R:=by
  intro f hcode hf
  apply LC
  refine uf_ ?_
  refine au w (fun i vs h'=>vs= [I kind,I w,I a,I b,I (dl i f),I i]/\h'=h) ⟨rfl,rfl⟩ ?_
  rintro i _ h' next hi ⟨rfl,rfl⟩ hn
  refine⟨_,_,_,_,_,_,rfl,?_⟩
  by_cases hlt:i<w
  ·refine aN (by simp [hlt]) ?_
   have hn':=hn hlt _ _ ⟨rfl,rfl⟩
   have hfi:=hf i hlt
   refine ar (fun J=>J (if kind=16 then(i:Int)-b else(i:Int)+b)) ?_ ?_
   ·refine ar (fun J=>J (decide (0<=(if kind=16 then(i:Int)-b else(i:Int)+b)/\(if kind=16 then(i:Int)-b else(i:Int)+b)<w))) ?_ ?_
    ·refine ar (fun J=>J (if f i then 1 else 0) h') ?_ ?_
     ·rw [cX (by omega),if_neg (by omega),Pi (by omega),NC (by omega) rfl,ay (by omega)]
      exact hn'
     ·intro J hJ
      refine ad (fun e=>?_) (fun e=>?_)
      ·have e':=of_decide_eq_true e
       by_cases h16:kind=16
       ·rw [if_pos h16]at e' hfi⊢
        rw [show (i:Int)-b=((i-b:Nat):Int) by omega]
        refine jA (by omega) ⟨_,rfl,?_⟩
        rw [hfi]at hJ
        have:decide (b<=i)=true:=by simp;omega
        rw [this,Bool.true_and]at hJ;exact hJ
       ·rw [if_neg h16]at e' hfi⊢
        rw [show (i:Int)+b=((i+b:Nat):Int) by omega]
        refine jA (by omega) ⟨_,rfl,?_⟩
        have h1:decide (i+b<w)=true:=by simp;omega
        rw [h1,Bool.true_and,if_pos (show i+b<w by omega),ite_self]at hfi
        rw [hfi]at hJ;exact hJ
      ·have e':=of_decide_eq_false e
       refine ad (fun e2=>?_) (fun e2=>?_)
       ·have h18:=bW e2
        rw [if_neg (by omega)]at e'
        rw [if_neg (by omega),if_neg (by omega),if_neg (by omega)]at hfi
        rw [show W ((w:Int)-1)=((w-1:Nat):Int) by rw [bX (by omega) (by omega)];omega]
        refine jA (by omega) ⟨_,rfl,?_⟩
        rw [hfi]at hJ;exact hJ
       ·have h18:=bz e2
        have:f i=false:=by
         rw [hfi]
         by_cases h16:kind=16
         ·rw [if_pos h16]at e'⊢
          have:decide (b<=i)=false:=by simp;omega
          rw [this,Bool.false_and]
         ·rw [if_neg h16]at e'⊢
          rw [if_pos (by omega)]
          have:decide (i+b<w)=false:=by simp;omega
          rw [this,Bool.false_and]
        rw [this]at hJ
        exact hJ
    ·intro J hJ
     generalize (if kind=16 then(i:Int)-b else(i:Int)+b)=z at*
     refine ad (fun e=>?_) (fun e=>?_)
     ·have:0<=z:=of_decide_eq_true e
      rw [show decide (0<=z/\z<(w:Int))=decide (z<(w:Int)) by rw [decide_eq_decide];omega]at hJ;exact hJ
     ·have: ¬0<=z:=of_decide_eq_false e
      rw [show decide (0<=z/\z<(w:Int))=false by rw [decide_eq_false_iff_not];omega]at hJ;exact hJ
   ·intro J hJ
    refine ad (fun e=>?_) (fun e=>?_)
    ·rw [if_pos (bW e)]at hJ;rw [bX (by omega) (by omega)];exact hJ
    ·rw [if_neg (bz e)]at hJ;rw [bX (by omega) (by omega)];exact hJ
  ·have:i=w:=by omega
   subst this
   refine aC (by simp) ?_
   rw [hcode];exact k
 rcases hk with rfl|rfl|rfl
 ·exact key (fun i=>decide (b<=i)&&a.testBit (i-b)) ab5 (fun i _=>rfl)
 ·exact key (fun i=>decide (i+b<w)&&a.testBit (i+b)) (aaI ea.2) (fun i _=>rfl)
 ·exact key (fun i=>if i+b<w then a.testBit (i+b)else a.testBit (w-1)) (abC hw.1 hw.2 ea.2) (fun i _=>rfl)
theorem RB {h:Hp} {kind:Int} {w a b:Nat} {R:Value->Hp->Prop} (hk:kind=19\/kind=20) (ea:WO w a)
  (k:R (I ((if kind=19 then Dd w a (b%w)else Dd w a ((w-b%w)%w):Nat))) h):rR #[I kind,I w,I a,I b] h R:=by
 have hw:=ea.1
 have hm:b%w<w:=Nat.mod_lt _ (by omega)
 have key: ∀s:Nat,s<w->R (I (Dd w a s)) h->(∀i,i<w->(if kind=20 then(i+w-b%w)%w else(i+b%w)%w)=(i+s)%w)->
   rR #[I kind,I w,I a,I b] h R:=by
  intro s hs k hto
  apply MY
  refine uf_ ?_
  refine au w (fun i vs h'=>vs= [I kind,I w,I a,I b,I (dl w fun j=>decide ((j+(w-s))%w<i)&&a.testBit ((j+(w-s))%w)),I i]/\h'=h) ⟨?_,rfl⟩ ?_
  ·have:dl w (fun j=>decide ((j+(w-s))%w<0)&&a.testBit ((j+(w-s))%w))=0:=
    ku (bP w) fun i _=>by simp
   rw [this];rfl
  rintro i _ h' next hi ⟨rfl,rfl⟩ hn
  refine⟨_,_,_,_,_,_,rfl,?_⟩
  by_cases hlt:i<w
  ·refine aN (by simp [hlt]) ?_
   have hn':=hn hlt _ _ ⟨rfl,rfl⟩
   have hst:=YT (a:=a) hs hlt
   have hto:=hto i hlt
   rw [if_neg (by omega),eQ]
   have hpw:(i+s)%w<w:=Nat.mod_lt _ (by omega)
   refine ar (fun J=>J ((if kind=20 then i+w-b%w else i+b%w:Nat):Int)) ?_ ?_
   ·have ht:Int.tmod ((if kind=20 then i+w-b%w else i+b%w:Nat):Int) (w:Int)=(((i+s)%w:Nat):Int):=by
     rw [eQ,<-hto]
     split<;>rfl
    rw [if_neg (by omega),ht,cX (by omega)]
    have step:W ((dl w (fun j=>decide ((j+(w-s))%w<i)&&a.testBit ((j+(w-s))%w)):Int)+az (if a.testBit i then 1 else 0) (((i+s)%w:Nat):Int))=
      ((dl w (fun j=>decide ((j+(w-s))%w<i+1)&&a.testBit ((j+(w-s))%w)):Nat):Int):=by
     rw [Pi (by omega),<-hst,<-Int.natCast_add,fP]
     rw [hst]
     have:=un w (fun j=>decide ((j+(w-s))%w<i+1)&&a.testBit ((j+(w-s))%w))
     have:=Ap hw.2
     omega
    have one:eA #[I a,I i] h' fun v25 h26=> ∃(x27:Int),v25=(I x27)/\(if(((i+s)%w:Nat):Int)<0 then False else next [I kind,I w,I a,I b,I (W ((dl w (fun j=>decide ((j+(w-s))%w<i)&&a.testBit ((j+(w-s))%w)):Int)+az x27 (((i+s)%w:Nat):Int))),I (W ((i:Int)+1))] h26):=by
     refine jA (by omega) ⟨_,rfl,?_⟩
     rw [if_neg (by omega),step,ay (by omega)]
     exact hn'
    exact⟨one,one⟩
   ·intro J hJ
    refine ad (fun e=>?_) (fun e=>?_)
    ·rw [if_pos (bW e)]at hJ
     rw [if_neg (by omega)]
     have:W (W ((i:Int)+w)-((b%w:Nat):Int))=((i+w-b%w:Nat):Int):=by rw [bX (n:=(i:Int)+w) (by omega) (by omega),bX (by omega) (by omega)];omega
     rw [this];exact hJ
    ·rw [if_neg (bz e)]at hJ
     have:W ((i:Int)+((b%w:Nat):Int))=((i+b%w:Nat):Int):=by rw [bX (by omega) (by omega)];omega
     rw [this];exact hJ
  ·have:i=w:=by omega
   subst this
   refine aC (by simp) ?_
   have:dl i (fun j=>decide ((j+(i-s))%i<i)&&a.testBit ((j+(i-s))%i))=Dd i a s:=by
    rw [<-abG ea.2 hs]
    refine vv fun j _=>?_
    have:decide ((j+(i-s))%i<i)=true:=by
     rw [decide_eq_true_eq];exact Nat.mod_lt _ (by omega)
    rw [this,Bool.true_and]
   rw [this];exact k
 rcases hk with rfl|rfl
 ·refine key (b%w) hm k fun i _=>?_
  rw [if_neg (by omega)]
 ·rw [if_neg (by omega)]at k
  refine key ((w-b%w)%w) (Nat.mod_lt _ (by omega)) k fun i _=>?_
  rw [if_pos rfl,Nat.add_mod_mod]
  congr 1
  omega
theorem Bk {b:Bool} {R:Value->Hp->Prop} {h:Hp} {c:Bool} (e:b=c) (k:R (.tuple #[.bool c, .bool true]) h):R (.tuple #[.bool b, .bool true]) h:=by rw [e];exact k
theorem SD {h:Hp} {kind:Int} {w a b:Nat} {R:Value->Hp->Prop} (ea:WO w a) (eb:WO w b)
  (k1:21<=kind/\kind<=28->R (.tuple #[.bool (Bh kind w a b), .bool true]) h)
  (k2: ¬(21<=kind/\kind<=28)->R (.tuple #[.bool false, .bool false]) h):xh #[I kind,I w,I a,I b] h R:=by
 apply Mw
 refine uf_ ?_
 have h16:=ea.pow
 have hp:=bP w
 have sa:=Gv ea
 have sb:=Gv eb
 have ha:=ea.2
 have hb:=eb.2
 have hw:=ea.1
 have dd: ∀{p q:Prop} [Decidable p] [Decidable q],(p↔q)->decide p=decide q:=fun h=>by rw [decide_eq_decide];exact h
 refine jO ea ⟨_,rfl,jO eb ⟨_,rfl,?_⟩⟩
 refine ad (fun e=>?_) (fun e1=>?_)
 ·have e:=bW e
  subst e
  refine Bk ?_ (k1 (by omega))
  show _=decide (a=b)
  rw [Bool.eq_iff_iff];simp;omega
 refine ad (fun e=>?_) (fun e2=>?_)
 ·have e:=bW e
  subst e
  exact Bk (dd (by omega)) (k1 (by omega))
 refine ad (fun e=>?_) (fun e3=>?_)
 ·have e:=bW e
  subst e
  exact k1 (by omega)
 refine ad (fun e=>?_) (fun e4=>?_)
 ·have e:=bW e
  subst e
  exact Bk (dd (by omega)) (k1 (by omega))
 refine ad (fun e=>?_) (fun e5=>?_)
 ·have e:=bW e
  subst e
  exact k1 (by omega)
 refine ad (fun e=>?_) (fun e6=>?_)
 ·have e:=bW e
  subst e
  have hab:W ((a:Int)+b)=((a+b:Nat):Int):=by rw [bX (by omega) (by omega)];omega
  rw [hab]
  refine cO ⟨_,rfl,?_⟩
  refine Bk ?_ (k1 (by omega))
  show _=decide (2^w<=a+b)
  rw [Bool.eq_iff_iff]
  have:=iT (w:=(w:Int)) (v:=((a+b:Nat):Int))
  rw [Int.toNat_natCast]at this
  simp only [Bool.not_eq_true',decide_eq_true_eq,<-Bool.not_eq_true,this]
  omega
 refine ad (fun e=>?_) (fun e7=>?_)
 ·have e:=bW e
  subst e
  rw [bX (by omega) (by omega)]
  refine jj hw ⟨_,rfl,jO ⟨hw,kG _ _⟩ ⟨_,rfl,?_⟩⟩
  refine Bk ?_ (k1 (by omega))
  show _= !decide (-((2^(w-1):Nat):Int)<=sgn w a+sgn w b/\sgn w a+sgn w b<((2^(w-1):Nat):Int))
  have:=ahN (a:=a) (b:=b) hw.1
  rw [Bool.eq_iff_iff,bne_iff_ne,this,Bool.not_eq_true',decide_eq_false_iff_not]
 refine ad (fun e=>?_) (fun e8=>?_)
 ·have e:=bW e
  subst e
  have hmul:=EC (a:=a) (b:=b) (by omega) (by omega)
  have hmi:(a:Int)*(b:Int)=((a*b:Nat):Int):=(Int.natCast_mul _ _).symm
  rw [hmi,fP (by omega)]
  refine cO ⟨_,rfl,?_⟩
  refine Bk ?_ (k1 (by omega))
  show _=decide (2^w<=a*b)
  rw [Bool.eq_iff_iff]
  have:=iT (w:=(w:Int)) (v:=((a*b:Nat):Int))
  rw [Int.toNat_natCast]at this
  simp only [Bool.not_eq_true',decide_eq_true_eq,<-Bool.not_eq_true,this]
  generalize a*b=ab at*
  omega
 ·have:=bz e1;have:=bz e2;have:=bz e3;have:=bz e4;have:=bz e5;have:=bz e6;have:=bz e7;have:=bz e8
  exact k2 (by omega)
theorem EJ {h:Hp} {kind:Int} {w a b:Nat} {R:Value->Hp->Prop} (hk:6<=kind/\kind<=28) (ea:WO w a) (eb:WO w b)
  (k:R (.tuple #[I (pY kind w a b).1,I (pY kind w a b).2, .bool true]) h):qw #[I kind,I w,I a,I b] h R:=by
 apply Ko
 refine uf_ ?_
 have h16:=ea.pow
 have hp:=bP w
 have ha:=ea.2
 have hb:=eb.2
 have hw:=ea.1
 have hmul:=EC (a:=a) (b:=b) (by omega) (by omega)
 refine ar (fun J=>J false h) ?_ (fun J hJ=>cO ⟨_,rfl,aC (by rw [ea.ok];rfl) (cO ⟨_,rfl,by rw [eb.ok];exact hJ⟩)⟩)
 refine aC rfl (SD ea eb (fun h21=>⟨_,_,rfl,aN rfl (uZ ⟨_,rfl,?_⟩)⟩) (fun h21=>⟨_,_,rfl,aC rfl ?_⟩))
 ·have t:pY kind w a b=(if Bh kind w a b then 1 else 0,1):=by unfold pY;rw [if_neg (by omega)]
  rw [t]at k
  cases hs:Bh kind w a b
  ·rw [hs]at k;simpa using k
  ·rw [hs]at k;simpa using k
 have t:pY kind w a b=(Az kind w a b,w):=by unfold pY;rw [if_pos (by omega)]
 rw [t]at k
 unfold Az at k
 simp only at k
 refine ar (fun J=>J (decide (kind=6\/kind=7\/kind=8))) ?_ ?_
 rotate_left
 ·intro J hJ
  refine ad (fun e=>?_) (fun e=>ad (fun e2=>?_) (fun e2=>?_))
  ·rw [decide_eq_true (.inl (bW e))]at hJ;exact hJ
  ·rw [decide_eq_true (.inr (.inl (bW e2)))]at hJ;exact hJ
  ·have:(kind==8)=decide (kind=6\/kind=7\/kind=8):=by
    have h1:=bz e
    have h2:=bz e2
    rw [Bool.eq_iff_iff];simp [h1,h2]
   rw [this];exact hJ
 refine ad (fun e=>?_) (fun e678=>?_)
 ·have e':kind=6\/kind=7\/kind=8:=by simpa using e
  refine QW hw.2 ⟨_,rfl,?_⟩
  rcases e' with rfl|rfl|rfl
  ·rw [if_pos rfl,<-LJ ha]at k;exact k
  ·rw [if_neg (by decide),if_pos rfl,<-Vm ha hb]at k;exact k
  ·rw [if_neg (by decide),if_neg (by decide),if_pos rfl,<-ach ha hb]at k;exact k
 have n6: ¬kind=6/\ ¬kind=7/\ ¬kind=8:=by simpa using e678
 rw [if_neg n6.1,if_neg n6.2.1,if_neg n6.2.2]at k
 refine ad (fun e=>?_) (fun e9=>?_)
 ·rw [if_pos (bW e)]at k
  rw [bX (by omega) (by omega)]
  exact jj hw ⟨_,rfl,k⟩
 rw [if_neg (bz e9)]at k
 refine ad (fun e=>?_) (fun e10=>?_)
 ·rw [if_pos (bW e)]at k
  rw [bX (by omega) (by omega)]
  exact jj hw ⟨_,rfl,k⟩
 rw [if_neg (bz e10)]at k
 refine ad (fun e=>?_) (fun e11=>?_)
 ·rw [if_pos (bW e)]at k
  have hmi:(a:Int)*(b:Int)=((a*b:Nat):Int):=(Int.natCast_mul _ _).symm
  rw [hmi]at k⊢
  generalize a*b=ab at*
  rw [fP (by omega)]
  exact jj hw ⟨_,rfl,k⟩
 rw [if_neg (bz e11)]at k
 refine ar (fun J=>J (decide (kind=12\/kind=13))) ?_ ?_
 rotate_left
 ·intro J hJ
  refine ad (fun e=>?_) (fun e=>?_)
  ·rw [decide_eq_true (.inl (bW e))]at hJ;exact hJ
  ·have:(kind==13)=decide (kind=12\/kind=13):=by
    have:=bz e
    rw [Bool.eq_iff_iff];simp [this]
   rw [this];exact hJ
 refine ad (fun e=>?_) (fun e1213=>?_)
 ·have e':kind=12\/kind=13:=by simpa using e
  refine Td ea eb ⟨_,rfl,?_⟩
  rcases e' with rfl|rfl
  ·simpa using k
  ·simpa using k
 have n12: ¬kind=12/\ ¬kind=13:=by simpa using e1213
 rw [if_neg n12.1,if_neg n12.2]at k
 refine ar (fun J=>J (decide (kind=14\/kind=15))) ?_ ?_
 rotate_left
 ·intro J hJ
  refine ad (fun e=>?_) (fun e=>?_)
  ·rw [decide_eq_true (.inl (bW e))]at hJ;exact hJ
  ·have:(kind==15)=decide (kind=14\/kind=15):=by
    have:=bz e
    rw [Bool.eq_iff_iff];simp [this]
   rw [this];exact hJ
 refine ad (fun e=>?_) (fun e1415=>?_)
 ·have e':kind=14\/kind=15:=by simpa using e
  refine Rv e' ea eb ⟨_,rfl,?_⟩
  rcases e' with rfl|rfl
  ·simpa using k
  ·simpa using k
 have n14: ¬kind=14/\ ¬kind=15:=by simpa using e1415
 rw [if_neg n14.1,if_neg n14.2]at k
 refine ar (fun J=>J (decide (kind=16\/kind=17\/kind=18))) ?_ ?_
 rotate_left
 ·intro J hJ
  refine ad (fun e=>?_) (fun e=>ad (fun e2=>?_) (fun e2=>?_))
  ·rw [decide_eq_true (.inl (bW e))]at hJ;exact hJ
  ·rw [decide_eq_true (.inr (.inl (bW e2)))]at hJ;exact hJ
  ·have:(kind==18)=decide (kind=16\/kind=17\/kind=18):=by
    have h1:=bz e
    have h2:=bz e2
    rw [Bool.eq_iff_iff];simp [h1,h2]
   rw [this];exact hJ
 refine ad (fun e=>?_) (fun e1618=>?_)
 ·have e':kind=16\/kind=17\/kind=18:=by simpa using e
  refine PP e' ea (by omega) ⟨_,rfl,?_⟩
  unfold FC
  rcases e' with rfl|rfl|rfl
  ·simpa using k
  ·simpa using k
  ·simpa using k
 have n16: ¬kind=16/\ ¬kind=17/\ ¬kind=18:=by simpa using e1618
 rw [if_neg n16.1,if_neg n16.2.1,if_neg n16.2.2]at k
 have h1920:kind=19\/kind=20:=by
  have:=bz e9;have:=bz e10;have:=bz e11
  omega
 refine ar (fun J=>J true) ?_ ?_
 rotate_left
 ·intro J hJ
  refine ad (fun e=>hJ) (fun e=>?_)
  have:(kind==20)=true:=by
   have:=bz e
   rw [beq_iff_eq];omega
  rw [this];exact hJ
 refine aN rfl (RB h1920 ea ⟨_,rfl,k⟩)
theorem aat {w a more:Nat} {sign:Bool} (e:WO w a):ET w a more sign<2^(w+more):=by
 unfold ET
 cases sign
 ·have:=e.2
  have:2^w<=2^(w+more):=Nat.pow_le_pow_right (by omega) (by omega)
  rw [if_neg (by decide)];omega
 ·exact kG _ _
theorem Nw {h:Hp} {w a more:Nat} {s:Bool} {R:Value->Hp->Prop} (e:WO w a) (hm:w+more<=16)
  (k:R (I (ET w a more s)) h):z9 #[I w,I a,I more, .bool s] h R:=by
 apply Rn
 refine uf_ ?_
 unfold ET at k
 refine ad (fun es=>?_) (fun es=>?_)
 ·rw [if_pos es]at k
  refine pR e ⟨_,rfl,?_⟩
  rw [show W ((w:Int)+more)=((w+more:Nat):Int) by rw [bX (by omega) (by omega)];omega]
  refine dE (by omega) ⟨_,rfl,?_⟩
  rw [gV (by omega)];exact k
 ·rw [if_neg (by rw [es];decide)]at k;exact k
theorem Mb {h:Hp} {w a more:Nat} {s:Bool} {R:Value->Hp->Prop} (e:WO w a) (hm:w+more<=16)
  (k:R (.tuple #[I (ET w a more s),I ((w+more:Nat):Int), .bool true]) h):ly #[I w,I a,I more, .bool s] h R:=by
 apply zG
 refine uf_ ?_
 unfold ET at k
 have hw:W ((w:Int)+more)=((w+more:Nat):Int):=by rw [bX (by omega) (by omega)];omega
 have h1:=e.1
 refine ar (fun J=>J false h) ?_ (fun J hJ=>cO ⟨_,rfl,aC (by rw [e.ok];rfl) (aC (by simp) ?_)⟩)
 ·refine aC rfl (ad (fun es=>?_) (fun es=>?_))
  ·rw [if_pos es]at k
   rw [hw]
   exact jO e ⟨_,rfl,jj (by omega) ⟨_,rfl,k⟩⟩
  ·rw [if_neg (by rw [es];decide)]at k
   rw [hw];exact k
 ·rw [bX (by omega) (by omega),show decide ((more:Int)>16-(w:Int))=false by rw [decide_eq_false_iff_not];omega];exact hJ
theorem My {h:Hp} {w a u b:Nat} {R:Value->Hp->Prop} (ea:WO w a) (eb:WO u b) (hm:w+u<=16)
  (k:R (.tuple #[I ((a*2^u+b:Nat):Int),I ((w+u:Nat):Int), .bool true]) h):lA #[I w,I a,I u,I b] h R:=by
 apply zM
 refine uf_ ?_
 have hw:W ((w:Int)+u)=((w+u:Nat):Int):=by rw [bX (by omega) (by omega)];omega
 have h1:=ea.1
 have h2:=eb.1
 have ha:=ea.2
 have hb:=eb.2
 have h16a:=ea.pow
 have h16b:=eb.pow
 have hmul:=EC (a:=a) (b:=2^u) (by omega) (by omega)
 refine ar (fun J=>J false h) ?_ (fun J hJ=>cO ⟨_,rfl,aC (by rw [ea.ok];rfl) (cO ⟨_,rfl,aC (by rw [eb.ok];rfl) ?_⟩)⟩)
 ·rw [cX (by omega)]
  refine aC rfl ?_
  rw [if_neg (by omega),iZ (by omega) (by omega),hw,<-Int.natCast_add,fP (by omega)];exact k
 ·rw [hw,show decide (((w+u:Nat):Int)>16)=false by rw [decide_eq_false_iff_not];omega];exact hJ
theorem Lj {h:Hp} {w a hi lo:Nat} {R:Value->Hp->Prop} (ea:WO w a) (h1:lo<=hi) (h2:hi<w)
  (k:R (.tuple #[I ((a/2^lo%2^(hi-lo+1):Nat):Int),I ((hi-lo+1:Nat):Int), .bool true]) h):kE #[I w,I a,I hi,I lo] h R:=by
 apply yh
 refine uf_ ?_
 have e0:=ea.1
 have hw:W (W ((hi:Int)-lo)+1)=((hi-lo+1:Nat):Int):=by rw [bX (n:=(hi:Int)-lo) (by omega) (by omega),bX (by omega) (by omega)];omega
 have e1:=ea.1
 have hp:=bP (hi-lo+1)
 refine ar (fun J=>J false h) ?_ (fun J hJ=>cO ⟨_,rfl,aC (by rw [ea.ok];rfl) (aC (by simp) (aC (by simp;omega) ?_))⟩)
 ·refine aC rfl ?_
  rw [hw,cX (by omega),cX (by omega),if_neg (by omega),if_neg (by omega),cv (by omega),if_neg (by omega),jE (by omega),eQ]
  exact k
 ·rw [show decide ((hi:Int)>=(w:Int))=false by rw [decide_eq_false_iff_not];omega];exact hJ
theorem aj {h:Hp} {cs:Nat->List Value} {n:Nat->Nat} {P:Nat->Hp->Prop}
  (k: ∀b h',h b=none->h.le h'->h' b=some (.inl ⟨cs b,n b,false⟩)->P b h'): ∀b,h b=none->cL (h.row b (cs b) (n b)) fun h'=>P b h':=
 fun b hb=>k b _ hb (gk _ _ hb) (bT _ _ _ _)
theorem dK {b c:Bool} {R:Value->Hp->Prop} {h:Hp} (e:b=c) (k:R (.bool c) h):R (.bool b) h:=by rw [e];exact k
theorem td {b c:Int} {R:Value->Hp->Prop} {h:Hp} (e:b=c) (k:R (I c) h):R (I b) h:=by rw [e];exact k
theorem agn {P:Bool->Prop} {c b:Bool} (k:P (c&&b)):ac c (P b) (P false):=by cases c<;>exact k
theorem ahK {P:Bool->Prop} {c b:Bool} (k:P (c||b)):ac c (P true) (P b):=by cases c<;>exact k
abbrev vM (s:SortP):Value:= .agg #[I s.idx,I s.wid]
abbrev wu (n:NodeP):Value:= .agg #[I n.kind,I n.a,I n.b,I n.c,I n.n,I n.m,I n.sort.idx,I n.sort.wid, .string n.name]
abbrev we (b:BindP):Value:= .agg #[I b.state,I b.node]
theorem Ks (s:SortP):bV s=(decide (0<=s.idx/\s.idx<=2)&&decide (1<=s.wid/\s.wid<=16)):=by
 unfold bV;rw [Bool.eq_iff_iff];simp
theorem bD {s:SortP}:bV s=true↔(0<=s.idx/\s.idx<=2)/\(1<=s.wid/\s.wid<=16):=by
 unfold bV;simp
theorem rv {h:Hp} {i w:Int} {R:Value->Hp->Prop} (k:R (.bool (bV ⟨i,w⟩)) h):oK #[.agg #[I i,I w]] h R:=by
 refine ACalls.drop (MM ?_)
 refine uf_ ?_
 refine aj fun b h1 hb l1 f1=>?_
 simp only [vm,mm,ax f1]
 rw [Ks]at k
 refine iM ⟨_,rfl,ad (fun e=>?_) (fun e=>⟨_,l1,dK ?_ k⟩)⟩
 ·simp only [vm,mm,ax f1]
  exact EV ⟨_,rfl,⟨_,l1,dK (by simp only [e,Bool.true_and]) k⟩⟩
 ·simp only [e,Bool.false_and]
theorem rc {h:Hp} {i w:Int} {R:Value->Hp->Prop} (k:R (.bool (bV ⟨i,w⟩)) h):om #[.agg #[I i,I w]] h R:=by
 refine ACalls.drop (Mr ?_)
 refine uf_ ?_
 refine aj fun b h1 hb l1 f1=>?_
 simp only [vm,mm,ax f1]
 rw [Ks]at k
 refine eu ⟨_,rfl,ad (fun e=>?_) (fun e=>⟨_,l1,dK ?_ k⟩)⟩
 ·simp only [vm,mm,ax f1]
  exact yA ⟨_,rfl,⟨_,l1,dK (by simp only [e,Bool.true_and]) k⟩⟩
 ·simp only [e,Bool.false_and]
theorem zq (s:SortP):di s<=4:=by
 unfold di
 split
 ·rename_i e
  have:=bD.1 e
  have:=Nat.pow_le_pow_right (n:=2) (by omega) (show s.idx.toNat<=2 by omega)
  simpa using this
 ·omega
theorem nH {h:Hp} {i w:Int} {R:Value->Hp->Prop} (k:R (I (di ⟨i,w⟩)) h):kq #[.agg #[I i,I w]] h R:=by
 refine ACalls.drop (Gk ?_)
 refine uf_ ?_
 refine aj fun b h1 hb l1 f1=>?_
 simp only [vm,mm,ax f1]
 unfold di at k
 refine rv ⟨_,rfl,ad (fun e=>⟨_,l1,?_⟩) (fun e=>?_)⟩
 ·rw [if_neg (by simpa using e)]at k;exact k
 ·have e':bV ⟨i,w⟩=true:=by simpa using e
  have:=bD.1 e'
  rw [if_pos e']at k
  simp only [vm,mm,ax f1]
  obtain⟨n,rfl⟩: ∃n:Nat,i=n:=⟨i.toNat,by simp only at this;omega⟩
  simp only at this
  rw [if_neg (by omega),cv (by omega)]
  exact⟨_,l1,k⟩
theorem gy {h:Hp} {i w:Int} {R:Value->Hp->Prop} (k:R (I (di ⟨i,w⟩)) h):fY #[.agg #[I i,I w]] h R:=by
 refine ACalls.drop (F6 ?_)
 refine uf_ ?_
 refine aj fun b h1 hb l1 f1=>?_
 simp only [vm,mm,ax f1]
 unfold di at k
 refine rc ⟨_,rfl,ad (fun e=>⟨_,l1,?_⟩) (fun e=>?_)⟩
 ·rw [if_neg (by simpa using e)]at k;exact k
 ·have e':bV ⟨i,w⟩=true:=by simpa using e
  have:=bD.1 e'
  rw [if_pos e']at k
  simp only [vm,mm,ax f1]
  obtain⟨n,rfl⟩: ∃n:Nat,i=n:=⟨i.toNat,by simp only at this;omega⟩
  simp only at this
  rw [cX (by omega),if_neg (by omega),cv (by omega)]
  exact⟨_,l1,k⟩
theorem Ay (s:SortP):dT s<=64:=by
 unfold dT
 by_cases e:bV s=true
 ·have:=bD.1 e
  have h1:=zq s
  have:=Nat.mul_le_mul h1 (show s.wid.toNat<=16 by omega)
  omega
 ·have:di s=0:=by unfold di;rw [if_neg e]
  rw [this];omega
theorem D7 {s:SortP} {x:Int} (hx:bV s=true->x=s.wid):(di s:Int)*x=((dT s:Nat):Int):=by
 unfold dT
 by_cases e:bV s=true
 ·have:=bD.1 e
  rw [hx e,Int.natCast_mul]
  congr 1
  omega
 ·have:di s=0:=by unfold di;rw [if_neg e]
  rw [this];simp
theorem pC {h:Hp} {i w:Int} {R:Value->Hp->Prop} (k:R (I (dT ⟨i,w⟩)) h):lD #[.agg #[I i,I w]] h R:=by
 refine ACalls.drop (Ho ?_)
 refine uf_ ?_
 refine aj fun b h1 hb l1 f1=>?_
 simp only [vm,mm,ax f1]
 refine nH ⟨_,rfl,rfl,⟨_,l1,td ?_ k⟩⟩
 have:=Ay ⟨i,w⟩
 rw [D7,fP (by omega)]
 intro e
 have:=bD.1 e
 simp only at this⊢
 split<;>split<;>omega
theorem jx {h:Hp} {i w:Int} {R:Value->Hp->Prop} (k:R (I (dT ⟨i,w⟩)) h):iW #[.agg #[I i,I w]] h R:=by
 refine ACalls.drop (HS ?_)
 refine uf_ ?_
 refine aj fun b h1 hb l1 f1=>?_
 simp only [vm,mm,ax f1]
 refine gy ⟨_,rfl,rfl,⟨_,l1,td ?_ k⟩⟩
 have:=Ay ⟨i,w⟩
 rw [D7 (fun _=>rfl),fP (by omega)]
theorem jv {α:Sort _} (c:α) (k:α->Prop):aM c k=k c:=rfl
theorem zp {P:Prop} (k:P:=by((try rw [Bool.eq_iff_iff]);((try simp only [decide_eq_true_eq,decide_eq_false_iff_not,beq_iff_eq,beq_eq_false_iff_ne,bne_iff_ne,bne_eq_false_iff_eq,ne_eq,Bool.not_eq_true',Bool.not_eq_false',Bool.and_eq_true,Bool.or_eq_true,Bool.true_and,Bool.false_and,Bool.and_true,Bool.and_false,Bool.true_or,Bool.false_or,reduceCtorEq,iff_false,iff_true,false_iff,true_iff,Bool.not_true,Bool.not_false]at*));try ((repeat' split)<;>omega))):P:=k
theorem gG {α:Sort _} {b c:α} {J:α->Prop} (e:b=c) (k:J c):J b:=by rw [e];exact k
theorem dY {h:Hp} {kind:Int} {R:Value->Hp->Prop} (k:R (I (ai kind)) h):fK #[I kind] h R:=by
 apply PV
 refine uf_ ?_
 simp only [jv]
 repeat' (first|(with_reducible first|refine aN (b:=true) rfl ?_|refine aC (b:=false) rfl ?_|refine ad (fun _=>?_) fun _=>?_)|(refine iM ⟨_,rfl,?_⟩)|(refine td ?_ k))
 all_goals (clear k;unfold ai;(exact zp))
theorem lk {h:Hp} {kind:Int} {R:Value->Hp->Prop} (k:R (I (ai kind)) h):iz #[I kind] h R:=by
 apply J6
 refine uf_ ?_
 refine ar (fun J=>J (decide ((1<=kind/\kind<=5)\/(30<=kind/\kind<=32)))) ?_ (fun J hJ=>?_)
 rotate_left
 ·clear k;repeat' (first|(with_reducible first|refine aN (b:=true) rfl ?_|refine aC (b:=false) rfl ?_|refine ad (fun _=>?_) fun _=>?_)|(refine gG ?_ hJ))
  all_goals (clear hJ;(exact zp))
 (with_reducible first|refine aN (b:=true) rfl ?_|refine aC (b:=false) rfl ?_|refine ad (fun _=>?_) fun _=>?_)
 ·refine td ?_ k;clear k;unfold ai;(exact zp)
 refine ar (fun J=>J (decide ((6<=kind/\kind<=29)\/kind=37))) ?_ (fun J hJ=>?_)
 rotate_left
 ·clear k;repeat' (first|(with_reducible first|refine aN (b:=true) rfl ?_|refine aC (b:=false) rfl ?_|refine ad (fun _=>?_) fun _=>?_)|(refine gG ?_ hJ))
  all_goals (clear hJ;(exact zp))
 (with_reducible first|refine aN (b:=true) rfl ?_|refine aC (b:=false) rfl ?_|refine ad (fun _=>?_) fun _=>?_)
 ·refine td ?_ k;clear k;unfold ai;(exact zp)
 simp only [jv]
 repeat' (first|(with_reducible first|refine aN (b:=true) rfl ?_|refine aC (b:=false) rfl ?_|refine ad (fun _=>?_) fun _=>?_)|(refine td ?_ k))
 all_goals (clear k;unfold ai;(exact zp))
theorem JF {h:Hp} {kind:Int} {R:Value->Hp->Prop} (k:R (.bool (cY kind)) h):dH #[I kind] h R:=by
 apply Pa
 refine uf_ ?_
 refine ahK (P:=fun b=>R (.bool b) h) (dK ?_ k)
 unfold cY
 rw [Bool.eq_iff_iff];simp
theorem O7 (s:ByteArray) (i:Nat):s[i]?=s.data.toList[i]?:=by
 rcases s with ⟨⟨l⟩⟩
 by_cases h:i<l.length
 ·rw [getElem?_pos _ i (show i<(ByteArray.mk ⟨l⟩).size from h)]
  simp only [List.getElem?_eq_getElem h]
  rfl
 ·rw [getElem?_neg _ i (show¬i<(ByteArray.mk ⟨l⟩).size from h)]
  simp only [List.getElem?_eq_none (Nat.le_of_not_lt h)]
theorem Es (s:ByteArray):s.size=s.data.toList.length:=by rcases s with ⟨⟨l⟩⟩;rfl
theorem Ie {s:ByteArray} {i:Nat} (h:i<s.size): ∃c,s[i]?=some c:=by
 rw [O7];rw [Es]at h
 exact⟨_,List.getElem?_eq_getElem h⟩
theorem ED (s:ByteArray):(ByteArray.toList s==ByteArray.toList ⟨#[]⟩)=decide (s.size=0):=by
 rcases s with ⟨⟨l⟩⟩
 rw [nw,show (⟨#[]⟩:ByteArray)=⟨List.toArray []⟩from rfl,nw,Es,Bool.eq_iff_iff]
 simp
theorem su {s:ByteArray}:gp s=true↔(1<=s.size/\s.size<=8)/\ ∀(j:Nat) (c:UInt8),s[j]?=some c->je c=true\/(j≠0/\qO c=true):=by
 unfold gp
 simp only [O7]
 have hs:=Es s
 generalize s.data.toList=l at*
 rw [Bool.and_eq_true,decide_eq_true_eq]
 refine and_congr_right fun h1=>?_
 cases l with
 |nil=>have:s.size=0:=hs;omega
 |cons c r=>
  simp only [Bool.and_eq_true,List.all_eq_true,Bool.or_eq_true]
  constructor
  ·rintro ⟨h2,h3⟩ j d hd
   cases j with
   |zero=>simp at hd;subst hd;exact .inl h2
   |succ j=>
    simp only [List.getElem?_cons_succ]at hd
    exact(h3 d (List.mem_of_getElem? hd)).imp id fun h=>⟨by omega,h⟩
  ·intro h
   refine⟨?_,fun d hd=>?_⟩
   ·rcases h 0 c rfl with h|h
    ·exact h
    ·exact absurd rfl h.1
   ·obtain⟨j,hj,rfl⟩:=List.getElem_of_mem hd
    rcases h (j+1) r[j] (by simp)with h|h
    ·exact .inl h
    ·exact .inr h.2
theorem yE {s:ByteArray} {j:Nat} {c:UInt8} (e:s[j]?=some c) (h1:je c=false) (h2:j=0\/qO c=false):gp s=false:=by
 rw [Bool.eq_false_iff]
 intro h
 rcases (su.1 h).2 j c e with h|h
 ·rw [h1]at h;cases h
 ·rcases h2 with h2|h2
  ·exact h.1 h2
  ·rw [h2]at h;cases h.2
theorem Mi {h:Hp} {c:UInt8} {R:Value->Hp->Prop} (k:R (.bool (je c)) h):tp #[.int .u8 ((UInt8.toNat c:Nat):Int)] h R:=by
 apply HP
 refine uf_ ?_
 refine agn (P:=fun b=>R (.bool b) h) (dK ?_ k)
 unfold je
 (exact zp)
theorem Fo {h:Hp} {s:ByteArray} {R:Value->Hp->Prop} (k:R (.bool (gp s)) h) (hsz:s.size<9223372036854775807):j6 #[.string s] h R:=by
 apply MD
 refine uf_ ?_
 refine au s.size (fun i vs h'=>(∀(j:Nat) (c:UInt8),j<i->s[j]?=some c->je c=true\/(j≠0/\qO c=true))/\vs= [.string s,I s.size,I i]/\h'=h) ⟨fun j c hj=>by omega,rfl,rfl⟩ ?_
 rintro i _ h' next hi ⟨hg,rfl,rfl⟩ hn
 refine⟨_,_,_,rfl,?_⟩
 by_cases hlt:i<s.size
 ·obtain⟨c,hc⟩:=Ie hlt
  refine aN (by simp [hlt]) ?_
  simp only [vm]
  have hnext:je c=true\/(i≠0/\qO c=true)->next [.string s,I s.size,I (W ((i:Int)+1))] h':=by
   intro hgood
   rw [ay (by omega)]
   refine hn hlt _ _ ⟨fun j d hj hd=>?_,rfl,rfl⟩
   by_cases hji:j=i
   ·subst hji;rw [hc]at hd;cases hd;exact hgood
   ·exact hg j d (by omega) hd
  refine⟨c,hc,Mi ⟨_,rfl,ad (fun e=>ad (fun e2=>?_) (fun e2=>⟨c,hc,ad (fun e3=>?_) (fun e3=>⟨c,hc,ad (fun e4=>?_) (fun e4=>hnext ?_)⟩)⟩)) (fun e=>hnext (.inl (by simpa using e)))⟩⟩
  ·exact dK (yE hc (by simpa using e) (.inl (by simp at e2;omega))).symm k
  ·exact dK (yE hc (by simpa using e) (.inr (by unfold qO;simp at e3⊢;omega))).symm k
  ·exact dK (yE hc (by simpa using e) (.inr (by unfold qO;simp at e4⊢;omega))).symm k
  ·refine .inr ⟨by simp at e2;omega,?_⟩
   unfold qO;simp at e3 e4⊢;omega
 ·refine aC (by simp;omega) (iM ⟨_,rfl,dK ?_ k⟩)
  have:= @su s
  rw [Bool.eq_iff_iff,this,decide_eq_true_eq]
  constructor
  ·intro hh
   refine⟨by omega,fun j c hc=>hg j c ?_ hc⟩
   ·rcases Nat.lt_or_ge j s.size with h|h
    ·omega
    ·rw [O7,List.getElem?_eq_none (by rw [<-Es];exact h)]at hc;cases hc
  ·rintro ⟨hh,_⟩;omega
theorem Fj {h:Hp} {s:ByteArray} {R:Value->Hp->Prop} (k:R (.bool (gp s)) h):rX #[.string s] h R:=by
 apply Mg
 refine uf_ ?_
 refine ar (fun J=>J (!(decide (1<=s.size/\s.size<=8)&&(match s[0]? with|some c=>je c|none=>false))) h) ?_ (fun J hJ=>?_)
 rotate_left
 ·refine eu ⟨_,rfl,ad (fun e=>?_) (fun e=>?_)⟩
  ·rw [show decide (1<=s.size/\s.size<=8)=false by rw [decide_eq_false_iff_not];simp at e;omega,Bool.false_and]at hJ
   exact hJ
  ·have e':1<=s.size/\s.size<=8:=by simp at e;omega
   obtain⟨c,hc⟩:=Ie (s:=s) (i:=0) (by omega)
   rw [decide_eq_true e',Bool.true_and,hc]at hJ
   simp only at hJ
   refine⟨by omega,c,hc,ad (fun e=>?_) (fun e=>⟨by omega,c,hc,?_⟩)⟩
   ·exact gG (J:=fun b=>J b h) (by unfold je;(exact zp)) hJ
   ·exact gG (J:=fun b=>J b h) (by unfold je;(exact zp)) hJ
 refine ad (fun e=>dK ?_ k) (fun e=>?_)
 ·symm
  rw [Bool.eq_false_iff]
  intro hn
  have hh:=su.1 hn
  obtain⟨c,hc⟩:=Ie (s:=s) (i:=0) (by omega)
  rw [decide_eq_true hh.1,hc]at e
  rcases hh.2 0 c hc with h1|h1
  ·simp [h1]at e
  ·exact absurd rfl h1.1
 have e':(1<=s.size/\s.size<=8)/\ ∀c,s[0]?=some c->je c=true:=by
  simp only [Bool.not_eq_false',Bool.and_eq_true,decide_eq_true_eq]at e
  refine⟨e.1,fun c hc=>?_⟩
  have:=e.2;rw [hc]at this;exact this
 refine au s.size (fun i vs h'=>(∀(j:Nat) (c:UInt8),j<i->s[j]?=some c->je c=true\/qO c=true)/\vs= [.string s,I i]/\h'=h) ⟨fun j c hj=>by omega,rfl,rfl⟩ ?_
 rintro i _ h' next hi ⟨hg,rfl,rfl⟩ hn
 refine⟨_,_,rfl,?_⟩
 by_cases hlt:i<s.size
 ·obtain⟨c,hc⟩:=Ie hlt
  refine aN (by simp [hlt]) ?_
  simp only [vm]
  have hnext:je c=true\/qO c=true->next [.string s,I (W ((i:Int)+1))] h':=by
   intro hgood
   rw [ay (by omega)]
   refine hn hlt _ _ ⟨fun j d hj hd=>?_,rfl,rfl⟩
   by_cases hji:j=i
   ·subst hji;rw [hc]at hd;cases hd;exact hgood
   ·exact hg j d (by omega) hd
  have hbad:je c=false->qO c=false->R (.bool false) h':=fun h1 h2=>dK (yE hc h1 (.inr h2)).symm k
  have two: ∀(hl:je c=false),(ac (decide (((UInt8.toNat c:Nat):Int)>=48)) (∃c32:UInt8,s[i]?=some c32/\(ac (!(decide (((UInt8.toNat c32:Nat):Int)<=57))) (R (.bool false) h') (next [(.string s),(I (W ((i:Int)+1)))] h'))) (R (.bool false) h')):=by
   intro hl
   refine ad (fun e=>⟨c,hc,ad (fun e2=>hbad hl ?_) (fun e2=>hnext (.inr ?_))⟩) (fun e=>hbad hl ?_)
   ·unfold qO;simp at e2⊢;omega
   ·unfold qO;simp at e e2⊢;omega
   ·unfold qO;simp at e⊢;omega
  refine⟨c,hc,ad (fun e=>⟨c,hc,ad (fun e2=>hnext (.inl ?_)) (fun e2=>⟨c,hc,two ?_⟩)⟩) (fun e=>⟨c,hc,two ?_⟩)⟩
  ·unfold je;simp at e e2⊢;omega
  ·unfold je;simp at e2⊢;omega
  ·unfold je;simp at e⊢;omega
 ·refine aC (by simp;omega) (dK ?_ k)
  symm
  refine su.2 ⟨e'.1,fun j c hc=>?_⟩
  have hj:j<s.size:=by
   rcases Nat.lt_or_ge j s.size with h|h
   ·omega
   ·rw [O7,List.getElem?_eq_none (by rw [<-Es];exact h)]at hc;cases hc
  rcases hg j c (by omega) hc with h1|h1
  ·exact .inl h1
  ·by_cases h0:j=0
   ·subst h0;exact .inl (e'.2 c hc)
   ·exact .inr ⟨h0,h1⟩
theorem rd :(∀(v:Value) r,(v::r)[0]?=some v)/\(∀(v:Value) r (i:Nat),(v::r)[i+1]?=r[i]?)/\
  (∀(cs:List Value) (n:Nat) (ro:Bool) (p:List Value->Nat->Prop),
   (∃(cs':List Value) (n':Nat),some (Sum.inl (Row.mk cs n ro):Blk)=some (Sum.inl (Row.mk cs' n' ro))/\p cs' n')=p cs n)/\
  (∀cs o,ce cs o []=cs)/\(∀cs o v r,ce cs o (v::r)=ce (cs.set o v) (o+1) r)/\
  (∀(v w:Value) r,(v::r).set 0 w=w::r)/\(∀(v w:Value) r (i:Nat),(v::r).set (i+1) w=v::r.set i w)/\
  (∀(v:Value) r,(v::r).length=r.length+1)/\([]:List Value).length=0:=
 ⟨fun _ _=>rfl,fun _ _ _=>rfl,aby,LK,q8,fun _ _ _=>rfl,fun _ _ _ _=>rfl,fun _ _=>rfl,rfl⟩
theorem acz {h:Hp} {b z o:Nat} {cs:List Value} {ro:Bool} {x:Int} {P:Int->Prop} (f:h b=some (.inl ⟨cs,z,ro⟩)) (e:cs[o]?=some (I x)) (k:P x): ∃y:Int,Hp.cell h b o=some (I y)/\P y:=
 ⟨x,by rw [ax f];exact e,k⟩
theorem aaP {h:Hp} {b z o:Nat} {cs:List Value} {ro:Bool} {x:ByteArray} {P:ByteArray->Prop} (f:h b=some (.inl ⟨cs,z,ro⟩)) (e:cs[o]?=some (.string x)) (k:P x): ∃y:ByteArray,Hp.cell h b o=some (.string y)/\P y:=
 ⟨x,by rw [ax f];exact e,k⟩
theorem dJ {h:Hp} {w:Int} {R:Value->Hp->Prop} (k:R (vM (cT w)) h):dI #[I w] h R:=by
 refine ACalls.drop (Pc ?_)
 refine uf_ ?_
 intro b hb
 have l1:=gk [I 0,I w] 2 hb
 simp only [vm,mm]
 exact⟨by decide,_,l1,k⟩
theorem cl {h:Hp} {w:Int} {R:Value->Hp->Prop} (k:R (vM (cT w)) h):ap #[I w] h R:=by
 refine ACalls.drop (MC ?_)
 refine uf_ ?_
 intro b hb
 have l1:=gk [I 0,I w] 2 hb
 simp only [vm,mm]
 exact⟨by decide,_,l1,k⟩
def aA (n:NodeP):Nat->Int
 |0=>n.a
 |1=>n.b
 |2=>n.c
 |_=>0
theorem rH (len:Nat) (n:NodeP):fL len n=
  (decide (0<=ai n.kind)&&(nF (ai n.kind) len 0 (aA n 0)&&nF (ai n.kind) len 1 (aA n 1)&&nF (ai n.kind) len 2 (aA n 2))&&
   (if cY n.kind then gp n.name else decide (n.name.size=0))&&(decide (n.kind=30)||decide (n.m=0))&&
   (decide (n.kind=30\/n.kind=31\/n.kind=32\/n.kind=34)||decide (n.n=0))):=rfl
theorem OB {len:Nat} {n:NodeP} {i:Nat} (hi:i<3) (e:nF (ai n.kind) len i (aA n i)=false):fL len n=false:=by
 rw [rH]
 obtain rfl|rfl|rfl:i=0\/i=1\/i=2:=by omega
 ·rw [show ((0:Nat):Int)=0 from rfl]at e;rw [e];simp
 ·rw [show ((1:Nat):Int)=1 from rfl]at e;rw [e];simp
 ·rw [show ((2:Nat):Int)=2 from rfl]at e;rw [e];simp
theorem GG {len:Nat} {n:NodeP} (hp:0<=ai n.kind) (e: ∀i:Nat,i<3->nF (ai n.kind) len i (aA n i)=true):fL len n=
  ((if cY n.kind then gp n.name else decide (n.name.size=0))&&(decide (n.kind=30)||decide (n.m=0))&&
    (decide (n.kind=30\/n.kind=31\/n.kind=32\/n.kind=34)||decide (n.n=0))):=by
 rw [rH,decide_eq_true hp]
 have e0:=e 0 (by omega)
 have e1:=e 1 (by omega)
 have e2:=e 2 (by omega)
 rw [show ((0:Nat):Int)=0 from rfl]at e0
 rw [show ((1:Nat):Int)=1 from rfl]at e1
 rw [show ((2:Nat):Int)=2 from rfl]at e2
 rw [e0,e1,e2];simp
theorem nh {h:Hp} {b z:Nat} {n:NodeP} (f:h b=some (.inl ⟨[I n.a,I n.b,I n.c],z,false⟩)) {i:Nat} (hi:i<3):Hp.cell h b i=some (I (aA n i)):=by
 rw [ax f]
 obtain rfl|rfl|rfl:i=0\/i=1\/i=2:=by omega
 all_goals rfl
theorem Rs {h:Hp} {n:NodeP} {len:Nat} {R:Value->Hp->Prop} (hlen:len<=4611686018427387904) (hsz:n.name.size<=1048576)
  (k:R (.bool (fL len n)) h):pH #[wu n,I len] h R:=by
 refine ACalls.drop (CY ?_)
 refine uf_ ?_
 refine aj fun b h1 hb l1 f1=>?_
 simp only [vm,rd,ax f1]
 refine dY ⟨_,rfl,ad (fun e=>⟨_,l1,dK ?_ k⟩) (fun e=>?_)⟩
 ·rw [rH,decide_eq_false (by simp at e;omega)];simp
 have hp:0<=ai n.kind:=by simp at e;omega
 simp only [vm,rd,ax f1]
 refine aj fun b2 h2 hb2 l2 f2=>?_
 have f1':=l2 _ _ f1
 have l12:=Hp.le_trans l1 l2
 refine au 3 (fun i vs h'=>(∀j:Nat,j<i->nF (ai n.kind) len j (aA n j)=true)/\vs= [I len, .pointer (some ⟨b,0,none⟩),I (ai n.kind), .slice (some ⟨b2,0,none⟩) 3 3,I 3,I i]/\h'=h2) ⟨fun j hj=>by omega,rfl,rfl⟩ ?_
 rintro i _ h' next hi ⟨hg,rfl,rfl⟩ hn
 refine⟨_,_,_,_,⟨_,_,_⟩,_,_,rfl,?_⟩
 by_cases hlt:i<3
 ·refine aN (by simp;omega) ?_
  simp only [vm,nh f2 hlt]
  refine⟨by omega,?_⟩
  refine ar (fun J=>J (!(nF (ai n.kind) len i (aA n i))) h') ?_ (fun J hJ=>?_)
  ·refine ad (fun e=>⟨_,l12,dK ?_ k⟩) (fun e=>?_)
   ·rw [OB hlt (by simpa using e)]
   ·rw [ay (by omega)]
    refine hn hlt _ _ ⟨fun j hj=>?_,rfl,rfl⟩
    by_cases hji:j=i
    ·subst hji;simpa using e
    ·exact hg j (by omega)
  ·clear k
   unfold nF at hJ
   rw [bX (by omega) (by omega)]
   refine ad (fun e=>iM ⟨_,rfl,?_⟩) (fun e=>?_)
   ·rw [if_pos (by simpa using e)]at hJ
    refine ad (fun e2=>?_) (fun e2=>ad (fun e3=>?_) (fun e3=>?_))
    ·exact gG (J:=fun b=>J b h') (by simpa using e2) hJ
    ·simp at e e3;omega
    ·exact gG (J:=fun b=>J b h') (by simpa using e2) hJ
   ·rw [if_neg (by simpa using e)]at hJ
    refine ad (fun e2=>?_) (fun e2=>?_)
    ·exact gG (J:=fun b=>J b h') (by rw [Bool.eq_iff_iff];simp) hJ
    ·simp at e e2;omega
 ·refine aC (by simp;omega) ?_
  rw [GG hp (fun j hj=>hg j (by omega))]at k
  simp only [vm,rd,ax f1',ED]
  refine ar (fun J=>J (decide (n.kind=30\/n.kind=31\/n.kind=32\/n.kind=34))) ?_ (fun J hJ=>?_)
  rotate_left
  ·clear k;repeat' (first|(with_reducible first|refine aN (b:=true) rfl ?_|refine aC (b:=false) rfl ?_|refine ad (fun _=>?_) fun _=>?_)|(refine gG ?_ hJ))
   all_goals (clear hJ;(exact zp))
  have hnm: ∀{R':Value->Hp->Prop},R' (.bool (cY n.kind)) h'->dH #[I n.kind] h' R':=JF
  have hin: ∀{R':Value->Hp->Prop},R' (.bool (gp n.name)) h'->j6 #[.string n.name] h' R':=fun k=>Fo k (by omega)
  generalize cY n.kind=g at*
  generalize gp n.name=q at*
  repeat' (first|(with_reducible first|refine aN (b:=true) rfl ?_|refine aC (b:=false) rfl ?_|refine ad (fun _=>?_) fun _=>?_)|(with_reducible refine hnm ⟨_,rfl,?_⟩)|(with_reducible refine hin ⟨_,rfl,?_⟩)|(with_reducible refine acz f1' rfl ?_)|(with_reducible refine aaP f1' rfl ?_)|(refine⟨_,l12,dK ?_ k⟩;clear k hnm hin hn hg f1 f2 f1' l1 l2 l12 hb hb2;first|(simp_all;done)|(cases g<;>cases q<;>simp_all<;>done)))
theorem MJ {h:Hp} {n:NodeP} {s:Sl} {R:Value->Hp->Prop} (hlen:s.n<=4611686018427387904)
  (k:R (.bool (fL s.n n)) h):te #[s.v,wu n] h R:=by
 refine ACalls.drop (HQ ?_)
 refine uf_ ?_
 refine aj fun b h1 hb l1 f1=>?_
 simp only [vm,rd,ax f1]
 refine lk ⟨_,rfl,ad (fun e=>⟨_,l1,dK ?_ k⟩) (fun e=>?_)⟩
 ·rw [rH,decide_eq_false (by simp at e;omega)];simp
 have hp:0<=ai n.kind:=by simp at e;omega
 simp only [vm,rd,ax f1]
 refine aj fun b2 h2 hb2 l2 f2=>?_
 have f1':=l2 _ _ f1
 have l12:=Hp.le_trans l1 l2
 refine au 3 (fun i vs h'=>(∀j:Nat,j<i->nF (ai n.kind) s.n j (aA n j)=true)/\vs= [s.v, .pointer (some ⟨b,0,none⟩),I (ai n.kind), .slice (some ⟨b2,0,none⟩) 3 3,I i]/\h'=h2) ⟨fun j hj=>by omega,rfl,rfl⟩ ?_
 rintro i _ h' next hi ⟨hg,rfl,rfl⟩ hn
 refine⟨_,_,_,_,⟨_,_,_⟩,_,rfl,?_⟩
 by_cases hlt:i<3
 ·refine aN (by simp;omega) ?_
  simp only [vm,nh f2 hlt]
  refine ar (fun J=>J (!(nF (ai n.kind) s.n i (aA n i))) h') ?_ (fun J hJ=>?_)
  ·refine ad (fun e=>⟨_,l12,dK ?_ k⟩) (fun e=>?_)
   ·rw [OB hlt (by simpa using e)]
   ·rw [ay (by omega)]
    refine hn hlt _ _ ⟨fun j hj=>?_,rfl,rfl⟩
    by_cases hji:j=i
    ·subst hji;simpa using e
    ·exact hg j (by omega)
  ·clear k
   unfold nF at hJ
   rw [bX (by omega) (by omega)]
   refine ad (fun e=>⟨by omega,eu ⟨_,rfl,?_⟩⟩) (fun e=>?_)
   ·rw [if_pos (by simpa using e)]at hJ
    refine ad (fun e2=>?_) (fun e2=>ad (fun e3=>?_) (fun e3=>?_))
    ·exact gG (J:=fun b=>J b h') (by simpa using e2) hJ
    ·simp at e e3;omega
    ·exact gG (J:=fun b=>J b h') (by simpa using e2) hJ
   ·rw [if_neg (by simpa using e)]at hJ
    refine ad (fun e2=>?_) (fun e2=>?_)
    ·refine⟨by omega,?_⟩
     exact gG (J:=fun b=>J b h') (by rw [Bool.eq_iff_iff];simp) hJ
    ·simp at e e2;omega
 ·refine aC (by simp;omega) ?_
  rw [GG hp (fun j hj=>hg j (by omega))]at k
  simp only [vm,rd,ax f1',ED]
  refine ar (fun J=>J (cY n.kind)) ?_ (fun J hJ=>?_)
  rotate_left
  ·clear k;unfold cY at hJ;repeat' (first|(with_reducible first|refine aN (b:=true) rfl ?_|refine aC (b:=false) rfl ?_|refine ad (fun _=>?_) fun _=>?_)|(refine gG ?_ hJ))
   all_goals (clear hJ;(exact zp))
  have hin: ∀{R':Value->Hp->Prop},R' (.bool (gp n.name)) h'->rX #[.string n.name] h' R':=Fj
  have hno:gp n.name=true-> ¬n.name.size=0:=fun e=>by have:=(su.1 e).1;omega
  generalize cY n.kind=g at*
  generalize gp n.name=q at*
  simp only [jv]
  repeat' (first|(with_reducible first|refine aN (b:=true) rfl ?_|refine aC (b:=false) rfl ?_|refine ad (fun _=>?_) fun _=>?_)|(with_reducible refine hin ⟨_,rfl,?_⟩)|(with_reducible refine acz f1' rfl ?_)|(with_reducible refine aaP f1' rfl ?_)|(refine⟨_,l12,dK ?_ k⟩;clear k hin hn hg f1 f2 f1' l1 l2 l12 hb hb2;first|(simp_all;done)|(cases g<;>cases q<;>simp_all<;>done)|(rw [Bool.eq_iff_iff];cases g<;>cases q<;>simp_all<;>done)))
theorem cB {h h0:Hp} {b z o m:Nat} {cs vs:List Value} {P:Hp->Prop} (f:h b=some (.inl ⟨cs,z,false⟩)) (l:h0.le h) (hb:h0 b=none) (hl:m<=cs.length)
  (k: ∀h',h' b=some (.inl ⟨ce cs o vs,z,false⟩)->(∀c,c≠b->h' c=h c)->h0.le h'->P h'):
  ∃(cs':List Value) (z':Nat),h b=some (.inl ⟨cs',z',false⟩)/\m<=List.length cs'/\cL (h.row b (ce cs' o vs) z') fun h'=>P h':=
 ⟨cs,z,f,hl,k _ (bT _ _ _ _) (fun c e=>ck _ _ e) (ew _ _ hb l)⟩
theorem ahG {h h':Hp} {b c:Nat} {P:Prop} (kp: ∀c,c≠b->h' c=h c) (e:c≠b) (k:P):h' c=h c/\P:=⟨kp c e,k⟩
theorem agA {α:Type} {c:α->Value} {h:Hp} {b z o:Nat} {cs:List Value} {ro:Bool} {x:α} {P:α->Prop} (f:h b=some (.inl ⟨cs,z,ro⟩)) (q:cs[o]?=some (c x)) (k:P x): ∃y:α,Hp.cell h b o=some (c y)/\P y:=⟨x,by rw [ax f];exact q,k⟩
theorem aD {P Q:Prop} (k:Q) (h:Q->P:=by(first
 |((with_reducible apply agA);(assumption);(exact rfl))
 |with_reducible exact And.intro (Eq.refl _)
 |with_reducible exact And.intro True.intro
 |((with_reducible apply ahG);(assumption);(assumption))
 |fail)):P:=h k
def Res (o:Option SortP) (t:SortP) (c:Bool):Prop:=o=if c then some t else none
theorem jU (a b:SortP):(a=b)=(a.idx=b.idx/\a.wid=b.wid):=by
 rcases a with ⟨i,w⟩;rcases b with ⟨j,v⟩;simp
theorem qD {P:Prop} [Decidable P] {t t':SortP} {q:Bool} (h1:q=decide P) (h2:P->t=t'):Res (if P then some t else none) t' q:=by
 unfold Res;subst h1
 by_cases h:P
 ·simp [h,h2 h]
 ·simp [h]
theorem jr {a b:Int} (e:(a !=b)=true): ¬a=b:=by simpa using e
theorem gR {a b:Int} (e:(a !=b)=false):a=b:=by simpa using e
theorem IX (n:NodeP) (a b c:SortP):dh n a b c=
 (if n.kind=33 then(if(a.idx=0/\a.wid=1)/\b.idx=c.idx/\b.wid=c.wid then some b else none)else
 if n.kind=37 then(if 0<a.idx/\b.idx=0/\b.wid=a.idx then some ⟨0,a.wid⟩else none)else
 if n.kind=38 then(if 0<a.idx/\(b.idx=0/\b.wid=a.idx)/\c.idx=0/\c.wid=a.wid then some a else none)else
 if n.kind=21 then(if a.idx=b.idx/\a.wid=b.wid then some ⟨0,1⟩else none)else
 if 0<a.idx\/(ai n.kind=2/\0<b.idx)then none else
 if n.kind=29 then(if a.wid+b.wid<=16 then some ⟨0,a.wid+b.wid⟩else none)else
 if n.kind=30 then(if(0<=n.n/\n.n<=a.wid-1)/\0<=n.m/\n.m<=n.n then some ⟨0,n.n-n.m+1⟩else none)else
 if n.kind=31\/n.kind=32 then(if 0<=n.n/\n.n<=16-a.wid then some ⟨0,a.wid+n.n⟩else none)else
 if n.kind<=5 then some ⟨0,if n.kind<=2 then a.wid else 1⟩else
 if a.idx=b.idx/\a.wid=b.wid then some ⟨0,if n.kind<=20 then a.wid else 1⟩else none):=by
 unfold dh cT
 simp only [jU]
def nz (n:NodeP) (a b c:SortP):Option SortP:=
 if n.kind=35\/n.kind=36 then(if bV n.sort then some n.sort else none)else
 if n.kind=34 then(if decide (n.sort.idx=0)&&jT n.sort.wid n.n then some n.sort else none)else dh n a b c
theorem RN {h:Hp} {n:NodeP} {a b c:SortP} {R:Value->Hp->Prop} (ha:0<ai n.kind->bV a=true) (hb:bV b=true\/b=⟨0,0⟩) (hc:bV c=true\/c=⟨0,0⟩) (hp:0<=ai n.kind)
  (hb2:ai n.kind<2->b=⟨0,0⟩)
  (k: ∀t q,Res (nz n a b c) t q->R (.tuple #[vM t, .bool q]) h):pu #[wu n,vM a,vM b,vM c] h R:=by
 refine ACalls.drop (Dw ?_)
 refine uf_ ?_
 refine aj fun b17 h1 hb17 l1 f17=>?_
 refine aj fun b19 h2 hb19 l2 f19=>?_
 refine aj fun b21 h3 hb21 l3 f21=>?_
 refine aj fun b23 h4 hb23 l4 f23=>?_
 refine aj fun b25 h5 hb25 l5 f25=>?_
 replace f17:=l4 _ _ (l3 _ _ (l2 _ _ f17))
 replace f19:=l4 _ _ (l3 _ _ f19)
 replace f21:=l4 _ _ f21
 have n17:=fresh_ne hb25 f17
 have n19:=fresh_ne hb25 f19
 have n21:=fresh_ne hb25 f21
 have n23:=fresh_ne hb25 f23
 replace f17:=l5 _ _ f17
 replace f19:=l5 _ _ f19
 replace f21:=l5 _ _ f21
 replace f23:=l5 _ _ f23
 have l:h.le h5:=Hp.le_trans l1 (Hp.le_trans l2 (Hp.le_trans l3 (Hp.le_trans l4 l5)))
 have b0:h b25=none:=aF (Hp.le_trans l1 (Hp.le_trans l2 (Hp.le_trans l3 l4))) hb25
 clear hb17 hb19 hb21 hb23 hb25 l1 l2 l3 l4 l5
 have lf: ∀{h'':Hp} {t:SortP} {q:Bool},h.le h''->Res (nz n a b c) t q-> ∃h':Hp,h'.le h''/\R (.tuple #[.agg #[I t.idx,I t.wid], .bool q]) h':=fun l e=>⟨_,l,k _ _ e⟩
 clear k
 (refine aD ?_)
 refine ar (fun J=>J (decide (n.kind=35\/n.kind=36))) ?_ (fun J hJ=>?_)
 rotate_left
 ·repeat' (first|(with_reducible first|refine aN (b:=true) rfl ?_|refine aC (b:=false) rfl ?_|refine ad (fun _=>?_) fun _=>?_)|(refine gG ?_ hJ))
  all_goals (clear hJ;(exact zp))
 refine ad (fun e=>?_) (fun e=>?_)
 ·repeat' (refine aD ?_)
  refine rv ⟨_,rfl,?_⟩
  (refine aD ?_)
  refine cB f25 l b0 (by decide) fun h6 f6 kp6 l6=>?_
  repeat' (refine aD ?_)
  refine lf (t:=n.sort) l6 ?_
  unfold Res nz
  rw [if_pos (of_decide_eq_true e)]
 have e35:=of_decide_eq_false e
 refine ad (fun e=>?_) (fun e=>?_)
 ·have e34:=bW e
  simp only [jv]
  repeat' (refine aD ?_)
  refine ad (fun e=>?_) (fun e=>?_)
  ·repeat' (refine aD ?_)
   refine E9 ⟨_,rfl,?_⟩
   (refine aD ?_)
   refine cB f25 l b0 (by decide) fun h6 f6 kp6 l6=>?_
   repeat' (refine aD ?_)
   refine lf (t:=n.sort) l6 ?_
   unfold Res nz
   rw [if_neg e35,if_pos e34,decide_eq_true (bW e),Bool.true_and]
  ·(refine aD ?_)
   refine cB f25 l b0 (by decide) fun h6 f6 kp6 l6=>?_
   repeat' (refine aD ?_)
   refine lf (t:=n.sort) l6 ?_
   unfold Res nz
   rw [if_neg e35,if_pos e34,decide_eq_false (bz e),Bool.false_and]
 have e34:=bz e
 have er:nz n a b c=dh n a b c:=by unfold nz;rw [if_neg e35,if_neg e34]
 have hp1:0<ai n.kind:=by
  have:ai n.kind≠0:=by
   unfold ai;repeat' split
   all_goals first|omega|decide
  omega
 replace ha:=bD.1 (ha hp1)
 have wa1:W (a.wid-1)=a.wid-1:=bX (by omega) (by omega)
 have wa16:W (16-a.wid)=16-a.wid:=bX (by omega) (by omega)
 have wab:W (a.wid+b.wid)=a.wid+b.wid:=by
  have: -100<=b.wid/\b.wid<=16:=by
   rcases hb with h|h
   ·have:=bD.1 h;omega
   ·rw [h];decide
  exact bX (by omega) (by omega)
 rw [er]at lf
 clear er
 rw [IX]at lf
 (with_reducible first|refine aN (b:=true) rfl ?_|refine aC (b:=false) rfl ?_|refine ad (fun _=>?_) fun _=>?_)
 ·rw [if_pos (bW (by assumption))]at lf
  simp only [jv]
  ((repeat' (first|(with_reducible first|refine aN (b:=true) rfl ?_|refine aC (b:=false) rfl ?_|refine ad (fun _=>?_) fun _=>?_)|(refine aD ?_)|(with_reducible refine dJ ⟨_,_,rfl,?_⟩)|(with_reducible refine iM ⟨_,rfl,?_⟩)|((with_reducible apply cB);(assumption);(exact l);(exact b0);(decide);(intro _ _ _ _))|(refine lf (t:=⟨_,_⟩) (by assumption) ?_;clear lf l b0;((unfold Res;(try simp only [cT,jU,Bool.and_true,Bool.and_eq_false_iff,Bool.or_eq_false_iff]at*);((try simp only [decide_eq_true_eq,decide_eq_false_iff_not,beq_iff_eq,beq_eq_false_iff_ne,bne_iff_ne,bne_eq_false_iff_eq,ne_eq,Bool.not_eq_true',Bool.not_eq_false',Bool.and_eq_true,Bool.or_eq_true,Bool.true_and,Bool.false_and,Bool.and_true,Bool.and_false,Bool.true_or,Bool.false_or,reduceCtorEq,iff_false,iff_true,false_iff,true_iff,Bool.not_true,Bool.not_false]at*));(repeat' split)<;>(first|rfl|contradiction|omega|(simp only [Option.some.injEq,SortP.mk.injEq,jU,Bool.true_eq_false];omega)|skip)))))))
 rw [if_neg (bz (by assumption))]at lf
 (with_reducible first|refine aN (b:=true) rfl ?_|refine aC (b:=false) rfl ?_|refine ad (fun _=>?_) fun _=>?_)
 ·((repeat' (first|(with_reducible first|refine aN (b:=true) rfl ?_|refine aC (b:=false) rfl ?_|refine ad (fun _=>?_) fun _=>?_)|(refine aD ?_)|(with_reducible refine dJ ⟨_,_,rfl,?_⟩)|(with_reducible refine iM ⟨_,rfl,?_⟩)|((with_reducible apply cB);(assumption);(exact l);(exact b0);(decide);(intro _ _ _ _))|(refine lf (t:=⟨_,_⟩) (by assumption) ?_;clear lf l b0;((unfold Res;(try simp only [cT,jU,Bool.and_true,Bool.and_eq_false_iff,Bool.or_eq_false_iff]at*);((try simp only [decide_eq_true_eq,decide_eq_false_iff_not,beq_iff_eq,beq_eq_false_iff_ne,bne_iff_ne,bne_eq_false_iff_eq,ne_eq,Bool.not_eq_true',Bool.not_eq_false',Bool.and_eq_true,Bool.or_eq_true,Bool.true_and,Bool.false_and,Bool.and_true,Bool.and_false,Bool.true_or,Bool.false_or,reduceCtorEq,iff_false,iff_true,false_iff,true_iff,Bool.not_true,Bool.not_false]at*));(repeat' split)<;>(first|rfl|contradiction|omega|(simp only [Option.some.injEq,SortP.mk.injEq,jU,Bool.true_eq_false];omega)|skip)))))))
 have e21:=bz (by assumption)
 (with_reducible first|refine aN (b:=true) rfl ?_|refine aC (b:=false) rfl ?_|refine ad (fun _=>?_) fun _=>?_)
 ·rw [if_pos (bW (by assumption))]at lf
  simp only [jv]
  ((repeat' (first|(with_reducible first|refine aN (b:=true) rfl ?_|refine aC (b:=false) rfl ?_|refine ad (fun _=>?_) fun _=>?_)|(refine aD ?_)|(with_reducible refine dJ ⟨_,_,rfl,?_⟩)|(with_reducible refine iM ⟨_,rfl,?_⟩)|((with_reducible apply cB);(assumption);(exact l);(exact b0);(decide);(intro _ _ _ _))|(refine lf (t:=⟨_,_⟩) (by assumption) ?_;clear lf l b0;((unfold Res;(try simp only [cT,jU,Bool.and_true,Bool.and_eq_false_iff,Bool.or_eq_false_iff]at*);((try simp only [decide_eq_true_eq,decide_eq_false_iff_not,beq_iff_eq,beq_eq_false_iff_ne,bne_iff_ne,bne_eq_false_iff_eq,ne_eq,Bool.not_eq_true',Bool.not_eq_false',Bool.and_eq_true,Bool.or_eq_true,Bool.true_and,Bool.false_and,Bool.and_true,Bool.and_false,Bool.true_or,Bool.false_or,reduceCtorEq,iff_false,iff_true,false_iff,true_iff,Bool.not_true,Bool.not_false]at*));(repeat' split)<;>(first|rfl|contradiction|omega|(simp only [Option.some.injEq,SortP.mk.injEq,jU,Bool.true_eq_false];omega)|skip)))))))
 rw [if_neg (bz (by assumption))]at lf
 (with_reducible first|refine aN (b:=true) rfl ?_|refine aC (b:=false) rfl ?_|refine ad (fun _=>?_) fun _=>?_)
 ·rw [if_pos (bW (by assumption))]at lf
  simp only [jv]
  ((repeat' (first|(with_reducible first|refine aN (b:=true) rfl ?_|refine aC (b:=false) rfl ?_|refine ad (fun _=>?_) fun _=>?_)|(refine aD ?_)|(with_reducible refine dJ ⟨_,_,rfl,?_⟩)|(with_reducible refine iM ⟨_,rfl,?_⟩)|((with_reducible apply cB);(assumption);(exact l);(exact b0);(decide);(intro _ _ _ _))|(refine lf (t:=⟨_,_⟩) (by assumption) ?_;clear lf l b0;((unfold Res;(try simp only [cT,jU,Bool.and_true,Bool.and_eq_false_iff,Bool.or_eq_false_iff]at*);((try simp only [decide_eq_true_eq,decide_eq_false_iff_not,beq_iff_eq,beq_eq_false_iff_ne,bne_iff_ne,bne_eq_false_iff_eq,ne_eq,Bool.not_eq_true',Bool.not_eq_false',Bool.and_eq_true,Bool.or_eq_true,Bool.true_and,Bool.false_and,Bool.and_true,Bool.and_false,Bool.true_or,Bool.false_or,reduceCtorEq,iff_false,iff_true,false_iff,true_iff,Bool.not_true,Bool.not_false]at*));(repeat' split)<;>(first|rfl|contradiction|omega|(simp only [Option.some.injEq,SortP.mk.injEq,jU,Bool.true_eq_false];omega)|skip)))))))
 rw [if_neg (bz (by assumption)),if_neg e21]at lf
 have n33: ¬n.kind=33:=bz (by assumption)
 have n37: ¬n.kind=37:=bz (by assumption)
 have n38: ¬n.kind=38:=bz (by assumption)
 have hbi:0<=b.idx/\b.wid<=16/\0<=b.wid:=by
  rcases hb with h|h
  ·have:=bD.1 h;omega
  ·rw [h];decide
 have p12:ai n.kind=1\/ai n.kind=2:=by
  rcases qH n.kind with h|h|h|h|h
  ·omega
  ·exact .inl h
  ·exact .inr h
  ·exfalso;revert h;unfold ai;(repeat' split)<;>first|omega|(intro h;omega)
  ·omega
 have hb1:ai n.kind=1->b.idx=0:=fun h=>by rw [hb2 (by omega)]
 clear hb hc hb2
 refine ar (fun J=>J (decide (0<a.idx\/(ai n.kind=2/\0<b.idx)))) ?_ (fun J hJ=>?_)
 rotate_left
 ·(refine aD ?_)
  (with_reducible first|refine aN (b:=true) rfl ?_|refine aC (b:=false) rfl ?_|refine ad (fun _=>?_) fun _=>?_)
  ·refine gG ?_ hJ;clear hJ;have:=jr (by assumption);rw [eq_comm,decide_eq_true_eq];omega
  (refine aD ?_)
  refine gG ?_ hJ;clear hJ
  have:a.idx=0:=gR (by assumption)
  rw [Bool.eq_iff_iff,bne_iff_ne,decide_eq_true_eq];omega
 refine ad (fun e=>?_) (fun e=>?_)
 ·rw [if_pos (of_decide_eq_true e)]at lf
  ((repeat' (first|(with_reducible first|refine aN (b:=true) rfl ?_|refine aC (b:=false) rfl ?_|refine ad (fun _=>?_) fun _=>?_)|(refine aD ?_)|(with_reducible refine dJ ⟨_,_,rfl,?_⟩)|(with_reducible refine iM ⟨_,rfl,?_⟩)|((with_reducible apply cB);(assumption);(exact l);(exact b0);(decide);(intro _ _ _ _))|(refine lf (t:=⟨_,_⟩) (by assumption) ?_;clear lf l b0;((unfold Res;(try simp only [cT,jU,Bool.and_true,Bool.and_eq_false_iff,Bool.or_eq_false_iff]at*);((try simp only [decide_eq_true_eq,decide_eq_false_iff_not,beq_iff_eq,beq_eq_false_iff_ne,bne_iff_ne,bne_eq_false_iff_eq,ne_eq,Bool.not_eq_true',Bool.not_eq_false',Bool.and_eq_true,Bool.or_eq_true,Bool.true_and,Bool.false_and,Bool.and_true,Bool.and_false,Bool.true_or,Bool.false_or,reduceCtorEq,iff_false,iff_true,false_iff,true_iff,Bool.not_true,Bool.not_false]at*));(repeat' split)<;>(first|rfl|contradiction|omega|(simp only [Option.some.injEq,SortP.mk.injEq,jU,Bool.true_eq_false];omega)|skip)))))))
 rw [if_neg (of_decide_eq_false e)]at lf
 replace e:=of_decide_eq_false e
 refine ar (fun J=>J (decide (n.kind=1\/n.kind=2))) ?_ (fun J hJ=>?_)
 rotate_left
 ·repeat' (first|(with_reducible first|refine aN (b:=true) rfl ?_|refine aC (b:=false) rfl ?_|refine ad (fun _=>?_) fun _=>?_)|(refine aD ?_)|(refine gG ?_ hJ))
  all_goals (clear hJ;(exact zp))
 refine ad (fun e1=>?_) (fun e1=>?_)
 ·replace e1:=of_decide_eq_true e1
  rw [if_neg (by omega),if_neg (by omega),if_neg (by omega),if_pos (by omega),if_pos (by omega)]at lf
  repeat' (refine aD ?_)
  (with_reducible apply cB);(assumption);(exact l);(exact b0);(decide);intro _ _ _ _
  repeat' (refine aD ?_)
  refine lf (t:=⟨_,_⟩) (by assumption) ?_
  rw [show a.idx=0 by omega];rfl
 replace e1:=of_decide_eq_false e1
 (refine aD ?_)
 refine iM ⟨_,rfl,ad (fun e2=>?_) (fun e2=>?_)⟩
 ·replace e2:=of_decide_eq_true e2
  rw [if_neg (by omega),if_neg (by omega),if_neg (by omega),if_pos (by omega),if_neg (by omega)]at lf
  refine dJ ⟨_,_,rfl,?_⟩
  (with_reducible apply cB);(assumption);(exact l);(exact b0);(decide);intro _ _ _ _
  repeat' (refine aD ?_)
  exact lf (t:=⟨_,_⟩) (by assumption) rfl
 replace e2:=of_decide_eq_false e2
 (refine aD ?_)
 refine ad (fun e3=>?_) (fun e3=>?_)
 ·replace e3:=bW e3
  rw [if_neg (by omega),if_pos e3]at lf
  simp only [jv]
  repeat' (refine aD ?_)
  refine dJ ⟨_,_,rfl,?_⟩
  repeat' (refine aD ?_)
  refine iM ⟨_,rfl,?_⟩
  rw [wa1]
  refine ad (fun e4=>?_) (fun e4=>?_)
  ·repeat' (refine aD ?_)
   refine iM ⟨_,rfl,?_⟩
   (with_reducible apply cB);(assumption);(exact l);(exact b0);(decide);intro _ _ _ _
   repeat' (refine aD ?_)
   refine lf (t:=⟨_,_⟩) (by assumption) (qD ?_ ?_)
   ·rw [decide_eq_decide];exact⟨fun h=>⟨of_decide_eq_true e4,h⟩,fun h=>h.2⟩
   ·intro h
    rw [bX (n:=n.n-n.m) (by omega) (by omega),bX (by omega) (by omega)]
  ·(with_reducible apply cB);(assumption);(exact l);(exact b0);(decide);intro _ _ _ _
   repeat' (refine aD ?_)
   refine lf (t:=⟨_,_⟩) (by assumption) (qD ?_ ?_)
   ·symm;rw [decide_eq_false_iff_not];exact fun h=>of_decide_eq_false e4 h.1
   ·exact fun h=>absurd h.1 (of_decide_eq_false e4)
 replace e3:=bz e3
 refine ar (fun J=>J (decide (n.kind=31\/n.kind=32))) ?_ (fun J hJ=>?_)
 rotate_left
 ·repeat' (first|(with_reducible first|refine aN (b:=true) rfl ?_|refine aC (b:=false) rfl ?_|refine ad (fun _=>?_) fun _=>?_)|(refine aD ?_)|(refine gG ?_ hJ))
  all_goals (clear hJ;(exact zp))
 refine ad (fun e4=>?_) (fun e4=>?_)
 ·replace e4:=of_decide_eq_true e4
  rw [if_neg (by omega),if_neg (by omega),if_pos (by omega)]at lf
  repeat' (refine aD ?_)
  refine dJ ⟨_,_,rfl,?_⟩
  repeat' (refine aD ?_)
  refine iM ⟨_,rfl,?_⟩
  rw [wa16]
  (with_reducible apply cB);(assumption);(exact l);(exact b0);(decide);intro _ _ _ _
  repeat' (refine aD ?_)
  refine lf (t:=⟨_,_⟩) (by assumption) (qD rfl ?_)
  ·intro h
   show _=SortP.mk 0 _
   rw [bX (by omega) (by omega)]
 replace e4:=of_decide_eq_false e4
 (refine aD ?_)
 refine ad (fun e5=>?_) (fun e5=>?_)
 ·replace e5:=bW e5
  rw [if_pos e5]at lf
  repeat' (refine aD ?_)
  refine dJ ⟨_,_,rfl,?_⟩
  repeat' (refine aD ?_)
  (with_reducible apply cB);(assumption);(exact l);(exact b0);(decide);intro _ _ _ _
  repeat' (refine aD ?_)
  refine lf (t:=⟨_,_⟩) (by assumption) (qD (by rw [wab]) ?_)
  ·intro h
   show _=SortP.mk 0 _
   rw [wab]
 replace e5:=bz e5
 have k5: ¬n.kind<=5:=by
  intro h
  have:ai n.kind= -1:=by unfold ai;(repeat' split)<;>omega
  omega
 rw [if_neg (by omega),if_neg (by omega),if_neg (by omega),if_neg (by omega)]at lf
 (refine aD ?_)
 refine iM ⟨_,rfl,ad (fun e6=>?_) (fun e6=>?_)⟩
 ·replace e6:=of_decide_eq_true e6
  rw [if_neg (show¬n.kind<=20 by omega)]at lf
  repeat' (refine aD ?_)
  refine dJ ⟨_,_,rfl,?_⟩
  repeat' (refine aD ?_)
  (with_reducible apply cB);(assumption);(exact l);(exact b0);(decide);intro _ _ _ _
  repeat' (refine aD ?_)
  refine lf (t:=⟨_,_⟩) (by assumption) (qD ?_ ?_)
  ·rw [Bool.eq_iff_iff];simp
  ·intro h;rfl
 replace e6:=of_decide_eq_false e6
 have k20:n.kind<=20:=by
  by_cases h20:n.kind<=20
  ·exact h20
  ·have:ai n.kind= -1\/ai n.kind=0:=by unfold ai;(repeat' split)<;>omega
   omega
 rw [if_pos k20]at lf
 repeat' (refine aD ?_)
 (with_reducible apply cB);(assumption);(exact l);(exact b0);(decide);intro _ _ _ _
 repeat' (refine aD ?_)
 refine lf (t:=⟨_,_⟩) (by assumption) (qD ?_ ?_)
 ·rw [Bool.eq_iff_iff];simp
 ·intro h;rw [show a.idx=0 by omega]
end Go.Lead
