/- What functions of the program and of the reference come to, walked one by one, and plain laws about it: part 1. No condition is added to the statement. -/
import Derived.Test.YthfcbpocfmjefaaGreatVm15
import Derived.Test.YthfcbpocfmjefaaGreatFn0
import Derived.Test.YthfcbpocfmjefaaGreatFn1
import Derived.Test.YthfcbpocfmjefaaGreatFn2
import Derived.Test.YthfcbpocfmjefaaGreatFn3
import Derived.Test.YthfcbpocfmjefaaGreatFn4
namespace Go.Lead
open Go
set_option linter.unusedVariables false
set_option linter.unusedSimpArgs false
set_option maxHeartbeats 1000000
structure Nd where
 v:Nat
 lo:Nat
 hi:Nat
 deriving DecidableEq,Repr
def ji (n:Nd) (ns:List Nd):Nat×List Nd:=match ns.idxOf? n with|some i=>(i+2,ns)|none=>(ns.length+2,ns++ [n])
def mkD :Nat->(Nat->Bool)->Nat->List Nd->Nat×List Nd
 |0,f,_,ns=>(if f 0 then 1 else 0,ns)
 |n+1,f,low,ns=>
  let r1:=mkD n (fun i=>f (2*i)) (low+1) ns
  let r2:=mkD n (fun i=>f (2*i+1)) (low+1) r1.2
  if r1.1=r2.1 then r2 else ji ⟨low,r1.1,r2.1⟩ r2.2
theorem Gu : ∀(n:Nat) {f g:Nat->Bool} (low:Nat) (ns:List Nd),(∀i,i<2^n->f i=g i)->mkD n f low ns=mkD n g low ns:=by
 intro n
 induction n with
 |zero=>intro f g low ns h;simp only [mkD];rw [h 0 (by simp)]
 |succ n ih=>
  intro f g low ns h
  have hp:2^(n+1)=2*2^n:=by rw [Nat.pow_succ];omega
  have h1: ∀ns,mkD n (fun i=>f (2*i)) (low+1) ns=mkD n (fun i=>g (2*i)) (low+1) ns:=fun ns=>ih _ _ fun i hi=>h _ (by omega)
  have h2: ∀ns,mkD n (fun i=>f (2*i+1)) (low+1) ns=mkD n (fun i=>g (2*i+1)) (low+1) ns:=fun ns=>ih _ _ fun i hi=>h _ (by omega)
  simp only [mkD,h1,h2]
theorem vT (n:Nd) (ns:List Nd):ns<+:(ji n ns).2:=by
 unfold ji;split
 ·exact List.prefix_refl _
 ·exact List.prefix_append _ _
theorem Ac : ∀(n:Nat) (f:Nat->Bool) (low:Nat) (ns:List Nd),ns<+:(mkD n f low ns).2:=by
 intro n
 induction n with
 |zero=>intro f low ns;exact List.prefix_refl _
 |succ n ih=>
  intro f low ns
  have h1:=ih (fun i=>f (2*i)) (low+1) ns
  have h2:=ih (fun i=>f (2*i+1)) (low+1) (mkD n (fun i=>f (2*i)) (low+1) ns).2
  simp only [mkD]
  split
  ·exact h1.trans h2
  ·exact(h1.trans h2).trans (vT _ _)
theorem VP {n:Nd} {ns ns2:List Nd} {i:Nat} (h:ns.idxOf? n=some i) (p:ns<+:ns2):ns2.idxOf? n=some i:=by
 obtain⟨r,rfl⟩:=p
 simp only [List.idxOf?]at h⊢
 rw [List.findIdx?_append,h];rfl
theorem Vz {n:Nd} {ns ns2:List Nd} (h:ns.idxOf? n=none) (p:ns++ [n]<+:ns2):ns2.idxOf? n=some ns.length:=by
 obtain⟨r,rfl⟩:=p
 simp only [List.idxOf?]at h⊢
 rw [List.append_assoc,List.findIdx?_append,h]
 simp [List.findIdx?_cons]
theorem Q8 {n:Nd} {ns ns2:List Nd} (p:(ji n ns).2<+:ns2):ji n ns2=((ji n ns).1,ns2):=by
 cases h:ns.idxOf? n with
 |some i=>
  have e:ji n ns=(i+2,ns):=by simp [ji,h]
  rw [e]at p⊢
  simp [ji,VP h p]
 |none=>
  have e:ji n ns=(ns.length+2,ns++ [n]):=by simp [ji,h]
  rw [e]at p⊢
  simp [ji,Vz h p]
theorem yQ : ∀(n:Nat) (f:Nat->Bool) (low:Nat) (ns ns2:List Nd),(mkD n f low ns).2<+:ns2->mkD n f low ns2=((mkD n f low ns).1,ns2):=by
 intro n
 induction n with
 |zero=>intro f low ns ns2 p;rfl
 |succ n ih=>
  intro f low ns ns2 p
  have p1:(mkD n (fun i=>f (2*i)) (low+1) ns).2<+:ns2:=by
   refine List.IsPrefix.trans ?_ p
   simp only [mkD]
   split
   ·exact Ac _ _ _ _
   ·exact(Ac _ _ _ _).trans (vT _ _)
  have p2:(mkD n (fun i=>f (2*i+1)) (low+1) (mkD n (fun i=>f (2*i)) (low+1) ns).2).2<+:ns2:=by
   refine List.IsPrefix.trans ?_ p
   simp only [mkD]
   split
   ·exact List.prefix_refl _
   ·exact vT _ _
  have e1:=ih _ _ _ _ p1
  have e2:=ih _ _ _ _ p2
  simp only [mkD]at p⊢
  rw [e1]
  simp only
  rw [e2]
  simp only
  split
  ·rfl
  ·rename_i hne
   rw [if_neg hne]at p
   exact Q8 p
theorem V6 (n:Nd) (ns:List Nd):(ji n ns).2.length<=ns.length+1:=by
 unfold ji;split<;>simp
theorem uU : ∀(n:Nat) (f:Nat->Bool) (low:Nat) (ns:List Nd),(mkD n f low ns).2.length+1<=ns.length+2^n:=by
 intro n
 induction n with
 |zero=>intro f low ns;simp [mkD]
 |succ n ih=>
  intro f low ns
  have h1:=ih (fun i=>f (2*i)) (low+1) ns
  have h2:=ih (fun i=>f (2*i+1)) (low+1) (mkD n (fun i=>f (2*i)) (low+1) ns).2
  have h3:=V6 ⟨low,(mkD n (fun i=>f (2*i)) (low+1) ns).1,(mkD n (fun i=>f (2*i+1)) (low+1) (mkD n (fun i=>f (2*i)) (low+1) ns).2).1⟩ (mkD n (fun i=>f (2*i+1)) (low+1) (mkD n (fun i=>f (2*i)) (low+1) ns).2).2
  have hp:2^(n+1)=2*2^n:=by rw [Nat.pow_succ];omega
  simp only [mkD]
  split<;>omega
inductive Ev (ns:List Nd):Nat->Nat->Bool->Prop
 |no (c:Nat):Ev ns 0 c false
 |yes (c:Nat):Ev ns 1 c true
 |node {p c:Nat} {n:Nd} {b:Bool}:ns[p]?=some n->Ev ns (if c.testBit n.v then n.hi else n.lo) c b->Ev ns (p+2) c b
theorem Ev.pre {ns ns2:List Nd} (l:ns<+:ns2) {p c:Nat} {b:Bool} (e:Ev ns p c b):Ev ns2 p c b:=by
 induction e with
 |no=>exact .no _
 |yes=>exact .yes _
 |node h _ ih=>
  obtain⟨r,rfl⟩:=l
  exact .node (by rw [List.getElem?_append_left (List.getElem?_eq_some_iff.1 h).1];exact h) ih
theorem Ev.det {ns:List Nd} {p c:Nat} {b b':Bool} (e:Ev ns p c b) (e':Ev ns p c b'):b=b':=by
 induction e with
 |no=>cases e';rfl
 |yes=>cases e';rfl
 |node h _ ih=>
  cases e' with
  |node h' e2=>
   rw [h]at h';cases h'
   exact ih e2
theorem U6 (n:Nd) (ns:List Nd): ∃p,(ji n ns).1=p+2/\(ji n ns).2[p]?=some n:=by
 unfold ji
 cases h:ns.idxOf? n with
 |some i=>
  refine⟨i,rfl,?_⟩
  simp only [List.idxOf?]at h
  obtain⟨hi,he,_⟩:=List.findIdx?_eq_some_iff_getElem.1 h
  simp only [beq_iff_eq]at he
  simp [hi,he]
 |none=>exact⟨ns.length,rfl,by simp⟩
theorem VC (c low n:Nat):(c/2^low)%2^(n+1)=2*((c/2^(low+1))%2^n)+(if c.testBit low then 1 else 0):=by
 have h1:c/2^(low+1)=c/2^low/2:=by rw [Nat.pow_succ,Nat.div_div_eq_div_mul]
 have h2:(if c.testBit low then 1 else 0)=(c/2^low)%2:=by
  rw [Nat.testBit_eq_decide_div_mod_eq]
  rcases Nat.mod_two_eq_zero_or_one (c/2^low)with h|h<;>simp [h]
 rw [h1,h2]
 generalize c/2^low=x
 rw [Nat.pow_succ,Nat.mul_comm (2^n) 2,Nat.mod_mul]
 omega
theorem Rb : ∀(n:Nat) (f:Nat->Bool) (low:Nat) (ns:List Nd) (c:Nat),Ev (mkD n f low ns).2 (mkD n f low ns).1 c (f ((c/2^low)%2^n)):=by
 intro n
 induction n with
 |zero=>
  intro f low ns c
  simp only [mkD,Nat.pow_zero,Nat.mod_one]
  cases f 0
  ·exact .no _
  ·exact .yes _
 |succ n ih=>
  intro f low ns c
  have e1:=ih (fun i=>f (2*i)) (low+1) ns c
  have e2:=ih (fun i=>f (2*i+1)) (low+1) (mkD n (fun i=>f (2*i)) (low+1) ns).2 c
  have l2:=Ac n (fun i=>f (2*i+1)) (low+1) (mkD n (fun i=>f (2*i)) (low+1) ns).2
  have e1':=e1.pre l2
  rw [VC]
  simp only [mkD]
  split
  ·rename_i he
   rw [he]at e1'
   have hd:=e1'.det e2
   cases hb:c.testBit low
   ·simp only [Bool.false_eq_true,if_false,Nat.add_zero];rw [hd];exact e2
   ·simpa using e2
  ·obtain⟨p,hp,hg⟩:=U6 ⟨low,(mkD n (fun i=>f (2*i)) (low+1) ns).1,(mkD n (fun i=>f (2*i+1)) (low+1) (mkD n (fun i=>f (2*i)) (low+1) ns).2).1⟩
    (mkD n (fun i=>f (2*i+1)) (low+1) (mkD n (fun i=>f (2*i)) (low+1) ns).2).2
   rw [hp]
   refine .node hg ?_
   cases hb:c.testBit low
   ·simp only [Bool.false_eq_true,if_false,Nat.add_zero];exact e1'.pre (vT _ _)
   ·simp only [if_true];exact e2.pre (vT _ _)
theorem WV {n low:Nat} {f g:Nat->Bool} {ns:List Nd}:
  (mkD n f low ns).1=(mkD n g low (mkD n f low ns).2).1↔ ∀i,i<2^n->f i=g i:=by
 constructor
 ·intro he i hi
  have e1:=(Rb n f low ns (i*2^low)).pre (Ac n g low (mkD n f low ns).2)
  have e2:=Rb n g low (mkD n f low ns).2 (i*2^low)
  rw [he]at e1
  have:=e1.det e2
  rwa [Nat.mul_div_cancel _ (Nat.pow_pos (by omega)),Nat.mod_eq_of_lt hi]at this
 ·intro h
  rw [<-Gu n low _ h,yQ n f low ns _ (List.prefix_refl _)]
theorem UZ {n low:Nat} {f g:Nat->Bool} {ns:List Nd} (h: ∀i,i<2^n->f i=g i):mkD n g low (mkD n f low ns).2=mkD n f low ns:=by
 rw [<-Gu n low _ h,yQ n f low ns _ (List.prefix_refl _)]
def ic (set:List Int):List Int->Int->Int×Bool
 | [],left=>(left,left==0)
 |x::r,left=>
  if set.contains x then(0,false)else
  if set.contains (-x)then ic set r left else
  if left !=0&&left !=x then(0,false)else ic set r x
def mX :List (List Int)->List Int->Bool->Option (List Int×Bool)
 | [],set,more=>some (set,more)
 |l::r,set,more=>if(ic set l 0).2 then none else if(ic set l 0).1 !=0 then mX r (set++ [(ic set l 0).1]) true else mX r set more
def lb (cls:List (List Int)) (set:List Int):Option (List Int):=
 match mX cls set false with
 |none=>none
 |some (set',more)=>if more then(if h:set.length<set'.length/\set'.length<=20 then lb cls set' else none)else some set'
termination_by 20-set.length
decreasing_by omega
def tP :List Int->List Int->Option (List Int)
 | [],set=>some set
 |x::r,set=>if set.contains (-x)then none else tP r (if set.contains x then set else set++ [x])
def ka (cls:List (List Int)) (given:List Int):Option (List Int):=(tP given []).bind (lb cls)
structure qa (v:Int) (set:List Int):Prop where
 lit: ∀x∈set,x≠0/\ -v<=x/\x<=v
 nodup:set.Nodup
 cons: ∀x∈set, -x∉set
theorem Mu (v:Int):qa v []:=⟨by simp,List.nodup_nil,by simp⟩
theorem qa.add {v:Int} {set:List Int} (k:qa v set) {x:Int} (hx:x≠0/\ -v<=x/\x<=v) (h1:x∉set) (h2: -x∉set):qa v (set++ [x]):=by
 refine⟨?_,?_,?_⟩
 ·intro y hy
  rcases List.mem_append.1 hy with h|h
  ·exact k.lit y h
  ·simp only [List.mem_singleton]at h;subst h;exact hx
 ·rw [List.nodup_append]
  refine⟨k.nodup,by simp,?_⟩
  intro a ha b hb
  simp only [List.mem_singleton]at hb;subst hb
  intro e;subst e;exact h1 ha
 ·intro y hy hn
  rcases List.mem_append.1 hy with h|h<;>rcases List.mem_append.1 hn with h'|h'
  ·exact k.cons y h h'
  ·simp only [List.mem_singleton]at h';exact h2 (by rw [<-h',Int.neg_neg];exact h)
  ·simp only [List.mem_singleton]at h;subst h;exact h2 h'
  ·simp only [List.mem_singleton]at h h';subst h;omega
theorem FH : ∀(n:Nat) (l:List Int) (a:Int),l.Nodup->(∀x∈l,a<=x/\x<a+n)->l.length<=n:=by
 intro n
 induction n with
 |zero=>
  intro l a _ h
  cases l with
  |nil=>simp
  |cons x r=>have:=h x (by simp);omega
 |succ n ih=>
  intro l a hd h
  by_cases hm:(a+n)∈l
  ·have h1:=ih (l.erase (a+n)) a (hd.erase _) (fun x hx=>by
    have hx':=List.mem_of_mem_erase hx
    have:=h x hx'
    have hne:x≠a+n:=fun e=>by
     subst e
     exact(List.Nodup.not_mem_erase hd) hx
    omega)
   rw [List.length_erase_of_mem hm]at h1
   omega
  ·have:=ih l a hd (fun x hx=>by
    have h1:=h x hx
    have hne:x≠a+n:=fun e=>hm (e▸hx)
    omega)
   omega
theorem qa.len {v:Int} {set:List Int} (k:qa v set) (hv:v<=10) (hv0:0<=v):set.length<=20:=by
 have h0:(0:Int)∉set:=fun h=>(k.lit 0 h).1 rfl
 have h1:=FH 21 (0::set) (-10) (List.nodup_cons.2 ⟨h0,k.nodup⟩) (fun x hx=>by
  rcases List.mem_cons.1 hx with rfl|hx
  ·omega
  ·have:=k.lit x hx;omega)
 simp only [List.length_cons]at h1
 omega
theorem VX {set:List Int} (hcons: ∀x∈set, -x∉set) (h0:(0:Int)∉set) {l:List Int} (hl: ∀x∈l,x≠0) (hne:(ic set l 0).1≠0):
  (ic set l 0).1∈l/\(ic set l 0).1∉set/\ -(ic set l 0).1∉set:=by
 have key: ∀(l:List Int) (o:Int),(∀x∈l,x≠0)->(o=0\/(o∉set/\ -o∉set))->(ic set l o).1≠0->
   ((ic set l o).1∈l\/(ic set l o).1=o)/\(ic set l o).1∉set/\ -(ic set l o).1∉set:=by
  intro l
  induction l with
  |nil=>
   intro o _ ho hne
   simp only [ic]at hne⊢
   rcases ho with h|h
   ·exact absurd h hne
   ·exact⟨by simp,h⟩
  |cons x r ih=>
   intro o hx ho hne
   have hr:=fun y hy=>hx y (List.mem_cons_of_mem _ hy)
   simp only [ic]at hne⊢
   split at hne
   ·exact absurd rfl hne
   ·rename_i h1
    rw [if_neg h1]
    split at hne
    ·rename_i h2
     rw [if_pos h2]
     have:=ih o hr ho hne
     exact⟨this.1.imp (List.mem_cons_of_mem _) id,this.2⟩
    ·rename_i h2
     rw [if_neg h2]
     split at hne
     ·exact absurd rfl hne
     ·rename_i h3
      rw [if_neg h3]
      have:=ih x hr (.inr ⟨by simpa using h1,by simpa using h2⟩) hne
      refine⟨.inl ?_,this.2⟩
      rcases this.1 with h|h
      ·exact List.mem_cons_of_mem _ h
      ·rw [h];simp
 have:=key l 0 hl (.inl rfl) hne
 refine⟨?_,this.2⟩
 rcases this.1 with h|h
 ·exact h
 ·exact absurd h hne
theorem qW {v:Int}: ∀(cls:List (List Int)) (set:List Int) (more:Bool),qa v set->(∀l∈cls,∀x∈l,x≠0/\ -v<=x/\x<=v)->
  ∀set' more',mX cls set more=some (set',more')->qa v set'/\set.length<=set'.length/\(more'=true->more=true\/set.length<set'.length):=by
 intro cls
 induction cls with
 |nil=>intro set more k _ set' more' h;simp only [mX,Option.some.injEq,Prod.mk.injEq]at h;obtain⟨rfl,rfl⟩:=h;exact⟨k,by omega, .inl⟩
 |cons l r ih=>
  intro set more k hc set' more' h
  have h0:(0:Int)∉set:=fun h=>(k.lit 0 h).1 rfl
  simp only [mX]at h
  split at h
  ·cases h
  ·split at h
   ·rename_i hne
    have hne':(ic set l 0).1≠0:=by simpa using hne
    have hl:=hc l (by simp)
    have hn:=VX k.cons h0 (fun x hx=>(hl x hx).1) hne'
    have:=ih (set++ [(ic set l 0).1]) true (k.add (hl _ hn.1) hn.2.1 hn.2.2) (fun l' h'=>hc l' (by simp [h'])) _ _ h
    simp only [List.length_append,List.length_cons,List.length_nil]at this
    exact⟨this.1,by omega,fun _=> .inr (by omega)⟩
   ·exact ih set more k (fun l' h'=>hc l' (by simp [h'])) _ _ h
theorem Cz {v:Int}: ∀(g:List Int) (set:List Int),qa v set->(∀x∈g,x≠0/\ -v<=x/\x<=v)-> ∀set',tP g set=some set'->qa v set':=by
 intro g
 induction g with
 |nil=>intro set k _ set' h;simp only [tP,Option.some.injEq]at h;subst h;exact k
 |cons x r ih=>
  intro set k hg set' h
  simp only [tP]at h
  split at h
  ·cases h
  ·rename_i h1
   refine ih _ ?_ (fun y hy=>hg y (by simp [hy])) _ h
   split
   ·exact k
   ·rename_i h2
    exact k.add (hg x (by simp)) (by simpa using h2) (by simpa using h1)
theorem OK {α:Type} {xs:List α} {p:α->Bool} {i:Nat} (hi:i<xs.length):(xs.take (i+1)).any p=((xs.take i).any p||p xs[i]):=by
 rw [List.take_succ_eq_append_getElem hi,List.any_append];simp
theorem uP {h:Hp} {s t:Sl} {xs ys:List Int} {R:Value->Hp->Prop} (hs:IntS h s xs) (ht:IntS h t ys)
  (k:R (.bool (decide (xs=ys))) h):kO #[s.v,t.v] h R:=by
 apply JW
 refine uf_ ?_
 have ls:=hs.len
 have lt:=ht.len
 by_cases hl:xs.length=ys.length
 ·refine aA (by simp [ls,lt,hl]) ?_
  refine ar xs.length (fun i vs h'=>vs= [s.v,t.v,I i]/\h'=h/\xs.take i=ys.take i) ⟨rfl,rfl,by simp⟩ ?_
  rintro i _ _ next hi ⟨rfl,rfl,hp⟩ hn
  refine⟨_,_,_,rfl,?_⟩
  by_cases hlt:i<xs.length
  ·obtain⟨b,o,ha,hc⟩:=hs.at hlt
   have hi':i<ys.length:=by omega
   obtain⟨b',o',ha',hc'⟩:=ht.at hi'
   have hb:=hs.bound
   refine aL (by simp [ls,hlt]) ?_
   simp only [vm,ls,lt,ha,ha',hc,hc',aw (n:=i) (by omega)]
   refine⟨by omega,by omega,ad (fun he=>?_) (fun he=>?_)⟩
   ·rwa [decide_eq_false (fun e=>by subst e;simp at he)]at k
   ·exact hn hlt _ _ ⟨rfl,rfl,vU hlt hi' hp (by simpa using he)⟩
  ·have:i=xs.length:=by omega
   subst this
   refine aA (by simp [ls]) ?_
   rw [List.take_length,hl,List.take_length]at hp
   rwa [decide_eq_true hp]at k
 ·refine aL (by simp [ls,lt];omega) ?_
  rwa [decide_eq_false (fun e=>hl (by rw [e]))]at k
theorem uC {h:Hp} {s:Sl} {xs:List Int} {left:Int} {R:Value->Hp->Prop} (hs:IntS h s xs) (h0:0<=left) (h1:left<=1048576)
  (k: ∀r:Int,(r<0\/0<=r/\r+xs.length=left)->R (I r) h):kP #[s.v,I left] h R:=by
 apply JH
 refine uf_ ?_
 have hb:=hs.bound
 rw [hs.len,bQ (by omega) (by omega)]
 exact ad (fun e=>k _ (by simp)) (fun e=>k _ (by simp at e;omega))
structure IW (h:Hp) (t:Sl) (ts:List Sl) (xss:List (List Int)):Prop where
 len:ts.length=xss.length
 outer:SlC (h.wo (ts.flatMap Sl.used)) t 1 (ts.map Sl.v)
 inner: ∀(i:Nat) (h1:i<ts.length) (h2:i<xss.length),Own h ts[i] 1 (xss[i].map I)
theorem IW.ints {h:Hp} {t:Sl} {ts:List Sl} {xss:List (List Int)} (e:IW h t ts xss):IntSS h t xss:=
 ⟨ts,e.len,e.outer.mono (sf _ _),fun i h1 h2=>(e.inner i h1 h2).slc⟩
theorem IW.mono {h h':Hp} {t:Sl} {ts:List Sl} {xss:List (List Int)} (l:h.le h') (e:IW h t ts xss):IW h' t ts xss:=
 ⟨e.len,e.outer.mono (tC (Hp.le_trans (sf _ _) l) fun b hb=>eZ hb),fun i h1 h2=>(e.inner i h1 h2).mono l⟩
theorem IW.used {h:Hp} {t:Sl} {ts:List Sl} {xss:List (List Int)} (e:IW h t ts xss): ∀b∈ts.flatMap Sl.used,h b≠none:=by
 intro b hb
 obtain⟨u,hu,hbu⟩:=List.mem_flatMap.1 hb
 obtain⟨i,hi,rfl⟩:=List.getElem_of_mem hu
 exact(e.inner i hi (by rw [<-e.len];exact hi)).used b hbu
theorem dM {h:Hp} {x a b:Int} {R:Value->Hp->Prop} (k:R (.bool (decide (a<=x/\x<=b))) h):cT #[I x,I a,I b] h R:=by
 apply P7
 refine uf_ ?_
 refine ad (fun e=>?_) (fun e=>?_)
 ·simp at e;simpa [e] using k
 ·simp at e;rwa [decide_eq_false (by omega)]at k
theorem gR {h:Hp} {x a b:Int} {R:Value->Hp->Prop} (k:R (.bool (decide (a<=x/\x<=b))) h):dy #[I x,I a,I b] h R:=by
 apply Va
 refine uf_ ?_
 refine ad (fun e=>?_) (fun e=>?_)
 ·simp at e;simpa [e] using k
 ·simp at e;rwa [decide_eq_false (by omega)]at k
def Hl (vars n:Int):Bool:=decide (n≠0/\ -vars<=n/\n<=vars)
def gO (vars:Int) (l:List Int):Bool:=decide (l.length<=10)&&l.all (Hl vars)
def eo (vars:Int) (c:List (List Int)):Bool:=decide (1<=vars/\vars<=10)&&(decide (c.length<=60)&&c.all (gO vars))
def Ih {α:Type} (p:α->Bool) (xs:List α):Int:=match xs.findIdx? p with|some i=>i|none=> -1
theorem th {α:Type} {p:α->Bool} {xs:List α} (e:xs.any p=false):Ih p xs= -1:=by
 have:xs.findIdx? p=none:=by
  rw [List.findIdx?_eq_none_iff];intro x hx;rw [List.any_eq_false]at e;simpa using e x hx
 simp [Ih,this]
theorem z8 {α:Type} {p:α->Bool} {xs:List α} {i:Nat} (hi:i<xs.length) (e:(xs.take i).any p=false) (hp:p xs[i]=true):Ih p xs=i:=by
 have:xs.findIdx? p=some i:=by
  rw [List.findIdx?_eq_some_iff_getElem]
  refine⟨hi,hp,fun j hj=>?_⟩
  rw [List.any_eq_false]at e
  exact e _ (by rw [List.mem_take_iff_getElem];exact⟨j,by omega,rfl⟩)
 simp [Ih,this]
theorem Np {α:Type} (p:α->Bool) (xs:List α):decide (Ih p xs>=0)=xs.any p:=by
 cases h:xs.any p with
 |false=>rw [th h];rfl
 |true=>
  unfold Ih
  cases h':xs.findIdx? p with
  |some i=>simp
  |none=>rw [List.findIdx?_eq_none_iff]at h';rw [List.any_eq_true]at h;obtain⟨x,hx,hp⟩:=h;simp [h' x hx]at hp
theorem tO {h:Hp} {s:Sl} {xs:List Int} {f:FuncId} {u w:Array Value} (p:Int->Bool) {R:Value->Hp->Prop} (hs:IntS h s xs)
  (hf: ∀x∈xs,∀R:Value->Hp->Prop,R (.bool (p x)) h->ACalls PR f ((u++ #[I x])++w) h R)
  (k:R (I (Ih p xs)) h):fD #[s.v, .func (.func f) u w] h R:=by
 apply sF
 refine uf_ ?_
 have hb:=hs.bound
 refine ar xs.length (fun i vs h'=>vs= [s.v, .func (.func f) u w,I xs.length,I i]/\h'=h/\(xs.take i).any p=false) ⟨by rw [hs.len];rfl,rfl,by simp⟩ ?_
 rintro i _ _ next hi ⟨rfl,rfl,hp⟩ hn
 refine⟨_,_,_,_,_,_,rfl,?_⟩
 by_cases hlt:i<xs.length
 ·obtain⟨b,o,ha,hc⟩:=hs.at hlt
  refine aL (by simp [hlt]) ?_
  simp only [vm,hs.len,ha,hc,aw (n:=i) (by omega)]
  refine⟨by omega,hf _ (List.getElem_mem hlt) _ ⟨_,rfl,ad (fun he=>?_) (fun he=>?_)⟩⟩
  ·rwa [z8 hlt hp he]at k
  ·exact hn hlt _ _ ⟨rfl,rfl,by rw [OK hlt,hp,he];rfl⟩
 ·have:i=xs.length:=by omega
  subst this
  rw [List.take_length]at hp
  refine aA (by simp) ?_
  rwa [th hp]at k
theorem p5 {h:Hp} {s:Sl} {xs:List Int} {f:FuncId} {u w:Array Value} (p:Int->Bool) {R:Value->Hp->Prop} (hs:IntS h s xs)
  (hf: ∀x∈xs,∀R:Value->Hp->Prop,R (.bool (p x)) h->ACalls PR f ((u++ #[I x])++w) h R)
  (k:R (.bool (xs.any p)) h):ez #[s.v, .func (.func f) u w] h R:=by
 apply qr
 refine uf_ ?_
 exact tO p hs hf ⟨_,rfl,by rwa [Np]⟩
def rv (h:Hp) (s:Sl) (xs:List Bool):Prop:=SlC h s 1 (xs.map Value.bool)
theorem rv.mono {h h':Hp} {s:Sl} {xs:List Bool} (l:h.le h') (e:rv h s xs):rv h' s xs:=SlC.mono l e
theorem rv.len {h:Hp} {s:Sl} {xs:List Bool} (e:rv h s xs):s.n=xs.length:=by have:=e.2.1;simp at this;omega
theorem rv.bound {h:Hp} {s:Sl} {xs:List Bool} (e:rv h s xs):xs.length<=9223372036854775807:=by rw [<-e.len];exact e.1
theorem rv.at {h:Hp} {s:Sl} {xs:List Bool} (e:rv h s xs) {i:Nat} (hi:i<xs.length):
  ∃b o,s.a=some (Addr.mk b o none)/\Hp.cell h b (o+i)=some (.bool xs[i]):=by
 have hl:=e.len
 obtain⟨b,o,ha,hc⟩:=SlC.get e (by omega)
 exact⟨b,o,ha,hc i _ (by simp [hi])⟩
theorem iQ {h:Hp} {c n:Nat} {R:Value->Hp->Prop} (hn:n<=64) (k:R (I (if c.testBit n then 1 else 0)) h):dT #[I c,I n] h R:=by
 apply NB
 refine uf_ ?_
 rw [cQ (by omega),if_neg (by omega),jn hn,Ja,ad5]
 split<;>simp_all
theorem Hl.iff {v n:Int}:Hl v n=true↔n≠0/\ -v<=n/\n<=v:=by simp [Hl]
theorem gO.lit {v:Int} {l:List Int} (e:gO v l=true) {n:Int} (hn:n∈l):Hl v n=true:=by
 simp only [gO,Bool.and_eq_true,List.all_eq_true]at e;exact e.2 n hn
theorem gO.len {v:Int} {l:List Int} (e:gO v l=true):l.length<=10:=by
 simp only [gO,Bool.and_eq_true,decide_eq_true_eq]at e;exact e.1
theorem eo.iff {v:Int} {c:List (List Int)}:eo v c=true↔(1<=v/\v<=10)/\c.length<=60/\ ∀l∈c,gO v l=true:=by
 simp [eo,List.all_eq_true]
def cj (k:Int) (n:Nat):List Value:=(List.range n).map fun(i:Nat)=>I (k+(i:Int))
theorem Vo (xs:List Int):(xs.map I).all (·.oneCell')=true:=by
 rw [List.all_eq_true]
 intro v hv
 obtain⟨x,_,rfl⟩:=List.mem_map.1 hv
 rfl
theorem IntS.slc {h:Hp} {s:Sl} {xs:List Int} (e:IntS h s xs):SlC h s 1 (xs.map I):=e
theorem lW {h:Hp} {s:Sl} {xs:List Int} {R:Value->Hp->Prop} (hs:IntS h s xs) (hl:xs.length<=1048576)
  (k: ∀t h',h.le h'->Buf (h'.sub h) t 1 (xs.map I)->R (Sl.v t) h'):dL #[s.v] h R:=by
 apply wk
 refine uf_ ?_
 have:=hs.len
 exact LS hs (by omega) (Vo _) fun t h' hn hle hb=>k t h' hle hb
theorem adO (a b c a' b' c':Int):aeq PR 3 jM (.agg #[I a,I b,I c]) (.agg #[I a',I b',I c'])=some (a==a'&&(b==b'&&(c==c'&&true))):=by kernel_rfl
theorem OG (l:List UInt8): ∀(k i:Nat) (r:List UInt8),i+k=l.length->ByteArray.toList.loop ⟨l.toArray⟩ i r=r.reverse++l.drop i:=by
 intro k
 induction k with
 |zero=>
  intro i r hi
  unfold ByteArray.toList.loop
  rw [if_neg (by simp [ByteArray.size];omega),List.drop_eq_nil_of_le (by omega),List.append_nil]
 |succ k ih=>
  intro i r hi
  unfold ByteArray.toList.loop
  rw [if_pos (by simp [ByteArray.size];omega),ih (i+1) _ (by omega),List.drop_eq_getElem_cons (i:=i) (by omega)]
  simp [ByteArray.get!,show i<l.length by omega]
theorem my (l:List UInt8):(⟨l.toArray⟩:ByteArray).toList=l:=by
 unfold ByteArray.toList
 rw [OG l l.length 0 [] (by omega)];rfl
def eh (n:Nat) (f:Nat->Bool):List Value:=(List.range (2^n)).map fun i=>Value.int .u8 (if f i then 1 else 0)
def df (n:Nat) (f:Nat->Bool):List UInt8:=(List.range (2^n)).map fun i=>if f i then 1 else 0
theorem JX (n:Nat) (f:Nat->Bool):eR (df n f)=eh n f:=by
 unfold eR df eh
 rw [List.map_map]
 apply List.map_congr_left
 intro i _
 simp only [Function.comp]
 cases f i<;>rfl
def Bl (h:Hp) (t:Sl) (n:Nat) (f:Nat->Bool):Prop:=SlC h t 1 (eh n f)
theorem Bl.mono {h h':Hp} {t:Sl} {n:Nat} {f:Nat->Bool} (l:h.le h') (e:Bl h t n f):Bl h' t n f:=SlC.mono l e
theorem Bl.len {h:Hp} {t:Sl} {n:Nat} {f:Nat->Bool} (e:Bl h t n f):t.n=2^n:=by have:=e.2.1;simp [eh]at this;omega
theorem Bl.at {h:Hp} {t:Sl} {n:Nat} {f:Nat->Bool} (e:Bl h t n f) {i:Nat} (hi:i<2^n):
  ∃b o,t.a=some (Addr.mk b o none)/\Hp.cell h b (o+i)=some (.int .u8 (if f i then 1 else 0)):=by
 have hl:=e.len
 obtain⟨b,o,ha,hc⟩:=SlC.get e (by omega)
 exact⟨b,o,ha,hc i _ (by simp [eh,hi])⟩
theorem Bl.all {h:Hp} {t:Sl} {n:Nat} {f:Nat->Bool} (e:Bl h t n f):nz h t.a t.n (eR (df n f)):=by
 rw [JX]
 exact⟨by rw [e.2.1,Nat.mul_one],e.2.2⟩
theorem xu (n:Nat) (f:Nat->Bool):(eh n f).length=2^n:=by simp [eh]
theorem C3 {h:Hp} {c:Bool} {R:Value->Hp->Prop} (k:R (I (if c then 1 else 0)) h):qy #[.bool c] h R:=by
 apply R0
 refine uf_ ?_
 cases c<;>exact k
def cP (ns:List Nd):List Value:=ns.flatMap fun n=> [I n.v,I n.lo,I n.hi]
def GC (n:Nd):Value:= .agg #[I n.v,I n.lo,I n.hi]
structure BI (h:Hp) (B rs rn:Nat) (vars:Nat) (s:Sl) (ns:List Nd) (es:List (ByteArray×Nat)):Prop where
 row:h B=some (.inl ⟨[I vars,s.v,I 0, .map (some rs), .map (some rn)],5,false⟩)
 buf:Buf h s 3 (cP ns)
 seen:h rs=some (.inr (es.map fun e=>(.string e.1,I e.2)))
 nodes:h rn=some (.inr (ns.zipIdx.map fun e=>(GC e.1,I (e.2+2:Nat))))
 far:rs≠rn
 own: ∀a,s.a=some a->a.block≠B
 true: ∀e∈es,∃n f low,low+n=vars/\e.1=⟨(df n f).toArray⟩/\mkD n f low ns=(e.2,ns)
theorem BI.mono {h h':Hp} {B rs rn vars:Nat} {s:Sl} {ns:List Nd} {es:List (ByteArray×Nat)} (l:h.le h') (e:BI h B rs rn vars s ns es):BI h' B rs rn vars s ns es:=
 ⟨l _ _ e.row,e.buf.mono l,l _ _ e.seen,l _ _ e.nodes,e.far,e.own,e.true⟩
theorem BI.blkB {h:Hp} {B rs rn vars:Nat} {s:Sl} {ns:List Nd} {es:List (ByteArray×Nat)} (e:BI h B rs rn vars s ns es): ∀b∈ [B,rs,rn]++s.blk,∃x,h b=some x:=by
 intro b hb
 simp only [List.cons_append,List.nil_append,List.mem_cons]at hb
 rcases hb with rfl|rfl|rfl|hb
 ·exact⟨_,e.row⟩
 ·exact⟨_,e.seen⟩
 ·exact⟨_,e.nodes⟩
 ·revert b hb
  refine xM.2 fun a ha=>?_
  rcases e.buf.2.2 with ⟨h0,_⟩|⟨c,hc,hcb⟩
  ·rw [h0]at ha;cases ha
  ·rw [hc]at ha;cases ha;exact⟨_,hcb⟩
theorem BI.put {h:Hp} {B rs rn vars:Nat} {s:Sl} {ns:List Nd} {es:List (ByteArray×Nat)} (e:BI h B rs rn vars s ns es) {n low:Nat} {f:Nat->Bool} (hlow:low+n=vars)
  {a:Nat} (ha:mkD n f low ns=(a,ns)): ∃(es2:List (ByteArray×Nat)) (res:Option (Nat×Value)),gf (Instr.sameNow .string (.string ⟨(df n f).toArray⟩)) (es.map fun e=>(.string e.1,I e.2)) 0=some res/\
   wG (es.map fun e=>(.string e.1,I e.2)) (.string ⟨(df n f).toArray⟩) (I a) res=es2.map (fun e:ByteArray×Nat=>(Value.string e.1,I e.2))/\ ∀x∈es2,∃n f low,low+n=vars/\x.1=⟨(df n f).toArray⟩/\mkD n f low ns=(x.2,ns):=by
 rcases rk (Instr.sameNow .string (.string ⟨(df n f).toArray⟩)) (fun e:ByteArray×Nat=> .string e.1) (fun e=>I e.2) (fun e=>(⟨(df n f).toArray⟩:ByteArray)==e.1) es 0 (fun _ _=>rfl)with ⟨hno,hm⟩|⟨j,hj,hyes,_,hm⟩
 ·refine⟨es++ [(⟨(df n f).toArray⟩,a)],_,hm,by simp [wG],?_⟩
  intro x hx
  rcases List.mem_append.1 hx with hx|hx
  ·exact e.true x hx
  ·simp only [List.mem_singleton]at hx;subst hx;exact⟨n,f,low,hlow,rfl,ha⟩
 ·refine⟨es.set j (⟨(df n f).toArray⟩,a),_,hm,by simp [wG,List.map_set],?_⟩
  intro x hx
  rcases List.mem_or_eq_of_mem_set hx with hx|hx
  ·exact e.true x hx
  ·subst hx;exact⟨n,f,low,hlow,rfl,ha⟩
theorem CG {n m:Nat} {f g:Nat->Bool} (e:df n f=df m g):n=m/\ ∀i,i<2^n->f i=g i:=by
 have hl:=congrArg List.length e
 simp only [df,List.length_map,List.length_range]at hl
 have hn:n=m:=(Nat.pow_right_inj (by decide:1<2)).1 hl
 subst hn
 refine⟨rfl,fun i hi=>?_⟩
 have:=congrArg (fun l:List UInt8=>l[i]?) e
 simp only [df,List.getElem?_map,List.getElem?_range hi,Option.map_some,Option.some.injEq]at this
 cases h1:f i<;>cases h2:g i<;>simp [h1,h2]at this<;>rfl
theorem abf (nd:Nd) (ns:List Nd):
  (∃j,gf (aeq PR 3 jM (.agg #[I nd.v,I nd.lo,I nd.hi])) (ns.zipIdx.map fun e=>(GC e.1,I (e.2+2:Nat))) 0=some (some (j,I (j+2:Nat)))/\ji nd ns=(j+2,ns))\/
  (gf (aeq PR 3 jM (.agg #[I nd.v,I nd.lo,I nd.hi])) (ns.zipIdx.map fun e=>(GC e.1,I (e.2+2:Nat))) 0=some none/\ji nd ns=(ns.length+2,ns++ [nd])):=by
 have heq: ∀m:Nd,((nd.v:Int)==(m.v:Int)&&((nd.lo:Int)==(m.lo:Int)&&((nd.hi:Int)==(m.hi:Int)&&true)))=(m==nd):=by
  intro m
  rw [Bool.eq_iff_iff]
  simp only [Bool.and_eq_true,beq_iff_eq,Bool.and_true]
  obtain⟨a,b,c⟩:=nd;obtain⟨a',b',c'⟩:=m
  simp only [Nd.mk.injEq]
  omega
 rcases rk (aeq PR 3 jM (.agg #[I nd.v,I nd.lo,I nd.hi])) (fun e:Nd×Nat=>GC e.1) (fun e=>I (e.2+2:Nat))
  (fun e=>(nd.v:Int)==(e.1.v:Int)&&((nd.lo:Int)==(e.1.lo:Int)&&((nd.hi:Int)==(e.1.hi:Int)&&true))) ns.zipIdx 0 (fun e _=>adO _ _ _ _ _ _)with ⟨hno,hm⟩|⟨j,hj,hyes,hbef,hm⟩
 ·refine .inr ⟨hm,?_⟩
  have:ns.idxOf? nd=none:=by
   simp only [List.idxOf?]
   rw [List.findIdx?_eq_none_iff]
   intro m hmm
   obtain⟨i,hi,rfl⟩:=List.getElem_of_mem hmm
   have:=hno (ns[i],i) (by rw [List.mem_iff_getElem];exact⟨i,by simpa using hi,by simp⟩)
   simp only [heq]at this
   exact this
  simp [ji,this]
 ·have hj':j<ns.length:=by simpa using hj
  simp only [heq,List.getElem_zipIdx,Nat.zero_add]at hyes hbef hm
  refine .inl ⟨j,hm,?_⟩
  have:ns.idxOf? nd=some j:=by
   simp only [List.idxOf?]
   rw [List.findIdx?_eq_some_iff_getElem]
   exact⟨hj',hyes,fun l hl=>by have:=hbef l (by simp;omega) hl;simp [this]⟩
  simp [ji,this]
theorem yO (ns:List Nd) (nd:Nd):cP (ns++ [nd])=cP ns++ [I nd.v,I nd.lo,I nd.hi]:=by simp [cP]
theorem lM (ns:List Nd):(cP ns).length=ns.length*3:=by
 induction ns with
 |nil=>rfl
 |cons n ns ih=>simp only [cP,List.flatMap_cons,List.length_append,List.length_cons,List.length_nil]at ih⊢;omega
theorem RJ {B rs rn vars:Nat} (hvars:vars<=13): ∀(n:Nat) (f:Nat->Bool) (low:Nat) (t:Sl) (h:Hp) (s:Sl) (ns:List Nd) (es:List (ByteArray×Nat)) (g:Hp) (R:Value->Hp->Prop),
  BI h B rs rn vars s ns es->g.le h->g B=none->g rs=none->g rn=none->(∀a,s.a=some a->g a.block=none)->Bl g t n f->low+n=vars->ns.length+2^n<=1048576->
  (∀s' es' h',BI h' B rs rn vars s' (mkD n f low ns).2 es'->g.le h'->(∀a,s'.a=some a->g a.block=none)->R (I (mkD n f low ns).1) h')->
  gN #[.pointer (some ⟨B,0,none⟩),t.v,I low] h R:=by
 intro n
 induction n with
 |zero=>
  intro f low t h s ns es g R inv hg gB grs grn gs ht hlow hlen k
  apply rq
  refine uf_ ?_
  have hl:=ht.len
  obtain⟨b,o,ha,hc⟩:=ht.at (i:=0) (by simp)
  refine aL (by simp [hl]) ?_
  simp only [vm,hl,ha,hg.cell hc]
  have:=hg.cell hc
  simp only [Nat.add_zero]at this
  refine⟨by omega,by simp,?_⟩
  simp only [Int.toNat_zero,Nat.add_zero,this,vm]
  have:=k s es h inv hg gs
  simp only [mkD]at this
  have e0:W (if f 0 then 1 else 0)=((if f 0 then 1 else 0:Nat):Int):=by cases f 0<;>rfl
  rw [e0];exact this
 |succ n ih=>
  intro f low t h s ns es g R inv hg gB grs grn gs ht hlow hlen k
  apply rq
  refine uf_ ?_
  have hl:=ht.len
  have hp:2^(n+1)=2*2^n:=by rw [Nat.pow_succ];omega
  have hp1:0<2^n:=Nat.pow_pos (by omega)
  have hp2:2^n<=8192:=by
   have:=Nat.pow_le_pow_right (n:=2) (by omega) (show n<=13 by omega)
   simpa using this
  refine aA (by simp [hl];omega) ?_
  refine⟨df (n+1) f,(ht.mono hg).all,?_⟩
  simp only [vm,av inv.row,mm]
  refine⟨rs,es.map (fun e=>(.string e.1,I e.2)),?_⟩
  rcases rk (Instr.sameNow .string (.string ⟨(df (n+1) f).toArray⟩)) (fun e:ByteArray×Nat=> .string e.1) (fun e=>I e.2) (fun e=>(⟨(df (n+1) f).toArray⟩:ByteArray)==e.1) es 0 (fun _ _=>rfl)with ⟨hno,hm⟩|⟨j,hj,hyes,_,hm⟩
  rotate_left
  ·refine⟨_,rfl,inv.seen,hm,_,rfl,aL rfl ?_⟩
   obtain⟨m,f',low',hlow',hkey,hmk⟩:=inv.true _ (List.getElem_mem hj)
   rw [hkey]at hyes
   have hb:df (n+1) f=df m f':=by
    have h9:((df (n+1) f).toArray==(df m f').toArray)=true:=hyes
    simpa using h9
   obtain⟨rfl,hff⟩:=CG hb
   have:low'=low:=by omega
   subst this
   have e:=Gu (n+1) low' ns hff
   rw [hmk]at e
   have:=k s es h (by rw [e];exact inv) hg gs
   rw [e]at this
   exact this
  refine⟨_,rfl,inv.seen,hm,_,rfl,aA rfl ?_⟩
  have hdiv:W ((t.n:Int).tdiv 2)=((2^n:Nat):Int):=by
   rw [hl,hp]
   have:(((2*2^n:Nat):Int)).tdiv 2=((2^n:Nat):Int):=by
    have:=Int.ofNat_tdiv (2*2^n) 2
    rw [show 2*2^n/2=2^n by omega]at this
    exact this.symm
   rw [this];exact fj (by omega)
  simp only [hdiv,vm,cr]
  refine aq (fun J=> ∀b1 b2:Nat,b1≠b2->h b1=none->h b2=none-> ∀h1:Hp,h1 b1=some (.inl ⟨List.replicate (2^n) (.int .u8 0),2^n,false⟩)->h1 b2=some (.inl ⟨List.replicate (2^n) (.int .u8 0),2^n,false⟩)->h.le h1->
   J ⟨some ⟨b1,0,none⟩,2^n,2^n⟩ ⟨some ⟨b2,0,none⟩,2^n,2^n⟩ h1) ?_ ?_
  rotate_left
  ·intro J hJ
   refine⟨⟨by omega,by omega,by omega,fun b1 hb1=>⟨by omega,by omega,by omega,fun b2 hb2=>?_⟩⟩,⟨by omega,by omega,by omega,fun b1 hb1=>⟨by omega,by omega,by omega,fun b2 hb2=>?_⟩⟩⟩
   ·exact hJ b1 b2 hb2.1.symm hb1 hb2.2 _ (by rw [bX _ _ hb2.1.symm,bJ]) (by rw [bJ]) (dP _ _ hb2.2 (fE _ _ hb1))
   ·exact hJ b2 b1 hb2.1 hb2.2 hb1 _ (by rw [bJ]) (by rw [bX _ _ hb2.1.symm,bJ]) (dP _ _ hb2.2 (fE _ _ hb1))
  intro b1 b2 n12 hb1 hb2 h1 f1 f2 l1
  refine ar (2^n) (fun i vs h'=>vs= [.pointer (some ⟨B,0,none⟩),t.v,I low, .string ⟨(df (n+1) f).toArray⟩,Sl.v ⟨some ⟨b1,0,none⟩,2^n,2^n⟩,Sl.v ⟨some ⟨b2,0,none⟩,2^n,2^n⟩,I (2^n:Nat),I i]/\
   h.le h'/\ ∃c1 c2,h' b1=some (.inl ⟨c1,2^n,false⟩)/\h' b2=some (.inl ⟨c2,2^n,false⟩)/\c1.length=2^n/\c2.length=2^n/\c1.take i=(eh n fun i=>f (2*i)).take i/\c2.take i=(eh n fun i=>f (2*i+1)).take i)
   ⟨rfl,l1,_,_,f1,f2,by simp,by simp,by simp,by simp⟩ ?_
  rintro i _ h2 next hi ⟨rfl,l2,c1,c2,g1,g2,q1,q2,p1,p2⟩ hn
  refine⟨_,_,_,_,_,_,_,_,rfl,?_⟩
  by_cases hlt:i<2^n
  ·obtain⟨bt,ot,hta,htc⟩:=((ht.mono hg).mono l2).at (i:=2*i) (by omega)
   obtain⟨bt',ot',hta',htc'⟩:=((ht.mono hg).mono l2).at (i:=2*i+1) (by omega)
   rw [hta]at hta';cases hta'
   have e1:W (2*(i:Int))=((2*i:Nat):Int):=by rw [<-fj (n:=2*i) (by omega)];congr 1
   have e2:W (((2*i:Nat):Int)+1)=((2*i+1:Nat):Int):=aw (by omega)
   refine aL (by simpa using by exact_mod_cast hlt) ?_
   simp only [e1,e2,vm,mm,hl,hta,htc,htc',aw (n:=i) (show i<9223372036854775807 by omega)]
   refine⟨by omega,by omega,by omega,c1,2^n,g1,by omega,by omega,?_⟩
   rw [bX _ _ n12.symm]
   refine⟨c2,2^n,g2,by omega,?_⟩
   refine hn hlt _ _ ⟨rfl,dP _ _ hb2 (dP _ _ hb1 l2),_,_,by rw [bX _ _ n12,bJ],bJ ..,by simpa using q1,by simpa using q2,?_,?_⟩
   ·have hti:i<(eh n fun i=>f (2*i)).length:=by rw [xu];exact hlt
    rw [m4 _ (by omega),p1,List.take_succ_eq_append_getElem hti]
    simp [eh]
   ·have hti:i<(eh n fun i=>f (2*i+1)).length:=by rw [xu];exact hlt
    rw [m4 _ (by omega),p2,List.take_succ_eq_append_getElem hti]
    simp [eh]
  have:i=2^n:=by omega
  subst this
  rw [<-q1,List.take_length,q1,<-xu n (fun i=>f (2*i)),List.take_length]at p1
  rw [<-q2,List.take_length,q2,<-xu n (fun i=>f (2*i+1)),List.take_length]at p2
  subst p1;subst p2
  refine aA (by simp) ?_
  clear hn next f1 f2 l1 h1
  have hout: ∀b,h b=none->b∉ [B,rs,rn]++s.blk:=fun b hb hm=>by
   obtain⟨x,hx⟩:=inv.blkB b hm
   rw [hb]at hx;cases hx
  have tb:2^n<=9223372036854775807:=by omega
  have t1:Bl (h2.wo ([B,rs,rn]++s.blk)) ⟨some ⟨b1,0,none⟩,2^n,2^n⟩ n (fun i=>f (2*i)):=
   ⟨tb,by simp [xu], .inr ⟨b1,0,rfl,au (by rw [tU (hout b1 hb1)];exact g1)⟩⟩
  have t2:Bl (h2.wo ([B,rs,rn]++s.blk)) ⟨some ⟨b2,0,none⟩,2^n,2^n⟩ n (fun i=>f (2*i+1)):=
   ⟨tb,by simp [xu], .inr ⟨b2,0,rfl,au (by rw [tU (hout b2 hb2)];exact g2)⟩⟩
  have hgw:g.le (h2.wo ([B,rs,rn]++s.blk)):=tC (Hp.le_trans hg l2) (by
   intro b hb
   simp only [List.cons_append,List.nil_append,List.mem_cons]at hb
   rcases hb with rfl|rfl|rfl|hb
   ·exact gB
   ·exact grs
   ·exact grn
   ·exact xM (p:=fun b=>g b=none).2 gs b hb)
  rw [aw (by omega)]
  have len1:=uU n (fun i=>f (2*i)) (low+1) ns
  refine ih _ (low+1) _ h2 s ns es (h2.wo ([B,rs,rn]++s.blk)) _ (inv.mono l2) (sf _ _) (eZ (by simp)) (eZ (by simp)) (eZ (by simp))
   (xM (p:=fun b=>(h2.wo ([B,rs,rn]++s.blk)) b=none).1 fun b hb=>eZ (by simp [hb])) t1 (by omega) (by omega) ?_
  intro s3 es3 h3 inv3 l3 gs3
  refine⟨_,rfl,df n (fun i=>f (2*i)),(t1.mono l3).all,df n (fun i=>f (2*i+1)),(t2.mono l3).all,?_⟩
  refine aq (fun J=> ∀s' es' h',BI h' B rs rn vars s' (mkD (n+1) f low ns).2 es'->g.le h'->(∀a,s'.a=some a->g a.block=none)->J ((mkD (n+1) f low ns).1:Nat) h') ?_ ?_
  ·intro s' es' h' inv' lg' gs'
   obtain⟨es2,res,hm2,hput,htrue⟩:=inv'.put (n:=n+1) (low:=low) (f:=f) hlow (yQ (n+1) f low ns _ (List.prefix_refl _))
   simp only [vm,av inv'.row,mm]
   refine⟨rs,_,res,rfl,inv'.seen,hm2,?_⟩
   rw [hput]
   have nB:B≠rs:=dW inv'.row inv'.seen (by intro h;cases h)
   refine k s' es2 _ ⟨by rw [Hp.set_ne _ _ nB];exact inv'.row,?_,Hp.set_eq ..,by rw [Hp.set_ne _ _ inv'.far.symm];exact inv'.nodes,inv'.far,inv'.own,htrue⟩ (kX _ lg' grs) gs'
   refine⟨inv'.buf.1,inv'.buf.2.1,inv'.buf.2.2.imp id ?_⟩
   rintro ⟨c,hc,hcb⟩
   exact⟨c,hc,by rw [Hp.set_ne _ _ (dW hcb inv'.seen (by intro h;cases h))];exact hcb⟩
  ·intro J hJ
   rw [my,my]
   refine ad (fun e=>?_) (fun e=>?_)
   rotate_left
   ·have e':df n (fun i=>f (2*i))=df n (fun i=>f (2*i+1)):=by simpa using e
    have hs2:=UZ (low:=low+1) (ns:=ns) (CG e').2
    have hmk:mkD (n+1) f low ns=mkD n (fun i=>f (2*i)) (low+1) ns:=by simp only [mkD];rw [hs2];simp
    have:=hJ s3 es3 h3 (by rw [hmk];exact inv3) (Hp.le_trans hgw l3) ?_
    ·rw [hmk]at this;exact this
    ·intro a ha;
     have:=gs3 a ha
     cases hga:g a.block with
     |none=>rfl
     |some x=>rw [hgw _ _ hga]at this;cases this
   have hne: ¬(mkD n (fun i=>f (2*i)) (low+1) ns).1=(mkD n (fun i=>f (2*i+1)) (low+1) (mkD n (fun i=>f (2*i)) (low+1) ns).2).1:=by
    intro he
    have:=WV.1 he
    have e2:df n (fun i=>f (2*i))=df n (fun i=>f (2*i+1)):=by
     unfold df
     apply List.map_congr_left
     intro i hi
     simp only [this i (by simpa using hi)]
    rw [e2]at e;simp at e
   have hmk:mkD (n+1) f low ns=ji ⟨low,(mkD n (fun i=>f (2*i)) (low+1) ns).1,(mkD n (fun i=>f (2*i+1)) (low+1) (mkD n (fun i=>f (2*i)) (low+1) ns).2).1⟩
     (mkD n (fun i=>f (2*i+1)) (low+1) (mkD n (fun i=>f (2*i)) (low+1) ns).2).2:=by simp only [mkD];rw [if_neg hne]
   have len2:=uU n (fun i=>f (2*i+1)) (low+1) (mkD n (fun i=>f (2*i)) (low+1) ns).2
   generalize mkD n (fun i=>f (2*i)) (low+1) ns=r1 at*
   refine ih _ (low+1) _ h3 s3 r1.2 es3 ((h3.wo ([B,rs,rn]++s3.blk))) _ inv3 (sf _ _) (eZ (by simp)) (eZ (by simp)) (eZ (by simp))
    (xM (p:=fun b=>(h3.wo ([B,rs,rn]++s3.blk)) b=none).1 fun b hb=>eZ (by simp [hb])) (t2.mono (tC l3 ?_)) (by omega) (by omega) ?_
   ·intro b hb
    simp only [List.cons_append,List.nil_append,List.mem_cons]at hb
    rcases hb with rfl|rfl|rfl|hb
    ·exact eZ (by simp)
    ·exact eZ (by simp)
    ·exact eZ (by simp)
    ·exact xM (p:=fun b=>(h2.wo ([B,rs,rn]++s.blk)) b=none).2 gs3 b hb
   generalize mkD n (fun i=>f (2*i+1)) (low+1) r1.2=r2 at*
   intro s4 es4 h4 inv4 l4 gs4
   refine⟨_,rfl,?_⟩
   intro b5 hb5
   have nB:=fresh_ne hb5 inv4.row
   have nN:=fresh_ne hb5 inv4.nodes
   simp only [vm,mm,nB,nN,av inv4.row,ne_eq,not_false_eq_true]
   have hgw3:g.le (h3.wo ([B,rs,rn]++s3.blk)):=tC (Hp.le_trans hgw l3) (by
    intro b hb
    refine aF hgw ?_
    simp only [List.cons_append,List.nil_append,List.mem_cons]at hb
    rcases hb with rfl|rfl|rfl|hb
    ·exact eZ (by simp)
    ·exact eZ (by simp)
    ·exact eZ (by simp)
    ·exact xM (p:=fun b=>(h2.wo ([B,rs,rn]++s.blk)) b=none).2 gs3 b hb)
   have lg4:g.le h4:=Hp.le_trans hgw3 l4
   have gs4': ∀a,s4.a=some a->g a.block=none:=fun a ha=>aF hgw3 (gs4 a ha)
   have l5:=fE [I low,I r1.1,I r2.1] 3 hb5
   refine⟨by omega,rn,r2.2.zipIdx.map (fun e=>(GC e.1,I (e.2+2:Nat))),?_⟩
   rcases abf ⟨low,r1.1,r2.1⟩ r2.2 with ⟨j,hm5,hput⟩|⟨hm5,hput⟩
   ·refine⟨_,rfl,l5 _ _ inv4.nodes,hm5,_,rfl,aA rfl ?_⟩
    rw [hput]at hmk
    have:=hJ s4 es4 _ (by rw [hmk];exact inv4.mono l5) (Hp.le_trans lg4 l5) gs4'
    rw [hmk]at this
    exact this
   ·refine⟨_,rfl,l5 _ _ inv4.nodes,hm5,_,rfl,aL rfl ?_⟩
    rw [hput]at hmk
    rintro b6 ⟨n65,_,hb6⟩
    have nB6:=fresh_ne hb6 inv4.row
    have l6:=dP [I low,I r1.1,I r2.1] 3 (show (h4.row b5 [I low,I r1.1,I r2.1] 3) b6=none by rw [yV];exact⟨n65,hb6⟩) (Hp.le_refl _)
    have hsn:s4.n=r2.2.length:=by have:=inv4.buf.1;rw [lM]at this;omega
    refine⟨by rw [bX _ _ nB6,bX _ _ nB],?_⟩
    refine dp ((inv4.buf.mono l5).mono l6) (by omega) (by omega) (by omega) ⟨b6,0,rfl,au (bJ ..)⟩ (by simp) rfl ?_
    intro s7 h7 hn7 hb7 hl7 _
    have hH:h4.le ((h4.row b5 [I low,I r1.1,I r2.1] 3).row b6 [I low,I r1.1,I r2.1] 3):=Hp.le_trans l5 l6
    have dmap: ∀{c:Nat} {m:List (Value×Value)},h4 c=some (.inr m)-> ∀a,s4.a=some a->a.block≠c:=by
     intro c m hc a ha
     rcases inv4.buf.2.2 with ⟨h0,_⟩|⟨d,hd,hdb⟩
     ·rw [h0]at ha;cases ha
     ·rw [hd]at ha;cases ha;exact dW hdb hc (by intro h;cases h)
    have d5: ∀a,s4.a=some a->a.block≠b5:=by
     intro a ha
     rcases inv4.buf.2.2 with ⟨h0,_⟩|⟨d,hd,hdb⟩
     ·rw [h0]at ha;cases ha
     ·rw [hd]at ha;cases ha;exact fresh_ne hb5 hdb
    obtain⟨f7B,o7B⟩:=kR hl7 (hH _ _ inv4.row) inv4.own
    obtain⟨f7s,o7s⟩:=kR hl7 (hH _ _ inv4.seen) (dmap inv4.seen)
    obtain⟨f7n,o7n⟩:=kR hl7 (hH _ _ inv4.nodes) (dmap inv4.nodes)
    obtain⟨f75,o75⟩:=kR hl7 (l6 _ _ (bJ h4 b5 [I low,I r1.1,I r2.1] 3)) d5
    have n5B:=nB.symm
    have nsB:rs≠B:=dW inv4.seen inv4.row (by intro h;cases h)
    have nnB:rn≠B:=dW inv4.nodes inv4.row (by intro h;cases h)
    have hW2:W ((s4.n:Int)+2)=((r2.2.length+2:Nat):Int):=by rw [hsn,bQ (by omega) (by omega)];omega
    simp only [vm,mm,f7B,av f75,n5B,ne_eq,not_false_eq_true,hW2]
    refine⟨by omega,rn,_,none,rfl,by rw [bX _ _ nnB];exact f7n,hm5,rfl,?_⟩
    have:=hJ s7 es4 ((h7.row B [I vars,s7.v,I 0, .map (some rs), .map (some rn)] 5).set rn
     (some (.inr (wG (r2.2.zipIdx.map fun e=>(GC e.1,I (e.2+2:Nat))) (.agg #[I low,I r1.1,I r2.1]) (I (r2.2.length+2:Nat)) none)))) ?_ ?_ ?_
    ·rw [hmk]at this;exact this
    ·rw [hmk]
     refine⟨by rw [Hp.set_ne _ _ nnB.symm,bJ],?_,by rw [Hp.set_ne _ _ inv4.far,bX _ _ nsB];exact f7s,?_,inv4.far,o7B,?_⟩
     ·rw [yO]
      refine⟨hb7.1,hb7.2.1,hb7.2.2.imp id ?_⟩
      rintro ⟨c,hc,hcb⟩
      exact⟨c,hc,by rw [Hp.set_ne _ _ (o7n _ hc),bX _ _ (o7B _ hc)];exact hcb⟩
     ·rw [Hp.set_eq]
      simp [wG,List.zipIdx_append,GC]
     ·intro x hx
      obtain⟨n',f',low',h1',h2',h3'⟩:=inv4.true x hx
      refine⟨n',f',low',h1',h2',?_⟩
      have:=yQ n' f' low' r2.2 (r2.2++ [⟨low,r1.1,r2.1⟩]) (by rw [h3'];exact List.prefix_append _ _)
      rw [h3']at this;exact this
    ·refine kX _ ?_ grn
     intro c x hcx
     have hcB:c≠B:=fun h=>by rw [h,gB]at hcx;cases hcx
     rw [bX _ _ hcB]
     exact(kR hl7 (hH _ _ (lg4 _ _ hcx)) (fun a ha hac=>by rw [<-hac,gs4' a ha]at hcx;cases hcx)).1
    ·intro a ha
     cases hg7:g a.block with
     |none=>rfl
     |some x=>
      exact absurd rfl ((kR hl7 (hH _ _ (lg4 _ _ hg7)) (fun a' ha' hac=>by rw [<-hac,gs4' a' ha']at hg7;cases hg7)).2 a ha)
theorem Ot (ns:List Nd):(cP ns).all (·.oneCell')=true:=by
 rw [List.all_eq_true]
 intro v hv
 simp only [cP,List.mem_flatMap]at hv
 obtain⟨n,_,hv⟩:=hv
 simp only [List.mem_cons,List.not_mem_nil,or_false]at hv
 rcases hv with rfl|rfl|rfl<;>rfl
theorem RK {h:Hp} {s:Sl} {ns:List Nd} {v r:Int} {R:Value->Hp->Prop} (hs:SlC h s 3 (cP ns)) (hn:ns.length<=1048576)
  (k: ∀t h',h.le h'->Own (h'.sub h) t 3 (cP ns)->R (.agg #[I v,Sl.v t,I r]) h'):qc #[.agg #[I v,s.v,I r]] h R:=by
 apply DH
 refine uf_ ?_
 intro b1 hb1
 simp only [vm,mm]
 rintro b2 ⟨n21,hb2⟩
 have n12:=n21.symm
 have hsn:s.n=ns.length:=by have:=hs.2.1;rw [lM]at this;omega
 simp only [vm,mm,n12,n21,ne_eq,not_false_eq_true]
 have l0:=dP [I 0, .slice none 0 0,I 0] 3 hb2 (fE [I v,s.v,I r] 3 hb1)
 refine LS (hs.mono l0) (by omega) (Ot _) ?_
 intro t h3 hn3 l3 hb3
 have f1:=l3 _ _ ((bX _ _ n12).trans (bJ ..))
 have f2:=l3 _ _ (bJ ..)
 simp only [vm,mm,f1,f2]
 refine⟨by omega,k _ _ (dP _ _ hb2 (Hp.le_trans l0 l3)) ((hb3.own (by omega)).mono ?_)⟩
 exact OX _ _ (m8 (bJ ..)) (rb _ l0)
def pZ (n:Nat) (f:Nat->Bool):Option (Nat×List Nd):=if 600<(mkD n f 0 []).2.length then none else some (mkD n f 0 [])
theorem NJ {h:Hp} {t:Sl} {n:Nat} {f:Nat->Bool} {R:Value->Hp->Prop} (hn:n<=13) (ht:Bl h t n f)
  (k0:pZ n f=none->R (.tuple #[.agg #[I 0, .slice none 0 0,I 0], .bool false]) h)
  (k1: ∀r,pZ n f=some r-> ∀s h',h.le h'->Own (h'.sub h) s 3 (cP r.2)->R (.tuple #[.agg #[I n,Sl.v s,I r.1], .bool true]) h'):
  jo #[t.v] h R:=by
 refine ACalls.drop (zz ?_)
 refine uf_ ?_
 intro b1 hb1
 have l1:=fE [I 0, .slice none 0 0,I 0] 3 hb1
 refine xR fun h1 e1=>?_
 refine ar n (fun i vs h'=>vs= [t.v, .pointer (some ⟨b1,0,none⟩),I i]/\h'=h1) ⟨rfl,rfl⟩ ?_
 rintro i _ _ next hi ⟨rfl,rfl⟩ hnx
 refine⟨_,_,_,_,rfl,?_⟩
 rw [if_neg (by omega),cg (by omega),ht.len]
 by_cases hlt:i<n
 ·refine aL ?_ ?_
  ·have:=Nat.pow_lt_pow_right (a:=2) (by omega) hlt
   simpa using by exact_mod_cast this
  ·rw [aw (by omega)];exact hnx hlt _ _ ⟨rfl,rfl⟩
 have hin:i=n:=by omega
 subst hin
 refine aA (by simp) ?_
 rename_i h1
 rw [<-e1]at l1
 intro rs hrs
 refine xR fun h2 e2=>?_
 intro rn hrn
 refine xR fun h3 e3=>?_
 intro B hB
 refine xR fun h4 e4=>?_
 have l2:h1.le h2:=e2▸Hp.le_set _ hrs
 have l3:h2.le h3:=e3▸Hp.le_set _ hrn
 have l4:h3.le h4:=e4▸fE _ _ hB
 have f2:h2 rs=some (.inr []):=by rw [e2,Hp.set_eq]
 have f3:h3 rn=some (.inr []):=by rw [e3,Hp.set_eq]
 have f4:h4 B=some (.inl ⟨[I i, .slice none 0 0,I 0, .map (some rs), .map (some rn)],5,false⟩):=by rw [e4,bJ]
 have far:rs≠rn:=fresh_ne hrn f2
 have inv:BI h4 B rs rn i ⟨none,0,0⟩ [] []:=⟨f4,eM _ _,l4 _ _ (l3 _ _ f2),l4 _ _ f3,far,by simp,by simp⟩
 have l14:h1.le h4:=Hp.le_trans l2 (Hp.le_trans l3 l4)
 have hp2:2^i<=8192:=by
  have:=Nat.pow_le_pow_right (n:=2) (by omega) hn
  simpa using this
 have hB1:h1 B=none:=aF (Hp.le_trans l2 l3) hB
 have len:=uU i f 0 []
 simp only [List.length_nil]at len
 refine RJ hn i f 0 t h4 ⟨none,0,0⟩ [] [] h1 _ inv l14 hB1 hrs (aF l2 hrn) (by simp) (ht.mono l1) (by omega) (by simp;omega) ?_
 intro s5 es5 h5 inv5 l5 _
 have hs5:s5.n=(mkD i f 0 []).2.length:=by have:=inv5.buf.1;rw [lM]at this;omega
 have b1B:b1≠B:=fun h=>by subst h;rw [e1,bJ]at hB1;cases hB1
 have g1:h5 b1=some (.inl ⟨[I 0, .slice none 0 0,I 0],3,false⟩):=l5 _ _ (by rw [e1,bJ])
 simp only [vm,mm,inv5.row]
 refine⟨_,rfl,by omega,?_⟩
 rw [hs5]
 have g1':(h5.row B [I i,s5.v,I (mkD i f 0 []).1, .map (some rs), .map (some rn)] 5) b1=some (.inl ⟨[I 0, .slice none 0 0,I 0],3,false⟩):=by rw [bX _ _ b1B];exact g1
 have l15:h.le (h5.row B [I i,s5.v,I (mkD i f 0 []).1, .map (some rs), .map (some rn)] 5):=dP _ _ (aF l1 hB1) (Hp.le_trans l1 l5)
 refine ad (fun e=>?_) (fun e=>?_)
 ·have e':600<(mkD i f 0 []).2.length:=by simp at e;omega
  simp only [vm,mm,g1']
  exact⟨by omega,_,dP _ _ hb1 l15,k0 (by simp [pZ,e'])⟩
 ·have e': ¬600<(mkD i f 0 []).2.length:=by simp at e;omega
  have hbuf:SlC (h5.row B [I i,s5.v,I (mkD i f 0 []).1, .map (some rs), .map (some rn)] 5) s5 3 (cP (mkD i f 0 []).2):=by
   refine Buf.slc ⟨inv5.buf.1,inv5.buf.2.1,inv5.buf.2.2.imp id ?_⟩ (by omega)
   rintro ⟨c,hc,hcb⟩
   exact⟨c,hc,by rw [bX _ _ (inv5.own _ hc)];exact hcb⟩
  refine RK hbuf (by omega) fun t6 h6 l6 ho=>⟨_,_,_,rfl,?_⟩
  have g6:=l6 _ _ g1'
  simp only [vm,mm,g6]
  refine⟨by omega,_,Hp.le_refl _,k1 _ (by simp [pZ,e']) t6 _ (dP _ _ hb1 (Hp.le_trans l15 l6)) (ho.mono ?_)⟩
  exact OX _ _ (m8 g1') (rb _ l15)
structure Bd where
 v:Int
 ns:List Nd
 r:Int
 ok:Bool
def jx :Bd:=⟨0, [],0,false⟩
def dY (v:Int) (f:Nat->Bool):Bd:=if 0<=v/\v<=13 then(match pZ v.toNat f with|none=>jx|some r=>⟨v,r.2,r.1,true⟩)else jx
theorem Io {h:Hp} {a b c a' b' c':Int} {R:Value->Hp->Prop} (k:R (.bool (decide (a=a'/\b=b'/\c=c'))) h):
  qz #[.agg #[I a,I b,I c], .agg #[I a',I b',I c']] h R:=by
 refine ACalls.drop (Ei ?_)
 refine uf_ ?_
 intro b1 hb1
 simp only [vm,mm]
 rintro b2 ⟨n21,hb2⟩
 have n12:=n21.symm
 have l0:=dP [I a',I b',I c'] 3 hb2 (fE [I a,I b,I c] 3 hb1)
 simp only [vm,mm,n12,n21,ne_eq,not_false_eq_true]
 refine ad (fun e=>⟨_,l0,?_⟩) (fun e=>?_)
 ·have: ¬a=a':=by simpa using e
  simpa [this] using k
 have e1:a=a':=by simpa using e
 refine ad (fun e=>⟨_,l0,?_⟩) (fun e=>?_)
 ·have: ¬b=b':=by simpa using e
  simpa [this] using k
 have e2:b=b':=by simpa using e
 refine ad (fun e=>⟨_,l0,?_⟩) (fun e=>⟨_,l0,?_⟩)
 ·have: ¬c=c':=by simpa using e
  simpa [this] using k
 have e3:c=c':=by simpa using e
 simpa [e1,e2,e3] using k
theorem TJ {h:Hp} {s:Sl} {ns:List Nd} (e:SlC h s 3 (cP ns)) {i:Nat} (hi:i<ns.length):
  ∃b o,s.a=some (Addr.mk b o none)/\Hp.cell h b (o+i*3)=some (I ns[i].v)/\Hp.cell h b (o+i*3+1)=some (I ns[i].lo)/\Hp.cell h b (o+i*3+2)=some (I ns[i].hi):=by
 have hl:=e.2.1
 rw [lM]at hl
 obtain⟨b,o,ha,hc⟩:=SlC.get e (by omega)
 have key: ∀(ns:List Nd) (i:Nat) (hi:i<ns.length),(cP ns)[i*3]?=some (I ns[i].v)/\(cP ns)[i*3+1]?=some (I ns[i].lo)/\(cP ns)[i*3+2]?=some (I ns[i].hi):=by
  intro ns
  induction ns with
  |nil=>intro i hi;simp at hi
  |cons n ns ih=>
   intro i hi
   cases i with
   |zero=>simp [cP]
   |succ i=>
    have:=ih i (by simpa using hi)
    have hx:cP (n::ns)=I n.v::I n.lo::I n.hi::cP ns:=rfl
    rw [hx,show (i+1)*3=i*3+3 by omega]
    simpa using this
 obtain⟨k1,k2,k3⟩:=key ns i hi
 exact⟨b,o,ha,hc _ _ k1,by rw [Nat.add_assoc];exact hc _ _ k2,by rw [Nat.add_assoc];exact hc _ _ k3⟩
theorem Nr {h:Hp} {s:Sl} {ns:List Nd} (e:SlC h s 3 (cP ns)):s.n=ns.length:=by
 have hl:=e.2.1
 rw [lM]at hl;omega
theorem F3 {h:Hp} {s t:Sl} {xs ys:List Nd} {R:Value->Hp->Prop} (hs:SlC h s 3 (cP xs)) (ht:SlC h t 3 (cP ys))
  (k:R (.bool (decide (xs=ys))) h):po #[s.v,t.v] h R:=by
 apply C2
 refine uf_ ?_
 have ls:=Nr hs
 have lt:=Nr ht
 have hb:=hs.1
 by_cases hl:xs.length=ys.length
 ·refine aA (by simp [ls,lt,hl]) ?_
  refine ar xs.length (fun i vs h'=>vs= [s.v,t.v,I i]/\h'=h/\xs.take i=ys.take i) ⟨rfl,rfl,by simp⟩ ?_
  rintro i _ _ next hi ⟨rfl,rfl,hp⟩ hn
  refine⟨_,_,_,rfl,?_⟩
  by_cases hlt:i<xs.length
  ·obtain⟨b,o,ha,c1,c2,c3⟩:=TJ hs hlt
   have hi':i<ys.length:=by omega
   obtain⟨b',o',ha',d1,d2,d3⟩:=TJ ht hi'
   refine aL (by simp [ls,hlt]) ?_
   simp only [vm,ls,lt,ha,ha',c1,c2,c3,d1,d2,d3,aw (n:=i) (by omega)]
   refine⟨by omega,by omega,Io ⟨_,rfl,ad (fun he=>?_) (fun he=>?_)⟩⟩
   ·rwa [decide_eq_false (fun e=>by subst e;simp at he)]at k
   ·refine hn hlt _ _ ⟨rfl,rfl,vU hlt hi' hp ?_⟩
    have he':((xs[i].v:Int)=ys[i].v/\(xs[i].lo:Int)=ys[i].lo/\(xs[i].hi:Int)=ys[i].hi):=by simpa using he
    have: ∀a b:Nd,(a.v:Int)=b.v/\(a.lo:Int)=b.lo/\(a.hi:Int)=b.hi->a=b:=by
     intro ⟨a,b,c⟩ ⟨a',b',c'⟩ hh;simp only [Nd.mk.injEq];simp only at hh;omega
    exact this _ _ he'
  ·have:i=xs.length:=by omega
   subst this
   refine aA (by simp [ls]) ?_
   rw [List.take_length,hl,List.take_length]at hp
   rwa [decide_eq_true hp]at k
 ·refine aL (by simp [ls,lt];omega) ?_
  rwa [decide_eq_false (fun e=>hl (by rw [e]))]at k
theorem Sx {h:Hp} {s t:Sl} {xs ys:List Nd} {v r v' r':Int} {R:Value->Hp->Prop} (hs:SlC h s 3 (cP xs)) (ht:SlC h t 3 (cP ys))
  (k:R (.bool (decide (v=v'/\xs=ys/\r=r'))) h):xP #[.agg #[I v,s.v,I r], .agg #[I v',t.v,I r']] h R:=by
 refine ACalls.drop (MZ ?_)
 refine uf_ ?_
 intro b1 hb1
 simp only [vm,mm]
 rintro b2 ⟨n21,hb2⟩
 have n12:=n21.symm
 have l0:=dP [I v',t.v,I r'] 3 hb2 (fE [I v,s.v,I r] 3 hb1)
 simp only [vm,mm,n12,n21,ne_eq,not_false_eq_true]
 refine ad (fun e=>⟨_,l0,?_⟩) (fun e=>?_)
 ·have: ¬v=v':=by simpa using e
  simpa [this] using k
 have e1:v=v':=by simpa using e
 refine F3 (hs.mono l0) (ht.mono l0) ⟨_,rfl,ad (fun e=>⟨_,l0,?_⟩) (fun e=>?_)⟩
 ·have: ¬xs=ys:=by simpa using e
  simpa [this] using k
 have e2:xs=ys:=by simpa using e
 simp only [vm,mm,n12,n21,ne_eq,not_false_eq_true]
 refine ad (fun e=>⟨_,l0,?_⟩) (fun e=>⟨_,l0,?_⟩)
 ·have: ¬r=r':=by simpa using e
  simpa [this] using k
 have e3:r=r':=by simpa using e
 simpa [e1,e2,e3] using k
theorem UR {cs:List Value} {i:Nat} {k:Int} (hl:i*3+3<=cs.length) (hp:cs.take (i*3)=cj k (i*3)) (x y z:Value)
  (hx:x=I (k+(i*3:Nat))) (hy:y=I (k+(i*3+1:Nat))) (hz:z=I (k+(i*3+2:Nat))):
  (((cs.set (i*3) x).set (i*3+1) y).set (i*3+2) z).take ((i+1)*3)=cj k ((i+1)*3):=by
 rw [show (i+1)*3=i*3+2+1 by omega,m4 _ (by simp;omega),m4 _ (by simp;omega),m4 _ (by omega),hp]
 subst hx;subst hy;subst hz
 simp only [cj,List.range_succ,List.map_append,List.map_cons,List.map_nil]
theorem CE {h:Hp} {s:Sl} {cs:List Value} {k0:Int} {R:Value->Hp->Prop} (hs:Own h s 3 cs) (h0:0<=k0) (hk:k0+s.n*3<=9223372036854775807)
  (k: ∀h',(h.wo s.used).le h'->Own h' s 3 (cj k0 (s.n*3))->R (I (k0+s.n*3)) h'):mI #[s.v,I k0] h R:=by
 apply AG
 refine uf_ ?_
 by_cases hn0:s.n=0
 ·refine ar 0 (fun i vs h'=>vs= [s.v,I k0,I i]/\h'=h) ⟨rfl,rfl⟩ ?_
  rintro i _ _ next hi ⟨rfl,rfl⟩ hn
  refine⟨_,_,_,rfl,aA (by simp [hn0]) ?_⟩
  have:=k _ (sf _ _) ⟨by simp [hn0,cj],hs.2.1, .inl hn0⟩
  simpa [hn0] using this
 obtain⟨b,z,ha,hb⟩:=hs.2.2.resolve_left hn0
 refine ar s.n (fun i vs h'=>vs= [s.v,I (k0+(i*3:Nat)),I i]/\ ∃cs',h'=h.set b (some (.inl ⟨cs',z,false⟩))/\cs'.length=s.n*3/\cs'.take (i*3)=cj k0 (i*3))
  ⟨by simp,cs,?_,hs.1,by simp [cj]⟩ ?_
 ·funext c
  by_cases hc:c=b
  ·subst hc;rw [Hp.set_eq,hb]
  ·rw [Hp.set_ne _ _ hc]
 rintro i _ _ next hi ⟨rfl,cs',rfl,hcl,hp⟩ hn
 refine⟨_,_,_,rfl,?_⟩
 have hrow: ∀cs',h.set b (some (.inl ⟨cs',z,false⟩))=h.row b cs' z:=fun _=>rfl
 by_cases hlt:i<s.n
 ·refine aL (by simp [hlt]) ?_
  have w1:W (k0+(i*3:Nat)+1)=k0+(i*3+1:Nat):=by rw [bQ (by omega) (by omega)];omega
  have w2:W (k0+(i*3+1:Nat)+1)=k0+(i*3+2:Nat):=by rw [bQ (by omega) (by omega)];omega
  have w3:W (k0+(i*3+2:Nat)+1)=k0+((i+1)*3:Nat):=by rw [bQ (by omega) (by omega)];omega
  simp only [vm,mm,ha,hrow,w1,w2,w3,aw (n:=i) (by omega),List.length_set]
  refine⟨by omega,by omega,by omega,by omega,by omega,by omega,hn hlt _ _ ⟨rfl,_,rfl,by simpa using hcl,UR (by omega) hp _ _ _ rfl rfl rfl⟩⟩
 ·have:i=s.n:=by omega
  subst this
  rw [<-hcl,List.take_length,hcl]at hp
  subst hp
  refine aA (by simp) ?_
  have:=k (h.set b (some (.inl ⟨cj k0 (s.n*3),z,false⟩))) ?_ ⟨by simp [cj],hs.2.1, .inr ⟨b,z,ha,Hp.set_eq ..⟩⟩
  ·simpa using this
  ·refine kX _ (sf _ _) (eZ ?_)
   simp [Sl.used,hn0,Sl.blk,ha]
theorem CM {h:Hp} {s:Sl} {k0:Int} {R:Value->Hp->Prop} (hs:SlC h s 3 (cj k0 (s.n*3))) (h0:0<=k0) (hk:k0+s.n*3<=9223372036854775807)
  (k:R (I (k0+s.n*3)) h):mK #[s.v,I k0] h R:=by
 apply AB
 refine uf_ ?_
 refine ar s.n (fun i vs h'=>vs= [s.v,I (k0+(i*3:Nat)),I i]/\h'=h) ⟨by simp,rfl⟩ ?_
 rintro i _ _ next hi ⟨rfl,rfl⟩ hn
 refine⟨_,_,_,rfl,?_⟩
 by_cases hlt:i<s.n
 ·obtain⟨b,o,ha,hc⟩:=hs.get (by omega)
  have c1:=hc (i*3) (I (k0+(i*3:Nat))) (by rw [cj,List.getElem?_map,List.getElem?_range (by omega)];rfl)
  have c2:=hc (i*3+1) (I (k0+(i*3+1:Nat))) (by rw [cj,List.getElem?_map,List.getElem?_range (by omega)];rfl)
  have c3:=hc (i*3+2) (I (k0+(i*3+2:Nat))) (by rw [cj,List.getElem?_map,List.getElem?_range (by omega)];rfl)
  rw [<-Nat.add_assoc]at c2 c3
  have w1:W (k0+(i*3:Nat)+1)=k0+(i*3+1:Nat):=by rw [bQ (by omega) (by omega)];omega
  have w2:W (k0+(i*3+1:Nat)+1)=k0+(i*3+2:Nat):=by rw [bQ (by omega) (by omega)];omega
  have w3:W (k0+(i*3+2:Nat)+1)=k0+((i+1)*3:Nat):=by rw [bQ (by omega) (by omega)];omega
  refine aL (by simp [hlt]) ?_
  simp only [vm,ha,c1,c2,c3,w1,w2,w3,aw (n:=i) (by omega)]
  refine⟨by omega,aA (by simp) ⟨by omega,aA (by simp) ⟨by omega,aA (by simp) (hn hlt _ _ ⟨rfl,rfl⟩)⟩⟩⟩
 ·have:i=s.n:=by omega
  subst this
  refine aA (by simp) ?_
  simpa using k
def vD (h:Hp) (s:Sl) (xs:List Int):Prop:=Buf h s 1 (xs.map I)
theorem vD.len {h:Hp} {s:Sl} {xs:List Int} (e:vD h s xs):s.n=xs.length:=by have:=e.1;simp at this;omega
theorem vD.ints {h:Hp} {s:Sl} {xs:List Int} (e:vD h s xs) (hn:xs.length<=1048576):IntS h s xs:=Buf.slc e (by rw [e.len];omega)
theorem vD.mono {h h':Hp} {s:Sl} {xs:List Int} (l:h.le h') (e:vD h s xs):vD h' s xs:=Buf.mono l e
theorem PT {h:Hp} {s:Sl} {xs:List Int} {x:Int} {b:Nat} {K:Option Addr->Nat->Nat->Hp->Prop} (hb:vD h s xs) (hl:xs.length<=1048576) (hc:Hp.cell h b 0=some (I x))
  (k: ∀(s':Sl) (h':Hp),vD h' s' (xs++ [x])->(h.offS s).le (h'.offS s')->K s'.a s'.n s'.c h'):ck h s.a s.n s.c (some ⟨b,0,none⟩) 1 1 8 K:=by
 refine dp hb (by omega) (by rw [hb.len];omega) (by rw [hb.len];omega) ⟨b,0,rfl,fun i v hi=>?_⟩ (news:= [I x]) rfl rfl ?_
 ·cases i with
  |zero=>simp at hi;subst hi;exact hc
  |succ i=>simp at hi
 ·intro s' h' hn hbuf hle _
  exact k s' h' (by unfold vD;rw [List.map_append];exact hbuf) hle
structure gH (h h':Hp) (t:Sl) (set:List Int):Prop where
 buf:vD h' t set
 le:h.le (h'.offS t)
theorem gH.keep {h h':Hp} {t:Sl} {set:List Int} (e:gH h h' t set):h.le h':=Hp.le_trans e.le (aU _ _)
theorem gH.app {h h':Hp} {t:Sl} {set:List Int} {x:Int} {b:Nat} {K:Option Addr->Nat->Nat->Hp->Prop} (e:gH h h' t set) (hl:set.length<=1048576) (hb:h' b=none)
  (k: ∀(t':Sl) (h'':Hp),gH h h'' t' (set++ [x])->K t'.a t'.n t'.c h''):ck (h'.row b [I x] 1) t.a t.n t.c (some ⟨b,0,none⟩) 1 1 8 K:=by
 have l:=fE [I x] 1 hb
 refine PT (e.buf.mono l) hl (rl _ _ _ _ _) fun t' h'' hb' hl'=>k t' h'' ⟨hb',Hp.le_trans (Hp.le_trans e.le (aZ t l)) hl'⟩
theorem gH.own {h h':Hp} {t:Sl} {set:List Int} (e:gH h h' t set) (hl:set.length<=1048576):Own (h'.sub h) t 1 (set.map I):=by
 have hn:=e.buf.len
 refine⟨e.buf.1,by omega,?_⟩
 rcases e.buf.2.2 with ⟨_,h0,_⟩|⟨b,ha,hb⟩
 ·exact .inl h0
 ·refine .inr ⟨b,t.c*1,ha,?_⟩
  rw [lC]
  ·exact hb
  ·refine aF e.le ?_
   simp [Hp.offS,ha,Hp.off,Hp.set]
theorem gO.all {v:Int} {l:List Int} (e:gO v l=true): ∀x∈l,x≠0/\ -v<=x/\x<=v:=fun x hx=>Hl.iff.1 (gO.lit e hx)
def Cb (set:List Int):List (Value×Value):=set.map fun x=>(I x, .bool true)
theorem UK (set:List Int) (n:Int): ∃res,gf (Instr.sameNow (.int .i64) (I n)) (Cb set) 0=some res/\Option.getD (Option.map (fun p=>p.2) res) (.bool false)= .bool (set.contains n)/\
  wG (Cb set) (I n) (.bool true) res=Cb (if set.contains n then set else set++ [n]):=by
 unfold Cb
 rcases rk (Instr.sameNow (.int .i64) (I n)) (fun x:Int=>I x) (fun _=> .bool true) (fun x=>n==x) set 0 (fun x _=>OP _ _ _)with ⟨hno,hm⟩|⟨j,hj,hyes,_,hm⟩
 ·have hc:set.contains n=false:=by
   rw [Bool.eq_false_iff];intro h
   have:=hno n (by simpa using h)
   simp at this
  exact⟨_,hm,by rw [hc];rfl,by rw [hc];simp [wG]⟩
 ·have he:n=set[j]:=by simpa using hyes
  have hc:set.contains n=true:=by
   rw [he];simp
  refine⟨_,hm,by rw [hc];rfl,?_⟩
  rw [hc,if_pos rfl]
  simp only [wG,Nat.zero_add]
  apply List.ext_getElem
  ·simp
  ·intro i h1 h2
   rw [List.getElem_set]
   split
   ·rename_i hij;subst hij;simp [he]
   ·rfl
structure adI (h h':Hp) (rm:Nat) (set:List Int):Prop where
 map:h' rm=some (.inr (Cb set))
 le:h.le h'
 new:h rm=none
theorem adI.put {h h':Hp} {rm:Nat} {set set':List Int} (e:adI h h' rm set):adI h (h'.set rm (some (.inr (Cb set')))) rm set':=
 ⟨Hp.set_eq ..,kX _ e.le e.new,e.new⟩
structure dI (h h':Hp) (t:Sl) (xss:List (List Int)):Prop where
 buf: ∃ts:List Sl,Buf h' t 1 (ts.map Sl.v)/\ts.length=xss.length/\ ∀(i:Nat) (h1:i<ts.length) (h2:i<xss.length),IntS h ts[i] xss[i]
 le:h.le (h'.offS t)
theorem dI.keep {h h':Hp} {t:Sl} {xss:List (List Int)} (e:dI h h' t xss):h.le h':=Hp.le_trans e.le (aU _ _)
theorem dI.ints {h h':Hp} {t:Sl} {xss:List (List Int)} (e:dI h h' t xss) (hl:xss.length<=1048576):IntSS h' t xss:=by
 obtain⟨ts,hb,h1,h2⟩:=e.buf
 have hn:t.n=xss.length:=by have:=hb.1;simp at this;omega
 exact⟨ts,h1,hb.slc (by omega),fun i a b=>(h2 i a b).mono e.keep⟩
theorem dI.app {h h':Hp} {t u:Sl} {xss:List (List Int)} {x:List Int} {b:Nat} {K:Option Addr->Nat->Nat->Hp->Prop} (e:dI h h' t xss) (hl:xss.length<=1048576) (hu:IntS h u x) (hb:h' b=none)
  (k: ∀(t':Sl) (h'':Hp),dI h h'' t' (xss++ [x])->K t'.a t'.n t'.c h''):ck (h'.row b [u.v] 1) t.a t.n t.c (some ⟨b,0,none⟩) 1 1 24 K:=by
 have l:=fE [u.v] 1 hb
 obtain⟨ts,hbuf,h1,h2⟩:=e.buf
 have hn:t.n=xss.length:=by have:=hbuf.1;simp at this;omega
 refine dp (hbuf.mono l) (by omega) (by omega) (by omega) ⟨b,0,rfl,fun i v hi=>?_⟩ (news:= [u.v]) rfl rfl ?_
 ·cases i with
  |zero=>simp at hi;subst hi;exact rl _ _ _ _ _
  |succ i=>simp at hi
 ·intro t' h'' hn' hb' hle _
  refine k t' h'' ⟨⟨ts++ [u],by rw [List.map_append];exact hb',by simp [h1],?_⟩,Hp.le_trans (Hp.le_trans e.le (aZ t l)) hle⟩
  intro i a c
  by_cases hi:i<ts.length
  ·rw [List.getElem_append_left hi,List.getElem_append_left (by omega)];exact h2 i hi (by omega)
  ·have:i=ts.length:=by simp at a;omega
   subst this
   simp only [List.getElem_append_right (Nat.le_refl _),Nat.sub_self,List.getElem_cons_zero]
   simp only [h1,List.getElem_append_right (Nat.le_refl _),Nat.sub_self,List.getElem_cons_zero]
   exact hu
theorem gH.upd {H h':Hp} {bw n:Nat} {cs:List Value} {o:Sl} {xs:List Int} (e:gH (H.row bw cs n) h' o xs) (cs':List Value):gH (H.row bw cs' n) (h'.row bw cs' n) o xs:=by
 have hb:=e.le _ _ (bJ H bw cs n)
 have hne: ∀a,o.a=some a->a.block≠bw:=by
  intro a ha hab
  subst hab
  simp [Hp.offS,ha,Hp.off,Hp.set]at hb
 refine⟨⟨e.buf.1,e.buf.2.1,e.buf.2.2.imp id ?_⟩,?_⟩
 ·rintro ⟨c,hc,hcb⟩
  exact⟨c,hc,by rw [bX _ _ (hne _ hc)];exact hcb⟩
 ·intro c x hx
  rw [gu (fun a ha hac=>?_)]
  ·by_cases hc:c=bw
   ·subst hc;rw [bJ]at hx⊢;exact hx
   ·rw [bX _ _ hc]at hx⊢
    have:=e.le c x (by rw [bX _ _ hc];exact hx)
    exact aU _ _ _ _ this
  ·by_cases hc:c=bw
   ·exact hne a ha (hac.trans hc)
   ·rw [bX _ _ hc]at hx
    have:=e.le c x (by rw [bX _ _ hc];exact hx)
    subst hac
    simp [Hp.offS,ha,Hp.off,Hp.set]at this
def wH (S:List Int) (l:List Int):Prop:=
 (∃x∈l,x∈S)\/ ∃x∈l,∃y∈l,x≠y/\(x∉S/\ -x∉S)/\(y∉S/\ -y∉S)
def QT (S:List Int):Prop:= ∀x∈S, -x∉S
def WfL (v:Int) (l:List Int):Prop:= ∀x∈l,x≠0/\ -v<=x/\x<=v
def WfC (v:Int) (c:List (List Int)):Prop:= ∀l∈c,WfL v l
theorem ES (set:List Int): ∀(l:List Int) (left:Int),(∀x∈l,x≠0)->(left≠0->left∉set/\ -left∉set)->
  (ic set l left=(0,false)/\((∃x∈l,x∈set)\/ ∃x∈l,∃y∈left::l,y≠0/\x≠y/\(x∉set/\ -x∉set)/\(y∉set/\ -y∉set)))\/
  ((ic set l left).2=((ic set l left).1==0)/\(left≠0->(ic set l left).1=left)/\ ∀x∈l,x=(ic set l left).1\/ -x∈set):=by
 intro l
 induction l with
 |nil=>intro left _ _;exact .inr ⟨rfl,fun _=>rfl,by simp⟩
 |cons x r ih=>
  intro left hx ho
  have hr:=fun y hy=>hx y (List.mem_cons_of_mem _ hy)
  have hx0:=hx x (by simp)
  simp only [ic]
  by_cases h1:set.contains x=true
  ·rw [if_pos h1];exact .inl ⟨rfl, .inl ⟨x,by simp,by simpa using h1⟩⟩
  rw [if_neg h1]
  by_cases h2:set.contains (-x)=true
  ·rw [if_pos h2]
   rcases ih left hr ho with ⟨e,h⟩|⟨e,h,h'⟩
   ·refine .inl ⟨e,?_⟩
    rcases h with ⟨z,hz,hs⟩|⟨z,hz,y,hy,h⟩
    ·exact .inl ⟨z,by simp [hz],hs⟩
    ·refine .inr ⟨z,by simp [hz],y,?_,h⟩
     rcases List.mem_cons.1 hy with rfl|hy
     ·simp
     ·simp [hy]
   ·refine .inr ⟨e,h,?_⟩
    intro z hz
    rcases List.mem_cons.1 hz with rfl|hz
    ·exact .inr (by simpa using h2)
    ·exact h' z hz
  rw [if_neg h2]
  have hxo:x∉set/\ -x∉set:=⟨by simpa using h1,by simpa using h2⟩
  by_cases h3:(left !=0&&left !=x)=true
  ·rw [if_pos h3]
   simp at h3
   exact .inl ⟨rfl, .inr ⟨x,by simp,left,by simp,h3.1,fun e=>h3.2 e.symm,hxo,ho h3.1⟩⟩
  rw [if_neg h3]
  have hl:left≠0->left=x:=by simpa using h3
  rcases ih x hr (fun _=>hxo)with ⟨e,h⟩|⟨e,h,h'⟩
  ·refine .inl ⟨e,?_⟩
   rcases h with ⟨z,hz,hs⟩|⟨z,hz,y,hy,h⟩
   ·exact .inl ⟨z,by simp [hz],hs⟩
   ·exact .inr ⟨z,by simp [hz],y,List.mem_cons_of_mem _ hy,h⟩
  ·refine .inr ⟨e,fun h0=>?_,?_⟩
   ·rw [h hx0,hl h0]
   ·intro z hz
    rcases List.mem_cons.1 hz with rfl|hz
    ·exact .inl (h hx0).symm
    ·exact h' z hz
theorem Ua {set S l:List Int} (hs:set⊆S) (hc:QT S) (hl: ∀x∈l,x≠0) (st:wH S l):
  (ic set l 0).2=false/\((ic set l 0).1≠0->(ic set l 0).1∈S):=by
 rcases ES set l 0 hl (fun h=>absurd rfl h)with ⟨e,_⟩|⟨e,_,h⟩
 ·rw [e];exact⟨rfl,fun h=>absurd rfl h⟩
 ·obtain⟨x,hx,hn,hS⟩: ∃x∈l,x=(ic set l 0).1/\x∈S:=by
   rcases st with ⟨x,hx,hS⟩|⟨x,hx,y,hy,hne,hxo,hyo⟩
   ·rcases h x hx with h1|h1
    ·exact⟨x,hx,h1,hS⟩
    ·exact absurd (hs h1) (hc x hS)
   ·rcases h x hx with h1|h1
    ·rcases h y hy with h2|h2
     ·exact absurd (h1.trans h2.symm) hne
     ·exact absurd (hs h2) hyo.2
    ·exact absurd (hs h1) hxo.2
  rw [e,<-hn]
  exact⟨by simpa using hl x hx,fun _=>hS⟩
theorem N5 {set l:List Int} (hl: ∀x∈l,x≠0) (h1:(ic set l 0).2=false) (h2:(ic set l 0).1=0):wH set l:=by
 rcases ES set l 0 hl (fun h=>absurd rfl h)with ⟨e,h⟩|⟨e,_,h⟩
 ·refine h.imp id ?_
  rintro ⟨x,hx,y,hy,hy0,h⟩
  rcases List.mem_cons.1 hy with rfl|hy
  ·exact absurd rfl hy0
  ·exact⟨x,hx,y,hy,h⟩
 ·rw [h1,h2]at e;simp at e
theorem Lq {S:List Int} (hc:QT S): ∀(cls:List (List Int)) (set:List Int) (more:Bool),set⊆S->(∀l∈cls,(∀x∈l,x≠0)/\wH S l)->
  ∃set' more',mX cls set more=some (set',more')/\set'⊆S:=by
 intro cls
 induction cls with
 |nil=>intro set more hs _;exact⟨set,more,rfl,hs⟩
 |cons l r ih=>
  intro set more hs hl
  have h:=Ua hs hc (hl l (by simp)).1 (hl l (by simp)).2
  have hr:=fun l' h'=>hl l' (List.mem_cons_of_mem _ h')
  simp only [mX,h.1,Bool.false_eq_true,if_false]
  split
  ·rename_i hne
   refine ih _ _ ?_ hr
   intro x hx
   rcases List.mem_append.1 hx with hx|hx
   ·exact hs hx
   ·simp only [List.mem_singleton]at hx;subst hx;exact h.2 (by simpa using hne)
  ·exact ih _ _ hs hr
theorem Oq : ∀(cls:List (List Int)) (set:List Int) (more:Bool) (set':List Int) (more':Bool),mX cls set more=some (set',more')->set⊆set':=by
 intro cls
 induction cls with
 |nil=>intro set more set' more' h;simp only [mX,Option.some.injEq,Prod.mk.injEq]at h;rw [h.1];exact fun x hx=>hx
 |cons l r ih=>
  intro set more set' more' h
  simp only [mX]at h
  split at h
  ·cases h
  ·split at h
   ·exact fun x hx=>ih _ _ _ _ h (List.mem_append_left _ hx)
   ·exact ih _ _ _ _ h
theorem CO : ∀(cls:List (List Int)) (set:List Int) (more:Bool) (set':List Int),(∀l∈cls,∀x∈l,x≠0)->mX cls set more=some (set',false)->
  more=false/\set'=set/\ ∀l∈cls,wH set l:=by
 intro cls
 induction cls with
 |nil=>intro set more set' _ h;simp only [mX,Option.some.injEq,Prod.mk.injEq]at h;exact⟨h.2,h.1.symm,by simp⟩
 |cons l r ih=>
  intro set more set' hl h
  have hr:=fun l' h'=>hl l' (List.mem_cons_of_mem _ h')
  simp only [mX]at h
  split at h
  ·cases h
  ·rename_i h1
   split at h
   ·have:=(ih _ _ _ hr h).1;cases this
   ·rename_i h2
    obtain⟨e1,e2,e3⟩:=ih _ _ _ hr h
    refine⟨e1,e2,?_⟩
    intro l' h'
    rcases List.mem_cons.1 h' with rfl|h'
    ·exact N5 (hl _ (by simp)) (by simpa using h1) (by simpa using h2)
    ·exact e3 l' h'
theorem xB {cls:List (List Int)} {set:List Int} {v:Int} (hv0:0<=v) (hv:v<=10) (hc:WfC v cls) (k:qa v set):
  lb cls set=match mX cls set false with|none=>none|some (set',more)=>if more then lb cls set' else some set':=by
 rw [lb]
 cases hp:mX cls set false with
 |none=>rfl
 |some p=>
  obtain⟨set',more⟩:=p
  obtain⟨k',hl,hm⟩:=qW cls set false k hc _ _ hp
  cases more with
  |false=>rfl
  |true=>
   have h1:set.length<set'.length:=by
    rcases hm rfl with h|h
    ·cases h
    ·exact h
   have h2:=k'.len hv hv0
   simp [h1,h2]
theorem PB {S:List Int} (hS:QT S) {cls:List (List Int)} {v:Int} (hv0:0<=v) (hv:v<=10) (hc:WfC v cls) (hst: ∀l∈cls,wH S l):
  ∀(n:Nat) (set:List Int),20-set.length<=n->qa v set->set⊆S-> ∃set',lb cls set=some set'/\set'⊆S:=by
 intro n
 induction n with
 |zero=>
  intro set hn k hs
  obtain⟨set',more',hp,hs'⟩:=Lq hS cls set false hs (fun l h=>⟨fun x hx=>(hc l h x hx).1,hst l h⟩)
  obtain⟨k',hl,hm⟩:=qW cls set false k hc _ _ hp
  have h2:=k'.len hv hv0
  rw [xB hv0 hv hc k,hp]
  cases more' with
  |false=>exact⟨set',rfl,hs'⟩
  |true=>
   rcases hm rfl with h|h
   ·cases h
   ·omega
 |succ n ih=>
  intro set hn k hs
  obtain⟨set',more',hp,hs'⟩:=Lq hS cls set false hs (fun l h=>⟨fun x hx=>(hc l h x hx).1,hst l h⟩)
  obtain⟨k',hl,hm⟩:=qW cls set false k hc _ _ hp
  rw [xB hv0 hv hc k,hp]
  cases more' with
  |false=>exact⟨set',rfl,hs'⟩
  |true=>
   rcases hm rfl with h|h
   ·cases h
   ·exact ih set' (by omega) k' hs'
theorem IC {cls:List (List Int)} {v:Int} (hv0:0<=v) (hv:v<=10) (hc:WfC v cls):
  ∀(n:Nat) (set set':List Int),20-set.length<=n->qa v set->lb cls set=some set'->set⊆set'/\qa v set'/\ ∀l∈cls,wH set' l:=by
 intro n
 induction n with
 |zero=>
  intro set set' hn k h
  rw [xB hv0 hv hc k]at h
  cases hp:mX cls set false with
  |none=>rw [hp]at h;cases h
  |some p=>
   obtain⟨s,more⟩:=p
   rw [hp]at h
   obtain⟨k',hl,hm⟩:=qW cls set false k hc _ _ hp
   have h2:=k'.len hv hv0
   cases more with
   |true=>
    rcases hm rfl with h|h
    ·cases h
    ·omega
   |false=>
    simp only [Bool.false_eq_true,if_false,Option.some.injEq]at h
    subst h
    have:=CO cls set false s (fun l h x hx=>(hc l h x hx).1) hp
    rw [this.2.1]
    exact⟨fun x hx=>hx,k,this.2.2⟩
 |succ n ih=>
  intro set set' hn k h
  rw [xB hv0 hv hc k]at h
  cases hp:mX cls set false with
  |none=>rw [hp]at h;cases h
  |some p=>
   obtain⟨s,more⟩:=p
   rw [hp]at h
   obtain⟨k',hl,hm⟩:=qW cls set false k hc _ _ hp
   cases more with
   |true=>
    rcases hm rfl with h'|h'
    ·cases h'
    ·simp only [if_true]at h
     obtain⟨a,b,c⟩:=ih s set' (by omega) k' h
     exact⟨fun x hx=>a (Oq _ _ _ _ _ hp hx),b,c⟩
   |false=>
    simp only [Bool.false_eq_true,if_false,Option.some.injEq]at h
    subst h
    have:=CO cls set false s (fun l h x hx=>(hc l h x hx).1) hp
    rw [this.2.1]
    exact⟨fun x hx=>hx,k,this.2.2⟩
theorem Sw {S:List Int} (hS:QT S): ∀(g set:List Int),g⊆S->set⊆S-> ∃set',tP g set=some set'/\set'⊆S:=by
 intro g
 induction g with
 |nil=>intro set _ hs;exact⟨set,rfl,hs⟩
 |cons x r ih=>
  intro set hg hs
  have hx:x∈S:=hg (by simp)
  have hr:r⊆S:=fun y hy=>hg (List.mem_cons_of_mem _ hy)
  have hn: ¬set.contains (-x)=true:=fun h=>hS x hx (hs (by simpa using h))
  simp only [tP,if_neg hn]
  refine ih _ hr ?_
  split
  ·exact hs
  ·intro y hy
   rcases List.mem_append.1 hy with hy|hy
   ·exact hs hy
   ·simp only [List.mem_singleton]at hy;subst hy;exact hx
theorem Ru : ∀(g set set':List Int),tP g set=some set'->set⊆set'/\g⊆set':=by
 intro g
 induction g with
 |nil=>intro set set' h;simp only [tP,Option.some.injEq]at h;subst h;exact⟨fun x hx=>hx,by simp⟩
 |cons x r ih=>
  intro set set' h
  simp only [tP]at h
  split at h
  ·cases h
  ·obtain⟨h1,h2⟩:=ih _ _ h
   split at h1
   ·rename_i hx
    refine⟨h1,?_⟩
    intro y hy
    rcases List.mem_cons.1 hy with rfl|hy
    ·exact h1 (by simpa using hx)
    ·exact h2 hy
   ·refine⟨fun y hy=>h1 (List.mem_append_left _ hy),?_⟩
    intro y hy
    rcases List.mem_cons.1 hy with rfl|hy
    ·exact h1 (by simp)
    ·exact h2 hy
section
variable {cls :List (List Int)} {given:List Int} {v:Int}
theorem Mr (hv0:0<=v) (hv:v<=10) (hc:WfC v cls) (hg:WfL v given) {S:List Int} (hS:QT S) (hgS:given⊆S) (hst: ∀l∈cls,wH S l):
  ∃set,ka cls given=some set/\set⊆S:=by
 obtain⟨s,h1,h2⟩:=Sw hS given [] hgS (by simp)
 obtain⟨s',h3,h4⟩:=PB hS hv0 hv hc hst _ s (Nat.le_refl _) (Cz given [] (Mu v) hg s h1) h2
 exact⟨s',by rw [ka,h1];exact h3,h4⟩
theorem xD (hv0:0<=v) (hv:v<=10) (hc:WfC v cls) (hg:WfL v given) {set:List Int} (h:ka cls given=some set):
  QT set/\given⊆set/\(∀l∈cls,wH set l)/\qa v set:=by
 rw [ka]at h
 cases h1:tP given []with
 |none=>rw [h1]at h;cases h
 |some s=>
  rw [h1]at h
  have k:=Cz given [] (Mu v) hg s h1
  obtain⟨a,b,c⟩:=IC hv0 hv hc _ s set (Nat.le_refl _) k h
  exact⟨b.cons,fun x hx=>a ((Ru _ _ _ h1).2 hx),c,b⟩
theorem BD (hv0:0<=v) (hv:v<=10) {cls':List (List Int)} {given':List Int} (hc:WfC v cls') (hg:WfL v given') (h1:cls⊆cls') (h2:given⊆given')
  (h:ka cls given=none):ka cls' given'=none:=by
 cases h':ka cls' given' with
 |none=>rfl
 |some set=>
  obtain⟨a,b,c,_⟩:=xD hv0 hv hc hg h'
  obtain⟨s,hs,_⟩:=Mr hv0 hv (fun l hl=>hc l (h1 hl)) (fun x hx=>hg x (h2 hx)) a (fun x hx=>b (h2 hx)) (fun l hl=>c l (h1 hl))
  rw [hs]at h;cases h
end
def iZ (cls:List (List Int)) (p:List (List Int)):Prop:= ∀(i:Nat) (h:i<p.length),ka (cls++p.take i) (p[i].map (- ·))=none
theorem Gz {v:Int} {l:List Int} (h:WfL v l):WfL v (l.map (- ·)):=by
 intro x hx
 obtain⟨y,hy,rfl⟩:=List.mem_map.1 hx
 have:=h y hy
 omega
theorem wX {v:Int} {a b:List (List Int)} (ha:WfC v a) (hb:WfC v b):WfC v (a++b):=by
 intro l hl
 rcases List.mem_append.1 hl with h|h
 ·exact ha l h
 ·exact hb l h
theorem O9 {v:Int} {a:List (List Int)} (ha:WfC v a) (n:Nat):WfC v (a.take n):=fun l hl=>ha l (List.mem_of_mem_take hl)
theorem iZ.mono {v:Int} (hv0:0<=v) (hv:v<=10) {cls cls' p:List (List Int)} (hc:WfC v cls') (hp:WfC v p) (hs:cls⊆cls') (h:iZ cls p):iZ cls' p:=by
 intro i hi
 refine BD hv0 hv (wX hc (O9 hp i)) (Gz (hp _ (List.getElem_mem hi))) ?_ (fun x hx=>hx) (h i hi)
 intro l hl
 rcases List.mem_append.1 hl with h|h
 ·exact List.mem_append_left _ (hs h)
 ·exact List.mem_append_right _ h
theorem iZ.snoc {cls p:List (List Int)} {l:List Int} (h:iZ cls p) (hl:ka (cls++p) (l.map (- ·))=none):iZ cls (p++ [l]):=by
 intro i hi
 by_cases hlt:i<p.length
 ·rw [List.getElem_append_left hlt,List.take_append_of_le_length (by omega)]
  exact h i hlt
 ·have:i=p.length:=by simp at hi;omega
  subst this
  simp only [List.getElem_append_right (Nat.le_refl _),Nat.sub_self,List.getElem_cons_zero]
  rw [List.take_left' rfl];exact hl
theorem iZ.pre {cls p q:List (List Int)} (h:iZ cls p) (hq:q<+:p):iZ cls q:=by
 obtain⟨r,rfl⟩:=hq
 intro i hi
 have:=h i (by simp;omega)
 rwa [List.getElem_append_left hi,List.take_append_of_le_length (by omega)]at this
def wY (B:List Int):Prop:= ∀(i:Nat) (h:i<B.length),B[i]=(i:Int)+1\/B[i]= -((i:Int)+1)
theorem wY.snoc {B:List Int} (h:wY B) {x:Int} (hx:x=(B.length:Int)+1\/x= -((B.length:Int)+1)):wY (B++ [x]):=by
 intro i hi
 by_cases hlt:i<B.length
 ·rw [List.getElem_append_left hlt];exact h i hlt
 ·have:i=B.length:=by simp at hi;omega
  subst this
  simp only [List.getElem_append_right (Nat.le_refl _),Nat.sub_self,List.getElem_cons_zero]
  exact hx
def db :Nat->(Nat->Bool)->Nat
 |0,_=>0
 |n+1,f=>db n f+(if f n then 2^n else 0)
theorem td (n:Nat) (f:Nat->Bool):db n f<2^n:=by
 induction n with
 |zero=>simp [db]
 |succ n ih=>simp only [db,Nat.pow_succ];split<;>omega
theorem ul (n:Nat) (f:Nat->Bool): ∀i,i<n->(db n f).testBit i=f i:=by
 induction n with
 |zero=>intro i h;omega
 |succ n ih=>
  intro i hi
  have hl:=td n f
  simp only [db]
  by_cases h:i=n
  ·subst h
   cases hf:f i with
   |true=>rw [if_pos rfl,Nat.add_comm,Nat.testBit_two_pow_add_eq,Nat.testBit_lt_two_pow hl];rfl
   |false=>simp [Nat.testBit_lt_two_pow hl]
  ·cases hf:f n with
   |true=>rw [if_pos rfl,Nat.add_comm,Nat.testBit_two_pow_add_gt (by omega)];exact ih i (by omega)
   |false=>simp only [Bool.false_eq_true,if_false,Nat.add_zero];exact ih i (by omega)
structure MI (h:Hp) (K:Nat) (vars:Nat) (tb s:Sl) (ns:List Nd):Prop where
 row:h K=some (.inl ⟨[I vars,tb.v,s.v],3,false⟩)
 buf:Buf h s 3 (cP ns)
 own: ∀a,s.a=some a->a.block≠K
theorem MI.mono {h h':Hp} {K vars:Nat} {tb s:Sl} {ns:List Nd} (l:h.le h') (e:MI h K vars tb s ns):MI h' K vars tb s ns:=⟨l _ _ e.row,e.buf.mono l,e.own⟩
theorem MI.blkB {h:Hp} {K vars:Nat} {tb s:Sl} {ns:List Nd} (e:MI h K vars tb s ns): ∀b∈ [K]++s.blk,∃x,h b=some x:=by
 intro b hb
 simp only [List.cons_append,List.nil_append,List.mem_cons]at hb
 rcases hb with rfl|hb
 ·exact⟨_,e.row⟩
 ·revert b hb
  refine xM.2 fun a ha=>?_
  rcases e.buf.2.2 with ⟨h0,_⟩|⟨c,hc,hcb⟩
  ·rw [h0]at ha;cases ha
  ·rw [hc]at ha;cases ha;exact⟨_,hcb⟩
theorem MI.len {h:Hp} {K vars:Nat} {tb s:Sl} {ns:List Nd} (e:MI h K vars tb s ns):s.n=ns.length:=by
 have:=e.buf.1;rw [lM]at this;omega
def eF (h:Hp) (t:Sl) (n:Nat) (T:Nat->Bool):Prop:=rv h t ((List.range n).map T)
theorem eF.mono {h h':Hp} {t:Sl} {n:Nat} {T:Nat->Bool} (l:h.le h') (e:eF h t n T):eF h' t n T:=rv.mono l e
theorem tG {h:Hp} {c:Bool} {R:Value->Hp->Prop} (k:R (I (if c then 1 else 0)) h):ky #[.bool c] h R:=by
 apply MV
 refine uf_ ?_
 cases c<;>exact k
theorem Vk {K vars:Nat} (hvars:vars<=13) {tb:Sl} {T:Nat->Bool}: ∀(n v fixed:Nat) (h:Hp) (s:Sl) (ns:List Nd) (g:Hp) (R:Value->Hp->Prop),
  MI h K vars tb s ns->g.le h->g K=none->(∀a,s.a=some a->g a.block=none)->eF g tb (2^vars) T->v+n=vars->fixed<2^v->ns.length+2^n<=1048576->
  (∀s' h',MI h' K vars tb s' (mkD n (fun i=>T (fixed+i*2^v)) v ns).2->g.le h'->(∀a,s'.a=some a->g a.block=none)->R (I (mkD n (fun i=>T (fixed+i*2^v)) v ns).1) h')->
  ig #[.pointer (some ⟨K,0,none⟩),I v,I fixed] h R:=by
 intro n
 induction n with
 |zero=>
  intro v fixed h s ns g R inv hg gK gs ht hv hfix hlen k
  apply r6
  refine uf_ ?_
  have hvv:v=vars:=by omega
  subst hvv
  obtain⟨b,o,ha,hc⟩:=(ht.mono hg).at (i:=fixed) (by simp;exact hfix)
  have hl:=ht.len
  simp only [List.length_map,List.length_range]at hl
  simp only [vm,av inv.row,mm]
  refine aL (by simp) ?_
  simp only [vm,mm,ha,hc,hl]
  have hfi:((fixed:Nat):Int)<((2^v:Nat):Int):=by exact_mod_cast hfix
  refine⟨hfi,tG ⟨_,rfl,?_⟩⟩
  have:=k s h inv hg gs
  simp only [mkD,Nat.zero_mul,Nat.add_zero]at this
  have e0:(((List.range (2^v)).map T)[fixed]'(by simp;exact hfix))=T fixed:=by simp
  rw [e0]
  cases hT:T fixed<;>simpa [hT] using this
 |succ n ih=>
  intro v fixed h s ns g R inv hg gK gs ht hv hfix hlen k
  apply r6
  refine uf_ ?_
  have hp:2^(n+1)=2*2^n:=by rw [Nat.pow_succ];omega
  have hpv:2^(v+1)=2*2^v:=by rw [Nat.pow_succ];omega
  have hp1:0<2^n:=Nat.pow_pos (by omega)
  have hv13:2^v<=8192:=by
   have:=Nat.pow_le_pow_right (n:=2) (by omega) (show v<=13 by omega)
   simpa using this
  simp only [vm,av inv.row,mm]
  refine aA (by simp;omega) ?_
  rw [aw (by omega)]
  have elo:(fun i=>T (fixed+2*i*2^v))=fun i=>T (fixed+i*2^(v+1)):=by funext i;rw [hpv];congr 2;rw [Nat.mul_comm 2 i,Nat.mul_assoc]
  have ehi:(fun i=>T (fixed+(2*i+1)*2^v))=fun i=>T ((fixed+2^v)+i*2^(v+1)):=by
   funext i;rw [hpv];congr 1;rw [Nat.add_mul,Nat.one_mul,Nat.mul_comm 2 i,Nat.mul_assoc];omega
  have hmk:mkD (n+1) (fun i=>T (fixed+i*2^v)) v ns=
    (let r1:=mkD n (fun i=>T (fixed+i*2^(v+1))) (v+1) ns
     let r2:=mkD n (fun i=>T ((fixed+2^v)+i*2^(v+1))) (v+1) r1.2
     if r1.1=r2.1 then r2 else ji ⟨v,r1.1,r2.1⟩ r2.2):=by
   rw [<-elo,<-ehi];rfl
  have len1:=uU n (fun i=>T (fixed+i*2^(v+1))) (v+1) ns
  refine ih (v+1) fixed h s ns g _ inv hg gK gs ht (by omega) (by omega) (by omega) ?_
  intro s3 h3 inv3 lg3 gs3
  refine⟨_,rfl,?_⟩
  rw [cQ (by omega),if_neg (by omega),cg (by omega)]
  have w1:W ((fixed:Int)+((2^v:Nat):Int))=((fixed+2^v:Nat):Int):=by rw [bQ (by omega) (by omega)];omega
  rw [w1]
  have len2:=uU n (fun i=>T ((fixed+2^v)+i*2^(v+1))) (v+1) (mkD n (fun i=>T (fixed+i*2^(v+1))) (v+1) ns).2
  refine ih (v+1) (fixed+2^v) h3 s3 _ g _ inv3 lg3 gK gs3 ht (by omega) (by omega) (by omega) ?_
  intro s4 h4 inv4 lg4 gs4
  refine⟨_,rfl,?_⟩
  simp only at hmk
  generalize mkD n (fun i=>T (fixed+i*2^(v+1))) (v+1) ns=r1 at*
  generalize mkD n (fun i=>T ((fixed+2^v)+i*2^(v+1))) (v+1) r1.2=r2 at*
  refine ad (fun e=>?_) (fun e=>?_)
  ·have e':r1.1=r2.1:=by simp at e;omega
   rw [if_pos e']at hmk
   rw [hmk]at k
   rw [e']
   exact k s4 h4 inv4 lg4 gs4
  have e': ¬r1.1=r2.1:=by simp at e;omega
  rw [if_neg e']at hmk
  rw [hmk]at k
  have hnlen:r2.2.length<=1048576:=by omega
  intro b5 hb5
  have nK:=fresh_ne hb5 inv4.row
  have l5:=fE [I v,I r1.1,I r2.1] 3 hb5
  have hlen4:=inv4.len
  have hsl:SlC h4 s4 3 (cP r2.2):=inv4.buf.slc (by omega)
  refine⟨by omega,?_⟩
  refine ar r2.2.length (fun i vs h'=>vs= [.pointer (some ⟨K,0,none⟩), .pointer (some ⟨b5,0,none⟩),I i]/\h'=h4.row b5 [I v,I r1.1,I r2.1] 3/\ ∀j (hj:j<r2.2.length),j<i->r2.2[j]≠⟨v,r1.1,r2.1⟩) ⟨rfl,rfl,fun j _ h=>by omega⟩ ?_
  rintro i _ _ next hi ⟨rfl,rfl,hp⟩ hn
  refine⟨_,_,_,_,rfl,?_⟩
  simp only [vm,mm,nK,ne_eq,not_false_eq_true,av inv4.row]
  by_cases hlt:i<r2.2.length
  ·obtain⟨c,o,ha,c0,c1,c2⟩:=TJ (hsl.mono l5) hlt
   refine aL (by simp [hlen4,hlt]) ?_
   simp only [vm,mm,nK,ne_eq,not_false_eq_true,av inv4.row,hlen4,ha,c0,c1,c2]
   refine⟨by omega,ad (fun e=>?_) (fun e=>?_)⟩
   ·have he:r2.2[i]=⟨v,r1.1,r2.1⟩:=by
     have:r2.2[i].v=v/\r2.2[i].lo=r1.1/\r2.2[i].hi=r2.1:=by simp at e;omega
     rcases hh:r2.2[i]with ⟨a,b,c⟩
     rw [hh]at this
     obtain⟨rfl,rfl,rfl⟩:=this;rfl
    have hput:ji ⟨v,r1.1,r2.1⟩ r2.2=(i+2,r2.2):=by
     have:r2.2.idxOf? ⟨v,r1.1,r2.1⟩=some i:=by
      simp only [List.idxOf?,List.findIdx?_eq_some_iff_getElem]
      refine⟨hlt,by simp [he],fun j hj=>?_⟩
      have:=hp j (by omega) hj
      simpa using this
     simp [ji,this]
    rw [hput]at k
    have:=k s4 _ (inv4.mono l5) (Hp.le_trans lg4 l5) gs4
    rw [bQ (by omega) (by omega)]
    exact this
   ·rw [aw (by omega)]
    refine hn hlt _ _ ⟨rfl,rfl,fun j hj hji=>?_⟩
    by_cases hjx:j=i
    ·subst hjx
     intro he
     rw [he]at e
     simp at e
    ·exact hp j hj (by omega)
  ·have:i=r2.2.length:=by omega
   subst this
   have hput:ji ⟨v,r1.1,r2.1⟩ r2.2=(r2.2.length+2,r2.2++ [⟨v,r1.1,r2.1⟩]):=by
    have:r2.2.idxOf? ⟨v,r1.1,r2.1⟩=none:=by
     simp only [List.idxOf?,List.findIdx?_eq_none_iff]
     intro x hx
     obtain⟨j,hj,rfl⟩:=List.getElem_of_mem hx
     have:=hp j hj hj
     simpa using this
    simp [ji,this]
   rw [hput]at k
   refine aA (by simp [hlen4]) ?_
   rintro b6 ⟨n65,hb6⟩
   have nK6:=fresh_ne hb6 inv4.row
   have l6:=dP [I v,I r1.1,I r2.1] 3 (show (h4.row b5 [I v,I r1.1,I r2.1] 3) b6=none by rw [yV];exact⟨n65,hb6⟩) (Hp.le_refl _)
   have hH:h4.le ((h4.row b5 [I v,I r1.1,I r2.1] 3).row b6 [I v,I r1.1,I r2.1] 3):=Hp.le_trans l5 l6
   refine⟨by rw [bX _ _ nK6,bX _ _ nK],?_⟩
   refine dp ((inv4.buf.mono l5).mono l6) (by omega) (by omega) (by omega) ⟨b6,0,rfl,au (bJ ..)⟩ (by simp) rfl ?_
   intro s7 h7 hn7 hb7 hl7 _
   obtain⟨f7K,o7K⟩:=kR hl7 (hH _ _ inv4.row) inv4.own
   simp only [vm,mm,f7K]
   refine⟨by omega,?_⟩
   have e7:W ((s7.n:Int)+1)=((r2.2.length+2:Nat):Int):=by rw [hn7,hlen4,bQ (by omega) (by omega)];omega
   rw [e7]
   refine k s7 _ ⟨bJ ..,?_,o7K⟩ ?_ ?_
   ·rw [yO]
    refine⟨hb7.1,hb7.2.1,hb7.2.2.imp id ?_⟩
    rintro ⟨c,hc,hcb⟩
    exact⟨c,hc,by rw [bX _ _ (o7K _ hc)];exact hcb⟩
   ·intro c x hcx
    have hcB:c≠K:=fun h=>by rw [h,gK]at hcx;cases hcx
    rw [bX _ _ hcB]
    exact(kR hl7 (hH _ _ (lg4 _ _ hcx)) (fun a ha hac=>by rw [<-hac,gs4 a ha]at hcx;cases hcx)).1
   ·intro a ha
    cases hg7:g a.block with
    |none=>rfl
    |some x=>
     exact absurd rfl ((kR hl7 (hH _ _ (lg4 _ _ hg7)) (fun a' ha' hac=>by rw [<-hac,gs4 a' ha']at hg7;cases hg7)).2 a ha)
theorem We {h:Hp} {t:Sl} {n:Nat} {T:Nat->Bool} {R:Value->Hp->Prop} (hn:n<=13) (ht:eF h t (2^n) T)
  (k: ∀s h',h.le h'->Own (h'.sub h) s 3 (cP (dY n T).ns)->R (.tuple #[.agg #[I (dY n T).v,Sl.v s,I (dY n T).r], .bool (dY n T).ok]) h'):yG #[I n,t.v] h R:=by
 apply Pp
 refine uf_ ?_
 intro b4 hb4
 simp only [vm,mm]
 rintro b7 ⟨n74,hb7⟩
 have n47:=n74.symm
 have l4:=fE [I 0, .slice none 0 0,I 0] 3 hb4
 have hg7:(h.row b4 [I 0, .slice none 0 0,I 0] 3) b7=none:=by rw [yV];exact⟨n74,hb7⟩
 have l7:=fE [I n,t.v, .slice none 0 0] 3 hg7
 have h2:2^n<=8192:=by
  have:=Nat.pow_le_pow_right (n:=2) (by omega) hn
  simpa using this
 have hml:=uU n T 0 []
 simp only [List.length_nil]at hml
 have hT:(fun i=>T (0+i*2^0))=T:=by funext i;congr 1;omega
 refine Vk (K:=b7) (vars:=n) (T:=T) hn n 0 0 _ ⟨none,0,0⟩ [] (h.row b4 [I 0, .slice none 0 0,I 0] 3) _ ⟨bJ ..,eM _ _,fun a ha=>by cases ha⟩ l7 hg7 (fun a ha=>by cases ha) (ht.mono l4) (by omega) (by omega) (by simp;omega) ?_
 intro s' h' inv lg gs
 rw [hT]at inv⊢
 have f4:=lg _ _ (bJ ..)
 have hsn:=inv.len
 refine⟨_,rfl,?_⟩
 simp only [vm,mm,av inv.row,f4,hsn]
 have hto:dY n T=if 600<(mkD n T 0 []).2.length then jx else⟨n,(mkD n T 0 []).2,(mkD n T 0 []).1,true⟩:=by
  unfold dY pZ
  rw [if_pos (by omega),Int.toNat_natCast]
  split
  ·rename_i h;split at h
   ·rename_i h';rw [if_pos h']
   ·cases h
  ·rename_i r h;split at h
   ·cases h
   ·rename_i h';cases h;rw [if_neg h']
 rw [hto]at k
 refine ad (fun e=>?_) (fun e=>?_)
 ·have e':600<(mkD n T 0 []).2.length:=by simp at e;omega
  rw [if_pos e']at k
  exact⟨by omega,k ⟨none,0,0⟩ _ (dP _ _ hb4 (Hp.le_trans l4 lg)) (TI _ _)⟩
 ·have e': ¬600<(mkD n T 0 []).2.length:=by simp at e;omega
  rw [if_neg e']at k
  refine⟨by omega,k s' _ (dP _ _ hb4 (Hp.le_trans l4 lg)) (Buf.own ⟨inv.buf.1,inv.buf.2.1,inv.buf.2.2.imp id ?_⟩ (by omega))⟩
  rintro ⟨c,hc,hcb⟩
  have hgc:=gs _ hc
  rw [yV]at hgc
  exact⟨c,hc,by rw [lC hgc.2,bX _ _ hgc.1];exact hcb⟩
structure fG (g h:Hp) (bw:Nat) (v:Int) (t:Sl) (xss:List (List Int)):Prop where
 buf: ∃ts:List Sl,Buf h t 1 (ts.map Sl.v)/\ts.length=xss.length/\ ∀(i:Nat) (h1:i<ts.length) (h2:i<xss.length),IntS g ts[i] xss[i]
 le:g.le (h.offS t)
 row:h bw=some (.inl ⟨[I v,t.v],2,false⟩)
 new:g bw=none
 own: ∀a,t.a=some a->a.block≠bw
theorem cW {h:Hp} {t:Sl} {c:Nat} {x:Blk} (e:(h.offS t) c=some x):h c=some x/\ ∀a,t.a=some a->a.block≠c:=by
 refine⟨aU _ _ _ _ e,fun a ha hac=>?_⟩
 subst hac
 simp [Hp.offS,ha,Hp.off,Hp.set]at e
theorem fG.keep {g h:Hp} {bw:Nat} {v:Int} {t:Sl} {xss:List (List Int)} (e:fG g h bw v t xss):g.le h:=Hp.le_trans e.le (aU _ _)
theorem fG.len {g h:Hp} {bw:Nat} {v:Int} {t:Sl} {xss:List (List Int)} (e:fG g h bw v t xss):t.n=xss.length:=by
 obtain⟨ts,hb,h1,_⟩:=e.buf
 have:=hb.1;simp at this;omega
theorem fG.blk {g h:Hp} {bw:Nat} {v:Int} {t:Sl} {xss:List (List Int)} (e:fG g h bw v t xss): ∀a,t.a=some a-> ∃ts:List Sl,∃z,h a.block=some (.inl ⟨ts.map Sl.v,z,false⟩):=by
 intro a ha
 obtain⟨ts,hb,_,_⟩:=e.buf
 rcases hb.2.2 with ⟨h0,_⟩|⟨b,hb1,hb2⟩
 ·rw [h0]at ha;cases ha
 ·rw [hb1]at ha;cases ha;exact⟨ts,_,hb2⟩
theorem fG.to {g h g' h':Hp} {bw:Nat} {v v':Int} {t:Sl} {xss:List (List Int)} (e:fG g h bw v t xss) (l:g.le g') (l':g'.le (h'.offS t)) (hr:h' bw=some (.inl ⟨[I v',t.v],2,false⟩))
  (hbuf: ∀a,t.a=some a->h' a.block=h a.block) (hn:g' bw=none):fG g' h' bw v' t xss:=by
 obtain⟨ts,hb,h1,h2⟩:=e.buf
 refine⟨⟨ts,⟨hb.1,hb.2.1,hb.2.2.imp id ?_⟩,h1,fun i a b=>(h2 i a b).mono l⟩,l',hr,hn,e.own⟩
 rintro ⟨b,hb1,hb2⟩
 exact⟨b,hb1,(hbuf _ hb1).trans hb2⟩
theorem fG.lit {g h:Hp} {bw b n:Nat} {v:Int} {t:Sl} {xss:List (List Int)} {cs:List Value} (e:fG g h bw v t xss) (hb:h b=none):fG (g.row b cs n) (h.row b cs n) bw v t xss:=by
 have gb:g b=none:=aF e.keep hb
 have nb:=fresh_ne hb e.row
 have nt: ∀a,t.a=some a->a.block≠b:=fun a ha=>by
  obtain⟨ts,z,hx⟩:=e.blk a ha
  exact fresh_ne hb hx
 refine e.to (fE _ _ gb) ?_ (by rw [bX _ _ nb];exact e.row) (fun a ha=>bX _ _ (nt a ha)) (by rw [bX _ _ nb];exact e.new)
 intro c x hc
 by_cases h':c=b
 ·subst h'
  rw [gu nt,bJ];rw [bJ]at hc;exact hc
 ·rw [bX _ _ h']at hc
  obtain⟨h1,h2⟩:=cW (e.le _ _ hc)
  rw [gu h2,bX _ _ h'];exact h1
theorem fG.app {g h:Hp} {bw b:Nat} {v:Int} {t u:Sl} {xss:List (List Int)} {x:List Int} {K:Option Addr->Nat->Nat->Hp->Prop} (e:fG g h bw v t xss) (hl:xss.length<=1048576) (hu:IntS g u x) (hb:h b=none)
  (k: ∀(t':Sl) (h':Hp),h' bw=some (.inl ⟨[I v,t.v],2,false⟩)->(h.offS t).le (h'.offS t')->fG g (h'.row bw [I v,t'.v] 2) bw v t' (xss++ [x])->K t'.a t'.n t'.c h'):
  ck (h.row b [u.v] 1) t.a t.n t.c (some ⟨b,0,none⟩) 1 1 24 K:=by
 have l:=fE [u.v] 1 hb
 have hn:=e.len
 obtain⟨ts,hbuf,h1,h2⟩:=e.buf
 refine dp (hbuf.mono l) (by omega) (by omega) (by omega) ⟨b,0,rfl,fun i v hi=>?_⟩ (news:= [u.v]) rfl rfl ?_
 ·cases i with
  |zero=>simp at hi;subst hi;exact rl _ _ _ _ _
  |succ i=>simp at hi
 intro t' h' hn' hb' hle _
 have hle':(h.offS t).le (h'.offS t'):=Hp.le_trans (aZ t l) hle
 obtain⟨f,o⟩:=kR hle' e.row e.own
 refine k t' h' f hle' ⟨⟨ts++ [u],?_,by simp [h1],?_⟩,?_,bJ ..,e.new,o⟩
 ·rw [List.map_append]
  refine⟨hb'.1,hb'.2.1,hb'.2.2.imp id ?_⟩
  rintro ⟨c,hc,hcb⟩
  exact⟨c,hc,by rw [bX _ _ (o _ hc)];exact hcb⟩
 ·intro i a c
  by_cases hi:i<ts.length
  ·rw [List.getElem_append_left hi,List.getElem_append_left (by omega)];exact h2 i hi (by omega)
  ·have:i=ts.length:=by simp at a;omega
   subst this
   simp only [List.getElem_append_right (Nat.le_refl _),Nat.sub_self,List.getElem_cons_zero]
   simp only [h1,List.getElem_append_right (Nat.le_refl _),Nat.sub_self,List.getElem_cons_zero]
   exact hu
 ·intro c x hc
  obtain⟨h3,h4⟩:=cW (hle' _ _ (e.le _ _ hc))
  have hcb:c≠bw:=fun hh=>by rw [hh,e.new]at hc;cases hc
  rw [gu h4,bX _ _ hcb];exact h3
structure Rd (h:Hp) (B:Nat) (s:Sl) (bs:List Nat) (p:Nat):Prop where
 row:h B=some (.inl ⟨[s.v,I p],2,false⟩)
 byt:ByteS (h.off B) s bs
theorem Rd.next {h:Hp} {B:Nat} {s:Sl} {bs:List Nat} {p:Nat} (e:Rd h B s bs p) (q:Nat):Rd (h.row B [s.v,I q] 2) B s bs q:=⟨bJ ..,by rw [wQ];exact e.byt⟩
theorem Rd.to {h h':Hp} {B:Nat} {s:Sl} {bs:List Nat} {p:Nat} (e:Rd h B s bs p) (l:h.le h'):Rd h' B s bs p:=⟨l _ _ e.row,e.byt.mono (HJ _ l)⟩
theorem gH.appK {h h':Hp} {t:Sl} {set:List Int} {x:Int} {b:Nat} {K:Option Addr->Nat->Nat->Hp->Prop} (e:gH h h' t set) (hl:set.length<=1048576) (hb:h' b=none)
  (k: ∀(t':Sl) (h'':Hp),(h'.offS t).le (h''.offS t')->gH h h'' t' (set++ [x])->K t'.a t'.n t'.c h''):ck (h'.row b [I x] 1) t.a t.n t.c (some ⟨b,0,none⟩) 1 1 8 K:=by
 have l:=fE [I x] 1 hb
 exact PT (e.buf.mono l) hl (rl _ _ _ _ _) fun t' h'' hb' hl'=>k t' h'' (Hp.le_trans (aZ t l) hl') ⟨hb',Hp.le_trans (Hp.le_trans e.le (aZ t l)) hl'⟩
theorem gH.neB {g h:Hp} {o s:Sl} {xs:List Int} (e:gH g h o xs) {B p n:Nat} (hB:h B=some (.inl ⟨[s.v,I p],n,false⟩)): ∀a,o.a=some a->a.block≠B:=by
 intro a ha
 rcases e.buf.2.2 with ⟨h0,_⟩|⟨b,hb1,hb2⟩
 ·rw [h0]at ha;cases ha
 ·rw [hb1]at ha;cases ha
  refine dW hb2 hB ?_
  intro h
  simp only [Sum.inl.injEq,Row.mk.injEq]at h
  rcases xs with _|⟨x,r⟩
  ·simp at h
  ·simp [Sl.v]at h
theorem fG.neB {g h:Hp} {bw:Nat} {v:Int} {t s:Sl} {xss:List (List Int)} (e:fG g h bw v t xss) {B p n:Nat} (hB:h B=some (.inl ⟨[s.v,I p],n,false⟩)): ∀a,t.a=some a->a.block≠B:=by
 intro a ha
 obtain⟨ts,z,hx⟩:=e.blk a ha
 refine dW hx hB ?_
 intro h
 simp only [Sum.inl.injEq,Row.mk.injEq]at h
 rcases ts with _|⟨t1,_|⟨t2,r⟩⟩
 ·simp at h
 ·simp at h
 ·simp [Sl.v]at h
theorem fG.ne3 {g h:Hp} {bw:Nat} {v:Int} {t:Sl} {xss:List (List Int)} (e:fG g h bw v t xss) {B n:Nat} {x:Int} {y:List Value} (hB:h B=some (.inl ⟨I x::y,n,false⟩)): ∀a,t.a=some a->a.block≠B:=by
 intro a ha
 obtain⟨ts,z,hx⟩:=e.blk a ha
 refine dW hx hB ?_
 intro h
 simp only [Sum.inl.injEq,Row.mk.injEq]at h
 rcases ts with _|⟨t1,r⟩
 ·simp at h
 ·simp [Sl.v]at h
theorem qI {h:Hp} {t:Sl} {c:Nat} {x:Blk} (e:h c=some x) (d: ∀a,t.a=some a->a.block≠c):(h.offS t) c=some x:=by rw [gu d];exact e
structure CS (h0:Hp) (B b3 b9:Nat) (s:Sl) (c:Nat) (h:Hp) (v:Int) (t:Sl) (cls:List (List Int)):Prop where
 rd: ∃q,q<=c/\h B=some (.inl ⟨[s.v,I (q:Nat)],2,false⟩)
 r3:h b3=some (.inl ⟨[I 0, .slice none 0 0],2,false⟩)
 n39:b3≠b9
 fr:(h0.off B).le (h.offS t)
 fr9:h0 b9=none
 fr3:h0 b3=none
 gr: ∃g:Hp,(∀c x,g c=some x->h0 c=none/\c≠b3)/\fG g h b9 v t cls
section
variable {h0 h:Hp} {B b3 b9 c p0:Nat} {s t:Sl} {v:Int} {cls:List (List Int)} {bs:List Nat}
theorem CS.row (e:CS h0 B b3 b9 s c h v t cls):h b9=some (.inl ⟨[I v,t.v],2,false⟩):=by obtain⟨g,_,hg⟩:=e.gr;exact hg.row
theorem CS.frame (e:CS h0 B b3 b9 s c h v t cls):(h0.off B).le h:=Hp.le_trans e.fr (aU _ _)
theorem CS.nB9 (e:CS h0 B b3 b9 s c h v t cls):b9≠B:=by
 obtain⟨q,_,hq⟩:=e.rd
 exact dW e.row hq (by intro h;simp [Sl.v]at h)
theorem CS.nB3 (e:CS h0 B b3 b9 s c h v t cls):b3≠B:=by
 obtain⟨q,_,hq⟩:=e.rd
 exact dW e.r3 hq (by intro h;simp [Sl.v]at h)
theorem CS.app (e:CS h0 B b3 b9 s c h v t cls) (hB: ∃x,h0 B=some x) {h2:Hp} {o:Sl} {xs:List Int} {q2 c2 b:Nat} {K:Option Addr->Nat->Nat->Hp->Prop} (hl:cls.length<=1048576) (hx:xs.length<=1048576)
  (hgr:gH (h.off B) h2 o xs) (hr2:h2 B=some (.inl ⟨[s.v,I (q2:Nat)],2,false⟩)) (hq2:q2<=c2) (hb:h2 b=none)
  (k: ∀(t':Sl) (h3:Hp),h3 b9=some (.inl ⟨[I v,t.v],2,false⟩)->CS h0 B b3 b9 s c2 (h3.row b9 [I v,t'.v] 2) v t' (cls++ [xs])->K t'.a t'.n t'.c h3):
  ck (h2.row b [o.v] 1) t.a t.n t.c (some ⟨b,0,none⟩) 1 1 24 K:=by
 obtain⟨g,hg,gr⟩:=e.gr
 obtain⟨q,hq,hr⟩:=e.rd
 have base: ∀c x,h c=some x->c≠B->h2 c=some x/\ ∀a,o.a=some a->a.block≠c:=by
  intro c x hc hcB
  exact cW (hgr.le c x (by rw [Hp.off,Hp.set_ne _ _ hcB];exact hc))
 have r9:=base _ _ gr.row e.nB9
 have r3:=base _ _ e.r3 e.nB3
 have tB:=gr.neB hr
 have oB:=hgr.neB hr2
 have t3:=gr.ne3 e.r3
 have tblk: ∀a,t.a=some a->h2 a.block=h a.block/\ ∀a',o.a=some a'->a'.block≠a.block:=by
  intro a ha
  obtain⟨ts,z,hx⟩:=gr.blk a ha
  obtain⟨h1,h2⟩:=base _ _ hx (tB a ha)
  exact⟨h1.trans hx.symm,h2⟩
 have hg': ∀c x,((h2.sub h0).wo ([b9,b3]++t.blk)) c=some x->h2 c=some x/\h0 c=none/\c≠b3/\c≠b9/\ ∀a,t.a=some a->a.block≠c:=by
  intro c x hc
  have hm:c∉ [b9,b3]++t.blk:=fun hm=>by rw [eZ hm]at hc;cases hc
  rw [tU hm]at hc
  have h1:h0 c=none:=mV (by rw [hc];simp)
  rw [lC h1]at hc
  simp only [List.cons_append,List.nil_append,List.mem_cons,not_or]at hm
  exact⟨hc,h1,hm.2.1,hm.1,fun a ha hac=>hm.2.2 (by unfold Sl.blk;rw [ha];simp [hac])⟩
 have hgi: ∀c x,h2 c=some x->h0 c=none->c≠b3->c≠b9->(∀a,t.a=some a->a.block≠c)->((h2.sub h0).wo ([b9,b3]++t.blk)) c=some x:=by
  intro c x h1 h2 h3 h4 h5
  rw [tU,lC h2]
  ·exact h1
  ·simp only [List.cons_append,List.nil_append,List.mem_cons,not_or]
   refine⟨h4,h3,fun hm=>?_⟩
   unfold Sl.blk at hm
   split at hm
   ·simp at hm
   ·rename_i a ha;simp at hm;exact h5 a ha hm.symm
 have gr':fG ((h2.sub h0).wo ([b9,b3]++t.blk)) h2 b9 v t cls:=by
  refine gr.to ?_ ?_ r9.1 (fun a ha=>(tblk a ha).1) (eZ (by simp))
  ·intro c x hc
   obtain⟨g1,g2⟩:=cW (gr.le _ _ hc)
   have hn:=hg _ _ hc
   have hcB:c≠B:=fun hh=>by obtain⟨y,hy⟩:=hB;rw [hh,hy]at hn;cases hn.1
   exact hgi c x (base c x g1 hcB).1 hn.1 hn.2 (fun hh=>by rw [hh,gr.new]at hc;cases hc) g2
  ·intro c x hc
   obtain⟨g1,g2,g3,g4,g5⟩:=hg' c x hc
   exact qI g1 g5
 have hu:IntS ((h2.sub h0).wo ([b9,b3]++t.blk)) o xs:=by
  refine vD.ints ⟨hgr.buf.1,hgr.buf.2.1,hgr.buf.2.2.imp id ?_⟩ hx
  rintro ⟨d,hd,hdb⟩
  refine⟨d,hd,hgi _ _ hdb ?_ ?_ ?_ ?_⟩
  ·cases hx:h0 d with
   |none=>rfl
   |some x=>
    have hdB:d≠B:=oB _ hd
    have:=e.frame d x (by rw [Hp.off,Hp.set_ne _ _ hdB];exact hx)
    exact absurd rfl ((base d x this hdB).2 _ hd)
  ·exact r3.2 _ hd
  ·exact r9.2 _ hd
  ·intro a ha hab
   exact(tblk a ha).2 _ hd hab.symm
 refine gr'.app hl hu hb fun t' h3 f9 hk hgd=>k t' h3 f9 ?_
 have kp: ∀c x,h2 c=some x->(∀a,t.a=some a->a.block≠c)->h3 c=some x/\ ∀a,t'.a=some a->a.block≠c:=by
  intro c x h1 h2
  exact cW (hk _ _ (qI h1 h2))
 have n9: ∀a,t.a=some a->a.block≠b9:=gr.own
 refine⟨⟨q2,hq2,by rw [bX _ _ e.nB9.symm];exact(kp _ _ hr2 tB).1⟩,by rw [bX _ _ e.n39];exact(kp _ _ r3.1 t3).1,e.n39,?_,e.fr9,e.fr3,_,fun c x hc=>⟨(hg' c x hc).2.1,(hg' c x hc).2.2.1⟩,hgd⟩
 intro c x hc
 have hcB:c≠B:=fun hh=>by rw [hh,ur]at hc;cases hc
 have hc9:c≠b9:=fun hh=>by rw [hh,Hp.off,Hp.set_ne _ _ e.nB9,e.fr9]at hc;cases hc
 obtain⟨g1,g2⟩:=cW (e.fr _ _ hc)
 obtain⟨g3,g4⟩:=kp _ _ (base c x g1 hcB).1 g2
 rw [gu g4,bX _ _ hc9];exact g3
theorem CS.lit (e:CS h0 B b3 b9 s c h v t cls) {b n:Nat} {cs:List Value} (hb:h b=none):CS h0 B b3 b9 s c (h.row b cs n) v t cls:=by
 obtain⟨g,hg,gr⟩:=e.gr
 obtain⟨q,hq,hr⟩:=e.rd
 have tb: ∀{c x},(h.offS t) c=some x->((h.row b cs n).offS t) c=some x:=by
  intro c x hc
  obtain⟨h1,h2⟩:=cW hc
  rw [gu h2,bX _ _ (fresh_ne hb h1)];exact h1
 exact⟨⟨q,hq,by rw [bX _ _ (fresh_ne hb hr)];exact hr⟩,by rw [bX _ _ (fresh_ne hb e.r3)];exact e.r3,e.n39,fun c x hc=>tb (e.fr _ _ hc),e.fr9,e.fr3,g,hg,
  gr.to (Hp.le_refl _) (fun c x hc=>tb (gr.le _ _ hc)) (by rw [bX _ _ (fresh_ne hb gr.row)];exact gr.row) (fun a ha=>by
   obtain⟨ts,z,hx⟩:=gr.blk a ha
   exact bX _ _ (fresh_ne hb hx)) gr.new⟩
end
theorem dI.up {h h' h'':Hp} {t:Sl} {xss:List (List Int)} (e:dI h h' t xss) (l:h'.le h''):dI h h'' t xss:=by
 obtain⟨ts,h1,h2,h3⟩:=e.buf
 exact⟨⟨ts,h1.mono l,h2,h3⟩,Hp.le_trans e.le (aZ t l)⟩
def mF (v:Int) (cls p:List (List Int)):Bool:=eo v cls&&(decide (p.length<=300)&&p.all (gO v))
theorem mF.iff {v:Int} {cls p:List (List Int)}:mF v cls p=true↔eo v cls=true/\p.length<=300/\ ∀l∈p,gO v l=true:=by
 simp [mF,List.all_eq_true]
theorem dI.len {g h:Hp} {o:Sl} {out:List (List Int)} (e:dI g h o out):o.n=out.length:=by
 obtain⟨ts,hb,h1,_⟩:=e.buf
 have:=hb.1;simp at this;omega
theorem dI.base {g g2 h:Hp} {o:Sl} {out:List (List Int)} (e:dI g h o out) (l:g.le g2) (l2:g2.le (h.offS o)):dI g2 h o out:=by
 obtain⟨ts,h1,h2,h3⟩:=e.buf
 exact⟨⟨ts,h1,h2,fun i a b=>(h3 i a b).mono l⟩,l2⟩
theorem dI.blk {g h:Hp} {o:Sl} {out:List (List Int)} (e:dI g h o out): ∀a,o.a=some a-> ∃x,h a.block=some x:=by
 intro a ha
 obtain⟨ts,hb,_,_⟩:=e.buf
 rcases hb.2.2 with ⟨h0,_⟩|⟨b,hb1,hb2⟩
 ·rw [h0]at ha;cases ha
 ·rw [hb1]at ha;cases ha;exact⟨_,hb2⟩
theorem gH.apart {h2 h3:Hp} {u o:Sl} {xs:List Int} (hg:gH h2 h3 u xs) (ho: ∀a,o.a=some a-> ∃x,h2 a.block=some x): ∀a a',u.a=some a->o.a=some a'->a.block≠a'.block:=by
 intro a a' ha ha'
 obtain⟨x,hx⟩:=ho a' ha'
 exact(cW (hg.le _ _ hx)).2 a ha
theorem gH.offS {h2 h3:Hp} {u o:Sl} {xs:List Int} (hg:gH h2 h3 u xs) (ho: ∀a,o.a=some a-> ∃x,h2 a.block=some x):vD (h3.offS o) u xs:=by
 refine⟨hg.buf.1,hg.buf.2.1,hg.buf.2.2.imp id ?_⟩
 rintro ⟨b,hb1,hb2⟩
 exact⟨b,hb1,qI hb2 fun a ha=>(hg.apart ho _ a hb1 ha).symm⟩
theorem IntS.one {h:Hp} {b:Nat} {x:Int} {n:Nat} {ro:Bool} (e:h b=some (.inl ⟨[I x],n,ro⟩)):IntS h ⟨some ⟨b,0,none⟩,1,1⟩ [x]:=⟨by simp,by simp, .inr ⟨b,0,rfl,au e⟩⟩
theorem dI.appK {g h:Hp} {t u:Sl} {xss:List (List Int)} {x:List Int} {b:Nat} {K:Option Addr->Nat->Nat->Hp->Prop} (e:dI g h t xss) (hl:xss.length<=1048576) (hu:IntS g u x) (hb:h b=none)
  (k: ∀(t':Sl) (h'':Hp),(h.offS t).le (h''.offS t')->dI g h'' t' (xss++ [x])->K t'.a t'.n t'.c h''):ck (h.row b [u.v] 1) t.a t.n t.c (some ⟨b,0,none⟩) 1 1 24 K:=by
 have l:=fE [u.v] 1 hb
 have hn:=e.len
 obtain⟨ts,hbuf,h1,h2⟩:=e.buf
 refine dp (hbuf.mono l) (by omega) (by omega) (by omega) ⟨b,0,rfl,fun i v hi=>?_⟩ (news:= [u.v]) rfl rfl ?_
 ·cases i with
  |zero=>simp at hi;subst hi;exact rl _ _ _ _ _
  |succ i=>simp at hi
 ·intro t' h'' hn' hb' hle _
  have hle':(h.offS t).le (h''.offS t'):=Hp.le_trans (aZ t l) hle
  refine k t' h'' hle' ⟨⟨ts++ [u],by rw [List.map_append];exact hb',by simp [h1],?_⟩,Hp.le_trans e.le hle'⟩
  intro i a c
  by_cases hi:i<ts.length
  ·rw [List.getElem_append_left hi,List.getElem_append_left (by omega)];exact h2 i hi (by omega)
  ·have:i=ts.length:=by simp at a;omega
   subst this
   simp only [List.getElem_append_right (Nat.le_refl _),Nat.sub_self,List.getElem_cons_zero]
   simp only [h1,List.getElem_append_right (Nat.le_refl _),Nat.sub_self,List.getElem_cons_zero]
   exact hu
theorem dI.neB {g h:Hp} {t s:Sl} {xss:List (List Int)} (e:dI g h t xss) {B p n:Nat} (hB:h B=some (.inl ⟨[s.v,I p],n,false⟩)): ∀a,t.a=some a->a.block≠B:=by
 intro a ha
 obtain⟨ts,hb,_,_⟩:=e.buf
 rcases hb.2.2 with ⟨h0,_⟩|⟨c,hc,hcb⟩
 ·rw [h0]at ha;cases ha
 ·rw [hc]at ha;cases ha
  refine dW hcb hB ?_
  intro h
  simp only [Sum.inl.injEq,Row.mk.injEq]at h
  rcases ts with _|⟨t1,_|⟨t2,r⟩⟩
  ·simp at h
  ·simp at h
  ·simp [Sl.v]at h
structure PS (h:Hp) (B:Nat) (s:Sl) (c:Nat) (g h':Hp) (t:Sl) (res:List (List Int)):Prop where
 rd: ∃q,q<=c/\h' B=some (.inl ⟨[s.v,I (q:Nat)],2,false⟩)
 gr:dI g h' t res
 new: ∀c x,g c=some x->h c=none
 fr:(h.off B).le (h'.offS t)
section
variable {h g h':Hp} {B c:Nat} {s t:Sl} {res:List (List Int)} {bs:List Nat}
theorem PS.frame (e:PS h B s c g h' t res):(h.off B).le h':=Hp.le_trans e.fr (aU _ _)
theorem PS.lit (e:PS h B s c g h' t res) (hB: ∃x,h B=some x) {b n:Nat} {cs:List Value} (hb:h' b=none):PS h B s c (g.row b cs n) (h'.row b cs n) t res:=by
 obtain⟨q,hq,hr⟩:=e.rd
 have nB:=fresh_ne hb hr
 have hb0:h b=none:=by
  cases hx:h b with
  |none=>rfl
  |some x=>
   have:=e.frame b x (by rw [Hp.off,Hp.set_ne _ _ nB.symm];exact hx)
   rw [hb]at this;cases this
 have tb: ∀a,t.a=some a->a.block≠b:=fun a ha=>by
  obtain⟨x,hx⟩:=e.gr.blk a ha
  exact fresh_ne hb hx
 have key: ∀c x,c≠b->(h'.offS t) c=some x->((h'.row b cs n).offS t) c=some x:=by
  intro c x hcB hc
  obtain⟨h1,h2⟩:=cW hc
  rw [gu h2,bX _ _ hcB];exact h1
 have gb:g b=none:=aF e.gr.keep hb
 refine⟨⟨q,hq,by rw [bX _ _ nB];exact hr⟩,(e.gr.up (fE cs n hb)).base (fE _ _ gb) ?_,?_,fun c x hc=>key c x (fun hh=>by rw [hh,Hp.off,Hp.set_ne _ _ nB.symm,hb0]at hc;cases hc) (e.fr _ _ hc)⟩
 ·intro c x hc
  by_cases hcb:c=b
  ·subst hcb
   rw [bJ]at hc
   rw [gu tb,bJ];exact hc
  ·rw [bX _ _ hcb]at hc
   exact key c x hcb (e.gr.le _ _ hc)
 ·intro c x hc
  by_cases hcb:c=b
  ·subst hcb;exact hb0
  ·rw [bX _ _ hcb]at hc;exact e.new _ _ hc
theorem PS.app {u:Sl} {x:List Int} {b:Nat} {K:Option Addr->Nat->Nat->Hp->Prop} (e:PS h B s c g h' t res) (hl:res.length<=1048576) (hu:IntS g u x) (hb:h' b=none)
  (k: ∀(t':Sl) (h'':Hp),PS h B s c g h'' t' (res++ [x])->K t'.a t'.n t'.c h''):ck (h'.row b [u.v] 1) t.a t.n t.c (some ⟨b,0,none⟩) 1 1 24 K:=by
 obtain⟨q,hq,hr⟩:=e.rd
 exact e.gr.appK hl hu hb fun t' h'' hk gr=>k t' h'' ⟨⟨q,hq,(cW (hk _ _ (qI hr (e.gr.neB hr)))).1⟩,gr,e.new,Hp.le_trans e.fr hk⟩
theorem PS.put {u:Sl} {x:List Int} {i:Nat} (e:PS h B s c g h' t res) (hi:i<res.length) (hu:IntS g u x): ∃b cs z,t.a=some ⟨b,0,none⟩/\h' b=some (.inl ⟨cs,z,false⟩)/\cs.length=res.length/\
  PS h B s c g (h'.row b (cs.set i u.v) z) t (res.set i x):=by
 obtain⟨q,hq,hr⟩:=e.rd
 have hn:=e.gr.len
 have tB:=e.gr.neB hr
 obtain⟨ts,hb,h1,h2⟩:=e.gr.buf
 rcases hb.2.2 with ⟨_,h0,_⟩|⟨b,hb1,hb2⟩
 ·omega
 refine⟨b,_,_,hb1,hb2,by simp [h1],⟨q,hq,by rw [bX _ _ (tB _ hb1).symm];exact hr⟩,⟨⟨ts.set i u,⟨by simp;have:=hb.1;simp at this;omega,hb.2.1, .inr ⟨b,hb1,?_⟩⟩,by simp [h1],?_⟩,?_⟩,e.new,?_⟩
 ·rw [bJ,List.map_set]
 ·intro j a b
  rw [List.getElem_set,List.getElem_set]
  split
  ·exact hu
  ·exact h2 j (by simpa using a) (by simpa using b)
 ·intro c x hc
  obtain⟨g1,g2⟩:=cW (e.gr.le _ _ hc)
  rw [gu g2,bX _ _ (fun hh=>g2 _ hb1 hh.symm)];exact g1
 ·intro c x hc
  obtain⟨g1,g2⟩:=cW (e.fr _ _ hc)
  rw [gu g2,bX _ _ (fun hh=>g2 _ hb1 hh.symm)];exact g1
end
def jO (w:Nat) (n:Int):Nat:=(n%((2^w:Nat):Int)).toNat
def sgn (w a:Nat):Int:=if 2^(w-1)<=a then(a:Int)-((2^w:Nat):Int)else a
theorem bL (w:Nat):0<2^w:=Nat.pow_pos (by omega)
theorem jJ (w:Nat) (n:Int):jO w n<2^w:=by
 unfold jO
 have h:=Int.emod_lt_of_pos n (b:=((2^w:Nat):Int)) (Int.ofNat_lt.2 (bL w))
 have h0:=Int.emod_nonneg n (b:=((2^w:Nat):Int)) (by have:=bL w;omega)
 omega
theorem oK (w a:Nat):jO w (a:Int)=a%2^w:=by
 unfold jO
 rw [<-Int.natCast_emod,Int.toNat_natCast]
theorem GQ (w:Nat) (n:Int):((jO w n:Nat):Int)=n%((2^w:Nat):Int):=by
 unfold jO
 have h0:=Int.emod_nonneg n (b:=((2^w:Nat):Int)) (by have:=bL w;omega)
 omega
theorem rx {w:Nat} (h:1<=w):2^w=2*2^(w-1):=by
 obtain⟨n,rfl⟩: ∃n,w=n+1:=⟨w-1,by omega⟩
 rw [Nat.pow_succ,Nat.add_sub_cancel];omega
theorem LZ {w a:Nat} (h:1<=w) (ha:a<2^w): -((2^(w-1):Nat):Int)<=sgn w a/\sgn w a<((2^(w-1):Nat):Int):=by
 have:=rx h
 unfold sgn;split<;>omega
theorem W8 {w:Nat} (h:1<=w) (n:Int):sgn w (jO w n)=n↔ -((2^(w-1):Nat):Int)<=n/\n<((2^(w-1):Nat):Int):=by
 have hp:=rx h
 have hl:=jJ w n
 have hb:=LZ h hl
 constructor
 ·intro e;rw [e]at hb;exact hb
 ·rintro ⟨h1,h2⟩
  have hc:=GQ w n
  have h3:n%((2^w:Nat):Int)=if n<0 then n+((2^w:Nat):Int)else n:=by
   split
   ·rw [<-Int.add_emod_right,Int.emod_eq_of_lt (by omega) (by omega)]
   ·rw [Int.emod_eq_of_lt (by omega) (by omega)]
  rw [h3]at hc
  unfold sgn
  split at hc<;>split<;>omega
theorem jR {w x:Nat} {f:Nat->Bool} (hx:x<2^w) (h: ∀i,i<w->x.testBit i=f i):db w f=x:=by
 apply Nat.eq_of_testBit_eq
 intro i
 by_cases hi:i<w
 ·rw [ul _ _ _ hi,h i hi]
 ·rw [Nat.testBit_lt_two_pow (Nat.lt_of_lt_of_le (td w f) (Nat.pow_le_pow_right (by omega) (by omega))),
   Nat.testBit_lt_two_pow (Nat.lt_of_lt_of_le hx (Nat.pow_le_pow_right (by omega) (by omega)))]
theorem ut {w:Nat} {f g:Nat->Bool} (h: ∀i,i<w->f i=g i):db w f=db w g:=jR (td _ _) fun i hi=>by rw [ul _ _ _ hi,h i hi]
theorem Ro {w p:Nat} {f:Nat->Bool} (hp:p<w) (hf:f p=false):db w f+2^p=db w (fun i=>f i||decide (i=p)):=by
 induction w with
 |zero=>omega
 |succ w ih=>
  simp only [db]
  by_cases h:p=w
  ·subst h
   have:db p (fun i=>f i||decide (i=p))=db p f:=ut fun i hi=>by simp;omega
   rw [this];simp [hf]
  ·have:=ih (by omega)
   have e:(f w||decide (w=p))=f w:=by simp;omega
   simp only [e]
   omega
def j7 :Nat->Nat->Nat
 |0,_=>0
 |w+1,a=>j7 w a+(if a.testBit w then 1 else 0)
theorem Qo (w a:Nat):j7 w a<=w:=by
 induction w with
 |zero=>simp [j7]
 |succ w ih=>simp only [j7];split<;>omega
theorem Sa {w a:Nat} (ha:a<2^w):j7 w a=w↔a=2^w-1:=by
 have key: ∀w,j7 w a=w↔ ∀i,i<w->a.testBit i=true:=by
  intro w
  induction w with
  |zero=>simp [j7]
  |succ w ih=>
   have:=Qo w a
   simp only [j7]
   constructor
   ·intro h i hi
    by_cases hw:a.testBit w=true
    ·rw [if_pos hw]at h
     by_cases hiw:i=w
     ·subst hiw;exact hw
     ·exact ih.1 (by omega) i (by omega)
    ·rw [if_neg hw]at h;omega
   ·intro h
    rw [if_pos (h w (by omega)),ih.2 fun i hi=>h i (by omega)]
 rw [key]
 constructor
 ·intro h
  apply Nat.eq_of_testBit_eq
  intro i
  rw [Nat.testBit_two_pow_sub_one]
  by_cases hi:i<w
  ·rw [h i hi];simp [hi]
  ·rw [Nat.testBit_lt_two_pow (Nat.lt_of_lt_of_le ha (Nat.pow_le_pow_right (by omega) (by omega)))];simp [hi]
 ·rintro rfl i hi
  rw [Nat.testBit_two_pow_sub_one];simpa using hi
theorem Jy {w a b:Nat} (ha:a<2^w):db w (fun i=>a.testBit i&&b.testBit i)=a&&&b:=
 jR (Nat.lt_of_le_of_lt Nat.and_le_left ha) fun i _=>by rw [Nat.testBit_and]
theorem Tx {w a b:Nat} (ha:a<2^w) (hb:b<2^w):db w (fun i=>a.testBit i||b.testBit i)=a|||b:=
 jR (Nat.or_lt_two_pow ha hb) fun i _=>by rw [Nat.testBit_or]
theorem ZE {w a b:Nat} (ha:a<2^w) (hb:b<2^w):db w (fun i=>a.testBit i^^b.testBit i)=a^^^b:=
 jR (Nat.xor_lt_two_pow ha hb) fun i _=>by rw [Nat.testBit_xor]
def abT (w a b:Nat):Nat:=a*2^min b w%2^w
def abV (w a b:Nat):Nat:=a/2^min b w
def abi (w a b:Nat):Nat:=jO w (sgn w a/((2^min b w:Nat):Int))
theorem YD {w a b:Nat}:db w (fun i=>decide (b<=i)&&a.testBit (i-b))=abT w a b:=by
 unfold abT
 refine jR (Nat.mod_lt _ (bL w)) fun i hi=>?_
 rw [Nat.testBit_mod_two_pow,Nat.mul_comm,Nat.testBit_two_pow_mul]
 have:decide (i<w)=true:=by simpa using hi
 rw [this,Bool.true_and]
 by_cases h:b<=i
 ·rw [Nat.min_eq_left (by omega)]
 ·have h1:decide (b<=i)=false:=by simpa using h
  have h2:decide (min b w<=i)=false:=by simp;omega
  simp [h1,h2]
theorem YR {w a b:Nat} (ha:a<2^w):db w (fun i=>decide (i+b<w)&&a.testBit (i+b))=abV w a b:=by
 unfold abV
 refine jR (Nat.lt_of_le_of_lt (Nat.div_le_self _ _) ha) fun i hi=>?_
 rw [Nat.testBit_div_two_pow]
 by_cases h:i+b<w
 ·rw [Nat.min_eq_left (by omega)];simp [h]
 ·have h1:decide (i+b<w)=false:=by simpa using h
  rw [h1,Bool.false_and]
  refine Nat.testBit_lt_two_pow (Nat.lt_of_lt_of_le ha (Nat.pow_le_pow_right (by omega) ?_))
  omega
theorem Xx {w a b:Nat} (hw:1<=w) (hw16:w<=16) (ha:a<2^w):db w (fun i=>if i+b<w then a.testBit (i+b)else a.testBit (w-1))=abi w a b:=by
 have hp:=rx hw
 have top:a.testBit (w-1)=decide (2^(w-1)<=a):=by
  rw [Nat.testBit_eq_decide_div_mod_eq]
  by_cases h:2^(w-1)<=a
  ·have:a/2^(w-1)=1:=by
    rw [Nat.div_eq_iff (bL _)];omega
   simp [this,h]
  ·have:a/2^(w-1)=0:=Nat.div_eq_of_lt (by omega)
   simp [this,h]
 have hb:min b w<=w:=Nat.min_le_right _ _
 have small: ∀i,i<w->i+b<w->min b w=b:=fun i _ h=>Nat.min_eq_left (by omega)
 unfold abi
 refine jR (jJ _ _) fun i hi=>?_
 by_cases hs:2^(w-1)<=a
 ·--with the sign
  have e1:sgn w a=(a:Int)-((2^w:Nat):Int):=by unfold sgn;rw [if_pos hs]
  have e2:jO w (sgn w a/((2^min b w:Nat):Int))=((a+2^w*(2^16-1))/2^min b w)%2^w:=by
   have h1:sgn w a=((a+2^w*(2^16-1):Nat):Int)-((2^min b w:Nat):Int)*((2^(w+16-min b w):Nat):Int):=by
    have h2:2^min b w*2^(w+16-min b w)=2^w*2^16:=by rw [<-Nat.pow_add,<-Nat.pow_add];congr 1;omega
    rw [e1,<-Int.natCast_mul,h2]
    have:2^w*(2^16-1)+2^w=2^w*2^16:=by rw [<-Nat.mul_succ]
    omega
   have hpos:((2^min b w:Nat):Int)≠0:=by have:=bL (min b w);omega
   have h3:sgn w a/((2^min b w:Nat):Int)=(((a+2^w*(2^16-1))/2^min b w:Nat):Int)-((2^w:Nat):Int)*((2^(16-min b w):Nat):Int):=by
    rw [h1,Int.sub_eq_add_neg,<-Int.mul_neg,Int.add_mul_ediv_left _ _ hpos,<-Int.natCast_ediv]
    have:2^(w+16-min b w)=2^w*2^(16-min b w):=by rw [<-Nat.pow_add];congr 1;omega
    rw [this,Int.natCast_mul];omega
   rw [h3]
   unfold jO
   rw [Int.sub_mul_emod_self_left,<-Int.natCast_emod,Int.toNat_natCast]
  rw [e2,Nat.testBit_mod_two_pow,Nat.testBit_div_two_pow,Nat.add_comm a,Nat.testBit_two_pow_mul_add _ ha]
  have hd:decide (i<w)=true:=by simpa using hi
  rw [hd,Bool.true_and]
  by_cases h:i+b<w
  ·have hm:=small i hi h
   rw [if_pos h,hm,if_pos (by omega)]
  ·have hm: ¬i+min b w<w:=by omega
   rw [if_neg h,if_neg hm,Nat.testBit_two_pow_sub_one,top]
   simp only [hs,decide_true,decide_eq_true_eq]
   omega
 ·have e1:sgn w a=a:=by unfold sgn;rw [if_neg hs]
  rw [e1,<-Int.natCast_ediv,oK,Nat.testBit_mod_two_pow,Nat.testBit_div_two_pow]
  have hd:decide (i<w)=true:=by simpa using hi
  rw [hd,Bool.true_and]
  by_cases h:i+b<w
  ·rw [if_pos h,small i hi h]
  ·rw [if_neg h,top]
   have hm: ¬i+min b w<w:=by omega
   have:decide (2^(w-1)<=a)=false:=by simpa using hs
   rw [this]
   exact Nat.testBit_lt_two_pow (Nat.lt_of_lt_of_le ha (Nat.pow_le_pow_right (by omega) (by omega)))
def HE (w a k:Nat):Nat:=((a*2^k)|||(a/2^(w-k)))%2^w
theorem abr {w a k i:Nat} (ha:a<2^w) (hk:k<w) (hi:i<w):(HE w a k).testBit i=a.testBit ((i+(w-k))%w):=by
 unfold HE
 rw [Nat.testBit_mod_two_pow,Nat.testBit_or,Nat.mul_comm,Nat.testBit_two_pow_mul,Nat.testBit_div_two_pow]
 have hd:decide (i<w)=true:=by simpa using hi
 rw [hd,Bool.true_and]
 by_cases h:k<=i
 ·have e:(i+(w-k))%w=i-k:=by
   have:i+(w-k)=(i-k)+w:=by omega
   rw [this,Nat.add_mod_right,Nat.mod_eq_of_lt (by omega)]
  have z:a.testBit (i+(w-k))=false:=Nat.testBit_lt_two_pow (Nat.lt_of_lt_of_le ha (Nat.pow_le_pow_right (by omega) (by omega)))
  rw [e,z];simp [h]
 ·have e:(i+(w-k))%w=i+(w-k):=Nat.mod_eq_of_lt (by omega)
  rw [e]
  have:decide (k<=i)=false:=by simpa using h
  rw [this];simp
theorem aal {w a k:Nat} (ha:a<2^w) (hk:k<w):db w (fun j=>a.testBit ((j+(w-k))%w))=HE w a k:=
 jR (Nat.mod_lt _ (bL w)) fun i hi=>abr ha hk hi
theorem Vb {w a k i:Nat} (hk:k<w) (hi:i<w):
  db w (fun j=>decide ((j+(w-k))%w<i)&&a.testBit ((j+(w-k))%w))+(if a.testBit i then 2^((i+k)%w)else 0)=
   db w (fun j=>decide ((j+(w-k))%w<i+1)&&a.testBit ((j+(w-k))%w)):=by
 have hpw:(i+k)%w<w:=Nat.mod_lt _ (by omega)
 have back:((i+k)%w+(w-k))%w=i:=by
  rw [Nat.mod_add_mod]
  have:i+k+(w-k)=i+w:=by omega
  rw [this,Nat.add_mod_right,Nat.mod_eq_of_lt hi]
 have inj: ∀j,j<w->((j+(w-k))%w=i↔j=(i+k)%w):=by
  intro j hj
  constructor
  ·intro h
   have:(j+(w-k)+k)%w=(i+k)%w:=by rw [<-h,Nat.mod_add_mod]
   rw [<-this]
   have:j+(w-k)+k=j+w:=by omega
   rw [this,Nat.add_mod_right,Nat.mod_eq_of_lt hj]
  ·rintro rfl;exact back
 cases hb:a.testBit i with
 |false=>
  simp only [Bool.false_eq_true,if_false,Nat.add_zero]
  refine ut fun j hj=>?_
  by_cases h:(j+(w-k))%w=i
  ·rw [h,hb];simp
  ·have:decide ((j+(w-k))%w<i+1)=decide ((j+(w-k))%w<i):=by
    rw [decide_eq_decide];omega
   rw [this]
 |true=>
  simp only [if_true]
  rw [Ro hpw (by rw [back];simp)]
  refine ut fun j hj=>?_
  by_cases h:j=(i+k)%w
  ·have h2:=(inj j hj).2 h
   rw [h2,hb];simp [h]
  ·have h2: ¬(j+(w-k))%w=i:=fun e=>h ((inj j hj).1 e)
   have:decide ((j+(w-k))%w<i+1)=decide ((j+(w-k))%w<i):=by
    rw [decide_eq_decide];omega
   rw [this];simp [h]
def zl (kind:Int) (w a:Nat):Nat×Nat:=
 if kind=1 then(2^w-1-a,w)else if kind=2 then(jO w (-(a:Int)),w)else if kind=3 then(if a=0 then 0 else 1,1)else
 if kind=4 then(if a=2^w-1 then 1 else 0,1)else(j7 w a%2,1)
def LL (w a b:Nat):Nat:=if sgn w b=0 then(if sgn w a<0 then 1 else 2^w-1)else jO w (Int.tdiv (sgn w a) (sgn w b))
def LK (w a b:Nat):Nat:=if sgn w b=0 then a else jO w (Int.tmod (sgn w a) (sgn w b))
def Fd (kind:Int) (w a b:Nat):Bool:=
 if kind=21 then decide (a=b)else if kind=22 then decide (a<b)else if kind=23 then decide (sgn w a<sgn w b)else
 if kind=24 then decide (a<=b)else if kind=25 then decide (sgn w a<=sgn w b)else if kind=26 then decide (2^w<=a+b)else
 if kind=27 then !decide (-((2^(w-1):Nat):Int)<=sgn w a+sgn w b/\sgn w a+sgn w b<((2^(w-1):Nat):Int))else decide (2^w<=a*b)
def HL (kind:Int) (w a b:Nat):Nat:=
 if kind=6 then a&&&b else if kind=7 then a|||b else if kind=8 then a^^^b else if kind=9 then jO w ((a:Int)+b)else
 if kind=10 then jO w ((a:Int)-b)else if kind=11 then jO w ((a:Int)*b)else if kind=12 then(if b=0 then 2^w-1 else a/b)else
 if kind=13 then(if b=0 then a else a%b)else if kind=14 then LL w a b else if kind=15 then LK w a b else
 if kind=16 then abT w a b else if kind=17 then abV w a b else if kind=18 then abi w a b else if kind=19 then HE w a (b%w)else HE w a ((w-b%w)%w)
def t5 (kind:Int) (w a b:Nat):Nat×Nat:=if kind<=20 then(HL kind w a b,w)else(if Fd kind w a b then 1 else 0,1)
theorem acw {kind:Int} {w a:Nat} (hw:1<=w) (ha:a<2^w):(zl kind w a).1<2^(zl kind w a).2:=by
 have:=bL w
 unfold zl
 split
 ·simp only;omega
 ·split
  ·exact jJ _ _
  ·split
   ·simp only;split<;>omega
   ·split
    ·simp only;split<;>omega
    ·simp only;omega
theorem TR (w a k:Nat):HE w a k<2^w:=Nat.mod_lt _ (bL w)
theorem km {c:Prop} [Decidable c] {x y n:Nat} (hx:x<n) (hy:y<n):(if c then x else y)<n:=by
 by_cases h:c
 ·rw [if_pos h];exact hx
 ·rw [if_neg h];exact hy
theorem Z1 {kind:Int} {w a b:Nat} (hw:1<=w) (ha:a<2^w) (hb:b<2^w):HL kind w a b<2^w:=by
 have hp:=bL w
 have hp1:1<2^w:=by
  have:=rx hw;have:=bL (w-1);omega
 unfold HL
 refine km (Nat.lt_of_le_of_lt Nat.and_le_left ha) (km (Nat.or_lt_two_pow ha hb) (km (Nat.xor_lt_two_pow ha hb) (km (jJ _ _) (km (jJ _ _) (km (jJ _ _)
  (km (km (by omega) (Nat.lt_of_le_of_lt (Nat.div_le_self _ _) ha)) (km (km ha (Nat.lt_of_le_of_lt (Nat.mod_le _ _) ha)) (km ?_ (km ?_ (km (Nat.mod_lt _ hp)
  (km (Nat.lt_of_le_of_lt (Nat.div_le_self _ _) ha) (km (jJ _ _) (km (TR _ _ _) (TR _ _ _))))))))))))))
 ·unfold LL
  exact km (km hp1 (by omega)) (jJ _ _)
 ·unfold LK
  exact km ha (jJ _ _)
theorem acu {kind:Int} {w a b:Nat} (hw:1<=w) (ha:a<2^w) (hb:b<2^w):(t5 kind w a b).1<2^(t5 kind w a b).2:=by
 unfold t5
 split
 ·exact Z1 hw ha hb
 ·simp only;split<;>omega
theorem afq {w a b:Nat} (hw:1<=w):(sgn w (jO w (sgn w a+sgn w b))≠sgn w a+sgn w b)↔ ¬(-((2^(w-1):Nat):Int)<=sgn w a+sgn w b/\sgn w a+sgn w b<((2^(w-1):Nat):Int)):=by
 rw [ne_eq,W8 hw]
structure SortP where
 idx:Int
 wid:Int
 deriving DecidableEq
structure NodeP where
 kind:Int
 a:Int
 b:Int
 c:Int
 n:Int
 m:Int
 sort:SortP
 name:ByteArray
structure BindP where
 state:Int
 node:Int
 deriving DecidableEq
structure ah where
 nodes:List NodeP
 inits:List BindP
 nexts:List BindP
 bads:List Int
 holds:List Int
def bO (s:SortP):Bool:=decide ((0<=s.idx/\s.idx<=2)/\(1<=s.wid/\s.wid<=16))
def cX (s:SortP):Nat:=if bO s then 2^s.idx.toNat else 0
def dx (s:SortP):Nat:=cX s*s.wid.toNat
def cO (w:Int):SortP:=⟨0,w⟩
def ak (kind:Int):Int:=
 if(1<=kind/\kind<=5)\/(30<=kind/\kind<=32)then 1 else if(6<=kind/\kind<=29)\/kind=37 then 2 else if kind=33\/kind=38 then 3 else
 if 34<=kind/\kind<=36 then 0 else-1
def iq (c:UInt8):Bool:=decide (97<=c.toNat/\c.toNat<=122)
def pF (c:UInt8):Bool:=decide (48<=c.toNat/\c.toNat<=57)
def gw (s:ByteArray):Bool:=decide (1<=s.size/\s.size<=8)&&(match s.data.toList with| []=>false|c::r=>iq c&&r.all fun c=>iq c||pF c)
def gj (kind:Int):Bool:=decide (kind=35\/kind=36)
def sd (k:Int) (len:Nat) (i:Int) (p:Int):Bool:=if i<k then decide (0<=p/\p<=(len:Int)-1)else decide (p=0)
def fJ (len:Nat) (n:NodeP):Bool:=
 decide (0<=ak n.kind)&&(sd (ak n.kind) len 0 n.a&&sd (ak n.kind) len 1 n.b&&sd (ak n.kind) len 2 n.c)&&
 (if gj n.kind then gw n.name else decide (n.name.size=0))&&(decide (n.kind=30)||decide (n.m=0))&&
 (decide (n.kind=30\/n.kind=31\/n.kind=32\/n.kind=34)||decide (n.n=0))
def jg (w v:Int):Bool:=decide ((1<=w/\w<=16)/\0<=v/\v<=((2^w.toNat:Nat):Int)-1)
def dn (n:NodeP) (a b c:SortP):Option SortP:=
 if n.kind=33 then(if a=cO 1/\b=c then some b else none)else
 if n.kind=37 then(if 0<a.idx/\b=cO a.idx then some (cO a.wid)else none)else
 if n.kind=38 then(if 0<a.idx/\b=cO a.idx/\c=cO a.wid then some a else none)else
 if n.kind=21 then(if a=b then some (cO 1)else none)else
 if 0<a.idx\/(ak n.kind=2/\0<b.idx)then none else
 if n.kind=29 then(if a.wid+b.wid<=16 then some (cO (a.wid+b.wid))else none)else
 if n.kind=30 then(if(0<=n.n/\n.n<=a.wid-1)/\0<=n.m/\n.m<=n.n then some (cO (n.n-n.m+1))else none)else
 if n.kind=31\/n.kind=32 then(if 0<=n.n/\n.n<=16-a.wid then some (cO (a.wid+n.n))else none)else
 if n.kind<=5 then some (cO (if n.kind<=2 then a.wid else 1))else
 if a=b then some (cO (if n.kind<=20 then a.wid else 1))else none
def az (l:List NodeP) (p:Int):SortP:=match l[p.toNat]? with|some n=>n.sort|none=>⟨0,0⟩
def da (l:List NodeP) (n:NodeP):Option SortP:=
 if l.length<=60/\fJ l.length n=true then
  (if ak n.kind=0 then(if(if n.kind=34 then decide (n.sort.idx=0)&&jg n.sort.wid n.n else bO n.sort)then some n.sort else none)else
   if bO (az l n.a)&&((decide (ak n.kind<2)||bO (az l n.b))&&(decide (ak n.kind<3)||bO (az l n.c)))then
    dn n (az l n.a) (az l n.b) (az l n.c)else none)
 else none
def cx (l:List NodeP):Bool:=(List.range l.length).all fun i=>match l[i]? with|some n=>decide (da (l.take i) n=some n.sort)|none=>true
def jP {α:Type} [DecidableEq α] (l:List α):Bool:=(List.range l.length).any fun i=>match l[i]? with|some x=>(l.take i).any fun y=>decide (y=x)|none=>false
def mf (l:List NodeP):Bool:=(List.range l.length).any fun i=>match l[i]? with|some n=>decide (n.name.size≠0)&&(l.take i).any fun y=>decide (y.name=n.name)|none=>false
def vj (m:ah):Bool:=mf m.nodes||(jP (m.inits.map (·.state))||jP (m.nexts.map (·.state)))
def dU (l:List NodeP):Nat->List Bool
 |0=> []
 |i+1=>dU l i++ [match l[i]? with
   |some n=>gj n.kind||((decide (0<ak n.kind)&&(dU l i).getD n.a.toNat false)||((decide (1<ak n.kind)&&(dU l i).getD n.b.toNat false)||(decide (2<ak n.kind)&&(dU l i).getD n.c.toNat false)))
   |none=>false]
def de (l:List NodeP) (p:Int):Bool:=decide (0<=p/\p<=(l.length:Int)-1)
def jt (l:List NodeP) (p:Int):Int:=match l[p.toNat]? with|some n=>n.kind|none=>0
def jh (l:List NodeP) (b:BindP):Bool:=
 (de l b.state&&de l b.node&&decide (jt l b.state=36))&&((decide (az l b.state=az l b.node)||decide (az l b.node=cO (az l b.state).wid))&& !(dU l l.length).getD b.node.toNat false)
def fV (l:List NodeP) (b:BindP):Bool:=(de l b.state&&de l b.node&&decide (jt l b.state=36))&&decide (az l b.state=az l b.node)
def dl (l:List NodeP) (p:Int):Bool:=de l p&&decide (az l p=cO 1)
def am (l:List NodeP) (kind:Int):Nat:=((l.filter fun n=>decide (n.kind=kind)).map fun n=>dx n.sort).sum
def ay (l:List NodeP) (kind:Int):List Nat:=(List.range l.length).filter fun i=>match l[i]? with|some n=>decide (n.kind=kind)|none=>false
def aD (m:ah):Int:=
 if 60<m.nodes.length\/60<m.inits.length\/60<m.nexts.length\/4<m.bads.length\/4<m.holds.length then 1 else
 if cx m.nodes=false then 2 else if vj m=true then 3 else
 if(m.inits.all (jh m.nodes)&&m.nexts.all (fV m.nodes))=false then 4 else
 if(m.bads.all (dl m.nodes)&&m.holds.all (dl m.nodes))=false then 5 else
 if 8<am m.nodes 36\/5<am m.nodes 35 then 6 else 0
def cJ (v:List (List Nat)) (p:Int):Nat:=(v.getD p.toNat []).getD 0 0
def RP (a lo n:Nat):Nat:=a/2^lo%2^n
def H4 (w a more:Nat) (signed:Bool):Nat:=if signed then jO (w+more) (sgn w a)else a
def fH (l:List NodeP) (n:NodeP) (v:List (List Nat)):List Nat:=
 if n.kind=34 then [n.n.toNat]else
 if n.kind=33 then(if cJ v n.a=1 then v.getD n.b.toNat []else v.getD n.c.toNat [])else
 if n.kind=21 then [if v.getD n.a.toNat []=v.getD n.b.toNat []then 1 else 0]else
 if n.kind=37 then [(v.getD n.a.toNat []).getD (cJ v n.b) 0]else
 if n.kind=38 then(v.getD n.a.toNat []).set (cJ v n.b) (cJ v n.c)else
 if n.kind=29 then [cJ v n.a*2^(az l n.b).wid.toNat+cJ v n.b]else
 if n.kind=30 then [RP (cJ v n.a) n.m.toNat (n.n-n.m+1).toNat]else
 if n.kind=31\/n.kind=32 then [H4 (az l n.a).wid.toNat (cJ v n.a) n.n.toNat (decide (n.kind=32))]else
 if ak n.kind=1 then [(zl n.kind (az l n.a).wid.toNat (cJ v n.a)).1]else [(t5 n.kind (az l n.a).wid.toNat (cJ v n.a) (cJ v n.b)).1]
def fY (l:List NodeP) (s inp:List (List Nat)):Nat->List (List Nat)
 |0=> []
 |i+1=>fY l s inp i++ [match l[i]? with
   |some n=>if n.kind=36 then s.getD (ay (l.take i) 36).length []else if n.kind=35 then inp.getD (ay (l.take i) 35).length []else fH l n (fY l s inp i)
   |none=> []]
def gW (n:NodeP):List Nat:=([n.a.toNat,n.b.toNat,n.c.toNat]).take (ak n.kind).toNat
theorem sQ (k:Int):ak k=0\/ak k=1\/ak k=2\/ak k=3\/ak k= -1:=by
 unfold ak
 by_cases h1:(1<=k/\k<=5)\/(30<=k/\k<=32)
 ·rw [if_pos h1];simp
 rw [if_neg h1]
 by_cases h2:(6<=k/\k<=29)\/k=37
 ·rw [if_pos h2];simp
 rw [if_neg h2]
 by_cases h3:k=33\/k=38
 ·rw [if_pos h3];simp
 rw [if_neg h3]
 by_cases h4:34<=k/\k<=36
 ·rw [if_pos h4];simp
 rw [if_neg h4];simp
def B9 (l:List NodeP):Prop:= ∀(i:Nat) (n:NodeP),l[i]?=some n->0<=ak n.kind/\ ∀p∈gW n,p<i
def sR (l:List NodeP) (j:Nat):Bool:=match l[j]? with|some n=>gj n.kind|none=>false
def sC (l:List NodeP) (j:Nat):Bool:=(dU l l.length).getD j false
theorem jd (l:List NodeP): ∀i,(dU l i).length=i:=by
 intro i
 induction i with
 |zero=>rfl
 |succ i ih=>simp only [dU,List.length_append,ih,List.length_cons,List.length_nil]
theorem UN (l:List NodeP): ∀d i j,j<i->(dU l (i+d)).getD j false=(dU l i).getD j false:=by
 intro d
 induction d with
 |zero=>intro i j _;rfl
 |succ d ih=>
  intro i j hj
  rw [<-Nat.add_assoc]
  simp only [dU]
  have hl:=jd l (i+d)
  rw [List.getD,List.getElem?_append_left (by omega)]
  exact ih i j hj
theorem tR {l:List NodeP} {i j:Nat} (hj:j<i) (hi:i<=l.length):(dU l i).getD j false=sC l j:=by
 have:=UN l (l.length-i) i j hj
 rw [show i+(l.length-i)=l.length by omega]at this
 exact this.symm
theorem YG {l:List NodeP} (ha:B9 l) {i:Nat} {n:NodeP} (hn:l[i]?=some n):sC l i=true↔gj n.kind=true\/ ∃p∈gW n,sC l p=true:=by
 have hi:i<l.length:=(List.getElem?_eq_some_iff.1 hn).1
 obtain⟨hk,hp⟩:=ha i n hn
 have e:sC l i=(gj n.kind||((decide (0<ak n.kind)&&(dU l i).getD n.a.toNat false)||((decide (1<ak n.kind)&&(dU l i).getD n.b.toNat false)||(decide (2<ak n.kind)&&(dU l i).getD n.c.toNat false)))):=by
  rw [<-tR (Nat.lt_succ_self i) hi]
  simp only [dU]
  have hl:=jd l i
  rw [List.getD,List.getElem?_append_right (by omega),hl,Nat.sub_self]
  simp only [hn,List.getElem?_cons_zero,Option.getD_some]
 rw [e]
 unfold gW at hp⊢
 rcases sQ n.kind with h|h|h|h|h
 ·simp [h]
 ·rw [h]at hp⊢
  have h1:=hp n.a.toNat (by simp)
  rw [tR h1 (by omega)]
  simp
 ·rw [h]at hp⊢
  have h1:=hp n.a.toNat (by simp)
  have h2:=hp n.b.toNat (by simp)
  rw [tR h1 (by omega),tR h2 (by omega)]
  simp
 ·rw [h]at hp⊢
  have h1:=hp n.a.toNat (by simp)
  have h2:=hp n.b.toNat (by simp)
  have h3:=hp n.c.toNat (by simp)
  rw [tR h1 (by omega),tR h2 (by omega),tR h3 (by omega)]
  simp
 ·omega
def jw (l:List NodeP):Nat->(Nat->Bool)->Nat->Bool
 |0,S=>S
 |i+1,S=>jw l i (if S i then fun j=>S j||(match l[i]? with|some n=>(gW n).contains j|none=>false)else S)
theorem Ui {l:List NodeP} (ha:B9 l): ∀(i:Nat) (S:Nat->Bool),i<=l.length->
  ((∃j,jw l i S j=true/\sR l j=true)↔(∃j,i<=j/\S j=true/\sR l j=true)\/ ∃j,j<i/\S j=true/\sC l j=true):=by
 intro i
 induction i with
 |zero=>intro S _;simp [jw]
 |succ i ih=>
  intro S hi
  simp only [jw]
  rw [ih _ (by omega)]
  obtain⟨n,hn⟩: ∃n,l[i]?=some n:=⟨l[i],List.getElem?_eq_getElem (by omega)⟩
  have hm:=YG ha hn
  have hp:=(ha i n hn).2
  have hnm:sR l i=gj n.kind:=by unfold sR;rw [hn]
  by_cases hS:S i=true
  ·simp only [hS,if_true,hn]
   constructor
   ·rintro (⟨j,h1,h2,h3⟩|⟨j,h1,h2,h3⟩)
    ·by_cases hji:j=i
     ·subst hji
      exact .inr ⟨j,by omega,hS,hm.2 (.inl (hnm▸h3))⟩
     ·rcases Bool.or_eq_true_iff.1 h2 with h2|h2
      ·exact .inl ⟨j,by omega,h2,h3⟩
      ·have:=hp j (by simpa using h2);omega
    ·rcases Bool.or_eq_true_iff.1 h2 with h2|h2
     ·exact .inr ⟨j,by omega,h2,h3⟩
     ·exact .inr ⟨i,by omega,hS,hm.2 (.inr ⟨j,by simpa using h2,h3⟩)⟩
   ·rintro (⟨j,h1,h2,h3⟩|⟨j,h1,h2,h3⟩)
    ·exact .inl ⟨j,by omega,by simp [h2],h3⟩
    ·by_cases hji:j=i
     ·subst hji
      rcases hm.1 h3 with h4|⟨p,hp1,hp2⟩
      ·exact .inl ⟨j,Nat.le_refl _,by simp [hS],hnm▸h4⟩
      ·exact .inr ⟨p,hp p hp1,by simp [hp1],hp2⟩
     ·exact .inr ⟨j,by omega,by simp [h2],h3⟩
  ·simp only [hS,if_false]
   constructor
   ·rintro (⟨j,h1,h2,h3⟩|⟨j,h1,h2,h3⟩)
    ·by_cases hji:j=i
     ·subst hji;exact absurd h2 hS
     ·exact .inl ⟨j,by omega,h2,h3⟩
    ·exact .inr ⟨j,by omega,h2,h3⟩
   ·rintro (⟨j,h1,h2,h3⟩|⟨j,h1,h2,h3⟩)
    ·exact .inl ⟨j,by omega,h2,h3⟩
    ·by_cases hji:j=i
     ·subst hji;exact absurd h2 hS
     ·exact .inr ⟨j,by omega,h2,h3⟩
theorem ab8 {l:List NodeP} (ha:B9 l) {i:Nat} (hi:i<l.length):(∃j,jw l (i+1) (fun j=>decide (j=i)) j=true/\sR l j=true)↔sC l i=true:=by
 rw [Ui ha _ _ (by omega)]
 constructor
 ·rintro (⟨j,h1,h2,h3⟩|⟨j,h1,h2,h3⟩)
  ·simp at h2;omega
  ·simp at h2;subst h2;exact h3
 ·intro h;exact .inr ⟨i,by omega,by simp,h⟩
theorem acr {l:List NodeP} (ha:B9 l) (k:Nat): ∀(i:Nat) (S:Nat->Bool),i<=k+1->i<=l.length->(∀j,S j=true->j<=k)-> ∀j,jw l i S j=true->j<=k:=by
 intro i
 induction i with
 |zero=>intro S _ _ hS j hj;exact hS j hj
 |succ i ih=>
  intro S hk hi hS j hj
  simp only [jw]at hj
  refine ih _ (by omega) (by omega) ?_ j hj
  intro j' hj'
  split at hj'
  ·rcases Bool.or_eq_true_iff.1 hj' with h|h
   ·exact hS j' h
   ·obtain⟨n,hn⟩: ∃n,l[i]?=some n:=⟨l[i],List.getElem?_eq_getElem (by omega)⟩
    rw [hn]at h
    have:=(ha i n hn).2 j' (by simpa using h)
    omega
  ·exact hS j' hj'
def mv (w:Nat):Nat->Nat->List Nat
 |0,_=> []
 |c+1,code=>mv w c code++ [code/2^(w*c)%2^w]
def bG (l:List NodeP) (p:Nat):Nat:=(az l p).wid.toNat
def aE (l:List NodeP) (p:Nat):Nat:=cX (az l p)
def cE (l:List NodeP) (ps:List Nat):Nat:=(ps.map fun p=>bG l p*aE l p).sum
def dQ (l:List NodeP) (ps:List Nat) (code:Nat):List (List Nat):=
 (List.range ps.length).map fun i=>mv (bG l (ps.getD i 0)) (aE l (ps.getD i 0)) (code/2^cE l (ps.take i))
theorem rc (w c code:Nat):(mv w c code).length=c:=by
 induction c with
 |zero=>rfl
 |succ c ih=>simp only [mv,List.length_append,ih,List.length_cons,List.length_nil]
theorem Tz {w c code x:Nat} (h:x∈mv w c code):x<2^w:=by
 induction c with
 |zero=>cases h
 |succ c ih=>
  simp only [mv,List.mem_append,List.mem_singleton]at h
  rcases h with h|h
  ·exact ih h
  ·subst h;exact Nat.mod_lt _ (bL w)
theorem jp (l:List NodeP) (ps:List Nat) (code:Nat):(dQ l ps code).length=ps.length:=by simp [dQ]
theorem SY {α:Type} {l:List α} {i:Nat} {x:α} (h:l[i]?=some x):i<l.length:=by
 rcases Nat.lt_or_ge i l.length with h'|h'
 ·exact h'
 ·rw [List.getElem?_eq_none h']at h;cases h
theorem Cs {l:List NodeP} {ps:List Nat} {code i p:Nat} (h:ps[i]?=some p):(dQ l ps code).getD i []=mv (bG l p) (aE l p) (code/2^cE l (ps.take i)):=by
 have hlt:=SY h
 have hp:ps.getD i 0=p:=by rw [List.getD_eq_getElem?_getD,h];rfl
 unfold dQ
 rw [List.getD_eq_getElem?_getD,List.getElem?_map,List.getElem?_range hlt]
 simp only [Option.map_some,Option.getD_some,hp]
theorem mh {l:List NodeP} {ps:List Nat} {i p:Nat} (h:ps[i]?=some p):cE l (ps.take (i+1))=cE l (ps.take i)+bG l p*aE l p:=by
 have hlt:=SY h
 rw [List.getElem?_eq_getElem hlt]at h
 unfold cE
 rw [List.take_succ_eq_append_getElem hlt,Option.some.inj h,List.map_append,List.sum_append];simp
theorem Gy (l:List NodeP) (ps:List Nat) (i:Nat):cE l (ps.take i)<=cE l ps:=by
 conv=>rhs;rw [<-List.take_append_drop i ps]
 unfold cE
 rw [List.map_append,List.sum_append];omega
def nbA (l:List NodeP) (p:Nat):Nat:=bG l p*aE l p
def pX (n:Nat) (p:Nat->Bool):Bool:=(List.range n).any p
structure aJ where
 n:Nat
 k:Nat
 hold:Nat->Bool
 bad:Nat->Bool
 next:Nat->Nat
 fixed:Nat
 bfix:Nat
 bas:Nat
namespace aJ
def begins (σ:aJ) (s:Nat):Bool:=decide (s&&&σ.bfix=σ.bas)
def ends (σ:aJ) (c:Nat):Bool:=σ.hold c&&σ.bad c
def goes (σ:aJ) (c t:Nat):Bool:=decide (t&&&σ.fixed=σ.next c)
def at_ (σ:aJ) (s i:Nat):Nat:=i*2^σ.n+s
def some_ (σ:aJ) (f:Nat->Nat->Bool) (s:Nat):Bool:=pX (2^σ.k) fun i=>f s (σ.at_ s i)
def leads (σ:aJ) (S:Nat->Bool) (c:Nat):Bool:=pX (2^σ.n) fun t=>S t&&σ.goes c t
def fwd (σ:aJ) (p S:Nat->Bool) (t:Nat):Bool:=pX (2^(σ.n+σ.k)) fun c=>(S (c%2^σ.n)&&p c)&&σ.goes c t
def bwd (σ:aJ) (p S:Nat->Bool):Nat->Bool:=σ.some_ fun _ c=>p c&&σ.leads S c
def lay (σ:aJ):Nat->(Nat->Bool)×(Nat->Bool)
 |0=>(σ.begins,fun _=>false)
 |i+1=>(fun t=>σ.fwd σ.hold (σ.lay i).1 t&& !((σ.lay i).2 t||(σ.lay i).1 t),fun t=>(σ.lay i).2 t||(σ.lay i).1 t)
def front (σ:aJ) (i:Nat):Nat->Bool:=(σ.lay i).1
def seen (σ:aJ) (i:Nat):Nat->Bool:=(σ.lay i).2
def live (σ:aJ) (i:Nat):Bool:=pX (2^σ.n) (σ.front i)
def nLay (σ:aJ):Nat:=(List.range (2^σ.n+1)).findIdx fun i=> !σ.live i
def endsAt (σ:aJ):Nat->Bool:=σ.some_ fun _ c=>σ.ends c
def hits (σ:aJ) (i:Nat):Bool:=pX (2^σ.n) fun s=>σ.front i s&&σ.endsAt s
def depth (σ:aJ):Option Nat:=(List.range σ.nLay).find? fun i=>σ.hits i
def back (σ:aJ):Nat->Nat->Bool
 |0=>σ.endsAt
 |i+1=>σ.some_ fun s c=>σ.back i s||(σ.hold c&&σ.leads (σ.back i) c)
def clean (σ:aJ) (c:Nat):Bool:=σ.hold c&& !σ.bad c
def back2 (σ:aJ):Nat->Nat->Bool
 |0=>σ.endsAt
 |i+1=>σ.bwd σ.clean (σ.back2 i)
def kind (σ:aJ) (k:Nat):Int:=if(match σ.depth with|some d=>decide (d<k)|none=>false)then 1 else if pX (2^σ.n) (σ.back2 k)then 2 else 0
end aJ
theorem Yh {x:Int} {n:Nat} (hn:n<=64):mG x (n:Int)=x/((2^n:Nat):Int):=by
 unfold mG
 have h1:min (Int.toNat (n:Int)) IntKind.i64.bits=n:=by simp [IntKind.bits];omega
 rw [h1,Int.fdiv_eq_ediv_of_nonneg _ (Int.pow_nonneg (by decide))]
 simp
theorem gP {x:Int} {w:Nat} (hw:w<=62):sD x (((2^w:Nat):Int)-1)=((jO w x:Nat):Int):=by
 have h2:=nL hw
 have hp:=bL w
 have hm:(((2^w:Nat):Int)-1)=((2^w-1:Nat):Int):=by omega
 rw [hm]
 show IntKind.i64.wrap _=_
 have h1:(BitVec.ofInt IntKind.i64.bits x&&&BitVec.ofInt IntKind.i64.bits ((2^w-1:Nat):Int)).toNat=jO w x:=by
  show (BitVec.ofInt 64 x&&&BitVec.ofInt 64 ((2^w-1:Nat):Int)).toNat=jO w x
  rw [BitVec.ofInt_natCast,BitVec.toNat_and,BitVec.toNat_ofNat,BitVec.toNat_ofInt,Nat.mod_eq_of_lt (by omega),Nat.and_two_pow_sub_one_eq_mod]
  have hd:((2^w:Nat):Int)∣((2^64:Nat):Int):=Int.natCast_dvd_natCast.2 (Nat.pow_dvd_pow 2 (by omega))
  have h3:=Int.emod_emod_of_dvd x hd
  have h4:=Int.emod_nonneg x (b:=((2^64:Nat):Int)) (by decide)
  unfold jO
  rw [<-h3]
  generalize x%((2^64:Nat):Int)=y at*
  obtain⟨z,rfl⟩: ∃z:Nat,y=z:=⟨y.toNat,by omega⟩
  rw [<-Int.natCast_emod,Int.toNat_natCast,Int.toNat_natCast]
 rw [h1]
 exact fj (by have:=jJ w x;omega)
theorem Yk {w:Nat} (hw:w<=62):ax (-1) (w:Int)= -((2^w:Nat):Int):=by
 have h2:=nL hw
 unfold ax
 have h1:min (Int.toNat (w:Int)) IntKind.i64.bits=w:=by simp [IntKind.bits];omega
 rw [h1]
 have h3:(-1:Int)*2^w= -((2^w:Nat):Int):=by simp
 have key: ∀N:Nat,N<=4611686018427387904->W (-(N:Int))= -(N:Int):=fun N h=>bQ (by omega) (by omega)
 rw [h3];exact key _ h2
theorem Bb {w:Nat} (hw:w<=16):2^w<=65536:=by
 have:=Nat.pow_le_pow_right (n:=2) (by omega) hw
 simpa using this
theorem kg {w v:Int}:jg w v=true↔(1<=w/\w<=16)/\0<=v/\v<((2^w.toNat:Nat):Int):=by
 unfold jg
 rw [decide_eq_true_eq]
 constructor
 ·rintro ⟨h1,h2,h3⟩;exact⟨h1,h2,by omega⟩
 ·rintro ⟨h1,h2,h3⟩;exact⟨h1,h2,by omega⟩
theorem dz {h:Hp} {w:Nat} {R:Value->Hp->Prop} (hw:w<=62) (k:R (I (((2^w:Nat):Int)-1)) h):cM #[I w] h R:=by
 apply PW
 refine uf_ ?_
 have:=nL hw
 have hp:=bL w
 rw [if_neg (by omega),cg hw,bQ (by omega) (by omega)]
 exact k
theorem CL {h:Hp} {w:Int} {R:Value->Hp->Prop} (k:R (.bool (decide (1<=w/\w<=16))) h):pR #[I w] h R:=by
 apply HG
 refine uf_ ?_
 exact gR ⟨_,rfl,k⟩
theorem wR {h:Hp} {w:Int} {R:Value->Hp->Prop} (k:R (.bool (decide (1<=w/\w<=16))) h):lQ #[I w] h R:=by
 apply H6
 refine uf_ ?_
 exact dM ⟨_,rfl,k⟩
theorem HN (w v:Int):jg w v=(decide (1<=w/\w<=16)&&decide (0<=v/\v<=((2^w.toNat:Nat):Int)-1)):=by
 unfold jg;rw [Bool.eq_iff_iff];simp
theorem DJ {h:Hp} {w v:Int} {R:Value->Hp->Prop} (k:R (.bool (jg w v)) h):vq #[I w,I v] h R:=by
 apply JO
 refine uf_ ?_
 rw [HN]at k
 refine CL ⟨_,rfl,ad (fun e=>?_) (fun e=>?_)⟩
 ·rw [e,Bool.true_and]at k
  have e':1<=w/\w<=16:=by simpa using e
  obtain⟨n,rfl⟩: ∃n:Nat,w=n:=⟨w.toNat,by omega⟩
  rw [Int.toNat_natCast]at k
  exact dz (by omega) ⟨_,rfl,gR ⟨_,rfl,k⟩⟩
 ·rw [e,Bool.false_and]at k;exact k
theorem cD {h:Hp} {w v:Int} {R:Value->Hp->Prop} (k:R (.bool (jg w v)) h):dw #[I w,I v] h R:=by
 apply Ka
 refine uf_ ?_
 rw [HN]at k
 refine wR ⟨_,rfl,ad (fun e=>?_) (fun e=>?_)⟩
 ·rw [e,Bool.true_and]at k
  have e':1<=w/\w<=16:=by simpa using e
  obtain⟨n,rfl⟩: ∃n:Nat,w=n:=⟨w.toNat,by omega⟩
  rw [Int.toNat_natCast]at k
  have:=nL (n:=n) (by omega)
  have hp:=bL n
  rw [cQ (by omega),if_neg (by omega),cg (by omega),bQ (by omega) (by omega)]
  exact dM ⟨_,rfl,k⟩
 ·rw [e,Bool.false_and]at k;exact k
def WO (w a:Nat):Prop:=(1<=w/\w<=16)/\a<2^w
theorem WO.ok {w a:Nat} (e:WO w a):jg (w:Int) (a:Int)=true:=kg.2 ⟨by have:=e.1;omega,by omega,by rw [Int.toNat_natCast];have:=e.2;omega⟩
theorem WO.pow {w a:Nat} (e:WO w a):2^w<=65536:=Bb e.1.2
theorem oE {h:Hp} {w a:Nat} {R:Value->Hp->Prop} (e:WO w a) (k:R (I (sgn w a)) h):ir #[I w,I a] h R:=by
 apply KE
 refine uf_ ?_
 obtain⟨⟨h1,h2⟩,ha⟩:=e
 have hp:=rx h1
 have h16:=Bb h2
 have w1:W ((w:Int)-1)=((w-1:Nat):Int):=by rw [bQ (by omega) (by omega)];omega
 rw [w1,if_neg (by omega),if_neg (by omega),jn (by omega)]
 unfold sgn at k
 by_cases hs:2^(w-1)<=a
 ·have e1:a/2^(w-1)=1:=by rw [Nat.div_eq_iff (bL _)];omega
  rw [e1,iU (by omega) (by omega),Nat.one_mul,bQ (by omega) (by omega)]
  rw [if_pos hs]at k;exact k
 ·have e1:a/2^(w-1)=0:=Nat.div_eq_of_lt (by omega)
  rw [e1,iU (by omega) (by omega),Nat.zero_mul,bQ (by omega) (by omega)]
  rw [if_neg hs]at k
  simpa using k
theorem je {h:Hp} {w a:Nat} {R:Value->Hp->Prop} (e:WO w a) (k:R (I (sgn w a)) h):eP #[I w,I a] h R:=by
 apply Dd
 refine uf_ ?_
 obtain⟨⟨h1,h2⟩,ha⟩:=e
 have hp:=rx h1
 have h16:=Bb h2
 have w1:W ((w:Int)-1)=((w-1:Nat):Int):=by rw [bQ (by omega) (by omega)];omega
 refine cD ⟨_,rfl,aA (by rw [WO.ok ⟨⟨h1,h2⟩,ha⟩];rfl) ?_⟩
 rw [w1,cQ (by omega),if_neg (by omega),cg (by omega)]
 unfold sgn at k
 refine ad (fun e=>?_) (fun e=>?_)
 ·have hs:2^(w-1)<=a:=by
   have:=of_decide_eq_true e;omega
  rw [if_pos hs]at k
  rw [cQ (by omega),if_neg (by omega),cg (by omega),bQ (by omega) (by omega)]
  exact k
 ·have hs: ¬2^(w-1)<=a:=by
   have:=of_decide_eq_false e;omega
  rw [if_neg hs]at k;exact k
theorem RN (w:Nat) (n:Int):((jO w n:Nat):Int)=if Int.tmod n ((2^w:Nat):Int)<0 then Int.tmod n ((2^w:Nat):Int)+((2^w:Nat):Int)else Int.tmod n ((2^w:Nat):Int):=by
 rw [GQ]
 have hp:(0:Int)<((2^w:Nat):Int):=Int.ofNat_lt.2 (bL w)
 have h1:=Int.emod_nonneg n (b:=((2^w:Nat):Int)) (by omega)
 have h2:=Int.emod_lt_of_pos n hp
 have h3:=Int.tmod_eq_emod (a:=n) (b:=((2^w:Nat):Int))
 have h4:n%((2^w:Nat):Int)=0->((2^w:Nat):Int)∣n:=Int.dvd_of_emod_eq_zero
 rw [h3]
 generalize ((2^w:Nat):Int)=N at*
 by_cases hn:0<=n\/N∣n
 ·rw [if_pos hn];split<;>omega
 ·have h5:n%N≠0:=fun e=>hn (.inr (h4 e))
  rw [if_neg hn]
  generalize n%N=r at*
  split<;>omega
theorem iy {h:Hp} {w:Nat} {n:Int} {R:Value->Hp->Prop} (hw:1<=w/\w<=16) (k:R (I (jO w n)) h):eu #[I w,I n] h R:=by
 apply FR
 refine uf_ ?_
 have h16:=Bb hw.2
 have hp:=bL w
 have hlt:=jJ w n
 have ht:=RN w n
 refine wR ⟨_,rfl,aA (by simp;omega) ?_⟩
 rw [cQ (by omega),if_neg (by omega),cg (by omega),if_neg (by omega)]
 refine ad (fun e=>?_) (fun e=>?_)
 ·have e':=of_decide_eq_true e
  rw [if_pos e']at ht
  rw [if_neg (by omega),bQ (by omega) (by omega),<-ht];exact k
 ·have e':=of_decide_eq_false e
  rw [if_neg e']at ht
  rw [<-ht];exact k
theorem Fn {h:Hp} {w a:Nat} {R:Value->Hp->Prop} (hw:w<=16) (k:R (I (j7 w a)) h):qH #[I w,I a] h R:=by
 apply KQ
 refine uf_ ?_
 refine ar w (fun i vs h'=>vs= [I w,I a,I (j7 i a),I i]/\h'=h) ⟨rfl,rfl⟩ ?_
 rintro i _ _ next hi ⟨rfl,rfl⟩ hn
 refine⟨_,_,_,_,rfl,?_⟩
 by_cases hlt:i<w
 ·refine aL (by simp [hlt]) (iQ (by omega) ⟨_,rfl,?_⟩)
  have hl:=Qo i a
  have e:W ((j7 i a:Int)+(if a.testBit i then 1 else 0))=((j7 (i+1) a:Nat):Int):=by
   rw [bQ (by split<;>omega) (by split<;>omega)]
   simp only [j7]
   split<;>simp
  rw [e,aw (by omega)]
  exact hn hlt _ _ ⟨rfl,rfl⟩
 ·have:i=w:=by omega
  subst this
  exact aA (by simp) k
theorem Qc {a b:Nat} (ha:a<18446744073709551616) (hb:b<18446744073709551616):bA .and .u64 (a:Int) (b:Int)=((a&&&b:Nat):Int):=by
 show IntKind.u64.wrap _=_
 have h1:(BitVec.ofInt IntKind.u64.bits (a:Int)&&&BitVec.ofInt IntKind.u64.bits (b:Int)).toNat=a&&&b:=by
  show (BitVec.ofInt 64 (a:Int)&&&BitVec.ofInt 64 (b:Int)).toNat=a&&&b
  rw [BitVec.ofInt_natCast,BitVec.ofInt_natCast,BitVec.toNat_and,BitVec.toNat_ofNat,BitVec.toNat_ofNat,Nat.mod_eq_of_lt (by omega),Nat.mod_eq_of_lt (by omega)]
 rw [h1,IntKind.wrap_u64]
 have:=Nat.and_le_left (n:=a) (m:=b)
 omega
def YS (x:Nat):Nat:=(x/2&&&6148914691236517205)+(x&&&6148914691236517205)
def W0 (x:Nat):Nat:=(x/4&&&3689348814741910323)+(x&&&3689348814741910323)
def Zj (x:Nat):Nat:=(x/16+x)&&&1085102592571150095
def Zu (x:Nat):Nat:=x/256+x
def Xh (x:Nat):Nat:=x/65536+x
def aac (x:Nat):Nat:=x/4294967296+x
def JG (x:Nat):Nat:=aac (Xh (Zu (Zj (W0 (YS x)))))&&&127
def Sr (x:Nat):Bool:=Nat.beq (JG (2*x)) (JG x)&&Nat.beq (JG (2*x+1)) (JG x+1)
def Pt (hi:Nat):Nat->Bool
 |0=>true
 |n+1=>Sr (hi*256+n)&&Pt hi n
def TP :Nat->Bool
 |0=>true
 |n+1=>Pt n 256&&TP n
theorem abM :TP 128=true:=by kernel_rfl
theorem Yg {hi:Nat}: ∀n,Pt hi n=true-> ∀i,i<n->Sr (hi*256+i)=true:=by
 intro n
 induction n with
 |zero=>intro _ i h;omega
 |succ n ih=>
  intro h i hi
  simp only [Pt,Bool.and_eq_true]at h
  by_cases e:i=n
  ·subst e;exact h.1
  ·exact ih h.2 i (by omega)
theorem Xi : ∀n,TP n=true-> ∀i,i<n->Pt i 256=true:=by
 intro n
 induction n with
 |zero=>intro _ i h;omega
 |succ n ih=>
  intro h i hi
  simp only [TP,Bool.and_eq_true]at h
  by_cases e:i=n
  ·subst e;exact h.1
  ·exact ih h.2 i (by omega)
theorem Xq {x:Nat} (h:x<32768):JG (2*x)=JG x/\JG (2*x+1)=JG x+1:=by
 have h1:=Xi 128 abM (x/256) (by omega)
 have h2:=Yg 256 h1 (x%256) (Nat.mod_lt _ (by omega))
 rw [show x/256*256+x%256=x by omega]at h2
 simp only [Sr,Bool.and_eq_true]at h2
 exact⟨Nat.eq_of_beq_eq_true h2.1,Nat.eq_of_beq_eq_true h2.2⟩
theorem Rk (a:Nat): ∀w,j7 (w+1) a=a%2+j7 w (a/2):=by
 intro w
 induction w with
 |zero=>
  simp only [j7,Nat.testBit_zero]
  rcases Nat.mod_two_eq_zero_or_one a with h|h<;>simp [h]
 |succ w ih=>
  rw [j7,ih,j7,Nat.testBit_succ];omega
theorem abx : ∀w,w<=16-> ∀x,x<2^w->JG x=j7 w x:=by
 intro w
 induction w with
 |zero=>intro _ x hx;have:x=0:=by simpa using hx
        subst this;rfl
 |succ w ih=>
  intro hw x hx
  have h16:2^w<=32768:=by
   have:=Nat.pow_le_pow_right (n:=2) (by omega) (show w<=15 by omega)
   simpa using this
  have hp:2^(w+1)=2*2^w:=by rw [Nat.pow_succ];omega
  have h1:=ih (by omega) (x/2) (by omega)
  have h2:=Xq (x:=x/2) (by omega)
  rw [Rk,<-h1]
  rcases Nat.mod_two_eq_zero_or_one x with h|h
  ·have e:2*(x/2)=x:=by omega
   rw [e]at h2;rw [h2.1,h];omega
  ·have e:2*(x/2)+1=x:=by omega
   rw [e]at h2;rw [h2.2,h];omega
theorem LY {a k:Nat} (hk:k<=64):Int.fdiv (a:Int) (2^(min (Int.toNat (k:Int)) (IntKind.bits .u64)))=((a/2^k:Nat):Int):=by
 have h1:min (Int.toNat (k:Int)) (IntKind.bits .u64)=k:=by simp [IntKind.bits];omega
 rw [h1,Int.fdiv_eq_ediv_of_nonneg _ (Int.pow_nonneg (by decide))]
 simp
def q1 (x:Int):Int:=IntKind.wrap .u64 ((bA .and .u64 (Int.fdiv x (2^(min (Int.toNat 1) (IntKind.bits .u64)))) 6148914691236517205)+(bA .and .u64 x 6148914691236517205))
def q2 (x:Int):Int:=IntKind.wrap .u64 ((bA .and .u64 (Int.fdiv x (2^(min (Int.toNat 2) (IntKind.bits .u64)))) 3689348814741910323)+(bA .and .u64 x 3689348814741910323))
def q3 (x:Int):Int:=bA .and .u64 (IntKind.wrap .u64 ((Int.fdiv x (2^(min (Int.toNat 4) (IntKind.bits .u64))))+x)) 1085102592571150095
def q4 (x:Int):Int:=IntKind.wrap .u64 (x+Int.fdiv x (2^(min (Int.toNat 8) (IntKind.bits .u64))))
def q5 (x:Int):Int:=IntKind.wrap .u64 (x+Int.fdiv x (2^(min (Int.toNat 16) (IntKind.bits .u64))))
def q6 (x:Int):Int:=IntKind.wrap .u64 (x+Int.fdiv x (2^(min (Int.toNat 32) (IntKind.bits .u64))))
theorem Ii {h:Hp} {a:Nat} {R:Value->Hp->Prop} (ha:a<65536) (k:R (I (j7 16 a)) h):k9 #[.int .u64 a] h R:=by
 apply yn
 refine uf_ ?_
 apply wc
 refine uf_ ?_
 refine⟨_,rfl,?_⟩
 have e1:q1 a=((YS a:Nat):Int):=by
  have l1:=Nat.and_le_left (n:=a/2) (m:=6148914691236517205)
  have l2:=Nat.and_le_left (n:=a) (m:=6148914691236517205)
  have:=LY (a:=a) (k:=1) (by omega)
  unfold q1 YS
  rw [show (Int.toNat 1)=Int.toNat ((1:Nat):Int)from rfl,this,Nat.pow_one]
  rw [show (6148914691236517205:Int)=((6148914691236517205:Nat):Int)from rfl,Qc (by omega) (by omega),Qc (by omega) (by omega),<-Int.natCast_add,cQ (by omega)]
 have b1:YS a<=98304:=by
  have l1:=Nat.and_le_left (n:=a/2) (m:=6148914691236517205)
  have l2:=Nat.and_le_left (n:=a) (m:=6148914691236517205)
  unfold YS;omega
 have e2: ∀x:Nat,x<=98304->q2 x=((W0 x:Nat):Int)/\W0 x<=196608:=by
  intro x hx
  have l1:=Nat.and_le_left (n:=x/4) (m:=3689348814741910323)
  have l2:=Nat.and_le_left (n:=x) (m:=3689348814741910323)
  have:=LY (a:=x) (k:=2) (by omega)
  refine⟨?_,by unfold W0;omega⟩
  unfold q2 W0
  rw [show (Int.toNat 2)=Int.toNat ((2:Nat):Int)from rfl,this,show 2^2=4 from rfl]
  rw [show (3689348814741910323:Int)=((3689348814741910323:Nat):Int)from rfl,Qc (by omega) (by omega),Qc (by omega) (by omega),<-Int.natCast_add,cQ (by omega)]
 have e3: ∀x:Nat,x<=196608->q3 x=((Zj x:Nat):Int)/\Zj x<=393216:=by
  intro x hx
  have l1:=Nat.and_le_left (n:=x/16+x) (m:=1085102592571150095)
  have:=LY (a:=x) (k:=4) (by omega)
  refine⟨?_,by unfold Zj;omega⟩
  unfold q3 Zj
  rw [show (Int.toNat 4)=Int.toNat ((4:Nat):Int)from rfl,this,show 2^4=16 from rfl,<-Int.natCast_add,cQ (by omega)]
  rw [show (1085102592571150095:Int)=((1085102592571150095:Nat):Int)from rfl,Qc (by omega) (by omega)]
 have e4: ∀x:Nat,x<=393216->q4 x=((Zu x:Nat):Int)/\Zu x<=786432:=by
  intro x hx
  have:=LY (a:=x) (k:=8) (by omega)
  refine⟨?_,by unfold Zu;omega⟩
  unfold q4 Zu
  rw [show (Int.toNat 8)=Int.toNat ((8:Nat):Int)from rfl,this,show 2^8=256 from rfl,<-Int.natCast_add,cQ (by omega),Nat.add_comm]
 have e5: ∀x:Nat,x<=786432->q5 x=((Xh x:Nat):Int)/\Xh x<=1572864:=by
  intro x hx
  have:=LY (a:=x) (k:=16) (by omega)
  refine⟨?_,by unfold Xh;omega⟩
  unfold q5 Xh
  rw [show (Int.toNat 16)=Int.toNat ((16:Nat):Int)from rfl,this,show 2^16=65536 from rfl,<-Int.natCast_add,cQ (by omega),Nat.add_comm]
 have e6: ∀x:Nat,x<=1572864->q6 x=((aac x:Nat):Int)/\aac x<=3145728:=by
  intro x hx
  have:=LY (a:=x) (k:=32) (by omega)
  refine⟨?_,by unfold aac;omega⟩
  unfold q6 aac
  rw [show (Int.toNat 32)=Int.toNat ((32:Nat):Int)from rfl,this,show 2^32=4294967296 from rfl,<-Int.natCast_add,cQ (by omega),Nat.add_comm]
 have b2:=(e2 _ b1).2
 have b3:=(e3 _ b2).2
 have b4:=(e4 _ b3).2
 have b5:=(e5 _ b4).2
 have b6:=(e6 _ b5).2
 show R (I (sD (W (q6 (q5 (q4 (q3 (q2 (q1 a))))))) 127)) h
 rw [e1,(e2 _ b1).1,(e3 _ b2).1,(e4 _ b3).1,(e5 _ b4).1,(e6 _ b5).1,fj (by omega),show (127:Int)=((127:Nat):Int)from rfl,zA (by omega) (by omega)]
 have:=abx 16 (by omega) a (by simpa using ha)
 unfold JG at this
 rw [this];exact k
theorem SH {w a:Nat} (ha:a<2^w): ∀d,j7 (w+d) a=j7 w a:=by
 intro d
 induction d with
 |zero=>rfl
 |succ d ih=>
  have hz:a.testBit (w+d)=false:=Nat.testBit_lt_two_pow (Nat.lt_of_lt_of_le ha (Nat.pow_le_pow_right (by omega) (by omega)))
  rw [<-Nat.add_assoc,j7,ih,hz]
  simp
theorem Y0 {h:Hp} {kind:Int} {w a:Nat} {R:Value->Hp->Prop} (hk:1<=kind/\kind<=5) (e:WO w a)
  (k:R (.tuple #[I (zl kind w a).1,I (zl kind w a).2]) h):BA #[I kind,I w,I a] h R:=by
 apply Q0
 refine uf_ ?_
 have h16:=e.pow
 have hp:=bL w
 have ha:=e.2
 have hw:=e.1
 unfold zl at k
 refine ad (fun e1=>?_) (fun e1=>ad (fun e2=>?_) (fun e2=>ad (fun e3=>?_) (fun e3=>ad (fun e4=>?_) (fun e4=>?_))))
 ·rw [if_pos (by simpa using e1)]at k
  refine dz (by omega) ⟨_,rfl,?_⟩
  have:W ((((2^w:Nat):Int)-1)-a)=((2^w-1-a:Nat):Int):=by rw [bQ (by omega) (by omega)];omega
  rw [this];exact k
 ·rw [if_neg (by simpa using e1),if_pos (by simpa using e2)]at k
  refine dz (by omega) ⟨_,rfl,?_⟩
  rw [bQ (n:=0-(a:Int)) (by omega) (by omega),gP (by omega),Int.zero_sub]
  exact k
 ·rw [if_neg (by simpa using e1),if_neg (by simpa using e2),if_pos (by simpa using e3)]at k
  refine C3 ⟨_,rfl,?_⟩
  by_cases h0:a=0
  ·subst h0;simpa using k
  ·have:((a:Int) !=0)=true:=by simpa using h0
   rw [this];rw [if_neg h0]at k;simpa using k
 ·rw [if_neg (by simpa using e1),if_neg (by simpa using e2),if_neg (by simpa using e3),if_pos (by simpa using e4)]at k
  refine dz (by omega) ⟨_,rfl,C3 ⟨_,rfl,?_⟩⟩
  by_cases h0:a=2^w-1
  ·have:((a:Int)==((2^w:Nat):Int)-1)=true:=by rw [beq_iff_eq];omega
   rw [this];rw [if_pos h0]at k;simpa using k
  ·have:((a:Int)==((2^w:Nat):Int)-1)=false:=by rw [beq_eq_false_iff_ne];omega
   rw [this];rw [if_neg h0]at k;simpa using k
 ·rw [if_neg (by simpa using e1),if_neg (by simpa using e2),if_neg (by simpa using e3),if_neg (by simpa using e4)]at k
  rw [cQ (by omega)]
  refine Ii (by omega) ⟨_,rfl,?_⟩
  have:=SH ha (16-w)
  rw [show w+(16-w)=16 by omega]at this
  rw [this,Ja];exact k
theorem CH {h:Hp} {kind:Int} {w a:Nat} {R:Value->Hp->Prop} (hk:1<=kind/\kind<=5) (e:WO w a)
  (k:R (.tuple #[I (zl kind w a).1,I (zl kind w a).2, .bool true]) h):oQ #[I kind,I w,I a] h R:=by
 apply HD
 refine uf_ ?_
 have h16:=e.pow
 have hp:=bL w
 have ha:=e.2
 have hw:=e.1
 unfold zl at k
 refine cD ⟨_,rfl,aA (by rw [e.ok];rfl) ?_⟩
 refine ad (fun e1=>?_) (fun e1=>ad (fun e2=>?_) (fun e2=>ad (fun e3=>?_) (fun e3=>ad (fun e4=>?_) (fun e4=>?_))))
 ·rw [if_pos (by simpa using e1)]at k
  rw [cQ (by omega),if_neg (by omega),cg (by omega),bQ (n:=((2^w:Nat):Int)-1) (by omega) (by omega)]
  have:W ((((2^w:Nat):Int)-1)-a)=((2^w-1-a:Nat):Int):=by rw [bQ (by omega) (by omega)];omega
  rw [this];exact k
 ·rw [if_neg (by simpa using e1),if_pos (by simpa using e2)]at k
  rw [bQ (n:=0-(a:Int)) (by omega) (by omega),Int.zero_sub]
  exact iy hw ⟨_,rfl,k⟩
 ·rw [if_neg (by simpa using e1),if_neg (by simpa using e2),if_pos (by simpa using e3)]at k
  refine tG ⟨_,rfl,?_⟩
  by_cases h0:a=0
  ·subst h0;simpa using k
  ·have:decide ((a:Int)>0)=true:=by simp;omega
   rw [this];rw [if_neg h0]at k;simpa using k
 ·rw [if_neg (by simpa using e1),if_neg (by simpa using e2),if_neg (by simpa using e3),if_pos (by simpa using e4)]at k
  refine Fn (by omega) ⟨_,rfl,tG ⟨_,rfl,?_⟩⟩
  have hf:=Sa ha
  by_cases h0:a=2^w-1
  ·have:(((j7 w a:Nat):Int)==(w:Int))=true:=by rw [beq_iff_eq,hf.2 h0]
   rw [this];rw [if_pos h0]at k;simpa using k
  ·have:(((j7 w a:Nat):Int)==(w:Int))=false:=by rw [beq_eq_false_iff_ne];intro he;exact h0 (hf.1 (by omega))
   rw [this];rw [if_neg h0]at k;simpa using k
 ·rw [if_neg (by simpa using e1),if_neg (by simpa using e2),if_neg (by simpa using e3),if_neg (by simpa using e4)]at k
  have:kind=5:=by
   have h1:kind≠1:=by simpa using e1
   have h2:kind≠2:=by simpa using e2
   have h3:kind≠3:=by simpa using e3
   have h4:kind≠4:=by simpa using e4
   omega
  refine aL (by simpa using this) (Fn (by omega) ⟨_,rfl,?_⟩)
  rw [Ja];exact k
theorem ee (a b:Nat):Int.tmod (a:Int) (b:Int)=((a%b:Nat):Int):=(Int.ofNat_tmod a b).symm
theorem tm (a b:Nat):Int.tdiv (a:Int) (b:Int)=((a/b:Nat):Int):=(Int.ofNat_tdiv a b).symm
theorem ET {a b:Nat} (ha:a<65536) (hb:b<=65536):a*b<=4294967296:=by
 have:=Nat.mul_le_mul (Nat.le_of_lt ha) hb
 omega
theorem E5 {w a:Nat} (e:WO w a): -65536<=sgn w a/\sgn w a<=65536:=by
 have h:=LZ e.1.1 e.2
 have hp:=rx e.1.1
 have h16:=e.pow
 omega
theorem bz {a b:Int} (e:(a==b)=false): ¬a=b:=by simpa using e
theorem bU {a b:Int} (e:(a==b)=true):a=b:=by simpa using e
theorem Fl {h:Hp} {w a p:Nat} {R:Value->Hp->Prop} (e:WO w a) (k:R (I (HE w a (p%w))) h):qP #[I w,I a,I p] h R:=by
 apply JP
 refine uf_ ?_
 obtain⟨⟨h1,h2⟩,ha⟩:=e
 have h16:=Bb h2
 have hm:p%w<w:=Nat.mod_lt _ (by omega)
 have hpm:=Bb (w:=p%w) (by omega)
 have ht:Int.tmod (p:Int) (w:Int)=((p%w:Nat):Int):=ee p w
 have hw:W ((w:Int)-((p%w:Nat):Int))=((w-p%w:Nat):Int):=by rw [bQ (by omega) (by omega)];omega
 have hmul:=ET (a:=a) (b:=2^(p%w)) (by omega) hpm
 rw [if_neg (by omega),ht,if_neg (by omega),hw,if_neg (by omega)]
 refine dz (by omega) ⟨_,rfl,?_⟩
 have hd:a/2^(w-p%w)<=a:=Nat.div_le_self _ _
 rw [iU (by omega) (by omega),jn (by omega),CP (by omega) (by omega),gP (by omega),oK]
 exact k
theorem Ni {h:Hp} {kind:Int} {w a b:Nat} {R:Value->Hp->Prop} (hk:kind=14\/kind=15) (ea:WO w a) (eb:WO w b)
  (k:R (I ((if kind=14 then LL w a b else LK w a b:Nat):Int)) h):tD #[I kind,I w,I a,I b] h R:=by
 apply I6
 refine uf_ ?_
 have h16:=ea.pow
 have hp:=bL w
 have sa:=E5 ea
 have sb:=E5 eb
 have hw:=ea.1
 refine oE ea ⟨_,rfl,oE eb ⟨_,rfl,?_⟩⟩
 unfold LL LK at k
 by_cases hy:sgn w b=0
 ·rw [if_pos hy,if_pos hy]at k
  rw [hy]
  refine aq (fun J=>J (decide (kind=15))) ?_ (fun J hJ=>aL rfl (by rw [show (kind==15)=decide (kind=15)from rfl];exact hJ))
  refine ad (fun e=>?_) (fun e=>?_)
  ·have e':kind=15:=by simpa using e
   rw [if_neg (by omega)]at k;exact k
  ·have e':kind=14:=by have: ¬kind=15:=by simpa using e
                       omega
   rw [if_pos e']at k
   refine aq (fun J=>J (decide (sgn w a<0))) ?_ (fun J hJ=>aL rfl hJ)
   refine ad (fun e=>?_) (fun e=>aL rfl (dz (by omega) ⟨_,rfl,?_⟩))
   ·rw [if_pos (by simpa using e)]at k;exact k
   ·rw [if_neg (by simpa using e)]at k
    have:((2^w-1:Nat):Int)=((2^w:Nat):Int)-1:=by omega
    rw [<-this];exact k
 ·rw [if_neg hy,if_neg hy]at k
  have hyb:(sgn w b==0)=false:=by simpa using hy
  refine aq (fun J=>J false) ?_ (fun J hJ=>aA hyb hJ)
  refine aA rfl (aq (fun J=>J false) ?_ (fun J hJ=>aA hyb hJ))
  refine aA rfl (aA hyb ?_)
  have hdiv:(Int.tdiv (sgn w a) (sgn w b)).natAbs<=65536:=by
   rw [Int.natAbs_tdiv]
   exact Nat.le_trans (Nat.div_le_self _ _) (by omega)
  refine ad (fun e=>?_) (fun e=>?_)
  ·rw [if_pos (by simpa using e)]at k
   rw [if_neg hy]
   refine dz (by omega) ⟨_,rfl,?_⟩
   rw [bQ (by omega) (by omega),gP (by omega)];exact k
  ·rw [if_neg (by simpa using e)]at k
   rw [if_neg hy]
   refine dz (by omega) ⟨_,rfl,?_⟩
   rw [gP (by omega)];exact k
def EG (kind:Int) (w a b:Nat):Nat:=if kind=16 then abT w a b else if kind=17 then abV w a b else abi w a b
theorem MN {h:Hp} {kind:Int} {w a b:Nat} {R:Value->Hp->Prop} (ea:WO w a) (hb:b<=65536)
  (k:R (I (EG kind w a b)) h):tq #[I kind,I w,I a,I b] h R:=by
 apply Ie
 refine uf_ ?_
 have h16:=ea.pow
 have ha:=ea.2
 have hw:=ea.1
 have hmin:(if(w:Int)<(b:Int)then(w:Int)else(b:Int))=((min b w:Nat):Int):=by
  by_cases h:w<b
  ·rw [if_pos (by omega),Nat.min_eq_right (by omega)]
  ·rw [if_neg (by omega),Nat.min_eq_left (by omega)]
 have hm:min b w<=w:=Nat.min_le_right _ _
 have hpm:=Bb (w:=min b w) (by omega)
 have hmul:=ET (a:=a) (b:=2^min b w) (by omega) hpm
 unfold EG at k
 rw [hmin]
 refine ad (fun e=>?_) (fun e=>ad (fun e2=>?_) (fun e2=>?_))
 ·rw [if_pos (bU e)]at k
  rw [if_neg (by omega)]
  refine dz (by omega) ⟨_,rfl,?_⟩
  rw [iU (by omega) (by omega),gP (by omega),oK];exact k
 ·rw [if_neg (bz e),if_pos (bU e2)]at k
  rw [if_neg (by omega),jn (by omega)];exact k
 ·rw [if_neg (bz e),if_neg (bz e2)]at k
  refine oE ea ⟨_,rfl,?_⟩
  rw [if_neg (by omega)]
  refine dz (by omega) ⟨_,rfl,?_⟩
  rw [Yh (by omega),gP (by omega)];exact k
theorem Ku {h:Hp} {kind:Int} {w a b:Nat} {R:Value->Hp->Prop} (hk:21<=kind/\kind<=28) (ea:WO w a) (eb:WO w b)
  (k:R (.bool (Fd kind w a b)) h):rV #[I kind,I w,I a,I b] h R:=by
 apply FA
 refine uf_ ?_
 have h16:=ea.pow
 have hp:=bL w
 have sa:=E5 ea
 have sb:=E5 eb
 have ha:=ea.2
 have hb:=eb.2
 have hw:=ea.1
 unfold Fd at k
 have dd: ∀{p q:Prop} [Decidable p] [Decidable q],(p↔q)->decide p=decide q:=fun h=>by rw [decide_eq_decide];exact h
 refine oE ea ⟨_,rfl,oE eb ⟨_,rfl,?_⟩⟩
 refine ad (fun e1=>?_) (fun e1=>ad (fun e2=>?_) (fun e2=>ad (fun e3=>?_) (fun e3=>ad (fun e4=>?_) (fun e4=>ad (fun e5=>?_) (fun e5=>ad (fun e6=>?_) (fun e6=>ad (fun e7=>?_) (fun e7=>?_)))))))
 ·rw [if_pos (bU e1)]at k
  have:((a:Int)==(b:Int))=decide (a=b):=by rw [Bool.eq_iff_iff];simp;omega
  rw [this];exact k
 all_goals rw [if_neg (bz e1)]at k
 ·rw [if_pos (bU e2)]at k
  rw [dd (p:=(a:Int)<(b:Int)) (q:=a<b) (by omega)];exact k
 all_goals rw [if_neg (bz e2)]at k
 ·rw [if_pos (bU e3)]at k;exact k
 all_goals rw [if_neg (bz e3)]at k
 ·rw [if_pos (bU e4)]at k
  rw [dd (p:=(a:Int)<=(b:Int)) (q:=a<=b) (by omega)];exact k
 all_goals rw [if_neg (bz e4)]at k
 ·rw [if_pos (bU e5)]at k;exact k
 all_goals rw [if_neg (bz e5)]at k
 ·rw [if_pos (bU e6)]at k
  refine dz (by omega) ⟨_,rfl,?_⟩
  rw [bQ (by omega) (by omega),dd (p:=(a:Int)+(b:Int)>((2^w:Nat):Int)-1) (q:=2^w<=a+b) (by omega)];exact k
 all_goals rw [if_neg (bz e6)]at k
 ·rw [if_pos (bU e7)]at k
  have w1:W ((w:Int)-1)=((w-1:Nat):Int):=by rw [bQ (by omega) (by omega)];omega
  have hpp:=rx hw.1
  rw [w1,if_neg (by omega),if_neg (by omega),Yk (by omega),cg (by omega),bQ (n:=sgn w a+sgn w b) (by omega) (by omega),bQ (n:=((2^(w-1):Nat):Int)-1) (by omega) (by omega)]
  refine gR ⟨_,rfl,?_⟩
  rw [dd (p:= -((2^(w-1):Nat):Int)<=sgn w a+sgn w b/\sgn w a+sgn w b<=((2^(w-1):Nat):Int)-1) (q:= -((2^(w-1):Nat):Int)<=sgn w a+sgn w b/\sgn w a+sgn w b<((2^(w-1):Nat):Int)) (by omega)]
  exact k
 ·rw [if_neg (bz e7)]at k
  have hmul:=ET (a:=a) (b:=b) (by omega) (by omega)
  have hmi:(a:Int)*(b:Int)=((a*b:Nat):Int):=(Int.natCast_mul _ _).symm
  refine dz (by omega) ⟨_,rfl,?_⟩
  rw [hmi]
  generalize a*b=ab at*
  rw [fj (by omega),dd (p:=(ab:Int)>((2^w:Nat):Int)-1) (q:=2^w<=ab) (by omega)];exact k
theorem XF {h:Hp} {kind:Int} {w a b:Nat} {R:Value->Hp->Prop} (hk:6<=kind/\kind<=28) (ea:WO w a) (eb:WO w b)
  (k:R (.tuple #[I (t5 kind w a b).1,I (t5 kind w a b).2]) h):BS #[I kind,I w,I a,I b] h R:=by
 apply RH
 refine uf_ ?_
 have h16:=ea.pow
 have hp:=bL w
 have ha:=ea.2
 have hb:=eb.2
 have hw:=ea.1
 have hand:a&&&b<=a:=Nat.and_le_left
 have hmul:=ET (a:=a) (b:=b) (by omega) (by omega)
 by_cases h20:kind<=20
 rotate_left
 ·have t:t5 kind w a b=(if Fd kind w a b then 1 else 0,1):=by unfold t5;rw [if_neg h20]
  rw [t]at k
  have nb: ∀n:Int,n<=20->(kind==n)=false:=fun n hn=>by rw [beq_eq_false_iff_ne];omega
  refine aA (nb _ (by omega)) (aA (nb _ (by omega)) (aA (nb _ (by omega)) (aA (nb _ (by omega)) (aA (nb _ (by omega)) (aA (nb _ (by omega)) (aA (nb _ (by omega)) (aA (nb _ (by omega)) ?_)))))))
  refine aq (fun J=>J false) ?_ (fun J hJ=>aA (nb _ (by omega)) (by rw [nb 15 (by omega)];exact hJ))
  refine aA rfl (aq (fun J=>J false) ?_ (fun J hJ=>aA (nb _ (by omega)) (aA (nb _ (by omega)) (by rw [nb 18 (by omega)];exact hJ))))
  refine aA rfl (aA (nb _ (by omega)) (aA (nb _ (by omega)) ?_))
  refine Ku (by omega) ea eb ⟨_,rfl,C3 ⟨_,rfl,?_⟩⟩
  cases hs:Fd kind w a b
  ·rw [hs]at k;simpa using k
  ·rw [hs]at k;simpa using k
 have t:t5 kind w a b=(HL kind w a b,w):=by unfold t5;rw [if_pos h20]
 rw [t]at k
 unfold HL at k
 simp only at k
 refine ad (fun e=>?_) (fun e6=>?_)
 ·rw [if_pos (bU e)]at k;rw [zA (by omega) (by omega)];exact k
 rw [if_neg (bz e6)]at k
 refine ad (fun e=>?_) (fun e7=>?_)
 ·rw [if_pos (bU e)]at k;rw [CP (by omega) (by omega)];exact k
 rw [if_neg (bz e7)]at k
 refine ad (fun e=>?_) (fun e8=>?_)
 ·rw [if_pos (bU e)]at k;rw [O1 (by omega) (by omega)];exact k
 rw [if_neg (bz e8)]at k
 refine ad (fun e=>?_) (fun e9=>?_)
 ·rw [if_pos (bU e)]at k
  refine dz (by omega) ⟨_,rfl,?_⟩
  rw [bQ (by omega) (by omega),gP (by omega)];exact k
 rw [if_neg (bz e9)]at k
 refine ad (fun e=>?_) (fun e10=>?_)
 ·rw [if_pos (bU e)]at k
  refine dz (by omega) ⟨_,rfl,?_⟩
  rw [bQ (by omega) (by omega),gP (by omega)];exact k
 rw [if_neg (bz e10)]at k
 refine ad (fun e=>?_) (fun e11=>?_)
 ·rw [if_pos (bU e)]at k
  refine dz (by omega) ⟨_,rfl,?_⟩
  have hmi:(a:Int)*(b:Int)=((a*b:Nat):Int):=(Int.natCast_mul _ _).symm
  rw [hmi]at k⊢
  generalize a*b=ab at*
  rw [fj (by omega),gP (by omega)];exact k
 rw [if_neg (bz e11)]at k
 refine ad (fun e=>?_) (fun e12=>?_)
 ·rw [if_pos (bU e)]at k
  refine dz (by omega) ⟨_,rfl,ad (fun eb0=>?_) (fun eb0=>?_)⟩
  ·have hb0: ¬b=0:=by have:=of_decide_eq_true eb0;omega
   rw [if_neg hb0]at k
   have hd:=Nat.div_le_self a b
   rw [if_neg (by omega),tm,fj (by omega)];exact k
  ·have hb0:b=0:=by have:=of_decide_eq_false eb0;omega
   rw [if_pos hb0]at k
   have:((2^w-1:Nat):Int)=((2^w:Nat):Int)-1:=by omega
   rw [<-this];exact k
 rw [if_neg (bz e12)]at k
 refine ad (fun e=>?_) (fun e13=>?_)
 ·rw [if_pos (bU e)]at k
  refine ad (fun eb0=>?_) (fun eb0=>?_)
  ·have hb0: ¬b=0:=by have:=of_decide_eq_true eb0;omega
   rw [if_neg hb0]at k
   rw [if_neg (by omega),ee];exact k
  ·have hb0:b=0:=by have:=of_decide_eq_false eb0;omega
   rw [if_pos hb0]at k;exact k
 rw [if_neg (bz e13)]at k
 refine aq (fun J=>J (decide (kind=14\/kind=15))) ?_ ?_
 rotate_left
 ·intro J hJ
  refine ad (fun e=>?_) (fun e=>?_)
  ·rw [decide_eq_true (.inl (bU e))]at hJ;exact hJ
  ·have:(kind==15)=decide (kind=14\/kind=15):=by
    have:=bz e
    rw [Bool.eq_iff_iff];simp [this]
   rw [this];exact hJ
 refine ad (fun e=>?_) (fun e1415=>?_)
 ·have e':kind=14\/kind=15:=by simpa using e
  refine Ni e' ea eb ⟨_,rfl,?_⟩
  rcases e' with rfl|rfl
  ·simpa using k
  ·simpa using k
 have n14: ¬kind=14/\ ¬kind=15:=by simpa using e1415
 rw [if_neg n14.1,if_neg n14.2]at k
 refine aq (fun J=>J (decide (kind=16\/kind=17\/kind=18))) ?_ ?_
 rotate_left
 ·intro J hJ
  refine ad (fun e=>?_) (fun e=>ad (fun e2=>?_) (fun e2=>?_))
  ·rw [decide_eq_true (.inl (bU e))]at hJ;exact hJ
  ·rw [decide_eq_true (.inr (.inl (bU e2)))]at hJ;exact hJ
  ·have:(kind==18)=decide (kind=16\/kind=17\/kind=18):=by
    have h1:=bz e
    have h2:=bz e2
    rw [Bool.eq_iff_iff];simp [h1,h2]
   rw [this];exact hJ
 refine ad (fun e=>?_) (fun e1618=>?_)
 ·have e':kind=16\/kind=17\/kind=18:=by simpa using e
  refine MN ea (by omega) ⟨_,rfl,?_⟩
  unfold EG
  rcases e' with rfl|rfl|rfl
  ·simpa using k
  ·simpa using k
  ·simpa using k
 have n16: ¬kind=16/\ ¬kind=17/\ ¬kind=18:=by simpa using e1618
 rw [if_neg n16.1,if_neg n16.2.1,if_neg n16.2.2]at k
 refine ad (fun e=>?_) (fun e19=>?_)
 ·rw [if_pos (bU e)]at k
  exact Fl ea ⟨_,rfl,k⟩
 rw [if_neg (bz e19)]at k
 have h20':kind=20:=by
  have:=bz e6;have:=bz e7;have:=bz e8;have:=bz e9;have:=bz e10;have:=bz e11;have:=bz e12;have:=bz e13;have:=bz e19
  omega
 refine aL (by simpa using h20') ?_
 have hm:b%w<w:=Nat.mod_lt _ (by omega)
 have hw2:W ((w:Int)-((b%w:Nat):Int))=((w-b%w:Nat):Int):=by rw [bQ (by omega) (by omega)];omega
 rw [if_neg (by omega),ee,hw2]
 exact Fl ea ⟨_,rfl,k⟩
def Jo (kind:Int) (x y:Bool):Bool:=if kind=8 then x^^y else if kind=7 then x||y else x&&y
theorem Nk {c:Bool} {n:Nat} (hn:n<=62):ax (if c then 1 else 0) (n:Int)=((if c then 2^n else 0:Nat):Int):=by
 cases c
 ·have:=iU (a:=0) (n:=n) (by omega) (by omega);simpa using this
 ·have:=cg hn;simpa using this
theorem LO {i:Nat} {f:Nat->Bool} {c:Bool} (hi:i<=60) (hc:c=f i):W ((db i f:Int)+((if c then 2^i else 0:Nat):Int))=((db (i+1) f:Nat):Int):=by
 have h1:=td i f
 have h2:=nL (n:=i) (by omega)
 subst hc
 simp only [db]
 rw [bQ (by split<;>omega) (by split<;>omega)]
 omega
theorem OC {h:Hp} {kind:Int} {w a b:Nat} {R:Value->Hp->Prop} (hw:w<=16)
  (k:R (I (db w fun i=>Jo kind (a.testBit i) (b.testBit i))) h):uZ #[I kind,I w,I a,I b] h R:=by
 apply Ky
 refine uf_ ?_
 refine ar w (fun i vs h'=>vs= [I kind,I w,I a,I b,I (db i fun i=>Jo kind (a.testBit i) (b.testBit i)),I i]/\h'=h) ⟨rfl,rfl⟩ ?_
 rintro i _ _ next hi ⟨rfl,rfl⟩ hn
 refine⟨_,_,_,_,_,_,rfl,?_⟩
 by_cases hlt:i<w
 ·refine aL (by simp [hlt]) (iQ (by omega) ⟨_,rfl,iQ (by omega) ⟨_,rfl,?_⟩⟩)
  have hn':=hn hlt _ _ ⟨rfl,rfl⟩
  generalize hx:a.testBit i=x at*
  generalize hy:b.testBit i=y at*
  refine aq (fun J=>J (if kind=7 then(if x||y then 1 else 0)else(if x&&y then 1 else 0))) ?_ ?_
  ·refine aq (fun J=>J (if Jo kind x y then 1 else 0)) ?_ ?_
   ·rw [cQ (by omega),if_neg (by omega),Nk (by omega),LO (by omega) (by rw [hx,hy]),aw (by omega)]
    exact hn'
   ·intro J hJ
    refine ad (fun e=>?_) (fun e=>?_)
    ·have:Jo kind x y=(x^^y):=by unfold Jo;rw [if_pos (bU e)]
     rw [this]at hJ
     revert hJ;cases x<;>cases y<;>exact id
    ·have:Jo kind x y=if kind=7 then x||y else x&&y:=by unfold Jo;rw [if_neg (bz e)]
     rw [this]at hJ
     by_cases h7:kind=7
     ·rw [if_pos h7]at hJ⊢;exact hJ
     ·rw [if_neg h7]at hJ⊢;exact hJ
  ·intro J hJ
   refine ad (fun e=>?_) (fun e=>?_)
   ·rw [if_pos (bU e)]at hJ
    revert hJ;cases x<;>cases y<;>exact id
   ·rw [if_neg (bz e)]at hJ
    revert hJ;cases x<;>cases y<;>exact id
 ·have:i=w:=by omega
  subst this
  exact aA (by simp) k
theorem QY {h:Hp} {kind:Int} {w a b:Nat} {R:Value->Hp->Prop} (ea:WO w a) (eb:WO w b)
  (k:R (I ((if kind=12 then(if b=0 then 2^w-1 else a/b)else if b=0 then a else a%b:Nat))) h):xg #[I kind,I w,I a,I b] h R:=by
 apply Nb
 refine uf_ ?_
 have h16:=ea.pow
 have hp:=bL w
 have ha:=ea.2
 have hw:=ea.1
 refine ad (fun e=>?_) (fun e=>?_)
 ·rw [if_pos (bU e)]at k
  refine ad (fun e0=>?_) (fun e0=>?_)
  ·have hb0:b=0:=by have:=bU e0;omega
   rw [if_pos hb0]at k
   rw [cQ (by omega),if_neg (by omega),cg (by omega),bQ (by omega) (by omega)]
   have:((2^w-1:Nat):Int)=((2^w:Nat):Int)-1:=by omega
   rw [<-this];exact k
  ·have hb0: ¬b=0:=by have:=bz e0;omega
   rw [if_neg hb0]at k
   have hd:=Nat.div_le_self a b
   rw [if_neg (by omega),tm,fj (by omega)];exact k
 ·rw [if_neg (bz e)]at k
  refine ad (fun e0=>?_) (fun e0=>?_)
  ·have hb0:b=0:=by have:=bU e0;omega
   rw [if_pos hb0]at k;exact k
  ·have hb0: ¬b=0:=by have:=bz e0;omega
   rw [if_neg hb0]at k
   rw [if_neg (by omega),ee];exact k
theorem Qf {h:Hp} {kind:Int} {w a b:Nat} {R:Value->Hp->Prop} (hk:kind=14\/kind=15) (ea:WO w a) (eb:WO w b)
  (k:R (I ((if kind=14 then LL w a b else LK w a b:Nat):Int)) h):vr #[I kind,I w,I a,I b] h R:=by
 apply JN
 refine uf_ ?_
 have h16:=ea.pow
 have hp:=bL w
 have sa:=E5 ea
 have sb:=E5 eb
 have hw:=ea.1
 refine je ea ⟨_,rfl,je eb ⟨_,rfl,?_⟩⟩
 unfold LL LK at k
 refine ad (fun e=>?_) (fun e=>?_)
 ·have e':=bU e
  rw [if_neg (by omega)]at k
  refine ad (fun e0=>?_) (fun e0=>?_)
  ·rw [if_pos (bU e0)]at k;exact k
  ·rw [if_neg (bz e0)]at k
   rw [if_neg (bz e0)]
   exact iy hw ⟨_,rfl,k⟩
 ·have e':kind=14:=by have:=bz e;omega
  rw [if_pos e']at k
  by_cases hy:sgn w b=0
  ·rw [if_pos hy]at k
   have hyb:(sgn w b==0)=true:=by simpa using hy
   refine aq (fun J=>J (decide (sgn w a<0))) ?_ (fun J hJ=>aL hyb hJ)
   refine ad (fun e=>?_) (fun e=>aL hyb ?_)
   ·rw [if_pos (of_decide_eq_true e)]at k;exact k
   ·rw [if_neg (of_decide_eq_false e)]at k
    rw [cQ (by omega),if_neg (by omega),cg (by omega),bQ (by omega) (by omega)]
    have:((2^w-1:Nat):Int)=((2^w:Nat):Int)-1:=by omega
    rw [<-this];exact k
  ·rw [if_neg hy]at k
   have hyb:(sgn w b==0)=false:=by simpa using hy
   refine aq (fun J=>J false) ?_ (fun J hJ=>aA hyb hJ)
   refine aA rfl (aA hyb ?_)
   have hdiv:(Int.tdiv (sgn w a) (sgn w b)).natAbs<=65536:=by
    rw [Int.natAbs_tdiv]
    exact Nat.le_trans (Nat.div_le_self _ _) (by omega)
   rw [if_neg hy,bQ (by omega) (by omega)]
   exact iy hw ⟨_,rfl,k⟩
theorem MM {h:Hp} {kind:Int} {w a b:Nat} {R:Value->Hp->Prop} (hk:kind=16\/kind=17\/kind=18) (ea:WO w a) (hb:b<=65536)
  (k:R (I (EG kind w a b)) h):pN #[I kind,I w,I a,I b] h R:=by
 have hw:=ea.1
 have key: ∀f:Nat->Bool,db w f=EG kind w a b->
   (∀i,i<w->f i=if kind=16 then decide (b<=i)&&a.testBit (i-b)else if kind=17 then decide (i+b<w)&&a.testBit (i+b)else if i+b<w then a.testBit (i+b)else a.testBit (w-1))->
   pN #[I kind,I w,I a,I b] h R:=by
  intro f hcode hf
  apply Ic
  refine uf_ ?_
  refine ar w (fun i vs h'=>vs= [I kind,I w,I a,I b,I (db i f),I i]/\h'=h) ⟨rfl,rfl⟩ ?_
  rintro i _ h' next hi ⟨rfl,rfl⟩ hn
  refine⟨_,_,_,_,_,_,rfl,?_⟩
  by_cases hlt:i<w
  ·refine aL (by simp [hlt]) ?_
   have hn':=hn hlt _ _ ⟨rfl,rfl⟩
   have hfi:=hf i hlt
   refine aq (fun J=>J (if kind=16 then(i:Int)-b else(i:Int)+b)) ?_ ?_
   ·refine aq (fun J=>J (decide (0<=(if kind=16 then(i:Int)-b else(i:Int)+b)/\(if kind=16 then(i:Int)-b else(i:Int)+b)<w))) ?_ ?_
    ·refine aq (fun J=>J (if f i then 1 else 0) h') ?_ ?_
     ·rw [cQ (by omega),if_neg (by omega),Nk (by omega),LO (by omega) rfl,aw (by omega)]
      exact hn'
     ·intro J hJ
      refine ad (fun e=>?_) (fun e=>?_)
      ·have e':=of_decide_eq_true e
       by_cases h16:kind=16
       ·rw [if_pos h16]at e' hfi⊢
        rw [show (i:Int)-b=((i-b:Nat):Int) by omega]
        refine iQ (by omega) ⟨_,rfl,?_⟩
        rw [hfi]at hJ
        have:decide (b<=i)=true:=by simp;omega
        rw [this,Bool.true_and]at hJ;exact hJ
       ·rw [if_neg h16]at e' hfi⊢
        rw [show (i:Int)+b=((i+b:Nat):Int) by omega]
        refine iQ (by omega) ⟨_,rfl,?_⟩
        have h1:decide (i+b<w)=true:=by simp;omega
        rw [h1,Bool.true_and,if_pos (show i+b<w by omega),ite_self]at hfi
        rw [hfi]at hJ;exact hJ
      ·have e':=of_decide_eq_false e
       refine ad (fun e2=>?_) (fun e2=>?_)
       ·have h18:=bU e2
        rw [if_neg (by omega)]at e'
        rw [if_neg (by omega),if_neg (by omega),if_neg (by omega)]at hfi
        rw [show W ((w:Int)-1)=((w-1:Nat):Int) by rw [bQ (by omega) (by omega)];omega]
        refine iQ (by omega) ⟨_,rfl,?_⟩
        rw [hfi]at hJ;exact hJ
       ·have h18:=bz e2
        have:f i=false:=by
         rw [hfi]
         by_cases h16:kind=16
         ·rw [if_pos h16]at e'⊢
          have:decide (b<=i)=false:=by simp;omega
          rw [this,Bool.false_and]
         ·rw [if_neg h16]at e'⊢
          rw [if_pos (by omega)]
          have:decide (i+b<w)=false:=by simp;omega
          rw [this,Bool.false_and]
        rw [this]at hJ
        exact hJ
    ·intro J hJ
     generalize (if kind=16 then(i:Int)-b else(i:Int)+b)=z at*
     refine ad (fun e=>?_) (fun e=>?_)
     ·have:0<=z:=of_decide_eq_true e
      rw [show decide (0<=z/\z<(w:Int))=decide (z<(w:Int)) by rw [decide_eq_decide];omega]at hJ;exact hJ
     ·have: ¬0<=z:=of_decide_eq_false e
      rw [show decide (0<=z/\z<(w:Int))=false by rw [decide_eq_false_iff_not];omega]at hJ;exact hJ
   ·intro J hJ
    refine ad (fun e=>?_) (fun e=>?_)
    ·rw [if_pos (bU e)]at hJ;rw [bQ (by omega) (by omega)];exact hJ
    ·rw [if_neg (bz e)]at hJ;rw [bQ (by omega) (by omega)];exact hJ
  ·have:i=w:=by omega
   subst this
   refine aA (by simp) ?_
   rw [hcode];exact k
 rcases hk with rfl|rfl|rfl
 ·exact key (fun i=>decide (b<=i)&&a.testBit (i-b)) YD (fun i _=>rfl)
 ·exact key (fun i=>decide (i+b<w)&&a.testBit (i+b)) (YR ea.2) (fun i _=>rfl)
 ·exact key (fun i=>if i+b<w then a.testBit (i+b)else a.testBit (w-1)) (Xx hw.1 hw.2 ea.2) (fun i _=>rfl)
theorem Pa {h:Hp} {kind:Int} {w a b:Nat} {R:Value->Hp->Prop} (hk:kind=19\/kind=20) (ea:WO w a)
  (k:R (I ((if kind=19 then HE w a (b%w)else HE w a ((w-b%w)%w):Nat))) h):qG #[I kind,I w,I a,I b] h R:=by
 have hw:=ea.1
 have hm:b%w<w:=Nat.mod_lt _ (by omega)
 have key: ∀s:Nat,s<w->R (I (HE w a s)) h->(∀i,i<w->(if kind=20 then(i+w-b%w)%w else(i+b%w)%w)=(i+s)%w)->
   qG #[I kind,I w,I a,I b] h R:=by
  intro s hs k hto
  apply Kl
  refine uf_ ?_
  refine ar w (fun i vs h'=>vs= [I kind,I w,I a,I b,I (db w fun j=>decide ((j+(w-s))%w<i)&&a.testBit ((j+(w-s))%w)),I i]/\h'=h) ⟨?_,rfl⟩ ?_
  ·have:db w (fun j=>decide ((j+(w-s))%w<0)&&a.testBit ((j+(w-s))%w))=0:=
    jR (bL w) fun i _=>by simp
   rw [this];rfl
  rintro i _ h' next hi ⟨rfl,rfl⟩ hn
  refine⟨_,_,_,_,_,_,rfl,?_⟩
  by_cases hlt:i<w
  ·refine aL (by simp [hlt]) ?_
   have hn':=hn hlt _ _ ⟨rfl,rfl⟩
   have hst:=Vb (a:=a) hs hlt
   have hto:=hto i hlt
   rw [if_neg (by omega),ee]
   have hpw:(i+s)%w<w:=Nat.mod_lt _ (by omega)
   refine aq (fun J=>J ((if kind=20 then i+w-b%w else i+b%w:Nat):Int)) ?_ ?_
   ·have ht:Int.tmod ((if kind=20 then i+w-b%w else i+b%w:Nat):Int) (w:Int)=(((i+s)%w:Nat):Int):=by
     rw [ee,<-hto]
     split<;>rfl
    rw [if_neg (by omega),ht,cQ (by omega)]
    have step:W ((db w (fun j=>decide ((j+(w-s))%w<i)&&a.testBit ((j+(w-s))%w)):Int)+ax (if a.testBit i then 1 else 0) (((i+s)%w:Nat):Int))=
      ((db w (fun j=>decide ((j+(w-s))%w<i+1)&&a.testBit ((j+(w-s))%w)):Nat):Int):=by
     rw [Nk (by omega),<-hst,<-Int.natCast_add,fj]
     rw [hst]
     have:=td w (fun j=>decide ((j+(w-s))%w<i+1)&&a.testBit ((j+(w-s))%w))
     have:=Bb hw.2
     omega
    have one:dT #[I a,I i] h' fun v25 h26=> ∃(x27:Int),v25=(I x27)/\(if(((i+s)%w:Nat):Int)<0 then False else next [I kind,I w,I a,I b,I (W ((db w (fun j=>decide ((j+(w-s))%w<i)&&a.testBit ((j+(w-s))%w)):Int)+ax x27 (((i+s)%w:Nat):Int))),I (W ((i:Int)+1))] h26):=by
     refine iQ (by omega) ⟨_,rfl,?_⟩
     rw [if_neg (by omega),step,aw (by omega)]
     exact hn'
    exact⟨one,one⟩
   ·intro J hJ
    refine ad (fun e=>?_) (fun e=>?_)
    ·rw [if_pos (bU e)]at hJ
     rw [if_neg (by omega)]
     have:W (W ((i:Int)+w)-((b%w:Nat):Int))=((i+w-b%w:Nat):Int):=by rw [bQ (n:=(i:Int)+w) (by omega) (by omega),bQ (by omega) (by omega)];omega
     rw [this];exact hJ
    ·rw [if_neg (bz e)]at hJ
     have:W ((i:Int)+((b%w:Nat):Int))=((i+b%w:Nat):Int):=by rw [bQ (by omega) (by omega)];omega
     rw [this];exact hJ
  ·have:i=w:=by omega
   subst this
   refine aA (by simp) ?_
   have:db i (fun j=>decide ((j+(i-s))%i<i)&&a.testBit ((j+(i-s))%i))=HE i a s:=by
    rw [<-aal ea.2 hs]
    refine ut fun j _=>?_
    have:decide ((j+(i-s))%i<i)=true:=by
     rw [decide_eq_true_eq];exact Nat.mod_lt _ (by omega)
    rw [this,Bool.true_and]
   rw [this];exact k
 rcases hk with rfl|rfl
 ·refine key (b%w) hm k fun i _=>?_
  rw [if_neg (by omega)]
 ·rw [if_neg (by omega)]at k
  refine key ((w-b%w)%w) (Nat.mod_lt _ (by omega)) k fun i _=>?_
  rw [if_pos rfl,Nat.add_mod_mod]
  congr 1
  omega
theorem zQ {b:Bool} {R:Value->Hp->Prop} {h:Hp} {c:Bool} (e:b=c) (k:R (.tuple #[.bool c, .bool true]) h):R (.tuple #[.bool b, .bool true]) h:=by rw [e];exact k
theorem Om {h:Hp} {kind:Int} {w a b:Nat} {R:Value->Hp->Prop} (ea:WO w a) (eb:WO w b)
  (k1:21<=kind/\kind<=28->R (.tuple #[.bool (Fd kind w a b), .bool true]) h)
  (k2: ¬(21<=kind/\kind<=28)->R (.tuple #[.bool false, .bool false]) h):vb #[I kind,I w,I a,I b] h R:=by
 apply JY
 refine uf_ ?_
 have h16:=ea.pow
 have hp:=bL w
 have sa:=E5 ea
 have sb:=E5 eb
 have ha:=ea.2
 have hb:=eb.2
 have hw:=ea.1
 have dd: ∀{p q:Prop} [Decidable p] [Decidable q],(p↔q)->decide p=decide q:=fun h=>by rw [decide_eq_decide];exact h
 refine je ea ⟨_,rfl,je eb ⟨_,rfl,?_⟩⟩
 refine ad (fun e=>?_) (fun e1=>?_)
 ·have e:=bU e
  subst e
  refine zQ ?_ (k1 (by omega))
  show _=decide (a=b)
  rw [Bool.eq_iff_iff];simp;omega
 refine ad (fun e=>?_) (fun e2=>?_)
 ·have e:=bU e
  subst e
  exact zQ (dd (by omega)) (k1 (by omega))
 refine ad (fun e=>?_) (fun e3=>?_)
 ·have e:=bU e
  subst e
  exact k1 (by omega)
 refine ad (fun e=>?_) (fun e4=>?_)
 ·have e:=bU e
  subst e
  exact zQ (dd (by omega)) (k1 (by omega))
 refine ad (fun e=>?_) (fun e5=>?_)
 ·have e:=bU e
  subst e
  exact k1 (by omega)
 refine ad (fun e=>?_) (fun e6=>?_)
 ·have e:=bU e
  subst e
  have hab:W ((a:Int)+b)=((a+b:Nat):Int):=by rw [bQ (by omega) (by omega)];omega
  rw [hab]
  refine cD ⟨_,rfl,?_⟩
  refine zQ ?_ (k1 (by omega))
  show _=decide (2^w<=a+b)
  rw [Bool.eq_iff_iff]
  have:=kg (w:=(w:Int)) (v:=((a+b:Nat):Int))
  rw [Int.toNat_natCast]at this
  simp only [Bool.not_eq_true',decide_eq_true_eq,<-Bool.not_eq_true,this]
  omega
 refine ad (fun e=>?_) (fun e7=>?_)
 ·have e:=bU e
  subst e
  rw [bQ (by omega) (by omega)]
  refine iy hw ⟨_,rfl,je ⟨hw,jJ _ _⟩ ⟨_,rfl,?_⟩⟩
  refine zQ ?_ (k1 (by omega))
  show _= !decide (-((2^(w-1):Nat):Int)<=sgn w a+sgn w b/\sgn w a+sgn w b<((2^(w-1):Nat):Int))
  have:=afq (a:=a) (b:=b) hw.1
  rw [Bool.eq_iff_iff,bne_iff_ne,this,Bool.not_eq_true',decide_eq_false_iff_not]
 refine ad (fun e=>?_) (fun e8=>?_)
 ·have e:=bU e
  subst e
  have hmul:=ET (a:=a) (b:=b) (by omega) (by omega)
  have hmi:(a:Int)*(b:Int)=((a*b:Nat):Int):=(Int.natCast_mul _ _).symm
  rw [hmi,fj (by omega)]
  refine cD ⟨_,rfl,?_⟩
  refine zQ ?_ (k1 (by omega))
  show _=decide (2^w<=a*b)
  rw [Bool.eq_iff_iff]
  have:=kg (w:=(w:Int)) (v:=((a*b:Nat):Int))
  rw [Int.toNat_natCast]at this
  simp only [Bool.not_eq_true',decide_eq_true_eq,<-Bool.not_eq_true,this]
  generalize a*b=ab at*
  omega
 ·have:=bz e1;have:=bz e2;have:=bz e3;have:=bz e4;have:=bz e5;have:=bz e6;have:=bz e7;have:=bz e8
  exact k2 (by omega)
theorem Dt {h:Hp} {kind:Int} {w a b:Nat} {R:Value->Hp->Prop} (hk:6<=kind/\kind<=28) (ea:WO w a) (eb:WO w b)
  (k:R (.tuple #[I (t5 kind w a b).1,I (t5 kind w a b).2, .bool true]) h):ph #[I kind,I w,I a,I b] h R:=by
 apply GE
 refine uf_ ?_
 have h16:=ea.pow
 have hp:=bL w
 have ha:=ea.2
 have hb:=eb.2
 have hw:=ea.1
 have hmul:=ET (a:=a) (b:=b) (by omega) (by omega)
 refine aq (fun J=>J false h) ?_ (fun J hJ=>cD ⟨_,rfl,aA (by rw [ea.ok];rfl) (cD ⟨_,rfl,by rw [eb.ok];exact hJ⟩)⟩)
 refine aA rfl (Om ea eb (fun h21=>⟨_,_,rfl,aL rfl (tG ⟨_,rfl,?_⟩)⟩) (fun h21=>⟨_,_,rfl,aA rfl ?_⟩))
 ·have t:t5 kind w a b=(if Fd kind w a b then 1 else 0,1):=by unfold t5;rw [if_neg (by omega)]
  rw [t]at k
  cases hs:Fd kind w a b
  ·rw [hs]at k;simpa using k
  ·rw [hs]at k;simpa using k
 have t:t5 kind w a b=(HL kind w a b,w):=by unfold t5;rw [if_pos (by omega)]
 rw [t]at k
 unfold HL at k
 simp only at k
 refine aq (fun J=>J (decide (kind=6\/kind=7\/kind=8))) ?_ ?_
 rotate_left
 ·intro J hJ
  refine ad (fun e=>?_) (fun e=>ad (fun e2=>?_) (fun e2=>?_))
  ·rw [decide_eq_true (.inl (bU e))]at hJ;exact hJ
  ·rw [decide_eq_true (.inr (.inl (bU e2)))]at hJ;exact hJ
  ·have:(kind==8)=decide (kind=6\/kind=7\/kind=8):=by
    have h1:=bz e
    have h2:=bz e2
    rw [Bool.eq_iff_iff];simp [h1,h2]
   rw [this];exact hJ
 refine ad (fun e=>?_) (fun e678=>?_)
 ·have e':kind=6\/kind=7\/kind=8:=by simpa using e
  refine OC hw.2 ⟨_,rfl,?_⟩
  rcases e' with rfl|rfl|rfl
  ·rw [if_pos rfl,<-Jy ha]at k;exact k
  ·rw [if_neg (by decide),if_pos rfl,<-Tx ha hb]at k;exact k
  ·rw [if_neg (by decide),if_neg (by decide),if_pos rfl,<-ZE ha hb]at k;exact k
 have n6: ¬kind=6/\ ¬kind=7/\ ¬kind=8:=by simpa using e678
 rw [if_neg n6.1,if_neg n6.2.1,if_neg n6.2.2]at k
 refine ad (fun e=>?_) (fun e9=>?_)
 ·rw [if_pos (bU e)]at k
  rw [bQ (by omega) (by omega)]
  exact iy hw ⟨_,rfl,k⟩
 rw [if_neg (bz e9)]at k
 refine ad (fun e=>?_) (fun e10=>?_)
 ·rw [if_pos (bU e)]at k
  rw [bQ (by omega) (by omega)]
  exact iy hw ⟨_,rfl,k⟩
 rw [if_neg (bz e10)]at k
 refine ad (fun e=>?_) (fun e11=>?_)
 ·rw [if_pos (bU e)]at k
  have hmi:(a:Int)*(b:Int)=((a*b:Nat):Int):=(Int.natCast_mul _ _).symm
  rw [hmi]at k⊢
  generalize a*b=ab at*
  rw [fj (by omega)]
  exact iy hw ⟨_,rfl,k⟩
 rw [if_neg (bz e11)]at k
 refine aq (fun J=>J (decide (kind=12\/kind=13))) ?_ ?_
 rotate_left
 ·intro J hJ
  refine ad (fun e=>?_) (fun e=>?_)
  ·rw [decide_eq_true (.inl (bU e))]at hJ;exact hJ
  ·have:(kind==13)=decide (kind=12\/kind=13):=by
    have:=bz e
    rw [Bool.eq_iff_iff];simp [this]
   rw [this];exact hJ
 refine ad (fun e=>?_) (fun e1213=>?_)
 ·have e':kind=12\/kind=13:=by simpa using e
  refine QY ea eb ⟨_,rfl,?_⟩
  rcases e' with rfl|rfl
  ·simpa using k
  ·simpa using k
 have n12: ¬kind=12/\ ¬kind=13:=by simpa using e1213
 rw [if_neg n12.1,if_neg n12.2]at k
 refine aq (fun J=>J (decide (kind=14\/kind=15))) ?_ ?_
 rotate_left
 ·intro J hJ
  refine ad (fun e=>?_) (fun e=>?_)
  ·rw [decide_eq_true (.inl (bU e))]at hJ;exact hJ
  ·have:(kind==15)=decide (kind=14\/kind=15):=by
    have:=bz e
    rw [Bool.eq_iff_iff];simp [this]
   rw [this];exact hJ
 refine ad (fun e=>?_) (fun e1415=>?_)
 ·have e':kind=14\/kind=15:=by simpa using e
  refine Qf e' ea eb ⟨_,rfl,?_⟩
  rcases e' with rfl|rfl
  ·simpa using k
  ·simpa using k
 have n14: ¬kind=14/\ ¬kind=15:=by simpa using e1415
 rw [if_neg n14.1,if_neg n14.2]at k
 refine aq (fun J=>J (decide (kind=16\/kind=17\/kind=18))) ?_ ?_
 rotate_left
 ·intro J hJ
  refine ad (fun e=>?_) (fun e=>ad (fun e2=>?_) (fun e2=>?_))
  ·rw [decide_eq_true (.inl (bU e))]at hJ;exact hJ
  ·rw [decide_eq_true (.inr (.inl (bU e2)))]at hJ;exact hJ
  ·have:(kind==18)=decide (kind=16\/kind=17\/kind=18):=by
    have h1:=bz e
    have h2:=bz e2
    rw [Bool.eq_iff_iff];simp [h1,h2]
   rw [this];exact hJ
 refine ad (fun e=>?_) (fun e1618=>?_)
 ·have e':kind=16\/kind=17\/kind=18:=by simpa using e
  refine MM e' ea (by omega) ⟨_,rfl,?_⟩
  unfold EG
  rcases e' with rfl|rfl|rfl
  ·simpa using k
  ·simpa using k
  ·simpa using k
 have n16: ¬kind=16/\ ¬kind=17/\ ¬kind=18:=by simpa using e1618
 rw [if_neg n16.1,if_neg n16.2.1,if_neg n16.2.2]at k
 have h1920:kind=19\/kind=20:=by
  have:=bz e9;have:=bz e10;have:=bz e11
  omega
 refine aq (fun J=>J true) ?_ ?_
 rotate_left
 ·intro J hJ
  refine ad (fun e=>hJ) (fun e=>?_)
  have:(kind==20)=true:=by
   have:=bz e
   rw [beq_iff_eq];omega
  rw [this];exact hJ
 refine aL rfl (Pa h1920 ea ⟨_,rfl,k⟩)
theorem ZJ {w a more:Nat} {sign:Bool} (e:WO w a):H4 w a more sign<2^(w+more):=by
 unfold H4
 cases sign
 ·have:=e.2
  have:2^w<=2^(w+more):=Nat.pow_le_pow_right (by omega) (by omega)
  rw [if_neg (by decide)];omega
 ·exact jJ _ _
theorem VY {h:Hp} {w a more:Nat} {s:Bool} {R:Value->Hp->Prop} (e:WO w a) (hm:w+more<=16)
  (k:R (I (H4 w a more s)) h):zG #[I w,I a,I more, .bool s] h R:=by
 apply Qh
 refine uf_ ?_
 unfold H4 at k
 refine ad (fun es=>?_) (fun es=>?_)
 ·rw [if_pos es]at k
  refine oE e ⟨_,rfl,?_⟩
  rw [show W ((w:Int)+more)=((w+more:Nat):Int) by rw [bQ (by omega) (by omega)];omega]
  refine dz (by omega) ⟨_,rfl,?_⟩
  rw [gP (by omega)];exact k
 ·rw [if_neg (by rw [es];decide)]at k;exact k
theorem Kk {h:Hp} {w a more:Nat} {s:Bool} {R:Value->Hp->Prop} (e:WO w a) (hm:w+more<=16)
  (k:R (.tuple #[I (H4 w a more s),I ((w+more:Nat):Int), .bool true]) h):kM #[I w,I a,I more, .bool s] h R:=by
 apply xW
 refine uf_ ?_
 unfold H4 at k
 have hw:W ((w:Int)+more)=((w+more:Nat):Int):=by rw [bQ (by omega) (by omega)];omega
 have h1:=e.1
 refine aq (fun J=>J false h) ?_ (fun J hJ=>cD ⟨_,rfl,aA (by rw [e.ok];rfl) (aA (by simp) ?_)⟩)
 ·refine aA rfl (ad (fun es=>?_) (fun es=>?_))
  ·rw [if_pos es]at k
   rw [hw]
   exact je e ⟨_,rfl,iy (by omega) ⟨_,rfl,k⟩⟩
  ·rw [if_neg (by rw [es];decide)]at k
   rw [hw];exact k
 ·rw [bQ (by omega) (by omega),show decide ((more:Int)>16-(w:Int))=false by rw [decide_eq_false_iff_not];omega];exact hJ
theorem KY {h:Hp} {w a u b:Nat} {R:Value->Hp->Prop} (ea:WO w a) (eb:WO u b) (hm:w+u<=16)
  (k:R (.tuple #[I ((a*2^u+b:Nat):Int),I ((w+u:Nat):Int), .bool true]) h):kN #[I w,I a,I u,I b] h R:=by
 apply yb
 refine uf_ ?_
 have hw:W ((w:Int)+u)=((w+u:Nat):Int):=by rw [bQ (by omega) (by omega)];omega
 have h1:=ea.1
 have h2:=eb.1
 have ha:=ea.2
 have hb:=eb.2
 have h16a:=ea.pow
 have h16b:=eb.pow
 have hmul:=ET (a:=a) (b:=2^u) (by omega) (by omega)
 refine aq (fun J=>J false h) ?_ (fun J hJ=>cD ⟨_,rfl,aA (by rw [ea.ok];rfl) (cD ⟨_,rfl,aA (by rw [eb.ok];rfl) ?_⟩)⟩)
 ·rw [cQ (by omega)]
  refine aA rfl ?_
  rw [if_neg (by omega),iU (by omega) (by omega),hw,<-Int.natCast_add,fj (by omega)];exact k
 ·rw [hw,show decide (((w+u:Nat):Int)>16)=false by rw [decide_eq_false_iff_not];omega];exact hJ
theorem Hi {h:Hp} {w a hi lo:Nat} {R:Value->Hp->Prop} (ea:WO w a) (h1:lo<=hi) (h2:hi<w)
  (k:R (.tuple #[I ((a/2^lo%2^(hi-lo+1):Nat):Int),I ((hi-lo+1:Nat):Int), .bool true]) h):jX #[I w,I a,I hi,I lo] h R:=by
 apply wy
 refine uf_ ?_
 have e0:=ea.1
 have hw:W (W ((hi:Int)-lo)+1)=((hi-lo+1:Nat):Int):=by rw [bQ (n:=(hi:Int)-lo) (by omega) (by omega),bQ (by omega) (by omega)];omega
 have e1:=ea.1
 have hp:=bL (hi-lo+1)
 refine aq (fun J=>J false h) ?_ (fun J hJ=>cD ⟨_,rfl,aA (by rw [ea.ok];rfl) (aA (by simp) (aA (by simp;omega) ?_))⟩)
 ·refine aA rfl ?_
  rw [hw,cQ (by omega),cQ (by omega),if_neg (by omega),if_neg (by omega),cg (by omega),if_neg (by omega),jn (by omega),ee]
  exact k
 ·rw [show decide ((hi:Int)>=(w:Int))=false by rw [decide_eq_false_iff_not];omega];exact hJ
end Go.Lead
