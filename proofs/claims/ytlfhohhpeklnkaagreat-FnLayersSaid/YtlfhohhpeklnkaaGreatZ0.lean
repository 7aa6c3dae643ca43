/- What functions of the program and of the reference come to, walked one by one, and plain laws about it: part 1. No condition is added to the statement. -/
import Derived.Test.YtlfhohhpeklnkaaGreatVm15
import Derived.Test.YtlfhohhpeklnkaaGreatFn0
import Derived.Test.YtlfhohhpeklnkaaGreatFn1
import Derived.Test.YtlfhohhpeklnkaaGreatFn2
import Derived.Test.YtlfhohhpeklnkaaGreatFn3
import Derived.Test.YtlfhohhpeklnkaaGreatFn4
import Derived.Test.YtlfhohhpeklnkaaGreatFn5
import Derived.Test.YtlfhohhpeklnkaaGreatFn6
import Derived.Test.YtlfhohhpeklnkaaGreatFn7
namespace Go.Lead
open Go
set_option linter.unusedVariables false
set_option linter.unusedSimpArgs false
set_option maxHeartbeats 1000000
structure Nd where
 v:Nat
 lo:Nat
 hi:Nat
 deriving DecidableEq,Repr
def je (n:Nd) (ns:List Nd):Nat×List Nd:=match ns.idxOf? n with|some i=>(i+2,ns)|none=>(ns.length+2,ns++ [n])
def mkD :Nat->(Nat->Bool)->Nat->List Nd->Nat×List Nd
 |0,f,_,ns=>(if f 0 then 1 else 0,ns)
 |n+1,f,low,ns=>
  let r1:=mkD n (fun i=>f (2*i)) (low+1) ns
  let r2:=mkD n (fun i=>f (2*i+1)) (low+1) r1.2
  if r1.1=r2.1 then r2 else je ⟨low,r1.1,r2.1⟩ r2.2
theorem FC : ∀(n:Nat) {f g:Nat->Bool} (low:Nat) (ns:List Nd),(∀i,i<2^n->f i=g i)->mkD n f low ns=mkD n g low ns:=by
 intro n
 induction n with
 |zero=>intro f g low ns h;simp only [mkD];rw [h 0 (by simp)]
 |succ n ih=>
  intro f g low ns h
  have hp:2^(n+1)=2*2^n:=by rw [Nat.pow_succ];omega
  have h1: ∀ns,mkD n (fun i=>f (2*i)) (low+1) ns=mkD n (fun i=>g (2*i)) (low+1) ns:=fun ns=>ih _ _ fun i hi=>h _ (by omega)
  have h2: ∀ns,mkD n (fun i=>f (2*i+1)) (low+1) ns=mkD n (fun i=>g (2*i+1)) (low+1) ns:=fun ns=>ih _ _ fun i hi=>h _ (by omega)
  simp only [mkD,h1,h2]
theorem uV (n:Nd) (ns:List Nd):ns<+:(je n ns).2:=by
 unfold je;split
 ·exact List.prefix_refl _
 ·exact List.prefix_append _ _
theorem yY : ∀(n:Nat) (f:Nat->Bool) (low:Nat) (ns:List Nd),ns<+:(mkD n f low ns).2:=by
 intro n
 induction n with
 |zero=>intro f low ns;exact List.prefix_refl _
 |succ n ih=>
  intro f low ns
  have h1:=ih (fun i=>f (2*i)) (low+1) ns
  have h2:=ih (fun i=>f (2*i+1)) (low+1) (mkD n (fun i=>f (2*i)) (low+1) ns).2
  simp only [mkD]
  split
  ·exact h1.trans h2
  ·exact(h1.trans h2).trans (uV _ _)
theorem RS {n:Nd} {ns ns2:List Nd} {i:Nat} (h:ns.idxOf? n=some i) (p:ns<+:ns2):ns2.idxOf? n=some i:=by
 obtain⟨r,rfl⟩:=p
 simp only [List.idxOf?]at h⊢
 rw [List.findIdx?_append,h];rfl
theorem SL {n:Nd} {ns ns2:List Nd} (h:ns.idxOf? n=none) (p:ns++ [n]<+:ns2):ns2.idxOf? n=some ns.length:=by
 obtain⟨r,rfl⟩:=p
 simp only [List.idxOf?]at h⊢
 rw [List.append_assoc,List.findIdx?_append,h]
 simp [List.findIdx?_cons]
theorem Qg {n:Nd} {ns ns2:List Nd} (p:(je n ns).2<+:ns2):je n ns2=((je n ns).1,ns2):=by
 cases h:ns.idxOf? n with
 |some i=>
  have e:je n ns=(i+2,ns):=by simp [je,h]
  rw [e]at p⊢
  simp [je,RS h p]
 |none=>
  have e:je n ns=(ns.length+2,ns++ [n]):=by simp [je,h]
  rw [e]at p⊢
  simp [je,SL h p]
theorem yf : ∀(n:Nat) (f:Nat->Bool) (low:Nat) (ns ns2:List Nd),(mkD n f low ns).2<+:ns2->mkD n f low ns2=((mkD n f low ns).1,ns2):=by
 intro n
 induction n with
 |zero=>intro f low ns ns2 p;rfl
 |succ n ih=>
  intro f low ns ns2 p
  have p1:(mkD n (fun i=>f (2*i)) (low+1) ns).2<+:ns2:=by
   refine List.IsPrefix.trans ?_ p
   simp only [mkD]
   split
   ·exact yY _ _ _ _
   ·exact(yY _ _ _ _).trans (uV _ _)
  have p2:(mkD n (fun i=>f (2*i+1)) (low+1) (mkD n (fun i=>f (2*i)) (low+1) ns).2).2<+:ns2:=by
   refine List.IsPrefix.trans ?_ p
   simp only [mkD]
   split
   ·exact List.prefix_refl _
   ·exact uV _ _
  have e1:=ih _ _ _ _ p1
  have e2:=ih _ _ _ _ p2
  simp only [mkD]at p⊢
  rw [e1]
  simp only
  rw [e2]
  simp only
  split
  ·rfl
  ·rename_i hne
   rw [if_neg hne]at p
   exact Qg p
theorem TG (n:Nd) (ns:List Nd):(je n ns).2.length<=ns.length+1:=by
 unfold je;split<;>simp
theorem tp : ∀(n:Nat) (f:Nat->Bool) (low:Nat) (ns:List Nd),(mkD n f low ns).2.length+1<=ns.length+2^n:=by
 intro n
 induction n with
 |zero=>intro f low ns;simp [mkD]
 |succ n ih=>
  intro f low ns
  have h1:=ih (fun i=>f (2*i)) (low+1) ns
  have h2:=ih (fun i=>f (2*i+1)) (low+1) (mkD n (fun i=>f (2*i)) (low+1) ns).2
  have h3:=TG ⟨low,(mkD n (fun i=>f (2*i)) (low+1) ns).1,(mkD n (fun i=>f (2*i+1)) (low+1) (mkD n (fun i=>f (2*i)) (low+1) ns).2).1⟩ (mkD n (fun i=>f (2*i+1)) (low+1) (mkD n (fun i=>f (2*i)) (low+1) ns).2).2
  have hp:2^(n+1)=2*2^n:=by rw [Nat.pow_succ];omega
  simp only [mkD]
  split<;>omega
inductive Ev (ns:List Nd):Nat->Nat->Bool->Prop
 |no (c:Nat):Ev ns 0 c false
 |yes (c:Nat):Ev ns 1 c true
 |node {p c:Nat} {n:Nd} {b:Bool}:ns[p]?=some n->Ev ns (if c.testBit n.v then n.hi else n.lo) c b->Ev ns (p+2) c b
theorem Ev.pre {ns ns2:List Nd} (l:ns<+:ns2) {p c:Nat} {b:Bool} (e:Ev ns p c b):Ev ns2 p c b:=by
 induction e with
 |no=>exact .no _
 |yes=>exact .yes _
 |node h _ ih=>
  obtain⟨r,rfl⟩:=l
  exact .node (by rw [List.getElem?_append_left (List.getElem?_eq_some_iff.1 h).1];exact h) ih
theorem Ev.det {ns:List Nd} {p c:Nat} {b b':Bool} (e:Ev ns p c b) (e':Ev ns p c b'):b=b':=by
 induction e with
 |no=>cases e';rfl
 |yes=>cases e';rfl
 |node h _ ih=>
  cases e' with
  |node h' e2=>
   rw [h]at h';cases h'
   exact ih e2
theorem S9 (n:Nd) (ns:List Nd): ∃p,(je n ns).1=p+2/\(je n ns).2[p]?=some n:=by
 unfold je
 cases h:ns.idxOf? n with
 |some i=>
  refine⟨i,rfl,?_⟩
  simp only [List.idxOf?]at h
  obtain⟨hi,he,_⟩:=List.findIdx?_eq_some_iff_getElem.1 h
  simp only [beq_iff_eq]at he
  simp [hi,he]
 |none=>exact⟨ns.length,rfl,by simp⟩
theorem SS (c low n:Nat):(c/2^low)%2^(n+1)=2*((c/2^(low+1))%2^n)+(if c.testBit low then 1 else 0):=by
 have h1:c/2^(low+1)=c/2^low/2:=by rw [Nat.pow_succ,Nat.div_div_eq_div_mul]
 have h2:(if c.testBit low then 1 else 0)=(c/2^low)%2:=by
  rw [Nat.testBit_eq_decide_div_mod_eq]
  rcases Nat.mod_two_eq_zero_or_one (c/2^low)with h|h<;>simp [h]
 rw [h1,h2]
 generalize c/2^low=x
 rw [Nat.pow_succ,Nat.mul_comm (2^n) 2,Nat.mod_mul]
 omega
theorem Pw : ∀(n:Nat) (f:Nat->Bool) (low:Nat) (ns:List Nd) (c:Nat),Ev (mkD n f low ns).2 (mkD n f low ns).1 c (f ((c/2^low)%2^n)):=by
 intro n
 induction n with
 |zero=>
  intro f low ns c
  simp only [mkD,Nat.pow_zero,Nat.mod_one]
  cases f 0
  ·exact .no _
  ·exact .yes _
 |succ n ih=>
  intro f low ns c
  have e1:=ih (fun i=>f (2*i)) (low+1) ns c
  have e2:=ih (fun i=>f (2*i+1)) (low+1) (mkD n (fun i=>f (2*i)) (low+1) ns).2 c
  have l2:=yY n (fun i=>f (2*i+1)) (low+1) (mkD n (fun i=>f (2*i)) (low+1) ns).2
  have e1':=e1.pre l2
  rw [SS]
  simp only [mkD]
  split
  ·rename_i he
   rw [he]at e1'
   have hd:=e1'.det e2
   cases hb:c.testBit low
   ·simp only [Bool.false_eq_true,if_false,Nat.add_zero];rw [hd];exact e2
   ·simpa using e2
  ·obtain⟨p,hp,hg⟩:=S9 ⟨low,(mkD n (fun i=>f (2*i)) (low+1) ns).1,(mkD n (fun i=>f (2*i+1)) (low+1) (mkD n (fun i=>f (2*i)) (low+1) ns).2).1⟩
    (mkD n (fun i=>f (2*i+1)) (low+1) (mkD n (fun i=>f (2*i)) (low+1) ns).2).2
   rw [hp]
   refine .node hg ?_
   cases hb:c.testBit low
   ·simp only [Bool.false_eq_true,if_false,Nat.add_zero];exact e1'.pre (uV _ _)
   ·simp only [if_true];exact e2.pre (uV _ _)
theorem Vc {n low:Nat} {f g:Nat->Bool} {ns:List Nd}:
  (mkD n f low ns).1=(mkD n g low (mkD n f low ns).2).1↔ ∀i,i<2^n->f i=g i:=by
 constructor
 ·intro he i hi
  have e1:=(Pw n f low ns (i*2^low)).pre (yY n g low (mkD n f low ns).2)
  have e2:=Pw n g low (mkD n f low ns).2 (i*2^low)
  rw [he]at e1
  have:=e1.det e2
  rwa [Nat.mul_div_cancel _ (Nat.pow_pos (by omega)),Nat.mod_eq_of_lt hi]at this
 ·intro h
  rw [<-FC n low _ h,yf n f low ns _ (List.prefix_refl _)]
theorem Se {n low:Nat} {f g:Nat->Bool} {ns:List Nd} (h: ∀i,i<2^n->f i=g i):mkD n g low (mkD n f low ns).2=mkD n f low ns:=by
 rw [<-FC n low _ h,yf n f low ns _ (List.prefix_refl _)]
theorem JG (n:Nat) (b:Bool): ∀(low:Nat) (ns:List Nd),mkD n (fun _=>b) low ns=(if b then 1 else 0,ns):=by
 induction n with
 |zero=>intro low ns;rfl
 |succ n ih=>intro low ns;simp only [mkD,ih,if_true]
def gO (set:List Int):List Int->Int->Int×Bool
 | [],left=>(left,left==0)
 |x::r,left=>
  if set.contains x then(0,false)else
  if set.contains (-x)then gO set r left else
  if left !=0&&left !=x then(0,false)else gO set r x
def ml :List (List Int)->List Int->Bool->Option (List Int×Bool)
 | [],set,more=>some (set,more)
 |l::r,set,more=>if(gO set l 0).2 then none else if(gO set l 0).1 !=0 then ml r (set++ [(gO set l 0).1]) true else ml r set more
def kG (cls:List (List Int)) (set:List Int):Option (List Int):=
 match ml cls set false with
 |none=>none
 |some (set',more)=>if more then(if h:set.length<set'.length/\set'.length<=20 then kG cls set' else none)else some set'
termination_by 20-set.length
decreasing_by omega
def sq :List Int->List Int->Option (List Int)
 | [],set=>some set
 |x::r,set=>if set.contains (-x)then none else sq r (if set.contains x then set else set++ [x])
def j5 (cls:List (List Int)) (given:List Int):Option (List Int):=(sq given []).bind (kG cls)
structure qM (v:Int) (set:List Int):Prop where
 lit: ∀x∈set,x≠0/\ -v<=x/\x<=v
 nodup:set.Nodup
 cons: ∀x∈set, -x∉set
theorem JO (v:Int):qM v []:=⟨by simp,List.nodup_nil,by simp⟩
theorem qM.add {v:Int} {set:List Int} (k:qM v set) {x:Int} (hx:x≠0/\ -v<=x/\x<=v) (h1:x∉set) (h2: -x∉set):qM v (set++ [x]):=by
 refine⟨?_,?_,?_⟩
 ·intro y hy
  rcases List.mem_append.1 hy with h|h
  ·exact k.lit y h
  ·simp only [List.mem_singleton]at h;subst h;exact hx
 ·rw [List.nodup_append]
  refine⟨k.nodup,by simp,?_⟩
  intro a ha b hb
  simp only [List.mem_singleton]at hb;subst hb
  intro e;subst e;exact h1 ha
 ·intro y hy hn
  rcases List.mem_append.1 hy with h|h<;>rcases List.mem_append.1 hn with h'|h'
  ·exact k.cons y h h'
  ·simp only [List.mem_singleton]at h';exact h2 (by rw [<-h',Int.neg_neg];exact h)
  ·simp only [List.mem_singleton]at h;subst h;exact h2 h'
  ·simp only [List.mem_singleton]at h h';subst h;omega
theorem Fi : ∀(n:Nat) (l:List Int) (a:Int),l.Nodup->(∀x∈l,a<=x/\x<a+n)->l.length<=n:=by
 intro n
 induction n with
 |zero=>
  intro l a _ h
  cases l with
  |nil=>simp
  |cons x r=>have:=h x (by simp);omega
 |succ n ih=>
  intro l a hd h
  by_cases hm:(a+n)∈l
  ·have h1:=ih (l.erase (a+n)) a (hd.erase _) (fun x hx=>by
    have hx':=List.mem_of_mem_erase hx
    have:=h x hx'
    have hne:x≠a+n:=fun e=>by
     subst e
     exact(List.Nodup.not_mem_erase hd) hx
    omega)
   rw [List.length_erase_of_mem hm]at h1
   omega
  ·have:=ih l a hd (fun x hx=>by
    have h1:=h x hx
    have hne:x≠a+n:=fun e=>hm (e▸hx)
    omega)
   omega
theorem qM.len {v:Int} {set:List Int} (k:qM v set) (hv:v<=10) (hv0:0<=v):set.length<=20:=by
 have h0:(0:Int)∉set:=fun h=>(k.lit 0 h).1 rfl
 have h1:=Fi 21 (0::set) (-10) (List.nodup_cons.2 ⟨h0,k.nodup⟩) (fun x hx=>by
  rcases List.mem_cons.1 hx with rfl|hx
  ·omega
  ·have:=k.lit x hx;omega)
 simp only [List.length_cons]at h1
 omega
theorem SO {set:List Int} (hcons: ∀x∈set, -x∉set) (h0:(0:Int)∉set) {l:List Int} (hl: ∀x∈l,x≠0) (hne:(gO set l 0).1≠0):
  (gO set l 0).1∈l/\(gO set l 0).1∉set/\ -(gO set l 0).1∉set:=by
 have key: ∀(l:List Int) (o:Int),(∀x∈l,x≠0)->(o=0\/(o∉set/\ -o∉set))->(gO set l o).1≠0->
   ((gO set l o).1∈l\/(gO set l o).1=o)/\(gO set l o).1∉set/\ -(gO set l o).1∉set:=by
  intro l
  induction l with
  |nil=>
   intro o _ ho hne
   simp only [gO]at hne⊢
   rcases ho with h|h
   ·exact absurd h hne
   ·exact⟨by simp,h⟩
  |cons x r ih=>
   intro o hx ho hne
   have hr:=fun y hy=>hx y (List.mem_cons_of_mem _ hy)
   simp only [gO]at hne⊢
   split at hne
   ·exact absurd rfl hne
   ·rename_i h1
    rw [if_neg h1]
    split at hne
    ·rename_i h2
     rw [if_pos h2]
     have:=ih o hr ho hne
     exact⟨this.1.imp (List.mem_cons_of_mem _) id,this.2⟩
    ·rename_i h2
     rw [if_neg h2]
     split at hne
     ·exact absurd rfl hne
     ·rename_i h3
      rw [if_neg h3]
      have:=ih x hr (.inr ⟨by simpa using h1,by simpa using h2⟩) hne
      refine⟨.inl ?_,this.2⟩
      rcases this.1 with h|h
      ·exact List.mem_cons_of_mem _ h
      ·rw [h];simp
 have:=key l 0 hl (.inl rfl) hne
 refine⟨?_,this.2⟩
 rcases this.1 with h|h
 ·exact h
 ·exact absurd h hne
theorem qQ {v:Int}: ∀(cls:List (List Int)) (set:List Int) (more:Bool),qM v set->(∀l∈cls,∀x∈l,x≠0/\ -v<=x/\x<=v)->
  ∀set' more',ml cls set more=some (set',more')->qM v set'/\set.length<=set'.length/\(more'=true->more=true\/set.length<set'.length):=by
 intro cls
 induction cls with
 |nil=>intro set more k _ set' more' h;simp only [ml,Option.some.injEq,Prod.mk.injEq]at h;obtain⟨rfl,rfl⟩:=h;exact⟨k,by omega, .inl⟩
 |cons l r ih=>
  intro set more k hc set' more' h
  have h0:(0:Int)∉set:=fun h=>(k.lit 0 h).1 rfl
  simp only [ml]at h
  split at h
  ·cases h
  ·split at h
   ·rename_i hne
    have hne':(gO set l 0).1≠0:=by simpa using hne
    have hl:=hc l (by simp)
    have hn:=SO k.cons h0 (fun x hx=>(hl x hx).1) hne'
    have:=ih (set++ [(gO set l 0).1]) true (k.add (hl _ hn.1) hn.2.1 hn.2.2) (fun l' h'=>hc l' (by simp [h'])) _ _ h
    simp only [List.length_append,List.length_cons,List.length_nil]at this
    exact⟨this.1,by omega,fun _=> .inr (by omega)⟩
   ·exact ih set more k (fun l' h'=>hc l' (by simp [h'])) _ _ h
theorem Bf {v:Int}: ∀(g:List Int) (set:List Int),qM v set->(∀x∈g,x≠0/\ -v<=x/\x<=v)-> ∀set',sq g set=some set'->qM v set':=by
 intro g
 induction g with
 |nil=>intro set k _ set' h;simp only [sq,Option.some.injEq]at h;subst h;exact k
 |cons x r ih=>
  intro set k hg set' h
  simp only [sq]at h
  split at h
  ·cases h
  ·rename_i h1
   refine ih _ ?_ (fun y hy=>hg y (by simp [hy])) _ h
   split
   ·exact k
   ·rename_i h2
    exact k.add (hg x (by simp)) (by simpa using h2) (by simpa using h1)
theorem Nl {α:Type} {xs:List α} {p:α->Bool} {i:Nat} (hi:i<xs.length):(xs.take (i+1)).any p=((xs.take i).any p||p xs[i]):=by
 rw [List.take_succ_eq_append_getElem hi,List.any_append];simp
structure He (h:Hp) (t:Sl) (ts:List Sl) (xss:List (List Int)):Prop where
 len:ts.length=xss.length
 outer:SlC (h.wo (ts.flatMap Sl.used)) t 1 (ts.map Sl.v)
 inner: ∀(i:Nat) (h1:i<ts.length) (h2:i<xss.length),Own h ts[i] 1 (xss[i].map I)
theorem He.ints {h:Hp} {t:Sl} {ts:List Sl} {xss:List (List Int)} (e:He h t ts xss):IntSS h t xss:=
 ⟨ts,e.len,e.outer.mono (wO _ _),fun i h1 h2=>(e.inner i h1 h2).slc⟩
theorem He.mono {h h':Hp} {t:Sl} {ts:List Sl} {xss:List (List Int)} (l:h.le h') (e:He h t ts xss):He h' t ts xss:=
 ⟨e.len,e.outer.mono (r8 (Hp.le_trans (wO _ _) l) fun b hb=>fv hb),fun i h1 h2=>(e.inner i h1 h2).mono l⟩
theorem He.used {h:Hp} {t:Sl} {ts:List Sl} {xss:List (List Int)} (e:He h t ts xss): ∀b∈ts.flatMap Sl.used,h b≠none:=by
 intro b hb
 obtain⟨u,hu,hbu⟩:=List.mem_flatMap.1 hb
 obtain⟨i,hi,rfl⟩:=List.getElem_of_mem hu
 exact(e.inner i hi (by rw [<-e.len];exact hi)).used b hbu
theorem dH {h:Hp} {x a b:Int} {R:Value->Hp->Prop} (k:R (.bool (decide (a<=x/\x<=b))) h):cJ #[I x,I a,I b] h R:=by
 apply Og
 refine uf_ ?_
 refine ac (fun e=>?_) (fun e=>?_)
 ·simp at e;simpa [e] using k
 ·simp at e;rwa [decide_eq_false (by omega)]at k
theorem fK {h:Hp} {x a b:Int} {R:Value->Hp->Prop} (k:R (.bool (decide (a<=x/\x<=b))) h):dz #[I x,I a,I b] h R:=by
 apply SQ
 refine uf_ ?_
 refine ac (fun e=>?_) (fun e=>?_)
 ·simp at e;simpa [e] using k
 ·simp at e;rwa [decide_eq_false (by omega)]at k
def H6 (vars n:Int):Bool:=decide (n≠0/\ -vars<=n/\n<=vars)
def gn (vars:Int) (l:List Int):Bool:=decide (l.length<=10)&&l.all (H6 vars)
def dU (vars:Int) (c:List (List Int)):Bool:=decide (1<=vars/\vars<=10)&&(decide (c.length<=60)&&c.all (gn vars))
def Gh {α:Type} (p:α->Bool) (xs:List α):Int:=match xs.findIdx? p with|some i=>i|none=> -1
theorem zh {α:Type} {p:α->Bool} {xs:List α} (e:xs.any p=false):Gh p xs= -1:=by
 have:xs.findIdx? p=none:=by
  rw [List.findIdx?_eq_none_iff];intro x hx;rw [List.any_eq_false]at e;simpa using e x hx
 simp [Gh,this]
theorem CZ {α:Type} {p:α->Bool} {xs:List α} {i:Nat} (hi:i<xs.length) (e:(xs.take i).any p=false) (hp:p xs[i]=true):Gh p xs=i:=by
 have:xs.findIdx? p=some i:=by
  rw [List.findIdx?_eq_some_iff_getElem]
  refine⟨hi,hp,fun j hj=>?_⟩
  rw [List.any_eq_false]at e
  exact e _ (by rw [List.mem_take_iff_getElem];exact⟨j,by omega,rfl⟩)
 simp [Gh,this]
theorem LU {α:Type} (p:α->Bool) (xs:List α):decide (Gh p xs>=0)=xs.any p:=by
 cases h:xs.any p with
 |false=>rw [zh h];rfl
 |true=>
  unfold Gh
  cases h':xs.findIdx? p with
  |some i=>simp
  |none=>rw [List.findIdx?_eq_none_iff]at h';rw [List.any_eq_true]at h;obtain⟨x,hx,hp⟩:=h;simp [h' x hx]at hp
theorem su {h:Hp} {s:Sl} {xs:List Int} {f:FuncId} {u w:Array Value} (p:Int->Bool) {R:Value->Hp->Prop} (hs:IntS h s xs)
  (hf: ∀x∈xs,∀R:Value->Hp->Prop,R (.bool (p x)) h->ACalls PR f ((u++ #[I x])++w) h R)
  (k:R (I (Gh p xs)) h):fe #[s.v, .func (.func f) u w] h R:=by
 apply rU
 refine uf_ ?_
 have hb:=hs.bound
 refine av xs.length (fun i vs h'=>vs= [s.v, .func (.func f) u w,I xs.length,I i]/\h'=h/\(xs.take i).any p=false) ⟨by rw [hs.len];rfl,rfl,by simp⟩ ?_
 rintro i _ _ next hi ⟨rfl,rfl,hp⟩ hn
 refine⟨_,_,_,_,_,_,rfl,?_⟩
 by_cases hlt:i<xs.length
 ·obtain⟨b,o,ha,hc⟩:=hs.at hlt
  refine aM (by simp [hlt]) ?_
  simp only [vm,hs.len,ha,hc,aC (n:=i) (by omega)]
  refine⟨by omega,hf _ (List.getElem_mem hlt) _ ⟨_,rfl,ac (fun he=>?_) (fun he=>?_)⟩⟩
  ·rwa [CZ hlt hp he]at k
  ·exact hn hlt _ _ ⟨rfl,rfl,by rw [Nl hlt,hp,he];rfl⟩
 ·have:i=xs.length:=by omega
  subst this
  rw [List.take_length]at hp
  refine aE (by simp) ?_
  rwa [zh hp]at k
theorem pq {h:Hp} {s:Sl} {xs:List Int} {f:FuncId} {u w:Array Value} (p:Int->Bool) {R:Value->Hp->Prop} (hs:IntS h s xs)
  (hf: ∀x∈xs,∀R:Value->Hp->Prop,R (.bool (p x)) h->ACalls PR f ((u++ #[I x])++w) h R)
  (k:R (.bool (xs.any p)) h):et #[s.v, .func (.func f) u w] h R:=by
 apply pP
 refine uf_ ?_
 exact su p hs hf ⟨_,rfl,by rwa [LU]⟩
def ru (h:Hp) (s:Sl) (xs:List Bool):Prop:=SlC h s 1 (xs.map Value.bool)
theorem ru.mono {h h':Hp} {s:Sl} {xs:List Bool} (l:h.le h') (e:ru h s xs):ru h' s xs:=SlC.mono l e
theorem ru.len {h:Hp} {s:Sl} {xs:List Bool} (e:ru h s xs):s.n=xs.length:=by have:=e.2.1;simp at this;omega
theorem ru.bound {h:Hp} {s:Sl} {xs:List Bool} (e:ru h s xs):xs.length<=9223372036854775807:=by rw [<-e.len];exact e.1
theorem ru.at {h:Hp} {s:Sl} {xs:List Bool} (e:ru h s xs) {i:Nat} (hi:i<xs.length):
  ∃b o,s.a=some (Addr.mk b o none)/\Hp.cell h b (o+i)=some (.bool xs[i]):=by
 have hl:=e.len
 obtain⟨b,o,ha,hc⟩:=SlC.get e (by omega)
 exact⟨b,o,ha,hc i _ (by simp [hi])⟩
theorem jk {h:Hp} {c n:Nat} {R:Value->Hp->Prop} (hn:n<=64) (k:R (I (if c.testBit n then 1 else 0)) h):d8 #[I c,I n] h R:=by
 apply Ml
 refine uf_ ?_
 rw [cu (by omega),if_neg (by omega),jx hn,Ig,aav]
 split<;>simp_all
theorem H6.iff {v n:Int}:H6 v n=true↔n≠0/\ -v<=n/\n<=v:=by simp [H6]
theorem gn.lit {v:Int} {l:List Int} (e:gn v l=true) {n:Int} (hn:n∈l):H6 v n=true:=by
 simp only [gn,Bool.and_eq_true,List.all_eq_true]at e;exact e.2 n hn
theorem gn.len {v:Int} {l:List Int} (e:gn v l=true):l.length<=10:=by
 simp only [gn,Bool.and_eq_true,decide_eq_true_eq]at e;exact e.1
theorem dU.iff {v:Int} {c:List (List Int)}:dU v c=true↔(1<=v/\v<=10)/\c.length<=60/\ ∀l∈c,gn v l=true:=by
 simp [dU,List.all_eq_true]
theorem SU (xs:List Int):(xs.map I).all (·.oneCell')=true:=by
 rw [List.all_eq_true]
 intro v hv
 obtain⟨x,_,rfl⟩:=List.mem_map.1 hv
 rfl
theorem IntS.slc {h:Hp} {s:Sl} {xs:List Int} (e:IntS h s xs):SlC h s 1 (xs.map I):=e
theorem nJ {h:Hp} {s:Sl} {xs:List Int} {R:Value->Hp->Prop} (hs:IntS h s xs) (hl:xs.length<=1048576)
  (k: ∀t h',h.le h'->Buf (h'.sub h) t 1 (xs.map I)->R (Sl.v t) h'):fT #[s.v] h R:=by
 apply uM
 refine uf_ ?_
 have:=hs.len
 exact JJ hs (by omega) (SU _) fun t h' hn hle hb=>k t h' hle hb
theorem aa7 (a b c a' b' c':Int):aeq PR 3 jD (.agg #[I a,I b,I c]) (.agg #[I a',I b',I c'])=some (a==a'&&(b==b'&&(c==c'&&true))):=by kernel_rfl
theorem NP (l:List UInt8): ∀(k i:Nat) (r:List UInt8),i+k=l.length->ByteArray.toList.loop ⟨l.toArray⟩ i r=r.reverse++l.drop i:=by
 intro k
 induction k with
 |zero=>
  intro i r hi
  unfold ByteArray.toList.loop
  rw [if_neg (by simp [ByteArray.size];omega),List.drop_eq_nil_of_le (by omega),List.append_nil]
 |succ k ih=>
  intro i r hi
  unfold ByteArray.toList.loop
  rw [if_pos (by simp [ByteArray.size];omega),ih (i+1) _ (by omega),List.drop_eq_getElem_cons (i:=i) (by omega)]
  simp [ByteArray.get!,show i<l.length by omega]
theorem lk (l:List UInt8):(⟨l.toArray⟩:ByteArray).toList=l:=by
 unfold ByteArray.toList
 rw [NP l l.length 0 [] (by omega)];rfl
def dp (n:Nat) (f:Nat->Bool):List Value:=(List.range (2^n)).map fun i=>Value.int .u8 (if f i then 1 else 0)
def cZ (n:Nat) (f:Nat->Bool):List UInt8:=(List.range (2^n)).map fun i=>if f i then 1 else 0
theorem II (n:Nat) (f:Nat->Bool):fB (cZ n f)=dp n f:=by
 unfold fB cZ dp
 rw [List.map_map]
 apply List.map_congr_left
 intro i _
 simp only [Function.comp]
 cases f i<;>rfl
def AF (h:Hp) (t:Sl) (n:Nat) (f:Nat->Bool):Prop:=SlC h t 1 (dp n f)
theorem AF.mono {h h':Hp} {t:Sl} {n:Nat} {f:Nat->Bool} (l:h.le h') (e:AF h t n f):AF h' t n f:=SlC.mono l e
theorem AF.len {h:Hp} {t:Sl} {n:Nat} {f:Nat->Bool} (e:AF h t n f):t.n=2^n:=by have:=e.2.1;simp [dp]at this;omega
theorem AF.at {h:Hp} {t:Sl} {n:Nat} {f:Nat->Bool} (e:AF h t n f) {i:Nat} (hi:i<2^n):
  ∃b o,t.a=some (Addr.mk b o none)/\Hp.cell h b (o+i)=some (.int .u8 (if f i then 1 else 0)):=by
 have hl:=e.len
 obtain⟨b,o,ha,hc⟩:=SlC.get e (by omega)
 exact⟨b,o,ha,hc i _ (by simp [dp,hi])⟩
theorem AF.all {h:Hp} {t:Sl} {n:Nat} {f:Nat->Bool} (e:AF h t n f):mM h t.a t.n (fB (cZ n f)):=by
 rw [II]
 exact⟨by rw [e.2.1,Nat.mul_one],e.2.2⟩
theorem tK (n:Nat) (f:Nat->Bool):(dp n f).length=2^n:=by simp [dp]
theorem Em {h:Hp} {v:Int} {R:Value->Hp->Prop} (k:R (.bool (decide (0<=v/\v<=13))) h):qd #[I v] h R:=by
 apply Jy
 refine uf_ ?_
 exact dH ⟨_,rfl,k⟩
theorem yj {h:Hp} {c:Bool} {R:Value->Hp->Prop} (k:R (I (if c then 1 else 0)) h):nc #[.bool c] h R:=by
 apply P4
 refine uf_ ?_
 cases c<;>exact k
def Fm (h:Hp) (fid:FuncId) (u w:Array Value) (n:Nat) (f:Nat->Bool):Prop:=
 ∀(i:Nat),i<n-> ∀(h':Hp),h.le h'-> ∀R:Value->Hp->Prop,R (.bool (f i)) h'->ACalls PR fid ((u++ #[I i])++w) h' R
theorem uo {h:Hp} {n:Nat} {fid:FuncId} {u w:Array Value} {f:Nat->Bool} {R:Value->Hp->Prop} (hn:n<=13) (hf:Fm h fid u w (2^n) f)
  (k: ∀t h',h.le h'->AF (h'.sub h) t n f->R (Sl.v t) h'):km #[I n, .func (.func fid) u w] h R:=by
 apply E8
 refine uf_ ?_
 have h2:2^n<=8192:=by
  have:=Nat.pow_le_pow_right (n:=2) (by omega) hn
  simpa using this
 rw [if_neg (by omega),bJ (by omega)]
 simp only [vm,cn]
 refine⟨by omega,by omega,by omega,fun b hb=>wc fun h1 e1=>?_⟩
 refine av (2^n) (fun i vs h'=>vs= [.func (.func fid) u w,Sl.v ⟨some ⟨b,0,none⟩,2^n,2^n⟩,I (2^n:Nat),I i]/\
  ∃cs,h'=h.row b cs (2^n)/\cs.length=2^n/\cs.take i=(dp n f).take i) ⟨rfl,_,e1,by simp,by simp⟩ ?_
 rintro i _ _ next hi ⟨rfl,cs,rfl,hcl,hp⟩ hn'
 refine⟨_,_,_,_,_,_,rfl,?_⟩
 by_cases hlt:i<2^n
 ·refine aM (by simpa using by exact_mod_cast hlt) ?_
  refine hf i hlt _ (fg _ _ hb) _ ⟨_,rfl,yj ⟨_,rfl,?_⟩⟩
  simp only [vm,mm,aC (n:=i) (by omega)]
  refine⟨by omega,by omega,hn' hlt _ _ ⟨rfl,_,rfl,by simpa using hcl,?_⟩⟩
  have hti:i<(dp n f).length:=by rw [tK];exact hlt
  rw [qs _ (by omega),hp,List.take_succ_eq_append_getElem hti]
  congr 2
  simp only [dp,List.getElem_map,List.getElem_range]
  cases f i<;>rfl
 ·have:i=2^n:=by omega
  subst this
  rw [<-hcl,List.take_length,hcl,<-tK n f,List.take_length]at hp
  subst hp
  exact aE (by simp) (k _ _ (fg _ _ hb) ⟨by show 2^n<=_;omega,by simp [dp], .inr ⟨_,_,rfl,ay (YH _ _ hb)⟩⟩)
def bD (ns:List Nd):List Value:=ns.flatMap fun n=> [I n.v,I n.lo,I n.hi]
def Gt (n:Nd):Value:= .agg #[I n.v,I n.lo,I n.hi]
structure BI (h:Hp) (B rs rn:Nat) (vars:Nat) (s:Sl) (ns:List Nd) (es:List (ByteArray×Nat)):Prop where
 row:h B=some (.inl ⟨[I vars,s.v,I 0, .map (some rs), .map (some rn)],5,false⟩)
 buf:Buf h s 3 (bD ns)
 seen:h rs=some (.inr (es.map fun e=>(.string e.1,I e.2)))
 nodes:h rn=some (.inr (ns.zipIdx.map fun e=>(Gt e.1,I (e.2+2:Nat))))
 far:rs≠rn
 own: ∀a,s.a=some a->a.block≠B
 true: ∀e∈es,∃n f low,low+n=vars/\e.1=⟨(cZ n f).toArray⟩/\mkD n f low ns=(e.2,ns)
theorem BI.mono {h h':Hp} {B rs rn vars:Nat} {s:Sl} {ns:List Nd} {es:List (ByteArray×Nat)} (l:h.le h') (e:BI h B rs rn vars s ns es):BI h' B rs rn vars s ns es:=
 ⟨l _ _ e.row,e.buf.mono l,l _ _ e.seen,l _ _ e.nodes,e.far,e.own,e.true⟩
theorem BI.blkB {h:Hp} {B rs rn vars:Nat} {s:Sl} {ns:List Nd} {es:List (ByteArray×Nat)} (e:BI h B rs rn vars s ns es): ∀b∈ [B,rs,rn]++s.blk,∃x,h b=some x:=by
 intro b hb
 simp only [List.cons_append,List.nil_append,List.mem_cons]at hb
 rcases hb with rfl|rfl|rfl|hb
 ·exact⟨_,e.row⟩
 ·exact⟨_,e.seen⟩
 ·exact⟨_,e.nodes⟩
 ·revert b hb
  refine ve.2 fun a ha=>?_
  rcases e.buf.2.2 with ⟨h0,_⟩|⟨c,hc,hcb⟩
  ·rw [h0]at ha;cases ha
  ·rw [hc]at ha;cases ha;exact⟨_,hcb⟩
theorem BI.put {h:Hp} {B rs rn vars:Nat} {s:Sl} {ns:List Nd} {es:List (ByteArray×Nat)} (e:BI h B rs rn vars s ns es) {n low:Nat} {f:Nat->Bool} (hlow:low+n=vars)
  {a:Nat} (ha:mkD n f low ns=(a,ns)): ∃(es2:List (ByteArray×Nat)) (res:Option (Nat×Value)),fP (Instr.sameNow .string (.string ⟨(cZ n f).toArray⟩)) (es.map fun e=>(.string e.1,I e.2)) 0=some res/\
   vQ (es.map fun e=>(.string e.1,I e.2)) (.string ⟨(cZ n f).toArray⟩) (I a) res=es2.map (fun e:ByteArray×Nat=>(Value.string e.1,I e.2))/\ ∀x∈es2,∃n f low,low+n=vars/\x.1=⟨(cZ n f).toArray⟩/\mkD n f low ns=(x.2,ns):=by
 rcases qq (Instr.sameNow .string (.string ⟨(cZ n f).toArray⟩)) (fun e:ByteArray×Nat=> .string e.1) (fun e=>I e.2) (fun e=>(⟨(cZ n f).toArray⟩:ByteArray)==e.1) es 0 (fun _ _=>rfl)with ⟨hno,hm⟩|⟨j,hj,hyes,_,hm⟩
 ·refine⟨es++ [(⟨(cZ n f).toArray⟩,a)],_,hm,by simp [vQ],?_⟩
  intro x hx
  rcases List.mem_append.1 hx with hx|hx
  ·exact e.true x hx
  ·simp only [List.mem_singleton]at hx;subst hx;exact⟨n,f,low,hlow,rfl,ha⟩
 ·refine⟨es.set j (⟨(cZ n f).toArray⟩,a),_,hm,by simp [vQ,List.map_set],?_⟩
  intro x hx
  rcases List.mem_or_eq_of_mem_set hx with hx|hx
  ·exact e.true x hx
  ·subst hx;exact⟨n,f,low,hlow,rfl,ha⟩
theorem Bl {n m:Nat} {f g:Nat->Bool} (e:cZ n f=cZ m g):n=m/\ ∀i,i<2^n->f i=g i:=by
 have hl:=congrArg List.length e
 simp only [cZ,List.length_map,List.length_range]at hl
 have hn:n=m:=(Nat.pow_right_inj (by decide:1<2)).1 hl
 subst hn
 refine⟨rfl,fun i hi=>?_⟩
 have:=congrArg (fun l:List UInt8=>l[i]?) e
 simp only [cZ,List.getElem?_map,List.getElem?_range hi,Option.map_some,Option.some.injEq]at this
 cases h1:f i<;>cases h2:g i<;>simp [h1,h2]at this<;>rfl
theorem Yo (nd:Nd) (ns:List Nd):
  (∃j,fP (aeq PR 3 jD (.agg #[I nd.v,I nd.lo,I nd.hi])) (ns.zipIdx.map fun e=>(Gt e.1,I (e.2+2:Nat))) 0=some (some (j,I (j+2:Nat)))/\je nd ns=(j+2,ns))\/
  (fP (aeq PR 3 jD (.agg #[I nd.v,I nd.lo,I nd.hi])) (ns.zipIdx.map fun e=>(Gt e.1,I (e.2+2:Nat))) 0=some none/\je nd ns=(ns.length+2,ns++ [nd])):=by
 have heq: ∀m:Nd,((nd.v:Int)==(m.v:Int)&&((nd.lo:Int)==(m.lo:Int)&&((nd.hi:Int)==(m.hi:Int)&&true)))=(m==nd):=by
  intro m
  rw [Bool.eq_iff_iff]
  simp only [Bool.and_eq_true,beq_iff_eq,Bool.and_true]
  obtain⟨a,b,c⟩:=nd;obtain⟨a',b',c'⟩:=m
  simp only [Nd.mk.injEq]
  omega
 rcases qq (aeq PR 3 jD (.agg #[I nd.v,I nd.lo,I nd.hi])) (fun e:Nd×Nat=>Gt e.1) (fun e=>I (e.2+2:Nat))
  (fun e=>(nd.v:Int)==(e.1.v:Int)&&((nd.lo:Int)==(e.1.lo:Int)&&((nd.hi:Int)==(e.1.hi:Int)&&true))) ns.zipIdx 0 (fun e _=>aa7 _ _ _ _ _ _)with ⟨hno,hm⟩|⟨j,hj,hyes,hbef,hm⟩
 ·refine .inr ⟨hm,?_⟩
  have:ns.idxOf? nd=none:=by
   simp only [List.idxOf?]
   rw [List.findIdx?_eq_none_iff]
   intro m hmm
   obtain⟨i,hi,rfl⟩:=List.getElem_of_mem hmm
   have:=hno (ns[i],i) (by rw [List.mem_iff_getElem];exact⟨i,by simpa using hi,by simp⟩)
   simp only [heq]at this
   exact this
  simp [je,this]
 ·have hj':j<ns.length:=by simpa using hj
  simp only [heq,List.getElem_zipIdx,Nat.zero_add]at hyes hbef hm
  refine .inl ⟨j,hm,?_⟩
  have:ns.idxOf? nd=some j:=by
   simp only [List.idxOf?]
   rw [List.findIdx?_eq_some_iff_getElem]
   exact⟨hj',hyes,fun l hl=>by have:=hbef l (by simp;omega) hl;simp [this]⟩
  simp [je,this]
theorem xh (ns:List Nd) (nd:Nd):bD (ns++ [nd])=bD ns++ [I nd.v,I nd.lo,I nd.hi]:=by simp [bD]
theorem k8 (ns:List Nd):(bD ns).length=ns.length*3:=by
 induction ns with
 |nil=>rfl
 |cons n ns ih=>simp only [bD,List.flatMap_cons,List.length_append,List.length_cons,List.length_nil]at ih⊢;omega
theorem PF {B rs rn vars:Nat} (hvars:vars<=13): ∀(n:Nat) (f:Nat->Bool) (low:Nat) (t:Sl) (h:Hp) (s:Sl) (ns:List Nd) (es:List (ByteArray×Nat)) (g:Hp) (R:Value->Hp->Prop),
  BI h B rs rn vars s ns es->g.le h->g B=none->g rs=none->g rn=none->(∀a,s.a=some a->g a.block=none)->AF g t n f->low+n=vars->ns.length+2^n<=1048576->
  (∀s' es' h',BI h' B rs rn vars s' (mkD n f low ns).2 es'->g.le h'->(∀a,s'.a=some a->g a.block=none)->R (I (mkD n f low ns).1) h')->
  gm #[.pointer (some ⟨B,0,none⟩),t.v,I low] h R:=by
 intro n
 induction n with
 |zero=>
  intro f low t h s ns es g R inv hg gB grs grn gs ht hlow hlen k
  apply qy
  refine uf_ ?_
  have hl:=ht.len
  obtain⟨b,o,ha,hc⟩:=ht.at (i:=0) (by simp)
  refine aM (by simp [hl]) ?_
  simp only [vm,hl,ha,hg.cell hc]
  have:=hg.cell hc
  simp only [Nat.add_zero]at this
  refine⟨by omega,by simp,?_⟩
  simp only [Int.toNat_zero,Nat.add_zero,this,vm]
  have:=k s es h inv hg gs
  simp only [mkD]at this
  have e0:W (if f 0 then 1 else 0)=((if f 0 then 1 else 0:Nat):Int):=by cases f 0<;>rfl
  rw [e0];exact this
 |succ n ih=>
  intro f low t h s ns es g R inv hg gB grs grn gs ht hlow hlen k
  apply qy
  refine uf_ ?_
  have hl:=ht.len
  have hp:2^(n+1)=2*2^n:=by rw [Nat.pow_succ];omega
  have hp1:0<2^n:=Nat.pow_pos (by omega)
  have hp2:2^n<=8192:=by
   have:=Nat.pow_le_pow_right (n:=2) (by omega) (show n<=13 by omega)
   simpa using this
  refine aE (by simp [hl];omega) ?_
  refine⟨cZ (n+1) f,(ht.mono hg).all,?_⟩
  simp only [vm,aq inv.row,mm]
  refine⟨rs,es.map (fun e=>(.string e.1,I e.2)),?_⟩
  rcases qq (Instr.sameNow .string (.string ⟨(cZ (n+1) f).toArray⟩)) (fun e:ByteArray×Nat=> .string e.1) (fun e=>I e.2) (fun e=>(⟨(cZ (n+1) f).toArray⟩:ByteArray)==e.1) es 0 (fun _ _=>rfl)with ⟨hno,hm⟩|⟨j,hj,hyes,_,hm⟩
  rotate_left
  ·refine⟨_,rfl,inv.seen,hm,_,rfl,aM rfl ?_⟩
   obtain⟨m,f',low',hlow',hkey,hmk⟩:=inv.true _ (List.getElem_mem hj)
   rw [hkey]at hyes
   have hb:cZ (n+1) f=cZ m f':=by
    have h9:((cZ (n+1) f).toArray==(cZ m f').toArray)=true:=hyes
    simpa using h9
   obtain⟨rfl,hff⟩:=Bl hb
   have:low'=low:=by omega
   subst this
   have e:=FC (n+1) low' ns hff
   rw [hmk]at e
   have:=k s es h (by rw [e];exact inv) hg gs
   rw [e]at this
   exact this
  refine⟨_,rfl,inv.seen,hm,_,rfl,aE rfl ?_⟩
  have hdiv:W ((t.n:Int).tdiv 2)=((2^n:Nat):Int):=by
   rw [hl,hp]
   have:(((2*2^n:Nat):Int)).tdiv 2=((2^n:Nat):Int):=by
    have:=Int.ofNat_tdiv (2*2^n) 2
    rw [show 2*2^n/2=2^n by omega]at this
    exact this.symm
   rw [this];exact eO (by omega)
  simp only [hdiv,vm,cn]
  refine ap (fun J=> ∀b1 b2:Nat,b1≠b2->h b1=none->h b2=none-> ∀h1:Hp,h1 b1=some (.inl ⟨List.replicate (2^n) (.int .u8 0),2^n,false⟩)->h1 b2=some (.inl ⟨List.replicate (2^n) (.int .u8 0),2^n,false⟩)->h.le h1->
   J ⟨some ⟨b1,0,none⟩,2^n,2^n⟩ ⟨some ⟨b2,0,none⟩,2^n,2^n⟩ h1) ?_ ?_
  rotate_left
  ·intro J hJ
   refine⟨⟨by omega,by omega,by omega,fun b1 hb1=>⟨by omega,by omega,by omega,fun b2 hb2=>?_⟩⟩,⟨by omega,by omega,by omega,fun b1 hb1=>⟨by omega,by omega,by omega,fun b2 hb2=>?_⟩⟩⟩
   ·exact hJ b1 b2 hb2.1.symm hb1 hb2.2 _ (by rw [bX _ _ hb2.1.symm,bM]) (by rw [bM]) (eo _ _ hb2.2 (fg _ _ hb1))
   ·exact hJ b2 b1 hb2.1 hb2.2 hb1 _ (by rw [bM]) (by rw [bX _ _ hb2.1.symm,bM]) (eo _ _ hb2.2 (fg _ _ hb1))
  intro b1 b2 n12 hb1 hb2 h1 f1 f2 l1
  refine av (2^n) (fun i vs h'=>vs= [.pointer (some ⟨B,0,none⟩),t.v,I low, .string ⟨(cZ (n+1) f).toArray⟩,Sl.v ⟨some ⟨b1,0,none⟩,2^n,2^n⟩,Sl.v ⟨some ⟨b2,0,none⟩,2^n,2^n⟩,I (2^n:Nat),I i]/\
   h.le h'/\ ∃c1 c2,h' b1=some (.inl ⟨c1,2^n,false⟩)/\h' b2=some (.inl ⟨c2,2^n,false⟩)/\c1.length=2^n/\c2.length=2^n/\c1.take i=(dp n fun i=>f (2*i)).take i/\c2.take i=(dp n fun i=>f (2*i+1)).take i)
   ⟨rfl,l1,_,_,f1,f2,by simp,by simp,by simp,by simp⟩ ?_
  rintro i _ h2 next hi ⟨rfl,l2,c1,c2,g1,g2,q1,q2,p1,p2⟩ hn
  refine⟨_,_,_,_,_,_,_,_,rfl,?_⟩
  by_cases hlt:i<2^n
  ·obtain⟨bt,ot,hta,htc⟩:=((ht.mono hg).mono l2).at (i:=2*i) (by omega)
   obtain⟨bt',ot',hta',htc'⟩:=((ht.mono hg).mono l2).at (i:=2*i+1) (by omega)
   rw [hta]at hta';cases hta'
   have e1:W (2*(i:Int))=((2*i:Nat):Int):=by rw [<-eO (n:=2*i) (by omega)];congr 1
   have e2:W (((2*i:Nat):Int)+1)=((2*i+1:Nat):Int):=aC (by omega)
   refine aM (by simpa using by exact_mod_cast hlt) ?_
   simp only [e1,e2,vm,mm,hl,hta,htc,htc',aC (n:=i) (show i<9223372036854775807 by omega)]
   refine⟨by omega,by omega,by omega,c1,2^n,g1,by omega,by omega,?_⟩
   rw [bX _ _ n12.symm]
   refine⟨c2,2^n,g2,by omega,?_⟩
   refine hn hlt _ _ ⟨rfl,eo _ _ hb2 (eo _ _ hb1 l2),_,_,by rw [bX _ _ n12,bM],bM ..,by simpa using q1,by simpa using q2,?_,?_⟩
   ·have hti:i<(dp n fun i=>f (2*i)).length:=by rw [tK];exact hlt
    rw [qs _ (by omega),p1,List.take_succ_eq_append_getElem hti]
    simp [dp]
   ·have hti:i<(dp n fun i=>f (2*i+1)).length:=by rw [tK];exact hlt
    rw [qs _ (by omega),p2,List.take_succ_eq_append_getElem hti]
    simp [dp]
  have:i=2^n:=by omega
  subst this
  rw [<-q1,List.take_length,q1,<-tK n (fun i=>f (2*i)),List.take_length]at p1
  rw [<-q2,List.take_length,q2,<-tK n (fun i=>f (2*i+1)),List.take_length]at p2
  subst p1;subst p2
  refine aE (by simp) ?_
  clear hn next f1 f2 l1 h1
  have hout: ∀b,h b=none->b∉ [B,rs,rn]++s.blk:=fun b hb hm=>by
   obtain⟨x,hx⟩:=inv.blkB b hm
   rw [hb]at hx;cases hx
  have tb:2^n<=9223372036854775807:=by omega
  have t1:AF (h2.wo ([B,rs,rn]++s.blk)) ⟨some ⟨b1,0,none⟩,2^n,2^n⟩ n (fun i=>f (2*i)):=
   ⟨tb,by simp [tK], .inr ⟨b1,0,rfl,ay (by rw [sk (hout b1 hb1)];exact g1)⟩⟩
  have t2:AF (h2.wo ([B,rs,rn]++s.blk)) ⟨some ⟨b2,0,none⟩,2^n,2^n⟩ n (fun i=>f (2*i+1)):=
   ⟨tb,by simp [tK], .inr ⟨b2,0,rfl,ay (by rw [sk (hout b2 hb2)];exact g2)⟩⟩
  have hgw:g.le (h2.wo ([B,rs,rn]++s.blk)):=r8 (Hp.le_trans hg l2) (by
   intro b hb
   simp only [List.cons_append,List.nil_append,List.mem_cons]at hb
   rcases hb with rfl|rfl|rfl|hb
   ·exact gB
   ·exact grs
   ·exact grn
   ·exact ve (p:=fun b=>g b=none).2 gs b hb)
  rw [aC (by omega)]
  have len1:=tp n (fun i=>f (2*i)) (low+1) ns
  refine ih _ (low+1) _ h2 s ns es (h2.wo ([B,rs,rn]++s.blk)) _ (inv.mono l2) (wO _ _) (fv (by simp)) (fv (by simp)) (fv (by simp))
   (ve (p:=fun b=>(h2.wo ([B,rs,rn]++s.blk)) b=none).1 fun b hb=>fv (by simp [hb])) t1 (by omega) (by omega) ?_
  intro s3 es3 h3 inv3 l3 gs3
  refine⟨_,rfl,cZ n (fun i=>f (2*i)),(t1.mono l3).all,cZ n (fun i=>f (2*i+1)),(t2.mono l3).all,?_⟩
  refine ap (fun J=> ∀s' es' h',BI h' B rs rn vars s' (mkD (n+1) f low ns).2 es'->g.le h'->(∀a,s'.a=some a->g a.block=none)->J ((mkD (n+1) f low ns).1:Nat) h') ?_ ?_
  ·intro s' es' h' inv' lg' gs'
   obtain⟨es2,res,hm2,hput,htrue⟩:=inv'.put (n:=n+1) (low:=low) (f:=f) hlow (yf (n+1) f low ns _ (List.prefix_refl _))
   simp only [vm,aq inv'.row,mm]
   refine⟨rs,_,res,rfl,inv'.seen,hm2,?_⟩
   rw [hput]
   have nB:B≠rs:=dQ inv'.row inv'.seen (by intro h;cases h)
   refine k s' es2 _ ⟨by rw [Hp.set_ne _ _ nB];exact inv'.row,?_,Hp.set_eq ..,by rw [Hp.set_ne _ _ inv'.far.symm];exact inv'.nodes,inv'.far,inv'.own,htrue⟩ (ny _ lg' grs) gs'
   refine⟨inv'.buf.1,inv'.buf.2.1,inv'.buf.2.2.imp id ?_⟩
   rintro ⟨c,hc,hcb⟩
   exact⟨c,hc,by rw [Hp.set_ne _ _ (dQ hcb inv'.seen (by intro h;cases h))];exact hcb⟩
  ·intro J hJ
   rw [lk,lk]
   refine ac (fun e=>?_) (fun e=>?_)
   rotate_left
   ·have e':cZ n (fun i=>f (2*i))=cZ n (fun i=>f (2*i+1)):=by simpa using e
    have hs2:=Se (low:=low+1) (ns:=ns) (Bl e').2
    have hmk:mkD (n+1) f low ns=mkD n (fun i=>f (2*i)) (low+1) ns:=by simp only [mkD];rw [hs2];simp
    have:=hJ s3 es3 h3 (by rw [hmk];exact inv3) (Hp.le_trans hgw l3) ?_
    ·rw [hmk]at this;exact this
    ·intro a ha;
     have:=gs3 a ha
     cases hga:g a.block with
     |none=>rfl
     |some x=>rw [hgw _ _ hga]at this;cases this
   have hne: ¬(mkD n (fun i=>f (2*i)) (low+1) ns).1=(mkD n (fun i=>f (2*i+1)) (low+1) (mkD n (fun i=>f (2*i)) (low+1) ns).2).1:=by
    intro he
    have:=Vc.1 he
    have e2:cZ n (fun i=>f (2*i))=cZ n (fun i=>f (2*i+1)):=by
     unfold cZ
     apply List.map_congr_left
     intro i hi
     simp only [this i (by simpa using hi)]
    rw [e2]at e;simp at e
   have hmk:mkD (n+1) f low ns=je ⟨low,(mkD n (fun i=>f (2*i)) (low+1) ns).1,(mkD n (fun i=>f (2*i+1)) (low+1) (mkD n (fun i=>f (2*i)) (low+1) ns).2).1⟩
     (mkD n (fun i=>f (2*i+1)) (low+1) (mkD n (fun i=>f (2*i)) (low+1) ns).2).2:=by simp only [mkD];rw [if_neg hne]
   have len2:=tp n (fun i=>f (2*i+1)) (low+1) (mkD n (fun i=>f (2*i)) (low+1) ns).2
   generalize mkD n (fun i=>f (2*i)) (low+1) ns=r1 at*
   refine ih _ (low+1) _ h3 s3 r1.2 es3 ((h3.wo ([B,rs,rn]++s3.blk))) _ inv3 (wO _ _) (fv (by simp)) (fv (by simp)) (fv (by simp))
    (ve (p:=fun b=>(h3.wo ([B,rs,rn]++s3.blk)) b=none).1 fun b hb=>fv (by simp [hb])) (t2.mono (r8 l3 ?_)) (by omega) (by omega) ?_
   ·intro b hb
    simp only [List.cons_append,List.nil_append,List.mem_cons]at hb
    rcases hb with rfl|rfl|rfl|hb
    ·exact fv (by simp)
    ·exact fv (by simp)
    ·exact fv (by simp)
    ·exact ve (p:=fun b=>(h2.wo ([B,rs,rn]++s.blk)) b=none).2 gs3 b hb
   generalize mkD n (fun i=>f (2*i+1)) (low+1) r1.2=r2 at*
   intro s4 es4 h4 inv4 l4 gs4
   refine⟨_,rfl,?_⟩
   intro b5 hb5
   have nB:=fresh_ne hb5 inv4.row
   have nN:=fresh_ne hb5 inv4.nodes
   simp only [vm,mm,nB,nN,aq inv4.row,ne_eq,not_false_eq_true]
   have hgw3:g.le (h3.wo ([B,rs,rn]++s3.blk)):=r8 (Hp.le_trans hgw l3) (by
    intro b hb
    refine aF hgw ?_
    simp only [List.cons_append,List.nil_append,List.mem_cons]at hb
    rcases hb with rfl|rfl|rfl|hb
    ·exact fv (by simp)
    ·exact fv (by simp)
    ·exact fv (by simp)
    ·exact ve (p:=fun b=>(h2.wo ([B,rs,rn]++s.blk)) b=none).2 gs3 b hb)
   have lg4:g.le h4:=Hp.le_trans hgw3 l4
   have gs4': ∀a,s4.a=some a->g a.block=none:=fun a ha=>aF hgw3 (gs4 a ha)
   have l5:=fg [I low,I r1.1,I r2.1] 3 hb5
   refine⟨by omega,rn,r2.2.zipIdx.map (fun e=>(Gt e.1,I (e.2+2:Nat))),?_⟩
   rcases Yo ⟨low,r1.1,r2.1⟩ r2.2 with ⟨j,hm5,hput⟩|⟨hm5,hput⟩
   ·refine⟨_,rfl,l5 _ _ inv4.nodes,hm5,_,rfl,aE rfl ?_⟩
    rw [hput]at hmk
    have:=hJ s4 es4 _ (by rw [hmk];exact inv4.mono l5) (Hp.le_trans lg4 l5) gs4'
    rw [hmk]at this
    exact this
   ·refine⟨_,rfl,l5 _ _ inv4.nodes,hm5,_,rfl,aM rfl ?_⟩
    rw [hput]at hmk
    rintro b6 ⟨n65,_,hb6⟩
    have nB6:=fresh_ne hb6 inv4.row
    have l6:=eo [I low,I r1.1,I r2.1] 3 (show (h4.row b5 [I low,I r1.1,I r2.1] 3) b6=none by rw [yd];exact⟨n65,hb6⟩) (Hp.le_refl _)
    have hsn:s4.n=r2.2.length:=by have:=inv4.buf.1;rw [k8]at this;omega
    refine⟨by rw [bX _ _ nB6,bX _ _ nB],?_⟩
    refine dw ((inv4.buf.mono l5).mono l6) (by omega) (by omega) (by omega) ⟨b6,0,rfl,ay (bM ..)⟩ (by simp) rfl ?_
    intro s7 h7 hn7 hb7 hl7 _
    have hH:h4.le ((h4.row b5 [I low,I r1.1,I r2.1] 3).row b6 [I low,I r1.1,I r2.1] 3):=Hp.le_trans l5 l6
    have dmap: ∀{c:Nat} {m:List (Value×Value)},h4 c=some (.inr m)-> ∀a,s4.a=some a->a.block≠c:=by
     intro c m hc a ha
     rcases inv4.buf.2.2 with ⟨h0,_⟩|⟨d,hd,hdb⟩
     ·rw [h0]at ha;cases ha
     ·rw [hd]at ha;cases ha;exact dQ hdb hc (by intro h;cases h)
    have d5: ∀a,s4.a=some a->a.block≠b5:=by
     intro a ha
     rcases inv4.buf.2.2 with ⟨h0,_⟩|⟨d,hd,hdb⟩
     ·rw [h0]at ha;cases ha
     ·rw [hd]at ha;cases ha;exact fresh_ne hb5 hdb
    obtain⟨f7B,o7B⟩:=ky hl7 (hH _ _ inv4.row) inv4.own
    obtain⟨f7s,o7s⟩:=ky hl7 (hH _ _ inv4.seen) (dmap inv4.seen)
    obtain⟨f7n,o7n⟩:=ky hl7 (hH _ _ inv4.nodes) (dmap inv4.nodes)
    obtain⟨f75,o75⟩:=ky hl7 (l6 _ _ (bM h4 b5 [I low,I r1.1,I r2.1] 3)) d5
    have n5B:=nB.symm
    have nsB:rs≠B:=dQ inv4.seen inv4.row (by intro h;cases h)
    have nnB:rn≠B:=dQ inv4.nodes inv4.row (by intro h;cases h)
    have hW2:W ((s4.n:Int)+2)=((r2.2.length+2:Nat):Int):=by rw [hsn,bU (by omega) (by omega)];omega
    simp only [vm,mm,f7B,aq f75,n5B,ne_eq,not_false_eq_true,hW2]
    refine⟨by omega,rn,_,none,rfl,by rw [bX _ _ nnB];exact f7n,hm5,rfl,?_⟩
    have:=hJ s7 es4 ((h7.row B [I vars,s7.v,I 0, .map (some rs), .map (some rn)] 5).set rn
     (some (.inr (vQ (r2.2.zipIdx.map fun e=>(Gt e.1,I (e.2+2:Nat))) (.agg #[I low,I r1.1,I r2.1]) (I (r2.2.length+2:Nat)) none)))) ?_ ?_ ?_
    ·rw [hmk]at this;exact this
    ·rw [hmk]
     refine⟨by rw [Hp.set_ne _ _ nnB.symm,bM],?_,by rw [Hp.set_ne _ _ inv4.far,bX _ _ nsB];exact f7s,?_,inv4.far,o7B,?_⟩
     ·rw [xh]
      refine⟨hb7.1,hb7.2.1,hb7.2.2.imp id ?_⟩
      rintro ⟨c,hc,hcb⟩
      exact⟨c,hc,by rw [Hp.set_ne _ _ (o7n _ hc),bX _ _ (o7B _ hc)];exact hcb⟩
     ·rw [Hp.set_eq]
      simp [vQ,List.zipIdx_append,Gt]
     ·intro x hx
      obtain⟨n',f',low',h1',h2',h3'⟩:=inv4.true x hx
      refine⟨n',f',low',h1',h2',?_⟩
      have:=yf n' f' low' r2.2 (r2.2++ [⟨low,r1.1,r2.1⟩]) (by rw [h3'];exact List.prefix_append _ _)
      rw [h3']at this;exact this
    ·refine ny _ ?_ grn
     intro c x hcx
     have hcB:c≠B:=fun h=>by rw [h,gB]at hcx;cases hcx
     rw [bX _ _ hcB]
     exact(ky hl7 (hH _ _ (lg4 _ _ hcx)) (fun a ha hac=>by rw [<-hac,gs4' a ha]at hcx;cases hcx)).1
    ·intro a ha
     cases hg7:g a.block with
     |none=>rfl
     |some x=>
      exact absurd rfl ((ky hl7 (hH _ _ (lg4 _ _ hg7)) (fun a' ha' hac=>by rw [<-hac,gs4' a' ha']at hg7;cases hg7)).2 a ha)
theorem NQ (ns:List Nd):(bD ns).all (·.oneCell')=true:=by
 rw [List.all_eq_true]
 intro v hv
 simp only [bD,List.mem_flatMap]at hv
 obtain⟨n,_,hv⟩:=hv
 simp only [List.mem_cons,List.not_mem_nil,or_false]at hv
 rcases hv with rfl|rfl|rfl<;>rfl
theorem Pt {h:Hp} {s:Sl} {ns:List Nd} {v r:Int} {R:Value->Hp->Prop} (hs:SlC h s 3 (bD ns)) (hn:ns.length<=1048576)
  (k: ∀t h',h.le h'->Own (h'.sub h) t 3 (bD ns)->R (.agg #[I v,Sl.v t,I r]) h'):pO #[.agg #[I v,s.v,I r]] h R:=by
 apply DD
 refine uf_ ?_
 intro b1 hb1
 simp only [vm,mm]
 rintro b2 ⟨n21,hb2⟩
 have n12:=n21.symm
 have hsn:s.n=ns.length:=by have:=hs.2.1;rw [k8]at this;omega
 simp only [vm,mm,n12,n21,ne_eq,not_false_eq_true]
 have l0:=eo [I 0, .slice none 0 0,I 0] 3 hb2 (fg [I v,s.v,I r] 3 hb1)
 refine JJ (hs.mono l0) (by omega) (NQ _) ?_
 intro t h3 hn3 l3 hb3
 have f1:=l3 _ _ ((bX _ _ n12).trans (bM ..))
 have f2:=l3 _ _ (bM ..)
 simp only [vm,mm,f1,f2]
 refine⟨by omega,k _ _ (eo _ _ hb2 (Hp.le_trans l0 l3)) ((hb3.own (by omega)).mono ?_)⟩
 exact N1 _ _ (my (bM ..)) (Ga _ l0)
def pu (n:Nat) (f:Nat->Bool):Option (Nat×List Nd):=if 600<(mkD n f 0 []).2.length then none else some (mkD n f 0 [])
theorem LI {h:Hp} {t:Sl} {n:Nat} {f:Nat->Bool} {R:Value->Hp->Prop} (hn:n<=13) (ht:AF h t n f)
  (k0:pu n f=none->R (.tuple #[.agg #[I 0, .slice none 0 0,I 0], .bool false]) h)
  (k1: ∀r,pu n f=some r-> ∀s h',h.le h'->Own (h'.sub h) s 3 (bD r.2)->R (.tuple #[.agg #[I n,Sl.v s,I r.1], .bool true]) h'):
  eX #[t.v] h R:=by
 refine ACalls.drop (yl ?_)
 refine uf_ ?_
 intro b1 hb1
 have l1:=fg [I 0, .slice none 0 0,I 0] 3 hb1
 refine wc fun h1 e1=>?_
 refine av n (fun i vs h'=>vs= [t.v, .pointer (some ⟨b1,0,none⟩),I i]/\h'=h1) ⟨rfl,rfl⟩ ?_
 rintro i _ _ next hi ⟨rfl,rfl⟩ hnx
 refine⟨_,_,_,_,rfl,?_⟩
 rw [if_neg (by omega),bJ (by omega),ht.len]
 by_cases hlt:i<n
 ·refine aM ?_ ?_
  ·have:=Nat.pow_lt_pow_right (a:=2) (by omega) hlt
   simpa using by exact_mod_cast this
  ·rw [aC (by omega)];exact hnx hlt _ _ ⟨rfl,rfl⟩
 have hin:i=n:=by omega
 subst hin
 refine aE (by simp) ?_
 rename_i h1
 rw [<-e1]at l1
 intro rs hrs
 refine wc fun h2 e2=>?_
 intro rn hrn
 refine wc fun h3 e3=>?_
 intro B hB
 refine wc fun h4 e4=>?_
 have l2:h1.le h2:=e2▸Hp.le_set _ hrs
 have l3:h2.le h3:=e3▸Hp.le_set _ hrn
 have l4:h3.le h4:=e4▸fg _ _ hB
 have f2:h2 rs=some (.inr []):=by rw [e2,Hp.set_eq]
 have f3:h3 rn=some (.inr []):=by rw [e3,Hp.set_eq]
 have f4:h4 B=some (.inl ⟨[I i, .slice none 0 0,I 0, .map (some rs), .map (some rn)],5,false⟩):=by rw [e4,bM]
 have far:rs≠rn:=fresh_ne hrn f2
 have inv:BI h4 B rs rn i ⟨none,0,0⟩ [] []:=⟨f4,eY _ _,l4 _ _ (l3 _ _ f2),l4 _ _ f3,far,by simp,by simp⟩
 have l14:h1.le h4:=Hp.le_trans l2 (Hp.le_trans l3 l4)
 have hp2:2^i<=8192:=by
  have:=Nat.pow_le_pow_right (n:=2) (by omega) hn
  simpa using this
 have hB1:h1 B=none:=aF (Hp.le_trans l2 l3) hB
 have len:=tp i f 0 []
 simp only [List.length_nil]at len
 refine PF hn i f 0 t h4 ⟨none,0,0⟩ [] [] h1 _ inv l14 hB1 hrs (aF l2 hrn) (by simp) (ht.mono l1) (by omega) (by simp;omega) ?_
 intro s5 es5 h5 inv5 l5 _
 have hs5:s5.n=(mkD i f 0 []).2.length:=by have:=inv5.buf.1;rw [k8]at this;omega
 have b1B:b1≠B:=fun h=>by subst h;rw [e1,bM]at hB1;cases hB1
 have g1:h5 b1=some (.inl ⟨[I 0, .slice none 0 0,I 0],3,false⟩):=l5 _ _ (by rw [e1,bM])
 simp only [vm,mm,inv5.row]
 refine⟨_,rfl,by omega,?_⟩
 rw [hs5]
 have g1':(h5.row B [I i,s5.v,I (mkD i f 0 []).1, .map (some rs), .map (some rn)] 5) b1=some (.inl ⟨[I 0, .slice none 0 0,I 0],3,false⟩):=by rw [bX _ _ b1B];exact g1
 have l15:h.le (h5.row B [I i,s5.v,I (mkD i f 0 []).1, .map (some rs), .map (some rn)] 5):=eo _ _ (aF l1 hB1) (Hp.le_trans l1 l5)
 refine ac (fun e=>?_) (fun e=>?_)
 ·have e':600<(mkD i f 0 []).2.length:=by simp at e;omega
  simp only [vm,mm,g1']
  exact⟨by omega,_,eo _ _ hb1 l15,k0 (by simp [pu,e'])⟩
 ·have e': ¬600<(mkD i f 0 []).2.length:=by simp at e;omega
  have hbuf:SlC (h5.row B [I i,s5.v,I (mkD i f 0 []).1, .map (some rs), .map (some rn)] 5) s5 3 (bD (mkD i f 0 []).2):=by
   refine Buf.slc ⟨inv5.buf.1,inv5.buf.2.1,inv5.buf.2.2.imp id ?_⟩ (by omega)
   rintro ⟨c,hc,hcb⟩
   exact⟨c,hc,by rw [bX _ _ (inv5.own _ hc)];exact hcb⟩
  refine Pt hbuf (by omega) fun t6 h6 l6 ho=>⟨_,_,_,rfl,?_⟩
  have g6:=l6 _ _ g1'
  simp only [vm,mm,g6]
  refine⟨by omega,_,Hp.le_refl _,k1 _ (by simp [pu,e']) t6 _ (eo _ _ hb1 (Hp.le_trans l15 l6)) (ho.mono ?_)⟩
  exact N1 _ _ (my g1') (Ga _ l15)
structure Bd where
 v:Int
 ns:List Nd
 r:Int
 ok:Bool
def js :Bd:=⟨0, [],0,false⟩
def cQ (v:Int) (f:Nat->Bool):Bd:=if 0<=v/\v<=13 then(match pu v.toNat f with|none=>js|some r=>⟨v,r.2,r.1,true⟩)else js
theorem xQ (v:Int) (b:Bool):cQ v (fun _=>b)=if 0<=v/\v<=13 then⟨v, [],if b then 1 else 0,true⟩else js:=by
 unfold cQ pu
 simp only [JG]
 split
 ·cases b<;>simp
 ·rfl
theorem AX {h:Hp} {v:Int} {b:Bool} {R:Value->Hp->Prop}
  (k: ∀s h',h.le h'->Own (h'.sub h) s 3 (bD (cQ v fun _=>b).ns)->R (.tuple #[.agg #[I (cQ v fun _=>b).v,Sl.v s,I (cQ v fun _=>b).r], .bool (cQ v fun _=>b).ok]) h'):
  qW #[I v, .bool b] h R:=by
 refine ACalls.drop (E4 ?_)
 refine uf_ ?_
 intro b1 hb1
 have l0:=fg [I 0, .slice none 0 0,I 0] 3 hb1
 simp only [vm,mm]
 rw [xQ]at k
 refine Em ⟨_,rfl,ac (fun e=>?_) (fun e=>?_)⟩
 ·have e': ¬(0<=v/\v<=13):=by simp at e;omega
  rw [if_neg e']at k
  simp only [vm,mm]
  exact⟨by omega,_,l0,k ⟨none,0,0⟩ h (Hp.le_refl _) (mU _ _)⟩
 ·have e':0<=v/\v<=13:=by simpa using e
  rw [if_pos e']at k
  refine Bk ?_
  refine uf_ ?_
  simp only [vm,mm]
  have:=k ⟨none,0,0⟩ h (Hp.le_refl _) (mU _ _)
  cases b
  ·exact⟨_,rfl,by omega,_,fg _ _ hb1,this⟩
  ·exact⟨_,rfl,by omega,_,fg _ _ hb1,this⟩
theorem Q0 {h:Hp} {s:Sl} {ns:List Nd} (e:SlC h s 3 (bD ns)) {i:Nat} (hi:i<ns.length):
  ∃b o,s.a=some (Addr.mk b o none)/\Hp.cell h b (o+i*3)=some (I ns[i].v)/\Hp.cell h b (o+i*3+1)=some (I ns[i].lo)/\Hp.cell h b (o+i*3+2)=some (I ns[i].hi):=by
 have hl:=e.2.1
 rw [k8]at hl
 obtain⟨b,o,ha,hc⟩:=SlC.get e (by omega)
 have key: ∀(ns:List Nd) (i:Nat) (hi:i<ns.length),(bD ns)[i*3]?=some (I ns[i].v)/\(bD ns)[i*3+1]?=some (I ns[i].lo)/\(bD ns)[i*3+2]?=some (I ns[i].hi):=by
  intro ns
  induction ns with
  |nil=>intro i hi;simp at hi
  |cons n ns ih=>
   intro i hi
   cases i with
   |zero=>simp [bD]
   |succ i=>
    have:=ih i (by simpa using hi)
    have hx:bD (n::ns)=I n.v::I n.lo::I n.hi::bD ns:=rfl
    rw [hx,show (i+1)*3=i*3+3 by omega]
    simpa using this
 obtain⟨k1,k2,k3⟩:=key ns i hi
 exact⟨b,o,ha,hc _ _ k1,by rw [Nat.add_assoc];exact hc _ _ k2,by rw [Nat.add_assoc];exact hc _ _ k3⟩
theorem Mp {h:Hp} {s:Sl} {ns:List Nd} (e:SlC h s 3 (bD ns)):s.n=ns.length:=by
 have hl:=e.2.1
 rw [k8]at hl;omega
def un (h:Hp) (s:Sl) (xs:List Int):Prop:=Buf h s 1 (xs.map I)
theorem un.len {h:Hp} {s:Sl} {xs:List Int} (e:un h s xs):s.n=xs.length:=by have:=e.1;simp at this;omega
theorem un.ints {h:Hp} {s:Sl} {xs:List Int} (e:un h s xs) (hn:xs.length<=1048576):IntS h s xs:=Buf.slc e (by rw [e.len];omega)
theorem un.mono {h h':Hp} {s:Sl} {xs:List Int} (l:h.le h') (e:un h s xs):un h' s xs:=Buf.mono l e
theorem NI {h:Hp} {s:Sl} {xs:List Int} {x:Int} {b:Nat} {K:Option Addr->Nat->Nat->Hp->Prop} (hb:un h s xs) (hl:xs.length<=1048576) (hc:Hp.cell h b 0=some (I x))
  (k: ∀(s':Sl) (h':Hp),un h' s' (xs++ [x])->(h.offS s).le (h'.offS s')->K s'.a s'.n s'.c h'):co h s.a s.n s.c (some ⟨b,0,none⟩) 1 1 8 K:=by
 refine dw hb (by omega) (by rw [hb.len];omega) (by rw [hb.len];omega) ⟨b,0,rfl,fun i v hi=>?_⟩ (news:= [I x]) rfl rfl ?_
 ·cases i with
  |zero=>simp at hi;subst hi;exact hc
  |succ i=>simp at hi
 ·intro s' h' hn hbuf hle _
  exact k s' h' (by unfold un;rw [List.map_append];exact hbuf) hle
structure gj (h h':Hp) (t:Sl) (set:List Int):Prop where
 buf:un h' t set
 le:h.le (h'.offS t)
theorem gj.keep {h h':Hp} {t:Sl} {set:List Int} (e:gj h h' t set):h.le h':=Hp.le_trans e.le (bz _ _)
theorem gj.app {h h':Hp} {t:Sl} {set:List Int} {x:Int} {b:Nat} {K:Option Addr->Nat->Nat->Hp->Prop} (e:gj h h' t set) (hl:set.length<=1048576) (hb:h' b=none)
  (k: ∀(t':Sl) (h'':Hp),gj h h'' t' (set++ [x])->K t'.a t'.n t'.c h''):co (h'.row b [I x] 1) t.a t.n t.c (some ⟨b,0,none⟩) 1 1 8 K:=by
 have l:=fg [I x] 1 hb
 refine NI (e.buf.mono l) hl (qE _ _ _ _ _) fun t' h'' hb' hl'=>k t' h'' ⟨hb',Hp.le_trans (Hp.le_trans e.le (bP t l)) hl'⟩
theorem gj.own {h h':Hp} {t:Sl} {set:List Int} (e:gj h h' t set) (hl:set.length<=1048576):Own (h'.sub h) t 1 (set.map I):=by
 have hn:=e.buf.len
 refine⟨e.buf.1,by omega,?_⟩
 rcases e.buf.2.2 with ⟨_,h0,_⟩|⟨b,ha,hb⟩
 ·exact .inl h0
 ·refine .inr ⟨b,t.c*1,ha,?_⟩
  rw [mf]
  ·exact hb
  ·refine aF e.le ?_
   simp [Hp.offS,ha,Hp.off,Hp.set]
theorem gn.all {v:Int} {l:List Int} (e:gn v l=true): ∀x∈l,x≠0/\ -v<=x/\x<=v:=fun x hx=>H6.iff.1 (gn.lit e hx)
def Bx (set:List Int):List (Value×Value):=set.map fun x=>(I x, .bool true)
theorem R9 (set:List Int) (n:Int): ∃res,fP (Instr.sameNow (.int .i64) (I n)) (Bx set) 0=some res/\Option.getD (Option.map (fun p=>p.2) res) (.bool false)= .bool (set.contains n)/\
  vQ (Bx set) (I n) (.bool true) res=Bx (if set.contains n then set else set++ [n]):=by
 unfold Bx
 rcases qq (Instr.sameNow (.int .i64) (I n)) (fun x:Int=>I x) (fun _=> .bool true) (fun x=>n==x) set 0 (fun x _=>MW _ _ _)with ⟨hno,hm⟩|⟨j,hj,hyes,_,hm⟩
 ·have hc:set.contains n=false:=by
   rw [Bool.eq_false_iff];intro h
   have:=hno n (by simpa using h)
   simp at this
  exact⟨_,hm,by rw [hc];rfl,by rw [hc];simp [vQ]⟩
 ·have he:n=set[j]:=by simpa using hyes
  have hc:set.contains n=true:=by
   rw [he];simp
  refine⟨_,hm,by rw [hc];rfl,?_⟩
  rw [hc,if_pos rfl]
  simp only [vQ,Nat.zero_add]
  apply List.ext_getElem
  ·simp
  ·intro i h1 h2
   rw [List.getElem_set]
   split
   ·rename_i hij;subst hij;simp [he]
   ·rfl
structure aa5 (h h':Hp) (rm:Nat) (set:List Int):Prop where
 map:h' rm=some (.inr (Bx set))
 le:h.le h'
 new:h rm=none
theorem aa5.put {h h':Hp} {rm:Nat} {set set':List Int} (e:aa5 h h' rm set):aa5 h (h'.set rm (some (.inr (Bx set')))) rm set':=
 ⟨Hp.set_eq ..,ny _ e.le e.new,e.new⟩
structure dG (h h':Hp) (t:Sl) (xss:List (List Int)):Prop where
 buf: ∃ts:List Sl,Buf h' t 1 (ts.map Sl.v)/\ts.length=xss.length/\ ∀(i:Nat) (h1:i<ts.length) (h2:i<xss.length),IntS h ts[i] xss[i]
 le:h.le (h'.offS t)
theorem dG.keep {h h':Hp} {t:Sl} {xss:List (List Int)} (e:dG h h' t xss):h.le h':=Hp.le_trans e.le (bz _ _)
theorem dG.ints {h h':Hp} {t:Sl} {xss:List (List Int)} (e:dG h h' t xss) (hl:xss.length<=1048576):IntSS h' t xss:=by
 obtain⟨ts,hb,h1,h2⟩:=e.buf
 have hn:t.n=xss.length:=by have:=hb.1;simp at this;omega
 exact⟨ts,h1,hb.slc (by omega),fun i a b=>(h2 i a b).mono e.keep⟩
theorem dG.app {h h':Hp} {t u:Sl} {xss:List (List Int)} {x:List Int} {b:Nat} {K:Option Addr->Nat->Nat->Hp->Prop} (e:dG h h' t xss) (hl:xss.length<=1048576) (hu:IntS h u x) (hb:h' b=none)
  (k: ∀(t':Sl) (h'':Hp),dG h h'' t' (xss++ [x])->K t'.a t'.n t'.c h''):co (h'.row b [u.v] 1) t.a t.n t.c (some ⟨b,0,none⟩) 1 1 24 K:=by
 have l:=fg [u.v] 1 hb
 obtain⟨ts,hbuf,h1,h2⟩:=e.buf
 have hn:t.n=xss.length:=by have:=hbuf.1;simp at this;omega
 refine dw (hbuf.mono l) (by omega) (by omega) (by omega) ⟨b,0,rfl,fun i v hi=>?_⟩ (news:= [u.v]) rfl rfl ?_
 ·cases i with
  |zero=>simp at hi;subst hi;exact qE _ _ _ _ _
  |succ i=>simp at hi
 ·intro t' h'' hn' hb' hle _
  refine k t' h'' ⟨⟨ts++ [u],by rw [List.map_append];exact hb',by simp [h1],?_⟩,Hp.le_trans (Hp.le_trans e.le (bP t l)) hle⟩
  intro i a c
  by_cases hi:i<ts.length
  ·rw [List.getElem_append_left hi,List.getElem_append_left (by omega)];exact h2 i hi (by omega)
  ·have:i=ts.length:=by simp at a;omega
   subst this
   simp only [List.getElem_append_right (Nat.le_refl _),Nat.sub_self,List.getElem_cons_zero]
   simp only [h1,List.getElem_append_right (Nat.le_refl _),Nat.sub_self,List.getElem_cons_zero]
   exact hu
def vG (S:List Int) (l:List Int):Prop:=
 (∃x∈l,x∈S)\/ ∃x∈l,∃y∈l,x≠y/\(x∉S/\ -x∉S)/\(y∉S/\ -y∉S)
def Po (S:List Int):Prop:= ∀x∈S, -x∉S
def WfL (v:Int) (l:List Int):Prop:= ∀x∈l,x≠0/\ -v<=x/\x<=v
def WfC (v:Int) (c:List (List Int)):Prop:= ∀l∈c,WfL v l
theorem Eh (set:List Int): ∀(l:List Int) (left:Int),(∀x∈l,x≠0)->(left≠0->left∉set/\ -left∉set)->
  (gO set l left=(0,false)/\((∃x∈l,x∈set)\/ ∃x∈l,∃y∈left::l,y≠0/\x≠y/\(x∉set/\ -x∉set)/\(y∉set/\ -y∉set)))\/
  ((gO set l left).2=((gO set l left).1==0)/\(left≠0->(gO set l left).1=left)/\ ∀x∈l,x=(gO set l left).1\/ -x∈set):=by
 intro l
 induction l with
 |nil=>intro left _ _;exact .inr ⟨rfl,fun _=>rfl,by simp⟩
 |cons x r ih=>
  intro left hx ho
  have hr:=fun y hy=>hx y (List.mem_cons_of_mem _ hy)
  have hx0:=hx x (by simp)
  simp only [gO]
  by_cases h1:set.contains x=true
  ·rw [if_pos h1];exact .inl ⟨rfl, .inl ⟨x,by simp,by simpa using h1⟩⟩
  rw [if_neg h1]
  by_cases h2:set.contains (-x)=true
  ·rw [if_pos h2]
   rcases ih left hr ho with ⟨e,h⟩|⟨e,h,h'⟩
   ·refine .inl ⟨e,?_⟩
    rcases h with ⟨z,hz,hs⟩|⟨z,hz,y,hy,h⟩
    ·exact .inl ⟨z,by simp [hz],hs⟩
    ·refine .inr ⟨z,by simp [hz],y,?_,h⟩
     rcases List.mem_cons.1 hy with rfl|hy
     ·simp
     ·simp [hy]
   ·refine .inr ⟨e,h,?_⟩
    intro z hz
    rcases List.mem_cons.1 hz with rfl|hz
    ·exact .inr (by simpa using h2)
    ·exact h' z hz
  rw [if_neg h2]
  have hxo:x∉set/\ -x∉set:=⟨by simpa using h1,by simpa using h2⟩
  by_cases h3:(left !=0&&left !=x)=true
  ·rw [if_pos h3]
   simp at h3
   exact .inl ⟨rfl, .inr ⟨x,by simp,left,by simp,h3.1,fun e=>h3.2 e.symm,hxo,ho h3.1⟩⟩
  rw [if_neg h3]
  have hl:left≠0->left=x:=by simpa using h3
  rcases ih x hr (fun _=>hxo)with ⟨e,h⟩|⟨e,h,h'⟩
  ·refine .inl ⟨e,?_⟩
   rcases h with ⟨z,hz,hs⟩|⟨z,hz,y,hy,h⟩
   ·exact .inl ⟨z,by simp [hz],hs⟩
   ·exact .inr ⟨z,by simp [hz],y,List.mem_cons_of_mem _ hy,h⟩
  ·refine .inr ⟨e,fun h0=>?_,?_⟩
   ·rw [h hx0,hl h0]
   ·intro z hz
    rcases List.mem_cons.1 hz with rfl|hz
    ·exact .inl (h hx0).symm
    ·exact h' z hz
theorem Sr {set S l:List Int} (hs:set⊆S) (hc:Po S) (hl: ∀x∈l,x≠0) (st:vG S l):
  (gO set l 0).2=false/\((gO set l 0).1≠0->(gO set l 0).1∈S):=by
 rcases Eh set l 0 hl (fun h=>absurd rfl h)with ⟨e,_⟩|⟨e,_,h⟩
 ·rw [e];exact⟨rfl,fun h=>absurd rfl h⟩
 ·obtain⟨x,hx,hn,hS⟩: ∃x∈l,x=(gO set l 0).1/\x∈S:=by
   rcases st with ⟨x,hx,hS⟩|⟨x,hx,y,hy,hne,hxo,hyo⟩
   ·rcases h x hx with h1|h1
    ·exact⟨x,hx,h1,hS⟩
    ·exact absurd (hs h1) (hc x hS)
   ·rcases h x hx with h1|h1
    ·rcases h y hy with h2|h2
     ·exact absurd (h1.trans h2.symm) hne
     ·exact absurd (hs h2) hyo.2
    ·exact absurd (hs h1) hxo.2
  rw [e,<-hn]
  exact⟨by simpa using hl x hx,fun _=>hS⟩
theorem Mf {set l:List Int} (hl: ∀x∈l,x≠0) (h1:(gO set l 0).2=false) (h2:(gO set l 0).1=0):vG set l:=by
 rcases Eh set l 0 hl (fun h=>absurd rfl h)with ⟨e,h⟩|⟨e,_,h⟩
 ·refine h.imp id ?_
  rintro ⟨x,hx,y,hy,hy0,h⟩
  rcases List.mem_cons.1 hy with rfl|hy
  ·exact absurd rfl hy0
  ·exact⟨x,hx,y,hy,h⟩
 ·rw [h1,h2]at e;simp at e
theorem KG {S:List Int} (hc:Po S): ∀(cls:List (List Int)) (set:List Int) (more:Bool),set⊆S->(∀l∈cls,(∀x∈l,x≠0)/\vG S l)->
  ∃set' more',ml cls set more=some (set',more')/\set'⊆S:=by
 intro cls
 induction cls with
 |nil=>intro set more hs _;exact⟨set,more,rfl,hs⟩
 |cons l r ih=>
  intro set more hs hl
  have h:=Sr hs hc (hl l (by simp)).1 (hl l (by simp)).2
  have hr:=fun l' h'=>hl l' (List.mem_cons_of_mem _ h')
  simp only [ml,h.1,Bool.false_eq_true,if_false]
  split
  ·rename_i hne
   refine ih _ _ ?_ hr
   intro x hx
   rcases List.mem_append.1 hx with hx|hx
   ·exact hs hx
   ·simp only [List.mem_singleton]at hx;subst hx;exact h.2 (by simpa using hne)
  ·exact ih _ _ hs hr
theorem MT : ∀(cls:List (List Int)) (set:List Int) (more:Bool) (set':List Int) (more':Bool),ml cls set more=some (set',more')->set⊆set':=by
 intro cls
 induction cls with
 |nil=>intro set more set' more' h;simp only [ml,Option.some.injEq,Prod.mk.injEq]at h;rw [h.1];exact fun x hx=>hx
 |cons l r ih=>
  intro set more set' more' h
  simp only [ml]at h
  split at h
  ·cases h
  ·split at h
   ·exact fun x hx=>ih _ _ _ _ h (List.mem_append_left _ hx)
   ·exact ih _ _ _ _ h
theorem Cj : ∀(cls:List (List Int)) (set:List Int) (more:Bool) (set':List Int),(∀l∈cls,∀x∈l,x≠0)->ml cls set more=some (set',false)->
  more=false/\set'=set/\ ∀l∈cls,vG set l:=by
 intro cls
 induction cls with
 |nil=>intro set more set' _ h;simp only [ml,Option.some.injEq,Prod.mk.injEq]at h;exact⟨h.2,h.1.symm,by simp⟩
 |cons l r ih=>
  intro set more set' hl h
  have hr:=fun l' h'=>hl l' (List.mem_cons_of_mem _ h')
  simp only [ml]at h
  split at h
  ·cases h
  ·rename_i h1
   split at h
   ·have:=(ih _ _ _ hr h).1;cases this
   ·rename_i h2
    obtain⟨e1,e2,e3⟩:=ih _ _ _ hr h
    refine⟨e1,e2,?_⟩
    intro l' h'
    rcases List.mem_cons.1 h' with rfl|h'
    ·exact Mf (hl _ (by simp)) (by simpa using h1) (by simpa using h2)
    ·exact e3 l' h'
theorem vO {cls:List (List Int)} {set:List Int} {v:Int} (hv0:0<=v) (hv:v<=10) (hc:WfC v cls) (k:qM v set):
  kG cls set=match ml cls set false with|none=>none|some (set',more)=>if more then kG cls set' else some set':=by
 rw [kG]
 cases hp:ml cls set false with
 |none=>rfl
 |some p=>
  obtain⟨set',more⟩:=p
  obtain⟨k',hl,hm⟩:=qQ cls set false k hc _ _ hp
  cases more with
  |false=>rfl
  |true=>
   have h1:set.length<set'.length:=by
    rcases hm rfl with h|h
    ·cases h
    ·exact h
   have h2:=k'.len hv hv0
   simp [h1,h2]
theorem Nf {S:List Int} (hS:Po S) {cls:List (List Int)} {v:Int} (hv0:0<=v) (hv:v<=10) (hc:WfC v cls) (hst: ∀l∈cls,vG S l):
  ∀(n:Nat) (set:List Int),20-set.length<=n->qM v set->set⊆S-> ∃set',kG cls set=some set'/\set'⊆S:=by
 intro n
 induction n with
 |zero=>
  intro set hn k hs
  obtain⟨set',more',hp,hs'⟩:=KG hS cls set false hs (fun l h=>⟨fun x hx=>(hc l h x hx).1,hst l h⟩)
  obtain⟨k',hl,hm⟩:=qQ cls set false k hc _ _ hp
  have h2:=k'.len hv hv0
  rw [vO hv0 hv hc k,hp]
  cases more' with
  |false=>exact⟨set',rfl,hs'⟩
  |true=>
   rcases hm rfl with h|h
   ·cases h
   ·omega
 |succ n ih=>
  intro set hn k hs
  obtain⟨set',more',hp,hs'⟩:=KG hS cls set false hs (fun l h=>⟨fun x hx=>(hc l h x hx).1,hst l h⟩)
  obtain⟨k',hl,hm⟩:=qQ cls set false k hc _ _ hp
  rw [vO hv0 hv hc k,hp]
  cases more' with
  |false=>exact⟨set',rfl,hs'⟩
  |true=>
   rcases hm rfl with h|h
   ·cases h
   ·exact ih set' (by omega) k' hs'
theorem Hx {cls:List (List Int)} {v:Int} (hv0:0<=v) (hv:v<=10) (hc:WfC v cls):
  ∀(n:Nat) (set set':List Int),20-set.length<=n->qM v set->kG cls set=some set'->set⊆set'/\qM v set'/\ ∀l∈cls,vG set' l:=by
 intro n
 induction n with
 |zero=>
  intro set set' hn k h
  rw [vO hv0 hv hc k]at h
  cases hp:ml cls set false with
  |none=>rw [hp]at h;cases h
  |some p=>
   obtain⟨s,more⟩:=p
   rw [hp]at h
   obtain⟨k',hl,hm⟩:=qQ cls set false k hc _ _ hp
   have h2:=k'.len hv hv0
   cases more with
   |true=>
    rcases hm rfl with h|h
    ·cases h
    ·omega
   |false=>
    simp only [Bool.false_eq_true,if_false,Option.some.injEq]at h
    subst h
    have:=Cj cls set false s (fun l h x hx=>(hc l h x hx).1) hp
    rw [this.2.1]
    exact⟨fun x hx=>hx,k,this.2.2⟩
 |succ n ih=>
  intro set set' hn k h
  rw [vO hv0 hv hc k]at h
  cases hp:ml cls set false with
  |none=>rw [hp]at h;cases h
  |some p=>
   obtain⟨s,more⟩:=p
   rw [hp]at h
   obtain⟨k',hl,hm⟩:=qQ cls set false k hc _ _ hp
   cases more with
   |true=>
    rcases hm rfl with h'|h'
    ·cases h'
    ·simp only [if_true]at h
     obtain⟨a,b,c⟩:=ih s set' (by omega) k' h
     exact⟨fun x hx=>a (MT _ _ _ _ _ hp hx),b,c⟩
   |false=>
    simp only [Bool.false_eq_true,if_false,Option.some.injEq]at h
    subst h
    have:=Cj cls set false s (fun l h x hx=>(hc l h x hx).1) hp
    rw [this.2.1]
    exact⟨fun x hx=>hx,k,this.2.2⟩
theorem PO {S:List Int} (hS:Po S): ∀(g set:List Int),g⊆S->set⊆S-> ∃set',sq g set=some set'/\set'⊆S:=by
 intro g
 induction g with
 |nil=>intro set _ hs;exact⟨set,rfl,hs⟩
 |cons x r ih=>
  intro set hg hs
  have hx:x∈S:=hg (by simp)
  have hr:r⊆S:=fun y hy=>hg (List.mem_cons_of_mem _ hy)
  have hn: ¬set.contains (-x)=true:=fun h=>hS x hx (hs (by simpa using h))
  simp only [sq,if_neg hn]
  refine ih _ hr ?_
  split
  ·exact hs
  ·intro y hy
   rcases List.mem_append.1 hy with hy|hy
   ·exact hs hy
   ·simp only [List.mem_singleton]at hy;subst hy;exact hx
theorem QG : ∀(g set set':List Int),sq g set=some set'->set⊆set'/\g⊆set':=by
 intro g
 induction g with
 |nil=>intro set set' h;simp only [sq,Option.some.injEq]at h;subst h;exact⟨fun x hx=>hx,by simp⟩
 |cons x r ih=>
  intro set set' h
  simp only [sq]at h
  split at h
  ·cases h
  ·obtain⟨h1,h2⟩:=ih _ _ h
   split at h1
   ·rename_i hx
    refine⟨h1,?_⟩
    intro y hy
    rcases List.mem_cons.1 hy with rfl|hy
    ·exact h1 (by simpa using hx)
    ·exact h2 hy
   ·refine⟨fun y hy=>h1 (List.mem_append_left _ hy),?_⟩
    intro y hy
    rcases List.mem_cons.1 hy with rfl|hy
    ·exact h1 (by simp)
    ·exact h2 hy
section
variable {cls :List (List Int)} {given:List Int} {v:Int}
theorem J0 (hv0:0<=v) (hv:v<=10) (hc:WfC v cls) (hg:WfL v given) {S:List Int} (hS:Po S) (hgS:given⊆S) (hst: ∀l∈cls,vG S l):
  ∃set,j5 cls given=some set/\set⊆S:=by
 obtain⟨s,h1,h2⟩:=PO hS given [] hgS (by simp)
 obtain⟨s',h3,h4⟩:=Nf hS hv0 hv hc hst _ s (Nat.le_refl _) (Bf given [] (JO v) hg s h1) h2
 exact⟨s',by rw [j5,h1];exact h3,h4⟩
theorem wx (hv0:0<=v) (hv:v<=10) (hc:WfC v cls) (hg:WfL v given) {set:List Int} (h:j5 cls given=some set):
  Po set/\given⊆set/\(∀l∈cls,vG set l)/\qM v set:=by
 rw [j5]at h
 cases h1:sq given []with
 |none=>rw [h1]at h;cases h
 |some s=>
  rw [h1]at h
  have k:=Bf given [] (JO v) hg s h1
  obtain⟨a,b,c⟩:=Hx hv0 hv hc _ s set (Nat.le_refl _) k h
  exact⟨b.cons,fun x hx=>a ((QG _ _ _ h1).2 hx),c,b⟩
theorem A4 (hv0:0<=v) (hv:v<=10) {cls':List (List Int)} {given':List Int} (hc:WfC v cls') (hg:WfL v given') (h1:cls⊆cls') (h2:given⊆given')
  (h:j5 cls given=none):j5 cls' given'=none:=by
 cases h':j5 cls' given' with
 |none=>rfl
 |some set=>
  obtain⟨a,b,c,_⟩:=wx hv0 hv hc hg h'
  obtain⟨s,hs,_⟩:=J0 hv0 hv (fun l hl=>hc l (h1 hl)) (fun x hx=>hg x (h2 hx)) a (fun x hx=>b (h2 hx)) (fun l hl=>c l (h1 hl))
  rw [hs]at h;cases h
end
def iC (cls:List (List Int)) (p:List (List Int)):Prop:= ∀(i:Nat) (h:i<p.length),j5 (cls++p.take i) (p[i].map (- ·))=none
theorem FW {v:Int} {l:List Int} (h:WfL v l):WfL v (l.map (- ·)):=by
 intro x hx
 obtain⟨y,hy,rfl⟩:=List.mem_map.1 hx
 have:=h y hy
 omega
theorem vD {v:Int} {a b:List (List Int)} (ha:WfC v a) (hb:WfC v b):WfC v (a++b):=by
 intro l hl
 rcases List.mem_append.1 hl with h|h
 ·exact ha l h
 ·exact hb l h
theorem M0 {v:Int} {a:List (List Int)} (ha:WfC v a) (n:Nat):WfC v (a.take n):=fun l hl=>ha l (List.mem_of_mem_take hl)
theorem iC.mono {v:Int} (hv0:0<=v) (hv:v<=10) {cls cls' p:List (List Int)} (hc:WfC v cls') (hp:WfC v p) (hs:cls⊆cls') (h:iC cls p):iC cls' p:=by
 intro i hi
 refine A4 hv0 hv (vD hc (M0 hp i)) (FW (hp _ (List.getElem_mem hi))) ?_ (fun x hx=>hx) (h i hi)
 intro l hl
 rcases List.mem_append.1 hl with h|h
 ·exact List.mem_append_left _ (hs h)
 ·exact List.mem_append_right _ h
theorem iC.snoc {cls p:List (List Int)} {l:List Int} (h:iC cls p) (hl:j5 (cls++p) (l.map (- ·))=none):iC cls (p++ [l]):=by
 intro i hi
 by_cases hlt:i<p.length
 ·rw [List.getElem_append_left hlt,List.take_append_of_le_length (by omega)]
  exact h i hlt
 ·have:i=p.length:=by simp at hi;omega
  subst this
  simp only [List.getElem_append_right (Nat.le_refl _),Nat.sub_self,List.getElem_cons_zero]
  rw [List.take_left' rfl];exact hl
theorem iC.pre {cls p q:List (List Int)} (h:iC cls p) (hq:q<+:p):iC cls q:=by
 obtain⟨r,rfl⟩:=hq
 intro i hi
 have:=h i (by simp;omega)
 rwa [List.getElem_append_left hi,List.take_append_of_le_length (by omega)]at this
def wu (B:List Int):Prop:= ∀(i:Nat) (h:i<B.length),B[i]=(i:Int)+1\/B[i]= -((i:Int)+1)
theorem wu.snoc {B:List Int} (h:wu B) {x:Int} (hx:x=(B.length:Int)+1\/x= -((B.length:Int)+1)):wu (B++ [x]):=by
 intro i hi
 by_cases hlt:i<B.length
 ·rw [List.getElem_append_left hlt];exact h i hlt
 ·have:i=B.length:=by simp at hi;omega
  subst this
  simp only [List.getElem_append_right (Nat.le_refl _),Nat.sub_self,List.getElem_cons_zero]
  exact hx
def cV :Nat->(Nat->Bool)->Nat
 |0,_=>0
 |n+1,f=>cV n f+(if f n then 2^n else 0)
theorem rX (n:Nat) (f:Nat->Bool):cV n f<2^n:=by
 induction n with
 |zero=>simp [cV]
 |succ n ih=>simp only [cV,Nat.pow_succ];split<;>omega
theorem sJ (n:Nat) (f:Nat->Bool): ∀i,i<n->(cV n f).testBit i=f i:=by
 induction n with
 |zero=>intro i h;omega
 |succ n ih=>
  intro i hi
  have hl:=rX n f
  simp only [cV]
  by_cases h:i=n
  ·subst h
   cases hf:f i with
   |true=>rw [if_pos rfl,Nat.add_comm,Nat.testBit_two_pow_add_eq,Nat.testBit_lt_two_pow hl];rfl
   |false=>simp [Nat.testBit_lt_two_pow hl]
  ·cases hf:f n with
   |true=>rw [if_pos rfl,Nat.add_comm,Nat.testBit_two_pow_add_gt (by omega)];exact ih i (by omega)
   |false=>simp only [Bool.false_eq_true,if_false,Nat.add_zero];exact ih i (by omega)
structure MI (h:Hp) (K:Nat) (vars:Nat) (tb s:Sl) (ns:List Nd):Prop where
 row:h K=some (.inl ⟨[I vars,tb.v,s.v],3,false⟩)
 buf:Buf h s 3 (bD ns)
 own: ∀a,s.a=some a->a.block≠K
theorem MI.mono {h h':Hp} {K vars:Nat} {tb s:Sl} {ns:List Nd} (l:h.le h') (e:MI h K vars tb s ns):MI h' K vars tb s ns:=⟨l _ _ e.row,e.buf.mono l,e.own⟩
theorem MI.blkB {h:Hp} {K vars:Nat} {tb s:Sl} {ns:List Nd} (e:MI h K vars tb s ns): ∀b∈ [K]++s.blk,∃x,h b=some x:=by
 intro b hb
 simp only [List.cons_append,List.nil_append,List.mem_cons]at hb
 rcases hb with rfl|hb
 ·exact⟨_,e.row⟩
 ·revert b hb
  refine ve.2 fun a ha=>?_
  rcases e.buf.2.2 with ⟨h0,_⟩|⟨c,hc,hcb⟩
  ·rw [h0]at ha;cases ha
  ·rw [hc]at ha;cases ha;exact⟨_,hcb⟩
theorem MI.len {h:Hp} {K vars:Nat} {tb s:Sl} {ns:List Nd} (e:MI h K vars tb s ns):s.n=ns.length:=by
 have:=e.buf.1;rw [k8]at this;omega
def dc (h:Hp) (t:Sl) (n:Nat) (T:Nat->Bool):Prop:=ru h t ((List.range n).map T)
theorem dc.mono {h h':Hp} {t:Sl} {n:Nat} {T:Nat->Bool} (l:h.le h') (e:dc h t n T):dc h' t n T:=ru.mono l e
theorem pI {h:Hp} {c:Bool} {R:Value->Hp->Prop} (k:R (I (if c then 1 else 0)) h):gQ #[.bool c] h R:=by
 apply Bk
 refine uf_ ?_
 cases c<;>exact k
theorem Tn {K vars:Nat} (hvars:vars<=13) {tb:Sl} {T:Nat->Bool}: ∀(n v fixed:Nat) (h:Hp) (s:Sl) (ns:List Nd) (g:Hp) (R:Value->Hp->Prop),
  MI h K vars tb s ns->g.le h->g K=none->(∀a,s.a=some a->g a.block=none)->dc g tb (2^vars) T->v+n=vars->fixed<2^v->ns.length+2^n<=1048576->
  (∀s' h',MI h' K vars tb s' (mkD n (fun i=>T (fixed+i*2^v)) v ns).2->g.le h'->(∀a,s'.a=some a->g a.block=none)->R (I (mkD n (fun i=>T (fixed+i*2^v)) v ns).1) h')->
  gM #[.pointer (some ⟨K,0,none⟩),I v,I fixed] h R:=by
 intro n
 induction n with
 |zero=>
  intro v fixed h s ns g R inv hg gK gs ht hv hfix hlen k
  apply rA
  refine uf_ ?_
  have hvv:v=vars:=by omega
  subst hvv
  obtain⟨b,o,ha,hc⟩:=(ht.mono hg).at (i:=fixed) (by simp;exact hfix)
  have hl:=ht.len
  simp only [List.length_map,List.length_range]at hl
  simp only [vm,aq inv.row,mm]
  refine aM (by simp) ?_
  simp only [vm,mm,ha,hc,hl]
  have hfi:((fixed:Nat):Int)<((2^v:Nat):Int):=by exact_mod_cast hfix
  refine⟨hfi,pI ⟨_,rfl,?_⟩⟩
  have:=k s h inv hg gs
  simp only [mkD,Nat.zero_mul,Nat.add_zero]at this
  have e0:(((List.range (2^v)).map T)[fixed]'(by simp;exact hfix))=T fixed:=by simp
  rw [e0]
  cases hT:T fixed<;>simpa [hT] using this
 |succ n ih=>
  intro v fixed h s ns g R inv hg gK gs ht hv hfix hlen k
  apply rA
  refine uf_ ?_
  have hp:2^(n+1)=2*2^n:=by rw [Nat.pow_succ];omega
  have hpv:2^(v+1)=2*2^v:=by rw [Nat.pow_succ];omega
  have hp1:0<2^n:=Nat.pow_pos (by omega)
  have hv13:2^v<=8192:=by
   have:=Nat.pow_le_pow_right (n:=2) (by omega) (show v<=13 by omega)
   simpa using this
  simp only [vm,aq inv.row,mm]
  refine aE (by simp;omega) ?_
  rw [aC (by omega)]
  have elo:(fun i=>T (fixed+2*i*2^v))=fun i=>T (fixed+i*2^(v+1)):=by funext i;rw [hpv];congr 2;rw [Nat.mul_comm 2 i,Nat.mul_assoc]
  have ehi:(fun i=>T (fixed+(2*i+1)*2^v))=fun i=>T ((fixed+2^v)+i*2^(v+1)):=by
   funext i;rw [hpv];congr 1;rw [Nat.add_mul,Nat.one_mul,Nat.mul_comm 2 i,Nat.mul_assoc];omega
  have hmk:mkD (n+1) (fun i=>T (fixed+i*2^v)) v ns=
    (let r1:=mkD n (fun i=>T (fixed+i*2^(v+1))) (v+1) ns
     let r2:=mkD n (fun i=>T ((fixed+2^v)+i*2^(v+1))) (v+1) r1.2
     if r1.1=r2.1 then r2 else je ⟨v,r1.1,r2.1⟩ r2.2):=by
   rw [<-elo,<-ehi];rfl
  have len1:=tp n (fun i=>T (fixed+i*2^(v+1))) (v+1) ns
  refine ih (v+1) fixed h s ns g _ inv hg gK gs ht (by omega) (by omega) (by omega) ?_
  intro s3 h3 inv3 lg3 gs3
  refine⟨_,rfl,?_⟩
  rw [cu (by omega),if_neg (by omega),bJ (by omega)]
  have w1:W ((fixed:Int)+((2^v:Nat):Int))=((fixed+2^v:Nat):Int):=by rw [bU (by omega) (by omega)];omega
  rw [w1]
  have len2:=tp n (fun i=>T ((fixed+2^v)+i*2^(v+1))) (v+1) (mkD n (fun i=>T (fixed+i*2^(v+1))) (v+1) ns).2
  refine ih (v+1) (fixed+2^v) h3 s3 _ g _ inv3 lg3 gK gs3 ht (by omega) (by omega) (by omega) ?_
  intro s4 h4 inv4 lg4 gs4
  refine⟨_,rfl,?_⟩
  simp only at hmk
  generalize mkD n (fun i=>T (fixed+i*2^(v+1))) (v+1) ns=r1 at*
  generalize mkD n (fun i=>T ((fixed+2^v)+i*2^(v+1))) (v+1) r1.2=r2 at*
  refine ac (fun e=>?_) (fun e=>?_)
  ·have e':r1.1=r2.1:=by simp at e;omega
   rw [if_pos e']at hmk
   rw [hmk]at k
   rw [e']
   exact k s4 h4 inv4 lg4 gs4
  have e': ¬r1.1=r2.1:=by simp at e;omega
  rw [if_neg e']at hmk
  rw [hmk]at k
  have hnlen:r2.2.length<=1048576:=by omega
  intro b5 hb5
  have nK:=fresh_ne hb5 inv4.row
  have l5:=fg [I v,I r1.1,I r2.1] 3 hb5
  have hlen4:=inv4.len
  have hsl:SlC h4 s4 3 (bD r2.2):=inv4.buf.slc (by omega)
  refine⟨by omega,?_⟩
  refine av r2.2.length (fun i vs h'=>vs= [.pointer (some ⟨K,0,none⟩), .pointer (some ⟨b5,0,none⟩),I i]/\h'=h4.row b5 [I v,I r1.1,I r2.1] 3/\ ∀j (hj:j<r2.2.length),j<i->r2.2[j]≠⟨v,r1.1,r2.1⟩) ⟨rfl,rfl,fun j _ h=>by omega⟩ ?_
  rintro i _ _ next hi ⟨rfl,rfl,hp⟩ hn
  refine⟨_,_,_,_,rfl,?_⟩
  simp only [vm,mm,nK,ne_eq,not_false_eq_true,aq inv4.row]
  by_cases hlt:i<r2.2.length
  ·obtain⟨c,o,ha,c0,c1,c2⟩:=Q0 (hsl.mono l5) hlt
   refine aM (by simp [hlen4,hlt]) ?_
   simp only [vm,mm,nK,ne_eq,not_false_eq_true,aq inv4.row,hlen4,ha,c0,c1,c2]
   refine⟨by omega,ac (fun e=>?_) (fun e=>?_)⟩
   ·have he:r2.2[i]=⟨v,r1.1,r2.1⟩:=by
     have:r2.2[i].v=v/\r2.2[i].lo=r1.1/\r2.2[i].hi=r2.1:=by simp at e;omega
     rcases hh:r2.2[i]with ⟨a,b,c⟩
     rw [hh]at this
     obtain⟨rfl,rfl,rfl⟩:=this;rfl
    have hput:je ⟨v,r1.1,r2.1⟩ r2.2=(i+2,r2.2):=by
     have:r2.2.idxOf? ⟨v,r1.1,r2.1⟩=some i:=by
      simp only [List.idxOf?,List.findIdx?_eq_some_iff_getElem]
      refine⟨hlt,by simp [he],fun j hj=>?_⟩
      have:=hp j (by omega) hj
      simpa using this
     simp [je,this]
    rw [hput]at k
    have:=k s4 _ (inv4.mono l5) (Hp.le_trans lg4 l5) gs4
    rw [bU (by omega) (by omega)]
    exact this
   ·rw [aC (by omega)]
    refine hn hlt _ _ ⟨rfl,rfl,fun j hj hji=>?_⟩
    by_cases hjx:j=i
    ·subst hjx
     intro he
     rw [he]at e
     simp at e
    ·exact hp j hj (by omega)
  ·have:i=r2.2.length:=by omega
   subst this
   have hput:je ⟨v,r1.1,r2.1⟩ r2.2=(r2.2.length+2,r2.2++ [⟨v,r1.1,r2.1⟩]):=by
    have:r2.2.idxOf? ⟨v,r1.1,r2.1⟩=none:=by
     simp only [List.idxOf?,List.findIdx?_eq_none_iff]
     intro x hx
     obtain⟨j,hj,rfl⟩:=List.getElem_of_mem hx
     have:=hp j hj hj
     simpa using this
    simp [je,this]
   rw [hput]at k
   refine aE (by simp [hlen4]) ?_
   rintro b6 ⟨n65,hb6⟩
   have nK6:=fresh_ne hb6 inv4.row
   have l6:=eo [I v,I r1.1,I r2.1] 3 (show (h4.row b5 [I v,I r1.1,I r2.1] 3) b6=none by rw [yd];exact⟨n65,hb6⟩) (Hp.le_refl _)
   have hH:h4.le ((h4.row b5 [I v,I r1.1,I r2.1] 3).row b6 [I v,I r1.1,I r2.1] 3):=Hp.le_trans l5 l6
   refine⟨by rw [bX _ _ nK6,bX _ _ nK],?_⟩
   refine dw ((inv4.buf.mono l5).mono l6) (by omega) (by omega) (by omega) ⟨b6,0,rfl,ay (bM ..)⟩ (by simp) rfl ?_
   intro s7 h7 hn7 hb7 hl7 _
   obtain⟨f7K,o7K⟩:=ky hl7 (hH _ _ inv4.row) inv4.own
   simp only [vm,mm,f7K]
   refine⟨by omega,?_⟩
   have e7:W ((s7.n:Int)+1)=((r2.2.length+2:Nat):Int):=by rw [hn7,hlen4,bU (by omega) (by omega)];omega
   rw [e7]
   refine k s7 _ ⟨bM ..,?_,o7K⟩ ?_ ?_
   ·rw [xh]
    refine⟨hb7.1,hb7.2.1,hb7.2.2.imp id ?_⟩
    rintro ⟨c,hc,hcb⟩
    exact⟨c,hc,by rw [bX _ _ (o7K _ hc)];exact hcb⟩
   ·intro c x hcx
    have hcB:c≠K:=fun h=>by rw [h,gK]at hcx;cases hcx
    rw [bX _ _ hcB]
    exact(ky hl7 (hH _ _ (lg4 _ _ hcx)) (fun a ha hac=>by rw [<-hac,gs4 a ha]at hcx;cases hcx)).1
   ·intro a ha
    cases hg7:g a.block with
    |none=>rfl
    |some x=>
     exact absurd rfl ((ky hl7 (hH _ _ (lg4 _ _ hg7)) (fun a' ha' hac=>by rw [<-hac,gs4 a' ha']at hg7;cases hg7)).2 a ha)
theorem Dv {h:Hp} {t:Sl} {n:Nat} {T:Nat->Bool} {R:Value->Hp->Prop} (hn:n<=13) (ht:dc h t (2^n) T)
  (k: ∀s h',h.le h'->Own (h'.sub h) s 3 (bD (cQ n T).ns)->R (.tuple #[.agg #[I (cQ n T).v,Sl.v s,I (cQ n T).r], .bool (cQ n T).ok]) h'):qG #[I n,t.v] h R:=by
 apply Ov
 refine uf_ ?_
 intro b4 hb4
 simp only [vm,mm]
 rintro b7 ⟨n74,hb7⟩
 have n47:=n74.symm
 have l4:=fg [I 0, .slice none 0 0,I 0] 3 hb4
 have hg7:(h.row b4 [I 0, .slice none 0 0,I 0] 3) b7=none:=by rw [yd];exact⟨n74,hb7⟩
 have l7:=fg [I n,t.v, .slice none 0 0] 3 hg7
 have h2:2^n<=8192:=by
  have:=Nat.pow_le_pow_right (n:=2) (by omega) hn
  simpa using this
 have hml:=tp n T 0 []
 simp only [List.length_nil]at hml
 have hT:(fun i=>T (0+i*2^0))=T:=by funext i;congr 1;omega
 refine Tn (K:=b7) (vars:=n) (T:=T) hn n 0 0 _ ⟨none,0,0⟩ [] (h.row b4 [I 0, .slice none 0 0,I 0] 3) _ ⟨bM ..,eY _ _,fun a ha=>by cases ha⟩ l7 hg7 (fun a ha=>by cases ha) (ht.mono l4) (by omega) (by omega) (by simp;omega) ?_
 intro s' h' inv lg gs
 rw [hT]at inv⊢
 have f4:=lg _ _ (bM ..)
 have hsn:=inv.len
 refine⟨_,rfl,?_⟩
 simp only [vm,mm,aq inv.row,f4,hsn]
 have hto:cQ n T=if 600<(mkD n T 0 []).2.length then js else⟨n,(mkD n T 0 []).2,(mkD n T 0 []).1,true⟩:=by
  unfold cQ pu
  rw [if_pos (by omega),Int.toNat_natCast]
  split
  ·rename_i h;split at h
   ·rename_i h';rw [if_pos h']
   ·cases h
  ·rename_i r h;split at h
   ·cases h
   ·rename_i h';cases h;rw [if_neg h']
 rw [hto]at k
 refine ac (fun e=>?_) (fun e=>?_)
 ·have e':600<(mkD n T 0 []).2.length:=by simp at e;omega
  rw [if_pos e']at k
  exact⟨by omega,k ⟨none,0,0⟩ _ (eo _ _ hb4 (Hp.le_trans l4 lg)) (mU _ _)⟩
 ·have e': ¬600<(mkD n T 0 []).2.length:=by simp at e;omega
  rw [if_neg e']at k
  refine⟨by omega,k s' _ (eo _ _ hb4 (Hp.le_trans l4 lg)) (Buf.own ⟨inv.buf.1,inv.buf.2.1,inv.buf.2.2.imp id ?_⟩ (by omega))⟩
  rintro ⟨c,hc,hcb⟩
  have hgc:=gs _ hc
  rw [yd]at hgc
  exact⟨c,hc,by rw [mf hgc.2,bX _ _ hgc.1];exact hcb⟩
structure ff (g h:Hp) (bw:Nat) (v:Int) (t:Sl) (xss:List (List Int)):Prop where
 buf: ∃ts:List Sl,Buf h t 1 (ts.map Sl.v)/\ts.length=xss.length/\ ∀(i:Nat) (h1:i<ts.length) (h2:i<xss.length),IntS g ts[i] xss[i]
 le:g.le (h.offS t)
 row:h bw=some (.inl ⟨[I v,t.v],2,false⟩)
 new:g bw=none
 own: ∀a,t.a=some a->a.block≠bw
theorem cP {h:Hp} {t:Sl} {c:Nat} {x:Blk} (e:(h.offS t) c=some x):h c=some x/\ ∀a,t.a=some a->a.block≠c:=by
 refine⟨bz _ _ _ _ e,fun a ha hac=>?_⟩
 subst hac
 simp [Hp.offS,ha,Hp.off,Hp.set]at e
theorem ff.keep {g h:Hp} {bw:Nat} {v:Int} {t:Sl} {xss:List (List Int)} (e:ff g h bw v t xss):g.le h:=Hp.le_trans e.le (bz _ _)
theorem ff.len {g h:Hp} {bw:Nat} {v:Int} {t:Sl} {xss:List (List Int)} (e:ff g h bw v t xss):t.n=xss.length:=by
 obtain⟨ts,hb,h1,_⟩:=e.buf
 have:=hb.1;simp at this;omega
theorem ff.blk {g h:Hp} {bw:Nat} {v:Int} {t:Sl} {xss:List (List Int)} (e:ff g h bw v t xss): ∀a,t.a=some a-> ∃ts:List Sl,∃z,h a.block=some (.inl ⟨ts.map Sl.v,z,false⟩):=by
 intro a ha
 obtain⟨ts,hb,_,_⟩:=e.buf
 rcases hb.2.2 with ⟨h0,_⟩|⟨b,hb1,hb2⟩
 ·rw [h0]at ha;cases ha
 ·rw [hb1]at ha;cases ha;exact⟨ts,_,hb2⟩
theorem ff.to {g h g' h':Hp} {bw:Nat} {v v':Int} {t:Sl} {xss:List (List Int)} (e:ff g h bw v t xss) (l:g.le g') (l':g'.le (h'.offS t)) (hr:h' bw=some (.inl ⟨[I v',t.v],2,false⟩))
  (hbuf: ∀a,t.a=some a->h' a.block=h a.block) (hn:g' bw=none):ff g' h' bw v' t xss:=by
 obtain⟨ts,hb,h1,h2⟩:=e.buf
 refine⟨⟨ts,⟨hb.1,hb.2.1,hb.2.2.imp id ?_⟩,h1,fun i a b=>(h2 i a b).mono l⟩,l',hr,hn,e.own⟩
 rintro ⟨b,hb1,hb2⟩
 exact⟨b,hb1,(hbuf _ hb1).trans hb2⟩
theorem ff.lit {g h:Hp} {bw b n:Nat} {v:Int} {t:Sl} {xss:List (List Int)} {cs:List Value} (e:ff g h bw v t xss) (hb:h b=none):ff (g.row b cs n) (h.row b cs n) bw v t xss:=by
 have gb:g b=none:=aF e.keep hb
 have nb:=fresh_ne hb e.row
 have nt: ∀a,t.a=some a->a.block≠b:=fun a ha=>by
  obtain⟨ts,z,hx⟩:=e.blk a ha
  exact fresh_ne hb hx
 refine e.to (fg _ _ gb) ?_ (by rw [bX _ _ nb];exact e.row) (fun a ha=>bX _ _ (nt a ha)) (by rw [bX _ _ nb];exact e.new)
 intro c x hc
 by_cases h':c=b
 ·subst h'
  rw [ge nt,bM];rw [bM]at hc;exact hc
 ·rw [bX _ _ h']at hc
  obtain⟨h1,h2⟩:=cP (e.le _ _ hc)
  rw [ge h2,bX _ _ h'];exact h1
theorem ff.app {g h:Hp} {bw b:Nat} {v:Int} {t u:Sl} {xss:List (List Int)} {x:List Int} {K:Option Addr->Nat->Nat->Hp->Prop} (e:ff g h bw v t xss) (hl:xss.length<=1048576) (hu:IntS g u x) (hb:h b=none)
  (k: ∀(t':Sl) (h':Hp),h' bw=some (.inl ⟨[I v,t.v],2,false⟩)->(h.offS t).le (h'.offS t')->ff g (h'.row bw [I v,t'.v] 2) bw v t' (xss++ [x])->K t'.a t'.n t'.c h'):
  co (h.row b [u.v] 1) t.a t.n t.c (some ⟨b,0,none⟩) 1 1 24 K:=by
 have l:=fg [u.v] 1 hb
 have hn:=e.len
 obtain⟨ts,hbuf,h1,h2⟩:=e.buf
 refine dw (hbuf.mono l) (by omega) (by omega) (by omega) ⟨b,0,rfl,fun i v hi=>?_⟩ (news:= [u.v]) rfl rfl ?_
 ·cases i with
  |zero=>simp at hi;subst hi;exact qE _ _ _ _ _
  |succ i=>simp at hi
 intro t' h' hn' hb' hle _
 have hle':(h.offS t).le (h'.offS t'):=Hp.le_trans (bP t l) hle
 obtain⟨f,o⟩:=ky hle' e.row e.own
 refine k t' h' f hle' ⟨⟨ts++ [u],?_,by simp [h1],?_⟩,?_,bM ..,e.new,o⟩
 ·rw [List.map_append]
  refine⟨hb'.1,hb'.2.1,hb'.2.2.imp id ?_⟩
  rintro ⟨c,hc,hcb⟩
  exact⟨c,hc,by rw [bX _ _ (o _ hc)];exact hcb⟩
 ·intro i a c
  by_cases hi:i<ts.length
  ·rw [List.getElem_append_left hi,List.getElem_append_left (by omega)];exact h2 i hi (by omega)
  ·have:i=ts.length:=by simp at a;omega
   subst this
   simp only [List.getElem_append_right (Nat.le_refl _),Nat.sub_self,List.getElem_cons_zero]
   simp only [h1,List.getElem_append_right (Nat.le_refl _),Nat.sub_self,List.getElem_cons_zero]
   exact hu
 ·intro c x hc
  obtain⟨h3,h4⟩:=cP (hle' _ _ (e.le _ _ hc))
  have hcb:c≠bw:=fun hh=>by rw [hh,e.new]at hc;cases hc
  rw [ge h4,bX _ _ hcb];exact h3
structure Rd (h:Hp) (B:Nat) (s:Sl) (bs:List Nat) (p:Nat):Prop where
 row:h B=some (.inl ⟨[s.v,I p],2,false⟩)
 byt:ByteS (h.off B) s bs
theorem Rd.next {h:Hp} {B:Nat} {s:Sl} {bs:List Nat} {p:Nat} (e:Rd h B s bs p) (q:Nat):Rd (h.row B [s.v,I q] 2) B s bs q:=⟨bM ..,by rw [vp];exact e.byt⟩
theorem Rd.to {h h':Hp} {B:Nat} {s:Sl} {bs:List Nat} {p:Nat} (e:Rd h B s bs p) (l:h.le h'):Rd h' B s bs p:=⟨l _ _ e.row,e.byt.mono (HA _ l)⟩
theorem Qh {a b:Nat} (ha:a<4611686018427387904) (hb:b<4611686018427387904): ∃c:Nat,U2 (a:Int) (b:Int)=c:=by
 have:=Nw (a:=a) (b:=b) (by omega) (by omega)
 exact⟨_,this⟩
theorem Dr {h:Hp} {B p:Nat} {s:Sl} {bs:List Nat} {n:Int} {R:Value->Hp->Prop} (e:Rd h B s bs p) (hp:p<=1000000000) (hn:n<=1000000000)
  (k: ∀x:Nat,(1<=n->(x:Int)<n)->(n<1->x=0)->R (I x) (h.row B [s.v,I (p+1:Nat)] 2)):ai #[.pointer (some ⟨B,0,none⟩),I n] h R:=by
 apply Cz
 refine uf_ ?_
 simp only [vm,aq e.row,mm,e.row,aC (n:=p) (by omega)]
 have hb:=e.byt.mono (Gm h B [s.v,I (p+1:Nat)] 2)
 have hl:=hb.len
 have hbd:=hb.bound
 refine⟨by omega,?_⟩
 refine ap (fun J=>J (decide (n<1)||decide (bs.length=0))) ?_ ?_
 rotate_left
 ·intro J hJ
  refine ac (fun e=>?_) (fun e=>?_)
  ·rw [e,Bool.true_or]at hJ;exact hJ
  ·rw [e,Bool.false_or]at hJ
   have:((s.n:Int)==0)=decide (bs.length=0):=by rw [hl,Bool.eq_iff_iff];simp
   rw [this];exact hJ
 refine ac (fun he=>?_) (fun he=>?_)
 ·refine k 0 (fun h1=>by omega) (fun _=>rfl)
 have hn1:1<=n:=by simp at he;omega
 have hbn:0<bs.length:=by
  have:bs.length≠0:=by intro h;rw [h]at he;simp at he
  omega
 have hw:W (((p+1:Nat):Int)-1)=p:=by rw [bU (by omega) (by omega)];omega
 obtain⟨m,rfl⟩: ∃m:Nat,n=m:=⟨n.toNat,by omega⟩
 have fin: ∀x:Nat,R (I (Int.tmod (x:Int) (m:Int))) (h.row B [s.v,I (p+1:Nat)] 2):=by
  intro x
  have e1:Int.tmod (x:Int) (m:Int)=((x%m:Nat):Int):=by rw [Int.ofNat_tmod]
  rw [e1]
  have:x%m<m:=Nat.mod_lt _ (by omega)
  exact k (x%m) (fun _=>by omega) (fun h=>by omega)
 simp only [hw,hl]
 refine ac (fun hlt=>?_) (fun hlt=>?_)
 ·have hlt':p<bs.length:=by simp at hlt;omega
  obtain⟨b,o,ha,hc,hx⟩:=hb.at hlt'
  simp only [vm,ha,hc]
  refine⟨by omega,?_⟩
  rw [if_neg (by omega),eO (by omega)]
  exact fin _
 ·have hq: ∀q:Nat,Int.tmod (q:Int) (bs.length:Int)=((q%bs.length:Nat):Int):=fun q=>by rw [Int.ofNat_tmod]
  have hlt2: ∀q:Nat,q%bs.length<bs.length:=fun q=>Nat.mod_lt _ hbn
  have w1:W (W ((p:Int)*7)+3)=((p*7+3:Nat):Int):=by
   rw [bU (n:=(p:Int)*7) (by omega) (by omega),bU (by omega) (by omega)];omega
  obtain⟨b,o,ha,hc,hx⟩:=hb.at (hlt2 p)
  obtain⟨b',o',ha',hc',hy⟩:=hb.at (hlt2 (p*7+3))
  rw [ha]at ha';cases ha'
  have hdiv:Int.tdiv (p:Int) (bs.length:Int)=((p/bs.length:Nat):Int):=by rw [Int.ofNat_tdiv]
  have hdl:p/bs.length<=p:=Nat.div_le_self _ _
  generalize hX:bs[p%bs.length]'(hlt2 p)=X at*
  generalize hY:bs[(p*7+3)%bs.length]'(hlt2 _)=Y at*
  generalize hD:p/bs.length=D at*
  have tot:W (W (W (W (W (X:Int)*131)+W (W (Y:Int)*1117))+W ((p:Int)*29))+W (W (D:Int)*53))=((X*131+Y*1117+p*29+D*53:Nat):Int):=by
   rw [eO (n:=X) (by omega),eO (n:=Y) (by omega),eO (n:=D) (by omega),bU (n:=(X:Int)*131) (by omega) (by omega),bU (n:=(Y:Int)*1117) (by omega) (by omega),
    bU (n:=(p:Int)*29) (by omega) (by omega),bU (n:=(D:Int)*53) (by omega) (by omega),bU (n:=(X:Int)*131+(Y:Int)*1117) (by omega) (by omega),
    bU (n:=(X:Int)*131+(Y:Int)*1117+(p:Int)*29) (by omega) (by omega),bU (by omega) (by omega)]
   omega
  have d64:W (Int.tdiv (((X*131+Y*1117+p*29+D*53:Nat)):Int) 64)=(((X*131+Y*1117+p*29+D*53)/64:Nat):Int):=by
   have:Int.tdiv (((X*131+Y*1117+p*29+D*53:Nat)):Int) 64=(((X*131+Y*1117+p*29+D*53)/64:Nat):Int):=by
    have:=Int.ofNat_tdiv (X*131+Y*1117+p*29+D*53) 64
    exact this.symm
   rw [this,eO (by omega)]
  obtain⟨c,hcx⟩:=Qh (a:=X*131+Y*1117+p*29+D*53) (b:=(X*131+Y*1117+p*29+D*53)/64) (by omega) (by omega)
  have hnz: ¬((bs.length:Nat):Int)=0:=by omega
  simp only [vm,w1,hq,hdiv,ha,hc,hc',hD,tot,d64,hcx]
  rw [if_neg hnz]
  refine⟨by have:=hlt2 p;omega,?_⟩
  rw [if_neg hnz]
  refine⟨by have:=hlt2 (p*7+3);omega,?_⟩
  rw [if_neg hnz]
  have hm0: ¬(m:Int)=0:=by omega
  rw [if_neg hm0]
  have:=fin c
  simp only [true_and,and_self]
  exact this
theorem gj.appK {h h':Hp} {t:Sl} {set:List Int} {x:Int} {b:Nat} {K:Option Addr->Nat->Nat->Hp->Prop} (e:gj h h' t set) (hl:set.length<=1048576) (hb:h' b=none)
  (k: ∀(t':Sl) (h'':Hp),(h'.offS t).le (h''.offS t')->gj h h'' t' (set++ [x])->K t'.a t'.n t'.c h''):co (h'.row b [I x] 1) t.a t.n t.c (some ⟨b,0,none⟩) 1 1 8 K:=by
 have l:=fg [I x] 1 hb
 exact NI (e.buf.mono l) hl (qE _ _ _ _ _) fun t' h'' hb' hl'=>k t' h'' (Hp.le_trans (bP t l) hl') ⟨hb',Hp.le_trans (Hp.le_trans e.le (bP t l)) hl'⟩
theorem gj.neB {g h:Hp} {o s:Sl} {xs:List Int} (e:gj g h o xs) {B p n:Nat} (hB:h B=some (.inl ⟨[s.v,I p],n,false⟩)): ∀a,o.a=some a->a.block≠B:=by
 intro a ha
 rcases e.buf.2.2 with ⟨h0,_⟩|⟨b,hb1,hb2⟩
 ·rw [h0]at ha;cases ha
 ·rw [hb1]at ha;cases ha
  refine dQ hb2 hB ?_
  intro h
  simp only [Sum.inl.injEq,Row.mk.injEq]at h
  rcases xs with _|⟨x,r⟩
  ·simp at h
  ·simp [Sl.v]at h
theorem ff.neB {g h:Hp} {bw:Nat} {v:Int} {t s:Sl} {xss:List (List Int)} (e:ff g h bw v t xss) {B p n:Nat} (hB:h B=some (.inl ⟨[s.v,I p],n,false⟩)): ∀a,t.a=some a->a.block≠B:=by
 intro a ha
 obtain⟨ts,z,hx⟩:=e.blk a ha
 refine dQ hx hB ?_
 intro h
 simp only [Sum.inl.injEq,Row.mk.injEq]at h
 rcases ts with _|⟨t1,_|⟨t2,r⟩⟩
 ·simp at h
 ·simp at h
 ·simp [Sl.v]at h
theorem ff.ne3 {g h:Hp} {bw:Nat} {v:Int} {t:Sl} {xss:List (List Int)} (e:ff g h bw v t xss) {B n:Nat} {x:Int} {y:List Value} (hB:h B=some (.inl ⟨I x::y,n,false⟩)): ∀a,t.a=some a->a.block≠B:=by
 intro a ha
 obtain⟨ts,z,hx⟩:=e.blk a ha
 refine dQ hx hB ?_
 intro h
 simp only [Sum.inl.injEq,Row.mk.injEq]at h
 rcases ts with _|⟨t1,r⟩
 ·simp at h
 ·simp [Sl.v]at h
theorem qj {h:Hp} {t:Sl} {c:Nat} {x:Blk} (e:h c=some x) (d: ∀a,t.a=some a->a.block≠c):(h.offS t) c=some x:=by rw [ge d];exact e
structure CS (h0:Hp) (B b3 b9:Nat) (s:Sl) (c:Nat) (h:Hp) (v:Int) (t:Sl) (cls:List (List Int)):Prop where
 rd: ∃q,q<=c/\h B=some (.inl ⟨[s.v,I (q:Nat)],2,false⟩)
 r3:h b3=some (.inl ⟨[I 0, .slice none 0 0],2,false⟩)
 n39:b3≠b9
 fr:(h0.off B).le (h.offS t)
 fr9:h0 b9=none
 fr3:h0 b3=none
 gr: ∃g:Hp,(∀c x,g c=some x->h0 c=none/\c≠b3)/\ff g h b9 v t cls
section
variable {h0 h:Hp} {B b3 b9 c p0:Nat} {s t:Sl} {v:Int} {cls:List (List Int)} {bs:List Nat}
theorem CS.row (e:CS h0 B b3 b9 s c h v t cls):h b9=some (.inl ⟨[I v,t.v],2,false⟩):=by obtain⟨g,_,hg⟩:=e.gr;exact hg.row
theorem CS.frame (e:CS h0 B b3 b9 s c h v t cls):(h0.off B).le h:=Hp.le_trans e.fr (bz _ _)
theorem CS.nB9 (e:CS h0 B b3 b9 s c h v t cls):b9≠B:=by
 obtain⟨q,_,hq⟩:=e.rd
 exact dQ e.row hq (by intro h;simp [Sl.v]at h)
theorem CS.nB3 (e:CS h0 B b3 b9 s c h v t cls):b3≠B:=by
 obtain⟨q,_,hq⟩:=e.rd
 exact dQ e.r3 hq (by intro h;simp [Sl.v]at h)
theorem CS.more (e:CS h0 B b3 b9 s c h v t cls) {c':Nat} (hc:c<=c'):CS h0 B b3 b9 s c' h v t cls:=by
 obtain⟨q,hq,hr⟩:=e.rd
 exact⟨⟨q,by omega,hr⟩,e.r3,e.n39,e.fr,e.fr9,e.fr3,e.gr⟩
theorem CS.app (e:CS h0 B b3 b9 s c h v t cls) (hB: ∃x,h0 B=some x) {h2:Hp} {o:Sl} {xs:List Int} {q2 c2 b:Nat} {K:Option Addr->Nat->Nat->Hp->Prop} (hl:cls.length<=1048576) (hx:xs.length<=1048576)
  (hgr:gj (h.off B) h2 o xs) (hr2:h2 B=some (.inl ⟨[s.v,I (q2:Nat)],2,false⟩)) (hq2:q2<=c2) (hb:h2 b=none)
  (k: ∀(t':Sl) (h3:Hp),h3 b9=some (.inl ⟨[I v,t.v],2,false⟩)->CS h0 B b3 b9 s c2 (h3.row b9 [I v,t'.v] 2) v t' (cls++ [xs])->K t'.a t'.n t'.c h3):
  co (h2.row b [o.v] 1) t.a t.n t.c (some ⟨b,0,none⟩) 1 1 24 K:=by
 obtain⟨g,hg,gr⟩:=e.gr
 obtain⟨q,hq,hr⟩:=e.rd
 have base: ∀c x,h c=some x->c≠B->h2 c=some x/\ ∀a,o.a=some a->a.block≠c:=by
  intro c x hc hcB
  exact cP (hgr.le c x (by rw [Hp.off,Hp.set_ne _ _ hcB];exact hc))
 have r9:=base _ _ gr.row e.nB9
 have r3:=base _ _ e.r3 e.nB3
 have tB:=gr.neB hr
 have oB:=hgr.neB hr2
 have t3:=gr.ne3 e.r3
 have tblk: ∀a,t.a=some a->h2 a.block=h a.block/\ ∀a',o.a=some a'->a'.block≠a.block:=by
  intro a ha
  obtain⟨ts,z,hx⟩:=gr.blk a ha
  obtain⟨h1,h2⟩:=base _ _ hx (tB a ha)
  exact⟨h1.trans hx.symm,h2⟩
 have hg': ∀c x,((h2.sub h0).wo ([b9,b3]++t.blk)) c=some x->h2 c=some x/\h0 c=none/\c≠b3/\c≠b9/\ ∀a,t.a=some a->a.block≠c:=by
  intro c x hc
  have hm:c∉ [b9,b3]++t.blk:=fun hm=>by rw [fv hm]at hc;cases hc
  rw [sk hm]at hc
  have h1:h0 c=none:=mv (by rw [hc];simp)
  rw [mf h1]at hc
  simp only [List.cons_append,List.nil_append,List.mem_cons,not_or]at hm
  exact⟨hc,h1,hm.2.1,hm.1,fun a ha hac=>hm.2.2 (by unfold Sl.blk;rw [ha];simp [hac])⟩
 have hgi: ∀c x,h2 c=some x->h0 c=none->c≠b3->c≠b9->(∀a,t.a=some a->a.block≠c)->((h2.sub h0).wo ([b9,b3]++t.blk)) c=some x:=by
  intro c x h1 h2 h3 h4 h5
  rw [sk,mf h2]
  ·exact h1
  ·simp only [List.cons_append,List.nil_append,List.mem_cons,not_or]
   refine⟨h4,h3,fun hm=>?_⟩
   unfold Sl.blk at hm
   split at hm
   ·simp at hm
   ·rename_i a ha;simp at hm;exact h5 a ha hm.symm
 have gr':ff ((h2.sub h0).wo ([b9,b3]++t.blk)) h2 b9 v t cls:=by
  refine gr.to ?_ ?_ r9.1 (fun a ha=>(tblk a ha).1) (fv (by simp))
  ·intro c x hc
   obtain⟨g1,g2⟩:=cP (gr.le _ _ hc)
   have hn:=hg _ _ hc
   have hcB:c≠B:=fun hh=>by obtain⟨y,hy⟩:=hB;rw [hh,hy]at hn;cases hn.1
   exact hgi c x (base c x g1 hcB).1 hn.1 hn.2 (fun hh=>by rw [hh,gr.new]at hc;cases hc) g2
  ·intro c x hc
   obtain⟨g1,g2,g3,g4,g5⟩:=hg' c x hc
   exact qj g1 g5
 have hu:IntS ((h2.sub h0).wo ([b9,b3]++t.blk)) o xs:=by
  refine un.ints ⟨hgr.buf.1,hgr.buf.2.1,hgr.buf.2.2.imp id ?_⟩ hx
  rintro ⟨d,hd,hdb⟩
  refine⟨d,hd,hgi _ _ hdb ?_ ?_ ?_ ?_⟩
  ·cases hx:h0 d with
   |none=>rfl
   |some x=>
    have hdB:d≠B:=oB _ hd
    have:=e.frame d x (by rw [Hp.off,Hp.set_ne _ _ hdB];exact hx)
    exact absurd rfl ((base d x this hdB).2 _ hd)
  ·exact r3.2 _ hd
  ·exact r9.2 _ hd
  ·intro a ha hab
   exact(tblk a ha).2 _ hd hab.symm
 refine gr'.app hl hu hb fun t' h3 f9 hk hgd=>k t' h3 f9 ?_
 have kp: ∀c x,h2 c=some x->(∀a,t.a=some a->a.block≠c)->h3 c=some x/\ ∀a,t'.a=some a->a.block≠c:=by
  intro c x h1 h2
  exact cP (hk _ _ (qj h1 h2))
 have n9: ∀a,t.a=some a->a.block≠b9:=gr.own
 refine⟨⟨q2,hq2,by rw [bX _ _ e.nB9.symm];exact(kp _ _ hr2 tB).1⟩,by rw [bX _ _ e.n39];exact(kp _ _ r3.1 t3).1,e.n39,?_,e.fr9,e.fr3,_,fun c x hc=>⟨(hg' c x hc).2.1,(hg' c x hc).2.2.1⟩,hgd⟩
 intro c x hc
 have hcB:c≠B:=fun hh=>by rw [hh,xU]at hc;cases hc
 have hc9:c≠b9:=fun hh=>by rw [hh,Hp.off,Hp.set_ne _ _ e.nB9,e.fr9]at hc;cases hc
 obtain⟨g1,g2⟩:=cP (e.fr _ _ hc)
 obtain⟨g3,g4⟩:=kp _ _ (base c x g1 hcB).1 g2
 rw [ge g4,bX _ _ hc9];exact g3
theorem CS.lit (e:CS h0 B b3 b9 s c h v t cls) {b n:Nat} {cs:List Value} (hb:h b=none):CS h0 B b3 b9 s c (h.row b cs n) v t cls:=by
 obtain⟨g,hg,gr⟩:=e.gr
 obtain⟨q,hq,hr⟩:=e.rd
 have tb: ∀{c x},(h.offS t) c=some x->((h.row b cs n).offS t) c=some x:=by
  intro c x hc
  obtain⟨h1,h2⟩:=cP hc
  rw [ge h2,bX _ _ (fresh_ne hb h1)];exact h1
 exact⟨⟨q,hq,by rw [bX _ _ (fresh_ne hb hr)];exact hr⟩,by rw [bX _ _ (fresh_ne hb e.r3)];exact e.r3,e.n39,fun c x hc=>tb (e.fr _ _ hc),e.fr9,e.fr3,g,hg,
  gr.to (Hp.le_refl _) (fun c x hc=>tb (gr.le _ _ hc)) (by rw [bX _ _ (fresh_ne hb gr.row)];exact gr.row) (fun a ha=>by
   obtain⟨ts,z,hx⟩:=gr.blk a ha
   exact bX _ _ (fresh_ne hb hx)) gr.new⟩
end
theorem dG.up {h h' h'':Hp} {t:Sl} {xss:List (List Int)} (e:dG h h' t xss) (l:h'.le h''):dG h h'' t xss:=by
 obtain⟨ts,h1,h2,h3⟩:=e.buf
 exact⟨⟨ts,h1.mono l,h2,h3⟩,Hp.le_trans e.le (bP t l)⟩
def lU (v:Int) (cls p:List (List Int)):Bool:=dU v cls&&(decide (p.length<=300)&&p.all (gn v))
theorem lU.iff {v:Int} {cls p:List (List Int)}:lU v cls p=true↔dU v cls=true/\p.length<=300/\ ∀l∈p,gn v l=true:=by
 simp [lU,List.all_eq_true]
theorem dG.len {g h:Hp} {o:Sl} {out:List (List Int)} (e:dG g h o out):o.n=out.length:=by
 obtain⟨ts,hb,h1,_⟩:=e.buf
 have:=hb.1;simp at this;omega
theorem dG.base {g g2 h:Hp} {o:Sl} {out:List (List Int)} (e:dG g h o out) (l:g.le g2) (l2:g2.le (h.offS o)):dG g2 h o out:=by
 obtain⟨ts,h1,h2,h3⟩:=e.buf
 exact⟨⟨ts,h1,h2,fun i a b=>(h3 i a b).mono l⟩,l2⟩
theorem dG.blk {g h:Hp} {o:Sl} {out:List (List Int)} (e:dG g h o out): ∀a,o.a=some a-> ∃x,h a.block=some x:=by
 intro a ha
 obtain⟨ts,hb,_,_⟩:=e.buf
 rcases hb.2.2 with ⟨h0,_⟩|⟨b,hb1,hb2⟩
 ·rw [h0]at ha;cases ha
 ·rw [hb1]at ha;cases ha;exact⟨_,hb2⟩
theorem gj.apart {h2 h3:Hp} {u o:Sl} {xs:List Int} (hg:gj h2 h3 u xs) (ho: ∀a,o.a=some a-> ∃x,h2 a.block=some x): ∀a a',u.a=some a->o.a=some a'->a.block≠a'.block:=by
 intro a a' ha ha'
 obtain⟨x,hx⟩:=ho a' ha'
 exact(cP (hg.le _ _ hx)).2 a ha
theorem gj.offS {h2 h3:Hp} {u o:Sl} {xs:List Int} (hg:gj h2 h3 u xs) (ho: ∀a,o.a=some a-> ∃x,h2 a.block=some x):un (h3.offS o) u xs:=by
 refine⟨hg.buf.1,hg.buf.2.1,hg.buf.2.2.imp id ?_⟩
 rintro ⟨b,hb1,hb2⟩
 exact⟨b,hb1,qj hb2 fun a ha=>(hg.apart ho _ a hb1 ha).symm⟩
theorem gj.beside {h0 h' h'':Hp} {a b b':Sl} {xs:List Int} (e:gj h0 h' a xs) (l0:h0.le (h'.offS b)) (hk:(h'.offS b).le (h''.offS b')) (nab: ∀x y,a.a=some x->b.a=some y->y.block≠x.block):
  gj h0 h'' a xs/\ ∀x y,a.a=some x->b'.a=some y->y.block≠x.block:=by
 constructor
 ·refine⟨⟨e.buf.1,e.buf.2.1,e.buf.2.2.imp id ?_⟩,?_⟩
  ·rintro ⟨c,hc,hcb⟩
   exact⟨c,hc,(cP (hk _ _ (qj hcb fun y hy=>nab _ y hc hy))).1⟩
  ·intro c x hc
   obtain⟨g1,g2⟩:=cP (e.le _ _ hc)
   obtain⟨g3,g4⟩:=cP (l0 _ _ hc)
   exact qj (cP (hk _ _ (qj g1 g4))).1 g2
 ·intro x y hx hy
  rcases e.buf.2.2 with ⟨h0,_⟩|⟨c,hc,hcb⟩
  ·rw [h0]at hx;cases hx
  ·rw [hc]at hx;cases hx
   exact(cP (hk _ _ (qj hcb fun y hy=>nab _ y hc hy))).2 y hy
theorem dG.appK {g h:Hp} {t u:Sl} {xss:List (List Int)} {x:List Int} {b:Nat} {K:Option Addr->Nat->Nat->Hp->Prop} (e:dG g h t xss) (hl:xss.length<=1048576) (hu:IntS g u x) (hb:h b=none)
  (k: ∀(t':Sl) (h'':Hp),(h.offS t).le (h''.offS t')->dG g h'' t' (xss++ [x])->K t'.a t'.n t'.c h''):co (h.row b [u.v] 1) t.a t.n t.c (some ⟨b,0,none⟩) 1 1 24 K:=by
 have l:=fg [u.v] 1 hb
 have hn:=e.len
 obtain⟨ts,hbuf,h1,h2⟩:=e.buf
 refine dw (hbuf.mono l) (by omega) (by omega) (by omega) ⟨b,0,rfl,fun i v hi=>?_⟩ (news:= [u.v]) rfl rfl ?_
 ·cases i with
  |zero=>simp at hi;subst hi;exact qE _ _ _ _ _
  |succ i=>simp at hi
 ·intro t' h'' hn' hb' hle _
  have hle':(h.offS t).le (h''.offS t'):=Hp.le_trans (bP t l) hle
  refine k t' h'' hle' ⟨⟨ts++ [u],by rw [List.map_append];exact hb',by simp [h1],?_⟩,Hp.le_trans e.le hle'⟩
  intro i a c
  by_cases hi:i<ts.length
  ·rw [List.getElem_append_left hi,List.getElem_append_left (by omega)];exact h2 i hi (by omega)
  ·have:i=ts.length:=by simp at a;omega
   subst this
   simp only [List.getElem_append_right (Nat.le_refl _),Nat.sub_self,List.getElem_cons_zero]
   simp only [h1,List.getElem_append_right (Nat.le_refl _),Nat.sub_self,List.getElem_cons_zero]
   exact hu
theorem dG.neB {g h:Hp} {t s:Sl} {xss:List (List Int)} (e:dG g h t xss) {B p n:Nat} (hB:h B=some (.inl ⟨[s.v,I p],n,false⟩)): ∀a,t.a=some a->a.block≠B:=by
 intro a ha
 obtain⟨ts,hb,_,_⟩:=e.buf
 rcases hb.2.2 with ⟨h0,_⟩|⟨c,hc,hcb⟩
 ·rw [h0]at ha;cases ha
 ·rw [hc]at ha;cases ha
  refine dQ hcb hB ?_
  intro h
  simp only [Sum.inl.injEq,Row.mk.injEq]at h
  rcases ts with _|⟨t1,_|⟨t2,r⟩⟩
  ·simp at h
  ·simp at h
  ·simp [Sl.v]at h
structure PS (h:Hp) (B:Nat) (s:Sl) (c:Nat) (g h':Hp) (t:Sl) (res:List (List Int)):Prop where
 rd: ∃q,q<=c/\h' B=some (.inl ⟨[s.v,I (q:Nat)],2,false⟩)
 gr:dG g h' t res
 new: ∀c x,g c=some x->h c=none
 fr:(h.off B).le (h'.offS t)
section
variable {h g h':Hp} {B c:Nat} {s t:Sl} {res:List (List Int)} {bs:List Nat}
theorem PS.frame (e:PS h B s c g h' t res):(h.off B).le h':=Hp.le_trans e.fr (bz _ _)
theorem PS.more (e:PS h B s c g h' t res) {c':Nat} (hc:c<=c'):PS h B s c' g h' t res:=by
 obtain⟨q,hq,hr⟩:=e.rd
 exact⟨⟨q,by omega,hr⟩,e.gr,e.new,e.fr⟩
theorem PS.lit (e:PS h B s c g h' t res) (hB: ∃x,h B=some x) {b n:Nat} {cs:List Value} (hb:h' b=none):PS h B s c (g.row b cs n) (h'.row b cs n) t res:=by
 obtain⟨q,hq,hr⟩:=e.rd
 have nB:=fresh_ne hb hr
 have hb0:h b=none:=by
  cases hx:h b with
  |none=>rfl
  |some x=>
   have:=e.frame b x (by rw [Hp.off,Hp.set_ne _ _ nB.symm];exact hx)
   rw [hb]at this;cases this
 have tb: ∀a,t.a=some a->a.block≠b:=fun a ha=>by
  obtain⟨x,hx⟩:=e.gr.blk a ha
  exact fresh_ne hb hx
 have key: ∀c x,c≠b->(h'.offS t) c=some x->((h'.row b cs n).offS t) c=some x:=by
  intro c x hcB hc
  obtain⟨h1,h2⟩:=cP hc
  rw [ge h2,bX _ _ hcB];exact h1
 have gb:g b=none:=aF e.gr.keep hb
 refine⟨⟨q,hq,by rw [bX _ _ nB];exact hr⟩,(e.gr.up (fg cs n hb)).base (fg _ _ gb) ?_,?_,fun c x hc=>key c x (fun hh=>by rw [hh,Hp.off,Hp.set_ne _ _ nB.symm,hb0]at hc;cases hc) (e.fr _ _ hc)⟩
 ·intro c x hc
  by_cases hcb:c=b
  ·subst hcb
   rw [bM]at hc
   rw [ge tb,bM];exact hc
  ·rw [bX _ _ hcb]at hc
   exact key c x hcb (e.gr.le _ _ hc)
 ·intro c x hc
  by_cases hcb:c=b
  ·subst hcb;exact hb0
  ·rw [bX _ _ hcb]at hc;exact e.new _ _ hc
theorem PS.app {u:Sl} {x:List Int} {b:Nat} {K:Option Addr->Nat->Nat->Hp->Prop} (e:PS h B s c g h' t res) (hl:res.length<=1048576) (hu:IntS g u x) (hb:h' b=none)
  (k: ∀(t':Sl) (h'':Hp),PS h B s c g h'' t' (res++ [x])->K t'.a t'.n t'.c h''):co (h'.row b [u.v] 1) t.a t.n t.c (some ⟨b,0,none⟩) 1 1 24 K:=by
 obtain⟨q,hq,hr⟩:=e.rd
 exact e.gr.appK hl hu hb fun t' h'' hk gr=>k t' h'' ⟨⟨q,hq,(cP (hk _ _ (qj hr (e.gr.neB hr)))).1⟩,gr,e.new,Hp.le_trans e.fr hk⟩
theorem PS.put {u:Sl} {x:List Int} {i:Nat} (e:PS h B s c g h' t res) (hi:i<res.length) (hu:IntS g u x): ∃b cs z,t.a=some ⟨b,0,none⟩/\h' b=some (.inl ⟨cs,z,false⟩)/\cs.length=res.length/\
  PS h B s c g (h'.row b (cs.set i u.v) z) t (res.set i x):=by
 obtain⟨q,hq,hr⟩:=e.rd
 have hn:=e.gr.len
 have tB:=e.gr.neB hr
 obtain⟨ts,hb,h1,h2⟩:=e.gr.buf
 rcases hb.2.2 with ⟨_,h0,_⟩|⟨b,hb1,hb2⟩
 ·omega
 refine⟨b,_,_,hb1,hb2,by simp [h1],⟨q,hq,by rw [bX _ _ (tB _ hb1).symm];exact hr⟩,⟨⟨ts.set i u,⟨by simp;have:=hb.1;simp at this;omega,hb.2.1, .inr ⟨b,hb1,?_⟩⟩,by simp [h1],?_⟩,?_⟩,e.new,?_⟩
 ·rw [bM,List.map_set]
 ·intro j a b
  rw [List.getElem_set,List.getElem_set]
  split
  ·exact hu
  ·exact h2 j (by simpa using a) (by simpa using b)
 ·intro c x hc
  obtain⟨g1,g2⟩:=cP (e.gr.le _ _ hc)
  rw [ge g2,bX _ _ (fun hh=>g2 _ hb1 hh.symm)];exact g1
 ·intro c x hc
  obtain⟨g1,g2⟩:=cP (e.fr _ _ hc)
  rw [ge g2,bX _ _ (fun hh=>g2 _ hb1 hh.symm)];exact g1
end
def jE (w:Nat) (n:Int):Nat:=(n%((2^w:Nat):Int)).toNat
def sgn (w a:Nat):Int:=if 2^(w-1)<=a then(a:Int)-((2^w:Nat):Int)else a
theorem bK (w:Nat):0<2^w:=Nat.pow_pos (by omega)
theorem jJ (w:Nat) (n:Int):jE w n<2^w:=by
 unfold jE
 have h:=Int.emod_lt_of_pos n (b:=((2^w:Nat):Int)) (Int.ofNat_lt.2 (bK w))
 have h0:=Int.emod_nonneg n (b:=((2^w:Nat):Int)) (by have:=bK w;omega)
 omega
theorem pG (w a:Nat):jE w (a:Int)=a%2^w:=by
 unfold jE
 rw [<-Int.natCast_emod,Int.toNat_natCast]
theorem HX (w:Nat) (n:Int):((jE w n:Nat):Int)=n%((2^w:Nat):Int):=by
 unfold jE
 have h0:=Int.emod_nonneg n (b:=((2^w:Nat):Int)) (by have:=bK w;omega)
 omega
theorem qA {w:Nat} (h:1<=w):2^w=2*2^(w-1):=by
 obtain⟨n,rfl⟩: ∃n,w=n+1:=⟨w-1,by omega⟩
 rw [Nat.pow_succ,Nat.add_sub_cancel];omega
theorem JV {w a:Nat} (h:1<=w) (ha:a<2^w): -((2^(w-1):Nat):Int)<=sgn w a/\sgn w a<((2^(w-1):Nat):Int):=by
 have:=qA h
 unfold sgn;split<;>omega
theorem VK {w:Nat} (h:1<=w) (n:Int):sgn w (jE w n)=n↔ -((2^(w-1):Nat):Int)<=n/\n<((2^(w-1):Nat):Int):=by
 have hp:=qA h
 have hl:=jJ w n
 have hb:=JV h hl
 constructor
 ·intro e;rw [e]at hb;exact hb
 ·rintro ⟨h1,h2⟩
  have hc:=HX w n
  have h3:n%((2^w:Nat):Int)=if n<0 then n+((2^w:Nat):Int)else n:=by
   split
   ·rw [<-Int.add_emod_right,Int.emod_eq_of_lt (by omega) (by omega)]
   ·rw [Int.emod_eq_of_lt (by omega) (by omega)]
  rw [h3]at hc
  unfold sgn
  split at hc<;>split<;>omega
theorem jM {w x:Nat} {f:Nat->Bool} (hx:x<2^w) (h: ∀i,i<w->x.testBit i=f i):cV w f=x:=by
 apply Nat.eq_of_testBit_eq
 intro i
 by_cases hi:i<w
 ·rw [sJ _ _ _ hi,h i hi]
 ·rw [Nat.testBit_lt_two_pow (Nat.lt_of_lt_of_le (rX w f) (Nat.pow_le_pow_right (by omega) (by omega))),
   Nat.testBit_lt_two_pow (Nat.lt_of_lt_of_le hx (Nat.pow_le_pow_right (by omega) (by omega)))]
theorem te {w:Nat} {f g:Nat->Bool} (h: ∀i,i<w->f i=g i):cV w f=cV w g:=jM (rX _ _) fun i hi=>by rw [sJ _ _ _ hi,h i hi]
theorem Qx {w p:Nat} {f:Nat->Bool} (hp:p<w) (hf:f p=false):cV w f+2^p=cV w (fun i=>f i||decide (i=p)):=by
 induction w with
 |zero=>omega
 |succ w ih=>
  simp only [cV]
  by_cases h:p=w
  ·subst h
   have:cV p (fun i=>f i||decide (i=p))=cV p f:=te fun i hi=>by simp;omega
   rw [this];simp [hf]
  ·have:=ih (by omega)
   have e:(f w||decide (w=p))=f w:=by simp;omega
   simp only [e]
   omega
def jS :Nat->Nat->Nat
 |0,_=>0
 |w+1,a=>jS w a+(if a.testBit w then 1 else 0)
theorem NB (w a:Nat):jS w a<=w:=by
 induction w with
 |zero=>simp [jS]
 |succ w ih=>simp only [jS];split<;>omega
theorem Py {w a:Nat} (ha:a<2^w):jS w a=w↔a=2^w-1:=by
 have key: ∀w,jS w a=w↔ ∀i,i<w->a.testBit i=true:=by
  intro w
  induction w with
  |zero=>simp [jS]
  |succ w ih=>
   have:=NB w a
   simp only [jS]
   constructor
   ·intro h i hi
    by_cases hw:a.testBit w=true
    ·rw [if_pos hw]at h
     by_cases hiw:i=w
     ·subst hiw;exact hw
     ·exact ih.1 (by omega) i (by omega)
    ·rw [if_neg hw]at h;omega
   ·intro h
    rw [if_pos (h w (by omega)),ih.2 fun i hi=>h i (by omega)]
 rw [key]
 constructor
 ·intro h
  apply Nat.eq_of_testBit_eq
  intro i
  rw [Nat.testBit_two_pow_sub_one]
  by_cases hi:i<w
  ·rw [h i hi];simp [hi]
  ·rw [Nat.testBit_lt_two_pow (Nat.lt_of_lt_of_le ha (Nat.pow_le_pow_right (by omega) (by omega)))];simp [hi]
 ·rintro rfl i hi
  rw [Nat.testBit_two_pow_sub_one];simpa using hi
theorem Ir {w a b:Nat} (ha:a<2^w):cV w (fun i=>a.testBit i&&b.testBit i)=a&&&b:=
 jM (Nat.lt_of_le_of_lt Nat.and_le_left ha) fun i _=>by rw [Nat.testBit_and]
theorem QK {w a b:Nat} (ha:a<2^w) (hb:b<2^w):cV w (fun i=>a.testBit i||b.testBit i)=a|||b:=
 jM (Nat.or_lt_two_pow ha hb) fun i _=>by rw [Nat.testBit_or]
theorem UB {w a b:Nat} (ha:a<2^w) (hb:b<2^w):cV w (fun i=>a.testBit i^^b.testBit i)=a^^^b:=
 jM (Nat.xor_lt_two_pow ha hb) fun i _=>by rw [Nat.testBit_xor]
def Y1 (w a b:Nat):Nat:=a*2^min b w%2^w
def Yz (w a b:Nat):Nat:=a/2^min b w
def YL (w a b:Nat):Nat:=jE w (sgn w a/((2^min b w:Nat):Int))
theorem VS {w a b:Nat}:cV w (fun i=>decide (b<=i)&&a.testBit (i-b))=Y1 w a b:=by
 unfold Y1
 refine jM (Nat.mod_lt _ (bK w)) fun i hi=>?_
 rw [Nat.testBit_mod_two_pow,Nat.mul_comm,Nat.testBit_two_pow_mul]
 have:decide (i<w)=true:=by simpa using hi
 rw [this,Bool.true_and]
 by_cases h:b<=i
 ·rw [Nat.min_eq_left (by omega)]
 ·have h1:decide (b<=i)=false:=by simpa using h
  have h2:decide (min b w<=i)=false:=by simp;omega
  simp [h1,h2]
theorem Wr {w a b:Nat} (ha:a<2^w):cV w (fun i=>decide (i+b<w)&&a.testBit (i+b))=Yz w a b:=by
 unfold Yz
 refine jM (Nat.lt_of_le_of_lt (Nat.div_le_self _ _) ha) fun i hi=>?_
 rw [Nat.testBit_div_two_pow]
 by_cases h:i+b<w
 ·rw [Nat.min_eq_left (by omega)];simp [h]
 ·have h1:decide (i+b<w)=false:=by simpa using h
  rw [h1,Bool.false_and]
  refine Nat.testBit_lt_two_pow (Nat.lt_of_lt_of_le ha (Nat.pow_le_pow_right (by omega) ?_))
  omega
theorem V5 {w a b:Nat} (hw:1<=w) (hw16:w<=16) (ha:a<2^w):cV w (fun i=>if i+b<w then a.testBit (i+b)else a.testBit (w-1))=YL w a b:=by
 have hp:=qA hw
 have top:a.testBit (w-1)=decide (2^(w-1)<=a):=by
  rw [Nat.testBit_eq_decide_div_mod_eq]
  by_cases h:2^(w-1)<=a
  ·have:a/2^(w-1)=1:=by
    rw [Nat.div_eq_iff (bK _)];omega
   simp [this,h]
  ·have:a/2^(w-1)=0:=Nat.div_eq_of_lt (by omega)
   simp [this,h]
 have hb:min b w<=w:=Nat.min_le_right _ _
 have small: ∀i,i<w->i+b<w->min b w=b:=fun i _ h=>Nat.min_eq_left (by omega)
 unfold YL
 refine jM (jJ _ _) fun i hi=>?_
 by_cases hs:2^(w-1)<=a
 ·--with the sign
  have e1:sgn w a=(a:Int)-((2^w:Nat):Int):=by unfold sgn;rw [if_pos hs]
  have e2:jE w (sgn w a/((2^min b w:Nat):Int))=((a+2^w*(2^16-1))/2^min b w)%2^w:=by
   have h1:sgn w a=((a+2^w*(2^16-1):Nat):Int)-((2^min b w:Nat):Int)*((2^(w+16-min b w):Nat):Int):=by
    have h2:2^min b w*2^(w+16-min b w)=2^w*2^16:=by rw [<-Nat.pow_add,<-Nat.pow_add];congr 1;omega
    rw [e1,<-Int.natCast_mul,h2]
    have:2^w*(2^16-1)+2^w=2^w*2^16:=by rw [<-Nat.mul_succ]
    omega
   have hpos:((2^min b w:Nat):Int)≠0:=by have:=bK (min b w);omega
   have h3:sgn w a/((2^min b w:Nat):Int)=(((a+2^w*(2^16-1))/2^min b w:Nat):Int)-((2^w:Nat):Int)*((2^(16-min b w):Nat):Int):=by
    rw [h1,Int.sub_eq_add_neg,<-Int.mul_neg,Int.add_mul_ediv_left _ _ hpos,<-Int.natCast_ediv]
    have:2^(w+16-min b w)=2^w*2^(16-min b w):=by rw [<-Nat.pow_add];congr 1;omega
    rw [this,Int.natCast_mul];omega
   rw [h3]
   unfold jE
   rw [Int.sub_mul_emod_self_left,<-Int.natCast_emod,Int.toNat_natCast]
  rw [e2,Nat.testBit_mod_two_pow,Nat.testBit_div_two_pow,Nat.add_comm a,Nat.testBit_two_pow_mul_add _ ha]
  have hd:decide (i<w)=true:=by simpa using hi
  rw [hd,Bool.true_and]
  by_cases h:i+b<w
  ·have hm:=small i hi h
   rw [if_pos h,hm,if_pos (by omega)]
  ·have hm: ¬i+min b w<w:=by omega
   rw [if_neg h,if_neg hm,Nat.testBit_two_pow_sub_one,top]
   simp only [hs,decide_true,decide_eq_true_eq]
   omega
 ·have e1:sgn w a=a:=by unfold sgn;rw [if_neg hs]
  rw [e1,<-Int.natCast_ediv,pG,Nat.testBit_mod_two_pow,Nat.testBit_div_two_pow]
  have hd:decide (i<w)=true:=by simpa using hi
  rw [hd,Bool.true_and]
  by_cases h:i+b<w
  ·rw [if_pos h,small i hi h]
  ·rw [if_neg h,top]
   have hm: ¬i+min b w<w:=by omega
   have:decide (2^(w-1)<=a)=false:=by simpa using hs
   rw [this]
   exact Nat.testBit_lt_two_pow (Nat.lt_of_lt_of_le ha (Nat.pow_le_pow_right (by omega) (by omega)))
def Gj (w a k:Nat):Nat:=((a*2^k)|||(a/2^(w-k)))%2^w
theorem Ye {w a k i:Nat} (ha:a<2^w) (hk:k<w) (hi:i<w):(Gj w a k).testBit i=a.testBit ((i+(w-k))%w):=by
 unfold Gj
 rw [Nat.testBit_mod_two_pow,Nat.testBit_or,Nat.mul_comm,Nat.testBit_two_pow_mul,Nat.testBit_div_two_pow]
 have hd:decide (i<w)=true:=by simpa using hi
 rw [hd,Bool.true_and]
 by_cases h:k<=i
 ·have e:(i+(w-k))%w=i-k:=by
   have:i+(w-k)=(i-k)+w:=by omega
   rw [this,Nat.add_mod_right,Nat.mod_eq_of_lt (by omega)]
  have z:a.testBit (i+(w-k))=false:=Nat.testBit_lt_two_pow (Nat.lt_of_lt_of_le ha (Nat.pow_le_pow_right (by omega) (by omega)))
  rw [e,z];simp [h]
 ·have e:(i+(w-k))%w=i+(w-k):=Nat.mod_eq_of_lt (by omega)
  rw [e]
  have:decide (k<=i)=false:=by simpa using h
  rw [this];simp
theorem Wu {w a k:Nat} (ha:a<2^w) (hk:k<w):cV w (fun j=>a.testBit ((j+(w-k))%w))=Gj w a k:=
 jM (Nat.mod_lt _ (bK w)) fun i hi=>Ye ha hk hi
theorem Ts {w a k i:Nat} (hk:k<w) (hi:i<w):
  cV w (fun j=>decide ((j+(w-k))%w<i)&&a.testBit ((j+(w-k))%w))+(if a.testBit i then 2^((i+k)%w)else 0)=
   cV w (fun j=>decide ((j+(w-k))%w<i+1)&&a.testBit ((j+(w-k))%w)):=by
 have hpw:(i+k)%w<w:=Nat.mod_lt _ (by omega)
 have back:((i+k)%w+(w-k))%w=i:=by
  rw [Nat.mod_add_mod]
  have:i+k+(w-k)=i+w:=by omega
  rw [this,Nat.add_mod_right,Nat.mod_eq_of_lt hi]
 have inj: ∀j,j<w->((j+(w-k))%w=i↔j=(i+k)%w):=by
  intro j hj
  constructor
  ·intro h
   have:(j+(w-k)+k)%w=(i+k)%w:=by rw [<-h,Nat.mod_add_mod]
   rw [<-this]
   have:j+(w-k)+k=j+w:=by omega
   rw [this,Nat.add_mod_right,Nat.mod_eq_of_lt hj]
  ·rintro rfl;exact back
 cases hb:a.testBit i with
 |false=>
  simp only [Bool.false_eq_true,if_false,Nat.add_zero]
  refine te fun j hj=>?_
  by_cases h:(j+(w-k))%w=i
  ·rw [h,hb];simp
  ·have:decide ((j+(w-k))%w<i+1)=decide ((j+(w-k))%w<i):=by
    rw [decide_eq_decide];omega
   rw [this]
 |true=>
  simp only [if_true]
  rw [Qx hpw (by rw [back];simp)]
  refine te fun j hj=>?_
  by_cases h:j=(i+k)%w
  ·have h2:=(inj j hj).2 h
   rw [h2,hb];simp [h]
  ·have h2: ¬(j+(w-k))%w=i:=fun e=>h ((inj j hj).1 e)
   have:decide ((j+(w-k))%w<i+1)=decide ((j+(w-k))%w<i):=by
    rw [decide_eq_decide];omega
   rw [this];simp [h]
def xE (kind:Int) (w a:Nat):Nat×Nat:=
 if kind=1 then(2^w-1-a,w)else if kind=2 then(jE w (-(a:Int)),w)else if kind=3 then(if a=0 then 0 else 1,1)else
 if kind=4 then(if a=2^w-1 then 1 else 0,1)else(jS w a%2,1)
def JR (w a b:Nat):Nat:=if sgn w b=0 then(if sgn w a<0 then 1 else 2^w-1)else jE w (Int.tdiv (sgn w a) (sgn w b))
def JN (w a b:Nat):Nat:=if sgn w b=0 then a else jE w (Int.tmod (sgn w a) (sgn w b))
def EF (kind:Int) (w a b:Nat):Bool:=
 if kind=21 then decide (a=b)else if kind=22 then decide (a<b)else if kind=23 then decide (sgn w a<sgn w b)else
 if kind=24 then decide (a<=b)else if kind=25 then decide (sgn w a<=sgn w b)else if kind=26 then decide (2^w<=a+b)else
 if kind=27 then !decide (-((2^(w-1):Nat):Int)<=sgn w a+sgn w b/\sgn w a+sgn w b<((2^(w-1):Nat):Int))else decide (2^w<=a*b)
def Hs (kind:Int) (w a b:Nat):Nat:=
 if kind=6 then a&&&b else if kind=7 then a|||b else if kind=8 then a^^^b else if kind=9 then jE w ((a:Int)+b)else
 if kind=10 then jE w ((a:Int)-b)else if kind=11 then jE w ((a:Int)*b)else if kind=12 then(if b=0 then 2^w-1 else a/b)else
 if kind=13 then(if b=0 then a else a%b)else if kind=14 then JR w a b else if kind=15 then JN w a b else
 if kind=16 then Y1 w a b else if kind=17 then Yz w a b else if kind=18 then YL w a b else if kind=19 then Gj w a (b%w)else Gj w a ((w-b%w)%w)
def sx (kind:Int) (w a b:Nat):Nat×Nat:=if kind<=20 then(Hs kind w a b,w)else(if EF kind w a b then 1 else 0,1)
theorem Yq {kind:Int} {w a:Nat} (hw:1<=w) (ha:a<2^w):(xE kind w a).1<2^(xE kind w a).2:=by
 have:=bK w
 unfold xE
 split
 ·simp only;omega
 ·split
  ·exact jJ _ _
  ·split
   ·simp only;split<;>omega
   ·split
    ·simp only;split<;>omega
    ·simp only;omega
theorem Rh (w a k:Nat):Gj w a k<2^w:=Nat.mod_lt _ (bK w)
theorem jX {c:Prop} [Decidable c] {x y n:Nat} (hx:x<n) (hy:y<n):(if c then x else y)<n:=by
 by_cases h:c
 ·rw [if_pos h];exact hx
 ·rw [if_neg h];exact hy
theorem WK {kind:Int} {w a b:Nat} (hw:1<=w) (ha:a<2^w) (hb:b<2^w):Hs kind w a b<2^w:=by
 have hp:=bK w
 have hp1:1<2^w:=by
  have:=qA hw;have:=bK (w-1);omega
 unfold Hs
 refine jX (Nat.lt_of_le_of_lt Nat.and_le_left ha) (jX (Nat.or_lt_two_pow ha hb) (jX (Nat.xor_lt_two_pow ha hb) (jX (jJ _ _) (jX (jJ _ _) (jX (jJ _ _)
  (jX (jX (by omega) (Nat.lt_of_le_of_lt (Nat.div_le_self _ _) ha)) (jX (jX ha (Nat.lt_of_le_of_lt (Nat.mod_le _ _) ha)) (jX ?_ (jX ?_ (jX (Nat.mod_lt _ hp)
  (jX (Nat.lt_of_le_of_lt (Nat.div_le_self _ _) ha) (jX (jJ _ _) (jX (Rh _ _ _) (Rh _ _ _))))))))))))))
 ·unfold JR
  exact jX (jX hp1 (by omega)) (jJ _ _)
 ·unfold JN
  exact jX ha (jJ _ _)
theorem YZ {kind:Int} {w a b:Nat} (hw:1<=w) (ha:a<2^w) (hb:b<2^w):(sx kind w a b).1<2^(sx kind w a b).2:=by
 unfold sx
 split
 ·exact WK hw ha hb
 ·simp only;split<;>omega
theorem acB {w a b:Nat} (hw:1<=w):(sgn w (jE w (sgn w a+sgn w b))≠sgn w a+sgn w b)↔ ¬(-((2^(w-1):Nat):Int)<=sgn w a+sgn w b/\sgn w a+sgn w b<((2^(w-1):Nat):Int)):=by
 rw [ne_eq,VK hw]
structure SortP where
 idx:Int
 wid:Int
 deriving DecidableEq
structure NodeP where
 kind:Int
 a:Int
 b:Int
 c:Int
 n:Int
 m:Int
 sort:SortP
 name:ByteArray
structure BindP where
 state:Int
 node:Int
 deriving DecidableEq
structure ah where
 nodes:List NodeP
 inits:List BindP
 nexts:List BindP
 bads:List Int
 holds:List Int
def bT (s:SortP):Bool:=decide ((0<=s.idx/\s.idx<=2)/\(1<=s.wid/\s.wid<=16))
def cR (s:SortP):Nat:=if bT s then 2^s.idx.toNat else 0
def dR (s:SortP):Nat:=cR s*s.wid.toNat
def cF (w:Int):SortP:=⟨0,w⟩
def ar (kind:Int):Int:=
 if(1<=kind/\kind<=5)\/(30<=kind/\kind<=32)then 1 else if(6<=kind/\kind<=29)\/kind=37 then 2 else if kind=33\/kind=38 then 3 else
 if 34<=kind/\kind<=36 then 0 else-1
def gW (c:UInt8):Bool:=decide (97<=c.toNat/\c.toNat<=122)
def oG (c:UInt8):Bool:=decide (48<=c.toNat/\c.toNat<=57)
def gf (s:ByteArray):Bool:=decide (1<=s.size/\s.size<=8)&&(match s.data.toList with| []=>false|c::r=>gW c&&r.all fun c=>gW c||oG c)
def fU (kind:Int):Bool:=decide (kind=35\/kind=36)
def rE (k:Int) (len:Nat) (i:Int) (p:Int):Bool:=if i<k then decide (0<=p/\p<=(len:Int)-1)else decide (p=0)
def fk (len:Nat) (n:NodeP):Bool:=
 decide (0<=ar n.kind)&&(rE (ar n.kind) len 0 n.a&&rE (ar n.kind) len 1 n.b&&rE (ar n.kind) len 2 n.c)&&
 (if fU n.kind then gf n.name else decide (n.name.size=0))&&(decide (n.kind=30)||decide (n.m=0))&&
 (decide (n.kind=30\/n.kind=31\/n.kind=32\/n.kind=34)||decide (n.n=0))
def jf (w v:Int):Bool:=decide ((1<=w/\w<=16)/\0<=v/\v<=((2^w.toNat:Nat):Int)-1)
def di (n:NodeP) (a b c:SortP):Option SortP:=
 if n.kind=33 then(if a=cF 1/\b=c then some b else none)else
 if n.kind=37 then(if 0<a.idx/\b=cF a.idx then some (cF a.wid)else none)else
 if n.kind=38 then(if 0<a.idx/\b=cF a.idx/\c=cF a.wid then some a else none)else
 if n.kind=21 then(if a=b then some (cF 1)else none)else
 if 0<a.idx\/(ar n.kind=2/\0<b.idx)then none else
 if n.kind=29 then(if a.wid+b.wid<=16 then some (cF (a.wid+b.wid))else none)else
 if n.kind=30 then(if(0<=n.n/\n.n<=a.wid-1)/\0<=n.m/\n.m<=n.n then some (cF (n.n-n.m+1))else none)else
 if n.kind=31\/n.kind=32 then(if 0<=n.n/\n.n<=16-a.wid then some (cF (a.wid+n.n))else none)else
 if n.kind<=5 then some (cF (if n.kind<=2 then a.wid else 1))else
 if a=b then some (cF (if n.kind<=20 then a.wid else 1))else none
def aA (l:List NodeP) (p:Int):SortP:=match l[p.toNat]? with|some n=>n.sort|none=>⟨0,0⟩
def cW (l:List NodeP) (n:NodeP):Option SortP:=
 if l.length<=60/\fk l.length n=true then
  (if ar n.kind=0 then(if(if n.kind=34 then decide (n.sort.idx=0)&&jf n.sort.wid n.n else bT n.sort)then some n.sort else none)else
   if bT (aA l n.a)&&((decide (ar n.kind<2)||bT (aA l n.b))&&(decide (ar n.kind<3)||bT (aA l n.c)))then
    di n (aA l n.a) (aA l n.b) (aA l n.c)else none)
 else none
def cv (l:List NodeP):Bool:=(List.range l.length).all fun i=>match l[i]? with|some n=>decide (cW (l.take i) n=some n.sort)|none=>true
def jI {α:Type} [DecidableEq α] (l:List α):Bool:=(List.range l.length).any fun i=>match l[i]? with|some x=>(l.take i).any fun y=>decide (y=x)|none=>false
def lv (l:List NodeP):Bool:=(List.range l.length).any fun i=>match l[i]? with|some n=>decide (n.name.size≠0)&&(l.take i).any fun y=>decide (y.name=n.name)|none=>false
def uj (m:ah):Bool:=lv m.nodes||(jI (m.inits.map (·.state))||jI (m.nexts.map (·.state)))
def dM (l:List NodeP):Nat->List Bool
 |0=> []
 |i+1=>dM l i++ [match l[i]? with
   |some n=>fU n.kind||((decide (0<ar n.kind)&&(dM l i).getD n.a.toNat false)||((decide (1<ar n.kind)&&(dM l i).getD n.b.toNat false)||(decide (2<ar n.kind)&&(dM l i).getD n.c.toNat false)))
   |none=>false]
def cY (l:List NodeP) (p:Int):Bool:=decide (0<=p/\p<=(l.length:Int)-1)
def kb (l:List NodeP) (p:Int):Int:=match l[p.toNat]? with|some n=>n.kind|none=>0
def jh (l:List NodeP) (b:BindP):Bool:=
 (cY l b.state&&cY l b.node&&decide (kb l b.state=36))&&((decide (aA l b.state=aA l b.node)||decide (aA l b.node=cF (aA l b.state).wid))&& !(dM l l.length).getD b.node.toNat false)
def fL (l:List NodeP) (b:BindP):Bool:=(cY l b.state&&cY l b.node&&decide (kb l b.state=36))&&decide (aA l b.state=aA l b.node)
def dD (l:List NodeP) (p:Int):Bool:=cY l p&&decide (aA l p=cF 1)
def ak (l:List NodeP) (kind:Int):Nat:=((l.filter fun n=>decide (n.kind=kind)).map fun n=>dR n.sort).sum
def aH (l:List NodeP) (kind:Int):List Nat:=(List.range l.length).filter fun i=>match l[i]? with|some n=>decide (n.kind=kind)|none=>false
def ax (m:ah):Int:=
 if 60<m.nodes.length\/60<m.inits.length\/60<m.nexts.length\/4<m.bads.length\/4<m.holds.length then 1 else
 if cv m.nodes=false then 2 else if uj m=true then 3 else
 if(m.inits.all (jh m.nodes)&&m.nexts.all (fL m.nodes))=false then 4 else
 if(m.bads.all (dD m.nodes)&&m.holds.all (dD m.nodes))=false then 5 else
 if 8<ak m.nodes 36\/5<ak m.nodes 35 then 6 else 0
def cB (v:List (List Nat)) (p:Int):Nat:=(v.getD p.toNat []).getD 0 0
def P7 (a lo n:Nat):Nat:=a/2^lo%2^n
def Hg (w a more:Nat) (signed:Bool):Nat:=if signed then jE (w+more) (sgn w a)else a
def fz (l:List NodeP) (n:NodeP) (v:List (List Nat)):List Nat:=
 if n.kind=34 then [n.n.toNat]else
 if n.kind=33 then(if cB v n.a=1 then v.getD n.b.toNat []else v.getD n.c.toNat [])else
 if n.kind=21 then [if v.getD n.a.toNat []=v.getD n.b.toNat []then 1 else 0]else
 if n.kind=37 then [(v.getD n.a.toNat []).getD (cB v n.b) 0]else
 if n.kind=38 then(v.getD n.a.toNat []).set (cB v n.b) (cB v n.c)else
 if n.kind=29 then [cB v n.a*2^(aA l n.b).wid.toNat+cB v n.b]else
 if n.kind=30 then [P7 (cB v n.a) n.m.toNat (n.n-n.m+1).toNat]else
 if n.kind=31\/n.kind=32 then [Hg (aA l n.a).wid.toNat (cB v n.a) n.n.toNat (decide (n.kind=32))]else
 if ar n.kind=1 then [(xE n.kind (aA l n.a).wid.toNat (cB v n.a)).1]else [(sx n.kind (aA l n.a).wid.toNat (cB v n.a) (cB v n.b)).1]
def fZ (l:List NodeP) (s inp:List (List Nat)):Nat->List (List Nat)
 |0=> []
 |i+1=>fZ l s inp i++ [match l[i]? with
   |some n=>if n.kind=36 then s.getD (aH (l.take i) 36).length []else if n.kind=35 then inp.getD (aH (l.take i) 35).length []else fz l n (fZ l s inp i)
   |none=> []]
def iE (n:NodeP):List Nat:=([n.a.toNat,n.b.toNat,n.c.toNat]).take (ar n.kind).toNat
theorem rM (k:Int):ar k=0\/ar k=1\/ar k=2\/ar k=3\/ar k= -1:=by
 unfold ar
 by_cases h1:(1<=k/\k<=5)\/(30<=k/\k<=32)
 ·rw [if_pos h1];simp
 rw [if_neg h1]
 by_cases h2:(6<=k/\k<=29)\/k=37
 ·rw [if_pos h2];simp
 rw [if_neg h2]
 by_cases h3:k=33\/k=38
 ·rw [if_pos h3];simp
 rw [if_neg h3]
 by_cases h4:34<=k/\k<=36
 ·rw [if_pos h4];simp
 rw [if_neg h4];simp
def CD (l:List NodeP):Prop:= ∀(i:Nat) (n:NodeP),l[i]?=some n->0<=ar n.kind/\ ∀p∈iE n,p<i
def rJ (l:List NodeP) (j:Nat):Bool:=match l[j]? with|some n=>fU n.kind|none=>false
def rO (l:List NodeP) (j:Nat):Bool:=(dM l l.length).getD j false
theorem iM (l:List NodeP): ∀i,(dM l i).length=i:=by
 intro i
 induction i with
 |zero=>rfl
 |succ i ih=>simp only [dM,List.length_append,ih,List.length_cons,List.length_nil]
theorem Tw (l:List NodeP): ∀d i j,j<i->(dM l (i+d)).getD j false=(dM l i).getD j false:=by
 intro d
 induction d with
 |zero=>intro i j _;rfl
 |succ d ih=>
  intro i j hj
  rw [<-Nat.add_assoc]
  simp only [dM]
  have hl:=iM l (i+d)
  rw [List.getD,List.getElem?_append_left (by omega)]
  exact ih i j hj
theorem sF {l:List NodeP} {i j:Nat} (hj:j<i) (hi:i<=l.length):(dM l i).getD j false=rO l j:=by
 have:=Tw l (l.length-i) i j hj
 rw [show i+(l.length-i)=l.length by omega]at this
 exact this.symm
theorem WT {l:List NodeP} (ha:CD l) {i:Nat} {n:NodeP} (hn:l[i]?=some n):rO l i=true↔fU n.kind=true\/ ∃p∈iE n,rO l p=true:=by
 have hi:i<l.length:=(List.getElem?_eq_some_iff.1 hn).1
 obtain⟨hk,hp⟩:=ha i n hn
 have e:rO l i=(fU n.kind||((decide (0<ar n.kind)&&(dM l i).getD n.a.toNat false)||((decide (1<ar n.kind)&&(dM l i).getD n.b.toNat false)||(decide (2<ar n.kind)&&(dM l i).getD n.c.toNat false)))):=by
  rw [<-sF (Nat.lt_succ_self i) hi]
  simp only [dM]
  have hl:=iM l i
  rw [List.getD,List.getElem?_append_right (by omega),hl,Nat.sub_self]
  simp only [hn,List.getElem?_cons_zero,Option.getD_some]
 rw [e]
 unfold iE at hp⊢
 rcases rM n.kind with h|h|h|h|h
 ·simp [h]
 ·rw [h]at hp⊢
  have h1:=hp n.a.toNat (by simp)
  rw [sF h1 (by omega)]
  simp
 ·rw [h]at hp⊢
  have h1:=hp n.a.toNat (by simp)
  have h2:=hp n.b.toNat (by simp)
  rw [sF h1 (by omega),sF h2 (by omega)]
  simp
 ·rw [h]at hp⊢
  have h1:=hp n.a.toNat (by simp)
  have h2:=hp n.b.toNat (by simp)
  have h3:=hp n.c.toNat (by simp)
  rw [sF h1 (by omega),sF h2 (by omega),sF h3 (by omega)]
  simp
 ·omega
def jL (l:List NodeP):Nat->(Nat->Bool)->Nat->Bool
 |0,S=>S
 |i+1,S=>jL l i (if S i then fun j=>S j||(match l[i]? with|some n=>(iE n).contains j|none=>false)else S)
theorem Sp {l:List NodeP} (ha:CD l): ∀(i:Nat) (S:Nat->Bool),i<=l.length->
  ((∃j,jL l i S j=true/\rJ l j=true)↔(∃j,i<=j/\S j=true/\rJ l j=true)\/ ∃j,j<i/\S j=true/\rO l j=true):=by
 intro i
 induction i with
 |zero=>intro S _;simp [jL]
 |succ i ih=>
  intro S hi
  simp only [jL]
  rw [ih _ (by omega)]
  obtain⟨n,hn⟩: ∃n,l[i]?=some n:=⟨l[i],List.getElem?_eq_getElem (by omega)⟩
  have hm:=WT ha hn
  have hp:=(ha i n hn).2
  have hnm:rJ l i=fU n.kind:=by unfold rJ;rw [hn]
  by_cases hS:S i=true
  ·simp only [hS,if_true,hn]
   constructor
   ·rintro (⟨j,h1,h2,h3⟩|⟨j,h1,h2,h3⟩)
    ·by_cases hji:j=i
     ·subst hji
      exact .inr ⟨j,by omega,hS,hm.2 (.inl (hnm▸h3))⟩
     ·rcases Bool.or_eq_true_iff.1 h2 with h2|h2
      ·exact .inl ⟨j,by omega,h2,h3⟩
      ·have:=hp j (by simpa using h2);omega
    ·rcases Bool.or_eq_true_iff.1 h2 with h2|h2
     ·exact .inr ⟨j,by omega,h2,h3⟩
     ·exact .inr ⟨i,by omega,hS,hm.2 (.inr ⟨j,by simpa using h2,h3⟩)⟩
   ·rintro (⟨j,h1,h2,h3⟩|⟨j,h1,h2,h3⟩)
    ·exact .inl ⟨j,by omega,by simp [h2],h3⟩
    ·by_cases hji:j=i
     ·subst hji
      rcases hm.1 h3 with h4|⟨p,hp1,hp2⟩
      ·exact .inl ⟨j,Nat.le_refl _,by simp [hS],hnm▸h4⟩
      ·exact .inr ⟨p,hp p hp1,by simp [hp1],hp2⟩
     ·exact .inr ⟨j,by omega,by simp [h2],h3⟩
  ·simp only [hS,if_false]
   constructor
   ·rintro (⟨j,h1,h2,h3⟩|⟨j,h1,h2,h3⟩)
    ·by_cases hji:j=i
     ·subst hji;exact absurd h2 hS
     ·exact .inl ⟨j,by omega,h2,h3⟩
    ·exact .inr ⟨j,by omega,h2,h3⟩
   ·rintro (⟨j,h1,h2,h3⟩|⟨j,h1,h2,h3⟩)
    ·exact .inl ⟨j,by omega,h2,h3⟩
    ·by_cases hji:j=i
     ·subst hji;exact absurd h2 hS
     ·exact .inr ⟨j,by omega,h2,h3⟩
theorem Zy {l:List NodeP} (ha:CD l) {i:Nat} (hi:i<l.length):(∃j,jL l (i+1) (fun j=>decide (j=i)) j=true/\rJ l j=true)↔rO l i=true:=by
 rw [Sp ha _ _ (by omega)]
 constructor
 ·rintro (⟨j,h1,h2,h3⟩|⟨j,h1,h2,h3⟩)
  ·simp at h2;omega
  ·simp at h2;subst h2;exact h3
 ·intro h;exact .inr ⟨i,by omega,by simp,h⟩
theorem Zw {l:List NodeP} (ha:CD l) (k:Nat): ∀(i:Nat) (S:Nat->Bool),i<=k+1->i<=l.length->(∀j,S j=true->j<=k)-> ∀j,jL l i S j=true->j<=k:=by
 intro i
 induction i with
 |zero=>intro S _ _ hS j hj;exact hS j hj
 |succ i ih=>
  intro S hk hi hS j hj
  simp only [jL]at hj
  refine ih _ (by omega) (by omega) ?_ j hj
  intro j' hj'
  split at hj'
  ·rcases Bool.or_eq_true_iff.1 hj' with h|h
   ·exact hS j' h
   ·obtain⟨n,hn⟩: ∃n,l[i]?=some n:=⟨l[i],List.getElem?_eq_getElem (by omega)⟩
    rw [hn]at h
    have:=(ha i n hn).2 j' (by simpa using h)
    omega
  ·exact hS j' hj'
def lw (w:Nat):Nat->Nat->List Nat
 |0,_=> []
 |c+1,code=>lw w c code++ [code/2^(w*c)%2^w]
def cj (l:List NodeP) (p:Nat):Nat:=(aA l p).wid.toNat
def aK (l:List NodeP) (p:Nat):Nat:=cR (aA l p)
def cD (l:List NodeP) (ps:List Nat):Nat:=(ps.map fun p=>cj l p*aK l p).sum
def fq (l:List NodeP) (ps:List Nat) (code:Nat):List (List Nat):=
 (List.range ps.length).map fun i=>lw (cj l (ps.getD i 0)) (aK l (ps.getD i 0)) (code/2^cD l (ps.take i))
theorem qv (w c code:Nat):(lw w c code).length=c:=by
 induction c with
 |zero=>rfl
 |succ c ih=>simp only [lw,List.length_append,ih,List.length_cons,List.length_nil]
theorem Rm {w c code x:Nat} (h:x∈lw w c code):x<2^w:=by
 induction c with
 |zero=>cases h
 |succ c ih=>
  simp only [lw,List.mem_append,List.mem_singleton]at h
  rcases h with h|h
  ·exact ih h
  ·subst h;exact Nat.mod_lt _ (bK w)
theorem k9 (l:List NodeP) (ps:List Nat) (code:Nat):(fq l ps code).length=ps.length:=by simp [fq]
theorem QU {α:Type} {l:List α} {i:Nat} {x:α} (h:l[i]?=some x):i<l.length:=by
 rcases Nat.lt_or_ge i l.length with h'|h'
 ·exact h'
 ·rw [List.getElem?_eq_none h']at h;cases h
theorem GX {l:List NodeP} {ps:List Nat} {code i p:Nat} (h:ps[i]?=some p):(fq l ps code).getD i []=lw (cj l p) (aK l p) (code/2^cD l (ps.take i)):=by
 have hlt:=QU h
 have hp:ps.getD i 0=p:=by rw [List.getD_eq_getElem?_getD,h];rfl
 unfold fq
 rw [List.getD_eq_getElem?_getD,List.getElem?_map,List.getElem?_range hlt]
 simp only [Option.map_some,Option.getD_some,hp]
theorem nD {l:List NodeP} {ps:List Nat} {i p:Nat} (h:ps[i]?=some p):cD l (ps.take (i+1))=cD l (ps.take i)+cj l p*aK l p:=by
 have hlt:=QU h
 rw [List.getElem?_eq_getElem hlt]at h
 unfold cD
 rw [List.take_succ_eq_append_getElem hlt,Option.some.inj h,List.map_append,List.sum_append];simp
theorem FL (l:List NodeP) (ps:List Nat) (i:Nat):cD l (ps.take i)<=cD l ps:=by
 conv=>rhs;rw [<-List.take_append_drop i ps]
 unfold cD
 rw [List.map_append,List.sum_append];omega
def fO (w:Nat):List Nat->Nat
 | []=>0
 |x::xs=>x+2^w*fO w xs
theorem yk {w:Nat}: ∀{xs:List Nat},(∀x∈xs,x<2^w)->fO w xs<2^(w*xs.length):=by
 intro xs
 induction xs with
 |nil=>intro _;simp [fO]
 |cons x xs ih=>
  intro h
  have h1:=ih fun y hy=>h y (by simp [hy])
  have h2:=h x (by simp)
  simp only [fO,List.length_cons]
  rw [Nat.mul_add,Nat.mul_one,Nat.pow_add,Nat.mul_comm (2^(w*xs.length))]
  have h3:=Nat.mul_le_mul_left (2^w) (Nat.succ_le_of_lt h1)
  rw [Nat.succ_eq_add_one,Nat.mul_add,Nat.mul_one]at h3
  omega
theorem Hf (w:Nat) (xs:List Nat) (x:Nat):fO w (xs++ [x])=fO w xs+2^(w*xs.length)*x:=by
 induction xs with
 |nil=>simp [fO]
 |cons y ys ih=>
  simp only [List.cons_append,fO,ih,List.length_cons]
  rw [Nat.mul_add,<-Nat.add_assoc]
  congr 1
  rw [Nat.mul_add w,Nat.mul_one,Nat.add_comm (w*ys.length),Nat.pow_add,Nat.mul_assoc]
theorem Gz (w:Nat) (code k:Nat): ∀c,c<=k->lw w c (code%2^(w*k))=lw w c code:=by
 intro c
 induction c with
 |zero=>intro _;rfl
 |succ c ih=>
  intro h
  simp only [lw,ih (by omega)]
  congr 2
  have hk:w*k=w*c+(w+w*(k-c-1)):=by
   have:k=c+(1+(k-c-1)):=by omega
   conv=>lhs;rw [this]
   simp only [Nat.mul_add,Nat.mul_one]
  rw [hk,Nat.pow_add,Nat.mod_mul_right_div_self,Nat.pow_add,Nat.mod_mul_right_mod]
theorem Dt (w c code:Nat):fO w (lw w c code)=code%2^(w*c):=by
 induction c with
 |zero=>simp [lw,fO,Nat.mod_one]
 |succ c ih=>
  rw [lw,Hf,ih,qv,Nat.mul_add,Nat.mul_one,Nat.pow_add,Nat.mod_mul]
theorem S1 {w:Nat}: ∀{xs:List Nat} {k:Nat},(∀x∈xs,x<2^w)->k<xs.length->fO w xs/2^(w*k)%2^w=xs.getD k 0:=by
 intro xs
 induction xs with
 |nil=>intro k _ h;simp at h
 |cons x xs ih=>
  intro k h hk
  have hx:=h x (by simp)
  have hp:=bK w
  cases k with
  |zero=>
   simp only [fO,Nat.mul_zero,Nat.pow_zero,Nat.div_one,List.getD_cons_zero]
   rw [Nat.add_mul_mod_self_left,Nat.mod_eq_of_lt hx]
  |succ k=>
   rw [List.getD_cons_succ,<-ih (fun y hy=>h y (by simp [hy])) (by simpa using hk)]
   simp only [fO]
   rw [Nat.mul_add,Nat.mul_one,Nat.add_comm (w*k),Nat.pow_add,<-Nat.div_div_eq_div_mul,Nat.add_mul_div_left _ _ hp,Nat.div_eq_of_lt hx,Nat.zero_add]
theorem DG {w:Nat} {xs:List Nat} (h: ∀x∈xs,x<2^w):lw w xs.length (fO w xs)=xs:=by
 have key: ∀c,c<=xs.length->lw w c (fO w xs)=xs.take c:=by
  intro c
  induction c with
  |zero=>intro _;rfl
  |succ c ih=>
   intro hc
   rw [lw,ih (by omega),S1 h (by omega),List.take_succ_eq_append_getElem (by omega),List.getD_eq_getElem?_getD,List.getElem?_eq_getElem (by omega)];rfl
 have:=key xs.length (Nat.le_refl _)
 rwa [List.take_length]at this
theorem G3 (w n:Nat):fO w (List.replicate n 0)=0:=by
 induction n with
 |zero=>rfl
 |succ n ih=>simp only [List.replicate_succ,fO,ih];simp
def nbA (l:List NodeP) (p:Nat):Nat:=cj l p*aK l p
def DQ (l:List NodeP):List Nat->Nat->List (List Nat)
 | [],_=> []
 |p::ps,code=>lw (cj l p) (aK l p) code::DQ l ps (code/2^nbA l p)
def dY (l:List NodeP):List Nat->List (List Nat)->Nat
 | [],_=>0
 |p::ps,vs=>fO (cj l p) (vs.headD [])+2^nbA l p*dY l ps vs.tail
def j8 (l:List NodeP):List Nat->List (List Nat)->Prop
 | [],vs=>vs= []
 |p::ps,vs=> ∃v r,vs=v::r/\v.length=aK l p/\(∀x∈v,x<2^cj l p)/\j8 l ps r
theorem pV (l:List NodeP) (p:Nat) (ps:List Nat):cD l (p::ps)=nbA l p+cD l ps:=by simp [cD,nbA]
theorem qm (l:List NodeP): ∀(ps:List Nat) (code:Nat),fq l ps code=DQ l ps code:=by
 intro ps
 induction ps with
 |nil=>intro code;simp [fq,DQ]
 |cons p ps ih=>
  intro code
  rw [DQ,<-ih]
  unfold fq
  rw [List.length_cons,List.range_succ_eq_map,List.map_cons,List.map_map]
  simp only [List.getD_cons_zero,List.take_zero,cD,List.map_nil,List.sum_nil,Nat.pow_zero,Nat.div_one,List.cons.injEq,true_and]
  apply List.map_congr_left
  intro i _
  simp only [Function.comp,List.getD_cons_succ,List.take_succ_cons,List.map_cons,List.sum_cons,nbA]
  rw [Nat.pow_add,Nat.div_div_eq_div_mul]
theorem NJ (l:List NodeP): ∀(ps:List Nat) (code:Nat),j8 l ps (DQ l ps code):=by
 intro ps
 induction ps with
 |nil=>intro code;rfl
 |cons p ps ih=>exact fun code=>⟨_,_,rfl,qv _ _ _,fun x hx=>Rm hx,ih _⟩
theorem uN {l:List NodeP}: ∀{ps:List Nat} {vs:List (List Nat)},j8 l ps vs->dY l ps vs<2^cD l ps:=by
 intro ps
 induction ps with
 |nil=>intro vs _;simp [dY,cD]
 |cons p ps ih=>
  rintro _ ⟨v,r,rfl,h1,h2,h3⟩
  have h4:=ih h3
  have h5:=yk h2
  rw [h1]at h5
  have h5':fO (cj l p) v<2^nbA l p:=h5
  simp only [dY,List.headD_cons,List.tail_cons]
  rw [pV,Nat.pow_add]
  have h6:=Nat.mul_le_mul_left (2^nbA l p) (Nat.succ_le_of_lt h4)
  rw [Nat.succ_eq_add_one,Nat.mul_add,Nat.mul_one]at h6
  omega
theorem rW {l:List NodeP}: ∀{ps:List Nat} {vs:List (List Nat)},j8 l ps vs->DQ l ps (dY l ps vs)=vs:=by
 intro ps
 induction ps with
 |nil=>rintro vs rfl;rfl
 |cons p ps ih=>
  rintro _ ⟨v,r,rfl,h1,h2,h3⟩
  have h5:=yk h2
  rw [h1]at h5
  have h5':fO (cj l p) v<2^nbA l p:=h5
  simp only [DQ,dY,List.headD_cons,List.tail_cons]
  rw [Nat.add_mul_div_left _ _ (bK _),Nat.div_eq_of_lt h5',Nat.zero_add,ih h3,<-Gz _ _ _ _ (Nat.le_refl _)]
  have:(fO (cj l p) v+2^nbA l p*dY l ps r)%2^(cj l p*aK l p)=fO (cj l p) v:=by
   show _%2^nbA l p=_
   rw [Nat.add_mul_mod_self_left,Nat.mod_eq_of_lt h5']
  rw [this,<-h1,DG h2]
theorem nV {l:List NodeP}: ∀{ps:List Nat} {vs:List (List Nat)},j8 l ps vs->vs.length=ps.length:=by
 intro ps
 induction ps with
 |nil=>rintro vs rfl;rfl
 |cons p ps ih=>rintro _ ⟨v,r,rfl,h1,h2,h3⟩;simp [ih h3]
theorem Pc {l:List NodeP}: ∀{ps:List Nat} {vs:List (List Nat)} {p:Nat} {v:List Nat},vs.length=ps.length->
  dY l (ps++ [p]) (vs++ [v])=dY l ps vs+2^cD l ps*fO (cj l p) v:=by
 intro ps
 induction ps with
 |nil=>
  intro vs p v h
  obtain rfl:vs= []:=List.eq_nil_of_length_eq_zero (by simpa using h)
  simp [dY,cD]
 |cons q ps ih=>
  intro vs p v h
  obtain⟨u,r,rfl⟩: ∃u r,vs=u::r:=by
   cases vs with
   |nil=>simp at h
   |cons u r=>exact⟨u,r,rfl⟩
  simp only [List.cons_append,dY,List.headD_cons,List.tail_cons]
  rw [ih (by simpa using h),pV,Nat.pow_add,Nat.mul_add,Nat.mul_assoc,Nat.add_assoc]
theorem RY {l:List NodeP}: ∀{ps:List Nat} {vs:List (List Nat)},j8 l ps vs-> ∀i,j8 l (ps.take i) (vs.take i):=by
 intro ps
 induction ps with
 |nil=>rintro vs rfl i;simp [j8]
 |cons p ps ih=>
  rintro _ ⟨v,r,rfl,h1,h2,h3⟩ i
  cases i with
  |zero=>rfl
  |succ i=>exact⟨v,r.take i,rfl,h1,h2,ih h3 i⟩
theorem mh {l:List NodeP}: ∀{ps:List Nat} {vs:List (List Nat)},j8 l ps vs-> ∀{i p:Nat},ps[i]?=some p->(vs.getD i []).length=aK l p/\ ∀x∈vs.getD i [],x<2^cj l p:=by
 intro ps
 induction ps with
 |nil=>rintro vs rfl i p h;simp at h
 |cons q ps ih=>
  rintro _ ⟨v,r,rfl,h1,h2,h3⟩ i p h
  cases i with
  |zero=>simp at h;subst h;exact⟨h1,h2⟩
  |succ i=>exact ih h3 (by simpa using h)
def cf (binds:List BindP) (p:Nat):Option Nat:=(binds.find? fun b=>decide (b.state=(p:Int))).map (·.node.toNat)
def fX (l:List NodeP) (c:Nat->Bool):List Nat->Nat
 | []=>0
 |p::ps=>(if c p then 2^nbA l p-1 else 0)+2^nbA l p*fX l c ps
def kJ (l:List NodeP) (f:Nat->Option (List Nat)) (ps:List Nat):List (List Nat):=ps.map fun p=>(f p).getD (List.replicate (aK l p) 0)
theorem Qo (n:Nat):2^n-1<2^n:=by have:=bK n;omega
theorem Rq (l:List NodeP) (c:Nat->Bool) (p:Nat):(if c p then 2^nbA l p-1 else 0)<2^nbA l p:=by
 have:=bK (nbA l p);split<;>omega
theorem yi (l:List NodeP) (c:Nat->Bool): ∀ps,fX l c ps<2^cD l ps:=by
 intro ps
 induction ps with
 |nil=>simp [fX,cD]
 |cons p ps ih=>
  have h1:=Rq l c p
  rw [pV,Nat.pow_add,fX]
  have h6:=Nat.mul_le_mul_left (2^nbA l p) (Nat.succ_le_of_lt ih)
  rw [Nat.succ_eq_add_one,Nat.mul_add,Nat.mul_one]at h6
  omega
theorem CV {n a b:Nat} (ha:a<2^n) (j:Nat):(a+2^n*b).testBit j=if j<n then a.testBit j else b.testBit (j-n):=by
 rw [Nat.add_comm,Nat.testBit_two_pow_mul_add _ ha]
theorem Tu {n a b c d:Nat} (ha:a<2^n) (hc:c<2^n):(a+2^n*b)&&&(c+2^n*d)=(a&&&c)+2^n*(b&&&d):=by
 apply Nat.eq_of_testBit_eq
 intro j
 rw [Nat.testBit_and,CV ha,CV hc,CV (Nat.lt_of_le_of_lt Nat.and_le_left ha)]
 split<;>rw [Nat.testBit_and]
theorem Sc {n a b c d:Nat} (ha:a<2^n) (hc:c<2^n):a+2^n*b=c+2^n*d↔a=c/\b=d:=by
 constructor
 ·intro h
  have h1:(a+2^n*b)%2^n=(c+2^n*d)%2^n:=by rw [h]
  have h2:(a+2^n*b)/2^n=(c+2^n*d)/2^n:=by rw [h]
  rw [Nat.add_mul_mod_self_left,Nat.add_mul_mod_self_left,Nat.mod_eq_of_lt ha,Nat.mod_eq_of_lt hc]at h1
  rw [Nat.add_mul_div_left _ _ (bK n),Nat.add_mul_div_left _ _ (bK n),Nat.div_eq_of_lt ha,Nat.div_eq_of_lt hc]at h2
  exact⟨h1,by omega⟩
 ·rintro ⟨rfl,rfl⟩;rfl
theorem CR {l:List NodeP} {f:Nat->Option (List Nat)}: ∀{ps:List Nat} (s:Nat),(∀p∈ps,∀v,f p=some v->v.length=aK l p/\ ∀x∈v,x<2^cj l p)->
  (s&&&fX l (fun p=>(f p).isSome) ps=dY l ps (kJ l f ps)↔ ∀(i p:Nat),ps[i]?=some p-> ∀v,f p=some v->(DQ l ps s).getD i []=v):=by
 intro ps
 induction ps with
 |nil=>intro s _;simp [fX,dY]
 |cons p ps ih=>
  intro s hf
  have ih':=ih (s/2^nbA l p) fun q hq=>hf q (by simp [hq])
  have hs:s=s%2^nbA l p+2^nbA l p*(s/2^nbA l p):=(Nat.mod_add_div _ _).symm
  have hm:=Nat.mod_lt s (bK (nbA l p))
  have hhead:fO (cj l p) ((f p).getD (List.replicate (aK l p) 0))<2^nbA l p:=by
   cases h:f p with
   |none=>simp only [Option.getD_none,G3];exact bK _
   |some v=>
    have h2:=hf p (by simp) v h
    have h1:=yk h2.2
    rw [h2.1]at h1;exact h1
  have e1:s&&&fX l (fun p=>(f p).isSome) (p::ps)=(s%2^nbA l p&&&(if(f p).isSome then 2^nbA l p-1 else 0))+2^nbA l p*(s/2^nbA l p&&&fX l (fun p=>(f p).isSome) ps):=by
   conv=>lhs;rw [hs]
   rw [fX,Tu hm (Rq l (fun p=>(f p).isSome) p)]
  have e2:dY l (p::ps) (kJ l f (p::ps))=fO (cj l p) ((f p).getD (List.replicate (aK l p) 0))+2^nbA l p*dY l ps (kJ l f ps):=rfl
  rw [e1,e2,Sc (Nat.lt_of_le_of_lt Nat.and_le_left hm) hhead,ih']
  constructor
  ·rintro ⟨h1,h2⟩ i q hq v hv
   cases i with
   |zero=>
    simp at hq;subst hq
    rw [hv]at h1
    simp only [Option.isSome_some,if_true,Option.getD_some,Nat.and_two_pow_sub_one_eq_mod,Nat.mod_mod]at h1
    have h3:=hf p (by simp) v hv
    simp only [DQ,List.getD_cons_zero]
    rw [<-Gz _ _ _ _ (Nat.le_refl _)]
    show lw _ _ (s%2^nbA l p)=v
    rw [h1,<-h3.1,DG h3.2]
   |succ i=>exact h2 i q (by simpa using hq) v hv
  ·intro h
   refine⟨?_,fun i q hq v hv=>h (i+1) q (by simpa using hq) v hv⟩
   cases hv:f p with
   |none=>simp [G3]
   |some v=>
    have h1:=h 0 p rfl v hv
    simp only [DQ,List.getD_cons_zero]at h1
    simp only [Option.isSome_some,if_true,Option.getD_some,Nat.and_two_pow_sub_one_eq_mod,Nat.mod_mod]
    rw [<-h1,Dt];rfl
theorem Dq {l:List NodeP} {f:Nat->Option (List Nat)} {ps:List Nat} (h: ∀p∈ps,∀v,f p=some v->v.length=aK l p/\ ∀x∈v,x<2^cj l p):j8 l ps (kJ l f ps):=by
 induction ps with
 |nil=>rfl
 |cons p ps ih=>
  refine⟨_,_,rfl,?_,?_,ih fun q hq=>h q (by simp [hq])⟩
  ·show ((f p).getD (List.replicate (aK l p) 0)).length=_
   cases hv:f p with
   |none=>simp
   |some v=>exact(h p (by simp) v hv).1
  ·show∀x∈(f p).getD (List.replicate (aK l p) 0),_
   cases hv:f p with
   |none=>
    intro x hx
    simp at hx
    rw [hx.2];exact bK _
   |some v=>exact(h p (by simp) v hv).2
theorem Oq {l:List NodeP} {f:Nat->Option (List Nat)} {ps:List Nat} (h: ∀p∈ps,∀v,f p=some v->v.length=aK l p/\ ∀x∈v,x<2^cj l p):
  dY l ps (kJ l f ps)&&&fX l (fun p=>(f p).isSome) ps=dY l ps (kJ l f ps):=by
 rw [CR _ h,rW (Dq h)]
 intro i p hp v hv
 unfold kJ
 rw [List.getD_eq_getElem?_getD,List.getElem?_map,hp]
 simp [hv]
theorem I5 {a b:Nat} (h: ∀j,(a.testBit j&&b.testBit j)=false):a&&&b=0:=by
 apply Nat.eq_of_testBit_eq;intro j;rw [Nat.testBit_and,h j,Nat.zero_testBit]
theorem Wx (l:List NodeP) (c:Nat->Bool): ∀ps,fX l c ps+fX l (fun p=> !c p) ps=2^cD l ps-1:=by
 intro ps
 induction ps with
 |nil=>simp [fX,cD]
 |cons p ps ih=>
  simp only [fX]
  rw [pV,Nat.pow_add]
  have h1:=bK (nbA l p)
  have h2:=bK (cD l ps)
  have h3:2^nbA l p*fX l c ps+2^nbA l p*fX l (fun p=> !c p) ps=2^nbA l p*2^cD l ps-2^nbA l p:=by
   rw [<-Nat.mul_add,ih,Nat.mul_sub,Nat.mul_one]
  have h4:=Nat.mul_le_mul_left (2^nbA l p) h2
  by_cases hc:c p=true
  ·simp only [hc,Bool.not_true,if_true,if_false,Bool.false_eq_true];omega
  ·have hc':c p=false:=by simpa using hc
   simp only [hc',Bool.not_false,if_true,if_false,Bool.false_eq_true];omega
theorem yq (n a b:Nat):cV n (fun j=>a.testBit j&&b.testBit j)+cV n (fun j=>a.testBit j&& !b.testBit j)=cV n a.testBit:=by
 induction n with
 |zero=>rfl
 |succ n ih=>
  simp only [cV]
  by_cases h1:a.testBit n=true<;>by_cases h2:b.testBit n=true<;>simp [h1,h2]<;>omega
theorem yO {n a:Nat} (h:a<2^n):cV n a.testBit=a:=jM h fun _ _=>rfl
theorem YI {n a x y:Nat} (ha:a<2^n) (hxy:x+y=2^n-1) (hx:x<2^n):(a&&&x)+(a&&&y)=a/\ ∀j,j<n->y.testBit j= !x.testBit j:=by
 have hb: ∀j,j<n->y.testBit j= !x.testBit j:=by
  have h1:=yq n (2^n-1) x
  rw [yO (Qo n),jM hx (fun i hi=>by rw [Nat.testBit_two_pow_sub_one];simp [hi])]at h1
  have h2:cV n (fun j=>(2^n-1).testBit j&& !x.testBit j)=y:=by omega
  intro j hj
  rw [<-h2,sJ _ _ _ hj,Nat.testBit_two_pow_sub_one]
  simp [hj]
 refine⟨?_,hb⟩
 have h1:=yq n a x
 rw [yO ha,Ir ha]at h1
 have h2:cV n (fun j=>a.testBit j&& !x.testBit j)=a&&&y:=by
  rw [<-Ir ha]
  exact te fun j hj=>by rw [hb j hj]
 omega
theorem Vw {n x y nx t:Nat} (hxy:x+y=2^n-1) (hx:x<2^n) (ht:t<2^n) (hnx:nx<2^n) (hn:nx&&&x=nx):t&&&x=nx↔ ∃f,f&&&y=f/\nx+f=t:=by
 have h1:=YI ht hxy hx
 constructor
 ·intro h
  exact⟨t&&&y,by rw [Nat.and_assoc,Nat.and_self],by omega⟩
 ·rintro ⟨f,hf,rfl⟩
  have hfl:f<2^n:=by omega
  have d: ∀j,(nx.testBit j&&f.testBit j)=false:=by
   intro j
   by_cases hj:j<n
   ·have e1:nx.testBit j=(nx.testBit j&&x.testBit j):=by rw [<-Nat.testBit_and,hn]
    have e2:f.testBit j=(f.testBit j&&y.testBit j):=by rw [<-Nat.testBit_and,hf]
    rw [e1,e2,h1.2 j hj]
    cases nx.testBit j<;>cases f.testBit j<;>cases x.testBit j<;>rfl
   ·rw [Nat.testBit_lt_two_pow (Nat.lt_of_lt_of_le hnx (Nat.pow_le_pow_right (by omega) (by omega)))];rfl
  have hor:nx+f=nx|||f:=by
   have hg: ∀m,cV m nx.testBit+cV m f.testBit=cV m (fun j=>nx.testBit j||f.testBit j):=by
    intro m
    induction m with
    |zero=>rfl
    |succ m ih=>
     have:=d m
     simp only [cV]
     by_cases h1:nx.testBit m=true<;>by_cases h2:f.testBit m=true<;>simp [h1,h2]at this⊢ <;>omega
   have:=hg n
   rw [yO hnx,yO hfl,QK hnx hfl]at this
   exact this
  rw [hor]
  have hfx:f&&&x=0:=I5 fun j=>by
   by_cases hj:j<n
   ·have e2:f.testBit j=(f.testBit j&&y.testBit j):=by rw [<-Nat.testBit_and,hf]
    rw [e2,h1.2 j hj]
    cases f.testBit j<;>cases x.testBit j<;>rfl
   ·rw [Nat.testBit_lt_two_pow (Nat.lt_of_lt_of_le hfl (Nat.pow_le_pow_right (by omega) (by omega)))];rfl
  rw [Nat.and_or_distrib_right,hn,hfx,Nat.or_zero]
def oK (n:Nat) (p:Nat->Bool):Bool:=(List.range n).any p
theorem cE {n:Nat} {p:Nat->Bool}:oK n p=true↔ ∃i,i<n/\p i=true:=by
 unfold oK;rw [List.any_eq_true]
 constructor
 ·rintro ⟨i,hi,h⟩;exact⟨i,List.mem_range.1 hi,h⟩
 ·rintro ⟨i,hi,h⟩;exact⟨i,List.mem_range.2 hi,h⟩
theorem pZ {n:Nat} {p:Nat->Bool}:oK n p=false↔ ∀i,i<n->p i=false:=by
 rw [Bool.eq_false_iff,ne_eq,cE]
 constructor
 ·intro h i hi
  cases hp:p i with
  |false=>rfl
  |true=>exact absurd ⟨i,hi,hp⟩ h
 ·rintro h ⟨i,hi,hp⟩;rw [h i hi]at hp;cases hp
structure aD where
 n:Nat
 k:Nat
 hold:Nat->Bool
 bad:Nat->Bool
 next:Nat->Nat
 fixed:Nat
 bfix:Nat
 bas:Nat
structure aD.Ok (σ:aD):Prop where
 nle:σ.n<=8
 kle:σ.k<=5
 fixed:σ.fixed<2^σ.n
 bfix:σ.bfix<2^σ.n
 next: ∀c,c<2^(σ.n+σ.k)->σ.next c<2^σ.n
 held: ∀c,c<2^(σ.n+σ.k)->σ.next c&&&σ.fixed=σ.next c
 bas:σ.bas<2^σ.n
 bheld:σ.bas&&&σ.bfix=σ.bas
namespace aD
def begins (σ:aD) (s:Nat):Bool:=decide (s&&&σ.bfix=σ.bas)
def ends (σ:aD) (c:Nat):Bool:=σ.hold c&&σ.bad c
def goes (σ:aD) (c t:Nat):Bool:=decide (t&&&σ.fixed=σ.next c)
def at_ (σ:aD) (s i:Nat):Nat:=i*2^σ.n+s
def some_ (σ:aD) (f:Nat->Nat->Bool) (s:Nat):Bool:=oK (2^σ.k) fun i=>f s (σ.at_ s i)
def leads (σ:aD) (S:Nat->Bool) (c:Nat):Bool:=oK (2^σ.n) fun t=>S t&&σ.goes c t
def fwd (σ:aD) (p S:Nat->Bool) (t:Nat):Bool:=oK (2^(σ.n+σ.k)) fun c=>(S (c%2^σ.n)&&p c)&&σ.goes c t
def bwd (σ:aD) (p S:Nat->Bool):Nat->Bool:=σ.some_ fun _ c=>p c&&σ.leads S c
theorem pow_nk (σ:aD):2^(σ.n+σ.k)=2^σ.k*2^σ.n:=by rw [Nat.pow_add,Nat.mul_comm]
theorem at_lt {σ:aD} {s i:Nat} (hs:s<2^σ.n) (hi:i<2^σ.k):σ.at_ s i<2^(σ.n+σ.k):=by
 rw [pow_nk];unfold at_
 have:=Nat.mul_le_mul_right (2^σ.n) (Nat.succ_le_of_lt hi)
 rw [Nat.succ_mul]at this;omega
theorem at_mod {σ:aD} {s i:Nat} (hs:s<2^σ.n):σ.at_ s i%2^σ.n=s:=by
 unfold at_;rw [Nat.mul_comm,Nat.mul_add_mod,Nat.mod_eq_of_lt hs]
theorem at_div {σ:aD} {s i:Nat} (hs:s<2^σ.n):σ.at_ s i/2^σ.n=i:=by
 unfold at_;rw [Nat.mul_comm,Nat.mul_add_div (bK _),Nat.div_eq_of_lt hs,Nat.add_zero]
theorem at_of {σ:aD} {c:Nat} (hc:c<2^(σ.n+σ.k)):c%2^σ.n<2^σ.n/\c/2^σ.n<2^σ.k/\σ.at_ (c%2^σ.n) (c/2^σ.n)=c:=by
 refine⟨Nat.mod_lt _ (bK _),?_,?_⟩
 ·rw [Nat.div_lt_iff_lt_mul (bK _),<-pow_nk];exact hc
 ·unfold at_;rw [Nat.mul_comm];exact Nat.div_add_mod _ _
theorem fwd_iff {σ:aD} {p S:Nat->Bool} {t:Nat}:σ.fwd p S t=true↔ ∃s i,s<2^σ.n/\i<2^σ.k/\S s=true/\p (σ.at_ s i)=true/\σ.goes (σ.at_ s i) t=true:=by
 unfold fwd;rw [cE]
 constructor
 ·rintro ⟨c,hc,h⟩
  simp only [Bool.and_eq_true]at h
  obtain⟨h1,h2,h3⟩:=at_of hc
  exact⟨_,_,h1,h2,h.1.1,by rw [h3];exact h.1.2,by rw [h3];exact h.2⟩
 ·rintro ⟨s,i,hs,hi,h1,h2,h3⟩
  refine⟨_,at_lt hs hi,?_⟩
  rw [at_mod hs,h1,h2,h3];rfl
def lay (σ:aD):Nat->(Nat->Bool)×(Nat->Bool)
 |0=>(σ.begins,fun _=>false)
 |i+1=>(fun t=>σ.fwd σ.hold (σ.lay i).1 t&& !((σ.lay i).2 t||(σ.lay i).1 t),fun t=>(σ.lay i).2 t||(σ.lay i).1 t)
def front (σ:aD) (i:Nat):Nat->Bool:=(σ.lay i).1
def seen (σ:aD) (i:Nat):Nat->Bool:=(σ.lay i).2
theorem seen_zero (σ:aD) (t:Nat):σ.seen 0 t=false:=rfl
theorem seen_succ (σ:aD) (i t:Nat):σ.seen (i+1) t=(σ.seen i t||σ.front i t):=rfl
theorem front_succ (σ:aD) (i t:Nat):σ.front (i+1) t=(σ.fwd σ.hold (σ.front i) t&& !σ.seen (i+1) t):=rfl
def live (σ:aD) (i:Nat):Bool:=oK (2^σ.n) (σ.front i)
def cntB (n:Nat) (S:Nat->Bool):Nat:=((List.range n).filter S).length
theorem cntB_le (n:Nat) (S:Nat->Bool):cntB n S<=n:=by unfold cntB;have:=List.length_filter_le S (List.range n);simpa using this
theorem cntB_succ (n:Nat) (S:Nat->Bool):cntB (n+1) S=cntB n S+if S n then 1 else 0:=by
 unfold cntB;rw [List.range_succ,List.filter_append,List.length_append]
 by_cases h:S n=true<;>simp [h]
theorem cntB_mono {n:Nat} {S T:Nat->Bool} (h: ∀i,i<n->S i=true->T i=true):cntB n S<=cntB n T:=by
 induction n with
 |zero=>simp [cntB]
 |succ n ih=>
  have:=ih fun i hi=>h i (by omega)
  have h2:=h n (by omega)
  rw [cntB_succ,cntB_succ]
  by_cases hs:S n=true
  ·rw [if_pos hs,if_pos (h2 hs)];omega
  ·rw [if_neg hs];omega
theorem cntB_more {n j:Nat} {S T:Nat->Bool} (h: ∀i,i<n->S i=true->T i=true) (hj:j<n) (h1:S j=false) (h2:T j=true):cntB n S+1<=cntB n T:=by
 induction n with
 |zero=>omega
 |succ n ih=>
  rw [cntB_succ,cntB_succ]
  by_cases e:j=n
  ·subst e
   have:=cntB_mono fun i hi=>h i (Nat.lt_succ_of_lt hi)
   rw [if_neg (by rw [h1];decide),if_pos h2];omega
  ·have:=ih (fun i hi=>h i (by omega)) (by omega)
   have h3:=h n (by omega)
   by_cases hs:S n=true
   ·rw [if_pos hs,if_pos (h3 hs)];omega
   ·rw [if_neg hs];omega
theorem front_new (σ:aD) (i t:Nat) (h:σ.front i t=true):σ.seen i t=false:=by
 cases i with
 |zero=>rfl
 |succ i=>rw [front_succ]at h;simp only [Bool.and_eq_true,Bool.not_eq_true']at h;exact h.2
theorem cnt_seen (σ:aD): ∀i,(∀j,j<i->σ.live j=true)->i<=cntB (2^σ.n) (σ.seen i):=by
 intro i
 induction i with
 |zero=>intro _;omega
 |succ i ih=>
  intro h
  have h1:=ih fun j hj=>h j (by omega)
  obtain⟨t,ht,h2⟩:=cE.1 (h i (by omega))
  have:=cntB_more (n:=2^σ.n) (j:=t) (S:=σ.seen i) (T:=σ.seen (i+1)) (fun j _ hj=>by rw [seen_succ,hj];rfl) ht (front_new σ i t h2) (by rw [seen_succ,h2,Bool.or_true])
  omega
theorem live_le {σ:aD} {i:Nat} (h: ∀j,j<i->σ.live j=true):i<=2^σ.n:=Nat.le_trans (cnt_seen σ i h) (cntB_le _ _)
theorem dead_after {σ:aD} {i:Nat} (h:σ.live i=false): ∀d,σ.live (i+d)=false:=by
 intro d
 induction d with
 |zero=>exact h
 |succ d ih=>
  unfold live at ih⊢
  rw [pZ]at ih⊢
  intro t ht
  rw [<-Nat.add_assoc,front_succ]
  have:σ.fwd σ.hold (σ.front (i+d)) t=false:=by
   cases hf:σ.fwd σ.hold (σ.front (i+d)) t with
   |false=>rfl
   |true=>
    obtain⟨s,x,hs,_,h1,_⟩:=fwd_iff.1 hf
    rw [ih s hs]at h1;cases h1
  rw [this];rfl
def nLay (σ:aD):Nat:=(List.range (2^σ.n+1)).findIdx fun i=> !σ.live i
theorem nLay_of {σ:aD} {i:Nat} (h1: ∀j,j<i->σ.live j=true) (h2:σ.live i=false):σ.nLay=i:=by
 have hle:=live_le h1
 unfold nLay
 rw [List.findIdx_eq (by simp;omega)]
 refine⟨by simp [h2],fun j hj=>?_⟩
 simp [h1 j hj]
theorem nLay_live {σ:aD}:(∀j,j<σ.nLay->σ.live j=true)/\σ.live σ.nLay=false:=by
 obtain⟨i,h1,h2⟩: ∃i,(∀j,j<i->σ.live j=true)/\σ.live i=false:=by
  have key: ∀m i,(∀j,j<i->σ.live j=true)->m=2^σ.n+1-i-> ∃i,(∀j,j<i->σ.live j=true)/\σ.live i=false:=by
   intro m
   induction m with
   |zero=>intro i h hm;have:=live_le h;omega
   |succ m ih=>
    intro i h hm
    cases hl:σ.live i with
    |false=>exact⟨i,h,hl⟩
    |true=>exact ih (i+1) (fun j hj=>by
      by_cases e:j=i
      ·subst e;exact hl
      ·exact h j (by omega)) (by omega)
  exact key _ 0 (fun j hj=>by omega) rfl
 rw [nLay_of h1 h2];exact⟨h1,h2⟩
theorem nLay_le (σ:aD):σ.nLay<=2^σ.n:=live_le nLay_live.1
theorem front_lt {σ:aD} {i s:Nat} (hs:s<2^σ.n) (h:σ.front i s=true):i<σ.nLay:=by
 rcases Nat.lt_or_ge i σ.nLay with h1|h1
 ·exact h1
 ·have:=dead_after (nLay_live (σ:=σ)).2 (i-σ.nLay)
  rw [show σ.nLay+(i-σ.nLay)=i by omega]at this
  unfold live at this
  rw [pZ]at this
  rw [this s hs]at h;cases h
theorem begins_at {σ:aD} (h:σ.Ok):σ.begins σ.bas=true:=by unfold begins;rw [decide_eq_true_eq];exact h.bheld
theorem nLay_pos {σ:aD} (h:σ.Ok):0<σ.nLay:=front_lt h.bas (begins_at h)
def reach (σ:aD):Nat->Bool:=σ.seen σ.nLay
def endsAt (σ:aD):Nat->Bool:=σ.some_ fun _ c=>σ.ends c
def hits (σ:aD) (i:Nat):Bool:=oK (2^σ.n) fun s=>σ.front i s&&σ.endsAt s
def depth (σ:aD):Option Nat:=(List.range σ.nLay).find? fun i=>σ.hits i
def back (σ:aD):Nat->Nat->Bool
 |0=>σ.endsAt
 |i+1=>σ.some_ fun s c=>σ.back i s||(σ.hold c&&σ.leads (σ.back i) c)
def clean (σ:aD) (c:Nat):Bool:=σ.hold c&& !σ.bad c
def back2 (σ:aD):Nat->Nat->Bool
 |0=>σ.endsAt
 |i+1=>σ.bwd σ.clean (σ.back2 i)
def kind (σ:aD) (k:Nat):Int:=if(match σ.depth with|some d=>decide (d<k)|none=>false)then 1 else if oK (2^σ.n) (σ.back2 k)then 2 else 0
end aD
theorem WR {x:Int} {n:Nat} (hn:n<=64):nQ x (n:Int)=x/((2^n:Nat):Int):=by
 unfold nQ
 have h1:min (Int.toNat (n:Int)) IntKind.i64.bits=n:=by simp [IntKind.bits];omega
 rw [h1,Int.fdiv_eq_ediv_of_nonneg _ (Int.pow_nonneg (by decide))]
 simp
theorem ig {x:Int} {w:Nat} (hw:w<=62):nG x (((2^w:Nat):Int)-1)=((jE w x:Nat):Int):=by
 have h2:=mV hw
 have hp:=bK w
 have hm:(((2^w:Nat):Int)-1)=((2^w-1:Nat):Int):=by omega
 rw [hm]
 show IntKind.i64.wrap _=_
 have h1:(BitVec.ofInt IntKind.i64.bits x&&&BitVec.ofInt IntKind.i64.bits ((2^w-1:Nat):Int)).toNat=jE w x:=by
  show (BitVec.ofInt 64 x&&&BitVec.ofInt 64 ((2^w-1:Nat):Int)).toNat=jE w x
  rw [BitVec.ofInt_natCast,BitVec.toNat_and,BitVec.toNat_ofNat,BitVec.toNat_ofInt,Nat.mod_eq_of_lt (by omega),Nat.and_two_pow_sub_one_eq_mod]
  have hd:((2^w:Nat):Int)∣((2^64:Nat):Int):=Int.natCast_dvd_natCast.2 (Nat.pow_dvd_pow 2 (by omega))
  have h3:=Int.emod_emod_of_dvd x hd
  have h4:=Int.emod_nonneg x (b:=((2^64:Nat):Int)) (by decide)
  unfold jE
  rw [<-h3]
  generalize x%((2^64:Nat):Int)=y at*
  obtain⟨z,rfl⟩: ∃z:Nat,y=z:=⟨y.toNat,by omega⟩
  rw [<-Int.natCast_emod,Int.toNat_natCast,Int.toNat_natCast]
 rw [h1]
 exact eO (by have:=jJ w x;omega)
theorem Wo {w:Nat} (hw:w<=62):au (-1) (w:Int)= -((2^w:Nat):Int):=by
 have h2:=mV hw
 unfold au
 have h1:min (Int.toNat (w:Int)) IntKind.i64.bits=w:=by simp [IntKind.bits];omega
 rw [h1]
 have h3:(-1:Int)*2^w= -((2^w:Nat):Int):=by simp
 have key: ∀N:Nat,N<=4611686018427387904->W (-(N:Int))= -(N:Int):=fun N h=>bU (by omega) (by omega)
 rw [h3];exact key _ h2
theorem z8 {w:Nat} (hw:w<=16):2^w<=65536:=by
 have:=Nat.pow_le_pow_right (n:=2) (by omega) hw
 simpa using this
theorem jT {w v:Int}:jf w v=true↔(1<=w/\w<=16)/\0<=v/\v<((2^w.toNat:Nat):Int):=by
 unfold jf
 rw [decide_eq_true_eq]
 constructor
 ·rintro ⟨h1,h2,h3⟩;exact⟨h1,h2,by omega⟩
 ·rintro ⟨h1,h2,h3⟩;exact⟨h1,h2,by omega⟩
theorem dI {h:Hp} {w:Nat} {R:Value->Hp->Prop} (hw:w<=62) (k:R (I (((2^w:Nat):Int)-1)) h):cH #[I w] h R:=by
 apply Nx
 refine uf_ ?_
 have:=mV hw
 have hp:=bK w
 rw [if_neg (by omega),bJ hw,bU (by omega) (by omega)]
 exact k
theorem BZ {h:Hp} {w:Int} {R:Value->Hp->Prop} (k:R (.bool (decide (1<=w/\w<=16))) h):oy #[I w] h R:=by
 apply F8
 refine uf_ ?_
 exact fK ⟨_,rfl,k⟩
theorem vu {h:Hp} {w:Int} {R:Value->Hp->Prop} (k:R (.bool (decide (1<=w/\w<=16))) h):kZ #[I w] h R:=by
 apply Hv
 refine uf_ ?_
 exact dH ⟨_,rfl,k⟩
theorem Ix (w v:Int):jf w v=(decide (1<=w/\w<=16)&&decide (0<=v/\v<=((2^w.toNat:Nat):Int)-1)):=by
 unfold jf;rw [Bool.eq_iff_iff];simp
theorem CQ {h:Hp} {w v:Int} {R:Value->Hp->Prop} (k:R (.bool (jf w v)) h):ug #[I w,I v] h R:=by
 apply IJ
 refine uf_ ?_
 rw [Ix]at k
 refine BZ ⟨_,rfl,ac (fun e=>?_) (fun e=>?_)⟩
 ·rw [e,Bool.true_and]at k
  have e':1<=w/\w<=16:=by simpa using e
  obtain⟨n,rfl⟩: ∃n:Nat,w=n:=⟨w.toNat,by omega⟩
  rw [Int.toNat_natCast]at k
  exact dI (by omega) ⟨_,rfl,fK ⟨_,rfl,k⟩⟩
 ·rw [e,Bool.false_and]at k;exact k
theorem cy {h:Hp} {w v:Int} {R:Value->Hp->Prop} (k:R (.bool (jf w v)) h):dv #[I w,I v] h R:=by
 apply I3
 refine uf_ ?_
 rw [Ix]at k
 refine vu ⟨_,rfl,ac (fun e=>?_) (fun e=>?_)⟩
 ·rw [e,Bool.true_and]at k
  have e':1<=w/\w<=16:=by simpa using e
  obtain⟨n,rfl⟩: ∃n:Nat,w=n:=⟨w.toNat,by omega⟩
  rw [Int.toNat_natCast]at k
  have:=mV (n:=n) (by omega)
  have hp:=bK n
  rw [cu (by omega),if_neg (by omega),bJ (by omega),bU (by omega) (by omega)]
  exact dH ⟨_,rfl,k⟩
 ·rw [e,Bool.false_and]at k;exact k
def WO (w a:Nat):Prop:=(1<=w/\w<=16)/\a<2^w
theorem WO.ok {w a:Nat} (e:WO w a):jf (w:Int) (a:Int)=true:=jT.2 ⟨by have:=e.1;omega,by omega,by rw [Int.toNat_natCast];have:=e.2;omega⟩
theorem WO.pow {w a:Nat} (e:WO w a):2^w<=65536:=z8 e.1.2
theorem nu {h:Hp} {w a:Nat} {R:Value->Hp->Prop} (e:WO w a) (k:R (I (sgn w a)) h):hG #[I w,I a] h R:=by
 apply JA
 refine uf_ ?_
 obtain⟨⟨h1,h2⟩,ha⟩:=e
 have hp:=qA h1
 have h16:=z8 h2
 have w1:W ((w:Int)-1)=((w-1:Nat):Int):=by rw [bU (by omega) (by omega)];omega
 rw [w1,if_neg (by omega),if_neg (by omega),jx (by omega)]
 unfold sgn at k
 by_cases hs:2^(w-1)<=a
 ·have e1:a/2^(w-1)=1:=by rw [Nat.div_eq_iff (bK _)];omega
  rw [e1,ik (by omega) (by omega),Nat.one_mul,bU (by omega) (by omega)]
  rw [if_pos hs]at k;exact k
 ·have e1:a/2^(w-1)=0:=Nat.div_eq_of_lt (by omega)
  rw [e1,ik (by omega) (by omega),Nat.zero_mul,bU (by omega) (by omega)]
  rw [if_neg hs]at k
  simpa using k
theorem iW {h:Hp} {w a:Nat} {R:Value->Hp->Prop} (e:WO w a) (k:R (I (sgn w a)) h):eC #[I w,I a] h R:=by
 apply BB
 refine uf_ ?_
 obtain⟨⟨h1,h2⟩,ha⟩:=e
 have hp:=qA h1
 have h16:=z8 h2
 have w1:W ((w:Int)-1)=((w-1:Nat):Int):=by rw [bU (by omega) (by omega)];omega
 refine cy ⟨_,rfl,aE (by rw [WO.ok ⟨⟨h1,h2⟩,ha⟩];rfl) ?_⟩
 rw [w1,cu (by omega),if_neg (by omega),bJ (by omega)]
 unfold sgn at k
 refine ac (fun e=>?_) (fun e=>?_)
 ·have hs:2^(w-1)<=a:=by
   have:=of_decide_eq_true e;omega
  rw [if_pos hs]at k
  rw [cu (by omega),if_neg (by omega),bJ (by omega),bU (by omega) (by omega)]
  exact k
 ·have hs: ¬2^(w-1)<=a:=by
   have:=of_decide_eq_false e;omega
  rw [if_neg hs]at k;exact k
theorem Pm (w:Nat) (n:Int):((jE w n:Nat):Int)=if Int.tmod n ((2^w:Nat):Int)<0 then Int.tmod n ((2^w:Nat):Int)+((2^w:Nat):Int)else Int.tmod n ((2^w:Nat):Int):=by
 rw [HX]
 have hp:(0:Int)<((2^w:Nat):Int):=Int.ofNat_lt.2 (bK w)
 have h1:=Int.emod_nonneg n (b:=((2^w:Nat):Int)) (by omega)
 have h2:=Int.emod_lt_of_pos n hp
 have h3:=Int.tmod_eq_emod (a:=n) (b:=((2^w:Nat):Int))
 have h4:n%((2^w:Nat):Int)=0->((2^w:Nat):Int)∣n:=Int.dvd_of_emod_eq_zero
 rw [h3]
 generalize ((2^w:Nat):Int)=N at*
 by_cases hn:0<=n\/N∣n
 ·rw [if_pos hn];split<;>omega
 ·have h5:n%N≠0:=fun e=>hn (.inr (h4 e))
  rw [if_neg hn]
  generalize n%N=r at*
  split<;>omega
theorem g9 {h:Hp} {w:Nat} {n:Int} {R:Value->Hp->Prop} (hw:1<=w/\w<=16) (k:R (I (jE w n)) h):dW #[I w,I n] h R:=by
 apply Ff
 refine uf_ ?_
 have h16:=z8 hw.2
 have hp:=bK w
 have hlt:=jJ w n
 have ht:=Pm w n
 refine vu ⟨_,rfl,aE (by simp;omega) ?_⟩
 rw [cu (by omega),if_neg (by omega),bJ (by omega),if_neg (by omega)]
 refine ac (fun e=>?_) (fun e=>?_)
 ·have e':=of_decide_eq_true e
  rw [if_pos e']at ht
  rw [if_neg (by omega),bU (by omega) (by omega),<-ht];exact k
 ·have e':=of_decide_eq_false e
  rw [if_neg e']at ht
  rw [<-ht];exact k
theorem Eg {h:Hp} {w a:Nat} {R:Value->Hp->Prop} (hw:w<=16) (k:R (I (jS w a)) h):pY #[I w,I a] h R:=by
 apply IP
 refine uf_ ?_
 refine av w (fun i vs h'=>vs= [I w,I a,I (jS i a),I i]/\h'=h) ⟨rfl,rfl⟩ ?_
 rintro i _ _ next hi ⟨rfl,rfl⟩ hn
 refine⟨_,_,_,_,rfl,?_⟩
 by_cases hlt:i<w
 ·refine aM (by simp [hlt]) (jk (by omega) ⟨_,rfl,?_⟩)
  have hl:=NB i a
  have e:W ((jS i a:Int)+(if a.testBit i then 1 else 0))=((jS (i+1) a:Nat):Int):=by
   rw [bU (by split<;>omega) (by split<;>omega)]
   simp only [jS]
   split<;>simp
  rw [e,aC (by omega)]
  exact hn hlt _ _ ⟨rfl,rfl⟩
 ·have:i=w:=by omega
  subst this
  exact aE (by simp) k
theorem NK {a b:Nat} (ha:a<18446744073709551616) (hb:b<18446744073709551616):aZ .and .u64 (a:Int) (b:Int)=((a&&&b:Nat):Int):=by
 show IntKind.u64.wrap _=_
 have h1:(BitVec.ofInt IntKind.u64.bits (a:Int)&&&BitVec.ofInt IntKind.u64.bits (b:Int)).toNat=a&&&b:=by
  show (BitVec.ofInt 64 (a:Int)&&&BitVec.ofInt 64 (b:Int)).toNat=a&&&b
  rw [BitVec.ofInt_natCast,BitVec.ofInt_natCast,BitVec.toNat_and,BitVec.toNat_ofNat,BitVec.toNat_ofNat,Nat.mod_eq_of_lt (by omega),Nat.mod_eq_of_lt (by omega)]
 rw [h1,IntKind.wrap_u64]
 have:=Nat.and_le_left (n:=a) (m:=b)
 omega
def UG (x:Nat):Nat:=(x/2&&&6148914691236517205)+(x&&&6148914691236517205)
def Ur (x:Nat):Nat:=(x/4&&&3689348814741910323)+(x&&&3689348814741910323)
def WE (x:Nat):Nat:=(x/16+x)&&&1085102592571150095
def Vx (x:Nat):Nat:=x/256+x
def UA (x:Nat):Nat:=x/65536+x
def WB (x:Nat):Nat:=x/4294967296+x
def IG (x:Nat):Nat:=WB (UA (Vx (WE (Ur (UG x)))))&&&127
def O1 (x:Nat):Bool:=Nat.beq (IG (2*x)) (IG x)&&Nat.beq (IG (2*x+1)) (IG x+1)
def ON (hi:Nat):Nat->Bool
 |0=>true
 |n+1=>O1 (hi*256+n)&&ON hi n
def Rj :Nat->Bool
 |0=>true
 |n+1=>ON n 256&&Rj n
theorem YS :Rj 128=true:=by kernel_rfl
theorem U7 {hi:Nat}: ∀n,ON hi n=true-> ∀i,i<n->O1 (hi*256+i)=true:=by
 intro n
 induction n with
 |zero=>intro _ i h;omega
 |succ n ih=>
  intro h i hi
  simp only [ON,Bool.and_eq_true]at h
  by_cases e:i=n
  ·subst e;exact h.1
  ·exact ih h.2 i (by omega)
theorem VQ : ∀n,Rj n=true-> ∀i,i<n->ON i 256=true:=by
 intro n
 induction n with
 |zero=>intro _ i h;omega
 |succ n ih=>
  intro h i hi
  simp only [Rj,Bool.and_eq_true]at h
  by_cases e:i=n
  ·subst e;exact h.1
  ·exact ih h.2 i (by omega)
theorem Wa {x:Nat} (h:x<32768):IG (2*x)=IG x/\IG (2*x+1)=IG x+1:=by
 have h1:=VQ 128 YS (x/256) (by omega)
 have h2:=U7 256 h1 (x%256) (Nat.mod_lt _ (by omega))
 rw [show x/256*256+x%256=x by omega]at h2
 simp only [O1,Bool.and_eq_true]at h2
 exact⟨Nat.eq_of_beq_eq_true h2.1,Nat.eq_of_beq_eq_true h2.2⟩
theorem Qc (a:Nat): ∀w,jS (w+1) a=a%2+jS w (a/2):=by
 intro w
 induction w with
 |zero=>
  simp only [jS,Nat.testBit_zero]
  rcases Nat.mod_two_eq_zero_or_one a with h|h<;>simp [h]
 |succ w ih=>
  rw [jS,ih,jS,Nat.testBit_succ];omega
theorem YA : ∀w,w<=16-> ∀x,x<2^w->IG x=jS w x:=by
 intro w
 induction w with
 |zero=>intro _ x hx;have:x=0:=by simpa using hx
        subst this;rfl
 |succ w ih=>
  intro hw x hx
  have h16:2^w<=32768:=by
   have:=Nat.pow_le_pow_right (n:=2) (by omega) (show w<=15 by omega)
   simpa using this
  have hp:2^(w+1)=2*2^w:=by rw [Nat.pow_succ];omega
  have h1:=ih (by omega) (x/2) (by omega)
  have h2:=Wa (x:=x/2) (by omega)
  rw [Qc,<-h1]
  rcases Nat.mod_two_eq_zero_or_one x with h|h
  ·have e:2*(x/2)=x:=by omega
   rw [e]at h2;rw [h2.1,h];omega
  ·have e:2*(x/2)+1=x:=by omega
   rw [e]at h2;rw [h2.2,h];omega
theorem Lg {a k:Nat} (hk:k<=64):Int.fdiv (a:Int) (2^(min (Int.toNat (k:Int)) (IntKind.bits .u64)))=((a/2^k:Nat):Int):=by
 have h1:min (Int.toNat (k:Int)) (IntKind.bits .u64)=k:=by simp [IntKind.bits];omega
 rw [h1,Int.fdiv_eq_ediv_of_nonneg _ (Int.pow_nonneg (by decide))]
 simp
def q1 (x:Int):Int:=IntKind.wrap .u64 ((aZ .and .u64 (Int.fdiv x (2^(min (Int.toNat 1) (IntKind.bits .u64)))) 6148914691236517205)+(aZ .and .u64 x 6148914691236517205))
def q2 (x:Int):Int:=IntKind.wrap .u64 ((aZ .and .u64 (Int.fdiv x (2^(min (Int.toNat 2) (IntKind.bits .u64)))) 3689348814741910323)+(aZ .and .u64 x 3689348814741910323))
def q3 (x:Int):Int:=aZ .and .u64 (IntKind.wrap .u64 ((Int.fdiv x (2^(min (Int.toNat 4) (IntKind.bits .u64))))+x)) 1085102592571150095
def q4 (x:Int):Int:=IntKind.wrap .u64 (x+Int.fdiv x (2^(min (Int.toNat 8) (IntKind.bits .u64))))
def q5 (x:Int):Int:=IntKind.wrap .u64 (x+Int.fdiv x (2^(min (Int.toNat 16) (IntKind.bits .u64))))
def q6 (x:Int):Int:=IntKind.wrap .u64 (x+Int.fdiv x (2^(min (Int.toNat 32) (IntKind.bits .u64))))
theorem H1 {h:Hp} {a:Nat} {R:Value->Hp->Prop} (ha:a<65536) (k:R (I (jS 16 a)) h):kE #[.int .u64 a] h R:=by
 apply wY
 refine uf_ ?_
 apply uP
 refine uf_ ?_
 refine⟨_,rfl,?_⟩
 have e1:q1 a=((UG a:Nat):Int):=by
  have l1:=Nat.and_le_left (n:=a/2) (m:=6148914691236517205)
  have l2:=Nat.and_le_left (n:=a) (m:=6148914691236517205)
  have:=Lg (a:=a) (k:=1) (by omega)
  unfold q1 UG
  rw [show (Int.toNat 1)=Int.toNat ((1:Nat):Int)from rfl,this,Nat.pow_one]
  rw [show (6148914691236517205:Int)=((6148914691236517205:Nat):Int)from rfl,NK (by omega) (by omega),NK (by omega) (by omega),<-Int.natCast_add,cu (by omega)]
 have b1:UG a<=98304:=by
  have l1:=Nat.and_le_left (n:=a/2) (m:=6148914691236517205)
  have l2:=Nat.and_le_left (n:=a) (m:=6148914691236517205)
  unfold UG;omega
 have e2: ∀x:Nat,x<=98304->q2 x=((Ur x:Nat):Int)/\Ur x<=196608:=by
  intro x hx
  have l1:=Nat.and_le_left (n:=x/4) (m:=3689348814741910323)
  have l2:=Nat.and_le_left (n:=x) (m:=3689348814741910323)
  have:=Lg (a:=x) (k:=2) (by omega)
  refine⟨?_,by unfold Ur;omega⟩
  unfold q2 Ur
  rw [show (Int.toNat 2)=Int.toNat ((2:Nat):Int)from rfl,this,show 2^2=4 from rfl]
  rw [show (3689348814741910323:Int)=((3689348814741910323:Nat):Int)from rfl,NK (by omega) (by omega),NK (by omega) (by omega),<-Int.natCast_add,cu (by omega)]
 have e3: ∀x:Nat,x<=196608->q3 x=((WE x:Nat):Int)/\WE x<=393216:=by
  intro x hx
  have l1:=Nat.and_le_left (n:=x/16+x) (m:=1085102592571150095)
  have:=Lg (a:=x) (k:=4) (by omega)
  refine⟨?_,by unfold WE;omega⟩
  unfold q3 WE
  rw [show (Int.toNat 4)=Int.toNat ((4:Nat):Int)from rfl,this,show 2^4=16 from rfl,<-Int.natCast_add,cu (by omega)]
  rw [show (1085102592571150095:Int)=((1085102592571150095:Nat):Int)from rfl,NK (by omega) (by omega)]
 have e4: ∀x:Nat,x<=393216->q4 x=((Vx x:Nat):Int)/\Vx x<=786432:=by
  intro x hx
  have:=Lg (a:=x) (k:=8) (by omega)
  refine⟨?_,by unfold Vx;omega⟩
  unfold q4 Vx
  rw [show (Int.toNat 8)=Int.toNat ((8:Nat):Int)from rfl,this,show 2^8=256 from rfl,<-Int.natCast_add,cu (by omega),Nat.add_comm]
 have e5: ∀x:Nat,x<=786432->q5 x=((UA x:Nat):Int)/\UA x<=1572864:=by
  intro x hx
  have:=Lg (a:=x) (k:=16) (by omega)
  refine⟨?_,by unfold UA;omega⟩
  unfold q5 UA
  rw [show (Int.toNat 16)=Int.toNat ((16:Nat):Int)from rfl,this,show 2^16=65536 from rfl,<-Int.natCast_add,cu (by omega),Nat.add_comm]
 have e6: ∀x:Nat,x<=1572864->q6 x=((WB x:Nat):Int)/\WB x<=3145728:=by
  intro x hx
  have:=Lg (a:=x) (k:=32) (by omega)
  refine⟨?_,by unfold WB;omega⟩
  unfold q6 WB
  rw [show (Int.toNat 32)=Int.toNat ((32:Nat):Int)from rfl,this,show 2^32=4294967296 from rfl,<-Int.natCast_add,cu (by omega),Nat.add_comm]
 have b2:=(e2 _ b1).2
 have b3:=(e3 _ b2).2
 have b4:=(e4 _ b3).2
 have b5:=(e5 _ b4).2
 have b6:=(e6 _ b5).2
 show R (I (nG (W (q6 (q5 (q4 (q3 (q2 (q1 a))))))) 127)) h
 rw [e1,(e2 _ b1).1,(e3 _ b2).1,(e4 _ b3).1,(e5 _ b4).1,(e6 _ b5).1,eO (by omega),show (127:Int)=((127:Nat):Int)from rfl,sc (by omega) (by omega)]
 have:=YA 16 (by omega) a (by simpa using ha)
 unfold IG at this
 rw [this];exact k
theorem Qp {w a:Nat} (ha:a<2^w): ∀d,jS (w+d) a=jS w a:=by
 intro d
 induction d with
 |zero=>rfl
 |succ d ih=>
  have hz:a.testBit (w+d)=false:=Nat.testBit_lt_two_pow (Nat.lt_of_lt_of_le ha (Nat.pow_le_pow_right (by omega) (by omega)))
  rw [<-Nat.add_assoc,jS,ih,hz]
  simp
theorem VV {h:Hp} {kind:Int} {w a:Nat} {R:Value->Hp->Prop} (hk:1<=kind/\kind<=5) (e:WO w a)
  (k:R (.tuple #[I (xE kind w a).1,I (xE kind w a).2]) h):AY #[I kind,I w,I a] h R:=by
 apply P0
 refine uf_ ?_
 have h16:=e.pow
 have hp:=bK w
 have ha:=e.2
 have hw:=e.1
 unfold xE at k
 refine ac (fun e1=>?_) (fun e1=>ac (fun e2=>?_) (fun e2=>ac (fun e3=>?_) (fun e3=>ac (fun e4=>?_) (fun e4=>?_))))
 ·rw [if_pos (by simpa using e1)]at k
  refine dI (by omega) ⟨_,rfl,?_⟩
  have:W ((((2^w:Nat):Int)-1)-a)=((2^w-1-a:Nat):Int):=by rw [bU (by omega) (by omega)];omega
  rw [this];exact k
 ·rw [if_neg (by simpa using e1),if_pos (by simpa using e2)]at k
  refine dI (by omega) ⟨_,rfl,?_⟩
  rw [bU (n:=0-(a:Int)) (by omega) (by omega),ig (by omega),Int.zero_sub]
  exact k
 ·rw [if_neg (by simpa using e1),if_neg (by simpa using e2),if_pos (by simpa using e3)]at k
  refine yj ⟨_,rfl,?_⟩
  by_cases h0:a=0
  ·subst h0;simpa using k
  ·have:((a:Int) !=0)=true:=by simpa using h0
   rw [this];rw [if_neg h0]at k;simpa using k
 ·rw [if_neg (by simpa using e1),if_neg (by simpa using e2),if_neg (by simpa using e3),if_pos (by simpa using e4)]at k
  refine dI (by omega) ⟨_,rfl,yj ⟨_,rfl,?_⟩⟩
  by_cases h0:a=2^w-1
  ·have:((a:Int)==((2^w:Nat):Int)-1)=true:=by rw [beq_iff_eq];omega
   rw [this];rw [if_pos h0]at k;simpa using k
  ·have:((a:Int)==((2^w:Nat):Int)-1)=false:=by rw [beq_eq_false_iff_ne];omega
   rw [this];rw [if_neg h0]at k;simpa using k
 ·rw [if_neg (by simpa using e1),if_neg (by simpa using e2),if_neg (by simpa using e3),if_neg (by simpa using e4)]at k
  rw [cu (by omega)]
  refine H1 (by omega) ⟨_,rfl,?_⟩
  have:=Qp ha (16-w)
  rw [show w+(16-w)=16 by omega]at this
  rw [this,Ig];exact k
theorem BT {h:Hp} {kind:Int} {w a:Nat} {R:Value->Hp->Prop} (hk:1<=kind/\kind<=5) (e:WO w a)
  (k:R (.tuple #[I (xE kind w a).1,I (xE kind w a).2, .bool true]) h):nO #[I kind,I w,I a] h R:=by
 apply GZ
 refine uf_ ?_
 have h16:=e.pow
 have hp:=bK w
 have ha:=e.2
 have hw:=e.1
 unfold xE at k
 refine cy ⟨_,rfl,aE (by rw [e.ok];rfl) ?_⟩
 refine ac (fun e1=>?_) (fun e1=>ac (fun e2=>?_) (fun e2=>ac (fun e3=>?_) (fun e3=>ac (fun e4=>?_) (fun e4=>?_))))
 ·rw [if_pos (by simpa using e1)]at k
  rw [cu (by omega),if_neg (by omega),bJ (by omega),bU (n:=((2^w:Nat):Int)-1) (by omega) (by omega)]
  have:W ((((2^w:Nat):Int)-1)-a)=((2^w-1-a:Nat):Int):=by rw [bU (by omega) (by omega)];omega
  rw [this];exact k
 ·rw [if_neg (by simpa using e1),if_pos (by simpa using e2)]at k
  rw [bU (n:=0-(a:Int)) (by omega) (by omega),Int.zero_sub]
  exact g9 hw ⟨_,rfl,k⟩
 ·rw [if_neg (by simpa using e1),if_neg (by simpa using e2),if_pos (by simpa using e3)]at k
  refine pI ⟨_,rfl,?_⟩
  by_cases h0:a=0
  ·subst h0;simpa using k
  ·have:decide ((a:Int)>0)=true:=by simp;omega
   rw [this];rw [if_neg h0]at k;simpa using k
 ·rw [if_neg (by simpa using e1),if_neg (by simpa using e2),if_neg (by simpa using e3),if_pos (by simpa using e4)]at k
  refine Eg (by omega) ⟨_,rfl,pI ⟨_,rfl,?_⟩⟩
  have hf:=Py ha
  by_cases h0:a=2^w-1
  ·have:(((jS w a:Nat):Int)==(w:Int))=true:=by rw [beq_iff_eq,hf.2 h0]
   rw [this];rw [if_pos h0]at k;simpa using k
  ·have:(((jS w a:Nat):Int)==(w:Int))=false:=by rw [beq_eq_false_iff_ne];intro he;exact h0 (hf.1 (by omega))
   rw [this];rw [if_neg h0]at k;simpa using k
 ·rw [if_neg (by simpa using e1),if_neg (by simpa using e2),if_neg (by simpa using e3),if_neg (by simpa using e4)]at k
  have:kind=5:=by
   have h1:kind≠1:=by simpa using e1
   have h2:kind≠2:=by simpa using e2
   have h3:kind≠3:=by simpa using e3
   have h4:kind≠4:=by simpa using e4
   omega
  refine aM (by simpa using this) (Eg (by omega) ⟨_,rfl,?_⟩)
  rw [Ig];exact k
theorem eU (a b:Nat):Int.tmod (a:Int) (b:Int)=((a%b:Nat):Int):=(Int.ofNat_tmod a b).symm
theorem GN (a b:Nat):Int.tdiv (a:Int) (b:Int)=((a/b:Nat):Int):=(Int.ofNat_tdiv a b).symm
theorem DU {a b:Nat} (ha:a<65536) (hb:b<=65536):a*b<=4294967296:=by
 have:=Nat.mul_le_mul (Nat.le_of_lt ha) hb
 omega
theorem Et {w a:Nat} (e:WO w a): -65536<=sgn w a/\sgn w a<=65536:=by
 have h:=JV e.1.1 e.2
 have hp:=qA e.1.1
 have h16:=e.pow
 omega
theorem bk {a b:Int} (e:(a==b)=false): ¬a=b:=by simpa using e
theorem bV {a b:Int} (e:(a==b)=true):a=b:=by simpa using e
theorem Ed {h:Hp} {w a p:Nat} {R:Value->Hp->Prop} (e:WO w a) (k:R (I (Gj w a (p%w))) h):qc #[I w,I a,I p] h R:=by
 apply Je
 refine uf_ ?_
 obtain⟨⟨h1,h2⟩,ha⟩:=e
 have h16:=z8 h2
 have hm:p%w<w:=Nat.mod_lt _ (by omega)
 have hpm:=z8 (w:=p%w) (by omega)
 have ht:Int.tmod (p:Int) (w:Int)=((p%w:Nat):Int):=eU p w
 have hw:W ((w:Int)-((p%w:Nat):Int))=((w-p%w:Nat):Int):=by rw [bU (by omega) (by omega)];omega
 have hmul:=DU (a:=a) (b:=2^(p%w)) (by omega) hpm
 rw [if_neg (by omega),ht,if_neg (by omega),hw,if_neg (by omega)]
 refine dI (by omega) ⟨_,rfl,?_⟩
 have hd:a/2^(w-p%w)<=a:=Nat.div_le_self _ _
 rw [ik (by omega) (by omega),jx (by omega),B5 (by omega) (by omega),ig (by omega),pG]
 exact k
theorem Mn {h:Hp} {kind:Int} {w a b:Nat} {R:Value->Hp->Prop} (hk:kind=14\/kind=15) (ea:WO w a) (eb:WO w b)
  (k:R (I ((if kind=14 then JR w a b else JN w a b:Nat):Int)) h):sP #[I kind,I w,I a,I b] h R:=by
 apply Gn
 refine uf_ ?_
 have h16:=ea.pow
 have hp:=bK w
 have sa:=Et ea
 have sb:=Et eb
 have hw:=ea.1
 refine nu ea ⟨_,rfl,nu eb ⟨_,rfl,?_⟩⟩
 unfold JR JN at k
 by_cases hy:sgn w b=0
 ·rw [if_pos hy,if_pos hy]at k
  rw [hy]
  refine ap (fun J=>J (decide (kind=15))) ?_ (fun J hJ=>aM rfl (by rw [show (kind==15)=decide (kind=15)from rfl];exact hJ))
  refine ac (fun e=>?_) (fun e=>?_)
  ·have e':kind=15:=by simpa using e
   rw [if_neg (by omega)]at k;exact k
  ·have e':kind=14:=by have: ¬kind=15:=by simpa using e
                       omega
   rw [if_pos e']at k
   refine ap (fun J=>J (decide (sgn w a<0))) ?_ (fun J hJ=>aM rfl hJ)
   refine ac (fun e=>?_) (fun e=>aM rfl (dI (by omega) ⟨_,rfl,?_⟩))
   ·rw [if_pos (by simpa using e)]at k;exact k
   ·rw [if_neg (by simpa using e)]at k
    have:((2^w-1:Nat):Int)=((2^w:Nat):Int)-1:=by omega
    rw [<-this];exact k
 ·rw [if_neg hy,if_neg hy]at k
  have hyb:(sgn w b==0)=false:=by simpa using hy
  refine ap (fun J=>J false) ?_ (fun J hJ=>aE hyb hJ)
  refine aE rfl (ap (fun J=>J false) ?_ (fun J hJ=>aE hyb hJ))
  refine aE rfl (aE hyb ?_)
  have hdiv:(Int.tdiv (sgn w a) (sgn w b)).natAbs<=65536:=by
   rw [Int.natAbs_tdiv]
   exact Nat.le_trans (Nat.div_le_self _ _) (by omega)
  refine ac (fun e=>?_) (fun e=>?_)
  ·rw [if_pos (by simpa using e)]at k
   rw [if_neg hy]
   refine dI (by omega) ⟨_,rfl,?_⟩
   rw [bU (by omega) (by omega),ig (by omega)];exact k
  ·rw [if_neg (by simpa using e)]at k
   rw [if_neg hy]
   refine dI (by omega) ⟨_,rfl,?_⟩
   rw [ig (by omega)];exact k
def Dm (kind:Int) (w a b:Nat):Nat:=if kind=16 then Y1 w a b else if kind=17 then Yz w a b else YL w a b
theorem Lw {h:Hp} {kind:Int} {w a b:Nat} {R:Value->Hp->Prop} (ea:WO w a) (hb:b<=65536)
  (k:R (I (Dm kind w a b)) h):r7 #[I kind,I w,I a,I b] h R:=by
 apply GI
 refine uf_ ?_
 have h16:=ea.pow
 have ha:=ea.2
 have hw:=ea.1
 have hmin:(if(w:Int)<(b:Int)then(w:Int)else(b:Int))=((min b w:Nat):Int):=by
  by_cases h:w<b
  ·rw [if_pos (by omega),Nat.min_eq_right (by omega)]
  ·rw [if_neg (by omega),Nat.min_eq_left (by omega)]
 have hm:min b w<=w:=Nat.min_le_right _ _
 have hpm:=z8 (w:=min b w) (by omega)
 have hmul:=DU (a:=a) (b:=2^min b w) (by omega) hpm
 unfold Dm at k
 rw [hmin]
 refine ac (fun e=>?_) (fun e=>ac (fun e2=>?_) (fun e2=>?_))
 ·rw [if_pos (bV e)]at k
  rw [if_neg (by omega)]
  refine dI (by omega) ⟨_,rfl,?_⟩
  rw [ik (by omega) (by omega),ig (by omega),pG];exact k
 ·rw [if_neg (bk e),if_pos (bV e2)]at k
  rw [if_neg (by omega),jx (by omega)];exact k
 ·rw [if_neg (bk e),if_neg (bk e2)]at k
  refine nu ea ⟨_,rfl,?_⟩
  rw [if_neg (by omega)]
  refine dI (by omega) ⟨_,rfl,?_⟩
  rw [WR (by omega),ig (by omega)];exact k
theorem IR {h:Hp} {kind:Int} {w a b:Nat} {R:Value->Hp->Prop} (hk:21<=kind/\kind<=28) (ea:WO w a) (eb:WO w b)
  (k:R (.bool (EF kind w a b)) h):qX #[I kind,I w,I a,I b] h R:=by
 apply EN
 refine uf_ ?_
 have h16:=ea.pow
 have hp:=bK w
 have sa:=Et ea
 have sb:=Et eb
 have ha:=ea.2
 have hb:=eb.2
 have hw:=ea.1
 unfold EF at k
 have dd: ∀{p q:Prop} [Decidable p] [Decidable q],(p↔q)->decide p=decide q:=fun h=>by rw [decide_eq_decide];exact h
 refine nu ea ⟨_,rfl,nu eb ⟨_,rfl,?_⟩⟩
 refine ac (fun e1=>?_) (fun e1=>ac (fun e2=>?_) (fun e2=>ac (fun e3=>?_) (fun e3=>ac (fun e4=>?_) (fun e4=>ac (fun e5=>?_) (fun e5=>ac (fun e6=>?_) (fun e6=>ac (fun e7=>?_) (fun e7=>?_)))))))
 ·rw [if_pos (bV e1)]at k
  have:((a:Int)==(b:Int))=decide (a=b):=by rw [Bool.eq_iff_iff];simp;omega
  rw [this];exact k
 all_goals rw [if_neg (bk e1)]at k
 ·rw [if_pos (bV e2)]at k
  rw [dd (p:=(a:Int)<(b:Int)) (q:=a<b) (by omega)];exact k
 all_goals rw [if_neg (bk e2)]at k
 ·rw [if_pos (bV e3)]at k;exact k
 all_goals rw [if_neg (bk e3)]at k
 ·rw [if_pos (bV e4)]at k
  rw [dd (p:=(a:Int)<=(b:Int)) (q:=a<=b) (by omega)];exact k
 all_goals rw [if_neg (bk e4)]at k
 ·rw [if_pos (bV e5)]at k;exact k
 all_goals rw [if_neg (bk e5)]at k
 ·rw [if_pos (bV e6)]at k
  refine dI (by omega) ⟨_,rfl,?_⟩
  rw [bU (by omega) (by omega),dd (p:=(a:Int)+(b:Int)>((2^w:Nat):Int)-1) (q:=2^w<=a+b) (by omega)];exact k
 all_goals rw [if_neg (bk e6)]at k
 ·rw [if_pos (bV e7)]at k
  have w1:W ((w:Int)-1)=((w-1:Nat):Int):=by rw [bU (by omega) (by omega)];omega
  have hpp:=qA hw.1
  rw [w1,if_neg (by omega),if_neg (by omega),Wo (by omega),bJ (by omega),bU (n:=sgn w a+sgn w b) (by omega) (by omega),bU (n:=((2^(w-1):Nat):Int)-1) (by omega) (by omega)]
  refine fK ⟨_,rfl,?_⟩
  rw [dd (p:= -((2^(w-1):Nat):Int)<=sgn w a+sgn w b/\sgn w a+sgn w b<=((2^(w-1):Nat):Int)-1) (q:= -((2^(w-1):Nat):Int)<=sgn w a+sgn w b/\sgn w a+sgn w b<((2^(w-1):Nat):Int)) (by omega)]
  exact k
 ·rw [if_neg (bk e7)]at k
  have hmul:=DU (a:=a) (b:=b) (by omega) (by omega)
  have hmi:(a:Int)*(b:Int)=((a*b:Nat):Int):=(Int.natCast_mul _ _).symm
  refine dI (by omega) ⟨_,rfl,?_⟩
  rw [hmi]
  generalize a*b=ab at*
  rw [eO (by omega),dd (p:=(ab:Int)>((2^w:Nat):Int)-1) (q:=2^w<=ab) (by omega)];exact k
theorem Wv {h:Hp} {kind:Int} {w a b:Nat} {R:Value->Hp->Prop} (hk:6<=kind/\kind<=28) (ea:WO w a) (eb:WO w b)
  (k:R (.tuple #[I (sx kind w a b).1,I (sx kind w a b).2]) h):AG #[I kind,I w,I a,I b] h R:=by
 apply Qy
 refine uf_ ?_
 have h16:=ea.pow
 have hp:=bK w
 have ha:=ea.2
 have hb:=eb.2
 have hw:=ea.1
 have hand:a&&&b<=a:=Nat.and_le_left
 have hmul:=DU (a:=a) (b:=b) (by omega) (by omega)
 by_cases h20:kind<=20
 rotate_left
 ·have t:sx kind w a b=(if EF kind w a b then 1 else 0,1):=by unfold sx;rw [if_neg h20]
  rw [t]at k
  have nb: ∀n:Int,n<=20->(kind==n)=false:=fun n hn=>by rw [beq_eq_false_iff_ne];omega
  refine aE (nb _ (by omega)) (aE (nb _ (by omega)) (aE (nb _ (by omega)) (aE (nb _ (by omega)) (aE (nb _ (by omega)) (aE (nb _ (by omega)) (aE (nb _ (by omega)) (aE (nb _ (by omega)) ?_)))))))
  refine ap (fun J=>J false) ?_ (fun J hJ=>aE (nb _ (by omega)) (by rw [nb 15 (by omega)];exact hJ))
  refine aE rfl (ap (fun J=>J false) ?_ (fun J hJ=>aE (nb _ (by omega)) (aE (nb _ (by omega)) (by rw [nb 18 (by omega)];exact hJ))))
  refine aE rfl (aE (nb _ (by omega)) (aE (nb _ (by omega)) ?_))
  refine IR (by omega) ea eb ⟨_,rfl,yj ⟨_,rfl,?_⟩⟩
  cases hs:EF kind w a b
  ·rw [hs]at k;simpa using k
  ·rw [hs]at k;simpa using k
 have t:sx kind w a b=(Hs kind w a b,w):=by unfold sx;rw [if_pos h20]
 rw [t]at k
 unfold Hs at k
 simp only at k
 refine ac (fun e=>?_) (fun e6=>?_)
 ·rw [if_pos (bV e)]at k;rw [sc (by omega) (by omega)];exact k
 rw [if_neg (bk e6)]at k
 refine ac (fun e=>?_) (fun e7=>?_)
 ·rw [if_pos (bV e)]at k;rw [B5 (by omega) (by omega)];exact k
 rw [if_neg (bk e7)]at k
 refine ac (fun e=>?_) (fun e8=>?_)
 ·rw [if_pos (bV e)]at k;rw [Nw (by omega) (by omega)];exact k
 rw [if_neg (bk e8)]at k
 refine ac (fun e=>?_) (fun e9=>?_)
 ·rw [if_pos (bV e)]at k
  refine dI (by omega) ⟨_,rfl,?_⟩
  rw [bU (by omega) (by omega),ig (by omega)];exact k
 rw [if_neg (bk e9)]at k
 refine ac (fun e=>?_) (fun e10=>?_)
 ·rw [if_pos (bV e)]at k
  refine dI (by omega) ⟨_,rfl,?_⟩
  rw [bU (by omega) (by omega),ig (by omega)];exact k
 rw [if_neg (bk e10)]at k
 refine ac (fun e=>?_) (fun e11=>?_)
 ·rw [if_pos (bV e)]at k
  refine dI (by omega) ⟨_,rfl,?_⟩
  have hmi:(a:Int)*(b:Int)=((a*b:Nat):Int):=(Int.natCast_mul _ _).symm
  rw [hmi]at k⊢
  generalize a*b=ab at*
  rw [eO (by omega),ig (by omega)];exact k
 rw [if_neg (bk e11)]at k
 refine ac (fun e=>?_) (fun e12=>?_)
 ·rw [if_pos (bV e)]at k
  refine dI (by omega) ⟨_,rfl,ac (fun eb0=>?_) (fun eb0=>?_)⟩
  ·have hb0: ¬b=0:=by have:=of_decide_eq_true eb0;omega
   rw [if_neg hb0]at k
   have hd:=Nat.div_le_self a b
   rw [if_neg (by omega),GN,eO (by omega)];exact k
  ·have hb0:b=0:=by have:=of_decide_eq_false eb0;omega
   rw [if_pos hb0]at k
   have:((2^w-1:Nat):Int)=((2^w:Nat):Int)-1:=by omega
   rw [<-this];exact k
 rw [if_neg (bk e12)]at k
 refine ac (fun e=>?_) (fun e13=>?_)
 ·rw [if_pos (bV e)]at k
  refine ac (fun eb0=>?_) (fun eb0=>?_)
  ·have hb0: ¬b=0:=by have:=of_decide_eq_true eb0;omega
   rw [if_neg hb0]at k
   rw [if_neg (by omega),eU];exact k
  ·have hb0:b=0:=by have:=of_decide_eq_false eb0;omega
   rw [if_pos hb0]at k;exact k
 rw [if_neg (bk e13)]at k
 refine ap (fun J=>J (decide (kind=14\/kind=15))) ?_ ?_
 rotate_left
 ·intro J hJ
  refine ac (fun e=>?_) (fun e=>?_)
  ·rw [decide_eq_true (.inl (bV e))]at hJ;exact hJ
  ·have:(kind==15)=decide (kind=14\/kind=15):=by
    have:=bk e
    rw [Bool.eq_iff_iff];simp [this]
   rw [this];exact hJ
 refine ac (fun e=>?_) (fun e1415=>?_)
 ·have e':kind=14\/kind=15:=by simpa using e
  refine Mn e' ea eb ⟨_,rfl,?_⟩
  rcases e' with rfl|rfl
  ·simpa using k
  ·simpa using k
 have n14: ¬kind=14/\ ¬kind=15:=by simpa using e1415
 rw [if_neg n14.1,if_neg n14.2]at k
 refine ap (fun J=>J (decide (kind=16\/kind=17\/kind=18))) ?_ ?_
 rotate_left
 ·intro J hJ
  refine ac (fun e=>?_) (fun e=>ac (fun e2=>?_) (fun e2=>?_))
  ·rw [decide_eq_true (.inl (bV e))]at hJ;exact hJ
  ·rw [decide_eq_true (.inr (.inl (bV e2)))]at hJ;exact hJ
  ·have:(kind==18)=decide (kind=16\/kind=17\/kind=18):=by
    have h1:=bk e
    have h2:=bk e2
    rw [Bool.eq_iff_iff];simp [h1,h2]
   rw [this];exact hJ
 refine ac (fun e=>?_) (fun e1618=>?_)
 ·have e':kind=16\/kind=17\/kind=18:=by simpa using e
  refine Lw ea (by omega) ⟨_,rfl,?_⟩
  unfold Dm
  rcases e' with rfl|rfl|rfl
  ·simpa using k
  ·simpa using k
  ·simpa using k
 have n16: ¬kind=16/\ ¬kind=17/\ ¬kind=18:=by simpa using e1618
 rw [if_neg n16.1,if_neg n16.2.1,if_neg n16.2.2]at k
 refine ac (fun e=>?_) (fun e19=>?_)
 ·rw [if_pos (bV e)]at k
  exact Ed ea ⟨_,rfl,k⟩
 rw [if_neg (bk e19)]at k
 have h20':kind=20:=by
  have:=bk e6;have:=bk e7;have:=bk e8;have:=bk e9;have:=bk e10;have:=bk e11;have:=bk e12;have:=bk e13;have:=bk e19
  omega
 refine aM (by simpa using h20') ?_
 have hm:b%w<w:=Nat.mod_lt _ (by omega)
 have hw2:W ((w:Int)-((b%w:Nat):Int))=((w-b%w:Nat):Int):=by rw [bU (by omega) (by omega)];omega
 rw [if_neg (by omega),eU,hw2]
 exact Ed ea ⟨_,rfl,k⟩
end Go.Lead
