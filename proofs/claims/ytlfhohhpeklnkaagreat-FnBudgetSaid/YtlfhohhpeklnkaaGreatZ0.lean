/- What functions of the program and of the reference come to, walked one by one, and plain laws about it: part 1. No condition is added to the statement. -/
import Derived.Test.YtlfhohhpeklnkaaGreatVm15
import Derived.Test.YtlfhohhpeklnkaaGreatFn0
import Derived.Test.YtlfhohhpeklnkaaGreatFn1
import Derived.Test.YtlfhohhpeklnkaaGreatFn2
import Derived.Test.YtlfhohhpeklnkaaGreatFn3
import Derived.Test.YtlfhohhpeklnkaaGreatFn4
import Derived.Test.YtlfhohhpeklnkaaGreatFn5
import Derived.Test.YtlfhohhpeklnkaaGreatFn6
import Derived.Test.YtlfhohhpeklnkaaGreatFn7
import Derived.Test.YtlfhohhpeklnkaaGreatFn8
namespace Go.Lead
open Go
set_option linter.unusedVariables false
set_option linter.unusedSimpArgs false
set_option maxHeartbeats 1000000
structure Nd where
 v:Nat
 lo:Nat
 hi:Nat
 deriving DecidableEq,Repr
def iz (n:Nd) (ns:List Nd):Nat×List Nd:=match ns.idxOf? n with|some i=>(i+2,ns)|none=>(ns.length+2,ns++ [n])
def mkD :Nat->(Nat->Bool)->Nat->List Nd->Nat×List Nd
 |0,f,_,ns=>(if f 0 then 1 else 0,ns)
 |n+1,f,low,ns=>
  let r1:=mkD n (fun i=>f (2*i)) (low+1) ns
  let r2:=mkD n (fun i=>f (2*i+1)) (low+1) r1.2
  if r1.1=r2.1 then r2 else iz ⟨low,r1.1,r2.1⟩ r2.2
theorem EY : ∀(n:Nat) {f g:Nat->Bool} (low:Nat) (ns:List Nd),(∀i,i<2^n->f i=g i)->mkD n f low ns=mkD n g low ns:=by
 intro n
 induction n with
 |zero=>intro f g low ns h;simp only [mkD];rw [h 0 (by simp)]
 |succ n ih=>
  intro f g low ns h
  have hp:2^(n+1)=2*2^n:=by rw [Nat.pow_succ];omega
  have h1: ∀ns,mkD n (fun i=>f (2*i)) (low+1) ns=mkD n (fun i=>g (2*i)) (low+1) ns:=fun ns=>ih _ _ fun i hi=>h _ (by omega)
  have h2: ∀ns,mkD n (fun i=>f (2*i+1)) (low+1) ns=mkD n (fun i=>g (2*i+1)) (low+1) ns:=fun ns=>ih _ _ fun i hi=>h _ (by omega)
  simp only [mkD,h1,h2]
theorem ud (n:Nd) (ns:List Nd):ns<+:(iz n ns).2:=by
 unfold iz;split
 ·exact List.prefix_refl _
 ·exact List.prefix_append _ _
theorem yn : ∀(n:Nat) (f:Nat->Bool) (low:Nat) (ns:List Nd),ns<+:(mkD n f low ns).2:=by
 intro n
 induction n with
 |zero=>intro f low ns;exact List.prefix_refl _
 |succ n ih=>
  intro f low ns
  have h1:=ih (fun i=>f (2*i)) (low+1) ns
  have h2:=ih (fun i=>f (2*i+1)) (low+1) (mkD n (fun i=>f (2*i)) (low+1) ns).2
  simp only [mkD]
  split
  ·exact h1.trans h2
  ·exact(h1.trans h2).trans (ud _ _)
theorem QN {n:Nd} {ns ns2:List Nd} {i:Nat} (h:ns.idxOf? n=some i) (p:ns<+:ns2):ns2.idxOf? n=some i:=by
 obtain⟨r,rfl⟩:=p
 simp only [List.idxOf?]at h⊢
 rw [List.findIdx?_append,h];rfl
theorem Qc {n:Nd} {ns ns2:List Nd} (h:ns.idxOf? n=none) (p:ns++ [n]<+:ns2):ns2.idxOf? n=some ns.length:=by
 obtain⟨r,rfl⟩:=p
 simp only [List.idxOf?]at h⊢
 rw [List.append_assoc,List.findIdx?_append,h]
 simp [List.findIdx?_cons]
theorem Nu {n:Nd} {ns ns2:List Nd} (p:(iz n ns).2<+:ns2):iz n ns2=((iz n ns).1,ns2):=by
 cases h:ns.idxOf? n with
 |some i=>
  have e:iz n ns=(i+2,ns):=by simp [iz,h]
  rw [e]at p⊢
  simp [iz,QN h p]
 |none=>
  have e:iz n ns=(ns.length+2,ns++ [n]):=by simp [iz,h]
  rw [e]at p⊢
  simp [iz,Qc h p]
theorem xi : ∀(n:Nat) (f:Nat->Bool) (low:Nat) (ns ns2:List Nd),(mkD n f low ns).2<+:ns2->mkD n f low ns2=((mkD n f low ns).1,ns2):=by
 intro n
 induction n with
 |zero=>intro f low ns ns2 p;rfl
 |succ n ih=>
  intro f low ns ns2 p
  have p1:(mkD n (fun i=>f (2*i)) (low+1) ns).2<+:ns2:=by
   refine List.IsPrefix.trans ?_ p
   simp only [mkD]
   split
   ·exact yn _ _ _ _
   ·exact(yn _ _ _ _).trans (ud _ _)
  have p2:(mkD n (fun i=>f (2*i+1)) (low+1) (mkD n (fun i=>f (2*i)) (low+1) ns).2).2<+:ns2:=by
   refine List.IsPrefix.trans ?_ p
   simp only [mkD]
   split
   ·exact List.prefix_refl _
   ·exact ud _ _
  have e1:=ih _ _ _ _ p1
  have e2:=ih _ _ _ _ p2
  simp only [mkD]at p⊢
  rw [e1]
  simp only
  rw [e2]
  simp only
  split
  ·rfl
  ·rename_i hne
   rw [if_neg hne]at p
   exact Nu p
theorem Qx (n:Nd) (ns:List Nd):(iz n ns).2.length<=ns.length+1:=by
 unfold iz;split<;>simp
theorem sK : ∀(n:Nat) (f:Nat->Bool) (low:Nat) (ns:List Nd),(mkD n f low ns).2.length+1<=ns.length+2^n:=by
 intro n
 induction n with
 |zero=>intro f low ns;simp [mkD]
 |succ n ih=>
  intro f low ns
  have h1:=ih (fun i=>f (2*i)) (low+1) ns
  have h2:=ih (fun i=>f (2*i+1)) (low+1) (mkD n (fun i=>f (2*i)) (low+1) ns).2
  have h3:=Qx ⟨low,(mkD n (fun i=>f (2*i)) (low+1) ns).1,(mkD n (fun i=>f (2*i+1)) (low+1) (mkD n (fun i=>f (2*i)) (low+1) ns).2).1⟩ (mkD n (fun i=>f (2*i+1)) (low+1) (mkD n (fun i=>f (2*i)) (low+1) ns).2).2
  have hp:2^(n+1)=2*2^n:=by rw [Nat.pow_succ];omega
  simp only [mkD]
  split<;>omega
inductive Ev (ns:List Nd):Nat->Nat->Bool->Prop
 |no (c:Nat):Ev ns 0 c false
 |yes (c:Nat):Ev ns 1 c true
 |node {p c:Nat} {n:Nd} {b:Bool}:ns[p]?=some n->Ev ns (if c.testBit n.v then n.hi else n.lo) c b->Ev ns (p+2) c b
theorem Ev.pre {ns ns2:List Nd} (l:ns<+:ns2) {p c:Nat} {b:Bool} (e:Ev ns p c b):Ev ns2 p c b:=by
 induction e with
 |no=>exact .no _
 |yes=>exact .yes _
 |node h _ ih=>
  obtain⟨r,rfl⟩:=l
  exact .node (by rw [List.getElem?_append_left (List.getElem?_eq_some_iff.1 h).1];exact h) ih
theorem Ev.det {ns:List Nd} {p c:Nat} {b b':Bool} (e:Ev ns p c b) (e':Ev ns p c b'):b=b':=by
 induction e with
 |no=>cases e';rfl
 |yes=>cases e';rfl
 |node h _ ih=>
  cases e' with
  |node h' e2=>
   rw [h]at h';cases h'
   exact ih e2
theorem Rk (n:Nd) (ns:List Nd): ∃p,(iz n ns).1=p+2/\(iz n ns).2[p]?=some n:=by
 unfold iz
 cases h:ns.idxOf? n with
 |some i=>
  refine⟨i,rfl,?_⟩
  simp only [List.idxOf?]at h
  obtain⟨hi,he,_⟩:=List.findIdx?_eq_some_iff_getElem.1 h
  simp only [beq_iff_eq]at he
  simp [hi,he]
 |none=>exact⟨ns.length,rfl,by simp⟩
theorem RJ (c low n:Nat):(c/2^low)%2^(n+1)=2*((c/2^(low+1))%2^n)+(if c.testBit low then 1 else 0):=by
 have h1:c/2^(low+1)=c/2^low/2:=by rw [Nat.pow_succ,Nat.div_div_eq_div_mul]
 have h2:(if c.testBit low then 1 else 0)=(c/2^low)%2:=by
  rw [Nat.testBit_eq_decide_div_mod_eq]
  rcases Nat.mod_two_eq_zero_or_one (c/2^low)with h|h<;>simp [h]
 rw [h1,h2]
 generalize c/2^low=x
 rw [Nat.pow_succ,Nat.mul_comm (2^n) 2,Nat.mod_mul]
 omega
theorem Ox : ∀(n:Nat) (f:Nat->Bool) (low:Nat) (ns:List Nd) (c:Nat),Ev (mkD n f low ns).2 (mkD n f low ns).1 c (f ((c/2^low)%2^n)):=by
 intro n
 induction n with
 |zero=>
  intro f low ns c
  simp only [mkD,Nat.pow_zero,Nat.mod_one]
  cases f 0
  ·exact .no _
  ·exact .yes _
 |succ n ih=>
  intro f low ns c
  have e1:=ih (fun i=>f (2*i)) (low+1) ns c
  have e2:=ih (fun i=>f (2*i+1)) (low+1) (mkD n (fun i=>f (2*i)) (low+1) ns).2 c
  have l2:=yn n (fun i=>f (2*i+1)) (low+1) (mkD n (fun i=>f (2*i)) (low+1) ns).2
  have e1':=e1.pre l2
  rw [RJ]
  simp only [mkD]
  split
  ·rename_i he
   rw [he]at e1'
   have hd:=e1'.det e2
   cases hb:c.testBit low
   ·simp only [Bool.false_eq_true,if_false,Nat.add_zero];rw [hd];exact e2
   ·simpa using e2
  ·obtain⟨p,hp,hg⟩:=Rk ⟨low,(mkD n (fun i=>f (2*i)) (low+1) ns).1,(mkD n (fun i=>f (2*i+1)) (low+1) (mkD n (fun i=>f (2*i)) (low+1) ns).2).1⟩
    (mkD n (fun i=>f (2*i+1)) (low+1) (mkD n (fun i=>f (2*i)) (low+1) ns).2).2
   rw [hp]
   refine .node hg ?_
   cases hb:c.testBit low
   ·simp only [Bool.false_eq_true,if_false,Nat.add_zero];exact e1'.pre (ud _ _)
   ·simp only [if_true];exact e2.pre (ud _ _)
theorem Tt {n low:Nat} {f g:Nat->Bool} {ns:List Nd}:
  (mkD n f low ns).1=(mkD n g low (mkD n f low ns).2).1↔ ∀i,i<2^n->f i=g i:=by
 constructor
 ·intro he i hi
  have e1:=(Ox n f low ns (i*2^low)).pre (yn n g low (mkD n f low ns).2)
  have e2:=Ox n g low (mkD n f low ns).2 (i*2^low)
  rw [he]at e1
  have:=e1.det e2
  rwa [Nat.mul_div_cancel _ (Nat.pow_pos (by omega)),Nat.mod_eq_of_lt hi]at this
 ·intro h
  rw [<-EY n low _ h,xi n f low ns _ (List.prefix_refl _)]
theorem Qv {n low:Nat} {f g:Nat->Bool} {ns:List Nd} (h: ∀i,i<2^n->f i=g i):mkD n g low (mkD n f low ns).2=mkD n f low ns:=by
 rw [<-EY n low _ h,xi n f low ns _ (List.prefix_refl _)]
def gj (set:List Int):List Int->Int->Int×Bool
 | [],left=>(left,left==0)
 |x::r,left=>
  if set.contains x then(0,false)else
  if set.contains (-x)then gj set r left else
  if left !=0&&left !=x then(0,false)else gj set r x
def ly :List (List Int)->List Int->Bool->Option (List Int×Bool)
 | [],set,more=>some (set,more)
 |l::r,set,more=>if(gj set l 0).2 then none else if(gj set l 0).1 !=0 then ly r (set++ [(gj set l 0).1]) true else ly r set more
def kg (cls:List (List Int)) (set:List Int):Option (List Int):=
 match ly cls set false with
 |none=>none
 |some (set',more)=>if more then(if h:set.length<set'.length/\set'.length<=20 then kg cls set' else none)else some set'
termination_by 20-set.length
decreasing_by omega
def rP :List Int->List Int->Option (List Int)
 | [],set=>some set
 |x::r,set=>if set.contains (-x)then none else rP r (if set.contains x then set else set++ [x])
def jG (cls:List (List Int)) (given:List Int):Option (List Int):=(rP given []).bind (kg cls)
structure pX (v:Int) (set:List Int):Prop where
 lit: ∀x∈set,x≠0/\ -v<=x/\x<=v
 nodup:set.Nodup
 cons: ∀x∈set, -x∉set
theorem IE (v:Int):pX v []:=⟨by simp,List.nodup_nil,by simp⟩
theorem pX.add {v:Int} {set:List Int} (k:pX v set) {x:Int} (hx:x≠0/\ -v<=x/\x<=v) (h1:x∉set) (h2: -x∉set):pX v (set++ [x]):=by
 refine⟨?_,?_,?_⟩
 ·intro y hy
  rcases List.mem_append.1 hy with h|h
  ·exact k.lit y h
  ·simp only [List.mem_singleton]at h;subst h;exact hx
 ·rw [List.nodup_append]
  refine⟨k.nodup,by simp,?_⟩
  intro a ha b hb
  simp only [List.mem_singleton]at hb;subst hb
  intro e;subst e;exact h1 ha
 ·intro y hy hn
  rcases List.mem_append.1 hy with h|h<;>rcases List.mem_append.1 hn with h'|h'
  ·exact k.cons y h h'
  ·simp only [List.mem_singleton]at h';exact h2 (by rw [<-h',Int.neg_neg];exact h)
  ·simp only [List.mem_singleton]at h;subst h;exact h2 h'
  ·simp only [List.mem_singleton]at h h';subst h;omega
theorem EB : ∀(n:Nat) (l:List Int) (a:Int),l.Nodup->(∀x∈l,a<=x/\x<a+n)->l.length<=n:=by
 intro n
 induction n with
 |zero=>
  intro l a _ h
  cases l with
  |nil=>simp
  |cons x r=>have:=h x (by simp);omega
 |succ n ih=>
  intro l a hd h
  by_cases hm:(a+n)∈l
  ·have h1:=ih (l.erase (a+n)) a (hd.erase _) (fun x hx=>by
    have hx':=List.mem_of_mem_erase hx
    have:=h x hx'
    have hne:x≠a+n:=fun e=>by
     subst e
     exact(List.Nodup.not_mem_erase hd) hx
    omega)
   rw [List.length_erase_of_mem hm]at h1
   omega
  ·have:=ih l a hd (fun x hx=>by
    have h1:=h x hx
    have hne:x≠a+n:=fun e=>hm (e▸hx)
    omega)
   omega
theorem pX.len {v:Int} {set:List Int} (k:pX v set) (hv:v<=10) (hv0:0<=v):set.length<=20:=by
 have h0:(0:Int)∉set:=fun h=>(k.lit 0 h).1 rfl
 have h1:=EB 21 (0::set) (-10) (List.nodup_cons.2 ⟨h0,k.nodup⟩) (fun x hx=>by
  rcases List.mem_cons.1 hx with rfl|hx
  ·omega
  ·have:=k.lit x hx;omega)
 simp only [List.length_cons]at h1
 omega
theorem Qd {set:List Int} (hcons: ∀x∈set, -x∉set) (h0:(0:Int)∉set) {l:List Int} (hl: ∀x∈l,x≠0) (hne:(gj set l 0).1≠0):
  (gj set l 0).1∈l/\(gj set l 0).1∉set/\ -(gj set l 0).1∉set:=by
 have key: ∀(l:List Int) (o:Int),(∀x∈l,x≠0)->(o=0\/(o∉set/\ -o∉set))->(gj set l o).1≠0->
   ((gj set l o).1∈l\/(gj set l o).1=o)/\(gj set l o).1∉set/\ -(gj set l o).1∉set:=by
  intro l
  induction l with
  |nil=>
   intro o _ ho hne
   simp only [gj]at hne⊢
   rcases ho with h|h
   ·exact absurd h hne
   ·exact⟨by simp,h⟩
  |cons x r ih=>
   intro o hx ho hne
   have hr:=fun y hy=>hx y (List.mem_cons_of_mem _ hy)
   simp only [gj]at hne⊢
   split at hne
   ·exact absurd rfl hne
   ·rename_i h1
    rw [if_neg h1]
    split at hne
    ·rename_i h2
     rw [if_pos h2]
     have:=ih o hr ho hne
     exact⟨this.1.imp (List.mem_cons_of_mem _) id,this.2⟩
    ·rename_i h2
     rw [if_neg h2]
     split at hne
     ·exact absurd rfl hne
     ·rename_i h3
      rw [if_neg h3]
      have:=ih x hr (.inr ⟨by simpa using h1,by simpa using h2⟩) hne
      refine⟨.inl ?_,this.2⟩
      rcases this.1 with h|h
      ·exact List.mem_cons_of_mem _ h
      ·rw [h];simp
 have:=key l 0 hl (.inl rfl) hne
 refine⟨?_,this.2⟩
 rcases this.1 with h|h
 ·exact h
 ·exact absurd h hne
theorem qb {v:Int}: ∀(cls:List (List Int)) (set:List Int) (more:Bool),pX v set->(∀l∈cls,∀x∈l,x≠0/\ -v<=x/\x<=v)->
  ∀set' more',ly cls set more=some (set',more')->pX v set'/\set.length<=set'.length/\(more'=true->more=true\/set.length<set'.length):=by
 intro cls
 induction cls with
 |nil=>intro set more k _ set' more' h;simp only [ly,Option.some.injEq,Prod.mk.injEq]at h;obtain⟨rfl,rfl⟩:=h;exact⟨k,by omega, .inl⟩
 |cons l r ih=>
  intro set more k hc set' more' h
  have h0:(0:Int)∉set:=fun h=>(k.lit 0 h).1 rfl
  simp only [ly]at h
  split at h
  ·cases h
  ·split at h
   ·rename_i hne
    have hne':(gj set l 0).1≠0:=by simpa using hne
    have hl:=hc l (by simp)
    have hn:=Qd k.cons h0 (fun x hx=>(hl x hx).1) hne'
    have:=ih (set++ [(gj set l 0).1]) true (k.add (hl _ hn.1) hn.2.1 hn.2.2) (fun l' h'=>hc l' (by simp [h'])) _ _ h
    simp only [List.length_append,List.length_cons,List.length_nil]at this
    exact⟨this.1,by omega,fun _=> .inr (by omega)⟩
   ·exact ih set more k (fun l' h'=>hc l' (by simp [h'])) _ _ h
theorem BC {v:Int}: ∀(g:List Int) (set:List Int),pX v set->(∀x∈g,x≠0/\ -v<=x/\x<=v)-> ∀set',rP g set=some set'->pX v set':=by
 intro g
 induction g with
 |nil=>intro set k _ set' h;simp only [rP,Option.some.injEq]at h;subst h;exact k
 |cons x r ih=>
  intro set k hg set' h
  simp only [rP]at h
  split at h
  ·cases h
  ·rename_i h1
   refine ih _ ?_ (fun y hy=>hg y (by simp [hy])) _ h
   split
   ·exact k
   ·rename_i h2
    exact k.add (hg x (by simp)) (by simpa using h2) (by simpa using h1)
theorem Mw {α:Type} {xs:List α} {p:α->Bool} {i:Nat} (hi:i<xs.length):(xs.take (i+1)).any p=((xs.take i).any p||p xs[i]):=by
 rw [List.take_succ_eq_append_getElem hi,List.any_append];simp
structure FL (h:Hp) (t:Sl) (ts:List Sl) (xss:List (List Int)):Prop where
 len:ts.length=xss.length
 outer:SlC (h.wo (ts.flatMap Sl.used)) t 1 (ts.map Sl.v)
 inner: ∀(i:Nat) (h1:i<ts.length) (h2:i<xss.length),Own h ts[i] 1 (xss[i].map I)
theorem FL.ints {h:Hp} {t:Sl} {ts:List Sl} {xss:List (List Int)} (e:FL h t ts xss):IntSS h t xss:=
 ⟨ts,e.len,e.outer.mono (vQ _ _),fun i h1 h2=>(e.inner i h1 h2).slc⟩
theorem FL.mono {h h':Hp} {t:Sl} {ts:List Sl} {xss:List (List Int)} (l:h.le h') (e:FL h t ts xss):FL h' t ts xss:=
 ⟨e.len,e.outer.mono (rU (Hp.le_trans (vQ _ _) l) fun b hb=>eQ hb),fun i h1 h2=>(e.inner i h1 h2).mono l⟩
theorem FL.used {h:Hp} {t:Sl} {ts:List Sl} {xss:List (List Int)} (e:FL h t ts xss): ∀b∈ts.flatMap Sl.used,h b≠none:=by
 intro b hb
 obtain⟨u,hu,hbu⟩:=List.mem_flatMap.1 hb
 obtain⟨i,hi,rfl⟩:=List.getElem_of_mem hu
 exact(e.inner i hi (by rw [<-e.len];exact hi)).used b hbu
theorem dz {h:Hp} {x a b:Int} {R:Value->Hp->Prop} (k:R (.bool (decide (a<=x/\x<=b))) h):cC #[I x,I a,I b] h R:=by
 apply LB
 refine uf_ ?_
 refine ac (fun e=>?_) (fun e=>?_)
 ·simp at e;simpa [e] using k
 ·simp at e;rwa [decide_eq_false (by omega)]at k
theorem fv {h:Hp} {x a b:Int} {R:Value->Hp->Prop} (k:R (.bool (decide (a<=x/\x<=b))) h):dq #[I x,I a,I b] h R:=by
 apply Ql
 refine uf_ ?_
 refine ac (fun e=>?_) (fun e=>?_)
 ·simp at e;simpa [e] using k
 ·simp at e;rwa [decide_eq_false (by omega)]at k
def F1 (vars n:Int):Bool:=decide (n≠0/\ -vars<=n/\n<=vars)
def fT (vars:Int) (l:List Int):Bool:=decide (l.length<=10)&&l.all (F1 vars)
def dL (vars:Int) (c:List (List Int)):Bool:=decide (1<=vars/\vars<=10)&&(decide (c.length<=60)&&c.all (fT vars))
def Fy {α:Type} (p:α->Bool) (xs:List α):Int:=match xs.findIdx? p with|some i=>i|none=> -1
theorem ym {α:Type} {p:α->Bool} {xs:List α} (e:xs.any p=false):Fy p xs= -1:=by
 have:xs.findIdx? p=none:=by
  rw [List.findIdx?_eq_none_iff];intro x hx;rw [List.any_eq_false]at e;simpa using e x hx
 simp [Fy,this]
theorem CY {α:Type} {p:α->Bool} {xs:List α} {i:Nat} (hi:i<xs.length) (e:(xs.take i).any p=false) (hp:p xs[i]=true):Fy p xs=i:=by
 have:xs.findIdx? p=some i:=by
  rw [List.findIdx?_eq_some_iff_getElem]
  refine⟨hi,hp,fun j hj=>?_⟩
  rw [List.any_eq_false]at e
  exact e _ (by rw [List.mem_take_iff_getElem];exact⟨j,by omega,rfl⟩)
 simp [Fy,this]
theorem JI {α:Type} (p:α->Bool) (xs:List α):decide (Fy p xs>=0)=xs.any p:=by
 cases h:xs.any p with
 |false=>rw [ym h];rfl
 |true=>
  unfold Fy
  cases h':xs.findIdx? p with
  |some i=>simp
  |none=>rw [List.findIdx?_eq_none_iff]at h';rw [List.any_eq_true]at h;obtain⟨x,hx,hp⟩:=h;simp [h' x hx]at hp
theorem rH {h:Hp} {s:Sl} {xs:List Int} {f:FuncId} {u w:Array Value} (p:Int->Bool) {R:Value->Hp->Prop} (hs:IntS h s xs)
  (hf: ∀x∈xs,∀R:Value->Hp->Prop,R (.bool (p x)) h->ACalls PR f ((u++ #[I x])++w) h R)
  (k:R (I (Fy p xs)) h):eG #[s.v, .func (.func f) u w] h R:=by
 apply qR
 refine uf_ ?_
 have hb:=hs.bound
 refine av xs.length (fun i vs h'=>vs= [s.v, .func (.func f) u w,I xs.length,I i]/\h'=h/\(xs.take i).any p=false) ⟨by rw [hs.len];rfl,rfl,by simp⟩ ?_
 rintro i _ _ next hi ⟨rfl,rfl,hp⟩ hn
 refine⟨_,_,_,_,_,_,rfl,?_⟩
 by_cases hlt:i<xs.length
 ·obtain⟨b,o,ha,hc⟩:=hs.at hlt
  refine aJ (by simp [hlt]) ?_
  simp only [vm,hs.len,ha,hc,aA (n:=i) (by omega)]
  refine⟨by omega,hf _ (List.getElem_mem hlt) _ ⟨_,rfl,ac (fun he=>?_) (fun he=>?_)⟩⟩
  ·rwa [CY hlt hp he]at k
  ·exact hn hlt _ _ ⟨rfl,rfl,by rw [Mw hlt,hp,he];rfl⟩
 ·have:i=xs.length:=by omega
  subst this
  rw [List.take_length]at hp
  refine aD (by simp) ?_
  rwa [ym hp]at k
theorem om {h:Hp} {s:Sl} {xs:List Int} {f:FuncId} {u w:Array Value} (p:Int->Bool) {R:Value->Hp->Prop} (hs:IntS h s xs)
  (hf: ∀x∈xs,∀R:Value->Hp->Prop,R (.bool (p x)) h->ACalls PR f ((u++ #[I x])++w) h R)
  (k:R (.bool (xs.any p)) h):dV #[s.v, .func (.func f) u w] h R:=by
 apply oT
 refine uf_ ?_
 exact rH p hs hf ⟨_,rfl,by rwa [JI]⟩
def qK (h:Hp) (s:Sl) (xs:List Bool):Prop:=SlC h s 1 (xs.map Value.bool)
theorem qK.mono {h h':Hp} {s:Sl} {xs:List Bool} (l:h.le h') (e:qK h s xs):qK h' s xs:=SlC.mono l e
theorem qK.len {h:Hp} {s:Sl} {xs:List Bool} (e:qK h s xs):s.n=xs.length:=by have:=e.2.1;simp at this;omega
theorem qK.bound {h:Hp} {s:Sl} {xs:List Bool} (e:qK h s xs):xs.length<=9223372036854775807:=by rw [<-e.len];exact e.1
theorem qK.at {h:Hp} {s:Sl} {xs:List Bool} (e:qK h s xs) {i:Nat} (hi:i<xs.length):
  ∃b o,s.a=some (Addr.mk b o none)/\Hp.cell h b (o+i)=some (.bool xs[i]):=by
 have hl:=e.len
 obtain⟨b,o,ha,hc⟩:=SlC.get e (by omega)
 exact⟨b,o,ha,hc i _ (by simp [hi])⟩
theorem iL {h:Hp} {c n:Nat} {R:Value->Hp->Prop} (hn:n<=64) (k:R (I (if c.testBit n then 1 else 0)) h):dT #[I c,I n] h R:=by
 apply KU
 refine uf_ ?_
 rw [cl (by omega),if_neg (by omega),kj hn,E9,Yu]
 split<;>simp_all
theorem F1.iff {v n:Int}:F1 v n=true↔n≠0/\ -v<=n/\n<=v:=by simp [F1]
theorem fT.lit {v:Int} {l:List Int} (e:fT v l=true) {n:Int} (hn:n∈l):F1 v n=true:=by
 simp only [fT,Bool.and_eq_true,List.all_eq_true]at e;exact e.2 n hn
theorem fT.len {v:Int} {l:List Int} (e:fT v l=true):l.length<=10:=by
 simp only [fT,Bool.and_eq_true,decide_eq_true_eq]at e;exact e.1
theorem dL.iff {v:Int} {c:List (List Int)}:dL v c=true↔(1<=v/\v<=10)/\c.length<=60/\ ∀l∈c,fT v l=true:=by
 simp [dL,List.all_eq_true]
theorem Rf (xs:List Int):(xs.map I).all (·.oneCell')=true:=by
 rw [List.all_eq_true]
 intro v hv
 obtain⟨x,_,rfl⟩:=List.mem_map.1 hv
 rfl
theorem IntS.slc {h:Hp} {s:Sl} {xs:List Int} (e:IntS h s xs):SlC h s 1 (xs.map I):=e
theorem nu {h:Hp} {s:Sl} {xs:List Int} {R:Value->Hp->Prop} (hs:IntS h s xs) (hl:xs.length<=1048576)
  (k: ∀t h',h.le h'->Buf (h'.sub h) t 1 (xs.map I)->R (Sl.v t) h'):gD #[s.v] h R:=by
 apply BO
 refine uf_ ?_
 have:=hs.len
 exact Jt hs (by omega) (Rf _) fun t h' hn hle hb=>k t h' hle hb
theorem YD (a b c a' b' c':Int):aeq PR 3 jo (.agg #[I a,I b,I c]) (.agg #[I a',I b',I c'])=some (a==a'&&(b==b'&&(c==c'&&true))):=by kernel_rfl
theorem Mx (l:List UInt8): ∀(k i:Nat) (r:List UInt8),i+k=l.length->ByteArray.toList.loop ⟨l.toArray⟩ i r=r.reverse++l.drop i:=by
 intro k
 induction k with
 |zero=>
  intro i r hi
  unfold ByteArray.toList.loop
  rw [if_neg (by simp [ByteArray.size];omega),List.drop_eq_nil_of_le (by omega),List.append_nil]
 |succ k ih=>
  intro i r hi
  unfold ByteArray.toList.loop
  rw [if_pos (by simp [ByteArray.size];omega),ih (i+1) _ (by omega),List.drop_eq_getElem_cons (i:=i) (by omega)]
  simp [ByteArray.get!,show i<l.length by omega]
theorem kK (l:List UInt8):(⟨l.toArray⟩:ByteArray).toList=l:=by
 unfold ByteArray.toList
 rw [Mx l l.length 0 [] (by omega)];rfl
def dt (n:Nat) (f:Nat->Bool):List Value:=(List.range (2^n)).map fun i=>Value.int .u8 (if f i then 1 else 0)
def cU (n:Nat) (f:Nat->Bool):List UInt8:=(List.range (2^n)).map fun i=>if f i then 1 else 0
theorem HB (n:Nat) (f:Nat->Bool):fe (cU n f)=dt n f:=by
 unfold fe cU dt
 rw [List.map_map]
 apply List.map_congr_left
 intro i _
 simp only [Function.comp]
 cases f i<;>rfl
def zQ (h:Hp) (t:Sl) (n:Nat) (f:Nat->Bool):Prop:=SlC h t 1 (dt n f)
theorem zQ.mono {h h':Hp} {t:Sl} {n:Nat} {f:Nat->Bool} (l:h.le h') (e:zQ h t n f):zQ h' t n f:=SlC.mono l e
theorem zQ.len {h:Hp} {t:Sl} {n:Nat} {f:Nat->Bool} (e:zQ h t n f):t.n=2^n:=by have:=e.2.1;simp [dt]at this;omega
theorem zQ.at {h:Hp} {t:Sl} {n:Nat} {f:Nat->Bool} (e:zQ h t n f) {i:Nat} (hi:i<2^n):
  ∃b o,t.a=some (Addr.mk b o none)/\Hp.cell h b (o+i)=some (.int .u8 (if f i then 1 else 0)):=by
 have hl:=e.len
 obtain⟨b,o,ha,hc⟩:=SlC.get e (by omega)
 exact⟨b,o,ha,hc i _ (by simp [dt,hi])⟩
theorem zQ.all {h:Hp} {t:Sl} {n:Nat} {f:Nat->Bool} (e:zQ h t n f):nW h t.a t.n (fe (cU n f)):=by
 rw [HB]
 exact⟨by rw [e.2.1,Nat.mul_one],e.2.2⟩
theorem sr (n:Nat) (f:Nat->Bool):(dt n f).length=2^n:=by simp [dt]
theorem xM {h:Hp} {c:Bool} {R:Value->Hp->Prop} (k:R (I (if c then 1 else 0)) h):mw #[.bool c] h R:=by
 apply OA
 refine uf_ ?_
 cases c<;>exact k
def D8 (h:Hp) (fid:FuncId) (u w:Array Value) (n:Nat) (f:Nat->Bool):Prop:=
 ∀(i:Nat),i<n-> ∀(h':Hp),h.le h'-> ∀R:Value->Hp->Prop,R (.bool (f i)) h'->ACalls PR fid ((u++ #[I i])++w) h' R
theorem tj {h:Hp} {n:Nat} {fid:FuncId} {u w:Array Value} {f:Nat->Bool} {R:Value->Hp->Prop} (hn:n<=13) (hf:D8 h fid u w (2^n) f)
  (k: ∀t h',h.le h'->zQ (h'.sub h) t n f->R (Sl.v t) h'):jX #[I n, .func (.func fid) u w] h R:=by
 apply D0
 refine uf_ ?_
 have h2:2^n<=8192:=by
  have:=Nat.pow_le_pow_right (n:=2) (by omega) hn
  simpa using this
 rw [if_neg (by omega),bG (by omega)]
 simp only [vm,cj]
 refine⟨by omega,by omega,by omega,fun b hb=>vu fun h1 e1=>?_⟩
 refine av (2^n) (fun i vs h'=>vs= [.func (.func fid) u w,Sl.v ⟨some ⟨b,0,none⟩,2^n,2^n⟩,I (2^n:Nat),I i]/\
  ∃cs,h'=h.row b cs (2^n)/\cs.length=2^n/\cs.take i=(dt n f).take i) ⟨rfl,_,e1,by simp,by simp⟩ ?_
 rintro i _ _ next hi ⟨rfl,cs,rfl,hcl,hp⟩ hn'
 refine⟨_,_,_,_,_,_,rfl,?_⟩
 by_cases hlt:i<2^n
 ·refine aJ (by simpa using by exact_mod_cast hlt) ?_
  refine hf i hlt _ (eM _ _ hb) _ ⟨_,rfl,xM ⟨_,rfl,?_⟩⟩
  simp only [vm,mm,aA (n:=i) (by omega)]
  refine⟨by omega,by omega,hn' hlt _ _ ⟨rfl,_,rfl,by simpa using hcl,?_⟩⟩
  have hti:i<(dt n f).length:=by rw [sr];exact hlt
  rw [pP _ (by omega),hp,List.take_succ_eq_append_getElem hti]
  congr 2
  simp only [dt,List.getElem_map,List.getElem_range]
  cases f i<;>rfl
 ·have:i=2^n:=by omega
  subst this
  rw [<-hcl,List.take_length,hcl,<-sr n f,List.take_length]at hp
  subst hp
  exact aD (by simp) (k _ _ (eM _ _ hb) ⟨by show 2^n<=_;omega,by simp [dt], .inr ⟨_,_,rfl,ay (W8 _ _ hb)⟩⟩)
def bK (ns:List Nd):List Value:=ns.flatMap fun n=> [I n.v,I n.lo,I n.hi]
def F2 (n:Nd):Value:= .agg #[I n.v,I n.lo,I n.hi]
structure BI (h:Hp) (B rs rn:Nat) (vars:Nat) (s:Sl) (ns:List Nd) (es:List (ByteArray×Nat)):Prop where
 row:h B=some (.inl ⟨[I vars,s.v,I 0, .map (some rs), .map (some rn)],5,false⟩)
 buf:Buf h s 3 (bK ns)
 seen:h rs=some (.inr (es.map fun e=>(.string e.1,I e.2)))
 nodes:h rn=some (.inr (ns.zipIdx.map fun e=>(F2 e.1,I (e.2+2:Nat))))
 far:rs≠rn
 own: ∀a,s.a=some a->a.block≠B
 true: ∀e∈es,∃n f low,low+n=vars/\e.1=⟨(cU n f).toArray⟩/\mkD n f low ns=(e.2,ns)
theorem BI.mono {h h':Hp} {B rs rn vars:Nat} {s:Sl} {ns:List Nd} {es:List (ByteArray×Nat)} (l:h.le h') (e:BI h B rs rn vars s ns es):BI h' B rs rn vars s ns es:=
 ⟨l _ _ e.row,e.buf.mono l,l _ _ e.seen,l _ _ e.nodes,e.far,e.own,e.true⟩
theorem BI.blkB {h:Hp} {B rs rn vars:Nat} {s:Sl} {ns:List Nd} {es:List (ByteArray×Nat)} (e:BI h B rs rn vars s ns es): ∀b∈ [B,rs,rn]++s.blk,∃x,h b=some x:=by
 intro b hb
 simp only [List.cons_append,List.nil_append,List.mem_cons]at hb
 rcases hb with rfl|rfl|rfl|hb
 ·exact⟨_,e.row⟩
 ·exact⟨_,e.seen⟩
 ·exact⟨_,e.nodes⟩
 ·revert b hb
  refine vC.2 fun a ha=>?_
  rcases e.buf.2.2 with ⟨h0,_⟩|⟨c,hc,hcb⟩
  ·rw [h0]at ha;cases ha
  ·rw [hc]at ha;cases ha;exact⟨_,hcb⟩
theorem BI.put {h:Hp} {B rs rn vars:Nat} {s:Sl} {ns:List Nd} {es:List (ByteArray×Nat)} (e:BI h B rs rn vars s ns es) {n low:Nat} {f:Nat->Bool} (hlow:low+n=vars)
  {a:Nat} (ha:mkD n f low ns=(a,ns)): ∃(es2:List (ByteArray×Nat)) (res:Option (Nat×Value)),fz (Instr.sameNow .string (.string ⟨(cU n f).toArray⟩)) (es.map fun e=>(.string e.1,I e.2)) 0=some res/\
   uX (es.map fun e=>(.string e.1,I e.2)) (.string ⟨(cU n f).toArray⟩) (I a) res=es2.map (fun e:ByteArray×Nat=>(Value.string e.1,I e.2))/\ ∀x∈es2,∃n f low,low+n=vars/\x.1=⟨(cU n f).toArray⟩/\mkD n f low ns=(x.2,ns):=by
 rcases qj (Instr.sameNow .string (.string ⟨(cU n f).toArray⟩)) (fun e:ByteArray×Nat=> .string e.1) (fun e=>I e.2) (fun e=>(⟨(cU n f).toArray⟩:ByteArray)==e.1) es 0 (fun _ _=>rfl)with ⟨hno,hm⟩|⟨j,hj,hyes,_,hm⟩
 ·refine⟨es++ [(⟨(cU n f).toArray⟩,a)],_,hm,by simp [uX],?_⟩
  intro x hx
  rcases List.mem_append.1 hx with hx|hx
  ·exact e.true x hx
  ·simp only [List.mem_singleton]at hx;subst hx;exact⟨n,f,low,hlow,rfl,ha⟩
 ·refine⟨es.set j (⟨(cU n f).toArray⟩,a),_,hm,by simp [uX,List.map_set],?_⟩
  intro x hx
  rcases List.mem_or_eq_of_mem_set hx with hx|hx
  ·exact e.true x hx
  ·subst hx;exact⟨n,f,low,hlow,rfl,ha⟩
theorem Bc {n m:Nat} {f g:Nat->Bool} (e:cU n f=cU m g):n=m/\ ∀i,i<2^n->f i=g i:=by
 have hl:=congrArg List.length e
 simp only [cU,List.length_map,List.length_range]at hl
 have hn:n=m:=(Nat.pow_right_inj (by decide:1<2)).1 hl
 subst hn
 refine⟨rfl,fun i hi=>?_⟩
 have:=congrArg (fun l:List UInt8=>l[i]?) e
 simp only [cU,List.getElem?_map,List.getElem?_range hi,Option.map_some,Option.some.injEq]at this
 cases h1:f i<;>cases h2:g i<;>simp [h1,h2]at this<;>rfl
theorem Wt (nd:Nd) (ns:List Nd):
  (∃j,fz (aeq PR 3 jo (.agg #[I nd.v,I nd.lo,I nd.hi])) (ns.zipIdx.map fun e=>(F2 e.1,I (e.2+2:Nat))) 0=some (some (j,I (j+2:Nat)))/\iz nd ns=(j+2,ns))\/
  (fz (aeq PR 3 jo (.agg #[I nd.v,I nd.lo,I nd.hi])) (ns.zipIdx.map fun e=>(F2 e.1,I (e.2+2:Nat))) 0=some none/\iz nd ns=(ns.length+2,ns++ [nd])):=by
 have heq: ∀m:Nd,((nd.v:Int)==(m.v:Int)&&((nd.lo:Int)==(m.lo:Int)&&((nd.hi:Int)==(m.hi:Int)&&true)))=(m==nd):=by
  intro m
  rw [Bool.eq_iff_iff]
  simp only [Bool.and_eq_true,beq_iff_eq,Bool.and_true]
  obtain⟨a,b,c⟩:=nd;obtain⟨a',b',c'⟩:=m
  simp only [Nd.mk.injEq]
  omega
 rcases qj (aeq PR 3 jo (.agg #[I nd.v,I nd.lo,I nd.hi])) (fun e:Nd×Nat=>F2 e.1) (fun e=>I (e.2+2:Nat))
  (fun e=>(nd.v:Int)==(e.1.v:Int)&&((nd.lo:Int)==(e.1.lo:Int)&&((nd.hi:Int)==(e.1.hi:Int)&&true))) ns.zipIdx 0 (fun e _=>YD _ _ _ _ _ _)with ⟨hno,hm⟩|⟨j,hj,hyes,hbef,hm⟩
 ·refine .inr ⟨hm,?_⟩
  have:ns.idxOf? nd=none:=by
   simp only [List.idxOf?]
   rw [List.findIdx?_eq_none_iff]
   intro m hmm
   obtain⟨i,hi,rfl⟩:=List.getElem_of_mem hmm
   have:=hno (ns[i],i) (by rw [List.mem_iff_getElem];exact⟨i,by simpa using hi,by simp⟩)
   simp only [heq]at this
   exact this
  simp [iz,this]
 ·have hj':j<ns.length:=by simpa using hj
  simp only [heq,List.getElem_zipIdx,Nat.zero_add]at hyes hbef hm
  refine .inl ⟨j,hm,?_⟩
  have:ns.idxOf? nd=some j:=by
   simp only [List.idxOf?]
   rw [List.findIdx?_eq_some_iff_getElem]
   exact⟨hj',hyes,fun l hl=>by have:=hbef l (by simp;omega) hl;simp [this]⟩
  simp [iz,this]
theorem wQ (ns:List Nd) (nd:Nd):bK (ns++ [nd])=bK ns++ [I nd.v,I nd.lo,I nd.hi]:=by simp [bK]
theorem mF (ns:List Nd):(bK ns).length=ns.length*3:=by
 induction ns with
 |nil=>rfl
 |cons n ns ih=>simp only [bK,List.flatMap_cons,List.length_append,List.length_cons,List.length_nil]at ih⊢;omega
theorem N9 {B rs rn vars:Nat} (hvars:vars<=13): ∀(n:Nat) (f:Nat->Bool) (low:Nat) (t:Sl) (h:Hp) (s:Sl) (ns:List Nd) (es:List (ByteArray×Nat)) (g:Hp) (R:Value->Hp->Prop),
  BI h B rs rn vars s ns es->g.le h->g B=none->g rs=none->g rn=none->(∀a,s.a=some a->g a.block=none)->zQ g t n f->low+n=vars->ns.length+2^n<=1048576->
  (∀s' es' h',BI h' B rs rn vars s' (mkD n f low ns).2 es'->g.le h'->(∀a,s'.a=some a->g a.block=none)->R (I (mkD n f low ns).1) h')->
  fO #[.pointer (some ⟨B,0,none⟩),t.v,I low] h R:=by
 intro n
 induction n with
 |zero=>
  intro f low t h s ns es g R inv hg gB grs grn gs ht hlow hlen k
  apply pQ
  refine uf_ ?_
  have hl:=ht.len
  obtain⟨b,o,ha,hc⟩:=ht.at (i:=0) (by simp)
  refine aJ (by simp [hl]) ?_
  simp only [vm,hl,ha,hg.cell hc]
  have:=hg.cell hc
  simp only [Nat.add_zero]at this
  refine⟨by omega,by simp,?_⟩
  simp only [Int.toNat_zero,Nat.add_zero,this,vm]
  have:=k s es h inv hg gs
  simp only [mkD]at this
  have e0:W (if f 0 then 1 else 0)=((if f 0 then 1 else 0:Nat):Int):=by cases f 0<;>rfl
  rw [e0];exact this
 |succ n ih=>
  intro f low t h s ns es g R inv hg gB grs grn gs ht hlow hlen k
  apply pQ
  refine uf_ ?_
  have hl:=ht.len
  have hp:2^(n+1)=2*2^n:=by rw [Nat.pow_succ];omega
  have hp1:0<2^n:=Nat.pow_pos (by omega)
  have hp2:2^n<=8192:=by
   have:=Nat.pow_le_pow_right (n:=2) (by omega) (show n<=13 by omega)
   simpa using this
  refine aD (by simp [hl];omega) ?_
  refine⟨cU (n+1) f,(ht.mono hg).all,?_⟩
  simp only [vm,aq inv.row,mm]
  refine⟨rs,es.map (fun e=>(.string e.1,I e.2)),?_⟩
  rcases qj (Instr.sameNow .string (.string ⟨(cU (n+1) f).toArray⟩)) (fun e:ByteArray×Nat=> .string e.1) (fun e=>I e.2) (fun e=>(⟨(cU (n+1) f).toArray⟩:ByteArray)==e.1) es 0 (fun _ _=>rfl)with ⟨hno,hm⟩|⟨j,hj,hyes,_,hm⟩
  rotate_left
  ·refine⟨_,rfl,inv.seen,hm,_,rfl,aJ rfl ?_⟩
   obtain⟨m,f',low',hlow',hkey,hmk⟩:=inv.true _ (List.getElem_mem hj)
   rw [hkey]at hyes
   have hb:cU (n+1) f=cU m f':=by
    have h9:((cU (n+1) f).toArray==(cU m f').toArray)=true:=hyes
    simpa using h9
   obtain⟨rfl,hff⟩:=Bc hb
   have:low'=low:=by omega
   subst this
   have e:=EY (n+1) low' ns hff
   rw [hmk]at e
   have:=k s es h (by rw [e];exact inv) hg gs
   rw [e]at this
   exact this
  refine⟨_,rfl,inv.seen,hm,_,rfl,aD rfl ?_⟩
  have hdiv:W ((t.n:Int).tdiv 2)=((2^n:Nat):Int):=by
   rw [hl,hp]
   have:(((2*2^n:Nat):Int)).tdiv 2=((2^n:Nat):Int):=by
    have:=Int.ofNat_tdiv (2*2^n) 2
    rw [show 2*2^n/2=2^n by omega]at this
    exact this.symm
   rw [this];exact et (by omega)
  simp only [hdiv,vm,cj]
  refine ap (fun J=> ∀b1 b2:Nat,b1≠b2->h b1=none->h b2=none-> ∀h1:Hp,h1 b1=some (.inl ⟨List.replicate (2^n) (.int .u8 0),2^n,false⟩)->h1 b2=some (.inl ⟨List.replicate (2^n) (.int .u8 0),2^n,false⟩)->h.le h1->
   J ⟨some ⟨b1,0,none⟩,2^n,2^n⟩ ⟨some ⟨b2,0,none⟩,2^n,2^n⟩ h1) ?_ ?_
  rotate_left
  ·intro J hJ
   refine⟨⟨by omega,by omega,by omega,fun b1 hb1=>⟨by omega,by omega,by omega,fun b2 hb2=>?_⟩⟩,⟨by omega,by omega,by omega,fun b1 hb1=>⟨by omega,by omega,by omega,fun b2 hb2=>?_⟩⟩⟩
   ·exact hJ b1 b2 hb2.1.symm hb1 hb2.2 _ (by rw [bX _ _ hb2.1.symm,bR]) (by rw [bR]) (eg _ _ hb2.2 (eM _ _ hb1))
   ·exact hJ b2 b1 hb2.1 hb2.2 hb1 _ (by rw [bR]) (by rw [bX _ _ hb2.1.symm,bR]) (eg _ _ hb2.2 (eM _ _ hb1))
  intro b1 b2 n12 hb1 hb2 h1 f1 f2 l1
  refine av (2^n) (fun i vs h'=>vs= [.pointer (some ⟨B,0,none⟩),t.v,I low, .string ⟨(cU (n+1) f).toArray⟩,Sl.v ⟨some ⟨b1,0,none⟩,2^n,2^n⟩,Sl.v ⟨some ⟨b2,0,none⟩,2^n,2^n⟩,I (2^n:Nat),I i]/\
   h.le h'/\ ∃c1 c2,h' b1=some (.inl ⟨c1,2^n,false⟩)/\h' b2=some (.inl ⟨c2,2^n,false⟩)/\c1.length=2^n/\c2.length=2^n/\c1.take i=(dt n fun i=>f (2*i)).take i/\c2.take i=(dt n fun i=>f (2*i+1)).take i)
   ⟨rfl,l1,_,_,f1,f2,by simp,by simp,by simp,by simp⟩ ?_
  rintro i _ h2 next hi ⟨rfl,l2,c1,c2,g1,g2,q1,q2,p1,p2⟩ hn
  refine⟨_,_,_,_,_,_,_,_,rfl,?_⟩
  by_cases hlt:i<2^n
  ·obtain⟨bt,ot,hta,htc⟩:=((ht.mono hg).mono l2).at (i:=2*i) (by omega)
   obtain⟨bt',ot',hta',htc'⟩:=((ht.mono hg).mono l2).at (i:=2*i+1) (by omega)
   rw [hta]at hta';cases hta'
   have e1:W (2*(i:Int))=((2*i:Nat):Int):=by rw [<-et (n:=2*i) (by omega)];congr 1
   have e2:W (((2*i:Nat):Int)+1)=((2*i+1:Nat):Int):=aA (by omega)
   refine aJ (by simpa using by exact_mod_cast hlt) ?_
   simp only [e1,e2,vm,mm,hl,hta,htc,htc',aA (n:=i) (show i<9223372036854775807 by omega)]
   refine⟨by omega,by omega,by omega,c1,2^n,g1,by omega,by omega,?_⟩
   rw [bX _ _ n12.symm]
   refine⟨c2,2^n,g2,by omega,?_⟩
   refine hn hlt _ _ ⟨rfl,eg _ _ hb2 (eg _ _ hb1 l2),_,_,by rw [bX _ _ n12,bR],bR ..,by simpa using q1,by simpa using q2,?_,?_⟩
   ·have hti:i<(dt n fun i=>f (2*i)).length:=by rw [sr];exact hlt
    rw [pP _ (by omega),p1,List.take_succ_eq_append_getElem hti]
    simp [dt]
   ·have hti:i<(dt n fun i=>f (2*i+1)).length:=by rw [sr];exact hlt
    rw [pP _ (by omega),p2,List.take_succ_eq_append_getElem hti]
    simp [dt]
  have:i=2^n:=by omega
  subst this
  rw [<-q1,List.take_length,q1,<-sr n (fun i=>f (2*i)),List.take_length]at p1
  rw [<-q2,List.take_length,q2,<-sr n (fun i=>f (2*i+1)),List.take_length]at p2
  subst p1;subst p2
  refine aD (by simp) ?_
  clear hn next f1 f2 l1 h1
  have hout: ∀b,h b=none->b∉ [B,rs,rn]++s.blk:=fun b hb hm=>by
   obtain⟨x,hx⟩:=inv.blkB b hm
   rw [hb]at hx;cases hx
  have tb:2^n<=9223372036854775807:=by omega
  have t1:zQ (h2.wo ([B,rs,rn]++s.blk)) ⟨some ⟨b1,0,none⟩,2^n,2^n⟩ n (fun i=>f (2*i)):=
   ⟨tb,by simp [sr], .inr ⟨b1,0,rfl,ay (by rw [rj (hout b1 hb1)];exact g1)⟩⟩
  have t2:zQ (h2.wo ([B,rs,rn]++s.blk)) ⟨some ⟨b2,0,none⟩,2^n,2^n⟩ n (fun i=>f (2*i+1)):=
   ⟨tb,by simp [sr], .inr ⟨b2,0,rfl,ay (by rw [rj (hout b2 hb2)];exact g2)⟩⟩
  have hgw:g.le (h2.wo ([B,rs,rn]++s.blk)):=rU (Hp.le_trans hg l2) (by
   intro b hb
   simp only [List.cons_append,List.nil_append,List.mem_cons]at hb
   rcases hb with rfl|rfl|rfl|hb
   ·exact gB
   ·exact grs
   ·exact grn
   ·exact vC (p:=fun b=>g b=none).2 gs b hb)
  rw [aA (by omega)]
  have len1:=sK n (fun i=>f (2*i)) (low+1) ns
  refine ih _ (low+1) _ h2 s ns es (h2.wo ([B,rs,rn]++s.blk)) _ (inv.mono l2) (vQ _ _) (eQ (by simp)) (eQ (by simp)) (eQ (by simp))
   (vC (p:=fun b=>(h2.wo ([B,rs,rn]++s.blk)) b=none).1 fun b hb=>eQ (by simp [hb])) t1 (by omega) (by omega) ?_
  intro s3 es3 h3 inv3 l3 gs3
  refine⟨_,rfl,cU n (fun i=>f (2*i)),(t1.mono l3).all,cU n (fun i=>f (2*i+1)),(t2.mono l3).all,?_⟩
  refine ap (fun J=> ∀s' es' h',BI h' B rs rn vars s' (mkD (n+1) f low ns).2 es'->g.le h'->(∀a,s'.a=some a->g a.block=none)->J ((mkD (n+1) f low ns).1:Nat) h') ?_ ?_
  ·intro s' es' h' inv' lg' gs'
   obtain⟨es2,res,hm2,hput,htrue⟩:=inv'.put (n:=n+1) (low:=low) (f:=f) hlow (xi (n+1) f low ns _ (List.prefix_refl _))
   simp only [vm,aq inv'.row,mm]
   refine⟨rs,_,res,rfl,inv'.seen,hm2,?_⟩
   rw [hput]
   have nB:B≠rs:=dH inv'.row inv'.seen (by intro h;cases h)
   refine k s' es2 _ ⟨by rw [Hp.set_ne _ _ nB];exact inv'.row,?_,Hp.set_eq ..,by rw [Hp.set_ne _ _ inv'.far.symm];exact inv'.nodes,inv'.far,inv'.own,htrue⟩ (qX _ lg' grs) gs'
   refine⟨inv'.buf.1,inv'.buf.2.1,inv'.buf.2.2.imp id ?_⟩
   rintro ⟨c,hc,hcb⟩
   exact⟨c,hc,by rw [Hp.set_ne _ _ (dH hcb inv'.seen (by intro h;cases h))];exact hcb⟩
  ·intro J hJ
   rw [kK,kK]
   refine ac (fun e=>?_) (fun e=>?_)
   rotate_left
   ·have e':cU n (fun i=>f (2*i))=cU n (fun i=>f (2*i+1)):=by simpa using e
    have hs2:=Qv (low:=low+1) (ns:=ns) (Bc e').2
    have hmk:mkD (n+1) f low ns=mkD n (fun i=>f (2*i)) (low+1) ns:=by simp only [mkD];rw [hs2];simp
    have:=hJ s3 es3 h3 (by rw [hmk];exact inv3) (Hp.le_trans hgw l3) ?_
    ·rw [hmk]at this;exact this
    ·intro a ha;
     have:=gs3 a ha
     cases hga:g a.block with
     |none=>rfl
     |some x=>rw [hgw _ _ hga]at this;cases this
   have hne: ¬(mkD n (fun i=>f (2*i)) (low+1) ns).1=(mkD n (fun i=>f (2*i+1)) (low+1) (mkD n (fun i=>f (2*i)) (low+1) ns).2).1:=by
    intro he
    have:=Tt.1 he
    have e2:cU n (fun i=>f (2*i))=cU n (fun i=>f (2*i+1)):=by
     unfold cU
     apply List.map_congr_left
     intro i hi
     simp only [this i (by simpa using hi)]
    rw [e2]at e;simp at e
   have hmk:mkD (n+1) f low ns=iz ⟨low,(mkD n (fun i=>f (2*i)) (low+1) ns).1,(mkD n (fun i=>f (2*i+1)) (low+1) (mkD n (fun i=>f (2*i)) (low+1) ns).2).1⟩
     (mkD n (fun i=>f (2*i+1)) (low+1) (mkD n (fun i=>f (2*i)) (low+1) ns).2).2:=by simp only [mkD];rw [if_neg hne]
   have len2:=sK n (fun i=>f (2*i+1)) (low+1) (mkD n (fun i=>f (2*i)) (low+1) ns).2
   generalize mkD n (fun i=>f (2*i)) (low+1) ns=r1 at*
   refine ih _ (low+1) _ h3 s3 r1.2 es3 ((h3.wo ([B,rs,rn]++s3.blk))) _ inv3 (vQ _ _) (eQ (by simp)) (eQ (by simp)) (eQ (by simp))
    (vC (p:=fun b=>(h3.wo ([B,rs,rn]++s3.blk)) b=none).1 fun b hb=>eQ (by simp [hb])) (t2.mono (rU l3 ?_)) (by omega) (by omega) ?_
   ·intro b hb
    simp only [List.cons_append,List.nil_append,List.mem_cons]at hb
    rcases hb with rfl|rfl|rfl|hb
    ·exact eQ (by simp)
    ·exact eQ (by simp)
    ·exact eQ (by simp)
    ·exact vC (p:=fun b=>(h2.wo ([B,rs,rn]++s.blk)) b=none).2 gs3 b hb
   generalize mkD n (fun i=>f (2*i+1)) (low+1) r1.2=r2 at*
   intro s4 es4 h4 inv4 l4 gs4
   refine⟨_,rfl,?_⟩
   intro b5 hb5
   have nB:=fresh_ne hb5 inv4.row
   have nN:=fresh_ne hb5 inv4.nodes
   simp only [vm,mm,nB,nN,aq inv4.row,ne_eq,not_false_eq_true]
   have hgw3:g.le (h3.wo ([B,rs,rn]++s3.blk)):=rU (Hp.le_trans hgw l3) (by
    intro b hb
    refine aF hgw ?_
    simp only [List.cons_append,List.nil_append,List.mem_cons]at hb
    rcases hb with rfl|rfl|rfl|hb
    ·exact eQ (by simp)
    ·exact eQ (by simp)
    ·exact eQ (by simp)
    ·exact vC (p:=fun b=>(h2.wo ([B,rs,rn]++s.blk)) b=none).2 gs3 b hb)
   have lg4:g.le h4:=Hp.le_trans hgw3 l4
   have gs4': ∀a,s4.a=some a->g a.block=none:=fun a ha=>aF hgw3 (gs4 a ha)
   have l5:=eM [I low,I r1.1,I r2.1] 3 hb5
   refine⟨by omega,rn,r2.2.zipIdx.map (fun e=>(F2 e.1,I (e.2+2:Nat))),?_⟩
   rcases Wt ⟨low,r1.1,r2.1⟩ r2.2 with ⟨j,hm5,hput⟩|⟨hm5,hput⟩
   ·refine⟨_,rfl,l5 _ _ inv4.nodes,hm5,_,rfl,aD rfl ?_⟩
    rw [hput]at hmk
    have:=hJ s4 es4 _ (by rw [hmk];exact inv4.mono l5) (Hp.le_trans lg4 l5) gs4'
    rw [hmk]at this
    exact this
   ·refine⟨_,rfl,l5 _ _ inv4.nodes,hm5,_,rfl,aJ rfl ?_⟩
    rw [hput]at hmk
    rintro b6 ⟨n65,_,hb6⟩
    have nB6:=fresh_ne hb6 inv4.row
    have l6:=eg [I low,I r1.1,I r2.1] 3 (show (h4.row b5 [I low,I r1.1,I r2.1] 3) b6=none by rw [wU];exact⟨n65,hb6⟩) (Hp.le_refl _)
    have hsn:s4.n=r2.2.length:=by have:=inv4.buf.1;rw [mF]at this;omega
    refine⟨by rw [bX _ _ nB6,bX _ _ nB],?_⟩
    refine dp ((inv4.buf.mono l5).mono l6) (by omega) (by omega) (by omega) ⟨b6,0,rfl,ay (bR ..)⟩ (by simp) rfl ?_
    intro s7 h7 hn7 hb7 hl7 _
    have hH:h4.le ((h4.row b5 [I low,I r1.1,I r2.1] 3).row b6 [I low,I r1.1,I r2.1] 3):=Hp.le_trans l5 l6
    have dmap: ∀{c:Nat} {m:List (Value×Value)},h4 c=some (.inr m)-> ∀a,s4.a=some a->a.block≠c:=by
     intro c m hc a ha
     rcases inv4.buf.2.2 with ⟨h0,_⟩|⟨d,hd,hdb⟩
     ·rw [h0]at ha;cases ha
     ·rw [hd]at ha;cases ha;exact dH hdb hc (by intro h;cases h)
    have d5: ∀a,s4.a=some a->a.block≠b5:=by
     intro a ha
     rcases inv4.buf.2.2 with ⟨h0,_⟩|⟨d,hd,hdb⟩
     ·rw [h0]at ha;cases ha
     ·rw [hd]at ha;cases ha;exact fresh_ne hb5 hdb
    obtain⟨f7B,o7B⟩:=j5 hl7 (hH _ _ inv4.row) inv4.own
    obtain⟨f7s,o7s⟩:=j5 hl7 (hH _ _ inv4.seen) (dmap inv4.seen)
    obtain⟨f7n,o7n⟩:=j5 hl7 (hH _ _ inv4.nodes) (dmap inv4.nodes)
    obtain⟨f75,o75⟩:=j5 hl7 (l6 _ _ (bR h4 b5 [I low,I r1.1,I r2.1] 3)) d5
    have n5B:=nB.symm
    have nsB:rs≠B:=dH inv4.seen inv4.row (by intro h;cases h)
    have nnB:rn≠B:=dH inv4.nodes inv4.row (by intro h;cases h)
    have hW2:W ((s4.n:Int)+2)=((r2.2.length+2:Nat):Int):=by rw [hsn,bV (by omega) (by omega)];omega
    simp only [vm,mm,f7B,aq f75,n5B,ne_eq,not_false_eq_true,hW2]
    refine⟨by omega,rn,_,none,rfl,by rw [bX _ _ nnB];exact f7n,hm5,rfl,?_⟩
    have:=hJ s7 es4 ((h7.row B [I vars,s7.v,I 0, .map (some rs), .map (some rn)] 5).set rn
     (some (.inr (uX (r2.2.zipIdx.map fun e=>(F2 e.1,I (e.2+2:Nat))) (.agg #[I low,I r1.1,I r2.1]) (I (r2.2.length+2:Nat)) none)))) ?_ ?_ ?_
    ·rw [hmk]at this;exact this
    ·rw [hmk]
     refine⟨by rw [Hp.set_ne _ _ nnB.symm,bR],?_,by rw [Hp.set_ne _ _ inv4.far,bX _ _ nsB];exact f7s,?_,inv4.far,o7B,?_⟩
     ·rw [wQ]
      refine⟨hb7.1,hb7.2.1,hb7.2.2.imp id ?_⟩
      rintro ⟨c,hc,hcb⟩
      exact⟨c,hc,by rw [Hp.set_ne _ _ (o7n _ hc),bX _ _ (o7B _ hc)];exact hcb⟩
     ·rw [Hp.set_eq]
      simp [uX,List.zipIdx_append,F2]
     ·intro x hx
      obtain⟨n',f',low',h1',h2',h3'⟩:=inv4.true x hx
      refine⟨n',f',low',h1',h2',?_⟩
      have:=xi n' f' low' r2.2 (r2.2++ [⟨low,r1.1,r2.1⟩]) (by rw [h3'];exact List.prefix_append _ _)
      rw [h3']at this;exact this
    ·refine qX _ ?_ grn
     intro c x hcx
     have hcB:c≠B:=fun h=>by rw [h,gB]at hcx;cases hcx
     rw [bX _ _ hcB]
     exact(j5 hl7 (hH _ _ (lg4 _ _ hcx)) (fun a ha hac=>by rw [<-hac,gs4' a ha]at hcx;cases hcx)).1
    ·intro a ha
     cases hg7:g a.block with
     |none=>rfl
     |some x=>
      exact absurd rfl ((j5 hl7 (hH _ _ (lg4 _ _ hg7)) (fun a' ha' hac=>by rw [<-hac,gs4' a' ha']at hg7;cases hg7)).2 a ha)
theorem LR (ns:List Nd):(bK ns).all (·.oneCell')=true:=by
 rw [List.all_eq_true]
 intro v hv
 simp only [bK,List.mem_flatMap]at hv
 obtain⟨n,_,hv⟩:=hv
 simp only [List.mem_cons,List.not_mem_nil,or_false]at hv
 rcases hv with rfl|rfl|rfl<;>rfl
theorem ON {h:Hp} {s:Sl} {ns:List Nd} {v r:Int} {R:Value->Hp->Prop} (hs:SlC h s 3 (bK ns)) (hn:ns.length<=1048576)
  (k: ∀t h',h.le h'->Own (h'.sub h) t 3 (bK ns)->R (.agg #[I v,Sl.v t,I r]) h'):oE #[.agg #[I v,s.v,I r]] h R:=by
 apply BU
 refine uf_ ?_
 intro b1 hb1
 simp only [vm,mm]
 rintro b2 ⟨n21,hb2⟩
 have n12:=n21.symm
 have hsn:s.n=ns.length:=by have:=hs.2.1;rw [mF]at this;omega
 simp only [vm,mm,n12,n21,ne_eq,not_false_eq_true]
 have l0:=eg [I 0, .slice none 0 0,I 0] 3 hb2 (eM [I v,s.v,I r] 3 hb1)
 refine Jt (hs.mono l0) (by omega) (LR _) ?_
 intro t h3 hn3 l3 hb3
 have f1:=l3 _ _ ((bX _ _ n12).trans (bR ..))
 have f2:=l3 _ _ (bR ..)
 simp only [vm,mm,f1,f2]
 refine⟨by omega,k _ _ (eg _ _ hb2 (Hp.le_trans l0 l3)) ((hb3.own (by omega)).mono ?_)⟩
 exact L4 _ _ (lP (bR ..)) (Fk _ l0)
def oe (n:Nat) (f:Nat->Bool):Option (Nat×List Nd):=if 600<(mkD n f 0 []).2.length then none else some (mkD n f 0 [])
theorem Km {h:Hp} {t:Sl} {n:Nat} {f:Nat->Bool} {R:Value->Hp->Prop} (hn:n<=13) (ht:zQ h t n f)
  (k0:oe n f=none->R (.tuple #[.agg #[I 0, .slice none 0 0,I 0], .bool false]) h)
  (k1: ∀r,oe n f=some r-> ∀s h',h.le h'->Own (h'.sub h) s 3 (bK r.2)->R (.tuple #[.agg #[I n,Sl.v s,I r.1], .bool true]) h'):
  eC #[t.v] h R:=by
 refine ACalls.drop (wT ?_)
 refine uf_ ?_
 intro b1 hb1
 have l1:=eM [I 0, .slice none 0 0,I 0] 3 hb1
 refine vu fun h1 e1=>?_
 refine av n (fun i vs h'=>vs= [t.v, .pointer (some ⟨b1,0,none⟩),I i]/\h'=h1) ⟨rfl,rfl⟩ ?_
 rintro i _ _ next hi ⟨rfl,rfl⟩ hnx
 refine⟨_,_,_,_,rfl,?_⟩
 rw [if_neg (by omega),bG (by omega),ht.len]
 by_cases hlt:i<n
 ·refine aJ ?_ ?_
  ·have:=Nat.pow_lt_pow_right (a:=2) (by omega) hlt
   simpa using by exact_mod_cast this
  ·rw [aA (by omega)];exact hnx hlt _ _ ⟨rfl,rfl⟩
 have hin:i=n:=by omega
 subst hin
 refine aD (by simp) ?_
 rename_i h1
 rw [<-e1]at l1
 intro rs hrs
 refine vu fun h2 e2=>?_
 intro rn hrn
 refine vu fun h3 e3=>?_
 intro B hB
 refine vu fun h4 e4=>?_
 have l2:h1.le h2:=e2▸Hp.le_set _ hrs
 have l3:h2.le h3:=e3▸Hp.le_set _ hrn
 have l4:h3.le h4:=e4▸eM _ _ hB
 have f2:h2 rs=some (.inr []):=by rw [e2,Hp.set_eq]
 have f3:h3 rn=some (.inr []):=by rw [e3,Hp.set_eq]
 have f4:h4 B=some (.inl ⟨[I i, .slice none 0 0,I 0, .map (some rs), .map (some rn)],5,false⟩):=by rw [e4,bR]
 have far:rs≠rn:=fresh_ne hrn f2
 have inv:BI h4 B rs rn i ⟨none,0,0⟩ [] []:=⟨f4,eF _ _,l4 _ _ (l3 _ _ f2),l4 _ _ f3,far,by simp,by simp⟩
 have l14:h1.le h4:=Hp.le_trans l2 (Hp.le_trans l3 l4)
 have hp2:2^i<=8192:=by
  have:=Nat.pow_le_pow_right (n:=2) (by omega) hn
  simpa using this
 have hB1:h1 B=none:=aF (Hp.le_trans l2 l3) hB
 have len:=sK i f 0 []
 simp only [List.length_nil]at len
 refine N9 hn i f 0 t h4 ⟨none,0,0⟩ [] [] h1 _ inv l14 hB1 hrs (aF l2 hrn) (by simp) (ht.mono l1) (by omega) (by simp;omega) ?_
 intro s5 es5 h5 inv5 l5 _
 have hs5:s5.n=(mkD i f 0 []).2.length:=by have:=inv5.buf.1;rw [mF]at this;omega
 have b1B:b1≠B:=fun h=>by subst h;rw [e1,bR]at hB1;cases hB1
 have g1:h5 b1=some (.inl ⟨[I 0, .slice none 0 0,I 0],3,false⟩):=l5 _ _ (by rw [e1,bR])
 simp only [vm,mm,inv5.row]
 refine⟨_,rfl,by omega,?_⟩
 rw [hs5]
 have g1':(h5.row B [I i,s5.v,I (mkD i f 0 []).1, .map (some rs), .map (some rn)] 5) b1=some (.inl ⟨[I 0, .slice none 0 0,I 0],3,false⟩):=by rw [bX _ _ b1B];exact g1
 have l15:h.le (h5.row B [I i,s5.v,I (mkD i f 0 []).1, .map (some rs), .map (some rn)] 5):=eg _ _ (aF l1 hB1) (Hp.le_trans l1 l5)
 refine ac (fun e=>?_) (fun e=>?_)
 ·have e':600<(mkD i f 0 []).2.length:=by simp at e;omega
  simp only [vm,mm,g1']
  exact⟨by omega,_,eg _ _ hb1 l15,k0 (by simp [oe,e'])⟩
 ·have e': ¬600<(mkD i f 0 []).2.length:=by simp at e;omega
  have hbuf:SlC (h5.row B [I i,s5.v,I (mkD i f 0 []).1, .map (some rs), .map (some rn)] 5) s5 3 (bK (mkD i f 0 []).2):=by
   refine Buf.slc ⟨inv5.buf.1,inv5.buf.2.1,inv5.buf.2.2.imp id ?_⟩ (by omega)
   rintro ⟨c,hc,hcb⟩
   exact⟨c,hc,by rw [bX _ _ (inv5.own _ hc)];exact hcb⟩
  refine ON hbuf (by omega) fun t6 h6 l6 ho=>⟨_,_,_,rfl,?_⟩
  have g6:=l6 _ _ g1'
  simp only [vm,mm,g6]
  refine⟨by omega,_,Hp.le_refl _,k1 _ (by simp [oe,e']) t6 _ (eg _ _ hb1 (Hp.le_trans l15 l6)) (ho.mono ?_)⟩
  exact L4 _ _ (lP g1') (Fk _ l15)
structure Bd where
 v:Int
 ns:List Nd
 r:Int
 ok:Bool
def iW :Bd:=⟨0, [],0,false⟩
def cO (v:Int) (f:Nat->Bool):Bd:=if 0<=v/\v<=13 then(match oe v.toNat f with|none=>iW|some r=>⟨v,r.2,r.1,true⟩)else iW
theorem Pz {h:Hp} {s:Sl} {ns:List Nd} (e:SlC h s 3 (bK ns)) {i:Nat} (hi:i<ns.length):
  ∃b o,s.a=some (Addr.mk b o none)/\Hp.cell h b (o+i*3)=some (I ns[i].v)/\Hp.cell h b (o+i*3+1)=some (I ns[i].lo)/\Hp.cell h b (o+i*3+2)=some (I ns[i].hi):=by
 have hl:=e.2.1
 rw [mF]at hl
 obtain⟨b,o,ha,hc⟩:=SlC.get e (by omega)
 have key: ∀(ns:List Nd) (i:Nat) (hi:i<ns.length),(bK ns)[i*3]?=some (I ns[i].v)/\(bK ns)[i*3+1]?=some (I ns[i].lo)/\(bK ns)[i*3+2]?=some (I ns[i].hi):=by
  intro ns
  induction ns with
  |nil=>intro i hi;simp at hi
  |cons n ns ih=>
   intro i hi
   cases i with
   |zero=>simp [bK]
   |succ i=>
    have:=ih i (by simpa using hi)
    have hx:bK (n::ns)=I n.v::I n.lo::I n.hi::bK ns:=rfl
    rw [hx,show (i+1)*3=i*3+3 by omega]
    simpa using this
 obtain⟨k1,k2,k3⟩:=key ns i hi
 exact⟨b,o,ha,hc _ _ k1,by rw [Nat.add_assoc];exact hc _ _ k2,by rw [Nat.add_assoc];exact hc _ _ k3⟩
theorem Kp {h:Hp} {s:Sl} {ns:List Nd} (e:SlC h s 3 (bK ns)):s.n=ns.length:=by
 have hl:=e.2.1
 rw [mF]at hl;omega
def sW (h:Hp) (s:Sl) (xs:List Int):Prop:=Buf h s 1 (xs.map I)
theorem sW.len {h:Hp} {s:Sl} {xs:List Int} (e:sW h s xs):s.n=xs.length:=by have:=e.1;simp at this;omega
theorem sW.ints {h:Hp} {s:Sl} {xs:List Int} (e:sW h s xs) (hn:xs.length<=1048576):IntS h s xs:=Buf.slc e (by rw [e.len];omega)
theorem sW.mono {h h':Hp} {s:Sl} {xs:List Int} (l:h.le h') (e:sW h s xs):sW h' s xs:=Buf.mono l e
theorem LC {h:Hp} {s:Sl} {xs:List Int} {x:Int} {b:Nat} {K:Option Addr->Nat->Nat->Hp->Prop} (hb:sW h s xs) (hl:xs.length<=1048576) (hc:Hp.cell h b 0=some (I x))
  (k: ∀(s':Sl) (h':Hp),sW h' s' (xs++ [x])->(h.offS s).le (h'.offS s')->K s'.a s'.n s'.c h'):ck h s.a s.n s.c (some ⟨b,0,none⟩) 1 1 8 K:=by
 refine dp hb (by omega) (by rw [hb.len];omega) (by rw [hb.len];omega) ⟨b,0,rfl,fun i v hi=>?_⟩ (news:= [I x]) rfl rfl ?_
 ·cases i with
  |zero=>simp at hi;subst hi;exact hc
  |succ i=>simp at hi
 ·intro s' h' hn hbuf hle _
  exact k s' h' (by unfold sW;rw [List.map_append];exact hbuf) hle
structure fS (h h':Hp) (t:Sl) (set:List Int):Prop where
 buf:sW h' t set
 le:h.le (h'.offS t)
theorem fS.keep {h h':Hp} {t:Sl} {set:List Int} (e:fS h h' t set):h.le h':=Hp.le_trans e.le (bk _ _)
theorem fS.app {h h':Hp} {t:Sl} {set:List Int} {x:Int} {b:Nat} {K:Option Addr->Nat->Nat->Hp->Prop} (e:fS h h' t set) (hl:set.length<=1048576) (hb:h' b=none)
  (k: ∀(t':Sl) (h'':Hp),fS h h'' t' (set++ [x])->K t'.a t'.n t'.c h''):ck (h'.row b [I x] 1) t.a t.n t.c (some ⟨b,0,none⟩) 1 1 8 K:=by
 have l:=eM [I x] 1 hb
 refine LC (e.buf.mono l) hl (qh _ _ _ _ _) fun t' h'' hb' hl'=>k t' h'' ⟨hb',Hp.le_trans (Hp.le_trans e.le (bM t l)) hl'⟩
theorem fS.own {h h':Hp} {t:Sl} {set:List Int} (e:fS h h' t set) (hl:set.length<=1048576):Own (h'.sub h) t 1 (set.map I):=by
 have hn:=e.buf.len
 refine⟨e.buf.1,by omega,?_⟩
 rcases e.buf.2.2 with ⟨_,h0,_⟩|⟨b,ha,hb⟩
 ·exact .inl h0
 ·refine .inr ⟨b,t.c*1,ha,?_⟩
  rw [lv]
  ·exact hb
  ·refine aF e.le ?_
   simp [Hp.offS,ha,Hp.off,Hp.set]
theorem fT.all {v:Int} {l:List Int} (e:fT v l=true): ∀x∈l,x≠0/\ -v<=x/\x<=v:=fun x hx=>F1.iff.1 (fT.lit e hx)
def AX (set:List Int):List (Value×Value):=set.map fun x=>(I x, .bool true)
theorem QD (set:List Int) (n:Int): ∃res,fz (Instr.sameNow (.int .i64) (I n)) (AX set) 0=some res/\Option.getD (Option.map (fun p=>p.2) res) (.bool false)= .bool (set.contains n)/\
  uX (AX set) (I n) (.bool true) res=AX (if set.contains n then set else set++ [n]):=by
 unfold AX
 rcases qj (Instr.sameNow (.int .i64) (I n)) (fun x:Int=>I x) (fun _=> .bool true) (fun x=>n==x) set 0 (fun x _=>LG _ _ _)with ⟨hno,hm⟩|⟨j,hj,hyes,_,hm⟩
 ·have hc:set.contains n=false:=by
   rw [Bool.eq_false_iff];intro h
   have:=hno n (by simpa using h)
   simp at this
  exact⟨_,hm,by rw [hc];rfl,by rw [hc];simp [uX]⟩
 ·have he:n=set[j]:=by simpa using hyes
  have hc:set.contains n=true:=by
   rw [he];simp
  refine⟨_,hm,by rw [hc];rfl,?_⟩
  rw [hc,if_pos rfl]
  simp only [uX,Nat.zero_add]
  apply List.ext_getElem
  ·simp
  ·intro i h1 h2
   rw [List.getElem_set]
   split
   ·rename_i hij;subst hij;simp [he]
   ·rfl
structure Yc (h h':Hp) (rm:Nat) (set:List Int):Prop where
 map:h' rm=some (.inr (AX set))
 le:h.le h'
 new:h rm=none
theorem Yc.put {h h':Hp} {rm:Nat} {set set':List Int} (e:Yc h h' rm set):Yc h (h'.set rm (some (.inr (AX set')))) rm set':=
 ⟨Hp.set_eq ..,qX _ e.le e.new,e.new⟩
structure du (h h':Hp) (t:Sl) (xss:List (List Int)):Prop where
 buf: ∃ts:List Sl,Buf h' t 1 (ts.map Sl.v)/\ts.length=xss.length/\ ∀(i:Nat) (h1:i<ts.length) (h2:i<xss.length),IntS h ts[i] xss[i]
 le:h.le (h'.offS t)
theorem du.keep {h h':Hp} {t:Sl} {xss:List (List Int)} (e:du h h' t xss):h.le h':=Hp.le_trans e.le (bk _ _)
theorem du.ints {h h':Hp} {t:Sl} {xss:List (List Int)} (e:du h h' t xss) (hl:xss.length<=1048576):IntSS h' t xss:=by
 obtain⟨ts,hb,h1,h2⟩:=e.buf
 have hn:t.n=xss.length:=by have:=hb.1;simp at this;omega
 exact⟨ts,h1,hb.slc (by omega),fun i a b=>(h2 i a b).mono e.keep⟩
theorem du.app {h h':Hp} {t u:Sl} {xss:List (List Int)} {x:List Int} {b:Nat} {K:Option Addr->Nat->Nat->Hp->Prop} (e:du h h' t xss) (hl:xss.length<=1048576) (hu:IntS h u x) (hb:h' b=none)
  (k: ∀(t':Sl) (h'':Hp),du h h'' t' (xss++ [x])->K t'.a t'.n t'.c h''):ck (h'.row b [u.v] 1) t.a t.n t.c (some ⟨b,0,none⟩) 1 1 24 K:=by
 have l:=eM [u.v] 1 hb
 obtain⟨ts,hbuf,h1,h2⟩:=e.buf
 have hn:t.n=xss.length:=by have:=hbuf.1;simp at this;omega
 refine dp (hbuf.mono l) (by omega) (by omega) (by omega) ⟨b,0,rfl,fun i v hi=>?_⟩ (news:= [u.v]) rfl rfl ?_
 ·cases i with
  |zero=>simp at hi;subst hi;exact qh _ _ _ _ _
  |succ i=>simp at hi
 ·intro t' h'' hn' hb' hle _
  refine k t' h'' ⟨⟨ts++ [u],by rw [List.map_append];exact hb',by simp [h1],?_⟩,Hp.le_trans (Hp.le_trans e.le (bM t l)) hle⟩
  intro i a c
  by_cases hi:i<ts.length
  ·rw [List.getElem_append_left hi,List.getElem_append_left (by omega)];exact h2 i hi (by omega)
  ·have:i=ts.length:=by simp at a;omega
   subst this
   simp only [List.getElem_append_right (Nat.le_refl _),Nat.sub_self,List.getElem_cons_zero]
   simp only [h1,List.getElem_append_right (Nat.le_refl _),Nat.sub_self,List.getElem_cons_zero]
   exact hu
def vn (S:List Int) (l:List Int):Prop:=
 (∃x∈l,x∈S)\/ ∃x∈l,∃y∈l,x≠y/\(x∉S/\ -x∉S)/\(y∉S/\ -y∉S)
def OE (S:List Int):Prop:= ∀x∈S, -x∉S
def WfL (v:Int) (l:List Int):Prop:= ∀x∈l,x≠0/\ -v<=x/\x<=v
def WfC (v:Int) (c:List (List Int)):Prop:= ∀l∈c,WfL v l
theorem Dd (set:List Int): ∀(l:List Int) (left:Int),(∀x∈l,x≠0)->(left≠0->left∉set/\ -left∉set)->
  (gj set l left=(0,false)/\((∃x∈l,x∈set)\/ ∃x∈l,∃y∈left::l,y≠0/\x≠y/\(x∉set/\ -x∉set)/\(y∉set/\ -y∉set)))\/
  ((gj set l left).2=((gj set l left).1==0)/\(left≠0->(gj set l left).1=left)/\ ∀x∈l,x=(gj set l left).1\/ -x∈set):=by
 intro l
 induction l with
 |nil=>intro left _ _;exact .inr ⟨rfl,fun _=>rfl,by simp⟩
 |cons x r ih=>
  intro left hx ho
  have hr:=fun y hy=>hx y (List.mem_cons_of_mem _ hy)
  have hx0:=hx x (by simp)
  simp only [gj]
  by_cases h1:set.contains x=true
  ·rw [if_pos h1];exact .inl ⟨rfl, .inl ⟨x,by simp,by simpa using h1⟩⟩
  rw [if_neg h1]
  by_cases h2:set.contains (-x)=true
  ·rw [if_pos h2]
   rcases ih left hr ho with ⟨e,h⟩|⟨e,h,h'⟩
   ·refine .inl ⟨e,?_⟩
    rcases h with ⟨z,hz,hs⟩|⟨z,hz,y,hy,h⟩
    ·exact .inl ⟨z,by simp [hz],hs⟩
    ·refine .inr ⟨z,by simp [hz],y,?_,h⟩
     rcases List.mem_cons.1 hy with rfl|hy
     ·simp
     ·simp [hy]
   ·refine .inr ⟨e,h,?_⟩
    intro z hz
    rcases List.mem_cons.1 hz with rfl|hz
    ·exact .inr (by simpa using h2)
    ·exact h' z hz
  rw [if_neg h2]
  have hxo:x∉set/\ -x∉set:=⟨by simpa using h1,by simpa using h2⟩
  by_cases h3:(left !=0&&left !=x)=true
  ·rw [if_pos h3]
   simp at h3
   exact .inl ⟨rfl, .inr ⟨x,by simp,left,by simp,h3.1,fun e=>h3.2 e.symm,hxo,ho h3.1⟩⟩
  rw [if_neg h3]
  have hl:left≠0->left=x:=by simpa using h3
  rcases ih x hr (fun _=>hxo)with ⟨e,h⟩|⟨e,h,h'⟩
  ·refine .inl ⟨e,?_⟩
   rcases h with ⟨z,hz,hs⟩|⟨z,hz,y,hy,h⟩
   ·exact .inl ⟨z,by simp [hz],hs⟩
   ·exact .inr ⟨z,by simp [hz],y,List.mem_cons_of_mem _ hy,h⟩
  ·refine .inr ⟨e,fun h0=>?_,?_⟩
   ·rw [h hx0,hl h0]
   ·intro z hz
    rcases List.mem_cons.1 hz with rfl|hz
    ·exact .inl (h hx0).symm
    ·exact h' z hz
theorem QG {set S l:List Int} (hs:set⊆S) (hc:OE S) (hl: ∀x∈l,x≠0) (st:vn S l):
  (gj set l 0).2=false/\((gj set l 0).1≠0->(gj set l 0).1∈S):=by
 rcases Dd set l 0 hl (fun h=>absurd rfl h)with ⟨e,_⟩|⟨e,_,h⟩
 ·rw [e];exact⟨rfl,fun h=>absurd rfl h⟩
 ·obtain⟨x,hx,hn,hS⟩: ∃x∈l,x=(gj set l 0).1/\x∈S:=by
   rcases st with ⟨x,hx,hS⟩|⟨x,hx,y,hy,hne,hxo,hyo⟩
   ·rcases h x hx with h1|h1
    ·exact⟨x,hx,h1,hS⟩
    ·exact absurd (hs h1) (hc x hS)
   ·rcases h x hx with h1|h1
    ·rcases h y hy with h2|h2
     ·exact absurd (h1.trans h2.symm) hne
     ·exact absurd (hs h2) hyo.2
    ·exact absurd (hs h1) hxo.2
  rw [e,<-hn]
  exact⟨by simpa using hl x hx,fun _=>hS⟩
theorem KY {set l:List Int} (hl: ∀x∈l,x≠0) (h1:(gj set l 0).2=false) (h2:(gj set l 0).1=0):vn set l:=by
 rcases Dd set l 0 hl (fun h=>absurd rfl h)with ⟨e,h⟩|⟨e,_,h⟩
 ·refine h.imp id ?_
  rintro ⟨x,hx,y,hy,hy0,h⟩
  rcases List.mem_cons.1 hy with rfl|hy
  ·exact absurd rfl hy0
  ·exact⟨x,hx,y,hy,h⟩
 ·rw [h1,h2]at e;simp at e
theorem Ji {S:List Int} (hc:OE S): ∀(cls:List (List Int)) (set:List Int) (more:Bool),set⊆S->(∀l∈cls,(∀x∈l,x≠0)/\vn S l)->
  ∃set' more',ly cls set more=some (set',more')/\set'⊆S:=by
 intro cls
 induction cls with
 |nil=>intro set more hs _;exact⟨set,more,rfl,hs⟩
 |cons l r ih=>
  intro set more hs hl
  have h:=QG hs hc (hl l (by simp)).1 (hl l (by simp)).2
  have hr:=fun l' h'=>hl l' (List.mem_cons_of_mem _ h')
  simp only [ly,h.1,Bool.false_eq_true,if_false]
  split
  ·rename_i hne
   refine ih _ _ ?_ hr
   intro x hx
   rcases List.mem_append.1 hx with hx|hx
   ·exact hs hx
   ·simp only [List.mem_singleton]at hx;subst hx;exact h.2 (by simpa using hne)
  ·exact ih _ _ hs hr
theorem MB : ∀(cls:List (List Int)) (set:List Int) (more:Bool) (set':List Int) (more':Bool),ly cls set more=some (set',more')->set⊆set':=by
 intro cls
 induction cls with
 |nil=>intro set more set' more' h;simp only [ly,Option.some.injEq,Prod.mk.injEq]at h;rw [h.1];exact fun x hx=>hx
 |cons l r ih=>
  intro set more set' more' h
  simp only [ly]at h
  split at h
  ·cases h
  ·split at h
   ·exact fun x hx=>ih _ _ _ _ h (List.mem_append_left _ hx)
   ·exact ih _ _ _ _ h
theorem Br : ∀(cls:List (List Int)) (set:List Int) (more:Bool) (set':List Int),(∀l∈cls,∀x∈l,x≠0)->ly cls set more=some (set',false)->
  more=false/\set'=set/\ ∀l∈cls,vn set l:=by
 intro cls
 induction cls with
 |nil=>intro set more set' _ h;simp only [ly,Option.some.injEq,Prod.mk.injEq]at h;exact⟨h.2,h.1.symm,by simp⟩
 |cons l r ih=>
  intro set more set' hl h
  have hr:=fun l' h'=>hl l' (List.mem_cons_of_mem _ h')
  simp only [ly]at h
  split at h
  ·cases h
  ·rename_i h1
   split at h
   ·have:=(ih _ _ _ hr h).1;cases this
   ·rename_i h2
    obtain⟨e1,e2,e3⟩:=ih _ _ _ hr h
    refine⟨e1,e2,?_⟩
    intro l' h'
    rcases List.mem_cons.1 h' with rfl|h'
    ·exact KY (hl _ (by simp)) (by simpa using h1) (by simpa using h2)
    ·exact e3 l' h'
theorem uC {cls:List (List Int)} {set:List Int} {v:Int} (hv0:0<=v) (hv:v<=10) (hc:WfC v cls) (k:pX v set):
  kg cls set=match ly cls set false with|none=>none|some (set',more)=>if more then kg cls set' else some set':=by
 rw [kg]
 cases hp:ly cls set false with
 |none=>rfl
 |some p=>
  obtain⟨set',more⟩:=p
  obtain⟨k',hl,hm⟩:=qb cls set false k hc _ _ hp
  cases more with
  |false=>rfl
  |true=>
   have h1:set.length<set'.length:=by
    rcases hm rfl with h|h
    ·cases h
    ·exact h
   have h2:=k'.len hv hv0
   simp [h1,h2]
theorem Lr {S:List Int} (hS:OE S) {cls:List (List Int)} {v:Int} (hv0:0<=v) (hv:v<=10) (hc:WfC v cls) (hst: ∀l∈cls,vn S l):
  ∀(n:Nat) (set:List Int),20-set.length<=n->pX v set->set⊆S-> ∃set',kg cls set=some set'/\set'⊆S:=by
 intro n
 induction n with
 |zero=>
  intro set hn k hs
  obtain⟨set',more',hp,hs'⟩:=Ji hS cls set false hs (fun l h=>⟨fun x hx=>(hc l h x hx).1,hst l h⟩)
  obtain⟨k',hl,hm⟩:=qb cls set false k hc _ _ hp
  have h2:=k'.len hv hv0
  rw [uC hv0 hv hc k,hp]
  cases more' with
  |false=>exact⟨set',rfl,hs'⟩
  |true=>
   rcases hm rfl with h|h
   ·cases h
   ·omega
 |succ n ih=>
  intro set hn k hs
  obtain⟨set',more',hp,hs'⟩:=Ji hS cls set false hs (fun l h=>⟨fun x hx=>(hc l h x hx).1,hst l h⟩)
  obtain⟨k',hl,hm⟩:=qb cls set false k hc _ _ hp
  rw [uC hv0 hv hc k,hp]
  cases more' with
  |false=>exact⟨set',rfl,hs'⟩
  |true=>
   rcases hm rfl with h|h
   ·cases h
   ·exact ih set' (by omega) k' hs'
theorem GZ {cls:List (List Int)} {v:Int} (hv0:0<=v) (hv:v<=10) (hc:WfC v cls):
  ∀(n:Nat) (set set':List Int),20-set.length<=n->pX v set->kg cls set=some set'->set⊆set'/\pX v set'/\ ∀l∈cls,vn set' l:=by
 intro n
 induction n with
 |zero=>
  intro set set' hn k h
  rw [uC hv0 hv hc k]at h
  cases hp:ly cls set false with
  |none=>rw [hp]at h;cases h
  |some p=>
   obtain⟨s,more⟩:=p
   rw [hp]at h
   obtain⟨k',hl,hm⟩:=qb cls set false k hc _ _ hp
   have h2:=k'.len hv hv0
   cases more with
   |true=>
    rcases hm rfl with h|h
    ·cases h
    ·omega
   |false=>
    simp only [Bool.false_eq_true,if_false,Option.some.injEq]at h
    subst h
    have:=Br cls set false s (fun l h x hx=>(hc l h x hx).1) hp
    rw [this.2.1]
    exact⟨fun x hx=>hx,k,this.2.2⟩
 |succ n ih=>
  intro set set' hn k h
  rw [uC hv0 hv hc k]at h
  cases hp:ly cls set false with
  |none=>rw [hp]at h;cases h
  |some p=>
   obtain⟨s,more⟩:=p
   rw [hp]at h
   obtain⟨k',hl,hm⟩:=qb cls set false k hc _ _ hp
   cases more with
   |true=>
    rcases hm rfl with h'|h'
    ·cases h'
    ·simp only [if_true]at h
     obtain⟨a,b,c⟩:=ih s set' (by omega) k' h
     exact⟨fun x hx=>a (MB _ _ _ _ _ hp hx),b,c⟩
   |false=>
    simp only [Bool.false_eq_true,if_false,Option.some.injEq]at h
    subst h
    have:=Br cls set false s (fun l h x hx=>(hc l h x hx).1) hp
    rw [this.2.1]
    exact⟨fun x hx=>hx,k,this.2.2⟩
theorem NR {S:List Int} (hS:OE S): ∀(g set:List Int),g⊆S->set⊆S-> ∃set',rP g set=some set'/\set'⊆S:=by
 intro g
 induction g with
 |nil=>intro set _ hs;exact⟨set,rfl,hs⟩
 |cons x r ih=>
  intro set hg hs
  have hx:x∈S:=hg (by simp)
  have hr:r⊆S:=fun y hy=>hg (List.mem_cons_of_mem _ hy)
  have hn: ¬set.contains (-x)=true:=fun h=>hS x hx (hs (by simpa using h))
  simp only [rP,if_neg hn]
  refine ih _ hr ?_
  split
  ·exact hs
  ·intro y hy
   rcases List.mem_append.1 hy with hy|hy
   ·exact hs hy
   ·simp only [List.mem_singleton]at hy;subst hy;exact hx
theorem N5 : ∀(g set set':List Int),rP g set=some set'->set⊆set'/\g⊆set':=by
 intro g
 induction g with
 |nil=>intro set set' h;simp only [rP,Option.some.injEq]at h;subst h;exact⟨fun x hx=>hx,by simp⟩
 |cons x r ih=>
  intro set set' h
  simp only [rP]at h
  split at h
  ·cases h
  ·obtain⟨h1,h2⟩:=ih _ _ h
   split at h1
   ·rename_i hx
    refine⟨h1,?_⟩
    intro y hy
    rcases List.mem_cons.1 hy with rfl|hy
    ·exact h1 (by simpa using hx)
    ·exact h2 hy
   ·refine⟨fun y hy=>h1 (List.mem_append_left _ hy),?_⟩
    intro y hy
    rcases List.mem_cons.1 hy with rfl|hy
    ·exact h1 (by simp)
    ·exact h2 hy
section
variable {cls :List (List Int)} {given:List Int} {v:Int}
theorem II (hv0:0<=v) (hv:v<=10) (hc:WfC v cls) (hg:WfL v given) {S:List Int} (hS:OE S) (hgS:given⊆S) (hst: ∀l∈cls,vn S l):
  ∃set,jG cls given=some set/\set⊆S:=by
 obtain⟨s,h1,h2⟩:=NR hS given [] hgS (by simp)
 obtain⟨s',h3,h4⟩:=Lr hS hv0 hv hc hst _ s (Nat.le_refl _) (BC given [] (IE v) hg s h1) h2
 exact⟨s',by rw [jG,h1];exact h3,h4⟩
theorem uZ (hv0:0<=v) (hv:v<=10) (hc:WfC v cls) (hg:WfL v given) {set:List Int} (h:jG cls given=some set):
  OE set/\given⊆set/\(∀l∈cls,vn set l)/\pX v set:=by
 rw [jG]at h
 cases h1:rP given []with
 |none=>rw [h1]at h;cases h
 |some s=>
  rw [h1]at h
  have k:=BC given [] (IE v) hg s h1
  obtain⟨a,b,c⟩:=GZ hv0 hv hc _ s set (Nat.le_refl _) k h
  exact⟨b.cons,fun x hx=>a ((N5 _ _ _ h1).2 hx),c,b⟩
theorem Ah (hv0:0<=v) (hv:v<=10) {cls':List (List Int)} {given':List Int} (hc:WfC v cls') (hg:WfL v given') (h1:cls⊆cls') (h2:given⊆given')
  (h:jG cls given=none):jG cls' given'=none:=by
 cases h':jG cls' given' with
 |none=>rfl
 |some set=>
  obtain⟨a,b,c,_⟩:=uZ hv0 hv hc hg h'
  obtain⟨s,hs,_⟩:=II hv0 hv (fun l hl=>hc l (h1 hl)) (fun x hx=>hg x (h2 hx)) a (fun x hx=>b (h2 hx)) (fun l hl=>c l (h1 hl))
  rw [hs]at h;cases h
end
def g9 (cls:List (List Int)) (p:List (List Int)):Prop:= ∀(i:Nat) (h:i<p.length),jG (cls++p.take i) (p[i].map (- ·))=none
theorem EO {v:Int} {l:List Int} (h:WfL v l):WfL v (l.map (- ·)):=by
 intro x hx
 obtain⟨y,hy,rfl⟩:=List.mem_map.1 hx
 have:=h y hy
 omega
theorem uV {v:Int} {a b:List (List Int)} (ha:WfC v a) (hb:WfC v b):WfC v (a++b):=by
 intro l hl
 rcases List.mem_append.1 hl with h|h
 ·exact ha l h
 ·exact hb l h
theorem LP {v:Int} {a:List (List Int)} (ha:WfC v a) (n:Nat):WfC v (a.take n):=fun l hl=>ha l (List.mem_of_mem_take hl)
theorem g9.mono {v:Int} (hv0:0<=v) (hv:v<=10) {cls cls' p:List (List Int)} (hc:WfC v cls') (hp:WfC v p) (hs:cls⊆cls') (h:g9 cls p):g9 cls' p:=by
 intro i hi
 refine Ah hv0 hv (uV hc (LP hp i)) (EO (hp _ (List.getElem_mem hi))) ?_ (fun x hx=>hx) (h i hi)
 intro l hl
 rcases List.mem_append.1 hl with h|h
 ·exact List.mem_append_left _ (hs h)
 ·exact List.mem_append_right _ h
theorem g9.snoc {cls p:List (List Int)} {l:List Int} (h:g9 cls p) (hl:jG (cls++p) (l.map (- ·))=none):g9 cls (p++ [l]):=by
 intro i hi
 by_cases hlt:i<p.length
 ·rw [List.getElem_append_left hlt,List.take_append_of_le_length (by omega)]
  exact h i hlt
 ·have:i=p.length:=by simp at hi;omega
  subst this
  simp only [List.getElem_append_right (Nat.le_refl _),Nat.sub_self,List.getElem_cons_zero]
  rw [List.take_left' rfl];exact hl
theorem g9.pre {cls p q:List (List Int)} (h:g9 cls p) (hq:q<+:p):g9 cls q:=by
 obtain⟨r,rfl⟩:=hq
 intro i hi
 have:=h i (by simp;omega)
 rwa [List.getElem_append_left hi,List.take_append_of_le_length (by omega)]at this
def uE (B:List Int):Prop:= ∀(i:Nat) (h:i<B.length),B[i]=(i:Int)+1\/B[i]= -((i:Int)+1)
theorem uE.snoc {B:List Int} (h:uE B) {x:Int} (hx:x=(B.length:Int)+1\/x= -((B.length:Int)+1)):uE (B++ [x]):=by
 intro i hi
 by_cases hlt:i<B.length
 ·rw [List.getElem_append_left hlt];exact h i hlt
 ·have:i=B.length:=by simp at hi;omega
  subst this
  simp only [List.getElem_append_right (Nat.le_refl _),Nat.sub_self,List.getElem_cons_zero]
  exact hx
def cR :Nat->(Nat->Bool)->Nat
 |0,_=>0
 |n+1,f=>cR n f+(if f n then 2^n else 0)
theorem qZ (n:Nat) (f:Nat->Bool):cR n f<2^n:=by
 induction n with
 |zero=>simp [cR]
 |succ n ih=>simp only [cR,Nat.pow_succ];split<;>omega
theorem rG (n:Nat) (f:Nat->Bool): ∀i,i<n->(cR n f).testBit i=f i:=by
 induction n with
 |zero=>intro i h;omega
 |succ n ih=>
  intro i hi
  have hl:=qZ n f
  simp only [cR]
  by_cases h:i=n
  ·subst h
   cases hf:f i with
   |true=>rw [if_pos rfl,Nat.add_comm,Nat.testBit_two_pow_add_eq,Nat.testBit_lt_two_pow hl];rfl
   |false=>simp [Nat.testBit_lt_two_pow hl]
  ·cases hf:f n with
   |true=>rw [if_pos rfl,Nat.add_comm,Nat.testBit_two_pow_add_gt (by omega)];exact ih i (by omega)
   |false=>simp only [Bool.false_eq_true,if_false,Nat.add_zero];exact ih i (by omega)
structure MI (h:Hp) (K:Nat) (vars:Nat) (tb s:Sl) (ns:List Nd):Prop where
 row:h K=some (.inl ⟨[I vars,tb.v,s.v],3,false⟩)
 buf:Buf h s 3 (bK ns)
 own: ∀a,s.a=some a->a.block≠K
theorem MI.mono {h h':Hp} {K vars:Nat} {tb s:Sl} {ns:List Nd} (l:h.le h') (e:MI h K vars tb s ns):MI h' K vars tb s ns:=⟨l _ _ e.row,e.buf.mono l,e.own⟩
theorem MI.blkB {h:Hp} {K vars:Nat} {tb s:Sl} {ns:List Nd} (e:MI h K vars tb s ns): ∀b∈ [K]++s.blk,∃x,h b=some x:=by
 intro b hb
 simp only [List.cons_append,List.nil_append,List.mem_cons]at hb
 rcases hb with rfl|hb
 ·exact⟨_,e.row⟩
 ·revert b hb
  refine vC.2 fun a ha=>?_
  rcases e.buf.2.2 with ⟨h0,_⟩|⟨c,hc,hcb⟩
  ·rw [h0]at ha;cases ha
  ·rw [hc]at ha;cases ha;exact⟨_,hcb⟩
theorem MI.len {h:Hp} {K vars:Nat} {tb s:Sl} {ns:List Nd} (e:MI h K vars tb s ns):s.n=ns.length:=by
 have:=e.buf.1;rw [mF]at this;omega
def cY (h:Hp) (t:Sl) (n:Nat) (T:Nat->Bool):Prop:=qK h t ((List.range n).map T)
theorem cY.mono {h h':Hp} {t:Sl} {n:Nat} {T:Nat->Bool} (l:h.le h') (e:cY h t n T):cY h' t n T:=qK.mono l e
theorem oJ {h:Hp} {c:Bool} {R:Value->Hp->Prop} (k:R (I (if c then 1 else 0)) h):gu #[.bool c] h R:=by
 apply Bm
 refine uf_ ?_
 cases c<;>exact k
theorem QB {K vars:Nat} (hvars:vars<=13) {tb:Sl} {T:Nat->Bool}: ∀(n v fixed:Nat) (h:Hp) (s:Sl) (ns:List Nd) (g:Hp) (R:Value->Hp->Prop),
  MI h K vars tb s ns->g.le h->g K=none->(∀a,s.a=some a->g a.block=none)->cY g tb (2^vars) T->v+n=vars->fixed<2^v->ns.length+2^n<=1048576->
  (∀s' h',MI h' K vars tb s' (mkD n (fun i=>T (fixed+i*2^v)) v ns).2->g.le h'->(∀a,s'.a=some a->g a.block=none)->R (I (mkD n (fun i=>T (fixed+i*2^v)) v ns).1) h')->
  gm #[.pointer (some ⟨K,0,none⟩),I v,I fixed] h R:=by
 intro n
 induction n with
 |zero=>
  intro v fixed h s ns g R inv hg gK gs ht hv hfix hlen k
  apply qH
  refine uf_ ?_
  have hvv:v=vars:=by omega
  subst hvv
  obtain⟨b,o,ha,hc⟩:=(ht.mono hg).at (i:=fixed) (by simp;exact hfix)
  have hl:=ht.len
  simp only [List.length_map,List.length_range]at hl
  simp only [vm,aq inv.row,mm]
  refine aJ (by simp) ?_
  simp only [vm,mm,ha,hc,hl]
  have hfi:((fixed:Nat):Int)<((2^v:Nat):Int):=by exact_mod_cast hfix
  refine⟨hfi,oJ ⟨_,rfl,?_⟩⟩
  have:=k s h inv hg gs
  simp only [mkD,Nat.zero_mul,Nat.add_zero]at this
  have e0:(((List.range (2^v)).map T)[fixed]'(by simp;exact hfix))=T fixed:=by simp
  rw [e0]
  cases hT:T fixed<;>simpa [hT] using this
 |succ n ih=>
  intro v fixed h s ns g R inv hg gK gs ht hv hfix hlen k
  apply qH
  refine uf_ ?_
  have hp:2^(n+1)=2*2^n:=by rw [Nat.pow_succ];omega
  have hpv:2^(v+1)=2*2^v:=by rw [Nat.pow_succ];omega
  have hp1:0<2^n:=Nat.pow_pos (by omega)
  have hv13:2^v<=8192:=by
   have:=Nat.pow_le_pow_right (n:=2) (by omega) (show v<=13 by omega)
   simpa using this
  simp only [vm,aq inv.row,mm]
  refine aD (by simp;omega) ?_
  rw [aA (by omega)]
  have elo:(fun i=>T (fixed+2*i*2^v))=fun i=>T (fixed+i*2^(v+1)):=by funext i;rw [hpv];congr 2;rw [Nat.mul_comm 2 i,Nat.mul_assoc]
  have ehi:(fun i=>T (fixed+(2*i+1)*2^v))=fun i=>T ((fixed+2^v)+i*2^(v+1)):=by
   funext i;rw [hpv];congr 1;rw [Nat.add_mul,Nat.one_mul,Nat.mul_comm 2 i,Nat.mul_assoc];omega
  have hmk:mkD (n+1) (fun i=>T (fixed+i*2^v)) v ns=
    (let r1:=mkD n (fun i=>T (fixed+i*2^(v+1))) (v+1) ns
     let r2:=mkD n (fun i=>T ((fixed+2^v)+i*2^(v+1))) (v+1) r1.2
     if r1.1=r2.1 then r2 else iz ⟨v,r1.1,r2.1⟩ r2.2):=by
   rw [<-elo,<-ehi];rfl
  have len1:=sK n (fun i=>T (fixed+i*2^(v+1))) (v+1) ns
  refine ih (v+1) fixed h s ns g _ inv hg gK gs ht (by omega) (by omega) (by omega) ?_
  intro s3 h3 inv3 lg3 gs3
  refine⟨_,rfl,?_⟩
  rw [cl (by omega),if_neg (by omega),bG (by omega)]
  have w1:W ((fixed:Int)+((2^v:Nat):Int))=((fixed+2^v:Nat):Int):=by rw [bV (by omega) (by omega)];omega
  rw [w1]
  have len2:=sK n (fun i=>T ((fixed+2^v)+i*2^(v+1))) (v+1) (mkD n (fun i=>T (fixed+i*2^(v+1))) (v+1) ns).2
  refine ih (v+1) (fixed+2^v) h3 s3 _ g _ inv3 lg3 gK gs3 ht (by omega) (by omega) (by omega) ?_
  intro s4 h4 inv4 lg4 gs4
  refine⟨_,rfl,?_⟩
  simp only at hmk
  generalize mkD n (fun i=>T (fixed+i*2^(v+1))) (v+1) ns=r1 at*
  generalize mkD n (fun i=>T ((fixed+2^v)+i*2^(v+1))) (v+1) r1.2=r2 at*
  refine ac (fun e=>?_) (fun e=>?_)
  ·have e':r1.1=r2.1:=by simp at e;omega
   rw [if_pos e']at hmk
   rw [hmk]at k
   rw [e']
   exact k s4 h4 inv4 lg4 gs4
  have e': ¬r1.1=r2.1:=by simp at e;omega
  rw [if_neg e']at hmk
  rw [hmk]at k
  have hnlen:r2.2.length<=1048576:=by omega
  intro b5 hb5
  have nK:=fresh_ne hb5 inv4.row
  have l5:=eM [I v,I r1.1,I r2.1] 3 hb5
  have hlen4:=inv4.len
  have hsl:SlC h4 s4 3 (bK r2.2):=inv4.buf.slc (by omega)
  refine⟨by omega,?_⟩
  refine av r2.2.length (fun i vs h'=>vs= [.pointer (some ⟨K,0,none⟩), .pointer (some ⟨b5,0,none⟩),I i]/\h'=h4.row b5 [I v,I r1.1,I r2.1] 3/\ ∀j (hj:j<r2.2.length),j<i->r2.2[j]≠⟨v,r1.1,r2.1⟩) ⟨rfl,rfl,fun j _ h=>by omega⟩ ?_
  rintro i _ _ next hi ⟨rfl,rfl,hp⟩ hn
  refine⟨_,_,_,_,rfl,?_⟩
  simp only [vm,mm,nK,ne_eq,not_false_eq_true,aq inv4.row]
  by_cases hlt:i<r2.2.length
  ·obtain⟨c,o,ha,c0,c1,c2⟩:=Pz (hsl.mono l5) hlt
   refine aJ (by simp [hlen4,hlt]) ?_
   simp only [vm,mm,nK,ne_eq,not_false_eq_true,aq inv4.row,hlen4,ha,c0,c1,c2]
   refine⟨by omega,ac (fun e=>?_) (fun e=>?_)⟩
   ·have he:r2.2[i]=⟨v,r1.1,r2.1⟩:=by
     have:r2.2[i].v=v/\r2.2[i].lo=r1.1/\r2.2[i].hi=r2.1:=by simp at e;omega
     rcases hh:r2.2[i]with ⟨a,b,c⟩
     rw [hh]at this
     obtain⟨rfl,rfl,rfl⟩:=this;rfl
    have hput:iz ⟨v,r1.1,r2.1⟩ r2.2=(i+2,r2.2):=by
     have:r2.2.idxOf? ⟨v,r1.1,r2.1⟩=some i:=by
      simp only [List.idxOf?,List.findIdx?_eq_some_iff_getElem]
      refine⟨hlt,by simp [he],fun j hj=>?_⟩
      have:=hp j (by omega) hj
      simpa using this
     simp [iz,this]
    rw [hput]at k
    have:=k s4 _ (inv4.mono l5) (Hp.le_trans lg4 l5) gs4
    rw [bV (by omega) (by omega)]
    exact this
   ·rw [aA (by omega)]
    refine hn hlt _ _ ⟨rfl,rfl,fun j hj hji=>?_⟩
    by_cases hjx:j=i
    ·subst hjx
     intro he
     rw [he]at e
     simp at e
    ·exact hp j hj (by omega)
  ·have:i=r2.2.length:=by omega
   subst this
   have hput:iz ⟨v,r1.1,r2.1⟩ r2.2=(r2.2.length+2,r2.2++ [⟨v,r1.1,r2.1⟩]):=by
    have:r2.2.idxOf? ⟨v,r1.1,r2.1⟩=none:=by
     simp only [List.idxOf?,List.findIdx?_eq_none_iff]
     intro x hx
     obtain⟨j,hj,rfl⟩:=List.getElem_of_mem hx
     have:=hp j hj hj
     simpa using this
    simp [iz,this]
   rw [hput]at k
   refine aD (by simp [hlen4]) ?_
   rintro b6 ⟨n65,hb6⟩
   have nK6:=fresh_ne hb6 inv4.row
   have l6:=eg [I v,I r1.1,I r2.1] 3 (show (h4.row b5 [I v,I r1.1,I r2.1] 3) b6=none by rw [wU];exact⟨n65,hb6⟩) (Hp.le_refl _)
   have hH:h4.le ((h4.row b5 [I v,I r1.1,I r2.1] 3).row b6 [I v,I r1.1,I r2.1] 3):=Hp.le_trans l5 l6
   refine⟨by rw [bX _ _ nK6,bX _ _ nK],?_⟩
   refine dp ((inv4.buf.mono l5).mono l6) (by omega) (by omega) (by omega) ⟨b6,0,rfl,ay (bR ..)⟩ (by simp) rfl ?_
   intro s7 h7 hn7 hb7 hl7 _
   obtain⟨f7K,o7K⟩:=j5 hl7 (hH _ _ inv4.row) inv4.own
   simp only [vm,mm,f7K]
   refine⟨by omega,?_⟩
   have e7:W ((s7.n:Int)+1)=((r2.2.length+2:Nat):Int):=by rw [hn7,hlen4,bV (by omega) (by omega)];omega
   rw [e7]
   refine k s7 _ ⟨bR ..,?_,o7K⟩ ?_ ?_
   ·rw [wQ]
    refine⟨hb7.1,hb7.2.1,hb7.2.2.imp id ?_⟩
    rintro ⟨c,hc,hcb⟩
    exact⟨c,hc,by rw [bX _ _ (o7K _ hc)];exact hcb⟩
   ·intro c x hcx
    have hcB:c≠K:=fun h=>by rw [h,gK]at hcx;cases hcx
    rw [bX _ _ hcB]
    exact(j5 hl7 (hH _ _ (lg4 _ _ hcx)) (fun a ha hac=>by rw [<-hac,gs4 a ha]at hcx;cases hcx)).1
   ·intro a ha
    cases hg7:g a.block with
    |none=>rfl
    |some x=>
     exact absurd rfl ((j5 hl7 (hH _ _ (lg4 _ _ hg7)) (fun a' ha' hac=>by rw [<-hac,gs4 a' ha']at hg7;cases hg7)).2 a ha)
theorem CM {h:Hp} {t:Sl} {n:Nat} {T:Nat->Bool} {R:Value->Hp->Prop} (hn:n<=13) (ht:cY h t (2^n) T)
  (k: ∀s h',h.le h'->Own (h'.sub h) s 3 (bK (cO n T).ns)->R (.tuple #[.agg #[I (cO n T).v,Sl.v s,I (cO n T).r], .bool (cO n T).ok]) h'):pY #[I n,t.v] h R:=by
 apply Na
 refine uf_ ?_
 intro b4 hb4
 simp only [vm,mm]
 rintro b7 ⟨n74,hb7⟩
 have n47:=n74.symm
 have l4:=eM [I 0, .slice none 0 0,I 0] 3 hb4
 have hg7:(h.row b4 [I 0, .slice none 0 0,I 0] 3) b7=none:=by rw [wU];exact⟨n74,hb7⟩
 have l7:=eM [I n,t.v, .slice none 0 0] 3 hg7
 have h2:2^n<=8192:=by
  have:=Nat.pow_le_pow_right (n:=2) (by omega) hn
  simpa using this
 have hml:=sK n T 0 []
 simp only [List.length_nil]at hml
 have hT:(fun i=>T (0+i*2^0))=T:=by funext i;congr 1;omega
 refine QB (K:=b7) (vars:=n) (T:=T) hn n 0 0 _ ⟨none,0,0⟩ [] (h.row b4 [I 0, .slice none 0 0,I 0] 3) _ ⟨bR ..,eF _ _,fun a ha=>by cases ha⟩ l7 hg7 (fun a ha=>by cases ha) (ht.mono l4) (by omega) (by omega) (by simp;omega) ?_
 intro s' h' inv lg gs
 rw [hT]at inv⊢
 have f4:=lg _ _ (bR ..)
 have hsn:=inv.len
 refine⟨_,rfl,?_⟩
 simp only [vm,mm,aq inv.row,f4,hsn]
 have hto:cO n T=if 600<(mkD n T 0 []).2.length then iW else⟨n,(mkD n T 0 []).2,(mkD n T 0 []).1,true⟩:=by
  unfold cO oe
  rw [if_pos (by omega),Int.toNat_natCast]
  split
  ·rename_i h;split at h
   ·rename_i h';rw [if_pos h']
   ·cases h
  ·rename_i r h;split at h
   ·cases h
   ·rename_i h';cases h;rw [if_neg h']
 rw [hto]at k
 refine ac (fun e=>?_) (fun e=>?_)
 ·have e':600<(mkD n T 0 []).2.length:=by simp at e;omega
  rw [if_pos e']at k
  exact⟨by omega,k ⟨none,0,0⟩ _ (eg _ _ hb4 (Hp.le_trans l4 lg)) (mj _ _)⟩
 ·have e': ¬600<(mkD n T 0 []).2.length:=by simp at e;omega
  rw [if_neg e']at k
  refine⟨by omega,k s' _ (eg _ _ hb4 (Hp.le_trans l4 lg)) (Buf.own ⟨inv.buf.1,inv.buf.2.1,inv.buf.2.2.imp id ?_⟩ (by omega))⟩
  rintro ⟨c,hc,hcb⟩
  have hgc:=gs _ hc
  rw [wU]at hgc
  exact⟨c,hc,by rw [lv hgc.2,bX _ _ hgc.1];exact hcb⟩
structure eK (g h:Hp) (bw:Nat) (v:Int) (t:Sl) (xss:List (List Int)):Prop where
 buf: ∃ts:List Sl,Buf h t 1 (ts.map Sl.v)/\ts.length=xss.length/\ ∀(i:Nat) (h1:i<ts.length) (h2:i<xss.length),IntS g ts[i] xss[i]
 le:g.le (h.offS t)
 row:h bw=some (.inl ⟨[I v,t.v],2,false⟩)
 new:g bw=none
 own: ∀a,t.a=some a->a.block≠bw
theorem cJ {h:Hp} {t:Sl} {c:Nat} {x:Blk} (e:(h.offS t) c=some x):h c=some x/\ ∀a,t.a=some a->a.block≠c:=by
 refine⟨bk _ _ _ _ e,fun a ha hac=>?_⟩
 subst hac
 simp [Hp.offS,ha,Hp.off,Hp.set]at e
theorem eK.keep {g h:Hp} {bw:Nat} {v:Int} {t:Sl} {xss:List (List Int)} (e:eK g h bw v t xss):g.le h:=Hp.le_trans e.le (bk _ _)
theorem eK.len {g h:Hp} {bw:Nat} {v:Int} {t:Sl} {xss:List (List Int)} (e:eK g h bw v t xss):t.n=xss.length:=by
 obtain⟨ts,hb,h1,_⟩:=e.buf
 have:=hb.1;simp at this;omega
theorem eK.blk {g h:Hp} {bw:Nat} {v:Int} {t:Sl} {xss:List (List Int)} (e:eK g h bw v t xss): ∀a,t.a=some a-> ∃ts:List Sl,∃z,h a.block=some (.inl ⟨ts.map Sl.v,z,false⟩):=by
 intro a ha
 obtain⟨ts,hb,_,_⟩:=e.buf
 rcases hb.2.2 with ⟨h0,_⟩|⟨b,hb1,hb2⟩
 ·rw [h0]at ha;cases ha
 ·rw [hb1]at ha;cases ha;exact⟨ts,_,hb2⟩
theorem eK.to {g h g' h':Hp} {bw:Nat} {v v':Int} {t:Sl} {xss:List (List Int)} (e:eK g h bw v t xss) (l:g.le g') (l':g'.le (h'.offS t)) (hr:h' bw=some (.inl ⟨[I v',t.v],2,false⟩))
  (hbuf: ∀a,t.a=some a->h' a.block=h a.block) (hn:g' bw=none):eK g' h' bw v' t xss:=by
 obtain⟨ts,hb,h1,h2⟩:=e.buf
 refine⟨⟨ts,⟨hb.1,hb.2.1,hb.2.2.imp id ?_⟩,h1,fun i a b=>(h2 i a b).mono l⟩,l',hr,hn,e.own⟩
 rintro ⟨b,hb1,hb2⟩
 exact⟨b,hb1,(hbuf _ hb1).trans hb2⟩
theorem eK.lit {g h:Hp} {bw b n:Nat} {v:Int} {t:Sl} {xss:List (List Int)} {cs:List Value} (e:eK g h bw v t xss) (hb:h b=none):eK (g.row b cs n) (h.row b cs n) bw v t xss:=by
 have gb:g b=none:=aF e.keep hb
 have nb:=fresh_ne hb e.row
 have nt: ∀a,t.a=some a->a.block≠b:=fun a ha=>by
  obtain⟨ts,z,hx⟩:=e.blk a ha
  exact fresh_ne hb hx
 refine e.to (eM _ _ gb) ?_ (by rw [bX _ _ nb];exact e.row) (fun a ha=>bX _ _ (nt a ha)) (by rw [bX _ _ nb];exact e.new)
 intro c x hc
 by_cases h':c=b
 ·subst h'
  rw [fM nt,bR];rw [bR]at hc;exact hc
 ·rw [bX _ _ h']at hc
  obtain⟨h1,h2⟩:=cJ (e.le _ _ hc)
  rw [fM h2,bX _ _ h'];exact h1
theorem eK.app {g h:Hp} {bw b:Nat} {v:Int} {t u:Sl} {xss:List (List Int)} {x:List Int} {K:Option Addr->Nat->Nat->Hp->Prop} (e:eK g h bw v t xss) (hl:xss.length<=1048576) (hu:IntS g u x) (hb:h b=none)
  (k: ∀(t':Sl) (h':Hp),h' bw=some (.inl ⟨[I v,t.v],2,false⟩)->(h.offS t).le (h'.offS t')->eK g (h'.row bw [I v,t'.v] 2) bw v t' (xss++ [x])->K t'.a t'.n t'.c h'):
  ck (h.row b [u.v] 1) t.a t.n t.c (some ⟨b,0,none⟩) 1 1 24 K:=by
 have l:=eM [u.v] 1 hb
 have hn:=e.len
 obtain⟨ts,hbuf,h1,h2⟩:=e.buf
 refine dp (hbuf.mono l) (by omega) (by omega) (by omega) ⟨b,0,rfl,fun i v hi=>?_⟩ (news:= [u.v]) rfl rfl ?_
 ·cases i with
  |zero=>simp at hi;subst hi;exact qh _ _ _ _ _
  |succ i=>simp at hi
 intro t' h' hn' hb' hle _
 have hle':(h.offS t).le (h'.offS t'):=Hp.le_trans (bM t l) hle
 obtain⟨f,o⟩:=j5 hle' e.row e.own
 refine k t' h' f hle' ⟨⟨ts++ [u],?_,by simp [h1],?_⟩,?_,bR ..,e.new,o⟩
 ·rw [List.map_append]
  refine⟨hb'.1,hb'.2.1,hb'.2.2.imp id ?_⟩
  rintro ⟨c,hc,hcb⟩
  exact⟨c,hc,by rw [bX _ _ (o _ hc)];exact hcb⟩
 ·intro i a c
  by_cases hi:i<ts.length
  ·rw [List.getElem_append_left hi,List.getElem_append_left (by omega)];exact h2 i hi (by omega)
  ·have:i=ts.length:=by simp at a;omega
   subst this
   simp only [List.getElem_append_right (Nat.le_refl _),Nat.sub_self,List.getElem_cons_zero]
   simp only [h1,List.getElem_append_right (Nat.le_refl _),Nat.sub_self,List.getElem_cons_zero]
   exact hu
 ·intro c x hc
  obtain⟨h3,h4⟩:=cJ (hle' _ _ (e.le _ _ hc))
  have hcb:c≠bw:=fun hh=>by rw [hh,e.new]at hc;cases hc
  rw [fM h4,bX _ _ hcb];exact h3
structure Rd (h:Hp) (B:Nat) (s:Sl) (bs:List Nat) (p:Nat):Prop where
 row:h B=some (.inl ⟨[s.v,I p],2,false⟩)
 byt:ByteS (h.off B) s bs
theorem Rd.next {h:Hp} {B:Nat} {s:Sl} {bs:List Nat} {p:Nat} (e:Rd h B s bs p) (q:Nat):Rd (h.row B [s.v,I q] 2) B s bs q:=⟨bR ..,by rw [uB];exact e.byt⟩
theorem Rd.to {h h':Hp} {B:Nat} {s:Sl} {bs:List Nat} {p:Nat} (e:Rd h B s bs p) (l:h.le h'):Rd h' B s bs p:=⟨l _ _ e.row,e.byt.mono (Fx _ l)⟩
theorem OG {a b:Nat} (ha:a<4611686018427387904) (hb:b<4611686018427387904): ∃c:Nat,SY (a:Int) (b:Int)=c:=by
 have:=LL (a:=a) (b:=b) (by omega) (by omega)
 exact⟨_,this⟩
theorem CJ {h:Hp} {B p:Nat} {s:Sl} {bs:List Nat} {n:Int} {R:Value->Hp->Prop} (e:Rd h B s bs p) (hp:p<=1000000000) (hn:n<=1000000000)
  (k: ∀x:Nat,(1<=n->(x:Int)<n)->(n<1->x=0)->R (I x) (h.row B [s.v,I (p+1:Nat)] 2)):ah #[.pointer (some ⟨B,0,none⟩),I n] h R:=by
 apply Bs
 refine uf_ ?_
 simp only [vm,aq e.row,mm,e.row,aA (n:=p) (by omega)]
 have hb:=e.byt.mono (Hd h B [s.v,I (p+1:Nat)] 2)
 have hl:=hb.len
 have hbd:=hb.bound
 refine⟨by omega,?_⟩
 refine ap (fun J=>J (decide (n<1)||decide (bs.length=0))) ?_ ?_
 rotate_left
 ·intro J hJ
  refine ac (fun e=>?_) (fun e=>?_)
  ·rw [e,Bool.true_or]at hJ;exact hJ
  ·rw [e,Bool.false_or]at hJ
   have:((s.n:Int)==0)=decide (bs.length=0):=by rw [hl,Bool.eq_iff_iff];simp
   rw [this];exact hJ
 refine ac (fun he=>?_) (fun he=>?_)
 ·refine k 0 (fun h1=>by omega) (fun _=>rfl)
 have hn1:1<=n:=by simp at he;omega
 have hbn:0<bs.length:=by
  have:bs.length≠0:=by intro h;rw [h]at he;simp at he
  omega
 have hw:W (((p+1:Nat):Int)-1)=p:=by rw [bV (by omega) (by omega)];omega
 obtain⟨m,rfl⟩: ∃m:Nat,n=m:=⟨n.toNat,by omega⟩
 have fin: ∀x:Nat,R (I (Int.tmod (x:Int) (m:Int))) (h.row B [s.v,I (p+1:Nat)] 2):=by
  intro x
  have e1:Int.tmod (x:Int) (m:Int)=((x%m:Nat):Int):=by rw [Int.ofNat_tmod]
  rw [e1]
  have:x%m<m:=Nat.mod_lt _ (by omega)
  exact k (x%m) (fun _=>by omega) (fun h=>by omega)
 simp only [hw,hl]
 refine ac (fun hlt=>?_) (fun hlt=>?_)
 ·have hlt':p<bs.length:=by simp at hlt;omega
  obtain⟨b,o,ha,hc,hx⟩:=hb.at hlt'
  simp only [vm,ha,hc]
  refine⟨by omega,?_⟩
  rw [if_neg (by omega),et (by omega)]
  exact fin _
 ·have hq: ∀q:Nat,Int.tmod (q:Int) (bs.length:Int)=((q%bs.length:Nat):Int):=fun q=>by rw [Int.ofNat_tmod]
  have hlt2: ∀q:Nat,q%bs.length<bs.length:=fun q=>Nat.mod_lt _ hbn
  have w1:W (W ((p:Int)*7)+3)=((p*7+3:Nat):Int):=by
   rw [bV (n:=(p:Int)*7) (by omega) (by omega),bV (by omega) (by omega)];omega
  obtain⟨b,o,ha,hc,hx⟩:=hb.at (hlt2 p)
  obtain⟨b',o',ha',hc',hy⟩:=hb.at (hlt2 (p*7+3))
  rw [ha]at ha';cases ha'
  have hdiv:Int.tdiv (p:Int) (bs.length:Int)=((p/bs.length:Nat):Int):=by rw [Int.ofNat_tdiv]
  have hdl:p/bs.length<=p:=Nat.div_le_self _ _
  generalize hX:bs[p%bs.length]'(hlt2 p)=X at*
  generalize hY:bs[(p*7+3)%bs.length]'(hlt2 _)=Y at*
  generalize hD:p/bs.length=D at*
  have tot:W (W (W (W (W (X:Int)*131)+W (W (Y:Int)*1117))+W ((p:Int)*29))+W (W (D:Int)*53))=((X*131+Y*1117+p*29+D*53:Nat):Int):=by
   rw [et (n:=X) (by omega),et (n:=Y) (by omega),et (n:=D) (by omega),bV (n:=(X:Int)*131) (by omega) (by omega),bV (n:=(Y:Int)*1117) (by omega) (by omega),
    bV (n:=(p:Int)*29) (by omega) (by omega),bV (n:=(D:Int)*53) (by omega) (by omega),bV (n:=(X:Int)*131+(Y:Int)*1117) (by omega) (by omega),
    bV (n:=(X:Int)*131+(Y:Int)*1117+(p:Int)*29) (by omega) (by omega),bV (by omega) (by omega)]
   omega
  have d64:W (Int.tdiv (((X*131+Y*1117+p*29+D*53:Nat)):Int) 64)=(((X*131+Y*1117+p*29+D*53)/64:Nat):Int):=by
   have:Int.tdiv (((X*131+Y*1117+p*29+D*53:Nat)):Int) 64=(((X*131+Y*1117+p*29+D*53)/64:Nat):Int):=by
    have:=Int.ofNat_tdiv (X*131+Y*1117+p*29+D*53) 64
    exact this.symm
   rw [this,et (by omega)]
  obtain⟨c,hcx⟩:=OG (a:=X*131+Y*1117+p*29+D*53) (b:=(X*131+Y*1117+p*29+D*53)/64) (by omega) (by omega)
  have hnz: ¬((bs.length:Nat):Int)=0:=by omega
  simp only [vm,w1,hq,hdiv,ha,hc,hc',hD,tot,d64,hcx]
  rw [if_neg hnz]
  refine⟨by have:=hlt2 p;omega,?_⟩
  rw [if_neg hnz]
  refine⟨by have:=hlt2 (p*7+3);omega,?_⟩
  rw [if_neg hnz]
  have hm0: ¬(m:Int)=0:=by omega
  rw [if_neg hm0]
  have:=fin c
  simp only [true_and,and_self]
  exact this
theorem fS.appK {h h':Hp} {t:Sl} {set:List Int} {x:Int} {b:Nat} {K:Option Addr->Nat->Nat->Hp->Prop} (e:fS h h' t set) (hl:set.length<=1048576) (hb:h' b=none)
  (k: ∀(t':Sl) (h'':Hp),(h'.offS t).le (h''.offS t')->fS h h'' t' (set++ [x])->K t'.a t'.n t'.c h''):ck (h'.row b [I x] 1) t.a t.n t.c (some ⟨b,0,none⟩) 1 1 8 K:=by
 have l:=eM [I x] 1 hb
 exact LC (e.buf.mono l) hl (qh _ _ _ _ _) fun t' h'' hb' hl'=>k t' h'' (Hp.le_trans (bM t l) hl') ⟨hb',Hp.le_trans (Hp.le_trans e.le (bM t l)) hl'⟩
theorem fS.neB {g h:Hp} {o s:Sl} {xs:List Int} (e:fS g h o xs) {B p n:Nat} (hB:h B=some (.inl ⟨[s.v,I p],n,false⟩)): ∀a,o.a=some a->a.block≠B:=by
 intro a ha
 rcases e.buf.2.2 with ⟨h0,_⟩|⟨b,hb1,hb2⟩
 ·rw [h0]at ha;cases ha
 ·rw [hb1]at ha;cases ha
  refine dH hb2 hB ?_
  intro h
  simp only [Sum.inl.injEq,Row.mk.injEq]at h
  rcases xs with _|⟨x,r⟩
  ·simp at h
  ·simp [Sl.v]at h
theorem eK.neB {g h:Hp} {bw:Nat} {v:Int} {t s:Sl} {xss:List (List Int)} (e:eK g h bw v t xss) {B p n:Nat} (hB:h B=some (.inl ⟨[s.v,I p],n,false⟩)): ∀a,t.a=some a->a.block≠B:=by
 intro a ha
 obtain⟨ts,z,hx⟩:=e.blk a ha
 refine dH hx hB ?_
 intro h
 simp only [Sum.inl.injEq,Row.mk.injEq]at h
 rcases ts with _|⟨t1,_|⟨t2,r⟩⟩
 ·simp at h
 ·simp at h
 ·simp [Sl.v]at h
theorem eK.ne3 {g h:Hp} {bw:Nat} {v:Int} {t:Sl} {xss:List (List Int)} (e:eK g h bw v t xss) {B n:Nat} {x:Int} {y:List Value} (hB:h B=some (.inl ⟨I x::y,n,false⟩)): ∀a,t.a=some a->a.block≠B:=by
 intro a ha
 obtain⟨ts,z,hx⟩:=e.blk a ha
 refine dH hx hB ?_
 intro h
 simp only [Sum.inl.injEq,Row.mk.injEq]at h
 rcases ts with _|⟨t1,r⟩
 ·simp at h
 ·simp [Sl.v]at h
theorem pF {h:Hp} {t:Sl} {c:Nat} {x:Blk} (e:h c=some x) (d: ∀a,t.a=some a->a.block≠c):(h.offS t) c=some x:=by rw [fM d];exact e
structure CS (h0:Hp) (B b3 b9:Nat) (s:Sl) (c:Nat) (h:Hp) (v:Int) (t:Sl) (cls:List (List Int)):Prop where
 rd: ∃q,q<=c/\h B=some (.inl ⟨[s.v,I (q:Nat)],2,false⟩)
 r3:h b3=some (.inl ⟨[I 0, .slice none 0 0],2,false⟩)
 n39:b3≠b9
 fr:(h0.off B).le (h.offS t)
 fr9:h0 b9=none
 fr3:h0 b3=none
 gr: ∃g:Hp,(∀c x,g c=some x->h0 c=none/\c≠b3)/\eK g h b9 v t cls
section
variable {h0 h:Hp} {B b3 b9 c p0:Nat} {s t:Sl} {v:Int} {cls:List (List Int)} {bs:List Nat}
theorem CS.row (e:CS h0 B b3 b9 s c h v t cls):h b9=some (.inl ⟨[I v,t.v],2,false⟩):=by obtain⟨g,_,hg⟩:=e.gr;exact hg.row
theorem CS.frame (e:CS h0 B b3 b9 s c h v t cls):(h0.off B).le h:=Hp.le_trans e.fr (bk _ _)
theorem CS.nB9 (e:CS h0 B b3 b9 s c h v t cls):b9≠B:=by
 obtain⟨q,_,hq⟩:=e.rd
 exact dH e.row hq (by intro h;simp [Sl.v]at h)
theorem CS.nB3 (e:CS h0 B b3 b9 s c h v t cls):b3≠B:=by
 obtain⟨q,_,hq⟩:=e.rd
 exact dH e.r3 hq (by intro h;simp [Sl.v]at h)
theorem CS.more (e:CS h0 B b3 b9 s c h v t cls) {c':Nat} (hc:c<=c'):CS h0 B b3 b9 s c' h v t cls:=by
 obtain⟨q,hq,hr⟩:=e.rd
 exact⟨⟨q,by omega,hr⟩,e.r3,e.n39,e.fr,e.fr9,e.fr3,e.gr⟩
theorem CS.app (e:CS h0 B b3 b9 s c h v t cls) (hB: ∃x,h0 B=some x) {h2:Hp} {o:Sl} {xs:List Int} {q2 c2 b:Nat} {K:Option Addr->Nat->Nat->Hp->Prop} (hl:cls.length<=1048576) (hx:xs.length<=1048576)
  (hgr:fS (h.off B) h2 o xs) (hr2:h2 B=some (.inl ⟨[s.v,I (q2:Nat)],2,false⟩)) (hq2:q2<=c2) (hb:h2 b=none)
  (k: ∀(t':Sl) (h3:Hp),h3 b9=some (.inl ⟨[I v,t.v],2,false⟩)->CS h0 B b3 b9 s c2 (h3.row b9 [I v,t'.v] 2) v t' (cls++ [xs])->K t'.a t'.n t'.c h3):
  ck (h2.row b [o.v] 1) t.a t.n t.c (some ⟨b,0,none⟩) 1 1 24 K:=by
 obtain⟨g,hg,gr⟩:=e.gr
 obtain⟨q,hq,hr⟩:=e.rd
 have base: ∀c x,h c=some x->c≠B->h2 c=some x/\ ∀a,o.a=some a->a.block≠c:=by
  intro c x hc hcB
  exact cJ (hgr.le c x (by rw [Hp.off,Hp.set_ne _ _ hcB];exact hc))
 have r9:=base _ _ gr.row e.nB9
 have r3:=base _ _ e.r3 e.nB3
 have tB:=gr.neB hr
 have oB:=hgr.neB hr2
 have t3:=gr.ne3 e.r3
 have tblk: ∀a,t.a=some a->h2 a.block=h a.block/\ ∀a',o.a=some a'->a'.block≠a.block:=by
  intro a ha
  obtain⟨ts,z,hx⟩:=gr.blk a ha
  obtain⟨h1,h2⟩:=base _ _ hx (tB a ha)
  exact⟨h1.trans hx.symm,h2⟩
 have hg': ∀c x,((h2.sub h0).wo ([b9,b3]++t.blk)) c=some x->h2 c=some x/\h0 c=none/\c≠b3/\c≠b9/\ ∀a,t.a=some a->a.block≠c:=by
  intro c x hc
  have hm:c∉ [b9,b3]++t.blk:=fun hm=>by rw [eQ hm]at hc;cases hc
  rw [rj hm]at hc
  have h1:h0 c=none:=lF (by rw [hc];simp)
  rw [lv h1]at hc
  simp only [List.cons_append,List.nil_append,List.mem_cons,not_or]at hm
  exact⟨hc,h1,hm.2.1,hm.1,fun a ha hac=>hm.2.2 (by unfold Sl.blk;rw [ha];simp [hac])⟩
 have hgi: ∀c x,h2 c=some x->h0 c=none->c≠b3->c≠b9->(∀a,t.a=some a->a.block≠c)->((h2.sub h0).wo ([b9,b3]++t.blk)) c=some x:=by
  intro c x h1 h2 h3 h4 h5
  rw [rj,lv h2]
  ·exact h1
  ·simp only [List.cons_append,List.nil_append,List.mem_cons,not_or]
   refine⟨h4,h3,fun hm=>?_⟩
   unfold Sl.blk at hm
   split at hm
   ·simp at hm
   ·rename_i a ha;simp at hm;exact h5 a ha hm.symm
 have gr':eK ((h2.sub h0).wo ([b9,b3]++t.blk)) h2 b9 v t cls:=by
  refine gr.to ?_ ?_ r9.1 (fun a ha=>(tblk a ha).1) (eQ (by simp))
  ·intro c x hc
   obtain⟨g1,g2⟩:=cJ (gr.le _ _ hc)
   have hn:=hg _ _ hc
   have hcB:c≠B:=fun hh=>by obtain⟨y,hy⟩:=hB;rw [hh,hy]at hn;cases hn.1
   exact hgi c x (base c x g1 hcB).1 hn.1 hn.2 (fun hh=>by rw [hh,gr.new]at hc;cases hc) g2
  ·intro c x hc
   obtain⟨g1,g2,g3,g4,g5⟩:=hg' c x hc
   exact pF g1 g5
 have hu:IntS ((h2.sub h0).wo ([b9,b3]++t.blk)) o xs:=by
  refine sW.ints ⟨hgr.buf.1,hgr.buf.2.1,hgr.buf.2.2.imp id ?_⟩ hx
  rintro ⟨d,hd,hdb⟩
  refine⟨d,hd,hgi _ _ hdb ?_ ?_ ?_ ?_⟩
  ·cases hx:h0 d with
   |none=>rfl
   |some x=>
    have hdB:d≠B:=oB _ hd
    have:=e.frame d x (by rw [Hp.off,Hp.set_ne _ _ hdB];exact hx)
    exact absurd rfl ((base d x this hdB).2 _ hd)
  ·exact r3.2 _ hd
  ·exact r9.2 _ hd
  ·intro a ha hab
   exact(tblk a ha).2 _ hd hab.symm
 refine gr'.app hl hu hb fun t' h3 f9 hk hgd=>k t' h3 f9 ?_
 have kp: ∀c x,h2 c=some x->(∀a,t.a=some a->a.block≠c)->h3 c=some x/\ ∀a,t'.a=some a->a.block≠c:=by
  intro c x h1 h2
  exact cJ (hk _ _ (pF h1 h2))
 have n9: ∀a,t.a=some a->a.block≠b9:=gr.own
 refine⟨⟨q2,hq2,by rw [bX _ _ e.nB9.symm];exact(kp _ _ hr2 tB).1⟩,by rw [bX _ _ e.n39];exact(kp _ _ r3.1 t3).1,e.n39,?_,e.fr9,e.fr3,_,fun c x hc=>⟨(hg' c x hc).2.1,(hg' c x hc).2.2.1⟩,hgd⟩
 intro c x hc
 have hcB:c≠B:=fun hh=>by rw [hh,xB]at hc;cases hc
 have hc9:c≠b9:=fun hh=>by rw [hh,Hp.off,Hp.set_ne _ _ e.nB9,e.fr9]at hc;cases hc
 obtain⟨g1,g2⟩:=cJ (e.fr _ _ hc)
 obtain⟨g3,g4⟩:=kp _ _ (base c x g1 hcB).1 g2
 rw [fM g4,bX _ _ hc9];exact g3
theorem CS.lit (e:CS h0 B b3 b9 s c h v t cls) {b n:Nat} {cs:List Value} (hb:h b=none):CS h0 B b3 b9 s c (h.row b cs n) v t cls:=by
 obtain⟨g,hg,gr⟩:=e.gr
 obtain⟨q,hq,hr⟩:=e.rd
 have tb: ∀{c x},(h.offS t) c=some x->((h.row b cs n).offS t) c=some x:=by
  intro c x hc
  obtain⟨h1,h2⟩:=cJ hc
  rw [fM h2,bX _ _ (fresh_ne hb h1)];exact h1
 exact⟨⟨q,hq,by rw [bX _ _ (fresh_ne hb hr)];exact hr⟩,by rw [bX _ _ (fresh_ne hb e.r3)];exact e.r3,e.n39,fun c x hc=>tb (e.fr _ _ hc),e.fr9,e.fr3,g,hg,
  gr.to (Hp.le_refl _) (fun c x hc=>tb (gr.le _ _ hc)) (by rw [bX _ _ (fresh_ne hb gr.row)];exact gr.row) (fun a ha=>by
   obtain⟨ts,z,hx⟩:=gr.blk a ha
   exact bX _ _ (fresh_ne hb hx)) gr.new⟩
end
theorem du.up {h h' h'':Hp} {t:Sl} {xss:List (List Int)} (e:du h h' t xss) (l:h'.le h''):du h h'' t xss:=by
 obtain⟨ts,h1,h2,h3⟩:=e.buf
 exact⟨⟨ts,h1.mono l,h2,h3⟩,Hp.le_trans e.le (bM t l)⟩
def lp (v:Int) (cls p:List (List Int)):Bool:=dL v cls&&(decide (p.length<=300)&&p.all (fT v))
theorem lp.iff {v:Int} {cls p:List (List Int)}:lp v cls p=true↔dL v cls=true/\p.length<=300/\ ∀l∈p,fT v l=true:=by
 simp [lp,List.all_eq_true]
theorem du.len {g h:Hp} {o:Sl} {out:List (List Int)} (e:du g h o out):o.n=out.length:=by
 obtain⟨ts,hb,h1,_⟩:=e.buf
 have:=hb.1;simp at this;omega
theorem du.base {g g2 h:Hp} {o:Sl} {out:List (List Int)} (e:du g h o out) (l:g.le g2) (l2:g2.le (h.offS o)):du g2 h o out:=by
 obtain⟨ts,h1,h2,h3⟩:=e.buf
 exact⟨⟨ts,h1,h2,fun i a b=>(h3 i a b).mono l⟩,l2⟩
theorem du.blk {g h:Hp} {o:Sl} {out:List (List Int)} (e:du g h o out): ∀a,o.a=some a-> ∃x,h a.block=some x:=by
 intro a ha
 obtain⟨ts,hb,_,_⟩:=e.buf
 rcases hb.2.2 with ⟨h0,_⟩|⟨b,hb1,hb2⟩
 ·rw [h0]at ha;cases ha
 ·rw [hb1]at ha;cases ha;exact⟨_,hb2⟩
theorem fS.apart {h2 h3:Hp} {u o:Sl} {xs:List Int} (hg:fS h2 h3 u xs) (ho: ∀a,o.a=some a-> ∃x,h2 a.block=some x): ∀a a',u.a=some a->o.a=some a'->a.block≠a'.block:=by
 intro a a' ha ha'
 obtain⟨x,hx⟩:=ho a' ha'
 exact(cJ (hg.le _ _ hx)).2 a ha
theorem fS.offS {h2 h3:Hp} {u o:Sl} {xs:List Int} (hg:fS h2 h3 u xs) (ho: ∀a,o.a=some a-> ∃x,h2 a.block=some x):sW (h3.offS o) u xs:=by
 refine⟨hg.buf.1,hg.buf.2.1,hg.buf.2.2.imp id ?_⟩
 rintro ⟨b,hb1,hb2⟩
 exact⟨b,hb1,pF hb2 fun a ha=>(hg.apart ho _ a hb1 ha).symm⟩
theorem fS.beside {h0 h' h'':Hp} {a b b':Sl} {xs:List Int} (e:fS h0 h' a xs) (l0:h0.le (h'.offS b)) (hk:(h'.offS b).le (h''.offS b')) (nab: ∀x y,a.a=some x->b.a=some y->y.block≠x.block):
  fS h0 h'' a xs/\ ∀x y,a.a=some x->b'.a=some y->y.block≠x.block:=by
 constructor
 ·refine⟨⟨e.buf.1,e.buf.2.1,e.buf.2.2.imp id ?_⟩,?_⟩
  ·rintro ⟨c,hc,hcb⟩
   exact⟨c,hc,(cJ (hk _ _ (pF hcb fun y hy=>nab _ y hc hy))).1⟩
  ·intro c x hc
   obtain⟨g1,g2⟩:=cJ (e.le _ _ hc)
   obtain⟨g3,g4⟩:=cJ (l0 _ _ hc)
   exact pF (cJ (hk _ _ (pF g1 g4))).1 g2
 ·intro x y hx hy
  rcases e.buf.2.2 with ⟨h0,_⟩|⟨c,hc,hcb⟩
  ·rw [h0]at hx;cases hx
  ·rw [hc]at hx;cases hx
   exact(cJ (hk _ _ (pF hcb fun y hy=>nab _ y hc hy))).2 y hy
theorem du.appK {g h:Hp} {t u:Sl} {xss:List (List Int)} {x:List Int} {b:Nat} {K:Option Addr->Nat->Nat->Hp->Prop} (e:du g h t xss) (hl:xss.length<=1048576) (hu:IntS g u x) (hb:h b=none)
  (k: ∀(t':Sl) (h'':Hp),(h.offS t).le (h''.offS t')->du g h'' t' (xss++ [x])->K t'.a t'.n t'.c h''):ck (h.row b [u.v] 1) t.a t.n t.c (some ⟨b,0,none⟩) 1 1 24 K:=by
 have l:=eM [u.v] 1 hb
 have hn:=e.len
 obtain⟨ts,hbuf,h1,h2⟩:=e.buf
 refine dp (hbuf.mono l) (by omega) (by omega) (by omega) ⟨b,0,rfl,fun i v hi=>?_⟩ (news:= [u.v]) rfl rfl ?_
 ·cases i with
  |zero=>simp at hi;subst hi;exact qh _ _ _ _ _
  |succ i=>simp at hi
 ·intro t' h'' hn' hb' hle _
  have hle':(h.offS t).le (h''.offS t'):=Hp.le_trans (bM t l) hle
  refine k t' h'' hle' ⟨⟨ts++ [u],by rw [List.map_append];exact hb',by simp [h1],?_⟩,Hp.le_trans e.le hle'⟩
  intro i a c
  by_cases hi:i<ts.length
  ·rw [List.getElem_append_left hi,List.getElem_append_left (by omega)];exact h2 i hi (by omega)
  ·have:i=ts.length:=by simp at a;omega
   subst this
   simp only [List.getElem_append_right (Nat.le_refl _),Nat.sub_self,List.getElem_cons_zero]
   simp only [h1,List.getElem_append_right (Nat.le_refl _),Nat.sub_self,List.getElem_cons_zero]
   exact hu
theorem du.neB {g h:Hp} {t s:Sl} {xss:List (List Int)} (e:du g h t xss) {B p n:Nat} (hB:h B=some (.inl ⟨[s.v,I p],n,false⟩)): ∀a,t.a=some a->a.block≠B:=by
 intro a ha
 obtain⟨ts,hb,_,_⟩:=e.buf
 rcases hb.2.2 with ⟨h0,_⟩|⟨c,hc,hcb⟩
 ·rw [h0]at ha;cases ha
 ·rw [hc]at ha;cases ha
  refine dH hcb hB ?_
  intro h
  simp only [Sum.inl.injEq,Row.mk.injEq]at h
  rcases ts with _|⟨t1,_|⟨t2,r⟩⟩
  ·simp at h
  ·simp at h
  ·simp [Sl.v]at h
structure PS (h:Hp) (B:Nat) (s:Sl) (c:Nat) (g h':Hp) (t:Sl) (res:List (List Int)):Prop where
 rd: ∃q,q<=c/\h' B=some (.inl ⟨[s.v,I (q:Nat)],2,false⟩)
 gr:du g h' t res
 new: ∀c x,g c=some x->h c=none
 fr:(h.off B).le (h'.offS t)
section
variable {h g h':Hp} {B c:Nat} {s t:Sl} {res:List (List Int)} {bs:List Nat}
theorem PS.frame (e:PS h B s c g h' t res):(h.off B).le h':=Hp.le_trans e.fr (bk _ _)
theorem PS.more (e:PS h B s c g h' t res) {c':Nat} (hc:c<=c'):PS h B s c' g h' t res:=by
 obtain⟨q,hq,hr⟩:=e.rd
 exact⟨⟨q,by omega,hr⟩,e.gr,e.new,e.fr⟩
theorem PS.lit (e:PS h B s c g h' t res) (hB: ∃x,h B=some x) {b n:Nat} {cs:List Value} (hb:h' b=none):PS h B s c (g.row b cs n) (h'.row b cs n) t res:=by
 obtain⟨q,hq,hr⟩:=e.rd
 have nB:=fresh_ne hb hr
 have hb0:h b=none:=by
  cases hx:h b with
  |none=>rfl
  |some x=>
   have:=e.frame b x (by rw [Hp.off,Hp.set_ne _ _ nB.symm];exact hx)
   rw [hb]at this;cases this
 have tb: ∀a,t.a=some a->a.block≠b:=fun a ha=>by
  obtain⟨x,hx⟩:=e.gr.blk a ha
  exact fresh_ne hb hx
 have key: ∀c x,c≠b->(h'.offS t) c=some x->((h'.row b cs n).offS t) c=some x:=by
  intro c x hcB hc
  obtain⟨h1,h2⟩:=cJ hc
  rw [fM h2,bX _ _ hcB];exact h1
 have gb:g b=none:=aF e.gr.keep hb
 refine⟨⟨q,hq,by rw [bX _ _ nB];exact hr⟩,(e.gr.up (eM cs n hb)).base (eM _ _ gb) ?_,?_,fun c x hc=>key c x (fun hh=>by rw [hh,Hp.off,Hp.set_ne _ _ nB.symm,hb0]at hc;cases hc) (e.fr _ _ hc)⟩
 ·intro c x hc
  by_cases hcb:c=b
  ·subst hcb
   rw [bR]at hc
   rw [fM tb,bR];exact hc
  ·rw [bX _ _ hcb]at hc
   exact key c x hcb (e.gr.le _ _ hc)
 ·intro c x hc
  by_cases hcb:c=b
  ·subst hcb;exact hb0
  ·rw [bX _ _ hcb]at hc;exact e.new _ _ hc
theorem PS.app {u:Sl} {x:List Int} {b:Nat} {K:Option Addr->Nat->Nat->Hp->Prop} (e:PS h B s c g h' t res) (hl:res.length<=1048576) (hu:IntS g u x) (hb:h' b=none)
  (k: ∀(t':Sl) (h'':Hp),PS h B s c g h'' t' (res++ [x])->K t'.a t'.n t'.c h''):ck (h'.row b [u.v] 1) t.a t.n t.c (some ⟨b,0,none⟩) 1 1 24 K:=by
 obtain⟨q,hq,hr⟩:=e.rd
 exact e.gr.appK hl hu hb fun t' h'' hk gr=>k t' h'' ⟨⟨q,hq,(cJ (hk _ _ (pF hr (e.gr.neB hr)))).1⟩,gr,e.new,Hp.le_trans e.fr hk⟩
theorem PS.put {u:Sl} {x:List Int} {i:Nat} (e:PS h B s c g h' t res) (hi:i<res.length) (hu:IntS g u x): ∃b cs z,t.a=some ⟨b,0,none⟩/\h' b=some (.inl ⟨cs,z,false⟩)/\cs.length=res.length/\
  PS h B s c g (h'.row b (cs.set i u.v) z) t (res.set i x):=by
 obtain⟨q,hq,hr⟩:=e.rd
 have hn:=e.gr.len
 have tB:=e.gr.neB hr
 obtain⟨ts,hb,h1,h2⟩:=e.gr.buf
 rcases hb.2.2 with ⟨_,h0,_⟩|⟨b,hb1,hb2⟩
 ·omega
 refine⟨b,_,_,hb1,hb2,by simp [h1],⟨q,hq,by rw [bX _ _ (tB _ hb1).symm];exact hr⟩,⟨⟨ts.set i u,⟨by simp;have:=hb.1;simp at this;omega,hb.2.1, .inr ⟨b,hb1,?_⟩⟩,by simp [h1],?_⟩,?_⟩,e.new,?_⟩
 ·rw [bR,List.map_set]
 ·intro j a b
  rw [List.getElem_set,List.getElem_set]
  split
  ·exact hu
  ·exact h2 j (by simpa using a) (by simpa using b)
 ·intro c x hc
  obtain⟨g1,g2⟩:=cJ (e.gr.le _ _ hc)
  rw [fM g2,bX _ _ (fun hh=>g2 _ hb1 hh.symm)];exact g1
 ·intro c x hc
  obtain⟨g1,g2⟩:=cJ (e.fr _ _ hc)
  rw [fM g2,bX _ _ (fun hh=>g2 _ hb1 hh.symm)];exact g1
end
def je (w:Nat) (n:Int):Nat:=(n%((2^w:Nat):Int)).toNat
def sgn (w a:Nat):Int:=if 2^(w-1)<=a then(a:Int)-((2^w:Nat):Int)else a
theorem bD (w:Nat):0<2^w:=Nat.pow_pos (by omega)
theorem jn (w:Nat) (n:Int):je w n<2^w:=by
 unfold je
 have h:=Int.emod_lt_of_pos n (b:=((2^w:Nat):Int)) (Int.ofNat_lt.2 (bD w))
 have h0:=Int.emod_nonneg n (b:=((2^w:Nat):Int)) (by have:=bD w;omega)
 omega
theorem pd (w a:Nat):je w (a:Int)=a%2^w:=by
 unfold je
 rw [<-Int.natCast_emod,Int.toNat_natCast]
theorem Fu (w:Nat) (n:Int):((je w n:Nat):Int)=n%((2^w:Nat):Int):=by
 unfold je
 have h0:=Int.emod_nonneg n (b:=((2^w:Nat):Int)) (by have:=bD w;omega)
 omega
theorem pN {w:Nat} (h:1<=w):2^w=2*2^(w-1):=by
 obtain⟨n,rfl⟩: ∃n,w=n+1:=⟨w-1,by omega⟩
 rw [Nat.pow_succ,Nat.add_sub_cancel];omega
theorem I3 {w a:Nat} (h:1<=w) (ha:a<2^w): -((2^(w-1):Nat):Int)<=sgn w a/\sgn w a<((2^(w-1):Nat):Int):=by
 have:=pN h
 unfold sgn;split<;>omega
theorem Tn {w:Nat} (h:1<=w) (n:Int):sgn w (je w n)=n↔ -((2^(w-1):Nat):Int)<=n/\n<((2^(w-1):Nat):Int):=by
 have hp:=pN h
 have hl:=jn w n
 have hb:=I3 h hl
 constructor
 ·intro e;rw [e]at hb;exact hb
 ·rintro ⟨h1,h2⟩
  have hc:=Fu w n
  have h3:n%((2^w:Nat):Int)=if n<0 then n+((2^w:Nat):Int)else n:=by
   split
   ·rw [<-Int.add_emod_right,Int.emod_eq_of_lt (by omega) (by omega)]
   ·rw [Int.emod_eq_of_lt (by omega) (by omega)]
  rw [h3]at hc
  unfold sgn
  split at hc<;>split<;>omega
theorem jb {w x:Nat} {f:Nat->Bool} (hx:x<2^w) (h: ∀i,i<w->x.testBit i=f i):cR w f=x:=by
 apply Nat.eq_of_testBit_eq
 intro i
 by_cases hi:i<w
 ·rw [rG _ _ _ hi,h i hi]
 ·rw [Nat.testBit_lt_two_pow (Nat.lt_of_lt_of_le (qZ w f) (Nat.pow_le_pow_right (by omega) (by omega))),
   Nat.testBit_lt_two_pow (Nat.lt_of_lt_of_le hx (Nat.pow_le_pow_right (by omega) (by omega)))]
theorem rN {w:Nat} {f g:Nat->Bool} (h: ∀i,i<w->f i=g i):cR w f=cR w g:=jb (qZ _ _) fun i hi=>by rw [rG _ _ _ hi,h i hi]
theorem Oi {w p:Nat} {f:Nat->Bool} (hp:p<w) (hf:f p=false):cR w f+2^p=cR w (fun i=>f i||decide (i=p)):=by
 induction w with
 |zero=>omega
 |succ w ih=>
  simp only [cR]
  by_cases h:p=w
  ·subst h
   have:cR p (fun i=>f i||decide (i=p))=cR p f:=rN fun i hi=>by simp;omega
   rw [this];simp [hf]
  ·have:=ih (by omega)
   have e:(f w||decide (w=p))=f w:=by simp;omega
   simp only [e]
   omega
def jw :Nat->Nat->Nat
 |0,_=>0
 |w+1,a=>jw w a+(if a.testBit w then 1 else 0)
theorem M0 (w a:Nat):jw w a<=w:=by
 induction w with
 |zero=>simp [jw]
 |succ w ih=>simp only [jw];split<;>omega
theorem Oc {w a:Nat} (ha:a<2^w):jw w a=w↔a=2^w-1:=by
 have key: ∀w,jw w a=w↔ ∀i,i<w->a.testBit i=true:=by
  intro w
  induction w with
  |zero=>simp [jw]
  |succ w ih=>
   have:=M0 w a
   simp only [jw]
   constructor
   ·intro h i hi
    by_cases hw:a.testBit w=true
    ·rw [if_pos hw]at h
     by_cases hiw:i=w
     ·subst hiw;exact hw
     ·exact ih.1 (by omega) i (by omega)
    ·rw [if_neg hw]at h;omega
   ·intro h
    rw [if_pos (h w (by omega)),ih.2 fun i hi=>h i (by omega)]
 rw [key]
 constructor
 ·intro h
  apply Nat.eq_of_testBit_eq
  intro i
  rw [Nat.testBit_two_pow_sub_one]
  by_cases hi:i<w
  ·rw [h i hi];simp [hi]
  ·rw [Nat.testBit_lt_two_pow (Nat.lt_of_lt_of_le ha (Nat.pow_le_pow_right (by omega) (by omega)))];simp [hi]
 ·rintro rfl i hi
  rw [Nat.testBit_two_pow_sub_one];simpa using hi
theorem Gu {w a b:Nat} (ha:a<2^w):cR w (fun i=>a.testBit i&&b.testBit i)=a&&&b:=
 jb (Nat.lt_of_le_of_lt Nat.and_le_left ha) fun i _=>by rw [Nat.testBit_and]
theorem Pa {w a b:Nat} (ha:a<2^w) (hb:b<2^w):cR w (fun i=>a.testBit i||b.testBit i)=a|||b:=
 jb (Nat.or_lt_two_pow ha hb) fun i _=>by rw [Nat.testBit_or]
theorem Ts {w a b:Nat} (ha:a<2^w) (hb:b<2^w):cR w (fun i=>a.testBit i^^b.testBit i)=a^^^b:=
 jb (Nat.xor_lt_two_pow ha hb) fun i _=>by rw [Nat.testBit_xor]
def VT (w a b:Nat):Nat:=a*2^min b w%2^w
def VU (w a b:Nat):Nat:=a/2^min b w
def W3 (w a b:Nat):Nat:=je w (sgn w a/((2^min b w:Nat):Int))
theorem UY {w a b:Nat}:cR w (fun i=>decide (b<=i)&&a.testBit (i-b))=VT w a b:=by
 unfold VT
 refine jb (Nat.mod_lt _ (bD w)) fun i hi=>?_
 rw [Nat.testBit_mod_two_pow,Nat.mul_comm,Nat.testBit_two_pow_mul]
 have:decide (i<w)=true:=by simpa using hi
 rw [this,Bool.true_and]
 by_cases h:b<=i
 ·rw [Nat.min_eq_left (by omega)]
 ·have h1:decide (b<=i)=false:=by simpa using h
  have h2:decide (min b w<=i)=false:=by simp;omega
  simp [h1,h2]
theorem T4 {w a b:Nat} (ha:a<2^w):cR w (fun i=>decide (i+b<w)&&a.testBit (i+b))=VU w a b:=by
 unfold VU
 refine jb (Nat.lt_of_le_of_lt (Nat.div_le_self _ _) ha) fun i hi=>?_
 rw [Nat.testBit_div_two_pow]
 by_cases h:i+b<w
 ·rw [Nat.min_eq_left (by omega)];simp [h]
 ·have h1:decide (i+b<w)=false:=by simpa using h
  rw [h1,Bool.false_and]
  refine Nat.testBit_lt_two_pow (Nat.lt_of_lt_of_le ha (Nat.pow_le_pow_right (by omega) ?_))
  omega
theorem S5 {w a b:Nat} (hw:1<=w) (hw16:w<=16) (ha:a<2^w):cR w (fun i=>if i+b<w then a.testBit (i+b)else a.testBit (w-1))=W3 w a b:=by
 have hp:=pN hw
 have top:a.testBit (w-1)=decide (2^(w-1)<=a):=by
  rw [Nat.testBit_eq_decide_div_mod_eq]
  by_cases h:2^(w-1)<=a
  ·have:a/2^(w-1)=1:=by
    rw [Nat.div_eq_iff (bD _)];omega
   simp [this,h]
  ·have:a/2^(w-1)=0:=Nat.div_eq_of_lt (by omega)
   simp [this,h]
 have hb:min b w<=w:=Nat.min_le_right _ _
 have small: ∀i,i<w->i+b<w->min b w=b:=fun i _ h=>Nat.min_eq_left (by omega)
 unfold W3
 refine jb (jn _ _) fun i hi=>?_
 by_cases hs:2^(w-1)<=a
 ·--with the sign
  have e1:sgn w a=(a:Int)-((2^w:Nat):Int):=by unfold sgn;rw [if_pos hs]
  have e2:je w (sgn w a/((2^min b w:Nat):Int))=((a+2^w*(2^16-1))/2^min b w)%2^w:=by
   have h1:sgn w a=((a+2^w*(2^16-1):Nat):Int)-((2^min b w:Nat):Int)*((2^(w+16-min b w):Nat):Int):=by
    have h2:2^min b w*2^(w+16-min b w)=2^w*2^16:=by rw [<-Nat.pow_add,<-Nat.pow_add];congr 1;omega
    rw [e1,<-Int.natCast_mul,h2]
    have:2^w*(2^16-1)+2^w=2^w*2^16:=by rw [<-Nat.mul_succ]
    omega
   have hpos:((2^min b w:Nat):Int)≠0:=by have:=bD (min b w);omega
   have h3:sgn w a/((2^min b w:Nat):Int)=(((a+2^w*(2^16-1))/2^min b w:Nat):Int)-((2^w:Nat):Int)*((2^(16-min b w):Nat):Int):=by
    rw [h1,Int.sub_eq_add_neg,<-Int.mul_neg,Int.add_mul_ediv_left _ _ hpos,<-Int.natCast_ediv]
    have:2^(w+16-min b w)=2^w*2^(16-min b w):=by rw [<-Nat.pow_add];congr 1;omega
    rw [this,Int.natCast_mul];omega
   rw [h3]
   unfold je
   rw [Int.sub_mul_emod_self_left,<-Int.natCast_emod,Int.toNat_natCast]
  rw [e2,Nat.testBit_mod_two_pow,Nat.testBit_div_two_pow,Nat.add_comm a,Nat.testBit_two_pow_mul_add _ ha]
  have hd:decide (i<w)=true:=by simpa using hi
  rw [hd,Bool.true_and]
  by_cases h:i+b<w
  ·have hm:=small i hi h
   rw [if_pos h,hm,if_pos (by omega)]
  ·have hm: ¬i+min b w<w:=by omega
   rw [if_neg h,if_neg hm,Nat.testBit_two_pow_sub_one,top]
   simp only [hs,decide_true,decide_eq_true_eq]
   omega
 ·have e1:sgn w a=a:=by unfold sgn;rw [if_neg hs]
  rw [e1,<-Int.natCast_ediv,pd,Nat.testBit_mod_two_pow,Nat.testBit_div_two_pow]
  have hd:decide (i<w)=true:=by simpa using hi
  rw [hd,Bool.true_and]
  by_cases h:i+b<w
  ·rw [if_pos h,small i hi h]
  ·rw [if_neg h,top]
   have hm: ¬i+min b w<w:=by omega
   have:decide (2^(w-1)<=a)=false:=by simpa using hs
   rw [this]
   exact Nat.testBit_lt_two_pow (Nat.lt_of_lt_of_le ha (Nat.pow_le_pow_right (by omega) (by omega)))
def GN (w a k:Nat):Nat:=((a*2^k)|||(a/2^(w-k)))%2^w
theorem W0 {w a k i:Nat} (ha:a<2^w) (hk:k<w) (hi:i<w):(GN w a k).testBit i=a.testBit ((i+(w-k))%w):=by
 unfold GN
 rw [Nat.testBit_mod_two_pow,Nat.testBit_or,Nat.mul_comm,Nat.testBit_two_pow_mul,Nat.testBit_div_two_pow]
 have hd:decide (i<w)=true:=by simpa using hi
 rw [hd,Bool.true_and]
 by_cases h:k<=i
 ·have e:(i+(w-k))%w=i-k:=by
   have:i+(w-k)=(i-k)+w:=by omega
   rw [this,Nat.add_mod_right,Nat.mod_eq_of_lt (by omega)]
  have z:a.testBit (i+(w-k))=false:=Nat.testBit_lt_two_pow (Nat.lt_of_lt_of_le ha (Nat.pow_le_pow_right (by omega) (by omega)))
  rw [e,z];simp [h]
 ·have e:(i+(w-k))%w=i+(w-k):=Nat.mod_eq_of_lt (by omega)
  rw [e]
  have:decide (k<=i)=false:=by simpa using h
  rw [this];simp
theorem Tv {w a k:Nat} (ha:a<2^w) (hk:k<w):cR w (fun j=>a.testBit ((j+(w-k))%w))=GN w a k:=
 jb (Nat.mod_lt _ (bD w)) fun i hi=>W0 ha hk hi
theorem Q1 {w a k i:Nat} (hk:k<w) (hi:i<w):
  cR w (fun j=>decide ((j+(w-k))%w<i)&&a.testBit ((j+(w-k))%w))+(if a.testBit i then 2^((i+k)%w)else 0)=
   cR w (fun j=>decide ((j+(w-k))%w<i+1)&&a.testBit ((j+(w-k))%w)):=by
 have hpw:(i+k)%w<w:=Nat.mod_lt _ (by omega)
 have back:((i+k)%w+(w-k))%w=i:=by
  rw [Nat.mod_add_mod]
  have:i+k+(w-k)=i+w:=by omega
  rw [this,Nat.add_mod_right,Nat.mod_eq_of_lt hi]
 have inj: ∀j,j<w->((j+(w-k))%w=i↔j=(i+k)%w):=by
  intro j hj
  constructor
  ·intro h
   have:(j+(w-k)+k)%w=(i+k)%w:=by rw [<-h,Nat.mod_add_mod]
   rw [<-this]
   have:j+(w-k)+k=j+w:=by omega
   rw [this,Nat.add_mod_right,Nat.mod_eq_of_lt hj]
  ·rintro rfl;exact back
 cases hb:a.testBit i with
 |false=>
  simp only [Bool.false_eq_true,if_false,Nat.add_zero]
  refine rN fun j hj=>?_
  by_cases h:(j+(w-k))%w=i
  ·rw [h,hb];simp
  ·have:decide ((j+(w-k))%w<i+1)=decide ((j+(w-k))%w<i):=by
    rw [decide_eq_decide];omega
   rw [this]
 |true=>
  simp only [if_true]
  rw [Oi hpw (by rw [back];simp)]
  refine rN fun j hj=>?_
  by_cases h:j=(i+k)%w
  ·have h2:=(inj j hj).2 h
   rw [h2,hb];simp [h]
  ·have h2: ¬(j+(w-k))%w=i:=fun e=>h ((inj j hj).1 e)
   have:decide ((j+(w-k))%w<i+1)=decide ((j+(w-k))%w<i):=by
    rw [decide_eq_decide];omega
   rw [this];simp [h]
def wV (kind:Int) (w a:Nat):Nat×Nat:=
 if kind=1 then(2^w-1-a,w)else if kind=2 then(je w (-(a:Int)),w)else if kind=3 then(if a=0 then 0 else 1,1)else
 if kind=4 then(if a=2^w-1 then 1 else 0,1)else(jw w a%2,1)
def Jk (w a b:Nat):Nat:=if sgn w b=0 then(if sgn w a<0 then 1 else 2^w-1)else je w (Int.tdiv (sgn w a) (sgn w b))
def Js (w a b:Nat):Nat:=if sgn w b=0 then a else je w (Int.tmod (sgn w a) (sgn w b))
def Dm (kind:Int) (w a b:Nat):Bool:=
 if kind=21 then decide (a=b)else if kind=22 then decide (a<b)else if kind=23 then decide (sgn w a<sgn w b)else
 if kind=24 then decide (a<=b)else if kind=25 then decide (sgn w a<=sgn w b)else if kind=26 then decide (2^w<=a+b)else
 if kind=27 then !decide (-((2^(w-1):Nat):Int)<=sgn w a+sgn w b/\sgn w a+sgn w b<((2^(w-1):Nat):Int))else decide (2^w<=a*b)
def Fm (kind:Int) (w a b:Nat):Nat:=
 if kind=6 then a&&&b else if kind=7 then a|||b else if kind=8 then a^^^b else if kind=9 then je w ((a:Int)+b)else
 if kind=10 then je w ((a:Int)-b)else if kind=11 then je w ((a:Int)*b)else if kind=12 then(if b=0 then 2^w-1 else a/b)else
 if kind=13 then(if b=0 then a else a%b)else if kind=14 then Jk w a b else if kind=15 then Js w a b else
 if kind=16 then VT w a b else if kind=17 then VU w a b else if kind=18 then W3 w a b else if kind=19 then GN w a (b%w)else GN w a ((w-b%w)%w)
def rv (kind:Int) (w a b:Nat):Nat×Nat:=if kind<=20 then(Fm kind w a b,w)else(if Dm kind w a b then 1 else 0,1)
theorem Wk {kind:Int} {w a:Nat} (hw:1<=w) (ha:a<2^w):(wV kind w a).1<2^(wV kind w a).2:=by
 have:=bD w
 unfold wV
 split
 ·simp only;omega
 ·split
  ·exact jn _ _
  ·split
   ·simp only;split<;>omega
   ·split
    ·simp only;split<;>omega
    ·simp only;omega
theorem PG (w a k:Nat):GN w a k<2^w:=Nat.mod_lt _ (bD w)
theorem jD {c:Prop} [Decidable c] {x y n:Nat} (hx:x<n) (hy:y<n):(if c then x else y)<n:=by
 by_cases h:c
 ·rw [if_pos h];exact hx
 ·rw [if_neg h];exact hy
theorem Uq {kind:Int} {w a b:Nat} (hw:1<=w) (ha:a<2^w) (hb:b<2^w):Fm kind w a b<2^w:=by
 have hp:=bD w
 have hp1:1<2^w:=by
  have:=pN hw;have:=bD (w-1);omega
 unfold Fm
 refine jD (Nat.lt_of_le_of_lt Nat.and_le_left ha) (jD (Nat.or_lt_two_pow ha hb) (jD (Nat.xor_lt_two_pow ha hb) (jD (jn _ _) (jD (jn _ _) (jD (jn _ _)
  (jD (jD (by omega) (Nat.lt_of_le_of_lt (Nat.div_le_self _ _) ha)) (jD (jD ha (Nat.lt_of_le_of_lt (Nat.mod_le _ _) ha)) (jD ?_ (jD ?_ (jD (Nat.mod_lt _ hp)
  (jD (Nat.lt_of_le_of_lt (Nat.div_le_self _ _) ha) (jD (jn _ _) (jD (PG _ _ _) (PG _ _ _))))))))))))))
 ·unfold Jk
  exact jD (jD hp1 (by omega)) (jn _ _)
 ·unfold Js
  exact jD ha (jn _ _)
theorem VS {kind:Int} {w a b:Nat} (hw:1<=w) (ha:a<2^w) (hb:b<2^w):(rv kind w a b).1<2^(rv kind w a b).2:=by
 unfold rv
 split
 ·exact Uq hw ha hb
 ·simp only;split<;>omega
theorem ZA {w a b:Nat} (hw:1<=w):(sgn w (je w (sgn w a+sgn w b))≠sgn w a+sgn w b)↔ ¬(-((2^(w-1):Nat):Int)<=sgn w a+sgn w b/\sgn w a+sgn w b<((2^(w-1):Nat):Int)):=by
 rw [ne_eq,Tn hw]
structure SortP where
 idx:Int
 wid:Int
 deriving DecidableEq
structure NodeP where
 kind:Int
 a:Int
 b:Int
 c:Int
 n:Int
 m:Int
 sort:SortP
 name:ByteArray
structure BindP where
 state:Int
 node:Int
 deriving DecidableEq
structure ai where
 nodes:List NodeP
 inits:List BindP
 nexts:List BindP
 bads:List Int
 holds:List Int
def bT (s:SortP):Bool:=decide ((0<=s.idx/\s.idx<=2)/\(1<=s.wid/\s.wid<=16))
def cL (s:SortP):Nat:=if bT s then 2^s.idx.toNat else 0
def dG (s:SortP):Nat:=cL s*s.wid.toNat
def cx (w:Int):SortP:=⟨0,w⟩
def ar (kind:Int):Int:=
 if(1<=kind/\kind<=5)\/(30<=kind/\kind<=32)then 1 else if(6<=kind/\kind<=29)\/kind=37 then 2 else if kind=33\/kind=38 then 3 else
 if 34<=kind/\kind<=36 then 0 else-1
def gx (c:UInt8):Bool:=decide (97<=c.toNat/\c.toNat<=122)
def nR (c:UInt8):Bool:=decide (48<=c.toNat/\c.toNat<=57)
def fL (s:ByteArray):Bool:=decide (1<=s.size/\s.size<=8)&&(match s.data.toList with| []=>false|c::r=>gx c&&r.all fun c=>gx c||nR c)
def fE (kind:Int):Bool:=decide (kind=35\/kind=36)
def qE (k:Int) (len:Nat) (i:Int) (p:Int):Bool:=if i<k then decide (0<=p/\p<=(len:Int)-1)else decide (p=0)
def eY (len:Nat) (n:NodeP):Bool:=
 decide (0<=ar n.kind)&&(qE (ar n.kind) len 0 n.a&&qE (ar n.kind) len 1 n.b&&qE (ar n.kind) len 2 n.c)&&
 (if fE n.kind then fL n.name else decide (n.name.size=0))&&(decide (n.kind=30)||decide (n.m=0))&&
 (decide (n.kind=30\/n.kind=31\/n.kind=32\/n.kind=34)||decide (n.n=0))
def iJ (w v:Int):Bool:=decide ((1<=w/\w<=16)/\0<=v/\v<=((2^w.toNat:Nat):Int)-1)
def de (n:NodeP) (a b c:SortP):Option SortP:=
 if n.kind=33 then(if a=cx 1/\b=c then some b else none)else
 if n.kind=37 then(if 0<a.idx/\b=cx a.idx then some (cx a.wid)else none)else
 if n.kind=38 then(if 0<a.idx/\b=cx a.idx/\c=cx a.wid then some a else none)else
 if n.kind=21 then(if a=b then some (cx 1)else none)else
 if 0<a.idx\/(ar n.kind=2/\0<b.idx)then none else
 if n.kind=29 then(if a.wid+b.wid<=16 then some (cx (a.wid+b.wid))else none)else
 if n.kind=30 then(if(0<=n.n/\n.n<=a.wid-1)/\0<=n.m/\n.m<=n.n then some (cx (n.n-n.m+1))else none)else
 if n.kind=31\/n.kind=32 then(if 0<=n.n/\n.n<=16-a.wid then some (cx (a.wid+n.n))else none)else
 if n.kind<=5 then some (cx (if n.kind<=2 then a.wid else 1))else
 if a=b then some (cx (if n.kind<=20 then a.wid else 1))else none
def aE (l:List NodeP) (p:Int):SortP:=match l[p.toNat]? with|some n=>n.sort|none=>⟨0,0⟩
def cQ (l:List NodeP) (n:NodeP):Option SortP:=
 if l.length<=60/\eY l.length n=true then
  (if ar n.kind=0 then(if(if n.kind=34 then decide (n.sort.idx=0)&&iJ n.sort.wid n.n else bT n.sort)then some n.sort else none)else
   if bT (aE l n.a)&&((decide (ar n.kind<2)||bT (aE l n.b))&&(decide (ar n.kind<3)||bT (aE l n.c)))then
    de n (aE l n.a) (aE l n.b) (aE l n.c)else none)
 else none
def cm (l:List NodeP):Bool:=(List.range l.length).all fun i=>match l[i]? with|some n=>decide (cQ (l.take i) n=some n.sort)|none=>true
def jO {α:Type} [DecidableEq α] (l:List α):Bool:=(List.range l.length).any fun i=>match l[i]? with|some x=>(l.take i).any fun y=>decide (y=x)|none=>false
def kX (l:List NodeP):Bool:=(List.range l.length).any fun i=>match l[i]? with|some n=>decide (n.name.size≠0)&&(l.take i).any fun y=>decide (y.name=n.name)|none=>false
def tp (m:ai):Bool:=kX m.nodes||(jO (m.inits.map (·.state))||jO (m.nexts.map (·.state)))
def dC (l:List NodeP):Nat->List Bool
 |0=> []
 |i+1=>dC l i++ [match l[i]? with
   |some n=>fE n.kind||((decide (0<ar n.kind)&&(dC l i).getD n.a.toNat false)||((decide (1<ar n.kind)&&(dC l i).getD n.b.toNat false)||(decide (2<ar n.kind)&&(dC l i).getD n.c.toNat false)))
   |none=>false]
def cW (l:List NodeP) (p:Int):Bool:=decide (0<=p/\p<=(l.length:Int)-1)
def jM (l:List NodeP) (p:Int):Int:=match l[p.toNat]? with|some n=>n.kind|none=>0
def ir (l:List NodeP) (b:BindP):Bool:=
 (cW l b.state&&cW l b.node&&decide (jM l b.state=36))&&((decide (aE l b.state=aE l b.node)||decide (aE l b.node=cx (aE l b.state).wid))&& !(dC l l.length).getD b.node.toNat false)
def fu (l:List NodeP) (b:BindP):Bool:=(cW l b.state&&cW l b.node&&decide (jM l b.state=36))&&decide (aE l b.state=aE l b.node)
def dR (l:List NodeP) (p:Int):Bool:=cW l p&&decide (aE l p=cx 1)
def ak (l:List NodeP) (kind:Int):Nat:=((l.filter fun n=>decide (n.kind=kind)).map fun n=>dG n.sort).sum
def aU (l:List NodeP) (kind:Int):List Nat:=(List.range l.length).filter fun i=>match l[i]? with|some n=>decide (n.kind=kind)|none=>false
def ax (m:ai):Int:=
 if 60<m.nodes.length\/60<m.inits.length\/60<m.nexts.length\/4<m.bads.length\/4<m.holds.length then 1 else
 if cm m.nodes=false then 2 else if tp m=true then 3 else
 if(m.inits.all (ir m.nodes)&&m.nexts.all (fu m.nodes))=false then 4 else
 if(m.bads.all (dR m.nodes)&&m.holds.all (dR m.nodes))=false then 5 else
 if 8<ak m.nodes 36\/5<ak m.nodes 35 then 6 else 0
def cT (v:List (List Nat)) (p:Int):Nat:=(v.getD p.toNat []).getD 0 0
def OZ (a lo n:Nat):Nat:=a/2^lo%2^n
def FE (w a more:Nat) (signed:Bool):Nat:=if signed then je (w+more) (sgn w a)else a
def gW (l:List NodeP) (n:NodeP) (v:List (List Nat)):List Nat:=
 if n.kind=34 then [n.n.toNat]else
 if n.kind=33 then(if cT v n.a=1 then v.getD n.b.toNat []else v.getD n.c.toNat [])else
 if n.kind=21 then [if v.getD n.a.toNat []=v.getD n.b.toNat []then 1 else 0]else
 if n.kind=37 then [(v.getD n.a.toNat []).getD (cT v n.b) 0]else
 if n.kind=38 then(v.getD n.a.toNat []).set (cT v n.b) (cT v n.c)else
 if n.kind=29 then [cT v n.a*2^(aE l n.b).wid.toNat+cT v n.b]else
 if n.kind=30 then [OZ (cT v n.a) n.m.toNat (n.n-n.m+1).toNat]else
 if n.kind=31\/n.kind=32 then [FE (aE l n.a).wid.toNat (cT v n.a) n.n.toNat (decide (n.kind=32))]else
 if ar n.kind=1 then [(wV n.kind (aE l n.a).wid.toNat (cT v n.a)).1]else [(rv n.kind (aE l n.a).wid.toNat (cT v n.a) (cT v n.b)).1]
def gM (l:List NodeP) (s inp:List (List Nat)):Nat->List (List Nat)
 |0=> []
 |i+1=>gM l s inp i++ [match l[i]? with
   |some n=>if n.kind=36 then s.getD (aU (l.take i) 36).length []else if n.kind=35 then inp.getD (aU (l.take i) 35).length []else gW l n (gM l s inp i)
   |none=> []]
def r5 (n:NodeP):List Nat:=([n.a.toNat,n.b.toNat,n.c.toNat]).take (ar n.kind).toNat
theorem uK (k:Int):ar k=0\/ar k=1\/ar k=2\/ar k=3\/ar k= -1:=by
 unfold ar
 by_cases h1:(1<=k/\k<=5)\/(30<=k/\k<=32)
 ·rw [if_pos h1];simp
 rw [if_neg h1]
 by_cases h2:(6<=k/\k<=29)\/k=37
 ·rw [if_pos h2];simp
 rw [if_neg h2]
 by_cases h3:k=33\/k=38
 ·rw [if_pos h3];simp
 rw [if_neg h3]
 by_cases h4:34<=k/\k<=36
 ·rw [if_pos h4];simp
 rw [if_neg h4];simp
def Ml (l:List NodeP):Prop:= ∀(i:Nat) (n:NodeP),l[i]?=some n->0<=ar n.kind/\ ∀p∈r5 n,p<i
def qW (l:List NodeP) (j:Nat):Bool:=match l[j]? with|some n=>fE n.kind|none=>false
def sc (l:List NodeP) (j:Nat):Bool:=(dC l l.length).getD j false
theorem ib (l:List NodeP): ∀i,(dC l i).length=i:=by
 intro i
 induction i with
 |zero=>rfl
 |succ i ih=>simp only [dC,List.length_append,ih,List.length_cons,List.length_nil]
theorem QP (l:List NodeP): ∀d i j,j<i->(dC l (i+d)).getD j false=(dC l i).getD j false:=by
 intro d
 induction d with
 |zero=>intro i j _;rfl
 |succ d ih=>
  intro i j hj
  rw [<-Nat.add_assoc]
  simp only [dC]
  have hl:=ib l (i+d)
  rw [List.getD,List.getElem?_append_left (by omega)]
  exact ih i j hj
theorem rz {l:List NodeP} {i j:Nat} (hj:j<i) (hi:i<=l.length):(dC l i).getD j false=sc l j:=by
 have:=QP l (l.length-i) i j hj
 rw [show i+(l.length-i)=l.length by omega]at this
 exact this.symm
theorem Ul {l:List NodeP} (ha:Ml l) {i:Nat} {n:NodeP} (hn:l[i]?=some n):sc l i=true↔fE n.kind=true\/ ∃p∈r5 n,sc l p=true:=by
 have hi:i<l.length:=(List.getElem?_eq_some_iff.1 hn).1
 obtain⟨hk,hp⟩:=ha i n hn
 have e:sc l i=(fE n.kind||((decide (0<ar n.kind)&&(dC l i).getD n.a.toNat false)||((decide (1<ar n.kind)&&(dC l i).getD n.b.toNat false)||(decide (2<ar n.kind)&&(dC l i).getD n.c.toNat false)))):=by
  rw [<-rz (Nat.lt_succ_self i) hi]
  simp only [dC]
  have hl:=ib l i
  rw [List.getD,List.getElem?_append_right (by omega),hl,Nat.sub_self]
  simp only [hn,List.getElem?_cons_zero,Option.getD_some]
 rw [e]
 unfold r5 at hp⊢
 rcases uK n.kind with h|h|h|h|h
 ·simp [h]
 ·rw [h]at hp⊢
  have h1:=hp n.a.toNat (by simp)
  rw [rz h1 (by omega)]
  simp
 ·rw [h]at hp⊢
  have h1:=hp n.a.toNat (by simp)
  have h2:=hp n.b.toNat (by simp)
  rw [rz h1 (by omega),rz h2 (by omega)]
  simp
 ·rw [h]at hp⊢
  have h1:=hp n.a.toNat (by simp)
  have h2:=hp n.b.toNat (by simp)
  have h3:=hp n.c.toNat (by simp)
  rw [rz h1 (by omega),rz h2 (by omega),rz h3 (by omega)]
  simp
 ·omega
def ua (l:List NodeP):Nat->(Nat->Bool)->Nat->Bool
 |0,S=>S
 |i+1,S=>ua l i (if S i then fun j=>S j||(match l[i]? with|some n=>(r5 n).contains j|none=>false)else S)
theorem Rg {l:List NodeP} (ha:Ml l): ∀(i:Nat) (S:Nat->Bool),i<=l.length->
  ((∃j,ua l i S j=true/\qW l j=true)↔(∃j,i<=j/\S j=true/\qW l j=true)\/ ∃j,j<i/\S j=true/\sc l j=true):=by
 intro i
 induction i with
 |zero=>intro S _;simp [ua]
 |succ i ih=>
  intro S hi
  simp only [ua]
  rw [ih _ (by omega)]
  obtain⟨n,hn⟩: ∃n,l[i]?=some n:=⟨l[i],List.getElem?_eq_getElem (by omega)⟩
  have hm:=Ul ha hn
  have hp:=(ha i n hn).2
  have hnm:qW l i=fE n.kind:=by unfold qW;rw [hn]
  by_cases hS:S i=true
  ·simp only [hS,if_true,hn]
   constructor
   ·rintro (⟨j,h1,h2,h3⟩|⟨j,h1,h2,h3⟩)
    ·by_cases hji:j=i
     ·subst hji
      exact .inr ⟨j,by omega,hS,hm.2 (.inl (hnm▸h3))⟩
     ·rcases Bool.or_eq_true_iff.1 h2 with h2|h2
      ·exact .inl ⟨j,by omega,h2,h3⟩
      ·have:=hp j (by simpa using h2);omega
    ·rcases Bool.or_eq_true_iff.1 h2 with h2|h2
     ·exact .inr ⟨j,by omega,h2,h3⟩
     ·exact .inr ⟨i,by omega,hS,hm.2 (.inr ⟨j,by simpa using h2,h3⟩)⟩
   ·rintro (⟨j,h1,h2,h3⟩|⟨j,h1,h2,h3⟩)
    ·exact .inl ⟨j,by omega,by simp [h2],h3⟩
    ·by_cases hji:j=i
     ·subst hji
      rcases hm.1 h3 with h4|⟨p,hp1,hp2⟩
      ·exact .inl ⟨j,Nat.le_refl _,by simp [hS],hnm▸h4⟩
      ·exact .inr ⟨p,hp p hp1,by simp [hp1],hp2⟩
     ·exact .inr ⟨j,by omega,by simp [h2],h3⟩
  ·simp only [hS,if_false]
   constructor
   ·rintro (⟨j,h1,h2,h3⟩|⟨j,h1,h2,h3⟩)
    ·by_cases hji:j=i
     ·subst hji;exact absurd h2 hS
     ·exact .inl ⟨j,by omega,h2,h3⟩
    ·exact .inr ⟨j,by omega,h2,h3⟩
   ·rintro (⟨j,h1,h2,h3⟩|⟨j,h1,h2,h3⟩)
    ·exact .inl ⟨j,by omega,h2,h3⟩
    ·by_cases hji:j=i
     ·subst hji;exact absurd h2 hS
     ·exact .inr ⟨j,by omega,h2,h3⟩
theorem Wz {l:List NodeP} (ha:Ml l) {i:Nat} (hi:i<l.length):(∃j,ua l (i+1) (fun j=>decide (j=i)) j=true/\qW l j=true)↔sc l i=true:=by
 rw [Rg ha _ _ (by omega)]
 constructor
 ·rintro (⟨j,h1,h2,h3⟩|⟨j,h1,h2,h3⟩)
  ·simp at h2;omega
  ·simp at h2;subst h2;exact h3
 ·intro h;exact .inr ⟨i,by omega,by simp,h⟩
theorem VK {l:List NodeP} (ha:Ml l) (k:Nat): ∀(i:Nat) (S:Nat->Bool),i<=k+1->i<=l.length->(∀j,S j=true->j<=k)-> ∀j,ua l i S j=true->j<=k:=by
 intro i
 induction i with
 |zero=>intro S _ _ hS j hj;exact hS j hj
 |succ i ih=>
  intro S hk hi hS j hj
  simp only [ua]at hj
  refine ih _ (by omega) (by omega) ?_ j hj
  intro j' hj'
  split at hj'
  ·rcases Bool.or_eq_true_iff.1 hj' with h|h
   ·exact hS j' h
   ·obtain⟨n,hn⟩: ∃n,l[i]?=some n:=⟨l[i],List.getElem?_eq_getElem (by omega)⟩
    rw [hn]at h
    have:=(ha i n hn).2 j' (by simpa using h)
    omega
  ·exact hS j' hj'
def kM (w:Nat):Nat->Nat->List Nat
 |0,_=> []
 |c+1,code=>kM w c code++ [code/2^(w*c)%2^w]
def cc (l:List NodeP) (p:Nat):Nat:=(aE l p).wid.toNat
def aK (l:List NodeP) (p:Nat):Nat:=cL (aE l p)
def cw (l:List NodeP) (ps:List Nat):Nat:=(ps.map fun p=>cc l p*aK l p).sum
def gh (l:List NodeP) (ps:List Nat) (code:Nat):List (List Nat):=
 (List.range ps.length).map fun i=>kM (cc l (ps.getD i 0)) (aK l (ps.getD i 0)) (code/2^cw l (ps.take i))
theorem pM (w c code:Nat):(kM w c code).length=c:=by
 induction c with
 |zero=>rfl
 |succ c ih=>simp only [kM,List.length_append,ih,List.length_cons,List.length_nil]
theorem Pw {w c code x:Nat} (h:x∈kM w c code):x<2^w:=by
 induction c with
 |zero=>cases h
 |succ c ih=>
  simp only [kM,List.mem_append,List.mem_singleton]at h
  rcases h with h|h
  ·exact ih h
  ·subst h;exact Nat.mod_lt _ (bD w)
theorem kr (l:List NodeP) (ps:List Nat) (code:Nat):(gh l ps code).length=ps.length:=by simp [gh]
theorem PP {α:Type} {l:List α} {i:Nat} {x:α} (h:l[i]?=some x):i<l.length:=by
 rcases Nat.lt_or_ge i l.length with h'|h'
 ·exact h'
 ·rw [List.getElem?_eq_none h']at h;cases h
theorem GU {l:List NodeP} {ps:List Nat} {code i p:Nat} (h:ps[i]?=some p):(gh l ps code).getD i []=kM (cc l p) (aK l p) (code/2^cw l (ps.take i)):=by
 have hlt:=PP h
 have hp:ps.getD i 0=p:=by rw [List.getD_eq_getElem?_getD,h];rfl
 unfold gh
 rw [List.getD_eq_getElem?_getD,List.getElem?_map,List.getElem?_range hlt]
 simp only [Option.map_some,Option.getD_some,hp]
theorem mR {l:List NodeP} {ps:List Nat} {i p:Nat} (h:ps[i]?=some p):cw l (ps.take (i+1))=cw l (ps.take i)+cc l p*aK l p:=by
 have hlt:=PP h
 rw [List.getElem?_eq_getElem hlt]at h
 unfold cw
 rw [List.take_succ_eq_append_getElem hlt,Option.some.inj h,List.map_append,List.sum_append];simp
theorem E2 (l:List NodeP) (ps:List Nat) (i:Nat):cw l (ps.take i)<=cw l ps:=by
 conv=>rhs;rw [<-List.take_append_drop i ps]
 unfold cw
 rw [List.map_append,List.sum_append];omega
def fA (w:Nat):List Nat->Nat
 | []=>0
 |x::xs=>x+2^w*fA w xs
theorem wv {w:Nat}: ∀{xs:List Nat},(∀x∈xs,x<2^w)->fA w xs<2^(w*xs.length):=by
 intro xs
 induction xs with
 |nil=>intro _;simp [fA]
 |cons x xs ih=>
  intro h
  have h1:=ih fun y hy=>h y (by simp [hy])
  have h2:=h x (by simp)
  simp only [fA,List.length_cons]
  rw [Nat.mul_add,Nat.mul_one,Nat.pow_add,Nat.mul_comm (2^(w*xs.length))]
  have h3:=Nat.mul_le_mul_left (2^w) (Nat.succ_le_of_lt h1)
  rw [Nat.succ_eq_add_one,Nat.mul_add,Nat.mul_one]at h3
  omega
theorem F4 (w:Nat) (xs:List Nat) (x:Nat):fA w (xs++ [x])=fA w xs+2^(w*xs.length)*x:=by
 induction xs with
 |nil=>simp [fA]
 |cons y ys ih=>
  simp only [List.cons_append,fA,ih,List.length_cons]
  rw [Nat.mul_add,<-Nat.add_assoc]
  congr 1
  rw [Nat.mul_add w,Nat.mul_one,Nat.add_comm (w*ys.length),Nat.pow_add,Nat.mul_assoc]
theorem Ho (w:Nat) (code k:Nat): ∀c,c<=k->kM w c (code%2^(w*k))=kM w c code:=by
 intro c
 induction c with
 |zero=>intro _;rfl
 |succ c ih=>
  intro h
  simp only [kM,ih (by omega)]
  congr 2
  have hk:w*k=w*c+(w+w*(k-c-1)):=by
   have:k=c+(1+(k-c-1)):=by omega
   conv=>lhs;rw [this]
   simp only [Nat.mul_add,Nat.mul_one]
  rw [hk,Nat.pow_add,Nat.mod_mul_right_div_self,Nat.pow_add,Nat.mod_mul_right_mod]
theorem Cb (w c code:Nat):fA w (kM w c code)=code%2^(w*c):=by
 induction c with
 |zero=>simp [kM,fA,Nat.mod_one]
 |succ c ih=>
  rw [kM,F4,ih,pM,Nat.mul_add,Nat.mul_one,Nat.pow_add,Nat.mod_mul]
theorem RM {w:Nat}: ∀{xs:List Nat} {k:Nat},(∀x∈xs,x<2^w)->k<xs.length->fA w xs/2^(w*k)%2^w=xs.getD k 0:=by
 intro xs
 induction xs with
 |nil=>intro k _ h;simp at h
 |cons x xs ih=>
  intro k h hk
  have hx:=h x (by simp)
  have hp:=bD w
  cases k with
  |zero=>
   simp only [fA,Nat.mul_zero,Nat.pow_zero,Nat.div_one,List.getD_cons_zero]
   rw [Nat.add_mul_mod_self_left,Nat.mod_eq_of_lt hx]
  |succ k=>
   rw [List.getD_cons_succ,<-ih (fun y hy=>h y (by simp [hy])) (by simpa using hk)]
   simp only [fA]
   rw [Nat.mul_add,Nat.mul_one,Nat.add_comm (w*k),Nat.pow_add,<-Nat.div_div_eq_div_mul,Nat.add_mul_div_left _ _ hp,Nat.div_eq_of_lt hx,Nat.zero_add]
theorem Cz {w:Nat} {xs:List Nat} (h: ∀x∈xs,x<2^w):kM w xs.length (fA w xs)=xs:=by
 have key: ∀c,c<=xs.length->kM w c (fA w xs)=xs.take c:=by
  intro c
  induction c with
  |zero=>intro _;rfl
  |succ c ih=>
   intro hc
   rw [kM,ih (by omega),RM h (by omega),List.take_succ_eq_append_getElem (by omega),List.getD_eq_getElem?_getD,List.getElem?_eq_getElem (by omega)];rfl
 have:=key xs.length (Nat.le_refl _)
 rwa [List.take_length]at this
theorem Fw (w n:Nat):fA w (List.replicate n 0)=0:=by
 induction n with
 |zero=>rfl
 |succ n ih=>simp only [List.replicate_succ,fA,ih];simp
def nbA (l:List NodeP) (p:Nat):Nat:=cc l p*aK l p
def B8 (l:List NodeP):List Nat->Nat->List (List Nat)
 | [],_=> []
 |p::ps,code=>kM (cc l p) (aK l p) code::B8 l ps (code/2^nbA l p)
def dZ (l:List NodeP):List Nat->List (List Nat)->Nat
 | [],_=>0
 |p::ps,vs=>fA (cc l p) (vs.headD [])+2^nbA l p*dZ l ps vs.tail
def mt (l:List NodeP):List Nat->List (List Nat)->Prop
 | [],vs=>vs= []
 |p::ps,vs=> ∃v r,vs=v::r/\v.length=aK l p/\(∀x∈v,x<2^cc l p)/\mt l ps r
theorem oG (l:List NodeP) (p:Nat) (ps:List Nat):cw l (p::ps)=nbA l p+cw l ps:=by simp [cw,nbA]
theorem sq (l:List NodeP): ∀(ps:List Nat) (code:Nat),gh l ps code=B8 l ps code:=by
 intro ps
 induction ps with
 |nil=>intro code;simp [gh,B8]
 |cons p ps ih=>
  intro code
  rw [B8,<-ih]
  unfold gh
  rw [List.length_cons,List.range_succ_eq_map,List.map_cons,List.map_map]
  simp only [List.getD_cons_zero,List.take_zero,cw,List.map_nil,List.sum_nil,Nat.pow_zero,Nat.div_one,List.cons.injEq,true_and]
  apply List.map_congr_left
  intro i _
  simp only [Function.comp,List.getD_cons_succ,List.take_succ_cons,List.map_cons,List.sum_cons,nbA]
  rw [Nat.pow_add,Nat.div_div_eq_div_mul]
theorem MH (l:List NodeP): ∀(ps:List Nat) (code:Nat),mt l ps (B8 l ps code):=by
 intro ps
 induction ps with
 |nil=>intro code;rfl
 |cons p ps ih=>exact fun code=>⟨_,_,rfl,pM _ _ _,fun x hx=>Pw hx,ih _⟩
theorem AH {l:List NodeP}: ∀{ps:List Nat} {vs:List (List Nat)},mt l ps vs->dZ l ps vs<2^cw l ps:=by
 intro ps
 induction ps with
 |nil=>intro vs _;simp [dZ,cw]
 |cons p ps ih=>
  rintro _ ⟨v,r,rfl,h1,h2,h3⟩
  have h4:=ih h3
  have h5:=wv h2
  rw [h1]at h5
  have h5':fA (cc l p) v<2^nbA l p:=h5
  simp only [dZ,List.headD_cons,List.tail_cons]
  rw [oG,Nat.pow_add]
  have h6:=Nat.mul_le_mul_left (2^nbA l p) (Nat.succ_le_of_lt h4)
  rw [Nat.succ_eq_add_one,Nat.mul_add,Nat.mul_one]at h6
  omega
theorem xR {l:List NodeP}: ∀{ps:List Nat} {vs:List (List Nat)},mt l ps vs->B8 l ps (dZ l ps vs)=vs:=by
 intro ps
 induction ps with
 |nil=>rintro vs rfl;rfl
 |cons p ps ih=>
  rintro _ ⟨v,r,rfl,h1,h2,h3⟩
  have h5:=wv h2
  rw [h1]at h5
  have h5':fA (cc l p) v<2^nbA l p:=h5
  simp only [B8,dZ,List.headD_cons,List.tail_cons]
  rw [Nat.add_mul_div_left _ _ (bD _),Nat.div_eq_of_lt h5',Nat.zero_add,ih h3,<-Ho _ _ _ _ (Nat.le_refl _)]
  have:(fA (cc l p) v+2^nbA l p*dZ l ps r)%2^(cc l p*aK l p)=fA (cc l p) v:=by
   show _%2^nbA l p=_
   rw [Nat.add_mul_mod_self_left,Nat.mod_eq_of_lt h5']
  rw [this,<-h1,Cz h2]
theorem nX {l:List NodeP}: ∀{ps:List Nat} {vs:List (List Nat)},mt l ps vs->vs.length=ps.length:=by
 intro ps
 induction ps with
 |nil=>rintro vs rfl;rfl
 |cons p ps ih=>rintro _ ⟨v,r,rfl,h1,h2,h3⟩;simp [ih h3]
theorem Ow {l:List NodeP}: ∀{ps:List Nat} {vs:List (List Nat)} {p:Nat} {v:List Nat},vs.length=ps.length->
  dZ l (ps++ [p]) (vs++ [v])=dZ l ps vs+2^cw l ps*fA (cc l p) v:=by
 intro ps
 induction ps with
 |nil=>
  intro vs p v h
  obtain rfl:vs= []:=List.eq_nil_of_length_eq_zero (by simpa using h)
  simp [dZ,cw]
 |cons q ps ih=>
  intro vs p v h
  obtain⟨u,r,rfl⟩: ∃u r,vs=u::r:=by
   cases vs with
   |nil=>simp at h
   |cons u r=>exact⟨u,r,rfl⟩
  simp only [List.cons_append,dZ,List.headD_cons,List.tail_cons]
  rw [ih (by simpa using h),oG,Nat.pow_add,Nat.mul_add,Nat.mul_assoc,Nat.add_assoc]
theorem Ru {l:List NodeP}: ∀{ps:List Nat} {vs:List (List Nat)},mt l ps vs-> ∀i,mt l (ps.take i) (vs.take i):=by
 intro ps
 induction ps with
 |nil=>rintro vs rfl i;simp [mt]
 |cons p ps ih=>
  rintro _ ⟨v,r,rfl,h1,h2,h3⟩ i
  cases i with
  |zero=>rfl
  |succ i=>exact⟨v,r.take i,rfl,h1,h2,ih h3 i⟩
theorem qe {l:List NodeP}: ∀{ps:List Nat} {vs:List (List Nat)},mt l ps vs-> ∀{i p:Nat},ps[i]?=some p->(vs.getD i []).length=aK l p/\ ∀x∈vs.getD i [],x<2^cc l p:=by
 intro ps
 induction ps with
 |nil=>rintro vs rfl i p h;simp at h
 |cons q ps ih=>
  rintro _ ⟨v,r,rfl,h1,h2,h3⟩ i p h
  cases i with
  |zero=>simp at h;subst h;exact⟨h1,h2⟩
  |succ i=>exact ih h3 (by simpa using h)
def ce (binds:List BindP) (p:Nat):Option Nat:=(binds.find? fun b=>decide (b.state=(p:Int))).map (·.node.toNat)
def fJ (l:List NodeP) (c:Nat->Bool):List Nat->Nat
 | []=>0
 |p::ps=>(if c p then 2^nbA l p-1 else 0)+2^nbA l p*fJ l c ps
def kw (l:List NodeP) (f:Nat->Option (List Nat)) (ps:List Nat):List (List Nat):=ps.map fun p=>(f p).getD (List.replicate (aK l p) 0)
theorem Oo (n:Nat):2^n-1<2^n:=by have:=bD n;omega
theorem O6 (l:List NodeP) (c:Nat->Bool) (p:Nat):(if c p then 2^nbA l p-1 else 0)<2^nbA l p:=by
 have:=bD (nbA l p);split<;>omega
theorem xg (l:List NodeP) (c:Nat->Bool): ∀ps,fJ l c ps<2^cw l ps:=by
 intro ps
 induction ps with
 |nil=>simp [fJ,cw]
 |cons p ps ih=>
  have h1:=O6 l c p
  rw [oG,Nat.pow_add,fJ]
  have h6:=Nat.mul_le_mul_left (2^nbA l p) (Nat.succ_le_of_lt ih)
  rw [Nat.succ_eq_add_one,Nat.mul_add,Nat.mul_one]at h6
  omega
theorem Ci {n a b:Nat} (ha:a<2^n) (j:Nat):(a+2^n*b).testBit j=if j<n then a.testBit j else b.testBit (j-n):=by
 rw [Nat.add_comm,Nat.testBit_two_pow_mul_add _ ha]
theorem Qu {n a b c d:Nat} (ha:a<2^n) (hc:c<2^n):(a+2^n*b)&&&(c+2^n*d)=(a&&&c)+2^n*(b&&&d):=by
 apply Nat.eq_of_testBit_eq
 intro j
 rw [Nat.testBit_and,Ci ha,Ci hc,Ci (Nat.lt_of_le_of_lt Nat.and_le_left ha)]
 split<;>rw [Nat.testBit_and]
theorem Qo {n a b c d:Nat} (ha:a<2^n) (hc:c<2^n):a+2^n*b=c+2^n*d↔a=c/\b=d:=by
 constructor
 ·intro h
  have h1:(a+2^n*b)%2^n=(c+2^n*d)%2^n:=by rw [h]
  have h2:(a+2^n*b)/2^n=(c+2^n*d)/2^n:=by rw [h]
  rw [Nat.add_mul_mod_self_left,Nat.add_mul_mod_self_left,Nat.mod_eq_of_lt ha,Nat.mod_eq_of_lt hc]at h1
  rw [Nat.add_mul_div_left _ _ (bD n),Nat.add_mul_div_left _ _ (bD n),Nat.div_eq_of_lt ha,Nat.div_eq_of_lt hc]at h2
  exact⟨h1,by omega⟩
 ·rintro ⟨rfl,rfl⟩;rfl
theorem Cf {l:List NodeP} {f:Nat->Option (List Nat)}: ∀{ps:List Nat} (s:Nat),(∀p∈ps,∀v,f p=some v->v.length=aK l p/\ ∀x∈v,x<2^cc l p)->
  (s&&&fJ l (fun p=>(f p).isSome) ps=dZ l ps (kw l f ps)↔ ∀(i p:Nat),ps[i]?=some p-> ∀v,f p=some v->(B8 l ps s).getD i []=v):=by
 intro ps
 induction ps with
 |nil=>intro s _;simp [fJ,dZ]
 |cons p ps ih=>
  intro s hf
  have ih':=ih (s/2^nbA l p) fun q hq=>hf q (by simp [hq])
  have hs:s=s%2^nbA l p+2^nbA l p*(s/2^nbA l p):=(Nat.mod_add_div _ _).symm
  have hm:=Nat.mod_lt s (bD (nbA l p))
  have hhead:fA (cc l p) ((f p).getD (List.replicate (aK l p) 0))<2^nbA l p:=by
   cases h:f p with
   |none=>simp only [Option.getD_none,Fw];exact bD _
   |some v=>
    have h2:=hf p (by simp) v h
    have h1:=wv h2.2
    rw [h2.1]at h1;exact h1
  have e1:s&&&fJ l (fun p=>(f p).isSome) (p::ps)=(s%2^nbA l p&&&(if(f p).isSome then 2^nbA l p-1 else 0))+2^nbA l p*(s/2^nbA l p&&&fJ l (fun p=>(f p).isSome) ps):=by
   conv=>lhs;rw [hs]
   rw [fJ,Qu hm (O6 l (fun p=>(f p).isSome) p)]
  have e2:dZ l (p::ps) (kw l f (p::ps))=fA (cc l p) ((f p).getD (List.replicate (aK l p) 0))+2^nbA l p*dZ l ps (kw l f ps):=rfl
  rw [e1,e2,Qo (Nat.lt_of_le_of_lt Nat.and_le_left hm) hhead,ih']
  constructor
  ·rintro ⟨h1,h2⟩ i q hq v hv
   cases i with
   |zero=>
    simp at hq;subst hq
    rw [hv]at h1
    simp only [Option.isSome_some,if_true,Option.getD_some,Nat.and_two_pow_sub_one_eq_mod,Nat.mod_mod]at h1
    have h3:=hf p (by simp) v hv
    simp only [B8,List.getD_cons_zero]
    rw [<-Ho _ _ _ _ (Nat.le_refl _)]
    show kM _ _ (s%2^nbA l p)=v
    rw [h1,<-h3.1,Cz h3.2]
   |succ i=>exact h2 i q (by simpa using hq) v hv
  ·intro h
   refine⟨?_,fun i q hq v hv=>h (i+1) q (by simpa using hq) v hv⟩
   cases hv:f p with
   |none=>simp [Fw]
   |some v=>
    have h1:=h 0 p rfl v hv
    simp only [B8,List.getD_cons_zero]at h1
    simp only [Option.isSome_some,if_true,Option.getD_some,Nat.and_two_pow_sub_one_eq_mod,Nat.mod_mod]
    rw [<-h1,Cb];rfl
theorem CU {l:List NodeP} {f:Nat->Option (List Nat)} {ps:List Nat} (h: ∀p∈ps,∀v,f p=some v->v.length=aK l p/\ ∀x∈v,x<2^cc l p):mt l ps (kw l f ps):=by
 induction ps with
 |nil=>rfl
 |cons p ps ih=>
  refine⟨_,_,rfl,?_,?_,ih fun q hq=>h q (by simp [hq])⟩
  ·show ((f p).getD (List.replicate (aK l p) 0)).length=_
   cases hv:f p with
   |none=>simp
   |some v=>exact(h p (by simp) v hv).1
  ·show∀x∈(f p).getD (List.replicate (aK l p) 0),_
   cases hv:f p with
   |none=>
    intro x hx
    simp at hx
    rw [hx.2];exact bD _
   |some v=>exact(h p (by simp) v hv).2
theorem Mk {l:List NodeP} {f:Nat->Option (List Nat)} {ps:List Nat} (h: ∀p∈ps,∀v,f p=some v->v.length=aK l p/\ ∀x∈v,x<2^cc l p):
  dZ l ps (kw l f ps)&&&fJ l (fun p=>(f p).isSome) ps=dZ l ps (kw l f ps):=by
 rw [Cf _ h,xR (CU h)]
 intro i p hp v hv
 unfold kw
 rw [List.getD_eq_getElem?_getD,List.getElem?_map,hp]
 simp [hv]
theorem Iq {a b:Nat} (h: ∀j,(a.testBit j&&b.testBit j)=false):a&&&b=0:=by
 apply Nat.eq_of_testBit_eq;intro j;rw [Nat.testBit_and,h j,Nat.zero_testBit]
theorem TE (l:List NodeP) (c:Nat->Bool): ∀ps,fJ l c ps+fJ l (fun p=> !c p) ps=2^cw l ps-1:=by
 intro ps
 induction ps with
 |nil=>simp [fJ,cw]
 |cons p ps ih=>
  simp only [fJ]
  rw [oG,Nat.pow_add]
  have h1:=bD (nbA l p)
  have h2:=bD (cw l ps)
  have h3:2^nbA l p*fJ l c ps+2^nbA l p*fJ l (fun p=> !c p) ps=2^nbA l p*2^cw l ps-2^nbA l p:=by
   rw [<-Nat.mul_add,ih,Nat.mul_sub,Nat.mul_one]
  have h4:=Nat.mul_le_mul_left (2^nbA l p) h2
  by_cases hc:c p=true
  ·simp only [hc,Bool.not_true,if_true,if_false,Bool.false_eq_true];omega
  ·have hc':c p=false:=by simpa using hc
   simp only [hc',Bool.not_false,if_true,if_false,Bool.false_eq_true];omega
theorem xv (n a b:Nat):cR n (fun j=>a.testBit j&&b.testBit j)+cR n (fun j=>a.testBit j&& !b.testBit j)=cR n a.testBit:=by
 induction n with
 |zero=>rfl
 |succ n ih=>
  simp only [cR]
  by_cases h1:a.testBit n=true<;>by_cases h2:b.testBit n=true<;>simp [h1,h2]<;>omega
theorem yq {n a:Nat} (h:a<2^n):cR n a.testBit=a:=jb h fun _ _=>rfl
theorem WW {n a x y:Nat} (ha:a<2^n) (hxy:x+y=2^n-1) (hx:x<2^n):(a&&&x)+(a&&&y)=a/\ ∀j,j<n->y.testBit j= !x.testBit j:=by
 have hb: ∀j,j<n->y.testBit j= !x.testBit j:=by
  have h1:=xv n (2^n-1) x
  rw [yq (Oo n),jb hx (fun i hi=>by rw [Nat.testBit_two_pow_sub_one];simp [hi])]at h1
  have h2:cR n (fun j=>(2^n-1).testBit j&& !x.testBit j)=y:=by omega
  intro j hj
  rw [<-h2,rG _ _ _ hj,Nat.testBit_two_pow_sub_one]
  simp [hj]
 refine⟨?_,hb⟩
 have h1:=xv n a x
 rw [yq ha,Gu ha]at h1
 have h2:cR n (fun j=>a.testBit j&& !x.testBit j)=a&&&y:=by
  rw [<-Gu ha]
  exact rN fun j hj=>by rw [hb j hj]
 omega
theorem UT {n x y nx t:Nat} (hxy:x+y=2^n-1) (hx:x<2^n) (ht:t<2^n) (hnx:nx<2^n) (hn:nx&&&x=nx):t&&&x=nx↔ ∃f,f&&&y=f/\nx+f=t:=by
 have h1:=WW ht hxy hx
 constructor
 ·intro h
  exact⟨t&&&y,by rw [Nat.and_assoc,Nat.and_self],by omega⟩
 ·rintro ⟨f,hf,rfl⟩
  have hfl:f<2^n:=by omega
  have d: ∀j,(nx.testBit j&&f.testBit j)=false:=by
   intro j
   by_cases hj:j<n
   ·have e1:nx.testBit j=(nx.testBit j&&x.testBit j):=by rw [<-Nat.testBit_and,hn]
    have e2:f.testBit j=(f.testBit j&&y.testBit j):=by rw [<-Nat.testBit_and,hf]
    rw [e1,e2,h1.2 j hj]
    cases nx.testBit j<;>cases f.testBit j<;>cases x.testBit j<;>rfl
   ·rw [Nat.testBit_lt_two_pow (Nat.lt_of_lt_of_le hnx (Nat.pow_le_pow_right (by omega) (by omega)))];rfl
  have hor:nx+f=nx|||f:=by
   have hg: ∀m,cR m nx.testBit+cR m f.testBit=cR m (fun j=>nx.testBit j||f.testBit j):=by
    intro m
    induction m with
    |zero=>rfl
    |succ m ih=>
     have:=d m
     simp only [cR]
     by_cases h1:nx.testBit m=true<;>by_cases h2:f.testBit m=true<;>simp [h1,h2]at this⊢ <;>omega
   have:=hg n
   rw [yq hnx,yq hfl,Pa hnx hfl]at this
   exact this
  rw [hor]
  have hfx:f&&&x=0:=Iq fun j=>by
   by_cases hj:j<n
   ·have e2:f.testBit j=(f.testBit j&&y.testBit j):=by rw [<-Nat.testBit_and,hf]
    rw [e2,h1.2 j hj]
    cases f.testBit j<;>cases x.testBit j<;>rfl
   ·rw [Nat.testBit_lt_two_pow (Nat.lt_of_lt_of_le hfl (Nat.pow_le_pow_right (by omega) (by omega)))];rfl
  rw [Nat.and_or_distrib_right,hn,hfx,Nat.or_zero]
def nJ (n:Nat) (p:Nat->Bool):Bool:=(List.range n).any p
theorem cy {n:Nat} {p:Nat->Bool}:nJ n p=true↔ ∃i,i<n/\p i=true:=by
 unfold nJ;rw [List.any_eq_true]
 constructor
 ·rintro ⟨i,hi,h⟩;exact⟨i,List.mem_range.1 hi,h⟩
 ·rintro ⟨i,hi,h⟩;exact⟨i,List.mem_range.2 hi,h⟩
theorem pC {n:Nat} {p:Nat->Bool}:nJ n p=false↔ ∀i,i<n->p i=false:=by
 rw [Bool.eq_false_iff,ne_eq,cy]
 constructor
 ·intro h i hi
  cases hp:p i with
  |false=>rfl
  |true=>exact absurd ⟨i,hi,hp⟩ h
 ·rintro h ⟨i,hi,hp⟩;rw [h i hi]at hp;cases hp
theorem I5 (n:Nat) (p:Nat->Bool):nJ (n+1) p=(nJ n p||p n):=by
 unfold nJ;rw [List.range_succ,List.any_append];simp
structure aC where
 n:Nat
 k:Nat
 hold:Nat->Bool
 bad:Nat->Bool
 next:Nat->Nat
 fixed:Nat
 bfix:Nat
 bas:Nat
structure aC.Ok (σ:aC):Prop where
 nle:σ.n<=8
 kle:σ.k<=5
 fixed:σ.fixed<2^σ.n
 bfix:σ.bfix<2^σ.n
 next: ∀c,c<2^(σ.n+σ.k)->σ.next c<2^σ.n
 held: ∀c,c<2^(σ.n+σ.k)->σ.next c&&&σ.fixed=σ.next c
 bas:σ.bas<2^σ.n
 bheld:σ.bas&&&σ.bfix=σ.bas
namespace aC
def begins (σ:aC) (s:Nat):Bool:=decide (s&&&σ.bfix=σ.bas)
def ends (σ:aC) (c:Nat):Bool:=σ.hold c&&σ.bad c
def goes (σ:aC) (c t:Nat):Bool:=decide (t&&&σ.fixed=σ.next c)
def at_ (σ:aC) (s i:Nat):Nat:=i*2^σ.n+s
def some_ (σ:aC) (f:Nat->Nat->Bool) (s:Nat):Bool:=nJ (2^σ.k) fun i=>f s (σ.at_ s i)
def leads (σ:aC) (S:Nat->Bool) (c:Nat):Bool:=nJ (2^σ.n) fun t=>S t&&σ.goes c t
def fwd (σ:aC) (p S:Nat->Bool) (t:Nat):Bool:=nJ (2^(σ.n+σ.k)) fun c=>(S (c%2^σ.n)&&p c)&&σ.goes c t
def bwd (σ:aC) (p S:Nat->Bool):Nat->Bool:=σ.some_ fun _ c=>p c&&σ.leads S c
theorem pow_nk (σ:aC):2^(σ.n+σ.k)=2^σ.k*2^σ.n:=by rw [Nat.pow_add,Nat.mul_comm]
theorem at_lt {σ:aC} {s i:Nat} (hs:s<2^σ.n) (hi:i<2^σ.k):σ.at_ s i<2^(σ.n+σ.k):=by
 rw [pow_nk];unfold at_
 have:=Nat.mul_le_mul_right (2^σ.n) (Nat.succ_le_of_lt hi)
 rw [Nat.succ_mul]at this;omega
theorem at_mod {σ:aC} {s i:Nat} (hs:s<2^σ.n):σ.at_ s i%2^σ.n=s:=by
 unfold at_;rw [Nat.mul_comm,Nat.mul_add_mod,Nat.mod_eq_of_lt hs]
theorem at_of {σ:aC} {c:Nat} (hc:c<2^(σ.n+σ.k)):c%2^σ.n<2^σ.n/\c/2^σ.n<2^σ.k/\σ.at_ (c%2^σ.n) (c/2^σ.n)=c:=by
 refine⟨Nat.mod_lt _ (bD _),?_,?_⟩
 ·rw [Nat.div_lt_iff_lt_mul (bD _),<-pow_nk];exact hc
 ·unfold at_;rw [Nat.mul_comm];exact Nat.div_add_mod _ _
theorem some_iff {σ:aC} {f:Nat->Nat->Bool} {s:Nat}:σ.some_ f s=true↔ ∃i,i<2^σ.k/\f s (σ.at_ s i)=true:=cy
theorem fwd_iff {σ:aC} {p S:Nat->Bool} {t:Nat}:σ.fwd p S t=true↔ ∃s i,s<2^σ.n/\i<2^σ.k/\S s=true/\p (σ.at_ s i)=true/\σ.goes (σ.at_ s i) t=true:=by
 unfold fwd;rw [cy]
 constructor
 ·rintro ⟨c,hc,h⟩
  simp only [Bool.and_eq_true]at h
  obtain⟨h1,h2,h3⟩:=at_of hc
  exact⟨_,_,h1,h2,h.1.1,by rw [h3];exact h.1.2,by rw [h3];exact h.2⟩
 ·rintro ⟨s,i,hs,hi,h1,h2,h3⟩
  refine⟨_,at_lt hs hi,?_⟩
  rw [at_mod hs,h1,h2,h3];rfl
theorem bwd_iff {σ:aC} {p S:Nat->Bool} {s:Nat}:σ.bwd p S s=true↔ ∃i t,i<2^σ.k/\t<2^σ.n/\p (σ.at_ s i)=true/\S t=true/\σ.goes (σ.at_ s i) t=true:=by
 unfold bwd;rw [some_iff]
 constructor
 ·rintro ⟨i,hi,h⟩
  simp only [Bool.and_eq_true,leads,cy]at h
  obtain⟨h1,t,ht,h2,h3⟩:=h
  exact⟨i,t,hi,ht,h1,h2,h3⟩
 ·rintro ⟨i,t,hi,ht,h1,h2,h3⟩
  refine⟨i,hi,?_⟩
  simp only [Bool.and_eq_true,leads,cy]
  exact⟨h1,t,ht,h2,h3⟩
theorem meet {σ:aC} {p S T:Nat->Bool}:(∃t,t<2^σ.n/\σ.fwd p S t=true/\T t=true)↔ ∃s,s<2^σ.n/\S s=true/\σ.bwd p T s=true:=by
 constructor
 ·rintro ⟨t,ht,h1,h2⟩
  obtain⟨s,i,hs,hi,a,b,c⟩:=fwd_iff.1 h1
  exact⟨s,hs,a,bwd_iff.2 ⟨i,t,hi,ht,b,h2,c⟩⟩
 ·rintro ⟨s,hs,h1,h2⟩
  obtain⟨i,t,hi,ht,a,b,c⟩:=bwd_iff.1 h2
  exact⟨t,ht,fwd_iff.2 ⟨s,i,hs,hi,h1,a,c⟩,b⟩
def lay (σ:aC):Nat->(Nat->Bool)×(Nat->Bool)
 |0=>(σ.begins,fun _=>false)
 |i+1=>(fun t=>σ.fwd σ.hold (σ.lay i).1 t&& !((σ.lay i).2 t||(σ.lay i).1 t),fun t=>(σ.lay i).2 t||(σ.lay i).1 t)
def front (σ:aC) (i:Nat):Nat->Bool:=(σ.lay i).1
def seen (σ:aC) (i:Nat):Nat->Bool:=(σ.lay i).2
theorem seen_succ (σ:aC) (i t:Nat):σ.seen (i+1) t=(σ.seen i t||σ.front i t):=rfl
theorem front_succ (σ:aC) (i t:Nat):σ.front (i+1) t=(σ.fwd σ.hold (σ.front i) t&& !σ.seen (i+1) t):=rfl
def live (σ:aC) (i:Nat):Bool:=nJ (2^σ.n) (σ.front i)
def cntB (n:Nat) (S:Nat->Bool):Nat:=((List.range n).filter S).length
theorem cntB_le (n:Nat) (S:Nat->Bool):cntB n S<=n:=by unfold cntB;have:=List.length_filter_le S (List.range n);simpa using this
theorem cntB_succ (n:Nat) (S:Nat->Bool):cntB (n+1) S=cntB n S+if S n then 1 else 0:=by
 unfold cntB;rw [List.range_succ,List.filter_append,List.length_append]
 by_cases h:S n=true<;>simp [h]
theorem cntB_mono {n:Nat} {S T:Nat->Bool} (h: ∀i,i<n->S i=true->T i=true):cntB n S<=cntB n T:=by
 induction n with
 |zero=>simp [cntB]
 |succ n ih=>
  have:=ih fun i hi=>h i (by omega)
  have h2:=h n (by omega)
  rw [cntB_succ,cntB_succ]
  by_cases hs:S n=true
  ·rw [if_pos hs,if_pos (h2 hs)];omega
  ·rw [if_neg hs];omega
theorem cntB_more {n j:Nat} {S T:Nat->Bool} (h: ∀i,i<n->S i=true->T i=true) (hj:j<n) (h1:S j=false) (h2:T j=true):cntB n S+1<=cntB n T:=by
 induction n with
 |zero=>omega
 |succ n ih=>
  rw [cntB_succ,cntB_succ]
  by_cases e:j=n
  ·subst e
   have:=cntB_mono fun i hi=>h i (Nat.lt_succ_of_lt hi)
   rw [if_neg (by rw [h1];decide),if_pos h2];omega
  ·have:=ih (fun i hi=>h i (by omega)) (by omega)
   have h3:=h n (by omega)
   by_cases hs:S n=true
   ·rw [if_pos hs,if_pos (h3 hs)];omega
   ·rw [if_neg hs];omega
theorem front_new (σ:aC) (i t:Nat) (h:σ.front i t=true):σ.seen i t=false:=by
 cases i with
 |zero=>rfl
 |succ i=>rw [front_succ]at h;simp only [Bool.and_eq_true,Bool.not_eq_true']at h;exact h.2
theorem cnt_seen (σ:aC): ∀i,(∀j,j<i->σ.live j=true)->i<=cntB (2^σ.n) (σ.seen i):=by
 intro i
 induction i with
 |zero=>intro _;omega
 |succ i ih=>
  intro h
  have h1:=ih fun j hj=>h j (by omega)
  obtain⟨t,ht,h2⟩:=cy.1 (h i (by omega))
  have:=cntB_more (n:=2^σ.n) (j:=t) (S:=σ.seen i) (T:=σ.seen (i+1)) (fun j _ hj=>by rw [seen_succ,hj];rfl) ht (front_new σ i t h2) (by rw [seen_succ,h2,Bool.or_true])
  omega
theorem live_le {σ:aC} {i:Nat} (h: ∀j,j<i->σ.live j=true):i<=2^σ.n:=Nat.le_trans (cnt_seen σ i h) (cntB_le _ _)
theorem dead_after {σ:aC} {i:Nat} (h:σ.live i=false): ∀d,σ.live (i+d)=false:=by
 intro d
 induction d with
 |zero=>exact h
 |succ d ih=>
  unfold live at ih⊢
  rw [pC]at ih⊢
  intro t ht
  rw [<-Nat.add_assoc,front_succ]
  have:σ.fwd σ.hold (σ.front (i+d)) t=false:=by
   cases hf:σ.fwd σ.hold (σ.front (i+d)) t with
   |false=>rfl
   |true=>
    obtain⟨s,x,hs,_,h1,_⟩:=fwd_iff.1 hf
    rw [ih s hs]at h1;cases h1
  rw [this];rfl
def nLay (σ:aC):Nat:=(List.range (2^σ.n+1)).findIdx fun i=> !σ.live i
theorem nLay_of {σ:aC} {i:Nat} (h1: ∀j,j<i->σ.live j=true) (h2:σ.live i=false):σ.nLay=i:=by
 have hle:=live_le h1
 unfold nLay
 rw [List.findIdx_eq (by simp;omega)]
 refine⟨by simp [h2],fun j hj=>?_⟩
 simp [h1 j hj]
theorem nLay_live {σ:aC}:(∀j,j<σ.nLay->σ.live j=true)/\σ.live σ.nLay=false:=by
 obtain⟨i,h1,h2⟩: ∃i,(∀j,j<i->σ.live j=true)/\σ.live i=false:=by
  have key: ∀m i,(∀j,j<i->σ.live j=true)->m=2^σ.n+1-i-> ∃i,(∀j,j<i->σ.live j=true)/\σ.live i=false:=by
   intro m
   induction m with
   |zero=>intro i h hm;have:=live_le h;omega
   |succ m ih=>
    intro i h hm
    cases hl:σ.live i with
    |false=>exact⟨i,h,hl⟩
    |true=>exact ih (i+1) (fun j hj=>by
      by_cases e:j=i
      ·subst e;exact hl
      ·exact h j (by omega)) (by omega)
  exact key _ 0 (fun j hj=>by omega) rfl
 rw [nLay_of h1 h2];exact⟨h1,h2⟩
theorem nLay_le (σ:aC):σ.nLay<=2^σ.n:=live_le nLay_live.1
theorem front_lt {σ:aC} {i s:Nat} (hs:s<2^σ.n) (h:σ.front i s=true):i<σ.nLay:=by
 rcases Nat.lt_or_ge i σ.nLay with h1|h1
 ·exact h1
 ·have:=dead_after (nLay_live (σ:=σ)).2 (i-σ.nLay)
  rw [show σ.nLay+(i-σ.nLay)=i by omega]at this
  unfold live at this
  rw [pC]at this
  rw [this s hs]at h;cases h
theorem begins_at {σ:aC} (h:σ.Ok):σ.begins σ.bas=true:=by unfold begins;rw [decide_eq_true_eq];exact h.bheld
theorem nLay_pos {σ:aC} (h:σ.Ok):0<σ.nLay:=front_lt h.bas (begins_at h)
def reach (σ:aC):Nat->Bool:=σ.seen σ.nLay
def endsAt (σ:aC):Nat->Bool:=σ.some_ fun _ c=>σ.ends c
theorem endsAt_iff {σ:aC} {s:Nat}:σ.endsAt s=true↔ ∃x,x<2^σ.k/\σ.hold (σ.at_ s x)=true/\σ.bad (σ.at_ s x)=true:=by
 unfold endsAt;rw [some_iff];simp only [ends,Bool.and_eq_true]
def hits (σ:aC) (i:Nat):Bool:=nJ (2^σ.n) fun s=>σ.front i s&&σ.endsAt s
def depth (σ:aC):Option Nat:=(List.range σ.nLay).find? fun i=>σ.hits i
def depthI (σ:aC):Int:=match σ.depth with|some d=>d|none=> -1
theorem find_none {n:Nat} {p:Nat->Bool}:(List.range n).find? p=none↔ ∀i,i<n->p i=false:=by
 rw [List.find?_eq_none]
 constructor
 ·intro h i hi;have:=h i (List.mem_range.2 hi);simpa using this
 ·intro h i hi;rw [h i (List.mem_range.1 hi)];decide
theorem find_some {n d:Nat} {p:Nat->Bool}:(List.range n).find? p=some d↔d<n/\p d=true/\ ∀i,i<d->p i=false:=by
 induction n with
 |zero=>simp
 |succ n ih=>
  rw [List.range_succ,List.find?_append]
  cases hn:(List.range n).find? p with
  |some e=>
   have h1:=hn
   rw [Option.some_or]
   have ih': ∀d,some e=some d↔_:=fun d=>hn▸(show (List.range n).find? p=some d↔d<n/\p d=true/\ ∀i,i<d->p i=false from by
    constructor
    ·intro hd
     have:=List.find?_some hd
     have hm:=List.mem_range.1 (List.mem_of_find?_eq_some hd)
     refine⟨hm,this,fun i hi=>?_⟩
     rw [List.find?_range_eq_some]at hd
     simpa using hd.2.2 i hi
    ·rintro ⟨a,b,c⟩
     rw [List.find?_range_eq_some]
     exact⟨b,List.mem_range.2 a,fun j hj=>by simp [c j hj]⟩)
   rw [ih']
   constructor
   ·rintro ⟨a,b,c⟩;exact⟨by omega,b,c⟩
   ·rintro ⟨a,b,c⟩
    refine⟨?_,b,c⟩
    rcases Nat.lt_or_ge d n with h|h
    ·exact h
    ·have hd:d=n:=by omega
     have he:=(ih' e).1 rfl
     have:=c e (by omega)
     rw [he.2.1]at this;cases this
  |none=>
   rw [Option.none_or]
   have h0:=find_none.1 hn
   simp only [List.find?_cons,List.find?_nil]
   cases hp:p n with
   |true=>
    simp only [Option.some.injEq]
    constructor
    ·rintro rfl;exact⟨by omega,hp,h0⟩
    ·rintro ⟨a,b,c⟩
     rcases Nat.lt_or_ge d n with h|h
     ·rw [h0 d h]at b;cases b
     ·omega
   |false=>
    simp only [reduceCtorEq,false_iff]
    rintro ⟨a,b,c⟩
    rcases Nat.lt_or_ge d n with h|h
    ·rw [h0 d h]at b;cases b
    ·have:d=n:=by omega
     subst this;rw [hp]at b;cases b
theorem depth_some {σ:aC} {d:Nat}:σ.depth=some d↔σ.hits d=true/\ ∀i,i<d->σ.hits i=false:=by
 unfold depth;rw [find_some]
 constructor
 ·rintro ⟨_,h⟩;exact h
 ·rintro ⟨h1,h2⟩
  obtain⟨s,hs,h⟩:=cy.1 h1
  exact⟨front_lt hs (by simp only [Bool.and_eq_true]at h;exact h.1),h1,h2⟩
theorem depth_lt {σ:aC} {d:Nat} (h:σ.depth=some d):d<σ.nLay:=(find_some.1 h).1
def back (σ:aC):Nat->Nat->Bool
 |0=>σ.endsAt
 |i+1=>σ.some_ fun s c=>σ.back i s||(σ.hold c&&σ.leads (σ.back i) c)
def ahead (σ:aC):Nat->Nat->Bool
 |0=>σ.endsAt
 |i+1=>σ.bwd σ.hold (σ.ahead i)
def leastB (n:Nat) (p:Nat->Bool):Nat:=((List.range n).find? p).getD 0
theorem leastB_of {n i:Nat} {p:Nat->Bool} (hi:i<n) (h:p i=true) (hb: ∀j,j<i->p j=false):leastB n p=i:=by
 unfold leastB;rw [find_some.2 ⟨hi,h,hb⟩];rfl
theorem leastB_at {n:Nat} {p:Nat->Bool} (h: ∃i,i<n/\p i=true):leastB n p<n/\p (leastB n p)=true/\ ∀j,j<leastB n p->p j=false:=by
 cases hf:(List.range n).find? p with
 |none=>
  obtain⟨i,hi,hp⟩:=h
  rw [find_none.1 hf i hi]at hp;cases hp
 |some d=>
  have:=find_some.1 hf
  unfold leastB;rw [hf];exact this
def onB (σ:aC) (k:Nat) (c:Nat):Bool:=match k with|0=>σ.ends c|k+1=>σ.hold c&&σ.leads (σ.ahead k) c
def wit (σ:aC):Nat->(Nat->Bool)->List (Nat×Nat)
 |0,fits=>let s:=leastB (2^σ.n) fun s=>fits s&&σ.ahead 0 s;let x:=leastB (2^σ.k) fun x=>σ.onB 0 (σ.at_ s x); [(s,x)]
 |k+1,fits=>let s:=leastB (2^σ.n) fun s=>fits s&&σ.ahead (k+1) s;let x:=leastB (2^σ.k) fun x=>σ.onB (k+1) (σ.at_ s x);(s,x)::σ.wit k (σ.goes (σ.at_ s x))
theorem ahead_on {σ:aC} {k s:Nat}:σ.ahead k s=true↔ ∃x,x<2^σ.k/\σ.onB k (σ.at_ s x)=true:=by
 cases k with
 |zero=>
  show σ.endsAt s=true↔_
  unfold endsAt;rw [some_iff];rfl
 |succ k=>
  show σ.bwd σ.hold (σ.ahead k) s=true↔_
  unfold bwd;rw [some_iff];rfl
theorem onB_next {σ:aC} {k c:Nat} (h:σ.onB (k+1) c=true): ∃t,t<2^σ.n/\(σ.goes c t&&σ.ahead k t)=true:=by
 simp only [onB,Bool.and_eq_true,leads,cy]at h
 obtain⟨_,t,ht,h1,h2⟩:=h
 exact⟨t,ht,by rw [h1,h2];rfl⟩
def run (σ:aC):Nat->Nat->Bool
 |0=>σ.begins
 |i+1=>σ.fwd σ.hold (σ.run i)
theorem fwd_mono {σ:aC} {p q S T:Nat->Bool} (hp: ∀c,c<2^(σ.n+σ.k)->p c=true->q c=true) (hS: ∀s,s<2^σ.n->S s=true->T s=true) {t:Nat} (h:σ.fwd p S t=true):σ.fwd q T t=true:=by
 obtain⟨s,i,hs,hi,a,b,c⟩:=fwd_iff.1 h
 exact fwd_iff.2 ⟨s,i,hs,hi,hS s hs a,hp _ (at_lt hs hi) b,c⟩
theorem front_run (σ:aC): ∀i t,σ.front i t=true->σ.run i t=true:=by
 intro i
 induction i with
 |zero=>exact fun t h=>h
 |succ i ih=>
  intro t h
  rw [front_succ]at h
  simp only [Bool.and_eq_true]at h
  exact fwd_mono (fun _ _ h=>h) (fun s _ h=>ih s h) h.1
theorem run_ahead {σ:aC}: ∀i k,(∃s,s<2^σ.n/\σ.run i s=true/\σ.ahead k s=true)-> ∃s,s<2^σ.n/\(σ.begins s&&σ.ahead (i+k) s)=true:=by
 intro i
 induction i with
 |zero=>
  rintro k ⟨s,hs,h1,h2⟩
  exact⟨s,hs,by rw [Nat.zero_add,h2];simpa [run] using h1⟩
 |succ i ih=>
  rintro k ⟨s,hs,h1,h2⟩
  obtain⟨t,ht,h3,h4⟩:=meet.1 ⟨s,hs,h1,h2⟩
  have:=ih (k+1) ⟨t,ht,h3,h4⟩
  rwa [show i+(k+1)=i+1+k by omega]at this
theorem wit_begins {σ:aC} {d:Nat} (h:σ.depth=some d): ∃s,s<2^σ.n/\(σ.begins s&&σ.ahead d s)=true:=by
 obtain⟨s,hs,h1⟩:=cy.1 (depth_some.1 h).1
 simp only [Bool.and_eq_true]at h1
 exact run_ahead d 0 ⟨s,hs,front_run σ d s h1.1,h1.2⟩
def clean (σ:aC) (c:Nat):Bool:=σ.hold c&& !σ.bad c
def back2 (σ:aC):Nat->Nat->Bool
 |0=>σ.endsAt
 |i+1=>σ.bwd σ.clean (σ.back2 i)
def kind (σ:aC) (k:Nat):Int:=if(match σ.depth with|some d=>decide (d<k)|none=>false)then 1 else if nJ (2^σ.n) (σ.back2 k)then 2 else 0
def met (σ:aC) (S:Nat->Bool):Bool:=nJ (2^σ.n) fun s=>S s&&σ.endsAt s
end aC
theorem SZ {x:Int} {n:Nat} (hn:n<=64):pe x (n:Int)=x/((2^n:Nat):Int):=by
 unfold pe
 have h1:min (Int.toNat (n:Int)) IntKind.i64.bits=n:=by simp [IntKind.bits];omega
 rw [h1,Int.fdiv_eq_ediv_of_nonneg _ (Int.pow_nonneg (by decide))]
 simp
theorem gF {x:Int} {w:Nat} (hw:w<=62):mW x (((2^w:Nat):Int)-1)=((je w x:Nat):Int):=by
 have h2:=my hw
 have hp:=bD w
 have hm:(((2^w:Nat):Int)-1)=((2^w-1:Nat):Int):=by omega
 rw [hm]
 show IntKind.i64.wrap _=_
 have h1:(BitVec.ofInt IntKind.i64.bits x&&&BitVec.ofInt IntKind.i64.bits ((2^w-1:Nat):Int)).toNat=je w x:=by
  show (BitVec.ofInt 64 x&&&BitVec.ofInt 64 ((2^w-1:Nat):Int)).toNat=je w x
  rw [BitVec.ofInt_natCast,BitVec.toNat_and,BitVec.toNat_ofNat,BitVec.toNat_ofInt,Nat.mod_eq_of_lt (by omega),Nat.and_two_pow_sub_one_eq_mod]
  have hd:((2^w:Nat):Int)∣((2^64:Nat):Int):=Int.natCast_dvd_natCast.2 (Nat.pow_dvd_pow 2 (by omega))
  have h3:=Int.emod_emod_of_dvd x hd
  have h4:=Int.emod_nonneg x (b:=((2^64:Nat):Int)) (by decide)
  unfold je
  rw [<-h3]
  generalize x%((2^64:Nat):Int)=y at*
  obtain⟨z,rfl⟩: ∃z:Nat,y=z:=⟨y.toNat,by omega⟩
  rw [<-Int.natCast_emod,Int.toNat_natCast,Int.toNat_natCast]
 rw [h1]
 exact et (by have:=jn w x;omega)
theorem T2 {w:Nat} (hw:w<=62):au (-1) (w:Int)= -((2^w:Nat):Int):=by
 have h2:=my hw
 unfold au
 have h1:min (Int.toNat (w:Int)) IntKind.i64.bits=w:=by simp [IntKind.bits];omega
 rw [h1]
 have h3:(-1:Int)*2^w= -((2^w:Nat):Int):=by simp
 have key: ∀N:Nat,N<=4611686018427387904->W (-(N:Int))= -(N:Int):=fun N h=>bV (by omega) (by omega)
 rw [h3];exact key _ h2
theorem zl {w:Nat} (hw:w<=16):2^w<=65536:=by
 have:=Nat.pow_le_pow_right (n:=2) (by omega) hw
 simpa using this
theorem jy {w v:Int}:iJ w v=true↔(1<=w/\w<=16)/\0<=v/\v<((2^w.toNat:Nat):Int):=by
 unfold iJ
 rw [decide_eq_true_eq]
 constructor
 ·rintro ⟨h1,h2,h3⟩;exact⟨h1,h2,by omega⟩
 ·rintro ⟨h1,h2,h3⟩;exact⟨h1,h2,by omega⟩
theorem dx {h:Hp} {w:Nat} {R:Value->Hp->Prop} (hw:w<=62) (k:R (I (((2^w:Nat):Int)-1)) h):cB #[I w] h R:=by
 apply LM
 refine uf_ ?_
 have:=my hw
 have hp:=bD w
 rw [if_neg (by omega),bG hw,bV (by omega) (by omega)]
 exact k
theorem AV {h:Hp} {w:Int} {R:Value->Hp->Prop} (k:R (.bool (decide (1<=w/\w<=16))) h):nh #[I w] h R:=by
 apply G1
 refine uf_ ?_
 exact fv ⟨_,rfl,k⟩
theorem vb {h:Hp} {w:Int} {R:Value->Hp->Prop} (k:R (.bool (decide (1<=w/\w<=16))) h):kD #[I w] h R:=by
 apply Hq
 refine uf_ ?_
 exact dz ⟨_,rfl,k⟩
theorem G6 (w v:Int):iJ w v=(decide (1<=w/\w<=16)&&decide (0<=v/\v<=((2^w.toNat:Nat):Int)-1)):=by
 unfold iJ;rw [Bool.eq_iff_iff];simp
theorem Cs {h:Hp} {w v:Int} {R:Value->Hp->Prop} (k:R (.bool (iJ w v)) h):ti #[I w,I v] h R:=by
 apply Iy
 refine uf_ ?_
 rw [G6]at k
 refine AV ⟨_,rfl,ac (fun e=>?_) (fun e=>?_)⟩
 ·rw [e,Bool.true_and]at k
  have e':1<=w/\w<=16:=by simpa using e
  obtain⟨n,rfl⟩: ∃n:Nat,w=n:=⟨w.toNat,by omega⟩
  rw [Int.toNat_natCast]at k
  exact dx (by omega) ⟨_,rfl,fv ⟨_,rfl,k⟩⟩
 ·rw [e,Bool.false_and]at k;exact k
theorem cr {h:Hp} {w v:Int} {R:Value->Hp->Prop} (k:R (.bool (iJ w v)) h):dl #[I w,I v] h R:=by
 apply HG
 refine uf_ ?_
 rw [G6]at k
 refine vb ⟨_,rfl,ac (fun e=>?_) (fun e=>?_)⟩
 ·rw [e,Bool.true_and]at k
  have e':1<=w/\w<=16:=by simpa using e
  obtain⟨n,rfl⟩: ∃n:Nat,w=n:=⟨w.toNat,by omega⟩
  rw [Int.toNat_natCast]at k
  have:=my (n:=n) (by omega)
  have hp:=bD n
  rw [cl (by omega),if_neg (by omega),bG (by omega),bV (by omega) (by omega)]
  exact dz ⟨_,rfl,k⟩
 ·rw [e,Bool.false_and]at k;exact k
def WO (w a:Nat):Prop:=(1<=w/\w<=16)/\a<2^w
theorem WO.ok {w a:Nat} (e:WO w a):iJ (w:Int) (a:Int)=true:=jy.2 ⟨by have:=e.1;omega,by omega,by rw [Int.toNat_natCast];have:=e.2;omega⟩
theorem WO.pow {w a:Nat} (e:WO w a):2^w<=65536:=zl e.1.2
theorem mG {h:Hp} {w a:Nat} {R:Value->Hp->Prop} (e:WO w a) (k:R (I (sgn w a)) h):gA #[I w,I a] h R:=by
 apply HD
 refine uf_ ?_
 obtain⟨⟨h1,h2⟩,ha⟩:=e
 have hp:=pN h1
 have h16:=zl h2
 have w1:W ((w:Int)-1)=((w-1:Nat):Int):=by rw [bV (by omega) (by omega)];omega
 rw [w1,if_neg (by omega),if_neg (by omega),kj (by omega)]
 unfold sgn at k
 by_cases hs:2^(w-1)<=a
 ·have e1:a/2^(w-1)=1:=by rw [Nat.div_eq_iff (bD _)];omega
  rw [e1,gJ (by omega) (by omega),Nat.one_mul,bV (by omega) (by omega)]
  rw [if_pos hs]at k;exact k
 ·have e1:a/2^(w-1)=0:=Nat.div_eq_of_lt (by omega)
  rw [e1,gJ (by omega) (by omega),Nat.zero_mul,bV (by omega) (by omega)]
  rw [if_neg hs]at k
  simpa using k
theorem ie {h:Hp} {w a:Nat} {R:Value->Hp->Prop} (e:WO w a) (k:R (I (sgn w a)) h):d8 #[I w,I a] h R:=by
 apply BK
 refine uf_ ?_
 obtain⟨⟨h1,h2⟩,ha⟩:=e
 have hp:=pN h1
 have h16:=zl h2
 have w1:W ((w:Int)-1)=((w-1:Nat):Int):=by rw [bV (by omega) (by omega)];omega
 refine cr ⟨_,rfl,aD (by rw [WO.ok ⟨⟨h1,h2⟩,ha⟩];rfl) ?_⟩
 rw [w1,cl (by omega),if_neg (by omega),bG (by omega)]
 unfold sgn at k
 refine ac (fun e=>?_) (fun e=>?_)
 ·have hs:2^(w-1)<=a:=by
   have:=of_decide_eq_true e;omega
  rw [if_pos hs]at k
  rw [cl (by omega),if_neg (by omega),bG (by omega),bV (by omega) (by omega)]
  exact k
 ·have hs: ¬2^(w-1)<=a:=by
   have:=of_decide_eq_false e;omega
  rw [if_neg hs]at k;exact k
theorem NS (w:Nat) (n:Int):((je w n:Nat):Int)=if Int.tmod n ((2^w:Nat):Int)<0 then Int.tmod n ((2^w:Nat):Int)+((2^w:Nat):Int)else Int.tmod n ((2^w:Nat):Int):=by
 rw [Fu]
 have hp:(0:Int)<((2^w:Nat):Int):=Int.ofNat_lt.2 (bD w)
 have h1:=Int.emod_nonneg n (b:=((2^w:Nat):Int)) (by omega)
 have h2:=Int.emod_lt_of_pos n hp
 have h3:=Int.tmod_eq_emod (a:=n) (b:=((2^w:Nat):Int))
 have h4:n%((2^w:Nat):Int)=0->((2^w:Nat):Int)∣n:=Int.dvd_of_emod_eq_zero
 rw [h3]
 generalize ((2^w:Nat):Int)=N at*
 by_cases hn:0<=n\/N∣n
 ·rw [if_pos hn];split<;>omega
 ·have h5:n%N≠0:=fun e=>hn (.inr (h4 e))
  rw [if_neg hn]
  generalize n%N=r at*
  split<;>omega
theorem gz {h:Hp} {w:Nat} {n:Int} {R:Value->Hp->Prop} (hw:1<=w/\w<=16) (k:R (I (je w n)) h):dM #[I w,I n] h R:=by
 apply Et
 refine uf_ ?_
 have h16:=zl hw.2
 have hp:=bD w
 have hlt:=jn w n
 have ht:=NS w n
 refine vb ⟨_,rfl,aD (by simp;omega) ?_⟩
 rw [cl (by omega),if_neg (by omega),bG (by omega),if_neg (by omega)]
 refine ac (fun e=>?_) (fun e=>?_)
 ·have e':=of_decide_eq_true e
  rw [if_pos e']at ht
  rw [if_neg (by omega),bV (by omega) (by omega),<-ht];exact k
 ·have e':=of_decide_eq_false e
  rw [if_neg e']at ht
  rw [<-ht];exact k
theorem DB {h:Hp} {w a:Nat} {R:Value->Hp->Prop} (hw:w<=16) (k:R (I (jw w a)) h):pr #[I w,I a] h R:=by
 apply Ia
 refine uf_ ?_
 refine av w (fun i vs h'=>vs= [I w,I a,I (jw i a),I i]/\h'=h) ⟨rfl,rfl⟩ ?_
 rintro i _ _ next hi ⟨rfl,rfl⟩ hn
 refine⟨_,_,_,_,rfl,?_⟩
 by_cases hlt:i<w
 ·refine aJ (by simp [hlt]) (iL (by omega) ⟨_,rfl,?_⟩)
  have hl:=M0 i a
  have e:W ((jw i a:Int)+(if a.testBit i then 1 else 0))=((jw (i+1) a:Nat):Int):=by
   rw [bV (by split<;>omega) (by split<;>omega)]
   simp only [jw]
   split<;>simp
  rw [e,aA (by omega)]
  exact hn hlt _ _ ⟨rfl,rfl⟩
 ·have:i=w:=by omega
  subst this
  exact aD (by simp) k
theorem M8 {a b:Nat} (ha:a<18446744073709551616) (hb:b<18446744073709551616):aY .and .u64 (a:Int) (b:Int)=((a&&&b:Nat):Int):=by
 show IntKind.u64.wrap _=_
 have h1:(BitVec.ofInt IntKind.u64.bits (a:Int)&&&BitVec.ofInt IntKind.u64.bits (b:Int)).toNat=a&&&b:=by
  show (BitVec.ofInt 64 (a:Int)&&&BitVec.ofInt 64 (b:Int)).toNat=a&&&b
  rw [BitVec.ofInt_natCast,BitVec.ofInt_natCast,BitVec.toNat_and,BitVec.toNat_ofNat,BitVec.toNat_ofNat,Nat.mod_eq_of_lt (by omega),Nat.mod_eq_of_lt (by omega)]
 rw [h1,IntKind.wrap_u64]
 have:=Nat.and_le_left (n:=a) (m:=b)
 omega
def T9 (x:Nat):Nat:=(x/2&&&6148914691236517205)+(x&&&6148914691236517205)
def SK (x:Nat):Nat:=(x/4&&&3689348814741910323)+(x&&&3689348814741910323)
def U1 (x:Nat):Nat:=(x/16+x)&&&1085102592571150095
def TC (x:Nat):Nat:=x/256+x
def Uh (x:Nat):Nat:=x/65536+x
def Ty (x:Nat):Nat:=x/4294967296+x
def Io (x:Nat):Nat:=Ty (Uh (TC (U1 (SK (T9 x)))))&&&127
def Np (x:Nat):Bool:=Nat.beq (Io (2*x)) (Io x)&&Nat.beq (Io (2*x+1)) (Io x+1)
def ML (hi:Nat):Nat->Bool
 |0=>true
 |n+1=>Np (hi*256+n)&&ML hi n
def Po :Nat->Bool
 |0=>true
 |n+1=>ML n 256&&Po n
theorem Wj :Po 128=true:=by kernel_rfl
theorem Ux {hi:Nat}: ∀n,ML hi n=true-> ∀i,i<n->Np (hi*256+i)=true:=by
 intro n
 induction n with
 |zero=>intro _ i h;omega
 |succ n ih=>
  intro h i hi
  simp only [ML,Bool.and_eq_true]at h
  by_cases e:i=n
  ·subst e;exact h.1
  ·exact ih h.2 i (by omega)
theorem Uc : ∀n,Po n=true-> ∀i,i<n->ML i 256=true:=by
 intro n
 induction n with
 |zero=>intro _ i h;omega
 |succ n ih=>
  intro h i hi
  simp only [Po,Bool.and_eq_true]at h
  by_cases e:i=n
  ·subst e;exact h.1
  ·exact ih h.2 i (by omega)
theorem TQ {x:Nat} (h:x<32768):Io (2*x)=Io x/\Io (2*x+1)=Io x+1:=by
 have h1:=Uc 128 Wj (x/256) (by omega)
 have h2:=Ux 256 h1 (x%256) (Nat.mod_lt _ (by omega))
 rw [show x/256*256+x%256=x by omega]at h2
 simp only [Np,Bool.and_eq_true]at h2
 exact⟨Nat.eq_of_beq_eq_true h2.1,Nat.eq_of_beq_eq_true h2.2⟩
theorem NK (a:Nat): ∀w,jw (w+1) a=a%2+jw w (a/2):=by
 intro w
 induction w with
 |zero=>
  simp only [jw,Nat.testBit_zero]
  rcases Nat.mod_two_eq_zero_or_one a with h|h<;>simp [h]
 |succ w ih=>
  rw [jw,ih,jw,Nat.testBit_succ];omega
theorem WQ : ∀w,w<=16-> ∀x,x<2^w->Io x=jw w x:=by
 intro w
 induction w with
 |zero=>intro _ x hx;have:x=0:=by simpa using hx
        subst this;rfl
 |succ w ih=>
  intro hw x hx
  have h16:2^w<=32768:=by
   have:=Nat.pow_le_pow_right (n:=2) (by omega) (show w<=15 by omega)
   simpa using this
  have hp:2^(w+1)=2*2^w:=by rw [Nat.pow_succ];omega
  have h1:=ih (by omega) (x/2) (by omega)
  have h2:=TQ (x:=x/2) (by omega)
  rw [NK,<-h1]
  rcases Nat.mod_two_eq_zero_or_one x with h|h
  ·have e:2*(x/2)=x:=by omega
   rw [e]at h2;rw [h2.1,h];omega
  ·have e:2*(x/2)+1=x:=by omega
   rw [e]at h2;rw [h2.2,h];omega
theorem IX {a k:Nat} (hk:k<=64):Int.fdiv (a:Int) (2^(min (Int.toNat (k:Int)) (IntKind.bits .u64)))=((a/2^k:Nat):Int):=by
 have h1:min (Int.toNat (k:Int)) (IntKind.bits .u64)=k:=by simp [IntKind.bits];omega
 rw [h1,Int.fdiv_eq_ediv_of_nonneg _ (Int.pow_nonneg (by decide))]
 simp
def q1 (x:Int):Int:=IntKind.wrap .u64 ((aY .and .u64 (Int.fdiv x (2^(min (Int.toNat 1) (IntKind.bits .u64)))) 6148914691236517205)+(aY .and .u64 x 6148914691236517205))
def q2 (x:Int):Int:=IntKind.wrap .u64 ((aY .and .u64 (Int.fdiv x (2^(min (Int.toNat 2) (IntKind.bits .u64)))) 3689348814741910323)+(aY .and .u64 x 3689348814741910323))
def q3 (x:Int):Int:=aY .and .u64 (IntKind.wrap .u64 ((Int.fdiv x (2^(min (Int.toNat 4) (IntKind.bits .u64))))+x)) 1085102592571150095
def q4 (x:Int):Int:=IntKind.wrap .u64 (x+Int.fdiv x (2^(min (Int.toNat 8) (IntKind.bits .u64))))
def q5 (x:Int):Int:=IntKind.wrap .u64 (x+Int.fdiv x (2^(min (Int.toNat 16) (IntKind.bits .u64))))
def q6 (x:Int):Int:=IntKind.wrap .u64 (x+Int.fdiv x (2^(min (Int.toNat 32) (IntKind.bits .u64))))
theorem GK {h:Hp} {a:Nat} {R:Value->Hp->Prop} (ha:a<65536) (k:R (I (jw 16 a)) h):j8 #[.int .u64 a] h R:=by
 apply wh
 refine uf_ ?_
 apply tT
 refine uf_ ?_
 refine⟨_,rfl,?_⟩
 have e1:q1 a=((T9 a:Nat):Int):=by
  have l1:=Nat.and_le_left (n:=a/2) (m:=6148914691236517205)
  have l2:=Nat.and_le_left (n:=a) (m:=6148914691236517205)
  have:=IX (a:=a) (k:=1) (by omega)
  unfold q1 T9
  rw [show (Int.toNat 1)=Int.toNat ((1:Nat):Int)from rfl,this,Nat.pow_one]
  rw [show (6148914691236517205:Int)=((6148914691236517205:Nat):Int)from rfl,M8 (by omega) (by omega),M8 (by omega) (by omega),<-Int.natCast_add,cl (by omega)]
 have b1:T9 a<=98304:=by
  have l1:=Nat.and_le_left (n:=a/2) (m:=6148914691236517205)
  have l2:=Nat.and_le_left (n:=a) (m:=6148914691236517205)
  unfold T9;omega
 have e2: ∀x:Nat,x<=98304->q2 x=((SK x:Nat):Int)/\SK x<=196608:=by
  intro x hx
  have l1:=Nat.and_le_left (n:=x/4) (m:=3689348814741910323)
  have l2:=Nat.and_le_left (n:=x) (m:=3689348814741910323)
  have:=IX (a:=x) (k:=2) (by omega)
  refine⟨?_,by unfold SK;omega⟩
  unfold q2 SK
  rw [show (Int.toNat 2)=Int.toNat ((2:Nat):Int)from rfl,this,show 2^2=4 from rfl]
  rw [show (3689348814741910323:Int)=((3689348814741910323:Nat):Int)from rfl,M8 (by omega) (by omega),M8 (by omega) (by omega),<-Int.natCast_add,cl (by omega)]
 have e3: ∀x:Nat,x<=196608->q3 x=((U1 x:Nat):Int)/\U1 x<=393216:=by
  intro x hx
  have l1:=Nat.and_le_left (n:=x/16+x) (m:=1085102592571150095)
  have:=IX (a:=x) (k:=4) (by omega)
  refine⟨?_,by unfold U1;omega⟩
  unfold q3 U1
  rw [show (Int.toNat 4)=Int.toNat ((4:Nat):Int)from rfl,this,show 2^4=16 from rfl,<-Int.natCast_add,cl (by omega)]
  rw [show (1085102592571150095:Int)=((1085102592571150095:Nat):Int)from rfl,M8 (by omega) (by omega)]
 have e4: ∀x:Nat,x<=393216->q4 x=((TC x:Nat):Int)/\TC x<=786432:=by
  intro x hx
  have:=IX (a:=x) (k:=8) (by omega)
  refine⟨?_,by unfold TC;omega⟩
  unfold q4 TC
  rw [show (Int.toNat 8)=Int.toNat ((8:Nat):Int)from rfl,this,show 2^8=256 from rfl,<-Int.natCast_add,cl (by omega),Nat.add_comm]
 have e5: ∀x:Nat,x<=786432->q5 x=((Uh x:Nat):Int)/\Uh x<=1572864:=by
  intro x hx
  have:=IX (a:=x) (k:=16) (by omega)
  refine⟨?_,by unfold Uh;omega⟩
  unfold q5 Uh
  rw [show (Int.toNat 16)=Int.toNat ((16:Nat):Int)from rfl,this,show 2^16=65536 from rfl,<-Int.natCast_add,cl (by omega),Nat.add_comm]
 have e6: ∀x:Nat,x<=1572864->q6 x=((Ty x:Nat):Int)/\Ty x<=3145728:=by
  intro x hx
  have:=IX (a:=x) (k:=32) (by omega)
  refine⟨?_,by unfold Ty;omega⟩
  unfold q6 Ty
  rw [show (Int.toNat 32)=Int.toNat ((32:Nat):Int)from rfl,this,show 2^32=4294967296 from rfl,<-Int.natCast_add,cl (by omega),Nat.add_comm]
 have b2:=(e2 _ b1).2
 have b3:=(e3 _ b2).2
 have b4:=(e4 _ b3).2
 have b5:=(e5 _ b4).2
 have b6:=(e6 _ b5).2
 show R (I (mW (W (q6 (q5 (q4 (q3 (q2 (q1 a))))))) 127)) h
 rw [e1,(e2 _ b1).1,(e3 _ b2).1,(e4 _ b3).1,(e5 _ b4).1,(e6 _ b5).1,et (by omega),show (127:Int)=((127:Nat):Int)from rfl,r8 (by omega) (by omega)]
 have:=WQ 16 (by omega) a (by simpa using ha)
 unfold Io at this
 rw [this];exact k
theorem OO {w a:Nat} (ha:a<2^w): ∀d,jw (w+d) a=jw w a:=by
 intro d
 induction d with
 |zero=>rfl
 |succ d ih=>
  have hz:a.testBit (w+d)=false:=Nat.testBit_lt_two_pow (Nat.lt_of_lt_of_le ha (Nat.pow_le_pow_right (by omega) (by omega)))
  rw [<-Nat.add_assoc,jw,ih,hz]
  simp
theorem TR {h:Hp} {kind:Int} {w a:Nat} {R:Value->Hp->Prop} (hk:1<=kind/\kind<=5) (e:WO w a)
  (k:R (.tuple #[I (wV kind w a).1,I (wV kind w a).2]) h):zO #[I kind,I w,I a] h R:=by
 apply OV
 refine uf_ ?_
 have h16:=e.pow
 have hp:=bD w
 have ha:=e.2
 have hw:=e.1
 unfold wV at k
 refine ac (fun e1=>?_) (fun e1=>ac (fun e2=>?_) (fun e2=>ac (fun e3=>?_) (fun e3=>ac (fun e4=>?_) (fun e4=>?_))))
 ·rw [if_pos (by simpa using e1)]at k
  refine dx (by omega) ⟨_,rfl,?_⟩
  have:W ((((2^w:Nat):Int)-1)-a)=((2^w-1-a:Nat):Int):=by rw [bV (by omega) (by omega)];omega
  rw [this];exact k
 ·rw [if_neg (by simpa using e1),if_pos (by simpa using e2)]at k
  refine dx (by omega) ⟨_,rfl,?_⟩
  rw [bV (n:=0-(a:Int)) (by omega) (by omega),gF (by omega),Int.zero_sub]
  exact k
 ·rw [if_neg (by simpa using e1),if_neg (by simpa using e2),if_pos (by simpa using e3)]at k
  refine xM ⟨_,rfl,?_⟩
  by_cases h0:a=0
  ·subst h0;simpa using k
  ·have:((a:Int) !=0)=true:=by simpa using h0
   rw [this];rw [if_neg h0]at k;simpa using k
 ·rw [if_neg (by simpa using e1),if_neg (by simpa using e2),if_neg (by simpa using e3),if_pos (by simpa using e4)]at k
  refine dx (by omega) ⟨_,rfl,xM ⟨_,rfl,?_⟩⟩
  by_cases h0:a=2^w-1
  ·have:((a:Int)==((2^w:Nat):Int)-1)=true:=by rw [beq_iff_eq];omega
   rw [this];rw [if_pos h0]at k;simpa using k
  ·have:((a:Int)==((2^w:Nat):Int)-1)=false:=by rw [beq_eq_false_iff_ne];omega
   rw [this];rw [if_neg h0]at k;simpa using k
 ·rw [if_neg (by simpa using e1),if_neg (by simpa using e2),if_neg (by simpa using e3),if_neg (by simpa using e4)]at k
  rw [cl (by omega)]
  refine GK (by omega) ⟨_,rfl,?_⟩
  have:=OO ha (16-w)
  rw [show w+(16-w)=16 by omega]at this
  rw [this,E9];exact k
theorem AN {h:Hp} {kind:Int} {w a:Nat} {R:Value->Hp->Prop} (hk:1<=kind/\kind<=5) (e:WO w a)
  (k:R (.tuple #[I (wV kind w a).1,I (wV kind w a).2, .bool true]) h):nY #[I kind,I w,I a] h R:=by
 apply G9
 refine uf_ ?_
 have h16:=e.pow
 have hp:=bD w
 have ha:=e.2
 have hw:=e.1
 unfold wV at k
 refine cr ⟨_,rfl,aD (by rw [e.ok];rfl) ?_⟩
 refine ac (fun e1=>?_) (fun e1=>ac (fun e2=>?_) (fun e2=>ac (fun e3=>?_) (fun e3=>ac (fun e4=>?_) (fun e4=>?_))))
 ·rw [if_pos (by simpa using e1)]at k
  rw [cl (by omega),if_neg (by omega),bG (by omega),bV (n:=((2^w:Nat):Int)-1) (by omega) (by omega)]
  have:W ((((2^w:Nat):Int)-1)-a)=((2^w-1-a:Nat):Int):=by rw [bV (by omega) (by omega)];omega
  rw [this];exact k
 ·rw [if_neg (by simpa using e1),if_pos (by simpa using e2)]at k
  rw [bV (n:=0-(a:Int)) (by omega) (by omega),Int.zero_sub]
  exact gz hw ⟨_,rfl,k⟩
 ·rw [if_neg (by simpa using e1),if_neg (by simpa using e2),if_pos (by simpa using e3)]at k
  refine oJ ⟨_,rfl,?_⟩
  by_cases h0:a=0
  ·subst h0;simpa using k
  ·have:decide ((a:Int)>0)=true:=by simp;omega
   rw [this];rw [if_neg h0]at k;simpa using k
 ·rw [if_neg (by simpa using e1),if_neg (by simpa using e2),if_neg (by simpa using e3),if_pos (by simpa using e4)]at k
  refine DB (by omega) ⟨_,rfl,oJ ⟨_,rfl,?_⟩⟩
  have hf:=Oc ha
  by_cases h0:a=2^w-1
  ·have:(((jw w a:Nat):Int)==(w:Int))=true:=by rw [beq_iff_eq,hf.2 h0]
   rw [this];rw [if_pos h0]at k;simpa using k
  ·have:(((jw w a:Nat):Int)==(w:Int))=false:=by rw [beq_eq_false_iff_ne];intro he;exact h0 (hf.1 (by omega))
   rw [this];rw [if_neg h0]at k;simpa using k
 ·rw [if_neg (by simpa using e1),if_neg (by simpa using e2),if_neg (by simpa using e3),if_neg (by simpa using e4)]at k
  have:kind=5:=by
   have h1:kind≠1:=by simpa using e1
   have h2:kind≠2:=by simpa using e2
   have h3:kind≠3:=by simpa using e3
   have h4:kind≠4:=by simpa using e4
   omega
  refine aJ (by simpa using this) (DB (by omega) ⟨_,rfl,?_⟩)
  rw [E9];exact k
theorem eV (a b:Nat):Int.tmod (a:Int) (b:Int)=((a%b:Nat):Int):=(Int.ofNat_tmod a b).symm
theorem Gy (a b:Nat):Int.tdiv (a:Int) (b:Int)=((a/b:Nat):Int):=(Int.ofNat_tdiv a b).symm
theorem C6 {a b:Nat} (ha:a<65536) (hb:b<=65536):a*b<=4294967296:=by
 have:=Nat.mul_le_mul (Nat.le_of_lt ha) hb
 omega
theorem C7 {w a:Nat} (e:WO w a): -65536<=sgn w a/\sgn w a<=65536:=by
 have h:=I3 e.1.1 e.2
 have hp:=pN e.1.1
 have h16:=e.pow
 omega
theorem aZ {a b:Int} (e:(a==b)=false): ¬a=b:=by simpa using e
theorem bU {a b:Int} (e:(a==b)=true):a=b:=by simpa using e
theorem Df {h:Hp} {w a p:Nat} {R:Value->Hp->Prop} (e:WO w a) (k:R (I (GN w a (p%w))) h):pj #[I w,I a,I p] h R:=by
 apply Ir
 refine uf_ ?_
 obtain⟨⟨h1,h2⟩,ha⟩:=e
 have h16:=zl h2
 have hm:p%w<w:=Nat.mod_lt _ (by omega)
 have hpm:=zl (w:=p%w) (by omega)
 have ht:Int.tmod (p:Int) (w:Int)=((p%w:Nat):Int):=eV p w
 have hw:W ((w:Int)-((p%w:Nat):Int))=((w-p%w:Nat):Int):=by rw [bV (by omega) (by omega)];omega
 have hmul:=C6 (a:=a) (b:=2^(p%w)) (by omega) hpm
 rw [if_neg (by omega),ht,if_neg (by omega),hw,if_neg (by omega)]
 refine dx (by omega) ⟨_,rfl,?_⟩
 have hd:a/2^(w-p%w)<=a:=Nat.div_le_self _ _
 rw [gJ (by omega) (by omega),kj (by omega),Bh (by omega) (by omega),gF (by omega),pd]
 exact k
theorem KP {h:Hp} {kind:Int} {w a b:Nat} {R:Value->Hp->Prop} (hk:kind=14\/kind=15) (ea:WO w a) (eb:WO w b)
  (k:R (I ((if kind=14 then Jk w a b else Js w a b:Nat):Int)) h):ry #[I kind,I w,I a,I b] h R:=by
 apply GE
 refine uf_ ?_
 have h16:=ea.pow
 have hp:=bD w
 have sa:=C7 ea
 have sb:=C7 eb
 have hw:=ea.1
 refine mG ea ⟨_,rfl,mG eb ⟨_,rfl,?_⟩⟩
 unfold Jk Js at k
 by_cases hy:sgn w b=0
 ·rw [if_pos hy,if_pos hy]at k
  rw [hy]
  refine ap (fun J=>J (decide (kind=15))) ?_ (fun J hJ=>aJ rfl (by rw [show (kind==15)=decide (kind=15)from rfl];exact hJ))
  refine ac (fun e=>?_) (fun e=>?_)
  ·have e':kind=15:=by simpa using e
   rw [if_neg (by omega)]at k;exact k
  ·have e':kind=14:=by have: ¬kind=15:=by simpa using e
                       omega
   rw [if_pos e']at k
   refine ap (fun J=>J (decide (sgn w a<0))) ?_ (fun J hJ=>aJ rfl hJ)
   refine ac (fun e=>?_) (fun e=>aJ rfl (dx (by omega) ⟨_,rfl,?_⟩))
   ·rw [if_pos (by simpa using e)]at k;exact k
   ·rw [if_neg (by simpa using e)]at k
    have:((2^w-1:Nat):Int)=((2^w:Nat):Int)-1:=by omega
    rw [<-this];exact k
 ·rw [if_neg hy,if_neg hy]at k
  have hyb:(sgn w b==0)=false:=by simpa using hy
  refine ap (fun J=>J false) ?_ (fun J hJ=>aD hyb hJ)
  refine aD rfl (ap (fun J=>J false) ?_ (fun J hJ=>aD hyb hJ))
  refine aD rfl (aD hyb ?_)
  have hdiv:(Int.tdiv (sgn w a) (sgn w b)).natAbs<=65536:=by
   rw [Int.natAbs_tdiv]
   exact Nat.le_trans (Nat.div_le_self _ _) (by omega)
  refine ac (fun e=>?_) (fun e=>?_)
  ·rw [if_pos (by simpa using e)]at k
   rw [if_neg hy]
   refine dx (by omega) ⟨_,rfl,?_⟩
   rw [bV (by omega) (by omega),gF (by omega)];exact k
  ·rw [if_neg (by simpa using e)]at k
   rw [if_neg hy]
   refine dx (by omega) ⟨_,rfl,?_⟩
   rw [gF (by omega)];exact k
def CG (kind:Int) (w a b:Nat):Nat:=if kind=16 then VT w a b else if kind=17 then VU w a b else W3 w a b
theorem JR {h:Hp} {kind:Int} {w a b:Nat} {R:Value->Hp->Prop} (ea:WO w a) (hb:b<=65536)
  (k:R (I (CG kind w a b)) h):rc #[I kind,I w,I a,I b] h R:=by
 apply G4
 refine uf_ ?_
 have h16:=ea.pow
 have ha:=ea.2
 have hw:=ea.1
 have hmin:(if(w:Int)<(b:Int)then(w:Int)else(b:Int))=((min b w:Nat):Int):=by
  by_cases h:w<b
  ·rw [if_pos (by omega),Nat.min_eq_right (by omega)]
  ·rw [if_neg (by omega),Nat.min_eq_left (by omega)]
 have hm:min b w<=w:=Nat.min_le_right _ _
 have hpm:=zl (w:=min b w) (by omega)
 have hmul:=C6 (a:=a) (b:=2^min b w) (by omega) hpm
 unfold CG at k
 rw [hmin]
 refine ac (fun e=>?_) (fun e=>ac (fun e2=>?_) (fun e2=>?_))
 ·rw [if_pos (bU e)]at k
  rw [if_neg (by omega)]
  refine dx (by omega) ⟨_,rfl,?_⟩
  rw [gJ (by omega) (by omega),gF (by omega),pd];exact k
 ·rw [if_neg (aZ e),if_pos (bU e2)]at k
  rw [if_neg (by omega),kj (by omega)];exact k
 ·rw [if_neg (aZ e),if_neg (aZ e2)]at k
  refine mG ea ⟨_,rfl,?_⟩
  rw [if_neg (by omega)]
  refine dx (by omega) ⟨_,rfl,?_⟩
  rw [SZ (by omega),gF (by omega)];exact k
theorem Iw {h:Hp} {kind:Int} {w a b:Nat} {R:Value->Hp->Prop} (hk:21<=kind/\kind<=28) (ea:WO w a) (eb:WO w b)
  (k:R (.bool (Dm kind w a b)) h):qp #[I kind,I w,I a,I b] h R:=by
 apply DN
 refine uf_ ?_
 have h16:=ea.pow
 have hp:=bD w
 have sa:=C7 ea
 have sb:=C7 eb
 have ha:=ea.2
 have hb:=eb.2
 have hw:=ea.1
 unfold Dm at k
 have dd: ∀{p q:Prop} [Decidable p] [Decidable q],(p↔q)->decide p=decide q:=fun h=>by rw [decide_eq_decide];exact h
 refine mG ea ⟨_,rfl,mG eb ⟨_,rfl,?_⟩⟩
 refine ac (fun e1=>?_) (fun e1=>ac (fun e2=>?_) (fun e2=>ac (fun e3=>?_) (fun e3=>ac (fun e4=>?_) (fun e4=>ac (fun e5=>?_) (fun e5=>ac (fun e6=>?_) (fun e6=>ac (fun e7=>?_) (fun e7=>?_)))))))
 ·rw [if_pos (bU e1)]at k
  have:((a:Int)==(b:Int))=decide (a=b):=by rw [Bool.eq_iff_iff];simp;omega
  rw [this];exact k
 all_goals rw [if_neg (aZ e1)]at k
 ·rw [if_pos (bU e2)]at k
  rw [dd (p:=(a:Int)<(b:Int)) (q:=a<b) (by omega)];exact k
 all_goals rw [if_neg (aZ e2)]at k
 ·rw [if_pos (bU e3)]at k;exact k
 all_goals rw [if_neg (aZ e3)]at k
 ·rw [if_pos (bU e4)]at k
  rw [dd (p:=(a:Int)<=(b:Int)) (q:=a<=b) (by omega)];exact k
 all_goals rw [if_neg (aZ e4)]at k
 ·rw [if_pos (bU e5)]at k;exact k
 all_goals rw [if_neg (aZ e5)]at k
 ·rw [if_pos (bU e6)]at k
  refine dx (by omega) ⟨_,rfl,?_⟩
  rw [bV (by omega) (by omega),dd (p:=(a:Int)+(b:Int)>((2^w:Nat):Int)-1) (q:=2^w<=a+b) (by omega)];exact k
 all_goals rw [if_neg (aZ e6)]at k
 ·rw [if_pos (bU e7)]at k
  have w1:W ((w:Int)-1)=((w-1:Nat):Int):=by rw [bV (by omega) (by omega)];omega
  have hpp:=pN hw.1
  rw [w1,if_neg (by omega),if_neg (by omega),T2 (by omega),bG (by omega),bV (n:=sgn w a+sgn w b) (by omega) (by omega),bV (n:=((2^(w-1):Nat):Int)-1) (by omega) (by omega)]
  refine fv ⟨_,rfl,?_⟩
  rw [dd (p:= -((2^(w-1):Nat):Int)<=sgn w a+sgn w b/\sgn w a+sgn w b<=((2^(w-1):Nat):Int)-1) (q:= -((2^(w-1):Nat):Int)<=sgn w a+sgn w b/\sgn w a+sgn w b<((2^(w-1):Nat):Int)) (by omega)]
  exact k
 ·rw [if_neg (aZ e7)]at k
  have hmul:=C6 (a:=a) (b:=b) (by omega) (by omega)
  have hmi:(a:Int)*(b:Int)=((a*b:Nat):Int):=(Int.natCast_mul _ _).symm
  refine dx (by omega) ⟨_,rfl,?_⟩
  rw [hmi]
  generalize a*b=ab at*
  rw [et (by omega),dd (p:=(ab:Int)>((2^w:Nat):Int)-1) (q:=2^w<=ab) (by omega)];exact k
theorem U2 {h:Hp} {kind:Int} {w a b:Nat} {R:Value->Hp->Prop} (hk:6<=kind/\kind<=28) (ea:WO w a) (eb:WO w b)
  (k:R (.tuple #[I (rv kind w a b).1,I (rv kind w a b).2]) h):Ai #[I kind,I w,I a,I b] h R:=by
 apply Nt
 refine uf_ ?_
 have h16:=ea.pow
 have hp:=bD w
 have ha:=ea.2
 have hb:=eb.2
 have hw:=ea.1
 have hand:a&&&b<=a:=Nat.and_le_left
 have hmul:=C6 (a:=a) (b:=b) (by omega) (by omega)
 by_cases h20:kind<=20
 rotate_left
 ·have t:rv kind w a b=(if Dm kind w a b then 1 else 0,1):=by unfold rv;rw [if_neg h20]
  rw [t]at k
  have nb: ∀n:Int,n<=20->(kind==n)=false:=fun n hn=>by rw [beq_eq_false_iff_ne];omega
  refine aD (nb _ (by omega)) (aD (nb _ (by omega)) (aD (nb _ (by omega)) (aD (nb _ (by omega)) (aD (nb _ (by omega)) (aD (nb _ (by omega)) (aD (nb _ (by omega)) (aD (nb _ (by omega)) ?_)))))))
  refine ap (fun J=>J false) ?_ (fun J hJ=>aD (nb _ (by omega)) (by rw [nb 15 (by omega)];exact hJ))
  refine aD rfl (ap (fun J=>J false) ?_ (fun J hJ=>aD (nb _ (by omega)) (aD (nb _ (by omega)) (by rw [nb 18 (by omega)];exact hJ))))
  refine aD rfl (aD (nb _ (by omega)) (aD (nb _ (by omega)) ?_))
  refine Iw (by omega) ea eb ⟨_,rfl,xM ⟨_,rfl,?_⟩⟩
  cases hs:Dm kind w a b
  ·rw [hs]at k;simpa using k
  ·rw [hs]at k;simpa using k
 have t:rv kind w a b=(Fm kind w a b,w):=by unfold rv;rw [if_pos h20]
 rw [t]at k
 unfold Fm at k
 simp only at k
 refine ac (fun e=>?_) (fun e6=>?_)
 ·rw [if_pos (bU e)]at k;rw [r8 (by omega) (by omega)];exact k
 rw [if_neg (aZ e6)]at k
 refine ac (fun e=>?_) (fun e7=>?_)
 ·rw [if_pos (bU e)]at k;rw [Bh (by omega) (by omega)];exact k
 rw [if_neg (aZ e7)]at k
 refine ac (fun e=>?_) (fun e8=>?_)
 ·rw [if_pos (bU e)]at k;rw [LL (by omega) (by omega)];exact k
 rw [if_neg (aZ e8)]at k
 refine ac (fun e=>?_) (fun e9=>?_)
 ·rw [if_pos (bU e)]at k
  refine dx (by omega) ⟨_,rfl,?_⟩
  rw [bV (by omega) (by omega),gF (by omega)];exact k
 rw [if_neg (aZ e9)]at k
 refine ac (fun e=>?_) (fun e10=>?_)
 ·rw [if_pos (bU e)]at k
  refine dx (by omega) ⟨_,rfl,?_⟩
  rw [bV (by omega) (by omega),gF (by omega)];exact k
 rw [if_neg (aZ e10)]at k
 refine ac (fun e=>?_) (fun e11=>?_)
 ·rw [if_pos (bU e)]at k
  refine dx (by omega) ⟨_,rfl,?_⟩
  have hmi:(a:Int)*(b:Int)=((a*b:Nat):Int):=(Int.natCast_mul _ _).symm
  rw [hmi]at k⊢
  generalize a*b=ab at*
  rw [et (by omega),gF (by omega)];exact k
 rw [if_neg (aZ e11)]at k
 refine ac (fun e=>?_) (fun e12=>?_)
 ·rw [if_pos (bU e)]at k
  refine dx (by omega) ⟨_,rfl,ac (fun eb0=>?_) (fun eb0=>?_)⟩
  ·have hb0: ¬b=0:=by have:=of_decide_eq_true eb0;omega
   rw [if_neg hb0]at k
   have hd:=Nat.div_le_self a b
   rw [if_neg (by omega),Gy,et (by omega)];exact k
  ·have hb0:b=0:=by have:=of_decide_eq_false eb0;omega
   rw [if_pos hb0]at k
   have:((2^w-1:Nat):Int)=((2^w:Nat):Int)-1:=by omega
   rw [<-this];exact k
 rw [if_neg (aZ e12)]at k
 refine ac (fun e=>?_) (fun e13=>?_)
 ·rw [if_pos (bU e)]at k
  refine ac (fun eb0=>?_) (fun eb0=>?_)
  ·have hb0: ¬b=0:=by have:=of_decide_eq_true eb0;omega
   rw [if_neg hb0]at k
   rw [if_neg (by omega),eV];exact k
  ·have hb0:b=0:=by have:=of_decide_eq_false eb0;omega
   rw [if_pos hb0]at k;exact k
 rw [if_neg (aZ e13)]at k
 refine ap (fun J=>J (decide (kind=14\/kind=15))) ?_ ?_
 rotate_left
 ·intro J hJ
  refine ac (fun e=>?_) (fun e=>?_)
  ·rw [decide_eq_true (.inl (bU e))]at hJ;exact hJ
  ·have:(kind==15)=decide (kind=14\/kind=15):=by
    have:=aZ e
    rw [Bool.eq_iff_iff];simp [this]
   rw [this];exact hJ
 refine ac (fun e=>?_) (fun e1415=>?_)
 ·have e':kind=14\/kind=15:=by simpa using e
  refine KP e' ea eb ⟨_,rfl,?_⟩
  rcases e' with rfl|rfl
  ·simpa using k
  ·simpa using k
 have n14: ¬kind=14/\ ¬kind=15:=by simpa using e1415
 rw [if_neg n14.1,if_neg n14.2]at k
 refine ap (fun J=>J (decide (kind=16\/kind=17\/kind=18))) ?_ ?_
 rotate_left
 ·intro J hJ
  refine ac (fun e=>?_) (fun e=>ac (fun e2=>?_) (fun e2=>?_))
  ·rw [decide_eq_true (.inl (bU e))]at hJ;exact hJ
  ·rw [decide_eq_true (.inr (.inl (bU e2)))]at hJ;exact hJ
  ·have:(kind==18)=decide (kind=16\/kind=17\/kind=18):=by
    have h1:=aZ e
    have h2:=aZ e2
    rw [Bool.eq_iff_iff];simp [h1,h2]
   rw [this];exact hJ
 refine ac (fun e=>?_) (fun e1618=>?_)
 ·have e':kind=16\/kind=17\/kind=18:=by simpa using e
  refine JR ea (by omega) ⟨_,rfl,?_⟩
  unfold CG
  rcases e' with rfl|rfl|rfl
  ·simpa using k
  ·simpa using k
  ·simpa using k
 have n16: ¬kind=16/\ ¬kind=17/\ ¬kind=18:=by simpa using e1618
 rw [if_neg n16.1,if_neg n16.2.1,if_neg n16.2.2]at k
 refine ac (fun e=>?_) (fun e19=>?_)
 ·rw [if_pos (bU e)]at k
  exact Df ea ⟨_,rfl,k⟩
 rw [if_neg (aZ e19)]at k
 have h20':kind=20:=by
  have:=aZ e6;have:=aZ e7;have:=aZ e8;have:=aZ e9;have:=aZ e10;have:=aZ e11;have:=aZ e12;have:=aZ e13;have:=aZ e19
  omega
 refine aJ (by simpa using h20') ?_
 have hm:b%w<w:=Nat.mod_lt _ (by omega)
 have hw2:W ((w:Int)-((b%w:Nat):Int))=((w-b%w:Nat):Int):=by rw [bV (by omega) (by omega)];omega
 rw [if_neg (by omega),eV,hw2]
 exact Df ea ⟨_,rfl,k⟩
end Go.Lead
