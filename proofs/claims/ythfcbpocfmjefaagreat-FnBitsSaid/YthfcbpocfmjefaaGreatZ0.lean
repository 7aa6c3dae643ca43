/- What functions of the program and of the reference come to, walked one by one, and plain laws about it: part 1. No condition is added to the statement. -/
import Derived.Test.YthfcbpocfmjefaaGreatVm15
import Derived.Test.YthfcbpocfmjefaaGreatFn0
import Derived.Test.YthfcbpocfmjefaaGreatFn1
import Derived.Test.YthfcbpocfmjefaaGreatFn2
import Derived.Test.YthfcbpocfmjefaaGreatFn3
import Derived.Test.YthfcbpocfmjefaaGreatFn4
import Derived.Test.YthfcbpocfmjefaaGreatFn5
namespace Go.Lead
open Go
set_option linter.unusedVariables false
set_option linter.unusedSimpArgs false
set_option maxHeartbeats 1000000
structure Nd where
 v:Nat
 lo:Nat
 hi:Nat
 deriving DecidableEq,Repr
def jp (n:Nd) (ns:List Nd):Nat×List Nd:=match ns.idxOf? n with|some i=>(i+2,ns)|none=>(ns.length+2,ns++ [n])
def mkD :Nat->(Nat->Bool)->Nat->List Nd->Nat×List Nd
 |0,f,_,ns=>(if f 0 then 1 else 0,ns)
 |n+1,f,low,ns=>
  let r1:=mkD n (fun i=>f (2*i)) (low+1) ns
  let r2:=mkD n (fun i=>f (2*i+1)) (low+1) r1.2
  if r1.1=r2.1 then r2 else jp ⟨low,r1.1,r2.1⟩ r2.2
theorem GK : ∀(n:Nat) {f g:Nat->Bool} (low:Nat) (ns:List Nd),(∀i,i<2^n->f i=g i)->mkD n f low ns=mkD n g low ns:=by
 intro n
 induction n with
 |zero=>intro f g low ns h;simp only [mkD];rw [h 0 (by simp)]
 |succ n ih=>
  intro f g low ns h
  have hp:2^(n+1)=2*2^n:=by rw [Nat.pow_succ];omega
  have h1: ∀ns,mkD n (fun i=>f (2*i)) (low+1) ns=mkD n (fun i=>g (2*i)) (low+1) ns:=fun ns=>ih _ _ fun i hi=>h _ (by omega)
  have h2: ∀ns,mkD n (fun i=>f (2*i+1)) (low+1) ns=mkD n (fun i=>g (2*i+1)) (low+1) ns:=fun ns=>ih _ _ fun i hi=>h _ (by omega)
  simp only [mkD,h1,h2]
theorem wB (n:Nd) (ns:List Nd):ns<+:(jp n ns).2:=by
 unfold jp;split
 ·exact List.prefix_refl _
 ·exact List.prefix_append _ _
theorem z5 : ∀(n:Nat) (f:Nat->Bool) (low:Nat) (ns:List Nd),ns<+:(mkD n f low ns).2:=by
 intro n
 induction n with
 |zero=>intro f low ns;exact List.prefix_refl _
 |succ n ih=>
  intro f low ns
  have h1:=ih (fun i=>f (2*i)) (low+1) ns
  have h2:=ih (fun i=>f (2*i+1)) (low+1) (mkD n (fun i=>f (2*i)) (low+1) ns).2
  simp only [mkD]
  split
  ·exact h1.trans h2
  ·exact(h1.trans h2).trans (wB _ _)
theorem Vr {n:Nd} {ns ns2:List Nd} {i:Nat} (h:ns.idxOf? n=some i) (p:ns<+:ns2):ns2.idxOf? n=some i:=by
 obtain⟨r,rfl⟩:=p
 simp only [List.idxOf?]at h⊢
 rw [List.findIdx?_append,h];rfl
theorem VY {n:Nd} {ns ns2:List Nd} (h:ns.idxOf? n=none) (p:ns++ [n]<+:ns2):ns2.idxOf? n=some ns.length:=by
 obtain⟨r,rfl⟩:=p
 simp only [List.idxOf?]at h⊢
 rw [List.append_assoc,List.findIdx?_append,h]
 simp [List.findIdx?_cons]
theorem Rh {n:Nd} {ns ns2:List Nd} (p:(jp n ns).2<+:ns2):jp n ns2=((jp n ns).1,ns2):=by
 cases h:ns.idxOf? n with
 |some i=>
  have e:jp n ns=(i+2,ns):=by simp [jp,h]
  rw [e]at p⊢
  simp [jp,Vr h p]
 |none=>
  have e:jp n ns=(ns.length+2,ns++ [n]):=by simp [jp,h]
  rw [e]at p⊢
  simp [jp,VY h p]
theorem zj : ∀(n:Nat) (f:Nat->Bool) (low:Nat) (ns ns2:List Nd),(mkD n f low ns).2<+:ns2->mkD n f low ns2=((mkD n f low ns).1,ns2):=by
 intro n
 induction n with
 |zero=>intro f low ns ns2 p;rfl
 |succ n ih=>
  intro f low ns ns2 p
  have p1:(mkD n (fun i=>f (2*i)) (low+1) ns).2<+:ns2:=by
   refine List.IsPrefix.trans ?_ p
   simp only [mkD]
   split
   ·exact z5 _ _ _ _
   ·exact(z5 _ _ _ _).trans (wB _ _)
  have p2:(mkD n (fun i=>f (2*i+1)) (low+1) (mkD n (fun i=>f (2*i)) (low+1) ns).2).2<+:ns2:=by
   refine List.IsPrefix.trans ?_ p
   simp only [mkD]
   split
   ·exact List.prefix_refl _
   ·exact wB _ _
  have e1:=ih _ _ _ _ p1
  have e2:=ih _ _ _ _ p2
  simp only [mkD]at p⊢
  rw [e1]
  simp only
  rw [e2]
  simp only
  split
  ·rfl
  ·rename_i hne
   rw [if_neg hne]at p
   exact Rh p
theorem UK (n:Nd) (ns:List Nd):(jp n ns).2.length<=ns.length+1:=by
 unfold jp;split<;>simp
theorem uN : ∀(n:Nat) (f:Nat->Bool) (low:Nat) (ns:List Nd),(mkD n f low ns).2.length+1<=ns.length+2^n:=by
 intro n
 induction n with
 |zero=>intro f low ns;simp [mkD]
 |succ n ih=>
  intro f low ns
  have h1:=ih (fun i=>f (2*i)) (low+1) ns
  have h2:=ih (fun i=>f (2*i+1)) (low+1) (mkD n (fun i=>f (2*i)) (low+1) ns).2
  have h3:=UK ⟨low,(mkD n (fun i=>f (2*i)) (low+1) ns).1,(mkD n (fun i=>f (2*i+1)) (low+1) (mkD n (fun i=>f (2*i)) (low+1) ns).2).1⟩ (mkD n (fun i=>f (2*i+1)) (low+1) (mkD n (fun i=>f (2*i)) (low+1) ns).2).2
  have hp:2^(n+1)=2*2^n:=by rw [Nat.pow_succ];omega
  simp only [mkD]
  split<;>omega
inductive Ev (ns:List Nd):Nat->Nat->Bool->Prop
 |no (c:Nat):Ev ns 0 c false
 |yes (c:Nat):Ev ns 1 c true
 |node {p c:Nat} {n:Nd} {b:Bool}:ns[p]?=some n->Ev ns (if c.testBit n.v then n.hi else n.lo) c b->Ev ns (p+2) c b
theorem Ev.pre {ns ns2:List Nd} (l:ns<+:ns2) {p c:Nat} {b:Bool} (e:Ev ns p c b):Ev ns2 p c b:=by
 induction e with
 |no=>exact .no _
 |yes=>exact .yes _
 |node h _ ih=>
  obtain⟨r,rfl⟩:=l
  exact .node (by rw [List.getElem?_append_left (List.getElem?_eq_some_iff.1 h).1];exact h) ih
theorem Ev.det {ns:List Nd} {p c:Nat} {b b':Bool} (e:Ev ns p c b) (e':Ev ns p c b'):b=b':=by
 induction e with
 |no=>cases e';rfl
 |yes=>cases e';rfl
 |node h _ ih=>
  cases e' with
  |node h' e2=>
   rw [h]at h';cases h'
   exact ih e2
theorem Ws (n:Nd) (ns:List Nd): ∃p,(jp n ns).1=p+2/\(jp n ns).2[p]?=some n:=by
 unfold jp
 cases h:ns.idxOf? n with
 |some i=>
  refine⟨i,rfl,?_⟩
  simp only [List.idxOf?]at h
  obtain⟨hi,he,_⟩:=List.findIdx?_eq_some_iff_getElem.1 h
  simp only [beq_iff_eq]at he
  simp [hi,he]
 |none=>exact⟨ns.length,rfl,by simp⟩
theorem UB (c low n:Nat):(c/2^low)%2^(n+1)=2*((c/2^(low+1))%2^n)+(if c.testBit low then 1 else 0):=by
 have h1:c/2^(low+1)=c/2^low/2:=by rw [Nat.pow_succ,Nat.div_div_eq_div_mul]
 have h2:(if c.testBit low then 1 else 0)=(c/2^low)%2:=by
  rw [Nat.testBit_eq_decide_div_mod_eq]
  rcases Nat.mod_two_eq_zero_or_one (c/2^low)with h|h<;>simp [h]
 rw [h1,h2]
 generalize c/2^low=x
 rw [Nat.pow_succ,Nat.mul_comm (2^n) 2,Nat.mod_mul]
 omega
theorem SN : ∀(n:Nat) (f:Nat->Bool) (low:Nat) (ns:List Nd) (c:Nat),Ev (mkD n f low ns).2 (mkD n f low ns).1 c (f ((c/2^low)%2^n)):=by
 intro n
 induction n with
 |zero=>
  intro f low ns c
  simp only [mkD,Nat.pow_zero,Nat.mod_one]
  cases f 0
  ·exact .no _
  ·exact .yes _
 |succ n ih=>
  intro f low ns c
  have e1:=ih (fun i=>f (2*i)) (low+1) ns c
  have e2:=ih (fun i=>f (2*i+1)) (low+1) (mkD n (fun i=>f (2*i)) (low+1) ns).2 c
  have l2:=z5 n (fun i=>f (2*i+1)) (low+1) (mkD n (fun i=>f (2*i)) (low+1) ns).2
  have e1':=e1.pre l2
  rw [UB]
  simp only [mkD]
  split
  ·rename_i he
   rw [he]at e1'
   have hd:=e1'.det e2
   cases hb:c.testBit low
   ·simp only [Bool.false_eq_true,if_false,Nat.add_zero];rw [hd];exact e2
   ·simpa using e2
  ·obtain⟨p,hp,hg⟩:=Ws ⟨low,(mkD n (fun i=>f (2*i)) (low+1) ns).1,(mkD n (fun i=>f (2*i+1)) (low+1) (mkD n (fun i=>f (2*i)) (low+1) ns).2).1⟩
    (mkD n (fun i=>f (2*i+1)) (low+1) (mkD n (fun i=>f (2*i)) (low+1) ns).2).2
   rw [hp]
   refine .node hg ?_
   cases hb:c.testBit low
   ·simp only [Bool.false_eq_true,if_false,Nat.add_zero];exact e1'.pre (wB _ _)
   ·simp only [if_true];exact e2.pre (wB _ _)
theorem Xw {n low:Nat} {f g:Nat->Bool} {ns:List Nd}:
  (mkD n f low ns).1=(mkD n g low (mkD n f low ns).2).1↔ ∀i,i<2^n->f i=g i:=by
 constructor
 ·intro he i hi
  have e1:=(SN n f low ns (i*2^low)).pre (z5 n g low (mkD n f low ns).2)
  have e2:=SN n g low (mkD n f low ns).2 (i*2^low)
  rw [he]at e1
  have:=e1.det e2
  rwa [Nat.mul_div_cancel _ (Nat.pow_pos (by omega)),Nat.mod_eq_of_lt hi]at this
 ·intro h
  rw [<-GK n low _ h,zj n f low ns _ (List.prefix_refl _)]
theorem VQ {n low:Nat} {f g:Nat->Bool} {ns:List Nd} (h: ∀i,i<2^n->f i=g i):mkD n g low (mkD n f low ns).2=mkD n f low ns:=by
 rw [<-GK n low _ h,zj n f low ns _ (List.prefix_refl _)]
def iq (set:List Int):List Int->Int->Int×Bool
 | [],left=>(left,left==0)
 |x::r,left=>
  if set.contains x then(0,false)else
  if set.contains (-x)then iq set r left else
  if left !=0&&left !=x then(0,false)else iq set r x
def nc :List (List Int)->List Int->Bool->Option (List Int×Bool)
 | [],set,more=>some (set,more)
 |l::r,set,more=>if(iq set l 0).2 then none else if(iq set l 0).1 !=0 then nc r (set++ [(iq set l 0).1]) true else nc r set more
def ln (cls:List (List Int)) (set:List Int):Option (List Int):=
 match nc cls set false with
 |none=>none
 |some (set',more)=>if more then(if h:set.length<set'.length/\set'.length<=20 then ln cls set' else none)else some set'
termination_by 20-set.length
decreasing_by omega
def t7 :List Int->List Int->Option (List Int)
 | [],set=>some set
 |x::r,set=>if set.contains (-x)then none else t7 r (if set.contains x then set else set++ [x])
def kG (cls:List (List Int)) (given:List Int):Option (List Int):=(t7 given []).bind (ln cls)
structure qg (v:Int) (set:List Int):Prop where
 lit: ∀x∈set,x≠0/\ -v<=x/\x<=v
 nodup:set.Nodup
 cons: ∀x∈set, -x∉set
theorem LS (v:Int):qg v []:=⟨by simp,List.nodup_nil,by simp⟩
theorem qg.add {v:Int} {set:List Int} (k:qg v set) {x:Int} (hx:x≠0/\ -v<=x/\x<=v) (h1:x∉set) (h2: -x∉set):qg v (set++ [x]):=by
 refine⟨?_,?_,?_⟩
 ·intro y hy
  rcases List.mem_append.1 hy with h|h
  ·exact k.lit y h
  ·simp only [List.mem_singleton]at h;subst h;exact hx
 ·rw [List.nodup_append]
  refine⟨k.nodup,by simp,?_⟩
  intro a ha b hb
  simp only [List.mem_singleton]at hb;subst hb
  intro e;subst e;exact h1 ha
 ·intro y hy hn
  rcases List.mem_append.1 hy with h|h<;>rcases List.mem_append.1 hn with h'|h'
  ·exact k.cons y h h'
  ·simp only [List.mem_singleton]at h';exact h2 (by rw [<-h',Int.neg_neg];exact h)
  ·simp only [List.mem_singleton]at h;subst h;exact h2 h'
  ·simp only [List.mem_singleton]at h h';subst h;omega
theorem Gd : ∀(n:Nat) (l:List Int) (a:Int),l.Nodup->(∀x∈l,a<=x/\x<a+n)->l.length<=n:=by
 intro n
 induction n with
 |zero=>
  intro l a _ h
  cases l with
  |nil=>simp
  |cons x r=>have:=h x (by simp);omega
 |succ n ih=>
  intro l a hd h
  by_cases hm:(a+n)∈l
  ·have h1:=ih (l.erase (a+n)) a (hd.erase _) (fun x hx=>by
    have hx':=List.mem_of_mem_erase hx
    have:=h x hx'
    have hne:x≠a+n:=fun e=>by
     subst e
     exact(List.Nodup.not_mem_erase hd) hx
    omega)
   rw [List.length_erase_of_mem hm]at h1
   omega
  ·have:=ih l a hd (fun x hx=>by
    have h1:=h x hx
    have hne:x≠a+n:=fun e=>hm (e▸hx)
    omega)
   omega
theorem qg.len {v:Int} {set:List Int} (k:qg v set) (hv:v<=10) (hv0:0<=v):set.length<=20:=by
 have h0:(0:Int)∉set:=fun h=>(k.lit 0 h).1 rfl
 have h1:=Gd 21 (0::set) (-10) (List.nodup_cons.2 ⟨h0,k.nodup⟩) (fun x hx=>by
  rcases List.mem_cons.1 hx with rfl|hx
  ·omega
  ·have:=k.lit x hx;omega)
 simp only [List.length_cons]at h1
 omega
theorem U4 {set:List Int} (hcons: ∀x∈set, -x∉set) (h0:(0:Int)∉set) {l:List Int} (hl: ∀x∈l,x≠0) (hne:(iq set l 0).1≠0):
  (iq set l 0).1∈l/\(iq set l 0).1∉set/\ -(iq set l 0).1∉set:=by
 have key: ∀(l:List Int) (o:Int),(∀x∈l,x≠0)->(o=0\/(o∉set/\ -o∉set))->(iq set l o).1≠0->
   ((iq set l o).1∈l\/(iq set l o).1=o)/\(iq set l o).1∉set/\ -(iq set l o).1∉set:=by
  intro l
  induction l with
  |nil=>
   intro o _ ho hne
   simp only [iq]at hne⊢
   rcases ho with h|h
   ·exact absurd h hne
   ·exact⟨by simp,h⟩
  |cons x r ih=>
   intro o hx ho hne
   have hr:=fun y hy=>hx y (List.mem_cons_of_mem _ hy)
   simp only [iq]at hne⊢
   split at hne
   ·exact absurd rfl hne
   ·rename_i h1
    rw [if_neg h1]
    split at hne
    ·rename_i h2
     rw [if_pos h2]
     have:=ih o hr ho hne
     exact⟨this.1.imp (List.mem_cons_of_mem _) id,this.2⟩
    ·rename_i h2
     rw [if_neg h2]
     split at hne
     ·exact absurd rfl hne
     ·rename_i h3
      rw [if_neg h3]
      have:=ih x hr (.inr ⟨by simpa using h1,by simpa using h2⟩) hne
      refine⟨.inl ?_,this.2⟩
      rcases this.1 with h|h
      ·exact List.mem_cons_of_mem _ h
      ·rw [h];simp
 have:=key l 0 hl (.inl rfl) hne
 refine⟨?_,this.2⟩
 rcases this.1 with h|h
 ·exact h
 ·exact absurd h hne
theorem qX {v:Int}: ∀(cls:List (List Int)) (set:List Int) (more:Bool),qg v set->(∀l∈cls,∀x∈l,x≠0/\ -v<=x/\x<=v)->
  ∀set' more',nc cls set more=some (set',more')->qg v set'/\set.length<=set'.length/\(more'=true->more=true\/set.length<set'.length):=by
 intro cls
 induction cls with
 |nil=>intro set more k _ set' more' h;simp only [nc,Option.some.injEq,Prod.mk.injEq]at h;obtain⟨rfl,rfl⟩:=h;exact⟨k,by omega, .inl⟩
 |cons l r ih=>
  intro set more k hc set' more' h
  have h0:(0:Int)∉set:=fun h=>(k.lit 0 h).1 rfl
  simp only [nc]at h
  split at h
  ·cases h
  ·split at h
   ·rename_i hne
    have hne':(iq set l 0).1≠0:=by simpa using hne
    have hl:=hc l (by simp)
    have hn:=U4 k.cons h0 (fun x hx=>(hl x hx).1) hne'
    have:=ih (set++ [(iq set l 0).1]) true (k.add (hl _ hn.1) hn.2.1 hn.2.2) (fun l' h'=>hc l' (by simp [h'])) _ _ h
    simp only [List.length_append,List.length_cons,List.length_nil]at this
    exact⟨this.1,by omega,fun _=> .inr (by omega)⟩
   ·exact ih set more k (fun l' h'=>hc l' (by simp [h'])) _ _ h
theorem CC {v:Int}: ∀(g:List Int) (set:List Int),qg v set->(∀x∈g,x≠0/\ -v<=x/\x<=v)-> ∀set',t7 g set=some set'->qg v set':=by
 intro g
 induction g with
 |nil=>intro set k _ set' h;simp only [t7,Option.some.injEq]at h;subst h;exact k
 |cons x r ih=>
  intro set k hg set' h
  simp only [t7]at h
  split at h
  ·cases h
  ·rename_i h1
   refine ih _ ?_ (fun y hy=>hg y (by simp [hy])) _ h
   split
   ·exact k
   ·rename_i h2
    exact k.add (hg x (by simp)) (by simpa using h2) (by simpa using h1)
theorem P6 {α:Type} {xs:List α} {p:α->Bool} {i:Nat} (hi:i<xs.length):(xs.take (i+1)).any p=((xs.take i).any p||p xs[i]):=by
 rw [List.take_succ_eq_append_getElem hi,List.any_append];simp
structure Hd (h:Hp) (t:Sl) (ts:List Sl) (xss:List (List Int)):Prop where
 len:ts.length=xss.length
 outer:SlC (h.wo (ts.flatMap Sl.used)) t 1 (ts.map Sl.v)
 inner: ∀(i:Nat) (h1:i<ts.length) (h2:i<xss.length),Own h ts[i] 1 (xss[i].map I)
theorem Hd.ints {h:Hp} {t:Sl} {ts:List Sl} {xss:List (List Int)} (e:Hd h t ts xss):IntSS h t xss:=
 ⟨ts,e.len,e.outer.mono (sx _ _),fun i h1 h2=>(e.inner i h1 h2).slc⟩
theorem Hd.mono {h h':Hp} {t:Sl} {ts:List Sl} {xss:List (List Int)} (l:h.le h') (e:Hd h t ts xss):Hd h' t ts xss:=
 ⟨e.len,e.outer.mono (ue (Hp.le_trans (sx _ _) l) fun b hb=>fh hb),fun i h1 h2=>(e.inner i h1 h2).mono l⟩
theorem Hd.used {h:Hp} {t:Sl} {ts:List Sl} {xss:List (List Int)} (e:Hd h t ts xss): ∀b∈ts.flatMap Sl.used,h b≠none:=by
 intro b hb
 obtain⟨u,hu,hbu⟩:=List.mem_flatMap.1 hb
 obtain⟨i,hi,rfl⟩:=List.getElem_of_mem hu
 exact(e.inner i hi (by rw [<-e.len];exact hi)).used b hbu
theorem dM {h:Hp} {x a b:Int} {R:Value->Hp->Prop} (k:R (.bool (decide (a<=x/\x<=b))) h):cU #[I x,I a,I b] h R:=by
 apply OI
 refine uf_ ?_
 refine ad (fun e=>?_) (fun e=>?_)
 ·simp at e;simpa [e] using k
 ·simp at e;rwa [decide_eq_false (by omega)]at k
theorem gX {h:Hp} {x a b:Int} {R:Value->Hp->Prop} (k:R (.bool (decide (a<=x/\x<=b))) h):dy #[I x,I a,I b] h R:=by
 apply Vw
 refine uf_ ?_
 refine ad (fun e=>?_) (fun e=>?_)
 ·simp at e;simpa [e] using k
 ·simp at e;rwa [decide_eq_false (by omega)]at k
def G8 (vars n:Int):Bool:=decide (n≠0/\ -vars<=n/\n<=vars)
def gT (vars:Int) (l:List Int):Bool:=decide (l.length<=10)&&l.all (G8 vars)
def et (vars:Int) (c:List (List Int)):Bool:=decide (1<=vars/\vars<=10)&&(decide (c.length<=60)&&c.all (gT vars))
def IZ {α:Type} (p:α->Bool) (xs:List α):Int:=match xs.findIdx? p with|some i=>i|none=> -1
theorem tp {α:Type} {p:α->Bool} {xs:List α} (e:xs.any p=false):IZ p xs= -1:=by
 have:xs.findIdx? p=none:=by
  rw [List.findIdx?_eq_none_iff];intro x hx;rw [List.any_eq_false]at e;simpa using e x hx
 simp [IZ,this]
theorem zY {α:Type} {p:α->Bool} {xs:List α} {i:Nat} (hi:i<xs.length) (e:(xs.take i).any p=false) (hp:p xs[i]=true):IZ p xs=i:=by
 have:xs.findIdx? p=some i:=by
  rw [List.findIdx?_eq_some_iff_getElem]
  refine⟨hi,hp,fun j hj=>?_⟩
  rw [List.any_eq_false]at e
  exact e _ (by rw [List.mem_take_iff_getElem];exact⟨j,by omega,rfl⟩)
 simp [IZ,this]
theorem NV {α:Type} (p:α->Bool) (xs:List α):decide (IZ p xs>=0)=xs.any p:=by
 cases h:xs.any p with
 |false=>rw [tp h];rfl
 |true=>
  unfold IZ
  cases h':xs.findIdx? p with
  |some i=>simp
  |none=>rw [List.findIdx?_eq_none_iff]at h';rw [List.any_eq_true]at h;obtain⟨x,hx,hp⟩:=h;simp [h' x hx]at hp
theorem uB {h:Hp} {s:Sl} {xs:List Int} {f:FuncId} {u w:Array Value} (p:Int->Bool) {R:Value->Hp->Prop} (hs:IntS h s xs)
  (hf: ∀x∈xs,∀R:Value->Hp->Prop,R (.bool (p x)) h->ACalls PR f ((u++ #[I x])++w) h R)
  (k:R (I (IZ p xs)) h):fH #[s.v, .func (.func f) u w] h R:=by
 apply sJ
 refine uf_ ?_
 have hb:=hs.bound
 refine ar xs.length (fun i vs h'=>vs= [s.v, .func (.func f) u w,I xs.length,I i]/\h'=h/\(xs.take i).any p=false) ⟨by rw [hs.len];rfl,rfl,by simp⟩ ?_
 rintro i _ _ next hi ⟨rfl,rfl,hp⟩ hn
 refine⟨_,_,_,_,_,_,rfl,?_⟩
 by_cases hlt:i<xs.length
 ·obtain⟨b,o,ha,hc⟩:=hs.at hlt
  refine aL (by simp [hlt]) ?_
  simp only [vm,hs.len,ha,hc,aw (n:=i) (by omega)]
  refine⟨by omega,hf _ (List.getElem_mem hlt) _ ⟨_,rfl,ad (fun he=>?_) (fun he=>?_)⟩⟩
  ·rwa [zY hlt hp he]at k
  ·exact hn hlt _ _ ⟨rfl,rfl,by rw [P6 hlt,hp,he];rfl⟩
 ·have:i=xs.length:=by omega
  subst this
  rw [List.take_length]at hp
  refine aA (by simp) ?_
  rwa [tp hp]at k
theorem qd {h:Hp} {s:Sl} {xs:List Int} {f:FuncId} {u w:Array Value} (p:Int->Bool) {R:Value->Hp->Prop} (hs:IntS h s xs)
  (hf: ∀x∈xs,∀R:Value->Hp->Prop,R (.bool (p x)) h->ACalls PR f ((u++ #[I x])++w) h R)
  (k:R (.bool (xs.any p)) h):eG #[s.v, .func (.func f) u w] h R:=by
 apply qm
 refine uf_ ?_
 exact uB p hs hf ⟨_,rfl,by rwa [NV]⟩
def rf (h:Hp) (s:Sl) (xs:List Bool):Prop:=SlC h s 1 (xs.map Value.bool)
theorem rf.mono {h h':Hp} {s:Sl} {xs:List Bool} (l:h.le h') (e:rf h s xs):rf h' s xs:=SlC.mono l e
theorem rf.len {h:Hp} {s:Sl} {xs:List Bool} (e:rf h s xs):s.n=xs.length:=by have:=e.2.1;simp at this;omega
theorem rf.bound {h:Hp} {s:Sl} {xs:List Bool} (e:rf h s xs):xs.length<=9223372036854775807:=by rw [<-e.len];exact e.1
theorem rf.at {h:Hp} {s:Sl} {xs:List Bool} (e:rf h s xs) {i:Nat} (hi:i<xs.length):
  ∃b o,s.a=some (Addr.mk b o none)/\Hp.cell h b (o+i)=some (.bool xs[i]):=by
 have hl:=e.len
 obtain⟨b,o,ha,hc⟩:=SlC.get e (by omega)
 exact⟨b,o,ha,hc i _ (by simp [hi])⟩
theorem jc {h:Hp} {c n:Nat} {R:Value->Hp->Prop} (hn:n<=64) (k:R (I (if c.testBit n then 1 else 0)) h):dS #[I c,I n] h R:=by
 apply Nx
 refine uf_ ?_
 rw [cR (by omega),if_neg (by omega),js hn,Il,ad6]
 split<;>simp_all
theorem G8.iff {v n:Int}:G8 v n=true↔n≠0/\ -v<=n/\n<=v:=by simp [G8]
theorem gT.lit {v:Int} {l:List Int} (e:gT v l=true) {n:Int} (hn:n∈l):G8 v n=true:=by
 simp only [gT,Bool.and_eq_true,List.all_eq_true]at e;exact e.2 n hn
theorem gT.len {v:Int} {l:List Int} (e:gT v l=true):l.length<=10:=by
 simp only [gT,Bool.and_eq_true,decide_eq_true_eq]at e;exact e.1
theorem et.iff {v:Int} {c:List (List Int)}:et v c=true↔(1<=v/\v<=10)/\c.length<=60/\ ∀l∈c,gT v l=true:=by
 simp [et,List.all_eq_true]
theorem VH (xs:List Int):(xs.map I).all (·.oneCell')=true:=by
 rw [List.all_eq_true]
 intro v hv
 obtain⟨x,_,rfl⟩:=List.mem_map.1 hv
 rfl
theorem IntS.slc {h:Hp} {s:Sl} {xs:List Int} (e:IntS h s xs):SlC h s 1 (xs.map I):=e
theorem lF {h:Hp} {s:Sl} {xs:List Int} {R:Value->Hp->Prop} (hs:IntS h s xs) (hl:xs.length<=1048576)
  (k: ∀t h',h.le h'->Buf (h'.sub h) t 1 (xs.map I)->R (Sl.v t) h'):dQ #[s.v] h R:=by
 apply wG
 refine uf_ ?_
 have:=hs.len
 exact MD hs (by omega) (VH _) fun t h' hn hle hb=>k t h' hle hb
theorem adS (a b c a' b' c':Int):aeq PR 3 ka (.agg #[I a,I b,I c]) (.agg #[I a',I b',I c'])=some (a==a'&&(b==b'&&(c==c'&&true))):=by kernel_rfl
theorem Pm (l:List UInt8): ∀(k i:Nat) (r:List UInt8),i+k=l.length->ByteArray.toList.loop ⟨l.toArray⟩ i r=r.reverse++l.drop i:=by
 intro k
 induction k with
 |zero=>
  intro i r hi
  unfold ByteArray.toList.loop
  rw [if_neg (by simp [ByteArray.size];omega),List.drop_eq_nil_of_le (by omega),List.append_nil]
 |succ k ih=>
  intro i r hi
  unfold ByteArray.toList.loop
  rw [if_pos (by simp [ByteArray.size];omega),ih (i+1) _ (by omega),List.drop_eq_getElem_cons (i:=i) (by omega)]
  simp [ByteArray.get!,show i<l.length by omega]
theorem mE (l:List UInt8):(⟨l.toArray⟩:ByteArray).toList=l:=by
 unfold ByteArray.toList
 rw [Pm l l.length 0 [] (by omega)];rfl
def ew (n:Nat) (f:Nat->Bool):List Value:=(List.range (2^n)).map fun i=>Value.int .u8 (if f i then 1 else 0)
def di (n:Nat) (f:Nat->Bool):List UInt8:=(List.range (2^n)).map fun i=>if f i then 1 else 0
theorem KR (n:Nat) (f:Nat->Bool):eW (di n f)=ew n f:=by
 unfold eW di ew
 rw [List.map_map]
 apply List.map_congr_left
 intro i _
 simp only [Function.comp]
 cases f i<;>rfl
def Bs (h:Hp) (t:Sl) (n:Nat) (f:Nat->Bool):Prop:=SlC h t 1 (ew n f)
theorem Bs.mono {h h':Hp} {t:Sl} {n:Nat} {f:Nat->Bool} (l:h.le h') (e:Bs h t n f):Bs h' t n f:=SlC.mono l e
theorem Bs.len {h:Hp} {t:Sl} {n:Nat} {f:Nat->Bool} (e:Bs h t n f):t.n=2^n:=by have:=e.2.1;simp [ew]at this;omega
theorem Bs.at {h:Hp} {t:Sl} {n:Nat} {f:Nat->Bool} (e:Bs h t n f) {i:Nat} (hi:i<2^n):
  ∃b o,t.a=some (Addr.mk b o none)/\Hp.cell h b (o+i)=some (.int .u8 (if f i then 1 else 0)):=by
 have hl:=e.len
 obtain⟨b,o,ha,hc⟩:=SlC.get e (by omega)
 exact⟨b,o,ha,hc i _ (by simp [ew,hi])⟩
theorem Bs.all {h:Hp} {t:Sl} {n:Nat} {f:Nat->Bool} (e:Bs h t n f):nL h t.a t.n (eW (di n f)):=by
 rw [KR]
 exact⟨by rw [e.2.1,Nat.mul_one],e.2.2⟩
theorem xt (n:Nat) (f:Nat->Bool):(ew n f).length=2^n:=by simp [ew]
theorem Qh {h:Hp} {v:Int} {R:Value->Hp->Prop} (k:R (.bool (decide (0<=v/\v<=13))) h):vh #[I v] h R:=by
 apply Lw
 refine uf_ ?_
 exact dM ⟨_,rfl,k⟩
theorem Cn {h:Hp} {c:Bool} {R:Value->Hp->Prop} (k:R (I (if c then 1 else 0)) h):qz #[.bool c] h R:=by
 apply SZ
 refine uf_ ?_
 cases c<;>exact k
def cQ (ns:List Nd):List Value:=ns.flatMap fun n=> [I n.v,I n.lo,I n.hi]
def H8 (n:Nd):Value:= .agg #[I n.v,I n.lo,I n.hi]
structure BI (h:Hp) (B rs rn:Nat) (vars:Nat) (s:Sl) (ns:List Nd) (es:List (ByteArray×Nat)):Prop where
 row:h B=some (.inl ⟨[I vars,s.v,I 0, .map (some rs), .map (some rn)],5,false⟩)
 buf:Buf h s 3 (cQ ns)
 seen:h rs=some (.inr (es.map fun e=>(.string e.1,I e.2)))
 nodes:h rn=some (.inr (ns.zipIdx.map fun e=>(H8 e.1,I (e.2+2:Nat))))
 far:rs≠rn
 own: ∀a,s.a=some a->a.block≠B
 true: ∀e∈es,∃n f low,low+n=vars/\e.1=⟨(di n f).toArray⟩/\mkD n f low ns=(e.2,ns)
theorem BI.mono {h h':Hp} {B rs rn vars:Nat} {s:Sl} {ns:List Nd} {es:List (ByteArray×Nat)} (l:h.le h') (e:BI h B rs rn vars s ns es):BI h' B rs rn vars s ns es:=
 ⟨l _ _ e.row,e.buf.mono l,l _ _ e.seen,l _ _ e.nodes,e.far,e.own,e.true⟩
theorem BI.blkB {h:Hp} {B rs rn vars:Nat} {s:Sl} {ns:List Nd} {es:List (ByteArray×Nat)} (e:BI h B rs rn vars s ns es): ∀b∈ [B,rs,rn]++s.blk,∃x,h b=some x:=by
 intro b hb
 simp only [List.cons_append,List.nil_append,List.mem_cons]at hb
 rcases hb with rfl|rfl|rfl|hb
 ·exact⟨_,e.row⟩
 ·exact⟨_,e.seen⟩
 ·exact⟨_,e.nodes⟩
 ·revert b hb
  refine xD.2 fun a ha=>?_
  rcases e.buf.2.2 with ⟨h0,_⟩|⟨c,hc,hcb⟩
  ·rw [h0]at ha;cases ha
  ·rw [hc]at ha;cases ha;exact⟨_,hcb⟩
theorem BI.put {h:Hp} {B rs rn vars:Nat} {s:Sl} {ns:List Nd} {es:List (ByteArray×Nat)} (e:BI h B rs rn vars s ns es) {n low:Nat} {f:Nat->Bool} (hlow:low+n=vars)
  {a:Nat} (ha:mkD n f low ns=(a,ns)): ∃(es2:List (ByteArray×Nat)) (res:Option (Nat×Value)),gm (Instr.sameNow .string (.string ⟨(di n f).toArray⟩)) (es.map fun e=>(.string e.1,I e.2)) 0=some res/\
   xK (es.map fun e=>(.string e.1,I e.2)) (.string ⟨(di n f).toArray⟩) (I a) res=es2.map (fun e:ByteArray×Nat=>(Value.string e.1,I e.2))/\ ∀x∈es2,∃n f low,low+n=vars/\x.1=⟨(di n f).toArray⟩/\mkD n f low ns=(x.2,ns):=by
 rcases qW (Instr.sameNow .string (.string ⟨(di n f).toArray⟩)) (fun e:ByteArray×Nat=> .string e.1) (fun e=>I e.2) (fun e=>(⟨(di n f).toArray⟩:ByteArray)==e.1) es 0 (fun _ _=>rfl)with ⟨hno,hm⟩|⟨j,hj,hyes,_,hm⟩
 ·refine⟨es++ [(⟨(di n f).toArray⟩,a)],_,hm,by simp [xK],?_⟩
  intro x hx
  rcases List.mem_append.1 hx with hx|hx
  ·exact e.true x hx
  ·simp only [List.mem_singleton]at hx;subst hx;exact⟨n,f,low,hlow,rfl,ha⟩
 ·refine⟨es.set j (⟨(di n f).toArray⟩,a),_,hm,by simp [xK,List.map_set],?_⟩
  intro x hx
  rcases List.mem_or_eq_of_mem_set hx with hx|hx
  ·exact e.true x hx
  ·subst hx;exact⟨n,f,low,hlow,rfl,ha⟩
theorem Dn {n m:Nat} {f g:Nat->Bool} (e:di n f=di m g):n=m/\ ∀i,i<2^n->f i=g i:=by
 have hl:=congrArg List.length e
 simp only [di,List.length_map,List.length_range]at hl
 have hn:n=m:=(Nat.pow_right_inj (by decide:1<2)).1 hl
 subst hn
 refine⟨rfl,fun i hi=>?_⟩
 have:=congrArg (fun l:List UInt8=>l[i]?) e
 simp only [di,List.getElem?_map,List.getElem?_range hi,Option.map_some,Option.some.injEq]at this
 cases h1:f i<;>cases h2:g i<;>simp [h1,h2]at this<;>rfl
theorem abF (nd:Nd) (ns:List Nd):
  (∃j,gm (aeq PR 3 ka (.agg #[I nd.v,I nd.lo,I nd.hi])) (ns.zipIdx.map fun e=>(H8 e.1,I (e.2+2:Nat))) 0=some (some (j,I (j+2:Nat)))/\jp nd ns=(j+2,ns))\/
  (gm (aeq PR 3 ka (.agg #[I nd.v,I nd.lo,I nd.hi])) (ns.zipIdx.map fun e=>(H8 e.1,I (e.2+2:Nat))) 0=some none/\jp nd ns=(ns.length+2,ns++ [nd])):=by
 have heq: ∀m:Nd,((nd.v:Int)==(m.v:Int)&&((nd.lo:Int)==(m.lo:Int)&&((nd.hi:Int)==(m.hi:Int)&&true)))=(m==nd):=by
  intro m
  rw [Bool.eq_iff_iff]
  simp only [Bool.and_eq_true,beq_iff_eq,Bool.and_true]
  obtain⟨a,b,c⟩:=nd;obtain⟨a',b',c'⟩:=m
  simp only [Nd.mk.injEq]
  omega
 rcases qW (aeq PR 3 ka (.agg #[I nd.v,I nd.lo,I nd.hi])) (fun e:Nd×Nat=>H8 e.1) (fun e=>I (e.2+2:Nat))
  (fun e=>(nd.v:Int)==(e.1.v:Int)&&((nd.lo:Int)==(e.1.lo:Int)&&((nd.hi:Int)==(e.1.hi:Int)&&true))) ns.zipIdx 0 (fun e _=>adS _ _ _ _ _ _)with ⟨hno,hm⟩|⟨j,hj,hyes,hbef,hm⟩
 ·refine .inr ⟨hm,?_⟩
  have:ns.idxOf? nd=none:=by
   simp only [List.idxOf?]
   rw [List.findIdx?_eq_none_iff]
   intro m hmm
   obtain⟨i,hi,rfl⟩:=List.getElem_of_mem hmm
   have:=hno (ns[i],i) (by rw [List.mem_iff_getElem];exact⟨i,by simpa using hi,by simp⟩)
   simp only [heq]at this
   exact this
  simp [jp,this]
 ·have hj':j<ns.length:=by simpa using hj
  simp only [heq,List.getElem_zipIdx,Nat.zero_add]at hyes hbef hm
  refine .inl ⟨j,hm,?_⟩
  have:ns.idxOf? nd=some j:=by
   simp only [List.idxOf?]
   rw [List.findIdx?_eq_some_iff_getElem]
   exact⟨hj',hyes,fun l hl=>by have:=hbef l (by simp;omega) hl;simp [this]⟩
  simp [jp,this]
theorem zr (ns:List Nd) (nd:Nd):cQ (ns++ [nd])=cQ ns++ [I nd.v,I nd.lo,I nd.hi]:=by simp [cQ]
theorem mh (ns:List Nd):(cQ ns).length=ns.length*3:=by
 induction ns with
 |nil=>rfl
 |cons n ns ih=>simp only [cQ,List.flatMap_cons,List.length_append,List.length_cons,List.length_nil]at ih⊢;omega
theorem RP {B rs rn vars:Nat} (hvars:vars<=13): ∀(n:Nat) (f:Nat->Bool) (low:Nat) (t:Sl) (h:Hp) (s:Sl) (ns:List Nd) (es:List (ByteArray×Nat)) (g:Hp) (R:Value->Hp->Prop),
  BI h B rs rn vars s ns es->g.le h->g B=none->g rs=none->g rn=none->(∀a,s.a=some a->g a.block=none)->Bs g t n f->low+n=vars->ns.length+2^n<=1048576->
  (∀s' es' h',BI h' B rs rn vars s' (mkD n f low ns).2 es'->g.le h'->(∀a,s'.a=some a->g a.block=none)->R (I (mkD n f low ns).1) h')->
  gM #[.pointer (some ⟨B,0,none⟩),t.v,I low] h R:=by
 intro n
 induction n with
 |zero=>
  intro f low t h s ns es g R inv hg gB grs grn gs ht hlow hlen k
  apply qZ
  refine uf_ ?_
  have hl:=ht.len
  obtain⟨b,o,ha,hc⟩:=ht.at (i:=0) (by simp)
  refine aL (by simp [hl]) ?_
  simp only [vm,hl,ha,hg.cell hc]
  have:=hg.cell hc
  simp only [Nat.add_zero]at this
  refine⟨by omega,by simp,?_⟩
  simp only [Int.toNat_zero,Nat.add_zero,this,vm]
  have:=k s es h inv hg gs
  simp only [mkD]at this
  have e0:W (if f 0 then 1 else 0)=((if f 0 then 1 else 0:Nat):Int):=by cases f 0<;>rfl
  rw [e0];exact this
 |succ n ih=>
  intro f low t h s ns es g R inv hg gB grs grn gs ht hlow hlen k
  apply qZ
  refine uf_ ?_
  have hl:=ht.len
  have hp:2^(n+1)=2*2^n:=by rw [Nat.pow_succ];omega
  have hp1:0<2^n:=Nat.pow_pos (by omega)
  have hp2:2^n<=8192:=by
   have:=Nat.pow_le_pow_right (n:=2) (by omega) (show n<=13 by omega)
   simpa using this
  refine aA (by simp [hl];omega) ?_
  refine⟨di (n+1) f,(ht.mono hg).all,?_⟩
  simp only [vm,av inv.row,mm]
  refine⟨rs,es.map (fun e=>(.string e.1,I e.2)),?_⟩
  rcases qW (Instr.sameNow .string (.string ⟨(di (n+1) f).toArray⟩)) (fun e:ByteArray×Nat=> .string e.1) (fun e=>I e.2) (fun e=>(⟨(di (n+1) f).toArray⟩:ByteArray)==e.1) es 0 (fun _ _=>rfl)with ⟨hno,hm⟩|⟨j,hj,hyes,_,hm⟩
  rotate_left
  ·refine⟨_,rfl,inv.seen,hm,_,rfl,aL rfl ?_⟩
   obtain⟨m,f',low',hlow',hkey,hmk⟩:=inv.true _ (List.getElem_mem hj)
   rw [hkey]at hyes
   have hb:di (n+1) f=di m f':=by
    have h9:((di (n+1) f).toArray==(di m f').toArray)=true:=hyes
    simpa using h9
   obtain⟨rfl,hff⟩:=Dn hb
   have:low'=low:=by omega
   subst this
   have e:=GK (n+1) low' ns hff
   rw [hmk]at e
   have:=k s es h (by rw [e];exact inv) hg gs
   rw [e]at this
   exact this
  refine⟨_,rfl,inv.seen,hm,_,rfl,aA rfl ?_⟩
  have hdiv:W ((t.n:Int).tdiv 2)=((2^n:Nat):Int):=by
   rw [hl,hp]
   have:(((2*2^n:Nat):Int)).tdiv 2=((2^n:Nat):Int):=by
    have:=Int.ofNat_tdiv (2*2^n) 2
    rw [show 2*2^n/2=2^n by omega]at this
    exact this.symm
   rw [this];exact fu (by omega)
  simp only [hdiv,vm,ct]
  refine aq (fun J=> ∀b1 b2:Nat,b1≠b2->h b1=none->h b2=none-> ∀h1:Hp,h1 b1=some (.inl ⟨List.replicate (2^n) (.int .u8 0),2^n,false⟩)->h1 b2=some (.inl ⟨List.replicate (2^n) (.int .u8 0),2^n,false⟩)->h.le h1->
   J ⟨some ⟨b1,0,none⟩,2^n,2^n⟩ ⟨some ⟨b2,0,none⟩,2^n,2^n⟩ h1) ?_ ?_
  rotate_left
  ·intro J hJ
   refine⟨⟨by omega,by omega,by omega,fun b1 hb1=>⟨by omega,by omega,by omega,fun b2 hb2=>?_⟩⟩,⟨by omega,by omega,by omega,fun b1 hb1=>⟨by omega,by omega,by omega,fun b2 hb2=>?_⟩⟩⟩
   ·exact hJ b1 b2 hb2.1.symm hb1 hb2.2 _ (by rw [bX _ _ hb2.1.symm,bJ]) (by rw [bJ]) (dP _ _ hb2.2 (fK _ _ hb1))
   ·exact hJ b2 b1 hb2.1 hb2.2 hb1 _ (by rw [bJ]) (by rw [bX _ _ hb2.1.symm,bJ]) (dP _ _ hb2.2 (fK _ _ hb1))
  intro b1 b2 n12 hb1 hb2 h1 f1 f2 l1
  refine ar (2^n) (fun i vs h'=>vs= [.pointer (some ⟨B,0,none⟩),t.v,I low, .string ⟨(di (n+1) f).toArray⟩,Sl.v ⟨some ⟨b1,0,none⟩,2^n,2^n⟩,Sl.v ⟨some ⟨b2,0,none⟩,2^n,2^n⟩,I (2^n:Nat),I i]/\
   h.le h'/\ ∃c1 c2,h' b1=some (.inl ⟨c1,2^n,false⟩)/\h' b2=some (.inl ⟨c2,2^n,false⟩)/\c1.length=2^n/\c2.length=2^n/\c1.take i=(ew n fun i=>f (2*i)).take i/\c2.take i=(ew n fun i=>f (2*i+1)).take i)
   ⟨rfl,l1,_,_,f1,f2,by simp,by simp,by simp,by simp⟩ ?_
  rintro i _ h2 next hi ⟨rfl,l2,c1,c2,g1,g2,q1,q2,p1,p2⟩ hn
  refine⟨_,_,_,_,_,_,_,_,rfl,?_⟩
  by_cases hlt:i<2^n
  ·obtain⟨bt,ot,hta,htc⟩:=((ht.mono hg).mono l2).at (i:=2*i) (by omega)
   obtain⟨bt',ot',hta',htc'⟩:=((ht.mono hg).mono l2).at (i:=2*i+1) (by omega)
   rw [hta]at hta';cases hta'
   have e1:W (2*(i:Int))=((2*i:Nat):Int):=by rw [<-fu (n:=2*i) (by omega)];congr 1
   have e2:W (((2*i:Nat):Int)+1)=((2*i+1:Nat):Int):=aw (by omega)
   refine aL (by simpa using by exact_mod_cast hlt) ?_
   simp only [e1,e2,vm,mm,hl,hta,htc,htc',aw (n:=i) (show i<9223372036854775807 by omega)]
   refine⟨by omega,by omega,by omega,c1,2^n,g1,by omega,by omega,?_⟩
   rw [bX _ _ n12.symm]
   refine⟨c2,2^n,g2,by omega,?_⟩
   refine hn hlt _ _ ⟨rfl,dP _ _ hb2 (dP _ _ hb1 l2),_,_,by rw [bX _ _ n12,bJ],bJ ..,by simpa using q1,by simpa using q2,?_,?_⟩
   ·have hti:i<(ew n fun i=>f (2*i)).length:=by rw [xt];exact hlt
    rw [nw _ (by omega),p1,List.take_succ_eq_append_getElem hti]
    simp [ew]
   ·have hti:i<(ew n fun i=>f (2*i+1)).length:=by rw [xt];exact hlt
    rw [nw _ (by omega),p2,List.take_succ_eq_append_getElem hti]
    simp [ew]
  have:i=2^n:=by omega
  subst this
  rw [<-q1,List.take_length,q1,<-xt n (fun i=>f (2*i)),List.take_length]at p1
  rw [<-q2,List.take_length,q2,<-xt n (fun i=>f (2*i+1)),List.take_length]at p2
  subst p1;subst p2
  refine aA (by simp) ?_
  clear hn next f1 f2 l1 h1
  have hout: ∀b,h b=none->b∉ [B,rs,rn]++s.blk:=fun b hb hm=>by
   obtain⟨x,hx⟩:=inv.blkB b hm
   rw [hb]at hx;cases hx
  have tb:2^n<=9223372036854775807:=by omega
  have t1:Bs (h2.wo ([B,rs,rn]++s.blk)) ⟨some ⟨b1,0,none⟩,2^n,2^n⟩ n (fun i=>f (2*i)):=
   ⟨tb,by simp [xt], .inr ⟨b1,0,rfl,au (by rw [uf (hout b1 hb1)];exact g1)⟩⟩
  have t2:Bs (h2.wo ([B,rs,rn]++s.blk)) ⟨some ⟨b2,0,none⟩,2^n,2^n⟩ n (fun i=>f (2*i+1)):=
   ⟨tb,by simp [xt], .inr ⟨b2,0,rfl,au (by rw [uf (hout b2 hb2)];exact g2)⟩⟩
  have hgw:g.le (h2.wo ([B,rs,rn]++s.blk)):=ue (Hp.le_trans hg l2) (by
   intro b hb
   simp only [List.cons_append,List.nil_append,List.mem_cons]at hb
   rcases hb with rfl|rfl|rfl|hb
   ·exact gB
   ·exact grs
   ·exact grn
   ·exact xD (p:=fun b=>g b=none).2 gs b hb)
  rw [aw (by omega)]
  have len1:=uN n (fun i=>f (2*i)) (low+1) ns
  refine ih _ (low+1) _ h2 s ns es (h2.wo ([B,rs,rn]++s.blk)) _ (inv.mono l2) (sx _ _) (fh (by simp)) (fh (by simp)) (fh (by simp))
   (xD (p:=fun b=>(h2.wo ([B,rs,rn]++s.blk)) b=none).1 fun b hb=>fh (by simp [hb])) t1 (by omega) (by omega) ?_
  intro s3 es3 h3 inv3 l3 gs3
  refine⟨_,rfl,di n (fun i=>f (2*i)),(t1.mono l3).all,di n (fun i=>f (2*i+1)),(t2.mono l3).all,?_⟩
  refine aq (fun J=> ∀s' es' h',BI h' B rs rn vars s' (mkD (n+1) f low ns).2 es'->g.le h'->(∀a,s'.a=some a->g a.block=none)->J ((mkD (n+1) f low ns).1:Nat) h') ?_ ?_
  ·intro s' es' h' inv' lg' gs'
   obtain⟨es2,res,hm2,hput,htrue⟩:=inv'.put (n:=n+1) (low:=low) (f:=f) hlow (zj (n+1) f low ns _ (List.prefix_refl _))
   simp only [vm,av inv'.row,mm]
   refine⟨rs,_,res,rfl,inv'.seen,hm2,?_⟩
   rw [hput]
   have nB:B≠rs:=dZ inv'.row inv'.seen (by intro h;cases h)
   refine k s' es2 _ ⟨by rw [Hp.set_ne _ _ nB];exact inv'.row,?_,Hp.set_eq ..,by rw [Hp.set_ne _ _ inv'.far.symm];exact inv'.nodes,inv'.far,inv'.own,htrue⟩ (ld _ lg' grs) gs'
   refine⟨inv'.buf.1,inv'.buf.2.1,inv'.buf.2.2.imp id ?_⟩
   rintro ⟨c,hc,hcb⟩
   exact⟨c,hc,by rw [Hp.set_ne _ _ (dZ hcb inv'.seen (by intro h;cases h))];exact hcb⟩
  ·intro J hJ
   rw [mE,mE]
   refine ad (fun e=>?_) (fun e=>?_)
   rotate_left
   ·have e':di n (fun i=>f (2*i))=di n (fun i=>f (2*i+1)):=by simpa using e
    have hs2:=VQ (low:=low+1) (ns:=ns) (Dn e').2
    have hmk:mkD (n+1) f low ns=mkD n (fun i=>f (2*i)) (low+1) ns:=by simp only [mkD];rw [hs2];simp
    have:=hJ s3 es3 h3 (by rw [hmk];exact inv3) (Hp.le_trans hgw l3) ?_
    ·rw [hmk]at this;exact this
    ·intro a ha;
     have:=gs3 a ha
     cases hga:g a.block with
     |none=>rfl
     |some x=>rw [hgw _ _ hga]at this;cases this
   have hne: ¬(mkD n (fun i=>f (2*i)) (low+1) ns).1=(mkD n (fun i=>f (2*i+1)) (low+1) (mkD n (fun i=>f (2*i)) (low+1) ns).2).1:=by
    intro he
    have:=Xw.1 he
    have e2:di n (fun i=>f (2*i))=di n (fun i=>f (2*i+1)):=by
     unfold di
     apply List.map_congr_left
     intro i hi
     simp only [this i (by simpa using hi)]
    rw [e2]at e;simp at e
   have hmk:mkD (n+1) f low ns=jp ⟨low,(mkD n (fun i=>f (2*i)) (low+1) ns).1,(mkD n (fun i=>f (2*i+1)) (low+1) (mkD n (fun i=>f (2*i)) (low+1) ns).2).1⟩
     (mkD n (fun i=>f (2*i+1)) (low+1) (mkD n (fun i=>f (2*i)) (low+1) ns).2).2:=by simp only [mkD];rw [if_neg hne]
   have len2:=uN n (fun i=>f (2*i+1)) (low+1) (mkD n (fun i=>f (2*i)) (low+1) ns).2
   generalize mkD n (fun i=>f (2*i)) (low+1) ns=r1 at*
   refine ih _ (low+1) _ h3 s3 r1.2 es3 ((h3.wo ([B,rs,rn]++s3.blk))) _ inv3 (sx _ _) (fh (by simp)) (fh (by simp)) (fh (by simp))
    (xD (p:=fun b=>(h3.wo ([B,rs,rn]++s3.blk)) b=none).1 fun b hb=>fh (by simp [hb])) (t2.mono (ue l3 ?_)) (by omega) (by omega) ?_
   ·intro b hb
    simp only [List.cons_append,List.nil_append,List.mem_cons]at hb
    rcases hb with rfl|rfl|rfl|hb
    ·exact fh (by simp)
    ·exact fh (by simp)
    ·exact fh (by simp)
    ·exact xD (p:=fun b=>(h2.wo ([B,rs,rn]++s.blk)) b=none).2 gs3 b hb
   generalize mkD n (fun i=>f (2*i+1)) (low+1) r1.2=r2 at*
   intro s4 es4 h4 inv4 l4 gs4
   refine⟨_,rfl,?_⟩
   intro b5 hb5
   have nB:=fresh_ne hb5 inv4.row
   have nN:=fresh_ne hb5 inv4.nodes
   simp only [vm,mm,nB,nN,av inv4.row,ne_eq,not_false_eq_true]
   have hgw3:g.le (h3.wo ([B,rs,rn]++s3.blk)):=ue (Hp.le_trans hgw l3) (by
    intro b hb
    refine aE hgw ?_
    simp only [List.cons_append,List.nil_append,List.mem_cons]at hb
    rcases hb with rfl|rfl|rfl|hb
    ·exact fh (by simp)
    ·exact fh (by simp)
    ·exact fh (by simp)
    ·exact xD (p:=fun b=>(h2.wo ([B,rs,rn]++s.blk)) b=none).2 gs3 b hb)
   have lg4:g.le h4:=Hp.le_trans hgw3 l4
   have gs4': ∀a,s4.a=some a->g a.block=none:=fun a ha=>aE hgw3 (gs4 a ha)
   have l5:=fK [I low,I r1.1,I r2.1] 3 hb5
   refine⟨by omega,rn,r2.2.zipIdx.map (fun e=>(H8 e.1,I (e.2+2:Nat))),?_⟩
   rcases abF ⟨low,r1.1,r2.1⟩ r2.2 with ⟨j,hm5,hput⟩|⟨hm5,hput⟩
   ·refine⟨_,rfl,l5 _ _ inv4.nodes,hm5,_,rfl,aA rfl ?_⟩
    rw [hput]at hmk
    have:=hJ s4 es4 _ (by rw [hmk];exact inv4.mono l5) (Hp.le_trans lg4 l5) gs4'
    rw [hmk]at this
    exact this
   ·refine⟨_,rfl,l5 _ _ inv4.nodes,hm5,_,rfl,aL rfl ?_⟩
    rw [hput]at hmk
    rintro b6 ⟨n65,_,hb6⟩
    have nB6:=fresh_ne hb6 inv4.row
    have l6:=dP [I low,I r1.1,I r2.1] 3 (show (h4.row b5 [I low,I r1.1,I r2.1] 3) b6=none by rw [zf];exact⟨n65,hb6⟩) (Hp.le_refl _)
    have hsn:s4.n=r2.2.length:=by have:=inv4.buf.1;rw [mh]at this;omega
    refine⟨by rw [bX _ _ nB6,bX _ _ nB],?_⟩
    refine dr ((inv4.buf.mono l5).mono l6) (by omega) (by omega) (by omega) ⟨b6,0,rfl,au (bJ ..)⟩ (by simp) rfl ?_
    intro s7 h7 hn7 hb7 hl7 _
    have hH:h4.le ((h4.row b5 [I low,I r1.1,I r2.1] 3).row b6 [I low,I r1.1,I r2.1] 3):=Hp.le_trans l5 l6
    have dmap: ∀{c:Nat} {m:List (Value×Value)},h4 c=some (.inr m)-> ∀a,s4.a=some a->a.block≠c:=by
     intro c m hc a ha
     rcases inv4.buf.2.2 with ⟨h0,_⟩|⟨d,hd,hdb⟩
     ·rw [h0]at ha;cases ha
     ·rw [hd]at ha;cases ha;exact dZ hdb hc (by intro h;cases h)
    have d5: ∀a,s4.a=some a->a.block≠b5:=by
     intro a ha
     rcases inv4.buf.2.2 with ⟨h0,_⟩|⟨d,hd,hdb⟩
     ·rw [h0]at ha;cases ha
     ·rw [hd]at ha;cases ha;exact fresh_ne hb5 hdb
    obtain⟨f7B,o7B⟩:=la hl7 (hH _ _ inv4.row) inv4.own
    obtain⟨f7s,o7s⟩:=la hl7 (hH _ _ inv4.seen) (dmap inv4.seen)
    obtain⟨f7n,o7n⟩:=la hl7 (hH _ _ inv4.nodes) (dmap inv4.nodes)
    obtain⟨f75,o75⟩:=la hl7 (l6 _ _ (bJ h4 b5 [I low,I r1.1,I r2.1] 3)) d5
    have n5B:=nB.symm
    have nsB:rs≠B:=dZ inv4.seen inv4.row (by intro h;cases h)
    have nnB:rn≠B:=dZ inv4.nodes inv4.row (by intro h;cases h)
    have hW2:W ((s4.n:Int)+2)=((r2.2.length+2:Nat):Int):=by rw [hsn,bQ (by omega) (by omega)];omega
    simp only [vm,mm,f7B,av f75,n5B,ne_eq,not_false_eq_true,hW2]
    refine⟨by omega,rn,_,none,rfl,by rw [bX _ _ nnB];exact f7n,hm5,rfl,?_⟩
    have:=hJ s7 es4 ((h7.row B [I vars,s7.v,I 0, .map (some rs), .map (some rn)] 5).set rn
     (some (.inr (xK (r2.2.zipIdx.map fun e=>(H8 e.1,I (e.2+2:Nat))) (.agg #[I low,I r1.1,I r2.1]) (I (r2.2.length+2:Nat)) none)))) ?_ ?_ ?_
    ·rw [hmk]at this;exact this
    ·rw [hmk]
     refine⟨by rw [Hp.set_ne _ _ nnB.symm,bJ],?_,by rw [Hp.set_ne _ _ inv4.far,bX _ _ nsB];exact f7s,?_,inv4.far,o7B,?_⟩
     ·rw [zr]
      refine⟨hb7.1,hb7.2.1,hb7.2.2.imp id ?_⟩
      rintro ⟨c,hc,hcb⟩
      exact⟨c,hc,by rw [Hp.set_ne _ _ (o7n _ hc),bX _ _ (o7B _ hc)];exact hcb⟩
     ·rw [Hp.set_eq]
      simp [xK,List.zipIdx_append,H8]
     ·intro x hx
      obtain⟨n',f',low',h1',h2',h3'⟩:=inv4.true x hx
      refine⟨n',f',low',h1',h2',?_⟩
      have:=zj n' f' low' r2.2 (r2.2++ [⟨low,r1.1,r2.1⟩]) (by rw [h3'];exact List.prefix_append _ _)
      rw [h3']at this;exact this
    ·refine ld _ ?_ grn
     intro c x hcx
     have hcB:c≠B:=fun h=>by rw [h,gB]at hcx;cases hcx
     rw [bX _ _ hcB]
     exact(la hl7 (hH _ _ (lg4 _ _ hcx)) (fun a ha hac=>by rw [<-hac,gs4' a ha]at hcx;cases hcx)).1
    ·intro a ha
     cases hg7:g a.block with
     |none=>rfl
     |some x=>
      exact absurd rfl ((la hl7 (hH _ _ (lg4 _ _ hg7)) (fun a' ha' hac=>by rw [<-hac,gs4' a' ha']at hg7;cases hg7)).2 a ha)
theorem Qm (ns:List Nd):(cQ ns).all (·.oneCell')=true:=by
 rw [List.all_eq_true]
 intro v hv
 simp only [cQ,List.mem_flatMap]at hv
 obtain⟨n,_,hv⟩:=hv
 simp only [List.mem_cons,List.not_mem_nil,or_false]at hv
 rcases hv with rfl|rfl|rfl<;>rfl
theorem Rs {h:Hp} {s:Sl} {ns:List Nd} {v r:Int} {R:Value->Hp->Prop} (hs:SlC h s 3 (cQ ns)) (hn:ns.length<=1048576)
  (k: ∀t h',h.le h'->Own (h'.sub h) t 3 (cQ ns)->R (.agg #[I v,Sl.v t,I r]) h'):qx #[.agg #[I v,s.v,I r]] h R:=by
 apply Ed
 refine uf_ ?_
 intro b1 hb1
 simp only [vm,mm]
 rintro b2 ⟨n21,hb2⟩
 have n12:=n21.symm
 have hsn:s.n=ns.length:=by have:=hs.2.1;rw [mh]at this;omega
 simp only [vm,mm,n12,n21,ne_eq,not_false_eq_true]
 have l0:=dP [I 0, .slice none 0 0,I 0] 3 hb2 (fK [I v,s.v,I r] 3 hb1)
 refine MD (hs.mono l0) (by omega) (Qm _) ?_
 intro t h3 hn3 l3 hb3
 have f1:=l3 _ _ ((bX _ _ n12).trans (bJ ..))
 have f2:=l3 _ _ (bJ ..)
 simp only [vm,mm,f1,f2]
 refine⟨by omega,k _ _ (dP _ _ hb2 (Hp.le_trans l0 l3)) ((hb3.own (by omega)).mono ?_)⟩
 exact Pg _ _ (nv (bJ ..)) (rp _ l0)
def qe (n:Nat) (f:Nat->Bool):Option (Nat×List Nd):=if 600<(mkD n f 0 []).2.length then none else some (mkD n f 0 [])
theorem N4 {h:Hp} {t:Sl} {n:Nat} {f:Nat->Bool} {R:Value->Hp->Prop} (hn:n<=13) (ht:Bs h t n f)
  (k0:qe n f=none->R (.tuple #[.agg #[I 0, .slice none 0 0,I 0], .bool false]) h)
  (k1: ∀r,qe n f=some r-> ∀s h',h.le h'->Own (h'.sub h) s 3 (cQ r.2)->R (.tuple #[.agg #[I n,Sl.v s,I r.1], .bool true]) h'):
  jo #[t.v] h R:=by
 refine ACalls.drop (zF ?_)
 refine uf_ ?_
 intro b1 hb1
 have l1:=fK [I 0, .slice none 0 0,I 0] 3 hb1
 refine xX fun h1 e1=>?_
 refine ar n (fun i vs h'=>vs= [t.v, .pointer (some ⟨b1,0,none⟩),I i]/\h'=h1) ⟨rfl,rfl⟩ ?_
 rintro i _ _ next hi ⟨rfl,rfl⟩ hnx
 refine⟨_,_,_,_,rfl,?_⟩
 rw [if_neg (by omega),ck (by omega),ht.len]
 by_cases hlt:i<n
 ·refine aL ?_ ?_
  ·have:=Nat.pow_lt_pow_right (a:=2) (by omega) hlt
   simpa using by exact_mod_cast this
  ·rw [aw (by omega)];exact hnx hlt _ _ ⟨rfl,rfl⟩
 have hin:i=n:=by omega
 subst hin
 refine aA (by simp) ?_
 rename_i h1
 rw [<-e1]at l1
 intro rs hrs
 refine xX fun h2 e2=>?_
 intro rn hrn
 refine xX fun h3 e3=>?_
 intro B hB
 refine xX fun h4 e4=>?_
 have l2:h1.le h2:=e2▸Hp.le_set _ hrs
 have l3:h2.le h3:=e3▸Hp.le_set _ hrn
 have l4:h3.le h4:=e4▸fK _ _ hB
 have f2:h2 rs=some (.inr []):=by rw [e2,Hp.set_eq]
 have f3:h3 rn=some (.inr []):=by rw [e3,Hp.set_eq]
 have f4:h4 B=some (.inl ⟨[I i, .slice none 0 0,I 0, .map (some rs), .map (some rn)],5,false⟩):=by rw [e4,bJ]
 have far:rs≠rn:=fresh_ne hrn f2
 have inv:BI h4 B rs rn i ⟨none,0,0⟩ [] []:=⟨f4,eP _ _,l4 _ _ (l3 _ _ f2),l4 _ _ f3,far,by simp,by simp⟩
 have l14:h1.le h4:=Hp.le_trans l2 (Hp.le_trans l3 l4)
 have hp2:2^i<=8192:=by
  have:=Nat.pow_le_pow_right (n:=2) (by omega) hn
  simpa using this
 have hB1:h1 B=none:=aE (Hp.le_trans l2 l3) hB
 have len:=uN i f 0 []
 simp only [List.length_nil]at len
 refine RP hn i f 0 t h4 ⟨none,0,0⟩ [] [] h1 _ inv l14 hB1 hrs (aE l2 hrn) (by simp) (ht.mono l1) (by omega) (by simp;omega) ?_
 intro s5 es5 h5 inv5 l5 _
 have hs5:s5.n=(mkD i f 0 []).2.length:=by have:=inv5.buf.1;rw [mh]at this;omega
 have b1B:b1≠B:=fun h=>by subst h;rw [e1,bJ]at hB1;cases hB1
 have g1:h5 b1=some (.inl ⟨[I 0, .slice none 0 0,I 0],3,false⟩):=l5 _ _ (by rw [e1,bJ])
 simp only [vm,mm,inv5.row]
 refine⟨_,rfl,by omega,?_⟩
 rw [hs5]
 have g1':(h5.row B [I i,s5.v,I (mkD i f 0 []).1, .map (some rs), .map (some rn)] 5) b1=some (.inl ⟨[I 0, .slice none 0 0,I 0],3,false⟩):=by rw [bX _ _ b1B];exact g1
 have l15:h.le (h5.row B [I i,s5.v,I (mkD i f 0 []).1, .map (some rs), .map (some rn)] 5):=dP _ _ (aE l1 hB1) (Hp.le_trans l1 l5)
 refine ad (fun e=>?_) (fun e=>?_)
 ·have e':600<(mkD i f 0 []).2.length:=by simp at e;omega
  simp only [vm,mm,g1']
  exact⟨by omega,_,dP _ _ hb1 l15,k0 (by simp [qe,e'])⟩
 ·have e': ¬600<(mkD i f 0 []).2.length:=by simp at e;omega
  have hbuf:SlC (h5.row B [I i,s5.v,I (mkD i f 0 []).1, .map (some rs), .map (some rn)] 5) s5 3 (cQ (mkD i f 0 []).2):=by
   refine Buf.slc ⟨inv5.buf.1,inv5.buf.2.1,inv5.buf.2.2.imp id ?_⟩ (by omega)
   rintro ⟨c,hc,hcb⟩
   exact⟨c,hc,by rw [bX _ _ (inv5.own _ hc)];exact hcb⟩
  refine Rs hbuf (by omega) fun t6 h6 l6 ho=>⟨_,_,_,rfl,?_⟩
  have g6:=l6 _ _ g1'
  simp only [vm,mm,g6]
  refine⟨by omega,_,Hp.le_refl _,k1 _ (by simp [qe,e']) t6 _ (dP _ _ hb1 (Hp.le_trans l15 l6)) (ho.mono ?_)⟩
  exact Pg _ _ (nv g1') (rp _ l15)
structure Bd where
 v:Int
 ns:List Nd
 r:Int
 ok:Bool
def jH :Bd:=⟨0, [],0,false⟩
def dX (v:Int) (f:Nat->Bool):Bd:=if 0<=v/\v<=13 then(match qe v.toNat f with|none=>jH|some r=>⟨v,r.2,r.1,true⟩)else jH
theorem TW {h:Hp} {s:Sl} {ns:List Nd} (e:SlC h s 3 (cQ ns)) {i:Nat} (hi:i<ns.length):
  ∃b o,s.a=some (Addr.mk b o none)/\Hp.cell h b (o+i*3)=some (I ns[i].v)/\Hp.cell h b (o+i*3+1)=some (I ns[i].lo)/\Hp.cell h b (o+i*3+2)=some (I ns[i].hi):=by
 have hl:=e.2.1
 rw [mh]at hl
 obtain⟨b,o,ha,hc⟩:=SlC.get e (by omega)
 have key: ∀(ns:List Nd) (i:Nat) (hi:i<ns.length),(cQ ns)[i*3]?=some (I ns[i].v)/\(cQ ns)[i*3+1]?=some (I ns[i].lo)/\(cQ ns)[i*3+2]?=some (I ns[i].hi):=by
  intro ns
  induction ns with
  |nil=>intro i hi;simp at hi
  |cons n ns ih=>
   intro i hi
   cases i with
   |zero=>simp [cQ]
   |succ i=>
    have:=ih i (by simpa using hi)
    have hx:cQ (n::ns)=I n.v::I n.lo::I n.hi::cQ ns:=rfl
    rw [hx,show (i+1)*3=i*3+3 by omega]
    simpa using this
 obtain⟨k1,k2,k3⟩:=key ns i hi
 exact⟨b,o,ha,hc _ _ k1,by rw [Nat.add_assoc];exact hc _ _ k2,by rw [Nat.add_assoc];exact hc _ _ k3⟩
theorem N2 {h:Hp} {s:Sl} {ns:List Nd} (e:SlC h s 3 (cQ ns)):s.n=ns.length:=by
 have hl:=e.2.1
 rw [mh]at hl;omega
def vA (h:Hp) (s:Sl) (xs:List Int):Prop:=Buf h s 1 (xs.map I)
theorem vA.len {h:Hp} {s:Sl} {xs:List Int} (e:vA h s xs):s.n=xs.length:=by have:=e.1;simp at this;omega
theorem vA.ints {h:Hp} {s:Sl} {xs:List Int} (e:vA h s xs) (hn:xs.length<=1048576):IntS h s xs:=Buf.slc e (by rw [e.len];omega)
theorem vA.mono {h h':Hp} {s:Sl} {xs:List Int} (l:h.le h') (e:vA h s xs):vA h' s xs:=Buf.mono l e
theorem Pp {h:Hp} {s:Sl} {xs:List Int} {x:Int} {b:Nat} {K:Option Addr->Nat->Nat->Hp->Prop} (hb:vA h s xs) (hl:xs.length<=1048576) (hc:Hp.cell h b 0=some (I x))
  (k: ∀(s':Sl) (h':Hp),vA h' s' (xs++ [x])->(h.offS s).le (h'.offS s')->K s'.a s'.n s'.c h'):cm h s.a s.n s.c (some ⟨b,0,none⟩) 1 1 8 K:=by
 refine dr hb (by omega) (by rw [hb.len];omega) (by rw [hb.len];omega) ⟨b,0,rfl,fun i v hi=>?_⟩ (news:= [I x]) rfl rfl ?_
 ·cases i with
  |zero=>simp at hi;subst hi;exact hc
  |succ i=>simp at hi
 ·intro s' h' hn hbuf hle _
  exact k s' h' (by unfold vA;rw [List.map_append];exact hbuf) hle
structure gN (h h':Hp) (t:Sl) (set:List Int):Prop where
 buf:vA h' t set
 le:h.le (h'.offS t)
theorem gN.keep {h h':Hp} {t:Sl} {set:List Int} (e:gN h h' t set):h.le h':=Hp.le_trans e.le (aU _ _)
theorem gN.app {h h':Hp} {t:Sl} {set:List Int} {x:Int} {b:Nat} {K:Option Addr->Nat->Nat->Hp->Prop} (e:gN h h' t set) (hl:set.length<=1048576) (hb:h' b=none)
  (k: ∀(t':Sl) (h'':Hp),gN h h'' t' (set++ [x])->K t'.a t'.n t'.c h''):cm (h'.row b [I x] 1) t.a t.n t.c (some ⟨b,0,none⟩) 1 1 8 K:=by
 have l:=fK [I x] 1 hb
 refine Pp (e.buf.mono l) hl (rj _ _ _ _ _) fun t' h'' hb' hl'=>k t' h'' ⟨hb',Hp.le_trans (Hp.le_trans e.le (aZ t l)) hl'⟩
theorem gN.own {h h':Hp} {t:Sl} {set:List Int} (e:gN h h' t set) (hl:set.length<=1048576):Own (h'.sub h) t 1 (set.map I):=by
 have hn:=e.buf.len
 refine⟨e.buf.1,by omega,?_⟩
 rcases e.buf.2.2 with ⟨_,h0,_⟩|⟨b,ha,hb⟩
 ·exact .inl h0
 ·refine .inr ⟨b,t.c*1,ha,?_⟩
  rw [kK]
  ·exact hb
  ·refine aE e.le ?_
   simp [Hp.offS,ha,Hp.off,Hp.set]
theorem gT.all {v:Int} {l:List Int} (e:gT v l=true): ∀x∈l,x≠0/\ -v<=x/\x<=v:=fun x hx=>G8.iff.1 (gT.lit e hx)
def CK (set:List Int):List (Value×Value):=set.map fun x=>(I x, .bool true)
theorem Uk (set:List Int) (n:Int): ∃res,gm (Instr.sameNow (.int .i64) (I n)) (CK set) 0=some res/\Option.getD (Option.map (fun p=>p.2) res) (.bool false)= .bool (set.contains n)/\
  xK (CK set) (I n) (.bool true) res=CK (if set.contains n then set else set++ [n]):=by
 unfold CK
 rcases qW (Instr.sameNow (.int .i64) (I n)) (fun x:Int=>I x) (fun _=> .bool true) (fun x=>n==x) set 0 (fun x _=>P2 _ _ _)with ⟨hno,hm⟩|⟨j,hj,hyes,_,hm⟩
 ·have hc:set.contains n=false:=by
   rw [Bool.eq_false_iff];intro h
   have:=hno n (by simpa using h)
   simp at this
  exact⟨_,hm,by rw [hc];rfl,by rw [hc];simp [xK]⟩
 ·have he:n=set[j]:=by simpa using hyes
  have hc:set.contains n=true:=by
   rw [he];simp
  refine⟨_,hm,by rw [hc];rfl,?_⟩
  rw [hc,if_pos rfl]
  simp only [xK,Nat.zero_add]
  apply List.ext_getElem
  ·simp
  ·intro i h1 h2
   rw [List.getElem_set]
   split
   ·rename_i hij;subst hij;simp [he]
   ·rfl
structure ad7 (h h':Hp) (rm:Nat) (set:List Int):Prop where
 map:h' rm=some (.inr (CK set))
 le:h.le h'
 new:h rm=none
theorem ad7.put {h h':Hp} {rm:Nat} {set set':List Int} (e:ad7 h h' rm set):ad7 h (h'.set rm (some (.inr (CK set')))) rm set':=
 ⟨Hp.set_eq ..,ld _ e.le e.new,e.new⟩
structure dJ (h h':Hp) (t:Sl) (xss:List (List Int)):Prop where
 buf: ∃ts:List Sl,Buf h' t 1 (ts.map Sl.v)/\ts.length=xss.length/\ ∀(i:Nat) (h1:i<ts.length) (h2:i<xss.length),IntS h ts[i] xss[i]
 le:h.le (h'.offS t)
theorem dJ.keep {h h':Hp} {t:Sl} {xss:List (List Int)} (e:dJ h h' t xss):h.le h':=Hp.le_trans e.le (aU _ _)
theorem dJ.ints {h h':Hp} {t:Sl} {xss:List (List Int)} (e:dJ h h' t xss) (hl:xss.length<=1048576):IntSS h' t xss:=by
 obtain⟨ts,hb,h1,h2⟩:=e.buf
 have hn:t.n=xss.length:=by have:=hb.1;simp at this;omega
 exact⟨ts,h1,hb.slc (by omega),fun i a b=>(h2 i a b).mono e.keep⟩
theorem dJ.app {h h':Hp} {t u:Sl} {xss:List (List Int)} {x:List Int} {b:Nat} {K:Option Addr->Nat->Nat->Hp->Prop} (e:dJ h h' t xss) (hl:xss.length<=1048576) (hu:IntS h u x) (hb:h' b=none)
  (k: ∀(t':Sl) (h'':Hp),dJ h h'' t' (xss++ [x])->K t'.a t'.n t'.c h''):cm (h'.row b [u.v] 1) t.a t.n t.c (some ⟨b,0,none⟩) 1 1 24 K:=by
 have l:=fK [u.v] 1 hb
 obtain⟨ts,hbuf,h1,h2⟩:=e.buf
 have hn:t.n=xss.length:=by have:=hbuf.1;simp at this;omega
 refine dr (hbuf.mono l) (by omega) (by omega) (by omega) ⟨b,0,rfl,fun i v hi=>?_⟩ (news:= [u.v]) rfl rfl ?_
 ·cases i with
  |zero=>simp at hi;subst hi;exact rj _ _ _ _ _
  |succ i=>simp at hi
 ·intro t' h'' hn' hb' hle _
  refine k t' h'' ⟨⟨ts++ [u],by rw [List.map_append];exact hb',by simp [h1],?_⟩,Hp.le_trans (Hp.le_trans e.le (aZ t l)) hle⟩
  intro i a c
  by_cases hi:i<ts.length
  ·rw [List.getElem_append_left hi,List.getElem_append_left (by omega)];exact h2 i hi (by omega)
  ·have:i=ts.length:=by simp at a;omega
   subst this
   simp only [List.getElem_append_right (Nat.le_refl _),Nat.sub_self,List.getElem_cons_zero]
   simp only [h1,List.getElem_append_right (Nat.le_refl _),Nat.sub_self,List.getElem_cons_zero]
   exact hu
theorem gN.upd {H h':Hp} {bw n:Nat} {cs:List Value} {o:Sl} {xs:List Int} (e:gN (H.row bw cs n) h' o xs) (cs':List Value):gN (H.row bw cs' n) (h'.row bw cs' n) o xs:=by
 have hb:=e.le _ _ (bJ H bw cs n)
 have hne: ∀a,o.a=some a->a.block≠bw:=by
  intro a ha hab
  subst hab
  simp [Hp.offS,ha,Hp.off,Hp.set]at hb
 refine⟨⟨e.buf.1,e.buf.2.1,e.buf.2.2.imp id ?_⟩,?_⟩
 ·rintro ⟨c,hc,hcb⟩
  exact⟨c,hc,by rw [bX _ _ (hne _ hc)];exact hcb⟩
 ·intro c x hx
  rw [gE (fun a ha hac=>?_)]
  ·by_cases hc:c=bw
   ·subst hc;rw [bJ]at hx⊢;exact hx
   ·rw [bX _ _ hc]at hx⊢
    have:=e.le c x (by rw [bX _ _ hc];exact hx)
    exact aU _ _ _ _ this
  ·by_cases hc:c=bw
   ·exact hne a ha (hac.trans hc)
   ·rw [bX _ _ hc]at hx
    have:=e.le c x (by rw [bX _ _ hc];exact hx)
    subst hac
    simp [Hp.offS,ha,Hp.off,Hp.set]at this
def xg (S:List Int) (l:List Int):Prop:=
 (∃x∈l,x∈S)\/ ∃x∈l,∃y∈l,x≠y/\(x∉S/\ -x∉S)/\(y∉S/\ -y∉S)
def Se (S:List Int):Prop:= ∀x∈S, -x∉S
def WfL (v:Int) (l:List Int):Prop:= ∀x∈l,x≠0/\ -v<=x/\x<=v
def WfC (v:Int) (c:List (List Int)):Prop:= ∀l∈c,WfL v l
theorem E7 (set:List Int): ∀(l:List Int) (left:Int),(∀x∈l,x≠0)->(left≠0->left∉set/\ -left∉set)->
  (iq set l left=(0,false)/\((∃x∈l,x∈set)\/ ∃x∈l,∃y∈left::l,y≠0/\x≠y/\(x∉set/\ -x∉set)/\(y∉set/\ -y∉set)))\/
  ((iq set l left).2=((iq set l left).1==0)/\(left≠0->(iq set l left).1=left)/\ ∀x∈l,x=(iq set l left).1\/ -x∈set):=by
 intro l
 induction l with
 |nil=>intro left _ _;exact .inr ⟨rfl,fun _=>rfl,by simp⟩
 |cons x r ih=>
  intro left hx ho
  have hr:=fun y hy=>hx y (List.mem_cons_of_mem _ hy)
  have hx0:=hx x (by simp)
  simp only [iq]
  by_cases h1:set.contains x=true
  ·rw [if_pos h1];exact .inl ⟨rfl, .inl ⟨x,by simp,by simpa using h1⟩⟩
  rw [if_neg h1]
  by_cases h2:set.contains (-x)=true
  ·rw [if_pos h2]
   rcases ih left hr ho with ⟨e,h⟩|⟨e,h,h'⟩
   ·refine .inl ⟨e,?_⟩
    rcases h with ⟨z,hz,hs⟩|⟨z,hz,y,hy,h⟩
    ·exact .inl ⟨z,by simp [hz],hs⟩
    ·refine .inr ⟨z,by simp [hz],y,?_,h⟩
     rcases List.mem_cons.1 hy with rfl|hy
     ·simp
     ·simp [hy]
   ·refine .inr ⟨e,h,?_⟩
    intro z hz
    rcases List.mem_cons.1 hz with rfl|hz
    ·exact .inr (by simpa using h2)
    ·exact h' z hz
  rw [if_neg h2]
  have hxo:x∉set/\ -x∉set:=⟨by simpa using h1,by simpa using h2⟩
  by_cases h3:(left !=0&&left !=x)=true
  ·rw [if_pos h3]
   simp at h3
   exact .inl ⟨rfl, .inr ⟨x,by simp,left,by simp,h3.1,fun e=>h3.2 e.symm,hxo,ho h3.1⟩⟩
  rw [if_neg h3]
  have hl:left≠0->left=x:=by simpa using h3
  rcases ih x hr (fun _=>hxo)with ⟨e,h⟩|⟨e,h,h'⟩
  ·refine .inl ⟨e,?_⟩
   rcases h with ⟨z,hz,hs⟩|⟨z,hz,y,hy,h⟩
   ·exact .inl ⟨z,by simp [hz],hs⟩
   ·exact .inr ⟨z,by simp [hz],y,List.mem_cons_of_mem _ hy,h⟩
  ·refine .inr ⟨e,fun h0=>?_,?_⟩
   ·rw [h hx0,hl h0]
   ·intro z hz
    rcases List.mem_cons.1 hz with rfl|hz
    ·exact .inl (h hx0).symm
    ·exact h' z hz
theorem VA {set S l:List Int} (hs:set⊆S) (hc:Se S) (hl: ∀x∈l,x≠0) (st:xg S l):
  (iq set l 0).2=false/\((iq set l 0).1≠0->(iq set l 0).1∈S):=by
 rcases E7 set l 0 hl (fun h=>absurd rfl h)with ⟨e,_⟩|⟨e,_,h⟩
 ·rw [e];exact⟨rfl,fun h=>absurd rfl h⟩
 ·obtain⟨x,hx,hn,hS⟩: ∃x∈l,x=(iq set l 0).1/\x∈S:=by
   rcases st with ⟨x,hx,hS⟩|⟨x,hx,y,hy,hne,hxo,hyo⟩
   ·rcases h x hx with h1|h1
    ·exact⟨x,hx,h1,hS⟩
    ·exact absurd (hs h1) (hc x hS)
   ·rcases h x hx with h1|h1
    ·rcases h y hy with h2|h2
     ·exact absurd (h1.trans h2.symm) hne
     ·exact absurd (hs h2) hyo.2
    ·exact absurd (hs h1) hxo.2
  rw [e,<-hn]
  exact⟨by simpa using hl x hx,fun _=>hS⟩
theorem NT {set l:List Int} (hl: ∀x∈l,x≠0) (h1:(iq set l 0).2=false) (h2:(iq set l 0).1=0):xg set l:=by
 rcases E7 set l 0 hl (fun h=>absurd rfl h)with ⟨e,h⟩|⟨e,_,h⟩
 ·refine h.imp id ?_
  rintro ⟨x,hx,y,hy,hy0,h⟩
  rcases List.mem_cons.1 hy with rfl|hy
  ·exact absurd rfl hy0
  ·exact⟨x,hx,y,hy,h⟩
 ·rw [h1,h2]at e;simp at e
theorem Mp {S:List Int} (hc:Se S): ∀(cls:List (List Int)) (set:List Int) (more:Bool),set⊆S->(∀l∈cls,(∀x∈l,x≠0)/\xg S l)->
  ∃set' more',nc cls set more=some (set',more')/\set'⊆S:=by
 intro cls
 induction cls with
 |nil=>intro set more hs _;exact⟨set,more,rfl,hs⟩
 |cons l r ih=>
  intro set more hs hl
  have h:=VA hs hc (hl l (by simp)).1 (hl l (by simp)).2
  have hr:=fun l' h'=>hl l' (List.mem_cons_of_mem _ h')
  simp only [nc,h.1,Bool.false_eq_true,if_false]
  split
  ·rename_i hne
   refine ih _ _ ?_ hr
   intro x hx
   rcases List.mem_append.1 hx with hx|hx
   ·exact hs hx
   ·simp only [List.mem_singleton]at hx;subst hx;exact h.2 (by simpa using hne)
  ·exact ih _ _ hs hr
theorem QG : ∀(cls:List (List Int)) (set:List Int) (more:Bool) (set':List Int) (more':Bool),nc cls set more=some (set',more')->set⊆set':=by
 intro cls
 induction cls with
 |nil=>intro set more set' more' h;simp only [nc,Option.some.injEq,Prod.mk.injEq]at h;rw [h.1];exact fun x hx=>hx
 |cons l r ih=>
  intro set more set' more' h
  simp only [nc]at h
  split at h
  ·cases h
  ·split at h
   ·exact fun x hx=>ih _ _ _ _ h (List.mem_append_left _ hx)
   ·exact ih _ _ _ _ h
theorem CJ : ∀(cls:List (List Int)) (set:List Int) (more:Bool) (set':List Int),(∀l∈cls,∀x∈l,x≠0)->nc cls set more=some (set',false)->
  more=false/\set'=set/\ ∀l∈cls,xg set l:=by
 intro cls
 induction cls with
 |nil=>intro set more set' _ h;simp only [nc,Option.some.injEq,Prod.mk.injEq]at h;exact⟨h.2,h.1.symm,by simp⟩
 |cons l r ih=>
  intro set more set' hl h
  have hr:=fun l' h'=>hl l' (List.mem_cons_of_mem _ h')
  simp only [nc]at h
  split at h
  ·cases h
  ·rename_i h1
   split at h
   ·have:=(ih _ _ _ hr h).1;cases this
   ·rename_i h2
    obtain⟨e1,e2,e3⟩:=ih _ _ _ hr h
    refine⟨e1,e2,?_⟩
    intro l' h'
    rcases List.mem_cons.1 h' with rfl|h'
    ·exact NT (hl _ (by simp)) (by simpa using h1) (by simpa using h2)
    ·exact e3 l' h'
theorem xv {cls:List (List Int)} {set:List Int} {v:Int} (hv0:0<=v) (hv:v<=10) (hc:WfC v cls) (k:qg v set):
  ln cls set=match nc cls set false with|none=>none|some (set',more)=>if more then ln cls set' else some set':=by
 rw [ln]
 cases hp:nc cls set false with
 |none=>rfl
 |some p=>
  obtain⟨set',more⟩:=p
  obtain⟨k',hl,hm⟩:=qX cls set false k hc _ _ hp
  cases more with
  |false=>rfl
  |true=>
   have h1:set.length<set'.length:=by
    rcases hm rfl with h|h
    ·cases h
    ·exact h
   have h2:=k'.len hv hv0
   simp [h1,h2]
theorem OY {S:List Int} (hS:Se S) {cls:List (List Int)} {v:Int} (hv0:0<=v) (hv:v<=10) (hc:WfC v cls) (hst: ∀l∈cls,xg S l):
  ∀(n:Nat) (set:List Int),20-set.length<=n->qg v set->set⊆S-> ∃set',ln cls set=some set'/\set'⊆S:=by
 intro n
 induction n with
 |zero=>
  intro set hn k hs
  obtain⟨set',more',hp,hs'⟩:=Mp hS cls set false hs (fun l h=>⟨fun x hx=>(hc l h x hx).1,hst l h⟩)
  obtain⟨k',hl,hm⟩:=qX cls set false k hc _ _ hp
  have h2:=k'.len hv hv0
  rw [xv hv0 hv hc k,hp]
  cases more' with
  |false=>exact⟨set',rfl,hs'⟩
  |true=>
   rcases hm rfl with h|h
   ·cases h
   ·omega
 |succ n ih=>
  intro set hn k hs
  obtain⟨set',more',hp,hs'⟩:=Mp hS cls set false hs (fun l h=>⟨fun x hx=>(hc l h x hx).1,hst l h⟩)
  obtain⟨k',hl,hm⟩:=qX cls set false k hc _ _ hp
  rw [xv hv0 hv hc k,hp]
  cases more' with
  |false=>exact⟨set',rfl,hs'⟩
  |true=>
   rcases hm rfl with h|h
   ·cases h
   ·exact ih set' (by omega) k' hs'
theorem H6 {cls:List (List Int)} {v:Int} (hv0:0<=v) (hv:v<=10) (hc:WfC v cls):
  ∀(n:Nat) (set set':List Int),20-set.length<=n->qg v set->ln cls set=some set'->set⊆set'/\qg v set'/\ ∀l∈cls,xg set' l:=by
 intro n
 induction n with
 |zero=>
  intro set set' hn k h
  rw [xv hv0 hv hc k]at h
  cases hp:nc cls set false with
  |none=>rw [hp]at h;cases h
  |some p=>
   obtain⟨s,more⟩:=p
   rw [hp]at h
   obtain⟨k',hl,hm⟩:=qX cls set false k hc _ _ hp
   have h2:=k'.len hv hv0
   cases more with
   |true=>
    rcases hm rfl with h|h
    ·cases h
    ·omega
   |false=>
    simp only [Bool.false_eq_true,if_false,Option.some.injEq]at h
    subst h
    have:=CJ cls set false s (fun l h x hx=>(hc l h x hx).1) hp
    rw [this.2.1]
    exact⟨fun x hx=>hx,k,this.2.2⟩
 |succ n ih=>
  intro set set' hn k h
  rw [xv hv0 hv hc k]at h
  cases hp:nc cls set false with
  |none=>rw [hp]at h;cases h
  |some p=>
   obtain⟨s,more⟩:=p
   rw [hp]at h
   obtain⟨k',hl,hm⟩:=qX cls set false k hc _ _ hp
   cases more with
   |true=>
    rcases hm rfl with h'|h'
    ·cases h'
    ·simp only [if_true]at h
     obtain⟨a,b,c⟩:=ih s set' (by omega) k' h
     exact⟨fun x hx=>a (QG _ _ _ _ _ hp hx),b,c⟩
   |false=>
    simp only [Bool.false_eq_true,if_false,Option.some.injEq]at h
    subst h
    have:=CJ cls set false s (fun l h x hx=>(hc l h x hx).1) hp
    rw [this.2.1]
    exact⟨fun x hx=>hx,k,this.2.2⟩
theorem Rx {S:List Int} (hS:Se S): ∀(g set:List Int),g⊆S->set⊆S-> ∃set',t7 g set=some set'/\set'⊆S:=by
 intro g
 induction g with
 |nil=>intro set _ hs;exact⟨set,rfl,hs⟩
 |cons x r ih=>
  intro set hg hs
  have hx:x∈S:=hg (by simp)
  have hr:r⊆S:=fun y hy=>hg (List.mem_cons_of_mem _ hy)
  have hn: ¬set.contains (-x)=true:=fun h=>hS x hx (hs (by simpa using h))
  simp only [t7,if_neg hn]
  refine ih _ hr ?_
  split
  ·exact hs
  ·intro y hy
   rcases List.mem_append.1 hy with hy|hy
   ·exact hs hy
   ·simp only [List.mem_singleton]at hy;subst hy;exact hx
theorem SA : ∀(g set set':List Int),t7 g set=some set'->set⊆set'/\g⊆set':=by
 intro g
 induction g with
 |nil=>intro set set' h;simp only [t7,Option.some.injEq]at h;subst h;exact⟨fun x hx=>hx,by simp⟩
 |cons x r ih=>
  intro set set' h
  simp only [t7]at h
  split at h
  ·cases h
  ·obtain⟨h1,h2⟩:=ih _ _ h
   split at h1
   ·rename_i hx
    refine⟨h1,?_⟩
    intro y hy
    rcases List.mem_cons.1 hy with rfl|hy
    ·exact h1 (by simpa using hx)
    ·exact h2 hy
   ·refine⟨fun y hy=>h1 (List.mem_append_left _ hy),?_⟩
    intro y hy
    rcases List.mem_cons.1 hy with rfl|hy
    ·exact h1 (by simp)
    ·exact h2 hy
section
variable {cls :List (List Int)} {given:List Int} {v:Int}
theorem MB (hv0:0<=v) (hv:v<=10) (hc:WfC v cls) (hg:WfL v given) {S:List Int} (hS:Se S) (hgS:given⊆S) (hst: ∀l∈cls,xg S l):
  ∃set,kG cls given=some set/\set⊆S:=by
 obtain⟨s,h1,h2⟩:=Rx hS given [] hgS (by simp)
 obtain⟨s',h3,h4⟩:=OY hS hv0 hv hc hst _ s (Nat.le_refl _) (CC given [] (LS v) hg s h1) h2
 exact⟨s',by rw [kG,h1];exact h3,h4⟩
theorem xZ (hv0:0<=v) (hv:v<=10) (hc:WfC v cls) (hg:WfL v given) {set:List Int} (h:kG cls given=some set):
  Se set/\given⊆set/\(∀l∈cls,xg set l)/\qg v set:=by
 rw [kG]at h
 cases h1:t7 given []with
 |none=>rw [h1]at h;cases h
 |some s=>
  rw [h1]at h
  have k:=CC given [] (LS v) hg s h1
  obtain⟨a,b,c⟩:=H6 hv0 hv hc _ s set (Nat.le_refl _) k h
  exact⟨b.cons,fun x hx=>a ((SA _ _ _ h1).2 hx),c,b⟩
theorem BG (hv0:0<=v) (hv:v<=10) {cls':List (List Int)} {given':List Int} (hc:WfC v cls') (hg:WfL v given') (h1:cls⊆cls') (h2:given⊆given')
  (h:kG cls given=none):kG cls' given'=none:=by
 cases h':kG cls' given' with
 |none=>rfl
 |some set=>
  obtain⟨a,b,c,_⟩:=xZ hv0 hv hc hg h'
  obtain⟨s,hs,_⟩:=MB hv0 hv (fun l hl=>hc l (h1 hl)) (fun x hx=>hg x (h2 hx)) a (fun x hx=>b (h2 hx)) (fun l hl=>c l (h1 hl))
  rw [hs]at h;cases h
end
def jf (cls:List (List Int)) (p:List (List Int)):Prop:= ∀(i:Nat) (h:i<p.length),kG (cls++p.take i) (p[i].map (- ·))=none
theorem Gz {v:Int} {l:List Int} (h:WfL v l):WfL v (l.map (- ·)):=by
 intro x hx
 obtain⟨y,hy,rfl⟩:=List.mem_map.1 hx
 have:=h y hy
 omega
theorem xO {v:Int} {a b:List (List Int)} (ha:WfC v a) (hb:WfC v b):WfC v (a++b):=by
 intro l hl
 rcases List.mem_append.1 hl with h|h
 ·exact ha l h
 ·exact hb l h
theorem Pj {v:Int} {a:List (List Int)} (ha:WfC v a) (n:Nat):WfC v (a.take n):=fun l hl=>ha l (List.mem_of_mem_take hl)
theorem jf.mono {v:Int} (hv0:0<=v) (hv:v<=10) {cls cls' p:List (List Int)} (hc:WfC v cls') (hp:WfC v p) (hs:cls⊆cls') (h:jf cls p):jf cls' p:=by
 intro i hi
 refine BG hv0 hv (xO hc (Pj hp i)) (Gz (hp _ (List.getElem_mem hi))) ?_ (fun x hx=>hx) (h i hi)
 intro l hl
 rcases List.mem_append.1 hl with h|h
 ·exact List.mem_append_left _ (hs h)
 ·exact List.mem_append_right _ h
theorem jf.snoc {cls p:List (List Int)} {l:List Int} (h:jf cls p) (hl:kG (cls++p) (l.map (- ·))=none):jf cls (p++ [l]):=by
 intro i hi
 by_cases hlt:i<p.length
 ·rw [List.getElem_append_left hlt,List.take_append_of_le_length (by omega)]
  exact h i hlt
 ·have:i=p.length:=by simp at hi;omega
  subst this
  simp only [List.getElem_append_right (Nat.le_refl _),Nat.sub_self,List.getElem_cons_zero]
  rw [List.take_left' rfl];exact hl
theorem jf.pre {cls p q:List (List Int)} (h:jf cls p) (hq:q<+:p):jf cls q:=by
 obtain⟨r,rfl⟩:=hq
 intro i hi
 have:=h i (by simp;omega)
 rwa [List.getElem_append_left hi,List.take_append_of_le_length (by omega)]at this
def xC (B:List Int):Prop:= ∀(i:Nat) (h:i<B.length),B[i]=(i:Int)+1\/B[i]= -((i:Int)+1)
theorem xC.snoc {B:List Int} (h:xC B) {x:Int} (hx:x=(B.length:Int)+1\/x= -((B.length:Int)+1)):xC (B++ [x]):=by
 intro i hi
 by_cases hlt:i<B.length
 ·rw [List.getElem_append_left hlt];exact h i hlt
 ·have:i=B.length:=by simp at hi;omega
  subst this
  simp only [List.getElem_append_right (Nat.le_refl _),Nat.sub_self,List.getElem_cons_zero]
  exact hx
def db :Nat->(Nat->Bool)->Nat
 |0,_=>0
 |n+1,f=>db n f+(if f n then 2^n else 0)
theorem tj (n:Nat) (f:Nat->Bool):db n f<2^n:=by
 induction n with
 |zero=>simp [db]
 |succ n ih=>simp only [db,Nat.pow_succ];split<;>omega
theorem tO (n:Nat) (f:Nat->Bool): ∀i,i<n->(db n f).testBit i=f i:=by
 induction n with
 |zero=>intro i h;omega
 |succ n ih=>
  intro i hi
  have hl:=tj n f
  simp only [db]
  by_cases h:i=n
  ·subst h
   cases hf:f i with
   |true=>rw [if_pos rfl,Nat.add_comm,Nat.testBit_two_pow_add_eq,Nat.testBit_lt_two_pow hl];rfl
   |false=>simp [Nat.testBit_lt_two_pow hl]
  ·cases hf:f n with
   |true=>rw [if_pos rfl,Nat.add_comm,Nat.testBit_two_pow_add_gt (by omega)];exact ih i (by omega)
   |false=>simp only [Bool.false_eq_true,if_false,Nat.add_zero];exact ih i (by omega)
structure MI (h:Hp) (K:Nat) (vars:Nat) (tb s:Sl) (ns:List Nd):Prop where
 row:h K=some (.inl ⟨[I vars,tb.v,s.v],3,false⟩)
 buf:Buf h s 3 (cQ ns)
 own: ∀a,s.a=some a->a.block≠K
theorem MI.mono {h h':Hp} {K vars:Nat} {tb s:Sl} {ns:List Nd} (l:h.le h') (e:MI h K vars tb s ns):MI h' K vars tb s ns:=⟨l _ _ e.row,e.buf.mono l,e.own⟩
theorem MI.blkB {h:Hp} {K vars:Nat} {tb s:Sl} {ns:List Nd} (e:MI h K vars tb s ns): ∀b∈ [K]++s.blk,∃x,h b=some x:=by
 intro b hb
 simp only [List.cons_append,List.nil_append,List.mem_cons]at hb
 rcases hb with rfl|hb
 ·exact⟨_,e.row⟩
 ·revert b hb
  refine xD.2 fun a ha=>?_
  rcases e.buf.2.2 with ⟨h0,_⟩|⟨c,hc,hcb⟩
  ·rw [h0]at ha;cases ha
  ·rw [hc]at ha;cases ha;exact⟨_,hcb⟩
theorem MI.len {h:Hp} {K vars:Nat} {tb s:Sl} {ns:List Nd} (e:MI h K vars tb s ns):s.n=ns.length:=by
 have:=e.buf.1;rw [mh]at this;omega
def eJ (h:Hp) (t:Sl) (n:Nat) (T:Nat->Bool):Prop:=rf h t ((List.range n).map T)
theorem eJ.mono {h h':Hp} {t:Sl} {n:Nat} {T:Nat->Bool} (l:h.le h') (e:eJ h t n T):eJ h' t n T:=rf.mono l e
theorem tD {h:Hp} {c:Bool} {R:Value->Hp->Prop} (k:R (I (if c then 1 else 0)) h):ko #[.bool c] h R:=by
 apply NQ
 refine uf_ ?_
 cases c<;>exact k
theorem VX {K vars:Nat} (hvars:vars<=13) {tb:Sl} {T:Nat->Bool}: ∀(n v fixed:Nat) (h:Hp) (s:Sl) (ns:List Nd) (g:Hp) (R:Value->Hp->Prop),
  MI h K vars tb s ns->g.le h->g K=none->(∀a,s.a=some a->g a.block=none)->eJ g tb (2^vars) T->v+n=vars->fixed<2^v->ns.length+2^n<=1048576->
  (∀s' h',MI h' K vars tb s' (mkD n (fun i=>T (fixed+i*2^v)) v ns).2->g.le h'->(∀a,s'.a=some a->g a.block=none)->R (I (mkD n (fun i=>T (fixed+i*2^v)) v ns).1) h')->
  ik #[.pointer (some ⟨K,0,none⟩),I v,I fixed] h R:=by
 intro n
 induction n with
 |zero=>
  intro v fixed h s ns g R inv hg gK gs ht hv hfix hlen k
  apply sg
  refine uf_ ?_
  have hvv:v=vars:=by omega
  subst hvv
  obtain⟨b,o,ha,hc⟩:=(ht.mono hg).at (i:=fixed) (by simp;exact hfix)
  have hl:=ht.len
  simp only [List.length_map,List.length_range]at hl
  simp only [vm,av inv.row,mm]
  refine aL (by simp) ?_
  simp only [vm,mm,ha,hc,hl]
  have hfi:((fixed:Nat):Int)<((2^v:Nat):Int):=by exact_mod_cast hfix
  refine⟨hfi,tD ⟨_,rfl,?_⟩⟩
  have:=k s h inv hg gs
  simp only [mkD,Nat.zero_mul,Nat.add_zero]at this
  have e0:(((List.range (2^v)).map T)[fixed]'(by simp;exact hfix))=T fixed:=by simp
  rw [e0]
  cases hT:T fixed<;>simpa [hT] using this
 |succ n ih=>
  intro v fixed h s ns g R inv hg gK gs ht hv hfix hlen k
  apply sg
  refine uf_ ?_
  have hp:2^(n+1)=2*2^n:=by rw [Nat.pow_succ];omega
  have hpv:2^(v+1)=2*2^v:=by rw [Nat.pow_succ];omega
  have hp1:0<2^n:=Nat.pow_pos (by omega)
  have hv13:2^v<=8192:=by
   have:=Nat.pow_le_pow_right (n:=2) (by omega) (show v<=13 by omega)
   simpa using this
  simp only [vm,av inv.row,mm]
  refine aA (by simp;omega) ?_
  rw [aw (by omega)]
  have elo:(fun i=>T (fixed+2*i*2^v))=fun i=>T (fixed+i*2^(v+1)):=by funext i;rw [hpv];congr 2;rw [Nat.mul_comm 2 i,Nat.mul_assoc]
  have ehi:(fun i=>T (fixed+(2*i+1)*2^v))=fun i=>T ((fixed+2^v)+i*2^(v+1)):=by
   funext i;rw [hpv];congr 1;rw [Nat.add_mul,Nat.one_mul,Nat.mul_comm 2 i,Nat.mul_assoc];omega
  have hmk:mkD (n+1) (fun i=>T (fixed+i*2^v)) v ns=
    (let r1:=mkD n (fun i=>T (fixed+i*2^(v+1))) (v+1) ns
     let r2:=mkD n (fun i=>T ((fixed+2^v)+i*2^(v+1))) (v+1) r1.2
     if r1.1=r2.1 then r2 else jp ⟨v,r1.1,r2.1⟩ r2.2):=by
   rw [<-elo,<-ehi];rfl
  have len1:=uN n (fun i=>T (fixed+i*2^(v+1))) (v+1) ns
  refine ih (v+1) fixed h s ns g _ inv hg gK gs ht (by omega) (by omega) (by omega) ?_
  intro s3 h3 inv3 lg3 gs3
  refine⟨_,rfl,?_⟩
  rw [cR (by omega),if_neg (by omega),ck (by omega)]
  have w1:W ((fixed:Int)+((2^v:Nat):Int))=((fixed+2^v:Nat):Int):=by rw [bQ (by omega) (by omega)];omega
  rw [w1]
  have len2:=uN n (fun i=>T ((fixed+2^v)+i*2^(v+1))) (v+1) (mkD n (fun i=>T (fixed+i*2^(v+1))) (v+1) ns).2
  refine ih (v+1) (fixed+2^v) h3 s3 _ g _ inv3 lg3 gK gs3 ht (by omega) (by omega) (by omega) ?_
  intro s4 h4 inv4 lg4 gs4
  refine⟨_,rfl,?_⟩
  simp only at hmk
  generalize mkD n (fun i=>T (fixed+i*2^(v+1))) (v+1) ns=r1 at*
  generalize mkD n (fun i=>T ((fixed+2^v)+i*2^(v+1))) (v+1) r1.2=r2 at*
  refine ad (fun e=>?_) (fun e=>?_)
  ·have e':r1.1=r2.1:=by simp at e;omega
   rw [if_pos e']at hmk
   rw [hmk]at k
   rw [e']
   exact k s4 h4 inv4 lg4 gs4
  have e': ¬r1.1=r2.1:=by simp at e;omega
  rw [if_neg e']at hmk
  rw [hmk]at k
  have hnlen:r2.2.length<=1048576:=by omega
  intro b5 hb5
  have nK:=fresh_ne hb5 inv4.row
  have l5:=fK [I v,I r1.1,I r2.1] 3 hb5
  have hlen4:=inv4.len
  have hsl:SlC h4 s4 3 (cQ r2.2):=inv4.buf.slc (by omega)
  refine⟨by omega,?_⟩
  refine ar r2.2.length (fun i vs h'=>vs= [.pointer (some ⟨K,0,none⟩), .pointer (some ⟨b5,0,none⟩),I i]/\h'=h4.row b5 [I v,I r1.1,I r2.1] 3/\ ∀j (hj:j<r2.2.length),j<i->r2.2[j]≠⟨v,r1.1,r2.1⟩) ⟨rfl,rfl,fun j _ h=>by omega⟩ ?_
  rintro i _ _ next hi ⟨rfl,rfl,hp⟩ hn
  refine⟨_,_,_,_,rfl,?_⟩
  simp only [vm,mm,nK,ne_eq,not_false_eq_true,av inv4.row]
  by_cases hlt:i<r2.2.length
  ·obtain⟨c,o,ha,c0,c1,c2⟩:=TW (hsl.mono l5) hlt
   refine aL (by simp [hlen4,hlt]) ?_
   simp only [vm,mm,nK,ne_eq,not_false_eq_true,av inv4.row,hlen4,ha,c0,c1,c2]
   refine⟨by omega,ad (fun e=>?_) (fun e=>?_)⟩
   ·have he:r2.2[i]=⟨v,r1.1,r2.1⟩:=by
     have:r2.2[i].v=v/\r2.2[i].lo=r1.1/\r2.2[i].hi=r2.1:=by simp at e;omega
     rcases hh:r2.2[i]with ⟨a,b,c⟩
     rw [hh]at this
     obtain⟨rfl,rfl,rfl⟩:=this;rfl
    have hput:jp ⟨v,r1.1,r2.1⟩ r2.2=(i+2,r2.2):=by
     have:r2.2.idxOf? ⟨v,r1.1,r2.1⟩=some i:=by
      simp only [List.idxOf?,List.findIdx?_eq_some_iff_getElem]
      refine⟨hlt,by simp [he],fun j hj=>?_⟩
      have:=hp j (by omega) hj
      simpa using this
     simp [jp,this]
    rw [hput]at k
    have:=k s4 _ (inv4.mono l5) (Hp.le_trans lg4 l5) gs4
    rw [bQ (by omega) (by omega)]
    exact this
   ·rw [aw (by omega)]
    refine hn hlt _ _ ⟨rfl,rfl,fun j hj hji=>?_⟩
    by_cases hjx:j=i
    ·subst hjx
     intro he
     rw [he]at e
     simp at e
    ·exact hp j hj (by omega)
  ·have:i=r2.2.length:=by omega
   subst this
   have hput:jp ⟨v,r1.1,r2.1⟩ r2.2=(r2.2.length+2,r2.2++ [⟨v,r1.1,r2.1⟩]):=by
    have:r2.2.idxOf? ⟨v,r1.1,r2.1⟩=none:=by
     simp only [List.idxOf?,List.findIdx?_eq_none_iff]
     intro x hx
     obtain⟨j,hj,rfl⟩:=List.getElem_of_mem hx
     have:=hp j hj hj
     simpa using this
    simp [jp,this]
   rw [hput]at k
   refine aA (by simp [hlen4]) ?_
   rintro b6 ⟨n65,hb6⟩
   have nK6:=fresh_ne hb6 inv4.row
   have l6:=dP [I v,I r1.1,I r2.1] 3 (show (h4.row b5 [I v,I r1.1,I r2.1] 3) b6=none by rw [zf];exact⟨n65,hb6⟩) (Hp.le_refl _)
   have hH:h4.le ((h4.row b5 [I v,I r1.1,I r2.1] 3).row b6 [I v,I r1.1,I r2.1] 3):=Hp.le_trans l5 l6
   refine⟨by rw [bX _ _ nK6,bX _ _ nK],?_⟩
   refine dr ((inv4.buf.mono l5).mono l6) (by omega) (by omega) (by omega) ⟨b6,0,rfl,au (bJ ..)⟩ (by simp) rfl ?_
   intro s7 h7 hn7 hb7 hl7 _
   obtain⟨f7K,o7K⟩:=la hl7 (hH _ _ inv4.row) inv4.own
   simp only [vm,mm,f7K]
   refine⟨by omega,?_⟩
   have e7:W ((s7.n:Int)+1)=((r2.2.length+2:Nat):Int):=by rw [hn7,hlen4,bQ (by omega) (by omega)];omega
   rw [e7]
   refine k s7 _ ⟨bJ ..,?_,o7K⟩ ?_ ?_
   ·rw [zr]
    refine⟨hb7.1,hb7.2.1,hb7.2.2.imp id ?_⟩
    rintro ⟨c,hc,hcb⟩
    exact⟨c,hc,by rw [bX _ _ (o7K _ hc)];exact hcb⟩
   ·intro c x hcx
    have hcB:c≠K:=fun h=>by rw [h,gK]at hcx;cases hcx
    rw [bX _ _ hcB]
    exact(la hl7 (hH _ _ (lg4 _ _ hcx)) (fun a ha hac=>by rw [<-hac,gs4 a ha]at hcx;cases hcx)).1
   ·intro a ha
    cases hg7:g a.block with
    |none=>rfl
    |some x=>
     exact absurd rfl ((la hl7 (hH _ _ (lg4 _ _ hg7)) (fun a' ha' hac=>by rw [<-hac,gs4 a' ha']at hg7;cases hg7)).2 a ha)
theorem Wm {h:Hp} {t:Sl} {n:Nat} {T:Nat->Bool} {R:Value->Hp->Prop} (hn:n<=13) (ht:eJ h t (2^n) T)
  (k: ∀s h',h.le h'->Own (h'.sub h) s 3 (cQ (dX n T).ns)->R (.tuple #[.agg #[I (dX n T).v,Sl.v s,I (dX n T).r], .bool (dX n T).ok]) h'):zz #[I n,t.v] h R:=by
 apply Qg
 refine uf_ ?_
 intro b4 hb4
 simp only [vm,mm]
 rintro b7 ⟨n74,hb7⟩
 have n47:=n74.symm
 have l4:=fK [I 0, .slice none 0 0,I 0] 3 hb4
 have hg7:(h.row b4 [I 0, .slice none 0 0,I 0] 3) b7=none:=by rw [zf];exact⟨n74,hb7⟩
 have l7:=fK [I n,t.v, .slice none 0 0] 3 hg7
 have h2:2^n<=8192:=by
  have:=Nat.pow_le_pow_right (n:=2) (by omega) hn
  simpa using this
 have hml:=uN n T 0 []
 simp only [List.length_nil]at hml
 have hT:(fun i=>T (0+i*2^0))=T:=by funext i;congr 1;omega
 refine VX (K:=b7) (vars:=n) (T:=T) hn n 0 0 _ ⟨none,0,0⟩ [] (h.row b4 [I 0, .slice none 0 0,I 0] 3) _ ⟨bJ ..,eP _ _,fun a ha=>by cases ha⟩ l7 hg7 (fun a ha=>by cases ha) (ht.mono l4) (by omega) (by omega) (by simp;omega) ?_
 intro s' h' inv lg gs
 rw [hT]at inv⊢
 have f4:=lg _ _ (bJ ..)
 have hsn:=inv.len
 refine⟨_,rfl,?_⟩
 simp only [vm,mm,av inv.row,f4,hsn]
 have hto:dX n T=if 600<(mkD n T 0 []).2.length then jH else⟨n,(mkD n T 0 []).2,(mkD n T 0 []).1,true⟩:=by
  unfold dX qe
  rw [if_pos (by omega),Int.toNat_natCast]
  split
  ·rename_i h;split at h
   ·rename_i h';rw [if_pos h']
   ·cases h
  ·rename_i r h;split at h
   ·cases h
   ·rename_i h';cases h;rw [if_neg h']
 rw [hto]at k
 refine ad (fun e=>?_) (fun e=>?_)
 ·have e':600<(mkD n T 0 []).2.length:=by simp at e;omega
  rw [if_pos e']at k
  exact⟨by omega,k ⟨none,0,0⟩ _ (dP _ _ hb4 (Hp.le_trans l4 lg)) (S7 _ _)⟩
 ·have e': ¬600<(mkD n T 0 []).2.length:=by simp at e;omega
  rw [if_neg e']at k
  refine⟨by omega,k s' _ (dP _ _ hb4 (Hp.le_trans l4 lg)) (Buf.own ⟨inv.buf.1,inv.buf.2.1,inv.buf.2.2.imp id ?_⟩ (by omega))⟩
  rintro ⟨c,hc,hcb⟩
  have hgc:=gs _ hc
  rw [zf]at hgc
  exact⟨c,hc,by rw [kK hgc.2,bX _ _ hgc.1];exact hcb⟩
structure fJ (g h:Hp) (bw:Nat) (v:Int) (t:Sl) (xss:List (List Int)):Prop where
 buf: ∃ts:List Sl,Buf h t 1 (ts.map Sl.v)/\ts.length=xss.length/\ ∀(i:Nat) (h1:i<ts.length) (h2:i<xss.length),IntS g ts[i] xss[i]
 le:g.le (h.offS t)
 row:h bw=some (.inl ⟨[I v,t.v],2,false⟩)
 new:g bw=none
 own: ∀a,t.a=some a->a.block≠bw
theorem cX {h:Hp} {t:Sl} {c:Nat} {x:Blk} (e:(h.offS t) c=some x):h c=some x/\ ∀a,t.a=some a->a.block≠c:=by
 refine⟨aU _ _ _ _ e,fun a ha hac=>?_⟩
 subst hac
 simp [Hp.offS,ha,Hp.off,Hp.set]at e
theorem fJ.keep {g h:Hp} {bw:Nat} {v:Int} {t:Sl} {xss:List (List Int)} (e:fJ g h bw v t xss):g.le h:=Hp.le_trans e.le (aU _ _)
theorem fJ.len {g h:Hp} {bw:Nat} {v:Int} {t:Sl} {xss:List (List Int)} (e:fJ g h bw v t xss):t.n=xss.length:=by
 obtain⟨ts,hb,h1,_⟩:=e.buf
 have:=hb.1;simp at this;omega
theorem fJ.blk {g h:Hp} {bw:Nat} {v:Int} {t:Sl} {xss:List (List Int)} (e:fJ g h bw v t xss): ∀a,t.a=some a-> ∃ts:List Sl,∃z,h a.block=some (.inl ⟨ts.map Sl.v,z,false⟩):=by
 intro a ha
 obtain⟨ts,hb,_,_⟩:=e.buf
 rcases hb.2.2 with ⟨h0,_⟩|⟨b,hb1,hb2⟩
 ·rw [h0]at ha;cases ha
 ·rw [hb1]at ha;cases ha;exact⟨ts,_,hb2⟩
theorem fJ.to {g h g' h':Hp} {bw:Nat} {v v':Int} {t:Sl} {xss:List (List Int)} (e:fJ g h bw v t xss) (l:g.le g') (l':g'.le (h'.offS t)) (hr:h' bw=some (.inl ⟨[I v',t.v],2,false⟩))
  (hbuf: ∀a,t.a=some a->h' a.block=h a.block) (hn:g' bw=none):fJ g' h' bw v' t xss:=by
 obtain⟨ts,hb,h1,h2⟩:=e.buf
 refine⟨⟨ts,⟨hb.1,hb.2.1,hb.2.2.imp id ?_⟩,h1,fun i a b=>(h2 i a b).mono l⟩,l',hr,hn,e.own⟩
 rintro ⟨b,hb1,hb2⟩
 exact⟨b,hb1,(hbuf _ hb1).trans hb2⟩
theorem fJ.lit {g h:Hp} {bw b n:Nat} {v:Int} {t:Sl} {xss:List (List Int)} {cs:List Value} (e:fJ g h bw v t xss) (hb:h b=none):fJ (g.row b cs n) (h.row b cs n) bw v t xss:=by
 have gb:g b=none:=aE e.keep hb
 have nb:=fresh_ne hb e.row
 have nt: ∀a,t.a=some a->a.block≠b:=fun a ha=>by
  obtain⟨ts,z,hx⟩:=e.blk a ha
  exact fresh_ne hb hx
 refine e.to (fK _ _ gb) ?_ (by rw [bX _ _ nb];exact e.row) (fun a ha=>bX _ _ (nt a ha)) (by rw [bX _ _ nb];exact e.new)
 intro c x hc
 by_cases h':c=b
 ·subst h'
  rw [gE nt,bJ];rw [bJ]at hc;exact hc
 ·rw [bX _ _ h']at hc
  obtain⟨h1,h2⟩:=cX (e.le _ _ hc)
  rw [gE h2,bX _ _ h'];exact h1
theorem fJ.app {g h:Hp} {bw b:Nat} {v:Int} {t u:Sl} {xss:List (List Int)} {x:List Int} {K:Option Addr->Nat->Nat->Hp->Prop} (e:fJ g h bw v t xss) (hl:xss.length<=1048576) (hu:IntS g u x) (hb:h b=none)
  (k: ∀(t':Sl) (h':Hp),h' bw=some (.inl ⟨[I v,t.v],2,false⟩)->(h.offS t).le (h'.offS t')->fJ g (h'.row bw [I v,t'.v] 2) bw v t' (xss++ [x])->K t'.a t'.n t'.c h'):
  cm (h.row b [u.v] 1) t.a t.n t.c (some ⟨b,0,none⟩) 1 1 24 K:=by
 have l:=fK [u.v] 1 hb
 have hn:=e.len
 obtain⟨ts,hbuf,h1,h2⟩:=e.buf
 refine dr (hbuf.mono l) (by omega) (by omega) (by omega) ⟨b,0,rfl,fun i v hi=>?_⟩ (news:= [u.v]) rfl rfl ?_
 ·cases i with
  |zero=>simp at hi;subst hi;exact rj _ _ _ _ _
  |succ i=>simp at hi
 intro t' h' hn' hb' hle _
 have hle':(h.offS t).le (h'.offS t'):=Hp.le_trans (aZ t l) hle
 obtain⟨f,o⟩:=la hle' e.row e.own
 refine k t' h' f hle' ⟨⟨ts++ [u],?_,by simp [h1],?_⟩,?_,bJ ..,e.new,o⟩
 ·rw [List.map_append]
  refine⟨hb'.1,hb'.2.1,hb'.2.2.imp id ?_⟩
  rintro ⟨c,hc,hcb⟩
  exact⟨c,hc,by rw [bX _ _ (o _ hc)];exact hcb⟩
 ·intro i a c
  by_cases hi:i<ts.length
  ·rw [List.getElem_append_left hi,List.getElem_append_left (by omega)];exact h2 i hi (by omega)
  ·have:i=ts.length:=by simp at a;omega
   subst this
   simp only [List.getElem_append_right (Nat.le_refl _),Nat.sub_self,List.getElem_cons_zero]
   simp only [h1,List.getElem_append_right (Nat.le_refl _),Nat.sub_self,List.getElem_cons_zero]
   exact hu
 ·intro c x hc
  obtain⟨h3,h4⟩:=cX (hle' _ _ (e.le _ _ hc))
  have hcb:c≠bw:=fun hh=>by rw [hh,e.new]at hc;cases hc
  rw [gE h4,bX _ _ hcb];exact h3
structure Rd (h:Hp) (B:Nat) (s:Sl) (bs:List Nat) (p:Nat):Prop where
 row:h B=some (.inl ⟨[s.v,I p],2,false⟩)
 byt:ByteS (h.off B) s bs
theorem Rd.next {h:Hp} {B:Nat} {s:Sl} {bs:List Nat} {p:Nat} (e:Rd h B s bs p) (q:Nat):Rd (h.row B [s.v,I q] 2) B s bs q:=⟨bJ ..,by rw [yd];exact e.byt⟩
theorem Rd.to {h h':Hp} {B:Nat} {s:Sl} {bs:List Nat} {p:Nat} (e:Rd h B s bs p) (l:h.le h'):Rd h' B s bs p:=⟨l _ _ e.row,e.byt.mono (HJ _ l)⟩
theorem SL {a b:Nat} (ha:a<4611686018427387904) (hb:b<4611686018427387904): ∃c:Nat,aae (a:Int) (b:Int)=c:=by
 have:=Pc (a:=a) (b:=b) (by omega) (by omega)
 exact⟨_,this⟩
theorem Ea {h:Hp} {B p:Nat} {s:Sl} {bs:List Nat} {n:Int} {R:Value->Hp->Prop} (e:Rd h B s bs p) (hp:p<=1000000000) (hn:n<=1000000000)
  (k: ∀x:Nat,(1<=n->(x:Int)<n)->(n<1->x=0)->R (I x) (h.row B [s.v,I (p+1:Nat)] 2)):aj #[.pointer (some ⟨B,0,none⟩),I n] h R:=by
 apply CR
 refine uf_ ?_
 simp only [vm,av e.row,mm,e.row,aw (n:=p) (by omega)]
 have hb:=e.byt.mono (HB h B [s.v,I (p+1:Nat)] 2)
 have hl:=hb.len
 have hbd:=hb.bound
 refine⟨by omega,?_⟩
 refine aq (fun J=>J (decide (n<1)||decide (bs.length=0))) ?_ ?_
 rotate_left
 ·intro J hJ
  refine ad (fun e=>?_) (fun e=>?_)
  ·rw [e,Bool.true_or]at hJ;exact hJ
  ·rw [e,Bool.false_or]at hJ
   have:((s.n:Int)==0)=decide (bs.length=0):=by rw [hl,Bool.eq_iff_iff];simp
   rw [this];exact hJ
 refine ad (fun he=>?_) (fun he=>?_)
 ·refine k 0 (fun h1=>by omega) (fun _=>rfl)
 have hn1:1<=n:=by simp at he;omega
 have hbn:0<bs.length:=by
  have:bs.length≠0:=by intro h;rw [h]at he;simp at he
  omega
 have hw:W (((p+1:Nat):Int)-1)=p:=by rw [bQ (by omega) (by omega)];omega
 obtain⟨m,rfl⟩: ∃m:Nat,n=m:=⟨n.toNat,by omega⟩
 have fin: ∀x:Nat,R (I (Int.tmod (x:Int) (m:Int))) (h.row B [s.v,I (p+1:Nat)] 2):=by
  intro x
  have e1:Int.tmod (x:Int) (m:Int)=((x%m:Nat):Int):=by rw [Int.ofNat_tmod]
  rw [e1]
  have:x%m<m:=Nat.mod_lt _ (by omega)
  exact k (x%m) (fun _=>by omega) (fun h=>by omega)
 simp only [hw,hl]
 refine ad (fun hlt=>?_) (fun hlt=>?_)
 ·have hlt':p<bs.length:=by simp at hlt;omega
  obtain⟨b,o,ha,hc,hx⟩:=hb.at hlt'
  simp only [vm,ha,hc]
  refine⟨by omega,?_⟩
  rw [if_neg (by omega),fu (by omega)]
  exact fin _
 ·have hq: ∀q:Nat,Int.tmod (q:Int) (bs.length:Int)=((q%bs.length:Nat):Int):=fun q=>by rw [Int.ofNat_tmod]
  have hlt2: ∀q:Nat,q%bs.length<bs.length:=fun q=>Nat.mod_lt _ hbn
  have w1:W (W ((p:Int)*7)+3)=((p*7+3:Nat):Int):=by
   rw [bQ (n:=(p:Int)*7) (by omega) (by omega),bQ (by omega) (by omega)];omega
  obtain⟨b,o,ha,hc,hx⟩:=hb.at (hlt2 p)
  obtain⟨b',o',ha',hc',hy⟩:=hb.at (hlt2 (p*7+3))
  rw [ha]at ha';cases ha'
  have hdiv:Int.tdiv (p:Int) (bs.length:Int)=((p/bs.length:Nat):Int):=by rw [Int.ofNat_tdiv]
  have hdl:p/bs.length<=p:=Nat.div_le_self _ _
  generalize hX:bs[p%bs.length]'(hlt2 p)=X at*
  generalize hY:bs[(p*7+3)%bs.length]'(hlt2 _)=Y at*
  generalize hD:p/bs.length=D at*
  have tot:W (W (W (W (W (X:Int)*131)+W (W (Y:Int)*1117))+W ((p:Int)*29))+W (W (D:Int)*53))=((X*131+Y*1117+p*29+D*53:Nat):Int):=by
   rw [fu (n:=X) (by omega),fu (n:=Y) (by omega),fu (n:=D) (by omega),bQ (n:=(X:Int)*131) (by omega) (by omega),bQ (n:=(Y:Int)*1117) (by omega) (by omega),
    bQ (n:=(p:Int)*29) (by omega) (by omega),bQ (n:=(D:Int)*53) (by omega) (by omega),bQ (n:=(X:Int)*131+(Y:Int)*1117) (by omega) (by omega),
    bQ (n:=(X:Int)*131+(Y:Int)*1117+(p:Int)*29) (by omega) (by omega),bQ (by omega) (by omega)]
   omega
  have d64:W (Int.tdiv (((X*131+Y*1117+p*29+D*53:Nat)):Int) 64)=(((X*131+Y*1117+p*29+D*53)/64:Nat):Int):=by
   have:Int.tdiv (((X*131+Y*1117+p*29+D*53:Nat)):Int) 64=(((X*131+Y*1117+p*29+D*53)/64:Nat):Int):=by
    have:=Int.ofNat_tdiv (X*131+Y*1117+p*29+D*53) 64
    exact this.symm
   rw [this,fu (by omega)]
  obtain⟨c,hcx⟩:=SL (a:=X*131+Y*1117+p*29+D*53) (b:=(X*131+Y*1117+p*29+D*53)/64) (by omega) (by omega)
  have hnz: ¬((bs.length:Nat):Int)=0:=by omega
  simp only [vm,w1,hq,hdiv,ha,hc,hc',hD,tot,d64,hcx]
  rw [if_neg hnz]
  refine⟨by have:=hlt2 p;omega,?_⟩
  rw [if_neg hnz]
  refine⟨by have:=hlt2 (p*7+3);omega,?_⟩
  rw [if_neg hnz]
  have hm0: ¬(m:Int)=0:=by omega
  rw [if_neg hm0]
  have:=fin c
  simp only [true_and,and_self]
  exact this
theorem gN.appK {h h':Hp} {t:Sl} {set:List Int} {x:Int} {b:Nat} {K:Option Addr->Nat->Nat->Hp->Prop} (e:gN h h' t set) (hl:set.length<=1048576) (hb:h' b=none)
  (k: ∀(t':Sl) (h'':Hp),(h'.offS t).le (h''.offS t')->gN h h'' t' (set++ [x])->K t'.a t'.n t'.c h''):cm (h'.row b [I x] 1) t.a t.n t.c (some ⟨b,0,none⟩) 1 1 8 K:=by
 have l:=fK [I x] 1 hb
 exact Pp (e.buf.mono l) hl (rj _ _ _ _ _) fun t' h'' hb' hl'=>k t' h'' (Hp.le_trans (aZ t l) hl') ⟨hb',Hp.le_trans (Hp.le_trans e.le (aZ t l)) hl'⟩
theorem gN.neB {g h:Hp} {o s:Sl} {xs:List Int} (e:gN g h o xs) {B p n:Nat} (hB:h B=some (.inl ⟨[s.v,I p],n,false⟩)): ∀a,o.a=some a->a.block≠B:=by
 intro a ha
 rcases e.buf.2.2 with ⟨h0,_⟩|⟨b,hb1,hb2⟩
 ·rw [h0]at ha;cases ha
 ·rw [hb1]at ha;cases ha
  refine dZ hb2 hB ?_
  intro h
  simp only [Sum.inl.injEq,Row.mk.injEq]at h
  rcases xs with _|⟨x,r⟩
  ·simp at h
  ·simp [Sl.v]at h
theorem fJ.neB {g h:Hp} {bw:Nat} {v:Int} {t s:Sl} {xss:List (List Int)} (e:fJ g h bw v t xss) {B p n:Nat} (hB:h B=some (.inl ⟨[s.v,I p],n,false⟩)): ∀a,t.a=some a->a.block≠B:=by
 intro a ha
 obtain⟨ts,z,hx⟩:=e.blk a ha
 refine dZ hx hB ?_
 intro h
 simp only [Sum.inl.injEq,Row.mk.injEq]at h
 rcases ts with _|⟨t1,_|⟨t2,r⟩⟩
 ·simp at h
 ·simp at h
 ·simp [Sl.v]at h
theorem fJ.ne3 {g h:Hp} {bw:Nat} {v:Int} {t:Sl} {xss:List (List Int)} (e:fJ g h bw v t xss) {B n:Nat} {x:Int} {y:List Value} (hB:h B=some (.inl ⟨I x::y,n,false⟩)): ∀a,t.a=some a->a.block≠B:=by
 intro a ha
 obtain⟨ts,z,hx⟩:=e.blk a ha
 refine dZ hx hB ?_
 intro h
 simp only [Sum.inl.injEq,Row.mk.injEq]at h
 rcases ts with _|⟨t1,r⟩
 ·simp at h
 ·simp [Sl.v]at h
theorem qM {h:Hp} {t:Sl} {c:Nat} {x:Blk} (e:h c=some x) (d: ∀a,t.a=some a->a.block≠c):(h.offS t) c=some x:=by rw [gE d];exact e
structure CS (h0:Hp) (B b3 b9:Nat) (s:Sl) (c:Nat) (h:Hp) (v:Int) (t:Sl) (cls:List (List Int)):Prop where
 rd: ∃q,q<=c/\h B=some (.inl ⟨[s.v,I (q:Nat)],2,false⟩)
 r3:h b3=some (.inl ⟨[I 0, .slice none 0 0],2,false⟩)
 n39:b3≠b9
 fr:(h0.off B).le (h.offS t)
 fr9:h0 b9=none
 fr3:h0 b3=none
 gr: ∃g:Hp,(∀c x,g c=some x->h0 c=none/\c≠b3)/\fJ g h b9 v t cls
section
variable {h0 h:Hp} {B b3 b9 c p0:Nat} {s t:Sl} {v:Int} {cls:List (List Int)} {bs:List Nat}
theorem CS.row (e:CS h0 B b3 b9 s c h v t cls):h b9=some (.inl ⟨[I v,t.v],2,false⟩):=by obtain⟨g,_,hg⟩:=e.gr;exact hg.row
theorem CS.frame (e:CS h0 B b3 b9 s c h v t cls):(h0.off B).le h:=Hp.le_trans e.fr (aU _ _)
theorem CS.nB9 (e:CS h0 B b3 b9 s c h v t cls):b9≠B:=by
 obtain⟨q,_,hq⟩:=e.rd
 exact dZ e.row hq (by intro h;simp [Sl.v]at h)
theorem CS.nB3 (e:CS h0 B b3 b9 s c h v t cls):b3≠B:=by
 obtain⟨q,_,hq⟩:=e.rd
 exact dZ e.r3 hq (by intro h;simp [Sl.v]at h)
theorem CS.more (e:CS h0 B b3 b9 s c h v t cls) {c':Nat} (hc:c<=c'):CS h0 B b3 b9 s c' h v t cls:=by
 obtain⟨q,hq,hr⟩:=e.rd
 exact⟨⟨q,by omega,hr⟩,e.r3,e.n39,e.fr,e.fr9,e.fr3,e.gr⟩
theorem CS.app (e:CS h0 B b3 b9 s c h v t cls) (hB: ∃x,h0 B=some x) {h2:Hp} {o:Sl} {xs:List Int} {q2 c2 b:Nat} {K:Option Addr->Nat->Nat->Hp->Prop} (hl:cls.length<=1048576) (hx:xs.length<=1048576)
  (hgr:gN (h.off B) h2 o xs) (hr2:h2 B=some (.inl ⟨[s.v,I (q2:Nat)],2,false⟩)) (hq2:q2<=c2) (hb:h2 b=none)
  (k: ∀(t':Sl) (h3:Hp),h3 b9=some (.inl ⟨[I v,t.v],2,false⟩)->CS h0 B b3 b9 s c2 (h3.row b9 [I v,t'.v] 2) v t' (cls++ [xs])->K t'.a t'.n t'.c h3):
  cm (h2.row b [o.v] 1) t.a t.n t.c (some ⟨b,0,none⟩) 1 1 24 K:=by
 obtain⟨g,hg,gr⟩:=e.gr
 obtain⟨q,hq,hr⟩:=e.rd
 have base: ∀c x,h c=some x->c≠B->h2 c=some x/\ ∀a,o.a=some a->a.block≠c:=by
  intro c x hc hcB
  exact cX (hgr.le c x (by rw [Hp.off,Hp.set_ne _ _ hcB];exact hc))
 have r9:=base _ _ gr.row e.nB9
 have r3:=base _ _ e.r3 e.nB3
 have tB:=gr.neB hr
 have oB:=hgr.neB hr2
 have t3:=gr.ne3 e.r3
 have tblk: ∀a,t.a=some a->h2 a.block=h a.block/\ ∀a',o.a=some a'->a'.block≠a.block:=by
  intro a ha
  obtain⟨ts,z,hx⟩:=gr.blk a ha
  obtain⟨h1,h2⟩:=base _ _ hx (tB a ha)
  exact⟨h1.trans hx.symm,h2⟩
 have hg': ∀c x,((h2.sub h0).wo ([b9,b3]++t.blk)) c=some x->h2 c=some x/\h0 c=none/\c≠b3/\c≠b9/\ ∀a,t.a=some a->a.block≠c:=by
  intro c x hc
  have hm:c∉ [b9,b3]++t.blk:=fun hm=>by rw [fh hm]at hc;cases hc
  rw [uf hm]at hc
  have h1:h0 c=none:=lc (by rw [hc];simp)
  rw [kK h1]at hc
  simp only [List.cons_append,List.nil_append,List.mem_cons,not_or]at hm
  exact⟨hc,h1,hm.2.1,hm.1,fun a ha hac=>hm.2.2 (by unfold Sl.blk;rw [ha];simp [hac])⟩
 have hgi: ∀c x,h2 c=some x->h0 c=none->c≠b3->c≠b9->(∀a,t.a=some a->a.block≠c)->((h2.sub h0).wo ([b9,b3]++t.blk)) c=some x:=by
  intro c x h1 h2 h3 h4 h5
  rw [uf,kK h2]
  ·exact h1
  ·simp only [List.cons_append,List.nil_append,List.mem_cons,not_or]
   refine⟨h4,h3,fun hm=>?_⟩
   unfold Sl.blk at hm
   split at hm
   ·simp at hm
   ·rename_i a ha;simp at hm;exact h5 a ha hm.symm
 have gr':fJ ((h2.sub h0).wo ([b9,b3]++t.blk)) h2 b9 v t cls:=by
  refine gr.to ?_ ?_ r9.1 (fun a ha=>(tblk a ha).1) (fh (by simp))
  ·intro c x hc
   obtain⟨g1,g2⟩:=cX (gr.le _ _ hc)
   have hn:=hg _ _ hc
   have hcB:c≠B:=fun hh=>by obtain⟨y,hy⟩:=hB;rw [hh,hy]at hn;cases hn.1
   exact hgi c x (base c x g1 hcB).1 hn.1 hn.2 (fun hh=>by rw [hh,gr.new]at hc;cases hc) g2
  ·intro c x hc
   obtain⟨g1,g2,g3,g4,g5⟩:=hg' c x hc
   exact qM g1 g5
 have hu:IntS ((h2.sub h0).wo ([b9,b3]++t.blk)) o xs:=by
  refine vA.ints ⟨hgr.buf.1,hgr.buf.2.1,hgr.buf.2.2.imp id ?_⟩ hx
  rintro ⟨d,hd,hdb⟩
  refine⟨d,hd,hgi _ _ hdb ?_ ?_ ?_ ?_⟩
  ·cases hx:h0 d with
   |none=>rfl
   |some x=>
    have hdB:d≠B:=oB _ hd
    have:=e.frame d x (by rw [Hp.off,Hp.set_ne _ _ hdB];exact hx)
    exact absurd rfl ((base d x this hdB).2 _ hd)
  ·exact r3.2 _ hd
  ·exact r9.2 _ hd
  ·intro a ha hab
   exact(tblk a ha).2 _ hd hab.symm
 refine gr'.app hl hu hb fun t' h3 f9 hk hgd=>k t' h3 f9 ?_
 have kp: ∀c x,h2 c=some x->(∀a,t.a=some a->a.block≠c)->h3 c=some x/\ ∀a,t'.a=some a->a.block≠c:=by
  intro c x h1 h2
  exact cX (hk _ _ (qM h1 h2))
 have n9: ∀a,t.a=some a->a.block≠b9:=gr.own
 refine⟨⟨q2,hq2,by rw [bX _ _ e.nB9.symm];exact(kp _ _ hr2 tB).1⟩,by rw [bX _ _ e.n39];exact(kp _ _ r3.1 t3).1,e.n39,?_,e.fr9,e.fr3,_,fun c x hc=>⟨(hg' c x hc).2.1,(hg' c x hc).2.2.1⟩,hgd⟩
 intro c x hc
 have hcB:c≠B:=fun hh=>by rw [hh,um]at hc;cases hc
 have hc9:c≠b9:=fun hh=>by rw [hh,Hp.off,Hp.set_ne _ _ e.nB9,e.fr9]at hc;cases hc
 obtain⟨g1,g2⟩:=cX (e.fr _ _ hc)
 obtain⟨g3,g4⟩:=kp _ _ (base c x g1 hcB).1 g2
 rw [gE g4,bX _ _ hc9];exact g3
theorem CS.lit (e:CS h0 B b3 b9 s c h v t cls) {b n:Nat} {cs:List Value} (hb:h b=none):CS h0 B b3 b9 s c (h.row b cs n) v t cls:=by
 obtain⟨g,hg,gr⟩:=e.gr
 obtain⟨q,hq,hr⟩:=e.rd
 have tb: ∀{c x},(h.offS t) c=some x->((h.row b cs n).offS t) c=some x:=by
  intro c x hc
  obtain⟨h1,h2⟩:=cX hc
  rw [gE h2,bX _ _ (fresh_ne hb h1)];exact h1
 exact⟨⟨q,hq,by rw [bX _ _ (fresh_ne hb hr)];exact hr⟩,by rw [bX _ _ (fresh_ne hb e.r3)];exact e.r3,e.n39,fun c x hc=>tb (e.fr _ _ hc),e.fr9,e.fr3,g,hg,
  gr.to (Hp.le_refl _) (fun c x hc=>tb (gr.le _ _ hc)) (by rw [bX _ _ (fresh_ne hb gr.row)];exact gr.row) (fun a ha=>by
   obtain⟨ts,z,hx⟩:=gr.blk a ha
   exact bX _ _ (fresh_ne hb hx)) gr.new⟩
end
theorem dJ.up {h h' h'':Hp} {t:Sl} {xss:List (List Int)} (e:dJ h h' t xss) (l:h'.le h''):dJ h h'' t xss:=by
 obtain⟨ts,h1,h2,h3⟩:=e.buf
 exact⟨⟨ts,h1.mono l,h2,h3⟩,Hp.le_trans e.le (aZ t l)⟩
def mQ (v:Int) (cls p:List (List Int)):Bool:=et v cls&&(decide (p.length<=300)&&p.all (gT v))
theorem mQ.iff {v:Int} {cls p:List (List Int)}:mQ v cls p=true↔et v cls=true/\p.length<=300/\ ∀l∈p,gT v l=true:=by
 simp [mQ,List.all_eq_true]
theorem dJ.len {g h:Hp} {o:Sl} {out:List (List Int)} (e:dJ g h o out):o.n=out.length:=by
 obtain⟨ts,hb,h1,_⟩:=e.buf
 have:=hb.1;simp at this;omega
theorem dJ.base {g g2 h:Hp} {o:Sl} {out:List (List Int)} (e:dJ g h o out) (l:g.le g2) (l2:g2.le (h.offS o)):dJ g2 h o out:=by
 obtain⟨ts,h1,h2,h3⟩:=e.buf
 exact⟨⟨ts,h1,h2,fun i a b=>(h3 i a b).mono l⟩,l2⟩
theorem dJ.blk {g h:Hp} {o:Sl} {out:List (List Int)} (e:dJ g h o out): ∀a,o.a=some a-> ∃x,h a.block=some x:=by
 intro a ha
 obtain⟨ts,hb,_,_⟩:=e.buf
 rcases hb.2.2 with ⟨h0,_⟩|⟨b,hb1,hb2⟩
 ·rw [h0]at ha;cases ha
 ·rw [hb1]at ha;cases ha;exact⟨_,hb2⟩
theorem gN.apart {h2 h3:Hp} {u o:Sl} {xs:List Int} (hg:gN h2 h3 u xs) (ho: ∀a,o.a=some a-> ∃x,h2 a.block=some x): ∀a a',u.a=some a->o.a=some a'->a.block≠a'.block:=by
 intro a a' ha ha'
 obtain⟨x,hx⟩:=ho a' ha'
 exact(cX (hg.le _ _ hx)).2 a ha
theorem gN.offS {h2 h3:Hp} {u o:Sl} {xs:List Int} (hg:gN h2 h3 u xs) (ho: ∀a,o.a=some a-> ∃x,h2 a.block=some x):vA (h3.offS o) u xs:=by
 refine⟨hg.buf.1,hg.buf.2.1,hg.buf.2.2.imp id ?_⟩
 rintro ⟨b,hb1,hb2⟩
 exact⟨b,hb1,qM hb2 fun a ha=>(hg.apart ho _ a hb1 ha).symm⟩
theorem IntS.one {h:Hp} {b:Nat} {x:Int} {n:Nat} {ro:Bool} (e:h b=some (.inl ⟨[I x],n,ro⟩)):IntS h ⟨some ⟨b,0,none⟩,1,1⟩ [x]:=⟨by simp,by simp, .inr ⟨b,0,rfl,au e⟩⟩
theorem FF {h:Hp} {s:Sl} {bs:List Nat} {i:Nat} {R:Value->Hp->Prop} (hs:ByteS h s bs) (hi:i<=1000000) (k: ∀x:Nat,x<256->R (I x) h):k7 #[s.v,I i] h R:=by
 apply Bc
 refine uf_ ?_
 refine ad (fun e=>?_) (fun e=>?_)
 ·have hlt:i<bs.length:=by simp [hs.len]at e;exact e
  obtain⟨b,o,ha,hc,hx⟩:=hs.at hlt
  simp only [vm,ha,hc,hs.len,fu (n:=bs[i]) (by omega)]
  exact⟨by omega,k _ hx⟩
 ·rw [bQ (n:=(i:Int)*37) (by omega) (by omega)]
  have:Int.tmod ((i:Int)*37) 251=((i*37%251:Nat):Int):=by
   have:=Int.ofNat_tmod (i*37) 251
   exact this.symm
  rw [this]
  exact k _ (by omega)
theorem dJ.appK {g h:Hp} {t u:Sl} {xss:List (List Int)} {x:List Int} {b:Nat} {K:Option Addr->Nat->Nat->Hp->Prop} (e:dJ g h t xss) (hl:xss.length<=1048576) (hu:IntS g u x) (hb:h b=none)
  (k: ∀(t':Sl) (h'':Hp),(h.offS t).le (h''.offS t')->dJ g h'' t' (xss++ [x])->K t'.a t'.n t'.c h''):cm (h.row b [u.v] 1) t.a t.n t.c (some ⟨b,0,none⟩) 1 1 24 K:=by
 have l:=fK [u.v] 1 hb
 have hn:=e.len
 obtain⟨ts,hbuf,h1,h2⟩:=e.buf
 refine dr (hbuf.mono l) (by omega) (by omega) (by omega) ⟨b,0,rfl,fun i v hi=>?_⟩ (news:= [u.v]) rfl rfl ?_
 ·cases i with
  |zero=>simp at hi;subst hi;exact rj _ _ _ _ _
  |succ i=>simp at hi
 ·intro t' h'' hn' hb' hle _
  have hle':(h.offS t).le (h''.offS t'):=Hp.le_trans (aZ t l) hle
  refine k t' h'' hle' ⟨⟨ts++ [u],by rw [List.map_append];exact hb',by simp [h1],?_⟩,Hp.le_trans e.le hle'⟩
  intro i a c
  by_cases hi:i<ts.length
  ·rw [List.getElem_append_left hi,List.getElem_append_left (by omega)];exact h2 i hi (by omega)
  ·have:i=ts.length:=by simp at a;omega
   subst this
   simp only [List.getElem_append_right (Nat.le_refl _),Nat.sub_self,List.getElem_cons_zero]
   simp only [h1,List.getElem_append_right (Nat.le_refl _),Nat.sub_self,List.getElem_cons_zero]
   exact hu
theorem dJ.neB {g h:Hp} {t s:Sl} {xss:List (List Int)} (e:dJ g h t xss) {B p n:Nat} (hB:h B=some (.inl ⟨[s.v,I p],n,false⟩)): ∀a,t.a=some a->a.block≠B:=by
 intro a ha
 obtain⟨ts,hb,_,_⟩:=e.buf
 rcases hb.2.2 with ⟨h0,_⟩|⟨c,hc,hcb⟩
 ·rw [h0]at ha;cases ha
 ·rw [hc]at ha;cases ha
  refine dZ hcb hB ?_
  intro h
  simp only [Sum.inl.injEq,Row.mk.injEq]at h
  rcases ts with _|⟨t1,_|⟨t2,r⟩⟩
  ·simp at h
  ·simp at h
  ·simp [Sl.v]at h
structure PS (h:Hp) (B:Nat) (s:Sl) (c:Nat) (g h':Hp) (t:Sl) (res:List (List Int)):Prop where
 rd: ∃q,q<=c/\h' B=some (.inl ⟨[s.v,I (q:Nat)],2,false⟩)
 gr:dJ g h' t res
 new: ∀c x,g c=some x->h c=none
 fr:(h.off B).le (h'.offS t)
section
variable {h g h':Hp} {B c:Nat} {s t:Sl} {res:List (List Int)} {bs:List Nat}
theorem PS.frame (e:PS h B s c g h' t res):(h.off B).le h':=Hp.le_trans e.fr (aU _ _)
theorem PS.more (e:PS h B s c g h' t res) {c':Nat} (hc:c<=c'):PS h B s c' g h' t res:=by
 obtain⟨q,hq,hr⟩:=e.rd
 exact⟨⟨q,by omega,hr⟩,e.gr,e.new,e.fr⟩
theorem PS.lit (e:PS h B s c g h' t res) (hB: ∃x,h B=some x) {b n:Nat} {cs:List Value} (hb:h' b=none):PS h B s c (g.row b cs n) (h'.row b cs n) t res:=by
 obtain⟨q,hq,hr⟩:=e.rd
 have nB:=fresh_ne hb hr
 have hb0:h b=none:=by
  cases hx:h b with
  |none=>rfl
  |some x=>
   have:=e.frame b x (by rw [Hp.off,Hp.set_ne _ _ nB.symm];exact hx)
   rw [hb]at this;cases this
 have tb: ∀a,t.a=some a->a.block≠b:=fun a ha=>by
  obtain⟨x,hx⟩:=e.gr.blk a ha
  exact fresh_ne hb hx
 have key: ∀c x,c≠b->(h'.offS t) c=some x->((h'.row b cs n).offS t) c=some x:=by
  intro c x hcB hc
  obtain⟨h1,h2⟩:=cX hc
  rw [gE h2,bX _ _ hcB];exact h1
 have gb:g b=none:=aE e.gr.keep hb
 refine⟨⟨q,hq,by rw [bX _ _ nB];exact hr⟩,(e.gr.up (fK cs n hb)).base (fK _ _ gb) ?_,?_,fun c x hc=>key c x (fun hh=>by rw [hh,Hp.off,Hp.set_ne _ _ nB.symm,hb0]at hc;cases hc) (e.fr _ _ hc)⟩
 ·intro c x hc
  by_cases hcb:c=b
  ·subst hcb
   rw [bJ]at hc
   rw [gE tb,bJ];exact hc
  ·rw [bX _ _ hcb]at hc
   exact key c x hcb (e.gr.le _ _ hc)
 ·intro c x hc
  by_cases hcb:c=b
  ·subst hcb;exact hb0
  ·rw [bX _ _ hcb]at hc;exact e.new _ _ hc
theorem PS.app {u:Sl} {x:List Int} {b:Nat} {K:Option Addr->Nat->Nat->Hp->Prop} (e:PS h B s c g h' t res) (hl:res.length<=1048576) (hu:IntS g u x) (hb:h' b=none)
  (k: ∀(t':Sl) (h'':Hp),PS h B s c g h'' t' (res++ [x])->K t'.a t'.n t'.c h''):cm (h'.row b [u.v] 1) t.a t.n t.c (some ⟨b,0,none⟩) 1 1 24 K:=by
 obtain⟨q,hq,hr⟩:=e.rd
 exact e.gr.appK hl hu hb fun t' h'' hk gr=>k t' h'' ⟨⟨q,hq,(cX (hk _ _ (qM hr (e.gr.neB hr)))).1⟩,gr,e.new,Hp.le_trans e.fr hk⟩
theorem PS.put {u:Sl} {x:List Int} {i:Nat} (e:PS h B s c g h' t res) (hi:i<res.length) (hu:IntS g u x): ∃b cs z,t.a=some ⟨b,0,none⟩/\h' b=some (.inl ⟨cs,z,false⟩)/\cs.length=res.length/\
  PS h B s c g (h'.row b (cs.set i u.v) z) t (res.set i x):=by
 obtain⟨q,hq,hr⟩:=e.rd
 have hn:=e.gr.len
 have tB:=e.gr.neB hr
 obtain⟨ts,hb,h1,h2⟩:=e.gr.buf
 rcases hb.2.2 with ⟨_,h0,_⟩|⟨b,hb1,hb2⟩
 ·omega
 refine⟨b,_,_,hb1,hb2,by simp [h1],⟨q,hq,by rw [bX _ _ (tB _ hb1).symm];exact hr⟩,⟨⟨ts.set i u,⟨by simp;have:=hb.1;simp at this;omega,hb.2.1, .inr ⟨b,hb1,?_⟩⟩,by simp [h1],?_⟩,?_⟩,e.new,?_⟩
 ·rw [bJ,List.map_set]
 ·intro j a b
  rw [List.getElem_set,List.getElem_set]
  split
  ·exact hu
  ·exact h2 j (by simpa using a) (by simpa using b)
 ·intro c x hc
  obtain⟨g1,g2⟩:=cX (e.gr.le _ _ hc)
  rw [gE g2,bX _ _ (fun hh=>g2 _ hb1 hh.symm)];exact g1
 ·intro c x hc
  obtain⟨g1,g2⟩:=cX (e.fr _ _ hc)
  rw [gE g2,bX _ _ (fun hh=>g2 _ hb1 hh.symm)];exact g1
end
def jT (w:Nat) (n:Int):Nat:=(n%((2^w:Nat):Int)).toNat
def sgn (w a:Nat):Int:=if 2^(w-1)<=a then(a:Int)-((2^w:Nat):Int)else a
theorem bL (w:Nat):0<2^w:=Nat.pow_pos (by omega)
theorem jR (w:Nat) (n:Int):jT w n<2^w:=by
 unfold jT
 have h:=Int.emod_lt_of_pos n (b:=((2^w:Nat):Int)) (Int.ofNat_lt.2 (bL w))
 have h0:=Int.emod_nonneg n (b:=((2^w:Nat):Int)) (by have:=bL w;omega)
 omega
theorem oJ (w a:Nat):jT w (a:Int)=a%2^w:=by
 unfold jT
 rw [<-Int.natCast_emod,Int.toNat_natCast]
theorem Ib (w:Nat) (n:Int):((jT w n:Nat):Int)=n%((2^w:Nat):Int):=by
 unfold jT
 have h0:=Int.emod_nonneg n (b:=((2^w:Nat):Int)) (by have:=bL w;omega)
 omega
theorem rE {w:Nat} (h:1<=w):2^w=2*2^(w-1):=by
 obtain⟨n,rfl⟩: ∃n,w=n+1:=⟨w-1,by omega⟩
 rw [Nat.pow_succ,Nat.add_sub_cancel];omega
theorem LH {w a:Nat} (h:1<=w) (ha:a<2^w): -((2^(w-1):Nat):Int)<=sgn w a/\sgn w a<((2^(w-1):Nat):Int):=by
 have:=rE h
 unfold sgn;split<;>omega
theorem Z1 {w:Nat} (h:1<=w) (n:Int):sgn w (jT w n)=n↔ -((2^(w-1):Nat):Int)<=n/\n<((2^(w-1):Nat):Int):=by
 have hp:=rE h
 have hl:=jR w n
 have hb:=LH h hl
 constructor
 ·intro e;rw [e]at hb;exact hb
 ·rintro ⟨h1,h2⟩
  have hc:=Ib w n
  have h3:n%((2^w:Nat):Int)=if n<0 then n+((2^w:Nat):Int)else n:=by
   split
   ·rw [<-Int.add_emod_right,Int.emod_eq_of_lt (by omega) (by omega)]
   ·rw [Int.emod_eq_of_lt (by omega) (by omega)]
  rw [h3]at hc
  unfold sgn
  split at hc<;>split<;>omega
theorem jX {w x:Nat} {f:Nat->Bool} (hx:x<2^w) (h: ∀i,i<w->x.testBit i=f i):db w f=x:=by
 apply Nat.eq_of_testBit_eq
 intro i
 by_cases hi:i<w
 ·rw [tO _ _ _ hi,h i hi]
 ·rw [Nat.testBit_lt_two_pow (Nat.lt_of_lt_of_le (tj w f) (Nat.pow_le_pow_right (by omega) (by omega))),
   Nat.testBit_lt_two_pow (Nat.lt_of_lt_of_le hx (Nat.pow_le_pow_right (by omega) (by omega)))]
theorem tH {w:Nat} {f g:Nat->Bool} (h: ∀i,i<w->f i=g i):db w f=db w g:=jX (tj _ _) fun i hi=>by rw [tO _ _ _ hi,h i hi]
theorem RA {w p:Nat} {f:Nat->Bool} (hp:p<w) (hf:f p=false):db w f+2^p=db w (fun i=>f i||decide (i=p)):=by
 induction w with
 |zero=>omega
 |succ w ih=>
  simp only [db]
  by_cases h:p=w
  ·subst h
   have:db p (fun i=>f i||decide (i=p))=db p f:=tH fun i hi=>by simp;omega
   rw [this];simp [hf]
  ·have:=ih (by omega)
   have e:(f w||decide (w=p))=f w:=by simp;omega
   simp only [e]
   omega
def ke :Nat->Nat->Nat
 |0,_=>0
 |w+1,a=>ke w a+(if a.testBit w then 1 else 0)
theorem Qk (w a:Nat):ke w a<=w:=by
 induction w with
 |zero=>simp [ke]
 |succ w ih=>simp only [ke];split<;>omega
theorem RR {w a:Nat} (ha:a<2^w):ke w a=w↔a=2^w-1:=by
 have key: ∀w,ke w a=w↔ ∀i,i<w->a.testBit i=true:=by
  intro w
  induction w with
  |zero=>simp [ke]
  |succ w ih=>
   have:=Qk w a
   simp only [ke]
   constructor
   ·intro h i hi
    by_cases hw:a.testBit w=true
    ·rw [if_pos hw]at h
     by_cases hiw:i=w
     ·subst hiw;exact hw
     ·exact ih.1 (by omega) i (by omega)
    ·rw [if_neg hw]at h;omega
   ·intro h
    rw [if_pos (h w (by omega)),ih.2 fun i hi=>h i (by omega)]
 rw [key]
 constructor
 ·intro h
  apply Nat.eq_of_testBit_eq
  intro i
  rw [Nat.testBit_two_pow_sub_one]
  by_cases hi:i<w
  ·rw [h i hi];simp [hi]
  ·rw [Nat.testBit_lt_two_pow (Nat.lt_of_lt_of_le ha (Nat.pow_le_pow_right (by omega) (by omega)))];simp [hi]
 ·rintro rfl i hi
  rw [Nat.testBit_two_pow_sub_one];simpa using hi
theorem JJ {w a b:Nat} (ha:a<2^w):db w (fun i=>a.testBit i&&b.testBit i)=a&&&b:=
 jX (Nat.lt_of_le_of_lt Nat.and_le_left ha) fun i _=>by rw [Nat.testBit_and]
theorem TZ {w a b:Nat} (ha:a<2^w) (hb:b<2^w):db w (fun i=>a.testBit i||b.testBit i)=a|||b:=
 jX (Nat.or_lt_two_pow ha hb) fun i _=>by rw [Nat.testBit_or]
theorem XZ {w a b:Nat} (ha:a<2^w) (hb:b<2^w):db w (fun i=>a.testBit i^^b.testBit i)=a^^^b:=
 jX (Nat.xor_lt_two_pow ha hb) fun i _=>by rw [Nat.testBit_xor]
def abE (w a b:Nat):Nat:=a*2^min b w%2^w
def abW (w a b:Nat):Nat:=a/2^min b w
def ace (w a b:Nat):Nat:=jT w (sgn w a/((2^min b w:Nat):Int))
theorem YM {w a b:Nat}:db w (fun i=>decide (b<=i)&&a.testBit (i-b))=abE w a b:=by
 unfold abE
 refine jX (Nat.mod_lt _ (bL w)) fun i hi=>?_
 rw [Nat.testBit_mod_two_pow,Nat.mul_comm,Nat.testBit_two_pow_mul]
 have:decide (i<w)=true:=by simpa using hi
 rw [this,Bool.true_and]
 by_cases h:b<=i
 ·rw [Nat.min_eq_left (by omega)]
 ·have h1:decide (b<=i)=false:=by simpa using h
  have h2:decide (min b w<=i)=false:=by simp;omega
  simp [h1,h2]
theorem YF {w a b:Nat} (ha:a<2^w):db w (fun i=>decide (i+b<w)&&a.testBit (i+b))=abW w a b:=by
 unfold abW
 refine jX (Nat.lt_of_le_of_lt (Nat.div_le_self _ _) ha) fun i hi=>?_
 rw [Nat.testBit_div_two_pow]
 by_cases h:i+b<w
 ·rw [Nat.min_eq_left (by omega)];simp [h]
 ·have h1:decide (i+b<w)=false:=by simpa using h
  rw [h1,Bool.false_and]
  refine Nat.testBit_lt_two_pow (Nat.lt_of_lt_of_le ha (Nat.pow_le_pow_right (by omega) ?_))
  omega
theorem Xz {w a b:Nat} (hw:1<=w) (hw16:w<=16) (ha:a<2^w):db w (fun i=>if i+b<w then a.testBit (i+b)else a.testBit (w-1))=ace w a b:=by
 have hp:=rE hw
 have top:a.testBit (w-1)=decide (2^(w-1)<=a):=by
  rw [Nat.testBit_eq_decide_div_mod_eq]
  by_cases h:2^(w-1)<=a
  ·have:a/2^(w-1)=1:=by
    rw [Nat.div_eq_iff (bL _)];omega
   simp [this,h]
  ·have:a/2^(w-1)=0:=Nat.div_eq_of_lt (by omega)
   simp [this,h]
 have hb:min b w<=w:=Nat.min_le_right _ _
 have small: ∀i,i<w->i+b<w->min b w=b:=fun i _ h=>Nat.min_eq_left (by omega)
 unfold ace
 refine jX (jR _ _) fun i hi=>?_
 by_cases hs:2^(w-1)<=a
 ·--with the sign
  have e1:sgn w a=(a:Int)-((2^w:Nat):Int):=by unfold sgn;rw [if_pos hs]
  have e2:jT w (sgn w a/((2^min b w:Nat):Int))=((a+2^w*(2^16-1))/2^min b w)%2^w:=by
   have h1:sgn w a=((a+2^w*(2^16-1):Nat):Int)-((2^min b w:Nat):Int)*((2^(w+16-min b w):Nat):Int):=by
    have h2:2^min b w*2^(w+16-min b w)=2^w*2^16:=by rw [<-Nat.pow_add,<-Nat.pow_add];congr 1;omega
    rw [e1,<-Int.natCast_mul,h2]
    have:2^w*(2^16-1)+2^w=2^w*2^16:=by rw [<-Nat.mul_succ]
    omega
   have hpos:((2^min b w:Nat):Int)≠0:=by have:=bL (min b w);omega
   have h3:sgn w a/((2^min b w:Nat):Int)=(((a+2^w*(2^16-1))/2^min b w:Nat):Int)-((2^w:Nat):Int)*((2^(16-min b w):Nat):Int):=by
    rw [h1,Int.sub_eq_add_neg,<-Int.mul_neg,Int.add_mul_ediv_left _ _ hpos,<-Int.natCast_ediv]
    have:2^(w+16-min b w)=2^w*2^(16-min b w):=by rw [<-Nat.pow_add];congr 1;omega
    rw [this,Int.natCast_mul];omega
   rw [h3]
   unfold jT
   rw [Int.sub_mul_emod_self_left,<-Int.natCast_emod,Int.toNat_natCast]
  rw [e2,Nat.testBit_mod_two_pow,Nat.testBit_div_two_pow,Nat.add_comm a,Nat.testBit_two_pow_mul_add _ ha]
  have hd:decide (i<w)=true:=by simpa using hi
  rw [hd,Bool.true_and]
  by_cases h:i+b<w
  ·have hm:=small i hi h
   rw [if_pos h,hm,if_pos (by omega)]
  ·have hm: ¬i+min b w<w:=by omega
   rw [if_neg h,if_neg hm,Nat.testBit_two_pow_sub_one,top]
   simp only [hs,decide_true,decide_eq_true_eq]
   omega
 ·have e1:sgn w a=a:=by unfold sgn;rw [if_neg hs]
  rw [e1,<-Int.natCast_ediv,oJ,Nat.testBit_mod_two_pow,Nat.testBit_div_two_pow]
  have hd:decide (i<w)=true:=by simpa using hi
  rw [hd,Bool.true_and]
  by_cases h:i+b<w
  ·rw [if_pos h,small i hi h]
  ·rw [if_neg h,top]
   have hm: ¬i+min b w<w:=by omega
   have:decide (2^(w-1)<=a)=false:=by simpa using hs
   rw [this]
   exact Nat.testBit_lt_two_pow (Nat.lt_of_lt_of_le ha (Nat.pow_le_pow_right (by omega) (by omega)))
def Ht (w a k:Nat):Nat:=((a*2^k)|||(a/2^(w-k)))%2^w
theorem acS {w a k i:Nat} (ha:a<2^w) (hk:k<w) (hi:i<w):(Ht w a k).testBit i=a.testBit ((i+(w-k))%w):=by
 unfold Ht
 rw [Nat.testBit_mod_two_pow,Nat.testBit_or,Nat.mul_comm,Nat.testBit_two_pow_mul,Nat.testBit_div_two_pow]
 have hd:decide (i<w)=true:=by simpa using hi
 rw [hd,Bool.true_and]
 by_cases h:k<=i
 ·have e:(i+(w-k))%w=i-k:=by
   have:i+(w-k)=(i-k)+w:=by omega
   rw [this,Nat.add_mod_right,Nat.mod_eq_of_lt (by omega)]
  have z:a.testBit (i+(w-k))=false:=Nat.testBit_lt_two_pow (Nat.lt_of_lt_of_le ha (Nat.pow_le_pow_right (by omega) (by omega)))
  rw [e,z];simp [h]
 ·have e:(i+(w-k))%w=i+(w-k):=Nat.mod_eq_of_lt (by omega)
  rw [e]
  have:decide (k<=i)=false:=by simpa using h
  rw [this];simp
theorem Yk {w a k:Nat} (ha:a<2^w) (hk:k<w):db w (fun j=>a.testBit ((j+(w-k))%w))=Ht w a k:=
 jX (Nat.mod_lt _ (bL w)) fun i hi=>acS ha hk hi
theorem Ut {w a k i:Nat} (hk:k<w) (hi:i<w):
  db w (fun j=>decide ((j+(w-k))%w<i)&&a.testBit ((j+(w-k))%w))+(if a.testBit i then 2^((i+k)%w)else 0)=
   db w (fun j=>decide ((j+(w-k))%w<i+1)&&a.testBit ((j+(w-k))%w)):=by
 have hpw:(i+k)%w<w:=Nat.mod_lt _ (by omega)
 have back:((i+k)%w+(w-k))%w=i:=by
  rw [Nat.mod_add_mod]
  have:i+k+(w-k)=i+w:=by omega
  rw [this,Nat.add_mod_right,Nat.mod_eq_of_lt hi]
 have inj: ∀j,j<w->((j+(w-k))%w=i↔j=(i+k)%w):=by
  intro j hj
  constructor
  ·intro h
   have:(j+(w-k)+k)%w=(i+k)%w:=by rw [<-h,Nat.mod_add_mod]
   rw [<-this]
   have:j+(w-k)+k=j+w:=by omega
   rw [this,Nat.add_mod_right,Nat.mod_eq_of_lt hj]
  ·rintro rfl;exact back
 cases hb:a.testBit i with
 |false=>
  simp only [Bool.false_eq_true,if_false,Nat.add_zero]
  refine tH fun j hj=>?_
  by_cases h:(j+(w-k))%w=i
  ·rw [h,hb];simp
  ·have:decide ((j+(w-k))%w<i+1)=decide ((j+(w-k))%w<i):=by
    rw [decide_eq_decide];omega
   rw [this]
 |true=>
  simp only [if_true]
  rw [RA hpw (by rw [back];simp)]
  refine tH fun j hj=>?_
  by_cases h:j=(i+k)%w
  ·have h2:=(inj j hj).2 h
   rw [h2,hb];simp [h]
  ·have h2: ¬(j+(w-k))%w=i:=fun e=>h ((inj j hj).1 e)
   have:decide ((j+(w-k))%w<i+1)=decide ((j+(w-k))%w<i):=by
    rw [decide_eq_decide];omega
   rw [this];simp [h]
def yJ (kind:Int) (w a:Nat):Nat×Nat:=
 if kind=1 then(2^w-1-a,w)else if kind=2 then(jT w (-(a:Int)),w)else if kind=3 then(if a=0 then 0 else 1,1)else
 if kind=4 then(if a=2^w-1 then 1 else 0,1)else(ke w a%2,1)
def L4 (w a b:Nat):Nat:=if sgn w b=0 then(if sgn w a<0 then 1 else 2^w-1)else jT w (Int.tdiv (sgn w a) (sgn w b))
def MA (w a b:Nat):Nat:=if sgn w b=0 then a else jT w (Int.tmod (sgn w a) (sgn w b))
def Fh (kind:Int) (w a b:Nat):Bool:=
 if kind=21 then decide (a=b)else if kind=22 then decide (a<b)else if kind=23 then decide (sgn w a<sgn w b)else
 if kind=24 then decide (a<=b)else if kind=25 then decide (sgn w a<=sgn w b)else if kind=26 then decide (2^w<=a+b)else
 if kind=27 then !decide (-((2^(w-1):Nat):Int)<=sgn w a+sgn w b/\sgn w a+sgn w b<((2^(w-1):Nat):Int))else decide (2^w<=a*b)
def Ix (kind:Int) (w a b:Nat):Nat:=
 if kind=6 then a&&&b else if kind=7 then a|||b else if kind=8 then a^^^b else if kind=9 then jT w ((a:Int)+b)else
 if kind=10 then jT w ((a:Int)-b)else if kind=11 then jT w ((a:Int)*b)else if kind=12 then(if b=0 then 2^w-1 else a/b)else
 if kind=13 then(if b=0 then a else a%b)else if kind=14 then L4 w a b else if kind=15 then MA w a b else
 if kind=16 then abE w a b else if kind=17 then abW w a b else if kind=18 then ace w a b else if kind=19 then Ht w a (b%w)else Ht w a ((w-b%w)%w)
def ua (kind:Int) (w a b:Nat):Nat×Nat:=if kind<=20 then(Ix kind w a b,w)else(if Fh kind w a b then 1 else 0,1)
theorem acC {kind:Int} {w a:Nat} (hw:1<=w) (ha:a<2^w):(yJ kind w a).1<2^(yJ kind w a).2:=by
 have:=bL w
 unfold yJ
 split
 ·simp only;omega
 ·split
  ·exact jR _ _
  ·split
   ·simp only;split<;>omega
   ·split
    ·simp only;split<;>omega
    ·simp only;omega
theorem S2 (w a k:Nat):Ht w a k<2^w:=Nat.mod_lt _ (bL w)
theorem ky {c:Prop} [Decidable c] {x y n:Nat} (hx:x<n) (hy:y<n):(if c then x else y)<n:=by
 by_cases h:c
 ·rw [if_pos h];exact hx
 ·rw [if_neg h];exact hy
theorem Xp {kind:Int} {w a b:Nat} (hw:1<=w) (ha:a<2^w) (hb:b<2^w):Ix kind w a b<2^w:=by
 have hp:=bL w
 have hp1:1<2^w:=by
  have:=rE hw;have:=bL (w-1);omega
 unfold Ix
 refine ky (Nat.lt_of_le_of_lt Nat.and_le_left ha) (ky (Nat.or_lt_two_pow ha hb) (ky (Nat.xor_lt_two_pow ha hb) (ky (jR _ _) (ky (jR _ _) (ky (jR _ _)
  (ky (ky (by omega) (Nat.lt_of_le_of_lt (Nat.div_le_self _ _) ha)) (ky (ky ha (Nat.lt_of_le_of_lt (Nat.mod_le _ _) ha)) (ky ?_ (ky ?_ (ky (Nat.mod_lt _ hp)
  (ky (Nat.lt_of_le_of_lt (Nat.div_le_self _ _) ha) (ky (jR _ _) (ky (S2 _ _ _) (S2 _ _ _))))))))))))))
 ·unfold L4
  exact ky (ky hp1 (by omega)) (jR _ _)
 ·unfold MA
  exact ky ha (jR _ _)
theorem acJ {kind:Int} {w a b:Nat} (hw:1<=w) (ha:a<2^w) (hb:b<2^w):(ua kind w a b).1<2^(ua kind w a b).2:=by
 unfold ua
 split
 ·exact Xp hw ha hb
 ·simp only;split<;>omega
theorem afA {w a b:Nat} (hw:1<=w):(sgn w (jT w (sgn w a+sgn w b))≠sgn w a+sgn w b)↔ ¬(-((2^(w-1):Nat):Int)<=sgn w a+sgn w b/\sgn w a+sgn w b<((2^(w-1):Nat):Int)):=by
 rw [ne_eq,Z1 hw]
structure SortP where
 idx:Int
 wid:Int
 deriving DecidableEq
structure NodeP where
 kind:Int
 a:Int
 b:Int
 c:Int
 n:Int
 m:Int
 sort:SortP
 name:ByteArray
structure BindP where
 state:Int
 node:Int
 deriving DecidableEq
structure ah where
 nodes:List NodeP
 inits:List BindP
 nexts:List BindP
 bads:List Int
 holds:List Int
def bO (s:SortP):Bool:=decide ((0<=s.idx/\s.idx<=2)/\(1<=s.wid/\s.wid<=16))
def cY (s:SortP):Nat:=if bO s then 2^s.idx.toNat else 0
def dz (s:SortP):Nat:=cY s*s.wid.toNat
def cP (w:Int):SortP:=⟨0,w⟩
def ak (kind:Int):Int:=
 if(1<=kind/\kind<=5)\/(30<=kind/\kind<=32)then 1 else if(6<=kind/\kind<=29)\/kind=37 then 2 else if kind=33\/kind=38 then 3 else
 if 34<=kind/\kind<=36 then 0 else-1
def iB (c:UInt8):Bool:=decide (97<=c.toNat/\c.toNat<=122)
def pD (c:UInt8):Bool:=decide (48<=c.toNat/\c.toNat<=57)
def gF (s:ByteArray):Bool:=decide (1<=s.size/\s.size<=8)&&(match s.data.toList with| []=>false|c::r=>iB c&&r.all fun c=>iB c||pD c)
def gt (kind:Int):Bool:=decide (kind=35\/kind=36)
def r8 (k:Int) (len:Nat) (i:Int) (p:Int):Bool:=if i<k then decide (0<=p/\p<=(len:Int)-1)else decide (p=0)
def fO (len:Nat) (n:NodeP):Bool:=
 decide (0<=ak n.kind)&&(r8 (ak n.kind) len 0 n.a&&r8 (ak n.kind) len 1 n.b&&r8 (ak n.kind) len 2 n.c)&&
 (if gt n.kind then gF n.name else decide (n.name.size=0))&&(decide (n.kind=30)||decide (n.m=0))&&
 (decide (n.kind=30\/n.kind=31\/n.kind=32\/n.kind=34)||decide (n.n=0))
def jt (w v:Int):Bool:=decide ((1<=w/\w<=16)/\0<=v/\v<=((2^w.toNat:Nat):Int)-1)
def dq (n:NodeP) (a b c:SortP):Option SortP:=
 if n.kind=33 then(if a=cP 1/\b=c then some b else none)else
 if n.kind=37 then(if 0<a.idx/\b=cP a.idx then some (cP a.wid)else none)else
 if n.kind=38 then(if 0<a.idx/\b=cP a.idx/\c=cP a.wid then some a else none)else
 if n.kind=21 then(if a=b then some (cP 1)else none)else
 if 0<a.idx\/(ak n.kind=2/\0<b.idx)then none else
 if n.kind=29 then(if a.wid+b.wid<=16 then some (cP (a.wid+b.wid))else none)else
 if n.kind=30 then(if(0<=n.n/\n.n<=a.wid-1)/\0<=n.m/\n.m<=n.n then some (cP (n.n-n.m+1))else none)else
 if n.kind=31\/n.kind=32 then(if 0<=n.n/\n.n<=16-a.wid then some (cP (a.wid+n.n))else none)else
 if n.kind<=5 then some (cP (if n.kind<=2 then a.wid else 1))else
 if a=b then some (cP (if n.kind<=20 then a.wid else 1))else none
def az (l:List NodeP) (p:Int):SortP:=match l[p.toNat]? with|some n=>n.sort|none=>⟨0,0⟩
def de (l:List NodeP) (n:NodeP):Option SortP:=
 if l.length<=60/\fO l.length n=true then
  (if ak n.kind=0 then(if(if n.kind=34 then decide (n.sort.idx=0)&&jt n.sort.wid n.n else bO n.sort)then some n.sort else none)else
   if bO (az l n.a)&&((decide (ak n.kind<2)||bO (az l n.b))&&(decide (ak n.kind<3)||bO (az l n.c)))then
    dq n (az l n.a) (az l n.b) (az l n.c)else none)
 else none
def cv (l:List NodeP):Bool:=(List.range l.length).all fun i=>match l[i]? with|some n=>decide (de (l.take i) n=some n.sort)|none=>true
def jS {α:Type} [DecidableEq α] (l:List α):Bool:=(List.range l.length).any fun i=>match l[i]? with|some x=>(l.take i).any fun y=>decide (y=x)|none=>false
def mJ (l:List NodeP):Bool:=(List.range l.length).any fun i=>match l[i]? with|some n=>decide (n.name.size≠0)&&(l.take i).any fun y=>decide (y.name=n.name)|none=>false
def vO (m:ah):Bool:=mJ m.nodes||(jS (m.inits.map (·.state))||jS (m.nexts.map (·.state)))
def dV (l:List NodeP):Nat->List Bool
 |0=> []
 |i+1=>dV l i++ [match l[i]? with
   |some n=>gt n.kind||((decide (0<ak n.kind)&&(dV l i).getD n.a.toNat false)||((decide (1<ak n.kind)&&(dV l i).getD n.b.toNat false)||(decide (2<ak n.kind)&&(dV l i).getD n.c.toNat false)))
   |none=>false]
def dh (l:List NodeP) (p:Int):Bool:=decide (0<=p/\p<=(l.length:Int)-1)
def jD (l:List NodeP) (p:Int):Int:=match l[p.toNat]? with|some n=>n.kind|none=>0
def jv (l:List NodeP) (b:BindP):Bool:=
 (dh l b.state&&dh l b.node&&decide (jD l b.state=36))&&((decide (az l b.state=az l b.node)||decide (az l b.node=cP (az l b.state).wid))&& !(dV l l.length).getD b.node.toNat false)
def fZ (l:List NodeP) (b:BindP):Bool:=(dh l b.state&&dh l b.node&&decide (jD l b.state=36))&&decide (az l b.state=az l b.node)
def dn (l:List NodeP) (p:Int):Bool:=dh l p&&decide (az l p=cP 1)
def am (l:List NodeP) (kind:Int):Nat:=((l.filter fun n=>decide (n.kind=kind)).map fun n=>dz n.sort).sum
def ay (l:List NodeP) (kind:Int):List Nat:=(List.range l.length).filter fun i=>match l[i]? with|some n=>decide (n.kind=kind)|none=>false
def aD (m:ah):Int:=
 if 60<m.nodes.length\/60<m.inits.length\/60<m.nexts.length\/4<m.bads.length\/4<m.holds.length then 1 else
 if cv m.nodes=false then 2 else if vO m=true then 3 else
 if(m.inits.all (jv m.nodes)&&m.nexts.all (fZ m.nodes))=false then 4 else
 if(m.bads.all (dn m.nodes)&&m.holds.all (dn m.nodes))=false then 5 else
 if 8<am m.nodes 36\/5<am m.nodes 35 then 6 else 0
def cL (v:List (List Nat)) (p:Int):Nat:=(v.getD p.toNat []).getD 0 0
def Re (a lo n:Nat):Nat:=a/2^lo%2^n
def HF (w a more:Nat) (signed:Bool):Nat:=if signed then jT (w+more) (sgn w a)else a
def fQ (l:List NodeP) (n:NodeP) (v:List (List Nat)):List Nat:=
 if n.kind=34 then [n.n.toNat]else
 if n.kind=33 then(if cL v n.a=1 then v.getD n.b.toNat []else v.getD n.c.toNat [])else
 if n.kind=21 then [if v.getD n.a.toNat []=v.getD n.b.toNat []then 1 else 0]else
 if n.kind=37 then [(v.getD n.a.toNat []).getD (cL v n.b) 0]else
 if n.kind=38 then(v.getD n.a.toNat []).set (cL v n.b) (cL v n.c)else
 if n.kind=29 then [cL v n.a*2^(az l n.b).wid.toNat+cL v n.b]else
 if n.kind=30 then [Re (cL v n.a) n.m.toNat (n.n-n.m+1).toNat]else
 if n.kind=31\/n.kind=32 then [HF (az l n.a).wid.toNat (cL v n.a) n.n.toNat (decide (n.kind=32))]else
 if ak n.kind=1 then [(yJ n.kind (az l n.a).wid.toNat (cL v n.a)).1]else [(ua n.kind (az l n.a).wid.toNat (cL v n.a) (cL v n.b)).1]
def gk (l:List NodeP) (s inp:List (List Nat)):Nat->List (List Nat)
 |0=> []
 |i+1=>gk l s inp i++ [match l[i]? with
   |some n=>if n.kind=36 then s.getD (ay (l.take i) 36).length []else if n.kind=35 then inp.getD (ay (l.take i) 35).length []else fQ l n (gk l s inp i)
   |none=> []]
def ii (n:NodeP):List Nat:=([n.a.toNat,n.b.toNat,n.c.toNat]).take (ak n.kind).toNat
theorem sW (k:Int):ak k=0\/ak k=1\/ak k=2\/ak k=3\/ak k= -1:=by
 unfold ak
 by_cases h1:(1<=k/\k<=5)\/(30<=k/\k<=32)
 ·rw [if_pos h1];simp
 rw [if_neg h1]
 by_cases h2:(6<=k/\k<=29)\/k=37
 ·rw [if_pos h2];simp
 rw [if_neg h2]
 by_cases h3:k=33\/k=38
 ·rw [if_pos h3];simp
 rw [if_neg h3]
 by_cases h4:34<=k/\k<=36
 ·rw [if_pos h4];simp
 rw [if_neg h4];simp
def DE (l:List NodeP):Prop:= ∀(i:Nat) (n:NodeP),l[i]?=some n->0<=ak n.kind/\ ∀p∈ii n,p<i
def sM (l:List NodeP) (j:Nat):Bool:=match l[j]? with|some n=>gt n.kind|none=>false
def td (l:List NodeP) (j:Nat):Bool:=(dV l l.length).getD j false
theorem jl (l:List NodeP): ∀i,(dV l i).length=i:=by
 intro i
 induction i with
 |zero=>rfl
 |succ i ih=>simp only [dV,List.length_append,ih,List.length_cons,List.length_nil]
theorem Vv (l:List NodeP): ∀d i j,j<i->(dV l (i+d)).getD j false=(dV l i).getD j false:=by
 intro d
 induction d with
 |zero=>intro i j _;rfl
 |succ d ih=>
  intro i j hj
  rw [<-Nat.add_assoc]
  simp only [dV]
  have hl:=jl l (i+d)
  rw [List.getD,List.getElem?_append_left (by omega)]
  exact ih i j hj
theorem uk {l:List NodeP} {i j:Nat} (hj:j<i) (hi:i<=l.length):(dV l i).getD j false=td l j:=by
 have:=Vv l (l.length-i) i j hj
 rw [show i+(l.length-i)=l.length by omega]at this
 exact this.symm
theorem Xl {l:List NodeP} (ha:DE l) {i:Nat} {n:NodeP} (hn:l[i]?=some n):td l i=true↔gt n.kind=true\/ ∃p∈ii n,td l p=true:=by
 have hi:i<l.length:=(List.getElem?_eq_some_iff.1 hn).1
 obtain⟨hk,hp⟩:=ha i n hn
 have e:td l i=(gt n.kind||((decide (0<ak n.kind)&&(dV l i).getD n.a.toNat false)||((decide (1<ak n.kind)&&(dV l i).getD n.b.toNat false)||(decide (2<ak n.kind)&&(dV l i).getD n.c.toNat false)))):=by
  rw [<-uk (Nat.lt_succ_self i) hi]
  simp only [dV]
  have hl:=jl l i
  rw [List.getD,List.getElem?_append_right (by omega),hl,Nat.sub_self]
  simp only [hn,List.getElem?_cons_zero,Option.getD_some]
 rw [e]
 unfold ii at hp⊢
 rcases sW n.kind with h|h|h|h|h
 ·simp [h]
 ·rw [h]at hp⊢
  have h1:=hp n.a.toNat (by simp)
  rw [uk h1 (by omega)]
  simp
 ·rw [h]at hp⊢
  have h1:=hp n.a.toNat (by simp)
  have h2:=hp n.b.toNat (by simp)
  rw [uk h1 (by omega),uk h2 (by omega)]
  simp
 ·rw [h]at hp⊢
  have h1:=hp n.a.toNat (by simp)
  have h2:=hp n.b.toNat (by simp)
  have h3:=hp n.c.toNat (by simp)
  rw [uk h1 (by omega),uk h2 (by omega),uk h3 (by omega)]
  simp
 ·omega
def jF (l:List NodeP):Nat->(Nat->Bool)->Nat->Bool
 |0,S=>S
 |i+1,S=>jF l i (if S i then fun j=>S j||(match l[i]? with|some n=>(ii n).contains j|none=>false)else S)
theorem Wj {l:List NodeP} (ha:DE l): ∀(i:Nat) (S:Nat->Bool),i<=l.length->
  ((∃j,jF l i S j=true/\sM l j=true)↔(∃j,i<=j/\S j=true/\sM l j=true)\/ ∃j,j<i/\S j=true/\td l j=true):=by
 intro i
 induction i with
 |zero=>intro S _;simp [jF]
 |succ i ih=>
  intro S hi
  simp only [jF]
  rw [ih _ (by omega)]
  obtain⟨n,hn⟩: ∃n,l[i]?=some n:=⟨l[i],List.getElem?_eq_getElem (by omega)⟩
  have hm:=Xl ha hn
  have hp:=(ha i n hn).2
  have hnm:sM l i=gt n.kind:=by unfold sM;rw [hn]
  by_cases hS:S i=true
  ·simp only [hS,if_true,hn]
   constructor
   ·rintro (⟨j,h1,h2,h3⟩|⟨j,h1,h2,h3⟩)
    ·by_cases hji:j=i
     ·subst hji
      exact .inr ⟨j,by omega,hS,hm.2 (.inl (hnm▸h3))⟩
     ·rcases Bool.or_eq_true_iff.1 h2 with h2|h2
      ·exact .inl ⟨j,by omega,h2,h3⟩
      ·have:=hp j (by simpa using h2);omega
    ·rcases Bool.or_eq_true_iff.1 h2 with h2|h2
     ·exact .inr ⟨j,by omega,h2,h3⟩
     ·exact .inr ⟨i,by omega,hS,hm.2 (.inr ⟨j,by simpa using h2,h3⟩)⟩
   ·rintro (⟨j,h1,h2,h3⟩|⟨j,h1,h2,h3⟩)
    ·exact .inl ⟨j,by omega,by simp [h2],h3⟩
    ·by_cases hji:j=i
     ·subst hji
      rcases hm.1 h3 with h4|⟨p,hp1,hp2⟩
      ·exact .inl ⟨j,Nat.le_refl _,by simp [hS],hnm▸h4⟩
      ·exact .inr ⟨p,hp p hp1,by simp [hp1],hp2⟩
     ·exact .inr ⟨j,by omega,by simp [h2],h3⟩
  ·simp only [hS,if_false]
   constructor
   ·rintro (⟨j,h1,h2,h3⟩|⟨j,h1,h2,h3⟩)
    ·by_cases hji:j=i
     ·subst hji;exact absurd h2 hS
     ·exact .inl ⟨j,by omega,h2,h3⟩
    ·exact .inr ⟨j,by omega,h2,h3⟩
   ·rintro (⟨j,h1,h2,h3⟩|⟨j,h1,h2,h3⟩)
    ·exact .inl ⟨j,by omega,h2,h3⟩
    ·by_cases hji:j=i
     ·subst hji;exact absurd h2 hS
     ·exact .inr ⟨j,by omega,h2,h3⟩
theorem acI {l:List NodeP} (ha:DE l) {i:Nat} (hi:i<l.length):(∃j,jF l (i+1) (fun j=>decide (j=i)) j=true/\sM l j=true)↔td l i=true:=by
 rw [Wj ha _ _ (by omega)]
 constructor
 ·rintro (⟨j,h1,h2,h3⟩|⟨j,h1,h2,h3⟩)
  ·simp at h2;omega
  ·simp at h2;subst h2;exact h3
 ·intro h;exact .inr ⟨i,by omega,by simp,h⟩
theorem abq {l:List NodeP} (ha:DE l) (k:Nat): ∀(i:Nat) (S:Nat->Bool),i<=k+1->i<=l.length->(∀j,S j=true->j<=k)-> ∀j,jF l i S j=true->j<=k:=by
 intro i
 induction i with
 |zero=>intro S _ _ hS j hj;exact hS j hj
 |succ i ih=>
  intro S hk hi hS j hj
  simp only [jF]at hj
  refine ih _ (by omega) (by omega) ?_ j hj
  intro j' hj'
  split at hj'
  ·rcases Bool.or_eq_true_iff.1 hj' with h|h
   ·exact hS j' h
   ·obtain⟨n,hn⟩: ∃n,l[i]?=some n:=⟨l[i],List.getElem?_eq_getElem (by omega)⟩
    rw [hn]at h
    have:=(ha i n hn).2 j' (by simpa using h)
    omega
  ·exact hS j' hj'
def mD (w:Nat):Nat->Nat->List Nat
 |0,_=> []
 |c+1,code=>mD w c code++ [code/2^(w*c)%2^w]
def bG (l:List NodeP) (p:Nat):Nat:=(az l p).wid.toNat
def aF (l:List NodeP) (p:Nat):Nat:=cY (az l p)
def cG (l:List NodeP) (ps:List Nat):Nat:=(ps.map fun p=>bG l p*aF l p).sum
def dR (l:List NodeP) (ps:List Nat) (code:Nat):List (List Nat):=
 (List.range ps.length).map fun i=>mD (bG l (ps.getD i 0)) (aF l (ps.getD i 0)) (code/2^cG l (ps.take i))
theorem qY (w c code:Nat):(mD w c code).length=c:=by
 induction c with
 |zero=>rfl
 |succ c ih=>simp only [mD,List.length_append,ih,List.length_cons,List.length_nil]
theorem TX {w c code x:Nat} (h:x∈mD w c code):x<2^w:=by
 induction c with
 |zero=>cases h
 |succ c ih=>
  simp only [mD,List.mem_append,List.mem_singleton]at h
  rcases h with h|h
  ·exact ih h
  ·subst h;exact Nat.mod_lt _ (bL w)
theorem jr (l:List NodeP) (ps:List Nat) (code:Nat):(dR l ps code).length=ps.length:=by simp [dR]
theorem Tt {α:Type} {l:List α} {i:Nat} {x:α} (h:l[i]?=some x):i<l.length:=by
 rcases Nat.lt_or_ge i l.length with h'|h'
 ·exact h'
 ·rw [List.getElem?_eq_none h']at h;cases h
theorem DH {l:List NodeP} {ps:List Nat} {code i p:Nat} (h:ps[i]?=some p):(dR l ps code).getD i []=mD (bG l p) (aF l p) (code/2^cG l (ps.take i)):=by
 have hlt:=Tt h
 have hp:ps.getD i 0=p:=by rw [List.getD_eq_getElem?_getD,h];rfl
 unfold dR
 rw [List.getD_eq_getElem?_getD,List.getElem?_map,List.getElem?_range hlt]
 simp only [Option.map_some,Option.getD_some,hp]
theorem mA {l:List NodeP} {ps:List Nat} {i p:Nat} (h:ps[i]?=some p):cG l (ps.take (i+1))=cG l (ps.take i)+bG l p*aF l p:=by
 have hlt:=Tt h
 rw [List.getElem?_eq_getElem hlt]at h
 unfold cG
 rw [List.take_succ_eq_append_getElem hlt,Option.some.inj h,List.map_append,List.sum_append];simp
theorem GT (l:List NodeP) (ps:List Nat) (i:Nat):cG l (ps.take i)<=cG l ps:=by
 conv=>rhs;rw [<-List.take_append_drop i ps]
 unfold cG
 rw [List.map_append,List.sum_append];omega
def nbA (l:List NodeP) (p:Nat):Nat:=bG l p*aF l p
def uE (l:List NodeP):List Nat->Nat->List (List Nat)
 | [],_=> []
 |p::ps,code=>mD (bG l p) (aF l p) code::uE l ps (code/2^nbA l p)
def jx (l:List NodeP):List Nat->List (List Nat)->Prop
 | [],vs=>vs= []
 |p::ps,vs=> ∃v r,vs=v::r/\v.length=aF l p/\(∀x∈v,x<2^bG l p)/\jx l ps r
theorem jI (l:List NodeP): ∀(ps:List Nat) (code:Nat),dR l ps code=uE l ps code:=by
 intro ps
 induction ps with
 |nil=>intro code;simp [dR,uE]
 |cons p ps ih=>
  intro code
  rw [uE,<-ih]
  unfold dR
  rw [List.length_cons,List.range_succ_eq_map,List.map_cons,List.map_map]
  simp only [List.getD_cons_zero,List.take_zero,cG,List.map_nil,List.sum_nil,Nat.pow_zero,Nat.div_one,List.cons.injEq,true_and]
  apply List.map_congr_left
  intro i _
  simp only [Function.comp,List.getD_cons_succ,List.take_succ_cons,List.map_cons,List.sum_cons,nbA]
  rw [Nat.pow_add,Nat.div_div_eq_div_mul]
theorem Jm (l:List NodeP): ∀(ps:List Nat) (code:Nat),jx l ps (uE l ps code):=by
 intro ps
 induction ps with
 |nil=>intro code;rfl
 |cons p ps ih=>exact fun code=>⟨_,_,rfl,qY _ _ _,fun x hx=>TX hx,ih _⟩
theorem ju {l:List NodeP}: ∀{ps:List Nat} {vs:List (List Nat)},jx l ps vs->vs.length=ps.length:=by
 intro ps
 induction ps with
 |nil=>rintro vs rfl;rfl
 |cons p ps ih=>rintro _ ⟨v,r,rfl,h1,h2,h3⟩;simp [ih h3]
theorem kV {l:List NodeP}: ∀{ps:List Nat} {vs:List (List Nat)},jx l ps vs-> ∀{i p:Nat},ps[i]?=some p->(vs.getD i []).length=aF l p/\ ∀x∈vs.getD i [],x<2^bG l p:=by
 intro ps
 induction ps with
 |nil=>rintro vs rfl i p h;simp at h
 |cons q ps ih=>
  rintro _ ⟨v,r,rfl,h1,h2,h3⟩ i p h
  cases i with
  |zero=>simp at h;subst h;exact⟨h1,h2⟩
  |succ i=>exact ih h3 (by simpa using h)
def qb (n:Nat) (p:Nat->Bool):Bool:=(List.range n).any p
structure aJ where
 n:Nat
 k:Nat
 hold:Nat->Bool
 bad:Nat->Bool
 next:Nat->Nat
 fixed:Nat
 bfix:Nat
 bas:Nat
namespace aJ
def begins (σ:aJ) (s:Nat):Bool:=decide (s&&&σ.bfix=σ.bas)
def ends (σ:aJ) (c:Nat):Bool:=σ.hold c&&σ.bad c
def goes (σ:aJ) (c t:Nat):Bool:=decide (t&&&σ.fixed=σ.next c)
def at_ (σ:aJ) (s i:Nat):Nat:=i*2^σ.n+s
def some_ (σ:aJ) (f:Nat->Nat->Bool) (s:Nat):Bool:=qb (2^σ.k) fun i=>f s (σ.at_ s i)
def leads (σ:aJ) (S:Nat->Bool) (c:Nat):Bool:=qb (2^σ.n) fun t=>S t&&σ.goes c t
def fwd (σ:aJ) (p S:Nat->Bool) (t:Nat):Bool:=qb (2^(σ.n+σ.k)) fun c=>(S (c%2^σ.n)&&p c)&&σ.goes c t
def bwd (σ:aJ) (p S:Nat->Bool):Nat->Bool:=σ.some_ fun _ c=>p c&&σ.leads S c
def lay (σ:aJ):Nat->(Nat->Bool)×(Nat->Bool)
 |0=>(σ.begins,fun _=>false)
 |i+1=>(fun t=>σ.fwd σ.hold (σ.lay i).1 t&& !((σ.lay i).2 t||(σ.lay i).1 t),fun t=>(σ.lay i).2 t||(σ.lay i).1 t)
def front (σ:aJ) (i:Nat):Nat->Bool:=(σ.lay i).1
def seen (σ:aJ) (i:Nat):Nat->Bool:=(σ.lay i).2
def live (σ:aJ) (i:Nat):Bool:=qb (2^σ.n) (σ.front i)
def nLay (σ:aJ):Nat:=(List.range (2^σ.n+1)).findIdx fun i=> !σ.live i
def endsAt (σ:aJ):Nat->Bool:=σ.some_ fun _ c=>σ.ends c
def hits (σ:aJ) (i:Nat):Bool:=qb (2^σ.n) fun s=>σ.front i s&&σ.endsAt s
def depth (σ:aJ):Option Nat:=(List.range σ.nLay).find? fun i=>σ.hits i
def back (σ:aJ):Nat->Nat->Bool
 |0=>σ.endsAt
 |i+1=>σ.some_ fun s c=>σ.back i s||(σ.hold c&&σ.leads (σ.back i) c)
def clean (σ:aJ) (c:Nat):Bool:=σ.hold c&& !σ.bad c
def back2 (σ:aJ):Nat->Nat->Bool
 |0=>σ.endsAt
 |i+1=>σ.bwd σ.clean (σ.back2 i)
def kind (σ:aJ) (k:Nat):Int:=if(match σ.depth with|some d=>decide (d<k)|none=>false)then 1 else if qb (2^σ.n) (σ.back2 k)then 2 else 0
end aJ
theorem aai {x:Int} {n:Nat} (hn:n<=64):mU x (n:Int)=x/((2^n:Nat):Int):=by
 unfold mU
 have h1:min (Int.toNat (n:Int)) IntKind.i64.bits=n:=by simp [IntKind.bits];omega
 rw [h1,Int.fdiv_eq_ediv_of_nonneg _ (Int.pow_nonneg (by decide))]
 simp
theorem gU {x:Int} {w:Nat} (hw:w<=62):sD x (((2^w:Nat):Int)-1)=((jT w x:Nat):Int):=by
 have h2:=nO hw
 have hp:=bL w
 have hm:(((2^w:Nat):Int)-1)=((2^w-1:Nat):Int):=by omega
 rw [hm]
 show IntKind.i64.wrap _=_
 have h1:(BitVec.ofInt IntKind.i64.bits x&&&BitVec.ofInt IntKind.i64.bits ((2^w-1:Nat):Int)).toNat=jT w x:=by
  show (BitVec.ofInt 64 x&&&BitVec.ofInt 64 ((2^w-1:Nat):Int)).toNat=jT w x
  rw [BitVec.ofInt_natCast,BitVec.toNat_and,BitVec.toNat_ofNat,BitVec.toNat_ofInt,Nat.mod_eq_of_lt (by omega),Nat.and_two_pow_sub_one_eq_mod]
  have hd:((2^w:Nat):Int)∣((2^64:Nat):Int):=Int.natCast_dvd_natCast.2 (Nat.pow_dvd_pow 2 (by omega))
  have h3:=Int.emod_emod_of_dvd x hd
  have h4:=Int.emod_nonneg x (b:=((2^64:Nat):Int)) (by decide)
  unfold jT
  rw [<-h3]
  generalize x%((2^64:Nat):Int)=y at*
  obtain⟨z,rfl⟩: ∃z:Nat,y=z:=⟨y.toNat,by omega⟩
  rw [<-Int.natCast_emod,Int.toNat_natCast,Int.toNat_natCast]
 rw [h1]
 exact fu (by have:=jR w x;omega)
theorem YJ {w:Nat} (hw:w<=62):ax (-1) (w:Int)= -((2^w:Nat):Int):=by
 have h2:=nO hw
 unfold ax
 have h1:min (Int.toNat (w:Int)) IntKind.i64.bits=w:=by simp [IntKind.bits];omega
 rw [h1]
 have h3:(-1:Int)*2^w= -((2^w:Nat):Int):=by simp
 have key: ∀N:Nat,N<=4611686018427387904->W (-(N:Int))= -(N:Int):=fun N h=>bQ (by omega) (by omega)
 rw [h3];exact key _ h2
theorem Bn {w:Nat} (hw:w<=16):2^w<=65536:=by
 have:=Nat.pow_le_pow_right (n:=2) (by omega) hw
 simpa using this
theorem kB {w v:Int}:jt w v=true↔(1<=w/\w<=16)/\0<=v/\v<((2^w.toNat:Nat):Int):=by
 unfold jt
 rw [decide_eq_true_eq]
 constructor
 ·rintro ⟨h1,h2,h3⟩;exact⟨h1,h2,by omega⟩
 ·rintro ⟨h1,h2,h3⟩;exact⟨h1,h2,by omega⟩
theorem dC {h:Hp} {w:Nat} {R:Value->Hp->Prop} (hw:w<=62) (k:R (I (((2^w:Nat):Int)-1)) h):cO #[I w] h R:=by
 apply Ph
 refine uf_ ?_
 have:=nO hw
 have hp:=bL w
 rw [if_neg (by omega),ck hw,bQ (by omega) (by omega)]
 exact k
theorem C1 {h:Hp} {w:Int} {R:Value->Hp->Prop} (k:R (.bool (decide (1<=w/\w<=16))) h):pS #[I w] h R:=by
 apply HD
 refine uf_ ?_
 exact gX ⟨_,rfl,k⟩
theorem xf {h:Hp} {w:Int} {R:Value->Hp->Prop} (k:R (.bool (decide (1<=w/\w<=16))) h):mj #[I w] h R:=by
 apply JQ
 refine uf_ ?_
 exact dM ⟨_,rfl,k⟩
theorem Ia (w v:Int):jt w v=(decide (1<=w/\w<=16)&&decide (0<=v/\v<=((2^w.toNat:Nat):Int)-1)):=by
 unfold jt;rw [Bool.eq_iff_iff];simp
theorem DW {h:Hp} {w v:Int} {R:Value->Hp->Prop} (k:R (.bool (jt w v)) h):vg #[I w,I v] h R:=by
 apply Ky
 refine uf_ ?_
 rw [Ia]at k
 refine C1 ⟨_,rfl,ad (fun e=>?_) (fun e=>?_)⟩
 ·rw [e,Bool.true_and]at k
  have e':1<=w/\w<=16:=by simpa using e
  obtain⟨n,rfl⟩: ∃n:Nat,w=n:=⟨w.toNat,by omega⟩
  rw [Int.toNat_natCast]at k
  exact dC (by omega) ⟨_,rfl,gX ⟨_,rfl,k⟩⟩
 ·rw [e,Bool.false_and]at k;exact k
theorem cF {h:Hp} {w v:Int} {R:Value->Hp->Prop} (k:R (.bool (jt w v)) h):dx #[I w,I v] h R:=by
 apply Lm
 refine uf_ ?_
 rw [Ia]at k
 refine xf ⟨_,rfl,ad (fun e=>?_) (fun e=>?_)⟩
 ·rw [e,Bool.true_and]at k
  have e':1<=w/\w<=16:=by simpa using e
  obtain⟨n,rfl⟩: ∃n:Nat,w=n:=⟨w.toNat,by omega⟩
  rw [Int.toNat_natCast]at k
  have:=nO (n:=n) (by omega)
  have hp:=bL n
  rw [cR (by omega),if_neg (by omega),ck (by omega),bQ (by omega) (by omega)]
  exact dM ⟨_,rfl,k⟩
 ·rw [e,Bool.false_and]at k;exact k
def WO (w a:Nat):Prop:=(1<=w/\w<=16)/\a<2^w
theorem WO.ok {w a:Nat} (e:WO w a):jt (w:Int) (a:Int)=true:=kB.2 ⟨by have:=e.1;omega,by omega,by rw [Int.toNat_natCast];have:=e.2;omega⟩
theorem WO.pow {w a:Nat} (e:WO w a):2^w<=65536:=Bn e.1.2
theorem oQ {h:Hp} {w a:Nat} {R:Value->Hp->Prop} (e:WO w a) (k:R (I (sgn w a)) h):iE #[I w,I a] h R:=by
 apply Km
 refine uf_ ?_
 obtain⟨⟨h1,h2⟩,ha⟩:=e
 have hp:=rE h1
 have h16:=Bn h2
 have w1:W ((w:Int)-1)=((w-1:Nat):Int):=by rw [bQ (by omega) (by omega)];omega
 rw [w1,if_neg (by omega),if_neg (by omega),js (by omega)]
 unfold sgn at k
 by_cases hs:2^(w-1)<=a
 ·have e1:a/2^(w-1)=1:=by rw [Nat.div_eq_iff (bL _)];omega
  rw [e1,iY (by omega) (by omega),Nat.one_mul,bQ (by omega) (by omega)]
  rw [if_pos hs]at k;exact k
 ·have e1:a/2^(w-1)=0:=Nat.div_eq_of_lt (by omega)
  rw [e1,iY (by omega) (by omega),Nat.zero_mul,bQ (by omega) (by omega)]
  rw [if_neg hs]at k
  simpa using k
theorem jm {h:Hp} {w a:Nat} {R:Value->Hp->Prop} (e:WO w a) (k:R (I (sgn w a)) h):eO #[I w,I a] h R:=by
 apply Ds
 refine uf_ ?_
 obtain⟨⟨h1,h2⟩,ha⟩:=e
 have hp:=rE h1
 have h16:=Bn h2
 have w1:W ((w:Int)-1)=((w-1:Nat):Int):=by rw [bQ (by omega) (by omega)];omega
 refine cF ⟨_,rfl,aA (by rw [WO.ok ⟨⟨h1,h2⟩,ha⟩];rfl) ?_⟩
 rw [w1,cR (by omega),if_neg (by omega),ck (by omega)]
 unfold sgn at k
 refine ad (fun e=>?_) (fun e=>?_)
 ·have hs:2^(w-1)<=a:=by
   have:=of_decide_eq_true e;omega
  rw [if_pos hs]at k
  rw [cR (by omega),if_neg (by omega),ck (by omega),bQ (by omega) (by omega)]
  exact k
 ·have hs: ¬2^(w-1)<=a:=by
   have:=of_decide_eq_false e;omega
  rw [if_neg hs]at k;exact k
theorem RL (w:Nat) (n:Int):((jT w n:Nat):Int)=if Int.tmod n ((2^w:Nat):Int)<0 then Int.tmod n ((2^w:Nat):Int)+((2^w:Nat):Int)else Int.tmod n ((2^w:Nat):Int):=by
 rw [Ib]
 have hp:(0:Int)<((2^w:Nat):Int):=Int.ofNat_lt.2 (bL w)
 have h1:=Int.emod_nonneg n (b:=((2^w:Nat):Int)) (by omega)
 have h2:=Int.emod_lt_of_pos n hp
 have h3:=Int.tmod_eq_emod (a:=n) (b:=((2^w:Nat):Int))
 have h4:n%((2^w:Nat):Int)=0->((2^w:Nat):Int)∣n:=Int.dvd_of_emod_eq_zero
 rw [h3]
 generalize ((2^w:Nat):Int)=N at*
 by_cases hn:0<=n\/N∣n
 ·rw [if_pos hn];split<;>omega
 ·have h5:n%N≠0:=fun e=>hn (.inr (h4 e))
  rw [if_neg hn]
  generalize n%N=r at*
  split<;>omega
theorem iL {h:Hp} {w:Nat} {n:Int} {R:Value->Hp->Prop} (hw:1<=w/\w<=16) (k:R (I (jT w n)) h):ez #[I w,I n] h R:=by
 apply Gt
 refine uf_ ?_
 have h16:=Bn hw.2
 have hp:=bL w
 have hlt:=jR w n
 have ht:=RL w n
 refine xf ⟨_,rfl,aA (by simp;omega) ?_⟩
 rw [cR (by omega),if_neg (by omega),ck (by omega),if_neg (by omega)]
 refine ad (fun e=>?_) (fun e=>?_)
 ·have e':=of_decide_eq_true e
  rw [if_pos e']at ht
  rw [if_neg (by omega),bQ (by omega) (by omega),<-ht];exact k
 ·have e':=of_decide_eq_false e
  rw [if_neg e']at ht
  rw [<-ht];exact k
theorem FI {h:Hp} {w a:Nat} {R:Value->Hp->Prop} (hw:w<=16) (k:R (I (ke w a)) h):qR #[I w,I a] h R:=by
 apply KE
 refine uf_ ?_
 refine ar w (fun i vs h'=>vs= [I w,I a,I (ke i a),I i]/\h'=h) ⟨rfl,rfl⟩ ?_
 rintro i _ _ next hi ⟨rfl,rfl⟩ hn
 refine⟨_,_,_,_,rfl,?_⟩
 by_cases hlt:i<w
 ·refine aL (by simp [hlt]) (jc (by omega) ⟨_,rfl,?_⟩)
  have hl:=Qk i a
  have e:W ((ke i a:Int)+(if a.testBit i then 1 else 0))=((ke (i+1) a:Nat):Int):=by
   rw [bQ (by split<;>omega) (by split<;>omega)]
   simp only [ke]
   split<;>simp
  rw [e,aw (by omega)]
  exact hn hlt _ _ ⟨rfl,rfl⟩
 ·have:i=w:=by omega
  subst this
  exact aA (by simp) k
theorem O7 {a b:Nat} (ha:a<18446744073709551616) (hb:b<18446744073709551616):bA .and .u64 (a:Int) (b:Int)=((a&&&b:Nat):Int):=by
 show IntKind.u64.wrap _=_
 have h1:(BitVec.ofInt IntKind.u64.bits (a:Int)&&&BitVec.ofInt IntKind.u64.bits (b:Int)).toNat=a&&&b:=by
  show (BitVec.ofInt 64 (a:Int)&&&BitVec.ofInt 64 (b:Int)).toNat=a&&&b
  rw [BitVec.ofInt_natCast,BitVec.ofInt_natCast,BitVec.toNat_and,BitVec.toNat_ofNat,BitVec.toNat_ofNat,Nat.mod_eq_of_lt (by omega),Nat.mod_eq_of_lt (by omega)]
 rw [h1,IntKind.wrap_u64]
 have:=Nat.and_le_left (n:=a) (m:=b)
 omega
def W7 (x:Nat):Nat:=(x/2&&&6148914691236517205)+(x&&&6148914691236517205)
def Yp (x:Nat):Nat:=(x/4&&&3689348814741910323)+(x&&&3689348814741910323)
def Yo (x:Nat):Nat:=(x/16+x)&&&1085102592571150095
def Xt (x:Nat):Nat:=x/256+x
def aaA (x:Nat):Nat:=x/65536+x
def Y1 (x:Nat):Nat:=x/4294967296+x
def J7 (x:Nat):Nat:=Y1 (aaA (Xt (Yo (Yp (W7 x)))))&&&127
def Rk (x:Nat):Bool:=Nat.beq (J7 (2*x)) (J7 x)&&Nat.beq (J7 (2*x+1)) (J7 x+1)
def Qi (hi:Nat):Nat->Bool
 |0=>true
 |n+1=>Rk (hi*256+n)&&Qi hi n
def Tz :Nat->Bool
 |0=>true
 |n+1=>Qi n 256&&Tz n
theorem abG :Tz 128=true:=by kernel_rfl
theorem aal {hi:Nat}: ∀n,Qi hi n=true-> ∀i,i<n->Rk (hi*256+i)=true:=by
 intro n
 induction n with
 |zero=>intro _ i h;omega
 |succ n ih=>
  intro h i hi
  simp only [Qi,Bool.and_eq_true]at h
  by_cases e:i=n
  ·subst e;exact h.1
  ·exact ih h.2 i (by omega)
theorem XF : ∀n,Tz n=true-> ∀i,i<n->Qi i 256=true:=by
 intro n
 induction n with
 |zero=>intro _ i h;omega
 |succ n ih=>
  intro h i hi
  simp only [Tz,Bool.and_eq_true]at h
  by_cases e:i=n
  ·subst e;exact h.1
  ·exact ih h.2 i (by omega)
theorem Xa {x:Nat} (h:x<32768):J7 (2*x)=J7 x/\J7 (2*x+1)=J7 x+1:=by
 have h1:=XF 128 abG (x/256) (by omega)
 have h2:=aal 256 h1 (x%256) (Nat.mod_lt _ (by omega))
 rw [show x/256*256+x%256=x by omega]at h2
 simp only [Rk,Bool.and_eq_true]at h2
 exact⟨Nat.eq_of_beq_eq_true h2.1,Nat.eq_of_beq_eq_true h2.2⟩
theorem Ra (a:Nat): ∀w,ke (w+1) a=a%2+ke w (a/2):=by
 intro w
 induction w with
 |zero=>
  simp only [ke,Nat.testBit_zero]
  rcases Nat.mod_two_eq_zero_or_one a with h|h<;>simp [h]
 |succ w ih=>
  rw [ke,ih,ke,Nat.testBit_succ];omega
theorem ab7 : ∀w,w<=16-> ∀x,x<2^w->J7 x=ke w x:=by
 intro w
 induction w with
 |zero=>intro _ x hx;have:x=0:=by simpa using hx
        subst this;rfl
 |succ w ih=>
  intro hw x hx
  have h16:2^w<=32768:=by
   have:=Nat.pow_le_pow_right (n:=2) (by omega) (show w<=15 by omega)
   simpa using this
  have hp:2^(w+1)=2*2^w:=by rw [Nat.pow_succ];omega
  have h1:=ih (by omega) (x/2) (by omega)
  have h2:=Xa (x:=x/2) (by omega)
  rw [Ra,<-h1]
  rcases Nat.mod_two_eq_zero_or_one x with h|h
  ·have e:2*(x/2)=x:=by omega
   rw [e]at h2;rw [h2.1,h];omega
  ·have e:2*(x/2)+1=x:=by omega
   rw [e]at h2;rw [h2.2,h];omega
theorem Mj {a k:Nat} (hk:k<=64):Int.fdiv (a:Int) (2^(min (Int.toNat (k:Int)) (IntKind.bits .u64)))=((a/2^k:Nat):Int):=by
 have h1:min (Int.toNat (k:Int)) (IntKind.bits .u64)=k:=by simp [IntKind.bits];omega
 rw [h1,Int.fdiv_eq_ediv_of_nonneg _ (Int.pow_nonneg (by decide))]
 simp
def q1 (x:Int):Int:=IntKind.wrap .u64 ((bA .and .u64 (Int.fdiv x (2^(min (Int.toNat 1) (IntKind.bits .u64)))) 6148914691236517205)+(bA .and .u64 x 6148914691236517205))
def q2 (x:Int):Int:=IntKind.wrap .u64 ((bA .and .u64 (Int.fdiv x (2^(min (Int.toNat 2) (IntKind.bits .u64)))) 3689348814741910323)+(bA .and .u64 x 3689348814741910323))
def q3 (x:Int):Int:=bA .and .u64 (IntKind.wrap .u64 ((Int.fdiv x (2^(min (Int.toNat 4) (IntKind.bits .u64))))+x)) 1085102592571150095
def q4 (x:Int):Int:=IntKind.wrap .u64 (x+Int.fdiv x (2^(min (Int.toNat 8) (IntKind.bits .u64))))
def q5 (x:Int):Int:=IntKind.wrap .u64 (x+Int.fdiv x (2^(min (Int.toNat 16) (IntKind.bits .u64))))
def q6 (x:Int):Int:=IntKind.wrap .u64 (x+Int.fdiv x (2^(min (Int.toNat 32) (IntKind.bits .u64))))
theorem Hf {h:Hp} {a:Nat} {R:Value->Hp->Prop} (ha:a<65536) (k:R (I (ke 16 a)) h):lj #[.int .u64 a] h R:=by
 apply yC
 refine uf_ ?_
 apply wm
 refine uf_ ?_
 refine⟨_,rfl,?_⟩
 have e1:q1 a=((W7 a:Nat):Int):=by
  have l1:=Nat.and_le_left (n:=a/2) (m:=6148914691236517205)
  have l2:=Nat.and_le_left (n:=a) (m:=6148914691236517205)
  have:=Mj (a:=a) (k:=1) (by omega)
  unfold q1 W7
  rw [show (Int.toNat 1)=Int.toNat ((1:Nat):Int)from rfl,this,Nat.pow_one]
  rw [show (6148914691236517205:Int)=((6148914691236517205:Nat):Int)from rfl,O7 (by omega) (by omega),O7 (by omega) (by omega),<-Int.natCast_add,cR (by omega)]
 have b1:W7 a<=98304:=by
  have l1:=Nat.and_le_left (n:=a/2) (m:=6148914691236517205)
  have l2:=Nat.and_le_left (n:=a) (m:=6148914691236517205)
  unfold W7;omega
 have e2: ∀x:Nat,x<=98304->q2 x=((Yp x:Nat):Int)/\Yp x<=196608:=by
  intro x hx
  have l1:=Nat.and_le_left (n:=x/4) (m:=3689348814741910323)
  have l2:=Nat.and_le_left (n:=x) (m:=3689348814741910323)
  have:=Mj (a:=x) (k:=2) (by omega)
  refine⟨?_,by unfold Yp;omega⟩
  unfold q2 Yp
  rw [show (Int.toNat 2)=Int.toNat ((2:Nat):Int)from rfl,this,show 2^2=4 from rfl]
  rw [show (3689348814741910323:Int)=((3689348814741910323:Nat):Int)from rfl,O7 (by omega) (by omega),O7 (by omega) (by omega),<-Int.natCast_add,cR (by omega)]
 have e3: ∀x:Nat,x<=196608->q3 x=((Yo x:Nat):Int)/\Yo x<=393216:=by
  intro x hx
  have l1:=Nat.and_le_left (n:=x/16+x) (m:=1085102592571150095)
  have:=Mj (a:=x) (k:=4) (by omega)
  refine⟨?_,by unfold Yo;omega⟩
  unfold q3 Yo
  rw [show (Int.toNat 4)=Int.toNat ((4:Nat):Int)from rfl,this,show 2^4=16 from rfl,<-Int.natCast_add,cR (by omega)]
  rw [show (1085102592571150095:Int)=((1085102592571150095:Nat):Int)from rfl,O7 (by omega) (by omega)]
 have e4: ∀x:Nat,x<=393216->q4 x=((Xt x:Nat):Int)/\Xt x<=786432:=by
  intro x hx
  have:=Mj (a:=x) (k:=8) (by omega)
  refine⟨?_,by unfold Xt;omega⟩
  unfold q4 Xt
  rw [show (Int.toNat 8)=Int.toNat ((8:Nat):Int)from rfl,this,show 2^8=256 from rfl,<-Int.natCast_add,cR (by omega),Nat.add_comm]
 have e5: ∀x:Nat,x<=786432->q5 x=((aaA x:Nat):Int)/\aaA x<=1572864:=by
  intro x hx
  have:=Mj (a:=x) (k:=16) (by omega)
  refine⟨?_,by unfold aaA;omega⟩
  unfold q5 aaA
  rw [show (Int.toNat 16)=Int.toNat ((16:Nat):Int)from rfl,this,show 2^16=65536 from rfl,<-Int.natCast_add,cR (by omega),Nat.add_comm]
 have e6: ∀x:Nat,x<=1572864->q6 x=((Y1 x:Nat):Int)/\Y1 x<=3145728:=by
  intro x hx
  have:=Mj (a:=x) (k:=32) (by omega)
  refine⟨?_,by unfold Y1;omega⟩
  unfold q6 Y1
  rw [show (Int.toNat 32)=Int.toNat ((32:Nat):Int)from rfl,this,show 2^32=4294967296 from rfl,<-Int.natCast_add,cR (by omega),Nat.add_comm]
 have b2:=(e2 _ b1).2
 have b3:=(e3 _ b2).2
 have b4:=(e4 _ b3).2
 have b5:=(e5 _ b4).2
 have b6:=(e6 _ b5).2
 show R (I (sD (W (q6 (q5 (q4 (q3 (q2 (q1 a))))))) 127)) h
 rw [e1,(e2 _ b1).1,(e3 _ b2).1,(e4 _ b3).1,(e5 _ b4).1,(e6 _ b5).1,fu (by omega),show (127:Int)=((127:Nat):Int)from rfl,zn (by omega) (by omega)]
 have:=ab7 16 (by omega) a (by simpa using ha)
 unfold J7 at this
 rw [this];exact k
theorem Q9 {w a:Nat} (ha:a<2^w): ∀d,ke (w+d) a=ke w a:=by
 intro d
 induction d with
 |zero=>rfl
 |succ d ih=>
  have hz:a.testBit (w+d)=false:=Nat.testBit_lt_two_pow (Nat.lt_of_lt_of_le ha (Nat.pow_le_pow_right (by omega) (by omega)))
  rw [<-Nat.add_assoc,ke,ih,hz]
  simp
theorem Yl {h:Hp} {kind:Int} {w a:Nat} {R:Value->Hp->Prop} (hk:1<=kind/\kind<=5) (e:WO w a)
  (k:R (.tuple #[I (yJ kind w a).1,I (yJ kind w a).2]) h):BA #[I kind,I w,I a] h R:=by
 apply SB
 refine uf_ ?_
 have h16:=e.pow
 have hp:=bL w
 have ha:=e.2
 have hw:=e.1
 unfold yJ at k
 refine ad (fun e1=>?_) (fun e1=>ad (fun e2=>?_) (fun e2=>ad (fun e3=>?_) (fun e3=>ad (fun e4=>?_) (fun e4=>?_))))
 ·rw [if_pos (by simpa using e1)]at k
  refine dC (by omega) ⟨_,rfl,?_⟩
  have:W ((((2^w:Nat):Int)-1)-a)=((2^w-1-a:Nat):Int):=by rw [bQ (by omega) (by omega)];omega
  rw [this];exact k
 ·rw [if_neg (by simpa using e1),if_pos (by simpa using e2)]at k
  refine dC (by omega) ⟨_,rfl,?_⟩
  rw [bQ (n:=0-(a:Int)) (by omega) (by omega),gU (by omega),Int.zero_sub]
  exact k
 ·rw [if_neg (by simpa using e1),if_neg (by simpa using e2),if_pos (by simpa using e3)]at k
  refine Cn ⟨_,rfl,?_⟩
  by_cases h0:a=0
  ·subst h0;simpa using k
  ·have:((a:Int) !=0)=true:=by simpa using h0
   rw [this];rw [if_neg h0]at k;simpa using k
 ·rw [if_neg (by simpa using e1),if_neg (by simpa using e2),if_neg (by simpa using e3),if_pos (by simpa using e4)]at k
  refine dC (by omega) ⟨_,rfl,Cn ⟨_,rfl,?_⟩⟩
  by_cases h0:a=2^w-1
  ·have:((a:Int)==((2^w:Nat):Int)-1)=true:=by rw [beq_iff_eq];omega
   rw [this];rw [if_pos h0]at k;simpa using k
  ·have:((a:Int)==((2^w:Nat):Int)-1)=false:=by rw [beq_eq_false_iff_ne];omega
   rw [this];rw [if_neg h0]at k;simpa using k
 ·rw [if_neg (by simpa using e1),if_neg (by simpa using e2),if_neg (by simpa using e3),if_neg (by simpa using e4)]at k
  rw [cR (by omega)]
  refine Hf (by omega) ⟨_,rfl,?_⟩
  have:=Q9 ha (16-w)
  rw [show w+(16-w)=16 by omega]at this
  rw [this,Il];exact k
theorem Cv {h:Hp} {kind:Int} {w a:Nat} {R:Value->Hp->Prop} (hk:1<=kind/\kind<=5) (e:WO w a)
  (k:R (.tuple #[I (yJ kind w a).1,I (yJ kind w a).2, .bool true]) h):pF #[I kind,I w,I a] h R:=by
 apply HO
 refine uf_ ?_
 have h16:=e.pow
 have hp:=bL w
 have ha:=e.2
 have hw:=e.1
 unfold yJ at k
 refine cF ⟨_,rfl,aA (by rw [e.ok];rfl) ?_⟩
 refine ad (fun e1=>?_) (fun e1=>ad (fun e2=>?_) (fun e2=>ad (fun e3=>?_) (fun e3=>ad (fun e4=>?_) (fun e4=>?_))))
 ·rw [if_pos (by simpa using e1)]at k
  rw [cR (by omega),if_neg (by omega),ck (by omega),bQ (n:=((2^w:Nat):Int)-1) (by omega) (by omega)]
  have:W ((((2^w:Nat):Int)-1)-a)=((2^w-1-a:Nat):Int):=by rw [bQ (by omega) (by omega)];omega
  rw [this];exact k
 ·rw [if_neg (by simpa using e1),if_pos (by simpa using e2)]at k
  rw [bQ (n:=0-(a:Int)) (by omega) (by omega),Int.zero_sub]
  exact iL hw ⟨_,rfl,k⟩
 ·rw [if_neg (by simpa using e1),if_neg (by simpa using e2),if_pos (by simpa using e3)]at k
  refine tD ⟨_,rfl,?_⟩
  by_cases h0:a=0
  ·subst h0;simpa using k
  ·have:decide ((a:Int)>0)=true:=by simp;omega
   rw [this];rw [if_neg h0]at k;simpa using k
 ·rw [if_neg (by simpa using e1),if_neg (by simpa using e2),if_neg (by simpa using e3),if_pos (by simpa using e4)]at k
  refine FI (by omega) ⟨_,rfl,tD ⟨_,rfl,?_⟩⟩
  have hf:=RR ha
  by_cases h0:a=2^w-1
  ·have:(((ke w a:Nat):Int)==(w:Int))=true:=by rw [beq_iff_eq,hf.2 h0]
   rw [this];rw [if_pos h0]at k;simpa using k
  ·have:(((ke w a:Nat):Int)==(w:Int))=false:=by rw [beq_eq_false_iff_ne];intro he;exact h0 (hf.1 (by omega))
   rw [this];rw [if_neg h0]at k;simpa using k
 ·rw [if_neg (by simpa using e1),if_neg (by simpa using e2),if_neg (by simpa using e3),if_neg (by simpa using e4)]at k
  have:kind=5:=by
   have h1:kind≠1:=by simpa using e1
   have h2:kind≠2:=by simpa using e2
   have h3:kind≠3:=by simpa using e3
   have h4:kind≠4:=by simpa using e4
   omega
  refine aL (by simpa using this) (FI (by omega) ⟨_,rfl,?_⟩)
  rw [Il];exact k
theorem eh (a b:Nat):Int.tmod (a:Int) (b:Int)=((a%b:Nat):Int):=(Int.ofNat_tmod a b).symm
theorem uy (a b:Nat):Int.tdiv (a:Int) (b:Int)=((a/b:Nat):Int):=(Int.ofNat_tdiv a b).symm
theorem E4 {a b:Nat} (ha:a<65536) (hb:b<=65536):a*b<=4294967296:=by
 have:=Nat.mul_le_mul (Nat.le_of_lt ha) hb
 omega
theorem FP {w a:Nat} (e:WO w a): -65536<=sgn w a/\sgn w a<=65536:=by
 have h:=LH e.1.1 e.2
 have hp:=rE e.1.1
 have h16:=e.pow
 omega
theorem bz {a b:Int} (e:(a==b)=false): ¬a=b:=by simpa using e
theorem bU {a b:Int} (e:(a==b)=true):a=b:=by simpa using e
theorem Fz {h:Hp} {w a p:Nat} {R:Value->Hp->Prop} (e:WO w a) (k:R (I (Ht w a (p%w))) h):qT #[I w,I a,I p] h R:=by
 apply KO
 refine uf_ ?_
 obtain⟨⟨h1,h2⟩,ha⟩:=e
 have h16:=Bn h2
 have hm:p%w<w:=Nat.mod_lt _ (by omega)
 have hpm:=Bn (w:=p%w) (by omega)
 have ht:Int.tmod (p:Int) (w:Int)=((p%w:Nat):Int):=eh p w
 have hw:W ((w:Int)-((p%w:Nat):Int))=((w-p%w:Nat):Int):=by rw [bQ (by omega) (by omega)];omega
 have hmul:=E4 (a:=a) (b:=2^(p%w)) (by omega) hpm
 rw [if_neg (by omega),ht,if_neg (by omega),hw,if_neg (by omega)]
 refine dC (by omega) ⟨_,rfl,?_⟩
 have hd:a/2^(w-p%w)<=a:=Nat.div_le_self _ _
 rw [iY (by omega) (by omega),js (by omega),CY (by omega) (by omega),gU (by omega),oJ]
 exact k
theorem Nr {h:Hp} {kind:Int} {w a b:Nat} {R:Value->Hp->Prop} (hk:kind=14\/kind=15) (ea:WO w a) (eb:WO w b)
  (k:R (I ((if kind=14 then L4 w a b else MA w a b:Nat):Int)) h):t4 #[I kind,I w,I a,I b] h R:=by
 apply IL
 refine uf_ ?_
 have h16:=ea.pow
 have hp:=bL w
 have sa:=FP ea
 have sb:=FP eb
 have hw:=ea.1
 refine oQ ea ⟨_,rfl,oQ eb ⟨_,rfl,?_⟩⟩
 unfold L4 MA at k
 by_cases hy:sgn w b=0
 ·rw [if_pos hy,if_pos hy]at k
  rw [hy]
  refine aq (fun J=>J (decide (kind=15))) ?_ (fun J hJ=>aL rfl (by rw [show (kind==15)=decide (kind=15)from rfl];exact hJ))
  refine ad (fun e=>?_) (fun e=>?_)
  ·have e':kind=15:=by simpa using e
   rw [if_neg (by omega)]at k;exact k
  ·have e':kind=14:=by have: ¬kind=15:=by simpa using e
                       omega
   rw [if_pos e']at k
   refine aq (fun J=>J (decide (sgn w a<0))) ?_ (fun J hJ=>aL rfl hJ)
   refine ad (fun e=>?_) (fun e=>aL rfl (dC (by omega) ⟨_,rfl,?_⟩))
   ·rw [if_pos (by simpa using e)]at k;exact k
   ·rw [if_neg (by simpa using e)]at k
    have:((2^w-1:Nat):Int)=((2^w:Nat):Int)-1:=by omega
    rw [<-this];exact k
 ·rw [if_neg hy,if_neg hy]at k
  have hyb:(sgn w b==0)=false:=by simpa using hy
  refine aq (fun J=>J false) ?_ (fun J hJ=>aA hyb hJ)
  refine aA rfl (aq (fun J=>J false) ?_ (fun J hJ=>aA hyb hJ))
  refine aA rfl (aA hyb ?_)
  have hdiv:(Int.tdiv (sgn w a) (sgn w b)).natAbs<=65536:=by
   rw [Int.natAbs_tdiv]
   exact Nat.le_trans (Nat.div_le_self _ _) (by omega)
  refine ad (fun e=>?_) (fun e=>?_)
  ·rw [if_pos (by simpa using e)]at k
   rw [if_neg hy]
   refine dC (by omega) ⟨_,rfl,?_⟩
   rw [bQ (by omega) (by omega),gU (by omega)];exact k
  ·rw [if_neg (by simpa using e)]at k
   rw [if_neg hy]
   refine dC (by omega) ⟨_,rfl,?_⟩
   rw [gU (by omega)];exact k
def ET (kind:Int) (w a b:Nat):Nat:=if kind=16 then abE w a b else if kind=17 then abW w a b else ace w a b
theorem NF {h:Hp} {kind:Int} {w a b:Nat} {R:Value->Hp->Prop} (ea:WO w a) (hb:b<=65536)
  (k:R (I (ET kind w a b)) h):uc #[I kind,I w,I a,I b] h R:=by
 apply HS
 refine uf_ ?_
 have h16:=ea.pow
 have ha:=ea.2
 have hw:=ea.1
 have hmin:(if(w:Int)<(b:Int)then(w:Int)else(b:Int))=((min b w:Nat):Int):=by
  by_cases h:w<b
  ·rw [if_pos (by omega),Nat.min_eq_right (by omega)]
  ·rw [if_neg (by omega),Nat.min_eq_left (by omega)]
 have hm:min b w<=w:=Nat.min_le_right _ _
 have hpm:=Bn (w:=min b w) (by omega)
 have hmul:=E4 (a:=a) (b:=2^min b w) (by omega) hpm
 unfold ET at k
 rw [hmin]
 refine ad (fun e=>?_) (fun e=>ad (fun e2=>?_) (fun e2=>?_))
 ·rw [if_pos (bU e)]at k
  rw [if_neg (by omega)]
  refine dC (by omega) ⟨_,rfl,?_⟩
  rw [iY (by omega) (by omega),gU (by omega),oJ];exact k
 ·rw [if_neg (bz e),if_pos (bU e2)]at k
  rw [if_neg (by omega),js (by omega)];exact k
 ·rw [if_neg (bz e),if_neg (bz e2)]at k
  refine oQ ea ⟨_,rfl,?_⟩
  rw [if_neg (by omega)]
  refine dC (by omega) ⟨_,rfl,?_⟩
  rw [aai (by omega),gU (by omega)];exact k
theorem Lh {h:Hp} {kind:Int} {w a b:Nat} {R:Value->Hp->Prop} (hk:21<=kind/\kind<=28) (ea:WO w a) (eb:WO w b)
  (k:R (.bool (Fh kind w a b)) h):rY #[I kind,I w,I a,I b] h R:=by
 apply F8
 refine uf_ ?_
 have h16:=ea.pow
 have hp:=bL w
 have sa:=FP ea
 have sb:=FP eb
 have ha:=ea.2
 have hb:=eb.2
 have hw:=ea.1
 unfold Fh at k
 have dd: ∀{p q:Prop} [Decidable p] [Decidable q],(p↔q)->decide p=decide q:=fun h=>by rw [decide_eq_decide];exact h
 refine oQ ea ⟨_,rfl,oQ eb ⟨_,rfl,?_⟩⟩
 refine ad (fun e1=>?_) (fun e1=>ad (fun e2=>?_) (fun e2=>ad (fun e3=>?_) (fun e3=>ad (fun e4=>?_) (fun e4=>ad (fun e5=>?_) (fun e5=>ad (fun e6=>?_) (fun e6=>ad (fun e7=>?_) (fun e7=>?_)))))))
 ·rw [if_pos (bU e1)]at k
  have:((a:Int)==(b:Int))=decide (a=b):=by rw [Bool.eq_iff_iff];simp;omega
  rw [this];exact k
 all_goals rw [if_neg (bz e1)]at k
 ·rw [if_pos (bU e2)]at k
  rw [dd (p:=(a:Int)<(b:Int)) (q:=a<b) (by omega)];exact k
 all_goals rw [if_neg (bz e2)]at k
 ·rw [if_pos (bU e3)]at k;exact k
 all_goals rw [if_neg (bz e3)]at k
 ·rw [if_pos (bU e4)]at k
  rw [dd (p:=(a:Int)<=(b:Int)) (q:=a<=b) (by omega)];exact k
 all_goals rw [if_neg (bz e4)]at k
 ·rw [if_pos (bU e5)]at k;exact k
 all_goals rw [if_neg (bz e5)]at k
 ·rw [if_pos (bU e6)]at k
  refine dC (by omega) ⟨_,rfl,?_⟩
  rw [bQ (by omega) (by omega),dd (p:=(a:Int)+(b:Int)>((2^w:Nat):Int)-1) (q:=2^w<=a+b) (by omega)];exact k
 all_goals rw [if_neg (bz e6)]at k
 ·rw [if_pos (bU e7)]at k
  have w1:W ((w:Int)-1)=((w-1:Nat):Int):=by rw [bQ (by omega) (by omega)];omega
  have hpp:=rE hw.1
  rw [w1,if_neg (by omega),if_neg (by omega),YJ (by omega),ck (by omega),bQ (n:=sgn w a+sgn w b) (by omega) (by omega),bQ (n:=((2^(w-1):Nat):Int)-1) (by omega) (by omega)]
  refine gX ⟨_,rfl,?_⟩
  rw [dd (p:= -((2^(w-1):Nat):Int)<=sgn w a+sgn w b/\sgn w a+sgn w b<=((2^(w-1):Nat):Int)-1) (q:= -((2^(w-1):Nat):Int)<=sgn w a+sgn w b/\sgn w a+sgn w b<((2^(w-1):Nat):Int)) (by omega)]
  exact k
 ·rw [if_neg (bz e7)]at k
  have hmul:=E4 (a:=a) (b:=b) (by omega) (by omega)
  have hmi:(a:Int)*(b:Int)=((a*b:Nat):Int):=(Int.natCast_mul _ _).symm
  refine dC (by omega) ⟨_,rfl,?_⟩
  rw [hmi]
  generalize a*b=ab at*
  rw [fu (by omega),dd (p:=(ab:Int)>((2^w:Nat):Int)-1) (q:=2^w<=ab) (by omega)];exact k
theorem Yz {h:Hp} {kind:Int} {w a b:Nat} {R:Value->Hp->Prop} (hk:6<=kind/\kind<=28) (ea:WO w a) (eb:WO w b)
  (k:R (.tuple #[I (ua kind w a b).1,I (ua kind w a b).2]) h):B0 #[I kind,I w,I a,I b] h R:=by
 apply RE
 refine uf_ ?_
 have h16:=ea.pow
 have hp:=bL w
 have ha:=ea.2
 have hb:=eb.2
 have hw:=ea.1
 have hand:a&&&b<=a:=Nat.and_le_left
 have hmul:=E4 (a:=a) (b:=b) (by omega) (by omega)
 by_cases h20:kind<=20
 rotate_left
 ·have t:ua kind w a b=(if Fh kind w a b then 1 else 0,1):=by unfold ua;rw [if_neg h20]
  rw [t]at k
  have nb: ∀n:Int,n<=20->(kind==n)=false:=fun n hn=>by rw [beq_eq_false_iff_ne];omega
  refine aA (nb _ (by omega)) (aA (nb _ (by omega)) (aA (nb _ (by omega)) (aA (nb _ (by omega)) (aA (nb _ (by omega)) (aA (nb _ (by omega)) (aA (nb _ (by omega)) (aA (nb _ (by omega)) ?_)))))))
  refine aq (fun J=>J false) ?_ (fun J hJ=>aA (nb _ (by omega)) (by rw [nb 15 (by omega)];exact hJ))
  refine aA rfl (aq (fun J=>J false) ?_ (fun J hJ=>aA (nb _ (by omega)) (aA (nb _ (by omega)) (by rw [nb 18 (by omega)];exact hJ))))
  refine aA rfl (aA (nb _ (by omega)) (aA (nb _ (by omega)) ?_))
  refine Lh (by omega) ea eb ⟨_,rfl,Cn ⟨_,rfl,?_⟩⟩
  cases hs:Fh kind w a b
  ·rw [hs]at k;simpa using k
  ·rw [hs]at k;simpa using k
 have t:ua kind w a b=(Ix kind w a b,w):=by unfold ua;rw [if_pos h20]
 rw [t]at k
 unfold Ix at k
 simp only at k
 refine ad (fun e=>?_) (fun e6=>?_)
 ·rw [if_pos (bU e)]at k;rw [zn (by omega) (by omega)];exact k
 rw [if_neg (bz e6)]at k
 refine ad (fun e=>?_) (fun e7=>?_)
 ·rw [if_pos (bU e)]at k;rw [CY (by omega) (by omega)];exact k
 rw [if_neg (bz e7)]at k
 refine ad (fun e=>?_) (fun e8=>?_)
 ·rw [if_pos (bU e)]at k;rw [Pc (by omega) (by omega)];exact k
 rw [if_neg (bz e8)]at k
 refine ad (fun e=>?_) (fun e9=>?_)
 ·rw [if_pos (bU e)]at k
  refine dC (by omega) ⟨_,rfl,?_⟩
  rw [bQ (by omega) (by omega),gU (by omega)];exact k
 rw [if_neg (bz e9)]at k
 refine ad (fun e=>?_) (fun e10=>?_)
 ·rw [if_pos (bU e)]at k
  refine dC (by omega) ⟨_,rfl,?_⟩
  rw [bQ (by omega) (by omega),gU (by omega)];exact k
 rw [if_neg (bz e10)]at k
 refine ad (fun e=>?_) (fun e11=>?_)
 ·rw [if_pos (bU e)]at k
  refine dC (by omega) ⟨_,rfl,?_⟩
  have hmi:(a:Int)*(b:Int)=((a*b:Nat):Int):=(Int.natCast_mul _ _).symm
  rw [hmi]at k⊢
  generalize a*b=ab at*
  rw [fu (by omega),gU (by omega)];exact k
 rw [if_neg (bz e11)]at k
 refine ad (fun e=>?_) (fun e12=>?_)
 ·rw [if_pos (bU e)]at k
  refine dC (by omega) ⟨_,rfl,ad (fun eb0=>?_) (fun eb0=>?_)⟩
  ·have hb0: ¬b=0:=by have:=of_decide_eq_true eb0;omega
   rw [if_neg hb0]at k
   have hd:=Nat.div_le_self a b
   rw [if_neg (by omega),uy,fu (by omega)];exact k
  ·have hb0:b=0:=by have:=of_decide_eq_false eb0;omega
   rw [if_pos hb0]at k
   have:((2^w-1:Nat):Int)=((2^w:Nat):Int)-1:=by omega
   rw [<-this];exact k
 rw [if_neg (bz e12)]at k
 refine ad (fun e=>?_) (fun e13=>?_)
 ·rw [if_pos (bU e)]at k
  refine ad (fun eb0=>?_) (fun eb0=>?_)
  ·have hb0: ¬b=0:=by have:=of_decide_eq_true eb0;omega
   rw [if_neg hb0]at k
   rw [if_neg (by omega),eh];exact k
  ·have hb0:b=0:=by have:=of_decide_eq_false eb0;omega
   rw [if_pos hb0]at k;exact k
 rw [if_neg (bz e13)]at k
 refine aq (fun J=>J (decide (kind=14\/kind=15))) ?_ ?_
 rotate_left
 ·intro J hJ
  refine ad (fun e=>?_) (fun e=>?_)
  ·rw [decide_eq_true (.inl (bU e))]at hJ;exact hJ
  ·have:(kind==15)=decide (kind=14\/kind=15):=by
    have:=bz e
    rw [Bool.eq_iff_iff];simp [this]
   rw [this];exact hJ
 refine ad (fun e=>?_) (fun e1415=>?_)
 ·have e':kind=14\/kind=15:=by simpa using e
  refine Nr e' ea eb ⟨_,rfl,?_⟩
  rcases e' with rfl|rfl
  ·simpa using k
  ·simpa using k
 have n14: ¬kind=14/\ ¬kind=15:=by simpa using e1415
 rw [if_neg n14.1,if_neg n14.2]at k
 refine aq (fun J=>J (decide (kind=16\/kind=17\/kind=18))) ?_ ?_
 rotate_left
 ·intro J hJ
  refine ad (fun e=>?_) (fun e=>ad (fun e2=>?_) (fun e2=>?_))
  ·rw [decide_eq_true (.inl (bU e))]at hJ;exact hJ
  ·rw [decide_eq_true (.inr (.inl (bU e2)))]at hJ;exact hJ
  ·have:(kind==18)=decide (kind=16\/kind=17\/kind=18):=by
    have h1:=bz e
    have h2:=bz e2
    rw [Bool.eq_iff_iff];simp [h1,h2]
   rw [this];exact hJ
 refine ad (fun e=>?_) (fun e1618=>?_)
 ·have e':kind=16\/kind=17\/kind=18:=by simpa using e
  refine NF ea (by omega) ⟨_,rfl,?_⟩
  unfold ET
  rcases e' with rfl|rfl|rfl
  ·simpa using k
  ·simpa using k
  ·simpa using k
 have n16: ¬kind=16/\ ¬kind=17/\ ¬kind=18:=by simpa using e1618
 rw [if_neg n16.1,if_neg n16.2.1,if_neg n16.2.2]at k
 refine ad (fun e=>?_) (fun e19=>?_)
 ·rw [if_pos (bU e)]at k
  exact Fz ea ⟨_,rfl,k⟩
 rw [if_neg (bz e19)]at k
 have h20':kind=20:=by
  have:=bz e6;have:=bz e7;have:=bz e8;have:=bz e9;have:=bz e10;have:=bz e11;have:=bz e12;have:=bz e13;have:=bz e19
  omega
 refine aL (by simpa using h20') ?_
 have hm:b%w<w:=Nat.mod_lt _ (by omega)
 have hw2:W ((w:Int)-((b%w:Nat):Int))=((w-b%w:Nat):Int):=by rw [bQ (by omega) (by omega)];omega
 rw [if_neg (by omega),eh,hw2]
 exact Fz ea ⟨_,rfl,k⟩
def IB (kind:Int) (x y:Bool):Bool:=if kind=8 then x^^y else if kind=7 then x||y else x&&y
theorem N6 {c:Bool} {n:Nat} (hn:n<=62):ax (if c then 1 else 0) (n:Int)=((if c then 2^n else 0:Nat):Int):=by
 cases c
 ·have:=iY (a:=0) (n:=n) (by omega) (by omega);simpa using this
 ·have:=ck hn;simpa using this
theorem LW {i:Nat} {f:Nat->Bool} {c:Bool} (hi:i<=60) (hc:c=f i):W ((db i f:Int)+((if c then 2^i else 0:Nat):Int))=((db (i+1) f:Nat):Int):=by
 have h1:=tj i f
 have h2:=nO (n:=i) (by omega)
 subst hc
 simp only [db]
 rw [bQ (by split<;>omega) (by split<;>omega)]
 omega
theorem OV {h:Hp} {kind:Int} {w a b:Nat} {R:Value->Hp->Prop} (hw:w<=16)
  (k:R (I (db w fun i=>IB kind (a.testBit i) (b.testBit i))) h):vq #[I kind,I w,I a,I b] h R:=by
 apply Lj
 refine uf_ ?_
 refine ar w (fun i vs h'=>vs= [I kind,I w,I a,I b,I (db i fun i=>IB kind (a.testBit i) (b.testBit i)),I i]/\h'=h) ⟨rfl,rfl⟩ ?_
 rintro i _ _ next hi ⟨rfl,rfl⟩ hn
 refine⟨_,_,_,_,_,_,rfl,?_⟩
 by_cases hlt:i<w
 ·refine aL (by simp [hlt]) (jc (by omega) ⟨_,rfl,jc (by omega) ⟨_,rfl,?_⟩⟩)
  have hn':=hn hlt _ _ ⟨rfl,rfl⟩
  generalize hx:a.testBit i=x at*
  generalize hy:b.testBit i=y at*
  refine aq (fun J=>J (if kind=7 then(if x||y then 1 else 0)else(if x&&y then 1 else 0))) ?_ ?_
  ·refine aq (fun J=>J (if IB kind x y then 1 else 0)) ?_ ?_
   ·rw [cR (by omega),if_neg (by omega),N6 (by omega),LW (by omega) (by rw [hx,hy]),aw (by omega)]
    exact hn'
   ·intro J hJ
    refine ad (fun e=>?_) (fun e=>?_)
    ·have:IB kind x y=(x^^y):=by unfold IB;rw [if_pos (bU e)]
     rw [this]at hJ
     revert hJ;cases x<;>cases y<;>exact id
    ·have:IB kind x y=if kind=7 then x||y else x&&y:=by unfold IB;rw [if_neg (bz e)]
     rw [this]at hJ
     by_cases h7:kind=7
     ·rw [if_pos h7]at hJ⊢;exact hJ
     ·rw [if_neg h7]at hJ⊢;exact hJ
  ·intro J hJ
   refine ad (fun e=>?_) (fun e=>?_)
   ·rw [if_pos (bU e)]at hJ
    revert hJ;cases x<;>cases y<;>exact id
   ·rw [if_neg (bz e)]at hJ
    revert hJ;cases x<;>cases y<;>exact id
 ·have:i=w:=by omega
  subst this
  exact aA (by simp) k
theorem RO {h:Hp} {kind:Int} {w a b:Nat} {R:Value->Hp->Prop} (ea:WO w a) (eb:WO w b)
  (k:R (I ((if kind=12 then(if b=0 then 2^w-1 else a/b)else if b=0 then a else a%b:Nat))) h):xM #[I kind,I w,I a,I b] h R:=by
 apply MY
 refine uf_ ?_
 have h16:=ea.pow
 have hp:=bL w
 have ha:=ea.2
 have hw:=ea.1
 refine ad (fun e=>?_) (fun e=>?_)
 ·rw [if_pos (bU e)]at k
  refine ad (fun e0=>?_) (fun e0=>?_)
  ·have hb0:b=0:=by have:=bU e0;omega
   rw [if_pos hb0]at k
   rw [cR (by omega),if_neg (by omega),ck (by omega),bQ (by omega) (by omega)]
   have:((2^w-1:Nat):Int)=((2^w:Nat):Int)-1:=by omega
   rw [<-this];exact k
  ·have hb0: ¬b=0:=by have:=bz e0;omega
   rw [if_neg hb0]at k
   have hd:=Nat.div_le_self a b
   rw [if_neg (by omega),uy,fu (by omega)];exact k
 ·rw [if_neg (bz e)]at k
  refine ad (fun e0=>?_) (fun e0=>?_)
  ·have hb0:b=0:=by have:=bU e0;omega
   rw [if_pos hb0]at k;exact k
  ·have hb0: ¬b=0:=by have:=bz e0;omega
   rw [if_neg hb0]at k
   rw [if_neg (by omega),eh];exact k
theorem OP {h:Hp} {kind:Int} {w a b:Nat} {R:Value->Hp->Prop} (hk:kind=14\/kind=15) (ea:WO w a) (eb:WO w b)
  (k:R (I ((if kind=14 then L4 w a b else MA w a b:Nat):Int)) h):vF #[I kind,I w,I a,I b] h R:=by
 apply JZ
 refine uf_ ?_
 have h16:=ea.pow
 have hp:=bL w
 have sa:=FP ea
 have sb:=FP eb
 have hw:=ea.1
 refine jm ea ⟨_,rfl,jm eb ⟨_,rfl,?_⟩⟩
 unfold L4 MA at k
 refine ad (fun e=>?_) (fun e=>?_)
 ·have e':=bU e
  rw [if_neg (by omega)]at k
  refine ad (fun e0=>?_) (fun e0=>?_)
  ·rw [if_pos (bU e0)]at k;exact k
  ·rw [if_neg (bz e0)]at k
   rw [if_neg (bz e0)]
   exact iL hw ⟨_,rfl,k⟩
 ·have e':kind=14:=by have:=bz e;omega
  rw [if_pos e']at k
  by_cases hy:sgn w b=0
  ·rw [if_pos hy]at k
   have hyb:(sgn w b==0)=true:=by simpa using hy
   refine aq (fun J=>J (decide (sgn w a<0))) ?_ (fun J hJ=>aL hyb hJ)
   refine ad (fun e=>?_) (fun e=>aL hyb ?_)
   ·rw [if_pos (of_decide_eq_true e)]at k;exact k
   ·rw [if_neg (of_decide_eq_false e)]at k
    rw [cR (by omega),if_neg (by omega),ck (by omega),bQ (by omega) (by omega)]
    have:((2^w-1:Nat):Int)=((2^w:Nat):Int)-1:=by omega
    rw [<-this];exact k
  ·rw [if_neg hy]at k
   have hyb:(sgn w b==0)=false:=by simpa using hy
   refine aq (fun J=>J false) ?_ (fun J hJ=>aA hyb hJ)
   refine aA rfl (aA hyb ?_)
   have hdiv:(Int.tdiv (sgn w a) (sgn w b)).natAbs<=65536:=by
    rw [Int.natAbs_tdiv]
    exact Nat.le_trans (Nat.div_le_self _ _) (by omega)
   rw [if_neg hy,bQ (by omega) (by omega)]
   exact iL hw ⟨_,rfl,k⟩
theorem Oy {h:Hp} {kind:Int} {w a b:Nat} {R:Value->Hp->Prop} (hk:kind=16\/kind=17\/kind=18) (ea:WO w a) (hb:b<=65536)
  (k:R (I (ET kind w a b)) h):ph #[I kind,I w,I a,I b] h R:=by
 have hw:=ea.1
 have key: ∀f:Nat->Bool,db w f=ET kind w a b->
   (∀i,i<w->f i=if kind=16 then decide (b<=i)&&a.testBit (i-b)else if kind=17 then decide (i+b<w)&&a.testBit (i+b)else if i+b<w then a.testBit (i+b)else a.testBit (w-1))->
   ph #[I kind,I w,I a,I b] h R:=by
  intro f hcode hf
  apply Jf
  refine uf_ ?_
  refine ar w (fun i vs h'=>vs= [I kind,I w,I a,I b,I (db i f),I i]/\h'=h) ⟨rfl,rfl⟩ ?_
  rintro i _ h' next hi ⟨rfl,rfl⟩ hn
  refine⟨_,_,_,_,_,_,rfl,?_⟩
  by_cases hlt:i<w
  ·refine aL (by simp [hlt]) ?_
   have hn':=hn hlt _ _ ⟨rfl,rfl⟩
   have hfi:=hf i hlt
   refine aq (fun J=>J (if kind=16 then(i:Int)-b else(i:Int)+b)) ?_ ?_
   ·refine aq (fun J=>J (decide (0<=(if kind=16 then(i:Int)-b else(i:Int)+b)/\(if kind=16 then(i:Int)-b else(i:Int)+b)<w))) ?_ ?_
    ·refine aq (fun J=>J (if f i then 1 else 0) h') ?_ ?_
     ·rw [cR (by omega),if_neg (by omega),N6 (by omega),LW (by omega) rfl,aw (by omega)]
      exact hn'
     ·intro J hJ
      refine ad (fun e=>?_) (fun e=>?_)
      ·have e':=of_decide_eq_true e
       by_cases h16:kind=16
       ·rw [if_pos h16]at e' hfi⊢
        rw [show (i:Int)-b=((i-b:Nat):Int) by omega]
        refine jc (by omega) ⟨_,rfl,?_⟩
        rw [hfi]at hJ
        have:decide (b<=i)=true:=by simp;omega
        rw [this,Bool.true_and]at hJ;exact hJ
       ·rw [if_neg h16]at e' hfi⊢
        rw [show (i:Int)+b=((i+b:Nat):Int) by omega]
        refine jc (by omega) ⟨_,rfl,?_⟩
        have h1:decide (i+b<w)=true:=by simp;omega
        rw [h1,Bool.true_and,if_pos (show i+b<w by omega),ite_self]at hfi
        rw [hfi]at hJ;exact hJ
      ·have e':=of_decide_eq_false e
       refine ad (fun e2=>?_) (fun e2=>?_)
       ·have h18:=bU e2
        rw [if_neg (by omega)]at e'
        rw [if_neg (by omega),if_neg (by omega),if_neg (by omega)]at hfi
        rw [show W ((w:Int)-1)=((w-1:Nat):Int) by rw [bQ (by omega) (by omega)];omega]
        refine jc (by omega) ⟨_,rfl,?_⟩
        rw [hfi]at hJ;exact hJ
       ·have h18:=bz e2
        have:f i=false:=by
         rw [hfi]
         by_cases h16:kind=16
         ·rw [if_pos h16]at e'⊢
          have:decide (b<=i)=false:=by simp;omega
          rw [this,Bool.false_and]
         ·rw [if_neg h16]at e'⊢
          rw [if_pos (by omega)]
          have:decide (i+b<w)=false:=by simp;omega
          rw [this,Bool.false_and]
        rw [this]at hJ
        exact hJ
    ·intro J hJ
     generalize (if kind=16 then(i:Int)-b else(i:Int)+b)=z at*
     refine ad (fun e=>?_) (fun e=>?_)
     ·have:0<=z:=of_decide_eq_true e
      rw [show decide (0<=z/\z<(w:Int))=decide (z<(w:Int)) by rw [decide_eq_decide];omega]at hJ;exact hJ
     ·have: ¬0<=z:=of_decide_eq_false e
      rw [show decide (0<=z/\z<(w:Int))=false by rw [decide_eq_false_iff_not];omega]at hJ;exact hJ
   ·intro J hJ
    refine ad (fun e=>?_) (fun e=>?_)
    ·rw [if_pos (bU e)]at hJ;rw [bQ (by omega) (by omega)];exact hJ
    ·rw [if_neg (bz e)]at hJ;rw [bQ (by omega) (by omega)];exact hJ
  ·have:i=w:=by omega
   subst this
   refine aA (by simp) ?_
   rw [hcode];exact k
 rcases hk with rfl|rfl|rfl
 ·exact key (fun i=>decide (b<=i)&&a.testBit (i-b)) YM (fun i _=>rfl)
 ·exact key (fun i=>decide (i+b<w)&&a.testBit (i+b)) (YF ea.2) (fun i _=>rfl)
 ·exact key (fun i=>if i+b<w then a.testBit (i+b)else a.testBit (w-1)) (Xz hw.1 hw.2 ea.2) (fun i _=>rfl)
theorem O4 {h:Hp} {kind:Int} {w a b:Nat} {R:Value->Hp->Prop} (hk:kind=19\/kind=20) (ea:WO w a)
  (k:R (I ((if kind=19 then Ht w a (b%w)else Ht w a ((w-b%w)%w):Nat))) h):qL #[I kind,I w,I a,I b] h R:=by
 have hw:=ea.1
 have hm:b%w<w:=Nat.mod_lt _ (by omega)
 have key: ∀s:Nat,s<w->R (I (Ht w a s)) h->(∀i,i<w->(if kind=20 then(i+w-b%w)%w else(i+b%w)%w)=(i+s)%w)->
   qL #[I kind,I w,I a,I b] h R:=by
  intro s hs k hto
  apply LC
  refine uf_ ?_
  refine ar w (fun i vs h'=>vs= [I kind,I w,I a,I b,I (db w fun j=>decide ((j+(w-s))%w<i)&&a.testBit ((j+(w-s))%w)),I i]/\h'=h) ⟨?_,rfl⟩ ?_
  ·have:db w (fun j=>decide ((j+(w-s))%w<0)&&a.testBit ((j+(w-s))%w))=0:=
    jX (bL w) fun i _=>by simp
   rw [this];rfl
  rintro i _ h' next hi ⟨rfl,rfl⟩ hn
  refine⟨_,_,_,_,_,_,rfl,?_⟩
  by_cases hlt:i<w
  ·refine aL (by simp [hlt]) ?_
   have hn':=hn hlt _ _ ⟨rfl,rfl⟩
   have hst:=Ut (a:=a) hs hlt
   have hto:=hto i hlt
   rw [if_neg (by omega),eh]
   have hpw:(i+s)%w<w:=Nat.mod_lt _ (by omega)
   refine aq (fun J=>J ((if kind=20 then i+w-b%w else i+b%w:Nat):Int)) ?_ ?_
   ·have ht:Int.tmod ((if kind=20 then i+w-b%w else i+b%w:Nat):Int) (w:Int)=(((i+s)%w:Nat):Int):=by
     rw [eh,<-hto]
     split<;>rfl
    rw [if_neg (by omega),ht,cR (by omega)]
    have step:W ((db w (fun j=>decide ((j+(w-s))%w<i)&&a.testBit ((j+(w-s))%w)):Int)+ax (if a.testBit i then 1 else 0) (((i+s)%w:Nat):Int))=
      ((db w (fun j=>decide ((j+(w-s))%w<i+1)&&a.testBit ((j+(w-s))%w)):Nat):Int):=by
     rw [N6 (by omega),<-hst,<-Int.natCast_add,fu]
     rw [hst]
     have:=tj w (fun j=>decide ((j+(w-s))%w<i+1)&&a.testBit ((j+(w-s))%w))
     have:=Bn hw.2
     omega
    have one:dS #[I a,I i] h' fun v25 h26=> ∃(x27:Int),v25=(I x27)/\(if(((i+s)%w:Nat):Int)<0 then False else next [I kind,I w,I a,I b,I (W ((db w (fun j=>decide ((j+(w-s))%w<i)&&a.testBit ((j+(w-s))%w)):Int)+ax x27 (((i+s)%w:Nat):Int))),I (W ((i:Int)+1))] h26):=by
     refine jc (by omega) ⟨_,rfl,?_⟩
     rw [if_neg (by omega),step,aw (by omega)]
     exact hn'
    exact⟨one,one⟩
   ·intro J hJ
    refine ad (fun e=>?_) (fun e=>?_)
    ·rw [if_pos (bU e)]at hJ
     rw [if_neg (by omega)]
     have:W (W ((i:Int)+w)-((b%w:Nat):Int))=((i+w-b%w:Nat):Int):=by rw [bQ (n:=(i:Int)+w) (by omega) (by omega),bQ (by omega) (by omega)];omega
     rw [this];exact hJ
    ·rw [if_neg (bz e)]at hJ
     have:W ((i:Int)+((b%w:Nat):Int))=((i+b%w:Nat):Int):=by rw [bQ (by omega) (by omega)];omega
     rw [this];exact hJ
  ·have:i=w:=by omega
   subst this
   refine aA (by simp) ?_
   have:db i (fun j=>decide ((j+(i-s))%i<i)&&a.testBit ((j+(i-s))%i))=Ht i a s:=by
    rw [<-Yk ea.2 hs]
    refine tH fun j _=>?_
    have:decide ((j+(i-s))%i<i)=true:=by
     rw [decide_eq_true_eq];exact Nat.mod_lt _ (by omega)
    rw [this,Bool.true_and]
   rw [this];exact k
 rcases hk with rfl|rfl
 ·refine key (b%w) hm k fun i _=>?_
  rw [if_neg (by omega)]
 ·rw [if_neg (by omega)]at k
  refine key ((w-b%w)%w) (Nat.mod_lt _ (by omega)) k fun i _=>?_
  rw [if_pos rfl,Nat.add_mod_mod]
  congr 1
  omega
theorem Aj {b:Bool} {R:Value->Hp->Prop} {h:Hp} {c:Bool} (e:b=c) (k:R (.tuple #[.bool c, .bool true]) h):R (.tuple #[.bool b, .bool true]) h:=by rw [e];exact k
theorem QA {h:Hp} {kind:Int} {w a b:Nat} {R:Value->Hp->Prop} (ea:WO w a) (eb:WO w b)
  (k1:21<=kind/\kind<=28->R (.tuple #[.bool (Fh kind w a b), .bool true]) h)
  (k2: ¬(21<=kind/\kind<=28)->R (.tuple #[.bool false, .bool false]) h):vC #[I kind,I w,I a,I b] h R:=by
 apply J4
 refine uf_ ?_
 have h16:=ea.pow
 have hp:=bL w
 have sa:=FP ea
 have sb:=FP eb
 have ha:=ea.2
 have hb:=eb.2
 have hw:=ea.1
 have dd: ∀{p q:Prop} [Decidable p] [Decidable q],(p↔q)->decide p=decide q:=fun h=>by rw [decide_eq_decide];exact h
 refine jm ea ⟨_,rfl,jm eb ⟨_,rfl,?_⟩⟩
 refine ad (fun e=>?_) (fun e1=>?_)
 ·have e:=bU e
  subst e
  refine Aj ?_ (k1 (by omega))
  show _=decide (a=b)
  rw [Bool.eq_iff_iff];simp;omega
 refine ad (fun e=>?_) (fun e2=>?_)
 ·have e:=bU e
  subst e
  exact Aj (dd (by omega)) (k1 (by omega))
 refine ad (fun e=>?_) (fun e3=>?_)
 ·have e:=bU e
  subst e
  exact k1 (by omega)
 refine ad (fun e=>?_) (fun e4=>?_)
 ·have e:=bU e
  subst e
  exact Aj (dd (by omega)) (k1 (by omega))
 refine ad (fun e=>?_) (fun e5=>?_)
 ·have e:=bU e
  subst e
  exact k1 (by omega)
 refine ad (fun e=>?_) (fun e6=>?_)
 ·have e:=bU e
  subst e
  have hab:W ((a:Int)+b)=((a+b:Nat):Int):=by rw [bQ (by omega) (by omega)];omega
  rw [hab]
  refine cF ⟨_,rfl,?_⟩
  refine Aj ?_ (k1 (by omega))
  show _=decide (2^w<=a+b)
  rw [Bool.eq_iff_iff]
  have:=kB (w:=(w:Int)) (v:=((a+b:Nat):Int))
  rw [Int.toNat_natCast]at this
  simp only [Bool.not_eq_true',decide_eq_true_eq,<-Bool.not_eq_true,this]
  omega
 refine ad (fun e=>?_) (fun e7=>?_)
 ·have e:=bU e
  subst e
  rw [bQ (by omega) (by omega)]
  refine iL hw ⟨_,rfl,jm ⟨hw,jR _ _⟩ ⟨_,rfl,?_⟩⟩
  refine Aj ?_ (k1 (by omega))
  show _= !decide (-((2^(w-1):Nat):Int)<=sgn w a+sgn w b/\sgn w a+sgn w b<((2^(w-1):Nat):Int))
  have:=afA (a:=a) (b:=b) hw.1
  rw [Bool.eq_iff_iff,bne_iff_ne,this,Bool.not_eq_true',decide_eq_false_iff_not]
 refine ad (fun e=>?_) (fun e8=>?_)
 ·have e:=bU e
  subst e
  have hmul:=E4 (a:=a) (b:=b) (by omega) (by omega)
  have hmi:(a:Int)*(b:Int)=((a*b:Nat):Int):=(Int.natCast_mul _ _).symm
  rw [hmi,fu (by omega)]
  refine cF ⟨_,rfl,?_⟩
  refine Aj ?_ (k1 (by omega))
  show _=decide (2^w<=a*b)
  rw [Bool.eq_iff_iff]
  have:=kB (w:=(w:Int)) (v:=((a*b:Nat):Int))
  rw [Int.toNat_natCast]at this
  simp only [Bool.not_eq_true',decide_eq_true_eq,<-Bool.not_eq_true,this]
  generalize a*b=ab at*
  omega
 ·have:=bz e1;have:=bz e2;have:=bz e3;have:=bz e4;have:=bz e5;have:=bz e6;have:=bz e7;have:=bz e8
  exact k2 (by omega)
theorem CG {h:Hp} {kind:Int} {w a b:Nat} {R:Value->Hp->Prop} (hk:6<=kind/\kind<=28) (ea:WO w a) (eb:WO w b)
  (k:R (.tuple #[I (ua kind w a b).1,I (ua kind w a b).2, .bool true]) h):pw #[I kind,I w,I a,I b] h R:=by
 apply HY
 refine uf_ ?_
 have h16:=ea.pow
 have hp:=bL w
 have ha:=ea.2
 have hb:=eb.2
 have hw:=ea.1
 have hmul:=E4 (a:=a) (b:=b) (by omega) (by omega)
 refine aq (fun J=>J false h) ?_ (fun J hJ=>cF ⟨_,rfl,aA (by rw [ea.ok];rfl) (cF ⟨_,rfl,by rw [eb.ok];exact hJ⟩)⟩)
 refine aA rfl (QA ea eb (fun h21=>⟨_,_,rfl,aL rfl (tD ⟨_,rfl,?_⟩)⟩) (fun h21=>⟨_,_,rfl,aA rfl ?_⟩))
 ·have t:ua kind w a b=(if Fh kind w a b then 1 else 0,1):=by unfold ua;rw [if_neg (by omega)]
  rw [t]at k
  cases hs:Fh kind w a b
  ·rw [hs]at k;simpa using k
  ·rw [hs]at k;simpa using k
 have t:ua kind w a b=(Ix kind w a b,w):=by unfold ua;rw [if_pos (by omega)]
 rw [t]at k
 unfold Ix at k
 simp only at k
 refine aq (fun J=>J (decide (kind=6\/kind=7\/kind=8))) ?_ ?_
 rotate_left
 ·intro J hJ
  refine ad (fun e=>?_) (fun e=>ad (fun e2=>?_) (fun e2=>?_))
  ·rw [decide_eq_true (.inl (bU e))]at hJ;exact hJ
  ·rw [decide_eq_true (.inr (.inl (bU e2)))]at hJ;exact hJ
  ·have:(kind==8)=decide (kind=6\/kind=7\/kind=8):=by
    have h1:=bz e
    have h2:=bz e2
    rw [Bool.eq_iff_iff];simp [h1,h2]
   rw [this];exact hJ
 refine ad (fun e=>?_) (fun e678=>?_)
 ·have e':kind=6\/kind=7\/kind=8:=by simpa using e
  refine OV hw.2 ⟨_,rfl,?_⟩
  rcases e' with rfl|rfl|rfl
  ·rw [if_pos rfl,<-JJ ha]at k;exact k
  ·rw [if_neg (by decide),if_pos rfl,<-TZ ha hb]at k;exact k
  ·rw [if_neg (by decide),if_neg (by decide),if_pos rfl,<-XZ ha hb]at k;exact k
 have n6: ¬kind=6/\ ¬kind=7/\ ¬kind=8:=by simpa using e678
 rw [if_neg n6.1,if_neg n6.2.1,if_neg n6.2.2]at k
 refine ad (fun e=>?_) (fun e9=>?_)
 ·rw [if_pos (bU e)]at k
  rw [bQ (by omega) (by omega)]
  exact iL hw ⟨_,rfl,k⟩
 rw [if_neg (bz e9)]at k
 refine ad (fun e=>?_) (fun e10=>?_)
 ·rw [if_pos (bU e)]at k
  rw [bQ (by omega) (by omega)]
  exact iL hw ⟨_,rfl,k⟩
 rw [if_neg (bz e10)]at k
 refine ad (fun e=>?_) (fun e11=>?_)
 ·rw [if_pos (bU e)]at k
  have hmi:(a:Int)*(b:Int)=((a*b:Nat):Int):=(Int.natCast_mul _ _).symm
  rw [hmi]at k⊢
  generalize a*b=ab at*
  rw [fu (by omega)]
  exact iL hw ⟨_,rfl,k⟩
 rw [if_neg (bz e11)]at k
 refine aq (fun J=>J (decide (kind=12\/kind=13))) ?_ ?_
 rotate_left
 ·intro J hJ
  refine ad (fun e=>?_) (fun e=>?_)
  ·rw [decide_eq_true (.inl (bU e))]at hJ;exact hJ
  ·have:(kind==13)=decide (kind=12\/kind=13):=by
    have:=bz e
    rw [Bool.eq_iff_iff];simp [this]
   rw [this];exact hJ
 refine ad (fun e=>?_) (fun e1213=>?_)
 ·have e':kind=12\/kind=13:=by simpa using e
  refine RO ea eb ⟨_,rfl,?_⟩
  rcases e' with rfl|rfl
  ·simpa using k
  ·simpa using k
 have n12: ¬kind=12/\ ¬kind=13:=by simpa using e1213
 rw [if_neg n12.1,if_neg n12.2]at k
 refine aq (fun J=>J (decide (kind=14\/kind=15))) ?_ ?_
 rotate_left
 ·intro J hJ
  refine ad (fun e=>?_) (fun e=>?_)
  ·rw [decide_eq_true (.inl (bU e))]at hJ;exact hJ
  ·have:(kind==15)=decide (kind=14\/kind=15):=by
    have:=bz e
    rw [Bool.eq_iff_iff];simp [this]
   rw [this];exact hJ
 refine ad (fun e=>?_) (fun e1415=>?_)
 ·have e':kind=14\/kind=15:=by simpa using e
  refine OP e' ea eb ⟨_,rfl,?_⟩
  rcases e' with rfl|rfl
  ·simpa using k
  ·simpa using k
 have n14: ¬kind=14/\ ¬kind=15:=by simpa using e1415
 rw [if_neg n14.1,if_neg n14.2]at k
 refine aq (fun J=>J (decide (kind=16\/kind=17\/kind=18))) ?_ ?_
 rotate_left
 ·intro J hJ
  refine ad (fun e=>?_) (fun e=>ad (fun e2=>?_) (fun e2=>?_))
  ·rw [decide_eq_true (.inl (bU e))]at hJ;exact hJ
  ·rw [decide_eq_true (.inr (.inl (bU e2)))]at hJ;exact hJ
  ·have:(kind==18)=decide (kind=16\/kind=17\/kind=18):=by
    have h1:=bz e
    have h2:=bz e2
    rw [Bool.eq_iff_iff];simp [h1,h2]
   rw [this];exact hJ
 refine ad (fun e=>?_) (fun e1618=>?_)
 ·have e':kind=16\/kind=17\/kind=18:=by simpa using e
  refine Oy e' ea (by omega) ⟨_,rfl,?_⟩
  unfold ET
  rcases e' with rfl|rfl|rfl
  ·simpa using k
  ·simpa using k
  ·simpa using k
 have n16: ¬kind=16/\ ¬kind=17/\ ¬kind=18:=by simpa using e1618
 rw [if_neg n16.1,if_neg n16.2.1,if_neg n16.2.2]at k
 have h1920:kind=19\/kind=20:=by
  have:=bz e9;have:=bz e10;have:=bz e11
  omega
 refine aq (fun J=>J true) ?_ ?_
 rotate_left
 ·intro J hJ
  refine ad (fun e=>hJ) (fun e=>?_)
  have:(kind==20)=true:=by
   have:=bz e
   rw [beq_iff_eq];omega
  rw [this];exact hJ
 refine aL rfl (O4 h1920 ea ⟨_,rfl,k⟩)
theorem aaa {w a more:Nat} {sign:Bool} (e:WO w a):HF w a more sign<2^(w+more):=by
 unfold HF
 cases sign
 ·have:=e.2
  have:2^w<=2^(w+more):=Nat.pow_le_pow_right (by omega) (by omega)
  rw [if_neg (by decide)];omega
 ·exact jR _ _
theorem Vi {h:Hp} {w a more:Nat} {s:Bool} {R:Value->Hp->Prop} (e:WO w a) (hm:w+more<=16)
  (k:R (I (HF w a more s)) h):zJ #[I w,I a,I more, .bool s] h R:=by
 apply Qp
 refine uf_ ?_
 unfold HF at k
 refine ad (fun es=>?_) (fun es=>?_)
 ·rw [if_pos es]at k
  refine oQ e ⟨_,rfl,?_⟩
  rw [show W ((w:Int)+more)=((w+more:Nat):Int) by rw [bQ (by omega) (by omega)];omega]
  refine dC (by omega) ⟨_,rfl,?_⟩
  rw [gU (by omega)];exact k
 ·rw [if_neg (by rw [es];decide)]at k;exact k
theorem Ki {h:Hp} {w a more:Nat} {s:Bool} {R:Value->Hp->Prop} (e:WO w a) (hm:w+more<=16)
  (k:R (.tuple #[I (HF w a more s),I ((w+more:Nat):Int), .bool true]) h):kM #[I w,I a,I more, .bool s] h R:=by
 apply ye
 refine uf_ ?_
 unfold HF at k
 have hw:W ((w:Int)+more)=((w+more:Nat):Int):=by rw [bQ (by omega) (by omega)];omega
 have h1:=e.1
 refine aq (fun J=>J false h) ?_ (fun J hJ=>cF ⟨_,rfl,aA (by rw [e.ok];rfl) (aA (by simp) ?_)⟩)
 ·refine aA rfl (ad (fun es=>?_) (fun es=>?_))
  ·rw [if_pos es]at k
   rw [hw]
   exact jm e ⟨_,rfl,iL (by omega) ⟨_,rfl,k⟩⟩
  ·rw [if_neg (by rw [es];decide)]at k
   rw [hw];exact k
 ·rw [bQ (by omega) (by omega),show decide ((more:Int)>16-(w:Int))=false by rw [decide_eq_false_iff_not];omega];exact hJ
theorem J0 {h:Hp} {w a u b:Nat} {R:Value->Hp->Prop} (ea:WO w a) (eb:WO u b) (hm:w+u<=16)
  (k:R (.tuple #[I ((a*2^u+b:Nat):Int),I ((w+u:Nat):Int), .bool true]) h):kS #[I w,I a,I u,I b] h R:=by
 apply yp
 refine uf_ ?_
 have hw:W ((w:Int)+u)=((w+u:Nat):Int):=by rw [bQ (by omega) (by omega)];omega
 have h1:=ea.1
 have h2:=eb.1
 have ha:=ea.2
 have hb:=eb.2
 have h16a:=ea.pow
 have h16b:=eb.pow
 have hmul:=E4 (a:=a) (b:=2^u) (by omega) (by omega)
 refine aq (fun J=>J false h) ?_ (fun J hJ=>cF ⟨_,rfl,aA (by rw [ea.ok];rfl) (cF ⟨_,rfl,aA (by rw [eb.ok];rfl) ?_⟩)⟩)
 ·rw [cR (by omega)]
  refine aA rfl ?_
  rw [if_neg (by omega),iY (by omega) (by omega),hw,<-Int.natCast_add,fu (by omega)];exact k
 ·rw [hw,show decide (((w+u:Nat):Int)>16)=false by rw [decide_eq_false_iff_not];omega];exact hJ
theorem IV {h:Hp} {w a hi lo:Nat} {R:Value->Hp->Prop} (ea:WO w a) (h1:lo<=hi) (h2:hi<w)
  (k:R (.tuple #[I ((a/2^lo%2^(hi-lo+1):Nat):Int),I ((hi-lo+1:Nat):Int), .bool true]) h):j8 #[I w,I a,I hi,I lo] h R:=by
 apply wH
 refine uf_ ?_
 have e0:=ea.1
 have hw:W (W ((hi:Int)-lo)+1)=((hi-lo+1:Nat):Int):=by rw [bQ (n:=(hi:Int)-lo) (by omega) (by omega),bQ (by omega) (by omega)];omega
 have e1:=ea.1
 have hp:=bL (hi-lo+1)
 refine aq (fun J=>J false h) ?_ (fun J hJ=>cF ⟨_,rfl,aA (by rw [ea.ok];rfl) (aA (by simp) (aA (by simp;omega) ?_))⟩)
 ·refine aA rfl ?_
  rw [hw,cR (by omega),cR (by omega),if_neg (by omega),if_neg (by omega),ck (by omega),if_neg (by omega),js (by omega),eh]
  exact k
 ·rw [show decide ((hi:Int)>=(w:Int))=false by rw [decide_eq_false_iff_not];omega];exact hJ
end Go.Lead
