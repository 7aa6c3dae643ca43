/- What functions of the program and of the reference come to, walked one by one, and plain laws about it: part 1. No condition is added to the statement. -/
import Derived.Test.YtlfhohhpeklnkaaGreatVm15
import Derived.Test.YtlfhohhpeklnkaaGreatFn0
import Derived.Test.YtlfhohhpeklnkaaGreatFn1
import Derived.Test.YtlfhohhpeklnkaaGreatFn2
import Derived.Test.YtlfhohhpeklnkaaGreatFn3
import Derived.Test.YtlfhohhpeklnkaaGreatFn4
import Derived.Test.YtlfhohhpeklnkaaGreatFn5
import Derived.Test.YtlfhohhpeklnkaaGreatFn6
import Derived.Test.YtlfhohhpeklnkaaGreatFn7
import Derived.Test.YtlfhohhpeklnkaaGreatFn8
namespace Go.Lead
open Go
set_option linter.unusedVariables false
set_option linter.unusedSimpArgs false
set_option maxHeartbeats 1000000
structure Nd where
 v:Nat
 lo:Nat
 hi:Nat
 deriving DecidableEq,Repr
def iY (n:Nd) (ns:List Nd):Nat×List Nd:=match ns.idxOf? n with|some i=>(i+2,ns)|none=>(ns.length+2,ns++ [n])
def mkD :Nat->(Nat->Bool)->Nat->List Nd->Nat×List Nd
 |0,f,_,ns=>(if f 0 then 1 else 0,ns)
 |n+1,f,low,ns=>
  let r1:=mkD n (fun i=>f (2*i)) (low+1) ns
  let r2:=mkD n (fun i=>f (2*i+1)) (low+1) r1.2
  if r1.1=r2.1 then r2 else iY ⟨low,r1.1,r2.1⟩ r2.2
theorem FX : ∀(n:Nat) {f g:Nat->Bool} (low:Nat) (ns:List Nd),(∀i,i<2^n->f i=g i)->mkD n f low ns=mkD n g low ns:=by
 intro n
 induction n with
 |zero=>intro f g low ns h;simp only [mkD];rw [h 0 (by simp)]
 |succ n ih=>
  intro f g low ns h
  have hp:2^(n+1)=2*2^n:=by rw [Nat.pow_succ];omega
  have h1: ∀ns,mkD n (fun i=>f (2*i)) (low+1) ns=mkD n (fun i=>g (2*i)) (low+1) ns:=fun ns=>ih _ _ fun i hi=>h _ (by omega)
  have h2: ∀ns,mkD n (fun i=>f (2*i+1)) (low+1) ns=mkD n (fun i=>g (2*i+1)) (low+1) ns:=fun ns=>ih _ _ fun i hi=>h _ (by omega)
  simp only [mkD,h1,h2]
theorem uY (n:Nd) (ns:List Nd):ns<+:(iY n ns).2:=by
 unfold iY;split
 ·exact List.prefix_refl _
 ·exact List.prefix_append _ _
theorem yI : ∀(n:Nat) (f:Nat->Bool) (low:Nat) (ns:List Nd),ns<+:(mkD n f low ns).2:=by
 intro n
 induction n with
 |zero=>intro f low ns;exact List.prefix_refl _
 |succ n ih=>
  intro f low ns
  have h1:=ih (fun i=>f (2*i)) (low+1) ns
  have h2:=ih (fun i=>f (2*i+1)) (low+1) (mkD n (fun i=>f (2*i)) (low+1) ns).2
  simp only [mkD]
  split
  ·exact h1.trans h2
  ·exact(h1.trans h2).trans (uY _ _)
theorem S8 {n:Nd} {ns ns2:List Nd} {i:Nat} (h:ns.idxOf? n=some i) (p:ns<+:ns2):ns2.idxOf? n=some i:=by
 obtain⟨r,rfl⟩:=p
 simp only [List.idxOf?]at h⊢
 rw [List.findIdx?_append,h];rfl
theorem RV {n:Nd} {ns ns2:List Nd} (h:ns.idxOf? n=none) (p:ns++ [n]<+:ns2):ns2.idxOf? n=some ns.length:=by
 obtain⟨r,rfl⟩:=p
 simp only [List.idxOf?]at h⊢
 rw [List.append_assoc,List.findIdx?_append,h]
 simp [List.findIdx?_cons]
theorem Pn {n:Nd} {ns ns2:List Nd} (p:(iY n ns).2<+:ns2):iY n ns2=((iY n ns).1,ns2):=by
 cases h:ns.idxOf? n with
 |some i=>
  have e:iY n ns=(i+2,ns):=by simp [iY,h]
  rw [e]at p⊢
  simp [iY,S8 h p]
 |none=>
  have e:iY n ns=(ns.length+2,ns++ [n]):=by simp [iY,h]
  rw [e]at p⊢
  simp [iY,RV h p]
theorem yx : ∀(n:Nat) (f:Nat->Bool) (low:Nat) (ns ns2:List Nd),(mkD n f low ns).2<+:ns2->mkD n f low ns2=((mkD n f low ns).1,ns2):=by
 intro n
 induction n with
 |zero=>intro f low ns ns2 p;rfl
 |succ n ih=>
  intro f low ns ns2 p
  have p1:(mkD n (fun i=>f (2*i)) (low+1) ns).2<+:ns2:=by
   refine List.IsPrefix.trans ?_ p
   simp only [mkD]
   split
   ·exact yI _ _ _ _
   ·exact(yI _ _ _ _).trans (uY _ _)
  have p2:(mkD n (fun i=>f (2*i+1)) (low+1) (mkD n (fun i=>f (2*i)) (low+1) ns).2).2<+:ns2:=by
   refine List.IsPrefix.trans ?_ p
   simp only [mkD]
   split
   ·exact List.prefix_refl _
   ·exact uY _ _
  have e1:=ih _ _ _ _ p1
  have e2:=ih _ _ _ _ p2
  simp only [mkD]at p⊢
  rw [e1]
  simp only
  rw [e2]
  simp only
  split
  ·rfl
  ·rename_i hne
   rw [if_neg hne]at p
   exact Pn p
theorem SY (n:Nd) (ns:List Nd):(iY n ns).2.length<=ns.length+1:=by
 unfold iY;split<;>simp
theorem tC : ∀(n:Nat) (f:Nat->Bool) (low:Nat) (ns:List Nd),(mkD n f low ns).2.length+1<=ns.length+2^n:=by
 intro n
 induction n with
 |zero=>intro f low ns;simp [mkD]
 |succ n ih=>
  intro f low ns
  have h1:=ih (fun i=>f (2*i)) (low+1) ns
  have h2:=ih (fun i=>f (2*i+1)) (low+1) (mkD n (fun i=>f (2*i)) (low+1) ns).2
  have h3:=SY ⟨low,(mkD n (fun i=>f (2*i)) (low+1) ns).1,(mkD n (fun i=>f (2*i+1)) (low+1) (mkD n (fun i=>f (2*i)) (low+1) ns).2).1⟩ (mkD n (fun i=>f (2*i+1)) (low+1) (mkD n (fun i=>f (2*i)) (low+1) ns).2).2
  have hp:2^(n+1)=2*2^n:=by rw [Nat.pow_succ];omega
  simp only [mkD]
  split<;>omega
inductive Ev (ns:List Nd):Nat->Nat->Bool->Prop
 |no (c:Nat):Ev ns 0 c false
 |yes (c:Nat):Ev ns 1 c true
 |node {p c:Nat} {n:Nd} {b:Bool}:ns[p]?=some n->Ev ns (if c.testBit n.v then n.hi else n.lo) c b->Ev ns (p+2) c b
theorem Ev.pre {ns ns2:List Nd} (l:ns<+:ns2) {p c:Nat} {b:Bool} (e:Ev ns p c b):Ev ns2 p c b:=by
 induction e with
 |no=>exact .no _
 |yes=>exact .yes _
 |node h _ ih=>
  obtain⟨r,rfl⟩:=l
  exact .node (by rw [List.getElem?_append_left (List.getElem?_eq_some_iff.1 h).1];exact h) ih
theorem Ev.det {ns:List Nd} {p c:Nat} {b b':Bool} (e:Ev ns p c b) (e':Ev ns p c b'):b=b':=by
 induction e with
 |no=>cases e';rfl
 |yes=>cases e';rfl
 |node h _ ih=>
  cases e' with
  |node h' e2=>
   rw [h]at h';cases h'
   exact ih e2
theorem SH (n:Nd) (ns:List Nd): ∃p,(iY n ns).1=p+2/\(iY n ns).2[p]?=some n:=by
 unfold iY
 cases h:ns.idxOf? n with
 |some i=>
  refine⟨i,rfl,?_⟩
  simp only [List.idxOf?]at h
  obtain⟨hi,he,_⟩:=List.findIdx?_eq_some_iff_getElem.1 h
  simp only [beq_iff_eq]at he
  simp [hi,he]
 |none=>exact⟨ns.length,rfl,by simp⟩
theorem SW (c low n:Nat):(c/2^low)%2^(n+1)=2*((c/2^(low+1))%2^n)+(if c.testBit low then 1 else 0):=by
 have h1:c/2^(low+1)=c/2^low/2:=by rw [Nat.pow_succ,Nat.div_div_eq_div_mul]
 have h2:(if c.testBit low then 1 else 0)=(c/2^low)%2:=by
  rw [Nat.testBit_eq_decide_div_mod_eq]
  rcases Nat.mod_two_eq_zero_or_one (c/2^low)with h|h<;>simp [h]
 rw [h1,h2]
 generalize c/2^low=x
 rw [Nat.pow_succ,Nat.mul_comm (2^n) 2,Nat.mod_mul]
 omega
theorem P2 : ∀(n:Nat) (f:Nat->Bool) (low:Nat) (ns:List Nd) (c:Nat),Ev (mkD n f low ns).2 (mkD n f low ns).1 c (f ((c/2^low)%2^n)):=by
 intro n
 induction n with
 |zero=>
  intro f low ns c
  simp only [mkD,Nat.pow_zero,Nat.mod_one]
  cases f 0
  ·exact .no _
  ·exact .yes _
 |succ n ih=>
  intro f low ns c
  have e1:=ih (fun i=>f (2*i)) (low+1) ns c
  have e2:=ih (fun i=>f (2*i+1)) (low+1) (mkD n (fun i=>f (2*i)) (low+1) ns).2 c
  have l2:=yI n (fun i=>f (2*i+1)) (low+1) (mkD n (fun i=>f (2*i)) (low+1) ns).2
  have e1':=e1.pre l2
  rw [SW]
  simp only [mkD]
  split
  ·rename_i he
   rw [he]at e1'
   have hd:=e1'.det e2
   cases hb:c.testBit low
   ·simp only [Bool.false_eq_true,if_false,Nat.add_zero];rw [hd];exact e2
   ·simpa using e2
  ·obtain⟨p,hp,hg⟩:=SH ⟨low,(mkD n (fun i=>f (2*i)) (low+1) ns).1,(mkD n (fun i=>f (2*i+1)) (low+1) (mkD n (fun i=>f (2*i)) (low+1) ns).2).1⟩
    (mkD n (fun i=>f (2*i+1)) (low+1) (mkD n (fun i=>f (2*i)) (low+1) ns).2).2
   rw [hp]
   refine .node hg ?_
   cases hb:c.testBit low
   ·simp only [Bool.false_eq_true,if_false,Nat.add_zero];exact e1'.pre (uY _ _)
   ·simp only [if_true];exact e2.pre (uY _ _)
theorem VA {n low:Nat} {f g:Nat->Bool} {ns:List Nd}:
  (mkD n f low ns).1=(mkD n g low (mkD n f low ns).2).1↔ ∀i,i<2^n->f i=g i:=by
 constructor
 ·intro he i hi
  have e1:=(P2 n f low ns (i*2^low)).pre (yI n g low (mkD n f low ns).2)
  have e2:=P2 n g low (mkD n f low ns).2 (i*2^low)
  rw [he]at e1
  have:=e1.det e2
  rwa [Nat.mul_div_cancel _ (Nat.pow_pos (by omega)),Nat.mod_eq_of_lt hi]at this
 ·intro h
  rw [<-FX n low _ h,yx n f low ns _ (List.prefix_refl _)]
theorem S4 {n low:Nat} {f g:Nat->Bool} {ns:List Nd} (h: ∀i,i<2^n->f i=g i):mkD n g low (mkD n f low ns).2=mkD n f low ns:=by
 rw [<-FX n low _ h,yx n f low ns _ (List.prefix_refl _)]
theorem S9 {α:Type} {xs:List α} {p:α->Bool} {i:Nat} (hi:i<xs.length) (hp:p xs[i]=false):xs.all p=false:=by
 rw [List.all_eq_false];exact⟨_,List.getElem_mem hi,by simp [hp]⟩
theorem Wt {α:Type} {xs:List α} {p:α->Bool} {i:Nat} (hi:i<xs.length):(xs.take (i+1)).all p=((xs.take i).all p&&p xs[i]):=by
 rw [List.take_succ_eq_append_getElem hi,List.all_append];simp
theorem OM {α:Type} {xs:List α} {p:α->Bool} {i:Nat} (hi:i<xs.length):(xs.take (i+1)).any p=((xs.take i).any p||p xs[i]):=by
 rw [List.take_succ_eq_append_getElem hi,List.any_append];simp
theorem dH {h:Hp} {x a b:Int} {R:Value->Hp->Prop} (k:R (.bool (decide (a<=x/\x<=b))) h):cH #[I x,I a,I b] h R:=by
 apply OE
 refine uf_ ?_
 refine ac (fun e=>?_) (fun e=>?_)
 ·simp at e;simpa [e] using k
 ·simp at e;rwa [decide_eq_false (by omega)]at k
theorem fK {h:Hp} {x a b:Int} {R:Value->Hp->Prop} (k:R (.bool (decide (a<=x/\x<=b))) h):dz #[I x,I a,I b] h R:=by
 apply Tr
 refine uf_ ?_
 refine ac (fun e=>?_) (fun e=>?_)
 ·simp at e;simpa [e] using k
 ·simp at e;rwa [decide_eq_false (by omega)]at k
def F4 {α:Type} (p:α->Bool) (xs:List α):Int:=match xs.findIdx? p with|some i=>i|none=> -1
theorem yY {α:Type} {p:α->Bool} {xs:List α} (e:xs.any p=false):F4 p xs= -1:=by
 have:xs.findIdx? p=none:=by
  rw [List.findIdx?_eq_none_iff];intro x hx;rw [List.any_eq_false]at e;simpa using e x hx
 simp [F4,this]
theorem CO {α:Type} {p:α->Bool} {xs:List α} {i:Nat} (hi:i<xs.length) (e:(xs.take i).any p=false) (hp:p xs[i]=true):F4 p xs=i:=by
 have:xs.findIdx? p=some i:=by
  rw [List.findIdx?_eq_some_iff_getElem]
  refine⟨hi,hp,fun j hj=>?_⟩
  rw [List.any_eq_false]at e
  exact e _ (by rw [List.mem_take_iff_getElem];exact⟨j,by omega,rfl⟩)
 simp [F4,this]
theorem LW {α:Type} (p:α->Bool) (xs:List α):decide (F4 p xs>=0)=xs.any p:=by
 cases h:xs.any p with
 |false=>rw [yY h];rfl
 |true=>
  unfold F4
  cases h':xs.findIdx? p with
  |some i=>simp
  |none=>rw [List.findIdx?_eq_none_iff]at h';rw [List.any_eq_true]at h;obtain⟨x,hx,hp⟩:=h;simp [h' x hx]at hp
theorem sA {h:Hp} {s:Sl} {xs:List Int} {f:FuncId} {u w:Array Value} (p:Int->Bool) {R:Value->Hp->Prop} (hs:IntS h s xs)
  (hf: ∀x∈xs,∀R:Value->Hp->Prop,R (.bool (p x)) h->ACalls PR f ((u++ #[I x])++w) h R)
  (k:R (I (F4 p xs)) h):fe #[s.v, .func (.func f) u w] h R:=by
 apply rK
 refine uf_ ?_
 have hb:=hs.bound
 refine av xs.length (fun i vs h'=>vs= [s.v, .func (.func f) u w,I xs.length,I i]/\h'=h/\(xs.take i).any p=false) ⟨by rw [hs.len];rfl,rfl,by simp⟩ ?_
 rintro i _ _ next hi ⟨rfl,rfl,hp⟩ hn
 refine⟨_,_,_,_,_,_,rfl,?_⟩
 by_cases hlt:i<xs.length
 ·obtain⟨b,o,ha,hc⟩:=hs.at hlt
  refine aM (by simp [hlt]) ?_
  simp only [vm,hs.len,ha,hc,aC (n:=i) (by omega)]
  refine⟨by omega,hf _ (List.getElem_mem hlt) _ ⟨_,rfl,ac (fun he=>?_) (fun he=>?_)⟩⟩
  ·rwa [CO hlt hp he]at k
  ·exact hn hlt _ _ ⟨rfl,rfl,by rw [OM hlt,hp,he];rfl⟩
 ·have:i=xs.length:=by omega
  subst this
  rw [List.take_length]at hp
  refine aE (by simp) ?_
  rwa [yY hp]at k
theorem po {h:Hp} {s:Sl} {xs:List Int} {f:FuncId} {u w:Array Value} (p:Int->Bool) {R:Value->Hp->Prop} (hs:IntS h s xs)
  (hf: ∀x∈xs,∀R:Value->Hp->Prop,R (.bool (p x)) h->ACalls PR f ((u++ #[I x])++w) h R)
  (k:R (.bool (xs.any p)) h):eo #[s.v, .func (.func f) u w] h R:=by
 apply pT
 refine uf_ ?_
 exact sA p hs hf ⟨_,rfl,by rwa [LW]⟩
def rD (h:Hp) (s:Sl) (xs:List Bool):Prop:=SlC h s 1 (xs.map Value.bool)
theorem rD.mono {h h':Hp} {s:Sl} {xs:List Bool} (l:h.le h') (e:rD h s xs):rD h' s xs:=SlC.mono l e
theorem rD.len {h:Hp} {s:Sl} {xs:List Bool} (e:rD h s xs):s.n=xs.length:=by have:=e.2.1;simp at this;omega
theorem jn {h:Hp} {c n:Nat} {R:Value->Hp->Prop} (hn:n<=64) (k:R (I (if c.testBit n then 1 else 0)) h):d8 #[I c,I n] h R:=by
 apply Mg
 refine uf_ ?_
 rw [cu (by omega),if_neg (by omega),jw hn,HE,aba]
 split<;>simp_all
theorem Sx (xs:List Int):(xs.map I).all (·.oneCell')=true:=by
 rw [List.all_eq_true]
 intro v hv
 obtain⟨x,_,rfl⟩:=List.mem_map.1 hv
 rfl
theorem oh {h:Hp} {s:Sl} {xs:List Int} {R:Value->Hp->Prop} (hs:IntS h s xs) (hl:xs.length<=1048576)
  (k: ∀t h',h.le h'->Buf (h'.sub h) t 1 (xs.map I)->R (Sl.v t) h'):fU #[s.v] h R:=by
 apply uC
 refine uf_ ?_
 have:=hs.len
 exact KG hs (by omega) (Sx _) fun t h' hn hle hb=>k t h' hle hb
theorem aa7 (a b c a' b' c':Int):aeq PR 3 jO (.agg #[I a,I b,I c]) (.agg #[I a',I b',I c'])=some (a==a'&&(b==b'&&(c==c'&&true))):=by kernel_rfl
theorem MY (l:List UInt8): ∀(k i:Nat) (r:List UInt8),i+k=l.length->ByteArray.toList.loop ⟨l.toArray⟩ i r=r.reverse++l.drop i:=by
 intro k
 induction k with
 |zero=>
  intro i r hi
  unfold ByteArray.toList.loop
  rw [if_neg (by simp [ByteArray.size];omega),List.drop_eq_nil_of_le (by omega),List.append_nil]
 |succ k ih=>
  intro i r hi
  unfold ByteArray.toList.loop
  rw [if_pos (by simp [ByteArray.size];omega),ih (i+1) _ (by omega),List.drop_eq_getElem_cons (i:=i) (by omega)]
  simp [ByteArray.get!,show i<l.length by omega]
theorem lm (l:List UInt8):(⟨l.toArray⟩:ByteArray).toList=l:=by
 unfold ByteArray.toList
 rw [MY l l.length 0 [] (by omega)];rfl
def dt (n:Nat) (f:Nat->Bool):List Value:=(List.range (2^n)).map fun i=>Value.int .u8 (if f i then 1 else 0)
def cZ (n:Nat) (f:Nat->Bool):List UInt8:=(List.range (2^n)).map fun i=>if f i then 1 else 0
theorem JC (n:Nat) (f:Nat->Bool):fB (cZ n f)=dt n f:=by
 unfold fB cZ dt
 rw [List.map_map]
 apply List.map_congr_left
 intro i _
 simp only [Function.comp]
 cases f i<;>rfl
def AN (h:Hp) (t:Sl) (n:Nat) (f:Nat->Bool):Prop:=SlC h t 1 (dt n f)
theorem AN.mono {h h':Hp} {t:Sl} {n:Nat} {f:Nat->Bool} (l:h.le h') (e:AN h t n f):AN h' t n f:=SlC.mono l e
theorem AN.len {h:Hp} {t:Sl} {n:Nat} {f:Nat->Bool} (e:AN h t n f):t.n=2^n:=by have:=e.2.1;simp [dt]at this;omega
theorem AN.at {h:Hp} {t:Sl} {n:Nat} {f:Nat->Bool} (e:AN h t n f) {i:Nat} (hi:i<2^n):
  ∃b o,t.a=some (Addr.mk b o none)/\Hp.cell h b (o+i)=some (.int .u8 (if f i then 1 else 0)):=by
 have hl:=e.len
 obtain⟨b,o,ha,hc⟩:=SlC.get e (by omega)
 exact⟨b,o,ha,hc i _ (by simp [dt,hi])⟩
theorem AN.all {h:Hp} {t:Sl} {n:Nat} {f:Nat->Bool} (e:AN h t n f):mM h t.a t.n (fB (cZ n f)):=by
 rw [JC]
 exact⟨by rw [e.2.1,Nat.mul_one],e.2.2⟩
theorem tO (n:Nat) (f:Nat->Bool):(dt n f).length=2^n:=by simp [dt]
theorem xD {h:Hp} {c:Bool} {R:Value->Hp->Prop} (k:R (I (if c then 1 else 0)) h):mY #[.bool c] h R:=by
 apply QF
 refine uf_ ?_
 cases c<;>exact k
def Fp (h:Hp) (fid:FuncId) (u w:Array Value) (n:Nat) (f:Nat->Bool):Prop:=
 ∀(i:Nat),i<n-> ∀(h':Hp),h.le h'-> ∀R:Value->Hp->Prop,R (.bool (f i)) h'->ACalls PR fid ((u++ #[I i])++w) h' R
theorem ug {h:Hp} {n:Nat} {fid:FuncId} {u w:Array Value} {f:Nat->Bool} {R:Value->Hp->Prop} (hn:n<=13) (hf:Fp h fid u w (2^n) f)
  (k: ∀t h',h.le h'->AN (h'.sub h) t n f->R (Sl.v t) h'):kl #[I n, .func (.func fid) u w] h R:=by
 apply Ff
 refine uf_ ?_
 have h2:2^n<=8192:=by
  have:=Nat.pow_le_pow_right (n:=2) (by omega) hn
  simpa using this
 rw [if_neg (by omega),bK (by omega)]
 simp only [vm,cn]
 refine⟨by omega,by omega,by omega,fun b hb=>vo fun h1 e1=>?_⟩
 refine av (2^n) (fun i vs h'=>vs= [.func (.func fid) u w,Sl.v ⟨some ⟨b,0,none⟩,2^n,2^n⟩,I (2^n:Nat),I i]/\
  ∃cs,h'=h.row b cs (2^n)/\cs.length=2^n/\cs.take i=(dt n f).take i) ⟨rfl,_,e1,by simp,by simp⟩ ?_
 rintro i _ _ next hi ⟨rfl,cs,rfl,hcl,hp⟩ hn'
 refine⟨_,_,_,_,_,_,rfl,?_⟩
 by_cases hlt:i<2^n
 ·refine aM (by simpa using by exact_mod_cast hlt) ?_
  refine hf i hlt _ (fg _ _ hb) _ ⟨_,rfl,xD ⟨_,rfl,?_⟩⟩
  simp only [vm,mm,aC (n:=i) (by omega)]
  refine⟨by omega,by omega,hn' hlt _ _ ⟨rfl,_,rfl,by simpa using hcl,?_⟩⟩
  have hti:i<(dt n f).length:=by rw [tO];exact hlt
  rw [qy _ (by omega),hp,List.take_succ_eq_append_getElem hti]
  congr 2
  simp only [dt,List.getElem_map,List.getElem_range]
  cases f i<;>rfl
 ·have:i=2^n:=by omega
  subst this
  rw [<-hcl,List.take_length,hcl,<-tO n f,List.take_length]at hp
  subst hp
  exact aE (by simp) (k _ _ (fg _ _ hb) ⟨by show 2^n<=_;omega,by simp [dt], .inr ⟨_,_,rfl,ay (YQ _ _ hb)⟩⟩)
def bD (ns:List Nd):List Value:=ns.flatMap fun n=> [I n.v,I n.lo,I n.hi]
def Hb (n:Nd):Value:= .agg #[I n.v,I n.lo,I n.hi]
structure BI (h:Hp) (B rs rn:Nat) (vars:Nat) (s:Sl) (ns:List Nd) (es:List (ByteArray×Nat)):Prop where
 row:h B=some (.inl ⟨[I vars,s.v,I 0, .map (some rs), .map (some rn)],5,false⟩)
 buf:Buf h s 3 (bD ns)
 seen:h rs=some (.inr (es.map fun e=>(.string e.1,I e.2)))
 nodes:h rn=some (.inr (ns.zipIdx.map fun e=>(Hb e.1,I (e.2+2:Nat))))
 far:rs≠rn
 own: ∀a,s.a=some a->a.block≠B
 true: ∀e∈es,∃n f low,low+n=vars/\e.1=⟨(cZ n f).toArray⟩/\mkD n f low ns=(e.2,ns)
theorem BI.mono {h h':Hp} {B rs rn vars:Nat} {s:Sl} {ns:List Nd} {es:List (ByteArray×Nat)} (l:h.le h') (e:BI h B rs rn vars s ns es):BI h' B rs rn vars s ns es:=
 ⟨l _ _ e.row,e.buf.mono l,l _ _ e.seen,l _ _ e.nodes,e.far,e.own,e.true⟩
theorem BI.blkB {h:Hp} {B rs rn vars:Nat} {s:Sl} {ns:List Nd} {es:List (ByteArray×Nat)} (e:BI h B rs rn vars s ns es): ∀b∈ [B,rs,rn]++s.blk,∃x,h b=some x:=by
 intro b hb
 simp only [List.cons_append,List.nil_append,List.mem_cons]at hb
 rcases hb with rfl|rfl|rfl|hb
 ·exact⟨_,e.row⟩
 ·exact⟨_,e.seen⟩
 ·exact⟨_,e.nodes⟩
 ·revert b hb
  refine vY.2 fun a ha=>?_
  rcases e.buf.2.2 with ⟨h0,_⟩|⟨c,hc,hcb⟩
  ·rw [h0]at ha;cases ha
  ·rw [hc]at ha;cases ha;exact⟨_,hcb⟩
theorem BI.put {h:Hp} {B rs rn vars:Nat} {s:Sl} {ns:List Nd} {es:List (ByteArray×Nat)} (e:BI h B rs rn vars s ns es) {n low:Nat} {f:Nat->Bool} (hlow:low+n=vars)
  {a:Nat} (ha:mkD n f low ns=(a,ns)): ∃(es2:List (ByteArray×Nat)) (res:Option (Nat×Value)),fM (Instr.sameNow .string (.string ⟨(cZ n f).toArray⟩)) (es.map fun e=>(.string e.1,I e.2)) 0=some res/\
   vM (es.map fun e=>(.string e.1,I e.2)) (.string ⟨(cZ n f).toArray⟩) (I a) res=es2.map (fun e:ByteArray×Nat=>(Value.string e.1,I e.2))/\ ∀x∈es2,∃n f low,low+n=vars/\x.1=⟨(cZ n f).toArray⟩/\mkD n f low ns=(x.2,ns):=by
 rcases qF (Instr.sameNow .string (.string ⟨(cZ n f).toArray⟩)) (fun e:ByteArray×Nat=> .string e.1) (fun e=>I e.2) (fun e=>(⟨(cZ n f).toArray⟩:ByteArray)==e.1) es 0 (fun _ _=>rfl)with ⟨hno,hm⟩|⟨j,hj,hyes,_,hm⟩
 ·refine⟨es++ [(⟨(cZ n f).toArray⟩,a)],_,hm,by simp [vM],?_⟩
  intro x hx
  rcases List.mem_append.1 hx with hx|hx
  ·exact e.true x hx
  ·simp only [List.mem_singleton]at hx;subst hx;exact⟨n,f,low,hlow,rfl,ha⟩
 ·refine⟨es.set j (⟨(cZ n f).toArray⟩,a),_,hm,by simp [vM,List.map_set],?_⟩
  intro x hx
  rcases List.mem_or_eq_of_mem_set hx with hx|hx
  ·exact e.true x hx
  ·subst hx;exact⟨n,f,low,hlow,rfl,ha⟩
theorem BK {n m:Nat} {f g:Nat->Bool} (e:cZ n f=cZ m g):n=m/\ ∀i,i<2^n->f i=g i:=by
 have hl:=congrArg List.length e
 simp only [cZ,List.length_map,List.length_range]at hl
 have hn:n=m:=(Nat.pow_right_inj (by decide:1<2)).1 hl
 subst hn
 refine⟨rfl,fun i hi=>?_⟩
 have:=congrArg (fun l:List UInt8=>l[i]?) e
 simp only [cZ,List.getElem?_map,List.getElem?_range hi,Option.map_some,Option.some.injEq]at this
 cases h1:f i<;>cases h2:g i<;>simp [h1,h2]at this<;>rfl
theorem Yc (nd:Nd) (ns:List Nd):
  (∃j,fM (aeq PR 3 jO (.agg #[I nd.v,I nd.lo,I nd.hi])) (ns.zipIdx.map fun e=>(Hb e.1,I (e.2+2:Nat))) 0=some (some (j,I (j+2:Nat)))/\iY nd ns=(j+2,ns))\/
  (fM (aeq PR 3 jO (.agg #[I nd.v,I nd.lo,I nd.hi])) (ns.zipIdx.map fun e=>(Hb e.1,I (e.2+2:Nat))) 0=some none/\iY nd ns=(ns.length+2,ns++ [nd])):=by
 have heq: ∀m:Nd,((nd.v:Int)==(m.v:Int)&&((nd.lo:Int)==(m.lo:Int)&&((nd.hi:Int)==(m.hi:Int)&&true)))=(m==nd):=by
  intro m
  rw [Bool.eq_iff_iff]
  simp only [Bool.and_eq_true,beq_iff_eq,Bool.and_true]
  obtain⟨a,b,c⟩:=nd;obtain⟨a',b',c'⟩:=m
  simp only [Nd.mk.injEq]
  omega
 rcases qF (aeq PR 3 jO (.agg #[I nd.v,I nd.lo,I nd.hi])) (fun e:Nd×Nat=>Hb e.1) (fun e=>I (e.2+2:Nat))
  (fun e=>(nd.v:Int)==(e.1.v:Int)&&((nd.lo:Int)==(e.1.lo:Int)&&((nd.hi:Int)==(e.1.hi:Int)&&true))) ns.zipIdx 0 (fun e _=>aa7 _ _ _ _ _ _)with ⟨hno,hm⟩|⟨j,hj,hyes,hbef,hm⟩
 ·refine .inr ⟨hm,?_⟩
  have:ns.idxOf? nd=none:=by
   simp only [List.idxOf?]
   rw [List.findIdx?_eq_none_iff]
   intro m hmm
   obtain⟨i,hi,rfl⟩:=List.getElem_of_mem hmm
   have:=hno (ns[i],i) (by rw [List.mem_iff_getElem];exact⟨i,by simpa using hi,by simp⟩)
   simp only [heq]at this
   exact this
  simp [iY,this]
 ·have hj':j<ns.length:=by simpa using hj
  simp only [heq,List.getElem_zipIdx,Nat.zero_add]at hyes hbef hm
  refine .inl ⟨j,hm,?_⟩
  have:ns.idxOf? nd=some j:=by
   simp only [List.idxOf?]
   rw [List.findIdx?_eq_some_iff_getElem]
   exact⟨hj',hyes,fun l hl=>by have:=hbef l (by simp;omega) hl;simp [this]⟩
  simp [iY,this]
theorem xR (ns:List Nd) (nd:Nd):bD (ns++ [nd])=bD ns++ [I nd.v,I nd.lo,I nd.hi]:=by simp [bD]
theorem k4 (ns:List Nd):(bD ns).length=ns.length*3:=by
 induction ns with
 |nil=>rfl
 |cons n ns ih=>simp only [bD,List.flatMap_cons,List.length_append,List.length_cons,List.length_nil]at ih⊢;omega
theorem QC {B rs rn vars:Nat} (hvars:vars<=13): ∀(n:Nat) (f:Nat->Bool) (low:Nat) (t:Sl) (h:Hp) (s:Sl) (ns:List Nd) (es:List (ByteArray×Nat)) (g:Hp) (R:Value->Hp->Prop),
  BI h B rs rn vars s ns es->g.le h->g B=none->g rs=none->g rn=none->(∀a,s.a=some a->g a.block=none)->AN g t n f->low+n=vars->ns.length+2^n<=1048576->
  (∀s' es' h',BI h' B rs rn vars s' (mkD n f low ns).2 es'->g.le h'->(∀a,s'.a=some a->g a.block=none)->R (I (mkD n f low ns).1) h')->
  gq #[.pointer (some ⟨B,0,none⟩),t.v,I low] h R:=by
 intro n
 induction n with
 |zero=>
  intro f low t h s ns es g R inv hg gB grs grn gs ht hlow hlen k
  apply qo
  refine uf_ ?_
  have hl:=ht.len
  obtain⟨b,o,ha,hc⟩:=ht.at (i:=0) (by simp)
  refine aM (by simp [hl]) ?_
  simp only [vm,hl,ha,hg.cell hc]
  have:=hg.cell hc
  simp only [Nat.add_zero]at this
  refine⟨by omega,by simp,?_⟩
  simp only [Int.toNat_zero,Nat.add_zero,this,vm]
  have:=k s es h inv hg gs
  simp only [mkD]at this
  have e0:W (if f 0 then 1 else 0)=((if f 0 then 1 else 0:Nat):Int):=by cases f 0<;>rfl
  rw [e0];exact this
 |succ n ih=>
  intro f low t h s ns es g R inv hg gB grs grn gs ht hlow hlen k
  apply qo
  refine uf_ ?_
  have hl:=ht.len
  have hp:2^(n+1)=2*2^n:=by rw [Nat.pow_succ];omega
  have hp1:0<2^n:=Nat.pow_pos (by omega)
  have hp2:2^n<=8192:=by
   have:=Nat.pow_le_pow_right (n:=2) (by omega) (show n<=13 by omega)
   simpa using this
  refine aE (by simp [hl];omega) ?_
  refine⟨cZ (n+1) f,(ht.mono hg).all,?_⟩
  simp only [vm,aq inv.row,mm]
  refine⟨rs,es.map (fun e=>(.string e.1,I e.2)),?_⟩
  rcases qF (Instr.sameNow .string (.string ⟨(cZ (n+1) f).toArray⟩)) (fun e:ByteArray×Nat=> .string e.1) (fun e=>I e.2) (fun e=>(⟨(cZ (n+1) f).toArray⟩:ByteArray)==e.1) es 0 (fun _ _=>rfl)with ⟨hno,hm⟩|⟨j,hj,hyes,_,hm⟩
  rotate_left
  ·refine⟨_,rfl,inv.seen,hm,_,rfl,aM rfl ?_⟩
   obtain⟨m,f',low',hlow',hkey,hmk⟩:=inv.true _ (List.getElem_mem hj)
   rw [hkey]at hyes
   have hb:cZ (n+1) f=cZ m f':=by
    have h9:((cZ (n+1) f).toArray==(cZ m f').toArray)=true:=hyes
    simpa using h9
   obtain⟨rfl,hff⟩:=BK hb
   have:low'=low:=by omega
   subst this
   have e:=FX (n+1) low' ns hff
   rw [hmk]at e
   have:=k s es h (by rw [e];exact inv) hg gs
   rw [e]at this
   exact this
  refine⟨_,rfl,inv.seen,hm,_,rfl,aE rfl ?_⟩
  have hdiv:W ((t.n:Int).tdiv 2)=((2^n:Nat):Int):=by
   rw [hl,hp]
   have:(((2*2^n:Nat):Int)).tdiv 2=((2^n:Nat):Int):=by
    have:=Int.ofNat_tdiv (2*2^n) 2
    rw [show 2*2^n/2=2^n by omega]at this
    exact this.symm
   rw [this];exact eO (by omega)
  simp only [hdiv,vm,cn]
  refine ap (fun J=> ∀b1 b2:Nat,b1≠b2->h b1=none->h b2=none-> ∀h1:Hp,h1 b1=some (.inl ⟨List.replicate (2^n) (.int .u8 0),2^n,false⟩)->h1 b2=some (.inl ⟨List.replicate (2^n) (.int .u8 0),2^n,false⟩)->h.le h1->
   J ⟨some ⟨b1,0,none⟩,2^n,2^n⟩ ⟨some ⟨b2,0,none⟩,2^n,2^n⟩ h1) ?_ ?_
  rotate_left
  ·intro J hJ
   refine⟨⟨by omega,by omega,by omega,fun b1 hb1=>⟨by omega,by omega,by omega,fun b2 hb2=>?_⟩⟩,⟨by omega,by omega,by omega,fun b1 hb1=>⟨by omega,by omega,by omega,fun b2 hb2=>?_⟩⟩⟩
   ·exact hJ b1 b2 hb2.1.symm hb1 hb2.2 _ (by rw [bX _ _ hb2.1.symm,bM]) (by rw [bM]) (et _ _ hb2.2 (fg _ _ hb1))
   ·exact hJ b2 b1 hb2.1 hb2.2 hb1 _ (by rw [bM]) (by rw [bX _ _ hb2.1.symm,bM]) (et _ _ hb2.2 (fg _ _ hb1))
  intro b1 b2 n12 hb1 hb2 h1 f1 f2 l1
  refine av (2^n) (fun i vs h'=>vs= [.pointer (some ⟨B,0,none⟩),t.v,I low, .string ⟨(cZ (n+1) f).toArray⟩,Sl.v ⟨some ⟨b1,0,none⟩,2^n,2^n⟩,Sl.v ⟨some ⟨b2,0,none⟩,2^n,2^n⟩,I (2^n:Nat),I i]/\
   h.le h'/\ ∃c1 c2,h' b1=some (.inl ⟨c1,2^n,false⟩)/\h' b2=some (.inl ⟨c2,2^n,false⟩)/\c1.length=2^n/\c2.length=2^n/\c1.take i=(dt n fun i=>f (2*i)).take i/\c2.take i=(dt n fun i=>f (2*i+1)).take i)
   ⟨rfl,l1,_,_,f1,f2,by simp,by simp,by simp,by simp⟩ ?_
  rintro i _ h2 next hi ⟨rfl,l2,c1,c2,g1,g2,q1,q2,p1,p2⟩ hn
  refine⟨_,_,_,_,_,_,_,_,rfl,?_⟩
  by_cases hlt:i<2^n
  ·obtain⟨bt,ot,hta,htc⟩:=((ht.mono hg).mono l2).at (i:=2*i) (by omega)
   obtain⟨bt',ot',hta',htc'⟩:=((ht.mono hg).mono l2).at (i:=2*i+1) (by omega)
   rw [hta]at hta';cases hta'
   have e1:W (2*(i:Int))=((2*i:Nat):Int):=by rw [<-eO (n:=2*i) (by omega)];congr 1
   have e2:W (((2*i:Nat):Int)+1)=((2*i+1:Nat):Int):=aC (by omega)
   refine aM (by simpa using by exact_mod_cast hlt) ?_
   simp only [e1,e2,vm,mm,hl,hta,htc,htc',aC (n:=i) (show i<9223372036854775807 by omega)]
   refine⟨by omega,by omega,by omega,c1,2^n,g1,by omega,by omega,?_⟩
   rw [bX _ _ n12.symm]
   refine⟨c2,2^n,g2,by omega,?_⟩
   refine hn hlt _ _ ⟨rfl,et _ _ hb2 (et _ _ hb1 l2),_,_,by rw [bX _ _ n12,bM],bM ..,by simpa using q1,by simpa using q2,?_,?_⟩
   ·have hti:i<(dt n fun i=>f (2*i)).length:=by rw [tO];exact hlt
    rw [qy _ (by omega),p1,List.take_succ_eq_append_getElem hti]
    simp [dt]
   ·have hti:i<(dt n fun i=>f (2*i+1)).length:=by rw [tO];exact hlt
    rw [qy _ (by omega),p2,List.take_succ_eq_append_getElem hti]
    simp [dt]
  have:i=2^n:=by omega
  subst this
  rw [<-q1,List.take_length,q1,<-tO n (fun i=>f (2*i)),List.take_length]at p1
  rw [<-q2,List.take_length,q2,<-tO n (fun i=>f (2*i+1)),List.take_length]at p2
  subst p1;subst p2
  refine aE (by simp) ?_
  clear hn next f1 f2 l1 h1
  have hout: ∀b,h b=none->b∉ [B,rs,rn]++s.blk:=fun b hb hm=>by
   obtain⟨x,hx⟩:=inv.blkB b hm
   rw [hb]at hx;cases hx
  have tb:2^n<=9223372036854775807:=by omega
  have t1:AN (h2.wo ([B,rs,rn]++s.blk)) ⟨some ⟨b1,0,none⟩,2^n,2^n⟩ n (fun i=>f (2*i)):=
   ⟨tb,by simp [tO], .inr ⟨b1,0,rfl,ay (by rw [sy (hout b1 hb1)];exact g1)⟩⟩
  have t2:AN (h2.wo ([B,rs,rn]++s.blk)) ⟨some ⟨b2,0,none⟩,2^n,2^n⟩ n (fun i=>f (2*i+1)):=
   ⟨tb,by simp [tO], .inr ⟨b2,0,rfl,ay (by rw [sy (hout b2 hb2)];exact g2)⟩⟩
  have hgw:g.le (h2.wo ([B,rs,rn]++s.blk)):=sW (Hp.le_trans hg l2) (by
   intro b hb
   simp only [List.cons_append,List.nil_append,List.mem_cons]at hb
   rcases hb with rfl|rfl|rfl|hb
   ·exact gB
   ·exact grs
   ·exact grn
   ·exact vY (p:=fun b=>g b=none).2 gs b hb)
  rw [aC (by omega)]
  have len1:=tC n (fun i=>f (2*i)) (low+1) ns
  refine ih _ (low+1) _ h2 s ns es (h2.wo ([B,rs,rn]++s.blk)) _ (inv.mono l2) (wD _ _) (fo (by simp)) (fo (by simp)) (fo (by simp))
   (vY (p:=fun b=>(h2.wo ([B,rs,rn]++s.blk)) b=none).1 fun b hb=>fo (by simp [hb])) t1 (by omega) (by omega) ?_
  intro s3 es3 h3 inv3 l3 gs3
  refine⟨_,rfl,cZ n (fun i=>f (2*i)),(t1.mono l3).all,cZ n (fun i=>f (2*i+1)),(t2.mono l3).all,?_⟩
  refine ap (fun J=> ∀s' es' h',BI h' B rs rn vars s' (mkD (n+1) f low ns).2 es'->g.le h'->(∀a,s'.a=some a->g a.block=none)->J ((mkD (n+1) f low ns).1:Nat) h') ?_ ?_
  ·intro s' es' h' inv' lg' gs'
   obtain⟨es2,res,hm2,hput,htrue⟩:=inv'.put (n:=n+1) (low:=low) (f:=f) hlow (yx (n+1) f low ns _ (List.prefix_refl _))
   simp only [vm,aq inv'.row,mm]
   refine⟨rs,_,res,rfl,inv'.seen,hm2,?_⟩
   rw [hput]
   have nB:B≠rs:=dR inv'.row inv'.seen (by intro h;cases h)
   refine k s' es2 _ ⟨by rw [Hp.set_ne _ _ nB];exact inv'.row,?_,Hp.set_eq ..,by rw [Hp.set_ne _ _ inv'.far.symm];exact inv'.nodes,inv'.far,inv'.own,htrue⟩ (nu _ lg' grs) gs'
   refine⟨inv'.buf.1,inv'.buf.2.1,inv'.buf.2.2.imp id ?_⟩
   rintro ⟨c,hc,hcb⟩
   exact⟨c,hc,by rw [Hp.set_ne _ _ (dR hcb inv'.seen (by intro h;cases h))];exact hcb⟩
  ·intro J hJ
   rw [lm,lm]
   refine ac (fun e=>?_) (fun e=>?_)
   rotate_left
   ·have e':cZ n (fun i=>f (2*i))=cZ n (fun i=>f (2*i+1)):=by simpa using e
    have hs2:=S4 (low:=low+1) (ns:=ns) (BK e').2
    have hmk:mkD (n+1) f low ns=mkD n (fun i=>f (2*i)) (low+1) ns:=by simp only [mkD];rw [hs2];simp
    have:=hJ s3 es3 h3 (by rw [hmk];exact inv3) (Hp.le_trans hgw l3) ?_
    ·rw [hmk]at this;exact this
    ·intro a ha;
     have:=gs3 a ha
     cases hga:g a.block with
     |none=>rfl
     |some x=>rw [hgw _ _ hga]at this;cases this
   have hne: ¬(mkD n (fun i=>f (2*i)) (low+1) ns).1=(mkD n (fun i=>f (2*i+1)) (low+1) (mkD n (fun i=>f (2*i)) (low+1) ns).2).1:=by
    intro he
    have:=VA.1 he
    have e2:cZ n (fun i=>f (2*i))=cZ n (fun i=>f (2*i+1)):=by
     unfold cZ
     apply List.map_congr_left
     intro i hi
     simp only [this i (by simpa using hi)]
    rw [e2]at e;simp at e
   have hmk:mkD (n+1) f low ns=iY ⟨low,(mkD n (fun i=>f (2*i)) (low+1) ns).1,(mkD n (fun i=>f (2*i+1)) (low+1) (mkD n (fun i=>f (2*i)) (low+1) ns).2).1⟩
     (mkD n (fun i=>f (2*i+1)) (low+1) (mkD n (fun i=>f (2*i)) (low+1) ns).2).2:=by simp only [mkD];rw [if_neg hne]
   have len2:=tC n (fun i=>f (2*i+1)) (low+1) (mkD n (fun i=>f (2*i)) (low+1) ns).2
   generalize mkD n (fun i=>f (2*i)) (low+1) ns=r1 at*
   refine ih _ (low+1) _ h3 s3 r1.2 es3 ((h3.wo ([B,rs,rn]++s3.blk))) _ inv3 (wD _ _) (fo (by simp)) (fo (by simp)) (fo (by simp))
    (vY (p:=fun b=>(h3.wo ([B,rs,rn]++s3.blk)) b=none).1 fun b hb=>fo (by simp [hb])) (t2.mono (sW l3 ?_)) (by omega) (by omega) ?_
   ·intro b hb
    simp only [List.cons_append,List.nil_append,List.mem_cons]at hb
    rcases hb with rfl|rfl|rfl|hb
    ·exact fo (by simp)
    ·exact fo (by simp)
    ·exact fo (by simp)
    ·exact vY (p:=fun b=>(h2.wo ([B,rs,rn]++s.blk)) b=none).2 gs3 b hb
   generalize mkD n (fun i=>f (2*i+1)) (low+1) r1.2=r2 at*
   intro s4 es4 h4 inv4 l4 gs4
   refine⟨_,rfl,?_⟩
   intro b5 hb5
   have nB:=fresh_ne hb5 inv4.row
   have nN:=fresh_ne hb5 inv4.nodes
   simp only [vm,mm,nB,nN,aq inv4.row,ne_eq,not_false_eq_true]
   have hgw3:g.le (h3.wo ([B,rs,rn]++s3.blk)):=sW (Hp.le_trans hgw l3) (by
    intro b hb
    refine aF hgw ?_
    simp only [List.cons_append,List.nil_append,List.mem_cons]at hb
    rcases hb with rfl|rfl|rfl|hb
    ·exact fo (by simp)
    ·exact fo (by simp)
    ·exact fo (by simp)
    ·exact vY (p:=fun b=>(h2.wo ([B,rs,rn]++s.blk)) b=none).2 gs3 b hb)
   have lg4:g.le h4:=Hp.le_trans hgw3 l4
   have gs4': ∀a,s4.a=some a->g a.block=none:=fun a ha=>aF hgw3 (gs4 a ha)
   have l5:=fg [I low,I r1.1,I r2.1] 3 hb5
   refine⟨by omega,rn,r2.2.zipIdx.map (fun e=>(Hb e.1,I (e.2+2:Nat))),?_⟩
   rcases Yc ⟨low,r1.1,r2.1⟩ r2.2 with ⟨j,hm5,hput⟩|⟨hm5,hput⟩
   ·refine⟨_,rfl,l5 _ _ inv4.nodes,hm5,_,rfl,aE rfl ?_⟩
    rw [hput]at hmk
    have:=hJ s4 es4 _ (by rw [hmk];exact inv4.mono l5) (Hp.le_trans lg4 l5) gs4'
    rw [hmk]at this
    exact this
   ·refine⟨_,rfl,l5 _ _ inv4.nodes,hm5,_,rfl,aM rfl ?_⟩
    rw [hput]at hmk
    rintro b6 ⟨n65,_,hb6⟩
    have nB6:=fresh_ne hb6 inv4.row
    have l6:=et [I low,I r1.1,I r2.1] 3 (show (h4.row b5 [I low,I r1.1,I r2.1] 3) b6=none by rw [xM];exact⟨n65,hb6⟩) (Hp.le_refl _)
    have hsn:s4.n=r2.2.length:=by have:=inv4.buf.1;rw [k4]at this;omega
    refine⟨by rw [bX _ _ nB6,bX _ _ nB],?_⟩
    refine dw ((inv4.buf.mono l5).mono l6) (by omega) (by omega) (by omega) ⟨b6,0,rfl,ay (bM ..)⟩ (by simp) rfl ?_
    intro s7 h7 hn7 hb7 hl7 _
    have hH:h4.le ((h4.row b5 [I low,I r1.1,I r2.1] 3).row b6 [I low,I r1.1,I r2.1] 3):=Hp.le_trans l5 l6
    have dmap: ∀{c:Nat} {m:List (Value×Value)},h4 c=some (.inr m)-> ∀a,s4.a=some a->a.block≠c:=by
     intro c m hc a ha
     rcases inv4.buf.2.2 with ⟨h0,_⟩|⟨d,hd,hdb⟩
     ·rw [h0]at ha;cases ha
     ·rw [hd]at ha;cases ha;exact dR hdb hc (by intro h;cases h)
    have d5: ∀a,s4.a=some a->a.block≠b5:=by
     intro a ha
     rcases inv4.buf.2.2 with ⟨h0,_⟩|⟨d,hd,hdb⟩
     ·rw [h0]at ha;cases ha
     ·rw [hd]at ha;cases ha;exact fresh_ne hb5 hdb
    obtain⟨f7B,o7B⟩:=kz hl7 (hH _ _ inv4.row) inv4.own
    obtain⟨f7s,o7s⟩:=kz hl7 (hH _ _ inv4.seen) (dmap inv4.seen)
    obtain⟨f7n,o7n⟩:=kz hl7 (hH _ _ inv4.nodes) (dmap inv4.nodes)
    obtain⟨f75,o75⟩:=kz hl7 (l6 _ _ (bM h4 b5 [I low,I r1.1,I r2.1] 3)) d5
    have n5B:=nB.symm
    have nsB:rs≠B:=dR inv4.seen inv4.row (by intro h;cases h)
    have nnB:rn≠B:=dR inv4.nodes inv4.row (by intro h;cases h)
    have hW2:W ((s4.n:Int)+2)=((r2.2.length+2:Nat):Int):=by rw [hsn,bU (by omega) (by omega)];omega
    simp only [vm,mm,f7B,aq f75,n5B,ne_eq,not_false_eq_true,hW2]
    refine⟨by omega,rn,_,none,rfl,by rw [bX _ _ nnB];exact f7n,hm5,rfl,?_⟩
    have:=hJ s7 es4 ((h7.row B [I vars,s7.v,I 0, .map (some rs), .map (some rn)] 5).set rn
     (some (.inr (vM (r2.2.zipIdx.map fun e=>(Hb e.1,I (e.2+2:Nat))) (.agg #[I low,I r1.1,I r2.1]) (I (r2.2.length+2:Nat)) none)))) ?_ ?_ ?_
    ·rw [hmk]at this;exact this
    ·rw [hmk]
     refine⟨by rw [Hp.set_ne _ _ nnB.symm,bM],?_,by rw [Hp.set_ne _ _ inv4.far,bX _ _ nsB];exact f7s,?_,inv4.far,o7B,?_⟩
     ·rw [xR]
      refine⟨hb7.1,hb7.2.1,hb7.2.2.imp id ?_⟩
      rintro ⟨c,hc,hcb⟩
      exact⟨c,hc,by rw [Hp.set_ne _ _ (o7n _ hc),bX _ _ (o7B _ hc)];exact hcb⟩
     ·rw [Hp.set_eq]
      simp [vM,List.zipIdx_append,Hb]
     ·intro x hx
      obtain⟨n',f',low',h1',h2',h3'⟩:=inv4.true x hx
      refine⟨n',f',low',h1',h2',?_⟩
      have:=yx n' f' low' r2.2 (r2.2++ [⟨low,r1.1,r2.1⟩]) (by rw [h3'];exact List.prefix_append _ _)
      rw [h3']at this;exact this
    ·refine nu _ ?_ grn
     intro c x hcx
     have hcB:c≠B:=fun h=>by rw [h,gB]at hcx;cases hcx
     rw [bX _ _ hcB]
     exact(kz hl7 (hH _ _ (lg4 _ _ hcx)) (fun a ha hac=>by rw [<-hac,gs4' a ha]at hcx;cases hcx)).1
    ·intro a ha
     cases hg7:g a.block with
     |none=>rfl
     |some x=>
      exact absurd rfl ((kz hl7 (hH _ _ (lg4 _ _ hg7)) (fun a' ha' hac=>by rw [<-hac,gs4' a' ha']at hg7;cases hg7)).2 a ha)
theorem N9 (ns:List Nd):(bD ns).all (·.oneCell')=true:=by
 rw [List.all_eq_true]
 intro v hv
 simp only [bD,List.mem_flatMap]at hv
 obtain⟨n,_,hv⟩:=hv
 simp only [List.mem_cons,List.not_mem_nil,or_false]at hv
 rcases hv with rfl|rfl|rfl<;>rfl
theorem PB {h:Hp} {s:Sl} {ns:List Nd} {v r:Int} {R:Value->Hp->Prop} (hs:SlC h s 3 (bD ns)) (hn:ns.length<=1048576)
  (k: ∀t h',h.le h'->Own (h'.sub h) t 3 (bD ns)->R (.agg #[I v,Sl.v t,I r]) h'):px #[.agg #[I v,s.v,I r]] h R:=by
 apply CF
 refine uf_ ?_
 intro b1 hb1
 simp only [vm,mm]
 rintro b2 ⟨n21,hb2⟩
 have n12:=n21.symm
 have hsn:s.n=ns.length:=by have:=hs.2.1;rw [k4]at this;omega
 simp only [vm,mm,n12,n21,ne_eq,not_false_eq_true]
 have l0:=et [I 0, .slice none 0 0,I 0] 3 hb2 (fg [I v,s.v,I r] 3 hb1)
 refine KG (hs.mono l0) (by omega) (N9 _) ?_
 intro t h3 hn3 l3 hb3
 have f1:=l3 _ _ ((bX _ _ n12).trans (bM ..))
 have f2:=l3 _ _ (bM ..)
 simp only [vm,mm,f1,f2]
 refine⟨by omega,k _ _ (et _ _ hb2 (Hp.le_trans l0 l3)) ((hb3.own (by omega)).mono ?_)⟩
 exact Ng _ _ (mC (bM ..)) (GD _ l0)
def pu (n:Nat) (f:Nat->Bool):Option (Nat×List Nd):=if 600<(mkD n f 0 []).2.length then none else some (mkD n f 0 [])
theorem LA {h:Hp} {t:Sl} {n:Nat} {f:Nat->Bool} {R:Value->Hp->Prop} (hn:n<=13) (ht:AN h t n f)
  (k0:pu n f=none->R (.tuple #[.agg #[I 0, .slice none 0 0,I 0], .bool false]) h)
  (k1: ∀r,pu n f=some r-> ∀s h',h.le h'->Own (h'.sub h) s 3 (bD r.2)->R (.tuple #[.agg #[I n,Sl.v s,I r.1], .bool true]) h'):
  eX #[t.v] h R:=by
 refine ACalls.drop (xL ?_)
 refine uf_ ?_
 intro b1 hb1
 have l1:=fg [I 0, .slice none 0 0,I 0] 3 hb1
 refine vo fun h1 e1=>?_
 refine av n (fun i vs h'=>vs= [t.v, .pointer (some ⟨b1,0,none⟩),I i]/\h'=h1) ⟨rfl,rfl⟩ ?_
 rintro i _ _ next hi ⟨rfl,rfl⟩ hnx
 refine⟨_,_,_,_,rfl,?_⟩
 rw [if_neg (by omega),bK (by omega),ht.len]
 by_cases hlt:i<n
 ·refine aM ?_ ?_
  ·have:=Nat.pow_lt_pow_right (a:=2) (by omega) hlt
   simpa using by exact_mod_cast this
  ·rw [aC (by omega)];exact hnx hlt _ _ ⟨rfl,rfl⟩
 have hin:i=n:=by omega
 subst hin
 refine aE (by simp) ?_
 rename_i h1
 rw [<-e1]at l1
 intro rs hrs
 refine vo fun h2 e2=>?_
 intro rn hrn
 refine vo fun h3 e3=>?_
 intro B hB
 refine vo fun h4 e4=>?_
 have l2:h1.le h2:=e2▸Hp.le_set _ hrs
 have l3:h2.le h3:=e3▸Hp.le_set _ hrn
 have l4:h3.le h4:=e4▸fg _ _ hB
 have f2:h2 rs=some (.inr []):=by rw [e2,Hp.set_eq]
 have f3:h3 rn=some (.inr []):=by rw [e3,Hp.set_eq]
 have f4:h4 B=some (.inl ⟨[I i, .slice none 0 0,I 0, .map (some rs), .map (some rn)],5,false⟩):=by rw [e4,bM]
 have far:rs≠rn:=fresh_ne hrn f2
 have inv:BI h4 B rs rn i ⟨none,0,0⟩ [] []:=⟨f4,eZ _ _,l4 _ _ (l3 _ _ f2),l4 _ _ f3,far,by simp,by simp⟩
 have l14:h1.le h4:=Hp.le_trans l2 (Hp.le_trans l3 l4)
 have hp2:2^i<=8192:=by
  have:=Nat.pow_le_pow_right (n:=2) (by omega) hn
  simpa using this
 have hB1:h1 B=none:=aF (Hp.le_trans l2 l3) hB
 have len:=tC i f 0 []
 simp only [List.length_nil]at len
 refine QC hn i f 0 t h4 ⟨none,0,0⟩ [] [] h1 _ inv l14 hB1 hrs (aF l2 hrn) (by simp) (ht.mono l1) (by omega) (by simp;omega) ?_
 intro s5 es5 h5 inv5 l5 _
 have hs5:s5.n=(mkD i f 0 []).2.length:=by have:=inv5.buf.1;rw [k4]at this;omega
 have b1B:b1≠B:=fun h=>by subst h;rw [e1,bM]at hB1;cases hB1
 have g1:h5 b1=some (.inl ⟨[I 0, .slice none 0 0,I 0],3,false⟩):=l5 _ _ (by rw [e1,bM])
 simp only [vm,mm,inv5.row]
 refine⟨_,rfl,by omega,?_⟩
 rw [hs5]
 have g1':(h5.row B [I i,s5.v,I (mkD i f 0 []).1, .map (some rs), .map (some rn)] 5) b1=some (.inl ⟨[I 0, .slice none 0 0,I 0],3,false⟩):=by rw [bX _ _ b1B];exact g1
 have l15:h.le (h5.row B [I i,s5.v,I (mkD i f 0 []).1, .map (some rs), .map (some rn)] 5):=et _ _ (aF l1 hB1) (Hp.le_trans l1 l5)
 refine ac (fun e=>?_) (fun e=>?_)
 ·have e':600<(mkD i f 0 []).2.length:=by simp at e;omega
  simp only [vm,mm,g1']
  exact⟨by omega,_,et _ _ hb1 l15,k0 (by simp [pu,e'])⟩
 ·have e': ¬600<(mkD i f 0 []).2.length:=by simp at e;omega
  have hbuf:SlC (h5.row B [I i,s5.v,I (mkD i f 0 []).1, .map (some rs), .map (some rn)] 5) s5 3 (bD (mkD i f 0 []).2):=by
   refine Buf.slc ⟨inv5.buf.1,inv5.buf.2.1,inv5.buf.2.2.imp id ?_⟩ (by omega)
   rintro ⟨c,hc,hcb⟩
   exact⟨c,hc,by rw [bX _ _ (inv5.own _ hc)];exact hcb⟩
  refine PB hbuf (by omega) fun t6 h6 l6 ho=>⟨_,_,_,rfl,?_⟩
  have g6:=l6 _ _ g1'
  simp only [vm,mm,g6]
  refine⟨by omega,_,Hp.le_refl _,k1 _ (by simp [pu,e']) t6 _ (et _ _ hb1 (Hp.le_trans l15 l6)) (ho.mono ?_)⟩
  exact Ng _ _ (mC g1') (GD _ l15)
structure Bd where
 v:Int
 ns:List Nd
 r:Int
 ok:Bool
def js :Bd:=⟨0, [],0,false⟩
def cQ (v:Int) (f:Nat->Bool):Bd:=if 0<=v/\v<=13 then(match pu v.toNat f with|none=>js|some r=>⟨v,r.2,r.1,true⟩)else js
def BN (set:List Int):List (Value×Value):=set.map fun x=>(I x, .bool true)
theorem RM (set:List Int) (n:Int): ∃res,fM (Instr.sameNow (.int .i64) (I n)) (BN set) 0=some res/\Option.getD (Option.map (fun p=>p.2) res) (.bool false)= .bool (set.contains n)/\
  vM (BN set) (I n) (.bool true) res=BN (if set.contains n then set else set++ [n]):=by
 unfold BN
 rcases qF (Instr.sameNow (.int .i64) (I n)) (fun x:Int=>I x) (fun _=> .bool true) (fun x=>n==x) set 0 (fun x _=>N4 _ _ _)with ⟨hno,hm⟩|⟨j,hj,hyes,_,hm⟩
 ·have hc:set.contains n=false:=by
   rw [Bool.eq_false_iff];intro h
   have:=hno n (by simpa using h)
   simp at this
  exact⟨_,hm,by rw [hc];rfl,by rw [hc];simp [vM]⟩
 ·have he:n=set[j]:=by simpa using hyes
  have hc:set.contains n=true:=by
   rw [he];simp
  refine⟨_,hm,by rw [hc];rfl,?_⟩
  rw [hc,if_pos rfl]
  simp only [vM,Nat.zero_add]
  apply List.ext_getElem
  ·simp
  ·intro i h1 h2
   rw [List.getElem_set]
   split
   ·rename_i hij;subst hij;simp [he]
   ·rfl
section
variable {cls :List (List Int)} {given:List Int} {v:Int}
end
def cV :Nat->(Nat->Bool)->Nat
 |0,_=>0
 |n+1,f=>cV n f+(if f n then 2^n else 0)
theorem rZ (n:Nat) (f:Nat->Bool):cV n f<2^n:=by
 induction n with
 |zero=>simp [cV]
 |succ n ih=>simp only [cV,Nat.pow_succ];split<;>omega
theorem sQ (n:Nat) (f:Nat->Bool): ∀i,i<n->(cV n f).testBit i=f i:=by
 induction n with
 |zero=>intro i h;omega
 |succ n ih=>
  intro i hi
  have hl:=rZ n f
  simp only [cV]
  by_cases h:i=n
  ·subst h
   cases hf:f i with
   |true=>rw [if_pos rfl,Nat.add_comm,Nat.testBit_two_pow_add_eq,Nat.testBit_lt_two_pow hl];rfl
   |false=>simp [Nat.testBit_lt_two_pow hl]
  ·cases hf:f n with
   |true=>rw [if_pos rfl,Nat.add_comm,Nat.testBit_two_pow_add_gt (by omega)];exact ih i (by omega)
   |false=>simp only [Bool.false_eq_true,if_false,Nat.add_zero];exact ih i (by omega)
def dc (h:Hp) (t:Sl) (n:Nat) (T:Nat->Bool):Prop:=rD h t ((List.range n).map T)
theorem dc.mono {h h':Hp} {t:Sl} {n:Nat} {T:Nat->Bool} (l:h.le h') (e:dc h t n T):dc h' t n T:=rD.mono l e
theorem pw {h:Hp} {c:Bool} {R:Value->Hp->Prop} (k:R (I (if c then 1 else 0)) h):gT #[.bool c] h R:=by
 apply BJ
 refine uf_ ?_
 cases c<;>exact k
def jr (n:Nat) (x:Int):Bool:=decide (0<=x/\x<=((2^n:Nat):Int)-1)
theorem wg {h:Hp} {s:Sl} {xs:List Int} {n:Nat} {R:Value->Hp->Prop} (hs:IntS h s xs) (hn:n<=62)
  (k:R (.bool (xs.all (jr n))) h):ly #[s.v,I n] h R:=by
 apply Mw
 refine uf_ ?_
 have h2:=nq (n:=n) (by omega)
 have h0:(0:Int)<((2^n:Nat):Int):=Int.ofNat_lt.2 (Nat.pow_pos (by omega))
 have hb:=hs.bound
 refine av xs.length (fun i vs h'=>vs= [I n,s.v,I xs.length,I i]/\h'=h/\(xs.take i).all (jr n)=true) ⟨by rw [hs.len];rfl,rfl,by simp⟩ ?_
 rintro i _ _ next hi ⟨rfl,rfl,hp⟩ hnx
 refine⟨_,_,_,_,rfl,?_⟩
 by_cases hlt:i<xs.length
 ·obtain⟨b,o,ha,hc⟩:=hs.at hlt
  refine aM (by simp [hlt]) ?_
  simp only [vm,hs.len,ha,hc,aC (n:=i) (by omega)]
  refine⟨by omega,?_⟩
  rw [if_neg (by omega),bK (by omega),bU (by omega) (by omega)]
  refine fK ⟨_,rfl,ac (fun he=>?_) (fun he=>?_)⟩
  ·rwa [S9 (xs:=xs) hlt (by unfold jr;rw [<-Bool.not_eq_true'];exact he)]at k
  ·exact hnx hlt _ _ ⟨rfl,rfl,by rw [Wt hlt,hp];unfold jr;simpa using he⟩
 ·have:i=xs.length:=by omega
  subst this
  rw [List.take_length]at hp
  refine aE (by simp) ?_
  rwa [hp]at k
structure Rd (h:Hp) (B:Nat) (s:Sl) (bs:List Nat) (p:Nat):Prop where
 row:h B=some (.inl ⟨[s.v,I p],2,false⟩)
 byt:ByteS (h.off B) s bs
theorem Pb {a b:Nat} (ha:a<4611686018427387904) (hb:b<4611686018427387904): ∃c:Nat,U0 (a:Int) (b:Int)=c:=by
 have:=OG (a:=a) (b:=b) (by omega) (by omega)
 exact⟨_,this⟩
theorem DJ {h:Hp} {B p:Nat} {s:Sl} {bs:List Nat} {n:Int} {R:Value->Hp->Prop} (e:Rd h B s bs p) (hp:p<=1000000000) (hn:n<=1000000000)
  (k: ∀x:Nat,(1<=n->(x:Int)<n)->(n<1->x=0)->R (I x) (h.row B [s.v,I (p+1:Nat)] 2)):ai #[.pointer (some ⟨B,0,none⟩),I n] h R:=by
 apply Bk
 refine uf_ ?_
 simp only [vm,aq e.row,mm,e.row,aC (n:=p) (by omega)]
 have hb:=e.byt.mono (Gb h B [s.v,I (p+1:Nat)] 2)
 have hl:=hb.len
 have hbd:=hb.bound
 refine⟨by omega,?_⟩
 refine ap (fun J=>J (decide (n<1)||decide (bs.length=0))) ?_ ?_
 rotate_left
 ·intro J hJ
  refine ac (fun e=>?_) (fun e=>?_)
  ·rw [e,Bool.true_or]at hJ;exact hJ
  ·rw [e,Bool.false_or]at hJ
   have:((s.n:Int)==0)=decide (bs.length=0):=by rw [hl,Bool.eq_iff_iff];simp
   rw [this];exact hJ
 refine ac (fun he=>?_) (fun he=>?_)
 ·refine k 0 (fun h1=>by omega) (fun _=>rfl)
 have hn1:1<=n:=by simp at he;omega
 have hbn:0<bs.length:=by
  have:bs.length≠0:=by intro h;rw [h]at he;simp at he
  omega
 have hw:W (((p+1:Nat):Int)-1)=p:=by rw [bU (by omega) (by omega)];omega
 obtain⟨m,rfl⟩: ∃m:Nat,n=m:=⟨n.toNat,by omega⟩
 have fin: ∀x:Nat,R (I (Int.tmod (x:Int) (m:Int))) (h.row B [s.v,I (p+1:Nat)] 2):=by
  intro x
  have e1:Int.tmod (x:Int) (m:Int)=((x%m:Nat):Int):=by rw [Int.ofNat_tmod]
  rw [e1]
  have:x%m<m:=Nat.mod_lt _ (by omega)
  exact k (x%m) (fun _=>by omega) (fun h=>by omega)
 simp only [hw,hl]
 refine ac (fun hlt=>?_) (fun hlt=>?_)
 ·have hlt':p<bs.length:=by simp at hlt;omega
  obtain⟨b,o,ha,hc,hx⟩:=hb.at hlt'
  simp only [vm,ha,hc]
  refine⟨by omega,?_⟩
  rw [if_neg (by omega),eO (by omega)]
  exact fin _
 ·have hq: ∀q:Nat,Int.tmod (q:Int) (bs.length:Int)=((q%bs.length:Nat):Int):=fun q=>by rw [Int.ofNat_tmod]
  have hlt2: ∀q:Nat,q%bs.length<bs.length:=fun q=>Nat.mod_lt _ hbn
  have w1:W (W ((p:Int)*7)+3)=((p*7+3:Nat):Int):=by
   rw [bU (n:=(p:Int)*7) (by omega) (by omega),bU (by omega) (by omega)];omega
  obtain⟨b,o,ha,hc,hx⟩:=hb.at (hlt2 p)
  obtain⟨b',o',ha',hc',hy⟩:=hb.at (hlt2 (p*7+3))
  rw [ha]at ha';cases ha'
  have hdiv:Int.tdiv (p:Int) (bs.length:Int)=((p/bs.length:Nat):Int):=by rw [Int.ofNat_tdiv]
  have hdl:p/bs.length<=p:=Nat.div_le_self _ _
  generalize hX:bs[p%bs.length]'(hlt2 p)=X at*
  generalize hY:bs[(p*7+3)%bs.length]'(hlt2 _)=Y at*
  generalize hD:p/bs.length=D at*
  have tot:W (W (W (W (W (X:Int)*131)+W (W (Y:Int)*1117))+W ((p:Int)*29))+W (W (D:Int)*53))=((X*131+Y*1117+p*29+D*53:Nat):Int):=by
   rw [eO (n:=X) (by omega),eO (n:=Y) (by omega),eO (n:=D) (by omega),bU (n:=(X:Int)*131) (by omega) (by omega),bU (n:=(Y:Int)*1117) (by omega) (by omega),
    bU (n:=(p:Int)*29) (by omega) (by omega),bU (n:=(D:Int)*53) (by omega) (by omega),bU (n:=(X:Int)*131+(Y:Int)*1117) (by omega) (by omega),
    bU (n:=(X:Int)*131+(Y:Int)*1117+(p:Int)*29) (by omega) (by omega),bU (by omega) (by omega)]
   omega
  have d64:W (Int.tdiv (((X*131+Y*1117+p*29+D*53:Nat)):Int) 64)=(((X*131+Y*1117+p*29+D*53)/64:Nat):Int):=by
   have:Int.tdiv (((X*131+Y*1117+p*29+D*53:Nat)):Int) 64=(((X*131+Y*1117+p*29+D*53)/64:Nat):Int):=by
    have:=Int.ofNat_tdiv (X*131+Y*1117+p*29+D*53) 64
    exact this.symm
   rw [this,eO (by omega)]
  obtain⟨c,hcx⟩:=Pb (a:=X*131+Y*1117+p*29+D*53) (b:=(X*131+Y*1117+p*29+D*53)/64) (by omega) (by omega)
  have hnz: ¬((bs.length:Nat):Int)=0:=by omega
  simp only [vm,w1,hq,hdiv,ha,hc,hc',hD,tot,d64,hcx]
  rw [if_neg hnz]
  refine⟨by have:=hlt2 p;omega,?_⟩
  rw [if_neg hnz]
  refine⟨by have:=hlt2 (p*7+3);omega,?_⟩
  rw [if_neg hnz]
  have hm0: ¬(m:Int)=0:=by omega
  rw [if_neg hm0]
  have:=fin c
  simp only [true_and,and_self]
  exact this
theorem IntS.one {h:Hp} {b:Nat} {x:Int} {n:Nat} {ro:Bool} (e:h b=some (.inl ⟨[I x],n,ro⟩)):IntS h ⟨some ⟨b,0,none⟩,1,1⟩ [x]:=⟨by simp,by simp, .inr ⟨b,0,rfl,ay e⟩⟩
def jC (w:Nat) (n:Int):Nat:=(n%((2^w:Nat):Int)).toNat
def sgn (w a:Nat):Int:=if 2^(w-1)<=a then(a:Int)-((2^w:Nat):Int)else a
theorem bJ (w:Nat):0<2^w:=Nat.pow_pos (by omega)
theorem jJ (w:Nat) (n:Int):jC w n<2^w:=by
 unfold jC
 have h:=Int.emod_lt_of_pos n (b:=((2^w:Nat):Int)) (Int.ofNat_lt.2 (bJ w))
 have h0:=Int.emod_nonneg n (b:=((2^w:Nat):Int)) (by have:=bJ w;omega)
 omega
theorem pz (w a:Nat):jC w (a:Int)=a%2^w:=by
 unfold jC
 rw [<-Int.natCast_emod,Int.toNat_natCast]
theorem HX (w:Nat) (n:Int):((jC w n:Nat):Int)=n%((2^w:Nat):Int):=by
 unfold jC
 have h0:=Int.emod_nonneg n (b:=((2^w:Nat):Int)) (by have:=bJ w;omega)
 omega
theorem qr {w:Nat} (h:1<=w):2^w=2*2^(w-1):=by
 obtain⟨n,rfl⟩: ∃n,w=n+1:=⟨w-1,by omega⟩
 rw [Nat.pow_succ,Nat.add_sub_cancel];omega
theorem KD {w a:Nat} (h:1<=w) (ha:a<2^w): -((2^(w-1):Nat):Int)<=sgn w a/\sgn w a<((2^(w-1):Nat):Int):=by
 have:=qr h
 unfold sgn;split<;>omega
theorem UV {w:Nat} (h:1<=w) (n:Int):sgn w (jC w n)=n↔ -((2^(w-1):Nat):Int)<=n/\n<((2^(w-1):Nat):Int):=by
 have hp:=qr h
 have hl:=jJ w n
 have hb:=KD h hl
 constructor
 ·intro e;rw [e]at hb;exact hb
 ·rintro ⟨h1,h2⟩
  have hc:=HX w n
  have h3:n%((2^w:Nat):Int)=if n<0 then n+((2^w:Nat):Int)else n:=by
   split
   ·rw [<-Int.add_emod_right,Int.emod_eq_of_lt (by omega) (by omega)]
   ·rw [Int.emod_eq_of_lt (by omega) (by omega)]
  rw [h3]at hc
  unfold sgn
  split at hc<;>split<;>omega
theorem jA {w x:Nat} {f:Nat->Bool} (hx:x<2^w) (h: ∀i,i<w->x.testBit i=f i):cV w f=x:=by
 apply Nat.eq_of_testBit_eq
 intro i
 by_cases hi:i<w
 ·rw [sQ _ _ _ hi,h i hi]
 ·rw [Nat.testBit_lt_two_pow (Nat.lt_of_lt_of_le (rZ w f) (Nat.pow_le_pow_right (by omega) (by omega))),
   Nat.testBit_lt_two_pow (Nat.lt_of_lt_of_le hx (Nat.pow_le_pow_right (by omega) (by omega)))]
theorem sD {w:Nat} {f g:Nat->Bool} (h: ∀i,i<w->f i=g i):cV w f=cV w g:=jA (rZ _ _) fun i hi=>by rw [sQ _ _ _ hi,h i hi]
theorem Pc {w p:Nat} {f:Nat->Bool} (hp:p<w) (hf:f p=false):cV w f+2^p=cV w (fun i=>f i||decide (i=p)):=by
 induction w with
 |zero=>omega
 |succ w ih=>
  simp only [cV]
  by_cases h:p=w
  ·subst h
   have:cV p (fun i=>f i||decide (i=p))=cV p f:=sD fun i hi=>by simp;omega
   rw [this];simp [hf]
  ·have:=ih (by omega)
   have e:(f w||decide (w=p))=f w:=by simp;omega
   simp only [e]
   omega
def jQ :Nat->Nat->Nat
 |0,_=>0
 |w+1,a=>jQ w a+(if a.testBit w then 1 else 0)
theorem Nx (w a:Nat):jQ w a<=w:=by
 induction w with
 |zero=>simp [jQ]
 |succ w ih=>simp only [jQ];split<;>omega
theorem Pt {w a:Nat} (ha:a<2^w):jQ w a=w↔a=2^w-1:=by
 have key: ∀w,jQ w a=w↔ ∀i,i<w->a.testBit i=true:=by
  intro w
  induction w with
  |zero=>simp [jQ]
  |succ w ih=>
   have:=Nx w a
   simp only [jQ]
   constructor
   ·intro h i hi
    by_cases hw:a.testBit w=true
    ·rw [if_pos hw]at h
     by_cases hiw:i=w
     ·subst hiw;exact hw
     ·exact ih.1 (by omega) i (by omega)
    ·rw [if_neg hw]at h;omega
   ·intro h
    rw [if_pos (h w (by omega)),ih.2 fun i hi=>h i (by omega)]
 rw [key]
 constructor
 ·intro h
  apply Nat.eq_of_testBit_eq
  intro i
  rw [Nat.testBit_two_pow_sub_one]
  by_cases hi:i<w
  ·rw [h i hi];simp [hi]
  ·rw [Nat.testBit_lt_two_pow (Nat.lt_of_lt_of_le ha (Nat.pow_le_pow_right (by omega) (by omega)))];simp [hi]
 ·rintro rfl i hi
  rw [Nat.testBit_two_pow_sub_one];simpa using hi
theorem Iu {w a b:Nat} (ha:a<2^w):cV w (fun i=>a.testBit i&&b.testBit i)=a&&&b:=
 jA (Nat.lt_of_le_of_lt Nat.and_le_left ha) fun i _=>by rw [Nat.testBit_and]
theorem Rc {w a b:Nat} (ha:a<2^w) (hb:b<2^w):cV w (fun i=>a.testBit i||b.testBit i)=a|||b:=
 jA (Nat.or_lt_two_pow ha hb) fun i _=>by rw [Nat.testBit_or]
theorem Vb {w a b:Nat} (ha:a<2^w) (hb:b<2^w):cV w (fun i=>a.testBit i^^b.testBit i)=a^^^b:=
 jA (Nat.xor_lt_two_pow ha hb) fun i _=>by rw [Nat.testBit_xor]
def YH (w a b:Nat):Nat:=a*2^min b w%2^w
def YW (w a b:Nat):Nat:=a/2^min b w
def Yq (w a b:Nat):Nat:=jC w (sgn w a/((2^min b w:Nat):Int))
theorem WE {w a b:Nat}:cV w (fun i=>decide (b<=i)&&a.testBit (i-b))=YH w a b:=by
 unfold YH
 refine jA (Nat.mod_lt _ (bJ w)) fun i hi=>?_
 rw [Nat.testBit_mod_two_pow,Nat.mul_comm,Nat.testBit_two_pow_mul]
 have:decide (i<w)=true:=by simpa using hi
 rw [this,Bool.true_and]
 by_cases h:b<=i
 ·rw [Nat.min_eq_left (by omega)]
 ·have h1:decide (b<=i)=false:=by simpa using h
  have h2:decide (min b w<=i)=false:=by simp;omega
  simp [h1,h2]
theorem VX {w a b:Nat} (ha:a<2^w):cV w (fun i=>decide (i+b<w)&&a.testBit (i+b))=YW w a b:=by
 unfold YW
 refine jA (Nat.lt_of_le_of_lt (Nat.div_le_self _ _) ha) fun i hi=>?_
 rw [Nat.testBit_div_two_pow]
 by_cases h:i+b<w
 ·rw [Nat.min_eq_left (by omega)];simp [h]
 ·have h1:decide (i+b<w)=false:=by simpa using h
  rw [h1,Bool.false_and]
  refine Nat.testBit_lt_two_pow (Nat.lt_of_lt_of_le ha (Nat.pow_le_pow_right (by omega) ?_))
  omega
theorem Vx {w a b:Nat} (hw:1<=w) (hw16:w<=16) (ha:a<2^w):cV w (fun i=>if i+b<w then a.testBit (i+b)else a.testBit (w-1))=Yq w a b:=by
 have hp:=qr hw
 have top:a.testBit (w-1)=decide (2^(w-1)<=a):=by
  rw [Nat.testBit_eq_decide_div_mod_eq]
  by_cases h:2^(w-1)<=a
  ·have:a/2^(w-1)=1:=by
    rw [Nat.div_eq_iff (bJ _)];omega
   simp [this,h]
  ·have:a/2^(w-1)=0:=Nat.div_eq_of_lt (by omega)
   simp [this,h]
 have hb:min b w<=w:=Nat.min_le_right _ _
 have small: ∀i,i<w->i+b<w->min b w=b:=fun i _ h=>Nat.min_eq_left (by omega)
 unfold Yq
 refine jA (jJ _ _) fun i hi=>?_
 by_cases hs:2^(w-1)<=a
 ·--with the sign
  have e1:sgn w a=(a:Int)-((2^w:Nat):Int):=by unfold sgn;rw [if_pos hs]
  have e2:jC w (sgn w a/((2^min b w:Nat):Int))=((a+2^w*(2^16-1))/2^min b w)%2^w:=by
   have h1:sgn w a=((a+2^w*(2^16-1):Nat):Int)-((2^min b w:Nat):Int)*((2^(w+16-min b w):Nat):Int):=by
    have h2:2^min b w*2^(w+16-min b w)=2^w*2^16:=by rw [<-Nat.pow_add,<-Nat.pow_add];congr 1;omega
    rw [e1,<-Int.natCast_mul,h2]
    have:2^w*(2^16-1)+2^w=2^w*2^16:=by rw [<-Nat.mul_succ]
    omega
   have hpos:((2^min b w:Nat):Int)≠0:=by have:=bJ (min b w);omega
   have h3:sgn w a/((2^min b w:Nat):Int)=(((a+2^w*(2^16-1))/2^min b w:Nat):Int)-((2^w:Nat):Int)*((2^(16-min b w):Nat):Int):=by
    rw [h1,Int.sub_eq_add_neg,<-Int.mul_neg,Int.add_mul_ediv_left _ _ hpos,<-Int.natCast_ediv]
    have:2^(w+16-min b w)=2^w*2^(16-min b w):=by rw [<-Nat.pow_add];congr 1;omega
    rw [this,Int.natCast_mul];omega
   rw [h3]
   unfold jC
   rw [Int.sub_mul_emod_self_left,<-Int.natCast_emod,Int.toNat_natCast]
  rw [e2,Nat.testBit_mod_two_pow,Nat.testBit_div_two_pow,Nat.add_comm a,Nat.testBit_two_pow_mul_add _ ha]
  have hd:decide (i<w)=true:=by simpa using hi
  rw [hd,Bool.true_and]
  by_cases h:i+b<w
  ·have hm:=small i hi h
   rw [if_pos h,hm,if_pos (by omega)]
  ·have hm: ¬i+min b w<w:=by omega
   rw [if_neg h,if_neg hm,Nat.testBit_two_pow_sub_one,top]
   simp only [hs,decide_true,decide_eq_true_eq]
   omega
 ·have e1:sgn w a=a:=by unfold sgn;rw [if_neg hs]
  rw [e1,<-Int.natCast_ediv,pz,Nat.testBit_mod_two_pow,Nat.testBit_div_two_pow]
  have hd:decide (i<w)=true:=by simpa using hi
  rw [hd,Bool.true_and]
  by_cases h:i+b<w
  ·rw [if_pos h,small i hi h]
  ·rw [if_neg h,top]
   have hm: ¬i+min b w<w:=by omega
   have:decide (2^(w-1)<=a)=false:=by simpa using hs
   rw [this]
   exact Nat.testBit_lt_two_pow (Nat.lt_of_lt_of_le ha (Nat.pow_le_pow_right (by omega) (by omega)))
def Ie (w a k:Nat):Nat:=((a*2^k)|||(a/2^(w-k)))%2^w
theorem Yx {w a k i:Nat} (ha:a<2^w) (hk:k<w) (hi:i<w):(Ie w a k).testBit i=a.testBit ((i+(w-k))%w):=by
 unfold Ie
 rw [Nat.testBit_mod_two_pow,Nat.testBit_or,Nat.mul_comm,Nat.testBit_two_pow_mul,Nat.testBit_div_two_pow]
 have hd:decide (i<w)=true:=by simpa using hi
 rw [hd,Bool.true_and]
 by_cases h:k<=i
 ·have e:(i+(w-k))%w=i-k:=by
   have:i+(w-k)=(i-k)+w:=by omega
   rw [this,Nat.add_mod_right,Nat.mod_eq_of_lt (by omega)]
  have z:a.testBit (i+(w-k))=false:=Nat.testBit_lt_two_pow (Nat.lt_of_lt_of_le ha (Nat.pow_le_pow_right (by omega) (by omega)))
  rw [e,z];simp [h]
 ·have e:(i+(w-k))%w=i+(w-k):=Nat.mod_eq_of_lt (by omega)
  rw [e]
  have:decide (k<=i)=false:=by simpa using h
  rw [this];simp
theorem UM {w a k:Nat} (ha:a<2^w) (hk:k<w):cV w (fun j=>a.testBit ((j+(w-k))%w))=Ie w a k:=
 jA (Nat.mod_lt _ (bJ w)) fun i hi=>Yx ha hk hi
theorem S6 {w a k i:Nat} (hk:k<w) (hi:i<w):
  cV w (fun j=>decide ((j+(w-k))%w<i)&&a.testBit ((j+(w-k))%w))+(if a.testBit i then 2^((i+k)%w)else 0)=
   cV w (fun j=>decide ((j+(w-k))%w<i+1)&&a.testBit ((j+(w-k))%w)):=by
 have hpw:(i+k)%w<w:=Nat.mod_lt _ (by omega)
 have back:((i+k)%w+(w-k))%w=i:=by
  rw [Nat.mod_add_mod]
  have:i+k+(w-k)=i+w:=by omega
  rw [this,Nat.add_mod_right,Nat.mod_eq_of_lt hi]
 have inj: ∀j,j<w->((j+(w-k))%w=i↔j=(i+k)%w):=by
  intro j hj
  constructor
  ·intro h
   have:(j+(w-k)+k)%w=(i+k)%w:=by rw [<-h,Nat.mod_add_mod]
   rw [<-this]
   have:j+(w-k)+k=j+w:=by omega
   rw [this,Nat.add_mod_right,Nat.mod_eq_of_lt hj]
  ·rintro rfl;exact back
 cases hb:a.testBit i with
 |false=>
  simp only [Bool.false_eq_true,if_false,Nat.add_zero]
  refine sD fun j hj=>?_
  by_cases h:(j+(w-k))%w=i
  ·rw [h,hb];simp
  ·have:decide ((j+(w-k))%w<i+1)=decide ((j+(w-k))%w<i):=by
    rw [decide_eq_decide];omega
   rw [this]
 |true=>
  simp only [if_true]
  rw [Pc hpw (by rw [back];simp)]
  refine sD fun j hj=>?_
  by_cases h:j=(i+k)%w
  ·have h2:=(inj j hj).2 h
   rw [h2,hb];simp [h]
  ·have h2: ¬(j+(w-k))%w=i:=fun e=>h ((inj j hj).1 e)
   have:decide ((j+(w-k))%w<i+1)=decide ((j+(w-k))%w<i):=by
    rw [decide_eq_decide];omega
   rw [this];simp [h]
def xi (kind:Int) (w a:Nat):Nat×Nat:=
 if kind=1 then(2^w-1-a,w)else if kind=2 then(jC w (-(a:Int)),w)else if kind=3 then(if a=0 then 0 else 1,1)else
 if kind=4 then(if a=2^w-1 then 1 else 0,1)else(jQ w a%2,1)
def JM (w a b:Nat):Nat:=if sgn w b=0 then(if sgn w a<0 then 1 else 2^w-1)else jC w (Int.tdiv (sgn w a) (sgn w b))
def KR (w a b:Nat):Nat:=if sgn w b=0 then a else jC w (Int.tmod (sgn w a) (sgn w b))
def EA (kind:Int) (w a b:Nat):Bool:=
 if kind=21 then decide (a=b)else if kind=22 then decide (a<b)else if kind=23 then decide (sgn w a<sgn w b)else
 if kind=24 then decide (a<=b)else if kind=25 then decide (sgn w a<=sgn w b)else if kind=26 then decide (2^w<=a+b)else
 if kind=27 then !decide (-((2^(w-1):Nat):Int)<=sgn w a+sgn w b/\sgn w a+sgn w b<((2^(w-1):Nat):Int))else decide (2^w<=a*b)
def Gu (kind:Int) (w a b:Nat):Nat:=
 if kind=6 then a&&&b else if kind=7 then a|||b else if kind=8 then a^^^b else if kind=9 then jC w ((a:Int)+b)else
 if kind=10 then jC w ((a:Int)-b)else if kind=11 then jC w ((a:Int)*b)else if kind=12 then(if b=0 then 2^w-1 else a/b)else
 if kind=13 then(if b=0 then a else a%b)else if kind=14 then JM w a b else if kind=15 then KR w a b else
 if kind=16 then YH w a b else if kind=17 then YW w a b else if kind=18 then Yq w a b else if kind=19 then Ie w a (b%w)else Ie w a ((w-b%w)%w)
def td (kind:Int) (w a b:Nat):Nat×Nat:=if kind<=20 then(Gu kind w a b,w)else(if EA kind w a b then 1 else 0,1)
theorem YV {kind:Int} {w a:Nat} (hw:1<=w) (ha:a<2^w):(xi kind w a).1<2^(xi kind w a).2:=by
 have:=bJ w
 unfold xi
 split
 ·simp only;omega
 ·split
  ·exact jJ _ _
  ·split
   ·simp only;split<;>omega
   ·split
    ·simp only;split<;>omega
    ·simp only;omega
theorem QV (w a k:Nat):Ie w a k<2^w:=Nat.mod_lt _ (bJ w)
theorem ke {c:Prop} [Decidable c] {x y n:Nat} (hx:x<n) (hy:y<n):(if c then x else y)<n:=by
 by_cases h:c
 ·rw [if_pos h];exact hx
 ·rw [if_neg h];exact hy
theorem U3 {kind:Int} {w a b:Nat} (hw:1<=w) (ha:a<2^w) (hb:b<2^w):Gu kind w a b<2^w:=by
 have hp:=bJ w
 have hp1:1<2^w:=by
  have:=qr hw;have:=bJ (w-1);omega
 unfold Gu
 refine ke (Nat.lt_of_le_of_lt Nat.and_le_left ha) (ke (Nat.or_lt_two_pow ha hb) (ke (Nat.xor_lt_two_pow ha hb) (ke (jJ _ _) (ke (jJ _ _) (ke (jJ _ _)
  (ke (ke (by omega) (Nat.lt_of_le_of_lt (Nat.div_le_self _ _) ha)) (ke (ke ha (Nat.lt_of_le_of_lt (Nat.mod_le _ _) ha)) (ke ?_ (ke ?_ (ke (Nat.mod_lt _ hp)
  (ke (Nat.lt_of_le_of_lt (Nat.div_le_self _ _) ha) (ke (jJ _ _) (ke (QV _ _ _) (QV _ _ _))))))))))))))
 ·unfold JM
  exact ke (ke hp1 (by omega)) (jJ _ _)
 ·unfold KR
  exact ke ha (jJ _ _)
theorem YC {kind:Int} {w a b:Nat} (hw:1<=w) (ha:a<2^w) (hb:b<2^w):(td kind w a b).1<2^(td kind w a b).2:=by
 unfold td
 split
 ·exact U3 hw ha hb
 ·simp only;split<;>omega
theorem ab2 {w a b:Nat} (hw:1<=w):(sgn w (jC w (sgn w a+sgn w b))≠sgn w a+sgn w b)↔ ¬(-((2^(w-1):Nat):Int)<=sgn w a+sgn w b/\sgn w a+sgn w b<((2^(w-1):Nat):Int)):=by
 rw [ne_eq,UV hw]
structure SortP where
 idx:Int
 wid:Int
 deriving DecidableEq
structure NodeP where
 kind:Int
 a:Int
 b:Int
 c:Int
 n:Int
 m:Int
 sort:SortP
 name:ByteArray
structure BindP where
 state:Int
 node:Int
 deriving DecidableEq
structure ah where
 nodes:List NodeP
 inits:List BindP
 nexts:List BindP
 bads:List Int
 holds:List Int
def bR (s:SortP):Bool:=decide ((0<=s.idx/\s.idx<=2)/\(1<=s.wid/\s.wid<=16))
def cT (s:SortP):Nat:=if bR s then 2^s.idx.toNat else 0
def dQ (s:SortP):Nat:=cT s*s.wid.toNat
def cE (w:Int):SortP:=⟨0,w⟩
def ar (kind:Int):Int:=
 if(1<=kind/\kind<=5)\/(30<=kind/\kind<=32)then 1 else if(6<=kind/\kind<=29)\/kind=37 then 2 else if kind=33\/kind=38 then 3 else
 if 34<=kind/\kind<=36 then 0 else-1
def gQ (c:UInt8):Bool:=decide (97<=c.toNat/\c.toNat<=122)
def pg (c:UInt8):Bool:=decide (48<=c.toNat/\c.toNat<=57)
def gh (s:ByteArray):Bool:=decide (1<=s.size/\s.size<=8)&&(match s.data.toList with| []=>false|c::r=>gQ c&&r.all fun c=>gQ c||pg c)
def fR (kind:Int):Bool:=decide (kind=35\/kind=36)
def rC (k:Int) (len:Nat) (i:Int) (p:Int):Bool:=if i<k then decide (0<=p/\p<=(len:Int)-1)else decide (p=0)
def fv (len:Nat) (n:NodeP):Bool:=
 decide (0<=ar n.kind)&&(rC (ar n.kind) len 0 n.a&&rC (ar n.kind) len 1 n.b&&rC (ar n.kind) len 2 n.c)&&
 (if fR n.kind then gh n.name else decide (n.name.size=0))&&(decide (n.kind=30)||decide (n.m=0))&&
 (decide (n.kind=30\/n.kind=31\/n.kind=32\/n.kind=34)||decide (n.n=0))
def jd (w v:Int):Bool:=decide ((1<=w/\w<=16)/\0<=v/\v<=((2^w.toNat:Nat):Int)-1)
def di (n:NodeP) (a b c:SortP):Option SortP:=
 if n.kind=33 then(if a=cE 1/\b=c then some b else none)else
 if n.kind=37 then(if 0<a.idx/\b=cE a.idx then some (cE a.wid)else none)else
 if n.kind=38 then(if 0<a.idx/\b=cE a.idx/\c=cE a.wid then some a else none)else
 if n.kind=21 then(if a=b then some (cE 1)else none)else
 if 0<a.idx\/(ar n.kind=2/\0<b.idx)then none else
 if n.kind=29 then(if a.wid+b.wid<=16 then some (cE (a.wid+b.wid))else none)else
 if n.kind=30 then(if(0<=n.n/\n.n<=a.wid-1)/\0<=n.m/\n.m<=n.n then some (cE (n.n-n.m+1))else none)else
 if n.kind=31\/n.kind=32 then(if 0<=n.n/\n.n<=16-a.wid then some (cE (a.wid+n.n))else none)else
 if n.kind<=5 then some (cE (if n.kind<=2 then a.wid else 1))else
 if a=b then some (cE (if n.kind<=20 then a.wid else 1))else none
def aA (l:List NodeP) (p:Int):SortP:=match l[p.toNat]? with|some n=>n.sort|none=>⟨0,0⟩
def cW (l:List NodeP) (n:NodeP):Option SortP:=
 if l.length<=60/\fv l.length n=true then
  (if ar n.kind=0 then(if(if n.kind=34 then decide (n.sort.idx=0)&&jd n.sort.wid n.n else bR n.sort)then some n.sort else none)else
   if bR (aA l n.a)&&((decide (ar n.kind<2)||bR (aA l n.b))&&(decide (ar n.kind<3)||bR (aA l n.c)))then
    di n (aA l n.a) (aA l n.b) (aA l n.c)else none)
 else none
def cv (l:List NodeP):Bool:=(List.range l.length).all fun i=>match l[i]? with|some n=>decide (cW (l.take i) n=some n.sort)|none=>true
def jK {α:Type} [DecidableEq α] (l:List α):Bool:=(List.range l.length).any fun i=>match l[i]? with|some x=>(l.take i).any fun y=>decide (y=x)|none=>false
def lE (l:List NodeP):Bool:=(List.range l.length).any fun i=>match l[i]? with|some n=>decide (n.name.size≠0)&&(l.take i).any fun y=>decide (y.name=n.name)|none=>false
def tX (m:ah):Bool:=lE m.nodes||(jK (m.inits.map (·.state))||jK (m.nexts.map (·.state)))
def dL (l:List NodeP):Nat->List Bool
 |0=> []
 |i+1=>dL l i++ [match l[i]? with
   |some n=>fR n.kind||((decide (0<ar n.kind)&&(dL l i).getD n.a.toNat false)||((decide (1<ar n.kind)&&(dL l i).getD n.b.toNat false)||(decide (2<ar n.kind)&&(dL l i).getD n.c.toNat false)))
   |none=>false]
def cY (l:List NodeP) (p:Int):Bool:=decide (0<=p/\p<=(l.length:Int)-1)
def jW (l:List NodeP) (p:Int):Int:=match l[p.toNat]? with|some n=>n.kind|none=>0
def je (l:List NodeP) (b:BindP):Bool:=
 (cY l b.state&&cY l b.node&&decide (jW l b.state=36))&&((decide (aA l b.state=aA l b.node)||decide (aA l b.node=cE (aA l b.state).wid))&& !(dL l l.length).getD b.node.toNat false)
def fL (l:List NodeP) (b:BindP):Bool:=(cY l b.state&&cY l b.node&&decide (jW l b.state=36))&&decide (aA l b.state=aA l b.node)
def dD (l:List NodeP) (p:Int):Bool:=cY l p&&decide (aA l p=cE 1)
def ak (l:List NodeP) (kind:Int):Nat:=((l.filter fun n=>decide (n.kind=kind)).map fun n=>dQ n.sort).sum
def aH (l:List NodeP) (kind:Int):List Nat:=(List.range l.length).filter fun i=>match l[i]? with|some n=>decide (n.kind=kind)|none=>false
def ax (m:ah):Int:=
 if 60<m.nodes.length\/60<m.inits.length\/60<m.nexts.length\/4<m.bads.length\/4<m.holds.length then 1 else
 if cv m.nodes=false then 2 else if tX m=true then 3 else
 if(m.inits.all (je m.nodes)&&m.nexts.all (fL m.nodes))=false then 4 else
 if(m.bads.all (dD m.nodes)&&m.holds.all (dD m.nodes))=false then 5 else
 if 8<ak m.nodes 36\/5<ak m.nodes 35 then 6 else 0
def cB (v:List (List Nat)) (p:Int):Nat:=(v.getD p.toNat []).getD 0 0
def PH (a lo n:Nat):Nat:=a/2^lo%2^n
def Im (w a more:Nat) (signed:Bool):Nat:=if signed then jC (w+more) (sgn w a)else a
def fu (l:List NodeP) (n:NodeP) (v:List (List Nat)):List Nat:=
 if n.kind=34 then [n.n.toNat]else
 if n.kind=33 then(if cB v n.a=1 then v.getD n.b.toNat []else v.getD n.c.toNat [])else
 if n.kind=21 then [if v.getD n.a.toNat []=v.getD n.b.toNat []then 1 else 0]else
 if n.kind=37 then [(v.getD n.a.toNat []).getD (cB v n.b) 0]else
 if n.kind=38 then(v.getD n.a.toNat []).set (cB v n.b) (cB v n.c)else
 if n.kind=29 then [cB v n.a*2^(aA l n.b).wid.toNat+cB v n.b]else
 if n.kind=30 then [PH (cB v n.a) n.m.toNat (n.n-n.m+1).toNat]else
 if n.kind=31\/n.kind=32 then [Im (aA l n.a).wid.toNat (cB v n.a) n.n.toNat (decide (n.kind=32))]else
 if ar n.kind=1 then [(xi n.kind (aA l n.a).wid.toNat (cB v n.a)).1]else [(td n.kind (aA l n.a).wid.toNat (cB v n.a) (cB v n.b)).1]
def fX (l:List NodeP) (s inp:List (List Nat)):Nat->List (List Nat)
 |0=> []
 |i+1=>fX l s inp i++ [match l[i]? with
   |some n=>if n.kind=36 then s.getD (aH (l.take i) 36).length []else if n.kind=35 then inp.getD (aH (l.take i) 35).length []else fu l n (fX l s inp i)
   |none=> []]
def iE (n:NodeP):List Nat:=([n.a.toNat,n.b.toNat,n.c.toNat]).take (ar n.kind).toNat
theorem rP (k:Int):ar k=0\/ar k=1\/ar k=2\/ar k=3\/ar k= -1:=by
 unfold ar
 by_cases h1:(1<=k/\k<=5)\/(30<=k/\k<=32)
 ·rw [if_pos h1];simp
 rw [if_neg h1]
 by_cases h2:(6<=k/\k<=29)\/k=37
 ·rw [if_pos h2];simp
 rw [if_neg h2]
 by_cases h3:k=33\/k=38
 ·rw [if_pos h3];simp
 rw [if_neg h3]
 by_cases h4:34<=k/\k<=36
 ·rw [if_pos h4];simp
 rw [if_neg h4];simp
def Bb (l:List NodeP):Prop:= ∀(i:Nat) (n:NodeP),l[i]?=some n->0<=ar n.kind/\ ∀p∈iE n,p<i
def rO (l:List NodeP) (j:Nat):Bool:=match l[j]? with|some n=>fR n.kind|none=>false
def rU (l:List NodeP) (j:Nat):Bool:=(dL l l.length).getD j false
theorem iK (l:List NodeP): ∀i,(dL l i).length=i:=by
 intro i
 induction i with
 |zero=>rfl
 |succ i ih=>simp only [dL,List.length_append,ih,List.length_cons,List.length_nil]
theorem S2 (l:List NodeP): ∀d i j,j<i->(dL l (i+d)).getD j false=(dL l i).getD j false:=by
 intro d
 induction d with
 |zero=>intro i j _;rfl
 |succ d ih=>
  intro i j hj
  rw [<-Nat.add_assoc]
  simp only [dL]
  have hl:=iK l (i+d)
  rw [List.getD,List.getElem?_append_left (by omega)]
  exact ih i j hj
theorem sC {l:List NodeP} {i j:Nat} (hj:j<i) (hi:i<=l.length):(dL l i).getD j false=rU l j:=by
 have:=S2 l (l.length-i) i j hj
 rw [show i+(l.length-i)=l.length by omega]at this
 exact this.symm
theorem WG {l:List NodeP} (ha:Bb l) {i:Nat} {n:NodeP} (hn:l[i]?=some n):rU l i=true↔fR n.kind=true\/ ∃p∈iE n,rU l p=true:=by
 have hi:i<l.length:=(List.getElem?_eq_some_iff.1 hn).1
 obtain⟨hk,hp⟩:=ha i n hn
 have e:rU l i=(fR n.kind||((decide (0<ar n.kind)&&(dL l i).getD n.a.toNat false)||((decide (1<ar n.kind)&&(dL l i).getD n.b.toNat false)||(decide (2<ar n.kind)&&(dL l i).getD n.c.toNat false)))):=by
  rw [<-sC (Nat.lt_succ_self i) hi]
  simp only [dL]
  have hl:=iK l i
  rw [List.getD,List.getElem?_append_right (by omega),hl,Nat.sub_self]
  simp only [hn,List.getElem?_cons_zero,Option.getD_some]
 rw [e]
 unfold iE at hp⊢
 rcases rP n.kind with h|h|h|h|h
 ·simp [h]
 ·rw [h]at hp⊢
  have h1:=hp n.a.toNat (by simp)
  rw [sC h1 (by omega)]
  simp
 ·rw [h]at hp⊢
  have h1:=hp n.a.toNat (by simp)
  have h2:=hp n.b.toNat (by simp)
  rw [sC h1 (by omega),sC h2 (by omega)]
  simp
 ·rw [h]at hp⊢
  have h1:=hp n.a.toNat (by simp)
  have h2:=hp n.b.toNat (by simp)
  have h3:=hp n.c.toNat (by simp)
  rw [sC h1 (by omega),sC h2 (by omega),sC h3 (by omega)]
  simp
 ·omega
def jF (l:List NodeP):Nat->(Nat->Bool)->Nat->Bool
 |0,S=>S
 |i+1,S=>jF l i (if S i then fun j=>S j||(match l[i]? with|some n=>(iE n).contains j|none=>false)else S)
theorem Se {l:List NodeP} (ha:Bb l): ∀(i:Nat) (S:Nat->Bool),i<=l.length->
  ((∃j,jF l i S j=true/\rO l j=true)↔(∃j,i<=j/\S j=true/\rO l j=true)\/ ∃j,j<i/\S j=true/\rU l j=true):=by
 intro i
 induction i with
 |zero=>intro S _;simp [jF]
 |succ i ih=>
  intro S hi
  simp only [jF]
  rw [ih _ (by omega)]
  obtain⟨n,hn⟩: ∃n,l[i]?=some n:=⟨l[i],List.getElem?_eq_getElem (by omega)⟩
  have hm:=WG ha hn
  have hp:=(ha i n hn).2
  have hnm:rO l i=fR n.kind:=by unfold rO;rw [hn]
  by_cases hS:S i=true
  ·simp only [hS,if_true,hn]
   constructor
   ·rintro (⟨j,h1,h2,h3⟩|⟨j,h1,h2,h3⟩)
    ·by_cases hji:j=i
     ·subst hji
      exact .inr ⟨j,by omega,hS,hm.2 (.inl (hnm▸h3))⟩
     ·rcases Bool.or_eq_true_iff.1 h2 with h2|h2
      ·exact .inl ⟨j,by omega,h2,h3⟩
      ·have:=hp j (by simpa using h2);omega
    ·rcases Bool.or_eq_true_iff.1 h2 with h2|h2
     ·exact .inr ⟨j,by omega,h2,h3⟩
     ·exact .inr ⟨i,by omega,hS,hm.2 (.inr ⟨j,by simpa using h2,h3⟩)⟩
   ·rintro (⟨j,h1,h2,h3⟩|⟨j,h1,h2,h3⟩)
    ·exact .inl ⟨j,by omega,by simp [h2],h3⟩
    ·by_cases hji:j=i
     ·subst hji
      rcases hm.1 h3 with h4|⟨p,hp1,hp2⟩
      ·exact .inl ⟨j,Nat.le_refl _,by simp [hS],hnm▸h4⟩
      ·exact .inr ⟨p,hp p hp1,by simp [hp1],hp2⟩
     ·exact .inr ⟨j,by omega,by simp [h2],h3⟩
  ·simp only [hS,if_false]
   constructor
   ·rintro (⟨j,h1,h2,h3⟩|⟨j,h1,h2,h3⟩)
    ·by_cases hji:j=i
     ·subst hji;exact absurd h2 hS
     ·exact .inl ⟨j,by omega,h2,h3⟩
    ·exact .inr ⟨j,by omega,h2,h3⟩
   ·rintro (⟨j,h1,h2,h3⟩|⟨j,h1,h2,h3⟩)
    ·exact .inl ⟨j,by omega,h2,h3⟩
    ·by_cases hji:j=i
     ·subst hji;exact absurd h2 hS
     ·exact .inr ⟨j,by omega,h2,h3⟩
theorem Zo {l:List NodeP} (ha:Bb l) {i:Nat} (hi:i<l.length):(∃j,jF l (i+1) (fun j=>decide (j=i)) j=true/\rO l j=true)↔rU l i=true:=by
 rw [Se ha _ _ (by omega)]
 constructor
 ·rintro (⟨j,h1,h2,h3⟩|⟨j,h1,h2,h3⟩)
  ·simp at h2;omega
  ·simp at h2;subst h2;exact h3
 ·intro h;exact .inr ⟨i,by omega,by simp,h⟩
theorem Zx {l:List NodeP} (ha:Bb l) (k:Nat): ∀(i:Nat) (S:Nat->Bool),i<=k+1->i<=l.length->(∀j,S j=true->j<=k)-> ∀j,jF l i S j=true->j<=k:=by
 intro i
 induction i with
 |zero=>intro S _ _ hS j hj;exact hS j hj
 |succ i ih=>
  intro S hk hi hS j hj
  simp only [jF]at hj
  refine ih _ (by omega) (by omega) ?_ j hj
  intro j' hj'
  split at hj'
  ·rcases Bool.or_eq_true_iff.1 hj' with h|h
   ·exact hS j' h
   ·obtain⟨n,hn⟩: ∃n,l[i]?=some n:=⟨l[i],List.getElem?_eq_getElem (by omega)⟩
    rw [hn]at h
    have:=(ha i n hn).2 j' (by simpa using h)
    omega
  ·exact hS j' hj'
def lq (w:Nat):Nat->Nat->List Nat
 |0,_=> []
 |c+1,code=>lq w c code++ [code/2^(w*c)%2^w]
def cj (l:List NodeP) (p:Nat):Nat:=(aA l p).wid.toNat
def aK (l:List NodeP) (p:Nat):Nat:=cT (aA l p)
def cC (l:List NodeP) (ps:List Nat):Nat:=(ps.map fun p=>cj l p*aK l p).sum
def fy (l:List NodeP) (ps:List Nat) (code:Nat):List (List Nat):=
 (List.range ps.length).map fun i=>lq (cj l (ps.getD i 0)) (aK l (ps.getD i 0)) (code/2^cC l (ps.take i))
theorem qp (w c code:Nat):(lq w c code).length=c:=by
 induction c with
 |zero=>rfl
 |succ c ih=>simp only [lq,List.length_append,ih,List.length_cons,List.length_nil]
theorem RH {w c code x:Nat} (h:x∈lq w c code):x<2^w:=by
 induction c with
 |zero=>cases h
 |succ c ih=>
  simp only [lq,List.mem_append,List.mem_singleton]at h
  rcases h with h|h
  ·exact ih h
  ·subst h;exact Nat.mod_lt _ (bJ w)
theorem kW (l:List NodeP) (ps:List Nat) (code:Nat):(fy l ps code).length=ps.length:=by simp [fy]
theorem Rj {α:Type} {l:List α} {i:Nat} {x:α} (h:l[i]?=some x):i<l.length:=by
 rcases Nat.lt_or_ge i l.length with h'|h'
 ·exact h'
 ·rw [List.getElem?_eq_none h']at h;cases h
theorem GL {l:List NodeP} {ps:List Nat} {code i p:Nat} (h:ps[i]?=some p):(fy l ps code).getD i []=lq (cj l p) (aK l p) (code/2^cC l (ps.take i)):=by
 have hlt:=Rj h
 have hp:ps.getD i 0=p:=by rw [List.getD_eq_getElem?_getD,h];rfl
 unfold fy
 rw [List.getD_eq_getElem?_getD,List.getElem?_map,List.getElem?_range hlt]
 simp only [Option.map_some,Option.getD_some,hp]
theorem nv {l:List NodeP} {ps:List Nat} {i p:Nat} (h:ps[i]?=some p):cC l (ps.take (i+1))=cC l (ps.take i)+cj l p*aK l p:=by
 have hlt:=Rj h
 rw [List.getElem?_eq_getElem hlt]at h
 unfold cC
 rw [List.take_succ_eq_append_getElem hlt,Option.some.inj h,List.map_append,List.sum_append];simp
theorem FD (l:List NodeP) (ps:List Nat) (i:Nat):cC l (ps.take i)<=cC l ps:=by
 conv=>rhs;rw [<-List.take_append_drop i ps]
 unfold cC
 rw [List.map_append,List.sum_append];omega
def fP (w:Nat):List Nat->Nat
 | []=>0
 |x::xs=>x+2^w*fP w xs
theorem xn {w:Nat}: ∀{xs:List Nat},(∀x∈xs,x<2^w)->fP w xs<2^(w*xs.length):=by
 intro xs
 induction xs with
 |nil=>intro _;simp [fP]
 |cons x xs ih=>
  intro h
  have h1:=ih fun y hy=>h y (by simp [hy])
  have h2:=h x (by simp)
  simp only [fP,List.length_cons]
  rw [Nat.mul_add,Nat.mul_one,Nat.pow_add,Nat.mul_comm (2^(w*xs.length))]
  have h3:=Nat.mul_le_mul_left (2^w) (Nat.succ_le_of_lt h1)
  rw [Nat.succ_eq_add_one,Nat.mul_add,Nat.mul_one]at h3
  omega
theorem GZ (w:Nat) (xs:List Nat) (x:Nat):fP w (xs++ [x])=fP w xs+2^(w*xs.length)*x:=by
 induction xs with
 |nil=>simp [fP]
 |cons y ys ih=>
  simp only [List.cons_append,fP,ih,List.length_cons]
  rw [Nat.mul_add,<-Nat.add_assoc]
  congr 1
  rw [Nat.mul_add w,Nat.mul_one,Nat.add_comm (w*ys.length),Nat.pow_add,Nat.mul_assoc]
theorem GX (w:Nat) (code k:Nat): ∀c,c<=k->lq w c (code%2^(w*k))=lq w c code:=by
 intro c
 induction c with
 |zero=>intro _;rfl
 |succ c ih=>
  intro h
  simp only [lq,ih (by omega)]
  congr 2
  have hk:w*k=w*c+(w+w*(k-c-1)):=by
   have:k=c+(1+(k-c-1)):=by omega
   conv=>lhs;rw [this]
   simp only [Nat.mul_add,Nat.mul_one]
  rw [hk,Nat.pow_add,Nat.mod_mul_right_div_self,Nat.pow_add,Nat.mod_mul_right_mod]
theorem DE (w c code:Nat):fP w (lq w c code)=code%2^(w*c):=by
 induction c with
 |zero=>simp [lq,fP,Nat.mod_one]
 |succ c ih=>
  rw [lq,GZ,ih,qp,Nat.mul_add,Nat.mul_one,Nat.pow_add,Nat.mod_mul]
theorem Tf {w:Nat}: ∀{xs:List Nat} {k:Nat},(∀x∈xs,x<2^w)->k<xs.length->fP w xs/2^(w*k)%2^w=xs.getD k 0:=by
 intro xs
 induction xs with
 |nil=>intro k _ h;simp at h
 |cons x xs ih=>
  intro k h hk
  have hx:=h x (by simp)
  have hp:=bJ w
  cases k with
  |zero=>
   simp only [fP,Nat.mul_zero,Nat.pow_zero,Nat.div_one,List.getD_cons_zero]
   rw [Nat.add_mul_mod_self_left,Nat.mod_eq_of_lt hx]
  |succ k=>
   rw [List.getD_cons_succ,<-ih (fun y hy=>h y (by simp [hy])) (by simpa using hk)]
   simp only [fP]
   rw [Nat.mul_add,Nat.mul_one,Nat.add_comm (w*k),Nat.pow_add,<-Nat.div_div_eq_div_mul,Nat.add_mul_div_left _ _ hp,Nat.div_eq_of_lt hx,Nat.zero_add]
theorem C6 {w:Nat} {xs:List Nat} (h: ∀x∈xs,x<2^w):lq w xs.length (fP w xs)=xs:=by
 have key: ∀c,c<=xs.length->lq w c (fP w xs)=xs.take c:=by
  intro c
  induction c with
  |zero=>intro _;rfl
  |succ c ih=>
   intro hc
   rw [lq,ih (by omega),Tf h (by omega),List.take_succ_eq_append_getElem (by omega),List.getD_eq_getElem?_getD,List.getElem?_eq_getElem (by omega)];rfl
 have:=key xs.length (Nat.le_refl _)
 rwa [List.take_length]at this
theorem GF (w n:Nat):fP w (List.replicate n 0)=0:=by
 induction n with
 |zero=>rfl
 |succ n ih=>simp only [List.replicate_succ,fP,ih];simp
def nbA (l:List NodeP) (p:Nat):Nat:=cj l p*aK l p
def CW (l:List NodeP):List Nat->Nat->List (List Nat)
 | [],_=> []
 |p::ps,code=>lq (cj l p) (aK l p) code::CW l ps (code/2^nbA l p)
def dZ (l:List NodeP):List Nat->List (List Nat)->Nat
 | [],_=>0
 |p::ps,vs=>fP (cj l p) (vs.headD [])+2^nbA l p*dZ l ps vs.tail
def j7 (l:List NodeP):List Nat->List (List Nat)->Prop
 | [],vs=>vs= []
 |p::ps,vs=> ∃v r,vs=v::r/\v.length=aK l p/\(∀x∈v,x<2^cj l p)/\j7 l ps r
theorem pC (l:List NodeP) (p:Nat) (ps:List Nat):cC l (p::ps)=nbA l p+cC l ps:=by simp [cC,nbA]
theorem qi (l:List NodeP): ∀(ps:List Nat) (code:Nat),fy l ps code=CW l ps code:=by
 intro ps
 induction ps with
 |nil=>intro code;simp [fy,CW]
 |cons p ps ih=>
  intro code
  rw [CW,<-ih]
  unfold fy
  rw [List.length_cons,List.range_succ_eq_map,List.map_cons,List.map_map]
  simp only [List.getD_cons_zero,List.take_zero,cC,List.map_nil,List.sum_nil,Nat.pow_zero,Nat.div_one,List.cons.injEq,true_and]
  apply List.map_congr_left
  intro i _
  simp only [Function.comp,List.getD_cons_succ,List.take_succ_cons,List.map_cons,List.sum_cons,nbA]
  rw [Nat.pow_add,Nat.div_div_eq_div_mul]
theorem Nk (l:List NodeP): ∀(ps:List Nat) (code:Nat),j7 l ps (CW l ps code):=by
 intro ps
 induction ps with
 |nil=>intro code;rfl
 |cons p ps ih=>exact fun code=>⟨_,_,rfl,qp _ _ _,fun x hx=>RH hx,ih _⟩
theorem uB {l:List NodeP}: ∀{ps:List Nat} {vs:List (List Nat)},j7 l ps vs->dZ l ps vs<2^cC l ps:=by
 intro ps
 induction ps with
 |nil=>intro vs _;simp [dZ,cC]
 |cons p ps ih=>
  rintro _ ⟨v,r,rfl,h1,h2,h3⟩
  have h4:=ih h3
  have h5:=xn h2
  rw [h1]at h5
  have h5':fP (cj l p) v<2^nbA l p:=h5
  simp only [dZ,List.headD_cons,List.tail_cons]
  rw [pC,Nat.pow_add]
  have h6:=Nat.mul_le_mul_left (2^nbA l p) (Nat.succ_le_of_lt h4)
  rw [Nat.succ_eq_add_one,Nat.mul_add,Nat.mul_one]at h6
  omega
theorem rY {l:List NodeP}: ∀{ps:List Nat} {vs:List (List Nat)},j7 l ps vs->CW l ps (dZ l ps vs)=vs:=by
 intro ps
 induction ps with
 |nil=>rintro vs rfl;rfl
 |cons p ps ih=>
  rintro _ ⟨v,r,rfl,h1,h2,h3⟩
  have h5:=xn h2
  rw [h1]at h5
  have h5':fP (cj l p) v<2^nbA l p:=h5
  simp only [CW,dZ,List.headD_cons,List.tail_cons]
  rw [Nat.add_mul_div_left _ _ (bJ _),Nat.div_eq_of_lt h5',Nat.zero_add,ih h3,<-GX _ _ _ _ (Nat.le_refl _)]
  have:(fP (cj l p) v+2^nbA l p*dZ l ps r)%2^(cj l p*aK l p)=fP (cj l p) v:=by
   show _%2^nbA l p=_
   rw [Nat.add_mul_mod_self_left,Nat.mod_eq_of_lt h5']
  rw [this,<-h1,C6 h2]
theorem oP {l:List NodeP}: ∀{ps:List Nat} {vs:List (List Nat)},j7 l ps vs->vs.length=ps.length:=by
 intro ps
 induction ps with
 |nil=>rintro vs rfl;rfl
 |cons p ps ih=>rintro _ ⟨v,r,rfl,h1,h2,h3⟩;simp [ih h3]
theorem O7 {l:List NodeP}: ∀{ps:List Nat} {vs:List (List Nat)} {p:Nat} {v:List Nat},vs.length=ps.length->
  dZ l (ps++ [p]) (vs++ [v])=dZ l ps vs+2^cC l ps*fP (cj l p) v:=by
 intro ps
 induction ps with
 |nil=>
  intro vs p v h
  obtain rfl:vs= []:=List.eq_nil_of_length_eq_zero (by simpa using h)
  simp [dZ,cC]
 |cons q ps ih=>
  intro vs p v h
  obtain⟨u,r,rfl⟩: ∃u r,vs=u::r:=by
   cases vs with
   |nil=>simp at h
   |cons u r=>exact⟨u,r,rfl⟩
  simp only [List.cons_append,dZ,List.headD_cons,List.tail_cons]
  rw [ih (by simpa using h),pC,Nat.pow_add,Nat.mul_add,Nat.mul_assoc,Nat.add_assoc]
theorem Tn {l:List NodeP}: ∀{ps:List Nat} {vs:List (List Nat)},j7 l ps vs-> ∀i,j7 l (ps.take i) (vs.take i):=by
 intro ps
 induction ps with
 |nil=>rintro vs rfl i;simp [j7]
 |cons p ps ih=>
  rintro _ ⟨v,r,rfl,h1,h2,h3⟩ i
  cases i with
  |zero=>rfl
  |succ i=>exact⟨v,r.take i,rfl,h1,h2,ih h3 i⟩
theorem mu {l:List NodeP}: ∀{ps:List Nat} {vs:List (List Nat)},j7 l ps vs-> ∀{i p:Nat},ps[i]?=some p->(vs.getD i []).length=aK l p/\ ∀x∈vs.getD i [],x<2^cj l p:=by
 intro ps
 induction ps with
 |nil=>rintro vs rfl i p h;simp at h
 |cons q ps ih=>
  rintro _ ⟨v,r,rfl,h1,h2,h3⟩ i p h
  cases i with
  |zero=>simp at h;subst h;exact⟨h1,h2⟩
  |succ i=>exact ih h3 (by simpa using h)
def cf (binds:List BindP) (p:Nat):Option Nat:=(binds.find? fun b=>decide (b.state=(p:Int))).map (·.node.toNat)
def fZ (l:List NodeP) (c:Nat->Bool):List Nat->Nat
 | []=>0
 |p::ps=>(if c p then 2^nbA l p-1 else 0)+2^nbA l p*fZ l c ps
def kJ (l:List NodeP) (f:Nat->Option (List Nat)) (ps:List Nat):List (List Nat):=ps.map fun p=>(f p).getD (List.replicate (aK l p) 0)
theorem Po (n:Nat):2^n-1<2^n:=by have:=bJ n;omega
theorem Rz (l:List NodeP) (c:Nat->Bool) (p:Nat):(if c p then 2^nbA l p-1 else 0)<2^nbA l p:=by
 have:=bJ (nbA l p);split<;>omega
theorem xX (l:List NodeP) (c:Nat->Bool): ∀ps,fZ l c ps<2^cC l ps:=by
 intro ps
 induction ps with
 |nil=>simp [fZ,cC]
 |cons p ps ih=>
  have h1:=Rz l c p
  rw [pC,Nat.pow_add,fZ]
  have h6:=Nat.mul_le_mul_left (2^nbA l p) (Nat.succ_le_of_lt ih)
  rw [Nat.succ_eq_add_one,Nat.mul_add,Nat.mul_one]at h6
  omega
theorem DC {n a b:Nat} (ha:a<2^n) (j:Nat):(a+2^n*b).testBit j=if j<n then a.testBit j else b.testBit (j-n):=by
 rw [Nat.add_comm,Nat.testBit_two_pow_mul_add _ ha]
theorem Sq {n a b c d:Nat} (ha:a<2^n) (hc:c<2^n):(a+2^n*b)&&&(c+2^n*d)=(a&&&c)+2^n*(b&&&d):=by
 apply Nat.eq_of_testBit_eq
 intro j
 rw [Nat.testBit_and,DC ha,DC hc,DC (Nat.lt_of_le_of_lt Nat.and_le_left ha)]
 split<;>rw [Nat.testBit_and]
theorem SR {n a b c d:Nat} (ha:a<2^n) (hc:c<2^n):a+2^n*b=c+2^n*d↔a=c/\b=d:=by
 constructor
 ·intro h
  have h1:(a+2^n*b)%2^n=(c+2^n*d)%2^n:=by rw [h]
  have h2:(a+2^n*b)/2^n=(c+2^n*d)/2^n:=by rw [h]
  rw [Nat.add_mul_mod_self_left,Nat.add_mul_mod_self_left,Nat.mod_eq_of_lt ha,Nat.mod_eq_of_lt hc]at h1
  rw [Nat.add_mul_div_left _ _ (bJ n),Nat.add_mul_div_left _ _ (bJ n),Nat.div_eq_of_lt ha,Nat.div_eq_of_lt hc]at h2
  exact⟨h1,by omega⟩
 ·rintro ⟨rfl,rfl⟩;rfl
theorem Dv {l:List NodeP} {f:Nat->Option (List Nat)}: ∀{ps:List Nat} (s:Nat),(∀p∈ps,∀v,f p=some v->v.length=aK l p/\ ∀x∈v,x<2^cj l p)->
  (s&&&fZ l (fun p=>(f p).isSome) ps=dZ l ps (kJ l f ps)↔ ∀(i p:Nat),ps[i]?=some p-> ∀v,f p=some v->(CW l ps s).getD i []=v):=by
 intro ps
 induction ps with
 |nil=>intro s _;simp [fZ,dZ]
 |cons p ps ih=>
  intro s hf
  have ih':=ih (s/2^nbA l p) fun q hq=>hf q (by simp [hq])
  have hs:s=s%2^nbA l p+2^nbA l p*(s/2^nbA l p):=(Nat.mod_add_div _ _).symm
  have hm:=Nat.mod_lt s (bJ (nbA l p))
  have hhead:fP (cj l p) ((f p).getD (List.replicate (aK l p) 0))<2^nbA l p:=by
   cases h:f p with
   |none=>simp only [Option.getD_none,GF];exact bJ _
   |some v=>
    have h2:=hf p (by simp) v h
    have h1:=xn h2.2
    rw [h2.1]at h1;exact h1
  have e1:s&&&fZ l (fun p=>(f p).isSome) (p::ps)=(s%2^nbA l p&&&(if(f p).isSome then 2^nbA l p-1 else 0))+2^nbA l p*(s/2^nbA l p&&&fZ l (fun p=>(f p).isSome) ps):=by
   conv=>lhs;rw [hs]
   rw [fZ,Sq hm (Rz l (fun p=>(f p).isSome) p)]
  have e2:dZ l (p::ps) (kJ l f (p::ps))=fP (cj l p) ((f p).getD (List.replicate (aK l p) 0))+2^nbA l p*dZ l ps (kJ l f ps):=rfl
  rw [e1,e2,SR (Nat.lt_of_le_of_lt Nat.and_le_left hm) hhead,ih']
  constructor
  ·rintro ⟨h1,h2⟩ i q hq v hv
   cases i with
   |zero=>
    simp at hq;subst hq
    rw [hv]at h1
    simp only [Option.isSome_some,if_true,Option.getD_some,Nat.and_two_pow_sub_one_eq_mod,Nat.mod_mod]at h1
    have h3:=hf p (by simp) v hv
    simp only [CW,List.getD_cons_zero]
    rw [<-GX _ _ _ _ (Nat.le_refl _)]
    show lq _ _ (s%2^nbA l p)=v
    rw [h1,<-h3.1,C6 h3.2]
   |succ i=>exact h2 i q (by simpa using hq) v hv
  ·intro h
   refine⟨?_,fun i q hq v hv=>h (i+1) q (by simpa using hq) v hv⟩
   cases hv:f p with
   |none=>simp [GF]
   |some v=>
    have h1:=h 0 p rfl v hv
    simp only [CW,List.getD_cons_zero]at h1
    simp only [Option.isSome_some,if_true,Option.getD_some,Nat.and_two_pow_sub_one_eq_mod,Nat.mod_mod]
    rw [<-h1,DE];rfl
theorem C2 {l:List NodeP} {f:Nat->Option (List Nat)} {ps:List Nat} (h: ∀p∈ps,∀v,f p=some v->v.length=aK l p/\ ∀x∈v,x<2^cj l p):j7 l ps (kJ l f ps):=by
 induction ps with
 |nil=>rfl
 |cons p ps ih=>
  refine⟨_,_,rfl,?_,?_,ih fun q hq=>h q (by simp [hq])⟩
  ·show ((f p).getD (List.replicate (aK l p) 0)).length=_
   cases hv:f p with
   |none=>simp
   |some v=>exact(h p (by simp) v hv).1
  ·show∀x∈(f p).getD (List.replicate (aK l p) 0),_
   cases hv:f p with
   |none=>
    intro x hx
    simp at hx
    rw [hx.2];exact bJ _
   |some v=>exact(h p (by simp) v hv).2
theorem NX {l:List NodeP} {f:Nat->Option (List Nat)} {ps:List Nat} (h: ∀p∈ps,∀v,f p=some v->v.length=aK l p/\ ∀x∈v,x<2^cj l p):
  dZ l ps (kJ l f ps)&&&fZ l (fun p=>(f p).isSome) ps=dZ l ps (kJ l f ps):=by
 rw [Dv _ h,rY (C2 h)]
 intro i p hp v hv
 unfold kJ
 rw [List.getD_eq_getElem?_getD,List.getElem?_map,hp]
 simp [hv]
theorem Jc {a b:Nat} (h: ∀j,(a.testBit j&&b.testBit j)=false):a&&&b=0:=by
 apply Nat.eq_of_testBit_eq;intro j;rw [Nat.testBit_and,h j,Nat.zero_testBit]
theorem Wh (l:List NodeP) (c:Nat->Bool): ∀ps,fZ l c ps+fZ l (fun p=> !c p) ps=2^cC l ps-1:=by
 intro ps
 induction ps with
 |nil=>simp [fZ,cC]
 |cons p ps ih=>
  simp only [fZ]
  rw [pC,Nat.pow_add]
  have h1:=bJ (nbA l p)
  have h2:=bJ (cC l ps)
  have h3:2^nbA l p*fZ l c ps+2^nbA l p*fZ l (fun p=> !c p) ps=2^nbA l p*2^cC l ps-2^nbA l p:=by
   rw [<-Nat.mul_add,ih,Nat.mul_sub,Nat.mul_one]
  have h4:=Nat.mul_le_mul_left (2^nbA l p) h2
  by_cases hc:c p=true
  ·simp only [hc,Bool.not_true,if_true,if_false,Bool.false_eq_true];omega
  ·have hc':c p=false:=by simpa using hc
   simp only [hc',Bool.not_false,if_true,if_false,Bool.false_eq_true];omega
theorem yD (n a b:Nat):cV n (fun j=>a.testBit j&&b.testBit j)+cV n (fun j=>a.testBit j&& !b.testBit j)=cV n a.testBit:=by
 induction n with
 |zero=>rfl
 |succ n ih=>
  simp only [cV]
  by_cases h1:a.testBit n=true<;>by_cases h2:b.testBit n=true<;>simp [h1,h2]<;>omega
theorem zg {n a:Nat} (h:a<2^n):cV n a.testBit=a:=jA h fun _ _=>rfl
theorem Yu {n a x y:Nat} (ha:a<2^n) (hxy:x+y=2^n-1) (hx:x<2^n):(a&&&x)+(a&&&y)=a/\ ∀j,j<n->y.testBit j= !x.testBit j:=by
 have hb: ∀j,j<n->y.testBit j= !x.testBit j:=by
  have h1:=yD n (2^n-1) x
  rw [zg (Po n),jA hx (fun i hi=>by rw [Nat.testBit_two_pow_sub_one];simp [hi])]at h1
  have h2:cV n (fun j=>(2^n-1).testBit j&& !x.testBit j)=y:=by omega
  intro j hj
  rw [<-h2,sQ _ _ _ hj,Nat.testBit_two_pow_sub_one]
  simp [hj]
 refine⟨?_,hb⟩
 have h1:=yD n a x
 rw [zg ha,Iu ha]at h1
 have h2:cV n (fun j=>a.testBit j&& !x.testBit j)=a&&&y:=by
  rw [<-Iu ha]
  exact sD fun j hj=>by rw [hb j hj]
 omega
theorem WH {n x y nx t:Nat} (hxy:x+y=2^n-1) (hx:x<2^n) (ht:t<2^n) (hnx:nx<2^n) (hn:nx&&&x=nx):t&&&x=nx↔ ∃f,f&&&y=f/\nx+f=t:=by
 have h1:=Yu ht hxy hx
 constructor
 ·intro h
  exact⟨t&&&y,by rw [Nat.and_assoc,Nat.and_self],by omega⟩
 ·rintro ⟨f,hf,rfl⟩
  have hfl:f<2^n:=by omega
  have d: ∀j,(nx.testBit j&&f.testBit j)=false:=by
   intro j
   by_cases hj:j<n
   ·have e1:nx.testBit j=(nx.testBit j&&x.testBit j):=by rw [<-Nat.testBit_and,hn]
    have e2:f.testBit j=(f.testBit j&&y.testBit j):=by rw [<-Nat.testBit_and,hf]
    rw [e1,e2,h1.2 j hj]
    cases nx.testBit j<;>cases f.testBit j<;>cases x.testBit j<;>rfl
   ·rw [Nat.testBit_lt_two_pow (Nat.lt_of_lt_of_le hnx (Nat.pow_le_pow_right (by omega) (by omega)))];rfl
  have hor:nx+f=nx|||f:=by
   have hg: ∀m,cV m nx.testBit+cV m f.testBit=cV m (fun j=>nx.testBit j||f.testBit j):=by
    intro m
    induction m with
    |zero=>rfl
    |succ m ih=>
     have:=d m
     simp only [cV]
     by_cases h1:nx.testBit m=true<;>by_cases h2:f.testBit m=true<;>simp [h1,h2]at this⊢ <;>omega
   have:=hg n
   rw [zg hnx,zg hfl,Rc hnx hfl]at this
   exact this
  rw [hor]
  have hfx:f&&&x=0:=Jc fun j=>by
   by_cases hj:j<n
   ·have e2:f.testBit j=(f.testBit j&&y.testBit j):=by rw [<-Nat.testBit_and,hf]
    rw [e2,h1.2 j hj]
    cases f.testBit j<;>cases x.testBit j<;>rfl
   ·rw [Nat.testBit_lt_two_pow (Nat.lt_of_lt_of_le hfl (Nat.pow_le_pow_right (by omega) (by omega)))];rfl
  rw [Nat.and_or_distrib_right,hn,hfx,Nat.or_zero]
def pd (n:Nat) (p:Nat->Bool):Bool:=(List.range n).any p
theorem cF {n:Nat} {p:Nat->Bool}:pd n p=true↔ ∃i,i<n/\p i=true:=by
 unfold pd;rw [List.any_eq_true]
 constructor
 ·rintro ⟨i,hi,h⟩;exact⟨i,List.mem_range.1 hi,h⟩
 ·rintro ⟨i,hi,h⟩;exact⟨i,List.mem_range.2 hi,h⟩
theorem qm {n:Nat} {p:Nat->Bool}:pd n p=false↔ ∀i,i<n->p i=false:=by
 rw [Bool.eq_false_iff,ne_eq,cF]
 constructor
 ·intro h i hi
  cases hp:p i with
  |false=>rfl
  |true=>exact absurd ⟨i,hi,hp⟩ h
 ·rintro h ⟨i,hi,hp⟩;rw [h i hi]at hp;cases hp
theorem Kp (n:Nat) (p:Nat->Bool):pd (n+1) p=(pd n p||p n):=by
 unfold pd;rw [List.range_succ,List.any_append];simp
structure aD where
 n:Nat
 k:Nat
 hold:Nat->Bool
 bad:Nat->Bool
 next:Nat->Nat
 fixed:Nat
 bfix:Nat
 bas:Nat
structure aD.Ok (σ:aD):Prop where
 nle:σ.n<=8
 kle:σ.k<=5
 fixed:σ.fixed<2^σ.n
 bfix:σ.bfix<2^σ.n
 next: ∀c,c<2^(σ.n+σ.k)->σ.next c<2^σ.n
 held: ∀c,c<2^(σ.n+σ.k)->σ.next c&&&σ.fixed=σ.next c
 bas:σ.bas<2^σ.n
 bheld:σ.bas&&&σ.bfix=σ.bas
namespace aD
def begins (σ:aD) (s:Nat):Bool:=decide (s&&&σ.bfix=σ.bas)
def ends (σ:aD) (c:Nat):Bool:=σ.hold c&&σ.bad c
def goes (σ:aD) (c t:Nat):Bool:=decide (t&&&σ.fixed=σ.next c)
def at_ (σ:aD) (s i:Nat):Nat:=i*2^σ.n+s
def some_ (σ:aD) (f:Nat->Nat->Bool) (s:Nat):Bool:=pd (2^σ.k) fun i=>f s (σ.at_ s i)
def leads (σ:aD) (S:Nat->Bool) (c:Nat):Bool:=pd (2^σ.n) fun t=>S t&&σ.goes c t
def fwd (σ:aD) (p S:Nat->Bool) (t:Nat):Bool:=pd (2^(σ.n+σ.k)) fun c=>(S (c%2^σ.n)&&p c)&&σ.goes c t
def bwd (σ:aD) (p S:Nat->Bool):Nat->Bool:=σ.some_ fun _ c=>p c&&σ.leads S c
theorem pow_nk (σ:aD):2^(σ.n+σ.k)=2^σ.k*2^σ.n:=by rw [Nat.pow_add,Nat.mul_comm]
theorem at_lt {σ:aD} {s i:Nat} (hs:s<2^σ.n) (hi:i<2^σ.k):σ.at_ s i<2^(σ.n+σ.k):=by
 rw [pow_nk];unfold at_
 have:=Nat.mul_le_mul_right (2^σ.n) (Nat.succ_le_of_lt hi)
 rw [Nat.succ_mul]at this;omega
theorem at_mod {σ:aD} {s i:Nat} (hs:s<2^σ.n):σ.at_ s i%2^σ.n=s:=by
 unfold at_;rw [Nat.mul_comm,Nat.mul_add_mod,Nat.mod_eq_of_lt hs]
theorem at_div {σ:aD} {s i:Nat} (hs:s<2^σ.n):σ.at_ s i/2^σ.n=i:=by
 unfold at_;rw [Nat.mul_comm,Nat.mul_add_div (bJ _),Nat.div_eq_of_lt hs,Nat.add_zero]
theorem at_of {σ:aD} {c:Nat} (hc:c<2^(σ.n+σ.k)):c%2^σ.n<2^σ.n/\c/2^σ.n<2^σ.k/\σ.at_ (c%2^σ.n) (c/2^σ.n)=c:=by
 refine⟨Nat.mod_lt _ (bJ _),?_,?_⟩
 ·rw [Nat.div_lt_iff_lt_mul (bJ _),<-pow_nk];exact hc
 ·unfold at_;rw [Nat.mul_comm];exact Nat.div_add_mod _ _
theorem some_iff {σ:aD} {f:Nat->Nat->Bool} {s:Nat}:σ.some_ f s=true↔ ∃i,i<2^σ.k/\f s (σ.at_ s i)=true:=cF
theorem fwd_iff {σ:aD} {p S:Nat->Bool} {t:Nat}:σ.fwd p S t=true↔ ∃s i,s<2^σ.n/\i<2^σ.k/\S s=true/\p (σ.at_ s i)=true/\σ.goes (σ.at_ s i) t=true:=by
 unfold fwd;rw [cF]
 constructor
 ·rintro ⟨c,hc,h⟩
  simp only [Bool.and_eq_true]at h
  obtain⟨h1,h2,h3⟩:=at_of hc
  exact⟨_,_,h1,h2,h.1.1,by rw [h3];exact h.1.2,by rw [h3];exact h.2⟩
 ·rintro ⟨s,i,hs,hi,h1,h2,h3⟩
  refine⟨_,at_lt hs hi,?_⟩
  rw [at_mod hs,h1,h2,h3];rfl
theorem bwd_iff {σ:aD} {p S:Nat->Bool} {s:Nat}:σ.bwd p S s=true↔ ∃i t,i<2^σ.k/\t<2^σ.n/\p (σ.at_ s i)=true/\S t=true/\σ.goes (σ.at_ s i) t=true:=by
 unfold bwd;rw [some_iff]
 constructor
 ·rintro ⟨i,hi,h⟩
  simp only [Bool.and_eq_true,leads,cF]at h
  obtain⟨h1,t,ht,h2,h3⟩:=h
  exact⟨i,t,hi,ht,h1,h2,h3⟩
 ·rintro ⟨i,t,hi,ht,h1,h2,h3⟩
  refine⟨i,hi,?_⟩
  simp only [Bool.and_eq_true,leads,cF]
  exact⟨h1,t,ht,h2,h3⟩
theorem meet {σ:aD} {p S T:Nat->Bool}:(∃t,t<2^σ.n/\σ.fwd p S t=true/\T t=true)↔ ∃s,s<2^σ.n/\S s=true/\σ.bwd p T s=true:=by
 constructor
 ·rintro ⟨t,ht,h1,h2⟩
  obtain⟨s,i,hs,hi,a,b,c⟩:=fwd_iff.1 h1
  exact⟨s,hs,a,bwd_iff.2 ⟨i,t,hi,ht,b,h2,c⟩⟩
 ·rintro ⟨s,hs,h1,h2⟩
  obtain⟨i,t,hi,ht,a,b,c⟩:=bwd_iff.1 h2
  exact⟨t,ht,fwd_iff.2 ⟨s,i,hs,hi,h1,a,c⟩,b⟩
def lay (σ:aD):Nat->(Nat->Bool)×(Nat->Bool)
 |0=>(σ.begins,fun _=>false)
 |i+1=>(fun t=>σ.fwd σ.hold (σ.lay i).1 t&& !((σ.lay i).2 t||(σ.lay i).1 t),fun t=>(σ.lay i).2 t||(σ.lay i).1 t)
def front (σ:aD) (i:Nat):Nat->Bool:=(σ.lay i).1
def seen (σ:aD) (i:Nat):Nat->Bool:=(σ.lay i).2
theorem seen_zero (σ:aD) (t:Nat):σ.seen 0 t=false:=rfl
theorem seen_succ (σ:aD) (i t:Nat):σ.seen (i+1) t=(σ.seen i t||σ.front i t):=rfl
theorem front_succ (σ:aD) (i t:Nat):σ.front (i+1) t=(σ.fwd σ.hold (σ.front i) t&& !σ.seen (i+1) t):=rfl
def live (σ:aD) (i:Nat):Bool:=pd (2^σ.n) (σ.front i)
def cntB (n:Nat) (S:Nat->Bool):Nat:=((List.range n).filter S).length
theorem cntB_le (n:Nat) (S:Nat->Bool):cntB n S<=n:=by unfold cntB;have:=List.length_filter_le S (List.range n);simpa using this
theorem cntB_succ (n:Nat) (S:Nat->Bool):cntB (n+1) S=cntB n S+if S n then 1 else 0:=by
 unfold cntB;rw [List.range_succ,List.filter_append,List.length_append]
 by_cases h:S n=true<;>simp [h]
theorem cntB_mono {n:Nat} {S T:Nat->Bool} (h: ∀i,i<n->S i=true->T i=true):cntB n S<=cntB n T:=by
 induction n with
 |zero=>simp [cntB]
 |succ n ih=>
  have:=ih fun i hi=>h i (by omega)
  have h2:=h n (by omega)
  rw [cntB_succ,cntB_succ]
  by_cases hs:S n=true
  ·rw [if_pos hs,if_pos (h2 hs)];omega
  ·rw [if_neg hs];omega
theorem cntB_more {n j:Nat} {S T:Nat->Bool} (h: ∀i,i<n->S i=true->T i=true) (hj:j<n) (h1:S j=false) (h2:T j=true):cntB n S+1<=cntB n T:=by
 induction n with
 |zero=>omega
 |succ n ih=>
  rw [cntB_succ,cntB_succ]
  by_cases e:j=n
  ·subst e
   have:=cntB_mono fun i hi=>h i (Nat.lt_succ_of_lt hi)
   rw [if_neg (by rw [h1];decide),if_pos h2];omega
  ·have:=ih (fun i hi=>h i (by omega)) (by omega)
   have h3:=h n (by omega)
   by_cases hs:S n=true
   ·rw [if_pos hs,if_pos (h3 hs)];omega
   ·rw [if_neg hs];omega
theorem front_new (σ:aD) (i t:Nat) (h:σ.front i t=true):σ.seen i t=false:=by
 cases i with
 |zero=>rfl
 |succ i=>rw [front_succ]at h;simp only [Bool.and_eq_true,Bool.not_eq_true']at h;exact h.2
theorem cnt_seen (σ:aD): ∀i,(∀j,j<i->σ.live j=true)->i<=cntB (2^σ.n) (σ.seen i):=by
 intro i
 induction i with
 |zero=>intro _;omega
 |succ i ih=>
  intro h
  have h1:=ih fun j hj=>h j (by omega)
  obtain⟨t,ht,h2⟩:=cF.1 (h i (by omega))
  have:=cntB_more (n:=2^σ.n) (j:=t) (S:=σ.seen i) (T:=σ.seen (i+1)) (fun j _ hj=>by rw [seen_succ,hj];rfl) ht (front_new σ i t h2) (by rw [seen_succ,h2,Bool.or_true])
  omega
theorem live_le {σ:aD} {i:Nat} (h: ∀j,j<i->σ.live j=true):i<=2^σ.n:=Nat.le_trans (cnt_seen σ i h) (cntB_le _ _)
theorem dead_after {σ:aD} {i:Nat} (h:σ.live i=false): ∀d,σ.live (i+d)=false:=by
 intro d
 induction d with
 |zero=>exact h
 |succ d ih=>
  unfold live at ih⊢
  rw [qm]at ih⊢
  intro t ht
  rw [<-Nat.add_assoc,front_succ]
  have:σ.fwd σ.hold (σ.front (i+d)) t=false:=by
   cases hf:σ.fwd σ.hold (σ.front (i+d)) t with
   |false=>rfl
   |true=>
    obtain⟨s,x,hs,_,h1,_⟩:=fwd_iff.1 hf
    rw [ih s hs]at h1;cases h1
  rw [this];rfl
def nLay (σ:aD):Nat:=(List.range (2^σ.n+1)).findIdx fun i=> !σ.live i
theorem nLay_of {σ:aD} {i:Nat} (h1: ∀j,j<i->σ.live j=true) (h2:σ.live i=false):σ.nLay=i:=by
 have hle:=live_le h1
 unfold nLay
 rw [List.findIdx_eq (by simp;omega)]
 refine⟨by simp [h2],fun j hj=>?_⟩
 simp [h1 j hj]
theorem nLay_live {σ:aD}:(∀j,j<σ.nLay->σ.live j=true)/\σ.live σ.nLay=false:=by
 obtain⟨i,h1,h2⟩: ∃i,(∀j,j<i->σ.live j=true)/\σ.live i=false:=by
  have key: ∀m i,(∀j,j<i->σ.live j=true)->m=2^σ.n+1-i-> ∃i,(∀j,j<i->σ.live j=true)/\σ.live i=false:=by
   intro m
   induction m with
   |zero=>intro i h hm;have:=live_le h;omega
   |succ m ih=>
    intro i h hm
    cases hl:σ.live i with
    |false=>exact⟨i,h,hl⟩
    |true=>exact ih (i+1) (fun j hj=>by
      by_cases e:j=i
      ·subst e;exact hl
      ·exact h j (by omega)) (by omega)
  exact key _ 0 (fun j hj=>by omega) rfl
 rw [nLay_of h1 h2];exact⟨h1,h2⟩
theorem nLay_le (σ:aD):σ.nLay<=2^σ.n:=live_le nLay_live.1
theorem front_lt {σ:aD} {i s:Nat} (hs:s<2^σ.n) (h:σ.front i s=true):i<σ.nLay:=by
 rcases Nat.lt_or_ge i σ.nLay with h1|h1
 ·exact h1
 ·have:=dead_after (nLay_live (σ:=σ)).2 (i-σ.nLay)
  rw [show σ.nLay+(i-σ.nLay)=i by omega]at this
  unfold live at this
  rw [qm]at this
  rw [this s hs]at h;cases h
theorem seen_iff {σ:aD} {i t:Nat}:σ.seen i t=true↔ ∃j,j<i/\σ.front j t=true:=by
 induction i with
 |zero=>rw [seen_zero];simp
 |succ i ih=>
  rw [seen_succ,Bool.or_eq_true,ih]
  constructor
  ·rintro (⟨j,hj,h⟩|h)
   ·exact⟨j,by omega,h⟩
   ·exact⟨i,by omega,h⟩
  ·rintro ⟨j,hj,h⟩
   by_cases e:j=i
   ·subst e;exact .inr h
   ·exact .inl ⟨j,by omega,h⟩
def reach (σ:aD):Nat->Bool:=σ.seen σ.nLay
def endsAt (σ:aD):Nat->Bool:=σ.some_ fun _ c=>σ.ends c
theorem endsAt_iff {σ:aD} {s:Nat}:σ.endsAt s=true↔ ∃x,x<2^σ.k/\σ.hold (σ.at_ s x)=true/\σ.bad (σ.at_ s x)=true:=by
 unfold endsAt;rw [some_iff];simp only [ends,Bool.and_eq_true]
def hits (σ:aD) (i:Nat):Bool:=pd (2^σ.n) fun s=>σ.front i s&&σ.endsAt s
def depth (σ:aD):Option Nat:=(List.range σ.nLay).find? fun i=>σ.hits i
def depthI (σ:aD):Int:=match σ.depth with|some d=>d|none=> -1
theorem find_none {n:Nat} {p:Nat->Bool}:(List.range n).find? p=none↔ ∀i,i<n->p i=false:=by
 rw [List.find?_eq_none]
 constructor
 ·intro h i hi;have:=h i (List.mem_range.2 hi);simpa using this
 ·intro h i hi;rw [h i (List.mem_range.1 hi)];decide
theorem find_some {n d:Nat} {p:Nat->Bool}:(List.range n).find? p=some d↔d<n/\p d=true/\ ∀i,i<d->p i=false:=by
 induction n with
 |zero=>simp
 |succ n ih=>
  rw [List.range_succ,List.find?_append]
  cases hn:(List.range n).find? p with
  |some e=>
   have h1:=hn
   rw [Option.some_or]
   have ih': ∀d,some e=some d↔_:=fun d=>hn▸(show (List.range n).find? p=some d↔d<n/\p d=true/\ ∀i,i<d->p i=false from by
    constructor
    ·intro hd
     have:=List.find?_some hd
     have hm:=List.mem_range.1 (List.mem_of_find?_eq_some hd)
     refine⟨hm,this,fun i hi=>?_⟩
     rw [List.find?_range_eq_some]at hd
     simpa using hd.2.2 i hi
    ·rintro ⟨a,b,c⟩
     rw [List.find?_range_eq_some]
     exact⟨b,List.mem_range.2 a,fun j hj=>by simp [c j hj]⟩)
   rw [ih']
   constructor
   ·rintro ⟨a,b,c⟩;exact⟨by omega,b,c⟩
   ·rintro ⟨a,b,c⟩
    refine⟨?_,b,c⟩
    rcases Nat.lt_or_ge d n with h|h
    ·exact h
    ·have hd:d=n:=by omega
     have he:=(ih' e).1 rfl
     have:=c e (by omega)
     rw [he.2.1]at this;cases this
  |none=>
   rw [Option.none_or]
   have h0:=find_none.1 hn
   simp only [List.find?_cons,List.find?_nil]
   cases hp:p n with
   |true=>
    simp only [Option.some.injEq]
    constructor
    ·rintro rfl;exact⟨by omega,hp,h0⟩
    ·rintro ⟨a,b,c⟩
     rcases Nat.lt_or_ge d n with h|h
     ·rw [h0 d h]at b;cases b
     ·omega
   |false=>
    simp only [reduceCtorEq,false_iff]
    rintro ⟨a,b,c⟩
    rcases Nat.lt_or_ge d n with h|h
    ·rw [h0 d h]at b;cases b
    ·have:d=n:=by omega
     subst this;rw [hp]at b;cases b
theorem depth_some {σ:aD} {d:Nat}:σ.depth=some d↔σ.hits d=true/\ ∀i,i<d->σ.hits i=false:=by
 unfold depth;rw [find_some]
 constructor
 ·rintro ⟨_,h⟩;exact h
 ·rintro ⟨h1,h2⟩
  obtain⟨s,hs,h⟩:=cF.1 h1
  exact⟨front_lt hs (by simp only [Bool.and_eq_true]at h;exact h.1),h1,h2⟩
theorem depth_none {σ:aD}:σ.depth=none↔ ∀i,σ.hits i=false:=by
 unfold depth;rw [find_none]
 constructor
 ·intro h i
  cases hh:σ.hits i with
  |false=>rfl
  |true=>
   obtain⟨s,hs,h'⟩:=cF.1 hh
   have:=h i (front_lt hs (by simp only [Bool.and_eq_true]at h';exact h'.1))
   rw [hh]at this;cases this
 ·exact fun h i _=>h i
theorem depth_lt {σ:aD} {d:Nat} (h:σ.depth=some d):d<σ.nLay:=(find_some.1 h).1
def back (σ:aD):Nat->Nat->Bool
 |0=>σ.endsAt
 |i+1=>σ.some_ fun s c=>σ.back i s||(σ.hold c&&σ.leads (σ.back i) c)
def ahead (σ:aD):Nat->Nat->Bool
 |0=>σ.endsAt
 |i+1=>σ.bwd σ.hold (σ.ahead i)
def leastB (n:Nat) (p:Nat->Bool):Nat:=((List.range n).find? p).getD 0
theorem leastB_of {n i:Nat} {p:Nat->Bool} (hi:i<n) (h:p i=true) (hb: ∀j,j<i->p j=false):leastB n p=i:=by
 unfold leastB;rw [find_some.2 ⟨hi,h,hb⟩];rfl
theorem leastB_at {n:Nat} {p:Nat->Bool} (h: ∃i,i<n/\p i=true):leastB n p<n/\p (leastB n p)=true/\ ∀j,j<leastB n p->p j=false:=by
 cases hf:(List.range n).find? p with
 |none=>
  obtain⟨i,hi,hp⟩:=h
  rw [find_none.1 hf i hi]at hp;cases hp
 |some d=>
  have:=find_some.1 hf
  unfold leastB;rw [hf];exact this
def onB (σ:aD) (k:Nat) (c:Nat):Bool:=match k with|0=>σ.ends c|k+1=>σ.hold c&&σ.leads (σ.ahead k) c
def wit (σ:aD):Nat->(Nat->Bool)->List (Nat×Nat)
 |0,fits=>let s:=leastB (2^σ.n) fun s=>fits s&&σ.ahead 0 s;let x:=leastB (2^σ.k) fun x=>σ.onB 0 (σ.at_ s x); [(s,x)]
 |k+1,fits=>let s:=leastB (2^σ.n) fun s=>fits s&&σ.ahead (k+1) s;let x:=leastB (2^σ.k) fun x=>σ.onB (k+1) (σ.at_ s x);(s,x)::σ.wit k (σ.goes (σ.at_ s x))
theorem ahead_on {σ:aD} {k s:Nat}:σ.ahead k s=true↔ ∃x,x<2^σ.k/\σ.onB k (σ.at_ s x)=true:=by
 cases k with
 |zero=>
  show σ.endsAt s=true↔_
  unfold endsAt;rw [some_iff];rfl
 |succ k=>
  show σ.bwd σ.hold (σ.ahead k) s=true↔_
  unfold bwd;rw [some_iff];rfl
theorem onB_next {σ:aD} {k c:Nat} (h:σ.onB (k+1) c=true): ∃t,t<2^σ.n/\(σ.goes c t&&σ.ahead k t)=true:=by
 simp only [onB,Bool.and_eq_true,leads,cF]at h
 obtain⟨_,t,ht,h1,h2⟩:=h
 exact⟨t,ht,by rw [h1,h2];rfl⟩
def run (σ:aD):Nat->Nat->Bool
 |0=>σ.begins
 |i+1=>σ.fwd σ.hold (σ.run i)
theorem fwd_mono {σ:aD} {p q S T:Nat->Bool} (hp: ∀c,c<2^(σ.n+σ.k)->p c=true->q c=true) (hS: ∀s,s<2^σ.n->S s=true->T s=true) {t:Nat} (h:σ.fwd p S t=true):σ.fwd q T t=true:=by
 obtain⟨s,i,hs,hi,a,b,c⟩:=fwd_iff.1 h
 exact fwd_iff.2 ⟨s,i,hs,hi,hS s hs a,hp _ (at_lt hs hi) b,c⟩
theorem front_run (σ:aD): ∀i t,σ.front i t=true->σ.run i t=true:=by
 intro i
 induction i with
 |zero=>exact fun t h=>h
 |succ i ih=>
  intro t h
  rw [front_succ]at h
  simp only [Bool.and_eq_true]at h
  exact fwd_mono (fun _ _ h=>h) (fun s _ h=>ih s h) h.1
theorem run_ahead {σ:aD}: ∀i k,(∃s,s<2^σ.n/\σ.run i s=true/\σ.ahead k s=true)-> ∃s,s<2^σ.n/\(σ.begins s&&σ.ahead (i+k) s)=true:=by
 intro i
 induction i with
 |zero=>
  rintro k ⟨s,hs,h1,h2⟩
  exact⟨s,hs,by rw [Nat.zero_add,h2];simpa [run] using h1⟩
 |succ i ih=>
  rintro k ⟨s,hs,h1,h2⟩
  obtain⟨t,ht,h3,h4⟩:=meet.1 ⟨s,hs,h1,h2⟩
  have:=ih (k+1) ⟨t,ht,h3,h4⟩
  rwa [show i+(k+1)=i+1+k by omega]at this
theorem wit_begins {σ:aD} {d:Nat} (h:σ.depth=some d): ∃s,s<2^σ.n/\(σ.begins s&&σ.ahead d s)=true:=by
 obtain⟨s,hs,h1⟩:=cF.1 (depth_some.1 h).1
 simp only [Bool.and_eq_true]at h1
 exact run_ahead d 0 ⟨s,hs,front_run σ d s h1.1,h1.2⟩
def clean (σ:aD) (c:Nat):Bool:=σ.hold c&& !σ.bad c
def back2 (σ:aD):Nat->Nat->Bool
 |0=>σ.endsAt
 |i+1=>σ.bwd σ.clean (σ.back2 i)
def kind (σ:aD) (k:Nat):Int:=if(match σ.depth with|some d=>decide (d<k)|none=>false)then 1 else if pd (2^σ.n) (σ.back2 k)then 2 else 0
def met (σ:aD) (S:Nat->Bool):Bool:=pd (2^σ.n) fun s=>S s&&σ.endsAt s
theorem seen_fwd {σ:aD} (i t:Nat) (h:σ.fwd σ.hold (σ.seen i) t=true):σ.seen (i+1) t=true:=by
 obtain⟨s,x,hs,hx,h1,h2,h3⟩:=fwd_iff.1 h
 obtain⟨j,hj,h4⟩:=seen_iff.1 h1
 have h5:σ.fwd σ.hold (σ.front j) t=true:=fwd_iff.2 ⟨s,x,hs,hx,h4,h2,h3⟩
 by_cases e:σ.seen (j+1) t=true
 ·obtain⟨q,hq,h6⟩:=seen_iff.1 e
  exact seen_iff.2 ⟨q,by omega,h6⟩
 ·have e':σ.seen (j+1) t=false:=by simpa using e
  exact seen_iff.2 ⟨j+1,by omega,by rw [front_succ,h5,e'];rfl⟩
end aD
theorem Wc {x:Int} {n:Nat} (hn:n<=64):nY x (n:Int)=x/((2^n:Nat):Int):=by
 unfold nY
 have h1:min (Int.toNat (n:Int)) IntKind.i64.bits=n:=by simp [IntKind.bits];omega
 rw [h1,Int.fdiv_eq_ediv_of_nonneg _ (Int.pow_nonneg (by decide))]
 simp
theorem ia {x:Int} {w:Nat} (hw:w<=62):nG x (((2^w:Nat):Int)-1)=((jC w x:Nat):Int):=by
 have h2:=nq hw
 have hp:=bJ w
 have hm:(((2^w:Nat):Int)-1)=((2^w-1:Nat):Int):=by omega
 rw [hm]
 show IntKind.i64.wrap _=_
 have h1:(BitVec.ofInt IntKind.i64.bits x&&&BitVec.ofInt IntKind.i64.bits ((2^w-1:Nat):Int)).toNat=jC w x:=by
  show (BitVec.ofInt 64 x&&&BitVec.ofInt 64 ((2^w-1:Nat):Int)).toNat=jC w x
  rw [BitVec.ofInt_natCast,BitVec.toNat_and,BitVec.toNat_ofNat,BitVec.toNat_ofInt,Nat.mod_eq_of_lt (by omega),Nat.and_two_pow_sub_one_eq_mod]
  have hd:((2^w:Nat):Int)∣((2^64:Nat):Int):=Int.natCast_dvd_natCast.2 (Nat.pow_dvd_pow 2 (by omega))
  have h3:=Int.emod_emod_of_dvd x hd
  have h4:=Int.emod_nonneg x (b:=((2^64:Nat):Int)) (by decide)
  unfold jC
  rw [<-h3]
  generalize x%((2^64:Nat):Int)=y at*
  obtain⟨z,rfl⟩: ∃z:Nat,y=z:=⟨y.toNat,by omega⟩
  rw [<-Int.natCast_emod,Int.toNat_natCast,Int.toNat_natCast]
 rw [h1]
 exact eO (by have:=jJ w x;omega)
theorem Uw {w:Nat} (hw:w<=62):au (-1) (w:Int)= -((2^w:Nat):Int):=by
 have h2:=nq hw
 unfold au
 have h1:min (Int.toNat (w:Int)) IntKind.i64.bits=w:=by simp [IntKind.bits];omega
 rw [h1]
 have h3:(-1:Int)*2^w= -((2^w:Nat):Int):=by simp
 have key: ∀N:Nat,N<=4611686018427387904->W (-(N:Int))= -(N:Int):=fun N h=>bU (by omega) (by omega)
 rw [h3];exact key _ h2
theorem z8 {w:Nat} (hw:w<=16):2^w<=65536:=by
 have:=Nat.pow_le_pow_right (n:=2) (by omega) hw
 simpa using this
theorem j4 {w v:Int}:jd w v=true↔(1<=w/\w<=16)/\0<=v/\v<((2^w.toNat:Nat):Int):=by
 unfold jd
 rw [decide_eq_true_eq]
 constructor
 ·rintro ⟨h1,h2,h3⟩;exact⟨h1,h2,by omega⟩
 ·rintro ⟨h1,h2,h3⟩;exact⟨h1,h2,by omega⟩
theorem dI {h:Hp} {w:Nat} {R:Value->Hp->Prop} (hw:w<=62) (k:R (I (((2^w:Nat):Int)-1)) h):cJ #[I w] h R:=by
 apply NP
 refine uf_ ?_
 have:=nq hw
 have hp:=bJ w
 rw [if_neg (by omega),bK hw,bU (by omega) (by omega)]
 exact k
theorem Bh {h:Hp} {w:Int} {R:Value->Hp->Prop} (k:R (.bool (decide (1<=w/\w<=16))) h):nL #[I w] h R:=by
 apply GH
 refine uf_ ?_
 exact fK ⟨_,rfl,k⟩
theorem wq {h:Hp} {w:Int} {R:Value->Hp->Prop} (k:R (.bool (decide (1<=w/\w<=16))) h):k7 #[I w] h R:=by
 apply Ic
 refine uf_ ?_
 exact dH ⟨_,rfl,k⟩
theorem GK (w v:Int):jd w v=(decide (1<=w/\w<=16)&&decide (0<=v/\v<=((2^w.toNat:Nat):Int)-1)):=by
 unfold jd;rw [Bool.eq_iff_iff];simp
theorem Dk {h:Hp} {w v:Int} {R:Value->Hp->Prop} (k:R (.bool (jd w v)) h):ua #[I w,I v] h R:=by
 apply IR
 refine uf_ ?_
 rw [GK]at k
 refine Bh ⟨_,rfl,ac (fun e=>?_) (fun e=>?_)⟩
 ·rw [e,Bool.true_and]at k
  have e':1<=w/\w<=16:=by simpa using e
  obtain⟨n,rfl⟩: ∃n:Nat,w=n:=⟨w.toNat,by omega⟩
  rw [Int.toNat_natCast]at k
  exact dI (by omega) ⟨_,rfl,fK ⟨_,rfl,k⟩⟩
 ·rw [e,Bool.false_and]at k;exact k
theorem cy {h:Hp} {w v:Int} {R:Value->Hp->Prop} (k:R (.bool (jd w v)) h):du #[I w,I v] h R:=by
 apply I6
 refine uf_ ?_
 rw [GK]at k
 refine wq ⟨_,rfl,ac (fun e=>?_) (fun e=>?_)⟩
 ·rw [e,Bool.true_and]at k
  have e':1<=w/\w<=16:=by simpa using e
  obtain⟨n,rfl⟩: ∃n:Nat,w=n:=⟨w.toNat,by omega⟩
  rw [Int.toNat_natCast]at k
  have:=nq (n:=n) (by omega)
  have hp:=bJ n
  rw [cu (by omega),if_neg (by omega),bK (by omega),bU (by omega) (by omega)]
  exact dH ⟨_,rfl,k⟩
 ·rw [e,Bool.false_and]at k;exact k
def WO (w a:Nat):Prop:=(1<=w/\w<=16)/\a<2^w
theorem WO.ok {w a:Nat} (e:WO w a):jd (w:Int) (a:Int)=true:=j4.2 ⟨by have:=e.1;omega,by omega,by rw [Int.toNat_natCast];have:=e.2;omega⟩
theorem WO.pow {w a:Nat} (e:WO w a):2^w<=65536:=z8 e.1.2
theorem nF {h:Hp} {w a:Nat} {R:Value->Hp->Prop} (e:WO w a) (k:R (I (sgn w a)) h):g9 #[I w,I a] h R:=by
 apply IJ
 refine uf_ ?_
 obtain⟨⟨h1,h2⟩,ha⟩:=e
 have hp:=qr h1
 have h16:=z8 h2
 have w1:W ((w:Int)-1)=((w-1:Nat):Int):=by rw [bU (by omega) (by omega)];omega
 rw [w1,if_neg (by omega),if_neg (by omega),jw (by omega)]
 unfold sgn at k
 by_cases hs:2^(w-1)<=a
 ·have e1:a/2^(w-1)=1:=by rw [Nat.div_eq_iff (bJ _)];omega
  rw [e1,ir (by omega) (by omega),Nat.one_mul,bU (by omega) (by omega)]
  rw [if_pos hs]at k;exact k
 ·have e1:a/2^(w-1)=0:=Nat.div_eq_of_lt (by omega)
  rw [e1,ir (by omega) (by omega),Nat.zero_mul,bU (by omega) (by omega)]
  rw [if_neg hs]at k
  simpa using k
theorem iO {h:Hp} {w a:Nat} {R:Value->Hp->Prop} (e:WO w a) (k:R (I (sgn w a)) h):eA #[I w,I a] h R:=by
 apply Bo
 refine uf_ ?_
 obtain⟨⟨h1,h2⟩,ha⟩:=e
 have hp:=qr h1
 have h16:=z8 h2
 have w1:W ((w:Int)-1)=((w-1:Nat):Int):=by rw [bU (by omega) (by omega)];omega
 refine cy ⟨_,rfl,aE (by rw [WO.ok ⟨⟨h1,h2⟩,ha⟩];rfl) ?_⟩
 rw [w1,cu (by omega),if_neg (by omega),bK (by omega)]
 unfold sgn at k
 refine ac (fun e=>?_) (fun e=>?_)
 ·have hs:2^(w-1)<=a:=by
   have:=of_decide_eq_true e;omega
  rw [if_pos hs]at k
  rw [cu (by omega),if_neg (by omega),bK (by omega),bU (by omega) (by omega)]
  exact k
 ·have hs: ¬2^(w-1)<=a:=by
   have:=of_decide_eq_false e;omega
  rw [if_neg hs]at k;exact k
theorem Ql (w:Nat) (n:Int):((jC w n:Nat):Int)=if Int.tmod n ((2^w:Nat):Int)<0 then Int.tmod n ((2^w:Nat):Int)+((2^w:Nat):Int)else Int.tmod n ((2^w:Nat):Int):=by
 rw [HX]
 have hp:(0:Int)<((2^w:Nat):Int):=Int.ofNat_lt.2 (bJ w)
 have h1:=Int.emod_nonneg n (b:=((2^w:Nat):Int)) (by omega)
 have h2:=Int.emod_lt_of_pos n hp
 have h3:=Int.tmod_eq_emod (a:=n) (b:=((2^w:Nat):Int))
 have h4:n%((2^w:Nat):Int)=0->((2^w:Nat):Int)∣n:=Int.dvd_of_emod_eq_zero
 rw [h3]
 generalize ((2^w:Nat):Int)=N at*
 by_cases hn:0<=n\/N∣n
 ·rw [if_pos hn];split<;>omega
 ·have h5:n%N≠0:=fun e=>hn (.inr (h4 e))
  rw [if_neg hn]
  generalize n%N=r at*
  split<;>omega
theorem hG {h:Hp} {w:Nat} {n:Int} {R:Value->Hp->Prop} (hw:1<=w/\w<=16) (k:R (I (jC w n)) h):dX #[I w,I n] h R:=by
 apply Fl
 refine uf_ ?_
 have h16:=z8 hw.2
 have hp:=bJ w
 have hlt:=jJ w n
 have ht:=Ql w n
 refine wq ⟨_,rfl,aE (by simp;omega) ?_⟩
 rw [cu (by omega),if_neg (by omega),bK (by omega),if_neg (by omega)]
 refine ac (fun e=>?_) (fun e=>?_)
 ·have e':=of_decide_eq_true e
  rw [if_pos e']at ht
  rw [if_neg (by omega),bU (by omega) (by omega),<-ht];exact k
 ·have e':=of_decide_eq_false e
  rw [if_neg e']at ht
  rw [<-ht];exact k
theorem D6 {h:Hp} {w a:Nat} {R:Value->Hp->Prop} (hw:w<=16) (k:R (I (jQ w a)) h):pZ #[I w,I a] h R:=by
 apply I8
 refine uf_ ?_
 refine av w (fun i vs h'=>vs= [I w,I a,I (jQ i a),I i]/\h'=h) ⟨rfl,rfl⟩ ?_
 rintro i _ _ next hi ⟨rfl,rfl⟩ hn
 refine⟨_,_,_,_,rfl,?_⟩
 by_cases hlt:i<w
 ·refine aM (by simp [hlt]) (jn (by omega) ⟨_,rfl,?_⟩)
  have hl:=Nx i a
  have e:W ((jQ i a:Int)+(if a.testBit i then 1 else 0))=((jQ (i+1) a:Nat):Int):=by
   rw [bU (by split<;>omega) (by split<;>omega)]
   simp only [jQ]
   split<;>simp
  rw [e,aC (by omega)]
  exact hn hlt _ _ ⟨rfl,rfl⟩
 ·have:i=w:=by omega
  subst this
  exact aE (by simp) k
theorem OJ {a b:Nat} (ha:a<18446744073709551616) (hb:b<18446744073709551616):aZ .and .u64 (a:Int) (b:Int)=((a&&&b:Nat):Int):=by
 show IntKind.u64.wrap _=_
 have h1:(BitVec.ofInt IntKind.u64.bits (a:Int)&&&BitVec.ofInt IntKind.u64.bits (b:Int)).toNat=a&&&b:=by
  show (BitVec.ofInt 64 (a:Int)&&&BitVec.ofInt 64 (b:Int)).toNat=a&&&b
  rw [BitVec.ofInt_natCast,BitVec.ofInt_natCast,BitVec.toNat_and,BitVec.toNat_ofNat,BitVec.toNat_ofNat,Nat.mod_eq_of_lt (by omega),Nat.mod_eq_of_lt (by omega)]
 rw [h1,IntKind.wrap_u64]
 have:=Nat.and_le_left (n:=a) (m:=b)
 omega
def VN (x:Nat):Nat:=(x/2&&&6148914691236517205)+(x&&&6148914691236517205)
def V8 (x:Nat):Nat:=(x/4&&&3689348814741910323)+(x&&&3689348814741910323)
def Vc (x:Nat):Nat:=(x/16+x)&&&1085102592571150095
def Vr (x:Nat):Nat:=x/256+x
def VI (x:Nat):Nat:=x/65536+x
def WD (x:Nat):Nat:=x/4294967296+x
def Jr (x:Nat):Nat:=WD (VI (Vr (Vc (V8 (VN x)))))&&&127
def Px (x:Nat):Bool:=Nat.beq (Jr (2*x)) (Jr x)&&Nat.beq (Jr (2*x+1)) (Jr x+1)
def Oe (hi:Nat):Nat->Bool
 |0=>true
 |n+1=>Px (hi*256+n)&&Oe hi n
def Rw :Nat->Bool
 |0=>true
 |n+1=>Oe n 256&&Rw n
theorem ZD :Rw 128=true:=by kernel_rfl
theorem WM {hi:Nat}: ∀n,Oe hi n=true-> ∀i,i<n->Px (hi*256+i)=true:=by
 intro n
 induction n with
 |zero=>intro _ i h;omega
 |succ n ih=>
  intro h i hi
  simp only [Oe,Bool.and_eq_true]at h
  by_cases e:i=n
  ·subst e;exact h.1
  ·exact ih h.2 i (by omega)
theorem Vt : ∀n,Rw n=true-> ∀i,i<n->Oe i 256=true:=by
 intro n
 induction n with
 |zero=>intro _ i h;omega
 |succ n ih=>
  intro h i hi
  simp only [Rw,Bool.and_eq_true]at h
  by_cases e:i=n
  ·subst e;exact h.1
  ·exact ih h.2 i (by omega)
theorem Wp {x:Nat} (h:x<32768):Jr (2*x)=Jr x/\Jr (2*x+1)=Jr x+1:=by
 have h1:=Vt 128 ZD (x/256) (by omega)
 have h2:=WM 256 h1 (x%256) (Nat.mod_lt _ (by omega))
 rw [show x/256*256+x%256=x by omega]at h2
 simp only [Px,Bool.and_eq_true]at h2
 exact⟨Nat.eq_of_beq_eq_true h2.1,Nat.eq_of_beq_eq_true h2.2⟩
theorem O9 (a:Nat): ∀w,jQ (w+1) a=a%2+jQ w (a/2):=by
 intro w
 induction w with
 |zero=>
  simp only [jQ,Nat.testBit_zero]
  rcases Nat.mod_two_eq_zero_or_one a with h|h<;>simp [h]
 |succ w ih=>
  rw [jQ,ih,jQ,Nat.testBit_succ];omega
theorem Yp : ∀w,w<=16-> ∀x,x<2^w->Jr x=jQ w x:=by
 intro w
 induction w with
 |zero=>intro _ x hx;have:x=0:=by simpa using hx
        subst this;rfl
 |succ w ih=>
  intro hw x hx
  have h16:2^w<=32768:=by
   have:=Nat.pow_le_pow_right (n:=2) (by omega) (show w<=15 by omega)
   simpa using this
  have hp:2^(w+1)=2*2^w:=by rw [Nat.pow_succ];omega
  have h1:=ih (by omega) (x/2) (by omega)
  have h2:=Wp (x:=x/2) (by omega)
  rw [O9,<-h1]
  rcases Nat.mod_two_eq_zero_or_one x with h|h
  ·have e:2*(x/2)=x:=by omega
   rw [e]at h2;rw [h2.1,h];omega
  ·have e:2*(x/2)+1=x:=by omega
   rw [e]at h2;rw [h2.2,h];omega
theorem Lg {a k:Nat} (hk:k<=64):Int.fdiv (a:Int) (2^(min (Int.toNat (k:Int)) (IntKind.bits .u64)))=((a/2^k:Nat):Int):=by
 have h1:min (Int.toNat (k:Int)) (IntKind.bits .u64)=k:=by simp [IntKind.bits];omega
 rw [h1,Int.fdiv_eq_ediv_of_nonneg _ (Int.pow_nonneg (by decide))]
 simp
def q1 (x:Int):Int:=IntKind.wrap .u64 ((aZ .and .u64 (Int.fdiv x (2^(min (Int.toNat 1) (IntKind.bits .u64)))) 6148914691236517205)+(aZ .and .u64 x 6148914691236517205))
def q2 (x:Int):Int:=IntKind.wrap .u64 ((aZ .and .u64 (Int.fdiv x (2^(min (Int.toNat 2) (IntKind.bits .u64)))) 3689348814741910323)+(aZ .and .u64 x 3689348814741910323))
def q3 (x:Int):Int:=aZ .and .u64 (IntKind.wrap .u64 ((Int.fdiv x (2^(min (Int.toNat 4) (IntKind.bits .u64))))+x)) 1085102592571150095
def q4 (x:Int):Int:=IntKind.wrap .u64 (x+Int.fdiv x (2^(min (Int.toNat 8) (IntKind.bits .u64))))
def q5 (x:Int):Int:=IntKind.wrap .u64 (x+Int.fdiv x (2^(min (Int.toNat 16) (IntKind.bits .u64))))
def q6 (x:Int):Int:=IntKind.wrap .u64 (x+Int.fdiv x (2^(min (Int.toNat 32) (IntKind.bits .u64))))
theorem F7 {h:Hp} {a:Nat} {R:Value->Hp->Prop} (ha:a<65536) (k:R (I (jQ 16 a)) h):kD #[.int .u64 a] h R:=by
 apply xd
 refine uf_ ?_
 apply uD
 refine uf_ ?_
 refine⟨_,rfl,?_⟩
 have e1:q1 a=((VN a:Nat):Int):=by
  have l1:=Nat.and_le_left (n:=a/2) (m:=6148914691236517205)
  have l2:=Nat.and_le_left (n:=a) (m:=6148914691236517205)
  have:=Lg (a:=a) (k:=1) (by omega)
  unfold q1 VN
  rw [show (Int.toNat 1)=Int.toNat ((1:Nat):Int)from rfl,this,Nat.pow_one]
  rw [show (6148914691236517205:Int)=((6148914691236517205:Nat):Int)from rfl,OJ (by omega) (by omega),OJ (by omega) (by omega),<-Int.natCast_add,cu (by omega)]
 have b1:VN a<=98304:=by
  have l1:=Nat.and_le_left (n:=a/2) (m:=6148914691236517205)
  have l2:=Nat.and_le_left (n:=a) (m:=6148914691236517205)
  unfold VN;omega
 have e2: ∀x:Nat,x<=98304->q2 x=((V8 x:Nat):Int)/\V8 x<=196608:=by
  intro x hx
  have l1:=Nat.and_le_left (n:=x/4) (m:=3689348814741910323)
  have l2:=Nat.and_le_left (n:=x) (m:=3689348814741910323)
  have:=Lg (a:=x) (k:=2) (by omega)
  refine⟨?_,by unfold V8;omega⟩
  unfold q2 V8
  rw [show (Int.toNat 2)=Int.toNat ((2:Nat):Int)from rfl,this,show 2^2=4 from rfl]
  rw [show (3689348814741910323:Int)=((3689348814741910323:Nat):Int)from rfl,OJ (by omega) (by omega),OJ (by omega) (by omega),<-Int.natCast_add,cu (by omega)]
 have e3: ∀x:Nat,x<=196608->q3 x=((Vc x:Nat):Int)/\Vc x<=393216:=by
  intro x hx
  have l1:=Nat.and_le_left (n:=x/16+x) (m:=1085102592571150095)
  have:=Lg (a:=x) (k:=4) (by omega)
  refine⟨?_,by unfold Vc;omega⟩
  unfold q3 Vc
  rw [show (Int.toNat 4)=Int.toNat ((4:Nat):Int)from rfl,this,show 2^4=16 from rfl,<-Int.natCast_add,cu (by omega)]
  rw [show (1085102592571150095:Int)=((1085102592571150095:Nat):Int)from rfl,OJ (by omega) (by omega)]
 have e4: ∀x:Nat,x<=393216->q4 x=((Vr x:Nat):Int)/\Vr x<=786432:=by
  intro x hx
  have:=Lg (a:=x) (k:=8) (by omega)
  refine⟨?_,by unfold Vr;omega⟩
  unfold q4 Vr
  rw [show (Int.toNat 8)=Int.toNat ((8:Nat):Int)from rfl,this,show 2^8=256 from rfl,<-Int.natCast_add,cu (by omega),Nat.add_comm]
 have e5: ∀x:Nat,x<=786432->q5 x=((VI x:Nat):Int)/\VI x<=1572864:=by
  intro x hx
  have:=Lg (a:=x) (k:=16) (by omega)
  refine⟨?_,by unfold VI;omega⟩
  unfold q5 VI
  rw [show (Int.toNat 16)=Int.toNat ((16:Nat):Int)from rfl,this,show 2^16=65536 from rfl,<-Int.natCast_add,cu (by omega),Nat.add_comm]
 have e6: ∀x:Nat,x<=1572864->q6 x=((WD x:Nat):Int)/\WD x<=3145728:=by
  intro x hx
  have:=Lg (a:=x) (k:=32) (by omega)
  refine⟨?_,by unfold WD;omega⟩
  unfold q6 WD
  rw [show (Int.toNat 32)=Int.toNat ((32:Nat):Int)from rfl,this,show 2^32=4294967296 from rfl,<-Int.natCast_add,cu (by omega),Nat.add_comm]
 have b2:=(e2 _ b1).2
 have b3:=(e3 _ b2).2
 have b4:=(e4 _ b3).2
 have b5:=(e5 _ b4).2
 have b6:=(e6 _ b5).2
 show R (I (nG (W (q6 (q5 (q4 (q3 (q2 (q1 a))))))) 127)) h
 rw [e1,(e2 _ b1).1,(e3 _ b2).1,(e4 _ b3).1,(e5 _ b4).1,(e6 _ b5).1,eO (by omega),show (127:Int)=((127:Nat):Int)from rfl,sP (by omega) (by omega)]
 have:=Yp 16 (by omega) a (by simpa using ha)
 unfold Jr at this
 rw [this];exact k
theorem Qr {w a:Nat} (ha:a<2^w): ∀d,jQ (w+d) a=jQ w a:=by
 intro d
 induction d with
 |zero=>rfl
 |succ d ih=>
  have hz:a.testBit (w+d)=false:=Nat.testBit_lt_two_pow (Nat.lt_of_lt_of_le ha (Nat.pow_le_pow_right (by omega) (by omega)))
  rw [<-Nat.add_assoc,jQ,ih,hz]
  simp
theorem UW {h:Hp} {kind:Int} {w a:Nat} {R:Value->Hp->Prop} (hk:1<=kind/\kind<=5) (e:WO w a)
  (k:R (.tuple #[I (xi kind w a).1,I (xi kind w a).2]) h):AX #[I kind,I w,I a] h R:=by
 apply P0
 refine uf_ ?_
 have h16:=e.pow
 have hp:=bJ w
 have ha:=e.2
 have hw:=e.1
 unfold xi at k
 refine ac (fun e1=>?_) (fun e1=>ac (fun e2=>?_) (fun e2=>ac (fun e3=>?_) (fun e3=>ac (fun e4=>?_) (fun e4=>?_))))
 ·rw [if_pos (by simpa using e1)]at k
  refine dI (by omega) ⟨_,rfl,?_⟩
  have:W ((((2^w:Nat):Int)-1)-a)=((2^w-1-a:Nat):Int):=by rw [bU (by omega) (by omega)];omega
  rw [this];exact k
 ·rw [if_neg (by simpa using e1),if_pos (by simpa using e2)]at k
  refine dI (by omega) ⟨_,rfl,?_⟩
  rw [bU (n:=0-(a:Int)) (by omega) (by omega),ia (by omega),Int.zero_sub]
  exact k
 ·rw [if_neg (by simpa using e1),if_neg (by simpa using e2),if_pos (by simpa using e3)]at k
  refine xD ⟨_,rfl,?_⟩
  by_cases h0:a=0
  ·subst h0;simpa using k
  ·have:((a:Int) !=0)=true:=by simpa using h0
   rw [this];rw [if_neg h0]at k;simpa using k
 ·rw [if_neg (by simpa using e1),if_neg (by simpa using e2),if_neg (by simpa using e3),if_pos (by simpa using e4)]at k
  refine dI (by omega) ⟨_,rfl,xD ⟨_,rfl,?_⟩⟩
  by_cases h0:a=2^w-1
  ·have:((a:Int)==((2^w:Nat):Int)-1)=true:=by rw [beq_iff_eq];omega
   rw [this];rw [if_pos h0]at k;simpa using k
  ·have:((a:Int)==((2^w:Nat):Int)-1)=false:=by rw [beq_eq_false_iff_ne];omega
   rw [this];rw [if_neg h0]at k;simpa using k
 ·rw [if_neg (by simpa using e1),if_neg (by simpa using e2),if_neg (by simpa using e3),if_neg (by simpa using e4)]at k
  rw [cu (by omega)]
  refine F7 (by omega) ⟨_,rfl,?_⟩
  have:=Qr ha (16-w)
  rw [show w+(16-w)=16 by omega]at this
  rw [this,HE];exact k
theorem Cc {h:Hp} {kind:Int} {w a:Nat} {R:Value->Hp->Prop} (hk:1<=kind/\kind<=5) (e:WO w a)
  (k:R (.tuple #[I (xi kind w a).1,I (xi kind w a).2, .bool true]) h):nQ #[I kind,I w,I a] h R:=by
 apply G0
 refine uf_ ?_
 have h16:=e.pow
 have hp:=bJ w
 have ha:=e.2
 have hw:=e.1
 unfold xi at k
 refine cy ⟨_,rfl,aE (by rw [e.ok];rfl) ?_⟩
 refine ac (fun e1=>?_) (fun e1=>ac (fun e2=>?_) (fun e2=>ac (fun e3=>?_) (fun e3=>ac (fun e4=>?_) (fun e4=>?_))))
 ·rw [if_pos (by simpa using e1)]at k
  rw [cu (by omega),if_neg (by omega),bK (by omega),bU (n:=((2^w:Nat):Int)-1) (by omega) (by omega)]
  have:W ((((2^w:Nat):Int)-1)-a)=((2^w-1-a:Nat):Int):=by rw [bU (by omega) (by omega)];omega
  rw [this];exact k
 ·rw [if_neg (by simpa using e1),if_pos (by simpa using e2)]at k
  rw [bU (n:=0-(a:Int)) (by omega) (by omega),Int.zero_sub]
  exact hG hw ⟨_,rfl,k⟩
 ·rw [if_neg (by simpa using e1),if_neg (by simpa using e2),if_pos (by simpa using e3)]at k
  refine pw ⟨_,rfl,?_⟩
  by_cases h0:a=0
  ·subst h0;simpa using k
  ·have:decide ((a:Int)>0)=true:=by simp;omega
   rw [this];rw [if_neg h0]at k;simpa using k
 ·rw [if_neg (by simpa using e1),if_neg (by simpa using e2),if_neg (by simpa using e3),if_pos (by simpa using e4)]at k
  refine D6 (by omega) ⟨_,rfl,pw ⟨_,rfl,?_⟩⟩
  have hf:=Pt ha
  by_cases h0:a=2^w-1
  ·have:(((jQ w a:Nat):Int)==(w:Int))=true:=by rw [beq_iff_eq,hf.2 h0]
   rw [this];rw [if_pos h0]at k;simpa using k
  ·have:(((jQ w a:Nat):Int)==(w:Int))=false:=by rw [beq_eq_false_iff_ne];intro he;exact h0 (hf.1 (by omega))
   rw [this];rw [if_neg h0]at k;simpa using k
 ·rw [if_neg (by simpa using e1),if_neg (by simpa using e2),if_neg (by simpa using e3),if_neg (by simpa using e4)]at k
  have:kind=5:=by
   have h1:kind≠1:=by simpa using e1
   have h2:kind≠2:=by simpa using e2
   have h3:kind≠3:=by simpa using e3
   have h4:kind≠4:=by simpa using e4
   omega
  refine aM (by simpa using this) (D6 (by omega) ⟨_,rfl,?_⟩)
  rw [HE];exact k
theorem eU (a b:Nat):Int.tmod (a:Int) (b:Int)=((a%b:Nat):Int):=(Int.ofNat_tmod a b).symm
theorem He (a b:Nat):Int.tdiv (a:Int) (b:Int)=((a/b:Nat):Int):=(Int.ofNat_tdiv a b).symm
theorem D9 {a b:Nat} (ha:a<65536) (hb:b<=65536):a*b<=4294967296:=by
 have:=Nat.mul_le_mul (Nat.le_of_lt ha) hb
 omega
theorem D5 {w a:Nat} (e:WO w a): -65536<=sgn w a/\sgn w a<=65536:=by
 have h:=KD e.1.1 e.2
 have hp:=qr e.1.1
 have h16:=e.pow
 omega
theorem bk {a b:Int} (e:(a==b)=false): ¬a=b:=by simpa using e
theorem bV {a b:Int} (e:(a==b)=true):a=b:=by simpa using e
theorem EB {h:Hp} {w a p:Nat} {R:Value->Hp->Prop} (e:WO w a) (k:R (I (Ie w a (p%w))) h):qa #[I w,I a,I p] h R:=by
 apply IM
 refine uf_ ?_
 obtain⟨⟨h1,h2⟩,ha⟩:=e
 have h16:=z8 h2
 have hm:p%w<w:=Nat.mod_lt _ (by omega)
 have hpm:=z8 (w:=p%w) (by omega)
 have ht:Int.tmod (p:Int) (w:Int)=((p%w:Nat):Int):=eU p w
 have hw:W ((w:Int)-((p%w:Nat):Int))=((w-p%w:Nat):Int):=by rw [bU (by omega) (by omega)];omega
 have hmul:=D9 (a:=a) (b:=2^(p%w)) (by omega) hpm
 rw [if_neg (by omega),ht,if_neg (by omega),hw,if_neg (by omega)]
 refine dI (by omega) ⟨_,rfl,?_⟩
 have hd:a/2^(w-p%w)<=a:=Nat.div_le_self _ _
 rw [ir (by omega) (by omega),jw (by omega),Bs (by omega) (by omega),ia (by omega),pz]
 exact k
theorem Mv {h:Hp} {kind:Int} {w a b:Nat} {R:Value->Hp->Prop} (hk:kind=14\/kind=15) (ea:WO w a) (eb:WO w b)
  (k:R (I ((if kind=14 then JM w a b else KR w a b:Nat):Int)) h):sf #[I kind,I w,I a,I b] h R:=by
 apply H7
 refine uf_ ?_
 have h16:=ea.pow
 have hp:=bJ w
 have sa:=D5 ea
 have sb:=D5 eb
 have hw:=ea.1
 refine nF ea ⟨_,rfl,nF eb ⟨_,rfl,?_⟩⟩
 unfold JM KR at k
 by_cases hy:sgn w b=0
 ·rw [if_pos hy,if_pos hy]at k
  rw [hy]
  refine ap (fun J=>J (decide (kind=15))) ?_ (fun J hJ=>aM rfl (by rw [show (kind==15)=decide (kind=15)from rfl];exact hJ))
  refine ac (fun e=>?_) (fun e=>?_)
  ·have e':kind=15:=by simpa using e
   rw [if_neg (by omega)]at k;exact k
  ·have e':kind=14:=by have: ¬kind=15:=by simpa using e
                       omega
   rw [if_pos e']at k
   refine ap (fun J=>J (decide (sgn w a<0))) ?_ (fun J hJ=>aM rfl hJ)
   refine ac (fun e=>?_) (fun e=>aM rfl (dI (by omega) ⟨_,rfl,?_⟩))
   ·rw [if_pos (by simpa using e)]at k;exact k
   ·rw [if_neg (by simpa using e)]at k
    have:((2^w-1:Nat):Int)=((2^w:Nat):Int)-1:=by omega
    rw [<-this];exact k
 ·rw [if_neg hy,if_neg hy]at k
  have hyb:(sgn w b==0)=false:=by simpa using hy
  refine ap (fun J=>J false) ?_ (fun J hJ=>aE hyb hJ)
  refine aE rfl (ap (fun J=>J false) ?_ (fun J hJ=>aE hyb hJ))
  refine aE rfl (aE hyb ?_)
  have hdiv:(Int.tdiv (sgn w a) (sgn w b)).natAbs<=65536:=by
   rw [Int.natAbs_tdiv]
   exact Nat.le_trans (Nat.div_le_self _ _) (by omega)
  refine ac (fun e=>?_) (fun e=>?_)
  ·rw [if_pos (by simpa using e)]at k
   rw [if_neg hy]
   refine dI (by omega) ⟨_,rfl,?_⟩
   rw [bU (by omega) (by omega),ia (by omega)];exact k
  ·rw [if_neg (by simpa using e)]at k
   rw [if_neg hy]
   refine dI (by omega) ⟨_,rfl,?_⟩
   rw [ia (by omega)];exact k
def Du (kind:Int) (w a b:Nat):Nat:=if kind=16 then YH w a b else if kind=17 then YW w a b else Yq w a b
theorem Li {h:Hp} {kind:Int} {w a b:Nat} {R:Value->Hp->Prop} (ea:WO w a) (hb:b<=65536)
  (k:R (I (Du kind w a b)) h):sF #[I kind,I w,I a,I b] h R:=by
 apply Ia
 refine uf_ ?_
 have h16:=ea.pow
 have ha:=ea.2
 have hw:=ea.1
 have hmin:(if(w:Int)<(b:Int)then(w:Int)else(b:Int))=((min b w:Nat):Int):=by
  by_cases h:w<b
  ·rw [if_pos (by omega),Nat.min_eq_right (by omega)]
  ·rw [if_neg (by omega),Nat.min_eq_left (by omega)]
 have hm:min b w<=w:=Nat.min_le_right _ _
 have hpm:=z8 (w:=min b w) (by omega)
 have hmul:=D9 (a:=a) (b:=2^min b w) (by omega) hpm
 unfold Du at k
 rw [hmin]
 refine ac (fun e=>?_) (fun e=>ac (fun e2=>?_) (fun e2=>?_))
 ·rw [if_pos (bV e)]at k
  rw [if_neg (by omega)]
  refine dI (by omega) ⟨_,rfl,?_⟩
  rw [ir (by omega) (by omega),ia (by omega),pz];exact k
 ·rw [if_neg (bk e),if_pos (bV e2)]at k
  rw [if_neg (by omega),jw (by omega)];exact k
 ·rw [if_neg (bk e),if_neg (bk e2)]at k
  refine nF ea ⟨_,rfl,?_⟩
  rw [if_neg (by omega)]
  refine dI (by omega) ⟨_,rfl,?_⟩
  rw [Wc (by omega),ia (by omega)];exact k
theorem I0 {h:Hp} {kind:Int} {w a b:Nat} {R:Value->Hp->Prop} (hk:21<=kind/\kind<=28) (ea:WO w a) (eb:WO w b)
  (k:R (.bool (EA kind w a b)) h):ri #[I kind,I w,I a,I b] h R:=by
 apply EU
 refine uf_ ?_
 have h16:=ea.pow
 have hp:=bJ w
 have sa:=D5 ea
 have sb:=D5 eb
 have ha:=ea.2
 have hb:=eb.2
 have hw:=ea.1
 unfold EA at k
 have dd: ∀{p q:Prop} [Decidable p] [Decidable q],(p↔q)->decide p=decide q:=fun h=>by rw [decide_eq_decide];exact h
 refine nF ea ⟨_,rfl,nF eb ⟨_,rfl,?_⟩⟩
 refine ac (fun e1=>?_) (fun e1=>ac (fun e2=>?_) (fun e2=>ac (fun e3=>?_) (fun e3=>ac (fun e4=>?_) (fun e4=>ac (fun e5=>?_) (fun e5=>ac (fun e6=>?_) (fun e6=>ac (fun e7=>?_) (fun e7=>?_)))))))
 ·rw [if_pos (bV e1)]at k
  have:((a:Int)==(b:Int))=decide (a=b):=by rw [Bool.eq_iff_iff];simp;omega
  rw [this];exact k
 all_goals rw [if_neg (bk e1)]at k
 ·rw [if_pos (bV e2)]at k
  rw [dd (p:=(a:Int)<(b:Int)) (q:=a<b) (by omega)];exact k
 all_goals rw [if_neg (bk e2)]at k
 ·rw [if_pos (bV e3)]at k;exact k
 all_goals rw [if_neg (bk e3)]at k
 ·rw [if_pos (bV e4)]at k
  rw [dd (p:=(a:Int)<=(b:Int)) (q:=a<=b) (by omega)];exact k
 all_goals rw [if_neg (bk e4)]at k
 ·rw [if_pos (bV e5)]at k;exact k
 all_goals rw [if_neg (bk e5)]at k
 ·rw [if_pos (bV e6)]at k
  refine dI (by omega) ⟨_,rfl,?_⟩
  rw [bU (by omega) (by omega),dd (p:=(a:Int)+(b:Int)>((2^w:Nat):Int)-1) (q:=2^w<=a+b) (by omega)];exact k
 all_goals rw [if_neg (bk e6)]at k
 ·rw [if_pos (bV e7)]at k
  have w1:W ((w:Int)-1)=((w-1:Nat):Int):=by rw [bU (by omega) (by omega)];omega
  have hpp:=qr hw.1
  rw [w1,if_neg (by omega),if_neg (by omega),Uw (by omega),bK (by omega),bU (n:=sgn w a+sgn w b) (by omega) (by omega),bU (n:=((2^(w-1):Nat):Int)-1) (by omega) (by omega)]
  refine fK ⟨_,rfl,?_⟩
  rw [dd (p:= -((2^(w-1):Nat):Int)<=sgn w a+sgn w b/\sgn w a+sgn w b<=((2^(w-1):Nat):Int)-1) (q:= -((2^(w-1):Nat):Int)<=sgn w a+sgn w b/\sgn w a+sgn w b<((2^(w-1):Nat):Int)) (by omega)]
  exact k
 ·rw [if_neg (bk e7)]at k
  have hmul:=D9 (a:=a) (b:=b) (by omega) (by omega)
  have hmi:(a:Int)*(b:Int)=((a*b:Nat):Int):=(Int.natCast_mul _ _).symm
  refine dI (by omega) ⟨_,rfl,?_⟩
  rw [hmi]
  generalize a*b=ab at*
  rw [eO (by omega),dd (p:=(ab:Int)>((2^w:Nat):Int)-1) (q:=2^w<=ab) (by omega)];exact k
theorem Vs {h:Hp} {kind:Int} {w a b:Nat} {R:Value->Hp->Prop} (hk:6<=kind/\kind<=28) (ea:WO w a) (eb:WO w b)
  (k:R (.tuple #[I (td kind w a b).1,I (td kind w a b).2]) h):Am #[I kind,I w,I a,I b] h R:=by
 apply Pm
 refine uf_ ?_
 have h16:=ea.pow
 have hp:=bJ w
 have ha:=ea.2
 have hb:=eb.2
 have hw:=ea.1
 have hand:a&&&b<=a:=Nat.and_le_left
 have hmul:=D9 (a:=a) (b:=b) (by omega) (by omega)
 by_cases h20:kind<=20
 rotate_left
 ·have t:td kind w a b=(if EA kind w a b then 1 else 0,1):=by unfold td;rw [if_neg h20]
  rw [t]at k
  have nb: ∀n:Int,n<=20->(kind==n)=false:=fun n hn=>by rw [beq_eq_false_iff_ne];omega
  refine aE (nb _ (by omega)) (aE (nb _ (by omega)) (aE (nb _ (by omega)) (aE (nb _ (by omega)) (aE (nb _ (by omega)) (aE (nb _ (by omega)) (aE (nb _ (by omega)) (aE (nb _ (by omega)) ?_)))))))
  refine ap (fun J=>J false) ?_ (fun J hJ=>aE (nb _ (by omega)) (by rw [nb 15 (by omega)];exact hJ))
  refine aE rfl (ap (fun J=>J false) ?_ (fun J hJ=>aE (nb _ (by omega)) (aE (nb _ (by omega)) (by rw [nb 18 (by omega)];exact hJ))))
  refine aE rfl (aE (nb _ (by omega)) (aE (nb _ (by omega)) ?_))
  refine I0 (by omega) ea eb ⟨_,rfl,xD ⟨_,rfl,?_⟩⟩
  cases hs:EA kind w a b
  ·rw [hs]at k;simpa using k
  ·rw [hs]at k;simpa using k
 have t:td kind w a b=(Gu kind w a b,w):=by unfold td;rw [if_pos h20]
 rw [t]at k
 unfold Gu at k
 simp only at k
 refine ac (fun e=>?_) (fun e6=>?_)
 ·rw [if_pos (bV e)]at k;rw [sP (by omega) (by omega)];exact k
 rw [if_neg (bk e6)]at k
 refine ac (fun e=>?_) (fun e7=>?_)
 ·rw [if_pos (bV e)]at k;rw [Bs (by omega) (by omega)];exact k
 rw [if_neg (bk e7)]at k
 refine ac (fun e=>?_) (fun e8=>?_)
 ·rw [if_pos (bV e)]at k;rw [OG (by omega) (by omega)];exact k
 rw [if_neg (bk e8)]at k
 refine ac (fun e=>?_) (fun e9=>?_)
 ·rw [if_pos (bV e)]at k
  refine dI (by omega) ⟨_,rfl,?_⟩
  rw [bU (by omega) (by omega),ia (by omega)];exact k
 rw [if_neg (bk e9)]at k
 refine ac (fun e=>?_) (fun e10=>?_)
 ·rw [if_pos (bV e)]at k
  refine dI (by omega) ⟨_,rfl,?_⟩
  rw [bU (by omega) (by omega),ia (by omega)];exact k
 rw [if_neg (bk e10)]at k
 refine ac (fun e=>?_) (fun e11=>?_)
 ·rw [if_pos (bV e)]at k
  refine dI (by omega) ⟨_,rfl,?_⟩
  have hmi:(a:Int)*(b:Int)=((a*b:Nat):Int):=(Int.natCast_mul _ _).symm
  rw [hmi]at k⊢
  generalize a*b=ab at*
  rw [eO (by omega),ia (by omega)];exact k
 rw [if_neg (bk e11)]at k
 refine ac (fun e=>?_) (fun e12=>?_)
 ·rw [if_pos (bV e)]at k
  refine dI (by omega) ⟨_,rfl,ac (fun eb0=>?_) (fun eb0=>?_)⟩
  ·have hb0: ¬b=0:=by have:=of_decide_eq_true eb0;omega
   rw [if_neg hb0]at k
   have hd:=Nat.div_le_self a b
   rw [if_neg (by omega),He,eO (by omega)];exact k
  ·have hb0:b=0:=by have:=of_decide_eq_false eb0;omega
   rw [if_pos hb0]at k
   have:((2^w-1:Nat):Int)=((2^w:Nat):Int)-1:=by omega
   rw [<-this];exact k
 rw [if_neg (bk e12)]at k
 refine ac (fun e=>?_) (fun e13=>?_)
 ·rw [if_pos (bV e)]at k
  refine ac (fun eb0=>?_) (fun eb0=>?_)
  ·have hb0: ¬b=0:=by have:=of_decide_eq_true eb0;omega
   rw [if_neg hb0]at k
   rw [if_neg (by omega),eU];exact k
  ·have hb0:b=0:=by have:=of_decide_eq_false eb0;omega
   rw [if_pos hb0]at k;exact k
 rw [if_neg (bk e13)]at k
 refine ap (fun J=>J (decide (kind=14\/kind=15))) ?_ ?_
 rotate_left
 ·intro J hJ
  refine ac (fun e=>?_) (fun e=>?_)
  ·rw [decide_eq_true (.inl (bV e))]at hJ;exact hJ
  ·have:(kind==15)=decide (kind=14\/kind=15):=by
    have:=bk e
    rw [Bool.eq_iff_iff];simp [this]
   rw [this];exact hJ
 refine ac (fun e=>?_) (fun e1415=>?_)
 ·have e':kind=14\/kind=15:=by simpa using e
  refine Mv e' ea eb ⟨_,rfl,?_⟩
  rcases e' with rfl|rfl
  ·simpa using k
  ·simpa using k
 have n14: ¬kind=14/\ ¬kind=15:=by simpa using e1415
 rw [if_neg n14.1,if_neg n14.2]at k
 refine ap (fun J=>J (decide (kind=16\/kind=17\/kind=18))) ?_ ?_
 rotate_left
 ·intro J hJ
  refine ac (fun e=>?_) (fun e=>ac (fun e2=>?_) (fun e2=>?_))
  ·rw [decide_eq_true (.inl (bV e))]at hJ;exact hJ
  ·rw [decide_eq_true (.inr (.inl (bV e2)))]at hJ;exact hJ
  ·have:(kind==18)=decide (kind=16\/kind=17\/kind=18):=by
    have h1:=bk e
    have h2:=bk e2
    rw [Bool.eq_iff_iff];simp [h1,h2]
   rw [this];exact hJ
 refine ac (fun e=>?_) (fun e1618=>?_)
 ·have e':kind=16\/kind=17\/kind=18:=by simpa using e
  refine Li ea (by omega) ⟨_,rfl,?_⟩
  unfold Du
  rcases e' with rfl|rfl|rfl
  ·simpa using k
  ·simpa using k
  ·simpa using k
 have n16: ¬kind=16/\ ¬kind=17/\ ¬kind=18:=by simpa using e1618
 rw [if_neg n16.1,if_neg n16.2.1,if_neg n16.2.2]at k
 refine ac (fun e=>?_) (fun e19=>?_)
 ·rw [if_pos (bV e)]at k
  exact EB ea ⟨_,rfl,k⟩
 rw [if_neg (bk e19)]at k
 have h20':kind=20:=by
  have:=bk e6;have:=bk e7;have:=bk e8;have:=bk e9;have:=bk e10;have:=bk e11;have:=bk e12;have:=bk e13;have:=bk e19
  omega
 refine aM (by simpa using h20') ?_
 have hm:b%w<w:=Nat.mod_lt _ (by omega)
 have hw2:W ((w:Int)-((b%w:Nat):Int))=((w-b%w:Nat):Int):=by rw [bU (by omega) (by omega)];omega
 rw [if_neg (by omega),eU,hw2]
 exact EB ea ⟨_,rfl,k⟩
def H5 (kind:Int) (x y:Bool):Bool:=if kind=8 then x^^y else if kind=7 then x||y else x&&y
theorem Mq {c:Bool} {n:Nat} (hn:n<=62):au (if c then 1 else 0) (n:Int)=((if c then 2^n else 0:Nat):Int):=by
 cases c
 ·have:=ir (a:=0) (n:=n) (by omega) (by omega);simpa using this
 ·have:=bK hn;simpa using this
theorem Kh {i:Nat} {f:Nat->Bool} {c:Bool} (hi:i<=60) (hc:c=f i):W ((cV i f:Int)+((if c then 2^i else 0:Nat):Int))=((cV (i+1) f:Nat):Int):=by
 have h1:=rZ i f
 have h2:=nq (n:=i) (by omega)
 subst hc
 simp only [cV]
 rw [bU (by split<;>omega) (by split<;>omega)]
 omega
theorem N8 {h:Hp} {kind:Int} {w a b:Nat} {R:Value->Hp->Prop} (hw:w<=16)
  (k:R (I (cV w fun i=>H5 kind (a.testBit i) (b.testBit i))) h):ud #[I kind,I w,I a,I b] h R:=by
 apply I4
 refine uf_ ?_
 refine av w (fun i vs h'=>vs= [I kind,I w,I a,I b,I (cV i fun i=>H5 kind (a.testBit i) (b.testBit i)),I i]/\h'=h) ⟨rfl,rfl⟩ ?_
 rintro i _ _ next hi ⟨rfl,rfl⟩ hn
 refine⟨_,_,_,_,_,_,rfl,?_⟩
 by_cases hlt:i<w
 ·refine aM (by simp [hlt]) (jn (by omega) ⟨_,rfl,jn (by omega) ⟨_,rfl,?_⟩⟩)
  have hn':=hn hlt _ _ ⟨rfl,rfl⟩
  generalize hx:a.testBit i=x at*
  generalize hy:b.testBit i=y at*
  refine ap (fun J=>J (if kind=7 then(if x||y then 1 else 0)else(if x&&y then 1 else 0))) ?_ ?_
  ·refine ap (fun J=>J (if H5 kind x y then 1 else 0)) ?_ ?_
   ·rw [cu (by omega),if_neg (by omega),Mq (by omega),Kh (by omega) (by rw [hx,hy]),aC (by omega)]
    exact hn'
   ·intro J hJ
    refine ac (fun e=>?_) (fun e=>?_)
    ·have:H5 kind x y=(x^^y):=by unfold H5;rw [if_pos (bV e)]
     rw [this]at hJ
     revert hJ;cases x<;>cases y<;>exact id
    ·have:H5 kind x y=if kind=7 then x||y else x&&y:=by unfold H5;rw [if_neg (bk e)]
     rw [this]at hJ
     by_cases h7:kind=7
     ·rw [if_pos h7]at hJ⊢;exact hJ
     ·rw [if_neg h7]at hJ⊢;exact hJ
  ·intro J hJ
   refine ac (fun e=>?_) (fun e=>?_)
   ·rw [if_pos (bV e)]at hJ
    revert hJ;cases x<;>cases y<;>exact id
   ·rw [if_neg (bk e)]at hJ
    revert hJ;cases x<;>cases y<;>exact id
 ·have:i=w:=by omega
  subst this
  exact aE (by simp) k
theorem Qf {h:Hp} {kind:Int} {w a b:Nat} {R:Value->Hp->Prop} (ea:WO w a) (eb:WO w b)
  (k:R (I ((if kind=12 then(if b=0 then 2^w-1 else a/b)else if b=0 then a else a%b:Nat))) h):vO #[I kind,I w,I a,I b] h R:=by
 apply Ly
 refine uf_ ?_
 have h16:=ea.pow
 have hp:=bJ w
 have ha:=ea.2
 have hw:=ea.1
 refine ac (fun e=>?_) (fun e=>?_)
 ·rw [if_pos (bV e)]at k
  refine ac (fun e0=>?_) (fun e0=>?_)
  ·have hb0:b=0:=by have:=bV e0;omega
   rw [if_pos hb0]at k
   rw [cu (by omega),if_neg (by omega),bK (by omega),bU (by omega) (by omega)]
   have:((2^w-1:Nat):Int)=((2^w:Nat):Int)-1:=by omega
   rw [<-this];exact k
  ·have hb0: ¬b=0:=by have:=bk e0;omega
   rw [if_neg hb0]at k
   have hd:=Nat.div_le_self a b
   rw [if_neg (by omega),He,eO (by omega)];exact k
 ·rw [if_neg (bk e)]at k
  refine ac (fun e0=>?_) (fun e0=>?_)
  ·have hb0:b=0:=by have:=bV e0;omega
   rw [if_pos hb0]at k;exact k
  ·have hb0: ¬b=0:=by have:=bk e0;omega
   rw [if_neg hb0]at k
   rw [if_neg (by omega),eU];exact k
theorem Np {h:Hp} {kind:Int} {w a b:Nat} {R:Value->Hp->Prop} (hk:kind=14\/kind=15) (ea:WO w a) (eb:WO w b)
  (k:R (I ((if kind=14 then JM w a b else KR w a b:Nat):Int)) h):um #[I kind,I w,I a,I b] h R:=by
 apply I1
 refine uf_ ?_
 have h16:=ea.pow
 have hp:=bJ w
 have sa:=D5 ea
 have sb:=D5 eb
 have hw:=ea.1
 refine iO ea ⟨_,rfl,iO eb ⟨_,rfl,?_⟩⟩
 unfold JM KR at k
 refine ac (fun e=>?_) (fun e=>?_)
 ·have e':=bV e
  rw [if_neg (by omega)]at k
  refine ac (fun e0=>?_) (fun e0=>?_)
  ·rw [if_pos (bV e0)]at k;exact k
  ·rw [if_neg (bk e0)]at k
   rw [if_neg (bk e0)]
   exact hG hw ⟨_,rfl,k⟩
 ·have e':kind=14:=by have:=bk e;omega
  rw [if_pos e']at k
  by_cases hy:sgn w b=0
  ·rw [if_pos hy]at k
   have hyb:(sgn w b==0)=true:=by simpa using hy
   refine ap (fun J=>J (decide (sgn w a<0))) ?_ (fun J hJ=>aM hyb hJ)
   refine ac (fun e=>?_) (fun e=>aM hyb ?_)
   ·rw [if_pos (of_decide_eq_true e)]at k;exact k
   ·rw [if_neg (of_decide_eq_false e)]at k
    rw [cu (by omega),if_neg (by omega),bK (by omega),bU (by omega) (by omega)]
    have:((2^w-1:Nat):Int)=((2^w:Nat):Int)-1:=by omega
    rw [<-this];exact k
  ·rw [if_neg hy]at k
   have hyb:(sgn w b==0)=false:=by simpa using hy
   refine ap (fun J=>J false) ?_ (fun J hJ=>aE hyb hJ)
   refine aE rfl (aE hyb ?_)
   have hdiv:(Int.tdiv (sgn w a) (sgn w b)).natAbs<=65536:=by
    rw [Int.natAbs_tdiv]
    exact Nat.le_trans (Nat.div_le_self _ _) (by omega)
   rw [if_neg hy,bU (by omega) (by omega)]
   exact hG hw ⟨_,rfl,k⟩
theorem L4 {h:Hp} {kind:Int} {w a b:Nat} {R:Value->Hp->Prop} (hk:kind=16\/kind=17\/kind=18) (ea:WO w a) (hb:b<=65536)
  (k:R (I (Du kind w a b)) h):oQ #[I kind,I w,I a,I b] h R:=by
 have hw:=ea.1
 have key: ∀f:Nat->Bool,cV w f=Du kind w a b->
   (∀i,i<w->f i=if kind=16 then decide (b<=i)&&a.testBit (i-b)else if kind=17 then decide (i+b<w)&&a.testBit (i+b)else if i+b<w then a.testBit (i+b)else a.testBit (w-1))->
   oQ #[I kind,I w,I a,I b] h R:=by
  intro f hcode hf
  apply Ik
  refine uf_ ?_
  refine av w (fun i vs h'=>vs= [I kind,I w,I a,I b,I (cV i f),I i]/\h'=h) ⟨rfl,rfl⟩ ?_
  rintro i _ h' next hi ⟨rfl,rfl⟩ hn
  refine⟨_,_,_,_,_,_,rfl,?_⟩
  by_cases hlt:i<w
  ·refine aM (by simp [hlt]) ?_
   have hn':=hn hlt _ _ ⟨rfl,rfl⟩
   have hfi:=hf i hlt
   refine ap (fun J=>J (if kind=16 then(i:Int)-b else(i:Int)+b)) ?_ ?_
   ·refine ap (fun J=>J (decide (0<=(if kind=16 then(i:Int)-b else(i:Int)+b)/\(if kind=16 then(i:Int)-b else(i:Int)+b)<w))) ?_ ?_
    ·refine ap (fun J=>J (if f i then 1 else 0) h') ?_ ?_
     ·rw [cu (by omega),if_neg (by omega),Mq (by omega),Kh (by omega) rfl,aC (by omega)]
      exact hn'
     ·intro J hJ
      refine ac (fun e=>?_) (fun e=>?_)
      ·have e':=of_decide_eq_true e
       by_cases h16:kind=16
       ·rw [if_pos h16]at e' hfi⊢
        rw [show (i:Int)-b=((i-b:Nat):Int) by omega]
        refine jn (by omega) ⟨_,rfl,?_⟩
        rw [hfi]at hJ
        have:decide (b<=i)=true:=by simp;omega
        rw [this,Bool.true_and]at hJ;exact hJ
       ·rw [if_neg h16]at e' hfi⊢
        rw [show (i:Int)+b=((i+b:Nat):Int) by omega]
        refine jn (by omega) ⟨_,rfl,?_⟩
        have h1:decide (i+b<w)=true:=by simp;omega
        rw [h1,Bool.true_and,if_pos (show i+b<w by omega),ite_self]at hfi
        rw [hfi]at hJ;exact hJ
      ·have e':=of_decide_eq_false e
       refine ac (fun e2=>?_) (fun e2=>?_)
       ·have h18:=bV e2
        rw [if_neg (by omega)]at e'
        rw [if_neg (by omega),if_neg (by omega),if_neg (by omega)]at hfi
        rw [show W ((w:Int)-1)=((w-1:Nat):Int) by rw [bU (by omega) (by omega)];omega]
        refine jn (by omega) ⟨_,rfl,?_⟩
        rw [hfi]at hJ;exact hJ
       ·have h18:=bk e2
        have:f i=false:=by
         rw [hfi]
         by_cases h16:kind=16
         ·rw [if_pos h16]at e'⊢
          have:decide (b<=i)=false:=by simp;omega
          rw [this,Bool.false_and]
         ·rw [if_neg h16]at e'⊢
          rw [if_pos (by omega)]
          have:decide (i+b<w)=false:=by simp;omega
          rw [this,Bool.false_and]
        rw [this]at hJ
        exact hJ
    ·intro J hJ
     generalize (if kind=16 then(i:Int)-b else(i:Int)+b)=z at*
     refine ac (fun e=>?_) (fun e=>?_)
     ·have:0<=z:=of_decide_eq_true e
      rw [show decide (0<=z/\z<(w:Int))=decide (z<(w:Int)) by rw [decide_eq_decide];omega]at hJ;exact hJ
     ·have: ¬0<=z:=of_decide_eq_false e
      rw [show decide (0<=z/\z<(w:Int))=false by rw [decide_eq_false_iff_not];omega]at hJ;exact hJ
   ·intro J hJ
    refine ac (fun e=>?_) (fun e=>?_)
    ·rw [if_pos (bV e)]at hJ;rw [bU (by omega) (by omega)];exact hJ
    ·rw [if_neg (bk e)]at hJ;rw [bU (by omega) (by omega)];exact hJ
  ·have:i=w:=by omega
   subst this
   refine aE (by simp) ?_
   rw [hcode];exact k
 rcases hk with rfl|rfl|rfl
 ·exact key (fun i=>decide (b<=i)&&a.testBit (i-b)) WE (fun i _=>rfl)
 ·exact key (fun i=>decide (i+b<w)&&a.testBit (i+b)) (VX ea.2) (fun i _=>rfl)
 ·exact key (fun i=>if i+b<w then a.testBit (i+b)else a.testBit (w-1)) (Vx hw.1 hw.2 ea.2) (fun i _=>rfl)
theorem Nu {h:Hp} {kind:Int} {w a b:Nat} {R:Value->Hp->Prop} (hk:kind=19\/kind=20) (ea:WO w a)
  (k:R (I ((if kind=19 then Ie w a (b%w)else Ie w a ((w-b%w)%w):Nat))) h):ql #[I kind,I w,I a,I b] h R:=by
 have hw:=ea.1
 have hm:b%w<w:=Nat.mod_lt _ (by omega)
 have key: ∀s:Nat,s<w->R (I (Ie w a s)) h->(∀i,i<w->(if kind=20 then(i+w-b%w)%w else(i+b%w)%w)=(i+s)%w)->
   ql #[I kind,I w,I a,I b] h R:=by
  intro s hs k hto
  apply IH
  refine uf_ ?_
  refine av w (fun i vs h'=>vs= [I kind,I w,I a,I b,I (cV w fun j=>decide ((j+(w-s))%w<i)&&a.testBit ((j+(w-s))%w)),I i]/\h'=h) ⟨?_,rfl⟩ ?_
  ·have:cV w (fun j=>decide ((j+(w-s))%w<0)&&a.testBit ((j+(w-s))%w))=0:=
    jA (bJ w) fun i _=>by simp
   rw [this];rfl
  rintro i _ h' next hi ⟨rfl,rfl⟩ hn
  refine⟨_,_,_,_,_,_,rfl,?_⟩
  by_cases hlt:i<w
  ·refine aM (by simp [hlt]) ?_
   have hn':=hn hlt _ _ ⟨rfl,rfl⟩
   have hst:=S6 (a:=a) hs hlt
   have hto:=hto i hlt
   rw [if_neg (by omega),eU]
   have hpw:(i+s)%w<w:=Nat.mod_lt _ (by omega)
   refine ap (fun J=>J ((if kind=20 then i+w-b%w else i+b%w:Nat):Int)) ?_ ?_
   ·have ht:Int.tmod ((if kind=20 then i+w-b%w else i+b%w:Nat):Int) (w:Int)=(((i+s)%w:Nat):Int):=by
     rw [eU,<-hto]
     split<;>rfl
    rw [if_neg (by omega),ht,cu (by omega)]
    have step:W ((cV w (fun j=>decide ((j+(w-s))%w<i)&&a.testBit ((j+(w-s))%w)):Int)+au (if a.testBit i then 1 else 0) (((i+s)%w:Nat):Int))=
      ((cV w (fun j=>decide ((j+(w-s))%w<i+1)&&a.testBit ((j+(w-s))%w)):Nat):Int):=by
     rw [Mq (by omega),<-hst,<-Int.natCast_add,eO]
     rw [hst]
     have:=rZ w (fun j=>decide ((j+(w-s))%w<i+1)&&a.testBit ((j+(w-s))%w))
     have:=z8 hw.2
     omega
    have one:d8 #[I a,I i] h' fun v25 h26=> ∃(x27:Int),v25=(I x27)/\(if(((i+s)%w:Nat):Int)<0 then False else next [I kind,I w,I a,I b,I (W ((cV w (fun j=>decide ((j+(w-s))%w<i)&&a.testBit ((j+(w-s))%w)):Int)+au x27 (((i+s)%w:Nat):Int))),I (W ((i:Int)+1))] h26):=by
     refine jn (by omega) ⟨_,rfl,?_⟩
     rw [if_neg (by omega),step,aC (by omega)]
     exact hn'
    exact⟨one,one⟩
   ·intro J hJ
    refine ac (fun e=>?_) (fun e=>?_)
    ·rw [if_pos (bV e)]at hJ
     rw [if_neg (by omega)]
     have:W (W ((i:Int)+w)-((b%w:Nat):Int))=((i+w-b%w:Nat):Int):=by rw [bU (n:=(i:Int)+w) (by omega) (by omega),bU (by omega) (by omega)];omega
     rw [this];exact hJ
    ·rw [if_neg (bk e)]at hJ
     have:W ((i:Int)+((b%w:Nat):Int))=((i+b%w:Nat):Int):=by rw [bU (by omega) (by omega)];omega
     rw [this];exact hJ
  ·have:i=w:=by omega
   subst this
   refine aE (by simp) ?_
   have:cV i (fun j=>decide ((j+(i-s))%i<i)&&a.testBit ((j+(i-s))%i))=Ie i a s:=by
    rw [<-UM ea.2 hs]
    refine sD fun j _=>?_
    have:decide ((j+(i-s))%i<i)=true:=by
     rw [decide_eq_true_eq];exact Nat.mod_lt _ (by omega)
    rw [this,Bool.true_and]
   rw [this];exact k
 rcases hk with rfl|rfl
 ·refine key (b%w) hm k fun i _=>?_
  rw [if_neg (by omega)]
 ·rw [if_neg (by omega)]at k
  refine key ((w-b%w)%w) (Nat.mod_lt _ (by omega)) k fun i _=>?_
  rw [if_pos rfl,Nat.add_mod_mod]
  congr 1
  omega
theorem zj {b:Bool} {R:Value->Hp->Prop} {h:Hp} {c:Bool} (e:b=c) (k:R (.tuple #[.bool c, .bool true]) h):R (.tuple #[.bool b, .bool true]) h:=by rw [e];exact k
theorem Nt {h:Hp} {kind:Int} {w a b:Nat} {R:Value->Hp->Prop} (ea:WO w a) (eb:WO w b)
  (k1:21<=kind/\kind<=28->R (.tuple #[.bool (EA kind w a b), .bool true]) h)
  (k2: ¬(21<=kind/\kind<=28)->R (.tuple #[.bool false, .bool false]) h):uc #[I kind,I w,I a,I b] h R:=by
 apply JA
 refine uf_ ?_
 have h16:=ea.pow
 have hp:=bJ w
 have sa:=D5 ea
 have sb:=D5 eb
 have ha:=ea.2
 have hb:=eb.2
 have hw:=ea.1
 have dd: ∀{p q:Prop} [Decidable p] [Decidable q],(p↔q)->decide p=decide q:=fun h=>by rw [decide_eq_decide];exact h
 refine iO ea ⟨_,rfl,iO eb ⟨_,rfl,?_⟩⟩
 refine ac (fun e=>?_) (fun e1=>?_)
 ·have e:=bV e
  subst e
  refine zj ?_ (k1 (by omega))
  show _=decide (a=b)
  rw [Bool.eq_iff_iff];simp;omega
 refine ac (fun e=>?_) (fun e2=>?_)
 ·have e:=bV e
  subst e
  exact zj (dd (by omega)) (k1 (by omega))
 refine ac (fun e=>?_) (fun e3=>?_)
 ·have e:=bV e
  subst e
  exact k1 (by omega)
 refine ac (fun e=>?_) (fun e4=>?_)
 ·have e:=bV e
  subst e
  exact zj (dd (by omega)) (k1 (by omega))
 refine ac (fun e=>?_) (fun e5=>?_)
 ·have e:=bV e
  subst e
  exact k1 (by omega)
 refine ac (fun e=>?_) (fun e6=>?_)
 ·have e:=bV e
  subst e
  have hab:W ((a:Int)+b)=((a+b:Nat):Int):=by rw [bU (by omega) (by omega)];omega
  rw [hab]
  refine cy ⟨_,rfl,?_⟩
  refine zj ?_ (k1 (by omega))
  show _=decide (2^w<=a+b)
  rw [Bool.eq_iff_iff]
  have:=j4 (w:=(w:Int)) (v:=((a+b:Nat):Int))
  rw [Int.toNat_natCast]at this
  simp only [Bool.not_eq_true',decide_eq_true_eq,<-Bool.not_eq_true,this]
  omega
 refine ac (fun e=>?_) (fun e7=>?_)
 ·have e:=bV e
  subst e
  rw [bU (by omega) (by omega)]
  refine hG hw ⟨_,rfl,iO ⟨hw,jJ _ _⟩ ⟨_,rfl,?_⟩⟩
  refine zj ?_ (k1 (by omega))
  show _= !decide (-((2^(w-1):Nat):Int)<=sgn w a+sgn w b/\sgn w a+sgn w b<((2^(w-1):Nat):Int))
  have:=ab2 (a:=a) (b:=b) hw.1
  rw [Bool.eq_iff_iff,bne_iff_ne,this,Bool.not_eq_true',decide_eq_false_iff_not]
 refine ac (fun e=>?_) (fun e8=>?_)
 ·have e:=bV e
  subst e
  have hmul:=D9 (a:=a) (b:=b) (by omega) (by omega)
  have hmi:(a:Int)*(b:Int)=((a*b:Nat):Int):=(Int.natCast_mul _ _).symm
  rw [hmi,eO (by omega)]
  refine cy ⟨_,rfl,?_⟩
  refine zj ?_ (k1 (by omega))
  show _=decide (2^w<=a*b)
  rw [Bool.eq_iff_iff]
  have:=j4 (w:=(w:Int)) (v:=((a*b:Nat):Int))
  rw [Int.toNat_natCast]at this
  simp only [Bool.not_eq_true',decide_eq_true_eq,<-Bool.not_eq_true,this]
  generalize a*b=ab at*
  omega
 ·have:=bk e1;have:=bk e2;have:=bk e3;have:=bk e4;have:=bk e5;have:=bk e6;have:=bk e7;have:=bk e8
  exact k2 (by omega)
theorem Bq {h:Hp} {kind:Int} {w a b:Nat} {R:Value->Hp->Prop} (hk:6<=kind/\kind<=28) (ea:WO w a) (eb:WO w b)
  (k:R (.tuple #[I (td kind w a b).1,I (td kind w a b).2, .bool true]) h):nV #[I kind,I w,I a,I b] h R:=by
 apply Hz
 refine uf_ ?_
 have h16:=ea.pow
 have hp:=bJ w
 have ha:=ea.2
 have hb:=eb.2
 have hw:=ea.1
 have hmul:=D9 (a:=a) (b:=b) (by omega) (by omega)
 refine ap (fun J=>J false h) ?_ (fun J hJ=>cy ⟨_,rfl,aE (by rw [ea.ok];rfl) (cy ⟨_,rfl,by rw [eb.ok];exact hJ⟩)⟩)
 refine aE rfl (Nt ea eb (fun h21=>⟨_,_,rfl,aM rfl (pw ⟨_,rfl,?_⟩)⟩) (fun h21=>⟨_,_,rfl,aE rfl ?_⟩))
 ·have t:td kind w a b=(if EA kind w a b then 1 else 0,1):=by unfold td;rw [if_neg (by omega)]
  rw [t]at k
  cases hs:EA kind w a b
  ·rw [hs]at k;simpa using k
  ·rw [hs]at k;simpa using k
 have t:td kind w a b=(Gu kind w a b,w):=by unfold td;rw [if_pos (by omega)]
 rw [t]at k
 unfold Gu at k
 simp only at k
 refine ap (fun J=>J (decide (kind=6\/kind=7\/kind=8))) ?_ ?_
 rotate_left
 ·intro J hJ
  refine ac (fun e=>?_) (fun e=>ac (fun e2=>?_) (fun e2=>?_))
  ·rw [decide_eq_true (.inl (bV e))]at hJ;exact hJ
  ·rw [decide_eq_true (.inr (.inl (bV e2)))]at hJ;exact hJ
  ·have:(kind==8)=decide (kind=6\/kind=7\/kind=8):=by
    have h1:=bk e
    have h2:=bk e2
    rw [Bool.eq_iff_iff];simp [h1,h2]
   rw [this];exact hJ
 refine ac (fun e=>?_) (fun e678=>?_)
 ·have e':kind=6\/kind=7\/kind=8:=by simpa using e
  refine N8 hw.2 ⟨_,rfl,?_⟩
  rcases e' with rfl|rfl|rfl
  ·rw [if_pos rfl,<-Iu ha]at k;exact k
  ·rw [if_neg (by decide),if_pos rfl,<-Rc ha hb]at k;exact k
  ·rw [if_neg (by decide),if_neg (by decide),if_pos rfl,<-Vb ha hb]at k;exact k
 have n6: ¬kind=6/\ ¬kind=7/\ ¬kind=8:=by simpa using e678
 rw [if_neg n6.1,if_neg n6.2.1,if_neg n6.2.2]at k
 refine ac (fun e=>?_) (fun e9=>?_)
 ·rw [if_pos (bV e)]at k
  rw [bU (by omega) (by omega)]
  exact hG hw ⟨_,rfl,k⟩
 rw [if_neg (bk e9)]at k
 refine ac (fun e=>?_) (fun e10=>?_)
 ·rw [if_pos (bV e)]at k
  rw [bU (by omega) (by omega)]
  exact hG hw ⟨_,rfl,k⟩
 rw [if_neg (bk e10)]at k
 refine ac (fun e=>?_) (fun e11=>?_)
 ·rw [if_pos (bV e)]at k
  have hmi:(a:Int)*(b:Int)=((a*b:Nat):Int):=(Int.natCast_mul _ _).symm
  rw [hmi]at k⊢
  generalize a*b=ab at*
  rw [eO (by omega)]
  exact hG hw ⟨_,rfl,k⟩
 rw [if_neg (bk e11)]at k
 refine ap (fun J=>J (decide (kind=12\/kind=13))) ?_ ?_
 rotate_left
 ·intro J hJ
  refine ac (fun e=>?_) (fun e=>?_)
  ·rw [decide_eq_true (.inl (bV e))]at hJ;exact hJ
  ·have:(kind==13)=decide (kind=12\/kind=13):=by
    have:=bk e
    rw [Bool.eq_iff_iff];simp [this]
   rw [this];exact hJ
 refine ac (fun e=>?_) (fun e1213=>?_)
 ·have e':kind=12\/kind=13:=by simpa using e
  refine Qf ea eb ⟨_,rfl,?_⟩
  rcases e' with rfl|rfl
  ·simpa using k
  ·simpa using k
 have n12: ¬kind=12/\ ¬kind=13:=by simpa using e1213
 rw [if_neg n12.1,if_neg n12.2]at k
 refine ap (fun J=>J (decide (kind=14\/kind=15))) ?_ ?_
 rotate_left
 ·intro J hJ
  refine ac (fun e=>?_) (fun e=>?_)
  ·rw [decide_eq_true (.inl (bV e))]at hJ;exact hJ
  ·have:(kind==15)=decide (kind=14\/kind=15):=by
    have:=bk e
    rw [Bool.eq_iff_iff];simp [this]
   rw [this];exact hJ
 refine ac (fun e=>?_) (fun e1415=>?_)
 ·have e':kind=14\/kind=15:=by simpa using e
  refine Np e' ea eb ⟨_,rfl,?_⟩
  rcases e' with rfl|rfl
  ·simpa using k
  ·simpa using k
 have n14: ¬kind=14/\ ¬kind=15:=by simpa using e1415
 rw [if_neg n14.1,if_neg n14.2]at k
 refine ap (fun J=>J (decide (kind=16\/kind=17\/kind=18))) ?_ ?_
 rotate_left
 ·intro J hJ
  refine ac (fun e=>?_) (fun e=>ac (fun e2=>?_) (fun e2=>?_))
  ·rw [decide_eq_true (.inl (bV e))]at hJ;exact hJ
  ·rw [decide_eq_true (.inr (.inl (bV e2)))]at hJ;exact hJ
  ·have:(kind==18)=decide (kind=16\/kind=17\/kind=18):=by
    have h1:=bk e
    have h2:=bk e2
    rw [Bool.eq_iff_iff];simp [h1,h2]
   rw [this];exact hJ
 refine ac (fun e=>?_) (fun e1618=>?_)
 ·have e':kind=16\/kind=17\/kind=18:=by simpa using e
  refine L4 e' ea (by omega) ⟨_,rfl,?_⟩
  unfold Du
  rcases e' with rfl|rfl|rfl
  ·simpa using k
  ·simpa using k
  ·simpa using k
 have n16: ¬kind=16/\ ¬kind=17/\ ¬kind=18:=by simpa using e1618
 rw [if_neg n16.1,if_neg n16.2.1,if_neg n16.2.2]at k
 have h1920:kind=19\/kind=20:=by
  have:=bk e9;have:=bk e10;have:=bk e11
  omega
 refine ap (fun J=>J true) ?_ ?_
 rotate_left
 ·intro J hJ
  refine ac (fun e=>hJ) (fun e=>?_)
  have:(kind==20)=true:=by
   have:=bk e
   rw [beq_iff_eq];omega
  rw [this];exact hJ
 refine aM rfl (Nu h1920 ea ⟨_,rfl,k⟩)
theorem VW {w a more:Nat} {sign:Bool} (e:WO w a):Im w a more sign<2^(w+more):=by
 unfold Im
 cases sign
 ·have:=e.2
  have:2^w<=2^(w+more):=Nat.pow_le_pow_right (by omega) (by omega)
  rw [if_neg (by decide)];omega
 ·exact jJ _ _
theorem RX {h:Hp} {w a more:Nat} {s:Bool} {R:Value->Hp->Prop} (e:WO w a) (hm:w+more<=16)
  (k:R (I (Im w a more s)) h):yz #[I w,I a,I more, .bool s] h R:=by
 apply MO
 refine uf_ ?_
 unfold Im at k
 refine ac (fun es=>?_) (fun es=>?_)
 ·rw [if_pos es]at k
  refine nF e ⟨_,rfl,?_⟩
  rw [show W ((w:Int)+more)=((w+more:Nat):Int) by rw [bU (by omega) (by omega)];omega]
  refine dI (by omega) ⟨_,rfl,?_⟩
  rw [ia (by omega)];exact k
 ·rw [if_neg (by rw [es];decide)]at k;exact k
theorem IQ {h:Hp} {w a more:Nat} {s:Bool} {R:Value->Hp->Prop} (e:WO w a) (hm:w+more<=16)
  (k:R (.tuple #[I (Im w a more s),I ((w+more:Nat):Int), .bool true]) h):ko #[I w,I a,I more, .bool s] h R:=by
 apply wz
 refine uf_ ?_
 unfold Im at k
 have hw:W ((w:Int)+more)=((w+more:Nat):Int):=by rw [bU (by omega) (by omega)];omega
 have h1:=e.1
 refine ap (fun J=>J false h) ?_ (fun J hJ=>cy ⟨_,rfl,aE (by rw [e.ok];rfl) (aE (by simp) ?_)⟩)
 ·refine aE rfl (ac (fun es=>?_) (fun es=>?_))
  ·rw [if_pos es]at k
   rw [hw]
   exact iO e ⟨_,rfl,hG (by omega) ⟨_,rfl,k⟩⟩
  ·rw [if_neg (by rw [es];decide)]at k
   rw [hw];exact k
 ·rw [bU (by omega) (by omega),show decide ((more:Int)>16-(w:Int))=false by rw [decide_eq_false_iff_not];omega];exact hJ
theorem IV {h:Hp} {w a u b:Nat} {R:Value->Hp->Prop} (ea:WO w a) (eb:WO u b) (hm:w+u<=16)
  (k:R (.tuple #[I ((a*2^u+b:Nat):Int),I ((w+u:Nat):Int), .bool true]) h):kq #[I w,I a,I u,I b] h R:=by
 apply wH
 refine uf_ ?_
 have hw:W ((w:Int)+u)=((w+u:Nat):Int):=by rw [bU (by omega) (by omega)];omega
 have h1:=ea.1
 have h2:=eb.1
 have ha:=ea.2
 have hb:=eb.2
 have h16a:=ea.pow
 have h16b:=eb.pow
 have hmul:=D9 (a:=a) (b:=2^u) (by omega) (by omega)
 refine ap (fun J=>J false h) ?_ (fun J hJ=>cy ⟨_,rfl,aE (by rw [ea.ok];rfl) (cy ⟨_,rfl,aE (by rw [eb.ok];rfl) ?_⟩)⟩)
 ·rw [cu (by omega)]
  refine aE rfl ?_
  rw [if_neg (by omega),ir (by omega) (by omega),hw,<-Int.natCast_add,eO (by omega)];exact k
 ·rw [hw,show decide (((w+u:Nat):Int)>16)=false by rw [decide_eq_false_iff_not];omega];exact hJ
theorem Gf {h:Hp} {w a hi lo:Nat} {R:Value->Hp->Prop} (ea:WO w a) (h1:lo<=hi) (h2:hi<w)
  (k:R (.tuple #[I ((a/2^lo%2^(hi-lo+1):Nat):Int),I ((hi-lo+1:Nat):Int), .bool true]) h):jB #[I w,I a,I hi,I lo] h R:=by
 apply uN
 refine uf_ ?_
 have e0:=ea.1
 have hw:W (W ((hi:Int)-lo)+1)=((hi-lo+1:Nat):Int):=by rw [bU (n:=(hi:Int)-lo) (by omega) (by omega),bU (by omega) (by omega)];omega
 have e1:=ea.1
 have hp:=bJ (hi-lo+1)
 refine ap (fun J=>J false h) ?_ (fun J hJ=>cy ⟨_,rfl,aE (by rw [ea.ok];rfl) (aE (by simp) (aE (by simp;omega) ?_))⟩)
 ·refine aE rfl ?_
  rw [hw,cu (by omega),cu (by omega),if_neg (by omega),if_neg (by omega),bK (by omega),if_neg (by omega),jw (by omega),eU]
  exact k
 ·rw [show decide ((hi:Int)>=(w:Int))=false by rw [decide_eq_false_iff_not];omega];exact hJ
theorem aj {h:Hp} {cs:Nat->List Value} {n:Nat->Nat} {P:Nat->Hp->Prop}
  (k: ∀b h',h b=none->h.le h'->h' b=some (.inl ⟨cs b,n b,false⟩)->P b h'): ∀b,h b=none->cA (h.row b (cs b) (n b)) fun h'=>P b h':=
 fun b hb=>k b _ hb (fg _ _ hb) (bM _ _ _ _)
theorem dq {b c:Bool} {R:Value->Hp->Prop} {h:Hp} (e:b=c) (k:R (.bool c) h):R (.bool b) h:=by rw [e];exact k
theorem rb {b c:Int} {R:Value->Hp->Prop} {h:Hp} (e:b=c) (k:R (I c) h):R (I b) h:=by rw [e];exact k
theorem aat {P:Bool->Prop} {c b:Bool} (k:P (c&&b)):ad c (P b) (P false):=by cases c<;>exact k
theorem ab9 {P:Bool->Prop} {c b:Bool} (k:P (c||b)):ad c (P true) (P b):=by cases c<;>exact k
abbrev uP (s:SortP):Value:= .agg #[I s.idx,I s.wid]
abbrev EF (n:NodeP):Value:= .agg #[I n.kind,I n.a,I n.b,I n.c,I n.n,I n.m,I n.sort.idx,I n.sort.wid, .string n.name]
abbrev JJ (b:BindP):Value:= .agg #[I b.state,I b.node]
theorem GI (s:SortP):bR s=(decide (0<=s.idx/\s.idx<=2)&&decide (1<=s.wid/\s.wid<=16)):=by
 unfold bR;rw [Bool.eq_iff_iff];simp
theorem cd {s:SortP}:bR s=true↔(0<=s.idx/\s.idx<=2)/\(1<=s.wid/\s.wid<=16):=by
 unfold bR;simp
theorem pO {h:Hp} {i w:Int} {R:Value->Hp->Prop} (k:R (.bool (bR ⟨i,w⟩)) h):mt #[.agg #[I i,I w]] h R:=by
 refine ACalls.drop (Jp ?_)
 refine uf_ ?_
 refine aj fun b h1 hb l1 f1=>?_
 simp only [vm,mm,aq f1]
 rw [GI]at k
 refine fK ⟨_,rfl,ac (fun e=>?_) (fun e=>⟨_,l1,dq ?_ k⟩)⟩
 ·simp only [vm,mm,aq f1]
  exact Bh ⟨_,rfl,⟨_,l1,dq (by simp only [e,Bool.true_and]) k⟩⟩
 ·simp only [e,Bool.false_and]
theorem pK {h:Hp} {i w:Int} {R:Value->Hp->Prop} (k:R (.bool (bR ⟨i,w⟩)) h):mE #[.agg #[I i,I w]] h R:=by
 refine ACalls.drop (Ja ?_)
 refine uf_ ?_
 refine aj fun b h1 hb l1 f1=>?_
 simp only [vm,mm,aq f1]
 rw [GI]at k
 refine dH ⟨_,rfl,ac (fun e=>?_) (fun e=>⟨_,l1,dq ?_ k⟩)⟩
 ·simp only [vm,mm,aq f1]
  exact wq ⟨_,rfl,⟨_,l1,dq (by simp only [e,Bool.true_and]) k⟩⟩
 ·simp only [e,Bool.false_and]
theorem vh (s:SortP):cT s<=4:=by
 unfold cT
 split
 ·rename_i e
  have:=cd.1 e
  have:=Nat.pow_le_pow_right (n:=2) (by omega) (show s.idx.toNat<=2 by omega)
  simpa using this
 ·omega
theorem lZ {h:Hp} {i w:Int} {R:Value->Hp->Prop} (k:R (I (cT ⟨i,w⟩)) h):jL #[.agg #[I i,I w]] h R:=by
 refine ACalls.drop (CY ?_)
 refine uf_ ?_
 refine aj fun b h1 hb l1 f1=>?_
 simp only [vm,mm,aq f1]
 unfold cT at k
 refine pO ⟨_,rfl,ac (fun e=>⟨_,l1,?_⟩) (fun e=>?_)⟩
 ·rw [if_neg (by simpa using e)]at k;exact k
 ·have e':bR ⟨i,w⟩=true:=by simpa using e
  have:=cd.1 e'
  rw [if_pos e']at k
  simp only [vm,mm,aq f1]
  obtain⟨n,rfl⟩: ∃n:Nat,i=n:=⟨i.toNat,by simp only at this;omega⟩
  simp only at this
  rw [if_neg (by omega),bK (by omega)]
  exact⟨_,l1,k⟩
theorem fD {h:Hp} {i w:Int} {R:Value->Hp->Prop} (k:R (I (cT ⟨i,w⟩)) h):eW #[.agg #[I i,I w]] h R:=by
 refine ACalls.drop (Dx ?_)
 refine uf_ ?_
 refine aj fun b h1 hb l1 f1=>?_
 simp only [vm,mm,aq f1]
 unfold cT at k
 refine pK ⟨_,rfl,ac (fun e=>⟨_,l1,?_⟩) (fun e=>?_)⟩
 ·rw [if_neg (by simpa using e)]at k;exact k
 ·have e':bR ⟨i,w⟩=true:=by simpa using e
  have:=cd.1 e'
  rw [if_pos e']at k
  simp only [vm,mm,aq f1]
  obtain⟨n,rfl⟩: ∃n:Nat,i=n:=⟨i.toNat,by simp only at this;omega⟩
  simp only at this
  rw [cu (by omega),if_neg (by omega),bK (by omega)]
  exact⟨_,l1,k⟩
theorem xV (s:SortP):dQ s<=64:=by
 unfold dQ
 by_cases e:bR s=true
 ·have:=cd.1 e
  have h1:=vh s
  have:=Nat.mul_le_mul h1 (show s.wid.toNat<=16 by omega)
  omega
 ·have:cT s=0:=by unfold cT;rw [if_neg e]
  rw [this];omega
theorem Cj {s:SortP} {x:Int} (hx:bR s=true->x=s.wid):(cT s:Int)*x=((dQ s:Nat):Int):=by
 unfold dQ
 by_cases e:bR s=true
 ·have:=cd.1 e
  rw [hx e,Int.natCast_mul]
  congr 1
  omega
 ·have:cT s=0:=by unfold cT;rw [if_neg e]
  rw [this];simp
theorem r8 {h:Hp} {i w:Int} {R:Value->Hp->Prop} (k:R (I (dQ ⟨i,w⟩)) h):mT #[.agg #[I i,I w]] h R:=by
 refine ACalls.drop (Fr ?_)
 refine uf_ ?_
 refine aj fun b h1 hb l1 f1=>?_
 simp only [vm,mm,aq f1]
 refine lZ ⟨_,rfl,rfl,⟨_,l1,rb ?_ k⟩⟩
 have:=xV ⟨i,w⟩
 rw [Cj,eO (by omega)]
 intro e
 have:=cd.1 e
 simp only at this⊢
 split<;>split<;>omega
theorem ij {h:Hp} {i w:Int} {R:Value->Hp->Prop} (k:R (I (dQ ⟨i,w⟩)) h):gE #[.agg #[I i,I w]] h R:=by
 refine ACalls.drop (EV ?_)
 refine uf_ ?_
 refine aj fun b h1 hb l1 f1=>?_
 simp only [vm,mm,aq f1]
 refine fD ⟨_,rfl,rfl,⟨_,l1,rb ?_ k⟩⟩
 have:=xV ⟨i,w⟩
 rw [Cj (fun _=>rfl),eO (by omega)]
theorem ey {α:Sort _} (c:α) (k:α->Prop):aJ c k=k c:=rfl
theorem vA {P:Prop} (k:P:=by((try rw [Bool.eq_iff_iff]);((try simp only [decide_eq_true_eq,decide_eq_false_iff_not,beq_iff_eq,beq_eq_false_iff_ne,bne_iff_ne,bne_eq_false_iff_eq,ne_eq,Bool.not_eq_true',Bool.not_eq_false',Bool.and_eq_true,Bool.or_eq_true,Bool.true_and,Bool.false_and,Bool.and_true,Bool.and_false,Bool.true_or,Bool.false_or,reduceCtorEq,iff_false,iff_true,false_iff,true_iff,Bool.not_true,Bool.not_false]at*));try ((repeat' split)<;>omega))):P:=k
theorem fJ {α:Sort _} {b c:α} {J:α->Prop} (e:b=c) (k:J c):J b:=by rw [e];exact k
theorem iW {h:Hp} {kind:Int} {R:Value->Hp->Prop} (k:R (I (ar kind)) h):iZ #[I kind] h R:=by
 apply Mb
 refine uf_ ?_
 simp only [ey]
 repeat' (first|(with_reducible first|refine aM (b:=true) rfl ?_|refine aE (b:=false) rfl ?_|refine ac (fun _=>?_) fun _=>?_)|(refine fK ⟨_,rfl,?_⟩)|(refine rb ?_ k))
 all_goals (clear k;unfold ar;(exact vA))
theorem lK {h:Hp} {kind:Int} {R:Value->Hp->Prop} (k:R (I (ar kind)) h):im #[I kind] h R:=by
 apply HL
 refine uf_ ?_
 refine ap (fun J=>J (decide ((1<=kind/\kind<=5)\/(30<=kind/\kind<=32)))) ?_ (fun J hJ=>?_)
 rotate_left
 ·clear k;repeat' (first|(with_reducible first|refine aM (b:=true) rfl ?_|refine aE (b:=false) rfl ?_|refine ac (fun _=>?_) fun _=>?_)|(refine fJ ?_ hJ))
  all_goals (clear hJ;(exact vA))
 (with_reducible first|refine aM (b:=true) rfl ?_|refine aE (b:=false) rfl ?_|refine ac (fun _=>?_) fun _=>?_)
 ·refine rb ?_ k;clear k;unfold ar;(exact vA)
 refine ap (fun J=>J (decide ((6<=kind/\kind<=29)\/kind=37))) ?_ (fun J hJ=>?_)
 rotate_left
 ·clear k;repeat' (first|(with_reducible first|refine aM (b:=true) rfl ?_|refine aE (b:=false) rfl ?_|refine ac (fun _=>?_) fun _=>?_)|(refine fJ ?_ hJ))
  all_goals (clear hJ;(exact vA))
 (with_reducible first|refine aM (b:=true) rfl ?_|refine aE (b:=false) rfl ?_|refine ac (fun _=>?_) fun _=>?_)
 ·refine rb ?_ k;clear k;unfold ar;(exact vA)
 simp only [ey]
 repeat' (first|(with_reducible first|refine aM (b:=true) rfl ?_|refine aE (b:=false) rfl ?_|refine ac (fun _=>?_) fun _=>?_)|(refine rb ?_ k))
 all_goals (clear k;unfold ar;(exact vA))
theorem Iv {h:Hp} {kind:Int} {R:Value->Hp->Prop} (k:R (.bool (fR kind)) h):dk #[I kind] h R:=by
 apply LH
 refine uf_ ?_
 refine ab9 (P:=fun b=>R (.bool b) h) (dq ?_ k)
 unfold fR
 rw [Bool.eq_iff_iff];simp
theorem LY (s:ByteArray) (i:Nat):s[i]?=s.data.toList[i]?:=by
 rcases s with ⟨⟨l⟩⟩
 by_cases h:i<l.length
 ·rw [getElem?_pos _ i (show i<(ByteArray.mk ⟨l⟩).size from h)]
  simp only [List.getElem?_eq_getElem h]
  rfl
 ·rw [getElem?_neg _ i (show¬i<(ByteArray.mk ⟨l⟩).size from h)]
  simp only [List.getElem?_eq_none (Nat.le_of_not_lt h)]
theorem B0 (s:ByteArray):s.size=s.data.toList.length:=by rcases s with ⟨⟨l⟩⟩;rfl
theorem FQ {s:ByteArray} {i:Nat} (h:i<s.size): ∃c,s[i]?=some c:=by
 rw [LY];rw [B0]at h
 exact⟨_,List.getElem?_eq_getElem h⟩
theorem xh (s:ByteArray):(ByteArray.toList s==ByteArray.toList ⟨#[]⟩)=decide (s.size=0):=by
 rcases s with ⟨⟨l⟩⟩
 rw [lm,show (⟨#[]⟩:ByteArray)=⟨List.toArray []⟩from rfl,lm,B0,Bool.eq_iff_iff]
 simp
theorem qz {s:ByteArray}:gh s=true↔(1<=s.size/\s.size<=8)/\ ∀(j:Nat) (c:UInt8),s[j]?=some c->gQ c=true\/(j≠0/\pg c=true):=by
 unfold gh
 simp only [LY]
 have hs:=B0 s
 generalize s.data.toList=l at*
 rw [Bool.and_eq_true,decide_eq_true_eq]
 refine and_congr_right fun h1=>?_
 cases l with
 |nil=>have:s.size=0:=hs;omega
 |cons c r=>
  simp only [Bool.and_eq_true,List.all_eq_true,Bool.or_eq_true]
  constructor
  ·rintro ⟨h2,h3⟩ j d hd
   cases j with
   |zero=>simp at hd;subst hd;exact .inl h2
   |succ j=>
    simp only [List.getElem?_cons_succ]at hd
    exact(h3 d (List.mem_of_getElem? hd)).imp id fun h=>⟨by omega,h⟩
  ·intro h
   refine⟨?_,fun d hd=>?_⟩
   ·rcases h 0 c rfl with h|h
    ·exact h
    ·exact absurd rfl h.1
   ·obtain⟨j,hj,rfl⟩:=List.getElem_of_mem hd
    rcases h (j+1) r[j] (by simp)with h|h
    ·exact .inl h
    ·exact .inr h.2
theorem vp {s:ByteArray} {j:Nat} {c:UInt8} (e:s[j]?=some c) (h1:gQ c=false) (h2:j=0\/pg c=false):gh s=false:=by
 rw [Bool.eq_false_iff]
 intro h
 rcases (qz.1 h).2 j c e with h|h
 ·rw [h1]at h;cases h
 ·rcases h2 with h2|h2
  ·exact h.1 h2
  ·rw [h2]at h;cases h.2
theorem IL {h:Hp} {c:UInt8} {R:Value->Hp->Prop} (k:R (.bool (gQ c)) h):qX #[.int .u8 ((UInt8.toNat c:Nat):Int)] h R:=by
 apply Fd
 refine uf_ ?_
 refine aat (P:=fun b=>R (.bool b) h) (dq ?_ k)
 unfold gQ
 (exact vA)
theorem C4 {h:Hp} {s:ByteArray} {R:Value->Hp->Prop} (k:R (.bool (gh s)) h) (hsz:s.size<9223372036854775807):jm #[.string s] h R:=by
 apply Jz
 refine uf_ ?_
 refine av s.size (fun i vs h'=>(∀(j:Nat) (c:UInt8),j<i->s[j]?=some c->gQ c=true\/(j≠0/\pg c=true))/\vs= [.string s,I s.size,I i]/\h'=h) ⟨fun j c hj=>by omega,rfl,rfl⟩ ?_
 rintro i _ h' next hi ⟨hg,rfl,rfl⟩ hn
 refine⟨_,_,_,rfl,?_⟩
 by_cases hlt:i<s.size
 ·obtain⟨c,hc⟩:=FQ hlt
  refine aM (by simp [hlt]) ?_
  simp only [vm]
  have hnext:gQ c=true\/(i≠0/\pg c=true)->next [.string s,I s.size,I (W ((i:Int)+1))] h':=by
   intro hgood
   rw [aC (by omega)]
   refine hn hlt _ _ ⟨fun j d hj hd=>?_,rfl,rfl⟩
   by_cases hji:j=i
   ·subst hji;rw [hc]at hd;cases hd;exact hgood
   ·exact hg j d (by omega) hd
  refine⟨c,hc,IL ⟨_,rfl,ac (fun e=>ac (fun e2=>?_) (fun e2=>⟨c,hc,ac (fun e3=>?_) (fun e3=>⟨c,hc,ac (fun e4=>?_) (fun e4=>hnext ?_)⟩)⟩)) (fun e=>hnext (.inl (by simpa using e)))⟩⟩
  ·exact dq (vp hc (by simpa using e) (.inl (by simp at e2;omega))).symm k
  ·exact dq (vp hc (by simpa using e) (.inr (by unfold pg;simp at e3⊢;omega))).symm k
  ·exact dq (vp hc (by simpa using e) (.inr (by unfold pg;simp at e4⊢;omega))).symm k
  ·refine .inr ⟨by simp at e2;omega,?_⟩
   unfold pg;simp at e3 e4⊢;omega
 ·refine aE (by simp;omega) (fK ⟨_,rfl,dq ?_ k⟩)
  have:= @qz s
  rw [Bool.eq_iff_iff,this,decide_eq_true_eq]
  constructor
  ·intro hh
   refine⟨by omega,fun j c hc=>hg j c ?_ hc⟩
   ·rcases Nat.lt_or_ge j s.size with h|h
    ·omega
    ·rw [LY,List.getElem?_eq_none (by rw [<-B0];exact h)]at hc;cases hc
  ·rintro ⟨hh,_⟩;omega
theorem C1 {h:Hp} {s:ByteArray} {R:Value->Hp->Prop} (k:R (.bool (gh s)) h):qj #[.string s] h R:=by
 apply IU
 refine uf_ ?_
 refine ap (fun J=>J (!(decide (1<=s.size/\s.size<=8)&&(match s[0]? with|some c=>gQ c|none=>false))) h) ?_ (fun J hJ=>?_)
 rotate_left
 ·refine dH ⟨_,rfl,ac (fun e=>?_) (fun e=>?_)⟩
  ·rw [show decide (1<=s.size/\s.size<=8)=false by rw [decide_eq_false_iff_not];simp at e;omega,Bool.false_and]at hJ
   exact hJ
  ·have e':1<=s.size/\s.size<=8:=by simp at e;omega
   obtain⟨c,hc⟩:=FQ (s:=s) (i:=0) (by omega)
   rw [decide_eq_true e',Bool.true_and,hc]at hJ
   simp only at hJ
   refine⟨by omega,c,hc,ac (fun e=>?_) (fun e=>⟨by omega,c,hc,?_⟩)⟩
   ·exact fJ (J:=fun b=>J b h) (by unfold gQ;(exact vA)) hJ
   ·exact fJ (J:=fun b=>J b h) (by unfold gQ;(exact vA)) hJ
 refine ac (fun e=>dq ?_ k) (fun e=>?_)
 ·symm
  rw [Bool.eq_false_iff]
  intro hn
  have hh:=qz.1 hn
  obtain⟨c,hc⟩:=FQ (s:=s) (i:=0) (by omega)
  rw [decide_eq_true hh.1,hc]at e
  rcases hh.2 0 c hc with h1|h1
  ·simp [h1]at e
  ·exact absurd rfl h1.1
 have e':(1<=s.size/\s.size<=8)/\ ∀c,s[0]?=some c->gQ c=true:=by
  simp only [Bool.not_eq_false',Bool.and_eq_true,decide_eq_true_eq]at e
  refine⟨e.1,fun c hc=>?_⟩
  have:=e.2;rw [hc]at this;exact this
 refine av s.size (fun i vs h'=>(∀(j:Nat) (c:UInt8),j<i->s[j]?=some c->gQ c=true\/pg c=true)/\vs= [.string s,I i]/\h'=h) ⟨fun j c hj=>by omega,rfl,rfl⟩ ?_
 rintro i _ h' next hi ⟨hg,rfl,rfl⟩ hn
 refine⟨_,_,rfl,?_⟩
 by_cases hlt:i<s.size
 ·obtain⟨c,hc⟩:=FQ hlt
  refine aM (by simp [hlt]) ?_
  simp only [vm]
  have hnext:gQ c=true\/pg c=true->next [.string s,I (W ((i:Int)+1))] h':=by
   intro hgood
   rw [aC (by omega)]
   refine hn hlt _ _ ⟨fun j d hj hd=>?_,rfl,rfl⟩
   by_cases hji:j=i
   ·subst hji;rw [hc]at hd;cases hd;exact hgood
   ·exact hg j d (by omega) hd
  have hbad:gQ c=false->pg c=false->R (.bool false) h':=fun h1 h2=>dq (vp hc h1 (.inr h2)).symm k
  have two: ∀(hl:gQ c=false),(ad (decide (((UInt8.toNat c:Nat):Int)>=48)) (∃c32:UInt8,s[i]?=some c32/\(ad (!(decide (((UInt8.toNat c32:Nat):Int)<=57))) (R (.bool false) h') (next [(.string s),(I (W ((i:Int)+1)))] h'))) (R (.bool false) h')):=by
   intro hl
   refine ac (fun e=>⟨c,hc,ac (fun e2=>hbad hl ?_) (fun e2=>hnext (.inr ?_))⟩) (fun e=>hbad hl ?_)
   ·unfold pg;simp at e2⊢;omega
   ·unfold pg;simp at e e2⊢;omega
   ·unfold pg;simp at e⊢;omega
  refine⟨c,hc,ac (fun e=>⟨c,hc,ac (fun e2=>hnext (.inl ?_)) (fun e2=>⟨c,hc,two ?_⟩)⟩) (fun e=>⟨c,hc,two ?_⟩)⟩
  ·unfold gQ;simp at e e2⊢;omega
  ·unfold gQ;simp at e2⊢;omega
  ·unfold gQ;simp at e⊢;omega
 ·refine aE (by simp;omega) (dq ?_ k)
  symm
  refine qz.2 ⟨e'.1,fun j c hc=>?_⟩
  have hj:j<s.size:=by
   rcases Nat.lt_or_ge j s.size with h|h
   ·omega
   ·rw [LY,List.getElem?_eq_none (by rw [<-B0];exact h)]at hc;cases hc
  rcases hg j c (by omega) hc with h1|h1
  ·exact .inl h1
  ·by_cases h0:j=0
   ·subst h0;exact .inl (e'.2 c hc)
   ·exact .inr ⟨h0,h1⟩
theorem rd :(∀(v:Value) r,(v::r)[0]?=some v)/\(∀(v:Value) r (i:Nat),(v::r)[i+1]?=r[i]?)/\
  (∀(cs:List Value) (n:Nat) (ro:Bool) (p:List Value->Nat->Prop),
   (∃(cs':List Value) (n':Nat),some (Sum.inl (Row.mk cs n ro):Blk)=some (Sum.inl (Row.mk cs' n' ro))/\p cs' n')=p cs n)/\
  (∀cs o,cz cs o []=cs)/\(∀cs o v r,cz cs o (v::r)=cz (cs.set o v) (o+1) r)/\
  (∀(v w:Value) r,(v::r).set 0 w=w::r)/\(∀(v w:Value) r (i:Nat),(v::r).set (i+1) w=v::r.set i w)/\
  (∀(v:Value) r,(v::r).length=r.length+1)/\([]:List Value).length=0:=
 ⟨fun _ _=>rfl,fun _ _ _=>rfl,Uu,GA,pN,fun _ _ _=>rfl,fun _ _ _ _=>rfl,fun _ _=>rfl,rfl⟩
theorem UY {h:Hp} {b z o:Nat} {cs:List Value} {ro:Bool} {x:Int} {P:Int->Prop} (f:h b=some (.inl ⟨cs,z,ro⟩)) (e:cs[o]?=some (I x)) (k:P x): ∃y:Int,Hp.cell h b o=some (I y)/\P y:=
 ⟨x,by rw [aq f];exact e,k⟩
theorem VM {h:Hp} {b z o:Nat} {cs:List Value} {ro:Bool} {x:ByteArray} {P:ByteArray->Prop} (f:h b=some (.inl ⟨cs,z,ro⟩)) (e:cs[o]?=some (.string x)) (k:P x): ∃y:ByteArray,Hp.cell h b o=some (.string y)/\P y:=
 ⟨x,by rw [aq f];exact e,k⟩
theorem dl {h:Hp} {w:Int} {R:Value->Hp->Prop} (k:R (uP (cE w)) h):dC #[I w] h R:=by
 refine ACalls.drop (Me ?_)
 refine uf_ ?_
 intro b hb
 have l1:=fg [I 0,I w] 2 hb
 simp only [vm,mm]
 exact⟨by decide,_,l1,k⟩
theorem ce {h:Hp} {w:Int} {R:Value->Hp->Prop} (k:R (uP (cE w)) h):am #[I w] h R:=by
 refine ACalls.drop (JB ?_)
 refine uf_ ?_
 intro b hb
 have l1:=fg [I 0,I w] 2 hb
 simp only [vm,mm]
 exact⟨by decide,_,l1,k⟩
def aW (n:NodeP):Nat->Int
 |0=>n.a
 |1=>n.b
 |2=>n.c
 |_=>0
theorem pU (len:Nat) (n:NodeP):fv len n=
  (decide (0<=ar n.kind)&&(rC (ar n.kind) len 0 (aW n 0)&&rC (ar n.kind) len 1 (aW n 1)&&rC (ar n.kind) len 2 (aW n 2))&&
   (if fR n.kind then gh n.name else decide (n.name.size=0))&&(decide (n.kind=30)||decide (n.m=0))&&
   (decide (n.kind=30\/n.kind=31\/n.kind=32\/n.kind=34)||decide (n.n=0))):=rfl
theorem KC {len:Nat} {n:NodeP} {i:Nat} (hi:i<3) (e:rC (ar n.kind) len i (aW n i)=false):fv len n=false:=by
 rw [pU]
 obtain rfl|rfl|rfl:i=0\/i=1\/i=2:=by omega
 ·rw [show ((0:Nat):Int)=0 from rfl]at e;rw [e];simp
 ·rw [show ((1:Nat):Int)=1 from rfl]at e;rw [e];simp
 ·rw [show ((2:Nat):Int)=2 from rfl]at e;rw [e];simp
theorem Eu {len:Nat} {n:NodeP} (hp:0<=ar n.kind) (e: ∀i:Nat,i<3->rC (ar n.kind) len i (aW n i)=true):fv len n=
  ((if fR n.kind then gh n.name else decide (n.name.size=0))&&(decide (n.kind=30)||decide (n.m=0))&&
    (decide (n.kind=30\/n.kind=31\/n.kind=32\/n.kind=34)||decide (n.n=0))):=by
 rw [pU,decide_eq_true hp]
 have e0:=e 0 (by omega)
 have e1:=e 1 (by omega)
 have e2:=e 2 (by omega)
 rw [show ((0:Nat):Int)=0 from rfl]at e0
 rw [show ((1:Nat):Int)=1 from rfl]at e1
 rw [show ((2:Nat):Int)=2 from rfl]at e2
 rw [e0,e1,e2];simp
theorem pM {h:Hp} {b z:Nat} {n:NodeP} (f:h b=some (.inl ⟨[I n.a,I n.b,I n.c],z,false⟩)) {i:Nat} (hi:i<3):Hp.cell h b i=some (I (aW n i)):=by
 rw [aq f]
 obtain rfl|rfl|rfl:i=0\/i=1\/i=2:=by omega
 all_goals rfl
theorem ML {h:Hp} {n:NodeP} {len:Nat} {R:Value->Hp->Prop} (hlen:len<=4611686018427387904) (hsz:n.name.size<=1048576)
  (k:R (.bool (fv len n)) h):nf #[EF n,I len] h R:=by
 refine ACalls.drop (A0 ?_)
 refine uf_ ?_
 refine aj fun b h1 hb l1 f1=>?_
 simp only [vm,rd,aq f1]
 refine iW ⟨_,rfl,ac (fun e=>⟨_,l1,dq ?_ k⟩) (fun e=>?_)⟩
 ·rw [pU,decide_eq_false (by simp at e;omega)];simp
 have hp:0<=ar n.kind:=by simp at e;omega
 simp only [vm,rd,aq f1]
 refine aj fun b2 h2 hb2 l2 f2=>?_
 have f1':=l2 _ _ f1
 have l12:=Hp.le_trans l1 l2
 refine av 3 (fun i vs h'=>(∀j:Nat,j<i->rC (ar n.kind) len j (aW n j)=true)/\vs= [I len, .pointer (some ⟨b,0,none⟩),I (ar n.kind), .slice (some ⟨b2,0,none⟩) 3 3,I 3,I i]/\h'=h2) ⟨fun j hj=>by omega,rfl,rfl⟩ ?_
 rintro i _ h' next hi ⟨hg,rfl,rfl⟩ hn
 refine⟨_,_,_,_,⟨_,_,_⟩,_,_,rfl,?_⟩
 by_cases hlt:i<3
 ·refine aM (by simp;omega) ?_
  simp only [vm,pM f2 hlt]
  refine⟨by omega,?_⟩
  refine ap (fun J=>J (!(rC (ar n.kind) len i (aW n i))) h') ?_ (fun J hJ=>?_)
  ·refine ac (fun e=>⟨_,l12,dq ?_ k⟩) (fun e=>?_)
   ·rw [KC hlt (by simpa using e)]
   ·rw [aC (by omega)]
    refine hn hlt _ _ ⟨fun j hj=>?_,rfl,rfl⟩
    by_cases hji:j=i
    ·subst hji;simpa using e
    ·exact hg j (by omega)
  ·clear k
   unfold rC at hJ
   rw [bU (by omega) (by omega)]
   refine ac (fun e=>fK ⟨_,rfl,?_⟩) (fun e=>?_)
   ·rw [if_pos (by simpa using e)]at hJ
    refine ac (fun e2=>?_) (fun e2=>ac (fun e3=>?_) (fun e3=>?_))
    ·exact fJ (J:=fun b=>J b h') (by simpa using e2) hJ
    ·simp at e e3;omega
    ·exact fJ (J:=fun b=>J b h') (by simpa using e2) hJ
   ·rw [if_neg (by simpa using e)]at hJ
    refine ac (fun e2=>?_) (fun e2=>?_)
    ·exact fJ (J:=fun b=>J b h') (by rw [Bool.eq_iff_iff];simp) hJ
    ·simp at e e2;omega
 ·refine aE (by simp;omega) ?_
  rw [Eu hp (fun j hj=>hg j (by omega))]at k
  simp only [vm,rd,aq f1',xh]
  refine ap (fun J=>J (decide (n.kind=30\/n.kind=31\/n.kind=32\/n.kind=34))) ?_ (fun J hJ=>?_)
  rotate_left
  ·clear k;repeat' (first|(with_reducible first|refine aM (b:=true) rfl ?_|refine aE (b:=false) rfl ?_|refine ac (fun _=>?_) fun _=>?_)|(refine fJ ?_ hJ))
   all_goals (clear hJ;(exact vA))
  have hnm: ∀{R':Value->Hp->Prop},R' (.bool (fR n.kind)) h'->dk #[I n.kind] h' R':=Iv
  have hin: ∀{R':Value->Hp->Prop},R' (.bool (gh n.name)) h'->jm #[.string n.name] h' R':=fun k=>C4 k (by omega)
  generalize fR n.kind=g at*
  generalize gh n.name=q at*
  repeat' (first|(with_reducible first|refine aM (b:=true) rfl ?_|refine aE (b:=false) rfl ?_|refine ac (fun _=>?_) fun _=>?_)|(with_reducible refine hnm ⟨_,rfl,?_⟩)|(with_reducible refine hin ⟨_,rfl,?_⟩)|(with_reducible refine UY f1' rfl ?_)|(with_reducible refine VM f1' rfl ?_)|(refine⟨_,l12,dq ?_ k⟩;clear k hnm hin hn hg f1 f2 f1' l1 l2 l12 hb hb2;first|(simp_all;done)|(cases g<;>cases q<;>simp_all<;>done)))
theorem Jx {h:Hp} {n:NodeP} {s:Sl} {R:Value->Hp->Prop} (hlen:s.n<=4611686018427387904)
  (k:R (.bool (fv s.n n)) h):ra #[s.v,EF n] h R:=by
 refine ACalls.drop (Fb ?_)
 refine uf_ ?_
 refine aj fun b h1 hb l1 f1=>?_
 simp only [vm,rd,aq f1]
 refine lK ⟨_,rfl,ac (fun e=>⟨_,l1,dq ?_ k⟩) (fun e=>?_)⟩
 ·rw [pU,decide_eq_false (by simp at e;omega)];simp
 have hp:0<=ar n.kind:=by simp at e;omega
 simp only [vm,rd,aq f1]
 refine aj fun b2 h2 hb2 l2 f2=>?_
 have f1':=l2 _ _ f1
 have l12:=Hp.le_trans l1 l2
 refine av 3 (fun i vs h'=>(∀j:Nat,j<i->rC (ar n.kind) s.n j (aW n j)=true)/\vs= [s.v, .pointer (some ⟨b,0,none⟩),I (ar n.kind), .slice (some ⟨b2,0,none⟩) 3 3,I i]/\h'=h2) ⟨fun j hj=>by omega,rfl,rfl⟩ ?_
 rintro i _ h' next hi ⟨hg,rfl,rfl⟩ hn
 refine⟨_,_,_,_,⟨_,_,_⟩,_,rfl,?_⟩
 by_cases hlt:i<3
 ·refine aM (by simp;omega) ?_
  simp only [vm,pM f2 hlt]
  refine ap (fun J=>J (!(rC (ar n.kind) s.n i (aW n i))) h') ?_ (fun J hJ=>?_)
  ·refine ac (fun e=>⟨_,l12,dq ?_ k⟩) (fun e=>?_)
   ·rw [KC hlt (by simpa using e)]
   ·rw [aC (by omega)]
    refine hn hlt _ _ ⟨fun j hj=>?_,rfl,rfl⟩
    by_cases hji:j=i
    ·subst hji;simpa using e
    ·exact hg j (by omega)
  ·clear k
   unfold rC at hJ
   rw [bU (by omega) (by omega)]
   refine ac (fun e=>⟨by omega,dH ⟨_,rfl,?_⟩⟩) (fun e=>?_)
   ·rw [if_pos (by simpa using e)]at hJ
    refine ac (fun e2=>?_) (fun e2=>ac (fun e3=>?_) (fun e3=>?_))
    ·exact fJ (J:=fun b=>J b h') (by simpa using e2) hJ
    ·simp at e e3;omega
    ·exact fJ (J:=fun b=>J b h') (by simpa using e2) hJ
   ·rw [if_neg (by simpa using e)]at hJ
    refine ac (fun e2=>?_) (fun e2=>?_)
    ·refine⟨by omega,?_⟩
     exact fJ (J:=fun b=>J b h') (by rw [Bool.eq_iff_iff];simp) hJ
    ·simp at e e2;omega
 ·refine aE (by simp;omega) ?_
  rw [Eu hp (fun j hj=>hg j (by omega))]at k
  simp only [vm,rd,aq f1',xh]
  refine ap (fun J=>J (fR n.kind)) ?_ (fun J hJ=>?_)
  rotate_left
  ·clear k;unfold fR at hJ;repeat' (first|(with_reducible first|refine aM (b:=true) rfl ?_|refine aE (b:=false) rfl ?_|refine ac (fun _=>?_) fun _=>?_)|(refine fJ ?_ hJ))
   all_goals (clear hJ;(exact vA))
  have hin: ∀{R':Value->Hp->Prop},R' (.bool (gh n.name)) h'->qj #[.string n.name] h' R':=C1
  have hno:gh n.name=true-> ¬n.name.size=0:=fun e=>by have:=(qz.1 e).1;omega
  generalize fR n.kind=g at*
  generalize gh n.name=q at*
  simp only [ey]
  repeat' (first|(with_reducible first|refine aM (b:=true) rfl ?_|refine aE (b:=false) rfl ?_|refine ac (fun _=>?_) fun _=>?_)|(with_reducible refine hin ⟨_,rfl,?_⟩)|(with_reducible refine UY f1' rfl ?_)|(with_reducible refine VM f1' rfl ?_)|(refine⟨_,l12,dq ?_ k⟩;clear k hin hn hg f1 f2 f1' l1 l2 l12 hb hb2;first|(simp_all;done)|(cases g<;>cases q<;>simp_all<;>done)|(rw [Bool.eq_iff_iff];cases g<;>cases q<;>simp_all<;>done)))
end Go.Lead
