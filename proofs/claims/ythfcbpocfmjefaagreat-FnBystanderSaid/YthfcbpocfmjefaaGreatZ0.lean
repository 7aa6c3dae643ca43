/- What functions of the program and of the reference come to, walked one by one, and plain laws about it: part 1. No condition is added to the statement. -/
import Derived.Test.YthfcbpocfmjefaaGreatVm15
import Derived.Test.YthfcbpocfmjefaaGreatFn0
import Derived.Test.YthfcbpocfmjefaaGreatFn1
import Derived.Test.YthfcbpocfmjefaaGreatFn2
import Derived.Test.YthfcbpocfmjefaaGreatFn3
import Derived.Test.YthfcbpocfmjefaaGreatFn4
import Derived.Test.YthfcbpocfmjefaaGreatFn5
import Derived.Test.YthfcbpocfmjefaaGreatFn6
import Derived.Test.YthfcbpocfmjefaaGreatFn7
namespace Go.Lead
open Go
set_option linter.unusedVariables false
set_option linter.unusedSimpArgs false
set_option maxHeartbeats 1000000
structure Nd where
 v:Nat
 lo:Nat
 hi:Nat
 deriving DecidableEq,Repr
def j4 (n:Nd) (ns:List Nd):Nat×List Nd:=match ns.idxOf? n with|some i=>(i+2,ns)|none=>(ns.length+2,ns++ [n])
def mkD :Nat->(Nat->Bool)->Nat->List Nd->Nat×List Nd
 |0,f,_,ns=>(if f 0 then 1 else 0,ns)
 |n+1,f,low,ns=>
  let r1:=mkD n (fun i=>f (2*i)) (low+1) ns
  let r2:=mkD n (fun i=>f (2*i+1)) (low+1) r1.2
  if r1.1=r2.1 then r2 else j4 ⟨low,r1.1,r2.1⟩ r2.2
def jj (set:List Int):List Int->Int->Int×Bool
 | [],left=>(left,left==0)
 |x::r,left=>
  if set.contains x then(0,false)else
  if set.contains (-x)then jj set r left else
  if left !=0&&left !=x then(0,false)else jj set r x
def px :List (List Int)->List Int->Bool->Option (List Int×Bool)
 | [],set,more=>some (set,more)
 |l::r,set,more=>if(jj set l 0).2 then none else if(jj set l 0).1 !=0 then px r (set++ [(jj set l 0).1]) true else px r set more
def mF (cls:List (List Int)) (set:List Int):Option (List Int):=
 match px cls set false with
 |none=>none
 |some (set',more)=>if more then(if h:set.length<set'.length/\set'.length<=20 then mF cls set' else none)else some set'
termination_by 20-set.length
decreasing_by omega
def wq :List Int->List Int->Option (List Int)
 | [],set=>some set
 |x::r,set=>if set.contains (-x)then none else wq r (if set.contains x then set else set++ [x])
def lr (cls:List (List Int)) (given:List Int):Option (List Int):=(wq given []).bind (mF cls)
structure rE (v:Int) (set:List Int):Prop where
 lit: ∀x∈set,x≠0/\ -v<=x/\x<=v
 nodup:set.Nodup
 cons: ∀x∈set, -x∉set
theorem Pl (v:Int):rE v []:=⟨by simp,List.nodup_nil,by simp⟩
theorem rE.add {v:Int} {set:List Int} (k:rE v set) {x:Int} (hx:x≠0/\ -v<=x/\x<=v) (h1:x∉set) (h2: -x∉set):rE v (set++ [x]):=by
 refine⟨?_,?_,?_⟩
 ·intro y hy
  rcases List.mem_append.1 hy with h|h
  ·exact k.lit y h
  ·simp only [List.mem_singleton]at h;subst h;exact hx
 ·rw [List.nodup_append]
  refine⟨k.nodup,by simp,?_⟩
  intro a ha b hb
  simp only [List.mem_singleton]at hb;subst hb
  intro e;subst e;exact h1 ha
 ·intro y hy hn
  rcases List.mem_append.1 hy with h|h<;>rcases List.mem_append.1 hn with h'|h'
  ·exact k.cons y h h'
  ·simp only [List.mem_singleton]at h';exact h2 (by rw [<-h',Int.neg_neg];exact h)
  ·simp only [List.mem_singleton]at h;subst h;exact h2 h'
  ·simp only [List.mem_singleton]at h h';subst h;omega
theorem Iv : ∀(n:Nat) (l:List Int) (a:Int),l.Nodup->(∀x∈l,a<=x/\x<a+n)->l.length<=n:=by
 intro n
 induction n with
 |zero=>
  intro l a _ h
  cases l with
  |nil=>simp
  |cons x r=>have:=h x (by simp);omega
 |succ n ih=>
  intro l a hd h
  by_cases hm:(a+n)∈l
  ·have h1:=ih (l.erase (a+n)) a (hd.erase _) (fun x hx=>by
    have hx':=List.mem_of_mem_erase hx
    have:=h x hx'
    have hne:x≠a+n:=fun e=>by
     subst e
     exact(List.Nodup.not_mem_erase hd) hx
    omega)
   rw [List.length_erase_of_mem hm]at h1
   omega
  ·have:=ih l a hd (fun x hx=>by
    have h1:=h x hx
    have hne:x≠a+n:=fun e=>hm (e▸hx)
    omega)
   omega
theorem rE.len {v:Int} {set:List Int} (k:rE v set) (hv:v<=10) (hv0:0<=v):set.length<=20:=by
 have h0:(0:Int)∉set:=fun h=>(k.lit 0 h).1 rfl
 have h1:=Iv 21 (0::set) (-10) (List.nodup_cons.2 ⟨h0,k.nodup⟩) (fun x hx=>by
  rcases List.mem_cons.1 hx with rfl|hx
  ·omega
  ·have:=k.lit x hx;omega)
 simp only [List.length_cons]at h1
 omega
theorem YF {set:List Int} (hcons: ∀x∈set, -x∉set) (h0:(0:Int)∉set) {l:List Int} (hl: ∀x∈l,x≠0) (hne:(jj set l 0).1≠0):
  (jj set l 0).1∈l/\(jj set l 0).1∉set/\ -(jj set l 0).1∉set:=by
 have key: ∀(l:List Int) (o:Int),(∀x∈l,x≠0)->(o=0\/(o∉set/\ -o∉set))->(jj set l o).1≠0->
   ((jj set l o).1∈l\/(jj set l o).1=o)/\(jj set l o).1∉set/\ -(jj set l o).1∉set:=by
  intro l
  induction l with
  |nil=>
   intro o _ ho hne
   simp only [jj]at hne⊢
   rcases ho with h|h
   ·exact absurd h hne
   ·exact⟨by simp,h⟩
  |cons x r ih=>
   intro o hx ho hne
   have hr:=fun y hy=>hx y (List.mem_cons_of_mem _ hy)
   simp only [jj]at hne⊢
   split at hne
   ·exact absurd rfl hne
   ·rename_i h1
    rw [if_neg h1]
    split at hne
    ·rename_i h2
     rw [if_pos h2]
     have:=ih o hr ho hne
     exact⟨this.1.imp (List.mem_cons_of_mem _) id,this.2⟩
    ·rename_i h2
     rw [if_neg h2]
     split at hne
     ·exact absurd rfl hne
     ·rename_i h3
      rw [if_neg h3]
      have:=ih x hr (.inr ⟨by simpa using h1,by simpa using h2⟩) hne
      refine⟨.inl ?_,this.2⟩
      rcases this.1 with h|h
      ·exact List.mem_cons_of_mem _ h
      ·rw [h];simp
 have:=key l 0 hl (.inl rfl) hne
 refine⟨?_,this.2⟩
 rcases this.1 with h|h
 ·exact h
 ·exact absurd h hne
theorem sQ {v:Int}: ∀(cls:List (List Int)) (set:List Int) (more:Bool),rE v set->(∀l∈cls,∀x∈l,x≠0/\ -v<=x/\x<=v)->
  ∀set' more',px cls set more=some (set',more')->rE v set'/\set.length<=set'.length/\(more'=true->more=true\/set.length<set'.length):=by
 intro cls
 induction cls with
 |nil=>intro set more k _ set' more' h;simp only [px,Option.some.injEq,Prod.mk.injEq]at h;obtain⟨rfl,rfl⟩:=h;exact⟨k,by omega, .inl⟩
 |cons l r ih=>
  intro set more k hc set' more' h
  have h0:(0:Int)∉set:=fun h=>(k.lit 0 h).1 rfl
  simp only [px]at h
  split at h
  ·cases h
  ·split at h
   ·rename_i hne
    have hne':(jj set l 0).1≠0:=by simpa using hne
    have hl:=hc l (by simp)
    have hn:=YF k.cons h0 (fun x hx=>(hl x hx).1) hne'
    have:=ih (set++ [(jj set l 0).1]) true (k.add (hl _ hn.1) hn.2.1 hn.2.2) (fun l' h'=>hc l' (by simp [h'])) _ _ h
    simp only [List.length_append,List.length_cons,List.length_nil]at this
    exact⟨this.1,by omega,fun _=> .inr (by omega)⟩
   ·exact ih set more k (fun l' h'=>hc l' (by simp [h'])) _ _ h
theorem Ea {v:Int}: ∀(g:List Int) (set:List Int),rE v set->(∀x∈g,x≠0/\ -v<=x/\x<=v)-> ∀set',wq g set=some set'->rE v set':=by
 intro g
 induction g with
 |nil=>intro set k _ set' h;simp only [wq,Option.some.injEq]at h;subst h;exact k
 |cons x r ih=>
  intro set k hg set' h
  simp only [wq]at h
  split at h
  ·cases h
  ·rename_i h1
   refine ih _ ?_ (fun y hy=>hg y (by simp [hy])) _ h
   split
   ·exact k
   ·rename_i h2
    exact k.add (hg x (by simp)) (by simpa using h2) (by simpa using h1)
theorem R2 {α:Type} {xs:List α} {p:α->Bool} {i:Nat} (hi:i<xs.length):(xs.take (i+1)).any p=((xs.take i).any p||p xs[i]):=by
 rw [List.take_succ_eq_append_getElem hi,List.any_append];simp
structure J4 (h:Hp) (t:Sl) (ts:List Sl) (xss:List (List Int)):Prop where
 len:ts.length=xss.length
 outer:SlC (h.wo (ts.flatMap Sl.used)) t 1 (ts.map Sl.v)
 inner: ∀(i:Nat) (h1:i<ts.length) (h2:i<xss.length),Own h ts[i] 1 (xss[i].map I)
theorem J4.ints {h:Hp} {t:Sl} {ts:List Sl} {xss:List (List Int)} (e:J4 h t ts xss):IntSS h t xss:=
 ⟨ts,e.len,e.outer.mono (un _ _),fun i h1 h2=>(e.inner i h1 h2).slc⟩
theorem J4.mono {h h':Hp} {t:Sl} {ts:List Sl} {xss:List (List Int)} (l:h.le h') (e:J4 h t ts xss):J4 h' t ts xss:=
 ⟨e.len,e.outer.mono (vH (Hp.le_trans (un _ _) l) fun b hb=>fT hb),fun i h1 h2=>(e.inner i h1 h2).mono l⟩
theorem J4.used {h:Hp} {t:Sl} {ts:List Sl} {xss:List (List Int)} (e:J4 h t ts xss): ∀b∈ts.flatMap Sl.used,h b≠none:=by
 intro b hb
 obtain⟨u,hu,hbu⟩:=List.mem_flatMap.1 hb
 obtain⟨i,hi,rfl⟩:=List.getElem_of_mem hu
 exact(e.inner i hi (by rw [<-e.len];exact hi)).used b hbu
theorem et {h:Hp} {x a b:Int} {R:Value->Hp->Prop} (k:R (.bool (decide (a<=x/\x<=b))) h):cX #[I x,I a,I b] h R:=by
 apply Rh
 refine uf_ ?_
 refine ad (fun e=>?_) (fun e=>?_)
 ·simp at e;simpa [e] using k
 ·simp at e;rwa [decide_eq_false (by omega)]at k
theorem gU {h:Hp} {x a b:Int} {R:Value->Hp->Prop} (k:R (.bool (decide (a<=x/\x<=b))) h):dS #[I x,I a,I b] h R:=by
 apply Yv
 refine uf_ ?_
 refine ad (fun e=>?_) (fun e=>?_)
 ·simp at e;simpa [e] using k
 ·simp at e;rwa [decide_eq_false (by omega)]at k
def L9 (vars n:Int):Bool:=decide (n≠0/\ -vars<=n/\n<=vars)
def iQ (vars:Int) (l:List Int):Bool:=decide (l.length<=10)&&l.all (L9 vars)
def eQ (vars:Int) (c:List (List Int)):Bool:=decide (1<=vars/\vars<=10)&&(decide (c.length<=60)&&c.all (iQ vars))
def Mo {α:Type} (p:α->Bool) (xs:List α):Int:=match xs.findIdx? p with|some i=>i|none=> -1
theorem uR {α:Type} {p:α->Bool} {xs:List α} (e:xs.any p=false):Mo p xs= -1:=by
 have:xs.findIdx? p=none:=by
  rw [List.findIdx?_eq_none_iff];intro x hx;rw [List.any_eq_false]at e;simpa using e x hx
 simp [Mo,this]
theorem BM {α:Type} {p:α->Bool} {xs:List α} {i:Nat} (hi:i<xs.length) (e:(xs.take i).any p=false) (hp:p xs[i]=true):Mo p xs=i:=by
 have:xs.findIdx? p=some i:=by
  rw [List.findIdx?_eq_some_iff_getElem]
  refine⟨hi,hp,fun j hj=>?_⟩
  rw [List.any_eq_false]at e
  exact e _ (by rw [List.mem_take_iff_getElem];exact⟨j,by omega,rfl⟩)
 simp [Mo,this]
theorem QK {α:Type} (p:α->Bool) (xs:List α):decide (Mo p xs>=0)=xs.any p:=by
 cases h:xs.any p with
 |false=>rw [uR h];rfl
 |true=>
  unfold Mo
  cases h':xs.findIdx? p with
  |some i=>simp
  |none=>rw [List.findIdx?_eq_none_iff]at h';rw [List.any_eq_true]at h;obtain⟨x,hx,hp⟩:=h;simp [h' x hx]at hp
theorem vF {h:Hp} {s:Sl} {xs:List Int} {f:FuncId} {u w:Array Value} (p:Int->Bool) {R:Value->Hp->Prop} (hs:IntS h s xs)
  (hf: ∀x∈xs,∀R:Value->Hp->Prop,R (.bool (p x)) h->ACalls PR f ((u++ #[I x])++w) h R)
  (k:R (I (Mo p xs)) h):gk #[s.v, .func (.func f) u w] h R:=by
 apply uy
 refine uf_ ?_
 have hb:=hs.bound
 refine au xs.length (fun i vs h'=>vs= [s.v, .func (.func f) u w,I xs.length,I i]/\h'=h/\(xs.take i).any p=false) ⟨by rw [hs.len];rfl,rfl,by simp⟩ ?_
 rintro i _ _ next hi ⟨rfl,rfl,hp⟩ hn
 refine⟨_,_,_,_,_,_,rfl,?_⟩
 by_cases hlt:i<xs.length
 ·obtain⟨b,o,ha,hc⟩:=hs.at hlt
  refine aM (by simp [hlt]) ?_
  simp only [vm,hs.len,ha,hc,ay (n:=i) (by omega)]
  refine⟨by omega,hf _ (List.getElem_mem hlt) _ ⟨_,rfl,ad (fun he=>?_) (fun he=>?_)⟩⟩
  ·rwa [BM hlt hp he]at k
  ·exact hn hlt _ _ ⟨rfl,rfl,by rw [R2 hlt,hp,he];rfl⟩
 ·have:i=xs.length:=by omega
  subst this
  rw [List.take_length]at hp
  refine aC (by simp) ?_
  rwa [uR hp]at k
theorem rC {h:Hp} {s:Sl} {xs:List Int} {f:FuncId} {u w:Array Value} (p:Int->Bool) {R:Value->Hp->Prop} (hs:IntS h s xs)
  (hf: ∀x∈xs,∀R:Value->Hp->Prop,R (.bool (p x)) h->ACalls PR f ((u++ #[I x])++w) h R)
  (k:R (.bool (xs.any p)) h):ff #[s.v, .func (.func f) u w] h R:=by
 apply rN
 refine uf_ ?_
 exact vF p hs hf ⟨_,rfl,by rwa [QK]⟩
def tu (h:Hp) (s:Sl) (xs:List Bool):Prop:=SlC h s 1 (xs.map Value.bool)
theorem tu.mono {h h':Hp} {s:Sl} {xs:List Bool} (l:h.le h') (e:tu h s xs):tu h' s xs:=SlC.mono l e
theorem tu.len {h:Hp} {s:Sl} {xs:List Bool} (e:tu h s xs):s.n=xs.length:=by have:=e.2.1;simp at this;omega
theorem tu.bound {h:Hp} {s:Sl} {xs:List Bool} (e:tu h s xs):xs.length<=9223372036854775807:=by rw [<-e.len];exact e.1
theorem tu.at {h:Hp} {s:Sl} {xs:List Bool} (e:tu h s xs) {i:Nat} (hi:i<xs.length):
  ∃b o,s.a=some (Addr.mk b o none)/\Hp.cell h b (o+i)=some (.bool xs[i]):=by
 have hl:=e.len
 obtain⟨b,o,ha,hc⟩:=SlC.get e (by omega)
 exact⟨b,o,ha,hc i _ (by simp [hi])⟩
theorem jM {h:Hp} {c n:Nat} {R:Value->Hp->Prop} (hn:n<=64) (k:R (I (if c.testBit n then 1 else 0)) h):eF #[I c,I n] h R:=by
 apply Q4
 refine uf_ ?_
 rw [cZ (by omega),if_neg (by omega),jF hn,LK,ahr]
 split<;>simp_all
theorem L9.iff {v n:Int}:L9 v n=true↔n≠0/\ -v<=n/\n<=v:=by simp [L9]
theorem iQ.lit {v:Int} {l:List Int} (e:iQ v l=true) {n:Int} (hn:n∈l):L9 v n=true:=by
 simp only [iQ,Bool.and_eq_true,List.all_eq_true]at e;exact e.2 n hn
theorem iQ.len {v:Int} {l:List Int} (e:iQ v l=true):l.length<=10:=by
 simp only [iQ,Bool.and_eq_true,decide_eq_true_eq]at e;exact e.1
theorem eQ.iff {v:Int} {c:List (List Int)}:eQ v c=true↔(1<=v/\v<=10)/\c.length<=60/\ ∀l∈c,iQ v l=true:=by
 simp [eQ,List.all_eq_true]
theorem Yi (xs:List Int):(xs.map I).all (·.oneCell')=true:=by
 rw [List.all_eq_true]
 intro v hv
 obtain⟨x,_,rfl⟩:=List.mem_map.1 hv
 rfl
theorem IntS.slc {h:Hp} {s:Sl} {xs:List Int} (e:IntS h s xs):SlC h s 1 (xs.map I):=e
theorem kI {h:Hp} {s:Sl} {xs:List Int} {R:Value->Hp->Prop} (hs:IntS h s xs) (hl:xs.length<=1048576)
  (k: ∀t h',h.le h'->Buf (h'.sub h) t 1 (xs.map I)->R (Sl.v t) h'):ez #[s.v] h R:=by
 apply yi
 refine uf_ ?_
 have:=hs.len
 exact O0 hs (by omega) (Yi _) fun t h' hn hle hb=>k t h' hle hb
theorem ZZ : ∀(vs cs:List Value) (o:Nat),(bX cs o vs).take o=cs.take o/\(bX cs o vs).length=cs.length:=by
 intro vs
 induction vs with
 |nil=>intro cs o;exact⟨rfl,rfl⟩
 |cons v r ih=>
  intro cs o
  have h:=ih (cs.set o v) (o+1)
  simp only [bX]
  refine⟨?_,by rw [h.2];simp⟩
  have h1:=congrArg (List.take o) h.1
  rw [List.take_take,List.take_take,Nat.min_eq_left (by omega)]at h1
  rw [h1,List.take_set_of_le (Nat.le_refl o)]
theorem Sh (l:List UInt8): ∀(k i:Nat) (r:List UInt8),i+k=l.length->ByteArray.toList.loop ⟨l.toArray⟩ i r=r.reverse++l.drop i:=by
 intro k
 induction k with
 |zero=>
  intro i r hi
  unfold ByteArray.toList.loop
  rw [if_neg (by simp [ByteArray.size];omega),List.drop_eq_nil_of_le (by omega),List.append_nil]
 |succ k ih=>
  intro i r hi
  unfold ByteArray.toList.loop
  rw [if_pos (by simp [ByteArray.size];omega),ih (i+1) _ (by omega),List.drop_eq_getElem_cons (i:=i) (by omega)]
  simp [ByteArray.get!,show i<l.length by omega]
theorem nM (l:List UInt8):(⟨l.toArray⟩:ByteArray).toList=l:=by
 unfold ByteArray.toList
 rw [Sh l l.length 0 [] (by omega)];rfl
def eU (n:Nat) (f:Nat->Bool):List Value:=(List.range (2^n)).map fun i=>Value.int .u8 (if f i then 1 else 0)
def dw (n:Nat) (f:Nat->Bool):List UInt8:=(List.range (2^n)).map fun i=>if f i then 1 else 0
theorem Nv (n:Nat) (f:Nat->Bool):fH (dw n f)=eU n f:=by
 unfold fH dw eU
 rw [List.map_map]
 apply List.map_congr_left
 intro i _
 simp only [Function.comp]
 cases f i<;>rfl
def Dr (h:Hp) (t:Sl) (n:Nat) (f:Nat->Bool):Prop:=SlC h t 1 (eU n f)
theorem Dr.mono {h h':Hp} {t:Sl} {n:Nat} {f:Nat->Bool} (l:h.le h') (e:Dr h t n f):Dr h' t n f:=SlC.mono l e
theorem Dr.len {h:Hp} {t:Sl} {n:Nat} {f:Nat->Bool} (e:Dr h t n f):t.n=2^n:=by have:=e.2.1;simp [eU]at this;omega
theorem Dr.at {h:Hp} {t:Sl} {n:Nat} {f:Nat->Bool} (e:Dr h t n f) {i:Nat} (hi:i<2^n):
  ∃b o,t.a=some (Addr.mk b o none)/\Hp.cell h b (o+i)=some (.int .u8 (if f i then 1 else 0)):=by
 have hl:=e.len
 obtain⟨b,o,ha,hc⟩:=SlC.get e (by omega)
 exact⟨b,o,ha,hc i _ (by simp [eU,hi])⟩
theorem Dr.all {h:Hp} {t:Sl} {n:Nat} {f:Nat->Bool} (e:Dr h t n f):pD h t.a t.n (fH (dw n f)):=by
 rw [Nv]
 exact⟨by rw [e.2.1,Nat.mul_one],e.2.2⟩
theorem Bu {h:Hp} {c:Bool} {R:Value->Hp->Prop} (k:R (I (if c then 1 else 0)) h):rZ #[.bool c] h R:=by
 apply UK
 refine uf_ ?_
 cases c<;>exact k
def aiX (h:Hp) (fid:FuncId) (u w:Array Value) (n:Nat) (f:Nat->Bool):Prop:=
 ∀(i:Nat),i<n-> ∀(h':Hp),h.le h'-> ∀R:Value->Hp->Prop,R (.bool (f i)) h'->ACalls PR fid ((u++ #[I i])++w) h' R
def cW (ns:List Nd):List Value:=ns.flatMap fun n=> [I n.v,I n.lo,I n.hi]
def LL (n:Nd):Value:= .agg #[I n.v,I n.lo,I n.hi]
structure BI (h:Hp) (B rs rn:Nat) (vars:Nat) (s:Sl) (ns:List Nd) (es:List (ByteArray×Nat)):Prop where
 row:h B=some (.inl ⟨[I vars,s.v,I 0, .map (some rs), .map (some rn)],5,false⟩)
 buf:Buf h s 3 (cW ns)
 seen:h rs=some (.inr (es.map fun e=>(.string e.1,I e.2)))
 nodes:h rn=some (.inr (ns.zipIdx.map fun e=>(LL e.1,I (e.2+2:Nat))))
 far:rs≠rn
 own: ∀a,s.a=some a->a.block≠B
 true: ∀e∈es,∃n f low,low+n=vars/\e.1=⟨(dw n f).toArray⟩/\mkD n f low ns=(e.2,ns)
theorem BI.mono {h h':Hp} {B rs rn vars:Nat} {s:Sl} {ns:List Nd} {es:List (ByteArray×Nat)} (l:h.le h') (e:BI h B rs rn vars s ns es):BI h' B rs rn vars s ns es:=
 ⟨l _ _ e.row,e.buf.mono l,l _ _ e.seen,l _ _ e.nodes,e.far,e.own,e.true⟩
theorem mM (ns:List Nd):(cW ns).length=ns.length*3:=by
 induction ns with
 |nil=>rfl
 |cons n ns ih=>simp only [cW,List.flatMap_cons,List.length_append,List.length_cons,List.length_nil]at ih⊢;omega
structure Bd where
 v:Int
 ns:List Nd
 r:Int
 ok:Bool
def km :Bd:=⟨0, [],0,false⟩
def xO (h:Hp) (s:Sl) (xs:List Int):Prop:=Buf h s 1 (xs.map I)
theorem xO.len {h:Hp} {s:Sl} {xs:List Int} (e:xO h s xs):s.n=xs.length:=by have:=e.1;simp at this;omega
theorem xO.ints {h:Hp} {s:Sl} {xs:List Int} (e:xO h s xs) (hn:xs.length<=1048576):IntS h s xs:=Buf.slc e (by rw [e.len];omega)
theorem xO.mono {h h':Hp} {s:Sl} {xs:List Int} (l:h.le h') (e:xO h s xs):xO h' s xs:=Buf.mono l e
theorem SN {h:Hp} {s:Sl} {xs:List Int} {x:Int} {b:Nat} {K:Option Addr->Nat->Nat->Hp->Prop} (hb:xO h s xs) (hl:xs.length<=1048576) (hc:Hp.cell h b 0=some (I x))
  (k: ∀(s':Sl) (h':Hp),xO h' s' (xs++ [x])->(h.offS s).le (h'.offS s')->K s'.a s'.n s'.c h'):cy h s.a s.n s.c (some ⟨b,0,none⟩) 1 1 8 K:=by
 refine dG hb (by omega) (by rw [hb.len];omega) (by rw [hb.len];omega) ⟨b,0,rfl,fun i v hi=>?_⟩ (news:= [I x]) rfl rfl ?_
 ·cases i with
  |zero=>simp at hi;subst hi;exact hc
  |succ i=>simp at hi
 ·intro s' h' hn hbuf hle _
  exact k s' h' (by unfold xO;rw [List.map_append];exact hbuf) hle
structure iP (h h':Hp) (t:Sl) (set:List Int):Prop where
 buf:xO h' t set
 le:h.le (h'.offS t)
theorem iP.keep {h h':Hp} {t:Sl} {set:List Int} (e:iP h h' t set):h.le h':=Hp.le_trans e.le (aW _ _)
theorem iP.app {h h':Hp} {t:Sl} {set:List Int} {x:Int} {b:Nat} {K:Option Addr->Nat->Nat->Hp->Prop} (e:iP h h' t set) (hl:set.length<=1048576) (hb:h' b=none)
  (k: ∀(t':Sl) (h'':Hp),iP h h'' t' (set++ [x])->K t'.a t'.n t'.c h''):cy (h'.row b [I x] 1) t.a t.n t.c (some ⟨b,0,none⟩) 1 1 8 K:=by
 have l:=gp [I x] 1 hb
 refine SN (e.buf.mono l) hl (sY _ _ _ _ _) fun t' h'' hb' hl'=>k t' h'' ⟨hb',Hp.le_trans (Hp.le_trans e.le (bC t l)) hl'⟩
theorem iP.own {h h':Hp} {t:Sl} {set:List Int} (e:iP h h' t set) (hl:set.length<=1048576):Own (h'.sub h) t 1 (set.map I):=by
 have hn:=e.buf.len
 refine⟨e.buf.1,by omega,?_⟩
 rcases e.buf.2.2 with ⟨_,h0,_⟩|⟨b,ha,hb⟩
 ·exact .inl h0
 ·refine .inr ⟨b,t.c*1,ha,?_⟩
  rw [ln]
  ·exact hb
  ·refine aF e.le ?_
   simp [Hp.offS,ha,Hp.off,Hp.set]
theorem iQ.all {v:Int} {l:List Int} (e:iQ v l=true): ∀x∈l,x≠0/\ -v<=x/\x<=v:=fun x hx=>L9.iff.1 (iQ.lit e hx)
def Ep (set:List Int):List (Value×Value):=set.map fun x=>(I x, .bool true)
theorem Zj (set:List Int) (n:Int): ∃res,gV (Instr.sameNow (.int .i64) (I n)) (Ep set) 0=some res/\Option.getD (Option.map (fun p=>p.2) res) (.bool false)= .bool (set.contains n)/\
  yQ (Ep set) (I n) (.bool true) res=Ep (if set.contains n then set else set++ [n]):=by
 unfold Ep
 rcases tt (Instr.sameNow (.int .i64) (I n)) (fun x:Int=>I x) (fun _=> .bool true) (fun x=>n==x) set 0 (fun x _=>Sx _ _ _)with ⟨hno,hm⟩|⟨j,hj,hyes,_,hm⟩
 ·have hc:set.contains n=false:=by
   rw [Bool.eq_false_iff];intro h
   have:=hno n (by simpa using h)
   simp at this
  exact⟨_,hm,by rw [hc];rfl,by rw [hc];simp [yQ]⟩
 ·have he:n=set[j]:=by simpa using hyes
  have hc:set.contains n=true:=by
   rw [he];simp
  refine⟨_,hm,by rw [hc];rfl,?_⟩
  rw [hc,if_pos rfl]
  simp only [yQ,Nat.zero_add]
  apply List.ext_getElem
  ·simp
  ·intro i h1 h2
   rw [List.getElem_set]
   split
   ·rename_i hij;subst hij;simp [he]
   ·rfl
structure eh (h h':Hp) (t:Sl) (xss:List (List Int)):Prop where
 buf: ∃ts:List Sl,Buf h' t 1 (ts.map Sl.v)/\ts.length=xss.length/\ ∀(i:Nat) (h1:i<ts.length) (h2:i<xss.length),IntS h ts[i] xss[i]
 le:h.le (h'.offS t)
theorem eh.keep {h h':Hp} {t:Sl} {xss:List (List Int)} (e:eh h h' t xss):h.le h':=Hp.le_trans e.le (aW _ _)
theorem eh.ints {h h':Hp} {t:Sl} {xss:List (List Int)} (e:eh h h' t xss) (hl:xss.length<=1048576):IntSS h' t xss:=by
 obtain⟨ts,hb,h1,h2⟩:=e.buf
 have hn:t.n=xss.length:=by have:=hb.1;simp at this;omega
 exact⟨ts,h1,hb.slc (by omega),fun i a b=>(h2 i a b).mono e.keep⟩
theorem eh.app {h h':Hp} {t u:Sl} {xss:List (List Int)} {x:List Int} {b:Nat} {K:Option Addr->Nat->Nat->Hp->Prop} (e:eh h h' t xss) (hl:xss.length<=1048576) (hu:IntS h u x) (hb:h' b=none)
  (k: ∀(t':Sl) (h'':Hp),eh h h'' t' (xss++ [x])->K t'.a t'.n t'.c h''):cy (h'.row b [u.v] 1) t.a t.n t.c (some ⟨b,0,none⟩) 1 1 24 K:=by
 have l:=gp [u.v] 1 hb
 obtain⟨ts,hbuf,h1,h2⟩:=e.buf
 have hn:t.n=xss.length:=by have:=hbuf.1;simp at this;omega
 refine dG (hbuf.mono l) (by omega) (by omega) (by omega) ⟨b,0,rfl,fun i v hi=>?_⟩ (news:= [u.v]) rfl rfl ?_
 ·cases i with
  |zero=>simp at hi;subst hi;exact sY _ _ _ _ _
  |succ i=>simp at hi
 ·intro t' h'' hn' hb' hle _
  refine k t' h'' ⟨⟨ts++ [u],by rw [List.map_append];exact hb',by simp [h1],?_⟩,Hp.le_trans (Hp.le_trans e.le (bC t l)) hle⟩
  intro i a c
  by_cases hi:i<ts.length
  ·rw [List.getElem_append_left hi,List.getElem_append_left (by omega)];exact h2 i hi (by omega)
  ·have:i=ts.length:=by simp at a;omega
   subst this
   simp only [List.getElem_append_right (Nat.le_refl _),Nat.sub_self,List.getElem_cons_zero]
   simp only [h1,List.getElem_append_right (Nat.le_refl _),Nat.sub_self,List.getElem_cons_zero]
   exact hu
def zv (S:List Int) (l:List Int):Prop:=
 (∃x∈l,x∈S)\/ ∃x∈l,∃y∈l,x≠y/\(x∉S/\ -x∉S)/\(y∉S/\ -y∉S)
def U9 (S:List Int):Prop:= ∀x∈S, -x∉S
def WfL (v:Int) (l:List Int):Prop:= ∀x∈l,x≠0/\ -v<=x/\x<=v
def WfC (v:Int) (c:List (List Int)):Prop:= ∀l∈c,WfL v l
theorem Hg (set:List Int): ∀(l:List Int) (left:Int),(∀x∈l,x≠0)->(left≠0->left∉set/\ -left∉set)->
  (jj set l left=(0,false)/\((∃x∈l,x∈set)\/ ∃x∈l,∃y∈left::l,y≠0/\x≠y/\(x∉set/\ -x∉set)/\(y∉set/\ -y∉set)))\/
  ((jj set l left).2=((jj set l left).1==0)/\(left≠0->(jj set l left).1=left)/\ ∀x∈l,x=(jj set l left).1\/ -x∈set):=by
 intro l
 induction l with
 |nil=>intro left _ _;exact .inr ⟨rfl,fun _=>rfl,by simp⟩
 |cons x r ih=>
  intro left hx ho
  have hr:=fun y hy=>hx y (List.mem_cons_of_mem _ hy)
  have hx0:=hx x (by simp)
  simp only [jj]
  by_cases h1:set.contains x=true
  ·rw [if_pos h1];exact .inl ⟨rfl, .inl ⟨x,by simp,by simpa using h1⟩⟩
  rw [if_neg h1]
  by_cases h2:set.contains (-x)=true
  ·rw [if_pos h2]
   rcases ih left hr ho with ⟨e,h⟩|⟨e,h,h'⟩
   ·refine .inl ⟨e,?_⟩
    rcases h with ⟨z,hz,hs⟩|⟨z,hz,y,hy,h⟩
    ·exact .inl ⟨z,by simp [hz],hs⟩
    ·refine .inr ⟨z,by simp [hz],y,?_,h⟩
     rcases List.mem_cons.1 hy with rfl|hy
     ·simp
     ·simp [hy]
   ·refine .inr ⟨e,h,?_⟩
    intro z hz
    rcases List.mem_cons.1 hz with rfl|hz
    ·exact .inr (by simpa using h2)
    ·exact h' z hz
  rw [if_neg h2]
  have hxo:x∉set/\ -x∉set:=⟨by simpa using h1,by simpa using h2⟩
  by_cases h3:(left !=0&&left !=x)=true
  ·rw [if_pos h3]
   simp at h3
   exact .inl ⟨rfl, .inr ⟨x,by simp,left,by simp,h3.1,fun e=>h3.2 e.symm,hxo,ho h3.1⟩⟩
  rw [if_neg h3]
  have hl:left≠0->left=x:=by simpa using h3
  rcases ih x hr (fun _=>hxo)with ⟨e,h⟩|⟨e,h,h'⟩
  ·refine .inl ⟨e,?_⟩
   rcases h with ⟨z,hz,hs⟩|⟨z,hz,y,hy,h⟩
   ·exact .inl ⟨z,by simp [hz],hs⟩
   ·exact .inr ⟨z,by simp [hz],y,List.mem_cons_of_mem _ hy,h⟩
  ·refine .inr ⟨e,fun h0=>?_,?_⟩
   ·rw [h hx0,hl h0]
   ·intro z hz
    rcases List.mem_cons.1 hz with rfl|hz
    ·exact .inl (h hx0).symm
    ·exact h' z hz
theorem Xk {set S l:List Int} (hs:set⊆S) (hc:U9 S) (hl: ∀x∈l,x≠0) (st:zv S l):
  (jj set l 0).2=false/\((jj set l 0).1≠0->(jj set l 0).1∈S):=by
 rcases Hg set l 0 hl (fun h=>absurd rfl h)with ⟨e,_⟩|⟨e,_,h⟩
 ·rw [e];exact⟨rfl,fun h=>absurd rfl h⟩
 ·obtain⟨x,hx,hn,hS⟩: ∃x∈l,x=(jj set l 0).1/\x∈S:=by
   rcases st with ⟨x,hx,hS⟩|⟨x,hx,y,hy,hne,hxo,hyo⟩
   ·rcases h x hx with h1|h1
    ·exact⟨x,hx,h1,hS⟩
    ·exact absurd (hs h1) (hc x hS)
   ·rcases h x hx with h1|h1
    ·rcases h y hy with h2|h2
     ·exact absurd (h1.trans h2.symm) hne
     ·exact absurd (hs h2) hyo.2
    ·exact absurd (hs h1) hxo.2
  rw [e,<-hn]
  exact⟨by simpa using hl x hx,fun _=>hS⟩
theorem Qs {set l:List Int} (hl: ∀x∈l,x≠0) (h1:(jj set l 0).2=false) (h2:(jj set l 0).1=0):zv set l:=by
 rcases Hg set l 0 hl (fun h=>absurd rfl h)with ⟨e,h⟩|⟨e,_,h⟩
 ·refine h.imp id ?_
  rintro ⟨x,hx,y,hy,hy0,h⟩
  rcases List.mem_cons.1 hy with rfl|hy
  ·exact absurd rfl hy0
  ·exact⟨x,hx,y,hy,h⟩
 ·rw [h1,h2]at e;simp at e
theorem Oc {S:List Int} (hc:U9 S): ∀(cls:List (List Int)) (set:List Int) (more:Bool),set⊆S->(∀l∈cls,(∀x∈l,x≠0)/\zv S l)->
  ∃set' more',px cls set more=some (set',more')/\set'⊆S:=by
 intro cls
 induction cls with
 |nil=>intro set more hs _;exact⟨set,more,rfl,hs⟩
 |cons l r ih=>
  intro set more hs hl
  have h:=Xk hs hc (hl l (by simp)).1 (hl l (by simp)).2
  have hr:=fun l' h'=>hl l' (List.mem_cons_of_mem _ h')
  simp only [px,h.1,Bool.false_eq_true,if_false]
  split
  ·rename_i hne
   refine ih _ _ ?_ hr
   intro x hx
   rcases List.mem_append.1 hx with hx|hx
   ·exact hs hx
   ·simp only [List.mem_singleton]at hx;subst hx;exact h.2 (by simpa using hne)
  ·exact ih _ _ hs hr
theorem SX : ∀(cls:List (List Int)) (set:List Int) (more:Bool) (set':List Int) (more':Bool),px cls set more=some (set',more')->set⊆set':=by
 intro cls
 induction cls with
 |nil=>intro set more set' more' h;simp only [px,Option.some.injEq,Prod.mk.injEq]at h;rw [h.1];exact fun x hx=>hx
 |cons l r ih=>
  intro set more set' more' h
  simp only [px]at h
  split at h
  ·cases h
  ·split at h
   ·exact fun x hx=>ih _ _ _ _ h (List.mem_append_left _ hx)
   ·exact ih _ _ _ _ h
theorem FC : ∀(cls:List (List Int)) (set:List Int) (more:Bool) (set':List Int),(∀l∈cls,∀x∈l,x≠0)->px cls set more=some (set',false)->
  more=false/\set'=set/\ ∀l∈cls,zv set l:=by
 intro cls
 induction cls with
 |nil=>intro set more set' _ h;simp only [px,Option.some.injEq,Prod.mk.injEq]at h;exact⟨h.2,h.1.symm,by simp⟩
 |cons l r ih=>
  intro set more set' hl h
  have hr:=fun l' h'=>hl l' (List.mem_cons_of_mem _ h')
  simp only [px]at h
  split at h
  ·cases h
  ·rename_i h1
   split at h
   ·have:=(ih _ _ _ hr h).1;cases this
   ·rename_i h2
    obtain⟨e1,e2,e3⟩:=ih _ _ _ hr h
    refine⟨e1,e2,?_⟩
    intro l' h'
    rcases List.mem_cons.1 h' with rfl|h'
    ·exact Qs (hl _ (by simp)) (by simpa using h1) (by simpa using h2)
    ·exact e3 l' h'
theorem zz {cls:List (List Int)} {set:List Int} {v:Int} (hv0:0<=v) (hv:v<=10) (hc:WfC v cls) (k:rE v set):
  mF cls set=match px cls set false with|none=>none|some (set',more)=>if more then mF cls set' else some set':=by
 rw [mF]
 cases hp:px cls set false with
 |none=>rfl
 |some p=>
  obtain⟨set',more⟩:=p
  obtain⟨k',hl,hm⟩:=sQ cls set false k hc _ _ hp
  cases more with
  |false=>rfl
  |true=>
   have h1:set.length<set'.length:=by
    rcases hm rfl with h|h
    ·cases h
    ·exact h
   have h2:=k'.len hv hv0
   simp [h1,h2]
theorem Tw {S:List Int} (hS:U9 S) {cls:List (List Int)} {v:Int} (hv0:0<=v) (hv:v<=10) (hc:WfC v cls) (hst: ∀l∈cls,zv S l):
  ∀(n:Nat) (set:List Int),20-set.length<=n->rE v set->set⊆S-> ∃set',mF cls set=some set'/\set'⊆S:=by
 intro n
 induction n with
 |zero=>
  intro set hn k hs
  obtain⟨set',more',hp,hs'⟩:=Oc hS cls set false hs (fun l h=>⟨fun x hx=>(hc l h x hx).1,hst l h⟩)
  obtain⟨k',hl,hm⟩:=sQ cls set false k hc _ _ hp
  have h2:=k'.len hv hv0
  rw [zz hv0 hv hc k,hp]
  cases more' with
  |false=>exact⟨set',rfl,hs'⟩
  |true=>
   rcases hm rfl with h|h
   ·cases h
   ·omega
 |succ n ih=>
  intro set hn k hs
  obtain⟨set',more',hp,hs'⟩:=Oc hS cls set false hs (fun l h=>⟨fun x hx=>(hc l h x hx).1,hst l h⟩)
  obtain⟨k',hl,hm⟩:=sQ cls set false k hc _ _ hp
  rw [zz hv0 hv hc k,hp]
  cases more' with
  |false=>exact⟨set',rfl,hs'⟩
  |true=>
   rcases hm rfl with h|h
   ·cases h
   ·exact ih set' (by omega) k' hs'
theorem Js {cls:List (List Int)} {v:Int} (hv0:0<=v) (hv:v<=10) (hc:WfC v cls):
  ∀(n:Nat) (set set':List Int),20-set.length<=n->rE v set->mF cls set=some set'->set⊆set'/\rE v set'/\ ∀l∈cls,zv set' l:=by
 intro n
 induction n with
 |zero=>
  intro set set' hn k h
  rw [zz hv0 hv hc k]at h
  cases hp:px cls set false with
  |none=>rw [hp]at h;cases h
  |some p=>
   obtain⟨s,more⟩:=p
   rw [hp]at h
   obtain⟨k',hl,hm⟩:=sQ cls set false k hc _ _ hp
   have h2:=k'.len hv hv0
   cases more with
   |true=>
    rcases hm rfl with h|h
    ·cases h
    ·omega
   |false=>
    simp only [Bool.false_eq_true,if_false,Option.some.injEq]at h
    subst h
    have:=FC cls set false s (fun l h x hx=>(hc l h x hx).1) hp
    rw [this.2.1]
    exact⟨fun x hx=>hx,k,this.2.2⟩
 |succ n ih=>
  intro set set' hn k h
  rw [zz hv0 hv hc k]at h
  cases hp:px cls set false with
  |none=>rw [hp]at h;cases h
  |some p=>
   obtain⟨s,more⟩:=p
   rw [hp]at h
   obtain⟨k',hl,hm⟩:=sQ cls set false k hc _ _ hp
   cases more with
   |true=>
    rcases hm rfl with h'|h'
    ·cases h'
    ·simp only [if_true]at h
     obtain⟨a,b,c⟩:=ih s set' (by omega) k' h
     exact⟨fun x hx=>a (SX _ _ _ _ _ hp hx),b,c⟩
   |false=>
    simp only [Bool.false_eq_true,if_false,Option.some.injEq]at h
    subst h
    have:=FC cls set false s (fun l h x hx=>(hc l h x hx).1) hp
    rw [this.2.1]
    exact⟨fun x hx=>hx,k,this.2.2⟩
theorem Vn {S:List Int} (hS:U9 S): ∀(g set:List Int),g⊆S->set⊆S-> ∃set',wq g set=some set'/\set'⊆S:=by
 intro g
 induction g with
 |nil=>intro set _ hs;exact⟨set,rfl,hs⟩
 |cons x r ih=>
  intro set hg hs
  have hx:x∈S:=hg (by simp)
  have hr:r⊆S:=fun y hy=>hg (List.mem_cons_of_mem _ hy)
  have hn: ¬set.contains (-x)=true:=fun h=>hS x hx (hs (by simpa using h))
  simp only [wq,if_neg hn]
  refine ih _ hr ?_
  split
  ·exact hs
  ·intro y hy
   rcases List.mem_append.1 hy with hy|hy
   ·exact hs hy
   ·simp only [List.mem_singleton]at hy;subst hy;exact hx
theorem T5 : ∀(g set set':List Int),wq g set=some set'->set⊆set'/\g⊆set':=by
 intro g
 induction g with
 |nil=>intro set set' h;simp only [wq,Option.some.injEq]at h;subst h;exact⟨fun x hx=>hx,by simp⟩
 |cons x r ih=>
  intro set set' h
  simp only [wq]at h
  split at h
  ·cases h
  ·obtain⟨h1,h2⟩:=ih _ _ h
   split at h1
   ·rename_i hx
    refine⟨h1,?_⟩
    intro y hy
    rcases List.mem_cons.1 hy with rfl|hy
    ·exact h1 (by simpa using hx)
    ·exact h2 hy
   ·refine⟨fun y hy=>h1 (List.mem_append_left _ hy),?_⟩
    intro y hy
    rcases List.mem_cons.1 hy with rfl|hy
    ·exact h1 (by simp)
    ·exact h2 hy
section
variable {cls :List (List Int)} {given:List Int} {v:Int}
theorem Ob (hv0:0<=v) (hv:v<=10) (hc:WfC v cls) (hg:WfL v given) {S:List Int} (hS:U9 S) (hgS:given⊆S) (hst: ∀l∈cls,zv S l):
  ∃set,lr cls given=some set/\set⊆S:=by
 obtain⟨s,h1,h2⟩:=Vn hS given [] hgS (by simp)
 obtain⟨s',h3,h4⟩:=Tw hS hv0 hv hc hst _ s (Nat.le_refl _) (Ea given [] (Pl v) hg s h1) h2
 exact⟨s',by rw [lr,h1];exact h3,h4⟩
theorem yW (hv0:0<=v) (hv:v<=10) (hc:WfC v cls) (hg:WfL v given) {set:List Int} (h:lr cls given=some set):
  U9 set/\given⊆set/\(∀l∈cls,zv set l)/\rE v set:=by
 rw [lr]at h
 cases h1:wq given []with
 |none=>rw [h1]at h;cases h
 |some s=>
  rw [h1]at h
  have k:=Ea given [] (Pl v) hg s h1
  obtain⟨a,b,c⟩:=Js hv0 hv hc _ s set (Nat.le_refl _) k h
  exact⟨b.cons,fun x hx=>a ((T5 _ _ _ h1).2 hx),c,b⟩
theorem DY (hv0:0<=v) (hv:v<=10) {cls':List (List Int)} {given':List Int} (hc:WfC v cls') (hg:WfL v given') (h1:cls⊆cls') (h2:given⊆given')
  (h:lr cls given=none):lr cls' given'=none:=by
 cases h':lr cls' given' with
 |none=>rfl
 |some set=>
  obtain⟨a,b,c,_⟩:=yW hv0 hv hc hg h'
  obtain⟨s,hs,_⟩:=Ob hv0 hv (fun l hl=>hc l (h1 hl)) (fun x hx=>hg x (h2 hx)) a (fun x hx=>b (h2 hx)) (fun l hl=>c l (h1 hl))
  rw [hs]at h;cases h
end
def jO (cls:List (List Int)) (p:List (List Int)):Prop:= ∀(i:Nat) (h:i<p.length),lr (cls++p.take i) (p[i].map (- ·))=none
theorem IY {v:Int} {l:List Int} (h:WfL v l):WfL v (l.map (- ·)):=by
 intro x hx
 obtain⟨y,hy,rfl⟩:=List.mem_map.1 hx
 have:=h y hy
 omega
theorem zr {v:Int} {a b:List (List Int)} (ha:WfC v a) (hb:WfC v b):WfC v (a++b):=by
 intro l hl
 rcases List.mem_append.1 hl with h|h
 ·exact ha l h
 ·exact hb l h
theorem R8 {v:Int} {a:List (List Int)} (ha:WfC v a) (n:Nat):WfC v (a.take n):=fun l hl=>ha l (List.mem_of_mem_take hl)
theorem jO.mono {v:Int} (hv0:0<=v) (hv:v<=10) {cls cls' p:List (List Int)} (hc:WfC v cls') (hp:WfC v p) (hs:cls⊆cls') (h:jO cls p):jO cls' p:=by
 intro i hi
 refine DY hv0 hv (zr hc (R8 hp i)) (IY (hp _ (List.getElem_mem hi))) ?_ (fun x hx=>hx) (h i hi)
 intro l hl
 rcases List.mem_append.1 hl with h|h
 ·exact List.mem_append_left _ (hs h)
 ·exact List.mem_append_right _ h
theorem jO.snoc {cls p:List (List Int)} {l:List Int} (h:jO cls p) (hl:lr (cls++p) (l.map (- ·))=none):jO cls (p++ [l]):=by
 intro i hi
 by_cases hlt:i<p.length
 ·rw [List.getElem_append_left hlt,List.take_append_of_le_length (by omega)]
  exact h i hlt
 ·have:i=p.length:=by simp at hi;omega
  subst this
  simp only [List.getElem_append_right (Nat.le_refl _),Nat.sub_self,List.getElem_cons_zero]
  rw [List.take_left' rfl];exact hl
def yJ (B:List Int):Prop:= ∀(i:Nat) (h:i<B.length),B[i]=(i:Int)+1\/B[i]= -((i:Int)+1)
theorem yJ.snoc {B:List Int} (h:yJ B) {x:Int} (hx:x=(B.length:Int)+1\/x= -((B.length:Int)+1)):yJ (B++ [x]):=by
 intro i hi
 by_cases hlt:i<B.length
 ·rw [List.getElem_append_left hlt];exact h i hlt
 ·have:i=B.length:=by simp at hi;omega
  subst this
  simp only [List.getElem_append_right (Nat.le_refl _),Nat.sub_self,List.getElem_cons_zero]
  exact hx
def dl :Nat->(Nat->Bool)->Nat
 |0,_=>0
 |n+1,f=>dl n f+(if f n then 2^n else 0)
theorem uT (n:Nat) (f:Nat->Bool):dl n f<2^n:=by
 induction n with
 |zero=>simp [dl]
 |succ n ih=>simp only [dl,Nat.pow_succ];split<;>omega
theorem uZ (n:Nat) (f:Nat->Bool): ∀i,i<n->(dl n f).testBit i=f i:=by
 induction n with
 |zero=>intro i h;omega
 |succ n ih=>
  intro i hi
  have hl:=uT n f
  simp only [dl]
  by_cases h:i=n
  ·subst h
   cases hf:f i with
   |true=>rw [if_pos rfl,Nat.add_comm,Nat.testBit_two_pow_add_eq,Nat.testBit_lt_two_pow hl];rfl
   |false=>simp [Nat.testBit_lt_two_pow hl]
  ·cases hf:f n with
   |true=>rw [if_pos rfl,Nat.add_comm,Nat.testBit_two_pow_add_gt (by omega)];exact ih i (by omega)
   |false=>simp only [Bool.false_eq_true,if_false,Nat.add_zero];exact ih i (by omega)
structure MI (h:Hp) (K:Nat) (vars:Nat) (tb s:Sl) (ns:List Nd):Prop where
 row:h K=some (.inl ⟨[I vars,tb.v,s.v],3,false⟩)
 buf:Buf h s 3 (cW ns)
 own: ∀a,s.a=some a->a.block≠K
theorem MI.mono {h h':Hp} {K vars:Nat} {tb s:Sl} {ns:List Nd} (l:h.le h') (e:MI h K vars tb s ns):MI h' K vars tb s ns:=⟨l _ _ e.row,e.buf.mono l,e.own⟩
theorem MI.len {h:Hp} {K vars:Nat} {tb s:Sl} {ns:List Nd} (e:MI h K vars tb s ns):s.n=ns.length:=by
 have:=e.buf.1;rw [mM]at this;omega
def fq (h:Hp) (t:Sl) (n:Nat) (T:Nat->Bool):Prop:=tu h t ((List.range n).map T)
theorem fq.mono {h h':Hp} {t:Sl} {n:Nat} {T:Nat->Bool} (l:h.le h') (e:fq h t n T):fq h' t n T:=tu.mono l e
theorem vU {h:Hp} {c:Bool} {R:Value->Hp->Prop} (k:R (I (if c then 1 else 0)) h):lq #[.bool c] h R:=by
 apply QH
 refine uf_ ?_
 cases c<;>exact k
structure gn (g h:Hp) (bw:Nat) (v:Int) (t:Sl) (xss:List (List Int)):Prop where
 buf: ∃ts:List Sl,Buf h t 1 (ts.map Sl.v)/\ts.length=xss.length/\ ∀(i:Nat) (h1:i<ts.length) (h2:i<xss.length),IntS g ts[i] xss[i]
 le:g.le (h.offS t)
 row:h bw=some (.inl ⟨[I v,t.v],2,false⟩)
 new:g bw=none
 own: ∀a,t.a=some a->a.block≠bw
theorem df {h:Hp} {t:Sl} {c:Nat} {x:Blk} (e:(h.offS t) c=some x):h c=some x/\ ∀a,t.a=some a->a.block≠c:=by
 refine⟨aW _ _ _ _ e,fun a ha hac=>?_⟩
 subst hac
 simp [Hp.offS,ha,Hp.off,Hp.set]at e
theorem gn.keep {g h:Hp} {bw:Nat} {v:Int} {t:Sl} {xss:List (List Int)} (e:gn g h bw v t xss):g.le h:=Hp.le_trans e.le (aW _ _)
theorem gn.len {g h:Hp} {bw:Nat} {v:Int} {t:Sl} {xss:List (List Int)} (e:gn g h bw v t xss):t.n=xss.length:=by
 obtain⟨ts,hb,h1,_⟩:=e.buf
 have:=hb.1;simp at this;omega
theorem gn.blk {g h:Hp} {bw:Nat} {v:Int} {t:Sl} {xss:List (List Int)} (e:gn g h bw v t xss): ∀a,t.a=some a-> ∃ts:List Sl,∃z,h a.block=some (.inl ⟨ts.map Sl.v,z,false⟩):=by
 intro a ha
 obtain⟨ts,hb,_,_⟩:=e.buf
 rcases hb.2.2 with ⟨h0,_⟩|⟨b,hb1,hb2⟩
 ·rw [h0]at ha;cases ha
 ·rw [hb1]at ha;cases ha;exact⟨ts,_,hb2⟩
theorem gn.to {g h g' h':Hp} {bw:Nat} {v v':Int} {t:Sl} {xss:List (List Int)} (e:gn g h bw v t xss) (l:g.le g') (l':g'.le (h'.offS t)) (hr:h' bw=some (.inl ⟨[I v',t.v],2,false⟩))
  (hbuf: ∀a,t.a=some a->h' a.block=h a.block) (hn:g' bw=none):gn g' h' bw v' t xss:=by
 obtain⟨ts,hb,h1,h2⟩:=e.buf
 refine⟨⟨ts,⟨hb.1,hb.2.1,hb.2.2.imp id ?_⟩,h1,fun i a b=>(h2 i a b).mono l⟩,l',hr,hn,e.own⟩
 rintro ⟨b,hb1,hb2⟩
 exact⟨b,hb1,(hbuf _ hb1).trans hb2⟩
theorem gn.lit {g h:Hp} {bw b n:Nat} {v:Int} {t:Sl} {xss:List (List Int)} {cs:List Value} (e:gn g h bw v t xss) (hb:h b=none):gn (g.row b cs n) (h.row b cs n) bw v t xss:=by
 have gb:g b=none:=aF e.keep hb
 have nb:=fresh_ne hb e.row
 have nt: ∀a,t.a=some a->a.block≠b:=fun a ha=>by
  obtain⟨ts,z,hx⟩:=e.blk a ha
  exact fresh_ne hb hx
 refine e.to (gp _ _ gb) ?_ (by rw [cl _ _ nb];exact e.row) (fun a ha=>cl _ _ (nt a ha)) (by rw [cl _ _ nb];exact e.new)
 intro c x hc
 by_cases h':c=b
 ·subst h'
  rw [im nt,bU];rw [bU]at hc;exact hc
 ·rw [cl _ _ h']at hc
  obtain⟨h1,h2⟩:=df (e.le _ _ hc)
  rw [im h2,cl _ _ h'];exact h1
theorem gn.app {g h:Hp} {bw b:Nat} {v:Int} {t u:Sl} {xss:List (List Int)} {x:List Int} {K:Option Addr->Nat->Nat->Hp->Prop} (e:gn g h bw v t xss) (hl:xss.length<=1048576) (hu:IntS g u x) (hb:h b=none)
  (k: ∀(t':Sl) (h':Hp),h' bw=some (.inl ⟨[I v,t.v],2,false⟩)->(h.offS t).le (h'.offS t')->gn g (h'.row bw [I v,t'.v] 2) bw v t' (xss++ [x])->K t'.a t'.n t'.c h'):
  cy (h.row b [u.v] 1) t.a t.n t.c (some ⟨b,0,none⟩) 1 1 24 K:=by
 have l:=gp [u.v] 1 hb
 have hn:=e.len
 obtain⟨ts,hbuf,h1,h2⟩:=e.buf
 refine dG (hbuf.mono l) (by omega) (by omega) (by omega) ⟨b,0,rfl,fun i v hi=>?_⟩ (news:= [u.v]) rfl rfl ?_
 ·cases i with
  |zero=>simp at hi;subst hi;exact sY _ _ _ _ _
  |succ i=>simp at hi
 intro t' h' hn' hb' hle _
 have hle':(h.offS t).le (h'.offS t'):=Hp.le_trans (bC t l) hle
 obtain⟨f,o⟩:=lY hle' e.row e.own
 refine k t' h' f hle' ⟨⟨ts++ [u],?_,by simp [h1],?_⟩,?_,bU ..,e.new,o⟩
 ·rw [List.map_append]
  refine⟨hb'.1,hb'.2.1,hb'.2.2.imp id ?_⟩
  rintro ⟨c,hc,hcb⟩
  exact⟨c,hc,by rw [cl _ _ (o _ hc)];exact hcb⟩
 ·intro i a c
  by_cases hi:i<ts.length
  ·rw [List.getElem_append_left hi,List.getElem_append_left (by omega)];exact h2 i hi (by omega)
  ·have:i=ts.length:=by simp at a;omega
   subst this
   simp only [List.getElem_append_right (Nat.le_refl _),Nat.sub_self,List.getElem_cons_zero]
   simp only [h1,List.getElem_append_right (Nat.le_refl _),Nat.sub_self,List.getElem_cons_zero]
   exact hu
 ·intro c x hc
  obtain⟨h3,h4⟩:=df (hle' _ _ (e.le _ _ hc))
  have hcb:c≠bw:=fun hh=>by rw [hh,e.new]at hc;cases hc
  rw [im h4,cl _ _ hcb];exact h3
structure Rd (h:Hp) (B:Nat) (s:Sl) (bs:List Nat) (p:Nat):Prop where
 row:h B=some (.inl ⟨[s.v,I p],2,false⟩)
 byt:ByteS (h.off B) s bs
theorem Rd.next {h:Hp} {B:Nat} {s:Sl} {bs:List Nat} {p:Nat} (e:Rd h B s bs p) (q:Nat):Rd (h.row B [s.v,I q] 2) B s bs q:=⟨bU ..,by rw [zY];exact e.byt⟩
theorem Rd.to {h h':Hp} {B:Nat} {s:Sl} {bs:List Nat} {p:Nat} (e:Rd h B s bs p) (l:h.le h'):Rd h' B s bs p:=⟨l _ _ e.row,e.byt.mono (Ms _ l)⟩
theorem VD {a b:Nat} (ha:a<4611686018427387904) (hb:b<4611686018427387904): ∃c:Nat,adm (a:Int) (b:Int)=c:=by
 have:=Sc (a:=a) (b:=b) (by omega) (by omega)
 exact⟨_,this⟩
theorem GF {h:Hp} {B p:Nat} {s:Sl} {bs:List Nat} {n:Int} {R:Value->Hp->Prop} (e:Rd h B s bs p) (hp:p<=1000000000) (hn:n<=1000000000)
  (k: ∀x:Nat,(1<=n->(x:Int)<n)->(n<1->x=0)->R (I x) (h.row B [s.v,I (p+1:Nat)] 2)):am #[.pointer (some ⟨B,0,none⟩),I n] h R:=by
 apply EW
 refine uf_ ?_
 simp only [vm,ax e.row,mm,e.row,ay (n:=p) (by omega)]
 have hb:=e.byt.mono (LY h B [s.v,I (p+1:Nat)] 2)
 have hl:=hb.len
 have hbd:=hb.bound
 refine⟨by omega,?_⟩
 refine ap (fun J=>J (decide (n<1)||decide (bs.length=0))) ?_ ?_
 rotate_left
 ·intro J hJ
  refine ad (fun e=>?_) (fun e=>?_)
  ·rw [e,Bool.true_or]at hJ;exact hJ
  ·rw [e,Bool.false_or]at hJ
   have:((s.n:Int)==0)=decide (bs.length=0):=by rw [hl,Bool.eq_iff_iff];simp
   rw [this];exact hJ
 refine ad (fun he=>?_) (fun he=>?_)
 ·refine k 0 (fun h1=>by omega) (fun _=>rfl)
 have hn1:1<=n:=by simp at he;omega
 have hbn:0<bs.length:=by
  have:bs.length≠0:=by intro h;rw [h]at he;simp at he
  omega
 have hw:W (((p+1:Nat):Int)-1)=p:=by rw [cd (by omega) (by omega)];omega
 obtain⟨m,rfl⟩: ∃m:Nat,n=m:=⟨n.toNat,by omega⟩
 have fin: ∀x:Nat,R (I (Int.tmod (x:Int) (m:Int))) (h.row B [s.v,I (p+1:Nat)] 2):=by
  intro x
  have e1:Int.tmod (x:Int) (m:Int)=((x%m:Nat):Int):=by rw [Int.ofNat_tmod]
  rw [e1]
  have:x%m<m:=Nat.mod_lt _ (by omega)
  exact k (x%m) (fun _=>by omega) (fun h=>by omega)
 simp only [hw,hl]
 refine ad (fun hlt=>?_) (fun hlt=>?_)
 ·have hlt':p<bs.length:=by simp at hlt;omega
  obtain⟨b,o,ha,hc,hx⟩:=hb.at hlt'
  simp only [vm,ha,hc]
  refine⟨by omega,?_⟩
  rw [if_neg (by omega),fV (by omega)]
  exact fin _
 ·have hq: ∀q:Nat,Int.tmod (q:Int) (bs.length:Int)=((q%bs.length:Nat):Int):=fun q=>by rw [Int.ofNat_tmod]
  have hlt2: ∀q:Nat,q%bs.length<bs.length:=fun q=>Nat.mod_lt _ hbn
  have w1:W (W ((p:Int)*7)+3)=((p*7+3:Nat):Int):=by
   rw [cd (n:=(p:Int)*7) (by omega) (by omega),cd (by omega) (by omega)];omega
  obtain⟨b,o,ha,hc,hx⟩:=hb.at (hlt2 p)
  obtain⟨b',o',ha',hc',hy⟩:=hb.at (hlt2 (p*7+3))
  rw [ha]at ha';cases ha'
  have hdiv:Int.tdiv (p:Int) (bs.length:Int)=((p/bs.length:Nat):Int):=by rw [Int.ofNat_tdiv]
  have hdl:p/bs.length<=p:=Nat.div_le_self _ _
  generalize hX:bs[p%bs.length]'(hlt2 p)=X at*
  generalize hY:bs[(p*7+3)%bs.length]'(hlt2 _)=Y at*
  generalize hD:p/bs.length=D at*
  have tot:W (W (W (W (W (X:Int)*131)+W (W (Y:Int)*1117))+W ((p:Int)*29))+W (W (D:Int)*53))=((X*131+Y*1117+p*29+D*53:Nat):Int):=by
   rw [fV (n:=X) (by omega),fV (n:=Y) (by omega),fV (n:=D) (by omega),cd (n:=(X:Int)*131) (by omega) (by omega),cd (n:=(Y:Int)*1117) (by omega) (by omega),
    cd (n:=(p:Int)*29) (by omega) (by omega),cd (n:=(D:Int)*53) (by omega) (by omega),cd (n:=(X:Int)*131+(Y:Int)*1117) (by omega) (by omega),
    cd (n:=(X:Int)*131+(Y:Int)*1117+(p:Int)*29) (by omega) (by omega),cd (by omega) (by omega)]
   omega
  have d64:W (Int.tdiv (((X*131+Y*1117+p*29+D*53:Nat)):Int) 64)=(((X*131+Y*1117+p*29+D*53)/64:Nat):Int):=by
   have:Int.tdiv (((X*131+Y*1117+p*29+D*53:Nat)):Int) 64=(((X*131+Y*1117+p*29+D*53)/64:Nat):Int):=by
    have:=Int.ofNat_tdiv (X*131+Y*1117+p*29+D*53) 64
    exact this.symm
   rw [this,fV (by omega)]
  obtain⟨c,hcx⟩:=VD (a:=X*131+Y*1117+p*29+D*53) (b:=(X*131+Y*1117+p*29+D*53)/64) (by omega) (by omega)
  have hnz: ¬((bs.length:Nat):Int)=0:=by omega
  simp only [vm,w1,hq,hdiv,ha,hc,hc',hD,tot,d64,hcx]
  rw [if_neg hnz]
  refine⟨by have:=hlt2 p;omega,?_⟩
  rw [if_neg hnz]
  refine⟨by have:=hlt2 (p*7+3);omega,?_⟩
  rw [if_neg hnz]
  have hm0: ¬(m:Int)=0:=by omega
  rw [if_neg hm0]
  have:=fin c
  simp only [true_and,and_self]
  exact this
theorem iP.appK {h h':Hp} {t:Sl} {set:List Int} {x:Int} {b:Nat} {K:Option Addr->Nat->Nat->Hp->Prop} (e:iP h h' t set) (hl:set.length<=1048576) (hb:h' b=none)
  (k: ∀(t':Sl) (h'':Hp),(h'.offS t).le (h''.offS t')->iP h h'' t' (set++ [x])->K t'.a t'.n t'.c h''):cy (h'.row b [I x] 1) t.a t.n t.c (some ⟨b,0,none⟩) 1 1 8 K:=by
 have l:=gp [I x] 1 hb
 exact SN (e.buf.mono l) hl (sY _ _ _ _ _) fun t' h'' hb' hl'=>k t' h'' (Hp.le_trans (bC t l) hl') ⟨hb',Hp.le_trans (Hp.le_trans e.le (bC t l)) hl'⟩
theorem iP.neB {g h:Hp} {o s:Sl} {xs:List Int} (e:iP g h o xs) {B p n:Nat} (hB:h B=some (.inl ⟨[s.v,I p],n,false⟩)): ∀a,o.a=some a->a.block≠B:=by
 intro a ha
 rcases e.buf.2.2 with ⟨h0,_⟩|⟨b,hb1,hb2⟩
 ·rw [h0]at ha;cases ha
 ·rw [hb1]at ha;cases ha
  refine eJ hb2 hB ?_
  intro h
  simp only [Sum.inl.injEq,Row.mk.injEq]at h
  rcases xs with _|⟨x,r⟩
  ·simp at h
  ·simp [Sl.v]at h
theorem gn.neB {g h:Hp} {bw:Nat} {v:Int} {t s:Sl} {xss:List (List Int)} (e:gn g h bw v t xss) {B p n:Nat} (hB:h B=some (.inl ⟨[s.v,I p],n,false⟩)): ∀a,t.a=some a->a.block≠B:=by
 intro a ha
 obtain⟨ts,z,hx⟩:=e.blk a ha
 refine eJ hx hB ?_
 intro h
 simp only [Sum.inl.injEq,Row.mk.injEq]at h
 rcases ts with _|⟨t1,_|⟨t2,r⟩⟩
 ·simp at h
 ·simp at h
 ·simp [Sl.v]at h
theorem gn.ne3 {g h:Hp} {bw:Nat} {v:Int} {t:Sl} {xss:List (List Int)} (e:gn g h bw v t xss) {B n:Nat} {x:Int} {y:List Value} (hB:h B=some (.inl ⟨I x::y,n,false⟩)): ∀a,t.a=some a->a.block≠B:=by
 intro a ha
 obtain⟨ts,z,hx⟩:=e.blk a ha
 refine eJ hx hB ?_
 intro h
 simp only [Sum.inl.injEq,Row.mk.injEq]at h
 rcases ts with _|⟨t1,r⟩
 ·simp at h
 ·simp [Sl.v]at h
theorem sr {h:Hp} {t:Sl} {c:Nat} {x:Blk} (e:h c=some x) (d: ∀a,t.a=some a->a.block≠c):(h.offS t) c=some x:=by rw [im d];exact e
structure CS (h0:Hp) (B b3 b9:Nat) (s:Sl) (c:Nat) (h:Hp) (v:Int) (t:Sl) (cls:List (List Int)):Prop where
 rd: ∃q,q<=c/\h B=some (.inl ⟨[s.v,I (q:Nat)],2,false⟩)
 r3:h b3=some (.inl ⟨[I 0, .slice none 0 0],2,false⟩)
 n39:b3≠b9
 fr:(h0.off B).le (h.offS t)
 fr9:h0 b9=none
 fr3:h0 b3=none
 gr: ∃g:Hp,(∀c x,g c=some x->h0 c=none/\c≠b3)/\gn g h b9 v t cls
section
variable {h0 h:Hp} {B b3 b9 c p0:Nat} {s t:Sl} {v:Int} {cls:List (List Int)} {bs:List Nat}
theorem CS.row (e:CS h0 B b3 b9 s c h v t cls):h b9=some (.inl ⟨[I v,t.v],2,false⟩):=by obtain⟨g,_,hg⟩:=e.gr;exact hg.row
theorem CS.frame (e:CS h0 B b3 b9 s c h v t cls):(h0.off B).le h:=Hp.le_trans e.fr (aW _ _)
theorem CS.nB9 (e:CS h0 B b3 b9 s c h v t cls):b9≠B:=by
 obtain⟨q,_,hq⟩:=e.rd
 exact eJ e.row hq (by intro h;simp [Sl.v]at h)
theorem CS.nB3 (e:CS h0 B b3 b9 s c h v t cls):b3≠B:=by
 obtain⟨q,_,hq⟩:=e.rd
 exact eJ e.r3 hq (by intro h;simp [Sl.v]at h)
theorem CS.more (e:CS h0 B b3 b9 s c h v t cls) {c':Nat} (hc:c<=c'):CS h0 B b3 b9 s c' h v t cls:=by
 obtain⟨q,hq,hr⟩:=e.rd
 exact⟨⟨q,by omega,hr⟩,e.r3,e.n39,e.fr,e.fr9,e.fr3,e.gr⟩
theorem CS.app (e:CS h0 B b3 b9 s c h v t cls) (hB: ∃x,h0 B=some x) {h2:Hp} {o:Sl} {xs:List Int} {q2 c2 b:Nat} {K:Option Addr->Nat->Nat->Hp->Prop} (hl:cls.length<=1048576) (hx:xs.length<=1048576)
  (hgr:iP (h.off B) h2 o xs) (hr2:h2 B=some (.inl ⟨[s.v,I (q2:Nat)],2,false⟩)) (hq2:q2<=c2) (hb:h2 b=none)
  (k: ∀(t':Sl) (h3:Hp),h3 b9=some (.inl ⟨[I v,t.v],2,false⟩)->CS h0 B b3 b9 s c2 (h3.row b9 [I v,t'.v] 2) v t' (cls++ [xs])->K t'.a t'.n t'.c h3):
  cy (h2.row b [o.v] 1) t.a t.n t.c (some ⟨b,0,none⟩) 1 1 24 K:=by
 obtain⟨g,hg,gr⟩:=e.gr
 obtain⟨q,hq,hr⟩:=e.rd
 have base: ∀c x,h c=some x->c≠B->h2 c=some x/\ ∀a,o.a=some a->a.block≠c:=by
  intro c x hc hcB
  exact df (hgr.le c x (by rw [Hp.off,Hp.set_ne _ _ hcB];exact hc))
 have r9:=base _ _ gr.row e.nB9
 have r3:=base _ _ e.r3 e.nB3
 have tB:=gr.neB hr
 have oB:=hgr.neB hr2
 have t3:=gr.ne3 e.r3
 have tblk: ∀a,t.a=some a->h2 a.block=h a.block/\ ∀a',o.a=some a'->a'.block≠a.block:=by
  intro a ha
  obtain⟨ts,z,hx⟩:=gr.blk a ha
  obtain⟨h1,h2⟩:=base _ _ hx (tB a ha)
  exact⟨h1.trans hx.symm,h2⟩
 have hg': ∀c x,((h2.sub h0).wo ([b9,b3]++t.blk)) c=some x->h2 c=some x/\h0 c=none/\c≠b3/\c≠b9/\ ∀a,t.a=some a->a.block≠c:=by
  intro c x hc
  have hm:c∉ [b9,b3]++t.blk:=fun hm=>by rw [fT hm]at hc;cases hc
  rw [vV hm]at hc
  have h1:h0 c=none:=mb (by rw [hc];simp)
  rw [ln h1]at hc
  simp only [List.cons_append,List.nil_append,List.mem_cons,not_or]at hm
  exact⟨hc,h1,hm.2.1,hm.1,fun a ha hac=>hm.2.2 (by unfold Sl.blk;rw [ha];simp [hac])⟩
 have hgi: ∀c x,h2 c=some x->h0 c=none->c≠b3->c≠b9->(∀a,t.a=some a->a.block≠c)->((h2.sub h0).wo ([b9,b3]++t.blk)) c=some x:=by
  intro c x h1 h2 h3 h4 h5
  rw [vV,ln h2]
  ·exact h1
  ·simp only [List.cons_append,List.nil_append,List.mem_cons,not_or]
   refine⟨h4,h3,fun hm=>?_⟩
   unfold Sl.blk at hm
   split at hm
   ·simp at hm
   ·rename_i a ha;simp at hm;exact h5 a ha hm.symm
 have gr':gn ((h2.sub h0).wo ([b9,b3]++t.blk)) h2 b9 v t cls:=by
  refine gr.to ?_ ?_ r9.1 (fun a ha=>(tblk a ha).1) (fT (by simp))
  ·intro c x hc
   obtain⟨g1,g2⟩:=df (gr.le _ _ hc)
   have hn:=hg _ _ hc
   have hcB:c≠B:=fun hh=>by obtain⟨y,hy⟩:=hB;rw [hh,hy]at hn;cases hn.1
   exact hgi c x (base c x g1 hcB).1 hn.1 hn.2 (fun hh=>by rw [hh,gr.new]at hc;cases hc) g2
  ·intro c x hc
   obtain⟨g1,g2,g3,g4,g5⟩:=hg' c x hc
   exact sr g1 g5
 have hu:IntS ((h2.sub h0).wo ([b9,b3]++t.blk)) o xs:=by
  refine xO.ints ⟨hgr.buf.1,hgr.buf.2.1,hgr.buf.2.2.imp id ?_⟩ hx
  rintro ⟨d,hd,hdb⟩
  refine⟨d,hd,hgi _ _ hdb ?_ ?_ ?_ ?_⟩
  ·cases hx:h0 d with
   |none=>rfl
   |some x=>
    have hdB:d≠B:=oB _ hd
    have:=e.frame d x (by rw [Hp.off,Hp.set_ne _ _ hdB];exact hx)
    exact absurd rfl ((base d x this hdB).2 _ hd)
  ·exact r3.2 _ hd
  ·exact r9.2 _ hd
  ·intro a ha hab
   exact(tblk a ha).2 _ hd hab.symm
 refine gr'.app hl hu hb fun t' h3 f9 hk hgd=>k t' h3 f9 ?_
 have kp: ∀c x,h2 c=some x->(∀a,t.a=some a->a.block≠c)->h3 c=some x/\ ∀a,t'.a=some a->a.block≠c:=by
  intro c x h1 h2
  exact df (hk _ _ (sr h1 h2))
 have n9: ∀a,t.a=some a->a.block≠b9:=gr.own
 refine⟨⟨q2,hq2,by rw [cl _ _ e.nB9.symm];exact(kp _ _ hr2 tB).1⟩,by rw [cl _ _ e.n39];exact(kp _ _ r3.1 t3).1,e.n39,?_,e.fr9,e.fr3,_,fun c x hc=>⟨(hg' c x hc).2.1,(hg' c x hc).2.2.1⟩,hgd⟩
 intro c x hc
 have hcB:c≠B:=fun hh=>by rw [hh,vX]at hc;cases hc
 have hc9:c≠b9:=fun hh=>by rw [hh,Hp.off,Hp.set_ne _ _ e.nB9,e.fr9]at hc;cases hc
 obtain⟨g1,g2⟩:=df (e.fr _ _ hc)
 obtain⟨g3,g4⟩:=kp _ _ (base c x g1 hcB).1 g2
 rw [im g4,cl _ _ hc9];exact g3
theorem CS.lit (e:CS h0 B b3 b9 s c h v t cls) {b n:Nat} {cs:List Value} (hb:h b=none):CS h0 B b3 b9 s c (h.row b cs n) v t cls:=by
 obtain⟨g,hg,gr⟩:=e.gr
 obtain⟨q,hq,hr⟩:=e.rd
 have tb: ∀{c x},(h.offS t) c=some x->((h.row b cs n).offS t) c=some x:=by
  intro c x hc
  obtain⟨h1,h2⟩:=df hc
  rw [im h2,cl _ _ (fresh_ne hb h1)];exact h1
 exact⟨⟨q,hq,by rw [cl _ _ (fresh_ne hb hr)];exact hr⟩,by rw [cl _ _ (fresh_ne hb e.r3)];exact e.r3,e.n39,fun c x hc=>tb (e.fr _ _ hc),e.fr9,e.fr3,g,hg,
  gr.to (Hp.le_refl _) (fun c x hc=>tb (gr.le _ _ hc)) (by rw [cl _ _ (fresh_ne hb gr.row)];exact gr.row) (fun a ha=>by
   obtain⟨ts,z,hx⟩:=gr.blk a ha
   exact cl _ _ (fresh_ne hb hx)) gr.new⟩
end
theorem eh.up {h h' h'':Hp} {t:Sl} {xss:List (List Int)} (e:eh h h' t xss) (l:h'.le h''):eh h h'' t xss:=by
 obtain⟨ts,h1,h2,h3⟩:=e.buf
 exact⟨⟨ts,h1.mono l,h2,h3⟩,Hp.le_trans e.le (bC t l)⟩
def nW (v:Int) (cls p:List (List Int)):Bool:=eQ v cls&&(decide (p.length<=300)&&p.all (iQ v))
theorem nW.iff {v:Int} {cls p:List (List Int)}:nW v cls p=true↔eQ v cls=true/\p.length<=300/\ ∀l∈p,iQ v l=true:=by
 simp [nW,List.all_eq_true]
theorem eh.len {g h:Hp} {o:Sl} {out:List (List Int)} (e:eh g h o out):o.n=out.length:=by
 obtain⟨ts,hb,h1,_⟩:=e.buf
 have:=hb.1;simp at this;omega
theorem eh.base {g g2 h:Hp} {o:Sl} {out:List (List Int)} (e:eh g h o out) (l:g.le g2) (l2:g2.le (h.offS o)):eh g2 h o out:=by
 obtain⟨ts,h1,h2,h3⟩:=e.buf
 exact⟨⟨ts,h1,h2,fun i a b=>(h3 i a b).mono l⟩,l2⟩
theorem eh.blk {g h:Hp} {o:Sl} {out:List (List Int)} (e:eh g h o out): ∀a,o.a=some a-> ∃x,h a.block=some x:=by
 intro a ha
 obtain⟨ts,hb,_,_⟩:=e.buf
 rcases hb.2.2 with ⟨h0,_⟩|⟨b,hb1,hb2⟩
 ·rw [h0]at ha;cases ha
 ·rw [hb1]at ha;cases ha;exact⟨_,hb2⟩
theorem iP.apart {h2 h3:Hp} {u o:Sl} {xs:List Int} (hg:iP h2 h3 u xs) (ho: ∀a,o.a=some a-> ∃x,h2 a.block=some x): ∀a a',u.a=some a->o.a=some a'->a.block≠a'.block:=by
 intro a a' ha ha'
 obtain⟨x,hx⟩:=ho a' ha'
 exact(df (hg.le _ _ hx)).2 a ha
theorem iP.offS {h2 h3:Hp} {u o:Sl} {xs:List Int} (hg:iP h2 h3 u xs) (ho: ∀a,o.a=some a-> ∃x,h2 a.block=some x):xO (h3.offS o) u xs:=by
 refine⟨hg.buf.1,hg.buf.2.1,hg.buf.2.2.imp id ?_⟩
 rintro ⟨b,hb1,hb2⟩
 exact⟨b,hb1,sr hb2 fun a ha=>(hg.apart ho _ a hb1 ha).symm⟩
theorem iP.beside {h0 h' h'':Hp} {a b b':Sl} {xs:List Int} (e:iP h0 h' a xs) (l0:h0.le (h'.offS b)) (hk:(h'.offS b).le (h''.offS b')) (nab: ∀x y,a.a=some x->b.a=some y->y.block≠x.block):
  iP h0 h'' a xs/\ ∀x y,a.a=some x->b'.a=some y->y.block≠x.block:=by
 constructor
 ·refine⟨⟨e.buf.1,e.buf.2.1,e.buf.2.2.imp id ?_⟩,?_⟩
  ·rintro ⟨c,hc,hcb⟩
   exact⟨c,hc,(df (hk _ _ (sr hcb fun y hy=>nab _ y hc hy))).1⟩
  ·intro c x hc
   obtain⟨g1,g2⟩:=df (e.le _ _ hc)
   obtain⟨g3,g4⟩:=df (l0 _ _ hc)
   exact sr (df (hk _ _ (sr g1 g4))).1 g2
 ·intro x y hx hy
  rcases e.buf.2.2 with ⟨h0,_⟩|⟨c,hc,hcb⟩
  ·rw [h0]at hx;cases hx
  ·rw [hc]at hx;cases hx
   exact(df (hk _ _ (sr hcb fun y hy=>nab _ y hc hy))).2 y hy
theorem IntS.one {h:Hp} {b:Nat} {x:Int} {n:Nat} {ro:Bool} (e:h b=some (.inl ⟨[I x],n,ro⟩)):IntS h ⟨some ⟨b,0,none⟩,1,1⟩ [x]:=⟨by simp,by simp, .inr ⟨b,0,rfl,aw e⟩⟩
theorem Bw {h:Hp} {s:Sl} {bs:List Nat} {i:Nat} {R:Value->Hp->Prop} (hs:ByteS h s bs) (hi:i<=1000000) (k: ∀x:Nat,x<256->R (I x) h):mf #[s.v,I i] h R:=by
 apply C3
 refine uf_ ?_
 refine ad (fun e=>?_) (fun e=>?_)
 ·have hlt:i<bs.length:=by simp [hs.len]at e;exact e
  obtain⟨b,o,ha,hc,hx⟩:=hs.at hlt
  simp only [vm,ha,hc,hs.len,fV (n:=bs[i]) (by omega)]
  exact⟨by omega,k _ hx⟩
 ·rw [cd (n:=(i:Int)*37) (by omega) (by omega)]
  have:Int.tmod ((i:Int)*37) 251=((i*37%251:Nat):Int):=by
   have:=Int.ofNat_tmod (i*37) 251
   exact this.symm
  rw [this]
  exact k _ (by omega)
theorem eh.appK {g h:Hp} {t u:Sl} {xss:List (List Int)} {x:List Int} {b:Nat} {K:Option Addr->Nat->Nat->Hp->Prop} (e:eh g h t xss) (hl:xss.length<=1048576) (hu:IntS g u x) (hb:h b=none)
  (k: ∀(t':Sl) (h'':Hp),(h.offS t).le (h''.offS t')->eh g h'' t' (xss++ [x])->K t'.a t'.n t'.c h''):cy (h.row b [u.v] 1) t.a t.n t.c (some ⟨b,0,none⟩) 1 1 24 K:=by
 have l:=gp [u.v] 1 hb
 have hn:=e.len
 obtain⟨ts,hbuf,h1,h2⟩:=e.buf
 refine dG (hbuf.mono l) (by omega) (by omega) (by omega) ⟨b,0,rfl,fun i v hi=>?_⟩ (news:= [u.v]) rfl rfl ?_
 ·cases i with
  |zero=>simp at hi;subst hi;exact sY _ _ _ _ _
  |succ i=>simp at hi
 ·intro t' h'' hn' hb' hle _
  have hle':(h.offS t).le (h''.offS t'):=Hp.le_trans (bC t l) hle
  refine k t' h'' hle' ⟨⟨ts++ [u],by rw [List.map_append];exact hb',by simp [h1],?_⟩,Hp.le_trans e.le hle'⟩
  intro i a c
  by_cases hi:i<ts.length
  ·rw [List.getElem_append_left hi,List.getElem_append_left (by omega)];exact h2 i hi (by omega)
  ·have:i=ts.length:=by simp at a;omega
   subst this
   simp only [List.getElem_append_right (Nat.le_refl _),Nat.sub_self,List.getElem_cons_zero]
   simp only [h1,List.getElem_append_right (Nat.le_refl _),Nat.sub_self,List.getElem_cons_zero]
   exact hu
theorem eh.neB {g h:Hp} {t s:Sl} {xss:List (List Int)} (e:eh g h t xss) {B p n:Nat} (hB:h B=some (.inl ⟨[s.v,I p],n,false⟩)): ∀a,t.a=some a->a.block≠B:=by
 intro a ha
 obtain⟨ts,hb,_,_⟩:=e.buf
 rcases hb.2.2 with ⟨h0,_⟩|⟨c,hc,hcb⟩
 ·rw [h0]at ha;cases ha
 ·rw [hc]at ha;cases ha
  refine eJ hcb hB ?_
  intro h
  simp only [Sum.inl.injEq,Row.mk.injEq]at h
  rcases ts with _|⟨t1,_|⟨t2,r⟩⟩
  ·simp at h
  ·simp at h
  ·simp [Sl.v]at h
structure PS (h:Hp) (B:Nat) (s:Sl) (c:Nat) (g h':Hp) (t:Sl) (res:List (List Int)):Prop where
 rd: ∃q,q<=c/\h' B=some (.inl ⟨[s.v,I (q:Nat)],2,false⟩)
 gr:eh g h' t res
 new: ∀c x,g c=some x->h c=none
 fr:(h.off B).le (h'.offS t)
section
variable {h g h':Hp} {B c:Nat} {s t:Sl} {res:List (List Int)} {bs:List Nat}
theorem PS.frame (e:PS h B s c g h' t res):(h.off B).le h':=Hp.le_trans e.fr (aW _ _)
theorem PS.more (e:PS h B s c g h' t res) {c':Nat} (hc:c<=c'):PS h B s c' g h' t res:=by
 obtain⟨q,hq,hr⟩:=e.rd
 exact⟨⟨q,by omega,hr⟩,e.gr,e.new,e.fr⟩
theorem PS.lit (e:PS h B s c g h' t res) (hB: ∃x,h B=some x) {b n:Nat} {cs:List Value} (hb:h' b=none):PS h B s c (g.row b cs n) (h'.row b cs n) t res:=by
 obtain⟨q,hq,hr⟩:=e.rd
 have nB:=fresh_ne hb hr
 have hb0:h b=none:=by
  cases hx:h b with
  |none=>rfl
  |some x=>
   have:=e.frame b x (by rw [Hp.off,Hp.set_ne _ _ nB.symm];exact hx)
   rw [hb]at this;cases this
 have tb: ∀a,t.a=some a->a.block≠b:=fun a ha=>by
  obtain⟨x,hx⟩:=e.gr.blk a ha
  exact fresh_ne hb hx
 have key: ∀c x,c≠b->(h'.offS t) c=some x->((h'.row b cs n).offS t) c=some x:=by
  intro c x hcB hc
  obtain⟨h1,h2⟩:=df hc
  rw [im h2,cl _ _ hcB];exact h1
 have gb:g b=none:=aF e.gr.keep hb
 refine⟨⟨q,hq,by rw [cl _ _ nB];exact hr⟩,(e.gr.up (gp cs n hb)).base (gp _ _ gb) ?_,?_,fun c x hc=>key c x (fun hh=>by rw [hh,Hp.off,Hp.set_ne _ _ nB.symm,hb0]at hc;cases hc) (e.fr _ _ hc)⟩
 ·intro c x hc
  by_cases hcb:c=b
  ·subst hcb
   rw [bU]at hc
   rw [im tb,bU];exact hc
  ·rw [cl _ _ hcb]at hc
   exact key c x hcb (e.gr.le _ _ hc)
 ·intro c x hc
  by_cases hcb:c=b
  ·subst hcb;exact hb0
  ·rw [cl _ _ hcb]at hc;exact e.new _ _ hc
theorem PS.app {u:Sl} {x:List Int} {b:Nat} {K:Option Addr->Nat->Nat->Hp->Prop} (e:PS h B s c g h' t res) (hl:res.length<=1048576) (hu:IntS g u x) (hb:h' b=none)
  (k: ∀(t':Sl) (h'':Hp),PS h B s c g h'' t' (res++ [x])->K t'.a t'.n t'.c h''):cy (h'.row b [u.v] 1) t.a t.n t.c (some ⟨b,0,none⟩) 1 1 24 K:=by
 obtain⟨q,hq,hr⟩:=e.rd
 exact e.gr.appK hl hu hb fun t' h'' hk gr=>k t' h'' ⟨⟨q,hq,(df (hk _ _ (sr hr (e.gr.neB hr)))).1⟩,gr,e.new,Hp.le_trans e.fr hk⟩
end
def fA (w:Nat) (n:Int):Nat:=(n%((2^w:Nat):Int)).toNat
def sgn (w a:Nat):Int:=if 2^(w-1)<=a then(a:Int)-((2^w:Nat):Int)else a
theorem bP (w:Nat):0<2^w:=Nat.pow_pos (by omega)
theorem kG (w:Nat) (n:Int):fA w n<2^w:=by
 unfold fA
 have h:=Int.emod_lt_of_pos n (b:=((2^w:Nat):Int)) (Int.ofNat_lt.2 (bP w))
 have h0:=Int.emod_nonneg n (b:=((2^w:Nat):Int)) (by have:=bP w;omega)
 omega
theorem nu (w a:Nat):fA w (a:Int)=a%2^w:=by
 unfold fA
 rw [<-Int.natCast_emod,Int.toNat_natCast]
theorem yY (w:Nat) (n:Int):((fA w n:Nat):Int)=n%((2^w:Nat):Int):=by
 unfold fA
 have h0:=Int.emod_nonneg n (b:=((2^w:Nat):Int)) (by have:=bP w;omega)
 omega
theorem tC {w:Nat} (h:1<=w):2^w=2*2^(w-1):=by
 obtain⟨n,rfl⟩: ∃n,w=n+1:=⟨w-1,by omega⟩
 rw [Nat.pow_succ,Nat.add_sub_cancel];omega
theorem OY {w a:Nat} (h:1<=w) (ha:a<2^w): -((2^(w-1):Nat):Int)<=sgn w a/\sgn w a<((2^(w-1):Nat):Int):=by
 have:=tC h
 unfold sgn;split<;>omega
theorem abA {w:Nat} (h:1<=w) (n:Int):sgn w (fA w n)=n↔ -((2^(w-1):Nat):Int)<=n/\n<((2^(w-1):Nat):Int):=by
 have hp:=tC h
 have hl:=kG w n
 have hb:=OY h hl
 constructor
 ·intro e;rw [e]at hb;exact hb
 ·rintro ⟨h1,h2⟩
  have hc:=yY w n
  have h3:n%((2^w:Nat):Int)=if n<0 then n+((2^w:Nat):Int)else n:=by
   split
   ·rw [<-Int.add_emod_right,Int.emod_eq_of_lt (by omega) (by omega)]
   ·rw [Int.emod_eq_of_lt (by omega) (by omega)]
  rw [h3]at hc
  unfold sgn
  split at hc<;>split<;>omega
theorem kP {w x:Nat} {f:Nat->Bool} (hx:x<2^w) (h: ∀i,i<w->x.testBit i=f i):dl w f=x:=by
 apply Nat.eq_of_testBit_eq
 intro i
 by_cases hi:i<w
 ·rw [uZ _ _ _ hi,h i hi]
 ·rw [Nat.testBit_lt_two_pow (Nat.lt_of_lt_of_le (uT w f) (Nat.pow_le_pow_right (by omega) (by omega))),
   Nat.testBit_lt_two_pow (Nat.lt_of_lt_of_le hx (Nat.pow_le_pow_right (by omega) (by omega)))]
theorem wy {w:Nat} {f g:Nat->Bool} (h: ∀i,i<w->f i=g i):dl w f=dl w g:=kP (uT _ _) fun i hi=>by rw [uZ _ _ _ hi,h i hi]
theorem UR {w p:Nat} {f:Nat->Bool} (hp:p<w) (hf:f p=false):dl w f+2^p=dl w (fun i=>f i||decide (i=p)):=by
 induction w with
 |zero=>omega
 |succ w ih=>
  simp only [dl]
  by_cases h:p=w
  ·subst h
   have:dl p (fun i=>f i||decide (i=p))=dl p f:=wy fun i hi=>by simp;omega
   rw [this];simp [hf]
  ·have:=ih (by omega)
   have e:(f w||decide (w=p))=f w:=by simp;omega
   simp only [e]
   omega
def k7 :Nat->Nat->Nat
 |0,_=>0
 |w+1,a=>k7 w a+(if a.testBit w then 1 else 0)
theorem R4 (w a:Nat):k7 w a<=w:=by
 induction w with
 |zero=>simp [k7]
 |succ w ih=>simp only [k7];split<;>omega
theorem UJ {w a:Nat} (ha:a<2^w):k7 w a=w↔a=2^w-1:=by
 have key: ∀w,k7 w a=w↔ ∀i,i<w->a.testBit i=true:=by
  intro w
  induction w with
  |zero=>simp [k7]
  |succ w ih=>
   have:=R4 w a
   simp only [k7]
   constructor
   ·intro h i hi
    by_cases hw:a.testBit w=true
    ·rw [if_pos hw]at h
     by_cases hiw:i=w
     ·subst hiw;exact hw
     ·exact ih.1 (by omega) i (by omega)
    ·rw [if_neg hw]at h;omega
   ·intro h
    rw [if_pos (h w (by omega)),ih.2 fun i hi=>h i (by omega)]
 rw [key]
 constructor
 ·intro h
  apply Nat.eq_of_testBit_eq
  intro i
  rw [Nat.testBit_two_pow_sub_one]
  by_cases hi:i<w
  ·rw [h i hi];simp [hi]
  ·rw [Nat.testBit_lt_two_pow (Nat.lt_of_lt_of_le ha (Nat.pow_le_pow_right (by omega) (by omega)))];simp [hi]
 ·rintro rfl i hi
  rw [Nat.testBit_two_pow_sub_one];simpa using hi
theorem Ja {w a b:Nat} (ha:a<2^w):dl w (fun i=>a.testBit i&&b.testBit i)=a&&&b:=
 kP (Nat.lt_of_le_of_lt Nat.and_le_left ha) fun i _=>by rw [Nat.testBit_and]
theorem Ws {w a b:Nat} (ha:a<2^w) (hb:b<2^w):dl w (fun i=>a.testBit i||b.testBit i)=a|||b:=
 kP (Nat.or_lt_two_pow ha hb) fun i _=>by rw [Nat.testBit_or]
theorem acL {w a b:Nat} (ha:a<2^w) (hb:b<2^w):dl w (fun i=>a.testBit i^^b.testBit i)=a^^^b:=
 kP (Nat.xor_lt_two_pow ha hb) fun i _=>by rw [Nat.testBit_xor]
def aeY (w a b:Nat):Nat:=a*2^min b w%2^w
def afx (w a b:Nat):Nat:=a/2^min b w
def aey (w a b:Nat):Nat:=fA w (sgn w a/((2^min b w:Nat):Int))
theorem abq {w a b:Nat}:dl w (fun i=>decide (b<=i)&&a.testBit (i-b))=aeY w a b:=by
 unfold aeY
 refine kP (Nat.mod_lt _ (bP w)) fun i hi=>?_
 rw [Nat.testBit_mod_two_pow,Nat.mul_comm,Nat.testBit_two_pow_mul]
 have:decide (i<w)=true:=by simpa using hi
 rw [this,Bool.true_and]
 by_cases h:b<=i
 ·rw [Nat.min_eq_left (by omega)]
 ·have h1:decide (b<=i)=false:=by simpa using h
  have h2:decide (min b w<=i)=false:=by simp;omega
  simp [h1,h2]
theorem abg {w a b:Nat} (ha:a<2^w):dl w (fun i=>decide (i+b<w)&&a.testBit (i+b))=afx w a b:=by
 unfold afx
 refine kP (Nat.lt_of_le_of_lt (Nat.div_le_self _ _) ha) fun i hi=>?_
 rw [Nat.testBit_div_two_pow]
 by_cases h:i+b<w
 ·rw [Nat.min_eq_left (by omega)];simp [h]
 ·have h1:decide (i+b<w)=false:=by simpa using h
  rw [h1,Bool.false_and]
  refine Nat.testBit_lt_two_pow (Nat.lt_of_lt_of_le ha (Nat.pow_le_pow_right (by omega) ?_))
  omega
theorem acp {w a b:Nat} (hw:1<=w) (hw16:w<=16) (ha:a<2^w):dl w (fun i=>if i+b<w then a.testBit (i+b)else a.testBit (w-1))=aey w a b:=by
 have hp:=tC hw
 have top:a.testBit (w-1)=decide (2^(w-1)<=a):=by
  rw [Nat.testBit_eq_decide_div_mod_eq]
  by_cases h:2^(w-1)<=a
  ·have:a/2^(w-1)=1:=by
    rw [Nat.div_eq_iff (bP _)];omega
   simp [this,h]
  ·have:a/2^(w-1)=0:=Nat.div_eq_of_lt (by omega)
   simp [this,h]
 have hb:min b w<=w:=Nat.min_le_right _ _
 have small: ∀i,i<w->i+b<w->min b w=b:=fun i _ h=>Nat.min_eq_left (by omega)
 unfold aey
 refine kP (kG _ _) fun i hi=>?_
 by_cases hs:2^(w-1)<=a
 ·--with the sign
  have e1:sgn w a=(a:Int)-((2^w:Nat):Int):=by unfold sgn;rw [if_pos hs]
  have e2:fA w (sgn w a/((2^min b w:Nat):Int))=((a+2^w*(2^16-1))/2^min b w)%2^w:=by
   have h1:sgn w a=((a+2^w*(2^16-1):Nat):Int)-((2^min b w:Nat):Int)*((2^(w+16-min b w):Nat):Int):=by
    have h2:2^min b w*2^(w+16-min b w)=2^w*2^16:=by rw [<-Nat.pow_add,<-Nat.pow_add];congr 1;omega
    rw [e1,<-Int.natCast_mul,h2]
    have:2^w*(2^16-1)+2^w=2^w*2^16:=by rw [<-Nat.mul_succ]
    omega
   have hpos:((2^min b w:Nat):Int)≠0:=by have:=bP (min b w);omega
   have h3:sgn w a/((2^min b w:Nat):Int)=(((a+2^w*(2^16-1))/2^min b w:Nat):Int)-((2^w:Nat):Int)*((2^(16-min b w):Nat):Int):=by
    rw [h1,Int.sub_eq_add_neg,<-Int.mul_neg,Int.add_mul_ediv_left _ _ hpos,<-Int.natCast_ediv]
    have:2^(w+16-min b w)=2^w*2^(16-min b w):=by rw [<-Nat.pow_add];congr 1;omega
    rw [this,Int.natCast_mul];omega
   rw [h3]
   unfold fA
   rw [Int.sub_mul_emod_self_left,<-Int.natCast_emod,Int.toNat_natCast]
  rw [e2,Nat.testBit_mod_two_pow,Nat.testBit_div_two_pow,Nat.add_comm a,Nat.testBit_two_pow_mul_add _ ha]
  have hd:decide (i<w)=true:=by simpa using hi
  rw [hd,Bool.true_and]
  by_cases h:i+b<w
  ·have hm:=small i hi h
   rw [if_pos h,hm,if_pos (by omega)]
  ·have hm: ¬i+min b w<w:=by omega
   rw [if_neg h,if_neg hm,Nat.testBit_two_pow_sub_one,top]
   simp only [hs,decide_true,decide_eq_true_eq]
   omega
 ·have e1:sgn w a=a:=by unfold sgn;rw [if_neg hs]
  rw [e1,<-Int.natCast_ediv,nu,Nat.testBit_mod_two_pow,Nat.testBit_div_two_pow]
  have hd:decide (i<w)=true:=by simpa using hi
  rw [hd,Bool.true_and]
  by_cases h:i+b<w
  ·rw [if_pos h,small i hi h]
  ·rw [if_neg h,top]
   have hm: ¬i+min b w<w:=by omega
   have:decide (2^(w-1)<=a)=false:=by simpa using hs
   rw [this]
   exact Nat.testBit_lt_two_pow (Nat.lt_of_lt_of_le ha (Nat.pow_le_pow_right (by omega) (by omega)))
def DN (w a k:Nat):Nat:=((a*2^k)|||(a/2^(w-k)))%2^w
theorem afk {w a k i:Nat} (ha:a<2^w) (hk:k<w) (hi:i<w):(DN w a k).testBit i=a.testBit ((i+(w-k))%w):=by
 unfold DN
 rw [Nat.testBit_mod_two_pow,Nat.testBit_or,Nat.mul_comm,Nat.testBit_two_pow_mul,Nat.testBit_div_two_pow]
 have hd:decide (i<w)=true:=by simpa using hi
 rw [hd,Bool.true_and]
 by_cases h:k<=i
 ·have e:(i+(w-k))%w=i-k:=by
   have:i+(w-k)=(i-k)+w:=by omega
   rw [this,Nat.add_mod_right,Nat.mod_eq_of_lt (by omega)]
  have z:a.testBit (i+(w-k))=false:=Nat.testBit_lt_two_pow (Nat.lt_of_lt_of_le ha (Nat.pow_le_pow_right (by omega) (by omega)))
  rw [e,z];simp [h]
 ·have e:(i+(w-k))%w=i+(w-k):=Nat.mod_eq_of_lt (by omega)
  rw [e]
  have:decide (k<=i)=false:=by simpa using h
  rw [this];simp
theorem abo {w a k:Nat} (ha:a<2^w) (hk:k<w):dl w (fun j=>a.testBit ((j+(w-k))%w))=DN w a k:=
 kP (Nat.mod_lt _ (bP w)) fun i hi=>afk ha hk hi
theorem Y8 {w a k i:Nat} (hk:k<w) (hi:i<w):
  dl w (fun j=>decide ((j+(w-k))%w<i)&&a.testBit ((j+(w-k))%w))+(if a.testBit i then 2^((i+k)%w)else 0)=
   dl w (fun j=>decide ((j+(w-k))%w<i+1)&&a.testBit ((j+(w-k))%w)):=by
 have hpw:(i+k)%w<w:=Nat.mod_lt _ (by omega)
 have back:((i+k)%w+(w-k))%w=i:=by
  rw [Nat.mod_add_mod]
  have:i+k+(w-k)=i+w:=by omega
  rw [this,Nat.add_mod_right,Nat.mod_eq_of_lt hi]
 have inj: ∀j,j<w->((j+(w-k))%w=i↔j=(i+k)%w):=by
  intro j hj
  constructor
  ·intro h
   have:(j+(w-k)+k)%w=(i+k)%w:=by rw [<-h,Nat.mod_add_mod]
   rw [<-this]
   have:j+(w-k)+k=j+w:=by omega
   rw [this,Nat.add_mod_right,Nat.mod_eq_of_lt hj]
  ·rintro rfl;exact back
 cases hb:a.testBit i with
 |false=>
  simp only [Bool.false_eq_true,if_false,Nat.add_zero]
  refine wy fun j hj=>?_
  by_cases h:(j+(w-k))%w=i
  ·rw [h,hb];simp
  ·have:decide ((j+(w-k))%w<i+1)=decide ((j+(w-k))%w<i):=by
    rw [decide_eq_decide];omega
   rw [this]
 |true=>
  simp only [if_true]
  rw [UR hpw (by rw [back];simp)]
  refine wy fun j hj=>?_
  by_cases h:j=(i+k)%w
  ·have h2:=(inj j hj).2 h
   rw [h2,hb];simp [h]
  ·have h2: ¬(j+(w-k))%w=i:=fun e=>h ((inj j hj).1 e)
   have:decide ((j+(w-k))%w<i+1)=decide ((j+(w-k))%w<i):=by
    rw [decide_eq_decide];omega
   rw [this];simp [h]
def zJ (kind:Int) (w a:Nat):Nat×Nat:=
 if kind=1 then(2^w-1-a,w)else if kind=2 then(fA w (-(a:Int)),w)else if kind=3 then(if a=0 then 0 else 1,1)else
 if kind=4 then(if a=2^w-1 then 1 else 0,1)else(k7 w a%2,1)
def O3 (w a b:Nat):Nat:=if sgn w b=0 then(if sgn w a<0 then 1 else 2^w-1)else fA w (Int.tdiv (sgn w a) (sgn w b))
def Pa (w a b:Nat):Nat:=if sgn w b=0 then a else fA w (Int.tmod (sgn w a) (sgn w b))
def BB (kind:Int) (w a b:Nat):Bool:=
 if kind=21 then decide (a=b)else if kind=22 then decide (a<b)else if kind=23 then decide (sgn w a<sgn w b)else
 if kind=24 then decide (a<=b)else if kind=25 then decide (sgn w a<=sgn w b)else if kind=26 then decide (2^w<=a+b)else
 if kind=27 then !decide (-((2^(w-1):Nat):Int)<=sgn w a+sgn w b/\sgn w a+sgn w b<((2^(w-1):Nat):Int))else decide (2^w<=a*b)
def A7 (kind:Int) (w a b:Nat):Nat:=
 if kind=6 then a&&&b else if kind=7 then a|||b else if kind=8 then a^^^b else if kind=9 then fA w ((a:Int)+b)else
 if kind=10 then fA w ((a:Int)-b)else if kind=11 then fA w ((a:Int)*b)else if kind=12 then(if b=0 then 2^w-1 else a/b)else
 if kind=13 then(if b=0 then a else a%b)else if kind=14 then O3 w a b else if kind=15 then Pa w a b else
 if kind=16 then aeY w a b else if kind=17 then afx w a b else if kind=18 then aey w a b else if kind=19 then DN w a (b%w)else DN w a ((w-b%w)%w)
def qu (kind:Int) (w a b:Nat):Nat×Nat:=if kind<=20 then(A7 kind w a b,w)else(if BB kind w a b then 1 else 0,1)
theorem aeG {kind:Int} {w a:Nat} (hw:1<=w) (ha:a<2^w):(zJ kind w a).1<2^(zJ kind w a).2:=by
 have:=bP w
 unfold zJ
 split
 ·simp only;omega
 ·split
  ·exact kG _ _
  ·split
   ·simp only;split<;>omega
   ·split
    ·simp only;split<;>omega
    ·simp only;omega
theorem WV (w a k:Nat):DN w a k<2^w:=Nat.mod_lt _ (bP w)
theorem lk {c:Prop} [Decidable c] {x y n:Nat} (hx:x<n) (hy:y<n):(if c then x else y)<n:=by
 by_cases h:c
 ·rw [if_pos h];exact hx
 ·rw [if_neg h];exact hy
theorem acK {kind:Int} {w a b:Nat} (hw:1<=w) (ha:a<2^w) (hb:b<2^w):A7 kind w a b<2^w:=by
 have hp:=bP w
 have hp1:1<2^w:=by
  have:=tC hw;have:=bP (w-1);omega
 unfold A7
 refine lk (Nat.lt_of_le_of_lt Nat.and_le_left ha) (lk (Nat.or_lt_two_pow ha hb) (lk (Nat.xor_lt_two_pow ha hb) (lk (kG _ _) (lk (kG _ _) (lk (kG _ _)
  (lk (lk (by omega) (Nat.lt_of_le_of_lt (Nat.div_le_self _ _) ha)) (lk (lk ha (Nat.lt_of_le_of_lt (Nat.mod_le _ _) ha)) (lk ?_ (lk ?_ (lk (Nat.mod_lt _ hp)
  (lk (Nat.lt_of_le_of_lt (Nat.div_le_self _ _) ha) (lk (kG _ _) (lk (WV _ _ _) (WV _ _ _))))))))))))))
 ·unfold O3
  exact lk (lk hp1 (by omega)) (kG _ _)
 ·unfold Pa
  exact lk ha (kG _ _)
theorem aeQ {kind:Int} {w a b:Nat} (hw:1<=w) (ha:a<2^w) (hb:b<2^w):(qu kind w a b).1<2^(qu kind w a b).2:=by
 unfold qu
 split
 ·exact acK hw ha hb
 ·simp only;split<;>omega
theorem ah2 {w a b:Nat} (hw:1<=w):(sgn w (fA w (sgn w a+sgn w b))≠sgn w a+sgn w b)↔ ¬(-((2^(w-1):Nat):Int)<=sgn w a+sgn w b/\sgn w a+sgn w b<((2^(w-1):Nat):Int)):=by
 rw [ne_eq,abA hw]
structure SortP where
 idx:Int
 wid:Int
 deriving DecidableEq
structure NodeP where
 kind:Int
 a:Int
 b:Int
 c:Int
 n:Int
 m:Int
 sort:SortP
 name:ByteArray
structure BindP where
 state:Int
 node:Int
 deriving DecidableEq
structure ah where
 nodes:List NodeP
 inits:List BindP
 nexts:List BindP
 bads:List Int
 holds:List Int
def bW (s:SortP):Bool:=decide ((0<=s.idx/\s.idx<=2)/\(1<=s.wid/\s.wid<=16))
def dg (s:SortP):Nat:=if bW s then 2^s.idx.toNat else 0
def dT (s:SortP):Nat:=dg s*s.wid.toNat
def cR (w:Int):SortP:=⟨0,w⟩
def ai (kind:Int):Int:=
 if(1<=kind/\kind<=5)\/(30<=kind/\kind<=32)then 1 else if(6<=kind/\kind<=29)\/kind=37 then 2 else if kind=33\/kind=38 then 3 else
 if 34<=kind/\kind<=36 then 0 else-1
def jr (c:UInt8):Bool:=decide (97<=c.toNat/\c.toNat<=122)
def qD (c:UInt8):Bool:=decide (48<=c.toNat/\c.toNat<=57)
def gE (s:ByteArray):Bool:=decide (1<=s.size/\s.size<=8)&&(match s.data.toList with| []=>false|c::r=>jr c&&r.all fun c=>jr c||qD c)
def cY (kind:Int):Bool:=decide (kind=35\/kind=36)
def nV (k:Int) (len:Nat) (i:Int) (p:Int):Bool:=if i<k then decide (0<=p/\p<=(len:Int)-1)else decide (p=0)
def fR (len:Nat) (n:NodeP):Bool:=
 decide (0<=ai n.kind)&&(nV (ai n.kind) len 0 n.a&&nV (ai n.kind) len 1 n.b&&nV (ai n.kind) len 2 n.c)&&
 (if cY n.kind then gE n.name else decide (n.name.size=0))&&(decide (n.kind=30)||decide (n.m=0))&&
 (decide (n.kind=30\/n.kind=31\/n.kind=32\/n.kind=34)||decide (n.n=0))
def j7 (w v:Int):Bool:=decide ((1<=w/\w<=16)/\0<=v/\v<=((2^w.toNat:Nat):Int)-1)
def dh (n:NodeP) (a b c:SortP):Option SortP:=
 if n.kind=33 then(if a=cR 1/\b=c then some b else none)else
 if n.kind=37 then(if 0<a.idx/\b=cR a.idx then some (cR a.wid)else none)else
 if n.kind=38 then(if 0<a.idx/\b=cR a.idx/\c=cR a.wid then some a else none)else
 if n.kind=21 then(if a=b then some (cR 1)else none)else
 if 0<a.idx\/(ai n.kind=2/\0<b.idx)then none else
 if n.kind=29 then(if a.wid+b.wid<=16 then some (cR (a.wid+b.wid))else none)else
 if n.kind=30 then(if(0<=n.n/\n.n<=a.wid-1)/\0<=n.m/\n.m<=n.n then some (cR (n.n-n.m+1))else none)else
 if n.kind=31\/n.kind=32 then(if 0<=n.n/\n.n<=16-a.wid then some (cR (a.wid+n.n))else none)else
 if n.kind<=5 then some (cR (if n.kind<=2 then a.wid else 1))else
 if a=b then some (cR (if n.kind<=20 then a.wid else 1))else none
def ar (l:List NodeP) (p:Int):SortP:=match l[p.toNat]? with|some n=>n.sort|none=>⟨0,0⟩
def dc (l:List NodeP) (n:NodeP):Option SortP:=
 if l.length<=60/\fR l.length n=true then
  (if ai n.kind=0 then(if(if n.kind=34 then decide (n.sort.idx=0)&&j7 n.sort.wid n.n else bW n.sort)then some n.sort else none)else
   if bW (ar l n.a)&&((decide (ai n.kind<2)||bW (ar l n.b))&&(decide (ai n.kind<3)||bW (ar l n.c)))then
    dh n (ar l n.a) (ar l n.b) (ar l n.c)else none)
 else none
def bQ (l:List NodeP):Bool:=(List.range l.length).all fun i=>match l[i]? with|some n=>decide (dc (l.take i) n=some n.sort)|none=>true
def gQ {α:Type} [DecidableEq α] (l:List α):Bool:=(List.range l.length).any fun i=>match l[i]? with|some x=>(l.take i).any fun y=>decide (y=x)|none=>false
def fK (l:List NodeP):Bool:=(List.range l.length).any fun i=>match l[i]? with|some n=>decide (n.name.size≠0)&&(l.take i).any fun y=>decide (y.name=n.name)|none=>false
def wh (m:ah):Bool:=fK m.nodes||(gQ (m.inits.map (·.state))||gQ (m.nexts.map (·.state)))
def dR (l:List NodeP):Nat->List Bool
 |0=> []
 |i+1=>dR l i++ [match l[i]? with
   |some n=>cY n.kind||((decide (0<ai n.kind)&&(dR l i).getD n.a.toNat false)||((decide (1<ai n.kind)&&(dR l i).getD n.b.toNat false)||(decide (2<ai n.kind)&&(dR l i).getD n.c.toNat false)))
   |none=>false]
def cT (l:List NodeP) (p:Int):Bool:=decide (0<=p/\p<=(l.length:Int)-1)
def gu (l:List NodeP) (p:Int):Int:=match l[p.toNat]? with|some n=>n.kind|none=>0
def jo (l:List NodeP) (b:BindP):Bool:=
 (cT l b.state&&cT l b.node&&decide (gu l b.state=36))&&((decide (ar l b.state=ar l b.node)||decide (ar l b.node=cR (ar l b.state).wid))&& !(dR l l.length).getD b.node.toNat false)
def gm (l:List NodeP) (b:BindP):Bool:=(cT l b.state&&cT l b.node&&decide (gu l b.state=36))&&decide (ar l b.state=ar l b.node)
def da (l:List NodeP) (p:Int):Bool:=cT l p&&decide (ar l p=cR 1)
def ak (l:List NodeP) (kind:Int):Nat:=((l.filter fun n=>decide (n.kind=kind)).map fun n=>dT n.sort).sum
def av (l:List NodeP) (kind:Int):List Nat:=(List.range l.length).filter fun i=>match l[i]? with|some n=>decide (n.kind=kind)|none=>false
def aG (m:ah):Int:=
 if 60<m.nodes.length\/60<m.inits.length\/60<m.nexts.length\/4<m.bads.length\/4<m.holds.length then 1 else
 if bQ m.nodes=false then 2 else if wh m=true then 3 else
 if(m.inits.all (jo m.nodes)&&m.nexts.all (gm m.nodes))=false then 4 else
 if(m.bads.all (da m.nodes)&&m.holds.all (da m.nodes))=false then 5 else
 if 8<ak m.nodes 36\/5<ak m.nodes 35 then 6 else 0
def aK (v:List (List Nat)) (p:Int):Nat:=(v.getD p.toNat []).getD 0 0
def Lr (a lo n:Nat):Nat:=a/2^lo%2^n
def EY (w a more:Nat) (signed:Bool):Nat:=if signed then fA (w+more) (sgn w a)else a
def bz (l:List NodeP) (n:NodeP) (v:List (List Nat)):List Nat:=
 if n.kind=34 then [n.n.toNat]else
 if n.kind=33 then(if aK v n.a=1 then v.getD n.b.toNat []else v.getD n.c.toNat [])else
 if n.kind=21 then [if v.getD n.a.toNat []=v.getD n.b.toNat []then 1 else 0]else
 if n.kind=37 then [(v.getD n.a.toNat []).getD (aK v n.b) 0]else
 if n.kind=38 then(v.getD n.a.toNat []).set (aK v n.b) (aK v n.c)else
 if n.kind=29 then [aK v n.a*2^(ar l n.b).wid.toNat+aK v n.b]else
 if n.kind=30 then [Lr (aK v n.a) n.m.toNat (n.n-n.m+1).toNat]else
 if n.kind=31\/n.kind=32 then [EY (ar l n.a).wid.toNat (aK v n.a) n.n.toNat (decide (n.kind=32))]else
 if ai n.kind=1 then [(zJ n.kind (ar l n.a).wid.toNat (aK v n.a)).1]else [(qu n.kind (ar l n.a).wid.toNat (aK v n.a) (aK v n.b)).1]
def du (l:List NodeP) (s inp:List (List Nat)):Nat->List (List Nat)
 |0=> []
 |i+1=>du l s inp i++ [match l[i]? with
   |some n=>if n.kind=36 then s.getD (av (l.take i) 36).length []else if n.kind=35 then inp.getD (av (l.take i) 35).length []else bz l n (du l s inp i)
   |none=> []]
def dP (n:NodeP):List Nat:=([n.a.toNat,n.b.toNat,n.c.toNat]).take (ai n.kind).toNat
theorem qE (k:Int):ai k=0\/ai k=1\/ai k=2\/ai k=3\/ai k= -1:=by
 unfold ai
 by_cases h1:(1<=k/\k<=5)\/(30<=k/\k<=32)
 ·rw [if_pos h1];simp
 rw [if_neg h1]
 by_cases h2:(6<=k/\k<=29)\/k=37
 ·rw [if_pos h2];simp
 rw [if_neg h2]
 by_cases h3:k=33\/k=38
 ·rw [if_pos h3];simp
 rw [if_neg h3]
 by_cases h4:34<=k/\k<=36
 ·rw [if_pos h4];simp
 rw [if_neg h4];simp
def Fj (l:List NodeP):Prop:= ∀(i:Nat) (n:NodeP),l[i]?=some n->0<=ai n.kind/\ ∀p∈dP n,p<i
def uv (l:List NodeP) (j:Nat):Bool:=match l[j]? with|some n=>cY n.kind|none=>false
def jA (l:List NodeP) (j:Nat):Bool:=(dR l l.length).getD j false
theorem jX (l:List NodeP): ∀i,(dR l i).length=i:=by
 intro i
 induction i with
 |zero=>rfl
 |succ i ih=>simp only [dR,List.length_append,ih,List.length_cons,List.length_nil]
theorem Oh (l:List NodeP): ∀d i j,j<i->(dR l (i+d)).getD j false=(dR l i).getD j false:=by
 intro d
 induction d with
 |zero=>intro i j _;rfl
 |succ d ih=>
  intro i j hj
  rw [<-Nat.add_assoc]
  simp only [dR]
  have hl:=jX l (i+d)
  rw [List.getD,List.getElem?_append_left (by omega)]
  exact ih i j hj
theorem wt {l:List NodeP} {i j:Nat} (hj:j<i) (hi:i<=l.length):(dR l i).getD j false=jA l j:=by
 have:=Oh l (l.length-i) i j hj
 rw [show i+(l.length-i)=l.length by omega]at this
 exact this.symm
theorem we {l:List NodeP} (ha:Fj l) {i:Nat} {n:NodeP} (hn:l[i]?=some n):jA l i=true↔cY n.kind=true\/ ∃p∈dP n,jA l p=true:=by
 have hi:i<l.length:=(List.getElem?_eq_some_iff.1 hn).1
 obtain⟨hk,hp⟩:=ha i n hn
 have e:jA l i=(cY n.kind||((decide (0<ai n.kind)&&(dR l i).getD n.a.toNat false)||((decide (1<ai n.kind)&&(dR l i).getD n.b.toNat false)||(decide (2<ai n.kind)&&(dR l i).getD n.c.toNat false)))):=by
  rw [<-wt (Nat.lt_succ_self i) hi]
  simp only [dR]
  have hl:=jX l i
  rw [List.getD,List.getElem?_append_right (by omega),hl,Nat.sub_self]
  simp only [hn,List.getElem?_cons_zero,Option.getD_some]
 rw [e]
 unfold dP at hp⊢
 rcases qE n.kind with h|h|h|h|h
 ·simp [h]
 ·rw [h]at hp⊢
  have h1:=hp n.a.toNat (by simp)
  rw [wt h1 (by omega)]
  simp
 ·rw [h]at hp⊢
  have h1:=hp n.a.toNat (by simp)
  have h2:=hp n.b.toNat (by simp)
  rw [wt h1 (by omega),wt h2 (by omega)]
  simp
 ·rw [h]at hp⊢
  have h1:=hp n.a.toNat (by simp)
  have h2:=hp n.b.toNat (by simp)
  have h3:=hp n.c.toNat (by simp)
  rw [wt h1 (by omega),wt h2 (by omega),wt h3 (by omega)]
  simp
 ·omega
def kl (l:List NodeP):Nat->(Nat->Bool)->Nat->Bool
 |0,S=>S
 |i+1,S=>kl l i (if S i then fun j=>S j||(match l[i]? with|some n=>(dP n).contains j|none=>false)else S)
theorem WZ {l:List NodeP} (ha:Fj l): ∀(i:Nat) (S:Nat->Bool),i<=l.length->
  ((∃j,kl l i S j=true/\uv l j=true)↔(∃j,i<=j/\S j=true/\uv l j=true)\/ ∃j,j<i/\S j=true/\jA l j=true):=by
 intro i
 induction i with
 |zero=>intro S _;simp [kl]
 |succ i ih=>
  intro S hi
  simp only [kl]
  rw [ih _ (by omega)]
  obtain⟨n,hn⟩: ∃n,l[i]?=some n:=⟨l[i],List.getElem?_eq_getElem (by omega)⟩
  have hm:=we ha hn
  have hp:=(ha i n hn).2
  have hnm:uv l i=cY n.kind:=by unfold uv;rw [hn]
  by_cases hS:S i=true
  ·simp only [hS,if_true,hn]
   constructor
   ·rintro (⟨j,h1,h2,h3⟩|⟨j,h1,h2,h3⟩)
    ·by_cases hji:j=i
     ·subst hji
      exact .inr ⟨j,by omega,hS,hm.2 (.inl (hnm▸h3))⟩
     ·rcases Bool.or_eq_true_iff.1 h2 with h2|h2
      ·exact .inl ⟨j,by omega,h2,h3⟩
      ·have:=hp j (by simpa using h2);omega
    ·rcases Bool.or_eq_true_iff.1 h2 with h2|h2
     ·exact .inr ⟨j,by omega,h2,h3⟩
     ·exact .inr ⟨i,by omega,hS,hm.2 (.inr ⟨j,by simpa using h2,h3⟩)⟩
   ·rintro (⟨j,h1,h2,h3⟩|⟨j,h1,h2,h3⟩)
    ·exact .inl ⟨j,by omega,by simp [h2],h3⟩
    ·by_cases hji:j=i
     ·subst hji
      rcases hm.1 h3 with h4|⟨p,hp1,hp2⟩
      ·exact .inl ⟨j,Nat.le_refl _,by simp [hS],hnm▸h4⟩
      ·exact .inr ⟨p,hp p hp1,by simp [hp1],hp2⟩
     ·exact .inr ⟨j,by omega,by simp [h2],h3⟩
  ·simp only [hS,if_false]
   constructor
   ·rintro (⟨j,h1,h2,h3⟩|⟨j,h1,h2,h3⟩)
    ·by_cases hji:j=i
     ·subst hji;exact absurd h2 hS
     ·exact .inl ⟨j,by omega,h2,h3⟩
    ·exact .inr ⟨j,by omega,h2,h3⟩
   ·rintro (⟨j,h1,h2,h3⟩|⟨j,h1,h2,h3⟩)
    ·exact .inl ⟨j,by omega,h2,h3⟩
    ·by_cases hji:j=i
     ·subst hji;exact absurd h2 hS
     ·exact .inr ⟨j,by omega,h2,h3⟩
theorem ae6 {l:List NodeP} (ha:Fj l) {i:Nat} (hi:i<l.length):(∃j,kl l (i+1) (fun j=>decide (j=i)) j=true/\uv l j=true)↔jA l i=true:=by
 rw [WZ ha _ _ (by omega)]
 constructor
 ·rintro (⟨j,h1,h2,h3⟩|⟨j,h1,h2,h3⟩)
  ·simp at h2;omega
  ·simp at h2;subst h2;exact h3
 ·intro h;exact .inr ⟨i,by omega,by simp,h⟩
theorem afo {l:List NodeP} (ha:Fj l) (k:Nat): ∀(i:Nat) (S:Nat->Bool),i<=k+1->i<=l.length->(∀j,S j=true->j<=k)-> ∀j,kl l i S j=true->j<=k:=by
 intro i
 induction i with
 |zero=>intro S _ _ hS j hj;exact hS j hj
 |succ i ih=>
  intro S hk hi hS j hj
  simp only [kl]at hj
  refine ih _ (by omega) (by omega) ?_ j hj
  intro j' hj'
  split at hj'
  ·rcases Bool.or_eq_true_iff.1 hj' with h|h
   ·exact hS j' h
   ·obtain⟨n,hn⟩: ∃n,l[i]?=some n:=⟨l[i],List.getElem?_eq_getElem (by omega)⟩
    rw [hn]at h
    have:=(ha i n hn).2 j' (by simpa using h)
    omega
  ·exact hS j' hj'
def nU (w:Nat):Nat->Nat->List Nat
 |0,_=> []
 |c+1,code=>nU w c code++ [code/2^(w*c)%2^w]
def bK (l:List NodeP) (p:Nat):Nat:=(ar l p).wid.toNat
def aE (l:List NodeP) (p:Nat):Nat:=dg (ar l p)
def cH (l:List NodeP) (ps:List Nat):Nat:=(ps.map fun p=>bK l p*aE l p).sum
def dM (l:List NodeP) (ps:List Nat) (code:Nat):List (List Nat):=
 (List.range ps.length).map fun i=>nU (bK l (ps.getD i 0)) (aE l (ps.getD i 0)) (code/2^cH l (ps.take i))
theorem tm (w c code:Nat):(nU w c code).length=c:=by
 induction c with
 |zero=>rfl
 |succ c ih=>simp only [nU,List.length_append,ih,List.length_cons,List.length_nil]
theorem Wg {w c code x:Nat} (h:x∈nU w c code):x<2^w:=by
 induction c with
 |zero=>cases h
 |succ c ih=>
  simp only [nU,List.mem_append,List.mem_singleton]at h
  rcases h with h|h
  ·exact ih h
  ·subst h;exact Nat.mod_lt _ (bP w)
theorem ka (l:List NodeP) (ps:List Nat) (code:Nat):(dM l ps code).length=ps.length:=by simp [dM]
theorem VN {α:Type} {l:List α} {i:Nat} {x:α} (h:l[i]?=some x):i<l.length:=by
 rcases Nat.lt_or_ge i l.length with h'|h'
 ·exact h'
 ·rw [List.getElem?_eq_none h']at h;cases h
theorem EI {l:List NodeP} {ps:List Nat} {code i p:Nat} (h:ps[i]?=some p):(dM l ps code).getD i []=nU (bK l p) (aE l p) (code/2^cH l (ps.take i)):=by
 have hlt:=VN h
 have hp:ps.getD i 0=p:=by rw [List.getD_eq_getElem?_getD,h];rfl
 unfold dM
 rw [List.getD_eq_getElem?_getD,List.getElem?_map,List.getElem?_range hlt]
 simp only [Option.map_some,Option.getD_some,hp]
theorem nq {l:List NodeP} {ps:List Nat} {i p:Nat} (h:ps[i]?=some p):cH l (ps.take (i+1))=cH l (ps.take i)+bK l p*aE l p:=by
 have hlt:=VN h
 rw [List.getElem?_eq_getElem hlt]at h
 unfold cH
 rw [List.take_succ_eq_append_getElem hlt,Option.some.inj h,List.map_append,List.sum_append];simp
theorem I9 (l:List NodeP) (ps:List Nat) (i:Nat):cH l (ps.take i)<=cH l ps:=by
 conv=>rhs;rw [<-List.take_append_drop i ps]
 unfold cH
 rw [List.map_append,List.sum_append];omega
def gX (w:Nat):List Nat->Nat
 | []=>0
 |x::xs=>x+2^w*gX w xs
theorem AZ {w:Nat}: ∀{xs:List Nat},(∀x∈xs,x<2^w)->gX w xs<2^(w*xs.length):=by
 intro xs
 induction xs with
 |nil=>intro _;simp [gX]
 |cons x xs ih=>
  intro h
  have h1:=ih fun y hy=>h y (by simp [hy])
  have h2:=h x (by simp)
  simp only [gX,List.length_cons]
  rw [Nat.mul_add,Nat.mul_one,Nat.pow_add,Nat.mul_comm (2^(w*xs.length))]
  have h3:=Nat.mul_le_mul_left (2^w) (Nat.succ_le_of_lt h1)
  rw [Nat.succ_eq_add_one,Nat.mul_add,Nat.mul_one]at h3
  omega
theorem LQ (w:Nat) (xs:List Nat) (x:Nat):gX w (xs++ [x])=gX w xs+2^(w*xs.length)*x:=by
 induction xs with
 |nil=>simp [gX]
 |cons y ys ih=>
  simp only [List.cons_append,gX,ih,List.length_cons]
  rw [Nat.mul_add,<-Nat.add_assoc]
  congr 1
  rw [Nat.mul_add w,Nat.mul_one,Nat.add_comm (w*ys.length),Nat.pow_add,Nat.mul_assoc]
theorem JX (w:Nat) (code k:Nat): ∀c,c<=k->nU w c (code%2^(w*k))=nU w c code:=by
 intro c
 induction c with
 |zero=>intro _;rfl
 |succ c ih=>
  intro h
  simp only [nU,ih (by omega)]
  congr 2
  have hk:w*k=w*c+(w+w*(k-c-1)):=by
   have:k=c+(1+(k-c-1)):=by omega
   conv=>lhs;rw [this]
   simp only [Nat.mul_add,Nat.mul_one]
  rw [hk,Nat.pow_add,Nat.mod_mul_right_div_self,Nat.pow_add,Nat.mod_mul_right_mod]
theorem F0 (w c code:Nat):gX w (nU w c code)=code%2^(w*c):=by
 induction c with
 |zero=>simp [nU,gX,Nat.mod_one]
 |succ c ih=>
  rw [nU,LQ,ih,tm,Nat.mul_add,Nat.mul_one,Nat.pow_add,Nat.mod_mul]
theorem Yq {w:Nat}: ∀{xs:List Nat} {k:Nat},(∀x∈xs,x<2^w)->k<xs.length->gX w xs/2^(w*k)%2^w=xs.getD k 0:=by
 intro xs
 induction xs with
 |nil=>intro k _ h;simp at h
 |cons x xs ih=>
  intro k h hk
  have hx:=h x (by simp)
  have hp:=bP w
  cases k with
  |zero=>
   simp only [gX,Nat.mul_zero,Nat.pow_zero,Nat.div_one,List.getD_cons_zero]
   rw [Nat.add_mul_mod_self_left,Nat.mod_eq_of_lt hx]
  |succ k=>
   rw [List.getD_cons_succ,<-ih (fun y hy=>h y (by simp [hy])) (by simpa using hk)]
   simp only [gX]
   rw [Nat.mul_add,Nat.mul_one,Nat.add_comm (w*k),Nat.pow_add,<-Nat.div_div_eq_div_mul,Nat.add_mul_div_left _ _ hp,Nat.div_eq_of_lt hx,Nat.zero_add]
theorem Gk {w:Nat} {xs:List Nat} (h: ∀x∈xs,x<2^w):nU w xs.length (gX w xs)=xs:=by
 have key: ∀c,c<=xs.length->nU w c (gX w xs)=xs.take c:=by
  intro c
  induction c with
  |zero=>intro _;rfl
  |succ c ih=>
   intro hc
   rw [nU,ih (by omega),Yq h (by omega),List.take_succ_eq_append_getElem (by omega),List.getD_eq_getElem?_getD,List.getElem?_eq_getElem (by omega)];rfl
 have:=key xs.length (Nat.le_refl _)
 rwa [List.take_length]at this
theorem Mj (w n:Nat):gX w (List.replicate n 0)=0:=by
 induction n with
 |zero=>rfl
 |succ n ih=>simp only [List.replicate_succ,gX,ih];simp
def nbA (l:List NodeP) (p:Nat):Nat:=bK l p*aE l p
def tQ (l:List NodeP):List Nat->Nat->List (List Nat)
 | [],_=> []
 |p::ps,code=>nU (bK l p) (aE l p) code::tQ l ps (code/2^nbA l p)
def dX (l:List NodeP):List Nat->List (List Nat)->Nat
 | [],_=>0
 |p::ps,vs=>gX (bK l p) (vs.headD [])+2^nbA l p*dX l ps vs.tail
def jT (l:List NodeP):List Nat->List (List Nat)->Prop
 | [],vs=>vs= []
 |p::ps,vs=> ∃v r,vs=v::r/\v.length=aE l p/\(∀x∈v,x<2^bK l p)/\jT l ps r
theorem rO (l:List NodeP) (p:Nat) (ps:List Nat):cH l (p::ps)=nbA l p+cH l ps:=by simp [cH,nbA]
theorem jN (l:List NodeP): ∀(ps:List Nat) (code:Nat),dM l ps code=tQ l ps code:=by
 intro ps
 induction ps with
 |nil=>intro code;simp [dM,tQ]
 |cons p ps ih=>
  intro code
  rw [tQ,<-ih]
  unfold dM
  rw [List.length_cons,List.range_succ_eq_map,List.map_cons,List.map_map]
  simp only [List.getD_cons_zero,List.take_zero,cH,List.map_nil,List.sum_nil,Nat.pow_zero,Nat.div_one,List.cons.injEq,true_and]
  apply List.map_congr_left
  intro i _
  simp only [Function.comp,List.getD_cons_succ,List.take_succ_cons,List.map_cons,List.sum_cons,nbA]
  rw [Nat.pow_add,Nat.div_div_eq_div_mul]
theorem JU (l:List NodeP): ∀(ps:List Nat) (code:Nat),jT l ps (tQ l ps code):=by
 intro ps
 induction ps with
 |nil=>intro code;rfl
 |cons p ps ih=>exact fun code=>⟨_,_,rfl,tm _ _ _,fun x hx=>Wg hx,ih _⟩
theorem yz {l:List NodeP}: ∀{ps:List Nat} {vs:List (List Nat)},jT l ps vs->dX l ps vs<2^cH l ps:=by
 intro ps
 induction ps with
 |nil=>intro vs _;simp [dX,cH]
 |cons p ps ih=>
  rintro _ ⟨v,r,rfl,h1,h2,h3⟩
  have h4:=ih h3
  have h5:=AZ h2
  rw [h1]at h5
  have h5':gX (bK l p) v<2^nbA l p:=h5
  simp only [dX,List.headD_cons,List.tail_cons]
  rw [rO,Nat.pow_add]
  have h6:=Nat.mul_le_mul_left (2^nbA l p) (Nat.succ_le_of_lt h4)
  rw [Nat.succ_eq_add_one,Nat.mul_add,Nat.mul_one]at h6
  omega
theorem nR {l:List NodeP}: ∀{ps:List Nat} {vs:List (List Nat)},jT l ps vs->tQ l ps (dX l ps vs)=vs:=by
 intro ps
 induction ps with
 |nil=>rintro vs rfl;rfl
 |cons p ps ih=>
  rintro _ ⟨v,r,rfl,h1,h2,h3⟩
  have h5:=AZ h2
  rw [h1]at h5
  have h5':gX (bK l p) v<2^nbA l p:=h5
  simp only [tQ,dX,List.headD_cons,List.tail_cons]
  rw [Nat.add_mul_div_left _ _ (bP _),Nat.div_eq_of_lt h5',Nat.zero_add,ih h3,<-JX _ _ _ _ (Nat.le_refl _)]
  have:(gX (bK l p) v+2^nbA l p*dX l ps r)%2^(bK l p*aE l p)=gX (bK l p) v:=by
   show _%2^nbA l p=_
   rw [Nat.add_mul_mod_self_left,Nat.mod_eq_of_lt h5']
  rw [this,<-h1,Gk h2]
theorem Yj (l:List NodeP): ∀(ps:List Nat) (code:Nat),dX l ps (tQ l ps code)=code%2^cH l ps:=by
 intro ps
 induction ps with
 |nil=>intro code;simp [dX,cH,Nat.mod_one]
 |cons p ps ih=>
  intro code
  simp only [tQ,dX,List.headD_cons,List.tail_cons]
  rw [ih,F0,rO,Nat.pow_add,Nat.mod_mul];rfl
theorem j5 {l:List NodeP}: ∀{ps:List Nat} {vs:List (List Nat)},jT l ps vs->vs.length=ps.length:=by
 intro ps
 induction ps with
 |nil=>rintro vs rfl;rfl
 |cons p ps ih=>rintro _ ⟨v,r,rfl,h1,h2,h3⟩;simp [ih h3]
theorem UT {l:List NodeP}: ∀{ps:List Nat} {vs:List (List Nat)} {p:Nat} {v:List Nat},vs.length=ps.length->
  dX l (ps++ [p]) (vs++ [v])=dX l ps vs+2^cH l ps*gX (bK l p) v:=by
 intro ps
 induction ps with
 |nil=>
  intro vs p v h
  obtain rfl:vs= []:=List.eq_nil_of_length_eq_zero (by simpa using h)
  simp [dX,cH]
 |cons q ps ih=>
  intro vs p v h
  obtain⟨u,r,rfl⟩: ∃u r,vs=u::r:=by
   cases vs with
   |nil=>simp at h
   |cons u r=>exact⟨u,r,rfl⟩
  simp only [List.cons_append,dX,List.headD_cons,List.tail_cons]
  rw [ih (by simpa using h),rO,Nat.pow_add,Nat.mul_add,Nat.mul_assoc,Nat.add_assoc]
theorem XQ {l:List NodeP}: ∀{ps:List Nat} {vs:List (List Nat)},jT l ps vs-> ∀i,jT l (ps.take i) (vs.take i):=by
 intro ps
 induction ps with
 |nil=>rintro vs rfl i;simp [jT]
 |cons p ps ih=>
  rintro _ ⟨v,r,rfl,h1,h2,h3⟩ i
  cases i with
  |zero=>rfl
  |succ i=>exact⟨v,r.take i,rfl,h1,h2,ih h3 i⟩
theorem lU {l:List NodeP}: ∀{ps:List Nat} {vs:List (List Nat)},jT l ps vs-> ∀{i p:Nat},ps[i]?=some p->(vs.getD i []).length=aE l p/\ ∀x∈vs.getD i [],x<2^bK l p:=by
 intro ps
 induction ps with
 |nil=>rintro vs rfl i p h;simp at h
 |cons q ps ih=>
  rintro _ ⟨v,r,rfl,h1,h2,h3⟩ i p h
  cases i with
  |zero=>simp at h;subst h;exact⟨h1,h2⟩
  |succ i=>exact ih h3 (by simpa using h)
def bO (binds:List BindP) (p:Nat):Option Nat:=(binds.find? fun b=>decide (b.state=(p:Int))).map (·.node.toNat)
def ij (l:List NodeP) (c:Nat->Bool):List Nat->Nat
 | []=>0
 |p::ps=>(if c p then 2^nbA l p-1 else 0)+2^nbA l p*ij l c ps
def mE (l:List NodeP) (f:Nat->Option (List Nat)) (ps:List Nat):List (List Nat):=ps.map fun p=>(f p).getD (List.replicate (aE l p) 0)
theorem Uv (n:Nat):2^n-1<2^n:=by have:=bP n;omega
theorem WW (l:List NodeP) (c:Nat->Bool) (p:Nat):(if c p then 2^nbA l p-1 else 0)<2^nbA l p:=by
 have:=bP (nbA l p);split<;>omega
theorem Bn (l:List NodeP) (c:Nat->Bool): ∀ps,ij l c ps<2^cH l ps:=by
 intro ps
 induction ps with
 |nil=>simp [ij,cH]
 |cons p ps ih=>
  have h1:=WW l c p
  rw [rO,Nat.pow_add,ij]
  have h6:=Nat.mul_le_mul_left (2^nbA l p) (Nat.succ_le_of_lt ih)
  rw [Nat.succ_eq_add_one,Nat.mul_add,Nat.mul_one]at h6
  omega
theorem F9 {n a b:Nat} (ha:a<2^n) (j:Nat):(a+2^n*b).testBit j=if j<n then a.testBit j else b.testBit (j-n):=by
 rw [Nat.add_comm,Nat.testBit_two_pow_mul_add _ ha]
theorem Zc {n a b c d:Nat} (ha:a<2^n) (hc:c<2^n):(a+2^n*b)&&&(c+2^n*d)=(a&&&c)+2^n*(b&&&d):=by
 apply Nat.eq_of_testBit_eq
 intro j
 rw [Nat.testBit_and,F9 ha,F9 hc,F9 (Nat.lt_of_le_of_lt Nat.and_le_left ha)]
 split<;>rw [Nat.testBit_and]
theorem XP {n a b c d:Nat} (ha:a<2^n) (hc:c<2^n):a+2^n*b=c+2^n*d↔a=c/\b=d:=by
 constructor
 ·intro h
  have h1:(a+2^n*b)%2^n=(c+2^n*d)%2^n:=by rw [h]
  have h2:(a+2^n*b)/2^n=(c+2^n*d)/2^n:=by rw [h]
  rw [Nat.add_mul_mod_self_left,Nat.add_mul_mod_self_left,Nat.mod_eq_of_lt ha,Nat.mod_eq_of_lt hc]at h1
  rw [Nat.add_mul_div_left _ _ (bP n),Nat.add_mul_div_left _ _ (bP n),Nat.div_eq_of_lt ha,Nat.div_eq_of_lt hc]at h2
  exact⟨h1,by omega⟩
 ·rintro ⟨rfl,rfl⟩;rfl
theorem Gt {l:List NodeP} {f:Nat->Option (List Nat)}: ∀{ps:List Nat} (s:Nat),(∀p∈ps,∀v,f p=some v->v.length=aE l p/\ ∀x∈v,x<2^bK l p)->
  (s&&&ij l (fun p=>(f p).isSome) ps=dX l ps (mE l f ps)↔ ∀(i p:Nat),ps[i]?=some p-> ∀v,f p=some v->(tQ l ps s).getD i []=v):=by
 intro ps
 induction ps with
 |nil=>intro s _;simp [ij,dX]
 |cons p ps ih=>
  intro s hf
  have ih':=ih (s/2^nbA l p) fun q hq=>hf q (by simp [hq])
  have hs:s=s%2^nbA l p+2^nbA l p*(s/2^nbA l p):=(Nat.mod_add_div _ _).symm
  have hm:=Nat.mod_lt s (bP (nbA l p))
  have hhead:gX (bK l p) ((f p).getD (List.replicate (aE l p) 0))<2^nbA l p:=by
   cases h:f p with
   |none=>simp only [Option.getD_none,Mj];exact bP _
   |some v=>
    have h2:=hf p (by simp) v h
    have h1:=AZ h2.2
    rw [h2.1]at h1;exact h1
  have e1:s&&&ij l (fun p=>(f p).isSome) (p::ps)=(s%2^nbA l p&&&(if(f p).isSome then 2^nbA l p-1 else 0))+2^nbA l p*(s/2^nbA l p&&&ij l (fun p=>(f p).isSome) ps):=by
   conv=>lhs;rw [hs]
   rw [ij,Zc hm (WW l (fun p=>(f p).isSome) p)]
  have e2:dX l (p::ps) (mE l f (p::ps))=gX (bK l p) ((f p).getD (List.replicate (aE l p) 0))+2^nbA l p*dX l ps (mE l f ps):=rfl
  rw [e1,e2,XP (Nat.lt_of_le_of_lt Nat.and_le_left hm) hhead,ih']
  constructor
  ·rintro ⟨h1,h2⟩ i q hq v hv
   cases i with
   |zero=>
    simp at hq;subst hq
    rw [hv]at h1
    simp only [Option.isSome_some,if_true,Option.getD_some,Nat.and_two_pow_sub_one_eq_mod,Nat.mod_mod]at h1
    have h3:=hf p (by simp) v hv
    simp only [tQ,List.getD_cons_zero]
    rw [<-JX _ _ _ _ (Nat.le_refl _)]
    show nU _ _ (s%2^nbA l p)=v
    rw [h1,<-h3.1,Gk h3.2]
   |succ i=>exact h2 i q (by simpa using hq) v hv
  ·intro h
   refine⟨?_,fun i q hq v hv=>h (i+1) q (by simpa using hq) v hv⟩
   cases hv:f p with
   |none=>simp [Mj]
   |some v=>
    have h1:=h 0 p rfl v hv
    simp only [tQ,List.getD_cons_zero]at h1
    simp only [Option.isSome_some,if_true,Option.getD_some,Nat.and_two_pow_sub_one_eq_mod,Nat.mod_mod]
    rw [<-h1,F0];rfl
theorem FW {l:List NodeP} {f:Nat->Option (List Nat)} {ps:List Nat} (h: ∀p∈ps,∀v,f p=some v->v.length=aE l p/\ ∀x∈v,x<2^bK l p):jT l ps (mE l f ps):=by
 induction ps with
 |nil=>rfl
 |cons p ps ih=>
  refine⟨_,_,rfl,?_,?_,ih fun q hq=>h q (by simp [hq])⟩
  ·show ((f p).getD (List.replicate (aE l p) 0)).length=_
   cases hv:f p with
   |none=>simp
   |some v=>exact(h p (by simp) v hv).1
  ·show∀x∈(f p).getD (List.replicate (aE l p) 0),_
   cases hv:f p with
   |none=>
    intro x hx
    simp at hx
    rw [hx.2];exact bP _
   |some v=>exact(h p (by simp) v hv).2
theorem S5 {l:List NodeP} {f:Nat->Option (List Nat)} {ps:List Nat} (h: ∀p∈ps,∀v,f p=some v->v.length=aE l p/\ ∀x∈v,x<2^bK l p):
  dX l ps (mE l f ps)&&&ij l (fun p=>(f p).isSome) ps=dX l ps (mE l f ps):=by
 rw [Gt _ h,nR (FW h)]
 intro i p hp v hv
 unfold mE
 rw [List.getD_eq_getElem?_getD,List.getElem?_map,hp]
 simp [hv]
theorem NL {a b:Nat} (h: ∀j,(a.testBit j&&b.testBit j)=false):a&&&b=0:=by
 apply Nat.eq_of_testBit_eq;intro j;rw [Nat.testBit_and,h j,Nat.zero_testBit]
theorem acI (l:List NodeP) (c:Nat->Bool): ∀ps,ij l c ps+ij l (fun p=> !c p) ps=2^cH l ps-1:=by
 intro ps
 induction ps with
 |nil=>simp [ij,cH]
 |cons p ps ih=>
  simp only [ij]
  rw [rO,Nat.pow_add]
  have h1:=bP (nbA l p)
  have h2:=bP (cH l ps)
  have h3:2^nbA l p*ij l c ps+2^nbA l p*ij l (fun p=> !c p) ps=2^nbA l p*2^cH l ps-2^nbA l p:=by
   rw [<-Nat.mul_add,ih,Nat.mul_sub,Nat.mul_one]
  have h4:=Nat.mul_le_mul_left (2^nbA l p) h2
  by_cases hc:c p=true
  ·simp only [hc,Bool.not_true,if_true,if_false,Bool.false_eq_true];omega
  ·have hc':c p=false:=by simpa using hc
   simp only [hc',Bool.not_false,if_true,if_false,Bool.false_eq_true];omega
theorem A9 (n a b:Nat):dl n (fun j=>a.testBit j&&b.testBit j)+dl n (fun j=>a.testBit j&& !b.testBit j)=dl n a.testBit:=by
 induction n with
 |zero=>rfl
 |succ n ih=>
  simp only [dl]
  by_cases h1:a.testBit n=true<;>by_cases h2:b.testBit n=true<;>simp [h1,h2]<;>omega
theorem BT {n a:Nat} (h:a<2^n):dl n a.testBit=a:=kP h fun _ _=>rfl
theorem aeD {n a x y:Nat} (ha:a<2^n) (hxy:x+y=2^n-1) (hx:x<2^n):(a&&&x)+(a&&&y)=a/\ ∀j,j<n->y.testBit j= !x.testBit j:=by
 have hb: ∀j,j<n->y.testBit j= !x.testBit j:=by
  have h1:=A9 n (2^n-1) x
  rw [BT (Uv n),kP hx (fun i hi=>by rw [Nat.testBit_two_pow_sub_one];simp [hi])]at h1
  have h2:dl n (fun j=>(2^n-1).testBit j&& !x.testBit j)=y:=by omega
  intro j hj
  rw [<-h2,uZ _ _ _ hj,Nat.testBit_two_pow_sub_one]
  simp [hj]
 refine⟨?_,hb⟩
 have h1:=A9 n a x
 rw [BT ha,Ja ha]at h1
 have h2:dl n (fun j=>a.testBit j&& !x.testBit j)=a&&&y:=by
  rw [<-Ja ha]
  exact wy fun j hj=>by rw [hb j hj]
 omega
theorem adj {n x y nx t:Nat} (hxy:x+y=2^n-1) (hx:x<2^n) (ht:t<2^n) (hnx:nx<2^n) (hn:nx&&&x=nx):t&&&x=nx↔ ∃f,f&&&y=f/\nx+f=t:=by
 have h1:=aeD ht hxy hx
 constructor
 ·intro h
  exact⟨t&&&y,by rw [Nat.and_assoc,Nat.and_self],by omega⟩
 ·rintro ⟨f,hf,rfl⟩
  have hfl:f<2^n:=by omega
  have d: ∀j,(nx.testBit j&&f.testBit j)=false:=by
   intro j
   by_cases hj:j<n
   ·have e1:nx.testBit j=(nx.testBit j&&x.testBit j):=by rw [<-Nat.testBit_and,hn]
    have e2:f.testBit j=(f.testBit j&&y.testBit j):=by rw [<-Nat.testBit_and,hf]
    rw [e1,e2,h1.2 j hj]
    cases nx.testBit j<;>cases f.testBit j<;>cases x.testBit j<;>rfl
   ·rw [Nat.testBit_lt_two_pow (Nat.lt_of_lt_of_le hnx (Nat.pow_le_pow_right (by omega) (by omega)))];rfl
  have hor:nx+f=nx|||f:=by
   have hg: ∀m,dl m nx.testBit+dl m f.testBit=dl m (fun j=>nx.testBit j||f.testBit j):=by
    intro m
    induction m with
    |zero=>rfl
    |succ m ih=>
     have:=d m
     simp only [dl]
     by_cases h1:nx.testBit m=true<;>by_cases h2:f.testBit m=true<;>simp [h1,h2]at this⊢ <;>omega
   have:=hg n
   rw [BT hnx,BT hfl,Ws hnx hfl]at this
   exact this
  rw [hor]
  have hfx:f&&&x=0:=NL fun j=>by
   by_cases hj:j<n
   ·have e2:f.testBit j=(f.testBit j&&y.testBit j):=by rw [<-Nat.testBit_and,hf]
    rw [e2,h1.2 j hj]
    cases f.testBit j<;>cases x.testBit j<;>rfl
   ·rw [Nat.testBit_lt_two_pow (Nat.lt_of_lt_of_le hfl (Nat.pow_le_pow_right (by omega) (by omega)))];rfl
  rw [Nat.and_or_distrib_right,hn,hfx,Nat.or_zero]
def rz (n:Nat) (p:Nat->Bool):Bool:=(List.range n).any p
theorem db {n:Nat} {p:Nat->Bool}:rz n p=true↔ ∃i,i<n/\p i=true:=by
 unfold rz;rw [List.any_eq_true]
 constructor
 ·rintro ⟨i,hi,h⟩;exact⟨i,List.mem_range.1 hi,h⟩
 ·rintro ⟨i,hi,h⟩;exact⟨i,List.mem_range.2 hi,h⟩
theorem sD {n:Nat} {p:Nat->Bool}:rz n p=false↔ ∀i,i<n->p i=false:=by
 rw [Bool.eq_false_iff,ne_eq,db]
 constructor
 ·intro h i hi
  cases hp:p i with
  |false=>rfl
  |true=>exact absurd ⟨i,hi,hp⟩ h
 ·rintro h ⟨i,hi,hp⟩;rw [h i hi]at hp;cases hp
theorem Pp (n:Nat) (p:Nat->Bool):rz (n+1) p=(rz n p||p n):=by
 unfold rz;rw [List.range_succ,List.any_append];simp
structure aL where
 n:Nat
 k:Nat
 hold:Nat->Bool
 bad:Nat->Bool
 next:Nat->Nat
 fixed:Nat
 bfix:Nat
 bas:Nat
structure aL.Ok (σ:aL):Prop where
 nle:σ.n<=8
 kle:σ.k<=5
 fixed:σ.fixed<2^σ.n
 bfix:σ.bfix<2^σ.n
 next: ∀c,c<2^(σ.n+σ.k)->σ.next c<2^σ.n
 held: ∀c,c<2^(σ.n+σ.k)->σ.next c&&&σ.fixed=σ.next c
 bas:σ.bas<2^σ.n
 bheld:σ.bas&&&σ.bfix=σ.bas
namespace aL
def begins (σ:aL) (s:Nat):Bool:=decide (s&&&σ.bfix=σ.bas)
def ends (σ:aL) (c:Nat):Bool:=σ.hold c&&σ.bad c
def goes (σ:aL) (c t:Nat):Bool:=decide (t&&&σ.fixed=σ.next c)
def at_ (σ:aL) (s i:Nat):Nat:=i*2^σ.n+s
def some_ (σ:aL) (f:Nat->Nat->Bool) (s:Nat):Bool:=rz (2^σ.k) fun i=>f s (σ.at_ s i)
def leads (σ:aL) (S:Nat->Bool) (c:Nat):Bool:=rz (2^σ.n) fun t=>S t&&σ.goes c t
def fwd (σ:aL) (p S:Nat->Bool) (t:Nat):Bool:=rz (2^(σ.n+σ.k)) fun c=>(S (c%2^σ.n)&&p c)&&σ.goes c t
def bwd (σ:aL) (p S:Nat->Bool):Nat->Bool:=σ.some_ fun _ c=>p c&&σ.leads S c
theorem pow_nk (σ:aL):2^(σ.n+σ.k)=2^σ.k*2^σ.n:=by rw [Nat.pow_add,Nat.mul_comm]
theorem at_lt {σ:aL} {s i:Nat} (hs:s<2^σ.n) (hi:i<2^σ.k):σ.at_ s i<2^(σ.n+σ.k):=by
 rw [pow_nk];unfold at_
 have:=Nat.mul_le_mul_right (2^σ.n) (Nat.succ_le_of_lt hi)
 rw [Nat.succ_mul]at this;omega
theorem at_mod {σ:aL} {s i:Nat} (hs:s<2^σ.n):σ.at_ s i%2^σ.n=s:=by
 unfold at_;rw [Nat.mul_comm,Nat.mul_add_mod,Nat.mod_eq_of_lt hs]
theorem at_div {σ:aL} {s i:Nat} (hs:s<2^σ.n):σ.at_ s i/2^σ.n=i:=by
 unfold at_;rw [Nat.mul_comm,Nat.mul_add_div (bP _),Nat.div_eq_of_lt hs,Nat.add_zero]
theorem at_of {σ:aL} {c:Nat} (hc:c<2^(σ.n+σ.k)):c%2^σ.n<2^σ.n/\c/2^σ.n<2^σ.k/\σ.at_ (c%2^σ.n) (c/2^σ.n)=c:=by
 refine⟨Nat.mod_lt _ (bP _),?_,?_⟩
 ·rw [Nat.div_lt_iff_lt_mul (bP _),<-pow_nk];exact hc
 ·unfold at_;rw [Nat.mul_comm];exact Nat.div_add_mod _ _
theorem some_iff {σ:aL} {f:Nat->Nat->Bool} {s:Nat}:σ.some_ f s=true↔ ∃i,i<2^σ.k/\f s (σ.at_ s i)=true:=db
theorem fwd_iff {σ:aL} {p S:Nat->Bool} {t:Nat}:σ.fwd p S t=true↔ ∃s i,s<2^σ.n/\i<2^σ.k/\S s=true/\p (σ.at_ s i)=true/\σ.goes (σ.at_ s i) t=true:=by
 unfold fwd;rw [db]
 constructor
 ·rintro ⟨c,hc,h⟩
  simp only [Bool.and_eq_true]at h
  obtain⟨h1,h2,h3⟩:=at_of hc
  exact⟨_,_,h1,h2,h.1.1,by rw [h3];exact h.1.2,by rw [h3];exact h.2⟩
 ·rintro ⟨s,i,hs,hi,h1,h2,h3⟩
  refine⟨_,at_lt hs hi,?_⟩
  rw [at_mod hs,h1,h2,h3];rfl
def lay (σ:aL):Nat->(Nat->Bool)×(Nat->Bool)
 |0=>(σ.begins,fun _=>false)
 |i+1=>(fun t=>σ.fwd σ.hold (σ.lay i).1 t&& !((σ.lay i).2 t||(σ.lay i).1 t),fun t=>(σ.lay i).2 t||(σ.lay i).1 t)
def front (σ:aL) (i:Nat):Nat->Bool:=(σ.lay i).1
def seen (σ:aL) (i:Nat):Nat->Bool:=(σ.lay i).2
theorem seen_zero (σ:aL) (t:Nat):σ.seen 0 t=false:=rfl
theorem seen_succ (σ:aL) (i t:Nat):σ.seen (i+1) t=(σ.seen i t||σ.front i t):=rfl
theorem front_succ (σ:aL) (i t:Nat):σ.front (i+1) t=(σ.fwd σ.hold (σ.front i) t&& !σ.seen (i+1) t):=rfl
def live (σ:aL) (i:Nat):Bool:=rz (2^σ.n) (σ.front i)
def cntB (n:Nat) (S:Nat->Bool):Nat:=((List.range n).filter S).length
theorem cntB_le (n:Nat) (S:Nat->Bool):cntB n S<=n:=by unfold cntB;have:=List.length_filter_le S (List.range n);simpa using this
theorem cntB_succ (n:Nat) (S:Nat->Bool):cntB (n+1) S=cntB n S+if S n then 1 else 0:=by
 unfold cntB;rw [List.range_succ,List.filter_append,List.length_append]
 by_cases h:S n=true<;>simp [h]
theorem cntB_mono {n:Nat} {S T:Nat->Bool} (h: ∀i,i<n->S i=true->T i=true):cntB n S<=cntB n T:=by
 induction n with
 |zero=>simp [cntB]
 |succ n ih=>
  have:=ih fun i hi=>h i (by omega)
  have h2:=h n (by omega)
  rw [cntB_succ,cntB_succ]
  by_cases hs:S n=true
  ·rw [if_pos hs,if_pos (h2 hs)];omega
  ·rw [if_neg hs];omega
theorem cntB_more {n j:Nat} {S T:Nat->Bool} (h: ∀i,i<n->S i=true->T i=true) (hj:j<n) (h1:S j=false) (h2:T j=true):cntB n S+1<=cntB n T:=by
 induction n with
 |zero=>omega
 |succ n ih=>
  rw [cntB_succ,cntB_succ]
  by_cases e:j=n
  ·subst e
   have:=cntB_mono fun i hi=>h i (Nat.lt_succ_of_lt hi)
   rw [if_neg (by rw [h1];decide),if_pos h2];omega
  ·have:=ih (fun i hi=>h i (by omega)) (by omega)
   have h3:=h n (by omega)
   by_cases hs:S n=true
   ·rw [if_pos hs,if_pos (h3 hs)];omega
   ·rw [if_neg hs];omega
theorem front_new (σ:aL) (i t:Nat) (h:σ.front i t=true):σ.seen i t=false:=by
 cases i with
 |zero=>rfl
 |succ i=>rw [front_succ]at h;simp only [Bool.and_eq_true,Bool.not_eq_true']at h;exact h.2
theorem cnt_seen (σ:aL): ∀i,(∀j,j<i->σ.live j=true)->i<=cntB (2^σ.n) (σ.seen i):=by
 intro i
 induction i with
 |zero=>intro _;omega
 |succ i ih=>
  intro h
  have h1:=ih fun j hj=>h j (by omega)
  obtain⟨t,ht,h2⟩:=db.1 (h i (by omega))
  have:=cntB_more (n:=2^σ.n) (j:=t) (S:=σ.seen i) (T:=σ.seen (i+1)) (fun j _ hj=>by rw [seen_succ,hj];rfl) ht (front_new σ i t h2) (by rw [seen_succ,h2,Bool.or_true])
  omega
theorem live_le {σ:aL} {i:Nat} (h: ∀j,j<i->σ.live j=true):i<=2^σ.n:=Nat.le_trans (cnt_seen σ i h) (cntB_le _ _)
theorem dead_after {σ:aL} {i:Nat} (h:σ.live i=false): ∀d,σ.live (i+d)=false:=by
 intro d
 induction d with
 |zero=>exact h
 |succ d ih=>
  unfold live at ih⊢
  rw [sD]at ih⊢
  intro t ht
  rw [<-Nat.add_assoc,front_succ]
  have:σ.fwd σ.hold (σ.front (i+d)) t=false:=by
   cases hf:σ.fwd σ.hold (σ.front (i+d)) t with
   |false=>rfl
   |true=>
    obtain⟨s,x,hs,_,h1,_⟩:=fwd_iff.1 hf
    rw [ih s hs]at h1;cases h1
  rw [this];rfl
def nLay (σ:aL):Nat:=(List.range (2^σ.n+1)).findIdx fun i=> !σ.live i
theorem nLay_of {σ:aL} {i:Nat} (h1: ∀j,j<i->σ.live j=true) (h2:σ.live i=false):σ.nLay=i:=by
 have hle:=live_le h1
 unfold nLay
 rw [List.findIdx_eq (by simp;omega)]
 refine⟨by simp [h2],fun j hj=>?_⟩
 simp [h1 j hj]
theorem nLay_live {σ:aL}:(∀j,j<σ.nLay->σ.live j=true)/\σ.live σ.nLay=false:=by
 obtain⟨i,h1,h2⟩: ∃i,(∀j,j<i->σ.live j=true)/\σ.live i=false:=by
  have key: ∀m i,(∀j,j<i->σ.live j=true)->m=2^σ.n+1-i-> ∃i,(∀j,j<i->σ.live j=true)/\σ.live i=false:=by
   intro m
   induction m with
   |zero=>intro i h hm;have:=live_le h;omega
   |succ m ih=>
    intro i h hm
    cases hl:σ.live i with
    |false=>exact⟨i,h,hl⟩
    |true=>exact ih (i+1) (fun j hj=>by
      by_cases e:j=i
      ·subst e;exact hl
      ·exact h j (by omega)) (by omega)
  exact key _ 0 (fun j hj=>by omega) rfl
 rw [nLay_of h1 h2];exact⟨h1,h2⟩
theorem nLay_le (σ:aL):σ.nLay<=2^σ.n:=live_le nLay_live.1
theorem front_lt {σ:aL} {i s:Nat} (hs:s<2^σ.n) (h:σ.front i s=true):i<σ.nLay:=by
 rcases Nat.lt_or_ge i σ.nLay with h1|h1
 ·exact h1
 ·have:=dead_after (nLay_live (σ:=σ)).2 (i-σ.nLay)
  rw [show σ.nLay+(i-σ.nLay)=i by omega]at this
  unfold live at this
  rw [sD]at this
  rw [this s hs]at h;cases h
theorem seen_iff {σ:aL} {i t:Nat}:σ.seen i t=true↔ ∃j,j<i/\σ.front j t=true:=by
 induction i with
 |zero=>rw [seen_zero];simp
 |succ i ih=>
  rw [seen_succ,Bool.or_eq_true,ih]
  constructor
  ·rintro (⟨j,hj,h⟩|h)
   ·exact⟨j,by omega,h⟩
   ·exact⟨i,by omega,h⟩
  ·rintro ⟨j,hj,h⟩
   by_cases e:j=i
   ·subst e;exact .inr h
   ·exact .inl ⟨j,by omega,h⟩
def endsAt (σ:aL):Nat->Bool:=σ.some_ fun _ c=>σ.ends c
theorem endsAt_iff {σ:aL} {s:Nat}:σ.endsAt s=true↔ ∃x,x<2^σ.k/\σ.hold (σ.at_ s x)=true/\σ.bad (σ.at_ s x)=true:=by
 unfold endsAt;rw [some_iff];simp only [ends,Bool.and_eq_true]
def hits (σ:aL) (i:Nat):Bool:=rz (2^σ.n) fun s=>σ.front i s&&σ.endsAt s
def depth (σ:aL):Option Nat:=(List.range σ.nLay).find? fun i=>σ.hits i
def depthI (σ:aL):Int:=match σ.depth with|some d=>d|none=> -1
theorem find_none {n:Nat} {p:Nat->Bool}:(List.range n).find? p=none↔ ∀i,i<n->p i=false:=by
 rw [List.find?_eq_none]
 constructor
 ·intro h i hi;have:=h i (List.mem_range.2 hi);simpa using this
 ·intro h i hi;rw [h i (List.mem_range.1 hi)];decide
theorem find_some {n d:Nat} {p:Nat->Bool}:(List.range n).find? p=some d↔d<n/\p d=true/\ ∀i,i<d->p i=false:=by
 induction n with
 |zero=>simp
 |succ n ih=>
  rw [List.range_succ,List.find?_append]
  cases hn:(List.range n).find? p with
  |some e=>
   have h1:=hn
   rw [Option.some_or]
   have ih': ∀d,some e=some d↔_:=fun d=>hn▸(show (List.range n).find? p=some d↔d<n/\p d=true/\ ∀i,i<d->p i=false from by
    constructor
    ·intro hd
     have:=List.find?_some hd
     have hm:=List.mem_range.1 (List.mem_of_find?_eq_some hd)
     refine⟨hm,this,fun i hi=>?_⟩
     rw [List.find?_range_eq_some]at hd
     simpa using hd.2.2 i hi
    ·rintro ⟨a,b,c⟩
     rw [List.find?_range_eq_some]
     exact⟨b,List.mem_range.2 a,fun j hj=>by simp [c j hj]⟩)
   rw [ih']
   constructor
   ·rintro ⟨a,b,c⟩;exact⟨by omega,b,c⟩
   ·rintro ⟨a,b,c⟩
    refine⟨?_,b,c⟩
    rcases Nat.lt_or_ge d n with h|h
    ·exact h
    ·have hd:d=n:=by omega
     have he:=(ih' e).1 rfl
     have:=c e (by omega)
     rw [he.2.1]at this;cases this
  |none=>
   rw [Option.none_or]
   have h0:=find_none.1 hn
   simp only [List.find?_cons,List.find?_nil]
   cases hp:p n with
   |true=>
    simp only [Option.some.injEq]
    constructor
    ·rintro rfl;exact⟨by omega,hp,h0⟩
    ·rintro ⟨a,b,c⟩
     rcases Nat.lt_or_ge d n with h|h
     ·rw [h0 d h]at b;cases b
     ·omega
   |false=>
    simp only [reduceCtorEq,false_iff]
    rintro ⟨a,b,c⟩
    rcases Nat.lt_or_ge d n with h|h
    ·rw [h0 d h]at b;cases b
    ·have:d=n:=by omega
     subst this;rw [hp]at b;cases b
theorem depth_some {σ:aL} {d:Nat}:σ.depth=some d↔σ.hits d=true/\ ∀i,i<d->σ.hits i=false:=by
 unfold depth;rw [find_some]
 constructor
 ·rintro ⟨_,h⟩;exact h
 ·rintro ⟨h1,h2⟩
  obtain⟨s,hs,h⟩:=db.1 h1
  exact⟨front_lt hs (by simp only [Bool.and_eq_true]at h;exact h.1),h1,h2⟩
theorem depth_none {σ:aL}:σ.depth=none↔ ∀i,σ.hits i=false:=by
 unfold depth;rw [find_none]
 constructor
 ·intro h i
  cases hh:σ.hits i with
  |false=>rfl
  |true=>
   obtain⟨s,hs,h'⟩:=db.1 hh
   have:=h i (front_lt hs (by simp only [Bool.and_eq_true]at h';exact h'.1))
   rw [hh]at this;cases this
 ·exact fun h i _=>h i
def back (σ:aL):Nat->Nat->Bool
 |0=>σ.endsAt
 |i+1=>σ.some_ fun s c=>σ.back i s||(σ.hold c&&σ.leads (σ.back i) c)
def run (σ:aL):Nat->Nat->Bool
 |0=>σ.begins
 |i+1=>σ.fwd σ.hold (σ.run i)
theorem fwd_mono {σ:aL} {p q S T:Nat->Bool} (hp: ∀c,c<2^(σ.n+σ.k)->p c=true->q c=true) (hS: ∀s,s<2^σ.n->S s=true->T s=true) {t:Nat} (h:σ.fwd p S t=true):σ.fwd q T t=true:=by
 obtain⟨s,i,hs,hi,a,b,c⟩:=fwd_iff.1 h
 exact fwd_iff.2 ⟨s,i,hs,hi,hS s hs a,hp _ (at_lt hs hi) b,c⟩
theorem front_run (σ:aL): ∀i t,σ.front i t=true->σ.run i t=true:=by
 intro i
 induction i with
 |zero=>exact fun t h=>h
 |succ i ih=>
  intro t h
  rw [front_succ]at h
  simp only [Bool.and_eq_true]at h
  exact fwd_mono (fun _ _ h=>h) (fun s _ h=>ih s h) h.1
def clean (σ:aL) (c:Nat):Bool:=σ.hold c&& !σ.bad c
def back2 (σ:aL):Nat->Nat->Bool
 |0=>σ.endsAt
 |i+1=>σ.bwd σ.clean (σ.back2 i)
def kind (σ:aL) (k:Nat):Int:=if(match σ.depth with|some d=>decide (d<k)|none=>false)then 1 else if rz (2^σ.n) (σ.back2 k)then 2 else 0
def met (σ:aL) (S:Nat->Bool):Bool:=rz (2^σ.n) fun s=>S s&&σ.endsAt s
theorem seen_fwd {σ:aL} (i t:Nat) (h:σ.fwd σ.hold (σ.seen i) t=true):σ.seen (i+1) t=true:=by
 obtain⟨s,x,hs,hx,h1,h2,h3⟩:=fwd_iff.1 h
 obtain⟨j,hj,h4⟩:=seen_iff.1 h1
 have h5:σ.fwd σ.hold (σ.front j) t=true:=fwd_iff.2 ⟨s,x,hs,hx,h4,h2,h3⟩
 by_cases e:σ.seen (j+1) t=true
 ·obtain⟨q,hq,h6⟩:=seen_iff.1 e
  exact seen_iff.2 ⟨q,by omega,h6⟩
 ·have e':σ.seen (j+1) t=false:=by simpa using e
  exact seen_iff.2 ⟨j+1,by omega,by rw [front_succ,h5,e'];rfl⟩
end aL
theorem aa6 {x:Int} {n:Nat} (hn:n<=64):oM x (n:Int)=x/((2^n:Nat):Int):=by
 unfold oM
 have h1:min (Int.toNat (n:Int)) IntKind.i64.bits=n:=by simp [IntKind.bits];omega
 rw [h1,Int.fdiv_eq_ediv_of_nonneg _ (Int.pow_nonneg (by decide))]
 simp
theorem ib {x:Int} {w:Nat} (hw:w<=62):uz x (((2^w:Nat):Int)-1)=((fA w x:Nat):Int):=by
 have h2:=qa hw
 have hp:=bP w
 have hm:(((2^w:Nat):Int)-1)=((2^w-1:Nat):Int):=by omega
 rw [hm]
 show IntKind.i64.wrap _=_
 have h1:(BitVec.ofInt IntKind.i64.bits x&&&BitVec.ofInt IntKind.i64.bits ((2^w-1:Nat):Int)).toNat=fA w x:=by
  show (BitVec.ofInt 64 x&&&BitVec.ofInt 64 ((2^w-1:Nat):Int)).toNat=fA w x
  rw [BitVec.ofInt_natCast,BitVec.toNat_and,BitVec.toNat_ofNat,BitVec.toNat_ofInt,Nat.mod_eq_of_lt (by omega),Nat.and_two_pow_sub_one_eq_mod]
  have hd:((2^w:Nat):Int)∣((2^64:Nat):Int):=Int.natCast_dvd_natCast.2 (Nat.pow_dvd_pow 2 (by omega))
  have h3:=Int.emod_emod_of_dvd x hd
  have h4:=Int.emod_nonneg x (b:=((2^64:Nat):Int)) (by decide)
  unfold fA
  rw [<-h3]
  generalize x%((2^64:Nat):Int)=y at*
  obtain⟨z,rfl⟩: ∃z:Nat,y=z:=⟨y.toNat,by omega⟩
  rw [<-Int.natCast_emod,Int.toNat_natCast,Int.toNat_natCast]
 rw [h1]
 exact fV (by have:=kG w x;omega)
theorem ab9 {w:Nat} (hw:w<=62):aA (-1) (w:Int)= -((2^w:Nat):Int):=by
 have h2:=qa hw
 unfold aA
 have h1:min (Int.toNat (w:Int)) IntKind.i64.bits=w:=by simp [IntKind.bits];omega
 rw [h1]
 have h3:(-1:Int)*2^w= -((2^w:Nat):Int):=by simp
 have key: ∀N:Nat,N<=4611686018427387904->W (-(N:Int))= -(N:Int):=fun N h=>cd (by omega) (by omega)
 rw [h3];exact key _ h2
theorem BJ {w:Nat} (hw:w<=16):2^w<=65536:=by
 have:=Nat.pow_le_pow_right (n:=2) (by omega) hw
 simpa using this
theorem ig {w v:Int}:j7 w v=true↔(1<=w/\w<=16)/\0<=v/\v<((2^w.toNat:Nat):Int):=by
 unfold j7
 rw [decide_eq_true_eq]
 constructor
 ·rintro ⟨h1,h2,h3⟩;exact⟨h1,h2,by omega⟩
 ·rintro ⟨h1,h2,h3⟩;exact⟨h1,h2,by omega⟩
theorem dF {h:Hp} {w:Nat} {R:Value->Hp->Prop} (hw:w<=62) (k:R (I (((2^w:Nat):Int)-1)) h):cV #[I w] h R:=by
 apply Tp
 refine uf_ ?_
 have:=qa hw
 have hp:=bP w
 rw [if_neg (by omega),cw hw,cd (by omega) (by omega)]
 exact k
theorem E9 {h:Hp} {w:Int} {R:Value->Hp->Prop} (k:R (.bool (decide (1<=w/\w<=16))) h):qv #[I w] h R:=by
 apply JT
 refine uf_ ?_
 exact gU ⟨_,rfl,k⟩
theorem yX {h:Hp} {w:Int} {R:Value->Hp->Prop} (k:R (.bool (decide (1<=w/\w<=16))) h):mK #[I w] h R:=by
 apply L4
 refine uf_ ?_
 exact et ⟨_,rfl,k⟩
theorem Lv (w v:Int):j7 w v=(decide (1<=w/\w<=16)&&decide (0<=v/\v<=((2^w.toNat:Nat):Int)-1)):=by
 unfold j7;rw [Bool.eq_iff_iff];simp
theorem Gc {h:Hp} {w v:Int} {R:Value->Hp->Prop} (k:R (.bool (j7 w v)) h):xD #[I w,I v] h R:=by
 apply NR
 refine uf_ ?_
 rw [Lv]at k
 refine E9 ⟨_,rfl,ad (fun e=>?_) (fun e=>?_)⟩
 ·rw [e,Bool.true_and]at k
  have e':1<=w/\w<=16:=by simpa using e
  obtain⟨n,rfl⟩: ∃n:Nat,w=n:=⟨w.toNat,by omega⟩
  rw [Int.toNat_natCast]at k
  exact dF (by omega) ⟨_,rfl,gU ⟨_,rfl,k⟩⟩
 ·rw [e,Bool.false_and]at k;exact k
theorem cO {h:Hp} {w v:Int} {R:Value->Hp->Prop} (k:R (.bool (j7 w v)) h):dQ #[I w,I v] h R:=by
 apply MT
 refine uf_ ?_
 rw [Lv]at k
 refine yX ⟨_,rfl,ad (fun e=>?_) (fun e=>?_)⟩
 ·rw [e,Bool.true_and]at k
  have e':1<=w/\w<=16:=by simpa using e
  obtain⟨n,rfl⟩: ∃n:Nat,w=n:=⟨w.toNat,by omega⟩
  rw [Int.toNat_natCast]at k
  have:=qa (n:=n) (by omega)
  have hp:=bP n
  rw [cZ (by omega),if_neg (by omega),cw (by omega),cd (by omega) (by omega)]
  exact et ⟨_,rfl,k⟩
 ·rw [e,Bool.false_and]at k;exact k
def WO (w a:Nat):Prop:=(1<=w/\w<=16)/\a<2^w
theorem WO.ok {w a:Nat} (e:WO w a):j7 (w:Int) (a:Int)=true:=ig.2 ⟨by have:=e.1;omega,by omega,by rw [Int.toNat_natCast];have:=e.2;omega⟩
theorem WO.pow {w a:Nat} (e:WO w a):2^w<=65536:=BJ e.1.2
theorem qh {h:Hp} {w a:Nat} {R:Value->Hp->Prop} (e:WO w a) (k:R (I (sgn w a)) h):js #[I w,I a] h R:=by
 apply N5
 refine uf_ ?_
 obtain⟨⟨h1,h2⟩,ha⟩:=e
 have hp:=tC h1
 have h16:=BJ h2
 have w1:W ((w:Int)-1)=((w-1:Nat):Int):=by rw [cd (by omega) (by omega)];omega
 rw [w1,if_neg (by omega),if_neg (by omega),jF (by omega)]
 unfold sgn at k
 by_cases hs:2^(w-1)<=a
 ·have e1:a/2^(w-1)=1:=by rw [Nat.div_eq_iff (bP _)];omega
  rw [e1,jk (by omega) (by omega),Nat.one_mul,cd (by omega) (by omega)]
  rw [if_pos hs]at k;exact k
 ·have e1:a/2^(w-1)=0:=Nat.div_eq_of_lt (by omega)
  rw [e1,jk (by omega) (by omega),Nat.zero_mul,cd (by omega) (by omega)]
  rw [if_neg hs]at k
  simpa using k
theorem jY {h:Hp} {w a:Nat} {R:Value->Hp->Prop} (e:WO w a) (k:R (I (sgn w a)) h):fC #[I w,I a] h R:=by
 apply E5
 refine uf_ ?_
 obtain⟨⟨h1,h2⟩,ha⟩:=e
 have hp:=tC h1
 have h16:=BJ h2
 have w1:W ((w:Int)-1)=((w-1:Nat):Int):=by rw [cd (by omega) (by omega)];omega
 refine cO ⟨_,rfl,aC (by rw [WO.ok ⟨⟨h1,h2⟩,ha⟩];rfl) ?_⟩
 rw [w1,cZ (by omega),if_neg (by omega),cw (by omega)]
 unfold sgn at k
 refine ad (fun e=>?_) (fun e=>?_)
 ·have hs:2^(w-1)<=a:=by
   have:=of_decide_eq_true e;omega
  rw [if_pos hs]at k
  rw [cZ (by omega),if_neg (by omega),cw (by omega),cd (by omega) (by omega)]
  exact k
 ·have hs: ¬2^(w-1)<=a:=by
   have:=of_decide_eq_false e;omega
  rw [if_neg hs]at k;exact k
theorem Vr (w:Nat) (n:Int):((fA w n:Nat):Int)=if Int.tmod n ((2^w:Nat):Int)<0 then Int.tmod n ((2^w:Nat):Int)+((2^w:Nat):Int)else Int.tmod n ((2^w:Nat):Int):=by
 rw [yY]
 have hp:(0:Int)<((2^w:Nat):Int):=Int.ofNat_lt.2 (bP w)
 have h1:=Int.emod_nonneg n (b:=((2^w:Nat):Int)) (by omega)
 have h2:=Int.emod_lt_of_pos n hp
 have h3:=Int.tmod_eq_emod (a:=n) (b:=((2^w:Nat):Int))
 have h4:n%((2^w:Nat):Int)=0->((2^w:Nat):Int)∣n:=Int.dvd_of_emod_eq_zero
 rw [h3]
 generalize ((2^w:Nat):Int)=N at*
 by_cases hn:0<=n\/N∣n
 ·rw [if_pos hn];split<;>omega
 ·have h5:n%N≠0:=fun e=>hn (.inr (h4 e))
  rw [if_neg hn]
  generalize n%N=r at*
  split<;>omega
theorem ju {h:Hp} {w:Nat} {n:Int} {R:Value->Hp->Prop} (hw:1<=w/\w<=16) (k:R (I (fA w n)) h):eW #[I w,I n] h R:=by
 apply Iu
 refine uf_ ?_
 have h16:=BJ hw.2
 have hp:=bP w
 have hlt:=kG w n
 have ht:=Vr w n
 refine yX ⟨_,rfl,aC (by simp;omega) ?_⟩
 rw [cZ (by omega),if_neg (by omega),cw (by omega),if_neg (by omega)]
 refine ad (fun e=>?_) (fun e=>?_)
 ·have e':=of_decide_eq_true e
  rw [if_pos e']at ht
  rw [if_neg (by omega),cd (by omega) (by omega),<-ht];exact k
 ·have e':=of_decide_eq_false e
  rw [if_neg e']at ht
  rw [<-ht];exact k
theorem HQ {h:Hp} {w a:Nat} {R:Value->Hp->Prop} (hw:w<=16) (k:R (I (k7 w a)) h):sC #[I w,I a] h R:=by
 apply NG
 refine uf_ ?_
 refine au w (fun i vs h'=>vs= [I w,I a,I (k7 i a),I i]/\h'=h) ⟨rfl,rfl⟩ ?_
 rintro i _ _ next hi ⟨rfl,rfl⟩ hn
 refine⟨_,_,_,_,rfl,?_⟩
 by_cases hlt:i<w
 ·refine aM (by simp [hlt]) (jM (by omega) ⟨_,rfl,?_⟩)
  have hl:=R4 i a
  have e:W ((k7 i a:Int)+(if a.testBit i then 1 else 0))=((k7 (i+1) a:Nat):Int):=by
   rw [cd (by split<;>omega) (by split<;>omega)]
   simp only [k7]
   split<;>simp
  rw [e,ay (by omega)]
  exact hn hlt _ _ ⟨rfl,rfl⟩
 ·have:i=w:=by omega
  subst this
  exact aC (by simp) k
theorem R6 {a b:Nat} (ha:a<18446744073709551616) (hb:b<18446744073709551616):bJ .and .u64 (a:Int) (b:Int)=((a&&&b:Nat):Int):=by
 show IntKind.u64.wrap _=_
 have h1:(BitVec.ofInt IntKind.u64.bits (a:Int)&&&BitVec.ofInt IntKind.u64.bits (b:Int)).toNat=a&&&b:=by
  show (BitVec.ofInt 64 (a:Int)&&&BitVec.ofInt 64 (b:Int)).toNat=a&&&b
  rw [BitVec.ofInt_natCast,BitVec.ofInt_natCast,BitVec.toNat_and,BitVec.toNat_ofNat,BitVec.toNat_ofNat,Nat.mod_eq_of_lt (by omega),Nat.mod_eq_of_lt (by omega)]
 rw [h1,IntKind.wrap_u64]
 have:=Nat.and_le_left (n:=a) (m:=b)
 omega
def abY (x:Nat):Nat:=(x/2&&&6148914691236517205)+(x&&&6148914691236517205)
def ack (x:Nat):Nat:=(x/4&&&3689348814741910323)+(x&&&3689348814741910323)
def ab5 (x:Nat):Nat:=(x/16+x)&&&1085102592571150095
def abc (x:Nat):Nat:=x/256+x
def abi (x:Nat):Nat:=x/65536+x
def acJ (x:Nat):Nat:=x/4294967296+x
def NP (x:Nat):Nat:=acJ (abi (abc (ab5 (ack (abY x)))))&&&127
def Uc (x:Nat):Bool:=Nat.beq (NP (2*x)) (NP x)&&Nat.beq (NP (2*x+1)) (NP x+1)
def Tl (hi:Nat):Nat->Bool
 |0=>true
 |n+1=>Uc (hi*256+n)&&Tl hi n
def Wr :Nat->Bool
 |0=>true
 |n+1=>Tl n 256&&Wr n
theorem afn :Wr 128=true:=by kernel_rfl
theorem acg {hi:Nat}: ∀n,Tl hi n=true-> ∀i,i<n->Uc (hi*256+i)=true:=by
 intro n
 induction n with
 |zero=>intro _ i h;omega
 |succ n ih=>
  intro h i hi
  simp only [Tl,Bool.and_eq_true]at h
  by_cases e:i=n
  ·subst e;exact h.1
  ·exact ih h.2 i (by omega)
theorem ab8 : ∀n,Wr n=true-> ∀i,i<n->Tl i 256=true:=by
 intro n
 induction n with
 |zero=>intro _ i h;omega
 |succ n ih=>
  intro h i hi
  simp only [Wr,Bool.and_eq_true]at h
  by_cases e:i=n
  ·subst e;exact h.1
  ·exact ih h.2 i (by omega)
theorem acQ {x:Nat} (h:x<32768):NP (2*x)=NP x/\NP (2*x+1)=NP x+1:=by
 have h1:=ab8 128 afn (x/256) (by omega)
 have h2:=acg 256 h1 (x%256) (Nat.mod_lt _ (by omega))
 rw [show x/256*256+x%256=x by omega]at h2
 simp only [Uc,Bool.and_eq_true]at h2
 exact⟨Nat.eq_of_beq_eq_true h2.1,Nat.eq_of_beq_eq_true h2.2⟩
theorem T6 (a:Nat): ∀w,k7 (w+1) a=a%2+k7 w (a/2):=by
 intro w
 induction w with
 |zero=>
  simp only [k7,Nat.testBit_zero]
  rcases Nat.mod_two_eq_zero_or_one a with h|h<;>simp [h]
 |succ w ih=>
  rw [k7,ih,k7,Nat.testBit_succ];omega
theorem afl : ∀w,w<=16-> ∀x,x<2^w->NP x=k7 w x:=by
 intro w
 induction w with
 |zero=>intro _ x hx;have:x=0:=by simpa using hx
        subst this;rfl
 |succ w ih=>
  intro hw x hx
  have h16:2^w<=32768:=by
   have:=Nat.pow_le_pow_right (n:=2) (by omega) (show w<=15 by omega)
   simpa using this
  have hp:2^(w+1)=2*2^w:=by rw [Nat.pow_succ];omega
  have h1:=ih (by omega) (x/2) (by omega)
  have h2:=acQ (x:=x/2) (by omega)
  rw [T6,<-h1]
  rcases Nat.mod_two_eq_zero_or_one x with h|h
  ·have e:2*(x/2)=x:=by omega
   rw [e]at h2;rw [h2.1,h];omega
  ·have e:2*(x/2)+1=x:=by omega
   rw [e]at h2;rw [h2.2,h];omega
theorem Pz {a k:Nat} (hk:k<=64):Int.fdiv (a:Int) (2^(min (Int.toNat (k:Int)) (IntKind.bits .u64)))=((a/2^k:Nat):Int):=by
 have h1:min (Int.toNat (k:Int)) (IntKind.bits .u64)=k:=by simp [IntKind.bits];omega
 rw [h1,Int.fdiv_eq_ediv_of_nonneg _ (Int.pow_nonneg (by decide))]
 simp
def q1 (x:Int):Int:=IntKind.wrap .u64 ((bJ .and .u64 (Int.fdiv x (2^(min (Int.toNat 1) (IntKind.bits .u64)))) 6148914691236517205)+(bJ .and .u64 x 6148914691236517205))
def q2 (x:Int):Int:=IntKind.wrap .u64 ((bJ .and .u64 (Int.fdiv x (2^(min (Int.toNat 2) (IntKind.bits .u64)))) 3689348814741910323)+(bJ .and .u64 x 3689348814741910323))
def q3 (x:Int):Int:=bJ .and .u64 (IntKind.wrap .u64 ((Int.fdiv x (2^(min (Int.toNat 4) (IntKind.bits .u64))))+x)) 1085102592571150095
def q4 (x:Int):Int:=IntKind.wrap .u64 (x+Int.fdiv x (2^(min (Int.toNat 8) (IntKind.bits .u64))))
def q5 (x:Int):Int:=IntKind.wrap .u64 (x+Int.fdiv x (2^(min (Int.toNat 16) (IntKind.bits .u64))))
def q6 (x:Int):Int:=IntKind.wrap .u64 (x+Int.fdiv x (2^(min (Int.toNat 32) (IntKind.bits .u64))))
theorem Ku {h:Hp} {a:Nat} {R:Value->Hp->Prop} (ha:a<65536) (k:R (I (k7 16 a)) h):mu #[.int .u64 a] h R:=by
 apply Au
 refine uf_ ?_
 apply yj
 refine uf_ ?_
 refine⟨_,rfl,?_⟩
 have e1:q1 a=((abY a:Nat):Int):=by
  have l1:=Nat.and_le_left (n:=a/2) (m:=6148914691236517205)
  have l2:=Nat.and_le_left (n:=a) (m:=6148914691236517205)
  have:=Pz (a:=a) (k:=1) (by omega)
  unfold q1 abY
  rw [show (Int.toNat 1)=Int.toNat ((1:Nat):Int)from rfl,this,Nat.pow_one]
  rw [show (6148914691236517205:Int)=((6148914691236517205:Nat):Int)from rfl,R6 (by omega) (by omega),R6 (by omega) (by omega),<-Int.natCast_add,cZ (by omega)]
 have b1:abY a<=98304:=by
  have l1:=Nat.and_le_left (n:=a/2) (m:=6148914691236517205)
  have l2:=Nat.and_le_left (n:=a) (m:=6148914691236517205)
  unfold abY;omega
 have e2: ∀x:Nat,x<=98304->q2 x=((ack x:Nat):Int)/\ack x<=196608:=by
  intro x hx
  have l1:=Nat.and_le_left (n:=x/4) (m:=3689348814741910323)
  have l2:=Nat.and_le_left (n:=x) (m:=3689348814741910323)
  have:=Pz (a:=x) (k:=2) (by omega)
  refine⟨?_,by unfold ack;omega⟩
  unfold q2 ack
  rw [show (Int.toNat 2)=Int.toNat ((2:Nat):Int)from rfl,this,show 2^2=4 from rfl]
  rw [show (3689348814741910323:Int)=((3689348814741910323:Nat):Int)from rfl,R6 (by omega) (by omega),R6 (by omega) (by omega),<-Int.natCast_add,cZ (by omega)]
 have e3: ∀x:Nat,x<=196608->q3 x=((ab5 x:Nat):Int)/\ab5 x<=393216:=by
  intro x hx
  have l1:=Nat.and_le_left (n:=x/16+x) (m:=1085102592571150095)
  have:=Pz (a:=x) (k:=4) (by omega)
  refine⟨?_,by unfold ab5;omega⟩
  unfold q3 ab5
  rw [show (Int.toNat 4)=Int.toNat ((4:Nat):Int)from rfl,this,show 2^4=16 from rfl,<-Int.natCast_add,cZ (by omega)]
  rw [show (1085102592571150095:Int)=((1085102592571150095:Nat):Int)from rfl,R6 (by omega) (by omega)]
 have e4: ∀x:Nat,x<=393216->q4 x=((abc x:Nat):Int)/\abc x<=786432:=by
  intro x hx
  have:=Pz (a:=x) (k:=8) (by omega)
  refine⟨?_,by unfold abc;omega⟩
  unfold q4 abc
  rw [show (Int.toNat 8)=Int.toNat ((8:Nat):Int)from rfl,this,show 2^8=256 from rfl,<-Int.natCast_add,cZ (by omega),Nat.add_comm]
 have e5: ∀x:Nat,x<=786432->q5 x=((abi x:Nat):Int)/\abi x<=1572864:=by
  intro x hx
  have:=Pz (a:=x) (k:=16) (by omega)
  refine⟨?_,by unfold abi;omega⟩
  unfold q5 abi
  rw [show (Int.toNat 16)=Int.toNat ((16:Nat):Int)from rfl,this,show 2^16=65536 from rfl,<-Int.natCast_add,cZ (by omega),Nat.add_comm]
 have e6: ∀x:Nat,x<=1572864->q6 x=((acJ x:Nat):Int)/\acJ x<=3145728:=by
  intro x hx
  have:=Pz (a:=x) (k:=32) (by omega)
  refine⟨?_,by unfold acJ;omega⟩
  unfold q6 acJ
  rw [show (Int.toNat 32)=Int.toNat ((32:Nat):Int)from rfl,this,show 2^32=4294967296 from rfl,<-Int.natCast_add,cZ (by omega),Nat.add_comm]
 have b2:=(e2 _ b1).2
 have b3:=(e3 _ b2).2
 have b4:=(e4 _ b3).2
 have b5:=(e5 _ b4).2
 have b6:=(e6 _ b5).2
 show R (I (uz (W (q6 (q5 (q4 (q3 (q2 (q1 a))))))) 127)) h
 rw [e1,(e2 _ b1).1,(e3 _ b2).1,(e4 _ b3).1,(e5 _ b4).1,(e6 _ b5).1,fV (by omega),show (127:Int)=((127:Nat):Int)from rfl,Bc (by omega) (by omega)]
 have:=afl 16 (by omega) a (by simpa using ha)
 unfold NP at this
 rw [this];exact k
theorem Ue {w a:Nat} (ha:a<2^w): ∀d,k7 (w+d) a=k7 w a:=by
 intro d
 induction d with
 |zero=>rfl
 |succ d ih=>
  have hz:a.testBit (w+d)=false:=Nat.testBit_lt_two_pow (Nat.lt_of_lt_of_le ha (Nat.pow_le_pow_right (by omega) (by omega)))
  rw [<-Nat.add_assoc,k7,ih,hz]
  simp
theorem Tx {h:Hp} {kind:Int} {w a:Nat} {R:Value->Hp->Prop} (hk:1<=kind/\kind<=5) (e:WO w a)
  (k:R (.tuple #[I (zJ kind w a).1,I (zJ kind w a).2]) h):DV #[I kind,I w,I a] h R:=by
 apply Uk
 refine uf_ ?_
 have h16:=e.pow
 have hp:=bP w
 have ha:=e.2
 have hw:=e.1
 unfold zJ at k
 refine ad (fun e1=>?_) (fun e1=>ad (fun e2=>?_) (fun e2=>ad (fun e3=>?_) (fun e3=>ad (fun e4=>?_) (fun e4=>?_))))
 ·rw [if_pos (by simpa using e1)]at k
  refine dF (by omega) ⟨_,rfl,?_⟩
  have:W ((((2^w:Nat):Int)-1)-a)=((2^w-1-a:Nat):Int):=by rw [cd (by omega) (by omega)];omega
  rw [this];exact k
 ·rw [if_neg (by simpa using e1),if_pos (by simpa using e2)]at k
  refine dF (by omega) ⟨_,rfl,?_⟩
  rw [cd (n:=0-(a:Int)) (by omega) (by omega),ib (by omega),Int.zero_sub]
  exact k
 ·rw [if_neg (by simpa using e1),if_neg (by simpa using e2),if_pos (by simpa using e3)]at k
  refine Bu ⟨_,rfl,?_⟩
  by_cases h0:a=0
  ·subst h0;simpa using k
  ·have:((a:Int) !=0)=true:=by simpa using h0
   rw [this];rw [if_neg h0]at k;simpa using k
 ·rw [if_neg (by simpa using e1),if_neg (by simpa using e2),if_neg (by simpa using e3),if_pos (by simpa using e4)]at k
  refine dF (by omega) ⟨_,rfl,Bu ⟨_,rfl,?_⟩⟩
  by_cases h0:a=2^w-1
  ·have:((a:Int)==((2^w:Nat):Int)-1)=true:=by rw [beq_iff_eq];omega
   rw [this];rw [if_pos h0]at k;simpa using k
  ·have:((a:Int)==((2^w:Nat):Int)-1)=false:=by rw [beq_eq_false_iff_ne];omega
   rw [this];rw [if_neg h0]at k;simpa using k
 ·rw [if_neg (by simpa using e1),if_neg (by simpa using e2),if_neg (by simpa using e3),if_neg (by simpa using e4)]at k
  rw [cZ (by omega)]
  refine Ku (by omega) ⟨_,rfl,?_⟩
  have:=Ue ha (16-w)
  rw [show w+(16-w)=16 by omega]at this
  rw [this,LK];exact k
theorem Ei {h:Hp} {kind:Int} {w a:Nat} {R:Value->Hp->Prop} (hk:1<=kind/\kind<=5) (e:WO w a)
  (k:R (.tuple #[I (zJ kind w a).1,I (zJ kind w a).2, .bool true]) h):qW #[I kind,I w,I a] h R:=by
 apply MK
 refine uf_ ?_
 have h16:=e.pow
 have hp:=bP w
 have ha:=e.2
 have hw:=e.1
 unfold zJ at k
 refine cO ⟨_,rfl,aC (by rw [e.ok];rfl) ?_⟩
 refine ad (fun e1=>?_) (fun e1=>ad (fun e2=>?_) (fun e2=>ad (fun e3=>?_) (fun e3=>ad (fun e4=>?_) (fun e4=>?_))))
 ·rw [if_pos (by simpa using e1)]at k
  rw [cZ (by omega),if_neg (by omega),cw (by omega),cd (n:=((2^w:Nat):Int)-1) (by omega) (by omega)]
  have:W ((((2^w:Nat):Int)-1)-a)=((2^w-1-a:Nat):Int):=by rw [cd (by omega) (by omega)];omega
  rw [this];exact k
 ·rw [if_neg (by simpa using e1),if_pos (by simpa using e2)]at k
  rw [cd (n:=0-(a:Int)) (by omega) (by omega),Int.zero_sub]
  exact ju hw ⟨_,rfl,k⟩
 ·rw [if_neg (by simpa using e1),if_neg (by simpa using e2),if_pos (by simpa using e3)]at k
  refine vU ⟨_,rfl,?_⟩
  by_cases h0:a=0
  ·subst h0;simpa using k
  ·have:decide ((a:Int)>0)=true:=by simp;omega
   rw [this];rw [if_neg h0]at k;simpa using k
 ·rw [if_neg (by simpa using e1),if_neg (by simpa using e2),if_neg (by simpa using e3),if_pos (by simpa using e4)]at k
  refine HQ (by omega) ⟨_,rfl,vU ⟨_,rfl,?_⟩⟩
  have hf:=UJ ha
  by_cases h0:a=2^w-1
  ·have:(((k7 w a:Nat):Int)==(w:Int))=true:=by rw [beq_iff_eq,hf.2 h0]
   rw [this];rw [if_pos h0]at k;simpa using k
  ·have:(((k7 w a:Nat):Int)==(w:Int))=false:=by rw [beq_eq_false_iff_ne];intro he;exact h0 (hf.1 (by omega))
   rw [this];rw [if_neg h0]at k;simpa using k
 ·rw [if_neg (by simpa using e1),if_neg (by simpa using e2),if_neg (by simpa using e3),if_neg (by simpa using e4)]at k
  have:kind=5:=by
   have h1:kind≠1:=by simpa using e1
   have h2:kind≠2:=by simpa using e2
   have h3:kind≠3:=by simpa using e3
   have h4:kind≠4:=by simpa using e4
   omega
  refine aM (by simpa using this) (HQ (by omega) ⟨_,rfl,?_⟩)
  rw [LK];exact k
theorem eP (a b:Nat):Int.tmod (a:Int) (b:Int)=((a%b:Nat):Int):=(Int.ofNat_tmod a b).symm
theorem vR (a b:Nat):Int.tdiv (a:Int) (b:Int)=((a/b:Nat):Int):=(Int.ofNat_tdiv a b).symm
theorem EU {a b:Nat} (ha:a<65536) (hb:b<=65536):a*b<=4294967296:=by
 have:=Nat.mul_le_mul (Nat.le_of_lt ha) hb
 omega
theorem HC {w a:Nat} (e:WO w a): -65536<=sgn w a/\sgn w a<=65536:=by
 have h:=OY e.1.1 e.2
 have hp:=tC e.1.1
 have h16:=e.pow
 omega
theorem bA {a b:Int} (e:(a==b)=false): ¬a=b:=by simpa using e
theorem bZ {a b:Int} (e:(a==b)=true):a=b:=by simpa using e
theorem Hh {h:Hp} {w a p:Nat} {R:Value->Hp->Prop} (e:WO w a) (k:R (I (DN w a (p%w))) h):sF #[I w,I a,I p] h R:=by
 apply NJ
 refine uf_ ?_
 obtain⟨⟨h1,h2⟩,ha⟩:=e
 have h16:=BJ h2
 have hm:p%w<w:=Nat.mod_lt _ (by omega)
 have hpm:=BJ (w:=p%w) (by omega)
 have ht:Int.tmod (p:Int) (w:Int)=((p%w:Nat):Int):=eP p w
 have hw:W ((w:Int)-((p%w:Nat):Int))=((w-p%w:Nat):Int):=by rw [cd (by omega) (by omega)];omega
 have hmul:=EU (a:=a) (b:=2^(p%w)) (by omega) hpm
 rw [if_neg (by omega),ht,if_neg (by omega),hw,if_neg (by omega)]
 refine dF (by omega) ⟨_,rfl,?_⟩
 have hd:a/2^(w-p%w)<=a:=Nat.div_le_self _ _
 rw [jk (by omega) (by omega),jF (by omega),Ef (by omega) (by omega),ib (by omega),nu]
 exact k
theorem Qt {h:Hp} {kind:Int} {w a b:Nat} {R:Value->Hp->Prop} (hk:kind=14\/kind=15) (ea:WO w a) (eb:WO w b)
  (k:R (I ((if kind=14 then O3 w a b else Pa w a b:Nat):Int)) h):vn #[I kind,I w,I a,I b] h R:=by
 apply Mf
 refine uf_ ?_
 have h16:=ea.pow
 have hp:=bP w
 have sa:=HC ea
 have sb:=HC eb
 have hw:=ea.1
 refine qh ea ⟨_,rfl,qh eb ⟨_,rfl,?_⟩⟩
 unfold O3 Pa at k
 by_cases hy:sgn w b=0
 ·rw [if_pos hy,if_pos hy]at k
  rw [hy]
  refine ap (fun J=>J (decide (kind=15))) ?_ (fun J hJ=>aM rfl (by rw [show (kind==15)=decide (kind=15)from rfl];exact hJ))
  refine ad (fun e=>?_) (fun e=>?_)
  ·have e':kind=15:=by simpa using e
   rw [if_neg (by omega)]at k;exact k
  ·have e':kind=14:=by have: ¬kind=15:=by simpa using e
                       omega
   rw [if_pos e']at k
   refine ap (fun J=>J (decide (sgn w a<0))) ?_ (fun J hJ=>aM rfl hJ)
   refine ad (fun e=>?_) (fun e=>aM rfl (dF (by omega) ⟨_,rfl,?_⟩))
   ·rw [if_pos (by simpa using e)]at k;exact k
   ·rw [if_neg (by simpa using e)]at k
    have:((2^w-1:Nat):Int)=((2^w:Nat):Int)-1:=by omega
    rw [<-this];exact k
 ·rw [if_neg hy,if_neg hy]at k
  have hyb:(sgn w b==0)=false:=by simpa using hy
  refine ap (fun J=>J false) ?_ (fun J hJ=>aC hyb hJ)
  refine aC rfl (ap (fun J=>J false) ?_ (fun J hJ=>aC hyb hJ))
  refine aC rfl (aC hyb ?_)
  have hdiv:(Int.tdiv (sgn w a) (sgn w b)).natAbs<=65536:=by
   rw [Int.natAbs_tdiv]
   exact Nat.le_trans (Nat.div_le_self _ _) (by omega)
  refine ad (fun e=>?_) (fun e=>?_)
  ·rw [if_pos (by simpa using e)]at k
   rw [if_neg hy]
   refine dF (by omega) ⟨_,rfl,?_⟩
   rw [cd (by omega) (by omega),ib (by omega)];exact k
  ·rw [if_neg (by simpa using e)]at k
   rw [if_neg hy]
   refine dF (by omega) ⟨_,rfl,?_⟩
   rw [ib (by omega)];exact k
def GK (kind:Int) (w a b:Nat):Nat:=if kind=16 then aeY w a b else if kind=17 then afx w a b else aey w a b
theorem PP {h:Hp} {kind:Int} {w a b:Nat} {R:Value->Hp->Prop} (ea:WO w a) (hb:b<=65536)
  (k:R (I (GK kind w a b)) h):wu #[I kind,I w,I a,I b] h R:=by
 apply MC
 refine uf_ ?_
 have h16:=ea.pow
 have ha:=ea.2
 have hw:=ea.1
 have hmin:(if(w:Int)<(b:Int)then(w:Int)else(b:Int))=((min b w:Nat):Int):=by
  by_cases h:w<b
  ·rw [if_pos (by omega),Nat.min_eq_right (by omega)]
  ·rw [if_neg (by omega),Nat.min_eq_left (by omega)]
 have hm:min b w<=w:=Nat.min_le_right _ _
 have hpm:=BJ (w:=min b w) (by omega)
 have hmul:=EU (a:=a) (b:=2^min b w) (by omega) hpm
 unfold GK at k
 rw [hmin]
 refine ad (fun e=>?_) (fun e=>ad (fun e2=>?_) (fun e2=>?_))
 ·rw [if_pos (bZ e)]at k
  rw [if_neg (by omega)]
  refine dF (by omega) ⟨_,rfl,?_⟩
  rw [jk (by omega) (by omega),ib (by omega),nu];exact k
 ·rw [if_neg (bA e),if_pos (bZ e2)]at k
  rw [if_neg (by omega),jF (by omega)];exact k
 ·rw [if_neg (bA e),if_neg (bA e2)]at k
  refine qh ea ⟨_,rfl,?_⟩
  rw [if_neg (by omega)]
  refine dF (by omega) ⟨_,rfl,?_⟩
  rw [aa6 (by omega),ib (by omega)];exact k
theorem M8 {h:Hp} {kind:Int} {w a b:Nat} {R:Value->Hp->Prop} (hk:21<=kind/\kind<=28) (ea:WO w a) (eb:WO w b)
  (k:R (.bool (BB kind w a b)) h):tW #[I kind,I w,I a,I b] h R:=by
 apply H4
 refine uf_ ?_
 have h16:=ea.pow
 have hp:=bP w
 have sa:=HC ea
 have sb:=HC eb
 have ha:=ea.2
 have hb:=eb.2
 have hw:=ea.1
 unfold BB at k
 have dd: ∀{p q:Prop} [Decidable p] [Decidable q],(p↔q)->decide p=decide q:=fun h=>by rw [decide_eq_decide];exact h
 refine qh ea ⟨_,rfl,qh eb ⟨_,rfl,?_⟩⟩
 refine ad (fun e1=>?_) (fun e1=>ad (fun e2=>?_) (fun e2=>ad (fun e3=>?_) (fun e3=>ad (fun e4=>?_) (fun e4=>ad (fun e5=>?_) (fun e5=>ad (fun e6=>?_) (fun e6=>ad (fun e7=>?_) (fun e7=>?_)))))))
 ·rw [if_pos (bZ e1)]at k
  have:((a:Int)==(b:Int))=decide (a=b):=by rw [Bool.eq_iff_iff];simp;omega
  rw [this];exact k
 all_goals rw [if_neg (bA e1)]at k
 ·rw [if_pos (bZ e2)]at k
  rw [dd (p:=(a:Int)<(b:Int)) (q:=a<b) (by omega)];exact k
 all_goals rw [if_neg (bA e2)]at k
 ·rw [if_pos (bZ e3)]at k;exact k
 all_goals rw [if_neg (bA e3)]at k
 ·rw [if_pos (bZ e4)]at k
  rw [dd (p:=(a:Int)<=(b:Int)) (q:=a<=b) (by omega)];exact k
 all_goals rw [if_neg (bA e4)]at k
 ·rw [if_pos (bZ e5)]at k;exact k
 all_goals rw [if_neg (bA e5)]at k
 ·rw [if_pos (bZ e6)]at k
  refine dF (by omega) ⟨_,rfl,?_⟩
  rw [cd (by omega) (by omega),dd (p:=(a:Int)+(b:Int)>((2^w:Nat):Int)-1) (q:=2^w<=a+b) (by omega)];exact k
 all_goals rw [if_neg (bA e6)]at k
 ·rw [if_pos (bZ e7)]at k
  have w1:W ((w:Int)-1)=((w-1:Nat):Int):=by rw [cd (by omega) (by omega)];omega
  have hpp:=tC hw.1
  rw [w1,if_neg (by omega),if_neg (by omega),ab9 (by omega),cw (by omega),cd (n:=sgn w a+sgn w b) (by omega) (by omega),cd (n:=((2^(w-1):Nat):Int)-1) (by omega) (by omega)]
  refine gU ⟨_,rfl,?_⟩
  rw [dd (p:= -((2^(w-1):Nat):Int)<=sgn w a+sgn w b/\sgn w a+sgn w b<=((2^(w-1):Nat):Int)-1) (q:= -((2^(w-1):Nat):Int)<=sgn w a+sgn w b/\sgn w a+sgn w b<((2^(w-1):Nat):Int)) (by omega)]
  exact k
 ·rw [if_neg (bA e7)]at k
  have hmul:=EU (a:=a) (b:=b) (by omega) (by omega)
  have hmi:(a:Int)*(b:Int)=((a*b:Nat):Int):=(Int.natCast_mul _ _).symm
  refine dF (by omega) ⟨_,rfl,?_⟩
  rw [hmi]
  generalize a*b=ab at*
  rw [fV (by omega),dd (p:=(ab:Int)>((2^w:Nat):Int)-1) (q:=2^w<=ab) (by omega)];exact k
theorem Rg {h:Hp} {kind:Int} {w a b:Nat} {R:Value->Hp->Prop} (hk:6<=kind/\kind<=28) (ea:WO w a) (eb:WO w b)
  (k:R (.tuple #[I (qu kind w a b).1,I (qu kind w a b).2]) h):Dp #[I kind,I w,I a,I b] h R:=by
 apply TS
 refine uf_ ?_
 have h16:=ea.pow
 have hp:=bP w
 have ha:=ea.2
 have hb:=eb.2
 have hw:=ea.1
 have hand:a&&&b<=a:=Nat.and_le_left
 have hmul:=EU (a:=a) (b:=b) (by omega) (by omega)
 by_cases h20:kind<=20
 rotate_left
 ·have t:qu kind w a b=(if BB kind w a b then 1 else 0,1):=by unfold qu;rw [if_neg h20]
  rw [t]at k
  have nb: ∀n:Int,n<=20->(kind==n)=false:=fun n hn=>by rw [beq_eq_false_iff_ne];omega
  refine aC (nb _ (by omega)) (aC (nb _ (by omega)) (aC (nb _ (by omega)) (aC (nb _ (by omega)) (aC (nb _ (by omega)) (aC (nb _ (by omega)) (aC (nb _ (by omega)) (aC (nb _ (by omega)) ?_)))))))
  refine ap (fun J=>J false) ?_ (fun J hJ=>aC (nb _ (by omega)) (by rw [nb 15 (by omega)];exact hJ))
  refine aC rfl (ap (fun J=>J false) ?_ (fun J hJ=>aC (nb _ (by omega)) (aC (nb _ (by omega)) (by rw [nb 18 (by omega)];exact hJ))))
  refine aC rfl (aC (nb _ (by omega)) (aC (nb _ (by omega)) ?_))
  refine M8 (by omega) ea eb ⟨_,rfl,Bu ⟨_,rfl,?_⟩⟩
  cases hs:BB kind w a b
  ·rw [hs]at k;simpa using k
  ·rw [hs]at k;simpa using k
 have t:qu kind w a b=(A7 kind w a b,w):=by unfold qu;rw [if_pos h20]
 rw [t]at k
 unfold A7 at k
 simp only at k
 refine ad (fun e=>?_) (fun e6=>?_)
 ·rw [if_pos (bZ e)]at k;rw [Bc (by omega) (by omega)];exact k
 rw [if_neg (bA e6)]at k
 refine ad (fun e=>?_) (fun e7=>?_)
 ·rw [if_pos (bZ e)]at k;rw [Ef (by omega) (by omega)];exact k
 rw [if_neg (bA e7)]at k
 refine ad (fun e=>?_) (fun e8=>?_)
 ·rw [if_pos (bZ e)]at k;rw [Sc (by omega) (by omega)];exact k
 rw [if_neg (bA e8)]at k
 refine ad (fun e=>?_) (fun e9=>?_)
 ·rw [if_pos (bZ e)]at k
  refine dF (by omega) ⟨_,rfl,?_⟩
  rw [cd (by omega) (by omega),ib (by omega)];exact k
 rw [if_neg (bA e9)]at k
 refine ad (fun e=>?_) (fun e10=>?_)
 ·rw [if_pos (bZ e)]at k
  refine dF (by omega) ⟨_,rfl,?_⟩
  rw [cd (by omega) (by omega),ib (by omega)];exact k
 rw [if_neg (bA e10)]at k
 refine ad (fun e=>?_) (fun e11=>?_)
 ·rw [if_pos (bZ e)]at k
  refine dF (by omega) ⟨_,rfl,?_⟩
  have hmi:(a:Int)*(b:Int)=((a*b:Nat):Int):=(Int.natCast_mul _ _).symm
  rw [hmi]at k⊢
  generalize a*b=ab at*
  rw [fV (by omega),ib (by omega)];exact k
 rw [if_neg (bA e11)]at k
 refine ad (fun e=>?_) (fun e12=>?_)
 ·rw [if_pos (bZ e)]at k
  refine dF (by omega) ⟨_,rfl,ad (fun eb0=>?_) (fun eb0=>?_)⟩
  ·have hb0: ¬b=0:=by have:=of_decide_eq_true eb0;omega
   rw [if_neg hb0]at k
   have hd:=Nat.div_le_self a b
   rw [if_neg (by omega),vR,fV (by omega)];exact k
  ·have hb0:b=0:=by have:=of_decide_eq_false eb0;omega
   rw [if_pos hb0]at k
   have:((2^w-1:Nat):Int)=((2^w:Nat):Int)-1:=by omega
   rw [<-this];exact k
 rw [if_neg (bA e12)]at k
 refine ad (fun e=>?_) (fun e13=>?_)
 ·rw [if_pos (bZ e)]at k
  refine ad (fun eb0=>?_) (fun eb0=>?_)
  ·have hb0: ¬b=0:=by have:=of_decide_eq_true eb0;omega
   rw [if_neg hb0]at k
   rw [if_neg (by omega),eP];exact k
  ·have hb0:b=0:=by have:=of_decide_eq_false eb0;omega
   rw [if_pos hb0]at k;exact k
 rw [if_neg (bA e13)]at k
 refine ap (fun J=>J (decide (kind=14\/kind=15))) ?_ ?_
 rotate_left
 ·intro J hJ
  refine ad (fun e=>?_) (fun e=>?_)
  ·rw [decide_eq_true (.inl (bZ e))]at hJ;exact hJ
  ·have:(kind==15)=decide (kind=14\/kind=15):=by
    have:=bA e
    rw [Bool.eq_iff_iff];simp [this]
   rw [this];exact hJ
 refine ad (fun e=>?_) (fun e1415=>?_)
 ·have e':kind=14\/kind=15:=by simpa using e
  refine Qt e' ea eb ⟨_,rfl,?_⟩
  rcases e' with rfl|rfl
  ·simpa using k
  ·simpa using k
 have n14: ¬kind=14/\ ¬kind=15:=by simpa using e1415
 rw [if_neg n14.1,if_neg n14.2]at k
 refine ap (fun J=>J (decide (kind=16\/kind=17\/kind=18))) ?_ ?_
 rotate_left
 ·intro J hJ
  refine ad (fun e=>?_) (fun e=>ad (fun e2=>?_) (fun e2=>?_))
  ·rw [decide_eq_true (.inl (bZ e))]at hJ;exact hJ
  ·rw [decide_eq_true (.inr (.inl (bZ e2)))]at hJ;exact hJ
  ·have:(kind==18)=decide (kind=16\/kind=17\/kind=18):=by
    have h1:=bA e
    have h2:=bA e2
    rw [Bool.eq_iff_iff];simp [h1,h2]
   rw [this];exact hJ
 refine ad (fun e=>?_) (fun e1618=>?_)
 ·have e':kind=16\/kind=17\/kind=18:=by simpa using e
  refine PP ea (by omega) ⟨_,rfl,?_⟩
  unfold GK
  rcases e' with rfl|rfl|rfl
  ·simpa using k
  ·simpa using k
  ·simpa using k
 have n16: ¬kind=16/\ ¬kind=17/\ ¬kind=18:=by simpa using e1618
 rw [if_neg n16.1,if_neg n16.2.1,if_neg n16.2.2]at k
 refine ad (fun e=>?_) (fun e19=>?_)
 ·rw [if_pos (bZ e)]at k
  exact Hh ea ⟨_,rfl,k⟩
 rw [if_neg (bA e19)]at k
 have h20':kind=20:=by
  have:=bA e6;have:=bA e7;have:=bA e8;have:=bA e9;have:=bA e10;have:=bA e11;have:=bA e12;have:=bA e13;have:=bA e19
  omega
 refine aM (by simpa using h20') ?_
 have hm:b%w<w:=Nat.mod_lt _ (by omega)
 have hw2:W ((w:Int)-((b%w:Nat):Int))=((w-b%w:Nat):Int):=by rw [cd (by omega) (by omega)];omega
 rw [if_neg (by omega),eP,hw2]
 exact Hh ea ⟨_,rfl,k⟩
def JV (kind:Int) (x y:Bool):Bool:=if kind=8 then x^^y else if kind=7 then x||y else x&&y
theorem QB {c:Bool} {n:Nat} (hn:n<=62):aA (if c then 1 else 0) (n:Int)=((if c then 2^n else 0:Nat):Int):=by
 cases c
 ·have:=jk (a:=0) (n:=n) (by omega) (by omega);simpa using this
 ·have:=cw hn;simpa using this
theorem OP {i:Nat} {f:Nat->Bool} {c:Bool} (hi:i<=60) (hc:c=f i):W ((dl i f:Int)+((if c then 2^i else 0:Nat):Int))=((dl (i+1) f:Nat):Int):=by
 have h1:=uT i f
 have h2:=qa (n:=i) (by omega)
 subst hc
 simp only [dl]
 rw [cd (by split<;>omega) (by split<;>omega)]
 omega
theorem Rw {h:Hp} {kind:Int} {w a b:Nat} {R:Value->Hp->Prop} (hw:w<=16)
  (k:R (I (dl w fun i=>JV kind (a.testBit i) (b.testBit i))) h):xz #[I kind,I w,I a,I b] h R:=by
 apply NS
 refine uf_ ?_
 refine au w (fun i vs h'=>vs= [I kind,I w,I a,I b,I (dl i fun i=>JV kind (a.testBit i) (b.testBit i)),I i]/\h'=h) ⟨rfl,rfl⟩ ?_
 rintro i _ _ next hi ⟨rfl,rfl⟩ hn
 refine⟨_,_,_,_,_,_,rfl,?_⟩
 by_cases hlt:i<w
 ·refine aM (by simp [hlt]) (jM (by omega) ⟨_,rfl,jM (by omega) ⟨_,rfl,?_⟩⟩)
  have hn':=hn hlt _ _ ⟨rfl,rfl⟩
  generalize hx:a.testBit i=x at*
  generalize hy:b.testBit i=y at*
  refine ap (fun J=>J (if kind=7 then(if x||y then 1 else 0)else(if x&&y then 1 else 0))) ?_ ?_
  ·refine ap (fun J=>J (if JV kind x y then 1 else 0)) ?_ ?_
   ·rw [cZ (by omega),if_neg (by omega),QB (by omega),OP (by omega) (by rw [hx,hy]),ay (by omega)]
    exact hn'
   ·intro J hJ
    refine ad (fun e=>?_) (fun e=>?_)
    ·have:JV kind x y=(x^^y):=by unfold JV;rw [if_pos (bZ e)]
     rw [this]at hJ
     revert hJ;cases x<;>cases y<;>exact id
    ·have:JV kind x y=if kind=7 then x||y else x&&y:=by unfold JV;rw [if_neg (bA e)]
     rw [this]at hJ
     by_cases h7:kind=7
     ·rw [if_pos h7]at hJ⊢;exact hJ
     ·rw [if_neg h7]at hJ⊢;exact hJ
  ·intro J hJ
   refine ad (fun e=>?_) (fun e=>?_)
   ·rw [if_pos (bZ e)]at hJ
    revert hJ;cases x<;>cases y<;>exact id
   ·rw [if_neg (bA e)]at hJ
    revert hJ;cases x<;>cases y<;>exact id
 ·have:i=w:=by omega
  subst this
  exact aC (by simp) k
theorem T1 {h:Hp} {kind:Int} {w a b:Nat} {R:Value->Hp->Prop} (ea:WO w a) (eb:WO w b)
  (k:R (I ((if kind=12 then(if b=0 then 2^w-1 else a/b)else if b=0 then a else a%b:Nat))) h):zl #[I kind,I w,I a,I b] h R:=by
 apply Q1
 refine uf_ ?_
 have h16:=ea.pow
 have hp:=bP w
 have ha:=ea.2
 have hw:=ea.1
 refine ad (fun e=>?_) (fun e=>?_)
 ·rw [if_pos (bZ e)]at k
  refine ad (fun e0=>?_) (fun e0=>?_)
  ·have hb0:b=0:=by have:=bZ e0;omega
   rw [if_pos hb0]at k
   rw [cZ (by omega),if_neg (by omega),cw (by omega),cd (by omega) (by omega)]
   have:((2^w-1:Nat):Int)=((2^w:Nat):Int)-1:=by omega
   rw [<-this];exact k
  ·have hb0: ¬b=0:=by have:=bA e0;omega
   rw [if_neg hb0]at k
   have hd:=Nat.div_le_self a b
   rw [if_neg (by omega),vR,fV (by omega)];exact k
 ·rw [if_neg (bA e)]at k
  refine ad (fun e0=>?_) (fun e0=>?_)
  ·have hb0:b=0:=by have:=bZ e0;omega
   rw [if_pos hb0]at k;exact k
  ·have hb0: ¬b=0:=by have:=bA e0;omega
   rw [if_neg hb0]at k
   rw [if_neg (by omega),eP];exact k
theorem RM {h:Hp} {kind:Int} {w a b:Nat} {R:Value->Hp->Prop} (hk:kind=14\/kind=15) (ea:WO w a) (eb:WO w b)
  (k:R (I ((if kind=14 then O3 w a b else Pa w a b:Nat):Int)) h):xG #[I kind,I w,I a,I b] h R:=by
 apply NU
 refine uf_ ?_
 have h16:=ea.pow
 have hp:=bP w
 have sa:=HC ea
 have sb:=HC eb
 have hw:=ea.1
 refine jY ea ⟨_,rfl,jY eb ⟨_,rfl,?_⟩⟩
 unfold O3 Pa at k
 refine ad (fun e=>?_) (fun e=>?_)
 ·have e':=bZ e
  rw [if_neg (by omega)]at k
  refine ad (fun e0=>?_) (fun e0=>?_)
  ·rw [if_pos (bZ e0)]at k;exact k
  ·rw [if_neg (bA e0)]at k
   rw [if_neg (bA e0)]
   exact ju hw ⟨_,rfl,k⟩
 ·have e':kind=14:=by have:=bA e;omega
  rw [if_pos e']at k
  by_cases hy:sgn w b=0
  ·rw [if_pos hy]at k
   have hyb:(sgn w b==0)=true:=by simpa using hy
   refine ap (fun J=>J (decide (sgn w a<0))) ?_ (fun J hJ=>aM hyb hJ)
   refine ad (fun e=>?_) (fun e=>aM hyb ?_)
   ·rw [if_pos (of_decide_eq_true e)]at k;exact k
   ·rw [if_neg (of_decide_eq_false e)]at k
    rw [cZ (by omega),if_neg (by omega),cw (by omega),cd (by omega) (by omega)]
    have:((2^w-1:Nat):Int)=((2^w:Nat):Int)-1:=by omega
    rw [<-this];exact k
  ·rw [if_neg hy]at k
   have hyb:(sgn w b==0)=false:=by simpa using hy
   refine ap (fun J=>J false) ?_ (fun J hJ=>aC hyb hJ)
   refine aC rfl (aC hyb ?_)
   have hdiv:(Int.tdiv (sgn w a) (sgn w b)).natAbs<=65536:=by
    rw [Int.natAbs_tdiv]
    exact Nat.le_trans (Nat.div_le_self _ _) (by omega)
   rw [if_neg hy,cd (by omega) (by omega)]
   exact ju hw ⟨_,rfl,k⟩
theorem QC {h:Hp} {kind:Int} {w a b:Nat} {R:Value->Hp->Prop} (hk:kind=16\/kind=17\/kind=18) (ea:WO w a) (hb:b<=65536)
  (k:R (I (GK kind w a b)) h):qA #[I kind,I w,I a,I b] h R:=by
 have hw:=ea.1
 have key: ∀f:Nat->Bool,dl w f=GK kind w a b->
   (∀i,i<w->f i=if kind=16 then decide (b<=i)&&a.testBit (i-b)else if kind=17 then decide (i+b<w)&&a.testBit (i+b)else if i+b<w then a.testBit (i+b)else a.testBit (w-1))->
   qA #[I kind,I w,I a,I b] h R:=by
  intro f hcode hf
  apply Ll
  refine uf_ ?_
  refine au w (fun i vs h'=>vs= [I kind,I w,I a,I b,I (dl i f),I i]/\h'=h) ⟨rfl,rfl⟩ ?_
  rintro i _ h' next hi ⟨rfl,rfl⟩ hn
  refine⟨_,_,_,_,_,_,rfl,?_⟩
  by_cases hlt:i<w
  ·refine aM (by simp [hlt]) ?_
   have hn':=hn hlt _ _ ⟨rfl,rfl⟩
   have hfi:=hf i hlt
   refine ap (fun J=>J (if kind=16 then(i:Int)-b else(i:Int)+b)) ?_ ?_
   ·refine ap (fun J=>J (decide (0<=(if kind=16 then(i:Int)-b else(i:Int)+b)/\(if kind=16 then(i:Int)-b else(i:Int)+b)<w))) ?_ ?_
    ·refine ap (fun J=>J (if f i then 1 else 0) h') ?_ ?_
     ·rw [cZ (by omega),if_neg (by omega),QB (by omega),OP (by omega) rfl,ay (by omega)]
      exact hn'
     ·intro J hJ
      refine ad (fun e=>?_) (fun e=>?_)
      ·have e':=of_decide_eq_true e
       by_cases h16:kind=16
       ·rw [if_pos h16]at e' hfi⊢
        rw [show (i:Int)-b=((i-b:Nat):Int) by omega]
        refine jM (by omega) ⟨_,rfl,?_⟩
        rw [hfi]at hJ
        have:decide (b<=i)=true:=by simp;omega
        rw [this,Bool.true_and]at hJ;exact hJ
       ·rw [if_neg h16]at e' hfi⊢
        rw [show (i:Int)+b=((i+b:Nat):Int) by omega]
        refine jM (by omega) ⟨_,rfl,?_⟩
        have h1:decide (i+b<w)=true:=by simp;omega
        rw [h1,Bool.true_and,if_pos (show i+b<w by omega),ite_self]at hfi
        rw [hfi]at hJ;exact hJ
      ·have e':=of_decide_eq_false e
       refine ad (fun e2=>?_) (fun e2=>?_)
       ·have h18:=bZ e2
        rw [if_neg (by omega)]at e'
        rw [if_neg (by omega),if_neg (by omega),if_neg (by omega)]at hfi
        rw [show W ((w:Int)-1)=((w-1:Nat):Int) by rw [cd (by omega) (by omega)];omega]
        refine jM (by omega) ⟨_,rfl,?_⟩
        rw [hfi]at hJ;exact hJ
       ·have h18:=bA e2
        have:f i=false:=by
         rw [hfi]
         by_cases h16:kind=16
         ·rw [if_pos h16]at e'⊢
          have:decide (b<=i)=false:=by simp;omega
          rw [this,Bool.false_and]
         ·rw [if_neg h16]at e'⊢
          rw [if_pos (by omega)]
          have:decide (i+b<w)=false:=by simp;omega
          rw [this,Bool.false_and]
        rw [this]at hJ
        exact hJ
    ·intro J hJ
     generalize (if kind=16 then(i:Int)-b else(i:Int)+b)=z at*
     refine ad (fun e=>?_) (fun e=>?_)
     ·have:0<=z:=of_decide_eq_true e
      rw [show decide (0<=z/\z<(w:Int))=decide (z<(w:Int)) by rw [decide_eq_decide];omega]at hJ;exact hJ
     ·have: ¬0<=z:=of_decide_eq_false e
      rw [show decide (0<=z/\z<(w:Int))=false by rw [decide_eq_false_iff_not];omega]at hJ;exact hJ
   ·intro J hJ
    refine ad (fun e=>?_) (fun e=>?_)
    ·rw [if_pos (bZ e)]at hJ;rw [cd (by omega) (by omega)];exact hJ
    ·rw [if_neg (bA e)]at hJ;rw [cd (by omega) (by omega)];exact hJ
  ·have:i=w:=by omega
   subst this
   refine aC (by simp) ?_
   rw [hcode];exact k
 rcases hk with rfl|rfl|rfl
 ·exact key (fun i=>decide (b<=i)&&a.testBit (i-b)) abq (fun i _=>rfl)
 ·exact key (fun i=>decide (i+b<w)&&a.testBit (i+b)) (abg ea.2) (fun i _=>rfl)
 ·exact key (fun i=>if i+b<w then a.testBit (i+b)else a.testBit (w-1)) (acp hw.1 hw.2 ea.2) (fun i _=>rfl)
theorem Tg {h:Hp} {kind:Int} {w a b:Nat} {R:Value->Hp->Prop} (hk:kind=19\/kind=20) (ea:WO w a)
  (k:R (I ((if kind=19 then DN w a (b%w)else DN w a ((w-b%w)%w):Nat))) h):sJ #[I kind,I w,I a,I b] h R:=by
 have hw:=ea.1
 have hm:b%w<w:=Nat.mod_lt _ (by omega)
 have key: ∀s:Nat,s<w->R (I (DN w a s)) h->(∀i,i<w->(if kind=20 then(i+w-b%w)%w else(i+b%w)%w)=(i+s)%w)->
   sJ #[I kind,I w,I a,I b] h R:=by
  intro s hs k hto
  apply N4
  refine uf_ ?_
  refine au w (fun i vs h'=>vs= [I kind,I w,I a,I b,I (dl w fun j=>decide ((j+(w-s))%w<i)&&a.testBit ((j+(w-s))%w)),I i]/\h'=h) ⟨?_,rfl⟩ ?_
  ·have:dl w (fun j=>decide ((j+(w-s))%w<0)&&a.testBit ((j+(w-s))%w))=0:=
    kP (bP w) fun i _=>by simp
   rw [this];rfl
  rintro i _ h' next hi ⟨rfl,rfl⟩ hn
  refine⟨_,_,_,_,_,_,rfl,?_⟩
  by_cases hlt:i<w
  ·refine aM (by simp [hlt]) ?_
   have hn':=hn hlt _ _ ⟨rfl,rfl⟩
   have hst:=Y8 (a:=a) hs hlt
   have hto:=hto i hlt
   rw [if_neg (by omega),eP]
   have hpw:(i+s)%w<w:=Nat.mod_lt _ (by omega)
   refine ap (fun J=>J ((if kind=20 then i+w-b%w else i+b%w:Nat):Int)) ?_ ?_
   ·have ht:Int.tmod ((if kind=20 then i+w-b%w else i+b%w:Nat):Int) (w:Int)=(((i+s)%w:Nat):Int):=by
     rw [eP,<-hto]
     split<;>rfl
    rw [if_neg (by omega),ht,cZ (by omega)]
    have step:W ((dl w (fun j=>decide ((j+(w-s))%w<i)&&a.testBit ((j+(w-s))%w)):Int)+aA (if a.testBit i then 1 else 0) (((i+s)%w:Nat):Int))=
      ((dl w (fun j=>decide ((j+(w-s))%w<i+1)&&a.testBit ((j+(w-s))%w)):Nat):Int):=by
     rw [QB (by omega),<-hst,<-Int.natCast_add,fV]
     rw [hst]
     have:=uT w (fun j=>decide ((j+(w-s))%w<i+1)&&a.testBit ((j+(w-s))%w))
     have:=BJ hw.2
     omega
    have one:eF #[I a,I i] h' fun v25 h26=> ∃(x27:Int),v25=(I x27)/\(if(((i+s)%w:Nat):Int)<0 then False else next [I kind,I w,I a,I b,I (W ((dl w (fun j=>decide ((j+(w-s))%w<i)&&a.testBit ((j+(w-s))%w)):Int)+aA x27 (((i+s)%w:Nat):Int))),I (W ((i:Int)+1))] h26):=by
     refine jM (by omega) ⟨_,rfl,?_⟩
     rw [if_neg (by omega),step,ay (by omega)]
     exact hn'
    exact⟨one,one⟩
   ·intro J hJ
    refine ad (fun e=>?_) (fun e=>?_)
    ·rw [if_pos (bZ e)]at hJ
     rw [if_neg (by omega)]
     have:W (W ((i:Int)+w)-((b%w:Nat):Int))=((i+w-b%w:Nat):Int):=by rw [cd (n:=(i:Int)+w) (by omega) (by omega),cd (by omega) (by omega)];omega
     rw [this];exact hJ
    ·rw [if_neg (bA e)]at hJ
     have:W ((i:Int)+((b%w:Nat):Int))=((i+b%w:Nat):Int):=by rw [cd (by omega) (by omega)];omega
     rw [this];exact hJ
  ·have:i=w:=by omega
   subst this
   refine aC (by simp) ?_
   have:dl i (fun j=>decide ((j+(i-s))%i<i)&&a.testBit ((j+(i-s))%i))=DN i a s:=by
    rw [<-abo ea.2 hs]
    refine wy fun j _=>?_
    have:decide ((j+(i-s))%i<i)=true:=by
     rw [decide_eq_true_eq];exact Nat.mod_lt _ (by omega)
    rw [this,Bool.true_and]
   rw [this];exact k
 rcases hk with rfl|rfl
 ·refine key (b%w) hm k fun i _=>?_
  rw [if_neg (by omega)]
 ·rw [if_neg (by omega)]at k
  refine key ((w-b%w)%w) (Nat.mod_lt _ (by omega)) k fun i _=>?_
  rw [if_pos rfl,Nat.add_mod_mod]
  congr 1
  omega
theorem BZ {b:Bool} {R:Value->Hp->Prop} {h:Hp} {c:Bool} (e:b=c) (k:R (.tuple #[.bool c, .bool true]) h):R (.tuple #[.bool b, .bool true]) h:=by rw [e];exact k
theorem S4 {h:Hp} {kind:Int} {w a b:Nat} {R:Value->Hp->Prop} (ea:WO w a) (eb:WO w b)
  (k1:21<=kind/\kind<=28->R (.tuple #[.bool (BB kind w a b), .bool true]) h)
  (k2: ¬(21<=kind/\kind<=28)->R (.tuple #[.bool false, .bool false]) h):xj #[I kind,I w,I a,I b] h R:=by
 apply MP
 refine uf_ ?_
 have h16:=ea.pow
 have hp:=bP w
 have sa:=HC ea
 have sb:=HC eb
 have ha:=ea.2
 have hb:=eb.2
 have hw:=ea.1
 have dd: ∀{p q:Prop} [Decidable p] [Decidable q],(p↔q)->decide p=decide q:=fun h=>by rw [decide_eq_decide];exact h
 refine jY ea ⟨_,rfl,jY eb ⟨_,rfl,?_⟩⟩
 refine ad (fun e=>?_) (fun e1=>?_)
 ·have e:=bZ e
  subst e
  refine BZ ?_ (k1 (by omega))
  show _=decide (a=b)
  rw [Bool.eq_iff_iff];simp;omega
 refine ad (fun e=>?_) (fun e2=>?_)
 ·have e:=bZ e
  subst e
  exact BZ (dd (by omega)) (k1 (by omega))
 refine ad (fun e=>?_) (fun e3=>?_)
 ·have e:=bZ e
  subst e
  exact k1 (by omega)
 refine ad (fun e=>?_) (fun e4=>?_)
 ·have e:=bZ e
  subst e
  exact BZ (dd (by omega)) (k1 (by omega))
 refine ad (fun e=>?_) (fun e5=>?_)
 ·have e:=bZ e
  subst e
  exact k1 (by omega)
 refine ad (fun e=>?_) (fun e6=>?_)
 ·have e:=bZ e
  subst e
  have hab:W ((a:Int)+b)=((a+b:Nat):Int):=by rw [cd (by omega) (by omega)];omega
  rw [hab]
  refine cO ⟨_,rfl,?_⟩
  refine BZ ?_ (k1 (by omega))
  show _=decide (2^w<=a+b)
  rw [Bool.eq_iff_iff]
  have:=ig (w:=(w:Int)) (v:=((a+b:Nat):Int))
  rw [Int.toNat_natCast]at this
  simp only [Bool.not_eq_true',decide_eq_true_eq,<-Bool.not_eq_true,this]
  omega
 refine ad (fun e=>?_) (fun e7=>?_)
 ·have e:=bZ e
  subst e
  rw [cd (by omega) (by omega)]
  refine ju hw ⟨_,rfl,jY ⟨hw,kG _ _⟩ ⟨_,rfl,?_⟩⟩
  refine BZ ?_ (k1 (by omega))
  show _= !decide (-((2^(w-1):Nat):Int)<=sgn w a+sgn w b/\sgn w a+sgn w b<((2^(w-1):Nat):Int))
  have:=ah2 (a:=a) (b:=b) hw.1
  rw [Bool.eq_iff_iff,bne_iff_ne,this,Bool.not_eq_true',decide_eq_false_iff_not]
 refine ad (fun e=>?_) (fun e8=>?_)
 ·have e:=bZ e
  subst e
  have hmul:=EU (a:=a) (b:=b) (by omega) (by omega)
  have hmi:(a:Int)*(b:Int)=((a*b:Nat):Int):=(Int.natCast_mul _ _).symm
  rw [hmi,fV (by omega)]
  refine cO ⟨_,rfl,?_⟩
  refine BZ ?_ (k1 (by omega))
  show _=decide (2^w<=a*b)
  rw [Bool.eq_iff_iff]
  have:=ig (w:=(w:Int)) (v:=((a*b:Nat):Int))
  rw [Int.toNat_natCast]at this
  simp only [Bool.not_eq_true',decide_eq_true_eq,<-Bool.not_eq_true,this]
  generalize a*b=ab at*
  omega
 ·have:=bA e1;have:=bA e2;have:=bA e3;have:=bA e4;have:=bA e5;have:=bA e6;have:=bA e7;have:=bA e8
  exact k2 (by omega)
theorem E4 {h:Hp} {kind:Int} {w a b:Nat} {R:Value->Hp->Prop} (hk:6<=kind/\kind<=28) (ea:WO w a) (eb:WO w b)
  (k:R (.tuple #[I (qu kind w a b).1,I (qu kind w a b).2, .bool true]) h):qB #[I kind,I w,I a,I b] h R:=by
 apply Jh
 refine uf_ ?_
 have h16:=ea.pow
 have hp:=bP w
 have ha:=ea.2
 have hb:=eb.2
 have hw:=ea.1
 have hmul:=EU (a:=a) (b:=b) (by omega) (by omega)
 refine ap (fun J=>J false h) ?_ (fun J hJ=>cO ⟨_,rfl,aC (by rw [ea.ok];rfl) (cO ⟨_,rfl,by rw [eb.ok];exact hJ⟩)⟩)
 refine aC rfl (S4 ea eb (fun h21=>⟨_,_,rfl,aM rfl (vU ⟨_,rfl,?_⟩)⟩) (fun h21=>⟨_,_,rfl,aC rfl ?_⟩))
 ·have t:qu kind w a b=(if BB kind w a b then 1 else 0,1):=by unfold qu;rw [if_neg (by omega)]
  rw [t]at k
  cases hs:BB kind w a b
  ·rw [hs]at k;simpa using k
  ·rw [hs]at k;simpa using k
 have t:qu kind w a b=(A7 kind w a b,w):=by unfold qu;rw [if_pos (by omega)]
 rw [t]at k
 unfold A7 at k
 simp only at k
 refine ap (fun J=>J (decide (kind=6\/kind=7\/kind=8))) ?_ ?_
 rotate_left
 ·intro J hJ
  refine ad (fun e=>?_) (fun e=>ad (fun e2=>?_) (fun e2=>?_))
  ·rw [decide_eq_true (.inl (bZ e))]at hJ;exact hJ
  ·rw [decide_eq_true (.inr (.inl (bZ e2)))]at hJ;exact hJ
  ·have:(kind==8)=decide (kind=6\/kind=7\/kind=8):=by
    have h1:=bA e
    have h2:=bA e2
    rw [Bool.eq_iff_iff];simp [h1,h2]
   rw [this];exact hJ
 refine ad (fun e=>?_) (fun e678=>?_)
 ·have e':kind=6\/kind=7\/kind=8:=by simpa using e
  refine Rw hw.2 ⟨_,rfl,?_⟩
  rcases e' with rfl|rfl|rfl
  ·rw [if_pos rfl,<-Ja ha]at k;exact k
  ·rw [if_neg (by decide),if_pos rfl,<-Ws ha hb]at k;exact k
  ·rw [if_neg (by decide),if_neg (by decide),if_pos rfl,<-acL ha hb]at k;exact k
 have n6: ¬kind=6/\ ¬kind=7/\ ¬kind=8:=by simpa using e678
 rw [if_neg n6.1,if_neg n6.2.1,if_neg n6.2.2]at k
 refine ad (fun e=>?_) (fun e9=>?_)
 ·rw [if_pos (bZ e)]at k
  rw [cd (by omega) (by omega)]
  exact ju hw ⟨_,rfl,k⟩
 rw [if_neg (bA e9)]at k
 refine ad (fun e=>?_) (fun e10=>?_)
 ·rw [if_pos (bZ e)]at k
  rw [cd (by omega) (by omega)]
  exact ju hw ⟨_,rfl,k⟩
 rw [if_neg (bA e10)]at k
 refine ad (fun e=>?_) (fun e11=>?_)
 ·rw [if_pos (bZ e)]at k
  have hmi:(a:Int)*(b:Int)=((a*b:Nat):Int):=(Int.natCast_mul _ _).symm
  rw [hmi]at k⊢
  generalize a*b=ab at*
  rw [fV (by omega)]
  exact ju hw ⟨_,rfl,k⟩
 rw [if_neg (bA e11)]at k
 refine ap (fun J=>J (decide (kind=12\/kind=13))) ?_ ?_
 rotate_left
 ·intro J hJ
  refine ad (fun e=>?_) (fun e=>?_)
  ·rw [decide_eq_true (.inl (bZ e))]at hJ;exact hJ
  ·have:(kind==13)=decide (kind=12\/kind=13):=by
    have:=bA e
    rw [Bool.eq_iff_iff];simp [this]
   rw [this];exact hJ
 refine ad (fun e=>?_) (fun e1213=>?_)
 ·have e':kind=12\/kind=13:=by simpa using e
  refine T1 ea eb ⟨_,rfl,?_⟩
  rcases e' with rfl|rfl
  ·simpa using k
  ·simpa using k
 have n12: ¬kind=12/\ ¬kind=13:=by simpa using e1213
 rw [if_neg n12.1,if_neg n12.2]at k
 refine ap (fun J=>J (decide (kind=14\/kind=15))) ?_ ?_
 rotate_left
 ·intro J hJ
  refine ad (fun e=>?_) (fun e=>?_)
  ·rw [decide_eq_true (.inl (bZ e))]at hJ;exact hJ
  ·have:(kind==15)=decide (kind=14\/kind=15):=by
    have:=bA e
    rw [Bool.eq_iff_iff];simp [this]
   rw [this];exact hJ
 refine ad (fun e=>?_) (fun e1415=>?_)
 ·have e':kind=14\/kind=15:=by simpa using e
  refine RM e' ea eb ⟨_,rfl,?_⟩
  rcases e' with rfl|rfl
  ·simpa using k
  ·simpa using k
 have n14: ¬kind=14/\ ¬kind=15:=by simpa using e1415
 rw [if_neg n14.1,if_neg n14.2]at k
 refine ap (fun J=>J (decide (kind=16\/kind=17\/kind=18))) ?_ ?_
 rotate_left
 ·intro J hJ
  refine ad (fun e=>?_) (fun e=>ad (fun e2=>?_) (fun e2=>?_))
  ·rw [decide_eq_true (.inl (bZ e))]at hJ;exact hJ
  ·rw [decide_eq_true (.inr (.inl (bZ e2)))]at hJ;exact hJ
  ·have:(kind==18)=decide (kind=16\/kind=17\/kind=18):=by
    have h1:=bA e
    have h2:=bA e2
    rw [Bool.eq_iff_iff];simp [h1,h2]
   rw [this];exact hJ
 refine ad (fun e=>?_) (fun e1618=>?_)
 ·have e':kind=16\/kind=17\/kind=18:=by simpa using e
  refine QC e' ea (by omega) ⟨_,rfl,?_⟩
  unfold GK
  rcases e' with rfl|rfl|rfl
  ·simpa using k
  ·simpa using k
  ·simpa using k
 have n16: ¬kind=16/\ ¬kind=17/\ ¬kind=18:=by simpa using e1618
 rw [if_neg n16.1,if_neg n16.2.1,if_neg n16.2.2]at k
 have h1920:kind=19\/kind=20:=by
  have:=bA e9;have:=bA e10;have:=bA e11
  omega
 refine ap (fun J=>J true) ?_ ?_
 rotate_left
 ·intro J hJ
  refine ad (fun e=>hJ) (fun e=>?_)
  have:(kind==20)=true:=by
   have:=bA e
   rw [beq_iff_eq];omega
  rw [this];exact hJ
 refine aM rfl (Tg h1920 ea ⟨_,rfl,k⟩)
theorem aaW {w a more:Nat} {sign:Bool} (e:WO w a):EY w a more sign<2^(w+more):=by
 unfold EY
 cases sign
 ·have:=e.2
  have:2^w<=2^(w+more):=Nat.pow_le_pow_right (by omega) (by omega)
  rw [if_neg (by decide)];omega
 ·exact kG _ _
theorem OS {h:Hp} {w a more:Nat} {s:Bool} {R:Value->Hp->Prop} (e:WO w a) (hm:w+more<=16)
  (k:R (I (EY w a more s)) h):AK #[I w,I a,I more, .bool s] h R:=by
 apply RL
 refine uf_ ?_
 unfold EY at k
 refine ad (fun es=>?_) (fun es=>?_)
 ·rw [if_pos es]at k
  refine qh e ⟨_,rfl,?_⟩
  rw [show W ((w:Int)+more)=((w+more:Nat):Int) by rw [cd (by omega) (by omega)];omega]
  refine dF (by omega) ⟨_,rfl,?_⟩
  rw [ib (by omega)];exact k
 ·rw [if_neg (by rw [es];decide)]at k;exact k
theorem NX {h:Hp} {w a more:Nat} {s:Bool} {R:Value->Hp->Prop} (e:WO w a) (hm:w+more<=16)
  (k:R (.tuple #[I (EY w a more s),I ((w+more:Nat):Int), .bool true]) h):lP #[I w,I a,I more, .bool s] h R:=by
 apply z5
 refine uf_ ?_
 unfold EY at k
 have hw:W ((w:Int)+more)=((w+more:Nat):Int):=by rw [cd (by omega) (by omega)];omega
 have h1:=e.1
 refine ap (fun J=>J false h) ?_ (fun J hJ=>cO ⟨_,rfl,aC (by rw [e.ok];rfl) (aC (by simp) ?_)⟩)
 ·refine aC rfl (ad (fun es=>?_) (fun es=>?_))
  ·rw [if_pos es]at k
   rw [hw]
   exact jY e ⟨_,rfl,ju (by omega) ⟨_,rfl,k⟩⟩
  ·rw [if_neg (by rw [es];decide)]at k
   rw [hw];exact k
 ·rw [cd (by omega) (by omega),show decide ((more:Int)>16-(w:Int))=false by rw [decide_eq_false_iff_not];omega];exact hJ
theorem Na {h:Hp} {w a u b:Nat} {R:Value->Hp->Prop} (ea:WO w a) (eb:WO u b) (hm:w+u<=16)
  (k:R (.tuple #[I ((a*2^u+b:Nat):Int),I ((w+u:Nat):Int), .bool true]) h):lT #[I w,I a,I u,I b] h R:=by
 apply Aa
 refine uf_ ?_
 have hw:W ((w:Int)+u)=((w+u:Nat):Int):=by rw [cd (by omega) (by omega)];omega
 have h1:=ea.1
 have h2:=eb.1
 have ha:=ea.2
 have hb:=eb.2
 have h16a:=ea.pow
 have h16b:=eb.pow
 have hmul:=EU (a:=a) (b:=2^u) (by omega) (by omega)
 refine ap (fun J=>J false h) ?_ (fun J hJ=>cO ⟨_,rfl,aC (by rw [ea.ok];rfl) (cO ⟨_,rfl,aC (by rw [eb.ok];rfl) ?_⟩)⟩)
 ·rw [cZ (by omega)]
  refine aC rfl ?_
  rw [if_neg (by omega),jk (by omega) (by omega),hw,<-Int.natCast_add,fV (by omega)];exact k
 ·rw [hw,show decide (((w+u:Nat):Int)>16)=false by rw [decide_eq_false_iff_not];omega];exact hJ
theorem Me {h:Hp} {w a hi lo:Nat} {R:Value->Hp->Prop} (ea:WO w a) (h1:lo<=hi) (h2:hi<w)
  (k:R (.tuple #[I ((a/2^lo%2^(hi-lo+1):Nat):Int),I ((hi-lo+1:Nat):Int), .bool true]) h):kJ #[I w,I a,I hi,I lo] h R:=by
 apply xS
 refine uf_ ?_
 have e0:=ea.1
 have hw:W (W ((hi:Int)-lo)+1)=((hi-lo+1:Nat):Int):=by rw [cd (n:=(hi:Int)-lo) (by omega) (by omega),cd (by omega) (by omega)];omega
 have e1:=ea.1
 have hp:=bP (hi-lo+1)
 refine ap (fun J=>J false h) ?_ (fun J hJ=>cO ⟨_,rfl,aC (by rw [ea.ok];rfl) (aC (by simp) (aC (by simp;omega) ?_))⟩)
 ·refine aC rfl ?_
  rw [hw,cZ (by omega),cZ (by omega),if_neg (by omega),if_neg (by omega),cw (by omega),if_neg (by omega),jF (by omega),eP]
  exact k
 ·rw [show decide ((hi:Int)>=(w:Int))=false by rw [decide_eq_false_iff_not];omega];exact hJ
theorem aj {h:Hp} {cs:Nat->List Value} {n:Nat->Nat} {P:Nat->Hp->Prop}
  (k: ∀b h',h b=none->h.le h'->h' b=some (.inl ⟨cs b,n b,false⟩)->P b h'): ∀b,h b=none->cM (h.row b (cs b) (n b)) fun h'=>P b h':=
 fun b hb=>k b _ hb (gp _ _ hb) (bU _ _ _ _)
theorem dK {b c:Bool} {R:Value->Hp->Prop} {h:Hp} (e:b=c) (k:R (.bool c) h):R (.bool b) h:=by rw [e];exact k
theorem tU {b c:Int} {R:Value->Hp->Prop} {h:Hp} (e:b=c) (k:R (I c) h):R (I b) h:=by rw [e];exact k
theorem ag1 {P:Bool->Prop} {c b:Bool} (k:P (c&&b)):ac c (P b) (P false):=by cases c<;>exact k
theorem aih {P:Bool->Prop} {c b:Bool} (k:P (c||b)):ac c (P true) (P b):=by cases c<;>exact k
abbrev ul (s:SortP):Value:= .agg #[I s.idx,I s.wid]
abbrev wP (n:NodeP):Value:= .agg #[I n.kind,I n.a,I n.b,I n.c,I n.n,I n.m,I n.sort.idx,I n.sort.wid, .string n.name]
abbrev xa (b:BindP):Value:= .agg #[I b.state,I b.node]
theorem Lp (s:SortP):bW s=(decide (0<=s.idx/\s.idx<=2)&&decide (1<=s.wid/\s.wid<=16)):=by
 unfold bW;rw [Bool.eq_iff_iff];simp
theorem bD {s:SortP}:bW s=true↔(0<=s.idx/\s.idx<=2)/\(1<=s.wid/\s.wid<=16):=by
 unfold bW;simp
theorem r8 {h:Hp} {i w:Int} {R:Value->Hp->Prop} (k:R (.bool (bW ⟨i,w⟩)) h):pm #[.agg #[I i,I w]] h R:=by
 refine ACalls.drop (Nk ?_)
 refine uf_ ?_
 refine aj fun b h1 hb l1 f1=>?_
 simp only [vm,mm,ax f1]
 rw [Lp]at k
 refine gU ⟨_,rfl,ad (fun e=>?_) (fun e=>⟨_,l1,dK ?_ k⟩)⟩
 ·simp only [vm,mm,ax f1]
  exact E9 ⟨_,rfl,⟨_,l1,dK (by simp only [e,Bool.true_and]) k⟩⟩
 ·simp only [e,Bool.false_and]
theorem rW {h:Hp} {i w:Int} {R:Value->Hp->Prop} (k:R (.bool (bW ⟨i,w⟩)) h):pj #[.agg #[I i,I w]] h R:=by
 refine ACalls.drop (NZ ?_)
 refine uf_ ?_
 refine aj fun b h1 hb l1 f1=>?_
 simp only [vm,mm,ax f1]
 rw [Lp]at k
 refine et ⟨_,rfl,ad (fun e=>?_) (fun e=>⟨_,l1,dK ?_ k⟩)⟩
 ·simp only [vm,mm,ax f1]
  exact yX ⟨_,rfl,⟨_,l1,dK (by simp only [e,Bool.true_and]) k⟩⟩
 ·simp only [e,Bool.false_and]
theorem zW (s:SortP):dg s<=4:=by
 unfold dg
 split
 ·rename_i e
  have:=bD.1 e
  have:=Nat.pow_le_pow_right (n:=2) (by omega) (show s.idx.toNat<=2 by omega)
  simpa using this
 ·omega
theorem oU {h:Hp} {i w:Int} {R:Value->Hp->Prop} (k:R (I (dg ⟨i,w⟩)) h):kQ #[.agg #[I i,I w]] h R:=by
 refine ACalls.drop (Gq ?_)
 refine uf_ ?_
 refine aj fun b h1 hb l1 f1=>?_
 simp only [vm,mm,ax f1]
 unfold dg at k
 refine r8 ⟨_,rfl,ad (fun e=>⟨_,l1,?_⟩) (fun e=>?_)⟩
 ·rw [if_neg (by simpa using e)]at k;exact k
 ·have e':bW ⟨i,w⟩=true:=by simpa using e
  have:=bD.1 e'
  rw [if_pos e']at k
  simp only [vm,mm,ax f1]
  obtain⟨n,rfl⟩: ∃n:Nat,i=n:=⟨i.toNat,by simp only at this;omega⟩
  simp only at this
  rw [if_neg (by omega),cw (by omega)]
  exact⟨_,l1,k⟩
theorem gH {h:Hp} {i w:Int} {R:Value->Hp->Prop} (k:R (I (dg ⟨i,w⟩)) h):ge #[.agg #[I i,I w]] h R:=by
 refine ACalls.drop (GY ?_)
 refine uf_ ?_
 refine aj fun b h1 hb l1 f1=>?_
 simp only [vm,mm,ax f1]
 unfold dg at k
 refine rW ⟨_,rfl,ad (fun e=>⟨_,l1,?_⟩) (fun e=>?_)⟩
 ·rw [if_neg (by simpa using e)]at k;exact k
 ·have e':bW ⟨i,w⟩=true:=by simpa using e
  have:=bD.1 e'
  rw [if_pos e']at k
  simp only [vm,mm,ax f1]
  obtain⟨n,rfl⟩: ∃n:Nat,i=n:=⟨i.toNat,by simp only at this;omega⟩
  simp only at this
  rw [cZ (by omega),if_neg (by omega),cw (by omega)]
  exact⟨_,l1,k⟩
theorem Ay (s:SortP):dT s<=64:=by
 unfold dT
 by_cases e:bW s=true
 ·have:=bD.1 e
  have h1:=zW s
  have:=Nat.mul_le_mul h1 (show s.wid.toNat<=16 by omega)
  omega
 ·have:dg s=0:=by unfold dg;rw [if_neg e]
  rw [this];omega
theorem Ex {s:SortP} {x:Int} (hx:bW s=true->x=s.wid):(dg s:Int)*x=((dT s:Nat):Int):=by
 unfold dT
 by_cases e:bW s=true
 ·have:=bD.1 e
  rw [hx e,Int.natCast_mul]
  congr 1
  omega
 ·have:dg s=0:=by unfold dg;rw [if_neg e]
  rw [this];simp
theorem qf {h:Hp} {i w:Int} {R:Value->Hp->Prop} (k:R (I (dT ⟨i,w⟩)) h):lO #[.agg #[I i,I w]] h R:=by
 refine ACalls.drop (Iw ?_)
 refine uf_ ?_
 refine aj fun b h1 hb l1 f1=>?_
 simp only [vm,mm,ax f1]
 refine oU ⟨_,rfl,rfl,⟨_,l1,tU ?_ k⟩⟩
 have:=Ay ⟨i,w⟩
 rw [Ex,fV (by omega)]
 intro e
 have:=bD.1 e
 simp only at this⊢
 split<;>split<;>omega
theorem jE {h:Hp} {i w:Int} {R:Value->Hp->Prop} (k:R (I (dT ⟨i,w⟩)) h):jc #[.agg #[I i,I w]] h R:=by
 refine ACalls.drop (Ix ?_)
 refine uf_ ?_
 refine aj fun b h1 hb l1 f1=>?_
 simp only [vm,mm,ax f1]
 refine gH ⟨_,rfl,rfl,⟨_,l1,tU ?_ k⟩⟩
 have:=Ay ⟨i,w⟩
 rw [Ex (fun _=>rfl),fV (by omega)]
theorem jB {α:Sort _} (c:α) (k:α->Prop):aN c k=k c:=rfl
theorem zH {P:Prop} (k:P:=by((try rw [Bool.eq_iff_iff]);((try simp only [decide_eq_true_eq,decide_eq_false_iff_not,beq_iff_eq,beq_eq_false_iff_ne,bne_iff_ne,bne_eq_false_iff_eq,ne_eq,Bool.not_eq_true',Bool.not_eq_false',Bool.and_eq_true,Bool.or_eq_true,Bool.true_and,Bool.false_and,Bool.and_true,Bool.and_false,Bool.true_or,Bool.false_or,reduceCtorEq,iff_false,iff_true,false_iff,true_iff,Bool.not_true,Bool.not_false]at*));try ((repeat' split)<;>omega))):P:=k
theorem gO {α:Sort _} {b c:α} {J:α->Prop} (e:b=c) (k:J c):J b:=by rw [e];exact k
theorem ed {h:Hp} {kind:Int} {R:Value->Hp->Prop} (k:R (I (ai kind)) h):fS #[I kind] h R:=by
 apply Rb
 refine uf_ ?_
 simp only [jB]
 repeat' (first|(with_reducible first|refine aM (b:=true) rfl ?_|refine aC (b:=false) rfl ?_|refine ad (fun _=>?_) fun _=>?_)|(refine gU ⟨_,rfl,?_⟩)|(refine tU ?_ k))
 all_goals (clear k;unfold ai;(exact zH))
theorem lD {h:Hp} {kind:Int} {R:Value->Hp->Prop} (k:R (I (ai kind)) h):iR #[I kind] h R:=by
 apply Lf
 refine uf_ ?_
 refine ap (fun J=>J (decide ((1<=kind/\kind<=5)\/(30<=kind/\kind<=32)))) ?_ (fun J hJ=>?_)
 rotate_left
 ·clear k;repeat' (first|(with_reducible first|refine aM (b:=true) rfl ?_|refine aC (b:=false) rfl ?_|refine ad (fun _=>?_) fun _=>?_)|(refine gO ?_ hJ))
  all_goals (clear hJ;(exact zH))
 (with_reducible first|refine aM (b:=true) rfl ?_|refine aC (b:=false) rfl ?_|refine ad (fun _=>?_) fun _=>?_)
 ·refine tU ?_ k;clear k;unfold ai;(exact zH)
 refine ap (fun J=>J (decide ((6<=kind/\kind<=29)\/kind=37))) ?_ (fun J hJ=>?_)
 rotate_left
 ·clear k;repeat' (first|(with_reducible first|refine aM (b:=true) rfl ?_|refine aC (b:=false) rfl ?_|refine ad (fun _=>?_) fun _=>?_)|(refine gO ?_ hJ))
  all_goals (clear hJ;(exact zH))
 (with_reducible first|refine aM (b:=true) rfl ?_|refine aC (b:=false) rfl ?_|refine ad (fun _=>?_) fun _=>?_)
 ·refine tU ?_ k;clear k;unfold ai;(exact zH)
 simp only [jB]
 repeat' (first|(with_reducible first|refine aM (b:=true) rfl ?_|refine aC (b:=false) rfl ?_|refine ad (fun _=>?_) fun _=>?_)|(refine tU ?_ k))
 all_goals (clear k;unfold ai;(exact zH))
theorem Mr {h:Hp} {kind:Int} {R:Value->Hp->Prop} (k:R (.bool (cY kind)) h):dI #[I kind] h R:=by
 apply PK
 refine uf_ ?_
 refine aih (P:=fun b=>R (.bool b) h) (dK ?_ k)
 unfold cY
 rw [Bool.eq_iff_iff];simp
theorem P1 (s:ByteArray) (i:Nat):s[i]?=s.data.toList[i]?:=by
 rcases s with ⟨⟨l⟩⟩
 by_cases h:i<l.length
 ·rw [getElem?_pos _ i (show i<(ByteArray.mk ⟨l⟩).size from h)]
  simp only [List.getElem?_eq_getElem h]
  rfl
 ·rw [getElem?_neg _ i (show¬i<(ByteArray.mk ⟨l⟩).size from h)]
  simp only [List.getElem?_eq_none (Nat.le_of_not_lt h)]
theorem FJ (s:ByteArray):s.size=s.data.toList.length:=by rcases s with ⟨⟨l⟩⟩;rfl
theorem IW {s:ByteArray} {i:Nat} (h:i<s.size): ∃c,s[i]?=some c:=by
 rw [P1];rw [FJ]at h
 exact⟨_,List.getElem?_eq_getElem h⟩
theorem EB (s:ByteArray):(ByteArray.toList s==ByteArray.toList ⟨#[]⟩)=decide (s.size=0):=by
 rcases s with ⟨⟨l⟩⟩
 rw [nM,show (⟨#[]⟩:ByteArray)=⟨List.toArray []⟩from rfl,nM,FJ,Bool.eq_iff_iff]
 simp
theorem te {s:ByteArray}:gE s=true↔(1<=s.size/\s.size<=8)/\ ∀(j:Nat) (c:UInt8),s[j]?=some c->jr c=true\/(j≠0/\qD c=true):=by
 unfold gE
 simp only [P1]
 have hs:=FJ s
 generalize s.data.toList=l at*
 rw [Bool.and_eq_true,decide_eq_true_eq]
 refine and_congr_right fun h1=>?_
 cases l with
 |nil=>have:s.size=0:=hs;omega
 |cons c r=>
  simp only [Bool.and_eq_true,List.all_eq_true,Bool.or_eq_true]
  constructor
  ·rintro ⟨h2,h3⟩ j d hd
   cases j with
   |zero=>simp at hd;subst hd;exact .inl h2
   |succ j=>
    simp only [List.getElem?_cons_succ]at hd
    exact(h3 d (List.mem_of_getElem? hd)).imp id fun h=>⟨by omega,h⟩
  ·intro h
   refine⟨?_,fun d hd=>?_⟩
   ·rcases h 0 c rfl with h|h
    ·exact h
    ·exact absurd rfl h.1
   ·obtain⟨j,hj,rfl⟩:=List.getElem_of_mem hd
    rcases h (j+1) r[j] (by simp)with h|h
    ·exact .inl h
    ·exact .inr h.2
theorem zL {s:ByteArray} {j:Nat} {c:UInt8} (e:s[j]?=some c) (h1:jr c=false) (h2:j=0\/qD c=false):gE s=false:=by
 rw [Bool.eq_false_iff]
 intro h
 rcases (te.1 h).2 j c e with h|h
 ·rw [h1]at h;cases h
 ·rcases h2 with h2|h2
  ·exact h.1 h2
  ·rw [h2]at h;cases h.2
theorem Nb {h:Hp} {c:UInt8} {R:Value->Hp->Prop} (k:R (.bool (jr c)) h):tX #[.int .u8 ((UInt8.toNat c:Nat):Int)] h R:=by
 apply H0
 refine uf_ ?_
 refine ag1 (P:=fun b=>R (.bool b) h) (dK ?_ k)
 unfold jr
 (exact zH)
theorem GU {h:Hp} {s:ByteArray} {R:Value->Hp->Prop} (k:R (.bool (gE s)) h) (hsz:s.size<9223372036854775807):ke #[.string s] h R:=by
 apply N1
 refine uf_ ?_
 refine au s.size (fun i vs h'=>(∀(j:Nat) (c:UInt8),j<i->s[j]?=some c->jr c=true\/(j≠0/\qD c=true))/\vs= [.string s,I s.size,I i]/\h'=h) ⟨fun j c hj=>by omega,rfl,rfl⟩ ?_
 rintro i _ h' next hi ⟨hg,rfl,rfl⟩ hn
 refine⟨_,_,_,rfl,?_⟩
 by_cases hlt:i<s.size
 ·obtain⟨c,hc⟩:=IW hlt
  refine aM (by simp [hlt]) ?_
  simp only [vm]
  have hnext:jr c=true\/(i≠0/\qD c=true)->next [.string s,I s.size,I (W ((i:Int)+1))] h':=by
   intro hgood
   rw [ay (by omega)]
   refine hn hlt _ _ ⟨fun j d hj hd=>?_,rfl,rfl⟩
   by_cases hji:j=i
   ·subst hji;rw [hc]at hd;cases hd;exact hgood
   ·exact hg j d (by omega) hd
  refine⟨c,hc,Nb ⟨_,rfl,ad (fun e=>ad (fun e2=>?_) (fun e2=>⟨c,hc,ad (fun e3=>?_) (fun e3=>⟨c,hc,ad (fun e4=>?_) (fun e4=>hnext ?_)⟩)⟩)) (fun e=>hnext (.inl (by simpa using e)))⟩⟩
  ·exact dK (zL hc (by simpa using e) (.inl (by simp at e2;omega))).symm k
  ·exact dK (zL hc (by simpa using e) (.inr (by unfold qD;simp at e3⊢;omega))).symm k
  ·exact dK (zL hc (by simpa using e) (.inr (by unfold qD;simp at e4⊢;omega))).symm k
  ·refine .inr ⟨by simp at e2;omega,?_⟩
   unfold qD;simp at e3 e4⊢;omega
 ·refine aC (by simp;omega) (gU ⟨_,rfl,dK ?_ k⟩)
  have:= @te s
  rw [Bool.eq_iff_iff,this,decide_eq_true_eq]
  constructor
  ·intro hh
   refine⟨by omega,fun j c hc=>hg j c ?_ hc⟩
   ·rcases Nat.lt_or_ge j s.size with h|h
    ·omega
    ·rw [P1,List.getElem?_eq_none (by rw [<-FJ];exact h)]at hc;cases hc
  ·rintro ⟨hh,_⟩;omega
theorem FO {h:Hp} {s:ByteArray} {R:Value->Hp->Prop} (k:R (.bool (gE s)) h):sA #[.string s] h R:=by
 apply NH
 refine uf_ ?_
 refine ap (fun J=>J (!(decide (1<=s.size/\s.size<=8)&&(match s[0]? with|some c=>jr c|none=>false))) h) ?_ (fun J hJ=>?_)
 rotate_left
 ·refine et ⟨_,rfl,ad (fun e=>?_) (fun e=>?_)⟩
  ·rw [show decide (1<=s.size/\s.size<=8)=false by rw [decide_eq_false_iff_not];simp at e;omega,Bool.false_and]at hJ
   exact hJ
  ·have e':1<=s.size/\s.size<=8:=by simp at e;omega
   obtain⟨c,hc⟩:=IW (s:=s) (i:=0) (by omega)
   rw [decide_eq_true e',Bool.true_and,hc]at hJ
   simp only at hJ
   refine⟨by omega,c,hc,ad (fun e=>?_) (fun e=>⟨by omega,c,hc,?_⟩)⟩
   ·exact gO (J:=fun b=>J b h) (by unfold jr;(exact zH)) hJ
   ·exact gO (J:=fun b=>J b h) (by unfold jr;(exact zH)) hJ
 refine ad (fun e=>dK ?_ k) (fun e=>?_)
 ·symm
  rw [Bool.eq_false_iff]
  intro hn
  have hh:=te.1 hn
  obtain⟨c,hc⟩:=IW (s:=s) (i:=0) (by omega)
  rw [decide_eq_true hh.1,hc]at e
  rcases hh.2 0 c hc with h1|h1
  ·simp [h1]at e
  ·exact absurd rfl h1.1
 have e':(1<=s.size/\s.size<=8)/\ ∀c,s[0]?=some c->jr c=true:=by
  simp only [Bool.not_eq_false',Bool.and_eq_true,decide_eq_true_eq]at e
  refine⟨e.1,fun c hc=>?_⟩
  have:=e.2;rw [hc]at this;exact this
 refine au s.size (fun i vs h'=>(∀(j:Nat) (c:UInt8),j<i->s[j]?=some c->jr c=true\/qD c=true)/\vs= [.string s,I i]/\h'=h) ⟨fun j c hj=>by omega,rfl,rfl⟩ ?_
 rintro i _ h' next hi ⟨hg,rfl,rfl⟩ hn
 refine⟨_,_,rfl,?_⟩
 by_cases hlt:i<s.size
 ·obtain⟨c,hc⟩:=IW hlt
  refine aM (by simp [hlt]) ?_
  simp only [vm]
  have hnext:jr c=true\/qD c=true->next [.string s,I (W ((i:Int)+1))] h':=by
   intro hgood
   rw [ay (by omega)]
   refine hn hlt _ _ ⟨fun j d hj hd=>?_,rfl,rfl⟩
   by_cases hji:j=i
   ·subst hji;rw [hc]at hd;cases hd;exact hgood
   ·exact hg j d (by omega) hd
  have hbad:jr c=false->qD c=false->R (.bool false) h':=fun h1 h2=>dK (zL hc h1 (.inr h2)).symm k
  have two: ∀(hl:jr c=false),(ac (decide (((UInt8.toNat c:Nat):Int)>=48)) (∃c32:UInt8,s[i]?=some c32/\(ac (!(decide (((UInt8.toNat c32:Nat):Int)<=57))) (R (.bool false) h') (next [(.string s),(I (W ((i:Int)+1)))] h'))) (R (.bool false) h')):=by
   intro hl
   refine ad (fun e=>⟨c,hc,ad (fun e2=>hbad hl ?_) (fun e2=>hnext (.inr ?_))⟩) (fun e=>hbad hl ?_)
   ·unfold qD;simp at e2⊢;omega
   ·unfold qD;simp at e e2⊢;omega
   ·unfold qD;simp at e⊢;omega
  refine⟨c,hc,ad (fun e=>⟨c,hc,ad (fun e2=>hnext (.inl ?_)) (fun e2=>⟨c,hc,two ?_⟩)⟩) (fun e=>⟨c,hc,two ?_⟩)⟩
  ·unfold jr;simp at e e2⊢;omega
  ·unfold jr;simp at e2⊢;omega
  ·unfold jr;simp at e⊢;omega
 ·refine aC (by simp;omega) (dK ?_ k)
  symm
  refine te.2 ⟨e'.1,fun j c hc=>?_⟩
  have hj:j<s.size:=by
   rcases Nat.lt_or_ge j s.size with h|h
   ·omega
   ·rw [P1,List.getElem?_eq_none (by rw [<-FJ];exact h)]at hc;cases hc
  rcases hg j c (by omega) hc with h1|h1
  ·exact .inl h1
  ·by_cases h0:j=0
   ·subst h0;exact .inl (e'.2 c hc)
   ·exact .inr ⟨h0,h1⟩
theorem rd :(∀(v:Value) r,(v::r)[0]?=some v)/\(∀(v:Value) r (i:Nat),(v::r)[i+1]?=r[i]?)/\
  (∀(cs:List Value) (n:Nat) (ro:Bool) (p:List Value->Nat->Prop),
   (∃(cs':List Value) (n':Nat),some (Sum.inl (Row.mk cs n ro):Blk)=some (Sum.inl (Row.mk cs' n' ro))/\p cs' n')=p cs n)/\
  (∀cs o,bX cs o []=cs)/\(∀cs o v r,bX cs o (v::r)=bX (cs.set o v) (o+1) r)/\
  (∀(v w:Value) r,(v::r).set 0 w=w::r)/\(∀(v w:Value) r (i:Nat),(v::r).set (i+1) w=v::r.set i w)/\
  (∀(v:Value) r,(v::r).length=r.length+1)/\([]:List Value).length=0:=
 ⟨fun _ _=>rfl,fun _ _ _=>rfl,ac1,Lh,r6,fun _ _ _=>rfl,fun _ _ _ _=>rfl,fun _ _=>rfl,rfl⟩
theorem ac8 {h:Hp} {b z o:Nat} {cs:List Value} {ro:Bool} {x:Int} {P:Int->Prop} (f:h b=some (.inl ⟨cs,z,ro⟩)) (e:cs[o]?=some (I x)) (k:P x): ∃y:Int,Hp.cell h b o=some (I y)/\P y:=
 ⟨x,by rw [ax f];exact e,k⟩
theorem abX {h:Hp} {b z o:Nat} {cs:List Value} {ro:Bool} {x:ByteArray} {P:ByteArray->Prop} (f:h b=some (.inl ⟨cs,z,ro⟩)) (e:cs[o]?=some (.string x)) (k:P x): ∃y:ByteArray,Hp.cell h b o=some (.string y)/\P y:=
 ⟨x,by rw [ax f];exact e,k⟩
theorem dJ {h:Hp} {w:Int} {R:Value->Hp->Prop} (k:R (ul (cR w)) h):dC #[I w] h R:=by
 refine ACalls.drop (Fe ?_)
 refine uf_ ?_
 intro b hb
 have l1:=gp [I 0,I w] 2 hb
 simp only [vm,mm]
 exact⟨by decide,_,l1,k⟩
theorem cm {h:Hp} {w:Int} {R:Value->Hp->Prop} (k:R (ul (cR w)) h):aq #[I w] h R:=by
 refine ACalls.drop (NO ?_)
 refine uf_ ?_
 intro b hb
 have l1:=gp [I 0,I w] 2 hb
 simp only [vm,mm]
 exact⟨by decide,_,l1,k⟩
def az (n:NodeP):Nat->Int
 |0=>n.a
 |1=>n.b
 |2=>n.c
 |_=>0
theorem rP (len:Nat) (n:NodeP):fR len n=
  (decide (0<=ai n.kind)&&(nV (ai n.kind) len 0 (az n 0)&&nV (ai n.kind) len 1 (az n 1)&&nV (ai n.kind) len 2 (az n 2))&&
   (if cY n.kind then gE n.name else decide (n.name.size=0))&&(decide (n.kind=30)||decide (n.m=0))&&
   (decide (n.kind=30\/n.kind=31\/n.kind=32\/n.kind=34)||decide (n.n=0))):=rfl
theorem OU {len:Nat} {n:NodeP} {i:Nat} (hi:i<3) (e:nV (ai n.kind) len i (az n i)=false):fR len n=false:=by
 rw [rP]
 obtain rfl|rfl|rfl:i=0\/i=1\/i=2:=by omega
 ·rw [show ((0:Nat):Int)=0 from rfl]at e;rw [e];simp
 ·rw [show ((1:Nat):Int)=1 from rfl]at e;rw [e];simp
 ·rw [show ((2:Nat):Int)=2 from rfl]at e;rw [e];simp
theorem Hd {len:Nat} {n:NodeP} (hp:0<=ai n.kind) (e: ∀i:Nat,i<3->nV (ai n.kind) len i (az n i)=true):fR len n=
  ((if cY n.kind then gE n.name else decide (n.name.size=0))&&(decide (n.kind=30)||decide (n.m=0))&&
    (decide (n.kind=30\/n.kind=31\/n.kind=32\/n.kind=34)||decide (n.n=0))):=by
 rw [rP,decide_eq_true hp]
 have e0:=e 0 (by omega)
 have e1:=e 1 (by omega)
 have e2:=e 2 (by omega)
 rw [show ((0:Nat):Int)=0 from rfl]at e0
 rw [show ((1:Nat):Int)=1 from rfl]at e1
 rw [show ((2:Nat):Int)=2 from rfl]at e2
 rw [e0,e1,e2];simp
theorem nD {h:Hp} {b z:Nat} {n:NodeP} (f:h b=some (.inl ⟨[I n.a,I n.b,I n.c],z,false⟩)) {i:Nat} (hi:i<3):Hp.cell h b i=some (I (az n i)):=by
 rw [ax f]
 obtain rfl|rfl|rfl:i=0\/i=1\/i=2:=by omega
 all_goals rfl
theorem Ta {h:Hp} {n:NodeP} {len:Nat} {R:Value->Hp->Prop} (hlen:len<=4611686018427387904) (hsz:n.name.size<=1048576)
  (k:R (.bool (fR len n)) h):pU #[wP n,I len] h R:=by
 refine ACalls.drop (Dv ?_)
 refine uf_ ?_
 refine aj fun b h1 hb l1 f1=>?_
 simp only [vm,rd,ax f1]
 refine ed ⟨_,rfl,ad (fun e=>⟨_,l1,dK ?_ k⟩) (fun e=>?_)⟩
 ·rw [rP,decide_eq_false (by simp at e;omega)];simp
 have hp:0<=ai n.kind:=by simp at e;omega
 simp only [vm,rd,ax f1]
 refine aj fun b2 h2 hb2 l2 f2=>?_
 have f1':=l2 _ _ f1
 have l12:=Hp.le_trans l1 l2
 refine au 3 (fun i vs h'=>(∀j:Nat,j<i->nV (ai n.kind) len j (az n j)=true)/\vs= [I len, .pointer (some ⟨b,0,none⟩),I (ai n.kind), .slice (some ⟨b2,0,none⟩) 3 3,I 3,I i]/\h'=h2) ⟨fun j hj=>by omega,rfl,rfl⟩ ?_
 rintro i _ h' next hi ⟨hg,rfl,rfl⟩ hn
 refine⟨_,_,_,_,⟨_,_,_⟩,_,_,rfl,?_⟩
 by_cases hlt:i<3
 ·refine aM (by simp;omega) ?_
  simp only [vm,nD f2 hlt]
  refine⟨by omega,?_⟩
  refine ap (fun J=>J (!(nV (ai n.kind) len i (az n i))) h') ?_ (fun J hJ=>?_)
  ·refine ad (fun e=>⟨_,l12,dK ?_ k⟩) (fun e=>?_)
   ·rw [OU hlt (by simpa using e)]
   ·rw [ay (by omega)]
    refine hn hlt _ _ ⟨fun j hj=>?_,rfl,rfl⟩
    by_cases hji:j=i
    ·subst hji;simpa using e
    ·exact hg j (by omega)
  ·clear k
   unfold nV at hJ
   rw [cd (by omega) (by omega)]
   refine ad (fun e=>gU ⟨_,rfl,?_⟩) (fun e=>?_)
   ·rw [if_pos (by simpa using e)]at hJ
    refine ad (fun e2=>?_) (fun e2=>ad (fun e3=>?_) (fun e3=>?_))
    ·exact gO (J:=fun b=>J b h') (by simpa using e2) hJ
    ·simp at e e3;omega
    ·exact gO (J:=fun b=>J b h') (by simpa using e2) hJ
   ·rw [if_neg (by simpa using e)]at hJ
    refine ad (fun e2=>?_) (fun e2=>?_)
    ·exact gO (J:=fun b=>J b h') (by rw [Bool.eq_iff_iff];simp) hJ
    ·simp at e e2;omega
 ·refine aC (by simp;omega) ?_
  rw [Hd hp (fun j hj=>hg j (by omega))]at k
  simp only [vm,rd,ax f1',EB]
  refine ap (fun J=>J (decide (n.kind=30\/n.kind=31\/n.kind=32\/n.kind=34))) ?_ (fun J hJ=>?_)
  rotate_left
  ·clear k;repeat' (first|(with_reducible first|refine aM (b:=true) rfl ?_|refine aC (b:=false) rfl ?_|refine ad (fun _=>?_) fun _=>?_)|(refine gO ?_ hJ))
   all_goals (clear hJ;(exact zH))
  have hnm: ∀{R':Value->Hp->Prop},R' (.bool (cY n.kind)) h'->dI #[I n.kind] h' R':=Mr
  have hin: ∀{R':Value->Hp->Prop},R' (.bool (gE n.name)) h'->ke #[.string n.name] h' R':=fun k=>GU k (by omega)
  generalize cY n.kind=g at*
  generalize gE n.name=q at*
  repeat' (first|(with_reducible first|refine aM (b:=true) rfl ?_|refine aC (b:=false) rfl ?_|refine ad (fun _=>?_) fun _=>?_)|(with_reducible refine hnm ⟨_,rfl,?_⟩)|(with_reducible refine hin ⟨_,rfl,?_⟩)|(with_reducible refine ac8 f1' rfl ?_)|(with_reducible refine abX f1' rfl ?_)|(refine⟨_,l12,dK ?_ k⟩;clear k hnm hin hn hg f1 f2 f1' l1 l2 l12 hb hb2;first|(simp_all;done)|(cases g<;>cases q<;>simp_all<;>done)))
theorem Ni {h:Hp} {n:NodeP} {s:Sl} {R:Value->Hp->Prop} (hlen:s.n<=4611686018427387904)
  (k:R (.bool (fR s.n n)) h):tV #[s.v,wP n] h R:=by
 refine ACalls.drop (H1 ?_)
 refine uf_ ?_
 refine aj fun b h1 hb l1 f1=>?_
 simp only [vm,rd,ax f1]
 refine lD ⟨_,rfl,ad (fun e=>⟨_,l1,dK ?_ k⟩) (fun e=>?_)⟩
 ·rw [rP,decide_eq_false (by simp at e;omega)];simp
 have hp:0<=ai n.kind:=by simp at e;omega
 simp only [vm,rd,ax f1]
 refine aj fun b2 h2 hb2 l2 f2=>?_
 have f1':=l2 _ _ f1
 have l12:=Hp.le_trans l1 l2
 refine au 3 (fun i vs h'=>(∀j:Nat,j<i->nV (ai n.kind) s.n j (az n j)=true)/\vs= [s.v, .pointer (some ⟨b,0,none⟩),I (ai n.kind), .slice (some ⟨b2,0,none⟩) 3 3,I i]/\h'=h2) ⟨fun j hj=>by omega,rfl,rfl⟩ ?_
 rintro i _ h' next hi ⟨hg,rfl,rfl⟩ hn
 refine⟨_,_,_,_,⟨_,_,_⟩,_,rfl,?_⟩
 by_cases hlt:i<3
 ·refine aM (by simp;omega) ?_
  simp only [vm,nD f2 hlt]
  refine ap (fun J=>J (!(nV (ai n.kind) s.n i (az n i))) h') ?_ (fun J hJ=>?_)
  ·refine ad (fun e=>⟨_,l12,dK ?_ k⟩) (fun e=>?_)
   ·rw [OU hlt (by simpa using e)]
   ·rw [ay (by omega)]
    refine hn hlt _ _ ⟨fun j hj=>?_,rfl,rfl⟩
    by_cases hji:j=i
    ·subst hji;simpa using e
    ·exact hg j (by omega)
  ·clear k
   unfold nV at hJ
   rw [cd (by omega) (by omega)]
   refine ad (fun e=>⟨by omega,et ⟨_,rfl,?_⟩⟩) (fun e=>?_)
   ·rw [if_pos (by simpa using e)]at hJ
    refine ad (fun e2=>?_) (fun e2=>ad (fun e3=>?_) (fun e3=>?_))
    ·exact gO (J:=fun b=>J b h') (by simpa using e2) hJ
    ·simp at e e3;omega
    ·exact gO (J:=fun b=>J b h') (by simpa using e2) hJ
   ·rw [if_neg (by simpa using e)]at hJ
    refine ad (fun e2=>?_) (fun e2=>?_)
    ·refine⟨by omega,?_⟩
     exact gO (J:=fun b=>J b h') (by rw [Bool.eq_iff_iff];simp) hJ
    ·simp at e e2;omega
 ·refine aC (by simp;omega) ?_
  rw [Hd hp (fun j hj=>hg j (by omega))]at k
  simp only [vm,rd,ax f1',EB]
  refine ap (fun J=>J (cY n.kind)) ?_ (fun J hJ=>?_)
  rotate_left
  ·clear k;unfold cY at hJ;repeat' (first|(with_reducible first|refine aM (b:=true) rfl ?_|refine aC (b:=false) rfl ?_|refine ad (fun _=>?_) fun _=>?_)|(refine gO ?_ hJ))
   all_goals (clear hJ;(exact zH))
  have hin: ∀{R':Value->Hp->Prop},R' (.bool (gE n.name)) h'->sA #[.string n.name] h' R':=FO
  have hno:gE n.name=true-> ¬n.name.size=0:=fun e=>by have:=(te.1 e).1;omega
  generalize cY n.kind=g at*
  generalize gE n.name=q at*
  simp only [jB]
  repeat' (first|(with_reducible first|refine aM (b:=true) rfl ?_|refine aC (b:=false) rfl ?_|refine ad (fun _=>?_) fun _=>?_)|(with_reducible refine hin ⟨_,rfl,?_⟩)|(with_reducible refine ac8 f1' rfl ?_)|(with_reducible refine abX f1' rfl ?_)|(refine⟨_,l12,dK ?_ k⟩;clear k hin hn hg f1 f2 f1' l1 l2 l12 hb hb2;first|(simp_all;done)|(cases g<;>cases q<;>simp_all<;>done)|(rw [Bool.eq_iff_iff];cases g<;>cases q<;>simp_all<;>done)))
end Go.Lead
