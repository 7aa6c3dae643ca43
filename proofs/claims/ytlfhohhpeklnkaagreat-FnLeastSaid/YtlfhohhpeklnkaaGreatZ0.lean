/- What functions of the program and of the reference come to, walked one by one, and plain laws about it: part 1. No condition is added to the statement. -/
import Derived.Test.YtlfhohhpeklnkaaGreatVm15
import Derived.Test.YtlfhohhpeklnkaaGreatFn0
import Derived.Test.YtlfhohhpeklnkaaGreatFn1
import Derived.Test.YtlfhohhpeklnkaaGreatFn2
import Derived.Test.YtlfhohhpeklnkaaGreatFn3
import Derived.Test.YtlfhohhpeklnkaaGreatFn4
import Derived.Test.YtlfhohhpeklnkaaGreatFn5
import Derived.Test.YtlfhohhpeklnkaaGreatFn6
import Derived.Test.YtlfhohhpeklnkaaGreatFn7
import Derived.Test.YtlfhohhpeklnkaaGreatFn8
namespace Go.Lead
open Go
set_option linter.unusedVariables false
set_option linter.unusedSimpArgs false
set_option maxHeartbeats 1000000
structure Nd where
 v:Nat
 lo:Nat
 hi:Nat
 deriving DecidableEq,Repr
def iv (n:Nd) (ns:List Nd):Nat×List Nd:=match ns.idxOf? n with|some i=>(i+2,ns)|none=>(ns.length+2,ns++ [n])
def mkD :Nat->(Nat->Bool)->Nat->List Nd->Nat×List Nd
 |0,f,_,ns=>(if f 0 then 1 else 0,ns)
 |n+1,f,low,ns=>
  let r1:=mkD n (fun i=>f (2*i)) (low+1) ns
  let r2:=mkD n (fun i=>f (2*i+1)) (low+1) r1.2
  if r1.1=r2.1 then r2 else iv ⟨low,r1.1,r2.1⟩ r2.2
def gh (set:List Int):List Int->Int->Int×Bool
 | [],left=>(left,left==0)
 |x::r,left=>
  if set.contains x then(0,false)else
  if set.contains (-x)then gh set r left else
  if left !=0&&left !=x then(0,false)else gh set r x
def lz :List (List Int)->List Int->Bool->Option (List Int×Bool)
 | [],set,more=>some (set,more)
 |l::r,set,more=>if(gh set l 0).2 then none else if(gh set l 0).1 !=0 then lz r (set++ [(gh set l 0).1]) true else lz r set more
def ke (cls:List (List Int)) (set:List Int):Option (List Int):=
 match lz cls set false with
 |none=>none
 |some (set',more)=>if more then(if h:set.length<set'.length/\set'.length<=20 then ke cls set' else none)else some set'
termination_by 20-set.length
decreasing_by omega
def rj :List Int->List Int->Option (List Int)
 | [],set=>some set
 |x::r,set=>if set.contains (-x)then none else rj r (if set.contains x then set else set++ [x])
def jM (cls:List (List Int)) (given:List Int):Option (List Int):=(rj given []).bind (ke cls)
structure pI (v:Int) (set:List Int):Prop where
 lit: ∀x∈set,x≠0/\ -v<=x/\x<=v
 nodup:set.Nodup
 cons: ∀x∈set, -x∉set
theorem IU (v:Int):pI v []:=⟨by simp,List.nodup_nil,by simp⟩
theorem pI.add {v:Int} {set:List Int} (k:pI v set) {x:Int} (hx:x≠0/\ -v<=x/\x<=v) (h1:x∉set) (h2: -x∉set):pI v (set++ [x]):=by
 refine⟨?_,?_,?_⟩
 ·intro y hy
  rcases List.mem_append.1 hy with h|h
  ·exact k.lit y h
  ·simp only [List.mem_singleton]at h;subst h;exact hx
 ·rw [List.nodup_append]
  refine⟨k.nodup,by simp,?_⟩
  intro a ha b hb
  simp only [List.mem_singleton]at hb;subst hb
  intro e;subst e;exact h1 ha
 ·intro y hy hn
  rcases List.mem_append.1 hy with h|h<;>rcases List.mem_append.1 hn with h'|h'
  ·exact k.cons y h h'
  ·simp only [List.mem_singleton]at h';exact h2 (by rw [<-h',Int.neg_neg];exact h)
  ·simp only [List.mem_singleton]at h;subst h;exact h2 h'
  ·simp only [List.mem_singleton]at h h';subst h;omega
theorem Eh : ∀(n:Nat) (l:List Int) (a:Int),l.Nodup->(∀x∈l,a<=x/\x<a+n)->l.length<=n:=by
 intro n
 induction n with
 |zero=>
  intro l a _ h
  cases l with
  |nil=>simp
  |cons x r=>have:=h x (by simp);omega
 |succ n ih=>
  intro l a hd h
  by_cases hm:(a+n)∈l
  ·have h1:=ih (l.erase (a+n)) a (hd.erase _) (fun x hx=>by
    have hx':=List.mem_of_mem_erase hx
    have:=h x hx'
    have hne:x≠a+n:=fun e=>by
     subst e
     exact(List.Nodup.not_mem_erase hd) hx
    omega)
   rw [List.length_erase_of_mem hm]at h1
   omega
  ·have:=ih l a hd (fun x hx=>by
    have h1:=h x hx
    have hne:x≠a+n:=fun e=>hm (e▸hx)
    omega)
   omega
theorem pI.len {v:Int} {set:List Int} (k:pI v set) (hv:v<=10) (hv0:0<=v):set.length<=20:=by
 have h0:(0:Int)∉set:=fun h=>(k.lit 0 h).1 rfl
 have h1:=Eh 21 (0::set) (-10) (List.nodup_cons.2 ⟨h0,k.nodup⟩) (fun x hx=>by
  rcases List.mem_cons.1 hx with rfl|hx
  ·omega
  ·have:=k.lit x hx;omega)
 simp only [List.length_cons]at h1
 omega
theorem Qi {set:List Int} (hcons: ∀x∈set, -x∉set) (h0:(0:Int)∉set) {l:List Int} (hl: ∀x∈l,x≠0) (hne:(gh set l 0).1≠0):
  (gh set l 0).1∈l/\(gh set l 0).1∉set/\ -(gh set l 0).1∉set:=by
 have key: ∀(l:List Int) (o:Int),(∀x∈l,x≠0)->(o=0\/(o∉set/\ -o∉set))->(gh set l o).1≠0->
   ((gh set l o).1∈l\/(gh set l o).1=o)/\(gh set l o).1∉set/\ -(gh set l o).1∉set:=by
  intro l
  induction l with
  |nil=>
   intro o _ ho hne
   simp only [gh]at hne⊢
   rcases ho with h|h
   ·exact absurd h hne
   ·exact⟨by simp,h⟩
  |cons x r ih=>
   intro o hx ho hne
   have hr:=fun y hy=>hx y (List.mem_cons_of_mem _ hy)
   simp only [gh]at hne⊢
   split at hne
   ·exact absurd rfl hne
   ·rename_i h1
    rw [if_neg h1]
    split at hne
    ·rename_i h2
     rw [if_pos h2]
     have:=ih o hr ho hne
     exact⟨this.1.imp (List.mem_cons_of_mem _) id,this.2⟩
    ·rename_i h2
     rw [if_neg h2]
     split at hne
     ·exact absurd rfl hne
     ·rename_i h3
      rw [if_neg h3]
      have:=ih x hr (.inr ⟨by simpa using h1,by simpa using h2⟩) hne
      refine⟨.inl ?_,this.2⟩
      rcases this.1 with h|h
      ·exact List.mem_cons_of_mem _ h
      ·rw [h];simp
 have:=key l 0 hl (.inl rfl) hne
 refine⟨?_,this.2⟩
 rcases this.1 with h|h
 ·exact h
 ·exact absurd h hne
theorem qa {v:Int}: ∀(cls:List (List Int)) (set:List Int) (more:Bool),pI v set->(∀l∈cls,∀x∈l,x≠0/\ -v<=x/\x<=v)->
  ∀set' more',lz cls set more=some (set',more')->pI v set'/\set.length<=set'.length/\(more'=true->more=true\/set.length<set'.length):=by
 intro cls
 induction cls with
 |nil=>intro set more k _ set' more' h;simp only [lz,Option.some.injEq,Prod.mk.injEq]at h;obtain⟨rfl,rfl⟩:=h;exact⟨k,by omega, .inl⟩
 |cons l r ih=>
  intro set more k hc set' more' h
  have h0:(0:Int)∉set:=fun h=>(k.lit 0 h).1 rfl
  simp only [lz]at h
  split at h
  ·cases h
  ·split at h
   ·rename_i hne
    have hne':(gh set l 0).1≠0:=by simpa using hne
    have hl:=hc l (by simp)
    have hn:=Qi k.cons h0 (fun x hx=>(hl x hx).1) hne'
    have:=ih (set++ [(gh set l 0).1]) true (k.add (hl _ hn.1) hn.2.1 hn.2.2) (fun l' h'=>hc l' (by simp [h'])) _ _ h
    simp only [List.length_append,List.length_cons,List.length_nil]at this
    exact⟨this.1,by omega,fun _=> .inr (by omega)⟩
   ·exact ih set more k (fun l' h'=>hc l' (by simp [h'])) _ _ h
theorem AK {v:Int}: ∀(g:List Int) (set:List Int),pI v set->(∀x∈g,x≠0/\ -v<=x/\x<=v)-> ∀set',rj g set=some set'->pI v set':=by
 intro g
 induction g with
 |nil=>intro set k _ set' h;simp only [rj,Option.some.injEq]at h;subst h;exact k
 |cons x r ih=>
  intro set k hg set' h
  simp only [rj]at h
  split at h
  ·cases h
  ·rename_i h1
   refine ih _ ?_ (fun y hy=>hg y (by simp [hy])) _ h
   split
   ·exact k
   ·rename_i h2
    exact k.add (hg x (by simp)) (by simpa using h2) (by simpa using h1)
theorem MS {α:Type} {xs:List α} {p:α->Bool} {i:Nat} (hi:i<xs.length):(xs.take (i+1)).any p=((xs.take i).any p||p xs[i]):=by
 rw [List.take_succ_eq_append_getElem hi,List.any_append];simp
structure Ht (h:Hp) (t:Sl) (ts:List Sl) (xss:List (List Int)):Prop where
 len:ts.length=xss.length
 outer:SlC (h.wo (ts.flatMap Sl.used)) t 1 (ts.map Sl.v)
 inner: ∀(i:Nat) (h1:i<ts.length) (h2:i<xss.length),Own h ts[i] 1 (xss[i].map I)
theorem Ht.ints {h:Hp} {t:Sl} {ts:List Sl} {xss:List (List Int)} (e:Ht h t ts xss):IntSS h t xss:=
 ⟨ts,e.len,e.outer.mono (vU _ _),fun i h1 h2=>(e.inner i h1 h2).slc⟩
theorem Ht.mono {h h':Hp} {t:Sl} {ts:List Sl} {xss:List (List Int)} (l:h.le h') (e:Ht h t ts xss):Ht h' t ts xss:=
 ⟨e.len,e.outer.mono (rC (Hp.le_trans (vU _ _) l) fun b hb=>eQ hb),fun i h1 h2=>(e.inner i h1 h2).mono l⟩
theorem Ht.used {h:Hp} {t:Sl} {ts:List Sl} {xss:List (List Int)} (e:Ht h t ts xss): ∀b∈ts.flatMap Sl.used,h b≠none:=by
 intro b hb
 obtain⟨u,hu,hbu⟩:=List.mem_flatMap.1 hb
 obtain⟨i,hi,rfl⟩:=List.getElem_of_mem hu
 exact(e.inner i hi (by rw [<-e.len];exact hi)).used b hbu
theorem dx {h:Hp} {x a b:Int} {R:Value->Hp->Prop} (k:R (.bool (decide (a<=x/\x<=b))) h):cA #[I x,I a,I b] h R:=by
 apply Lx
 refine uf_ ?_
 refine ac (fun e=>?_) (fun e=>?_)
 ·simp at e;simpa [e] using k
 ·simp at e;rwa [decide_eq_false (by omega)]at k
theorem fv {h:Hp} {x a b:Int} {R:Value->Hp->Prop} (k:R (.bool (decide (a<=x/\x<=b))) h):dq #[I x,I a,I b] h R:=by
 apply Rl
 refine uf_ ?_
 refine ac (fun e=>?_) (fun e=>?_)
 ·simp at e;simpa [e] using k
 ·simp at e;rwa [decide_eq_false (by omega)]at k
def Fm (vars n:Int):Bool:=decide (n≠0/\ -vars<=n/\n<=vars)
def fO (vars:Int) (l:List Int):Bool:=decide (l.length<=10)&&l.all (Fm vars)
def dL (vars:Int) (c:List (List Int)):Bool:=decide (1<=vars/\vars<=10)&&(decide (c.length<=60)&&c.all (fO vars))
def GM {α:Type} (p:α->Bool) (xs:List α):Int:=match xs.findIdx? p with|some i=>i|none=> -1
theorem yh {α:Type} {p:α->Bool} {xs:List α} (e:xs.any p=false):GM p xs= -1:=by
 have:xs.findIdx? p=none:=by
  rw [List.findIdx?_eq_none_iff];intro x hx;rw [List.any_eq_false]at e;simpa using e x hx
 simp [GM,this]
theorem BO {α:Type} {p:α->Bool} {xs:List α} {i:Nat} (hi:i<xs.length) (e:(xs.take i).any p=false) (hp:p xs[i]=true):GM p xs=i:=by
 have:xs.findIdx? p=some i:=by
  rw [List.findIdx?_eq_some_iff_getElem]
  refine⟨hi,hp,fun j hj=>?_⟩
  rw [List.any_eq_false]at e
  exact e _ (by rw [List.mem_take_iff_getElem];exact⟨j,by omega,rfl⟩)
 simp [GM,this]
theorem JQ {α:Type} (p:α->Bool) (xs:List α):decide (GM p xs>=0)=xs.any p:=by
 cases h:xs.any p with
 |false=>rw [yh h];rfl
 |true=>
  unfold GM
  cases h':xs.findIdx? p with
  |some i=>simp
  |none=>rw [List.findIdx?_eq_none_iff]at h';rw [List.any_eq_true]at h;obtain⟨x,hx,hp⟩:=h;simp [h' x hx]at hp
theorem rf {h:Hp} {s:Sl} {xs:List Int} {f:FuncId} {u w:Array Value} (p:Int->Bool) {R:Value->Hp->Prop} (hs:IntS h s xs)
  (hf: ∀x∈xs,∀R:Value->Hp->Prop,R (.bool (p x)) h->ACalls PR f ((u++ #[I x])++w) h R)
  (k:R (I (GM p xs)) h):eF #[s.v, .func (.func f) u w] h R:=by
 apply qU
 refine uf_ ?_
 have hb:=hs.bound
 refine av xs.length (fun i vs h'=>vs= [s.v, .func (.func f) u w,I xs.length,I i]/\h'=h/\(xs.take i).any p=false) ⟨by rw [hs.len];rfl,rfl,by simp⟩ ?_
 rintro i _ _ next hi ⟨rfl,rfl,hp⟩ hn
 refine⟨_,_,_,_,_,_,rfl,?_⟩
 by_cases hlt:i<xs.length
 ·obtain⟨b,o,ha,hc⟩:=hs.at hlt
  refine aJ (by simp [hlt]) ?_
  simp only [vm,hs.len,ha,hc,aA (n:=i) (by omega)]
  refine⟨by omega,hf _ (List.getElem_mem hlt) _ ⟨_,rfl,ac (fun he=>?_) (fun he=>?_)⟩⟩
  ·rwa [BO hlt hp he]at k
  ·exact hn hlt _ _ ⟨rfl,rfl,by rw [MS hlt,hp,he];rfl⟩
 ·have:i=xs.length:=by omega
  subst this
  rw [List.take_length]at hp
  refine aD (by simp) ?_
  rwa [yh hp]at k
theorem oh {h:Hp} {s:Sl} {xs:List Int} {f:FuncId} {u w:Array Value} (p:Int->Bool) {R:Value->Hp->Prop} (hs:IntS h s xs)
  (hf: ∀x∈xs,∀R:Value->Hp->Prop,R (.bool (p x)) h->ACalls PR f ((u++ #[I x])++w) h R)
  (k:R (.bool (xs.any p)) h):dT #[s.v, .func (.func f) u w] h R:=by
 apply oJ
 refine uf_ ?_
 exact rf p hs hf ⟨_,rfl,by rwa [JQ]⟩
def qD (h:Hp) (s:Sl) (xs:List Bool):Prop:=SlC h s 1 (xs.map Value.bool)
theorem qD.mono {h h':Hp} {s:Sl} {xs:List Bool} (l:h.le h') (e:qD h s xs):qD h' s xs:=SlC.mono l e
theorem qD.len {h:Hp} {s:Sl} {xs:List Bool} (e:qD h s xs):s.n=xs.length:=by have:=e.2.1;simp at this;omega
theorem qD.bound {h:Hp} {s:Sl} {xs:List Bool} (e:qD h s xs):xs.length<=9223372036854775807:=by rw [<-e.len];exact e.1
theorem qD.at {h:Hp} {s:Sl} {xs:List Bool} (e:qD h s xs) {i:Nat} (hi:i<xs.length):
  ∃b o,s.a=some (Addr.mk b o none)/\Hp.cell h b (o+i)=some (.bool xs[i]):=by
 have hl:=e.len
 obtain⟨b,o,ha,hc⟩:=SlC.get e (by omega)
 exact⟨b,o,ha,hc i _ (by simp [hi])⟩
theorem iM {h:Hp} {c n:Nat} {R:Value->Hp->Prop} (hn:n<=64) (k:R (I (if c.testBit n then 1 else 0)) h):dV #[I c,I n] h R:=by
 apply Ka
 refine uf_ ?_
 rw [cl (by omega),if_neg (by omega),kr hn,Fz,Yn]
 split<;>simp_all
theorem Fm.iff {v n:Int}:Fm v n=true↔n≠0/\ -v<=n/\n<=v:=by simp [Fm]
theorem fO.lit {v:Int} {l:List Int} (e:fO v l=true) {n:Int} (hn:n∈l):Fm v n=true:=by
 simp only [fO,Bool.and_eq_true,List.all_eq_true]at e;exact e.2 n hn
theorem fO.len {v:Int} {l:List Int} (e:fO v l=true):l.length<=10:=by
 simp only [fO,Bool.and_eq_true,decide_eq_true_eq]at e;exact e.1
theorem dL.iff {v:Int} {c:List (List Int)}:dL v c=true↔(1<=v/\v<=10)/\c.length<=60/\ ∀l∈c,fO v l=true:=by
 simp [dL,List.all_eq_true]
theorem Rt (xs:List Int):(xs.map I).all (·.oneCell')=true:=by
 rw [List.all_eq_true]
 intro v hv
 obtain⟨x,_,rfl⟩:=List.mem_map.1 hv
 rfl
theorem IntS.slc {h:Hp} {s:Sl} {xs:List Int} (e:IntS h s xs):SlC h s 1 (xs.map I):=e
theorem nD {h:Hp} {s:Sl} {xs:List Int} {R:Value->Hp->Prop} (hs:IntS h s xs) (hl:xs.length<=1048576)
  (k: ∀t h',h.le h'->Buf (h'.sub h) t 1 (xs.map I)->R (Sl.v t) h'):gD #[s.v] h R:=by
 apply CP
 refine uf_ ?_
 have:=hs.len
 exact I1 hs (by omega) (Rt _) fun t h' hn hle hb=>k t h' hle hb
theorem MC (l:List UInt8): ∀(k i:Nat) (r:List UInt8),i+k=l.length->ByteArray.toList.loop ⟨l.toArray⟩ i r=r.reverse++l.drop i:=by
 intro k
 induction k with
 |zero=>
  intro i r hi
  unfold ByteArray.toList.loop
  rw [if_neg (by simp [ByteArray.size];omega),List.drop_eq_nil_of_le (by omega),List.append_nil]
 |succ k ih=>
  intro i r hi
  unfold ByteArray.toList.loop
  rw [if_pos (by simp [ByteArray.size];omega),ih (i+1) _ (by omega),List.drop_eq_getElem_cons (i:=i) (by omega)]
  simp [ByteArray.get!,show i<l.length by omega]
theorem kV (l:List UInt8):(⟨l.toArray⟩:ByteArray).toList=l:=by
 unfold ByteArray.toList
 rw [MC l l.length 0 [] (by omega)];rfl
def dt (n:Nat) (f:Nat->Bool):List Value:=(List.range (2^n)).map fun i=>Value.int .u8 (if f i then 1 else 0)
def cT (n:Nat) (f:Nat->Bool):List UInt8:=(List.range (2^n)).map fun i=>if f i then 1 else 0
theorem HM (n:Nat) (f:Nat->Bool):fe (cT n f)=dt n f:=by
 unfold fe cT dt
 rw [List.map_map]
 apply List.map_congr_left
 intro i _
 simp only [Function.comp]
 cases f i<;>rfl
def z8 (h:Hp) (t:Sl) (n:Nat) (f:Nat->Bool):Prop:=SlC h t 1 (dt n f)
theorem z8.mono {h h':Hp} {t:Sl} {n:Nat} {f:Nat->Bool} (l:h.le h') (e:z8 h t n f):z8 h' t n f:=SlC.mono l e
theorem z8.len {h:Hp} {t:Sl} {n:Nat} {f:Nat->Bool} (e:z8 h t n f):t.n=2^n:=by have:=e.2.1;simp [dt]at this;omega
theorem z8.at {h:Hp} {t:Sl} {n:Nat} {f:Nat->Bool} (e:z8 h t n f) {i:Nat} (hi:i<2^n):
  ∃b o,t.a=some (Addr.mk b o none)/\Hp.cell h b (o+i)=some (.int .u8 (if f i then 1 else 0)):=by
 have hl:=e.len
 obtain⟨b,o,ha,hc⟩:=SlC.get e (by omega)
 exact⟨b,o,ha,hc i _ (by simp [dt,hi])⟩
theorem z8.all {h:Hp} {t:Sl} {n:Nat} {f:Nat->Bool} (e:z8 h t n f):nw h t.a t.n (fe (cT n f)):=by
 rw [HM]
 exact⟨by rw [e.2.1,Nat.mul_one],e.2.2⟩
theorem xL {h:Hp} {c:Bool} {R:Value->Hp->Prop} (k:R (I (if c then 1 else 0)) h):mz #[.bool c] h R:=by
 apply OD
 refine uf_ ?_
 cases c<;>exact k
def DY (h:Hp) (fid:FuncId) (u w:Array Value) (n:Nat) (f:Nat->Bool):Prop:=
 ∀(i:Nat),i<n-> ∀(h':Hp),h.le h'-> ∀R:Value->Hp->Prop,R (.bool (f i)) h'->ACalls PR fid ((u++ #[I i])++w) h' R
def bK (ns:List Nd):List Value:=ns.flatMap fun n=> [I n.v,I n.lo,I n.hi]
def G7 (n:Nd):Value:= .agg #[I n.v,I n.lo,I n.hi]
structure BI (h:Hp) (B rs rn:Nat) (vars:Nat) (s:Sl) (ns:List Nd) (es:List (ByteArray×Nat)):Prop where
 row:h B=some (.inl ⟨[I vars,s.v,I 0, .map (some rs), .map (some rn)],5,false⟩)
 buf:Buf h s 3 (bK ns)
 seen:h rs=some (.inr (es.map fun e=>(.string e.1,I e.2)))
 nodes:h rn=some (.inr (ns.zipIdx.map fun e=>(G7 e.1,I (e.2+2:Nat))))
 far:rs≠rn
 own: ∀a,s.a=some a->a.block≠B
 true: ∀e∈es,∃n f low,low+n=vars/\e.1=⟨(cT n f).toArray⟩/\mkD n f low ns=(e.2,ns)
theorem BI.mono {h h':Hp} {B rs rn vars:Nat} {s:Sl} {ns:List Nd} {es:List (ByteArray×Nat)} (l:h.le h') (e:BI h B rs rn vars s ns es):BI h' B rs rn vars s ns es:=
 ⟨l _ _ e.row,e.buf.mono l,l _ _ e.seen,l _ _ e.nodes,e.far,e.own,e.true⟩
theorem mM (ns:List Nd):(bK ns).length=ns.length*3:=by
 induction ns with
 |nil=>rfl
 |cons n ns ih=>simp only [bK,List.flatMap_cons,List.length_append,List.length_cons,List.length_nil]at ih⊢;omega
structure Bd where
 v:Int
 ns:List Nd
 r:Int
 ok:Bool
def iW :Bd:=⟨0, [],0,false⟩
def tP (h:Hp) (s:Sl) (xs:List Int):Prop:=Buf h s 1 (xs.map I)
theorem tP.len {h:Hp} {s:Sl} {xs:List Int} (e:tP h s xs):s.n=xs.length:=by have:=e.1;simp at this;omega
theorem tP.ints {h:Hp} {s:Sl} {xs:List Int} (e:tP h s xs) (hn:xs.length<=1048576):IntS h s xs:=Buf.slc e (by rw [e.len];omega)
theorem tP.mono {h h':Hp} {s:Sl} {xs:List Int} (l:h.le h') (e:tP h s xs):tP h' s xs:=Buf.mono l e
theorem MY {h:Hp} {s:Sl} {xs:List Int} {x:Int} {b:Nat} {K:Option Addr->Nat->Nat->Hp->Prop} (hb:tP h s xs) (hl:xs.length<=1048576) (hc:Hp.cell h b 0=some (I x))
  (k: ∀(s':Sl) (h':Hp),tP h' s' (xs++ [x])->(h.offS s).le (h'.offS s')->K s'.a s'.n s'.c h'):ck h s.a s.n s.c (some ⟨b,0,none⟩) 1 1 8 K:=by
 refine dm hb (by omega) (by rw [hb.len];omega) (by rw [hb.len];omega) ⟨b,0,rfl,fun i v hi=>?_⟩ (news:= [I x]) rfl rfl ?_
 ·cases i with
  |zero=>simp at hi;subst hi;exact hc
  |succ i=>simp at hi
 ·intro s' h' hn hbuf hle _
  exact k s' h' (by unfold tP;rw [List.map_append];exact hbuf) hle
structure fP (h h':Hp) (t:Sl) (set:List Int):Prop where
 buf:tP h' t set
 le:h.le (h'.offS t)
theorem fP.keep {h h':Hp} {t:Sl} {set:List Int} (e:fP h h' t set):h.le h':=Hp.le_trans e.le (bk _ _)
theorem fP.app {h h':Hp} {t:Sl} {set:List Int} {x:Int} {b:Nat} {K:Option Addr->Nat->Nat->Hp->Prop} (e:fP h h' t set) (hl:set.length<=1048576) (hb:h' b=none)
  (k: ∀(t':Sl) (h'':Hp),fP h h'' t' (set++ [x])->K t'.a t'.n t'.c h''):ck (h'.row b [I x] 1) t.a t.n t.c (some ⟨b,0,none⟩) 1 1 8 K:=by
 have l:=eM [I x] 1 hb
 refine MY (e.buf.mono l) hl (pR _ _ _ _ _) fun t' h'' hb' hl'=>k t' h'' ⟨hb',Hp.le_trans (Hp.le_trans e.le (bM t l)) hl'⟩
theorem fP.own {h h':Hp} {t:Sl} {set:List Int} (e:fP h h' t set) (hl:set.length<=1048576):Own (h'.sub h) t 1 (set.map I):=by
 have hn:=e.buf.len
 refine⟨e.buf.1,by omega,?_⟩
 rcases e.buf.2.2 with ⟨_,h0,_⟩|⟨b,ha,hb⟩
 ·exact .inl h0
 ·refine .inr ⟨b,t.c*1,ha,?_⟩
  rw [lk]
  ·exact hb
  ·refine aF e.le ?_
   simp [Hp.offS,ha,Hp.off,Hp.set]
theorem fO.all {v:Int} {l:List Int} (e:fO v l=true): ∀x∈l,x≠0/\ -v<=x/\x<=v:=fun x hx=>Fm.iff.1 (fO.lit e hx)
def AW (set:List Int):List (Value×Value):=set.map fun x=>(I x, .bool true)
theorem Rv (set:List Int) (n:Int): ∃res,fB (Instr.sameNow (.int .i64) (I n)) (AW set) 0=some res/\Option.getD (Option.map (fun p=>p.2) res) (.bool false)= .bool (set.contains n)/\
  uL (AW set) (I n) (.bool true) res=AW (if set.contains n then set else set++ [n]):=by
 unfold AW
 rcases qb (Instr.sameNow (.int .i64) (I n)) (fun x:Int=>I x) (fun _=> .bool true) (fun x=>n==x) set 0 (fun x _=>Lv _ _ _)with ⟨hno,hm⟩|⟨j,hj,hyes,_,hm⟩
 ·have hc:set.contains n=false:=by
   rw [Bool.eq_false_iff];intro h
   have:=hno n (by simpa using h)
   simp at this
  exact⟨_,hm,by rw [hc];rfl,by rw [hc];simp [uL]⟩
 ·have he:n=set[j]:=by simpa using hyes
  have hc:set.contains n=true:=by
   rw [he];simp
  refine⟨_,hm,by rw [hc];rfl,?_⟩
  rw [hc,if_pos rfl]
  simp only [uL,Nat.zero_add]
  apply List.ext_getElem
  ·simp
  ·intro i h1 h2
   rw [List.getElem_set]
   split
   ·rename_i hij;subst hij;simp [he]
   ·rfl
structure du (h h':Hp) (t:Sl) (xss:List (List Int)):Prop where
 buf: ∃ts:List Sl,Buf h' t 1 (ts.map Sl.v)/\ts.length=xss.length/\ ∀(i:Nat) (h1:i<ts.length) (h2:i<xss.length),IntS h ts[i] xss[i]
 le:h.le (h'.offS t)
theorem du.keep {h h':Hp} {t:Sl} {xss:List (List Int)} (e:du h h' t xss):h.le h':=Hp.le_trans e.le (bk _ _)
theorem du.ints {h h':Hp} {t:Sl} {xss:List (List Int)} (e:du h h' t xss) (hl:xss.length<=1048576):IntSS h' t xss:=by
 obtain⟨ts,hb,h1,h2⟩:=e.buf
 have hn:t.n=xss.length:=by have:=hb.1;simp at this;omega
 exact⟨ts,h1,hb.slc (by omega),fun i a b=>(h2 i a b).mono e.keep⟩
theorem du.app {h h':Hp} {t u:Sl} {xss:List (List Int)} {x:List Int} {b:Nat} {K:Option Addr->Nat->Nat->Hp->Prop} (e:du h h' t xss) (hl:xss.length<=1048576) (hu:IntS h u x) (hb:h' b=none)
  (k: ∀(t':Sl) (h'':Hp),du h h'' t' (xss++ [x])->K t'.a t'.n t'.c h''):ck (h'.row b [u.v] 1) t.a t.n t.c (some ⟨b,0,none⟩) 1 1 24 K:=by
 have l:=eM [u.v] 1 hb
 obtain⟨ts,hbuf,h1,h2⟩:=e.buf
 have hn:t.n=xss.length:=by have:=hbuf.1;simp at this;omega
 refine dm (hbuf.mono l) (by omega) (by omega) (by omega) ⟨b,0,rfl,fun i v hi=>?_⟩ (news:= [u.v]) rfl rfl ?_
 ·cases i with
  |zero=>simp at hi;subst hi;exact pR _ _ _ _ _
  |succ i=>simp at hi
 ·intro t' h'' hn' hb' hle _
  refine k t' h'' ⟨⟨ts++ [u],by rw [List.map_append];exact hb',by simp [h1],?_⟩,Hp.le_trans (Hp.le_trans e.le (bM t l)) hle⟩
  intro i a c
  by_cases hi:i<ts.length
  ·rw [List.getElem_append_left hi,List.getElem_append_left (by omega)];exact h2 i hi (by omega)
  ·have:i=ts.length:=by simp at a;omega
   subst this
   simp only [List.getElem_append_right (Nat.le_refl _),Nat.sub_self,List.getElem_cons_zero]
   simp only [h1,List.getElem_append_right (Nat.le_refl _),Nat.sub_self,List.getElem_cons_zero]
   exact hu
def uE (S:List Int) (l:List Int):Prop:=
 (∃x∈l,x∈S)\/ ∃x∈l,∃y∈l,x≠y/\(x∉S/\ -x∉S)/\(y∉S/\ -y∉S)
def N5 (S:List Int):Prop:= ∀x∈S, -x∉S
def WfL (v:Int) (l:List Int):Prop:= ∀x∈l,x≠0/\ -v<=x/\x<=v
def WfC (v:Int) (c:List (List Int)):Prop:= ∀l∈c,WfL v l
theorem DF (set:List Int): ∀(l:List Int) (left:Int),(∀x∈l,x≠0)->(left≠0->left∉set/\ -left∉set)->
  (gh set l left=(0,false)/\((∃x∈l,x∈set)\/ ∃x∈l,∃y∈left::l,y≠0/\x≠y/\(x∉set/\ -x∉set)/\(y∉set/\ -y∉set)))\/
  ((gh set l left).2=((gh set l left).1==0)/\(left≠0->(gh set l left).1=left)/\ ∀x∈l,x=(gh set l left).1\/ -x∈set):=by
 intro l
 induction l with
 |nil=>intro left _ _;exact .inr ⟨rfl,fun _=>rfl,by simp⟩
 |cons x r ih=>
  intro left hx ho
  have hr:=fun y hy=>hx y (List.mem_cons_of_mem _ hy)
  have hx0:=hx x (by simp)
  simp only [gh]
  by_cases h1:set.contains x=true
  ·rw [if_pos h1];exact .inl ⟨rfl, .inl ⟨x,by simp,by simpa using h1⟩⟩
  rw [if_neg h1]
  by_cases h2:set.contains (-x)=true
  ·rw [if_pos h2]
   rcases ih left hr ho with ⟨e,h⟩|⟨e,h,h'⟩
   ·refine .inl ⟨e,?_⟩
    rcases h with ⟨z,hz,hs⟩|⟨z,hz,y,hy,h⟩
    ·exact .inl ⟨z,by simp [hz],hs⟩
    ·refine .inr ⟨z,by simp [hz],y,?_,h⟩
     rcases List.mem_cons.1 hy with rfl|hy
     ·simp
     ·simp [hy]
   ·refine .inr ⟨e,h,?_⟩
    intro z hz
    rcases List.mem_cons.1 hz with rfl|hz
    ·exact .inr (by simpa using h2)
    ·exact h' z hz
  rw [if_neg h2]
  have hxo:x∉set/\ -x∉set:=⟨by simpa using h1,by simpa using h2⟩
  by_cases h3:(left !=0&&left !=x)=true
  ·rw [if_pos h3]
   simp at h3
   exact .inl ⟨rfl, .inr ⟨x,by simp,left,by simp,h3.1,fun e=>h3.2 e.symm,hxo,ho h3.1⟩⟩
  rw [if_neg h3]
  have hl:left≠0->left=x:=by simpa using h3
  rcases ih x hr (fun _=>hxo)with ⟨e,h⟩|⟨e,h,h'⟩
  ·refine .inl ⟨e,?_⟩
   rcases h with ⟨z,hz,hs⟩|⟨z,hz,y,hy,h⟩
   ·exact .inl ⟨z,by simp [hz],hs⟩
   ·exact .inr ⟨z,by simp [hz],y,List.mem_cons_of_mem _ hy,h⟩
  ·refine .inr ⟨e,fun h0=>?_,?_⟩
   ·rw [h hx0,hl h0]
   ·intro z hz
    rcases List.mem_cons.1 hz with rfl|hz
    ·exact .inl (h hx0).symm
    ·exact h' z hz
theorem RF {set S l:List Int} (hs:set⊆S) (hc:N5 S) (hl: ∀x∈l,x≠0) (st:uE S l):
  (gh set l 0).2=false/\((gh set l 0).1≠0->(gh set l 0).1∈S):=by
 rcases DF set l 0 hl (fun h=>absurd rfl h)with ⟨e,_⟩|⟨e,_,h⟩
 ·rw [e];exact⟨rfl,fun h=>absurd rfl h⟩
 ·obtain⟨x,hx,hn,hS⟩: ∃x∈l,x=(gh set l 0).1/\x∈S:=by
   rcases st with ⟨x,hx,hS⟩|⟨x,hx,y,hy,hne,hxo,hyo⟩
   ·rcases h x hx with h1|h1
    ·exact⟨x,hx,h1,hS⟩
    ·exact absurd (hs h1) (hc x hS)
   ·rcases h x hx with h1|h1
    ·rcases h y hy with h2|h2
     ·exact absurd (h1.trans h2.symm) hne
     ·exact absurd (hs h2) hyo.2
    ·exact absurd (hs h1) hxo.2
  rw [e,<-hn]
  exact⟨by simpa using hl x hx,fun _=>hS⟩
theorem Kq {set l:List Int} (hl: ∀x∈l,x≠0) (h1:(gh set l 0).2=false) (h2:(gh set l 0).1=0):uE set l:=by
 rcases DF set l 0 hl (fun h=>absurd rfl h)with ⟨e,h⟩|⟨e,_,h⟩
 ·refine h.imp id ?_
  rintro ⟨x,hx,y,hy,hy0,h⟩
  rcases List.mem_cons.1 hy with rfl|hy
  ·exact absurd rfl hy0
  ·exact⟨x,hx,y,hy,h⟩
 ·rw [h1,h2]at e;simp at e
theorem Jb {S:List Int} (hc:N5 S): ∀(cls:List (List Int)) (set:List Int) (more:Bool),set⊆S->(∀l∈cls,(∀x∈l,x≠0)/\uE S l)->
  ∃set' more',lz cls set more=some (set',more')/\set'⊆S:=by
 intro cls
 induction cls with
 |nil=>intro set more hs _;exact⟨set,more,rfl,hs⟩
 |cons l r ih=>
  intro set more hs hl
  have h:=RF hs hc (hl l (by simp)).1 (hl l (by simp)).2
  have hr:=fun l' h'=>hl l' (List.mem_cons_of_mem _ h')
  simp only [lz,h.1,Bool.false_eq_true,if_false]
  split
  ·rename_i hne
   refine ih _ _ ?_ hr
   intro x hx
   rcases List.mem_append.1 hx with hx|hx
   ·exact hs hx
   ·simp only [List.mem_singleton]at hx;subst hx;exact h.2 (by simpa using hne)
  ·exact ih _ _ hs hr
theorem Ly : ∀(cls:List (List Int)) (set:List Int) (more:Bool) (set':List Int) (more':Bool),lz cls set more=some (set',more')->set⊆set':=by
 intro cls
 induction cls with
 |nil=>intro set more set' more' h;simp only [lz,Option.some.injEq,Prod.mk.injEq]at h;rw [h.1];exact fun x hx=>hx
 |cons l r ih=>
  intro set more set' more' h
  simp only [lz]at h
  split at h
  ·cases h
  ·split at h
   ·exact fun x hx=>ih _ _ _ _ h (List.mem_append_left _ hx)
   ·exact ih _ _ _ _ h
theorem AD : ∀(cls:List (List Int)) (set:List Int) (more:Bool) (set':List Int),(∀l∈cls,∀x∈l,x≠0)->lz cls set more=some (set',false)->
  more=false/\set'=set/\ ∀l∈cls,uE set l:=by
 intro cls
 induction cls with
 |nil=>intro set more set' _ h;simp only [lz,Option.some.injEq,Prod.mk.injEq]at h;exact⟨h.2,h.1.symm,by simp⟩
 |cons l r ih=>
  intro set more set' hl h
  have hr:=fun l' h'=>hl l' (List.mem_cons_of_mem _ h')
  simp only [lz]at h
  split at h
  ·cases h
  ·rename_i h1
   split at h
   ·have:=(ih _ _ _ hr h).1;cases this
   ·rename_i h2
    obtain⟨e1,e2,e3⟩:=ih _ _ _ hr h
    refine⟨e1,e2,?_⟩
    intro l' h'
    rcases List.mem_cons.1 h' with rfl|h'
    ·exact Kq (hl _ (by simp)) (by simpa using h1) (by simpa using h2)
    ·exact e3 l' h'
theorem uM {cls:List (List Int)} {set:List Int} {v:Int} (hv0:0<=v) (hv:v<=10) (hc:WfC v cls) (k:pI v set):
  ke cls set=match lz cls set false with|none=>none|some (set',more)=>if more then ke cls set' else some set':=by
 rw [ke]
 cases hp:lz cls set false with
 |none=>rfl
 |some p=>
  obtain⟨set',more⟩:=p
  obtain⟨k',hl,hm⟩:=qa cls set false k hc _ _ hp
  cases more with
  |false=>rfl
  |true=>
   have h1:set.length<set'.length:=by
    rcases hm rfl with h|h
    ·cases h
    ·exact h
   have h2:=k'.len hv hv0
   simp [h1,h2]
theorem Lh {S:List Int} (hS:N5 S) {cls:List (List Int)} {v:Int} (hv0:0<=v) (hv:v<=10) (hc:WfC v cls) (hst: ∀l∈cls,uE S l):
  ∀(n:Nat) (set:List Int),20-set.length<=n->pI v set->set⊆S-> ∃set',ke cls set=some set'/\set'⊆S:=by
 intro n
 induction n with
 |zero=>
  intro set hn k hs
  obtain⟨set',more',hp,hs'⟩:=Jb hS cls set false hs (fun l h=>⟨fun x hx=>(hc l h x hx).1,hst l h⟩)
  obtain⟨k',hl,hm⟩:=qa cls set false k hc _ _ hp
  have h2:=k'.len hv hv0
  rw [uM hv0 hv hc k,hp]
  cases more' with
  |false=>exact⟨set',rfl,hs'⟩
  |true=>
   rcases hm rfl with h|h
   ·cases h
   ·omega
 |succ n ih=>
  intro set hn k hs
  obtain⟨set',more',hp,hs'⟩:=Jb hS cls set false hs (fun l h=>⟨fun x hx=>(hc l h x hx).1,hst l h⟩)
  obtain⟨k',hl,hm⟩:=qa cls set false k hc _ _ hp
  rw [uM hv0 hv hc k,hp]
  cases more' with
  |false=>exact⟨set',rfl,hs'⟩
  |true=>
   rcases hm rfl with h|h
   ·cases h
   ·exact ih set' (by omega) k' hs'
theorem Ge {cls:List (List Int)} {v:Int} (hv0:0<=v) (hv:v<=10) (hc:WfC v cls):
  ∀(n:Nat) (set set':List Int),20-set.length<=n->pI v set->ke cls set=some set'->set⊆set'/\pI v set'/\ ∀l∈cls,uE set' l:=by
 intro n
 induction n with
 |zero=>
  intro set set' hn k h
  rw [uM hv0 hv hc k]at h
  cases hp:lz cls set false with
  |none=>rw [hp]at h;cases h
  |some p=>
   obtain⟨s,more⟩:=p
   rw [hp]at h
   obtain⟨k',hl,hm⟩:=qa cls set false k hc _ _ hp
   have h2:=k'.len hv hv0
   cases more with
   |true=>
    rcases hm rfl with h|h
    ·cases h
    ·omega
   |false=>
    simp only [Bool.false_eq_true,if_false,Option.some.injEq]at h
    subst h
    have:=AD cls set false s (fun l h x hx=>(hc l h x hx).1) hp
    rw [this.2.1]
    exact⟨fun x hx=>hx,k,this.2.2⟩
 |succ n ih=>
  intro set set' hn k h
  rw [uM hv0 hv hc k]at h
  cases hp:lz cls set false with
  |none=>rw [hp]at h;cases h
  |some p=>
   obtain⟨s,more⟩:=p
   rw [hp]at h
   obtain⟨k',hl,hm⟩:=qa cls set false k hc _ _ hp
   cases more with
   |true=>
    rcases hm rfl with h'|h'
    ·cases h'
    ·simp only [if_true]at h
     obtain⟨a,b,c⟩:=ih s set' (by omega) k' h
     exact⟨fun x hx=>a (Ly _ _ _ _ _ hp hx),b,c⟩
   |false=>
    simp only [Bool.false_eq_true,if_false,Option.some.injEq]at h
    subst h
    have:=AD cls set false s (fun l h x hx=>(hc l h x hx).1) hp
    rw [this.2.1]
    exact⟨fun x hx=>hx,k,this.2.2⟩
theorem ND {S:List Int} (hS:N5 S): ∀(g set:List Int),g⊆S->set⊆S-> ∃set',rj g set=some set'/\set'⊆S:=by
 intro g
 induction g with
 |nil=>intro set _ hs;exact⟨set,rfl,hs⟩
 |cons x r ih=>
  intro set hg hs
  have hx:x∈S:=hg (by simp)
  have hr:r⊆S:=fun y hy=>hg (List.mem_cons_of_mem _ hy)
  have hn: ¬set.contains (-x)=true:=fun h=>hS x hx (hs (by simpa using h))
  simp only [rj,if_neg hn]
  refine ih _ hr ?_
  split
  ·exact hs
  ·intro y hy
   rcases List.mem_append.1 hy with hy|hy
   ·exact hs hy
   ·simp only [List.mem_singleton]at hy;subst hy;exact hx
theorem OS : ∀(g set set':List Int),rj g set=some set'->set⊆set'/\g⊆set':=by
 intro g
 induction g with
 |nil=>intro set set' h;simp only [rj,Option.some.injEq]at h;subst h;exact⟨fun x hx=>hx,by simp⟩
 |cons x r ih=>
  intro set set' h
  simp only [rj]at h
  split at h
  ·cases h
  ·obtain⟨h1,h2⟩:=ih _ _ h
   split at h1
   ·rename_i hx
    refine⟨h1,?_⟩
    intro y hy
    rcases List.mem_cons.1 hy with rfl|hy
    ·exact h1 (by simpa using hx)
    ·exact h2 hy
   ·refine⟨fun y hy=>h1 (List.mem_append_left _ hy),?_⟩
    intro y hy
    rcases List.mem_cons.1 hy with rfl|hy
    ·exact h1 (by simp)
    ·exact h2 hy
section
variable {cls :List (List Int)} {given:List Int} {v:Int}
theorem JA (hv0:0<=v) (hv:v<=10) (hc:WfC v cls) (hg:WfL v given) {S:List Int} (hS:N5 S) (hgS:given⊆S) (hst: ∀l∈cls,uE S l):
  ∃set,jM cls given=some set/\set⊆S:=by
 obtain⟨s,h1,h2⟩:=ND hS given [] hgS (by simp)
 obtain⟨s',h3,h4⟩:=Lh hS hv0 hv hc hst _ s (Nat.le_refl _) (AK given [] (IU v) hg s h1) h2
 exact⟨s',by rw [jM,h1];exact h3,h4⟩
theorem uB (hv0:0<=v) (hv:v<=10) (hc:WfC v cls) (hg:WfL v given) {set:List Int} (h:jM cls given=some set):
  N5 set/\given⊆set/\(∀l∈cls,uE set l)/\pI v set:=by
 rw [jM]at h
 cases h1:rj given []with
 |none=>rw [h1]at h;cases h
 |some s=>
  rw [h1]at h
  have k:=AK given [] (IU v) hg s h1
  obtain⟨a,b,c⟩:=Ge hv0 hv hc _ s set (Nat.le_refl _) k h
  exact⟨b.cons,fun x hx=>a ((OS _ _ _ h1).2 hx),c,b⟩
theorem Ai (hv0:0<=v) (hv:v<=10) {cls':List (List Int)} {given':List Int} (hc:WfC v cls') (hg:WfL v given') (h1:cls⊆cls') (h2:given⊆given')
  (h:jM cls given=none):jM cls' given'=none:=by
 cases h':jM cls' given' with
 |none=>rfl
 |some set=>
  obtain⟨a,b,c,_⟩:=uB hv0 hv hc hg h'
  obtain⟨s,hs,_⟩:=JA hv0 hv (fun l hl=>hc l (h1 hl)) (fun x hx=>hg x (h2 hx)) a (fun x hx=>b (h2 hx)) (fun l hl=>c l (h1 hl))
  rw [hs]at h;cases h
end
def gY (cls:List (List Int)) (p:List (List Int)):Prop:= ∀(i:Nat) (h:i<p.length),jM (cls++p.take i) (p[i].map (- ·))=none
theorem EX {v:Int} {l:List Int} (h:WfL v l):WfL v (l.map (- ·)):=by
 intro x hx
 obtain⟨y,hy,rfl⟩:=List.mem_map.1 hx
 have:=h y hy
 omega
theorem uT {v:Int} {a b:List (List Int)} (ha:WfC v a) (hb:WfC v b):WfC v (a++b):=by
 intro l hl
 rcases List.mem_append.1 hl with h|h
 ·exact ha l h
 ·exact hb l h
theorem ML {v:Int} {a:List (List Int)} (ha:WfC v a) (n:Nat):WfC v (a.take n):=fun l hl=>ha l (List.mem_of_mem_take hl)
theorem gY.mono {v:Int} (hv0:0<=v) (hv:v<=10) {cls cls' p:List (List Int)} (hc:WfC v cls') (hp:WfC v p) (hs:cls⊆cls') (h:gY cls p):gY cls' p:=by
 intro i hi
 refine Ai hv0 hv (uT hc (ML hp i)) (EX (hp _ (List.getElem_mem hi))) ?_ (fun x hx=>hx) (h i hi)
 intro l hl
 rcases List.mem_append.1 hl with h|h
 ·exact List.mem_append_left _ (hs h)
 ·exact List.mem_append_right _ h
theorem gY.snoc {cls p:List (List Int)} {l:List Int} (h:gY cls p) (hl:jM (cls++p) (l.map (- ·))=none):gY cls (p++ [l]):=by
 intro i hi
 by_cases hlt:i<p.length
 ·rw [List.getElem_append_left hlt,List.take_append_of_le_length (by omega)]
  exact h i hlt
 ·have:i=p.length:=by simp at hi;omega
  subst this
  simp only [List.getElem_append_right (Nat.le_refl _),Nat.sub_self,List.getElem_cons_zero]
  rw [List.take_left' rfl];exact hl
def vw (B:List Int):Prop:= ∀(i:Nat) (h:i<B.length),B[i]=(i:Int)+1\/B[i]= -((i:Int)+1)
theorem vw.snoc {B:List Int} (h:vw B) {x:Int} (hx:x=(B.length:Int)+1\/x= -((B.length:Int)+1)):vw (B++ [x]):=by
 intro i hi
 by_cases hlt:i<B.length
 ·rw [List.getElem_append_left hlt];exact h i hlt
 ·have:i=B.length:=by simp at hi;omega
  subst this
  simp only [List.getElem_append_right (Nat.le_refl _),Nat.sub_self,List.getElem_cons_zero]
  exact hx
def cQ :Nat->(Nat->Bool)->Nat
 |0,_=>0
 |n+1,f=>cQ n f+(if f n then 2^n else 0)
theorem rb (n:Nat) (f:Nat->Bool):cQ n f<2^n:=by
 induction n with
 |zero=>simp [cQ]
 |succ n ih=>simp only [cQ,Nat.pow_succ];split<;>omega
theorem rJ (n:Nat) (f:Nat->Bool): ∀i,i<n->(cQ n f).testBit i=f i:=by
 induction n with
 |zero=>intro i h;omega
 |succ n ih=>
  intro i hi
  have hl:=rb n f
  simp only [cQ]
  by_cases h:i=n
  ·subst h
   cases hf:f i with
   |true=>rw [if_pos rfl,Nat.add_comm,Nat.testBit_two_pow_add_eq,Nat.testBit_lt_two_pow hl];rfl
   |false=>simp [Nat.testBit_lt_two_pow hl]
  ·cases hf:f n with
   |true=>rw [if_pos rfl,Nat.add_comm,Nat.testBit_two_pow_add_gt (by omega)];exact ih i (by omega)
   |false=>simp only [Bool.false_eq_true,if_false,Nat.add_zero];exact ih i (by omega)
structure MI (h:Hp) (K:Nat) (vars:Nat) (tb s:Sl) (ns:List Nd):Prop where
 row:h K=some (.inl ⟨[I vars,tb.v,s.v],3,false⟩)
 buf:Buf h s 3 (bK ns)
 own: ∀a,s.a=some a->a.block≠K
theorem MI.mono {h h':Hp} {K vars:Nat} {tb s:Sl} {ns:List Nd} (l:h.le h') (e:MI h K vars tb s ns):MI h' K vars tb s ns:=⟨l _ _ e.row,e.buf.mono l,e.own⟩
theorem MI.len {h:Hp} {K vars:Nat} {tb s:Sl} {ns:List Nd} (e:MI h K vars tb s ns):s.n=ns.length:=by
 have:=e.buf.1;rw [mM]at this;omega
def cY (h:Hp) (t:Sl) (n:Nat) (T:Nat->Bool):Prop:=qD h t ((List.range n).map T)
theorem cY.mono {h h':Hp} {t:Sl} {n:Nat} {T:Nat->Bool} (l:h.le h') (e:cY h t n T):cY h' t n T:=qD.mono l e
theorem pa {h:Hp} {c:Bool} {R:Value->Hp->Prop} (k:R (I (if c then 1 else 0)) h):gv #[.bool c] h R:=by
 apply AQ
 refine uf_ ?_
 cases c<;>exact k
def jv (n:Nat) (x:Int):Bool:=decide (0<=x/\x<=((2^n:Nat):Int)-1)
structure eK (g h:Hp) (bw:Nat) (v:Int) (t:Sl) (xss:List (List Int)):Prop where
 buf: ∃ts:List Sl,Buf h t 1 (ts.map Sl.v)/\ts.length=xss.length/\ ∀(i:Nat) (h1:i<ts.length) (h2:i<xss.length),IntS g ts[i] xss[i]
 le:g.le (h.offS t)
 row:h bw=some (.inl ⟨[I v,t.v],2,false⟩)
 new:g bw=none
 own: ∀a,t.a=some a->a.block≠bw
theorem cJ {h:Hp} {t:Sl} {c:Nat} {x:Blk} (e:(h.offS t) c=some x):h c=some x/\ ∀a,t.a=some a->a.block≠c:=by
 refine⟨bk _ _ _ _ e,fun a ha hac=>?_⟩
 subst hac
 simp [Hp.offS,ha,Hp.off,Hp.set]at e
theorem eK.keep {g h:Hp} {bw:Nat} {v:Int} {t:Sl} {xss:List (List Int)} (e:eK g h bw v t xss):g.le h:=Hp.le_trans e.le (bk _ _)
theorem eK.len {g h:Hp} {bw:Nat} {v:Int} {t:Sl} {xss:List (List Int)} (e:eK g h bw v t xss):t.n=xss.length:=by
 obtain⟨ts,hb,h1,_⟩:=e.buf
 have:=hb.1;simp at this;omega
theorem eK.blk {g h:Hp} {bw:Nat} {v:Int} {t:Sl} {xss:List (List Int)} (e:eK g h bw v t xss): ∀a,t.a=some a-> ∃ts:List Sl,∃z,h a.block=some (.inl ⟨ts.map Sl.v,z,false⟩):=by
 intro a ha
 obtain⟨ts,hb,_,_⟩:=e.buf
 rcases hb.2.2 with ⟨h0,_⟩|⟨b,hb1,hb2⟩
 ·rw [h0]at ha;cases ha
 ·rw [hb1]at ha;cases ha;exact⟨ts,_,hb2⟩
theorem eK.to {g h g' h':Hp} {bw:Nat} {v v':Int} {t:Sl} {xss:List (List Int)} (e:eK g h bw v t xss) (l:g.le g') (l':g'.le (h'.offS t)) (hr:h' bw=some (.inl ⟨[I v',t.v],2,false⟩))
  (hbuf: ∀a,t.a=some a->h' a.block=h a.block) (hn:g' bw=none):eK g' h' bw v' t xss:=by
 obtain⟨ts,hb,h1,h2⟩:=e.buf
 refine⟨⟨ts,⟨hb.1,hb.2.1,hb.2.2.imp id ?_⟩,h1,fun i a b=>(h2 i a b).mono l⟩,l',hr,hn,e.own⟩
 rintro ⟨b,hb1,hb2⟩
 exact⟨b,hb1,(hbuf _ hb1).trans hb2⟩
theorem eK.lit {g h:Hp} {bw b n:Nat} {v:Int} {t:Sl} {xss:List (List Int)} {cs:List Value} (e:eK g h bw v t xss) (hb:h b=none):eK (g.row b cs n) (h.row b cs n) bw v t xss:=by
 have gb:g b=none:=aF e.keep hb
 have nb:=fresh_ne hb e.row
 have nt: ∀a,t.a=some a->a.block≠b:=fun a ha=>by
  obtain⟨ts,z,hx⟩:=e.blk a ha
  exact fresh_ne hb hx
 refine e.to (eM _ _ gb) ?_ (by rw [bX _ _ nb];exact e.row) (fun a ha=>bX _ _ (nt a ha)) (by rw [bX _ _ nb];exact e.new)
 intro c x hc
 by_cases h':c=b
 ·subst h'
  rw [fN nt,bT];rw [bT]at hc;exact hc
 ·rw [bX _ _ h']at hc
  obtain⟨h1,h2⟩:=cJ (e.le _ _ hc)
  rw [fN h2,bX _ _ h'];exact h1
theorem eK.app {g h:Hp} {bw b:Nat} {v:Int} {t u:Sl} {xss:List (List Int)} {x:List Int} {K:Option Addr->Nat->Nat->Hp->Prop} (e:eK g h bw v t xss) (hl:xss.length<=1048576) (hu:IntS g u x) (hb:h b=none)
  (k: ∀(t':Sl) (h':Hp),h' bw=some (.inl ⟨[I v,t.v],2,false⟩)->(h.offS t).le (h'.offS t')->eK g (h'.row bw [I v,t'.v] 2) bw v t' (xss++ [x])->K t'.a t'.n t'.c h'):
  ck (h.row b [u.v] 1) t.a t.n t.c (some ⟨b,0,none⟩) 1 1 24 K:=by
 have l:=eM [u.v] 1 hb
 have hn:=e.len
 obtain⟨ts,hbuf,h1,h2⟩:=e.buf
 refine dm (hbuf.mono l) (by omega) (by omega) (by omega) ⟨b,0,rfl,fun i v hi=>?_⟩ (news:= [u.v]) rfl rfl ?_
 ·cases i with
  |zero=>simp at hi;subst hi;exact pR _ _ _ _ _
  |succ i=>simp at hi
 intro t' h' hn' hb' hle _
 have hle':(h.offS t).le (h'.offS t'):=Hp.le_trans (bM t l) hle
 obtain⟨f,o⟩:=j5 hle' e.row e.own
 refine k t' h' f hle' ⟨⟨ts++ [u],?_,by simp [h1],?_⟩,?_,bT ..,e.new,o⟩
 ·rw [List.map_append]
  refine⟨hb'.1,hb'.2.1,hb'.2.2.imp id ?_⟩
  rintro ⟨c,hc,hcb⟩
  exact⟨c,hc,by rw [bX _ _ (o _ hc)];exact hcb⟩
 ·intro i a c
  by_cases hi:i<ts.length
  ·rw [List.getElem_append_left hi,List.getElem_append_left (by omega)];exact h2 i hi (by omega)
  ·have:i=ts.length:=by simp at a;omega
   subst this
   simp only [List.getElem_append_right (Nat.le_refl _),Nat.sub_self,List.getElem_cons_zero]
   simp only [h1,List.getElem_append_right (Nat.le_refl _),Nat.sub_self,List.getElem_cons_zero]
   exact hu
 ·intro c x hc
  obtain⟨h3,h4⟩:=cJ (hle' _ _ (e.le _ _ hc))
  have hcb:c≠bw:=fun hh=>by rw [hh,e.new]at hc;cases hc
  rw [fN h4,bX _ _ hcb];exact h3
structure Rd (h:Hp) (B:Nat) (s:Sl) (bs:List Nat) (p:Nat):Prop where
 row:h B=some (.inl ⟨[s.v,I p],2,false⟩)
 byt:ByteS (h.off B) s bs
theorem Rd.next {h:Hp} {B:Nat} {s:Sl} {bs:List Nat} {p:Nat} (e:Rd h B s bs p) (q:Nat):Rd (h.row B [s.v,I q] 2) B s bs q:=⟨bT ..,by rw [uX];exact e.byt⟩
theorem Rd.to {h h':Hp} {B:Nat} {s:Sl} {bs:List Nat} {p:Nat} (e:Rd h B s bs p) (l:h.le h'):Rd h' B s bs p:=⟨l _ _ e.row,e.byt.mono (He _ l)⟩
theorem OA {a b:Nat} (ha:a<4611686018427387904) (hb:b<4611686018427387904): ∃c:Nat,Ts (a:Int) (b:Int)=c:=by
 have:=Mu (a:=a) (b:=b) (by omega) (by omega)
 exact⟨_,this⟩
theorem Cp {h:Hp} {B p:Nat} {s:Sl} {bs:List Nat} {n:Int} {R:Value->Hp->Prop} (e:Rd h B s bs p) (hp:p<=1000000000) (hn:n<=1000000000)
  (k: ∀x:Nat,(1<=n->(x:Int)<n)->(n<1->x=0)->R (I x) (h.row B [s.v,I (p+1:Nat)] 2)):ah #[.pointer (some ⟨B,0,none⟩),I n] h R:=by
 apply Ax
 refine uf_ ?_
 simp only [vm,aq e.row,mm,e.row,aA (n:=p) (by omega)]
 have hb:=e.byt.mono (Gh h B [s.v,I (p+1:Nat)] 2)
 have hl:=hb.len
 have hbd:=hb.bound
 refine⟨by omega,?_⟩
 refine ap (fun J=>J (decide (n<1)||decide (bs.length=0))) ?_ ?_
 rotate_left
 ·intro J hJ
  refine ac (fun e=>?_) (fun e=>?_)
  ·rw [e,Bool.true_or]at hJ;exact hJ
  ·rw [e,Bool.false_or]at hJ
   have:((s.n:Int)==0)=decide (bs.length=0):=by rw [hl,Bool.eq_iff_iff];simp
   rw [this];exact hJ
 refine ac (fun he=>?_) (fun he=>?_)
 ·refine k 0 (fun h1=>by omega) (fun _=>rfl)
 have hn1:1<=n:=by simp at he;omega
 have hbn:0<bs.length:=by
  have:bs.length≠0:=by intro h;rw [h]at he;simp at he
  omega
 have hw:W (((p+1:Nat):Int)-1)=p:=by rw [bV (by omega) (by omega)];omega
 obtain⟨m,rfl⟩: ∃m:Nat,n=m:=⟨n.toNat,by omega⟩
 have fin: ∀x:Nat,R (I (Int.tmod (x:Int) (m:Int))) (h.row B [s.v,I (p+1:Nat)] 2):=by
  intro x
  have e1:Int.tmod (x:Int) (m:Int)=((x%m:Nat):Int):=by rw [Int.ofNat_tmod]
  rw [e1]
  have:x%m<m:=Nat.mod_lt _ (by omega)
  exact k (x%m) (fun _=>by omega) (fun h=>by omega)
 simp only [hw,hl]
 refine ac (fun hlt=>?_) (fun hlt=>?_)
 ·have hlt':p<bs.length:=by simp at hlt;omega
  obtain⟨b,o,ha,hc,hx⟩:=hb.at hlt'
  simp only [vm,ha,hc]
  refine⟨by omega,?_⟩
  rw [if_neg (by omega),eu (by omega)]
  exact fin _
 ·have hq: ∀q:Nat,Int.tmod (q:Int) (bs.length:Int)=((q%bs.length:Nat):Int):=fun q=>by rw [Int.ofNat_tmod]
  have hlt2: ∀q:Nat,q%bs.length<bs.length:=fun q=>Nat.mod_lt _ hbn
  have w1:W (W ((p:Int)*7)+3)=((p*7+3:Nat):Int):=by
   rw [bV (n:=(p:Int)*7) (by omega) (by omega),bV (by omega) (by omega)];omega
  obtain⟨b,o,ha,hc,hx⟩:=hb.at (hlt2 p)
  obtain⟨b',o',ha',hc',hy⟩:=hb.at (hlt2 (p*7+3))
  rw [ha]at ha';cases ha'
  have hdiv:Int.tdiv (p:Int) (bs.length:Int)=((p/bs.length:Nat):Int):=by rw [Int.ofNat_tdiv]
  have hdl:p/bs.length<=p:=Nat.div_le_self _ _
  generalize hX:bs[p%bs.length]'(hlt2 p)=X at*
  generalize hY:bs[(p*7+3)%bs.length]'(hlt2 _)=Y at*
  generalize hD:p/bs.length=D at*
  have tot:W (W (W (W (W (X:Int)*131)+W (W (Y:Int)*1117))+W ((p:Int)*29))+W (W (D:Int)*53))=((X*131+Y*1117+p*29+D*53:Nat):Int):=by
   rw [eu (n:=X) (by omega),eu (n:=Y) (by omega),eu (n:=D) (by omega),bV (n:=(X:Int)*131) (by omega) (by omega),bV (n:=(Y:Int)*1117) (by omega) (by omega),
    bV (n:=(p:Int)*29) (by omega) (by omega),bV (n:=(D:Int)*53) (by omega) (by omega),bV (n:=(X:Int)*131+(Y:Int)*1117) (by omega) (by omega),
    bV (n:=(X:Int)*131+(Y:Int)*1117+(p:Int)*29) (by omega) (by omega),bV (by omega) (by omega)]
   omega
  have d64:W (Int.tdiv (((X*131+Y*1117+p*29+D*53:Nat)):Int) 64)=(((X*131+Y*1117+p*29+D*53)/64:Nat):Int):=by
   have:Int.tdiv (((X*131+Y*1117+p*29+D*53:Nat)):Int) 64=(((X*131+Y*1117+p*29+D*53)/64:Nat):Int):=by
    have:=Int.ofNat_tdiv (X*131+Y*1117+p*29+D*53) 64
    exact this.symm
   rw [this,eu (by omega)]
  obtain⟨c,hcx⟩:=OA (a:=X*131+Y*1117+p*29+D*53) (b:=(X*131+Y*1117+p*29+D*53)/64) (by omega) (by omega)
  have hnz: ¬((bs.length:Nat):Int)=0:=by omega
  simp only [vm,w1,hq,hdiv,ha,hc,hc',hD,tot,d64,hcx]
  rw [if_neg hnz]
  refine⟨by have:=hlt2 p;omega,?_⟩
  rw [if_neg hnz]
  refine⟨by have:=hlt2 (p*7+3);omega,?_⟩
  rw [if_neg hnz]
  have hm0: ¬(m:Int)=0:=by omega
  rw [if_neg hm0]
  have:=fin c
  simp only [true_and,and_self]
  exact this
theorem fP.appK {h h':Hp} {t:Sl} {set:List Int} {x:Int} {b:Nat} {K:Option Addr->Nat->Nat->Hp->Prop} (e:fP h h' t set) (hl:set.length<=1048576) (hb:h' b=none)
  (k: ∀(t':Sl) (h'':Hp),(h'.offS t).le (h''.offS t')->fP h h'' t' (set++ [x])->K t'.a t'.n t'.c h''):ck (h'.row b [I x] 1) t.a t.n t.c (some ⟨b,0,none⟩) 1 1 8 K:=by
 have l:=eM [I x] 1 hb
 exact MY (e.buf.mono l) hl (pR _ _ _ _ _) fun t' h'' hb' hl'=>k t' h'' (Hp.le_trans (bM t l) hl') ⟨hb',Hp.le_trans (Hp.le_trans e.le (bM t l)) hl'⟩
theorem fP.neB {g h:Hp} {o s:Sl} {xs:List Int} (e:fP g h o xs) {B p n:Nat} (hB:h B=some (.inl ⟨[s.v,I p],n,false⟩)): ∀a,o.a=some a->a.block≠B:=by
 intro a ha
 rcases e.buf.2.2 with ⟨h0,_⟩|⟨b,hb1,hb2⟩
 ·rw [h0]at ha;cases ha
 ·rw [hb1]at ha;cases ha
  refine dH hb2 hB ?_
  intro h
  simp only [Sum.inl.injEq,Row.mk.injEq]at h
  rcases xs with _|⟨x,r⟩
  ·simp at h
  ·simp [Sl.v]at h
theorem eK.neB {g h:Hp} {bw:Nat} {v:Int} {t s:Sl} {xss:List (List Int)} (e:eK g h bw v t xss) {B p n:Nat} (hB:h B=some (.inl ⟨[s.v,I p],n,false⟩)): ∀a,t.a=some a->a.block≠B:=by
 intro a ha
 obtain⟨ts,z,hx⟩:=e.blk a ha
 refine dH hx hB ?_
 intro h
 simp only [Sum.inl.injEq,Row.mk.injEq]at h
 rcases ts with _|⟨t1,_|⟨t2,r⟩⟩
 ·simp at h
 ·simp at h
 ·simp [Sl.v]at h
theorem eK.ne3 {g h:Hp} {bw:Nat} {v:Int} {t:Sl} {xss:List (List Int)} (e:eK g h bw v t xss) {B n:Nat} {x:Int} {y:List Value} (hB:h B=some (.inl ⟨I x::y,n,false⟩)): ∀a,t.a=some a->a.block≠B:=by
 intro a ha
 obtain⟨ts,z,hx⟩:=e.blk a ha
 refine dH hx hB ?_
 intro h
 simp only [Sum.inl.injEq,Row.mk.injEq]at h
 rcases ts with _|⟨t1,r⟩
 ·simp at h
 ·simp [Sl.v]at h
theorem pw {h:Hp} {t:Sl} {c:Nat} {x:Blk} (e:h c=some x) (d: ∀a,t.a=some a->a.block≠c):(h.offS t) c=some x:=by rw [fN d];exact e
structure CS (h0:Hp) (B b3 b9:Nat) (s:Sl) (c:Nat) (h:Hp) (v:Int) (t:Sl) (cls:List (List Int)):Prop where
 rd: ∃q,q<=c/\h B=some (.inl ⟨[s.v,I (q:Nat)],2,false⟩)
 r3:h b3=some (.inl ⟨[I 0, .slice none 0 0],2,false⟩)
 n39:b3≠b9
 fr:(h0.off B).le (h.offS t)
 fr9:h0 b9=none
 fr3:h0 b3=none
 gr: ∃g:Hp,(∀c x,g c=some x->h0 c=none/\c≠b3)/\eK g h b9 v t cls
section
variable {h0 h:Hp} {B b3 b9 c p0:Nat} {s t:Sl} {v:Int} {cls:List (List Int)} {bs:List Nat}
theorem CS.row (e:CS h0 B b3 b9 s c h v t cls):h b9=some (.inl ⟨[I v,t.v],2,false⟩):=by obtain⟨g,_,hg⟩:=e.gr;exact hg.row
theorem CS.frame (e:CS h0 B b3 b9 s c h v t cls):(h0.off B).le h:=Hp.le_trans e.fr (bk _ _)
theorem CS.nB9 (e:CS h0 B b3 b9 s c h v t cls):b9≠B:=by
 obtain⟨q,_,hq⟩:=e.rd
 exact dH e.row hq (by intro h;simp [Sl.v]at h)
theorem CS.nB3 (e:CS h0 B b3 b9 s c h v t cls):b3≠B:=by
 obtain⟨q,_,hq⟩:=e.rd
 exact dH e.r3 hq (by intro h;simp [Sl.v]at h)
theorem CS.more (e:CS h0 B b3 b9 s c h v t cls) {c':Nat} (hc:c<=c'):CS h0 B b3 b9 s c' h v t cls:=by
 obtain⟨q,hq,hr⟩:=e.rd
 exact⟨⟨q,by omega,hr⟩,e.r3,e.n39,e.fr,e.fr9,e.fr3,e.gr⟩
theorem CS.app (e:CS h0 B b3 b9 s c h v t cls) (hB: ∃x,h0 B=some x) {h2:Hp} {o:Sl} {xs:List Int} {q2 c2 b:Nat} {K:Option Addr->Nat->Nat->Hp->Prop} (hl:cls.length<=1048576) (hx:xs.length<=1048576)
  (hgr:fP (h.off B) h2 o xs) (hr2:h2 B=some (.inl ⟨[s.v,I (q2:Nat)],2,false⟩)) (hq2:q2<=c2) (hb:h2 b=none)
  (k: ∀(t':Sl) (h3:Hp),h3 b9=some (.inl ⟨[I v,t.v],2,false⟩)->CS h0 B b3 b9 s c2 (h3.row b9 [I v,t'.v] 2) v t' (cls++ [xs])->K t'.a t'.n t'.c h3):
  ck (h2.row b [o.v] 1) t.a t.n t.c (some ⟨b,0,none⟩) 1 1 24 K:=by
 obtain⟨g,hg,gr⟩:=e.gr
 obtain⟨q,hq,hr⟩:=e.rd
 have base: ∀c x,h c=some x->c≠B->h2 c=some x/\ ∀a,o.a=some a->a.block≠c:=by
  intro c x hc hcB
  exact cJ (hgr.le c x (by rw [Hp.off,Hp.set_ne _ _ hcB];exact hc))
 have r9:=base _ _ gr.row e.nB9
 have r3:=base _ _ e.r3 e.nB3
 have tB:=gr.neB hr
 have oB:=hgr.neB hr2
 have t3:=gr.ne3 e.r3
 have tblk: ∀a,t.a=some a->h2 a.block=h a.block/\ ∀a',o.a=some a'->a'.block≠a.block:=by
  intro a ha
  obtain⟨ts,z,hx⟩:=gr.blk a ha
  obtain⟨h1,h2⟩:=base _ _ hx (tB a ha)
  exact⟨h1.trans hx.symm,h2⟩
 have hg': ∀c x,((h2.sub h0).wo ([b9,b3]++t.blk)) c=some x->h2 c=some x/\h0 c=none/\c≠b3/\c≠b9/\ ∀a,t.a=some a->a.block≠c:=by
  intro c x hc
  have hm:c∉ [b9,b3]++t.blk:=fun hm=>by rw [eQ hm]at hc;cases hc
  rw [rc hm]at hc
  have h1:h0 c=none:=lP (by rw [hc];simp)
  rw [lk h1]at hc
  simp only [List.cons_append,List.nil_append,List.mem_cons,not_or]at hm
  exact⟨hc,h1,hm.2.1,hm.1,fun a ha hac=>hm.2.2 (by unfold Sl.blk;rw [ha];simp [hac])⟩
 have hgi: ∀c x,h2 c=some x->h0 c=none->c≠b3->c≠b9->(∀a,t.a=some a->a.block≠c)->((h2.sub h0).wo ([b9,b3]++t.blk)) c=some x:=by
  intro c x h1 h2 h3 h4 h5
  rw [rc,lk h2]
  ·exact h1
  ·simp only [List.cons_append,List.nil_append,List.mem_cons,not_or]
   refine⟨h4,h3,fun hm=>?_⟩
   unfold Sl.blk at hm
   split at hm
   ·simp at hm
   ·rename_i a ha;simp at hm;exact h5 a ha hm.symm
 have gr':eK ((h2.sub h0).wo ([b9,b3]++t.blk)) h2 b9 v t cls:=by
  refine gr.to ?_ ?_ r9.1 (fun a ha=>(tblk a ha).1) (eQ (by simp))
  ·intro c x hc
   obtain⟨g1,g2⟩:=cJ (gr.le _ _ hc)
   have hn:=hg _ _ hc
   have hcB:c≠B:=fun hh=>by obtain⟨y,hy⟩:=hB;rw [hh,hy]at hn;cases hn.1
   exact hgi c x (base c x g1 hcB).1 hn.1 hn.2 (fun hh=>by rw [hh,gr.new]at hc;cases hc) g2
  ·intro c x hc
   obtain⟨g1,g2,g3,g4,g5⟩:=hg' c x hc
   exact pw g1 g5
 have hu:IntS ((h2.sub h0).wo ([b9,b3]++t.blk)) o xs:=by
  refine tP.ints ⟨hgr.buf.1,hgr.buf.2.1,hgr.buf.2.2.imp id ?_⟩ hx
  rintro ⟨d,hd,hdb⟩
  refine⟨d,hd,hgi _ _ hdb ?_ ?_ ?_ ?_⟩
  ·cases hx:h0 d with
   |none=>rfl
   |some x=>
    have hdB:d≠B:=oB _ hd
    have:=e.frame d x (by rw [Hp.off,Hp.set_ne _ _ hdB];exact hx)
    exact absurd rfl ((base d x this hdB).2 _ hd)
  ·exact r3.2 _ hd
  ·exact r9.2 _ hd
  ·intro a ha hab
   exact(tblk a ha).2 _ hd hab.symm
 refine gr'.app hl hu hb fun t' h3 f9 hk hgd=>k t' h3 f9 ?_
 have kp: ∀c x,h2 c=some x->(∀a,t.a=some a->a.block≠c)->h3 c=some x/\ ∀a,t'.a=some a->a.block≠c:=by
  intro c x h1 h2
  exact cJ (hk _ _ (pw h1 h2))
 have n9: ∀a,t.a=some a->a.block≠b9:=gr.own
 refine⟨⟨q2,hq2,by rw [bX _ _ e.nB9.symm];exact(kp _ _ hr2 tB).1⟩,by rw [bX _ _ e.n39];exact(kp _ _ r3.1 t3).1,e.n39,?_,e.fr9,e.fr3,_,fun c x hc=>⟨(hg' c x hc).2.1,(hg' c x hc).2.2.1⟩,hgd⟩
 intro c x hc
 have hcB:c≠B:=fun hh=>by rw [hh,xy]at hc;cases hc
 have hc9:c≠b9:=fun hh=>by rw [hh,Hp.off,Hp.set_ne _ _ e.nB9,e.fr9]at hc;cases hc
 obtain⟨g1,g2⟩:=cJ (e.fr _ _ hc)
 obtain⟨g3,g4⟩:=kp _ _ (base c x g1 hcB).1 g2
 rw [fN g4,bX _ _ hc9];exact g3
theorem CS.lit (e:CS h0 B b3 b9 s c h v t cls) {b n:Nat} {cs:List Value} (hb:h b=none):CS h0 B b3 b9 s c (h.row b cs n) v t cls:=by
 obtain⟨g,hg,gr⟩:=e.gr
 obtain⟨q,hq,hr⟩:=e.rd
 have tb: ∀{c x},(h.offS t) c=some x->((h.row b cs n).offS t) c=some x:=by
  intro c x hc
  obtain⟨h1,h2⟩:=cJ hc
  rw [fN h2,bX _ _ (fresh_ne hb h1)];exact h1
 exact⟨⟨q,hq,by rw [bX _ _ (fresh_ne hb hr)];exact hr⟩,by rw [bX _ _ (fresh_ne hb e.r3)];exact e.r3,e.n39,fun c x hc=>tb (e.fr _ _ hc),e.fr9,e.fr3,g,hg,
  gr.to (Hp.le_refl _) (fun c x hc=>tb (gr.le _ _ hc)) (by rw [bX _ _ (fresh_ne hb gr.row)];exact gr.row) (fun a ha=>by
   obtain⟨ts,z,hx⟩:=gr.blk a ha
   exact bX _ _ (fresh_ne hb hx)) gr.new⟩
end
theorem du.up {h h' h'':Hp} {t:Sl} {xss:List (List Int)} (e:du h h' t xss) (l:h'.le h''):du h h'' t xss:=by
 obtain⟨ts,h1,h2,h3⟩:=e.buf
 exact⟨⟨ts,h1.mono l,h2,h3⟩,Hp.le_trans e.le (bM t l)⟩
def ll (v:Int) (cls p:List (List Int)):Bool:=dL v cls&&(decide (p.length<=300)&&p.all (fO v))
theorem ll.iff {v:Int} {cls p:List (List Int)}:ll v cls p=true↔dL v cls=true/\p.length<=300/\ ∀l∈p,fO v l=true:=by
 simp [ll,List.all_eq_true]
theorem du.len {g h:Hp} {o:Sl} {out:List (List Int)} (e:du g h o out):o.n=out.length:=by
 obtain⟨ts,hb,h1,_⟩:=e.buf
 have:=hb.1;simp at this;omega
theorem du.base {g g2 h:Hp} {o:Sl} {out:List (List Int)} (e:du g h o out) (l:g.le g2) (l2:g2.le (h.offS o)):du g2 h o out:=by
 obtain⟨ts,h1,h2,h3⟩:=e.buf
 exact⟨⟨ts,h1,h2,fun i a b=>(h3 i a b).mono l⟩,l2⟩
theorem du.blk {g h:Hp} {o:Sl} {out:List (List Int)} (e:du g h o out): ∀a,o.a=some a-> ∃x,h a.block=some x:=by
 intro a ha
 obtain⟨ts,hb,_,_⟩:=e.buf
 rcases hb.2.2 with ⟨h0,_⟩|⟨b,hb1,hb2⟩
 ·rw [h0]at ha;cases ha
 ·rw [hb1]at ha;cases ha;exact⟨_,hb2⟩
theorem fP.apart {h2 h3:Hp} {u o:Sl} {xs:List Int} (hg:fP h2 h3 u xs) (ho: ∀a,o.a=some a-> ∃x,h2 a.block=some x): ∀a a',u.a=some a->o.a=some a'->a.block≠a'.block:=by
 intro a a' ha ha'
 obtain⟨x,hx⟩:=ho a' ha'
 exact(cJ (hg.le _ _ hx)).2 a ha
theorem fP.offS {h2 h3:Hp} {u o:Sl} {xs:List Int} (hg:fP h2 h3 u xs) (ho: ∀a,o.a=some a-> ∃x,h2 a.block=some x):tP (h3.offS o) u xs:=by
 refine⟨hg.buf.1,hg.buf.2.1,hg.buf.2.2.imp id ?_⟩
 rintro ⟨b,hb1,hb2⟩
 exact⟨b,hb1,pw hb2 fun a ha=>(hg.apart ho _ a hb1 ha).symm⟩
theorem fP.beside {h0 h' h'':Hp} {a b b':Sl} {xs:List Int} (e:fP h0 h' a xs) (l0:h0.le (h'.offS b)) (hk:(h'.offS b).le (h''.offS b')) (nab: ∀x y,a.a=some x->b.a=some y->y.block≠x.block):
  fP h0 h'' a xs/\ ∀x y,a.a=some x->b'.a=some y->y.block≠x.block:=by
 constructor
 ·refine⟨⟨e.buf.1,e.buf.2.1,e.buf.2.2.imp id ?_⟩,?_⟩
  ·rintro ⟨c,hc,hcb⟩
   exact⟨c,hc,(cJ (hk _ _ (pw hcb fun y hy=>nab _ y hc hy))).1⟩
  ·intro c x hc
   obtain⟨g1,g2⟩:=cJ (e.le _ _ hc)
   obtain⟨g3,g4⟩:=cJ (l0 _ _ hc)
   exact pw (cJ (hk _ _ (pw g1 g4))).1 g2
 ·intro x y hx hy
  rcases e.buf.2.2 with ⟨h0,_⟩|⟨c,hc,hcb⟩
  ·rw [h0]at hx;cases hx
  ·rw [hc]at hx;cases hx
   exact(cJ (hk _ _ (pw hcb fun y hy=>nab _ y hc hy))).2 y hy
theorem IntS.one {h:Hp} {b:Nat} {x:Int} {n:Nat} {ro:Bool} (e:h b=some (.inl ⟨[I x],n,ro⟩)):IntS h ⟨some ⟨b,0,none⟩,1,1⟩ [x]:=⟨by simp,by simp, .inr ⟨b,0,rfl,ay e⟩⟩
theorem du.appK {g h:Hp} {t u:Sl} {xss:List (List Int)} {x:List Int} {b:Nat} {K:Option Addr->Nat->Nat->Hp->Prop} (e:du g h t xss) (hl:xss.length<=1048576) (hu:IntS g u x) (hb:h b=none)
  (k: ∀(t':Sl) (h'':Hp),(h.offS t).le (h''.offS t')->du g h'' t' (xss++ [x])->K t'.a t'.n t'.c h''):ck (h.row b [u.v] 1) t.a t.n t.c (some ⟨b,0,none⟩) 1 1 24 K:=by
 have l:=eM [u.v] 1 hb
 have hn:=e.len
 obtain⟨ts,hbuf,h1,h2⟩:=e.buf
 refine dm (hbuf.mono l) (by omega) (by omega) (by omega) ⟨b,0,rfl,fun i v hi=>?_⟩ (news:= [u.v]) rfl rfl ?_
 ·cases i with
  |zero=>simp at hi;subst hi;exact pR _ _ _ _ _
  |succ i=>simp at hi
 ·intro t' h'' hn' hb' hle _
  have hle':(h.offS t).le (h''.offS t'):=Hp.le_trans (bM t l) hle
  refine k t' h'' hle' ⟨⟨ts++ [u],by rw [List.map_append];exact hb',by simp [h1],?_⟩,Hp.le_trans e.le hle'⟩
  intro i a c
  by_cases hi:i<ts.length
  ·rw [List.getElem_append_left hi,List.getElem_append_left (by omega)];exact h2 i hi (by omega)
  ·have:i=ts.length:=by simp at a;omega
   subst this
   simp only [List.getElem_append_right (Nat.le_refl _),Nat.sub_self,List.getElem_cons_zero]
   simp only [h1,List.getElem_append_right (Nat.le_refl _),Nat.sub_self,List.getElem_cons_zero]
   exact hu
theorem du.neB {g h:Hp} {t s:Sl} {xss:List (List Int)} (e:du g h t xss) {B p n:Nat} (hB:h B=some (.inl ⟨[s.v,I p],n,false⟩)): ∀a,t.a=some a->a.block≠B:=by
 intro a ha
 obtain⟨ts,hb,_,_⟩:=e.buf
 rcases hb.2.2 with ⟨h0,_⟩|⟨c,hc,hcb⟩
 ·rw [h0]at ha;cases ha
 ·rw [hc]at ha;cases ha
  refine dH hcb hB ?_
  intro h
  simp only [Sum.inl.injEq,Row.mk.injEq]at h
  rcases ts with _|⟨t1,_|⟨t2,r⟩⟩
  ·simp at h
  ·simp at h
  ·simp [Sl.v]at h
structure PS (h:Hp) (B:Nat) (s:Sl) (c:Nat) (g h':Hp) (t:Sl) (res:List (List Int)):Prop where
 rd: ∃q,q<=c/\h' B=some (.inl ⟨[s.v,I (q:Nat)],2,false⟩)
 gr:du g h' t res
 new: ∀c x,g c=some x->h c=none
 fr:(h.off B).le (h'.offS t)
section
variable {h g h':Hp} {B c:Nat} {s t:Sl} {res:List (List Int)} {bs:List Nat}
theorem PS.frame (e:PS h B s c g h' t res):(h.off B).le h':=Hp.le_trans e.fr (bk _ _)
theorem PS.more (e:PS h B s c g h' t res) {c':Nat} (hc:c<=c'):PS h B s c' g h' t res:=by
 obtain⟨q,hq,hr⟩:=e.rd
 exact⟨⟨q,by omega,hr⟩,e.gr,e.new,e.fr⟩
theorem PS.lit (e:PS h B s c g h' t res) (hB: ∃x,h B=some x) {b n:Nat} {cs:List Value} (hb:h' b=none):PS h B s c (g.row b cs n) (h'.row b cs n) t res:=by
 obtain⟨q,hq,hr⟩:=e.rd
 have nB:=fresh_ne hb hr
 have hb0:h b=none:=by
  cases hx:h b with
  |none=>rfl
  |some x=>
   have:=e.frame b x (by rw [Hp.off,Hp.set_ne _ _ nB.symm];exact hx)
   rw [hb]at this;cases this
 have tb: ∀a,t.a=some a->a.block≠b:=fun a ha=>by
  obtain⟨x,hx⟩:=e.gr.blk a ha
  exact fresh_ne hb hx
 have key: ∀c x,c≠b->(h'.offS t) c=some x->((h'.row b cs n).offS t) c=some x:=by
  intro c x hcB hc
  obtain⟨h1,h2⟩:=cJ hc
  rw [fN h2,bX _ _ hcB];exact h1
 have gb:g b=none:=aF e.gr.keep hb
 refine⟨⟨q,hq,by rw [bX _ _ nB];exact hr⟩,(e.gr.up (eM cs n hb)).base (eM _ _ gb) ?_,?_,fun c x hc=>key c x (fun hh=>by rw [hh,Hp.off,Hp.set_ne _ _ nB.symm,hb0]at hc;cases hc) (e.fr _ _ hc)⟩
 ·intro c x hc
  by_cases hcb:c=b
  ·subst hcb
   rw [bT]at hc
   rw [fN tb,bT];exact hc
  ·rw [bX _ _ hcb]at hc
   exact key c x hcb (e.gr.le _ _ hc)
 ·intro c x hc
  by_cases hcb:c=b
  ·subst hcb;exact hb0
  ·rw [bX _ _ hcb]at hc;exact e.new _ _ hc
theorem PS.app {u:Sl} {x:List Int} {b:Nat} {K:Option Addr->Nat->Nat->Hp->Prop} (e:PS h B s c g h' t res) (hl:res.length<=1048576) (hu:IntS g u x) (hb:h' b=none)
  (k: ∀(t':Sl) (h'':Hp),PS h B s c g h'' t' (res++ [x])->K t'.a t'.n t'.c h''):ck (h'.row b [u.v] 1) t.a t.n t.c (some ⟨b,0,none⟩) 1 1 24 K:=by
 obtain⟨q,hq,hr⟩:=e.rd
 exact e.gr.appK hl hu hb fun t' h'' hk gr=>k t' h'' ⟨⟨q,hq,(cJ (hk _ _ (pw hr (e.gr.neB hr)))).1⟩,gr,e.new,Hp.le_trans e.fr hk⟩
end
def jc (w:Nat) (n:Int):Nat:=(n%((2^w:Nat):Int)).toNat
def sgn (w a:Nat):Int:=if 2^(w-1)<=a then(a:Int)-((2^w:Nat):Int)else a
theorem bD (w:Nat):0<2^w:=Nat.pow_pos (by omega)
theorem jo (w:Nat) (n:Int):jc w n<2^w:=by
 unfold jc
 have h:=Int.emod_lt_of_pos n (b:=((2^w:Nat):Int)) (Int.ofNat_lt.2 (bD w))
 have h0:=Int.emod_nonneg n (b:=((2^w:Nat):Int)) (by have:=bD w;omega)
 omega
theorem oK (w a:Nat):jc w (a:Int)=a%2^w:=by
 unfold jc
 rw [<-Int.natCast_emod,Int.toNat_natCast]
theorem GX (w:Nat) (n:Int):((jc w n:Nat):Int)=n%((2^w:Nat):Int):=by
 unfold jc
 have h0:=Int.emod_nonneg n (b:=((2^w:Nat):Int)) (by have:=bD w;omega)
 omega
theorem pT {w:Nat} (h:1<=w):2^w=2*2^(w-1):=by
 obtain⟨n,rfl⟩: ∃n,w=n+1:=⟨w-1,by omega⟩
 rw [Nat.pow_succ,Nat.add_sub_cancel];omega
theorem Jt {w a:Nat} (h:1<=w) (ha:a<2^w): -((2^(w-1):Nat):Int)<=sgn w a/\sgn w a<((2^(w-1):Nat):Int):=by
 have:=pT h
 unfold sgn;split<;>omega
theorem TY {w:Nat} (h:1<=w) (n:Int):sgn w (jc w n)=n↔ -((2^(w-1):Nat):Int)<=n/\n<((2^(w-1):Nat):Int):=by
 have hp:=pT h
 have hl:=jo w n
 have hb:=Jt h hl
 constructor
 ·intro e;rw [e]at hb;exact hb
 ·rintro ⟨h1,h2⟩
  have hc:=GX w n
  have h3:n%((2^w:Nat):Int)=if n<0 then n+((2^w:Nat):Int)else n:=by
   split
   ·rw [<-Int.add_emod_right,Int.emod_eq_of_lt (by omega) (by omega)]
   ·rw [Int.emod_eq_of_lt (by omega) (by omega)]
  rw [h3]at hc
  unfold sgn
  split at hc<;>split<;>omega
theorem ji {w x:Nat} {f:Nat->Bool} (hx:x<2^w) (h: ∀i,i<w->x.testBit i=f i):cQ w f=x:=by
 apply Nat.eq_of_testBit_eq
 intro i
 by_cases hi:i<w
 ·rw [rJ _ _ _ hi,h i hi]
 ·rw [Nat.testBit_lt_two_pow (Nat.lt_of_lt_of_le (rb w f) (Nat.pow_le_pow_right (by omega) (by omega))),
   Nat.testBit_lt_two_pow (Nat.lt_of_lt_of_le hx (Nat.pow_le_pow_right (by omega) (by omega)))]
theorem rF {w:Nat} {f g:Nat->Bool} (h: ∀i,i<w->f i=g i):cQ w f=cQ w g:=ji (rb _ _) fun i hi=>by rw [rJ _ _ _ hi,h i hi]
theorem N6 {w p:Nat} {f:Nat->Bool} (hp:p<w) (hf:f p=false):cQ w f+2^p=cQ w (fun i=>f i||decide (i=p)):=by
 induction w with
 |zero=>omega
 |succ w ih=>
  simp only [cQ]
  by_cases h:p=w
  ·subst h
   have:cQ p (fun i=>f i||decide (i=p))=cQ p f:=rF fun i hi=>by simp;omega
   rw [this];simp [hf]
  ·have:=ih (by omega)
   have e:(f w||decide (w=p))=f w:=by simp;omega
   simp only [e]
   omega
def jx :Nat->Nat->Nat
 |0,_=>0
 |w+1,a=>jx w a+(if a.testBit w then 1 else 0)
theorem MW (w a:Nat):jx w a<=w:=by
 induction w with
 |zero=>simp [jx]
 |succ w ih=>simp only [jx];split<;>omega
theorem Ob {w a:Nat} (ha:a<2^w):jx w a=w↔a=2^w-1:=by
 have key: ∀w,jx w a=w↔ ∀i,i<w->a.testBit i=true:=by
  intro w
  induction w with
  |zero=>simp [jx]
  |succ w ih=>
   have:=MW w a
   simp only [jx]
   constructor
   ·intro h i hi
    by_cases hw:a.testBit w=true
    ·rw [if_pos hw]at h
     by_cases hiw:i=w
     ·subst hiw;exact hw
     ·exact ih.1 (by omega) i (by omega)
    ·rw [if_neg hw]at h;omega
   ·intro h
    rw [if_pos (h w (by omega)),ih.2 fun i hi=>h i (by omega)]
 rw [key]
 constructor
 ·intro h
  apply Nat.eq_of_testBit_eq
  intro i
  rw [Nat.testBit_two_pow_sub_one]
  by_cases hi:i<w
  ·rw [h i hi];simp [hi]
  ·rw [Nat.testBit_lt_two_pow (Nat.lt_of_lt_of_le ha (Nat.pow_le_pow_right (by omega) (by omega)))];simp [hi]
 ·rintro rfl i hi
  rw [Nat.testBit_two_pow_sub_one];simpa using hi
theorem FK {w a b:Nat} (ha:a<2^w):cQ w (fun i=>a.testBit i&&b.testBit i)=a&&&b:=
 ji (Nat.lt_of_le_of_lt Nat.and_le_left ha) fun i _=>by rw [Nat.testBit_and]
theorem PU {w a b:Nat} (ha:a<2^w) (hb:b<2^w):cQ w (fun i=>a.testBit i||b.testBit i)=a|||b:=
 ji (Nat.or_lt_two_pow ha hb) fun i _=>by rw [Nat.testBit_or]
theorem Tl {w a b:Nat} (ha:a<2^w) (hb:b<2^w):cQ w (fun i=>a.testBit i^^b.testBit i)=a^^^b:=
 ji (Nat.xor_lt_two_pow ha hb) fun i _=>by rw [Nat.testBit_xor]
def Wn (w a b:Nat):Nat:=a*2^min b w%2^w
def Wa (w a b:Nat):Nat:=a/2^min b w
def V4 (w a b:Nat):Nat:=jc w (sgn w a/((2^min b w:Nat):Int))
theorem To {w a b:Nat}:cQ w (fun i=>decide (b<=i)&&a.testBit (i-b))=Wn w a b:=by
 unfold Wn
 refine ji (Nat.mod_lt _ (bD w)) fun i hi=>?_
 rw [Nat.testBit_mod_two_pow,Nat.mul_comm,Nat.testBit_two_pow_mul]
 have:decide (i<w)=true:=by simpa using hi
 rw [this,Bool.true_and]
 by_cases h:b<=i
 ·rw [Nat.min_eq_left (by omega)]
 ·have h1:decide (b<=i)=false:=by simpa using h
  have h2:decide (min b w<=i)=false:=by simp;omega
  simp [h1,h2]
theorem T5 {w a b:Nat} (ha:a<2^w):cQ w (fun i=>decide (i+b<w)&&a.testBit (i+b))=Wa w a b:=by
 unfold Wa
 refine ji (Nat.lt_of_le_of_lt (Nat.div_le_self _ _) ha) fun i hi=>?_
 rw [Nat.testBit_div_two_pow]
 by_cases h:i+b<w
 ·rw [Nat.min_eq_left (by omega)];simp [h]
 ·have h1:decide (i+b<w)=false:=by simpa using h
  rw [h1,Bool.false_and]
  refine Nat.testBit_lt_two_pow (Nat.lt_of_lt_of_le ha (Nat.pow_le_pow_right (by omega) ?_))
  omega
theorem Tk {w a b:Nat} (hw:1<=w) (hw16:w<=16) (ha:a<2^w):cQ w (fun i=>if i+b<w then a.testBit (i+b)else a.testBit (w-1))=V4 w a b:=by
 have hp:=pT hw
 have top:a.testBit (w-1)=decide (2^(w-1)<=a):=by
  rw [Nat.testBit_eq_decide_div_mod_eq]
  by_cases h:2^(w-1)<=a
  ·have:a/2^(w-1)=1:=by
    rw [Nat.div_eq_iff (bD _)];omega
   simp [this,h]
  ·have:a/2^(w-1)=0:=Nat.div_eq_of_lt (by omega)
   simp [this,h]
 have hb:min b w<=w:=Nat.min_le_right _ _
 have small: ∀i,i<w->i+b<w->min b w=b:=fun i _ h=>Nat.min_eq_left (by omega)
 unfold V4
 refine ji (jo _ _) fun i hi=>?_
 by_cases hs:2^(w-1)<=a
 ·--with the sign
  have e1:sgn w a=(a:Int)-((2^w:Nat):Int):=by unfold sgn;rw [if_pos hs]
  have e2:jc w (sgn w a/((2^min b w:Nat):Int))=((a+2^w*(2^16-1))/2^min b w)%2^w:=by
   have h1:sgn w a=((a+2^w*(2^16-1):Nat):Int)-((2^min b w:Nat):Int)*((2^(w+16-min b w):Nat):Int):=by
    have h2:2^min b w*2^(w+16-min b w)=2^w*2^16:=by rw [<-Nat.pow_add,<-Nat.pow_add];congr 1;omega
    rw [e1,<-Int.natCast_mul,h2]
    have:2^w*(2^16-1)+2^w=2^w*2^16:=by rw [<-Nat.mul_succ]
    omega
   have hpos:((2^min b w:Nat):Int)≠0:=by have:=bD (min b w);omega
   have h3:sgn w a/((2^min b w:Nat):Int)=(((a+2^w*(2^16-1))/2^min b w:Nat):Int)-((2^w:Nat):Int)*((2^(16-min b w):Nat):Int):=by
    rw [h1,Int.sub_eq_add_neg,<-Int.mul_neg,Int.add_mul_ediv_left _ _ hpos,<-Int.natCast_ediv]
    have:2^(w+16-min b w)=2^w*2^(16-min b w):=by rw [<-Nat.pow_add];congr 1;omega
    rw [this,Int.natCast_mul];omega
   rw [h3]
   unfold jc
   rw [Int.sub_mul_emod_self_left,<-Int.natCast_emod,Int.toNat_natCast]
  rw [e2,Nat.testBit_mod_two_pow,Nat.testBit_div_two_pow,Nat.add_comm a,Nat.testBit_two_pow_mul_add _ ha]
  have hd:decide (i<w)=true:=by simpa using hi
  rw [hd,Bool.true_and]
  by_cases h:i+b<w
  ·have hm:=small i hi h
   rw [if_pos h,hm,if_pos (by omega)]
  ·have hm: ¬i+min b w<w:=by omega
   rw [if_neg h,if_neg hm,Nat.testBit_two_pow_sub_one,top]
   simp only [hs,decide_true,decide_eq_true_eq]
   omega
 ·have e1:sgn w a=a:=by unfold sgn;rw [if_neg hs]
  rw [e1,<-Int.natCast_ediv,oK,Nat.testBit_mod_two_pow,Nat.testBit_div_two_pow]
  have hd:decide (i<w)=true:=by simpa using hi
  rw [hd,Bool.true_and]
  by_cases h:i+b<w
  ·rw [if_pos h,small i hi h]
  ·rw [if_neg h,top]
   have hm: ¬i+min b w<w:=by omega
   have:decide (2^(w-1)<=a)=false:=by simpa using hs
   rw [this]
   exact Nat.testBit_lt_two_pow (Nat.lt_of_lt_of_le ha (Nat.pow_le_pow_right (by omega) (by omega)))
def Hd (w a k:Nat):Nat:=((a*2^k)|||(a/2^(w-k)))%2^w
theorem Wl {w a k i:Nat} (ha:a<2^w) (hk:k<w) (hi:i<w):(Hd w a k).testBit i=a.testBit ((i+(w-k))%w):=by
 unfold Hd
 rw [Nat.testBit_mod_two_pow,Nat.testBit_or,Nat.mul_comm,Nat.testBit_two_pow_mul,Nat.testBit_div_two_pow]
 have hd:decide (i<w)=true:=by simpa using hi
 rw [hd,Bool.true_and]
 by_cases h:k<=i
 ·have e:(i+(w-k))%w=i-k:=by
   have:i+(w-k)=(i-k)+w:=by omega
   rw [this,Nat.add_mod_right,Nat.mod_eq_of_lt (by omega)]
  have z:a.testBit (i+(w-k))=false:=Nat.testBit_lt_two_pow (Nat.lt_of_lt_of_le ha (Nat.pow_le_pow_right (by omega) (by omega)))
  rw [e,z];simp [h]
 ·have e:(i+(w-k))%w=i+(w-k):=Nat.mod_eq_of_lt (by omega)
  rw [e]
  have:decide (k<=i)=false:=by simpa using h
  rw [this];simp
theorem Tt {w a k:Nat} (ha:a<2^w) (hk:k<w):cQ w (fun j=>a.testBit ((j+(w-k))%w))=Hd w a k:=
 ji (Nat.mod_lt _ (bD w)) fun i hi=>Wl ha hk hi
theorem P4 {w a k i:Nat} (hk:k<w) (hi:i<w):
  cQ w (fun j=>decide ((j+(w-k))%w<i)&&a.testBit ((j+(w-k))%w))+(if a.testBit i then 2^((i+k)%w)else 0)=
   cQ w (fun j=>decide ((j+(w-k))%w<i+1)&&a.testBit ((j+(w-k))%w)):=by
 have hpw:(i+k)%w<w:=Nat.mod_lt _ (by omega)
 have back:((i+k)%w+(w-k))%w=i:=by
  rw [Nat.mod_add_mod]
  have:i+k+(w-k)=i+w:=by omega
  rw [this,Nat.add_mod_right,Nat.mod_eq_of_lt hi]
 have inj: ∀j,j<w->((j+(w-k))%w=i↔j=(i+k)%w):=by
  intro j hj
  constructor
  ·intro h
   have:(j+(w-k)+k)%w=(i+k)%w:=by rw [<-h,Nat.mod_add_mod]
   rw [<-this]
   have:j+(w-k)+k=j+w:=by omega
   rw [this,Nat.add_mod_right,Nat.mod_eq_of_lt hj]
  ·rintro rfl;exact back
 cases hb:a.testBit i with
 |false=>
  simp only [Bool.false_eq_true,if_false,Nat.add_zero]
  refine rF fun j hj=>?_
  by_cases h:(j+(w-k))%w=i
  ·rw [h,hb];simp
  ·have:decide ((j+(w-k))%w<i+1)=decide ((j+(w-k))%w<i):=by
    rw [decide_eq_decide];omega
   rw [this]
 |true=>
  simp only [if_true]
  rw [N6 hpw (by rw [back];simp)]
  refine rF fun j hj=>?_
  by_cases h:j=(i+k)%w
  ·have h2:=(inj j hj).2 h
   rw [h2,hb];simp [h]
  ·have h2: ¬(j+(w-k))%w=i:=fun e=>h ((inj j hj).1 e)
   have:decide ((j+(w-k))%w<i+1)=decide ((j+(w-k))%w<i):=by
    rw [decide_eq_decide];omega
   rw [this];simp [h]
def xd (kind:Int) (w a:Nat):Nat×Nat:=
 if kind=1 then(2^w-1-a,w)else if kind=2 then(jc w (-(a:Int)),w)else if kind=3 then(if a=0 then 0 else 1,1)else
 if kind=4 then(if a=2^w-1 then 1 else 0,1)else(jx w a%2,1)
def I0 (w a b:Nat):Nat:=if sgn w b=0 then(if sgn w a<0 then 1 else 2^w-1)else jc w (Int.tdiv (sgn w a) (sgn w b))
def IV (w a b:Nat):Nat:=if sgn w b=0 then a else jc w (Int.tmod (sgn w a) (sgn w b))
def Dh (kind:Int) (w a b:Nat):Bool:=
 if kind=21 then decide (a=b)else if kind=22 then decide (a<b)else if kind=23 then decide (sgn w a<sgn w b)else
 if kind=24 then decide (a<=b)else if kind=25 then decide (sgn w a<=sgn w b)else if kind=26 then decide (2^w<=a+b)else
 if kind=27 then !decide (-((2^(w-1):Nat):Int)<=sgn w a+sgn w b/\sgn w a+sgn w b<((2^(w-1):Nat):Int))else decide (2^w<=a*b)
def GZ (kind:Int) (w a b:Nat):Nat:=
 if kind=6 then a&&&b else if kind=7 then a|||b else if kind=8 then a^^^b else if kind=9 then jc w ((a:Int)+b)else
 if kind=10 then jc w ((a:Int)-b)else if kind=11 then jc w ((a:Int)*b)else if kind=12 then(if b=0 then 2^w-1 else a/b)else
 if kind=13 then(if b=0 then a else a%b)else if kind=14 then I0 w a b else if kind=15 then IV w a b else
 if kind=16 then Wn w a b else if kind=17 then Wa w a b else if kind=18 then V4 w a b else if kind=19 then Hd w a (b%w)else Hd w a ((w-b%w)%w)
def rk (kind:Int) (w a b:Nat):Nat×Nat:=if kind<=20 then(GZ kind w a b,w)else(if Dh kind w a b then 1 else 0,1)
theorem Wt {kind:Int} {w a:Nat} (hw:1<=w) (ha:a<2^w):(xd kind w a).1<2^(xd kind w a).2:=by
 have:=bD w
 unfold xd
 split
 ·simp only;omega
 ·split
  ·exact jo _ _
  ·split
   ·simp only;split<;>omega
   ·split
    ·simp only;split<;>omega
    ·simp only;omega
theorem PK (w a k:Nat):Hd w a k<2^w:=Nat.mod_lt _ (bD w)
theorem jB {c:Prop} [Decidable c] {x y n:Nat} (hx:x<n) (hy:y<n):(if c then x else y)<n:=by
 by_cases h:c
 ·rw [if_pos h];exact hx
 ·rw [if_neg h];exact hy
theorem UH {kind:Int} {w a b:Nat} (hw:1<=w) (ha:a<2^w) (hb:b<2^w):GZ kind w a b<2^w:=by
 have hp:=bD w
 have hp1:1<2^w:=by
  have:=pT hw;have:=bD (w-1);omega
 unfold GZ
 refine jB (Nat.lt_of_le_of_lt Nat.and_le_left ha) (jB (Nat.or_lt_two_pow ha hb) (jB (Nat.xor_lt_two_pow ha hb) (jB (jo _ _) (jB (jo _ _) (jB (jo _ _)
  (jB (jB (by omega) (Nat.lt_of_le_of_lt (Nat.div_le_self _ _) ha)) (jB (jB ha (Nat.lt_of_le_of_lt (Nat.mod_le _ _) ha)) (jB ?_ (jB ?_ (jB (Nat.mod_lt _ hp)
  (jB (Nat.lt_of_le_of_lt (Nat.div_le_self _ _) ha) (jB (jo _ _) (jB (PK _ _ _) (PK _ _ _))))))))))))))
 ·unfold I0
  exact jB (jB hp1 (by omega)) (jo _ _)
 ·unfold IV
  exact jB ha (jo _ _)
theorem W5 {kind:Int} {w a b:Nat} (hw:1<=w) (ha:a<2^w) (hb:b<2^w):(rk kind w a b).1<2^(rk kind w a b).2:=by
 unfold rk
 split
 ·exact UH hw ha hb
 ·simp only;split<;>omega
theorem ZK {w a b:Nat} (hw:1<=w):(sgn w (jc w (sgn w a+sgn w b))≠sgn w a+sgn w b)↔ ¬(-((2^(w-1):Nat):Int)<=sgn w a+sgn w b/\sgn w a+sgn w b<((2^(w-1):Nat):Int)):=by
 rw [ne_eq,TY hw]
structure SortP where
 idx:Int
 wid:Int
 deriving DecidableEq
structure NodeP where
 kind:Int
 a:Int
 b:Int
 c:Int
 n:Int
 m:Int
 sort:SortP
 name:ByteArray
structure BindP where
 state:Int
 node:Int
 deriving DecidableEq
structure ai where
 nodes:List NodeP
 inits:List BindP
 nexts:List BindP
 bads:List Int
 holds:List Int
def bR (s:SortP):Bool:=decide ((0<=s.idx/\s.idx<=2)/\(1<=s.wid/\s.wid<=16))
def cL (s:SortP):Nat:=if bR s then 2^s.idx.toNat else 0
def dG (s:SortP):Nat:=cL s*s.wid.toNat
def cx (w:Int):SortP:=⟨0,w⟩
def ar (kind:Int):Int:=
 if(1<=kind/\kind<=5)\/(30<=kind/\kind<=32)then 1 else if(6<=kind/\kind<=29)\/kind=37 then 2 else if kind=33\/kind=38 then 3 else
 if 34<=kind/\kind<=36 then 0 else-1
def gw (c:UInt8):Bool:=decide (97<=c.toNat/\c.toNat<=122)
def nf (c:UInt8):Bool:=decide (48<=c.toNat/\c.toNat<=57)
def fL (s:ByteArray):Bool:=decide (1<=s.size/\s.size<=8)&&(match s.data.toList with| []=>false|c::r=>gw c&&r.all fun c=>gw c||nf c)
def fG (kind:Int):Bool:=decide (kind=35\/kind=36)
def qG (k:Int) (len:Nat) (i:Int) (p:Int):Bool:=if i<k then decide (0<=p/\p<=(len:Int)-1)else decide (p=0)
def eU (len:Nat) (n:NodeP):Bool:=
 decide (0<=ar n.kind)&&(qG (ar n.kind) len 0 n.a&&qG (ar n.kind) len 1 n.b&&qG (ar n.kind) len 2 n.c)&&
 (if fG n.kind then fL n.name else decide (n.name.size=0))&&(decide (n.kind=30)||decide (n.m=0))&&
 (decide (n.kind=30\/n.kind=31\/n.kind=32\/n.kind=34)||decide (n.n=0))
def iz (w v:Int):Bool:=decide ((1<=w/\w<=16)/\0<=v/\v<=((2^w.toNat:Nat):Int)-1)
def de (n:NodeP) (a b c:SortP):Option SortP:=
 if n.kind=33 then(if a=cx 1/\b=c then some b else none)else
 if n.kind=37 then(if 0<a.idx/\b=cx a.idx then some (cx a.wid)else none)else
 if n.kind=38 then(if 0<a.idx/\b=cx a.idx/\c=cx a.wid then some a else none)else
 if n.kind=21 then(if a=b then some (cx 1)else none)else
 if 0<a.idx\/(ar n.kind=2/\0<b.idx)then none else
 if n.kind=29 then(if a.wid+b.wid<=16 then some (cx (a.wid+b.wid))else none)else
 if n.kind=30 then(if(0<=n.n/\n.n<=a.wid-1)/\0<=n.m/\n.m<=n.n then some (cx (n.n-n.m+1))else none)else
 if n.kind=31\/n.kind=32 then(if 0<=n.n/\n.n<=16-a.wid then some (cx (a.wid+n.n))else none)else
 if n.kind<=5 then some (cx (if n.kind<=2 then a.wid else 1))else
 if a=b then some (cx (if n.kind<=20 then a.wid else 1))else none
def aE (l:List NodeP) (p:Int):SortP:=match l[p.toNat]? with|some n=>n.sort|none=>⟨0,0⟩
def cR (l:List NodeP) (n:NodeP):Option SortP:=
 if l.length<=60/\eU l.length n=true then
  (if ar n.kind=0 then(if(if n.kind=34 then decide (n.sort.idx=0)&&iz n.sort.wid n.n else bR n.sort)then some n.sort else none)else
   if bR (aE l n.a)&&((decide (ar n.kind<2)||bR (aE l n.b))&&(decide (ar n.kind<3)||bR (aE l n.c)))then
    de n (aE l n.a) (aE l n.b) (aE l n.c)else none)
 else none
def co (l:List NodeP):Bool:=(List.range l.length).all fun i=>match l[i]? with|some n=>decide (cR (l.take i) n=some n.sort)|none=>true
def jD {α:Type} [DecidableEq α] (l:List α):Bool:=(List.range l.length).any fun i=>match l[i]? with|some x=>(l.take i).any fun y=>decide (y=x)|none=>false
def kW (l:List NodeP):Bool:=(List.range l.length).any fun i=>match l[i]? with|some n=>decide (n.name.size≠0)&&(l.take i).any fun y=>decide (y.name=n.name)|none=>false
def tf (m:ai):Bool:=kW m.nodes||(jD (m.inits.map (·.state))||jD (m.nexts.map (·.state)))
def dE (l:List NodeP):Nat->List Bool
 |0=> []
 |i+1=>dE l i++ [match l[i]? with
   |some n=>fG n.kind||((decide (0<ar n.kind)&&(dE l i).getD n.a.toNat false)||((decide (1<ar n.kind)&&(dE l i).getD n.b.toNat false)||(decide (2<ar n.kind)&&(dE l i).getD n.c.toNat false)))
   |none=>false]
def cW (l:List NodeP) (p:Int):Bool:=decide (0<=p/\p<=(l.length:Int)-1)
def jI (l:List NodeP) (p:Int):Int:=match l[p.toNat]? with|some n=>n.kind|none=>0
def iG (l:List NodeP) (b:BindP):Bool:=
 (cW l b.state&&cW l b.node&&decide (jI l b.state=36))&&((decide (aE l b.state=aE l b.node)||decide (aE l b.node=cx (aE l b.state).wid))&& !(dE l l.length).getD b.node.toNat false)
def fy (l:List NodeP) (b:BindP):Bool:=(cW l b.state&&cW l b.node&&decide (jI l b.state=36))&&decide (aE l b.state=aE l b.node)
def dR (l:List NodeP) (p:Int):Bool:=cW l p&&decide (aE l p=cx 1)
def ak (l:List NodeP) (kind:Int):Nat:=((l.filter fun n=>decide (n.kind=kind)).map fun n=>dG n.sort).sum
def aU (l:List NodeP) (kind:Int):List Nat:=(List.range l.length).filter fun i=>match l[i]? with|some n=>decide (n.kind=kind)|none=>false
def ax (m:ai):Int:=
 if 60<m.nodes.length\/60<m.inits.length\/60<m.nexts.length\/4<m.bads.length\/4<m.holds.length then 1 else
 if co m.nodes=false then 2 else if tf m=true then 3 else
 if(m.inits.all (iG m.nodes)&&m.nexts.all (fy m.nodes))=false then 4 else
 if(m.bads.all (dR m.nodes)&&m.holds.all (dR m.nodes))=false then 5 else
 if 8<ak m.nodes 36\/5<ak m.nodes 35 then 6 else 0
def cU (v:List (List Nat)) (p:Int):Nat:=(v.getD p.toNat []).getD 0 0
def Nt (a lo n:Nat):Nat:=a/2^lo%2^n
def Gi (w a more:Nat) (signed:Bool):Nat:=if signed then jc (w+more) (sgn w a)else a
def gQ (l:List NodeP) (n:NodeP) (v:List (List Nat)):List Nat:=
 if n.kind=34 then [n.n.toNat]else
 if n.kind=33 then(if cU v n.a=1 then v.getD n.b.toNat []else v.getD n.c.toNat [])else
 if n.kind=21 then [if v.getD n.a.toNat []=v.getD n.b.toNat []then 1 else 0]else
 if n.kind=37 then [(v.getD n.a.toNat []).getD (cU v n.b) 0]else
 if n.kind=38 then(v.getD n.a.toNat []).set (cU v n.b) (cU v n.c)else
 if n.kind=29 then [cU v n.a*2^(aE l n.b).wid.toNat+cU v n.b]else
 if n.kind=30 then [Nt (cU v n.a) n.m.toNat (n.n-n.m+1).toNat]else
 if n.kind=31\/n.kind=32 then [Gi (aE l n.a).wid.toNat (cU v n.a) n.n.toNat (decide (n.kind=32))]else
 if ar n.kind=1 then [(xd n.kind (aE l n.a).wid.toNat (cU v n.a)).1]else [(rk n.kind (aE l n.a).wid.toNat (cU v n.a) (cU v n.b)).1]
def gL (l:List NodeP) (s inp:List (List Nat)):Nat->List (List Nat)
 |0=> []
 |i+1=>gL l s inp i++ [match l[i]? with
   |some n=>if n.kind=36 then s.getD (aU (l.take i) 36).length []else if n.kind=35 then inp.getD (aU (l.take i) 35).length []else gQ l n (gL l s inp i)
   |none=> []]
def rq (n:NodeP):List Nat:=([n.a.toNat,n.b.toNat,n.c.toNat]).take (ar n.kind).toNat
theorem vB (k:Int):ar k=0\/ar k=1\/ar k=2\/ar k=3\/ar k= -1:=by
 unfold ar
 by_cases h1:(1<=k/\k<=5)\/(30<=k/\k<=32)
 ·rw [if_pos h1];simp
 rw [if_neg h1]
 by_cases h2:(6<=k/\k<=29)\/k=37
 ·rw [if_pos h2];simp
 rw [if_neg h2]
 by_cases h3:k=33\/k=38
 ·rw [if_pos h3];simp
 rw [if_neg h3]
 by_cases h4:34<=k/\k<=36
 ·rw [if_pos h4];simp
 rw [if_neg h4];simp
def LR (l:List NodeP):Prop:= ∀(i:Nat) (n:NodeP),l[i]?=some n->0<=ar n.kind/\ ∀p∈rq n,p<i
def qN (l:List NodeP) (j:Nat):Bool:=match l[j]? with|some n=>fG n.kind|none=>false
def rD (l:List NodeP) (j:Nat):Bool:=(dE l l.length).getD j false
theorem ii (l:List NodeP): ∀i,(dE l i).length=i:=by
 intro i
 induction i with
 |zero=>rfl
 |succ i ih=>simp only [dE,List.length_append,ih,List.length_cons,List.length_nil]
theorem Rq (l:List NodeP): ∀d i j,j<i->(dE l (i+d)).getD j false=(dE l i).getD j false:=by
 intro d
 induction d with
 |zero=>intro i j _;rfl
 |succ d ih=>
  intro i j hj
  rw [<-Nat.add_assoc]
  simp only [dE]
  have hl:=ii l (i+d)
  rw [List.getD,List.getElem?_append_left (by omega)]
  exact ih i j hj
theorem rv {l:List NodeP} {i j:Nat} (hj:j<i) (hi:i<=l.length):(dE l i).getD j false=rD l j:=by
 have:=Rq l (l.length-i) i j hj
 rw [show i+(l.length-i)=l.length by omega]at this
 exact this.symm
theorem Tw {l:List NodeP} (ha:LR l) {i:Nat} {n:NodeP} (hn:l[i]?=some n):rD l i=true↔fG n.kind=true\/ ∃p∈rq n,rD l p=true:=by
 have hi:i<l.length:=(List.getElem?_eq_some_iff.1 hn).1
 obtain⟨hk,hp⟩:=ha i n hn
 have e:rD l i=(fG n.kind||((decide (0<ar n.kind)&&(dE l i).getD n.a.toNat false)||((decide (1<ar n.kind)&&(dE l i).getD n.b.toNat false)||(decide (2<ar n.kind)&&(dE l i).getD n.c.toNat false)))):=by
  rw [<-rv (Nat.lt_succ_self i) hi]
  simp only [dE]
  have hl:=ii l i
  rw [List.getD,List.getElem?_append_right (by omega),hl,Nat.sub_self]
  simp only [hn,List.getElem?_cons_zero,Option.getD_some]
 rw [e]
 unfold rq at hp⊢
 rcases vB n.kind with h|h|h|h|h
 ·simp [h]
 ·rw [h]at hp⊢
  have h1:=hp n.a.toNat (by simp)
  rw [rv h1 (by omega)]
  simp
 ·rw [h]at hp⊢
  have h1:=hp n.a.toNat (by simp)
  have h2:=hp n.b.toNat (by simp)
  rw [rv h1 (by omega),rv h2 (by omega)]
  simp
 ·rw [h]at hp⊢
  have h1:=hp n.a.toNat (by simp)
  have h2:=hp n.b.toNat (by simp)
  have h3:=hp n.c.toNat (by simp)
  rw [rv h1 (by omega),rv h2 (by omega),rv h3 (by omega)]
  simp
 ·omega
def un (l:List NodeP):Nat->(Nat->Bool)->Nat->Bool
 |0,S=>S
 |i+1,S=>un l i (if S i then fun j=>S j||(match l[i]? with|some n=>(rq n).contains j|none=>false)else S)
theorem P8 {l:List NodeP} (ha:LR l): ∀(i:Nat) (S:Nat->Bool),i<=l.length->
  ((∃j,un l i S j=true/\qN l j=true)↔(∃j,i<=j/\S j=true/\qN l j=true)\/ ∃j,j<i/\S j=true/\rD l j=true):=by
 intro i
 induction i with
 |zero=>intro S _;simp [un]
 |succ i ih=>
  intro S hi
  simp only [un]
  rw [ih _ (by omega)]
  obtain⟨n,hn⟩: ∃n,l[i]?=some n:=⟨l[i],List.getElem?_eq_getElem (by omega)⟩
  have hm:=Tw ha hn
  have hp:=(ha i n hn).2
  have hnm:qN l i=fG n.kind:=by unfold qN;rw [hn]
  by_cases hS:S i=true
  ·simp only [hS,if_true,hn]
   constructor
   ·rintro (⟨j,h1,h2,h3⟩|⟨j,h1,h2,h3⟩)
    ·by_cases hji:j=i
     ·subst hji
      exact .inr ⟨j,by omega,hS,hm.2 (.inl (hnm▸h3))⟩
     ·rcases Bool.or_eq_true_iff.1 h2 with h2|h2
      ·exact .inl ⟨j,by omega,h2,h3⟩
      ·have:=hp j (by simpa using h2);omega
    ·rcases Bool.or_eq_true_iff.1 h2 with h2|h2
     ·exact .inr ⟨j,by omega,h2,h3⟩
     ·exact .inr ⟨i,by omega,hS,hm.2 (.inr ⟨j,by simpa using h2,h3⟩)⟩
   ·rintro (⟨j,h1,h2,h3⟩|⟨j,h1,h2,h3⟩)
    ·exact .inl ⟨j,by omega,by simp [h2],h3⟩
    ·by_cases hji:j=i
     ·subst hji
      rcases hm.1 h3 with h4|⟨p,hp1,hp2⟩
      ·exact .inl ⟨j,Nat.le_refl _,by simp [hS],hnm▸h4⟩
      ·exact .inr ⟨p,hp p hp1,by simp [hp1],hp2⟩
     ·exact .inr ⟨j,by omega,by simp [h2],h3⟩
  ·simp only [hS,if_false]
   constructor
   ·rintro (⟨j,h1,h2,h3⟩|⟨j,h1,h2,h3⟩)
    ·by_cases hji:j=i
     ·subst hji;exact absurd h2 hS
     ·exact .inl ⟨j,by omega,h2,h3⟩
    ·exact .inr ⟨j,by omega,h2,h3⟩
   ·rintro (⟨j,h1,h2,h3⟩|⟨j,h1,h2,h3⟩)
    ·exact .inl ⟨j,by omega,h2,h3⟩
    ·by_cases hji:j=i
     ·subst hji;exact absurd h2 hS
     ·exact .inr ⟨j,by omega,h2,h3⟩
theorem VO {l:List NodeP} (ha:LR l) {i:Nat} (hi:i<l.length):(∃j,un l (i+1) (fun j=>decide (j=i)) j=true/\qN l j=true)↔rD l i=true:=by
 rw [P8 ha _ _ (by omega)]
 constructor
 ·rintro (⟨j,h1,h2,h3⟩|⟨j,h1,h2,h3⟩)
  ·simp at h2;omega
  ·simp at h2;subst h2;exact h3
 ·intro h;exact .inr ⟨i,by omega,by simp,h⟩
theorem V6 {l:List NodeP} (ha:LR l) (k:Nat): ∀(i:Nat) (S:Nat->Bool),i<=k+1->i<=l.length->(∀j,S j=true->j<=k)-> ∀j,un l i S j=true->j<=k:=by
 intro i
 induction i with
 |zero=>intro S _ _ hS j hj;exact hS j hj
 |succ i ih=>
  intro S hk hi hS j hj
  simp only [un]at hj
  refine ih _ (by omega) (by omega) ?_ j hj
  intro j' hj'
  split at hj'
  ·rcases Bool.or_eq_true_iff.1 hj' with h|h
   ·exact hS j' h
   ·obtain⟨n,hn⟩: ∃n,l[i]?=some n:=⟨l[i],List.getElem?_eq_getElem (by omega)⟩
    rw [hn]at h
    have:=(ha i n hn).2 j' (by simpa using h)
    omega
  ·exact hS j' hj'
def kU (w:Nat):Nat->Nat->List Nat
 |0,_=> []
 |c+1,code=>kU w c code++ [code/2^(w*c)%2^w]
def cc (l:List NodeP) (p:Nat):Nat:=(aE l p).wid.toNat
def aK (l:List NodeP) (p:Nat):Nat:=cL (aE l p)
def cw (l:List NodeP) (ps:List Nat):Nat:=(ps.map fun p=>cc l p*aK l p).sum
def gj (l:List NodeP) (ps:List Nat) (code:Nat):List (List Nat):=
 (List.range ps.length).map fun i=>kU (cc l (ps.getD i 0)) (aK l (ps.getD i 0)) (code/2^cw l (ps.take i))
theorem qf (w c code:Nat):(kU w c code).length=c:=by
 induction c with
 |zero=>rfl
 |succ c ih=>simp only [kU,List.length_append,ih,List.length_cons,List.length_nil]
theorem Ph {w c code x:Nat} (h:x∈kU w c code):x<2^w:=by
 induction c with
 |zero=>cases h
 |succ c ih=>
  simp only [kU,List.mem_append,List.mem_singleton]at h
  rcases h with h|h
  ·exact ih h
  ·subst h;exact Nat.mod_lt _ (bD w)
theorem ky (l:List NodeP) (ps:List Nat) (code:Nat):(gj l ps code).length=ps.length:=by simp [gj]
theorem Pn {α:Type} {l:List α} {i:Nat} {x:α} (h:l[i]?=some x):i<l.length:=by
 rcases Nat.lt_or_ge i l.length with h'|h'
 ·exact h'
 ·rw [List.getElem?_eq_none h']at h;cases h
theorem GS {l:List NodeP} {ps:List Nat} {code i p:Nat} (h:ps[i]?=some p):(gj l ps code).getD i []=kU (cc l p) (aK l p) (code/2^cw l (ps.take i)):=by
 have hlt:=Pn h
 have hp:ps.getD i 0=p:=by rw [List.getD_eq_getElem?_getD,h];rfl
 unfold gj
 rw [List.getD_eq_getElem?_getD,List.getElem?_map,List.getElem?_range hlt]
 simp only [Option.map_some,Option.getD_some,hp]
theorem mO {l:List NodeP} {ps:List Nat} {i p:Nat} (h:ps[i]?=some p):cw l (ps.take (i+1))=cw l (ps.take i)+cc l p*aK l p:=by
 have hlt:=Pn h
 rw [List.getElem?_eq_getElem hlt]at h
 unfold cw
 rw [List.take_succ_eq_append_getElem hlt,Option.some.inj h,List.map_append,List.sum_append];simp
theorem E2 (l:List NodeP) (ps:List Nat) (i:Nat):cw l (ps.take i)<=cw l ps:=by
 conv=>rhs;rw [<-List.take_append_drop i ps]
 unfold cw
 rw [List.map_append,List.sum_append];omega
def fz (w:Nat):List Nat->Nat
 | []=>0
 |x::xs=>x+2^w*fz w xs
theorem wF {w:Nat}: ∀{xs:List Nat},(∀x∈xs,x<2^w)->fz w xs<2^(w*xs.length):=by
 intro xs
 induction xs with
 |nil=>intro _;simp [fz]
 |cons x xs ih=>
  intro h
  have h1:=ih fun y hy=>h y (by simp [hy])
  have h2:=h x (by simp)
  simp only [fz,List.length_cons]
  rw [Nat.mul_add,Nat.mul_one,Nat.pow_add,Nat.mul_comm (2^(w*xs.length))]
  have h3:=Nat.mul_le_mul_left (2^w) (Nat.succ_le_of_lt h1)
  rw [Nat.succ_eq_add_one,Nat.mul_add,Nat.mul_one]at h3
  omega
theorem Gb (w:Nat) (xs:List Nat) (x:Nat):fz w (xs++ [x])=fz w xs+2^(w*xs.length)*x:=by
 induction xs with
 |nil=>simp [fz]
 |cons y ys ih=>
  simp only [List.cons_append,fz,ih,List.length_cons]
  rw [Nat.mul_add,<-Nat.add_assoc]
  congr 1
  rw [Nat.mul_add w,Nat.mul_one,Nat.add_comm (w*ys.length),Nat.pow_add,Nat.mul_assoc]
theorem Hf (w:Nat) (code k:Nat): ∀c,c<=k->kU w c (code%2^(w*k))=kU w c code:=by
 intro c
 induction c with
 |zero=>intro _;rfl
 |succ c ih=>
  intro h
  simp only [kU,ih (by omega)]
  congr 2
  have hk:w*k=w*c+(w+w*(k-c-1)):=by
   have:k=c+(1+(k-c-1)):=by omega
   conv=>lhs;rw [this]
   simp only [Nat.mul_add,Nat.mul_one]
  rw [hk,Nat.pow_add,Nat.mod_mul_right_div_self,Nat.pow_add,Nat.mod_mul_right_mod]
theorem CB (w c code:Nat):fz w (kU w c code)=code%2^(w*c):=by
 induction c with
 |zero=>simp [kU,fz,Nat.mod_one]
 |succ c ih=>
  rw [kU,Gb,ih,qf,Nat.mul_add,Nat.mul_one,Nat.pow_add,Nat.mod_mul]
theorem Rs {w:Nat}: ∀{xs:List Nat} {k:Nat},(∀x∈xs,x<2^w)->k<xs.length->fz w xs/2^(w*k)%2^w=xs.getD k 0:=by
 intro xs
 induction xs with
 |nil=>intro k _ h;simp at h
 |cons x xs ih=>
  intro k h hk
  have hx:=h x (by simp)
  have hp:=bD w
  cases k with
  |zero=>
   simp only [fz,Nat.mul_zero,Nat.pow_zero,Nat.div_one,List.getD_cons_zero]
   rw [Nat.add_mul_mod_self_left,Nat.mod_eq_of_lt hx]
  |succ k=>
   rw [List.getD_cons_succ,<-ih (fun y hy=>h y (by simp [hy])) (by simpa using hk)]
   simp only [fz]
   rw [Nat.mul_add,Nat.mul_one,Nat.add_comm (w*k),Nat.pow_add,<-Nat.div_div_eq_div_mul,Nat.add_mul_div_left _ _ hp,Nat.div_eq_of_lt hx,Nat.zero_add]
theorem Cd {w:Nat} {xs:List Nat} (h: ∀x∈xs,x<2^w):kU w xs.length (fz w xs)=xs:=by
 have key: ∀c,c<=xs.length->kU w c (fz w xs)=xs.take c:=by
  intro c
  induction c with
  |zero=>intro _;rfl
  |succ c ih=>
   intro hc
   rw [kU,ih (by omega),Rs h (by omega),List.take_succ_eq_append_getElem (by omega),List.getD_eq_getElem?_getD,List.getElem?_eq_getElem (by omega)];rfl
 have:=key xs.length (Nat.le_refl _)
 rwa [List.take_length]at this
theorem FS (w n:Nat):fz w (List.replicate n 0)=0:=by
 induction n with
 |zero=>rfl
 |succ n ih=>simp only [List.replicate_succ,fz,ih];simp
def nbA (l:List NodeP) (p:Nat):Nat:=cc l p*aK l p
def B4 (l:List NodeP):List Nat->Nat->List (List Nat)
 | [],_=> []
 |p::ps,code=>kU (cc l p) (aK l p) code::B4 l ps (code/2^nbA l p)
def dZ (l:List NodeP):List Nat->List (List Nat)->Nat
 | [],_=>0
 |p::ps,vs=>fz (cc l p) (vs.headD [])+2^nbA l p*dZ l ps vs.tail
def mw (l:List NodeP):List Nat->List (List Nat)->Prop
 | [],vs=>vs= []
 |p::ps,vs=> ∃v r,vs=v::r/\v.length=aK l p/\(∀x∈v,x<2^cc l p)/\mw l ps r
theorem oE (l:List NodeP) (p:Nat) (ps:List Nat):cw l (p::ps)=nbA l p+cw l ps:=by simp [cw,nbA]
theorem sk (l:List NodeP): ∀(ps:List Nat) (code:Nat),gj l ps code=B4 l ps code:=by
 intro ps
 induction ps with
 |nil=>intro code;simp [gj,B4]
 |cons p ps ih=>
  intro code
  rw [B4,<-ih]
  unfold gj
  rw [List.length_cons,List.range_succ_eq_map,List.map_cons,List.map_map]
  simp only [List.getD_cons_zero,List.take_zero,cw,List.map_nil,List.sum_nil,Nat.pow_zero,Nat.div_one,List.cons.injEq,true_and]
  apply List.map_congr_left
  intro i _
  simp only [Function.comp,List.getD_cons_succ,List.take_succ_cons,List.map_cons,List.sum_cons,nbA]
  rw [Nat.pow_add,Nat.div_div_eq_div_mul]
theorem Ma (l:List NodeP): ∀(ps:List Nat) (code:Nat),mw l ps (B4 l ps code):=by
 intro ps
 induction ps with
 |nil=>intro code;rfl
 |cons p ps ih=>exact fun code=>⟨_,_,rfl,qf _ _ _,fun x hx=>Ph hx,ih _⟩
theorem A0 {l:List NodeP}: ∀{ps:List Nat} {vs:List (List Nat)},mw l ps vs->dZ l ps vs<2^cw l ps:=by
 intro ps
 induction ps with
 |nil=>intro vs _;simp [dZ,cw]
 |cons p ps ih=>
  rintro _ ⟨v,r,rfl,h1,h2,h3⟩
  have h4:=ih h3
  have h5:=wF h2
  rw [h1]at h5
  have h5':fz (cc l p) v<2^nbA l p:=h5
  simp only [dZ,List.headD_cons,List.tail_cons]
  rw [oE,Nat.pow_add]
  have h6:=Nat.mul_le_mul_left (2^nbA l p) (Nat.succ_le_of_lt h4)
  rw [Nat.succ_eq_add_one,Nat.mul_add,Nat.mul_one]at h6
  omega
theorem yd {l:List NodeP}: ∀{ps:List Nat} {vs:List (List Nat)},mw l ps vs->B4 l ps (dZ l ps vs)=vs:=by
 intro ps
 induction ps with
 |nil=>rintro vs rfl;rfl
 |cons p ps ih=>
  rintro _ ⟨v,r,rfl,h1,h2,h3⟩
  have h5:=wF h2
  rw [h1]at h5
  have h5':fz (cc l p) v<2^nbA l p:=h5
  simp only [B4,dZ,List.headD_cons,List.tail_cons]
  rw [Nat.add_mul_div_left _ _ (bD _),Nat.div_eq_of_lt h5',Nat.zero_add,ih h3,<-Hf _ _ _ _ (Nat.le_refl _)]
  have:(fz (cc l p) v+2^nbA l p*dZ l ps r)%2^(cc l p*aK l p)=fz (cc l p) v:=by
   show _%2^nbA l p=_
   rw [Nat.add_mul_mod_self_left,Nat.mod_eq_of_lt h5']
  rw [this,<-h1,Cd h2]
theorem nZ {l:List NodeP}: ∀{ps:List Nat} {vs:List (List Nat)},mw l ps vs->vs.length=ps.length:=by
 intro ps
 induction ps with
 |nil=>rintro vs rfl;rfl
 |cons p ps ih=>rintro _ ⟨v,r,rfl,h1,h2,h3⟩;simp [ih h3]
theorem OU {l:List NodeP}: ∀{ps:List Nat} {vs:List (List Nat)} {p:Nat} {v:List Nat},vs.length=ps.length->
  dZ l (ps++ [p]) (vs++ [v])=dZ l ps vs+2^cw l ps*fz (cc l p) v:=by
 intro ps
 induction ps with
 |nil=>
  intro vs p v h
  obtain rfl:vs= []:=List.eq_nil_of_length_eq_zero (by simpa using h)
  simp [dZ,cw]
 |cons q ps ih=>
  intro vs p v h
  obtain⟨u,r,rfl⟩: ∃u r,vs=u::r:=by
   cases vs with
   |nil=>simp at h
   |cons u r=>exact⟨u,r,rfl⟩
  simp only [List.cons_append,dZ,List.headD_cons,List.tail_cons]
  rw [ih (by simpa using h),oE,Nat.pow_add,Nat.mul_add,Nat.mul_assoc,Nat.add_assoc]
theorem Qn {l:List NodeP}: ∀{ps:List Nat} {vs:List (List Nat)},mw l ps vs-> ∀i,mw l (ps.take i) (vs.take i):=by
 intro ps
 induction ps with
 |nil=>rintro vs rfl i;simp [mw]
 |cons p ps ih=>
  rintro _ ⟨v,r,rfl,h1,h2,h3⟩ i
  cases i with
  |zero=>rfl
  |succ i=>exact⟨v,r.take i,rfl,h1,h2,ih h3 i⟩
theorem pJ {l:List NodeP}: ∀{ps:List Nat} {vs:List (List Nat)},mw l ps vs-> ∀{i p:Nat},ps[i]?=some p->(vs.getD i []).length=aK l p/\ ∀x∈vs.getD i [],x<2^cc l p:=by
 intro ps
 induction ps with
 |nil=>rintro vs rfl i p h;simp at h
 |cons q ps ih=>
  rintro _ ⟨v,r,rfl,h1,h2,h3⟩ i p h
  cases i with
  |zero=>simp at h;subst h;exact⟨h1,h2⟩
  |succ i=>exact ih h3 (by simpa using h)
def ce (binds:List BindP) (p:Nat):Option Nat:=(binds.find? fun b=>decide (b.state=(p:Int))).map (·.node.toNat)
def fI (l:List NodeP) (c:Nat->Bool):List Nat->Nat
 | []=>0
 |p::ps=>(if c p then 2^nbA l p-1 else 0)+2^nbA l p*fI l c ps
def kz (l:List NodeP) (f:Nat->Option (List Nat)) (ps:List Nat):List (List Nat):=ps.map fun p=>(f p).getD (List.replicate (aK l p) 0)
theorem OE (n:Nat):2^n-1<2^n:=by have:=bD n;omega
theorem Px (l:List NodeP) (c:Nat->Bool) (p:Nat):(if c p then 2^nbA l p-1 else 0)<2^nbA l p:=by
 have:=bD (nbA l p);split<;>omega
theorem wU (l:List NodeP) (c:Nat->Bool): ∀ps,fI l c ps<2^cw l ps:=by
 intro ps
 induction ps with
 |nil=>simp [fI,cw]
 |cons p ps ih=>
  have h1:=Px l c p
  rw [oE,Nat.pow_add,fI]
  have h6:=Nat.mul_le_mul_left (2^nbA l p) (Nat.succ_le_of_lt ih)
  rw [Nat.succ_eq_add_one,Nat.mul_add,Nat.mul_one]at h6
  omega
theorem CE {n a b:Nat} (ha:a<2^n) (j:Nat):(a+2^n*b).testBit j=if j<n then a.testBit j else b.testBit (j-n):=by
 rw [Nat.add_comm,Nat.testBit_two_pow_mul_add _ ha]
theorem RQ {n a b c d:Nat} (ha:a<2^n) (hc:c<2^n):(a+2^n*b)&&&(c+2^n*d)=(a&&&c)+2^n*(b&&&d):=by
 apply Nat.eq_of_testBit_eq
 intro j
 rw [Nat.testBit_and,CE ha,CE hc,CE (Nat.lt_of_le_of_lt Nat.and_le_left ha)]
 split<;>rw [Nat.testBit_and]
theorem Qk {n a b c d:Nat} (ha:a<2^n) (hc:c<2^n):a+2^n*b=c+2^n*d↔a=c/\b=d:=by
 constructor
 ·intro h
  have h1:(a+2^n*b)%2^n=(c+2^n*d)%2^n:=by rw [h]
  have h2:(a+2^n*b)/2^n=(c+2^n*d)/2^n:=by rw [h]
  rw [Nat.add_mul_mod_self_left,Nat.add_mul_mod_self_left,Nat.mod_eq_of_lt ha,Nat.mod_eq_of_lt hc]at h1
  rw [Nat.add_mul_div_left _ _ (bD n),Nat.add_mul_div_left _ _ (bD n),Nat.div_eq_of_lt ha,Nat.div_eq_of_lt hc]at h2
  exact⟨h1,by omega⟩
 ·rintro ⟨rfl,rfl⟩;rfl
theorem CT {l:List NodeP} {f:Nat->Option (List Nat)}: ∀{ps:List Nat} (s:Nat),(∀p∈ps,∀v,f p=some v->v.length=aK l p/\ ∀x∈v,x<2^cc l p)->
  (s&&&fI l (fun p=>(f p).isSome) ps=dZ l ps (kz l f ps)↔ ∀(i p:Nat),ps[i]?=some p-> ∀v,f p=some v->(B4 l ps s).getD i []=v):=by
 intro ps
 induction ps with
 |nil=>intro s _;simp [fI,dZ]
 |cons p ps ih=>
  intro s hf
  have ih':=ih (s/2^nbA l p) fun q hq=>hf q (by simp [hq])
  have hs:s=s%2^nbA l p+2^nbA l p*(s/2^nbA l p):=(Nat.mod_add_div _ _).symm
  have hm:=Nat.mod_lt s (bD (nbA l p))
  have hhead:fz (cc l p) ((f p).getD (List.replicate (aK l p) 0))<2^nbA l p:=by
   cases h:f p with
   |none=>simp only [Option.getD_none,FS];exact bD _
   |some v=>
    have h2:=hf p (by simp) v h
    have h1:=wF h2.2
    rw [h2.1]at h1;exact h1
  have e1:s&&&fI l (fun p=>(f p).isSome) (p::ps)=(s%2^nbA l p&&&(if(f p).isSome then 2^nbA l p-1 else 0))+2^nbA l p*(s/2^nbA l p&&&fI l (fun p=>(f p).isSome) ps):=by
   conv=>lhs;rw [hs]
   rw [fI,RQ hm (Px l (fun p=>(f p).isSome) p)]
  have e2:dZ l (p::ps) (kz l f (p::ps))=fz (cc l p) ((f p).getD (List.replicate (aK l p) 0))+2^nbA l p*dZ l ps (kz l f ps):=rfl
  rw [e1,e2,Qk (Nat.lt_of_le_of_lt Nat.and_le_left hm) hhead,ih']
  constructor
  ·rintro ⟨h1,h2⟩ i q hq v hv
   cases i with
   |zero=>
    simp at hq;subst hq
    rw [hv]at h1
    simp only [Option.isSome_some,if_true,Option.getD_some,Nat.and_two_pow_sub_one_eq_mod,Nat.mod_mod]at h1
    have h3:=hf p (by simp) v hv
    simp only [B4,List.getD_cons_zero]
    rw [<-Hf _ _ _ _ (Nat.le_refl _)]
    show kU _ _ (s%2^nbA l p)=v
    rw [h1,<-h3.1,Cd h3.2]
   |succ i=>exact h2 i q (by simpa using hq) v hv
  ·intro h
   refine⟨?_,fun i q hq v hv=>h (i+1) q (by simpa using hq) v hv⟩
   cases hv:f p with
   |none=>simp [FS]
   |some v=>
    have h1:=h 0 p rfl v hv
    simp only [B4,List.getD_cons_zero]at h1
    simp only [Option.isSome_some,if_true,Option.getD_some,Nat.and_two_pow_sub_one_eq_mod,Nat.mod_mod]
    rw [<-h1,CB];rfl
theorem Cq {l:List NodeP} {f:Nat->Option (List Nat)} {ps:List Nat} (h: ∀p∈ps,∀v,f p=some v->v.length=aK l p/\ ∀x∈v,x<2^cc l p):mw l ps (kz l f ps):=by
 induction ps with
 |nil=>rfl
 |cons p ps ih=>
  refine⟨_,_,rfl,?_,?_,ih fun q hq=>h q (by simp [hq])⟩
  ·show ((f p).getD (List.replicate (aK l p) 0)).length=_
   cases hv:f p with
   |none=>simp
   |some v=>exact(h p (by simp) v hv).1
  ·show∀x∈(f p).getD (List.replicate (aK l p) 0),_
   cases hv:f p with
   |none=>
    intro x hx
    simp at hx
    rw [hx.2];exact bD _
   |some v=>exact(h p (by simp) v hv).2
theorem MJ {l:List NodeP} {f:Nat->Option (List Nat)} {ps:List Nat} (h: ∀p∈ps,∀v,f p=some v->v.length=aK l p/\ ∀x∈v,x<2^cc l p):
  dZ l ps (kz l f ps)&&&fI l (fun p=>(f p).isSome) ps=dZ l ps (kz l f ps):=by
 rw [CT _ h,yd (Cq h)]
 intro i p hp v hv
 unfold kz
 rw [List.getD_eq_getElem?_getD,List.getElem?_map,hp]
 simp [hv]
theorem Ic {a b:Nat} (h: ∀j,(a.testBit j&&b.testBit j)=false):a&&&b=0:=by
 apply Nat.eq_of_testBit_eq;intro j;rw [Nat.testBit_and,h j,Nat.zero_testBit]
theorem Ub (l:List NodeP) (c:Nat->Bool): ∀ps,fI l c ps+fI l (fun p=> !c p) ps=2^cw l ps-1:=by
 intro ps
 induction ps with
 |nil=>simp [fI,cw]
 |cons p ps ih=>
  simp only [fI]
  rw [oE,Nat.pow_add]
  have h1:=bD (nbA l p)
  have h2:=bD (cw l ps)
  have h3:2^nbA l p*fI l c ps+2^nbA l p*fI l (fun p=> !c p) ps=2^nbA l p*2^cw l ps-2^nbA l p:=by
   rw [<-Nat.mul_add,ih,Nat.mul_sub,Nat.mul_one]
  have h4:=Nat.mul_le_mul_left (2^nbA l p) h2
  by_cases hc:c p=true
  ·simp only [hc,Bool.not_true,if_true,if_false,Bool.false_eq_true];omega
  ·have hc':c p=false:=by simpa using hc
   simp only [hc',Bool.not_false,if_true,if_false,Bool.false_eq_true];omega
theorem xk (n a b:Nat):cQ n (fun j=>a.testBit j&&b.testBit j)+cQ n (fun j=>a.testBit j&& !b.testBit j)=cQ n a.testBit:=by
 induction n with
 |zero=>rfl
 |succ n ih=>
  simp only [cQ]
  by_cases h1:a.testBit n=true<;>by_cases h2:b.testBit n=true<;>simp [h1,h2]<;>omega
theorem ya {n a:Nat} (h:a<2^n):cQ n a.testBit=a:=ji h fun _ _=>rfl
theorem Wf {n a x y:Nat} (ha:a<2^n) (hxy:x+y=2^n-1) (hx:x<2^n):(a&&&x)+(a&&&y)=a/\ ∀j,j<n->y.testBit j= !x.testBit j:=by
 have hb: ∀j,j<n->y.testBit j= !x.testBit j:=by
  have h1:=xk n (2^n-1) x
  rw [ya (OE n),ji hx (fun i hi=>by rw [Nat.testBit_two_pow_sub_one];simp [hi])]at h1
  have h2:cQ n (fun j=>(2^n-1).testBit j&& !x.testBit j)=y:=by omega
  intro j hj
  rw [<-h2,rJ _ _ _ hj,Nat.testBit_two_pow_sub_one]
  simp [hj]
 refine⟨?_,hb⟩
 have h1:=xk n a x
 rw [ya ha,FK ha]at h1
 have h2:cQ n (fun j=>a.testBit j&& !x.testBit j)=a&&&y:=by
  rw [<-FK ha]
  exact rF fun j hj=>by rw [hb j hj]
 omega
theorem TZ {n x y nx t:Nat} (hxy:x+y=2^n-1) (hx:x<2^n) (ht:t<2^n) (hnx:nx<2^n) (hn:nx&&&x=nx):t&&&x=nx↔ ∃f,f&&&y=f/\nx+f=t:=by
 have h1:=Wf ht hxy hx
 constructor
 ·intro h
  exact⟨t&&&y,by rw [Nat.and_assoc,Nat.and_self],by omega⟩
 ·rintro ⟨f,hf,rfl⟩
  have hfl:f<2^n:=by omega
  have d: ∀j,(nx.testBit j&&f.testBit j)=false:=by
   intro j
   by_cases hj:j<n
   ·have e1:nx.testBit j=(nx.testBit j&&x.testBit j):=by rw [<-Nat.testBit_and,hn]
    have e2:f.testBit j=(f.testBit j&&y.testBit j):=by rw [<-Nat.testBit_and,hf]
    rw [e1,e2,h1.2 j hj]
    cases nx.testBit j<;>cases f.testBit j<;>cases x.testBit j<;>rfl
   ·rw [Nat.testBit_lt_two_pow (Nat.lt_of_lt_of_le hnx (Nat.pow_le_pow_right (by omega) (by omega)))];rfl
  have hor:nx+f=nx|||f:=by
   have hg: ∀m,cQ m nx.testBit+cQ m f.testBit=cQ m (fun j=>nx.testBit j||f.testBit j):=by
    intro m
    induction m with
    |zero=>rfl
    |succ m ih=>
     have:=d m
     simp only [cQ]
     by_cases h1:nx.testBit m=true<;>by_cases h2:f.testBit m=true<;>simp [h1,h2]at this⊢ <;>omega
   have:=hg n
   rw [ya hnx,ya hfl,PU hnx hfl]at this
   exact this
  rw [hor]
  have hfx:f&&&x=0:=Ic fun j=>by
   by_cases hj:j<n
   ·have e2:f.testBit j=(f.testBit j&&y.testBit j):=by rw [<-Nat.testBit_and,hf]
    rw [e2,h1.2 j hj]
    cases f.testBit j<;>cases x.testBit j<;>rfl
   ·rw [Nat.testBit_lt_two_pow (Nat.lt_of_lt_of_le hfl (Nat.pow_le_pow_right (by omega) (by omega)))];rfl
  rw [Nat.and_or_distrib_right,hn,hfx,Nat.or_zero]
def ng (n:Nat) (p:Nat->Bool):Bool:=(List.range n).any p
theorem cy {n:Nat} {p:Nat->Bool}:ng n p=true↔ ∃i,i<n/\p i=true:=by
 unfold ng;rw [List.any_eq_true]
 constructor
 ·rintro ⟨i,hi,h⟩;exact⟨i,List.mem_range.1 hi,h⟩
 ·rintro ⟨i,hi,h⟩;exact⟨i,List.mem_range.2 hi,h⟩
theorem pE {n:Nat} {p:Nat->Bool}:ng n p=false↔ ∀i,i<n->p i=false:=by
 rw [Bool.eq_false_iff,ne_eq,cy]
 constructor
 ·intro h i hi
  cases hp:p i with
  |false=>rfl
  |true=>exact absurd ⟨i,hi,hp⟩ h
 ·rintro h ⟨i,hi,hp⟩;rw [h i hi]at hp;cases hp
theorem Jp (n:Nat) (p:Nat->Bool):ng (n+1) p=(ng n p||p n):=by
 unfold ng;rw [List.range_succ,List.any_append];simp
structure aC where
 n:Nat
 k:Nat
 hold:Nat->Bool
 bad:Nat->Bool
 next:Nat->Nat
 fixed:Nat
 bfix:Nat
 bas:Nat
structure aC.Ok (σ:aC):Prop where
 nle:σ.n<=8
 kle:σ.k<=5
 fixed:σ.fixed<2^σ.n
 bfix:σ.bfix<2^σ.n
 next: ∀c,c<2^(σ.n+σ.k)->σ.next c<2^σ.n
 held: ∀c,c<2^(σ.n+σ.k)->σ.next c&&&σ.fixed=σ.next c
 bas:σ.bas<2^σ.n
 bheld:σ.bas&&&σ.bfix=σ.bas
namespace aC
def begins (σ:aC) (s:Nat):Bool:=decide (s&&&σ.bfix=σ.bas)
def ends (σ:aC) (c:Nat):Bool:=σ.hold c&&σ.bad c
def goes (σ:aC) (c t:Nat):Bool:=decide (t&&&σ.fixed=σ.next c)
def at_ (σ:aC) (s i:Nat):Nat:=i*2^σ.n+s
def some_ (σ:aC) (f:Nat->Nat->Bool) (s:Nat):Bool:=ng (2^σ.k) fun i=>f s (σ.at_ s i)
def leads (σ:aC) (S:Nat->Bool) (c:Nat):Bool:=ng (2^σ.n) fun t=>S t&&σ.goes c t
def fwd (σ:aC) (p S:Nat->Bool) (t:Nat):Bool:=ng (2^(σ.n+σ.k)) fun c=>(S (c%2^σ.n)&&p c)&&σ.goes c t
def bwd (σ:aC) (p S:Nat->Bool):Nat->Bool:=σ.some_ fun _ c=>p c&&σ.leads S c
theorem pow_nk (σ:aC):2^(σ.n+σ.k)=2^σ.k*2^σ.n:=by rw [Nat.pow_add,Nat.mul_comm]
theorem at_lt {σ:aC} {s i:Nat} (hs:s<2^σ.n) (hi:i<2^σ.k):σ.at_ s i<2^(σ.n+σ.k):=by
 rw [pow_nk];unfold at_
 have:=Nat.mul_le_mul_right (2^σ.n) (Nat.succ_le_of_lt hi)
 rw [Nat.succ_mul]at this;omega
theorem at_mod {σ:aC} {s i:Nat} (hs:s<2^σ.n):σ.at_ s i%2^σ.n=s:=by
 unfold at_;rw [Nat.mul_comm,Nat.mul_add_mod,Nat.mod_eq_of_lt hs]
theorem at_div {σ:aC} {s i:Nat} (hs:s<2^σ.n):σ.at_ s i/2^σ.n=i:=by
 unfold at_;rw [Nat.mul_comm,Nat.mul_add_div (bD _),Nat.div_eq_of_lt hs,Nat.add_zero]
theorem at_of {σ:aC} {c:Nat} (hc:c<2^(σ.n+σ.k)):c%2^σ.n<2^σ.n/\c/2^σ.n<2^σ.k/\σ.at_ (c%2^σ.n) (c/2^σ.n)=c:=by
 refine⟨Nat.mod_lt _ (bD _),?_,?_⟩
 ·rw [Nat.div_lt_iff_lt_mul (bD _),<-pow_nk];exact hc
 ·unfold at_;rw [Nat.mul_comm];exact Nat.div_add_mod _ _
theorem some_iff {σ:aC} {f:Nat->Nat->Bool} {s:Nat}:σ.some_ f s=true↔ ∃i,i<2^σ.k/\f s (σ.at_ s i)=true:=cy
theorem fwd_iff {σ:aC} {p S:Nat->Bool} {t:Nat}:σ.fwd p S t=true↔ ∃s i,s<2^σ.n/\i<2^σ.k/\S s=true/\p (σ.at_ s i)=true/\σ.goes (σ.at_ s i) t=true:=by
 unfold fwd;rw [cy]
 constructor
 ·rintro ⟨c,hc,h⟩
  simp only [Bool.and_eq_true]at h
  obtain⟨h1,h2,h3⟩:=at_of hc
  exact⟨_,_,h1,h2,h.1.1,by rw [h3];exact h.1.2,by rw [h3];exact h.2⟩
 ·rintro ⟨s,i,hs,hi,h1,h2,h3⟩
  refine⟨_,at_lt hs hi,?_⟩
  rw [at_mod hs,h1,h2,h3];rfl
theorem bwd_iff {σ:aC} {p S:Nat->Bool} {s:Nat}:σ.bwd p S s=true↔ ∃i t,i<2^σ.k/\t<2^σ.n/\p (σ.at_ s i)=true/\S t=true/\σ.goes (σ.at_ s i) t=true:=by
 unfold bwd;rw [some_iff]
 constructor
 ·rintro ⟨i,hi,h⟩
  simp only [Bool.and_eq_true,leads,cy]at h
  obtain⟨h1,t,ht,h2,h3⟩:=h
  exact⟨i,t,hi,ht,h1,h2,h3⟩
 ·rintro ⟨i,t,hi,ht,h1,h2,h3⟩
  refine⟨i,hi,?_⟩
  simp only [Bool.and_eq_true,leads,cy]
  exact⟨h1,t,ht,h2,h3⟩
theorem meet {σ:aC} {p S T:Nat->Bool}:(∃t,t<2^σ.n/\σ.fwd p S t=true/\T t=true)↔ ∃s,s<2^σ.n/\S s=true/\σ.bwd p T s=true:=by
 constructor
 ·rintro ⟨t,ht,h1,h2⟩
  obtain⟨s,i,hs,hi,a,b,c⟩:=fwd_iff.1 h1
  exact⟨s,hs,a,bwd_iff.2 ⟨i,t,hi,ht,b,h2,c⟩⟩
 ·rintro ⟨s,hs,h1,h2⟩
  obtain⟨i,t,hi,ht,a,b,c⟩:=bwd_iff.1 h2
  exact⟨t,ht,fwd_iff.2 ⟨s,i,hs,hi,h1,a,c⟩,b⟩
def lay (σ:aC):Nat->(Nat->Bool)×(Nat->Bool)
 |0=>(σ.begins,fun _=>false)
 |i+1=>(fun t=>σ.fwd σ.hold (σ.lay i).1 t&& !((σ.lay i).2 t||(σ.lay i).1 t),fun t=>(σ.lay i).2 t||(σ.lay i).1 t)
def front (σ:aC) (i:Nat):Nat->Bool:=(σ.lay i).1
def seen (σ:aC) (i:Nat):Nat->Bool:=(σ.lay i).2
theorem seen_zero (σ:aC) (t:Nat):σ.seen 0 t=false:=rfl
theorem seen_succ (σ:aC) (i t:Nat):σ.seen (i+1) t=(σ.seen i t||σ.front i t):=rfl
theorem front_succ (σ:aC) (i t:Nat):σ.front (i+1) t=(σ.fwd σ.hold (σ.front i) t&& !σ.seen (i+1) t):=rfl
def live (σ:aC) (i:Nat):Bool:=ng (2^σ.n) (σ.front i)
def cntB (n:Nat) (S:Nat->Bool):Nat:=((List.range n).filter S).length
theorem cntB_le (n:Nat) (S:Nat->Bool):cntB n S<=n:=by unfold cntB;have:=List.length_filter_le S (List.range n);simpa using this
theorem cntB_succ (n:Nat) (S:Nat->Bool):cntB (n+1) S=cntB n S+if S n then 1 else 0:=by
 unfold cntB;rw [List.range_succ,List.filter_append,List.length_append]
 by_cases h:S n=true<;>simp [h]
theorem cntB_mono {n:Nat} {S T:Nat->Bool} (h: ∀i,i<n->S i=true->T i=true):cntB n S<=cntB n T:=by
 induction n with
 |zero=>simp [cntB]
 |succ n ih=>
  have:=ih fun i hi=>h i (by omega)
  have h2:=h n (by omega)
  rw [cntB_succ,cntB_succ]
  by_cases hs:S n=true
  ·rw [if_pos hs,if_pos (h2 hs)];omega
  ·rw [if_neg hs];omega
theorem cntB_more {n j:Nat} {S T:Nat->Bool} (h: ∀i,i<n->S i=true->T i=true) (hj:j<n) (h1:S j=false) (h2:T j=true):cntB n S+1<=cntB n T:=by
 induction n with
 |zero=>omega
 |succ n ih=>
  rw [cntB_succ,cntB_succ]
  by_cases e:j=n
  ·subst e
   have:=cntB_mono fun i hi=>h i (Nat.lt_succ_of_lt hi)
   rw [if_neg (by rw [h1];decide),if_pos h2];omega
  ·have:=ih (fun i hi=>h i (by omega)) (by omega)
   have h3:=h n (by omega)
   by_cases hs:S n=true
   ·rw [if_pos hs,if_pos (h3 hs)];omega
   ·rw [if_neg hs];omega
theorem front_new (σ:aC) (i t:Nat) (h:σ.front i t=true):σ.seen i t=false:=by
 cases i with
 |zero=>rfl
 |succ i=>rw [front_succ]at h;simp only [Bool.and_eq_true,Bool.not_eq_true']at h;exact h.2
theorem cnt_seen (σ:aC): ∀i,(∀j,j<i->σ.live j=true)->i<=cntB (2^σ.n) (σ.seen i):=by
 intro i
 induction i with
 |zero=>intro _;omega
 |succ i ih=>
  intro h
  have h1:=ih fun j hj=>h j (by omega)
  obtain⟨t,ht,h2⟩:=cy.1 (h i (by omega))
  have:=cntB_more (n:=2^σ.n) (j:=t) (S:=σ.seen i) (T:=σ.seen (i+1)) (fun j _ hj=>by rw [seen_succ,hj];rfl) ht (front_new σ i t h2) (by rw [seen_succ,h2,Bool.or_true])
  omega
theorem live_le {σ:aC} {i:Nat} (h: ∀j,j<i->σ.live j=true):i<=2^σ.n:=Nat.le_trans (cnt_seen σ i h) (cntB_le _ _)
theorem dead_after {σ:aC} {i:Nat} (h:σ.live i=false): ∀d,σ.live (i+d)=false:=by
 intro d
 induction d with
 |zero=>exact h
 |succ d ih=>
  unfold live at ih⊢
  rw [pE]at ih⊢
  intro t ht
  rw [<-Nat.add_assoc,front_succ]
  have:σ.fwd σ.hold (σ.front (i+d)) t=false:=by
   cases hf:σ.fwd σ.hold (σ.front (i+d)) t with
   |false=>rfl
   |true=>
    obtain⟨s,x,hs,_,h1,_⟩:=fwd_iff.1 hf
    rw [ih s hs]at h1;cases h1
  rw [this];rfl
def nLay (σ:aC):Nat:=(List.range (2^σ.n+1)).findIdx fun i=> !σ.live i
theorem nLay_of {σ:aC} {i:Nat} (h1: ∀j,j<i->σ.live j=true) (h2:σ.live i=false):σ.nLay=i:=by
 have hle:=live_le h1
 unfold nLay
 rw [List.findIdx_eq (by simp;omega)]
 refine⟨by simp [h2],fun j hj=>?_⟩
 simp [h1 j hj]
theorem nLay_live {σ:aC}:(∀j,j<σ.nLay->σ.live j=true)/\σ.live σ.nLay=false:=by
 obtain⟨i,h1,h2⟩: ∃i,(∀j,j<i->σ.live j=true)/\σ.live i=false:=by
  have key: ∀m i,(∀j,j<i->σ.live j=true)->m=2^σ.n+1-i-> ∃i,(∀j,j<i->σ.live j=true)/\σ.live i=false:=by
   intro m
   induction m with
   |zero=>intro i h hm;have:=live_le h;omega
   |succ m ih=>
    intro i h hm
    cases hl:σ.live i with
    |false=>exact⟨i,h,hl⟩
    |true=>exact ih (i+1) (fun j hj=>by
      by_cases e:j=i
      ·subst e;exact hl
      ·exact h j (by omega)) (by omega)
  exact key _ 0 (fun j hj=>by omega) rfl
 rw [nLay_of h1 h2];exact⟨h1,h2⟩
theorem nLay_le (σ:aC):σ.nLay<=2^σ.n:=live_le nLay_live.1
theorem front_lt {σ:aC} {i s:Nat} (hs:s<2^σ.n) (h:σ.front i s=true):i<σ.nLay:=by
 rcases Nat.lt_or_ge i σ.nLay with h1|h1
 ·exact h1
 ·have:=dead_after (nLay_live (σ:=σ)).2 (i-σ.nLay)
  rw [show σ.nLay+(i-σ.nLay)=i by omega]at this
  unfold live at this
  rw [pE]at this
  rw [this s hs]at h;cases h
theorem seen_iff {σ:aC} {i t:Nat}:σ.seen i t=true↔ ∃j,j<i/\σ.front j t=true:=by
 induction i with
 |zero=>rw [seen_zero];simp
 |succ i ih=>
  rw [seen_succ,Bool.or_eq_true,ih]
  constructor
  ·rintro (⟨j,hj,h⟩|h)
   ·exact⟨j,by omega,h⟩
   ·exact⟨i,by omega,h⟩
  ·rintro ⟨j,hj,h⟩
   by_cases e:j=i
   ·subst e;exact .inr h
   ·exact .inl ⟨j,by omega,h⟩
def endsAt (σ:aC):Nat->Bool:=σ.some_ fun _ c=>σ.ends c
theorem endsAt_iff {σ:aC} {s:Nat}:σ.endsAt s=true↔ ∃x,x<2^σ.k/\σ.hold (σ.at_ s x)=true/\σ.bad (σ.at_ s x)=true:=by
 unfold endsAt;rw [some_iff];simp only [ends,Bool.and_eq_true]
def hits (σ:aC) (i:Nat):Bool:=ng (2^σ.n) fun s=>σ.front i s&&σ.endsAt s
def depth (σ:aC):Option Nat:=(List.range σ.nLay).find? fun i=>σ.hits i
def depthI (σ:aC):Int:=match σ.depth with|some d=>d|none=> -1
theorem find_none {n:Nat} {p:Nat->Bool}:(List.range n).find? p=none↔ ∀i,i<n->p i=false:=by
 rw [List.find?_eq_none]
 constructor
 ·intro h i hi;have:=h i (List.mem_range.2 hi);simpa using this
 ·intro h i hi;rw [h i (List.mem_range.1 hi)];decide
theorem find_some {n d:Nat} {p:Nat->Bool}:(List.range n).find? p=some d↔d<n/\p d=true/\ ∀i,i<d->p i=false:=by
 induction n with
 |zero=>simp
 |succ n ih=>
  rw [List.range_succ,List.find?_append]
  cases hn:(List.range n).find? p with
  |some e=>
   have h1:=hn
   rw [Option.some_or]
   have ih': ∀d,some e=some d↔_:=fun d=>hn▸(show (List.range n).find? p=some d↔d<n/\p d=true/\ ∀i,i<d->p i=false from by
    constructor
    ·intro hd
     have:=List.find?_some hd
     have hm:=List.mem_range.1 (List.mem_of_find?_eq_some hd)
     refine⟨hm,this,fun i hi=>?_⟩
     rw [List.find?_range_eq_some]at hd
     simpa using hd.2.2 i hi
    ·rintro ⟨a,b,c⟩
     rw [List.find?_range_eq_some]
     exact⟨b,List.mem_range.2 a,fun j hj=>by simp [c j hj]⟩)
   rw [ih']
   constructor
   ·rintro ⟨a,b,c⟩;exact⟨by omega,b,c⟩
   ·rintro ⟨a,b,c⟩
    refine⟨?_,b,c⟩
    rcases Nat.lt_or_ge d n with h|h
    ·exact h
    ·have hd:d=n:=by omega
     have he:=(ih' e).1 rfl
     have:=c e (by omega)
     rw [he.2.1]at this;cases this
  |none=>
   rw [Option.none_or]
   have h0:=find_none.1 hn
   simp only [List.find?_cons,List.find?_nil]
   cases hp:p n with
   |true=>
    simp only [Option.some.injEq]
    constructor
    ·rintro rfl;exact⟨by omega,hp,h0⟩
    ·rintro ⟨a,b,c⟩
     rcases Nat.lt_or_ge d n with h|h
     ·rw [h0 d h]at b;cases b
     ·omega
   |false=>
    simp only [reduceCtorEq,false_iff]
    rintro ⟨a,b,c⟩
    rcases Nat.lt_or_ge d n with h|h
    ·rw [h0 d h]at b;cases b
    ·have:d=n:=by omega
     subst this;rw [hp]at b;cases b
theorem depth_some {σ:aC} {d:Nat}:σ.depth=some d↔σ.hits d=true/\ ∀i,i<d->σ.hits i=false:=by
 unfold depth;rw [find_some]
 constructor
 ·rintro ⟨_,h⟩;exact h
 ·rintro ⟨h1,h2⟩
  obtain⟨s,hs,h⟩:=cy.1 h1
  exact⟨front_lt hs (by simp only [Bool.and_eq_true]at h;exact h.1),h1,h2⟩
theorem depth_none {σ:aC}:σ.depth=none↔ ∀i,σ.hits i=false:=by
 unfold depth;rw [find_none]
 constructor
 ·intro h i
  cases hh:σ.hits i with
  |false=>rfl
  |true=>
   obtain⟨s,hs,h'⟩:=cy.1 hh
   have:=h i (front_lt hs (by simp only [Bool.and_eq_true]at h';exact h'.1))
   rw [hh]at this;cases this
 ·exact fun h i _=>h i
theorem depth_lt {σ:aC} {d:Nat} (h:σ.depth=some d):d<σ.nLay:=(find_some.1 h).1
def back (σ:aC):Nat->Nat->Bool
 |0=>σ.endsAt
 |i+1=>σ.some_ fun s c=>σ.back i s||(σ.hold c&&σ.leads (σ.back i) c)
def ahead (σ:aC):Nat->Nat->Bool
 |0=>σ.endsAt
 |i+1=>σ.bwd σ.hold (σ.ahead i)
def leastB (n:Nat) (p:Nat->Bool):Nat:=((List.range n).find? p).getD 0
theorem leastB_of {n i:Nat} {p:Nat->Bool} (hi:i<n) (h:p i=true) (hb: ∀j,j<i->p j=false):leastB n p=i:=by
 unfold leastB;rw [find_some.2 ⟨hi,h,hb⟩];rfl
theorem leastB_at {n:Nat} {p:Nat->Bool} (h: ∃i,i<n/\p i=true):leastB n p<n/\p (leastB n p)=true/\ ∀j,j<leastB n p->p j=false:=by
 cases hf:(List.range n).find? p with
 |none=>
  obtain⟨i,hi,hp⟩:=h
  rw [find_none.1 hf i hi]at hp;cases hp
 |some d=>
  have:=find_some.1 hf
  unfold leastB;rw [hf];exact this
def onB (σ:aC) (k:Nat) (c:Nat):Bool:=match k with|0=>σ.ends c|k+1=>σ.hold c&&σ.leads (σ.ahead k) c
def wit (σ:aC):Nat->(Nat->Bool)->List (Nat×Nat)
 |0,fits=>let s:=leastB (2^σ.n) fun s=>fits s&&σ.ahead 0 s;let x:=leastB (2^σ.k) fun x=>σ.onB 0 (σ.at_ s x); [(s,x)]
 |k+1,fits=>let s:=leastB (2^σ.n) fun s=>fits s&&σ.ahead (k+1) s;let x:=leastB (2^σ.k) fun x=>σ.onB (k+1) (σ.at_ s x);(s,x)::σ.wit k (σ.goes (σ.at_ s x))
theorem ahead_on {σ:aC} {k s:Nat}:σ.ahead k s=true↔ ∃x,x<2^σ.k/\σ.onB k (σ.at_ s x)=true:=by
 cases k with
 |zero=>
  show σ.endsAt s=true↔_
  unfold endsAt;rw [some_iff];rfl
 |succ k=>
  show σ.bwd σ.hold (σ.ahead k) s=true↔_
  unfold bwd;rw [some_iff];rfl
theorem onB_next {σ:aC} {k c:Nat} (h:σ.onB (k+1) c=true): ∃t,t<2^σ.n/\(σ.goes c t&&σ.ahead k t)=true:=by
 simp only [onB,Bool.and_eq_true,leads,cy]at h
 obtain⟨_,t,ht,h1,h2⟩:=h
 exact⟨t,ht,by rw [h1,h2];rfl⟩
def run (σ:aC):Nat->Nat->Bool
 |0=>σ.begins
 |i+1=>σ.fwd σ.hold (σ.run i)
theorem fwd_mono {σ:aC} {p q S T:Nat->Bool} (hp: ∀c,c<2^(σ.n+σ.k)->p c=true->q c=true) (hS: ∀s,s<2^σ.n->S s=true->T s=true) {t:Nat} (h:σ.fwd p S t=true):σ.fwd q T t=true:=by
 obtain⟨s,i,hs,hi,a,b,c⟩:=fwd_iff.1 h
 exact fwd_iff.2 ⟨s,i,hs,hi,hS s hs a,hp _ (at_lt hs hi) b,c⟩
theorem front_run (σ:aC): ∀i t,σ.front i t=true->σ.run i t=true:=by
 intro i
 induction i with
 |zero=>exact fun t h=>h
 |succ i ih=>
  intro t h
  rw [front_succ]at h
  simp only [Bool.and_eq_true]at h
  exact fwd_mono (fun _ _ h=>h) (fun s _ h=>ih s h) h.1
theorem run_ahead {σ:aC}: ∀i k,(∃s,s<2^σ.n/\σ.run i s=true/\σ.ahead k s=true)-> ∃s,s<2^σ.n/\(σ.begins s&&σ.ahead (i+k) s)=true:=by
 intro i
 induction i with
 |zero=>
  rintro k ⟨s,hs,h1,h2⟩
  exact⟨s,hs,by rw [Nat.zero_add,h2];simpa [run] using h1⟩
 |succ i ih=>
  rintro k ⟨s,hs,h1,h2⟩
  obtain⟨t,ht,h3,h4⟩:=meet.1 ⟨s,hs,h1,h2⟩
  have:=ih (k+1) ⟨t,ht,h3,h4⟩
  rwa [show i+(k+1)=i+1+k by omega]at this
theorem wit_begins {σ:aC} {d:Nat} (h:σ.depth=some d): ∃s,s<2^σ.n/\(σ.begins s&&σ.ahead d s)=true:=by
 obtain⟨s,hs,h1⟩:=cy.1 (depth_some.1 h).1
 simp only [Bool.and_eq_true]at h1
 exact run_ahead d 0 ⟨s,hs,front_run σ d s h1.1,h1.2⟩
def clean (σ:aC) (c:Nat):Bool:=σ.hold c&& !σ.bad c
def back2 (σ:aC):Nat->Nat->Bool
 |0=>σ.endsAt
 |i+1=>σ.bwd σ.clean (σ.back2 i)
def kind (σ:aC) (k:Nat):Int:=if(match σ.depth with|some d=>decide (d<k)|none=>false)then 1 else if ng (2^σ.n) (σ.back2 k)then 2 else 0
def met (σ:aC) (S:Nat->Bool):Bool:=ng (2^σ.n) fun s=>S s&&σ.endsAt s
theorem seen_fwd {σ:aC} (i t:Nat) (h:σ.fwd σ.hold (σ.seen i) t=true):σ.seen (i+1) t=true:=by
 obtain⟨s,x,hs,hx,h1,h2,h3⟩:=fwd_iff.1 h
 obtain⟨j,hj,h4⟩:=seen_iff.1 h1
 have h5:σ.fwd σ.hold (σ.front j) t=true:=fwd_iff.2 ⟨s,x,hs,hx,h4,h2,h3⟩
 by_cases e:σ.seen (j+1) t=true
 ·obtain⟨q,hq,h6⟩:=seen_iff.1 e
  exact seen_iff.2 ⟨q,by omega,h6⟩
 ·have e':σ.seen (j+1) t=false:=by simpa using e
  exact seen_iff.2 ⟨j+1,by omega,by rw [front_succ,h5,e'];rfl⟩
end aC
theorem SZ {x:Int} {n:Nat} (hn:n<=64):oM x (n:Int)=x/((2^n:Nat):Int):=by
 unfold oM
 have h1:min (Int.toNat (n:Int)) IntKind.i64.bits=n:=by simp [IntKind.bits];omega
 rw [h1,Int.fdiv_eq_ediv_of_nonneg _ (Int.pow_nonneg (by decide))]
 simp
theorem gG {x:Int} {w:Nat} (hw:w<=62):nX x (((2^w:Nat):Int)-1)=((jc w x:Nat):Int):=by
 have h2:=my hw
 have hp:=bD w
 have hm:(((2^w:Nat):Int)-1)=((2^w-1:Nat):Int):=by omega
 rw [hm]
 show IntKind.i64.wrap _=_
 have h1:(BitVec.ofInt IntKind.i64.bits x&&&BitVec.ofInt IntKind.i64.bits ((2^w-1:Nat):Int)).toNat=jc w x:=by
  show (BitVec.ofInt 64 x&&&BitVec.ofInt 64 ((2^w-1:Nat):Int)).toNat=jc w x
  rw [BitVec.ofInt_natCast,BitVec.toNat_and,BitVec.toNat_ofNat,BitVec.toNat_ofInt,Nat.mod_eq_of_lt (by omega),Nat.and_two_pow_sub_one_eq_mod]
  have hd:((2^w:Nat):Int)∣((2^64:Nat):Int):=Int.natCast_dvd_natCast.2 (Nat.pow_dvd_pow 2 (by omega))
  have h3:=Int.emod_emod_of_dvd x hd
  have h4:=Int.emod_nonneg x (b:=((2^64:Nat):Int)) (by decide)
  unfold jc
  rw [<-h3]
  generalize x%((2^64:Nat):Int)=y at*
  obtain⟨z,rfl⟩: ∃z:Nat,y=z:=⟨y.toNat,by omega⟩
  rw [<-Int.natCast_emod,Int.toNat_natCast,Int.toNat_natCast]
 rw [h1]
 exact eu (by have:=jo w x;omega)
theorem T1 {w:Nat} (hw:w<=62):au (-1) (w:Int)= -((2^w:Nat):Int):=by
 have h2:=my hw
 unfold au
 have h1:min (Int.toNat (w:Int)) IntKind.i64.bits=w:=by simp [IntKind.bits];omega
 rw [h1]
 have h3:(-1:Int)*2^w= -((2^w:Nat):Int):=by simp
 have key: ∀N:Nat,N<=4611686018427387904->W (-(N:Int))= -(N:Int):=fun N h=>bV (by omega) (by omega)
 rw [h3];exact key _ h2
theorem zm {w:Nat} (hw:w<=16):2^w<=65536:=by
 have:=Nat.pow_le_pow_right (n:=2) (by omega) hw
 simpa using this
theorem jP {w v:Int}:iz w v=true↔(1<=w/\w<=16)/\0<=v/\v<((2^w.toNat:Nat):Int):=by
 unfold iz
 rw [decide_eq_true_eq]
 constructor
 ·rintro ⟨h1,h2,h3⟩;exact⟨h1,h2,by omega⟩
 ·rintro ⟨h1,h2,h3⟩;exact⟨h1,h2,by omega⟩
theorem dy {h:Hp} {w:Nat} {R:Value->Hp->Prop} (hw:w<=62) (k:R (I (((2^w:Nat):Int)-1)) h):cB #[I w] h R:=by
 apply Lj
 refine uf_ ?_
 have:=my hw
 have hp:=bD w
 rw [if_neg (by omega),bG hw,bV (by omega) (by omega)]
 exact k
theorem AH {h:Hp} {w:Int} {R:Value->Hp->Prop} (k:R (.bool (decide (1<=w/\w<=16))) h):nQ #[I w] h R:=by
 apply Fl
 refine uf_ ?_
 exact fv ⟨_,rfl,k⟩
theorem uZ {h:Hp} {w:Int} {R:Value->Hp->Prop} (k:R (.bool (decide (1<=w/\w<=16))) h):kF #[I w] h R:=by
 apply FB
 refine uf_ ?_
 exact dx ⟨_,rfl,k⟩
theorem G8 (w v:Int):iz w v=(decide (1<=w/\w<=16)&&decide (0<=v/\v<=((2^w.toNat:Nat):Int)-1)):=by
 unfold iz;rw [Bool.eq_iff_iff];simp
theorem Cm {h:Hp} {w v:Int} {R:Value->Hp->Prop} (k:R (.bool (iz w v)) h):td #[I w,I v] h R:=by
 apply Iz
 refine uf_ ?_
 rw [G8]at k
 refine AH ⟨_,rfl,ac (fun e=>?_) (fun e=>?_)⟩
 ·rw [e,Bool.true_and]at k
  have e':1<=w/\w<=16:=by simpa using e
  obtain⟨n,rfl⟩: ∃n:Nat,w=n:=⟨w.toNat,by omega⟩
  rw [Int.toNat_natCast]at k
  exact dy (by omega) ⟨_,rfl,fv ⟨_,rfl,k⟩⟩
 ·rw [e,Bool.false_and]at k;exact k
theorem cr {h:Hp} {w v:Int} {R:Value->Hp->Prop} (k:R (.bool (iz w v)) h):dl #[I w,I v] h R:=by
 apply HX
 refine uf_ ?_
 rw [G8]at k
 refine uZ ⟨_,rfl,ac (fun e=>?_) (fun e=>?_)⟩
 ·rw [e,Bool.true_and]at k
  have e':1<=w/\w<=16:=by simpa using e
  obtain⟨n,rfl⟩: ∃n:Nat,w=n:=⟨w.toNat,by omega⟩
  rw [Int.toNat_natCast]at k
  have:=my (n:=n) (by omega)
  have hp:=bD n
  rw [cl (by omega),if_neg (by omega),bG (by omega),bV (by omega) (by omega)]
  exact dx ⟨_,rfl,k⟩
 ·rw [e,Bool.false_and]at k;exact k
def WO (w a:Nat):Prop:=(1<=w/\w<=16)/\a<2^w
theorem WO.ok {w a:Nat} (e:WO w a):iz (w:Int) (a:Int)=true:=jP.2 ⟨by have:=e.1;omega,by omega,by rw [Int.toNat_natCast];have:=e.2;omega⟩
theorem WO.pow {w a:Nat} (e:WO w a):2^w<=65536:=zm e.1.2
theorem mJ {h:Hp} {w a:Nat} {R:Value->Hp->Prop} (e:WO w a) (k:R (I (sgn w a)) h):gA #[I w,I a] h R:=by
 apply H5
 refine uf_ ?_
 obtain⟨⟨h1,h2⟩,ha⟩:=e
 have hp:=pT h1
 have h16:=zm h2
 have w1:W ((w:Int)-1)=((w-1:Nat):Int):=by rw [bV (by omega) (by omega)];omega
 rw [w1,if_neg (by omega),if_neg (by omega),kr (by omega)]
 unfold sgn at k
 by_cases hs:2^(w-1)<=a
 ·have e1:a/2^(w-1)=1:=by rw [Nat.div_eq_iff (bD _)];omega
  rw [e1,gW (by omega) (by omega),Nat.one_mul,bV (by omega) (by omega)]
  rw [if_pos hs]at k;exact k
 ·have e1:a/2^(w-1)=0:=Nat.div_eq_of_lt (by omega)
  rw [e1,gW (by omega) (by omega),Nat.zero_mul,bV (by omega) (by omega)]
  rw [if_neg hs]at k
  simpa using k
theorem ij {h:Hp} {w a:Nat} {R:Value->Hp->Prop} (e:WO w a) (k:R (I (sgn w a)) h):d8 #[I w,I a] h R:=by
 apply Bb
 refine uf_ ?_
 obtain⟨⟨h1,h2⟩,ha⟩:=e
 have hp:=pT h1
 have h16:=zm h2
 have w1:W ((w:Int)-1)=((w-1:Nat):Int):=by rw [bV (by omega) (by omega)];omega
 refine cr ⟨_,rfl,aD (by rw [WO.ok ⟨⟨h1,h2⟩,ha⟩];rfl) ?_⟩
 rw [w1,cl (by omega),if_neg (by omega),bG (by omega)]
 unfold sgn at k
 refine ac (fun e=>?_) (fun e=>?_)
 ·have hs:2^(w-1)<=a:=by
   have:=of_decide_eq_true e;omega
  rw [if_pos hs]at k
  rw [cl (by omega),if_neg (by omega),bG (by omega),bV (by omega) (by omega)]
  exact k
 ·have hs: ¬2^(w-1)<=a:=by
   have:=of_decide_eq_false e;omega
  rw [if_neg hs]at k;exact k
theorem OJ (w:Nat) (n:Int):((jc w n:Nat):Int)=if Int.tmod n ((2^w:Nat):Int)<0 then Int.tmod n ((2^w:Nat):Int)+((2^w:Nat):Int)else Int.tmod n ((2^w:Nat):Int):=by
 rw [GX]
 have hp:(0:Int)<((2^w:Nat):Int):=Int.ofNat_lt.2 (bD w)
 have h1:=Int.emod_nonneg n (b:=((2^w:Nat):Int)) (by omega)
 have h2:=Int.emod_lt_of_pos n hp
 have h3:=Int.tmod_eq_emod (a:=n) (b:=((2^w:Nat):Int))
 have h4:n%((2^w:Nat):Int)=0->((2^w:Nat):Int)∣n:=Int.dvd_of_emod_eq_zero
 rw [h3]
 generalize ((2^w:Nat):Int)=N at*
 by_cases hn:0<=n\/N∣n
 ·rw [if_pos hn];split<;>omega
 ·have h5:n%N≠0:=fun e=>hn (.inr (h4 e))
  rw [if_neg hn]
  generalize n%N=r at*
  split<;>omega
theorem gz {h:Hp} {w:Nat} {n:Int} {R:Value->Hp->Prop} (hw:1<=w/\w<=16) (k:R (I (jc w n)) h):dM #[I w,I n] h R:=by
 apply ED
 refine uf_ ?_
 have h16:=zm hw.2
 have hp:=bD w
 have hlt:=jo w n
 have ht:=OJ w n
 refine uZ ⟨_,rfl,aD (by simp;omega) ?_⟩
 rw [cl (by omega),if_neg (by omega),bG (by omega),if_neg (by omega)]
 refine ac (fun e=>?_) (fun e=>?_)
 ·have e':=of_decide_eq_true e
  rw [if_pos e']at ht
  rw [if_neg (by omega),bV (by omega) (by omega),<-ht];exact k
 ·have e':=of_decide_eq_false e
  rw [if_neg e']at ht
  rw [<-ht];exact k
theorem DD {h:Hp} {w a:Nat} {R:Value->Hp->Prop} (hw:w<=16) (k:R (I (jx w a)) h):pD #[I w,I a] h R:=by
 apply H4
 refine uf_ ?_
 refine av w (fun i vs h'=>vs= [I w,I a,I (jx i a),I i]/\h'=h) ⟨rfl,rfl⟩ ?_
 rintro i _ _ next hi ⟨rfl,rfl⟩ hn
 refine⟨_,_,_,_,rfl,?_⟩
 by_cases hlt:i<w
 ·refine aJ (by simp [hlt]) (iM (by omega) ⟨_,rfl,?_⟩)
  have hl:=MW i a
  have e:W ((jx i a:Int)+(if a.testBit i then 1 else 0))=((jx (i+1) a:Nat):Int):=by
   rw [bV (by split<;>omega) (by split<;>omega)]
   simp only [jx]
   split<;>simp
  rw [e,aA (by omega)]
  exact hn hlt _ _ ⟨rfl,rfl⟩
 ·have:i=w:=by omega
  subst this
  exact aD (by simp) k
theorem Mo {a b:Nat} (ha:a<18446744073709551616) (hb:b<18446744073709551616):aZ .and .u64 (a:Int) (b:Int)=((a&&&b:Nat):Int):=by
 show IntKind.u64.wrap _=_
 have h1:(BitVec.ofInt IntKind.u64.bits (a:Int)&&&BitVec.ofInt IntKind.u64.bits (b:Int)).toNat=a&&&b:=by
  show (BitVec.ofInt 64 (a:Int)&&&BitVec.ofInt 64 (b:Int)).toNat=a&&&b
  rw [BitVec.ofInt_natCast,BitVec.ofInt_natCast,BitVec.toNat_and,BitVec.toNat_ofNat,BitVec.toNat_ofNat,Nat.mod_eq_of_lt (by omega),Nat.mod_eq_of_lt (by omega)]
 rw [h1,IntKind.wrap_u64]
 have:=Nat.and_le_left (n:=a) (m:=b)
 omega
def SH (x:Nat):Nat:=(x/2&&&6148914691236517205)+(x&&&6148914691236517205)
def SD (x:Nat):Nat:=(x/4&&&3689348814741910323)+(x&&&3689348814741910323)
def Td (x:Nat):Nat:=(x/16+x)&&&1085102592571150095
def SU (x:Nat):Nat:=x/256+x
def SP (x:Nat):Nat:=x/65536+x
def T3 (x:Nat):Nat:=x/4294967296+x
def HP (x:Nat):Nat:=T3 (SP (SU (Td (SD (SH x)))))&&&127
def NJ (x:Nat):Bool:=Nat.beq (HP (2*x)) (HP x)&&Nat.beq (HP (2*x+1)) (HP x+1)
def L7 (hi:Nat):Nat->Bool
 |0=>true
 |n+1=>NJ (hi*256+n)&&L7 hi n
def Pu :Nat->Bool
 |0=>true
 |n+1=>L7 n 256&&Pu n
theorem VQ :Pu 128=true:=by kernel_rfl
theorem Ux {hi:Nat}: ∀n,L7 hi n=true-> ∀i,i<n->NJ (hi*256+i)=true:=by
 intro n
 induction n with
 |zero=>intro _ i h;omega
 |succ n ih=>
  intro h i hi
  simp only [L7,Bool.and_eq_true]at h
  by_cases e:i=n
  ·subst e;exact h.1
  ·exact ih h.2 i (by omega)
theorem T7 : ∀n,Pu n=true-> ∀i,i<n->L7 i 256=true:=by
 intro n
 induction n with
 |zero=>intro _ i h;omega
 |succ n ih=>
  intro h i hi
  simp only [Pu,Bool.and_eq_true]at h
  by_cases e:i=n
  ·subst e;exact h.1
  ·exact ih h.2 i (by omega)
theorem Tx {x:Nat} (h:x<32768):HP (2*x)=HP x/\HP (2*x+1)=HP x+1:=by
 have h1:=T7 128 VQ (x/256) (by omega)
 have h2:=Ux 256 h1 (x%256) (Nat.mod_lt _ (by omega))
 rw [show x/256*256+x%256=x by omega]at h2
 simp only [NJ,Bool.and_eq_true]at h2
 exact⟨Nat.eq_of_beq_eq_true h2.1,Nat.eq_of_beq_eq_true h2.2⟩
theorem Nu (a:Nat): ∀w,jx (w+1) a=a%2+jx w (a/2):=by
 intro w
 induction w with
 |zero=>
  simp only [jx,Nat.testBit_zero]
  rcases Nat.mod_two_eq_zero_or_one a with h|h<;>simp [h]
 |succ w ih=>
  rw [jx,ih,jx,Nat.testBit_succ];omega
theorem W1 : ∀w,w<=16-> ∀x,x<2^w->HP x=jx w x:=by
 intro w
 induction w with
 |zero=>intro _ x hx;have:x=0:=by simpa using hx
        subst this;rfl
 |succ w ih=>
  intro hw x hx
  have h16:2^w<=32768:=by
   have:=Nat.pow_le_pow_right (n:=2) (by omega) (show w<=15 by omega)
   simpa using this
  have hp:2^(w+1)=2*2^w:=by rw [Nat.pow_succ];omega
  have h1:=ih (by omega) (x/2) (by omega)
  have h2:=Tx (x:=x/2) (by omega)
  rw [Nu,<-h1]
  rcases Nat.mod_two_eq_zero_or_one x with h|h
  ·have e:2*(x/2)=x:=by omega
   rw [e]at h2;rw [h2.1,h];omega
  ·have e:2*(x/2)+1=x:=by omega
   rw [e]at h2;rw [h2.2,h];omega
theorem Jf {a k:Nat} (hk:k<=64):Int.fdiv (a:Int) (2^(min (Int.toNat (k:Int)) (IntKind.bits .u64)))=((a/2^k:Nat):Int):=by
 have h1:min (Int.toNat (k:Int)) (IntKind.bits .u64)=k:=by simp [IntKind.bits];omega
 rw [h1,Int.fdiv_eq_ediv_of_nonneg _ (Int.pow_nonneg (by decide))]
 simp
def q1 (x:Int):Int:=IntKind.wrap .u64 ((aZ .and .u64 (Int.fdiv x (2^(min (Int.toNat 1) (IntKind.bits .u64)))) 6148914691236517205)+(aZ .and .u64 x 6148914691236517205))
def q2 (x:Int):Int:=IntKind.wrap .u64 ((aZ .and .u64 (Int.fdiv x (2^(min (Int.toNat 2) (IntKind.bits .u64)))) 3689348814741910323)+(aZ .and .u64 x 3689348814741910323))
def q3 (x:Int):Int:=aZ .and .u64 (IntKind.wrap .u64 ((Int.fdiv x (2^(min (Int.toNat 4) (IntKind.bits .u64))))+x)) 1085102592571150095
def q4 (x:Int):Int:=IntKind.wrap .u64 (x+Int.fdiv x (2^(min (Int.toNat 8) (IntKind.bits .u64))))
def q5 (x:Int):Int:=IntKind.wrap .u64 (x+Int.fdiv x (2^(min (Int.toNat 16) (IntKind.bits .u64))))
def q6 (x:Int):Int:=IntKind.wrap .u64 (x+Int.fdiv x (2^(min (Int.toNat 32) (IntKind.bits .u64))))
theorem FM {h:Hp} {a:Nat} {R:Value->Hp->Prop} (ha:a<65536) (k:R (I (jx 16 a)) h):j7 #[.int .u64 a] h R:=by
 apply wj
 refine uf_ ?_
 apply ut
 refine uf_ ?_
 refine⟨_,rfl,?_⟩
 have e1:q1 a=((SH a:Nat):Int):=by
  have l1:=Nat.and_le_left (n:=a/2) (m:=6148914691236517205)
  have l2:=Nat.and_le_left (n:=a) (m:=6148914691236517205)
  have:=Jf (a:=a) (k:=1) (by omega)
  unfold q1 SH
  rw [show (Int.toNat 1)=Int.toNat ((1:Nat):Int)from rfl,this,Nat.pow_one]
  rw [show (6148914691236517205:Int)=((6148914691236517205:Nat):Int)from rfl,Mo (by omega) (by omega),Mo (by omega) (by omega),<-Int.natCast_add,cl (by omega)]
 have b1:SH a<=98304:=by
  have l1:=Nat.and_le_left (n:=a/2) (m:=6148914691236517205)
  have l2:=Nat.and_le_left (n:=a) (m:=6148914691236517205)
  unfold SH;omega
 have e2: ∀x:Nat,x<=98304->q2 x=((SD x:Nat):Int)/\SD x<=196608:=by
  intro x hx
  have l1:=Nat.and_le_left (n:=x/4) (m:=3689348814741910323)
  have l2:=Nat.and_le_left (n:=x) (m:=3689348814741910323)
  have:=Jf (a:=x) (k:=2) (by omega)
  refine⟨?_,by unfold SD;omega⟩
  unfold q2 SD
  rw [show (Int.toNat 2)=Int.toNat ((2:Nat):Int)from rfl,this,show 2^2=4 from rfl]
  rw [show (3689348814741910323:Int)=((3689348814741910323:Nat):Int)from rfl,Mo (by omega) (by omega),Mo (by omega) (by omega),<-Int.natCast_add,cl (by omega)]
 have e3: ∀x:Nat,x<=196608->q3 x=((Td x:Nat):Int)/\Td x<=393216:=by
  intro x hx
  have l1:=Nat.and_le_left (n:=x/16+x) (m:=1085102592571150095)
  have:=Jf (a:=x) (k:=4) (by omega)
  refine⟨?_,by unfold Td;omega⟩
  unfold q3 Td
  rw [show (Int.toNat 4)=Int.toNat ((4:Nat):Int)from rfl,this,show 2^4=16 from rfl,<-Int.natCast_add,cl (by omega)]
  rw [show (1085102592571150095:Int)=((1085102592571150095:Nat):Int)from rfl,Mo (by omega) (by omega)]
 have e4: ∀x:Nat,x<=393216->q4 x=((SU x:Nat):Int)/\SU x<=786432:=by
  intro x hx
  have:=Jf (a:=x) (k:=8) (by omega)
  refine⟨?_,by unfold SU;omega⟩
  unfold q4 SU
  rw [show (Int.toNat 8)=Int.toNat ((8:Nat):Int)from rfl,this,show 2^8=256 from rfl,<-Int.natCast_add,cl (by omega),Nat.add_comm]
 have e5: ∀x:Nat,x<=786432->q5 x=((SP x:Nat):Int)/\SP x<=1572864:=by
  intro x hx
  have:=Jf (a:=x) (k:=16) (by omega)
  refine⟨?_,by unfold SP;omega⟩
  unfold q5 SP
  rw [show (Int.toNat 16)=Int.toNat ((16:Nat):Int)from rfl,this,show 2^16=65536 from rfl,<-Int.natCast_add,cl (by omega),Nat.add_comm]
 have e6: ∀x:Nat,x<=1572864->q6 x=((T3 x:Nat):Int)/\T3 x<=3145728:=by
  intro x hx
  have:=Jf (a:=x) (k:=32) (by omega)
  refine⟨?_,by unfold T3;omega⟩
  unfold q6 T3
  rw [show (Int.toNat 32)=Int.toNat ((32:Nat):Int)from rfl,this,show 2^32=4294967296 from rfl,<-Int.natCast_add,cl (by omega),Nat.add_comm]
 have b2:=(e2 _ b1).2
 have b3:=(e3 _ b2).2
 have b4:=(e4 _ b3).2
 have b5:=(e5 _ b4).2
 have b6:=(e6 _ b5).2
 show R (I (nX (W (q6 (q5 (q4 (q3 (q2 (q1 a))))))) 127)) h
 rw [e1,(e2 _ b1).1,(e3 _ b2).1,(e4 _ b3).1,(e5 _ b4).1,(e6 _ b5).1,eu (by omega),show (127:Int)=((127:Nat):Int)from rfl,rU (by omega) (by omega)]
 have:=W1 16 (by omega) a (by simpa using ha)
 unfold HP at this
 rw [this];exact k
theorem OY {w a:Nat} (ha:a<2^w): ∀d,jx (w+d) a=jx w a:=by
 intro d
 induction d with
 |zero=>rfl
 |succ d ih=>
  have hz:a.testBit (w+d)=false:=Nat.testBit_lt_two_pow (Nat.lt_of_lt_of_le ha (Nat.pow_le_pow_right (by omega) (by omega)))
  rw [<-Nat.add_assoc,jx,ih,hz]
  simp
theorem SC {h:Hp} {kind:Int} {w a:Nat} {R:Value->Hp->Prop} (hk:1<=kind/\kind<=5) (e:WO w a)
  (k:R (.tuple #[I (xd kind w a).1,I (xd kind w a).2]) h):zV #[I kind,I w,I a] h R:=by
 apply OO
 refine uf_ ?_
 have h16:=e.pow
 have hp:=bD w
 have ha:=e.2
 have hw:=e.1
 unfold xd at k
 refine ac (fun e1=>?_) (fun e1=>ac (fun e2=>?_) (fun e2=>ac (fun e3=>?_) (fun e3=>ac (fun e4=>?_) (fun e4=>?_))))
 ·rw [if_pos (by simpa using e1)]at k
  refine dy (by omega) ⟨_,rfl,?_⟩
  have:W ((((2^w:Nat):Int)-1)-a)=((2^w-1-a:Nat):Int):=by rw [bV (by omega) (by omega)];omega
  rw [this];exact k
 ·rw [if_neg (by simpa using e1),if_pos (by simpa using e2)]at k
  refine dy (by omega) ⟨_,rfl,?_⟩
  rw [bV (n:=0-(a:Int)) (by omega) (by omega),gG (by omega),Int.zero_sub]
  exact k
 ·rw [if_neg (by simpa using e1),if_neg (by simpa using e2),if_pos (by simpa using e3)]at k
  refine xL ⟨_,rfl,?_⟩
  by_cases h0:a=0
  ·subst h0;simpa using k
  ·have:((a:Int) !=0)=true:=by simpa using h0
   rw [this];rw [if_neg h0]at k;simpa using k
 ·rw [if_neg (by simpa using e1),if_neg (by simpa using e2),if_neg (by simpa using e3),if_pos (by simpa using e4)]at k
  refine dy (by omega) ⟨_,rfl,xL ⟨_,rfl,?_⟩⟩
  by_cases h0:a=2^w-1
  ·have:((a:Int)==((2^w:Nat):Int)-1)=true:=by rw [beq_iff_eq];omega
   rw [this];rw [if_pos h0]at k;simpa using k
  ·have:((a:Int)==((2^w:Nat):Int)-1)=false:=by rw [beq_eq_false_iff_ne];omega
   rw [this];rw [if_neg h0]at k;simpa using k
 ·rw [if_neg (by simpa using e1),if_neg (by simpa using e2),if_neg (by simpa using e3),if_neg (by simpa using e4)]at k
  rw [cl (by omega)]
  refine FM (by omega) ⟨_,rfl,?_⟩
  have:=OY ha (16-w)
  rw [show w+(16-w)=16 by omega]at this
  rw [this,Fz];exact k
theorem Bh {h:Hp} {kind:Int} {w a:Nat} {R:Value->Hp->Prop} (hk:1<=kind/\kind<=5) (e:WO w a)
  (k:R (.tuple #[I (xd kind w a).1,I (xd kind w a).2, .bool true]) h):nv #[I kind,I w,I a] h R:=by
 apply Hu
 refine uf_ ?_
 have h16:=e.pow
 have hp:=bD w
 have ha:=e.2
 have hw:=e.1
 unfold xd at k
 refine cr ⟨_,rfl,aD (by rw [e.ok];rfl) ?_⟩
 refine ac (fun e1=>?_) (fun e1=>ac (fun e2=>?_) (fun e2=>ac (fun e3=>?_) (fun e3=>ac (fun e4=>?_) (fun e4=>?_))))
 ·rw [if_pos (by simpa using e1)]at k
  rw [cl (by omega),if_neg (by omega),bG (by omega),bV (n:=((2^w:Nat):Int)-1) (by omega) (by omega)]
  have:W ((((2^w:Nat):Int)-1)-a)=((2^w-1-a:Nat):Int):=by rw [bV (by omega) (by omega)];omega
  rw [this];exact k
 ·rw [if_neg (by simpa using e1),if_pos (by simpa using e2)]at k
  rw [bV (n:=0-(a:Int)) (by omega) (by omega),Int.zero_sub]
  exact gz hw ⟨_,rfl,k⟩
 ·rw [if_neg (by simpa using e1),if_neg (by simpa using e2),if_pos (by simpa using e3)]at k
  refine pa ⟨_,rfl,?_⟩
  by_cases h0:a=0
  ·subst h0;simpa using k
  ·have:decide ((a:Int)>0)=true:=by simp;omega
   rw [this];rw [if_neg h0]at k;simpa using k
 ·rw [if_neg (by simpa using e1),if_neg (by simpa using e2),if_neg (by simpa using e3),if_pos (by simpa using e4)]at k
  refine DD (by omega) ⟨_,rfl,pa ⟨_,rfl,?_⟩⟩
  have hf:=Ob ha
  by_cases h0:a=2^w-1
  ·have:(((jx w a:Nat):Int)==(w:Int))=true:=by rw [beq_iff_eq,hf.2 h0]
   rw [this];rw [if_pos h0]at k;simpa using k
  ·have:(((jx w a:Nat):Int)==(w:Int))=false:=by rw [beq_eq_false_iff_ne];intro he;exact h0 (hf.1 (by omega))
   rw [this];rw [if_neg h0]at k;simpa using k
 ·rw [if_neg (by simpa using e1),if_neg (by simpa using e2),if_neg (by simpa using e3),if_neg (by simpa using e4)]at k
  have:kind=5:=by
   have h1:kind≠1:=by simpa using e1
   have h2:kind≠2:=by simpa using e2
   have h3:kind≠3:=by simpa using e3
   have h4:kind≠4:=by simpa using e4
   omega
  refine aJ (by simpa using this) (DD (by omega) ⟨_,rfl,?_⟩)
  rw [Fz];exact k
theorem eY (a b:Nat):Int.tmod (a:Int) (b:Int)=((a%b:Nat):Int):=(Int.ofNat_tmod a b).symm
theorem Fj (a b:Nat):Int.tdiv (a:Int) (b:Int)=((a/b:Nat):Int):=(Int.ofNat_tdiv a b).symm
theorem DC {a b:Nat} (ha:a<65536) (hb:b<=65536):a*b<=4294967296:=by
 have:=Nat.mul_le_mul (Nat.le_of_lt ha) hb
 omega
theorem Dg {w a:Nat} (e:WO w a): -65536<=sgn w a/\sgn w a<=65536:=by
 have h:=Jt e.1.1 e.2
 have hp:=pT e.1.1
 have h16:=e.pow
 omega
theorem aY {a b:Int} (e:(a==b)=false): ¬a=b:=by simpa using e
theorem bU {a b:Int} (e:(a==b)=true):a=b:=by simpa using e
theorem Du {h:Hp} {w a p:Nat} {R:Value->Hp->Prop} (e:WO w a) (k:R (I (Hd w a (p%w))) h):pr #[I w,I a,I p] h R:=by
 apply HY
 refine uf_ ?_
 obtain⟨⟨h1,h2⟩,ha⟩:=e
 have h16:=zm h2
 have hm:p%w<w:=Nat.mod_lt _ (by omega)
 have hpm:=zm (w:=p%w) (by omega)
 have ht:Int.tmod (p:Int) (w:Int)=((p%w:Nat):Int):=eY p w
 have hw:W ((w:Int)-((p%w:Nat):Int))=((w-p%w:Nat):Int):=by rw [bV (by omega) (by omega)];omega
 have hmul:=DC (a:=a) (b:=2^(p%w)) (by omega) hpm
 rw [if_neg (by omega),ht,if_neg (by omega),hw,if_neg (by omega)]
 refine dy (by omega) ⟨_,rfl,?_⟩
 have hd:a/2^(w-p%w)<=a:=Nat.div_le_self _ _
 rw [gW (by omega) (by omega),kr (by omega),Au (by omega) (by omega),gG (by omega),oK]
 exact k
theorem Kd {h:Hp} {kind:Int} {w a b:Nat} {R:Value->Hp->Prop} (hk:kind=14\/kind=15) (ea:WO w a) (eb:WO w b)
  (k:R (I ((if kind=14 then I0 w a b else IV w a b:Nat):Int)) h):ri #[I kind,I w,I a,I b] h R:=by
 apply Fd
 refine uf_ ?_
 have h16:=ea.pow
 have hp:=bD w
 have sa:=Dg ea
 have sb:=Dg eb
 have hw:=ea.1
 refine mJ ea ⟨_,rfl,mJ eb ⟨_,rfl,?_⟩⟩
 unfold I0 IV at k
 by_cases hy:sgn w b=0
 ·rw [if_pos hy,if_pos hy]at k
  rw [hy]
  refine ap (fun J=>J (decide (kind=15))) ?_ (fun J hJ=>aJ rfl (by rw [show (kind==15)=decide (kind=15)from rfl];exact hJ))
  refine ac (fun e=>?_) (fun e=>?_)
  ·have e':kind=15:=by simpa using e
   rw [if_neg (by omega)]at k;exact k
  ·have e':kind=14:=by have: ¬kind=15:=by simpa using e
                       omega
   rw [if_pos e']at k
   refine ap (fun J=>J (decide (sgn w a<0))) ?_ (fun J hJ=>aJ rfl hJ)
   refine ac (fun e=>?_) (fun e=>aJ rfl (dy (by omega) ⟨_,rfl,?_⟩))
   ·rw [if_pos (by simpa using e)]at k;exact k
   ·rw [if_neg (by simpa using e)]at k
    have:((2^w-1:Nat):Int)=((2^w:Nat):Int)-1:=by omega
    rw [<-this];exact k
 ·rw [if_neg hy,if_neg hy]at k
  have hyb:(sgn w b==0)=false:=by simpa using hy
  refine ap (fun J=>J false) ?_ (fun J hJ=>aD hyb hJ)
  refine aD rfl (ap (fun J=>J false) ?_ (fun J hJ=>aD hyb hJ))
  refine aD rfl (aD hyb ?_)
  have hdiv:(Int.tdiv (sgn w a) (sgn w b)).natAbs<=65536:=by
   rw [Int.natAbs_tdiv]
   exact Nat.le_trans (Nat.div_le_self _ _) (by omega)
  refine ac (fun e=>?_) (fun e=>?_)
  ·rw [if_pos (by simpa using e)]at k
   rw [if_neg hy]
   refine dy (by omega) ⟨_,rfl,?_⟩
   rw [bV (by omega) (by omega),gG (by omega)];exact k
  ·rw [if_neg (by simpa using e)]at k
   rw [if_neg hy]
   refine dy (by omega) ⟨_,rfl,?_⟩
   rw [gG (by omega)];exact k
def Cz (kind:Int) (w a b:Nat):Nat:=if kind=16 then Wn w a b else if kind=17 then Wa w a b else V4 w a b
theorem KH {h:Hp} {kind:Int} {w a b:Nat} {R:Value->Hp->Prop} (ea:WO w a) (hb:b<=65536)
  (k:R (I (Cz kind w a b)) h):rh #[I kind,I w,I a,I b] h R:=by
 apply Fu
 refine uf_ ?_
 have h16:=ea.pow
 have ha:=ea.2
 have hw:=ea.1
 have hmin:(if(w:Int)<(b:Int)then(w:Int)else(b:Int))=((min b w:Nat):Int):=by
  by_cases h:w<b
  ·rw [if_pos (by omega),Nat.min_eq_right (by omega)]
  ·rw [if_neg (by omega),Nat.min_eq_left (by omega)]
 have hm:min b w<=w:=Nat.min_le_right _ _
 have hpm:=zm (w:=min b w) (by omega)
 have hmul:=DC (a:=a) (b:=2^min b w) (by omega) hpm
 unfold Cz at k
 rw [hmin]
 refine ac (fun e=>?_) (fun e=>ac (fun e2=>?_) (fun e2=>?_))
 ·rw [if_pos (bU e)]at k
  rw [if_neg (by omega)]
  refine dy (by omega) ⟨_,rfl,?_⟩
  rw [gW (by omega) (by omega),gG (by omega),oK];exact k
 ·rw [if_neg (aY e),if_pos (bU e2)]at k
  rw [if_neg (by omega),kr (by omega)];exact k
 ·rw [if_neg (aY e),if_neg (aY e2)]at k
  refine mJ ea ⟨_,rfl,?_⟩
  rw [if_neg (by omega)]
  refine dy (by omega) ⟨_,rfl,?_⟩
  rw [SZ (by omega),gG (by omega)];exact k
theorem Ip {h:Hp} {kind:Int} {w a b:Nat} {R:Value->Hp->Prop} (hk:21<=kind/\kind<=28) (ea:WO w a) (eb:WO w b)
  (k:R (.bool (Dh kind w a b)) h):qt #[I kind,I w,I a,I b] h R:=by
 apply EL
 refine uf_ ?_
 have h16:=ea.pow
 have hp:=bD w
 have sa:=Dg ea
 have sb:=Dg eb
 have ha:=ea.2
 have hb:=eb.2
 have hw:=ea.1
 unfold Dh at k
 have dd: ∀{p q:Prop} [Decidable p] [Decidable q],(p↔q)->decide p=decide q:=fun h=>by rw [decide_eq_decide];exact h
 refine mJ ea ⟨_,rfl,mJ eb ⟨_,rfl,?_⟩⟩
 refine ac (fun e1=>?_) (fun e1=>ac (fun e2=>?_) (fun e2=>ac (fun e3=>?_) (fun e3=>ac (fun e4=>?_) (fun e4=>ac (fun e5=>?_) (fun e5=>ac (fun e6=>?_) (fun e6=>ac (fun e7=>?_) (fun e7=>?_)))))))
 ·rw [if_pos (bU e1)]at k
  have:((a:Int)==(b:Int))=decide (a=b):=by rw [Bool.eq_iff_iff];simp;omega
  rw [this];exact k
 all_goals rw [if_neg (aY e1)]at k
 ·rw [if_pos (bU e2)]at k
  rw [dd (p:=(a:Int)<(b:Int)) (q:=a<b) (by omega)];exact k
 all_goals rw [if_neg (aY e2)]at k
 ·rw [if_pos (bU e3)]at k;exact k
 all_goals rw [if_neg (aY e3)]at k
 ·rw [if_pos (bU e4)]at k
  rw [dd (p:=(a:Int)<=(b:Int)) (q:=a<=b) (by omega)];exact k
 all_goals rw [if_neg (aY e4)]at k
 ·rw [if_pos (bU e5)]at k;exact k
 all_goals rw [if_neg (aY e5)]at k
 ·rw [if_pos (bU e6)]at k
  refine dy (by omega) ⟨_,rfl,?_⟩
  rw [bV (by omega) (by omega),dd (p:=(a:Int)+(b:Int)>((2^w:Nat):Int)-1) (q:=2^w<=a+b) (by omega)];exact k
 all_goals rw [if_neg (aY e6)]at k
 ·rw [if_pos (bU e7)]at k
  have w1:W ((w:Int)-1)=((w-1:Nat):Int):=by rw [bV (by omega) (by omega)];omega
  have hpp:=pT hw.1
  rw [w1,if_neg (by omega),if_neg (by omega),T1 (by omega),bG (by omega),bV (n:=sgn w a+sgn w b) (by omega) (by omega),bV (n:=((2^(w-1):Nat):Int)-1) (by omega) (by omega)]
  refine fv ⟨_,rfl,?_⟩
  rw [dd (p:= -((2^(w-1):Nat):Int)<=sgn w a+sgn w b/\sgn w a+sgn w b<=((2^(w-1):Nat):Int)-1) (q:= -((2^(w-1):Nat):Int)<=sgn w a+sgn w b/\sgn w a+sgn w b<((2^(w-1):Nat):Int)) (by omega)]
  exact k
 ·rw [if_neg (aY e7)]at k
  have hmul:=DC (a:=a) (b:=b) (by omega) (by omega)
  have hmi:(a:Int)*(b:Int)=((a*b:Nat):Int):=(Int.natCast_mul _ _).symm
  refine dy (by omega) ⟨_,rfl,?_⟩
  rw [hmi]
  generalize a*b=ab at*
  rw [eu (by omega),dd (p:=(ab:Int)>((2^w:Nat):Int)-1) (q:=2^w<=ab) (by omega)];exact k
theorem Tr {h:Hp} {kind:Int} {w a b:Nat} {R:Value->Hp->Prop} (hk:6<=kind/\kind<=28) (ea:WO w a) (eb:WO w b)
  (k:R (.tuple #[I (rk kind w a b).1,I (rk kind w a b).2]) h):zq #[I kind,I w,I a,I b] h R:=by
 apply Nq
 refine uf_ ?_
 have h16:=ea.pow
 have hp:=bD w
 have ha:=ea.2
 have hb:=eb.2
 have hw:=ea.1
 have hand:a&&&b<=a:=Nat.and_le_left
 have hmul:=DC (a:=a) (b:=b) (by omega) (by omega)
 by_cases h20:kind<=20
 rotate_left
 ·have t:rk kind w a b=(if Dh kind w a b then 1 else 0,1):=by unfold rk;rw [if_neg h20]
  rw [t]at k
  have nb: ∀n:Int,n<=20->(kind==n)=false:=fun n hn=>by rw [beq_eq_false_iff_ne];omega
  refine aD (nb _ (by omega)) (aD (nb _ (by omega)) (aD (nb _ (by omega)) (aD (nb _ (by omega)) (aD (nb _ (by omega)) (aD (nb _ (by omega)) (aD (nb _ (by omega)) (aD (nb _ (by omega)) ?_)))))))
  refine ap (fun J=>J false) ?_ (fun J hJ=>aD (nb _ (by omega)) (by rw [nb 15 (by omega)];exact hJ))
  refine aD rfl (ap (fun J=>J false) ?_ (fun J hJ=>aD (nb _ (by omega)) (aD (nb _ (by omega)) (by rw [nb 18 (by omega)];exact hJ))))
  refine aD rfl (aD (nb _ (by omega)) (aD (nb _ (by omega)) ?_))
  refine Ip (by omega) ea eb ⟨_,rfl,xL ⟨_,rfl,?_⟩⟩
  cases hs:Dh kind w a b
  ·rw [hs]at k;simpa using k
  ·rw [hs]at k;simpa using k
 have t:rk kind w a b=(GZ kind w a b,w):=by unfold rk;rw [if_pos h20]
 rw [t]at k
 unfold GZ at k
 simp only at k
 refine ac (fun e=>?_) (fun e6=>?_)
 ·rw [if_pos (bU e)]at k;rw [rU (by omega) (by omega)];exact k
 rw [if_neg (aY e6)]at k
 refine ac (fun e=>?_) (fun e7=>?_)
 ·rw [if_pos (bU e)]at k;rw [Au (by omega) (by omega)];exact k
 rw [if_neg (aY e7)]at k
 refine ac (fun e=>?_) (fun e8=>?_)
 ·rw [if_pos (bU e)]at k;rw [Mu (by omega) (by omega)];exact k
 rw [if_neg (aY e8)]at k
 refine ac (fun e=>?_) (fun e9=>?_)
 ·rw [if_pos (bU e)]at k
  refine dy (by omega) ⟨_,rfl,?_⟩
  rw [bV (by omega) (by omega),gG (by omega)];exact k
 rw [if_neg (aY e9)]at k
 refine ac (fun e=>?_) (fun e10=>?_)
 ·rw [if_pos (bU e)]at k
  refine dy (by omega) ⟨_,rfl,?_⟩
  rw [bV (by omega) (by omega),gG (by omega)];exact k
 rw [if_neg (aY e10)]at k
 refine ac (fun e=>?_) (fun e11=>?_)
 ·rw [if_pos (bU e)]at k
  refine dy (by omega) ⟨_,rfl,?_⟩
  have hmi:(a:Int)*(b:Int)=((a*b:Nat):Int):=(Int.natCast_mul _ _).symm
  rw [hmi]at k⊢
  generalize a*b=ab at*
  rw [eu (by omega),gG (by omega)];exact k
 rw [if_neg (aY e11)]at k
 refine ac (fun e=>?_) (fun e12=>?_)
 ·rw [if_pos (bU e)]at k
  refine dy (by omega) ⟨_,rfl,ac (fun eb0=>?_) (fun eb0=>?_)⟩
  ·have hb0: ¬b=0:=by have:=of_decide_eq_true eb0;omega
   rw [if_neg hb0]at k
   have hd:=Nat.div_le_self a b
   rw [if_neg (by omega),Fj,eu (by omega)];exact k
  ·have hb0:b=0:=by have:=of_decide_eq_false eb0;omega
   rw [if_pos hb0]at k
   have:((2^w-1:Nat):Int)=((2^w:Nat):Int)-1:=by omega
   rw [<-this];exact k
 rw [if_neg (aY e12)]at k
 refine ac (fun e=>?_) (fun e13=>?_)
 ·rw [if_pos (bU e)]at k
  refine ac (fun eb0=>?_) (fun eb0=>?_)
  ·have hb0: ¬b=0:=by have:=of_decide_eq_true eb0;omega
   rw [if_neg hb0]at k
   rw [if_neg (by omega),eY];exact k
  ·have hb0:b=0:=by have:=of_decide_eq_false eb0;omega
   rw [if_pos hb0]at k;exact k
 rw [if_neg (aY e13)]at k
 refine ap (fun J=>J (decide (kind=14\/kind=15))) ?_ ?_
 rotate_left
 ·intro J hJ
  refine ac (fun e=>?_) (fun e=>?_)
  ·rw [decide_eq_true (.inl (bU e))]at hJ;exact hJ
  ·have:(kind==15)=decide (kind=14\/kind=15):=by
    have:=aY e
    rw [Bool.eq_iff_iff];simp [this]
   rw [this];exact hJ
 refine ac (fun e=>?_) (fun e1415=>?_)
 ·have e':kind=14\/kind=15:=by simpa using e
  refine Kd e' ea eb ⟨_,rfl,?_⟩
  rcases e' with rfl|rfl
  ·simpa using k
  ·simpa using k
 have n14: ¬kind=14/\ ¬kind=15:=by simpa using e1415
 rw [if_neg n14.1,if_neg n14.2]at k
 refine ap (fun J=>J (decide (kind=16\/kind=17\/kind=18))) ?_ ?_
 rotate_left
 ·intro J hJ
  refine ac (fun e=>?_) (fun e=>ac (fun e2=>?_) (fun e2=>?_))
  ·rw [decide_eq_true (.inl (bU e))]at hJ;exact hJ
  ·rw [decide_eq_true (.inr (.inl (bU e2)))]at hJ;exact hJ
  ·have:(kind==18)=decide (kind=16\/kind=17\/kind=18):=by
    have h1:=aY e
    have h2:=aY e2
    rw [Bool.eq_iff_iff];simp [h1,h2]
   rw [this];exact hJ
 refine ac (fun e=>?_) (fun e1618=>?_)
 ·have e':kind=16\/kind=17\/kind=18:=by simpa using e
  refine KH ea (by omega) ⟨_,rfl,?_⟩
  unfold Cz
  rcases e' with rfl|rfl|rfl
  ·simpa using k
  ·simpa using k
  ·simpa using k
 have n16: ¬kind=16/\ ¬kind=17/\ ¬kind=18:=by simpa using e1618
 rw [if_neg n16.1,if_neg n16.2.1,if_neg n16.2.2]at k
 refine ac (fun e=>?_) (fun e19=>?_)
 ·rw [if_pos (bU e)]at k
  exact Du ea ⟨_,rfl,k⟩
 rw [if_neg (aY e19)]at k
 have h20':kind=20:=by
  have:=aY e6;have:=aY e7;have:=aY e8;have:=aY e9;have:=aY e10;have:=aY e11;have:=aY e12;have:=aY e13;have:=aY e19
  omega
 refine aJ (by simpa using h20') ?_
 have hm:b%w<w:=Nat.mod_lt _ (by omega)
 have hw2:W ((w:Int)-((b%w:Nat):Int))=((w-b%w:Nat):Int):=by rw [bV (by omega) (by omega)];omega
 rw [if_neg (by omega),eY,hw2]
 exact Du ea ⟨_,rfl,k⟩
def GO (kind:Int) (x y:Bool):Bool:=if kind=8 then x^^y else if kind=7 then x||y else x&&y
theorem KP {c:Bool} {n:Nat} (hn:n<=62):au (if c then 1 else 0) (n:Int)=((if c then 2^n else 0:Nat):Int):=by
 cases c
 ·have:=gW (a:=0) (n:=n) (by omega) (by omega);simpa using this
 ·have:=bG hn;simpa using this
theorem Jk {i:Nat} {f:Nat->Bool} {c:Bool} (hi:i<=60) (hc:c=f i):W ((cQ i f:Int)+((if c then 2^i else 0:Nat):Int))=((cQ (i+1) f:Nat):Int):=by
 have h1:=rb i f
 have h2:=my (n:=i) (by omega)
 subst hc
 simp only [cQ]
 rw [bV (by split<;>omega) (by split<;>omega)]
 omega
theorem L6 {h:Hp} {kind:Int} {w a b:Nat} {R:Value->Hp->Prop} (hw:w<=16)
  (k:R (I (cQ w fun i=>GO kind (a.testBit i) (b.testBit i))) h):sP #[I kind,I w,I a,I b] h R:=by
 apply H1
 refine uf_ ?_
 refine av w (fun i vs h'=>vs= [I kind,I w,I a,I b,I (cQ i fun i=>GO kind (a.testBit i) (b.testBit i)),I i]/\h'=h) ⟨rfl,rfl⟩ ?_
 rintro i _ _ next hi ⟨rfl,rfl⟩ hn
 refine⟨_,_,_,_,_,_,rfl,?_⟩
 by_cases hlt:i<w
 ·refine aJ (by simp [hlt]) (iM (by omega) ⟨_,rfl,iM (by omega) ⟨_,rfl,?_⟩⟩)
  have hn':=hn hlt _ _ ⟨rfl,rfl⟩
  generalize hx:a.testBit i=x at*
  generalize hy:b.testBit i=y at*
  refine ap (fun J=>J (if kind=7 then(if x||y then 1 else 0)else(if x&&y then 1 else 0))) ?_ ?_
  ·refine ap (fun J=>J (if GO kind x y then 1 else 0)) ?_ ?_
   ·rw [cl (by omega),if_neg (by omega),KP (by omega),Jk (by omega) (by rw [hx,hy]),aA (by omega)]
    exact hn'
   ·intro J hJ
    refine ac (fun e=>?_) (fun e=>?_)
    ·have:GO kind x y=(x^^y):=by unfold GO;rw [if_pos (bU e)]
     rw [this]at hJ
     revert hJ;cases x<;>cases y<;>exact id
    ·have:GO kind x y=if kind=7 then x||y else x&&y:=by unfold GO;rw [if_neg (aY e)]
     rw [this]at hJ
     by_cases h7:kind=7
     ·rw [if_pos h7]at hJ⊢;exact hJ
     ·rw [if_neg h7]at hJ⊢;exact hJ
  ·intro J hJ
   refine ac (fun e=>?_) (fun e=>?_)
   ·rw [if_pos (bU e)]at hJ
    revert hJ;cases x<;>cases y<;>exact id
   ·rw [if_neg (aY e)]at hJ
    revert hJ;cases x<;>cases y<;>exact id
 ·have:i=w:=by omega
  subst this
  exact aD (by simp) k
theorem OK {h:Hp} {kind:Int} {w a b:Nat} {R:Value->Hp->Prop} (ea:WO w a) (eb:WO w b)
  (k:R (I ((if kind=12 then(if b=0 then 2^w-1 else a/b)else if b=0 then a else a%b:Nat))) h):vo #[I kind,I w,I a,I b] h R:=by
 apply KW
 refine uf_ ?_
 have h16:=ea.pow
 have hp:=bD w
 have ha:=ea.2
 have hw:=ea.1
 refine ac (fun e=>?_) (fun e=>?_)
 ·rw [if_pos (bU e)]at k
  refine ac (fun e0=>?_) (fun e0=>?_)
  ·have hb0:b=0:=by have:=bU e0;omega
   rw [if_pos hb0]at k
   rw [cl (by omega),if_neg (by omega),bG (by omega),bV (by omega) (by omega)]
   have:((2^w-1:Nat):Int)=((2^w:Nat):Int)-1:=by omega
   rw [<-this];exact k
  ·have hb0: ¬b=0:=by have:=aY e0;omega
   rw [if_neg hb0]at k
   have hd:=Nat.div_le_self a b
   rw [if_neg (by omega),Fj,eu (by omega)];exact k
 ·rw [if_neg (aY e)]at k
  refine ac (fun e0=>?_) (fun e0=>?_)
  ·have hb0:b=0:=by have:=bU e0;omega
   rw [if_pos hb0]at k;exact k
  ·have hb0: ¬b=0:=by have:=aY e0;omega
   rw [if_neg hb0]at k
   rw [if_neg (by omega),eY];exact k
theorem L5 {h:Hp} {kind:Int} {w a b:Nat} {R:Value->Hp->Prop} (hk:kind=14\/kind=15) (ea:WO w a) (eb:WO w b)
  (k:R (I ((if kind=14 then I0 w a b else IV w a b:Nat):Int)) h):tM #[I kind,I w,I a,I b] h R:=by
 apply Ie
 refine uf_ ?_
 have h16:=ea.pow
 have hp:=bD w
 have sa:=Dg ea
 have sb:=Dg eb
 have hw:=ea.1
 refine ij ea ⟨_,rfl,ij eb ⟨_,rfl,?_⟩⟩
 unfold I0 IV at k
 refine ac (fun e=>?_) (fun e=>?_)
 ·have e':=bU e
  rw [if_neg (by omega)]at k
  refine ac (fun e0=>?_) (fun e0=>?_)
  ·rw [if_pos (bU e0)]at k;exact k
  ·rw [if_neg (aY e0)]at k
   rw [if_neg (aY e0)]
   exact gz hw ⟨_,rfl,k⟩
 ·have e':kind=14:=by have:=aY e;omega
  rw [if_pos e']at k
  by_cases hy:sgn w b=0
  ·rw [if_pos hy]at k
   have hyb:(sgn w b==0)=true:=by simpa using hy
   refine ap (fun J=>J (decide (sgn w a<0))) ?_ (fun J hJ=>aJ hyb hJ)
   refine ac (fun e=>?_) (fun e=>aJ hyb ?_)
   ·rw [if_pos (of_decide_eq_true e)]at k;exact k
   ·rw [if_neg (of_decide_eq_false e)]at k
    rw [cl (by omega),if_neg (by omega),bG (by omega),bV (by omega) (by omega)]
    have:((2^w-1:Nat):Int)=((2^w:Nat):Int)-1:=by omega
    rw [<-this];exact k
  ·rw [if_neg hy]at k
   have hyb:(sgn w b==0)=false:=by simpa using hy
   refine ap (fun J=>J false) ?_ (fun J hJ=>aD hyb hJ)
   refine aD rfl (aD hyb ?_)
   have hdiv:(Int.tdiv (sgn w a) (sgn w b)).natAbs<=65536:=by
    rw [Int.natAbs_tdiv]
    exact Nat.le_trans (Nat.div_le_self _ _) (by omega)
   rw [if_neg hy,bV (by omega) (by omega)]
   exact gz hw ⟨_,rfl,k⟩
theorem Ke {h:Hp} {kind:Int} {w a b:Nat} {R:Value->Hp->Prop} (hk:kind=16\/kind=17\/kind=18) (ea:WO w a) (hb:b<=65536)
  (k:R (I (Cz kind w a b)) h):ny #[I kind,I w,I a,I b] h R:=by
 have hw:=ea.1
 have key: ∀f:Nat->Bool,cQ w f=Cz kind w a b->
   (∀i,i<w->f i=if kind=16 then decide (b<=i)&&a.testBit (i-b)else if kind=17 then decide (i+b<w)&&a.testBit (i+b)else if i+b<w then a.testBit (i+b)else a.testBit (w-1))->
   ny #[I kind,I w,I a,I b] h R:=by
  intro f hcode hf
  apply Ft
  refine uf_ ?_
  refine av w (fun i vs h'=>vs= [I kind,I w,I a,I b,I (cQ i f),I i]/\h'=h) ⟨rfl,rfl⟩ ?_
  rintro i _ h' next hi ⟨rfl,rfl⟩ hn
  refine⟨_,_,_,_,_,_,rfl,?_⟩
  by_cases hlt:i<w
  ·refine aJ (by simp [hlt]) ?_
   have hn':=hn hlt _ _ ⟨rfl,rfl⟩
   have hfi:=hf i hlt
   refine ap (fun J=>J (if kind=16 then(i:Int)-b else(i:Int)+b)) ?_ ?_
   ·refine ap (fun J=>J (decide (0<=(if kind=16 then(i:Int)-b else(i:Int)+b)/\(if kind=16 then(i:Int)-b else(i:Int)+b)<w))) ?_ ?_
    ·refine ap (fun J=>J (if f i then 1 else 0) h') ?_ ?_
     ·rw [cl (by omega),if_neg (by omega),KP (by omega),Jk (by omega) rfl,aA (by omega)]
      exact hn'
     ·intro J hJ
      refine ac (fun e=>?_) (fun e=>?_)
      ·have e':=of_decide_eq_true e
       by_cases h16:kind=16
       ·rw [if_pos h16]at e' hfi⊢
        rw [show (i:Int)-b=((i-b:Nat):Int) by omega]
        refine iM (by omega) ⟨_,rfl,?_⟩
        rw [hfi]at hJ
        have:decide (b<=i)=true:=by simp;omega
        rw [this,Bool.true_and]at hJ;exact hJ
       ·rw [if_neg h16]at e' hfi⊢
        rw [show (i:Int)+b=((i+b:Nat):Int) by omega]
        refine iM (by omega) ⟨_,rfl,?_⟩
        have h1:decide (i+b<w)=true:=by simp;omega
        rw [h1,Bool.true_and,if_pos (show i+b<w by omega),ite_self]at hfi
        rw [hfi]at hJ;exact hJ
      ·have e':=of_decide_eq_false e
       refine ac (fun e2=>?_) (fun e2=>?_)
       ·have h18:=bU e2
        rw [if_neg (by omega)]at e'
        rw [if_neg (by omega),if_neg (by omega),if_neg (by omega)]at hfi
        rw [show W ((w:Int)-1)=((w-1:Nat):Int) by rw [bV (by omega) (by omega)];omega]
        refine iM (by omega) ⟨_,rfl,?_⟩
        rw [hfi]at hJ;exact hJ
       ·have h18:=aY e2
        have:f i=false:=by
         rw [hfi]
         by_cases h16:kind=16
         ·rw [if_pos h16]at e'⊢
          have:decide (b<=i)=false:=by simp;omega
          rw [this,Bool.false_and]
         ·rw [if_neg h16]at e'⊢
          rw [if_pos (by omega)]
          have:decide (i+b<w)=false:=by simp;omega
          rw [this,Bool.false_and]
        rw [this]at hJ
        exact hJ
    ·intro J hJ
     generalize (if kind=16 then(i:Int)-b else(i:Int)+b)=z at*
     refine ac (fun e=>?_) (fun e=>?_)
     ·have:0<=z:=of_decide_eq_true e
      rw [show decide (0<=z/\z<(w:Int))=decide (z<(w:Int)) by rw [decide_eq_decide];omega]at hJ;exact hJ
     ·have: ¬0<=z:=of_decide_eq_false e
      rw [show decide (0<=z/\z<(w:Int))=false by rw [decide_eq_false_iff_not];omega]at hJ;exact hJ
   ·intro J hJ
    refine ac (fun e=>?_) (fun e=>?_)
    ·rw [if_pos (bU e)]at hJ;rw [bV (by omega) (by omega)];exact hJ
    ·rw [if_neg (aY e)]at hJ;rw [bV (by omega) (by omega)];exact hJ
  ·have:i=w:=by omega
   subst this
   refine aD (by simp) ?_
   rw [hcode];exact k
 rcases hk with rfl|rfl|rfl
 ·exact key (fun i=>decide (b<=i)&&a.testBit (i-b)) To (fun i _=>rfl)
 ·exact key (fun i=>decide (i+b<w)&&a.testBit (i+b)) (T5 ea.2) (fun i _=>rfl)
 ·exact key (fun i=>if i+b<w then a.testBit (i+b)else a.testBit (w-1)) (Tk hw.1 hw.2 ea.2) (fun i _=>rfl)
theorem LE {h:Hp} {kind:Int} {w a b:Nat} {R:Value->Hp->Prop} (hk:kind=19\/kind=20) (ea:WO w a)
  (k:R (I ((if kind=19 then Hd w a (b%w)else Hd w a ((w-b%w)%w):Nat))) h):pC #[I kind,I w,I a,I b] h R:=by
 have hw:=ea.1
 have hm:b%w<w:=Nat.mod_lt _ (by omega)
 have key: ∀s:Nat,s<w->R (I (Hd w a s)) h->(∀i,i<w->(if kind=20 then(i+w-b%w)%w else(i+b%w)%w)=(i+s)%w)->
   pC #[I kind,I w,I a,I b] h R:=by
  intro s hs k hto
  apply H2
  refine uf_ ?_
  refine av w (fun i vs h'=>vs= [I kind,I w,I a,I b,I (cQ w fun j=>decide ((j+(w-s))%w<i)&&a.testBit ((j+(w-s))%w)),I i]/\h'=h) ⟨?_,rfl⟩ ?_
  ·have:cQ w (fun j=>decide ((j+(w-s))%w<0)&&a.testBit ((j+(w-s))%w))=0:=
    ji (bD w) fun i _=>by simp
   rw [this];rfl
  rintro i _ h' next hi ⟨rfl,rfl⟩ hn
  refine⟨_,_,_,_,_,_,rfl,?_⟩
  by_cases hlt:i<w
  ·refine aJ (by simp [hlt]) ?_
   have hn':=hn hlt _ _ ⟨rfl,rfl⟩
   have hst:=P4 (a:=a) hs hlt
   have hto:=hto i hlt
   rw [if_neg (by omega),eY]
   have hpw:(i+s)%w<w:=Nat.mod_lt _ (by omega)
   refine ap (fun J=>J ((if kind=20 then i+w-b%w else i+b%w:Nat):Int)) ?_ ?_
   ·have ht:Int.tmod ((if kind=20 then i+w-b%w else i+b%w:Nat):Int) (w:Int)=(((i+s)%w:Nat):Int):=by
     rw [eY,<-hto]
     split<;>rfl
    rw [if_neg (by omega),ht,cl (by omega)]
    have step:W ((cQ w (fun j=>decide ((j+(w-s))%w<i)&&a.testBit ((j+(w-s))%w)):Int)+au (if a.testBit i then 1 else 0) (((i+s)%w:Nat):Int))=
      ((cQ w (fun j=>decide ((j+(w-s))%w<i+1)&&a.testBit ((j+(w-s))%w)):Nat):Int):=by
     rw [KP (by omega),<-hst,<-Int.natCast_add,eu]
     rw [hst]
     have:=rb w (fun j=>decide ((j+(w-s))%w<i+1)&&a.testBit ((j+(w-s))%w))
     have:=zm hw.2
     omega
    have one:dV #[I a,I i] h' fun v25 h26=> ∃(x27:Int),v25=(I x27)/\(if(((i+s)%w:Nat):Int)<0 then False else next [I kind,I w,I a,I b,I (W ((cQ w (fun j=>decide ((j+(w-s))%w<i)&&a.testBit ((j+(w-s))%w)):Int)+au x27 (((i+s)%w:Nat):Int))),I (W ((i:Int)+1))] h26):=by
     refine iM (by omega) ⟨_,rfl,?_⟩
     rw [if_neg (by omega),step,aA (by omega)]
     exact hn'
    exact⟨one,one⟩
   ·intro J hJ
    refine ac (fun e=>?_) (fun e=>?_)
    ·rw [if_pos (bU e)]at hJ
     rw [if_neg (by omega)]
     have:W (W ((i:Int)+w)-((b%w:Nat):Int))=((i+w-b%w:Nat):Int):=by rw [bV (n:=(i:Int)+w) (by omega) (by omega),bV (by omega) (by omega)];omega
     rw [this];exact hJ
    ·rw [if_neg (aY e)]at hJ
     have:W ((i:Int)+((b%w:Nat):Int))=((i+b%w:Nat):Int):=by rw [bV (by omega) (by omega)];omega
     rw [this];exact hJ
  ·have:i=w:=by omega
   subst this
   refine aD (by simp) ?_
   have:cQ i (fun j=>decide ((j+(i-s))%i<i)&&a.testBit ((j+(i-s))%i))=Hd i a s:=by
    rw [<-Tt ea.2 hs]
    refine rF fun j _=>?_
    have:decide ((j+(i-s))%i<i)=true:=by
     rw [decide_eq_true_eq];exact Nat.mod_lt _ (by omega)
    rw [this,Bool.true_and]
   rw [this];exact k
 rcases hk with rfl|rfl
 ·refine key (b%w) hm k fun i _=>?_
  rw [if_neg (by omega)]
 ·rw [if_neg (by omega)]at k
  refine key ((w-b%w)%w) (Nat.mod_lt _ (by omega)) k fun i _=>?_
  rw [if_pos rfl,Nat.add_mod_mod]
  congr 1
  omega
theorem yq {b:Bool} {R:Value->Hp->Prop} {h:Hp} {c:Bool} (e:b=c) (k:R (.tuple #[.bool c, .bool true]) h):R (.tuple #[.bool b, .bool true]) h:=by rw [e];exact k
theorem LY {h:Hp} {kind:Int} {w a b:Nat} {R:Value->Hp->Prop} (ea:WO w a) (eb:WO w b)
  (k1:21<=kind/\kind<=28->R (.tuple #[.bool (Dh kind w a b), .bool true]) h)
  (k2: ¬(21<=kind/\kind<=28)->R (.tuple #[.bool false, .bool false]) h):tD #[I kind,I w,I a,I b] h R:=by
 apply HD
 refine uf_ ?_
 have h16:=ea.pow
 have hp:=bD w
 have sa:=Dg ea
 have sb:=Dg eb
 have ha:=ea.2
 have hb:=eb.2
 have hw:=ea.1
 have dd: ∀{p q:Prop} [Decidable p] [Decidable q],(p↔q)->decide p=decide q:=fun h=>by rw [decide_eq_decide];exact h
 refine ij ea ⟨_,rfl,ij eb ⟨_,rfl,?_⟩⟩
 refine ac (fun e=>?_) (fun e1=>?_)
 ·have e:=bU e
  subst e
  refine yq ?_ (k1 (by omega))
  show _=decide (a=b)
  rw [Bool.eq_iff_iff];simp;omega
 refine ac (fun e=>?_) (fun e2=>?_)
 ·have e:=bU e
  subst e
  exact yq (dd (by omega)) (k1 (by omega))
 refine ac (fun e=>?_) (fun e3=>?_)
 ·have e:=bU e
  subst e
  exact k1 (by omega)
 refine ac (fun e=>?_) (fun e4=>?_)
 ·have e:=bU e
  subst e
  exact yq (dd (by omega)) (k1 (by omega))
 refine ac (fun e=>?_) (fun e5=>?_)
 ·have e:=bU e
  subst e
  exact k1 (by omega)
 refine ac (fun e=>?_) (fun e6=>?_)
 ·have e:=bU e
  subst e
  have hab:W ((a:Int)+b)=((a+b:Nat):Int):=by rw [bV (by omega) (by omega)];omega
  rw [hab]
  refine cr ⟨_,rfl,?_⟩
  refine yq ?_ (k1 (by omega))
  show _=decide (2^w<=a+b)
  rw [Bool.eq_iff_iff]
  have:=jP (w:=(w:Int)) (v:=((a+b:Nat):Int))
  rw [Int.toNat_natCast]at this
  simp only [Bool.not_eq_true',decide_eq_true_eq,<-Bool.not_eq_true,this]
  omega
 refine ac (fun e=>?_) (fun e7=>?_)
 ·have e:=bU e
  subst e
  rw [bV (by omega) (by omega)]
  refine gz hw ⟨_,rfl,ij ⟨hw,jo _ _⟩ ⟨_,rfl,?_⟩⟩
  refine yq ?_ (k1 (by omega))
  show _= !decide (-((2^(w-1):Nat):Int)<=sgn w a+sgn w b/\sgn w a+sgn w b<((2^(w-1):Nat):Int))
  have:=ZK (a:=a) (b:=b) hw.1
  rw [Bool.eq_iff_iff,bne_iff_ne,this,Bool.not_eq_true',decide_eq_false_iff_not]
 refine ac (fun e=>?_) (fun e8=>?_)
 ·have e:=bU e
  subst e
  have hmul:=DC (a:=a) (b:=b) (by omega) (by omega)
  have hmi:(a:Int)*(b:Int)=((a*b:Nat):Int):=(Int.natCast_mul _ _).symm
  rw [hmi,eu (by omega)]
  refine cr ⟨_,rfl,?_⟩
  refine yq ?_ (k1 (by omega))
  show _=decide (2^w<=a*b)
  rw [Bool.eq_iff_iff]
  have:=jP (w:=(w:Int)) (v:=((a*b:Nat):Int))
  rw [Int.toNat_natCast]at this
  simp only [Bool.not_eq_true',decide_eq_true_eq,<-Bool.not_eq_true,this]
  generalize a*b=ab at*
  omega
 ·have:=aY e1;have:=aY e2;have:=aY e3;have:=aY e4;have:=aY e5;have:=aY e6;have:=aY e7;have:=aY e8
  exact k2 (by omega)
theorem Ar {h:Hp} {kind:Int} {w a b:Nat} {R:Value->Hp->Prop} (hk:6<=kind/\kind<=28) (ea:WO w a) (eb:WO w b)
  (k:R (.tuple #[I (rk kind w a b).1,I (rk kind w a b).2, .bool true]) h):nW #[I kind,I w,I a,I b] h R:=by
 apply GU
 refine uf_ ?_
 have h16:=ea.pow
 have hp:=bD w
 have ha:=ea.2
 have hb:=eb.2
 have hw:=ea.1
 have hmul:=DC (a:=a) (b:=b) (by omega) (by omega)
 refine ap (fun J=>J false h) ?_ (fun J hJ=>cr ⟨_,rfl,aD (by rw [ea.ok];rfl) (cr ⟨_,rfl,by rw [eb.ok];exact hJ⟩)⟩)
 refine aD rfl (LY ea eb (fun h21=>⟨_,_,rfl,aJ rfl (pa ⟨_,rfl,?_⟩)⟩) (fun h21=>⟨_,_,rfl,aD rfl ?_⟩))
 ·have t:rk kind w a b=(if Dh kind w a b then 1 else 0,1):=by unfold rk;rw [if_neg (by omega)]
  rw [t]at k
  cases hs:Dh kind w a b
  ·rw [hs]at k;simpa using k
  ·rw [hs]at k;simpa using k
 have t:rk kind w a b=(GZ kind w a b,w):=by unfold rk;rw [if_pos (by omega)]
 rw [t]at k
 unfold GZ at k
 simp only at k
 refine ap (fun J=>J (decide (kind=6\/kind=7\/kind=8))) ?_ ?_
 rotate_left
 ·intro J hJ
  refine ac (fun e=>?_) (fun e=>ac (fun e2=>?_) (fun e2=>?_))
  ·rw [decide_eq_true (.inl (bU e))]at hJ;exact hJ
  ·rw [decide_eq_true (.inr (.inl (bU e2)))]at hJ;exact hJ
  ·have:(kind==8)=decide (kind=6\/kind=7\/kind=8):=by
    have h1:=aY e
    have h2:=aY e2
    rw [Bool.eq_iff_iff];simp [h1,h2]
   rw [this];exact hJ
 refine ac (fun e=>?_) (fun e678=>?_)
 ·have e':kind=6\/kind=7\/kind=8:=by simpa using e
  refine L6 hw.2 ⟨_,rfl,?_⟩
  rcases e' with rfl|rfl|rfl
  ·rw [if_pos rfl,<-FK ha]at k;exact k
  ·rw [if_neg (by decide),if_pos rfl,<-PU ha hb]at k;exact k
  ·rw [if_neg (by decide),if_neg (by decide),if_pos rfl,<-Tl ha hb]at k;exact k
 have n6: ¬kind=6/\ ¬kind=7/\ ¬kind=8:=by simpa using e678
 rw [if_neg n6.1,if_neg n6.2.1,if_neg n6.2.2]at k
 refine ac (fun e=>?_) (fun e9=>?_)
 ·rw [if_pos (bU e)]at k
  rw [bV (by omega) (by omega)]
  exact gz hw ⟨_,rfl,k⟩
 rw [if_neg (aY e9)]at k
 refine ac (fun e=>?_) (fun e10=>?_)
 ·rw [if_pos (bU e)]at k
  rw [bV (by omega) (by omega)]
  exact gz hw ⟨_,rfl,k⟩
 rw [if_neg (aY e10)]at k
 refine ac (fun e=>?_) (fun e11=>?_)
 ·rw [if_pos (bU e)]at k
  have hmi:(a:Int)*(b:Int)=((a*b:Nat):Int):=(Int.natCast_mul _ _).symm
  rw [hmi]at k⊢
  generalize a*b=ab at*
  rw [eu (by omega)]
  exact gz hw ⟨_,rfl,k⟩
 rw [if_neg (aY e11)]at k
 refine ap (fun J=>J (decide (kind=12\/kind=13))) ?_ ?_
 rotate_left
 ·intro J hJ
  refine ac (fun e=>?_) (fun e=>?_)
  ·rw [decide_eq_true (.inl (bU e))]at hJ;exact hJ
  ·have:(kind==13)=decide (kind=12\/kind=13):=by
    have:=aY e
    rw [Bool.eq_iff_iff];simp [this]
   rw [this];exact hJ
 refine ac (fun e=>?_) (fun e1213=>?_)
 ·have e':kind=12\/kind=13:=by simpa using e
  refine OK ea eb ⟨_,rfl,?_⟩
  rcases e' with rfl|rfl
  ·simpa using k
  ·simpa using k
 have n12: ¬kind=12/\ ¬kind=13:=by simpa using e1213
 rw [if_neg n12.1,if_neg n12.2]at k
 refine ap (fun J=>J (decide (kind=14\/kind=15))) ?_ ?_
 rotate_left
 ·intro J hJ
  refine ac (fun e=>?_) (fun e=>?_)
  ·rw [decide_eq_true (.inl (bU e))]at hJ;exact hJ
  ·have:(kind==15)=decide (kind=14\/kind=15):=by
    have:=aY e
    rw [Bool.eq_iff_iff];simp [this]
   rw [this];exact hJ
 refine ac (fun e=>?_) (fun e1415=>?_)
 ·have e':kind=14\/kind=15:=by simpa using e
  refine L5 e' ea eb ⟨_,rfl,?_⟩
  rcases e' with rfl|rfl
  ·simpa using k
  ·simpa using k
 have n14: ¬kind=14/\ ¬kind=15:=by simpa using e1415
 rw [if_neg n14.1,if_neg n14.2]at k
 refine ap (fun J=>J (decide (kind=16\/kind=17\/kind=18))) ?_ ?_
 rotate_left
 ·intro J hJ
  refine ac (fun e=>?_) (fun e=>ac (fun e2=>?_) (fun e2=>?_))
  ·rw [decide_eq_true (.inl (bU e))]at hJ;exact hJ
  ·rw [decide_eq_true (.inr (.inl (bU e2)))]at hJ;exact hJ
  ·have:(kind==18)=decide (kind=16\/kind=17\/kind=18):=by
    have h1:=aY e
    have h2:=aY e2
    rw [Bool.eq_iff_iff];simp [h1,h2]
   rw [this];exact hJ
 refine ac (fun e=>?_) (fun e1618=>?_)
 ·have e':kind=16\/kind=17\/kind=18:=by simpa using e
  refine Ke e' ea (by omega) ⟨_,rfl,?_⟩
  unfold Cz
  rcases e' with rfl|rfl|rfl
  ·simpa using k
  ·simpa using k
  ·simpa using k
 have n16: ¬kind=16/\ ¬kind=17/\ ¬kind=18:=by simpa using e1618
 rw [if_neg n16.1,if_neg n16.2.1,if_neg n16.2.2]at k
 have h1920:kind=19\/kind=20:=by
  have:=aY e9;have:=aY e10;have:=aY e11
  omega
 refine ap (fun J=>J true) ?_ ?_
 rotate_left
 ·intro J hJ
  refine ac (fun e=>hJ) (fun e=>?_)
  have:(kind==20)=true:=by
   have:=aY e
   rw [beq_iff_eq];omega
  rw [this];exact hJ
 refine aJ rfl (LE h1920 ea ⟨_,rfl,k⟩)
theorem UG {w a more:Nat} {sign:Bool} (e:WO w a):Gi w a more sign<2^(w+more):=by
 unfold Gi
 cases sign
 ·have:=e.2
  have:2^w<=2^(w+more):=Nat.pow_le_pow_right (by omega) (by omega)
  rw [if_neg (by decide)];omega
 ·exact jo _ _
theorem Qq {h:Hp} {w a more:Nat} {s:Bool} {R:Value->Hp->Prop} (e:WO w a) (hm:w+more<=16)
  (k:R (I (Gi w a more s)) h):xh #[I w,I a,I more, .bool s] h R:=by
 apply Ls
 refine uf_ ?_
 unfold Gi at k
 refine ac (fun es=>?_) (fun es=>?_)
 ·rw [if_pos es]at k
  refine mJ e ⟨_,rfl,?_⟩
  rw [show W ((w:Int)+more)=((w+more:Nat):Int) by rw [bV (by omega) (by omega)];omega]
  refine dy (by omega) ⟨_,rfl,?_⟩
  rw [gG (by omega)];exact k
 ·rw [if_neg (by rw [es];decide)]at k;exact k
theorem HZ {h:Hp} {w a more:Nat} {s:Bool} {R:Value->Hp->Prop} (e:WO w a) (hm:w+more<=16)
  (k:R (.tuple #[I (Gi w a more s),I ((w+more:Nat):Int), .bool true]) h):jR #[I w,I a,I more, .bool s] h R:=by
 apply vF
 refine uf_ ?_
 unfold Gi at k
 have hw:W ((w:Int)+more)=((w+more:Nat):Int):=by rw [bV (by omega) (by omega)];omega
 have h1:=e.1
 refine ap (fun J=>J false h) ?_ (fun J hJ=>cr ⟨_,rfl,aD (by rw [e.ok];rfl) (aD (by simp) ?_)⟩)
 ·refine aD rfl (ac (fun es=>?_) (fun es=>?_))
  ·rw [if_pos es]at k
   rw [hw]
   exact ij e ⟨_,rfl,gz (by omega) ⟨_,rfl,k⟩⟩
  ·rw [if_neg (by rw [es];decide)]at k
   rw [hw];exact k
 ·rw [bV (by omega) (by omega),show decide ((more:Int)>16-(w:Int))=false by rw [decide_eq_false_iff_not];omega];exact hJ
theorem HU {h:Hp} {w a u b:Nat} {R:Value->Hp->Prop} (ea:WO w a) (eb:WO u b) (hm:w+u<=16)
  (k:R (.tuple #[I ((a*2^u+b:Nat):Int),I ((w+u:Nat):Int), .bool true]) h):jX #[I w,I a,I u,I b] h R:=by
 apply vD
 refine uf_ ?_
 have hw:W ((w:Int)+u)=((w+u:Nat):Int):=by rw [bV (by omega) (by omega)];omega
 have h1:=ea.1
 have h2:=eb.1
 have ha:=ea.2
 have hb:=eb.2
 have h16a:=ea.pow
 have h16b:=eb.pow
 have hmul:=DC (a:=a) (b:=2^u) (by omega) (by omega)
 refine ap (fun J=>J false h) ?_ (fun J hJ=>cr ⟨_,rfl,aD (by rw [ea.ok];rfl) (cr ⟨_,rfl,aD (by rw [eb.ok];rfl) ?_⟩)⟩)
 ·rw [cl (by omega)]
  refine aD rfl ?_
  rw [if_neg (by omega),gW (by omega) (by omega),hw,<-Int.natCast_add,eu (by omega)];exact k
 ·rw [hw,show decide (((w+u:Nat):Int)>16)=false by rw [decide_eq_false_iff_not];omega];exact hJ
theorem Gw {h:Hp} {w a hi lo:Nat} {R:Value->Hp->Prop} (ea:WO w a) (h1:lo<=hi) (h2:hi<w)
  (k:R (.tuple #[I ((a/2^lo%2^(hi-lo+1):Nat):Int),I ((hi-lo+1:Nat):Int), .bool true]) h):jp #[I w,I a,I hi,I lo] h R:=by
 apply tZ
 refine uf_ ?_
 have e0:=ea.1
 have hw:W (W ((hi:Int)-lo)+1)=((hi-lo+1:Nat):Int):=by rw [bV (n:=(hi:Int)-lo) (by omega) (by omega),bV (by omega) (by omega)];omega
 have e1:=ea.1
 have hp:=bD (hi-lo+1)
 refine ap (fun J=>J false h) ?_ (fun J hJ=>cr ⟨_,rfl,aD (by rw [ea.ok];rfl) (aD (by simp) (aD (by simp;omega) ?_))⟩)
 ·refine aD rfl ?_
  rw [hw,cl (by omega),cl (by omega),if_neg (by omega),if_neg (by omega),bG (by omega),if_neg (by omega),kr (by omega),eY]
  exact k
 ·rw [show decide ((hi:Int)>=(w:Int))=false by rw [decide_eq_false_iff_not];omega];exact hJ
theorem aj {h:Hp} {cs:Nat->List Value} {n:Nat->Nat} {P:Nat->Hp->Prop}
  (k: ∀b h',h b=none->h.le h'->h' b=some (.inl ⟨cs b,n b,false⟩)->P b h'): ∀b,h b=none->cu (h.row b (cs b) (n b)) fun h'=>P b h':=
 fun b hb=>k b _ hb (eM _ _ hb) (bT _ _ _ _)
theorem dj {b c:Bool} {R:Value->Hp->Prop} {h:Hp} (e:b=c) (k:R (.bool c) h):R (.bool b) h:=by rw [e];exact k
theorem qo {b c:Int} {R:Value->Hp->Prop} {h:Hp} (e:b=c) (k:R (I c) h):R (I b) h:=by rw [e];exact k
theorem Yh {P:Bool->Prop} {c b:Bool} (k:P (c&&b)):ad c (P b) (P false):=by cases c<;>exact k
theorem ZQ {P:Bool->Prop} {c b:Bool} (k:P (c||b)):ad c (P true) (P b):=by cases c<;>exact k
abbrev tW (s:SortP):Value:= .agg #[I s.idx,I s.wid]
abbrev Di (n:NodeP):Value:= .agg #[I n.kind,I n.a,I n.b,I n.c,I n.n,I n.m,I n.sort.idx,I n.sort.wid, .string n.name]
abbrev Je (b:BindP):Value:= .agg #[I b.state,I b.node]
theorem GV (s:SortP):bR s=(decide (0<=s.idx/\s.idx<=2)&&decide (1<=s.wid/\s.wid<=16)):=by
 unfold bR;rw [Bool.eq_iff_iff];simp
theorem bZ {s:SortP}:bR s=true↔(0<=s.idx/\s.idx<=2)/\(1<=s.wid/\s.wid<=16):=by
 unfold bR;simp
theorem oG {h:Hp} {i w:Int} {R:Value->Hp->Prop} (k:R (.bool (bR ⟨i,w⟩)) h):lH #[.agg #[I i,I w]] h R:=by
 refine ACalls.drop (Iv ?_)
 refine uf_ ?_
 refine aj fun b h1 hb l1 f1=>?_
 simp only [vm,mm,aq f1]
 rw [GV]at k
 refine fv ⟨_,rfl,ac (fun e=>?_) (fun e=>⟨_,l1,dj ?_ k⟩)⟩
 ·simp only [vm,mm,aq f1]
  exact AH ⟨_,rfl,⟨_,l1,dj (by simp only [e,Bool.true_and]) k⟩⟩
 ·simp only [e,Bool.false_and]
theorem oZ {h:Hp} {i w:Int} {R:Value->Hp->Prop} (k:R (.bool (bR ⟨i,w⟩)) h):ly #[.agg #[I i,I w]] h R:=by
 refine ACalls.drop (H8 ?_)
 refine uf_ ?_
 refine aj fun b h1 hb l1 f1=>?_
 simp only [vm,mm,aq f1]
 rw [GV]at k
 refine dx ⟨_,rfl,ac (fun e=>?_) (fun e=>⟨_,l1,dj ?_ k⟩)⟩
 ·simp only [vm,mm,aq f1]
  exact uZ ⟨_,rfl,⟨_,l1,dj (by simp only [e,Bool.true_and]) k⟩⟩
 ·simp only [e,Bool.false_and]
theorem uv (s:SortP):cL s<=4:=by
 unfold cL
 split
 ·rename_i e
  have:=bZ.1 e
  have:=Nat.pow_le_pow_right (n:=2) (by omega) (show s.idx.toNat<=2 by omega)
  simpa using this
 ·omega
theorem la {h:Hp} {i w:Int} {R:Value->Hp->Prop} (k:R (I (cL ⟨i,w⟩)) h):jd #[.agg #[I i,I w]] h R:=by
 refine ACalls.drop (CM ?_)
 refine uf_ ?_
 refine aj fun b h1 hb l1 f1=>?_
 simp only [vm,mm,aq f1]
 unfold cL at k
 refine oG ⟨_,rfl,ac (fun e=>⟨_,l1,?_⟩) (fun e=>?_)⟩
 ·rw [if_neg (by simpa using e)]at k;exact k
 ·have e':bR ⟨i,w⟩=true:=by simpa using e
  have:=bZ.1 e'
  rw [if_pos e']at k
  simp only [vm,mm,aq f1]
  obtain⟨n,rfl⟩: ∃n:Nat,i=n:=⟨i.toNat,by simp only at this;omega⟩
  simp only at this
  rw [if_neg (by omega),bG (by omega)]
  exact⟨_,l1,k⟩
theorem ff {h:Hp} {i w:Int} {R:Value->Hp->Prop} (k:R (I (cL ⟨i,w⟩)) h):eD #[.agg #[I i,I w]] h R:=by
 refine ACalls.drop (Ci ?_)
 refine uf_ ?_
 refine aj fun b h1 hb l1 f1=>?_
 simp only [vm,mm,aq f1]
 unfold cL at k
 refine oZ ⟨_,rfl,ac (fun e=>⟨_,l1,?_⟩) (fun e=>?_)⟩
 ·rw [if_neg (by simpa using e)]at k;exact k
 ·have e':bR ⟨i,w⟩=true:=by simpa using e
  have:=bZ.1 e'
  rw [if_pos e']at k
  simp only [vm,mm,aq f1]
  obtain⟨n,rfl⟩: ∃n:Nat,i=n:=⟨i.toNat,by simp only at this;omega⟩
  simp only at this
  rw [cl (by omega),if_neg (by omega),bG (by omega)]
  exact⟨_,l1,k⟩
theorem xK (s:SortP):dG s<=64:=by
 unfold dG
 by_cases e:bR s=true
 ·have:=bZ.1 e
  have h1:=uv s
  have:=Nat.mul_le_mul h1 (show s.wid.toNat<=16 by omega)
  omega
 ·have:cL s=0:=by unfold cL;rw [if_neg e]
  rw [this];omega
theorem Bl {s:SortP} {x:Int} (hx:bR s=true->x=s.wid):(cL s:Int)*x=((dG s:Nat):Int):=by
 unfold dG
 by_cases e:bR s=true
 ·have:=bZ.1 e
  rw [hx e,Int.natCast_mul]
  congr 1
  omega
 ·have:cL s=0:=by unfold cL;rw [if_neg e]
  rw [this];simp
theorem sc {h:Hp} {i w:Int} {R:Value->Hp->Prop} (k:R (I (dG ⟨i,w⟩)) h):lW #[.agg #[I i,I w]] h R:=by
 refine ACalls.drop (Ea ?_)
 refine uf_ ?_
 refine aj fun b h1 hb l1 f1=>?_
 simp only [vm,mm,aq f1]
 refine la ⟨_,rfl,rfl,⟨_,l1,qo ?_ k⟩⟩
 have:=xK ⟨i,w⟩
 rw [Bl,eu (by omega)]
 intro e
 have:=bZ.1 e
 simp only at this⊢
 split<;>split<;>omega
theorem gR {h:Hp} {i w:Int} {R:Value->Hp->Prop} (k:R (I (dG ⟨i,w⟩)) h):fZ #[.agg #[I i,I w]] h R:=by
 refine ACalls.drop (DS ?_)
 refine uf_ ?_
 refine aj fun b h1 hb l1 f1=>?_
 simp only [vm,mm,aq f1]
 refine ff ⟨_,rfl,rfl,⟨_,l1,qo ?_ k⟩⟩
 have:=xK ⟨i,w⟩
 rw [Bl (fun _=>rfl),eu (by omega)]
theorem dX {α:Sort _} (c:α) (k:α->Prop):aH c k=k c:=rfl
theorem uJ {P:Prop} (k:P:=by((try rw [Bool.eq_iff_iff]);((try simp only [decide_eq_true_eq,decide_eq_false_iff_not,beq_iff_eq,beq_eq_false_iff_ne,bne_iff_ne,bne_eq_false_iff_eq,ne_eq,Bool.not_eq_true',Bool.not_eq_false',Bool.and_eq_true,Bool.or_eq_true,Bool.true_and,Bool.false_and,Bool.and_true,Bool.and_false,Bool.true_or,Bool.false_or,reduceCtorEq,iff_false,iff_true,false_iff,true_iff,Bool.not_true,Bool.not_false]at*));try ((repeat' split)<;>omega))):P:=k
theorem fq {α:Sort _} {b c:α} {J:α->Prop} (e:b=c) (k:J c):J b:=by rw [e];exact k
theorem ib {h:Hp} {kind:Int} {R:Value->Hp->Prop} (k:R (I (ar kind)) h):iJ #[I kind] h R:=by
 apply J8
 refine uf_ ?_
 simp only [dX]
 repeat' (first|(with_reducible first|refine aJ (b:=true) rfl ?_|refine aD (b:=false) rfl ?_|refine ac (fun _=>?_) fun _=>?_)|(refine fv ⟨_,rfl,?_⟩)|(refine qo ?_ k))
 all_goals (clear k;unfold ar;(exact uJ))
theorem mV {h:Hp} {kind:Int} {R:Value->Hp->Prop} (k:R (I (ar kind)) h):gM #[I kind] h R:=by
 apply Fh
 refine uf_ ?_
 refine ap (fun J=>J (decide ((1<=kind/\kind<=5)\/(30<=kind/\kind<=32)))) ?_ (fun J hJ=>?_)
 rotate_left
 ·clear k;repeat' (first|(with_reducible first|refine aJ (b:=true) rfl ?_|refine aD (b:=false) rfl ?_|refine ac (fun _=>?_) fun _=>?_)|(refine fq ?_ hJ))
  all_goals (clear hJ;(exact uJ))
 (with_reducible first|refine aJ (b:=true) rfl ?_|refine aD (b:=false) rfl ?_|refine ac (fun _=>?_) fun _=>?_)
 ·refine qo ?_ k;clear k;unfold ar;(exact uJ)
 refine ap (fun J=>J (decide ((6<=kind/\kind<=29)\/kind=37))) ?_ (fun J hJ=>?_)
 rotate_left
 ·clear k;repeat' (first|(with_reducible first|refine aJ (b:=true) rfl ?_|refine aD (b:=false) rfl ?_|refine ac (fun _=>?_) fun _=>?_)|(refine fq ?_ hJ))
  all_goals (clear hJ;(exact uJ))
 (with_reducible first|refine aJ (b:=true) rfl ?_|refine aD (b:=false) rfl ?_|refine ac (fun _=>?_) fun _=>?_)
 ·refine qo ?_ k;clear k;unfold ar;(exact uJ)
 simp only [dX]
 repeat' (first|(with_reducible first|refine aJ (b:=true) rfl ?_|refine aD (b:=false) rfl ?_|refine ac (fun _=>?_) fun _=>?_)|(refine qo ?_ k))
 all_goals (clear k;unfold ar;(exact uJ))
theorem GY {h:Hp} {kind:Int} {R:Value->Hp->Prop} (k:R (.bool (fG kind)) h):df #[I kind] h R:=by
 apply Kw
 refine uf_ ?_
 refine ZQ (P:=fun b=>R (.bool b) h) (dj ?_ k)
 unfold fG
 rw [Bool.eq_iff_iff];simp
theorem JE (s:ByteArray) (i:Nat):s[i]?=s.data.toList[i]?:=by
 rcases s with ⟨⟨l⟩⟩
 by_cases h:i<l.length
 ·rw [getElem?_pos _ i (show i<(ByteArray.mk ⟨l⟩).size from h)]
  simp only [List.getElem?_eq_getElem h]
  rfl
 ·rw [getElem?_neg _ i (show¬i<(ByteArray.mk ⟨l⟩).size from h)]
  simp only [List.getElem?_eq_none (Nat.le_of_not_lt h)]
theorem Bu (s:ByteArray):s.size=s.data.toList.length:=by rcases s with ⟨⟨l⟩⟩;rfl
theorem EM {s:ByteArray} {i:Nat} (h:i<s.size): ∃c,s[i]?=some c:=by
 rw [JE];rw [Bu]at h
 exact⟨_,List.getElem?_eq_getElem h⟩
theorem wR (s:ByteArray):(ByteArray.toList s==ByteArray.toList ⟨#[]⟩)=decide (s.size=0):=by
 rcases s with ⟨⟨l⟩⟩
 rw [kV,show (⟨#[]⟩:ByteArray)=⟨List.toArray []⟩from rfl,kV,Bu,Bool.eq_iff_iff]
 simp
theorem pY {s:ByteArray}:fL s=true↔(1<=s.size/\s.size<=8)/\ ∀(j:Nat) (c:UInt8),s[j]?=some c->gw c=true\/(j≠0/\nf c=true):=by
 unfold fL
 simp only [JE]
 have hs:=Bu s
 generalize s.data.toList=l at*
 rw [Bool.and_eq_true,decide_eq_true_eq]
 refine and_congr_right fun h1=>?_
 cases l with
 |nil=>have:s.size=0:=hs;omega
 |cons c r=>
  simp only [Bool.and_eq_true,List.all_eq_true,Bool.or_eq_true]
  constructor
  ·rintro ⟨h2,h3⟩ j d hd
   cases j with
   |zero=>simp at hd;subst hd;exact .inl h2
   |succ j=>
    simp only [List.getElem?_cons_succ]at hd
    exact(h3 d (List.mem_of_getElem? hd)).imp id fun h=>⟨by omega,h⟩
  ·intro h
   refine⟨?_,fun d hd=>?_⟩
   ·rcases h 0 c rfl with h|h
    ·exact h
    ·exact absurd rfl h.1
   ·obtain⟨j,hj,rfl⟩:=List.getElem_of_mem hd
    rcases h (j+1) r[j] (by simp)with h|h
    ·exact .inl h
    ·exact .inr h.2
theorem uA {s:ByteArray} {j:Nat} {c:UInt8} (e:s[j]?=some c) (h1:gw c=false) (h2:j=0\/nf c=false):fL s=false:=by
 rw [Bool.eq_false_iff]
 intro h
 rcases (pY.1 h).2 j c e with h|h
 ·rw [h1]at h;cases h
 ·rcases h2 with h2|h2
  ·exact h.1 h2
  ·rw [h2]at h;cases h.2
theorem It {h:Hp} {c:UInt8} {R:Value->Hp->Prop} (k:R (.bool (gw c)) h):qr #[.int .u8 ((UInt8.toNat c:Nat):Int)] h R:=by
 apply Ec
 refine uf_ ?_
 refine Yh (P:=fun b=>R (.bool b) h) (dj ?_ k)
 unfold gw
 (exact uJ)
theorem Ck {h:Hp} {s:ByteArray} {R:Value->Hp->Prop} (k:R (.bool (fL s)) h) (hsz:s.size<9223372036854775807):iK #[.string s] h R:=by
 apply H3
 refine uf_ ?_
 refine av s.size (fun i vs h'=>(∀(j:Nat) (c:UInt8),j<i->s[j]?=some c->gw c=true\/(j≠0/\nf c=true))/\vs= [.string s,I s.size,I i]/\h'=h) ⟨fun j c hj=>by omega,rfl,rfl⟩ ?_
 rintro i _ h' next hi ⟨hg,rfl,rfl⟩ hn
 refine⟨_,_,_,rfl,?_⟩
 by_cases hlt:i<s.size
 ·obtain⟨c,hc⟩:=EM hlt
  refine aJ (by simp [hlt]) ?_
  simp only [vm]
  have hnext:gw c=true\/(i≠0/\nf c=true)->next [.string s,I s.size,I (W ((i:Int)+1))] h':=by
   intro hgood
   rw [aA (by omega)]
   refine hn hlt _ _ ⟨fun j d hj hd=>?_,rfl,rfl⟩
   by_cases hji:j=i
   ·subst hji;rw [hc]at hd;cases hd;exact hgood
   ·exact hg j d (by omega) hd
  refine⟨c,hc,It ⟨_,rfl,ac (fun e=>ac (fun e2=>?_) (fun e2=>⟨c,hc,ac (fun e3=>?_) (fun e3=>⟨c,hc,ac (fun e4=>?_) (fun e4=>hnext ?_)⟩)⟩)) (fun e=>hnext (.inl (by simpa using e)))⟩⟩
  ·exact dj (uA hc (by simpa using e) (.inl (by simp at e2;omega))).symm k
  ·exact dj (uA hc (by simpa using e) (.inr (by unfold nf;simp at e3⊢;omega))).symm k
  ·exact dj (uA hc (by simpa using e) (.inr (by unfold nf;simp at e4⊢;omega))).symm k
  ·refine .inr ⟨by simp at e2;omega,?_⟩
   unfold nf;simp at e3 e4⊢;omega
 ·refine aD (by simp;omega) (fv ⟨_,rfl,dj ?_ k⟩)
  have:= @pY s
  rw [Bool.eq_iff_iff,this,decide_eq_true_eq]
  constructor
  ·intro hh
   refine⟨by omega,fun j c hc=>hg j c ?_ hc⟩
   ·rcases Nat.lt_or_ge j s.size with h|h
    ·omega
    ·rw [JE,List.getElem?_eq_none (by rw [<-Bu];exact h)]at hc;cases hc
  ·rintro ⟨hh,_⟩;omega
theorem B5 {h:Hp} {s:ByteArray} {R:Value->Hp->Prop} (k:R (.bool (fL s)) h):pm #[.string s] h R:=by
 apply HT
 refine uf_ ?_
 refine ap (fun J=>J (!(decide (1<=s.size/\s.size<=8)&&(match s[0]? with|some c=>gw c|none=>false))) h) ?_ (fun J hJ=>?_)
 rotate_left
 ·refine dx ⟨_,rfl,ac (fun e=>?_) (fun e=>?_)⟩
  ·rw [show decide (1<=s.size/\s.size<=8)=false by rw [decide_eq_false_iff_not];simp at e;omega,Bool.false_and]at hJ
   exact hJ
  ·have e':1<=s.size/\s.size<=8:=by simp at e;omega
   obtain⟨c,hc⟩:=EM (s:=s) (i:=0) (by omega)
   rw [decide_eq_true e',Bool.true_and,hc]at hJ
   simp only at hJ
   refine⟨by omega,c,hc,ac (fun e=>?_) (fun e=>⟨by omega,c,hc,?_⟩)⟩
   ·exact fq (J:=fun b=>J b h) (by unfold gw;(exact uJ)) hJ
   ·exact fq (J:=fun b=>J b h) (by unfold gw;(exact uJ)) hJ
 refine ac (fun e=>dj ?_ k) (fun e=>?_)
 ·symm
  rw [Bool.eq_false_iff]
  intro hn
  have hh:=pY.1 hn
  obtain⟨c,hc⟩:=EM (s:=s) (i:=0) (by omega)
  rw [decide_eq_true hh.1,hc]at e
  rcases hh.2 0 c hc with h1|h1
  ·simp [h1]at e
  ·exact absurd rfl h1.1
 have e':(1<=s.size/\s.size<=8)/\ ∀c,s[0]?=some c->gw c=true:=by
  simp only [Bool.not_eq_false',Bool.and_eq_true,decide_eq_true_eq]at e
  refine⟨e.1,fun c hc=>?_⟩
  have:=e.2;rw [hc]at this;exact this
 refine av s.size (fun i vs h'=>(∀(j:Nat) (c:UInt8),j<i->s[j]?=some c->gw c=true\/nf c=true)/\vs= [.string s,I i]/\h'=h) ⟨fun j c hj=>by omega,rfl,rfl⟩ ?_
 rintro i _ h' next hi ⟨hg,rfl,rfl⟩ hn
 refine⟨_,_,rfl,?_⟩
 by_cases hlt:i<s.size
 ·obtain⟨c,hc⟩:=EM hlt
  refine aJ (by simp [hlt]) ?_
  simp only [vm]
  have hnext:gw c=true\/nf c=true->next [.string s,I (W ((i:Int)+1))] h':=by
   intro hgood
   rw [aA (by omega)]
   refine hn hlt _ _ ⟨fun j d hj hd=>?_,rfl,rfl⟩
   by_cases hji:j=i
   ·subst hji;rw [hc]at hd;cases hd;exact hgood
   ·exact hg j d (by omega) hd
  have hbad:gw c=false->nf c=false->R (.bool false) h':=fun h1 h2=>dj (uA hc h1 (.inr h2)).symm k
  have two: ∀(hl:gw c=false),(ad (decide (((UInt8.toNat c:Nat):Int)>=48)) (∃c32:UInt8,s[i]?=some c32/\(ad (!(decide (((UInt8.toNat c32:Nat):Int)<=57))) (R (.bool false) h') (next [(.string s),(I (W ((i:Int)+1)))] h'))) (R (.bool false) h')):=by
   intro hl
   refine ac (fun e=>⟨c,hc,ac (fun e2=>hbad hl ?_) (fun e2=>hnext (.inr ?_))⟩) (fun e=>hbad hl ?_)
   ·unfold nf;simp at e2⊢;omega
   ·unfold nf;simp at e e2⊢;omega
   ·unfold nf;simp at e⊢;omega
  refine⟨c,hc,ac (fun e=>⟨c,hc,ac (fun e2=>hnext (.inl ?_)) (fun e2=>⟨c,hc,two ?_⟩)⟩) (fun e=>⟨c,hc,two ?_⟩)⟩
  ·unfold gw;simp at e e2⊢;omega
  ·unfold gw;simp at e2⊢;omega
  ·unfold gw;simp at e⊢;omega
 ·refine aD (by simp;omega) (dj ?_ k)
  symm
  refine pY.2 ⟨e'.1,fun j c hc=>?_⟩
  have hj:j<s.size:=by
   rcases Nat.lt_or_ge j s.size with h|h
   ·omega
   ·rw [JE,List.getElem?_eq_none (by rw [<-Bu];exact h)]at hc;cases hc
  rcases hg j c (by omega) hc with h1|h1
  ·exact .inl h1
  ·by_cases h0:j=0
   ·subst h0;exact .inl (e'.2 c hc)
   ·exact .inr ⟨h0,h1⟩
theorem rd :(∀(v:Value) r,(v::r)[0]?=some v)/\(∀(v:Value) r (i:Nat),(v::r)[i+1]?=r[i]?)/\
  (∀(cs:List Value) (n:Nat) (ro:Bool) (p:List Value->Nat->Prop),
   (∃(cs':List Value) (n':Nat),some (Sum.inl (Row.mk cs n ro):Blk)=some (Sum.inl (Row.mk cs' n' ro))/\p cs' n')=p cs n)/\
  (∀cs o,cv cs o []=cs)/\(∀cs o v r,cv cs o (v::r)=cv (cs.set o v) (o+1) r)/\
  (∀(v w:Value) r,(v::r).set 0 w=w::r)/\(∀(v w:Value) r (i:Nat),(v::r).set (i+1) w=v::r.set i w)/\
  (∀(v:Value) r,(v::r).length=r.length+1)/\([]:List Value).length=0:=
 ⟨fun _ _=>rfl,fun _ _ _=>rfl,UU,Hi,pe,fun _ _ _=>rfl,fun _ _ _ _=>rfl,fun _ _=>rfl,rfl⟩
theorem Te {h:Hp} {b z o:Nat} {cs:List Value} {ro:Bool} {x:Int} {P:Int->Prop} (f:h b=some (.inl ⟨cs,z,ro⟩)) (e:cs[o]?=some (I x)) (k:P x): ∃y:Int,Hp.cell h b o=some (I y)/\P y:=
 ⟨x,by rw [aq f];exact e,k⟩
theorem SI {h:Hp} {b z o:Nat} {cs:List Value} {ro:Bool} {x:ByteArray} {P:ByteArray->Prop} (f:h b=some (.inl ⟨cs,z,ro⟩)) (e:cs[o]?=some (.string x)) (k:P x): ∃y:ByteArray,Hp.cell h b o=some (.string y)/\P y:=
 ⟨x,by rw [aq f];exact e,k⟩
theorem dg {h:Hp} {w:Int} {R:Value->Hp->Prop} (k:R (tW (cx w)) h):dr #[I w] h R:=by
 refine ACalls.drop (JY ?_)
 refine uf_ ?_
 intro b hb
 have l1:=eM [I 0,I w] 2 hb
 simp only [vm,mm]
 exact⟨by decide,_,l1,k⟩
theorem ca {h:Hp} {w:Int} {R:Value->Hp->Prop} (k:R (tW (cx w)) h):am #[I w] h R:=by
 refine ACalls.drop (H7 ?_)
 refine uf_ ?_
 intro b hb
 have l1:=eM [I 0,I w] 2 hb
 simp only [vm,mm]
 exact⟨by decide,_,l1,k⟩
def aW (n:NodeP):Nat->Int
 |0=>n.a
 |1=>n.b
 |2=>n.c
 |_=>0
theorem oR (len:Nat) (n:NodeP):eU len n=
  (decide (0<=ar n.kind)&&(qG (ar n.kind) len 0 (aW n 0)&&qG (ar n.kind) len 1 (aW n 1)&&qG (ar n.kind) len 2 (aW n 2))&&
   (if fG n.kind then fL n.name else decide (n.name.size=0))&&(decide (n.kind=30)||decide (n.m=0))&&
   (decide (n.kind=30\/n.kind=31\/n.kind=32\/n.kind=34)||decide (n.n=0))):=rfl
theorem Jl {len:Nat} {n:NodeP} {i:Nat} (hi:i<3) (e:qG (ar n.kind) len i (aW n i)=false):eU len n=false:=by
 rw [oR]
 obtain rfl|rfl|rfl:i=0\/i=1\/i=2:=by omega
 ·rw [show ((0:Nat):Int)=0 from rfl]at e;rw [e];simp
 ·rw [show ((1:Nat):Int)=1 from rfl]at e;rw [e];simp
 ·rw [show ((2:Nat):Int)=2 from rfl]at e;rw [e];simp
theorem Dc {len:Nat} {n:NodeP} (hp:0<=ar n.kind) (e: ∀i:Nat,i<3->qG (ar n.kind) len i (aW n i)=true):eU len n=
  ((if fG n.kind then fL n.name else decide (n.name.size=0))&&(decide (n.kind=30)||decide (n.m=0))&&
    (decide (n.kind=30\/n.kind=31\/n.kind=32\/n.kind=34)||decide (n.n=0))):=by
 rw [oR,decide_eq_true hp]
 have e0:=e 0 (by omega)
 have e1:=e 1 (by omega)
 have e2:=e 2 (by omega)
 rw [show ((0:Nat):Int)=0 from rfl]at e0
 rw [show ((1:Nat):Int)=1 from rfl]at e1
 rw [show ((2:Nat):Int)=2 from rfl]at e2
 rw [e0,e1,e2];simp
theorem qY {h:Hp} {b z:Nat} {n:NodeP} (f:h b=some (.inl ⟨[I n.a,I n.b,I n.c],z,false⟩)) {i:Nat} (hi:i<3):Hp.cell h b i=some (I (aW n i)):=by
 rw [aq f]
 obtain rfl|rfl|rfl:i=0\/i=1\/i=2:=by omega
 all_goals rfl
theorem LO {h:Hp} {n:NodeP} {len:Nat} {R:Value->Hp->Prop} (hlen:len<=4611686018427387904) (hsz:n.name.size<=1048576)
  (k:R (.bool (eU len n)) h):mv #[Di n,I len] h R:=by
 refine ACalls.drop (zC ?_)
 refine uf_ ?_
 refine aj fun b h1 hb l1 f1=>?_
 simp only [vm,rd,aq f1]
 refine ib ⟨_,rfl,ac (fun e=>⟨_,l1,dj ?_ k⟩) (fun e=>?_)⟩
 ·rw [oR,decide_eq_false (by simp at e;omega)];simp
 have hp:0<=ar n.kind:=by simp at e;omega
 simp only [vm,rd,aq f1]
 refine aj fun b2 h2 hb2 l2 f2=>?_
 have f1':=l2 _ _ f1
 have l12:=Hp.le_trans l1 l2
 refine av 3 (fun i vs h'=>(∀j:Nat,j<i->qG (ar n.kind) len j (aW n j)=true)/\vs= [I len, .pointer (some ⟨b,0,none⟩),I (ar n.kind), .slice (some ⟨b2,0,none⟩) 3 3,I 3,I i]/\h'=h2) ⟨fun j hj=>by omega,rfl,rfl⟩ ?_
 rintro i _ h' next hi ⟨hg,rfl,rfl⟩ hn
 refine⟨_,_,_,_,⟨_,_,_⟩,_,_,rfl,?_⟩
 by_cases hlt:i<3
 ·refine aJ (by simp;omega) ?_
  simp only [vm,qY f2 hlt]
  refine⟨by omega,?_⟩
  refine ap (fun J=>J (!(qG (ar n.kind) len i (aW n i))) h') ?_ (fun J hJ=>?_)
  ·refine ac (fun e=>⟨_,l12,dj ?_ k⟩) (fun e=>?_)
   ·rw [Jl hlt (by simpa using e)]
   ·rw [aA (by omega)]
    refine hn hlt _ _ ⟨fun j hj=>?_,rfl,rfl⟩
    by_cases hji:j=i
    ·subst hji;simpa using e
    ·exact hg j (by omega)
  ·clear k
   unfold qG at hJ
   rw [bV (by omega) (by omega)]
   refine ac (fun e=>fv ⟨_,rfl,?_⟩) (fun e=>?_)
   ·rw [if_pos (by simpa using e)]at hJ
    refine ac (fun e2=>?_) (fun e2=>ac (fun e3=>?_) (fun e3=>?_))
    ·exact fq (J:=fun b=>J b h') (by simpa using e2) hJ
    ·simp at e e3;omega
    ·exact fq (J:=fun b=>J b h') (by simpa using e2) hJ
   ·rw [if_neg (by simpa using e)]at hJ
    refine ac (fun e2=>?_) (fun e2=>?_)
    ·exact fq (J:=fun b=>J b h') (by rw [Bool.eq_iff_iff];simp) hJ
    ·simp at e e2;omega
 ·refine aD (by simp;omega) ?_
  rw [Dc hp (fun j hj=>hg j (by omega))]at k
  simp only [vm,rd,aq f1',wR]
  refine ap (fun J=>J (decide (n.kind=30\/n.kind=31\/n.kind=32\/n.kind=34))) ?_ (fun J hJ=>?_)
  rotate_left
  ·clear k;repeat' (first|(with_reducible first|refine aJ (b:=true) rfl ?_|refine aD (b:=false) rfl ?_|refine ac (fun _=>?_) fun _=>?_)|(refine fq ?_ hJ))
   all_goals (clear hJ;(exact uJ))
  have hnm: ∀{R':Value->Hp->Prop},R' (.bool (fG n.kind)) h'->df #[I n.kind] h' R':=GY
  have hin: ∀{R':Value->Hp->Prop},R' (.bool (fL n.name)) h'->iK #[.string n.name] h' R':=fun k=>Ck k (by omega)
  generalize fG n.kind=g at*
  generalize fL n.name=q at*
  repeat' (first|(with_reducible first|refine aJ (b:=true) rfl ?_|refine aD (b:=false) rfl ?_|refine ac (fun _=>?_) fun _=>?_)|(with_reducible refine hnm ⟨_,rfl,?_⟩)|(with_reducible refine hin ⟨_,rfl,?_⟩)|(with_reducible refine Te f1' rfl ?_)|(with_reducible refine SI f1' rfl ?_)|(refine⟨_,l12,dj ?_ k⟩;clear k hnm hin hn hg f1 f2 f1' l1 l2 l12 hb hb2;first|(simp_all;done)|(cases g<;>cases q<;>simp_all<;>done)))
theorem Io {h:Hp} {n:NodeP} {s:Sl} {R:Value->Hp->Prop} (hlen:s.n<=4611686018427387904)
  (k:R (.bool (eU s.n n)) h):qm #[s.v,Di n] h R:=by
 refine ACalls.drop (DN ?_)
 refine uf_ ?_
 refine aj fun b h1 hb l1 f1=>?_
 simp only [vm,rd,aq f1]
 refine mV ⟨_,rfl,ac (fun e=>⟨_,l1,dj ?_ k⟩) (fun e=>?_)⟩
 ·rw [oR,decide_eq_false (by simp at e;omega)];simp
 have hp:0<=ar n.kind:=by simp at e;omega
 simp only [vm,rd,aq f1]
 refine aj fun b2 h2 hb2 l2 f2=>?_
 have f1':=l2 _ _ f1
 have l12:=Hp.le_trans l1 l2
 refine av 3 (fun i vs h'=>(∀j:Nat,j<i->qG (ar n.kind) s.n j (aW n j)=true)/\vs= [s.v, .pointer (some ⟨b,0,none⟩),I (ar n.kind), .slice (some ⟨b2,0,none⟩) 3 3,I i]/\h'=h2) ⟨fun j hj=>by omega,rfl,rfl⟩ ?_
 rintro i _ h' next hi ⟨hg,rfl,rfl⟩ hn
 refine⟨_,_,_,_,⟨_,_,_⟩,_,rfl,?_⟩
 by_cases hlt:i<3
 ·refine aJ (by simp;omega) ?_
  simp only [vm,qY f2 hlt]
  refine ap (fun J=>J (!(qG (ar n.kind) s.n i (aW n i))) h') ?_ (fun J hJ=>?_)
  ·refine ac (fun e=>⟨_,l12,dj ?_ k⟩) (fun e=>?_)
   ·rw [Jl hlt (by simpa using e)]
   ·rw [aA (by omega)]
    refine hn hlt _ _ ⟨fun j hj=>?_,rfl,rfl⟩
    by_cases hji:j=i
    ·subst hji;simpa using e
    ·exact hg j (by omega)
  ·clear k
   unfold qG at hJ
   rw [bV (by omega) (by omega)]
   refine ac (fun e=>⟨by omega,dx ⟨_,rfl,?_⟩⟩) (fun e=>?_)
   ·rw [if_pos (by simpa using e)]at hJ
    refine ac (fun e2=>?_) (fun e2=>ac (fun e3=>?_) (fun e3=>?_))
    ·exact fq (J:=fun b=>J b h') (by simpa using e2) hJ
    ·simp at e e3;omega
    ·exact fq (J:=fun b=>J b h') (by simpa using e2) hJ
   ·rw [if_neg (by simpa using e)]at hJ
    refine ac (fun e2=>?_) (fun e2=>?_)
    ·refine⟨by omega,?_⟩
     exact fq (J:=fun b=>J b h') (by rw [Bool.eq_iff_iff];simp) hJ
    ·simp at e e2;omega
 ·refine aD (by simp;omega) ?_
  rw [Dc hp (fun j hj=>hg j (by omega))]at k
  simp only [vm,rd,aq f1',wR]
  refine ap (fun J=>J (fG n.kind)) ?_ (fun J hJ=>?_)
  rotate_left
  ·clear k;unfold fG at hJ;repeat' (first|(with_reducible first|refine aJ (b:=true) rfl ?_|refine aD (b:=false) rfl ?_|refine ac (fun _=>?_) fun _=>?_)|(refine fq ?_ hJ))
   all_goals (clear hJ;(exact uJ))
  have hin: ∀{R':Value->Hp->Prop},R' (.bool (fL n.name)) h'->pm #[.string n.name] h' R':=B5
  have hno:fL n.name=true-> ¬n.name.size=0:=fun e=>by have:=(pY.1 e).1;omega
  generalize fG n.kind=g at*
  generalize fL n.name=q at*
  simp only [dX]
  repeat' (first|(with_reducible first|refine aJ (b:=true) rfl ?_|refine aD (b:=false) rfl ?_|refine ac (fun _=>?_) fun _=>?_)|(with_reducible refine hin ⟨_,rfl,?_⟩)|(with_reducible refine Te f1' rfl ?_)|(with_reducible refine SI f1' rfl ?_)|(refine⟨_,l12,dj ?_ k⟩;clear k hin hn hg f1 f2 f1' l1 l2 l12 hb hb2;first|(simp_all;done)|(cases g<;>cases q<;>simp_all<;>done)|(rw [Bool.eq_iff_iff];cases g<;>cases q<;>simp_all<;>done)))
end Go.Lead
