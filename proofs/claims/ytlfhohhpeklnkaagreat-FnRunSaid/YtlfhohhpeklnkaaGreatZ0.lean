/- What functions of the program and of the reference come to, walked one by one, and plain laws about it: part 1. No condition is added to the statement. -/
import Derived.Test.YtlfhohhpeklnkaaGreatVm15
import Derived.Test.YtlfhohhpeklnkaaGreatFn0
import Derived.Test.YtlfhohhpeklnkaaGreatFn1
import Derived.Test.YtlfhohhpeklnkaaGreatFn2
import Derived.Test.YtlfhohhpeklnkaaGreatFn3
import Derived.Test.YtlfhohhpeklnkaaGreatFn4
import Derived.Test.YtlfhohhpeklnkaaGreatFn5
namespace Go.Lead
open Go
set_option linter.unusedVariables false
set_option linter.unusedSimpArgs false
set_option maxHeartbeats 1000000
structure Nd where
 v:Nat
 lo:Nat
 hi:Nat
 deriving DecidableEq,Repr
def iv (n:Nd) (ns:List Nd):Nat×List Nd:=match ns.idxOf? n with|some i=>(i+2,ns)|none=>(ns.length+2,ns++ [n])
def mkD :Nat->(Nat->Bool)->Nat->List Nd->Nat×List Nd
 |0,f,_,ns=>(if f 0 then 1 else 0,ns)
 |n+1,f,low,ns=>
  let r1:=mkD n (fun i=>f (2*i)) (low+1) ns
  let r2:=mkD n (fun i=>f (2*i+1)) (low+1) r1.2
  if r1.1=r2.1 then r2 else iv ⟨low,r1.1,r2.1⟩ r2.2
def gh (set:List Int):List Int->Int->Int×Bool
 | [],left=>(left,left==0)
 |x::r,left=>
  if set.contains x then(0,false)else
  if set.contains (-x)then gh set r left else
  if left !=0&&left !=x then(0,false)else gh set r x
def lD :List (List Int)->List Int->Bool->Option (List Int×Bool)
 | [],set,more=>some (set,more)
 |l::r,set,more=>if(gh set l 0).2 then none else if(gh set l 0).1 !=0 then lD r (set++ [(gh set l 0).1]) true else lD r set more
def ka (cls:List (List Int)) (set:List Int):Option (List Int):=
 match lD cls set false with
 |none=>none
 |some (set',more)=>if more then(if h:set.length<set'.length/\set'.length<=20 then ka cls set' else none)else some set'
termination_by 20-set.length
decreasing_by omega
def rH :List Int->List Int->Option (List Int)
 | [],set=>some set
 |x::r,set=>if set.contains (-x)then none else rH r (if set.contains x then set else set++ [x])
def jP (cls:List (List Int)) (given:List Int):Option (List Int):=(rH given []).bind (ka cls)
structure pJ (v:Int) (set:List Int):Prop where
 lit: ∀x∈set,x≠0/\ -v<=x/\x<=v
 nodup:set.Nodup
 cons: ∀x∈set, -x∉set
theorem Ju (v:Int):pJ v []:=⟨by simp,List.nodup_nil,by simp⟩
theorem pJ.add {v:Int} {set:List Int} (k:pJ v set) {x:Int} (hx:x≠0/\ -v<=x/\x<=v) (h1:x∉set) (h2: -x∉set):pJ v (set++ [x]):=by
 refine⟨?_,?_,?_⟩
 ·intro y hy
  rcases List.mem_append.1 hy with h|h
  ·exact k.lit y h
  ·simp only [List.mem_singleton]at h;subst h;exact hx
 ·rw [List.nodup_append]
  refine⟨k.nodup,by simp,?_⟩
  intro a ha b hb
  simp only [List.mem_singleton]at hb;subst hb
  intro e;subst e;exact h1 ha
 ·intro y hy hn
  rcases List.mem_append.1 hy with h|h<;>rcases List.mem_append.1 hn with h'|h'
  ·exact k.cons y h h'
  ·simp only [List.mem_singleton]at h';exact h2 (by rw [<-h',Int.neg_neg];exact h)
  ·simp only [List.mem_singleton]at h;subst h;exact h2 h'
  ·simp only [List.mem_singleton]at h h';subst h;omega
theorem Em : ∀(n:Nat) (l:List Int) (a:Int),l.Nodup->(∀x∈l,a<=x/\x<a+n)->l.length<=n:=by
 intro n
 induction n with
 |zero=>
  intro l a _ h
  cases l with
  |nil=>simp
  |cons x r=>have:=h x (by simp);omega
 |succ n ih=>
  intro l a hd h
  by_cases hm:(a+n)∈l
  ·have h1:=ih (l.erase (a+n)) a (hd.erase _) (fun x hx=>by
    have hx':=List.mem_of_mem_erase hx
    have:=h x hx'
    have hne:x≠a+n:=fun e=>by
     subst e
     exact(List.Nodup.not_mem_erase hd) hx
    omega)
   rw [List.length_erase_of_mem hm]at h1
   omega
  ·have:=ih l a hd (fun x hx=>by
    have h1:=h x hx
    have hne:x≠a+n:=fun e=>hm (e▸hx)
    omega)
   omega
theorem pJ.len {v:Int} {set:List Int} (k:pJ v set) (hv:v<=10) (hv0:0<=v):set.length<=20:=by
 have h0:(0:Int)∉set:=fun h=>(k.lit 0 h).1 rfl
 have h1:=Em 21 (0::set) (-10) (List.nodup_cons.2 ⟨h0,k.nodup⟩) (fun x hx=>by
  rcases List.mem_cons.1 hx with rfl|hx
  ·omega
  ·have:=k.lit x hx;omega)
 simp only [List.length_cons]at h1
 omega
theorem Rh {set:List Int} (hcons: ∀x∈set, -x∉set) (h0:(0:Int)∉set) {l:List Int} (hl: ∀x∈l,x≠0) (hne:(gh set l 0).1≠0):
  (gh set l 0).1∈l/\(gh set l 0).1∉set/\ -(gh set l 0).1∉set:=by
 have key: ∀(l:List Int) (o:Int),(∀x∈l,x≠0)->(o=0\/(o∉set/\ -o∉set))->(gh set l o).1≠0->
   ((gh set l o).1∈l\/(gh set l o).1=o)/\(gh set l o).1∉set/\ -(gh set l o).1∉set:=by
  intro l
  induction l with
  |nil=>
   intro o _ ho hne
   simp only [gh]at hne⊢
   rcases ho with h|h
   ·exact absurd h hne
   ·exact⟨by simp,h⟩
  |cons x r ih=>
   intro o hx ho hne
   have hr:=fun y hy=>hx y (List.mem_cons_of_mem _ hy)
   simp only [gh]at hne⊢
   split at hne
   ·exact absurd rfl hne
   ·rename_i h1
    rw [if_neg h1]
    split at hne
    ·rename_i h2
     rw [if_pos h2]
     have:=ih o hr ho hne
     exact⟨this.1.imp (List.mem_cons_of_mem _) id,this.2⟩
    ·rename_i h2
     rw [if_neg h2]
     split at hne
     ·exact absurd rfl hne
     ·rename_i h3
      rw [if_neg h3]
      have:=ih x hr (.inr ⟨by simpa using h1,by simpa using h2⟩) hne
      refine⟨.inl ?_,this.2⟩
      rcases this.1 with h|h
      ·exact List.mem_cons_of_mem _ h
      ·rw [h];simp
 have:=key l 0 hl (.inl rfl) hne
 refine⟨?_,this.2⟩
 rcases this.1 with h|h
 ·exact h
 ·exact absurd h hne
theorem pM {v:Int}: ∀(cls:List (List Int)) (set:List Int) (more:Bool),pJ v set->(∀l∈cls,∀x∈l,x≠0/\ -v<=x/\x<=v)->
  ∀set' more',lD cls set more=some (set',more')->pJ v set'/\set.length<=set'.length/\(more'=true->more=true\/set.length<set'.length):=by
 intro cls
 induction cls with
 |nil=>intro set more k _ set' more' h;simp only [lD,Option.some.injEq,Prod.mk.injEq]at h;obtain⟨rfl,rfl⟩:=h;exact⟨k,by omega, .inl⟩
 |cons l r ih=>
  intro set more k hc set' more' h
  have h0:(0:Int)∉set:=fun h=>(k.lit 0 h).1 rfl
  simp only [lD]at h
  split at h
  ·cases h
  ·split at h
   ·rename_i hne
    have hne':(gh set l 0).1≠0:=by simpa using hne
    have hl:=hc l (by simp)
    have hn:=Rh k.cons h0 (fun x hx=>(hl x hx).1) hne'
    have:=ih (set++ [(gh set l 0).1]) true (k.add (hl _ hn.1) hn.2.1 hn.2.2) (fun l' h'=>hc l' (by simp [h'])) _ _ h
    simp only [List.length_append,List.length_cons,List.length_nil]at this
    exact⟨this.1,by omega,fun _=> .inr (by omega)⟩
   ·exact ih set more k (fun l' h'=>hc l' (by simp [h'])) _ _ h
theorem AB {v:Int}: ∀(g:List Int) (set:List Int),pJ v set->(∀x∈g,x≠0/\ -v<=x/\x<=v)-> ∀set',rH g set=some set'->pJ v set':=by
 intro g
 induction g with
 |nil=>intro set k _ set' h;simp only [rH,Option.some.injEq]at h;subst h;exact k
 |cons x r ih=>
  intro set k hg set' h
  simp only [rH]at h
  split at h
  ·cases h
  ·rename_i h1
   refine ih _ ?_ (fun y hy=>hg y (by simp [hy])) _ h
   split
   ·exact k
   ·rename_i h2
    exact k.add (hg x (by simp)) (by simpa using h2) (by simpa using h1)
theorem Qj {α:Type} {xs:List α} {p:α->Bool} {i:Nat} (hi:i<xs.length) (hp:p xs[i]=false):xs.all p=false:=by
 rw [List.all_eq_false];exact⟨_,List.getElem_mem hi,by simp [hp]⟩
theorem Tp {α:Type} {xs:List α} {p:α->Bool} {i:Nat} (hi:i<xs.length):(xs.take (i+1)).all p=((xs.take i).all p&&p xs[i]):=by
 rw [List.take_succ_eq_append_getElem hi,List.all_append];simp
theorem M4 {α:Type} {xs:List α} {p:α->Bool} {i:Nat} (hi:i<xs.length):(xs.take (i+1)).any p=((xs.take i).any p||p xs[i]):=by
 rw [List.take_succ_eq_append_getElem hi,List.any_append];simp
structure GR (h:Hp) (t:Sl) (ts:List Sl) (xss:List (List Int)):Prop where
 len:ts.length=xss.length
 outer:SlC (h.wo (ts.flatMap Sl.used)) t 1 (ts.map Sl.v)
 inner: ∀(i:Nat) (h1:i<ts.length) (h2:i<xss.length),Own h ts[i] 1 (xss[i].map I)
theorem GR.ints {h:Hp} {t:Sl} {ts:List Sl} {xss:List (List Int)} (e:GR h t ts xss):IntSS h t xss:=
 ⟨ts,e.len,e.outer.mono (vQ _ _),fun i h1 h2=>(e.inner i h1 h2).slc⟩
theorem GR.mono {h h':Hp} {t:Sl} {ts:List Sl} {xss:List (List Int)} (l:h.le h') (e:GR h t ts xss):GR h' t ts xss:=
 ⟨e.len,e.outer.mono (rF (Hp.le_trans (vQ _ _) l) fun b hb=>eX hb),fun i h1 h2=>(e.inner i h1 h2).mono l⟩
theorem GR.used {h:Hp} {t:Sl} {ts:List Sl} {xss:List (List Int)} (e:GR h t ts xss): ∀b∈ts.flatMap Sl.used,h b≠none:=by
 intro b hb
 obtain⟨u,hu,hbu⟩:=List.mem_flatMap.1 hb
 obtain⟨i,hi,rfl⟩:=List.getElem_of_mem hu
 exact(e.inner i hi (by rw [<-e.len];exact hi)).used b hbu
theorem dx {h:Hp} {x a b:Int} {R:Value->Hp->Prop} (k:R (.bool (decide (a<=x/\x<=b))) h):cC #[I x,I a,I b] h R:=by
 apply LE
 refine uf_ ?_
 refine ac (fun e=>?_) (fun e=>?_)
 ·simp at e;simpa [e] using k
 ·simp at e;rwa [decide_eq_false (by omega)]at k
theorem fv {h:Hp} {x a b:Int} {R:Value->Hp->Prop} (k:R (.bool (decide (a<=x/\x<=b))) h):dq #[I x,I a,I b] h R:=by
 apply P9
 refine uf_ ?_
 refine ac (fun e=>?_) (fun e=>?_)
 ·simp at e;simpa [e] using k
 ·simp at e;rwa [decide_eq_false (by omega)]at k
def Ft (vars n:Int):Bool:=decide (n≠0/\ -vars<=n/\n<=vars)
def fO (vars:Int) (l:List Int):Bool:=decide (l.length<=10)&&l.all (Ft vars)
def dL (vars:Int) (c:List (List Int)):Bool:=decide (1<=vars/\vars<=10)&&(decide (c.length<=60)&&c.all (fO vars))
def Ge {α:Type} (p:α->Bool) (xs:List α):Int:=match xs.findIdx? p with|some i=>i|none=> -1
theorem xY {α:Type} {p:α->Bool} {xs:List α} (e:xs.any p=false):Ge p xs= -1:=by
 have:xs.findIdx? p=none:=by
  rw [List.findIdx?_eq_none_iff];intro x hx;rw [List.any_eq_false]at e;simpa using e x hx
 simp [Ge,this]
theorem BV {α:Type} {p:α->Bool} {xs:List α} {i:Nat} (hi:i<xs.length) (e:(xs.take i).any p=false) (hp:p xs[i]=true):Ge p xs=i:=by
 have:xs.findIdx? p=some i:=by
  rw [List.findIdx?_eq_some_iff_getElem]
  refine⟨hi,hp,fun j hj=>?_⟩
  rw [List.any_eq_false]at e
  exact e _ (by rw [List.mem_take_iff_getElem];exact⟨j,by omega,rfl⟩)
 simp [Ge,this]
theorem KE {α:Type} (p:α->Bool) (xs:List α):decide (Ge p xs>=0)=xs.any p:=by
 cases h:xs.any p with
 |false=>rw [xY h];rfl
 |true=>
  unfold Ge
  cases h':xs.findIdx? p with
  |some i=>simp
  |none=>rw [List.findIdx?_eq_none_iff]at h';rw [List.any_eq_true]at h;obtain⟨x,hx,hp⟩:=h;simp [h' x hx]at hp
theorem rh {h:Hp} {s:Sl} {xs:List Int} {f:FuncId} {u w:Array Value} (p:Int->Bool) {R:Value->Hp->Prop} (hs:IntS h s xs)
  (hf: ∀x∈xs,∀R:Value->Hp->Prop,R (.bool (p x)) h->ACalls PR f ((u++ #[I x])++w) h R)
  (k:R (I (Ge p xs)) h):eJ #[s.v, .func (.func f) u w] h R:=by
 apply qU
 refine uf_ ?_
 have hb:=hs.bound
 refine av xs.length (fun i vs h'=>vs= [s.v, .func (.func f) u w,I xs.length,I i]/\h'=h/\(xs.take i).any p=false) ⟨by rw [hs.len];rfl,rfl,by simp⟩ ?_
 rintro i _ _ next hi ⟨rfl,rfl,hp⟩ hn
 refine⟨_,_,_,_,_,_,rfl,?_⟩
 by_cases hlt:i<xs.length
 ·obtain⟨b,o,ha,hc⟩:=hs.at hlt
  refine aJ (by simp [hlt]) ?_
  simp only [vm,hs.len,ha,hc,aA (n:=i) (by omega)]
  refine⟨by omega,hf _ (List.getElem_mem hlt) _ ⟨_,rfl,ac (fun he=>?_) (fun he=>?_)⟩⟩
  ·rwa [BV hlt hp he]at k
  ·exact hn hlt _ _ ⟨rfl,rfl,by rw [M4 hlt,hp,he];rfl⟩
 ·have:i=xs.length:=by omega
  subst this
  rw [List.take_length]at hp
  refine aD (by simp) ?_
  rwa [xY hp]at k
theorem oh {h:Hp} {s:Sl} {xs:List Int} {f:FuncId} {u w:Array Value} (p:Int->Bool) {R:Value->Hp->Prop} (hs:IntS h s xs)
  (hf: ∀x∈xs,∀R:Value->Hp->Prop,R (.bool (p x)) h->ACalls PR f ((u++ #[I x])++w) h R)
  (k:R (.bool (xs.any p)) h):dT #[s.v, .func (.func f) u w] h R:=by
 apply pe
 refine uf_ ?_
 exact rh p hs hf ⟨_,rfl,by rwa [KE]⟩
def qI (h:Hp) (s:Sl) (xs:List Bool):Prop:=SlC h s 1 (xs.map Value.bool)
theorem qI.mono {h h':Hp} {s:Sl} {xs:List Bool} (l:h.le h') (e:qI h s xs):qI h' s xs:=SlC.mono l e
theorem qI.len {h:Hp} {s:Sl} {xs:List Bool} (e:qI h s xs):s.n=xs.length:=by have:=e.2.1;simp at this;omega
theorem qI.bound {h:Hp} {s:Sl} {xs:List Bool} (e:qI h s xs):xs.length<=9223372036854775807:=by rw [<-e.len];exact e.1
theorem qI.at {h:Hp} {s:Sl} {xs:List Bool} (e:qI h s xs) {i:Nat} (hi:i<xs.length):
  ∃b o,s.a=some (Addr.mk b o none)/\Hp.cell h b (o+i)=some (.bool xs[i]):=by
 have hl:=e.len
 obtain⟨b,o,ha,hc⟩:=SlC.get e (by omega)
 exact⟨b,o,ha,hc i _ (by simp [hi])⟩
theorem iU {h:Hp} {c n:Nat} {R:Value->Hp->Prop} (hn:n<=64) (k:R (I (if c.testBit n then 1 else 0)) h):dR #[I c,I n] h R:=by
 apply JP
 refine uf_ ?_
 rw [cl (by omega),if_neg (by omega),kx hn,G2,Yo]
 split<;>simp_all
theorem Ft.iff {v n:Int}:Ft v n=true↔n≠0/\ -v<=n/\n<=v:=by simp [Ft]
theorem fO.lit {v:Int} {l:List Int} (e:fO v l=true) {n:Int} (hn:n∈l):Ft v n=true:=by
 simp only [fO,Bool.and_eq_true,List.all_eq_true]at e;exact e.2 n hn
theorem fO.len {v:Int} {l:List Int} (e:fO v l=true):l.length<=10:=by
 simp only [fO,Bool.and_eq_true,decide_eq_true_eq]at e;exact e.1
theorem dL.iff {v:Int} {c:List (List Int)}:dL v c=true↔(1<=v/\v<=10)/\c.length<=60/\ ∀l∈c,fO v l=true:=by
 simp [dL,List.all_eq_true]
theorem QK (xs:List Int):(xs.map I).all (·.oneCell')=true:=by
 rw [List.all_eq_true]
 intro v hv
 obtain⟨x,_,rfl⟩:=List.mem_map.1 hv
 rfl
theorem IntS.slc {h:Hp} {s:Sl} {xs:List Int} (e:IntS h s xs):SlC h s 1 (xs.map I):=e
theorem ny {h:Hp} {s:Sl} {xs:List Int} {R:Value->Hp->Prop} (hs:IntS h s xs) (hl:xs.length<=1048576)
  (k: ∀t h',h.le h'->Buf (h'.sub h) t 1 (xs.map I)->R (Sl.v t) h'):gG #[s.v] h R:=by
 apply Cc
 refine uf_ ?_
 have:=hs.len
 exact I1 hs (by omega) (QK _) fun t h' hn hle hb=>k t h' hle hb
theorem LQ (l:List UInt8): ∀(k i:Nat) (r:List UInt8),i+k=l.length->ByteArray.toList.loop ⟨l.toArray⟩ i r=r.reverse++l.drop i:=by
 intro k
 induction k with
 |zero=>
  intro i r hi
  unfold ByteArray.toList.loop
  rw [if_neg (by simp [ByteArray.size];omega),List.drop_eq_nil_of_le (by omega),List.append_nil]
 |succ k ih=>
  intro i r hi
  unfold ByteArray.toList.loop
  rw [if_pos (by simp [ByteArray.size];omega),ih (i+1) _ (by omega),List.drop_eq_getElem_cons (i:=i) (by omega)]
  simp [ByteArray.get!,show i<l.length by omega]
theorem kN (l:List UInt8):(⟨l.toArray⟩:ByteArray).toList=l:=by
 unfold ByteArray.toList
 rw [LQ l l.length 0 [] (by omega)];rfl
def dt (n:Nat) (f:Nat->Bool):List Value:=(List.range (2^n)).map fun i=>Value.int .u8 (if f i then 1 else 0)
def cT (n:Nat) (f:Nat->Bool):List UInt8:=(List.range (2^n)).map fun i=>if f i then 1 else 0
theorem Ir (n:Nat) (f:Nat->Bool):ff (cT n f)=dt n f:=by
 unfold ff cT dt
 rw [List.map_map]
 apply List.map_congr_left
 intro i _
 simp only [Function.comp]
 cases f i<;>rfl
def zG (h:Hp) (t:Sl) (n:Nat) (f:Nat->Bool):Prop:=SlC h t 1 (dt n f)
theorem zG.mono {h h':Hp} {t:Sl} {n:Nat} {f:Nat->Bool} (l:h.le h') (e:zG h t n f):zG h' t n f:=SlC.mono l e
theorem zG.len {h:Hp} {t:Sl} {n:Nat} {f:Nat->Bool} (e:zG h t n f):t.n=2^n:=by have:=e.2.1;simp [dt]at this;omega
theorem zG.at {h:Hp} {t:Sl} {n:Nat} {f:Nat->Bool} (e:zG h t n f) {i:Nat} (hi:i<2^n):
  ∃b o,t.a=some (Addr.mk b o none)/\Hp.cell h b (o+i)=some (.int .u8 (if f i then 1 else 0)):=by
 have hl:=e.len
 obtain⟨b,o,ha,hc⟩:=SlC.get e (by omega)
 exact⟨b,o,ha,hc i _ (by simp [dt,hi])⟩
theorem zG.all {h:Hp} {t:Sl} {n:Nat} {f:Nat->Bool} (e:zG h t n f):nZ h t.a t.n (ff (cT n f)):=by
 rw [Ir]
 exact⟨by rw [e.2.1,Nat.mul_one],e.2.2⟩
theorem wq {h:Hp} {c:Bool} {R:Value->Hp->Prop} (k:R (I (if c then 1 else 0)) h):mv #[.bool c] h R:=by
 apply Oa
 refine uf_ ?_
 cases c<;>exact k
def bJ (ns:List Nd):List Value:=ns.flatMap fun n=> [I n.v,I n.lo,I n.hi]
def FG (n:Nd):Value:= .agg #[I n.v,I n.lo,I n.hi]
structure BI (h:Hp) (B rs rn:Nat) (vars:Nat) (s:Sl) (ns:List Nd) (es:List (ByteArray×Nat)):Prop where
 row:h B=some (.inl ⟨[I vars,s.v,I 0, .map (some rs), .map (some rn)],5,false⟩)
 buf:Buf h s 3 (bJ ns)
 seen:h rs=some (.inr (es.map fun e=>(.string e.1,I e.2)))
 nodes:h rn=some (.inr (ns.zipIdx.map fun e=>(FG e.1,I (e.2+2:Nat))))
 far:rs≠rn
 own: ∀a,s.a=some a->a.block≠B
 true: ∀e∈es,∃n f low,low+n=vars/\e.1=⟨(cT n f).toArray⟩/\mkD n f low ns=(e.2,ns)
theorem BI.mono {h h':Hp} {B rs rn vars:Nat} {s:Sl} {ns:List Nd} {es:List (ByteArray×Nat)} (l:h.le h') (e:BI h B rs rn vars s ns es):BI h' B rs rn vars s ns es:=
 ⟨l _ _ e.row,e.buf.mono l,l _ _ e.seen,l _ _ e.nodes,e.far,e.own,e.true⟩
theorem mP (ns:List Nd):(bJ ns).length=ns.length*3:=by
 induction ns with
 |nil=>rfl
 |cons n ns ih=>simp only [bJ,List.flatMap_cons,List.length_append,List.length_cons,List.length_nil]at ih⊢;omega
structure Bd where
 v:Int
 ns:List Nd
 r:Int
 ok:Bool
def iW :Bd:=⟨0, [],0,false⟩
def sY (h:Hp) (s:Sl) (xs:List Int):Prop:=Buf h s 1 (xs.map I)
theorem sY.len {h:Hp} {s:Sl} {xs:List Int} (e:sY h s xs):s.n=xs.length:=by have:=e.1;simp at this;omega
theorem sY.ints {h:Hp} {s:Sl} {xs:List Int} (e:sY h s xs) (hn:xs.length<=1048576):IntS h s xs:=Buf.slc e (by rw [e.len];omega)
theorem sY.mono {h h':Hp} {s:Sl} {xs:List Int} (l:h.le h') (e:sY h s xs):sY h' s xs:=Buf.mono l e
theorem Mv {h:Hp} {s:Sl} {xs:List Int} {x:Int} {b:Nat} {K:Option Addr->Nat->Nat->Hp->Prop} (hb:sY h s xs) (hl:xs.length<=1048576) (hc:Hp.cell h b 0=some (I x))
  (k: ∀(s':Sl) (h':Hp),sY h' s' (xs++ [x])->(h.offS s).le (h'.offS s')->K s'.a s'.n s'.c h'):ck h s.a s.n s.c (some ⟨b,0,none⟩) 1 1 8 K:=by
 refine dp hb (by omega) (by rw [hb.len];omega) (by rw [hb.len];omega) ⟨b,0,rfl,fun i v hi=>?_⟩ (news:= [I x]) rfl rfl ?_
 ·cases i with
  |zero=>simp at hi;subst hi;exact hc
  |succ i=>simp at hi
 ·intro s' h' hn hbuf hle _
  exact k s' h' (by unfold sY;rw [List.map_append];exact hbuf) hle
structure fP (h h':Hp) (t:Sl) (set:List Int):Prop where
 buf:sY h' t set
 le:h.le (h'.offS t)
theorem fP.keep {h h':Hp} {t:Sl} {set:List Int} (e:fP h h' t set):h.le h':=Hp.le_trans e.le (bk _ _)
theorem fP.app {h h':Hp} {t:Sl} {set:List Int} {x:Int} {b:Nat} {K:Option Addr->Nat->Nat->Hp->Prop} (e:fP h h' t set) (hl:set.length<=1048576) (hb:h' b=none)
  (k: ∀(t':Sl) (h'':Hp),fP h h'' t' (set++ [x])->K t'.a t'.n t'.c h''):ck (h'.row b [I x] 1) t.a t.n t.c (some ⟨b,0,none⟩) 1 1 8 K:=by
 have l:=eO [I x] 1 hb
 refine Mv (e.buf.mono l) hl (pR _ _ _ _ _) fun t' h'' hb' hl'=>k t' h'' ⟨hb',Hp.le_trans (Hp.le_trans e.le (bM t l)) hl'⟩
theorem fP.own {h h':Hp} {t:Sl} {set:List Int} (e:fP h h' t set) (hl:set.length<=1048576):Own (h'.sub h) t 1 (set.map I):=by
 have hn:=e.buf.len
 refine⟨e.buf.1,by omega,?_⟩
 rcases e.buf.2.2 with ⟨_,h0,_⟩|⟨b,ha,hb⟩
 ·exact .inl h0
 ·refine .inr ⟨b,t.c*1,ha,?_⟩
  rw [k7]
  ·exact hb
  ·refine aF e.le ?_
   simp [Hp.offS,ha,Hp.off,Hp.set]
theorem fO.all {v:Int} {l:List Int} (e:fO v l=true): ∀x∈l,x≠0/\ -v<=x/\x<=v:=fun x hx=>Ft.iff.1 (fO.lit e hx)
def BC (set:List Int):List (Value×Value):=set.map fun x=>(I x, .bool true)
theorem P5 (set:List Int) (n:Int): ∃res,fB (Instr.sameNow (.int .i64) (I n)) (BC set) 0=some res/\Option.getD (Option.map (fun p=>p.2) res) (.bool false)= .bool (set.contains n)/\
  vn (BC set) (I n) (.bool true) res=BC (if set.contains n then set else set++ [n]):=by
 unfold BC
 rcases qg (Instr.sameNow (.int .i64) (I n)) (fun x:Int=>I x) (fun _=> .bool true) (fun x=>n==x) set 0 (fun x _=>LZ _ _ _)with ⟨hno,hm⟩|⟨j,hj,hyes,_,hm⟩
 ·have hc:set.contains n=false:=by
   rw [Bool.eq_false_iff];intro h
   have:=hno n (by simpa using h)
   simp at this
  exact⟨_,hm,by rw [hc];rfl,by rw [hc];simp [vn]⟩
 ·have he:n=set[j]:=by simpa using hyes
  have hc:set.contains n=true:=by
   rw [he];simp
  refine⟨_,hm,by rw [hc];rfl,?_⟩
  rw [hc,if_pos rfl]
  simp only [vn,Nat.zero_add]
  apply List.ext_getElem
  ·simp
  ·intro i h1 h2
   rw [List.getElem_set]
   split
   ·rename_i hij;subst hij;simp [he]
   ·rfl
structure dv (h h':Hp) (t:Sl) (xss:List (List Int)):Prop where
 buf: ∃ts:List Sl,Buf h' t 1 (ts.map Sl.v)/\ts.length=xss.length/\ ∀(i:Nat) (h1:i<ts.length) (h2:i<xss.length),IntS h ts[i] xss[i]
 le:h.le (h'.offS t)
theorem dv.keep {h h':Hp} {t:Sl} {xss:List (List Int)} (e:dv h h' t xss):h.le h':=Hp.le_trans e.le (bk _ _)
theorem dv.ints {h h':Hp} {t:Sl} {xss:List (List Int)} (e:dv h h' t xss) (hl:xss.length<=1048576):IntSS h' t xss:=by
 obtain⟨ts,hb,h1,h2⟩:=e.buf
 have hn:t.n=xss.length:=by have:=hb.1;simp at this;omega
 exact⟨ts,h1,hb.slc (by omega),fun i a b=>(h2 i a b).mono e.keep⟩
theorem dv.app {h h':Hp} {t u:Sl} {xss:List (List Int)} {x:List Int} {b:Nat} {K:Option Addr->Nat->Nat->Hp->Prop} (e:dv h h' t xss) (hl:xss.length<=1048576) (hu:IntS h u x) (hb:h' b=none)
  (k: ∀(t':Sl) (h'':Hp),dv h h'' t' (xss++ [x])->K t'.a t'.n t'.c h''):ck (h'.row b [u.v] 1) t.a t.n t.c (some ⟨b,0,none⟩) 1 1 24 K:=by
 have l:=eO [u.v] 1 hb
 obtain⟨ts,hbuf,h1,h2⟩:=e.buf
 have hn:t.n=xss.length:=by have:=hbuf.1;simp at this;omega
 refine dp (hbuf.mono l) (by omega) (by omega) (by omega) ⟨b,0,rfl,fun i v hi=>?_⟩ (news:= [u.v]) rfl rfl ?_
 ·cases i with
  |zero=>simp at hi;subst hi;exact pR _ _ _ _ _
  |succ i=>simp at hi
 ·intro t' h'' hn' hb' hle _
  refine k t' h'' ⟨⟨ts++ [u],by rw [List.map_append];exact hb',by simp [h1],?_⟩,Hp.le_trans (Hp.le_trans e.le (bM t l)) hle⟩
  intro i a c
  by_cases hi:i<ts.length
  ·rw [List.getElem_append_left hi,List.getElem_append_left (by omega)];exact h2 i hi (by omega)
  ·have:i=ts.length:=by simp at a;omega
   subst this
   simp only [List.getElem_append_right (Nat.le_refl _),Nat.sub_self,List.getElem_cons_zero]
   simp only [h1,List.getElem_append_right (Nat.le_refl _),Nat.sub_self,List.getElem_cons_zero]
   exact hu
def uU (S:List Int) (l:List Int):Prop:=
 (∃x∈l,x∈S)\/ ∃x∈l,∃y∈l,x≠y/\(x∉S/\ -x∉S)/\(y∉S/\ -y∉S)
def Or (S:List Int):Prop:= ∀x∈S, -x∉S
def WfL (v:Int) (l:List Int):Prop:= ∀x∈l,x≠0/\ -v<=x/\x<=v
def WfC (v:Int) (c:List (List Int)):Prop:= ∀l∈c,WfL v l
theorem DD (set:List Int): ∀(l:List Int) (left:Int),(∀x∈l,x≠0)->(left≠0->left∉set/\ -left∉set)->
  (gh set l left=(0,false)/\((∃x∈l,x∈set)\/ ∃x∈l,∃y∈left::l,y≠0/\x≠y/\(x∉set/\ -x∉set)/\(y∉set/\ -y∉set)))\/
  ((gh set l left).2=((gh set l left).1==0)/\(left≠0->(gh set l left).1=left)/\ ∀x∈l,x=(gh set l left).1\/ -x∈set):=by
 intro l
 induction l with
 |nil=>intro left _ _;exact .inr ⟨rfl,fun _=>rfl,by simp⟩
 |cons x r ih=>
  intro left hx ho
  have hr:=fun y hy=>hx y (List.mem_cons_of_mem _ hy)
  have hx0:=hx x (by simp)
  simp only [gh]
  by_cases h1:set.contains x=true
  ·rw [if_pos h1];exact .inl ⟨rfl, .inl ⟨x,by simp,by simpa using h1⟩⟩
  rw [if_neg h1]
  by_cases h2:set.contains (-x)=true
  ·rw [if_pos h2]
   rcases ih left hr ho with ⟨e,h⟩|⟨e,h,h'⟩
   ·refine .inl ⟨e,?_⟩
    rcases h with ⟨z,hz,hs⟩|⟨z,hz,y,hy,h⟩
    ·exact .inl ⟨z,by simp [hz],hs⟩
    ·refine .inr ⟨z,by simp [hz],y,?_,h⟩
     rcases List.mem_cons.1 hy with rfl|hy
     ·simp
     ·simp [hy]
   ·refine .inr ⟨e,h,?_⟩
    intro z hz
    rcases List.mem_cons.1 hz with rfl|hz
    ·exact .inr (by simpa using h2)
    ·exact h' z hz
  rw [if_neg h2]
  have hxo:x∉set/\ -x∉set:=⟨by simpa using h1,by simpa using h2⟩
  by_cases h3:(left !=0&&left !=x)=true
  ·rw [if_pos h3]
   simp at h3
   exact .inl ⟨rfl, .inr ⟨x,by simp,left,by simp,h3.1,fun e=>h3.2 e.symm,hxo,ho h3.1⟩⟩
  rw [if_neg h3]
  have hl:left≠0->left=x:=by simpa using h3
  rcases ih x hr (fun _=>hxo)with ⟨e,h⟩|⟨e,h,h'⟩
  ·refine .inl ⟨e,?_⟩
   rcases h with ⟨z,hz,hs⟩|⟨z,hz,y,hy,h⟩
   ·exact .inl ⟨z,by simp [hz],hs⟩
   ·exact .inr ⟨z,by simp [hz],y,List.mem_cons_of_mem _ hy,h⟩
  ·refine .inr ⟨e,fun h0=>?_,?_⟩
   ·rw [h hx0,hl h0]
   ·intro z hz
    rcases List.mem_cons.1 hz with rfl|hz
    ·exact .inl (h hx0).symm
    ·exact h' z hz
theorem Rw {set S l:List Int} (hs:set⊆S) (hc:Or S) (hl: ∀x∈l,x≠0) (st:uU S l):
  (gh set l 0).2=false/\((gh set l 0).1≠0->(gh set l 0).1∈S):=by
 rcases DD set l 0 hl (fun h=>absurd rfl h)with ⟨e,_⟩|⟨e,_,h⟩
 ·rw [e];exact⟨rfl,fun h=>absurd rfl h⟩
 ·obtain⟨x,hx,hn,hS⟩: ∃x∈l,x=(gh set l 0).1/\x∈S:=by
   rcases st with ⟨x,hx,hS⟩|⟨x,hx,y,hy,hne,hxo,hyo⟩
   ·rcases h x hx with h1|h1
    ·exact⟨x,hx,h1,hS⟩
    ·exact absurd (hs h1) (hc x hS)
   ·rcases h x hx with h1|h1
    ·rcases h y hy with h2|h2
     ·exact absurd (h1.trans h2.symm) hne
     ·exact absurd (hs h2) hyo.2
    ·exact absurd (hs h1) hxo.2
  rw [e,<-hn]
  exact⟨by simpa using hl x hx,fun _=>hS⟩
theorem JJ {set l:List Int} (hl: ∀x∈l,x≠0) (h1:(gh set l 0).2=false) (h2:(gh set l 0).1=0):uU set l:=by
 rcases DD set l 0 hl (fun h=>absurd rfl h)with ⟨e,h⟩|⟨e,_,h⟩
 ·refine h.imp id ?_
  rintro ⟨x,hx,y,hy,hy0,h⟩
  rcases List.mem_cons.1 hy with rfl|hy
  ·exact absurd rfl hy0
  ·exact⟨x,hx,y,hy,h⟩
 ·rw [h1,h2]at e;simp at e
theorem IC {S:List Int} (hc:Or S): ∀(cls:List (List Int)) (set:List Int) (more:Bool),set⊆S->(∀l∈cls,(∀x∈l,x≠0)/\uU S l)->
  ∃set' more',lD cls set more=some (set',more')/\set'⊆S:=by
 intro cls
 induction cls with
 |nil=>intro set more hs _;exact⟨set,more,rfl,hs⟩
 |cons l r ih=>
  intro set more hs hl
  have h:=Rw hs hc (hl l (by simp)).1 (hl l (by simp)).2
  have hr:=fun l' h'=>hl l' (List.mem_cons_of_mem _ h')
  simp only [lD,h.1,Bool.false_eq_true,if_false]
  split
  ·rename_i hne
   refine ih _ _ ?_ hr
   intro x hx
   rcases List.mem_append.1 hx with hx|hx
   ·exact hs hx
   ·simp only [List.mem_singleton]at hx;subst hx;exact h.2 (by simpa using hne)
  ·exact ih _ _ hs hr
theorem Lp : ∀(cls:List (List Int)) (set:List Int) (more:Bool) (set':List Int) (more':Bool),lD cls set more=some (set',more')->set⊆set':=by
 intro cls
 induction cls with
 |nil=>intro set more set' more' h;simp only [lD,Option.some.injEq,Prod.mk.injEq]at h;rw [h.1];exact fun x hx=>hx
 |cons l r ih=>
  intro set more set' more' h
  simp only [lD]at h
  split at h
  ·cases h
  ·split at h
   ·exact fun x hx=>ih _ _ _ _ h (List.mem_append_left _ hx)
   ·exact ih _ _ _ _ h
theorem AO : ∀(cls:List (List Int)) (set:List Int) (more:Bool) (set':List Int),(∀l∈cls,∀x∈l,x≠0)->lD cls set more=some (set',false)->
  more=false/\set'=set/\ ∀l∈cls,uU set l:=by
 intro cls
 induction cls with
 |nil=>intro set more set' _ h;simp only [lD,Option.some.injEq,Prod.mk.injEq]at h;exact⟨h.2,h.1.symm,by simp⟩
 |cons l r ih=>
  intro set more set' hl h
  have hr:=fun l' h'=>hl l' (List.mem_cons_of_mem _ h')
  simp only [lD]at h
  split at h
  ·cases h
  ·rename_i h1
   split at h
   ·have:=(ih _ _ _ hr h).1;cases this
   ·rename_i h2
    obtain⟨e1,e2,e3⟩:=ih _ _ _ hr h
    refine⟨e1,e2,?_⟩
    intro l' h'
    rcases List.mem_cons.1 h' with rfl|h'
    ·exact JJ (hl _ (by simp)) (by simpa using h1) (by simpa using h2)
    ·exact e3 l' h'
theorem u6 {cls:List (List Int)} {set:List Int} {v:Int} (hv0:0<=v) (hv:v<=10) (hc:WfC v cls) (k:pJ v set):
  ka cls set=match lD cls set false with|none=>none|some (set',more)=>if more then ka cls set' else some set':=by
 rw [ka]
 cases hp:lD cls set false with
 |none=>rfl
 |some p=>
  obtain⟨set',more⟩:=p
  obtain⟨k',hl,hm⟩:=pM cls set false k hc _ _ hp
  cases more with
  |false=>rfl
  |true=>
   have h1:set.length<set'.length:=by
    rcases hm rfl with h|h
    ·cases h
    ·exact h
   have h2:=k'.len hv hv0
   simp [h1,h2]
theorem MX {S:List Int} (hS:Or S) {cls:List (List Int)} {v:Int} (hv0:0<=v) (hv:v<=10) (hc:WfC v cls) (hst: ∀l∈cls,uU S l):
  ∀(n:Nat) (set:List Int),20-set.length<=n->pJ v set->set⊆S-> ∃set',ka cls set=some set'/\set'⊆S:=by
 intro n
 induction n with
 |zero=>
  intro set hn k hs
  obtain⟨set',more',hp,hs'⟩:=IC hS cls set false hs (fun l h=>⟨fun x hx=>(hc l h x hx).1,hst l h⟩)
  obtain⟨k',hl,hm⟩:=pM cls set false k hc _ _ hp
  have h2:=k'.len hv hv0
  rw [u6 hv0 hv hc k,hp]
  cases more' with
  |false=>exact⟨set',rfl,hs'⟩
  |true=>
   rcases hm rfl with h|h
   ·cases h
   ·omega
 |succ n ih=>
  intro set hn k hs
  obtain⟨set',more',hp,hs'⟩:=IC hS cls set false hs (fun l h=>⟨fun x hx=>(hc l h x hx).1,hst l h⟩)
  obtain⟨k',hl,hm⟩:=pM cls set false k hc _ _ hp
  rw [u6 hv0 hv hc k,hp]
  cases more' with
  |false=>exact⟨set',rfl,hs'⟩
  |true=>
   rcases hm rfl with h|h
   ·cases h
   ·exact ih set' (by omega) k' hs'
theorem GU {cls:List (List Int)} {v:Int} (hv0:0<=v) (hv:v<=10) (hc:WfC v cls):
  ∀(n:Nat) (set set':List Int),20-set.length<=n->pJ v set->ka cls set=some set'->set⊆set'/\pJ v set'/\ ∀l∈cls,uU set' l:=by
 intro n
 induction n with
 |zero=>
  intro set set' hn k h
  rw [u6 hv0 hv hc k]at h
  cases hp:lD cls set false with
  |none=>rw [hp]at h;cases h
  |some p=>
   obtain⟨s,more⟩:=p
   rw [hp]at h
   obtain⟨k',hl,hm⟩:=pM cls set false k hc _ _ hp
   have h2:=k'.len hv hv0
   cases more with
   |true=>
    rcases hm rfl with h|h
    ·cases h
    ·omega
   |false=>
    simp only [Bool.false_eq_true,if_false,Option.some.injEq]at h
    subst h
    have:=AO cls set false s (fun l h x hx=>(hc l h x hx).1) hp
    rw [this.2.1]
    exact⟨fun x hx=>hx,k,this.2.2⟩
 |succ n ih=>
  intro set set' hn k h
  rw [u6 hv0 hv hc k]at h
  cases hp:lD cls set false with
  |none=>rw [hp]at h;cases h
  |some p=>
   obtain⟨s,more⟩:=p
   rw [hp]at h
   obtain⟨k',hl,hm⟩:=pM cls set false k hc _ _ hp
   cases more with
   |true=>
    rcases hm rfl with h'|h'
    ·cases h'
    ·simp only [if_true]at h
     obtain⟨a,b,c⟩:=ih s set' (by omega) k' h
     exact⟨fun x hx=>a (Lp _ _ _ _ _ hp hx),b,c⟩
   |false=>
    simp only [Bool.false_eq_true,if_false,Option.some.injEq]at h
    subst h
    have:=AO cls set false s (fun l h x hx=>(hc l h x hx).1) hp
    rw [this.2.1]
    exact⟨fun x hx=>hx,k,this.2.2⟩
theorem Ny {S:List Int} (hS:Or S): ∀(g set:List Int),g⊆S->set⊆S-> ∃set',rH g set=some set'/\set'⊆S:=by
 intro g
 induction g with
 |nil=>intro set _ hs;exact⟨set,rfl,hs⟩
 |cons x r ih=>
  intro set hg hs
  have hx:x∈S:=hg (by simp)
  have hr:r⊆S:=fun y hy=>hg (List.mem_cons_of_mem _ hy)
  have hn: ¬set.contains (-x)=true:=fun h=>hS x hx (hs (by simpa using h))
  simp only [rH,if_neg hn]
  refine ih _ hr ?_
  split
  ·exact hs
  ·intro y hy
   rcases List.mem_append.1 hy with hy|hy
   ·exact hs hy
   ·simp only [List.mem_singleton]at hy;subst hy;exact hx
theorem Nw : ∀(g set set':List Int),rH g set=some set'->set⊆set'/\g⊆set':=by
 intro g
 induction g with
 |nil=>intro set set' h;simp only [rH,Option.some.injEq]at h;subst h;exact⟨fun x hx=>hx,by simp⟩
 |cons x r ih=>
  intro set set' h
  simp only [rH]at h
  split at h
  ·cases h
  ·obtain⟨h1,h2⟩:=ih _ _ h
   split at h1
   ·rename_i hx
    refine⟨h1,?_⟩
    intro y hy
    rcases List.mem_cons.1 hy with rfl|hy
    ·exact h1 (by simpa using hx)
    ·exact h2 hy
   ·refine⟨fun y hy=>h1 (List.mem_append_left _ hy),?_⟩
    intro y hy
    rcases List.mem_cons.1 hy with rfl|hy
    ·exact h1 (by simp)
    ·exact h2 hy
section
variable {cls :List (List Int)} {given:List Int} {v:Int}
theorem IZ (hv0:0<=v) (hv:v<=10) (hc:WfC v cls) (hg:WfL v given) {S:List Int} (hS:Or S) (hgS:given⊆S) (hst: ∀l∈cls,uU S l):
  ∃set,jP cls given=some set/\set⊆S:=by
 obtain⟨s,h1,h2⟩:=Ny hS given [] hgS (by simp)
 obtain⟨s',h3,h4⟩:=MX hS hv0 hv hc hst _ s (Nat.le_refl _) (AB given [] (Ju v) hg s h1) h2
 exact⟨s',by rw [jP,h1];exact h3,h4⟩
theorem uF (hv0:0<=v) (hv:v<=10) (hc:WfC v cls) (hg:WfL v given) {set:List Int} (h:jP cls given=some set):
  Or set/\given⊆set/\(∀l∈cls,uU set l)/\pJ v set:=by
 rw [jP]at h
 cases h1:rH given []with
 |none=>rw [h1]at h;cases h
 |some s=>
  rw [h1]at h
  have k:=AB given [] (Ju v) hg s h1
  obtain⟨a,b,c⟩:=GU hv0 hv hc _ s set (Nat.le_refl _) k h
  exact⟨b.cons,fun x hx=>a ((Nw _ _ _ h1).2 hx),c,b⟩
theorem zL (hv0:0<=v) (hv:v<=10) {cls':List (List Int)} {given':List Int} (hc:WfC v cls') (hg:WfL v given') (h1:cls⊆cls') (h2:given⊆given')
  (h:jP cls given=none):jP cls' given'=none:=by
 cases h':jP cls' given' with
 |none=>rfl
 |some set=>
  obtain⟨a,b,c,_⟩:=uF hv0 hv hc hg h'
  obtain⟨s,hs,_⟩:=IZ hv0 hv (fun l hl=>hc l (h1 hl)) (fun x hx=>hg x (h2 hx)) a (fun x hx=>b (h2 hx)) (fun l hl=>c l (h1 hl))
  rw [hs]at h;cases h
end
def g9 (cls:List (List Int)) (p:List (List Int)):Prop:= ∀(i:Nat) (h:i<p.length),jP (cls++p.take i) (p[i].map (- ·))=none
theorem ES {v:Int} {l:List Int} (h:WfL v l):WfL v (l.map (- ·)):=by
 intro x hx
 obtain⟨y,hy,rfl⟩:=List.mem_map.1 hx
 have:=h y hy
 omega
theorem vv {v:Int} {a b:List (List Int)} (ha:WfC v a) (hb:WfC v b):WfC v (a++b):=by
 intro l hl
 rcases List.mem_append.1 hl with h|h
 ·exact ha l h
 ·exact hb l h
theorem MU {v:Int} {a:List (List Int)} (ha:WfC v a) (n:Nat):WfC v (a.take n):=fun l hl=>ha l (List.mem_of_mem_take hl)
theorem g9.mono {v:Int} (hv0:0<=v) (hv:v<=10) {cls cls' p:List (List Int)} (hc:WfC v cls') (hp:WfC v p) (hs:cls⊆cls') (h:g9 cls p):g9 cls' p:=by
 intro i hi
 refine zL hv0 hv (vv hc (MU hp i)) (ES (hp _ (List.getElem_mem hi))) ?_ (fun x hx=>hx) (h i hi)
 intro l hl
 rcases List.mem_append.1 hl with h|h
 ·exact List.mem_append_left _ (hs h)
 ·exact List.mem_append_right _ h
theorem g9.snoc {cls p:List (List Int)} {l:List Int} (h:g9 cls p) (hl:jP (cls++p) (l.map (- ·))=none):g9 cls (p++ [l]):=by
 intro i hi
 by_cases hlt:i<p.length
 ·rw [List.getElem_append_left hlt,List.take_append_of_le_length (by omega)]
  exact h i hlt
 ·have:i=p.length:=by simp at hi;omega
  subst this
  simp only [List.getElem_append_right (Nat.le_refl _),Nat.sub_self,List.getElem_cons_zero]
  rw [List.take_left' rfl];exact hl
def vo (B:List Int):Prop:= ∀(i:Nat) (h:i<B.length),B[i]=(i:Int)+1\/B[i]= -((i:Int)+1)
theorem vo.snoc {B:List Int} (h:vo B) {x:Int} (hx:x=(B.length:Int)+1\/x= -((B.length:Int)+1)):vo (B++ [x]):=by
 intro i hi
 by_cases hlt:i<B.length
 ·rw [List.getElem_append_left hlt];exact h i hlt
 ·have:i=B.length:=by simp at hi;omega
  subst this
  simp only [List.getElem_append_right (Nat.le_refl _),Nat.sub_self,List.getElem_cons_zero]
  exact hx
def cR :Nat->(Nat->Bool)->Nat
 |0,_=>0
 |n+1,f=>cR n f+(if f n then 2^n else 0)
theorem qY (n:Nat) (f:Nat->Bool):cR n f<2^n:=by
 induction n with
 |zero=>simp [cR]
 |succ n ih=>simp only [cR,Nat.pow_succ];split<;>omega
theorem rO (n:Nat) (f:Nat->Bool): ∀i,i<n->(cR n f).testBit i=f i:=by
 induction n with
 |zero=>intro i h;omega
 |succ n ih=>
  intro i hi
  have hl:=qY n f
  simp only [cR]
  by_cases h:i=n
  ·subst h
   cases hf:f i with
   |true=>rw [if_pos rfl,Nat.add_comm,Nat.testBit_two_pow_add_eq,Nat.testBit_lt_two_pow hl];rfl
   |false=>simp [Nat.testBit_lt_two_pow hl]
  ·cases hf:f n with
   |true=>rw [if_pos rfl,Nat.add_comm,Nat.testBit_two_pow_add_gt (by omega)];exact ih i (by omega)
   |false=>simp only [Bool.false_eq_true,if_false,Nat.add_zero];exact ih i (by omega)
structure MI (h:Hp) (K:Nat) (vars:Nat) (tb s:Sl) (ns:List Nd):Prop where
 row:h K=some (.inl ⟨[I vars,tb.v,s.v],3,false⟩)
 buf:Buf h s 3 (bJ ns)
 own: ∀a,s.a=some a->a.block≠K
theorem MI.mono {h h':Hp} {K vars:Nat} {tb s:Sl} {ns:List Nd} (l:h.le h') (e:MI h K vars tb s ns):MI h' K vars tb s ns:=⟨l _ _ e.row,e.buf.mono l,e.own⟩
theorem MI.len {h:Hp} {K vars:Nat} {tb s:Sl} {ns:List Nd} (e:MI h K vars tb s ns):s.n=ns.length:=by
 have:=e.buf.1;rw [mP]at this;omega
def cX (h:Hp) (t:Sl) (n:Nat) (T:Nat->Bool):Prop:=qI h t ((List.range n).map T)
theorem cX.mono {h h':Hp} {t:Sl} {n:Nat} {T:Nat->Bool} (l:h.le h') (e:cX h t n T):cX h' t n T:=qI.mono l e
theorem ou {h:Hp} {c:Bool} {R:Value->Hp->Prop} (k:R (I (if c then 1 else 0)) h):gu #[.bool c] h R:=by
 apply AF
 refine uf_ ?_
 cases c<;>exact k
def jt (n:Nat) (x:Int):Bool:=decide (0<=x/\x<=((2^n:Nat):Int)-1)
theorem vh {h:Hp} {s:Sl} {xs:List Int} {n:Nat} {R:Value->Hp->Prop} (hs:IntS h s xs) (hn:n<=62)
  (k:R (.bool (xs.all (jt n))) h):kQ #[s.v,I n] h R:=by
 apply KK
 refine uf_ ?_
 have h2:=mE (n:=n) (by omega)
 have h0:(0:Int)<((2^n:Nat):Int):=Int.ofNat_lt.2 (Nat.pow_pos (by omega))
 have hb:=hs.bound
 refine av xs.length (fun i vs h'=>vs= [I n,s.v,I xs.length,I i]/\h'=h/\(xs.take i).all (jt n)=true) ⟨by rw [hs.len];rfl,rfl,by simp⟩ ?_
 rintro i _ _ next hi ⟨rfl,rfl,hp⟩ hnx
 refine⟨_,_,_,_,rfl,?_⟩
 by_cases hlt:i<xs.length
 ·obtain⟨b,o,ha,hc⟩:=hs.at hlt
  refine aJ (by simp [hlt]) ?_
  simp only [vm,hs.len,ha,hc,aA (n:=i) (by omega)]
  refine⟨by omega,?_⟩
  rw [if_neg (by omega),bD (by omega),bV (by omega) (by omega)]
  refine fv ⟨_,rfl,ac (fun he=>?_) (fun he=>?_)⟩
  ·rwa [Qj (xs:=xs) hlt (by unfold jt;rw [<-Bool.not_eq_true'];exact he)]at k
  ·exact hnx hlt _ _ ⟨rfl,rfl,by rw [Tp hlt,hp];unfold jt;simpa using he⟩
 ·have:i=xs.length:=by omega
  subst this
  rw [List.take_length]at hp
  refine aD (by simp) ?_
  rwa [hp]at k
structure eM (g h:Hp) (bw:Nat) (v:Int) (t:Sl) (xss:List (List Int)):Prop where
 buf: ∃ts:List Sl,Buf h t 1 (ts.map Sl.v)/\ts.length=xss.length/\ ∀(i:Nat) (h1:i<ts.length) (h2:i<xss.length),IntS g ts[i] xss[i]
 le:g.le (h.offS t)
 row:h bw=some (.inl ⟨[I v,t.v],2,false⟩)
 new:g bw=none
 own: ∀a,t.a=some a->a.block≠bw
theorem cJ {h:Hp} {t:Sl} {c:Nat} {x:Blk} (e:(h.offS t) c=some x):h c=some x/\ ∀a,t.a=some a->a.block≠c:=by
 refine⟨bk _ _ _ _ e,fun a ha hac=>?_⟩
 subst hac
 simp [Hp.offS,ha,Hp.off,Hp.set]at e
theorem eM.keep {g h:Hp} {bw:Nat} {v:Int} {t:Sl} {xss:List (List Int)} (e:eM g h bw v t xss):g.le h:=Hp.le_trans e.le (bk _ _)
theorem eM.len {g h:Hp} {bw:Nat} {v:Int} {t:Sl} {xss:List (List Int)} (e:eM g h bw v t xss):t.n=xss.length:=by
 obtain⟨ts,hb,h1,_⟩:=e.buf
 have:=hb.1;simp at this;omega
theorem eM.blk {g h:Hp} {bw:Nat} {v:Int} {t:Sl} {xss:List (List Int)} (e:eM g h bw v t xss): ∀a,t.a=some a-> ∃ts:List Sl,∃z,h a.block=some (.inl ⟨ts.map Sl.v,z,false⟩):=by
 intro a ha
 obtain⟨ts,hb,_,_⟩:=e.buf
 rcases hb.2.2 with ⟨h0,_⟩|⟨b,hb1,hb2⟩
 ·rw [h0]at ha;cases ha
 ·rw [hb1]at ha;cases ha;exact⟨ts,_,hb2⟩
theorem eM.to {g h g' h':Hp} {bw:Nat} {v v':Int} {t:Sl} {xss:List (List Int)} (e:eM g h bw v t xss) (l:g.le g') (l':g'.le (h'.offS t)) (hr:h' bw=some (.inl ⟨[I v',t.v],2,false⟩))
  (hbuf: ∀a,t.a=some a->h' a.block=h a.block) (hn:g' bw=none):eM g' h' bw v' t xss:=by
 obtain⟨ts,hb,h1,h2⟩:=e.buf
 refine⟨⟨ts,⟨hb.1,hb.2.1,hb.2.2.imp id ?_⟩,h1,fun i a b=>(h2 i a b).mono l⟩,l',hr,hn,e.own⟩
 rintro ⟨b,hb1,hb2⟩
 exact⟨b,hb1,(hbuf _ hb1).trans hb2⟩
theorem eM.lit {g h:Hp} {bw b n:Nat} {v:Int} {t:Sl} {xss:List (List Int)} {cs:List Value} (e:eM g h bw v t xss) (hb:h b=none):eM (g.row b cs n) (h.row b cs n) bw v t xss:=by
 have gb:g b=none:=aF e.keep hb
 have nb:=fresh_ne hb e.row
 have nt: ∀a,t.a=some a->a.block≠b:=fun a ha=>by
  obtain⟨ts,z,hx⟩:=e.blk a ha
  exact fresh_ne hb hx
 refine e.to (eO _ _ gb) ?_ (by rw [bX _ _ nb];exact e.row) (fun a ha=>bX _ _ (nt a ha)) (by rw [bX _ _ nb];exact e.new)
 intro c x hc
 by_cases h':c=b
 ·subst h'
  rw [fN nt,bR];rw [bR]at hc;exact hc
 ·rw [bX _ _ h']at hc
  obtain⟨h1,h2⟩:=cJ (e.le _ _ hc)
  rw [fN h2,bX _ _ h'];exact h1
theorem eM.app {g h:Hp} {bw b:Nat} {v:Int} {t u:Sl} {xss:List (List Int)} {x:List Int} {K:Option Addr->Nat->Nat->Hp->Prop} (e:eM g h bw v t xss) (hl:xss.length<=1048576) (hu:IntS g u x) (hb:h b=none)
  (k: ∀(t':Sl) (h':Hp),h' bw=some (.inl ⟨[I v,t.v],2,false⟩)->(h.offS t).le (h'.offS t')->eM g (h'.row bw [I v,t'.v] 2) bw v t' (xss++ [x])->K t'.a t'.n t'.c h'):
  ck (h.row b [u.v] 1) t.a t.n t.c (some ⟨b,0,none⟩) 1 1 24 K:=by
 have l:=eO [u.v] 1 hb
 have hn:=e.len
 obtain⟨ts,hbuf,h1,h2⟩:=e.buf
 refine dp (hbuf.mono l) (by omega) (by omega) (by omega) ⟨b,0,rfl,fun i v hi=>?_⟩ (news:= [u.v]) rfl rfl ?_
 ·cases i with
  |zero=>simp at hi;subst hi;exact pR _ _ _ _ _
  |succ i=>simp at hi
 intro t' h' hn' hb' hle _
 have hle':(h.offS t).le (h'.offS t'):=Hp.le_trans (bM t l) hle
 obtain⟨f,o⟩:=j6 hle' e.row e.own
 refine k t' h' f hle' ⟨⟨ts++ [u],?_,by simp [h1],?_⟩,?_,bR ..,e.new,o⟩
 ·rw [List.map_append]
  refine⟨hb'.1,hb'.2.1,hb'.2.2.imp id ?_⟩
  rintro ⟨c,hc,hcb⟩
  exact⟨c,hc,by rw [bX _ _ (o _ hc)];exact hcb⟩
 ·intro i a c
  by_cases hi:i<ts.length
  ·rw [List.getElem_append_left hi,List.getElem_append_left (by omega)];exact h2 i hi (by omega)
  ·have:i=ts.length:=by simp at a;omega
   subst this
   simp only [List.getElem_append_right (Nat.le_refl _),Nat.sub_self,List.getElem_cons_zero]
   simp only [h1,List.getElem_append_right (Nat.le_refl _),Nat.sub_self,List.getElem_cons_zero]
   exact hu
 ·intro c x hc
  obtain⟨h3,h4⟩:=cJ (hle' _ _ (e.le _ _ hc))
  have hcb:c≠bw:=fun hh=>by rw [hh,e.new]at hc;cases hc
  rw [fN h4,bX _ _ hcb];exact h3
structure Rd (h:Hp) (B:Nat) (s:Sl) (bs:List Nat) (p:Nat):Prop where
 row:h B=some (.inl ⟨[s.v,I p],2,false⟩)
 byt:ByteS (h.off B) s bs
theorem Rd.next {h:Hp} {B:Nat} {s:Sl} {bs:List Nat} {p:Nat} (e:Rd h B s bs p) (q:Nat):Rd (h.row B [s.v,I q] 2) B s bs q:=⟨bR ..,by rw [uG];exact e.byt⟩
theorem Rd.to {h h':Hp} {B:Nat} {s:Sl} {bs:List Nat} {p:Nat} (e:Rd h B s bs p) (l:h.le h'):Rd h' B s bs p:=⟨l _ _ e.row,e.byt.mono (Hq _ l)⟩
theorem NJ {a b:Nat} (ha:a<4611686018427387904) (hb:b<4611686018427387904): ∃c:Nat,SK (a:Int) (b:Int)=c:=by
 have:=Me (a:=a) (b:=b) (by omega) (by omega)
 exact⟨_,this⟩
theorem CI {h:Hp} {B p:Nat} {s:Sl} {bs:List Nat} {n:Int} {R:Value->Hp->Prop} (e:Rd h B s bs p) (hp:p<=1000000000) (hn:n<=1000000000)
  (k: ∀x:Nat,(1<=n->(x:Int)<n)->(n<1->x=0)->R (I x) (h.row B [s.v,I (p+1:Nat)] 2)):ah #[.pointer (some ⟨B,0,none⟩),I n] h R:=by
 apply Bl
 refine uf_ ?_
 simp only [vm,aq e.row,mm,e.row,aA (n:=p) (by omega)]
 have hb:=e.byt.mono (Ht h B [s.v,I (p+1:Nat)] 2)
 have hl:=hb.len
 have hbd:=hb.bound
 refine⟨by omega,?_⟩
 refine ap (fun J=>J (decide (n<1)||decide (bs.length=0))) ?_ ?_
 rotate_left
 ·intro J hJ
  refine ac (fun e=>?_) (fun e=>?_)
  ·rw [e,Bool.true_or]at hJ;exact hJ
  ·rw [e,Bool.false_or]at hJ
   have:((s.n:Int)==0)=decide (bs.length=0):=by rw [hl,Bool.eq_iff_iff];simp
   rw [this];exact hJ
 refine ac (fun he=>?_) (fun he=>?_)
 ·refine k 0 (fun h1=>by omega) (fun _=>rfl)
 have hn1:1<=n:=by simp at he;omega
 have hbn:0<bs.length:=by
  have:bs.length≠0:=by intro h;rw [h]at he;simp at he
  omega
 have hw:W (((p+1:Nat):Int)-1)=p:=by rw [bV (by omega) (by omega)];omega
 obtain⟨m,rfl⟩: ∃m:Nat,n=m:=⟨n.toNat,by omega⟩
 have fin: ∀x:Nat,R (I (Int.tmod (x:Int) (m:Int))) (h.row B [s.v,I (p+1:Nat)] 2):=by
  intro x
  have e1:Int.tmod (x:Int) (m:Int)=((x%m:Nat):Int):=by rw [Int.ofNat_tmod]
  rw [e1]
  have:x%m<m:=Nat.mod_lt _ (by omega)
  exact k (x%m) (fun _=>by omega) (fun h=>by omega)
 simp only [hw,hl]
 refine ac (fun hlt=>?_) (fun hlt=>?_)
 ·have hlt':p<bs.length:=by simp at hlt;omega
  obtain⟨b,o,ha,hc,hx⟩:=hb.at hlt'
  simp only [vm,ha,hc]
  refine⟨by omega,?_⟩
  rw [if_neg (by omega),et (by omega)]
  exact fin _
 ·have hq: ∀q:Nat,Int.tmod (q:Int) (bs.length:Int)=((q%bs.length:Nat):Int):=fun q=>by rw [Int.ofNat_tmod]
  have hlt2: ∀q:Nat,q%bs.length<bs.length:=fun q=>Nat.mod_lt _ hbn
  have w1:W (W ((p:Int)*7)+3)=((p*7+3:Nat):Int):=by
   rw [bV (n:=(p:Int)*7) (by omega) (by omega),bV (by omega) (by omega)];omega
  obtain⟨b,o,ha,hc,hx⟩:=hb.at (hlt2 p)
  obtain⟨b',o',ha',hc',hy⟩:=hb.at (hlt2 (p*7+3))
  rw [ha]at ha';cases ha'
  have hdiv:Int.tdiv (p:Int) (bs.length:Int)=((p/bs.length:Nat):Int):=by rw [Int.ofNat_tdiv]
  have hdl:p/bs.length<=p:=Nat.div_le_self _ _
  generalize hX:bs[p%bs.length]'(hlt2 p)=X at*
  generalize hY:bs[(p*7+3)%bs.length]'(hlt2 _)=Y at*
  generalize hD:p/bs.length=D at*
  have tot:W (W (W (W (W (X:Int)*131)+W (W (Y:Int)*1117))+W ((p:Int)*29))+W (W (D:Int)*53))=((X*131+Y*1117+p*29+D*53:Nat):Int):=by
   rw [et (n:=X) (by omega),et (n:=Y) (by omega),et (n:=D) (by omega),bV (n:=(X:Int)*131) (by omega) (by omega),bV (n:=(Y:Int)*1117) (by omega) (by omega),
    bV (n:=(p:Int)*29) (by omega) (by omega),bV (n:=(D:Int)*53) (by omega) (by omega),bV (n:=(X:Int)*131+(Y:Int)*1117) (by omega) (by omega),
    bV (n:=(X:Int)*131+(Y:Int)*1117+(p:Int)*29) (by omega) (by omega),bV (by omega) (by omega)]
   omega
  have d64:W (Int.tdiv (((X*131+Y*1117+p*29+D*53:Nat)):Int) 64)=(((X*131+Y*1117+p*29+D*53)/64:Nat):Int):=by
   have:Int.tdiv (((X*131+Y*1117+p*29+D*53:Nat)):Int) 64=(((X*131+Y*1117+p*29+D*53)/64:Nat):Int):=by
    have:=Int.ofNat_tdiv (X*131+Y*1117+p*29+D*53) 64
    exact this.symm
   rw [this,et (by omega)]
  obtain⟨c,hcx⟩:=NJ (a:=X*131+Y*1117+p*29+D*53) (b:=(X*131+Y*1117+p*29+D*53)/64) (by omega) (by omega)
  have hnz: ¬((bs.length:Nat):Int)=0:=by omega
  simp only [vm,w1,hq,hdiv,ha,hc,hc',hD,tot,d64,hcx]
  rw [if_neg hnz]
  refine⟨by have:=hlt2 p;omega,?_⟩
  rw [if_neg hnz]
  refine⟨by have:=hlt2 (p*7+3);omega,?_⟩
  rw [if_neg hnz]
  have hm0: ¬(m:Int)=0:=by omega
  rw [if_neg hm0]
  have:=fin c
  simp only [true_and,and_self]
  exact this
theorem fP.appK {h h':Hp} {t:Sl} {set:List Int} {x:Int} {b:Nat} {K:Option Addr->Nat->Nat->Hp->Prop} (e:fP h h' t set) (hl:set.length<=1048576) (hb:h' b=none)
  (k: ∀(t':Sl) (h'':Hp),(h'.offS t).le (h''.offS t')->fP h h'' t' (set++ [x])->K t'.a t'.n t'.c h''):ck (h'.row b [I x] 1) t.a t.n t.c (some ⟨b,0,none⟩) 1 1 8 K:=by
 have l:=eO [I x] 1 hb
 exact Mv (e.buf.mono l) hl (pR _ _ _ _ _) fun t' h'' hb' hl'=>k t' h'' (Hp.le_trans (bM t l) hl') ⟨hb',Hp.le_trans (Hp.le_trans e.le (bM t l)) hl'⟩
theorem fP.neB {g h:Hp} {o s:Sl} {xs:List Int} (e:fP g h o xs) {B p n:Nat} (hB:h B=some (.inl ⟨[s.v,I p],n,false⟩)): ∀a,o.a=some a->a.block≠B:=by
 intro a ha
 rcases e.buf.2.2 with ⟨h0,_⟩|⟨b,hb1,hb2⟩
 ·rw [h0]at ha;cases ha
 ·rw [hb1]at ha;cases ha
  refine dG hb2 hB ?_
  intro h
  simp only [Sum.inl.injEq,Row.mk.injEq]at h
  rcases xs with _|⟨x,r⟩
  ·simp at h
  ·simp [Sl.v]at h
theorem eM.neB {g h:Hp} {bw:Nat} {v:Int} {t s:Sl} {xss:List (List Int)} (e:eM g h bw v t xss) {B p n:Nat} (hB:h B=some (.inl ⟨[s.v,I p],n,false⟩)): ∀a,t.a=some a->a.block≠B:=by
 intro a ha
 obtain⟨ts,z,hx⟩:=e.blk a ha
 refine dG hx hB ?_
 intro h
 simp only [Sum.inl.injEq,Row.mk.injEq]at h
 rcases ts with _|⟨t1,_|⟨t2,r⟩⟩
 ·simp at h
 ·simp at h
 ·simp [Sl.v]at h
theorem eM.ne3 {g h:Hp} {bw:Nat} {v:Int} {t:Sl} {xss:List (List Int)} (e:eM g h bw v t xss) {B n:Nat} {x:Int} {y:List Value} (hB:h B=some (.inl ⟨I x::y,n,false⟩)): ∀a,t.a=some a->a.block≠B:=by
 intro a ha
 obtain⟨ts,z,hx⟩:=e.blk a ha
 refine dG hx hB ?_
 intro h
 simp only [Sum.inl.injEq,Row.mk.injEq]at h
 rcases ts with _|⟨t1,r⟩
 ·simp at h
 ·simp [Sl.v]at h
theorem pz {h:Hp} {t:Sl} {c:Nat} {x:Blk} (e:h c=some x) (d: ∀a,t.a=some a->a.block≠c):(h.offS t) c=some x:=by rw [fN d];exact e
structure CS (h0:Hp) (B b3 b9:Nat) (s:Sl) (c:Nat) (h:Hp) (v:Int) (t:Sl) (cls:List (List Int)):Prop where
 rd: ∃q,q<=c/\h B=some (.inl ⟨[s.v,I (q:Nat)],2,false⟩)
 r3:h b3=some (.inl ⟨[I 0, .slice none 0 0],2,false⟩)
 n39:b3≠b9
 fr:(h0.off B).le (h.offS t)
 fr9:h0 b9=none
 fr3:h0 b3=none
 gr: ∃g:Hp,(∀c x,g c=some x->h0 c=none/\c≠b3)/\eM g h b9 v t cls
section
variable {h0 h:Hp} {B b3 b9 c p0:Nat} {s t:Sl} {v:Int} {cls:List (List Int)} {bs:List Nat}
theorem CS.row (e:CS h0 B b3 b9 s c h v t cls):h b9=some (.inl ⟨[I v,t.v],2,false⟩):=by obtain⟨g,_,hg⟩:=e.gr;exact hg.row
theorem CS.frame (e:CS h0 B b3 b9 s c h v t cls):(h0.off B).le h:=Hp.le_trans e.fr (bk _ _)
theorem CS.nB9 (e:CS h0 B b3 b9 s c h v t cls):b9≠B:=by
 obtain⟨q,_,hq⟩:=e.rd
 exact dG e.row hq (by intro h;simp [Sl.v]at h)
theorem CS.nB3 (e:CS h0 B b3 b9 s c h v t cls):b3≠B:=by
 obtain⟨q,_,hq⟩:=e.rd
 exact dG e.r3 hq (by intro h;simp [Sl.v]at h)
theorem CS.more (e:CS h0 B b3 b9 s c h v t cls) {c':Nat} (hc:c<=c'):CS h0 B b3 b9 s c' h v t cls:=by
 obtain⟨q,hq,hr⟩:=e.rd
 exact⟨⟨q,by omega,hr⟩,e.r3,e.n39,e.fr,e.fr9,e.fr3,e.gr⟩
theorem CS.app (e:CS h0 B b3 b9 s c h v t cls) (hB: ∃x,h0 B=some x) {h2:Hp} {o:Sl} {xs:List Int} {q2 c2 b:Nat} {K:Option Addr->Nat->Nat->Hp->Prop} (hl:cls.length<=1048576) (hx:xs.length<=1048576)
  (hgr:fP (h.off B) h2 o xs) (hr2:h2 B=some (.inl ⟨[s.v,I (q2:Nat)],2,false⟩)) (hq2:q2<=c2) (hb:h2 b=none)
  (k: ∀(t':Sl) (h3:Hp),h3 b9=some (.inl ⟨[I v,t.v],2,false⟩)->CS h0 B b3 b9 s c2 (h3.row b9 [I v,t'.v] 2) v t' (cls++ [xs])->K t'.a t'.n t'.c h3):
  ck (h2.row b [o.v] 1) t.a t.n t.c (some ⟨b,0,none⟩) 1 1 24 K:=by
 obtain⟨g,hg,gr⟩:=e.gr
 obtain⟨q,hq,hr⟩:=e.rd
 have base: ∀c x,h c=some x->c≠B->h2 c=some x/\ ∀a,o.a=some a->a.block≠c:=by
  intro c x hc hcB
  exact cJ (hgr.le c x (by rw [Hp.off,Hp.set_ne _ _ hcB];exact hc))
 have r9:=base _ _ gr.row e.nB9
 have r3:=base _ _ e.r3 e.nB3
 have tB:=gr.neB hr
 have oB:=hgr.neB hr2
 have t3:=gr.ne3 e.r3
 have tblk: ∀a,t.a=some a->h2 a.block=h a.block/\ ∀a',o.a=some a'->a'.block≠a.block:=by
  intro a ha
  obtain⟨ts,z,hx⟩:=gr.blk a ha
  obtain⟨h1,h2⟩:=base _ _ hx (tB a ha)
  exact⟨h1.trans hx.symm,h2⟩
 have hg': ∀c x,((h2.sub h0).wo ([b9,b3]++t.blk)) c=some x->h2 c=some x/\h0 c=none/\c≠b3/\c≠b9/\ ∀a,t.a=some a->a.block≠c:=by
  intro c x hc
  have hm:c∉ [b9,b3]++t.blk:=fun hm=>by rw [eX hm]at hc;cases hc
  rw [rx hm]at hc
  have h1:h0 c=none:=lz (by rw [hc];simp)
  rw [k7 h1]at hc
  simp only [List.cons_append,List.nil_append,List.mem_cons,not_or]at hm
  exact⟨hc,h1,hm.2.1,hm.1,fun a ha hac=>hm.2.2 (by unfold Sl.blk;rw [ha];simp [hac])⟩
 have hgi: ∀c x,h2 c=some x->h0 c=none->c≠b3->c≠b9->(∀a,t.a=some a->a.block≠c)->((h2.sub h0).wo ([b9,b3]++t.blk)) c=some x:=by
  intro c x h1 h2 h3 h4 h5
  rw [rx,k7 h2]
  ·exact h1
  ·simp only [List.cons_append,List.nil_append,List.mem_cons,not_or]
   refine⟨h4,h3,fun hm=>?_⟩
   unfold Sl.blk at hm
   split at hm
   ·simp at hm
   ·rename_i a ha;simp at hm;exact h5 a ha hm.symm
 have gr':eM ((h2.sub h0).wo ([b9,b3]++t.blk)) h2 b9 v t cls:=by
  refine gr.to ?_ ?_ r9.1 (fun a ha=>(tblk a ha).1) (eX (by simp))
  ·intro c x hc
   obtain⟨g1,g2⟩:=cJ (gr.le _ _ hc)
   have hn:=hg _ _ hc
   have hcB:c≠B:=fun hh=>by obtain⟨y,hy⟩:=hB;rw [hh,hy]at hn;cases hn.1
   exact hgi c x (base c x g1 hcB).1 hn.1 hn.2 (fun hh=>by rw [hh,gr.new]at hc;cases hc) g2
  ·intro c x hc
   obtain⟨g1,g2,g3,g4,g5⟩:=hg' c x hc
   exact pz g1 g5
 have hu:IntS ((h2.sub h0).wo ([b9,b3]++t.blk)) o xs:=by
  refine sY.ints ⟨hgr.buf.1,hgr.buf.2.1,hgr.buf.2.2.imp id ?_⟩ hx
  rintro ⟨d,hd,hdb⟩
  refine⟨d,hd,hgi _ _ hdb ?_ ?_ ?_ ?_⟩
  ·cases hx:h0 d with
   |none=>rfl
   |some x=>
    have hdB:d≠B:=oB _ hd
    have:=e.frame d x (by rw [Hp.off,Hp.set_ne _ _ hdB];exact hx)
    exact absurd rfl ((base d x this hdB).2 _ hd)
  ·exact r3.2 _ hd
  ·exact r9.2 _ hd
  ·intro a ha hab
   exact(tblk a ha).2 _ hd hab.symm
 refine gr'.app hl hu hb fun t' h3 f9 hk hgd=>k t' h3 f9 ?_
 have kp: ∀c x,h2 c=some x->(∀a,t.a=some a->a.block≠c)->h3 c=some x/\ ∀a,t'.a=some a->a.block≠c:=by
  intro c x h1 h2
  exact cJ (hk _ _ (pz h1 h2))
 have n9: ∀a,t.a=some a->a.block≠b9:=gr.own
 refine⟨⟨q2,hq2,by rw [bX _ _ e.nB9.symm];exact(kp _ _ hr2 tB).1⟩,by rw [bX _ _ e.n39];exact(kp _ _ r3.1 t3).1,e.n39,?_,e.fr9,e.fr3,_,fun c x hc=>⟨(hg' c x hc).2.1,(hg' c x hc).2.2.1⟩,hgd⟩
 intro c x hc
 have hcB:c≠B:=fun hh=>by rw [hh,wP]at hc;cases hc
 have hc9:c≠b9:=fun hh=>by rw [hh,Hp.off,Hp.set_ne _ _ e.nB9,e.fr9]at hc;cases hc
 obtain⟨g1,g2⟩:=cJ (e.fr _ _ hc)
 obtain⟨g3,g4⟩:=kp _ _ (base c x g1 hcB).1 g2
 rw [fN g4,bX _ _ hc9];exact g3
theorem CS.lit (e:CS h0 B b3 b9 s c h v t cls) {b n:Nat} {cs:List Value} (hb:h b=none):CS h0 B b3 b9 s c (h.row b cs n) v t cls:=by
 obtain⟨g,hg,gr⟩:=e.gr
 obtain⟨q,hq,hr⟩:=e.rd
 have tb: ∀{c x},(h.offS t) c=some x->((h.row b cs n).offS t) c=some x:=by
  intro c x hc
  obtain⟨h1,h2⟩:=cJ hc
  rw [fN h2,bX _ _ (fresh_ne hb h1)];exact h1
 exact⟨⟨q,hq,by rw [bX _ _ (fresh_ne hb hr)];exact hr⟩,by rw [bX _ _ (fresh_ne hb e.r3)];exact e.r3,e.n39,fun c x hc=>tb (e.fr _ _ hc),e.fr9,e.fr3,g,hg,
  gr.to (Hp.le_refl _) (fun c x hc=>tb (gr.le _ _ hc)) (by rw [bX _ _ (fresh_ne hb gr.row)];exact gr.row) (fun a ha=>by
   obtain⟨ts,z,hx⟩:=gr.blk a ha
   exact bX _ _ (fresh_ne hb hx)) gr.new⟩
end
theorem dv.up {h h' h'':Hp} {t:Sl} {xss:List (List Int)} (e:dv h h' t xss) (l:h'.le h''):dv h h'' t xss:=by
 obtain⟨ts,h1,h2,h3⟩:=e.buf
 exact⟨⟨ts,h1.mono l,h2,h3⟩,Hp.le_trans e.le (bM t l)⟩
def lp (v:Int) (cls p:List (List Int)):Bool:=dL v cls&&(decide (p.length<=300)&&p.all (fO v))
theorem lp.iff {v:Int} {cls p:List (List Int)}:lp v cls p=true↔dL v cls=true/\p.length<=300/\ ∀l∈p,fO v l=true:=by
 simp [lp,List.all_eq_true]
theorem dv.len {g h:Hp} {o:Sl} {out:List (List Int)} (e:dv g h o out):o.n=out.length:=by
 obtain⟨ts,hb,h1,_⟩:=e.buf
 have:=hb.1;simp at this;omega
theorem dv.base {g g2 h:Hp} {o:Sl} {out:List (List Int)} (e:dv g h o out) (l:g.le g2) (l2:g2.le (h.offS o)):dv g2 h o out:=by
 obtain⟨ts,h1,h2,h3⟩:=e.buf
 exact⟨⟨ts,h1,h2,fun i a b=>(h3 i a b).mono l⟩,l2⟩
theorem dv.blk {g h:Hp} {o:Sl} {out:List (List Int)} (e:dv g h o out): ∀a,o.a=some a-> ∃x,h a.block=some x:=by
 intro a ha
 obtain⟨ts,hb,_,_⟩:=e.buf
 rcases hb.2.2 with ⟨h0,_⟩|⟨b,hb1,hb2⟩
 ·rw [h0]at ha;cases ha
 ·rw [hb1]at ha;cases ha;exact⟨_,hb2⟩
theorem fP.apart {h2 h3:Hp} {u o:Sl} {xs:List Int} (hg:fP h2 h3 u xs) (ho: ∀a,o.a=some a-> ∃x,h2 a.block=some x): ∀a a',u.a=some a->o.a=some a'->a.block≠a'.block:=by
 intro a a' ha ha'
 obtain⟨x,hx⟩:=ho a' ha'
 exact(cJ (hg.le _ _ hx)).2 a ha
theorem fP.offS {h2 h3:Hp} {u o:Sl} {xs:List Int} (hg:fP h2 h3 u xs) (ho: ∀a,o.a=some a-> ∃x,h2 a.block=some x):sY (h3.offS o) u xs:=by
 refine⟨hg.buf.1,hg.buf.2.1,hg.buf.2.2.imp id ?_⟩
 rintro ⟨b,hb1,hb2⟩
 exact⟨b,hb1,pz hb2 fun a ha=>(hg.apart ho _ a hb1 ha).symm⟩
theorem fP.beside {h0 h' h'':Hp} {a b b':Sl} {xs:List Int} (e:fP h0 h' a xs) (l0:h0.le (h'.offS b)) (hk:(h'.offS b).le (h''.offS b')) (nab: ∀x y,a.a=some x->b.a=some y->y.block≠x.block):
  fP h0 h'' a xs/\ ∀x y,a.a=some x->b'.a=some y->y.block≠x.block:=by
 constructor
 ·refine⟨⟨e.buf.1,e.buf.2.1,e.buf.2.2.imp id ?_⟩,?_⟩
  ·rintro ⟨c,hc,hcb⟩
   exact⟨c,hc,(cJ (hk _ _ (pz hcb fun y hy=>nab _ y hc hy))).1⟩
  ·intro c x hc
   obtain⟨g1,g2⟩:=cJ (e.le _ _ hc)
   obtain⟨g3,g4⟩:=cJ (l0 _ _ hc)
   exact pz (cJ (hk _ _ (pz g1 g4))).1 g2
 ·intro x y hx hy
  rcases e.buf.2.2 with ⟨h0,_⟩|⟨c,hc,hcb⟩
  ·rw [h0]at hx;cases hx
  ·rw [hc]at hx;cases hx
   exact(cJ (hk _ _ (pz hcb fun y hy=>nab _ y hc hy))).2 y hy
theorem IntS.one {h:Hp} {b:Nat} {x:Int} {n:Nat} {ro:Bool} (e:h b=some (.inl ⟨[I x],n,ro⟩)):IntS h ⟨some ⟨b,0,none⟩,1,1⟩ [x]:=⟨by simp,by simp, .inr ⟨b,0,rfl,ay e⟩⟩
theorem dv.appK {g h:Hp} {t u:Sl} {xss:List (List Int)} {x:List Int} {b:Nat} {K:Option Addr->Nat->Nat->Hp->Prop} (e:dv g h t xss) (hl:xss.length<=1048576) (hu:IntS g u x) (hb:h b=none)
  (k: ∀(t':Sl) (h'':Hp),(h.offS t).le (h''.offS t')->dv g h'' t' (xss++ [x])->K t'.a t'.n t'.c h''):ck (h.row b [u.v] 1) t.a t.n t.c (some ⟨b,0,none⟩) 1 1 24 K:=by
 have l:=eO [u.v] 1 hb
 have hn:=e.len
 obtain⟨ts,hbuf,h1,h2⟩:=e.buf
 refine dp (hbuf.mono l) (by omega) (by omega) (by omega) ⟨b,0,rfl,fun i v hi=>?_⟩ (news:= [u.v]) rfl rfl ?_
 ·cases i with
  |zero=>simp at hi;subst hi;exact pR _ _ _ _ _
  |succ i=>simp at hi
 ·intro t' h'' hn' hb' hle _
  have hle':(h.offS t).le (h''.offS t'):=Hp.le_trans (bM t l) hle
  refine k t' h'' hle' ⟨⟨ts++ [u],by rw [List.map_append];exact hb',by simp [h1],?_⟩,Hp.le_trans e.le hle'⟩
  intro i a c
  by_cases hi:i<ts.length
  ·rw [List.getElem_append_left hi,List.getElem_append_left (by omega)];exact h2 i hi (by omega)
  ·have:i=ts.length:=by simp at a;omega
   subst this
   simp only [List.getElem_append_right (Nat.le_refl _),Nat.sub_self,List.getElem_cons_zero]
   simp only [h1,List.getElem_append_right (Nat.le_refl _),Nat.sub_self,List.getElem_cons_zero]
   exact hu
theorem dv.neB {g h:Hp} {t s:Sl} {xss:List (List Int)} (e:dv g h t xss) {B p n:Nat} (hB:h B=some (.inl ⟨[s.v,I p],n,false⟩)): ∀a,t.a=some a->a.block≠B:=by
 intro a ha
 obtain⟨ts,hb,_,_⟩:=e.buf
 rcases hb.2.2 with ⟨h0,_⟩|⟨c,hc,hcb⟩
 ·rw [h0]at ha;cases ha
 ·rw [hc]at ha;cases ha
  refine dG hcb hB ?_
  intro h
  simp only [Sum.inl.injEq,Row.mk.injEq]at h
  rcases ts with _|⟨t1,_|⟨t2,r⟩⟩
  ·simp at h
  ·simp at h
  ·simp [Sl.v]at h
structure PS (h:Hp) (B:Nat) (s:Sl) (c:Nat) (g h':Hp) (t:Sl) (res:List (List Int)):Prop where
 rd: ∃q,q<=c/\h' B=some (.inl ⟨[s.v,I (q:Nat)],2,false⟩)
 gr:dv g h' t res
 new: ∀c x,g c=some x->h c=none
 fr:(h.off B).le (h'.offS t)
section
variable {h g h':Hp} {B c:Nat} {s t:Sl} {res:List (List Int)} {bs:List Nat}
theorem PS.frame (e:PS h B s c g h' t res):(h.off B).le h':=Hp.le_trans e.fr (bk _ _)
theorem PS.more (e:PS h B s c g h' t res) {c':Nat} (hc:c<=c'):PS h B s c' g h' t res:=by
 obtain⟨q,hq,hr⟩:=e.rd
 exact⟨⟨q,by omega,hr⟩,e.gr,e.new,e.fr⟩
theorem PS.lit (e:PS h B s c g h' t res) (hB: ∃x,h B=some x) {b n:Nat} {cs:List Value} (hb:h' b=none):PS h B s c (g.row b cs n) (h'.row b cs n) t res:=by
 obtain⟨q,hq,hr⟩:=e.rd
 have nB:=fresh_ne hb hr
 have hb0:h b=none:=by
  cases hx:h b with
  |none=>rfl
  |some x=>
   have:=e.frame b x (by rw [Hp.off,Hp.set_ne _ _ nB.symm];exact hx)
   rw [hb]at this;cases this
 have tb: ∀a,t.a=some a->a.block≠b:=fun a ha=>by
  obtain⟨x,hx⟩:=e.gr.blk a ha
  exact fresh_ne hb hx
 have key: ∀c x,c≠b->(h'.offS t) c=some x->((h'.row b cs n).offS t) c=some x:=by
  intro c x hcB hc
  obtain⟨h1,h2⟩:=cJ hc
  rw [fN h2,bX _ _ hcB];exact h1
 have gb:g b=none:=aF e.gr.keep hb
 refine⟨⟨q,hq,by rw [bX _ _ nB];exact hr⟩,(e.gr.up (eO cs n hb)).base (eO _ _ gb) ?_,?_,fun c x hc=>key c x (fun hh=>by rw [hh,Hp.off,Hp.set_ne _ _ nB.symm,hb0]at hc;cases hc) (e.fr _ _ hc)⟩
 ·intro c x hc
  by_cases hcb:c=b
  ·subst hcb
   rw [bR]at hc
   rw [fN tb,bR];exact hc
  ·rw [bX _ _ hcb]at hc
   exact key c x hcb (e.gr.le _ _ hc)
 ·intro c x hc
  by_cases hcb:c=b
  ·subst hcb;exact hb0
  ·rw [bX _ _ hcb]at hc;exact e.new _ _ hc
theorem PS.app {u:Sl} {x:List Int} {b:Nat} {K:Option Addr->Nat->Nat->Hp->Prop} (e:PS h B s c g h' t res) (hl:res.length<=1048576) (hu:IntS g u x) (hb:h' b=none)
  (k: ∀(t':Sl) (h'':Hp),PS h B s c g h'' t' (res++ [x])->K t'.a t'.n t'.c h''):ck (h'.row b [u.v] 1) t.a t.n t.c (some ⟨b,0,none⟩) 1 1 24 K:=by
 obtain⟨q,hq,hr⟩:=e.rd
 exact e.gr.appK hl hu hb fun t' h'' hk gr=>k t' h'' ⟨⟨q,hq,(cJ (hk _ _ (pz hr (e.gr.neB hr)))).1⟩,gr,e.new,Hp.le_trans e.fr hk⟩
end
def jm (w:Nat) (n:Int):Nat:=(n%((2^w:Nat):Int)).toNat
def sgn (w a:Nat):Int:=if 2^(w-1)<=a then(a:Int)-((2^w:Nat):Int)else a
theorem bG (w:Nat):0<2^w:=Nat.pow_pos (by omega)
theorem jh (w:Nat) (n:Int):jm w n<2^w:=by
 unfold jm
 have h:=Int.emod_lt_of_pos n (b:=((2^w:Nat):Int)) (Int.ofNat_lt.2 (bG w))
 have h0:=Int.emod_nonneg n (b:=((2^w:Nat):Int)) (by have:=bG w;omega)
 omega
theorem oP (w a:Nat):jm w (a:Int)=a%2^w:=by
 unfold jm
 rw [<-Int.natCast_emod,Int.toNat_natCast]
theorem FM (w:Nat) (n:Int):((jm w n:Nat):Int)=n%((2^w:Nat):Int):=by
 unfold jm
 have h0:=Int.emod_nonneg n (b:=((2^w:Nat):Int)) (by have:=bG w;omega)
 omega
theorem qb {w:Nat} (h:1<=w):2^w=2*2^(w-1):=by
 obtain⟨n,rfl⟩: ∃n,w=n+1:=⟨w-1,by omega⟩
 rw [Nat.pow_succ,Nat.add_sub_cancel];omega
theorem Jw {w a:Nat} (h:1<=w) (ha:a<2^w): -((2^(w-1):Nat):Int)<=sgn w a/\sgn w a<((2^(w-1):Nat):Int):=by
 have:=qb h
 unfold sgn;split<;>omega
theorem Ty {w:Nat} (h:1<=w) (n:Int):sgn w (jm w n)=n↔ -((2^(w-1):Nat):Int)<=n/\n<((2^(w-1):Nat):Int):=by
 have hp:=qb h
 have hl:=jh w n
 have hb:=Jw h hl
 constructor
 ·intro e;rw [e]at hb;exact hb
 ·rintro ⟨h1,h2⟩
  have hc:=FM w n
  have h3:n%((2^w:Nat):Int)=if n<0 then n+((2^w:Nat):Int)else n:=by
   split
   ·rw [<-Int.add_emod_right,Int.emod_eq_of_lt (by omega) (by omega)]
   ·rw [Int.emod_eq_of_lt (by omega) (by omega)]
  rw [h3]at hc
  unfold sgn
  split at hc<;>split<;>omega
theorem jf {w x:Nat} {f:Nat->Bool} (hx:x<2^w) (h: ∀i,i<w->x.testBit i=f i):cR w f=x:=by
 apply Nat.eq_of_testBit_eq
 intro i
 by_cases hi:i<w
 ·rw [rO _ _ _ hi,h i hi]
 ·rw [Nat.testBit_lt_two_pow (Nat.lt_of_lt_of_le (qY w f) (Nat.pow_le_pow_right (by omega) (by omega))),
   Nat.testBit_lt_two_pow (Nat.lt_of_lt_of_le hx (Nat.pow_le_pow_right (by omega) (by omega)))]
theorem rq {w:Nat} {f g:Nat->Bool} (h: ∀i,i<w->f i=g i):cR w f=cR w g:=jf (qY _ _) fun i hi=>by rw [rO _ _ _ hi,h i hi]
theorem Nm {w p:Nat} {f:Nat->Bool} (hp:p<w) (hf:f p=false):cR w f+2^p=cR w (fun i=>f i||decide (i=p)):=by
 induction w with
 |zero=>omega
 |succ w ih=>
  simp only [cR]
  by_cases h:p=w
  ·subst h
   have:cR p (fun i=>f i||decide (i=p))=cR p f:=rq fun i hi=>by simp;omega
   rw [this];simp [hf]
  ·have:=ih (by omega)
   have e:(f w||decide (w=p))=f w:=by simp;omega
   simp only [e]
   omega
def jx :Nat->Nat->Nat
 |0,_=>0
 |w+1,a=>jx w a+(if a.testBit w then 1 else 0)
theorem ML (w a:Nat):jx w a<=w:=by
 induction w with
 |zero=>simp [jx]
 |succ w ih=>simp only [jx];split<;>omega
theorem N6 {w a:Nat} (ha:a<2^w):jx w a=w↔a=2^w-1:=by
 have key: ∀w,jx w a=w↔ ∀i,i<w->a.testBit i=true:=by
  intro w
  induction w with
  |zero=>simp [jx]
  |succ w ih=>
   have:=ML w a
   simp only [jx]
   constructor
   ·intro h i hi
    by_cases hw:a.testBit w=true
    ·rw [if_pos hw]at h
     by_cases hiw:i=w
     ·subst hiw;exact hw
     ·exact ih.1 (by omega) i (by omega)
    ·rw [if_neg hw]at h;omega
   ·intro h
    rw [if_pos (h w (by omega)),ih.2 fun i hi=>h i (by omega)]
 rw [key]
 constructor
 ·intro h
  apply Nat.eq_of_testBit_eq
  intro i
  rw [Nat.testBit_two_pow_sub_one]
  by_cases hi:i<w
  ·rw [h i hi];simp [hi]
  ·rw [Nat.testBit_lt_two_pow (Nat.lt_of_lt_of_le ha (Nat.pow_le_pow_right (by omega) (by omega)))];simp [hi]
 ·rintro rfl i hi
  rw [Nat.testBit_two_pow_sub_one];simpa using hi
theorem G7 {w a b:Nat} (ha:a<2^w):cR w (fun i=>a.testBit i&&b.testBit i)=a&&&b:=
 jf (Nat.lt_of_le_of_lt Nat.and_le_left ha) fun i _=>by rw [Nat.testBit_and]
theorem PG {w a b:Nat} (ha:a<2^w) (hb:b<2^w):cR w (fun i=>a.testBit i||b.testBit i)=a|||b:=
 jf (Nat.or_lt_two_pow ha hb) fun i _=>by rw [Nat.testBit_or]
theorem UE {w a b:Nat} (ha:a<2^w) (hb:b<2^w):cR w (fun i=>a.testBit i^^b.testBit i)=a^^^b:=
 jf (Nat.xor_lt_two_pow ha hb) fun i _=>by rw [Nat.testBit_xor]
def W1 (w a b:Nat):Nat:=a*2^min b w%2^w
def WQ (w a b:Nat):Nat:=a/2^min b w
def VD (w a b:Nat):Nat:=jm w (sgn w a/((2^min b w:Nat):Int))
theorem Tx {w a b:Nat}:cR w (fun i=>decide (b<=i)&&a.testBit (i-b))=W1 w a b:=by
 unfold W1
 refine jf (Nat.mod_lt _ (bG w)) fun i hi=>?_
 rw [Nat.testBit_mod_two_pow,Nat.mul_comm,Nat.testBit_two_pow_mul]
 have:decide (i<w)=true:=by simpa using hi
 rw [this,Bool.true_and]
 by_cases h:b<=i
 ·rw [Nat.min_eq_left (by omega)]
 ·have h1:decide (b<=i)=false:=by simpa using h
  have h2:decide (min b w<=i)=false:=by simp;omega
  simp [h1,h2]
theorem Tw {w a b:Nat} (ha:a<2^w):cR w (fun i=>decide (i+b<w)&&a.testBit (i+b))=WQ w a b:=by
 unfold WQ
 refine jf (Nat.lt_of_le_of_lt (Nat.div_le_self _ _) ha) fun i hi=>?_
 rw [Nat.testBit_div_two_pow]
 by_cases h:i+b<w
 ·rw [Nat.min_eq_left (by omega)];simp [h]
 ·have h1:decide (i+b<w)=false:=by simpa using h
  rw [h1,Bool.false_and]
  refine Nat.testBit_lt_two_pow (Nat.lt_of_lt_of_le ha (Nat.pow_le_pow_right (by omega) ?_))
  omega
theorem T3 {w a b:Nat} (hw:1<=w) (hw16:w<=16) (ha:a<2^w):cR w (fun i=>if i+b<w then a.testBit (i+b)else a.testBit (w-1))=VD w a b:=by
 have hp:=qb hw
 have top:a.testBit (w-1)=decide (2^(w-1)<=a):=by
  rw [Nat.testBit_eq_decide_div_mod_eq]
  by_cases h:2^(w-1)<=a
  ·have:a/2^(w-1)=1:=by
    rw [Nat.div_eq_iff (bG _)];omega
   simp [this,h]
  ·have:a/2^(w-1)=0:=Nat.div_eq_of_lt (by omega)
   simp [this,h]
 have hb:min b w<=w:=Nat.min_le_right _ _
 have small: ∀i,i<w->i+b<w->min b w=b:=fun i _ h=>Nat.min_eq_left (by omega)
 unfold VD
 refine jf (jh _ _) fun i hi=>?_
 by_cases hs:2^(w-1)<=a
 ·--with the sign
  have e1:sgn w a=(a:Int)-((2^w:Nat):Int):=by unfold sgn;rw [if_pos hs]
  have e2:jm w (sgn w a/((2^min b w:Nat):Int))=((a+2^w*(2^16-1))/2^min b w)%2^w:=by
   have h1:sgn w a=((a+2^w*(2^16-1):Nat):Int)-((2^min b w:Nat):Int)*((2^(w+16-min b w):Nat):Int):=by
    have h2:2^min b w*2^(w+16-min b w)=2^w*2^16:=by rw [<-Nat.pow_add,<-Nat.pow_add];congr 1;omega
    rw [e1,<-Int.natCast_mul,h2]
    have:2^w*(2^16-1)+2^w=2^w*2^16:=by rw [<-Nat.mul_succ]
    omega
   have hpos:((2^min b w:Nat):Int)≠0:=by have:=bG (min b w);omega
   have h3:sgn w a/((2^min b w:Nat):Int)=(((a+2^w*(2^16-1))/2^min b w:Nat):Int)-((2^w:Nat):Int)*((2^(16-min b w):Nat):Int):=by
    rw [h1,Int.sub_eq_add_neg,<-Int.mul_neg,Int.add_mul_ediv_left _ _ hpos,<-Int.natCast_ediv]
    have:2^(w+16-min b w)=2^w*2^(16-min b w):=by rw [<-Nat.pow_add];congr 1;omega
    rw [this,Int.natCast_mul];omega
   rw [h3]
   unfold jm
   rw [Int.sub_mul_emod_self_left,<-Int.natCast_emod,Int.toNat_natCast]
  rw [e2,Nat.testBit_mod_two_pow,Nat.testBit_div_two_pow,Nat.add_comm a,Nat.testBit_two_pow_mul_add _ ha]
  have hd:decide (i<w)=true:=by simpa using hi
  rw [hd,Bool.true_and]
  by_cases h:i+b<w
  ·have hm:=small i hi h
   rw [if_pos h,hm,if_pos (by omega)]
  ·have hm: ¬i+min b w<w:=by omega
   rw [if_neg h,if_neg hm,Nat.testBit_two_pow_sub_one,top]
   simp only [hs,decide_true,decide_eq_true_eq]
   omega
 ·have e1:sgn w a=a:=by unfold sgn;rw [if_neg hs]
  rw [e1,<-Int.natCast_ediv,oP,Nat.testBit_mod_two_pow,Nat.testBit_div_two_pow]
  have hd:decide (i<w)=true:=by simpa using hi
  rw [hd,Bool.true_and]
  by_cases h:i+b<w
  ·rw [if_pos h,small i hi h]
  ·rw [if_neg h,top]
   have hm: ¬i+min b w<w:=by omega
   have:decide (2^(w-1)<=a)=false:=by simpa using hs
   rw [this]
   exact Nat.testBit_lt_two_pow (Nat.lt_of_lt_of_le ha (Nat.pow_le_pow_right (by omega) (by omega)))
def GZ (w a k:Nat):Nat:=((a*2^k)|||(a/2^(w-k)))%2^w
theorem WR {w a k i:Nat} (ha:a<2^w) (hk:k<w) (hi:i<w):(GZ w a k).testBit i=a.testBit ((i+(w-k))%w):=by
 unfold GZ
 rw [Nat.testBit_mod_two_pow,Nat.testBit_or,Nat.mul_comm,Nat.testBit_two_pow_mul,Nat.testBit_div_two_pow]
 have hd:decide (i<w)=true:=by simpa using hi
 rw [hd,Bool.true_and]
 by_cases h:k<=i
 ·have e:(i+(w-k))%w=i-k:=by
   have:i+(w-k)=(i-k)+w:=by omega
   rw [this,Nat.add_mod_right,Nat.mod_eq_of_lt (by omega)]
  have z:a.testBit (i+(w-k))=false:=Nat.testBit_lt_two_pow (Nat.lt_of_lt_of_le ha (Nat.pow_le_pow_right (by omega) (by omega)))
  rw [e,z];simp [h]
 ·have e:(i+(w-k))%w=i+(w-k):=Nat.mod_eq_of_lt (by omega)
  rw [e]
  have:decide (k<=i)=false:=by simpa using h
  rw [this];simp
theorem SX {w a k:Nat} (ha:a<2^w) (hk:k<w):cR w (fun j=>a.testBit ((j+(w-k))%w))=GZ w a k:=
 jf (Nat.mod_lt _ (bG w)) fun i hi=>WR ha hk hi
theorem QW {w a k i:Nat} (hk:k<w) (hi:i<w):
  cR w (fun j=>decide ((j+(w-k))%w<i)&&a.testBit ((j+(w-k))%w))+(if a.testBit i then 2^((i+k)%w)else 0)=
   cR w (fun j=>decide ((j+(w-k))%w<i+1)&&a.testBit ((j+(w-k))%w)):=by
 have hpw:(i+k)%w<w:=Nat.mod_lt _ (by omega)
 have back:((i+k)%w+(w-k))%w=i:=by
  rw [Nat.mod_add_mod]
  have:i+k+(w-k)=i+w:=by omega
  rw [this,Nat.add_mod_right,Nat.mod_eq_of_lt hi]
 have inj: ∀j,j<w->((j+(w-k))%w=i↔j=(i+k)%w):=by
  intro j hj
  constructor
  ·intro h
   have:(j+(w-k)+k)%w=(i+k)%w:=by rw [<-h,Nat.mod_add_mod]
   rw [<-this]
   have:j+(w-k)+k=j+w:=by omega
   rw [this,Nat.add_mod_right,Nat.mod_eq_of_lt hj]
  ·rintro rfl;exact back
 cases hb:a.testBit i with
 |false=>
  simp only [Bool.false_eq_true,if_false,Nat.add_zero]
  refine rq fun j hj=>?_
  by_cases h:(j+(w-k))%w=i
  ·rw [h,hb];simp
  ·have:decide ((j+(w-k))%w<i+1)=decide ((j+(w-k))%w<i):=by
    rw [decide_eq_decide];omega
   rw [this]
 |true=>
  simp only [if_true]
  rw [Nm hpw (by rw [back];simp)]
  refine rq fun j hj=>?_
  by_cases h:j=(i+k)%w
  ·have h2:=(inj j hj).2 h
   rw [h2,hb];simp [h]
  ·have h2: ¬(j+(w-k))%w=i:=fun e=>h ((inj j hj).1 e)
   have:decide ((j+(w-k))%w<i+1)=decide ((j+(w-k))%w<i):=by
    rw [decide_eq_decide];omega
   rw [this];simp [h]
def xn (kind:Int) (w a:Nat):Nat×Nat:=
 if kind=1 then(2^w-1-a,w)else if kind=2 then(jm w (-(a:Int)),w)else if kind=3 then(if a=0 then 0 else 1,1)else
 if kind=4 then(if a=2^w-1 then 1 else 0,1)else(jx w a%2,1)
def I6 (w a b:Nat):Nat:=if sgn w b=0 then(if sgn w a<0 then 1 else 2^w-1)else jm w (Int.tdiv (sgn w a) (sgn w b))
def IX (w a b:Nat):Nat:=if sgn w b=0 then a else jm w (Int.tmod (sgn w a) (sgn w b))
def Dk (kind:Int) (w a b:Nat):Bool:=
 if kind=21 then decide (a=b)else if kind=22 then decide (a<b)else if kind=23 then decide (sgn w a<sgn w b)else
 if kind=24 then decide (a<=b)else if kind=25 then decide (sgn w a<=sgn w b)else if kind=26 then decide (2^w<=a+b)else
 if kind=27 then !decide (-((2^(w-1):Nat):Int)<=sgn w a+sgn w b/\sgn w a+sgn w b<((2^(w-1):Nat):Int))else decide (2^w<=a*b)
def Gr (kind:Int) (w a b:Nat):Nat:=
 if kind=6 then a&&&b else if kind=7 then a|||b else if kind=8 then a^^^b else if kind=9 then jm w ((a:Int)+b)else
 if kind=10 then jm w ((a:Int)-b)else if kind=11 then jm w ((a:Int)*b)else if kind=12 then(if b=0 then 2^w-1 else a/b)else
 if kind=13 then(if b=0 then a else a%b)else if kind=14 then I6 w a b else if kind=15 then IX w a b else
 if kind=16 then W1 w a b else if kind=17 then WQ w a b else if kind=18 then VD w a b else if kind=19 then GZ w a (b%w)else GZ w a ((w-b%w)%w)
def rj (kind:Int) (w a b:Nat):Nat×Nat:=if kind<=20 then(Gr kind w a b,w)else(if Dk kind w a b then 1 else 0,1)
theorem Wt {kind:Int} {w a:Nat} (hw:1<=w) (ha:a<2^w):(xn kind w a).1<2^(xn kind w a).2:=by
 have:=bG w
 unfold xn
 split
 ·simp only;omega
 ·split
  ·exact jh _ _
  ·split
   ·simp only;split<;>omega
   ·split
    ·simp only;split<;>omega
    ·simp only;omega
theorem O7 (w a k:Nat):GZ w a k<2^w:=Nat.mod_lt _ (bG w)
theorem jI {c:Prop} [Decidable c] {x y n:Nat} (hx:x<n) (hy:y<n):(if c then x else y)<n:=by
 by_cases h:c
 ·rw [if_pos h];exact hx
 ·rw [if_neg h];exact hy
theorem TJ {kind:Int} {w a b:Nat} (hw:1<=w) (ha:a<2^w) (hb:b<2^w):Gr kind w a b<2^w:=by
 have hp:=bG w
 have hp1:1<2^w:=by
  have:=qb hw;have:=bG (w-1);omega
 unfold Gr
 refine jI (Nat.lt_of_le_of_lt Nat.and_le_left ha) (jI (Nat.or_lt_two_pow ha hb) (jI (Nat.xor_lt_two_pow ha hb) (jI (jh _ _) (jI (jh _ _) (jI (jh _ _)
  (jI (jI (by omega) (Nat.lt_of_le_of_lt (Nat.div_le_self _ _) ha)) (jI (jI ha (Nat.lt_of_le_of_lt (Nat.mod_le _ _) ha)) (jI ?_ (jI ?_ (jI (Nat.mod_lt _ hp)
  (jI (Nat.lt_of_le_of_lt (Nat.div_le_self _ _) ha) (jI (jh _ _) (jI (O7 _ _ _) (O7 _ _ _))))))))))))))
 ·unfold I6
  exact jI (jI hp1 (by omega)) (jh _ _)
 ·unfold IX
  exact jI ha (jh _ _)
theorem V1 {kind:Int} {w a b:Nat} (hw:1<=w) (ha:a<2^w) (hb:b<2^w):(rj kind w a b).1<2^(rj kind w a b).2:=by
 unfold rj
 split
 ·exact TJ hw ha hb
 ·simp only;split<;>omega
theorem ZZ {w a b:Nat} (hw:1<=w):(sgn w (jm w (sgn w a+sgn w b))≠sgn w a+sgn w b)↔ ¬(-((2^(w-1):Nat):Int)<=sgn w a+sgn w b/\sgn w a+sgn w b<((2^(w-1):Nat):Int)):=by
 rw [ne_eq,Ty hw]
structure SortP where
 idx:Int
 wid:Int
 deriving DecidableEq
structure NodeP where
 kind:Int
 a:Int
 b:Int
 c:Int
 n:Int
 m:Int
 sort:SortP
 name:ByteArray
structure BindP where
 state:Int
 node:Int
 deriving DecidableEq
structure ai where
 nodes:List NodeP
 inits:List BindP
 nexts:List BindP
 bads:List Int
 holds:List Int
def bQ (s:SortP):Bool:=decide ((0<=s.idx/\s.idx<=2)/\(1<=s.wid/\s.wid<=16))
def cL (s:SortP):Nat:=if bQ s then 2^s.idx.toNat else 0
def dH (s:SortP):Nat:=cL s*s.wid.toNat
def cy (w:Int):SortP:=⟨0,w⟩
def ar (kind:Int):Int:=
 if(1<=kind/\kind<=5)\/(30<=kind/\kind<=32)then 1 else if(6<=kind/\kind<=29)\/kind=37 then 2 else if kind=33\/kind=38 then 3 else
 if 34<=kind/\kind<=36 then 0 else-1
def gq (c:UInt8):Bool:=decide (97<=c.toNat/\c.toNat<=122)
def mV (c:UInt8):Bool:=decide (48<=c.toNat/\c.toNat<=57)
def fL (s:ByteArray):Bool:=decide (1<=s.size/\s.size<=8)&&(match s.data.toList with| []=>false|c::r=>gq c&&r.all fun c=>gq c||mV c)
def fE (kind:Int):Bool:=decide (kind=35\/kind=36)
def qF (k:Int) (len:Nat) (i:Int) (p:Int):Bool:=if i<k then decide (0<=p/\p<=(len:Int)-1)else decide (p=0)
def eW (len:Nat) (n:NodeP):Bool:=
 decide (0<=ar n.kind)&&(qF (ar n.kind) len 0 n.a&&qF (ar n.kind) len 1 n.b&&qF (ar n.kind) len 2 n.c)&&
 (if fE n.kind then fL n.name else decide (n.name.size=0))&&(decide (n.kind=30)||decide (n.m=0))&&
 (decide (n.kind=30\/n.kind=31\/n.kind=32\/n.kind=34)||decide (n.n=0))
def iG (w v:Int):Bool:=decide ((1<=w/\w<=16)/\0<=v/\v<=((2^w.toNat:Nat):Int)-1)
def de (n:NodeP) (a b c:SortP):Option SortP:=
 if n.kind=33 then(if a=cy 1/\b=c then some b else none)else
 if n.kind=37 then(if 0<a.idx/\b=cy a.idx then some (cy a.wid)else none)else
 if n.kind=38 then(if 0<a.idx/\b=cy a.idx/\c=cy a.wid then some a else none)else
 if n.kind=21 then(if a=b then some (cy 1)else none)else
 if 0<a.idx\/(ar n.kind=2/\0<b.idx)then none else
 if n.kind=29 then(if a.wid+b.wid<=16 then some (cy (a.wid+b.wid))else none)else
 if n.kind=30 then(if(0<=n.n/\n.n<=a.wid-1)/\0<=n.m/\n.m<=n.n then some (cy (n.n-n.m+1))else none)else
 if n.kind=31\/n.kind=32 then(if 0<=n.n/\n.n<=16-a.wid then some (cy (a.wid+n.n))else none)else
 if n.kind<=5 then some (cy (if n.kind<=2 then a.wid else 1))else
 if a=b then some (cy (if n.kind<=20 then a.wid else 1))else none
def aE (l:List NodeP) (p:Int):SortP:=match l[p.toNat]? with|some n=>n.sort|none=>⟨0,0⟩
def cQ (l:List NodeP) (n:NodeP):Option SortP:=
 if l.length<=60/\eW l.length n=true then
  (if ar n.kind=0 then(if(if n.kind=34 then decide (n.sort.idx=0)&&iG n.sort.wid n.n else bQ n.sort)then some n.sort else none)else
   if bQ (aE l n.a)&&((decide (ar n.kind<2)||bQ (aE l n.b))&&(decide (ar n.kind<3)||bQ (aE l n.c)))then
    de n (aE l n.a) (aE l n.b) (aE l n.c)else none)
 else none
def cm (l:List NodeP):Bool:=(List.range l.length).all fun i=>match l[i]? with|some n=>decide (cQ (l.take i) n=some n.sort)|none=>true
def jE {α:Type} [DecidableEq α] (l:List α):Bool:=(List.range l.length).any fun i=>match l[i]? with|some x=>(l.take i).any fun y=>decide (y=x)|none=>false
def k4 (l:List NodeP):Bool:=(List.range l.length).any fun i=>match l[i]? with|some n=>decide (n.name.size≠0)&&(l.take i).any fun y=>decide (y.name=n.name)|none=>false
def tC (m:ai):Bool:=k4 m.nodes||(jE (m.inits.map (·.state))||jE (m.nexts.map (·.state)))
def dE (l:List NodeP):Nat->List Bool
 |0=> []
 |i+1=>dE l i++ [match l[i]? with
   |some n=>fE n.kind||((decide (0<ar n.kind)&&(dE l i).getD n.a.toNat false)||((decide (1<ar n.kind)&&(dE l i).getD n.b.toNat false)||(decide (2<ar n.kind)&&(dE l i).getD n.c.toNat false)))
   |none=>false]
def cW (l:List NodeP) (p:Int):Bool:=decide (0<=p/\p<=(l.length:Int)-1)
def jA (l:List NodeP) (p:Int):Int:=match l[p.toNat]? with|some n=>n.kind|none=>0
def ir (l:List NodeP) (b:BindP):Bool:=
 (cW l b.state&&cW l b.node&&decide (jA l b.state=36))&&((decide (aE l b.state=aE l b.node)||decide (aE l b.node=cy (aE l b.state).wid))&& !(dE l l.length).getD b.node.toNat false)
def fy (l:List NodeP) (b:BindP):Bool:=(cW l b.state&&cW l b.node&&decide (jA l b.state=36))&&decide (aE l b.state=aE l b.node)
def dV (l:List NodeP) (p:Int):Bool:=cW l p&&decide (aE l p=cy 1)
def ak (l:List NodeP) (kind:Int):Nat:=((l.filter fun n=>decide (n.kind=kind)).map fun n=>dH n.sort).sum
def aU (l:List NodeP) (kind:Int):List Nat:=(List.range l.length).filter fun i=>match l[i]? with|some n=>decide (n.kind=kind)|none=>false
def ax (m:ai):Int:=
 if 60<m.nodes.length\/60<m.inits.length\/60<m.nexts.length\/4<m.bads.length\/4<m.holds.length then 1 else
 if cm m.nodes=false then 2 else if tC m=true then 3 else
 if(m.inits.all (ir m.nodes)&&m.nexts.all (fy m.nodes))=false then 4 else
 if(m.bads.all (dV m.nodes)&&m.holds.all (dV m.nodes))=false then 5 else
 if 8<ak m.nodes 36\/5<ak m.nodes 35 then 6 else 0
def cU (v:List (List Nat)) (p:Int):Nat:=(v.getD p.toNat []).getD 0 0
def OM (a lo n:Nat):Nat:=a/2^lo%2^n
def GW (w a more:Nat) (signed:Bool):Nat:=if signed then jm (w+more) (sgn w a)else a
def gP (l:List NodeP) (n:NodeP) (v:List (List Nat)):List Nat:=
 if n.kind=34 then [n.n.toNat]else
 if n.kind=33 then(if cU v n.a=1 then v.getD n.b.toNat []else v.getD n.c.toNat [])else
 if n.kind=21 then [if v.getD n.a.toNat []=v.getD n.b.toNat []then 1 else 0]else
 if n.kind=37 then [(v.getD n.a.toNat []).getD (cU v n.b) 0]else
 if n.kind=38 then(v.getD n.a.toNat []).set (cU v n.b) (cU v n.c)else
 if n.kind=29 then [cU v n.a*2^(aE l n.b).wid.toNat+cU v n.b]else
 if n.kind=30 then [OM (cU v n.a) n.m.toNat (n.n-n.m+1).toNat]else
 if n.kind=31\/n.kind=32 then [GW (aE l n.a).wid.toNat (cU v n.a) n.n.toNat (decide (n.kind=32))]else
 if ar n.kind=1 then [(xn n.kind (aE l n.a).wid.toNat (cU v n.a)).1]else [(rj n.kind (aE l n.a).wid.toNat (cU v n.a) (cU v n.b)).1]
def gT (l:List NodeP) (s inp:List (List Nat)):Nat->List (List Nat)
 |0=> []
 |i+1=>gT l s inp i++ [match l[i]? with
   |some n=>if n.kind=36 then s.getD (aU (l.take i) 36).length []else if n.kind=35 then inp.getD (aU (l.take i) 35).length []else gP l n (gT l s inp i)
   |none=> []]
def rz (n:NodeP):List Nat:=([n.a.toNat,n.b.toNat,n.c.toNat]).take (ar n.kind).toNat
theorem uO (k:Int):ar k=0\/ar k=1\/ar k=2\/ar k=3\/ar k= -1:=by
 unfold ar
 by_cases h1:(1<=k/\k<=5)\/(30<=k/\k<=32)
 ·rw [if_pos h1];simp
 rw [if_neg h1]
 by_cases h2:(6<=k/\k<=29)\/k=37
 ·rw [if_pos h2];simp
 rw [if_neg h2]
 by_cases h3:k=33\/k=38
 ·rw [if_pos h3];simp
 rw [if_neg h3]
 by_cases h4:34<=k/\k<=36
 ·rw [if_pos h4];simp
 rw [if_neg h4];simp
def Lm (l:List NodeP):Prop:= ∀(i:Nat) (n:NodeP),l[i]?=some n->0<=ar n.kind/\ ∀p∈rz n,p<i
def qT (l:List NodeP) (j:Nat):Bool:=match l[j]? with|some n=>fE n.kind|none=>false
def rX (l:List NodeP) (j:Nat):Bool:=(dE l l.length).getD j false
theorem ig (l:List NodeP): ∀i,(dE l i).length=i:=by
 intro i
 induction i with
 |zero=>rfl
 |succ i ih=>simp only [dE,List.length_append,ih,List.length_cons,List.length_nil]
theorem RP (l:List NodeP): ∀d i j,j<i->(dE l (i+d)).getD j false=(dE l i).getD j false:=by
 intro d
 induction d with
 |zero=>intro i j _;rfl
 |succ d ih=>
  intro i j hj
  rw [<-Nat.add_assoc]
  simp only [dE]
  have hl:=ig l (i+d)
  rw [List.getD,List.getElem?_append_left (by omega)]
  exact ih i j hj
theorem rA {l:List NodeP} {i j:Nat} (hj:j<i) (hi:i<=l.length):(dE l i).getD j false=rX l j:=by
 have:=RP l (l.length-i) i j hj
 rw [show i+(l.length-i)=l.length by omega]at this
 exact this.symm
theorem UN {l:List NodeP} (ha:Lm l) {i:Nat} {n:NodeP} (hn:l[i]?=some n):rX l i=true↔fE n.kind=true\/ ∃p∈rz n,rX l p=true:=by
 have hi:i<l.length:=(List.getElem?_eq_some_iff.1 hn).1
 obtain⟨hk,hp⟩:=ha i n hn
 have e:rX l i=(fE n.kind||((decide (0<ar n.kind)&&(dE l i).getD n.a.toNat false)||((decide (1<ar n.kind)&&(dE l i).getD n.b.toNat false)||(decide (2<ar n.kind)&&(dE l i).getD n.c.toNat false)))):=by
  rw [<-rA (Nat.lt_succ_self i) hi]
  simp only [dE]
  have hl:=ig l i
  rw [List.getD,List.getElem?_append_right (by omega),hl,Nat.sub_self]
  simp only [hn,List.getElem?_cons_zero,Option.getD_some]
 rw [e]
 unfold rz at hp⊢
 rcases uO n.kind with h|h|h|h|h
 ·simp [h]
 ·rw [h]at hp⊢
  have h1:=hp n.a.toNat (by simp)
  rw [rA h1 (by omega)]
  simp
 ·rw [h]at hp⊢
  have h1:=hp n.a.toNat (by simp)
  have h2:=hp n.b.toNat (by simp)
  rw [rA h1 (by omega),rA h2 (by omega)]
  simp
 ·rw [h]at hp⊢
  have h1:=hp n.a.toNat (by simp)
  have h2:=hp n.b.toNat (by simp)
  have h3:=hp n.c.toNat (by simp)
  rw [rA h1 (by omega),rA h2 (by omega),rA h3 (by omega)]
  simp
 ·omega
def tZ (l:List NodeP):Nat->(Nat->Bool)->Nat->Bool
 |0,S=>S
 |i+1,S=>tZ l i (if S i then fun j=>S j||(match l[i]? with|some n=>(rz n).contains j|none=>false)else S)
theorem RD {l:List NodeP} (ha:Lm l): ∀(i:Nat) (S:Nat->Bool),i<=l.length->
  ((∃j,tZ l i S j=true/\qT l j=true)↔(∃j,i<=j/\S j=true/\qT l j=true)\/ ∃j,j<i/\S j=true/\rX l j=true):=by
 intro i
 induction i with
 |zero=>intro S _;simp [tZ]
 |succ i ih=>
  intro S hi
  simp only [tZ]
  rw [ih _ (by omega)]
  obtain⟨n,hn⟩: ∃n,l[i]?=some n:=⟨l[i],List.getElem?_eq_getElem (by omega)⟩
  have hm:=UN ha hn
  have hp:=(ha i n hn).2
  have hnm:qT l i=fE n.kind:=by unfold qT;rw [hn]
  by_cases hS:S i=true
  ·simp only [hS,if_true,hn]
   constructor
   ·rintro (⟨j,h1,h2,h3⟩|⟨j,h1,h2,h3⟩)
    ·by_cases hji:j=i
     ·subst hji
      exact .inr ⟨j,by omega,hS,hm.2 (.inl (hnm▸h3))⟩
     ·rcases Bool.or_eq_true_iff.1 h2 with h2|h2
      ·exact .inl ⟨j,by omega,h2,h3⟩
      ·have:=hp j (by simpa using h2);omega
    ·rcases Bool.or_eq_true_iff.1 h2 with h2|h2
     ·exact .inr ⟨j,by omega,h2,h3⟩
     ·exact .inr ⟨i,by omega,hS,hm.2 (.inr ⟨j,by simpa using h2,h3⟩)⟩
   ·rintro (⟨j,h1,h2,h3⟩|⟨j,h1,h2,h3⟩)
    ·exact .inl ⟨j,by omega,by simp [h2],h3⟩
    ·by_cases hji:j=i
     ·subst hji
      rcases hm.1 h3 with h4|⟨p,hp1,hp2⟩
      ·exact .inl ⟨j,Nat.le_refl _,by simp [hS],hnm▸h4⟩
      ·exact .inr ⟨p,hp p hp1,by simp [hp1],hp2⟩
     ·exact .inr ⟨j,by omega,by simp [h2],h3⟩
  ·simp only [hS,if_false]
   constructor
   ·rintro (⟨j,h1,h2,h3⟩|⟨j,h1,h2,h3⟩)
    ·by_cases hji:j=i
     ·subst hji;exact absurd h2 hS
     ·exact .inl ⟨j,by omega,h2,h3⟩
    ·exact .inr ⟨j,by omega,h2,h3⟩
   ·rintro (⟨j,h1,h2,h3⟩|⟨j,h1,h2,h3⟩)
    ·exact .inl ⟨j,by omega,h2,h3⟩
    ·by_cases hji:j=i
     ·subst hji;exact absurd h2 hS
     ·exact .inr ⟨j,by omega,h2,h3⟩
theorem Wz {l:List NodeP} (ha:Lm l) {i:Nat} (hi:i<l.length):(∃j,tZ l (i+1) (fun j=>decide (j=i)) j=true/\qT l j=true)↔rX l i=true:=by
 rw [RD ha _ _ (by omega)]
 constructor
 ·rintro (⟨j,h1,h2,h3⟩|⟨j,h1,h2,h3⟩)
  ·simp at h2;omega
  ·simp at h2;subst h2;exact h3
 ·intro h;exact .inr ⟨i,by omega,by simp,h⟩
theorem Wp {l:List NodeP} (ha:Lm l) (k:Nat): ∀(i:Nat) (S:Nat->Bool),i<=k+1->i<=l.length->(∀j,S j=true->j<=k)-> ∀j,tZ l i S j=true->j<=k:=by
 intro i
 induction i with
 |zero=>intro S _ _ hS j hj;exact hS j hj
 |succ i ih=>
  intro S hk hi hS j hj
  simp only [tZ]at hj
  refine ih _ (by omega) (by omega) ?_ j hj
  intro j' hj'
  split at hj'
  ·rcases Bool.or_eq_true_iff.1 hj' with h|h
   ·exact hS j' h
   ·obtain⟨n,hn⟩: ∃n,l[i]?=some n:=⟨l[i],List.getElem?_eq_getElem (by omega)⟩
    rw [hn]at h
    have:=(ha i n hn).2 j' (by simpa using h)
    omega
  ·exact hS j' hj'
def kZ (w:Nat):Nat->Nat->List Nat
 |0,_=> []
 |c+1,code=>kZ w c code++ [code/2^(w*c)%2^w]
def cc (l:List NodeP) (p:Nat):Nat:=(aE l p).wid.toNat
def aK (l:List NodeP) (p:Nat):Nat:=cL (aE l p)
def cw (l:List NodeP) (ps:List Nat):Nat:=(ps.map fun p=>cc l p*aK l p).sum
def gj (l:List NodeP) (ps:List Nat) (code:Nat):List (List Nat):=
 (List.range ps.length).map fun i=>kZ (cc l (ps.getD i 0)) (aK l (ps.getD i 0)) (code/2^cw l (ps.take i))
theorem pZ (w c code:Nat):(kZ w c code).length=c:=by
 induction c with
 |zero=>rfl
 |succ c ih=>simp only [kZ,List.length_append,ih,List.length_cons,List.length_nil]
theorem PO {w c code x:Nat} (h:x∈kZ w c code):x<2^w:=by
 induction c with
 |zero=>cases h
 |succ c ih=>
  simp only [kZ,List.mem_append,List.mem_singleton]at h
  rcases h with h|h
  ·exact ih h
  ·subst h;exact Nat.mod_lt _ (bG w)
theorem kA (l:List NodeP) (ps:List Nat) (code:Nat):(gj l ps code).length=ps.length:=by simp [gj]
theorem PM {α:Type} {l:List α} {i:Nat} {x:α} (h:l[i]?=some x):i<l.length:=by
 rcases Nat.lt_or_ge i l.length with h'|h'
 ·exact h'
 ·rw [List.getElem?_eq_none h']at h;cases h
theorem Fl {l:List NodeP} {ps:List Nat} {code i p:Nat} (h:ps[i]?=some p):(gj l ps code).getD i []=kZ (cc l p) (aK l p) (code/2^cw l (ps.take i)):=by
 have hlt:=PM h
 have hp:ps.getD i 0=p:=by rw [List.getD_eq_getElem?_getD,h];rfl
 unfold gj
 rw [List.getD_eq_getElem?_getD,List.getElem?_map,List.getElem?_range hlt]
 simp only [Option.map_some,Option.getD_some,hp]
theorem mL {l:List NodeP} {ps:List Nat} {i p:Nat} (h:ps[i]?=some p):cw l (ps.take (i+1))=cw l (ps.take i)+cc l p*aK l p:=by
 have hlt:=PM h
 rw [List.getElem?_eq_getElem hlt]at h
 unfold cw
 rw [List.take_succ_eq_append_getElem hlt,Option.some.inj h,List.map_append,List.sum_append];simp
theorem EZ (l:List NodeP) (ps:List Nat) (i:Nat):cw l (ps.take i)<=cw l ps:=by
 conv=>rhs;rw [<-List.take_append_drop i ps]
 unfold cw
 rw [List.map_append,List.sum_append];omega
def fz (w:Nat):List Nat->Nat
 | []=>0
 |x::xs=>x+2^w*fz w xs
theorem xz {w:Nat}: ∀{xs:List Nat},(∀x∈xs,x<2^w)->fz w xs<2^(w*xs.length):=by
 intro xs
 induction xs with
 |nil=>intro _;simp [fz]
 |cons x xs ih=>
  intro h
  have h1:=ih fun y hy=>h y (by simp [hy])
  have h2:=h x (by simp)
  simp only [fz,List.length_cons]
  rw [Nat.mul_add,Nat.mul_one,Nat.pow_add,Nat.mul_comm (2^(w*xs.length))]
  have h3:=Nat.mul_le_mul_left (2^w) (Nat.succ_le_of_lt h1)
  rw [Nat.succ_eq_add_one,Nat.mul_add,Nat.mul_one]at h3
  omega
theorem Ff (w:Nat) (xs:List Nat) (x:Nat):fz w (xs++ [x])=fz w xs+2^(w*xs.length)*x:=by
 induction xs with
 |nil=>simp [fz]
 |cons y ys ih=>
  simp only [List.cons_append,fz,ih,List.length_cons]
  rw [Nat.mul_add,<-Nat.add_assoc]
  congr 1
  rw [Nat.mul_add w,Nat.mul_one,Nat.add_comm (w*ys.length),Nat.pow_add,Nat.mul_assoc]
theorem G1 (w:Nat) (code k:Nat): ∀c,c<=k->kZ w c (code%2^(w*k))=kZ w c code:=by
 intro c
 induction c with
 |zero=>intro _;rfl
 |succ c ih=>
  intro h
  simp only [kZ,ih (by omega)]
  congr 2
  have hk:w*k=w*c+(w+w*(k-c-1)):=by
   have:k=c+(1+(k-c-1)):=by omega
   conv=>lhs;rw [this]
   simp only [Nat.mul_add,Nat.mul_one]
  rw [hk,Nat.pow_add,Nat.mod_mul_right_div_self,Nat.pow_add,Nat.mod_mul_right_mod]
theorem Q3 {w:Nat}: ∀{xs:List Nat} {k:Nat},(∀x∈xs,x<2^w)->k<xs.length->fz w xs/2^(w*k)%2^w=xs.getD k 0:=by
 intro xs
 induction xs with
 |nil=>intro k _ h;simp at h
 |cons x xs ih=>
  intro k h hk
  have hx:=h x (by simp)
  have hp:=bG w
  cases k with
  |zero=>
   simp only [fz,Nat.mul_zero,Nat.pow_zero,Nat.div_one,List.getD_cons_zero]
   rw [Nat.add_mul_mod_self_left,Nat.mod_eq_of_lt hx]
  |succ k=>
   rw [List.getD_cons_succ,<-ih (fun y hy=>h y (by simp [hy])) (by simpa using hk)]
   simp only [fz]
   rw [Nat.mul_add,Nat.mul_one,Nat.add_comm (w*k),Nat.pow_add,<-Nat.div_div_eq_div_mul,Nat.add_mul_div_left _ _ hp,Nat.div_eq_of_lt hx,Nat.zero_add]
theorem Ct {w:Nat} {xs:List Nat} (h: ∀x∈xs,x<2^w):kZ w xs.length (fz w xs)=xs:=by
 have key: ∀c,c<=xs.length->kZ w c (fz w xs)=xs.take c:=by
  intro c
  induction c with
  |zero=>intro _;rfl
  |succ c ih=>
   intro hc
   rw [kZ,ih (by omega),Q3 h (by omega),List.take_succ_eq_append_getElem (by omega),List.getD_eq_getElem?_getD,List.getElem?_eq_getElem (by omega)];rfl
 have:=key xs.length (Nat.le_refl _)
 rwa [List.take_length]at this
def nbA (l:List NodeP) (p:Nat):Nat:=cc l p*aK l p
def Ck (l:List NodeP):List Nat->Nat->List (List Nat)
 | [],_=> []
 |p::ps,code=>kZ (cc l p) (aK l p) code::Ck l ps (code/2^nbA l p)
def dZ (l:List NodeP):List Nat->List (List Nat)->Nat
 | [],_=>0
 |p::ps,vs=>fz (cc l p) (vs.headD [])+2^nbA l p*dZ l ps vs.tail
def mA (l:List NodeP):List Nat->List (List Nat)->Prop
 | [],vs=>vs= []
 |p::ps,vs=> ∃v r,vs=v::r/\v.length=aK l p/\(∀x∈v,x<2^cc l p)/\mA l ps r
theorem oZ (l:List NodeP) (p:Nat) (ps:List Nat):cw l (p::ps)=nbA l p+cw l ps:=by simp [cw,nbA]
theorem sJ (l:List NodeP): ∀(ps:List Nat) (code:Nat),gj l ps code=Ck l ps code:=by
 intro ps
 induction ps with
 |nil=>intro code;simp [gj,Ck]
 |cons p ps ih=>
  intro code
  rw [Ck,<-ih]
  unfold gj
  rw [List.length_cons,List.range_succ_eq_map,List.map_cons,List.map_map]
  simp only [List.getD_cons_zero,List.take_zero,cw,List.map_nil,List.sum_nil,Nat.pow_zero,Nat.div_one,List.cons.injEq,true_and]
  apply List.map_congr_left
  intro i _
  simp only [Function.comp,List.getD_cons_succ,List.take_succ_cons,List.map_cons,List.sum_cons,nbA]
  rw [Nat.pow_add,Nat.div_div_eq_div_mul]
theorem My (l:List NodeP): ∀(ps:List Nat) (code:Nat),mA l ps (Ck l ps code):=by
 intro ps
 induction ps with
 |nil=>intro code;rfl
 |cons p ps ih=>exact fun code=>⟨_,_,rfl,pZ _ _ _,fun x hx=>PO hx,ih _⟩
theorem Ax {l:List NodeP}: ∀{ps:List Nat} {vs:List (List Nat)},mA l ps vs->dZ l ps vs<2^cw l ps:=by
 intro ps
 induction ps with
 |nil=>intro vs _;simp [dZ,cw]
 |cons p ps ih=>
  rintro _ ⟨v,r,rfl,h1,h2,h3⟩
  have h4:=ih h3
  have h5:=xz h2
  rw [h1]at h5
  have h5':fz (cc l p) v<2^nbA l p:=h5
  simp only [dZ,List.headD_cons,List.tail_cons]
  rw [oZ,Nat.pow_add]
  have h6:=Nat.mul_le_mul_left (2^nbA l p) (Nat.succ_le_of_lt h4)
  rw [Nat.succ_eq_add_one,Nat.mul_add,Nat.mul_one]at h6
  omega
theorem yl {l:List NodeP}: ∀{ps:List Nat} {vs:List (List Nat)},mA l ps vs->Ck l ps (dZ l ps vs)=vs:=by
 intro ps
 induction ps with
 |nil=>rintro vs rfl;rfl
 |cons p ps ih=>
  rintro _ ⟨v,r,rfl,h1,h2,h3⟩
  have h5:=xz h2
  rw [h1]at h5
  have h5':fz (cc l p) v<2^nbA l p:=h5
  simp only [Ck,dZ,List.headD_cons,List.tail_cons]
  rw [Nat.add_mul_div_left _ _ (bG _),Nat.div_eq_of_lt h5',Nat.zero_add,ih h3,<-G1 _ _ _ _ (Nat.le_refl _)]
  have:(fz (cc l p) v+2^nbA l p*dZ l ps r)%2^(cc l p*aK l p)=fz (cc l p) v:=by
   show _%2^nbA l p=_
   rw [Nat.add_mul_mod_self_left,Nat.mod_eq_of_lt h5']
  rw [this,<-h1,Ct h2]
theorem nv {l:List NodeP}: ∀{ps:List Nat} {vs:List (List Nat)},mA l ps vs->vs.length=ps.length:=by
 intro ps
 induction ps with
 |nil=>rintro vs rfl;rfl
 |cons p ps ih=>rintro _ ⟨v,r,rfl,h1,h2,h3⟩;simp [ih h3]
theorem Np {l:List NodeP}: ∀{ps:List Nat} {vs:List (List Nat)} {p:Nat} {v:List Nat},vs.length=ps.length->
  dZ l (ps++ [p]) (vs++ [v])=dZ l ps vs+2^cw l ps*fz (cc l p) v:=by
 intro ps
 induction ps with
 |nil=>
  intro vs p v h
  obtain rfl:vs= []:=List.eq_nil_of_length_eq_zero (by simpa using h)
  simp [dZ,cw]
 |cons q ps ih=>
  intro vs p v h
  obtain⟨u,r,rfl⟩: ∃u r,vs=u::r:=by
   cases vs with
   |nil=>simp at h
   |cons u r=>exact⟨u,r,rfl⟩
  simp only [List.cons_append,dZ,List.headD_cons,List.tail_cons]
  rw [ih (by simpa using h),oZ,Nat.pow_add,Nat.mul_add,Nat.mul_assoc,Nat.add_assoc]
theorem Qd {l:List NodeP}: ∀{ps:List Nat} {vs:List (List Nat)},mA l ps vs-> ∀i,mA l (ps.take i) (vs.take i):=by
 intro ps
 induction ps with
 |nil=>rintro vs rfl i;simp [mA]
 |cons p ps ih=>
  rintro _ ⟨v,r,rfl,h1,h2,h3⟩ i
  cases i with
  |zero=>rfl
  |succ i=>exact⟨v,r.take i,rfl,h1,h2,ih h3 i⟩
theorem qa {l:List NodeP}: ∀{ps:List Nat} {vs:List (List Nat)},mA l ps vs-> ∀{i p:Nat},ps[i]?=some p->(vs.getD i []).length=aK l p/\ ∀x∈vs.getD i [],x<2^cc l p:=by
 intro ps
 induction ps with
 |nil=>rintro vs rfl i p h;simp at h
 |cons q ps ih=>
  rintro _ ⟨v,r,rfl,h1,h2,h3⟩ i p h
  cases i with
  |zero=>simp at h;subst h;exact⟨h1,h2⟩
  |succ i=>exact ih h3 (by simpa using h)
def ce (binds:List BindP) (p:Nat):Option Nat:=(binds.find? fun b=>decide (b.state=(p:Int))).map (·.node.toNat)
def kJ (l:List NodeP) (f:Nat->Option (List Nat)) (ps:List Nat):List (List Nat):=ps.map fun p=>(f p).getD (List.replicate (aK l p) 0)
theorem CD {l:List NodeP} {f:Nat->Option (List Nat)} {ps:List Nat} (h: ∀p∈ps,∀v,f p=some v->v.length=aK l p/\ ∀x∈v,x<2^cc l p):mA l ps (kJ l f ps):=by
 induction ps with
 |nil=>rfl
 |cons p ps ih=>
  refine⟨_,_,rfl,?_,?_,ih fun q hq=>h q (by simp [hq])⟩
  ·show ((f p).getD (List.replicate (aK l p) 0)).length=_
   cases hv:f p with
   |none=>simp
   |some v=>exact(h p (by simp) v hv).1
  ·show∀x∈(f p).getD (List.replicate (aK l p) 0),_
   cases hv:f p with
   |none=>
    intro x hx
    simp at hx
    rw [hx.2];exact bG _
   |some v=>exact(h p (by simp) v hv).2
def mU (n:Nat) (p:Nat->Bool):Bool:=(List.range n).any p
structure aC where
 n:Nat
 k:Nat
 hold:Nat->Bool
 bad:Nat->Bool
 next:Nat->Nat
 fixed:Nat
 bfix:Nat
 bas:Nat
namespace aC
def begins (σ:aC) (s:Nat):Bool:=decide (s&&&σ.bfix=σ.bas)
def ends (σ:aC) (c:Nat):Bool:=σ.hold c&&σ.bad c
def goes (σ:aC) (c t:Nat):Bool:=decide (t&&&σ.fixed=σ.next c)
def at_ (σ:aC) (s i:Nat):Nat:=i*2^σ.n+s
def some_ (σ:aC) (f:Nat->Nat->Bool) (s:Nat):Bool:=mU (2^σ.k) fun i=>f s (σ.at_ s i)
def leads (σ:aC) (S:Nat->Bool) (c:Nat):Bool:=mU (2^σ.n) fun t=>S t&&σ.goes c t
def fwd (σ:aC) (p S:Nat->Bool) (t:Nat):Bool:=mU (2^(σ.n+σ.k)) fun c=>(S (c%2^σ.n)&&p c)&&σ.goes c t
def bwd (σ:aC) (p S:Nat->Bool):Nat->Bool:=σ.some_ fun _ c=>p c&&σ.leads S c
def lay (σ:aC):Nat->(Nat->Bool)×(Nat->Bool)
 |0=>(σ.begins,fun _=>false)
 |i+1=>(fun t=>σ.fwd σ.hold (σ.lay i).1 t&& !((σ.lay i).2 t||(σ.lay i).1 t),fun t=>(σ.lay i).2 t||(σ.lay i).1 t)
def front (σ:aC) (i:Nat):Nat->Bool:=(σ.lay i).1
def seen (σ:aC) (i:Nat):Nat->Bool:=(σ.lay i).2
def live (σ:aC) (i:Nat):Bool:=mU (2^σ.n) (σ.front i)
def nLay (σ:aC):Nat:=(List.range (2^σ.n+1)).findIdx fun i=> !σ.live i
def endsAt (σ:aC):Nat->Bool:=σ.some_ fun _ c=>σ.ends c
def hits (σ:aC) (i:Nat):Bool:=mU (2^σ.n) fun s=>σ.front i s&&σ.endsAt s
def depth (σ:aC):Option Nat:=(List.range σ.nLay).find? fun i=>σ.hits i
def back (σ:aC):Nat->Nat->Bool
 |0=>σ.endsAt
 |i+1=>σ.some_ fun s c=>σ.back i s||(σ.hold c&&σ.leads (σ.back i) c)
def clean (σ:aC) (c:Nat):Bool:=σ.hold c&& !σ.bad c
def back2 (σ:aC):Nat->Nat->Bool
 |0=>σ.endsAt
 |i+1=>σ.bwd σ.clean (σ.back2 i)
def kind (σ:aC) (k:Nat):Int:=if(match σ.depth with|some d=>decide (d<k)|none=>false)then 1 else if mU (2^σ.n) (σ.back2 k)then 2 else 0
end aC
theorem SY {x:Int} {n:Nat} (hn:n<=64):oM x (n:Int)=x/((2^n:Nat):Int):=by
 unfold oM
 have h1:min (Int.toNat (n:Int)) IntKind.i64.bits=n:=by simp [IntKind.bits];omega
 rw [h1,Int.fdiv_eq_ediv_of_nonneg _ (Int.pow_nonneg (by decide))]
 simp
theorem gF {x:Int} {w:Nat} (hw:w<=62):np x (((2^w:Nat):Int)-1)=((jm w x:Nat):Int):=by
 have h2:=mE hw
 have hp:=bG w
 have hm:(((2^w:Nat):Int)-1)=((2^w-1:Nat):Int):=by omega
 rw [hm]
 show IntKind.i64.wrap _=_
 have h1:(BitVec.ofInt IntKind.i64.bits x&&&BitVec.ofInt IntKind.i64.bits ((2^w-1:Nat):Int)).toNat=jm w x:=by
  show (BitVec.ofInt 64 x&&&BitVec.ofInt 64 ((2^w-1:Nat):Int)).toNat=jm w x
  rw [BitVec.ofInt_natCast,BitVec.toNat_and,BitVec.toNat_ofNat,BitVec.toNat_ofInt,Nat.mod_eq_of_lt (by omega),Nat.and_two_pow_sub_one_eq_mod]
  have hd:((2^w:Nat):Int)∣((2^64:Nat):Int):=Int.natCast_dvd_natCast.2 (Nat.pow_dvd_pow 2 (by omega))
  have h3:=Int.emod_emod_of_dvd x hd
  have h4:=Int.emod_nonneg x (b:=((2^64:Nat):Int)) (by decide)
  unfold jm
  rw [<-h3]
  generalize x%((2^64:Nat):Int)=y at*
  obtain⟨z,rfl⟩: ∃z:Nat,y=z:=⟨y.toNat,by omega⟩
  rw [<-Int.natCast_emod,Int.toNat_natCast,Int.toNat_natCast]
 rw [h1]
 exact et (by have:=jh w x;omega)
theorem Uo {w:Nat} (hw:w<=62):au (-1) (w:Int)= -((2^w:Nat):Int):=by
 have h2:=mE hw
 unfold au
 have h1:min (Int.toNat (w:Int)) IntKind.i64.bits=w:=by simp [IntKind.bits];omega
 rw [h1]
 have h3:(-1:Int)*2^w= -((2^w:Nat):Int):=by simp
 have key: ∀N:Nat,N<=4611686018427387904->W (-(N:Int))= -(N:Int):=fun N h=>bV (by omega) (by omega)
 rw [h3];exact key _ h2
theorem ze {w:Nat} (hw:w<=16):2^w<=65536:=by
 have:=Nat.pow_le_pow_right (n:=2) (by omega) hw
 simpa using this
theorem jL {w v:Int}:iG w v=true↔(1<=w/\w<=16)/\0<=v/\v<((2^w.toNat:Nat):Int):=by
 unfold iG
 rw [decide_eq_true_eq]
 constructor
 ·rintro ⟨h1,h2,h3⟩;exact⟨h1,h2,by omega⟩
 ·rintro ⟨h1,h2,h3⟩;exact⟨h1,h2,by omega⟩
theorem dz {h:Hp} {w:Nat} {R:Value->Hp->Prop} (hw:w<=62) (k:R (I (((2^w:Nat):Int)-1)) h):cA #[I w] h R:=by
 apply Ml
 refine uf_ ?_
 have:=mE hw
 have hp:=bG w
 rw [if_neg (by omega),bD hw,bV (by omega) (by omega)]
 exact k
theorem AI {h:Hp} {w:Int} {R:Value->Hp->Prop} (k:R (.bool (decide (1<=w/\w<=16))) h):mY #[I w] h R:=by
 apply GC
 refine uf_ ?_
 exact fv ⟨_,rfl,k⟩
theorem uA {h:Hp} {w:Int} {R:Value->Hp->Prop} (k:R (.bool (decide (1<=w/\w<=16))) h):kv #[I w] h R:=by
 apply Fk
 refine uf_ ?_
 exact dx ⟨_,rfl,k⟩
theorem FQ (w v:Int):iG w v=(decide (1<=w/\w<=16)&&decide (0<=v/\v<=((2^w.toNat:Nat):Int)-1)):=by
 unfold iG;rw [Bool.eq_iff_iff];simp
theorem CU {h:Hp} {w v:Int} {R:Value->Hp->Prop} (k:R (.bool (iG w v)) h):tp #[I w,I v] h R:=by
 apply HC
 refine uf_ ?_
 rw [FQ]at k
 refine AI ⟨_,rfl,ac (fun e=>?_) (fun e=>?_)⟩
 ·rw [e,Bool.true_and]at k
  have e':1<=w/\w<=16:=by simpa using e
  obtain⟨n,rfl⟩: ∃n:Nat,w=n:=⟨w.toNat,by omega⟩
  rw [Int.toNat_natCast]at k
  exact dz (by omega) ⟨_,rfl,fv ⟨_,rfl,k⟩⟩
 ·rw [e,Bool.false_and]at k;exact k
theorem cr {h:Hp} {w v:Int} {R:Value->Hp->Prop} (k:R (.bool (iG w v)) h):dl #[I w,I v] h R:=by
 apply H9
 refine uf_ ?_
 rw [FQ]at k
 refine uA ⟨_,rfl,ac (fun e=>?_) (fun e=>?_)⟩
 ·rw [e,Bool.true_and]at k
  have e':1<=w/\w<=16:=by simpa using e
  obtain⟨n,rfl⟩: ∃n:Nat,w=n:=⟨w.toNat,by omega⟩
  rw [Int.toNat_natCast]at k
  have:=mE (n:=n) (by omega)
  have hp:=bG n
  rw [cl (by omega),if_neg (by omega),bD (by omega),bV (by omega) (by omega)]
  exact dx ⟨_,rfl,k⟩
 ·rw [e,Bool.false_and]at k;exact k
def WO (w a:Nat):Prop:=(1<=w/\w<=16)/\a<2^w
theorem WO.ok {w a:Nat} (e:WO w a):iG (w:Int) (a:Int)=true:=jL.2 ⟨by have:=e.1;omega,by omega,by rw [Int.toNat_natCast];have:=e.2;omega⟩
theorem WO.pow {w a:Nat} (e:WO w a):2^w<=65536:=ze e.1.2
theorem mO {h:Hp} {w a:Nat} {R:Value->Hp->Prop} (e:WO w a) (k:R (I (sgn w a)) h):gz #[I w,I a] h R:=by
 apply HL
 refine uf_ ?_
 obtain⟨⟨h1,h2⟩,ha⟩:=e
 have hp:=qb h1
 have h16:=ze h2
 have w1:W ((w:Int)-1)=((w-1:Nat):Int):=by rw [bV (by omega) (by omega)];omega
 rw [w1,if_neg (by omega),if_neg (by omega),kx (by omega)]
 unfold sgn at k
 by_cases hs:2^(w-1)<=a
 ·have e1:a/2^(w-1)=1:=by rw [Nat.div_eq_iff (bG _)];omega
  rw [e1,gJ (by omega) (by omega),Nat.one_mul,bV (by omega) (by omega)]
  rw [if_pos hs]at k;exact k
 ·have e1:a/2^(w-1)=0:=Nat.div_eq_of_lt (by omega)
  rw [e1,gJ (by omega) (by omega),Nat.zero_mul,bV (by omega) (by omega)]
  rw [if_neg hs]at k
  simpa using k
theorem hR {h:Hp} {w a:Nat} {R:Value->Hp->Prop} (e:WO w a) (k:R (I (sgn w a)) h):d8 #[I w,I a] h R:=by
 apply Bo
 refine uf_ ?_
 obtain⟨⟨h1,h2⟩,ha⟩:=e
 have hp:=qb h1
 have h16:=ze h2
 have w1:W ((w:Int)-1)=((w-1:Nat):Int):=by rw [bV (by omega) (by omega)];omega
 refine cr ⟨_,rfl,aD (by rw [WO.ok ⟨⟨h1,h2⟩,ha⟩];rfl) ?_⟩
 rw [w1,cl (by omega),if_neg (by omega),bD (by omega)]
 unfold sgn at k
 refine ac (fun e=>?_) (fun e=>?_)
 ·have hs:2^(w-1)<=a:=by
   have:=of_decide_eq_true e;omega
  rw [if_pos hs]at k
  rw [cl (by omega),if_neg (by omega),bD (by omega),bV (by omega) (by omega)]
  exact k
 ·have hs: ¬2^(w-1)<=a:=by
   have:=of_decide_eq_false e;omega
  rw [if_neg hs]at k;exact k
theorem N0 (w:Nat) (n:Int):((jm w n:Nat):Int)=if Int.tmod n ((2^w:Nat):Int)<0 then Int.tmod n ((2^w:Nat):Int)+((2^w:Nat):Int)else Int.tmod n ((2^w:Nat):Int):=by
 rw [FM]
 have hp:(0:Int)<((2^w:Nat):Int):=Int.ofNat_lt.2 (bG w)
 have h1:=Int.emod_nonneg n (b:=((2^w:Nat):Int)) (by omega)
 have h2:=Int.emod_lt_of_pos n hp
 have h3:=Int.tmod_eq_emod (a:=n) (b:=((2^w:Nat):Int))
 have h4:n%((2^w:Nat):Int)=0->((2^w:Nat):Int)∣n:=Int.dvd_of_emod_eq_zero
 rw [h3]
 generalize ((2^w:Nat):Int)=N at*
 by_cases hn:0<=n\/N∣n
 ·rw [if_pos hn];split<;>omega
 ·have h5:n%N≠0:=fun e=>hn (.inr (h4 e))
  rw [if_neg hn]
  generalize n%N=r at*
  split<;>omega
theorem gA {h:Hp} {w:Nat} {n:Int} {R:Value->Hp->Prop} (hw:1<=w/\w<=16) (k:R (I (jm w n)) h):dM #[I w,I n] h R:=by
 apply Et
 refine uf_ ?_
 have h16:=ze hw.2
 have hp:=bG w
 have hlt:=jh w n
 have ht:=N0 w n
 refine uA ⟨_,rfl,aD (by simp;omega) ?_⟩
 rw [cl (by omega),if_neg (by omega),bD (by omega),if_neg (by omega)]
 refine ac (fun e=>?_) (fun e=>?_)
 ·have e':=of_decide_eq_true e
  rw [if_pos e']at ht
  rw [if_neg (by omega),bV (by omega) (by omega),<-ht];exact k
 ·have e':=of_decide_eq_false e
  rw [if_neg e']at ht
  rw [<-ht];exact k
theorem Dn {h:Hp} {w a:Nat} {R:Value->Hp->Prop} (hw:w<=16) (k:R (I (jx w a)) h):pw #[I w,I a] h R:=by
 apply Ii
 refine uf_ ?_
 refine av w (fun i vs h'=>vs= [I w,I a,I (jx i a),I i]/\h'=h) ⟨rfl,rfl⟩ ?_
 rintro i _ _ next hi ⟨rfl,rfl⟩ hn
 refine⟨_,_,_,_,rfl,?_⟩
 by_cases hlt:i<w
 ·refine aJ (by simp [hlt]) (iU (by omega) ⟨_,rfl,?_⟩)
  have hl:=ML i a
  have e:W ((jx i a:Int)+(if a.testBit i then 1 else 0))=((jx (i+1) a:Nat):Int):=by
   rw [bV (by split<;>omega) (by split<;>omega)]
   simp only [jx]
   split<;>simp
  rw [e,aA (by omega)]
  exact hn hlt _ _ ⟨rfl,rfl⟩
 ·have:i=w:=by omega
  subst this
  exact aD (by simp) k
theorem Mh {a b:Nat} (ha:a<18446744073709551616) (hb:b<18446744073709551616):aY .and .u64 (a:Int) (b:Int)=((a&&&b:Nat):Int):=by
 show IntKind.u64.wrap _=_
 have h1:(BitVec.ofInt IntKind.u64.bits (a:Int)&&&BitVec.ofInt IntKind.u64.bits (b:Int)).toNat=a&&&b:=by
  show (BitVec.ofInt 64 (a:Int)&&&BitVec.ofInt 64 (b:Int)).toNat=a&&&b
  rw [BitVec.ofInt_natCast,BitVec.ofInt_natCast,BitVec.toNat_and,BitVec.toNat_ofNat,BitVec.toNat_ofNat,Nat.mod_eq_of_lt (by omega),Nat.mod_eq_of_lt (by omega)]
 rw [h1,IntKind.wrap_u64]
 have:=Nat.and_le_left (n:=a) (m:=b)
 omega
def Ue (x:Nat):Nat:=(x/2&&&6148914691236517205)+(x&&&6148914691236517205)
def TY (x:Nat):Nat:=(x/4&&&3689348814741910323)+(x&&&3689348814741910323)
def Ug (x:Nat):Nat:=(x/16+x)&&&1085102592571150095
def Us (x:Nat):Nat:=x/256+x
def UM (x:Nat):Nat:=x/65536+x
def SD (x:Nat):Nat:=x/4294967296+x
def Io (x:Nat):Nat:=SD (UM (Us (Ug (TY (Ue x)))))&&&127
def NI (x:Nat):Bool:=Nat.beq (Io (2*x)) (Io x)&&Nat.beq (Io (2*x+1)) (Io x+1)
def M0 (hi:Nat):Nat->Bool
 |0=>true
 |n+1=>NI (hi*256+n)&&M0 hi n
def Pj :Nat->Bool
 |0=>true
 |n+1=>M0 n 256&&Pj n
theorem Wm :Pj 128=true:=by kernel_rfl
theorem Ti {hi:Nat}: ∀n,M0 hi n=true-> ∀i,i<n->NI (hi*256+i)=true:=by
 intro n
 induction n with
 |zero=>intro _ i h;omega
 |succ n ih=>
  intro h i hi
  simp only [M0,Bool.and_eq_true]at h
  by_cases e:i=n
  ·subst e;exact h.1
  ·exact ih h.2 i (by omega)
theorem Ul : ∀n,Pj n=true-> ∀i,i<n->M0 i 256=true:=by
 intro n
 induction n with
 |zero=>intro _ i h;omega
 |succ n ih=>
  intro h i hi
  simp only [Pj,Bool.and_eq_true]at h
  by_cases e:i=n
  ·subst e;exact h.1
  ·exact ih h.2 i (by omega)
theorem S0 {x:Nat} (h:x<32768):Io (2*x)=Io x/\Io (2*x+1)=Io x+1:=by
 have h1:=Ul 128 Wm (x/256) (by omega)
 have h2:=Ti 256 h1 (x%256) (Nat.mod_lt _ (by omega))
 rw [show x/256*256+x%256=x by omega]at h2
 simp only [NI,Bool.and_eq_true]at h2
 exact⟨Nat.eq_of_beq_eq_true h2.1,Nat.eq_of_beq_eq_true h2.2⟩
theorem NN (a:Nat): ∀w,jx (w+1) a=a%2+jx w (a/2):=by
 intro w
 induction w with
 |zero=>
  simp only [jx,Nat.testBit_zero]
  rcases Nat.mod_two_eq_zero_or_one a with h|h<;>simp [h]
 |succ w ih=>
  rw [jx,ih,jx,Nat.testBit_succ];omega
theorem Wq : ∀w,w<=16-> ∀x,x<2^w->Io x=jx w x:=by
 intro w
 induction w with
 |zero=>intro _ x hx;have:x=0:=by simpa using hx
        subst this;rfl
 |succ w ih=>
  intro hw x hx
  have h16:2^w<=32768:=by
   have:=Nat.pow_le_pow_right (n:=2) (by omega) (show w<=15 by omega)
   simpa using this
  have hp:2^(w+1)=2*2^w:=by rw [Nat.pow_succ];omega
  have h1:=ih (by omega) (x/2) (by omega)
  have h2:=S0 (x:=x/2) (by omega)
  rw [NN,<-h1]
  rcases Nat.mod_two_eq_zero_or_one x with h|h
  ·have e:2*(x/2)=x:=by omega
   rw [e]at h2;rw [h2.1,h];omega
  ·have e:2*(x/2)+1=x:=by omega
   rw [e]at h2;rw [h2.2,h];omega
theorem I7 {a k:Nat} (hk:k<=64):Int.fdiv (a:Int) (2^(min (Int.toNat (k:Int)) (IntKind.bits .u64)))=((a/2^k:Nat):Int):=by
 have h1:min (Int.toNat (k:Int)) (IntKind.bits .u64)=k:=by simp [IntKind.bits];omega
 rw [h1,Int.fdiv_eq_ediv_of_nonneg _ (Int.pow_nonneg (by decide))]
 simp
def q1 (x:Int):Int:=IntKind.wrap .u64 ((aY .and .u64 (Int.fdiv x (2^(min (Int.toNat 1) (IntKind.bits .u64)))) 6148914691236517205)+(aY .and .u64 x 6148914691236517205))
def q2 (x:Int):Int:=IntKind.wrap .u64 ((aY .and .u64 (Int.fdiv x (2^(min (Int.toNat 2) (IntKind.bits .u64)))) 3689348814741910323)+(aY .and .u64 x 3689348814741910323))
def q3 (x:Int):Int:=aY .and .u64 (IntKind.wrap .u64 ((Int.fdiv x (2^(min (Int.toNat 4) (IntKind.bits .u64))))+x)) 1085102592571150095
def q4 (x:Int):Int:=IntKind.wrap .u64 (x+Int.fdiv x (2^(min (Int.toNat 8) (IntKind.bits .u64))))
def q5 (x:Int):Int:=IntKind.wrap .u64 (x+Int.fdiv x (2^(min (Int.toNat 16) (IntKind.bits .u64))))
def q6 (x:Int):Int:=IntKind.wrap .u64 (x+Int.fdiv x (2^(min (Int.toNat 32) (IntKind.bits .u64))))
theorem FH {h:Hp} {a:Nat} {R:Value->Hp->Prop} (ha:a<65536) (k:R (I (jx 16 a)) h):j7 #[.int .u64 a] h R:=by
 apply vU
 refine uf_ ?_
 apply uc
 refine uf_ ?_
 refine⟨_,rfl,?_⟩
 have e1:q1 a=((Ue a:Nat):Int):=by
  have l1:=Nat.and_le_left (n:=a/2) (m:=6148914691236517205)
  have l2:=Nat.and_le_left (n:=a) (m:=6148914691236517205)
  have:=I7 (a:=a) (k:=1) (by omega)
  unfold q1 Ue
  rw [show (Int.toNat 1)=Int.toNat ((1:Nat):Int)from rfl,this,Nat.pow_one]
  rw [show (6148914691236517205:Int)=((6148914691236517205:Nat):Int)from rfl,Mh (by omega) (by omega),Mh (by omega) (by omega),<-Int.natCast_add,cl (by omega)]
 have b1:Ue a<=98304:=by
  have l1:=Nat.and_le_left (n:=a/2) (m:=6148914691236517205)
  have l2:=Nat.and_le_left (n:=a) (m:=6148914691236517205)
  unfold Ue;omega
 have e2: ∀x:Nat,x<=98304->q2 x=((TY x:Nat):Int)/\TY x<=196608:=by
  intro x hx
  have l1:=Nat.and_le_left (n:=x/4) (m:=3689348814741910323)
  have l2:=Nat.and_le_left (n:=x) (m:=3689348814741910323)
  have:=I7 (a:=x) (k:=2) (by omega)
  refine⟨?_,by unfold TY;omega⟩
  unfold q2 TY
  rw [show (Int.toNat 2)=Int.toNat ((2:Nat):Int)from rfl,this,show 2^2=4 from rfl]
  rw [show (3689348814741910323:Int)=((3689348814741910323:Nat):Int)from rfl,Mh (by omega) (by omega),Mh (by omega) (by omega),<-Int.natCast_add,cl (by omega)]
 have e3: ∀x:Nat,x<=196608->q3 x=((Ug x:Nat):Int)/\Ug x<=393216:=by
  intro x hx
  have l1:=Nat.and_le_left (n:=x/16+x) (m:=1085102592571150095)
  have:=I7 (a:=x) (k:=4) (by omega)
  refine⟨?_,by unfold Ug;omega⟩
  unfold q3 Ug
  rw [show (Int.toNat 4)=Int.toNat ((4:Nat):Int)from rfl,this,show 2^4=16 from rfl,<-Int.natCast_add,cl (by omega)]
  rw [show (1085102592571150095:Int)=((1085102592571150095:Nat):Int)from rfl,Mh (by omega) (by omega)]
 have e4: ∀x:Nat,x<=393216->q4 x=((Us x:Nat):Int)/\Us x<=786432:=by
  intro x hx
  have:=I7 (a:=x) (k:=8) (by omega)
  refine⟨?_,by unfold Us;omega⟩
  unfold q4 Us
  rw [show (Int.toNat 8)=Int.toNat ((8:Nat):Int)from rfl,this,show 2^8=256 from rfl,<-Int.natCast_add,cl (by omega),Nat.add_comm]
 have e5: ∀x:Nat,x<=786432->q5 x=((UM x:Nat):Int)/\UM x<=1572864:=by
  intro x hx
  have:=I7 (a:=x) (k:=16) (by omega)
  refine⟨?_,by unfold UM;omega⟩
  unfold q5 UM
  rw [show (Int.toNat 16)=Int.toNat ((16:Nat):Int)from rfl,this,show 2^16=65536 from rfl,<-Int.natCast_add,cl (by omega),Nat.add_comm]
 have e6: ∀x:Nat,x<=1572864->q6 x=((SD x:Nat):Int)/\SD x<=3145728:=by
  intro x hx
  have:=I7 (a:=x) (k:=32) (by omega)
  refine⟨?_,by unfold SD;omega⟩
  unfold q6 SD
  rw [show (Int.toNat 32)=Int.toNat ((32:Nat):Int)from rfl,this,show 2^32=4294967296 from rfl,<-Int.natCast_add,cl (by omega),Nat.add_comm]
 have b2:=(e2 _ b1).2
 have b3:=(e3 _ b2).2
 have b4:=(e4 _ b3).2
 have b5:=(e5 _ b4).2
 have b6:=(e6 _ b5).2
 show R (I (np (W (q6 (q5 (q4 (q3 (q2 (q1 a))))))) 127)) h
 rw [e1,(e2 _ b1).1,(e3 _ b2).1,(e4 _ b3).1,(e5 _ b4).1,(e6 _ b5).1,et (by omega),show (127:Int)=((127:Nat):Int)from rfl,rp (by omega) (by omega)]
 have:=Wq 16 (by omega) a (by simpa using ha)
 unfold Io at this
 rw [this];exact k
theorem N4 {w a:Nat} (ha:a<2^w): ∀d,jx (w+d) a=jx w a:=by
 intro d
 induction d with
 |zero=>rfl
 |succ d ih=>
  have hz:a.testBit (w+d)=false:=Nat.testBit_lt_two_pow (Nat.lt_of_lt_of_le ha (Nat.pow_le_pow_right (by omega) (by omega)))
  rw [<-Nat.add_assoc,jx,ih,hz]
  simp
theorem Ur {h:Hp} {kind:Int} {w a:Nat} {R:Value->Hp->Prop} (hk:1<=kind/\kind<=5) (e:WO w a)
  (k:R (.tuple #[I (xn kind w a).1,I (xn kind w a).2]) h):z9 #[I kind,I w,I a] h R:=by
 apply NC
 refine uf_ ?_
 have h16:=e.pow
 have hp:=bG w
 have ha:=e.2
 have hw:=e.1
 unfold xn at k
 refine ac (fun e1=>?_) (fun e1=>ac (fun e2=>?_) (fun e2=>ac (fun e3=>?_) (fun e3=>ac (fun e4=>?_) (fun e4=>?_))))
 ·rw [if_pos (by simpa using e1)]at k
  refine dz (by omega) ⟨_,rfl,?_⟩
  have:W ((((2^w:Nat):Int)-1)-a)=((2^w-1-a:Nat):Int):=by rw [bV (by omega) (by omega)];omega
  rw [this];exact k
 ·rw [if_neg (by simpa using e1),if_pos (by simpa using e2)]at k
  refine dz (by omega) ⟨_,rfl,?_⟩
  rw [bV (n:=0-(a:Int)) (by omega) (by omega),gF (by omega),Int.zero_sub]
  exact k
 ·rw [if_neg (by simpa using e1),if_neg (by simpa using e2),if_pos (by simpa using e3)]at k
  refine wq ⟨_,rfl,?_⟩
  by_cases h0:a=0
  ·subst h0;simpa using k
  ·have:((a:Int) !=0)=true:=by simpa using h0
   rw [this];rw [if_neg h0]at k;simpa using k
 ·rw [if_neg (by simpa using e1),if_neg (by simpa using e2),if_neg (by simpa using e3),if_pos (by simpa using e4)]at k
  refine dz (by omega) ⟨_,rfl,wq ⟨_,rfl,?_⟩⟩
  by_cases h0:a=2^w-1
  ·have:((a:Int)==((2^w:Nat):Int)-1)=true:=by rw [beq_iff_eq];omega
   rw [this];rw [if_pos h0]at k;simpa using k
  ·have:((a:Int)==((2^w:Nat):Int)-1)=false:=by rw [beq_eq_false_iff_ne];omega
   rw [this];rw [if_neg h0]at k;simpa using k
 ·rw [if_neg (by simpa using e1),if_neg (by simpa using e2),if_neg (by simpa using e3),if_neg (by simpa using e4)]at k
  rw [cl (by omega)]
  refine FH (by omega) ⟨_,rfl,?_⟩
  have:=N4 ha (16-w)
  rw [show w+(16-w)=16 by omega]at this
  rw [this,G2];exact k
theorem AW {h:Hp} {kind:Int} {w a:Nat} {R:Value->Hp->Prop} (hk:1<=kind/\kind<=5) (e:WO w a)
  (k:R (.tuple #[I (xn kind w a).1,I (xn kind w a).2, .bool true]) h):nG #[I kind,I w,I a] h R:=by
 apply Fs
 refine uf_ ?_
 have h16:=e.pow
 have hp:=bG w
 have ha:=e.2
 have hw:=e.1
 unfold xn at k
 refine cr ⟨_,rfl,aD (by rw [e.ok];rfl) ?_⟩
 refine ac (fun e1=>?_) (fun e1=>ac (fun e2=>?_) (fun e2=>ac (fun e3=>?_) (fun e3=>ac (fun e4=>?_) (fun e4=>?_))))
 ·rw [if_pos (by simpa using e1)]at k
  rw [cl (by omega),if_neg (by omega),bD (by omega),bV (n:=((2^w:Nat):Int)-1) (by omega) (by omega)]
  have:W ((((2^w:Nat):Int)-1)-a)=((2^w-1-a:Nat):Int):=by rw [bV (by omega) (by omega)];omega
  rw [this];exact k
 ·rw [if_neg (by simpa using e1),if_pos (by simpa using e2)]at k
  rw [bV (n:=0-(a:Int)) (by omega) (by omega),Int.zero_sub]
  exact gA hw ⟨_,rfl,k⟩
 ·rw [if_neg (by simpa using e1),if_neg (by simpa using e2),if_pos (by simpa using e3)]at k
  refine ou ⟨_,rfl,?_⟩
  by_cases h0:a=0
  ·subst h0;simpa using k
  ·have:decide ((a:Int)>0)=true:=by simp;omega
   rw [this];rw [if_neg h0]at k;simpa using k
 ·rw [if_neg (by simpa using e1),if_neg (by simpa using e2),if_neg (by simpa using e3),if_pos (by simpa using e4)]at k
  refine Dn (by omega) ⟨_,rfl,ou ⟨_,rfl,?_⟩⟩
  have hf:=N6 ha
  by_cases h0:a=2^w-1
  ·have:(((jx w a:Nat):Int)==(w:Int))=true:=by rw [beq_iff_eq,hf.2 h0]
   rw [this];rw [if_pos h0]at k;simpa using k
  ·have:(((jx w a:Nat):Int)==(w:Int))=false:=by rw [beq_eq_false_iff_ne];intro he;exact h0 (hf.1 (by omega))
   rw [this];rw [if_neg h0]at k;simpa using k
 ·rw [if_neg (by simpa using e1),if_neg (by simpa using e2),if_neg (by simpa using e3),if_neg (by simpa using e4)]at k
  have:kind=5:=by
   have h1:kind≠1:=by simpa using e1
   have h2:kind≠2:=by simpa using e2
   have h3:kind≠3:=by simpa using e3
   have h4:kind≠4:=by simpa using e4
   omega
  refine aJ (by simpa using this) (Dn (by omega) ⟨_,rfl,?_⟩)
  rw [G2];exact k
theorem eV (a b:Nat):Int.tmod (a:Int) (b:Int)=((a%b:Nat):Int):=(Int.ofNat_tmod a b).symm
theorem FF (a b:Nat):Int.tdiv (a:Int) (b:Int)=((a/b:Nat):Int):=(Int.ofNat_tdiv a b).symm
theorem C3 {a b:Nat} (ha:a<65536) (hb:b<=65536):a*b<=4294967296:=by
 have:=Nat.mul_le_mul (Nat.le_of_lt ha) hb
 omega
theorem Dh {w a:Nat} (e:WO w a): -65536<=sgn w a/\sgn w a<=65536:=by
 have h:=Jw e.1.1 e.2
 have hp:=qb e.1.1
 have h16:=e.pow
 omega
theorem aZ {a b:Int} (e:(a==b)=false): ¬a=b:=by simpa using e
theorem bU {a b:Int} (e:(a==b)=true):a=b:=by simpa using e
theorem C6 {h:Hp} {w a p:Nat} {R:Value->Hp->Prop} (e:WO w a) (k:R (I (GZ w a (p%w))) h):pu #[I w,I a,I p] h R:=by
 apply HJ
 refine uf_ ?_
 obtain⟨⟨h1,h2⟩,ha⟩:=e
 have h16:=ze h2
 have hm:p%w<w:=Nat.mod_lt _ (by omega)
 have hpm:=ze (w:=p%w) (by omega)
 have ht:Int.tmod (p:Int) (w:Int)=((p%w:Nat):Int):=eV p w
 have hw:W ((w:Int)-((p%w:Nat):Int))=((w-p%w:Nat):Int):=by rw [bV (by omega) (by omega)];omega
 have hmul:=C3 (a:=a) (b:=2^(p%w)) (by omega) hpm
 rw [if_neg (by omega),ht,if_neg (by omega),hw,if_neg (by omega)]
 refine dz (by omega) ⟨_,rfl,?_⟩
 have hd:a/2^(w-p%w)<=a:=Nat.div_le_self _ _
 rw [gJ (by omega) (by omega),kx (by omega),AX (by omega) (by omega),gF (by omega),oP]
 exact k
theorem J5 {h:Hp} {kind:Int} {w a b:Nat} {R:Value->Hp->Prop} (hk:kind=14\/kind=15) (ea:WO w a) (eb:WO w b)
  (k:R (I ((if kind=14 then I6 w a b else IX w a b:Nat):Int)) h):rY #[I kind,I w,I a,I b] h R:=by
 apply Fq
 refine uf_ ?_
 have h16:=ea.pow
 have hp:=bG w
 have sa:=Dh ea
 have sb:=Dh eb
 have hw:=ea.1
 refine mO ea ⟨_,rfl,mO eb ⟨_,rfl,?_⟩⟩
 unfold I6 IX at k
 by_cases hy:sgn w b=0
 ·rw [if_pos hy,if_pos hy]at k
  rw [hy]
  refine ap (fun J=>J (decide (kind=15))) ?_ (fun J hJ=>aJ rfl (by rw [show (kind==15)=decide (kind=15)from rfl];exact hJ))
  refine ac (fun e=>?_) (fun e=>?_)
  ·have e':kind=15:=by simpa using e
   rw [if_neg (by omega)]at k;exact k
  ·have e':kind=14:=by have: ¬kind=15:=by simpa using e
                       omega
   rw [if_pos e']at k
   refine ap (fun J=>J (decide (sgn w a<0))) ?_ (fun J hJ=>aJ rfl hJ)
   refine ac (fun e=>?_) (fun e=>aJ rfl (dz (by omega) ⟨_,rfl,?_⟩))
   ·rw [if_pos (by simpa using e)]at k;exact k
   ·rw [if_neg (by simpa using e)]at k
    have:((2^w-1:Nat):Int)=((2^w:Nat):Int)-1:=by omega
    rw [<-this];exact k
 ·rw [if_neg hy,if_neg hy]at k
  have hyb:(sgn w b==0)=false:=by simpa using hy
  refine ap (fun J=>J false) ?_ (fun J hJ=>aD hyb hJ)
  refine aD rfl (ap (fun J=>J false) ?_ (fun J hJ=>aD hyb hJ))
  refine aD rfl (aD hyb ?_)
  have hdiv:(Int.tdiv (sgn w a) (sgn w b)).natAbs<=65536:=by
   rw [Int.natAbs_tdiv]
   exact Nat.le_trans (Nat.div_le_self _ _) (by omega)
  refine ac (fun e=>?_) (fun e=>?_)
  ·rw [if_pos (by simpa using e)]at k
   rw [if_neg hy]
   refine dz (by omega) ⟨_,rfl,?_⟩
   rw [bV (by omega) (by omega),gF (by omega)];exact k
  ·rw [if_neg (by simpa using e)]at k
   rw [if_neg hy]
   refine dz (by omega) ⟨_,rfl,?_⟩
   rw [gF (by omega)];exact k
def CO (kind:Int) (w a b:Nat):Nat:=if kind=16 then W1 w a b else if kind=17 then WQ w a b else VD w a b
theorem JT {h:Hp} {kind:Int} {w a b:Nat} {R:Value->Hp->Prop} (ea:WO w a) (hb:b<=65536)
  (k:R (I (CO kind w a b)) h):r7 #[I kind,I w,I a,I b] h R:=by
 apply Fc
 refine uf_ ?_
 have h16:=ea.pow
 have ha:=ea.2
 have hw:=ea.1
 have hmin:(if(w:Int)<(b:Int)then(w:Int)else(b:Int))=((min b w:Nat):Int):=by
  by_cases h:w<b
  ·rw [if_pos (by omega),Nat.min_eq_right (by omega)]
  ·rw [if_neg (by omega),Nat.min_eq_left (by omega)]
 have hm:min b w<=w:=Nat.min_le_right _ _
 have hpm:=ze (w:=min b w) (by omega)
 have hmul:=C3 (a:=a) (b:=2^min b w) (by omega) hpm
 unfold CO at k
 rw [hmin]
 refine ac (fun e=>?_) (fun e=>ac (fun e2=>?_) (fun e2=>?_))
 ·rw [if_pos (bU e)]at k
  rw [if_neg (by omega)]
  refine dz (by omega) ⟨_,rfl,?_⟩
  rw [gJ (by omega) (by omega),gF (by omega),oP];exact k
 ·rw [if_neg (aZ e),if_pos (bU e2)]at k
  rw [if_neg (by omega),kx (by omega)];exact k
 ·rw [if_neg (aZ e),if_neg (aZ e2)]at k
  refine mO ea ⟨_,rfl,?_⟩
  rw [if_neg (by omega)]
  refine dz (by omega) ⟨_,rfl,?_⟩
  rw [SY (by omega),gF (by omega)];exact k
theorem HG {h:Hp} {kind:Int} {w a b:Nat} {R:Value->Hp->Prop} (hk:21<=kind/\kind<=28) (ea:WO w a) (eb:WO w b)
  (k:R (.bool (Dk kind w a b)) h):qq #[I kind,I w,I a,I b] h R:=by
 apply D5
 refine uf_ ?_
 have h16:=ea.pow
 have hp:=bG w
 have sa:=Dh ea
 have sb:=Dh eb
 have ha:=ea.2
 have hb:=eb.2
 have hw:=ea.1
 unfold Dk at k
 have dd: ∀{p q:Prop} [Decidable p] [Decidable q],(p↔q)->decide p=decide q:=fun h=>by rw [decide_eq_decide];exact h
 refine mO ea ⟨_,rfl,mO eb ⟨_,rfl,?_⟩⟩
 refine ac (fun e1=>?_) (fun e1=>ac (fun e2=>?_) (fun e2=>ac (fun e3=>?_) (fun e3=>ac (fun e4=>?_) (fun e4=>ac (fun e5=>?_) (fun e5=>ac (fun e6=>?_) (fun e6=>ac (fun e7=>?_) (fun e7=>?_)))))))
 ·rw [if_pos (bU e1)]at k
  have:((a:Int)==(b:Int))=decide (a=b):=by rw [Bool.eq_iff_iff];simp;omega
  rw [this];exact k
 all_goals rw [if_neg (aZ e1)]at k
 ·rw [if_pos (bU e2)]at k
  rw [dd (p:=(a:Int)<(b:Int)) (q:=a<b) (by omega)];exact k
 all_goals rw [if_neg (aZ e2)]at k
 ·rw [if_pos (bU e3)]at k;exact k
 all_goals rw [if_neg (aZ e3)]at k
 ·rw [if_pos (bU e4)]at k
  rw [dd (p:=(a:Int)<=(b:Int)) (q:=a<=b) (by omega)];exact k
 all_goals rw [if_neg (aZ e4)]at k
 ·rw [if_pos (bU e5)]at k;exact k
 all_goals rw [if_neg (aZ e5)]at k
 ·rw [if_pos (bU e6)]at k
  refine dz (by omega) ⟨_,rfl,?_⟩
  rw [bV (by omega) (by omega),dd (p:=(a:Int)+(b:Int)>((2^w:Nat):Int)-1) (q:=2^w<=a+b) (by omega)];exact k
 all_goals rw [if_neg (aZ e6)]at k
 ·rw [if_pos (bU e7)]at k
  have w1:W ((w:Int)-1)=((w-1:Nat):Int):=by rw [bV (by omega) (by omega)];omega
  have hpp:=qb hw.1
  rw [w1,if_neg (by omega),if_neg (by omega),Uo (by omega),bD (by omega),bV (n:=sgn w a+sgn w b) (by omega) (by omega),bV (n:=((2^(w-1):Nat):Int)-1) (by omega) (by omega)]
  refine fv ⟨_,rfl,?_⟩
  rw [dd (p:= -((2^(w-1):Nat):Int)<=sgn w a+sgn w b/\sgn w a+sgn w b<=((2^(w-1):Nat):Int)-1) (q:= -((2^(w-1):Nat):Int)<=sgn w a+sgn w b/\sgn w a+sgn w b<((2^(w-1):Nat):Int)) (by omega)]
  exact k
 ·rw [if_neg (aZ e7)]at k
  have hmul:=C3 (a:=a) (b:=b) (by omega) (by omega)
  have hmi:(a:Int)*(b:Int)=((a*b:Nat):Int):=(Int.natCast_mul _ _).symm
  refine dz (by omega) ⟨_,rfl,?_⟩
  rw [hmi]
  generalize a*b=ab at*
  rw [et (by omega),dd (p:=(ab:Int)>((2^w:Nat):Int)-1) (q:=2^w<=ab) (by omega)];exact k
theorem TV {h:Hp} {kind:Int} {w a b:Nat} {R:Value->Hp->Prop} (hk:6<=kind/\kind<=28) (ea:WO w a) (eb:WO w b)
  (k:R (.tuple #[I (rj kind w a b).1,I (rj kind w a b).2]) h):zW #[I kind,I w,I a,I b] h R:=by
 apply Oe
 refine uf_ ?_
 have h16:=ea.pow
 have hp:=bG w
 have ha:=ea.2
 have hb:=eb.2
 have hw:=ea.1
 have hand:a&&&b<=a:=Nat.and_le_left
 have hmul:=C3 (a:=a) (b:=b) (by omega) (by omega)
 by_cases h20:kind<=20
 rotate_left
 ·have t:rj kind w a b=(if Dk kind w a b then 1 else 0,1):=by unfold rj;rw [if_neg h20]
  rw [t]at k
  have nb: ∀n:Int,n<=20->(kind==n)=false:=fun n hn=>by rw [beq_eq_false_iff_ne];omega
  refine aD (nb _ (by omega)) (aD (nb _ (by omega)) (aD (nb _ (by omega)) (aD (nb _ (by omega)) (aD (nb _ (by omega)) (aD (nb _ (by omega)) (aD (nb _ (by omega)) (aD (nb _ (by omega)) ?_)))))))
  refine ap (fun J=>J false) ?_ (fun J hJ=>aD (nb _ (by omega)) (by rw [nb 15 (by omega)];exact hJ))
  refine aD rfl (ap (fun J=>J false) ?_ (fun J hJ=>aD (nb _ (by omega)) (aD (nb _ (by omega)) (by rw [nb 18 (by omega)];exact hJ))))
  refine aD rfl (aD (nb _ (by omega)) (aD (nb _ (by omega)) ?_))
  refine HG (by omega) ea eb ⟨_,rfl,wq ⟨_,rfl,?_⟩⟩
  cases hs:Dk kind w a b
  ·rw [hs]at k;simpa using k
  ·rw [hs]at k;simpa using k
 have t:rj kind w a b=(Gr kind w a b,w):=by unfold rj;rw [if_pos h20]
 rw [t]at k
 unfold Gr at k
 simp only at k
 refine ac (fun e=>?_) (fun e6=>?_)
 ·rw [if_pos (bU e)]at k;rw [rp (by omega) (by omega)];exact k
 rw [if_neg (aZ e6)]at k
 refine ac (fun e=>?_) (fun e7=>?_)
 ·rw [if_pos (bU e)]at k;rw [AX (by omega) (by omega)];exact k
 rw [if_neg (aZ e7)]at k
 refine ac (fun e=>?_) (fun e8=>?_)
 ·rw [if_pos (bU e)]at k;rw [Me (by omega) (by omega)];exact k
 rw [if_neg (aZ e8)]at k
 refine ac (fun e=>?_) (fun e9=>?_)
 ·rw [if_pos (bU e)]at k
  refine dz (by omega) ⟨_,rfl,?_⟩
  rw [bV (by omega) (by omega),gF (by omega)];exact k
 rw [if_neg (aZ e9)]at k
 refine ac (fun e=>?_) (fun e10=>?_)
 ·rw [if_pos (bU e)]at k
  refine dz (by omega) ⟨_,rfl,?_⟩
  rw [bV (by omega) (by omega),gF (by omega)];exact k
 rw [if_neg (aZ e10)]at k
 refine ac (fun e=>?_) (fun e11=>?_)
 ·rw [if_pos (bU e)]at k
  refine dz (by omega) ⟨_,rfl,?_⟩
  have hmi:(a:Int)*(b:Int)=((a*b:Nat):Int):=(Int.natCast_mul _ _).symm
  rw [hmi]at k⊢
  generalize a*b=ab at*
  rw [et (by omega),gF (by omega)];exact k
 rw [if_neg (aZ e11)]at k
 refine ac (fun e=>?_) (fun e12=>?_)
 ·rw [if_pos (bU e)]at k
  refine dz (by omega) ⟨_,rfl,ac (fun eb0=>?_) (fun eb0=>?_)⟩
  ·have hb0: ¬b=0:=by have:=of_decide_eq_true eb0;omega
   rw [if_neg hb0]at k
   have hd:=Nat.div_le_self a b
   rw [if_neg (by omega),FF,et (by omega)];exact k
  ·have hb0:b=0:=by have:=of_decide_eq_false eb0;omega
   rw [if_pos hb0]at k
   have:((2^w-1:Nat):Int)=((2^w:Nat):Int)-1:=by omega
   rw [<-this];exact k
 rw [if_neg (aZ e12)]at k
 refine ac (fun e=>?_) (fun e13=>?_)
 ·rw [if_pos (bU e)]at k
  refine ac (fun eb0=>?_) (fun eb0=>?_)
  ·have hb0: ¬b=0:=by have:=of_decide_eq_true eb0;omega
   rw [if_neg hb0]at k
   rw [if_neg (by omega),eV];exact k
  ·have hb0:b=0:=by have:=of_decide_eq_false eb0;omega
   rw [if_pos hb0]at k;exact k
 rw [if_neg (aZ e13)]at k
 refine ap (fun J=>J (decide (kind=14\/kind=15))) ?_ ?_
 rotate_left
 ·intro J hJ
  refine ac (fun e=>?_) (fun e=>?_)
  ·rw [decide_eq_true (.inl (bU e))]at hJ;exact hJ
  ·have:(kind==15)=decide (kind=14\/kind=15):=by
    have:=aZ e
    rw [Bool.eq_iff_iff];simp [this]
   rw [this];exact hJ
 refine ac (fun e=>?_) (fun e1415=>?_)
 ·have e':kind=14\/kind=15:=by simpa using e
  refine J5 e' ea eb ⟨_,rfl,?_⟩
  rcases e' with rfl|rfl
  ·simpa using k
  ·simpa using k
 have n14: ¬kind=14/\ ¬kind=15:=by simpa using e1415
 rw [if_neg n14.1,if_neg n14.2]at k
 refine ap (fun J=>J (decide (kind=16\/kind=17\/kind=18))) ?_ ?_
 rotate_left
 ·intro J hJ
  refine ac (fun e=>?_) (fun e=>ac (fun e2=>?_) (fun e2=>?_))
  ·rw [decide_eq_true (.inl (bU e))]at hJ;exact hJ
  ·rw [decide_eq_true (.inr (.inl (bU e2)))]at hJ;exact hJ
  ·have:(kind==18)=decide (kind=16\/kind=17\/kind=18):=by
    have h1:=aZ e
    have h2:=aZ e2
    rw [Bool.eq_iff_iff];simp [h1,h2]
   rw [this];exact hJ
 refine ac (fun e=>?_) (fun e1618=>?_)
 ·have e':kind=16\/kind=17\/kind=18:=by simpa using e
  refine JT ea (by omega) ⟨_,rfl,?_⟩
  unfold CO
  rcases e' with rfl|rfl|rfl
  ·simpa using k
  ·simpa using k
  ·simpa using k
 have n16: ¬kind=16/\ ¬kind=17/\ ¬kind=18:=by simpa using e1618
 rw [if_neg n16.1,if_neg n16.2.1,if_neg n16.2.2]at k
 refine ac (fun e=>?_) (fun e19=>?_)
 ·rw [if_pos (bU e)]at k
  exact C6 ea ⟨_,rfl,k⟩
 rw [if_neg (aZ e19)]at k
 have h20':kind=20:=by
  have:=aZ e6;have:=aZ e7;have:=aZ e8;have:=aZ e9;have:=aZ e10;have:=aZ e11;have:=aZ e12;have:=aZ e13;have:=aZ e19
  omega
 refine aJ (by simpa using h20') ?_
 have hm:b%w<w:=Nat.mod_lt _ (by omega)
 have hw2:W ((w:Int)-((b%w:Nat):Int))=((w-b%w:Nat):Int):=by rw [bV (by omega) (by omega)];omega
 rw [if_neg (by omega),eV,hw2]
 exact C6 ea ⟨_,rfl,k⟩
def GM (kind:Int) (x y:Bool):Bool:=if kind=8 then x^^y else if kind=7 then x||y else x&&y
theorem JW {c:Bool} {n:Nat} (hn:n<=62):au (if c then 1 else 0) (n:Int)=((if c then 2^n else 0:Nat):Int):=by
 cases c
 ·have:=gJ (a:=0) (n:=n) (by omega) (by omega);simpa using this
 ·have:=bD hn;simpa using this
theorem Jx {i:Nat} {f:Nat->Bool} {c:Bool} (hi:i<=60) (hc:c=f i):W ((cR i f:Int)+((if c then 2^i else 0:Nat):Int))=((cR (i+1) f:Nat):Int):=by
 have h1:=qY i f
 have h2:=mE (n:=i) (by omega)
 subst hc
 simp only [cR]
 rw [bV (by split<;>omega) (by split<;>omega)]
 omega
theorem Mu {h:Hp} {kind:Int} {w a b:Nat} {R:Value->Hp->Prop} (hw:w<=16)
  (k:R (I (cR w fun i=>GM kind (a.testBit i) (b.testBit i))) h):tJ #[I kind,I w,I a,I b] h R:=by
 apply HE
 refine uf_ ?_
 refine av w (fun i vs h'=>vs= [I kind,I w,I a,I b,I (cR i fun i=>GM kind (a.testBit i) (b.testBit i)),I i]/\h'=h) ⟨rfl,rfl⟩ ?_
 rintro i _ _ next hi ⟨rfl,rfl⟩ hn
 refine⟨_,_,_,_,_,_,rfl,?_⟩
 by_cases hlt:i<w
 ·refine aJ (by simp [hlt]) (iU (by omega) ⟨_,rfl,iU (by omega) ⟨_,rfl,?_⟩⟩)
  have hn':=hn hlt _ _ ⟨rfl,rfl⟩
  generalize hx:a.testBit i=x at*
  generalize hy:b.testBit i=y at*
  refine ap (fun J=>J (if kind=7 then(if x||y then 1 else 0)else(if x&&y then 1 else 0))) ?_ ?_
  ·refine ap (fun J=>J (if GM kind x y then 1 else 0)) ?_ ?_
   ·rw [cl (by omega),if_neg (by omega),JW (by omega),Jx (by omega) (by rw [hx,hy]),aA (by omega)]
    exact hn'
   ·intro J hJ
    refine ac (fun e=>?_) (fun e=>?_)
    ·have:GM kind x y=(x^^y):=by unfold GM;rw [if_pos (bU e)]
     rw [this]at hJ
     revert hJ;cases x<;>cases y<;>exact id
    ·have:GM kind x y=if kind=7 then x||y else x&&y:=by unfold GM;rw [if_neg (aZ e)]
     rw [this]at hJ
     by_cases h7:kind=7
     ·rw [if_pos h7]at hJ⊢;exact hJ
     ·rw [if_neg h7]at hJ⊢;exact hJ
  ·intro J hJ
   refine ac (fun e=>?_) (fun e=>?_)
   ·rw [if_pos (bU e)]at hJ
    revert hJ;cases x<;>cases y<;>exact id
   ·rw [if_neg (aZ e)]at hJ
    revert hJ;cases x<;>cases y<;>exact id
 ·have:i=w:=by omega
  subst this
  exact aD (by simp) k
theorem OP {h:Hp} {kind:Int} {w a b:Nat} {R:Value->Hp->Prop} (ea:WO w a) (eb:WO w b)
  (k:R (I ((if kind=12 then(if b=0 then 2^w-1 else a/b)else if b=0 then a else a%b:Nat))) h):uy #[I kind,I w,I a,I b] h R:=by
 apply JQ
 refine uf_ ?_
 have h16:=ea.pow
 have hp:=bG w
 have ha:=ea.2
 have hw:=ea.1
 refine ac (fun e=>?_) (fun e=>?_)
 ·rw [if_pos (bU e)]at k
  refine ac (fun e0=>?_) (fun e0=>?_)
  ·have hb0:b=0:=by have:=bU e0;omega
   rw [if_pos hb0]at k
   rw [cl (by omega),if_neg (by omega),bD (by omega),bV (by omega) (by omega)]
   have:((2^w-1:Nat):Int)=((2^w:Nat):Int)-1:=by omega
   rw [<-this];exact k
  ·have hb0: ¬b=0:=by have:=aZ e0;omega
   rw [if_neg hb0]at k
   have hd:=Nat.div_le_self a b
   rw [if_neg (by omega),FF,et (by omega)];exact k
 ·rw [if_neg (aZ e)]at k
  refine ac (fun e0=>?_) (fun e0=>?_)
  ·have hb0:b=0:=by have:=bU e0;omega
   rw [if_pos hb0]at k;exact k
  ·have hb0: ¬b=0:=by have:=aZ e0;omega
   rw [if_neg hb0]at k
   rw [if_neg (by omega),eV];exact k
theorem MR {h:Hp} {kind:Int} {w a b:Nat} {R:Value->Hp->Prop} (hk:kind=14\/kind=15) (ea:WO w a) (eb:WO w b)
  (k:R (I ((if kind=14 then I6 w a b else IX w a b:Nat):Int)) h):tL #[I kind,I w,I a,I b] h R:=by
 apply Iu
 refine uf_ ?_
 have h16:=ea.pow
 have hp:=bG w
 have sa:=Dh ea
 have sb:=Dh eb
 have hw:=ea.1
 refine hR ea ⟨_,rfl,hR eb ⟨_,rfl,?_⟩⟩
 unfold I6 IX at k
 refine ac (fun e=>?_) (fun e=>?_)
 ·have e':=bU e
  rw [if_neg (by omega)]at k
  refine ac (fun e0=>?_) (fun e0=>?_)
  ·rw [if_pos (bU e0)]at k;exact k
  ·rw [if_neg (aZ e0)]at k
   rw [if_neg (aZ e0)]
   exact gA hw ⟨_,rfl,k⟩
 ·have e':kind=14:=by have:=aZ e;omega
  rw [if_pos e']at k
  by_cases hy:sgn w b=0
  ·rw [if_pos hy]at k
   have hyb:(sgn w b==0)=true:=by simpa using hy
   refine ap (fun J=>J (decide (sgn w a<0))) ?_ (fun J hJ=>aJ hyb hJ)
   refine ac (fun e=>?_) (fun e=>aJ hyb ?_)
   ·rw [if_pos (of_decide_eq_true e)]at k;exact k
   ·rw [if_neg (of_decide_eq_false e)]at k
    rw [cl (by omega),if_neg (by omega),bD (by omega),bV (by omega) (by omega)]
    have:((2^w-1:Nat):Int)=((2^w:Nat):Int)-1:=by omega
    rw [<-this];exact k
  ·rw [if_neg hy]at k
   have hyb:(sgn w b==0)=false:=by simpa using hy
   refine ap (fun J=>J false) ?_ (fun J hJ=>aD hyb hJ)
   refine aD rfl (aD hyb ?_)
   have hdiv:(Int.tdiv (sgn w a) (sgn w b)).natAbs<=65536:=by
    rw [Int.natAbs_tdiv]
    exact Nat.le_trans (Nat.div_le_self _ _) (by omega)
   rw [if_neg hy,bV (by omega) (by omega)]
   exact gA hw ⟨_,rfl,k⟩
theorem J8 {h:Hp} {kind:Int} {w a b:Nat} {R:Value->Hp->Prop} (hk:kind=16\/kind=17\/kind=18) (ea:WO w a) (hb:b<=65536)
  (k:R (I (CO kind w a b)) h):nP #[I kind,I w,I a,I b] h R:=by
 have hw:=ea.1
 have key: ∀f:Nat->Bool,cR w f=CO kind w a b->
   (∀i,i<w->f i=if kind=16 then decide (b<=i)&&a.testBit (i-b)else if kind=17 then decide (i+b<w)&&a.testBit (i+b)else if i+b<w then a.testBit (i+b)else a.testBit (w-1))->
   nP #[I kind,I w,I a,I b] h R:=by
  intro f hcode hf
  apply GB
  refine uf_ ?_
  refine av w (fun i vs h'=>vs= [I kind,I w,I a,I b,I (cR i f),I i]/\h'=h) ⟨rfl,rfl⟩ ?_
  rintro i _ h' next hi ⟨rfl,rfl⟩ hn
  refine⟨_,_,_,_,_,_,rfl,?_⟩
  by_cases hlt:i<w
  ·refine aJ (by simp [hlt]) ?_
   have hn':=hn hlt _ _ ⟨rfl,rfl⟩
   have hfi:=hf i hlt
   refine ap (fun J=>J (if kind=16 then(i:Int)-b else(i:Int)+b)) ?_ ?_
   ·refine ap (fun J=>J (decide (0<=(if kind=16 then(i:Int)-b else(i:Int)+b)/\(if kind=16 then(i:Int)-b else(i:Int)+b)<w))) ?_ ?_
    ·refine ap (fun J=>J (if f i then 1 else 0) h') ?_ ?_
     ·rw [cl (by omega),if_neg (by omega),JW (by omega),Jx (by omega) rfl,aA (by omega)]
      exact hn'
     ·intro J hJ
      refine ac (fun e=>?_) (fun e=>?_)
      ·have e':=of_decide_eq_true e
       by_cases h16:kind=16
       ·rw [if_pos h16]at e' hfi⊢
        rw [show (i:Int)-b=((i-b:Nat):Int) by omega]
        refine iU (by omega) ⟨_,rfl,?_⟩
        rw [hfi]at hJ
        have:decide (b<=i)=true:=by simp;omega
        rw [this,Bool.true_and]at hJ;exact hJ
       ·rw [if_neg h16]at e' hfi⊢
        rw [show (i:Int)+b=((i+b:Nat):Int) by omega]
        refine iU (by omega) ⟨_,rfl,?_⟩
        have h1:decide (i+b<w)=true:=by simp;omega
        rw [h1,Bool.true_and,if_pos (show i+b<w by omega),ite_self]at hfi
        rw [hfi]at hJ;exact hJ
      ·have e':=of_decide_eq_false e
       refine ac (fun e2=>?_) (fun e2=>?_)
       ·have h18:=bU e2
        rw [if_neg (by omega)]at e'
        rw [if_neg (by omega),if_neg (by omega),if_neg (by omega)]at hfi
        rw [show W ((w:Int)-1)=((w-1:Nat):Int) by rw [bV (by omega) (by omega)];omega]
        refine iU (by omega) ⟨_,rfl,?_⟩
        rw [hfi]at hJ;exact hJ
       ·have h18:=aZ e2
        have:f i=false:=by
         rw [hfi]
         by_cases h16:kind=16
         ·rw [if_pos h16]at e'⊢
          have:decide (b<=i)=false:=by simp;omega
          rw [this,Bool.false_and]
         ·rw [if_neg h16]at e'⊢
          rw [if_pos (by omega)]
          have:decide (i+b<w)=false:=by simp;omega
          rw [this,Bool.false_and]
        rw [this]at hJ
        exact hJ
    ·intro J hJ
     generalize (if kind=16 then(i:Int)-b else(i:Int)+b)=z at*
     refine ac (fun e=>?_) (fun e=>?_)
     ·have:0<=z:=of_decide_eq_true e
      rw [show decide (0<=z/\z<(w:Int))=decide (z<(w:Int)) by rw [decide_eq_decide];omega]at hJ;exact hJ
     ·have: ¬0<=z:=of_decide_eq_false e
      rw [show decide (0<=z/\z<(w:Int))=false by rw [decide_eq_false_iff_not];omega]at hJ;exact hJ
   ·intro J hJ
    refine ac (fun e=>?_) (fun e=>?_)
    ·rw [if_pos (bU e)]at hJ;rw [bV (by omega) (by omega)];exact hJ
    ·rw [if_neg (aZ e)]at hJ;rw [bV (by omega) (by omega)];exact hJ
  ·have:i=w:=by omega
   subst this
   refine aD (by simp) ?_
   rw [hcode];exact k
 rcases hk with rfl|rfl|rfl
 ·exact key (fun i=>decide (b<=i)&&a.testBit (i-b)) Tx (fun i _=>rfl)
 ·exact key (fun i=>decide (i+b<w)&&a.testBit (i+b)) (Tw ea.2) (fun i _=>rfl)
 ·exact key (fun i=>if i+b<w then a.testBit (i+b)else a.testBit (w-1)) (T3 hw.1 hw.2 ea.2) (fun i _=>rfl)
theorem Mc {h:Hp} {kind:Int} {w a b:Nat} {R:Value->Hp->Prop} (hk:kind=19\/kind=20) (ea:WO w a)
  (k:R (I ((if kind=19 then GZ w a (b%w)else GZ w a ((w-b%w)%w):Nat))) h):pC #[I kind,I w,I a,I b] h R:=by
 have hw:=ea.1
 have hm:b%w<w:=Nat.mod_lt _ (by omega)
 have key: ∀s:Nat,s<w->R (I (GZ w a s)) h->(∀i,i<w->(if kind=20 then(i+w-b%w)%w else(i+b%w)%w)=(i+s)%w)->
   pC #[I kind,I w,I a,I b] h R:=by
  intro s hs k hto
  apply HU
  refine uf_ ?_
  refine av w (fun i vs h'=>vs= [I kind,I w,I a,I b,I (cR w fun j=>decide ((j+(w-s))%w<i)&&a.testBit ((j+(w-s))%w)),I i]/\h'=h) ⟨?_,rfl⟩ ?_
  ·have:cR w (fun j=>decide ((j+(w-s))%w<0)&&a.testBit ((j+(w-s))%w))=0:=
    jf (bG w) fun i _=>by simp
   rw [this];rfl
  rintro i _ h' next hi ⟨rfl,rfl⟩ hn
  refine⟨_,_,_,_,_,_,rfl,?_⟩
  by_cases hlt:i<w
  ·refine aJ (by simp [hlt]) ?_
   have hn':=hn hlt _ _ ⟨rfl,rfl⟩
   have hst:=QW (a:=a) hs hlt
   have hto:=hto i hlt
   rw [if_neg (by omega),eV]
   have hpw:(i+s)%w<w:=Nat.mod_lt _ (by omega)
   refine ap (fun J=>J ((if kind=20 then i+w-b%w else i+b%w:Nat):Int)) ?_ ?_
   ·have ht:Int.tmod ((if kind=20 then i+w-b%w else i+b%w:Nat):Int) (w:Int)=(((i+s)%w:Nat):Int):=by
     rw [eV,<-hto]
     split<;>rfl
    rw [if_neg (by omega),ht,cl (by omega)]
    have step:W ((cR w (fun j=>decide ((j+(w-s))%w<i)&&a.testBit ((j+(w-s))%w)):Int)+au (if a.testBit i then 1 else 0) (((i+s)%w:Nat):Int))=
      ((cR w (fun j=>decide ((j+(w-s))%w<i+1)&&a.testBit ((j+(w-s))%w)):Nat):Int):=by
     rw [JW (by omega),<-hst,<-Int.natCast_add,et]
     rw [hst]
     have:=qY w (fun j=>decide ((j+(w-s))%w<i+1)&&a.testBit ((j+(w-s))%w))
     have:=ze hw.2
     omega
    have one:dR #[I a,I i] h' fun v25 h26=> ∃(x27:Int),v25=(I x27)/\(if(((i+s)%w:Nat):Int)<0 then False else next [I kind,I w,I a,I b,I (W ((cR w (fun j=>decide ((j+(w-s))%w<i)&&a.testBit ((j+(w-s))%w)):Int)+au x27 (((i+s)%w:Nat):Int))),I (W ((i:Int)+1))] h26):=by
     refine iU (by omega) ⟨_,rfl,?_⟩
     rw [if_neg (by omega),step,aA (by omega)]
     exact hn'
    exact⟨one,one⟩
   ·intro J hJ
    refine ac (fun e=>?_) (fun e=>?_)
    ·rw [if_pos (bU e)]at hJ
     rw [if_neg (by omega)]
     have:W (W ((i:Int)+w)-((b%w:Nat):Int))=((i+w-b%w:Nat):Int):=by rw [bV (n:=(i:Int)+w) (by omega) (by omega),bV (by omega) (by omega)];omega
     rw [this];exact hJ
    ·rw [if_neg (aZ e)]at hJ
     have:W ((i:Int)+((b%w:Nat):Int))=((i+b%w:Nat):Int):=by rw [bV (by omega) (by omega)];omega
     rw [this];exact hJ
  ·have:i=w:=by omega
   subst this
   refine aD (by simp) ?_
   have:cR i (fun j=>decide ((j+(i-s))%i<i)&&a.testBit ((j+(i-s))%i))=GZ i a s:=by
    rw [<-SX ea.2 hs]
    refine rq fun j _=>?_
    have:decide ((j+(i-s))%i<i)=true:=by
     rw [decide_eq_true_eq];exact Nat.mod_lt _ (by omega)
    rw [this,Bool.true_and]
   rw [this];exact k
 rcases hk with rfl|rfl
 ·refine key (b%w) hm k fun i _=>?_
  rw [if_neg (by omega)]
 ·rw [if_neg (by omega)]at k
  refine key ((w-b%w)%w) (Nat.mod_lt _ (by omega)) k fun i _=>?_
  rw [if_pos rfl,Nat.add_mod_mod]
  congr 1
  omega
theorem ye {b:Bool} {R:Value->Hp->Prop} {h:Hp} {c:Bool} (e:b=c) (k:R (.tuple #[.bool c, .bool true]) h):R (.tuple #[.bool b, .bool true]) h:=by rw [e];exact k
theorem MJ {h:Hp} {kind:Int} {w a b:Nat} {R:Value->Hp->Prop} (ea:WO w a) (eb:WO w b)
  (k1:21<=kind/\kind<=28->R (.tuple #[.bool (Dk kind w a b), .bool true]) h)
  (k2: ¬(21<=kind/\kind<=28)->R (.tuple #[.bool false, .bool false]) h):tt #[I kind,I w,I a,I b] h R:=by
 apply Ia
 refine uf_ ?_
 have h16:=ea.pow
 have hp:=bG w
 have sa:=Dh ea
 have sb:=Dh eb
 have ha:=ea.2
 have hb:=eb.2
 have hw:=ea.1
 have dd: ∀{p q:Prop} [Decidable p] [Decidable q],(p↔q)->decide p=decide q:=fun h=>by rw [decide_eq_decide];exact h
 refine hR ea ⟨_,rfl,hR eb ⟨_,rfl,?_⟩⟩
 refine ac (fun e=>?_) (fun e1=>?_)
 ·have e:=bU e
  subst e
  refine ye ?_ (k1 (by omega))
  show _=decide (a=b)
  rw [Bool.eq_iff_iff];simp;omega
 refine ac (fun e=>?_) (fun e2=>?_)
 ·have e:=bU e
  subst e
  exact ye (dd (by omega)) (k1 (by omega))
 refine ac (fun e=>?_) (fun e3=>?_)
 ·have e:=bU e
  subst e
  exact k1 (by omega)
 refine ac (fun e=>?_) (fun e4=>?_)
 ·have e:=bU e
  subst e
  exact ye (dd (by omega)) (k1 (by omega))
 refine ac (fun e=>?_) (fun e5=>?_)
 ·have e:=bU e
  subst e
  exact k1 (by omega)
 refine ac (fun e=>?_) (fun e6=>?_)
 ·have e:=bU e
  subst e
  have hab:W ((a:Int)+b)=((a+b:Nat):Int):=by rw [bV (by omega) (by omega)];omega
  rw [hab]
  refine cr ⟨_,rfl,?_⟩
  refine ye ?_ (k1 (by omega))
  show _=decide (2^w<=a+b)
  rw [Bool.eq_iff_iff]
  have:=jL (w:=(w:Int)) (v:=((a+b:Nat):Int))
  rw [Int.toNat_natCast]at this
  simp only [Bool.not_eq_true',decide_eq_true_eq,<-Bool.not_eq_true,this]
  omega
 refine ac (fun e=>?_) (fun e7=>?_)
 ·have e:=bU e
  subst e
  rw [bV (by omega) (by omega)]
  refine gA hw ⟨_,rfl,hR ⟨hw,jh _ _⟩ ⟨_,rfl,?_⟩⟩
  refine ye ?_ (k1 (by omega))
  show _= !decide (-((2^(w-1):Nat):Int)<=sgn w a+sgn w b/\sgn w a+sgn w b<((2^(w-1):Nat):Int))
  have:=ZZ (a:=a) (b:=b) hw.1
  rw [Bool.eq_iff_iff,bne_iff_ne,this,Bool.not_eq_true',decide_eq_false_iff_not]
 refine ac (fun e=>?_) (fun e8=>?_)
 ·have e:=bU e
  subst e
  have hmul:=C3 (a:=a) (b:=b) (by omega) (by omega)
  have hmi:(a:Int)*(b:Int)=((a*b:Nat):Int):=(Int.natCast_mul _ _).symm
  rw [hmi,et (by omega)]
  refine cr ⟨_,rfl,?_⟩
  refine ye ?_ (k1 (by omega))
  show _=decide (2^w<=a*b)
  rw [Bool.eq_iff_iff]
  have:=jL (w:=(w:Int)) (v:=((a*b:Nat):Int))
  rw [Int.toNat_natCast]at this
  simp only [Bool.not_eq_true',decide_eq_true_eq,<-Bool.not_eq_true,this]
  generalize a*b=ab at*
  omega
 ·have:=aZ e1;have:=aZ e2;have:=aZ e3;have:=aZ e4;have:=aZ e5;have:=aZ e6;have:=aZ e7;have:=aZ e8
  exact k2 (by omega)
theorem A7 {h:Hp} {kind:Int} {w a b:Nat} {R:Value->Hp->Prop} (hk:6<=kind/\kind<=28) (ea:WO w a) (eb:WO w b)
  (k:R (.tuple #[I (rj kind w a b).1,I (rj kind w a b).2, .bool true]) h):nq #[I kind,I w,I a,I b] h R:=by
 apply GV
 refine uf_ ?_
 have h16:=ea.pow
 have hp:=bG w
 have ha:=ea.2
 have hb:=eb.2
 have hw:=ea.1
 have hmul:=C3 (a:=a) (b:=b) (by omega) (by omega)
 refine ap (fun J=>J false h) ?_ (fun J hJ=>cr ⟨_,rfl,aD (by rw [ea.ok];rfl) (cr ⟨_,rfl,by rw [eb.ok];exact hJ⟩)⟩)
 refine aD rfl (MJ ea eb (fun h21=>⟨_,_,rfl,aJ rfl (ou ⟨_,rfl,?_⟩)⟩) (fun h21=>⟨_,_,rfl,aD rfl ?_⟩))
 ·have t:rj kind w a b=(if Dk kind w a b then 1 else 0,1):=by unfold rj;rw [if_neg (by omega)]
  rw [t]at k
  cases hs:Dk kind w a b
  ·rw [hs]at k;simpa using k
  ·rw [hs]at k;simpa using k
 have t:rj kind w a b=(Gr kind w a b,w):=by unfold rj;rw [if_pos (by omega)]
 rw [t]at k
 unfold Gr at k
 simp only at k
 refine ap (fun J=>J (decide (kind=6\/kind=7\/kind=8))) ?_ ?_
 rotate_left
 ·intro J hJ
  refine ac (fun e=>?_) (fun e=>ac (fun e2=>?_) (fun e2=>?_))
  ·rw [decide_eq_true (.inl (bU e))]at hJ;exact hJ
  ·rw [decide_eq_true (.inr (.inl (bU e2)))]at hJ;exact hJ
  ·have:(kind==8)=decide (kind=6\/kind=7\/kind=8):=by
    have h1:=aZ e
    have h2:=aZ e2
    rw [Bool.eq_iff_iff];simp [h1,h2]
   rw [this];exact hJ
 refine ac (fun e=>?_) (fun e678=>?_)
 ·have e':kind=6\/kind=7\/kind=8:=by simpa using e
  refine Mu hw.2 ⟨_,rfl,?_⟩
  rcases e' with rfl|rfl|rfl
  ·rw [if_pos rfl,<-G7 ha]at k;exact k
  ·rw [if_neg (by decide),if_pos rfl,<-PG ha hb]at k;exact k
  ·rw [if_neg (by decide),if_neg (by decide),if_pos rfl,<-UE ha hb]at k;exact k
 have n6: ¬kind=6/\ ¬kind=7/\ ¬kind=8:=by simpa using e678
 rw [if_neg n6.1,if_neg n6.2.1,if_neg n6.2.2]at k
 refine ac (fun e=>?_) (fun e9=>?_)
 ·rw [if_pos (bU e)]at k
  rw [bV (by omega) (by omega)]
  exact gA hw ⟨_,rfl,k⟩
 rw [if_neg (aZ e9)]at k
 refine ac (fun e=>?_) (fun e10=>?_)
 ·rw [if_pos (bU e)]at k
  rw [bV (by omega) (by omega)]
  exact gA hw ⟨_,rfl,k⟩
 rw [if_neg (aZ e10)]at k
 refine ac (fun e=>?_) (fun e11=>?_)
 ·rw [if_pos (bU e)]at k
  have hmi:(a:Int)*(b:Int)=((a*b:Nat):Int):=(Int.natCast_mul _ _).symm
  rw [hmi]at k⊢
  generalize a*b=ab at*
  rw [et (by omega)]
  exact gA hw ⟨_,rfl,k⟩
 rw [if_neg (aZ e11)]at k
 refine ap (fun J=>J (decide (kind=12\/kind=13))) ?_ ?_
 rotate_left
 ·intro J hJ
  refine ac (fun e=>?_) (fun e=>?_)
  ·rw [decide_eq_true (.inl (bU e))]at hJ;exact hJ
  ·have:(kind==13)=decide (kind=12\/kind=13):=by
    have:=aZ e
    rw [Bool.eq_iff_iff];simp [this]
   rw [this];exact hJ
 refine ac (fun e=>?_) (fun e1213=>?_)
 ·have e':kind=12\/kind=13:=by simpa using e
  refine OP ea eb ⟨_,rfl,?_⟩
  rcases e' with rfl|rfl
  ·simpa using k
  ·simpa using k
 have n12: ¬kind=12/\ ¬kind=13:=by simpa using e1213
 rw [if_neg n12.1,if_neg n12.2]at k
 refine ap (fun J=>J (decide (kind=14\/kind=15))) ?_ ?_
 rotate_left
 ·intro J hJ
  refine ac (fun e=>?_) (fun e=>?_)
  ·rw [decide_eq_true (.inl (bU e))]at hJ;exact hJ
  ·have:(kind==15)=decide (kind=14\/kind=15):=by
    have:=aZ e
    rw [Bool.eq_iff_iff];simp [this]
   rw [this];exact hJ
 refine ac (fun e=>?_) (fun e1415=>?_)
 ·have e':kind=14\/kind=15:=by simpa using e
  refine MR e' ea eb ⟨_,rfl,?_⟩
  rcases e' with rfl|rfl
  ·simpa using k
  ·simpa using k
 have n14: ¬kind=14/\ ¬kind=15:=by simpa using e1415
 rw [if_neg n14.1,if_neg n14.2]at k
 refine ap (fun J=>J (decide (kind=16\/kind=17\/kind=18))) ?_ ?_
 rotate_left
 ·intro J hJ
  refine ac (fun e=>?_) (fun e=>ac (fun e2=>?_) (fun e2=>?_))
  ·rw [decide_eq_true (.inl (bU e))]at hJ;exact hJ
  ·rw [decide_eq_true (.inr (.inl (bU e2)))]at hJ;exact hJ
  ·have:(kind==18)=decide (kind=16\/kind=17\/kind=18):=by
    have h1:=aZ e
    have h2:=aZ e2
    rw [Bool.eq_iff_iff];simp [h1,h2]
   rw [this];exact hJ
 refine ac (fun e=>?_) (fun e1618=>?_)
 ·have e':kind=16\/kind=17\/kind=18:=by simpa using e
  refine J8 e' ea (by omega) ⟨_,rfl,?_⟩
  unfold CO
  rcases e' with rfl|rfl|rfl
  ·simpa using k
  ·simpa using k
  ·simpa using k
 have n16: ¬kind=16/\ ¬kind=17/\ ¬kind=18:=by simpa using e1618
 rw [if_neg n16.1,if_neg n16.2.1,if_neg n16.2.2]at k
 have h1920:kind=19\/kind=20:=by
  have:=aZ e9;have:=aZ e10;have:=aZ e11
  omega
 refine ap (fun J=>J true) ?_ ?_
 rotate_left
 ·intro J hJ
  refine ac (fun e=>hJ) (fun e=>?_)
  have:(kind==20)=true:=by
   have:=aZ e
   rw [beq_iff_eq];omega
  rw [this];exact hJ
 refine aJ rfl (Mc h1920 ea ⟨_,rfl,k⟩)
theorem SC {w a more:Nat} {sign:Bool} (e:WO w a):GW w a more sign<2^(w+more):=by
 unfold GW
 cases sign
 ·have:=e.2
  have:2^w<=2^(w+more):=Nat.pow_le_pow_right (by omega) (by omega)
  rw [if_neg (by decide)];omega
 ·exact jh _ _
theorem Qv {h:Hp} {w a more:Nat} {s:Bool} {R:Value->Hp->Prop} (e:WO w a) (hm:w+more<=16)
  (k:R (I (GW w a more s)) h):xt #[I w,I a,I more, .bool s] h R:=by
 apply LF
 refine uf_ ?_
 unfold GW at k
 refine ac (fun es=>?_) (fun es=>?_)
 ·rw [if_pos es]at k
  refine mO e ⟨_,rfl,?_⟩
  rw [show W ((w:Int)+more)=((w+more:Nat):Int) by rw [bV (by omega) (by omega)];omega]
  refine dz (by omega) ⟨_,rfl,?_⟩
  rw [gF (by omega)];exact k
 ·rw [if_neg (by rw [es];decide)]at k;exact k
theorem HZ {h:Hp} {w a more:Nat} {s:Bool} {R:Value->Hp->Prop} (e:WO w a) (hm:w+more<=16)
  (k:R (.tuple #[I (GW w a more s),I ((w+more:Nat):Int), .bool true]) h):jR #[I w,I a,I more, .bool s] h R:=by
 apply vM
 refine uf_ ?_
 unfold GW at k
 have hw:W ((w:Int)+more)=((w+more:Nat):Int):=by rw [bV (by omega) (by omega)];omega
 have h1:=e.1
 refine ap (fun J=>J false h) ?_ (fun J hJ=>cr ⟨_,rfl,aD (by rw [e.ok];rfl) (aD (by simp) ?_)⟩)
 ·refine aD rfl (ac (fun es=>?_) (fun es=>?_))
  ·rw [if_pos es]at k
   rw [hw]
   exact hR e ⟨_,rfl,gA (by omega) ⟨_,rfl,k⟩⟩
  ·rw [if_neg (by rw [es];decide)]at k
   rw [hw];exact k
 ·rw [bV (by omega) (by omega),show decide ((more:Int)>16-(w:Int))=false by rw [decide_eq_false_iff_not];omega];exact hJ
theorem Ib {h:Hp} {w a u b:Nat} {R:Value->Hp->Prop} (ea:WO w a) (eb:WO u b) (hm:w+u<=16)
  (k:R (.tuple #[I ((a*2^u+b:Nat):Int),I ((w+u:Nat):Int), .bool true]) h):jW #[I w,I a,I u,I b] h R:=by
 apply vN
 refine uf_ ?_
 have hw:W ((w:Int)+u)=((w+u:Nat):Int):=by rw [bV (by omega) (by omega)];omega
 have h1:=ea.1
 have h2:=eb.1
 have ha:=ea.2
 have hb:=eb.2
 have h16a:=ea.pow
 have h16b:=eb.pow
 have hmul:=C3 (a:=a) (b:=2^u) (by omega) (by omega)
 refine ap (fun J=>J false h) ?_ (fun J hJ=>cr ⟨_,rfl,aD (by rw [ea.ok];rfl) (cr ⟨_,rfl,aD (by rw [eb.ok];rfl) ?_⟩)⟩)
 ·rw [cl (by omega)]
  refine aD rfl ?_
  rw [if_neg (by omega),gJ (by omega) (by omega),hw,<-Int.natCast_add,et (by omega)];exact k
 ·rw [hw,show decide (((w+u:Nat):Int)>16)=false by rw [decide_eq_false_iff_not];omega];exact hJ
theorem Gv {h:Hp} {w a hi lo:Nat} {R:Value->Hp->Prop} (ea:WO w a) (h1:lo<=hi) (h2:hi<w)
  (k:R (.tuple #[I ((a/2^lo%2^(hi-lo+1):Nat):Int),I ((hi-lo+1:Nat):Int), .bool true]) h):je #[I w,I a,I hi,I lo] h R:=by
 apply tX
 refine uf_ ?_
 have e0:=ea.1
 have hw:W (W ((hi:Int)-lo)+1)=((hi-lo+1:Nat):Int):=by rw [bV (n:=(hi:Int)-lo) (by omega) (by omega),bV (by omega) (by omega)];omega
 have e1:=ea.1
 have hp:=bG (hi-lo+1)
 refine ap (fun J=>J false h) ?_ (fun J hJ=>cr ⟨_,rfl,aD (by rw [ea.ok];rfl) (aD (by simp) (aD (by simp;omega) ?_))⟩)
 ·refine aD rfl ?_
  rw [hw,cl (by omega),cl (by omega),if_neg (by omega),if_neg (by omega),bD (by omega),if_neg (by omega),kx (by omega),eV]
  exact k
 ·rw [show decide ((hi:Int)>=(w:Int))=false by rw [decide_eq_false_iff_not];omega];exact hJ
theorem aj {h:Hp} {cs:Nat->List Value} {n:Nat->Nat} {P:Nat->Hp->Prop}
  (k: ∀b h',h b=none->h.le h'->h' b=some (.inl ⟨cs b,n b,false⟩)->P b h'): ∀b,h b=none->cu (h.row b (cs b) (n b)) fun h'=>P b h':=
 fun b hb=>k b _ hb (eO _ _ hb) (bR _ _ _ _)
theorem di {b c:Bool} {R:Value->Hp->Prop} {h:Hp} (e:b=c) (k:R (.bool c) h):R (.bool b) h:=by rw [e];exact k
theorem qr {b c:Int} {R:Value->Hp->Prop} {h:Hp} (e:b=c) (k:R (I c) h):R (I b) h:=by rw [e];exact k
theorem Ym {P:Bool->Prop} {c b:Bool} (k:P (c&&b)):ad c (P b) (P false):=by cases c<;>exact k
theorem Zu {P:Bool->Prop} {c b:Bool} (k:P (c||b)):ad c (P true) (P b):=by cases c<;>exact k
abbrev un (s:SortP):Value:= .agg #[I s.idx,I s.wid]
abbrev Dy (n:NodeP):Value:= .agg #[I n.kind,I n.a,I n.b,I n.c,I n.n,I n.m,I n.sort.idx,I n.sort.wid, .string n.name]
abbrev Jl (b:BindP):Value:= .agg #[I b.state,I b.node]
theorem Fh (s:SortP):bQ s=(decide (0<=s.idx/\s.idx<=2)&&decide (1<=s.wid/\s.wid<=16)):=by
 unfold bQ;rw [Bool.eq_iff_iff];simp
theorem bZ {s:SortP}:bQ s=true↔(0<=s.idx/\s.idx<=2)/\(1<=s.wid/\s.wid<=16):=by
 unfold bQ;simp
theorem pc {h:Hp} {i w:Int} {R:Value->Hp->Prop} (k:R (.bool (bQ ⟨i,w⟩)) h):lE #[.agg #[I i,I w]] h R:=by
 refine ACalls.drop (Hz ?_)
 refine uf_ ?_
 refine aj fun b h1 hb l1 f1=>?_
 simp only [vm,mm,aq f1]
 rw [Fh]at k
 refine fv ⟨_,rfl,ac (fun e=>?_) (fun e=>⟨_,l1,di ?_ k⟩)⟩
 ·simp only [vm,mm,aq f1]
  exact AI ⟨_,rfl,⟨_,l1,di (by simp only [e,Bool.true_and]) k⟩⟩
 ·simp only [e,Bool.false_and]
theorem oR {h:Hp} {i w:Int} {R:Value->Hp->Prop} (k:R (.bool (bQ ⟨i,w⟩)) h):lT #[.agg #[I i,I w]] h R:=by
 refine ACalls.drop (Ip ?_)
 refine uf_ ?_
 refine aj fun b h1 hb l1 f1=>?_
 simp only [vm,mm,aq f1]
 rw [Fh]at k
 refine dx ⟨_,rfl,ac (fun e=>?_) (fun e=>⟨_,l1,di ?_ k⟩)⟩
 ·simp only [vm,mm,aq f1]
  exact uA ⟨_,rfl,⟨_,l1,di (by simp only [e,Bool.true_and]) k⟩⟩
 ·simp only [e,Bool.false_and]
theorem uM (s:SortP):cL s<=4:=by
 unfold cL
 split
 ·rename_i e
  have:=bZ.1 e
  have:=Nat.pow_le_pow_right (n:=2) (by omega) (show s.idx.toNat<=2 by omega)
  simpa using this
 ·omega
theorem lv {h:Hp} {i w:Int} {R:Value->Hp->Prop} (k:R (I (cL ⟨i,w⟩)) h):i8 #[.agg #[I i,I w]] h R:=by
 refine ACalls.drop (BQ ?_)
 refine uf_ ?_
 refine aj fun b h1 hb l1 f1=>?_
 simp only [vm,mm,aq f1]
 unfold cL at k
 refine pc ⟨_,rfl,ac (fun e=>⟨_,l1,?_⟩) (fun e=>?_)⟩
 ·rw [if_neg (by simpa using e)]at k;exact k
 ·have e':bQ ⟨i,w⟩=true:=by simpa using e
  have:=bZ.1 e'
  rw [if_pos e']at k
  simp only [vm,mm,aq f1]
  obtain⟨n,rfl⟩: ∃n:Nat,i=n:=⟨i.toNat,by simp only at this;omega⟩
  simp only at this
  rw [if_neg (by omega),bD (by omega)]
  exact⟨_,l1,k⟩
theorem fe {h:Hp} {i w:Int} {R:Value->Hp->Prop} (k:R (I (cL ⟨i,w⟩)) h):eA #[.agg #[I i,I w]] h R:=by
 refine ACalls.drop (CE ?_)
 refine uf_ ?_
 refine aj fun b h1 hb l1 f1=>?_
 simp only [vm,mm,aq f1]
 unfold cL at k
 refine oR ⟨_,rfl,ac (fun e=>⟨_,l1,?_⟩) (fun e=>?_)⟩
 ·rw [if_neg (by simpa using e)]at k;exact k
 ·have e':bQ ⟨i,w⟩=true:=by simpa using e
  have:=bZ.1 e'
  rw [if_pos e']at k
  simp only [vm,mm,aq f1]
  obtain⟨n,rfl⟩: ∃n:Nat,i=n:=⟨i.toNat,by simp only at this;omega⟩
  simp only at this
  rw [cl (by omega),if_neg (by omega),bD (by omega)]
  exact⟨_,l1,k⟩
theorem xk (s:SortP):dH s<=64:=by
 unfold dH
 by_cases e:bQ s=true
 ·have:=bZ.1 e
  have h1:=uM s
  have:=Nat.mul_le_mul h1 (show s.wid.toNat<=16 by omega)
  omega
 ·have:cL s=0:=by unfold cL;rw [if_neg e]
  rw [this];omega
theorem BF {s:SortP} {x:Int} (hx:bQ s=true->x=s.wid):(cL s:Int)*x=((dH s:Nat):Int):=by
 unfold dH
 by_cases e:bQ s=true
 ·have:=bZ.1 e
  rw [hx e,Int.natCast_mul]
  congr 1
  omega
 ·have:cL s=0:=by unfold cL;rw [if_neg e]
  rw [this];simp
theorem rG {h:Hp} {i w:Int} {R:Value->Hp->Prop} (k:R (I (dH ⟨i,w⟩)) h):mb #[.agg #[I i,I w]] h R:=by
 refine ACalls.drop (Eh ?_)
 refine uf_ ?_
 refine aj fun b h1 hb l1 f1=>?_
 simp only [vm,mm,aq f1]
 refine lv ⟨_,rfl,rfl,⟨_,l1,qr ?_ k⟩⟩
 have:=xk ⟨i,w⟩
 rw [BF,et (by omega)]
 intro e
 have:=bZ.1 e
 simp only at this⊢
 split<;>split<;>omega
theorem gM {h:Hp} {i w:Int} {R:Value->Hp->Prop} (k:R (I (dH ⟨i,w⟩)) h):ge #[.agg #[I i,I w]] h R:=by
 refine ACalls.drop (Ej ?_)
 refine uf_ ?_
 refine aj fun b h1 hb l1 f1=>?_
 simp only [vm,mm,aq f1]
 refine fe ⟨_,rfl,rfl,⟨_,l1,qr ?_ k⟩⟩
 have:=xk ⟨i,w⟩
 rw [BF (fun _=>rfl),et (by omega)]
theorem dW {α:Sort _} (c:α) (k:α->Prop):aH c k=k c:=rfl
theorem uK {P:Prop} (k:P:=by((try rw [Bool.eq_iff_iff]);((try simp only [decide_eq_true_eq,decide_eq_false_iff_not,beq_iff_eq,beq_eq_false_iff_ne,bne_iff_ne,bne_eq_false_iff_eq,ne_eq,Bool.not_eq_true',Bool.not_eq_false',Bool.and_eq_true,Bool.or_eq_true,Bool.true_and,Bool.false_and,Bool.and_true,Bool.and_false,Bool.true_or,Bool.false_or,reduceCtorEq,iff_false,iff_true,false_iff,true_iff,Bool.not_true,Bool.not_false]at*));try ((repeat' split)<;>omega))):P:=k
theorem fo {α:Sort _} {b c:α} {J:α->Prop} (e:b=c) (k:J c):J b:=by rw [e];exact k
theorem ik {h:Hp} {kind:Int} {R:Value->Hp->Prop} (k:R (I (ar kind)) h):iA #[I kind] h R:=by
 apply Kk
 refine uf_ ?_
 simp only [dW]
 repeat' (first|(with_reducible first|refine aJ (b:=true) rfl ?_|refine aD (b:=false) rfl ?_|refine ac (fun _=>?_) fun _=>?_)|(refine fv ⟨_,rfl,?_⟩)|(refine qr ?_ k))
 all_goals (clear k;unfold ar;(exact uK))
theorem nw {h:Hp} {kind:Int} {R:Value->Hp->Prop} (k:R (I (ar kind)) h):gV #[I kind] h R:=by
 apply Hh
 refine uf_ ?_
 refine ap (fun J=>J (decide ((1<=kind/\kind<=5)\/(30<=kind/\kind<=32)))) ?_ (fun J hJ=>?_)
 rotate_left
 ·clear k;repeat' (first|(with_reducible first|refine aJ (b:=true) rfl ?_|refine aD (b:=false) rfl ?_|refine ac (fun _=>?_) fun _=>?_)|(refine fo ?_ hJ))
  all_goals (clear hJ;(exact uK))
 (with_reducible first|refine aJ (b:=true) rfl ?_|refine aD (b:=false) rfl ?_|refine ac (fun _=>?_) fun _=>?_)
 ·refine qr ?_ k;clear k;unfold ar;(exact uK)
 refine ap (fun J=>J (decide ((6<=kind/\kind<=29)\/kind=37))) ?_ (fun J hJ=>?_)
 rotate_left
 ·clear k;repeat' (first|(with_reducible first|refine aJ (b:=true) rfl ?_|refine aD (b:=false) rfl ?_|refine ac (fun _=>?_) fun _=>?_)|(refine fo ?_ hJ))
  all_goals (clear hJ;(exact uK))
 (with_reducible first|refine aJ (b:=true) rfl ?_|refine aD (b:=false) rfl ?_|refine ac (fun _=>?_) fun _=>?_)
 ·refine qr ?_ k;clear k;unfold ar;(exact uK)
 simp only [dW]
 repeat' (first|(with_reducible first|refine aJ (b:=true) rfl ?_|refine aD (b:=false) rfl ?_|refine ac (fun _=>?_) fun _=>?_)|(refine qr ?_ k))
 all_goals (clear k;unfold ar;(exact uK))
theorem Fo {h:Hp} {kind:Int} {R:Value->Hp->Prop} (k:R (.bool (fE kind)) h):df #[I kind] h R:=by
 apply JK
 refine uf_ ?_
 refine Zu (P:=fun b=>R (.bool b) h) (di ?_ k)
 unfold fE
 rw [Bool.eq_iff_iff];simp
theorem JM (s:ByteArray) (i:Nat):s[i]?=s.data.toList[i]?:=by
 rcases s with ⟨⟨l⟩⟩
 by_cases h:i<l.length
 ·rw [getElem?_pos _ i (show i<(ByteArray.mk ⟨l⟩).size from h)]
  simp only [List.getElem?_eq_getElem h]
  rfl
 ·rw [getElem?_neg _ i (show¬i<(ByteArray.mk ⟨l⟩).size from h)]
  simp only [List.getElem?_eq_none (Nat.le_of_not_lt h)]
theorem Bf (s:ByteArray):s.size=s.data.toList.length:=by rcases s with ⟨⟨l⟩⟩;rfl
theorem EX {s:ByteArray} {i:Nat} (h:i<s.size): ∃c,s[i]?=some c:=by
 rw [JM];rw [Bf]at h
 exact⟨_,List.getElem?_eq_getElem h⟩
theorem xy (s:ByteArray):(ByteArray.toList s==ByteArray.toList ⟨#[]⟩)=decide (s.size=0):=by
 rcases s with ⟨⟨l⟩⟩
 rw [kN,show (⟨#[]⟩:ByteArray)=⟨List.toArray []⟩from rfl,kN,Bf,Bool.eq_iff_iff]
 simp
theorem qh {s:ByteArray}:fL s=true↔(1<=s.size/\s.size<=8)/\ ∀(j:Nat) (c:UInt8),s[j]?=some c->gq c=true\/(j≠0/\mV c=true):=by
 unfold fL
 simp only [JM]
 have hs:=Bf s
 generalize s.data.toList=l at*
 rw [Bool.and_eq_true,decide_eq_true_eq]
 refine and_congr_right fun h1=>?_
 cases l with
 |nil=>have:s.size=0:=hs;omega
 |cons c r=>
  simp only [Bool.and_eq_true,List.all_eq_true,Bool.or_eq_true]
  constructor
  ·rintro ⟨h2,h3⟩ j d hd
   cases j with
   |zero=>simp at hd;subst hd;exact .inl h2
   |succ j=>
    simp only [List.getElem?_cons_succ]at hd
    exact(h3 d (List.mem_of_getElem? hd)).imp id fun h=>⟨by omega,h⟩
  ·intro h
   refine⟨?_,fun d hd=>?_⟩
   ·rcases h 0 c rfl with h|h
    ·exact h
    ·exact absurd rfl h.1
   ·obtain⟨j,hj,rfl⟩:=List.getElem_of_mem hd
    rcases h (j+1) r[j] (by simp)with h|h
    ·exact .inl h
    ·exact .inr h.2
theorem uT {s:ByteArray} {j:Nat} {c:UInt8} (e:s[j]?=some c) (h1:gq c=false) (h2:j=0\/mV c=false):fL s=false:=by
 rw [Bool.eq_false_iff]
 intro h
 rcases (qh.1 h).2 j c e with h|h
 ·rw [h1]at h;cases h
 ·rcases h2 with h2|h2
  ·exact h.1 h2
  ·rw [h2]at h;cases h.2
theorem Ic {h:Hp} {c:UInt8} {R:Value->Hp->Prop} (k:R (.bool (gq c)) h):qw #[.int .u8 ((UInt8.toNat c:Nat):Int)] h R:=by
 apply EC
 refine uf_ ?_
 refine Ym (P:=fun b=>R (.bool b) h) (di ?_ k)
 unfold gq
 (exact uK)
theorem Cw {h:Hp} {s:ByteArray} {R:Value->Hp->Prop} (k:R (.bool (fL s)) h) (hsz:s.size<9223372036854775807):iM #[.string s] h R:=by
 apply HV
 refine uf_ ?_
 refine av s.size (fun i vs h'=>(∀(j:Nat) (c:UInt8),j<i->s[j]?=some c->gq c=true\/(j≠0/\mV c=true))/\vs= [.string s,I s.size,I i]/\h'=h) ⟨fun j c hj=>by omega,rfl,rfl⟩ ?_
 rintro i _ h' next hi ⟨hg,rfl,rfl⟩ hn
 refine⟨_,_,_,rfl,?_⟩
 by_cases hlt:i<s.size
 ·obtain⟨c,hc⟩:=EX hlt
  refine aJ (by simp [hlt]) ?_
  simp only [vm]
  have hnext:gq c=true\/(i≠0/\mV c=true)->next [.string s,I s.size,I (W ((i:Int)+1))] h':=by
   intro hgood
   rw [aA (by omega)]
   refine hn hlt _ _ ⟨fun j d hj hd=>?_,rfl,rfl⟩
   by_cases hji:j=i
   ·subst hji;rw [hc]at hd;cases hd;exact hgood
   ·exact hg j d (by omega) hd
  refine⟨c,hc,Ic ⟨_,rfl,ac (fun e=>ac (fun e2=>?_) (fun e2=>⟨c,hc,ac (fun e3=>?_) (fun e3=>⟨c,hc,ac (fun e4=>?_) (fun e4=>hnext ?_)⟩)⟩)) (fun e=>hnext (.inl (by simpa using e)))⟩⟩
  ·exact di (uT hc (by simpa using e) (.inl (by simp at e2;omega))).symm k
  ·exact di (uT hc (by simpa using e) (.inr (by unfold mV;simp at e3⊢;omega))).symm k
  ·exact di (uT hc (by simpa using e) (.inr (by unfold mV;simp at e4⊢;omega))).symm k
  ·refine .inr ⟨by simp at e2;omega,?_⟩
   unfold mV;simp at e3 e4⊢;omega
 ·refine aD (by simp;omega) (fv ⟨_,rfl,di ?_ k⟩)
  have:= @qh s
  rw [Bool.eq_iff_iff,this,decide_eq_true_eq]
  constructor
  ·intro hh
   refine⟨by omega,fun j c hc=>hg j c ?_ hc⟩
   ·rcases Nat.lt_or_ge j s.size with h|h
    ·omega
    ·rw [JM,List.getElem?_eq_none (by rw [<-Bf];exact h)]at hc;cases hc
  ·rintro ⟨hh,_⟩;omega
theorem Ca {h:Hp} {s:ByteArray} {R:Value->Hp->Prop} (k:R (.bool (fL s)) h):pF #[.string s] h R:=by
 apply H1
 refine uf_ ?_
 refine ap (fun J=>J (!(decide (1<=s.size/\s.size<=8)&&(match s[0]? with|some c=>gq c|none=>false))) h) ?_ (fun J hJ=>?_)
 rotate_left
 ·refine dx ⟨_,rfl,ac (fun e=>?_) (fun e=>?_)⟩
  ·rw [show decide (1<=s.size/\s.size<=8)=false by rw [decide_eq_false_iff_not];simp at e;omega,Bool.false_and]at hJ
   exact hJ
  ·have e':1<=s.size/\s.size<=8:=by simp at e;omega
   obtain⟨c,hc⟩:=EX (s:=s) (i:=0) (by omega)
   rw [decide_eq_true e',Bool.true_and,hc]at hJ
   simp only at hJ
   refine⟨by omega,c,hc,ac (fun e=>?_) (fun e=>⟨by omega,c,hc,?_⟩)⟩
   ·exact fo (J:=fun b=>J b h) (by unfold gq;(exact uK)) hJ
   ·exact fo (J:=fun b=>J b h) (by unfold gq;(exact uK)) hJ
 refine ac (fun e=>di ?_ k) (fun e=>?_)
 ·symm
  rw [Bool.eq_false_iff]
  intro hn
  have hh:=qh.1 hn
  obtain⟨c,hc⟩:=EX (s:=s) (i:=0) (by omega)
  rw [decide_eq_true hh.1,hc]at e
  rcases hh.2 0 c hc with h1|h1
  ·simp [h1]at e
  ·exact absurd rfl h1.1
 have e':(1<=s.size/\s.size<=8)/\ ∀c,s[0]?=some c->gq c=true:=by
  simp only [Bool.not_eq_false',Bool.and_eq_true,decide_eq_true_eq]at e
  refine⟨e.1,fun c hc=>?_⟩
  have:=e.2;rw [hc]at this;exact this
 refine av s.size (fun i vs h'=>(∀(j:Nat) (c:UInt8),j<i->s[j]?=some c->gq c=true\/mV c=true)/\vs= [.string s,I i]/\h'=h) ⟨fun j c hj=>by omega,rfl,rfl⟩ ?_
 rintro i _ h' next hi ⟨hg,rfl,rfl⟩ hn
 refine⟨_,_,rfl,?_⟩
 by_cases hlt:i<s.size
 ·obtain⟨c,hc⟩:=EX hlt
  refine aJ (by simp [hlt]) ?_
  simp only [vm]
  have hnext:gq c=true\/mV c=true->next [.string s,I (W ((i:Int)+1))] h':=by
   intro hgood
   rw [aA (by omega)]
   refine hn hlt _ _ ⟨fun j d hj hd=>?_,rfl,rfl⟩
   by_cases hji:j=i
   ·subst hji;rw [hc]at hd;cases hd;exact hgood
   ·exact hg j d (by omega) hd
  have hbad:gq c=false->mV c=false->R (.bool false) h':=fun h1 h2=>di (uT hc h1 (.inr h2)).symm k
  have two: ∀(hl:gq c=false),(ad (decide (((UInt8.toNat c:Nat):Int)>=48)) (∃c32:UInt8,s[i]?=some c32/\(ad (!(decide (((UInt8.toNat c32:Nat):Int)<=57))) (R (.bool false) h') (next [(.string s),(I (W ((i:Int)+1)))] h'))) (R (.bool false) h')):=by
   intro hl
   refine ac (fun e=>⟨c,hc,ac (fun e2=>hbad hl ?_) (fun e2=>hnext (.inr ?_))⟩) (fun e=>hbad hl ?_)
   ·unfold mV;simp at e2⊢;omega
   ·unfold mV;simp at e e2⊢;omega
   ·unfold mV;simp at e⊢;omega
  refine⟨c,hc,ac (fun e=>⟨c,hc,ac (fun e2=>hnext (.inl ?_)) (fun e2=>⟨c,hc,two ?_⟩)⟩) (fun e=>⟨c,hc,two ?_⟩)⟩
  ·unfold gq;simp at e e2⊢;omega
  ·unfold gq;simp at e2⊢;omega
  ·unfold gq;simp at e⊢;omega
 ·refine aD (by simp;omega) (di ?_ k)
  symm
  refine qh.2 ⟨e'.1,fun j c hc=>?_⟩
  have hj:j<s.size:=by
   rcases Nat.lt_or_ge j s.size with h|h
   ·omega
   ·rw [JM,List.getElem?_eq_none (by rw [<-Bf];exact h)]at hc;cases hc
  rcases hg j c (by omega) hc with h1|h1
  ·exact .inl h1
  ·by_cases h0:j=0
   ·subst h0;exact .inl (e'.2 c hc)
   ·exact .inr ⟨h0,h1⟩
theorem rd :(∀(v:Value) r,(v::r)[0]?=some v)/\(∀(v:Value) r (i:Nat),(v::r)[i+1]?=r[i]?)/\
  (∀(cs:List Value) (n:Nat) (ro:Bool) (p:List Value->Nat->Prop),
   (∃(cs':List Value) (n':Nat),some (Sum.inl (Row.mk cs n ro):Blk)=some (Sum.inl (Row.mk cs' n' ro))/\p cs' n')=p cs n)/\
  (∀cs o,cv cs o []=cs)/\(∀cs o v r,cv cs o (v::r)=cv (cs.set o v) (o+1) r)/\
  (∀(v w:Value) r,(v::r).set 0 w=w::r)/\(∀(v w:Value) r (i:Nat),(v::r).set (i+1) w=v::r.set i w)/\
  (∀(v:Value) r,(v::r).length=r.length+1)/\([]:List Value).length=0:=
 ⟨fun _ _=>rfl,fun _ _ _=>rfl,T1,Gj,oV,fun _ _ _=>rfl,fun _ _ _ _=>rfl,fun _ _=>rfl,rfl⟩
theorem Td {h:Hp} {b z o:Nat} {cs:List Value} {ro:Bool} {x:Int} {P:Int->Prop} (f:h b=some (.inl ⟨cs,z,ro⟩)) (e:cs[o]?=some (I x)) (k:P x): ∃y:Int,Hp.cell h b o=some (I y)/\P y:=
 ⟨x,by rw [aq f];exact e,k⟩
theorem Uc {h:Hp} {b z o:Nat} {cs:List Value} {ro:Bool} {x:ByteArray} {P:ByteArray->Prop} (f:h b=some (.inl ⟨cs,z,ro⟩)) (e:cs[o]?=some (.string x)) (k:P x): ∃y:ByteArray,Hp.cell h b o=some (.string y)/\P y:=
 ⟨x,by rw [aq f];exact e,k⟩
theorem dg {h:Hp} {w:Int} {R:Value->Hp->Prop} (k:R (un (cy w)) h):dr #[I w] h R:=by
 refine ACalls.drop (KR ?_)
 refine uf_ ?_
 intro b hb
 have l1:=eO [I 0,I w] 2 hb
 simp only [vm,mm]
 exact⟨by decide,_,l1,k⟩
theorem ca {h:Hp} {w:Int} {R:Value->Hp->Prop} (k:R (un (cy w)) h):am #[I w] h R:=by
 refine ACalls.drop (Ih ?_)
 refine uf_ ?_
 intro b hb
 have l1:=eO [I 0,I w] 2 hb
 simp only [vm,mm]
 exact⟨by decide,_,l1,k⟩
def aW (n:NodeP):Nat->Int
 |0=>n.a
 |1=>n.b
 |2=>n.c
 |_=>0
theorem oT (len:Nat) (n:NodeP):eW len n=
  (decide (0<=ar n.kind)&&(qF (ar n.kind) len 0 (aW n 0)&&qF (ar n.kind) len 1 (aW n 1)&&qF (ar n.kind) len 2 (aW n 2))&&
   (if fE n.kind then fL n.name else decide (n.name.size=0))&&(decide (n.kind=30)||decide (n.m=0))&&
   (decide (n.kind=30\/n.kind=31\/n.kind=32\/n.kind=34)||decide (n.n=0))):=rfl
theorem IS {len:Nat} {n:NodeP} {i:Nat} (hi:i<3) (e:qF (ar n.kind) len i (aW n i)=false):eW len n=false:=by
 rw [oT]
 obtain rfl|rfl|rfl:i=0\/i=1\/i=2:=by omega
 ·rw [show ((0:Nat):Int)=0 from rfl]at e;rw [e];simp
 ·rw [show ((1:Nat):Int)=1 from rfl]at e;rw [e];simp
 ·rw [show ((2:Nat):Int)=2 from rfl]at e;rw [e];simp
theorem Di {len:Nat} {n:NodeP} (hp:0<=ar n.kind) (e: ∀i:Nat,i<3->qF (ar n.kind) len i (aW n i)=true):eW len n=
  ((if fE n.kind then fL n.name else decide (n.name.size=0))&&(decide (n.kind=30)||decide (n.m=0))&&
    (decide (n.kind=30\/n.kind=31\/n.kind=32\/n.kind=34)||decide (n.n=0))):=by
 rw [oT,decide_eq_true hp]
 have e0:=e 0 (by omega)
 have e1:=e 1 (by omega)
 have e2:=e 2 (by omega)
 rw [show ((0:Nat):Int)=0 from rfl]at e0
 rw [show ((1:Nat):Int)=1 from rfl]at e1
 rw [show ((2:Nat):Int)=2 from rfl]at e2
 rw [e0,e1,e2];simp
theorem rb {h:Hp} {b z:Nat} {n:NodeP} (f:h b=some (.inl ⟨[I n.a,I n.b,I n.c],z,false⟩)) {i:Nat} (hi:i<3):Hp.cell h b i=some (I (aW n i)):=by
 rw [aq f]
 obtain rfl|rfl|rfl:i=0\/i=1\/i=2:=by omega
 all_goals rfl
theorem MD {h:Hp} {n:NodeP} {len:Nat} {R:Value->Hp->Prop} (hlen:len<=4611686018427387904) (hsz:n.name.size<=1048576)
  (k:R (.bool (eW len n)) h):mt #[Dy n,I len] h R:=by
 refine ACalls.drop (Ad ?_)
 refine uf_ ?_
 refine aj fun b h1 hb l1 f1=>?_
 simp only [vm,rd,aq f1]
 refine ik ⟨_,rfl,ac (fun e=>⟨_,l1,di ?_ k⟩) (fun e=>?_)⟩
 ·rw [oT,decide_eq_false (by simp at e;omega)];simp
 have hp:0<=ar n.kind:=by simp at e;omega
 simp only [vm,rd,aq f1]
 refine aj fun b2 h2 hb2 l2 f2=>?_
 have f1':=l2 _ _ f1
 have l12:=Hp.le_trans l1 l2
 refine av 3 (fun i vs h'=>(∀j:Nat,j<i->qF (ar n.kind) len j (aW n j)=true)/\vs= [I len, .pointer (some ⟨b,0,none⟩),I (ar n.kind), .slice (some ⟨b2,0,none⟩) 3 3,I 3,I i]/\h'=h2) ⟨fun j hj=>by omega,rfl,rfl⟩ ?_
 rintro i _ h' next hi ⟨hg,rfl,rfl⟩ hn
 refine⟨_,_,_,_,⟨_,_,_⟩,_,_,rfl,?_⟩
 by_cases hlt:i<3
 ·refine aJ (by simp;omega) ?_
  simp only [vm,rb f2 hlt]
  refine⟨by omega,?_⟩
  refine ap (fun J=>J (!(qF (ar n.kind) len i (aW n i))) h') ?_ (fun J hJ=>?_)
  ·refine ac (fun e=>⟨_,l12,di ?_ k⟩) (fun e=>?_)
   ·rw [IS hlt (by simpa using e)]
   ·rw [aA (by omega)]
    refine hn hlt _ _ ⟨fun j hj=>?_,rfl,rfl⟩
    by_cases hji:j=i
    ·subst hji;simpa using e
    ·exact hg j (by omega)
  ·clear k
   unfold qF at hJ
   rw [bV (by omega) (by omega)]
   refine ac (fun e=>fv ⟨_,rfl,?_⟩) (fun e=>?_)
   ·rw [if_pos (by simpa using e)]at hJ
    refine ac (fun e2=>?_) (fun e2=>ac (fun e3=>?_) (fun e3=>?_))
    ·exact fo (J:=fun b=>J b h') (by simpa using e2) hJ
    ·simp at e e3;omega
    ·exact fo (J:=fun b=>J b h') (by simpa using e2) hJ
   ·rw [if_neg (by simpa using e)]at hJ
    refine ac (fun e2=>?_) (fun e2=>?_)
    ·exact fo (J:=fun b=>J b h') (by rw [Bool.eq_iff_iff];simp) hJ
    ·simp at e e2;omega
 ·refine aD (by simp;omega) ?_
  rw [Di hp (fun j hj=>hg j (by omega))]at k
  simp only [vm,rd,aq f1',xy]
  refine ap (fun J=>J (decide (n.kind=30\/n.kind=31\/n.kind=32\/n.kind=34))) ?_ (fun J hJ=>?_)
  rotate_left
  ·clear k;repeat' (first|(with_reducible first|refine aJ (b:=true) rfl ?_|refine aD (b:=false) rfl ?_|refine ac (fun _=>?_) fun _=>?_)|(refine fo ?_ hJ))
   all_goals (clear hJ;(exact uK))
  have hnm: ∀{R':Value->Hp->Prop},R' (.bool (fE n.kind)) h'->df #[I n.kind] h' R':=Fo
  have hin: ∀{R':Value->Hp->Prop},R' (.bool (fL n.name)) h'->iM #[.string n.name] h' R':=fun k=>Cw k (by omega)
  generalize fE n.kind=g at*
  generalize fL n.name=q at*
  repeat' (first|(with_reducible first|refine aJ (b:=true) rfl ?_|refine aD (b:=false) rfl ?_|refine ac (fun _=>?_) fun _=>?_)|(with_reducible refine hnm ⟨_,rfl,?_⟩)|(with_reducible refine hin ⟨_,rfl,?_⟩)|(with_reducible refine Td f1' rfl ?_)|(with_reducible refine Uc f1' rfl ?_)|(refine⟨_,l12,di ?_ k⟩;clear k hnm hin hn hg f1 f2 f1' l1 l2 l12 hb hb2;first|(simp_all;done)|(cases g<;>cases q<;>simp_all<;>done)))
theorem HQ {h:Hp} {n:NodeP} {s:Sl} {R:Value->Hp->Prop} (hlen:s.n<=4611686018427387904)
  (k:R (.bool (eW s.n n)) h):qp #[s.v,Dy n] h R:=by
 refine ACalls.drop (EH ?_)
 refine uf_ ?_
 refine aj fun b h1 hb l1 f1=>?_
 simp only [vm,rd,aq f1]
 refine nw ⟨_,rfl,ac (fun e=>⟨_,l1,di ?_ k⟩) (fun e=>?_)⟩
 ·rw [oT,decide_eq_false (by simp at e;omega)];simp
 have hp:0<=ar n.kind:=by simp at e;omega
 simp only [vm,rd,aq f1]
 refine aj fun b2 h2 hb2 l2 f2=>?_
 have f1':=l2 _ _ f1
 have l12:=Hp.le_trans l1 l2
 refine av 3 (fun i vs h'=>(∀j:Nat,j<i->qF (ar n.kind) s.n j (aW n j)=true)/\vs= [s.v, .pointer (some ⟨b,0,none⟩),I (ar n.kind), .slice (some ⟨b2,0,none⟩) 3 3,I i]/\h'=h2) ⟨fun j hj=>by omega,rfl,rfl⟩ ?_
 rintro i _ h' next hi ⟨hg,rfl,rfl⟩ hn
 refine⟨_,_,_,_,⟨_,_,_⟩,_,rfl,?_⟩
 by_cases hlt:i<3
 ·refine aJ (by simp;omega) ?_
  simp only [vm,rb f2 hlt]
  refine ap (fun J=>J (!(qF (ar n.kind) s.n i (aW n i))) h') ?_ (fun J hJ=>?_)
  ·refine ac (fun e=>⟨_,l12,di ?_ k⟩) (fun e=>?_)
   ·rw [IS hlt (by simpa using e)]
   ·rw [aA (by omega)]
    refine hn hlt _ _ ⟨fun j hj=>?_,rfl,rfl⟩
    by_cases hji:j=i
    ·subst hji;simpa using e
    ·exact hg j (by omega)
  ·clear k
   unfold qF at hJ
   rw [bV (by omega) (by omega)]
   refine ac (fun e=>⟨by omega,dx ⟨_,rfl,?_⟩⟩) (fun e=>?_)
   ·rw [if_pos (by simpa using e)]at hJ
    refine ac (fun e2=>?_) (fun e2=>ac (fun e3=>?_) (fun e3=>?_))
    ·exact fo (J:=fun b=>J b h') (by simpa using e2) hJ
    ·simp at e e3;omega
    ·exact fo (J:=fun b=>J b h') (by simpa using e2) hJ
   ·rw [if_neg (by simpa using e)]at hJ
    refine ac (fun e2=>?_) (fun e2=>?_)
    ·refine⟨by omega,?_⟩
     exact fo (J:=fun b=>J b h') (by rw [Bool.eq_iff_iff];simp) hJ
    ·simp at e e2;omega
 ·refine aD (by simp;omega) ?_
  rw [Di hp (fun j hj=>hg j (by omega))]at k
  simp only [vm,rd,aq f1',xy]
  refine ap (fun J=>J (fE n.kind)) ?_ (fun J hJ=>?_)
  rotate_left
  ·clear k;unfold fE at hJ;repeat' (first|(with_reducible first|refine aJ (b:=true) rfl ?_|refine aD (b:=false) rfl ?_|refine ac (fun _=>?_) fun _=>?_)|(refine fo ?_ hJ))
   all_goals (clear hJ;(exact uK))
  have hin: ∀{R':Value->Hp->Prop},R' (.bool (fL n.name)) h'->pF #[.string n.name] h' R':=Ca
  have hno:fL n.name=true-> ¬n.name.size=0:=fun e=>by have:=(qh.1 e).1;omega
  generalize fE n.kind=g at*
  generalize fL n.name=q at*
  simp only [dW]
  repeat' (first|(with_reducible first|refine aJ (b:=true) rfl ?_|refine aD (b:=false) rfl ?_|refine ac (fun _=>?_) fun _=>?_)|(with_reducible refine hin ⟨_,rfl,?_⟩)|(with_reducible refine Td f1' rfl ?_)|(with_reducible refine Uc f1' rfl ?_)|(refine⟨_,l12,di ?_ k⟩;clear k hin hn hg f1 f2 f1' l1 l2 l12 hb hb2;first|(simp_all;done)|(cases g<;>cases q<;>simp_all<;>done)|(rw [Bool.eq_iff_iff];cases g<;>cases q<;>simp_all<;>done)))
theorem cb {h h0:Hp} {b z o m:Nat} {cs vs:List Value} {P:Hp->Prop} (f:h b=some (.inl ⟨cs,z,false⟩)) (l:h0.le h) (hb:h0 b=none) (hl:m<=cs.length)
  (k: ∀h',h' b=some (.inl ⟨cv cs o vs,z,false⟩)->(∀c,c≠b->h' c=h c)->h0.le h'->P h'):
  ∃(cs':List Value) (z':Nat),h b=some (.inl ⟨cs',z',false⟩)/\m<=List.length cs'/\cu (h.row b (cv cs' o vs) z') fun h'=>P h':=
 ⟨cs,z,f,hl,k _ (bR _ _ _ _) (fun c e=>bX _ _ e) (eg _ _ hb l)⟩
theorem ZW {h h':Hp} {b c:Nat} {P:Prop} (kp: ∀c,c≠b->h' c=h c) (e:c≠b) (k:P):h' c=h c/\P:=⟨kp c e,k⟩
theorem Yq {α:Type} {c:α->Value} {h:Hp} {b z o:Nat} {cs:List Value} {ro:Bool} {x:α} {P:α->Prop} (f:h b=some (.inl ⟨cs,z,ro⟩)) (q:cs[o]?=some (c x)) (k:P x): ∃y:α,Hp.cell h b o=some (c y)/\P y:=⟨x,by rw [aq f];exact q,k⟩
theorem az {P Q:Prop} (k:Q) (h:Q->P:=by(first
 |((with_reducible apply Yq);(assumption);(exact rfl))
 |with_reducible exact And.intro (Eq.refl _)
 |with_reducible exact And.intro True.intro
 |((with_reducible apply ZW);(assumption);(assumption))
 |fail)):P:=h k
def Res (o:Option SortP) (t:SortP) (c:Bool):Prop:=o=if c then some t else none
theorem iq (a b:SortP):(a=b)=(a.idx=b.idx/\a.wid=b.wid):=by
 rcases a with ⟨i,w⟩;rcases b with ⟨j,v⟩;simp
theorem nX {P:Prop} [Decidable P] {t t':SortP} {q:Bool} (h1:q=decide P) (h2:P->t=t'):Res (if P then some t else none) t' q:=by
 unfold Res;subst h1
 by_cases h:P
 ·simp [h,h2 h]
 ·simp [h]
theorem gE {a b:Int} (e:(a !=b)=true): ¬a=b:=by simpa using e
theorem fC {a b:Int} (e:(a !=b)=false):a=b:=by simpa using e
theorem Gw (n:NodeP) (a b c:SortP):de n a b c=
 (if n.kind=33 then(if(a.idx=0/\a.wid=1)/\b.idx=c.idx/\b.wid=c.wid then some b else none)else
 if n.kind=37 then(if 0<a.idx/\b.idx=0/\b.wid=a.idx then some ⟨0,a.wid⟩else none)else
 if n.kind=38 then(if 0<a.idx/\(b.idx=0/\b.wid=a.idx)/\c.idx=0/\c.wid=a.wid then some a else none)else
 if n.kind=21 then(if a.idx=b.idx/\a.wid=b.wid then some ⟨0,1⟩else none)else
 if 0<a.idx\/(ar n.kind=2/\0<b.idx)then none else
 if n.kind=29 then(if a.wid+b.wid<=16 then some ⟨0,a.wid+b.wid⟩else none)else
 if n.kind=30 then(if(0<=n.n/\n.n<=a.wid-1)/\0<=n.m/\n.m<=n.n then some ⟨0,n.n-n.m+1⟩else none)else
 if n.kind=31\/n.kind=32 then(if 0<=n.n/\n.n<=16-a.wid then some ⟨0,a.wid+n.n⟩else none)else
 if n.kind<=5 then some ⟨0,if n.kind<=2 then a.wid else 1⟩else
 if a.idx=b.idx/\a.wid=b.wid then some ⟨0,if n.kind<=20 then a.wid else 1⟩else none):=by
 unfold de cy
 simp only [iq]
def kW (n:NodeP) (a b c:SortP):Option SortP:=
 if n.kind=35\/n.kind=36 then(if bQ n.sort then some n.sort else none)else
 if n.kind=34 then(if decide (n.sort.idx=0)&&iG n.sort.wid n.n then some n.sort else none)else de n a b c
theorem MC {h:Hp} {n:NodeP} {a b c:SortP} {R:Value->Hp->Prop} (ha:0<ar n.kind->bQ a=true) (hb:bQ b=true\/b=⟨0,0⟩) (hc:bQ c=true\/c=⟨0,0⟩) (hp:0<=ar n.kind)
  (hb2:ar n.kind<2->b=⟨0,0⟩)
  (k: ∀t q,Res (kW n a b c) t q->R (.tuple #[un t, .bool q]) h):mw #[Dy n,un a,un b,un c] h R:=by
 refine ACalls.drop (Aj ?_)
 refine uf_ ?_
 refine aj fun b17 h1 hb17 l1 f17=>?_
 refine aj fun b19 h2 hb19 l2 f19=>?_
 refine aj fun b21 h3 hb21 l3 f21=>?_
 refine aj fun b23 h4 hb23 l4 f23=>?_
 refine aj fun b25 h5 hb25 l5 f25=>?_
 replace f17:=l4 _ _ (l3 _ _ (l2 _ _ f17))
 replace f19:=l4 _ _ (l3 _ _ f19)
 replace f21:=l4 _ _ f21
 have n17:=fresh_ne hb25 f17
 have n19:=fresh_ne hb25 f19
 have n21:=fresh_ne hb25 f21
 have n23:=fresh_ne hb25 f23
 replace f17:=l5 _ _ f17
 replace f19:=l5 _ _ f19
 replace f21:=l5 _ _ f21
 replace f23:=l5 _ _ f23
 have l:h.le h5:=Hp.le_trans l1 (Hp.le_trans l2 (Hp.le_trans l3 (Hp.le_trans l4 l5)))
 have b0:h b25=none:=aF (Hp.le_trans l1 (Hp.le_trans l2 (Hp.le_trans l3 l4))) hb25
 clear hb17 hb19 hb21 hb23 hb25 l1 l2 l3 l4 l5
 have lf: ∀{h'':Hp} {t:SortP} {q:Bool},h.le h''->Res (kW n a b c) t q-> ∃h':Hp,h'.le h''/\R (.tuple #[.agg #[I t.idx,I t.wid], .bool q]) h':=fun l e=>⟨_,l,k _ _ e⟩
 clear k
 (refine az ?_)
 refine ap (fun J=>J (decide (n.kind=35\/n.kind=36))) ?_ (fun J hJ=>?_)
 rotate_left
 ·repeat' (first|(with_reducible first|refine aJ (b:=true) rfl ?_|refine aD (b:=false) rfl ?_|refine ac (fun _=>?_) fun _=>?_)|(refine fo ?_ hJ))
  all_goals (clear hJ;(exact uK))
 refine ac (fun e=>?_) (fun e=>?_)
 ·repeat' (refine az ?_)
  refine pc ⟨_,rfl,?_⟩
  (refine az ?_)
  refine cb f25 l b0 (by decide) fun h6 f6 kp6 l6=>?_
  repeat' (refine az ?_)
  refine lf (t:=n.sort) l6 ?_
  unfold Res kW
  rw [if_pos (of_decide_eq_true e)]
 have e35:=of_decide_eq_false e
 refine ac (fun e=>?_) (fun e=>?_)
 ·have e34:=bU e
  simp only [dW]
  repeat' (refine az ?_)
  refine ac (fun e=>?_) (fun e=>?_)
  ·repeat' (refine az ?_)
   refine CU ⟨_,rfl,?_⟩
   (refine az ?_)
   refine cb f25 l b0 (by decide) fun h6 f6 kp6 l6=>?_
   repeat' (refine az ?_)
   refine lf (t:=n.sort) l6 ?_
   unfold Res kW
   rw [if_neg e35,if_pos e34,decide_eq_true (bU e),Bool.true_and]
  ·(refine az ?_)
   refine cb f25 l b0 (by decide) fun h6 f6 kp6 l6=>?_
   repeat' (refine az ?_)
   refine lf (t:=n.sort) l6 ?_
   unfold Res kW
   rw [if_neg e35,if_pos e34,decide_eq_false (aZ e),Bool.false_and]
 have e34:=aZ e
 have er:kW n a b c=de n a b c:=by unfold kW;rw [if_neg e35,if_neg e34]
 have hp1:0<ar n.kind:=by
  have:ar n.kind≠0:=by
   unfold ar;repeat' split
   all_goals first|omega|decide
  omega
 replace ha:=bZ.1 (ha hp1)
 have wa1:W (a.wid-1)=a.wid-1:=bV (by omega) (by omega)
 have wa16:W (16-a.wid)=16-a.wid:=bV (by omega) (by omega)
 have wab:W (a.wid+b.wid)=a.wid+b.wid:=by
  have: -100<=b.wid/\b.wid<=16:=by
   rcases hb with h|h
   ·have:=bZ.1 h;omega
   ·rw [h];decide
  exact bV (by omega) (by omega)
 rw [er]at lf
 clear er
 rw [Gw]at lf
 (with_reducible first|refine aJ (b:=true) rfl ?_|refine aD (b:=false) rfl ?_|refine ac (fun _=>?_) fun _=>?_)
 ·rw [if_pos (bU (by assumption))]at lf
  simp only [dW]
  ((repeat' (first|(with_reducible first|refine aJ (b:=true) rfl ?_|refine aD (b:=false) rfl ?_|refine ac (fun _=>?_) fun _=>?_)|(refine az ?_)|(with_reducible refine dg ⟨_,_,rfl,?_⟩)|(with_reducible refine fv ⟨_,rfl,?_⟩)|((with_reducible apply cb);(assumption);(exact l);(exact b0);(decide);(intro _ _ _ _))|(refine lf (t:=⟨_,_⟩) (by assumption) ?_;clear lf l b0;((unfold Res;(try simp only [cy,iq,Bool.and_true,Bool.and_eq_false_iff,Bool.or_eq_false_iff]at*);((try simp only [decide_eq_true_eq,decide_eq_false_iff_not,beq_iff_eq,beq_eq_false_iff_ne,bne_iff_ne,bne_eq_false_iff_eq,ne_eq,Bool.not_eq_true',Bool.not_eq_false',Bool.and_eq_true,Bool.or_eq_true,Bool.true_and,Bool.false_and,Bool.and_true,Bool.and_false,Bool.true_or,Bool.false_or,reduceCtorEq,iff_false,iff_true,false_iff,true_iff,Bool.not_true,Bool.not_false]at*));(repeat' split)<;>(first|rfl|contradiction|omega|(simp only [Option.some.injEq,SortP.mk.injEq,iq,Bool.true_eq_false];omega)|skip)))))))
 rw [if_neg (aZ (by assumption))]at lf
 (with_reducible first|refine aJ (b:=true) rfl ?_|refine aD (b:=false) rfl ?_|refine ac (fun _=>?_) fun _=>?_)
 ·((repeat' (first|(with_reducible first|refine aJ (b:=true) rfl ?_|refine aD (b:=false) rfl ?_|refine ac (fun _=>?_) fun _=>?_)|(refine az ?_)|(with_reducible refine dg ⟨_,_,rfl,?_⟩)|(with_reducible refine fv ⟨_,rfl,?_⟩)|((with_reducible apply cb);(assumption);(exact l);(exact b0);(decide);(intro _ _ _ _))|(refine lf (t:=⟨_,_⟩) (by assumption) ?_;clear lf l b0;((unfold Res;(try simp only [cy,iq,Bool.and_true,Bool.and_eq_false_iff,Bool.or_eq_false_iff]at*);((try simp only [decide_eq_true_eq,decide_eq_false_iff_not,beq_iff_eq,beq_eq_false_iff_ne,bne_iff_ne,bne_eq_false_iff_eq,ne_eq,Bool.not_eq_true',Bool.not_eq_false',Bool.and_eq_true,Bool.or_eq_true,Bool.true_and,Bool.false_and,Bool.and_true,Bool.and_false,Bool.true_or,Bool.false_or,reduceCtorEq,iff_false,iff_true,false_iff,true_iff,Bool.not_true,Bool.not_false]at*));(repeat' split)<;>(first|rfl|contradiction|omega|(simp only [Option.some.injEq,SortP.mk.injEq,iq,Bool.true_eq_false];omega)|skip)))))))
 have e21:=aZ (by assumption)
 (with_reducible first|refine aJ (b:=true) rfl ?_|refine aD (b:=false) rfl ?_|refine ac (fun _=>?_) fun _=>?_)
 ·rw [if_pos (bU (by assumption))]at lf
  simp only [dW]
  ((repeat' (first|(with_reducible first|refine aJ (b:=true) rfl ?_|refine aD (b:=false) rfl ?_|refine ac (fun _=>?_) fun _=>?_)|(refine az ?_)|(with_reducible refine dg ⟨_,_,rfl,?_⟩)|(with_reducible refine fv ⟨_,rfl,?_⟩)|((with_reducible apply cb);(assumption);(exact l);(exact b0);(decide);(intro _ _ _ _))|(refine lf (t:=⟨_,_⟩) (by assumption) ?_;clear lf l b0;((unfold Res;(try simp only [cy,iq,Bool.and_true,Bool.and_eq_false_iff,Bool.or_eq_false_iff]at*);((try simp only [decide_eq_true_eq,decide_eq_false_iff_not,beq_iff_eq,beq_eq_false_iff_ne,bne_iff_ne,bne_eq_false_iff_eq,ne_eq,Bool.not_eq_true',Bool.not_eq_false',Bool.and_eq_true,Bool.or_eq_true,Bool.true_and,Bool.false_and,Bool.and_true,Bool.and_false,Bool.true_or,Bool.false_or,reduceCtorEq,iff_false,iff_true,false_iff,true_iff,Bool.not_true,Bool.not_false]at*));(repeat' split)<;>(first|rfl|contradiction|omega|(simp only [Option.some.injEq,SortP.mk.injEq,iq,Bool.true_eq_false];omega)|skip)))))))
 rw [if_neg (aZ (by assumption))]at lf
 (with_reducible first|refine aJ (b:=true) rfl ?_|refine aD (b:=false) rfl ?_|refine ac (fun _=>?_) fun _=>?_)
 ·rw [if_pos (bU (by assumption))]at lf
  simp only [dW]
  ((repeat' (first|(with_reducible first|refine aJ (b:=true) rfl ?_|refine aD (b:=false) rfl ?_|refine ac (fun _=>?_) fun _=>?_)|(refine az ?_)|(with_reducible refine dg ⟨_,_,rfl,?_⟩)|(with_reducible refine fv ⟨_,rfl,?_⟩)|((with_reducible apply cb);(assumption);(exact l);(exact b0);(decide);(intro _ _ _ _))|(refine lf (t:=⟨_,_⟩) (by assumption) ?_;clear lf l b0;((unfold Res;(try simp only [cy,iq,Bool.and_true,Bool.and_eq_false_iff,Bool.or_eq_false_iff]at*);((try simp only [decide_eq_true_eq,decide_eq_false_iff_not,beq_iff_eq,beq_eq_false_iff_ne,bne_iff_ne,bne_eq_false_iff_eq,ne_eq,Bool.not_eq_true',Bool.not_eq_false',Bool.and_eq_true,Bool.or_eq_true,Bool.true_and,Bool.false_and,Bool.and_true,Bool.and_false,Bool.true_or,Bool.false_or,reduceCtorEq,iff_false,iff_true,false_iff,true_iff,Bool.not_true,Bool.not_false]at*));(repeat' split)<;>(first|rfl|contradiction|omega|(simp only [Option.some.injEq,SortP.mk.injEq,iq,Bool.true_eq_false];omega)|skip)))))))
 rw [if_neg (aZ (by assumption)),if_neg e21]at lf
 have n33: ¬n.kind=33:=aZ (by assumption)
 have n37: ¬n.kind=37:=aZ (by assumption)
 have n38: ¬n.kind=38:=aZ (by assumption)
 have hbi:0<=b.idx/\b.wid<=16/\0<=b.wid:=by
  rcases hb with h|h
  ·have:=bZ.1 h;omega
  ·rw [h];decide
 have p12:ar n.kind=1\/ar n.kind=2:=by
  rcases uO n.kind with h|h|h|h|h
  ·omega
  ·exact .inl h
  ·exact .inr h
  ·exfalso;revert h;unfold ar;(repeat' split)<;>first|omega|(intro h;omega)
  ·omega
 have hb1:ar n.kind=1->b.idx=0:=fun h=>by rw [hb2 (by omega)]
 clear hb hc hb2
 refine ap (fun J=>J (decide (0<a.idx\/(ar n.kind=2/\0<b.idx)))) ?_ (fun J hJ=>?_)
 rotate_left
 ·(refine az ?_)
  (with_reducible first|refine aJ (b:=true) rfl ?_|refine aD (b:=false) rfl ?_|refine ac (fun _=>?_) fun _=>?_)
  ·refine fo ?_ hJ;clear hJ;have:=gE (by assumption);rw [eq_comm,decide_eq_true_eq];omega
  (refine az ?_)
  refine fo ?_ hJ;clear hJ
  have:a.idx=0:=fC (by assumption)
  rw [Bool.eq_iff_iff,bne_iff_ne,decide_eq_true_eq];omega
 refine ac (fun e=>?_) (fun e=>?_)
 ·rw [if_pos (of_decide_eq_true e)]at lf
  ((repeat' (first|(with_reducible first|refine aJ (b:=true) rfl ?_|refine aD (b:=false) rfl ?_|refine ac (fun _=>?_) fun _=>?_)|(refine az ?_)|(with_reducible refine dg ⟨_,_,rfl,?_⟩)|(with_reducible refine fv ⟨_,rfl,?_⟩)|((with_reducible apply cb);(assumption);(exact l);(exact b0);(decide);(intro _ _ _ _))|(refine lf (t:=⟨_,_⟩) (by assumption) ?_;clear lf l b0;((unfold Res;(try simp only [cy,iq,Bool.and_true,Bool.and_eq_false_iff,Bool.or_eq_false_iff]at*);((try simp only [decide_eq_true_eq,decide_eq_false_iff_not,beq_iff_eq,beq_eq_false_iff_ne,bne_iff_ne,bne_eq_false_iff_eq,ne_eq,Bool.not_eq_true',Bool.not_eq_false',Bool.and_eq_true,Bool.or_eq_true,Bool.true_and,Bool.false_and,Bool.and_true,Bool.and_false,Bool.true_or,Bool.false_or,reduceCtorEq,iff_false,iff_true,false_iff,true_iff,Bool.not_true,Bool.not_false]at*));(repeat' split)<;>(first|rfl|contradiction|omega|(simp only [Option.some.injEq,SortP.mk.injEq,iq,Bool.true_eq_false];omega)|skip)))))))
 rw [if_neg (of_decide_eq_false e)]at lf
 replace e:=of_decide_eq_false e
 refine ap (fun J=>J (decide (n.kind=1\/n.kind=2))) ?_ (fun J hJ=>?_)
 rotate_left
 ·repeat' (first|(with_reducible first|refine aJ (b:=true) rfl ?_|refine aD (b:=false) rfl ?_|refine ac (fun _=>?_) fun _=>?_)|(refine az ?_)|(refine fo ?_ hJ))
  all_goals (clear hJ;(exact uK))
 refine ac (fun e1=>?_) (fun e1=>?_)
 ·replace e1:=of_decide_eq_true e1
  rw [if_neg (by omega),if_neg (by omega),if_neg (by omega),if_pos (by omega),if_pos (by omega)]at lf
  repeat' (refine az ?_)
  (with_reducible apply cb);(assumption);(exact l);(exact b0);(decide);intro _ _ _ _
  repeat' (refine az ?_)
  refine lf (t:=⟨_,_⟩) (by assumption) ?_
  rw [show a.idx=0 by omega];rfl
 replace e1:=of_decide_eq_false e1
 (refine az ?_)
 refine fv ⟨_,rfl,ac (fun e2=>?_) (fun e2=>?_)⟩
 ·replace e2:=of_decide_eq_true e2
  rw [if_neg (by omega),if_neg (by omega),if_neg (by omega),if_pos (by omega),if_neg (by omega)]at lf
  refine dg ⟨_,_,rfl,?_⟩
  (with_reducible apply cb);(assumption);(exact l);(exact b0);(decide);intro _ _ _ _
  repeat' (refine az ?_)
  exact lf (t:=⟨_,_⟩) (by assumption) rfl
 replace e2:=of_decide_eq_false e2
 (refine az ?_)
 refine ac (fun e3=>?_) (fun e3=>?_)
 ·replace e3:=bU e3
  rw [if_neg (by omega),if_pos e3]at lf
  simp only [dW]
  repeat' (refine az ?_)
  refine dg ⟨_,_,rfl,?_⟩
  repeat' (refine az ?_)
  refine fv ⟨_,rfl,?_⟩
  rw [wa1]
  refine ac (fun e4=>?_) (fun e4=>?_)
  ·repeat' (refine az ?_)
   refine fv ⟨_,rfl,?_⟩
   (with_reducible apply cb);(assumption);(exact l);(exact b0);(decide);intro _ _ _ _
   repeat' (refine az ?_)
   refine lf (t:=⟨_,_⟩) (by assumption) (nX ?_ ?_)
   ·rw [decide_eq_decide];exact⟨fun h=>⟨of_decide_eq_true e4,h⟩,fun h=>h.2⟩
   ·intro h
    rw [bV (n:=n.n-n.m) (by omega) (by omega),bV (by omega) (by omega)]
  ·(with_reducible apply cb);(assumption);(exact l);(exact b0);(decide);intro _ _ _ _
   repeat' (refine az ?_)
   refine lf (t:=⟨_,_⟩) (by assumption) (nX ?_ ?_)
   ·symm;rw [decide_eq_false_iff_not];exact fun h=>of_decide_eq_false e4 h.1
   ·exact fun h=>absurd h.1 (of_decide_eq_false e4)
 replace e3:=aZ e3
 refine ap (fun J=>J (decide (n.kind=31\/n.kind=32))) ?_ (fun J hJ=>?_)
 rotate_left
 ·repeat' (first|(with_reducible first|refine aJ (b:=true) rfl ?_|refine aD (b:=false) rfl ?_|refine ac (fun _=>?_) fun _=>?_)|(refine az ?_)|(refine fo ?_ hJ))
  all_goals (clear hJ;(exact uK))
 refine ac (fun e4=>?_) (fun e4=>?_)
 ·replace e4:=of_decide_eq_true e4
  rw [if_neg (by omega),if_neg (by omega),if_pos (by omega)]at lf
  repeat' (refine az ?_)
  refine dg ⟨_,_,rfl,?_⟩
  repeat' (refine az ?_)
  refine fv ⟨_,rfl,?_⟩
  rw [wa16]
  (with_reducible apply cb);(assumption);(exact l);(exact b0);(decide);intro _ _ _ _
  repeat' (refine az ?_)
  refine lf (t:=⟨_,_⟩) (by assumption) (nX rfl ?_)
  ·intro h
   show _=SortP.mk 0 _
   rw [bV (by omega) (by omega)]
 replace e4:=of_decide_eq_false e4
 (refine az ?_)
 refine ac (fun e5=>?_) (fun e5=>?_)
 ·replace e5:=bU e5
  rw [if_pos e5]at lf
  repeat' (refine az ?_)
  refine dg ⟨_,_,rfl,?_⟩
  repeat' (refine az ?_)
  (with_reducible apply cb);(assumption);(exact l);(exact b0);(decide);intro _ _ _ _
  repeat' (refine az ?_)
  refine lf (t:=⟨_,_⟩) (by assumption) (nX (by rw [wab]) ?_)
  ·intro h
   show _=SortP.mk 0 _
   rw [wab]
 replace e5:=aZ e5
 have k5: ¬n.kind<=5:=by
  intro h
  have:ar n.kind= -1:=by unfold ar;(repeat' split)<;>omega
  omega
 rw [if_neg (by omega),if_neg (by omega),if_neg (by omega),if_neg (by omega)]at lf
 (refine az ?_)
 refine fv ⟨_,rfl,ac (fun e6=>?_) (fun e6=>?_)⟩
 ·replace e6:=of_decide_eq_true e6
  rw [if_neg (show¬n.kind<=20 by omega)]at lf
  repeat' (refine az ?_)
  refine dg ⟨_,_,rfl,?_⟩
  repeat' (refine az ?_)
  (with_reducible apply cb);(assumption);(exact l);(exact b0);(decide);intro _ _ _ _
  repeat' (refine az ?_)
  refine lf (t:=⟨_,_⟩) (by assumption) (nX ?_ ?_)
  ·rw [Bool.eq_iff_iff];simp
  ·intro h;rfl
 replace e6:=of_decide_eq_false e6
 have k20:n.kind<=20:=by
  by_cases h20:n.kind<=20
  ·exact h20
  ·have:ar n.kind= -1\/ar n.kind=0:=by unfold ar;(repeat' split)<;>omega
   omega
 rw [if_pos k20]at lf
 repeat' (refine az ?_)
 (with_reducible apply cb);(assumption);(exact l);(exact b0);(decide);intro _ _ _ _
 repeat' (refine az ?_)
 refine lf (t:=⟨_,_⟩) (by assumption) (nX ?_ ?_)
 ·rw [Bool.eq_iff_iff];simp
 ·intro h;rw [show a.idx=0 by omega]
end Go.Lead
