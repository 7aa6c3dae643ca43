/- What functions of the program and of the reference come to, walked one by one, and plain laws about it: part 1. No condition is added to the statement. -/
import Derived.Test.YtlfhohhpeklnkaaGreatVm15
import Derived.Test.YtlfhohhpeklnkaaGreatFn0
import Derived.Test.YtlfhohhpeklnkaaGreatFn1
import Derived.Test.YtlfhohhpeklnkaaGreatFn2
import Derived.Test.YtlfhohhpeklnkaaGreatFn3
import Derived.Test.YtlfhohhpeklnkaaGreatFn4
import Derived.Test.YtlfhohhpeklnkaaGreatFn5
import Derived.Test.YtlfhohhpeklnkaaGreatFn6
import Derived.Test.YtlfhohhpeklnkaaGreatFn7
namespace Go.Lead
open Go
set_option linter.unusedVariables false
set_option linter.unusedSimpArgs false
set_option maxHeartbeats 1000000
structure Nd where
 v:Nat
 lo:Nat
 hi:Nat
 deriving DecidableEq,Repr
def gQ (n:Nd) (ns:List Nd):Nat×List Nd:=match ns.idxOf? n with|some i=>(i+2,ns)|none=>(ns.length+2,ns++ [n])
def mkD :Nat->(Nat->Bool)->Nat->List Nd->Nat×List Nd
 |0,f,_,ns=>(if f 0 then 1 else 0,ns)
 |n+1,f,low,ns=>
  let r1:=mkD n (fun i=>f (2*i)) (low+1) ns
  let r2:=mkD n (fun i=>f (2*i+1)) (low+1) r1.2
  if r1.1=r2.1 then r2 else gQ ⟨low,r1.1,r2.1⟩ r2.2
def fy (set:List Int):List Int->Int->Int×Bool
 | [],left=>(left,left==0)
 |x::r,left=>
  if set.contains x then(0,false)else
  if set.contains (-x)then fy set r left else
  if left !=0&&left !=x then(0,false)else fy set r x
def j9 :List (List Int)->List Int->Bool->Option (List Int×Bool)
 | [],set,more=>some (set,more)
 |l::r,set,more=>if(fy set l 0).2 then none else if(fy set l 0).1 !=0 then j9 r (set++ [(fy set l 0).1]) true else j9 r set more
def jb (cls:List (List Int)) (set:List Int):Option (List Int):=
 match j9 cls set false with
 |none=>none
 |some (set',more)=>if more then(if h:set.length<set'.length/\set'.length<=20 then jb cls set' else none)else some set'
termination_by 20-set.length
decreasing_by omega
def qh :List Int->List Int->Option (List Int)
 | [],set=>some set
 |x::r,set=>if set.contains (-x)then none else qh r (if set.contains x then set else set++ [x])
def iz (cls:List (List Int)) (given:List Int):Option (List Int):=(qh given []).bind (jb cls)
structure oW (v:Int) (set:List Int):Prop where
 lit: ∀x∈set,x≠0/\ -v<=x/\x<=v
 nodup:set.Nodup
 cons: ∀x∈set, -x∉set
theorem Ga (v:Int):oW v []:=⟨by simp,List.nodup_nil,by simp⟩
theorem oW.add {v:Int} {set:List Int} (k:oW v set) {x:Int} (hx:x≠0/\ -v<=x/\x<=v) (h1:x∉set) (h2: -x∉set):oW v (set++ [x]):=by
 refine⟨?_,?_,?_⟩
 ·intro y hy
  rcases List.mem_append.1 hy with h|h
  ·exact k.lit y h
  ·simp only [List.mem_singleton]at h;subst h;exact hx
 ·rw [List.nodup_append]
  refine⟨k.nodup,by simp,?_⟩
  intro a ha b hb
  simp only [List.mem_singleton]at hb;subst hb
  intro e;subst e;exact h1 ha
 ·intro y hy hn
  rcases List.mem_append.1 hy with h|h<;>rcases List.mem_append.1 hn with h'|h'
  ·exact k.cons y h h'
  ·simp only [List.mem_singleton]at h';exact h2 (by rw [<-h',Int.neg_neg];exact h)
  ·simp only [List.mem_singleton]at h;subst h;exact h2 h'
  ·simp only [List.mem_singleton]at h h';subst h;omega
theorem Bq : ∀(n:Nat) (l:List Int) (a:Int),l.Nodup->(∀x∈l,a<=x/\x<a+n)->l.length<=n:=by
 intro n
 induction n with
 |zero=>
  intro l a _ h
  cases l with
  |nil=>simp
  |cons x r=>have:=h x (by simp);omega
 |succ n ih=>
  intro l a hd h
  by_cases hm:(a+n)∈l
  ·have h1:=ih (l.erase (a+n)) a (hd.erase _) (fun x hx=>by
    have hx':=List.mem_of_mem_erase hx
    have:=h x hx'
    have hne:x≠a+n:=fun e=>by
     subst e
     exact(List.Nodup.not_mem_erase hd) hx
    omega)
   rw [List.length_erase_of_mem hm]at h1
   omega
  ·have:=ih l a hd (fun x hx=>by
    have h1:=h x hx
    have hne:x≠a+n:=fun e=>hm (e▸hx)
    omega)
   omega
theorem oW.len {v:Int} {set:List Int} (k:oW v set) (hv:v<=10) (hv0:0<=v):set.length<=20:=by
 have h0:(0:Int)∉set:=fun h=>(k.lit 0 h).1 rfl
 have h1:=Bq 21 (0::set) (-10) (List.nodup_cons.2 ⟨h0,k.nodup⟩) (fun x hx=>by
  rcases List.mem_cons.1 hx with rfl|hx
  ·omega
  ·have:=k.lit x hx;omega)
 simp only [List.length_cons]at h1
 omega
theorem Ov {set:List Int} (hcons: ∀x∈set, -x∉set) (h0:(0:Int)∉set) {l:List Int} (hl: ∀x∈l,x≠0) (hne:(fy set l 0).1≠0):
  (fy set l 0).1∈l/\(fy set l 0).1∉set/\ -(fy set l 0).1∉set:=by
 have key: ∀(l:List Int) (o:Int),(∀x∈l,x≠0)->(o=0\/(o∉set/\ -o∉set))->(fy set l o).1≠0->
   ((fy set l o).1∈l\/(fy set l o).1=o)/\(fy set l o).1∉set/\ -(fy set l o).1∉set:=by
  intro l
  induction l with
  |nil=>
   intro o _ ho hne
   simp only [fy]at hne⊢
   rcases ho with h|h
   ·exact absurd h hne
   ·exact⟨by simp,h⟩
  |cons x r ih=>
   intro o hx ho hne
   have hr:=fun y hy=>hx y (List.mem_cons_of_mem _ hy)
   simp only [fy]at hne⊢
   split at hne
   ·exact absurd rfl hne
   ·rename_i h1
    rw [if_neg h1]
    split at hne
    ·rename_i h2
     rw [if_pos h2]
     have:=ih o hr ho hne
     exact⟨this.1.imp (List.mem_cons_of_mem _) id,this.2⟩
    ·rename_i h2
     rw [if_neg h2]
     split at hne
     ·exact absurd rfl hne
     ·rename_i h3
      rw [if_neg h3]
      have:=ih x hr (.inr ⟨by simpa using h1,by simpa using h2⟩) hne
      refine⟨.inl ?_,this.2⟩
      rcases this.1 with h|h
      ·exact List.mem_cons_of_mem _ h
      ·rw [h];simp
 have:=key l 0 hl (.inl rfl) hne
 refine⟨?_,this.2⟩
 rcases this.1 with h|h
 ·exact h
 ·exact absurd h hne
theorem nu {v:Int}: ∀(cls:List (List Int)) (set:List Int) (more:Bool),oW v set->(∀l∈cls,∀x∈l,x≠0/\ -v<=x/\x<=v)->
  ∀set' more',j9 cls set more=some (set',more')->oW v set'/\set.length<=set'.length/\(more'=true->more=true\/set.length<set'.length):=by
 intro cls
 induction cls with
 |nil=>intro set more k _ set' more' h;simp only [j9,Option.some.injEq,Prod.mk.injEq]at h;obtain⟨rfl,rfl⟩:=h;exact⟨k,by omega, .inl⟩
 |cons l r ih=>
  intro set more k hc set' more' h
  have h0:(0:Int)∉set:=fun h=>(k.lit 0 h).1 rfl
  simp only [j9]at h
  split at h
  ·cases h
  ·split at h
   ·rename_i hne
    have hne':(fy set l 0).1≠0:=by simpa using hne
    have hl:=hc l (by simp)
    have hn:=Ov k.cons h0 (fun x hx=>(hl x hx).1) hne'
    have:=ih (set++ [(fy set l 0).1]) true (k.add (hl _ hn.1) hn.2.1 hn.2.2) (fun l' h'=>hc l' (by simp [h'])) _ _ h
    simp only [List.length_append,List.length_cons,List.length_nil]at this
    exact⟨this.1,by omega,fun _=> .inr (by omega)⟩
   ·exact ih set more k (fun l' h'=>hc l' (by simp [h'])) _ _ h
theorem xY {v:Int}: ∀(g:List Int) (set:List Int),oW v set->(∀x∈g,x≠0/\ -v<=x/\x<=v)-> ∀set',qh g set=some set'->oW v set':=by
 intro g
 induction g with
 |nil=>intro set k _ set' h;simp only [qh,Option.some.injEq]at h;subst h;exact k
 |cons x r ih=>
  intro set k hg set' h
  simp only [qh]at h
  split at h
  ·cases h
  ·rename_i h1
   refine ih _ ?_ (fun y hy=>hg y (by simp [hy])) _ h
   split
   ·exact k
   ·rename_i h2
    exact k.add (hg x (by simp)) (by simpa using h2) (by simpa using h1)
theorem HG {α:Type} {xs:List α} {p:α->Bool} {i:Nat} (hi:i<xs.length):(xs.take (i+1)).any p=((xs.take i).any p||p xs[i]):=by
 rw [List.take_succ_eq_append_getElem hi,List.any_append];simp
structure CI (h:Hp) (t:Sl) (ts:List Sl) (xss:List (List Int)):Prop where
 len:ts.length=xss.length
 outer:SlC (h.wo (ts.flatMap Sl.used)) t 1 (ts.map Sl.v)
 inner: ∀(i:Nat) (h1:i<ts.length) (h2:i<xss.length),Own h ts[i] 1 (xss[i].map I)
theorem CI.ints {h:Hp} {t:Sl} {ts:List Sl} {xss:List (List Int)} (e:CI h t ts xss):IntSS h t xss:=
 ⟨ts,e.len,e.outer.mono (te _ _),fun i h1 h2=>(e.inner i h1 h2).slc⟩
theorem CI.mono {h h':Hp} {t:Sl} {ts:List Sl} {xss:List (List Int)} (l:h.le h') (e:CI h t ts xss):CI h' t ts xss:=
 ⟨e.len,e.outer.mono (pA (Hp.le_trans (te _ _) l) fun b hb=>en hb),fun i h1 h2=>(e.inner i h1 h2).mono l⟩
theorem CI.used {h:Hp} {t:Sl} {ts:List Sl} {xss:List (List Int)} (e:CI h t ts xss): ∀b∈ts.flatMap Sl.used,h b≠none:=by
 intro b hb
 obtain⟨u,hu,hbu⟩:=List.mem_flatMap.1 hb
 obtain⟨i,hi,rfl⟩:=List.getElem_of_mem hu
 exact(e.inner i hi (by rw [<-e.len];exact hi)).used b hbu
theorem eK {h:Hp} {x a b:Int} {R:Value->Hp->Prop} (k:R (.bool (decide (a<=x/\x<=b))) h):cu #[I x,I a,I b] h R:=by
 apply IG
 refine uf_ ?_
 refine ad (fun e=>?_) (fun e=>?_)
 ·simp at e;simpa [e] using k
 ·simp at e;rwa [decide_eq_false (by omega)]at k
theorem eV {h:Hp} {x a b:Int} {R:Value->Hp->Prop} (k:R (.bool (decide (a<=x/\x<=b))) h):cU #[I x,I a,I b] h R:=by
 apply N2
 refine uf_ ?_
 refine ad (fun e=>?_) (fun e=>?_)
 ·simp at e;simpa [e] using k
 ·simp at e;rwa [decide_eq_false (by omega)]at k
def CR (vars n:Int):Bool:=decide (n≠0/\ -vars<=n/\n<=vars)
def fg (vars:Int) (l:List Int):Bool:=decide (l.length<=10)&&l.all (CR vars)
def dw (vars:Int) (c:List (List Int)):Bool:=decide (1<=vars/\vars<=10)&&(decide (c.length<=60)&&c.all (fg vars))
def Cb {α:Type} (p:α->Bool) (xs:List α):Int:=match xs.findIdx? p with|some i=>i|none=> -1
theorem vo {α:Type} {p:α->Bool} {xs:List α} (e:xs.any p=false):Cb p xs= -1:=by
 have:xs.findIdx? p=none:=by
  rw [List.findIdx?_eq_none_iff];intro x hx;rw [List.any_eq_false]at e;simpa using e x hx
 simp [Cb,this]
theorem yQ {α:Type} {p:α->Bool} {xs:List α} {i:Nat} (hi:i<xs.length) (e:(xs.take i).any p=false) (hp:p xs[i]=true):Cb p xs=i:=by
 have:xs.findIdx? p=some i:=by
  rw [List.findIdx?_eq_some_iff_getElem]
  refine⟨hi,hp,fun j hj=>?_⟩
  rw [List.any_eq_false]at e
  exact e _ (by rw [List.mem_take_iff_getElem];exact⟨j,by omega,rfl⟩)
 simp [Cb,this]
theorem Hm {α:Type} (p:α->Bool) (xs:List α):decide (Cb p xs>=0)=xs.any p:=by
 cases h:xs.any p with
 |false=>rw [vo h];rfl
 |true=>
  unfold Cb
  cases h':xs.findIdx? p with
  |some i=>simp
  |none=>rw [List.findIdx?_eq_none_iff]at h';rw [List.any_eq_true]at h;obtain⟨x,hx,hp⟩:=h;simp [h' x hx]at hp
theorem pz {h:Hp} {s:Sl} {xs:List Int} {f:FuncId} {u w:Array Value} (p:Int->Bool) {R:Value->Hp->Prop} (hs:IntS h s xs)
  (hf: ∀x∈xs,∀R:Value->Hp->Prop,R (.bool (p x)) h->ACalls PR f ((u++ #[I x])++w) h R)
  (k:R (I (Cb p xs)) h):d4 #[s.v, .func (.func f) u w] h R:=by
 apply pl
 refine uf_ ?_
 have hb:=hs.bound
 refine aw xs.length (fun i vs h'=>vs= [s.v, .func (.func f) u w,I xs.length,I i]/\h'=h/\(xs.take i).any p=false) ⟨by rw [hs.len];rfl,rfl,by simp⟩ ?_
 rintro i _ _ next hi ⟨rfl,rfl,hp⟩ hn
 refine⟨_,_,_,_,_,_,rfl,?_⟩
 by_cases hlt:i<xs.length
 ·obtain⟨b,o,ha,hc⟩:=hs.at hlt
  refine aK (by simp [hlt]) ?_
  simp only [vm,hs.len,ha,hc,aE (n:=i) (by omega)]
  refine⟨by omega,hf _ (List.getElem_mem hlt) _ ⟨_,rfl,ad (fun he=>?_) (fun he=>?_)⟩⟩
  ·rwa [yQ hlt hp he]at k
  ·exact hn hlt _ _ ⟨rfl,rfl,by rw [HG hlt,hp,he];rfl⟩
 ·have:i=xs.length:=by omega
  subst this
  rw [List.take_length]at hp
  refine aG (by simp) ?_
  rwa [vo hp]at k
theorem mu {h:Hp} {s:Sl} {xs:List Int} {f:FuncId} {u w:Array Value} (p:Int->Bool) {R:Value->Hp->Prop} (hs:IntS h s xs)
  (hf: ∀x∈xs,∀R:Value->Hp->Prop,R (.bool (p x)) h->ACalls PR f ((u++ #[I x])++w) h R)
  (k:R (.bool (xs.any p)) h):dE #[s.v, .func (.func f) u w] h R:=by
 apply mL
 refine uf_ ?_
 exact pz p hs hf ⟨_,rfl,by rwa [Hm]⟩
def oT (h:Hp) (s:Sl) (xs:List Bool):Prop:=SlC h s 1 (xs.map Value.bool)
theorem oT.mono {h h':Hp} {s:Sl} {xs:List Bool} (l:h.le h') (e:oT h s xs):oT h' s xs:=SlC.mono l e
theorem oT.len {h:Hp} {s:Sl} {xs:List Bool} (e:oT h s xs):s.n=xs.length:=by have:=e.2.1;simp at this;omega
theorem oT.bound {h:Hp} {s:Sl} {xs:List Bool} (e:oT h s xs):xs.length<=9223372036854775807:=by rw [<-e.len];exact e.1
theorem oT.at {h:Hp} {s:Sl} {xs:List Bool} (e:oT h s xs) {i:Nat} (hi:i<xs.length):
  ∃b o,s.a=some (Addr.mk b o none)/\Hp.cell h b (o+i)=some (.bool xs[i]):=by
 have hl:=e.len
 obtain⟨b,o,ha,hc⟩:=SlC.get e (by omega)
 exact⟨b,o,ha,hc i _ (by simp [hi])⟩
theorem iw {h:Hp} {c n:Nat} {R:Value->Hp->Prop} (hn:n<=64) (k:R (I (if c.testBit n then 1 else 0)) h):dF #[I c,I n] h R:=by
 apply GZ
 refine uf_ ?_
 rw [cA (by omega),if_neg (by omega),jt hn,C1,UV]
 split<;>simp_all
theorem CR.iff {v n:Int}:CR v n=true↔n≠0/\ -v<=n/\n<=v:=by simp [CR]
theorem fg.lit {v:Int} {l:List Int} (e:fg v l=true) {n:Int} (hn:n∈l):CR v n=true:=by
 simp only [fg,Bool.and_eq_true,List.all_eq_true]at e;exact e.2 n hn
theorem fg.len {v:Int} {l:List Int} (e:fg v l=true):l.length<=10:=by
 simp only [fg,Bool.and_eq_true,decide_eq_true_eq]at e;exact e.1
theorem dw.iff {v:Int} {c:List (List Int)}:dw v c=true↔(1<=v/\v<=10)/\c.length<=60/\ ∀l∈c,fg v l=true:=by
 simp [dw,List.all_eq_true]
theorem Nl (xs:List Int):(xs.map I).all (·.oneCell')=true:=by
 rw [List.all_eq_true]
 intro v hv
 obtain⟨x,_,rfl⟩:=List.mem_map.1 hv
 rfl
theorem IntS.slc {h:Hp} {s:Sl} {xs:List Int} (e:IntS h s xs):SlC h s 1 (xs.map I):=e
theorem lF {h:Hp} {s:Sl} {xs:List Int} {R:Value->Hp->Prop} (hs:IntS h s xs) (hl:xs.length<=1048576)
  (k: ∀t h',h.le h'->Buf (h'.sub h) t 1 (xs.map I)->R (Sl.v t) h'):fP #[s.v] h R:=by
 apply yY
 refine uf_ ?_
 have:=hs.len
 exact FC hs (by omega) (Nl _) fun t h' hn hle hb=>k t h' hle hb
theorem H9 (l:List UInt8): ∀(k i:Nat) (r:List UInt8),i+k=l.length->ByteArray.toList.loop ⟨l.toArray⟩ i r=r.reverse++l.drop i:=by
 intro k
 induction k with
 |zero=>
  intro i r hi
  unfold ByteArray.toList.loop
  rw [if_neg (by simp [ByteArray.size];omega),List.drop_eq_nil_of_le (by omega),List.append_nil]
 |succ k ih=>
  intro i r hi
  unfold ByteArray.toList.loop
  rw [if_pos (by simp [ByteArray.size];omega),ih (i+1) _ (by omega),List.drop_eq_getElem_cons (i:=i) (by omega)]
  simp [ByteArray.get!,show i<l.length by omega]
theorem jI (l:List UInt8):(⟨l.toArray⟩:ByteArray).toList=l:=by
 unfold ByteArray.toList
 rw [H9 l l.length 0 [] (by omega)];rfl
def cZ (n:Nat) (f:Nat->Bool):List Value:=(List.range (2^n)).map fun i=>Value.int .u8 (if f i then 1 else 0)
def cD (n:Nat) (f:Nat->Bool):List UInt8:=(List.range (2^n)).map fun i=>if f i then 1 else 0
theorem EP (n:Nat) (f:Nat->Bool):et (cD n f)=cZ n f:=by
 unfold et cD cZ
 rw [List.map_map]
 apply List.map_congr_left
 intro i _
 simp only [Function.comp]
 cases f i<;>rfl
def wE (h:Hp) (t:Sl) (n:Nat) (f:Nat->Bool):Prop:=SlC h t 1 (cZ n f)
theorem wE.mono {h h':Hp} {t:Sl} {n:Nat} {f:Nat->Bool} (l:h.le h') (e:wE h t n f):wE h' t n f:=SlC.mono l e
theorem wE.len {h:Hp} {t:Sl} {n:Nat} {f:Nat->Bool} (e:wE h t n f):t.n=2^n:=by have:=e.2.1;simp [cZ]at this;omega
theorem wE.at {h:Hp} {t:Sl} {n:Nat} {f:Nat->Bool} (e:wE h t n f) {i:Nat} (hi:i<2^n):
  ∃b o,t.a=some (Addr.mk b o none)/\Hp.cell h b (o+i)=some (.int .u8 (if f i then 1 else 0)):=by
 have hl:=e.len
 obtain⟨b,o,ha,hc⟩:=SlC.get e (by omega)
 exact⟨b,o,ha,hc i _ (by simp [cZ,hi])⟩
theorem wE.all {h:Hp} {t:Sl} {n:Nat} {f:Nat->Bool} (e:wE h t n f):lD h t.a t.n (et (cD n f)):=by
 rw [EP]
 exact⟨by rw [e.2.1,Nat.mul_one],e.2.2⟩
theorem ut {h:Hp} {c:Bool} {R:Value->Hp->Prop} (k:R (I (if c then 1 else 0)) h):kO #[.bool c] h R:=by
 apply KT
 refine uf_ ?_
 cases c<;>exact k
def AR (h:Hp) (fid:FuncId) (u w:Array Value) (n:Nat) (f:Nat->Bool):Prop:=
 ∀(i:Nat),i<n-> ∀(h':Hp),h.le h'-> ∀R:Value->Hp->Prop,R (.bool (f i)) h'->ACalls PR fid ((u++ #[I i])++w) h' R
def cj (ns:List Nd):List Value:=ns.flatMap fun n=> [I n.v,I n.lo,I n.hi]
def B4 (n:Nd):Value:= .agg #[I n.v,I n.lo,I n.hi]
structure BI (h:Hp) (B rs rn:Nat) (vars:Nat) (s:Sl) (ns:List Nd) (es:List (ByteArray×Nat)):Prop where
 row:h B=some (.inl ⟨[I vars,s.v,I 0, .map (some rs), .map (some rn)],5,false⟩)
 buf:Buf h s 3 (cj ns)
 seen:h rs=some (.inr (es.map fun e=>(.string e.1,I e.2)))
 nodes:h rn=some (.inr (ns.zipIdx.map fun e=>(B4 e.1,I (e.2+2:Nat))))
 far:rs≠rn
 own: ∀a,s.a=some a->a.block≠B
 true: ∀e∈es,∃n f low,low+n=vars/\e.1=⟨(cD n f).toArray⟩/\mkD n f low ns=(e.2,ns)
theorem BI.mono {h h':Hp} {B rs rn vars:Nat} {s:Sl} {ns:List Nd} {es:List (ByteArray×Nat)} (l:h.le h') (e:BI h B rs rn vars s ns es):BI h' B rs rn vars s ns es:=
 ⟨l _ _ e.row,e.buf.mono l,l _ _ e.seen,l _ _ e.nodes,e.far,e.own,e.true⟩
theorem kX (ns:List Nd):(cj ns).length=ns.length*3:=by
 induction ns with
 |nil=>rfl
 |cons n ns ih=>simp only [cj,List.flatMap_cons,List.length_append,List.length_cons,List.length_nil]at ih⊢;omega
structure Bd where
 v:Int
 ns:List Nd
 r:Int
 ok:Bool
def ia :Bd:=⟨0, [],0,false⟩
def qI (h:Hp) (s:Sl) (xs:List Int):Prop:=Buf h s 1 (xs.map I)
theorem qI.len {h:Hp} {s:Sl} {xs:List Int} (e:qI h s xs):s.n=xs.length:=by have:=e.1;simp at this;omega
theorem qI.ints {h:Hp} {s:Sl} {xs:List Int} (e:qI h s xs) (hn:xs.length<=1048576):IntS h s xs:=Buf.slc e (by rw [e.len];omega)
theorem qI.mono {h h':Hp} {s:Sl} {xs:List Int} (l:h.le h') (e:qI h s xs):qI h' s xs:=Buf.mono l e
theorem IK {h:Hp} {s:Sl} {xs:List Int} {x:Int} {b:Nat} {K:Option Addr->Nat->Nat->Hp->Prop} (hb:qI h s xs) (hl:xs.length<=1048576) (hc:Hp.cell h b 0=some (I x))
  (k: ∀(s':Sl) (h':Hp),qI h' s' (xs++ [x])->(h.offS s).le (h'.offS s')->K s'.a s'.n s'.c h'):cb h s.a s.n s.c (some ⟨b,0,none⟩) 1 1 8 K:=by
 refine da hb (by omega) (by rw [hb.len];omega) (by rw [hb.len];omega) ⟨b,0,rfl,fun i v hi=>?_⟩ (news:= [I x]) rfl rfl ?_
 ·cases i with
  |zero=>simp at hi;subst hi;exact hc
  |succ i=>simp at hi
 ·intro s' h' hn hbuf hle _
  exact k s' h' (by unfold qI;rw [List.map_append];exact hbuf) hle
structure ff (h h':Hp) (t:Sl) (set:List Int):Prop where
 buf:qI h' t set
 le:h.le (h'.offS t)
theorem ff.keep {h h':Hp} {t:Sl} {set:List Int} (e:ff h h' t set):h.le h':=Hp.le_trans e.le (aY _ _)
theorem ff.app {h h':Hp} {t:Sl} {set:List Int} {x:Int} {b:Nat} {K:Option Addr->Nat->Nat->Hp->Prop} (e:ff h h' t set) (hl:set.length<=1048576) (hb:h' b=none)
  (k: ∀(t':Sl) (h'':Hp),ff h h'' t' (set++ [x])->K t'.a t'.n t'.c h''):cb (h'.row b [I x] 1) t.a t.n t.c (some ⟨b,0,none⟩) 1 1 8 K:=by
 have l:=ec [I x] 1 hb
 refine IK (e.buf.mono l) hl (nz _ _ _ _ _) fun t' h'' hb' hl'=>k t' h'' ⟨hb',Hp.le_trans (Hp.le_trans e.le (bQ t l)) hl'⟩
theorem ff.own {h h':Hp} {t:Sl} {set:List Int} (e:ff h h' t set) (hl:set.length<=1048576):Own (h'.sub h) t 1 (set.map I):=by
 have hn:=e.buf.len
 refine⟨e.buf.1,by omega,?_⟩
 rcases e.buf.2.2 with ⟨_,h0,_⟩|⟨b,ha,hb⟩
 ·exact .inl h0
 ·refine .inr ⟨b,t.c*1,ha,?_⟩
  rw [jY]
  ·exact hb
  ·refine aC e.le ?_
   simp [Hp.offS,ha,Hp.off,Hp.set]
theorem fg.all {v:Int} {l:List Int} (e:fg v l=true): ∀x∈l,x≠0/\ -v<=x/\x<=v:=fun x hx=>CR.iff.1 (fg.lit e hx)
def yp (set:List Int):List (Value×Value):=set.map fun x=>(I x, .bool true)
theorem Oo (set:List Int) (n:Int): ∃res,eE (Instr.sameNow (.int .i64) (I n)) (yp set) 0=some res/\Option.getD (Option.map (fun p=>p.2) res) (.bool false)= .bool (set.contains n)/\
  sk (yp set) (I n) (.bool true) res=yp (if set.contains n then set else set++ [n]):=by
 unfold yp
 rcases nC (Instr.sameNow (.int .i64) (I n)) (fun x:Int=>I x) (fun _=> .bool true) (fun x=>n==x) set 0 (fun x _=>IU _ _ _)with ⟨hno,hm⟩|⟨j,hj,hyes,_,hm⟩
 ·have hc:set.contains n=false:=by
   rw [Bool.eq_false_iff];intro h
   have:=hno n (by simpa using h)
   simp at this
  exact⟨_,hm,by rw [hc];rfl,by rw [hc];simp [sk]⟩
 ·have he:n=set[j]:=by simpa using hyes
  have hc:set.contains n=true:=by
   rw [he];simp
  refine⟨_,hm,by rw [hc];rfl,?_⟩
  rw [hc,if_pos rfl]
  simp only [sk,Nat.zero_add]
  apply List.ext_getElem
  ·simp
  ·intro i h1 h2
   rw [List.getElem_set]
   split
   ·rename_i hij;subst hij;simp [he]
   ·rfl
structure dg (h h':Hp) (t:Sl) (xss:List (List Int)):Prop where
 buf: ∃ts:List Sl,Buf h' t 1 (ts.map Sl.v)/\ts.length=xss.length/\ ∀(i:Nat) (h1:i<ts.length) (h2:i<xss.length),IntS h ts[i] xss[i]
 le:h.le (h'.offS t)
theorem dg.keep {h h':Hp} {t:Sl} {xss:List (List Int)} (e:dg h h' t xss):h.le h':=Hp.le_trans e.le (aY _ _)
theorem dg.ints {h h':Hp} {t:Sl} {xss:List (List Int)} (e:dg h h' t xss) (hl:xss.length<=1048576):IntSS h' t xss:=by
 obtain⟨ts,hb,h1,h2⟩:=e.buf
 have hn:t.n=xss.length:=by have:=hb.1;simp at this;omega
 exact⟨ts,h1,hb.slc (by omega),fun i a b=>(h2 i a b).mono e.keep⟩
theorem dg.app {h h':Hp} {t u:Sl} {xss:List (List Int)} {x:List Int} {b:Nat} {K:Option Addr->Nat->Nat->Hp->Prop} (e:dg h h' t xss) (hl:xss.length<=1048576) (hu:IntS h u x) (hb:h' b=none)
  (k: ∀(t':Sl) (h'':Hp),dg h h'' t' (xss++ [x])->K t'.a t'.n t'.c h''):cb (h'.row b [u.v] 1) t.a t.n t.c (some ⟨b,0,none⟩) 1 1 24 K:=by
 have l:=ec [u.v] 1 hb
 obtain⟨ts,hbuf,h1,h2⟩:=e.buf
 have hn:t.n=xss.length:=by have:=hbuf.1;simp at this;omega
 refine da (hbuf.mono l) (by omega) (by omega) (by omega) ⟨b,0,rfl,fun i v hi=>?_⟩ (news:= [u.v]) rfl rfl ?_
 ·cases i with
  |zero=>simp at hi;subst hi;exact nz _ _ _ _ _
  |succ i=>simp at hi
 ·intro t' h'' hn' hb' hle _
  refine k t' h'' ⟨⟨ts++ [u],by rw [List.map_append];exact hb',by simp [h1],?_⟩,Hp.le_trans (Hp.le_trans e.le (bQ t l)) hle⟩
  intro i a c
  by_cases hi:i<ts.length
  ·rw [List.getElem_append_left hi,List.getElem_append_left (by omega)];exact h2 i hi (by omega)
  ·have:i=ts.length:=by simp at a;omega
   subst this
   simp only [List.getElem_append_right (Nat.le_refl _),Nat.sub_self,List.getElem_cons_zero]
   simp only [h1,List.getElem_append_right (Nat.le_refl _),Nat.sub_self,List.getElem_cons_zero]
   exact hu
def sv (S:List Int) (l:List Int):Prop:=
 (∃x∈l,x∈S)\/ ∃x∈l,∃y∈l,x≠y/\(x∉S/\ -x∉S)/\(y∉S/\ -y∉S)
def Lz (S:List Int):Prop:= ∀x∈S, -x∉S
def WfL (v:Int) (l:List Int):Prop:= ∀x∈l,x≠0/\ -v<=x/\x<=v
def WfC (v:Int) (c:List (List Int)):Prop:= ∀l∈c,WfL v l
theorem AC (set:List Int): ∀(l:List Int) (left:Int),(∀x∈l,x≠0)->(left≠0->left∉set/\ -left∉set)->
  (fy set l left=(0,false)/\((∃x∈l,x∈set)\/ ∃x∈l,∃y∈left::l,y≠0/\x≠y/\(x∉set/\ -x∉set)/\(y∉set/\ -y∉set)))\/
  ((fy set l left).2=((fy set l left).1==0)/\(left≠0->(fy set l left).1=left)/\ ∀x∈l,x=(fy set l left).1\/ -x∈set):=by
 intro l
 induction l with
 |nil=>intro left _ _;exact .inr ⟨rfl,fun _=>rfl,by simp⟩
 |cons x r ih=>
  intro left hx ho
  have hr:=fun y hy=>hx y (List.mem_cons_of_mem _ hy)
  have hx0:=hx x (by simp)
  simp only [fy]
  by_cases h1:set.contains x=true
  ·rw [if_pos h1];exact .inl ⟨rfl, .inl ⟨x,by simp,by simpa using h1⟩⟩
  rw [if_neg h1]
  by_cases h2:set.contains (-x)=true
  ·rw [if_pos h2]
   rcases ih left hr ho with ⟨e,h⟩|⟨e,h,h'⟩
   ·refine .inl ⟨e,?_⟩
    rcases h with ⟨z,hz,hs⟩|⟨z,hz,y,hy,h⟩
    ·exact .inl ⟨z,by simp [hz],hs⟩
    ·refine .inr ⟨z,by simp [hz],y,?_,h⟩
     rcases List.mem_cons.1 hy with rfl|hy
     ·simp
     ·simp [hy]
   ·refine .inr ⟨e,h,?_⟩
    intro z hz
    rcases List.mem_cons.1 hz with rfl|hz
    ·exact .inr (by simpa using h2)
    ·exact h' z hz
  rw [if_neg h2]
  have hxo:x∉set/\ -x∉set:=⟨by simpa using h1,by simpa using h2⟩
  by_cases h3:(left !=0&&left !=x)=true
  ·rw [if_pos h3]
   simp at h3
   exact .inl ⟨rfl, .inr ⟨x,by simp,left,by simp,h3.1,fun e=>h3.2 e.symm,hxo,ho h3.1⟩⟩
  rw [if_neg h3]
  have hl:left≠0->left=x:=by simpa using h3
  rcases ih x hr (fun _=>hxo)with ⟨e,h⟩|⟨e,h,h'⟩
  ·refine .inl ⟨e,?_⟩
   rcases h with ⟨z,hz,hs⟩|⟨z,hz,y,hy,h⟩
   ·exact .inl ⟨z,by simp [hz],hs⟩
   ·exact .inr ⟨z,by simp [hz],y,List.mem_cons_of_mem _ hy,h⟩
  ·refine .inr ⟨e,fun h0=>?_,?_⟩
   ·rw [h hx0,hl h0]
   ·intro z hz
    rcases List.mem_cons.1 hz with rfl|hz
    ·exact .inl (h hx0).symm
    ·exact h' z hz
theorem Nn {set S l:List Int} (hs:set⊆S) (hc:Lz S) (hl: ∀x∈l,x≠0) (st:sv S l):
  (fy set l 0).2=false/\((fy set l 0).1≠0->(fy set l 0).1∈S):=by
 rcases AC set l 0 hl (fun h=>absurd rfl h)with ⟨e,_⟩|⟨e,_,h⟩
 ·rw [e];exact⟨rfl,fun h=>absurd rfl h⟩
 ·obtain⟨x,hx,hn,hS⟩: ∃x∈l,x=(fy set l 0).1/\x∈S:=by
   rcases st with ⟨x,hx,hS⟩|⟨x,hx,y,hy,hne,hxo,hyo⟩
   ·rcases h x hx with h1|h1
    ·exact⟨x,hx,h1,hS⟩
    ·exact absurd (hs h1) (hc x hS)
   ·rcases h x hx with h1|h1
    ·rcases h y hy with h2|h2
     ·exact absurd (h1.trans h2.symm) hne
     ·exact absurd (hs h2) hyo.2
    ·exact absurd (hs h1) hxo.2
  rw [e,<-hn]
  exact⟨by simpa using hl x hx,fun _=>hS⟩
theorem Hk {set l:List Int} (hl: ∀x∈l,x≠0) (h1:(fy set l 0).2=false) (h2:(fy set l 0).1=0):sv set l:=by
 rcases AC set l 0 hl (fun h=>absurd rfl h)with ⟨e,h⟩|⟨e,_,h⟩
 ·refine h.imp id ?_
  rintro ⟨x,hx,y,hy,hy0,h⟩
  rcases List.mem_cons.1 hy with rfl|hy
  ·exact absurd rfl hy0
  ·exact⟨x,hx,y,hy,h⟩
 ·rw [h1,h2]at e;simp at e
theorem FQ {S:List Int} (hc:Lz S): ∀(cls:List (List Int)) (set:List Int) (more:Bool),set⊆S->(∀l∈cls,(∀x∈l,x≠0)/\sv S l)->
  ∃set' more',j9 cls set more=some (set',more')/\set'⊆S:=by
 intro cls
 induction cls with
 |nil=>intro set more hs _;exact⟨set,more,rfl,hs⟩
 |cons l r ih=>
  intro set more hs hl
  have h:=Nn hs hc (hl l (by simp)).1 (hl l (by simp)).2
  have hr:=fun l' h'=>hl l' (List.mem_cons_of_mem _ h')
  simp only [j9,h.1,Bool.false_eq_true,if_false]
  split
  ·rename_i hne
   refine ih _ _ ?_ hr
   intro x hx
   rcases List.mem_append.1 hx with hx|hx
   ·exact hs hx
   ·simp only [List.mem_singleton]at hx;subst hx;exact h.2 (by simpa using hne)
  ·exact ih _ _ hs hr
theorem I1 : ∀(cls:List (List Int)) (set:List Int) (more:Bool) (set':List Int) (more':Bool),j9 cls set more=some (set',more')->set⊆set':=by
 intro cls
 induction cls with
 |nil=>intro set more set' more' h;simp only [j9,Option.some.injEq,Prod.mk.injEq]at h;rw [h.1];exact fun x hx=>hx
 |cons l r ih=>
  intro set more set' more' h
  simp only [j9]at h
  split at h
  ·cases h
  ·split at h
   ·exact fun x hx=>ih _ _ _ _ h (List.mem_append_left _ hx)
   ·exact ih _ _ _ _ h
theorem xA : ∀(cls:List (List Int)) (set:List Int) (more:Bool) (set':List Int),(∀l∈cls,∀x∈l,x≠0)->j9 cls set more=some (set',false)->
  more=false/\set'=set/\ ∀l∈cls,sv set l:=by
 intro cls
 induction cls with
 |nil=>intro set more set' _ h;simp only [j9,Option.some.injEq,Prod.mk.injEq]at h;exact⟨h.2,h.1.symm,by simp⟩
 |cons l r ih=>
  intro set more set' hl h
  have hr:=fun l' h'=>hl l' (List.mem_cons_of_mem _ h')
  simp only [j9]at h
  split at h
  ·cases h
  ·rename_i h1
   split at h
   ·have:=(ih _ _ _ hr h).1;cases this
   ·rename_i h2
    obtain⟨e1,e2,e3⟩:=ih _ _ _ hr h
    refine⟨e1,e2,?_⟩
    intro l' h'
    rcases List.mem_cons.1 h' with rfl|h'
    ·exact Hk (hl _ (by simp)) (by simpa using h1) (by simpa using h2)
    ·exact e3 l' h'
theorem sf {cls:List (List Int)} {set:List Int} {v:Int} (hv0:0<=v) (hv:v<=10) (hc:WfC v cls) (k:oW v set):
  jb cls set=match j9 cls set false with|none=>none|some (set',more)=>if more then jb cls set' else some set':=by
 rw [jb]
 cases hp:j9 cls set false with
 |none=>rfl
 |some p=>
  obtain⟨set',more⟩:=p
  obtain⟨k',hl,hm⟩:=nu cls set false k hc _ _ hp
  cases more with
  |false=>rfl
  |true=>
   have h1:set.length<set'.length:=by
    rcases hm rfl with h|h
    ·cases h
    ·exact h
   have h2:=k'.len hv hv0
   simp [h1,h2]
theorem HR {S:List Int} (hS:Lz S) {cls:List (List Int)} {v:Int} (hv0:0<=v) (hv:v<=10) (hc:WfC v cls) (hst: ∀l∈cls,sv S l):
  ∀(n:Nat) (set:List Int),20-set.length<=n->oW v set->set⊆S-> ∃set',jb cls set=some set'/\set'⊆S:=by
 intro n
 induction n with
 |zero=>
  intro set hn k hs
  obtain⟨set',more',hp,hs'⟩:=FQ hS cls set false hs (fun l h=>⟨fun x hx=>(hc l h x hx).1,hst l h⟩)
  obtain⟨k',hl,hm⟩:=nu cls set false k hc _ _ hp
  have h2:=k'.len hv hv0
  rw [sf hv0 hv hc k,hp]
  cases more' with
  |false=>exact⟨set',rfl,hs'⟩
  |true=>
   rcases hm rfl with h|h
   ·cases h
   ·omega
 |succ n ih=>
  intro set hn k hs
  obtain⟨set',more',hp,hs'⟩:=FQ hS cls set false hs (fun l h=>⟨fun x hx=>(hc l h x hx).1,hst l h⟩)
  obtain⟨k',hl,hm⟩:=nu cls set false k hc _ _ hp
  rw [sf hv0 hv hc k,hp]
  cases more' with
  |false=>exact⟨set',rfl,hs'⟩
  |true=>
   rcases hm rfl with h|h
   ·cases h
   ·exact ih set' (by omega) k' hs'
theorem DX {cls:List (List Int)} {v:Int} (hv0:0<=v) (hv:v<=10) (hc:WfC v cls):
  ∀(n:Nat) (set set':List Int),20-set.length<=n->oW v set->jb cls set=some set'->set⊆set'/\oW v set'/\ ∀l∈cls,sv set' l:=by
 intro n
 induction n with
 |zero=>
  intro set set' hn k h
  rw [sf hv0 hv hc k]at h
  cases hp:j9 cls set false with
  |none=>rw [hp]at h;cases h
  |some p=>
   obtain⟨s,more⟩:=p
   rw [hp]at h
   obtain⟨k',hl,hm⟩:=nu cls set false k hc _ _ hp
   have h2:=k'.len hv hv0
   cases more with
   |true=>
    rcases hm rfl with h|h
    ·cases h
    ·omega
   |false=>
    simp only [Bool.false_eq_true,if_false,Option.some.injEq]at h
    subst h
    have:=xA cls set false s (fun l h x hx=>(hc l h x hx).1) hp
    rw [this.2.1]
    exact⟨fun x hx=>hx,k,this.2.2⟩
 |succ n ih=>
  intro set set' hn k h
  rw [sf hv0 hv hc k]at h
  cases hp:j9 cls set false with
  |none=>rw [hp]at h;cases h
  |some p=>
   obtain⟨s,more⟩:=p
   rw [hp]at h
   obtain⟨k',hl,hm⟩:=nu cls set false k hc _ _ hp
   cases more with
   |true=>
    rcases hm rfl with h'|h'
    ·cases h'
    ·simp only [if_true]at h
     obtain⟨a,b,c⟩:=ih s set' (by omega) k' h
     exact⟨fun x hx=>a (I1 _ _ _ _ _ hp hx),b,c⟩
   |false=>
    simp only [Bool.false_eq_true,if_false,Option.some.injEq]at h
    subst h
    have:=xA cls set false s (fun l h x hx=>(hc l h x hx).1) hp
    rw [this.2.1]
    exact⟨fun x hx=>hx,k,this.2.2⟩
theorem JM {S:List Int} (hS:Lz S): ∀(g set:List Int),g⊆S->set⊆S-> ∃set',qh g set=some set'/\set'⊆S:=by
 intro g
 induction g with
 |nil=>intro set _ hs;exact⟨set,rfl,hs⟩
 |cons x r ih=>
  intro set hg hs
  have hx:x∈S:=hg (by simp)
  have hr:r⊆S:=fun y hy=>hg (List.mem_cons_of_mem _ hy)
  have hn: ¬set.contains (-x)=true:=fun h=>hS x hx (hs (by simpa using h))
  simp only [qh,if_neg hn]
  refine ih _ hr ?_
  split
  ·exact hs
  ·intro y hy
   rcases List.mem_append.1 hy with hy|hy
   ·exact hs hy
   ·simp only [List.mem_singleton]at hy;subst hy;exact hx
theorem Lp : ∀(g set set':List Int),qh g set=some set'->set⊆set'/\g⊆set':=by
 intro g
 induction g with
 |nil=>intro set set' h;simp only [qh,Option.some.injEq]at h;subst h;exact⟨fun x hx=>hx,by simp⟩
 |cons x r ih=>
  intro set set' h
  simp only [qh]at h
  split at h
  ·cases h
  ·obtain⟨h1,h2⟩:=ih _ _ h
   split at h1
   ·rename_i hx
    refine⟨h1,?_⟩
    intro y hy
    rcases List.mem_cons.1 hy with rfl|hy
    ·exact h1 (by simpa using hx)
    ·exact h2 hy
   ·refine⟨fun y hy=>h1 (List.mem_append_left _ hy),?_⟩
    intro y hy
    rcases List.mem_cons.1 hy with rfl|hy
    ·exact h1 (by simp)
    ·exact h2 hy
section
variable {cls :List (List Int)} {given:List Int} {v:Int}
theorem F0 (hv0:0<=v) (hv:v<=10) (hc:WfC v cls) (hg:WfL v given) {S:List Int} (hS:Lz S) (hgS:given⊆S) (hst: ∀l∈cls,sv S l):
  ∃set,iz cls given=some set/\set⊆S:=by
 obtain⟨s,h1,h2⟩:=JM hS given [] hgS (by simp)
 obtain⟨s',h3,h4⟩:=HR hS hv0 hv hc hst _ s (Nat.le_refl _) (xY given [] (Ga v) hg s h1) h2
 exact⟨s',by rw [iz,h1];exact h3,h4⟩
theorem r6 (hv0:0<=v) (hv:v<=10) (hc:WfC v cls) (hg:WfL v given) {set:List Int} (h:iz cls given=some set):
  Lz set/\given⊆set/\(∀l∈cls,sv set l)/\oW v set:=by
 rw [iz]at h
 cases h1:qh given []with
 |none=>rw [h1]at h;cases h
 |some s=>
  rw [h1]at h
  have k:=xY given [] (Ga v) hg s h1
  obtain⟨a,b,c⟩:=DX hv0 hv hc _ s set (Nat.le_refl _) k h
  exact⟨b.cons,fun x hx=>a ((Lp _ _ _ h1).2 hx),c,b⟩
theorem xe (hv0:0<=v) (hv:v<=10) {cls':List (List Int)} {given':List Int} (hc:WfC v cls') (hg:WfL v given') (h1:cls⊆cls') (h2:given⊆given')
  (h:iz cls given=none):iz cls' given'=none:=by
 cases h':iz cls' given' with
 |none=>rfl
 |some set=>
  obtain⟨a,b,c,_⟩:=r6 hv0 hv hc hg h'
  obtain⟨s,hs,_⟩:=F0 hv0 hv (fun l hl=>hc l (h1 hl)) (fun x hx=>hg x (h2 hx)) a (fun x hx=>b (h2 hx)) (fun l hl=>c l (h1 hl))
  rw [hs]at h;cases h
end
def gh (cls:List (List Int)) (p:List (List Int)):Prop:= ∀(i:Nat) (h:i<p.length),iz (cls++p.take i) (p[i].map (- ·))=none
theorem BW {v:Int} {l:List Int} (h:WfL v l):WfL v (l.map (- ·)):=by
 intro x hx
 obtain⟨y,hy,rfl⟩:=List.mem_map.1 hx
 have:=h y hy
 omega
theorem sW {v:Int} {a b:List (List Int)} (ha:WfC v a) (hb:WfC v b):WfC v (a++b):=by
 intro l hl
 rcases List.mem_append.1 hl with h|h
 ·exact ha l h
 ·exact hb l h
theorem I0 {v:Int} {a:List (List Int)} (ha:WfC v a) (n:Nat):WfC v (a.take n):=fun l hl=>ha l (List.mem_of_mem_take hl)
theorem gh.mono {v:Int} (hv0:0<=v) (hv:v<=10) {cls cls' p:List (List Int)} (hc:WfC v cls') (hp:WfC v p) (hs:cls⊆cls') (h:gh cls p):gh cls' p:=by
 intro i hi
 refine xe hv0 hv (sW hc (I0 hp i)) (BW (hp _ (List.getElem_mem hi))) ?_ (fun x hx=>hx) (h i hi)
 intro l hl
 rcases List.mem_append.1 hl with h|h
 ·exact List.mem_append_left _ (hs h)
 ·exact List.mem_append_right _ h
theorem gh.snoc {cls p:List (List Int)} {l:List Int} (h:gh cls p) (hl:iz (cls++p) (l.map (- ·))=none):gh cls (p++ [l]):=by
 intro i hi
 by_cases hlt:i<p.length
 ·rw [List.getElem_append_left hlt,List.take_append_of_le_length (by omega)]
  exact h i hlt
 ·have:i=p.length:=by simp at hi;omega
  subst this
  simp only [List.getElem_append_right (Nat.le_refl _),Nat.sub_self,List.getElem_cons_zero]
  rw [List.take_left' rfl];exact hl
def sP (B:List Int):Prop:= ∀(i:Nat) (h:i<B.length),B[i]=(i:Int)+1\/B[i]= -((i:Int)+1)
theorem sP.snoc {B:List Int} (h:sP B) {x:Int} (hx:x=(B.length:Int)+1\/x= -((B.length:Int)+1)):sP (B++ [x]):=by
 intro i hi
 by_cases hlt:i<B.length
 ·rw [List.getElem_append_left hlt];exact h i hlt
 ·have:i=B.length:=by simp at hi;omega
  subst this
  simp only [List.getElem_append_right (Nat.le_refl _),Nat.sub_self,List.getElem_cons_zero]
  exact hx
def cC :Nat->(Nat->Bool)->Nat
 |0,_=>0
 |n+1,f=>cC n f+(if f n then 2^n else 0)
theorem pv (n:Nat) (f:Nat->Bool):cC n f<2^n:=by
 induction n with
 |zero=>simp [cC]
 |succ n ih=>simp only [cC,Nat.pow_succ];split<;>omega
theorem pN (n:Nat) (f:Nat->Bool): ∀i,i<n->(cC n f).testBit i=f i:=by
 induction n with
 |zero=>intro i h;omega
 |succ n ih=>
  intro i hi
  have hl:=pv n f
  simp only [cC]
  by_cases h:i=n
  ·subst h
   cases hf:f i with
   |true=>rw [if_pos rfl,Nat.add_comm,Nat.testBit_two_pow_add_eq,Nat.testBit_lt_two_pow hl];rfl
   |false=>simp [Nat.testBit_lt_two_pow hl]
  ·cases hf:f n with
   |true=>rw [if_pos rfl,Nat.add_comm,Nat.testBit_two_pow_add_gt (by omega)];exact ih i (by omega)
   |false=>simp only [Bool.false_eq_true,if_false,Nat.add_zero];exact ih i (by omega)
structure MI (h:Hp) (K:Nat) (vars:Nat) (tb s:Sl) (ns:List Nd):Prop where
 row:h K=some (.inl ⟨[I vars,tb.v,s.v],3,false⟩)
 buf:Buf h s 3 (cj ns)
 own: ∀a,s.a=some a->a.block≠K
theorem MI.mono {h h':Hp} {K vars:Nat} {tb s:Sl} {ns:List Nd} (l:h.le h') (e:MI h K vars tb s ns):MI h' K vars tb s ns:=⟨l _ _ e.row,e.buf.mono l,e.own⟩
theorem MI.len {h:Hp} {K vars:Nat} {tb s:Sl} {ns:List Nd} (e:MI h K vars tb s ns):s.n=ns.length:=by
 have:=e.buf.1;rw [kX]at this;omega
def cJ (h:Hp) (t:Sl) (n:Nat) (T:Nat->Bool):Prop:=oT h t ((List.range n).map T)
theorem cJ.mono {h h':Hp} {t:Sl} {n:Nat} {T:Nat->Bool} (l:h.le h') (e:cJ h t n T):cJ h' t n T:=oT.mono l e
theorem qf {h:Hp} {c:Bool} {R:Value->Hp->Prop} (k:R (I (if c then 1 else 0)) h):fI #[.bool c] h R:=by
 apply xG
 refine uf_ ?_
 cases c<;>exact k
structure d8 (g h:Hp) (bw:Nat) (v:Int) (t:Sl) (xss:List (List Int)):Prop where
 buf: ∃ts:List Sl,Buf h t 1 (ts.map Sl.v)/\ts.length=xss.length/\ ∀(i:Nat) (h1:i<ts.length) (h2:i<xss.length),IntS g ts[i] xss[i]
 le:g.le (h.offS t)
 row:h bw=some (.inl ⟨[I v,t.v],2,false⟩)
 new:g bw=none
 own: ∀a,t.a=some a->a.block≠bw
theorem cx {h:Hp} {t:Sl} {c:Nat} {x:Blk} (e:(h.offS t) c=some x):h c=some x/\ ∀a,t.a=some a->a.block≠c:=by
 refine⟨aY _ _ _ _ e,fun a ha hac=>?_⟩
 subst hac
 simp [Hp.offS,ha,Hp.off,Hp.set]at e
theorem d8.keep {g h:Hp} {bw:Nat} {v:Int} {t:Sl} {xss:List (List Int)} (e:d8 g h bw v t xss):g.le h:=Hp.le_trans e.le (aY _ _)
theorem d8.len {g h:Hp} {bw:Nat} {v:Int} {t:Sl} {xss:List (List Int)} (e:d8 g h bw v t xss):t.n=xss.length:=by
 obtain⟨ts,hb,h1,_⟩:=e.buf
 have:=hb.1;simp at this;omega
theorem d8.blk {g h:Hp} {bw:Nat} {v:Int} {t:Sl} {xss:List (List Int)} (e:d8 g h bw v t xss): ∀a,t.a=some a-> ∃ts:List Sl,∃z,h a.block=some (.inl ⟨ts.map Sl.v,z,false⟩):=by
 intro a ha
 obtain⟨ts,hb,_,_⟩:=e.buf
 rcases hb.2.2 with ⟨h0,_⟩|⟨b,hb1,hb2⟩
 ·rw [h0]at ha;cases ha
 ·rw [hb1]at ha;cases ha;exact⟨ts,_,hb2⟩
theorem d8.to {g h g' h':Hp} {bw:Nat} {v v':Int} {t:Sl} {xss:List (List Int)} (e:d8 g h bw v t xss) (l:g.le g') (l':g'.le (h'.offS t)) (hr:h' bw=some (.inl ⟨[I v',t.v],2,false⟩))
  (hbuf: ∀a,t.a=some a->h' a.block=h a.block) (hn:g' bw=none):d8 g' h' bw v' t xss:=by
 obtain⟨ts,hb,h1,h2⟩:=e.buf
 refine⟨⟨ts,⟨hb.1,hb.2.1,hb.2.2.imp id ?_⟩,h1,fun i a b=>(h2 i a b).mono l⟩,l',hr,hn,e.own⟩
 rintro ⟨b,hb1,hb2⟩
 exact⟨b,hb1,(hbuf _ hb1).trans hb2⟩
theorem d8.lit {g h:Hp} {bw b n:Nat} {v:Int} {t:Sl} {xss:List (List Int)} {cs:List Value} (e:d8 g h bw v t xss) (hb:h b=none):d8 (g.row b cs n) (h.row b cs n) bw v t xss:=by
 have gb:g b=none:=aC e.keep hb
 have nb:=fresh_ne hb e.row
 have nt: ∀a,t.a=some a->a.block≠b:=fun a ha=>by
  obtain⟨ts,z,hx⟩:=e.blk a ha
  exact fresh_ne hb hx
 refine e.to (ec _ _ gb) ?_ (by rw [bM _ _ nb];exact e.row) (fun a ha=>bM _ _ (nt a ha)) (by rw [bM _ _ nb];exact e.new)
 intro c x hc
 by_cases h':c=b
 ·subst h'
  rw [eR nt,bG];rw [bG]at hc;exact hc
 ·rw [bM _ _ h']at hc
  obtain⟨h1,h2⟩:=cx (e.le _ _ hc)
  rw [eR h2,bM _ _ h'];exact h1
theorem d8.app {g h:Hp} {bw b:Nat} {v:Int} {t u:Sl} {xss:List (List Int)} {x:List Int} {K:Option Addr->Nat->Nat->Hp->Prop} (e:d8 g h bw v t xss) (hl:xss.length<=1048576) (hu:IntS g u x) (hb:h b=none)
  (k: ∀(t':Sl) (h':Hp),h' bw=some (.inl ⟨[I v,t.v],2,false⟩)->(h.offS t).le (h'.offS t')->d8 g (h'.row bw [I v,t'.v] 2) bw v t' (xss++ [x])->K t'.a t'.n t'.c h'):
  cb (h.row b [u.v] 1) t.a t.n t.c (some ⟨b,0,none⟩) 1 1 24 K:=by
 have l:=ec [u.v] 1 hb
 have hn:=e.len
 obtain⟨ts,hbuf,h1,h2⟩:=e.buf
 refine da (hbuf.mono l) (by omega) (by omega) (by omega) ⟨b,0,rfl,fun i v hi=>?_⟩ (news:= [u.v]) rfl rfl ?_
 ·cases i with
  |zero=>simp at hi;subst hi;exact nz _ _ _ _ _
  |succ i=>simp at hi
 intro t' h' hn' hb' hle _
 have hle':(h.offS t).le (h'.offS t'):=Hp.le_trans (bQ t l) hle
 obtain⟨f,o⟩:=iY hle' e.row e.own
 refine k t' h' f hle' ⟨⟨ts++ [u],?_,by simp [h1],?_⟩,?_,bG ..,e.new,o⟩
 ·rw [List.map_append]
  refine⟨hb'.1,hb'.2.1,hb'.2.2.imp id ?_⟩
  rintro ⟨c,hc,hcb⟩
  exact⟨c,hc,by rw [bM _ _ (o _ hc)];exact hcb⟩
 ·intro i a c
  by_cases hi:i<ts.length
  ·rw [List.getElem_append_left hi,List.getElem_append_left (by omega)];exact h2 i hi (by omega)
  ·have:i=ts.length:=by simp at a;omega
   subst this
   simp only [List.getElem_append_right (Nat.le_refl _),Nat.sub_self,List.getElem_cons_zero]
   simp only [h1,List.getElem_append_right (Nat.le_refl _),Nat.sub_self,List.getElem_cons_zero]
   exact hu
 ·intro c x hc
  obtain⟨h3,h4⟩:=cx (hle' _ _ (e.le _ _ hc))
  have hcb:c≠bw:=fun hh=>by rw [hh,e.new]at hc;cases hc
  rw [eR h4,bM _ _ hcb];exact h3
structure Rd (h:Hp) (B:Nat) (s:Sl) (bs:List Nat) (p:Nat):Prop where
 row:h B=some (.inl ⟨[s.v,I p],2,false⟩)
 byt:ByteS (h.off B) s bs
theorem Rd.next {h:Hp} {B:Nat} {s:Sl} {bs:List Nat} {p:Nat} (e:Rd h B s bs p) (q:Nat):Rd (h.row B [s.v,I q] 2) B s bs q:=⟨bG ..,by rw [rZ];exact e.byt⟩
theorem Rd.to {h h':Hp} {B:Nat} {s:Sl} {bs:List Nat} {p:Nat} (e:Rd h B s bs p) (l:h.le h'):Rd h' B s bs p:=⟨l _ _ e.row,e.byt.mono (B5 _ l)⟩
theorem KJ {a b:Nat} (ha:a<4611686018427387904) (hb:b<4611686018427387904): ∃c:Nat,RA (a:Int) (b:Int)=c:=by
 have:=Im (a:=a) (b:=b) (by omega) (by omega)
 exact⟨_,this⟩
theorem zk {h:Hp} {B p:Nat} {s:Sl} {bs:List Nat} {n:Int} {R:Value->Hp->Prop} (e:Rd h B s bs p) (hp:p<=1000000000) (hn:n<=1000000000)
  (k: ∀x:Nat,(1<=n->(x:Int)<n)->(n<1->x=0)->R (I x) (h.row B [s.v,I (p+1:Nat)] 2)):ah #[.pointer (some ⟨B,0,none⟩),I n] h R:=by
 apply xy
 refine uf_ ?_
 simp only [vm,am e.row,mm,e.row,aE (n:=p) (by omega)]
 have hb:=e.byt.mono (C5 h B [s.v,I (p+1:Nat)] 2)
 have hl:=hb.len
 have hbd:=hb.bound
 refine⟨by omega,?_⟩
 refine ar (fun J=>J (decide (n<1)||decide (bs.length=0))) ?_ ?_
 rotate_left
 ·intro J hJ
  refine ad (fun e=>?_) (fun e=>?_)
  ·rw [e,Bool.true_or]at hJ;exact hJ
  ·rw [e,Bool.false_or]at hJ
   have:((s.n:Int)==0)=decide (bs.length=0):=by rw [hl,Bool.eq_iff_iff];simp
   rw [this];exact hJ
 refine ad (fun he=>?_) (fun he=>?_)
 ·refine k 0 (fun h1=>by omega) (fun _=>rfl)
 have hn1:1<=n:=by simp at he;omega
 have hbn:0<bs.length:=by
  have:bs.length≠0:=by intro h;rw [h]at he;simp at he
  omega
 have hw:W (((p+1:Nat):Int)-1)=p:=by rw [bU (by omega) (by omega)];omega
 obtain⟨m,rfl⟩: ∃m:Nat,n=m:=⟨n.toNat,by omega⟩
 have fin: ∀x:Nat,R (I (Int.tmod (x:Int) (m:Int))) (h.row B [s.v,I (p+1:Nat)] 2):=by
  intro x
  have e1:Int.tmod (x:Int) (m:Int)=((x%m:Nat):Int):=by rw [Int.ofNat_tmod]
  rw [e1]
  have:x%m<m:=Nat.mod_lt _ (by omega)
  exact k (x%m) (fun _=>by omega) (fun h=>by omega)
 simp only [hw,hl]
 refine ad (fun hlt=>?_) (fun hlt=>?_)
 ·have hlt':p<bs.length:=by simp at hlt;omega
  obtain⟨b,o,ha,hc,hx⟩:=hb.at hlt'
  simp only [vm,ha,hc]
  refine⟨by omega,?_⟩
  rw [if_neg (by omega),ef (by omega)]
  exact fin _
 ·have hq: ∀q:Nat,Int.tmod (q:Int) (bs.length:Int)=((q%bs.length:Nat):Int):=fun q=>by rw [Int.ofNat_tmod]
  have hlt2: ∀q:Nat,q%bs.length<bs.length:=fun q=>Nat.mod_lt _ hbn
  have w1:W (W ((p:Int)*7)+3)=((p*7+3:Nat):Int):=by
   rw [bU (n:=(p:Int)*7) (by omega) (by omega),bU (by omega) (by omega)];omega
  obtain⟨b,o,ha,hc,hx⟩:=hb.at (hlt2 p)
  obtain⟨b',o',ha',hc',hy⟩:=hb.at (hlt2 (p*7+3))
  rw [ha]at ha';cases ha'
  have hdiv:Int.tdiv (p:Int) (bs.length:Int)=((p/bs.length:Nat):Int):=by rw [Int.ofNat_tdiv]
  have hdl:p/bs.length<=p:=Nat.div_le_self _ _
  generalize hX:bs[p%bs.length]'(hlt2 p)=X at*
  generalize hY:bs[(p*7+3)%bs.length]'(hlt2 _)=Y at*
  generalize hD:p/bs.length=D at*
  have tot:W (W (W (W (W (X:Int)*131)+W (W (Y:Int)*1117))+W ((p:Int)*29))+W (W (D:Int)*53))=((X*131+Y*1117+p*29+D*53:Nat):Int):=by
   rw [ef (n:=X) (by omega),ef (n:=Y) (by omega),ef (n:=D) (by omega),bU (n:=(X:Int)*131) (by omega) (by omega),bU (n:=(Y:Int)*1117) (by omega) (by omega),
    bU (n:=(p:Int)*29) (by omega) (by omega),bU (n:=(D:Int)*53) (by omega) (by omega),bU (n:=(X:Int)*131+(Y:Int)*1117) (by omega) (by omega),
    bU (n:=(X:Int)*131+(Y:Int)*1117+(p:Int)*29) (by omega) (by omega),bU (by omega) (by omega)]
   omega
  have d64:W (Int.tdiv (((X*131+Y*1117+p*29+D*53:Nat)):Int) 64)=(((X*131+Y*1117+p*29+D*53)/64:Nat):Int):=by
   have:Int.tdiv (((X*131+Y*1117+p*29+D*53:Nat)):Int) 64=(((X*131+Y*1117+p*29+D*53)/64:Nat):Int):=by
    have:=Int.ofNat_tdiv (X*131+Y*1117+p*29+D*53) 64
    exact this.symm
   rw [this,ef (by omega)]
  obtain⟨c,hcx⟩:=KJ (a:=X*131+Y*1117+p*29+D*53) (b:=(X*131+Y*1117+p*29+D*53)/64) (by omega) (by omega)
  have hnz: ¬((bs.length:Nat):Int)=0:=by omega
  simp only [vm,w1,hq,hdiv,ha,hc,hc',hD,tot,d64,hcx]
  rw [if_neg hnz]
  refine⟨by have:=hlt2 p;omega,?_⟩
  rw [if_neg hnz]
  refine⟨by have:=hlt2 (p*7+3);omega,?_⟩
  rw [if_neg hnz]
  have hm0: ¬(m:Int)=0:=by omega
  rw [if_neg hm0]
  have:=fin c
  simp only [true_and,and_self]
  exact this
theorem ff.appK {h h':Hp} {t:Sl} {set:List Int} {x:Int} {b:Nat} {K:Option Addr->Nat->Nat->Hp->Prop} (e:ff h h' t set) (hl:set.length<=1048576) (hb:h' b=none)
  (k: ∀(t':Sl) (h'':Hp),(h'.offS t).le (h''.offS t')->ff h h'' t' (set++ [x])->K t'.a t'.n t'.c h''):cb (h'.row b [I x] 1) t.a t.n t.c (some ⟨b,0,none⟩) 1 1 8 K:=by
 have l:=ec [I x] 1 hb
 exact IK (e.buf.mono l) hl (nz _ _ _ _ _) fun t' h'' hb' hl'=>k t' h'' (Hp.le_trans (bQ t l) hl') ⟨hb',Hp.le_trans (Hp.le_trans e.le (bQ t l)) hl'⟩
theorem ff.neB {g h:Hp} {o s:Sl} {xs:List Int} (e:ff g h o xs) {B p n:Nat} (hB:h B=some (.inl ⟨[s.v,I p],n,false⟩)): ∀a,o.a=some a->a.block≠B:=by
 intro a ha
 rcases e.buf.2.2 with ⟨h0,_⟩|⟨b,hb1,hb2⟩
 ·rw [h0]at ha;cases ha
 ·rw [hb1]at ha;cases ha
  refine dr hb2 hB ?_
  intro h
  simp only [Sum.inl.injEq,Row.mk.injEq]at h
  rcases xs with _|⟨x,r⟩
  ·simp at h
  ·simp [Sl.v]at h
theorem d8.neB {g h:Hp} {bw:Nat} {v:Int} {t s:Sl} {xss:List (List Int)} (e:d8 g h bw v t xss) {B p n:Nat} (hB:h B=some (.inl ⟨[s.v,I p],n,false⟩)): ∀a,t.a=some a->a.block≠B:=by
 intro a ha
 obtain⟨ts,z,hx⟩:=e.blk a ha
 refine dr hx hB ?_
 intro h
 simp only [Sum.inl.injEq,Row.mk.injEq]at h
 rcases ts with _|⟨t1,_|⟨t2,r⟩⟩
 ·simp at h
 ·simp at h
 ·simp [Sl.v]at h
theorem d8.ne3 {g h:Hp} {bw:Nat} {v:Int} {t:Sl} {xss:List (List Int)} (e:d8 g h bw v t xss) {B n:Nat} {x:Int} {y:List Value} (hB:h B=some (.inl ⟨I x::y,n,false⟩)): ∀a,t.a=some a->a.block≠B:=by
 intro a ha
 obtain⟨ts,z,hx⟩:=e.blk a ha
 refine dr hx hB ?_
 intro h
 simp only [Sum.inl.injEq,Row.mk.injEq]at h
 rcases ts with _|⟨t1,r⟩
 ·simp at h
 ·simp [Sl.v]at h
theorem mZ {h:Hp} {t:Sl} {c:Nat} {x:Blk} (e:h c=some x) (d: ∀a,t.a=some a->a.block≠c):(h.offS t) c=some x:=by rw [eR d];exact e
structure CS (h0:Hp) (B b3 b9:Nat) (s:Sl) (c:Nat) (h:Hp) (v:Int) (t:Sl) (cls:List (List Int)):Prop where
 rd: ∃q,q<=c/\h B=some (.inl ⟨[s.v,I (q:Nat)],2,false⟩)
 r3:h b3=some (.inl ⟨[I 0, .slice none 0 0],2,false⟩)
 n39:b3≠b9
 fr:(h0.off B).le (h.offS t)
 fr9:h0 b9=none
 fr3:h0 b3=none
 gr: ∃g:Hp,(∀c x,g c=some x->h0 c=none/\c≠b3)/\d8 g h b9 v t cls
section
variable {h0 h:Hp} {B b3 b9 c p0:Nat} {s t:Sl} {v:Int} {cls:List (List Int)} {bs:List Nat}
theorem CS.row (e:CS h0 B b3 b9 s c h v t cls):h b9=some (.inl ⟨[I v,t.v],2,false⟩):=by obtain⟨g,_,hg⟩:=e.gr;exact hg.row
theorem CS.frame (e:CS h0 B b3 b9 s c h v t cls):(h0.off B).le h:=Hp.le_trans e.fr (aY _ _)
theorem CS.nB9 (e:CS h0 B b3 b9 s c h v t cls):b9≠B:=by
 obtain⟨q,_,hq⟩:=e.rd
 exact dr e.row hq (by intro h;simp [Sl.v]at h)
theorem CS.nB3 (e:CS h0 B b3 b9 s c h v t cls):b3≠B:=by
 obtain⟨q,_,hq⟩:=e.rd
 exact dr e.r3 hq (by intro h;simp [Sl.v]at h)
theorem CS.more (e:CS h0 B b3 b9 s c h v t cls) {c':Nat} (hc:c<=c'):CS h0 B b3 b9 s c' h v t cls:=by
 obtain⟨q,hq,hr⟩:=e.rd
 exact⟨⟨q,by omega,hr⟩,e.r3,e.n39,e.fr,e.fr9,e.fr3,e.gr⟩
theorem CS.app (e:CS h0 B b3 b9 s c h v t cls) (hB: ∃x,h0 B=some x) {h2:Hp} {o:Sl} {xs:List Int} {q2 c2 b:Nat} {K:Option Addr->Nat->Nat->Hp->Prop} (hl:cls.length<=1048576) (hx:xs.length<=1048576)
  (hgr:ff (h.off B) h2 o xs) (hr2:h2 B=some (.inl ⟨[s.v,I (q2:Nat)],2,false⟩)) (hq2:q2<=c2) (hb:h2 b=none)
  (k: ∀(t':Sl) (h3:Hp),h3 b9=some (.inl ⟨[I v,t.v],2,false⟩)->CS h0 B b3 b9 s c2 (h3.row b9 [I v,t'.v] 2) v t' (cls++ [xs])->K t'.a t'.n t'.c h3):
  cb (h2.row b [o.v] 1) t.a t.n t.c (some ⟨b,0,none⟩) 1 1 24 K:=by
 obtain⟨g,hg,gr⟩:=e.gr
 obtain⟨q,hq,hr⟩:=e.rd
 have base: ∀c x,h c=some x->c≠B->h2 c=some x/\ ∀a,o.a=some a->a.block≠c:=by
  intro c x hc hcB
  exact cx (hgr.le c x (by rw [Hp.off,Hp.set_ne _ _ hcB];exact hc))
 have r9:=base _ _ gr.row e.nB9
 have r3:=base _ _ e.r3 e.nB3
 have tB:=gr.neB hr
 have oB:=hgr.neB hr2
 have t3:=gr.ne3 e.r3
 have tblk: ∀a,t.a=some a->h2 a.block=h a.block/\ ∀a',o.a=some a'->a'.block≠a.block:=by
  intro a ha
  obtain⟨ts,z,hx⟩:=gr.blk a ha
  obtain⟨h1,h2⟩:=base _ _ hx (tB a ha)
  exact⟨h1.trans hx.symm,h2⟩
 have hg': ∀c x,((h2.sub h0).wo ([b9,b3]++t.blk)) c=some x->h2 c=some x/\h0 c=none/\c≠b3/\c≠b9/\ ∀a,t.a=some a->a.block≠c:=by
  intro c x hc
  have hm:c∉ [b9,b3]++t.blk:=fun hm=>by rw [en hm]at hc;cases hc
  rw [rD hm]at hc
  have h1:h0 c=none:=kv (by rw [hc];simp)
  rw [jY h1]at hc
  simp only [List.cons_append,List.nil_append,List.mem_cons,not_or]at hm
  exact⟨hc,h1,hm.2.1,hm.1,fun a ha hac=>hm.2.2 (by unfold Sl.blk;rw [ha];simp [hac])⟩
 have hgi: ∀c x,h2 c=some x->h0 c=none->c≠b3->c≠b9->(∀a,t.a=some a->a.block≠c)->((h2.sub h0).wo ([b9,b3]++t.blk)) c=some x:=by
  intro c x h1 h2 h3 h4 h5
  rw [rD,jY h2]
  ·exact h1
  ·simp only [List.cons_append,List.nil_append,List.mem_cons,not_or]
   refine⟨h4,h3,fun hm=>?_⟩
   unfold Sl.blk at hm
   split at hm
   ·simp at hm
   ·rename_i a ha;simp at hm;exact h5 a ha hm.symm
 have gr':d8 ((h2.sub h0).wo ([b9,b3]++t.blk)) h2 b9 v t cls:=by
  refine gr.to ?_ ?_ r9.1 (fun a ha=>(tblk a ha).1) (en (by simp))
  ·intro c x hc
   obtain⟨g1,g2⟩:=cx (gr.le _ _ hc)
   have hn:=hg _ _ hc
   have hcB:c≠B:=fun hh=>by obtain⟨y,hy⟩:=hB;rw [hh,hy]at hn;cases hn.1
   exact hgi c x (base c x g1 hcB).1 hn.1 hn.2 (fun hh=>by rw [hh,gr.new]at hc;cases hc) g2
  ·intro c x hc
   obtain⟨g1,g2,g3,g4,g5⟩:=hg' c x hc
   exact mZ g1 g5
 have hu:IntS ((h2.sub h0).wo ([b9,b3]++t.blk)) o xs:=by
  refine qI.ints ⟨hgr.buf.1,hgr.buf.2.1,hgr.buf.2.2.imp id ?_⟩ hx
  rintro ⟨d,hd,hdb⟩
  refine⟨d,hd,hgi _ _ hdb ?_ ?_ ?_ ?_⟩
  ·cases hx:h0 d with
   |none=>rfl
   |some x=>
    have hdB:d≠B:=oB _ hd
    have:=e.frame d x (by rw [Hp.off,Hp.set_ne _ _ hdB];exact hx)
    exact absurd rfl ((base d x this hdB).2 _ hd)
  ·exact r3.2 _ hd
  ·exact r9.2 _ hd
  ·intro a ha hab
   exact(tblk a ha).2 _ hd hab.symm
 refine gr'.app hl hu hb fun t' h3 f9 hk hgd=>k t' h3 f9 ?_
 have kp: ∀c x,h2 c=some x->(∀a,t.a=some a->a.block≠c)->h3 c=some x/\ ∀a,t'.a=some a->a.block≠c:=by
  intro c x h1 h2
  exact cx (hk _ _ (mZ h1 h2))
 have n9: ∀a,t.a=some a->a.block≠b9:=gr.own
 refine⟨⟨q2,hq2,by rw [bM _ _ e.nB9.symm];exact(kp _ _ hr2 tB).1⟩,by rw [bM _ _ e.n39];exact(kp _ _ r3.1 t3).1,e.n39,?_,e.fr9,e.fr3,_,fun c x hc=>⟨(hg' c x hc).2.1,(hg' c x hc).2.2.1⟩,hgd⟩
 intro c x hc
 have hcB:c≠B:=fun hh=>by rw [hh,tQ]at hc;cases hc
 have hc9:c≠b9:=fun hh=>by rw [hh,Hp.off,Hp.set_ne _ _ e.nB9,e.fr9]at hc;cases hc
 obtain⟨g1,g2⟩:=cx (e.fr _ _ hc)
 obtain⟨g3,g4⟩:=kp _ _ (base c x g1 hcB).1 g2
 rw [eR g4,bM _ _ hc9];exact g3
theorem CS.lit (e:CS h0 B b3 b9 s c h v t cls) {b n:Nat} {cs:List Value} (hb:h b=none):CS h0 B b3 b9 s c (h.row b cs n) v t cls:=by
 obtain⟨g,hg,gr⟩:=e.gr
 obtain⟨q,hq,hr⟩:=e.rd
 have tb: ∀{c x},(h.offS t) c=some x->((h.row b cs n).offS t) c=some x:=by
  intro c x hc
  obtain⟨h1,h2⟩:=cx hc
  rw [eR h2,bM _ _ (fresh_ne hb h1)];exact h1
 exact⟨⟨q,hq,by rw [bM _ _ (fresh_ne hb hr)];exact hr⟩,by rw [bM _ _ (fresh_ne hb e.r3)];exact e.r3,e.n39,fun c x hc=>tb (e.fr _ _ hc),e.fr9,e.fr3,g,hg,
  gr.to (Hp.le_refl _) (fun c x hc=>tb (gr.le _ _ hc)) (by rw [bM _ _ (fresh_ne hb gr.row)];exact gr.row) (fun a ha=>by
   obtain⟨ts,z,hx⟩:=gr.blk a ha
   exact bM _ _ (fresh_ne hb hx)) gr.new⟩
end
theorem dg.up {h h' h'':Hp} {t:Sl} {xss:List (List Int)} (e:dg h h' t xss) (l:h'.le h''):dg h h'' t xss:=by
 obtain⟨ts,h1,h2,h3⟩:=e.buf
 exact⟨⟨ts,h1.mono l,h2,h3⟩,Hp.le_trans e.le (bQ t l)⟩
def j6 (v:Int) (cls p:List (List Int)):Bool:=dw v cls&&(decide (p.length<=300)&&p.all (fg v))
theorem j6.iff {v:Int} {cls p:List (List Int)}:j6 v cls p=true↔dw v cls=true/\p.length<=300/\ ∀l∈p,fg v l=true:=by
 simp [j6,List.all_eq_true]
theorem dg.len {g h:Hp} {o:Sl} {out:List (List Int)} (e:dg g h o out):o.n=out.length:=by
 obtain⟨ts,hb,h1,_⟩:=e.buf
 have:=hb.1;simp at this;omega
theorem dg.base {g g2 h:Hp} {o:Sl} {out:List (List Int)} (e:dg g h o out) (l:g.le g2) (l2:g2.le (h.offS o)):dg g2 h o out:=by
 obtain⟨ts,h1,h2,h3⟩:=e.buf
 exact⟨⟨ts,h1,h2,fun i a b=>(h3 i a b).mono l⟩,l2⟩
theorem dg.blk {g h:Hp} {o:Sl} {out:List (List Int)} (e:dg g h o out): ∀a,o.a=some a-> ∃x,h a.block=some x:=by
 intro a ha
 obtain⟨ts,hb,_,_⟩:=e.buf
 rcases hb.2.2 with ⟨h0,_⟩|⟨b,hb1,hb2⟩
 ·rw [h0]at ha;cases ha
 ·rw [hb1]at ha;cases ha;exact⟨_,hb2⟩
theorem ff.apart {h2 h3:Hp} {u o:Sl} {xs:List Int} (hg:ff h2 h3 u xs) (ho: ∀a,o.a=some a-> ∃x,h2 a.block=some x): ∀a a',u.a=some a->o.a=some a'->a.block≠a'.block:=by
 intro a a' ha ha'
 obtain⟨x,hx⟩:=ho a' ha'
 exact(cx (hg.le _ _ hx)).2 a ha
theorem ff.offS {h2 h3:Hp} {u o:Sl} {xs:List Int} (hg:ff h2 h3 u xs) (ho: ∀a,o.a=some a-> ∃x,h2 a.block=some x):qI (h3.offS o) u xs:=by
 refine⟨hg.buf.1,hg.buf.2.1,hg.buf.2.2.imp id ?_⟩
 rintro ⟨b,hb1,hb2⟩
 exact⟨b,hb1,mZ hb2 fun a ha=>(hg.apart ho _ a hb1 ha).symm⟩
theorem ff.beside {h0 h' h'':Hp} {a b b':Sl} {xs:List Int} (e:ff h0 h' a xs) (l0:h0.le (h'.offS b)) (hk:(h'.offS b).le (h''.offS b')) (nab: ∀x y,a.a=some x->b.a=some y->y.block≠x.block):
  ff h0 h'' a xs/\ ∀x y,a.a=some x->b'.a=some y->y.block≠x.block:=by
 constructor
 ·refine⟨⟨e.buf.1,e.buf.2.1,e.buf.2.2.imp id ?_⟩,?_⟩
  ·rintro ⟨c,hc,hcb⟩
   exact⟨c,hc,(cx (hk _ _ (mZ hcb fun y hy=>nab _ y hc hy))).1⟩
  ·intro c x hc
   obtain⟨g1,g2⟩:=cx (e.le _ _ hc)
   obtain⟨g3,g4⟩:=cx (l0 _ _ hc)
   exact mZ (cx (hk _ _ (mZ g1 g4))).1 g2
 ·intro x y hx hy
  rcases e.buf.2.2 with ⟨h0,_⟩|⟨c,hc,hcb⟩
  ·rw [h0]at hx;cases hx
  ·rw [hc]at hx;cases hx
   exact(cx (hk _ _ (mZ hcb fun y hy=>nab _ y hc hy))).2 y hy
theorem dg.appK {g h:Hp} {t u:Sl} {xss:List (List Int)} {x:List Int} {b:Nat} {K:Option Addr->Nat->Nat->Hp->Prop} (e:dg g h t xss) (hl:xss.length<=1048576) (hu:IntS g u x) (hb:h b=none)
  (k: ∀(t':Sl) (h'':Hp),(h.offS t).le (h''.offS t')->dg g h'' t' (xss++ [x])->K t'.a t'.n t'.c h''):cb (h.row b [u.v] 1) t.a t.n t.c (some ⟨b,0,none⟩) 1 1 24 K:=by
 have l:=ec [u.v] 1 hb
 have hn:=e.len
 obtain⟨ts,hbuf,h1,h2⟩:=e.buf
 refine da (hbuf.mono l) (by omega) (by omega) (by omega) ⟨b,0,rfl,fun i v hi=>?_⟩ (news:= [u.v]) rfl rfl ?_
 ·cases i with
  |zero=>simp at hi;subst hi;exact nz _ _ _ _ _
  |succ i=>simp at hi
 ·intro t' h'' hn' hb' hle _
  have hle':(h.offS t).le (h''.offS t'):=Hp.le_trans (bQ t l) hle
  refine k t' h'' hle' ⟨⟨ts++ [u],by rw [List.map_append];exact hb',by simp [h1],?_⟩,Hp.le_trans e.le hle'⟩
  intro i a c
  by_cases hi:i<ts.length
  ·rw [List.getElem_append_left hi,List.getElem_append_left (by omega)];exact h2 i hi (by omega)
  ·have:i=ts.length:=by simp at a;omega
   subst this
   simp only [List.getElem_append_right (Nat.le_refl _),Nat.sub_self,List.getElem_cons_zero]
   simp only [h1,List.getElem_append_right (Nat.le_refl _),Nat.sub_self,List.getElem_cons_zero]
   exact hu
theorem dg.neB {g h:Hp} {t s:Sl} {xss:List (List Int)} (e:dg g h t xss) {B p n:Nat} (hB:h B=some (.inl ⟨[s.v,I p],n,false⟩)): ∀a,t.a=some a->a.block≠B:=by
 intro a ha
 obtain⟨ts,hb,_,_⟩:=e.buf
 rcases hb.2.2 with ⟨h0,_⟩|⟨c,hc,hcb⟩
 ·rw [h0]at ha;cases ha
 ·rw [hc]at ha;cases ha
  refine dr hcb hB ?_
  intro h
  simp only [Sum.inl.injEq,Row.mk.injEq]at h
  rcases ts with _|⟨t1,_|⟨t2,r⟩⟩
  ·simp at h
  ·simp at h
  ·simp [Sl.v]at h
structure PS (h:Hp) (B:Nat) (s:Sl) (c:Nat) (g h':Hp) (t:Sl) (res:List (List Int)):Prop where
 rd: ∃q,q<=c/\h' B=some (.inl ⟨[s.v,I (q:Nat)],2,false⟩)
 gr:dg g h' t res
 new: ∀c x,g c=some x->h c=none
 fr:(h.off B).le (h'.offS t)
section
variable {h g h':Hp} {B c:Nat} {s t:Sl} {res:List (List Int)} {bs:List Nat}
theorem PS.frame (e:PS h B s c g h' t res):(h.off B).le h':=Hp.le_trans e.fr (aY _ _)
theorem PS.more (e:PS h B s c g h' t res) {c':Nat} (hc:c<=c'):PS h B s c' g h' t res:=by
 obtain⟨q,hq,hr⟩:=e.rd
 exact⟨⟨q,by omega,hr⟩,e.gr,e.new,e.fr⟩
theorem PS.lit (e:PS h B s c g h' t res) (hB: ∃x,h B=some x) {b n:Nat} {cs:List Value} (hb:h' b=none):PS h B s c (g.row b cs n) (h'.row b cs n) t res:=by
 obtain⟨q,hq,hr⟩:=e.rd
 have nB:=fresh_ne hb hr
 have hb0:h b=none:=by
  cases hx:h b with
  |none=>rfl
  |some x=>
   have:=e.frame b x (by rw [Hp.off,Hp.set_ne _ _ nB.symm];exact hx)
   rw [hb]at this;cases this
 have tb: ∀a,t.a=some a->a.block≠b:=fun a ha=>by
  obtain⟨x,hx⟩:=e.gr.blk a ha
  exact fresh_ne hb hx
 have key: ∀c x,c≠b->(h'.offS t) c=some x->((h'.row b cs n).offS t) c=some x:=by
  intro c x hcB hc
  obtain⟨h1,h2⟩:=cx hc
  rw [eR h2,bM _ _ hcB];exact h1
 have gb:g b=none:=aC e.gr.keep hb
 refine⟨⟨q,hq,by rw [bM _ _ nB];exact hr⟩,(e.gr.up (ec cs n hb)).base (ec _ _ gb) ?_,?_,fun c x hc=>key c x (fun hh=>by rw [hh,Hp.off,Hp.set_ne _ _ nB.symm,hb0]at hc;cases hc) (e.fr _ _ hc)⟩
 ·intro c x hc
  by_cases hcb:c=b
  ·subst hcb
   rw [bG]at hc
   rw [eR tb,bG];exact hc
  ·rw [bM _ _ hcb]at hc
   exact key c x hcb (e.gr.le _ _ hc)
 ·intro c x hc
  by_cases hcb:c=b
  ·subst hcb;exact hb0
  ·rw [bM _ _ hcb]at hc;exact e.new _ _ hc
theorem PS.app {u:Sl} {x:List Int} {b:Nat} {K:Option Addr->Nat->Nat->Hp->Prop} (e:PS h B s c g h' t res) (hl:res.length<=1048576) (hu:IntS g u x) (hb:h' b=none)
  (k: ∀(t':Sl) (h'':Hp),PS h B s c g h'' t' (res++ [x])->K t'.a t'.n t'.c h''):cb (h'.row b [u.v] 1) t.a t.n t.c (some ⟨b,0,none⟩) 1 1 24 K:=by
 obtain⟨q,hq,hr⟩:=e.rd
 exact e.gr.appK hl hu hb fun t' h'' hk gr=>k t' h'' ⟨⟨q,hq,(cx (hk _ _ (mZ hr (e.gr.neB hr)))).1⟩,gr,e.new,Hp.le_trans e.fr hk⟩
end
def hG (w:Nat) (n:Int):Nat:=(n%((2^w:Nat):Int)).toNat
def sgn (w a:Nat):Int:=if 2^(w-1)<=a then(a:Int)-((2^w:Nat):Int)else a
theorem bk (w:Nat):0<2^w:=Nat.pow_pos (by omega)
theorem hO (w:Nat) (n:Int):hG w n<2^w:=by
 unfold hG
 have h:=Int.emod_lt_of_pos n (b:=((2^w:Nat):Int)) (Int.ofNat_lt.2 (bk w))
 have h0:=Int.emod_nonneg n (b:=((2^w:Nat):Int)) (by have:=bk w;omega)
 omega
theorem mF (w a:Nat):hG w (a:Int)=a%2^w:=by
 unfold hG
 rw [<-Int.natCast_emod,Int.toNat_natCast]
theorem Cs (w:Nat) (n:Int):((hG w n:Nat):Int)=n%((2^w:Nat):Int):=by
 unfold hG
 have h0:=Int.emod_nonneg n (b:=((2^w:Nat):Int)) (by have:=bk w;omega)
 omega
theorem nR {w:Nat} (h:1<=w):2^w=2*2^(w-1):=by
 obtain⟨n,rfl⟩: ∃n,w=n+1:=⟨w-1,by omega⟩
 rw [Nat.pow_succ,Nat.add_sub_cancel];omega
theorem FT {w a:Nat} (h:1<=w) (ha:a<2^w): -((2^(w-1):Nat):Int)<=sgn w a/\sgn w a<((2^(w-1):Nat):Int):=by
 have:=nR h
 unfold sgn;split<;>omega
theorem Qx {w:Nat} (h:1<=w) (n:Int):sgn w (hG w n)=n↔ -((2^(w-1):Nat):Int)<=n/\n<((2^(w-1):Nat):Int):=by
 have hp:=nR h
 have hl:=hO w n
 have hb:=FT h hl
 constructor
 ·intro e;rw [e]at hb;exact hb
 ·rintro ⟨h1,h2⟩
  have hc:=Cs w n
  have h3:n%((2^w:Nat):Int)=if n<0 then n+((2^w:Nat):Int)else n:=by
   split
   ·rw [<-Int.add_emod_right,Int.emod_eq_of_lt (by omega) (by omega)]
   ·rw [Int.emod_eq_of_lt (by omega) (by omega)]
  rw [h3]at hc
  unfold sgn
  split at hc<;>split<;>omega
theorem ie {w x:Nat} {f:Nat->Bool} (hx:x<2^w) (h: ∀i,i<w->x.testBit i=f i):cC w f=x:=by
 apply Nat.eq_of_testBit_eq
 intro i
 by_cases hi:i<w
 ·rw [pN _ _ _ hi,h i hi]
 ·rw [Nat.testBit_lt_two_pow (Nat.lt_of_lt_of_le (pv w f) (Nat.pow_le_pow_right (by omega) (by omega))),
   Nat.testBit_lt_two_pow (Nat.lt_of_lt_of_le hx (Nat.pow_le_pow_right (by omega) (by omega)))]
theorem qd {w:Nat} {f g:Nat->Bool} (h: ∀i,i<w->f i=g i):cC w f=cC w g:=ie (pv _ _) fun i hi=>by rw [pN _ _ _ hi,h i hi]
theorem KK {w p:Nat} {f:Nat->Bool} (hp:p<w) (hf:f p=false):cC w f+2^p=cC w (fun i=>f i||decide (i=p)):=by
 induction w with
 |zero=>omega
 |succ w ih=>
  simp only [cC]
  by_cases h:p=w
  ·subst h
   have:cC p (fun i=>f i||decide (i=p))=cC p f:=qd fun i hi=>by simp;omega
   rw [this];simp [hf]
  ·have:=ih (by omega)
   have e:(f w||decide (w=p))=f w:=by simp;omega
   simp only [e]
   omega
def ir :Nat->Nat->Nat
 |0,_=>0
 |w+1,a=>ir w a+(if a.testBit w then 1 else 0)
theorem Ie (w a:Nat):ir w a<=w:=by
 induction w with
 |zero=>simp [ir]
 |succ w ih=>simp only [ir];split<;>omega
theorem Km {w a:Nat} (ha:a<2^w):ir w a=w↔a=2^w-1:=by
 have key: ∀w,ir w a=w↔ ∀i,i<w->a.testBit i=true:=by
  intro w
  induction w with
  |zero=>simp [ir]
  |succ w ih=>
   have:=Ie w a
   simp only [ir]
   constructor
   ·intro h i hi
    by_cases hw:a.testBit w=true
    ·rw [if_pos hw]at h
     by_cases hiw:i=w
     ·subst hiw;exact hw
     ·exact ih.1 (by omega) i (by omega)
    ·rw [if_neg hw]at h;omega
   ·intro h
    rw [if_pos (h w (by omega)),ih.2 fun i hi=>h i (by omega)]
 rw [key]
 constructor
 ·intro h
  apply Nat.eq_of_testBit_eq
  intro i
  rw [Nat.testBit_two_pow_sub_one]
  by_cases hi:i<w
  ·rw [h i hi];simp [hi]
  ·rw [Nat.testBit_lt_two_pow (Nat.lt_of_lt_of_le ha (Nat.pow_le_pow_right (by omega) (by omega)))];simp [hi]
 ·rintro rfl i hi
  rw [Nat.testBit_two_pow_sub_one];simpa using hi
theorem Dh {w a b:Nat} (ha:a<2^w):cC w (fun i=>a.testBit i&&b.testBit i)=a&&&b:=
 ie (Nat.lt_of_le_of_lt Nat.and_le_left ha) fun i _=>by rw [Nat.testBit_and]
theorem MD {w a b:Nat} (ha:a<2^w) (hb:b<2^w):cC w (fun i=>a.testBit i||b.testBit i)=a|||b:=
 ie (Nat.or_lt_two_pow ha hb) fun i _=>by rw [Nat.testBit_or]
theorem Py {w a b:Nat} (ha:a<2^w) (hb:b<2^w):cC w (fun i=>a.testBit i^^b.testBit i)=a^^^b:=
 ie (Nat.xor_lt_two_pow ha hb) fun i _=>by rw [Nat.testBit_xor]
def Th (w a b:Nat):Nat:=a*2^min b w%2^w
def Tp (w a b:Nat):Nat:=a/2^min b w
def TH (w a b:Nat):Nat:=hG w (sgn w a/((2^min b w:Nat):Int))
theorem Qc {w a b:Nat}:cC w (fun i=>decide (b<=i)&&a.testBit (i-b))=Th w a b:=by
 unfold Th
 refine ie (Nat.mod_lt _ (bk w)) fun i hi=>?_
 rw [Nat.testBit_mod_two_pow,Nat.mul_comm,Nat.testBit_two_pow_mul]
 have:decide (i<w)=true:=by simpa using hi
 rw [this,Bool.true_and]
 by_cases h:b<=i
 ·rw [Nat.min_eq_left (by omega)]
 ·have h1:decide (b<=i)=false:=by simpa using h
  have h2:decide (min b w<=i)=false:=by simp;omega
  simp [h1,h2]
theorem Rq {w a b:Nat} (ha:a<2^w):cC w (fun i=>decide (i+b<w)&&a.testBit (i+b))=Tp w a b:=by
 unfold Tp
 refine ie (Nat.lt_of_le_of_lt (Nat.div_le_self _ _) ha) fun i hi=>?_
 rw [Nat.testBit_div_two_pow]
 by_cases h:i+b<w
 ·rw [Nat.min_eq_left (by omega)];simp [h]
 ·have h1:decide (i+b<w)=false:=by simpa using h
  rw [h1,Bool.false_and]
  refine Nat.testBit_lt_two_pow (Nat.lt_of_lt_of_le ha (Nat.pow_le_pow_right (by omega) ?_))
  omega
theorem Qu {w a b:Nat} (hw:1<=w) (hw16:w<=16) (ha:a<2^w):cC w (fun i=>if i+b<w then a.testBit (i+b)else a.testBit (w-1))=TH w a b:=by
 have hp:=nR hw
 have top:a.testBit (w-1)=decide (2^(w-1)<=a):=by
  rw [Nat.testBit_eq_decide_div_mod_eq]
  by_cases h:2^(w-1)<=a
  ·have:a/2^(w-1)=1:=by
    rw [Nat.div_eq_iff (bk _)];omega
   simp [this,h]
  ·have:a/2^(w-1)=0:=Nat.div_eq_of_lt (by omega)
   simp [this,h]
 have hb:min b w<=w:=Nat.min_le_right _ _
 have small: ∀i,i<w->i+b<w->min b w=b:=fun i _ h=>Nat.min_eq_left (by omega)
 unfold TH
 refine ie (hO _ _) fun i hi=>?_
 by_cases hs:2^(w-1)<=a
 ·--with the sign
  have e1:sgn w a=(a:Int)-((2^w:Nat):Int):=by unfold sgn;rw [if_pos hs]
  have e2:hG w (sgn w a/((2^min b w:Nat):Int))=((a+2^w*(2^16-1))/2^min b w)%2^w:=by
   have h1:sgn w a=((a+2^w*(2^16-1):Nat):Int)-((2^min b w:Nat):Int)*((2^(w+16-min b w):Nat):Int):=by
    have h2:2^min b w*2^(w+16-min b w)=2^w*2^16:=by rw [<-Nat.pow_add,<-Nat.pow_add];congr 1;omega
    rw [e1,<-Int.natCast_mul,h2]
    have:2^w*(2^16-1)+2^w=2^w*2^16:=by rw [<-Nat.mul_succ]
    omega
   have hpos:((2^min b w:Nat):Int)≠0:=by have:=bk (min b w);omega
   have h3:sgn w a/((2^min b w:Nat):Int)=(((a+2^w*(2^16-1))/2^min b w:Nat):Int)-((2^w:Nat):Int)*((2^(16-min b w):Nat):Int):=by
    rw [h1,Int.sub_eq_add_neg,<-Int.mul_neg,Int.add_mul_ediv_left _ _ hpos,<-Int.natCast_ediv]
    have:2^(w+16-min b w)=2^w*2^(16-min b w):=by rw [<-Nat.pow_add];congr 1;omega
    rw [this,Int.natCast_mul];omega
   rw [h3]
   unfold hG
   rw [Int.sub_mul_emod_self_left,<-Int.natCast_emod,Int.toNat_natCast]
  rw [e2,Nat.testBit_mod_two_pow,Nat.testBit_div_two_pow,Nat.add_comm a,Nat.testBit_two_pow_mul_add _ ha]
  have hd:decide (i<w)=true:=by simpa using hi
  rw [hd,Bool.true_and]
  by_cases h:i+b<w
  ·have hm:=small i hi h
   rw [if_pos h,hm,if_pos (by omega)]
  ·have hm: ¬i+min b w<w:=by omega
   rw [if_neg h,if_neg hm,Nat.testBit_two_pow_sub_one,top]
   simp only [hs,decide_true,decide_eq_true_eq]
   omega
 ·have e1:sgn w a=a:=by unfold sgn;rw [if_neg hs]
  rw [e1,<-Int.natCast_ediv,mF,Nat.testBit_mod_two_pow,Nat.testBit_div_two_pow]
  have hd:decide (i<w)=true:=by simpa using hi
  rw [hd,Bool.true_and]
  by_cases h:i+b<w
  ·rw [if_pos h,small i hi h]
  ·rw [if_neg h,top]
   have hm: ¬i+min b w<w:=by omega
   have:decide (2^(w-1)<=a)=false:=by simpa using hs
   rw [this]
   exact Nat.testBit_lt_two_pow (Nat.lt_of_lt_of_le ha (Nat.pow_le_pow_right (by omega) (by omega)))
def C3 (w a k:Nat):Nat:=((a*2^k)|||(a/2^(w-k)))%2^w
theorem TM {w a k i:Nat} (ha:a<2^w) (hk:k<w) (hi:i<w):(C3 w a k).testBit i=a.testBit ((i+(w-k))%w):=by
 unfold C3
 rw [Nat.testBit_mod_two_pow,Nat.testBit_or,Nat.mul_comm,Nat.testBit_two_pow_mul,Nat.testBit_div_two_pow]
 have hd:decide (i<w)=true:=by simpa using hi
 rw [hd,Bool.true_and]
 by_cases h:k<=i
 ·have e:(i+(w-k))%w=i-k:=by
   have:i+(w-k)=(i-k)+w:=by omega
   rw [this,Nat.add_mod_right,Nat.mod_eq_of_lt (by omega)]
  have z:a.testBit (i+(w-k))=false:=Nat.testBit_lt_two_pow (Nat.lt_of_lt_of_le ha (Nat.pow_le_pow_right (by omega) (by omega)))
  rw [e,z];simp [h]
 ·have e:(i+(w-k))%w=i+(w-k):=Nat.mod_eq_of_lt (by omega)
  rw [e]
  have:decide (k<=i)=false:=by simpa using h
  rw [this];simp
theorem Qd {w a k:Nat} (ha:a<2^w) (hk:k<w):cC w (fun j=>a.testBit ((j+(w-k))%w))=C3 w a k:=
 ie (Nat.mod_lt _ (bk w)) fun i hi=>TM ha hk hi
theorem MM {w a k i:Nat} (hk:k<w) (hi:i<w):
  cC w (fun j=>decide ((j+(w-k))%w<i)&&a.testBit ((j+(w-k))%w))+(if a.testBit i then 2^((i+k)%w)else 0)=
   cC w (fun j=>decide ((j+(w-k))%w<i+1)&&a.testBit ((j+(w-k))%w)):=by
 have hpw:(i+k)%w<w:=Nat.mod_lt _ (by omega)
 have back:((i+k)%w+(w-k))%w=i:=by
  rw [Nat.mod_add_mod]
  have:i+k+(w-k)=i+w:=by omega
  rw [this,Nat.add_mod_right,Nat.mod_eq_of_lt hi]
 have inj: ∀j,j<w->((j+(w-k))%w=i↔j=(i+k)%w):=by
  intro j hj
  constructor
  ·intro h
   have:(j+(w-k)+k)%w=(i+k)%w:=by rw [<-h,Nat.mod_add_mod]
   rw [<-this]
   have:j+(w-k)+k=j+w:=by omega
   rw [this,Nat.add_mod_right,Nat.mod_eq_of_lt hj]
  ·rintro rfl;exact back
 cases hb:a.testBit i with
 |false=>
  simp only [Bool.false_eq_true,if_false,Nat.add_zero]
  refine qd fun j hj=>?_
  by_cases h:(j+(w-k))%w=i
  ·rw [h,hb];simp
  ·have:decide ((j+(w-k))%w<i+1)=decide ((j+(w-k))%w<i):=by
    rw [decide_eq_decide];omega
   rw [this]
 |true=>
  simp only [if_true]
  rw [KK hpw (by rw [back];simp)]
  refine qd fun j hj=>?_
  by_cases h:j=(i+k)%w
  ·have h2:=(inj j hj).2 h
   rw [h2,hb];simp [h]
  ·have h2: ¬(j+(w-k))%w=i:=fun e=>h ((inj j hj).1 e)
   have:decide ((j+(w-k))%w<i+1)=decide ((j+(w-k))%w<i):=by
    rw [decide_eq_decide];omega
   rw [this];simp [h]
def tU (kind:Int) (w a:Nat):Nat×Nat:=
 if kind=1 then(2^w-1-a,w)else if kind=2 then(hG w (-(a:Int)),w)else if kind=3 then(if a=0 then 0 else 1,1)else
 if kind=4 then(if a=2^w-1 then 1 else 0,1)else(ir w a%2,1)
def Fr (w a b:Nat):Nat:=if sgn w b=0 then(if sgn w a<0 then 1 else 2^w-1)else hG w (Int.tdiv (sgn w a) (sgn w b))
def Fo (w a b:Nat):Nat:=if sgn w b=0 then a else hG w (Int.tmod (sgn w a) (sgn w b))
def AD (kind:Int) (w a b:Nat):Bool:=
 if kind=21 then decide (a=b)else if kind=22 then decide (a<b)else if kind=23 then decide (sgn w a<sgn w b)else
 if kind=24 then decide (a<=b)else if kind=25 then decide (sgn w a<=sgn w b)else if kind=26 then decide (2^w<=a+b)else
 if kind=27 then !decide (-((2^(w-1):Nat):Int)<=sgn w a+sgn w b/\sgn w a+sgn w b<((2^(w-1):Nat):Int))else decide (2^w<=a*b)
def B9 (kind:Int) (w a b:Nat):Nat:=
 if kind=6 then a&&&b else if kind=7 then a|||b else if kind=8 then a^^^b else if kind=9 then hG w ((a:Int)+b)else
 if kind=10 then hG w ((a:Int)-b)else if kind=11 then hG w ((a:Int)*b)else if kind=12 then(if b=0 then 2^w-1 else a/b)else
 if kind=13 then(if b=0 then a else a%b)else if kind=14 then Fr w a b else if kind=15 then Fo w a b else
 if kind=16 then Th w a b else if kind=17 then Tp w a b else if kind=18 then TH w a b else if kind=19 then C3 w a (b%w)else C3 w a ((w-b%w)%w)
def pI (kind:Int) (w a b:Nat):Nat×Nat:=if kind<=20 then(B9 kind w a b,w)else(if AD kind w a b then 1 else 0,1)
theorem SV {kind:Int} {w a:Nat} (hw:1<=w) (ha:a<2^w):(tU kind w a).1<2^(tU kind w a).2:=by
 have:=bk w
 unfold tU
 split
 ·simp only;omega
 ·split
  ·exact hO _ _
  ·split
   ·simp only;split<;>omega
   ·split
    ·simp only;split<;>omega
    ·simp only;omega
theorem LT (w a k:Nat):C3 w a k<2^w:=Nat.mod_lt _ (bk w)
theorem iJ {c:Prop} [Decidable c] {x y n:Nat} (hx:x<n) (hy:y<n):(if c then x else y)<n:=by
 by_cases h:c
 ·rw [if_pos h];exact hx
 ·rw [if_neg h];exact hy
theorem QQ {kind:Int} {w a b:Nat} (hw:1<=w) (ha:a<2^w) (hb:b<2^w):B9 kind w a b<2^w:=by
 have hp:=bk w
 have hp1:1<2^w:=by
  have:=nR hw;have:=bk (w-1);omega
 unfold B9
 refine iJ (Nat.lt_of_le_of_lt Nat.and_le_left ha) (iJ (Nat.or_lt_two_pow ha hb) (iJ (Nat.xor_lt_two_pow ha hb) (iJ (hO _ _) (iJ (hO _ _) (iJ (hO _ _)
  (iJ (iJ (by omega) (Nat.lt_of_le_of_lt (Nat.div_le_self _ _) ha)) (iJ (iJ ha (Nat.lt_of_le_of_lt (Nat.mod_le _ _) ha)) (iJ ?_ (iJ ?_ (iJ (Nat.mod_lt _ hp)
  (iJ (Nat.lt_of_le_of_lt (Nat.div_le_self _ _) ha) (iJ (hO _ _) (iJ (LT _ _ _) (LT _ _ _))))))))))))))
 ·unfold Fr
  exact iJ (iJ hp1 (by omega)) (hO _ _)
 ·unfold Fo
  exact iJ ha (hO _ _)
theorem SQ {kind:Int} {w a b:Nat} (hw:1<=w) (ha:a<2^w) (hb:b<2^w):(pI kind w a b).1<2^(pI kind w a b).2:=by
 unfold pI
 split
 ·exact QQ hw ha hb
 ·simp only;split<;>omega
theorem Wc {w a b:Nat} (hw:1<=w):(sgn w (hG w (sgn w a+sgn w b))≠sgn w a+sgn w b)↔ ¬(-((2^(w-1):Nat):Int)<=sgn w a+sgn w b/\sgn w a+sgn w b<((2^(w-1):Nat):Int)):=by
 rw [ne_eq,Qx hw]
structure SortP where
 idx:Int
 wid:Int
 deriving DecidableEq
structure NodeP where
 kind:Int
 a:Int
 b:Int
 c:Int
 n:Int
 m:Int
 sort:SortP
 name:ByteArray
structure BindP where
 state:Int
 node:Int
 deriving DecidableEq
structure ak where
 nodes:List NodeP
 inits:List BindP
 nexts:List BindP
 bads:List Int
 holds:List Int
def bD (s:SortP):Bool:=decide ((0<=s.idx/\s.idx<=2)/\(1<=s.wid/\s.wid<=16))
def cy (s:SortP):Nat:=if bD s then 2^s.idx.toNat else 0
def dJ (s:SortP):Nat:=cy s*s.wid.toNat
def cl (w:Int):SortP:=⟨0,w⟩
def ap (kind:Int):Int:=
 if(1<=kind/\kind<=5)\/(30<=kind/\kind<=32)then 1 else if(6<=kind/\kind<=29)\/kind=37 then 2 else if kind=33\/kind=38 then 3 else
 if 34<=kind/\kind<=36 then 0 else-1
def fG (c:UInt8):Bool:=decide (97<=c.toNat/\c.toNat<=122)
def lC (c:UInt8):Bool:=decide (48<=c.toNat/\c.toNat<=57)
def eQ (s:ByteArray):Bool:=decide (1<=s.size/\s.size<=8)&&(match s.data.toList with| []=>false|c::r=>fG c&&r.all fun c=>fG c||lC c)
def eJ (kind:Int):Bool:=decide (kind=35\/kind=36)
def oR (k:Int) (len:Nat) (i:Int) (p:Int):Bool:=if i<k then decide (0<=p/\p<=(len:Int)-1)else decide (p=0)
def ek (len:Nat) (n:NodeP):Bool:=
 decide (0<=ap n.kind)&&(oR (ap n.kind) len 0 n.a&&oR (ap n.kind) len 1 n.b&&oR (ap n.kind) len 2 n.c)&&
 (if eJ n.kind then eQ n.name else decide (n.name.size=0))&&(decide (n.kind=30)||decide (n.m=0))&&
 (decide (n.kind=30\/n.kind=31\/n.kind=32\/n.kind=34)||decide (n.n=0))
def gJ (w v:Int):Bool:=decide ((1<=w/\w<=16)/\0<=v/\v<=((2^w.toNat:Nat):Int)-1)
def cL (n:NodeP) (a b c:SortP):Option SortP:=
 if n.kind=33 then(if a=cl 1/\b=c then some b else none)else
 if n.kind=37 then(if 0<a.idx/\b=cl a.idx then some (cl a.wid)else none)else
 if n.kind=38 then(if 0<a.idx/\b=cl a.idx/\c=cl a.wid then some a else none)else
 if n.kind=21 then(if a=b then some (cl 1)else none)else
 if 0<a.idx\/(ap n.kind=2/\0<b.idx)then none else
 if n.kind=29 then(if a.wid+b.wid<=16 then some (cl (a.wid+b.wid))else none)else
 if n.kind=30 then(if(0<=n.n/\n.n<=a.wid-1)/\0<=n.m/\n.m<=n.n then some (cl (n.n-n.m+1))else none)else
 if n.kind=31\/n.kind=32 then(if 0<=n.n/\n.n<=16-a.wid then some (cl (a.wid+n.n))else none)else
 if n.kind<=5 then some (cl (if n.kind<=2 then a.wid else 1))else
 if a=b then some (cl (if n.kind<=20 then a.wid else 1))else none
def az (l:List NodeP) (p:Int):SortP:=match l[p.toNat]? with|some n=>n.sort|none=>⟨0,0⟩
def cB (l:List NodeP) (n:NodeP):Option SortP:=
 if l.length<=60/\ek l.length n=true then
  (if ap n.kind=0 then(if(if n.kind=34 then decide (n.sort.idx=0)&&gJ n.sort.wid n.n else bD n.sort)then some n.sort else none)else
   if bD (az l n.a)&&((decide (ap n.kind<2)||bD (az l n.b))&&(decide (ap n.kind<3)||bD (az l n.c)))then
    cL n (az l n.a) (az l n.b) (az l n.c)else none)
 else none
def ce (l:List NodeP):Bool:=(List.range l.length).all fun i=>match l[i]? with|some n=>decide (cB (l.take i) n=some n.sort)|none=>true
def jp {α:Type} [DecidableEq α] (l:List α):Bool:=(List.range l.length).any fun i=>match l[i]? with|some x=>(l.take i).any fun y=>decide (y=x)|none=>false
def jJ (l:List NodeP):Bool:=(List.range l.length).any fun i=>match l[i]? with|some n=>decide (n.name.size≠0)&&(l.take i).any fun y=>decide (y.name=n.name)|none=>false
def rb (m:ak):Bool:=jJ m.nodes||(jp (m.inits.map (·.state))||jp (m.nexts.map (·.state)))
def dn (l:List NodeP):Nat->List Bool
 |0=> []
 |i+1=>dn l i++ [match l[i]? with
   |some n=>eJ n.kind||((decide (0<ap n.kind)&&(dn l i).getD n.a.toNat false)||((decide (1<ap n.kind)&&(dn l i).getD n.b.toNat false)||(decide (2<ap n.kind)&&(dn l i).getD n.c.toNat false)))
   |none=>false]
def cH (l:List NodeP) (p:Int):Bool:=decide (0<=p/\p<=(l.length:Int)-1)
def ju (l:List NodeP) (p:Int):Int:=match l[p.toNat]? with|some n=>n.kind|none=>0
def gy (l:List NodeP) (b:BindP):Bool:=
 (cH l b.state&&cH l b.node&&decide (ju l b.state=36))&&((decide (az l b.state=az l b.node)||decide (az l b.node=cl (az l b.state).wid))&& !(dn l l.length).getD b.node.toNat false)
def eC (l:List NodeP) (b:BindP):Bool:=(cH l b.state&&cH l b.node&&decide (ju l b.state=36))&&decide (az l b.state=az l b.node)
def dD (l:List NodeP) (p:Int):Bool:=cH l p&&decide (az l p=cl 1)
def au (l:List NodeP) (kind:Int):Nat:=((l.filter fun n=>decide (n.kind=kind)).map fun n=>dJ n.sort).sum
def aX (l:List NodeP) (kind:Int):List Nat:=(List.range l.length).filter fun i=>match l[i]? with|some n=>decide (n.kind=kind)|none=>false
def aA (m:ak):Int:=
 if 60<m.nodes.length\/60<m.inits.length\/60<m.nexts.length\/4<m.bads.length\/4<m.holds.length then 1 else
 if ce m.nodes=false then 2 else if rb m=true then 3 else
 if(m.inits.all (gy m.nodes)&&m.nexts.all (eC m.nodes))=false then 4 else
 if(m.bads.all (dD m.nodes)&&m.holds.all (dD m.nodes))=false then 5 else
 if 8<au m.nodes 36\/5<au m.nodes 35 then 6 else 0
def cE (v:List (List Nat)) (p:Int):Nat:=(v.getD p.toNat []).getD 0 0
def KE (a lo n:Nat):Nat:=a/2^lo%2^n
def Eb (w a more:Nat) (signed:Bool):Nat:=if signed then hG (w+more) (sgn w a)else a
def fZ (l:List NodeP) (n:NodeP) (v:List (List Nat)):List Nat:=
 if n.kind=34 then [n.n.toNat]else
 if n.kind=33 then(if cE v n.a=1 then v.getD n.b.toNat []else v.getD n.c.toNat [])else
 if n.kind=21 then [if v.getD n.a.toNat []=v.getD n.b.toNat []then 1 else 0]else
 if n.kind=37 then [(v.getD n.a.toNat []).getD (cE v n.b) 0]else
 if n.kind=38 then(v.getD n.a.toNat []).set (cE v n.b) (cE v n.c)else
 if n.kind=29 then [cE v n.a*2^(az l n.b).wid.toNat+cE v n.b]else
 if n.kind=30 then [KE (cE v n.a) n.m.toNat (n.n-n.m+1).toNat]else
 if n.kind=31\/n.kind=32 then [Eb (az l n.a).wid.toNat (cE v n.a) n.n.toNat (decide (n.kind=32))]else
 if ap n.kind=1 then [(tU n.kind (az l n.a).wid.toNat (cE v n.a)).1]else [(pI n.kind (az l n.a).wid.toNat (cE v n.a) (cE v n.b)).1]
def fU (l:List NodeP) (s inp:List (List Nat)):Nat->List (List Nat)
 |0=> []
 |i+1=>fU l s inp i++ [match l[i]? with
   |some n=>if n.kind=36 then s.getD (aX (l.take i) 36).length []else if n.kind=35 then inp.getD (aX (l.take i) 35).length []else fZ l n (fU l s inp i)
   |none=> []]
def qm (n:NodeP):List Nat:=([n.a.toNat,n.b.toNat,n.c.toNat]).take (ap n.kind).toNat
theorem sF (k:Int):ap k=0\/ap k=1\/ap k=2\/ap k=3\/ap k= -1:=by
 unfold ap
 by_cases h1:(1<=k/\k<=5)\/(30<=k/\k<=32)
 ·rw [if_pos h1];simp
 rw [if_neg h1]
 by_cases h2:(6<=k/\k<=29)\/k=37
 ·rw [if_pos h2];simp
 rw [if_neg h2]
 by_cases h3:k=33\/k=38
 ·rw [if_pos h3];simp
 rw [if_neg h3]
 by_cases h4:34<=k/\k<=36
 ·rw [if_pos h4];simp
 rw [if_neg h4];simp
def IA (l:List NodeP):Prop:= ∀(i:Nat) (n:NodeP),l[i]?=some n->0<=ap n.kind/\ ∀p∈qm n,p<i
def pi (l:List NodeP) (j:Nat):Bool:=match l[j]? with|some n=>eJ n.kind|none=>false
def qa (l:List NodeP) (j:Nat):Bool:=(dn l l.length).getD j false
theorem gt (l:List NodeP): ∀i,(dn l i).length=i:=by
 intro i
 induction i with
 |zero=>rfl
 |succ i ih=>simp only [dn,List.length_append,ih,List.length_cons,List.length_nil]
theorem Oj (l:List NodeP): ∀d i j,j<i->(dn l (i+d)).getD j false=(dn l i).getD j false:=by
 intro d
 induction d with
 |zero=>intro i j _;rfl
 |succ d ih=>
  intro i j hj
  rw [<-Nat.add_assoc]
  simp only [dn]
  have hl:=gt l (i+d)
  rw [List.getD,List.getElem?_append_left (by omega)]
  exact ih i j hj
theorem pK {l:List NodeP} {i j:Nat} (hj:j<i) (hi:i<=l.length):(dn l i).getD j false=qa l j:=by
 have:=Oj l (l.length-i) i j hj
 rw [show i+(l.length-i)=l.length by omega]at this
 exact this.symm
theorem PT {l:List NodeP} (ha:IA l) {i:Nat} {n:NodeP} (hn:l[i]?=some n):qa l i=true↔eJ n.kind=true\/ ∃p∈qm n,qa l p=true:=by
 have hi:i<l.length:=(List.getElem?_eq_some_iff.1 hn).1
 obtain⟨hk,hp⟩:=ha i n hn
 have e:qa l i=(eJ n.kind||((decide (0<ap n.kind)&&(dn l i).getD n.a.toNat false)||((decide (1<ap n.kind)&&(dn l i).getD n.b.toNat false)||(decide (2<ap n.kind)&&(dn l i).getD n.c.toNat false)))):=by
  rw [<-pK (Nat.lt_succ_self i) hi]
  simp only [dn]
  have hl:=gt l i
  rw [List.getD,List.getElem?_append_right (by omega),hl,Nat.sub_self]
  simp only [hn,List.getElem?_cons_zero,Option.getD_some]
 rw [e]
 unfold qm at hp⊢
 rcases sF n.kind with h|h|h|h|h
 ·simp [h]
 ·rw [h]at hp⊢
  have h1:=hp n.a.toNat (by simp)
  rw [pK h1 (by omega)]
  simp
 ·rw [h]at hp⊢
  have h1:=hp n.a.toNat (by simp)
  have h2:=hp n.b.toNat (by simp)
  rw [pK h1 (by omega),pK h2 (by omega)]
  simp
 ·rw [h]at hp⊢
  have h1:=hp n.a.toNat (by simp)
  have h2:=hp n.b.toNat (by simp)
  have h3:=hp n.c.toNat (by simp)
  rw [pK h1 (by omega),pK h2 (by omega),pK h3 (by omega)]
  simp
 ·omega
def rQ (l:List NodeP):Nat->(Nat->Bool)->Nat->Bool
 |0,S=>S
 |i+1,S=>rQ l i (if S i then fun j=>S j||(match l[i]? with|some n=>(qm n).contains j|none=>false)else S)
theorem Ny {l:List NodeP} (ha:IA l): ∀(i:Nat) (S:Nat->Bool),i<=l.length->
  ((∃j,rQ l i S j=true/\pi l j=true)↔(∃j,i<=j/\S j=true/\pi l j=true)\/ ∃j,j<i/\S j=true/\qa l j=true):=by
 intro i
 induction i with
 |zero=>intro S _;simp [rQ]
 |succ i ih=>
  intro S hi
  simp only [rQ]
  rw [ih _ (by omega)]
  obtain⟨n,hn⟩: ∃n,l[i]?=some n:=⟨l[i],List.getElem?_eq_getElem (by omega)⟩
  have hm:=PT ha hn
  have hp:=(ha i n hn).2
  have hnm:pi l i=eJ n.kind:=by unfold pi;rw [hn]
  by_cases hS:S i=true
  ·simp only [hS,if_true,hn]
   constructor
   ·rintro (⟨j,h1,h2,h3⟩|⟨j,h1,h2,h3⟩)
    ·by_cases hji:j=i
     ·subst hji
      exact .inr ⟨j,by omega,hS,hm.2 (.inl (hnm▸h3))⟩
     ·rcases Bool.or_eq_true_iff.1 h2 with h2|h2
      ·exact .inl ⟨j,by omega,h2,h3⟩
      ·have:=hp j (by simpa using h2);omega
    ·rcases Bool.or_eq_true_iff.1 h2 with h2|h2
     ·exact .inr ⟨j,by omega,h2,h3⟩
     ·exact .inr ⟨i,by omega,hS,hm.2 (.inr ⟨j,by simpa using h2,h3⟩)⟩
   ·rintro (⟨j,h1,h2,h3⟩|⟨j,h1,h2,h3⟩)
    ·exact .inl ⟨j,by omega,by simp [h2],h3⟩
    ·by_cases hji:j=i
     ·subst hji
      rcases hm.1 h3 with h4|⟨p,hp1,hp2⟩
      ·exact .inl ⟨j,Nat.le_refl _,by simp [hS],hnm▸h4⟩
      ·exact .inr ⟨p,hp p hp1,by simp [hp1],hp2⟩
     ·exact .inr ⟨j,by omega,by simp [h2],h3⟩
  ·simp only [hS,if_false]
   constructor
   ·rintro (⟨j,h1,h2,h3⟩|⟨j,h1,h2,h3⟩)
    ·by_cases hji:j=i
     ·subst hji;exact absurd h2 hS
     ·exact .inl ⟨j,by omega,h2,h3⟩
    ·exact .inr ⟨j,by omega,h2,h3⟩
   ·rintro (⟨j,h1,h2,h3⟩|⟨j,h1,h2,h3⟩)
    ·exact .inl ⟨j,by omega,h2,h3⟩
    ·by_cases hji:j=i
     ·subst hji;exact absurd h2 hS
     ·exact .inr ⟨j,by omega,h2,h3⟩
theorem S4 {l:List NodeP} (ha:IA l) {i:Nat} (hi:i<l.length):(∃j,rQ l (i+1) (fun j=>decide (j=i)) j=true/\pi l j=true)↔qa l i=true:=by
 rw [Ny ha _ _ (by omega)]
 constructor
 ·rintro (⟨j,h1,h2,h3⟩|⟨j,h1,h2,h3⟩)
  ·simp at h2;omega
  ·simp at h2;subst h2;exact h3
 ·intro h;exact .inr ⟨i,by omega,by simp,h⟩
theorem S3 {l:List NodeP} (ha:IA l) (k:Nat): ∀(i:Nat) (S:Nat->Bool),i<=k+1->i<=l.length->(∀j,S j=true->j<=k)-> ∀j,rQ l i S j=true->j<=k:=by
 intro i
 induction i with
 |zero=>intro S _ _ hS j hj;exact hS j hj
 |succ i ih=>
  intro S hk hi hS j hj
  simp only [rQ]at hj
  refine ih _ (by omega) (by omega) ?_ j hj
  intro j' hj'
  split at hj'
  ·rcases Bool.or_eq_true_iff.1 hj' with h|h
   ·exact hS j' h
   ·obtain⟨n,hn⟩: ∃n,l[i]?=some n:=⟨l[i],List.getElem?_eq_getElem (by omega)⟩
    rw [hn]at h
    have:=(ha i n hn).2 j' (by simpa using h)
    omega
  ·exact hS j' hj'
def mg (w:Nat):Nat->Nat->List Nat
 |0,_=> []
 |c+1,code=>mg w c code++ [code/2^(w*c)%2^w]
def cd (l:List NodeP) (p:Nat):Nat:=(az l p).wid.toNat
def aJ (l:List NodeP) (p:Nat):Nat:=cy (az l p)
def co (l:List NodeP) (ps:List Nat):Nat:=(ps.map fun p=>cd l p*aJ l p).sum
def hZ (l:List NodeP) (ps:List Nat) (code:Nat):List (List Nat):=
 (List.range ps.length).map fun i=>mg (cd l (ps.getD i 0)) (aJ l (ps.getD i 0)) (code/2^co l (ps.take i))
theorem pP (w c code:Nat):(mg w c code).length=c:=by
 induction c with
 |zero=>rfl
 |succ c ih=>simp only [mg,List.length_append,ih,List.length_cons,List.length_nil]
theorem Mh {w c code x:Nat} (h:x∈mg w c code):x<2^w:=by
 induction c with
 |zero=>cases h
 |succ c ih=>
  simp only [mg,List.mem_append,List.mem_singleton]at h
  rcases h with h|h
  ·exact ih h
  ·subst h;exact Nat.mod_lt _ (bk w)
theorem jr (l:List NodeP) (ps:List Nat) (code:Nat):(hZ l ps code).length=ps.length:=by simp [hZ]
theorem Mq {α:Type} {l:List α} {i:Nat} {x:α} (h:l[i]?=some x):i<l.length:=by
 rcases Nat.lt_or_ge i l.length with h'|h'
 ·exact h'
 ·rw [List.getElem?_eq_none h']at h;cases h
theorem DP {l:List NodeP} {ps:List Nat} {code i p:Nat} (h:ps[i]?=some p):(hZ l ps code).getD i []=mg (cd l p) (aJ l p) (code/2^co l (ps.take i)):=by
 have hlt:=Mq h
 have hp:ps.getD i 0=p:=by rw [List.getD_eq_getElem?_getD,h];rfl
 unfold hZ
 rw [List.getD_eq_getElem?_getD,List.getElem?_map,List.getElem?_range hlt]
 simp only [Option.map_some,Option.getD_some,hp]
theorem lj {l:List NodeP} {ps:List Nat} {i p:Nat} (h:ps[i]?=some p):co l (ps.take (i+1))=co l (ps.take i)+cd l p*aJ l p:=by
 have hlt:=Mq h
 rw [List.getElem?_eq_getElem hlt]at h
 unfold co
 rw [List.take_succ_eq_append_getElem hlt,Option.some.inj h,List.map_append,List.sum_append];simp
theorem BG (l:List NodeP) (ps:List Nat) (i:Nat):co l (ps.take i)<=co l ps:=by
 conv=>rhs;rw [<-List.take_append_drop i ps]
 unfold co
 rw [List.map_append,List.sum_append];omega
def eX (w:Nat):List Nat->Nat
 | []=>0
 |x::xs=>x+2^w*eX w xs
theorem yf {w:Nat}: ∀{xs:List Nat},(∀x∈xs,x<2^w)->eX w xs<2^(w*xs.length):=by
 intro xs
 induction xs with
 |nil=>intro _;simp [eX]
 |cons x xs ih=>
  intro h
  have h1:=ih fun y hy=>h y (by simp [hy])
  have h2:=h x (by simp)
  simp only [eX,List.length_cons]
  rw [Nat.mul_add,Nat.mul_one,Nat.pow_add,Nat.mul_comm (2^(w*xs.length))]
  have h3:=Nat.mul_le_mul_left (2^w) (Nat.succ_le_of_lt h1)
  rw [Nat.succ_eq_add_one,Nat.mul_add,Nat.mul_one]at h3
  omega
theorem C6 (w:Nat) (xs:List Nat) (x:Nat):eX w (xs++ [x])=eX w xs+2^(w*xs.length)*x:=by
 induction xs with
 |nil=>simp [eX]
 |cons y ys ih=>
  simp only [List.cons_append,eX,ih,List.length_cons]
  rw [Nat.mul_add,<-Nat.add_assoc]
  congr 1
  rw [Nat.mul_add w,Nat.mul_one,Nat.add_comm (w*ys.length),Nat.pow_add,Nat.mul_assoc]
theorem HD (w:Nat) (code k:Nat): ∀c,c<=k->mg w c (code%2^(w*k))=mg w c code:=by
 intro c
 induction c with
 |zero=>intro _;rfl
 |succ c ih=>
  intro h
  simp only [mg,ih (by omega)]
  congr 2
  have hk:w*k=w*c+(w+w*(k-c-1)):=by
   have:k=c+(1+(k-c-1)):=by omega
   conv=>lhs;rw [this]
   simp only [Nat.mul_add,Nat.mul_one]
  rw [hk,Nat.pow_add,Nat.mod_mul_right_div_self,Nat.pow_add,Nat.mod_mul_right_mod]
theorem FH (w c code:Nat):eX w (mg w c code)=code%2^(w*c):=by
 induction c with
 |zero=>simp [mg,eX,Nat.mod_one]
 |succ c ih=>
  rw [mg,C6,ih,pP,Nat.mul_add,Nat.mul_one,Nat.pow_add,Nat.mod_mul]
theorem Nq {w:Nat}: ∀{xs:List Nat} {k:Nat},(∀x∈xs,x<2^w)->k<xs.length->eX w xs/2^(w*k)%2^w=xs.getD k 0:=by
 intro xs
 induction xs with
 |nil=>intro k _ h;simp at h
 |cons x xs ih=>
  intro k h hk
  have hx:=h x (by simp)
  have hp:=bk w
  cases k with
  |zero=>
   simp only [eX,Nat.mul_zero,Nat.pow_zero,Nat.div_one,List.getD_cons_zero]
   rw [Nat.add_mul_mod_self_left,Nat.mod_eq_of_lt hx]
  |succ k=>
   rw [List.getD_cons_succ,<-ih (fun y hy=>h y (by simp [hy])) (by simpa using hk)]
   simp only [eX]
   rw [Nat.mul_add,Nat.mul_one,Nat.add_comm (w*k),Nat.pow_add,<-Nat.div_div_eq_div_mul,Nat.add_mul_div_left _ _ hp,Nat.div_eq_of_lt hx,Nat.zero_add]
theorem Fv {w:Nat} {xs:List Nat} (h: ∀x∈xs,x<2^w):mg w xs.length (eX w xs)=xs:=by
 have key: ∀c,c<=xs.length->mg w c (eX w xs)=xs.take c:=by
  intro c
  induction c with
  |zero=>intro _;rfl
  |succ c ih=>
   intro hc
   rw [mg,ih (by omega),Nq h (by omega),List.take_succ_eq_append_getElem (by omega),List.getD_eq_getElem?_getD,List.getElem?_eq_getElem (by omega)];rfl
 have:=key xs.length (Nat.le_refl _)
 rwa [List.take_length]at this
theorem Dp (w n:Nat):eX w (List.replicate n 0)=0:=by
 induction n with
 |zero=>rfl
 |succ n ih=>simp only [List.replicate_succ,eX,ih];simp
def nbA (l:List NodeP) (p:Nat):Nat:=cd l p*aJ l p
def AU (l:List NodeP):List Nat->Nat->List (List Nat)
 | [],_=> []
 |p::ps,code=>mg (cd l p) (aJ l p) code::AU l ps (code/2^nbA l p)
def dL (l:List NodeP):List Nat->List (List Nat)->Nat
 | [],_=>0
 |p::ps,vs=>eX (cd l p) (vs.headD [])+2^nbA l p*dL l ps vs.tail
def kV (l:List NodeP):List Nat->List (List Nat)->Prop
 | [],vs=>vs= []
 |p::ps,vs=> ∃v r,vs=v::r/\v.length=aJ l p/\(∀x∈v,x<2^cd l p)/\kV l ps r
theorem pr (l:List NodeP) (p:Nat) (ps:List Nat):co l (p::ps)=nbA l p+co l ps:=by simp [co,nbA]
theorem BJ (l:List NodeP): ∀(ps:List Nat) (code:Nat),hZ l ps code=AU l ps code:=by
 intro ps
 induction ps with
 |nil=>intro code;simp [hZ,AU]
 |cons p ps ih=>
  intro code
  rw [AU,<-ih]
  unfold hZ
  rw [List.length_cons,List.range_succ_eq_map,List.map_cons,List.map_map]
  simp only [List.getD_cons_zero,List.take_zero,co,List.map_nil,List.sum_nil,Nat.pow_zero,Nat.div_one,List.cons.injEq,true_and]
  apply List.map_congr_left
  intro i _
  simp only [Function.comp,List.getD_cons_succ,List.take_succ_cons,List.map_cons,List.sum_cons,nbA]
  rw [Nat.pow_add,Nat.div_div_eq_div_mul]
theorem H2 (l:List NodeP): ∀(ps:List Nat) (code:Nat),kV l ps (AU l ps code):=by
 intro ps
 induction ps with
 |nil=>intro code;rfl
 |cons p ps ih=>exact fun code=>⟨_,_,rfl,pP _ _ _,fun x hx=>Mh hx,ih _⟩
theorem CH {l:List NodeP}: ∀{ps:List Nat} {vs:List (List Nat)},kV l ps vs->dL l ps vs<2^co l ps:=by
 intro ps
 induction ps with
 |nil=>intro vs _;simp [dL,co]
 |cons p ps ih=>
  rintro _ ⟨v,r,rfl,h1,h2,h3⟩
  have h4:=ih h3
  have h5:=yf h2
  rw [h1]at h5
  have h5':eX (cd l p) v<2^nbA l p:=h5
  simp only [dL,List.headD_cons,List.tail_cons]
  rw [pr,Nat.pow_add]
  have h6:=Nat.mul_le_mul_left (2^nbA l p) (Nat.succ_le_of_lt h4)
  rw [Nat.succ_eq_add_one,Nat.mul_add,Nat.mul_one]at h6
  omega
theorem zv {l:List NodeP}: ∀{ps:List Nat} {vs:List (List Nat)},kV l ps vs->AU l ps (dL l ps vs)=vs:=by
 intro ps
 induction ps with
 |nil=>rintro vs rfl;rfl
 |cons p ps ih=>
  rintro _ ⟨v,r,rfl,h1,h2,h3⟩
  have h5:=yf h2
  rw [h1]at h5
  have h5':eX (cd l p) v<2^nbA l p:=h5
  simp only [AU,dL,List.headD_cons,List.tail_cons]
  rw [Nat.add_mul_div_left _ _ (bk _),Nat.div_eq_of_lt h5',Nat.zero_add,ih h3,<-HD _ _ _ _ (Nat.le_refl _)]
  have:(eX (cd l p) v+2^nbA l p*dL l ps r)%2^(cd l p*aJ l p)=eX (cd l p) v:=by
   show _%2^nbA l p=_
   rw [Nat.add_mul_mod_self_left,Nat.mod_eq_of_lt h5']
  rw [this,<-h1,Fv h2]
theorem qg {l:List NodeP}: ∀{ps:List Nat} {vs:List (List Nat)},kV l ps vs->vs.length=ps.length:=by
 intro ps
 induction ps with
 |nil=>rintro vs rfl;rfl
 |cons p ps ih=>rintro _ ⟨v,r,rfl,h1,h2,h3⟩;simp [ih h3]
theorem JU {l:List NodeP}: ∀{ps:List Nat} {vs:List (List Nat)} {p:Nat} {v:List Nat},vs.length=ps.length->
  dL l (ps++ [p]) (vs++ [v])=dL l ps vs+2^co l ps*eX (cd l p) v:=by
 intro ps
 induction ps with
 |nil=>
  intro vs p v h
  obtain rfl:vs= []:=List.eq_nil_of_length_eq_zero (by simpa using h)
  simp [dL,co]
 |cons q ps ih=>
  intro vs p v h
  obtain⟨u,r,rfl⟩: ∃u r,vs=u::r:=by
   cases vs with
   |nil=>simp at h
   |cons u r=>exact⟨u,r,rfl⟩
  simp only [List.cons_append,dL,List.headD_cons,List.tail_cons]
  rw [ih (by simpa using h),pr,Nat.pow_add,Nat.mul_add,Nat.mul_assoc,Nat.add_assoc]
theorem MO {l:List NodeP}: ∀{ps:List Nat} {vs:List (List Nat)},kV l ps vs-> ∀i,kV l (ps.take i) (vs.take i):=by
 intro ps
 induction ps with
 |nil=>rintro vs rfl i;simp [kV]
 |cons p ps ih=>
  rintro _ ⟨v,r,rfl,h1,h2,h3⟩ i
  cases i with
  |zero=>rfl
  |succ i=>exact⟨v,r.take i,rfl,h1,h2,ih h3 i⟩
theorem nr {l:List NodeP}: ∀{ps:List Nat} {vs:List (List Nat)},kV l ps vs-> ∀{i p:Nat},ps[i]?=some p->(vs.getD i []).length=aJ l p/\ ∀x∈vs.getD i [],x<2^cd l p:=by
 intro ps
 induction ps with
 |nil=>rintro vs rfl i p h;simp at h
 |cons q ps ih=>
  rintro _ ⟨v,r,rfl,h1,h2,h3⟩ i p h
  cases i with
  |zero=>simp at h;subst h;exact⟨h1,h2⟩
  |succ i=>exact ih h3 (by simpa using h)
def cm (binds:List BindP) (p:Nat):Option Nat:=(binds.find? fun b=>decide (b.state=(p:Int))).map (·.node.toNat)
def eO (l:List NodeP) (c:Nat->Bool):List Nat->Nat
 | []=>0
 |p::ps=>(if c p then 2^nbA l p-1 else 0)+2^nbA l p*eO l c ps
def lk (l:List NodeP) (f:Nat->Option (List Nat)) (ps:List Nat):List (List Nat):=ps.map fun p=>(f p).getD (List.replicate (aJ l p) 0)
theorem JP (n:Nat):2^n-1<2^n:=by have:=bk n;omega
theorem LG (l:List NodeP) (c:Nat->Bool) (p:Nat):(if c p then 2^nbA l p-1 else 0)<2^nbA l p:=by
 have:=bk (nbA l p);split<;>omega
theorem tY (l:List NodeP) (c:Nat->Bool): ∀ps,eO l c ps<2^co l ps:=by
 intro ps
 induction ps with
 |nil=>simp [eO,co]
 |cons p ps ih=>
  have h1:=LG l c p
  rw [pr,Nat.pow_add,eO]
  have h6:=Nat.mul_le_mul_left (2^nbA l p) (Nat.succ_le_of_lt ih)
  rw [Nat.succ_eq_add_one,Nat.mul_add,Nat.mul_one]at h6
  omega
theorem zM {n a b:Nat} (ha:a<2^n) (j:Nat):(a+2^n*b).testBit j=if j<n then a.testBit j else b.testBit (j-n):=by
 rw [Nat.add_comm,Nat.testBit_two_pow_mul_add _ ha]
theorem NE {n a b c d:Nat} (ha:a<2^n) (hc:c<2^n):(a+2^n*b)&&&(c+2^n*d)=(a&&&c)+2^n*(b&&&d):=by
 apply Nat.eq_of_testBit_eq
 intro j
 rw [Nat.testBit_and,zM ha,zM hc,zM (Nat.lt_of_le_of_lt Nat.and_le_left ha)]
 split<;>rw [Nat.testBit_and]
theorem Oa {n a b c d:Nat} (ha:a<2^n) (hc:c<2^n):a+2^n*b=c+2^n*d↔a=c/\b=d:=by
 constructor
 ·intro h
  have h1:(a+2^n*b)%2^n=(c+2^n*d)%2^n:=by rw [h]
  have h2:(a+2^n*b)/2^n=(c+2^n*d)/2^n:=by rw [h]
  rw [Nat.add_mul_mod_self_left,Nat.add_mul_mod_self_left,Nat.mod_eq_of_lt ha,Nat.mod_eq_of_lt hc]at h1
  rw [Nat.add_mul_div_left _ _ (bk n),Nat.add_mul_div_left _ _ (bk n),Nat.div_eq_of_lt ha,Nat.div_eq_of_lt hc]at h2
  exact⟨h1,by omega⟩
 ·rintro ⟨rfl,rfl⟩;rfl
theorem zd {l:List NodeP} {f:Nat->Option (List Nat)}: ∀{ps:List Nat} (s:Nat),(∀p∈ps,∀v,f p=some v->v.length=aJ l p/\ ∀x∈v,x<2^cd l p)->
  (s&&&eO l (fun p=>(f p).isSome) ps=dL l ps (lk l f ps)↔ ∀(i p:Nat),ps[i]?=some p-> ∀v,f p=some v->(AU l ps s).getD i []=v):=by
 intro ps
 induction ps with
 |nil=>intro s _;simp [eO,dL]
 |cons p ps ih=>
  intro s hf
  have ih':=ih (s/2^nbA l p) fun q hq=>hf q (by simp [hq])
  have hs:s=s%2^nbA l p+2^nbA l p*(s/2^nbA l p):=(Nat.mod_add_div _ _).symm
  have hm:=Nat.mod_lt s (bk (nbA l p))
  have hhead:eX (cd l p) ((f p).getD (List.replicate (aJ l p) 0))<2^nbA l p:=by
   cases h:f p with
   |none=>simp only [Option.getD_none,Dp];exact bk _
   |some v=>
    have h2:=hf p (by simp) v h
    have h1:=yf h2.2
    rw [h2.1]at h1;exact h1
  have e1:s&&&eO l (fun p=>(f p).isSome) (p::ps)=(s%2^nbA l p&&&(if(f p).isSome then 2^nbA l p-1 else 0))+2^nbA l p*(s/2^nbA l p&&&eO l (fun p=>(f p).isSome) ps):=by
   conv=>lhs;rw [hs]
   rw [eO,NE hm (LG l (fun p=>(f p).isSome) p)]
  have e2:dL l (p::ps) (lk l f (p::ps))=eX (cd l p) ((f p).getD (List.replicate (aJ l p) 0))+2^nbA l p*dL l ps (lk l f ps):=rfl
  rw [e1,e2,Oa (Nat.lt_of_le_of_lt Nat.and_le_left hm) hhead,ih']
  constructor
  ·rintro ⟨h1,h2⟩ i q hq v hv
   cases i with
   |zero=>
    simp at hq;subst hq
    rw [hv]at h1
    simp only [Option.isSome_some,if_true,Option.getD_some,Nat.and_two_pow_sub_one_eq_mod,Nat.mod_mod]at h1
    have h3:=hf p (by simp) v hv
    simp only [AU,List.getD_cons_zero]
    rw [<-HD _ _ _ _ (Nat.le_refl _)]
    show mg _ _ (s%2^nbA l p)=v
    rw [h1,<-h3.1,Fv h3.2]
   |succ i=>exact h2 i q (by simpa using hq) v hv
  ·intro h
   refine⟨?_,fun i q hq v hv=>h (i+1) q (by simpa using hq) v hv⟩
   cases hv:f p with
   |none=>simp [Dp]
   |some v=>
    have h1:=h 0 p rfl v hv
    simp only [AU,List.getD_cons_zero]at h1
    simp only [Option.isSome_some,if_true,Option.getD_some,Nat.and_two_pow_sub_one_eq_mod,Nat.mod_mod]
    rw [<-h1,FH];rfl
theorem yH {l:List NodeP} {f:Nat->Option (List Nat)} {ps:List Nat} (h: ∀p∈ps,∀v,f p=some v->v.length=aJ l p/\ ∀x∈v,x<2^cd l p):kV l ps (lk l f ps):=by
 induction ps with
 |nil=>rfl
 |cons p ps ih=>
  refine⟨_,_,rfl,?_,?_,ih fun q hq=>h q (by simp [hq])⟩
  ·show ((f p).getD (List.replicate (aJ l p) 0)).length=_
   cases hv:f p with
   |none=>simp
   |some v=>exact(h p (by simp) v hv).1
  ·show∀x∈(f p).getD (List.replicate (aJ l p) 0),_
   cases hv:f p with
   |none=>
    intro x hx
    simp at hx
    rw [hx.2];exact bk _
   |some v=>exact(h p (by simp) v hv).2
theorem Ih {l:List NodeP} {f:Nat->Option (List Nat)} {ps:List Nat} (h: ∀p∈ps,∀v,f p=some v->v.length=aJ l p/\ ∀x∈v,x<2^cd l p):
  dL l ps (lk l f ps)&&&eO l (fun p=>(f p).isSome) ps=dL l ps (lk l f ps):=by
 rw [zd _ h,zv (yH h)]
 intro i p hp v hv
 unfold lk
 rw [List.getD_eq_getElem?_getD,List.getElem?_map,hp]
 simp [hv]
theorem Fa {a b:Nat} (h: ∀j,(a.testBit j&&b.testBit j)=false):a&&&b=0:=by
 apply Nat.eq_of_testBit_eq;intro j;rw [Nat.testBit_and,h j,Nat.zero_testBit]
theorem RB (l:List NodeP) (c:Nat->Bool): ∀ps,eO l c ps+eO l (fun p=> !c p) ps=2^co l ps-1:=by
 intro ps
 induction ps with
 |nil=>simp [eO,co]
 |cons p ps ih=>
  simp only [eO]
  rw [pr,Nat.pow_add]
  have h1:=bk (nbA l p)
  have h2:=bk (co l ps)
  have h3:2^nbA l p*eO l c ps+2^nbA l p*eO l (fun p=> !c p) ps=2^nbA l p*2^co l ps-2^nbA l p:=by
   rw [<-Nat.mul_add,ih,Nat.mul_sub,Nat.mul_one]
  have h4:=Nat.mul_le_mul_left (2^nbA l p) h2
  by_cases hc:c p=true
  ·simp only [hc,Bool.not_true,if_true,if_false,Bool.false_eq_true];omega
  ·have hc':c p=false:=by simpa using hc
   simp only [hc',Bool.not_false,if_true,if_false,Bool.false_eq_true];omega
theorem uB (n a b:Nat):cC n (fun j=>a.testBit j&&b.testBit j)+cC n (fun j=>a.testBit j&& !b.testBit j)=cC n a.testBit:=by
 induction n with
 |zero=>rfl
 |succ n ih=>
  simp only [cC]
  by_cases h1:a.testBit n=true<;>by_cases h2:b.testBit n=true<;>simp [h1,h2]<;>omega
theorem vb {n a:Nat} (h:a<2^n):cC n a.testBit=a:=ie h fun _ _=>rfl
theorem TW {n a x y:Nat} (ha:a<2^n) (hxy:x+y=2^n-1) (hx:x<2^n):(a&&&x)+(a&&&y)=a/\ ∀j,j<n->y.testBit j= !x.testBit j:=by
 have hb: ∀j,j<n->y.testBit j= !x.testBit j:=by
  have h1:=uB n (2^n-1) x
  rw [vb (JP n),ie hx (fun i hi=>by rw [Nat.testBit_two_pow_sub_one];simp [hi])]at h1
  have h2:cC n (fun j=>(2^n-1).testBit j&& !x.testBit j)=y:=by omega
  intro j hj
  rw [<-h2,pN _ _ _ hj,Nat.testBit_two_pow_sub_one]
  simp [hj]
 refine⟨?_,hb⟩
 have h1:=uB n a x
 rw [vb ha,Dh ha]at h1
 have h2:cC n (fun j=>a.testBit j&& !x.testBit j)=a&&&y:=by
  rw [<-Dh ha]
  exact qd fun j hj=>by rw [hb j hj]
 omega
theorem P8 {n x y nx t:Nat} (hxy:x+y=2^n-1) (hx:x<2^n) (ht:t<2^n) (hnx:nx<2^n) (hn:nx&&&x=nx):t&&&x=nx↔ ∃f,f&&&y=f/\nx+f=t:=by
 have h1:=TW ht hxy hx
 constructor
 ·intro h
  exact⟨t&&&y,by rw [Nat.and_assoc,Nat.and_self],by omega⟩
 ·rintro ⟨f,hf,rfl⟩
  have hfl:f<2^n:=by omega
  have d: ∀j,(nx.testBit j&&f.testBit j)=false:=by
   intro j
   by_cases hj:j<n
   ·have e1:nx.testBit j=(nx.testBit j&&x.testBit j):=by rw [<-Nat.testBit_and,hn]
    have e2:f.testBit j=(f.testBit j&&y.testBit j):=by rw [<-Nat.testBit_and,hf]
    rw [e1,e2,h1.2 j hj]
    cases nx.testBit j<;>cases f.testBit j<;>cases x.testBit j<;>rfl
   ·rw [Nat.testBit_lt_two_pow (Nat.lt_of_lt_of_le hnx (Nat.pow_le_pow_right (by omega) (by omega)))];rfl
  have hor:nx+f=nx|||f:=by
   have hg: ∀m,cC m nx.testBit+cC m f.testBit=cC m (fun j=>nx.testBit j||f.testBit j):=by
    intro m
    induction m with
    |zero=>rfl
    |succ m ih=>
     have:=d m
     simp only [cC]
     by_cases h1:nx.testBit m=true<;>by_cases h2:f.testBit m=true<;>simp [h1,h2]at this⊢ <;>omega
   have:=hg n
   rw [vb hnx,vb hfl,MD hnx hfl]at this
   exact this
  rw [hor]
  have hfx:f&&&x=0:=Fa fun j=>by
   by_cases hj:j<n
   ·have e2:f.testBit j=(f.testBit j&&y.testBit j):=by rw [<-Nat.testBit_and,hf]
    rw [e2,h1.2 j hj]
    cases f.testBit j<;>cases x.testBit j<;>rfl
   ·rw [Nat.testBit_lt_two_pow (Nat.lt_of_lt_of_le hfl (Nat.pow_le_pow_right (by omega) (by omega)))];rfl
  rw [Nat.and_or_distrib_right,hn,hfx,Nat.or_zero]
def lJ (n:Nat) (p:Nat->Bool):Bool:=(List.range n).any p
theorem cr {n:Nat} {p:Nat->Bool}:lJ n p=true↔ ∃i,i<n/\p i=true:=by
 unfold lJ;rw [List.any_eq_true]
 constructor
 ·rintro ⟨i,hi,h⟩;exact⟨i,List.mem_range.1 hi,h⟩
 ·rintro ⟨i,hi,h⟩;exact⟨i,List.mem_range.2 hi,h⟩
theorem mV {n:Nat} {p:Nat->Bool}:lJ n p=false↔ ∀i,i<n->p i=false:=by
 rw [Bool.eq_false_iff,ne_eq,cr]
 constructor
 ·intro h i hi
  cases hp:p i with
  |false=>rfl
  |true=>exact absurd ⟨i,hi,hp⟩ h
 ·rintro h ⟨i,hi,hp⟩;rw [h i hi]at hp;cases hp
theorem FO (n:Nat) (p:Nat->Bool):lJ (n+1) p=(lJ n p||p n):=by
 unfold lJ;rw [List.range_succ,List.any_append];simp
structure ay where
 n:Nat
 k:Nat
 hold:Nat->Bool
 bad:Nat->Bool
 next:Nat->Nat
 fixed:Nat
 bfix:Nat
 bas:Nat
structure ay.Ok (σ:ay):Prop where
 nle:σ.n<=8
 kle:σ.k<=5
 fixed:σ.fixed<2^σ.n
 bfix:σ.bfix<2^σ.n
 next: ∀c,c<2^(σ.n+σ.k)->σ.next c<2^σ.n
 held: ∀c,c<2^(σ.n+σ.k)->σ.next c&&&σ.fixed=σ.next c
 bas:σ.bas<2^σ.n
 bheld:σ.bas&&&σ.bfix=σ.bas
namespace ay
def begins (σ:ay) (s:Nat):Bool:=decide (s&&&σ.bfix=σ.bas)
def ends (σ:ay) (c:Nat):Bool:=σ.hold c&&σ.bad c
def goes (σ:ay) (c t:Nat):Bool:=decide (t&&&σ.fixed=σ.next c)
def at_ (σ:ay) (s i:Nat):Nat:=i*2^σ.n+s
def some_ (σ:ay) (f:Nat->Nat->Bool) (s:Nat):Bool:=lJ (2^σ.k) fun i=>f s (σ.at_ s i)
def leads (σ:ay) (S:Nat->Bool) (c:Nat):Bool:=lJ (2^σ.n) fun t=>S t&&σ.goes c t
def fwd (σ:ay) (p S:Nat->Bool) (t:Nat):Bool:=lJ (2^(σ.n+σ.k)) fun c=>(S (c%2^σ.n)&&p c)&&σ.goes c t
def bwd (σ:ay) (p S:Nat->Bool):Nat->Bool:=σ.some_ fun _ c=>p c&&σ.leads S c
theorem pow_nk (σ:ay):2^(σ.n+σ.k)=2^σ.k*2^σ.n:=by rw [Nat.pow_add,Nat.mul_comm]
theorem at_lt {σ:ay} {s i:Nat} (hs:s<2^σ.n) (hi:i<2^σ.k):σ.at_ s i<2^(σ.n+σ.k):=by
 rw [pow_nk];unfold at_
 have:=Nat.mul_le_mul_right (2^σ.n) (Nat.succ_le_of_lt hi)
 rw [Nat.succ_mul]at this;omega
theorem at_mod {σ:ay} {s i:Nat} (hs:s<2^σ.n):σ.at_ s i%2^σ.n=s:=by
 unfold at_;rw [Nat.mul_comm,Nat.mul_add_mod,Nat.mod_eq_of_lt hs]
theorem at_of {σ:ay} {c:Nat} (hc:c<2^(σ.n+σ.k)):c%2^σ.n<2^σ.n/\c/2^σ.n<2^σ.k/\σ.at_ (c%2^σ.n) (c/2^σ.n)=c:=by
 refine⟨Nat.mod_lt _ (bk _),?_,?_⟩
 ·rw [Nat.div_lt_iff_lt_mul (bk _),<-pow_nk];exact hc
 ·unfold at_;rw [Nat.mul_comm];exact Nat.div_add_mod _ _
theorem some_iff {σ:ay} {f:Nat->Nat->Bool} {s:Nat}:σ.some_ f s=true↔ ∃i,i<2^σ.k/\f s (σ.at_ s i)=true:=cr
theorem fwd_iff {σ:ay} {p S:Nat->Bool} {t:Nat}:σ.fwd p S t=true↔ ∃s i,s<2^σ.n/\i<2^σ.k/\S s=true/\p (σ.at_ s i)=true/\σ.goes (σ.at_ s i) t=true:=by
 unfold fwd;rw [cr]
 constructor
 ·rintro ⟨c,hc,h⟩
  simp only [Bool.and_eq_true]at h
  obtain⟨h1,h2,h3⟩:=at_of hc
  exact⟨_,_,h1,h2,h.1.1,by rw [h3];exact h.1.2,by rw [h3];exact h.2⟩
 ·rintro ⟨s,i,hs,hi,h1,h2,h3⟩
  refine⟨_,at_lt hs hi,?_⟩
  rw [at_mod hs,h1,h2,h3];rfl
theorem bwd_iff {σ:ay} {p S:Nat->Bool} {s:Nat}:σ.bwd p S s=true↔ ∃i t,i<2^σ.k/\t<2^σ.n/\p (σ.at_ s i)=true/\S t=true/\σ.goes (σ.at_ s i) t=true:=by
 unfold bwd;rw [some_iff]
 constructor
 ·rintro ⟨i,hi,h⟩
  simp only [Bool.and_eq_true,leads,cr]at h
  obtain⟨h1,t,ht,h2,h3⟩:=h
  exact⟨i,t,hi,ht,h1,h2,h3⟩
 ·rintro ⟨i,t,hi,ht,h1,h2,h3⟩
  refine⟨i,hi,?_⟩
  simp only [Bool.and_eq_true,leads,cr]
  exact⟨h1,t,ht,h2,h3⟩
theorem meet {σ:ay} {p S T:Nat->Bool}:(∃t,t<2^σ.n/\σ.fwd p S t=true/\T t=true)↔ ∃s,s<2^σ.n/\S s=true/\σ.bwd p T s=true:=by
 constructor
 ·rintro ⟨t,ht,h1,h2⟩
  obtain⟨s,i,hs,hi,a,b,c⟩:=fwd_iff.1 h1
  exact⟨s,hs,a,bwd_iff.2 ⟨i,t,hi,ht,b,h2,c⟩⟩
 ·rintro ⟨s,hs,h1,h2⟩
  obtain⟨i,t,hi,ht,a,b,c⟩:=bwd_iff.1 h2
  exact⟨t,ht,fwd_iff.2 ⟨s,i,hs,hi,h1,a,c⟩,b⟩
def lay (σ:ay):Nat->(Nat->Bool)×(Nat->Bool)
 |0=>(σ.begins,fun _=>false)
 |i+1=>(fun t=>σ.fwd σ.hold (σ.lay i).1 t&& !((σ.lay i).2 t||(σ.lay i).1 t),fun t=>(σ.lay i).2 t||(σ.lay i).1 t)
def front (σ:ay) (i:Nat):Nat->Bool:=(σ.lay i).1
def seen (σ:ay) (i:Nat):Nat->Bool:=(σ.lay i).2
theorem seen_zero (σ:ay) (t:Nat):σ.seen 0 t=false:=rfl
theorem seen_succ (σ:ay) (i t:Nat):σ.seen (i+1) t=(σ.seen i t||σ.front i t):=rfl
theorem front_succ (σ:ay) (i t:Nat):σ.front (i+1) t=(σ.fwd σ.hold (σ.front i) t&& !σ.seen (i+1) t):=rfl
def live (σ:ay) (i:Nat):Bool:=lJ (2^σ.n) (σ.front i)
def cntB (n:Nat) (S:Nat->Bool):Nat:=((List.range n).filter S).length
theorem cntB_le (n:Nat) (S:Nat->Bool):cntB n S<=n:=by unfold cntB;have:=List.length_filter_le S (List.range n);simpa using this
theorem cntB_succ (n:Nat) (S:Nat->Bool):cntB (n+1) S=cntB n S+if S n then 1 else 0:=by
 unfold cntB;rw [List.range_succ,List.filter_append,List.length_append]
 by_cases h:S n=true<;>simp [h]
theorem cntB_mono {n:Nat} {S T:Nat->Bool} (h: ∀i,i<n->S i=true->T i=true):cntB n S<=cntB n T:=by
 induction n with
 |zero=>simp [cntB]
 |succ n ih=>
  have:=ih fun i hi=>h i (by omega)
  have h2:=h n (by omega)
  rw [cntB_succ,cntB_succ]
  by_cases hs:S n=true
  ·rw [if_pos hs,if_pos (h2 hs)];omega
  ·rw [if_neg hs];omega
theorem cntB_more {n j:Nat} {S T:Nat->Bool} (h: ∀i,i<n->S i=true->T i=true) (hj:j<n) (h1:S j=false) (h2:T j=true):cntB n S+1<=cntB n T:=by
 induction n with
 |zero=>omega
 |succ n ih=>
  rw [cntB_succ,cntB_succ]
  by_cases e:j=n
  ·subst e
   have:=cntB_mono fun i hi=>h i (Nat.lt_succ_of_lt hi)
   rw [if_neg (by rw [h1];decide),if_pos h2];omega
  ·have:=ih (fun i hi=>h i (by omega)) (by omega)
   have h3:=h n (by omega)
   by_cases hs:S n=true
   ·rw [if_pos hs,if_pos (h3 hs)];omega
   ·rw [if_neg hs];omega
theorem front_new (σ:ay) (i t:Nat) (h:σ.front i t=true):σ.seen i t=false:=by
 cases i with
 |zero=>rfl
 |succ i=>rw [front_succ]at h;simp only [Bool.and_eq_true,Bool.not_eq_true']at h;exact h.2
theorem cnt_seen (σ:ay): ∀i,(∀j,j<i->σ.live j=true)->i<=cntB (2^σ.n) (σ.seen i):=by
 intro i
 induction i with
 |zero=>intro _;omega
 |succ i ih=>
  intro h
  have h1:=ih fun j hj=>h j (by omega)
  obtain⟨t,ht,h2⟩:=cr.1 (h i (by omega))
  have:=cntB_more (n:=2^σ.n) (j:=t) (S:=σ.seen i) (T:=σ.seen (i+1)) (fun j _ hj=>by rw [seen_succ,hj];rfl) ht (front_new σ i t h2) (by rw [seen_succ,h2,Bool.or_true])
  omega
theorem live_le {σ:ay} {i:Nat} (h: ∀j,j<i->σ.live j=true):i<=2^σ.n:=Nat.le_trans (cnt_seen σ i h) (cntB_le _ _)
theorem dead_after {σ:ay} {i:Nat} (h:σ.live i=false): ∀d,σ.live (i+d)=false:=by
 intro d
 induction d with
 |zero=>exact h
 |succ d ih=>
  unfold live at ih⊢
  rw [mV]at ih⊢
  intro t ht
  rw [<-Nat.add_assoc,front_succ]
  have:σ.fwd σ.hold (σ.front (i+d)) t=false:=by
   cases hf:σ.fwd σ.hold (σ.front (i+d)) t with
   |false=>rfl
   |true=>
    obtain⟨s,x,hs,_,h1,_⟩:=fwd_iff.1 hf
    rw [ih s hs]at h1;cases h1
  rw [this];rfl
def nLay (σ:ay):Nat:=(List.range (2^σ.n+1)).findIdx fun i=> !σ.live i
theorem nLay_of {σ:ay} {i:Nat} (h1: ∀j,j<i->σ.live j=true) (h2:σ.live i=false):σ.nLay=i:=by
 have hle:=live_le h1
 unfold nLay
 rw [List.findIdx_eq (by simp;omega)]
 refine⟨by simp [h2],fun j hj=>?_⟩
 simp [h1 j hj]
theorem nLay_live {σ:ay}:(∀j,j<σ.nLay->σ.live j=true)/\σ.live σ.nLay=false:=by
 obtain⟨i,h1,h2⟩: ∃i,(∀j,j<i->σ.live j=true)/\σ.live i=false:=by
  have key: ∀m i,(∀j,j<i->σ.live j=true)->m=2^σ.n+1-i-> ∃i,(∀j,j<i->σ.live j=true)/\σ.live i=false:=by
   intro m
   induction m with
   |zero=>intro i h hm;have:=live_le h;omega
   |succ m ih=>
    intro i h hm
    cases hl:σ.live i with
    |false=>exact⟨i,h,hl⟩
    |true=>exact ih (i+1) (fun j hj=>by
      by_cases e:j=i
      ·subst e;exact hl
      ·exact h j (by omega)) (by omega)
  exact key _ 0 (fun j hj=>by omega) rfl
 rw [nLay_of h1 h2];exact⟨h1,h2⟩
theorem nLay_le (σ:ay):σ.nLay<=2^σ.n:=live_le nLay_live.1
theorem front_lt {σ:ay} {i s:Nat} (hs:s<2^σ.n) (h:σ.front i s=true):i<σ.nLay:=by
 rcases Nat.lt_or_ge i σ.nLay with h1|h1
 ·exact h1
 ·have:=dead_after (nLay_live (σ:=σ)).2 (i-σ.nLay)
  rw [show σ.nLay+(i-σ.nLay)=i by omega]at this
  unfold live at this
  rw [mV]at this
  rw [this s hs]at h;cases h
theorem seen_iff {σ:ay} {i t:Nat}:σ.seen i t=true↔ ∃j,j<i/\σ.front j t=true:=by
 induction i with
 |zero=>rw [seen_zero];simp
 |succ i ih=>
  rw [seen_succ,Bool.or_eq_true,ih]
  constructor
  ·rintro (⟨j,hj,h⟩|h)
   ·exact⟨j,by omega,h⟩
   ·exact⟨i,by omega,h⟩
  ·rintro ⟨j,hj,h⟩
   by_cases e:j=i
   ·subst e;exact .inr h
   ·exact .inl ⟨j,by omega,h⟩
def endsAt (σ:ay):Nat->Bool:=σ.some_ fun _ c=>σ.ends c
theorem endsAt_iff {σ:ay} {s:Nat}:σ.endsAt s=true↔ ∃x,x<2^σ.k/\σ.hold (σ.at_ s x)=true/\σ.bad (σ.at_ s x)=true:=by
 unfold endsAt;rw [some_iff];simp only [ends,Bool.and_eq_true]
def hits (σ:ay) (i:Nat):Bool:=lJ (2^σ.n) fun s=>σ.front i s&&σ.endsAt s
def depth (σ:ay):Option Nat:=(List.range σ.nLay).find? fun i=>σ.hits i
def depthI (σ:ay):Int:=match σ.depth with|some d=>d|none=> -1
theorem find_none {n:Nat} {p:Nat->Bool}:(List.range n).find? p=none↔ ∀i,i<n->p i=false:=by
 rw [List.find?_eq_none]
 constructor
 ·intro h i hi;have:=h i (List.mem_range.2 hi);simpa using this
 ·intro h i hi;rw [h i (List.mem_range.1 hi)];decide
theorem find_some {n d:Nat} {p:Nat->Bool}:(List.range n).find? p=some d↔d<n/\p d=true/\ ∀i,i<d->p i=false:=by
 induction n with
 |zero=>simp
 |succ n ih=>
  rw [List.range_succ,List.find?_append]
  cases hn:(List.range n).find? p with
  |some e=>
   have h1:=hn
   rw [Option.some_or]
   have ih': ∀d,some e=some d↔_:=fun d=>hn▸(show (List.range n).find? p=some d↔d<n/\p d=true/\ ∀i,i<d->p i=false from by
    constructor
    ·intro hd
     have:=List.find?_some hd
     have hm:=List.mem_range.1 (List.mem_of_find?_eq_some hd)
     refine⟨hm,this,fun i hi=>?_⟩
     rw [List.find?_range_eq_some]at hd
     simpa using hd.2.2 i hi
    ·rintro ⟨a,b,c⟩
     rw [List.find?_range_eq_some]
     exact⟨b,List.mem_range.2 a,fun j hj=>by simp [c j hj]⟩)
   rw [ih']
   constructor
   ·rintro ⟨a,b,c⟩;exact⟨by omega,b,c⟩
   ·rintro ⟨a,b,c⟩
    refine⟨?_,b,c⟩
    rcases Nat.lt_or_ge d n with h|h
    ·exact h
    ·have hd:d=n:=by omega
     have he:=(ih' e).1 rfl
     have:=c e (by omega)
     rw [he.2.1]at this;cases this
  |none=>
   rw [Option.none_or]
   have h0:=find_none.1 hn
   simp only [List.find?_cons,List.find?_nil]
   cases hp:p n with
   |true=>
    simp only [Option.some.injEq]
    constructor
    ·rintro rfl;exact⟨by omega,hp,h0⟩
    ·rintro ⟨a,b,c⟩
     rcases Nat.lt_or_ge d n with h|h
     ·rw [h0 d h]at b;cases b
     ·omega
   |false=>
    simp only [reduceCtorEq,false_iff]
    rintro ⟨a,b,c⟩
    rcases Nat.lt_or_ge d n with h|h
    ·rw [h0 d h]at b;cases b
    ·have:d=n:=by omega
     subst this;rw [hp]at b;cases b
theorem depth_some {σ:ay} {d:Nat}:σ.depth=some d↔σ.hits d=true/\ ∀i,i<d->σ.hits i=false:=by
 unfold depth;rw [find_some]
 constructor
 ·rintro ⟨_,h⟩;exact h
 ·rintro ⟨h1,h2⟩
  obtain⟨s,hs,h⟩:=cr.1 h1
  exact⟨front_lt hs (by simp only [Bool.and_eq_true]at h;exact h.1),h1,h2⟩
theorem depth_none {σ:ay}:σ.depth=none↔ ∀i,σ.hits i=false:=by
 unfold depth;rw [find_none]
 constructor
 ·intro h i
  cases hh:σ.hits i with
  |false=>rfl
  |true=>
   obtain⟨s,hs,h'⟩:=cr.1 hh
   have:=h i (front_lt hs (by simp only [Bool.and_eq_true]at h';exact h'.1))
   rw [hh]at this;cases this
 ·exact fun h i _=>h i
def back (σ:ay):Nat->Nat->Bool
 |0=>σ.endsAt
 |i+1=>σ.some_ fun s c=>σ.back i s||(σ.hold c&&σ.leads (σ.back i) c)
theorem fwd_mono {σ:ay} {p q S T:Nat->Bool} (hp: ∀c,c<2^(σ.n+σ.k)->p c=true->q c=true) (hS: ∀s,s<2^σ.n->S s=true->T s=true) {t:Nat} (h:σ.fwd p S t=true):σ.fwd q T t=true:=by
 obtain⟨s,i,hs,hi,a,b,c⟩:=fwd_iff.1 h
 exact fwd_iff.2 ⟨s,i,hs,hi,hS s hs a,hp _ (at_lt hs hi) b,c⟩
def clean (σ:ay) (c:Nat):Bool:=σ.hold c&& !σ.bad c
def back2 (σ:ay):Nat->Nat->Bool
 |0=>σ.endsAt
 |i+1=>σ.bwd σ.clean (σ.back2 i)
def kind (σ:ay) (k:Nat):Int:=if(match σ.depth with|some d=>decide (d<k)|none=>false)then 1 else if lJ (2^σ.n) (σ.back2 k)then 2 else 0
def cleanFrom (σ:ay) (S:Nat->Bool):Nat->Nat->Bool
 |0=>S
 |i+1=>σ.fwd σ.clean (σ.cleanFrom S i)
def met (σ:ay) (S:Nat->Bool):Bool:=lJ (2^σ.n) fun s=>S s&&σ.endsAt s
theorem seen_fwd {σ:ay} (i t:Nat) (h:σ.fwd σ.hold (σ.seen i) t=true):σ.seen (i+1) t=true:=by
 obtain⟨s,x,hs,hx,h1,h2,h3⟩:=fwd_iff.1 h
 obtain⟨j,hj,h4⟩:=seen_iff.1 h1
 have h5:σ.fwd σ.hold (σ.front j) t=true:=fwd_iff.2 ⟨s,x,hs,hx,h4,h2,h3⟩
 by_cases e:σ.seen (j+1) t=true
 ·obtain⟨q,hq,h6⟩:=seen_iff.1 e
  exact seen_iff.2 ⟨q,by omega,h6⟩
 ·have e':σ.seen (j+1) t=false:=by simpa using e
  exact seen_iff.2 ⟨j+1,by omega,by rw [front_succ,h5,e'];rfl⟩
theorem clean_hold {σ:ay} {c:Nat} (h:σ.clean c=true):σ.hold c=true:=by simp only [clean,Bool.and_eq_true]at h;exact h.1
theorem clean_seen (σ:ay): ∀i s,σ.cleanFrom σ.begins i s=true->σ.seen (i+1) s=true:=by
 intro i
 induction i with
 |zero=>intro s h;rw [seen_succ];rw [show σ.front 0 s=true from h,Bool.or_true]
 |succ i ih=>exact fun s h=>seen_fwd _ _ (fwd_mono (fun c _ h=>clean_hold h) (fun s _ h=>ih s h) h)
theorem base_iff {σ:ay} {k:Nat}:(∃i,i<k/\σ.met (σ.cleanFrom σ.begins i)=true)↔ ∃d,σ.depth=some d/\d<k:=by
 constructor
 ·rintro ⟨i,hi,h⟩
  obtain⟨s,hs,h1⟩:=cr.1 h
  simp only [Bool.and_eq_true]at h1
  obtain⟨j,hj,h2⟩:=seen_iff.1 (clean_seen σ i s h1.1)
  have hh:σ.hits j=true:=cr.2 ⟨s,hs,by rw [h2,h1.2];rfl⟩
  cases hd:σ.depth with
  |none=>rw [depth_none.1 hd j]at hh;cases hh
  |some d=>
   refine⟨d,rfl,?_⟩
   rcases Nat.lt_or_ge d k with e|e
   ·exact e
   ·rw [(depth_some.1 hd).2 j (by omega)]at hh;cases hh
 ·rintro ⟨d,hd,hk⟩
  obtain⟨h1,h2⟩:=depth_some.1 hd
  have key: ∀j,j<=d-> ∀s,s<2^σ.n->σ.front j s=true->σ.cleanFrom σ.begins j s=true:=by
   intro j
   induction j with
   |zero=>exact fun _ s _ h=>h
   |succ j ih=>
    intro hj t ht h
    rw [front_succ]at h
    simp only [Bool.and_eq_true]at h
    obtain⟨s,x,hs,hx,a,b,c⟩:=fwd_iff.1 h.1
    refine fwd_iff.2 ⟨s,x,hs,hx,ih (by omega) s hs a,?_,c⟩
    cases hb:σ.bad (σ.at_ s x)with
    |false=>simp [clean,b,hb]
    |true=>
     have:σ.hits j=true:=cr.2 ⟨s,hs,by
      rw [a,Bool.true_and]
      exact endsAt_iff.2 ⟨x,hx,b,hb⟩⟩
     rw [h2 j (by omega)]at this;cases this
  obtain⟨s,hs,h3⟩:=cr.1 h1
  simp only [Bool.and_eq_true]at h3
  exact⟨d,hk,cr.2 ⟨s,hs,by rw [key d (Nat.le_refl _) s hs h3.1,h3.2];rfl⟩⟩
theorem any_iff {σ:ay} {k:Nat}:σ.met (σ.cleanFrom (fun _=>true) k)=lJ (2^σ.n) (σ.back2 k):=by
 have key: ∀j k,(∃s,s<2^σ.n/\σ.cleanFrom (fun _=>true) k s=true/\σ.back2 j s=true)↔ ∃s,s<2^σ.n/\σ.back2 (j+k) s=true:=by
  intro j k
  induction k generalizing j with
  |zero=>simp [cleanFrom]
  |succ k ih=>
   rw [show j+(k+1)=(j+1)+k by omega,<-ih (j+1)]
   exact meet
 rw [Bool.eq_iff_iff,cr]
 have:=key 0 k
 rw [Nat.zero_add]at this
 rw [<-this]
 unfold met;rw [cr]
 simp only [Bool.and_eq_true,back2]
theorem kind_eq {σ:ay} {k:Nat} {base:Bool} (h:base=true↔ ∃i,i<k/\σ.met (σ.cleanFrom σ.begins i)=true):
  σ.kind k=if base then 1 else if σ.met (σ.cleanFrom (fun _=>true) k)then 2 else 0:=by
 rw [base_iff]at h
 unfold kind
 rw [any_iff]
 cases hd:σ.depth with
 |none=>
  have:base=false:=by
   cases hb:base with
   |false=>rfl
   |true=>obtain⟨d,h1,_⟩:=h.1 hb;rw [hd]at h1;cases h1
  rw [this]
 |some d=>
  by_cases e:d<k
  ·rw [h.2 ⟨d,hd,e⟩];simp [e]
  ·have:base=false:=by
    cases hb:base with
    |false=>rfl
    |true=>obtain⟨d',h1,h2⟩:=h.1 hb;rw [hd]at h1;cases h1;omega
   rw [this];simp [e]
end ay
theorem Rx {x:Int} {n:Nat} (hn:n<=64):mK x (n:Int)=x/((2^n:Nat):Int):=by
 unfold mK
 have h1:min (Int.toNat (n:Int)) IntKind.i64.bits=n:=by simp [IntKind.bits];omega
 rw [h1,Int.fdiv_eq_ediv_of_nonneg _ (Int.pow_nonneg (by decide))]
 simp
theorem fM {x:Int} {w:Nat} (hw:w<=62):lH x (((2^w:Nat):Int)-1)=((hG w x:Nat):Int):=by
 have h2:=kL hw
 have hp:=bk w
 have hm:(((2^w:Nat):Int)-1)=((2^w-1:Nat):Int):=by omega
 rw [hm]
 show IntKind.i64.wrap _=_
 have h1:(BitVec.ofInt IntKind.i64.bits x&&&BitVec.ofInt IntKind.i64.bits ((2^w-1:Nat):Int)).toNat=hG w x:=by
  show (BitVec.ofInt 64 x&&&BitVec.ofInt 64 ((2^w-1:Nat):Int)).toNat=hG w x
  rw [BitVec.ofInt_natCast,BitVec.toNat_and,BitVec.toNat_ofNat,BitVec.toNat_ofInt,Nat.mod_eq_of_lt (by omega),Nat.and_two_pow_sub_one_eq_mod]
  have hd:((2^w:Nat):Int)∣((2^64:Nat):Int):=Int.natCast_dvd_natCast.2 (Nat.pow_dvd_pow 2 (by omega))
  have h3:=Int.emod_emod_of_dvd x hd
  have h4:=Int.emod_nonneg x (b:=((2^64:Nat):Int)) (by decide)
  unfold hG
  rw [<-h3]
  generalize x%((2^64:Nat):Int)=y at*
  obtain⟨z,rfl⟩: ∃z:Nat,y=z:=⟨y.toNat,by omega⟩
  rw [<-Int.natCast_emod,Int.toNat_natCast,Int.toNat_natCast]
 rw [h1]
 exact ef (by have:=hO w x;omega)
theorem QF {w:Nat} (hw:w<=62):aq (-1) (w:Int)= -((2^w:Nat):Int):=by
 have h2:=kL hw
 unfold aq
 have h1:min (Int.toNat (w:Int)) IntKind.i64.bits=w:=by simp [IntKind.bits];omega
 rw [h1]
 have h3:(-1:Int)*2^w= -((2^w:Nat):Int):=by simp
 have key: ∀N:Nat,N<=4611686018427387904->W (-(N:Int))= -(N:Int):=fun N h=>bU (by omega) (by omega)
 rw [h3];exact key _ h2
theorem wt {w:Nat} (hw:w<=16):2^w<=65536:=by
 have:=Nat.pow_le_pow_right (n:=2) (by omega) hw
 simpa using this
theorem iy {w v:Int}:gJ w v=true↔(1<=w/\w<=16)/\0<=v/\v<((2^w.toNat:Nat):Int):=by
 unfold gJ
 rw [decide_eq_true_eq]
 constructor
 ·rintro ⟨h1,h2,h3⟩;exact⟨h1,h2,by omega⟩
 ·rintro ⟨h1,h2,h3⟩;exact⟨h1,h2,by omega⟩
theorem dl {h:Hp} {w:Nat} {R:Value->Hp->Prop} (hw:w<=62) (k:R (I (((2^w:Nat):Int)-1)) h):ct #[I w] h R:=by
 apply IJ
 refine uf_ ?_
 have:=kL hw
 have hp:=bk w
 rw [if_neg (by omega),bV hw,bU (by omega) (by omega)]
 exact k
theorem xB {h:Hp} {w:Int} {R:Value->Hp->Prop} (k:R (.bool (decide (1<=w/\w<=16))) h):lR #[I w] h R:=by
 apply B8
 refine uf_ ?_
 exact eV ⟨_,rfl,k⟩
theorem sM {h:Hp} {w:Int} {R:Value->Hp->Prop} (k:R (.bool (decide (1<=w/\w<=16))) h):jq #[I w] h R:=by
 apply Cf
 refine uf_ ?_
 exact eK ⟨_,rfl,k⟩
theorem CY (w v:Int):gJ w v=(decide (1<=w/\w<=16)&&decide (0<=v/\v<=((2^w.toNat:Nat):Int)-1)):=by
 unfold gJ;rw [Bool.eq_iff_iff];simp
theorem zU {h:Hp} {w v:Int} {R:Value->Hp->Prop} (k:R (.bool (gJ w v)) h):rh #[I w,I v] h R:=by
 apply Fk
 refine uf_ ?_
 rw [CY]at k
 refine xB ⟨_,rfl,ad (fun e=>?_) (fun e=>?_)⟩
 ·rw [e,Bool.true_and]at k
  have e':1<=w/\w<=16:=by simpa using e
  obtain⟨n,rfl⟩: ∃n:Nat,w=n:=⟨w.toNat,by omega⟩
  rw [Int.toNat_natCast]at k
  exact dl (by omega) ⟨_,rfl,eV ⟨_,rfl,k⟩⟩
 ·rw [e,Bool.false_and]at k;exact k
theorem cg {h:Hp} {w v:Int} {R:Value->Hp->Prop} (k:R (.bool (gJ w v)) h):cR #[I w,I v] h R:=by
 apply E1
 refine uf_ ?_
 rw [CY]at k
 refine sM ⟨_,rfl,ad (fun e=>?_) (fun e=>?_)⟩
 ·rw [e,Bool.true_and]at k
  have e':1<=w/\w<=16:=by simpa using e
  obtain⟨n,rfl⟩: ∃n:Nat,w=n:=⟨w.toNat,by omega⟩
  rw [Int.toNat_natCast]at k
  have:=kL (n:=n) (by omega)
  have hp:=bk n
  rw [cA (by omega),if_neg (by omega),bV (by omega),bU (by omega) (by omega)]
  exact eK ⟨_,rfl,k⟩
 ·rw [e,Bool.false_and]at k;exact k
def WO (w a:Nat):Prop:=(1<=w/\w<=16)/\a<2^w
theorem WO.ok {w a:Nat} (e:WO w a):gJ (w:Int) (a:Int)=true:=iy.2 ⟨by have:=e.1;omega,by omega,by rw [Int.toNat_natCast];have:=e.2;omega⟩
theorem WO.pow {w a:Nat} (e:WO w a):2^w<=65536:=wt e.1.2
theorem ld {h:Hp} {w a:Nat} {R:Value->Hp->Prop} (e:WO w a) (k:R (I (sgn w a)) h):fK #[I w,I a] h R:=by
 apply E0
 refine uf_ ?_
 obtain⟨⟨h1,h2⟩,ha⟩:=e
 have hp:=nR h1
 have h16:=wt h2
 have w1:W ((w:Int)-1)=((w-1:Nat):Int):=by rw [bU (by omega) (by omega)];omega
 rw [w1,if_neg (by omega),if_neg (by omega),jt (by omega)]
 unfold sgn at k
 by_cases hs:2^(w-1)<=a
 ·have e1:a/2^(w-1)=1:=by rw [Nat.div_eq_iff (bk _)];omega
  rw [e1,gz (by omega) (by omega),Nat.one_mul,bU (by omega) (by omega)]
  rw [if_pos hs]at k;exact k
 ·have e1:a/2^(w-1)=0:=Nat.div_eq_of_lt (by omega)
  rw [e1,gz (by omega) (by omega),Nat.zero_mul,bU (by omega) (by omega)]
  rw [if_neg hs]at k
  simpa using k
theorem gu {h:Hp} {w a:Nat} {R:Value->Hp->Prop} (e:WO w a) (k:R (I (sgn w a)) h):dI #[I w,I a] h R:=by
 apply xC
 refine uf_ ?_
 obtain⟨⟨h1,h2⟩,ha⟩:=e
 have hp:=nR h1
 have h16:=wt h2
 have w1:W ((w:Int)-1)=((w-1:Nat):Int):=by rw [bU (by omega) (by omega)];omega
 refine cg ⟨_,rfl,aG (by rw [WO.ok ⟨⟨h1,h2⟩,ha⟩];rfl) ?_⟩
 rw [w1,cA (by omega),if_neg (by omega),bV (by omega)]
 unfold sgn at k
 refine ad (fun e=>?_) (fun e=>?_)
 ·have hs:2^(w-1)<=a:=by
   have:=of_decide_eq_true e;omega
  rw [if_pos hs]at k
  rw [cA (by omega),if_neg (by omega),bV (by omega),bU (by omega) (by omega)]
  exact k
 ·have hs: ¬2^(w-1)<=a:=by
   have:=of_decide_eq_false e;omega
  rw [if_neg hs]at k;exact k
theorem Ll (w:Nat) (n:Int):((hG w n:Nat):Int)=if Int.tmod n ((2^w:Nat):Int)<0 then Int.tmod n ((2^w:Nat):Int)+((2^w:Nat):Int)else Int.tmod n ((2^w:Nat):Int):=by
 rw [Cs]
 have hp:(0:Int)<((2^w:Nat):Int):=Int.ofNat_lt.2 (bk w)
 have h1:=Int.emod_nonneg n (b:=((2^w:Nat):Int)) (by omega)
 have h2:=Int.emod_lt_of_pos n hp
 have h3:=Int.tmod_eq_emod (a:=n) (b:=((2^w:Nat):Int))
 have h4:n%((2^w:Nat):Int)=0->((2^w:Nat):Int)∣n:=Int.dvd_of_emod_eq_zero
 rw [h3]
 generalize ((2^w:Nat):Int)=N at*
 by_cases hn:0<=n\/N∣n
 ·rw [if_pos hn];split<;>omega
 ·have h5:n%N≠0:=fun e=>hn (.inr (h4 e))
  rw [if_neg hn]
  generalize n%N=r at*
  split<;>omega
theorem fJ {h:Hp} {w:Nat} {n:Int} {R:Value->Hp->Prop} (hw:1<=w/\w<=16) (k:R (I (hG w n)) h):dz #[I w,I n] h R:=by
 apply A7
 refine uf_ ?_
 have h16:=wt hw.2
 have hp:=bk w
 have hlt:=hO w n
 have ht:=Ll w n
 refine sM ⟨_,rfl,aG (by simp;omega) ?_⟩
 rw [cA (by omega),if_neg (by omega),bV (by omega),if_neg (by omega)]
 refine ad (fun e=>?_) (fun e=>?_)
 ·have e':=of_decide_eq_true e
  rw [if_pos e']at ht
  rw [if_neg (by omega),bU (by omega) (by omega),<-ht];exact k
 ·have e':=of_decide_eq_false e
  rw [if_neg e']at ht
  rw [<-ht];exact k
theorem Ad {h:Hp} {w a:Nat} {R:Value->Hp->Prop} (hw:w<=16) (k:R (I (ir w a)) h):mW #[I w,I a] h R:=by
 apply EK
 refine uf_ ?_
 refine aw w (fun i vs h'=>vs= [I w,I a,I (ir i a),I i]/\h'=h) ⟨rfl,rfl⟩ ?_
 rintro i _ _ next hi ⟨rfl,rfl⟩ hn
 refine⟨_,_,_,_,rfl,?_⟩
 by_cases hlt:i<w
 ·refine aK (by simp [hlt]) (iw (by omega) ⟨_,rfl,?_⟩)
  have hl:=Ie i a
  have e:W ((ir i a:Int)+(if a.testBit i then 1 else 0))=((ir (i+1) a:Nat):Int):=by
   rw [bU (by split<;>omega) (by split<;>omega)]
   simp only [ir]
   split<;>simp
  rw [e,aE (by omega)]
  exact hn hlt _ _ ⟨rfl,rfl⟩
 ·have:i=w:=by omega
  subst this
  exact aG (by simp) k
theorem Ip {a b:Nat} (ha:a<18446744073709551616) (hb:b<18446744073709551616):aU .and .u64 (a:Int) (b:Int)=((a&&&b:Nat):Int):=by
 show IntKind.u64.wrap _=_
 have h1:(BitVec.ofInt IntKind.u64.bits (a:Int)&&&BitVec.ofInt IntKind.u64.bits (b:Int)).toNat=a&&&b:=by
  show (BitVec.ofInt 64 (a:Int)&&&BitVec.ofInt 64 (b:Int)).toNat=a&&&b
  rw [BitVec.ofInt_natCast,BitVec.ofInt_natCast,BitVec.toNat_and,BitVec.toNat_ofNat,BitVec.toNat_ofNat,Nat.mod_eq_of_lt (by omega),Nat.mod_eq_of_lt (by omega)]
 rw [h1,IntKind.wrap_u64]
 have:=Nat.and_le_left (n:=a) (m:=b)
 omega
def RV (x:Nat):Nat:=(x/2&&&6148914691236517205)+(x&&&6148914691236517205)
def QO (x:Nat):Nat:=(x/4&&&3689348814741910323)+(x&&&3689348814741910323)
def RS (x:Nat):Nat:=(x/16+x)&&&1085102592571150095
def Q7 (x:Nat):Nat:=x/256+x
def PV (x:Nat):Nat:=x/65536+x
def Q3 (x:Nat):Nat:=x/4294967296+x
def EM (x:Nat):Nat:=Q3 (PV (Q7 (RS (QO (RV x)))))&&&127
def Lj (x:Nat):Bool:=Nat.beq (EM (2*x)) (EM x)&&Nat.beq (EM (2*x+1)) (EM x+1)
def I9 (hi:Nat):Nat->Bool
 |0=>true
 |n+1=>Lj (hi*256+n)&&I9 hi n
def L7 :Nat->Bool
 |0=>true
 |n+1=>I9 n 256&&L7 n
theorem SF :L7 128=true:=by kernel_rfl
theorem RJ {hi:Nat}: ∀n,I9 hi n=true-> ∀i,i<n->Lj (hi*256+i)=true:=by
 intro n
 induction n with
 |zero=>intro _ i h;omega
 |succ n ih=>
  intro h i hi
  simp only [I9,Bool.and_eq_true]at h
  by_cases e:i=n
  ·subst e;exact h.1
  ·exact ih h.2 i (by omega)
theorem Qy : ∀n,L7 n=true-> ∀i,i<n->I9 i 256=true:=by
 intro n
 induction n with
 |zero=>intro _ i h;omega
 |succ n ih=>
  intro h i hi
  simp only [L7,Bool.and_eq_true]at h
  by_cases e:i=n
  ·subst e;exact h.1
  ·exact ih h.2 i (by omega)
theorem RE {x:Nat} (h:x<32768):EM (2*x)=EM x/\EM (2*x+1)=EM x+1:=by
 have h1:=Qy 128 SF (x/256) (by omega)
 have h2:=RJ 256 h1 (x%256) (Nat.mod_lt _ (by omega))
 rw [show x/256*256+x%256=x by omega]at h2
 simp only [Lj,Bool.and_eq_true]at h2
 exact⟨Nat.eq_of_beq_eq_true h2.1,Nat.eq_of_beq_eq_true h2.2⟩
theorem JT (a:Nat): ∀w,ir (w+1) a=a%2+ir w (a/2):=by
 intro w
 induction w with
 |zero=>
  simp only [ir,Nat.testBit_zero]
  rcases Nat.mod_two_eq_zero_or_one a with h|h<;>simp [h]
 |succ w ih=>
  rw [ir,ih,ir,Nat.testBit_succ];omega
theorem S8 : ∀w,w<=16-> ∀x,x<2^w->EM x=ir w x:=by
 intro w
 induction w with
 |zero=>intro _ x hx;have:x=0:=by simpa using hx
        subst this;rfl
 |succ w ih=>
  intro hw x hx
  have h16:2^w<=32768:=by
   have:=Nat.pow_le_pow_right (n:=2) (by omega) (show w<=15 by omega)
   simpa using this
  have hp:2^(w+1)=2*2^w:=by rw [Nat.pow_succ];omega
  have h1:=ih (by omega) (x/2) (by omega)
  have h2:=RE (x:=x/2) (by omega)
  rw [JT,<-h1]
  rcases Nat.mod_two_eq_zero_or_one x with h|h
  ·have e:2*(x/2)=x:=by omega
   rw [e]at h2;rw [h2.1,h];omega
  ·have e:2*(x/2)+1=x:=by omega
   rw [e]at h2;rw [h2.2,h];omega
theorem F9 {a k:Nat} (hk:k<=64):Int.fdiv (a:Int) (2^(min (Int.toNat (k:Int)) (IntKind.bits .u64)))=((a/2^k:Nat):Int):=by
 have h1:min (Int.toNat (k:Int)) (IntKind.bits .u64)=k:=by simp [IntKind.bits];omega
 rw [h1,Int.fdiv_eq_ediv_of_nonneg _ (Int.pow_nonneg (by decide))]
 simp
def q1 (x:Int):Int:=IntKind.wrap .u64 ((aU .and .u64 (Int.fdiv x (2^(min (Int.toNat 1) (IntKind.bits .u64)))) 6148914691236517205)+(aU .and .u64 x 6148914691236517205))
def q2 (x:Int):Int:=IntKind.wrap .u64 ((aU .and .u64 (Int.fdiv x (2^(min (Int.toNat 2) (IntKind.bits .u64)))) 3689348814741910323)+(aU .and .u64 x 3689348814741910323))
def q3 (x:Int):Int:=aU .and .u64 (IntKind.wrap .u64 ((Int.fdiv x (2^(min (Int.toNat 4) (IntKind.bits .u64))))+x)) 1085102592571150095
def q4 (x:Int):Int:=IntKind.wrap .u64 (x+Int.fdiv x (2^(min (Int.toNat 8) (IntKind.bits .u64))))
def q5 (x:Int):Int:=IntKind.wrap .u64 (x+Int.fdiv x (2^(min (Int.toNat 16) (IntKind.bits .u64))))
def q6 (x:Int):Int:=IntKind.wrap .u64 (x+Int.fdiv x (2^(min (Int.toNat 32) (IntKind.bits .u64))))
theorem DQ {h:Hp} {a:Nat} {R:Value->Hp->Prop} (ha:a<65536) (k:R (I (ir 16 a)) h):i8 #[.int .u64 a] h R:=by
 apply tD
 refine uf_ ?_
 apply rO
 refine uf_ ?_
 refine⟨_,rfl,?_⟩
 have e1:q1 a=((RV a:Nat):Int):=by
  have l1:=Nat.and_le_left (n:=a/2) (m:=6148914691236517205)
  have l2:=Nat.and_le_left (n:=a) (m:=6148914691236517205)
  have:=F9 (a:=a) (k:=1) (by omega)
  unfold q1 RV
  rw [show (Int.toNat 1)=Int.toNat ((1:Nat):Int)from rfl,this,Nat.pow_one]
  rw [show (6148914691236517205:Int)=((6148914691236517205:Nat):Int)from rfl,Ip (by omega) (by omega),Ip (by omega) (by omega),<-Int.natCast_add,cA (by omega)]
 have b1:RV a<=98304:=by
  have l1:=Nat.and_le_left (n:=a/2) (m:=6148914691236517205)
  have l2:=Nat.and_le_left (n:=a) (m:=6148914691236517205)
  unfold RV;omega
 have e2: ∀x:Nat,x<=98304->q2 x=((QO x:Nat):Int)/\QO x<=196608:=by
  intro x hx
  have l1:=Nat.and_le_left (n:=x/4) (m:=3689348814741910323)
  have l2:=Nat.and_le_left (n:=x) (m:=3689348814741910323)
  have:=F9 (a:=x) (k:=2) (by omega)
  refine⟨?_,by unfold QO;omega⟩
  unfold q2 QO
  rw [show (Int.toNat 2)=Int.toNat ((2:Nat):Int)from rfl,this,show 2^2=4 from rfl]
  rw [show (3689348814741910323:Int)=((3689348814741910323:Nat):Int)from rfl,Ip (by omega) (by omega),Ip (by omega) (by omega),<-Int.natCast_add,cA (by omega)]
 have e3: ∀x:Nat,x<=196608->q3 x=((RS x:Nat):Int)/\RS x<=393216:=by
  intro x hx
  have l1:=Nat.and_le_left (n:=x/16+x) (m:=1085102592571150095)
  have:=F9 (a:=x) (k:=4) (by omega)
  refine⟨?_,by unfold RS;omega⟩
  unfold q3 RS
  rw [show (Int.toNat 4)=Int.toNat ((4:Nat):Int)from rfl,this,show 2^4=16 from rfl,<-Int.natCast_add,cA (by omega)]
  rw [show (1085102592571150095:Int)=((1085102592571150095:Nat):Int)from rfl,Ip (by omega) (by omega)]
 have e4: ∀x:Nat,x<=393216->q4 x=((Q7 x:Nat):Int)/\Q7 x<=786432:=by
  intro x hx
  have:=F9 (a:=x) (k:=8) (by omega)
  refine⟨?_,by unfold Q7;omega⟩
  unfold q4 Q7
  rw [show (Int.toNat 8)=Int.toNat ((8:Nat):Int)from rfl,this,show 2^8=256 from rfl,<-Int.natCast_add,cA (by omega),Nat.add_comm]
 have e5: ∀x:Nat,x<=786432->q5 x=((PV x:Nat):Int)/\PV x<=1572864:=by
  intro x hx
  have:=F9 (a:=x) (k:=16) (by omega)
  refine⟨?_,by unfold PV;omega⟩
  unfold q5 PV
  rw [show (Int.toNat 16)=Int.toNat ((16:Nat):Int)from rfl,this,show 2^16=65536 from rfl,<-Int.natCast_add,cA (by omega),Nat.add_comm]
 have e6: ∀x:Nat,x<=1572864->q6 x=((Q3 x:Nat):Int)/\Q3 x<=3145728:=by
  intro x hx
  have:=F9 (a:=x) (k:=32) (by omega)
  refine⟨?_,by unfold Q3;omega⟩
  unfold q6 Q3
  rw [show (Int.toNat 32)=Int.toNat ((32:Nat):Int)from rfl,this,show 2^32=4294967296 from rfl,<-Int.natCast_add,cA (by omega),Nat.add_comm]
 have b2:=(e2 _ b1).2
 have b3:=(e3 _ b2).2
 have b4:=(e4 _ b3).2
 have b5:=(e5 _ b4).2
 have b6:=(e6 _ b5).2
 show R (I (lH (W (q6 (q5 (q4 (q3 (q2 (q1 a))))))) 127)) h
 rw [e1,(e2 _ b1).1,(e3 _ b2).1,(e4 _ b3).1,(e5 _ b4).1,(e6 _ b5).1,ef (by omega),show (127:Int)=((127:Nat):Int)from rfl,pD (by omega) (by omega)]
 have:=S8 16 (by omega) a (by simpa using ha)
 unfold EM at this
 rw [this];exact k
theorem JN {w a:Nat} (ha:a<2^w): ∀d,ir (w+d) a=ir w a:=by
 intro d
 induction d with
 |zero=>rfl
 |succ d ih=>
  have hz:a.testBit (w+d)=false:=Nat.testBit_lt_two_pow (Nat.lt_of_lt_of_le ha (Nat.pow_le_pow_right (by omega) (by omega)))
  rw [<-Nat.add_assoc,ir,ih,hz]
  simp
theorem Q4 {h:Hp} {kind:Int} {w a:Nat} {R:Value->Hp->Prop} (hk:1<=kind/\kind<=5) (e:WO w a)
  (k:R (.tuple #[I (tU kind w a).1,I (tU kind w a).2]) h):xh #[I kind,I w,I a] h R:=by
 apply Lv
 refine uf_ ?_
 have h16:=e.pow
 have hp:=bk w
 have ha:=e.2
 have hw:=e.1
 unfold tU at k
 refine ad (fun e1=>?_) (fun e1=>ad (fun e2=>?_) (fun e2=>ad (fun e3=>?_) (fun e3=>ad (fun e4=>?_) (fun e4=>?_))))
 ·rw [if_pos (by simpa using e1)]at k
  refine dl (by omega) ⟨_,rfl,?_⟩
  have:W ((((2^w:Nat):Int)-1)-a)=((2^w-1-a:Nat):Int):=by rw [bU (by omega) (by omega)];omega
  rw [this];exact k
 ·rw [if_neg (by simpa using e1),if_pos (by simpa using e2)]at k
  refine dl (by omega) ⟨_,rfl,?_⟩
  rw [bU (n:=0-(a:Int)) (by omega) (by omega),fM (by omega),Int.zero_sub]
  exact k
 ·rw [if_neg (by simpa using e1),if_neg (by simpa using e2),if_pos (by simpa using e3)]at k
  refine ut ⟨_,rfl,?_⟩
  by_cases h0:a=0
  ·subst h0;simpa using k
  ·have:((a:Int) !=0)=true:=by simpa using h0
   rw [this];rw [if_neg h0]at k;simpa using k
 ·rw [if_neg (by simpa using e1),if_neg (by simpa using e2),if_neg (by simpa using e3),if_pos (by simpa using e4)]at k
  refine dl (by omega) ⟨_,rfl,ut ⟨_,rfl,?_⟩⟩
  by_cases h0:a=2^w-1
  ·have:((a:Int)==((2^w:Nat):Int)-1)=true:=by rw [beq_iff_eq];omega
   rw [this];rw [if_pos h0]at k;simpa using k
  ·have:((a:Int)==((2^w:Nat):Int)-1)=false:=by rw [beq_eq_false_iff_ne];omega
   rw [this];rw [if_neg h0]at k;simpa using k
 ·rw [if_neg (by simpa using e1),if_neg (by simpa using e2),if_neg (by simpa using e3),if_neg (by simpa using e4)]at k
  rw [cA (by omega)]
  refine DQ (by omega) ⟨_,rfl,?_⟩
  have:=JN ha (16-w)
  rw [show w+(16-w)=16 by omega]at this
  rw [this,C1];exact k
theorem yB {h:Hp} {kind:Int} {w a:Nat} {R:Value->Hp->Prop} (hk:1<=kind/\kind<=5) (e:WO w a)
  (k:R (.tuple #[I (tU kind w a).1,I (tU kind w a).2, .bool true]) h):lA #[I kind,I w,I a] h R:=by
 apply Ed
 refine uf_ ?_
 have h16:=e.pow
 have hp:=bk w
 have ha:=e.2
 have hw:=e.1
 unfold tU at k
 refine cg ⟨_,rfl,aG (by rw [e.ok];rfl) ?_⟩
 refine ad (fun e1=>?_) (fun e1=>ad (fun e2=>?_) (fun e2=>ad (fun e3=>?_) (fun e3=>ad (fun e4=>?_) (fun e4=>?_))))
 ·rw [if_pos (by simpa using e1)]at k
  rw [cA (by omega),if_neg (by omega),bV (by omega),bU (n:=((2^w:Nat):Int)-1) (by omega) (by omega)]
  have:W ((((2^w:Nat):Int)-1)-a)=((2^w-1-a:Nat):Int):=by rw [bU (by omega) (by omega)];omega
  rw [this];exact k
 ·rw [if_neg (by simpa using e1),if_pos (by simpa using e2)]at k
  rw [bU (n:=0-(a:Int)) (by omega) (by omega),Int.zero_sub]
  exact fJ hw ⟨_,rfl,k⟩
 ·rw [if_neg (by simpa using e1),if_neg (by simpa using e2),if_pos (by simpa using e3)]at k
  refine qf ⟨_,rfl,?_⟩
  by_cases h0:a=0
  ·subst h0;simpa using k
  ·have:decide ((a:Int)>0)=true:=by simp;omega
   rw [this];rw [if_neg h0]at k;simpa using k
 ·rw [if_neg (by simpa using e1),if_neg (by simpa using e2),if_neg (by simpa using e3),if_pos (by simpa using e4)]at k
  refine Ad (by omega) ⟨_,rfl,qf ⟨_,rfl,?_⟩⟩
  have hf:=Km ha
  by_cases h0:a=2^w-1
  ·have:(((ir w a:Nat):Int)==(w:Int))=true:=by rw [beq_iff_eq,hf.2 h0]
   rw [this];rw [if_pos h0]at k;simpa using k
  ·have:(((ir w a:Nat):Int)==(w:Int))=false:=by rw [beq_eq_false_iff_ne];intro he;exact h0 (hf.1 (by omega))
   rw [this];rw [if_neg h0]at k;simpa using k
 ·rw [if_neg (by simpa using e1),if_neg (by simpa using e2),if_neg (by simpa using e3),if_neg (by simpa using e4)]at k
  have:kind=5:=by
   have h1:kind≠1:=by simpa using e1
   have h2:kind≠2:=by simpa using e2
   have h3:kind≠3:=by simpa using e3
   have h4:kind≠4:=by simpa using e4
   omega
  refine aK (by simpa using this) (Ad (by omega) ⟨_,rfl,?_⟩)
  rw [C1];exact k
theorem eW (a b:Nat):Int.tmod (a:Int) (b:Int)=((a%b:Nat):Int):=(Int.ofNat_tmod a b).symm
theorem Ek (a b:Nat):Int.tdiv (a:Int) (b:Int)=((a/b:Nat):Int):=(Int.ofNat_tdiv a b).symm
theorem z8 {a b:Nat} (ha:a<65536) (hb:b<=65536):a*b<=4294967296:=by
 have:=Nat.mul_le_mul (Nat.le_of_lt ha) hb
 omega
theorem Af {w a:Nat} (e:WO w a): -65536<=sgn w a/\sgn w a<=65536:=by
 have h:=FT e.1.1 e.2
 have hp:=nR e.1.1
 have h16:=e.pow
 omega
theorem aW {a b:Int} (e:(a==b)=false): ¬a=b:=by simpa using e
theorem bL {a b:Int} (e:(a==b)=true):a=b:=by simpa using e
theorem Al {h:Hp} {w a p:Nat} {R:Value->Hp->Prop} (e:WO w a) (k:R (I (C3 w a (p%w))) h):nh #[I w,I a,I p] h R:=by
 apply EA
 refine uf_ ?_
 obtain⟨⟨h1,h2⟩,ha⟩:=e
 have h16:=wt h2
 have hm:p%w<w:=Nat.mod_lt _ (by omega)
 have hpm:=wt (w:=p%w) (by omega)
 have ht:Int.tmod (p:Int) (w:Int)=((p%w:Nat):Int):=eW p w
 have hw:W ((w:Int)-((p%w:Nat):Int))=((w-p%w:Nat):Int):=by rw [bU (by omega) (by omega)];omega
 have hmul:=z8 (a:=a) (b:=2^(p%w)) (by omega) hpm
 rw [if_neg (by omega),ht,if_neg (by omega),hw,if_neg (by omega)]
 refine dl (by omega) ⟨_,rfl,?_⟩
 have hd:a/2^(w-p%w)<=a:=Nat.div_le_self _ _
 rw [gz (by omega) (by omega),jt (by omega),xH (by omega) (by omega),fM (by omega),mF]
 exact k
theorem G7 {h:Hp} {kind:Int} {w a b:Nat} {R:Value->Hp->Prop} (hk:kind=14\/kind=15) (ea:WO w a) (eb:WO w b)
  (k:R (I ((if kind=14 then Fr w a b else Fo w a b:Nat):Int)) h):qk #[I kind,I w,I a,I b] h R:=by
 apply Cy
 refine uf_ ?_
 have h16:=ea.pow
 have hp:=bk w
 have sa:=Af ea
 have sb:=Af eb
 have hw:=ea.1
 refine ld ea ⟨_,rfl,ld eb ⟨_,rfl,?_⟩⟩
 unfold Fr Fo at k
 by_cases hy:sgn w b=0
 ·rw [if_pos hy,if_pos hy]at k
  rw [hy]
  refine ar (fun J=>J (decide (kind=15))) ?_ (fun J hJ=>aK rfl (by rw [show (kind==15)=decide (kind=15)from rfl];exact hJ))
  refine ad (fun e=>?_) (fun e=>?_)
  ·have e':kind=15:=by simpa using e
   rw [if_neg (by omega)]at k;exact k
  ·have e':kind=14:=by have: ¬kind=15:=by simpa using e
                       omega
   rw [if_pos e']at k
   refine ar (fun J=>J (decide (sgn w a<0))) ?_ (fun J hJ=>aK rfl hJ)
   refine ad (fun e=>?_) (fun e=>aK rfl (dl (by omega) ⟨_,rfl,?_⟩))
   ·rw [if_pos (by simpa using e)]at k;exact k
   ·rw [if_neg (by simpa using e)]at k
    have:((2^w-1:Nat):Int)=((2^w:Nat):Int)-1:=by omega
    rw [<-this];exact k
 ·rw [if_neg hy,if_neg hy]at k
  have hyb:(sgn w b==0)=false:=by simpa using hy
  refine ar (fun J=>J false) ?_ (fun J hJ=>aG hyb hJ)
  refine aG rfl (ar (fun J=>J false) ?_ (fun J hJ=>aG hyb hJ))
  refine aG rfl (aG hyb ?_)
  have hdiv:(Int.tdiv (sgn w a) (sgn w b)).natAbs<=65536:=by
   rw [Int.natAbs_tdiv]
   exact Nat.le_trans (Nat.div_le_self _ _) (by omega)
  refine ad (fun e=>?_) (fun e=>?_)
  ·rw [if_pos (by simpa using e)]at k
   rw [if_neg hy]
   refine dl (by omega) ⟨_,rfl,?_⟩
   rw [bU (by omega) (by omega),fM (by omega)];exact k
  ·rw [if_neg (by simpa using e)]at k
   rw [if_neg hy]
   refine dl (by omega) ⟨_,rfl,?_⟩
   rw [fM (by omega)];exact k
def zi (kind:Int) (w a b:Nat):Nat:=if kind=16 then Th w a b else if kind=17 then Tp w a b else TH w a b
theorem G9 {h:Hp} {kind:Int} {w a b:Nat} {R:Value->Hp->Prop} (ea:WO w a) (hb:b<=65536)
  (k:R (I (zi kind w a b)) h):pZ #[I kind,I w,I a,I b] h R:=by
 apply Cl
 refine uf_ ?_
 have h16:=ea.pow
 have ha:=ea.2
 have hw:=ea.1
 have hmin:(if(w:Int)<(b:Int)then(w:Int)else(b:Int))=((min b w:Nat):Int):=by
  by_cases h:w<b
  ·rw [if_pos (by omega),Nat.min_eq_right (by omega)]
  ·rw [if_neg (by omega),Nat.min_eq_left (by omega)]
 have hm:min b w<=w:=Nat.min_le_right _ _
 have hpm:=wt (w:=min b w) (by omega)
 have hmul:=z8 (a:=a) (b:=2^min b w) (by omega) hpm
 unfold zi at k
 rw [hmin]
 refine ad (fun e=>?_) (fun e=>ad (fun e2=>?_) (fun e2=>?_))
 ·rw [if_pos (bL e)]at k
  rw [if_neg (by omega)]
  refine dl (by omega) ⟨_,rfl,?_⟩
  rw [gz (by omega) (by omega),fM (by omega),mF];exact k
 ·rw [if_neg (aW e),if_pos (bL e2)]at k
  rw [if_neg (by omega),jt (by omega)];exact k
 ·rw [if_neg (aW e),if_neg (aW e2)]at k
  refine ld ea ⟨_,rfl,?_⟩
  rw [if_neg (by omega)]
  refine dl (by omega) ⟨_,rfl,?_⟩
  rw [Rx (by omega),fM (by omega)];exact k
theorem EF {h:Hp} {kind:Int} {w a b:Nat} {R:Value->Hp->Prop} (hk:21<=kind/\kind<=28) (ea:WO w a) (eb:WO w b)
  (k:R (.bool (AD kind w a b)) h):oG #[I kind,I w,I a,I b] h R:=by
 apply AQ
 refine uf_ ?_
 have h16:=ea.pow
 have hp:=bk w
 have sa:=Af ea
 have sb:=Af eb
 have ha:=ea.2
 have hb:=eb.2
 have hw:=ea.1
 unfold AD at k
 have dd: ∀{p q:Prop} [Decidable p] [Decidable q],(p↔q)->decide p=decide q:=fun h=>by rw [decide_eq_decide];exact h
 refine ld ea ⟨_,rfl,ld eb ⟨_,rfl,?_⟩⟩
 refine ad (fun e1=>?_) (fun e1=>ad (fun e2=>?_) (fun e2=>ad (fun e3=>?_) (fun e3=>ad (fun e4=>?_) (fun e4=>ad (fun e5=>?_) (fun e5=>ad (fun e6=>?_) (fun e6=>ad (fun e7=>?_) (fun e7=>?_)))))))
 ·rw [if_pos (bL e1)]at k
  have:((a:Int)==(b:Int))=decide (a=b):=by rw [Bool.eq_iff_iff];simp;omega
  rw [this];exact k
 all_goals rw [if_neg (aW e1)]at k
 ·rw [if_pos (bL e2)]at k
  rw [dd (p:=(a:Int)<(b:Int)) (q:=a<b) (by omega)];exact k
 all_goals rw [if_neg (aW e2)]at k
 ·rw [if_pos (bL e3)]at k;exact k
 all_goals rw [if_neg (aW e3)]at k
 ·rw [if_pos (bL e4)]at k
  rw [dd (p:=(a:Int)<=(b:Int)) (q:=a<=b) (by omega)];exact k
 all_goals rw [if_neg (aW e4)]at k
 ·rw [if_pos (bL e5)]at k;exact k
 all_goals rw [if_neg (aW e5)]at k
 ·rw [if_pos (bL e6)]at k
  refine dl (by omega) ⟨_,rfl,?_⟩
  rw [bU (by omega) (by omega),dd (p:=(a:Int)+(b:Int)>((2^w:Nat):Int)-1) (q:=2^w<=a+b) (by omega)];exact k
 all_goals rw [if_neg (aW e6)]at k
 ·rw [if_pos (bL e7)]at k
  have w1:W ((w:Int)-1)=((w-1:Nat):Int):=by rw [bU (by omega) (by omega)];omega
  have hpp:=nR hw.1
  rw [w1,if_neg (by omega),if_neg (by omega),QF (by omega),bV (by omega),bU (n:=sgn w a+sgn w b) (by omega) (by omega),bU (n:=((2^(w-1):Nat):Int)-1) (by omega) (by omega)]
  refine eV ⟨_,rfl,?_⟩
  rw [dd (p:= -((2^(w-1):Nat):Int)<=sgn w a+sgn w b/\sgn w a+sgn w b<=((2^(w-1):Nat):Int)-1) (q:= -((2^(w-1):Nat):Int)<=sgn w a+sgn w b/\sgn w a+sgn w b<((2^(w-1):Nat):Int)) (by omega)]
  exact k
 ·rw [if_neg (aW e7)]at k
  have hmul:=z8 (a:=a) (b:=b) (by omega) (by omega)
  have hmi:(a:Int)*(b:Int)=((a*b:Nat):Int):=(Int.natCast_mul _ _).symm
  refine dl (by omega) ⟨_,rfl,?_⟩
  rw [hmi]
  generalize a*b=ab at*
  rw [ef (by omega),dd (p:=(ab:Int)>((2^w:Nat):Int)-1) (q:=2^w<=ab) (by omega)];exact k
theorem Qv {h:Hp} {kind:Int} {w a b:Nat} {R:Value->Hp->Prop} (hk:6<=kind/\kind<=28) (ea:WO w a) (eb:WO w b)
  (k:R (.tuple #[I (pI kind w a b).1,I (pI kind w a b).2]) h):wU #[I kind,I w,I a,I b] h R:=by
 apply Ly
 refine uf_ ?_
 have h16:=ea.pow
 have hp:=bk w
 have ha:=ea.2
 have hb:=eb.2
 have hw:=ea.1
 have hand:a&&&b<=a:=Nat.and_le_left
 have hmul:=z8 (a:=a) (b:=b) (by omega) (by omega)
 by_cases h20:kind<=20
 rotate_left
 ·have t:pI kind w a b=(if AD kind w a b then 1 else 0,1):=by unfold pI;rw [if_neg h20]
  rw [t]at k
  have nb: ∀n:Int,n<=20->(kind==n)=false:=fun n hn=>by rw [beq_eq_false_iff_ne];omega
  refine aG (nb _ (by omega)) (aG (nb _ (by omega)) (aG (nb _ (by omega)) (aG (nb _ (by omega)) (aG (nb _ (by omega)) (aG (nb _ (by omega)) (aG (nb _ (by omega)) (aG (nb _ (by omega)) ?_)))))))
  refine ar (fun J=>J false) ?_ (fun J hJ=>aG (nb _ (by omega)) (by rw [nb 15 (by omega)];exact hJ))
  refine aG rfl (ar (fun J=>J false) ?_ (fun J hJ=>aG (nb _ (by omega)) (aG (nb _ (by omega)) (by rw [nb 18 (by omega)];exact hJ))))
  refine aG rfl (aG (nb _ (by omega)) (aG (nb _ (by omega)) ?_))
  refine EF (by omega) ea eb ⟨_,rfl,ut ⟨_,rfl,?_⟩⟩
  cases hs:AD kind w a b
  ·rw [hs]at k;simpa using k
  ·rw [hs]at k;simpa using k
 have t:pI kind w a b=(B9 kind w a b,w):=by unfold pI;rw [if_pos h20]
 rw [t]at k
 unfold B9 at k
 simp only at k
 refine ad (fun e=>?_) (fun e6=>?_)
 ·rw [if_pos (bL e)]at k;rw [pD (by omega) (by omega)];exact k
 rw [if_neg (aW e6)]at k
 refine ad (fun e=>?_) (fun e7=>?_)
 ·rw [if_pos (bL e)]at k;rw [xH (by omega) (by omega)];exact k
 rw [if_neg (aW e7)]at k
 refine ad (fun e=>?_) (fun e8=>?_)
 ·rw [if_pos (bL e)]at k;rw [Im (by omega) (by omega)];exact k
 rw [if_neg (aW e8)]at k
 refine ad (fun e=>?_) (fun e9=>?_)
 ·rw [if_pos (bL e)]at k
  refine dl (by omega) ⟨_,rfl,?_⟩
  rw [bU (by omega) (by omega),fM (by omega)];exact k
 rw [if_neg (aW e9)]at k
 refine ad (fun e=>?_) (fun e10=>?_)
 ·rw [if_pos (bL e)]at k
  refine dl (by omega) ⟨_,rfl,?_⟩
  rw [bU (by omega) (by omega),fM (by omega)];exact k
 rw [if_neg (aW e10)]at k
 refine ad (fun e=>?_) (fun e11=>?_)
 ·rw [if_pos (bL e)]at k
  refine dl (by omega) ⟨_,rfl,?_⟩
  have hmi:(a:Int)*(b:Int)=((a*b:Nat):Int):=(Int.natCast_mul _ _).symm
  rw [hmi]at k⊢
  generalize a*b=ab at*
  rw [ef (by omega),fM (by omega)];exact k
 rw [if_neg (aW e11)]at k
 refine ad (fun e=>?_) (fun e12=>?_)
 ·rw [if_pos (bL e)]at k
  refine dl (by omega) ⟨_,rfl,ad (fun eb0=>?_) (fun eb0=>?_)⟩
  ·have hb0: ¬b=0:=by have:=of_decide_eq_true eb0;omega
   rw [if_neg hb0]at k
   have hd:=Nat.div_le_self a b
   rw [if_neg (by omega),Ek,ef (by omega)];exact k
  ·have hb0:b=0:=by have:=of_decide_eq_false eb0;omega
   rw [if_pos hb0]at k
   have:((2^w-1:Nat):Int)=((2^w:Nat):Int)-1:=by omega
   rw [<-this];exact k
 rw [if_neg (aW e12)]at k
 refine ad (fun e=>?_) (fun e13=>?_)
 ·rw [if_pos (bL e)]at k
  refine ad (fun eb0=>?_) (fun eb0=>?_)
  ·have hb0: ¬b=0:=by have:=of_decide_eq_true eb0;omega
   rw [if_neg hb0]at k
   rw [if_neg (by omega),eW];exact k
  ·have hb0:b=0:=by have:=of_decide_eq_false eb0;omega
   rw [if_pos hb0]at k;exact k
 rw [if_neg (aW e13)]at k
 refine ar (fun J=>J (decide (kind=14\/kind=15))) ?_ ?_
 rotate_left
 ·intro J hJ
  refine ad (fun e=>?_) (fun e=>?_)
  ·rw [decide_eq_true (.inl (bL e))]at hJ;exact hJ
  ·have:(kind==15)=decide (kind=14\/kind=15):=by
    have:=aW e
    rw [Bool.eq_iff_iff];simp [this]
   rw [this];exact hJ
 refine ad (fun e=>?_) (fun e1415=>?_)
 ·have e':kind=14\/kind=15:=by simpa using e
  refine G7 e' ea eb ⟨_,rfl,?_⟩
  rcases e' with rfl|rfl
  ·simpa using k
  ·simpa using k
 have n14: ¬kind=14/\ ¬kind=15:=by simpa using e1415
 rw [if_neg n14.1,if_neg n14.2]at k
 refine ar (fun J=>J (decide (kind=16\/kind=17\/kind=18))) ?_ ?_
 rotate_left
 ·intro J hJ
  refine ad (fun e=>?_) (fun e=>ad (fun e2=>?_) (fun e2=>?_))
  ·rw [decide_eq_true (.inl (bL e))]at hJ;exact hJ
  ·rw [decide_eq_true (.inr (.inl (bL e2)))]at hJ;exact hJ
  ·have:(kind==18)=decide (kind=16\/kind=17\/kind=18):=by
    have h1:=aW e
    have h2:=aW e2
    rw [Bool.eq_iff_iff];simp [h1,h2]
   rw [this];exact hJ
 refine ad (fun e=>?_) (fun e1618=>?_)
 ·have e':kind=16\/kind=17\/kind=18:=by simpa using e
  refine G9 ea (by omega) ⟨_,rfl,?_⟩
  unfold zi
  rcases e' with rfl|rfl|rfl
  ·simpa using k
  ·simpa using k
  ·simpa using k
 have n16: ¬kind=16/\ ¬kind=17/\ ¬kind=18:=by simpa using e1618
 rw [if_neg n16.1,if_neg n16.2.1,if_neg n16.2.2]at k
 refine ad (fun e=>?_) (fun e19=>?_)
 ·rw [if_pos (bL e)]at k
  exact Al ea ⟨_,rfl,k⟩
 rw [if_neg (aW e19)]at k
 have h20':kind=20:=by
  have:=aW e6;have:=aW e7;have:=aW e8;have:=aW e9;have:=aW e10;have:=aW e11;have:=aW e12;have:=aW e13;have:=aW e19
  omega
 refine aK (by simpa using h20') ?_
 have hm:b%w<w:=Nat.mod_lt _ (by omega)
 have hw2:W ((w:Int)-((b%w:Nat):Int))=((w-b%w:Nat):Int):=by rw [bU (by omega) (by omega)];omega
 rw [if_neg (by omega),eW,hw2]
 exact Al ea ⟨_,rfl,k⟩
def D8 (kind:Int) (x y:Bool):Bool:=if kind=8 then x^^y else if kind=7 then x||y else x&&y
theorem Hr {c:Bool} {n:Nat} (hn:n<=62):aq (if c then 1 else 0) (n:Int)=((if c then 2^n else 0:Nat):Int):=by
 cases c
 ·have:=gz (a:=0) (n:=n) (by omega) (by omega);simpa using this
 ·have:=bV hn;simpa using this
theorem Fw {i:Nat} {f:Nat->Bool} {c:Bool} (hi:i<=60) (hc:c=f i):W ((cC i f:Int)+((if c then 2^i else 0:Nat):Int))=((cC (i+1) f:Nat):Int):=by
 have h1:=pv i f
 have h2:=kL (n:=i) (by omega)
 subst hc
 simp only [cC]
 rw [bU (by split<;>omega) (by split<;>omega)]
 omega
theorem IT {h:Hp} {kind:Int} {w a b:Nat} {R:Value->Hp->Prop} (hw:w<=16)
  (k:R (I (cC w fun i=>D8 kind (a.testBit i) (b.testBit i))) h):qR #[I kind,I w,I a,I b] h R:=by
 apply EB
 refine uf_ ?_
 refine aw w (fun i vs h'=>vs= [I kind,I w,I a,I b,I (cC i fun i=>D8 kind (a.testBit i) (b.testBit i)),I i]/\h'=h) ⟨rfl,rfl⟩ ?_
 rintro i _ _ next hi ⟨rfl,rfl⟩ hn
 refine⟨_,_,_,_,_,_,rfl,?_⟩
 by_cases hlt:i<w
 ·refine aK (by simp [hlt]) (iw (by omega) ⟨_,rfl,iw (by omega) ⟨_,rfl,?_⟩⟩)
  have hn':=hn hlt _ _ ⟨rfl,rfl⟩
  generalize hx:a.testBit i=x at*
  generalize hy:b.testBit i=y at*
  refine ar (fun J=>J (if kind=7 then(if x||y then 1 else 0)else(if x&&y then 1 else 0))) ?_ ?_
  ·refine ar (fun J=>J (if D8 kind x y then 1 else 0)) ?_ ?_
   ·rw [cA (by omega),if_neg (by omega),Hr (by omega),Fw (by omega) (by rw [hx,hy]),aE (by omega)]
    exact hn'
   ·intro J hJ
    refine ad (fun e=>?_) (fun e=>?_)
    ·have:D8 kind x y=(x^^y):=by unfold D8;rw [if_pos (bL e)]
     rw [this]at hJ
     revert hJ;cases x<;>cases y<;>exact id
    ·have:D8 kind x y=if kind=7 then x||y else x&&y:=by unfold D8;rw [if_neg (aW e)]
     rw [this]at hJ
     by_cases h7:kind=7
     ·rw [if_pos h7]at hJ⊢;exact hJ
     ·rw [if_neg h7]at hJ⊢;exact hJ
  ·intro J hJ
   refine ad (fun e=>?_) (fun e=>?_)
   ·rw [if_pos (bL e)]at hJ
    revert hJ;cases x<;>cases y<;>exact id
   ·rw [if_neg (aW e)]at hJ
    revert hJ;cases x<;>cases y<;>exact id
 ·have:i=w:=by omega
  subst this
  exact aG (by simp) k
theorem Kq {h:Hp} {kind:Int} {w a b:Nat} {R:Value->Hp->Prop} (ea:WO w a) (eb:WO w b)
  (k:R (I ((if kind=12 then(if b=0 then 2^w-1 else a/b)else if b=0 then a else a%b:Nat))) h):sG #[I kind,I w,I a,I b] h R:=by
 apply G5
 refine uf_ ?_
 have h16:=ea.pow
 have hp:=bk w
 have ha:=ea.2
 have hw:=ea.1
 refine ad (fun e=>?_) (fun e=>?_)
 ·rw [if_pos (bL e)]at k
  refine ad (fun e0=>?_) (fun e0=>?_)
  ·have hb0:b=0:=by have:=bL e0;omega
   rw [if_pos hb0]at k
   rw [cA (by omega),if_neg (by omega),bV (by omega),bU (by omega) (by omega)]
   have:((2^w-1:Nat):Int)=((2^w:Nat):Int)-1:=by omega
   rw [<-this];exact k
  ·have hb0: ¬b=0:=by have:=aW e0;omega
   rw [if_neg hb0]at k
   have hd:=Nat.div_le_self a b
   rw [if_neg (by omega),Ek,ef (by omega)];exact k
 ·rw [if_neg (aW e)]at k
  refine ad (fun e0=>?_) (fun e0=>?_)
  ·have hb0:b=0:=by have:=bL e0;omega
   rw [if_pos hb0]at k;exact k
  ·have hb0: ¬b=0:=by have:=aW e0;omega
   rw [if_neg hb0]at k
   rw [if_neg (by omega),eW];exact k
theorem IX {h:Hp} {kind:Int} {w a b:Nat} {R:Value->Hp->Prop} (hk:kind=14\/kind=15) (ea:WO w a) (eb:WO w b)
  (k:R (I ((if kind=14 then Fr w a b else Fo w a b:Nat):Int)) h):qX #[I kind,I w,I a,I b] h R:=by
 apply Fl
 refine uf_ ?_
 have h16:=ea.pow
 have hp:=bk w
 have sa:=Af ea
 have sb:=Af eb
 have hw:=ea.1
 refine gu ea ⟨_,rfl,gu eb ⟨_,rfl,?_⟩⟩
 unfold Fr Fo at k
 refine ad (fun e=>?_) (fun e=>?_)
 ·have e':=bL e
  rw [if_neg (by omega)]at k
  refine ad (fun e0=>?_) (fun e0=>?_)
  ·rw [if_pos (bL e0)]at k;exact k
  ·rw [if_neg (aW e0)]at k
   rw [if_neg (aW e0)]
   exact fJ hw ⟨_,rfl,k⟩
 ·have e':kind=14:=by have:=aW e;omega
  rw [if_pos e']at k
  by_cases hy:sgn w b=0
  ·rw [if_pos hy]at k
   have hyb:(sgn w b==0)=true:=by simpa using hy
   refine ar (fun J=>J (decide (sgn w a<0))) ?_ (fun J hJ=>aK hyb hJ)
   refine ad (fun e=>?_) (fun e=>aK hyb ?_)
   ·rw [if_pos (of_decide_eq_true e)]at k;exact k
   ·rw [if_neg (of_decide_eq_false e)]at k
    rw [cA (by omega),if_neg (by omega),bV (by omega),bU (by omega) (by omega)]
    have:((2^w-1:Nat):Int)=((2^w:Nat):Int)-1:=by omega
    rw [<-this];exact k
  ·rw [if_neg hy]at k
   have hyb:(sgn w b==0)=false:=by simpa using hy
   refine ar (fun J=>J false) ?_ (fun J hJ=>aG hyb hJ)
   refine aG rfl (aG hyb ?_)
   have hdiv:(Int.tdiv (sgn w a) (sgn w b)).natAbs<=65536:=by
    rw [Int.natAbs_tdiv]
    exact Nat.le_trans (Nat.div_le_self _ _) (by omega)
   rw [if_neg hy,bU (by omega) (by omega)]
   exact fJ hw ⟨_,rfl,k⟩
theorem Gw {h:Hp} {kind:Int} {w a b:Nat} {R:Value->Hp->Prop} (hk:kind=16\/kind=17\/kind=18) (ea:WO w a) (hb:b<=65536)
  (k:R (I (zi kind w a b)) h):lO #[I kind,I w,I a,I b] h R:=by
 have hw:=ea.1
 have key: ∀f:Nat->Bool,cC w f=zi kind w a b->
   (∀i,i<w->f i=if kind=16 then decide (b<=i)&&a.testBit (i-b)else if kind=17 then decide (i+b<w)&&a.testBit (i+b)else if i+b<w then a.testBit (i+b)else a.testBit (w-1))->
   lO #[I kind,I w,I a,I b] h R:=by
  intro f hcode hf
  apply DE
  refine uf_ ?_
  refine aw w (fun i vs h'=>vs= [I kind,I w,I a,I b,I (cC i f),I i]/\h'=h) ⟨rfl,rfl⟩ ?_
  rintro i _ h' next hi ⟨rfl,rfl⟩ hn
  refine⟨_,_,_,_,_,_,rfl,?_⟩
  by_cases hlt:i<w
  ·refine aK (by simp [hlt]) ?_
   have hn':=hn hlt _ _ ⟨rfl,rfl⟩
   have hfi:=hf i hlt
   refine ar (fun J=>J (if kind=16 then(i:Int)-b else(i:Int)+b)) ?_ ?_
   ·refine ar (fun J=>J (decide (0<=(if kind=16 then(i:Int)-b else(i:Int)+b)/\(if kind=16 then(i:Int)-b else(i:Int)+b)<w))) ?_ ?_
    ·refine ar (fun J=>J (if f i then 1 else 0) h') ?_ ?_
     ·rw [cA (by omega),if_neg (by omega),Hr (by omega),Fw (by omega) rfl,aE (by omega)]
      exact hn'
     ·intro J hJ
      refine ad (fun e=>?_) (fun e=>?_)
      ·have e':=of_decide_eq_true e
       by_cases h16:kind=16
       ·rw [if_pos h16]at e' hfi⊢
        rw [show (i:Int)-b=((i-b:Nat):Int) by omega]
        refine iw (by omega) ⟨_,rfl,?_⟩
        rw [hfi]at hJ
        have:decide (b<=i)=true:=by simp;omega
        rw [this,Bool.true_and]at hJ;exact hJ
       ·rw [if_neg h16]at e' hfi⊢
        rw [show (i:Int)+b=((i+b:Nat):Int) by omega]
        refine iw (by omega) ⟨_,rfl,?_⟩
        have h1:decide (i+b<w)=true:=by simp;omega
        rw [h1,Bool.true_and,if_pos (show i+b<w by omega),ite_self]at hfi
        rw [hfi]at hJ;exact hJ
      ·have e':=of_decide_eq_false e
       refine ad (fun e2=>?_) (fun e2=>?_)
       ·have h18:=bL e2
        rw [if_neg (by omega)]at e'
        rw [if_neg (by omega),if_neg (by omega),if_neg (by omega)]at hfi
        rw [show W ((w:Int)-1)=((w-1:Nat):Int) by rw [bU (by omega) (by omega)];omega]
        refine iw (by omega) ⟨_,rfl,?_⟩
        rw [hfi]at hJ;exact hJ
       ·have h18:=aW e2
        have:f i=false:=by
         rw [hfi]
         by_cases h16:kind=16
         ·rw [if_pos h16]at e'⊢
          have:decide (b<=i)=false:=by simp;omega
          rw [this,Bool.false_and]
         ·rw [if_neg h16]at e'⊢
          rw [if_pos (by omega)]
          have:decide (i+b<w)=false:=by simp;omega
          rw [this,Bool.false_and]
        rw [this]at hJ
        exact hJ
    ·intro J hJ
     generalize (if kind=16 then(i:Int)-b else(i:Int)+b)=z at*
     refine ad (fun e=>?_) (fun e=>?_)
     ·have:0<=z:=of_decide_eq_true e
      rw [show decide (0<=z/\z<(w:Int))=decide (z<(w:Int)) by rw [decide_eq_decide];omega]at hJ;exact hJ
     ·have: ¬0<=z:=of_decide_eq_false e
      rw [show decide (0<=z/\z<(w:Int))=false by rw [decide_eq_false_iff_not];omega]at hJ;exact hJ
   ·intro J hJ
    refine ad (fun e=>?_) (fun e=>?_)
    ·rw [if_pos (bL e)]at hJ;rw [bU (by omega) (by omega)];exact hJ
    ·rw [if_neg (aW e)]at hJ;rw [bU (by omega) (by omega)];exact hJ
  ·have:i=w:=by omega
   subst this
   refine aG (by simp) ?_
   rw [hcode];exact k
 rcases hk with rfl|rfl|rfl
 ·exact key (fun i=>decide (b<=i)&&a.testBit (i-b)) Qc (fun i _=>rfl)
 ·exact key (fun i=>decide (i+b<w)&&a.testBit (i+b)) (Rq ea.2) (fun i _=>rfl)
 ·exact key (fun i=>if i+b<w then a.testBit (i+b)else a.testBit (w-1)) (Qu hw.1 hw.2 ea.2) (fun i _=>rfl)
theorem Jo {h:Hp} {kind:Int} {w a b:Nat} {R:Value->Hp->Prop} (hk:kind=19\/kind=20) (ea:WO w a)
  (k:R (I ((if kind=19 then C3 w a (b%w)else C3 w a ((w-b%w)%w):Nat))) h):nf #[I kind,I w,I a,I b] h R:=by
 have hw:=ea.1
 have hm:b%w<w:=Nat.mod_lt _ (by omega)
 have key: ∀s:Nat,s<w->R (I (C3 w a s)) h->(∀i,i<w->(if kind=20 then(i+w-b%w)%w else(i+b%w)%w)=(i+s)%w)->
   nf #[I kind,I w,I a,I b] h R:=by
  intro s hs k hto
  apply Fg
  refine uf_ ?_
  refine aw w (fun i vs h'=>vs= [I kind,I w,I a,I b,I (cC w fun j=>decide ((j+(w-s))%w<i)&&a.testBit ((j+(w-s))%w)),I i]/\h'=h) ⟨?_,rfl⟩ ?_
  ·have:cC w (fun j=>decide ((j+(w-s))%w<0)&&a.testBit ((j+(w-s))%w))=0:=
    ie (bk w) fun i _=>by simp
   rw [this];rfl
  rintro i _ h' next hi ⟨rfl,rfl⟩ hn
  refine⟨_,_,_,_,_,_,rfl,?_⟩
  by_cases hlt:i<w
  ·refine aK (by simp [hlt]) ?_
   have hn':=hn hlt _ _ ⟨rfl,rfl⟩
   have hst:=MM (a:=a) hs hlt
   have hto:=hto i hlt
   rw [if_neg (by omega),eW]
   have hpw:(i+s)%w<w:=Nat.mod_lt _ (by omega)
   refine ar (fun J=>J ((if kind=20 then i+w-b%w else i+b%w:Nat):Int)) ?_ ?_
   ·have ht:Int.tmod ((if kind=20 then i+w-b%w else i+b%w:Nat):Int) (w:Int)=(((i+s)%w:Nat):Int):=by
     rw [eW,<-hto]
     split<;>rfl
    rw [if_neg (by omega),ht,cA (by omega)]
    have step:W ((cC w (fun j=>decide ((j+(w-s))%w<i)&&a.testBit ((j+(w-s))%w)):Int)+aq (if a.testBit i then 1 else 0) (((i+s)%w:Nat):Int))=
      ((cC w (fun j=>decide ((j+(w-s))%w<i+1)&&a.testBit ((j+(w-s))%w)):Nat):Int):=by
     rw [Hr (by omega),<-hst,<-Int.natCast_add,ef]
     rw [hst]
     have:=pv w (fun j=>decide ((j+(w-s))%w<i+1)&&a.testBit ((j+(w-s))%w))
     have:=wt hw.2
     omega
    have one:dF #[I a,I i] h' fun v25 h26=> ∃(x27:Int),v25=(I x27)/\(if(((i+s)%w:Nat):Int)<0 then False else next [I kind,I w,I a,I b,I (W ((cC w (fun j=>decide ((j+(w-s))%w<i)&&a.testBit ((j+(w-s))%w)):Int)+aq x27 (((i+s)%w:Nat):Int))),I (W ((i:Int)+1))] h26):=by
     refine iw (by omega) ⟨_,rfl,?_⟩
     rw [if_neg (by omega),step,aE (by omega)]
     exact hn'
    exact⟨one,one⟩
   ·intro J hJ
    refine ad (fun e=>?_) (fun e=>?_)
    ·rw [if_pos (bL e)]at hJ
     rw [if_neg (by omega)]
     have:W (W ((i:Int)+w)-((b%w:Nat):Int))=((i+w-b%w:Nat):Int):=by rw [bU (n:=(i:Int)+w) (by omega) (by omega),bU (by omega) (by omega)];omega
     rw [this];exact hJ
    ·rw [if_neg (aW e)]at hJ
     have:W ((i:Int)+((b%w:Nat):Int))=((i+b%w:Nat):Int):=by rw [bU (by omega) (by omega)];omega
     rw [this];exact hJ
  ·have:i=w:=by omega
   subst this
   refine aG (by simp) ?_
   have:cC i (fun j=>decide ((j+(i-s))%i<i)&&a.testBit ((j+(i-s))%i))=C3 i a s:=by
    rw [<-Qd ea.2 hs]
    refine qd fun j _=>?_
    have:decide ((j+(i-s))%i<i)=true:=by
     rw [decide_eq_true_eq];exact Nat.mod_lt _ (by omega)
    rw [this,Bool.true_and]
   rw [this];exact k
 rcases hk with rfl|rfl
 ·refine key (b%w) hm k fun i _=>?_
  rw [if_neg (by omega)]
 ·rw [if_neg (by omega)]at k
  refine key ((w-b%w)%w) (Nat.mod_lt _ (by omega)) k fun i _=>?_
  rw [if_pos rfl,Nat.add_mod_mod]
  congr 1
  omega
theorem vp {b:Bool} {R:Value->Hp->Prop} {h:Hp} {c:Bool} (e:b=c) (k:R (.tuple #[.bool c, .bool true]) h):R (.tuple #[.bool b, .bool true]) h:=by rw [e];exact k
theorem H3 {h:Hp} {kind:Int} {w a b:Nat} {R:Value->Hp->Prop} (ea:WO w a) (eb:WO w b)
  (k1:21<=kind/\kind<=28->R (.tuple #[.bool (AD kind w a b), .bool true]) h)
  (k2: ¬(21<=kind/\kind<=28)->R (.tuple #[.bool false, .bool false]) h):qQ #[I kind,I w,I a,I b] h R:=by
 apply EY
 refine uf_ ?_
 have h16:=ea.pow
 have hp:=bk w
 have sa:=Af ea
 have sb:=Af eb
 have ha:=ea.2
 have hb:=eb.2
 have hw:=ea.1
 have dd: ∀{p q:Prop} [Decidable p] [Decidable q],(p↔q)->decide p=decide q:=fun h=>by rw [decide_eq_decide];exact h
 refine gu ea ⟨_,rfl,gu eb ⟨_,rfl,?_⟩⟩
 refine ad (fun e=>?_) (fun e1=>?_)
 ·have e:=bL e
  subst e
  refine vp ?_ (k1 (by omega))
  show _=decide (a=b)
  rw [Bool.eq_iff_iff];simp;omega
 refine ad (fun e=>?_) (fun e2=>?_)
 ·have e:=bL e
  subst e
  exact vp (dd (by omega)) (k1 (by omega))
 refine ad (fun e=>?_) (fun e3=>?_)
 ·have e:=bL e
  subst e
  exact k1 (by omega)
 refine ad (fun e=>?_) (fun e4=>?_)
 ·have e:=bL e
  subst e
  exact vp (dd (by omega)) (k1 (by omega))
 refine ad (fun e=>?_) (fun e5=>?_)
 ·have e:=bL e
  subst e
  exact k1 (by omega)
 refine ad (fun e=>?_) (fun e6=>?_)
 ·have e:=bL e
  subst e
  have hab:W ((a:Int)+b)=((a+b:Nat):Int):=by rw [bU (by omega) (by omega)];omega
  rw [hab]
  refine cg ⟨_,rfl,?_⟩
  refine vp ?_ (k1 (by omega))
  show _=decide (2^w<=a+b)
  rw [Bool.eq_iff_iff]
  have:=iy (w:=(w:Int)) (v:=((a+b:Nat):Int))
  rw [Int.toNat_natCast]at this
  simp only [Bool.not_eq_true',decide_eq_true_eq,<-Bool.not_eq_true,this]
  omega
 refine ad (fun e=>?_) (fun e7=>?_)
 ·have e:=bL e
  subst e
  rw [bU (by omega) (by omega)]
  refine fJ hw ⟨_,rfl,gu ⟨hw,hO _ _⟩ ⟨_,rfl,?_⟩⟩
  refine vp ?_ (k1 (by omega))
  show _= !decide (-((2^(w-1):Nat):Int)<=sgn w a+sgn w b/\sgn w a+sgn w b<((2^(w-1):Nat):Int))
  have:=Wc (a:=a) (b:=b) hw.1
  rw [Bool.eq_iff_iff,bne_iff_ne,this,Bool.not_eq_true',decide_eq_false_iff_not]
 refine ad (fun e=>?_) (fun e8=>?_)
 ·have e:=bL e
  subst e
  have hmul:=z8 (a:=a) (b:=b) (by omega) (by omega)
  have hmi:(a:Int)*(b:Int)=((a*b:Nat):Int):=(Int.natCast_mul _ _).symm
  rw [hmi,ef (by omega)]
  refine cg ⟨_,rfl,?_⟩
  refine vp ?_ (k1 (by omega))
  show _=decide (2^w<=a*b)
  rw [Bool.eq_iff_iff]
  have:=iy (w:=(w:Int)) (v:=((a*b:Nat):Int))
  rw [Int.toNat_natCast]at this
  simp only [Bool.not_eq_true',decide_eq_true_eq,<-Bool.not_eq_true,this]
  generalize a*b=ab at*
  omega
 ·have:=aW e1;have:=aW e2;have:=aW e3;have:=aW e4;have:=aW e5;have:=aW e6;have:=aW e7;have:=aW e8
  exact k2 (by omega)
theorem xW {h:Hp} {kind:Int} {w a b:Nat} {R:Value->Hp->Prop} (hk:6<=kind/\kind<=28) (ea:WO w a) (eb:WO w b)
  (k:R (.tuple #[I (pI kind w a b).1,I (pI kind w a b).2, .bool true]) h):mq #[I kind,I w,I a,I b] h R:=by
 apply Em
 refine uf_ ?_
 have h16:=ea.pow
 have hp:=bk w
 have ha:=ea.2
 have hb:=eb.2
 have hw:=ea.1
 have hmul:=z8 (a:=a) (b:=b) (by omega) (by omega)
 refine ar (fun J=>J false h) ?_ (fun J hJ=>cg ⟨_,rfl,aG (by rw [ea.ok];rfl) (cg ⟨_,rfl,by rw [eb.ok];exact hJ⟩)⟩)
 refine aG rfl (H3 ea eb (fun h21=>⟨_,_,rfl,aK rfl (qf ⟨_,rfl,?_⟩)⟩) (fun h21=>⟨_,_,rfl,aG rfl ?_⟩))
 ·have t:pI kind w a b=(if AD kind w a b then 1 else 0,1):=by unfold pI;rw [if_neg (by omega)]
  rw [t]at k
  cases hs:AD kind w a b
  ·rw [hs]at k;simpa using k
  ·rw [hs]at k;simpa using k
 have t:pI kind w a b=(B9 kind w a b,w):=by unfold pI;rw [if_pos (by omega)]
 rw [t]at k
 unfold B9 at k
 simp only at k
 refine ar (fun J=>J (decide (kind=6\/kind=7\/kind=8))) ?_ ?_
 rotate_left
 ·intro J hJ
  refine ad (fun e=>?_) (fun e=>ad (fun e2=>?_) (fun e2=>?_))
  ·rw [decide_eq_true (.inl (bL e))]at hJ;exact hJ
  ·rw [decide_eq_true (.inr (.inl (bL e2)))]at hJ;exact hJ
  ·have:(kind==8)=decide (kind=6\/kind=7\/kind=8):=by
    have h1:=aW e
    have h2:=aW e2
    rw [Bool.eq_iff_iff];simp [h1,h2]
   rw [this];exact hJ
 refine ad (fun e=>?_) (fun e678=>?_)
 ·have e':kind=6\/kind=7\/kind=8:=by simpa using e
  refine IT hw.2 ⟨_,rfl,?_⟩
  rcases e' with rfl|rfl|rfl
  ·rw [if_pos rfl,<-Dh ha]at k;exact k
  ·rw [if_neg (by decide),if_pos rfl,<-MD ha hb]at k;exact k
  ·rw [if_neg (by decide),if_neg (by decide),if_pos rfl,<-Py ha hb]at k;exact k
 have n6: ¬kind=6/\ ¬kind=7/\ ¬kind=8:=by simpa using e678
 rw [if_neg n6.1,if_neg n6.2.1,if_neg n6.2.2]at k
 refine ad (fun e=>?_) (fun e9=>?_)
 ·rw [if_pos (bL e)]at k
  rw [bU (by omega) (by omega)]
  exact fJ hw ⟨_,rfl,k⟩
 rw [if_neg (aW e9)]at k
 refine ad (fun e=>?_) (fun e10=>?_)
 ·rw [if_pos (bL e)]at k
  rw [bU (by omega) (by omega)]
  exact fJ hw ⟨_,rfl,k⟩
 rw [if_neg (aW e10)]at k
 refine ad (fun e=>?_) (fun e11=>?_)
 ·rw [if_pos (bL e)]at k
  have hmi:(a:Int)*(b:Int)=((a*b:Nat):Int):=(Int.natCast_mul _ _).symm
  rw [hmi]at k⊢
  generalize a*b=ab at*
  rw [ef (by omega)]
  exact fJ hw ⟨_,rfl,k⟩
 rw [if_neg (aW e11)]at k
 refine ar (fun J=>J (decide (kind=12\/kind=13))) ?_ ?_
 rotate_left
 ·intro J hJ
  refine ad (fun e=>?_) (fun e=>?_)
  ·rw [decide_eq_true (.inl (bL e))]at hJ;exact hJ
  ·have:(kind==13)=decide (kind=12\/kind=13):=by
    have:=aW e
    rw [Bool.eq_iff_iff];simp [this]
   rw [this];exact hJ
 refine ad (fun e=>?_) (fun e1213=>?_)
 ·have e':kind=12\/kind=13:=by simpa using e
  refine Kq ea eb ⟨_,rfl,?_⟩
  rcases e' with rfl|rfl
  ·simpa using k
  ·simpa using k
 have n12: ¬kind=12/\ ¬kind=13:=by simpa using e1213
 rw [if_neg n12.1,if_neg n12.2]at k
 refine ar (fun J=>J (decide (kind=14\/kind=15))) ?_ ?_
 rotate_left
 ·intro J hJ
  refine ad (fun e=>?_) (fun e=>?_)
  ·rw [decide_eq_true (.inl (bL e))]at hJ;exact hJ
  ·have:(kind==15)=decide (kind=14\/kind=15):=by
    have:=aW e
    rw [Bool.eq_iff_iff];simp [this]
   rw [this];exact hJ
 refine ad (fun e=>?_) (fun e1415=>?_)
 ·have e':kind=14\/kind=15:=by simpa using e
  refine IX e' ea eb ⟨_,rfl,?_⟩
  rcases e' with rfl|rfl
  ·simpa using k
  ·simpa using k
 have n14: ¬kind=14/\ ¬kind=15:=by simpa using e1415
 rw [if_neg n14.1,if_neg n14.2]at k
 refine ar (fun J=>J (decide (kind=16\/kind=17\/kind=18))) ?_ ?_
 rotate_left
 ·intro J hJ
  refine ad (fun e=>?_) (fun e=>ad (fun e2=>?_) (fun e2=>?_))
  ·rw [decide_eq_true (.inl (bL e))]at hJ;exact hJ
  ·rw [decide_eq_true (.inr (.inl (bL e2)))]at hJ;exact hJ
  ·have:(kind==18)=decide (kind=16\/kind=17\/kind=18):=by
    have h1:=aW e
    have h2:=aW e2
    rw [Bool.eq_iff_iff];simp [h1,h2]
   rw [this];exact hJ
 refine ad (fun e=>?_) (fun e1618=>?_)
 ·have e':kind=16\/kind=17\/kind=18:=by simpa using e
  refine Gw e' ea (by omega) ⟨_,rfl,?_⟩
  unfold zi
  rcases e' with rfl|rfl|rfl
  ·simpa using k
  ·simpa using k
  ·simpa using k
 have n16: ¬kind=16/\ ¬kind=17/\ ¬kind=18:=by simpa using e1618
 rw [if_neg n16.1,if_neg n16.2.1,if_neg n16.2.2]at k
 have h1920:kind=19\/kind=20:=by
  have:=aW e9;have:=aW e10;have:=aW e11
  omega
 refine ar (fun J=>J true) ?_ ?_
 rotate_left
 ·intro J hJ
  refine ad (fun e=>hJ) (fun e=>?_)
  have:(kind==20)=true:=by
   have:=aW e
   rw [beq_iff_eq];omega
  rw [this];exact hJ
 refine aK rfl (Jo h1920 ea ⟨_,rfl,k⟩)
theorem QK {w a more:Nat} {sign:Bool} (e:WO w a):Eb w a more sign<2^(w+more):=by
 unfold Eb
 cases sign
 ·have:=e.2
  have:2^w<=2^(w+more):=Nat.pow_le_pow_right (by omega) (by omega)
  rw [if_neg (by decide)];omega
 ·exact hO _ _
theorem Oh {h:Hp} {w a more:Nat} {s:Bool} {R:Value->Hp->Prop} (e:WO w a) (hm:w+more<=16)
  (k:R (I (Eb w a more s)) h):uj #[I w,I a,I more, .bool s] h R:=by
 apply Iq
 refine uf_ ?_
 unfold Eb at k
 refine ad (fun es=>?_) (fun es=>?_)
 ·rw [if_pos es]at k
  refine ld e ⟨_,rfl,?_⟩
  rw [show W ((w:Int)+more)=((w+more:Nat):Int) by rw [bU (by omega) (by omega)];omega]
  refine dl (by omega) ⟨_,rfl,?_⟩
  rw [fM (by omega)];exact k
 ·rw [if_neg (by rw [es];decide)]at k;exact k
theorem E9 {h:Hp} {w a more:Nat} {s:Bool} {R:Value->Hp->Prop} (e:WO w a) (hm:w+more<=16)
  (k:R (.tuple #[I (Eb w a more s),I ((w+more:Nat):Int), .bool true]) h):iP #[I w,I a,I more, .bool s] h R:=by
 apply sZ
 refine uf_ ?_
 unfold Eb at k
 have hw:W ((w:Int)+more)=((w+more:Nat):Int):=by rw [bU (by omega) (by omega)];omega
 have h1:=e.1
 refine ar (fun J=>J false h) ?_ (fun J hJ=>cg ⟨_,rfl,aG (by rw [e.ok];rfl) (aG (by simp) ?_)⟩)
 ·refine aG rfl (ad (fun es=>?_) (fun es=>?_))
  ·rw [if_pos es]at k
   rw [hw]
   exact gu e ⟨_,rfl,fJ (by omega) ⟨_,rfl,k⟩⟩
  ·rw [if_neg (by rw [es];decide)]at k
   rw [hw];exact k
 ·rw [bU (by omega) (by omega),show decide ((more:Int)>16-(w:Int))=false by rw [decide_eq_false_iff_not];omega];exact hJ
theorem Ey {h:Hp} {w a u b:Nat} {R:Value->Hp->Prop} (ea:WO w a) (eb:WO u b) (hm:w+u<=16)
  (k:R (.tuple #[I ((a*2^u+b:Nat):Int),I ((w+u:Nat):Int), .bool true]) h):iV #[I w,I a,I u,I b] h R:=by
 apply tk
 refine uf_ ?_
 have hw:W ((w:Int)+u)=((w+u:Nat):Int):=by rw [bU (by omega) (by omega)];omega
 have h1:=ea.1
 have h2:=eb.1
 have ha:=ea.2
 have hb:=eb.2
 have h16a:=ea.pow
 have h16b:=eb.pow
 have hmul:=z8 (a:=a) (b:=2^u) (by omega) (by omega)
 refine ar (fun J=>J false h) ?_ (fun J hJ=>cg ⟨_,rfl,aG (by rw [ea.ok];rfl) (cg ⟨_,rfl,aG (by rw [eb.ok];rfl) ?_⟩)⟩)
 ·rw [cA (by omega)]
  refine aG rfl ?_
  rw [if_neg (by omega),gz (by omega) (by omega),hw,<-Int.natCast_add,ef (by omega)];exact k
 ·rw [hw,show decide (((w+u:Nat):Int)>16)=false by rw [decide_eq_false_iff_not];omega];exact hJ
theorem Dd {h:Hp} {w a hi lo:Nat} {R:Value->Hp->Prop} (ea:WO w a) (h1:lo<=hi) (h2:hi<w)
  (k:R (.tuple #[I ((a/2^lo%2^(hi-lo+1):Nat):Int),I ((hi-lo+1:Nat):Int), .bool true]) h):ii #[I w,I a,I hi,I lo] h R:=by
 apply rC
 refine uf_ ?_
 have e0:=ea.1
 have hw:W (W ((hi:Int)-lo)+1)=((hi-lo+1:Nat):Int):=by rw [bU (n:=(hi:Int)-lo) (by omega) (by omega),bU (by omega) (by omega)];omega
 have e1:=ea.1
 have hp:=bk (hi-lo+1)
 refine ar (fun J=>J false h) ?_ (fun J hJ=>cg ⟨_,rfl,aG (by rw [ea.ok];rfl) (aG (by simp) (aG (by simp;omega) ?_))⟩)
 ·refine aG rfl ?_
  rw [hw,cA (by omega),cA (by omega),if_neg (by omega),if_neg (by omega),bV (by omega),if_neg (by omega),jt (by omega),eW]
  exact k
 ·rw [show decide ((hi:Int)>=(w:Int))=false by rw [decide_eq_false_iff_not];omega];exact hJ
theorem ai {h:Hp} {cs:Nat->List Value} {n:Nat->Nat} {P:Nat->Hp->Prop}
  (k: ∀b h',h b=none->h.le h'->h' b=some (.inl ⟨cs b,n b,false⟩)->P b h'): ∀b,h b=none->ck (h.row b (cs b) (n b)) fun h'=>P b h':=
 fun b hb=>k b _ hb (ec _ _ hb) (bG _ _ _ _)
theorem cX {b c:Bool} {R:Value->Hp->Prop} {h:Hp} (e:b=c) (k:R (.bool c) h):R (.bool b) h:=by rw [e];exact k
theorem oe {b c:Int} {R:Value->Hp->Prop} {h:Hp} (e:b=c) (k:R (I c) h):R (I b) h:=by rw [e];exact k
theorem UB {P:Bool->Prop} {c b:Bool} (k:P (c&&b)):ac c (P b) (P false):=by cases c<;>exact k
theorem V1 {P:Bool->Prop} {c b:Bool} (k:P (c||b)):ac c (P true) (P b):=by cases c<;>exact k
abbrev rE (s:SortP):Value:= .agg #[I s.idx,I s.wid]
abbrev Aa (n:NodeP):Value:= .agg #[I n.kind,I n.a,I n.b,I n.c,I n.n,I n.m,I n.sort.idx,I n.sort.wid, .string n.name]
abbrev Fz (b:BindP):Value:= .agg #[I b.state,I b.node]
theorem C0 (s:SortP):bD s=(decide (0<=s.idx/\s.idx<=2)&&decide (1<=s.wid/\s.wid<=16)):=by
 unfold bD;rw [Bool.eq_iff_iff];simp
theorem bO {s:SortP}:bD s=true↔(0<=s.idx/\s.idx<=2)/\(1<=s.wid/\s.wid<=16):=by
 unfold bD;simp
theorem mI {h:Hp} {i w:Int} {R:Value->Hp->Prop} (k:R (.bool (bD ⟨i,w⟩)) h):kg #[.agg #[I i,I w]] h R:=by
 refine ACalls.drop (Fe ?_)
 refine uf_ ?_
 refine ai fun b h1 hb l1 f1=>?_
 simp only [vm,mm,am f1]
 rw [C0]at k
 refine eV ⟨_,rfl,ad (fun e=>?_) (fun e=>⟨_,l1,cX ?_ k⟩)⟩
 ·simp only [vm,mm,am f1]
  exact xB ⟨_,rfl,⟨_,l1,cX (by simp only [e,Bool.true_and]) k⟩⟩
 ·simp only [e,Bool.false_and]
theorem my {h:Hp} {i w:Int} {R:Value->Hp->Prop} (k:R (.bool (bD ⟨i,w⟩)) h):kl #[.agg #[I i,I w]] h R:=by
 refine ACalls.drop (EQ ?_)
 refine uf_ ?_
 refine ai fun b h1 hb l1 f1=>?_
 simp only [vm,mm,am f1]
 rw [C0]at k
 refine eK ⟨_,rfl,ad (fun e=>?_) (fun e=>⟨_,l1,cX ?_ k⟩)⟩
 ·simp only [vm,mm,am f1]
  exact sM ⟨_,rfl,⟨_,l1,cX (by simp only [e,Bool.true_and]) k⟩⟩
 ·simp only [e,Bool.false_and]
theorem rY (s:SortP):cy s<=4:=by
 unfold cy
 split
 ·rename_i e
  have:=bO.1 e
  have:=Nat.pow_le_pow_right (n:=2) (by omega) (show s.idx.toNat<=2 by omega)
  simpa using this
 ·omega
theorem jX {h:Hp} {i w:Int} {R:Value->Hp->Prop} (k:R (I (cy ⟨i,w⟩)) h):ic #[.agg #[I i,I w]] h R:=by
 refine ACalls.drop (yN ?_)
 refine uf_ ?_
 refine ai fun b h1 hb l1 f1=>?_
 simp only [vm,mm,am f1]
 unfold cy at k
 refine mI ⟨_,rfl,ad (fun e=>⟨_,l1,?_⟩) (fun e=>?_)⟩
 ·rw [if_neg (by simpa using e)]at k;exact k
 ·have e':bD ⟨i,w⟩=true:=by simpa using e
  have:=bO.1 e'
  rw [if_pos e']at k
  simp only [vm,mm,am f1]
  obtain⟨n,rfl⟩: ∃n:Nat,i=n:=⟨i.toNat,by simp only at this;omega⟩
  simp only at this
  rw [if_neg (by omega),bV (by omega)]
  exact⟨_,l1,k⟩
theorem fz {h:Hp} {i w:Int} {R:Value->Hp->Prop} (k:R (I (cy ⟨i,w⟩)) h):dU #[.agg #[I i,I w]] h R:=by
 refine ACalls.drop (zm ?_)
 refine uf_ ?_
 refine ai fun b h1 hb l1 f1=>?_
 simp only [vm,mm,am f1]
 unfold cy at k
 refine my ⟨_,rfl,ad (fun e=>⟨_,l1,?_⟩) (fun e=>?_)⟩
 ·rw [if_neg (by simpa using e)]at k;exact k
 ·have e':bD ⟨i,w⟩=true:=by simpa using e
  have:=bO.1 e'
  rw [if_pos e']at k
  simp only [vm,mm,am f1]
  obtain⟨n,rfl⟩: ∃n:Nat,i=n:=⟨i.toNat,by simp only at this;omega⟩
  simp only at this
  rw [cA (by omega),if_neg (by omega),bV (by omega)]
  exact⟨_,l1,k⟩
theorem uk (s:SortP):dJ s<=64:=by
 unfold dJ
 by_cases e:bD s=true
 ·have:=bO.1 e
  have h1:=rY s
  have:=Nat.mul_le_mul h1 (show s.wid.toNat<=16 by omega)
  omega
 ·have:cy s=0:=by unfold cy;rw [if_neg e]
  rw [this];omega
theorem yk {s:SortP} {x:Int} (hx:bD s=true->x=s.wid):(cy s:Int)*x=((dJ s:Nat):Int):=by
 unfold dJ
 by_cases e:bD s=true
 ·have:=bO.1 e
  rw [hx e,Int.natCast_mul]
  congr 1
  omega
 ·have:cy s=0:=by unfold cy;rw [if_neg e]
  rw [this];simp
theorem pC {h:Hp} {i w:Int} {R:Value->Hp->Prop} (k:R (I (dJ ⟨i,w⟩)) h):kz #[.agg #[I i,I w]] h R:=by
 refine ACalls.drop (Bj ?_)
 refine uf_ ?_
 refine ai fun b h1 hb l1 f1=>?_
 simp only [vm,mm,am f1]
 refine jX ⟨_,rfl,rfl,⟨_,l1,oe ?_ k⟩⟩
 have:=uk ⟨i,w⟩
 rw [yk,ef (by omega)]
 intro e
 have:=bO.1 e
 simp only at this⊢
 split<;>split<;>omega
theorem iA {h:Hp} {i w:Int} {R:Value->Hp->Prop} (k:R (I (dJ ⟨i,w⟩)) h):fu #[.agg #[I i,I w]] h R:=by
 refine ACalls.drop (Bg ?_)
 refine uf_ ?_
 refine ai fun b h1 hb l1 f1=>?_
 simp only [vm,mm,am f1]
 refine fz ⟨_,rfl,rfl,⟨_,l1,oe ?_ k⟩⟩
 have:=uk ⟨i,w⟩
 rw [yk (fun _=>rfl),ef (by omega)]
theorem dG {α:Sort _} (c:α) (k:α->Prop):aF c k=k c:=rfl
theorem sq {P:Prop} (k:P:=by((try rw [Bool.eq_iff_iff]);((try simp only [decide_eq_true_eq,decide_eq_false_iff_not,beq_iff_eq,beq_eq_false_iff_ne,bne_iff_ne,bne_eq_false_iff_eq,ne_eq,Bool.not_eq_true',Bool.not_eq_false',Bool.and_eq_true,Bool.or_eq_true,Bool.true_and,Bool.false_and,Bool.and_true,Bool.and_false,Bool.true_or,Bool.false_or,reduceCtorEq,iff_false,iff_true,false_iff,true_iff,Bool.not_true,Bool.not_false]at*));try ((repeat' split)<;>omega))):P:=k
theorem ez {α:Sort _} {b c:α} {J:α->Prop} (e:b=c) (k:J c):J b:=by rw [e];exact k
theorem gp {h:Hp} {kind:Int} {R:Value->Hp->Prop} (k:R (I (ap kind)) h):gC #[I kind] h R:=by
 apply GG
 refine uf_ ?_
 simp only [dG]
 repeat' (first|(with_reducible first|refine aK (b:=true) rfl ?_|refine aG (b:=false) rfl ?_|refine ad (fun _=>?_) fun _=>?_)|(refine eV ⟨_,rfl,?_⟩)|(refine oe ?_ k))
 all_goals (clear k;unfold ap;(exact sq))
theorem lQ {h:Hp} {kind:Int} {R:Value->Hp->Prop} (k:R (I (ap kind)) h):fX #[I kind] h R:=by
 apply D6
 refine uf_ ?_
 refine ar (fun J=>J (decide ((1<=kind/\kind<=5)\/(30<=kind/\kind<=32)))) ?_ (fun J hJ=>?_)
 rotate_left
 ·clear k;repeat' (first|(with_reducible first|refine aK (b:=true) rfl ?_|refine aG (b:=false) rfl ?_|refine ad (fun _=>?_) fun _=>?_)|(refine ez ?_ hJ))
  all_goals (clear hJ;(exact sq))
 (with_reducible first|refine aK (b:=true) rfl ?_|refine aG (b:=false) rfl ?_|refine ad (fun _=>?_) fun _=>?_)
 ·refine oe ?_ k;clear k;unfold ap;(exact sq)
 refine ar (fun J=>J (decide ((6<=kind/\kind<=29)\/kind=37))) ?_ (fun J hJ=>?_)
 rotate_left
 ·clear k;repeat' (first|(with_reducible first|refine aK (b:=true) rfl ?_|refine aG (b:=false) rfl ?_|refine ad (fun _=>?_) fun _=>?_)|(refine ez ?_ hJ))
  all_goals (clear hJ;(exact sq))
 (with_reducible first|refine aK (b:=true) rfl ?_|refine aG (b:=false) rfl ?_|refine ad (fun _=>?_) fun _=>?_)
 ·refine oe ?_ k;clear k;unfold ap;(exact sq)
 simp only [dG]
 repeat' (first|(with_reducible first|refine aK (b:=true) rfl ?_|refine aG (b:=false) rfl ?_|refine ad (fun _=>?_) fun _=>?_)|(refine oe ?_ k))
 all_goals (clear k;unfold ap;(exact sq))
theorem Cu {h:Hp} {kind:Int} {R:Value->Hp->Prop} (k:R (.bool (eJ kind)) h):cO #[I kind] h R:=by
 apply GE
 refine uf_ ?_
 refine V1 (P:=fun b=>R (.bool b) h) (cX ?_ k)
 unfold eJ
 rw [Bool.eq_iff_iff];simp
theorem GF (s:ByteArray) (i:Nat):s[i]?=s.data.toList[i]?:=by
 rcases s with ⟨⟨l⟩⟩
 by_cases h:i<l.length
 ·rw [getElem?_pos _ i (show i<(ByteArray.mk ⟨l⟩).size from h)]
  simp only [List.getElem?_eq_getElem h]
  rfl
 ·rw [getElem?_neg _ i (show¬i<(ByteArray.mk ⟨l⟩).size from h)]
  simp only [List.getElem?_eq_none (Nat.le_of_not_lt h)]
theorem xu (s:ByteArray):s.size=s.data.toList.length:=by rcases s with ⟨⟨l⟩⟩;rfl
theorem BT {s:ByteArray} {i:Nat} (h:i<s.size): ∃c,s[i]?=some c:=by
 rw [GF];rw [xu]at h
 exact⟨_,List.getElem?_eq_getElem h⟩
theorem uA (s:ByteArray):(ByteArray.toList s==ByteArray.toList ⟨#[]⟩)=decide (s.size=0):=by
 rcases s with ⟨⟨l⟩⟩
 rw [jI,show (⟨#[]⟩:ByteArray)=⟨List.toArray []⟩from rfl,jI,xu,Bool.eq_iff_iff]
 simp
theorem nW {s:ByteArray}:eQ s=true↔(1<=s.size/\s.size<=8)/\ ∀(j:Nat) (c:UInt8),s[j]?=some c->fG c=true\/(j≠0/\lC c=true):=by
 unfold eQ
 simp only [GF]
 have hs:=xu s
 generalize s.data.toList=l at*
 rw [Bool.and_eq_true,decide_eq_true_eq]
 refine and_congr_right fun h1=>?_
 cases l with
 |nil=>have:s.size=0:=hs;omega
 |cons c r=>
  simp only [Bool.and_eq_true,List.all_eq_true,Bool.or_eq_true]
  constructor
  ·rintro ⟨h2,h3⟩ j d hd
   cases j with
   |zero=>simp at hd;subst hd;exact .inl h2
   |succ j=>
    simp only [List.getElem?_cons_succ]at hd
    exact(h3 d (List.mem_of_getElem? hd)).imp id fun h=>⟨by omega,h⟩
  ·intro h
   refine⟨?_,fun d hd=>?_⟩
   ·rcases h 0 c rfl with h|h
    ·exact h
    ·exact absurd rfl h.1
   ·obtain⟨j,hj,rfl⟩:=List.getElem_of_mem hd
    rcases h (j+1) r[j] (by simp)with h|h
    ·exact .inl h
    ·exact .inr h.2
theorem sD {s:ByteArray} {j:Nat} {c:UInt8} (e:s[j]?=some c) (h1:fG c=false) (h2:j=0\/lC c=false):eQ s=false:=by
 rw [Bool.eq_false_iff]
 intro h
 rcases (nW.1 h).2 j c e with h|h
 ·rw [h1]at h;cases h
 ·rcases h2 with h2|h2
  ·exact h.1 h2
  ·rw [h2]at h;cases h.2
theorem E2 {h:Hp} {c:UInt8} {R:Value->Hp->Prop} (k:R (.bool (fG c)) h):oy #[.int .u8 ((UInt8.toNat c:Nat):Int)] h R:=by
 apply A0
 refine uf_ ?_
 refine UB (P:=fun b=>R (.bool b) h) (cX ?_ k)
 unfold fG
 (exact sq)
theorem yO {h:Hp} {s:ByteArray} {R:Value->Hp->Prop} (k:R (.bool (eQ s)) h) (hsz:s.size<9223372036854775807):gL #[.string s] h R:=by
 apply ET
 refine uf_ ?_
 refine aw s.size (fun i vs h'=>(∀(j:Nat) (c:UInt8),j<i->s[j]?=some c->fG c=true\/(j≠0/\lC c=true))/\vs= [.string s,I s.size,I i]/\h'=h) ⟨fun j c hj=>by omega,rfl,rfl⟩ ?_
 rintro i _ h' next hi ⟨hg,rfl,rfl⟩ hn
 refine⟨_,_,_,rfl,?_⟩
 by_cases hlt:i<s.size
 ·obtain⟨c,hc⟩:=BT hlt
  refine aK (by simp [hlt]) ?_
  simp only [vm]
  have hnext:fG c=true\/(i≠0/\lC c=true)->next [.string s,I s.size,I (W ((i:Int)+1))] h':=by
   intro hgood
   rw [aE (by omega)]
   refine hn hlt _ _ ⟨fun j d hj hd=>?_,rfl,rfl⟩
   by_cases hji:j=i
   ·subst hji;rw [hc]at hd;cases hd;exact hgood
   ·exact hg j d (by omega) hd
  refine⟨c,hc,E2 ⟨_,rfl,ad (fun e=>ad (fun e2=>?_) (fun e2=>⟨c,hc,ad (fun e3=>?_) (fun e3=>⟨c,hc,ad (fun e4=>?_) (fun e4=>hnext ?_)⟩)⟩)) (fun e=>hnext (.inl (by simpa using e)))⟩⟩
  ·exact cX (sD hc (by simpa using e) (.inl (by simp at e2;omega))).symm k
  ·exact cX (sD hc (by simpa using e) (.inr (by unfold lC;simp at e3⊢;omega))).symm k
  ·exact cX (sD hc (by simpa using e) (.inr (by unfold lC;simp at e4⊢;omega))).symm k
  ·refine .inr ⟨by simp at e2;omega,?_⟩
   unfold lC;simp at e3 e4⊢;omega
 ·refine aG (by simp;omega) (eV ⟨_,rfl,cX ?_ k⟩)
  have:= @nW s
  rw [Bool.eq_iff_iff,this,decide_eq_true_eq]
  constructor
  ·intro hh
   refine⟨by omega,fun j c hc=>hg j c ?_ hc⟩
   ·rcases Nat.lt_or_ge j s.size with h|h
    ·omega
    ·rw [GF,List.getElem?_eq_none (by rw [<-xu];exact h)]at hc;cases hc
  ·rintro ⟨hh,_⟩;omega
theorem yM {h:Hp} {s:ByteArray} {R:Value->Hp->Prop} (k:R (.bool (eQ s)) h):ng #[.string s] h R:=by
 apply Et
 refine uf_ ?_
 refine ar (fun J=>J (!(decide (1<=s.size/\s.size<=8)&&(match s[0]? with|some c=>fG c|none=>false))) h) ?_ (fun J hJ=>?_)
 rotate_left
 ·refine eK ⟨_,rfl,ad (fun e=>?_) (fun e=>?_)⟩
  ·rw [show decide (1<=s.size/\s.size<=8)=false by rw [decide_eq_false_iff_not];simp at e;omega,Bool.false_and]at hJ
   exact hJ
  ·have e':1<=s.size/\s.size<=8:=by simp at e;omega
   obtain⟨c,hc⟩:=BT (s:=s) (i:=0) (by omega)
   rw [decide_eq_true e',Bool.true_and,hc]at hJ
   simp only at hJ
   refine⟨by omega,c,hc,ad (fun e=>?_) (fun e=>⟨by omega,c,hc,?_⟩)⟩
   ·exact ez (J:=fun b=>J b h) (by unfold fG;(exact sq)) hJ
   ·exact ez (J:=fun b=>J b h) (by unfold fG;(exact sq)) hJ
 refine ad (fun e=>cX ?_ k) (fun e=>?_)
 ·symm
  rw [Bool.eq_false_iff]
  intro hn
  have hh:=nW.1 hn
  obtain⟨c,hc⟩:=BT (s:=s) (i:=0) (by omega)
  rw [decide_eq_true hh.1,hc]at e
  rcases hh.2 0 c hc with h1|h1
  ·simp [h1]at e
  ·exact absurd rfl h1.1
 have e':(1<=s.size/\s.size<=8)/\ ∀c,s[0]?=some c->fG c=true:=by
  simp only [Bool.not_eq_false',Bool.and_eq_true,decide_eq_true_eq]at e
  refine⟨e.1,fun c hc=>?_⟩
  have:=e.2;rw [hc]at this;exact this
 refine aw s.size (fun i vs h'=>(∀(j:Nat) (c:UInt8),j<i->s[j]?=some c->fG c=true\/lC c=true)/\vs= [.string s,I i]/\h'=h) ⟨fun j c hj=>by omega,rfl,rfl⟩ ?_
 rintro i _ h' next hi ⟨hg,rfl,rfl⟩ hn
 refine⟨_,_,rfl,?_⟩
 by_cases hlt:i<s.size
 ·obtain⟨c,hc⟩:=BT hlt
  refine aK (by simp [hlt]) ?_
  simp only [vm]
  have hnext:fG c=true\/lC c=true->next [.string s,I (W ((i:Int)+1))] h':=by
   intro hgood
   rw [aE (by omega)]
   refine hn hlt _ _ ⟨fun j d hj hd=>?_,rfl,rfl⟩
   by_cases hji:j=i
   ·subst hji;rw [hc]at hd;cases hd;exact hgood
   ·exact hg j d (by omega) hd
  have hbad:fG c=false->lC c=false->R (.bool false) h':=fun h1 h2=>cX (sD hc h1 (.inr h2)).symm k
  have two: ∀(hl:fG c=false),(ac (decide (((UInt8.toNat c:Nat):Int)>=48)) (∃c32:UInt8,s[i]?=some c32/\(ac (!(decide (((UInt8.toNat c32:Nat):Int)<=57))) (R (.bool false) h') (next [(.string s),(I (W ((i:Int)+1)))] h'))) (R (.bool false) h')):=by
   intro hl
   refine ad (fun e=>⟨c,hc,ad (fun e2=>hbad hl ?_) (fun e2=>hnext (.inr ?_))⟩) (fun e=>hbad hl ?_)
   ·unfold lC;simp at e2⊢;omega
   ·unfold lC;simp at e e2⊢;omega
   ·unfold lC;simp at e⊢;omega
  refine⟨c,hc,ad (fun e=>⟨c,hc,ad (fun e2=>hnext (.inl ?_)) (fun e2=>⟨c,hc,two ?_⟩)⟩) (fun e=>⟨c,hc,two ?_⟩)⟩
  ·unfold fG;simp at e e2⊢;omega
  ·unfold fG;simp at e2⊢;omega
  ·unfold fG;simp at e⊢;omega
 ·refine aG (by simp;omega) (cX ?_ k)
  symm
  refine nW.2 ⟨e'.1,fun j c hc=>?_⟩
  have hj:j<s.size:=by
   rcases Nat.lt_or_ge j s.size with h|h
   ·omega
   ·rw [GF,List.getElem?_eq_none (by rw [<-xu];exact h)]at hc;cases hc
  rcases hg j c (by omega) hc with h1|h1
  ·exact .inl h1
  ·by_cases h0:j=0
   ·subst h0;exact .inl (e'.2 c hc)
   ·exact .inr ⟨h0,h1⟩
theorem rd :(∀(v:Value) r,(v::r)[0]?=some v)/\(∀(v:Value) r (i:Nat),(v::r)[i+1]?=r[i]?)/\
  (∀(cs:List Value) (n:Nat) (ro:Bool) (p:List Value->Nat->Prop),
   (∃(cs':List Value) (n':Nat),some (Sum.inl (Row.mk cs n ro):Blk)=some (Sum.inl (Row.mk cs' n' ro))/\p cs' n')=p cs n)/\
  (∀cs o,cM cs o []=cs)/\(∀cs o v r,cM cs o (v::r)=cM (cs.set o v) (o+1) r)/\
  (∀(v w:Value) r,(v::r).set 0 w=w::r)/\(∀(v w:Value) r (i:Nat),(v::r).set (i+1) w=v::r.set i w)/\
  (∀(v:Value) r,(v::r).length=r.length+1)/\([]:List Value).length=0:=
 ⟨fun _ _=>rfl,fun _ _ _=>rfl,Rw,Df,mP,fun _ _ _=>rfl,fun _ _ _ _=>rfl,fun _ _=>rfl,rfl⟩
theorem Qr {h:Hp} {b z o:Nat} {cs:List Value} {ro:Bool} {x:Int} {P:Int->Prop} (f:h b=some (.inl ⟨cs,z,ro⟩)) (e:cs[o]?=some (I x)) (k:P x): ∃y:Int,Hp.cell h b o=some (I y)/\P y:=
 ⟨x,by rw [am f];exact e,k⟩
theorem Qe {h:Hp} {b z o:Nat} {cs:List Value} {ro:Bool} {x:ByteArray} {P:ByteArray->Prop} (f:h b=some (.inl ⟨cs,z,ro⟩)) (e:cs[o]?=some (.string x)) (k:P x): ∃y:ByteArray,Hp.cell h b o=some (.string y)/\P y:=
 ⟨x,by rw [am f];exact e,k⟩
theorem cP {h:Hp} {w:Int} {R:Value->Hp->Prop} (k:R (rE (cl w)) h):cW #[I w] h R:=by
 refine ACalls.drop (G4 ?_)
 refine uf_ ?_
 intro b hb
 have l1:=ec [I 0,I w] 2 hb
 simp only [vm,mm]
 exact⟨by decide,_,l1,k⟩
theorem bP {h:Hp} {w:Int} {R:Value->Hp->Prop} (k:R (rE (cl w)) h):aj #[I w] h R:=by
 refine ACalls.drop (Fn ?_)
 refine uf_ ?_
 intro b hb
 have l1:=ec [I 0,I w] 2 hb
 simp only [vm,mm]
 exact⟨by decide,_,l1,k⟩
def aQ (n:NodeP):Nat->Int
 |0=>n.a
 |1=>n.b
 |2=>n.c
 |_=>0
theorem mA (len:Nat) (n:NodeP):ek len n=
  (decide (0<=ap n.kind)&&(oR (ap n.kind) len 0 (aQ n 0)&&oR (ap n.kind) len 1 (aQ n 1)&&oR (ap n.kind) len 2 (aQ n 2))&&
   (if eJ n.kind then eQ n.name else decide (n.name.size=0))&&(decide (n.kind=30)||decide (n.m=0))&&
   (decide (n.kind=30\/n.kind=31\/n.kind=32\/n.kind=34)||decide (n.n=0))):=rfl
theorem Gf {len:Nat} {n:NodeP} {i:Nat} (hi:i<3) (e:oR (ap n.kind) len i (aQ n i)=false):ek len n=false:=by
 rw [mA]
 obtain rfl|rfl|rfl:i=0\/i=1\/i=2:=by omega
 ·rw [show ((0:Nat):Int)=0 from rfl]at e;rw [e];simp
 ·rw [show ((1:Nat):Int)=1 from rfl]at e;rw [e];simp
 ·rw [show ((2:Nat):Int)=2 from rfl]at e;rw [e];simp
theorem Ai {len:Nat} {n:NodeP} (hp:0<=ap n.kind) (e: ∀i:Nat,i<3->oR (ap n.kind) len i (aQ n i)=true):ek len n=
  ((if eJ n.kind then eQ n.name else decide (n.name.size=0))&&(decide (n.kind=30)||decide (n.m=0))&&
    (decide (n.kind=30\/n.kind=31\/n.kind=32\/n.kind=34)||decide (n.n=0))):=by
 rw [mA,decide_eq_true hp]
 have e0:=e 0 (by omega)
 have e1:=e 1 (by omega)
 have e2:=e 2 (by omega)
 rw [show ((0:Nat):Int)=0 from rfl]at e0
 rw [show ((1:Nat):Int)=1 from rfl]at e1
 rw [show ((2:Nat):Int)=2 from rfl]at e2
 rw [e0,e1,e2];simp
theorem pu {h:Hp} {b z:Nat} {n:NodeP} (f:h b=some (.inl ⟨[I n.a,I n.b,I n.c],z,false⟩)) {i:Nat} (hi:i<3):Hp.cell h b i=some (I (aQ n i)):=by
 rw [am f]
 obtain rfl|rfl|rfl:i=0\/i=1\/i=2:=by omega
 all_goals rfl
theorem IR {h:Hp} {n:NodeP} {len:Nat} {R:Value->Hp->Prop} (hlen:len<=4611686018427387904) (hsz:n.name.size<=1048576)
  (k:R (.bool (ek len n)) h):kP #[Aa n,I len] h R:=by
 refine ACalls.drop (wX ?_)
 refine uf_ ?_
 refine ai fun b h1 hb l1 f1=>?_
 simp only [vm,rd,am f1]
 refine gp ⟨_,rfl,ad (fun e=>⟨_,l1,cX ?_ k⟩) (fun e=>?_)⟩
 ·rw [mA,decide_eq_false (by simp at e;omega)];simp
 have hp:0<=ap n.kind:=by simp at e;omega
 simp only [vm,rd,am f1]
 refine ai fun b2 h2 hb2 l2 f2=>?_
 have f1':=l2 _ _ f1
 have l12:=Hp.le_trans l1 l2
 refine aw 3 (fun i vs h'=>(∀j:Nat,j<i->oR (ap n.kind) len j (aQ n j)=true)/\vs= [I len, .pointer (some ⟨b,0,none⟩),I (ap n.kind), .slice (some ⟨b2,0,none⟩) 3 3,I 3,I i]/\h'=h2) ⟨fun j hj=>by omega,rfl,rfl⟩ ?_
 rintro i _ h' next hi ⟨hg,rfl,rfl⟩ hn
 refine⟨_,_,_,_,⟨_,_,_⟩,_,_,rfl,?_⟩
 by_cases hlt:i<3
 ·refine aK (by simp;omega) ?_
  simp only [vm,pu f2 hlt]
  refine⟨by omega,?_⟩
  refine ar (fun J=>J (!(oR (ap n.kind) len i (aQ n i))) h') ?_ (fun J hJ=>?_)
  ·refine ad (fun e=>⟨_,l12,cX ?_ k⟩) (fun e=>?_)
   ·rw [Gf hlt (by simpa using e)]
   ·rw [aE (by omega)]
    refine hn hlt _ _ ⟨fun j hj=>?_,rfl,rfl⟩
    by_cases hji:j=i
    ·subst hji;simpa using e
    ·exact hg j (by omega)
  ·clear k
   unfold oR at hJ
   rw [bU (by omega) (by omega)]
   refine ad (fun e=>eV ⟨_,rfl,?_⟩) (fun e=>?_)
   ·rw [if_pos (by simpa using e)]at hJ
    refine ad (fun e2=>?_) (fun e2=>ad (fun e3=>?_) (fun e3=>?_))
    ·exact ez (J:=fun b=>J b h') (by simpa using e2) hJ
    ·simp at e e3;omega
    ·exact ez (J:=fun b=>J b h') (by simpa using e2) hJ
   ·rw [if_neg (by simpa using e)]at hJ
    refine ad (fun e2=>?_) (fun e2=>?_)
    ·exact ez (J:=fun b=>J b h') (by rw [Bool.eq_iff_iff];simp) hJ
    ·simp at e e2;omega
 ·refine aG (by simp;omega) ?_
  rw [Ai hp (fun j hj=>hg j (by omega))]at k
  simp only [vm,rd,am f1',uA]
  refine ar (fun J=>J (decide (n.kind=30\/n.kind=31\/n.kind=32\/n.kind=34))) ?_ (fun J hJ=>?_)
  rotate_left
  ·clear k;repeat' (first|(with_reducible first|refine aK (b:=true) rfl ?_|refine aG (b:=false) rfl ?_|refine ad (fun _=>?_) fun _=>?_)|(refine ez ?_ hJ))
   all_goals (clear hJ;(exact sq))
  have hnm: ∀{R':Value->Hp->Prop},R' (.bool (eJ n.kind)) h'->cO #[I n.kind] h' R':=Cu
  have hin: ∀{R':Value->Hp->Prop},R' (.bool (eQ n.name)) h'->gL #[.string n.name] h' R':=fun k=>yO k (by omega)
  generalize eJ n.kind=g at*
  generalize eQ n.name=q at*
  repeat' (first|(with_reducible first|refine aK (b:=true) rfl ?_|refine aG (b:=false) rfl ?_|refine ad (fun _=>?_) fun _=>?_)|(with_reducible refine hnm ⟨_,rfl,?_⟩)|(with_reducible refine hin ⟨_,rfl,?_⟩)|(with_reducible refine Qr f1' rfl ?_)|(with_reducible refine Qe f1' rfl ?_)|(refine⟨_,l12,cX ?_ k⟩;clear k hnm hin hn hg f1 f2 f1' l1 l2 l12 hb hb2;first|(simp_all;done)|(cases g<;>cases q<;>simp_all<;>done)))
theorem E6 {h:Hp} {n:NodeP} {s:Sl} {R:Value->Hp->Prop} (hlen:s.n<=4611686018427387904)
  (k:R (.bool (ek s.n n)) h):oM #[s.v,Aa n] h R:=by
 refine ACalls.drop (A3 ?_)
 refine uf_ ?_
 refine ai fun b h1 hb l1 f1=>?_
 simp only [vm,rd,am f1]
 refine lQ ⟨_,rfl,ad (fun e=>⟨_,l1,cX ?_ k⟩) (fun e=>?_)⟩
 ·rw [mA,decide_eq_false (by simp at e;omega)];simp
 have hp:0<=ap n.kind:=by simp at e;omega
 simp only [vm,rd,am f1]
 refine ai fun b2 h2 hb2 l2 f2=>?_
 have f1':=l2 _ _ f1
 have l12:=Hp.le_trans l1 l2
 refine aw 3 (fun i vs h'=>(∀j:Nat,j<i->oR (ap n.kind) s.n j (aQ n j)=true)/\vs= [s.v, .pointer (some ⟨b,0,none⟩),I (ap n.kind), .slice (some ⟨b2,0,none⟩) 3 3,I i]/\h'=h2) ⟨fun j hj=>by omega,rfl,rfl⟩ ?_
 rintro i _ h' next hi ⟨hg,rfl,rfl⟩ hn
 refine⟨_,_,_,_,⟨_,_,_⟩,_,rfl,?_⟩
 by_cases hlt:i<3
 ·refine aK (by simp;omega) ?_
  simp only [vm,pu f2 hlt]
  refine ar (fun J=>J (!(oR (ap n.kind) s.n i (aQ n i))) h') ?_ (fun J hJ=>?_)
  ·refine ad (fun e=>⟨_,l12,cX ?_ k⟩) (fun e=>?_)
   ·rw [Gf hlt (by simpa using e)]
   ·rw [aE (by omega)]
    refine hn hlt _ _ ⟨fun j hj=>?_,rfl,rfl⟩
    by_cases hji:j=i
    ·subst hji;simpa using e
    ·exact hg j (by omega)
  ·clear k
   unfold oR at hJ
   rw [bU (by omega) (by omega)]
   refine ad (fun e=>⟨by omega,eK ⟨_,rfl,?_⟩⟩) (fun e=>?_)
   ·rw [if_pos (by simpa using e)]at hJ
    refine ad (fun e2=>?_) (fun e2=>ad (fun e3=>?_) (fun e3=>?_))
    ·exact ez (J:=fun b=>J b h') (by simpa using e2) hJ
    ·simp at e e3;omega
    ·exact ez (J:=fun b=>J b h') (by simpa using e2) hJ
   ·rw [if_neg (by simpa using e)]at hJ
    refine ad (fun e2=>?_) (fun e2=>?_)
    ·refine⟨by omega,?_⟩
     exact ez (J:=fun b=>J b h') (by rw [Bool.eq_iff_iff];simp) hJ
    ·simp at e e2;omega
 ·refine aG (by simp;omega) ?_
  rw [Ai hp (fun j hj=>hg j (by omega))]at k
  simp only [vm,rd,am f1',uA]
  refine ar (fun J=>J (eJ n.kind)) ?_ (fun J hJ=>?_)
  rotate_left
  ·clear k;unfold eJ at hJ;repeat' (first|(with_reducible first|refine aK (b:=true) rfl ?_|refine aG (b:=false) rfl ?_|refine ad (fun _=>?_) fun _=>?_)|(refine ez ?_ hJ))
   all_goals (clear hJ;(exact sq))
  have hin: ∀{R':Value->Hp->Prop},R' (.bool (eQ n.name)) h'->ng #[.string n.name] h' R':=yM
  have hno:eQ n.name=true-> ¬n.name.size=0:=fun e=>by have:=(nW.1 e).1;omega
  generalize eJ n.kind=g at*
  generalize eQ n.name=q at*
  simp only [dG]
  repeat' (first|(with_reducible first|refine aK (b:=true) rfl ?_|refine aG (b:=false) rfl ?_|refine ad (fun _=>?_) fun _=>?_)|(with_reducible refine hin ⟨_,rfl,?_⟩)|(with_reducible refine Qr f1' rfl ?_)|(with_reducible refine Qe f1' rfl ?_)|(refine⟨_,l12,cX ?_ k⟩;clear k hin hn hg f1 f2 f1' l1 l2 l12 hb hb2;first|(simp_all;done)|(cases g<;>cases q<;>simp_all<;>done)|(rw [Bool.eq_iff_iff];cases g<;>cases q<;>simp_all<;>done)))
end Go.Lead
