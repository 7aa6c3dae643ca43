/- What functions of the program and of the reference come to, walked one by one, and plain laws about it: part 2. No condition is added to the statement. -/
import Derived.Test.YtlfhohhpeklnkaaGreatZ0
namespace Go.Lead
open Go
set_option linter.unusedSimpArgs false
set_option linter.unusedVariables false
set_option maxHeartbeats 1000000
def Ey (kind:Int) (x y:Bool):Bool:=if kind=8 then x^^y else if kind=7 then x||y else x&&y
theorem IE {c:Bool} {n:Nat} (hn:n<=62):ar (if c then 1 else 0) (n:Int)=((if c then 2^n else 0:Nat):Int):=by
 cases c
 ·have:=gV (a:=0) (n:=n) (by omega) (by omega);simpa using this
 ·have:=bU hn;simpa using this
theorem HZ {i:Nat} {f:Nat->Bool} {c:Bool} (hi:i<=60) (hc:c=f i):W ((cJ i f:Int)+((if c then 2^i else 0:Nat):Int))=((cJ (i+1) f:Nat):Int):=by
 have h1:=qn i f
 have h2:=lz (n:=i) (by omega)
 subst hc
 simp only [cJ]
 rw [ca (by split<;>omega) (by split<;>omega)]
 omega
theorem Ku {h:Hp} {kind:Int} {w a b:Nat} {R:Value->Hp->Prop} (hw:w<=16)
  (k:R (I (cJ w fun i=>Ey kind (a.testBit i) (b.testBit i))) h):rK #[I kind,I w,I a,I b] h R:=by
 apply GM
 refine uf_ ?_
 refine aw w (fun i vs h'=>vs= [I kind,I w,I a,I b,I (cJ i fun i=>Ey kind (a.testBit i) (b.testBit i)),I i]/\h'=h) ⟨rfl,rfl⟩ ?_
 rintro i _ _ next hi ⟨rfl,rfl⟩ hn
 refine⟨_,_,_,_,_,_,rfl,?_⟩
 by_cases hlt:i<w
 ·refine aK (by simp [hlt]) (ij (by omega) ⟨_,rfl,ij (by omega) ⟨_,rfl,?_⟩⟩)
  have hn':=hn hlt _ _ ⟨rfl,rfl⟩
  generalize hx:a.testBit i=x at*
  generalize hy:b.testBit i=y at*
  refine ap (fun J=>J (if kind=7 then(if x||y then 1 else 0)else(if x&&y then 1 else 0))) ?_ ?_
  ·refine ap (fun J=>J (if Ey kind x y then 1 else 0)) ?_ ?_
   ·rw [cz (by omega),if_neg (by omega),IE (by omega),HZ (by omega) (by rw [hx,hy]),aE (by omega)]
    exact hn'
   ·intro J hJ
    refine ad (fun e=>?_) (fun e=>?_)
    ·have:Ey kind x y=(x^^y):=by unfold Ey;rw [if_pos (bR e)]
     rw [this]at hJ
     revert hJ;cases x<;>cases y<;>exact id
    ·have:Ey kind x y=if kind=7 then x||y else x&&y:=by unfold Ey;rw [if_neg (aY e)]
     rw [this]at hJ
     by_cases h7:kind=7
     ·rw [if_pos h7]at hJ⊢;exact hJ
     ·rw [if_neg h7]at hJ⊢;exact hJ
  ·intro J hJ
   refine ad (fun e=>?_) (fun e=>?_)
   ·rw [if_pos (bR e)]at hJ
    revert hJ;cases x<;>cases y<;>exact id
   ·rw [if_neg (aY e)]at hJ
    revert hJ;cases x<;>cases y<;>exact id
 ·have:i=w:=by omega
  subst this
  exact aF (by simp) k
theorem L6 {h:Hp} {kind:Int} {w a b:Nat} {R:Value->Hp->Prop} (ea:WO w a) (eb:WO w b)
  (k:R (I ((if kind=12 then(if b=0 then 2^w-1 else a/b)else if b=0 then a else a%b:Nat))) h):ub #[I kind,I w,I a,I b] h R:=by
 apply I1
 refine uf_ ?_
 have h16:=ea.pow
 have hp:=bC w
 have ha:=ea.2
 have hw:=ea.1
 refine ad (fun e=>?_) (fun e=>?_)
 ·rw [if_pos (bR e)]at k
  refine ad (fun e0=>?_) (fun e0=>?_)
  ·have hb0:b=0:=by have:=bR e0;omega
   rw [if_pos hb0]at k
   rw [cz (by omega),if_neg (by omega),bU (by omega),ca (by omega) (by omega)]
   have:((2^w-1:Nat):Int)=((2^w:Nat):Int)-1:=by omega
   rw [<-this];exact k
  ·have hb0: ¬b=0:=by have:=aY e0;omega
   rw [if_neg hb0]at k
   have hd:=Nat.div_le_self a b
   rw [if_neg (by omega),FI,ek (by omega)];exact k
 ·rw [if_neg (aY e)]at k
  refine ad (fun e0=>?_) (fun e0=>?_)
  ·have hb0:b=0:=by have:=bR e0;omega
   rw [if_pos hb0]at k;exact k
  ·have hb0: ¬b=0:=by have:=aY e0;omega
   rw [if_neg hb0]at k
   rw [if_neg (by omega),fE];exact k
theorem Jt {h:Hp} {kind:Int} {w a b:Nat} {R:Value->Hp->Prop} (hk:kind=14\/kind=15) (ea:WO w a) (eb:WO w b)
  (k:R (I ((if kind=14 then HE w a b else HL w a b:Nat):Int)) h):rL #[I kind,I w,I a,I b] h R:=by
 apply GO
 refine uf_ ?_
 have h16:=ea.pow
 have hp:=bC w
 have sa:=BZ ea
 have sb:=BZ eb
 have hw:=ea.1
 refine gT ea ⟨_,rfl,gT eb ⟨_,rfl,?_⟩⟩
 unfold HE HL at k
 refine ad (fun e=>?_) (fun e=>?_)
 ·have e':=bR e
  rw [if_neg (by omega)]at k
  refine ad (fun e0=>?_) (fun e0=>?_)
  ·rw [if_pos (bR e0)]at k;exact k
  ·rw [if_neg (aY e0)]at k
   rw [if_neg (aY e0)]
   exact gi hw ⟨_,rfl,k⟩
 ·have e':kind=14:=by have:=aY e;omega
  rw [if_pos e']at k
  by_cases hy:sgn w b=0
  ·rw [if_pos hy]at k
   have hyb:(sgn w b==0)=true:=by simpa using hy
   refine ap (fun J=>J (decide (sgn w a<0))) ?_ (fun J hJ=>aK hyb hJ)
   refine ad (fun e=>?_) (fun e=>aK hyb ?_)
   ·rw [if_pos (of_decide_eq_true e)]at k;exact k
   ·rw [if_neg (of_decide_eq_false e)]at k
    rw [cz (by omega),if_neg (by omega),bU (by omega),ca (by omega) (by omega)]
    have:((2^w-1:Nat):Int)=((2^w:Nat):Int)-1:=by omega
    rw [<-this];exact k
  ·rw [if_neg hy]at k
   have hyb:(sgn w b==0)=false:=by simpa using hy
   refine ap (fun J=>J false) ?_ (fun J hJ=>aF hyb hJ)
   refine aF rfl (aF hyb ?_)
   have hdiv:(Int.tdiv (sgn w a) (sgn w b)).natAbs<=65536:=by
    rw [Int.natAbs_tdiv]
    exact Nat.le_trans (Nat.div_le_self _ _) (by omega)
   rw [if_neg hy,ca (by omega) (by omega)]
   exact gi hw ⟨_,rfl,k⟩
theorem Io {h:Hp} {kind:Int} {w a b:Nat} {R:Value->Hp->Prop} (hk:kind=16\/kind=17\/kind=18) (ea:WO w a) (hb:b<=65536)
  (k:R (I (AF kind w a b)) h):nf #[I kind,I w,I a,I b] h R:=by
 have hw:=ea.1
 have key: ∀f:Nat->Bool,cJ w f=AF kind w a b->
   (∀i,i<w->f i=if kind=16 then decide (b<=i)&&a.testBit (i-b)else if kind=17 then decide (i+b<w)&&a.testBit (i+b)else if i+b<w then a.testBit (i+b)else a.testBit (w-1))->
   nf #[I kind,I w,I a,I b] h R:=by
  intro f hcode hf
  apply Fs
  refine uf_ ?_
  refine aw w (fun i vs h'=>vs= [I kind,I w,I a,I b,I (cJ i f),I i]/\h'=h) ⟨rfl,rfl⟩ ?_
  rintro i _ h' next hi ⟨rfl,rfl⟩ hn
  refine⟨_,_,_,_,_,_,rfl,?_⟩
  by_cases hlt:i<w
  ·refine aK (by simp [hlt]) ?_
   have hn':=hn hlt _ _ ⟨rfl,rfl⟩
   have hfi:=hf i hlt
   refine ap (fun J=>J (if kind=16 then(i:Int)-b else(i:Int)+b)) ?_ ?_
   ·refine ap (fun J=>J (decide (0<=(if kind=16 then(i:Int)-b else(i:Int)+b)/\(if kind=16 then(i:Int)-b else(i:Int)+b)<w))) ?_ ?_
    ·refine ap (fun J=>J (if f i then 1 else 0) h') ?_ ?_
     ·rw [cz (by omega),if_neg (by omega),IE (by omega),HZ (by omega) rfl,aE (by omega)]
      exact hn'
     ·intro J hJ
      refine ad (fun e=>?_) (fun e=>?_)
      ·have e':=of_decide_eq_true e
       by_cases h16:kind=16
       ·rw [if_pos h16]at e' hfi⊢
        rw [show (i:Int)-b=((i-b:Nat):Int) by omega]
        refine ij (by omega) ⟨_,rfl,?_⟩
        rw [hfi]at hJ
        have:decide (b<=i)=true:=by simp;omega
        rw [this,Bool.true_and]at hJ;exact hJ
       ·rw [if_neg h16]at e' hfi⊢
        rw [show (i:Int)+b=((i+b:Nat):Int) by omega]
        refine ij (by omega) ⟨_,rfl,?_⟩
        have h1:decide (i+b<w)=true:=by simp;omega
        rw [h1,Bool.true_and,if_pos (show i+b<w by omega),ite_self]at hfi
        rw [hfi]at hJ;exact hJ
      ·have e':=of_decide_eq_false e
       refine ad (fun e2=>?_) (fun e2=>?_)
       ·have h18:=bR e2
        rw [if_neg (by omega)]at e'
        rw [if_neg (by omega),if_neg (by omega),if_neg (by omega)]at hfi
        rw [show W ((w:Int)-1)=((w-1:Nat):Int) by rw [ca (by omega) (by omega)];omega]
        refine ij (by omega) ⟨_,rfl,?_⟩
        rw [hfi]at hJ;exact hJ
       ·have h18:=aY e2
        have:f i=false:=by
         rw [hfi]
         by_cases h16:kind=16
         ·rw [if_pos h16]at e'⊢
          have:decide (b<=i)=false:=by simp;omega
          rw [this,Bool.false_and]
         ·rw [if_neg h16]at e'⊢
          rw [if_pos (by omega)]
          have:decide (i+b<w)=false:=by simp;omega
          rw [this,Bool.false_and]
        rw [this]at hJ
        exact hJ
    ·intro J hJ
     generalize (if kind=16 then(i:Int)-b else(i:Int)+b)=z at*
     refine ad (fun e=>?_) (fun e=>?_)
     ·have:0<=z:=of_decide_eq_true e
      rw [show decide (0<=z/\z<(w:Int))=decide (z<(w:Int)) by rw [decide_eq_decide];omega]at hJ;exact hJ
     ·have: ¬0<=z:=of_decide_eq_false e
      rw [show decide (0<=z/\z<(w:Int))=false by rw [decide_eq_false_iff_not];omega]at hJ;exact hJ
   ·intro J hJ
    refine ad (fun e=>?_) (fun e=>?_)
    ·rw [if_pos (bR e)]at hJ;rw [ca (by omega) (by omega)];exact hJ
    ·rw [if_neg (aY e)]at hJ;rw [ca (by omega) (by omega)];exact hJ
  ·have:i=w:=by omega
   subst this
   refine aF (by simp) ?_
   rw [hcode];exact k
 rcases hk with rfl|rfl|rfl
 ·exact key (fun i=>decide (b<=i)&&a.testBit (i-b)) Tr (fun i _=>rfl)
 ·exact key (fun i=>decide (i+b<w)&&a.testBit (i+b)) (RW ea.2) (fun i _=>rfl)
 ·exact key (fun i=>if i+b<w then a.testBit (i+b)else a.testBit (w-1)) (SS hw.1 hw.2 ea.2) (fun i _=>rfl)
theorem JB {h:Hp} {kind:Int} {w a b:Nat} {R:Value->Hp->Prop} (hk:kind=19\/kind=20) (ea:WO w a)
  (k:R (I ((if kind=19 then EM w a (b%w)else EM w a ((w-b%w)%w):Nat))) h):nV #[I kind,I w,I a,I b] h R:=by
 have hw:=ea.1
 have hm:b%w<w:=Nat.mod_lt _ (by omega)
 have key: ∀s:Nat,s<w->R (I (EM w a s)) h->(∀i,i<w->(if kind=20 then(i+w-b%w)%w else(i+b%w)%w)=(i+s)%w)->
   nV #[I kind,I w,I a,I b] h R:=by
  intro s hs k hto
  apply G4
  refine uf_ ?_
  refine aw w (fun i vs h'=>vs= [I kind,I w,I a,I b,I (cJ w fun j=>decide ((j+(w-s))%w<i)&&a.testBit ((j+(w-s))%w)),I i]/\h'=h) ⟨?_,rfl⟩ ?_
  ·have:cJ w (fun j=>decide ((j+(w-s))%w<0)&&a.testBit ((j+(w-s))%w))=0:=
    iO (bC w) fun i _=>by simp
   rw [this];rfl
  rintro i _ h' next hi ⟨rfl,rfl⟩ hn
  refine⟨_,_,_,_,_,_,rfl,?_⟩
  by_cases hlt:i<w
  ·refine aK (by simp [hlt]) ?_
   have hn':=hn hlt _ _ ⟨rfl,rfl⟩
   have hst:=OO (a:=a) hs hlt
   have hto:=hto i hlt
   rw [if_neg (by omega),fE]
   have hpw:(i+s)%w<w:=Nat.mod_lt _ (by omega)
   refine ap (fun J=>J ((if kind=20 then i+w-b%w else i+b%w:Nat):Int)) ?_ ?_
   ·have ht:Int.tmod ((if kind=20 then i+w-b%w else i+b%w:Nat):Int) (w:Int)=(((i+s)%w:Nat):Int):=by
     rw [fE,<-hto]
     split<;>rfl
    rw [if_neg (by omega),ht,cz (by omega)]
    have step:W ((cJ w (fun j=>decide ((j+(w-s))%w<i)&&a.testBit ((j+(w-s))%w)):Int)+ar (if a.testBit i then 1 else 0) (((i+s)%w:Nat):Int))=
      ((cJ w (fun j=>decide ((j+(w-s))%w<i+1)&&a.testBit ((j+(w-s))%w)):Nat):Int):=by
     rw [IE (by omega),<-hst,<-Int.natCast_add,ek]
     rw [hst]
     have:=qn w (fun j=>decide ((j+(w-s))%w<i+1)&&a.testBit ((j+(w-s))%w))
     have:=xQ hw.2
     omega
    have one:dQ #[I a,I i] h' fun v25 h26=> ∃(x27:Int),v25=(I x27)/\(if(((i+s)%w:Nat):Int)<0 then False else next [I kind,I w,I a,I b,I (W ((cJ w (fun j=>decide ((j+(w-s))%w<i)&&a.testBit ((j+(w-s))%w)):Int)+ar x27 (((i+s)%w:Nat):Int))),I (W ((i:Int)+1))] h26):=by
     refine ij (by omega) ⟨_,rfl,?_⟩
     rw [if_neg (by omega),step,aE (by omega)]
     exact hn'
    exact⟨one,one⟩
   ·intro J hJ
    refine ad (fun e=>?_) (fun e=>?_)
    ·rw [if_pos (bR e)]at hJ
     rw [if_neg (by omega)]
     have:W (W ((i:Int)+w)-((b%w:Nat):Int))=((i+w-b%w:Nat):Int):=by rw [ca (n:=(i:Int)+w) (by omega) (by omega),ca (by omega) (by omega)];omega
     rw [this];exact hJ
    ·rw [if_neg (aY e)]at hJ
     have:W ((i:Int)+((b%w:Nat):Int))=((i+b%w:Nat):Int):=by rw [ca (by omega) (by omega)];omega
     rw [this];exact hJ
  ·have:i=w:=by omega
   subst this
   refine aF (by simp) ?_
   have:cJ i (fun j=>decide ((j+(i-s))%i<i)&&a.testBit ((j+(i-s))%i))=EM i a s:=by
    rw [<-SE ea.2 hs]
    refine qJ fun j _=>?_
    have:decide ((j+(i-s))%i<i)=true:=by
     rw [decide_eq_true_eq];exact Nat.mod_lt _ (by omega)
    rw [this,Bool.true_and]
   rw [this];exact k
 rcases hk with rfl|rfl
 ·refine key (b%w) hm k fun i _=>?_
  rw [if_neg (by omega)]
 ·rw [if_neg (by omega)]at k
  refine key ((w-b%w)%w) (Nat.mod_lt _ (by omega)) k fun i _=>?_
  rw [if_pos rfl,Nat.add_mod_mod]
  congr 1
  omega
theorem wH {b:Bool} {R:Value->Hp->Prop} {h:Hp} {c:Bool} (e:b=c) (k:R (.tuple #[.bool c, .bool true]) h):R (.tuple #[.bool b, .bool true]) h:=by rw [e];exact k
theorem Kk {h:Hp} {kind:Int} {w a b:Nat} {R:Value->Hp->Prop} (ea:WO w a) (eb:WO w b)
  (k1:21<=kind/\kind<=28->R (.tuple #[.bool (B0 kind w a b), .bool true]) h)
  (k2: ¬(21<=kind/\kind<=28)->R (.tuple #[.bool false, .bool false]) h):r5 #[I kind,I w,I a,I b] h R:=by
 apply GY
 refine uf_ ?_
 have h16:=ea.pow
 have hp:=bC w
 have sa:=BZ ea
 have sb:=BZ eb
 have ha:=ea.2
 have hb:=eb.2
 have hw:=ea.1
 have dd: ∀{p q:Prop} [Decidable p] [Decidable q],(p↔q)->decide p=decide q:=fun h=>by rw [decide_eq_decide];exact h
 refine gT ea ⟨_,rfl,gT eb ⟨_,rfl,?_⟩⟩
 refine ad (fun e=>?_) (fun e1=>?_)
 ·have e:=bR e
  subst e
  refine wH ?_ (k1 (by omega))
  show _=decide (a=b)
  rw [Bool.eq_iff_iff];simp;omega
 refine ad (fun e=>?_) (fun e2=>?_)
 ·have e:=bR e
  subst e
  exact wH (dd (by omega)) (k1 (by omega))
 refine ad (fun e=>?_) (fun e3=>?_)
 ·have e:=bR e
  subst e
  exact k1 (by omega)
 refine ad (fun e=>?_) (fun e4=>?_)
 ·have e:=bR e
  subst e
  exact wH (dd (by omega)) (k1 (by omega))
 refine ad (fun e=>?_) (fun e5=>?_)
 ·have e:=bR e
  subst e
  exact k1 (by omega)
 refine ad (fun e=>?_) (fun e6=>?_)
 ·have e:=bR e
  subst e
  have hab:W ((a:Int)+b)=((a+b:Nat):Int):=by rw [ca (by omega) (by omega)];omega
  rw [hab]
  refine cm ⟨_,rfl,?_⟩
  refine wH ?_ (k1 (by omega))
  show _=decide (2^w<=a+b)
  rw [Bool.eq_iff_iff]
  have:=jd (w:=(w:Int)) (v:=((a+b:Nat):Int))
  rw [Int.toNat_natCast]at this
  simp only [Bool.not_eq_true',decide_eq_true_eq,<-Bool.not_eq_true,this]
  omega
 refine ad (fun e=>?_) (fun e7=>?_)
 ·have e:=bR e
  subst e
  rw [ca (by omega) (by omega)]
  refine gi hw ⟨_,rfl,gT ⟨hw,iQ _ _⟩ ⟨_,rfl,?_⟩⟩
  refine wH ?_ (k1 (by omega))
  show _= !decide (-((2^(w-1):Nat):Int)<=sgn w a+sgn w b/\sgn w a+sgn w b<((2^(w-1):Nat):Int))
  have:=Yg (a:=a) (b:=b) hw.1
  rw [Bool.eq_iff_iff,bne_iff_ne,this,Bool.not_eq_true',decide_eq_false_iff_not]
 refine ad (fun e=>?_) (fun e8=>?_)
 ·have e:=bR e
  subst e
  have hmul:=BW (a:=a) (b:=b) (by omega) (by omega)
  have hmi:(a:Int)*(b:Int)=((a*b:Nat):Int):=(Int.natCast_mul _ _).symm
  rw [hmi,ek (by omega)]
  refine cm ⟨_,rfl,?_⟩
  refine wH ?_ (k1 (by omega))
  show _=decide (2^w<=a*b)
  rw [Bool.eq_iff_iff]
  have:=jd (w:=(w:Int)) (v:=((a*b:Nat):Int))
  rw [Int.toNat_natCast]at this
  simp only [Bool.not_eq_true',decide_eq_true_eq,<-Bool.not_eq_true,this]
  generalize a*b=ab at*
  omega
 ·have:=aY e1;have:=aY e2;have:=aY e3;have:=aY e4;have:=aY e5;have:=aY e6;have:=aY e7;have:=aY e8
  exact k2 (by omega)
theorem zm {h:Hp} {kind:Int} {w a b:Nat} {R:Value->Hp->Prop} (hk:6<=kind/\kind<=28) (ea:WO w a) (eb:WO w b)
  (k:R (.tuple #[I (qA kind w a b).1,I (qA kind w a b).2, .bool true]) h):mE #[I kind,I w,I a,I b] h R:=by
 apply DV
 refine uf_ ?_
 have h16:=ea.pow
 have hp:=bC w
 have ha:=ea.2
 have hb:=eb.2
 have hw:=ea.1
 have hmul:=BW (a:=a) (b:=b) (by omega) (by omega)
 refine ap (fun J=>J false h) ?_ (fun J hJ=>cm ⟨_,rfl,aF (by rw [ea.ok];rfl) (cm ⟨_,rfl,by rw [eb.ok];exact hJ⟩)⟩)
 refine aF rfl (Kk ea eb (fun h21=>⟨_,_,rfl,aK rfl (qF ⟨_,rfl,?_⟩)⟩) (fun h21=>⟨_,_,rfl,aF rfl ?_⟩))
 ·have t:qA kind w a b=(if B0 kind w a b then 1 else 0,1):=by unfold qA;rw [if_neg (by omega)]
  rw [t]at k
  cases hs:B0 kind w a b
  ·rw [hs]at k;simpa using k
  ·rw [hs]at k;simpa using k
 have t:qA kind w a b=(Fg kind w a b,w):=by unfold qA;rw [if_pos (by omega)]
 rw [t]at k
 unfold Fg at k
 simp only at k
 refine ap (fun J=>J (decide (kind=6\/kind=7\/kind=8))) ?_ ?_
 rotate_left
 ·intro J hJ
  refine ad (fun e=>?_) (fun e=>ad (fun e2=>?_) (fun e2=>?_))
  ·rw [decide_eq_true (.inl (bR e))]at hJ;exact hJ
  ·rw [decide_eq_true (.inr (.inl (bR e2)))]at hJ;exact hJ
  ·have:(kind==8)=decide (kind=6\/kind=7\/kind=8):=by
    have h1:=aY e
    have h2:=aY e2
    rw [Bool.eq_iff_iff];simp [h1,h2]
   rw [this];exact hJ
 refine ad (fun e=>?_) (fun e678=>?_)
 ·have e':kind=6\/kind=7\/kind=8:=by simpa using e
  refine Ku hw.2 ⟨_,rfl,?_⟩
  rcases e' with rfl|rfl|rfl
  ·rw [if_pos rfl,<-FB ha]at k;exact k
  ·rw [if_neg (by decide),if_pos rfl,<-N4 ha hb]at k;exact k
  ·rw [if_neg (by decide),if_neg (by decide),if_pos rfl,<-Rv ha hb]at k;exact k
 have n6: ¬kind=6/\ ¬kind=7/\ ¬kind=8:=by simpa using e678
 rw [if_neg n6.1,if_neg n6.2.1,if_neg n6.2.2]at k
 refine ad (fun e=>?_) (fun e9=>?_)
 ·rw [if_pos (bR e)]at k
  rw [ca (by omega) (by omega)]
  exact gi hw ⟨_,rfl,k⟩
 rw [if_neg (aY e9)]at k
 refine ad (fun e=>?_) (fun e10=>?_)
 ·rw [if_pos (bR e)]at k
  rw [ca (by omega) (by omega)]
  exact gi hw ⟨_,rfl,k⟩
 rw [if_neg (aY e10)]at k
 refine ad (fun e=>?_) (fun e11=>?_)
 ·rw [if_pos (bR e)]at k
  have hmi:(a:Int)*(b:Int)=((a*b:Nat):Int):=(Int.natCast_mul _ _).symm
  rw [hmi]at k⊢
  generalize a*b=ab at*
  rw [ek (by omega)]
  exact gi hw ⟨_,rfl,k⟩
 rw [if_neg (aY e11)]at k
 refine ap (fun J=>J (decide (kind=12\/kind=13))) ?_ ?_
 rotate_left
 ·intro J hJ
  refine ad (fun e=>?_) (fun e=>?_)
  ·rw [decide_eq_true (.inl (bR e))]at hJ;exact hJ
  ·have:(kind==13)=decide (kind=12\/kind=13):=by
    have:=aY e
    rw [Bool.eq_iff_iff];simp [this]
   rw [this];exact hJ
 refine ad (fun e=>?_) (fun e1213=>?_)
 ·have e':kind=12\/kind=13:=by simpa using e
  refine L6 ea eb ⟨_,rfl,?_⟩
  rcases e' with rfl|rfl
  ·simpa using k
  ·simpa using k
 have n12: ¬kind=12/\ ¬kind=13:=by simpa using e1213
 rw [if_neg n12.1,if_neg n12.2]at k
 refine ap (fun J=>J (decide (kind=14\/kind=15))) ?_ ?_
 rotate_left
 ·intro J hJ
  refine ad (fun e=>?_) (fun e=>?_)
  ·rw [decide_eq_true (.inl (bR e))]at hJ;exact hJ
  ·have:(kind==15)=decide (kind=14\/kind=15):=by
    have:=aY e
    rw [Bool.eq_iff_iff];simp [this]
   rw [this];exact hJ
 refine ad (fun e=>?_) (fun e1415=>?_)
 ·have e':kind=14\/kind=15:=by simpa using e
  refine Jt e' ea eb ⟨_,rfl,?_⟩
  rcases e' with rfl|rfl
  ·simpa using k
  ·simpa using k
 have n14: ¬kind=14/\ ¬kind=15:=by simpa using e1415
 rw [if_neg n14.1,if_neg n14.2]at k
 refine ap (fun J=>J (decide (kind=16\/kind=17\/kind=18))) ?_ ?_
 rotate_left
 ·intro J hJ
  refine ad (fun e=>?_) (fun e=>ad (fun e2=>?_) (fun e2=>?_))
  ·rw [decide_eq_true (.inl (bR e))]at hJ;exact hJ
  ·rw [decide_eq_true (.inr (.inl (bR e2)))]at hJ;exact hJ
  ·have:(kind==18)=decide (kind=16\/kind=17\/kind=18):=by
    have h1:=aY e
    have h2:=aY e2
    rw [Bool.eq_iff_iff];simp [h1,h2]
   rw [this];exact hJ
 refine ad (fun e=>?_) (fun e1618=>?_)
 ·have e':kind=16\/kind=17\/kind=18:=by simpa using e
  refine Io e' ea (by omega) ⟨_,rfl,?_⟩
  unfold AF
  rcases e' with rfl|rfl|rfl
  ·simpa using k
  ·simpa using k
  ·simpa using k
 have n16: ¬kind=16/\ ¬kind=17/\ ¬kind=18:=by simpa using e1618
 rw [if_neg n16.1,if_neg n16.2.1,if_neg n16.2.2]at k
 have h1920:kind=19\/kind=20:=by
  have:=aY e9;have:=aY e10;have:=aY e11
  omega
 refine ap (fun J=>J true) ?_ ?_
 rotate_left
 ·intro J hJ
  refine ad (fun e=>hJ) (fun e=>?_)
  have:(kind==20)=true:=by
   have:=aY e
   rw [beq_iff_eq];omega
  rw [this];exact hJ
 refine aK rfl (JB h1920 ea ⟨_,rfl,k⟩)
theorem RB {w a more:Nat} {sign:Bool} (e:WO w a):FF w a more sign<2^(w+more):=by
 unfold FF
 cases sign
 ·have:=e.2
  have:2^w<=2^(w+more):=Nat.pow_le_pow_right (by omega) (by omega)
  rw [if_neg (by decide)];omega
 ·exact iQ _ _
theorem Qd {h:Hp} {w a more:Nat} {s:Bool} {R:Value->Hp->Prop} (e:WO w a) (hm:w+more<=16)
  (k:R (I (FF w a more s)) h):vU #[I w,I a,I more, .bool s] h R:=by
 apply Lb
 refine uf_ ?_
 unfold FF at k
 refine ad (fun es=>?_) (fun es=>?_)
 ·rw [if_pos es]at k
  refine lZ e ⟨_,rfl,?_⟩
  rw [show W ((w:Int)+more)=((w+more:Nat):Int) by rw [ca (by omega) (by omega)];omega]
  refine dv (by omega) ⟨_,rfl,?_⟩
  rw [gq (by omega)];exact k
 ·rw [if_neg (by rw [es];decide)]at k;exact k
theorem GG {h:Hp} {w a more:Nat} {s:Bool} {R:Value->Hp->Prop} (e:WO w a) (hm:w+more<=16)
  (k:R (.tuple #[I (FF w a more s),I ((w+more:Nat):Int), .bool true]) h):js #[I w,I a,I more, .bool s] h R:=by
 apply uH
 refine uf_ ?_
 unfold FF at k
 have hw:W ((w:Int)+more)=((w+more:Nat):Int):=by rw [ca (by omega) (by omega)];omega
 have h1:=e.1
 refine ap (fun J=>J false h) ?_ (fun J hJ=>cm ⟨_,rfl,aF (by rw [e.ok];rfl) (aF (by simp) ?_)⟩)
 ·refine aF rfl (ad (fun es=>?_) (fun es=>?_))
  ·rw [if_pos es]at k
   rw [hw]
   exact gT e ⟨_,rfl,gi (by omega) ⟨_,rfl,k⟩⟩
  ·rw [if_neg (by rw [es];decide)]at k
   rw [hw];exact k
 ·rw [ca (by omega) (by omega),show decide ((more:Int)>16-(w:Int))=false by rw [decide_eq_false_iff_not];omega];exact hJ
theorem GF {h:Hp} {w a u b:Nat} {R:Value->Hp->Prop} (ea:WO w a) (eb:WO u b) (hm:w+u<=16)
  (k:R (.tuple #[I ((a*2^u+b:Nat):Int),I ((w+u:Nat):Int), .bool true]) h):jq #[I w,I a,I u,I b] h R:=by
 apply uG
 refine uf_ ?_
 have hw:W ((w:Int)+u)=((w+u:Nat):Int):=by rw [ca (by omega) (by omega)];omega
 have h1:=ea.1
 have h2:=eb.1
 have ha:=ea.2
 have hb:=eb.2
 have h16a:=ea.pow
 have h16b:=eb.pow
 have hmul:=BW (a:=a) (b:=2^u) (by omega) (by omega)
 refine ap (fun J=>J false h) ?_ (fun J hJ=>cm ⟨_,rfl,aF (by rw [ea.ok];rfl) (cm ⟨_,rfl,aF (by rw [eb.ok];rfl) ?_⟩)⟩)
 ·rw [cz (by omega)]
  refine aF rfl ?_
  rw [if_neg (by omega),gV (by omega) (by omega),hw,<-Int.natCast_add,ek (by omega)];exact k
 ·rw [hw,show decide (((w+u:Nat):Int)>16)=false by rw [decide_eq_false_iff_not];omega];exact hJ
theorem Fm {h:Hp} {w a hi lo:Nat} {R:Value->Hp->Prop} (ea:WO w a) (h1:lo<=hi) (h2:hi<w)
  (k:R (.tuple #[I ((a/2^lo%2^(hi-lo+1):Nat):Int),I ((hi-lo+1:Nat):Int), .bool true]) h):iA #[I w,I a,I hi,I lo] h R:=by
 apply sJ
 refine uf_ ?_
 have e0:=ea.1
 have hw:W (W ((hi:Int)-lo)+1)=((hi-lo+1:Nat):Int):=by rw [ca (n:=(hi:Int)-lo) (by omega) (by omega),ca (by omega) (by omega)];omega
 have e1:=ea.1
 have hp:=bC (hi-lo+1)
 refine ap (fun J=>J false h) ?_ (fun J hJ=>cm ⟨_,rfl,aF (by rw [ea.ok];rfl) (aF (by simp) (aF (by simp;omega) ?_))⟩)
 ·refine aF rfl ?_
  rw [hw,cz (by omega),cz (by omega),if_neg (by omega),if_neg (by omega),bU (by omega),if_neg (by omega),j7 (by omega),fE]
  exact k
 ·rw [show decide ((hi:Int)>=(w:Int))=false by rw [decide_eq_false_iff_not];omega];exact hJ
theorem ai {h:Hp} {cs:Nat->List Value} {n:Nat->Nat} {P:Nat->Hp->Prop}
  (k: ∀b h',h b=none->h.le h'->h' b=some (.inl ⟨cs b,n b,false⟩)->P b h'): ∀b,h b=none->co (h.row b (cs b) (n b)) fun h'=>P b h':=
 fun b hb=>k b _ hb (eA _ _ hb) (bP _ _ _ _)
theorem df {b c:Bool} {R:Value->Hp->Prop} {h:Hp} (e:b=c) (k:R (.bool c) h):R (.bool b) h:=by rw [e];exact k
theorem pG {b c:Int} {R:Value->Hp->Prop} {h:Hp} (e:b=c) (k:R (I c) h):R (I b) h:=by rw [e];exact k
theorem WM {P:Bool->Prop} {c b:Bool} (k:P (c&&b)):ac c (P b) (P false):=by cases c<;>exact k
theorem XF {P:Bool->Prop} {c b:Bool} (k:P (c||b)):ac c (P true) (P b):=by cases c<;>exact k
abbrev sX (s:SortP):Value:= .agg #[I s.idx,I s.wid]
abbrev Ck (n:NodeP):Value:= .agg #[I n.kind,I n.a,I n.b,I n.c,I n.n,I n.m,I n.sort.idx,I n.sort.wid, .string n.name]
abbrev H0 (b:BindP):Value:= .agg #[I b.state,I b.node]
theorem Fu (s:SortP):bO s=(decide (0<=s.idx/\s.idx<=2)&&decide (1<=s.wid/\s.wid<=16)):=by
 unfold bO;rw [Bool.eq_iff_iff];simp
theorem bX {s:SortP}:bO s=true↔(0<=s.idx/\s.idx<=2)/\(1<=s.wid/\s.wid<=16):=by
 unfold bO;simp
theorem nR {h:Hp} {i w:Int} {R:Value->Hp->Prop} (k:R (.bool (bO ⟨i,w⟩)) h):kJ #[.agg #[I i,I w]] h R:=by
 refine ACalls.drop (Gp ?_)
 refine uf_ ?_
 refine ai fun b h1 hb l1 f1=>?_
 simp only [vm,mm,am f1]
 rw [Fu]at k
 refine eV ⟨_,rfl,ad (fun e=>?_) (fun e=>⟨_,l1,df ?_ k⟩)⟩
 ·simp only [vm,mm,am f1]
  exact Au ⟨_,rfl,⟨_,l1,df (by simp only [e,Bool.true_and]) k⟩⟩
 ·simp only [e,Bool.false_and]
theorem nD {h:Hp} {i w:Int} {R:Value->Hp->Prop} (k:R (.bool (bO ⟨i,w⟩)) h):kP #[.agg #[I i,I w]] h R:=by
 refine ACalls.drop (Gk ?_)
 refine uf_ ?_
 refine ai fun b h1 hb l1 f1=>?_
 simp only [vm,mm,am f1]
 rw [Fu]at k
 refine eO ⟨_,rfl,ad (fun e=>?_) (fun e=>⟨_,l1,df ?_ k⟩)⟩
 ·simp only [vm,mm,am f1]
  exact tJ ⟨_,rfl,⟨_,l1,df (by simp only [e,Bool.true_and]) k⟩⟩
 ·simp only [e,Bool.false_and]
theorem tU (s:SortP):cE s<=4:=by
 unfold cE
 split
 ·rename_i e
  have:=bX.1 e
  have:=Nat.pow_le_pow_right (n:=2) (by omega) (show s.idx.toNat<=2 by omega)
  simpa using this
 ·omega
theorem ky {h:Hp} {i w:Int} {R:Value->Hp->Prop} (k:R (I (cE ⟨i,w⟩)) h):iG #[.agg #[I i,I w]] h R:=by
 refine ACalls.drop (AK ?_)
 refine uf_ ?_
 refine ai fun b h1 hb l1 f1=>?_
 simp only [vm,mm,am f1]
 unfold cE at k
 refine nR ⟨_,rfl,ad (fun e=>⟨_,l1,?_⟩) (fun e=>?_)⟩
 ·rw [if_neg (by simpa using e)]at k;exact k
 ·have e':bO ⟨i,w⟩=true:=by simpa using e
  have:=bX.1 e'
  rw [if_pos e']at k
  simp only [vm,mm,am f1]
  obtain⟨n,rfl⟩: ∃n:Nat,i=n:=⟨i.toNat,by simp only at this;omega⟩
  simp only at this
  rw [if_neg (by omega),bU (by omega)]
  exact⟨_,l1,k⟩
theorem eK {h:Hp} {i w:Int} {R:Value->Hp->Prop} (k:R (I (cE ⟨i,w⟩)) h):em #[.agg #[I i,I w]] h R:=by
 refine ACalls.drop (BK ?_)
 refine uf_ ?_
 refine ai fun b h1 hb l1 f1=>?_
 simp only [vm,mm,am f1]
 unfold cE at k
 refine nD ⟨_,rfl,ad (fun e=>⟨_,l1,?_⟩) (fun e=>?_)⟩
 ·rw [if_neg (by simpa using e)]at k;exact k
 ·have e':bO ⟨i,w⟩=true:=by simpa using e
  have:=bX.1 e'
  rw [if_pos e']at k
  simp only [vm,mm,am f1]
  obtain⟨n,rfl⟩: ∃n:Nat,i=n:=⟨i.toNat,by simp only at this;omega⟩
  simp only at this
  rw [cz (by omega),if_neg (by omega),bU (by omega)]
  exact⟨_,l1,k⟩
theorem ww (s:SortP):dW s<=64:=by
 unfold dW
 by_cases e:bO s=true
 ·have:=bX.1 e
  have h1:=tU s
  have:=Nat.mul_le_mul h1 (show s.wid.toNat<=16 by omega)
  omega
 ·have:cE s=0:=by unfold cE;rw [if_neg e]
  rw [this];omega
theorem zK {s:SortP} {x:Int} (hx:bO s=true->x=s.wid):(cE s:Int)*x=((dW s:Nat):Int):=by
 unfold dW
 by_cases e:bO s=true
 ·have:=bX.1 e
  rw [hx e,Int.natCast_mul]
  congr 1
  omega
 ·have:cE s=0:=by unfold cE;rw [if_neg e]
  rw [this];simp
theorem qR {h:Hp} {i w:Int} {R:Value->Hp->Prop} (k:R (I (dW ⟨i,w⟩)) h):ll #[.agg #[I i,I w]] h R:=by
 refine ACalls.drop (C1 ?_)
 refine uf_ ?_
 refine ai fun b h1 hb l1 f1=>?_
 simp only [vm,mm,am f1]
 refine ky ⟨_,rfl,rfl,⟨_,l1,pG ?_ k⟩⟩
 have:=ww ⟨i,w⟩
 rw [zK,ek (by omega)]
 intro e
 have:=bX.1 e
 simp only at this⊢
 split<;>split<;>omega
theorem iZ {h:Hp} {i w:Int} {R:Value->Hp->Prop} (k:R (I (dW ⟨i,w⟩)) h):fO #[.agg #[I i,I w]] h R:=by
 refine ACalls.drop (Cy ?_)
 refine uf_ ?_
 refine ai fun b h1 hb l1 f1=>?_
 simp only [vm,mm,am f1]
 refine eK ⟨_,rfl,rfl,⟨_,l1,pG ?_ k⟩⟩
 have:=ww ⟨i,w⟩
 rw [zK (fun _=>rfl),ek (by omega)]
theorem dR {α:Sort _} (c:α) (k:α->Prop):aG c k=k c:=rfl
theorem tt {P:Prop} (k:P:=by((try rw [Bool.eq_iff_iff]);((try simp only [decide_eq_true_eq,decide_eq_false_iff_not,beq_iff_eq,beq_eq_false_iff_ne,bne_iff_ne,bne_eq_false_iff_eq,ne_eq,Bool.not_eq_true',Bool.not_eq_false',Bool.and_eq_true,Bool.or_eq_true,Bool.true_and,Bool.false_and,Bool.and_true,Bool.and_false,Bool.true_or,Bool.false_or,reduceCtorEq,iff_false,iff_true,false_iff,true_iff,Bool.not_true,Bool.not_false]at*));try ((repeat' split)<;>omega))):P:=k
theorem eR {α:Sort _} {b c:α} {J:α->Prop} (e:b=c) (k:J c):J b:=by rw [e];exact k
theorem gJ {h:Hp} {kind:Int} {R:Value->Hp->Prop} (k:R (I (aq kind)) h):gX #[I kind] h R:=by
 apply Iv
 refine uf_ ?_
 simp only [dR]
 repeat' (first|(with_reducible first|refine aK (b:=true) rfl ?_|refine aF (b:=false) rfl ?_|refine ad (fun _=>?_) fun _=>?_)|(refine eV ⟨_,rfl,?_⟩)|(refine pG ?_ k))
 all_goals (clear k;unfold aq;(exact tt))
theorem mw {h:Hp} {kind:Int} {R:Value->Hp->Prop} (k:R (I (aq kind)) h):gw #[I kind] h R:=by
 apply Em
 refine uf_ ?_
 refine ap (fun J=>J (decide ((1<=kind/\kind<=5)\/(30<=kind/\kind<=32)))) ?_ (fun J hJ=>?_)
 rotate_left
 ·clear k;repeat' (first|(with_reducible first|refine aK (b:=true) rfl ?_|refine aF (b:=false) rfl ?_|refine ad (fun _=>?_) fun _=>?_)|(refine eR ?_ hJ))
  all_goals (clear hJ;(exact tt))
 (with_reducible first|refine aK (b:=true) rfl ?_|refine aF (b:=false) rfl ?_|refine ad (fun _=>?_) fun _=>?_)
 ·refine pG ?_ k;clear k;unfold aq;(exact tt)
 refine ap (fun J=>J (decide ((6<=kind/\kind<=29)\/kind=37))) ?_ (fun J hJ=>?_)
 rotate_left
 ·clear k;repeat' (first|(with_reducible first|refine aK (b:=true) rfl ?_|refine aF (b:=false) rfl ?_|refine ad (fun _=>?_) fun _=>?_)|(refine eR ?_ hJ))
  all_goals (clear hJ;(exact tt))
 (with_reducible first|refine aK (b:=true) rfl ?_|refine aF (b:=false) rfl ?_|refine ad (fun _=>?_) fun _=>?_)
 ·refine pG ?_ k;clear k;unfold aq;(exact tt)
 simp only [dR]
 repeat' (first|(with_reducible first|refine aK (b:=true) rfl ?_|refine aF (b:=false) rfl ?_|refine ad (fun _=>?_) fun _=>?_)|(refine pG ?_ k))
 all_goals (clear k;unfold aq;(exact tt))
theorem Fl {h:Hp} {kind:Int} {R:Value->Hp->Prop} (k:R (.bool (fe kind)) h):cZ #[I kind] h R:=by
 apply Iz
 refine uf_ ?_
 refine XF (P:=fun b=>R (.bool b) h) (df ?_ k)
 unfold fe
 rw [Bool.eq_iff_iff];simp
theorem IZ (s:ByteArray) (i:Nat):s[i]?=s.data.toList[i]?:=by
 rcases s with ⟨⟨l⟩⟩
 by_cases h:i<l.length
 ·rw [getElem?_pos _ i (show i<(ByteArray.mk ⟨l⟩).size from h)]
  simp only [List.getElem?_eq_getElem h]
  rfl
 ·rw [getElem?_neg _ i (show¬i<(ByteArray.mk ⟨l⟩).size from h)]
  simp only [List.getElem?_eq_none (Nat.le_of_not_lt h)]
theorem yZ (s:ByteArray):s.size=s.data.toList.length:=by rcases s with ⟨⟨l⟩⟩;rfl
theorem DB {s:ByteArray} {i:Nat} (h:i<s.size): ∃c,s[i]?=some c:=by
 rw [IZ];rw [yZ]at h
 exact⟨_,List.getElem?_eq_getElem h⟩
theorem uY (s:ByteArray):(ByteArray.toList s==ByteArray.toList ⟨#[]⟩)=decide (s.size=0):=by
 rcases s with ⟨⟨l⟩⟩
 rw [kg,show (⟨#[]⟩:ByteArray)=⟨List.toArray []⟩from rfl,kg,yZ,Bool.eq_iff_iff]
 simp
theorem oT {s:ByteArray}:fq s=true↔(1<=s.size/\s.size<=8)/\ ∀(j:Nat) (c:UInt8),s[j]?=some c->ge c=true\/(j≠0/\mI c=true):=by
 unfold fq
 simp only [IZ]
 have hs:=yZ s
 generalize s.data.toList=l at*
 rw [Bool.and_eq_true,decide_eq_true_eq]
 refine and_congr_right fun h1=>?_
 cases l with
 |nil=>have:s.size=0:=hs;omega
 |cons c r=>
  simp only [Bool.and_eq_true,List.all_eq_true,Bool.or_eq_true]
  constructor
  ·rintro ⟨h2,h3⟩ j d hd
   cases j with
   |zero=>simp at hd;subst hd;exact .inl h2
   |succ j=>
    simp only [List.getElem?_cons_succ]at hd
    exact(h3 d (List.mem_of_getElem? hd)).imp id fun h=>⟨by omega,h⟩
  ·intro h
   refine⟨?_,fun d hd=>?_⟩
   ·rcases h 0 c rfl with h|h
    ·exact h
    ·exact absurd rfl h.1
   ·obtain⟨j,hj,rfl⟩:=List.getElem_of_mem hd
    rcases h (j+1) r[j] (by simp)with h|h
    ·exact .inl h
    ·exact .inr h.2
theorem tK {s:ByteArray} {j:Nat} {c:UInt8} (e:s[j]?=some c) (h1:ge c=false) (h2:j=0\/mI c=false):fq s=false:=by
 rw [Bool.eq_false_iff]
 intro h
 rcases (oT.1 h).2 j c e with h|h
 ·rw [h1]at h;cases h
 ·rcases h2 with h2|h2
  ·exact h.1 h2
  ·rw [h2]at h;cases h.2
theorem G2 {h:Hp} {c:UInt8} {R:Value->Hp->Prop} (k:R (.bool (ge c)) h):pJ #[.int .u8 ((UInt8.toNat c:Nat):Int)] h R:=by
 apply Ct
 refine uf_ ?_
 refine WM (P:=fun b=>R (.bool b) h) (df ?_ k)
 unfold ge
 (exact tt)
theorem AV {h:Hp} {s:ByteArray} {R:Value->Hp->Prop} (k:R (.bool (fq s)) h) (hsz:s.size<9223372036854775807):im #[.string s] h R:=by
 apply GZ
 refine uf_ ?_
 refine aw s.size (fun i vs h'=>(∀(j:Nat) (c:UInt8),j<i->s[j]?=some c->ge c=true\/(j≠0/\mI c=true))/\vs= [.string s,I s.size,I i]/\h'=h) ⟨fun j c hj=>by omega,rfl,rfl⟩ ?_
 rintro i _ h' next hi ⟨hg,rfl,rfl⟩ hn
 refine⟨_,_,_,rfl,?_⟩
 by_cases hlt:i<s.size
 ·obtain⟨c,hc⟩:=DB hlt
  refine aK (by simp [hlt]) ?_
  simp only [vm]
  have hnext:ge c=true\/(i≠0/\mI c=true)->next [.string s,I s.size,I (W ((i:Int)+1))] h':=by
   intro hgood
   rw [aE (by omega)]
   refine hn hlt _ _ ⟨fun j d hj hd=>?_,rfl,rfl⟩
   by_cases hji:j=i
   ·subst hji;rw [hc]at hd;cases hd;exact hgood
   ·exact hg j d (by omega) hd
  refine⟨c,hc,G2 ⟨_,rfl,ad (fun e=>ad (fun e2=>?_) (fun e2=>⟨c,hc,ad (fun e3=>?_) (fun e3=>⟨c,hc,ad (fun e4=>?_) (fun e4=>hnext ?_)⟩)⟩)) (fun e=>hnext (.inl (by simpa using e)))⟩⟩
  ·exact df (tK hc (by simpa using e) (.inl (by simp at e2;omega))).symm k
  ·exact df (tK hc (by simpa using e) (.inr (by unfold mI;simp at e3⊢;omega))).symm k
  ·exact df (tK hc (by simpa using e) (.inr (by unfold mI;simp at e4⊢;omega))).symm k
  ·refine .inr ⟨by simp at e2;omega,?_⟩
   unfold mI;simp at e3 e4⊢;omega
 ·refine aF (by simp;omega) (eV ⟨_,rfl,df ?_ k⟩)
  have:= @oT s
  rw [Bool.eq_iff_iff,this,decide_eq_true_eq]
  constructor
  ·intro hh
   refine⟨by omega,fun j c hc=>hg j c ?_ hc⟩
   ·rcases Nat.lt_or_ge j s.size with h|h
    ·omega
    ·rw [IZ,List.getElem?_eq_none (by rw [<-yZ];exact h)]at hc;cases hc
  ·rintro ⟨hh,_⟩;omega
theorem BB {h:Hp} {s:ByteArray} {R:Value->Hp->Prop} (k:R (.bool (fq s)) h):nY #[.string s] h R:=by
 apply Gx
 refine uf_ ?_
 refine ap (fun J=>J (!(decide (1<=s.size/\s.size<=8)&&(match s[0]? with|some c=>ge c|none=>false))) h) ?_ (fun J hJ=>?_)
 rotate_left
 ·refine eO ⟨_,rfl,ad (fun e=>?_) (fun e=>?_)⟩
  ·rw [show decide (1<=s.size/\s.size<=8)=false by rw [decide_eq_false_iff_not];simp at e;omega,Bool.false_and]at hJ
   exact hJ
  ·have e':1<=s.size/\s.size<=8:=by simp at e;omega
   obtain⟨c,hc⟩:=DB (s:=s) (i:=0) (by omega)
   rw [decide_eq_true e',Bool.true_and,hc]at hJ
   simp only at hJ
   refine⟨by omega,c,hc,ad (fun e=>?_) (fun e=>⟨by omega,c,hc,?_⟩)⟩
   ·exact eR (J:=fun b=>J b h) (by unfold ge;(exact tt)) hJ
   ·exact eR (J:=fun b=>J b h) (by unfold ge;(exact tt)) hJ
 refine ad (fun e=>df ?_ k) (fun e=>?_)
 ·symm
  rw [Bool.eq_false_iff]
  intro hn
  have hh:=oT.1 hn
  obtain⟨c,hc⟩:=DB (s:=s) (i:=0) (by omega)
  rw [decide_eq_true hh.1,hc]at e
  rcases hh.2 0 c hc with h1|h1
  ·simp [h1]at e
  ·exact absurd rfl h1.1
 have e':(1<=s.size/\s.size<=8)/\ ∀c,s[0]?=some c->ge c=true:=by
  simp only [Bool.not_eq_false',Bool.and_eq_true,decide_eq_true_eq]at e
  refine⟨e.1,fun c hc=>?_⟩
  have:=e.2;rw [hc]at this;exact this
 refine aw s.size (fun i vs h'=>(∀(j:Nat) (c:UInt8),j<i->s[j]?=some c->ge c=true\/mI c=true)/\vs= [.string s,I i]/\h'=h) ⟨fun j c hj=>by omega,rfl,rfl⟩ ?_
 rintro i _ h' next hi ⟨hg,rfl,rfl⟩ hn
 refine⟨_,_,rfl,?_⟩
 by_cases hlt:i<s.size
 ·obtain⟨c,hc⟩:=DB hlt
  refine aK (by simp [hlt]) ?_
  simp only [vm]
  have hnext:ge c=true\/mI c=true->next [.string s,I (W ((i:Int)+1))] h':=by
   intro hgood
   rw [aE (by omega)]
   refine hn hlt _ _ ⟨fun j d hj hd=>?_,rfl,rfl⟩
   by_cases hji:j=i
   ·subst hji;rw [hc]at hd;cases hd;exact hgood
   ·exact hg j d (by omega) hd
  have hbad:ge c=false->mI c=false->R (.bool false) h':=fun h1 h2=>df (tK hc h1 (.inr h2)).symm k
  have two: ∀(hl:ge c=false),(ac (decide (((UInt8.toNat c:Nat):Int)>=48)) (∃c32:UInt8,s[i]?=some c32/\(ac (!(decide (((UInt8.toNat c32:Nat):Int)<=57))) (R (.bool false) h') (next [(.string s),(I (W ((i:Int)+1)))] h'))) (R (.bool false) h')):=by
   intro hl
   refine ad (fun e=>⟨c,hc,ad (fun e2=>hbad hl ?_) (fun e2=>hnext (.inr ?_))⟩) (fun e=>hbad hl ?_)
   ·unfold mI;simp at e2⊢;omega
   ·unfold mI;simp at e e2⊢;omega
   ·unfold mI;simp at e⊢;omega
  refine⟨c,hc,ad (fun e=>⟨c,hc,ad (fun e2=>hnext (.inl ?_)) (fun e2=>⟨c,hc,two ?_⟩)⟩) (fun e=>⟨c,hc,two ?_⟩)⟩
  ·unfold ge;simp at e e2⊢;omega
  ·unfold ge;simp at e2⊢;omega
  ·unfold ge;simp at e⊢;omega
 ·refine aF (by simp;omega) (df ?_ k)
  symm
  refine oT.2 ⟨e'.1,fun j c hc=>?_⟩
  have hj:j<s.size:=by
   rcases Nat.lt_or_ge j s.size with h|h
   ·omega
   ·rw [IZ,List.getElem?_eq_none (by rw [<-yZ];exact h)]at hc;cases hc
  rcases hg j c (by omega) hc with h1|h1
  ·exact .inl h1
  ·by_cases h0:j=0
   ·subst h0;exact .inl (e'.2 c hc)
   ·exact .inr ⟨h0,h1⟩
theorem rd :(∀(v:Value) r,(v::r)[0]?=some v)/\(∀(v:Value) r (i:Nat),(v::r)[i+1]?=r[i]?)/\
  (∀(cs:List Value) (n:Nat) (ro:Bool) (p:List Value->Nat->Prop),
   (∃(cs':List Value) (n':Nat),some (Sum.inl (Row.mk cs n ro):Blk)=some (Sum.inl (Row.mk cs' n' ro))/\p cs' n')=p cs n)/\
  (∀cs o,cB cs o []=cs)/\(∀cs o v r,cB cs o (v::r)=cB (cs.set o v) (o+1) r)/\
  (∀(v w:Value) r,(v::r).set 0 w=w::r)/\(∀(v w:Value) r (i:Nat),(v::r).set (i+1) w=v::r.set i w)/\
  (∀(v:Value) r,(v::r).length=r.length+1)/\([]:List Value).length=0:=
 ⟨fun _ _=>rfl,fun _ _ _=>rfl,SV,EY,ny,fun _ _ _=>rfl,fun _ _ _ _=>rfl,fun _ _=>rfl,rfl⟩
theorem Rf {h:Hp} {b z o:Nat} {cs:List Value} {ro:Bool} {x:Int} {P:Int->Prop} (f:h b=some (.inl ⟨cs,z,ro⟩)) (e:cs[o]?=some (I x)) (k:P x): ∃y:Int,Hp.cell h b o=some (I y)/\P y:=
 ⟨x,by rw [am f];exact e,k⟩
theorem R1 {h:Hp} {b z o:Nat} {cs:List Value} {ro:Bool} {x:ByteArray} {P:ByteArray->Prop} (f:h b=some (.inl ⟨cs,z,ro⟩)) (e:cs[o]?=some (.string x)) (k:P x): ∃y:ByteArray,Hp.cell h b o=some (.string y)/\P y:=
 ⟨x,by rw [am f];exact e,k⟩
theorem da {h:Hp} {w:Int} {R:Value->Hp->Prop} (k:R (sX (cr w)) h):dn #[I w] h R:=by
 refine ACalls.drop (IX ?_)
 refine uf_ ?_
 intro b hb
 have l1:=eA [I 0,I w] 2 hb
 simp only [vm,mm]
 exact⟨by decide,_,l1,k⟩
theorem bW {h:Hp} {w:Int} {R:Value->Hp->Prop} (k:R (sX (cr w)) h):ak #[I w] h R:=by
 refine ACalls.drop (GD ?_)
 refine uf_ ?_
 intro b hb
 have l1:=eA [I 0,I w] 2 hb
 simp only [vm,mm]
 exact⟨by decide,_,l1,k⟩
def aW (n:NodeP):Nat->Int
 |0=>n.a
 |1=>n.b
 |2=>n.c
 |_=>0
theorem nv (len:Nat) (n:NodeP):eG len n=
  (decide (0<=aq n.kind)&&(pW (aq n.kind) len 0 (aW n 0)&&pW (aq n.kind) len 1 (aW n 1)&&pW (aq n.kind) len 2 (aW n 2))&&
   (if fe n.kind then fq n.name else decide (n.name.size=0))&&(decide (n.kind=30)||decide (n.m=0))&&
   (decide (n.kind=30\/n.kind=31\/n.kind=32\/n.kind=34)||decide (n.n=0))):=rfl
theorem HM {len:Nat} {n:NodeP} {i:Nat} (hi:i<3) (e:pW (aq n.kind) len i (aW n i)=false):eG len n=false:=by
 rw [nv]
 obtain rfl|rfl|rfl:i=0\/i=1\/i=2:=by omega
 ·rw [show ((0:Nat):Int)=0 from rfl]at e;rw [e];simp
 ·rw [show ((1:Nat):Int)=1 from rfl]at e;rw [e];simp
 ·rw [show ((2:Nat):Int)=2 from rfl]at e;rw [e];simp
theorem B3 {len:Nat} {n:NodeP} (hp:0<=aq n.kind) (e: ∀i:Nat,i<3->pW (aq n.kind) len i (aW n i)=true):eG len n=
  ((if fe n.kind then fq n.name else decide (n.name.size=0))&&(decide (n.kind=30)||decide (n.m=0))&&
    (decide (n.kind=30\/n.kind=31\/n.kind=32\/n.kind=34)||decide (n.n=0))):=by
 rw [nv,decide_eq_true hp]
 have e0:=e 0 (by omega)
 have e1:=e 1 (by omega)
 have e2:=e 2 (by omega)
 rw [show ((0:Nat):Int)=0 from rfl]at e0
 rw [show ((1:Nat):Int)=1 from rfl]at e1
 rw [show ((2:Nat):Int)=2 from rfl]at e2
 rw [e0,e1,e2];simp
theorem ql {h:Hp} {b z:Nat} {n:NodeP} (f:h b=some (.inl ⟨[I n.a,I n.b,I n.c],z,false⟩)) {i:Nat} (hi:i<3):Hp.cell h b i=some (I (aW n i)):=by
 rw [am f]
 obtain rfl|rfl|rfl:i=0\/i=1\/i=2:=by omega
 all_goals rfl
theorem Kv {h:Hp} {n:NodeP} {len:Nat} {R:Value->Hp->Prop} (hlen:len<=4611686018427387904) (hsz:n.name.size<=1048576)
  (k:R (.bool (eG len n)) h):lF #[Ck n,I len] h R:=by
 refine ACalls.drop (yn ?_)
 refine uf_ ?_
 refine ai fun b h1 hb l1 f1=>?_
 simp only [vm,rd,am f1]
 refine gJ ⟨_,rfl,ad (fun e=>⟨_,l1,df ?_ k⟩) (fun e=>?_)⟩
 ·rw [nv,decide_eq_false (by simp at e;omega)];simp
 have hp:0<=aq n.kind:=by simp at e;omega
 simp only [vm,rd,am f1]
 refine ai fun b2 h2 hb2 l2 f2=>?_
 have f1':=l2 _ _ f1
 have l12:=Hp.le_trans l1 l2
 refine aw 3 (fun i vs h'=>(∀j:Nat,j<i->pW (aq n.kind) len j (aW n j)=true)/\vs= [I len, .pointer (some ⟨b,0,none⟩),I (aq n.kind), .slice (some ⟨b2,0,none⟩) 3 3,I 3,I i]/\h'=h2) ⟨fun j hj=>by omega,rfl,rfl⟩ ?_
 rintro i _ h' next hi ⟨hg,rfl,rfl⟩ hn
 refine⟨_,_,_,_,⟨_,_,_⟩,_,_,rfl,?_⟩
 by_cases hlt:i<3
 ·refine aK (by simp;omega) ?_
  simp only [vm,ql f2 hlt]
  refine⟨by omega,?_⟩
  refine ap (fun J=>J (!(pW (aq n.kind) len i (aW n i))) h') ?_ (fun J hJ=>?_)
  ·refine ad (fun e=>⟨_,l12,df ?_ k⟩) (fun e=>?_)
   ·rw [HM hlt (by simpa using e)]
   ·rw [aE (by omega)]
    refine hn hlt _ _ ⟨fun j hj=>?_,rfl,rfl⟩
    by_cases hji:j=i
    ·subst hji;simpa using e
    ·exact hg j (by omega)
  ·clear k
   unfold pW at hJ
   rw [ca (by omega) (by omega)]
   refine ad (fun e=>eV ⟨_,rfl,?_⟩) (fun e=>?_)
   ·rw [if_pos (by simpa using e)]at hJ
    refine ad (fun e2=>?_) (fun e2=>ad (fun e3=>?_) (fun e3=>?_))
    ·exact eR (J:=fun b=>J b h') (by simpa using e2) hJ
    ·simp at e e3;omega
    ·exact eR (J:=fun b=>J b h') (by simpa using e2) hJ
   ·rw [if_neg (by simpa using e)]at hJ
    refine ad (fun e2=>?_) (fun e2=>?_)
    ·exact eR (J:=fun b=>J b h') (by rw [Bool.eq_iff_iff];simp) hJ
    ·simp at e e2;omega
 ·refine aF (by simp;omega) ?_
  rw [B3 hp (fun j hj=>hg j (by omega))]at k
  simp only [vm,rd,am f1',uY]
  refine ap (fun J=>J (decide (n.kind=30\/n.kind=31\/n.kind=32\/n.kind=34))) ?_ (fun J hJ=>?_)
  rotate_left
  ·clear k;repeat' (first|(with_reducible first|refine aK (b:=true) rfl ?_|refine aF (b:=false) rfl ?_|refine ad (fun _=>?_) fun _=>?_)|(refine eR ?_ hJ))
   all_goals (clear hJ;(exact tt))
  have hnm: ∀{R':Value->Hp->Prop},R' (.bool (fe n.kind)) h'->cZ #[I n.kind] h' R':=Fl
  have hin: ∀{R':Value->Hp->Prop},R' (.bool (fq n.name)) h'->im #[.string n.name] h' R':=fun k=>AV k (by omega)
  generalize fe n.kind=g at*
  generalize fq n.name=q at*
  repeat' (first|(with_reducible first|refine aK (b:=true) rfl ?_|refine aF (b:=false) rfl ?_|refine ad (fun _=>?_) fun _=>?_)|(with_reducible refine hnm ⟨_,rfl,?_⟩)|(with_reducible refine hin ⟨_,rfl,?_⟩)|(with_reducible refine Rf f1' rfl ?_)|(with_reducible refine R1 f1' rfl ?_)|(refine⟨_,l12,df ?_ k⟩;clear k hnm hin hn hg f1 f2 f1' l1 l2 l12 hb hb2;first|(simp_all;done)|(cases g<;>cases q<;>simp_all<;>done)))
theorem GK {h:Hp} {n:NodeP} {s:Sl} {R:Value->Hp->Prop} (hlen:s.n<=4611686018427387904)
  (k:R (.bool (eG s.n n)) h):pN #[s.v,Ck n] h R:=by
 refine ACalls.drop (Cz ?_)
 refine uf_ ?_
 refine ai fun b h1 hb l1 f1=>?_
 simp only [vm,rd,am f1]
 refine mw ⟨_,rfl,ad (fun e=>⟨_,l1,df ?_ k⟩) (fun e=>?_)⟩
 ·rw [nv,decide_eq_false (by simp at e;omega)];simp
 have hp:0<=aq n.kind:=by simp at e;omega
 simp only [vm,rd,am f1]
 refine ai fun b2 h2 hb2 l2 f2=>?_
 have f1':=l2 _ _ f1
 have l12:=Hp.le_trans l1 l2
 refine aw 3 (fun i vs h'=>(∀j:Nat,j<i->pW (aq n.kind) s.n j (aW n j)=true)/\vs= [s.v, .pointer (some ⟨b,0,none⟩),I (aq n.kind), .slice (some ⟨b2,0,none⟩) 3 3,I i]/\h'=h2) ⟨fun j hj=>by omega,rfl,rfl⟩ ?_
 rintro i _ h' next hi ⟨hg,rfl,rfl⟩ hn
 refine⟨_,_,_,_,⟨_,_,_⟩,_,rfl,?_⟩
 by_cases hlt:i<3
 ·refine aK (by simp;omega) ?_
  simp only [vm,ql f2 hlt]
  refine ap (fun J=>J (!(pW (aq n.kind) s.n i (aW n i))) h') ?_ (fun J hJ=>?_)
  ·refine ad (fun e=>⟨_,l12,df ?_ k⟩) (fun e=>?_)
   ·rw [HM hlt (by simpa using e)]
   ·rw [aE (by omega)]
    refine hn hlt _ _ ⟨fun j hj=>?_,rfl,rfl⟩
    by_cases hji:j=i
    ·subst hji;simpa using e
    ·exact hg j (by omega)
  ·clear k
   unfold pW at hJ
   rw [ca (by omega) (by omega)]
   refine ad (fun e=>⟨by omega,eO ⟨_,rfl,?_⟩⟩) (fun e=>?_)
   ·rw [if_pos (by simpa using e)]at hJ
    refine ad (fun e2=>?_) (fun e2=>ad (fun e3=>?_) (fun e3=>?_))
    ·exact eR (J:=fun b=>J b h') (by simpa using e2) hJ
    ·simp at e e3;omega
    ·exact eR (J:=fun b=>J b h') (by simpa using e2) hJ
   ·rw [if_neg (by simpa using e)]at hJ
    refine ad (fun e2=>?_) (fun e2=>?_)
    ·refine⟨by omega,?_⟩
     exact eR (J:=fun b=>J b h') (by rw [Bool.eq_iff_iff];simp) hJ
    ·simp at e e2;omega
 ·refine aF (by simp;omega) ?_
  rw [B3 hp (fun j hj=>hg j (by omega))]at k
  simp only [vm,rd,am f1',uY]
  refine ap (fun J=>J (fe n.kind)) ?_ (fun J hJ=>?_)
  rotate_left
  ·clear k;unfold fe at hJ;repeat' (first|(with_reducible first|refine aK (b:=true) rfl ?_|refine aF (b:=false) rfl ?_|refine ad (fun _=>?_) fun _=>?_)|(refine eR ?_ hJ))
   all_goals (clear hJ;(exact tt))
  have hin: ∀{R':Value->Hp->Prop},R' (.bool (fq n.name)) h'->nY #[.string n.name] h' R':=BB
  have hno:fq n.name=true-> ¬n.name.size=0:=fun e=>by have:=(oT.1 e).1;omega
  generalize fe n.kind=g at*
  generalize fq n.name=q at*
  simp only [dR]
  repeat' (first|(with_reducible first|refine aK (b:=true) rfl ?_|refine aF (b:=false) rfl ?_|refine ad (fun _=>?_) fun _=>?_)|(with_reducible refine hin ⟨_,rfl,?_⟩)|(with_reducible refine Rf f1' rfl ?_)|(with_reducible refine R1 f1' rfl ?_)|(refine⟨_,l12,df ?_ k⟩;clear k hin hn hg f1 f2 f1' l1 l2 l12 hb hb2;first|(simp_all;done)|(cases g<;>cases q<;>simp_all<;>done)|(rw [Bool.eq_iff_iff];cases g<;>cases q<;>simp_all<;>done)))
theorem bZ {h h0:Hp} {b z o m:Nat} {cs vs:List Value} {P:Hp->Prop} (f:h b=some (.inl ⟨cs,z,false⟩)) (l:h0.le h) (hb:h0 b=none) (hl:m<=cs.length)
  (k: ∀h',h' b=some (.inl ⟨cB cs o vs,z,false⟩)->(∀c,c≠b->h' c=h c)->h0.le h'->P h'):
  ∃(cs':List Value) (z':Nat),h b=some (.inl ⟨cs',z',false⟩)/\m<=List.length cs'/\co (h.row b (cB cs' o vs) z') fun h'=>P h':=
 ⟨cs,z,f,hl,k _ (bP _ _ _ _) (fun c e=>bV _ _ e) (dX _ _ hb l)⟩
theorem XT {h h':Hp} {b c:Nat} {P:Prop} (kp: ∀c,c≠b->h' c=h c) (e:c≠b) (k:P):h' c=h c/\P:=⟨kp c e,k⟩
theorem WN {α:Type} {c:α->Value} {h:Hp} {b z o:Nat} {cs:List Value} {ro:Bool} {x:α} {P:α->Prop} (f:h b=some (.inl ⟨cs,z,ro⟩)) (q:cs[o]?=some (c x)) (k:P x): ∃y:α,Hp.cell h b o=some (c y)/\P y:=⟨x,by rw [am f];exact q,k⟩
theorem ax {P Q:Prop} (k:Q) (h:Q->P:=by(first
 |((with_reducible apply WN);(assumption);(exact rfl))
 |with_reducible exact And.intro (Eq.refl _)
 |with_reducible exact And.intro True.intro
 |((with_reducible apply XT);(assumption);(assumption))
 |fail)):P:=h k
def Res (o:Option SortP) (t:SortP) (c:Bool):Prop:=o=if c then some t else none
theorem gU (a b:SortP):(a=b)=(a.idx=b.idx/\a.wid=b.wid):=by
 rcases a with ⟨i,w⟩;rcases b with ⟨j,v⟩;simp
theorem m4 {P:Prop} [Decidable P] {t t':SortP} {q:Bool} (h1:q=decide P) (h2:P->t=t'):Res (if P then some t else none) t' q:=by
 unfold Res;subst h1
 by_cases h:P
 ·simp [h,h2 h]
 ·simp [h]
theorem gp {a b:Int} (e:(a !=b)=true): ¬a=b:=by simpa using e
theorem eZ {a b:Int} (e:(a !=b)=false):a=b:=by simpa using e
theorem Ed (n:NodeP) (a b c:SortP):cY n a b c=
 (if n.kind=33 then(if(a.idx=0/\a.wid=1)/\b.idx=c.idx/\b.wid=c.wid then some b else none)else
 if n.kind=37 then(if 0<a.idx/\b.idx=0/\b.wid=a.idx then some ⟨0,a.wid⟩else none)else
 if n.kind=38 then(if 0<a.idx/\(b.idx=0/\b.wid=a.idx)/\c.idx=0/\c.wid=a.wid then some a else none)else
 if n.kind=21 then(if a.idx=b.idx/\a.wid=b.wid then some ⟨0,1⟩else none)else
 if 0<a.idx\/(aq n.kind=2/\0<b.idx)then none else
 if n.kind=29 then(if a.wid+b.wid<=16 then some ⟨0,a.wid+b.wid⟩else none)else
 if n.kind=30 then(if(0<=n.n/\n.n<=a.wid-1)/\0<=n.m/\n.m<=n.n then some ⟨0,n.n-n.m+1⟩else none)else
 if n.kind=31\/n.kind=32 then(if 0<=n.n/\n.n<=16-a.wid then some ⟨0,a.wid+n.n⟩else none)else
 if n.kind<=5 then some ⟨0,if n.kind<=2 then a.wid else 1⟩else
 if a.idx=b.idx/\a.wid=b.wid then some ⟨0,if n.kind<=20 then a.wid else 1⟩else none):=by
 unfold cY cr
 simp only [gU]
def kr (n:NodeP) (a b c:SortP):Option SortP:=
 if n.kind=35\/n.kind=36 then(if bO n.sort then some n.sort else none)else
 if n.kind=34 then(if decide (n.sort.idx=0)&&gZ n.sort.wid n.n then some n.sort else none)else cY n a b c
theorem JS {h:Hp} {n:NodeP} {a b c:SortP} {R:Value->Hp->Prop} (ha:0<aq n.kind->bO a=true) (hb:bO b=true\/b=⟨0,0⟩) (hc:bO c=true\/c=⟨0,0⟩) (hp:0<=aq n.kind)
  (hb2:aq n.kind<2->b=⟨0,0⟩)
  (k: ∀t q,Res (kr n a b c) t q->R (.tuple #[sX t, .bool q]) h):lw #[Ck n,sX a,sX b,sX c] h R:=by
 refine ACalls.drop (yj ?_)
 refine uf_ ?_
 refine ai fun b17 h1 hb17 l1 f17=>?_
 refine ai fun b19 h2 hb19 l2 f19=>?_
 refine ai fun b21 h3 hb21 l3 f21=>?_
 refine ai fun b23 h4 hb23 l4 f23=>?_
 refine ai fun b25 h5 hb25 l5 f25=>?_
 replace f17:=l4 _ _ (l3 _ _ (l2 _ _ f17))
 replace f19:=l4 _ _ (l3 _ _ f19)
 replace f21:=l4 _ _ f21
 have n17:=fresh_ne hb25 f17
 have n19:=fresh_ne hb25 f19
 have n21:=fresh_ne hb25 f21
 have n23:=fresh_ne hb25 f23
 replace f17:=l5 _ _ f17
 replace f19:=l5 _ _ f19
 replace f21:=l5 _ _ f21
 replace f23:=l5 _ _ f23
 have l:h.le h5:=Hp.le_trans l1 (Hp.le_trans l2 (Hp.le_trans l3 (Hp.le_trans l4 l5)))
 have b0:h b25=none:=aD (Hp.le_trans l1 (Hp.le_trans l2 (Hp.le_trans l3 l4))) hb25
 clear hb17 hb19 hb21 hb23 hb25 l1 l2 l3 l4 l5
 have lf: ∀{h'':Hp} {t:SortP} {q:Bool},h.le h''->Res (kr n a b c) t q-> ∃h':Hp,h'.le h''/\R (.tuple #[.agg #[I t.idx,I t.wid], .bool q]) h':=fun l e=>⟨_,l,k _ _ e⟩
 clear k
 (refine ax ?_)
 refine ap (fun J=>J (decide (n.kind=35\/n.kind=36))) ?_ (fun J hJ=>?_)
 rotate_left
 ·repeat' (first|(with_reducible first|refine aK (b:=true) rfl ?_|refine aF (b:=false) rfl ?_|refine ad (fun _=>?_) fun _=>?_)|(refine eR ?_ hJ))
  all_goals (clear hJ;(exact tt))
 refine ad (fun e=>?_) (fun e=>?_)
 ·repeat' (refine ax ?_)
  refine nR ⟨_,rfl,?_⟩
  (refine ax ?_)
  refine bZ f25 l b0 (by decide) fun h6 f6 kp6 l6=>?_
  repeat' (refine ax ?_)
  refine lf (t:=n.sort) l6 ?_
  unfold Res kr
  rw [if_pos (of_decide_eq_true e)]
 have e35:=of_decide_eq_false e
 refine ad (fun e=>?_) (fun e=>?_)
 ·have e34:=bR e
  simp only [dR]
  repeat' (refine ax ?_)
  refine ad (fun e=>?_) (fun e=>?_)
  ·repeat' (refine ax ?_)
   refine AW ⟨_,rfl,?_⟩
   (refine ax ?_)
   refine bZ f25 l b0 (by decide) fun h6 f6 kp6 l6=>?_
   repeat' (refine ax ?_)
   refine lf (t:=n.sort) l6 ?_
   unfold Res kr
   rw [if_neg e35,if_pos e34,decide_eq_true (bR e),Bool.true_and]
  ·(refine ax ?_)
   refine bZ f25 l b0 (by decide) fun h6 f6 kp6 l6=>?_
   repeat' (refine ax ?_)
   refine lf (t:=n.sort) l6 ?_
   unfold Res kr
   rw [if_neg e35,if_pos e34,decide_eq_false (aY e),Bool.false_and]
 have e34:=aY e
 have er:kr n a b c=cY n a b c:=by unfold kr;rw [if_neg e35,if_neg e34]
 have hp1:0<aq n.kind:=by
  have:aq n.kind≠0:=by
   unfold aq;repeat' split
   all_goals first|omega|decide
  omega
 replace ha:=bX.1 (ha hp1)
 have wa1:W (a.wid-1)=a.wid-1:=ca (by omega) (by omega)
 have wa16:W (16-a.wid)=16-a.wid:=ca (by omega) (by omega)
 have wab:W (a.wid+b.wid)=a.wid+b.wid:=by
  have: -100<=b.wid/\b.wid<=16:=by
   rcases hb with h|h
   ·have:=bX.1 h;omega
   ·rw [h];decide
  exact ca (by omega) (by omega)
 rw [er]at lf
 clear er
 rw [Ed]at lf
 (with_reducible first|refine aK (b:=true) rfl ?_|refine aF (b:=false) rfl ?_|refine ad (fun _=>?_) fun _=>?_)
 ·rw [if_pos (bR (by assumption))]at lf
  simp only [dR]
  ((repeat' (first|(with_reducible first|refine aK (b:=true) rfl ?_|refine aF (b:=false) rfl ?_|refine ad (fun _=>?_) fun _=>?_)|(refine ax ?_)|(with_reducible refine da ⟨_,_,rfl,?_⟩)|(with_reducible refine eV ⟨_,rfl,?_⟩)|((with_reducible apply bZ);(assumption);(exact l);(exact b0);(decide);(intro _ _ _ _))|(refine lf (t:=⟨_,_⟩) (by assumption) ?_;clear lf l b0;((unfold Res;(try simp only [cr,gU,Bool.and_true,Bool.and_eq_false_iff,Bool.or_eq_false_iff]at*);((try simp only [decide_eq_true_eq,decide_eq_false_iff_not,beq_iff_eq,beq_eq_false_iff_ne,bne_iff_ne,bne_eq_false_iff_eq,ne_eq,Bool.not_eq_true',Bool.not_eq_false',Bool.and_eq_true,Bool.or_eq_true,Bool.true_and,Bool.false_and,Bool.and_true,Bool.and_false,Bool.true_or,Bool.false_or,reduceCtorEq,iff_false,iff_true,false_iff,true_iff,Bool.not_true,Bool.not_false]at*));(repeat' split)<;>(first|rfl|contradiction|omega|(simp only [Option.some.injEq,SortP.mk.injEq,gU,Bool.true_eq_false];omega)|skip)))))))
 rw [if_neg (aY (by assumption))]at lf
 (with_reducible first|refine aK (b:=true) rfl ?_|refine aF (b:=false) rfl ?_|refine ad (fun _=>?_) fun _=>?_)
 ·((repeat' (first|(with_reducible first|refine aK (b:=true) rfl ?_|refine aF (b:=false) rfl ?_|refine ad (fun _=>?_) fun _=>?_)|(refine ax ?_)|(with_reducible refine da ⟨_,_,rfl,?_⟩)|(with_reducible refine eV ⟨_,rfl,?_⟩)|((with_reducible apply bZ);(assumption);(exact l);(exact b0);(decide);(intro _ _ _ _))|(refine lf (t:=⟨_,_⟩) (by assumption) ?_;clear lf l b0;((unfold Res;(try simp only [cr,gU,Bool.and_true,Bool.and_eq_false_iff,Bool.or_eq_false_iff]at*);((try simp only [decide_eq_true_eq,decide_eq_false_iff_not,beq_iff_eq,beq_eq_false_iff_ne,bne_iff_ne,bne_eq_false_iff_eq,ne_eq,Bool.not_eq_true',Bool.not_eq_false',Bool.and_eq_true,Bool.or_eq_true,Bool.true_and,Bool.false_and,Bool.and_true,Bool.and_false,Bool.true_or,Bool.false_or,reduceCtorEq,iff_false,iff_true,false_iff,true_iff,Bool.not_true,Bool.not_false]at*));(repeat' split)<;>(first|rfl|contradiction|omega|(simp only [Option.some.injEq,SortP.mk.injEq,gU,Bool.true_eq_false];omega)|skip)))))))
 have e21:=aY (by assumption)
 (with_reducible first|refine aK (b:=true) rfl ?_|refine aF (b:=false) rfl ?_|refine ad (fun _=>?_) fun _=>?_)
 ·rw [if_pos (bR (by assumption))]at lf
  simp only [dR]
  ((repeat' (first|(with_reducible first|refine aK (b:=true) rfl ?_|refine aF (b:=false) rfl ?_|refine ad (fun _=>?_) fun _=>?_)|(refine ax ?_)|(with_reducible refine da ⟨_,_,rfl,?_⟩)|(with_reducible refine eV ⟨_,rfl,?_⟩)|((with_reducible apply bZ);(assumption);(exact l);(exact b0);(decide);(intro _ _ _ _))|(refine lf (t:=⟨_,_⟩) (by assumption) ?_;clear lf l b0;((unfold Res;(try simp only [cr,gU,Bool.and_true,Bool.and_eq_false_iff,Bool.or_eq_false_iff]at*);((try simp only [decide_eq_true_eq,decide_eq_false_iff_not,beq_iff_eq,beq_eq_false_iff_ne,bne_iff_ne,bne_eq_false_iff_eq,ne_eq,Bool.not_eq_true',Bool.not_eq_false',Bool.and_eq_true,Bool.or_eq_true,Bool.true_and,Bool.false_and,Bool.and_true,Bool.and_false,Bool.true_or,Bool.false_or,reduceCtorEq,iff_false,iff_true,false_iff,true_iff,Bool.not_true,Bool.not_false]at*));(repeat' split)<;>(first|rfl|contradiction|omega|(simp only [Option.some.injEq,SortP.mk.injEq,gU,Bool.true_eq_false];omega)|skip)))))))
 rw [if_neg (aY (by assumption))]at lf
 (with_reducible first|refine aK (b:=true) rfl ?_|refine aF (b:=false) rfl ?_|refine ad (fun _=>?_) fun _=>?_)
 ·rw [if_pos (bR (by assumption))]at lf
  simp only [dR]
  ((repeat' (first|(with_reducible first|refine aK (b:=true) rfl ?_|refine aF (b:=false) rfl ?_|refine ad (fun _=>?_) fun _=>?_)|(refine ax ?_)|(with_reducible refine da ⟨_,_,rfl,?_⟩)|(with_reducible refine eV ⟨_,rfl,?_⟩)|((with_reducible apply bZ);(assumption);(exact l);(exact b0);(decide);(intro _ _ _ _))|(refine lf (t:=⟨_,_⟩) (by assumption) ?_;clear lf l b0;((unfold Res;(try simp only [cr,gU,Bool.and_true,Bool.and_eq_false_iff,Bool.or_eq_false_iff]at*);((try simp only [decide_eq_true_eq,decide_eq_false_iff_not,beq_iff_eq,beq_eq_false_iff_ne,bne_iff_ne,bne_eq_false_iff_eq,ne_eq,Bool.not_eq_true',Bool.not_eq_false',Bool.and_eq_true,Bool.or_eq_true,Bool.true_and,Bool.false_and,Bool.and_true,Bool.and_false,Bool.true_or,Bool.false_or,reduceCtorEq,iff_false,iff_true,false_iff,true_iff,Bool.not_true,Bool.not_false]at*));(repeat' split)<;>(first|rfl|contradiction|omega|(simp only [Option.some.injEq,SortP.mk.injEq,gU,Bool.true_eq_false];omega)|skip)))))))
 rw [if_neg (aY (by assumption)),if_neg e21]at lf
 have n33: ¬n.kind=33:=aY (by assumption)
 have n37: ¬n.kind=37:=aY (by assumption)
 have n38: ¬n.kind=38:=aY (by assumption)
 have hbi:0<=b.idx/\b.wid<=16/\0<=b.wid:=by
  rcases hb with h|h
  ·have:=bX.1 h;omega
  ·rw [h];decide
 have p12:aq n.kind=1\/aq n.kind=2:=by
  rcases ui n.kind with h|h|h|h|h
  ·omega
  ·exact .inl h
  ·exact .inr h
  ·exfalso;revert h;unfold aq;(repeat' split)<;>first|omega|(intro h;omega)
  ·omega
 have hb1:aq n.kind=1->b.idx=0:=fun h=>by rw [hb2 (by omega)]
 clear hb hc hb2
 refine ap (fun J=>J (decide (0<a.idx\/(aq n.kind=2/\0<b.idx)))) ?_ (fun J hJ=>?_)
 rotate_left
 ·(refine ax ?_)
  (with_reducible first|refine aK (b:=true) rfl ?_|refine aF (b:=false) rfl ?_|refine ad (fun _=>?_) fun _=>?_)
  ·refine eR ?_ hJ;clear hJ;have:=gp (by assumption);rw [eq_comm,decide_eq_true_eq];omega
  (refine ax ?_)
  refine eR ?_ hJ;clear hJ
  have:a.idx=0:=eZ (by assumption)
  rw [Bool.eq_iff_iff,bne_iff_ne,decide_eq_true_eq];omega
 refine ad (fun e=>?_) (fun e=>?_)
 ·rw [if_pos (of_decide_eq_true e)]at lf
  ((repeat' (first|(with_reducible first|refine aK (b:=true) rfl ?_|refine aF (b:=false) rfl ?_|refine ad (fun _=>?_) fun _=>?_)|(refine ax ?_)|(with_reducible refine da ⟨_,_,rfl,?_⟩)|(with_reducible refine eV ⟨_,rfl,?_⟩)|((with_reducible apply bZ);(assumption);(exact l);(exact b0);(decide);(intro _ _ _ _))|(refine lf (t:=⟨_,_⟩) (by assumption) ?_;clear lf l b0;((unfold Res;(try simp only [cr,gU,Bool.and_true,Bool.and_eq_false_iff,Bool.or_eq_false_iff]at*);((try simp only [decide_eq_true_eq,decide_eq_false_iff_not,beq_iff_eq,beq_eq_false_iff_ne,bne_iff_ne,bne_eq_false_iff_eq,ne_eq,Bool.not_eq_true',Bool.not_eq_false',Bool.and_eq_true,Bool.or_eq_true,Bool.true_and,Bool.false_and,Bool.and_true,Bool.and_false,Bool.true_or,Bool.false_or,reduceCtorEq,iff_false,iff_true,false_iff,true_iff,Bool.not_true,Bool.not_false]at*));(repeat' split)<;>(first|rfl|contradiction|omega|(simp only [Option.some.injEq,SortP.mk.injEq,gU,Bool.true_eq_false];omega)|skip)))))))
 rw [if_neg (of_decide_eq_false e)]at lf
 replace e:=of_decide_eq_false e
 refine ap (fun J=>J (decide (n.kind=1\/n.kind=2))) ?_ (fun J hJ=>?_)
 rotate_left
 ·repeat' (first|(with_reducible first|refine aK (b:=true) rfl ?_|refine aF (b:=false) rfl ?_|refine ad (fun _=>?_) fun _=>?_)|(refine ax ?_)|(refine eR ?_ hJ))
  all_goals (clear hJ;(exact tt))
 refine ad (fun e1=>?_) (fun e1=>?_)
 ·replace e1:=of_decide_eq_true e1
  rw [if_neg (by omega),if_neg (by omega),if_neg (by omega),if_pos (by omega),if_pos (by omega)]at lf
  repeat' (refine ax ?_)
  (with_reducible apply bZ);(assumption);(exact l);(exact b0);(decide);intro _ _ _ _
  repeat' (refine ax ?_)
  refine lf (t:=⟨_,_⟩) (by assumption) ?_
  rw [show a.idx=0 by omega];rfl
 replace e1:=of_decide_eq_false e1
 (refine ax ?_)
 refine eV ⟨_,rfl,ad (fun e2=>?_) (fun e2=>?_)⟩
 ·replace e2:=of_decide_eq_true e2
  rw [if_neg (by omega),if_neg (by omega),if_neg (by omega),if_pos (by omega),if_neg (by omega)]at lf
  refine da ⟨_,_,rfl,?_⟩
  (with_reducible apply bZ);(assumption);(exact l);(exact b0);(decide);intro _ _ _ _
  repeat' (refine ax ?_)
  exact lf (t:=⟨_,_⟩) (by assumption) rfl
 replace e2:=of_decide_eq_false e2
 (refine ax ?_)
 refine ad (fun e3=>?_) (fun e3=>?_)
 ·replace e3:=bR e3
  rw [if_neg (by omega),if_pos e3]at lf
  simp only [dR]
  repeat' (refine ax ?_)
  refine da ⟨_,_,rfl,?_⟩
  repeat' (refine ax ?_)
  refine eV ⟨_,rfl,?_⟩
  rw [wa1]
  refine ad (fun e4=>?_) (fun e4=>?_)
  ·repeat' (refine ax ?_)
   refine eV ⟨_,rfl,?_⟩
   (with_reducible apply bZ);(assumption);(exact l);(exact b0);(decide);intro _ _ _ _
   repeat' (refine ax ?_)
   refine lf (t:=⟨_,_⟩) (by assumption) (m4 ?_ ?_)
   ·rw [decide_eq_decide];exact⟨fun h=>⟨of_decide_eq_true e4,h⟩,fun h=>h.2⟩
   ·intro h
    rw [ca (n:=n.n-n.m) (by omega) (by omega),ca (by omega) (by omega)]
  ·(with_reducible apply bZ);(assumption);(exact l);(exact b0);(decide);intro _ _ _ _
   repeat' (refine ax ?_)
   refine lf (t:=⟨_,_⟩) (by assumption) (m4 ?_ ?_)
   ·symm;rw [decide_eq_false_iff_not];exact fun h=>of_decide_eq_false e4 h.1
   ·exact fun h=>absurd h.1 (of_decide_eq_false e4)
 replace e3:=aY e3
 refine ap (fun J=>J (decide (n.kind=31\/n.kind=32))) ?_ (fun J hJ=>?_)
 rotate_left
 ·repeat' (first|(with_reducible first|refine aK (b:=true) rfl ?_|refine aF (b:=false) rfl ?_|refine ad (fun _=>?_) fun _=>?_)|(refine ax ?_)|(refine eR ?_ hJ))
  all_goals (clear hJ;(exact tt))
 refine ad (fun e4=>?_) (fun e4=>?_)
 ·replace e4:=of_decide_eq_true e4
  rw [if_neg (by omega),if_neg (by omega),if_pos (by omega)]at lf
  repeat' (refine ax ?_)
  refine da ⟨_,_,rfl,?_⟩
  repeat' (refine ax ?_)
  refine eV ⟨_,rfl,?_⟩
  rw [wa16]
  (with_reducible apply bZ);(assumption);(exact l);(exact b0);(decide);intro _ _ _ _
  repeat' (refine ax ?_)
  refine lf (t:=⟨_,_⟩) (by assumption) (m4 rfl ?_)
  ·intro h
   show _=SortP.mk 0 _
   rw [ca (by omega) (by omega)]
 replace e4:=of_decide_eq_false e4
 (refine ax ?_)
 refine ad (fun e5=>?_) (fun e5=>?_)
 ·replace e5:=bR e5
  rw [if_pos e5]at lf
  repeat' (refine ax ?_)
  refine da ⟨_,_,rfl,?_⟩
  repeat' (refine ax ?_)
  (with_reducible apply bZ);(assumption);(exact l);(exact b0);(decide);intro _ _ _ _
  repeat' (refine ax ?_)
  refine lf (t:=⟨_,_⟩) (by assumption) (m4 (by rw [wab]) ?_)
  ·intro h
   show _=SortP.mk 0 _
   rw [wab]
 replace e5:=aY e5
 have k5: ¬n.kind<=5:=by
  intro h
  have:aq n.kind= -1:=by unfold aq;(repeat' split)<;>omega
  omega
 rw [if_neg (by omega),if_neg (by omega),if_neg (by omega),if_neg (by omega)]at lf
 (refine ax ?_)
 refine eV ⟨_,rfl,ad (fun e6=>?_) (fun e6=>?_)⟩
 ·replace e6:=of_decide_eq_true e6
  rw [if_neg (show¬n.kind<=20 by omega)]at lf
  repeat' (refine ax ?_)
  refine da ⟨_,_,rfl,?_⟩
  repeat' (refine ax ?_)
  (with_reducible apply bZ);(assumption);(exact l);(exact b0);(decide);intro _ _ _ _
  repeat' (refine ax ?_)
  refine lf (t:=⟨_,_⟩) (by assumption) (m4 ?_ ?_)
  ·rw [Bool.eq_iff_iff];simp
  ·intro h;rfl
 replace e6:=of_decide_eq_false e6
 have k20:n.kind<=20:=by
  by_cases h20:n.kind<=20
  ·exact h20
  ·have:aq n.kind= -1\/aq n.kind=0:=by unfold aq;(repeat' split)<;>omega
   omega
 rw [if_pos k20]at lf
 repeat' (refine ax ?_)
 (with_reducible apply bZ);(assumption);(exact l);(exact b0);(decide);intro _ _ _ _
 repeat' (refine ax ?_)
 refine lf (t:=⟨_,_⟩) (by assumption) (m4 ?_ ?_)
 ·rw [Bool.eq_iff_iff];simp
 ·intro h;rw [show a.idx=0 by omega]
abbrev nodeCells (n:NodeP):List Value:= [I n.kind,I n.a,I n.b,I n.c,I n.n,I n.m,I n.sort.idx,I n.sort.wid, .string n.name]
def iB (h:Hp) (s:Sl) (l:List NodeP):Prop:=SlC h s 9 (l.flatMap nodeCells)
theorem iB.mono {h h':Hp} {s:Sl} {l:List NodeP} (le:h.le h') (e:iB h s l):iB h' s l:=SlC.mono le e
theorem hE {α:Type} {f:α->List Value} {m:Nat} (hf: ∀x,(f x).length=m) (l:List α):(l.flatMap f).length=l.length*m:=by
 induction l with
 |nil=>simp
 |cons x l ih=>rw [List.flatMap_cons,List.length_append,ih,hf,List.length_cons,Nat.succ_mul];omega
theorem vn {α:Type} {f:α->List Value} {m:Nat} (hf: ∀x,(f x).length=m) (l:List α): ∀(i:Nat) (x:α) (j:Nat),l[i]?=some x->j<m->(l.flatMap f)[i*m+j]?=(f x)[j]?:=by
 induction l with
 |nil=>intro i x j h;simp at h
 |cons y l ih=>
  intro i x j h hj
  rw [List.flatMap_cons]
  cases i with
  |zero=>
   simp at h;subst h
   rw [Nat.zero_mul,Nat.zero_add,List.getElem?_append_left (by rw [hf];exact hj)]
  |succ i=>
   simp at h
   have e:(i+1)*m+j=m+(i*m+j):=by rw [Nat.succ_mul];omega
   rw [List.getElem?_append_right (by rw [hf,e];omega),hf,e,Nat.add_sub_cancel_left]
   exact ih i x j h hj
theorem iB.len {h:Hp} {s:Sl} {l:List NodeP} (e:iB h s l):s.n=l.length:=by
 have:=e.2.1
 rw [hE (m:=9) (fun _=>rfl)]at this;omega
theorem iB.at {h:Hp} {s:Sl} {l:List NodeP} (e:iB h s l) {i:Nat} {n:NodeP} (hi:l[i]?=some n):
  ∃b o,s.a=some (Addr.mk b o none)/\Hp.cell h b (o+i*9)=some (I n.kind)/\Hp.cell h b ((o+i*9)+1)=some (I n.a)/\Hp.cell h b ((o+i*9)+2)=some (I n.b)/\
   Hp.cell h b ((o+i*9)+3)=some (I n.c)/\Hp.cell h b ((o+i*9)+4)=some (I n.n)/\Hp.cell h b ((o+i*9)+5)=some (I n.m)/\
   Hp.cell h b ((o+i*9)+6)=some (I n.sort.idx)/\Hp.cell h b ((o+i*9)+7)=some (I n.sort.wid)/\Hp.cell h b ((o+i*9)+8)=some (.string n.name):=by
 have hl:=e.len
 have hlt:i<l.length:=by
  rcases Nat.lt_or_ge i l.length with h|h
  ·exact h
  ·rw [List.getElem?_eq_none h]at hi;cases hi
 obtain⟨b,o,ha,hc⟩:=SlC.get e (by omega)
 have g: ∀j v,j<9->(nodeCells n)[j]?=some v->Hp.cell h b ((o+i*9)+j)=some v:=fun j v hj hv=>by
  rw [Nat.add_assoc]
  refine hc _ _ ?_
  rw [vn (m:=9) (fun _=>rfl) l i n j hi hj];exact hv
 exact⟨b,o,ha,g 0 _ (by omega) rfl,g 1 _ (by omega) rfl,g 2 _ (by omega) rfl,g 3 _ (by omega) rfl,g 4 _ (by omega) rfl,g 5 _ (by omega) rfl,g 6 _ (by omega) rfl,g 7 _ (by omega) rfl,g 8 _ (by omega) rfl⟩
theorem dy {h h1 h':Hp} {b:Nat} (hb:h b=none) (l:h.le h1) (kp: ∀c,c≠b->h' c=h1 c):h.le h':=fun c x e=>by
 rw [kp c (fresh_ne hb e)];exact l _ _ e
theorem oQ {l:List NodeP} {p:Int} {n:NodeP} (h:l[p.toNat]?=some n):aC l p=n.sort:=by unfold aC;rw [h]
def Ei (o:Option SortP):Value:=match o with|some t=> .tuple #[sX t, .bool true]|none=> .tuple #[sX ⟨0,0⟩, .bool false]
def du (l:List NodeP) (n:NodeP) (i j:Nat):SortP:=if j<i then aC l (aW n j)else⟨0,0⟩
def yC (l:List NodeP) (n:NodeP) (i:Nat):List Value:=
 [I (du l n i 0).idx,I (du l n i 0).wid,I (du l n i 1).idx,I (du l n i 1).wid,I (du l n i 2).idx,I (du l n i 2).wid]
theorem KY {l:List NodeP} {n:NodeP} {i:Nat} (hi:i<3):cB (yC l n i) (i*2) [I (aC l (aW n i)).idx,I (aC l (aW n i)).wid]=yC l n (i+1):=by
 obtain rfl|rfl|rfl:i=0\/i=1\/i=2:=by omega
 all_goals rfl
theorem lX {len:Nat} {n:NodeP} (e:eG len n=true) {i:Nat} (h3:i<3) (hi:(i:Int)<aq n.kind):0<=aW n i/\aW n i<len:=by
 rw [nv]at e
 simp only [Bool.and_eq_true]at e
 have key: ∀p:Int,pW (aq n.kind) len i p=true->0<=p/\p<len:=fun p hp=>by
  unfold pW at hp;rw [if_pos hi]at hp;simp at hp;omega
 obtain rfl|rfl|rfl:i=0\/i=1\/i=2:=by omega
 ·exact key _ e.1.1.1.2.1.1
 ·exact key _ e.1.1.1.2.1.2
 ·exact key _ e.1.1.1.2.2
theorem iU {len:Nat} {n:NodeP} (e:eG len n=true):0<=aq n.kind:=by
 rw [nv]at e
 simp only [Bool.and_eq_true,decide_eq_true_eq]at e
 exact e.1.1.1.1
theorem iC (k:Int):aq k<=3:=by rcases ui k with h|h|h|h|h<;>omega
def I5 (l:List NodeP) (n:NodeP):Prop:= ∀i:Nat,i<3->(i:Int)<aq n.kind->bO (aC l (aW n i))=true
theorem MH {n:NodeP} {a b c:SortP} (h:aq n.kind=1):cY n a b c=cY n a ⟨0,0⟩ ⟨0,0⟩:=by
 have k33:n.kind≠33/\n.kind≠37/\n.kind≠38/\n.kind≠21/\n.kind≠29:=by
  refine⟨?_,?_,?_,?_,?_⟩<;>(intro e;rw [e]at h;revert h;decide)
 have k6:n.kind=30\/n.kind=31\/n.kind=32\/n.kind<=5:=by
  have:(1<=n.kind/\n.kind<=5)\/(30<=n.kind/\n.kind<=32):=by
   unfold aq at h
   by_cases e:(1<=n.kind/\n.kind<=5)\/(30<=n.kind/\n.kind<=32)
   ·exact e
   ·rw [if_neg e]at h;revert h;(repeat' split)<;>(intro h;omega)
  omega
 unfold cY
 obtain⟨a1,a2,a3,a4,a5⟩:=k33
 simp only [a1,a2,a3,a4,a5,h,if_false]
 rcases k6 with e|e|e|e
 ·simp only [e,if_true];simp
 ·simp only [e];simp
 ·simp only [e];simp
 ·simp only [show¬n.kind=30 by omega,show¬(n.kind=31\/n.kind=32) by omega,e,if_true,if_false];simp
theorem Nl {n:NodeP} {a b c:SortP} (h:aq n.kind=2):cY n a b c=cY n a b ⟨0,0⟩:=by
 have k33:n.kind≠33/\n.kind≠38:=by
  refine⟨?_,?_⟩<;>(intro e;rw [e]at h;revert h;decide)
 unfold cY
 rw [if_neg k33.1,if_neg k33.1]
 simp only [k33.2,if_false]
theorem vJ {l:List NodeP} {n:NodeP} (hl:l.length<=60) (hf:eG l.length n=true) (ho:I5 l n):
  cK l n=kr n (du l n (aq n.kind).toNat 0) (du l n (aq n.kind).toNat 1) (du l n (aq n.kind).toNat 2):=by
 have hk:=iU hf
 unfold cK
 rw [if_pos ⟨hl,hf⟩]
 by_cases h0:aq n.kind=0
 ·rw [if_pos h0]
  have k3:n.kind=34\/n.kind=35\/n.kind=36:=by
   revert h0;unfold aq;(repeat' split)<;>(intro h;omega)
  unfold kr
  by_cases h34:n.kind=34
  ·rw [if_pos h34,if_neg (show¬(n.kind=35\/n.kind=36) by omega),if_pos h34]
  ·rw [if_neg h34,if_pos (show n.kind=35\/n.kind=36 by omega)]
 ·rw [if_neg h0]
  have hs:(bO (aC l n.a)&&((decide (aq n.kind<2)||bO (aC l n.b))&&(decide (aq n.kind<3)||bO (aC l n.c))))=true:=by
   have p0:=ho 0 (by omega) (by omega)
   have p1:=ho 1 (by omega)
   have p2:=ho 2 (by omega)
   simp only [aW]at p0 p1 p2
   simp only [Bool.and_eq_true,Bool.or_eq_true,decide_eq_true_eq]
   refine⟨p0,?_,?_⟩
   ·by_cases h:aq n.kind<2
    ·exact .inl h
    ·exact .inr (p1 (by omega))
   ·by_cases h:aq n.kind<3
    ·exact .inl h
    ·exact .inr (p2 (by omega))
  rw [if_pos hs]
  unfold kr
  have k3: ¬(n.kind=34\/n.kind=35\/n.kind=36):=by
   rintro (e|e|e)<;>(rw [e]at h0;exact h0 (by decide))
  rw [if_neg (show¬(n.kind=35\/n.kind=36) by omega),if_neg (show¬n.kind=34 by omega)]
  have hle:=iC n.kind
  obtain e|e|e:aq n.kind=1\/aq n.kind=2\/aq n.kind=3:=by omega
  ·rw [MH e,MH (b:=du _ _ _ 1) e,e];rfl
  ·rw [Nl e,Nl (c:=du _ _ _ 2) e,e];rfl
  ·rw [e];rfl
theorem Ca {l:List NodeP} {n:NodeP} {i:Nat} (h3:i<3) (hi:(i:Int)<aq n.kind) (ho:bO (aC l (aW n i))=false):cK l n=none:=by
 unfold cK
 split
 ·rw [if_neg (show¬aq n.kind=0 by omega)]
  have:(bO (aC l n.a)&&((decide (aq n.kind<2)||bO (aC l n.b))&&(decide (aq n.kind<3)||bO (aC l n.c))))=false:=by
   obtain rfl|rfl|rfl:i=0\/i=1\/i=2:=by omega
   ·simp only [aW]at ho;rw [ho];simp
   ·simp only [aW]at ho;rw [ho,decide_eq_false (show¬aq n.kind<2 by omega)];simp
   ·simp only [aW]at ho;rw [ho,decide_eq_false (show¬aq n.kind<3 by omega)];simp
  rw [if_neg (by rw [this];decide)]
 ·rfl
theorem Ab {l:List NodeP} {n:NodeP} (h: ¬(l.length<=60/\eG l.length n=true)):cK l n=none:=by
 unfold cK;rw [if_neg h]
theorem cc {h h':Hp} {b c:Nat} {x:Blk} (kp: ∀c,c≠b->h' c=h c) (e:c≠b) (f:h c=some x):h' c=some x:=by rw [kp c e];exact f
theorem Mq {l:List NodeP} {n:NodeP} {i:Nat} (hi:i<3):(yC l n (i+1))[i*2]?=some (I (aC l (aW n i)).idx)/\(yC l n (i+1))[i*2+1]?=some (I (aC l (aW n i)).wid):=by
 obtain rfl|rfl|rfl:i=0\/i=1\/i=2:=by omega
 all_goals exact⟨rfl,rfl⟩
theorem qx {h:Hp} {s:Sl} {l:List NodeP} {n:NodeP} {R:Value->Hp->Prop} (hs:iB h s l) (hsz:n.name.size<=1048576) (hl:l.length<=1048576)
  (k:R (Ei (cK l n)) h):gO #[s.v,Ck n] h R:=by
 refine ACalls.drop (CT ?_)
 refine uf_ ?_
 have hn:=hs.len
 refine ai fun b12 h1 hb12 l1 f12=>?_
 refine ai fun b14 h2 hb14 l2 f14=>?_
 have n12:b12≠b14:=fresh_ne hb14 f12
 replace f12:=l2 _ _ f12
 have lh:h.le h2:=Hp.le_trans l1 l2
 have b14n:h b14=none:=aD l1 hb14
 have lf: ∀{h'':Hp} {v:Value},h.le h''->v=Ei (cK l n)-> ∃h':Hp,h'.le h''/\R v h':=fun l e=>⟨_,l,e▸k⟩
 clear k
 refine ap (fun J=>J (!(decide (l.length<=60)&&eG l.length n)) h2) ?_ (fun J hJ=>?_)
 rotate_left
 ·rw [<-hn]at hJ
  refine ad (fun e=>?_) (fun e=>?_)
  ·rw [decide_eq_false (by simp at e;omega),Bool.false_and]at hJ;exact hJ
  ·rw [decide_eq_true (by simp at e;omega),Bool.true_and]at hJ
   repeat' (refine ax ?_)
   exact Kv (n:=n) (by omega) hsz ⟨_,rfl,hJ⟩
 refine ad (fun e=>?_) (fun e=>?_)
 ·(with_reducible apply bZ);(assumption);(exact lh);(exact b14n);(decide);intro _ _ _ _
  repeat' (refine ax ?_)
  refine lf (by assumption) ?_
  rw [Ab (by intro hh;rw [decide_eq_true hh.1,hh.2]at e;cases e)];rfl
 have hh:l.length<=60/\eG l.length n=true:=by simpa using e
 have hk:=iU hh.2
 have hk3:=iC n.kind
 refine ai fun b39 h3 hb39 l3 f39=>?_
 have n39:b14≠b39:=fresh_ne hb39 f14
 have n39':b12≠b39:=fresh_ne hb39 f12
 have b39n:h b39=none:=aD lh hb39
 replace f12:=l3 _ _ f12
 replace f14:=l3 _ _ f14
 replace lh:=Hp.le_trans lh l3
 refine ap (fun J=> ∀b46 h',h.le h'->h' b12=some (.inl ⟨nodeCells n,9,false⟩)->h' b14=some (.inl ⟨[I 0,I 0],2,false⟩)->h' b39=some (.inl ⟨yC l n 0,6,false⟩)->
  h' b46=some (.inl ⟨[I n.a,I n.b,I n.c],3,false⟩)->b46≠b39->b12≠b14->J (Sl.mk (some ⟨b46,0,none⟩) (aq n.kind).toNat 3) (((aq n.kind).toNat:Nat):Int) h') ?_ (fun J hJ=>?_)
 rotate_left
 ·repeat' (refine ax ?_)
  constructor
  ·refine ai fun b46 h4 hb46 l4 f46=>?_
   have e12:h4 b12=h3 b12:=by rw [l4 _ _ f12,f12]
   refine⟨e12,gJ ⟨_,rfl,e12,e12,e12,by decide,by simpa using hk,by simpa using hk3, .inr ⟨_,_,rfl,?_⟩⟩⟩
   exact hJ b46 h4 (Hp.le_trans lh l4) (l4 _ _ f12) (l4 _ _ f14) (l4 _ _ f39) f46 (fresh_ne hb46 f39).symm n12
  ·refine gJ ⟨_,rfl,rfl,rfl,rfl,?_⟩
   refine ai fun b46 h4 hb46 l4 f46=>?_
   have e12:h4 b12=h3 b12:=by rw [l4 _ _ f12,f12]
   refine⟨e12,by decide,by simpa using hk,by simpa using hk3, .inr ⟨_,_,rfl,?_⟩⟩
   exact hJ b46 h4 (Hp.le_trans lh l4) (l4 _ _ f12) (l4 _ _ f14) (l4 _ _ f39) f46 (fresh_ne hb46 f39).symm n12
 clear f12 f14 f39 lh l3 l1 l2 hb39 hb14 hb12
 intro b46 h4 lh f12 f14 f39 f46 n46 n12
 have hkk:((aq n.kind).toNat:Int)=aq n.kind:=by omega
 refine aw (aq n.kind).toNat (fun i vs h'=>vs= [s.v, .pointer (some ⟨b12,0,none⟩), .pointer (some ⟨b14,0,none⟩), .pointer (some ⟨b39,0,none⟩), .slice (some ⟨b46,0,none⟩) (aq n.kind).toNat 3,I (aq n.kind).toNat,I i]/\
  (∀j:Nat,j<i->bO (aC l (aW n j))=true)/\h.le h'/\h' b12=some (.inl ⟨nodeCells n,9,false⟩)/\h' b14=some (.inl ⟨[I 0,I 0],2,false⟩)/\h' b39=some (.inl ⟨yC l n i,6,false⟩)/\
  h' b46=some (.inl ⟨[I n.a,I n.b,I n.c],3,false⟩)) ⟨rfl,fun j hj=>by omega,lh,f12,f14,f39,f46⟩ ?_
 clear f12 f14 f39 f46 lh h4
 rintro i _ h4 next hi ⟨rfl,hg,lh,f12,f14,f39,f46⟩ hnx
 refine⟨s,_,_,_,_,_,_,⟨some ⟨b46,0,none⟩,(aq n.kind).toNat,3⟩,_,_,rfl,?_⟩
 by_cases hlt:i<(aq n.kind).toNat
 ·have h3:i<3:=by omega
  refine aK (by simp;omega) ?_
  simp only [vm,ql f46 h3]
  refine⟨by omega,?_⟩
  have hr:=lX hh.2 h3 (by omega)
  obtain⟨m,hm⟩: ∃m,l[(aW n i).toNat]?=some m:=⟨_,List.getElem?_eq_getElem (by omega)⟩
  have hsrt:=oQ hm
  obtain⟨b,o,ha,_,_,_,_,_,_,c6,c7,_⟩:=(hs.mono lh).at hm
  refine⟨b,o,ha,hr.1,by omega,_,c6,_,c7,by omega,?_⟩
  (with_reducible apply bZ);(assumption);(exact lh);(exact b39n);(simp [yC];omega)
  intro h5 f5 kp l5
  rw [<-hsrt,KY h3]at f5
  have hg5:=Mq (l:=l) (n:=n) h3
  replace f12:=cc kp n39' f12
  replace f14:=cc kp n39 f14
  replace f46:=cc kp n46 f46
  refine⟨by omega,_,by rw [am f5];exact hg5.1,_,by rw [am f5];exact hg5.2,nR ⟨_,rfl,?_⟩⟩
  refine ad (fun e=>?_) (fun e=>?_)
  ·(with_reducible apply bZ);(assumption);(exact l5);(exact b14n);(decide);intro _ _ _ _
   repeat' (refine ax ?_)
   refine lf (by assumption) ?_
   rw [Ca h3 (by omega) (by simpa using e)];rfl
  ·rw [aE (by omega)]
   refine hnx hlt _ _ ⟨rfl,fun j hj=>?_,l5,f12,f14,f5,f46⟩
   by_cases hji:j=i
   ·subst hji;simpa using e
   ·exact hg j (by omega)
 ·have hie:i=(aq n.kind).toNat:=by omega
  subst hie
  refine aF (by simp) ?_
  have hok:I5 l n:=fun j h3 hj=>hg j (by omega)
  have hns:=vJ hh.1 hh.2 hok
  repeat' (first|(refine ax ?_)|(with_reducible refine And.intro (by omega) ?_))
  have so: ∀j:Nat,bO (du l n (aq n.kind).toNat j)=true\/du l n (aq n.kind).toNat j=⟨0,0⟩:=fun j=>by
   unfold du
   split
   ·exact .inl (hg j (by omega))
   ·exact .inr rfl
  refine JS (n:=n) (a:=du l n (aq n.kind).toNat 0) (b:=du l n (aq n.kind).toNat 1) (c:=du l n (aq n.kind).toNat 2) (fun hp=>?_) (so 1) (so 2) hk (fun h2=>?_) fun t q hres=>⟨_,_,_,rfl,?_⟩
  ·unfold du;rw [if_pos (by omega)];exact hg 0 (by omega)
  ·unfold du;rw [if_neg (by omega)]
  rw [<-hns]at hres
  unfold Res at hres
  refine ai fun b7 h7 hb7 l7 f7=>?_
  have n7:b14≠b7:=fresh_ne hb7 f14
  have b7n:=aD lh hb7
  replace f14:=l7 _ _ f14
  (with_reducible apply bZ);(assumption);(exact Hp.le_trans lh l7);(exact b7n);(decide)
  intro h8 f8 kp8 l8
  replace f14:=cc kp8 n7 f14
  refine ad (fun e=>?_) (fun e=>?_)
  ·(with_reducible apply bZ);(assumption);(exact l8);(exact b14n);(decide);intro _ _ _ _
   repeat' (refine ax ?_)
   refine lf (by assumption) ?_
   rw [hres,show q=false by simpa using e];rfl
  ·repeat' (refine ax ?_)
   (with_reducible apply bZ);(assumption);(exact l8);(exact b14n);(decide);intro _ _ _ _
   repeat' (refine ax ?_)
   refine lf (by assumption) ?_
   rw [hres,show q=true by simpa using e];rfl
theorem Dq {w:Int} (h:1<=w/\w<=16):gZ w 0=true:=by
 rw [jd];refine⟨h,by omega,?_⟩
 have:=bC w.toNat;omega
theorem Ge {h:Hp} {w u:Int} {R:Value->Hp->Prop} (hw:1<=w/\w<=16) (hu:1<=u/\u<=16)
  (k1:w+u<=16->R (.tuple #[I 0,I (w+u), .bool true]) h) (k2: ¬w+u<=16->R (.tuple #[I 0,I 0, .bool false]) h):jq #[I w,I 0,I u,I 0] h R:=by
 apply uG
 refine uf_ ?_
 have hz:W (w+u)=w+u:=ca (by omega) (by omega)
 simp only [hz]
 refine ap (fun J=>J (decide (¬w+u<=16)) h) ?_ (fun J hJ=>cm ⟨_,rfl,aF (by rw [Dq hw];rfl) (cm ⟨_,rfl,aF (by rw [Dq hu];rfl) ?_⟩)⟩)
 ·refine ad (fun e=>k2 (of_decide_eq_true e)) (fun e=>?_)
  have e':w+u<=16:=by have:=of_decide_eq_false e;omega
  obtain⟨n,rfl⟩: ∃n:Nat,u=n:=⟨u.toNat,by omega⟩
  rw [cz (by omega),if_neg (by omega)]
  have h0:=gV (a:=0) (n:=n) (by omega) (by omega)
  rw [Nat.zero_mul]at h0
  rw [show ar 0 (n:Int)=0 from h0]
  exact k1 e'
 ·exact eR (J:=fun b=>J b h) (by rw [decide_eq_decide];omega) hJ
theorem Fo {h:Hp} {w hi lo:Int} {R:Value->Hp->Prop} (hw:1<=w/\w<=16)
  (k1:(0<=hi/\hi<=w-1)/\0<=lo/\lo<=hi->R (.tuple #[I 0,I (hi-lo+1), .bool true]) h) (k2: ¬((0<=hi/\hi<=w-1)/\0<=lo/\lo<=hi)->R (.tuple #[I 0,I 0, .bool false]) h):
  iA #[I w,I 0,I hi,I lo] h R:=by
 apply sJ
 refine uf_ ?_
 refine ap (fun J=>J (decide (¬((0<=hi/\hi<=w-1)/\0<=lo/\lo<=hi))) h) ?_ (fun J hJ=>cm ⟨_,rfl,aF (by rw [Dq hw];rfl) ?_⟩)
 ·refine ad (fun e=>k2 (of_decide_eq_true e)) (fun e=>?_)
  have e':(0<=hi/\hi<=w-1)/\0<=lo/\lo<=hi:=by have:=of_decide_eq_false e;omega
  have hz:W (W (hi-lo)+1)=hi-lo+1:=by rw [ca (n:=hi-lo) (by omega) (by omega),ca (by omega) (by omega)]
  rw [hz]
  obtain⟨a,rfl⟩: ∃n:Nat,lo=n:=⟨lo.toNat,by omega⟩
  obtain⟨b,hb⟩: ∃n:Nat,hi-(a:Int)+1=n:=⟨(hi-a+1).toNat,by omega⟩
  have k:=k1 e'
  rw [hb]at k⊢
  have hp:=bC b
  rw [cz (by omega),cz (by omega),if_neg (by omega),if_neg (by omega),bU (by omega),if_neg (by omega)]
  have h0:=j7 (c:=0) (n:=a) (by omega)
  rw [Nat.zero_div]at h0
  rw [show nQ 0 (a:Int)=0 from h0,show Int.tmod 0 ((2^b:Nat):Int)=0 from Int.zero_tmod _]
  exact k
 ·clear k1 k2;repeat' (first|(with_reducible first|refine aK (b:=true) rfl ?_|refine aF (b:=false) rfl ?_|refine ad (fun _=>?_) fun _=>?_)|(refine eR (J:=fun b=>J b h) ?_ hJ))
  all_goals (clear hJ;(exact tt))
theorem GA {h:Hp} {w more:Int} {R:Value->Hp->Prop} (hw:1<=w/\w<=16)
  (k1:0<=more/\more<=16-w->R (.tuple #[I 0,I (w+more), .bool true]) h) (k2: ¬(0<=more/\more<=16-w)->R (.tuple #[I 0,I 0, .bool false]) h):
  js #[I w,I 0,I more, .bool false] h R:=by
 apply uH
 refine uf_ ?_
 have hz:W (16-w)=16-w:=ca (by omega) (by omega)
 simp only [hz]
 refine ap (fun J=>J (decide (¬(0<=more/\more<=16-w))) h) ?_ (fun J hJ=>cm ⟨_,rfl,aF (by rw [Dq hw];rfl) ?_⟩)
 ·refine ad (fun e=>k2 (of_decide_eq_true e)) (fun e=>?_)
  have e':0<=more/\more<=16-w:=by have:=of_decide_eq_false e;omega
  refine aF rfl ?_
  rw [ca (by omega) (by omega)]
  exact k1 e'
 ·clear k1 k2;repeat' (first|(with_reducible first|refine aK (b:=true) rfl ?_|refine aF (b:=false) rfl ?_|refine ad (fun _=>?_) fun _=>?_)|(refine eR (J:=fun b=>J b h) ?_ hJ))
  all_goals (clear hJ;(exact tt))
abbrev sortCells (s:SortP):List Value:= [I s.idx,I s.wid]
def xM (h:Hp) (s:Sl) (l:List SortP):Prop:=SlC h s 2 (l.flatMap sortCells)
theorem xM.mono {h h':Hp} {s:Sl} {l:List SortP} (le:h.le h') (e:xM h s l):xM h' s l:=SlC.mono le e
theorem xM.len {h:Hp} {s:Sl} {l:List SortP} (e:xM h s l):s.n=l.length:=by
 have:=e.2.1
 rw [hE (m:=2) (fun _=>rfl)]at this;omega
theorem xM.get {h:Hp} {s:Sl} {l:List SortP} (e:xM h s l) (hpos:0<l.length): ∃b o,s.a=some (Addr.mk b o none)/\
  ∀i:Nat,i<l.length->Hp.cell h b (o+i*2)=some (I (l.getD i ⟨0,0⟩).idx)/\Hp.cell h b ((o+i*2)+1)=some (I (l.getD i ⟨0,0⟩).wid):=by
 have hl:=e.len
 obtain⟨b,o,ha,hc⟩:=SlC.get e (by omega)
 refine⟨b,o,ha,fun i hi=>?_⟩
 have hg:l[i]?=some (l.getD i ⟨0,0⟩):=by rw [List.getD_eq_getElem?_getD,List.getElem?_eq_getElem hi];rfl
 constructor
 ·refine hc _ _ ?_
  have:=vn (f:=sortCells) (m:=2) (fun _=>rfl) l i _ 0 hg (by omega)
  rw [Nat.add_zero]at this;rw [this];rfl
 ·rw [Nat.add_assoc]
  refine hc _ _ ?_
  rw [vn (f:=sortCells) (m:=2) (fun _=>rfl) l i _ 1 hg (by omega)];rfl
theorem eU {s:Option Addr} {b o:Nat} {P:Nat->Nat->Prop} (ha:s=some (Addr.mk b o none)) (k:P b o): ∃b' o',s=some (Addr.mk b' o' none)/\P b' o':=⟨b,o,ha,k⟩
theorem dE {h:Hp} {b o:Nat} {x:Int} {P:Int->Prop} (f:Hp.cell h b o=some (I x)) (k:P x): ∃y:Int,Hp.cell h b o=some (I y)/\P y:=⟨x,f,k⟩
theorem lM {k:Int} (h:0<aq k):(1<=k/\k<=5/\aq k=1)\/(6<=k/\k<=29/\aq k=2)\/(30<=k/\k<=32/\aq k=1)\/(k=33/\aq k=3)\/(k=37/\aq k=2)\/(k=38/\aq k=3):=by
 have e1:(1<=k/\k<=5)\/(30<=k/\k<=32)->aq k=1:=fun h=>by unfold aq;rw [if_pos h]
 have e2:(6<=k/\k<=29)\/k=37->aq k=2:=fun h=>by unfold aq;rw [if_neg (by omega),if_pos h]
 have e3:k=33\/k=38->aq k=3:=fun h=>by unfold aq;rw [if_neg (by omega),if_neg (by omega),if_pos h]
 have e4: ¬((1<=k/\k<=5)\/(30<=k/\k<=32))-> ¬((6<=k/\k<=29)\/k=37)-> ¬(k=33\/k=38)->aq k<=0:=fun h1 h2 h3=>by
  unfold aq;rw [if_neg h1,if_neg h2,if_neg h3];split<;>omega
 omega
theorem Gs {h:Hp} {n:NodeP} {s:Sl} {ss:List SortP} {R:Value->Hp->Prop} (hs:xM h s ss) (hp:0<aq n.kind) (hlen:(ss.length:Int)=aq n.kind)
  (hok: ∀i:Nat,i<ss.length->bO (ss.getD i ⟨0,0⟩)=true)
  (k: ∀t q,Res (cY n (ss.getD 0 ⟨0,0⟩) (ss.getD 1 ⟨0,0⟩) (ss.getD 2 ⟨0,0⟩)) t q->R (.tuple #[sX t, .bool q]) h):pC #[Ck n,s.v] h R:=by
 refine ACalls.drop (Cr ?_)
 refine uf_ ?_
 have hsn:=hs.len
 have hk3:=iC n.kind
 refine ai fun b12 h1 hb12 l1 f12=>?_
 refine ai fun b14 h2 hb14 l2 f14=>?_
 have n12:b12≠b14:=fresh_ne hb14 f12
 replace f12:=l2 _ _ f12
 have l:h.le h2:=Hp.le_trans l1 l2
 have b0:h b14=none:=aD l1 hb14
 have hs1:=hs.mono l1
 obtain⟨b,o,ha,hc⟩:=hs1.get (by omega)
 have hne:b≠b14:=uu hb14 (hc 0 (by omega)).1
 have hc2: ∀i:Nat,i<ss.length->Hp.cell h2 b (o+i*2)=some (I (ss.getD i ⟨0,0⟩).idx)/\Hp.cell h2 b ((o+i*2)+1)=some (I (ss.getD i ⟨0,0⟩).wid):=fun i hi=>⟨l2.cell (hc i hi).1,l2.cell (hc i hi).2⟩
 clear hc hs1 l1 l2 hb12 hb14
 have lf: ∀{h'':Hp} {t:SortP} {q:Bool},h.le h''->Res (cY n (ss.getD 0 ⟨0,0⟩) (ss.getD 1 ⟨0,0⟩) (ss.getD 2 ⟨0,0⟩)) t q-> ∃h':Hp,h'.le h''/\R (.tuple #[.agg #[I t.idx,I t.wid], .bool q]) h':=fun l e=>⟨_,l,k _ _ e⟩
 clear k
 have oa:=bX.1 (hok 0 (by omega))
 have ob:1<ss.length->(0<=(ss.getD 1 ⟨0,0⟩).idx/\(ss.getD 1 ⟨0,0⟩).idx<=2)/\(1<=(ss.getD 1 ⟨0,0⟩).wid/\(ss.getD 1 ⟨0,0⟩).wid<=16):=fun h=>bX.1 (hok 1 h)
 have c0:=(hc2 0 (by omega)).1
 have c1:=(hc2 0 (by omega)).2
 have c2:1<ss.length->_:=fun h=>(hc2 1 h).1
 have c3:1<ss.length->_:=fun h=>(hc2 1 h).2
 have c4:2<ss.length->_:=fun h=>(hc2 2 h).1
 have c5:2<ss.length->_:=fun h=>(hc2 2 h).2
 have hall: ∀i:Nat,i<ss.length->(ss.getD i ⟨0,0⟩).idx=0->True:=fun _ _ _=>trivial
 generalize hga:ss.getD 0 ⟨0,0⟩=ga at*
 generalize hgb:ss.getD 1 ⟨0,0⟩=gb at*
 generalize hgc:ss.getD 2 ⟨0,0⟩=gc at*
 have hkk:=lM hp
 rw [Ed]at lf
 repeat' (refine ax ?_)
 refine ad (fun e=>?_) (fun e33=>?_)
 ·replace e:=bR e
  rw [if_pos e]at lf
  have hl3:ss.length=3:=by omega
  replace c2:=c2 (by omega);replace c3:=c3 (by omega);replace c4:=c4 (by omega);replace c5:=c5 (by omega)
  simp only [dR]
  repeat' (first|(first|(refine ax ?_)|(with_reducible refine eU ha ?_)|((with_reducible apply dE);(assumption))|(with_reducible refine And.intro (by omega) ?_))|(with_reducible refine bW ⟨_,_,rfl,?_⟩))
  refine ad (fun e1=>?_) (fun e1=>?_)
  ·repeat' ((first|(refine ax ?_)|(with_reducible refine eU ha ?_)|((with_reducible apply dE);(assumption))|(with_reducible refine And.intro (by omega) ?_)))
   (with_reducible apply bZ);(assumption);(exact l);(exact b0);(decide);intro _ _ _ _
   repeat' ((first|(refine ax ?_)|(with_reducible refine eU ha ?_)|((with_reducible apply dE);(assumption))|(with_reducible refine And.intro (by omega) ?_)))
   refine lf (t:=⟨_,_⟩) (by assumption) (m4 ?_ ?_)
   ·have:ga.idx=0/\ga.wid=1:=by simpa [cr] using e1
    rw [Bool.eq_iff_iff];simp [this]
   ·intro h;rfl
  ·repeat' ((first|(refine ax ?_)|(with_reducible refine eU ha ?_)|((with_reducible apply dE);(assumption))|(with_reducible refine And.intro (by omega) ?_)))
   (with_reducible apply bZ);(assumption);(exact l);(exact b0);(decide);intro _ _ _ _
   repeat' ((first|(refine ax ?_)|(with_reducible refine eU ha ?_)|((with_reducible apply dE);(assumption))|(with_reducible refine And.intro (by omega) ?_)))
   refine lf (t:=⟨_,_⟩) (by assumption) (m4 ?_ ?_)
   ·have: ¬(ga.idx=0/\ga.wid=1):=by simpa [cr] using e1
    rw [Bool.eq_iff_iff];simp [this]
   ·intro h;rfl
 rw [if_neg (aY e33)]at lf
 refine ad (fun e=>?_) (fun e37=>?_)
 ·replace e:=bR e
  rw [if_pos e]at lf
  have hl3:ss.length=2:=by omega
  replace c2:=c2 (by omega);replace c3:=c3 (by omega)
  simp only [dR]
  repeat' (first|(first|(refine ax ?_)|(with_reducible refine eU ha ?_)|((with_reducible apply dE);(assumption))|(with_reducible refine And.intro (by omega) ?_))|(with_reducible refine bW ⟨_,_,rfl,?_⟩))
  refine ad (fun e1=>?_) (fun e1=>?_)
  ·repeat' (first|(first|(refine ax ?_)|(with_reducible refine eU ha ?_)|((with_reducible apply dE);(assumption))|(with_reducible refine And.intro (by omega) ?_))|(with_reducible refine bW ⟨_,_,rfl,?_⟩))
   (with_reducible apply bZ);(assumption);(exact l);(exact b0);(decide);intro _ _ _ _
   repeat' ((first|(refine ax ?_)|(with_reducible refine eU ha ?_)|((with_reducible apply dE);(assumption))|(with_reducible refine And.intro (by omega) ?_)))
   refine lf (t:=⟨_,_⟩) (by assumption) (m4 ?_ ?_)
   ·have:0<ga.idx:=by simpa using e1
    rw [Bool.eq_iff_iff];simp [this,cr]
   ·intro h;rfl
  ·repeat' ((first|(refine ax ?_)|(with_reducible refine eU ha ?_)|((with_reducible apply dE);(assumption))|(with_reducible refine And.intro (by omega) ?_)))
   (with_reducible apply bZ);(assumption);(exact l);(exact b0);(decide);intro _ _ _ _
   repeat' ((first|(refine ax ?_)|(with_reducible refine eU ha ?_)|((with_reducible apply dE);(assumption))|(with_reducible refine And.intro (by omega) ?_)))
   refine lf (t:=⟨_,_⟩) (by assumption) (m4 ?_ ?_)
   ·have: ¬0<ga.idx:=by simpa using e1
    rw [Bool.eq_iff_iff];simp [this]
   ·intro h;rfl
 rw [if_neg (aY e37)]at lf
 refine ad (fun e=>?_) (fun e38=>?_)
 ·replace e:=bR e
  rw [if_pos e]at lf
  have hl3:ss.length=3:=by omega
  replace c2:=c2 (by omega);replace c3:=c3 (by omega);replace c4:=c4 (by omega);replace c5:=c5 (by omega)
  simp only [dR]
  repeat' (first|(first|(refine ax ?_)|(with_reducible refine eU ha ?_)|((with_reducible apply dE);(assumption))|(with_reducible refine And.intro (by omega) ?_))|(with_reducible refine bW ⟨_,_,rfl,?_⟩))
  refine ad (fun e1=>?_) (fun e1=>?_)
  ·have i1:0<ga.idx:=by simpa using e1
   repeat' (first|(first|(refine ax ?_)|(with_reducible refine eU ha ?_)|((with_reducible apply dE);(assumption))|(with_reducible refine And.intro (by omega) ?_))|(with_reducible refine bW ⟨_,_,rfl,?_⟩))
   refine ad (fun e2=>?_) (fun e2=>?_)
   ·have i2:gb.idx=0/\gb.wid=ga.idx:=by simpa [cr] using e2
    repeat' (first|(first|(refine ax ?_)|(with_reducible refine eU ha ?_)|((with_reducible apply dE);(assumption))|(with_reducible refine And.intro (by omega) ?_))|(with_reducible refine bW ⟨_,_,rfl,?_⟩))
    (with_reducible apply bZ);(assumption);(exact l);(exact b0);(decide);intro _ _ _ _
    repeat' ((first|(refine ax ?_)|(with_reducible refine eU ha ?_)|((with_reducible apply dE);(assumption))|(with_reducible refine And.intro (by omega) ?_)))
    refine lf (t:=⟨_,_⟩) (by assumption) (m4 ?_ ?_)
    ·rw [Bool.eq_iff_iff];simp [i1,i2,cr]
    ·intro h;rfl
   ·have i2: ¬(gb.idx=0/\gb.wid=ga.idx):=by simpa [cr] using e2
    repeat' (first|(first|(refine ax ?_)|(with_reducible refine eU ha ?_)|((with_reducible apply dE);(assumption))|(with_reducible refine And.intro (by omega) ?_))|(with_reducible refine bW ⟨_,_,rfl,?_⟩))
    (with_reducible apply bZ);(assumption);(exact l);(exact b0);(decide);intro _ _ _ _
    repeat' ((first|(refine ax ?_)|(with_reducible refine eU ha ?_)|((with_reducible apply dE);(assumption))|(with_reducible refine And.intro (by omega) ?_)))
    refine lf (t:=⟨_,_⟩) (by assumption) (m4 ?_ ?_)
    ·rw [Bool.eq_iff_iff];simp [i1,i2,cr]
    ·intro h;rfl
  ·have i1: ¬0<ga.idx:=by simpa using e1
   repeat' ((first|(refine ax ?_)|(with_reducible refine eU ha ?_)|((with_reducible apply dE);(assumption))|(with_reducible refine And.intro (by omega) ?_)))
   (with_reducible apply bZ);(assumption);(exact l);(exact b0);(decide);intro _ _ _ _
   repeat' ((first|(refine ax ?_)|(with_reducible refine eU ha ?_)|((with_reducible apply dE);(assumption))|(with_reducible refine And.intro (by omega) ?_)))
   refine lf (t:=⟨_,_⟩) (by assumption) (m4 ?_ ?_)
   ·rw [Bool.eq_iff_iff];simp [i1]
   ·intro h;rfl
 rw [if_neg (aY e38)]at lf
 refine ad (fun e=>?_) (fun e21=>?_)
 ·replace e:=bR e
  rw [if_pos e]at lf
  have hl3:ss.length=2:=by omega
  replace c2:=c2 (by omega);replace c3:=c3 (by omega)
  repeat' (first|(first|(refine ax ?_)|(with_reducible refine eU ha ?_)|((with_reducible apply dE);(assumption))|(with_reducible refine And.intro (by omega) ?_))|(with_reducible refine bW ⟨_,_,rfl,?_⟩))
  (with_reducible apply bZ);(assumption);(exact l);(exact b0);(decide);intro _ _ _ _
  repeat' ((first|(refine ax ?_)|(with_reducible refine eU ha ?_)|((with_reducible apply dE);(assumption))|(with_reducible refine And.intro (by omega) ?_)))
  refine lf (t:=⟨_,_⟩) (by assumption) (m4 ?_ ?_)
  ·rw [Bool.eq_iff_iff];simp
  ·intro h;rfl
 rw [if_neg (aY e21)]at lf
 replace e33:=aY e33
 replace e37:=aY e37
 replace e38:=aY e38
 replace e21:=aY e21
 refine aw ss.length (fun i vs h'=>vs= [s.v, .pointer (some ⟨b12,0,none⟩), .pointer (some ⟨b14,0,none⟩),I i]/\h'=h2/\ ∀j:Nat,j<i->(ss.getD j ⟨0,0⟩).idx=0) ⟨rfl,rfl,fun j hj=>by omega⟩ ?_
 rintro i _ h3 next hi ⟨rfl,rfl,hz⟩ hnx
 refine⟨_,_,_,_,_,_,rfl,?_⟩
 by_cases hlt:i<ss.length
 ·refine aK (by simp;omega) ?_
  refine⟨b,o,ha,by omega,by omega,?_⟩
  have hci:=(hc2 i hlt).1
  simp only [vm,hci]
  refine ad (fun e=>?_) (fun e=>?_)
  ·(with_reducible apply bZ);(assumption);(exact l);(exact b0);(decide);intro _ _ _ _
   repeat' ((first|(refine ax ?_)|(with_reducible refine eU ha ?_)|((with_reducible apply dE);(assumption))|(with_reducible refine And.intro (by omega) ?_)))
   refine lf (t:=⟨_,_⟩) (by assumption) ?_
   rw [if_pos]
   ·rfl
   ·have:0<(ss.getD i ⟨0,0⟩).idx:=by simpa using e
    obtain h0|h0|h0:i=0\/i=1\/i=2:=by omega
    ·subst h0;rw [hga]at this;exact .inl this
    ·subst h0;rw [hgb]at this;exact .inr ⟨by omega,this⟩
    ·omega
  ·rw [aE (by omega)]
   refine hnx hlt _ _ ⟨rfl,rfl,fun j hj=>?_⟩
   by_cases hji:j=i
   ·subst hji
    have:=bX.1 (hok j hlt)
    have: ¬0<(ss.getD j ⟨0,0⟩).idx:=by simpa using e
    omega
   ·exact hz j (by omega)
 ·refine aF (by simp;omega) ?_
  have za:ga.idx=0:=by rw [<-hga];exact hz 0 (by omega)
  have zb:1<ss.length->gb.idx=0:=fun h=>by rw [<-hgb];exact hz 1 (by omega)
  rw [if_neg (by omega)]at lf
  generalize hres:(if n.kind=29 then(if ga.wid+gb.wid<=16 then some (SortP.mk 0 (ga.wid+gb.wid))else none)else
   if n.kind=30 then(if(0<=n.n/\n.n<=ga.wid-1)/\0<=n.m/\n.m<=n.n then some ⟨0,n.n-n.m+1⟩else none)else
   if n.kind=31\/n.kind=32 then(if 0<=n.n/\n.n<=16-ga.wid then some ⟨0,ga.wid+n.n⟩else none)else
   if n.kind<=5 then some ⟨0,if n.kind<=2 then ga.wid else 1⟩else
   if ga.idx=gb.idx/\ga.wid=gb.wid then some ⟨0,if n.kind<=20 then ga.wid else 1⟩else none)=res at lf
  refine ap (fun J=> ∀(w:Int) (q:Bool),Res res ⟨0,w⟩ q->J w q h3) ?_ (fun J hJ=>?_)
  ·intro w q hr
   refine bW ⟨_,_,rfl,?_⟩
   (with_reducible apply bZ);(assumption);(exact l);(exact b0);(decide);intro _ _ _ _
   repeat' ((first|(refine ax ?_)|(with_reducible refine eU ha ?_)|((with_reducible apply dE);(assumption))|(with_reducible refine And.intro (by omega) ?_)))
   exact lf (t:=⟨_,_⟩) (by assumption) hr
  clear lf
  subst hres
  (refine ax ?_)
  refine ad (fun e=>?_) (fun e29=>?_)
  ·replace e:=bR e
   rw [if_pos e]at hJ
   have hl3:ss.length=2:=by omega
   replace c2:=c2 (by omega);replace c3:=c3 (by omega);replace ob:=ob (by omega)
   repeat' ((first|(refine ax ?_)|(with_reducible refine eU ha ?_)|((with_reducible apply dE);(assumption))|(with_reducible refine And.intro (by omega) ?_)))
   exact Ge (by omega) (by omega) (fun h=>⟨_,_,_,rfl,hJ _ _ (by rw [if_pos h];rfl)⟩) (fun h=>⟨_,_,_,rfl,hJ _ _ (by rw [if_neg h];rfl)⟩)
  replace e29:=aY e29
  rw [if_neg e29]at hJ
  (refine ax ?_)
  refine ad (fun e=>?_) (fun e30=>?_)
  ·replace e:=bR e
   rw [if_pos e]at hJ
   repeat' ((first|(refine ax ?_)|(with_reducible refine eU ha ?_)|((with_reducible apply dE);(assumption))|(with_reducible refine And.intro (by omega) ?_)))
   exact Fo (by omega) (fun h=>⟨_,_,_,rfl,hJ _ _ (by rw [if_pos h];rfl)⟩) (fun h=>⟨_,_,_,rfl,hJ _ _ (by rw [if_neg h];rfl)⟩)
  replace e30:=aY e30
  rw [if_neg e30]at hJ
  refine ap (fun J=>J (decide (n.kind=31\/n.kind=32))) ?_ (fun J2 hJ2=>?_)
  rotate_left
  ·clear hJ hnx hok hc2 hall hz
   repeat' (first|(with_reducible first|refine aK (b:=true) rfl ?_|refine aF (b:=false) rfl ?_|refine ad (fun _=>?_) fun _=>?_)|(refine ax ?_)|(refine eR ?_ hJ2))
   all_goals (clear hJ2;(exact tt))
  refine ad (fun e=>?_) (fun e31=>?_)
  ·replace e:=of_decide_eq_true e
   rw [if_pos e]at hJ
   repeat' ((first|(refine ax ?_)|(with_reducible refine eU ha ?_)|((with_reducible apply dE);(assumption))|(with_reducible refine And.intro (by omega) ?_)))
   exact GA (by omega) (fun h=>⟨_,_,_,rfl,hJ _ _ (by rw [if_pos h];rfl)⟩) (fun h=>⟨_,_,_,rfl,hJ _ _ (by rw [if_neg h];rfl)⟩)
  replace e31:=of_decide_eq_false e31
  rw [if_neg e31]at hJ
  obtain⟨wn,hwn⟩: ∃m:Nat,ga.wid=m:=⟨ga.wid.toNat,by omega⟩
  have hWO:WO wn 0:=⟨by omega,bC wn⟩
  refine ad (fun e=>?_) (fun e1=>?_)
  ·have hl1:ss.length=1:=by have:=bR e;omega
   rw [if_pos (by omega)]at hJ
   rw [hwn]at c1 hJ
   repeat' ((first|(refine ax ?_)|(with_reducible refine eU ha ?_)|((with_reducible apply dE);(assumption))|(with_reducible refine And.intro (by omega) ?_)))
   refine Ah (a:=0) (by omega) hWO ⟨_,_,_,rfl,hJ _ _ ?_⟩
   unfold Res vC
   rw [if_pos rfl]
   congr 2
   repeat' split
   all_goals first|rfl|omega
  ·have hl2:ss.length=2:=by have:=aY e1;omega
   replace c2:=c2 (by omega);replace c3:=c3 (by omega);replace ob:=ob (by omega)
   rw [if_neg (by omega)]at hJ
   repeat' ((first|(refine ax ?_)|(with_reducible refine eU ha ?_)|((with_reducible apply dE);(assumption))|(with_reducible refine And.intro (by omega) ?_)))
   refine ad (fun e2=>?_) (fun e2=>?_)
   ·have i2:ga.idx=gb.idx/\ga.wid=gb.wid:=by simpa using e2
    rw [if_pos i2]at hJ
    rw [hwn]at c1 hJ
    repeat' ((first|(refine ax ?_)|(with_reducible refine eU ha ?_)|((with_reducible apply dE);(assumption))|(with_reducible refine And.intro (by omega) ?_)))
    refine zm (a:=0) (b:=0) (by omega) hWO hWO ⟨_,_,_,rfl,hJ _ _ ?_⟩
    unfold Res qA
    rw [if_pos rfl]
    congr 2
    split<;>rfl
   ·have i2: ¬(ga.idx=gb.idx/\ga.wid=gb.wid):=by simpa using e2
    rw [if_neg i2]at hJ
    exact hJ _ _ rfl
theorem Buf.slc_of {h:Hp} {s:Sl} {sz:Nat} {cs:List Value} (e:Buf h s sz cs) (hn:s.n<=9223372036854775807):SlC h s sz cs:=by
 rcases e with ⟨h1,h2,h3⟩
 refine⟨hn,h1,?_⟩
 rcases h3 with ⟨_,h0,_⟩|⟨b,hb,hc⟩
 ·exact .inl h0
 ·refine .inr ⟨b,0,hb,?_⟩
  exact ay hc
def sm (l:List NodeP) (n:NodeP) (i:Nat):List SortP:=(List.range i).map fun j=>aC l (aW n j)
theorem uj (l:List NodeP) (n:NodeP) (i:Nat):(sm l n i).length=i:=by simp [sm]
theorem J8 (l:List NodeP) (n:NodeP) (i:Nat):sm l n (i+1)=sm l n i++ [aC l (aW n i)]:=by simp [sm,List.range_succ]
theorem qv (l:List NodeP) (n:NodeP) (i j:Nat):(sm l n i).getD j ⟨0,0⟩=du l n i j:=by
 unfold sm du
 rw [List.getD_eq_getElem?_getD,List.getElem?_map]
 by_cases h:j<i
 ·rw [List.getElem?_range h,if_pos h];rfl
 ·rw [List.getElem?_eq_none (by simp;omega),if_neg h];rfl
theorem lp {h:Hp} {s:Sl} {l:List NodeP} {n:NodeP} {R:Value->Hp->Prop} (hs:iB h s l) (hl:l.length<=1048576)
  (k:R (Ei (cK l n)) h):fL #[s.v,Ck n] h R:=by
 refine ACalls.drop (Cq ?_)
 refine uf_ ?_
 have hn:=hs.len
 refine ai fun b12 h1 hb12 l1 f12=>?_
 refine ai fun b14 h2 hb14 l2 f14=>?_
 have n12:b12≠b14:=fresh_ne hb14 f12
 replace f12:=l2 _ _ f12
 have lh:h.le h2:=Hp.le_trans l1 l2
 have b14n:h b14=none:=aD l1 hb14
 have lf: ∀{h'':Hp} {v:Value},h.le h''->v=Ei (cK l n)-> ∃h':Hp,h'.le h''/\R v h':=fun l e=>⟨_,l,e▸k⟩
 clear k l1 l2 hb12 hb14
 refine ap (fun J=>J (!(decide (l.length<=60)&&eG l.length n)) h2) ?_ (fun J hJ=>?_)
 rotate_left
 ·rw [<-hn]at hJ
  refine ad (fun e=>?_) (fun e=>?_)
  ·rw [decide_eq_false (by simp at e;omega),Bool.false_and]at hJ;exact hJ
  ·rw [decide_eq_true (by simp at e;omega),Bool.true_and]at hJ
   repeat' (refine ax ?_)
   exact GK (n:=n) (by omega) ⟨_,rfl,hJ⟩
 refine ad (fun e=>?_) (fun e=>?_)
 ·(with_reducible apply bZ);(assumption);(exact lh);(exact b14n);(decide);intro _ _ _ _
  repeat' (refine ax ?_)
  refine lf (by assumption) ?_
  rw [Ab (by intro hh;rw [decide_eq_true hh.1,hh.2]at e;cases e)];rfl
 have hh:l.length<=60/\eG l.length n=true:=by simpa using e
 have hk:=iU hh.2
 have hk3:=iC n.kind
 (refine ax ?_)
 refine mw ⟨_,rfl,ad (fun e0=>?_) (fun e0=>?_)⟩
 ·replace e0:=bR e0
  have hns:=vJ hh.1 hh.2 (fun i _ hi=>by omega)
  have hk0:n.kind=34\/n.kind=35\/n.kind=36:=by
   revert e0;unfold aq;(repeat' split)<;>(intro h;omega)
  repeat' (refine ax ?_)
  refine nD ⟨_,rfl,?_⟩
  (refine ax ?_)
  have hns2:cK l n=if(if n.kind=34 then decide (n.sort.idx=0)&&gZ n.sort.wid n.n else bO n.sort)then some n.sort else none:=by
   rw [hns];unfold kr
   by_cases h34:n.kind=34
   ·rw [if_neg (show¬(n.kind=35\/n.kind=36) by omega),if_pos h34,if_pos h34]
   ·rw [if_pos (show n.kind=35\/n.kind=36 by omega),if_neg h34]
  refine ap (fun J=>J (if n.kind=34 then decide (n.sort.idx=0)&&gZ n.sort.wid n.n else bO n.sort) h2) ?_ (fun J hJ=>?_)
  rotate_left
  ·refine ad (fun e=>?_) (fun e=>?_)
   ·rw [if_pos (bR e)]at hJ
    (refine ax ?_)
    refine ad (fun e=>?_) (fun e=>?_)
    ·rw [decide_eq_true (bR e),Bool.true_and]at hJ
     repeat' (refine ax ?_)
     exact cm ⟨_,rfl,hJ⟩
    ·rw [decide_eq_false (aY e),Bool.false_and]at hJ;exact hJ
   ·rw [if_neg (aY e)]at hJ;exact hJ
  rw [hns2]at lf
  generalize (if n.kind=34 then decide (n.sort.idx=0)&&gZ n.sort.wid n.n else bO n.sort)=q at*
  refine ad (fun e=>?_) (fun e=>?_)
  ·(with_reducible apply bZ);(assumption);(exact lh);(exact b14n);(decide);intro _ _ _ _
   repeat' (refine ax ?_)
   refine lf (by assumption) ?_
   rw [show q=false by simpa using e];rfl
  ·repeat' (refine ax ?_)
   (with_reducible apply bZ);(assumption);(exact lh);(exact b14n);(decide);intro _ _ _ _
   repeat' (refine ax ?_)
   refine lf (by assumption) ?_
   rw [show q=true by simpa using e];rfl
 replace e0:=aY e0
 repeat' (refine ax ?_)
 refine ai fun b84 h3 hb84 l3 f84=>?_
 replace f12:=l3 _ _ f12
 replace f14:=l3 _ _ f14
 replace lh:=Hp.le_trans lh l3
 have hkk:((aq n.kind).toNat:Int)=aq n.kind:=by omega
 refine aw (aq n.kind).toNat (fun i vs h'=> ∃sl:Sl,vs= [s.v, .pointer (some ⟨b12,0,none⟩), .pointer (some ⟨b14,0,none⟩),I (aq n.kind),sl.v, .slice (some ⟨b84,0,none⟩) 3 3,I i]/\
  (∀j:Nat,j<i->bO (aC l (aW n j))=true)/\h.le (h'.offS sl)/\(h'.offS sl) b12=some (.inl ⟨nodeCells n,9,false⟩)/\(h'.offS sl) b14=some (.inl ⟨[I 0,I 0],2,false⟩)/\
  (h'.offS sl) b84=some (.inl ⟨[I n.a,I n.b,I n.c],3,false⟩)/\sl.n=i/\Buf h' sl 2 ((sm l n i).flatMap sortCells)) ⟨⟨none,0,0⟩,rfl,fun j hj=>by omega,lh,f12,f14,f84,rfl,ew _ _⟩ ?_
 clear f12 f14 f84 lh
 rintro i _ h4 next hi ⟨sl,rfl,hg,lh,f12,f14,f84,hsl,hbuf⟩ hnx
 have lo:=bk h4 sl
 refine⟨s,_,_,_,_,_,sl,⟨some ⟨b84,0,none⟩,3,3⟩,_,rfl,?_⟩
 by_cases hlt:i<(aq n.kind).toNat
 ·have h3':i<3:=by omega
  refine aK (by simp;omega) ?_
  simp only [vm,ql (lo _ _ f84) h3']
  refine⟨by omega,?_⟩
  have hr:=lX hh.2 h3' (by omega)
  obtain⟨m,hm⟩: ∃m,l[(aW n i).toNat]?=some m:=⟨_,List.getElem?_eq_getElem (by omega)⟩
  have hsrt:=oQ hm
  obtain⟨b,o,ha,_,_,_,_,_,_,c6,c7,_⟩:=(hs.mono (Hp.le_trans lh lo)).at hm
  refine⟨b,o,ha,hr.1,by omega,_,c6,_,c7,?_⟩
  refine ai fun b9 h5 hb9 l5 f9=>?_
  refine dk (hbuf.mono l5) (by omega) (by omega) (by omega) ⟨b9,0,rfl,ay f9⟩ (by simp) rfl ?_
  intro s' h6 hs'n hbuf' l6 _
  rw [<-hsrt,show ([I (aC l (aW n i)).idx,I (aC l (aW n i)).wid]:List Value)= [aC l (aW n i)].flatMap sortCells from rfl,<-List.flatMap_append,<-J8]at hbuf'
  have l56:=Hp.le_trans (bJ sl l5) l6
  have hSS:xM h6 s' (sm l n (i+1)):=Buf.slc_of hbuf' (by omega)
  obtain⟨b1,o1,ha1,hc1⟩:=hSS.get (by rw [uj];omega)
  have hci:=hc1 i (by rw [uj];omega)
  rw [qv,show du l n (i+1) i=aC l (aW n i) by unfold du;rw [if_pos (by omega)]]at hci
  have lo6:=bk h6 s'
  refine⟨b1,o1,ha1,by omega,_,hci.1,_,hci.2,nD ⟨_,rfl,?_⟩⟩
  have lh6:=Hp.le_trans lh (Hp.le_trans l56 lo6)
  have f14':=lo6 _ _ (l56 _ _ f14)
  refine ad (fun e=>?_) (fun e=>?_)
  ·(with_reducible apply bZ);(exact f14');(exact lh6);(exact b14n);(decide);intro _ _ _ _
   repeat' (refine ax ?_)
   refine lf (by assumption) ?_
   rw [Ca h3' (by omega) (by simpa using e)];rfl
  ·rw [aE (by omega)]
   refine hnx hlt _ _ ⟨s',rfl,fun j hj=>?_,Hp.le_trans lh l56,l56 _ _ f12,l56 _ _ f14,l56 _ _ f84,by omega,hbuf'⟩
   by_cases hji:j=i
   ·subst hji;simpa using e
   ·exact hg j (by omega)
 ·have hie:i=(aq n.kind).toNat:=by omega
  subst hie
  refine aF (by simp;omega) ?_
  have hok:I5 l n:=fun j h3 hj=>hg j (by omega)
  have hns:=vJ hh.1 hh.2 hok
  replace f12:=lo _ _ f12
  replace f14:=lo _ _ f14
  replace lh:=Hp.le_trans lh lo
  repeat' (first|(refine ax ?_)|(with_reducible refine And.intro (by omega) ?_))
  have hSS:xM h4 sl (sm l n (aq n.kind).toNat):=Buf.slc_of hbuf (by omega)
  refine Gs (n:=n) hSS (by omega) (by rw [uj];omega) (fun j hj=>?_) fun t q hres=>⟨_,_,_,rfl,?_⟩
  ·rw [uj]at hj
   rw [qv];unfold du;rw [if_pos hj];exact hg j hj
  rw [qv,qv,qv]at hres
  have hso:kr n (du l n (aq n.kind).toNat 0) (du l n (aq n.kind).toNat 1) (du l n (aq n.kind).toNat 2)=cY n (du l n (aq n.kind).toNat 0) (du l n (aq n.kind).toNat 1) (du l n (aq n.kind).toNat 2):=by
   have:=lM (k:=n.kind) (by omega)
   unfold kr;rw [if_neg (by omega),if_neg (by omega)]
  rw [<-hso,<-hns]at hres
  unfold Res at hres
  refine ai fun b7 h7 hb7 l7 f7=>?_
  have n7:b14≠b7:=fresh_ne hb7 f14
  have b7n:=aD lh hb7
  replace f14:=l7 _ _ f14
  (with_reducible apply bZ);(assumption);(exact Hp.le_trans lh l7);(exact b7n);(decide)
  intro h8 f8 kp8 l8
  replace f14:=cc kp8 n7 f14
  refine ad (fun e=>?_) (fun e=>?_)
  ·(with_reducible apply bZ);(assumption);(exact l8);(exact b14n);(decide);intro _ _ _ _
   repeat' (refine ax ?_)
   refine lf (by assumption) ?_
   rw [hres,show q=false by simpa using e];rfl
  ·repeat' (refine ax ?_)
   (with_reducible apply bZ);(assumption);(exact l8);(exact b14n);(decide);intro _ _ _ _
   repeat' (refine ax ?_)
   refine lf (by assumption) ?_
   rw [hres,show q=true by simpa using e];rfl
abbrev bindCells (b:BindP):List Value:= [I b.state,I b.node]
def qa (h:Hp) (s:Sl) (l:List BindP):Prop:=SlC h s 2 (l.flatMap bindCells)
theorem qa.mono {h h':Hp} {s:Sl} {l:List BindP} (le:h.le h') (e:qa h s l):qa h' s l:=SlC.mono le e
theorem qa.len {h:Hp} {s:Sl} {l:List BindP} (e:qa h s l):s.n=l.length:=by
 have:=e.2.1
 rw [hE (m:=2) (fun _=>rfl)]at this;omega
theorem qa.at {h:Hp} {s:Sl} {l:List BindP} (e:qa h s l) {i:Nat} {x:BindP} (hi:l[i]?=some x):
  ∃b o,s.a=some (Addr.mk b o none)/\Hp.cell h b (o+i*2)=some (I x.state)/\Hp.cell h b ((o+i*2)+1)=some (I x.node):=by
 have hl:=e.len
 have hlt:i<l.length:=by
  rcases Nat.lt_or_ge i l.length with h|h
  ·exact h
  ·rw [List.getElem?_eq_none h]at hi;cases hi
 obtain⟨b,o,ha,hc⟩:=SlC.get e (by omega)
 have g: ∀j v,j<2->(bindCells x)[j]?=some v->Hp.cell h b ((o+i*2)+j)=some v:=fun j v hj hv=>by
  rw [Nat.add_assoc]
  refine hc _ _ ?_
  rw [vn (m:=2) (fun _=>rfl) l i x j hi hj];exact hv
 exact⟨b,o,ha,g 0 _ (by omega) rfl,g 1 _ (by omega) rfl⟩
structure MSl where
 no:Sl
 ini:Sl
 nex:Sl
 bad:Sl
 hol:Sl
abbrev aR (M:MSl):Value:= .agg #[M.no.v,M.ini.v,M.nex.v,M.bad.v,M.hol.v]
abbrev av (M:MSl):List Value:= [M.no.v,M.ini.v,M.nex.v,M.bad.v,M.hol.v]
structure aM (h:Hp) (M:MSl) (m:aj):Prop where
 nodes:iB h M.no m.nodes
 inits:qa h M.ini m.inits
 nexts:qa h M.nex m.nexts
 bads:IntS h M.bad m.bads
 holds:IntS h M.hol m.holds
 cap:M.no.n<=M.no.c
structure bT (m:aj):Prop where
 nodes:m.nodes.length<=1048576
 inits:m.inits.length<=1048576
 nexts:m.nexts.length<=1048576
 bads:m.bads.length<=1048576
 holds:m.holds.length<=1048576
 names: ∀n∈m.nodes,n.name.size<=1048576
theorem aM.mono {h h':Hp} {M:MSl} {m:aj} (l:h.le h') (e:aM h M m):aM h' M m:=
 ⟨e.nodes.mono l,e.inits.mono l,e.nexts.mono l,e.bads.mono l,e.holds.mono l,e.cap⟩
theorem iB.take {h:Hp} {s:Sl} {l:List NodeP} (e:iB h s l) {b o:Nat} (ha:s.a=some ⟨b,o,none⟩) {i:Nat} (hi:i<=l.length) (c:Nat):
  iB h ⟨some ⟨b,o,none⟩,i,c⟩ (l.take i):=by
 have hl:=e.len
 have hn:=e.1
 refine⟨by show i<=_;omega,?_,?_⟩
 ·rw [hE (m:=9) (fun _=>rfl),List.length_take];show _=i*9;omega
 ·rcases e.2.2 with h0|⟨b',o',ha',hc⟩
  ·exact .inl (by show i=0;omega)
  ·rw [ha]at ha';cases ha'
   refine .inr ⟨b,o,rfl,fun j v hv=>hc j v ?_⟩
   have hj:j<((l.take i).flatMap nodeCells).length:=by
    rcases Nat.lt_or_ge j ((l.take i).flatMap nodeCells).length with h|h
    ·exact h
    ·rw [List.getElem?_eq_none h]at hv;cases hv
   rw [<-List.take_append_drop i l,List.flatMap_append,List.getElem?_append_left hj];exact hv
theorem wR (o:Option SortP):Ei o= .tuple #[.agg #[I (o.getD ⟨0,0⟩).idx,I (o.getD ⟨0,0⟩).wid], .bool o.isSome]:=by cases o<;>rfl
theorem pd {l:List NodeP}:cl l=true↔ ∀(i:Nat) (n:NodeP),l[i]?=some n->cK (l.take i) n=some n.sort:=by
 unfold cl
 rw [List.all_eq_true]
 constructor
 ·intro h i n hn
  have hlt:i<l.length:=by
   rcases Nat.lt_or_ge i l.length with h|h
   ·exact h
   ·rw [List.getElem?_eq_none h]at hn;cases hn
  have:=h i (List.mem_range.2 hlt)
  rw [hn]at this;simpa using this
 ·intro h i hi
  cases hn:l[i]? with
  |none=>rfl
  |some n=>simpa using h i n hn
theorem yW {l:List NodeP} {i:Nat} {n:NodeP} (hn:l[i]?=some n) (h:cK (l.take i) n≠some n.sort):cl l=false:=by
 rw [Bool.eq_false_iff];exact fun e=>h (pd.1 e i n hn)
theorem Ig {o:Option SortP} {t:SortP} (h:(!o.isSome)=true\/(!(((o.getD ⟨0,0⟩).idx==t.idx)&&(((o.getD ⟨0,0⟩).wid==t.wid)&&true)))=true):o≠some t:=by
 rintro rfl
 simp at h
theorem JC {o:Option SortP} {t:SortP} (h1:(!o.isSome)=false) (h2:(!(((o.getD ⟨0,0⟩).idx==t.idx)&&(((o.getD ⟨0,0⟩).wid==t.wid)&&true)))=false):o=some t:=by
 cases o with
 |none=>simp at h1
 |some u=>
  simp at h2
  rw [Option.some.injEq,gU];exact h2
theorem get_lt {α:Type} {l:List α} {i:Nat} {x:α} (h:l[i]?=some x):i<l.length:=by
 rcases Nat.lt_or_ge i l.length with h'|h'
 ·exact h'
 ·rw [List.getElem?_eq_none h']at h;cases h
theorem z0 :Int.toNat (Int.ofNat 0)=0:=rfl
theorem IB {h:Hp} {M:MSl} {m:aj} {R:Value->Hp->Prop} (hs:aM h M m) (hm:bT m) (k:R (.bool (cl m.nodes)) h):j5 #[aR M] h R:=by
 refine ACalls.drop (vj ?_)
 refine uf_ ?_
 have hn:=hs.nodes.len
 have hcap:=hs.cap
 have hns:=hm.nodes
 refine ai fun b7 h1 hb7 l1 f7=>?_
 have lf: ∀{h'':Hp} {q:Bool},h.le h''->q=cl m.nodes-> ∃h':Hp,h'.le h''/\R (.bool q) h':=fun l e=>⟨_,l,e▸k⟩
 clear k
 repeat' (refine ax ?_)
 refine aw m.nodes.length (fun i vs h'=>vs= [.pointer (some ⟨b7,0,none⟩),M.no.v,I M.no.n,I i]/\h.le h'/\h' b7=some (.inl ⟨av M,5,false⟩)/\
  ∀(j:Nat) (n:NodeP),j<i->m.nodes[j]?=some n->cK (m.nodes.take j) n=some n.sort) ⟨rfl,l1,f7,fun j n hj=>by omega⟩ ?_
 clear f7 l1 hb7 h1
 rintro i _ h1 next hi ⟨rfl,l1,f7,hg⟩ hnx
 refine⟨_,_,M.no,_,_,rfl,?_⟩
 by_cases hlt:i<m.nodes.length
 ·refine aK (by simp;omega) ?_
  obtain⟨n,hni⟩: ∃n,m.nodes[i]?=some n:=⟨_,List.getElem?_eq_getElem hlt⟩
  have hmem:=List.mem_of_getElem? hni
  obtain⟨b,o,ha,c0,c1,c2,c3,c4,c5,c6,c7,c8⟩:=(hs.nodes.mono l1).at hni
  simp only [vm]
  refine⟨b,o,ha,by omega,_,c0,_,c1,_,c2,_,c3,_,c4,_,c5,_,c6,_,c7,_,c8,?_⟩
  refine ai fun b9 h2 hb9 l2 f9'=>?_
  have n9:b7≠b9:=fresh_ne hb9 f7
  replace f7:=l2 _ _ f7
  (with_reducible apply bZ);(exact f9');(exact Hp.le_trans l1 l2);(exact aD l1 hb9);(decide)
  intro h3 f9 kp l3
  replace f7:=cc kp n9 f7
  clear l2 kp f9' hb9
  generalize ho:cK (m.nodes.take i) n=oo
  refine ap (fun J=> ∀b' h',h.le h'->h' b7=some (.inl ⟨av M,5,false⟩)->h' b9=some (.inl ⟨nodeCells n,9,false⟩)->h' b'=some (.inl ⟨[I (oo.getD ⟨0,0⟩).idx,I (oo.getD ⟨0,0⟩).wid],2,false⟩)->J b' 0 oo.isSome h') ?_ (fun J hJ=>?_)
  ·intro b' h' l' f7' f9' fb'
   refine ap (fun J=>J ((!oo.isSome)||(!(((oo.getD ⟨0,0⟩).idx==n.sort.idx)&&(((oo.getD ⟨0,0⟩).wid==n.sort.wid)&&true))))) ?_ (fun J hJ=>?_)
   ·refine ad (fun e=>lf l' ?_) (fun e=>?_)
    ·rw [yW hni (by rw [ho];exact Ig (by simpa [Bool.or_eq_true] using e))]
    ·rw [aE (by omega)]
     refine hnx hlt _ _ ⟨rfl,l',f7',fun j n' hj hn'=>?_⟩
     by_cases hji:j=i
     ·subst hji
      rw [hni]at hn';cases hn'
      rw [Bool.or_eq_false_iff]at e
      rw [ho];exact JC e.1 e.2
     ·exact hg j n' (by omega) hn'
   ·refine ad (fun e=>?_) (fun e=>?_)
    ·rw [e,Bool.true_or]at hJ;exact hJ
    ·rw [e,Bool.false_or]at hJ
     repeat' (refine ax ?_)
     exact hJ
  ·(refine ax ?_)
   refine⟨by decide,by simp,by omega, .inr ⟨b,o,ha,?_⟩⟩
   simp only [z0,vm,Nat.sub_zero,Nat.zero_mul,Nat.add_zero,ite_self]
   repeat' (refine ax ?_)
   have hts:iB h ⟨some ⟨b,o,none⟩,i,M.no.c⟩ (m.nodes.take i):=iB.take hs.nodes ha (by omega) _
   constructor
   ·refine qx (s:=⟨some ⟨b,o,none⟩,i,M.no.c⟩) (n:=n) (hts.mono l3) (hm.names n hmem) (by simp;omega) ?_
    rw [ho,wR]
    refine⟨_,_,_,rfl,?_⟩
    refine ai fun b4 h4 hb4 l4 f4=>?_
    have n7:=fresh_ne hb4 f7
    have n9:=fresh_ne hb4 f9
    refine⟨by rw [l4 _ _ f9,f9],by rw [l4 _ _ f7,f7],?_⟩
    (with_reducible apply bZ);(assumption);(exact Hp.le_trans l3 l4);(exact aD l3 hb4);(decide)
    intro h5 f5 kp l5
    exact hJ b4 h5 l5 (cc kp n7 (l4 _ _ f7)) (cc kp n9 (l4 _ _ f9)) f5
   ·refine ai fun b4 h4 hb4 l4 f4=>?_
    have n7:=fresh_ne hb4 f7
    have n9:=fresh_ne hb4 f9
    refine⟨by rw [l4 _ _ f9,f9],by rw [l4 _ _ f7,f7],?_⟩
    refine qx (s:=⟨some ⟨b,o,none⟩,i,M.no.c⟩) (n:=n) (hts.mono (Hp.le_trans l3 l4)) (hm.names n hmem) (by simp;omega) ?_
    rw [ho,wR]
    refine⟨_,_,_,rfl,?_⟩
    (with_reducible apply bZ);(assumption);(exact Hp.le_trans l3 l4);(exact aD l3 hb4);(decide)
    intro h5 f5 kp l5
    exact hJ b4 h5 l5 (cc kp n7 (l4 _ _ f7)) (cc kp n9 (l4 _ _ f9)) f5
 ·refine aF (by simp;omega) (lf l1 ?_)
  symm
  refine pd.2 fun j n hn'=>hg j n ?_ hn'
  have:=get_lt hn';omega
theorem Jc {h:Hp} {M:MSl} {m:aj} {R:Value->Hp->Prop} (hs:aM h M m) (hm:bT m) (k:R (.bool (cl m.nodes)) h):qt #[aR M] h R:=by
 refine ACalls.drop (FG ?_)
 refine uf_ ?_
 have hn:=hs.nodes.len
 have hcap:=hs.cap
 have hns:=hm.nodes
 refine ai fun b7 h1 hb7 l1 f7=>?_
 have lf: ∀{h'':Hp} {q:Bool},h.le h''->q=cl m.nodes-> ∃h':Hp,h'.le h''/\R (.bool q) h':=fun l e=>⟨_,l,e▸k⟩
 clear k
 refine aw m.nodes.length (fun i vs h'=>vs= [.pointer (some ⟨b7,0,none⟩),I i]/\h.le h'/\h' b7=some (.inl ⟨av M,5,false⟩)/\
  ∀(j:Nat) (n:NodeP),j<i->m.nodes[j]?=some n->cK (m.nodes.take j) n=some n.sort) ⟨rfl,l1,f7,fun j n hj=>by omega⟩ ?_
 clear f7 l1 hb7 h1
 rintro i _ h3 next hi ⟨rfl,l3,f7,hg⟩ hnx
 refine⟨_,_,_,rfl,?_⟩
 (refine ax ?_)
 by_cases hlt:i<m.nodes.length
 ·refine aK (by simp;omega) ?_
  obtain⟨n,hni⟩: ∃n,m.nodes[i]?=some n:=⟨_,List.getElem?_eq_getElem hlt⟩
  have hmem:=List.mem_of_getElem? hni
  obtain⟨b,o,ha,c0,c1,c2,c3,c4,c5,c6,c7,c8⟩:=(hs.nodes.mono l3).at hni
  generalize ho:cK (m.nodes.take i) n=oo
  refine ap (fun J=> ∀b' h',h.le h'->h' b7=some (.inl ⟨av M,5,false⟩)->Hp.cell h' b ((o+i*9)+6)=some (I n.sort.idx)->Hp.cell h' b ((o+i*9)+7)=some (I n.sort.wid)->h' b'=some (.inl ⟨[I (oo.getD ⟨0,0⟩).idx,I (oo.getD ⟨0,0⟩).wid],2,false⟩)->J b' 0 oo.isSome h') ?_ (fun J hJ=>?_)
  ·intro b' h' l' f7' c6' c7' fb'
   refine ad (fun e=>lf l' ?_) (fun e=>?_)
   ·rw [yW hni (by rw [ho];exact Ig (.inl e))]
   ·repeat' (refine ax ?_)
    refine⟨b,o,ha,by omega,by omega,?_⟩
    simp only [vm,c6',c7']
    refine ad (fun e2=>lf l' ?_) (fun e2=>?_)
    ·rw [yW hni (by rw [ho];exact Ig (.inr e2))]
    ·rw [aE (by omega)]
     refine hnx hlt _ _ ⟨rfl,l',f7',fun j n' hj hn'=>?_⟩
     by_cases hji:j=i
     ·subst hji
      rw [hni]at hn';cases hn'
      rw [ho];exact JC e e2
     ·exact hg j n' (by omega) hn'
  ·repeat' (refine ax ?_)
   refine⟨by decide,by simp,by omega, .inr ⟨b,o,ha,?_⟩⟩
   simp only [z0,vm,Nat.sub_zero,Nat.zero_mul,Nat.add_zero,ite_self]
   repeat' (refine ax ?_)
   refine⟨b,o,ha,by omega,_,c0,_,c1,_,c2,_,c3,_,c4,_,c5,_,c6,_,c7,_,c8,?_⟩
   have hts:iB h ⟨some ⟨b,o,none⟩,i,M.no.c⟩ (m.nodes.take i):=iB.take hs.nodes ha (by omega) _
   have hbb: ∀h4:Hp,h3.le h4->h4 b=h3 b:=fun h4 l4=>by
    unfold Hp.cell at c0
    split at c0
    ·rename_i r hr;rw [l4 _ _ hr,hr]
    ·cases c0
   constructor
   ·refine lp (s:=⟨some ⟨b,o,none⟩,i,M.no.c⟩) (n:=n) (hts.mono l3) (by simp;omega) ?_
    rw [ho,wR]
    refine⟨_,_,_,rfl,?_⟩
    refine ai fun b4 h4 hb4 l4 f4=>?_
    have n7:=fresh_ne hb4 f7
    have nb:=uu hb4 c0
    refine⟨hbb _ l4,by rw [l4 _ _ f7,f7],by rw [l4 _ _ f7,f7],?_⟩
    (with_reducible apply bZ);(assumption);(exact Hp.le_trans l3 l4);(exact aD l3 hb4);(decide)
    intro h5 f5 kp l5
    have e5:h5 b=h3 b:=by rw [kp b nb,hbb _ l4]
    exact hJ b4 h5 l5 (cc kp n7 (l4 _ _ f7)) (by unfold Hp.cell;rw [e5];exact c6) (by unfold Hp.cell;rw [e5];exact c7) f5
   ·refine ai fun b4 h4 hb4 l4 f4=>?_
    have n7:=fresh_ne hb4 f7
    have nb:=uu hb4 c0
    refine⟨hbb _ l4,by rw [l4 _ _ f7,f7],by rw [l4 _ _ f7,f7],?_⟩
    refine lp (s:=⟨some ⟨b,o,none⟩,i,M.no.c⟩) (n:=n) (hts.mono (Hp.le_trans l3 l4)) (by simp;omega) ?_
    rw [ho,wR]
    refine⟨_,_,_,rfl,?_⟩
    (with_reducible apply bZ);(assumption);(exact Hp.le_trans l3 l4);(exact aD l3 hb4);(decide)
    intro h5 f5 kp l5
    have e5:h5 b=h3 b:=by rw [kp b nb,hbb _ l4]
    exact hJ b4 h5 l5 (cc kp n7 (l4 _ _ f7)) (by unfold Hp.cell;rw [e5];exact c6) (by unfold Hp.cell;rw [e5];exact c7) f5
 ·refine aF (by simp;omega) (lf l3 ?_)
  symm
  refine pd.2 fun j n hn'=>hg j n ?_ hn'
  have:=get_lt hn';omega
theorem sO {α:Type} [DecidableEq α] {l:List α}:jA l=true↔ ∃(i:Nat) (x:α),l[i]?=some x/\x∈l.take i:=by
 unfold jA
 rw [List.any_eq_true]
 constructor
 ·rintro ⟨i,hi,h⟩
  cases hx:l[i]? with
  |none=>rw [hx]at h;cases h
  |some x=>rw [hx]at h;exact⟨i,x,hx,by simpa using h⟩
 ·rintro ⟨i,x,hx,hm⟩
  exact⟨i,List.mem_range.2 (get_lt hx),by rw [hx];simpa using hm⟩
theorem rX {l:List NodeP}:j9 l=true↔ ∃(i:Nat) (n:NodeP),l[i]?=some n/\n.name.size≠0/\ ∃y∈l.take i,y.name=n.name:=by
 unfold j9
 rw [List.any_eq_true]
 constructor
 ·rintro ⟨i,hi,h⟩
  cases hx:l[i]? with
  |none=>rw [hx]at h;cases h
  |some x=>rw [hx]at h;simp only [Bool.and_eq_true,decide_eq_true_eq,List.any_eq_true]at h;exact⟨i,x,hx,h.1,h.2⟩
 ·rintro ⟨i,x,hx,h1,h2⟩
  exact⟨i,List.mem_range.2 (get_lt hx),by rw [hx];simp only [Bool.and_eq_true,decide_eq_true_eq,List.any_eq_true];exact⟨h1,h2⟩⟩
theorem Yh (a b:ByteArray):(ByteArray.toList a==ByteArray.toList b)=decide (a=b):=by
 rcases a with ⟨⟨x⟩⟩;rcases b with ⟨⟨y⟩⟩
 rw [kg,kg,Bool.eq_iff_iff];simp
theorem Mh (a b:ByteArray):(a==b)=decide (a=b):=by
 rcases a with ⟨x⟩;rcases b with ⟨y⟩
 show ((x==y):Bool)=_
 rw [Bool.eq_iff_iff];simp
instance : LawfulBEq ByteArray where
 rfl:=by intro a;rw [Mh];simp
 eq_of_beq:=by intro a b h;rw [Mh]at h;simpa using h
def yE (set:List ByteArray):List (Value×Value):=set.map fun x=>(.string x, .bool true)
theorem Lq (set:List ByteArray) (n:ByteArray): ∃res,eX (Instr.sameNow .string (.string n)) (yE set) 0=some res/\Option.getD (Option.map (fun p=>p.2) res) (.bool false)= .bool (decide (n∈set))/\
  ut (yE set) (.string n) (.bool true) res=yE (if n∈set then set else set++ [n]):=by
 unfold yE
 rcases pg (Instr.sameNow .string (.string n)) (fun x:ByteArray=> .string x) (fun _=> .bool true) (fun x=>n==x) set 0 (fun x _=>rfl)with ⟨hno,hm⟩|⟨j,hj,hyes,_,hm⟩
 ·have hc:n∉set:=by
   intro h
   have:=hno n h
   simp at this
  exact⟨_,hm,by rw [decide_eq_false hc];rfl,by rw [if_neg hc];simp [ut]⟩
 ·have he:n=set[j]:=by rw [Mh]at hyes;simpa using hyes
  have hc:n∈set:=by rw [he];simp
  refine⟨_,hm,by rw [decide_eq_true hc];rfl,?_⟩
  rw [if_pos hc]
  simp only [ut,Nat.zero_add]
  apply List.ext_getElem
  ·simp
  ·intro i h1 h2
   rw [List.getElem_set]
   split
   ·rename_i hij;subst hij;simp [he]
   ·rfl
theorem Ax {h:Hp} {s:Sl} {l:List BindP} {R:Value->Hp->Prop} (hs:qa h s l) (hl:l.length<=1048576) (k:R (.bool (jA (l.map (·.state)))) h):mt #[s.v] h R:=by
 apply FE
 refine uf_ ?_
 have hn:=hs.len
 refine aw l.length (fun i vs h'=>vs= [s.v,I i]/\h'=h/\ ∀(i' j':Nat) (x y:BindP),i'<i->j'<i'->l[i']?=some x->l[j']?=some y->x.state≠y.state) ⟨rfl,rfl,fun i' j' x y h=>by omega⟩ ?_
 rintro i _ h' next hi ⟨rfl,rfl,hg⟩ hnx
 refine⟨s,_,rfl,?_⟩
 by_cases hlt:i<l.length
 ·refine aK (by simp;omega) ?_
  obtain⟨x,hx⟩: ∃n,l[i]?=some n:=⟨_,List.getElem?_eq_getElem hlt⟩
  refine aw i (fun j vs h2=>vs= [s.v,I i,I j]/\h2=h'/\ ∀(j':Nat) (y:BindP),j'<j->l[j']?=some y->x.state≠y.state) ⟨rfl,rfl,fun j' y h=>by omega⟩ ?_
  rintro j _ h' next2 hj ⟨rfl,rfl,hg2⟩ hnx2
  refine⟨s,_,_,rfl,?_⟩
  by_cases hjlt:j<i
  ·refine aK (by simp;omega) ?_
   obtain⟨y,hy⟩: ∃n,l[j]?=some n:=⟨_,List.getElem?_eq_getElem (by omega)⟩
   obtain⟨b,o,ha,c0,_⟩:=hs.at hx
   obtain⟨b',o',ha',c0',_⟩:=hs.at hy
   simp only [vm]
   refine⟨b,o,ha,by omega,b',o',ha',by omega,?_⟩
   simp only [vm,c0,c0']
   refine ad (fun e=>df ?_ k) (fun e=>?_)
   ·symm
    refine sO.2 ⟨i,x.state,by rw [List.getElem?_map,hx];rfl,?_⟩
    rw [<-List.map_take,List.mem_map]
    exact⟨y,List.mem_of_getElem? (i:=j) (by rw [List.getElem?_take_of_lt hjlt];exact hy),(bR e).symm⟩
   ·rw [aE (by omega)]
    refine hnx2 hjlt _ _ ⟨rfl,rfl,fun j' z hj' hz=>?_⟩
    by_cases hjj:j'=j
    ·subst hjj;rw [hy]at hz;cases hz;exact aY e
    ·exact hg2 j' z (by omega) hz
  ·refine aF (by simp;omega) ?_
   rw [aE (by omega)]
   refine hnx hlt _ _ ⟨rfl,rfl,fun i' j' x' y' hi' hj' hx' hy'=>?_⟩
   by_cases hii:i'=i
   ·subst hii;rw [hx]at hx';cases hx'
    exact hg2 j' y' (by omega) hy'
   ·exact hg i' j' x' y' (by omega) hj' hx' hy'
 ·refine aF (by simp;omega) (df ?_ k)
  symm
  rw [Bool.eq_false_iff]
  intro h
  obtain⟨i',x,hx,hm⟩:=sO.1 h
  rw [List.getElem?_map]at hx
  rw [<-List.map_take,List.mem_map]at hm
  obtain⟨y,hy,hxy⟩:=hm
  obtain⟨j',hj',hyj⟩:=List.getElem_of_mem hy
  cases hz:l[i']? with
  |none=>rw [hz]at hx;cases hx
  |some z=>
   rw [hz]at hx;cases hx
   have hlt':=get_lt hz
   rw [List.length_take]at hj'
   refine hg i' j' z y (by omega) (by omega) hz ?_ hxy.symm
   rw [List.getElem_take]at hyj
   rw [<-hyj];exact List.getElem?_eq_getElem (by omega)
theorem A4 (m:aj):rH m=(j9 m.nodes||(jA (m.inits.map (·.state))||jA (m.nexts.map (·.state)))):=rfl
theorem NV {l:List NodeP} (hg: ∀(i' j':Nat) (x y:NodeP),j'<i'->l[i']?=some x->l[j']?=some y->x.name.size=0\/x.name≠y.name):j9 l=false:=by
 rw [Bool.eq_false_iff]
 intro h
 obtain⟨i',x,hx,h0,y,hy,hxy⟩:=rX.1 h
 obtain⟨j',hj',hyj⟩:=List.getElem_of_mem hy
 have hlt':=get_lt hx
 rw [List.length_take]at hj'
 rw [List.getElem_take]at hyj
 rcases hg i' j' x y (by omega) hx (by rw [<-hyj];exact List.getElem?_eq_getElem (by omega))with h|h
 ·exact h0 h
 ·exact h hxy.symm
theorem SO {l:List NodeP} {i j:Nat} {x y:NodeP} (hj:j<i) (hx:l[i]?=some x) (hy:l[j]?=some y) (h0:x.name.size≠0) (h:x.name=y.name):j9 l=true:=
 rX.2 ⟨i,x,hx,h0,y,List.mem_of_getElem? (i:=j) (by rw [List.getElem?_take_of_lt hj];exact hy),h.symm⟩
theorem Jg {h:Hp} {M:MSl} {m:aj} {R:Value->Hp->Prop} (hs:aM h M m) (hm:bT m) (k:R (.bool (rH m)) h):qX #[aR M] h R:=by
 refine ACalls.drop (Fj ?_)
 refine uf_ ?_
 have hn:=hs.nodes.len
 have hns:=hm.nodes
 refine ai fun b7 h1 hb7 l1 f7=>?_
 have lf: ∀{q:Bool},q=rH m-> ∃h':Hp,h'.le h1/\R (.bool q) h':=fun e=>⟨_,l1,e▸k⟩
 clear k
 rw [A4]at lf
 refine aw m.nodes.length (fun i vs h'=>vs= [.pointer (some ⟨b7,0,none⟩),I i]/\h'=h1/\
  ∀(i' j':Nat) (x y:NodeP),i'<i->j'<i'->m.nodes[i']?=some x->m.nodes[j']?=some y->x.name.size=0\/x.name≠y.name) ⟨rfl,rfl,fun i' j' x y h=>by omega⟩ ?_
 rintro i _ h' next hi ⟨rfl,rfl,hg⟩ hnx
 refine⟨_,_,_,rfl,?_⟩
 (refine ax ?_)
 by_cases hlt:i<m.nodes.length
 ·refine aK (by simp;omega) ?_
  obtain⟨x,hx⟩: ∃n,m.nodes[i]?=some n:=⟨_,List.getElem?_eq_getElem hlt⟩
  refine aw i (fun j vs h2=>vs= [.pointer (some ⟨b7,0,none⟩),I i,I j]/\h2=h'/\ ∀(j':Nat) (y:NodeP),j'<j->m.nodes[j']?=some y->x.name.size=0\/x.name≠y.name) ⟨rfl,rfl,fun j' y h=>by omega⟩ ?_
  rintro j _ h2 next2 hj ⟨rfl,rfl,hg2⟩ hnx2
  refine⟨_,_,_,_,rfl,?_⟩
  by_cases hjlt:j<i
  ·refine aK (by simp;omega) ?_
   obtain⟨y,hy⟩: ∃n,m.nodes[j]?=some n:=⟨_,List.getElem?_eq_getElem (by omega)⟩
   obtain⟨b,o,ha,_,_,_,_,_,_,_,_,c8⟩:=(hs.nodes.mono l1).at hx
   obtain⟨b',o',ha',_,_,_,_,_,_,_,_,c8'⟩:=(hs.nodes.mono l1).at hy
   have nx:x.name.size=0\/x.name≠y.name->next2 [.pointer (some ⟨b7,0,none⟩),I i,I (W ((j:Int)+1))] h2:=fun hxy=>by
    rw [aE (by omega)]
    refine hnx2 hjlt _ _ ⟨rfl,rfl,fun j' z hj' hz=>?_⟩
    by_cases hjj:j'=j
    ·subst hjj;rw [hy]at hz;cases hz;exact hxy
    ·exact hg2 j' z (by omega) hz
   (refine ax ?_)
   refine⟨b,o,ha,by omega,by omega,?_⟩
   simp only [vm,c8,uY]
   refine ad (fun e=>?_) (fun e=>nx (.inl (by simpa using e)))
   (refine ax ?_)
   refine⟨b,o,ha,by omega,_,c8,?_⟩
   (refine ax ?_)
   refine⟨b',o',ha',by omega,_,c8',?_⟩
   rw [Yh]
   refine ad (fun e2=>lf ?_) (fun e2=>nx (.inr (by simpa using e2)))
   rw [SO hjlt hx hy (by simpa using e) (by simpa using e2)];rfl
  ·refine aF (by simp;omega) ?_
   rw [aE (by omega)]
   refine hnx hlt _ _ ⟨rfl,rfl,fun i' j' x' y' hi' hj' hx' hy'=>?_⟩
   by_cases hii:i'=i
   ·subst hii;rw [hx]at hx';cases hx'
    exact hg2 j' y' (by omega) hy'
   ·exact hg i' j' x' y' (by omega) hj' hx' hy'
 ·refine aF (by simp;omega) ?_
  rw [NV (fun i' j' x y hj hx hy=>hg i' j' x y (by have:=get_lt hx;omega) hj hx hy),Bool.false_or]at lf
  repeat' (refine ax ?_)
  refine Ax (hs.inits.mono l1) hm.inits ⟨_,rfl,ad (fun e=>lf (by rw [e,Bool.true_or])) (fun e=>?_)⟩
  rw [e,Bool.false_or]at lf
  repeat' (refine ax ?_)
  exact Ax (hs.nexts.mono l1) hm.nexts ⟨_,rfl,lf rfl⟩
theorem NX {h h0:Hp} {b:Nat} {x:Option Blk} {P:Hp->Prop} (l:h0.le h) (hb:h0 b=none)
  (k: ∀h',h' b=x->(∀c,c≠b->h' c=h c)->h0.le h'->P h'):co (h.set b x) fun h'=>P h':=
 k _ (Hp.set_eq ..) (fun c e=>Hp.set_ne _ _ e) (qp _ l hb)
theorem ND {h:Hp} {P:Nat->Hp->Prop} (k: ∀b h',h b=none->h.le h'->h' b=some (.inr [])->P b h'): ∀b,h b=none->co (h.set b (some (.inr []))) fun h'=>P b h':=
 fun b hb=>k b _ hb (Hp.le_set _ hb) (Hp.set_eq ..)
def pT (m:aj):Nat->List BindP
 |0=>m.inits
 |_=>m.nexts
def DH (M:MSl):Nat->Sl
 |0=>M.ini
 |_=>M.nex
theorem Tu {l:List Int} (h: ∀(i:Nat) (x:Int),l[i]?=some x->x∉l.take i):jA l=false:=by
 rw [Bool.eq_false_iff]
 intro hh
 obtain⟨i,x,hx,hm⟩:=sO.1 hh
 exact h i x hx hm
theorem LR {h:Hp} {M:MSl} {m:aj} {R:Value->Hp->Prop} (hs:aM h M m) (hm:bT m) (k:R (.bool (rH m)) h):lA #[aR M] h R:=by
 refine ACalls.drop (yG ?_)
 refine uf_ ?_
 have hn:=hs.nodes.len
 have hns:=hm.nodes
 refine ai fun b7 h1 hb7 l1 f7=>?_
 have lf: ∀{h'':Hp} {q:Bool},h.le h''->q=rH m-> ∃h':Hp,h'.le h''/\R (.bool q) h':=fun l e=>⟨_,l,e▸k⟩
 clear k
 rw [A4]at lf
 refine ND fun b10 h2 hb10 l2 f10=>?_
 have n7:=fresh_ne hb10 f7
 have b10n:=aD l1 hb10
 replace f7:=l2 _ _ f7
 replace l2:=Hp.le_trans l1 l2
 (refine ax ?_)
 refine aw m.nodes.length (fun i vs h'=> ∃set:List ByteArray,vs= [.pointer (some ⟨b7,0,none⟩), .map (some b10),M.no.v,I M.no.n,I i]/\h.le h'/\h' b7=some (.inl ⟨av M,5,false⟩)/\h' b10=some (.inr (yE set))/\
  (∀x,x∈set↔ ∃y∈m.nodes.take i,y.name=x)/\
  ∀(i':Nat) (x:NodeP),i'<i->m.nodes[i']?=some x->x.name.size≠0-> ∀y∈m.nodes.take i',y.name≠x.name) ⟨[],rfl,l2,f7,f10,by simp,fun i' x h=>by omega⟩ ?_
 clear f7 f10 l1 l2 hb7 hb10 h1 h2
 rintro i _ h1 next hi ⟨set,rfl,l1,f7,f10,hset,hg⟩ hnx
 refine⟨_,_,_,M.no,_,_,rfl,?_⟩
 by_cases hlt:i<m.nodes.length
 ·refine aK (by simp;omega) ?_
  obtain⟨n,hni⟩: ∃n,m.nodes[i]?=some n:=⟨_,List.getElem?_eq_getElem hlt⟩
  obtain⟨b,o,ha,c0,c1,c2,c3,c4,c5,c6,c7,c8⟩:=(hs.nodes.mono l1).at hni
  simp only [vm]
  refine⟨b,o,ha,by omega,_,c0,_,c1,_,c2,_,c3,_,c4,_,c5,_,c6,_,c7,_,c8,?_⟩
  refine ai fun b9 h2 hb9 l2 f9'=>?_
  have n79:b7≠b9:=fresh_ne hb9 f7
  have n109:b10≠b9:=fresh_ne hb9 f10
  replace f7:=l2 _ _ f7
  replace f10:=l2 _ _ f10
  (with_reducible apply bZ);(exact f9');(exact Hp.le_trans l1 l2);(exact aD l1 hb9);(decide)
  intro h3 f9 kp l3
  replace f7:=cc kp n79 f7
  replace f10:=cc kp n109 f10
  clear l2 kp f9' hb9
  obtain⟨res,hm1,hm2,hm3⟩:=Lq set n.name
  refine ap (fun J=>J (decide (n.name.size≠0)&&decide (n.name∈set))) ?_ (fun J hJ=>?_)
  ·refine ad (fun e=>lf l3 ?_) (fun e=>?_)
   ·have e':n.name.size≠0/\n.name∈set:=by simpa only [Bool.and_eq_true,decide_eq_true_eq] using e
    obtain⟨y,hy,hyn⟩:=(hset _).1 e'.2
    rw [rX.2 ⟨i,n,hni,e'.1,y,hy,hyn⟩];rfl
   ·(refine ax ?_)
    refine⟨b10,yE set,res,rfl,f10,hm1,?_⟩
    rw [hm3]
    refine NX l3 b10n fun h4 f10' kp l4=>?_
    rw [aE (by omega)]
    refine hnx hlt _ _ ⟨_,rfl,l4,cc kp n7 f7,f10',fun x=>?_,fun i' x hi' hx h0 y hy=>?_⟩
    ·rw [List.take_succ_eq_append_getElem hlt]
     have hgi:m.nodes[i]=n:=by rw [List.getElem?_eq_getElem hlt]at hni;exact Option.some.inj hni
     rw [hgi]
     have hde:=e
     have key:x∈set\/x=n.name↔ ∃y∈m.nodes.take i++ [n],y.name=x:=by
      rw [hset]
      constructor
      ·rintro (⟨y,hy,e⟩|e)
       ·exact⟨y,List.mem_append_left _ hy,e⟩
       ·exact⟨n,by simp,e.symm⟩
      ·rintro ⟨y,hy,e⟩
       rcases List.mem_append.1 hy with hy|hy
       ·exact .inl ⟨y,hy,e⟩
       ·have hyn:y=n:=by simpa using hy
        exact .inr (by rw [<-e,hyn])
     rw [<-key]
     split
     ·rename_i hin
      constructor
      ·exact .inl
      ·rintro (h|h)
       ·exact h
       ·rw [h];exact hin
     ·simp
    ·by_cases hii:i'=i
     ·subst hii
      rw [hni]at hx;cases hx
      intro he
      have:n.name∈set:=(hset _).2 ⟨y,hy,he⟩
      rw [decide_eq_true h0,decide_eq_true this]at e;cases e
     ·exact hg i' x (by omega) hx h0 y hy
  ·(refine ax ?_)
   rw [uY]
   refine ad (fun e=>?_) (fun e=>?_)
   ·(refine ax ?_)
    have h0:n.name.size≠0:=by simpa only [Bool.not_eq_true',decide_eq_false_iff_not] using e
    rw [decide_eq_true h0,Bool.true_and]at hJ
    exact⟨b10,yE set,res,rfl,f10,hm1,_,hm2,hJ⟩
   ·have h0:n.name.size=0:=by simpa only [Bool.not_eq_false',decide_eq_true_eq] using e
    rw [decide_eq_false (fun h=>h h0),Bool.false_and]at hJ;exact hJ
 ·refine aF (by simp;omega) ?_
  rw [NV (fun i' j' x y hj hx hy=>?_),Bool.false_or]at lf
  rotate_left
  ·by_cases h0:x.name.size=0
   ·exact .inl h0
   ·refine .inr fun he=>hg i' x (by have:=get_lt hx;omega) hx h0 y (List.mem_of_getElem? (i:=j') (by rw [List.getElem?_take_of_lt hj];exact hy)) he.symm
  clear hnx hg hset f10 n7 b10n
  repeat' (refine ax ?_)
  refine ai fun b65 h2 hb65 l2 f65=>?_
  replace l2:=Hp.le_trans l1 l2
  have hbl: ∀k,(pT m k).length<=1048576:=fun k=>match k with|0=>hm.inits|_+1=>hm.nexts
  have hbs: ∀k,qa h (DH M k) (pT m k):=fun k=>match k with|0=>hs.inits|_+1=>hs.nexts
  have htw: ∀k,k<2->jA ((pT m k).map (·.state))=true->true=(jA (m.inits.map (·.state))||jA (m.nexts.map (·.state))):=fun k hk hag=>by
   cases k with
   |zero=>rw [show pT m 0=m.inits from rfl]at hag;rw [hag];rfl
   |succ k=>rw [show pT m (k+1)=m.nexts from rfl]at hag;rw [hag,Bool.or_true]
  refine aw 2 (fun k vs h'=>vs= [.slice (some ⟨b65,0,none⟩) 2 2,I 2,I k]/\h.le h'/\h' b65=some (.inl ⟨[M.ini.v,M.nex.v],2,false⟩)/\
   ∀k':Nat,k'<k->jA ((pT m k').map (·.state))=false) ⟨rfl,l2,f65,fun k' h=>by omega⟩ ?_
  clear l2 f65 hb65 h2 l1 f7 hi
  rintro k _ h2 next2 hk ⟨rfl,l2,f65,hg⟩ hnx
  refine⟨⟨_,_,_⟩,_,_,rfl,?_⟩
  by_cases hk2:k<2
  ·refine aK (by simp;omega) ?_
   have hc:Hp.cell h2 b65 k=some (DH M k).v:=by
    rw [am f65]
    obtain rfl|rfl:k=0\/k=1:=by omega
    all_goals rfl
   have hlen:=(hbs k).len
   have hbk:=hbl k
   simp only [vm,hc]
   refine⟨by omega,?_⟩
   refine ND fun bm h3 hbm l3 fm=>?_
   have nm:=fresh_ne hbm f65
   have bmn:=aD l2 hbm
   refine aw (pT m k).length (fun i vs h'=> ∃set:List Int,vs= [.map (some bm), .slice (some ⟨b65,0,none⟩) 2 2,I 2,I k,(DH M k).v,I (DH M k).n,I i]/\h.le h'/\h' b65=some (.inl ⟨[M.ini.v,M.nex.v],2,false⟩)/\h' bm=some (.inr (zy set))/\
    (∀x,x∈set↔x∈((pT m k).map (·.state)).take i)/\
    ∀(i':Nat) (x:Int),i'<i->((pT m k).map (·.state))[i']?=some x->x∉((pT m k).map (·.state)).take i') ⟨[],rfl,Hp.le_trans l2 l3,l3 _ _ f65,fm,by simp,fun i' x h=>by omega⟩ ?_
   clear f65 fm l2 l3 hbm h2 h3 hc
   rintro i _ h2 next3 hi ⟨set,rfl,l2,f65,fm,hset,hg2⟩ hnx3
   refine⟨_,⟨_,_,_⟩,_,_,DH M k,_,_,rfl,?_⟩
   by_cases hlt:i<(pT m k).length
   ·refine aK (by simp;omega) ?_
    obtain⟨x,hx⟩: ∃n,(pT m k)[i]?=some n:=⟨_,List.getElem?_eq_getElem hlt⟩
    obtain⟨b,o,ha,c0,c1⟩:=((hbs k).mono l2).at hx
    simp only [vm]
    refine⟨b,o,ha,by omega,_,c0,_,c1,?_⟩
    refine ai fun b9 h3 hb9 l3 f9'=>?_
    have n659:b65≠b9:=fresh_ne hb9 f65
    have nm9:bm≠b9:=fresh_ne hb9 fm
    replace f65:=l3 _ _ f65
    replace fm:=l3 _ _ fm
    (with_reducible apply bZ);(exact f9');(exact Hp.le_trans l2 l3);(exact aD l2 hb9);(decide)
    intro h4 f9 kp l4
    replace f65:=cc kp n659 f65
    replace fm:=cc kp nm9 fm
    clear l3 kp f9' hb9
    obtain⟨res,hm1,hm2,hm3⟩:=Pz set x.state
    have hxs:((pT m k).map (·.state))[i]?=some x.state:=by rw [List.getElem?_map,hx];rfl
    (refine ax ?_)
    refine⟨bm,zy set,res,rfl,fm,hm1,_,hm2,ad (fun e=>lf l4 ?_) (fun e=>?_)⟩
    ·refine htw k hk2 (sO.2 ⟨i,x.state,hxs,?_⟩)
     exact(hset _).1 (by simpa using e)
    ·(refine ax ?_)
     refine⟨bm,zy set,res,rfl,fm,hm1,?_⟩
     rw [hm3,if_neg (by rw [e];decide)]
     refine NX l4 bmn fun h5 fm' kp l5=>?_
     rw [aE (by omega)]
     have hlt':i<((pT m k).map (·.state)).length:=by simpa using hlt
     refine hnx3 hlt _ _ ⟨_,rfl,l5,cc kp nm f65,fm',fun y=>?_,fun i' y hi' hy=>?_⟩
     ·rw [List.take_succ_eq_append_getElem hlt',List.mem_append,List.mem_append,hset]
      rw [List.getElem?_eq_getElem hlt']at hxs
      rw [Option.some.inj hxs]
     ·by_cases hii:i'=i
      ·subst hii
       rw [hxs]at hy;cases hy
       rw [<-hset];simpa using e
      ·exact hg2 i' y (by omega) hy
   ·refine aF (by simp;omega) ?_
    rw [aE (by omega)]
    refine hnx hk2 _ _ ⟨rfl,l2,f65,fun k' hk'=>?_⟩
    by_cases hkk:k'=k
    ·subst hkk
     refine Tu fun i' y hy=>hg2 i' y ?_ hy
     have:=get_lt hy
     rw [List.length_map]at this;omega
    ·exact hg k' (by omega)
  ·refine aF (by simp;omega) (lf l2 ?_)
   have h0:=hg 0 (by omega)
   have h1:=hg 1 (by omega)
   rw [show pT m 0=m.inits from rfl]at h0
   rw [show pT m 1=m.nexts from rfl]at h1
   rw [h0,h1];rfl
theorem BQ {l:List NodeP} {n:NodeP} {t:SortP} (h:cK l n=some t):l.length<=60/\eG l.length n=true:=by
 unfold cK at h
 split at h
 ·assumption
 ·cases h
theorem km {l:List NodeP} (h:cl l=true) {i:Nat} {n:NodeP} (hn:l[i]?=some n):eG i n=true:=by
 have:=(BQ (pd.1 h i n hn)).2
 rwa [List.length_take,Nat.min_eq_left (by have:=get_lt hn;omega)]at this
theorem MF {n:NodeP} {p:Nat} (hk:0<=aq n.kind):p∈qz n↔ ∃j:Nat,j<3/\(j:Int)<aq n.kind/\p=(aW n j).toNat:=by
 unfold qz
 have h3:=iC n.kind
 constructor
 ·intro h
  obtain⟨j,hj,rfl⟩:=List.getElem_of_mem h
  simp at hj
  refine⟨j,by omega,by omega,?_⟩
  rw [List.getElem_take]
  obtain rfl|rfl|rfl:j=0\/j=1\/j=2:=by omega
  all_goals rfl
 ·rintro ⟨j,h1,h2,rfl⟩
  refine List.mem_of_getElem? (i:=j) ?_
  rw [List.getElem?_take_of_lt (by omega)]
  obtain rfl|rfl|rfl:j=0\/j=1\/j=2:=by omega
  all_goals rfl
theorem B1 {l:List NodeP} (h:cl l=true):Ls l:=fun i n hn=>by
 have hf:=km h hn
 refine⟨iU hf,fun p hp=>?_⟩
 obtain⟨j,h1,h2,rfl⟩:=(MF (iU hf)).1 hp
 have:=lX hf h1 h2
 omega
def xD (l:List NodeP) (i:Nat) (x:Bool):List Value:=(dz l i++x::List.replicate (l.length-i-1) false).map Value.bool
def Ja (l:List NodeP) (i:Nat):List Value:=(dz l i++List.replicate (l.length-i) false).map Value.bool
theorem WH {l:List NodeP} {i:Nat} (h:i<l.length):Ja l i=xD l i false:=by
 unfold Ja xD
 rw [show l.length-i=(l.length-i-1)+1 by omega,List.replicate_succ];rfl
theorem Kc (l:List NodeP) (i:Nat) (x y:Bool):(xD l i x).set i (.bool y)=xD l i y:=by
 unfold xD
 rw [List.map_append,List.map_append,List.set_append_right _ _ (by simp [gM])]
 simp [gM]
theorem Vb (l:List NodeP) (i:Nat) (x:Bool):(xD l i x)[i]?=some (.bool x):=by
 unfold xD
 rw [List.map_append,List.getElem?_append_right (by simp [gM])]
 simp [gM]
theorem Ta {l:List NodeP} {i p:Nat} (x:Bool) (h:p<i):(xD l i x)[p]?=some (.bool ((dz l i).getD p false)):=by
 unfold xD
 rw [List.map_append,List.getElem?_append_left (by simp [gM];exact h),List.getElem?_map,List.getD_eq_getElem?_getD,List.getElem?_eq_getElem (by rw [gM];exact h)]
 rfl
theorem JK {l:List NodeP} {i:Nat} (x:Bool) (h:i<l.length):(xD l i x).length=l.length:=by
 unfold xD;simp [gM];omega
theorem Px {l:List NodeP} {i:Nat} {n:NodeP} (hn:l[i]?=some n):
  xD l i (fe n.kind||((decide (0<aq n.kind)&&(dz l i).getD n.a.toNat false)||((decide (1<aq n.kind)&&(dz l i).getD n.b.toNat false)||(decide (2<aq n.kind)&&(dz l i).getD n.c.toNat false))))=Ja l (i+1):=by
 unfold xD Ja
 rw [show dz l (i+1)=dz l i++ [match l[i]? with
   |some n=>fe n.kind||((decide (0<aq n.kind)&&(dz l i).getD n.a.toNat false)||((decide (1<aq n.kind)&&(dz l i).getD n.b.toNat false)||(decide (2<aq n.kind)&&(dz l i).getD n.c.toNat false)))
   |none=>false]from rfl,hn,List.append_assoc]
 rfl
def GV (l:List NodeP) (i:Nat) (n:NodeP):Nat->Bool
 |0=>fe n.kind
 |j+1=>GV l i n j||(dz l i).getD (aW n j).toNat false
theorem Sz {l:List NodeP} {i:Nat} {n:NodeP} (hk:0<=aq n.kind):GV l i n (aq n.kind).toNat=
  (fe n.kind||((decide (0<aq n.kind)&&(dz l i).getD n.a.toNat false)||((decide (1<aq n.kind)&&(dz l i).getD n.b.toNat false)||(decide (2<aq n.kind)&&(dz l i).getD n.c.toNat false)))):=by
 have h3:=iC n.kind
 obtain h|h|h|h:aq n.kind=0\/aq n.kind=1\/aq n.kind=2\/aq n.kind=3:=by omega
 all_goals (rw [h];simp [GV,aW,Bool.or_assoc])
theorem Ph {h:Hp} {M:MSl} {m:aj} {R:Value->Hp->Prop} (hs:aM h M m) (hm:bT m) (hok:cl m.nodes=true)
  (k: ∀s h',h.le h'->SlC h' s 1 ((dz m.nodes m.nodes.length).map Value.bool)->R (Sl.v s) h'):mR #[aR M] h R:=by
 apply zJ
 refine uf_ ?_
 have hn:=hs.nodes.len
 have hns:=hm.nodes
 refine ai fun b7 h1 hb7 l1 f7=>?_
 (refine ax ?_)
 refine⟨by omega,by omega,by omega,by omega,?_⟩
 refine ai fun b11 h2 hb11 l2 f11=>?_
 have n7:=fresh_ne hb11 f7
 have b11n:=aD l1 hb11
 replace f7:=l2 _ _ f7
 replace l2:=Hp.le_trans l1 l2
 (refine ax ?_)
 rw [Int.toNat_natCast,Nat.mul_one]at f11
 simp only [Int.toNat_natCast]
 have f11':h2 b11=some (.inl ⟨Ja m.nodes 0,m.nodes.length,false⟩):=by
  rw [f11,hn]
  unfold Ja
  congr 3
  simp [ce,dz]
 refine aw m.nodes.length (fun i vs h'=>vs= [.slice (some ⟨b11,0,none⟩) M.no.n M.no.n,M.no.v,I M.no.n,I i]/\h.le h'/\h' b11=some (.inl ⟨Ja m.nodes i,m.nodes.length,false⟩)) ⟨rfl,l2,f11'⟩ ?_
 clear f7 f11 f11' l1 l2 hb7 hb11 h1 h2
 rintro i _ h1 next hi ⟨rfl,l1,f11⟩ hnx
 refine⟨⟨some ⟨b11,0,none⟩,M.no.n,M.no.n⟩,M.no,_,_,rfl,?_⟩
 by_cases hlt:i<m.nodes.length
 ·refine aK (by simp;omega) ?_
  obtain⟨n,hni⟩: ∃n,m.nodes[i]?=some n:=⟨_,List.getElem?_eq_getElem hlt⟩
  have hf:=km hok hni
  have hk:=iU hf
  have hk3:=iC n.kind
  obtain⟨b,o,ha,c0,c1,c2,c3,c4,c5,c6,c7,c8⟩:=(hs.nodes.mono l1).at hni
  refine⟨b,o,ha,by omega,by omega,_,c0,_,c1,_,c2,_,c3,_,c4,_,c5,_,c6,_,c7,_,c8,?_⟩
  refine ai fun b9 h2 hb9 l2 f9'=>?_
  have n119:b11≠b9:=fresh_ne hb9 f11
  replace f11:=l2 _ _ f11
  (with_reducible apply bZ);(exact f9');(exact Hp.le_trans l1 l2);(exact aD l1 hb9);(decide)
  intro h3 f9 kp l3
  replace f11:=cc kp n119 f11
  clear l2 kp f9' hb9
  (refine ax ?_)
  refine Fl ⟨_,rfl,?_⟩
  refine⟨b11,0,rfl,by omega,by dsimp only;omega,?_⟩
  rw [WH hlt]at f11
  (with_reducible apply bZ);(exact f11);(exact l3);(exact b11n);(rw [JK _ hlt];omega)
  intro h4 g11 kp l4
  simp only [vm]at g11
  rw [bK,Kc]at g11
  replace f9:=cc kp n119.symm f9
  clear f11 kp l3
  have f11:=g11
  clear g11
  refine ap (fun J=> ∀b46 h',h.le h'->h' b11=some (.inl ⟨xD m.nodes i (fe n.kind),m.nodes.length,false⟩)->
   h' b46=some (.inl ⟨[I n.a,I n.b,I n.c],3,false⟩)->b46≠b11->J (Sl.mk (some ⟨b46,0,none⟩) (aq n.kind).toNat 3) (((aq n.kind).toNat:Nat):Int) h') ?_ (fun J hJ=>?_)
  rotate_left
  ·repeat' (refine ax ?_)
   constructor
   ·refine ai fun b46 h5 hb46 l5 f46=>?_
    have e12:h5 b9=h4 b9:=by rw [l5 _ _ f9,f9]
    refine⟨e12,gJ ⟨_,rfl,e12,e12,e12,by decide,by simpa using hk,by simpa using hk3, .inr ⟨_,_,rfl,?_⟩⟩⟩
    exact hJ b46 h5 (Hp.le_trans l4 l5) (l5 _ _ f11) f46 (fresh_ne hb46 f11).symm
   ·refine gJ ⟨_,rfl,rfl,rfl,rfl,?_⟩
    refine ai fun b46 h5 hb46 l5 f46=>?_
    have e12:h5 b9=h4 b9:=by rw [l5 _ _ f9,f9]
    refine⟨e12,by decide,by simpa using hk,by simpa using hk3, .inr ⟨_,_,rfl,?_⟩⟩
    exact hJ b46 h5 (Hp.le_trans l4 l5) (l5 _ _ f11) f46 (fresh_ne hb46 f11).symm
  intro b46 h5 l5 f11 f46 n46
  refine aw (aq n.kind).toNat (fun j vs h'=>vs= [.slice (some ⟨b11,0,none⟩) M.no.n M.no.n,I i,M.no.v,I M.no.n,I i, .slice (some ⟨b46,0,none⟩) (aq n.kind).toNat 3,I (aq n.kind).toNat,I j]/\h.le h'/\
   h' b11=some (.inl ⟨xD m.nodes i (GV m.nodes i n j),m.nodes.length,false⟩)/\h' b46=some (.inl ⟨[I n.a,I n.b,I n.c],3,false⟩)) ⟨rfl,l5,f11,f46⟩ ?_
  clear l5 f11 f46 f9 l4 h5
  rintro j _ h5 next2 hj ⟨rfl,l5,f11,f46⟩ hnx2
  refine⟨⟨some ⟨b11,0,none⟩,M.no.n,M.no.n⟩,_,M.no,_,_,⟨some ⟨b46,0,none⟩,(aq n.kind).toNat,3⟩,_,_,rfl,?_⟩
  by_cases hjlt:j<(aq n.kind).toNat
  ·have h3':j<3:=by omega
   refine aK (by simp;omega) ?_
   have hr:=lX hf h3' (by omega)
   have cp:=ql f46 h3'
   have ci:Hp.cell h5 b11 i=some (.bool (GV m.nodes i n j)):=by rw [am f11];exact Vb _ _ _
   have cq:Hp.cell h5 b11 (aW n j).toNat=some (.bool ((dz m.nodes i).getD (aW n j).toNat false)):=by rw [am f11];exact Ta _ (by omega)
   simp only [vm,cp,ci,cq]
   refine⟨by omega,by omega,?_⟩
   have nx: ∀q:Bool,q=GV m.nodes i n (j+1)-> ∀P:Hp->Prop,(∀h',h.le h'->h' b11=some (.inl ⟨xD m.nodes i q,m.nodes.length,false⟩)->h' b46=some (.inl ⟨[I n.a,I n.b,I n.c],3,false⟩)->P h')->
     ∃(cs:List Value) (z:Nat),h5 b11=some (.inl ⟨cs,z,false⟩)/\i+1<=List.length cs/\co (h5.row b11 (cB cs i [.bool q]) z) fun h'=>P h':=by
    intro q hq P hP
    (with_reducible apply bZ);(exact f11);(exact l5);(exact b11n);(rw [JK _ hlt];omega)
    intro h6 f11' kp l6
    rw [bK,Kc]at f11'
    exact hP h6 l6 f11' (cc kp n46 f46)
   refine ad (fun e=>?_) (fun e=>?_)
   ·refine⟨by omega,nx true (by simp only [GV];rw [e,Bool.true_or]) _ fun h6 l6 f11 f46=>?_⟩
    rw [aE (by omega)]
    refine hnx2 hjlt _ _ ⟨rfl,l6,?_,f46⟩
    simp only [GV];rw [e,Bool.true_or];exact f11
   ·refine⟨hr.1,by omega,by omega,nx ((dz m.nodes i).getD (aW n j).toNat false) (by simp only [GV];rw [e,Bool.false_or]) _ fun h6 l6 f11 f46=>?_⟩
    rw [aE (by omega)]
    refine hnx2 hjlt _ _ ⟨rfl,l6,?_,f46⟩
    simp only [GV];rw [e,Bool.false_or];exact f11
  ·have hje:j=(aq n.kind).toNat:=by omega
   subst hje
   refine aF (by simp) ?_
   rw [aE (by omega)]
   refine hnx hlt _ _ ⟨rfl,l5,?_⟩
   rw [<-Px hni,<-Sz hk];exact f11
 ·have hie:i=m.nodes.length:=by omega
  subst hie
  refine aF (by simp;omega) (k ⟨some ⟨b11,0,none⟩,M.no.n,M.no.n⟩ h1 l1 ?_)
  have ho:Ja m.nodes m.nodes.length=(dz m.nodes m.nodes.length).map Value.bool:=by unfold Ja;simp
  rw [ho]at f11
  refine⟨by show M.no.n<=_;omega,by simp [gM];omega, .inr ⟨b11,0,rfl,ay f11⟩⟩
def mkC (n:Nat) (S:Nat->Bool):List Value:=(List.range n).map fun j=> .bool (S j)
theorem Dz (n:Nat) (S:Nat->Bool):(mkC n S).length=n:=by simp [mkC]
theorem NT {n i:Nat} (S:Nat->Bool) (h:i<n):(mkC n S)[i]?=some (.bool (S i)):=by simp [mkC,h]
theorem Nz (n p:Nat) (S:Nat->Bool):(mkC n S).set p (.bool true)=mkC n fun j=>S j||decide (j=p):=by
 apply List.ext_getElem
 ·simp [mkC]
 ·intro i h1 h2
  rw [List.getElem_set]
  simp only [mkC,List.getElem_map,List.getElem_range]
  by_cases h:p=i
  ·rw [if_pos h,decide_eq_true h.symm,Bool.or_true]
  ·rw [if_neg h,decide_eq_false (fun e=>h e.symm),Bool.or_false]
theorem PA (n:Nat):List.replicate n (Value.bool false)=mkC n fun _=>false:=by
 apply List.ext_getElem
 ·simp [mkC]
 ·intro i h1 h2;simp [mkC]
theorem M0 {n:NodeP} (hk:0<=aq n.kind):(qz n).length=(aq n.kind).toNat:=by
 have:=iC n.kind
 unfold qz;simp;omega
theorem O1 {n:NodeP} (hk:0<=aq n.kind) {j:Nat} (h:j<(aq n.kind).toNat):(qz n)[j]?=some (aW n j).toNat:=by
 have:=iC n.kind
 unfold qz
 rw [List.getElem?_take_of_lt h]
 obtain rfl|rfl|rfl:j=0\/j=1\/j=2:=by omega
 all_goals rfl
theorem Ka {h:Hp} {s:Sl} {l:List NodeP} {a:Nat} {R:Value->Hp->Prop} (hs:iB h s l) (hl:l.length<=1048576) (hok:cl l=true) (hat:a<l.length)
  (k: ∀t h',h.le h'->SlC h' t 1 (mkC l.length (sZ l (a+1) fun j=>decide (j=a)))->R (Sl.v t) h'):rW #[s.v,I a] h R:=by
 apply GI
 refine uf_ ?_
 have hn:=hs.len
 have hah:=B1 hok
 obtain⟨F,hF⟩: ∃F,F=sZ l (a+1) fun j=>decide (j=a):=⟨_,rfl⟩
 rw [<-hF]at k
 refine⟨by omega,by omega,by omega,by omega,?_⟩
 refine ai fun b5 h1 hb5 l1 f5=>?_
 rw [Int.toNat_natCast,Nat.mul_one,ce,PA]at f5
 refine⟨b5,0,rfl,by omega,by rw [Int.toNat_natCast];omega,?_⟩
 (with_reducible apply bZ);(exact f5);(exact l1);(exact hb5);(rw [Dz,Int.toNat_natCast];omega)
 intro h2 f5' kp l2
 simp only [vm]at f5'
 rw [bK,Nz]at f5'
 clear kp f5 l1
 simp only [Int.toNat_natCast]
 refine nJ (a+1) (fun i vs h'=> ∃S:Nat->Bool,vs= [s.v, .slice (some ⟨b5,0,none⟩) s.n s.n,I ((i:Int)-1)]/\h.le h'/\h' b5=some (.inl ⟨mkC s.n S,s.n,false⟩)/\i<=a+1/\
  sZ l i S=F) ⟨fun j=>false||decide (j=a),?_,l2,f5',by omega,?_⟩ ?_
 ·rw [show (((a+1:Nat):Int)-1)=(a:Int) by omega]
 ·rw [hF];simp only [Bool.false_or]
 clear f5' l2 h1 h2
 rintro i _ h1 next ⟨S,rfl,l1,f5,hi,hd⟩ hnx
 refine⟨s,⟨some ⟨b5,0,none⟩,s.n,s.n⟩,_,rfl,?_⟩
 cases i with
 |zero=>
  refine aF (by simp) (k ⟨some ⟨b5,0,none⟩,s.n,s.n⟩ h1 l1 ?_)
  rw [<-hd,<-hn]
  refine⟨by dsimp only;omega,by rw [Dz];dsimp only;omega, .inr ⟨b5,0,rfl,ay f5⟩⟩
 |succ i=>
  have ei:(((i+1:Nat):Int)-1)=(i:Int):=by omega
  rw [ei]
  have wi:W ((i:Int)-1)=(i:Int)-1:=ca (by omega) (by omega)
  refine aK (by simp) ?_
  have ci:Hp.cell h1 b5 i=some (.bool (S i)):=by rw [am f5];exact NT S (by omega)
  simp only [vm,ci]
  refine⟨by omega,?_⟩
  obtain⟨n,hni⟩: ∃n,l[i]?=some n:=⟨_,List.getElem?_eq_getElem (by omega)⟩
  have hf:=km hok hni
  have hk:=iU hf
  have hk3:=iC n.kind
  simp only [sZ]at hd
  refine ad (fun e=>?_) (fun e=>?_)
  ·rw [wi]
   refine hnx i (by omega) _ _ ⟨S,rfl,l1,f5,by omega,?_⟩
   rw [show S i=false by simpa using e]at hd
   simpa using hd
  ·have hS:S i=true:=by simpa using e
   rw [hS]at hd
   simp only [if_true,hni]at hd
   obtain⟨b,o,ha,c0,c1,c2,c3,_⟩:=(hs.mono l1).at hni
   refine⟨b,o,ha,by omega,b,o,ha,by omega,b,o,ha,by omega,_,c1,_,c2,_,c3,?_⟩
   refine ai fun b9 h2 hb9 l2 f9=>?_
   refine aw (aq n.kind).toNat (fun q vs h'=>vs= [s.v, .slice (some ⟨b5,0,none⟩) s.n s.n,I i, .slice (some ⟨b9,0,none⟩) 3 3,I q]/\h.le h'/\
    h' b5=some (.inl ⟨mkC s.n (fun j=>S j||((qz n).take q).contains j),s.n,false⟩)/\h' b9=some (.inl ⟨[I n.a,I n.b,I n.c],3,false⟩)) ⟨rfl,Hp.le_trans l1 l2,?_,f9⟩ ?_
   ·simp only [List.take_zero,List.contains_nil,Bool.or_false];exact l2 _ _ f5
   have n9:b9≠b5:=(fresh_ne hb9 f5).symm
   rintro q _ h3 next2 hq ⟨rfl,l3,f5',f9'⟩ hnx2
   refine⟨s,⟨some ⟨b5,0,none⟩,s.n,s.n⟩,_,⟨some ⟨b9,0,none⟩,3,3⟩,_,rfl,?_⟩
   obtain⟨b',o',ha',c0',_⟩:=(hs.mono l3).at hni
   refine⟨b',o',ha',by omega,by omega,_,c0',mw ⟨_,rfl,?_⟩⟩
   by_cases hqlt:q<(aq n.kind).toNat
   ·have h3':q<3:=by omega
    refine aK (by simp;omega) ?_
    have hr:=lX hf h3' (by omega)
    have cp:=ql f9' h3'
    refine⟨b9,0,rfl,by omega,by dsimp only;omega,_,by simpa using cp,b5,0,rfl,hr.1,by dsimp only;omega,?_⟩
    (with_reducible apply bZ);(exact f5');(exact l3);(exact hb5);(rw [Dz];omega)
    intro h4 f5'' kp l4
    simp only [vm]at f5''
    rw [bK,Nz]at f5''
    rw [aE (by omega)]
    refine hnx2 hqlt _ _ ⟨rfl,l4,?_,cc kp n9 f9'⟩
    rw [f5'']
    congr 4
    funext j
    rw [List.take_add_one,O1 hk hqlt]
    simp [Bool.or_assoc]
   ·have hqe:q=(aq n.kind).toNat:=by omega
    subst hqe
    refine aF (by simp;omega) ?_
    rw [wi]
    refine hnx i (by omega) _ _ ⟨_,rfl,l3,f5',by omega,?_⟩
    rw [List.take_of_length_le (by rw [M0 hk];omega)]
    exact hd
theorem I7 {h:Hp} {M:MSl} {m:aj} {a:Nat} {R:Value->Hp->Prop} (hs:aM h M m) (hm:bT m) (hok:cl m.nodes=true) (hat:a<m.nodes.length)
  (k:R (.bool (!qy m.nodes a)) h):qN #[aR M,I a] h R:=by
 refine ACalls.drop (FN ?_)
 refine uf_ ?_
 have hn:=hs.nodes.len
 have hns:=hm.nodes
 have hah:=B1 hok
 have hda:=UE hah hat
 refine ai fun b8 h1 hb8 l1 f8=>?_
 have lf: ∀{h'':Hp} {q:Bool},h.le h''->q= !qy m.nodes a-> ∃h':Hp,h'.le h''/\R (.bool q) h':=fun l e=>⟨_,l,e▸k⟩
 clear k
 (refine ax ?_)
 refine Ka (hs.nodes.mono l1) hns hok hat fun t h2 l2 ht=>⟨_,rfl,?_⟩
 have f8':=l2 _ _ f8
 have l12:=Hp.le_trans l1 l2
 have htn:t.n=m.nodes.length:=by have:=ht.2.1;rw [Dz]at this;omega
 obtain⟨bt,ot,hat',hct⟩:=SlC.get ht (by omega)
 refine aw (a+1) (fun i vs h'=>vs= [I a, .pointer (some ⟨b8,0,none⟩),t.v,I i]/\h'=h2/\ ∀j:Nat,j<i-> ¬(sZ m.nodes (a+1) (fun j=>decide (j=a)) j=true/\qb m.nodes j=true)) ⟨rfl,rfl,fun j hj=>by omega⟩ ?_
 rintro i _ h' next hi ⟨rfl,rfl,hg⟩ hnx
 refine⟨_,_,_,t,_,rfl,?_⟩
 by_cases hlt:i<a+1
 ·refine aK (by simp;omega) ?_
  obtain⟨n,hni⟩: ∃n,m.nodes[i]?=some n:=⟨_,List.getElem?_eq_getElem (by omega)⟩
  obtain⟨b,o,ha,c0,_⟩:=(hs.nodes.mono l12).at hni
  have hnm:qb m.nodes i=decide (n.kind=35\/n.kind=36):=by unfold qb fe;rw [hni]
  refine ap (fun J=>J (sZ m.nodes (a+1) (fun j=>decide (j=a)) i&&qb m.nodes i)) ?_ (fun J hJ=>?_)
  ·refine ad (fun e=>lf l12 ?_) (fun e=>?_)
   ·have:qy m.nodes a=true:=hda.1 ⟨i,by simpa using e⟩
    rw [this];rfl
   ·rw [aE (by omega)]
    refine hnx hlt _ _ ⟨rfl,rfl,fun j hj=>?_⟩
    by_cases hji:j=i
    ·subst hji;intro hh;rw [hh.1,hh.2]at e;cases e
    ·exact hg j (by omega)
  ·refine⟨bt,ot,hat',by omega,by omega,_,by simpa using hct i _ (NT _ (by omega)),?_⟩
   refine ad (fun e=>?_) (fun e=>?_)
   ·rw [e,Bool.true_and,hnm]at hJ
    (refine ax ?_)
    refine⟨b,o,ha,by omega,by omega,_,c0,?_⟩
    refine ad (fun e2=>?_) (fun e2=>?_)
    ·rw [decide_eq_true (.inr (bR e2))]at hJ;exact hJ
    ·(refine ax ?_)
     refine⟨b,o,ha,by omega,by omega,_,c0,?_⟩
     exact eR (J:=J) (by have:=aY e2;rw [Bool.eq_iff_iff];simp [this]) hJ
   ·rw [e,Bool.false_and]at hJ;exact hJ
 ·refine aF (by simp;omega) (lf l12 ?_)
  have:qy m.nodes a=false:=by
   rw [Bool.eq_false_iff]
   intro hh
   obtain⟨j,h1,h2⟩:=hda.2 hh
   have:=UU hah a (a+1) (fun j=>decide (j=a)) (by omega) (by omega) (fun j hj=>by have:=of_decide_eq_true hj;omega) j h1
   exact hg j (by omega) ⟨h1,h2⟩
  rw [this];rfl
theorem XK {h h':Hp} {c:Nat} (l:h.le h') (hx:h c≠none):h' c=h c:=by
 cases hc:h c with
 |none=>exact absurd hc hx
 |some x=>exact l _ _ hc
theorem gD {h:Hp} {b o:Nat} {v:Value} (e:Hp.cell h b o=some v):h b≠none:=fun hn=>by simp [Hp.cell,hn]at e
theorem fK {h:Hp} {b:Nat} {x:Blk} (e:h b=some x):h b≠none:=by rw [e];simp
theorem jZ {h h':Hp} {c:Nat} {P:Prop} (l:h.le h') (hx:h c≠none) (k:P):h' c=h c/\P:=⟨XK l hx,k⟩
theorem kO {l:List NodeP} {p:Int} (h:cR l p=true):0<=p/\p<l.length/\ ∃n,l[p.toNat]?=some n/\aC l p=n.sort/\jh l p=n.kind:=by
 unfold cR at h
 have h':0<=p/\p<=(l.length:Int)-1:=by simpa using h
 have hlt:p.toNat<l.length:=by omega
 have e:l[p.toNat]?=some l[p.toNat]:=List.getElem?_eq_getElem hlt
 exact⟨h'.1,by omega,_,e,oQ e,by unfold jh;rw [e]⟩
theorem tH {h:Hp} {M:MSl} {l:List NodeP} {p:Int} {R:Value->Hp->Prop} (hs:M.no.n=l.length) (hl:l.length<=1048576) (k:R (.bool (cR l p)) h):fy #[aR M,I p] h R:=by
 refine ACalls.drop (vT ?_)
 refine uf_ ?_
 refine ai fun b8 h1 hb8 l1 f8=>?_
 (refine ax ?_)
 refine eV ⟨_,rfl,_,l1,df ?_ k⟩
 unfold cR
 rw [ca (by omega) (by omega),hs]
def Dm (l:List NodeP) (b:BindP) (init:Bool):Bool:=if init then hR l b else eW l b
theorem mY (a b:SortP):((a.idx==b.idx)&&((a.wid==b.wid)&&true))=decide (a=b):=by
 rw [Bool.eq_iff_iff,decide_eq_true_eq,gU];simp
theorem BT {h:Hp} {M:MSl} {m:aj} {s:Sl} {b:BindP} {ini:Bool} {R:Value->Hp->Prop} (hs:aM h M m) (hm:bT m) (hmd:SlC h s 1 ((dz m.nodes m.nodes.length).map Value.bool))
  (k:R (.bool (Dm m.nodes b ini)) h):iw #[aR M,H0 b,s.v, .bool ini] h R:=by
 refine ACalls.drop (xi ?_)
 refine uf_ ?_
 have hn:=hs.nodes.len
 have hns:=hm.nodes
 refine ai fun b11 h1 hb11 l1 f11=>?_
 refine ai fun b13 h2 hb13 l2 f13=>?_
 replace f11:=l2 _ _ f11
 replace l2:=Hp.le_trans l1 l2
 have lf: ∀{h'':Hp} {q:Bool},h.le h''->q=Dm m.nodes b ini-> ∃h':Hp,h'.le h''/\R (.bool q) h':=fun l e=>⟨_,l,e▸k⟩
 clear k hb11 hb13 l1
 have hq:Dm m.nodes b ini=((cR m.nodes b.state&&cR m.nodes b.node&&decide (jh m.nodes b.state=36))&&
   (if ini then((decide (aC m.nodes b.state=aC m.nodes b.node)||decide (aC m.nodes b.node=cr (aC m.nodes b.state).wid))&& !(dz m.nodes m.nodes.length).getD b.node.toNat false)else decide (aC m.nodes b.state=aC m.nodes b.node))):=by
  unfold Dm;cases ini<;>rfl
 rw [hq]at lf
 refine ap (fun J=>J (!(cR m.nodes b.state&&cR m.nodes b.node&&decide (jh m.nodes b.state=36))) h2) ?_ (fun J hJ=>?_)
 rotate_left
 ·repeat' (refine ax ?_)
  refine tH hn hns ⟨_,rfl,ad (fun e=>?_) (fun e=>?_)⟩
  ·rw [show cR m.nodes b.state=false by simpa using e]at hJ;exact hJ
  ·rw [show cR m.nodes b.state=true by simpa using e,Bool.true_and]at hJ
   repeat' (refine ax ?_)
   refine tH hn hns ⟨_,rfl,ad (fun e2=>?_) (fun e2=>?_)⟩
   ·rw [show cR m.nodes b.node=false by simpa using e2]at hJ;exact hJ
   ·rw [show cR m.nodes b.node=true by simpa using e2,Bool.true_and]at hJ
    repeat' (refine ax ?_)
    obtain⟨p1,p2,n,hn1,hn2,hn3⟩:=kO (l:=m.nodes) (p:=b.state) (by simpa using e)
    obtain⟨bb,o,ha,c0,_⟩:=(hs.nodes.mono l2).at hn1
    refine⟨bb,o,ha,p1,by omega,_,c0,?_⟩
    refine eR (J:=fun b=>J b h2) ?_ hJ
    rw [hn3,Bool.eq_iff_iff];simp
 refine ad (fun e=>?_) (fun e=>?_)
 ·refine lf l2 ?_
  rw [show (cR m.nodes b.state&&cR m.nodes b.node&&decide (jh m.nodes b.state=36))=false by rw [Bool.not_eq_true']at e;exact e,Bool.false_and]
 have e1:(cR m.nodes b.state&&cR m.nodes b.node&&decide (jh m.nodes b.state=36))=true:=by rw [Bool.not_eq_false']at e;exact e
 rw [e1,Bool.true_and]at lf
 clear hq e
 rw [Bool.and_eq_true,Bool.and_eq_true]at e1
 obtain⟨p1,p2,n1,hn1,hs1,_⟩:=kO e1.1.1
 obtain⟨p3,p4,n2,hn2,hs2,_⟩:=kO e1.1.2
 obtain⟨ba,oa,ha1,_,_,_,_,_,_,c6,c7,_⟩:=(hs.nodes.mono l2).at hn1
 obtain⟨bb,ob,ha2,_,_,_,_,_,_,d6,d7,_⟩:=(hs.nodes.mono l2).at hn2
 rw [hs1,hs2]at lf
 refine ap (fun J=> ∀b1 b2 h',h2.le h'->h' b1=some (.inl ⟨[I n1.sort.idx,I n1.sort.wid],2,false⟩)->h' b2=some (.inl ⟨[I n2.sort.idx,I n2.sort.wid],2,false⟩)->J b1 0 b2 0 h') ?_ (fun J hJ=>?_)
 ·intro b1 b2 h' l' g1 g2
  replace f13:=l' _ _ f13
  have lh:=Hp.le_trans l2 l'
  have hmd':=hmd.mono lh
  have hsn:s.n=m.nodes.length:=by have:=hmd.2.1;simp [gM]at this;omega
  have hmr: ∃bs os,s.a=some (Addr.mk bs os none)/\Hp.cell h' bs (os+b.node.toNat)=some (.bool ((dz m.nodes m.nodes.length).getD b.node.toNat false)):=by
   obtain⟨bs,os,hsa,hc⟩:=SlC.get hmd' (by omega)
   refine⟨bs,os,hsa,hc _ _ ?_⟩
   rw [List.getElem?_map,List.getD_eq_getElem?_getD,List.getElem?_eq_getElem (by rw [gM];omega)];rfl
  obtain⟨bs,os,hsa,hcm⟩:=hmr
  refine ad (fun e=>?_) (fun e=>?_)
  ·repeat' (refine ax ?_)
   refine lf lh ?_
   rw [mY,if_neg (by simpa using e)]
  ·have hi:ini=true:=by simpa using e
   rw [hi,if_pos rfl]at lf
   repeat' (refine ax ?_)
   refine ad (fun e=>?_) (fun e=>?_)
   ·rw [mY]at e
    repeat' (refine ax ?_)
    refine⟨bs,os,hsa,p3,by omega,_,by rw [Nat.mul_one];exact hcm,lf lh ?_⟩
    rw [e,Bool.true_or,Bool.true_and]
   ·rw [mY]at e
    rw [e,Bool.false_or]at lf
    repeat' (refine ax ?_)
    refine da ⟨_,_,rfl,?_⟩
    repeat' (refine ax ?_)
    refine ad (fun e2=>?_) (fun e2=>?_)
    ·rw [mY]at e2
     repeat' (refine ax ?_)
     refine⟨bs,os,hsa,p3,by omega,_,by rw [Nat.mul_one];exact hcm,lf lh ?_⟩
     rw [e2,Bool.true_and]
    ·rw [mY]at e2
     exact lf lh (by rw [e2,Bool.false_and])
 ·clear lf
  repeat' (refine ax ?_)
  refine⟨ba,oa,ha1,p1,by omega,_,c6,_,c7,?_⟩
  repeat' (refine ax ?_)
  refine⟨bb,ob,ha2,p3,by omega,_,d6,_,d7,?_⟩
  have z1:=gD c6
  have z2:=gD d6
  have z3:=fK f11
  have z4:=fK f13
  constructor
  ·refine ai fun b56 h3 hb56 l3 f56=>?_
   repeat' (((with_reducible apply jZ);(assumption);(assumption)))
   refine ai fun b58 h4 hb58 l4 f58=>?_
   have l24:=Hp.le_trans l3 l4
   have hb58':=aD l3 hb58
   have ne:=fresh_ne hb58 f56
   replace f56:=l4 _ _ f56
   repeat' (((with_reducible apply jZ);(assumption);(assumption)))
   (with_reducible apply bZ);(exact f56);(exact l24);(exact hb56);(decide)
   intro h5 g56 kp5 l5
   replace f58:=cc kp5 ne.symm f58
   repeat' (((with_reducible apply jZ);(assumption);(assumption)))
   (with_reducible apply bZ);(exact f58);(exact l5);(exact hb58');(decide)
   intro h6 g58 kp6 l6
   exact hJ b56 b58 h6 l6 (cc kp6 ne g56) g58
  ·refine ai fun b56 h3 hb56 l3 f56=>?_
   repeat' (((with_reducible apply jZ);(assumption);(assumption)))
   refine ai fun b58 h4 hb58 l4 f58=>?_
   have l24:=Hp.le_trans l3 l4
   have hb58':=aD l3 hb58
   have ne:=fresh_ne hb58 f56
   replace f56:=l4 _ _ f56
   repeat' (((with_reducible apply jZ);(assumption);(assumption)))
   (with_reducible apply bZ);(exact f58);(exact l24);(exact hb58');(decide)
   intro h5 g58 kp5 l5
   replace f56:=cc kp5 ne f56
   repeat' (((with_reducible apply jZ);(assumption);(assumption)))
   (with_reducible apply bZ);(exact f56);(exact l5);(exact hb56);(decide)
   intro h6 g56 kp6 l6
   exact hJ b58 b56 h6 l6 (cc kp6 ne.symm g58) g56
theorem zA {h:Hp} {M:MSl} {m:aj} {b:BindP} {R:Value->Hp->Prop} (hs:aM h M m) (hm:bT m)
  (k:R (.bool (eW m.nodes b)) h):nc #[aR M,H0 b] h R:=by
 refine ACalls.drop (Fn ?_)
 refine uf_ ?_
 have hn:=hs.nodes.len
 have hns:=hm.nodes
 refine ai fun b11 h1 hb11 l1 f11=>?_
 refine ai fun b13 h2 hb13 l2 f13=>?_
 replace f11:=l2 _ _ f11
 replace l2:=Hp.le_trans l1 l2
 have lf: ∀{q:Bool},q=eW m.nodes b-> ∃h':Hp,h'.le h2/\R (.bool q) h':=fun e=>⟨_,l2,e▸k⟩
 clear k hb11 hb13 l1
 unfold eW at lf
 have hw:W ((M.no.n:Int)-1)=(m.nodes.length:Int)-1:=by rw [ca (by omega) (by omega),hn]
 repeat' (refine ax ?_)
 rw [hw]
 refine eO ⟨_,rfl,?_⟩
 rw [show decide (0<=b.state/\b.state<=(m.nodes.length:Int)-1)=cR m.nodes b.state from rfl]
 refine ad (fun e1=>?_) (fun e=>lf (by rw [e];rfl))
 repeat' (refine ax ?_)
 refine eO ⟨_,rfl,?_⟩
 rw [show decide (0<=b.node/\b.node<=(m.nodes.length:Int)-1)=cR m.nodes b.node from rfl]
 refine ad (fun e2=>?_) (fun e=>lf (by rw [e,Bool.and_false];rfl))
 rw [e1,e2,Bool.true_and,Bool.true_and]at lf
 obtain⟨p1,p2,n1,hn1,hs1,hk1⟩:=kO e1
 obtain⟨p3,p4,n2,hn2,hs2,_⟩:=kO e2
 obtain⟨ba,oa,ha1,c0,_,_,_,_,_,c6,c7,_⟩:=(hs.nodes.mono l2).at hn1
 obtain⟨bb,ob,ha2,_,_,_,_,_,_,d6,d7,_⟩:=(hs.nodes.mono l2).at hn2
 rw [hs1,hs2,hk1]at lf
 repeat' (refine ax ?_)
 refine⟨ba,oa,ha1,p1,by omega,_,c0,?_⟩
 refine ad (fun e=>?_) (fun e=>lf (by rw [decide_eq_false (aY e)];rfl))
 repeat' (refine ax ?_)
 refine⟨ba,oa,ha1,p1,by omega,_,c6,_,c7,?_⟩
 repeat' (refine ax ?_)
 refine⟨bb,ob,ha2,p3,by omega,_,d6,_,d7,lf ?_⟩
 rw [mY,decide_eq_true (bR e),Bool.true_and]
theorem xz {h:Hp} {s:Sl} {xs:List BindP} {f:FuncId} {u w:Array Value} (p:BindP->Bool) {R:Value->Hp->Prop} (hs:qa h s xs) (hl:xs.length<=1048576)
  (hf: ∀x∈xs,∀R:Value->Hp->Prop,R (.bool (p x)) h->ACalls PR f ((u++ #[H0 x])++w) h R)
  (k:R (I (FW p xs)) h):dC #[s.v, .func (.func f) u w] h R:=by
 apply jJ
 refine uf_ ?_
 have hn:=hs.len
 refine aw xs.length (fun i vs h'=>vs= [s.v, .func (.func f) u w,I xs.length,I i]/\h'=h/\(xs.take i).any p=false) ⟨by rw [hs.len];rfl,rfl,by simp⟩ ?_
 rintro i _ _ next hi ⟨rfl,rfl,hp⟩ hnx
 refine⟨s,_,_,_,_,_,rfl,?_⟩
 by_cases hlt:i<xs.length
 ·obtain⟨b,o,ha,c0,c1⟩:=hs.at (List.getElem?_eq_getElem hlt)
  refine aK (by simp [hlt]) ?_
  refine⟨b,o,ha,by omega,by omega,_,c0,_,c1,?_⟩
  refine hf _ (List.getElem_mem hlt) _ ⟨_,rfl,ad (fun he=>?_) (fun he=>?_)⟩
  ·rwa [Bu hlt hp he]at k
  ·rw [aE (by omega)]
   exact hnx hlt _ _ ⟨rfl,rfl,by rw [Lk hlt,hp,he];rfl⟩
 ·have:i=xs.length:=by omega
  subst this
  rw [List.take_length]at hp
  refine aF (by simp) ?_
  rwa [wY hp]at k
theorem mL {h:Hp} {s:Sl} {xs:List BindP} {f:FuncId} {u w:Array Value} (p:BindP->Bool) {R:Value->Hp->Prop} (hs:qa h s xs) (hl:xs.length<=1048576)
  (hf: ∀x∈xs,∀R:Value->Hp->Prop,R (.bool (p x)) h->ACalls PR f ((u++ #[H0 x])++w) h R)
  (k:R (.bool (xs.any p)) h):cF #[s.v, .func (.func f) u w] h R:=by
 apply jf
 refine uf_ ?_
 exact xz p hs hl hf ⟨_,rfl,by rwa [IL]⟩
structure P2 (g h:Hp) (s:Sl) (cs:List Value):Prop where
 le:g.le h
 len:cs.length=s.n
 room:s.n<=s.c
 row:(s.a=none/\s.n=0/\s.c=0)\/ ∃b all,s.a=some ⟨b,0,none⟩/\g b=none/\h b=some (.inl ⟨all,s.c*1,false⟩)/\s.n<=all.length/\all.take s.n=cs
theorem P2.slc {g h:Hp} {s:Sl} {cs:List Value} (e:P2 g h s cs) (hn:s.n<=9223372036854775807):SlC h s 1 cs:=by
 refine⟨hn,by rw [e.len,Nat.mul_one],?_⟩
 rcases e.row with ⟨_,h0,_⟩|⟨b,all,ha,_,hb,_,ht⟩
 ·exact .inl h0
 ·refine .inr ⟨b,0,ha,fun i v hv=>?_⟩
  rw [Nat.zero_add,am hb]
  rw [<-ht]at hv
  rw [List.getElem?_take]at hv
  split at hv
  ·exact hv
  ·cases hv
theorem Pi {g h:Hp} {s:Sl} {by_ m:Nat} {cs news:List Value} {src:Option Addr} {K:Option Addr->Nat->Nat->Hp->Prop}
  (hb:P2 g h s cs) (hsz:(s.n+m)*by_<=140737488355328) (hsz':s.n+m<=9223372036854775807)
  (hs:0<m-> ∃sb so,src=some ⟨sb,so,none⟩/\ic g sb so news) (hl:news.length=m) (ho:news.all (·.oneCell')=true)
  (k: ∀(s':Sl) (h':Hp),s'.n=s.n+m->P2 g h' s' (cs++news)->K s'.a s'.n s'.c h'):cf h s.a s.n s.c src m 1 by_ K:=by
 by_cases h0:m=0
 ·subst h0
  have:news= []:=List.eq_nil_of_length_eq_zero hl
  subst this
  refine .inl ⟨rfl,hb.room,k s h rfl ?_⟩
  rw [List.append_nil];exact hb
 ·obtain⟨sb,so,hsa,hsc⟩:=hs (by omega)
  refine .inr ⟨by omega,hsz,hsz',sb,so,news,hsa,by omega,fun i v hv=>hb.le.cell (hsc i v hv),ho,?_⟩
  rcases hb.row with ⟨ha,hn,hc⟩|⟨b,all,ha,hg,hbb,hall,ht⟩
  ·have hcs:cs= []:=List.eq_nil_of_length_eq_zero (by rw [hb.len,hn])
   subst hcs
   refine .inl ⟨by omega, [],?_,fun _=>⟨hn,hc⟩,fun b c hbn hle=>?_⟩
   ·rw [hn];simp [m8]
   ·rw [hn,Nat.zero_add]
    refine k ⟨some ⟨b,0,none⟩,m,c⟩ _ (by dsimp only;omega) ⟨dX _ _ (aD hb.le hbn) hb.le,by simp;omega,by dsimp only;omega, .inr ⟨b,news,rfl,aD hb.le hbn,?_,by dsimp only;omega,?_⟩⟩
    ·rw [bP];simp
    ·simp [<-hl]
  ·refine .inr ⟨b,all,ha,hbb,by omega,fun b' c hb' hle=>?_⟩
   rw [Nat.mul_one,ht]
   have hgb:g b'=none:=by
    rcases hb' with rfl|hb'
    ·exact hg
    ·exact aD hb.le hb'
   refine k ⟨some ⟨b',0,none⟩,s.n+m,c⟩ _ rfl ⟨?_,by simp [hb.len,hl],by dsimp only;omega, .inr ⟨b',cs++news,rfl,hgb,bP _ _ _ _,by simp [hb.len,hl],?_⟩⟩
   ·exact qp _ (qp _ hb.le hg) hgb
   ·exact List.take_of_length_le (by simp [hb.len,hl])
theorem Gi {h:Hp} {n:Nat} {R:Value->Hp->Prop} (hn:n<=4194304) (k: ∀s h',P2 h h' s []->R (Sl.v s) h'):ja #[.slice none 0 0,I n] h R:=by
 refine um (s1:=⟨none,0,0⟩) ?_
 refine uf_ ?_
 have hw:W ((n:Int)-W (((0:Nat):Int)-((0:Nat):Int)))=n:=by
  rw [ca (n:=((0:Nat):Int)-((0:Nat):Int)) (by omega) (by omega),ca (by omega) (by omega)];omega
 refine aF (by simp) ?_
 simp only [hw]
 refine ad (fun e=>?_) (fun e=>?_)
 ·have e':0<n:=by simpa using e
  refine⟨by decide,by decide,by omega, .inl ⟨by(first|trivial|rfl|omega|decide),by(first|trivial|rfl|omega|decide),by(first|trivial|rfl|omega|decide),by(first|trivial|rfl|omega|decide),by(first|trivial|rfl|omega|decide),by(first|trivial|rfl|omega|decide),by(first|trivial|rfl|omega|decide),by(first|trivial|rfl|omega|decide),fun b c hb hc=>?_⟩⟩
  refine⟨by decide,by decide,by omega, .inr ⟨b,0,rfl,?_⟩⟩
  have hif:(if c=Int.toNat (Int.ofNat 0)then 0 else 0+Int.toNat (Int.ofNat 0)*1)=0:=by split<;>rfl
  rw [hif]
  refine k ⟨some ⟨b,0,none⟩,0,c⟩ _ ⟨eA _ _ hb,rfl,by dsimp only;omega, .inr ⟨b,_,rfl,hb,bP _ _ _ _,by dsimp only;omega,by rw [List.take_zero]⟩⟩
 ·exact k ⟨none,0,0⟩ h ⟨Hp.le_refl _,rfl,Nat.le_refl _, .inl ⟨rfl,rfl,rfl⟩⟩
theorem Da {h:Hp} {b:Nat} {s1 s2:Sl} {xs ys:List Int} {R:Value->Hp->Prop} (hb:h b=some (.inl ⟨[s1.v,s2.v],2,false⟩)) (h1:IntS h s1 xs) (h2:IntS h s2 ys)
  (hx:xs.length<=1048576) (hy:ys.length<=1048576) (k: ∀t h',h.le h'->IntS h' t (xs++ys)->R (Sl.v t) h'):ik #[.slice (some ⟨b,0,none⟩) 2 2] h R:=by
 refine sq (s1:=⟨some ⟨b,0,none⟩,2,2⟩) ?_
 refine uf_ ?_
 have n1:=h1.len
 have n2:=h2.len
 let sl:Nat->Sl:=fun i=>if i=0 then s1 else s2
 let ls:Nat->List Int:=fun i=>if i=0 then xs else ys
 have hc: ∀i,i<2-> ∀h',h.le h'->Hp.cell h' b i=some (sl i).v:=fun i hi h' l'=>by
  rw [am (l' _ _ hb)]
  obtain rfl|rfl:i=0\/i=1:=by omega
  all_goals rfl
 have hls: ∀i,(sl i).n=(ls i).length/\(ls i).length<=1048576/\IntS h (sl i) (ls i):=fun i=>by
  by_cases h0:i=0
  ·subst h0;exact⟨n1,hx,h1⟩
  ·simp only [sl,ls,if_neg h0];exact⟨n2,hy,h2⟩
 let tot:Nat->Nat:=fun i=>if i=0 then 0 else if i=1 then xs.length else xs.length+ys.length
 let cat:Nat->List Int:=fun i=>if i=0 then []else if i=1 then xs else xs++ys
 have htot: ∀i,i<2->tot i+(ls i).length=tot (i+1)/\cat i++ls i=cat (i+1)/\(cat i).length=tot i/\tot i<=2097152:=fun i hi=>by
  obtain rfl|rfl:i=0\/i=1:=by omega
  ·refine⟨?_,?_,rfl,?_⟩<;>simp [tot,ls,cat]
  ·refine⟨?_,?_,rfl,?_⟩<;>simp [tot,ls,cat]
   omega
 refine aw 2 (fun i vs h'=>vs= [.slice (some ⟨b,0,none⟩) 2 2,I (tot i), .slice (some ⟨b,0,none⟩) 2 2,I 2,I i]/\h'=h) ⟨rfl,rfl⟩ ?_
 rintro i _ h' next hi ⟨rfl,rfl⟩ hnx
 refine⟨⟨some ⟨b,0,none⟩,2,2⟩,_,⟨some ⟨b,0,none⟩,2,2⟩,_,_,rfl,?_⟩
 by_cases hlt:i<2
 ·refine aK (by simp;omega) ?_
  have:=hls i
  have ht:=htot i hlt
  refine⟨b,0,rfl,by omega,by dsimp only;omega,sl i,by have:=hc i hlt h' (Hp.le_refl _);simpa using this,?_⟩
  rw [show W ((tot i:Int)+((sl i).n:Int))=((tot (i+1):Nat):Int) by rw [ca (by omega) (by omega)];omega,aE (by omega)]
  exact aF (by simp) (hnx hlt _ _ ⟨rfl,rfl⟩)
 ·have hi2:i=2:=by omega
  subst hi2
  refine aF (by simp) ?_
  refine Gi (by simp [tot];omega) fun t h1' hp=>⟨t,rfl,?_⟩
  refine aw 2 (fun i vs h2'=> ∃u:Sl,vs= [u.v, .slice (some ⟨b,0,none⟩) 2 2,I 2,I i]/\P2 h' h2' u ((cat i).map I)) ⟨t,rfl,hp⟩ ?_
  clear hp
  rintro i _ h2' next2 hi ⟨u,rfl,hp⟩ hnx2
  refine⟨u,⟨some ⟨b,0,none⟩,2,2⟩,_,_,rfl,?_⟩
  by_cases hlt2:i<2
  ·refine aK (by simp;omega) ?_
   have hli:=hls i
   have ht:=htot i hlt2
   have hun:=hp.len
   rw [List.length_map]at hun
   refine⟨b,0,rfl,by omega,by dsimp only;omega,sl i,by have:=hc i hlt2 h2' hp.le;simpa using this,?_⟩
   refine Pi (news:=(ls i).map I) hp (by omega) (by omega) (fun hpos=>?_) (by rw [List.length_map];omega) (by simp [Value.oneCell']) fun s' h3 hs' hp'=>?_
   ·obtain⟨sb,so,e1,e2⟩:=SlC.get hli.2.2 (by omega)
    exact⟨sb,so,e1,e2⟩
   ·rw [aE (by omega)]
    refine hnx2 hlt2 _ _ ⟨s',rfl,?_⟩
    rw [<-ht.2.1,List.map_append];exact hp'
  ·have hi2:i=2:=by omega
   subst hi2
   refine aF (by simp) (k u h2' hp.le ?_)
   have hun:=hp.len
   have:cat 2=xs++ys:=rfl
   rw [this]at hun hp
   rw [List.length_map,List.length_append]at hun
   exact hp.slc (by omega)
theorem AE {l:List NodeP} {i:Nat} {n:NodeP} (kind:Int) (hn:l[i]?=some n):au (l.take (i+1)) kind=au (l.take i) kind+if n.kind=kind then dW n.sort else 0:=by
 have hlt:=get_lt hn
 rw [List.getElem?_eq_getElem hlt]at hn
 unfold au
 rw [List.take_succ_eq_append_getElem hlt,Option.some.inj hn,List.filter_append,List.map_append,List.sum_append]
 congr 1
 by_cases h:n.kind=kind<;>simp [h]
theorem NL (l:List NodeP) (kind:Int):au l kind<=64*l.length:=by
 unfold au
 induction l with
 |nil=>simp
 |cons n l ih=>
  rw [List.filter_cons,List.length_cons]
  have:=ww n.sort
  split
  ·rw [List.map_cons,List.sum_cons];omega
  ·omega
theorem eD {h:Hp} {M:MSl} {m:aj} {kind:Int} {R:Value->Hp->Prop} (hs:aM h M m) (hm:bT m) (k:R (I (au m.nodes kind)) h):ck #[aR M,I kind] h R:=by
 refine ACalls.drop (zw ?_)
 refine uf_ ?_
 have hn:=hs.nodes.len
 have hns:=hm.nodes
 refine ai fun b7 h1 hb7 l1 f7=>?_
 have lf: ∀{h'':Hp} {q:Int},h.le h''->q=(au m.nodes kind:Nat)-> ∃h':Hp,h'.le h''/\R (I q) h':=fun l e=>⟨_,l,e▸k⟩
 clear k
 (refine ax ?_)
 refine aw m.nodes.length (fun i vs h'=>vs= [I kind,I (au (m.nodes.take i) kind),M.no.v,I M.no.n,I i]/\h.le h') ⟨rfl,l1⟩ ?_
 clear l1 f7 hb7 h1
 rintro i _ h1 next hi ⟨rfl,l1⟩ hnx
 refine⟨_,_,M.no,_,_,rfl,?_⟩
 by_cases hlt:i<m.nodes.length
 ·refine aK (by simp;omega) ?_
  obtain⟨n,hni⟩: ∃n,m.nodes[i]?=some n:=⟨_,List.getElem?_eq_getElem hlt⟩
  obtain⟨b,o,ha,c0,c1,c2,c3,c4,c5,c6,c7,c8⟩:=(hs.nodes.mono l1).at hni
  have hst:=AE kind hni
  have hbl:=NL (m.nodes.take (i+1)) kind
  rw [List.length_take]at hbl
  have hmin:min (i+1) m.nodes.length<=1048576:=by omega
  refine⟨b,o,ha,by omega,by omega,_,c0,_,c1,_,c2,_,c3,_,c4,_,c5,_,c6,_,c7,_,c8,?_⟩
  refine ai fun b9 h2 hb9 l2 f9'=>?_
  (with_reducible apply bZ);(exact f9');(exact Hp.le_trans l1 l2);(exact aD l1 hb9);(decide)
  intro h3 f9 kp l3
  repeat' (refine ax ?_)
  refine ad (fun e=>?_) (fun e=>?_)
  ·rw [if_pos (bR e)]at hst
   repeat' (refine ax ?_)
   refine qR ⟨_,rfl,?_⟩
   rw [show W ((au (m.nodes.take i) kind:Int)+(dW ⟨n.sort.idx,n.sort.wid⟩:Nat))=(au (m.nodes.take (i+1)) kind:Nat) by
    rw [ca (by omega) (by show ((au (m.nodes.take i) kind:Nat):Int)+(dW n.sort:Nat)<=_;omega),hst];show _+((dW n.sort:Nat):Int)=_;omega,aE (by omega)]
   exact hnx hlt _ _ ⟨rfl,l3⟩
  ·rw [if_neg (aY e)]at hst
   replace hst:=hst.trans (Nat.add_zero _)
   rw [aE (by omega),<-hst]
   exact hnx hlt _ _ ⟨rfl,l3⟩
 ·refine aF (by simp;omega) (lf l1 ?_)
  rw [List.take_of_length_le (by omega)]
theorem fN {h:Hp} {M:MSl} {m:aj} {kind:Int} {R:Value->Hp->Prop} (hs:aM h M m) (hm:bT m) (k:R (I (au m.nodes kind)) h):dx #[aR M,I kind] h R:=by
 refine ACalls.drop (IW ?_)
 refine uf_ ?_
 have hn:=hs.nodes.len
 have hns:=hm.nodes
 refine ai fun b7 h1 hb7 l1 f7=>?_
 have lf: ∀{q:Int},q=(au m.nodes kind:Nat)-> ∃h':Hp,h'.le h1/\R (I q) h':=fun e=>⟨_,l1,e▸k⟩
 clear k
 refine aw m.nodes.length (fun i vs h'=>vs= [I kind, .pointer (some ⟨b7,0,none⟩),I (au (m.nodes.take i) kind),I i]/\h'=h1) ⟨rfl,rfl⟩ ?_
 rintro i _ h1 next hi ⟨rfl,rfl⟩ hnx
 refine⟨_,_,_,_,_,rfl,?_⟩
 (refine ax ?_)
 by_cases hlt:i<m.nodes.length
 ·refine aK (by simp;omega) ?_
  obtain⟨n,hni⟩: ∃n,m.nodes[i]?=some n:=⟨_,List.getElem?_eq_getElem hlt⟩
  obtain⟨b,o,ha,c0,c1,c2,c3,c4,c5,c6,c7,c8⟩:=(hs.nodes.mono l1).at hni
  have hst:=AE kind hni
  have hbl:=NL (m.nodes.take (i+1)) kind
  rw [List.length_take]at hbl
  have hmin:min (i+1) m.nodes.length<=1048576:=by omega
  (refine ax ?_)
  refine⟨b,o,ha,by omega,by omega,_,c0,?_⟩
  refine ad (fun e=>?_) (fun e=>?_)
  ·rw [if_pos (bR e)]at hst
   repeat' (refine ax ?_)
   refine⟨b,o,ha,by omega,by omega,_,c6,_,c7,?_⟩
   refine iZ ⟨_,rfl,?_⟩
   rw [show W ((au (m.nodes.take i) kind:Int)+(dW ⟨n.sort.idx,n.sort.wid⟩:Nat))=(au (m.nodes.take (i+1)) kind:Nat) by
    rw [ca (by omega) (by show ((au (m.nodes.take i) kind:Nat):Int)+(dW n.sort:Nat)<=_;omega),hst];show _+((dW n.sort:Nat):Int)=_;omega,aE (by omega)]
   exact hnx hlt _ _ ⟨rfl,rfl⟩
  ·rw [if_neg (aY e)]at hst
   replace hst:=hst.trans (Nat.add_zero _)
   rw [aE (by omega),<-hst]
   exact hnx hlt _ _ ⟨rfl,rfl⟩
 ·refine aF (by simp;omega) (lf ?_)
  rw [List.take_of_length_le (by omega)]
theorem wU {α:Type} {l:List α} {p:α->Bool} {i:Nat} {x:α} (hx:l[i]?=some x):(l.take (i+1)).all p=((l.take i).all p&&p x):=by
 have hlt:=get_lt hx
 rw [List.getElem?_eq_getElem hlt]at hx
 rw [List.take_succ_eq_append_getElem hlt,Option.some.inj hx,List.all_append]
 simp
theorem AQ {α:Type} {l:List α} {p:α->Bool} {i:Nat} {x:α} (hx:l[i]?=some x) (h:p x=false):l.all p=false:=by
 rw [List.all_eq_false];exact⟨x,List.mem_of_getElem? hx,by rw [h];decide⟩
theorem IntS.get {h:Hp} {s:Sl} {xs:List Int} (e:IntS h s xs) {i:Nat} {x:Int} (hx:xs[i]?=some x): ∃b o,s.a=some (Addr.mk b o none)/\Hp.cell h b (o+i*1)=some (I x):=by
 have hlt:=get_lt hx
 rw [List.getElem?_eq_getElem hlt]at hx
 obtain⟨b,o,ha,hc⟩:=e.at hlt
 exact⟨b,o,ha,by rw [Nat.mul_one,<-Option.some.inj hx];exact hc⟩
theorem Ar {h:Hp} {M:MSl} {m:aj} {s:Sl} {ps:List Int} {R:Value->Hp->Prop} (hs:aM h M m) (hm:bT m) (hp:IntS h s ps) (hps:ps.length<=1048576)
  (k:R (.bool (ps.all (dL m.nodes))) h):mZ #[aR M,s.v] h R:=by
 refine ACalls.drop (DW ?_)
 refine uf_ ?_
 have hn:=hs.nodes.len
 have hns:=hm.nodes
 have hsn:=hp.len
 refine ai fun b7 h1 hb7 l1 f7=>?_
 have lf: ∀{q:Bool},q=ps.all (dL m.nodes)-> ∃h':Hp,h'.le h1/\R (.bool q) h':=fun e=>⟨_,l1,e▸k⟩
 clear k
 have hw:W ((M.no.n:Int)-1)=(m.nodes.length:Int)-1:=by rw [ca (by omega) (by omega),hn]
 refine aw ps.length (fun i vs h'=>vs= [s.v, .pointer (some ⟨b7,0,none⟩),I i]/\h'=h1/\(ps.take i).all (dL m.nodes)=true) ⟨rfl,rfl,rfl⟩ ?_
 rintro i _ h1 next hi ⟨rfl,rfl,hg⟩ hnx
 refine⟨s,_,_,_,rfl,?_⟩
 by_cases hlt:i<ps.length
 ·refine aK (by simp;omega) ?_
  obtain⟨p,hpi⟩: ∃p,ps[i]?=some p:=⟨_,List.getElem?_eq_getElem hlt⟩
  obtain⟨b,o,ha,c0⟩:=(hp.mono l1).get hpi
  refine⟨b,o,ha,by omega,by omega,_,c0,?_⟩
  (refine ax ?_)
  rw [hw]
  refine eO ⟨_,rfl,?_⟩
  rw [show decide (0<=p/\p<=(m.nodes.length:Int)-1)=cR m.nodes p from rfl]
  refine ad (fun e=>⟨trivial,trivial,trivial,lf ?_⟩) (fun e=>?_)
  ·have:cR m.nodes p=false:=by simpa using e
   rw [AQ hpi (by unfold dL;rw [this];rfl)]
  ·have e1:cR m.nodes p=true:=by simpa using e
   obtain⟨p1,p2,n,hn1,hs1,_⟩:=kO e1
   obtain⟨ba,oa,ha1,_,_,_,_,_,_,c6,c7,_⟩:=(hs.nodes.mono l1).at hn1
   refine⟨b,o,ha,by omega,by omega,?_⟩
   (refine ax ?_)
   refine⟨_,c0,ba,oa,ha1,p1,by omega,_,c6,_,c7,?_⟩
   refine bW ⟨_,_,rfl,rfl,rfl,rfl,?_⟩
   rw [mY n.sort (cr 1)]
   have hpq:dL m.nodes p=decide (n.sort=cr 1):=by unfold dL;rw [e1,hs1];rfl
   refine ad (fun e2=>lf ?_) (fun e2=>?_)
   ·rw [AQ hpi (by rw [hpq];simpa using e2)]
   ·rw [aE (by omega)]
    refine hnx hlt _ _ ⟨rfl,rfl,?_⟩
    rw [wU hpi,hg,hpq];simpa using e2
 ·refine aF (by simp;omega) (lf ?_)
  rw [List.take_of_length_le (by omega)]at hg
  exact hg.symm
def wy (l:List NodeP) (b:BindP):Bool:=cR l b.state&&(cR l b.node&&(decide (jh l b.state=36)&&decide (aC l b.node=cr (aC l b.state).wid)))
theorem PU (l:List NodeP) (b:BindP):hR l b=(eW l ⟨b.state,if wy l b then b.state else b.node⟩&& !(dz l l.length).getD b.node.toNat false):=by
 unfold hR eW
 generalize (dz l l.length).getD b.node.toNat false=M
 unfold wy
 cases hA:cR l b.state<;>cases hB:cR l b.node<;>cases hK:decide (jh l b.state=36)<;>cases hW:decide (aC l b.node=cr (aC l b.state).wid)<;>simp_all
theorem LT {l:List NodeP} {b:BindP} (h:eW l ⟨b.state,if wy l b then b.state else b.node⟩=true):cR l b.node=true:=by
 by_cases hC:wy l b=true
 ·unfold wy at hC;simp only [Bool.and_eq_true]at hC;exact hC.2.1
 ·rw [if_neg hC]at h
  unfold eW at h;simp only [Bool.and_eq_true]at h;exact h.1.1.2
theorem II {h:Hp} {M:MSl} {m:aj} {R:Value->Hp->Prop} (hs:aM h M m) (hm:bT m) (hok:cl m.nodes=true)
  (k:R (.bool (m.inits.all (hR m.nodes)&&m.nexts.all (eW m.nodes))) h):qY #[aR M] h R:=by
 refine ACalls.drop (El ?_)
 refine uf_ ?_
 have hn:=hs.nodes.len
 have hns:=hm.nodes
 have hin:=hs.inits.len
 have hxn:=hs.nexts.len
 have hi1:=hm.inits
 have hi2:=hm.nexts
 refine ai fun b7 h1 hb7 l1 f7=>?_
 have lf: ∀{h'':Hp} {q:Bool},h.le h''->q=(m.inits.all (hR m.nodes)&&m.nexts.all (eW m.nodes))-> ∃h':Hp,h'.le h''/\R (.bool q) h':=fun l e=>⟨_,l,e▸k⟩
 clear k
 have hw:W ((M.no.n:Int)-1)=(m.nodes.length:Int)-1:=by rw [ca (by omega) (by omega),hn]
 refine aw m.inits.length (fun i vs h'=>vs= [.pointer (some ⟨b7,0,none⟩),I i]/\h.le h'/\h' b7=some (.inl ⟨av M,5,false⟩)/\(m.inits.take i).all (hR m.nodes)=true) ⟨rfl,l1,f7,rfl⟩ ?_
 clear l1 f7 hb7 h1
 rintro i _ h1 next hi ⟨rfl,l1,f7,hg⟩ hnx
 refine⟨_,_,_,rfl,?_⟩
 (refine ax ?_)
 by_cases hlt:i<m.inits.length
 ·refine aK (by simp;omega) ?_
  obtain⟨bd,hbi⟩: ∃p,m.inits[i]?=some p:=⟨_,List.getElem?_eq_getElem hlt⟩
  obtain⟨b,o,ha,c0,c1⟩:=(hs.inits.mono l1).at hbi
  (refine ax ?_)
  refine⟨b,o,ha,by omega,by omega,_,c0,_,c1,?_⟩
  refine ai fun b26 h2 hb26 l2 f26'=>?_
  have n7:b7≠b26:=fresh_ne hb26 f7
  replace f7:=l2 _ _ f7
  (with_reducible apply bZ);(exact f26');(exact Hp.le_trans l1 l2);(exact aD l1 hb26);(decide)
  intro h3 f26 kp l3
  replace f7:=cc kp n7 f7
  clear l1 l2 kp f26' hb26 c0 c1
  repeat' (refine ax ?_)
  refine ai fun b34 h4 hb34 l4 f34'=>?_
  have n7':b7≠b34:=fresh_ne hb34 f7
  have n26:b26≠b34:=fresh_ne hb34 f26
  have b34n:=aD l3 hb34
  replace f7:=l4 _ _ f7
  replace f26:=l4 _ _ f26
  (with_reducible apply bZ);(exact f34');(exact Hp.le_trans l3 l4);(exact b34n);(decide)
  intro h5 f34 kp l5
  replace f7:=cc kp n7' f7
  replace f26:=cc kp n26 f26
  clear l3 l4 kp f34' hb34
  have hiw:=PU m.nodes bd
  have hip:= @LT m.nodes bd
  refine ap (fun J=>J (wy m.nodes bd) h5) ?_ (fun J hJ=>?_)
  ·refine ap (fun J=> ∀h',h.le h'->h' b7=some (.inl ⟨av M,5,false⟩)->h' b26=some (.inl ⟨[I bd.state,I bd.node],2,false⟩)->h' b34=some (.inl ⟨[I bd.state,I (if wy m.nodes bd then bd.state else bd.node)],2,false⟩)->J h') ?_ (fun J hJ=>?_)
   ·intro h6 l6 g7 g26 g34
    repeat' (refine ax ?_)
    refine zA (b:=⟨bd.state,if wy m.nodes bd then bd.state else bd.node⟩) (hs.mono l6) hm ⟨_,rfl,ad (fun e=>lf l6 ?_) (fun e=>?_)⟩
    ·rw [AQ hbi (by rw [hiw,show eW m.nodes ⟨bd.state,if wy m.nodes bd then bd.state else bd.node⟩=false by simpa using e];rfl)];rfl
    ·have e':eW m.nodes ⟨bd.state,if wy m.nodes bd then bd.state else bd.node⟩=true:=by simpa using e
     obtain⟨p1,p2,_⟩:=kO (hip e')
     obtain⟨a,ha'⟩: ∃a:Nat,bd.node=a:=⟨bd.node.toNat,by omega⟩
     rw [e',Bool.true_and,ha',Int.toNat_natCast]at hiw
     repeat' (refine ax ?_)
     rw [ha']
     refine I7 (hs.mono l6) hm hok (by omega) ⟨_,rfl,ad (fun e=>lf l6 ?_) (fun e=>?_)⟩
     ·rw [AQ hbi (by rw [hiw];simpa [qy] using e)];rfl
     ·rw [aE (by omega)]
      refine hnx hlt _ _ ⟨rfl,l6,g7,?_⟩
      rw [wU hbi,hg,hiw];simpa [qy] using e
   ·refine ad (fun e=>?_) (fun e=>?_)
    ·(refine ax ?_)
     (with_reducible apply bZ);(exact f34);(exact l5);(exact b34n);(exact Nat.le_refl 2)
     intro h6 g34 kp l6
     refine hJ h6 l6 (cc kp n7' f7) (cc kp n26 f26) ?_
     rw [e];exact g34
    ·refine hJ h5 l5 f7 f26 ?_
     rw [e];exact f34
  ·clear hiw hip hnx
   unfold wy at hJ
   repeat' (refine ax ?_)
   rw [hw]
   refine eO ⟨_,rfl,?_⟩
   rw [show decide (0<=bd.state/\bd.state<=(m.nodes.length:Int)-1)=cR m.nodes bd.state from rfl]
   refine ad (fun e1=>?_) (fun e=>?_)
   rotate_left
   ·rw [e,Bool.false_and]at hJ;exact⟨trivial,trivial,trivial,hJ⟩
   rw [e1,Bool.true_and]at hJ
   repeat' (refine ax ?_)
   rw [hw]
   refine eO ⟨_,rfl,?_⟩
   rw [show decide (0<=bd.node/\bd.node<=(m.nodes.length:Int)-1)=cR m.nodes bd.node from rfl]
   refine ad (fun e2=>?_) (fun e=>?_)
   rotate_left
   ·rw [e,Bool.false_and]at hJ;exact⟨trivial,trivial,trivial,hJ⟩
   rw [e2,Bool.true_and]at hJ
   obtain⟨p1,p2,n1,hn1,hs1,hk1⟩:=kO e1
   obtain⟨p3,p4,n2,hn2,hs2,_⟩:=kO e2
   obtain⟨ba,oa,ha1,d0,_,_,_,_,_,c6,c7,_⟩:=(hs.nodes.mono l5).at hn1
   obtain⟨bb,ob,ha2,_,_,_,_,_,_,d6,d7,_⟩:=(hs.nodes.mono l5).at hn2
   rw [hs1,hs2,hk1]at hJ
   repeat' (refine ax ?_)
   refine⟨ba,oa,ha1,p1,by omega,_,d0,?_⟩
   refine ad (fun e=>?_) (fun e=>?_)
   rotate_left
   ·rw [decide_eq_false (aY e),Bool.false_and]at hJ;exact⟨trivial,trivial,trivial,hJ⟩
   rw [decide_eq_true (bR e),Bool.true_and]at hJ
   repeat' (refine ax ?_)
   refine⟨bb,ob,ha2,p3,by omega,_,d6,_,d7,?_⟩
   repeat' (refine ax ?_)
   refine⟨ba,oa,ha1,p1,by omega,_,c7,?_⟩
   refine bW ⟨_,_,rfl,rfl,rfl,rfl,?_⟩
   rw [mY n2.sort (cr n1.sort.wid)]
   exact hJ
 ·refine aF (by simp;omega) ?_
  rw [List.take_of_length_le (by omega)]at hg
  rw [hg,Bool.true_and]at lf
  refine aw m.nexts.length (fun i vs h'=>vs= [.pointer (some ⟨b7,0,none⟩),I i]/\h'=h1/\(m.nexts.take i).all (eW m.nodes)=true) ⟨rfl,rfl,rfl⟩ ?_
  rintro i _ h2 next2 hi ⟨rfl,rfl,hg2⟩ hnx2
  refine⟨_,_,_,rfl,?_⟩
  (refine ax ?_)
  by_cases hlt2:i<m.nexts.length
  ·refine aK (by simp;omega) ?_
   obtain⟨bd,hbi⟩: ∃p,m.nexts[i]?=some p:=⟨_,List.getElem?_eq_getElem hlt2⟩
   obtain⟨b,o,ha,c0,c1⟩:=(hs.nexts.mono l1).at hbi
   repeat' (refine ax ?_)
   refine⟨b,o,ha,by omega,by omega,_,c0,_,c1,?_⟩
   refine zA (b:=bd) (hs.mono l1) hm ⟨_,rfl,ad (fun e=>lf l1 ?_) (fun e=>?_)⟩
   ·rw [AQ hbi (by simpa using e)]
   ·rw [aE (by omega)]
    refine hnx2 hlt2 _ _ ⟨rfl,rfl,?_⟩
    rw [wU hbi,hg2];simpa using e
  ·refine aF (by simp;omega) (lf l1 ?_)
   rw [List.take_of_length_le (by omega)]at hg2
   exact hg2.symm
def H1 (m:aj):Bool:=decide (60<m.nodes.length\/60<m.inits.length\/60<m.nexts.length\/4<m.bads.length\/4<m.holds.length)
theorem xR (m:aj):az m=(if H1 m then 1 else if cl m.nodes=false then 2 else if rH m=true then 3 else
  if(m.inits.all (hR m.nodes)&&m.nexts.all (eW m.nodes))=false then 4 else
  if(m.bads.all (dL m.nodes)&&m.holds.all (dL m.nodes))=false then 5 else
  if 8<au m.nodes 36\/5<au m.nodes 35 then 6 else 0):=by
 unfold az H1
 simp only [decide_eq_true_eq]
theorem aX {h:Hp} {M:MSl} {m:aj} {R:Value->Hp->Prop} (hs:aM h M m) (hm:bT m) (k:R (I (az m)) h):bM #[aR M] h R:=by
 refine ACalls.drop (A8 ?_)
 refine uf_ ?_
 have hn:=hs.nodes.len
 have hin:=hs.inits.len
 have hxn:=hs.nexts.len
 have hbn:=hs.bads.len
 have hhn:=hs.holds.len
 refine ai fun b7 h1 hb7 l1 f7=>?_
 have lf: ∀{q:Int},q=az m-> ∃h':Hp,h'.le h1/\R (I q) h':=fun e=>⟨_,l1,e▸k⟩
 clear k
 rw [xR]at lf
 have hs1:=hs.mono l1
 refine ap (fun J=>J (H1 m)) ?_ (fun J hJ=>?_)
 rotate_left
 ·unfold H1 at hJ
  repeat' (first|(with_reducible first|refine aK (b:=true) rfl ?_|refine aF (b:=false) rfl ?_|refine ad (fun _=>?_) fun _=>?_)|(refine ax ?_)|(refine eR ?_ hJ))
  all_goals (clear hJ lf;(exact tt))
 refine ad (fun e=>lf (by rw [if_pos e])) (fun e=>?_)
 rw [if_neg (by rw [e];decide)]at lf
 repeat' (refine ax ?_)
 refine Jc hs1 hm ⟨_,rfl,ad (fun e=>lf (by rw [if_pos (by simpa using e)])) (fun e2=>?_)⟩
 have hok:cl m.nodes=true:=by simpa using e2
 rw [if_neg (by rw [hok];decide)]at lf
 repeat' (refine ax ?_)
 refine Jg hs1 hm ⟨_,rfl,ad (fun e=>lf (by rw [if_pos e])) (fun e3=>?_)⟩
 rw [if_neg (by rw [e3];decide)]at lf
 repeat' (refine ax ?_)
 refine II hs1 hm hok ⟨_,rfl,ad (fun e=>lf (by rw [if_pos (by rw [Bool.not_eq_true']at e;exact e)])) (fun e4=>?_)⟩
 rw [if_neg (by rw [Bool.not_eq_false']at e4;rw [e4];decide)]at lf
 refine ap (fun J=>J (!(m.bads.all (dL m.nodes)&&m.holds.all (dL m.nodes))) h1) ?_ (fun J hJ=>?_)
 rotate_left
 ·repeat' (refine ax ?_)
  refine Ar hs1 hm hs1.bads hm.bads ⟨_,rfl,ad (fun e=>?_) (fun e=>?_)⟩
  ·rw [show m.bads.all (dL m.nodes)=false by rw [Bool.not_eq_true']at e;exact e,Bool.false_and]at hJ;exact hJ
  ·rw [show m.bads.all (dL m.nodes)=true by rw [Bool.not_eq_false']at e;exact e,Bool.true_and]at hJ
   repeat' (refine ax ?_)
   exact Ar hs1 hm hs1.holds hm.holds ⟨_,rfl,hJ⟩
 refine ad (fun e=>lf (by rw [if_pos (by rw [Bool.not_eq_true']at e;exact e)])) (fun e5=>?_)
 rw [if_neg (by rw [Bool.not_eq_false']at e5;rw [e5];decide)]at lf
 repeat' (refine ax ?_)
 refine fN hs1 hm ⟨_,rfl,ad (fun e=>lf (by rw [if_pos (by simp at e;omega)])) (fun e6=>?_)⟩
 repeat' (refine ax ?_)
 refine fN hs1 hm ⟨_,rfl,ad (fun e=>lf (by rw [if_pos (by simp at e;omega)])) (fun e7=>lf ?_)⟩
 rw [if_neg (by simp at e6 e7;omega)]
theorem zj {h:Hp} {M:MSl} {m:aj} {s:Sl} {b7 b51 z1 z2:Nat} {x:BindP} {R:Value->Hp->Prop} (hs:aM h M m) (hm:bT m) (hmd:SlC h s 1 ((dz m.nodes m.nodes.length).map Value.bool))
  (f7:h b7=some (.inl ⟨av M,z1,false⟩)) (f51:h b51=some (.inl ⟨[s.v],z2,false⟩))
  (k:R (.bool (!hR m.nodes x)) h):pY #[H0 x, .pointer (some ⟨b7,0,none⟩), .pointer (some ⟨b51,0,none⟩)] h R:=by
 refine ACalls.drop (xE ?_)
 refine uf_ ?_
 refine ai fun b8 h1 hb8 l1 f8=>?_
 replace f7:=l1 _ _ f7
 replace f51:=l1 _ _ f51
 repeat' (refine ax ?_)
 exact BT (b:=x) (hs.mono l1) hm (hmd.mono l1) ⟨_,rfl,_,l1,k⟩
theorem zR {h:Hp} {M:MSl} {m:aj} {s:Sl} {b7 b51 z1 z2:Nat} {x:BindP} {R:Value->Hp->Prop} (hs:aM h M m) (hm:bT m) (hmd:SlC h s 1 ((dz m.nodes m.nodes.length).map Value.bool))
  (f7:h b7=some (.inl ⟨av M,z1,false⟩)) (f51:h b51=some (.inl ⟨[s.v],z2,false⟩))
  (k:R (.bool (!eW m.nodes x)) h):pQ #[H0 x, .pointer (some ⟨b7,0,none⟩), .pointer (some ⟨b51,0,none⟩)] h R:=by
 refine ACalls.drop (xF ?_)
 refine uf_ ?_
 refine ai fun b8 h1 hb8 l1 f8=>?_
 replace f7:=l1 _ _ f7
 replace f51:=l1 _ _ f51
 repeat' (refine ax ?_)
 exact BT (b:=x) (hs.mono l1) hm (hmd.mono l1) ⟨_,rfl,_,l1,k⟩
theorem Av {h:Hp} {M:MSl} {m:aj} {b7 z1:Nat} {p:Int} {R:Value->Hp->Prop} (hs:aM h M m) (hm:bT m)
  (f7:h b7=some (.inl ⟨av M,z1,false⟩)) (k:R (.bool (!dL m.nodes p)) h):pS #[I p, .pointer (some ⟨b7,0,none⟩)] h R:=by
 apply xe
 refine uf_ ?_
 have hn:=hs.nodes.len
 have hns:=hm.nodes
 repeat' (refine ax ?_)
 refine tH hn hns ⟨_,rfl,ad (fun e=>⟨trivial,trivial,?_⟩) (fun e=>?_)⟩
 ·have:cR m.nodes p=false:=by simpa using e
  have:dL m.nodes p=false:=by unfold dL;rw [this];rfl
  rw [this]at k;exact k
 ·have e1:cR m.nodes p=true:=by simpa using e
  obtain⟨p1,p2,n,hn1,hs1,_⟩:=kO e1
  obtain⟨ba,oa,ha1,_,_,_,_,_,_,c6,c7,_⟩:=hs.nodes.at hn1
  (refine ax ?_)
  refine⟨ba,oa,ha1,p1,by omega,_,c6,_,c7,?_⟩
  refine da ⟨_,_,rfl,rfl,rfl,?_⟩
  rw [mY n.sort (cr 1)]
  have hpq:dL m.nodes p=decide (n.sort=cr 1):=by unfold dL;rw [e1,hs1];rfl
  rw [hpq]at k;exact k
theorem DD {α:Type} (l:List α) (p:α->Bool):(l.any fun x=> !p x)= !l.all p:=by
 rw [List.all_eq_not_any_not,Bool.not_not]
theorem kE {h:Hp} {M:MSl} {m:aj} {R:Value->Hp->Prop} (hs:aM h M m) (hm:bT m) (k:R (I (az m)) h):iM #[aR M] h R:=by
 refine ACalls.drop (BA ?_)
 refine uf_ ?_
 have hn:=hs.nodes.len
 have hin:=hs.inits.len
 have hxn:=hs.nexts.len
 have hbn:=hs.bads.len
 have hhn:=hs.holds.len
 refine ai fun b7 h1 hb7 l1 f7=>?_
 have lf: ∀{h'':Hp} {q:Int},h.le h''->q=az m-> ∃h':Hp,h'.le h''/\R (I q) h':=fun l e=>⟨_,l,e▸k⟩
 clear k
 rw [xR]at lf
 have hs1:=hs.mono l1
 refine ap (fun J=>J (H1 m)) ?_ (fun J hJ=>?_)
 rotate_left
 ·unfold H1 at hJ
  repeat' (first|(with_reducible first|refine aK (b:=true) rfl ?_|refine aF (b:=false) rfl ?_|refine ad (fun _=>?_) fun _=>?_)|(refine ax ?_)|(refine eR ?_ hJ))
  all_goals (clear hJ lf;(exact tt))
 refine ad (fun e=>lf l1 (by rw [if_pos e])) (fun e=>?_)
 rw [if_neg (by rw [e];decide)]at lf
 repeat' (refine ax ?_)
 refine IB hs1 hm ⟨_,rfl,ad (fun e=>lf l1 (by rw [if_pos (by simpa using e)])) (fun e2=>?_)⟩
 have hok:cl m.nodes=true:=by simpa using e2
 rw [if_neg (by rw [hok];decide)]at lf
 repeat' (refine ax ?_)
 refine LR hs1 hm ⟨_,rfl,ad (fun e=>lf l1 (by rw [if_pos e])) (fun e3=>?_)⟩
 rw [if_neg (by rw [e3];decide)]at lf
 repeat' (refine ax ?_)
 refine Ph hs1 hm hok fun s h2 l2 hmd=>⟨_,rfl,?_⟩
 have f7':=l2 _ _ f7
 refine ai fun b51 h3 hb51 l3 f51'=>?_
 have n7:=fresh_ne hb51 f7'
 have l13:=Hp.le_trans l1 (Hp.le_trans l2 l3)
 have b51n:=aD (Hp.le_trans l1 l2) hb51
 (with_reducible apply bZ);(exact f51');(exact Hp.le_trans l2 l3);(exact aD l2 hb51);(exact Nat.le_refl 1)
 intro h4 f51 kp l14
 have l4:h2.le h4:=dy hb51 l3 kp
 have f7'':=l4 _ _ f7'
 have lh4:=Hp.le_trans l1 l14
 have hs4:=hs.mono lh4
 have hmd4:=hmd.mono l4
 clear f7 f7' f51' kp l13 l3 hb51 hs1
 refine ap (fun J=>J (!(m.inits.all (hR m.nodes)&&m.nexts.all (eW m.nodes))) h4) ?_ (fun J hJ=>?_)
 rotate_left
 ·(refine ax ?_)
  refine mL (fun x=> !hR m.nodes x) hs4.inits hm.inits (fun x hx R k=>zj hs4 hm hmd4 f7'' f51 k) ⟨_,rfl,?_⟩
  rw [DD]
  refine ad (fun e=>?_) (fun e=>?_)
  ·rw [show m.inits.all (hR m.nodes)=false by rw [Bool.not_eq_true']at e;exact e,Bool.false_and]at hJ;exact hJ
  ·rw [show m.inits.all (hR m.nodes)=true by rw [Bool.not_eq_false']at e;exact e,Bool.true_and]at hJ
   (refine ax ?_)
   refine mL (fun x=> !eW m.nodes x) hs4.nexts hm.nexts (fun x hx R k=>zR hs4 hm hmd4 f7'' f51 k) ⟨_,rfl,?_⟩
   rw [DD];exact hJ
 refine ad (fun e=>lf lh4 (by rw [if_pos (by rw [Bool.not_eq_true']at e;exact e)])) (fun e4=>?_)
 rw [if_neg (by rw [Bool.not_eq_false']at e4;rw [e4];decide)]at lf
 repeat' (refine ax ?_)
 refine ai fun b72 h5 hb72 l5 f72=>?_
 have lh5:=Hp.le_trans lh4 l5
 refine Da f72 (hs.mono lh5).bads (hs.mono lh5).holds hm.bads hm.holds fun t h6 l6 ht=>⟨t,rfl,?_⟩
 have lh6:=Hp.le_trans lh5 l6
 have hs6:=hs.mono lh6
 have f76:=l6 _ _ (l5 _ _ f7'')
 refine nk (fun x=> !dL m.nodes x) ht (fun x hx R k=>Av hs6 hm f76 k) ⟨_,rfl,?_⟩
 rw [DD,List.all_append]
 refine ad (fun e=>lf lh6 (by rw [if_pos (by rw [Bool.not_eq_true']at e;exact e)])) (fun e5=>?_)
 rw [if_neg (by rw [Bool.not_eq_false']at e5;rw [e5];decide)]at lf
 repeat' (refine ax ?_)
 refine eD hs6 hm ⟨_,rfl,ad (fun e=>lf lh6 (by rw [if_pos (by simp at e;omega)])) (fun e6=>?_)⟩
 repeat' (refine ax ?_)
 refine eD hs6 hm ⟨_,rfl,ad (fun e=>lf lh6 (by rw [if_pos (by simp at e;omega)])) (fun e7=>lf lh6 ?_)⟩
 rw [if_neg (by simp at e6 e7;omega)]
end Go.Lead
