/- What functions of the program and of the reference come to, walked one by one, and plain laws about it: part 2. No condition is added to the statement. -/
import Derived.Test.YtlfhohhpeklnkaaGreatZ0
namespace Go.Lead
open Go
set_option linter.unusedSimpArgs false
set_option linter.unusedVariables false
set_option maxHeartbeats 1000000
def H5 (kind:Int) (x y:Bool):Bool:=if kind=8 then x^^y else if kind=7 then x||y else x&&y
theorem LE {c:Bool} {n:Nat} (hn:n<=62):au (if c then 1 else 0) (n:Int)=((if c then 2^n else 0:Nat):Int):=by
 cases c
 ·have:=ik (a:=0) (n:=n) (by omega) (by omega);simpa using this
 ·have:=bJ hn;simpa using this
theorem Ki {i:Nat} {f:Nat->Bool} {c:Bool} (hi:i<=60) (hc:c=f i):W ((cV i f:Int)+((if c then 2^i else 0:Nat):Int))=((cV (i+1) f:Nat):Int):=by
 have h1:=rX i f
 have h2:=mV (n:=i) (by omega)
 subst hc
 simp only [cV]
 rw [bU (by split<;>omega) (by split<;>omega)]
 omega
theorem MV {h:Hp} {kind:Int} {w a b:Nat} {R:Value->Hp->Prop} (hw:w<=16)
  (k:R (I (cV w fun i=>H5 kind (a.testBit i) (b.testBit i))) h):ux #[I kind,I w,I a,I b] h R:=by
 apply I6
 refine uf_ ?_
 refine av w (fun i vs h'=>vs= [I kind,I w,I a,I b,I (cV i fun i=>H5 kind (a.testBit i) (b.testBit i)),I i]/\h'=h) ⟨rfl,rfl⟩ ?_
 rintro i _ _ next hi ⟨rfl,rfl⟩ hn
 refine⟨_,_,_,_,_,_,rfl,?_⟩
 by_cases hlt:i<w
 ·refine aM (by simp [hlt]) (jk (by omega) ⟨_,rfl,jk (by omega) ⟨_,rfl,?_⟩⟩)
  have hn':=hn hlt _ _ ⟨rfl,rfl⟩
  generalize hx:a.testBit i=x at*
  generalize hy:b.testBit i=y at*
  refine ap (fun J=>J (if kind=7 then(if x||y then 1 else 0)else(if x&&y then 1 else 0))) ?_ ?_
  ·refine ap (fun J=>J (if H5 kind x y then 1 else 0)) ?_ ?_
   ·rw [cu (by omega),if_neg (by omega),LE (by omega),Ki (by omega) (by rw [hx,hy]),aC (by omega)]
    exact hn'
   ·intro J hJ
    refine ac (fun e=>?_) (fun e=>?_)
    ·have:H5 kind x y=(x^^y):=by unfold H5;rw [if_pos (bV e)]
     rw [this]at hJ
     revert hJ;cases x<;>cases y<;>exact id
    ·have:H5 kind x y=if kind=7 then x||y else x&&y:=by unfold H5;rw [if_neg (bk e)]
     rw [this]at hJ
     by_cases h7:kind=7
     ·rw [if_pos h7]at hJ⊢;exact hJ
     ·rw [if_neg h7]at hJ⊢;exact hJ
  ·intro J hJ
   refine ac (fun e=>?_) (fun e=>?_)
   ·rw [if_pos (bV e)]at hJ
    revert hJ;cases x<;>cases y<;>exact id
   ·rw [if_neg (bk e)]at hJ
    revert hJ;cases x<;>cases y<;>exact id
 ·have:i=w:=by omega
  subst this
  exact aE (by simp) k
theorem PN {h:Hp} {kind:Int} {w a b:Nat} {R:Value->Hp->Prop} (ea:WO w a) (eb:WO w b)
  (k:R (I ((if kind=12 then(if b=0 then 2^w-1 else a/b)else if b=0 then a else a%b:Nat))) h):vq #[I kind,I w,I a,I b] h R:=by
 apply L6
 refine uf_ ?_
 have h16:=ea.pow
 have hp:=bK w
 have ha:=ea.2
 have hw:=ea.1
 refine ac (fun e=>?_) (fun e=>?_)
 ·rw [if_pos (bV e)]at k
  refine ac (fun e0=>?_) (fun e0=>?_)
  ·have hb0:b=0:=by have:=bV e0;omega
   rw [if_pos hb0]at k
   rw [cu (by omega),if_neg (by omega),bJ (by omega),bU (by omega) (by omega)]
   have:((2^w-1:Nat):Int)=((2^w:Nat):Int)-1:=by omega
   rw [<-this];exact k
  ·have hb0: ¬b=0:=by have:=bk e0;omega
   rw [if_neg hb0]at k
   have hd:=Nat.div_le_self a b
   rw [if_neg (by omega),GN,eO (by omega)];exact k
 ·rw [if_neg (bk e)]at k
  refine ac (fun e0=>?_) (fun e0=>?_)
  ·have hb0:b=0:=by have:=bV e0;omega
   rw [if_pos hb0]at k;exact k
  ·have hb0: ¬b=0:=by have:=bk e0;omega
   rw [if_neg hb0]at k
   rw [if_neg (by omega),eU];exact k
theorem N3 {h:Hp} {kind:Int} {w a b:Nat} {R:Value->Hp->Prop} (hk:kind=14\/kind=15) (ea:WO w a) (eb:WO w b)
  (k:R (I ((if kind=14 then JR w a b else JN w a b:Nat):Int)) h):uv #[I kind,I w,I a,I b] h R:=by
 apply Jo
 refine uf_ ?_
 have h16:=ea.pow
 have hp:=bK w
 have sa:=Et ea
 have sb:=Et eb
 have hw:=ea.1
 refine iW ea ⟨_,rfl,iW eb ⟨_,rfl,?_⟩⟩
 unfold JR JN at k
 refine ac (fun e=>?_) (fun e=>?_)
 ·have e':=bV e
  rw [if_neg (by omega)]at k
  refine ac (fun e0=>?_) (fun e0=>?_)
  ·rw [if_pos (bV e0)]at k;exact k
  ·rw [if_neg (bk e0)]at k
   rw [if_neg (bk e0)]
   exact g9 hw ⟨_,rfl,k⟩
 ·have e':kind=14:=by have:=bk e;omega
  rw [if_pos e']at k
  by_cases hy:sgn w b=0
  ·rw [if_pos hy]at k
   have hyb:(sgn w b==0)=true:=by simpa using hy
   refine ap (fun J=>J (decide (sgn w a<0))) ?_ (fun J hJ=>aM hyb hJ)
   refine ac (fun e=>?_) (fun e=>aM hyb ?_)
   ·rw [if_pos (of_decide_eq_true e)]at k;exact k
   ·rw [if_neg (of_decide_eq_false e)]at k
    rw [cu (by omega),if_neg (by omega),bJ (by omega),bU (by omega) (by omega)]
    have:((2^w-1:Nat):Int)=((2^w:Nat):Int)-1:=by omega
    rw [<-this];exact k
  ·rw [if_neg hy]at k
   have hyb:(sgn w b==0)=false:=by simpa using hy
   refine ap (fun J=>J false) ?_ (fun J hJ=>aE hyb hJ)
   refine aE rfl (aE hyb ?_)
   have hdiv:(Int.tdiv (sgn w a) (sgn w b)).natAbs<=65536:=by
    rw [Int.natAbs_tdiv]
    exact Nat.le_trans (Nat.div_le_self _ _) (by omega)
   rw [if_neg hy,bU (by omega) (by omega)]
   exact g9 hw ⟨_,rfl,k⟩
theorem Mk {h:Hp} {kind:Int} {w a b:Nat} {R:Value->Hp->Prop} (hk:kind=16\/kind=17\/kind=18) (ea:WO w a) (hb:b<=65536)
  (k:R (I (Dm kind w a b)) h):om #[I kind,I w,I a,I b] h R:=by
 have hw:=ea.1
 have key: ∀f:Nat->Bool,cV w f=Dm kind w a b->
   (∀i,i<w->f i=if kind=16 then decide (b<=i)&&a.testBit (i-b)else if kind=17 then decide (i+b<w)&&a.testBit (i+b)else if i+b<w then a.testBit (i+b)else a.testBit (w-1))->
   om #[I kind,I w,I a,I b] h R:=by
  intro f hcode hf
  apply HL
  refine uf_ ?_
  refine av w (fun i vs h'=>vs= [I kind,I w,I a,I b,I (cV i f),I i]/\h'=h) ⟨rfl,rfl⟩ ?_
  rintro i _ h' next hi ⟨rfl,rfl⟩ hn
  refine⟨_,_,_,_,_,_,rfl,?_⟩
  by_cases hlt:i<w
  ·refine aM (by simp [hlt]) ?_
   have hn':=hn hlt _ _ ⟨rfl,rfl⟩
   have hfi:=hf i hlt
   refine ap (fun J=>J (if kind=16 then(i:Int)-b else(i:Int)+b)) ?_ ?_
   ·refine ap (fun J=>J (decide (0<=(if kind=16 then(i:Int)-b else(i:Int)+b)/\(if kind=16 then(i:Int)-b else(i:Int)+b)<w))) ?_ ?_
    ·refine ap (fun J=>J (if f i then 1 else 0) h') ?_ ?_
     ·rw [cu (by omega),if_neg (by omega),LE (by omega),Ki (by omega) rfl,aC (by omega)]
      exact hn'
     ·intro J hJ
      refine ac (fun e=>?_) (fun e=>?_)
      ·have e':=of_decide_eq_true e
       by_cases h16:kind=16
       ·rw [if_pos h16]at e' hfi⊢
        rw [show (i:Int)-b=((i-b:Nat):Int) by omega]
        refine jk (by omega) ⟨_,rfl,?_⟩
        rw [hfi]at hJ
        have:decide (b<=i)=true:=by simp;omega
        rw [this,Bool.true_and]at hJ;exact hJ
       ·rw [if_neg h16]at e' hfi⊢
        rw [show (i:Int)+b=((i+b:Nat):Int) by omega]
        refine jk (by omega) ⟨_,rfl,?_⟩
        have h1:decide (i+b<w)=true:=by simp;omega
        rw [h1,Bool.true_and,if_pos (show i+b<w by omega),ite_self]at hfi
        rw [hfi]at hJ;exact hJ
      ·have e':=of_decide_eq_false e
       refine ac (fun e2=>?_) (fun e2=>?_)
       ·have h18:=bV e2
        rw [if_neg (by omega)]at e'
        rw [if_neg (by omega),if_neg (by omega),if_neg (by omega)]at hfi
        rw [show W ((w:Int)-1)=((w-1:Nat):Int) by rw [bU (by omega) (by omega)];omega]
        refine jk (by omega) ⟨_,rfl,?_⟩
        rw [hfi]at hJ;exact hJ
       ·have h18:=bk e2
        have:f i=false:=by
         rw [hfi]
         by_cases h16:kind=16
         ·rw [if_pos h16]at e'⊢
          have:decide (b<=i)=false:=by simp;omega
          rw [this,Bool.false_and]
         ·rw [if_neg h16]at e'⊢
          rw [if_pos (by omega)]
          have:decide (i+b<w)=false:=by simp;omega
          rw [this,Bool.false_and]
        rw [this]at hJ
        exact hJ
    ·intro J hJ
     generalize (if kind=16 then(i:Int)-b else(i:Int)+b)=z at*
     refine ac (fun e=>?_) (fun e=>?_)
     ·have:0<=z:=of_decide_eq_true e
      rw [show decide (0<=z/\z<(w:Int))=decide (z<(w:Int)) by rw [decide_eq_decide];omega]at hJ;exact hJ
     ·have: ¬0<=z:=of_decide_eq_false e
      rw [show decide (0<=z/\z<(w:Int))=false by rw [decide_eq_false_iff_not];omega]at hJ;exact hJ
   ·intro J hJ
    refine ac (fun e=>?_) (fun e=>?_)
    ·rw [if_pos (bV e)]at hJ;rw [bU (by omega) (by omega)];exact hJ
    ·rw [if_neg (bk e)]at hJ;rw [bU (by omega) (by omega)];exact hJ
  ·have:i=w:=by omega
   subst this
   refine aE (by simp) ?_
   rw [hcode];exact k
 rcases hk with rfl|rfl|rfl
 ·exact key (fun i=>decide (b<=i)&&a.testBit (i-b)) VS (fun i _=>rfl)
 ·exact key (fun i=>decide (i+b<w)&&a.testBit (i+b)) (Wr ea.2) (fun i _=>rfl)
 ·exact key (fun i=>if i+b<w then a.testBit (i+b)else a.testBit (w-1)) (V5 hw.1 hw.2 ea.2) (fun i _=>rfl)
theorem NE {h:Hp} {kind:Int} {w a b:Nat} {R:Value->Hp->Prop} (hk:kind=19\/kind=20) (ea:WO w a)
  (k:R (I ((if kind=19 then Gj w a (b%w)else Gj w a ((w-b%w)%w):Nat))) h):qf #[I kind,I w,I a,I b] h R:=by
 have hw:=ea.1
 have hm:b%w<w:=Nat.mod_lt _ (by omega)
 have key: ∀s:Nat,s<w->R (I (Gj w a s)) h->(∀i,i<w->(if kind=20 then(i+w-b%w)%w else(i+b%w)%w)=(i+s)%w)->
   qf #[I kind,I w,I a,I b] h R:=by
  intro s hs k hto
  apply JC
  refine uf_ ?_
  refine av w (fun i vs h'=>vs= [I kind,I w,I a,I b,I (cV w fun j=>decide ((j+(w-s))%w<i)&&a.testBit ((j+(w-s))%w)),I i]/\h'=h) ⟨?_,rfl⟩ ?_
  ·have:cV w (fun j=>decide ((j+(w-s))%w<0)&&a.testBit ((j+(w-s))%w))=0:=
    jM (bK w) fun i _=>by simp
   rw [this];rfl
  rintro i _ h' next hi ⟨rfl,rfl⟩ hn
  refine⟨_,_,_,_,_,_,rfl,?_⟩
  by_cases hlt:i<w
  ·refine aM (by simp [hlt]) ?_
   have hn':=hn hlt _ _ ⟨rfl,rfl⟩
   have hst:=Ts (a:=a) hs hlt
   have hto:=hto i hlt
   rw [if_neg (by omega),eU]
   have hpw:(i+s)%w<w:=Nat.mod_lt _ (by omega)
   refine ap (fun J=>J ((if kind=20 then i+w-b%w else i+b%w:Nat):Int)) ?_ ?_
   ·have ht:Int.tmod ((if kind=20 then i+w-b%w else i+b%w:Nat):Int) (w:Int)=(((i+s)%w:Nat):Int):=by
     rw [eU,<-hto]
     split<;>rfl
    rw [if_neg (by omega),ht,cu (by omega)]
    have step:W ((cV w (fun j=>decide ((j+(w-s))%w<i)&&a.testBit ((j+(w-s))%w)):Int)+au (if a.testBit i then 1 else 0) (((i+s)%w:Nat):Int))=
      ((cV w (fun j=>decide ((j+(w-s))%w<i+1)&&a.testBit ((j+(w-s))%w)):Nat):Int):=by
     rw [LE (by omega),<-hst,<-Int.natCast_add,eO]
     rw [hst]
     have:=rX w (fun j=>decide ((j+(w-s))%w<i+1)&&a.testBit ((j+(w-s))%w))
     have:=z8 hw.2
     omega
    have one:d8 #[I a,I i] h' fun v25 h26=> ∃(x27:Int),v25=(I x27)/\(if(((i+s)%w:Nat):Int)<0 then False else next [I kind,I w,I a,I b,I (W ((cV w (fun j=>decide ((j+(w-s))%w<i)&&a.testBit ((j+(w-s))%w)):Int)+au x27 (((i+s)%w:Nat):Int))),I (W ((i:Int)+1))] h26):=by
     refine jk (by omega) ⟨_,rfl,?_⟩
     rw [if_neg (by omega),step,aC (by omega)]
     exact hn'
    exact⟨one,one⟩
   ·intro J hJ
    refine ac (fun e=>?_) (fun e=>?_)
    ·rw [if_pos (bV e)]at hJ
     rw [if_neg (by omega)]
     have:W (W ((i:Int)+w)-((b%w:Nat):Int))=((i+w-b%w:Nat):Int):=by rw [bU (n:=(i:Int)+w) (by omega) (by omega),bU (by omega) (by omega)];omega
     rw [this];exact hJ
    ·rw [if_neg (bk e)]at hJ
     have:W ((i:Int)+((b%w:Nat):Int))=((i+b%w:Nat):Int):=by rw [bU (by omega) (by omega)];omega
     rw [this];exact hJ
  ·have:i=w:=by omega
   subst this
   refine aE (by simp) ?_
   have:cV i (fun j=>decide ((j+(i-s))%i<i)&&a.testBit ((j+(i-s))%i))=Gj i a s:=by
    rw [<-Wu ea.2 hs]
    refine te fun j _=>?_
    have:decide ((j+(i-s))%i<i)=true:=by
     rw [decide_eq_true_eq];exact Nat.mod_lt _ (by omega)
    rw [this,Bool.true_and]
   rw [this];exact k
 rcases hk with rfl|rfl
 ·refine key (b%w) hm k fun i _=>?_
  rw [if_neg (by omega)]
 ·rw [if_neg (by omega)]at k
  refine key ((w-b%w)%w) (Nat.mod_lt _ (by omega)) k fun i _=>?_
  rw [if_pos rfl,Nat.add_mod_mod]
  congr 1
  omega
theorem yX {b:Bool} {R:Value->Hp->Prop} {h:Hp} {c:Bool} (e:b=c) (k:R (.tuple #[.bool c, .bool true]) h):R (.tuple #[.bool b, .bool true]) h:=by rw [e];exact k
theorem Na {h:Hp} {kind:Int} {w a b:Nat} {R:Value->Hp->Prop} (ea:WO w a) (eb:WO w b)
  (k1:21<=kind/\kind<=28->R (.tuple #[.bool (EF kind w a b), .bool true]) h)
  (k2: ¬(21<=kind/\kind<=28)->R (.tuple #[.bool false, .bool false]) h):ua #[I kind,I w,I a,I b] h R:=by
 apply IO
 refine uf_ ?_
 have h16:=ea.pow
 have hp:=bK w
 have sa:=Et ea
 have sb:=Et eb
 have ha:=ea.2
 have hb:=eb.2
 have hw:=ea.1
 have dd: ∀{p q:Prop} [Decidable p] [Decidable q],(p↔q)->decide p=decide q:=fun h=>by rw [decide_eq_decide];exact h
 refine iW ea ⟨_,rfl,iW eb ⟨_,rfl,?_⟩⟩
 refine ac (fun e=>?_) (fun e1=>?_)
 ·have e:=bV e
  subst e
  refine yX ?_ (k1 (by omega))
  show _=decide (a=b)
  rw [Bool.eq_iff_iff];simp;omega
 refine ac (fun e=>?_) (fun e2=>?_)
 ·have e:=bV e
  subst e
  exact yX (dd (by omega)) (k1 (by omega))
 refine ac (fun e=>?_) (fun e3=>?_)
 ·have e:=bV e
  subst e
  exact k1 (by omega)
 refine ac (fun e=>?_) (fun e4=>?_)
 ·have e:=bV e
  subst e
  exact yX (dd (by omega)) (k1 (by omega))
 refine ac (fun e=>?_) (fun e5=>?_)
 ·have e:=bV e
  subst e
  exact k1 (by omega)
 refine ac (fun e=>?_) (fun e6=>?_)
 ·have e:=bV e
  subst e
  have hab:W ((a:Int)+b)=((a+b:Nat):Int):=by rw [bU (by omega) (by omega)];omega
  rw [hab]
  refine cy ⟨_,rfl,?_⟩
  refine yX ?_ (k1 (by omega))
  show _=decide (2^w<=a+b)
  rw [Bool.eq_iff_iff]
  have:=jT (w:=(w:Int)) (v:=((a+b:Nat):Int))
  rw [Int.toNat_natCast]at this
  simp only [Bool.not_eq_true',decide_eq_true_eq,<-Bool.not_eq_true,this]
  omega
 refine ac (fun e=>?_) (fun e7=>?_)
 ·have e:=bV e
  subst e
  rw [bU (by omega) (by omega)]
  refine g9 hw ⟨_,rfl,iW ⟨hw,jJ _ _⟩ ⟨_,rfl,?_⟩⟩
  refine yX ?_ (k1 (by omega))
  show _= !decide (-((2^(w-1):Nat):Int)<=sgn w a+sgn w b/\sgn w a+sgn w b<((2^(w-1):Nat):Int))
  have:=acB (a:=a) (b:=b) hw.1
  rw [Bool.eq_iff_iff,bne_iff_ne,this,Bool.not_eq_true',decide_eq_false_iff_not]
 refine ac (fun e=>?_) (fun e8=>?_)
 ·have e:=bV e
  subst e
  have hmul:=DU (a:=a) (b:=b) (by omega) (by omega)
  have hmi:(a:Int)*(b:Int)=((a*b:Nat):Int):=(Int.natCast_mul _ _).symm
  rw [hmi,eO (by omega)]
  refine cy ⟨_,rfl,?_⟩
  refine yX ?_ (k1 (by omega))
  show _=decide (2^w<=a*b)
  rw [Bool.eq_iff_iff]
  have:=jT (w:=(w:Int)) (v:=((a*b:Nat):Int))
  rw [Int.toNat_natCast]at this
  simp only [Bool.not_eq_true',decide_eq_true_eq,<-Bool.not_eq_true,this]
  generalize a*b=ab at*
  omega
 ·have:=bk e1;have:=bk e2;have:=bk e3;have:=bk e4;have:=bk e5;have:=bk e6;have:=bk e7;have:=bk e8
  exact k2 (by omega)
theorem BH {h:Hp} {kind:Int} {w a b:Nat} {R:Value->Hp->Prop} (hk:6<=kind/\kind<=28) (ea:WO w a) (eb:WO w b)
  (k:R (.tuple #[I (sx kind w a b).1,I (sx kind w a b).2, .bool true]) h):pe #[I kind,I w,I a,I b] h R:=by
 apply HD
 refine uf_ ?_
 have h16:=ea.pow
 have hp:=bK w
 have ha:=ea.2
 have hb:=eb.2
 have hw:=ea.1
 have hmul:=DU (a:=a) (b:=b) (by omega) (by omega)
 refine ap (fun J=>J false h) ?_ (fun J hJ=>cy ⟨_,rfl,aE (by rw [ea.ok];rfl) (cy ⟨_,rfl,by rw [eb.ok];exact hJ⟩)⟩)
 refine aE rfl (Na ea eb (fun h21=>⟨_,_,rfl,aM rfl (pI ⟨_,rfl,?_⟩)⟩) (fun h21=>⟨_,_,rfl,aE rfl ?_⟩))
 ·have t:sx kind w a b=(if EF kind w a b then 1 else 0,1):=by unfold sx;rw [if_neg (by omega)]
  rw [t]at k
  cases hs:EF kind w a b
  ·rw [hs]at k;simpa using k
  ·rw [hs]at k;simpa using k
 have t:sx kind w a b=(Hs kind w a b,w):=by unfold sx;rw [if_pos (by omega)]
 rw [t]at k
 unfold Hs at k
 simp only at k
 refine ap (fun J=>J (decide (kind=6\/kind=7\/kind=8))) ?_ ?_
 rotate_left
 ·intro J hJ
  refine ac (fun e=>?_) (fun e=>ac (fun e2=>?_) (fun e2=>?_))
  ·rw [decide_eq_true (.inl (bV e))]at hJ;exact hJ
  ·rw [decide_eq_true (.inr (.inl (bV e2)))]at hJ;exact hJ
  ·have:(kind==8)=decide (kind=6\/kind=7\/kind=8):=by
    have h1:=bk e
    have h2:=bk e2
    rw [Bool.eq_iff_iff];simp [h1,h2]
   rw [this];exact hJ
 refine ac (fun e=>?_) (fun e678=>?_)
 ·have e':kind=6\/kind=7\/kind=8:=by simpa using e
  refine MV hw.2 ⟨_,rfl,?_⟩
  rcases e' with rfl|rfl|rfl
  ·rw [if_pos rfl,<-Ir ha]at k;exact k
  ·rw [if_neg (by decide),if_pos rfl,<-QK ha hb]at k;exact k
  ·rw [if_neg (by decide),if_neg (by decide),if_pos rfl,<-UB ha hb]at k;exact k
 have n6: ¬kind=6/\ ¬kind=7/\ ¬kind=8:=by simpa using e678
 rw [if_neg n6.1,if_neg n6.2.1,if_neg n6.2.2]at k
 refine ac (fun e=>?_) (fun e9=>?_)
 ·rw [if_pos (bV e)]at k
  rw [bU (by omega) (by omega)]
  exact g9 hw ⟨_,rfl,k⟩
 rw [if_neg (bk e9)]at k
 refine ac (fun e=>?_) (fun e10=>?_)
 ·rw [if_pos (bV e)]at k
  rw [bU (by omega) (by omega)]
  exact g9 hw ⟨_,rfl,k⟩
 rw [if_neg (bk e10)]at k
 refine ac (fun e=>?_) (fun e11=>?_)
 ·rw [if_pos (bV e)]at k
  have hmi:(a:Int)*(b:Int)=((a*b:Nat):Int):=(Int.natCast_mul _ _).symm
  rw [hmi]at k⊢
  generalize a*b=ab at*
  rw [eO (by omega)]
  exact g9 hw ⟨_,rfl,k⟩
 rw [if_neg (bk e11)]at k
 refine ap (fun J=>J (decide (kind=12\/kind=13))) ?_ ?_
 rotate_left
 ·intro J hJ
  refine ac (fun e=>?_) (fun e=>?_)
  ·rw [decide_eq_true (.inl (bV e))]at hJ;exact hJ
  ·have:(kind==13)=decide (kind=12\/kind=13):=by
    have:=bk e
    rw [Bool.eq_iff_iff];simp [this]
   rw [this];exact hJ
 refine ac (fun e=>?_) (fun e1213=>?_)
 ·have e':kind=12\/kind=13:=by simpa using e
  refine PN ea eb ⟨_,rfl,?_⟩
  rcases e' with rfl|rfl
  ·simpa using k
  ·simpa using k
 have n12: ¬kind=12/\ ¬kind=13:=by simpa using e1213
 rw [if_neg n12.1,if_neg n12.2]at k
 refine ap (fun J=>J (decide (kind=14\/kind=15))) ?_ ?_
 rotate_left
 ·intro J hJ
  refine ac (fun e=>?_) (fun e=>?_)
  ·rw [decide_eq_true (.inl (bV e))]at hJ;exact hJ
  ·have:(kind==15)=decide (kind=14\/kind=15):=by
    have:=bk e
    rw [Bool.eq_iff_iff];simp [this]
   rw [this];exact hJ
 refine ac (fun e=>?_) (fun e1415=>?_)
 ·have e':kind=14\/kind=15:=by simpa using e
  refine N3 e' ea eb ⟨_,rfl,?_⟩
  rcases e' with rfl|rfl
  ·simpa using k
  ·simpa using k
 have n14: ¬kind=14/\ ¬kind=15:=by simpa using e1415
 rw [if_neg n14.1,if_neg n14.2]at k
 refine ap (fun J=>J (decide (kind=16\/kind=17\/kind=18))) ?_ ?_
 rotate_left
 ·intro J hJ
  refine ac (fun e=>?_) (fun e=>ac (fun e2=>?_) (fun e2=>?_))
  ·rw [decide_eq_true (.inl (bV e))]at hJ;exact hJ
  ·rw [decide_eq_true (.inr (.inl (bV e2)))]at hJ;exact hJ
  ·have:(kind==18)=decide (kind=16\/kind=17\/kind=18):=by
    have h1:=bk e
    have h2:=bk e2
    rw [Bool.eq_iff_iff];simp [h1,h2]
   rw [this];exact hJ
 refine ac (fun e=>?_) (fun e1618=>?_)
 ·have e':kind=16\/kind=17\/kind=18:=by simpa using e
  refine Mk e' ea (by omega) ⟨_,rfl,?_⟩
  unfold Dm
  rcases e' with rfl|rfl|rfl
  ·simpa using k
  ·simpa using k
  ·simpa using k
 have n16: ¬kind=16/\ ¬kind=17/\ ¬kind=18:=by simpa using e1618
 rw [if_neg n16.1,if_neg n16.2.1,if_neg n16.2.2]at k
 have h1920:kind=19\/kind=20:=by
  have:=bk e9;have:=bk e10;have:=bk e11
  omega
 refine ap (fun J=>J true) ?_ ?_
 rotate_left
 ·intro J hJ
  refine ac (fun e=>hJ) (fun e=>?_)
  have:(kind==20)=true:=by
   have:=bk e
   rw [beq_iff_eq];omega
  rw [this];exact hJ
 refine aM rfl (NE h1920 ea ⟨_,rfl,k⟩)
theorem V9 {w a more:Nat} {sign:Bool} (e:WO w a):Hg w a more sign<2^(w+more):=by
 unfold Hg
 cases sign
 ·have:=e.2
  have:2^w<=2^(w+more):=Nat.pow_le_pow_right (by omega) (by omega)
  rw [if_neg (by decide)];omega
 ·exact jJ _ _
theorem RX {h:Hp} {w a more:Nat} {s:Bool} {R:Value->Hp->Prop} (e:WO w a) (hm:w+more<=16)
  (k:R (I (Hg w a more s)) h):yE #[I w,I a,I more, .bool s] h R:=by
 apply Oh
 refine uf_ ?_
 unfold Hg at k
 refine ac (fun es=>?_) (fun es=>?_)
 ·rw [if_pos es]at k
  refine nu e ⟨_,rfl,?_⟩
  rw [show W ((w:Int)+more)=((w+more:Nat):Int) by rw [bU (by omega) (by omega)];omega]
  refine dI (by omega) ⟨_,rfl,?_⟩
  rw [ig (by omega)];exact k
 ·rw [if_neg (by rw [es];decide)]at k;exact k
theorem IV {h:Hp} {w a more:Nat} {s:Bool} {R:Value->Hp->Prop} (e:WO w a) (hm:w+more<=16)
  (k:R (.tuple #[I (Hg w a more s),I ((w+more:Nat):Int), .bool true]) h):kl #[I w,I a,I more, .bool s] h R:=by
 apply wB
 refine uf_ ?_
 unfold Hg at k
 have hw:W ((w:Int)+more)=((w+more:Nat):Int):=by rw [bU (by omega) (by omega)];omega
 have h1:=e.1
 refine ap (fun J=>J false h) ?_ (fun J hJ=>cy ⟨_,rfl,aE (by rw [e.ok];rfl) (aE (by simp) ?_)⟩)
 ·refine aE rfl (ac (fun es=>?_) (fun es=>?_))
  ·rw [if_pos es]at k
   rw [hw]
   exact iW e ⟨_,rfl,g9 (by omega) ⟨_,rfl,k⟩⟩
  ·rw [if_neg (by rw [es];decide)]at k
   rw [hw];exact k
 ·rw [bU (by omega) (by omega),show decide ((more:Int)>16-(w:Int))=false by rw [decide_eq_false_iff_not];omega];exact hJ
theorem IL {h:Hp} {w a u b:Nat} {R:Value->Hp->Prop} (ea:WO w a) (eb:WO u b) (hm:w+u<=16)
  (k:R (.tuple #[I ((a*2^u+b:Nat):Int),I ((w+u:Nat):Int), .bool true]) h):kg #[I w,I a,I u,I b] h R:=by
 apply wE
 refine uf_ ?_
 have hw:W ((w:Int)+u)=((w+u:Nat):Int):=by rw [bU (by omega) (by omega)];omega
 have h1:=ea.1
 have h2:=eb.1
 have ha:=ea.2
 have hb:=eb.2
 have h16a:=ea.pow
 have h16b:=eb.pow
 have hmul:=DU (a:=a) (b:=2^u) (by omega) (by omega)
 refine ap (fun J=>J false h) ?_ (fun J hJ=>cy ⟨_,rfl,aE (by rw [ea.ok];rfl) (cy ⟨_,rfl,aE (by rw [eb.ok];rfl) ?_⟩)⟩)
 ·rw [cu (by omega)]
  refine aE rfl ?_
  rw [if_neg (by omega),ik (by omega) (by omega),hw,<-Int.natCast_add,eO (by omega)];exact k
 ·rw [hw,show decide (((w+u:Nat):Int)>16)=false by rw [decide_eq_false_iff_not];omega];exact hJ
theorem HI {h:Hp} {w a hi lo:Nat} {R:Value->Hp->Prop} (ea:WO w a) (h1:lo<=hi) (h2:hi<w)
  (k:R (.tuple #[I ((a/2^lo%2^(hi-lo+1):Nat):Int),I ((hi-lo+1:Nat):Int), .bool true]) h):jy #[I w,I a,I hi,I lo] h R:=by
 apply uU
 refine uf_ ?_
 have e0:=ea.1
 have hw:W (W ((hi:Int)-lo)+1)=((hi-lo+1:Nat):Int):=by rw [bU (n:=(hi:Int)-lo) (by omega) (by omega),bU (by omega) (by omega)];omega
 have e1:=ea.1
 have hp:=bK (hi-lo+1)
 refine ap (fun J=>J false h) ?_ (fun J hJ=>cy ⟨_,rfl,aE (by rw [ea.ok];rfl) (aE (by simp) (aE (by simp;omega) ?_))⟩)
 ·refine aE rfl ?_
  rw [hw,cu (by omega),cu (by omega),if_neg (by omega),if_neg (by omega),bJ (by omega),if_neg (by omega),jx (by omega),eU]
  exact k
 ·rw [show decide ((hi:Int)>=(w:Int))=false by rw [decide_eq_false_iff_not];omega];exact hJ
theorem aj {h:Hp} {cs:Nat->List Value} {n:Nat->Nat} {P:Nat->Hp->Prop}
  (k: ∀b h',h b=none->h.le h'->h' b=some (.inl ⟨cs b,n b,false⟩)->P b h'): ∀b,h b=none->cz (h.row b (cs b) (n b)) fun h'=>P b h':=
 fun b hb=>k b _ hb (fg _ _ hb) (bM _ _ _ _)
theorem dt {b c:Bool} {R:Value->Hp->Prop} {h:Hp} (e:b=c) (k:R (.bool c) h):R (.bool b) h:=by rw [e];exact k
theorem rj {b c:Int} {R:Value->Hp->Prop} {h:Hp} (e:b=c) (k:R (I c) h):R (I b) h:=by rw [e];exact k
theorem aao {P:Bool->Prop} {c b:Bool} (k:P (c&&b)):ad c (P b) (P false):=by cases c<;>exact k
theorem acl {P:Bool->Prop} {c b:Bool} (k:P (c||b)):ad c (P true) (P b):=by cases c<;>exact k
abbrev uQ (s:SortP):Value:= .agg #[I s.idx,I s.wid]
abbrev Ex (n:NodeP):Value:= .agg #[I n.kind,I n.a,I n.b,I n.c,I n.n,I n.m,I n.sort.idx,I n.sort.wid, .string n.name]
abbrev KQ (b:BindP):Value:= .agg #[I b.state,I b.node]
theorem Gk (s:SortP):bT s=(decide (0<=s.idx/\s.idx<=2)&&decide (1<=s.wid/\s.wid<=16)):=by
 unfold bT;rw [Bool.eq_iff_iff];simp
theorem cd {s:SortP}:bT s=true↔(0<=s.idx/\s.idx<=2)/\(1<=s.wid/\s.wid<=16):=by
 unfold bT;simp
theorem pC {h:Hp} {i w:Int} {R:Value->Hp->Prop} (k:R (.bool (bT ⟨i,w⟩)) h):mw #[.agg #[I i,I w]] h R:=by
 refine ACalls.drop (I9 ?_)
 refine uf_ ?_
 refine aj fun b h1 hb l1 f1=>?_
 simp only [vm,mm,aq f1]
 rw [Gk]at k
 refine fK ⟨_,rfl,ac (fun e=>?_) (fun e=>⟨_,l1,dt ?_ k⟩)⟩
 ·simp only [vm,mm,aq f1]
  exact BZ ⟨_,rfl,⟨_,l1,dt (by simp only [e,Bool.true_and]) k⟩⟩
 ·simp only [e,Bool.false_and]
theorem pD {h:Hp} {i w:Int} {R:Value->Hp->Prop} (k:R (.bool (bT ⟨i,w⟩)) h):mD #[.agg #[I i,I w]] h R:=by
 refine ACalls.drop (Jk ?_)
 refine uf_ ?_
 refine aj fun b h1 hb l1 f1=>?_
 simp only [vm,mm,aq f1]
 rw [Gk]at k
 refine dH ⟨_,rfl,ac (fun e=>?_) (fun e=>⟨_,l1,dt ?_ k⟩)⟩
 ·simp only [vm,mm,aq f1]
  exact vu ⟨_,rfl,⟨_,l1,dt (by simp only [e,Bool.true_and]) k⟩⟩
 ·simp only [e,Bool.false_and]
theorem wl (s:SortP):cR s<=4:=by
 unfold cR
 split
 ·rename_i e
  have:=cd.1 e
  have:=Nat.pow_le_pow_right (n:=2) (by omega) (show s.idx.toNat<=2 by omega)
  simpa using this
 ·omega
theorem lR {h:Hp} {i w:Int} {R:Value->Hp->Prop} (k:R (I (cR ⟨i,w⟩)) h):jA #[.agg #[I i,I w]] h R:=by
 refine ACalls.drop (CF ?_)
 refine uf_ ?_
 refine aj fun b h1 hb l1 f1=>?_
 simp only [vm,mm,aq f1]
 unfold cR at k
 refine pC ⟨_,rfl,ac (fun e=>⟨_,l1,?_⟩) (fun e=>?_)⟩
 ·rw [if_neg (by simpa using e)]at k;exact k
 ·have e':bT ⟨i,w⟩=true:=by simpa using e
  have:=cd.1 e'
  rw [if_pos e']at k
  simp only [vm,mm,aq f1]
  obtain⟨n,rfl⟩: ∃n:Nat,i=n:=⟨i.toNat,by simp only at this;omega⟩
  simp only at this
  rw [if_neg (by omega),bJ (by omega)]
  exact⟨_,l1,k⟩
theorem fC {h:Hp} {i w:Int} {R:Value->Hp->Prop} (k:R (I (cR ⟨i,w⟩)) h):eW #[.agg #[I i,I w]] h R:=by
 refine ACalls.drop (CG ?_)
 refine uf_ ?_
 refine aj fun b h1 hb l1 f1=>?_
 simp only [vm,mm,aq f1]
 unfold cR at k
 refine pD ⟨_,rfl,ac (fun e=>⟨_,l1,?_⟩) (fun e=>?_)⟩
 ·rw [if_neg (by simpa using e)]at k;exact k
 ·have e':bT ⟨i,w⟩=true:=by simpa using e
  have:=cd.1 e'
  rw [if_pos e']at k
  simp only [vm,mm,aq f1]
  obtain⟨n,rfl⟩: ∃n:Nat,i=n:=⟨i.toNat,by simp only at this;omega⟩
  simp only at this
  rw [cu (by omega),if_neg (by omega),bJ (by omega)]
  exact⟨_,l1,k⟩
theorem xv (s:SortP):dR s<=64:=by
 unfold dR
 by_cases e:bT s=true
 ·have:=cd.1 e
  have h1:=wl s
  have:=Nat.mul_le_mul h1 (show s.wid.toNat<=16 by omega)
  omega
 ·have:cR s=0:=by unfold cR;rw [if_neg e]
  rw [this];omega
theorem Bs {s:SortP} {x:Int} (hx:bT s=true->x=s.wid):(cR s:Int)*x=((dR s:Nat):Int):=by
 unfold dR
 by_cases e:bT s=true
 ·have:=cd.1 e
  rw [hx e,Int.natCast_mul]
  congr 1
  omega
 ·have:cR s=0:=by unfold cR;rw [if_neg e]
  rw [this];simp
theorem sX {h:Hp} {i w:Int} {R:Value->Hp->Prop} (k:R (I (dR ⟨i,w⟩)) h):mG #[.agg #[I i,I w]] h R:=by
 refine ACalls.drop (Fn ?_)
 refine uf_ ?_
 refine aj fun b h1 hb l1 f1=>?_
 simp only [vm,mm,aq f1]
 refine lR ⟨_,rfl,rfl,⟨_,l1,rj ?_ k⟩⟩
 have:=xv ⟨i,w⟩
 rw [Bs,eO (by omega)]
 intro e
 have:=cd.1 e
 simp only at this⊢
 split<;>split<;>omega
theorem im {h:Hp} {i w:Int} {R:Value->Hp->Prop} (k:R (I (dR ⟨i,w⟩)) h):gD #[.agg #[I i,I w]] h R:=by
 refine ACalls.drop (EI ?_)
 refine uf_ ?_
 refine aj fun b h1 hb l1 f1=>?_
 simp only [vm,mm,aq f1]
 refine fC ⟨_,rfl,rfl,⟨_,l1,rj ?_ k⟩⟩
 have:=xv ⟨i,w⟩
 rw [Bs (fun _=>rfl),eO (by omega)]
theorem ey {α:Sort _} (c:α) (k:α->Prop):aJ c k=k c:=rfl
theorem vg {P:Prop} (k:P:=by((try rw [Bool.eq_iff_iff]);((try simp only [decide_eq_true_eq,decide_eq_false_iff_not,beq_iff_eq,beq_eq_false_iff_ne,bne_iff_ne,bne_eq_false_iff_eq,ne_eq,Bool.not_eq_true',Bool.not_eq_false',Bool.and_eq_true,Bool.or_eq_true,Bool.true_and,Bool.false_and,Bool.and_true,Bool.and_false,Bool.true_or,Bool.false_or,reduceCtorEq,iff_false,iff_true,false_iff,true_iff,Bool.not_true,Bool.not_false]at*));try ((repeat' split)<;>omega))):P:=k
theorem fI {α:Sort _} {b c:α} {J:α->Prop} (e:b=c) (k:J c):J b:=by rw [e];exact k
theorem iP {h:Hp} {kind:Int} {R:Value->Hp->Prop} (k:R (I (ar kind)) h):jb #[I kind] h R:=by
 apply Lh
 refine uf_ ?_
 simp only [ey]
 repeat' (first|(with_reducible first|refine aM (b:=true) rfl ?_|refine aE (b:=false) rfl ?_|refine ac (fun _=>?_) fun _=>?_)|(refine fK ⟨_,rfl,?_⟩)|(refine rj ?_ k))
 all_goals (clear k;unfold ar;(exact vg))
theorem lz {h:Hp} {kind:Int} {R:Value->Hp->Prop} (k:R (I (ar kind)) h):ij #[I kind] h R:=by
 apply GU
 refine uf_ ?_
 refine ap (fun J=>J (decide ((1<=kind/\kind<=5)\/(30<=kind/\kind<=32)))) ?_ (fun J hJ=>?_)
 rotate_left
 ·clear k;repeat' (first|(with_reducible first|refine aM (b:=true) rfl ?_|refine aE (b:=false) rfl ?_|refine ac (fun _=>?_) fun _=>?_)|(refine fI ?_ hJ))
  all_goals (clear hJ;(exact vg))
 (with_reducible first|refine aM (b:=true) rfl ?_|refine aE (b:=false) rfl ?_|refine ac (fun _=>?_) fun _=>?_)
 ·refine rj ?_ k;clear k;unfold ar;(exact vg)
 refine ap (fun J=>J (decide ((6<=kind/\kind<=29)\/kind=37))) ?_ (fun J hJ=>?_)
 rotate_left
 ·clear k;repeat' (first|(with_reducible first|refine aM (b:=true) rfl ?_|refine aE (b:=false) rfl ?_|refine ac (fun _=>?_) fun _=>?_)|(refine fI ?_ hJ))
  all_goals (clear hJ;(exact vg))
 (with_reducible first|refine aM (b:=true) rfl ?_|refine aE (b:=false) rfl ?_|refine ac (fun _=>?_) fun _=>?_)
 ·refine rj ?_ k;clear k;unfold ar;(exact vg)
 simp only [ey]
 repeat' (first|(with_reducible first|refine aM (b:=true) rfl ?_|refine aE (b:=false) rfl ?_|refine ac (fun _=>?_) fun _=>?_)|(refine rj ?_ k))
 all_goals (clear k;unfold ar;(exact vg))
theorem HW {h:Hp} {kind:Int} {R:Value->Hp->Prop} (k:R (.bool (fU kind)) h):dk #[I kind] h R:=by
 apply Md
 refine uf_ ?_
 refine acl (P:=fun b=>R (.bool b) h) (dt ?_ k)
 unfold fU
 rw [Bool.eq_iff_iff];simp
theorem Mw (s:ByteArray) (i:Nat):s[i]?=s.data.toList[i]?:=by
 rcases s with ⟨⟨l⟩⟩
 by_cases h:i<l.length
 ·rw [getElem?_pos _ i (show i<(ByteArray.mk ⟨l⟩).size from h)]
  simp only [List.getElem?_eq_getElem h]
  rfl
 ·rw [getElem?_neg _ i (show¬i<(ByteArray.mk ⟨l⟩).size from h)]
  simp only [List.getElem?_eq_none (Nat.le_of_not_lt h)]
theorem BQ (s:ByteArray):s.size=s.data.toList.length:=by rcases s with ⟨⟨l⟩⟩;rfl
theorem FP {s:ByteArray} {i:Nat} (h:i<s.size): ∃c,s[i]?=some c:=by
 rw [Mw];rw [BQ]at h
 exact⟨_,List.getElem?_eq_getElem h⟩
theorem xq (s:ByteArray):(ByteArray.toList s==ByteArray.toList ⟨#[]⟩)=decide (s.size=0):=by
 rcases s with ⟨⟨l⟩⟩
 rw [lk,show (⟨#[]⟩:ByteArray)=⟨List.toArray []⟩from rfl,lk,BQ,Bool.eq_iff_iff]
 simp
theorem qz {s:ByteArray}:gf s=true↔(1<=s.size/\s.size<=8)/\ ∀(j:Nat) (c:UInt8),s[j]?=some c->gW c=true\/(j≠0/\oG c=true):=by
 unfold gf
 simp only [Mw]
 have hs:=BQ s
 generalize s.data.toList=l at*
 rw [Bool.and_eq_true,decide_eq_true_eq]
 refine and_congr_right fun h1=>?_
 cases l with
 |nil=>have:s.size=0:=hs;omega
 |cons c r=>
  simp only [Bool.and_eq_true,List.all_eq_true,Bool.or_eq_true]
  constructor
  ·rintro ⟨h2,h3⟩ j d hd
   cases j with
   |zero=>simp at hd;subst hd;exact .inl h2
   |succ j=>
    simp only [List.getElem?_cons_succ]at hd
    exact(h3 d (List.mem_of_getElem? hd)).imp id fun h=>⟨by omega,h⟩
  ·intro h
   refine⟨?_,fun d hd=>?_⟩
   ·rcases h 0 c rfl with h|h
    ·exact h
    ·exact absurd rfl h.1
   ·obtain⟨j,hj,rfl⟩:=List.getElem_of_mem hd
    rcases h (j+1) r[j] (by simp)with h|h
    ·exact .inl h
    ·exact .inr h.2
theorem vz {s:ByteArray} {j:Nat} {c:UInt8} (e:s[j]?=some c) (h1:gW c=false) (h2:j=0\/oG c=false):gf s=false:=by
 rw [Bool.eq_false_iff]
 intro h
 rcases (qz.1 h).2 j c e with h|h
 ·rw [h1]at h;cases h
 ·rcases h2 with h2|h2
  ·exact h.1 h2
  ·rw [h2]at h;cases h.2
theorem Jg {h:Hp} {c:UInt8} {R:Value->Hp->Prop} (k:R (.bool (gW c)) h):qZ #[.int .u8 ((UInt8.toNat c:Nat):Int)] h R:=by
 apply E9
 refine uf_ ?_
 refine aao (P:=fun b=>R (.bool b) h) (dt ?_ k)
 unfold gW
 (exact vg)
theorem CX {h:Hp} {s:ByteArray} {R:Value->Hp->Prop} (k:R (.bool (gf s)) h) (hsz:s.size<9223372036854775807):ji #[.string s] h R:=by
 apply IZ
 refine uf_ ?_
 refine av s.size (fun i vs h'=>(∀(j:Nat) (c:UInt8),j<i->s[j]?=some c->gW c=true\/(j≠0/\oG c=true))/\vs= [.string s,I s.size,I i]/\h'=h) ⟨fun j c hj=>by omega,rfl,rfl⟩ ?_
 rintro i _ h' next hi ⟨hg,rfl,rfl⟩ hn
 refine⟨_,_,_,rfl,?_⟩
 by_cases hlt:i<s.size
 ·obtain⟨c,hc⟩:=FP hlt
  refine aM (by simp [hlt]) ?_
  simp only [vm]
  have hnext:gW c=true\/(i≠0/\oG c=true)->next [.string s,I s.size,I (W ((i:Int)+1))] h':=by
   intro hgood
   rw [aC (by omega)]
   refine hn hlt _ _ ⟨fun j d hj hd=>?_,rfl,rfl⟩
   by_cases hji:j=i
   ·subst hji;rw [hc]at hd;cases hd;exact hgood
   ·exact hg j d (by omega) hd
  refine⟨c,hc,Jg ⟨_,rfl,ac (fun e=>ac (fun e2=>?_) (fun e2=>⟨c,hc,ac (fun e3=>?_) (fun e3=>⟨c,hc,ac (fun e4=>?_) (fun e4=>hnext ?_)⟩)⟩)) (fun e=>hnext (.inl (by simpa using e)))⟩⟩
  ·exact dt (vz hc (by simpa using e) (.inl (by simp at e2;omega))).symm k
  ·exact dt (vz hc (by simpa using e) (.inr (by unfold oG;simp at e3⊢;omega))).symm k
  ·exact dt (vz hc (by simpa using e) (.inr (by unfold oG;simp at e4⊢;omega))).symm k
  ·refine .inr ⟨by simp at e2;omega,?_⟩
   unfold oG;simp at e3 e4⊢;omega
 ·refine aE (by simp;omega) (fK ⟨_,rfl,dt ?_ k⟩)
  have:= @qz s
  rw [Bool.eq_iff_iff,this,decide_eq_true_eq]
  constructor
  ·intro hh
   refine⟨by omega,fun j c hc=>hg j c ?_ hc⟩
   ·rcases Nat.lt_or_ge j s.size with h|h
    ·omega
    ·rw [Mw,List.getElem?_eq_none (by rw [<-BQ];exact h)]at hc;cases hc
  ·rintro ⟨hh,_⟩;omega
theorem Dy {h:Hp} {s:ByteArray} {R:Value->Hp->Prop} (k:R (.bool (gf s)) h):qg #[.string s] h R:=by
 apply Jj
 refine uf_ ?_
 refine ap (fun J=>J (!(decide (1<=s.size/\s.size<=8)&&(match s[0]? with|some c=>gW c|none=>false))) h) ?_ (fun J hJ=>?_)
 rotate_left
 ·refine dH ⟨_,rfl,ac (fun e=>?_) (fun e=>?_)⟩
  ·rw [show decide (1<=s.size/\s.size<=8)=false by rw [decide_eq_false_iff_not];simp at e;omega,Bool.false_and]at hJ
   exact hJ
  ·have e':1<=s.size/\s.size<=8:=by simp at e;omega
   obtain⟨c,hc⟩:=FP (s:=s) (i:=0) (by omega)
   rw [decide_eq_true e',Bool.true_and,hc]at hJ
   simp only at hJ
   refine⟨by omega,c,hc,ac (fun e=>?_) (fun e=>⟨by omega,c,hc,?_⟩)⟩
   ·exact fI (J:=fun b=>J b h) (by unfold gW;(exact vg)) hJ
   ·exact fI (J:=fun b=>J b h) (by unfold gW;(exact vg)) hJ
 refine ac (fun e=>dt ?_ k) (fun e=>?_)
 ·symm
  rw [Bool.eq_false_iff]
  intro hn
  have hh:=qz.1 hn
  obtain⟨c,hc⟩:=FP (s:=s) (i:=0) (by omega)
  rw [decide_eq_true hh.1,hc]at e
  rcases hh.2 0 c hc with h1|h1
  ·simp [h1]at e
  ·exact absurd rfl h1.1
 have e':(1<=s.size/\s.size<=8)/\ ∀c,s[0]?=some c->gW c=true:=by
  simp only [Bool.not_eq_false',Bool.and_eq_true,decide_eq_true_eq]at e
  refine⟨e.1,fun c hc=>?_⟩
  have:=e.2;rw [hc]at this;exact this
 refine av s.size (fun i vs h'=>(∀(j:Nat) (c:UInt8),j<i->s[j]?=some c->gW c=true\/oG c=true)/\vs= [.string s,I i]/\h'=h) ⟨fun j c hj=>by omega,rfl,rfl⟩ ?_
 rintro i _ h' next hi ⟨hg,rfl,rfl⟩ hn
 refine⟨_,_,rfl,?_⟩
 by_cases hlt:i<s.size
 ·obtain⟨c,hc⟩:=FP hlt
  refine aM (by simp [hlt]) ?_
  simp only [vm]
  have hnext:gW c=true\/oG c=true->next [.string s,I (W ((i:Int)+1))] h':=by
   intro hgood
   rw [aC (by omega)]
   refine hn hlt _ _ ⟨fun j d hj hd=>?_,rfl,rfl⟩
   by_cases hji:j=i
   ·subst hji;rw [hc]at hd;cases hd;exact hgood
   ·exact hg j d (by omega) hd
  have hbad:gW c=false->oG c=false->R (.bool false) h':=fun h1 h2=>dt (vz hc h1 (.inr h2)).symm k
  have two: ∀(hl:gW c=false),(ad (decide (((UInt8.toNat c:Nat):Int)>=48)) (∃c32:UInt8,s[i]?=some c32/\(ad (!(decide (((UInt8.toNat c32:Nat):Int)<=57))) (R (.bool false) h') (next [(.string s),(I (W ((i:Int)+1)))] h'))) (R (.bool false) h')):=by
   intro hl
   refine ac (fun e=>⟨c,hc,ac (fun e2=>hbad hl ?_) (fun e2=>hnext (.inr ?_))⟩) (fun e=>hbad hl ?_)
   ·unfold oG;simp at e2⊢;omega
   ·unfold oG;simp at e e2⊢;omega
   ·unfold oG;simp at e⊢;omega
  refine⟨c,hc,ac (fun e=>⟨c,hc,ac (fun e2=>hnext (.inl ?_)) (fun e2=>⟨c,hc,two ?_⟩)⟩) (fun e=>⟨c,hc,two ?_⟩)⟩
  ·unfold gW;simp at e e2⊢;omega
  ·unfold gW;simp at e2⊢;omega
  ·unfold gW;simp at e⊢;omega
 ·refine aE (by simp;omega) (dt ?_ k)
  symm
  refine qz.2 ⟨e'.1,fun j c hc=>?_⟩
  have hj:j<s.size:=by
   rcases Nat.lt_or_ge j s.size with h|h
   ·omega
   ·rw [Mw,List.getElem?_eq_none (by rw [<-BQ];exact h)]at hc;cases hc
  rcases hg j c (by omega) hc with h1|h1
  ·exact .inl h1
  ·by_cases h0:j=0
   ·subst h0;exact .inl (e'.2 c hc)
   ·exact .inr ⟨h0,h1⟩
theorem rd :(∀(v:Value) r,(v::r)[0]?=some v)/\(∀(v:Value) r (i:Nat),(v::r)[i+1]?=r[i]?)/\
  (∀(cs:List Value) (n:Nat) (ro:Bool) (p:List Value->Nat->Prop),
   (∃(cs':List Value) (n':Nat),some (Sum.inl (Row.mk cs n ro):Blk)=some (Sum.inl (Row.mk cs' n' ro))/\p cs' n')=p cs n)/\
  (∀cs o,cA cs o []=cs)/\(∀cs o v r,cA cs o (v::r)=cA (cs.set o v) (o+1) r)/\
  (∀(v w:Value) r,(v::r).set 0 w=w::r)/\(∀(v w:Value) r (i:Nat),(v::r).set (i+1) w=v::r.set i w)/\
  (∀(v:Value) r,(v::r).length=r.length+1)/\([]:List Value).length=0:=
 ⟨fun _ _=>rfl,fun _ _ _=>rfl,Wk,H3,pw,fun _ _ _=>rfl,fun _ _ _ _=>rfl,fun _ _=>rfl,rfl⟩
theorem VG {h:Hp} {b z o:Nat} {cs:List Value} {ro:Bool} {x:Int} {P:Int->Prop} (f:h b=some (.inl ⟨cs,z,ro⟩)) (e:cs[o]?=some (I x)) (k:P x): ∃y:Int,Hp.cell h b o=some (I y)/\P y:=
 ⟨x,by rw [aq f];exact e,k⟩
theorem Wt {h:Hp} {b z o:Nat} {cs:List Value} {ro:Bool} {x:ByteArray} {P:ByteArray->Prop} (f:h b=some (.inl ⟨cs,z,ro⟩)) (e:cs[o]?=some (.string x)) (k:P x): ∃y:ByteArray,Hp.cell h b o=some (.string y)/\P y:=
 ⟨x,by rw [aq f];exact e,k⟩
theorem dl {h:Hp} {w:Int} {R:Value->Hp->Prop} (k:R (uQ (cF w)) h):dC #[I w] h R:=by
 refine ACalls.drop (Lz ?_)
 refine uf_ ?_
 intro b hb
 have l1:=fg [I 0,I w] 2 hb
 simp only [vm,mm]
 exact⟨by decide,_,l1,k⟩
theorem ce {h:Hp} {w:Int} {R:Value->Hp->Prop} (k:R (uQ (cF w)) h):am #[I w] h R:=by
 refine ACalls.drop (Jp ?_)
 refine uf_ ?_
 intro b hb
 have l1:=fg [I 0,I w] 2 hb
 simp only [vm,mm]
 exact⟨by decide,_,l1,k⟩
def aW (n:NodeP):Nat->Int
 |0=>n.a
 |1=>n.b
 |2=>n.c
 |_=>0
theorem pQ (len:Nat) (n:NodeP):fk len n=
  (decide (0<=ar n.kind)&&(rE (ar n.kind) len 0 (aW n 0)&&rE (ar n.kind) len 1 (aW n 1)&&rE (ar n.kind) len 2 (aW n 2))&&
   (if fU n.kind then gf n.name else decide (n.name.size=0))&&(decide (n.kind=30)||decide (n.m=0))&&
   (decide (n.kind=30\/n.kind=31\/n.kind=32\/n.kind=34)||decide (n.n=0))):=rfl
theorem J7 {len:Nat} {n:NodeP} {i:Nat} (hi:i<3) (e:rE (ar n.kind) len i (aW n i)=false):fk len n=false:=by
 rw [pQ]
 obtain rfl|rfl|rfl:i=0\/i=1\/i=2:=by omega
 ·rw [show ((0:Nat):Int)=0 from rfl]at e;rw [e];simp
 ·rw [show ((1:Nat):Int)=1 from rfl]at e;rw [e];simp
 ·rw [show ((2:Nat):Int)=2 from rfl]at e;rw [e];simp
theorem Ew {len:Nat} {n:NodeP} (hp:0<=ar n.kind) (e: ∀i:Nat,i<3->rE (ar n.kind) len i (aW n i)=true):fk len n=
  ((if fU n.kind then gf n.name else decide (n.name.size=0))&&(decide (n.kind=30)||decide (n.m=0))&&
    (decide (n.kind=30\/n.kind=31\/n.kind=32\/n.kind=34)||decide (n.n=0))):=by
 rw [pQ,decide_eq_true hp]
 have e0:=e 0 (by omega)
 have e1:=e 1 (by omega)
 have e2:=e 2 (by omega)
 rw [show ((0:Nat):Int)=0 from rfl]at e0
 rw [show ((1:Nat):Int)=1 from rfl]at e1
 rw [show ((2:Nat):Int)=2 from rfl]at e2
 rw [e0,e1,e2];simp
theorem pz {h:Hp} {b z:Nat} {n:NodeP} (f:h b=some (.inl ⟨[I n.a,I n.b,I n.c],z,false⟩)) {i:Nat} (hi:i<3):Hp.cell h b i=some (I (aW n i)):=by
 rw [aq f]
 obtain rfl|rfl|rfl:i=0\/i=1\/i=2:=by omega
 all_goals rfl
theorem Nk {h:Hp} {n:NodeP} {len:Nat} {R:Value->Hp->Prop} (hlen:len<=4611686018427387904) (hsz:n.name.size<=1048576)
  (k:R (.bool (fk len n)) h):np #[Ex n,I len] h R:=by
 refine ACalls.drop (AH ?_)
 refine uf_ ?_
 refine aj fun b h1 hb l1 f1=>?_
 simp only [vm,rd,aq f1]
 refine iP ⟨_,rfl,ac (fun e=>⟨_,l1,dt ?_ k⟩) (fun e=>?_)⟩
 ·rw [pQ,decide_eq_false (by simp at e;omega)];simp
 have hp:0<=ar n.kind:=by simp at e;omega
 simp only [vm,rd,aq f1]
 refine aj fun b2 h2 hb2 l2 f2=>?_
 have f1':=l2 _ _ f1
 have l12:=Hp.le_trans l1 l2
 refine av 3 (fun i vs h'=>(∀j:Nat,j<i->rE (ar n.kind) len j (aW n j)=true)/\vs= [I len, .pointer (some ⟨b,0,none⟩),I (ar n.kind), .slice (some ⟨b2,0,none⟩) 3 3,I 3,I i]/\h'=h2) ⟨fun j hj=>by omega,rfl,rfl⟩ ?_
 rintro i _ h' next hi ⟨hg,rfl,rfl⟩ hn
 refine⟨_,_,_,_,⟨_,_,_⟩,_,_,rfl,?_⟩
 by_cases hlt:i<3
 ·refine aM (by simp;omega) ?_
  simp only [vm,pz f2 hlt]
  refine⟨by omega,?_⟩
  refine ap (fun J=>J (!(rE (ar n.kind) len i (aW n i))) h') ?_ (fun J hJ=>?_)
  ·refine ac (fun e=>⟨_,l12,dt ?_ k⟩) (fun e=>?_)
   ·rw [J7 hlt (by simpa using e)]
   ·rw [aC (by omega)]
    refine hn hlt _ _ ⟨fun j hj=>?_,rfl,rfl⟩
    by_cases hji:j=i
    ·subst hji;simpa using e
    ·exact hg j (by omega)
  ·clear k
   unfold rE at hJ
   rw [bU (by omega) (by omega)]
   refine ac (fun e=>fK ⟨_,rfl,?_⟩) (fun e=>?_)
   ·rw [if_pos (by simpa using e)]at hJ
    refine ac (fun e2=>?_) (fun e2=>ac (fun e3=>?_) (fun e3=>?_))
    ·exact fI (J:=fun b=>J b h') (by simpa using e2) hJ
    ·simp at e e3;omega
    ·exact fI (J:=fun b=>J b h') (by simpa using e2) hJ
   ·rw [if_neg (by simpa using e)]at hJ
    refine ac (fun e2=>?_) (fun e2=>?_)
    ·exact fI (J:=fun b=>J b h') (by rw [Bool.eq_iff_iff];simp) hJ
    ·simp at e e2;omega
 ·refine aE (by simp;omega) ?_
  rw [Ew hp (fun j hj=>hg j (by omega))]at k
  simp only [vm,rd,aq f1',xq]
  refine ap (fun J=>J (decide (n.kind=30\/n.kind=31\/n.kind=32\/n.kind=34))) ?_ (fun J hJ=>?_)
  rotate_left
  ·clear k;repeat' (first|(with_reducible first|refine aM (b:=true) rfl ?_|refine aE (b:=false) rfl ?_|refine ac (fun _=>?_) fun _=>?_)|(refine fI ?_ hJ))
   all_goals (clear hJ;(exact vg))
  have hnm: ∀{R':Value->Hp->Prop},R' (.bool (fU n.kind)) h'->dk #[I n.kind] h' R':=HW
  have hin: ∀{R':Value->Hp->Prop},R' (.bool (gf n.name)) h'->ji #[.string n.name] h' R':=fun k=>CX k (by omega)
  generalize fU n.kind=g at*
  generalize gf n.name=q at*
  repeat' (first|(with_reducible first|refine aM (b:=true) rfl ?_|refine aE (b:=false) rfl ?_|refine ac (fun _=>?_) fun _=>?_)|(with_reducible refine hnm ⟨_,rfl,?_⟩)|(with_reducible refine hin ⟨_,rfl,?_⟩)|(with_reducible refine VG f1' rfl ?_)|(with_reducible refine Wt f1' rfl ?_)|(refine⟨_,l12,dt ?_ k⟩;clear k hnm hin hn hg f1 f2 f1' l1 l2 l12 hb hb2;first|(simp_all;done)|(cases g<;>cases q<;>simp_all<;>done)))
theorem IX {h:Hp} {n:NodeP} {s:Sl} {R:Value->Hp->Prop} (hlen:s.n<=4611686018427387904)
  (k:R (.bool (fk s.n n)) h):q8 #[s.v,Ex n] h R:=by
 refine ACalls.drop (E5 ?_)
 refine uf_ ?_
 refine aj fun b h1 hb l1 f1=>?_
 simp only [vm,rd,aq f1]
 refine lz ⟨_,rfl,ac (fun e=>⟨_,l1,dt ?_ k⟩) (fun e=>?_)⟩
 ·rw [pQ,decide_eq_false (by simp at e;omega)];simp
 have hp:0<=ar n.kind:=by simp at e;omega
 simp only [vm,rd,aq f1]
 refine aj fun b2 h2 hb2 l2 f2=>?_
 have f1':=l2 _ _ f1
 have l12:=Hp.le_trans l1 l2
 refine av 3 (fun i vs h'=>(∀j:Nat,j<i->rE (ar n.kind) s.n j (aW n j)=true)/\vs= [s.v, .pointer (some ⟨b,0,none⟩),I (ar n.kind), .slice (some ⟨b2,0,none⟩) 3 3,I i]/\h'=h2) ⟨fun j hj=>by omega,rfl,rfl⟩ ?_
 rintro i _ h' next hi ⟨hg,rfl,rfl⟩ hn
 refine⟨_,_,_,_,⟨_,_,_⟩,_,rfl,?_⟩
 by_cases hlt:i<3
 ·refine aM (by simp;omega) ?_
  simp only [vm,pz f2 hlt]
  refine ap (fun J=>J (!(rE (ar n.kind) s.n i (aW n i))) h') ?_ (fun J hJ=>?_)
  ·refine ac (fun e=>⟨_,l12,dt ?_ k⟩) (fun e=>?_)
   ·rw [J7 hlt (by simpa using e)]
   ·rw [aC (by omega)]
    refine hn hlt _ _ ⟨fun j hj=>?_,rfl,rfl⟩
    by_cases hji:j=i
    ·subst hji;simpa using e
    ·exact hg j (by omega)
  ·clear k
   unfold rE at hJ
   rw [bU (by omega) (by omega)]
   refine ac (fun e=>⟨by omega,dH ⟨_,rfl,?_⟩⟩) (fun e=>?_)
   ·rw [if_pos (by simpa using e)]at hJ
    refine ac (fun e2=>?_) (fun e2=>ac (fun e3=>?_) (fun e3=>?_))
    ·exact fI (J:=fun b=>J b h') (by simpa using e2) hJ
    ·simp at e e3;omega
    ·exact fI (J:=fun b=>J b h') (by simpa using e2) hJ
   ·rw [if_neg (by simpa using e)]at hJ
    refine ac (fun e2=>?_) (fun e2=>?_)
    ·refine⟨by omega,?_⟩
     exact fI (J:=fun b=>J b h') (by rw [Bool.eq_iff_iff];simp) hJ
    ·simp at e e2;omega
 ·refine aE (by simp;omega) ?_
  rw [Ew hp (fun j hj=>hg j (by omega))]at k
  simp only [vm,rd,aq f1',xq]
  refine ap (fun J=>J (fU n.kind)) ?_ (fun J hJ=>?_)
  rotate_left
  ·clear k;unfold fU at hJ;repeat' (first|(with_reducible first|refine aM (b:=true) rfl ?_|refine aE (b:=false) rfl ?_|refine ac (fun _=>?_) fun _=>?_)|(refine fI ?_ hJ))
   all_goals (clear hJ;(exact vg))
  have hin: ∀{R':Value->Hp->Prop},R' (.bool (gf n.name)) h'->qg #[.string n.name] h' R':=Dy
  have hno:gf n.name=true-> ¬n.name.size=0:=fun e=>by have:=(qz.1 e).1;omega
  generalize fU n.kind=g at*
  generalize gf n.name=q at*
  simp only [ey]
  repeat' (first|(with_reducible first|refine aM (b:=true) rfl ?_|refine aE (b:=false) rfl ?_|refine ac (fun _=>?_) fun _=>?_)|(with_reducible refine hin ⟨_,rfl,?_⟩)|(with_reducible refine VG f1' rfl ?_)|(with_reducible refine Wt f1' rfl ?_)|(refine⟨_,l12,dt ?_ k⟩;clear k hin hn hg f1 f2 f1' l1 l2 l12 hb hb2;first|(simp_all;done)|(cases g<;>cases q<;>simp_all<;>done)|(rw [Bool.eq_iff_iff];cases g<;>cases q<;>simp_all<;>done)))
theorem bZ {h h0:Hp} {b z o m:Nat} {cs vs:List Value} {P:Hp->Prop} (f:h b=some (.inl ⟨cs,z,false⟩)) (l:h0.le h) (hb:h0 b=none) (hl:m<=cs.length)
  (k: ∀h',h' b=some (.inl ⟨cA cs o vs,z,false⟩)->(∀c,c≠b->h' c=h c)->h0.le h'->P h'):
  ∃(cs':List Value) (z':Nat),h b=some (.inl ⟨cs',z',false⟩)/\m<=List.length cs'/\cz (h.row b (cA cs' o vs) z') fun h'=>P h':=
 ⟨cs,z,f,hl,k _ (bM _ _ _ _) (fun c e=>bX _ _ e) (eo _ _ hb l)⟩
theorem acc {h h':Hp} {b c:Nat} {P:Prop} (kp: ∀c,c≠b->h' c=h c) (e:c≠b) (k:P):h' c=h c/\P:=⟨kp c e,k⟩
theorem aaM {α:Type} {c:α->Value} {h:Hp} {b z o:Nat} {cs:List Value} {ro:Bool} {x:α} {P:α->Prop} (f:h b=some (.inl ⟨cs,z,ro⟩)) (q:cs[o]?=some (c x)) (k:P x): ∃y:α,Hp.cell h b o=some (c y)/\P y:=⟨x,by rw [aq f];exact q,k⟩
theorem az {P Q:Prop} (k:Q) (h:Q->P:=by(first
 |((with_reducible apply aaM);(assumption);(exact rfl))
 |with_reducible exact And.intro (Eq.refl _)
 |with_reducible exact And.intro True.intro
 |((with_reducible apply acc);(assumption);(assumption))
 |fail)):P:=h k
def Res (o:Option SortP) (t:SortP) (c:Bool):Prop:=o=if c then some t else none
theorem iY (a b:SortP):(a=b)=(a.idx=b.idx/\a.wid=b.wid):=by
 rcases a with ⟨i,w⟩;rcases b with ⟨j,v⟩;simp
theorem nR {P:Prop} [Decidable P] {t t':SortP} {q:Bool} (h1:q=decide P) (h2:P->t=t'):Res (if P then some t else none) t' q:=by
 unfold Res;subst h1
 by_cases h:P
 ·simp [h,h2 h]
 ·simp [h]
theorem ib {a b:Int} (e:(a !=b)=true): ¬a=b:=by simpa using e
theorem fV {a b:Int} (e:(a !=b)=false):a=b:=by simpa using e
theorem F7 (n:NodeP) (a b c:SortP):di n a b c=
 (if n.kind=33 then(if(a.idx=0/\a.wid=1)/\b.idx=c.idx/\b.wid=c.wid then some b else none)else
 if n.kind=37 then(if 0<a.idx/\b.idx=0/\b.wid=a.idx then some ⟨0,a.wid⟩else none)else
 if n.kind=38 then(if 0<a.idx/\(b.idx=0/\b.wid=a.idx)/\c.idx=0/\c.wid=a.wid then some a else none)else
 if n.kind=21 then(if a.idx=b.idx/\a.wid=b.wid then some ⟨0,1⟩else none)else
 if 0<a.idx\/(ar n.kind=2/\0<b.idx)then none else
 if n.kind=29 then(if a.wid+b.wid<=16 then some ⟨0,a.wid+b.wid⟩else none)else
 if n.kind=30 then(if(0<=n.n/\n.n<=a.wid-1)/\0<=n.m/\n.m<=n.n then some ⟨0,n.n-n.m+1⟩else none)else
 if n.kind=31\/n.kind=32 then(if 0<=n.n/\n.n<=16-a.wid then some ⟨0,a.wid+n.n⟩else none)else
 if n.kind<=5 then some ⟨0,if n.kind<=2 then a.wid else 1⟩else
 if a.idx=b.idx/\a.wid=b.wid then some ⟨0,if n.kind<=20 then a.wid else 1⟩else none):=by
 unfold di cF
 simp only [iY]
def lK (n:NodeP) (a b c:SortP):Option SortP:=
 if n.kind=35\/n.kind=36 then(if bT n.sort then some n.sort else none)else
 if n.kind=34 then(if decide (n.sort.idx=0)&&jf n.sort.wid n.n then some n.sort else none)else di n a b c
theorem MQ {h:Hp} {n:NodeP} {a b c:SortP} {R:Value->Hp->Prop} (ha:0<ar n.kind->bT a=true) (hb:bT b=true\/b=⟨0,0⟩) (hc:bT c=true\/c=⟨0,0⟩) (hp:0<=ar n.kind)
  (hb2:ar n.kind<2->b=⟨0,0⟩)
  (k: ∀t q,Res (lK n a b c) t q->R (.tuple #[uQ t, .bool q]) h):mZ #[Ex n,uQ a,uQ b,uQ c] h R:=by
 refine ACalls.drop (AR ?_)
 refine uf_ ?_
 refine aj fun b17 h1 hb17 l1 f17=>?_
 refine aj fun b19 h2 hb19 l2 f19=>?_
 refine aj fun b21 h3 hb21 l3 f21=>?_
 refine aj fun b23 h4 hb23 l4 f23=>?_
 refine aj fun b25 h5 hb25 l5 f25=>?_
 replace f17:=l4 _ _ (l3 _ _ (l2 _ _ f17))
 replace f19:=l4 _ _ (l3 _ _ f19)
 replace f21:=l4 _ _ f21
 have n17:=fresh_ne hb25 f17
 have n19:=fresh_ne hb25 f19
 have n21:=fresh_ne hb25 f21
 have n23:=fresh_ne hb25 f23
 replace f17:=l5 _ _ f17
 replace f19:=l5 _ _ f19
 replace f21:=l5 _ _ f21
 replace f23:=l5 _ _ f23
 have l:h.le h5:=Hp.le_trans l1 (Hp.le_trans l2 (Hp.le_trans l3 (Hp.le_trans l4 l5)))
 have b0:h b25=none:=aF (Hp.le_trans l1 (Hp.le_trans l2 (Hp.le_trans l3 l4))) hb25
 clear hb17 hb19 hb21 hb23 hb25 l1 l2 l3 l4 l5
 have lf: ∀{h'':Hp} {t:SortP} {q:Bool},h.le h''->Res (lK n a b c) t q-> ∃h':Hp,h'.le h''/\R (.tuple #[.agg #[I t.idx,I t.wid], .bool q]) h':=fun l e=>⟨_,l,k _ _ e⟩
 clear k
 (refine az ?_)
 refine ap (fun J=>J (decide (n.kind=35\/n.kind=36))) ?_ (fun J hJ=>?_)
 rotate_left
 ·repeat' (first|(with_reducible first|refine aM (b:=true) rfl ?_|refine aE (b:=false) rfl ?_|refine ac (fun _=>?_) fun _=>?_)|(refine fI ?_ hJ))
  all_goals (clear hJ;(exact vg))
 refine ac (fun e=>?_) (fun e=>?_)
 ·repeat' (refine az ?_)
  refine pC ⟨_,rfl,?_⟩
  (refine az ?_)
  refine bZ f25 l b0 (by decide) fun h6 f6 kp6 l6=>?_
  repeat' (refine az ?_)
  refine lf (t:=n.sort) l6 ?_
  unfold Res lK
  rw [if_pos (of_decide_eq_true e)]
 have e35:=of_decide_eq_false e
 refine ac (fun e=>?_) (fun e=>?_)
 ·have e34:=bV e
  simp only [ey]
  repeat' (refine az ?_)
  refine ac (fun e=>?_) (fun e=>?_)
  ·repeat' (refine az ?_)
   refine CQ ⟨_,rfl,?_⟩
   (refine az ?_)
   refine bZ f25 l b0 (by decide) fun h6 f6 kp6 l6=>?_
   repeat' (refine az ?_)
   refine lf (t:=n.sort) l6 ?_
   unfold Res lK
   rw [if_neg e35,if_pos e34,decide_eq_true (bV e),Bool.true_and]
  ·(refine az ?_)
   refine bZ f25 l b0 (by decide) fun h6 f6 kp6 l6=>?_
   repeat' (refine az ?_)
   refine lf (t:=n.sort) l6 ?_
   unfold Res lK
   rw [if_neg e35,if_pos e34,decide_eq_false (bk e),Bool.false_and]
 have e34:=bk e
 have er:lK n a b c=di n a b c:=by unfold lK;rw [if_neg e35,if_neg e34]
 have hp1:0<ar n.kind:=by
  have:ar n.kind≠0:=by
   unfold ar;repeat' split
   all_goals first|omega|decide
  omega
 replace ha:=cd.1 (ha hp1)
 have wa1:W (a.wid-1)=a.wid-1:=bU (by omega) (by omega)
 have wa16:W (16-a.wid)=16-a.wid:=bU (by omega) (by omega)
 have wab:W (a.wid+b.wid)=a.wid+b.wid:=by
  have: -100<=b.wid/\b.wid<=16:=by
   rcases hb with h|h
   ·have:=cd.1 h;omega
   ·rw [h];decide
  exact bU (by omega) (by omega)
 rw [er]at lf
 clear er
 rw [F7]at lf
 (with_reducible first|refine aM (b:=true) rfl ?_|refine aE (b:=false) rfl ?_|refine ac (fun _=>?_) fun _=>?_)
 ·rw [if_pos (bV (by assumption))]at lf
  simp only [ey]
  ((repeat' (first|(with_reducible first|refine aM (b:=true) rfl ?_|refine aE (b:=false) rfl ?_|refine ac (fun _=>?_) fun _=>?_)|(refine az ?_)|(with_reducible refine dl ⟨_,_,rfl,?_⟩)|(with_reducible refine fK ⟨_,rfl,?_⟩)|((with_reducible apply bZ);(assumption);(exact l);(exact b0);(decide);(intro _ _ _ _))|(refine lf (t:=⟨_,_⟩) (by assumption) ?_;clear lf l b0;((unfold Res;(try simp only [cF,iY,Bool.and_true,Bool.and_eq_false_iff,Bool.or_eq_false_iff]at*);((try simp only [decide_eq_true_eq,decide_eq_false_iff_not,beq_iff_eq,beq_eq_false_iff_ne,bne_iff_ne,bne_eq_false_iff_eq,ne_eq,Bool.not_eq_true',Bool.not_eq_false',Bool.and_eq_true,Bool.or_eq_true,Bool.true_and,Bool.false_and,Bool.and_true,Bool.and_false,Bool.true_or,Bool.false_or,reduceCtorEq,iff_false,iff_true,false_iff,true_iff,Bool.not_true,Bool.not_false]at*));(repeat' split)<;>(first|rfl|contradiction|omega|(simp only [Option.some.injEq,SortP.mk.injEq,iY,Bool.true_eq_false];omega)|skip)))))))
 rw [if_neg (bk (by assumption))]at lf
 (with_reducible first|refine aM (b:=true) rfl ?_|refine aE (b:=false) rfl ?_|refine ac (fun _=>?_) fun _=>?_)
 ·((repeat' (first|(with_reducible first|refine aM (b:=true) rfl ?_|refine aE (b:=false) rfl ?_|refine ac (fun _=>?_) fun _=>?_)|(refine az ?_)|(with_reducible refine dl ⟨_,_,rfl,?_⟩)|(with_reducible refine fK ⟨_,rfl,?_⟩)|((with_reducible apply bZ);(assumption);(exact l);(exact b0);(decide);(intro _ _ _ _))|(refine lf (t:=⟨_,_⟩) (by assumption) ?_;clear lf l b0;((unfold Res;(try simp only [cF,iY,Bool.and_true,Bool.and_eq_false_iff,Bool.or_eq_false_iff]at*);((try simp only [decide_eq_true_eq,decide_eq_false_iff_not,beq_iff_eq,beq_eq_false_iff_ne,bne_iff_ne,bne_eq_false_iff_eq,ne_eq,Bool.not_eq_true',Bool.not_eq_false',Bool.and_eq_true,Bool.or_eq_true,Bool.true_and,Bool.false_and,Bool.and_true,Bool.and_false,Bool.true_or,Bool.false_or,reduceCtorEq,iff_false,iff_true,false_iff,true_iff,Bool.not_true,Bool.not_false]at*));(repeat' split)<;>(first|rfl|contradiction|omega|(simp only [Option.some.injEq,SortP.mk.injEq,iY,Bool.true_eq_false];omega)|skip)))))))
 have e21:=bk (by assumption)
 (with_reducible first|refine aM (b:=true) rfl ?_|refine aE (b:=false) rfl ?_|refine ac (fun _=>?_) fun _=>?_)
 ·rw [if_pos (bV (by assumption))]at lf
  simp only [ey]
  ((repeat' (first|(with_reducible first|refine aM (b:=true) rfl ?_|refine aE (b:=false) rfl ?_|refine ac (fun _=>?_) fun _=>?_)|(refine az ?_)|(with_reducible refine dl ⟨_,_,rfl,?_⟩)|(with_reducible refine fK ⟨_,rfl,?_⟩)|((with_reducible apply bZ);(assumption);(exact l);(exact b0);(decide);(intro _ _ _ _))|(refine lf (t:=⟨_,_⟩) (by assumption) ?_;clear lf l b0;((unfold Res;(try simp only [cF,iY,Bool.and_true,Bool.and_eq_false_iff,Bool.or_eq_false_iff]at*);((try simp only [decide_eq_true_eq,decide_eq_false_iff_not,beq_iff_eq,beq_eq_false_iff_ne,bne_iff_ne,bne_eq_false_iff_eq,ne_eq,Bool.not_eq_true',Bool.not_eq_false',Bool.and_eq_true,Bool.or_eq_true,Bool.true_and,Bool.false_and,Bool.and_true,Bool.and_false,Bool.true_or,Bool.false_or,reduceCtorEq,iff_false,iff_true,false_iff,true_iff,Bool.not_true,Bool.not_false]at*));(repeat' split)<;>(first|rfl|contradiction|omega|(simp only [Option.some.injEq,SortP.mk.injEq,iY,Bool.true_eq_false];omega)|skip)))))))
 rw [if_neg (bk (by assumption))]at lf
 (with_reducible first|refine aM (b:=true) rfl ?_|refine aE (b:=false) rfl ?_|refine ac (fun _=>?_) fun _=>?_)
 ·rw [if_pos (bV (by assumption))]at lf
  simp only [ey]
  ((repeat' (first|(with_reducible first|refine aM (b:=true) rfl ?_|refine aE (b:=false) rfl ?_|refine ac (fun _=>?_) fun _=>?_)|(refine az ?_)|(with_reducible refine dl ⟨_,_,rfl,?_⟩)|(with_reducible refine fK ⟨_,rfl,?_⟩)|((with_reducible apply bZ);(assumption);(exact l);(exact b0);(decide);(intro _ _ _ _))|(refine lf (t:=⟨_,_⟩) (by assumption) ?_;clear lf l b0;((unfold Res;(try simp only [cF,iY,Bool.and_true,Bool.and_eq_false_iff,Bool.or_eq_false_iff]at*);((try simp only [decide_eq_true_eq,decide_eq_false_iff_not,beq_iff_eq,beq_eq_false_iff_ne,bne_iff_ne,bne_eq_false_iff_eq,ne_eq,Bool.not_eq_true',Bool.not_eq_false',Bool.and_eq_true,Bool.or_eq_true,Bool.true_and,Bool.false_and,Bool.and_true,Bool.and_false,Bool.true_or,Bool.false_or,reduceCtorEq,iff_false,iff_true,false_iff,true_iff,Bool.not_true,Bool.not_false]at*));(repeat' split)<;>(first|rfl|contradiction|omega|(simp only [Option.some.injEq,SortP.mk.injEq,iY,Bool.true_eq_false];omega)|skip)))))))
 rw [if_neg (bk (by assumption)),if_neg e21]at lf
 have n33: ¬n.kind=33:=bk (by assumption)
 have n37: ¬n.kind=37:=bk (by assumption)
 have n38: ¬n.kind=38:=bk (by assumption)
 have hbi:0<=b.idx/\b.wid<=16/\0<=b.wid:=by
  rcases hb with h|h
  ·have:=cd.1 h;omega
  ·rw [h];decide
 have p12:ar n.kind=1\/ar n.kind=2:=by
  rcases rM n.kind with h|h|h|h|h
  ·omega
  ·exact .inl h
  ·exact .inr h
  ·exfalso;revert h;unfold ar;(repeat' split)<;>first|omega|(intro h;omega)
  ·omega
 have hb1:ar n.kind=1->b.idx=0:=fun h=>by rw [hb2 (by omega)]
 clear hb hc hb2
 refine ap (fun J=>J (decide (0<a.idx\/(ar n.kind=2/\0<b.idx)))) ?_ (fun J hJ=>?_)
 rotate_left
 ·(refine az ?_)
  (with_reducible first|refine aM (b:=true) rfl ?_|refine aE (b:=false) rfl ?_|refine ac (fun _=>?_) fun _=>?_)
  ·refine fI ?_ hJ;clear hJ;have:=ib (by assumption);rw [eq_comm,decide_eq_true_eq];omega
  (refine az ?_)
  refine fI ?_ hJ;clear hJ
  have:a.idx=0:=fV (by assumption)
  rw [Bool.eq_iff_iff,bne_iff_ne,decide_eq_true_eq];omega
 refine ac (fun e=>?_) (fun e=>?_)
 ·rw [if_pos (of_decide_eq_true e)]at lf
  ((repeat' (first|(with_reducible first|refine aM (b:=true) rfl ?_|refine aE (b:=false) rfl ?_|refine ac (fun _=>?_) fun _=>?_)|(refine az ?_)|(with_reducible refine dl ⟨_,_,rfl,?_⟩)|(with_reducible refine fK ⟨_,rfl,?_⟩)|((with_reducible apply bZ);(assumption);(exact l);(exact b0);(decide);(intro _ _ _ _))|(refine lf (t:=⟨_,_⟩) (by assumption) ?_;clear lf l b0;((unfold Res;(try simp only [cF,iY,Bool.and_true,Bool.and_eq_false_iff,Bool.or_eq_false_iff]at*);((try simp only [decide_eq_true_eq,decide_eq_false_iff_not,beq_iff_eq,beq_eq_false_iff_ne,bne_iff_ne,bne_eq_false_iff_eq,ne_eq,Bool.not_eq_true',Bool.not_eq_false',Bool.and_eq_true,Bool.or_eq_true,Bool.true_and,Bool.false_and,Bool.and_true,Bool.and_false,Bool.true_or,Bool.false_or,reduceCtorEq,iff_false,iff_true,false_iff,true_iff,Bool.not_true,Bool.not_false]at*));(repeat' split)<;>(first|rfl|contradiction|omega|(simp only [Option.some.injEq,SortP.mk.injEq,iY,Bool.true_eq_false];omega)|skip)))))))
 rw [if_neg (of_decide_eq_false e)]at lf
 replace e:=of_decide_eq_false e
 refine ap (fun J=>J (decide (n.kind=1\/n.kind=2))) ?_ (fun J hJ=>?_)
 rotate_left
 ·repeat' (first|(with_reducible first|refine aM (b:=true) rfl ?_|refine aE (b:=false) rfl ?_|refine ac (fun _=>?_) fun _=>?_)|(refine az ?_)|(refine fI ?_ hJ))
  all_goals (clear hJ;(exact vg))
 refine ac (fun e1=>?_) (fun e1=>?_)
 ·replace e1:=of_decide_eq_true e1
  rw [if_neg (by omega),if_neg (by omega),if_neg (by omega),if_pos (by omega),if_pos (by omega)]at lf
  repeat' (refine az ?_)
  (with_reducible apply bZ);(assumption);(exact l);(exact b0);(decide);intro _ _ _ _
  repeat' (refine az ?_)
  refine lf (t:=⟨_,_⟩) (by assumption) ?_
  rw [show a.idx=0 by omega];rfl
 replace e1:=of_decide_eq_false e1
 (refine az ?_)
 refine fK ⟨_,rfl,ac (fun e2=>?_) (fun e2=>?_)⟩
 ·replace e2:=of_decide_eq_true e2
  rw [if_neg (by omega),if_neg (by omega),if_neg (by omega),if_pos (by omega),if_neg (by omega)]at lf
  refine dl ⟨_,_,rfl,?_⟩
  (with_reducible apply bZ);(assumption);(exact l);(exact b0);(decide);intro _ _ _ _
  repeat' (refine az ?_)
  exact lf (t:=⟨_,_⟩) (by assumption) rfl
 replace e2:=of_decide_eq_false e2
 (refine az ?_)
 refine ac (fun e3=>?_) (fun e3=>?_)
 ·replace e3:=bV e3
  rw [if_neg (by omega),if_pos e3]at lf
  simp only [ey]
  repeat' (refine az ?_)
  refine dl ⟨_,_,rfl,?_⟩
  repeat' (refine az ?_)
  refine fK ⟨_,rfl,?_⟩
  rw [wa1]
  refine ac (fun e4=>?_) (fun e4=>?_)
  ·repeat' (refine az ?_)
   refine fK ⟨_,rfl,?_⟩
   (with_reducible apply bZ);(assumption);(exact l);(exact b0);(decide);intro _ _ _ _
   repeat' (refine az ?_)
   refine lf (t:=⟨_,_⟩) (by assumption) (nR ?_ ?_)
   ·rw [decide_eq_decide];exact⟨fun h=>⟨of_decide_eq_true e4,h⟩,fun h=>h.2⟩
   ·intro h
    rw [bU (n:=n.n-n.m) (by omega) (by omega),bU (by omega) (by omega)]
  ·(with_reducible apply bZ);(assumption);(exact l);(exact b0);(decide);intro _ _ _ _
   repeat' (refine az ?_)
   refine lf (t:=⟨_,_⟩) (by assumption) (nR ?_ ?_)
   ·symm;rw [decide_eq_false_iff_not];exact fun h=>of_decide_eq_false e4 h.1
   ·exact fun h=>absurd h.1 (of_decide_eq_false e4)
 replace e3:=bk e3
 refine ap (fun J=>J (decide (n.kind=31\/n.kind=32))) ?_ (fun J hJ=>?_)
 rotate_left
 ·repeat' (first|(with_reducible first|refine aM (b:=true) rfl ?_|refine aE (b:=false) rfl ?_|refine ac (fun _=>?_) fun _=>?_)|(refine az ?_)|(refine fI ?_ hJ))
  all_goals (clear hJ;(exact vg))
 refine ac (fun e4=>?_) (fun e4=>?_)
 ·replace e4:=of_decide_eq_true e4
  rw [if_neg (by omega),if_neg (by omega),if_pos (by omega)]at lf
  repeat' (refine az ?_)
  refine dl ⟨_,_,rfl,?_⟩
  repeat' (refine az ?_)
  refine fK ⟨_,rfl,?_⟩
  rw [wa16]
  (with_reducible apply bZ);(assumption);(exact l);(exact b0);(decide);intro _ _ _ _
  repeat' (refine az ?_)
  refine lf (t:=⟨_,_⟩) (by assumption) (nR rfl ?_)
  ·intro h
   show _=SortP.mk 0 _
   rw [bU (by omega) (by omega)]
 replace e4:=of_decide_eq_false e4
 (refine az ?_)
 refine ac (fun e5=>?_) (fun e5=>?_)
 ·replace e5:=bV e5
  rw [if_pos e5]at lf
  repeat' (refine az ?_)
  refine dl ⟨_,_,rfl,?_⟩
  repeat' (refine az ?_)
  (with_reducible apply bZ);(assumption);(exact l);(exact b0);(decide);intro _ _ _ _
  repeat' (refine az ?_)
  refine lf (t:=⟨_,_⟩) (by assumption) (nR (by rw [wab]) ?_)
  ·intro h
   show _=SortP.mk 0 _
   rw [wab]
 replace e5:=bk e5
 have k5: ¬n.kind<=5:=by
  intro h
  have:ar n.kind= -1:=by unfold ar;(repeat' split)<;>omega
  omega
 rw [if_neg (by omega),if_neg (by omega),if_neg (by omega),if_neg (by omega)]at lf
 (refine az ?_)
 refine fK ⟨_,rfl,ac (fun e6=>?_) (fun e6=>?_)⟩
 ·replace e6:=of_decide_eq_true e6
  rw [if_neg (show¬n.kind<=20 by omega)]at lf
  repeat' (refine az ?_)
  refine dl ⟨_,_,rfl,?_⟩
  repeat' (refine az ?_)
  (with_reducible apply bZ);(assumption);(exact l);(exact b0);(decide);intro _ _ _ _
  repeat' (refine az ?_)
  refine lf (t:=⟨_,_⟩) (by assumption) (nR ?_ ?_)
  ·rw [Bool.eq_iff_iff];simp
  ·intro h;rfl
 replace e6:=of_decide_eq_false e6
 have k20:n.kind<=20:=by
  by_cases h20:n.kind<=20
  ·exact h20
  ·have:ar n.kind= -1\/ar n.kind=0:=by unfold ar;(repeat' split)<;>omega
   omega
 rw [if_pos k20]at lf
 repeat' (refine az ?_)
 (with_reducible apply bZ);(assumption);(exact l);(exact b0);(decide);intro _ _ _ _
 repeat' (refine az ?_)
 refine lf (t:=⟨_,_⟩) (by assumption) (nR ?_ ?_)
 ·rw [Bool.eq_iff_iff];simp
 ·intro h;rw [show a.idx=0 by omega]
abbrev nodeCells (n:NodeP):List Value:= [I n.kind,I n.a,I n.b,I n.c,I n.n,I n.m,I n.sort.idx,I n.sort.wid, .string n.name]
def jr (h:Hp) (s:Sl) (l:List NodeP):Prop:=SlC h s 9 (l.flatMap nodeCells)
theorem jr.mono {h h':Hp} {s:Sl} {l:List NodeP} (le:h.le h') (e:jr h s l):jr h' s l:=SlC.mono le e
theorem eV {α:Type} {f:α->List Value} {m:Nat} (hf: ∀x,(f x).length=m) (l:List α):(l.flatMap f).length=l.length*m:=by
 induction l with
 |nil=>simp
 |cons x l ih=>rw [List.flatMap_cons,List.length_append,ih,hf,List.length_cons,Nat.succ_mul];omega
theorem sC {α:Type} {f:α->List Value} {m:Nat} (hf: ∀x,(f x).length=m) (l:List α): ∀(i:Nat) (x:α) (j:Nat),l[i]?=some x->j<m->(l.flatMap f)[i*m+j]?=(f x)[j]?:=by
 induction l with
 |nil=>intro i x j h;simp at h
 |cons y l ih=>
  intro i x j h hj
  rw [List.flatMap_cons]
  cases i with
  |zero=>
   simp at h;subst h
   rw [Nat.zero_mul,Nat.zero_add,List.getElem?_append_left (by rw [hf];exact hj)]
  |succ i=>
   simp at h
   have e:(i+1)*m+j=m+(i*m+j):=by rw [Nat.succ_mul];omega
   rw [List.getElem?_append_right (by rw [hf,e];omega),hf,e,Nat.add_sub_cancel_left]
   exact ih i x j h hj
theorem jr.len {h:Hp} {s:Sl} {l:List NodeP} (e:jr h s l):s.n=l.length:=by
 have:=e.2.1
 rw [eV (m:=9) (fun _=>rfl)]at this;omega
theorem jr.at {h:Hp} {s:Sl} {l:List NodeP} (e:jr h s l) {i:Nat} {n:NodeP} (hi:l[i]?=some n):
  ∃b o,s.a=some (Addr.mk b o none)/\Hp.cell h b (o+i*9)=some (I n.kind)/\Hp.cell h b ((o+i*9)+1)=some (I n.a)/\Hp.cell h b ((o+i*9)+2)=some (I n.b)/\
   Hp.cell h b ((o+i*9)+3)=some (I n.c)/\Hp.cell h b ((o+i*9)+4)=some (I n.n)/\Hp.cell h b ((o+i*9)+5)=some (I n.m)/\
   Hp.cell h b ((o+i*9)+6)=some (I n.sort.idx)/\Hp.cell h b ((o+i*9)+7)=some (I n.sort.wid)/\Hp.cell h b ((o+i*9)+8)=some (.string n.name):=by
 have hl:=e.len
 have hlt:i<l.length:=by
  rcases Nat.lt_or_ge i l.length with h|h
  ·exact h
  ·rw [List.getElem?_eq_none h]at hi;cases hi
 obtain⟨b,o,ha,hc⟩:=SlC.get e (by omega)
 have g: ∀j v,j<9->(nodeCells n)[j]?=some v->Hp.cell h b ((o+i*9)+j)=some v:=fun j v hj hv=>by
  rw [Nat.add_assoc]
  refine hc _ _ ?_
  rw [sC (m:=9) (fun _=>rfl) l i n j hi hj];exact hv
 exact⟨b,o,ha,g 0 _ (by omega) rfl,g 1 _ (by omega) rfl,g 2 _ (by omega) rfl,g 3 _ (by omega) rfl,g 4 _ (by omega) rfl,g 5 _ (by omega) rfl,g 6 _ (by omega) rfl,g 7 _ (by omega) rfl,g 8 _ (by omega) rfl⟩
theorem cL {h h1 h':Hp} {b:Nat} (hb:h b=none) (l:h.le h1) (kp: ∀c,c≠b->h' c=h1 c):h.le h':=fun c x e=>by
 rw [kp c (fresh_ne hb e)];exact l _ _ e
theorem qn {l:List NodeP} {p:Int} {n:NodeP} (h:l[p.toNat]?=some n):aA l p=n.sort:=by unfold aA;rw [h]
def G5 (o:Option SortP):Value:=match o with|some t=> .tuple #[uQ t, .bool true]|none=> .tuple #[uQ ⟨0,0⟩, .bool false]
def dF (l:List NodeP) (n:NodeP) (i j:Nat):SortP:=if j<i then aA l (aW n j)else⟨0,0⟩
def AO (l:List NodeP) (n:NodeP) (i:Nat):List Value:=
 [I (dF l n i 0).idx,I (dF l n i 0).wid,I (dF l n i 1).idx,I (dF l n i 1).wid,I (dF l n i 2).idx,I (dF l n i 2).wid]
theorem OB {l:List NodeP} {n:NodeP} {i:Nat} (hi:i<3):cA (AO l n i) (i*2) [I (aA l (aW n i)).idx,I (aA l (aW n i)).wid]=AO l n (i+1):=by
 obtain rfl|rfl|rfl:i=0\/i=1\/i=2:=by omega
 all_goals rfl
theorem kN {len:Nat} {n:NodeP} (e:fk len n=true) {i:Nat} (h3:i<3) (hi:(i:Int)<ar n.kind):0<=aW n i/\aW n i<len:=by
 rw [pQ]at e
 simp only [Bool.and_eq_true]at e
 have key: ∀p:Int,rE (ar n.kind) len i p=true->0<=p/\p<len:=fun p hp=>by
  unfold rE at hp;rw [if_pos hi]at hp;simp at hp;omega
 obtain rfl|rfl|rfl:i=0\/i=1\/i=2:=by omega
 ·exact key _ e.1.1.1.2.1.1
 ·exact key _ e.1.1.1.2.1.2
 ·exact key _ e.1.1.1.2.2
theorem hE {len:Nat} {n:NodeP} (e:fk len n=true):0<=ar n.kind:=by
 rw [pQ]at e
 simp only [Bool.and_eq_true,decide_eq_true_eq]at e
 exact e.1.1.1.1
theorem iR (k:Int):ar k<=3:=by rcases rM k with h|h|h|h|h<;>omega
def Lu (l:List NodeP) (n:NodeP):Prop:= ∀i:Nat,i<3->(i:Int)<ar n.kind->bT (aA l (aW n i))=true
theorem P1 {n:NodeP} {a b c:SortP} (h:ar n.kind=1):di n a b c=di n a ⟨0,0⟩ ⟨0,0⟩:=by
 have k33:n.kind≠33/\n.kind≠37/\n.kind≠38/\n.kind≠21/\n.kind≠29:=by
  refine⟨?_,?_,?_,?_,?_⟩<;>(intro e;rw [e]at h;revert h;decide)
 have k6:n.kind=30\/n.kind=31\/n.kind=32\/n.kind<=5:=by
  have:(1<=n.kind/\n.kind<=5)\/(30<=n.kind/\n.kind<=32):=by
   unfold ar at h
   by_cases e:(1<=n.kind/\n.kind<=5)\/(30<=n.kind/\n.kind<=32)
   ·exact e
   ·rw [if_neg e]at h;revert h;(repeat' split)<;>(intro h;omega)
  omega
 unfold di
 obtain⟨a1,a2,a3,a4,a5⟩:=k33
 simp only [a1,a2,a3,a4,a5,h,if_false]
 rcases k6 with e|e|e|e
 ·simp only [e,if_true];simp
 ·simp only [e];simp
 ·simp only [e];simp
 ·simp only [show¬n.kind=30 by omega,show¬(n.kind=31\/n.kind=32) by omega,e,if_true,if_false];simp
theorem Ps {n:NodeP} {a b c:SortP} (h:ar n.kind=2):di n a b c=di n a b ⟨0,0⟩:=by
 have k33:n.kind≠33/\n.kind≠38:=by
  refine⟨?_,?_⟩<;>(intro e;rw [e]at h;revert h;decide)
 unfold di
 rw [if_neg k33.1,if_neg k33.1]
 simp only [k33.2,if_false]
theorem yg {l:List NodeP} {n:NodeP} (hl:l.length<=60) (hf:fk l.length n=true) (ho:Lu l n):
  cW l n=lK n (dF l n (ar n.kind).toNat 0) (dF l n (ar n.kind).toNat 1) (dF l n (ar n.kind).toNat 2):=by
 have hk:=hE hf
 unfold cW
 rw [if_pos ⟨hl,hf⟩]
 by_cases h0:ar n.kind=0
 ·rw [if_pos h0]
  have k3:n.kind=34\/n.kind=35\/n.kind=36:=by
   revert h0;unfold ar;(repeat' split)<;>(intro h;omega)
  unfold lK
  by_cases h34:n.kind=34
  ·rw [if_pos h34,if_neg (show¬(n.kind=35\/n.kind=36) by omega),if_pos h34]
  ·rw [if_neg h34,if_pos (show n.kind=35\/n.kind=36 by omega)]
 ·rw [if_neg h0]
  have hs:(bT (aA l n.a)&&((decide (ar n.kind<2)||bT (aA l n.b))&&(decide (ar n.kind<3)||bT (aA l n.c))))=true:=by
   have p0:=ho 0 (by omega) (by omega)
   have p1:=ho 1 (by omega)
   have p2:=ho 2 (by omega)
   simp only [aW]at p0 p1 p2
   simp only [Bool.and_eq_true,Bool.or_eq_true,decide_eq_true_eq]
   refine⟨p0,?_,?_⟩
   ·by_cases h:ar n.kind<2
    ·exact .inl h
    ·exact .inr (p1 (by omega))
   ·by_cases h:ar n.kind<3
    ·exact .inl h
    ·exact .inr (p2 (by omega))
  rw [if_pos hs]
  unfold lK
  have k3: ¬(n.kind=34\/n.kind=35\/n.kind=36):=by
   rintro (e|e|e)<;>(rw [e]at h0;exact h0 (by decide))
  rw [if_neg (show¬(n.kind=35\/n.kind=36) by omega),if_neg (show¬n.kind=34 by omega)]
  have hle:=iR n.kind
  obtain e|e|e:ar n.kind=1\/ar n.kind=2\/ar n.kind=3:=by omega
  ·rw [P1 e,P1 (b:=dF _ _ _ 1) e,e];rfl
  ·rw [Ps e,Ps (c:=dF _ _ _ 2) e,e];rfl
  ·rw [e];rfl
theorem Eu {l:List NodeP} {n:NodeP} {i:Nat} (h3:i<3) (hi:(i:Int)<ar n.kind) (ho:bT (aA l (aW n i))=false):cW l n=none:=by
 unfold cW
 split
 ·rw [if_neg (show¬ar n.kind=0 by omega)]
  have:(bT (aA l n.a)&&((decide (ar n.kind<2)||bT (aA l n.b))&&(decide (ar n.kind<3)||bT (aA l n.c))))=false:=by
   obtain rfl|rfl|rfl:i=0\/i=1\/i=2:=by omega
   ·simp only [aW]at ho;rw [ho];simp
   ·simp only [aW]at ho;rw [ho,decide_eq_false (show¬ar n.kind<2 by omega)];simp
   ·simp only [aW]at ho;rw [ho,decide_eq_false (show¬ar n.kind<3 by omega)];simp
  rw [if_neg (by rw [this];decide)]
 ·rfl
theorem Bz {l:List NodeP} {n:NodeP} (h: ¬(l.length<=60/\fk l.length n=true)):cW l n=none:=by
 unfold cW;rw [if_neg h]
theorem ck {h h':Hp} {b c:Nat} {x:Blk} (kp: ∀c,c≠b->h' c=h c) (e:c≠b) (f:h c=some x):h' c=some x:=by rw [kp c e];exact f
theorem Pf {l:List NodeP} {n:NodeP} {i:Nat} (hi:i<3):(AO l n (i+1))[i*2]?=some (I (aA l (aW n i)).idx)/\(AO l n (i+1))[i*2+1]?=some (I (aA l (aW n i)).wid):=by
 obtain rfl|rfl|rfl:i=0\/i=1\/i=2:=by omega
 all_goals exact⟨rfl,rfl⟩
theorem sr {h:Hp} {s:Sl} {l:List NodeP} {n:NodeP} {R:Value->Hp->Prop} (hs:jr h s l) (hsz:n.name.size<=1048576) (hl:l.length<=1048576)
  (k:R (G5 (cW l n)) h):iV #[s.v,Ex n] h R:=by
 refine ACalls.drop (Ft ?_)
 refine uf_ ?_
 have hn:=hs.len
 refine aj fun b12 h1 hb12 l1 f12=>?_
 refine aj fun b14 h2 hb14 l2 f14=>?_
 have n12:b12≠b14:=fresh_ne hb14 f12
 replace f12:=l2 _ _ f12
 have lh:h.le h2:=Hp.le_trans l1 l2
 have b14n:h b14=none:=aF l1 hb14
 have lf: ∀{h'':Hp} {v:Value},h.le h''->v=G5 (cW l n)-> ∃h':Hp,h'.le h''/\R v h':=fun l e=>⟨_,l,e▸k⟩
 clear k
 refine ap (fun J=>J (!(decide (l.length<=60)&&fk l.length n)) h2) ?_ (fun J hJ=>?_)
 rotate_left
 ·rw [<-hn]at hJ
  refine ac (fun e=>?_) (fun e=>?_)
  ·rw [decide_eq_false (by simp at e;omega),Bool.false_and]at hJ;exact hJ
  ·rw [decide_eq_true (by simp at e;omega),Bool.true_and]at hJ
   repeat' (refine az ?_)
   exact Nk (n:=n) (by omega) hsz ⟨_,rfl,hJ⟩
 refine ac (fun e=>?_) (fun e=>?_)
 ·(with_reducible apply bZ);(assumption);(exact lh);(exact b14n);(decide);intro _ _ _ _
  repeat' (refine az ?_)
  refine lf (by assumption) ?_
  rw [Bz (by intro hh;rw [decide_eq_true hh.1,hh.2]at e;cases e)];rfl
 have hh:l.length<=60/\fk l.length n=true:=by simpa using e
 have hk:=hE hh.2
 have hk3:=iR n.kind
 refine aj fun b39 h3 hb39 l3 f39=>?_
 have n39:b14≠b39:=fresh_ne hb39 f14
 have n39':b12≠b39:=fresh_ne hb39 f12
 have b39n:h b39=none:=aF lh hb39
 replace f12:=l3 _ _ f12
 replace f14:=l3 _ _ f14
 replace lh:=Hp.le_trans lh l3
 refine ap (fun J=> ∀b46 h',h.le h'->h' b12=some (.inl ⟨nodeCells n,9,false⟩)->h' b14=some (.inl ⟨[I 0,I 0],2,false⟩)->h' b39=some (.inl ⟨AO l n 0,6,false⟩)->
  h' b46=some (.inl ⟨[I n.a,I n.b,I n.c],3,false⟩)->b46≠b39->b12≠b14->J (Sl.mk (some ⟨b46,0,none⟩) (ar n.kind).toNat 3) (((ar n.kind).toNat:Nat):Int) h') ?_ (fun J hJ=>?_)
 rotate_left
 ·repeat' (refine az ?_)
  constructor
  ·refine aj fun b46 h4 hb46 l4 f46=>?_
   have e12:h4 b12=h3 b12:=by rw [l4 _ _ f12,f12]
   refine⟨e12,iP ⟨_,rfl,e12,e12,e12,by decide,by simpa using hk,by simpa using hk3, .inr ⟨_,_,rfl,?_⟩⟩⟩
   exact hJ b46 h4 (Hp.le_trans lh l4) (l4 _ _ f12) (l4 _ _ f14) (l4 _ _ f39) f46 (fresh_ne hb46 f39).symm n12
  ·refine iP ⟨_,rfl,rfl,rfl,rfl,?_⟩
   refine aj fun b46 h4 hb46 l4 f46=>?_
   have e12:h4 b12=h3 b12:=by rw [l4 _ _ f12,f12]
   refine⟨e12,by decide,by simpa using hk,by simpa using hk3, .inr ⟨_,_,rfl,?_⟩⟩
   exact hJ b46 h4 (Hp.le_trans lh l4) (l4 _ _ f12) (l4 _ _ f14) (l4 _ _ f39) f46 (fresh_ne hb46 f39).symm n12
 clear f12 f14 f39 lh l3 l1 l2 hb39 hb14 hb12
 intro b46 h4 lh f12 f14 f39 f46 n46 n12
 have hkk:((ar n.kind).toNat:Int)=ar n.kind:=by omega
 refine av (ar n.kind).toNat (fun i vs h'=>vs= [s.v, .pointer (some ⟨b12,0,none⟩), .pointer (some ⟨b14,0,none⟩), .pointer (some ⟨b39,0,none⟩), .slice (some ⟨b46,0,none⟩) (ar n.kind).toNat 3,I (ar n.kind).toNat,I i]/\
  (∀j:Nat,j<i->bT (aA l (aW n j))=true)/\h.le h'/\h' b12=some (.inl ⟨nodeCells n,9,false⟩)/\h' b14=some (.inl ⟨[I 0,I 0],2,false⟩)/\h' b39=some (.inl ⟨AO l n i,6,false⟩)/\
  h' b46=some (.inl ⟨[I n.a,I n.b,I n.c],3,false⟩)) ⟨rfl,fun j hj=>by omega,lh,f12,f14,f39,f46⟩ ?_
 clear f12 f14 f39 f46 lh h4
 rintro i _ h4 next hi ⟨rfl,hg,lh,f12,f14,f39,f46⟩ hnx
 refine⟨s,_,_,_,_,_,_,⟨some ⟨b46,0,none⟩,(ar n.kind).toNat,3⟩,_,_,rfl,?_⟩
 by_cases hlt:i<(ar n.kind).toNat
 ·have h3:i<3:=by omega
  refine aM (by simp;omega) ?_
  simp only [vm,pz f46 h3]
  refine⟨by omega,?_⟩
  have hr:=kN hh.2 h3 (by omega)
  obtain⟨m,hm⟩: ∃m,l[(aW n i).toNat]?=some m:=⟨_,List.getElem?_eq_getElem (by omega)⟩
  have hsrt:=qn hm
  obtain⟨b,o,ha,_,_,_,_,_,_,c6,c7,_⟩:=(hs.mono lh).at hm
  refine⟨b,o,ha,hr.1,by omega,_,c6,_,c7,by omega,?_⟩
  (with_reducible apply bZ);(assumption);(exact lh);(exact b39n);(simp [AO];omega)
  intro h5 f5 kp l5
  rw [<-hsrt,OB h3]at f5
  have hg5:=Pf (l:=l) (n:=n) h3
  replace f12:=ck kp n39' f12
  replace f14:=ck kp n39 f14
  replace f46:=ck kp n46 f46
  refine⟨by omega,_,by rw [aq f5];exact hg5.1,_,by rw [aq f5];exact hg5.2,pC ⟨_,rfl,?_⟩⟩
  refine ac (fun e=>?_) (fun e=>?_)
  ·(with_reducible apply bZ);(assumption);(exact l5);(exact b14n);(decide);intro _ _ _ _
   repeat' (refine az ?_)
   refine lf (by assumption) ?_
   rw [Eu h3 (by omega) (by simpa using e)];rfl
  ·rw [aC (by omega)]
   refine hnx hlt _ _ ⟨rfl,fun j hj=>?_,l5,f12,f14,f5,f46⟩
   by_cases hji:j=i
   ·subst hji;simpa using e
   ·exact hg j (by omega)
 ·have hie:i=(ar n.kind).toNat:=by omega
  subst hie
  refine aE (by simp) ?_
  have hok:Lu l n:=fun j h3 hj=>hg j (by omega)
  have hns:=yg hh.1 hh.2 hok
  repeat' (first|(refine az ?_)|(with_reducible refine And.intro (by omega) ?_))
  have so: ∀j:Nat,bT (dF l n (ar n.kind).toNat j)=true\/dF l n (ar n.kind).toNat j=⟨0,0⟩:=fun j=>by
   unfold dF
   split
   ·exact .inl (hg j (by omega))
   ·exact .inr rfl
  refine MQ (n:=n) (a:=dF l n (ar n.kind).toNat 0) (b:=dF l n (ar n.kind).toNat 1) (c:=dF l n (ar n.kind).toNat 2) (fun hp=>?_) (so 1) (so 2) hk (fun h2=>?_) fun t q hres=>⟨_,_,_,rfl,?_⟩
  ·unfold dF;rw [if_pos (by omega)];exact hg 0 (by omega)
  ·unfold dF;rw [if_neg (by omega)]
  rw [<-hns]at hres
  unfold Res at hres
  refine aj fun b7 h7 hb7 l7 f7=>?_
  have n7:b14≠b7:=fresh_ne hb7 f14
  have b7n:=aF lh hb7
  replace f14:=l7 _ _ f14
  (with_reducible apply bZ);(assumption);(exact Hp.le_trans lh l7);(exact b7n);(decide)
  intro h8 f8 kp8 l8
  replace f14:=ck kp8 n7 f14
  refine ac (fun e=>?_) (fun e=>?_)
  ·(with_reducible apply bZ);(assumption);(exact l8);(exact b14n);(decide);intro _ _ _ _
   repeat' (refine az ?_)
   refine lf (by assumption) ?_
   rw [hres,show q=false by simpa using e];rfl
  ·repeat' (refine az ?_)
   (with_reducible apply bZ);(assumption);(exact l8);(exact b14n);(decide);intro _ _ _ _
   repeat' (refine az ?_)
   refine lf (by assumption) ?_
   rw [hres,show q=true by simpa using e];rfl
theorem FV {w:Int} (h:1<=w/\w<=16):jf w 0=true:=by
 rw [jT];refine⟨h,by omega,?_⟩
 have:=bK w.toNat;omega
theorem Jw {h:Hp} {w u:Int} {R:Value->Hp->Prop} (hw:1<=w/\w<=16) (hu:1<=u/\u<=16)
  (k1:w+u<=16->R (.tuple #[I 0,I (w+u), .bool true]) h) (k2: ¬w+u<=16->R (.tuple #[I 0,I 0, .bool false]) h):kg #[I w,I 0,I u,I 0] h R:=by
 apply wE
 refine uf_ ?_
 have hz:W (w+u)=w+u:=bU (by omega) (by omega)
 simp only [hz]
 refine ap (fun J=>J (decide (¬w+u<=16)) h) ?_ (fun J hJ=>cy ⟨_,rfl,aE (by rw [FV hw];rfl) (cy ⟨_,rfl,aE (by rw [FV hu];rfl) ?_⟩)⟩)
 ·refine ac (fun e=>k2 (of_decide_eq_true e)) (fun e=>?_)
  have e':w+u<=16:=by have:=of_decide_eq_false e;omega
  obtain⟨n,rfl⟩: ∃n:Nat,u=n:=⟨u.toNat,by omega⟩
  rw [cu (by omega),if_neg (by omega)]
  have h0:=ik (a:=0) (n:=n) (by omega) (by omega)
  rw [Nat.zero_mul]at h0
  rw [show au 0 (n:Int)=0 from h0]
  exact k1 e'
 ·exact fI (J:=fun b=>J b h) (by rw [decide_eq_decide];omega) hJ
theorem Gx {h:Hp} {w hi lo:Int} {R:Value->Hp->Prop} (hw:1<=w/\w<=16)
  (k1:(0<=hi/\hi<=w-1)/\0<=lo/\lo<=hi->R (.tuple #[I 0,I (hi-lo+1), .bool true]) h) (k2: ¬((0<=hi/\hi<=w-1)/\0<=lo/\lo<=hi)->R (.tuple #[I 0,I 0, .bool false]) h):
  jy #[I w,I 0,I hi,I lo] h R:=by
 apply uU
 refine uf_ ?_
 refine ap (fun J=>J (decide (¬((0<=hi/\hi<=w-1)/\0<=lo/\lo<=hi))) h) ?_ (fun J hJ=>cy ⟨_,rfl,aE (by rw [FV hw];rfl) ?_⟩)
 ·refine ac (fun e=>k2 (of_decide_eq_true e)) (fun e=>?_)
  have e':(0<=hi/\hi<=w-1)/\0<=lo/\lo<=hi:=by have:=of_decide_eq_false e;omega
  have hz:W (W (hi-lo)+1)=hi-lo+1:=by rw [bU (n:=hi-lo) (by omega) (by omega),bU (by omega) (by omega)]
  rw [hz]
  obtain⟨a,rfl⟩: ∃n:Nat,lo=n:=⟨lo.toNat,by omega⟩
  obtain⟨b,hb⟩: ∃n:Nat,hi-(a:Int)+1=n:=⟨(hi-a+1).toNat,by omega⟩
  have k:=k1 e'
  rw [hb]at k⊢
  have hp:=bK b
  rw [cu (by omega),cu (by omega),if_neg (by omega),if_neg (by omega),bJ (by omega),if_neg (by omega)]
  have h0:=jx (c:=0) (n:=a) (by omega)
  rw [Nat.zero_div]at h0
  rw [show nQ 0 (a:Int)=0 from h0,show Int.tmod 0 ((2^b:Nat):Int)=0 from Int.zero_tmod _]
  exact k
 ·clear k1 k2;repeat' (first|(with_reducible first|refine aM (b:=true) rfl ?_|refine aE (b:=false) rfl ?_|refine ac (fun _=>?_) fun _=>?_)|(refine fI (J:=fun b=>J b h) ?_ hJ))
  all_goals (clear hJ;(exact vg))
theorem I4 {h:Hp} {w more:Int} {R:Value->Hp->Prop} (hw:1<=w/\w<=16)
  (k1:0<=more/\more<=16-w->R (.tuple #[I 0,I (w+more), .bool true]) h) (k2: ¬(0<=more/\more<=16-w)->R (.tuple #[I 0,I 0, .bool false]) h):
  kl #[I w,I 0,I more, .bool false] h R:=by
 apply wB
 refine uf_ ?_
 have hz:W (16-w)=16-w:=bU (by omega) (by omega)
 simp only [hz]
 refine ap (fun J=>J (decide (¬(0<=more/\more<=16-w))) h) ?_ (fun J hJ=>cy ⟨_,rfl,aE (by rw [FV hw];rfl) ?_⟩)
 ·refine ac (fun e=>k2 (of_decide_eq_true e)) (fun e=>?_)
  have e':0<=more/\more<=16-w:=by have:=of_decide_eq_false e;omega
  refine aE rfl ?_
  rw [bU (by omega) (by omega)]
  exact k1 e'
 ·clear k1 k2;repeat' (first|(with_reducible first|refine aM (b:=true) rfl ?_|refine aE (b:=false) rfl ?_|refine ac (fun _=>?_) fun _=>?_)|(refine fI (J:=fun b=>J b h) ?_ hJ))
  all_goals (clear hJ;(exact vg))
abbrev sortCells (s:SortP):List Value:= [I s.idx,I s.wid]
def zQ (h:Hp) (s:Sl) (l:List SortP):Prop:=SlC h s 2 (l.flatMap sortCells)
theorem zQ.mono {h h':Hp} {s:Sl} {l:List SortP} (le:h.le h') (e:zQ h s l):zQ h' s l:=SlC.mono le e
theorem zQ.len {h:Hp} {s:Sl} {l:List SortP} (e:zQ h s l):s.n=l.length:=by
 have:=e.2.1
 rw [eV (m:=2) (fun _=>rfl)]at this;omega
theorem zQ.get {h:Hp} {s:Sl} {l:List SortP} (e:zQ h s l) (hpos:0<l.length): ∃b o,s.a=some (Addr.mk b o none)/\
  ∀i:Nat,i<l.length->Hp.cell h b (o+i*2)=some (I (l.getD i ⟨0,0⟩).idx)/\Hp.cell h b ((o+i*2)+1)=some (I (l.getD i ⟨0,0⟩).wid):=by
 have hl:=e.len
 obtain⟨b,o,ha,hc⟩:=SlC.get e (by omega)
 refine⟨b,o,ha,fun i hi=>?_⟩
 have hg:l[i]?=some (l.getD i ⟨0,0⟩):=by rw [List.getD_eq_getElem?_getD,List.getElem?_eq_getElem hi];rfl
 constructor
 ·refine hc _ _ ?_
  have:=sC (f:=sortCells) (m:=2) (fun _=>rfl) l i _ 0 hg (by omega)
  rw [Nat.add_zero]at this;rw [this];rfl
 ·rw [Nat.add_assoc]
  refine hc _ _ ?_
  rw [sC (f:=sortCells) (m:=2) (fun _=>rfl) l i _ 1 hg (by omega)];rfl
theorem fJ {s:Option Addr} {b o:Nat} {P:Nat->Nat->Prop} (ha:s=some (Addr.mk b o none)) (k:P b o): ∃b' o',s=some (Addr.mk b' o' none)/\P b' o':=⟨b,o,ha,k⟩
theorem dS {h:Hp} {b o:Nat} {x:Int} {P:Int->Prop} (f:Hp.cell h b o=some (I x)) (k:P x): ∃y:Int,Hp.cell h b o=some (I y)/\P y:=⟨x,f,k⟩
theorem lc {k:Int} (h:0<ar k):(1<=k/\k<=5/\ar k=1)\/(6<=k/\k<=29/\ar k=2)\/(30<=k/\k<=32/\ar k=1)\/(k=33/\ar k=3)\/(k=37/\ar k=2)\/(k=38/\ar k=3):=by
 have e1:(1<=k/\k<=5)\/(30<=k/\k<=32)->ar k=1:=fun h=>by unfold ar;rw [if_pos h]
 have e2:(6<=k/\k<=29)\/k=37->ar k=2:=fun h=>by unfold ar;rw [if_neg (by omega),if_pos h]
 have e3:k=33\/k=38->ar k=3:=fun h=>by unfold ar;rw [if_neg (by omega),if_neg (by omega),if_pos h]
 have e4: ¬((1<=k/\k<=5)\/(30<=k/\k<=32))-> ¬((6<=k/\k<=29)\/k=37)-> ¬(k=33\/k=38)->ar k<=0:=fun h1 h2 h3=>by
  unfold ar;rw [if_neg h1,if_neg h2,if_neg h3];split<;>omega
 omega
theorem IH {h:Hp} {n:NodeP} {s:Sl} {ss:List SortP} {R:Value->Hp->Prop} (hs:zQ h s ss) (hp:0<ar n.kind) (hlen:(ss.length:Int)=ar n.kind)
  (hok: ∀i:Nat,i<ss.length->bT (ss.getD i ⟨0,0⟩)=true)
  (k: ∀t q,Res (di n (ss.getD 0 ⟨0,0⟩) (ss.getD 1 ⟨0,0⟩) (ss.getD 2 ⟨0,0⟩)) t q->R (.tuple #[uQ t, .bool q]) h):rf #[Ex n,s.v] h R:=by
 refine ACalls.drop (ES ?_)
 refine uf_ ?_
 have hsn:=hs.len
 have hk3:=iR n.kind
 refine aj fun b12 h1 hb12 l1 f12=>?_
 refine aj fun b14 h2 hb14 l2 f14=>?_
 have n12:b12≠b14:=fresh_ne hb14 f12
 replace f12:=l2 _ _ f12
 have l:h.le h2:=Hp.le_trans l1 l2
 have b0:h b14=none:=aF l1 hb14
 have hs1:=hs.mono l1
 obtain⟨b,o,ha,hc⟩:=hs1.get (by omega)
 have hne:b≠b14:=vh hb14 (hc 0 (by omega)).1
 have hc2: ∀i:Nat,i<ss.length->Hp.cell h2 b (o+i*2)=some (I (ss.getD i ⟨0,0⟩).idx)/\Hp.cell h2 b ((o+i*2)+1)=some (I (ss.getD i ⟨0,0⟩).wid):=fun i hi=>⟨l2.cell (hc i hi).1,l2.cell (hc i hi).2⟩
 clear hc hs1 l1 l2 hb12 hb14
 have lf: ∀{h'':Hp} {t:SortP} {q:Bool},h.le h''->Res (di n (ss.getD 0 ⟨0,0⟩) (ss.getD 1 ⟨0,0⟩) (ss.getD 2 ⟨0,0⟩)) t q-> ∃h':Hp,h'.le h''/\R (.tuple #[.agg #[I t.idx,I t.wid], .bool q]) h':=fun l e=>⟨_,l,k _ _ e⟩
 clear k
 have oa:=cd.1 (hok 0 (by omega))
 have ob:1<ss.length->(0<=(ss.getD 1 ⟨0,0⟩).idx/\(ss.getD 1 ⟨0,0⟩).idx<=2)/\(1<=(ss.getD 1 ⟨0,0⟩).wid/\(ss.getD 1 ⟨0,0⟩).wid<=16):=fun h=>cd.1 (hok 1 h)
 have c0:=(hc2 0 (by omega)).1
 have c1:=(hc2 0 (by omega)).2
 have c2:1<ss.length->_:=fun h=>(hc2 1 h).1
 have c3:1<ss.length->_:=fun h=>(hc2 1 h).2
 have c4:2<ss.length->_:=fun h=>(hc2 2 h).1
 have c5:2<ss.length->_:=fun h=>(hc2 2 h).2
 have hall: ∀i:Nat,i<ss.length->(ss.getD i ⟨0,0⟩).idx=0->True:=fun _ _ _=>trivial
 generalize hga:ss.getD 0 ⟨0,0⟩=ga at*
 generalize hgb:ss.getD 1 ⟨0,0⟩=gb at*
 generalize hgc:ss.getD 2 ⟨0,0⟩=gc at*
 have hkk:=lc hp
 rw [F7]at lf
 repeat' (refine az ?_)
 refine ac (fun e=>?_) (fun e33=>?_)
 ·replace e:=bV e
  rw [if_pos e]at lf
  have hl3:ss.length=3:=by omega
  replace c2:=c2 (by omega);replace c3:=c3 (by omega);replace c4:=c4 (by omega);replace c5:=c5 (by omega)
  simp only [ey]
  repeat' (first|(first|(refine az ?_)|(with_reducible refine fJ ha ?_)|((with_reducible apply dS);(assumption))|(with_reducible refine And.intro (by omega) ?_))|(with_reducible refine ce ⟨_,_,rfl,?_⟩))
  refine ac (fun e1=>?_) (fun e1=>?_)
  ·repeat' ((first|(refine az ?_)|(with_reducible refine fJ ha ?_)|((with_reducible apply dS);(assumption))|(with_reducible refine And.intro (by omega) ?_)))
   (with_reducible apply bZ);(assumption);(exact l);(exact b0);(decide);intro _ _ _ _
   repeat' ((first|(refine az ?_)|(with_reducible refine fJ ha ?_)|((with_reducible apply dS);(assumption))|(with_reducible refine And.intro (by omega) ?_)))
   refine lf (t:=⟨_,_⟩) (by assumption) (nR ?_ ?_)
   ·have:ga.idx=0/\ga.wid=1:=by simpa [cF] using e1
    rw [Bool.eq_iff_iff];simp [this]
   ·intro h;rfl
  ·repeat' ((first|(refine az ?_)|(with_reducible refine fJ ha ?_)|((with_reducible apply dS);(assumption))|(with_reducible refine And.intro (by omega) ?_)))
   (with_reducible apply bZ);(assumption);(exact l);(exact b0);(decide);intro _ _ _ _
   repeat' ((first|(refine az ?_)|(with_reducible refine fJ ha ?_)|((with_reducible apply dS);(assumption))|(with_reducible refine And.intro (by omega) ?_)))
   refine lf (t:=⟨_,_⟩) (by assumption) (nR ?_ ?_)
   ·have: ¬(ga.idx=0/\ga.wid=1):=by simpa [cF] using e1
    rw [Bool.eq_iff_iff];simp [this]
   ·intro h;rfl
 rw [if_neg (bk e33)]at lf
 refine ac (fun e=>?_) (fun e37=>?_)
 ·replace e:=bV e
  rw [if_pos e]at lf
  have hl3:ss.length=2:=by omega
  replace c2:=c2 (by omega);replace c3:=c3 (by omega)
  simp only [ey]
  repeat' (first|(first|(refine az ?_)|(with_reducible refine fJ ha ?_)|((with_reducible apply dS);(assumption))|(with_reducible refine And.intro (by omega) ?_))|(with_reducible refine ce ⟨_,_,rfl,?_⟩))
  refine ac (fun e1=>?_) (fun e1=>?_)
  ·repeat' (first|(first|(refine az ?_)|(with_reducible refine fJ ha ?_)|((with_reducible apply dS);(assumption))|(with_reducible refine And.intro (by omega) ?_))|(with_reducible refine ce ⟨_,_,rfl,?_⟩))
   (with_reducible apply bZ);(assumption);(exact l);(exact b0);(decide);intro _ _ _ _
   repeat' ((first|(refine az ?_)|(with_reducible refine fJ ha ?_)|((with_reducible apply dS);(assumption))|(with_reducible refine And.intro (by omega) ?_)))
   refine lf (t:=⟨_,_⟩) (by assumption) (nR ?_ ?_)
   ·have:0<ga.idx:=by simpa using e1
    rw [Bool.eq_iff_iff];simp [this,cF]
   ·intro h;rfl
  ·repeat' ((first|(refine az ?_)|(with_reducible refine fJ ha ?_)|((with_reducible apply dS);(assumption))|(with_reducible refine And.intro (by omega) ?_)))
   (with_reducible apply bZ);(assumption);(exact l);(exact b0);(decide);intro _ _ _ _
   repeat' ((first|(refine az ?_)|(with_reducible refine fJ ha ?_)|((with_reducible apply dS);(assumption))|(with_reducible refine And.intro (by omega) ?_)))
   refine lf (t:=⟨_,_⟩) (by assumption) (nR ?_ ?_)
   ·have: ¬0<ga.idx:=by simpa using e1
    rw [Bool.eq_iff_iff];simp [this]
   ·intro h;rfl
 rw [if_neg (bk e37)]at lf
 refine ac (fun e=>?_) (fun e38=>?_)
 ·replace e:=bV e
  rw [if_pos e]at lf
  have hl3:ss.length=3:=by omega
  replace c2:=c2 (by omega);replace c3:=c3 (by omega);replace c4:=c4 (by omega);replace c5:=c5 (by omega)
  simp only [ey]
  repeat' (first|(first|(refine az ?_)|(with_reducible refine fJ ha ?_)|((with_reducible apply dS);(assumption))|(with_reducible refine And.intro (by omega) ?_))|(with_reducible refine ce ⟨_,_,rfl,?_⟩))
  refine ac (fun e1=>?_) (fun e1=>?_)
  ·have i1:0<ga.idx:=by simpa using e1
   repeat' (first|(first|(refine az ?_)|(with_reducible refine fJ ha ?_)|((with_reducible apply dS);(assumption))|(with_reducible refine And.intro (by omega) ?_))|(with_reducible refine ce ⟨_,_,rfl,?_⟩))
   refine ac (fun e2=>?_) (fun e2=>?_)
   ·have i2:gb.idx=0/\gb.wid=ga.idx:=by simpa [cF] using e2
    repeat' (first|(first|(refine az ?_)|(with_reducible refine fJ ha ?_)|((with_reducible apply dS);(assumption))|(with_reducible refine And.intro (by omega) ?_))|(with_reducible refine ce ⟨_,_,rfl,?_⟩))
    (with_reducible apply bZ);(assumption);(exact l);(exact b0);(decide);intro _ _ _ _
    repeat' ((first|(refine az ?_)|(with_reducible refine fJ ha ?_)|((with_reducible apply dS);(assumption))|(with_reducible refine And.intro (by omega) ?_)))
    refine lf (t:=⟨_,_⟩) (by assumption) (nR ?_ ?_)
    ·rw [Bool.eq_iff_iff];simp [i1,i2,cF]
    ·intro h;rfl
   ·have i2: ¬(gb.idx=0/\gb.wid=ga.idx):=by simpa [cF] using e2
    repeat' (first|(first|(refine az ?_)|(with_reducible refine fJ ha ?_)|((with_reducible apply dS);(assumption))|(with_reducible refine And.intro (by omega) ?_))|(with_reducible refine ce ⟨_,_,rfl,?_⟩))
    (with_reducible apply bZ);(assumption);(exact l);(exact b0);(decide);intro _ _ _ _
    repeat' ((first|(refine az ?_)|(with_reducible refine fJ ha ?_)|((with_reducible apply dS);(assumption))|(with_reducible refine And.intro (by omega) ?_)))
    refine lf (t:=⟨_,_⟩) (by assumption) (nR ?_ ?_)
    ·rw [Bool.eq_iff_iff];simp [i1,i2,cF]
    ·intro h;rfl
  ·have i1: ¬0<ga.idx:=by simpa using e1
   repeat' ((first|(refine az ?_)|(with_reducible refine fJ ha ?_)|((with_reducible apply dS);(assumption))|(with_reducible refine And.intro (by omega) ?_)))
   (with_reducible apply bZ);(assumption);(exact l);(exact b0);(decide);intro _ _ _ _
   repeat' ((first|(refine az ?_)|(with_reducible refine fJ ha ?_)|((with_reducible apply dS);(assumption))|(with_reducible refine And.intro (by omega) ?_)))
   refine lf (t:=⟨_,_⟩) (by assumption) (nR ?_ ?_)
   ·rw [Bool.eq_iff_iff];simp [i1]
   ·intro h;rfl
 rw [if_neg (bk e38)]at lf
 refine ac (fun e=>?_) (fun e21=>?_)
 ·replace e:=bV e
  rw [if_pos e]at lf
  have hl3:ss.length=2:=by omega
  replace c2:=c2 (by omega);replace c3:=c3 (by omega)
  repeat' (first|(first|(refine az ?_)|(with_reducible refine fJ ha ?_)|((with_reducible apply dS);(assumption))|(with_reducible refine And.intro (by omega) ?_))|(with_reducible refine ce ⟨_,_,rfl,?_⟩))
  (with_reducible apply bZ);(assumption);(exact l);(exact b0);(decide);intro _ _ _ _
  repeat' ((first|(refine az ?_)|(with_reducible refine fJ ha ?_)|((with_reducible apply dS);(assumption))|(with_reducible refine And.intro (by omega) ?_)))
  refine lf (t:=⟨_,_⟩) (by assumption) (nR ?_ ?_)
  ·rw [Bool.eq_iff_iff];simp
  ·intro h;rfl
 rw [if_neg (bk e21)]at lf
 replace e33:=bk e33
 replace e37:=bk e37
 replace e38:=bk e38
 replace e21:=bk e21
 refine av ss.length (fun i vs h'=>vs= [s.v, .pointer (some ⟨b12,0,none⟩), .pointer (some ⟨b14,0,none⟩),I i]/\h'=h2/\ ∀j:Nat,j<i->(ss.getD j ⟨0,0⟩).idx=0) ⟨rfl,rfl,fun j hj=>by omega⟩ ?_
 rintro i _ h3 next hi ⟨rfl,rfl,hz⟩ hnx
 refine⟨_,_,_,_,_,_,rfl,?_⟩
 by_cases hlt:i<ss.length
 ·refine aM (by simp;omega) ?_
  refine⟨b,o,ha,by omega,by omega,?_⟩
  have hci:=(hc2 i hlt).1
  simp only [vm,hci]
  refine ac (fun e=>?_) (fun e=>?_)
  ·(with_reducible apply bZ);(assumption);(exact l);(exact b0);(decide);intro _ _ _ _
   repeat' ((first|(refine az ?_)|(with_reducible refine fJ ha ?_)|((with_reducible apply dS);(assumption))|(with_reducible refine And.intro (by omega) ?_)))
   refine lf (t:=⟨_,_⟩) (by assumption) ?_
   rw [if_pos]
   ·rfl
   ·have:0<(ss.getD i ⟨0,0⟩).idx:=by simpa using e
    obtain h0|h0|h0:i=0\/i=1\/i=2:=by omega
    ·subst h0;rw [hga]at this;exact .inl this
    ·subst h0;rw [hgb]at this;exact .inr ⟨by omega,this⟩
    ·omega
  ·rw [aC (by omega)]
   refine hnx hlt _ _ ⟨rfl,rfl,fun j hj=>?_⟩
   by_cases hji:j=i
   ·subst hji
    have:=cd.1 (hok j hlt)
    have: ¬0<(ss.getD j ⟨0,0⟩).idx:=by simpa using e
    omega
   ·exact hz j (by omega)
 ·refine aE (by simp;omega) ?_
  have za:ga.idx=0:=by rw [<-hga];exact hz 0 (by omega)
  have zb:1<ss.length->gb.idx=0:=fun h=>by rw [<-hgb];exact hz 1 (by omega)
  rw [if_neg (by omega)]at lf
  generalize hres:(if n.kind=29 then(if ga.wid+gb.wid<=16 then some (SortP.mk 0 (ga.wid+gb.wid))else none)else
   if n.kind=30 then(if(0<=n.n/\n.n<=ga.wid-1)/\0<=n.m/\n.m<=n.n then some ⟨0,n.n-n.m+1⟩else none)else
   if n.kind=31\/n.kind=32 then(if 0<=n.n/\n.n<=16-ga.wid then some ⟨0,ga.wid+n.n⟩else none)else
   if n.kind<=5 then some ⟨0,if n.kind<=2 then ga.wid else 1⟩else
   if ga.idx=gb.idx/\ga.wid=gb.wid then some ⟨0,if n.kind<=20 then ga.wid else 1⟩else none)=res at lf
  refine ap (fun J=> ∀(w:Int) (q:Bool),Res res ⟨0,w⟩ q->J w q h3) ?_ (fun J hJ=>?_)
  ·intro w q hr
   refine ce ⟨_,_,rfl,?_⟩
   (with_reducible apply bZ);(assumption);(exact l);(exact b0);(decide);intro _ _ _ _
   repeat' ((first|(refine az ?_)|(with_reducible refine fJ ha ?_)|((with_reducible apply dS);(assumption))|(with_reducible refine And.intro (by omega) ?_)))
   exact lf (t:=⟨_,_⟩) (by assumption) hr
  clear lf
  subst hres
  (refine az ?_)
  refine ac (fun e=>?_) (fun e29=>?_)
  ·replace e:=bV e
   rw [if_pos e]at hJ
   have hl3:ss.length=2:=by omega
   replace c2:=c2 (by omega);replace c3:=c3 (by omega);replace ob:=ob (by omega)
   repeat' ((first|(refine az ?_)|(with_reducible refine fJ ha ?_)|((with_reducible apply dS);(assumption))|(with_reducible refine And.intro (by omega) ?_)))
   exact Jw (by omega) (by omega) (fun h=>⟨_,_,_,rfl,hJ _ _ (by rw [if_pos h];rfl)⟩) (fun h=>⟨_,_,_,rfl,hJ _ _ (by rw [if_neg h];rfl)⟩)
  replace e29:=bk e29
  rw [if_neg e29]at hJ
  (refine az ?_)
  refine ac (fun e=>?_) (fun e30=>?_)
  ·replace e:=bV e
   rw [if_pos e]at hJ
   repeat' ((first|(refine az ?_)|(with_reducible refine fJ ha ?_)|((with_reducible apply dS);(assumption))|(with_reducible refine And.intro (by omega) ?_)))
   exact Gx (by omega) (fun h=>⟨_,_,_,rfl,hJ _ _ (by rw [if_pos h];rfl)⟩) (fun h=>⟨_,_,_,rfl,hJ _ _ (by rw [if_neg h];rfl)⟩)
  replace e30:=bk e30
  rw [if_neg e30]at hJ
  refine ap (fun J=>J (decide (n.kind=31\/n.kind=32))) ?_ (fun J2 hJ2=>?_)
  rotate_left
  ·clear hJ hnx hok hc2 hall hz
   repeat' (first|(with_reducible first|refine aM (b:=true) rfl ?_|refine aE (b:=false) rfl ?_|refine ac (fun _=>?_) fun _=>?_)|(refine az ?_)|(refine fI ?_ hJ2))
   all_goals (clear hJ2;(exact vg))
  refine ac (fun e=>?_) (fun e31=>?_)
  ·replace e:=of_decide_eq_true e
   rw [if_pos e]at hJ
   repeat' ((first|(refine az ?_)|(with_reducible refine fJ ha ?_)|((with_reducible apply dS);(assumption))|(with_reducible refine And.intro (by omega) ?_)))
   exact I4 (by omega) (fun h=>⟨_,_,_,rfl,hJ _ _ (by rw [if_pos h];rfl)⟩) (fun h=>⟨_,_,_,rfl,hJ _ _ (by rw [if_neg h];rfl)⟩)
  replace e31:=of_decide_eq_false e31
  rw [if_neg e31]at hJ
  obtain⟨wn,hwn⟩: ∃m:Nat,ga.wid=m:=⟨ga.wid.toNat,by omega⟩
  have hWO:WO wn 0:=⟨by omega,bK wn⟩
  refine ac (fun e=>?_) (fun e1=>?_)
  ·have hl1:ss.length=1:=by have:=bV e;omega
   rw [if_pos (by omega)]at hJ
   rw [hwn]at c1 hJ
   repeat' ((first|(refine az ?_)|(with_reducible refine fJ ha ?_)|((with_reducible apply dS);(assumption))|(with_reducible refine And.intro (by omega) ?_)))
   refine BT (a:=0) (by omega) hWO ⟨_,_,_,rfl,hJ _ _ ?_⟩
   unfold Res xE
   rw [if_pos rfl]
   congr 2
   repeat' split
   all_goals first|rfl|omega
  ·have hl2:ss.length=2:=by have:=bk e1;omega
   replace c2:=c2 (by omega);replace c3:=c3 (by omega);replace ob:=ob (by omega)
   rw [if_neg (by omega)]at hJ
   repeat' ((first|(refine az ?_)|(with_reducible refine fJ ha ?_)|((with_reducible apply dS);(assumption))|(with_reducible refine And.intro (by omega) ?_)))
   refine ac (fun e2=>?_) (fun e2=>?_)
   ·have i2:ga.idx=gb.idx/\ga.wid=gb.wid:=by simpa using e2
    rw [if_pos i2]at hJ
    rw [hwn]at c1 hJ
    repeat' ((first|(refine az ?_)|(with_reducible refine fJ ha ?_)|((with_reducible apply dS);(assumption))|(with_reducible refine And.intro (by omega) ?_)))
    refine BH (a:=0) (b:=0) (by omega) hWO hWO ⟨_,_,_,rfl,hJ _ _ ?_⟩
    unfold Res sx
    rw [if_pos rfl]
    congr 2
    split<;>rfl
   ·have i2: ¬(ga.idx=gb.idx/\ga.wid=gb.wid):=by simpa using e2
    rw [if_neg i2]at hJ
    exact hJ _ _ rfl
theorem Buf.slc_of {h:Hp} {s:Sl} {sz:Nat} {cs:List Value} (e:Buf h s sz cs) (hn:s.n<=9223372036854775807):SlC h s sz cs:=by
 rcases e with ⟨h1,h2,h3⟩
 refine⟨hn,h1,?_⟩
 rcases h3 with ⟨_,h0,_⟩|⟨b,hb,hc⟩
 ·exact .inl h0
 ·refine .inr ⟨b,0,hb,?_⟩
  exact ay hc
def uq (l:List NodeP) (n:NodeP) (i:Nat):List SortP:=(List.range i).map fun j=>aA l (aW n j)
theorem vo (l:List NodeP) (n:NodeP) (i:Nat):(uq l n i).length=i:=by simp [uq]
theorem NY (l:List NodeP) (n:NodeP) (i:Nat):uq l n (i+1)=uq l n i++ [aA l (aW n i)]:=by simp [uq,List.range_succ]
theorem r5 (l:List NodeP) (n:NodeP) (i j:Nat):(uq l n i).getD j ⟨0,0⟩=dF l n i j:=by
 unfold uq dF
 rw [List.getD_eq_getElem?_getD,List.getElem?_map]
 by_cases h:j<i
 ·rw [List.getElem?_range h,if_pos h];rfl
 ·rw [List.getElem?_eq_none (by simp;omega),if_neg h];rfl
theorem m8 {h:Hp} {s:Sl} {l:List NodeP} {n:NodeP} {R:Value->Hp->Prop} (hs:jr h s l) (hl:l.length<=1048576)
  (k:R (G5 (cW l n)) h):gF #[s.v,Ex n] h R:=by
 refine ACalls.drop (EW ?_)
 refine uf_ ?_
 have hn:=hs.len
 refine aj fun b12 h1 hb12 l1 f12=>?_
 refine aj fun b14 h2 hb14 l2 f14=>?_
 have n12:b12≠b14:=fresh_ne hb14 f12
 replace f12:=l2 _ _ f12
 have lh:h.le h2:=Hp.le_trans l1 l2
 have b14n:h b14=none:=aF l1 hb14
 have lf: ∀{h'':Hp} {v:Value},h.le h''->v=G5 (cW l n)-> ∃h':Hp,h'.le h''/\R v h':=fun l e=>⟨_,l,e▸k⟩
 clear k l1 l2 hb12 hb14
 refine ap (fun J=>J (!(decide (l.length<=60)&&fk l.length n)) h2) ?_ (fun J hJ=>?_)
 rotate_left
 ·rw [<-hn]at hJ
  refine ac (fun e=>?_) (fun e=>?_)
  ·rw [decide_eq_false (by simp at e;omega),Bool.false_and]at hJ;exact hJ
  ·rw [decide_eq_true (by simp at e;omega),Bool.true_and]at hJ
   repeat' (refine az ?_)
   exact IX (n:=n) (by omega) ⟨_,rfl,hJ⟩
 refine ac (fun e=>?_) (fun e=>?_)
 ·(with_reducible apply bZ);(assumption);(exact lh);(exact b14n);(decide);intro _ _ _ _
  repeat' (refine az ?_)
  refine lf (by assumption) ?_
  rw [Bz (by intro hh;rw [decide_eq_true hh.1,hh.2]at e;cases e)];rfl
 have hh:l.length<=60/\fk l.length n=true:=by simpa using e
 have hk:=hE hh.2
 have hk3:=iR n.kind
 (refine az ?_)
 refine lz ⟨_,rfl,ac (fun e0=>?_) (fun e0=>?_)⟩
 ·replace e0:=bV e0
  have hns:=yg hh.1 hh.2 (fun i _ hi=>by omega)
  have hk0:n.kind=34\/n.kind=35\/n.kind=36:=by
   revert e0;unfold ar;(repeat' split)<;>(intro h;omega)
  repeat' (refine az ?_)
  refine pD ⟨_,rfl,?_⟩
  (refine az ?_)
  have hns2:cW l n=if(if n.kind=34 then decide (n.sort.idx=0)&&jf n.sort.wid n.n else bT n.sort)then some n.sort else none:=by
   rw [hns];unfold lK
   by_cases h34:n.kind=34
   ·rw [if_neg (show¬(n.kind=35\/n.kind=36) by omega),if_pos h34,if_pos h34]
   ·rw [if_pos (show n.kind=35\/n.kind=36 by omega),if_neg h34]
  refine ap (fun J=>J (if n.kind=34 then decide (n.sort.idx=0)&&jf n.sort.wid n.n else bT n.sort) h2) ?_ (fun J hJ=>?_)
  rotate_left
  ·refine ac (fun e=>?_) (fun e=>?_)
   ·rw [if_pos (bV e)]at hJ
    (refine az ?_)
    refine ac (fun e=>?_) (fun e=>?_)
    ·rw [decide_eq_true (bV e),Bool.true_and]at hJ
     repeat' (refine az ?_)
     exact cy ⟨_,rfl,hJ⟩
    ·rw [decide_eq_false (bk e),Bool.false_and]at hJ;exact hJ
   ·rw [if_neg (bk e)]at hJ;exact hJ
  rw [hns2]at lf
  generalize (if n.kind=34 then decide (n.sort.idx=0)&&jf n.sort.wid n.n else bT n.sort)=q at*
  refine ac (fun e=>?_) (fun e=>?_)
  ·(with_reducible apply bZ);(assumption);(exact lh);(exact b14n);(decide);intro _ _ _ _
   repeat' (refine az ?_)
   refine lf (by assumption) ?_
   rw [show q=false by simpa using e];rfl
  ·repeat' (refine az ?_)
   (with_reducible apply bZ);(assumption);(exact lh);(exact b14n);(decide);intro _ _ _ _
   repeat' (refine az ?_)
   refine lf (by assumption) ?_
   rw [show q=true by simpa using e];rfl
 replace e0:=bk e0
 repeat' (refine az ?_)
 refine aj fun b84 h3 hb84 l3 f84=>?_
 replace f12:=l3 _ _ f12
 replace f14:=l3 _ _ f14
 replace lh:=Hp.le_trans lh l3
 have hkk:((ar n.kind).toNat:Int)=ar n.kind:=by omega
 refine av (ar n.kind).toNat (fun i vs h'=> ∃sl:Sl,vs= [s.v, .pointer (some ⟨b12,0,none⟩), .pointer (some ⟨b14,0,none⟩),I (ar n.kind),sl.v, .slice (some ⟨b84,0,none⟩) 3 3,I i]/\
  (∀j:Nat,j<i->bT (aA l (aW n j))=true)/\h.le (h'.offS sl)/\(h'.offS sl) b12=some (.inl ⟨nodeCells n,9,false⟩)/\(h'.offS sl) b14=some (.inl ⟨[I 0,I 0],2,false⟩)/\
  (h'.offS sl) b84=some (.inl ⟨[I n.a,I n.b,I n.c],3,false⟩)/\sl.n=i/\Buf h' sl 2 ((uq l n i).flatMap sortCells)) ⟨⟨none,0,0⟩,rfl,fun j hj=>by omega,lh,f12,f14,f84,rfl,eY _ _⟩ ?_
 clear f12 f14 f84 lh
 rintro i _ h4 next hi ⟨sl,rfl,hg,lh,f12,f14,f84,hsl,hbuf⟩ hnx
 have lo:=bz h4 sl
 refine⟨s,_,_,_,_,_,sl,⟨some ⟨b84,0,none⟩,3,3⟩,_,rfl,?_⟩
 by_cases hlt:i<(ar n.kind).toNat
 ·have h3':i<3:=by omega
  refine aM (by simp;omega) ?_
  simp only [vm,pz (lo _ _ f84) h3']
  refine⟨by omega,?_⟩
  have hr:=kN hh.2 h3' (by omega)
  obtain⟨m,hm⟩: ∃m,l[(aW n i).toNat]?=some m:=⟨_,List.getElem?_eq_getElem (by omega)⟩
  have hsrt:=qn hm
  obtain⟨b,o,ha,_,_,_,_,_,_,c6,c7,_⟩:=(hs.mono (Hp.le_trans lh lo)).at hm
  refine⟨b,o,ha,hr.1,by omega,_,c6,_,c7,?_⟩
  refine aj fun b9 h5 hb9 l5 f9=>?_
  refine dw (hbuf.mono l5) (by omega) (by omega) (by omega) ⟨b9,0,rfl,ay f9⟩ (by simp) rfl ?_
  intro s' h6 hs'n hbuf' l6 _
  rw [<-hsrt,show ([I (aA l (aW n i)).idx,I (aA l (aW n i)).wid]:List Value)= [aA l (aW n i)].flatMap sortCells from rfl,<-List.flatMap_append,<-NY]at hbuf'
  have l56:=Hp.le_trans (bP sl l5) l6
  have hSS:zQ h6 s' (uq l n (i+1)):=Buf.slc_of hbuf' (by omega)
  obtain⟨b1,o1,ha1,hc1⟩:=hSS.get (by rw [vo];omega)
  have hci:=hc1 i (by rw [vo];omega)
  rw [r5,show dF l n (i+1) i=aA l (aW n i) by unfold dF;rw [if_pos (by omega)]]at hci
  have lo6:=bz h6 s'
  refine⟨b1,o1,ha1,by omega,_,hci.1,_,hci.2,pD ⟨_,rfl,?_⟩⟩
  have lh6:=Hp.le_trans lh (Hp.le_trans l56 lo6)
  have f14':=lo6 _ _ (l56 _ _ f14)
  refine ac (fun e=>?_) (fun e=>?_)
  ·(with_reducible apply bZ);(exact f14');(exact lh6);(exact b14n);(decide);intro _ _ _ _
   repeat' (refine az ?_)
   refine lf (by assumption) ?_
   rw [Eu h3' (by omega) (by simpa using e)];rfl
  ·rw [aC (by omega)]
   refine hnx hlt _ _ ⟨s',rfl,fun j hj=>?_,Hp.le_trans lh l56,l56 _ _ f12,l56 _ _ f14,l56 _ _ f84,by omega,hbuf'⟩
   by_cases hji:j=i
   ·subst hji;simpa using e
   ·exact hg j (by omega)
 ·have hie:i=(ar n.kind).toNat:=by omega
  subst hie
  refine aE (by simp;omega) ?_
  have hok:Lu l n:=fun j h3 hj=>hg j (by omega)
  have hns:=yg hh.1 hh.2 hok
  replace f12:=lo _ _ f12
  replace f14:=lo _ _ f14
  replace lh:=Hp.le_trans lh lo
  repeat' (first|(refine az ?_)|(with_reducible refine And.intro (by omega) ?_))
  have hSS:zQ h4 sl (uq l n (ar n.kind).toNat):=Buf.slc_of hbuf (by omega)
  refine IH (n:=n) hSS (by omega) (by rw [vo];omega) (fun j hj=>?_) fun t q hres=>⟨_,_,_,rfl,?_⟩
  ·rw [vo]at hj
   rw [r5];unfold dF;rw [if_pos hj];exact hg j hj
  rw [r5,r5,r5]at hres
  have hso:lK n (dF l n (ar n.kind).toNat 0) (dF l n (ar n.kind).toNat 1) (dF l n (ar n.kind).toNat 2)=di n (dF l n (ar n.kind).toNat 0) (dF l n (ar n.kind).toNat 1) (dF l n (ar n.kind).toNat 2):=by
   have:=lc (k:=n.kind) (by omega)
   unfold lK;rw [if_neg (by omega),if_neg (by omega)]
  rw [<-hso,<-hns]at hres
  unfold Res at hres
  refine aj fun b7 h7 hb7 l7 f7=>?_
  have n7:b14≠b7:=fresh_ne hb7 f14
  have b7n:=aF lh hb7
  replace f14:=l7 _ _ f14
  (with_reducible apply bZ);(assumption);(exact Hp.le_trans lh l7);(exact b7n);(decide)
  intro h8 f8 kp8 l8
  replace f14:=ck kp8 n7 f14
  refine ac (fun e=>?_) (fun e=>?_)
  ·(with_reducible apply bZ);(assumption);(exact l8);(exact b14n);(decide);intro _ _ _ _
   repeat' (refine az ?_)
   refine lf (by assumption) ?_
   rw [hres,show q=false by simpa using e];rfl
  ·repeat' (refine az ?_)
   (with_reducible apply bZ);(assumption);(exact l8);(exact b14n);(decide);intro _ _ _ _
   repeat' (refine az ?_)
   refine lf (by assumption) ?_
   rw [hres,show q=true by simpa using e];rfl
abbrev bindCells (b:BindP):List Value:= [I b.state,I b.node]
def rp (h:Hp) (s:Sl) (l:List BindP):Prop:=SlC h s 2 (l.flatMap bindCells)
theorem rp.mono {h h':Hp} {s:Sl} {l:List BindP} (le:h.le h') (e:rp h s l):rp h' s l:=SlC.mono le e
theorem rp.len {h:Hp} {s:Sl} {l:List BindP} (e:rp h s l):s.n=l.length:=by
 have:=e.2.1
 rw [eV (m:=2) (fun _=>rfl)]at this;omega
theorem rp.at {h:Hp} {s:Sl} {l:List BindP} (e:rp h s l) {i:Nat} {x:BindP} (hi:l[i]?=some x):
  ∃b o,s.a=some (Addr.mk b o none)/\Hp.cell h b (o+i*2)=some (I x.state)/\Hp.cell h b ((o+i*2)+1)=some (I x.node):=by
 have hl:=e.len
 have hlt:i<l.length:=by
  rcases Nat.lt_or_ge i l.length with h|h
  ·exact h
  ·rw [List.getElem?_eq_none h]at hi;cases hi
 obtain⟨b,o,ha,hc⟩:=SlC.get e (by omega)
 have g: ∀j v,j<2->(bindCells x)[j]?=some v->Hp.cell h b ((o+i*2)+j)=some v:=fun j v hj hv=>by
  rw [Nat.add_assoc]
  refine hc _ _ ?_
  rw [sC (m:=2) (fun _=>rfl) l i x j hi hj];exact hv
 exact⟨b,o,ha,g 0 _ (by omega) rfl,g 1 _ (by omega) rfl⟩
structure MSl where
 no:Sl
 ini:Sl
 nex:Sl
 bad:Sl
 hol:Sl
abbrev aQ (M:MSl):Value:= .agg #[M.no.v,M.ini.v,M.nex.v,M.bad.v,M.hol.v]
abbrev aw (M:MSl):List Value:= [M.no.v,M.ini.v,M.nex.v,M.bad.v,M.hol.v]
structure aO (h:Hp) (M:MSl) (m:ah):Prop where
 nodes:jr h M.no m.nodes
 inits:rp h M.ini m.inits
 nexts:rp h M.nex m.nexts
 bads:IntS h M.bad m.bads
 holds:IntS h M.hol m.holds
 cap:M.no.n<=M.no.c
structure bW (m:ah):Prop where
 nodes:m.nodes.length<=1048576
 inits:m.inits.length<=1048576
 nexts:m.nexts.length<=1048576
 bads:m.bads.length<=1048576
 holds:m.holds.length<=1048576
 names: ∀n∈m.nodes,n.name.size<=1048576
theorem aO.mono {h h':Hp} {M:MSl} {m:ah} (l:h.le h') (e:aO h M m):aO h' M m:=
 ⟨e.nodes.mono l,e.inits.mono l,e.nexts.mono l,e.bads.mono l,e.holds.mono l,e.cap⟩
theorem jr.take {h:Hp} {s:Sl} {l:List NodeP} (e:jr h s l) {b o:Nat} (ha:s.a=some ⟨b,o,none⟩) {i:Nat} (hi:i<=l.length) (c:Nat):
  jr h ⟨some ⟨b,o,none⟩,i,c⟩ (l.take i):=by
 have hl:=e.len
 have hn:=e.1
 refine⟨by show i<=_;omega,?_,?_⟩
 ·rw [eV (m:=9) (fun _=>rfl),List.length_take];show _=i*9;omega
 ·rcases e.2.2 with h0|⟨b',o',ha',hc⟩
  ·exact .inl (by show i=0;omega)
  ·rw [ha]at ha';cases ha'
   refine .inr ⟨b,o,rfl,fun j v hv=>hc j v ?_⟩
   have hj:j<((l.take i).flatMap nodeCells).length:=by
    rcases Nat.lt_or_ge j ((l.take i).flatMap nodeCells).length with h|h
    ·exact h
    ·rw [List.getElem?_eq_none h]at hv;cases hv
   rw [<-List.take_append_drop i l,List.flatMap_append,List.getElem?_append_left hj];exact hv
theorem yJ (o:Option SortP):G5 o= .tuple #[.agg #[I (o.getD ⟨0,0⟩).idx,I (o.getD ⟨0,0⟩).wid], .bool o.isSome]:=by cases o<;>rfl
theorem qr {l:List NodeP}:cv l=true↔ ∀(i:Nat) (n:NodeP),l[i]?=some n->cW (l.take i) n=some n.sort:=by
 unfold cv
 rw [List.all_eq_true]
 constructor
 ·intro h i n hn
  have hlt:i<l.length:=by
   rcases Nat.lt_or_ge i l.length with h|h
   ·exact h
   ·rw [List.getElem?_eq_none h]at hn;cases hn
  have:=h i (List.mem_range.2 hlt)
  rw [hn]at this;simpa using this
 ·intro h i hi
  cases hn:l[i]? with
  |none=>rfl
  |some n=>simpa using h i n hn
theorem Av {l:List NodeP} {i:Nat} {n:NodeP} (hn:l[i]?=some n) (h:cW (l.take i) n≠some n.sort):cv l=false:=by
 rw [Bool.eq_false_iff];exact fun e=>h (qr.1 e i n hn)
theorem L9 {o:Option SortP} {t:SortP} (h:(!o.isSome)=true\/(!(((o.getD ⟨0,0⟩).idx==t.idx)&&(((o.getD ⟨0,0⟩).wid==t.wid)&&true)))=true):o≠some t:=by
 rintro rfl
 simp at h
theorem Ow {o:Option SortP} {t:SortP} (h1:(!o.isSome)=false) (h2:(!(((o.getD ⟨0,0⟩).idx==t.idx)&&(((o.getD ⟨0,0⟩).wid==t.wid)&&true)))=false):o=some t:=by
 cases o with
 |none=>simp at h1
 |some u=>
  simp at h2
  rw [Option.some.injEq,iY];exact h2
theorem get_lt {α:Type} {l:List α} {i:Nat} {x:α} (h:l[i]?=some x):i<l.length:=by
 rcases Nat.lt_or_ge i l.length with h'|h'
 ·exact h'
 ·rw [List.getElem?_eq_none h']at h;cases h
theorem z0 :Int.toNat (Int.ofNat 0)=0:=rfl
theorem Lm {h:Hp} {M:MSl} {m:ah} {R:Value->Hp->Prop} (hs:aO h M m) (hm:bW m) (k:R (.bool (cv m.nodes)) h):lb #[aQ M] h R:=by
 refine ACalls.drop (yh ?_)
 refine uf_ ?_
 have hn:=hs.nodes.len
 have hcap:=hs.cap
 have hns:=hm.nodes
 refine aj fun b7 h1 hb7 l1 f7=>?_
 have lf: ∀{h'':Hp} {q:Bool},h.le h''->q=cv m.nodes-> ∃h':Hp,h'.le h''/\R (.bool q) h':=fun l e=>⟨_,l,e▸k⟩
 clear k
 repeat' (refine az ?_)
 refine av m.nodes.length (fun i vs h'=>vs= [.pointer (some ⟨b7,0,none⟩),M.no.v,I M.no.n,I i]/\h.le h'/\h' b7=some (.inl ⟨aw M,5,false⟩)/\
  ∀(j:Nat) (n:NodeP),j<i->m.nodes[j]?=some n->cW (m.nodes.take j) n=some n.sort) ⟨rfl,l1,f7,fun j n hj=>by omega⟩ ?_
 clear f7 l1 hb7 h1
 rintro i _ h1 next hi ⟨rfl,l1,f7,hg⟩ hnx
 refine⟨_,_,M.no,_,_,rfl,?_⟩
 by_cases hlt:i<m.nodes.length
 ·refine aM (by simp;omega) ?_
  obtain⟨n,hni⟩: ∃n,m.nodes[i]?=some n:=⟨_,List.getElem?_eq_getElem hlt⟩
  have hmem:=List.mem_of_getElem? hni
  obtain⟨b,o,ha,c0,c1,c2,c3,c4,c5,c6,c7,c8⟩:=(hs.nodes.mono l1).at hni
  simp only [vm]
  refine⟨b,o,ha,by omega,_,c0,_,c1,_,c2,_,c3,_,c4,_,c5,_,c6,_,c7,_,c8,?_⟩
  refine aj fun b9 h2 hb9 l2 f9'=>?_
  have n9:b7≠b9:=fresh_ne hb9 f7
  replace f7:=l2 _ _ f7
  (with_reducible apply bZ);(exact f9');(exact Hp.le_trans l1 l2);(exact aF l1 hb9);(decide)
  intro h3 f9 kp l3
  replace f7:=ck kp n9 f7
  clear l2 kp f9' hb9
  generalize ho:cW (m.nodes.take i) n=oo
  refine ap (fun J=> ∀b' h',h.le h'->h' b7=some (.inl ⟨aw M,5,false⟩)->h' b9=some (.inl ⟨nodeCells n,9,false⟩)->h' b'=some (.inl ⟨[I (oo.getD ⟨0,0⟩).idx,I (oo.getD ⟨0,0⟩).wid],2,false⟩)->J b' 0 oo.isSome h') ?_ (fun J hJ=>?_)
  ·intro b' h' l' f7' f9' fb'
   refine ap (fun J=>J ((!oo.isSome)||(!(((oo.getD ⟨0,0⟩).idx==n.sort.idx)&&(((oo.getD ⟨0,0⟩).wid==n.sort.wid)&&true))))) ?_ (fun J hJ=>?_)
   ·refine ac (fun e=>lf l' ?_) (fun e=>?_)
    ·rw [Av hni (by rw [ho];exact L9 (by simpa [Bool.or_eq_true] using e))]
    ·rw [aC (by omega)]
     refine hnx hlt _ _ ⟨rfl,l',f7',fun j n' hj hn'=>?_⟩
     by_cases hji:j=i
     ·subst hji
      rw [hni]at hn';cases hn'
      rw [Bool.or_eq_false_iff]at e
      rw [ho];exact Ow e.1 e.2
     ·exact hg j n' (by omega) hn'
   ·refine ac (fun e=>?_) (fun e=>?_)
    ·rw [e,Bool.true_or]at hJ;exact hJ
    ·rw [e,Bool.false_or]at hJ
     repeat' (refine az ?_)
     exact hJ
  ·(refine az ?_)
   refine⟨by decide,by simp,by omega, .inr ⟨b,o,ha,?_⟩⟩
   simp only [z0,vm,Nat.sub_zero,Nat.zero_mul,Nat.add_zero,ite_self]
   repeat' (refine az ?_)
   have hts:jr h ⟨some ⟨b,o,none⟩,i,M.no.c⟩ (m.nodes.take i):=jr.take hs.nodes ha (by omega) _
   constructor
   ·refine sr (s:=⟨some ⟨b,o,none⟩,i,M.no.c⟩) (n:=n) (hts.mono l3) (hm.names n hmem) (by simp;omega) ?_
    rw [ho,yJ]
    refine⟨_,_,_,rfl,?_⟩
    refine aj fun b4 h4 hb4 l4 f4=>?_
    have n7:=fresh_ne hb4 f7
    have n9:=fresh_ne hb4 f9
    refine⟨by rw [l4 _ _ f9,f9],by rw [l4 _ _ f7,f7],?_⟩
    (with_reducible apply bZ);(assumption);(exact Hp.le_trans l3 l4);(exact aF l3 hb4);(decide)
    intro h5 f5 kp l5
    exact hJ b4 h5 l5 (ck kp n7 (l4 _ _ f7)) (ck kp n9 (l4 _ _ f9)) f5
   ·refine aj fun b4 h4 hb4 l4 f4=>?_
    have n7:=fresh_ne hb4 f7
    have n9:=fresh_ne hb4 f9
    refine⟨by rw [l4 _ _ f9,f9],by rw [l4 _ _ f7,f7],?_⟩
    refine sr (s:=⟨some ⟨b,o,none⟩,i,M.no.c⟩) (n:=n) (hts.mono (Hp.le_trans l3 l4)) (hm.names n hmem) (by simp;omega) ?_
    rw [ho,yJ]
    refine⟨_,_,_,rfl,?_⟩
    (with_reducible apply bZ);(assumption);(exact Hp.le_trans l3 l4);(exact aF l3 hb4);(decide)
    intro h5 f5 kp l5
    exact hJ b4 h5 l5 (ck kp n7 (l4 _ _ f7)) (ck kp n9 (l4 _ _ f9)) f5
 ·refine aE (by simp;omega) (lf l1 ?_)
  symm
  refine qr.2 fun j n hn'=>hg j n ?_ hn'
  have:=get_lt hn';omega
theorem Lq {h:Hp} {M:MSl} {m:ah} {R:Value->Hp->Prop} (hs:aO h M m) (hm:bW m) (k:R (.bool (cv m.nodes)) h):sg #[aQ M] h R:=by
 refine ACalls.drop (Hy ?_)
 refine uf_ ?_
 have hn:=hs.nodes.len
 have hcap:=hs.cap
 have hns:=hm.nodes
 refine aj fun b7 h1 hb7 l1 f7=>?_
 have lf: ∀{h'':Hp} {q:Bool},h.le h''->q=cv m.nodes-> ∃h':Hp,h'.le h''/\R (.bool q) h':=fun l e=>⟨_,l,e▸k⟩
 clear k
 refine av m.nodes.length (fun i vs h'=>vs= [.pointer (some ⟨b7,0,none⟩),I i]/\h.le h'/\h' b7=some (.inl ⟨aw M,5,false⟩)/\
  ∀(j:Nat) (n:NodeP),j<i->m.nodes[j]?=some n->cW (m.nodes.take j) n=some n.sort) ⟨rfl,l1,f7,fun j n hj=>by omega⟩ ?_
 clear f7 l1 hb7 h1
 rintro i _ h3 next hi ⟨rfl,l3,f7,hg⟩ hnx
 refine⟨_,_,_,rfl,?_⟩
 (refine az ?_)
 by_cases hlt:i<m.nodes.length
 ·refine aM (by simp;omega) ?_
  obtain⟨n,hni⟩: ∃n,m.nodes[i]?=some n:=⟨_,List.getElem?_eq_getElem hlt⟩
  have hmem:=List.mem_of_getElem? hni
  obtain⟨b,o,ha,c0,c1,c2,c3,c4,c5,c6,c7,c8⟩:=(hs.nodes.mono l3).at hni
  generalize ho:cW (m.nodes.take i) n=oo
  refine ap (fun J=> ∀b' h',h.le h'->h' b7=some (.inl ⟨aw M,5,false⟩)->Hp.cell h' b ((o+i*9)+6)=some (I n.sort.idx)->Hp.cell h' b ((o+i*9)+7)=some (I n.sort.wid)->h' b'=some (.inl ⟨[I (oo.getD ⟨0,0⟩).idx,I (oo.getD ⟨0,0⟩).wid],2,false⟩)->J b' 0 oo.isSome h') ?_ (fun J hJ=>?_)
  ·intro b' h' l' f7' c6' c7' fb'
   refine ac (fun e=>lf l' ?_) (fun e=>?_)
   ·rw [Av hni (by rw [ho];exact L9 (.inl e))]
   ·repeat' (refine az ?_)
    refine⟨b,o,ha,by omega,by omega,?_⟩
    simp only [vm,c6',c7']
    refine ac (fun e2=>lf l' ?_) (fun e2=>?_)
    ·rw [Av hni (by rw [ho];exact L9 (.inr e2))]
    ·rw [aC (by omega)]
     refine hnx hlt _ _ ⟨rfl,l',f7',fun j n' hj hn'=>?_⟩
     by_cases hji:j=i
     ·subst hji
      rw [hni]at hn';cases hn'
      rw [ho];exact Ow e e2
     ·exact hg j n' (by omega) hn'
  ·repeat' (refine az ?_)
   refine⟨by decide,by simp,by omega, .inr ⟨b,o,ha,?_⟩⟩
   simp only [z0,vm,Nat.sub_zero,Nat.zero_mul,Nat.add_zero,ite_self]
   repeat' (refine az ?_)
   refine⟨b,o,ha,by omega,_,c0,_,c1,_,c2,_,c3,_,c4,_,c5,_,c6,_,c7,_,c8,?_⟩
   have hts:jr h ⟨some ⟨b,o,none⟩,i,M.no.c⟩ (m.nodes.take i):=jr.take hs.nodes ha (by omega) _
   have hbb: ∀h4:Hp,h3.le h4->h4 b=h3 b:=fun h4 l4=>by
    unfold Hp.cell at c0
    split at c0
    ·rename_i r hr;rw [l4 _ _ hr,hr]
    ·cases c0
   constructor
   ·refine m8 (s:=⟨some ⟨b,o,none⟩,i,M.no.c⟩) (n:=n) (hts.mono l3) (by simp;omega) ?_
    rw [ho,yJ]
    refine⟨_,_,_,rfl,?_⟩
    refine aj fun b4 h4 hb4 l4 f4=>?_
    have n7:=fresh_ne hb4 f7
    have nb:=vh hb4 c0
    refine⟨hbb _ l4,by rw [l4 _ _ f7,f7],by rw [l4 _ _ f7,f7],?_⟩
    (with_reducible apply bZ);(assumption);(exact Hp.le_trans l3 l4);(exact aF l3 hb4);(decide)
    intro h5 f5 kp l5
    have e5:h5 b=h3 b:=by rw [kp b nb,hbb _ l4]
    exact hJ b4 h5 l5 (ck kp n7 (l4 _ _ f7)) (by unfold Hp.cell;rw [e5];exact c6) (by unfold Hp.cell;rw [e5];exact c7) f5
   ·refine aj fun b4 h4 hb4 l4 f4=>?_
    have n7:=fresh_ne hb4 f7
    have nb:=vh hb4 c0
    refine⟨hbb _ l4,by rw [l4 _ _ f7,f7],by rw [l4 _ _ f7,f7],?_⟩
    refine m8 (s:=⟨some ⟨b,o,none⟩,i,M.no.c⟩) (n:=n) (hts.mono (Hp.le_trans l3 l4)) (by simp;omega) ?_
    rw [ho,yJ]
    refine⟨_,_,_,rfl,?_⟩
    (with_reducible apply bZ);(assumption);(exact Hp.le_trans l3 l4);(exact aF l3 hb4);(decide)
    intro h5 f5 kp l5
    have e5:h5 b=h3 b:=by rw [kp b nb,hbb _ l4]
    exact hJ b4 h5 l5 (ck kp n7 (l4 _ _ f7)) (by unfold Hp.cell;rw [e5];exact c6) (by unfold Hp.cell;rw [e5];exact c7) f5
 ·refine aE (by simp;omega) (lf l3 ?_)
  symm
  refine qr.2 fun j n hn'=>hg j n ?_ hn'
  have:=get_lt hn';omega
theorem uO {α:Type} [DecidableEq α] {l:List α}:jI l=true↔ ∃(i:Nat) (x:α),l[i]?=some x/\x∈l.take i:=by
 unfold jI
 rw [List.any_eq_true]
 constructor
 ·rintro ⟨i,hi,h⟩
  cases hx:l[i]? with
  |none=>rw [hx]at h;cases h
  |some x=>rw [hx]at h;exact⟨i,x,hx,by simpa using h⟩
 ·rintro ⟨i,x,hx,hm⟩
  exact⟨i,List.mem_range.2 (get_lt hx),by rw [hx];simpa using hm⟩
theorem uf {l:List NodeP}:lv l=true↔ ∃(i:Nat) (n:NodeP),l[i]?=some n/\n.name.size≠0/\ ∃y∈l.take i,y.name=n.name:=by
 unfold lv
 rw [List.any_eq_true]
 constructor
 ·rintro ⟨i,hi,h⟩
  cases hx:l[i]? with
  |none=>rw [hx]at h;cases h
  |some x=>rw [hx]at h;simp only [Bool.and_eq_true,decide_eq_true_eq,List.any_eq_true]at h;exact⟨i,x,hx,h.1,h.2⟩
 ·rintro ⟨i,x,hx,h1,h2⟩
  exact⟨i,List.mem_range.2 (get_lt hx),by rw [hx];simp only [Bool.and_eq_true,decide_eq_true_eq,List.any_eq_true];exact⟨h1,h2⟩⟩
theorem acs (a b:ByteArray):(ByteArray.toList a==ByteArray.toList b)=decide (a=b):=by
 rcases a with ⟨⟨x⟩⟩;rcases b with ⟨⟨y⟩⟩
 rw [lk,lk,Bool.eq_iff_iff];simp
theorem PW (a b:ByteArray):(a==b)=decide (a=b):=by
 rcases a with ⟨x⟩;rcases b with ⟨y⟩
 show ((x==y):Bool)=_
 rw [Bool.eq_iff_iff];simp
instance : LawfulBEq ByteArray where
 rfl:=by intro a;rw [PW];simp
 eq_of_beq:=by intro a b h;rw [PW]at h;simpa using h
def Ar (set:List ByteArray):List (Value×Value):=set.map fun x=>(.string x, .bool true)
theorem Oc (set:List ByteArray) (n:ByteArray): ∃res,fP (Instr.sameNow .string (.string n)) (Ar set) 0=some res/\Option.getD (Option.map (fun p=>p.2) res) (.bool false)= .bool (decide (n∈set))/\
  vQ (Ar set) (.string n) (.bool true) res=Ar (if n∈set then set else set++ [n]):=by
 unfold Ar
 rcases qq (Instr.sameNow .string (.string n)) (fun x:ByteArray=> .string x) (fun _=> .bool true) (fun x=>n==x) set 0 (fun x _=>rfl)with ⟨hno,hm⟩|⟨j,hj,hyes,_,hm⟩
 ·have hc:n∉set:=by
   intro h
   have:=hno n h
   simp at this
  exact⟨_,hm,by rw [decide_eq_false hc];rfl,by rw [if_neg hc];simp [vQ]⟩
 ·have he:n=set[j]:=by rw [PW]at hyes;simpa using hyes
  have hc:n∈set:=by rw [he];simp
  refine⟨_,hm,by rw [decide_eq_true hc];rfl,?_⟩
  rw [if_pos hc]
  simp only [vQ,Nat.zero_add]
  apply List.ext_getElem
  ·simp
  ·intro i h1 h2
   rw [List.getElem_set]
   split
   ·rename_i hij;subst hij;simp [he]
   ·rfl
theorem BA {h:Hp} {s:Sl} {l:List BindP} {R:Value->Hp->Prop} (hs:rp h s l) (hl:l.length<=1048576) (k:R (.bool (jI (l.map (·.state)))) h):pg #[s.v] h R:=by
 apply Hz
 refine uf_ ?_
 have hn:=hs.len
 refine av l.length (fun i vs h'=>vs= [s.v,I i]/\h'=h/\ ∀(i' j':Nat) (x y:BindP),i'<i->j'<i'->l[i']?=some x->l[j']?=some y->x.state≠y.state) ⟨rfl,rfl,fun i' j' x y h=>by omega⟩ ?_
 rintro i _ h' next hi ⟨rfl,rfl,hg⟩ hnx
 refine⟨s,_,rfl,?_⟩
 by_cases hlt:i<l.length
 ·refine aM (by simp;omega) ?_
  obtain⟨x,hx⟩: ∃n,l[i]?=some n:=⟨_,List.getElem?_eq_getElem hlt⟩
  refine av i (fun j vs h2=>vs= [s.v,I i,I j]/\h2=h'/\ ∀(j':Nat) (y:BindP),j'<j->l[j']?=some y->x.state≠y.state) ⟨rfl,rfl,fun j' y h=>by omega⟩ ?_
  rintro j _ h' next2 hj ⟨rfl,rfl,hg2⟩ hnx2
  refine⟨s,_,_,rfl,?_⟩
  by_cases hjlt:j<i
  ·refine aM (by simp;omega) ?_
   obtain⟨y,hy⟩: ∃n,l[j]?=some n:=⟨_,List.getElem?_eq_getElem (by omega)⟩
   obtain⟨b,o,ha,c0,_⟩:=hs.at hx
   obtain⟨b',o',ha',c0',_⟩:=hs.at hy
   simp only [vm]
   refine⟨b,o,ha,by omega,b',o',ha',by omega,?_⟩
   simp only [vm,c0,c0']
   refine ac (fun e=>dt ?_ k) (fun e=>?_)
   ·symm
    refine uO.2 ⟨i,x.state,by rw [List.getElem?_map,hx];rfl,?_⟩
    rw [<-List.map_take,List.mem_map]
    exact⟨y,List.mem_of_getElem? (i:=j) (by rw [List.getElem?_take_of_lt hjlt];exact hy),(bV e).symm⟩
   ·rw [aC (by omega)]
    refine hnx2 hjlt _ _ ⟨rfl,rfl,fun j' z hj' hz=>?_⟩
    by_cases hjj:j'=j
    ·subst hjj;rw [hy]at hz;cases hz;exact bk e
    ·exact hg2 j' z (by omega) hz
  ·refine aE (by simp;omega) ?_
   rw [aC (by omega)]
   refine hnx hlt _ _ ⟨rfl,rfl,fun i' j' x' y' hi' hj' hx' hy'=>?_⟩
   by_cases hii:i'=i
   ·subst hii;rw [hx]at hx';cases hx'
    exact hg2 j' y' (by omega) hy'
   ·exact hg i' j' x' y' (by omega) hj' hx' hy'
 ·refine aE (by simp;omega) (dt ?_ k)
  symm
  rw [Bool.eq_false_iff]
  intro h
  obtain⟨i',x,hx,hm⟩:=uO.1 h
  rw [List.getElem?_map]at hx
  rw [<-List.map_take,List.mem_map]at hm
  obtain⟨y,hy,hxy⟩:=hm
  obtain⟨j',hj',hyj⟩:=List.getElem_of_mem hy
  cases hz:l[i']? with
  |none=>rw [hz]at hx;cases hx
  |some z=>
   rw [hz]at hx;cases hx
   have hlt':=get_lt hz
   rw [List.length_take]at hj'
   refine hg i' j' z y (by omega) (by omega) hz ?_ hxy.symm
   rw [List.getElem_take]at hyj
   rw [<-hyj];exact List.getElem?_eq_getElem (by omega)
theorem Dd (m:ah):uj m=(lv m.nodes||(jI (m.inits.map (·.state))||jI (m.nexts.map (·.state)))):=rfl
theorem Rw {l:List NodeP} (hg: ∀(i' j':Nat) (x y:NodeP),j'<i'->l[i']?=some x->l[j']?=some y->x.name.size=0\/x.name≠y.name):lv l=false:=by
 rw [Bool.eq_false_iff]
 intro h
 obtain⟨i',x,hx,h0,y,hy,hxy⟩:=uf.1 h
 obtain⟨j',hj',hyj⟩:=List.getElem_of_mem hy
 have hlt':=get_lt hx
 rw [List.length_take]at hj'
 rw [List.getElem_take]at hyj
 rcases hg i' j' x y (by omega) hx (by rw [<-hyj];exact List.getElem?_eq_getElem (by omega))with h|h
 ·exact h0 h
 ·exact h hxy.symm
theorem VT {l:List NodeP} {i j:Nat} {x y:NodeP} (hj:j<i) (hx:l[i]?=some x) (hy:l[j]?=some y) (h0:x.name.size≠0) (h:x.name=y.name):lv l=true:=
 uf.2 ⟨i,x,hx,h0,y,List.mem_of_getElem? (i:=j) (by rw [List.getElem?_take_of_lt hj];exact hy),h.symm⟩
theorem LJ {h:Hp} {M:MSl} {m:ah} {R:Value->Hp->Prop} (hs:aO h M m) (hm:bW m) (k:R (.bool (uj m)) h):sd #[aQ M] h R:=by
 refine ACalls.drop (Gw ?_)
 refine uf_ ?_
 have hn:=hs.nodes.len
 have hns:=hm.nodes
 refine aj fun b7 h1 hb7 l1 f7=>?_
 have lf: ∀{q:Bool},q=uj m-> ∃h':Hp,h'.le h1/\R (.bool q) h':=fun e=>⟨_,l1,e▸k⟩
 clear k
 rw [Dd]at lf
 refine av m.nodes.length (fun i vs h'=>vs= [.pointer (some ⟨b7,0,none⟩),I i]/\h'=h1/\
  ∀(i' j':Nat) (x y:NodeP),i'<i->j'<i'->m.nodes[i']?=some x->m.nodes[j']?=some y->x.name.size=0\/x.name≠y.name) ⟨rfl,rfl,fun i' j' x y h=>by omega⟩ ?_
 rintro i _ h' next hi ⟨rfl,rfl,hg⟩ hnx
 refine⟨_,_,_,rfl,?_⟩
 (refine az ?_)
 by_cases hlt:i<m.nodes.length
 ·refine aM (by simp;omega) ?_
  obtain⟨x,hx⟩: ∃n,m.nodes[i]?=some n:=⟨_,List.getElem?_eq_getElem hlt⟩
  refine av i (fun j vs h2=>vs= [.pointer (some ⟨b7,0,none⟩),I i,I j]/\h2=h'/\ ∀(j':Nat) (y:NodeP),j'<j->m.nodes[j']?=some y->x.name.size=0\/x.name≠y.name) ⟨rfl,rfl,fun j' y h=>by omega⟩ ?_
  rintro j _ h2 next2 hj ⟨rfl,rfl,hg2⟩ hnx2
  refine⟨_,_,_,_,rfl,?_⟩
  by_cases hjlt:j<i
  ·refine aM (by simp;omega) ?_
   obtain⟨y,hy⟩: ∃n,m.nodes[j]?=some n:=⟨_,List.getElem?_eq_getElem (by omega)⟩
   obtain⟨b,o,ha,_,_,_,_,_,_,_,_,c8⟩:=(hs.nodes.mono l1).at hx
   obtain⟨b',o',ha',_,_,_,_,_,_,_,_,c8'⟩:=(hs.nodes.mono l1).at hy
   have nx:x.name.size=0\/x.name≠y.name->next2 [.pointer (some ⟨b7,0,none⟩),I i,I (W ((j:Int)+1))] h2:=fun hxy=>by
    rw [aC (by omega)]
    refine hnx2 hjlt _ _ ⟨rfl,rfl,fun j' z hj' hz=>?_⟩
    by_cases hjj:j'=j
    ·subst hjj;rw [hy]at hz;cases hz;exact hxy
    ·exact hg2 j' z (by omega) hz
   (refine az ?_)
   refine⟨b,o,ha,by omega,by omega,?_⟩
   simp only [vm,c8,xq]
   refine ac (fun e=>?_) (fun e=>nx (.inl (by simpa using e)))
   (refine az ?_)
   refine⟨b,o,ha,by omega,_,c8,?_⟩
   (refine az ?_)
   refine⟨b',o',ha',by omega,_,c8',?_⟩
   rw [acs]
   refine ac (fun e2=>lf ?_) (fun e2=>nx (.inr (by simpa using e2)))
   rw [VT hjlt hx hy (by simpa using e) (by simpa using e2)];rfl
  ·refine aE (by simp;omega) ?_
   rw [aC (by omega)]
   refine hnx hlt _ _ ⟨rfl,rfl,fun i' j' x' y' hi' hj' hx' hy'=>?_⟩
   by_cases hii:i'=i
   ·subst hii;rw [hx]at hx';cases hx'
    exact hg2 j' y' (by omega) hy'
   ·exact hg i' j' x' y' (by omega) hj' hx' hy'
 ·refine aE (by simp;omega) ?_
  rw [Rw (fun i' j' x y hj hx hy=>hg i' j' x y (by have:=get_lt hx;omega) hj hx hy),Bool.false_or]at lf
  repeat' (refine az ?_)
  refine BA (hs.inits.mono l1) hm.inits ⟨_,rfl,ac (fun e=>lf (by rw [e,Bool.true_or])) (fun e=>?_)⟩
  rw [e,Bool.false_or]at lf
  repeat' (refine az ?_)
  exact BA (hs.nexts.mono l1) hm.nexts ⟨_,rfl,lf rfl⟩
theorem QN {h h0:Hp} {b:Nat} {x:Option Blk} {P:Hp->Prop} (l:h0.le h) (hb:h0 b=none)
  (k: ∀h',h' b=x->(∀c,c≠b->h' c=h c)->h0.le h'->P h'):cz (h.set b x) fun h'=>P h':=
 k _ (Hp.set_eq ..) (fun c e=>Hp.set_ne _ _ e) (ny _ l hb)
theorem Q3 {h:Hp} {P:Nat->Hp->Prop} (k: ∀b h',h b=none->h.le h'->h' b=some (.inr [])->P b h'): ∀b,h b=none->cz (h.set b (some (.inr []))) fun h'=>P b h':=
 fun b hb=>k b _ hb (Hp.le_set _ hb) (Hp.set_eq ..)
def rz (m:ah):Nat->List BindP
 |0=>m.inits
 |_=>m.nexts
def Iq (M:MSl):Nat->Sl
 |0=>M.ini
 |_=>M.nex
theorem WS {l:List Int} (h: ∀(i:Nat) (x:Int),l[i]?=some x->x∉l.take i):jI l=false:=by
 rw [Bool.eq_false_iff]
 intro hh
 obtain⟨i,x,hx,hm⟩:=uO.1 hh
 exact h i x hx hm
theorem O3 {h:Hp} {M:MSl} {m:ah} {R:Value->Hp->Prop} (hs:aO h M m) (hm:bW m) (k:R (.bool (uj m)) h):nr #[aQ M] h R:=by
 refine ACalls.drop (AN ?_)
 refine uf_ ?_
 have hn:=hs.nodes.len
 have hns:=hm.nodes
 refine aj fun b7 h1 hb7 l1 f7=>?_
 have lf: ∀{h'':Hp} {q:Bool},h.le h''->q=uj m-> ∃h':Hp,h'.le h''/\R (.bool q) h':=fun l e=>⟨_,l,e▸k⟩
 clear k
 rw [Dd]at lf
 refine Q3 fun b10 h2 hb10 l2 f10=>?_
 have n7:=fresh_ne hb10 f7
 have b10n:=aF l1 hb10
 replace f7:=l2 _ _ f7
 replace l2:=Hp.le_trans l1 l2
 (refine az ?_)
 refine av m.nodes.length (fun i vs h'=> ∃set:List ByteArray,vs= [.pointer (some ⟨b7,0,none⟩), .map (some b10),M.no.v,I M.no.n,I i]/\h.le h'/\h' b7=some (.inl ⟨aw M,5,false⟩)/\h' b10=some (.inr (Ar set))/\
  (∀x,x∈set↔ ∃y∈m.nodes.take i,y.name=x)/\
  ∀(i':Nat) (x:NodeP),i'<i->m.nodes[i']?=some x->x.name.size≠0-> ∀y∈m.nodes.take i',y.name≠x.name) ⟨[],rfl,l2,f7,f10,by simp,fun i' x h=>by omega⟩ ?_
 clear f7 f10 l1 l2 hb7 hb10 h1 h2
 rintro i _ h1 next hi ⟨set,rfl,l1,f7,f10,hset,hg⟩ hnx
 refine⟨_,_,_,M.no,_,_,rfl,?_⟩
 by_cases hlt:i<m.nodes.length
 ·refine aM (by simp;omega) ?_
  obtain⟨n,hni⟩: ∃n,m.nodes[i]?=some n:=⟨_,List.getElem?_eq_getElem hlt⟩
  obtain⟨b,o,ha,c0,c1,c2,c3,c4,c5,c6,c7,c8⟩:=(hs.nodes.mono l1).at hni
  simp only [vm]
  refine⟨b,o,ha,by omega,_,c0,_,c1,_,c2,_,c3,_,c4,_,c5,_,c6,_,c7,_,c8,?_⟩
  refine aj fun b9 h2 hb9 l2 f9'=>?_
  have n79:b7≠b9:=fresh_ne hb9 f7
  have n109:b10≠b9:=fresh_ne hb9 f10
  replace f7:=l2 _ _ f7
  replace f10:=l2 _ _ f10
  (with_reducible apply bZ);(exact f9');(exact Hp.le_trans l1 l2);(exact aF l1 hb9);(decide)
  intro h3 f9 kp l3
  replace f7:=ck kp n79 f7
  replace f10:=ck kp n109 f10
  clear l2 kp f9' hb9
  obtain⟨res,hm1,hm2,hm3⟩:=Oc set n.name
  refine ap (fun J=>J (decide (n.name.size≠0)&&decide (n.name∈set))) ?_ (fun J hJ=>?_)
  ·refine ac (fun e=>lf l3 ?_) (fun e=>?_)
   ·have e':n.name.size≠0/\n.name∈set:=by simpa only [Bool.and_eq_true,decide_eq_true_eq] using e
    obtain⟨y,hy,hyn⟩:=(hset _).1 e'.2
    rw [uf.2 ⟨i,n,hni,e'.1,y,hy,hyn⟩];rfl
   ·(refine az ?_)
    refine⟨b10,Ar set,res,rfl,f10,hm1,?_⟩
    rw [hm3]
    refine QN l3 b10n fun h4 f10' kp l4=>?_
    rw [aC (by omega)]
    refine hnx hlt _ _ ⟨_,rfl,l4,ck kp n7 f7,f10',fun x=>?_,fun i' x hi' hx h0 y hy=>?_⟩
    ·rw [List.take_succ_eq_append_getElem hlt]
     have hgi:m.nodes[i]=n:=by rw [List.getElem?_eq_getElem hlt]at hni;exact Option.some.inj hni
     rw [hgi]
     have hde:=e
     have key:x∈set\/x=n.name↔ ∃y∈m.nodes.take i++ [n],y.name=x:=by
      rw [hset]
      constructor
      ·rintro (⟨y,hy,e⟩|e)
       ·exact⟨y,List.mem_append_left _ hy,e⟩
       ·exact⟨n,by simp,e.symm⟩
      ·rintro ⟨y,hy,e⟩
       rcases List.mem_append.1 hy with hy|hy
       ·exact .inl ⟨y,hy,e⟩
       ·have hyn:y=n:=by simpa using hy
        exact .inr (by rw [<-e,hyn])
     rw [<-key]
     split
     ·rename_i hin
      constructor
      ·exact .inl
      ·rintro (h|h)
       ·exact h
       ·rw [h];exact hin
     ·simp
    ·by_cases hii:i'=i
     ·subst hii
      rw [hni]at hx;cases hx
      intro he
      have:n.name∈set:=(hset _).2 ⟨y,hy,he⟩
      rw [decide_eq_true h0,decide_eq_true this]at e;cases e
     ·exact hg i' x (by omega) hx h0 y hy
  ·(refine az ?_)
   rw [xq]
   refine ac (fun e=>?_) (fun e=>?_)
   ·(refine az ?_)
    have h0:n.name.size≠0:=by simpa only [Bool.not_eq_true',decide_eq_false_iff_not] using e
    rw [decide_eq_true h0,Bool.true_and]at hJ
    exact⟨b10,Ar set,res,rfl,f10,hm1,_,hm2,hJ⟩
   ·have h0:n.name.size=0:=by simpa only [Bool.not_eq_false',decide_eq_true_eq] using e
    rw [decide_eq_false (fun h=>h h0),Bool.false_and]at hJ;exact hJ
 ·refine aE (by simp;omega) ?_
  rw [Rw (fun i' j' x y hj hx hy=>?_),Bool.false_or]at lf
  rotate_left
  ·by_cases h0:x.name.size=0
   ·exact .inl h0
   ·refine .inr fun he=>hg i' x (by have:=get_lt hx;omega) hx h0 y (List.mem_of_getElem? (i:=j') (by rw [List.getElem?_take_of_lt hj];exact hy)) he.symm
  clear hnx hg hset f10 n7 b10n
  repeat' (refine az ?_)
  refine aj fun b65 h2 hb65 l2 f65=>?_
  replace l2:=Hp.le_trans l1 l2
  have hbl: ∀k,(rz m k).length<=1048576:=fun k=>match k with|0=>hm.inits|_+1=>hm.nexts
  have hbs: ∀k,rp h (Iq M k) (rz m k):=fun k=>match k with|0=>hs.inits|_+1=>hs.nexts
  have htw: ∀k,k<2->jI ((rz m k).map (·.state))=true->true=(jI (m.inits.map (·.state))||jI (m.nexts.map (·.state))):=fun k hk hag=>by
   cases k with
   |zero=>rw [show rz m 0=m.inits from rfl]at hag;rw [hag];rfl
   |succ k=>rw [show rz m (k+1)=m.nexts from rfl]at hag;rw [hag,Bool.or_true]
  refine av 2 (fun k vs h'=>vs= [.slice (some ⟨b65,0,none⟩) 2 2,I 2,I k]/\h.le h'/\h' b65=some (.inl ⟨[M.ini.v,M.nex.v],2,false⟩)/\
   ∀k':Nat,k'<k->jI ((rz m k').map (·.state))=false) ⟨rfl,l2,f65,fun k' h=>by omega⟩ ?_
  clear l2 f65 hb65 h2 l1 f7 hi
  rintro k _ h2 next2 hk ⟨rfl,l2,f65,hg⟩ hnx
  refine⟨⟨_,_,_⟩,_,_,rfl,?_⟩
  by_cases hk2:k<2
  ·refine aM (by simp;omega) ?_
   have hc:Hp.cell h2 b65 k=some (Iq M k).v:=by
    rw [aq f65]
    obtain rfl|rfl:k=0\/k=1:=by omega
    all_goals rfl
   have hlen:=(hbs k).len
   have hbk:=hbl k
   simp only [vm,hc]
   refine⟨by omega,?_⟩
   refine Q3 fun bm h3 hbm l3 fm=>?_
   have nm:=fresh_ne hbm f65
   have bmn:=aF l2 hbm
   refine av (rz m k).length (fun i vs h'=> ∃set:List Int,vs= [.map (some bm), .slice (some ⟨b65,0,none⟩) 2 2,I 2,I k,(Iq M k).v,I (Iq M k).n,I i]/\h.le h'/\h' b65=some (.inl ⟨[M.ini.v,M.nex.v],2,false⟩)/\h' bm=some (.inr (Bx set))/\
    (∀x,x∈set↔x∈((rz m k).map (·.state)).take i)/\
    ∀(i':Nat) (x:Int),i'<i->((rz m k).map (·.state))[i']?=some x->x∉((rz m k).map (·.state)).take i') ⟨[],rfl,Hp.le_trans l2 l3,l3 _ _ f65,fm,by simp,fun i' x h=>by omega⟩ ?_
   clear f65 fm l2 l3 hbm h2 h3 hc
   rintro i _ h2 next3 hi ⟨set,rfl,l2,f65,fm,hset,hg2⟩ hnx3
   refine⟨_,⟨_,_,_⟩,_,_,Iq M k,_,_,rfl,?_⟩
   by_cases hlt:i<(rz m k).length
   ·refine aM (by simp;omega) ?_
    obtain⟨x,hx⟩: ∃n,(rz m k)[i]?=some n:=⟨_,List.getElem?_eq_getElem hlt⟩
    obtain⟨b,o,ha,c0,c1⟩:=((hbs k).mono l2).at hx
    simp only [vm]
    refine⟨b,o,ha,by omega,_,c0,_,c1,?_⟩
    refine aj fun b9 h3 hb9 l3 f9'=>?_
    have n659:b65≠b9:=fresh_ne hb9 f65
    have nm9:bm≠b9:=fresh_ne hb9 fm
    replace f65:=l3 _ _ f65
    replace fm:=l3 _ _ fm
    (with_reducible apply bZ);(exact f9');(exact Hp.le_trans l2 l3);(exact aF l2 hb9);(decide)
    intro h4 f9 kp l4
    replace f65:=ck kp n659 f65
    replace fm:=ck kp nm9 fm
    clear l3 kp f9' hb9
    obtain⟨res,hm1,hm2,hm3⟩:=R9 set x.state
    have hxs:((rz m k).map (·.state))[i]?=some x.state:=by rw [List.getElem?_map,hx];rfl
    (refine az ?_)
    refine⟨bm,Bx set,res,rfl,fm,hm1,_,hm2,ac (fun e=>lf l4 ?_) (fun e=>?_)⟩
    ·refine htw k hk2 (uO.2 ⟨i,x.state,hxs,?_⟩)
     exact(hset _).1 (by simpa using e)
    ·(refine az ?_)
     refine⟨bm,Bx set,res,rfl,fm,hm1,?_⟩
     rw [hm3,if_neg (by rw [e];decide)]
     refine QN l4 bmn fun h5 fm' kp l5=>?_
     rw [aC (by omega)]
     have hlt':i<((rz m k).map (·.state)).length:=by simpa using hlt
     refine hnx3 hlt _ _ ⟨_,rfl,l5,ck kp nm f65,fm',fun y=>?_,fun i' y hi' hy=>?_⟩
     ·rw [List.take_succ_eq_append_getElem hlt',List.mem_append,List.mem_append,hset]
      rw [List.getElem?_eq_getElem hlt']at hxs
      rw [Option.some.inj hxs]
     ·by_cases hii:i'=i
      ·subst hii
       rw [hxs]at hy;cases hy
       rw [<-hset];simpa using e
      ·exact hg2 i' y (by omega) hy
   ·refine aE (by simp;omega) ?_
    rw [aC (by omega)]
    refine hnx hk2 _ _ ⟨rfl,l2,f65,fun k' hk'=>?_⟩
    by_cases hkk:k'=k
    ·subst hkk
     refine WS fun i' y hy=>hg2 i' y ?_ hy
     have:=get_lt hy
     rw [List.length_map]at this;omega
    ·exact hg k' (by omega)
  ·refine aE (by simp;omega) (lf l2 ?_)
   have h0:=hg 0 (by omega)
   have h1:=hg 1 (by omega)
   rw [show rz m 0=m.inits from rfl]at h0
   rw [show rz m 1=m.nexts from rfl]at h1
   rw [h0,h1];rfl
theorem Ef {l:List NodeP} {n:NodeP} {t:SortP} (h:cW l n=some t):l.length<=60/\fk l.length n=true:=by
 unfold cW at h
 split at h
 ·assumption
 ·cases h
theorem ja {l:List NodeP} (h:cv l=true) {i:Nat} {n:NodeP} (hn:l[i]?=some n):fk i n=true:=by
 have:=(Ef (qr.1 h i n hn)).2
 rwa [List.length_take,Nat.min_eq_left (by have:=get_lt hn;omega)]at this
theorem nh {n:NodeP} {p:Nat} (hk:0<=ar n.kind):p∈iE n↔ ∃j:Nat,j<3/\(j:Int)<ar n.kind/\p=(aW n j).toNat:=by
 unfold iE
 have h3:=iR n.kind
 constructor
 ·intro h
  obtain⟨j,hj,rfl⟩:=List.getElem_of_mem h
  simp at hj
  refine⟨j,by omega,by omega,?_⟩
  rw [List.getElem_take]
  obtain rfl|rfl|rfl:j=0\/j=1\/j=2:=by omega
  all_goals rfl
 ·rintro ⟨j,h1,h2,rfl⟩
  refine List.mem_of_getElem? (i:=j) ?_
  rw [List.getElem?_take_of_lt (by omega)]
  obtain rfl|rfl|rfl:j=0\/j=1\/j=2:=by omega
  all_goals rfl
theorem nA {l:List NodeP} (h:cv l=true):CD l:=fun i n hn=>by
 have hf:=ja h hn
 refine⟨hE hf,fun p hp=>?_⟩
 obtain⟨j,h1,h2,rfl⟩:=(nh (hE hf)).1 hp
 have:=kN hf h1 h2
 omega
def zP (l:List NodeP) (i:Nat) (x:Bool):List Value:=(dM l i++x::List.replicate (l.length-i-1) false).map Value.bool
def Mi (l:List NodeP) (i:Nat):List Value:=(dM l i++List.replicate (l.length-i) false).map Value.bool
theorem aaE {l:List NodeP} {i:Nat} (h:i<l.length):Mi l i=zP l i false:=by
 unfold Mi zP
 rw [show l.length-i=(l.length-i-1)+1 by omega,List.replicate_succ];rfl
theorem OA (l:List NodeP) (i:Nat) (x y:Bool):(zP l i x).set i (.bool y)=zP l i y:=by
 unfold zP
 rw [List.map_append,List.map_append,List.set_append_right _ _ (by simp [iM])]
 simp [iM]
theorem XY (l:List NodeP) (i:Nat) (x:Bool):(zP l i x)[i]?=some (.bool x):=by
 unfold zP
 rw [List.map_append,List.getElem?_append_right (by simp [iM])]
 simp [iM]
theorem WF {l:List NodeP} {i p:Nat} (x:Bool) (h:p<i):(zP l i x)[p]?=some (.bool ((dM l i).getD p false)):=by
 unfold zP
 rw [List.map_append,List.getElem?_append_left (by simp [iM];exact h),List.getElem?_map,List.getD_eq_getElem?_getD,List.getElem?_eq_getElem (by rw [iM];exact h)]
 rfl
theorem Oy {l:List NodeP} {i:Nat} (x:Bool) (h:i<l.length):(zP l i x).length=l.length:=by
 unfold zP;simp [iM];omega
theorem Tk {l:List NodeP} {i:Nat} {n:NodeP} (hn:l[i]?=some n):
  zP l i (fU n.kind||((decide (0<ar n.kind)&&(dM l i).getD n.a.toNat false)||((decide (1<ar n.kind)&&(dM l i).getD n.b.toNat false)||(decide (2<ar n.kind)&&(dM l i).getD n.c.toNat false))))=Mi l (i+1):=by
 unfold zP Mi
 rw [show dM l (i+1)=dM l i++ [match l[i]? with
   |some n=>fU n.kind||((decide (0<ar n.kind)&&(dM l i).getD n.a.toNat false)||((decide (1<ar n.kind)&&(dM l i).getD n.b.toNat false)||(decide (2<ar n.kind)&&(dM l i).getD n.c.toNat false)))
   |none=>false]from rfl,hn,List.append_assoc]
 rfl
def Jh (l:List NodeP) (i:Nat) (n:NodeP):Nat->Bool
 |0=>fU n.kind
 |j+1=>Jh l i n j||(dM l i).getD (aW n j).toNat false
theorem VM {l:List NodeP} {i:Nat} {n:NodeP} (hk:0<=ar n.kind):Jh l i n (ar n.kind).toNat=
  (fU n.kind||((decide (0<ar n.kind)&&(dM l i).getD n.a.toNat false)||((decide (1<ar n.kind)&&(dM l i).getD n.b.toNat false)||(decide (2<ar n.kind)&&(dM l i).getD n.c.toNat false)))):=by
 have h3:=iR n.kind
 obtain h|h|h|h:ar n.kind=0\/ar n.kind=1\/ar n.kind=2\/ar n.kind=3:=by omega
 all_goals (rw [h];simp [Jh,aW,Bool.or_assoc])
theorem Tx {h:Hp} {M:MSl} {m:ah} {R:Value->Hp->Prop} (hs:aO h M m) (hm:bW m) (hok:cv m.nodes=true)
  (k: ∀s h',h.le h'->SlC h' s 1 ((dM m.nodes m.nodes.length).map Value.bool)->R (Sl.v s) h'):nU #[aQ M] h R:=by
 apply Cx
 refine uf_ ?_
 have hn:=hs.nodes.len
 have hns:=hm.nodes
 refine aj fun b7 h1 hb7 l1 f7=>?_
 (refine az ?_)
 refine⟨by omega,by omega,by omega,by omega,?_⟩
 refine aj fun b11 h2 hb11 l2 f11=>?_
 have n7:=fresh_ne hb11 f7
 have b11n:=aF l1 hb11
 replace f7:=l2 _ _ f7
 replace l2:=Hp.le_trans l1 l2
 (refine az ?_)
 rw [Int.toNat_natCast,Nat.mul_one]at f11
 simp only [Int.toNat_natCast]
 have f11':h2 b11=some (.inl ⟨Mi m.nodes 0,m.nodes.length,false⟩):=by
  rw [f11,hn]
  unfold Mi
  congr 3
  simp [cn,dM]
 refine av m.nodes.length (fun i vs h'=>vs= [.slice (some ⟨b11,0,none⟩) M.no.n M.no.n,M.no.v,I M.no.n,I i]/\h.le h'/\h' b11=some (.inl ⟨Mi m.nodes i,m.nodes.length,false⟩)) ⟨rfl,l2,f11'⟩ ?_
 clear f7 f11 f11' l1 l2 hb7 hb11 h1 h2
 rintro i _ h1 next hi ⟨rfl,l1,f11⟩ hnx
 refine⟨⟨some ⟨b11,0,none⟩,M.no.n,M.no.n⟩,M.no,_,_,rfl,?_⟩
 by_cases hlt:i<m.nodes.length
 ·refine aM (by simp;omega) ?_
  obtain⟨n,hni⟩: ∃n,m.nodes[i]?=some n:=⟨_,List.getElem?_eq_getElem hlt⟩
  have hf:=ja hok hni
  have hk:=hE hf
  have hk3:=iR n.kind
  obtain⟨b,o,ha,c0,c1,c2,c3,c4,c5,c6,c7,c8⟩:=(hs.nodes.mono l1).at hni
  refine⟨b,o,ha,by omega,by omega,_,c0,_,c1,_,c2,_,c3,_,c4,_,c5,_,c6,_,c7,_,c8,?_⟩
  refine aj fun b9 h2 hb9 l2 f9'=>?_
  have n119:b11≠b9:=fresh_ne hb9 f11
  replace f11:=l2 _ _ f11
  (with_reducible apply bZ);(exact f9');(exact Hp.le_trans l1 l2);(exact aF l1 hb9);(decide)
  intro h3 f9 kp l3
  replace f11:=ck kp n119 f11
  clear l2 kp f9' hb9
  (refine az ?_)
  refine HW ⟨_,rfl,?_⟩
  refine⟨b11,0,rfl,by omega,by dsimp only;omega,?_⟩
  rw [aaE hlt]at f11
  (with_reducible apply bZ);(exact f11);(exact l3);(exact b11n);(rw [Oy _ hlt];omega)
  intro h4 g11 kp l4
  simp only [vm]at g11
  rw [bG,OA]at g11
  replace f9:=ck kp n119.symm f9
  clear f11 kp l3
  have f11:=g11
  clear g11
  refine ap (fun J=> ∀b46 h',h.le h'->h' b11=some (.inl ⟨zP m.nodes i (fU n.kind),m.nodes.length,false⟩)->
   h' b46=some (.inl ⟨[I n.a,I n.b,I n.c],3,false⟩)->b46≠b11->J (Sl.mk (some ⟨b46,0,none⟩) (ar n.kind).toNat 3) (((ar n.kind).toNat:Nat):Int) h') ?_ (fun J hJ=>?_)
  rotate_left
  ·repeat' (refine az ?_)
   constructor
   ·refine aj fun b46 h5 hb46 l5 f46=>?_
    have e12:h5 b9=h4 b9:=by rw [l5 _ _ f9,f9]
    refine⟨e12,iP ⟨_,rfl,e12,e12,e12,by decide,by simpa using hk,by simpa using hk3, .inr ⟨_,_,rfl,?_⟩⟩⟩
    exact hJ b46 h5 (Hp.le_trans l4 l5) (l5 _ _ f11) f46 (fresh_ne hb46 f11).symm
   ·refine iP ⟨_,rfl,rfl,rfl,rfl,?_⟩
    refine aj fun b46 h5 hb46 l5 f46=>?_
    have e12:h5 b9=h4 b9:=by rw [l5 _ _ f9,f9]
    refine⟨e12,by decide,by simpa using hk,by simpa using hk3, .inr ⟨_,_,rfl,?_⟩⟩
    exact hJ b46 h5 (Hp.le_trans l4 l5) (l5 _ _ f11) f46 (fresh_ne hb46 f11).symm
  intro b46 h5 l5 f11 f46 n46
  refine av (ar n.kind).toNat (fun j vs h'=>vs= [.slice (some ⟨b11,0,none⟩) M.no.n M.no.n,I i,M.no.v,I M.no.n,I i, .slice (some ⟨b46,0,none⟩) (ar n.kind).toNat 3,I (ar n.kind).toNat,I j]/\h.le h'/\
   h' b11=some (.inl ⟨zP m.nodes i (Jh m.nodes i n j),m.nodes.length,false⟩)/\h' b46=some (.inl ⟨[I n.a,I n.b,I n.c],3,false⟩)) ⟨rfl,l5,f11,f46⟩ ?_
  clear l5 f11 f46 f9 l4 h5
  rintro j _ h5 next2 hj ⟨rfl,l5,f11,f46⟩ hnx2
  refine⟨⟨some ⟨b11,0,none⟩,M.no.n,M.no.n⟩,_,M.no,_,_,⟨some ⟨b46,0,none⟩,(ar n.kind).toNat,3⟩,_,_,rfl,?_⟩
  by_cases hjlt:j<(ar n.kind).toNat
  ·have h3':j<3:=by omega
   refine aM (by simp;omega) ?_
   have hr:=kN hf h3' (by omega)
   have cp:=pz f46 h3'
   have ci:Hp.cell h5 b11 i=some (.bool (Jh m.nodes i n j)):=by rw [aq f11];exact XY _ _ _
   have cq:Hp.cell h5 b11 (aW n j).toNat=some (.bool ((dM m.nodes i).getD (aW n j).toNat false)):=by rw [aq f11];exact WF _ (by omega)
   simp only [vm,cp,ci,cq]
   refine⟨by omega,by omega,?_⟩
   have nx: ∀q:Bool,q=Jh m.nodes i n (j+1)-> ∀P:Hp->Prop,(∀h',h.le h'->h' b11=some (.inl ⟨zP m.nodes i q,m.nodes.length,false⟩)->h' b46=some (.inl ⟨[I n.a,I n.b,I n.c],3,false⟩)->P h')->
     ∃(cs:List Value) (z:Nat),h5 b11=some (.inl ⟨cs,z,false⟩)/\i+1<=List.length cs/\cz (h5.row b11 (cA cs i [.bool q]) z) fun h'=>P h':=by
    intro q hq P hP
    (with_reducible apply bZ);(exact f11);(exact l5);(exact b11n);(rw [Oy _ hlt];omega)
    intro h6 f11' kp l6
    rw [bG,OA]at f11'
    exact hP h6 l6 f11' (ck kp n46 f46)
   refine ac (fun e=>?_) (fun e=>?_)
   ·refine⟨by omega,nx true (by simp only [Jh];rw [e,Bool.true_or]) _ fun h6 l6 f11 f46=>?_⟩
    rw [aC (by omega)]
    refine hnx2 hjlt _ _ ⟨rfl,l6,?_,f46⟩
    simp only [Jh];rw [e,Bool.true_or];exact f11
   ·refine⟨hr.1,by omega,by omega,nx ((dM m.nodes i).getD (aW n j).toNat false) (by simp only [Jh];rw [e,Bool.false_or]) _ fun h6 l6 f11 f46=>?_⟩
    rw [aC (by omega)]
    refine hnx2 hjlt _ _ ⟨rfl,l6,?_,f46⟩
    simp only [Jh];rw [e,Bool.false_or];exact f11
  ·have hje:j=(ar n.kind).toNat:=by omega
   subst hje
   refine aE (by simp) ?_
   rw [aC (by omega)]
   refine hnx hlt _ _ ⟨rfl,l5,?_⟩
   rw [<-Tk hni,<-VM hk];exact f11
 ·have hie:i=m.nodes.length:=by omega
  subst hie
  refine aE (by simp;omega) (k ⟨some ⟨b11,0,none⟩,M.no.n,M.no.n⟩ h1 l1 ?_)
  have ho:Mi m.nodes m.nodes.length=(dM m.nodes m.nodes.length).map Value.bool:=by unfold Mi;simp
  rw [ho]at f11
  refine⟨by show M.no.n<=_;omega,by simp [iM];omega, .inr ⟨b11,0,rfl,ay f11⟩⟩
def mkC (n:Nat) (S:Nat->Bool):List Value:=(List.range n).map fun j=> .bool (S j)
theorem yS (n:Nat) (S:Nat->Bool):(mkC n S).length=n:=by simp [mkC]
theorem MC {n i:Nat} (S:Nat->Bool) (h:i<n):(mkC n S)[i]?=some (.bool (S i)):=by simp [mkC,h]
theorem FM (n p:Nat) (S:Nat->Bool):(mkC n S).set p (.bool true)=mkC n fun j=>S j||decide (j=p):=by
 apply List.ext_getElem
 ·simp [mkC]
 ·intro i h1 h2
  rw [List.getElem_set]
  simp only [mkC,List.getElem_map,List.getElem_range]
  by_cases h:p=i
  ·rw [if_pos h,decide_eq_true h.symm,Bool.or_true]
  ·rw [if_neg h,decide_eq_false (fun e=>h e.symm),Bool.or_false]
theorem JP (n:Nat):List.replicate n (Value.bool false)=mkC n fun _=>false:=by
 apply List.ext_getElem
 ·simp [mkC]
 ·intro i h1 h2;simp [mkC]
theorem Hj {n:NodeP} (hk:0<=ar n.kind):(iE n).length=(ar n.kind).toNat:=by
 have:=iR n.kind
 unfold iE;simp;omega
theorem JW {n:NodeP} (hk:0<=ar n.kind) {j:Nat} (h:j<(ar n.kind).toNat):(iE n)[j]?=some (aW n j).toNat:=by
 have:=iR n.kind
 unfold iE
 rw [List.getElem?_take_of_lt h]
 obtain rfl|rfl|rfl:j=0\/j=1\/j=2:=by omega
 all_goals rfl
theorem N8 {h:Hp} {s:Sl} {l:List NodeP} {a:Nat} {R:Value->Hp->Prop} (hs:jr h s l) (hl:l.length<=1048576) (hok:cv l=true) (hat:a<l.length)
  (k: ∀t h',h.le h'->SlC h' t 1 (mkC l.length (jL l (a+1) fun j=>decide (j=a)))->R (Sl.v t) h'):ql #[s.v,I a] h R:=by
 apply Ad
 refine uf_ ?_
 have hn:=hs.len
 have hah:=nA hok
 obtain⟨F,hF⟩: ∃F,F=jL l (a+1) fun j=>decide (j=a):=⟨_,rfl⟩
 rw [<-hF]at k
 refine⟨by omega,by omega,by omega,by omega,?_⟩
 refine aj fun b5 h1 hb5 l1 f5=>?_
 rw [Int.toNat_natCast,Nat.mul_one,cn,JP]at f5
 refine⟨b5,0,rfl,by omega,by rw [Int.toNat_natCast];omega,?_⟩
 (with_reducible apply bZ);(exact f5);(exact l1);(exact hb5);(rw [yS,Int.toNat_natCast];omega)
 intro h2 f5' kp l2
 simp only [vm]at f5'
 rw [bG,FM]at f5'
 clear kp f5 l1
 simp only [Int.toNat_natCast]
 refine nv (a+1) (fun i vs h'=> ∃S:Nat->Bool,vs= [s.v, .slice (some ⟨b5,0,none⟩) s.n s.n,I ((i:Int)-1)]/\h.le h'/\h' b5=some (.inl ⟨mkC s.n S,s.n,false⟩)/\i<=a+1/\
  jL l i S=F) ⟨fun j=>false||decide (j=a),?_,l2,f5',by omega,?_⟩ ?_
 ·rw [show (((a+1:Nat):Int)-1)=(a:Int) by omega]
 ·rw [hF];simp only [Bool.false_or]
 clear f5' l2 h1 h2
 rintro i _ h1 next ⟨S,rfl,l1,f5,hi,hd⟩ hnx
 refine⟨s,⟨some ⟨b5,0,none⟩,s.n,s.n⟩,_,rfl,?_⟩
 cases i with
 |zero=>
  refine aE (by simp) (k ⟨some ⟨b5,0,none⟩,s.n,s.n⟩ h1 l1 ?_)
  rw [<-hd,<-hn]
  refine⟨by dsimp only;omega,by rw [yS];dsimp only;omega, .inr ⟨b5,0,rfl,ay f5⟩⟩
 |succ i=>
  have ei:(((i+1:Nat):Int)-1)=(i:Int):=by omega
  rw [ei]
  have wi:W ((i:Int)-1)=(i:Int)-1:=bU (by omega) (by omega)
  refine aM (by simp) ?_
  have ci:Hp.cell h1 b5 i=some (.bool (S i)):=by rw [aq f5];exact MC S (by omega)
  simp only [vm,ci]
  refine⟨by omega,?_⟩
  obtain⟨n,hni⟩: ∃n,l[i]?=some n:=⟨_,List.getElem?_eq_getElem (by omega)⟩
  have hf:=ja hok hni
  have hk:=hE hf
  have hk3:=iR n.kind
  simp only [jL]at hd
  refine ac (fun e=>?_) (fun e=>?_)
  ·rw [wi]
   refine hnx i (by omega) _ _ ⟨S,rfl,l1,f5,by omega,?_⟩
   rw [show S i=false by simpa using e]at hd
   simpa using hd
  ·have hS:S i=true:=by simpa using e
   rw [hS]at hd
   simp only [if_true,hni]at hd
   obtain⟨b,o,ha,c0,c1,c2,c3,_⟩:=(hs.mono l1).at hni
   refine⟨b,o,ha,by omega,b,o,ha,by omega,b,o,ha,by omega,_,c1,_,c2,_,c3,?_⟩
   refine aj fun b9 h2 hb9 l2 f9=>?_
   refine av (ar n.kind).toNat (fun q vs h'=>vs= [s.v, .slice (some ⟨b5,0,none⟩) s.n s.n,I i, .slice (some ⟨b9,0,none⟩) 3 3,I q]/\h.le h'/\
    h' b5=some (.inl ⟨mkC s.n (fun j=>S j||((iE n).take q).contains j),s.n,false⟩)/\h' b9=some (.inl ⟨[I n.a,I n.b,I n.c],3,false⟩)) ⟨rfl,Hp.le_trans l1 l2,?_,f9⟩ ?_
   ·simp only [List.take_zero,List.contains_nil,Bool.or_false];exact l2 _ _ f5
   have n9:b9≠b5:=(fresh_ne hb9 f5).symm
   rintro q _ h3 next2 hq ⟨rfl,l3,f5',f9'⟩ hnx2
   refine⟨s,⟨some ⟨b5,0,none⟩,s.n,s.n⟩,_,⟨some ⟨b9,0,none⟩,3,3⟩,_,rfl,?_⟩
   obtain⟨b',o',ha',c0',_⟩:=(hs.mono l3).at hni
   refine⟨b',o',ha',by omega,by omega,_,c0',lz ⟨_,rfl,?_⟩⟩
   by_cases hqlt:q<(ar n.kind).toNat
   ·have h3':q<3:=by omega
    refine aM (by simp;omega) ?_
    have hr:=kN hf h3' (by omega)
    have cp:=pz f9' h3'
    refine⟨b9,0,rfl,by omega,by dsimp only;omega,_,by simpa using cp,b5,0,rfl,hr.1,by dsimp only;omega,?_⟩
    (with_reducible apply bZ);(exact f5');(exact l3);(exact hb5);(rw [yS];omega)
    intro h4 f5'' kp l4
    simp only [vm]at f5''
    rw [bG,FM]at f5''
    rw [aC (by omega)]
    refine hnx2 hqlt _ _ ⟨rfl,l4,?_,ck kp n9 f9'⟩
    rw [f5'']
    congr 4
    funext j
    rw [List.take_add_one,JW hk hqlt]
    simp [Bool.or_assoc]
   ·have hqe:q=(ar n.kind).toNat:=by omega
    subst hqe
    refine aE (by simp;omega) ?_
    rw [wi]
    refine hnx i (by omega) _ _ ⟨_,rfl,l3,f5',by omega,?_⟩
    rw [List.take_of_length_le (by rw [Hj hk];omega)]
    exact hd
theorem LA {h:Hp} {M:MSl} {m:ah} {a:Nat} {R:Value->Hp->Prop} (hs:aO h M m) (hm:bW m) (hok:cv m.nodes=true) (hat:a<m.nodes.length)
  (k:R (.bool (!rO m.nodes a)) h):sv #[aQ M,I a] h R:=by
 refine ACalls.drop (Il ?_)
 refine uf_ ?_
 have hn:=hs.nodes.len
 have hns:=hm.nodes
 have hah:=nA hok
 have hda:=Zy hah hat
 refine aj fun b8 h1 hb8 l1 f8=>?_
 have lf: ∀{h'':Hp} {q:Bool},h.le h''->q= !rO m.nodes a-> ∃h':Hp,h'.le h''/\R (.bool q) h':=fun l e=>⟨_,l,e▸k⟩
 clear k
 (refine az ?_)
 refine N8 (hs.nodes.mono l1) hns hok hat fun t h2 l2 ht=>⟨_,rfl,?_⟩
 have f8':=l2 _ _ f8
 have l12:=Hp.le_trans l1 l2
 have htn:t.n=m.nodes.length:=by have:=ht.2.1;rw [yS]at this;omega
 obtain⟨bt,ot,hat',hct⟩:=SlC.get ht (by omega)
 refine av (a+1) (fun i vs h'=>vs= [I a, .pointer (some ⟨b8,0,none⟩),t.v,I i]/\h'=h2/\ ∀j:Nat,j<i-> ¬(jL m.nodes (a+1) (fun j=>decide (j=a)) j=true/\rJ m.nodes j=true)) ⟨rfl,rfl,fun j hj=>by omega⟩ ?_
 rintro i _ h' next hi ⟨rfl,rfl,hg⟩ hnx
 refine⟨_,_,_,t,_,rfl,?_⟩
 by_cases hlt:i<a+1
 ·refine aM (by simp;omega) ?_
  obtain⟨n,hni⟩: ∃n,m.nodes[i]?=some n:=⟨_,List.getElem?_eq_getElem (by omega)⟩
  obtain⟨b,o,ha,c0,_⟩:=(hs.nodes.mono l12).at hni
  have hnm:rJ m.nodes i=decide (n.kind=35\/n.kind=36):=by unfold rJ fU;rw [hni]
  refine ap (fun J=>J (jL m.nodes (a+1) (fun j=>decide (j=a)) i&&rJ m.nodes i)) ?_ (fun J hJ=>?_)
  ·refine ac (fun e=>lf l12 ?_) (fun e=>?_)
   ·have:rO m.nodes a=true:=hda.1 ⟨i,by simpa using e⟩
    rw [this];rfl
   ·rw [aC (by omega)]
    refine hnx hlt _ _ ⟨rfl,rfl,fun j hj=>?_⟩
    by_cases hji:j=i
    ·subst hji;intro hh;rw [hh.1,hh.2]at e;cases e
    ·exact hg j (by omega)
  ·refine⟨bt,ot,hat',by omega,by omega,_,by simpa using hct i _ (MC _ (by omega)),?_⟩
   refine ac (fun e=>?_) (fun e=>?_)
   ·rw [e,Bool.true_and,hnm]at hJ
    (refine az ?_)
    refine⟨b,o,ha,by omega,by omega,_,c0,?_⟩
    refine ac (fun e2=>?_) (fun e2=>?_)
    ·rw [decide_eq_true (.inr (bV e2))]at hJ;exact hJ
    ·(refine az ?_)
     refine⟨b,o,ha,by omega,by omega,_,c0,?_⟩
     exact fI (J:=J) (by have:=bk e2;rw [Bool.eq_iff_iff];simp [this]) hJ
   ·rw [e,Bool.false_and]at hJ;exact hJ
 ·refine aE (by simp;omega) (lf l12 ?_)
  have:rO m.nodes a=false:=by
   rw [Bool.eq_false_iff]
   intro hh
   obtain⟨j,h1,h2⟩:=hda.2 hh
   have:=Zw hah a (a+1) (fun j=>decide (j=a)) (by omega) (by omega) (fun j hj=>by have:=of_decide_eq_true hj;omega) j h1
   exact hg j (by omega) ⟨h1,h2⟩
  rw [this];rfl
theorem acf {h h':Hp} {c:Nat} (l:h.le h') (hx:h c≠none):h' c=h c:=by
 cases hc:h c with
 |none=>exact absurd hc hx
 |some x=>exact l _ _ hc
theorem gV {h:Hp} {b o:Nat} {v:Value} (e:Hp.cell h b o=some v):h b≠none:=fun hn=>by simp [Hp.cell,hn]at e
theorem eZ {h:Hp} {b:Nat} {x:Blk} (e:h b=some x):h b≠none:=by rw [e];simp
theorem kW {h h':Hp} {c:Nat} {P:Prop} (l:h.le h') (hx:h c≠none) (k:P):h' c=h c/\P:=⟨acf l hx,k⟩
theorem gL {l:List NodeP} {p:Int} (h:cY l p=true):0<=p/\p<l.length/\ ∃n,l[p.toNat]?=some n/\aA l p=n.sort/\kb l p=n.kind:=by
 unfold cY at h
 have h':0<=p/\p<=(l.length:Int)-1:=by simpa using h
 have hlt:p.toNat<l.length:=by omega
 have e:l[p.toNat]?=some l[p.toNat]:=List.getElem?_eq_getElem hlt
 exact⟨h'.1,by omega,_,e,qn e,by unfold kb;rw [e]⟩
theorem wv {h:Hp} {M:MSl} {l:List NodeP} {p:Int} {R:Value->Hp->Prop} (hs:M.no.n=l.length) (hl:l.length<=1048576) (k:R (.bool (cY l p)) h):gk #[aQ M,I p] h R:=by
 refine ACalls.drop (yx ?_)
 refine uf_ ?_
 refine aj fun b8 h1 hb8 l1 f8=>?_
 (refine az ?_)
 refine fK ⟨_,rfl,_,l1,dt ?_ k⟩
 unfold cY
 rw [bU (by omega) (by omega),hs]
def FS (l:List NodeP) (b:BindP) (init:Bool):Bool:=if init then jh l b else fL l b
theorem nZ (a b:SortP):((a.idx==b.idx)&&((a.wid==b.wid)&&true))=decide (a=b):=by
 rw [Bool.eq_iff_iff,decide_eq_true_eq,iY];simp
theorem Ei {h:Hp} {M:MSl} {m:ah} {s:Sl} {b:BindP} {ini:Bool} {R:Value->Hp->Prop} (hs:aO h M m) (hm:bW m) (hmd:SlC h s 1 ((dM m.nodes m.nodes.length).map Value.bool))
  (k:R (.bool (FS m.nodes b ini)) h):jv #[aQ M,KQ b,s.v, .bool ini] h R:=by
 refine ACalls.drop (zA ?_)
 refine uf_ ?_
 have hn:=hs.nodes.len
 have hns:=hm.nodes
 refine aj fun b11 h1 hb11 l1 f11=>?_
 refine aj fun b13 h2 hb13 l2 f13=>?_
 replace f11:=l2 _ _ f11
 replace l2:=Hp.le_trans l1 l2
 have lf: ∀{h'':Hp} {q:Bool},h.le h''->q=FS m.nodes b ini-> ∃h':Hp,h'.le h''/\R (.bool q) h':=fun l e=>⟨_,l,e▸k⟩
 clear k hb11 hb13 l1
 have hq:FS m.nodes b ini=((cY m.nodes b.state&&cY m.nodes b.node&&decide (kb m.nodes b.state=36))&&
   (if ini then((decide (aA m.nodes b.state=aA m.nodes b.node)||decide (aA m.nodes b.node=cF (aA m.nodes b.state).wid))&& !(dM m.nodes m.nodes.length).getD b.node.toNat false)else decide (aA m.nodes b.state=aA m.nodes b.node))):=by
  unfold FS;cases ini<;>rfl
 rw [hq]at lf
 refine ap (fun J=>J (!(cY m.nodes b.state&&cY m.nodes b.node&&decide (kb m.nodes b.state=36))) h2) ?_ (fun J hJ=>?_)
 rotate_left
 ·repeat' (refine az ?_)
  refine wv hn hns ⟨_,rfl,ac (fun e=>?_) (fun e=>?_)⟩
  ·rw [show cY m.nodes b.state=false by simpa using e]at hJ;exact hJ
  ·rw [show cY m.nodes b.state=true by simpa using e,Bool.true_and]at hJ
   repeat' (refine az ?_)
   refine wv hn hns ⟨_,rfl,ac (fun e2=>?_) (fun e2=>?_)⟩
   ·rw [show cY m.nodes b.node=false by simpa using e2]at hJ;exact hJ
   ·rw [show cY m.nodes b.node=true by simpa using e2,Bool.true_and]at hJ
    repeat' (refine az ?_)
    obtain⟨p1,p2,n,hn1,hn2,hn3⟩:=gL (l:=m.nodes) (p:=b.state) (by simpa using e)
    obtain⟨bb,o,ha,c0,_⟩:=(hs.nodes.mono l2).at hn1
    refine⟨bb,o,ha,p1,by omega,_,c0,?_⟩
    refine fI (J:=fun b=>J b h2) ?_ hJ
    rw [hn3,Bool.eq_iff_iff];simp
 refine ac (fun e=>?_) (fun e=>?_)
 ·refine lf l2 ?_
  rw [show (cY m.nodes b.state&&cY m.nodes b.node&&decide (kb m.nodes b.state=36))=false by rw [Bool.not_eq_true']at e;exact e,Bool.false_and]
 have e1:(cY m.nodes b.state&&cY m.nodes b.node&&decide (kb m.nodes b.state=36))=true:=by rw [Bool.not_eq_false']at e;exact e
 rw [e1,Bool.true_and]at lf
 clear hq e
 rw [Bool.and_eq_true,Bool.and_eq_true]at e1
 obtain⟨p1,p2,n1,hn1,hs1,_⟩:=gL e1.1.1
 obtain⟨p3,p4,n2,hn2,hs2,_⟩:=gL e1.1.2
 obtain⟨ba,oa,ha1,_,_,_,_,_,_,c6,c7,_⟩:=(hs.nodes.mono l2).at hn1
 obtain⟨bb,ob,ha2,_,_,_,_,_,_,d6,d7,_⟩:=(hs.nodes.mono l2).at hn2
 rw [hs1,hs2]at lf
 refine ap (fun J=> ∀b1 b2 h',h2.le h'->h' b1=some (.inl ⟨[I n1.sort.idx,I n1.sort.wid],2,false⟩)->h' b2=some (.inl ⟨[I n2.sort.idx,I n2.sort.wid],2,false⟩)->J b1 0 b2 0 h') ?_ (fun J hJ=>?_)
 ·intro b1 b2 h' l' g1 g2
  replace f13:=l' _ _ f13
  have lh:=Hp.le_trans l2 l'
  have hmd':=hmd.mono lh
  have hsn:s.n=m.nodes.length:=by have:=hmd.2.1;simp [iM]at this;omega
  have hmr: ∃bs os,s.a=some (Addr.mk bs os none)/\Hp.cell h' bs (os+b.node.toNat)=some (.bool ((dM m.nodes m.nodes.length).getD b.node.toNat false)):=by
   obtain⟨bs,os,hsa,hc⟩:=SlC.get hmd' (by omega)
   refine⟨bs,os,hsa,hc _ _ ?_⟩
   rw [List.getElem?_map,List.getD_eq_getElem?_getD,List.getElem?_eq_getElem (by rw [iM];omega)];rfl
  obtain⟨bs,os,hsa,hcm⟩:=hmr
  refine ac (fun e=>?_) (fun e=>?_)
  ·repeat' (refine az ?_)
   refine lf lh ?_
   rw [nZ,if_neg (by simpa using e)]
  ·have hi:ini=true:=by simpa using e
   rw [hi,if_pos rfl]at lf
   repeat' (refine az ?_)
   refine ac (fun e=>?_) (fun e=>?_)
   ·rw [nZ]at e
    repeat' (refine az ?_)
    refine⟨bs,os,hsa,p3,by omega,_,by rw [Nat.mul_one];exact hcm,lf lh ?_⟩
    rw [e,Bool.true_or,Bool.true_and]
   ·rw [nZ]at e
    rw [e,Bool.false_or]at lf
    repeat' (refine az ?_)
    refine dl ⟨_,_,rfl,?_⟩
    repeat' (refine az ?_)
    refine ac (fun e2=>?_) (fun e2=>?_)
    ·rw [nZ]at e2
     repeat' (refine az ?_)
     refine⟨bs,os,hsa,p3,by omega,_,by rw [Nat.mul_one];exact hcm,lf lh ?_⟩
     rw [e2,Bool.true_and]
    ·rw [nZ]at e2
     exact lf lh (by rw [e2,Bool.false_and])
 ·clear lf
  repeat' (refine az ?_)
  refine⟨ba,oa,ha1,p1,by omega,_,c6,_,c7,?_⟩
  repeat' (refine az ?_)
  refine⟨bb,ob,ha2,p3,by omega,_,d6,_,d7,?_⟩
  have z1:=gV c6
  have z2:=gV d6
  have z3:=eZ f11
  have z4:=eZ f13
  constructor
  ·refine aj fun b56 h3 hb56 l3 f56=>?_
   repeat' (((with_reducible apply kW);(assumption);(assumption)))
   refine aj fun b58 h4 hb58 l4 f58=>?_
   have l24:=Hp.le_trans l3 l4
   have hb58':=aF l3 hb58
   have ne:=fresh_ne hb58 f56
   replace f56:=l4 _ _ f56
   repeat' (((with_reducible apply kW);(assumption);(assumption)))
   (with_reducible apply bZ);(exact f56);(exact l24);(exact hb56);(decide)
   intro h5 g56 kp5 l5
   replace f58:=ck kp5 ne.symm f58
   repeat' (((with_reducible apply kW);(assumption);(assumption)))
   (with_reducible apply bZ);(exact f58);(exact l5);(exact hb58');(decide)
   intro h6 g58 kp6 l6
   exact hJ b56 b58 h6 l6 (ck kp6 ne g56) g58
  ·refine aj fun b56 h3 hb56 l3 f56=>?_
   repeat' (((with_reducible apply kW);(assumption);(assumption)))
   refine aj fun b58 h4 hb58 l4 f58=>?_
   have l24:=Hp.le_trans l3 l4
   have hb58':=aF l3 hb58
   have ne:=fresh_ne hb58 f56
   replace f56:=l4 _ _ f56
   repeat' (((with_reducible apply kW);(assumption);(assumption)))
   (with_reducible apply bZ);(exact f58);(exact l24);(exact hb58');(decide)
   intro h5 g58 kp5 l5
   replace f56:=ck kp5 ne f56
   repeat' (((with_reducible apply kW);(assumption);(assumption)))
   (with_reducible apply bZ);(exact f56);(exact l5);(exact hb56);(decide)
   intro h6 g56 kp6 l6
   exact hJ b58 b56 h6 l6 (ck kp6 ne.symm g58) g56
theorem BO {h:Hp} {M:MSl} {m:ah} {b:BindP} {R:Value->Hp->Prop} (hs:aO h M m) (hm:bW m)
  (k:R (.bool (fL m.nodes b)) h):oM #[aQ M,KQ b] h R:=by
 refine ACalls.drop (GV ?_)
 refine uf_ ?_
 have hn:=hs.nodes.len
 have hns:=hm.nodes
 refine aj fun b11 h1 hb11 l1 f11=>?_
 refine aj fun b13 h2 hb13 l2 f13=>?_
 replace f11:=l2 _ _ f11
 replace l2:=Hp.le_trans l1 l2
 have lf: ∀{q:Bool},q=fL m.nodes b-> ∃h':Hp,h'.le h2/\R (.bool q) h':=fun e=>⟨_,l2,e▸k⟩
 clear k hb11 hb13 l1
 unfold fL at lf
 have hw:W ((M.no.n:Int)-1)=(m.nodes.length:Int)-1:=by rw [bU (by omega) (by omega),hn]
 repeat' (refine az ?_)
 rw [hw]
 refine dH ⟨_,rfl,?_⟩
 rw [show decide (0<=b.state/\b.state<=(m.nodes.length:Int)-1)=cY m.nodes b.state from rfl]
 refine ac (fun e1=>?_) (fun e=>lf (by rw [e];rfl))
 repeat' (refine az ?_)
 refine dH ⟨_,rfl,?_⟩
 rw [show decide (0<=b.node/\b.node<=(m.nodes.length:Int)-1)=cY m.nodes b.node from rfl]
 refine ac (fun e2=>?_) (fun e=>lf (by rw [e,Bool.and_false];rfl))
 rw [e1,e2,Bool.true_and,Bool.true_and]at lf
 obtain⟨p1,p2,n1,hn1,hs1,hk1⟩:=gL e1
 obtain⟨p3,p4,n2,hn2,hs2,_⟩:=gL e2
 obtain⟨ba,oa,ha1,c0,_,_,_,_,_,c6,c7,_⟩:=(hs.nodes.mono l2).at hn1
 obtain⟨bb,ob,ha2,_,_,_,_,_,_,d6,d7,_⟩:=(hs.nodes.mono l2).at hn2
 rw [hs1,hs2,hk1]at lf
 repeat' (refine az ?_)
 refine⟨ba,oa,ha1,p1,by omega,_,c0,?_⟩
 refine ac (fun e=>?_) (fun e=>lf (by rw [decide_eq_false (bk e)];rfl))
 repeat' (refine az ?_)
 refine⟨ba,oa,ha1,p1,by omega,_,c6,_,c7,?_⟩
 repeat' (refine az ?_)
 refine⟨bb,ob,ha2,p3,by omega,_,d6,_,d7,lf ?_⟩
 rw [nZ,decide_eq_true (bV e),Bool.true_and]
theorem zo {h:Hp} {s:Sl} {xs:List BindP} {f:FuncId} {u w:Array Value} (p:BindP->Bool) {R:Value->Hp->Prop} (hs:rp h s xs) (hl:xs.length<=1048576)
  (hf: ∀x∈xs,∀R:Value->Hp->Prop,R (.bool (p x)) h->ACalls PR f ((u++ #[KQ x])++w) h R)
  (k:R (I (Gh p xs)) h):dP #[s.v, .func (.func f) u w] h R:=by
 apply kM
 refine uf_ ?_
 have hn:=hs.len
 refine av xs.length (fun i vs h'=>vs= [s.v, .func (.func f) u w,I xs.length,I i]/\h'=h/\(xs.take i).any p=false) ⟨by rw [hs.len];rfl,rfl,by simp⟩ ?_
 rintro i _ _ next hi ⟨rfl,rfl,hp⟩ hnx
 refine⟨s,_,_,_,_,_,rfl,?_⟩
 by_cases hlt:i<xs.length
 ·obtain⟨b,o,ha,c0,c1⟩:=hs.at (List.getElem?_eq_getElem hlt)
  refine aM (by simp [hlt]) ?_
  refine⟨b,o,ha,by omega,by omega,_,c0,_,c1,?_⟩
  refine hf _ (List.getElem_mem hlt) _ ⟨_,rfl,ac (fun he=>?_) (fun he=>?_)⟩
  ·rwa [CZ hlt hp he]at k
  ·rw [aC (by omega)]
   exact hnx hlt _ _ ⟨rfl,rfl,by rw [Nl hlt,hp,he];rfl⟩
 ·have:i=xs.length:=by omega
  subst this
  rw [List.take_length]at hp
  refine aE (by simp) ?_
  rwa [zh hp]at k
theorem oQ {h:Hp} {s:Sl} {xs:List BindP} {f:FuncId} {u w:Array Value} (p:BindP->Bool) {R:Value->Hp->Prop} (hs:rp h s xs) (hl:xs.length<=1048576)
  (hf: ∀x∈xs,∀R:Value->Hp->Prop,R (.bool (p x)) h->ACalls PR f ((u++ #[KQ x])++w) h R)
  (k:R (.bool (xs.any p)) h):cT #[s.v, .func (.func f) u w] h R:=by
 apply ke
 refine uf_ ?_
 exact zo p hs hl hf ⟨_,rfl,by rwa [LU]⟩
structure S5 (g h:Hp) (s:Sl) (cs:List Value):Prop where
 le:g.le h
 len:cs.length=s.n
 room:s.n<=s.c
 row:(s.a=none/\s.n=0/\s.c=0)\/ ∃b all,s.a=some ⟨b,0,none⟩/\g b=none/\h b=some (.inl ⟨all,s.c*1,false⟩)/\s.n<=all.length/\all.take s.n=cs
theorem S5.slc {g h:Hp} {s:Sl} {cs:List Value} (e:S5 g h s cs) (hn:s.n<=9223372036854775807):SlC h s 1 cs:=by
 refine⟨hn,by rw [e.len,Nat.mul_one],?_⟩
 rcases e.row with ⟨_,h0,_⟩|⟨b,all,ha,_,hb,_,ht⟩
 ·exact .inl h0
 ·refine .inr ⟨b,0,ha,fun i v hv=>?_⟩
  rw [Nat.zero_add,aq hb]
  rw [<-ht]at hv
  rw [List.getElem?_take]at hv
  split at hv
  ·exact hv
  ·cases hv
theorem Sk {g h:Hp} {s:Sl} {by_ m:Nat} {cs news:List Value} {src:Option Addr} {K:Option Addr->Nat->Nat->Hp->Prop}
  (hb:S5 g h s cs) (hsz:(s.n+m)*by_<=140737488355328) (hsz':s.n+m<=9223372036854775807)
  (hs:0<m-> ∃sb so,src=some ⟨sb,so,none⟩/\gG g sb so news) (hl:news.length=m) (ho:news.all (·.oneCell')=true)
  (k: ∀(s':Sl) (h':Hp),s'.n=s.n+m->S5 g h' s' (cs++news)->K s'.a s'.n s'.c h'):co h s.a s.n s.c src m 1 by_ K:=by
 by_cases h0:m=0
 ·subst h0
  have:news= []:=List.eq_nil_of_length_eq_zero hl
  subst this
  refine .inl ⟨rfl,hb.room,k s h rfl ?_⟩
  rw [List.append_nil];exact hb
 ·obtain⟨sb,so,hsa,hsc⟩:=hs (by omega)
  refine .inr ⟨by omega,hsz,hsz',sb,so,news,hsa,by omega,fun i v hv=>hb.le.cell (hsc i v hv),ho,?_⟩
  rcases hb.row with ⟨ha,hn,hc⟩|⟨b,all,ha,hg,hbb,hall,ht⟩
  ·have hcs:cs= []:=List.eq_nil_of_length_eq_zero (by rw [hb.len,hn])
   subst hcs
   refine .inl ⟨by omega, [],?_,fun _=>⟨hn,hc⟩,fun b c hbn hle=>?_⟩
   ·rw [hn];simp [mM]
   ·rw [hn,Nat.zero_add]
    refine k ⟨some ⟨b,0,none⟩,m,c⟩ _ (by dsimp only;omega) ⟨eo _ _ (aF hb.le hbn) hb.le,by simp;omega,by dsimp only;omega, .inr ⟨b,news,rfl,aF hb.le hbn,?_,by dsimp only;omega,?_⟩⟩
    ·rw [bM];simp
    ·simp [<-hl]
  ·refine .inr ⟨b,all,ha,hbb,by omega,fun b' c hb' hle=>?_⟩
   rw [Nat.mul_one,ht]
   have hgb:g b'=none:=by
    rcases hb' with rfl|hb'
    ·exact hg
    ·exact aF hb.le hb'
   refine k ⟨some ⟨b',0,none⟩,s.n+m,c⟩ _ rfl ⟨?_,by simp [hb.len,hl],by dsimp only;omega, .inr ⟨b',cs++news,rfl,hgb,bM _ _ _ _,by simp [hb.len,hl],?_⟩⟩
   ·exact ny _ (ny _ hb.le hg) hgb
   ·exact List.take_of_length_le (by simp [hb.len,hl])
theorem Js {h:Hp} {n:Nat} {R:Value->Hp->Prop} (hn:n<=4194304) (k: ∀s h',S5 h h' s []->R (Sl.v s) h'):ka #[.slice none 0 0,I n] h R:=by
 refine wq (s1:=⟨none,0,0⟩) ?_
 refine uf_ ?_
 have hw:W ((n:Int)-W (((0:Nat):Int)-((0:Nat):Int)))=n:=by
  rw [bU (n:=((0:Nat):Int)-((0:Nat):Int)) (by omega) (by omega),bU (by omega) (by omega)];omega
 refine aE (by simp) ?_
 simp only [hw]
 refine ac (fun e=>?_) (fun e=>?_)
 ·have e':0<n:=by simpa using e
  refine⟨by decide,by decide,by omega, .inl ⟨by(first|trivial|rfl|omega|decide),by(first|trivial|rfl|omega|decide),by(first|trivial|rfl|omega|decide),by(first|trivial|rfl|omega|decide),by(first|trivial|rfl|omega|decide),by(first|trivial|rfl|omega|decide),by(first|trivial|rfl|omega|decide),by(first|trivial|rfl|omega|decide),fun b c hb hc=>?_⟩⟩
  refine⟨by decide,by decide,by omega, .inr ⟨b,0,rfl,?_⟩⟩
  have hif:(if c=Int.toNat (Int.ofNat 0)then 0 else 0+Int.toNat (Int.ofNat 0)*1)=0:=by split<;>rfl
  rw [hif]
  refine k ⟨some ⟨b,0,none⟩,0,c⟩ _ ⟨fg _ _ hb,rfl,by dsimp only;omega, .inr ⟨b,_,rfl,hb,bM _ _ _ _,by dsimp only;omega,by rw [List.take_zero]⟩⟩
 ·exact k ⟨none,0,0⟩ h ⟨Hp.le_refl _,rfl,Nat.le_refl _, .inl ⟨rfl,rfl,rfl⟩⟩
theorem E0 {h:Hp} {b:Nat} {s1 s2:Sl} {xs ys:List Int} {R:Value->Hp->Prop} (hb:h b=some (.inl ⟨[s1.v,s2.v],2,false⟩)) (h1:IntS h s1 xs) (h2:IntS h s2 ys)
  (hx:xs.length<=1048576) (hy:ys.length<=1048576) (k: ∀t h',h.le h'->IntS h' t (xs++ys)->R (Sl.v t) h'):jm #[.slice (some ⟨b,0,none⟩) 2 2] h R:=by
 refine tU (s1:=⟨some ⟨b,0,none⟩,2,2⟩) ?_
 refine uf_ ?_
 have n1:=h1.len
 have n2:=h2.len
 let sl:Nat->Sl:=fun i=>if i=0 then s1 else s2
 let ls:Nat->List Int:=fun i=>if i=0 then xs else ys
 have hc: ∀i,i<2-> ∀h',h.le h'->Hp.cell h' b i=some (sl i).v:=fun i hi h' l'=>by
  rw [aq (l' _ _ hb)]
  obtain rfl|rfl:i=0\/i=1:=by omega
  all_goals rfl
 have hls: ∀i,(sl i).n=(ls i).length/\(ls i).length<=1048576/\IntS h (sl i) (ls i):=fun i=>by
  by_cases h0:i=0
  ·subst h0;exact⟨n1,hx,h1⟩
  ·simp only [sl,ls,if_neg h0];exact⟨n2,hy,h2⟩
 let tot:Nat->Nat:=fun i=>if i=0 then 0 else if i=1 then xs.length else xs.length+ys.length
 let cat:Nat->List Int:=fun i=>if i=0 then []else if i=1 then xs else xs++ys
 have htot: ∀i,i<2->tot i+(ls i).length=tot (i+1)/\cat i++ls i=cat (i+1)/\(cat i).length=tot i/\tot i<=2097152:=fun i hi=>by
  obtain rfl|rfl:i=0\/i=1:=by omega
  ·refine⟨?_,?_,rfl,?_⟩<;>simp [tot,ls,cat]
  ·refine⟨?_,?_,rfl,?_⟩<;>simp [tot,ls,cat]
   omega
 refine av 2 (fun i vs h'=>vs= [.slice (some ⟨b,0,none⟩) 2 2,I (tot i), .slice (some ⟨b,0,none⟩) 2 2,I 2,I i]/\h'=h) ⟨rfl,rfl⟩ ?_
 rintro i _ h' next hi ⟨rfl,rfl⟩ hnx
 refine⟨⟨some ⟨b,0,none⟩,2,2⟩,_,⟨some ⟨b,0,none⟩,2,2⟩,_,_,rfl,?_⟩
 by_cases hlt:i<2
 ·refine aM (by simp;omega) ?_
  have:=hls i
  have ht:=htot i hlt
  refine⟨b,0,rfl,by omega,by dsimp only;omega,sl i,by have:=hc i hlt h' (Hp.le_refl _);simpa using this,?_⟩
  rw [show W ((tot i:Int)+((sl i).n:Int))=((tot (i+1):Nat):Int) by rw [bU (by omega) (by omega)];omega,aC (by omega)]
  exact aE (by simp) (hnx hlt _ _ ⟨rfl,rfl⟩)
 ·have hi2:i=2:=by omega
  subst hi2
  refine aE (by simp) ?_
  refine Js (by simp [tot];omega) fun t h1' hp=>⟨t,rfl,?_⟩
  refine av 2 (fun i vs h2'=> ∃u:Sl,vs= [u.v, .slice (some ⟨b,0,none⟩) 2 2,I 2,I i]/\S5 h' h2' u ((cat i).map I)) ⟨t,rfl,hp⟩ ?_
  clear hp
  rintro i _ h2' next2 hi ⟨u,rfl,hp⟩ hnx2
  refine⟨u,⟨some ⟨b,0,none⟩,2,2⟩,_,_,rfl,?_⟩
  by_cases hlt2:i<2
  ·refine aM (by simp;omega) ?_
   have hli:=hls i
   have ht:=htot i hlt2
   have hun:=hp.len
   rw [List.length_map]at hun
   refine⟨b,0,rfl,by omega,by dsimp only;omega,sl i,by have:=hc i hlt2 h2' hp.le;simpa using this,?_⟩
   refine Sk (news:=(ls i).map I) hp (by omega) (by omega) (fun hpos=>?_) (by rw [List.length_map];omega) (by simp [Value.oneCell']) fun s' h3 hs' hp'=>?_
   ·obtain⟨sb,so,e1,e2⟩:=SlC.get hli.2.2 (by omega)
    exact⟨sb,so,e1,e2⟩
   ·rw [aC (by omega)]
    refine hnx2 hlt2 _ _ ⟨s',rfl,?_⟩
    rw [<-ht.2.1,List.map_append];exact hp'
  ·have hi2:i=2:=by omega
   subst hi2
   refine aE (by simp) (k u h2' hp.le ?_)
   have hun:=hp.len
   have:cat 2=xs++ys:=rfl
   rw [this]at hun hp
   rw [List.length_map,List.length_append]at hun
   exact hp.slc (by omega)
theorem Dh {l:List NodeP} {i:Nat} {n:NodeP} (kind:Int) (hn:l[i]?=some n):ak (l.take (i+1)) kind=ak (l.take i) kind+if n.kind=kind then dR n.sort else 0:=by
 have hlt:=get_lt hn
 rw [List.getElem?_eq_getElem hlt]at hn
 unfold ak
 rw [List.take_succ_eq_append_getElem hlt,Option.some.inj hn,List.filter_append,List.map_append,List.sum_append]
 congr 1
 by_cases h:n.kind=kind<;>simp [h]
theorem QM (l:List NodeP) (kind:Int):ak l kind<=64*l.length:=by
 unfold ak
 induction l with
 |nil=>simp
 |cons n l ih=>
  rw [List.filter_cons,List.length_cons]
  have:=xv n.sort
  split
  ·rw [List.map_cons,List.sum_cons];omega
  ·omega
theorem fu {h:Hp} {M:MSl} {m:ah} {kind:Int} {R:Value->Hp->Prop} (hs:aO h M m) (hm:bW m) (k:R (I (ak m.nodes kind)) h):cw #[aQ M,I kind] h R:=by
 refine ACalls.drop (BN ?_)
 refine uf_ ?_
 have hn:=hs.nodes.len
 have hns:=hm.nodes
 refine aj fun b7 h1 hb7 l1 f7=>?_
 have lf: ∀{h'':Hp} {q:Int},h.le h''->q=(ak m.nodes kind:Nat)-> ∃h':Hp,h'.le h''/\R (I q) h':=fun l e=>⟨_,l,e▸k⟩
 clear k
 (refine az ?_)
 refine av m.nodes.length (fun i vs h'=>vs= [I kind,I (ak (m.nodes.take i) kind),M.no.v,I M.no.n,I i]/\h.le h') ⟨rfl,l1⟩ ?_
 clear l1 f7 hb7 h1
 rintro i _ h1 next hi ⟨rfl,l1⟩ hnx
 refine⟨_,_,M.no,_,_,rfl,?_⟩
 by_cases hlt:i<m.nodes.length
 ·refine aM (by simp;omega) ?_
  obtain⟨n,hni⟩: ∃n,m.nodes[i]?=some n:=⟨_,List.getElem?_eq_getElem hlt⟩
  obtain⟨b,o,ha,c0,c1,c2,c3,c4,c5,c6,c7,c8⟩:=(hs.nodes.mono l1).at hni
  have hst:=Dh kind hni
  have hbl:=QM (m.nodes.take (i+1)) kind
  rw [List.length_take]at hbl
  have hmin:min (i+1) m.nodes.length<=1048576:=by omega
  refine⟨b,o,ha,by omega,by omega,_,c0,_,c1,_,c2,_,c3,_,c4,_,c5,_,c6,_,c7,_,c8,?_⟩
  refine aj fun b9 h2 hb9 l2 f9'=>?_
  (with_reducible apply bZ);(exact f9');(exact Hp.le_trans l1 l2);(exact aF l1 hb9);(decide)
  intro h3 f9 kp l3
  repeat' (refine az ?_)
  refine ac (fun e=>?_) (fun e=>?_)
  ·rw [if_pos (bV e)]at hst
   repeat' (refine az ?_)
   refine sX ⟨_,rfl,?_⟩
   rw [show W ((ak (m.nodes.take i) kind:Int)+(dR ⟨n.sort.idx,n.sort.wid⟩:Nat))=(ak (m.nodes.take (i+1)) kind:Nat) by
    rw [bU (by omega) (by show ((ak (m.nodes.take i) kind:Nat):Int)+(dR n.sort:Nat)<=_;omega),hst];show _+((dR n.sort:Nat):Int)=_;omega,aC (by omega)]
   exact hnx hlt _ _ ⟨rfl,l3⟩
  ·rw [if_neg (bk e)]at hst
   replace hst:=hst.trans (Nat.add_zero _)
   rw [aC (by omega),<-hst]
   exact hnx hlt _ _ ⟨rfl,l3⟩
 ·refine aE (by simp;omega) (lf l1 ?_)
  rw [List.take_of_length_le (by omega)]
theorem gC {h:Hp} {M:MSl} {m:ah} {kind:Int} {R:Value->Hp->Prop} (hs:aO h M m) (hm:bW m) (k:R (I (ak m.nodes kind)) h):dN #[aQ M,I kind] h R:=by
 refine ACalls.drop (LC ?_)
 refine uf_ ?_
 have hn:=hs.nodes.len
 have hns:=hm.nodes
 refine aj fun b7 h1 hb7 l1 f7=>?_
 have lf: ∀{q:Int},q=(ak m.nodes kind:Nat)-> ∃h':Hp,h'.le h1/\R (I q) h':=fun e=>⟨_,l1,e▸k⟩
 clear k
 refine av m.nodes.length (fun i vs h'=>vs= [I kind, .pointer (some ⟨b7,0,none⟩),I (ak (m.nodes.take i) kind),I i]/\h'=h1) ⟨rfl,rfl⟩ ?_
 rintro i _ h1 next hi ⟨rfl,rfl⟩ hnx
 refine⟨_,_,_,_,_,rfl,?_⟩
 (refine az ?_)
 by_cases hlt:i<m.nodes.length
 ·refine aM (by simp;omega) ?_
  obtain⟨n,hni⟩: ∃n,m.nodes[i]?=some n:=⟨_,List.getElem?_eq_getElem hlt⟩
  obtain⟨b,o,ha,c0,c1,c2,c3,c4,c5,c6,c7,c8⟩:=(hs.nodes.mono l1).at hni
  have hst:=Dh kind hni
  have hbl:=QM (m.nodes.take (i+1)) kind
  rw [List.length_take]at hbl
  have hmin:min (i+1) m.nodes.length<=1048576:=by omega
  (refine az ?_)
  refine⟨b,o,ha,by omega,by omega,_,c0,?_⟩
  refine ac (fun e=>?_) (fun e=>?_)
  ·rw [if_pos (bV e)]at hst
   repeat' (refine az ?_)
   refine⟨b,o,ha,by omega,by omega,_,c6,_,c7,?_⟩
   refine im ⟨_,rfl,?_⟩
   rw [show W ((ak (m.nodes.take i) kind:Int)+(dR ⟨n.sort.idx,n.sort.wid⟩:Nat))=(ak (m.nodes.take (i+1)) kind:Nat) by
    rw [bU (by omega) (by show ((ak (m.nodes.take i) kind:Nat):Int)+(dR n.sort:Nat)<=_;omega),hst];show _+((dR n.sort:Nat):Int)=_;omega,aC (by omega)]
   exact hnx hlt _ _ ⟨rfl,rfl⟩
  ·rw [if_neg (bk e)]at hst
   replace hst:=hst.trans (Nat.add_zero _)
   rw [aC (by omega),<-hst]
   exact hnx hlt _ _ ⟨rfl,rfl⟩
 ·refine aE (by simp;omega) (lf ?_)
  rw [List.take_of_length_le (by omega)]
theorem yQ {α:Type} {l:List α} {p:α->Bool} {i:Nat} {x:α} (hx:l[i]?=some x):(l.take (i+1)).all p=((l.take i).all p&&p x):=by
 have hlt:=get_lt hx
 rw [List.getElem?_eq_getElem hlt]at hx
 rw [List.take_succ_eq_append_getElem hlt,Option.some.inj hx,List.all_append]
 simp
theorem C9 {α:Type} {l:List α} {p:α->Bool} {i:Nat} {x:α} (hx:l[i]?=some x) (h:p x=false):l.all p=false:=by
 rw [List.all_eq_false];exact⟨x,List.mem_of_getElem? hx,by rw [h];decide⟩
theorem IntS.get {h:Hp} {s:Sl} {xs:List Int} (e:IntS h s xs) {i:Nat} {x:Int} (hx:xs[i]?=some x): ∃b o,s.a=some (Addr.mk b o none)/\Hp.cell h b (o+i*1)=some (I x):=by
 have hlt:=get_lt hx
 rw [List.getElem?_eq_getElem hlt]at hx
 obtain⟨b,o,ha,hc⟩:=e.at hlt
 exact⟨b,o,ha,by rw [Nat.mul_one,<-Option.some.inj hx];exact hc⟩
theorem Cs {h:Hp} {M:MSl} {m:ah} {s:Sl} {ps:List Int} {R:Value->Hp->Prop} (hs:aO h M m) (hm:bW m) (hp:IntS h s ps) (hps:ps.length<=1048576)
  (k:R (.bool (ps.all (dD m.nodes))) h):nY #[aQ M,s.v] h R:=by
 refine ACalls.drop (Ih ?_)
 refine uf_ ?_
 have hn:=hs.nodes.len
 have hns:=hm.nodes
 have hsn:=hp.len
 refine aj fun b7 h1 hb7 l1 f7=>?_
 have lf: ∀{q:Bool},q=ps.all (dD m.nodes)-> ∃h':Hp,h'.le h1/\R (.bool q) h':=fun e=>⟨_,l1,e▸k⟩
 clear k
 have hw:W ((M.no.n:Int)-1)=(m.nodes.length:Int)-1:=by rw [bU (by omega) (by omega),hn]
 refine av ps.length (fun i vs h'=>vs= [s.v, .pointer (some ⟨b7,0,none⟩),I i]/\h'=h1/\(ps.take i).all (dD m.nodes)=true) ⟨rfl,rfl,rfl⟩ ?_
 rintro i _ h1 next hi ⟨rfl,rfl,hg⟩ hnx
 refine⟨s,_,_,_,rfl,?_⟩
 by_cases hlt:i<ps.length
 ·refine aM (by simp;omega) ?_
  obtain⟨p,hpi⟩: ∃p,ps[i]?=some p:=⟨_,List.getElem?_eq_getElem hlt⟩
  obtain⟨b,o,ha,c0⟩:=(hp.mono l1).get hpi
  refine⟨b,o,ha,by omega,by omega,_,c0,?_⟩
  (refine az ?_)
  rw [hw]
  refine dH ⟨_,rfl,?_⟩
  rw [show decide (0<=p/\p<=(m.nodes.length:Int)-1)=cY m.nodes p from rfl]
  refine ac (fun e=>⟨trivial,trivial,trivial,lf ?_⟩) (fun e=>?_)
  ·have:cY m.nodes p=false:=by simpa using e
   rw [C9 hpi (by unfold dD;rw [this];rfl)]
  ·have e1:cY m.nodes p=true:=by simpa using e
   obtain⟨p1,p2,n,hn1,hs1,_⟩:=gL e1
   obtain⟨ba,oa,ha1,_,_,_,_,_,_,c6,c7,_⟩:=(hs.nodes.mono l1).at hn1
   refine⟨b,o,ha,by omega,by omega,?_⟩
   (refine az ?_)
   refine⟨_,c0,ba,oa,ha1,p1,by omega,_,c6,_,c7,?_⟩
   refine ce ⟨_,_,rfl,rfl,rfl,rfl,?_⟩
   rw [nZ n.sort (cF 1)]
   have hpq:dD m.nodes p=decide (n.sort=cF 1):=by unfold dD;rw [e1,hs1];rfl
   refine ac (fun e2=>lf ?_) (fun e2=>?_)
   ·rw [C9 hpi (by rw [hpq];simpa using e2)]
   ·rw [aC (by omega)]
    refine hnx hlt _ _ ⟨rfl,rfl,?_⟩
    rw [yQ hpi,hg,hpq];simpa using e2
 ·refine aE (by simp;omega) (lf ?_)
  rw [List.take_of_length_le (by omega)]at hg
  exact hg.symm
def xC (l:List NodeP) (b:BindP):Bool:=cY l b.state&&(cY l b.node&&(decide (kb l b.state=36)&&decide (aA l b.node=cF (aA l b.state).wid)))
theorem Sn (l:List NodeP) (b:BindP):jh l b=(fL l ⟨b.state,if xC l b then b.state else b.node⟩&& !(dM l l.length).getD b.node.toNat false):=by
 unfold jh fL
 generalize (dM l l.length).getD b.node.toNat false=M
 unfold xC
 cases hA:cY l b.state<;>cases hB:cY l b.node<;>cases hK:decide (kb l b.state=36)<;>cases hW:decide (aA l b.node=cF (aA l b.state).wid)<;>simp_all
theorem Qd {l:List NodeP} {b:BindP} (h:fL l ⟨b.state,if xC l b then b.state else b.node⟩=true):cY l b.node=true:=by
 by_cases hC:xC l b=true
 ·unfold xC at hC;simp only [Bool.and_eq_true]at hC;exact hC.2.1
 ·rw [if_neg hC]at h
  unfold fL at h;simp only [Bool.and_eq_true]at h;exact h.1.1.2
theorem Mu {h:Hp} {M:MSl} {m:ah} {R:Value->Hp->Prop} (hs:aO h M m) (hm:bW m) (hok:cv m.nodes=true)
  (k:R (.bool (m.inits.all (jh m.nodes)&&m.nexts.all (fL m.nodes))) h):se #[aQ M] h R:=by
 refine ACalls.drop (Hm ?_)
 refine uf_ ?_
 have hn:=hs.nodes.len
 have hns:=hm.nodes
 have hin:=hs.inits.len
 have hxn:=hs.nexts.len
 have hi1:=hm.inits
 have hi2:=hm.nexts
 refine aj fun b7 h1 hb7 l1 f7=>?_
 have lf: ∀{h'':Hp} {q:Bool},h.le h''->q=(m.inits.all (jh m.nodes)&&m.nexts.all (fL m.nodes))-> ∃h':Hp,h'.le h''/\R (.bool q) h':=fun l e=>⟨_,l,e▸k⟩
 clear k
 have hw:W ((M.no.n:Int)-1)=(m.nodes.length:Int)-1:=by rw [bU (by omega) (by omega),hn]
 refine av m.inits.length (fun i vs h'=>vs= [.pointer (some ⟨b7,0,none⟩),I i]/\h.le h'/\h' b7=some (.inl ⟨aw M,5,false⟩)/\(m.inits.take i).all (jh m.nodes)=true) ⟨rfl,l1,f7,rfl⟩ ?_
 clear l1 f7 hb7 h1
 rintro i _ h1 next hi ⟨rfl,l1,f7,hg⟩ hnx
 refine⟨_,_,_,rfl,?_⟩
 (refine az ?_)
 by_cases hlt:i<m.inits.length
 ·refine aM (by simp;omega) ?_
  obtain⟨bd,hbi⟩: ∃p,m.inits[i]?=some p:=⟨_,List.getElem?_eq_getElem hlt⟩
  obtain⟨b,o,ha,c0,c1⟩:=(hs.inits.mono l1).at hbi
  (refine az ?_)
  refine⟨b,o,ha,by omega,by omega,_,c0,_,c1,?_⟩
  refine aj fun b26 h2 hb26 l2 f26'=>?_
  have n7:b7≠b26:=fresh_ne hb26 f7
  replace f7:=l2 _ _ f7
  (with_reducible apply bZ);(exact f26');(exact Hp.le_trans l1 l2);(exact aF l1 hb26);(decide)
  intro h3 f26 kp l3
  replace f7:=ck kp n7 f7
  clear l1 l2 kp f26' hb26 c0 c1
  repeat' (refine az ?_)
  refine aj fun b34 h4 hb34 l4 f34'=>?_
  have n7':b7≠b34:=fresh_ne hb34 f7
  have n26:b26≠b34:=fresh_ne hb34 f26
  have b34n:=aF l3 hb34
  replace f7:=l4 _ _ f7
  replace f26:=l4 _ _ f26
  (with_reducible apply bZ);(exact f34');(exact Hp.le_trans l3 l4);(exact b34n);(decide)
  intro h5 f34 kp l5
  replace f7:=ck kp n7' f7
  replace f26:=ck kp n26 f26
  clear l3 l4 kp f34' hb34
  have hiw:=Sn m.nodes bd
  have hip:= @Qd m.nodes bd
  refine ap (fun J=>J (xC m.nodes bd) h5) ?_ (fun J hJ=>?_)
  ·refine ap (fun J=> ∀h',h.le h'->h' b7=some (.inl ⟨aw M,5,false⟩)->h' b26=some (.inl ⟨[I bd.state,I bd.node],2,false⟩)->h' b34=some (.inl ⟨[I bd.state,I (if xC m.nodes bd then bd.state else bd.node)],2,false⟩)->J h') ?_ (fun J hJ=>?_)
   ·intro h6 l6 g7 g26 g34
    repeat' (refine az ?_)
    refine BO (b:=⟨bd.state,if xC m.nodes bd then bd.state else bd.node⟩) (hs.mono l6) hm ⟨_,rfl,ac (fun e=>lf l6 ?_) (fun e=>?_)⟩
    ·rw [C9 hbi (by rw [hiw,show fL m.nodes ⟨bd.state,if xC m.nodes bd then bd.state else bd.node⟩=false by simpa using e];rfl)];rfl
    ·have e':fL m.nodes ⟨bd.state,if xC m.nodes bd then bd.state else bd.node⟩=true:=by simpa using e
     obtain⟨p1,p2,_⟩:=gL (hip e')
     obtain⟨a,ha'⟩: ∃a:Nat,bd.node=a:=⟨bd.node.toNat,by omega⟩
     rw [e',Bool.true_and,ha',Int.toNat_natCast]at hiw
     repeat' (refine az ?_)
     rw [ha']
     refine LA (hs.mono l6) hm hok (by omega) ⟨_,rfl,ac (fun e=>lf l6 ?_) (fun e=>?_)⟩
     ·rw [C9 hbi (by rw [hiw];simpa [rO] using e)];rfl
     ·rw [aC (by omega)]
      refine hnx hlt _ _ ⟨rfl,l6,g7,?_⟩
      rw [yQ hbi,hg,hiw];simpa [rO] using e
   ·refine ac (fun e=>?_) (fun e=>?_)
    ·(refine az ?_)
     (with_reducible apply bZ);(exact f34);(exact l5);(exact b34n);(exact Nat.le_refl 2)
     intro h6 g34 kp l6
     refine hJ h6 l6 (ck kp n7' f7) (ck kp n26 f26) ?_
     rw [e];exact g34
    ·refine hJ h5 l5 f7 f26 ?_
     rw [e];exact f34
  ·clear hiw hip hnx
   unfold xC at hJ
   repeat' (refine az ?_)
   rw [hw]
   refine dH ⟨_,rfl,?_⟩
   rw [show decide (0<=bd.state/\bd.state<=(m.nodes.length:Int)-1)=cY m.nodes bd.state from rfl]
   refine ac (fun e1=>?_) (fun e=>?_)
   rotate_left
   ·rw [e,Bool.false_and]at hJ;exact⟨trivial,trivial,trivial,hJ⟩
   rw [e1,Bool.true_and]at hJ
   repeat' (refine az ?_)
   rw [hw]
   refine dH ⟨_,rfl,?_⟩
   rw [show decide (0<=bd.node/\bd.node<=(m.nodes.length:Int)-1)=cY m.nodes bd.node from rfl]
   refine ac (fun e2=>?_) (fun e=>?_)
   rotate_left
   ·rw [e,Bool.false_and]at hJ;exact⟨trivial,trivial,trivial,hJ⟩
   rw [e2,Bool.true_and]at hJ
   obtain⟨p1,p2,n1,hn1,hs1,hk1⟩:=gL e1
   obtain⟨p3,p4,n2,hn2,hs2,_⟩:=gL e2
   obtain⟨ba,oa,ha1,d0,_,_,_,_,_,c6,c7,_⟩:=(hs.nodes.mono l5).at hn1
   obtain⟨bb,ob,ha2,_,_,_,_,_,_,d6,d7,_⟩:=(hs.nodes.mono l5).at hn2
   rw [hs1,hs2,hk1]at hJ
   repeat' (refine az ?_)
   refine⟨ba,oa,ha1,p1,by omega,_,d0,?_⟩
   refine ac (fun e=>?_) (fun e=>?_)
   rotate_left
   ·rw [decide_eq_false (bk e),Bool.false_and]at hJ;exact⟨trivial,trivial,trivial,hJ⟩
   rw [decide_eq_true (bV e),Bool.true_and]at hJ
   repeat' (refine az ?_)
   refine⟨bb,ob,ha2,p3,by omega,_,d6,_,d7,?_⟩
   repeat' (refine az ?_)
   refine⟨ba,oa,ha1,p1,by omega,_,c7,?_⟩
   refine ce ⟨_,_,rfl,rfl,rfl,rfl,?_⟩
   rw [nZ n2.sort (cF n1.sort.wid)]
   exact hJ
 ·refine aE (by simp;omega) ?_
  rw [List.take_of_length_le (by omega)]at hg
  rw [hg,Bool.true_and]at lf
  refine av m.nexts.length (fun i vs h'=>vs= [.pointer (some ⟨b7,0,none⟩),I i]/\h'=h1/\(m.nexts.take i).all (fL m.nodes)=true) ⟨rfl,rfl,rfl⟩ ?_
  rintro i _ h2 next2 hi ⟨rfl,rfl,hg2⟩ hnx2
  refine⟨_,_,_,rfl,?_⟩
  (refine az ?_)
  by_cases hlt2:i<m.nexts.length
  ·refine aM (by simp;omega) ?_
   obtain⟨bd,hbi⟩: ∃p,m.nexts[i]?=some p:=⟨_,List.getElem?_eq_getElem hlt2⟩
   obtain⟨b,o,ha,c0,c1⟩:=(hs.nexts.mono l1).at hbi
   repeat' (refine az ?_)
   refine⟨b,o,ha,by omega,by omega,_,c0,_,c1,?_⟩
   refine BO (b:=bd) (hs.mono l1) hm ⟨_,rfl,ac (fun e=>lf l1 ?_) (fun e=>?_)⟩
   ·rw [C9 hbi (by simpa using e)]
   ·rw [aC (by omega)]
    refine hnx2 hlt2 _ _ ⟨rfl,rfl,?_⟩
    rw [yQ hbi,hg2];simpa using e
  ·refine aE (by simp;omega) (lf l1 ?_)
   rw [List.take_of_length_le (by omega)]at hg2
   exact hg2.symm
def Ke (m:ah):Bool:=decide (60<m.nodes.length\/60<m.inits.length\/60<m.nexts.length\/4<m.bads.length\/4<m.holds.length)
theorem Ag (m:ah):ax m=(if Ke m then 1 else if cv m.nodes=false then 2 else if uj m=true then 3 else
  if(m.inits.all (jh m.nodes)&&m.nexts.all (fL m.nodes))=false then 4 else
  if(m.bads.all (dD m.nodes)&&m.holds.all (dD m.nodes))=false then 5 else
  if 8<ak m.nodes 36\/5<ak m.nodes 35 then 6 else 0):=by
 unfold ax Ke
 simp only [decide_eq_true_eq]
theorem aX {h:Hp} {M:MSl} {m:ah} {R:Value->Hp->Prop} (hs:aO h M m) (hm:bW m) (k:R (I (ax m)) h):bQ #[aQ M] h R:=by
 refine ACalls.drop (DH ?_)
 refine uf_ ?_
 have hn:=hs.nodes.len
 have hin:=hs.inits.len
 have hxn:=hs.nexts.len
 have hbn:=hs.bads.len
 have hhn:=hs.holds.len
 refine aj fun b7 h1 hb7 l1 f7=>?_
 have lf: ∀{q:Int},q=ax m-> ∃h':Hp,h'.le h1/\R (I q) h':=fun e=>⟨_,l1,e▸k⟩
 clear k
 rw [Ag]at lf
 have hs1:=hs.mono l1
 refine ap (fun J=>J (Ke m)) ?_ (fun J hJ=>?_)
 rotate_left
 ·unfold Ke at hJ
  repeat' (first|(with_reducible first|refine aM (b:=true) rfl ?_|refine aE (b:=false) rfl ?_|refine ac (fun _=>?_) fun _=>?_)|(refine az ?_)|(refine fI ?_ hJ))
  all_goals (clear hJ lf;(exact vg))
 refine ac (fun e=>lf (by rw [if_pos e])) (fun e=>?_)
 rw [if_neg (by rw [e];decide)]at lf
 repeat' (refine az ?_)
 refine Lq hs1 hm ⟨_,rfl,ac (fun e=>lf (by rw [if_pos (by simpa using e)])) (fun e2=>?_)⟩
 have hok:cv m.nodes=true:=by simpa using e2
 rw [if_neg (by rw [hok];decide)]at lf
 repeat' (refine az ?_)
 refine LJ hs1 hm ⟨_,rfl,ac (fun e=>lf (by rw [if_pos e])) (fun e3=>?_)⟩
 rw [if_neg (by rw [e3];decide)]at lf
 repeat' (refine az ?_)
 refine Mu hs1 hm hok ⟨_,rfl,ac (fun e=>lf (by rw [if_pos (by rw [Bool.not_eq_true']at e;exact e)])) (fun e4=>?_)⟩
 rw [if_neg (by rw [Bool.not_eq_false']at e4;rw [e4];decide)]at lf
 refine ap (fun J=>J (!(m.bads.all (dD m.nodes)&&m.holds.all (dD m.nodes))) h1) ?_ (fun J hJ=>?_)
 rotate_left
 ·repeat' (refine az ?_)
  refine Cs hs1 hm hs1.bads hm.bads ⟨_,rfl,ac (fun e=>?_) (fun e=>?_)⟩
  ·rw [show m.bads.all (dD m.nodes)=false by rw [Bool.not_eq_true']at e;exact e,Bool.false_and]at hJ;exact hJ
  ·rw [show m.bads.all (dD m.nodes)=true by rw [Bool.not_eq_false']at e;exact e,Bool.true_and]at hJ
   repeat' (refine az ?_)
   exact Cs hs1 hm hs1.holds hm.holds ⟨_,rfl,hJ⟩
 refine ac (fun e=>lf (by rw [if_pos (by rw [Bool.not_eq_true']at e;exact e)])) (fun e5=>?_)
 rw [if_neg (by rw [Bool.not_eq_false']at e5;rw [e5];decide)]at lf
 repeat' (refine az ?_)
 refine gC hs1 hm ⟨_,rfl,ac (fun e=>lf (by rw [if_pos (by simp at e;omega)])) (fun e6=>?_)⟩
 repeat' (refine az ?_)
 refine gC hs1 hm ⟨_,rfl,ac (fun e=>lf (by rw [if_pos (by simp at e;omega)])) (fun e7=>lf ?_)⟩
 rw [if_neg (by simp at e6 e7;omega)]
theorem B9 {h:Hp} {M:MSl} {m:ah} {s:Sl} {b7 b51 z1 z2:Nat} {x:BindP} {R:Value->Hp->Prop} (hs:aO h M m) (hm:bW m) (hmd:SlC h s 1 ((dM m.nodes m.nodes.length).map Value.bool))
  (f7:h b7=some (.inl ⟨aw M,z1,false⟩)) (f51:h b51=some (.inl ⟨[s.v],z2,false⟩))
  (k:R (.bool (!jh m.nodes x)) h):rD #[KQ x, .pointer (some ⟨b7,0,none⟩), .pointer (some ⟨b51,0,none⟩)] h R:=by
 refine ACalls.drop (zL ?_)
 refine uf_ ?_
 refine aj fun b8 h1 hb8 l1 f8=>?_
 replace f7:=l1 _ _ f7
 replace f51:=l1 _ _ f51
 repeat' (refine az ?_)
 exact Ei (b:=x) (hs.mono l1) hm (hmd.mono l1) ⟨_,rfl,_,l1,k⟩
theorem Ca {h:Hp} {M:MSl} {m:ah} {s:Sl} {b7 b51 z1 z2:Nat} {x:BindP} {R:Value->Hp->Prop} (hs:aO h M m) (hm:bW m) (hmd:SlC h s 1 ((dM m.nodes m.nodes.length).map Value.bool))
  (f7:h b7=some (.inl ⟨aw M,z1,false⟩)) (f51:h b51=some (.inl ⟨[s.v],z2,false⟩))
  (k:R (.bool (!fL m.nodes x)) h):rv #[KQ x, .pointer (some ⟨b7,0,none⟩), .pointer (some ⟨b51,0,none⟩)] h R:=by
 refine ACalls.drop (zy ?_)
 refine uf_ ?_
 refine aj fun b8 h1 hb8 l1 f8=>?_
 replace f7:=l1 _ _ f7
 replace f51:=l1 _ _ f51
 repeat' (refine az ?_)
 exact Ei (b:=x) (hs.mono l1) hm (hmd.mono l1) ⟨_,rfl,_,l1,k⟩
theorem B8 {h:Hp} {M:MSl} {m:ah} {b7 z1:Nat} {p:Int} {R:Value->Hp->Prop} (hs:aO h M m) (hm:bW m)
  (f7:h b7=some (.inl ⟨aw M,z1,false⟩)) (k:R (.bool (!dD m.nodes p)) h):rx #[I p, .pointer (some ⟨b7,0,none⟩)] h R:=by
 apply zD
 refine uf_ ?_
 have hn:=hs.nodes.len
 have hns:=hm.nodes
 repeat' (refine az ?_)
 refine wv hn hns ⟨_,rfl,ac (fun e=>⟨trivial,trivial,?_⟩) (fun e=>?_)⟩
 ·have:cY m.nodes p=false:=by simpa using e
  have:dD m.nodes p=false:=by unfold dD;rw [this];rfl
  rw [this]at k;exact k
 ·have e1:cY m.nodes p=true:=by simpa using e
  obtain⟨p1,p2,n,hn1,hs1,_⟩:=gL e1
  obtain⟨ba,oa,ha1,_,_,_,_,_,_,c6,c7,_⟩:=hs.nodes.at hn1
  (refine az ?_)
  refine⟨ba,oa,ha1,p1,by omega,_,c6,_,c7,?_⟩
  refine dl ⟨_,_,rfl,rfl,rfl,?_⟩
  rw [nZ n.sort (cF 1)]
  have hpq:dD m.nodes p=decide (n.sort=cF 1):=by unfold dD;rw [e1,hs1];rfl
  rw [hpq]at k;exact k
theorem FB {α:Type} (l:List α) (p:α->Bool):(l.any fun x=> !p x)= !l.all p:=by
 rw [List.all_eq_not_any_not,Bool.not_not]
theorem lO {h:Hp} {M:MSl} {m:ah} {R:Value->Hp->Prop} (hs:aO h M m) (hm:bW m) (k:R (I (ax m)) h):jF #[aQ M] h R:=by
 refine ACalls.drop (Da ?_)
 refine uf_ ?_
 have hn:=hs.nodes.len
 have hin:=hs.inits.len
 have hxn:=hs.nexts.len
 have hbn:=hs.bads.len
 have hhn:=hs.holds.len
 refine aj fun b7 h1 hb7 l1 f7=>?_
 have lf: ∀{h'':Hp} {q:Int},h.le h''->q=ax m-> ∃h':Hp,h'.le h''/\R (I q) h':=fun l e=>⟨_,l,e▸k⟩
 clear k
 rw [Ag]at lf
 have hs1:=hs.mono l1
 refine ap (fun J=>J (Ke m)) ?_ (fun J hJ=>?_)
 rotate_left
 ·unfold Ke at hJ
  repeat' (first|(with_reducible first|refine aM (b:=true) rfl ?_|refine aE (b:=false) rfl ?_|refine ac (fun _=>?_) fun _=>?_)|(refine az ?_)|(refine fI ?_ hJ))
  all_goals (clear hJ lf;(exact vg))
 refine ac (fun e=>lf l1 (by rw [if_pos e])) (fun e=>?_)
 rw [if_neg (by rw [e];decide)]at lf
 repeat' (refine az ?_)
 refine Lm hs1 hm ⟨_,rfl,ac (fun e=>lf l1 (by rw [if_pos (by simpa using e)])) (fun e2=>?_)⟩
 have hok:cv m.nodes=true:=by simpa using e2
 rw [if_neg (by rw [hok];decide)]at lf
 repeat' (refine az ?_)
 refine O3 hs1 hm ⟨_,rfl,ac (fun e=>lf l1 (by rw [if_pos e])) (fun e3=>?_)⟩
 rw [if_neg (by rw [e3];decide)]at lf
 repeat' (refine az ?_)
 refine Tx hs1 hm hok fun s h2 l2 hmd=>⟨_,rfl,?_⟩
 have f7':=l2 _ _ f7
 refine aj fun b51 h3 hb51 l3 f51'=>?_
 have n7:=fresh_ne hb51 f7'
 have l13:=Hp.le_trans l1 (Hp.le_trans l2 l3)
 have b51n:=aF (Hp.le_trans l1 l2) hb51
 (with_reducible apply bZ);(exact f51');(exact Hp.le_trans l2 l3);(exact aF l2 hb51);(exact Nat.le_refl 1)
 intro h4 f51 kp l14
 have l4:h2.le h4:=cL hb51 l3 kp
 have f7'':=l4 _ _ f7'
 have lh4:=Hp.le_trans l1 l14
 have hs4:=hs.mono lh4
 have hmd4:=hmd.mono l4
 clear f7 f7' f51' kp l13 l3 hb51 hs1
 refine ap (fun J=>J (!(m.inits.all (jh m.nodes)&&m.nexts.all (fL m.nodes))) h4) ?_ (fun J hJ=>?_)
 rotate_left
 ·(refine az ?_)
  refine oQ (fun x=> !jh m.nodes x) hs4.inits hm.inits (fun x hx R k=>B9 hs4 hm hmd4 f7'' f51 k) ⟨_,rfl,?_⟩
  rw [FB]
  refine ac (fun e=>?_) (fun e=>?_)
  ·rw [show m.inits.all (jh m.nodes)=false by rw [Bool.not_eq_true']at e;exact e,Bool.false_and]at hJ;exact hJ
  ·rw [show m.inits.all (jh m.nodes)=true by rw [Bool.not_eq_false']at e;exact e,Bool.true_and]at hJ
   (refine az ?_)
   refine oQ (fun x=> !fL m.nodes x) hs4.nexts hm.nexts (fun x hx R k=>Ca hs4 hm hmd4 f7'' f51 k) ⟨_,rfl,?_⟩
   rw [FB];exact hJ
 refine ac (fun e=>lf lh4 (by rw [if_pos (by rw [Bool.not_eq_true']at e;exact e)])) (fun e4=>?_)
 rw [if_neg (by rw [Bool.not_eq_false']at e4;rw [e4];decide)]at lf
 repeat' (refine az ?_)
 refine aj fun b72 h5 hb72 l5 f72=>?_
 have lh5:=Hp.le_trans lh4 l5
 refine E0 f72 (hs.mono lh5).bads (hs.mono lh5).holds hm.bads hm.holds fun t h6 l6 ht=>⟨t,rfl,?_⟩
 have lh6:=Hp.le_trans lh5 l6
 have hs6:=hs.mono lh6
 have f76:=l6 _ _ (l5 _ _ f7'')
 refine pq (fun x=> !dD m.nodes x) ht (fun x hx R k=>B8 hs6 hm f76 k) ⟨_,rfl,?_⟩
 rw [FB,List.all_append]
 refine ac (fun e=>lf lh6 (by rw [if_pos (by rw [Bool.not_eq_true']at e;exact e)])) (fun e5=>?_)
 rw [if_neg (by rw [Bool.not_eq_false']at e5;rw [e5];decide)]at lf
 repeat' (refine az ?_)
 refine fu hs6 hm ⟨_,rfl,ac (fun e=>lf lh6 (by rw [if_pos (by simp at e;omega)])) (fun e6=>?_)⟩
 repeat' (refine az ?_)
 refine fu hs6 hm ⟨_,rfl,ac (fun e=>lf lh6 (by rw [if_pos (by simp at e;omega)])) (fun e7=>lf lh6 ?_)⟩
 rw [if_neg (by simp at e6 e7;omega)]
end Go.Lead
