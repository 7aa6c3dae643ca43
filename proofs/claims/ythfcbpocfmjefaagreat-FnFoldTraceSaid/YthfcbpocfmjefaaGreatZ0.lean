/- What functions of the program and of the reference come to, walked one by one, and plain laws about it: part 1. No condition is added to the statement. -/
import Derived.Test.YthfcbpocfmjefaaGreatVm15
import Derived.Test.YthfcbpocfmjefaaGreatFn0
import Derived.Test.YthfcbpocfmjefaaGreatFn1
import Derived.Test.YthfcbpocfmjefaaGreatFn2
import Derived.Test.YthfcbpocfmjefaaGreatFn3
import Derived.Test.YthfcbpocfmjefaaGreatFn4
import Derived.Test.YthfcbpocfmjefaaGreatFn5
import Derived.Test.YthfcbpocfmjefaaGreatFn6
import Derived.Test.YthfcbpocfmjefaaGreatFn7
namespace Go.Lead
open Go
set_option linter.unusedSimpArgs false
set_option linter.unusedVariables false
set_option maxHeartbeats 1000000
theorem Zk {α:Type} {xs:List α} {p:α->Bool} {i:Nat} (hi:i<xs.length) (hp:p xs[i]=false):xs.all p=false:=by
 rw [List.all_eq_false];exact⟨_,List.getElem_mem hi,by simp [hp]⟩
theorem acT {α:Type} {xs:List α} {p:α->Bool} {i:Nat} (hi:i<xs.length):(xs.take (i+1)).all p=((xs.take i).all p&&p xs[i]):=by
 rw [List.take_succ_eq_append_getElem hi,List.all_append];simp
theorem Sg {α:Type} {xs:List α} {p:α->Bool} {i:Nat} (hi:i<xs.length):(xs.take (i+1)).any p=((xs.take i).any p||p xs[i]):=by
 rw [List.take_succ_eq_append_getElem hi,List.any_append];simp
theorem ey {h:Hp} {x a b:Int} {R:Value->Hp->Prop} (k:R (.bool (decide (a<=x/\x<=b))) h):cZ #[I x,I a,I b] h R:=by
 apply Rf
 refine uf_ ?_
 refine ad (fun e=>?_) (fun e=>?_)
 ·simp at e;simpa [e] using k
 ·simp at e;rwa [decide_eq_false (by omega)]at k
theorem gU {h:Hp} {x a b:Int} {R:Value->Hp->Prop} (k:R (.bool (decide (a<=x/\x<=b))) h):dS #[I x,I a,I b] h R:=by
 apply ZC
 refine uf_ ?_
 refine ad (fun e=>?_) (fun e=>?_)
 ·simp at e;simpa [e] using k
 ·simp at e;rwa [decide_eq_false (by omega)]at k
def J8 {α:Type} (p:α->Bool) (xs:List α):Int:=match xs.findIdx? p with|some i=>i|none=> -1
theorem uM {α:Type} {p:α->Bool} {xs:List α} (e:xs.any p=false):J8 p xs= -1:=by
 have:xs.findIdx? p=none:=by
  rw [List.findIdx?_eq_none_iff];intro x hx;rw [List.any_eq_false]at e;simpa using e x hx
 simp [J8,this]
theorem BT {α:Type} {p:α->Bool} {xs:List α} {i:Nat} (hi:i<xs.length) (e:(xs.take i).any p=false) (hp:p xs[i]=true):J8 p xs=i:=by
 have:xs.findIdx? p=some i:=by
  rw [List.findIdx?_eq_some_iff_getElem]
  refine⟨hi,hp,fun j hj=>?_⟩
  rw [List.any_eq_false]at e
  exact e _ (by rw [List.mem_take_iff_getElem];exact⟨j,by omega,rfl⟩)
 simp [J8,this]
theorem PL {α:Type} (p:α->Bool) (xs:List α):decide (J8 p xs>=0)=xs.any p:=by
 cases h:xs.any p with
 |false=>rw [uM h];rfl
 |true=>
  unfold J8
  cases h':xs.findIdx? p with
  |some i=>simp
  |none=>rw [List.findIdx?_eq_none_iff]at h';rw [List.any_eq_true]at h;obtain⟨x,hx,hp⟩:=h;simp [h' x hx]at hp
theorem vW {h:Hp} {s:Sl} {xs:List Int} {f:FuncId} {u w:Array Value} (p:Int->Bool) {R:Value->Hp->Prop} (hs:IntS h s xs)
  (hf: ∀x∈xs,∀R:Value->Hp->Prop,R (.bool (p x)) h->ACalls PR f ((u++ #[I x])++w) h R)
  (k:R (I (J8 p xs)) h):gm #[s.v, .func (.func f) u w] h R:=by
 apply uu
 refine uf_ ?_
 have hb:=hs.bound
 refine au xs.length (fun i vs h'=>vs= [s.v, .func (.func f) u w,I xs.length,I i]/\h'=h/\(xs.take i).any p=false) ⟨by rw [hs.len];rfl,rfl,by simp⟩ ?_
 rintro i _ _ next hi ⟨rfl,rfl,hp⟩ hn
 refine⟨_,_,_,_,_,_,rfl,?_⟩
 by_cases hlt:i<xs.length
 ·obtain⟨b,o,ha,hc⟩:=hs.at hlt
  refine aM (by simp [hlt]) ?_
  simp only [vm,hs.len,ha,hc,ay (n:=i) (by omega)]
  refine⟨by omega,hf _ (List.getElem_mem hlt) _ ⟨_,rfl,ad (fun he=>?_) (fun he=>?_)⟩⟩
  ·rwa [BT hlt hp he]at k
  ·exact hn hlt _ _ ⟨rfl,rfl,by rw [Sg hlt,hp,he];rfl⟩
 ·have:i=xs.length:=by omega
  subst this
  rw [List.take_length]at hp
  refine aC (by simp) ?_
  rwa [uM hp]at k
theorem rz {h:Hp} {s:Sl} {xs:List Int} {f:FuncId} {u w:Array Value} (p:Int->Bool) {R:Value->Hp->Prop} (hs:IntS h s xs)
  (hf: ∀x∈xs,∀R:Value->Hp->Prop,R (.bool (p x)) h->ACalls PR f ((u++ #[I x])++w) h R)
  (k:R (.bool (xs.any p)) h):fg #[s.v, .func (.func f) u w] h R:=by
 apply r8
 refine uf_ ?_
 exact vW p hs hf ⟨_,rfl,by rwa [PL]⟩
def th (h:Hp) (s:Sl) (xs:List Bool):Prop:=SlC h s 1 (xs.map Value.bool)
theorem th.mono {h h':Hp} {s:Sl} {xs:List Bool} (l:h.le h') (e:th h s xs):th h' s xs:=SlC.mono l e
theorem th.len {h:Hp} {s:Sl} {xs:List Bool} (e:th h s xs):s.n=xs.length:=by have:=e.2.1;simp at this;omega
theorem jF {h:Hp} {c n:Nat} {R:Value->Hp->Prop} (hn:n<=64) (k:R (I (if c.testBit n then 1 else 0)) h):eE #[I c,I n] h R:=by
 apply Q7
 refine uf_ ?_
 rw [cY (by omega),if_neg (by omega),jI hn,Mp,agV]
 split<;>simp_all
theorem Xw (xs:List Int):(xs.map I).all (·.oneCell')=true:=by
 rw [List.all_eq_true]
 intro v hv
 obtain⟨x,_,rfl⟩:=List.mem_map.1 hv
 rfl
theorem kO {h:Hp} {s:Sl} {xs:List Int} {R:Value->Hp->Prop} (hs:IntS h s xs) (hl:xs.length<=1048576)
  (k: ∀t h',h.le h'->Buf (h'.sub h) t 1 (xs.map I)->R (Sl.v t) h'):eu #[s.v] h R:=by
 apply yn
 refine uf_ ?_
 have:=hs.len
 exact Pz hs (by omega) (Xw _) fun t h' hn hle hb=>k t h' hle hb
theorem R9 (l:List UInt8): ∀(k i:Nat) (r:List UInt8),i+k=l.length->ByteArray.toList.loop ⟨l.toArray⟩ i r=r.reverse++l.drop i:=by
 intro k
 induction k with
 |zero=>
  intro i r hi
  unfold ByteArray.toList.loop
  rw [if_neg (by simp [ByteArray.size];omega),List.drop_eq_nil_of_le (by omega),List.append_nil]
 |succ k ih=>
  intro i r hi
  unfold ByteArray.toList.loop
  rw [if_pos (by simp [ByteArray.size];omega),ih (i+1) _ (by omega),List.drop_eq_getElem_cons (i:=i) (by omega)]
  simp [ByteArray.get!,show i<l.length by omega]
theorem nM (l:List UInt8):(⟨l.toArray⟩:ByteArray).toList=l:=by
 unfold ByteArray.toList
 rw [R9 l l.length 0 [] (by omega)];rfl
theorem BD {h:Hp} {c:Bool} {R:Value->Hp->Prop} (k:R (I (if c then 1 else 0)) h):se #[.bool c] h R:=by
 apply TU
 refine uf_ ?_
 cases c<;>exact k
def Fr (set:List Int):List (Value×Value):=set.map fun x=>(I x, .bool true)
theorem Yp (set:List Int) (n:Int): ∃res,gW (Instr.sameNow (.int .i64) (I n)) (Fr set) 0=some res/\Option.getD (Option.map (fun p=>p.2) res) (.bool false)= .bool (set.contains n)/\
  yW (Fr set) (I n) (.bool true) res=Fr (if set.contains n then set else set++ [n]):=by
 unfold Fr
 rcases tf (Instr.sameNow (.int .i64) (I n)) (fun x:Int=>I x) (fun _=> .bool true) (fun x=>n==x) set 0 (fun x _=>Rp _ _ _)with ⟨hno,hm⟩|⟨j,hj,hyes,_,hm⟩
 ·have hc:set.contains n=false:=by
   rw [Bool.eq_false_iff];intro h
   have:=hno n (by simpa using h)
   simp at this
  exact⟨_,hm,by rw [hc];rfl,by rw [hc];simp [yW]⟩
 ·have he:n=set[j]:=by simpa using hyes
  have hc:set.contains n=true:=by
   rw [he];simp
  refine⟨_,hm,by rw [hc];rfl,?_⟩
  rw [hc,if_pos rfl]
  simp only [yW,Nat.zero_add]
  apply List.ext_getElem
  ·simp
  ·intro i h1 h2
   rw [List.getElem_set]
   split
   ·rename_i hij;subst hij;simp [he]
   ·rfl
section
variable {cls :List (List Int)} {given:List Int} {v:Int}
end
def dj :Nat->(Nat->Bool)->Nat
 |0,_=>0
 |n+1,f=>dj n f+(if f n then 2^n else 0)
theorem uT (n:Nat) (f:Nat->Bool):dj n f<2^n:=by
 induction n with
 |zero=>simp [dj]
 |succ n ih=>simp only [dj,Nat.pow_succ];split<;>omega
theorem u6 (n:Nat) (f:Nat->Bool): ∀i,i<n->(dj n f).testBit i=f i:=by
 induction n with
 |zero=>intro i h;omega
 |succ n ih=>
  intro i hi
  have hl:=uT n f
  simp only [dj]
  by_cases h:i=n
  ·subst h
   cases hf:f i with
   |true=>rw [if_pos rfl,Nat.add_comm,Nat.testBit_two_pow_add_eq,Nat.testBit_lt_two_pow hl];rfl
   |false=>simp [Nat.testBit_lt_two_pow hl]
  ·cases hf:f n with
   |true=>rw [if_pos rfl,Nat.add_comm,Nat.testBit_two_pow_add_gt (by omega)];exact ih i (by omega)
   |false=>simp only [Bool.false_eq_true,if_false,Nat.add_zero];exact ih i (by omega)
def fu (h:Hp) (t:Sl) (n:Nat) (T:Nat->Bool):Prop:=th h t ((List.range n).map T)
theorem fu.mono {h h':Hp} {t:Sl} {n:Nat} {T:Nat->Bool} (l:h.le h') (e:fu h t n T):fu h' t n T:=th.mono l e
theorem we {h:Hp} {c:Bool} {R:Value->Hp->Prop} (k:R (I (if c then 1 else 0)) h):lD #[.bool c] h R:=by
 apply QY
 refine uf_ ?_
 cases c<;>exact k
def k9 (n:Nat) (x:Int):Bool:=decide (0<=x/\x<=((2^n:Nat):Int)-1)
theorem L8 {h:Hp} {s:Sl} {xs:List Int} {n:Nat} {R:Value->Hp->Prop} (hs:IntS h s xs) (hn:n<=62)
  (k:R (.bool (xs.all (k9 n))) h):uD #[s.v,I n] h R:=by
 apply PC
 refine uf_ ?_
 have h2:=pV (n:=n) (by omega)
 have h0:(0:Int)<((2^n:Nat):Int):=Int.ofNat_lt.2 (Nat.pow_pos (by omega))
 have hb:=hs.bound
 refine au xs.length (fun i vs h'=>vs= [I n,s.v,I xs.length,I i]/\h'=h/\(xs.take i).all (k9 n)=true) ⟨by rw [hs.len];rfl,rfl,by simp⟩ ?_
 rintro i _ _ next hi ⟨rfl,rfl,hp⟩ hnx
 refine⟨_,_,_,_,rfl,?_⟩
 by_cases hlt:i<xs.length
 ·obtain⟨b,o,ha,hc⟩:=hs.at hlt
  refine aM (by simp [hlt]) ?_
  simp only [vm,hs.len,ha,hc,ay (n:=i) (by omega)]
  refine⟨by omega,?_⟩
  rw [if_neg (by omega),cw (by omega),cd (by omega) (by omega)]
  refine gU ⟨_,rfl,ad (fun he=>?_) (fun he=>?_)⟩
  ·rwa [Zk (xs:=xs) hlt (by unfold k9;rw [<-Bool.not_eq_true'];exact he)]at k
  ·exact hnx hlt _ _ ⟨rfl,rfl,by rw [acT hlt,hp];unfold k9;simpa using he⟩
 ·have:i=xs.length:=by omega
  subst this
  rw [List.take_length]at hp
  refine aC (by simp) ?_
  rwa [hp]at k
structure Rd (h:Hp) (B:Nat) (s:Sl) (bs:List Nat) (p:Nat):Prop where
 row:h B=some (.inl ⟨[s.v,I p],2,false⟩)
 byt:ByteS (h.off B) s bs
theorem Vt {a b:Nat} (ha:a<4611686018427387904) (hb:b<4611686018427387904): ∃c:Nat,acU (a:Int) (b:Int)=c:=by
 have:=RW (a:=a) (b:=b) (by omega) (by omega)
 exact⟨_,this⟩
theorem Gk {h:Hp} {B p:Nat} {s:Sl} {bs:List Nat} {n:Int} {R:Value->Hp->Prop} (e:Rd h B s bs p) (hp:p<=1000000000) (hn:n<=1000000000)
  (k: ∀x:Nat,(1<=n->(x:Int)<n)->(n<1->x=0)->R (I x) (h.row B [s.v,I (p+1:Nat)] 2)):am #[.pointer (some ⟨B,0,none⟩),I n] h R:=by
 apply FE
 refine uf_ ?_
 simp only [vm,ax e.row,mm,e.row,ay (n:=p) (by omega)]
 have hb:=e.byt.mono (Jb h B [s.v,I (p+1:Nat)] 2)
 have hl:=hb.len
 have hbd:=hb.bound
 refine⟨by omega,?_⟩
 refine ap (fun J=>J (decide (n<1)||decide (bs.length=0))) ?_ ?_
 rotate_left
 ·intro J hJ
  refine ad (fun e=>?_) (fun e=>?_)
  ·rw [e,Bool.true_or]at hJ;exact hJ
  ·rw [e,Bool.false_or]at hJ
   have:((s.n:Int)==0)=decide (bs.length=0):=by rw [hl,Bool.eq_iff_iff];simp
   rw [this];exact hJ
 refine ad (fun he=>?_) (fun he=>?_)
 ·refine k 0 (fun h1=>by omega) (fun _=>rfl)
 have hn1:1<=n:=by simp at he;omega
 have hbn:0<bs.length:=by
  have:bs.length≠0:=by intro h;rw [h]at he;simp at he
  omega
 have hw:W (((p+1:Nat):Int)-1)=p:=by rw [cd (by omega) (by omega)];omega
 obtain⟨m,rfl⟩: ∃m:Nat,n=m:=⟨n.toNat,by omega⟩
 have fin: ∀x:Nat,R (I (Int.tmod (x:Int) (m:Int))) (h.row B [s.v,I (p+1:Nat)] 2):=by
  intro x
  have e1:Int.tmod (x:Int) (m:Int)=((x%m:Nat):Int):=by rw [Int.ofNat_tmod]
  rw [e1]
  have:x%m<m:=Nat.mod_lt _ (by omega)
  exact k (x%m) (fun _=>by omega) (fun h=>by omega)
 simp only [hw,hl]
 refine ad (fun hlt=>?_) (fun hlt=>?_)
 ·have hlt':p<bs.length:=by simp at hlt;omega
  obtain⟨b,o,ha,hc,hx⟩:=hb.at hlt'
  simp only [vm,ha,hc]
  refine⟨by omega,?_⟩
  rw [if_neg (by omega),fW (by omega)]
  exact fin _
 ·have hq: ∀q:Nat,Int.tmod (q:Int) (bs.length:Int)=((q%bs.length:Nat):Int):=fun q=>by rw [Int.ofNat_tmod]
  have hlt2: ∀q:Nat,q%bs.length<bs.length:=fun q=>Nat.mod_lt _ hbn
  have w1:W (W ((p:Int)*7)+3)=((p*7+3:Nat):Int):=by
   rw [cd (n:=(p:Int)*7) (by omega) (by omega),cd (by omega) (by omega)];omega
  obtain⟨b,o,ha,hc,hx⟩:=hb.at (hlt2 p)
  obtain⟨b',o',ha',hc',hy⟩:=hb.at (hlt2 (p*7+3))
  rw [ha]at ha';cases ha'
  have hdiv:Int.tdiv (p:Int) (bs.length:Int)=((p/bs.length:Nat):Int):=by rw [Int.ofNat_tdiv]
  have hdl:p/bs.length<=p:=Nat.div_le_self _ _
  generalize hX:bs[p%bs.length]'(hlt2 p)=X at*
  generalize hY:bs[(p*7+3)%bs.length]'(hlt2 _)=Y at*
  generalize hD:p/bs.length=D at*
  have tot:W (W (W (W (W (X:Int)*131)+W (W (Y:Int)*1117))+W ((p:Int)*29))+W (W (D:Int)*53))=((X*131+Y*1117+p*29+D*53:Nat):Int):=by
   rw [fW (n:=X) (by omega),fW (n:=Y) (by omega),fW (n:=D) (by omega),cd (n:=(X:Int)*131) (by omega) (by omega),cd (n:=(Y:Int)*1117) (by omega) (by omega),
    cd (n:=(p:Int)*29) (by omega) (by omega),cd (n:=(D:Int)*53) (by omega) (by omega),cd (n:=(X:Int)*131+(Y:Int)*1117) (by omega) (by omega),
    cd (n:=(X:Int)*131+(Y:Int)*1117+(p:Int)*29) (by omega) (by omega),cd (by omega) (by omega)]
   omega
  have d64:W (Int.tdiv (((X*131+Y*1117+p*29+D*53:Nat)):Int) 64)=(((X*131+Y*1117+p*29+D*53)/64:Nat):Int):=by
   have:Int.tdiv (((X*131+Y*1117+p*29+D*53:Nat)):Int) 64=(((X*131+Y*1117+p*29+D*53)/64:Nat):Int):=by
    have:=Int.ofNat_tdiv (X*131+Y*1117+p*29+D*53) 64
    exact this.symm
   rw [this,fW (by omega)]
  obtain⟨c,hcx⟩:=Vt (a:=X*131+Y*1117+p*29+D*53) (b:=(X*131+Y*1117+p*29+D*53)/64) (by omega) (by omega)
  have hnz: ¬((bs.length:Nat):Int)=0:=by omega
  simp only [vm,w1,hq,hdiv,ha,hc,hc',hD,tot,d64,hcx]
  rw [if_neg hnz]
  refine⟨by have:=hlt2 p;omega,?_⟩
  rw [if_neg hnz]
  refine⟨by have:=hlt2 (p*7+3);omega,?_⟩
  rw [if_neg hnz]
  have hm0: ¬(m:Int)=0:=by omega
  rw [if_neg hm0]
  have:=fin c
  simp only [true_and,and_self]
  exact this
theorem IntS.one {h:Hp} {b:Nat} {x:Int} {n:Nat} {ro:Bool} (e:h b=some (.inl ⟨[I x],n,ro⟩)):IntS h ⟨some ⟨b,0,none⟩,1,1⟩ [x]:=⟨by simp,by simp, .inr ⟨b,0,rfl,aw e⟩⟩
def fG (w:Nat) (n:Int):Nat:=(n%((2^w:Nat):Int)).toNat
def sgn (w a:Nat):Int:=if 2^(w-1)<=a then(a:Int)-((2^w:Nat):Int)else a
theorem bQ (w:Nat):0<2^w:=Nat.pow_pos (by omega)
theorem kV (w:Nat) (n:Int):fG w n<2^w:=by
 unfold fG
 have h:=Int.emod_lt_of_pos n (b:=((2^w:Nat):Int)) (Int.ofNat_lt.2 (bQ w))
 have h0:=Int.emod_nonneg n (b:=((2^w:Nat):Int)) (by have:=bQ w;omega)
 omega
theorem nF (w a:Nat):fG w (a:Int)=a%2^w:=by
 unfold fG
 rw [<-Int.natCast_emod,Int.toNat_natCast]
theorem Fi {w a:Nat} (h:a<2^w):fG w (a:Int)=a:=by rw [nF,Nat.mod_eq_of_lt h]
theorem yJ (w:Nat) (n:Int):((fG w n:Nat):Int)=n%((2^w:Nat):Int):=by
 unfold fG
 have h0:=Int.emod_nonneg n (b:=((2^w:Nat):Int)) (by have:=bQ w;omega)
 omega
theorem sW {w:Nat} (h:1<=w):2^w=2*2^(w-1):=by
 obtain⟨n,rfl⟩: ∃n,w=n+1:=⟨w-1,by omega⟩
 rw [Nat.pow_succ,Nat.add_sub_cancel];omega
theorem Pl {w a:Nat} (h:1<=w) (ha:a<2^w): -((2^(w-1):Nat):Int)<=sgn w a/\sgn w a<((2^(w-1):Nat):Int):=by
 have:=sW h
 unfold sgn;split<;>omega
theorem aa5 {w:Nat} (h:1<=w) (n:Int):sgn w (fG w n)=n↔ -((2^(w-1):Nat):Int)<=n/\n<((2^(w-1):Nat):Int):=by
 have hp:=sW h
 have hl:=kV w n
 have hb:=Pl h hl
 constructor
 ·intro e;rw [e]at hb;exact hb
 ·rintro ⟨h1,h2⟩
  have hc:=yJ w n
  have h3:n%((2^w:Nat):Int)=if n<0 then n+((2^w:Nat):Int)else n:=by
   split
   ·rw [<-Int.add_emod_right,Int.emod_eq_of_lt (by omega) (by omega)]
   ·rw [Int.emod_eq_of_lt (by omega) (by omega)]
  rw [h3]at hc
  unfold sgn
  split at hc<;>split<;>omega
theorem Sx {w a:Nat} (h:1<=w) (ha:a<2^w):fG w (sgn w a)=a:=by
 unfold sgn
 split
 ·unfold fG
  rw [Int.sub_emod_right,<-Int.natCast_emod,Int.toNat_natCast,Nat.mod_eq_of_lt ha]
 ·exact Fi ha
theorem kL {w x:Nat} {f:Nat->Bool} (hx:x<2^w) (h: ∀i,i<w->x.testBit i=f i):dj w f=x:=by
 apply Nat.eq_of_testBit_eq
 intro i
 by_cases hi:i<w
 ·rw [u6 _ _ _ hi,h i hi]
 ·rw [Nat.testBit_lt_two_pow (Nat.lt_of_lt_of_le (uT w f) (Nat.pow_le_pow_right (by omega) (by omega))),
   Nat.testBit_lt_two_pow (Nat.lt_of_lt_of_le hx (Nat.pow_le_pow_right (by omega) (by omega)))]
theorem wx {w:Nat} {f g:Nat->Bool} (h: ∀i,i<w->f i=g i):dj w f=dj w g:=kL (uT _ _) fun i hi=>by rw [u6 _ _ _ hi,h i hi]
theorem UU {w p:Nat} {f:Nat->Bool} (hp:p<w) (hf:f p=false):dj w f+2^p=dj w (fun i=>f i||decide (i=p)):=by
 induction w with
 |zero=>omega
 |succ w ih=>
  simp only [dj]
  by_cases h:p=w
  ·subst h
   have:dj p (fun i=>f i||decide (i=p))=dj p f:=wx fun i hi=>by simp;omega
   rw [this];simp [hf]
  ·have:=ih (by omega)
   have e:(f w||decide (w=p))=f w:=by simp;omega
   simp only [e]
   omega
def k7 :Nat->Nat->Nat
 |0,_=>0
 |w+1,a=>k7 w a+(if a.testBit w then 1 else 0)
theorem SX (w a:Nat):k7 w a<=w:=by
 induction w with
 |zero=>simp [k7]
 |succ w ih=>simp only [k7];split<;>omega
theorem UN {w a:Nat} (ha:a<2^w):k7 w a=w↔a=2^w-1:=by
 have key: ∀w,k7 w a=w↔ ∀i,i<w->a.testBit i=true:=by
  intro w
  induction w with
  |zero=>simp [k7]
  |succ w ih=>
   have:=SX w a
   simp only [k7]
   constructor
   ·intro h i hi
    by_cases hw:a.testBit w=true
    ·rw [if_pos hw]at h
     by_cases hiw:i=w
     ·subst hiw;exact hw
     ·exact ih.1 (by omega) i (by omega)
    ·rw [if_neg hw]at h;omega
   ·intro h
    rw [if_pos (h w (by omega)),ih.2 fun i hi=>h i (by omega)]
 rw [key]
 constructor
 ·intro h
  apply Nat.eq_of_testBit_eq
  intro i
  rw [Nat.testBit_two_pow_sub_one]
  by_cases hi:i<w
  ·rw [h i hi];simp [hi]
  ·rw [Nat.testBit_lt_two_pow (Nat.lt_of_lt_of_le ha (Nat.pow_le_pow_right (by omega) (by omega)))];simp [hi]
 ·rintro rfl i hi
  rw [Nat.testBit_two_pow_sub_one];simpa using hi
theorem Mo {w a b:Nat} (ha:a<2^w):dj w (fun i=>a.testBit i&&b.testBit i)=a&&&b:=
 kL (Nat.lt_of_le_of_lt Nat.and_le_left ha) fun i _=>by rw [Nat.testBit_and]
theorem Wk {w a b:Nat} (ha:a<2^w) (hb:b<2^w):dj w (fun i=>a.testBit i||b.testBit i)=a|||b:=
 kL (Nat.or_lt_two_pow ha hb) fun i _=>by rw [Nat.testBit_or]
theorem abk {w a b:Nat} (ha:a<2^w) (hb:b<2^w):dj w (fun i=>a.testBit i^^b.testBit i)=a^^^b:=
 kL (Nat.xor_lt_two_pow ha hb) fun i _=>by rw [Nat.testBit_xor]
def aeT (w a b:Nat):Nat:=a*2^min b w%2^w
def aei (w a b:Nat):Nat:=a/2^min b w
def afa (w a b:Nat):Nat:=fG w (sgn w a/((2^min b w:Nat):Int))
theorem abt {w a b:Nat}:dj w (fun i=>decide (b<=i)&&a.testBit (i-b))=aeT w a b:=by
 unfold aeT
 refine kL (Nat.mod_lt _ (bQ w)) fun i hi=>?_
 rw [Nat.testBit_mod_two_pow,Nat.mul_comm,Nat.testBit_two_pow_mul]
 have:decide (i<w)=true:=by simpa using hi
 rw [this,Bool.true_and]
 by_cases h:b<=i
 ·rw [Nat.min_eq_left (by omega)]
 ·have h1:decide (b<=i)=false:=by simpa using h
  have h2:decide (min b w<=i)=false:=by simp;omega
  simp [h1,h2]
theorem ac8 {w a b:Nat} (ha:a<2^w):dj w (fun i=>decide (i+b<w)&&a.testBit (i+b))=aei w a b:=by
 unfold aei
 refine kL (Nat.lt_of_le_of_lt (Nat.div_le_self _ _) ha) fun i hi=>?_
 rw [Nat.testBit_div_two_pow]
 by_cases h:i+b<w
 ·rw [Nat.min_eq_left (by omega)];simp [h]
 ·have h1:decide (i+b<w)=false:=by simpa using h
  rw [h1,Bool.false_and]
  refine Nat.testBit_lt_two_pow (Nat.lt_of_lt_of_le ha (Nat.pow_le_pow_right (by omega) ?_))
  omega
theorem abb {w a b:Nat} (hw:1<=w) (hw16:w<=16) (ha:a<2^w):dj w (fun i=>if i+b<w then a.testBit (i+b)else a.testBit (w-1))=afa w a b:=by
 have hp:=sW hw
 have top:a.testBit (w-1)=decide (2^(w-1)<=a):=by
  rw [Nat.testBit_eq_decide_div_mod_eq]
  by_cases h:2^(w-1)<=a
  ·have:a/2^(w-1)=1:=by
    rw [Nat.div_eq_iff (bQ _)];omega
   simp [this,h]
  ·have:a/2^(w-1)=0:=Nat.div_eq_of_lt (by omega)
   simp [this,h]
 have hb:min b w<=w:=Nat.min_le_right _ _
 have small: ∀i,i<w->i+b<w->min b w=b:=fun i _ h=>Nat.min_eq_left (by omega)
 unfold afa
 refine kL (kV _ _) fun i hi=>?_
 by_cases hs:2^(w-1)<=a
 ·--with the sign
  have e1:sgn w a=(a:Int)-((2^w:Nat):Int):=by unfold sgn;rw [if_pos hs]
  have e2:fG w (sgn w a/((2^min b w:Nat):Int))=((a+2^w*(2^16-1))/2^min b w)%2^w:=by
   have h1:sgn w a=((a+2^w*(2^16-1):Nat):Int)-((2^min b w:Nat):Int)*((2^(w+16-min b w):Nat):Int):=by
    have h2:2^min b w*2^(w+16-min b w)=2^w*2^16:=by rw [<-Nat.pow_add,<-Nat.pow_add];congr 1;omega
    rw [e1,<-Int.natCast_mul,h2]
    have:2^w*(2^16-1)+2^w=2^w*2^16:=by rw [<-Nat.mul_succ]
    omega
   have hpos:((2^min b w:Nat):Int)≠0:=by have:=bQ (min b w);omega
   have h3:sgn w a/((2^min b w:Nat):Int)=(((a+2^w*(2^16-1))/2^min b w:Nat):Int)-((2^w:Nat):Int)*((2^(16-min b w):Nat):Int):=by
    rw [h1,Int.sub_eq_add_neg,<-Int.mul_neg,Int.add_mul_ediv_left _ _ hpos,<-Int.natCast_ediv]
    have:2^(w+16-min b w)=2^w*2^(16-min b w):=by rw [<-Nat.pow_add];congr 1;omega
    rw [this,Int.natCast_mul];omega
   rw [h3]
   unfold fG
   rw [Int.sub_mul_emod_self_left,<-Int.natCast_emod,Int.toNat_natCast]
  rw [e2,Nat.testBit_mod_two_pow,Nat.testBit_div_two_pow,Nat.add_comm a,Nat.testBit_two_pow_mul_add _ ha]
  have hd:decide (i<w)=true:=by simpa using hi
  rw [hd,Bool.true_and]
  by_cases h:i+b<w
  ·have hm:=small i hi h
   rw [if_pos h,hm,if_pos (by omega)]
  ·have hm: ¬i+min b w<w:=by omega
   rw [if_neg h,if_neg hm,Nat.testBit_two_pow_sub_one,top]
   simp only [hs,decide_true,decide_eq_true_eq]
   omega
 ·have e1:sgn w a=a:=by unfold sgn;rw [if_neg hs]
  rw [e1,<-Int.natCast_ediv,nF,Nat.testBit_mod_two_pow,Nat.testBit_div_two_pow]
  have hd:decide (i<w)=true:=by simpa using hi
  rw [hd,Bool.true_and]
  by_cases h:i+b<w
  ·rw [if_pos h,small i hi h]
  ·rw [if_neg h,top]
   have hm: ¬i+min b w<w:=by omega
   have:decide (2^(w-1)<=a)=false:=by simpa using hs
   rw [this]
   exact Nat.testBit_lt_two_pow (Nat.lt_of_lt_of_le ha (Nat.pow_le_pow_right (by omega) (by omega)))
def DL (w a k:Nat):Nat:=((a*2^k)|||(a/2^(w-k)))%2^w
theorem afG {w a k i:Nat} (ha:a<2^w) (hk:k<w) (hi:i<w):(DL w a k).testBit i=a.testBit ((i+(w-k))%w):=by
 unfold DL
 rw [Nat.testBit_mod_two_pow,Nat.testBit_or,Nat.mul_comm,Nat.testBit_two_pow_mul,Nat.testBit_div_two_pow]
 have hd:decide (i<w)=true:=by simpa using hi
 rw [hd,Bool.true_and]
 by_cases h:k<=i
 ·have e:(i+(w-k))%w=i-k:=by
   have:i+(w-k)=(i-k)+w:=by omega
   rw [this,Nat.add_mod_right,Nat.mod_eq_of_lt (by omega)]
  have z:a.testBit (i+(w-k))=false:=Nat.testBit_lt_two_pow (Nat.lt_of_lt_of_le ha (Nat.pow_le_pow_right (by omega) (by omega)))
  rw [e,z];simp [h]
 ·have e:(i+(w-k))%w=i+(w-k):=Nat.mod_eq_of_lt (by omega)
  rw [e]
  have:decide (k<=i)=false:=by simpa using h
  rw [this];simp
theorem aaX {w a k:Nat} (ha:a<2^w) (hk:k<w):dj w (fun j=>a.testBit ((j+(w-k))%w))=DL w a k:=
 kL (Nat.mod_lt _ (bQ w)) fun i hi=>afG ha hk hi
theorem XV {w a k i:Nat} (hk:k<w) (hi:i<w):
  dj w (fun j=>decide ((j+(w-k))%w<i)&&a.testBit ((j+(w-k))%w))+(if a.testBit i then 2^((i+k)%w)else 0)=
   dj w (fun j=>decide ((j+(w-k))%w<i+1)&&a.testBit ((j+(w-k))%w)):=by
 have hpw:(i+k)%w<w:=Nat.mod_lt _ (by omega)
 have back:((i+k)%w+(w-k))%w=i:=by
  rw [Nat.mod_add_mod]
  have:i+k+(w-k)=i+w:=by omega
  rw [this,Nat.add_mod_right,Nat.mod_eq_of_lt hi]
 have inj: ∀j,j<w->((j+(w-k))%w=i↔j=(i+k)%w):=by
  intro j hj
  constructor
  ·intro h
   have:(j+(w-k)+k)%w=(i+k)%w:=by rw [<-h,Nat.mod_add_mod]
   rw [<-this]
   have:j+(w-k)+k=j+w:=by omega
   rw [this,Nat.add_mod_right,Nat.mod_eq_of_lt hj]
  ·rintro rfl;exact back
 cases hb:a.testBit i with
 |false=>
  simp only [Bool.false_eq_true,if_false,Nat.add_zero]
  refine wx fun j hj=>?_
  by_cases h:(j+(w-k))%w=i
  ·rw [h,hb];simp
  ·have:decide ((j+(w-k))%w<i+1)=decide ((j+(w-k))%w<i):=by
    rw [decide_eq_decide];omega
   rw [this]
 |true=>
  simp only [if_true]
  rw [UU hpw (by rw [back];simp)]
  refine wx fun j hj=>?_
  by_cases h:j=(i+k)%w
  ·have h2:=(inj j hj).2 h
   rw [h2,hb];simp [h]
  ·have h2: ¬(j+(w-k))%w=i:=fun e=>h ((inj j hj).1 e)
   have:decide ((j+(w-k))%w<i+1)=decide ((j+(w-k))%w<i):=by
    rw [decide_eq_decide];omega
   rw [this];simp [h]
def yH (kind:Int) (w a:Nat):Nat×Nat:=
 if kind=1 then(2^w-1-a,w)else if kind=2 then(fG w (-(a:Int)),w)else if kind=3 then(if a=0 then 0 else 1,1)else
 if kind=4 then(if a=2^w-1 then 1 else 0,1)else(k7 w a%2,1)
def N7 (w a b:Nat):Nat:=if sgn w b=0 then(if sgn w a<0 then 1 else 2^w-1)else fG w (Int.tdiv (sgn w a) (sgn w b))
def OE (w a b:Nat):Nat:=if sgn w b=0 then a else fG w (Int.tmod (sgn w a) (sgn w b))
def AD (kind:Int) (w a b:Nat):Bool:=
 if kind=21 then decide (a=b)else if kind=22 then decide (a<b)else if kind=23 then decide (sgn w a<sgn w b)else
 if kind=24 then decide (a<=b)else if kind=25 then decide (sgn w a<=sgn w b)else if kind=26 then decide (2^w<=a+b)else
 if kind=27 then !decide (-((2^(w-1):Nat):Int)<=sgn w a+sgn w b/\sgn w a+sgn w b<((2^(w-1):Nat):Int))else decide (2^w<=a*b)
def BH (kind:Int) (w a b:Nat):Nat:=
 if kind=6 then a&&&b else if kind=7 then a|||b else if kind=8 then a^^^b else if kind=9 then fG w ((a:Int)+b)else
 if kind=10 then fG w ((a:Int)-b)else if kind=11 then fG w ((a:Int)*b)else if kind=12 then(if b=0 then 2^w-1 else a/b)else
 if kind=13 then(if b=0 then a else a%b)else if kind=14 then N7 w a b else if kind=15 then OE w a b else
 if kind=16 then aeT w a b else if kind=17 then aei w a b else if kind=18 then afa w a b else if kind=19 then DL w a (b%w)else DL w a ((w-b%w)%w)
def qt (kind:Int) (w a b:Nat):Nat×Nat:=if kind<=20 then(BH kind w a b,w)else(if AD kind w a b then 1 else 0,1)
theorem aeG {kind:Int} {w a:Nat} (hw:1<=w) (ha:a<2^w):(yH kind w a).1<2^(yH kind w a).2:=by
 have:=bQ w
 unfold yH
 split
 ·simp only;omega
 ·split
  ·exact kV _ _
  ·split
   ·simp only;split<;>omega
   ·split
    ·simp only;split<;>omega
    ·simp only;omega
theorem Wi (w a k:Nat):DL w a k<2^w:=Nat.mod_lt _ (bQ w)
theorem lv {c:Prop} [Decidable c] {x y n:Nat} (hx:x<n) (hy:y<n):(if c then x else y)<n:=by
 by_cases h:c
 ·rw [if_pos h];exact hx
 ·rw [if_neg h];exact hy
theorem adn {kind:Int} {w a b:Nat} (hw:1<=w) (ha:a<2^w) (hb:b<2^w):BH kind w a b<2^w:=by
 have hp:=bQ w
 have hp1:1<2^w:=by
  have:=sW hw;have:=bQ (w-1);omega
 unfold BH
 refine lv (Nat.lt_of_le_of_lt Nat.and_le_left ha) (lv (Nat.or_lt_two_pow ha hb) (lv (Nat.xor_lt_two_pow ha hb) (lv (kV _ _) (lv (kV _ _) (lv (kV _ _)
  (lv (lv (by omega) (Nat.lt_of_le_of_lt (Nat.div_le_self _ _) ha)) (lv (lv ha (Nat.lt_of_le_of_lt (Nat.mod_le _ _) ha)) (lv ?_ (lv ?_ (lv (Nat.mod_lt _ hp)
  (lv (Nat.lt_of_le_of_lt (Nat.div_le_self _ _) ha) (lv (kV _ _) (lv (Wi _ _ _) (Wi _ _ _))))))))))))))
 ·unfold N7
  exact lv (lv hp1 (by omega)) (kV _ _)
 ·unfold OE
  exact lv ha (kV _ _)
theorem aft {kind:Int} {w a b:Nat} (hw:1<=w) (ha:a<2^w) (hb:b<2^w):(qt kind w a b).1<2^(qt kind w a b).2:=by
 unfold qt
 split
 ·exact adn hw ha hb
 ·simp only;split<;>omega
theorem ahZ {w a b:Nat} (hw:1<=w):(sgn w (fG w (sgn w a+sgn w b))≠sgn w a+sgn w b)↔ ¬(-((2^(w-1):Nat):Int)<=sgn w a+sgn w b/\sgn w a+sgn w b<((2^(w-1):Nat):Int)):=by
 rw [ne_eq,aa5 hw]
structure SortP where
 idx:Int
 wid:Int
 deriving DecidableEq
structure NodeP where
 kind:Int
 a:Int
 b:Int
 c:Int
 n:Int
 m:Int
 sort:SortP
 name:ByteArray
structure BindP where
 state:Int
 node:Int
 deriving DecidableEq
structure ah where
 nodes:List NodeP
 inits:List BindP
 nexts:List BindP
 bads:List Int
 holds:List Int
def bW (s:SortP):Bool:=decide ((0<=s.idx/\s.idx<=2)/\(1<=s.wid/\s.wid<=16))
def dg (s:SortP):Nat:=if bW s then 2^s.idx.toNat else 0
def dT (s:SortP):Nat:=dg s*s.wid.toNat
def cR (w:Int):SortP:=⟨0,w⟩
def ai (kind:Int):Int:=
 if(1<=kind/\kind<=5)\/(30<=kind/\kind<=32)then 1 else if(6<=kind/\kind<=29)\/kind=37 then 2 else if kind=33\/kind=38 then 3 else
 if 34<=kind/\kind<=36 then 0 else-1
def jm (c:UInt8):Bool:=decide (97<=c.toNat/\c.toNat<=122)
def qv (c:UInt8):Bool:=decide (48<=c.toNat/\c.toNat<=57)
def gD (s:ByteArray):Bool:=decide (1<=s.size/\s.size<=8)&&(match s.data.toList with| []=>false|c::r=>jm c&&r.all fun c=>jm c||qv c)
def cX (kind:Int):Bool:=decide (kind=35\/kind=36)
def nV (k:Int) (len:Nat) (i:Int) (p:Int):Bool:=if i<k then decide (0<=p/\p<=(len:Int)-1)else decide (p=0)
def fR (len:Nat) (n:NodeP):Bool:=
 decide (0<=ai n.kind)&&(nV (ai n.kind) len 0 n.a&&nV (ai n.kind) len 1 n.b&&nV (ai n.kind) len 2 n.c)&&
 (if cX n.kind then gD n.name else decide (n.name.size=0))&&(decide (n.kind=30)||decide (n.m=0))&&
 (decide (n.kind=30\/n.kind=31\/n.kind=32\/n.kind=34)||decide (n.n=0))
def ka (w v:Int):Bool:=decide ((1<=w/\w<=16)/\0<=v/\v<=((2^w.toNat:Nat):Int)-1)
def di (n:NodeP) (a b c:SortP):Option SortP:=
 if n.kind=33 then(if a=cR 1/\b=c then some b else none)else
 if n.kind=37 then(if 0<a.idx/\b=cR a.idx then some (cR a.wid)else none)else
 if n.kind=38 then(if 0<a.idx/\b=cR a.idx/\c=cR a.wid then some a else none)else
 if n.kind=21 then(if a=b then some (cR 1)else none)else
 if 0<a.idx\/(ai n.kind=2/\0<b.idx)then none else
 if n.kind=29 then(if a.wid+b.wid<=16 then some (cR (a.wid+b.wid))else none)else
 if n.kind=30 then(if(0<=n.n/\n.n<=a.wid-1)/\0<=n.m/\n.m<=n.n then some (cR (n.n-n.m+1))else none)else
 if n.kind=31\/n.kind=32 then(if 0<=n.n/\n.n<=16-a.wid then some (cR (a.wid+n.n))else none)else
 if n.kind<=5 then some (cR (if n.kind<=2 then a.wid else 1))else
 if a=b then some (cR (if n.kind<=20 then a.wid else 1))else none
def ar (l:List NodeP) (p:Int):SortP:=match l[p.toNat]? with|some n=>n.sort|none=>⟨0,0⟩
def dc (l:List NodeP) (n:NodeP):Option SortP:=
 if l.length<=60/\fR l.length n=true then
  (if ai n.kind=0 then(if(if n.kind=34 then decide (n.sort.idx=0)&&ka n.sort.wid n.n else bW n.sort)then some n.sort else none)else
   if bW (ar l n.a)&&((decide (ai n.kind<2)||bW (ar l n.b))&&(decide (ai n.kind<3)||bW (ar l n.c)))then
    di n (ar l n.a) (ar l n.b) (ar l n.c)else none)
 else none
def bP (l:List NodeP):Bool:=(List.range l.length).all fun i=>match l[i]? with|some n=>decide (dc (l.take i) n=some n.sort)|none=>true
def gQ {α:Type} [DecidableEq α] (l:List α):Bool:=(List.range l.length).any fun i=>match l[i]? with|some x=>(l.take i).any fun y=>decide (y=x)|none=>false
def fJ (l:List NodeP):Bool:=(List.range l.length).any fun i=>match l[i]? with|some n=>decide (n.name.size≠0)&&(l.take i).any fun y=>decide (y.name=n.name)|none=>false
def vC (m:ah):Bool:=fJ m.nodes||(gQ (m.inits.map (·.state))||gQ (m.nexts.map (·.state)))
def dQ (l:List NodeP):Nat->List Bool
 |0=> []
 |i+1=>dQ l i++ [match l[i]? with
   |some n=>cX n.kind||((decide (0<ai n.kind)&&(dQ l i).getD n.a.toNat false)||((decide (1<ai n.kind)&&(dQ l i).getD n.b.toNat false)||(decide (2<ai n.kind)&&(dQ l i).getD n.c.toNat false)))
   |none=>false]
def cU (l:List NodeP) (p:Int):Bool:=decide (0<=p/\p<=(l.length:Int)-1)
def gz (l:List NodeP) (p:Int):Int:=match l[p.toNat]? with|some n=>n.kind|none=>0
def jo (l:List NodeP) (b:BindP):Bool:=
 (cU l b.state&&cU l b.node&&decide (gz l b.state=36))&&((decide (ar l b.state=ar l b.node)||decide (ar l b.node=cR (ar l b.state).wid))&& !(dQ l l.length).getD b.node.toNat false)
def gk (l:List NodeP) (b:BindP):Bool:=(cU l b.state&&cU l b.node&&decide (gz l b.state=36))&&decide (ar l b.state=ar l b.node)
def da (l:List NodeP) (p:Int):Bool:=cU l p&&decide (ar l p=cR 1)
def ak (l:List NodeP) (kind:Int):Nat:=((l.filter fun n=>decide (n.kind=kind)).map fun n=>dT n.sort).sum
def av (l:List NodeP) (kind:Int):List Nat:=(List.range l.length).filter fun i=>match l[i]? with|some n=>decide (n.kind=kind)|none=>false
def aG (m:ah):Int:=
 if 60<m.nodes.length\/60<m.inits.length\/60<m.nexts.length\/4<m.bads.length\/4<m.holds.length then 1 else
 if bP m.nodes=false then 2 else if vC m=true then 3 else
 if(m.inits.all (jo m.nodes)&&m.nexts.all (gk m.nodes))=false then 4 else
 if(m.bads.all (da m.nodes)&&m.holds.all (da m.nodes))=false then 5 else
 if 8<ak m.nodes 36\/5<ak m.nodes 35 then 6 else 0
def aK (v:List (List Nat)) (p:Int):Nat:=(v.getD p.toNat []).getD 0 0
def JT (a lo n:Nat):Nat:=a/2^lo%2^n
def EW (w a more:Nat) (signed:Bool):Nat:=if signed then fG (w+more) (sgn w a)else a
def bz (l:List NodeP) (n:NodeP) (v:List (List Nat)):List Nat:=
 if n.kind=34 then [n.n.toNat]else
 if n.kind=33 then(if aK v n.a=1 then v.getD n.b.toNat []else v.getD n.c.toNat [])else
 if n.kind=21 then [if v.getD n.a.toNat []=v.getD n.b.toNat []then 1 else 0]else
 if n.kind=37 then [(v.getD n.a.toNat []).getD (aK v n.b) 0]else
 if n.kind=38 then(v.getD n.a.toNat []).set (aK v n.b) (aK v n.c)else
 if n.kind=29 then [aK v n.a*2^(ar l n.b).wid.toNat+aK v n.b]else
 if n.kind=30 then [JT (aK v n.a) n.m.toNat (n.n-n.m+1).toNat]else
 if n.kind=31\/n.kind=32 then [EW (ar l n.a).wid.toNat (aK v n.a) n.n.toNat (decide (n.kind=32))]else
 if ai n.kind=1 then [(yH n.kind (ar l n.a).wid.toNat (aK v n.a)).1]else [(qt n.kind (ar l n.a).wid.toNat (aK v n.a) (aK v n.b)).1]
def du (l:List NodeP) (s inp:List (List Nat)):Nat->List (List Nat)
 |0=> []
 |i+1=>du l s inp i++ [match l[i]? with
   |some n=>if n.kind=36 then s.getD (av (l.take i) 36).length []else if n.kind=35 then inp.getD (av (l.take i) 35).length []else bz l n (du l s inp i)
   |none=> []]
def dK (n:NodeP):List Nat:=([n.a.toNat,n.b.toNat,n.c.toNat]).take (ai n.kind).toNat
theorem qE (k:Int):ai k=0\/ai k=1\/ai k=2\/ai k=3\/ai k= -1:=by
 unfold ai
 by_cases h1:(1<=k/\k<=5)\/(30<=k/\k<=32)
 ·rw [if_pos h1];simp
 rw [if_neg h1]
 by_cases h2:(6<=k/\k<=29)\/k=37
 ·rw [if_pos h2];simp
 rw [if_neg h2]
 by_cases h3:k=33\/k=38
 ·rw [if_pos h3];simp
 rw [if_neg h3]
 by_cases h4:34<=k/\k<=36
 ·rw [if_pos h4];simp
 rw [if_neg h4];simp
def EQ (l:List NodeP):Prop:= ∀(i:Nat) (n:NodeP),l[i]?=some n->0<=ai n.kind/\ ∀p∈dK n,p<i
def uJ (l:List NodeP) (j:Nat):Bool:=match l[j]? with|some n=>cX n.kind|none=>false
def jz (l:List NodeP) (j:Nat):Bool:=(dQ l l.length).getD j false
theorem jU (l:List NodeP): ∀i,(dQ l i).length=i:=by
 intro i
 induction i with
 |zero=>rfl
 |succ i ih=>simp only [dQ,List.length_append,ih,List.length_cons,List.length_nil]
theorem O8 (l:List NodeP): ∀d i j,j<i->(dQ l (i+d)).getD j false=(dQ l i).getD j false:=by
 intro d
 induction d with
 |zero=>intro i j _;rfl
 |succ d ih=>
  intro i j hj
  rw [<-Nat.add_assoc]
  simp only [dQ]
  have hl:=jU l (i+d)
  rw [List.getD,List.getElem?_append_left (by omega)]
  exact ih i j hj
theorem vF {l:List NodeP} {i j:Nat} (hj:j<i) (hi:i<=l.length):(dQ l i).getD j false=jz l j:=by
 have:=O8 l (l.length-i) i j hj
 rw [show i+(l.length-i)=l.length by omega]at this
 exact this.symm
theorem vH {l:List NodeP} (ha:EQ l) {i:Nat} {n:NodeP} (hn:l[i]?=some n):jz l i=true↔cX n.kind=true\/ ∃p∈dK n,jz l p=true:=by
 have hi:i<l.length:=(List.getElem?_eq_some_iff.1 hn).1
 obtain⟨hk,hp⟩:=ha i n hn
 have e:jz l i=(cX n.kind||((decide (0<ai n.kind)&&(dQ l i).getD n.a.toNat false)||((decide (1<ai n.kind)&&(dQ l i).getD n.b.toNat false)||(decide (2<ai n.kind)&&(dQ l i).getD n.c.toNat false)))):=by
  rw [<-vF (Nat.lt_succ_self i) hi]
  simp only [dQ]
  have hl:=jU l i
  rw [List.getD,List.getElem?_append_right (by omega),hl,Nat.sub_self]
  simp only [hn,List.getElem?_cons_zero,Option.getD_some]
 rw [e]
 unfold dK at hp⊢
 rcases qE n.kind with h|h|h|h|h
 ·simp [h]
 ·rw [h]at hp⊢
  have h1:=hp n.a.toNat (by simp)
  rw [vF h1 (by omega)]
  simp
 ·rw [h]at hp⊢
  have h1:=hp n.a.toNat (by simp)
  have h2:=hp n.b.toNat (by simp)
  rw [vF h1 (by omega),vF h2 (by omega)]
  simp
 ·rw [h]at hp⊢
  have h1:=hp n.a.toNat (by simp)
  have h2:=hp n.b.toNat (by simp)
  have h3:=hp n.c.toNat (by simp)
  rw [vF h1 (by omega),vF h2 (by omega),vF h3 (by omega)]
  simp
 ·omega
def kl (l:List NodeP):Nat->(Nat->Bool)->Nat->Bool
 |0,S=>S
 |i+1,S=>kl l i (if S i then fun j=>S j||(match l[i]? with|some n=>(dK n).contains j|none=>false)else S)
theorem ZG {l:List NodeP} (ha:EQ l): ∀(i:Nat) (S:Nat->Bool),i<=l.length->
  ((∃j,kl l i S j=true/\uJ l j=true)↔(∃j,i<=j/\S j=true/\uJ l j=true)\/ ∃j,j<i/\S j=true/\jz l j=true):=by
 intro i
 induction i with
 |zero=>intro S _;simp [kl]
 |succ i ih=>
  intro S hi
  simp only [kl]
  rw [ih _ (by omega)]
  obtain⟨n,hn⟩: ∃n,l[i]?=some n:=⟨l[i],List.getElem?_eq_getElem (by omega)⟩
  have hm:=vH ha hn
  have hp:=(ha i n hn).2
  have hnm:uJ l i=cX n.kind:=by unfold uJ;rw [hn]
  by_cases hS:S i=true
  ·simp only [hS,if_true,hn]
   constructor
   ·rintro (⟨j,h1,h2,h3⟩|⟨j,h1,h2,h3⟩)
    ·by_cases hji:j=i
     ·subst hji
      exact .inr ⟨j,by omega,hS,hm.2 (.inl (hnm▸h3))⟩
     ·rcases Bool.or_eq_true_iff.1 h2 with h2|h2
      ·exact .inl ⟨j,by omega,h2,h3⟩
      ·have:=hp j (by simpa using h2);omega
    ·rcases Bool.or_eq_true_iff.1 h2 with h2|h2
     ·exact .inr ⟨j,by omega,h2,h3⟩
     ·exact .inr ⟨i,by omega,hS,hm.2 (.inr ⟨j,by simpa using h2,h3⟩)⟩
   ·rintro (⟨j,h1,h2,h3⟩|⟨j,h1,h2,h3⟩)
    ·exact .inl ⟨j,by omega,by simp [h2],h3⟩
    ·by_cases hji:j=i
     ·subst hji
      rcases hm.1 h3 with h4|⟨p,hp1,hp2⟩
      ·exact .inl ⟨j,Nat.le_refl _,by simp [hS],hnm▸h4⟩
      ·exact .inr ⟨p,hp p hp1,by simp [hp1],hp2⟩
     ·exact .inr ⟨j,by omega,by simp [h2],h3⟩
  ·simp only [hS,if_false]
   constructor
   ·rintro (⟨j,h1,h2,h3⟩|⟨j,h1,h2,h3⟩)
    ·by_cases hji:j=i
     ·subst hji;exact absurd h2 hS
     ·exact .inl ⟨j,by omega,h2,h3⟩
    ·exact .inr ⟨j,by omega,h2,h3⟩
   ·rintro (⟨j,h1,h2,h3⟩|⟨j,h1,h2,h3⟩)
    ·exact .inl ⟨j,by omega,h2,h3⟩
    ·by_cases hji:j=i
     ·subst hji;exact absurd h2 hS
     ·exact .inr ⟨j,by omega,h2,h3⟩
theorem aew {l:List NodeP} (ha:EQ l) {i:Nat} (hi:i<l.length):(∃j,kl l (i+1) (fun j=>decide (j=i)) j=true/\uJ l j=true)↔jz l i=true:=by
 rw [ZG ha _ _ (by omega)]
 constructor
 ·rintro (⟨j,h1,h2,h3⟩|⟨j,h1,h2,h3⟩)
  ·simp at h2;omega
  ·simp at h2;subst h2;exact h3
 ·intro h;exact .inr ⟨i,by omega,by simp,h⟩
theorem ae1 {l:List NodeP} (ha:EQ l) (k:Nat): ∀(i:Nat) (S:Nat->Bool),i<=k+1->i<=l.length->(∀j,S j=true->j<=k)-> ∀j,kl l i S j=true->j<=k:=by
 intro i
 induction i with
 |zero=>intro S _ _ hS j hj;exact hS j hj
 |succ i ih=>
  intro S hk hi hS j hj
  simp only [kl]at hj
  refine ih _ (by omega) (by omega) ?_ j hj
  intro j' hj'
  split at hj'
  ·rcases Bool.or_eq_true_iff.1 hj' with h|h
   ·exact hS j' h
   ·obtain⟨n,hn⟩: ∃n,l[i]?=some n:=⟨l[i],List.getElem?_eq_getElem (by omega)⟩
    rw [hn]at h
    have:=(ha i n hn).2 j' (by simpa using h)
    omega
  ·exact hS j' hj'
def nQ (w:Nat):Nat->Nat->List Nat
 |0,_=> []
 |c+1,code=>nQ w c code++ [code/2^(w*c)%2^w]
def bL (l:List NodeP) (p:Nat):Nat:=(ar l p).wid.toNat
def aE (l:List NodeP) (p:Nat):Nat:=dg (ar l p)
def cH (l:List NodeP) (ps:List Nat):Nat:=(ps.map fun p=>bL l p*aE l p).sum
def dP (l:List NodeP) (ps:List Nat) (code:Nat):List (List Nat):=
 (List.range ps.length).map fun i=>nQ (bL l (ps.getD i 0)) (aE l (ps.getD i 0)) (code/2^cH l (ps.take i))
theorem tE (w c code:Nat):(nQ w c code).length=c:=by
 induction c with
 |zero=>rfl
 |succ c ih=>simp only [nQ,List.length_append,ih,List.length_cons,List.length_nil]
theorem WB {w c code x:Nat} (h:x∈nQ w c code):x<2^w:=by
 induction c with
 |zero=>cases h
 |succ c ih=>
  simp only [nQ,List.mem_append,List.mem_singleton]at h
  rcases h with h|h
  ·exact ih h
  ·subst h;exact Nat.mod_lt _ (bQ w)
theorem j6 (l:List NodeP) (ps:List Nat) (code:Nat):(dP l ps code).length=ps.length:=by simp [dP]
theorem WP {α:Type} {l:List α} {i:Nat} {x:α} (h:l[i]?=some x):i<l.length:=by
 rcases Nat.lt_or_ge i l.length with h'|h'
 ·exact h'
 ·rw [List.getElem?_eq_none h']at h;cases h
theorem EX {l:List NodeP} {ps:List Nat} {code i p:Nat} (h:ps[i]?=some p):(dP l ps code).getD i []=nQ (bL l p) (aE l p) (code/2^cH l (ps.take i)):=by
 have hlt:=WP h
 have hp:ps.getD i 0=p:=by rw [List.getD_eq_getElem?_getD,h];rfl
 unfold dP
 rw [List.getD_eq_getElem?_getD,List.getElem?_map,List.getElem?_range hlt]
 simp only [Option.map_some,Option.getD_some,hp]
theorem nO {l:List NodeP} {ps:List Nat} {i p:Nat} (h:ps[i]?=some p):cH l (ps.take (i+1))=cH l (ps.take i)+bL l p*aE l p:=by
 have hlt:=WP h
 rw [List.getElem?_eq_getElem hlt]at h
 unfold cH
 rw [List.take_succ_eq_append_getElem hlt,Option.some.inj h,List.map_append,List.sum_append];simp
theorem IV (l:List NodeP) (ps:List Nat) (i:Nat):cH l (ps.take i)<=cH l ps:=by
 conv=>rhs;rw [<-List.take_append_drop i ps]
 unfold cH
 rw [List.map_append,List.sum_append];omega
def gY (w:Nat):List Nat->Nat
 | []=>0
 |x::xs=>x+2^w*gY w xs
theorem AQ {w:Nat}: ∀{xs:List Nat},(∀x∈xs,x<2^w)->gY w xs<2^(w*xs.length):=by
 intro xs
 induction xs with
 |nil=>intro _;simp [gY]
 |cons x xs ih=>
  intro h
  have h1:=ih fun y hy=>h y (by simp [hy])
  have h2:=h x (by simp)
  simp only [gY,List.length_cons]
  rw [Nat.mul_add,Nat.mul_one,Nat.pow_add,Nat.mul_comm (2^(w*xs.length))]
  have h3:=Nat.mul_le_mul_left (2^w) (Nat.succ_le_of_lt h1)
  rw [Nat.succ_eq_add_one,Nat.mul_add,Nat.mul_one]at h3
  omega
theorem Ku (w:Nat) (xs:List Nat) (x:Nat):gY w (xs++ [x])=gY w xs+2^(w*xs.length)*x:=by
 induction xs with
 |nil=>simp [gY]
 |cons y ys ih=>
  simp only [List.cons_append,gY,ih,List.length_cons]
  rw [Nat.mul_add,<-Nat.add_assoc]
  congr 1
  rw [Nat.mul_add w,Nat.mul_one,Nat.add_comm (w*ys.length),Nat.pow_add,Nat.mul_assoc]
theorem Jo (w:Nat) (code k:Nat): ∀c,c<=k->nQ w c (code%2^(w*k))=nQ w c code:=by
 intro c
 induction c with
 |zero=>intro _;rfl
 |succ c ih=>
  intro h
  simp only [nQ,ih (by omega)]
  congr 2
  have hk:w*k=w*c+(w+w*(k-c-1)):=by
   have:k=c+(1+(k-c-1)):=by omega
   conv=>lhs;rw [this]
   simp only [Nat.mul_add,Nat.mul_one]
  rw [hk,Nat.pow_add,Nat.mod_mul_right_div_self,Nat.pow_add,Nat.mod_mul_right_mod]
theorem Gt (w c code:Nat):gY w (nQ w c code)=code%2^(w*c):=by
 induction c with
 |zero=>simp [nQ,gY,Nat.mod_one]
 |succ c ih=>
  rw [nQ,Ku,ih,tE,Nat.mul_add,Nat.mul_one,Nat.pow_add,Nat.mod_mul]
theorem ZZ {w:Nat}: ∀{xs:List Nat} {k:Nat},(∀x∈xs,x<2^w)->k<xs.length->gY w xs/2^(w*k)%2^w=xs.getD k 0:=by
 intro xs
 induction xs with
 |nil=>intro k _ h;simp at h
 |cons x xs ih=>
  intro k h hk
  have hx:=h x (by simp)
  have hp:=bQ w
  cases k with
  |zero=>
   simp only [gY,Nat.mul_zero,Nat.pow_zero,Nat.div_one,List.getD_cons_zero]
   rw [Nat.add_mul_mod_self_left,Nat.mod_eq_of_lt hx]
  |succ k=>
   rw [List.getD_cons_succ,<-ih (fun y hy=>h y (by simp [hy])) (by simpa using hk)]
   simp only [gY]
   rw [Nat.mul_add,Nat.mul_one,Nat.add_comm (w*k),Nat.pow_add,<-Nat.div_div_eq_div_mul,Nat.add_mul_div_left _ _ hp,Nat.div_eq_of_lt hx,Nat.zero_add]
theorem Gc {w:Nat} {xs:List Nat} (h: ∀x∈xs,x<2^w):nQ w xs.length (gY w xs)=xs:=by
 have key: ∀c,c<=xs.length->nQ w c (gY w xs)=xs.take c:=by
  intro c
  induction c with
  |zero=>intro _;rfl
  |succ c ih=>
   intro hc
   rw [nQ,ih (by omega),ZZ h (by omega),List.take_succ_eq_append_getElem (by omega),List.getD_eq_getElem?_getD,List.getElem?_eq_getElem (by omega)];rfl
 have:=key xs.length (Nat.le_refl _)
 rwa [List.take_length]at this
theorem Kh (w n:Nat):gY w (List.replicate n 0)=0:=by
 induction n with
 |zero=>rfl
 |succ n ih=>simp only [List.replicate_succ,gY,ih];simp
def nbA (l:List NodeP) (p:Nat):Nat:=bL l p*aE l p
def tT (l:List NodeP):List Nat->Nat->List (List Nat)
 | [],_=> []
 |p::ps,code=>nQ (bL l p) (aE l p) code::tT l ps (code/2^nbA l p)
def dX (l:List NodeP):List Nat->List (List Nat)->Nat
 | [],_=>0
 |p::ps,vs=>gY (bL l p) (vs.headD [])+2^nbA l p*dX l ps vs.tail
def jQ (l:List NodeP):List Nat->List (List Nat)->Prop
 | [],vs=>vs= []
 |p::ps,vs=> ∃v r,vs=v::r/\v.length=aE l p/\(∀x∈v,x<2^bL l p)/\jQ l ps r
theorem rF (l:List NodeP) (p:Nat) (ps:List Nat):cH l (p::ps)=nbA l p+cH l ps:=by simp [cH,nbA]
theorem jN (l:List NodeP): ∀(ps:List Nat) (code:Nat),dP l ps code=tT l ps code:=by
 intro ps
 induction ps with
 |nil=>intro code;simp [dP,tT]
 |cons p ps ih=>
  intro code
  rw [tT,<-ih]
  unfold dP
  rw [List.length_cons,List.range_succ_eq_map,List.map_cons,List.map_map]
  simp only [List.getD_cons_zero,List.take_zero,cH,List.map_nil,List.sum_nil,Nat.pow_zero,Nat.div_one,List.cons.injEq,true_and]
  apply List.map_congr_left
  intro i _
  simp only [Function.comp,List.getD_cons_succ,List.take_succ_cons,List.map_cons,List.sum_cons,nbA]
  rw [Nat.pow_add,Nat.div_div_eq_div_mul]
theorem Jg (l:List NodeP): ∀(ps:List Nat) (code:Nat),jQ l ps (tT l ps code):=by
 intro ps
 induction ps with
 |nil=>intro code;rfl
 |cons p ps ih=>exact fun code=>⟨_,_,rfl,tE _ _ _,fun x hx=>WB hx,ih _⟩
theorem yg {l:List NodeP}: ∀{ps:List Nat} {vs:List (List Nat)},jQ l ps vs->dX l ps vs<2^cH l ps:=by
 intro ps
 induction ps with
 |nil=>intro vs _;simp [dX,cH]
 |cons p ps ih=>
  rintro _ ⟨v,r,rfl,h1,h2,h3⟩
  have h4:=ih h3
  have h5:=AQ h2
  rw [h1]at h5
  have h5':gY (bL l p) v<2^nbA l p:=h5
  simp only [dX,List.headD_cons,List.tail_cons]
  rw [rF,Nat.pow_add]
  have h6:=Nat.mul_le_mul_left (2^nbA l p) (Nat.succ_le_of_lt h4)
  rw [Nat.succ_eq_add_one,Nat.mul_add,Nat.mul_one]at h6
  omega
theorem nP {l:List NodeP}: ∀{ps:List Nat} {vs:List (List Nat)},jQ l ps vs->tT l ps (dX l ps vs)=vs:=by
 intro ps
 induction ps with
 |nil=>rintro vs rfl;rfl
 |cons p ps ih=>
  rintro _ ⟨v,r,rfl,h1,h2,h3⟩
  have h5:=AQ h2
  rw [h1]at h5
  have h5':gY (bL l p) v<2^nbA l p:=h5
  simp only [tT,dX,List.headD_cons,List.tail_cons]
  rw [Nat.add_mul_div_left _ _ (bQ _),Nat.div_eq_of_lt h5',Nat.zero_add,ih h3,<-Jo _ _ _ _ (Nat.le_refl _)]
  have:(gY (bL l p) v+2^nbA l p*dX l ps r)%2^(bL l p*aE l p)=gY (bL l p) v:=by
   show _%2^nbA l p=_
   rw [Nat.add_mul_mod_self_left,Nat.mod_eq_of_lt h5']
  rw [this,<-h1,Gc h2]
theorem j9 {l:List NodeP}: ∀{ps:List Nat} {vs:List (List Nat)},jQ l ps vs->vs.length=ps.length:=by
 intro ps
 induction ps with
 |nil=>rintro vs rfl;rfl
 |cons p ps ih=>rintro _ ⟨v,r,rfl,h1,h2,h3⟩;simp [ih h3]
theorem U2 {l:List NodeP}: ∀{ps:List Nat} {vs:List (List Nat)} {p:Nat} {v:List Nat},vs.length=ps.length->
  dX l (ps++ [p]) (vs++ [v])=dX l ps vs+2^cH l ps*gY (bL l p) v:=by
 intro ps
 induction ps with
 |nil=>
  intro vs p v h
  obtain rfl:vs= []:=List.eq_nil_of_length_eq_zero (by simpa using h)
  simp [dX,cH]
 |cons q ps ih=>
  intro vs p v h
  obtain⟨u,r,rfl⟩: ∃u r,vs=u::r:=by
   cases vs with
   |nil=>simp at h
   |cons u r=>exact⟨u,r,rfl⟩
  simp only [List.cons_append,dX,List.headD_cons,List.tail_cons]
  rw [ih (by simpa using h),rF,Nat.pow_add,Nat.mul_add,Nat.mul_assoc,Nat.add_assoc]
theorem Yr {l:List NodeP}: ∀{ps:List Nat} {vs:List (List Nat)},jQ l ps vs-> ∀i,jQ l (ps.take i) (vs.take i):=by
 intro ps
 induction ps with
 |nil=>rintro vs rfl i;simp [jQ]
 |cons p ps ih=>
  rintro _ ⟨v,r,rfl,h1,h2,h3⟩ i
  cases i with
  |zero=>rfl
  |succ i=>exact⟨v,r.take i,rfl,h1,h2,ih h3 i⟩
theorem lM {l:List NodeP}: ∀{ps:List Nat} {vs:List (List Nat)},jQ l ps vs-> ∀{i p:Nat},ps[i]?=some p->(vs.getD i []).length=aE l p/\ ∀x∈vs.getD i [],x<2^bL l p:=by
 intro ps
 induction ps with
 |nil=>rintro vs rfl i p h;simp at h
 |cons q ps ih=>
  rintro _ ⟨v,r,rfl,h1,h2,h3⟩ i p h
  cases i with
  |zero=>simp at h;subst h;exact⟨h1,h2⟩
  |succ i=>exact ih h3 (by simpa using h)
def bO (binds:List BindP) (p:Nat):Option Nat:=(binds.find? fun b=>decide (b.state=(p:Int))).map (·.node.toNat)
def ij (l:List NodeP) (c:Nat->Bool):List Nat->Nat
 | []=>0
 |p::ps=>(if c p then 2^nbA l p-1 else 0)+2^nbA l p*ij l c ps
def mA (l:List NodeP) (f:Nat->Option (List Nat)) (ps:List Nat):List (List Nat):=ps.map fun p=>(f p).getD (List.replicate (aE l p) 0)
theorem Vi (n:Nat):2^n-1<2^n:=by have:=bQ n;omega
theorem V5 (l:List NodeP) (c:Nat->Bool) (p:Nat):(if c p then 2^nbA l p-1 else 0)<2^nbA l p:=by
 have:=bQ (nbA l p);split<;>omega
theorem Bb (l:List NodeP) (c:Nat->Bool): ∀ps,ij l c ps<2^cH l ps:=by
 intro ps
 induction ps with
 |nil=>simp [ij,cH]
 |cons p ps ih=>
  have h1:=V5 l c p
  rw [rF,Nat.pow_add,ij]
  have h6:=Nat.mul_le_mul_left (2^nbA l p) (Nat.succ_le_of_lt ih)
  rw [Nat.succ_eq_add_one,Nat.mul_add,Nat.mul_one]at h6
  omega
theorem GW {n a b:Nat} (ha:a<2^n) (j:Nat):(a+2^n*b).testBit j=if j<n then a.testBit j else b.testBit (j-n):=by
 rw [Nat.add_comm,Nat.testBit_two_pow_mul_add _ ha]
theorem Yw {n a b c d:Nat} (ha:a<2^n) (hc:c<2^n):(a+2^n*b)&&&(c+2^n*d)=(a&&&c)+2^n*(b&&&d):=by
 apply Nat.eq_of_testBit_eq
 intro j
 rw [Nat.testBit_and,GW ha,GW hc,GW (Nat.lt_of_le_of_lt Nat.and_le_left ha)]
 split<;>rw [Nat.testBit_and]
theorem Xc {n a b c d:Nat} (ha:a<2^n) (hc:c<2^n):a+2^n*b=c+2^n*d↔a=c/\b=d:=by
 constructor
 ·intro h
  have h1:(a+2^n*b)%2^n=(c+2^n*d)%2^n:=by rw [h]
  have h2:(a+2^n*b)/2^n=(c+2^n*d)/2^n:=by rw [h]
  rw [Nat.add_mul_mod_self_left,Nat.add_mul_mod_self_left,Nat.mod_eq_of_lt ha,Nat.mod_eq_of_lt hc]at h1
  rw [Nat.add_mul_div_left _ _ (bQ n),Nat.add_mul_div_left _ _ (bQ n),Nat.div_eq_of_lt ha,Nat.div_eq_of_lt hc]at h2
  exact⟨h1,by omega⟩
 ·rintro ⟨rfl,rfl⟩;rfl
theorem Gh {l:List NodeP} {f:Nat->Option (List Nat)}: ∀{ps:List Nat} (s:Nat),(∀p∈ps,∀v,f p=some v->v.length=aE l p/\ ∀x∈v,x<2^bL l p)->
  (s&&&ij l (fun p=>(f p).isSome) ps=dX l ps (mA l f ps)↔ ∀(i p:Nat),ps[i]?=some p-> ∀v,f p=some v->(tT l ps s).getD i []=v):=by
 intro ps
 induction ps with
 |nil=>intro s _;simp [ij,dX]
 |cons p ps ih=>
  intro s hf
  have ih':=ih (s/2^nbA l p) fun q hq=>hf q (by simp [hq])
  have hs:s=s%2^nbA l p+2^nbA l p*(s/2^nbA l p):=(Nat.mod_add_div _ _).symm
  have hm:=Nat.mod_lt s (bQ (nbA l p))
  have hhead:gY (bL l p) ((f p).getD (List.replicate (aE l p) 0))<2^nbA l p:=by
   cases h:f p with
   |none=>simp only [Option.getD_none,Kh];exact bQ _
   |some v=>
    have h2:=hf p (by simp) v h
    have h1:=AQ h2.2
    rw [h2.1]at h1;exact h1
  have e1:s&&&ij l (fun p=>(f p).isSome) (p::ps)=(s%2^nbA l p&&&(if(f p).isSome then 2^nbA l p-1 else 0))+2^nbA l p*(s/2^nbA l p&&&ij l (fun p=>(f p).isSome) ps):=by
   conv=>lhs;rw [hs]
   rw [ij,Yw hm (V5 l (fun p=>(f p).isSome) p)]
  have e2:dX l (p::ps) (mA l f (p::ps))=gY (bL l p) ((f p).getD (List.replicate (aE l p) 0))+2^nbA l p*dX l ps (mA l f ps):=rfl
  rw [e1,e2,Xc (Nat.lt_of_le_of_lt Nat.and_le_left hm) hhead,ih']
  constructor
  ·rintro ⟨h1,h2⟩ i q hq v hv
   cases i with
   |zero=>
    simp at hq;subst hq
    rw [hv]at h1
    simp only [Option.isSome_some,if_true,Option.getD_some,Nat.and_two_pow_sub_one_eq_mod,Nat.mod_mod]at h1
    have h3:=hf p (by simp) v hv
    simp only [tT,List.getD_cons_zero]
    rw [<-Jo _ _ _ _ (Nat.le_refl _)]
    show nQ _ _ (s%2^nbA l p)=v
    rw [h1,<-h3.1,Gc h3.2]
   |succ i=>exact h2 i q (by simpa using hq) v hv
  ·intro h
   refine⟨?_,fun i q hq v hv=>h (i+1) q (by simpa using hq) v hv⟩
   cases hv:f p with
   |none=>simp [Kh]
   |some v=>
    have h1:=h 0 p rfl v hv
    simp only [tT,List.getD_cons_zero]at h1
    simp only [Option.isSome_some,if_true,Option.getD_some,Nat.and_two_pow_sub_one_eq_mod,Nat.mod_mod]
    rw [<-h1,Gt];rfl
theorem GG {l:List NodeP} {f:Nat->Option (List Nat)} {ps:List Nat} (h: ∀p∈ps,∀v,f p=some v->v.length=aE l p/\ ∀x∈v,x<2^bL l p):jQ l ps (mA l f ps):=by
 induction ps with
 |nil=>rfl
 |cons p ps ih=>
  refine⟨_,_,rfl,?_,?_,ih fun q hq=>h q (by simp [hq])⟩
  ·show ((f p).getD (List.replicate (aE l p) 0)).length=_
   cases hv:f p with
   |none=>simp
   |some v=>exact(h p (by simp) v hv).1
  ·show∀x∈(f p).getD (List.replicate (aE l p) 0),_
   cases hv:f p with
   |none=>
    intro x hx
    simp at hx
    rw [hx.2];exact bQ _
   |some v=>exact(h p (by simp) v hv).2
theorem Ts {l:List NodeP} {f:Nat->Option (List Nat)} {ps:List Nat} (h: ∀p∈ps,∀v,f p=some v->v.length=aE l p/\ ∀x∈v,x<2^bL l p):
  dX l ps (mA l f ps)&&&ij l (fun p=>(f p).isSome) ps=dX l ps (mA l f ps):=by
 rw [Gh _ h,nP (GG h)]
 intro i p hp v hv
 unfold mA
 rw [List.getD_eq_getElem?_getD,List.getElem?_map,hp]
 simp [hv]
theorem Ng {a b:Nat} (h: ∀j,(a.testBit j&&b.testBit j)=false):a&&&b=0:=by
 apply Nat.eq_of_testBit_eq;intro j;rw [Nat.testBit_and,h j,Nat.zero_testBit]
theorem aaI (l:List NodeP) (c:Nat->Bool): ∀ps,ij l c ps+ij l (fun p=> !c p) ps=2^cH l ps-1:=by
 intro ps
 induction ps with
 |nil=>simp [ij,cH]
 |cons p ps ih=>
  simp only [ij]
  rw [rF,Nat.pow_add]
  have h1:=bQ (nbA l p)
  have h2:=bQ (cH l ps)
  have h3:2^nbA l p*ij l c ps+2^nbA l p*ij l (fun p=> !c p) ps=2^nbA l p*2^cH l ps-2^nbA l p:=by
   rw [<-Nat.mul_add,ih,Nat.mul_sub,Nat.mul_one]
  have h4:=Nat.mul_le_mul_left (2^nbA l p) h2
  by_cases hc:c p=true
  ·simp only [hc,Bool.not_true,if_true,if_false,Bool.false_eq_true];omega
  ·have hc':c p=false:=by simpa using hc
   simp only [hc',Bool.not_false,if_true,if_false,Bool.false_eq_true];omega
theorem Bn (n a b:Nat):dj n (fun j=>a.testBit j&&b.testBit j)+dj n (fun j=>a.testBit j&& !b.testBit j)=dj n a.testBit:=by
 induction n with
 |zero=>rfl
 |succ n ih=>
  simp only [dj]
  by_cases h1:a.testBit n=true<;>by_cases h2:b.testBit n=true<;>simp [h1,h2]<;>omega
theorem BQ {n a:Nat} (h:a<2^n):dj n a.testBit=a:=kL h fun _ _=>rfl
theorem afn {n a x y:Nat} (ha:a<2^n) (hxy:x+y=2^n-1) (hx:x<2^n):(a&&&x)+(a&&&y)=a/\ ∀j,j<n->y.testBit j= !x.testBit j:=by
 have hb: ∀j,j<n->y.testBit j= !x.testBit j:=by
  have h1:=Bn n (2^n-1) x
  rw [BQ (Vi n),kL hx (fun i hi=>by rw [Nat.testBit_two_pow_sub_one];simp [hi])]at h1
  have h2:dj n (fun j=>(2^n-1).testBit j&& !x.testBit j)=y:=by omega
  intro j hj
  rw [<-h2,u6 _ _ _ hj,Nat.testBit_two_pow_sub_one]
  simp [hj]
 refine⟨?_,hb⟩
 have h1:=Bn n a x
 rw [BQ ha,Mo ha]at h1
 have h2:dj n (fun j=>a.testBit j&& !x.testBit j)=a&&&y:=by
  rw [<-Mo ha]
  exact wx fun j hj=>by rw [hb j hj]
 omega
theorem acL {n x y nx t:Nat} (hxy:x+y=2^n-1) (hx:x<2^n) (ht:t<2^n) (hnx:nx<2^n) (hn:nx&&&x=nx):t&&&x=nx↔ ∃f,f&&&y=f/\nx+f=t:=by
 have h1:=afn ht hxy hx
 constructor
 ·intro h
  exact⟨t&&&y,by rw [Nat.and_assoc,Nat.and_self],by omega⟩
 ·rintro ⟨f,hf,rfl⟩
  have hfl:f<2^n:=by omega
  have d: ∀j,(nx.testBit j&&f.testBit j)=false:=by
   intro j
   by_cases hj:j<n
   ·have e1:nx.testBit j=(nx.testBit j&&x.testBit j):=by rw [<-Nat.testBit_and,hn]
    have e2:f.testBit j=(f.testBit j&&y.testBit j):=by rw [<-Nat.testBit_and,hf]
    rw [e1,e2,h1.2 j hj]
    cases nx.testBit j<;>cases f.testBit j<;>cases x.testBit j<;>rfl
   ·rw [Nat.testBit_lt_two_pow (Nat.lt_of_lt_of_le hnx (Nat.pow_le_pow_right (by omega) (by omega)))];rfl
  have hor:nx+f=nx|||f:=by
   have hg: ∀m,dj m nx.testBit+dj m f.testBit=dj m (fun j=>nx.testBit j||f.testBit j):=by
    intro m
    induction m with
    |zero=>rfl
    |succ m ih=>
     have:=d m
     simp only [dj]
     by_cases h1:nx.testBit m=true<;>by_cases h2:f.testBit m=true<;>simp [h1,h2]at this⊢ <;>omega
   have:=hg n
   rw [BQ hnx,BQ hfl,Wk hnx hfl]at this
   exact this
  rw [hor]
  have hfx:f&&&x=0:=Ng fun j=>by
   by_cases hj:j<n
   ·have e2:f.testBit j=(f.testBit j&&y.testBit j):=by rw [<-Nat.testBit_and,hf]
    rw [e2,h1.2 j hj]
    cases f.testBit j<;>cases x.testBit j<;>rfl
   ·rw [Nat.testBit_lt_two_pow (Nat.lt_of_lt_of_le hfl (Nat.pow_le_pow_right (by omega) (by omega)))];rfl
  rw [Nat.and_or_distrib_right,hn,hfx,Nat.or_zero]
def ry (n:Nat) (p:Nat->Bool):Bool:=(List.range n).any p
theorem db {n:Nat} {p:Nat->Bool}:ry n p=true↔ ∃i,i<n/\p i=true:=by
 unfold ry;rw [List.any_eq_true]
 constructor
 ·rintro ⟨i,hi,h⟩;exact⟨i,List.mem_range.1 hi,h⟩
 ·rintro ⟨i,hi,h⟩;exact⟨i,List.mem_range.2 hi,h⟩
theorem sG {n:Nat} {p:Nat->Bool}:ry n p=false↔ ∀i,i<n->p i=false:=by
 rw [Bool.eq_false_iff,ne_eq,db]
 constructor
 ·intro h i hi
  cases hp:p i with
  |false=>rfl
  |true=>exact absurd ⟨i,hi,hp⟩ h
 ·rintro h ⟨i,hi,hp⟩;rw [h i hi]at hp;cases hp
structure aL where
 n:Nat
 k:Nat
 hold:Nat->Bool
 bad:Nat->Bool
 next:Nat->Nat
 fixed:Nat
 bfix:Nat
 bas:Nat
structure aL.Ok (σ:aL):Prop where
 nle:σ.n<=8
 kle:σ.k<=5
 fixed:σ.fixed<2^σ.n
 bfix:σ.bfix<2^σ.n
 next: ∀c,c<2^(σ.n+σ.k)->σ.next c<2^σ.n
 held: ∀c,c<2^(σ.n+σ.k)->σ.next c&&&σ.fixed=σ.next c
 bas:σ.bas<2^σ.n
 bheld:σ.bas&&&σ.bfix=σ.bas
namespace aL
def begins (σ:aL) (s:Nat):Bool:=decide (s&&&σ.bfix=σ.bas)
def ends (σ:aL) (c:Nat):Bool:=σ.hold c&&σ.bad c
def goes (σ:aL) (c t:Nat):Bool:=decide (t&&&σ.fixed=σ.next c)
def at_ (σ:aL) (s i:Nat):Nat:=i*2^σ.n+s
def some_ (σ:aL) (f:Nat->Nat->Bool) (s:Nat):Bool:=ry (2^σ.k) fun i=>f s (σ.at_ s i)
def leads (σ:aL) (S:Nat->Bool) (c:Nat):Bool:=ry (2^σ.n) fun t=>S t&&σ.goes c t
def fwd (σ:aL) (p S:Nat->Bool) (t:Nat):Bool:=ry (2^(σ.n+σ.k)) fun c=>(S (c%2^σ.n)&&p c)&&σ.goes c t
def bwd (σ:aL) (p S:Nat->Bool):Nat->Bool:=σ.some_ fun _ c=>p c&&σ.leads S c
theorem pow_nk (σ:aL):2^(σ.n+σ.k)=2^σ.k*2^σ.n:=by rw [Nat.pow_add,Nat.mul_comm]
theorem at_lt {σ:aL} {s i:Nat} (hs:s<2^σ.n) (hi:i<2^σ.k):σ.at_ s i<2^(σ.n+σ.k):=by
 rw [pow_nk];unfold at_
 have:=Nat.mul_le_mul_right (2^σ.n) (Nat.succ_le_of_lt hi)
 rw [Nat.succ_mul]at this;omega
theorem at_mod {σ:aL} {s i:Nat} (hs:s<2^σ.n):σ.at_ s i%2^σ.n=s:=by
 unfold at_;rw [Nat.mul_comm,Nat.mul_add_mod,Nat.mod_eq_of_lt hs]
theorem at_of {σ:aL} {c:Nat} (hc:c<2^(σ.n+σ.k)):c%2^σ.n<2^σ.n/\c/2^σ.n<2^σ.k/\σ.at_ (c%2^σ.n) (c/2^σ.n)=c:=by
 refine⟨Nat.mod_lt _ (bQ _),?_,?_⟩
 ·rw [Nat.div_lt_iff_lt_mul (bQ _),<-pow_nk];exact hc
 ·unfold at_;rw [Nat.mul_comm];exact Nat.div_add_mod _ _
theorem some_iff {σ:aL} {f:Nat->Nat->Bool} {s:Nat}:σ.some_ f s=true↔ ∃i,i<2^σ.k/\f s (σ.at_ s i)=true:=db
theorem fwd_iff {σ:aL} {p S:Nat->Bool} {t:Nat}:σ.fwd p S t=true↔ ∃s i,s<2^σ.n/\i<2^σ.k/\S s=true/\p (σ.at_ s i)=true/\σ.goes (σ.at_ s i) t=true:=by
 unfold fwd;rw [db]
 constructor
 ·rintro ⟨c,hc,h⟩
  simp only [Bool.and_eq_true]at h
  obtain⟨h1,h2,h3⟩:=at_of hc
  exact⟨_,_,h1,h2,h.1.1,by rw [h3];exact h.1.2,by rw [h3];exact h.2⟩
 ·rintro ⟨s,i,hs,hi,h1,h2,h3⟩
  refine⟨_,at_lt hs hi,?_⟩
  rw [at_mod hs,h1,h2,h3];rfl
theorem bwd_iff {σ:aL} {p S:Nat->Bool} {s:Nat}:σ.bwd p S s=true↔ ∃i t,i<2^σ.k/\t<2^σ.n/\p (σ.at_ s i)=true/\S t=true/\σ.goes (σ.at_ s i) t=true:=by
 unfold bwd;rw [some_iff]
 constructor
 ·rintro ⟨i,hi,h⟩
  simp only [Bool.and_eq_true,leads,db]at h
  obtain⟨h1,t,ht,h2,h3⟩:=h
  exact⟨i,t,hi,ht,h1,h2,h3⟩
 ·rintro ⟨i,t,hi,ht,h1,h2,h3⟩
  refine⟨i,hi,?_⟩
  simp only [Bool.and_eq_true,leads,db]
  exact⟨h1,t,ht,h2,h3⟩
theorem meet {σ:aL} {p S T:Nat->Bool}:(∃t,t<2^σ.n/\σ.fwd p S t=true/\T t=true)↔ ∃s,s<2^σ.n/\S s=true/\σ.bwd p T s=true:=by
 constructor
 ·rintro ⟨t,ht,h1,h2⟩
  obtain⟨s,i,hs,hi,a,b,c⟩:=fwd_iff.1 h1
  exact⟨s,hs,a,bwd_iff.2 ⟨i,t,hi,ht,b,h2,c⟩⟩
 ·rintro ⟨s,hs,h1,h2⟩
  obtain⟨i,t,hi,ht,a,b,c⟩:=bwd_iff.1 h2
  exact⟨t,ht,fwd_iff.2 ⟨s,i,hs,hi,h1,a,c⟩,b⟩
def lay (σ:aL):Nat->(Nat->Bool)×(Nat->Bool)
 |0=>(σ.begins,fun _=>false)
 |i+1=>(fun t=>σ.fwd σ.hold (σ.lay i).1 t&& !((σ.lay i).2 t||(σ.lay i).1 t),fun t=>(σ.lay i).2 t||(σ.lay i).1 t)
def front (σ:aL) (i:Nat):Nat->Bool:=(σ.lay i).1
def seen (σ:aL) (i:Nat):Nat->Bool:=(σ.lay i).2
theorem seen_succ (σ:aL) (i t:Nat):σ.seen (i+1) t=(σ.seen i t||σ.front i t):=rfl
theorem front_succ (σ:aL) (i t:Nat):σ.front (i+1) t=(σ.fwd σ.hold (σ.front i) t&& !σ.seen (i+1) t):=rfl
def live (σ:aL) (i:Nat):Bool:=ry (2^σ.n) (σ.front i)
def cntB (n:Nat) (S:Nat->Bool):Nat:=((List.range n).filter S).length
theorem cntB_le (n:Nat) (S:Nat->Bool):cntB n S<=n:=by unfold cntB;have:=List.length_filter_le S (List.range n);simpa using this
theorem cntB_succ (n:Nat) (S:Nat->Bool):cntB (n+1) S=cntB n S+if S n then 1 else 0:=by
 unfold cntB;rw [List.range_succ,List.filter_append,List.length_append]
 by_cases h:S n=true<;>simp [h]
theorem cntB_mono {n:Nat} {S T:Nat->Bool} (h: ∀i,i<n->S i=true->T i=true):cntB n S<=cntB n T:=by
 induction n with
 |zero=>simp [cntB]
 |succ n ih=>
  have:=ih fun i hi=>h i (by omega)
  have h2:=h n (by omega)
  rw [cntB_succ,cntB_succ]
  by_cases hs:S n=true
  ·rw [if_pos hs,if_pos (h2 hs)];omega
  ·rw [if_neg hs];omega
theorem cntB_more {n j:Nat} {S T:Nat->Bool} (h: ∀i,i<n->S i=true->T i=true) (hj:j<n) (h1:S j=false) (h2:T j=true):cntB n S+1<=cntB n T:=by
 induction n with
 |zero=>omega
 |succ n ih=>
  rw [cntB_succ,cntB_succ]
  by_cases e:j=n
  ·subst e
   have:=cntB_mono fun i hi=>h i (Nat.lt_succ_of_lt hi)
   rw [if_neg (by rw [h1];decide),if_pos h2];omega
  ·have:=ih (fun i hi=>h i (by omega)) (by omega)
   have h3:=h n (by omega)
   by_cases hs:S n=true
   ·rw [if_pos hs,if_pos (h3 hs)];omega
   ·rw [if_neg hs];omega
theorem front_new (σ:aL) (i t:Nat) (h:σ.front i t=true):σ.seen i t=false:=by
 cases i with
 |zero=>rfl
 |succ i=>rw [front_succ]at h;simp only [Bool.and_eq_true,Bool.not_eq_true']at h;exact h.2
theorem cnt_seen (σ:aL): ∀i,(∀j,j<i->σ.live j=true)->i<=cntB (2^σ.n) (σ.seen i):=by
 intro i
 induction i with
 |zero=>intro _;omega
 |succ i ih=>
  intro h
  have h1:=ih fun j hj=>h j (by omega)
  obtain⟨t,ht,h2⟩:=db.1 (h i (by omega))
  have:=cntB_more (n:=2^σ.n) (j:=t) (S:=σ.seen i) (T:=σ.seen (i+1)) (fun j _ hj=>by rw [seen_succ,hj];rfl) ht (front_new σ i t h2) (by rw [seen_succ,h2,Bool.or_true])
  omega
theorem live_le {σ:aL} {i:Nat} (h: ∀j,j<i->σ.live j=true):i<=2^σ.n:=Nat.le_trans (cnt_seen σ i h) (cntB_le _ _)
theorem dead_after {σ:aL} {i:Nat} (h:σ.live i=false): ∀d,σ.live (i+d)=false:=by
 intro d
 induction d with
 |zero=>exact h
 |succ d ih=>
  unfold live at ih⊢
  rw [sG]at ih⊢
  intro t ht
  rw [<-Nat.add_assoc,front_succ]
  have:σ.fwd σ.hold (σ.front (i+d)) t=false:=by
   cases hf:σ.fwd σ.hold (σ.front (i+d)) t with
   |false=>rfl
   |true=>
    obtain⟨s,x,hs,_,h1,_⟩:=fwd_iff.1 hf
    rw [ih s hs]at h1;cases h1
  rw [this];rfl
def nLay (σ:aL):Nat:=(List.range (2^σ.n+1)).findIdx fun i=> !σ.live i
theorem nLay_of {σ:aL} {i:Nat} (h1: ∀j,j<i->σ.live j=true) (h2:σ.live i=false):σ.nLay=i:=by
 have hle:=live_le h1
 unfold nLay
 rw [List.findIdx_eq (by simp;omega)]
 refine⟨by simp [h2],fun j hj=>?_⟩
 simp [h1 j hj]
theorem nLay_live {σ:aL}:(∀j,j<σ.nLay->σ.live j=true)/\σ.live σ.nLay=false:=by
 obtain⟨i,h1,h2⟩: ∃i,(∀j,j<i->σ.live j=true)/\σ.live i=false:=by
  have key: ∀m i,(∀j,j<i->σ.live j=true)->m=2^σ.n+1-i-> ∃i,(∀j,j<i->σ.live j=true)/\σ.live i=false:=by
   intro m
   induction m with
   |zero=>intro i h hm;have:=live_le h;omega
   |succ m ih=>
    intro i h hm
    cases hl:σ.live i with
    |false=>exact⟨i,h,hl⟩
    |true=>exact ih (i+1) (fun j hj=>by
      by_cases e:j=i
      ·subst e;exact hl
      ·exact h j (by omega)) (by omega)
  exact key _ 0 (fun j hj=>by omega) rfl
 rw [nLay_of h1 h2];exact⟨h1,h2⟩
theorem nLay_le (σ:aL):σ.nLay<=2^σ.n:=live_le nLay_live.1
theorem front_lt {σ:aL} {i s:Nat} (hs:s<2^σ.n) (h:σ.front i s=true):i<σ.nLay:=by
 rcases Nat.lt_or_ge i σ.nLay with h1|h1
 ·exact h1
 ·have:=dead_after (nLay_live (σ:=σ)).2 (i-σ.nLay)
  rw [show σ.nLay+(i-σ.nLay)=i by omega]at this
  unfold live at this
  rw [sG]at this
  rw [this s hs]at h;cases h
def endsAt (σ:aL):Nat->Bool:=σ.some_ fun _ c=>σ.ends c
theorem endsAt_iff {σ:aL} {s:Nat}:σ.endsAt s=true↔ ∃x,x<2^σ.k/\σ.hold (σ.at_ s x)=true/\σ.bad (σ.at_ s x)=true:=by
 unfold endsAt;rw [some_iff];simp only [ends,Bool.and_eq_true]
def hits (σ:aL) (i:Nat):Bool:=ry (2^σ.n) fun s=>σ.front i s&&σ.endsAt s
def depth (σ:aL):Option Nat:=(List.range σ.nLay).find? fun i=>σ.hits i
def depthI (σ:aL):Int:=match σ.depth with|some d=>d|none=> -1
theorem find_none {n:Nat} {p:Nat->Bool}:(List.range n).find? p=none↔ ∀i,i<n->p i=false:=by
 rw [List.find?_eq_none]
 constructor
 ·intro h i hi;have:=h i (List.mem_range.2 hi);simpa using this
 ·intro h i hi;rw [h i (List.mem_range.1 hi)];decide
theorem find_some {n d:Nat} {p:Nat->Bool}:(List.range n).find? p=some d↔d<n/\p d=true/\ ∀i,i<d->p i=false:=by
 induction n with
 |zero=>simp
 |succ n ih=>
  rw [List.range_succ,List.find?_append]
  cases hn:(List.range n).find? p with
  |some e=>
   have h1:=hn
   rw [Option.some_or]
   have ih': ∀d,some e=some d↔_:=fun d=>hn▸(show (List.range n).find? p=some d↔d<n/\p d=true/\ ∀i,i<d->p i=false from by
    constructor
    ·intro hd
     have:=List.find?_some hd
     have hm:=List.mem_range.1 (List.mem_of_find?_eq_some hd)
     refine⟨hm,this,fun i hi=>?_⟩
     rw [List.find?_range_eq_some]at hd
     simpa using hd.2.2 i hi
    ·rintro ⟨a,b,c⟩
     rw [List.find?_range_eq_some]
     exact⟨b,List.mem_range.2 a,fun j hj=>by simp [c j hj]⟩)
   rw [ih']
   constructor
   ·rintro ⟨a,b,c⟩;exact⟨by omega,b,c⟩
   ·rintro ⟨a,b,c⟩
    refine⟨?_,b,c⟩
    rcases Nat.lt_or_ge d n with h|h
    ·exact h
    ·have hd:d=n:=by omega
     have he:=(ih' e).1 rfl
     have:=c e (by omega)
     rw [he.2.1]at this;cases this
  |none=>
   rw [Option.none_or]
   have h0:=find_none.1 hn
   simp only [List.find?_cons,List.find?_nil]
   cases hp:p n with
   |true=>
    simp only [Option.some.injEq]
    constructor
    ·rintro rfl;exact⟨by omega,hp,h0⟩
    ·rintro ⟨a,b,c⟩
     rcases Nat.lt_or_ge d n with h|h
     ·rw [h0 d h]at b;cases b
     ·omega
   |false=>
    simp only [reduceCtorEq,false_iff]
    rintro ⟨a,b,c⟩
    rcases Nat.lt_or_ge d n with h|h
    ·rw [h0 d h]at b;cases b
    ·have:d=n:=by omega
     subst this;rw [hp]at b;cases b
theorem depth_some {σ:aL} {d:Nat}:σ.depth=some d↔σ.hits d=true/\ ∀i,i<d->σ.hits i=false:=by
 unfold depth;rw [find_some]
 constructor
 ·rintro ⟨_,h⟩;exact h
 ·rintro ⟨h1,h2⟩
  obtain⟨s,hs,h⟩:=db.1 h1
  exact⟨front_lt hs (by simp only [Bool.and_eq_true]at h;exact h.1),h1,h2⟩
theorem depth_lt {σ:aL} {d:Nat} (h:σ.depth=some d):d<σ.nLay:=(find_some.1 h).1
def back (σ:aL):Nat->Nat->Bool
 |0=>σ.endsAt
 |i+1=>σ.some_ fun s c=>σ.back i s||(σ.hold c&&σ.leads (σ.back i) c)
def ahead (σ:aL):Nat->Nat->Bool
 |0=>σ.endsAt
 |i+1=>σ.bwd σ.hold (σ.ahead i)
def leastB (n:Nat) (p:Nat->Bool):Nat:=((List.range n).find? p).getD 0
theorem leastB_of {n i:Nat} {p:Nat->Bool} (hi:i<n) (h:p i=true) (hb: ∀j,j<i->p j=false):leastB n p=i:=by
 unfold leastB;rw [find_some.2 ⟨hi,h,hb⟩];rfl
theorem leastB_at {n:Nat} {p:Nat->Bool} (h: ∃i,i<n/\p i=true):leastB n p<n/\p (leastB n p)=true/\ ∀j,j<leastB n p->p j=false:=by
 cases hf:(List.range n).find? p with
 |none=>
  obtain⟨i,hi,hp⟩:=h
  rw [find_none.1 hf i hi]at hp;cases hp
 |some d=>
  have:=find_some.1 hf
  unfold leastB;rw [hf];exact this
def onB (σ:aL) (k:Nat) (c:Nat):Bool:=match k with|0=>σ.ends c|k+1=>σ.hold c&&σ.leads (σ.ahead k) c
def wit (σ:aL):Nat->(Nat->Bool)->List (Nat×Nat)
 |0,fits=>let s:=leastB (2^σ.n) fun s=>fits s&&σ.ahead 0 s;let x:=leastB (2^σ.k) fun x=>σ.onB 0 (σ.at_ s x); [(s,x)]
 |k+1,fits=>let s:=leastB (2^σ.n) fun s=>fits s&&σ.ahead (k+1) s;let x:=leastB (2^σ.k) fun x=>σ.onB (k+1) (σ.at_ s x);(s,x)::σ.wit k (σ.goes (σ.at_ s x))
theorem ahead_on {σ:aL} {k s:Nat}:σ.ahead k s=true↔ ∃x,x<2^σ.k/\σ.onB k (σ.at_ s x)=true:=by
 cases k with
 |zero=>
  show σ.endsAt s=true↔_
  unfold endsAt;rw [some_iff];rfl
 |succ k=>
  show σ.bwd σ.hold (σ.ahead k) s=true↔_
  unfold bwd;rw [some_iff];rfl
theorem onB_next {σ:aL} {k c:Nat} (h:σ.onB (k+1) c=true): ∃t,t<2^σ.n/\(σ.goes c t&&σ.ahead k t)=true:=by
 simp only [onB,Bool.and_eq_true,leads,db]at h
 obtain⟨_,t,ht,h1,h2⟩:=h
 exact⟨t,ht,by rw [h1,h2];rfl⟩
def run (σ:aL):Nat->Nat->Bool
 |0=>σ.begins
 |i+1=>σ.fwd σ.hold (σ.run i)
theorem fwd_mono {σ:aL} {p q S T:Nat->Bool} (hp: ∀c,c<2^(σ.n+σ.k)->p c=true->q c=true) (hS: ∀s,s<2^σ.n->S s=true->T s=true) {t:Nat} (h:σ.fwd p S t=true):σ.fwd q T t=true:=by
 obtain⟨s,i,hs,hi,a,b,c⟩:=fwd_iff.1 h
 exact fwd_iff.2 ⟨s,i,hs,hi,hS s hs a,hp _ (at_lt hs hi) b,c⟩
theorem front_run (σ:aL): ∀i t,σ.front i t=true->σ.run i t=true:=by
 intro i
 induction i with
 |zero=>exact fun t h=>h
 |succ i ih=>
  intro t h
  rw [front_succ]at h
  simp only [Bool.and_eq_true]at h
  exact fwd_mono (fun _ _ h=>h) (fun s _ h=>ih s h) h.1
theorem run_ahead {σ:aL}: ∀i k,(∃s,s<2^σ.n/\σ.run i s=true/\σ.ahead k s=true)-> ∃s,s<2^σ.n/\(σ.begins s&&σ.ahead (i+k) s)=true:=by
 intro i
 induction i with
 |zero=>
  rintro k ⟨s,hs,h1,h2⟩
  exact⟨s,hs,by rw [Nat.zero_add,h2];simpa [run] using h1⟩
 |succ i ih=>
  rintro k ⟨s,hs,h1,h2⟩
  obtain⟨t,ht,h3,h4⟩:=meet.1 ⟨s,hs,h1,h2⟩
  have:=ih (k+1) ⟨t,ht,h3,h4⟩
  rwa [show i+(k+1)=i+1+k by omega]at this
theorem wit_begins {σ:aL} {d:Nat} (h:σ.depth=some d): ∃s,s<2^σ.n/\(σ.begins s&&σ.ahead d s)=true:=by
 obtain⟨s,hs,h1⟩:=db.1 (depth_some.1 h).1
 simp only [Bool.and_eq_true]at h1
 exact run_ahead d 0 ⟨s,hs,front_run σ d s h1.1,h1.2⟩
def clean (σ:aL) (c:Nat):Bool:=σ.hold c&& !σ.bad c
def back2 (σ:aL):Nat->Nat->Bool
 |0=>σ.endsAt
 |i+1=>σ.bwd σ.clean (σ.back2 i)
def kind (σ:aL) (k:Nat):Int:=if(match σ.depth with|some d=>decide (d<k)|none=>false)then 1 else if ry (2^σ.n) (σ.back2 k)then 2 else 0
def met (σ:aL) (S:Nat->Bool):Bool:=ry (2^σ.n) fun s=>S s&&σ.endsAt s
end aL
theorem ack {x:Int} {n:Nat} (hn:n<=64):oU x (n:Int)=x/((2^n:Nat):Int):=by
 unfold oU
 have h1:min (Int.toNat (n:Int)) IntKind.i64.bits=n:=by simp [IntKind.bits];omega
 rw [h1,Int.fdiv_eq_ediv_of_nonneg _ (Int.pow_nonneg (by decide))]
 simp
theorem ia {x:Int} {w:Nat} (hw:w<=62):uH x (((2^w:Nat):Int)-1)=((fG w x:Nat):Int):=by
 have h2:=pV hw
 have hp:=bQ w
 have hm:(((2^w:Nat):Int)-1)=((2^w-1:Nat):Int):=by omega
 rw [hm]
 show IntKind.i64.wrap _=_
 have h1:(BitVec.ofInt IntKind.i64.bits x&&&BitVec.ofInt IntKind.i64.bits ((2^w-1:Nat):Int)).toNat=fG w x:=by
  show (BitVec.ofInt 64 x&&&BitVec.ofInt 64 ((2^w-1:Nat):Int)).toNat=fG w x
  rw [BitVec.ofInt_natCast,BitVec.toNat_and,BitVec.toNat_ofNat,BitVec.toNat_ofInt,Nat.mod_eq_of_lt (by omega),Nat.and_two_pow_sub_one_eq_mod]
  have hd:((2^w:Nat):Int)∣((2^64:Nat):Int):=Int.natCast_dvd_natCast.2 (Nat.pow_dvd_pow 2 (by omega))
  have h3:=Int.emod_emod_of_dvd x hd
  have h4:=Int.emod_nonneg x (b:=((2^64:Nat):Int)) (by decide)
  unfold fG
  rw [<-h3]
  generalize x%((2^64:Nat):Int)=y at*
  obtain⟨z,rfl⟩: ∃z:Nat,y=z:=⟨y.toNat,by omega⟩
  rw [<-Int.natCast_emod,Int.toNat_natCast,Int.toNat_natCast]
 rw [h1]
 exact fW (by have:=kV w x;omega)
theorem acF {w:Nat} (hw:w<=62):aA (-1) (w:Int)= -((2^w:Nat):Int):=by
 have h2:=pV hw
 unfold aA
 have h1:min (Int.toNat (w:Int)) IntKind.i64.bits=w:=by simp [IntKind.bits];omega
 rw [h1]
 have h3:(-1:Int)*2^w= -((2^w:Nat):Int):=by simp
 have key: ∀N:Nat,N<=4611686018427387904->W (-(N:Int))= -(N:Int):=fun N h=>cd (by omega) (by omega)
 rw [h3];exact key _ h2
theorem Br {w:Nat} (hw:w<=16):2^w<=65536:=by
 have:=Nat.pow_le_pow_right (n:=2) (by omega) hw
 simpa using this
theorem ib {w v:Int}:ka w v=true↔(1<=w/\w<=16)/\0<=v/\v<((2^w.toNat:Nat):Int):=by
 unfold ka
 rw [decide_eq_true_eq]
 constructor
 ·rintro ⟨h1,h2,h3⟩;exact⟨h1,h2,by omega⟩
 ·rintro ⟨h1,h2,h3⟩;exact⟨h1,h2,by omega⟩
theorem dF {h:Hp} {w:Nat} {R:Value->Hp->Prop} (hw:w<=62) (k:R (I (((2^w:Nat):Int)-1)) h):cV #[I w] h R:=by
 apply Rj
 refine uf_ ?_
 have:=pV hw
 have hp:=bQ w
 rw [if_neg (by omega),cw hw,cd (by omega) (by omega)]
 exact k
theorem Fp {h:Hp} {w:Int} {R:Value->Hp->Prop} (k:R (.bool (decide (1<=w/\w<=16))) h):rh #[I w] h R:=by
 apply LY
 refine uf_ ?_
 exact gU ⟨_,rfl,k⟩
theorem zg {h:Hp} {w:Int} {R:Value->Hp->Prop} (k:R (.bool (decide (1<=w/\w<=16))) h):mU #[I w] h R:=by
 apply JU
 refine uf_ ?_
 exact ey ⟨_,rfl,k⟩
theorem Mm (w v:Int):ka w v=(decide (1<=w/\w<=16)&&decide (0<=v/\v<=((2^w.toNat:Nat):Int)-1)):=by
 unfold ka;rw [Bool.eq_iff_iff];simp
theorem Gb {h:Hp} {w v:Int} {R:Value->Hp->Prop} (k:R (.bool (ka w v)) h):xB #[I w,I v] h R:=by
 apply NK
 refine uf_ ?_
 rw [Mm]at k
 refine Fp ⟨_,rfl,ad (fun e=>?_) (fun e=>?_)⟩
 ·rw [e,Bool.true_and]at k
  have e':1<=w/\w<=16:=by simpa using e
  obtain⟨n,rfl⟩: ∃n:Nat,w=n:=⟨w.toNat,by omega⟩
  rw [Int.toNat_natCast]at k
  exact dF (by omega) ⟨_,rfl,gU ⟨_,rfl,k⟩⟩
 ·rw [e,Bool.false_and]at k;exact k
theorem cO {h:Hp} {w v:Int} {R:Value->Hp->Prop} (k:R (.bool (ka w v)) h):dR #[I w,I v] h R:=by
 apply Nw
 refine uf_ ?_
 rw [Mm]at k
 refine zg ⟨_,rfl,ad (fun e=>?_) (fun e=>?_)⟩
 ·rw [e,Bool.true_and]at k
  have e':1<=w/\w<=16:=by simpa using e
  obtain⟨n,rfl⟩: ∃n:Nat,w=n:=⟨w.toNat,by omega⟩
  rw [Int.toNat_natCast]at k
  have:=pV (n:=n) (by omega)
  have hp:=bQ n
  rw [cY (by omega),if_neg (by omega),cw (by omega),cd (by omega) (by omega)]
  exact ey ⟨_,rfl,k⟩
 ·rw [e,Bool.false_and]at k;exact k
def WO (w a:Nat):Prop:=(1<=w/\w<=16)/\a<2^w
theorem WO.ok {w a:Nat} (e:WO w a):ka (w:Int) (a:Int)=true:=ib.2 ⟨by have:=e.1;omega,by omega,by rw [Int.toNat_natCast];have:=e.2;omega⟩
theorem WO.pow {w a:Nat} (e:WO w a):2^w<=65536:=Br e.1.2
theorem qg {h:Hp} {w a:Nat} {R:Value->Hp->Prop} (e:WO w a) (k:R (I (sgn w a)) h):jx #[I w,I a] h R:=by
 apply MW
 refine uf_ ?_
 obtain⟨⟨h1,h2⟩,ha⟩:=e
 have hp:=sW h1
 have h16:=Br h2
 have w1:W ((w:Int)-1)=((w-1:Nat):Int):=by rw [cd (by omega) (by omega)];omega
 rw [w1,if_neg (by omega),if_neg (by omega),jI (by omega)]
 unfold sgn at k
 by_cases hs:2^(w-1)<=a
 ·have e1:a/2^(w-1)=1:=by rw [Nat.div_eq_iff (bQ _)];omega
  rw [e1,jj (by omega) (by omega),Nat.one_mul,cd (by omega) (by omega)]
  rw [if_pos hs]at k;exact k
 ·have e1:a/2^(w-1)=0:=Nat.div_eq_of_lt (by omega)
  rw [e1,jj (by omega) (by omega),Nat.zero_mul,cd (by omega) (by omega)]
  rw [if_neg hs]at k
  simpa using k
theorem jY {h:Hp} {w a:Nat} {R:Value->Hp->Prop} (e:WO w a) (k:R (I (sgn w a)) h):fB #[I w,I a] h R:=by
 apply EA
 refine uf_ ?_
 obtain⟨⟨h1,h2⟩,ha⟩:=e
 have hp:=sW h1
 have h16:=Br h2
 have w1:W ((w:Int)-1)=((w-1:Nat):Int):=by rw [cd (by omega) (by omega)];omega
 refine cO ⟨_,rfl,aC (by rw [WO.ok ⟨⟨h1,h2⟩,ha⟩];rfl) ?_⟩
 rw [w1,cY (by omega),if_neg (by omega),cw (by omega)]
 unfold sgn at k
 refine ad (fun e=>?_) (fun e=>?_)
 ·have hs:2^(w-1)<=a:=by
   have:=of_decide_eq_true e;omega
  rw [if_pos hs]at k
  rw [cY (by omega),if_neg (by omega),cw (by omega),cd (by omega) (by omega)]
  exact k
 ·have hs: ¬2^(w-1)<=a:=by
   have:=of_decide_eq_false e;omega
  rw [if_neg hs]at k;exact k
theorem TO (w:Nat) (n:Int):((fG w n:Nat):Int)=if Int.tmod n ((2^w:Nat):Int)<0 then Int.tmod n ((2^w:Nat):Int)+((2^w:Nat):Int)else Int.tmod n ((2^w:Nat):Int):=by
 rw [yJ]
 have hp:(0:Int)<((2^w:Nat):Int):=Int.ofNat_lt.2 (bQ w)
 have h1:=Int.emod_nonneg n (b:=((2^w:Nat):Int)) (by omega)
 have h2:=Int.emod_lt_of_pos n hp
 have h3:=Int.tmod_eq_emod (a:=n) (b:=((2^w:Nat):Int))
 have h4:n%((2^w:Nat):Int)=0->((2^w:Nat):Int)∣n:=Int.dvd_of_emod_eq_zero
 rw [h3]
 generalize ((2^w:Nat):Int)=N at*
 by_cases hn:0<=n\/N∣n
 ·rw [if_pos hn];split<;>omega
 ·have h5:n%N≠0:=fun e=>hn (.inr (h4 e))
  rw [if_neg hn]
  generalize n%N=r at*
  split<;>omega
theorem jv {h:Hp} {w:Nat} {n:Int} {R:Value->Hp->Prop} (hw:1<=w/\w<=16) (k:R (I (fG w n)) h):eY #[I w,I n] h R:=by
 apply Ix
 refine uf_ ?_
 have h16:=Br hw.2
 have hp:=bQ w
 have hlt:=kV w n
 have ht:=TO w n
 refine zg ⟨_,rfl,aC (by simp;omega) ?_⟩
 rw [cY (by omega),if_neg (by omega),cw (by omega),if_neg (by omega)]
 refine ad (fun e=>?_) (fun e=>?_)
 ·have e':=of_decide_eq_true e
  rw [if_pos e']at ht
  rw [if_neg (by omega),cd (by omega) (by omega),<-ht];exact k
 ·have e':=of_decide_eq_false e
  rw [if_neg e']at ht
  rw [<-ht];exact k
theorem Hk {h:Hp} {w a:Nat} {R:Value->Hp->Prop} (hw:w<=16) (k:R (I (k7 w a)) h):sC #[I w,I a] h R:=by
 apply NZ
 refine uf_ ?_
 refine au w (fun i vs h'=>vs= [I w,I a,I (k7 i a),I i]/\h'=h) ⟨rfl,rfl⟩ ?_
 rintro i _ _ next hi ⟨rfl,rfl⟩ hn
 refine⟨_,_,_,_,rfl,?_⟩
 by_cases hlt:i<w
 ·refine aM (by simp [hlt]) (jF (by omega) ⟨_,rfl,?_⟩)
  have hl:=SX i a
  have e:W ((k7 i a:Int)+(if a.testBit i then 1 else 0))=((k7 (i+1) a:Nat):Int):=by
   rw [cd (by split<;>omega) (by split<;>omega)]
   simp only [k7]
   split<;>simp
  rw [e,ay (by omega)]
  exact hn hlt _ _ ⟨rfl,rfl⟩
 ·have:i=w:=by omega
  subst this
  exact aC (by simp) k
theorem ST {a b:Nat} (ha:a<18446744073709551616) (hb:b<18446744073709551616):bJ .and .u64 (a:Int) (b:Int)=((a&&&b:Nat):Int):=by
 show IntKind.u64.wrap _=_
 have h1:(BitVec.ofInt IntKind.u64.bits (a:Int)&&&BitVec.ofInt IntKind.u64.bits (b:Int)).toNat=a&&&b:=by
  show (BitVec.ofInt 64 (a:Int)&&&BitVec.ofInt 64 (b:Int)).toNat=a&&&b
  rw [BitVec.ofInt_natCast,BitVec.ofInt_natCast,BitVec.toNat_and,BitVec.toNat_ofNat,BitVec.toNat_ofNat,Nat.mod_eq_of_lt (by omega),Nat.mod_eq_of_lt (by omega)]
 rw [h1,IntKind.wrap_u64]
 have:=Nat.and_le_left (n:=a) (m:=b)
 omega
def acB (x:Nat):Nat:=(x/2&&&6148914691236517205)+(x&&&6148914691236517205)
def ab9 (x:Nat):Nat:=(x/4&&&3689348814741910323)+(x&&&3689348814741910323)
def acS (x:Nat):Nat:=(x/16+x)&&&1085102592571150095
def ac5 (x:Nat):Nat:=x/256+x
def abx (x:Nat):Nat:=x/65536+x
def ace (x:Nat):Nat:=x/4294967296+x
def NQ (x:Nat):Nat:=ace (abx (ac5 (acS (ab9 (acB x)))))&&&127
def T0 (x:Nat):Bool:=Nat.beq (NQ (2*x)) (NQ x)&&Nat.beq (NQ (2*x+1)) (NQ x+1)
def R3 (hi:Nat):Nat->Bool
 |0=>true
 |n+1=>T0 (hi*256+n)&&R3 hi n
def Wr :Nat->Bool
 |0=>true
 |n+1=>R3 n 256&&Wr n
theorem aeo :Wr 128=true:=by kernel_rfl
theorem acf {hi:Nat}: ∀n,R3 hi n=true-> ∀i,i<n->T0 (hi*256+i)=true:=by
 intro n
 induction n with
 |zero=>intro _ i h;omega
 |succ n ih=>
  intro h i hi
  simp only [R3,Bool.and_eq_true]at h
  by_cases e:i=n
  ·subst e;exact h.1
  ·exact ih h.2 i (by omega)
theorem acn : ∀n,Wr n=true-> ∀i,i<n->R3 i 256=true:=by
 intro n
 induction n with
 |zero=>intro _ i h;omega
 |succ n ih=>
  intro h i hi
  simp only [Wr,Bool.and_eq_true]at h
  by_cases e:i=n
  ·subst e;exact h.1
  ·exact ih h.2 i (by omega)
theorem ab7 {x:Nat} (h:x<32768):NQ (2*x)=NQ x/\NQ (2*x+1)=NQ x+1:=by
 have h1:=acn 128 aeo (x/256) (by omega)
 have h2:=acf 256 h1 (x%256) (Nat.mod_lt _ (by omega))
 rw [show x/256*256+x%256=x by omega]at h2
 simp only [T0,Bool.and_eq_true]at h2
 exact⟨Nat.eq_of_beq_eq_true h2.1,Nat.eq_of_beq_eq_true h2.2⟩
theorem Vc (a:Nat): ∀w,k7 (w+1) a=a%2+k7 w (a/2):=by
 intro w
 induction w with
 |zero=>
  simp only [k7,Nat.testBit_zero]
  rcases Nat.mod_two_eq_zero_or_one a with h|h<;>simp [h]
 |succ w ih=>
  rw [k7,ih,k7,Nat.testBit_succ];omega
theorem afj : ∀w,w<=16-> ∀x,x<2^w->NQ x=k7 w x:=by
 intro w
 induction w with
 |zero=>intro _ x hx;have:x=0:=by simpa using hx
        subst this;rfl
 |succ w ih=>
  intro hw x hx
  have h16:2^w<=32768:=by
   have:=Nat.pow_le_pow_right (n:=2) (by omega) (show w<=15 by omega)
   simpa using this
  have hp:2^(w+1)=2*2^w:=by rw [Nat.pow_succ];omega
  have h1:=ih (by omega) (x/2) (by omega)
  have h2:=ab7 (x:=x/2) (by omega)
  rw [Vc,<-h1]
  rcases Nat.mod_two_eq_zero_or_one x with h|h
  ·have e:2*(x/2)=x:=by omega
   rw [e]at h2;rw [h2.1,h];omega
  ·have e:2*(x/2)+1=x:=by omega
   rw [e]at h2;rw [h2.2,h];omega
theorem OK {a k:Nat} (hk:k<=64):Int.fdiv (a:Int) (2^(min (Int.toNat (k:Int)) (IntKind.bits .u64)))=((a/2^k:Nat):Int):=by
 have h1:min (Int.toNat (k:Int)) (IntKind.bits .u64)=k:=by simp [IntKind.bits];omega
 rw [h1,Int.fdiv_eq_ediv_of_nonneg _ (Int.pow_nonneg (by decide))]
 simp
def q1 (x:Int):Int:=IntKind.wrap .u64 ((bJ .and .u64 (Int.fdiv x (2^(min (Int.toNat 1) (IntKind.bits .u64)))) 6148914691236517205)+(bJ .and .u64 x 6148914691236517205))
def q2 (x:Int):Int:=IntKind.wrap .u64 ((bJ .and .u64 (Int.fdiv x (2^(min (Int.toNat 2) (IntKind.bits .u64)))) 3689348814741910323)+(bJ .and .u64 x 3689348814741910323))
def q3 (x:Int):Int:=bJ .and .u64 (IntKind.wrap .u64 ((Int.fdiv x (2^(min (Int.toNat 4) (IntKind.bits .u64))))+x)) 1085102592571150095
def q4 (x:Int):Int:=IntKind.wrap .u64 (x+Int.fdiv x (2^(min (Int.toNat 8) (IntKind.bits .u64))))
def q5 (x:Int):Int:=IntKind.wrap .u64 (x+Int.fdiv x (2^(min (Int.toNat 16) (IntKind.bits .u64))))
def q6 (x:Int):Int:=IntKind.wrap .u64 (x+Int.fdiv x (2^(min (Int.toNat 32) (IntKind.bits .u64))))
theorem Mz {h:Hp} {a:Nat} {R:Value->Hp->Prop} (ha:a<65536) (k:R (I (k7 16 a)) h):mr #[.int .u64 a] h R:=by
 apply Ap
 refine uf_ ?_
 apply yi
 refine uf_ ?_
 refine⟨_,rfl,?_⟩
 have e1:q1 a=((acB a:Nat):Int):=by
  have l1:=Nat.and_le_left (n:=a/2) (m:=6148914691236517205)
  have l2:=Nat.and_le_left (n:=a) (m:=6148914691236517205)
  have:=OK (a:=a) (k:=1) (by omega)
  unfold q1 acB
  rw [show (Int.toNat 1)=Int.toNat ((1:Nat):Int)from rfl,this,Nat.pow_one]
  rw [show (6148914691236517205:Int)=((6148914691236517205:Nat):Int)from rfl,ST (by omega) (by omega),ST (by omega) (by omega),<-Int.natCast_add,cY (by omega)]
 have b1:acB a<=98304:=by
  have l1:=Nat.and_le_left (n:=a/2) (m:=6148914691236517205)
  have l2:=Nat.and_le_left (n:=a) (m:=6148914691236517205)
  unfold acB;omega
 have e2: ∀x:Nat,x<=98304->q2 x=((ab9 x:Nat):Int)/\ab9 x<=196608:=by
  intro x hx
  have l1:=Nat.and_le_left (n:=x/4) (m:=3689348814741910323)
  have l2:=Nat.and_le_left (n:=x) (m:=3689348814741910323)
  have:=OK (a:=x) (k:=2) (by omega)
  refine⟨?_,by unfold ab9;omega⟩
  unfold q2 ab9
  rw [show (Int.toNat 2)=Int.toNat ((2:Nat):Int)from rfl,this,show 2^2=4 from rfl]
  rw [show (3689348814741910323:Int)=((3689348814741910323:Nat):Int)from rfl,ST (by omega) (by omega),ST (by omega) (by omega),<-Int.natCast_add,cY (by omega)]
 have e3: ∀x:Nat,x<=196608->q3 x=((acS x:Nat):Int)/\acS x<=393216:=by
  intro x hx
  have l1:=Nat.and_le_left (n:=x/16+x) (m:=1085102592571150095)
  have:=OK (a:=x) (k:=4) (by omega)
  refine⟨?_,by unfold acS;omega⟩
  unfold q3 acS
  rw [show (Int.toNat 4)=Int.toNat ((4:Nat):Int)from rfl,this,show 2^4=16 from rfl,<-Int.natCast_add,cY (by omega)]
  rw [show (1085102592571150095:Int)=((1085102592571150095:Nat):Int)from rfl,ST (by omega) (by omega)]
 have e4: ∀x:Nat,x<=393216->q4 x=((ac5 x:Nat):Int)/\ac5 x<=786432:=by
  intro x hx
  have:=OK (a:=x) (k:=8) (by omega)
  refine⟨?_,by unfold ac5;omega⟩
  unfold q4 ac5
  rw [show (Int.toNat 8)=Int.toNat ((8:Nat):Int)from rfl,this,show 2^8=256 from rfl,<-Int.natCast_add,cY (by omega),Nat.add_comm]
 have e5: ∀x:Nat,x<=786432->q5 x=((abx x:Nat):Int)/\abx x<=1572864:=by
  intro x hx
  have:=OK (a:=x) (k:=16) (by omega)
  refine⟨?_,by unfold abx;omega⟩
  unfold q5 abx
  rw [show (Int.toNat 16)=Int.toNat ((16:Nat):Int)from rfl,this,show 2^16=65536 from rfl,<-Int.natCast_add,cY (by omega),Nat.add_comm]
 have e6: ∀x:Nat,x<=1572864->q6 x=((ace x:Nat):Int)/\ace x<=3145728:=by
  intro x hx
  have:=OK (a:=x) (k:=32) (by omega)
  refine⟨?_,by unfold ace;omega⟩
  unfold q6 ace
  rw [show (Int.toNat 32)=Int.toNat ((32:Nat):Int)from rfl,this,show 2^32=4294967296 from rfl,<-Int.natCast_add,cY (by omega),Nat.add_comm]
 have b2:=(e2 _ b1).2
 have b3:=(e3 _ b2).2
 have b4:=(e4 _ b3).2
 have b5:=(e5 _ b4).2
 have b6:=(e6 _ b5).2
 show R (I (uH (W (q6 (q5 (q4 (q3 (q2 (q1 a))))))) 127)) h
 rw [e1,(e2 _ b1).1,(e3 _ b2).1,(e4 _ b3).1,(e5 _ b4).1,(e6 _ b5).1,fW (by omega),show (127:Int)=((127:Nat):Int)from rfl,Bg (by omega) (by omega)]
 have:=afj 16 (by omega) a (by simpa using ha)
 unfold NQ at this
 rw [this];exact k
theorem UF {w a:Nat} (ha:a<2^w): ∀d,k7 (w+d) a=k7 w a:=by
 intro d
 induction d with
 |zero=>rfl
 |succ d ih=>
  have hz:a.testBit (w+d)=false:=Nat.testBit_lt_two_pow (Nat.lt_of_lt_of_le ha (Nat.pow_le_pow_right (by omega) (by omega)))
  rw [<-Nat.add_assoc,k7,ih,hz]
  simp
theorem R6 {h:Hp} {kind:Int} {w a:Nat} {R:Value->Hp->Prop} (hk:1<=kind/\kind<=5) (e:WO w a)
  (k:R (.tuple #[I (yH kind w a).1,I (yH kind w a).2]) h):Di #[I kind,I w,I a] h R:=by
 apply VD
 refine uf_ ?_
 have h16:=e.pow
 have hp:=bQ w
 have ha:=e.2
 have hw:=e.1
 unfold yH at k
 refine ad (fun e1=>?_) (fun e1=>ad (fun e2=>?_) (fun e2=>ad (fun e3=>?_) (fun e3=>ad (fun e4=>?_) (fun e4=>?_))))
 ·rw [if_pos (by simpa using e1)]at k
  refine dF (by omega) ⟨_,rfl,?_⟩
  have:W ((((2^w:Nat):Int)-1)-a)=((2^w-1-a:Nat):Int):=by rw [cd (by omega) (by omega)];omega
  rw [this];exact k
 ·rw [if_neg (by simpa using e1),if_pos (by simpa using e2)]at k
  refine dF (by omega) ⟨_,rfl,?_⟩
  rw [cd (n:=0-(a:Int)) (by omega) (by omega),ia (by omega),Int.zero_sub]
  exact k
 ·rw [if_neg (by simpa using e1),if_neg (by simpa using e2),if_pos (by simpa using e3)]at k
  refine BD ⟨_,rfl,?_⟩
  by_cases h0:a=0
  ·subst h0;simpa using k
  ·have:((a:Int) !=0)=true:=by simpa using h0
   rw [this];rw [if_neg h0]at k;simpa using k
 ·rw [if_neg (by simpa using e1),if_neg (by simpa using e2),if_neg (by simpa using e3),if_pos (by simpa using e4)]at k
  refine dF (by omega) ⟨_,rfl,BD ⟨_,rfl,?_⟩⟩
  by_cases h0:a=2^w-1
  ·have:((a:Int)==((2^w:Nat):Int)-1)=true:=by rw [beq_iff_eq];omega
   rw [this];rw [if_pos h0]at k;simpa using k
  ·have:((a:Int)==((2^w:Nat):Int)-1)=false:=by rw [beq_eq_false_iff_ne];omega
   rw [this];rw [if_neg h0]at k;simpa using k
 ·rw [if_neg (by simpa using e1),if_neg (by simpa using e2),if_neg (by simpa using e3),if_neg (by simpa using e4)]at k
  rw [cY (by omega)]
  refine Mz (by omega) ⟨_,rfl,?_⟩
  have:=UF ha (16-w)
  rw [show w+(16-w)=16 by omega]at this
  rw [this,Mp];exact k
theorem Ec {h:Hp} {kind:Int} {w a:Nat} {R:Value->Hp->Prop} (hk:1<=kind/\kind<=5) (e:WO w a)
  (k:R (.tuple #[I (yH kind w a).1,I (yH kind w a).2, .bool true]) h):rv #[I kind,I w,I a] h R:=by
 apply Lt
 refine uf_ ?_
 have h16:=e.pow
 have hp:=bQ w
 have ha:=e.2
 have hw:=e.1
 unfold yH at k
 refine cO ⟨_,rfl,aC (by rw [e.ok];rfl) ?_⟩
 refine ad (fun e1=>?_) (fun e1=>ad (fun e2=>?_) (fun e2=>ad (fun e3=>?_) (fun e3=>ad (fun e4=>?_) (fun e4=>?_))))
 ·rw [if_pos (by simpa using e1)]at k
  rw [cY (by omega),if_neg (by omega),cw (by omega),cd (n:=((2^w:Nat):Int)-1) (by omega) (by omega)]
  have:W ((((2^w:Nat):Int)-1)-a)=((2^w-1-a:Nat):Int):=by rw [cd (by omega) (by omega)];omega
  rw [this];exact k
 ·rw [if_neg (by simpa using e1),if_pos (by simpa using e2)]at k
  rw [cd (n:=0-(a:Int)) (by omega) (by omega),Int.zero_sub]
  exact jv hw ⟨_,rfl,k⟩
 ·rw [if_neg (by simpa using e1),if_neg (by simpa using e2),if_pos (by simpa using e3)]at k
  refine we ⟨_,rfl,?_⟩
  by_cases h0:a=0
  ·subst h0;simpa using k
  ·have:decide ((a:Int)>0)=true:=by simp;omega
   rw [this];rw [if_neg h0]at k;simpa using k
 ·rw [if_neg (by simpa using e1),if_neg (by simpa using e2),if_neg (by simpa using e3),if_pos (by simpa using e4)]at k
  refine Hk (by omega) ⟨_,rfl,we ⟨_,rfl,?_⟩⟩
  have hf:=UN ha
  by_cases h0:a=2^w-1
  ·have:(((k7 w a:Nat):Int)==(w:Int))=true:=by rw [beq_iff_eq,hf.2 h0]
   rw [this];rw [if_pos h0]at k;simpa using k
  ·have:(((k7 w a:Nat):Int)==(w:Int))=false:=by rw [beq_eq_false_iff_ne];intro he;exact h0 (hf.1 (by omega))
   rw [this];rw [if_neg h0]at k;simpa using k
 ·rw [if_neg (by simpa using e1),if_neg (by simpa using e2),if_neg (by simpa using e3),if_neg (by simpa using e4)]at k
  have:kind=5:=by
   have h1:kind≠1:=by simpa using e1
   have h2:kind≠2:=by simpa using e2
   have h3:kind≠3:=by simpa using e3
   have h4:kind≠4:=by simpa using e4
   omega
  refine aM (by simpa using this) (Hk (by omega) ⟨_,rfl,?_⟩)
  rw [Mp];exact k
theorem eP (a b:Nat):Int.tmod (a:Int) (b:Int)=((a%b:Nat):Int):=(Int.ofNat_tmod a b).symm
theorem vO (a b:Nat):Int.tdiv (a:Int) (b:Int)=((a/b:Nat):Int):=(Int.ofNat_tdiv a b).symm
theorem EF {a b:Nat} (ha:a<65536) (hb:b<=65536):a*b<=4294967296:=by
 have:=Nat.mul_le_mul (Nat.le_of_lt ha) hb
 omega
theorem Hq {w a:Nat} (e:WO w a): -65536<=sgn w a/\sgn w a<=65536:=by
 have h:=Pl e.1.1 e.2
 have hp:=sW e.1.1
 have h16:=e.pow
 omega
theorem bA {a b:Int} (e:(a==b)=false): ¬a=b:=by simpa using e
theorem bZ {a b:Int} (e:(a==b)=true):a=b:=by simpa using e
theorem Hf {h:Hp} {w a p:Nat} {R:Value->Hp->Prop} (e:WO w a) (k:R (I (DL w a (p%w))) h):sF #[I w,I a,I p] h R:=by
 apply NL
 refine uf_ ?_
 obtain⟨⟨h1,h2⟩,ha⟩:=e
 have h16:=Br h2
 have hm:p%w<w:=Nat.mod_lt _ (by omega)
 have hpm:=Br (w:=p%w) (by omega)
 have ht:Int.tmod (p:Int) (w:Int)=((p%w:Nat):Int):=eP p w
 have hw:W ((w:Int)-((p%w:Nat):Int))=((w-p%w:Nat):Int):=by rw [cd (by omega) (by omega)];omega
 have hmul:=EF (a:=a) (b:=2^(p%w)) (by omega) hpm
 rw [if_neg (by omega),ht,if_neg (by omega),hw,if_neg (by omega)]
 refine dF (by omega) ⟨_,rfl,?_⟩
 have hd:a/2^(w-p%w)<=a:=Nat.div_le_self _ _
 rw [jj (by omega) (by omega),jI (by omega),E1 (by omega) (by omega),ia (by omega),nF]
 exact k
theorem QM {h:Hp} {kind:Int} {w a b:Nat} {R:Value->Hp->Prop} (hk:kind=14\/kind=15) (ea:WO w a) (eb:WO w b)
  (k:R (I ((if kind=14 then N7 w a b else OE w a b:Nat):Int)) h):wk #[I kind,I w,I a,I b] h R:=by
 apply Ky
 refine uf_ ?_
 have h16:=ea.pow
 have hp:=bQ w
 have sa:=Hq ea
 have sb:=Hq eb
 have hw:=ea.1
 refine qg ea ⟨_,rfl,qg eb ⟨_,rfl,?_⟩⟩
 unfold N7 OE at k
 by_cases hy:sgn w b=0
 ·rw [if_pos hy,if_pos hy]at k
  rw [hy]
  refine ap (fun J=>J (decide (kind=15))) ?_ (fun J hJ=>aM rfl (by rw [show (kind==15)=decide (kind=15)from rfl];exact hJ))
  refine ad (fun e=>?_) (fun e=>?_)
  ·have e':kind=15:=by simpa using e
   rw [if_neg (by omega)]at k;exact k
  ·have e':kind=14:=by have: ¬kind=15:=by simpa using e
                       omega
   rw [if_pos e']at k
   refine ap (fun J=>J (decide (sgn w a<0))) ?_ (fun J hJ=>aM rfl hJ)
   refine ad (fun e=>?_) (fun e=>aM rfl (dF (by omega) ⟨_,rfl,?_⟩))
   ·rw [if_pos (by simpa using e)]at k;exact k
   ·rw [if_neg (by simpa using e)]at k
    have:((2^w-1:Nat):Int)=((2^w:Nat):Int)-1:=by omega
    rw [<-this];exact k
 ·rw [if_neg hy,if_neg hy]at k
  have hyb:(sgn w b==0)=false:=by simpa using hy
  refine ap (fun J=>J false) ?_ (fun J hJ=>aC hyb hJ)
  refine aC rfl (ap (fun J=>J false) ?_ (fun J hJ=>aC hyb hJ))
  refine aC rfl (aC hyb ?_)
  have hdiv:(Int.tdiv (sgn w a) (sgn w b)).natAbs<=65536:=by
   rw [Int.natAbs_tdiv]
   exact Nat.le_trans (Nat.div_le_self _ _) (by omega)
  refine ad (fun e=>?_) (fun e=>?_)
  ·rw [if_pos (by simpa using e)]at k
   rw [if_neg hy]
   refine dF (by omega) ⟨_,rfl,?_⟩
   rw [cd (by omega) (by omega),ia (by omega)];exact k
  ·rw [if_neg (by simpa using e)]at k
   rw [if_neg hy]
   refine dF (by omega) ⟨_,rfl,?_⟩
   rw [ia (by omega)];exact k
def GO (kind:Int) (w a b:Nat):Nat:=if kind=16 then aeT w a b else if kind=17 then aei w a b else afa w a b
theorem QI {h:Hp} {kind:Int} {w a b:Nat} {R:Value->Hp->Prop} (ea:WO w a) (hb:b<=65536)
  (k:R (I (GO kind w a b)) h):vg #[I kind,I w,I a,I b] h R:=by
 apply Jq
 refine uf_ ?_
 have h16:=ea.pow
 have ha:=ea.2
 have hw:=ea.1
 have hmin:(if(w:Int)<(b:Int)then(w:Int)else(b:Int))=((min b w:Nat):Int):=by
  by_cases h:w<b
  ·rw [if_pos (by omega),Nat.min_eq_right (by omega)]
  ·rw [if_neg (by omega),Nat.min_eq_left (by omega)]
 have hm:min b w<=w:=Nat.min_le_right _ _
 have hpm:=Br (w:=min b w) (by omega)
 have hmul:=EF (a:=a) (b:=2^min b w) (by omega) hpm
 unfold GO at k
 rw [hmin]
 refine ad (fun e=>?_) (fun e=>ad (fun e2=>?_) (fun e2=>?_))
 ·rw [if_pos (bZ e)]at k
  rw [if_neg (by omega)]
  refine dF (by omega) ⟨_,rfl,?_⟩
  rw [jj (by omega) (by omega),ia (by omega),nF];exact k
 ·rw [if_neg (bA e),if_pos (bZ e2)]at k
  rw [if_neg (by omega),jI (by omega)];exact k
 ·rw [if_neg (bA e),if_neg (bA e2)]at k
  refine qg ea ⟨_,rfl,?_⟩
  rw [if_neg (by omega)]
  refine dF (by omega) ⟨_,rfl,?_⟩
  rw [ack (by omega),ia (by omega)];exact k
theorem MQ {h:Hp} {kind:Int} {w a b:Nat} {R:Value->Hp->Prop} (hk:21<=kind/\kind<=28) (ea:WO w a) (eb:WO w b)
  (k:R (.bool (AD kind w a b)) h):ub #[I kind,I w,I a,I b] h R:=by
 apply HV
 refine uf_ ?_
 have h16:=ea.pow
 have hp:=bQ w
 have sa:=Hq ea
 have sb:=Hq eb
 have ha:=ea.2
 have hb:=eb.2
 have hw:=ea.1
 unfold AD at k
 have dd: ∀{p q:Prop} [Decidable p] [Decidable q],(p↔q)->decide p=decide q:=fun h=>by rw [decide_eq_decide];exact h
 refine qg ea ⟨_,rfl,qg eb ⟨_,rfl,?_⟩⟩
 refine ad (fun e1=>?_) (fun e1=>ad (fun e2=>?_) (fun e2=>ad (fun e3=>?_) (fun e3=>ad (fun e4=>?_) (fun e4=>ad (fun e5=>?_) (fun e5=>ad (fun e6=>?_) (fun e6=>ad (fun e7=>?_) (fun e7=>?_)))))))
 ·rw [if_pos (bZ e1)]at k
  have:((a:Int)==(b:Int))=decide (a=b):=by rw [Bool.eq_iff_iff];simp;omega
  rw [this];exact k
 all_goals rw [if_neg (bA e1)]at k
 ·rw [if_pos (bZ e2)]at k
  rw [dd (p:=(a:Int)<(b:Int)) (q:=a<b) (by omega)];exact k
 all_goals rw [if_neg (bA e2)]at k
 ·rw [if_pos (bZ e3)]at k;exact k
 all_goals rw [if_neg (bA e3)]at k
 ·rw [if_pos (bZ e4)]at k
  rw [dd (p:=(a:Int)<=(b:Int)) (q:=a<=b) (by omega)];exact k
 all_goals rw [if_neg (bA e4)]at k
 ·rw [if_pos (bZ e5)]at k;exact k
 all_goals rw [if_neg (bA e5)]at k
 ·rw [if_pos (bZ e6)]at k
  refine dF (by omega) ⟨_,rfl,?_⟩
  rw [cd (by omega) (by omega),dd (p:=(a:Int)+(b:Int)>((2^w:Nat):Int)-1) (q:=2^w<=a+b) (by omega)];exact k
 all_goals rw [if_neg (bA e6)]at k
 ·rw [if_pos (bZ e7)]at k
  have w1:W ((w:Int)-1)=((w-1:Nat):Int):=by rw [cd (by omega) (by omega)];omega
  have hpp:=sW hw.1
  rw [w1,if_neg (by omega),if_neg (by omega),acF (by omega),cw (by omega),cd (n:=sgn w a+sgn w b) (by omega) (by omega),cd (n:=((2^(w-1):Nat):Int)-1) (by omega) (by omega)]
  refine gU ⟨_,rfl,?_⟩
  rw [dd (p:= -((2^(w-1):Nat):Int)<=sgn w a+sgn w b/\sgn w a+sgn w b<=((2^(w-1):Nat):Int)-1) (q:= -((2^(w-1):Nat):Int)<=sgn w a+sgn w b/\sgn w a+sgn w b<((2^(w-1):Nat):Int)) (by omega)]
  exact k
 ·rw [if_neg (bA e7)]at k
  have hmul:=EF (a:=a) (b:=b) (by omega) (by omega)
  have hmi:(a:Int)*(b:Int)=((a*b:Nat):Int):=(Int.natCast_mul _ _).symm
  refine dF (by omega) ⟨_,rfl,?_⟩
  rw [hmi]
  generalize a*b=ab at*
  rw [fW (by omega),dd (p:=(ab:Int)>((2^w:Nat):Int)-1) (q:=2^w<=ab) (by omega)];exact k
theorem Se {h:Hp} {kind:Int} {w a b:Nat} {R:Value->Hp->Prop} (hk:6<=kind/\kind<=28) (ea:WO w a) (eb:WO w b)
  (k:R (.tuple #[I (qt kind w a b).1,I (qt kind w a b).2]) h):DV #[I kind,I w,I a,I b] h R:=by
 apply Vs
 refine uf_ ?_
 have h16:=ea.pow
 have hp:=bQ w
 have ha:=ea.2
 have hb:=eb.2
 have hw:=ea.1
 have hand:a&&&b<=a:=Nat.and_le_left
 have hmul:=EF (a:=a) (b:=b) (by omega) (by omega)
 by_cases h20:kind<=20
 rotate_left
 ·have t:qt kind w a b=(if AD kind w a b then 1 else 0,1):=by unfold qt;rw [if_neg h20]
  rw [t]at k
  have nb: ∀n:Int,n<=20->(kind==n)=false:=fun n hn=>by rw [beq_eq_false_iff_ne];omega
  refine aC (nb _ (by omega)) (aC (nb _ (by omega)) (aC (nb _ (by omega)) (aC (nb _ (by omega)) (aC (nb _ (by omega)) (aC (nb _ (by omega)) (aC (nb _ (by omega)) (aC (nb _ (by omega)) ?_)))))))
  refine ap (fun J=>J false) ?_ (fun J hJ=>aC (nb _ (by omega)) (by rw [nb 15 (by omega)];exact hJ))
  refine aC rfl (ap (fun J=>J false) ?_ (fun J hJ=>aC (nb _ (by omega)) (aC (nb _ (by omega)) (by rw [nb 18 (by omega)];exact hJ))))
  refine aC rfl (aC (nb _ (by omega)) (aC (nb _ (by omega)) ?_))
  refine MQ (by omega) ea eb ⟨_,rfl,BD ⟨_,rfl,?_⟩⟩
  cases hs:AD kind w a b
  ·rw [hs]at k;simpa using k
  ·rw [hs]at k;simpa using k
 have t:qt kind w a b=(BH kind w a b,w):=by unfold qt;rw [if_pos h20]
 rw [t]at k
 unfold BH at k
 simp only at k
 refine ad (fun e=>?_) (fun e6=>?_)
 ·rw [if_pos (bZ e)]at k;rw [Bg (by omega) (by omega)];exact k
 rw [if_neg (bA e6)]at k
 refine ad (fun e=>?_) (fun e7=>?_)
 ·rw [if_pos (bZ e)]at k;rw [E1 (by omega) (by omega)];exact k
 rw [if_neg (bA e7)]at k
 refine ad (fun e=>?_) (fun e8=>?_)
 ·rw [if_pos (bZ e)]at k;rw [RW (by omega) (by omega)];exact k
 rw [if_neg (bA e8)]at k
 refine ad (fun e=>?_) (fun e9=>?_)
 ·rw [if_pos (bZ e)]at k
  refine dF (by omega) ⟨_,rfl,?_⟩
  rw [cd (by omega) (by omega),ia (by omega)];exact k
 rw [if_neg (bA e9)]at k
 refine ad (fun e=>?_) (fun e10=>?_)
 ·rw [if_pos (bZ e)]at k
  refine dF (by omega) ⟨_,rfl,?_⟩
  rw [cd (by omega) (by omega),ia (by omega)];exact k
 rw [if_neg (bA e10)]at k
 refine ad (fun e=>?_) (fun e11=>?_)
 ·rw [if_pos (bZ e)]at k
  refine dF (by omega) ⟨_,rfl,?_⟩
  have hmi:(a:Int)*(b:Int)=((a*b:Nat):Int):=(Int.natCast_mul _ _).symm
  rw [hmi]at k⊢
  generalize a*b=ab at*
  rw [fW (by omega),ia (by omega)];exact k
 rw [if_neg (bA e11)]at k
 refine ad (fun e=>?_) (fun e12=>?_)
 ·rw [if_pos (bZ e)]at k
  refine dF (by omega) ⟨_,rfl,ad (fun eb0=>?_) (fun eb0=>?_)⟩
  ·have hb0: ¬b=0:=by have:=of_decide_eq_true eb0;omega
   rw [if_neg hb0]at k
   have hd:=Nat.div_le_self a b
   rw [if_neg (by omega),vO,fW (by omega)];exact k
  ·have hb0:b=0:=by have:=of_decide_eq_false eb0;omega
   rw [if_pos hb0]at k
   have:((2^w-1:Nat):Int)=((2^w:Nat):Int)-1:=by omega
   rw [<-this];exact k
 rw [if_neg (bA e12)]at k
 refine ad (fun e=>?_) (fun e13=>?_)
 ·rw [if_pos (bZ e)]at k
  refine ad (fun eb0=>?_) (fun eb0=>?_)
  ·have hb0: ¬b=0:=by have:=of_decide_eq_true eb0;omega
   rw [if_neg hb0]at k
   rw [if_neg (by omega),eP];exact k
  ·have hb0:b=0:=by have:=of_decide_eq_false eb0;omega
   rw [if_pos hb0]at k;exact k
 rw [if_neg (bA e13)]at k
 refine ap (fun J=>J (decide (kind=14\/kind=15))) ?_ ?_
 rotate_left
 ·intro J hJ
  refine ad (fun e=>?_) (fun e=>?_)
  ·rw [decide_eq_true (.inl (bZ e))]at hJ;exact hJ
  ·have:(kind==15)=decide (kind=14\/kind=15):=by
    have:=bA e
    rw [Bool.eq_iff_iff];simp [this]
   rw [this];exact hJ
 refine ad (fun e=>?_) (fun e1415=>?_)
 ·have e':kind=14\/kind=15:=by simpa using e
  refine QM e' ea eb ⟨_,rfl,?_⟩
  rcases e' with rfl|rfl
  ·simpa using k
  ·simpa using k
 have n14: ¬kind=14/\ ¬kind=15:=by simpa using e1415
 rw [if_neg n14.1,if_neg n14.2]at k
 refine ap (fun J=>J (decide (kind=16\/kind=17\/kind=18))) ?_ ?_
 rotate_left
 ·intro J hJ
  refine ad (fun e=>?_) (fun e=>ad (fun e2=>?_) (fun e2=>?_))
  ·rw [decide_eq_true (.inl (bZ e))]at hJ;exact hJ
  ·rw [decide_eq_true (.inr (.inl (bZ e2)))]at hJ;exact hJ
  ·have:(kind==18)=decide (kind=16\/kind=17\/kind=18):=by
    have h1:=bA e
    have h2:=bA e2
    rw [Bool.eq_iff_iff];simp [h1,h2]
   rw [this];exact hJ
 refine ad (fun e=>?_) (fun e1618=>?_)
 ·have e':kind=16\/kind=17\/kind=18:=by simpa using e
  refine QI ea (by omega) ⟨_,rfl,?_⟩
  unfold GO
  rcases e' with rfl|rfl|rfl
  ·simpa using k
  ·simpa using k
  ·simpa using k
 have n16: ¬kind=16/\ ¬kind=17/\ ¬kind=18:=by simpa using e1618
 rw [if_neg n16.1,if_neg n16.2.1,if_neg n16.2.2]at k
 refine ad (fun e=>?_) (fun e19=>?_)
 ·rw [if_pos (bZ e)]at k
  exact Hf ea ⟨_,rfl,k⟩
 rw [if_neg (bA e19)]at k
 have h20':kind=20:=by
  have:=bA e6;have:=bA e7;have:=bA e8;have:=bA e9;have:=bA e10;have:=bA e11;have:=bA e12;have:=bA e13;have:=bA e19
  omega
 refine aM (by simpa using h20') ?_
 have hm:b%w<w:=Nat.mod_lt _ (by omega)
 have hw2:W ((w:Int)-((b%w:Nat):Int))=((w-b%w:Nat):Int):=by rw [cd (by omega) (by omega)];omega
 rw [if_neg (by omega),eP,hw2]
 exact Hf ea ⟨_,rfl,k⟩
def LO (kind:Int) (x y:Bool):Bool:=if kind=8 then x^^y else if kind=7 then x||y else x&&y
theorem PD {c:Bool} {n:Nat} (hn:n<=62):aA (if c then 1 else 0) (n:Int)=((if c then 2^n else 0:Nat):Int):=by
 cases c
 ·have:=jj (a:=0) (n:=n) (by omega) (by omega);simpa using this
 ·have:=cw hn;simpa using this
theorem OV {i:Nat} {f:Nat->Bool} {c:Bool} (hi:i<=60) (hc:c=f i):W ((dj i f:Int)+((if c then 2^i else 0:Nat):Int))=((dj (i+1) f:Nat):Int):=by
 have h1:=uT i f
 have h2:=pV (n:=i) (by omega)
 subst hc
 simp only [dj]
 rw [cd (by split<;>omega) (by split<;>omega)]
 omega
theorem Su {h:Hp} {kind:Int} {w a b:Nat} {R:Value->Hp->Prop} (hw:w<=16)
  (k:R (I (dj w fun i=>LO kind (a.testBit i) (b.testBit i))) h):xK #[I kind,I w,I a,I b] h R:=by
 apply NW
 refine uf_ ?_
 refine au w (fun i vs h'=>vs= [I kind,I w,I a,I b,I (dj i fun i=>LO kind (a.testBit i) (b.testBit i)),I i]/\h'=h) ⟨rfl,rfl⟩ ?_
 rintro i _ _ next hi ⟨rfl,rfl⟩ hn
 refine⟨_,_,_,_,_,_,rfl,?_⟩
 by_cases hlt:i<w
 ·refine aM (by simp [hlt]) (jF (by omega) ⟨_,rfl,jF (by omega) ⟨_,rfl,?_⟩⟩)
  have hn':=hn hlt _ _ ⟨rfl,rfl⟩
  generalize hx:a.testBit i=x at*
  generalize hy:b.testBit i=y at*
  refine ap (fun J=>J (if kind=7 then(if x||y then 1 else 0)else(if x&&y then 1 else 0))) ?_ ?_
  ·refine ap (fun J=>J (if LO kind x y then 1 else 0)) ?_ ?_
   ·rw [cY (by omega),if_neg (by omega),PD (by omega),OV (by omega) (by rw [hx,hy]),ay (by omega)]
    exact hn'
   ·intro J hJ
    refine ad (fun e=>?_) (fun e=>?_)
    ·have:LO kind x y=(x^^y):=by unfold LO;rw [if_pos (bZ e)]
     rw [this]at hJ
     revert hJ;cases x<;>cases y<;>exact id
    ·have:LO kind x y=if kind=7 then x||y else x&&y:=by unfold LO;rw [if_neg (bA e)]
     rw [this]at hJ
     by_cases h7:kind=7
     ·rw [if_pos h7]at hJ⊢;exact hJ
     ·rw [if_neg h7]at hJ⊢;exact hJ
  ·intro J hJ
   refine ad (fun e=>?_) (fun e=>?_)
   ·rw [if_pos (bZ e)]at hJ
    revert hJ;cases x<;>cases y<;>exact id
   ·rw [if_neg (bA e)]at hJ
    revert hJ;cases x<;>cases y<;>exact id
 ·have:i=w:=by omega
  subst this
  exact aC (by simp) k
theorem Us {h:Hp} {kind:Int} {w a b:Nat} {R:Value->Hp->Prop} (ea:WO w a) (eb:WO w b)
  (k:R (I ((if kind=12 then(if b=0 then 2^w-1 else a/b)else if b=0 then a else a%b:Nat))) h):zt #[I kind,I w,I a,I b] h R:=by
 apply QH
 refine uf_ ?_
 have h16:=ea.pow
 have hp:=bQ w
 have ha:=ea.2
 have hw:=ea.1
 refine ad (fun e=>?_) (fun e=>?_)
 ·rw [if_pos (bZ e)]at k
  refine ad (fun e0=>?_) (fun e0=>?_)
  ·have hb0:b=0:=by have:=bZ e0;omega
   rw [if_pos hb0]at k
   rw [cY (by omega),if_neg (by omega),cw (by omega),cd (by omega) (by omega)]
   have:((2^w-1:Nat):Int)=((2^w:Nat):Int)-1:=by omega
   rw [<-this];exact k
  ·have hb0: ¬b=0:=by have:=bA e0;omega
   rw [if_neg hb0]at k
   have hd:=Nat.div_le_self a b
   rw [if_neg (by omega),vO,fW (by omega)];exact k
 ·rw [if_neg (bA e)]at k
  refine ad (fun e0=>?_) (fun e0=>?_)
  ·have hb0:b=0:=by have:=bZ e0;omega
   rw [if_pos hb0]at k;exact k
  ·have hb0: ¬b=0:=by have:=bA e0;omega
   rw [if_neg hb0]at k
   rw [if_neg (by omega),eP];exact k
theorem Sw {h:Hp} {kind:Int} {w a b:Nat} {R:Value->Hp->Prop} (hk:kind=14\/kind=15) (ea:WO w a) (eb:WO w b)
  (k:R (I ((if kind=14 then N7 w a b else OE w a b:Nat):Int)) h):xq #[I kind,I w,I a,I b] h R:=by
 apply NV
 refine uf_ ?_
 have h16:=ea.pow
 have hp:=bQ w
 have sa:=Hq ea
 have sb:=Hq eb
 have hw:=ea.1
 refine jY ea ⟨_,rfl,jY eb ⟨_,rfl,?_⟩⟩
 unfold N7 OE at k
 refine ad (fun e=>?_) (fun e=>?_)
 ·have e':=bZ e
  rw [if_neg (by omega)]at k
  refine ad (fun e0=>?_) (fun e0=>?_)
  ·rw [if_pos (bZ e0)]at k;exact k
  ·rw [if_neg (bA e0)]at k
   rw [if_neg (bA e0)]
   exact jv hw ⟨_,rfl,k⟩
 ·have e':kind=14:=by have:=bA e;omega
  rw [if_pos e']at k
  by_cases hy:sgn w b=0
  ·rw [if_pos hy]at k
   have hyb:(sgn w b==0)=true:=by simpa using hy
   refine ap (fun J=>J (decide (sgn w a<0))) ?_ (fun J hJ=>aM hyb hJ)
   refine ad (fun e=>?_) (fun e=>aM hyb ?_)
   ·rw [if_pos (of_decide_eq_true e)]at k;exact k
   ·rw [if_neg (of_decide_eq_false e)]at k
    rw [cY (by omega),if_neg (by omega),cw (by omega),cd (by omega) (by omega)]
    have:((2^w-1:Nat):Int)=((2^w:Nat):Int)-1:=by omega
    rw [<-this];exact k
  ·rw [if_neg hy]at k
   have hyb:(sgn w b==0)=false:=by simpa using hy
   refine ap (fun J=>J false) ?_ (fun J hJ=>aC hyb hJ)
   refine aC rfl (aC hyb ?_)
   have hdiv:(Int.tdiv (sgn w a) (sgn w b)).natAbs<=65536:=by
    rw [Int.natAbs_tdiv]
    exact Nat.le_trans (Nat.div_le_self _ _) (by omega)
   rw [if_neg hy,cd (by omega) (by omega)]
   exact jv hw ⟨_,rfl,k⟩
theorem QE {h:Hp} {kind:Int} {w a b:Nat} {R:Value->Hp->Prop} (hk:kind=16\/kind=17\/kind=18) (ea:WO w a) (hb:b<=65536)
  (k:R (I (GO kind w a b)) h):qY #[I kind,I w,I a,I b] h R:=by
 have hw:=ea.1
 have key: ∀f:Nat->Bool,dj w f=GO kind w a b->
   (∀i,i<w->f i=if kind=16 then decide (b<=i)&&a.testBit (i-b)else if kind=17 then decide (i+b<w)&&a.testBit (i+b)else if i+b<w then a.testBit (i+b)else a.testBit (w-1))->
   qY #[I kind,I w,I a,I b] h R:=by
  intro f hcode hf
  apply JZ
  refine uf_ ?_
  refine au w (fun i vs h'=>vs= [I kind,I w,I a,I b,I (dj i f),I i]/\h'=h) ⟨rfl,rfl⟩ ?_
  rintro i _ h' next hi ⟨rfl,rfl⟩ hn
  refine⟨_,_,_,_,_,_,rfl,?_⟩
  by_cases hlt:i<w
  ·refine aM (by simp [hlt]) ?_
   have hn':=hn hlt _ _ ⟨rfl,rfl⟩
   have hfi:=hf i hlt
   refine ap (fun J=>J (if kind=16 then(i:Int)-b else(i:Int)+b)) ?_ ?_
   ·refine ap (fun J=>J (decide (0<=(if kind=16 then(i:Int)-b else(i:Int)+b)/\(if kind=16 then(i:Int)-b else(i:Int)+b)<w))) ?_ ?_
    ·refine ap (fun J=>J (if f i then 1 else 0) h') ?_ ?_
     ·rw [cY (by omega),if_neg (by omega),PD (by omega),OV (by omega) rfl,ay (by omega)]
      exact hn'
     ·intro J hJ
      refine ad (fun e=>?_) (fun e=>?_)
      ·have e':=of_decide_eq_true e
       by_cases h16:kind=16
       ·rw [if_pos h16]at e' hfi⊢
        rw [show (i:Int)-b=((i-b:Nat):Int) by omega]
        refine jF (by omega) ⟨_,rfl,?_⟩
        rw [hfi]at hJ
        have:decide (b<=i)=true:=by simp;omega
        rw [this,Bool.true_and]at hJ;exact hJ
       ·rw [if_neg h16]at e' hfi⊢
        rw [show (i:Int)+b=((i+b:Nat):Int) by omega]
        refine jF (by omega) ⟨_,rfl,?_⟩
        have h1:decide (i+b<w)=true:=by simp;omega
        rw [h1,Bool.true_and,if_pos (show i+b<w by omega),ite_self]at hfi
        rw [hfi]at hJ;exact hJ
      ·have e':=of_decide_eq_false e
       refine ad (fun e2=>?_) (fun e2=>?_)
       ·have h18:=bZ e2
        rw [if_neg (by omega)]at e'
        rw [if_neg (by omega),if_neg (by omega),if_neg (by omega)]at hfi
        rw [show W ((w:Int)-1)=((w-1:Nat):Int) by rw [cd (by omega) (by omega)];omega]
        refine jF (by omega) ⟨_,rfl,?_⟩
        rw [hfi]at hJ;exact hJ
       ·have h18:=bA e2
        have:f i=false:=by
         rw [hfi]
         by_cases h16:kind=16
         ·rw [if_pos h16]at e'⊢
          have:decide (b<=i)=false:=by simp;omega
          rw [this,Bool.false_and]
         ·rw [if_neg h16]at e'⊢
          rw [if_pos (by omega)]
          have:decide (i+b<w)=false:=by simp;omega
          rw [this,Bool.false_and]
        rw [this]at hJ
        exact hJ
    ·intro J hJ
     generalize (if kind=16 then(i:Int)-b else(i:Int)+b)=z at*
     refine ad (fun e=>?_) (fun e=>?_)
     ·have:0<=z:=of_decide_eq_true e
      rw [show decide (0<=z/\z<(w:Int))=decide (z<(w:Int)) by rw [decide_eq_decide];omega]at hJ;exact hJ
     ·have: ¬0<=z:=of_decide_eq_false e
      rw [show decide (0<=z/\z<(w:Int))=false by rw [decide_eq_false_iff_not];omega]at hJ;exact hJ
   ·intro J hJ
    refine ad (fun e=>?_) (fun e=>?_)
    ·rw [if_pos (bZ e)]at hJ;rw [cd (by omega) (by omega)];exact hJ
    ·rw [if_neg (bA e)]at hJ;rw [cd (by omega) (by omega)];exact hJ
  ·have:i=w:=by omega
   subst this
   refine aC (by simp) ?_
   rw [hcode];exact k
 rcases hk with rfl|rfl|rfl
 ·exact key (fun i=>decide (b<=i)&&a.testBit (i-b)) abt (fun i _=>rfl)
 ·exact key (fun i=>decide (i+b<w)&&a.testBit (i+b)) (ac8 ea.2) (fun i _=>rfl)
 ·exact key (fun i=>if i+b<w then a.testBit (i+b)else a.testBit (w-1)) (abb hw.1 hw.2 ea.2) (fun i _=>rfl)
theorem RK {h:Hp} {kind:Int} {w a b:Nat} {R:Value->Hp->Prop} (hk:kind=19\/kind=20) (ea:WO w a)
  (k:R (I ((if kind=19 then DL w a (b%w)else DL w a ((w-b%w)%w):Nat))) h):sm #[I kind,I w,I a,I b] h R:=by
 have hw:=ea.1
 have hm:b%w<w:=Nat.mod_lt _ (by omega)
 have key: ∀s:Nat,s<w->R (I (DL w a s)) h->(∀i,i<w->(if kind=20 then(i+w-b%w)%w else(i+b%w)%w)=(i+s)%w)->
   sm #[I kind,I w,I a,I b] h R:=by
  intro s hs k hto
  apply Nm
  refine uf_ ?_
  refine au w (fun i vs h'=>vs= [I kind,I w,I a,I b,I (dj w fun j=>decide ((j+(w-s))%w<i)&&a.testBit ((j+(w-s))%w)),I i]/\h'=h) ⟨?_,rfl⟩ ?_
  ·have:dj w (fun j=>decide ((j+(w-s))%w<0)&&a.testBit ((j+(w-s))%w))=0:=
    kL (bQ w) fun i _=>by simp
   rw [this];rfl
  rintro i _ h' next hi ⟨rfl,rfl⟩ hn
  refine⟨_,_,_,_,_,_,rfl,?_⟩
  by_cases hlt:i<w
  ·refine aM (by simp [hlt]) ?_
   have hn':=hn hlt _ _ ⟨rfl,rfl⟩
   have hst:=XV (a:=a) hs hlt
   have hto:=hto i hlt
   rw [if_neg (by omega),eP]
   have hpw:(i+s)%w<w:=Nat.mod_lt _ (by omega)
   refine ap (fun J=>J ((if kind=20 then i+w-b%w else i+b%w:Nat):Int)) ?_ ?_
   ·have ht:Int.tmod ((if kind=20 then i+w-b%w else i+b%w:Nat):Int) (w:Int)=(((i+s)%w:Nat):Int):=by
     rw [eP,<-hto]
     split<;>rfl
    rw [if_neg (by omega),ht,cY (by omega)]
    have step:W ((dj w (fun j=>decide ((j+(w-s))%w<i)&&a.testBit ((j+(w-s))%w)):Int)+aA (if a.testBit i then 1 else 0) (((i+s)%w:Nat):Int))=
      ((dj w (fun j=>decide ((j+(w-s))%w<i+1)&&a.testBit ((j+(w-s))%w)):Nat):Int):=by
     rw [PD (by omega),<-hst,<-Int.natCast_add,fW]
     rw [hst]
     have:=uT w (fun j=>decide ((j+(w-s))%w<i+1)&&a.testBit ((j+(w-s))%w))
     have:=Br hw.2
     omega
    have one:eE #[I a,I i] h' fun v25 h26=> ∃(x27:Int),v25=(I x27)/\(if(((i+s)%w:Nat):Int)<0 then False else next [I kind,I w,I a,I b,I (W ((dj w (fun j=>decide ((j+(w-s))%w<i)&&a.testBit ((j+(w-s))%w)):Int)+aA x27 (((i+s)%w:Nat):Int))),I (W ((i:Int)+1))] h26):=by
     refine jF (by omega) ⟨_,rfl,?_⟩
     rw [if_neg (by omega),step,ay (by omega)]
     exact hn'
    exact⟨one,one⟩
   ·intro J hJ
    refine ad (fun e=>?_) (fun e=>?_)
    ·rw [if_pos (bZ e)]at hJ
     rw [if_neg (by omega)]
     have:W (W ((i:Int)+w)-((b%w:Nat):Int))=((i+w-b%w:Nat):Int):=by rw [cd (n:=(i:Int)+w) (by omega) (by omega),cd (by omega) (by omega)];omega
     rw [this];exact hJ
    ·rw [if_neg (bA e)]at hJ
     have:W ((i:Int)+((b%w:Nat):Int))=((i+b%w:Nat):Int):=by rw [cd (by omega) (by omega)];omega
     rw [this];exact hJ
  ·have:i=w:=by omega
   subst this
   refine aC (by simp) ?_
   have:dj i (fun j=>decide ((j+(i-s))%i<i)&&a.testBit ((j+(i-s))%i))=DL i a s:=by
    rw [<-aaX ea.2 hs]
    refine wx fun j _=>?_
    have:decide ((j+(i-s))%i<i)=true:=by
     rw [decide_eq_true_eq];exact Nat.mod_lt _ (by omega)
    rw [this,Bool.true_and]
   rw [this];exact k
 rcases hk with rfl|rfl
 ·refine key (b%w) hm k fun i _=>?_
  rw [if_neg (by omega)]
 ·rw [if_neg (by omega)]at k
  refine key ((w-b%w)%w) (Nat.mod_lt _ (by omega)) k fun i _=>?_
  rw [if_pos rfl,Nat.add_mod_mod]
  congr 1
  omega
theorem B5 {b:Bool} {R:Value->Hp->Prop} {h:Hp} {c:Bool} (e:b=c) (k:R (.tuple #[.bool c, .bool true]) h):R (.tuple #[.bool b, .bool true]) h:=by rw [e];exact k
theorem SG {h:Hp} {kind:Int} {w a b:Nat} {R:Value->Hp->Prop} (ea:WO w a) (eb:WO w b)
  (k1:21<=kind/\kind<=28->R (.tuple #[.bool (AD kind w a b), .bool true]) h)
  (k2: ¬(21<=kind/\kind<=28)->R (.tuple #[.bool false, .bool false]) h):xk #[I kind,I w,I a,I b] h R:=by
 apply NE
 refine uf_ ?_
 have h16:=ea.pow
 have hp:=bQ w
 have sa:=Hq ea
 have sb:=Hq eb
 have ha:=ea.2
 have hb:=eb.2
 have hw:=ea.1
 have dd: ∀{p q:Prop} [Decidable p] [Decidable q],(p↔q)->decide p=decide q:=fun h=>by rw [decide_eq_decide];exact h
 refine jY ea ⟨_,rfl,jY eb ⟨_,rfl,?_⟩⟩
 refine ad (fun e=>?_) (fun e1=>?_)
 ·have e:=bZ e
  subst e
  refine B5 ?_ (k1 (by omega))
  show _=decide (a=b)
  rw [Bool.eq_iff_iff];simp;omega
 refine ad (fun e=>?_) (fun e2=>?_)
 ·have e:=bZ e
  subst e
  exact B5 (dd (by omega)) (k1 (by omega))
 refine ad (fun e=>?_) (fun e3=>?_)
 ·have e:=bZ e
  subst e
  exact k1 (by omega)
 refine ad (fun e=>?_) (fun e4=>?_)
 ·have e:=bZ e
  subst e
  exact B5 (dd (by omega)) (k1 (by omega))
 refine ad (fun e=>?_) (fun e5=>?_)
 ·have e:=bZ e
  subst e
  exact k1 (by omega)
 refine ad (fun e=>?_) (fun e6=>?_)
 ·have e:=bZ e
  subst e
  have hab:W ((a:Int)+b)=((a+b:Nat):Int):=by rw [cd (by omega) (by omega)];omega
  rw [hab]
  refine cO ⟨_,rfl,?_⟩
  refine B5 ?_ (k1 (by omega))
  show _=decide (2^w<=a+b)
  rw [Bool.eq_iff_iff]
  have:=ib (w:=(w:Int)) (v:=((a+b:Nat):Int))
  rw [Int.toNat_natCast]at this
  simp only [Bool.not_eq_true',decide_eq_true_eq,<-Bool.not_eq_true,this]
  omega
 refine ad (fun e=>?_) (fun e7=>?_)
 ·have e:=bZ e
  subst e
  rw [cd (by omega) (by omega)]
  refine jv hw ⟨_,rfl,jY ⟨hw,kV _ _⟩ ⟨_,rfl,?_⟩⟩
  refine B5 ?_ (k1 (by omega))
  show _= !decide (-((2^(w-1):Nat):Int)<=sgn w a+sgn w b/\sgn w a+sgn w b<((2^(w-1):Nat):Int))
  have:=ahZ (a:=a) (b:=b) hw.1
  rw [Bool.eq_iff_iff,bne_iff_ne,this,Bool.not_eq_true',decide_eq_false_iff_not]
 refine ad (fun e=>?_) (fun e8=>?_)
 ·have e:=bZ e
  subst e
  have hmul:=EF (a:=a) (b:=b) (by omega) (by omega)
  have hmi:(a:Int)*(b:Int)=((a*b:Nat):Int):=(Int.natCast_mul _ _).symm
  rw [hmi,fW (by omega)]
  refine cO ⟨_,rfl,?_⟩
  refine B5 ?_ (k1 (by omega))
  show _=decide (2^w<=a*b)
  rw [Bool.eq_iff_iff]
  have:=ib (w:=(w:Int)) (v:=((a*b:Nat):Int))
  rw [Int.toNat_natCast]at this
  simp only [Bool.not_eq_true',decide_eq_true_eq,<-Bool.not_eq_true,this]
  generalize a*b=ab at*
  omega
 ·have:=bA e1;have:=bA e2;have:=bA e3;have:=bA e4;have:=bA e5;have:=bA e6;have:=bA e7;have:=bA e8
  exact k2 (by omega)
theorem Ej {h:Hp} {kind:Int} {w a b:Nat} {R:Value->Hp->Prop} (hk:6<=kind/\kind<=28) (ea:WO w a) (eb:WO w b)
  (k:R (.tuple #[I (qt kind w a b).1,I (qt kind w a b).2, .bool true]) h):qS #[I kind,I w,I a,I b] h R:=by
 apply LH
 refine uf_ ?_
 have h16:=ea.pow
 have hp:=bQ w
 have ha:=ea.2
 have hb:=eb.2
 have hw:=ea.1
 have hmul:=EF (a:=a) (b:=b) (by omega) (by omega)
 refine ap (fun J=>J false h) ?_ (fun J hJ=>cO ⟨_,rfl,aC (by rw [ea.ok];rfl) (cO ⟨_,rfl,by rw [eb.ok];exact hJ⟩)⟩)
 refine aC rfl (SG ea eb (fun h21=>⟨_,_,rfl,aM rfl (we ⟨_,rfl,?_⟩)⟩) (fun h21=>⟨_,_,rfl,aC rfl ?_⟩))
 ·have t:qt kind w a b=(if AD kind w a b then 1 else 0,1):=by unfold qt;rw [if_neg (by omega)]
  rw [t]at k
  cases hs:AD kind w a b
  ·rw [hs]at k;simpa using k
  ·rw [hs]at k;simpa using k
 have t:qt kind w a b=(BH kind w a b,w):=by unfold qt;rw [if_pos (by omega)]
 rw [t]at k
 unfold BH at k
 simp only at k
 refine ap (fun J=>J (decide (kind=6\/kind=7\/kind=8))) ?_ ?_
 rotate_left
 ·intro J hJ
  refine ad (fun e=>?_) (fun e=>ad (fun e2=>?_) (fun e2=>?_))
  ·rw [decide_eq_true (.inl (bZ e))]at hJ;exact hJ
  ·rw [decide_eq_true (.inr (.inl (bZ e2)))]at hJ;exact hJ
  ·have:(kind==8)=decide (kind=6\/kind=7\/kind=8):=by
    have h1:=bA e
    have h2:=bA e2
    rw [Bool.eq_iff_iff];simp [h1,h2]
   rw [this];exact hJ
 refine ad (fun e=>?_) (fun e678=>?_)
 ·have e':kind=6\/kind=7\/kind=8:=by simpa using e
  refine Su hw.2 ⟨_,rfl,?_⟩
  rcases e' with rfl|rfl|rfl
  ·rw [if_pos rfl,<-Mo ha]at k;exact k
  ·rw [if_neg (by decide),if_pos rfl,<-Wk ha hb]at k;exact k
  ·rw [if_neg (by decide),if_neg (by decide),if_pos rfl,<-abk ha hb]at k;exact k
 have n6: ¬kind=6/\ ¬kind=7/\ ¬kind=8:=by simpa using e678
 rw [if_neg n6.1,if_neg n6.2.1,if_neg n6.2.2]at k
 refine ad (fun e=>?_) (fun e9=>?_)
 ·rw [if_pos (bZ e)]at k
  rw [cd (by omega) (by omega)]
  exact jv hw ⟨_,rfl,k⟩
 rw [if_neg (bA e9)]at k
 refine ad (fun e=>?_) (fun e10=>?_)
 ·rw [if_pos (bZ e)]at k
  rw [cd (by omega) (by omega)]
  exact jv hw ⟨_,rfl,k⟩
 rw [if_neg (bA e10)]at k
 refine ad (fun e=>?_) (fun e11=>?_)
 ·rw [if_pos (bZ e)]at k
  have hmi:(a:Int)*(b:Int)=((a*b:Nat):Int):=(Int.natCast_mul _ _).symm
  rw [hmi]at k⊢
  generalize a*b=ab at*
  rw [fW (by omega)]
  exact jv hw ⟨_,rfl,k⟩
 rw [if_neg (bA e11)]at k
 refine ap (fun J=>J (decide (kind=12\/kind=13))) ?_ ?_
 rotate_left
 ·intro J hJ
  refine ad (fun e=>?_) (fun e=>?_)
  ·rw [decide_eq_true (.inl (bZ e))]at hJ;exact hJ
  ·have:(kind==13)=decide (kind=12\/kind=13):=by
    have:=bA e
    rw [Bool.eq_iff_iff];simp [this]
   rw [this];exact hJ
 refine ad (fun e=>?_) (fun e1213=>?_)
 ·have e':kind=12\/kind=13:=by simpa using e
  refine Us ea eb ⟨_,rfl,?_⟩
  rcases e' with rfl|rfl
  ·simpa using k
  ·simpa using k
 have n12: ¬kind=12/\ ¬kind=13:=by simpa using e1213
 rw [if_neg n12.1,if_neg n12.2]at k
 refine ap (fun J=>J (decide (kind=14\/kind=15))) ?_ ?_
 rotate_left
 ·intro J hJ
  refine ad (fun e=>?_) (fun e=>?_)
  ·rw [decide_eq_true (.inl (bZ e))]at hJ;exact hJ
  ·have:(kind==15)=decide (kind=14\/kind=15):=by
    have:=bA e
    rw [Bool.eq_iff_iff];simp [this]
   rw [this];exact hJ
 refine ad (fun e=>?_) (fun e1415=>?_)
 ·have e':kind=14\/kind=15:=by simpa using e
  refine Sw e' ea eb ⟨_,rfl,?_⟩
  rcases e' with rfl|rfl
  ·simpa using k
  ·simpa using k
 have n14: ¬kind=14/\ ¬kind=15:=by simpa using e1415
 rw [if_neg n14.1,if_neg n14.2]at k
 refine ap (fun J=>J (decide (kind=16\/kind=17\/kind=18))) ?_ ?_
 rotate_left
 ·intro J hJ
  refine ad (fun e=>?_) (fun e=>ad (fun e2=>?_) (fun e2=>?_))
  ·rw [decide_eq_true (.inl (bZ e))]at hJ;exact hJ
  ·rw [decide_eq_true (.inr (.inl (bZ e2)))]at hJ;exact hJ
  ·have:(kind==18)=decide (kind=16\/kind=17\/kind=18):=by
    have h1:=bA e
    have h2:=bA e2
    rw [Bool.eq_iff_iff];simp [h1,h2]
   rw [this];exact hJ
 refine ad (fun e=>?_) (fun e1618=>?_)
 ·have e':kind=16\/kind=17\/kind=18:=by simpa using e
  refine QE e' ea (by omega) ⟨_,rfl,?_⟩
  unfold GO
  rcases e' with rfl|rfl|rfl
  ·simpa using k
  ·simpa using k
  ·simpa using k
 have n16: ¬kind=16/\ ¬kind=17/\ ¬kind=18:=by simpa using e1618
 rw [if_neg n16.1,if_neg n16.2.1,if_neg n16.2.2]at k
 have h1920:kind=19\/kind=20:=by
  have:=bA e9;have:=bA e10;have:=bA e11
  omega
 refine ap (fun J=>J true) ?_ ?_
 rotate_left
 ·intro J hJ
  refine ad (fun e=>hJ) (fun e=>?_)
  have:(kind==20)=true:=by
   have:=bA e
   rw [beq_iff_eq];omega
  rw [this];exact hJ
 refine aM rfl (RK h1920 ea ⟨_,rfl,k⟩)
theorem abW {w a more:Nat} {sign:Bool} (e:WO w a):EW w a more sign<2^(w+more):=by
 unfold EW
 cases sign
 ·have:=e.2
  have:2^w<=2^(w+more):=Nat.pow_le_pow_right (by omega) (by omega)
  rw [if_neg (by decide)];omega
 ·exact kV _ _
theorem Pi {h:Hp} {w a more:Nat} {s:Bool} {R:Value->Hp->Prop} (e:WO w a) (hm:w+more<=16)
  (k:R (I (EW w a more s)) h):AI #[I w,I a,I more, .bool s] h R:=by
 apply Sv
 refine uf_ ?_
 unfold EW at k
 refine ad (fun es=>?_) (fun es=>?_)
 ·rw [if_pos es]at k
  refine qg e ⟨_,rfl,?_⟩
  rw [show W ((w:Int)+more)=((w+more:Nat):Int) by rw [cd (by omega) (by omega)];omega]
  refine dF (by omega) ⟨_,rfl,?_⟩
  rw [ia (by omega)];exact k
 ·rw [if_neg (by rw [es];decide)]at k;exact k
theorem M0 {h:Hp} {w a more:Nat} {s:Bool} {R:Value->Hp->Prop} (e:WO w a) (hm:w+more<=16)
  (k:R (.tuple #[I (EW w a more s),I ((w+more:Nat):Int), .bool true]) h):lQ #[I w,I a,I more, .bool s] h R:=by
 apply Aa
 refine uf_ ?_
 unfold EW at k
 have hw:W ((w:Int)+more)=((w+more:Nat):Int):=by rw [cd (by omega) (by omega)];omega
 have h1:=e.1
 refine ap (fun J=>J false h) ?_ (fun J hJ=>cO ⟨_,rfl,aC (by rw [e.ok];rfl) (aC (by simp) ?_)⟩)
 ·refine aC rfl (ad (fun es=>?_) (fun es=>?_))
  ·rw [if_pos es]at k
   rw [hw]
   exact jY e ⟨_,rfl,jv (by omega) ⟨_,rfl,k⟩⟩
  ·rw [if_neg (by rw [es];decide)]at k
   rw [hw];exact k
 ·rw [cd (by omega) (by omega),show decide ((more:Int)>16-(w:Int))=false by rw [decide_eq_false_iff_not];omega];exact hJ
theorem Nz {h:Hp} {w a u b:Nat} {R:Value->Hp->Prop} (ea:WO w a) (eb:WO u b) (hm:w+u<=16)
  (k:R (.tuple #[I ((a*2^u+b:Nat):Int),I ((w+u:Nat):Int), .bool true]) h):lP #[I w,I a,I u,I b] h R:=by
 apply Af
 refine uf_ ?_
 have hw:W ((w:Int)+u)=((w+u:Nat):Int):=by rw [cd (by omega) (by omega)];omega
 have h1:=ea.1
 have h2:=eb.1
 have ha:=ea.2
 have hb:=eb.2
 have h16a:=ea.pow
 have h16b:=eb.pow
 have hmul:=EF (a:=a) (b:=2^u) (by omega) (by omega)
 refine ap (fun J=>J false h) ?_ (fun J hJ=>cO ⟨_,rfl,aC (by rw [ea.ok];rfl) (cO ⟨_,rfl,aC (by rw [eb.ok];rfl) ?_⟩)⟩)
 ·rw [cY (by omega)]
  refine aC rfl ?_
  rw [if_neg (by omega),jj (by omega) (by omega),hw,<-Int.natCast_add,fW (by omega)];exact k
 ·rw [hw,show decide (((w+u:Nat):Int)>16)=false by rw [decide_eq_false_iff_not];omega];exact hJ
theorem Ln {h:Hp} {w a hi lo:Nat} {R:Value->Hp->Prop} (ea:WO w a) (h1:lo<=hi) (h2:hi<w)
  (k:R (.tuple #[I ((a/2^lo%2^(hi-lo+1):Nat):Int),I ((hi-lo+1:Nat):Int), .bool true]) h):kI #[I w,I a,I hi,I lo] h R:=by
 apply yb
 refine uf_ ?_
 have e0:=ea.1
 have hw:W (W ((hi:Int)-lo)+1)=((hi-lo+1:Nat):Int):=by rw [cd (n:=(hi:Int)-lo) (by omega) (by omega),cd (by omega) (by omega)];omega
 have e1:=ea.1
 have hp:=bQ (hi-lo+1)
 refine ap (fun J=>J false h) ?_ (fun J hJ=>cO ⟨_,rfl,aC (by rw [ea.ok];rfl) (aC (by simp) (aC (by simp;omega) ?_))⟩)
 ·refine aC rfl ?_
  rw [hw,cY (by omega),cY (by omega),if_neg (by omega),if_neg (by omega),cw (by omega),if_neg (by omega),jI (by omega),eP]
  exact k
 ·rw [show decide ((hi:Int)>=(w:Int))=false by rw [decide_eq_false_iff_not];omega];exact hJ
theorem aj {h:Hp} {cs:Nat->List Value} {n:Nat->Nat} {P:Nat->Hp->Prop}
  (k: ∀b h',h b=none->h.le h'->h' b=some (.inl ⟨cs b,n b,false⟩)->P b h'): ∀b,h b=none->cM (h.row b (cs b) (n b)) fun h'=>P b h':=
 fun b hb=>k b _ hb (gn _ _ hb) (bU _ _ _ _)
theorem dL {b c:Bool} {R:Value->Hp->Prop} {h:Hp} (e:b=c) (k:R (.bool c) h):R (.bool b) h:=by rw [e];exact k
theorem tO {b c:Int} {R:Value->Hp->Prop} {h:Hp} (e:b=c) (k:R (I c) h):R (I b) h:=by rw [e];exact k
theorem agD {P:Bool->Prop} {c b:Bool} (k:P (c&&b)):ac c (P b) (P false):=by cases c<;>exact k
theorem aij {P:Bool->Prop} {c b:Bool} (k:P (c||b)):ac c (P true) (P b):=by cases c<;>exact k
abbrev uq (s:SortP):Value:= .agg #[I s.idx,I s.wid]
abbrev wD (n:NodeP):Value:= .agg #[I n.kind,I n.a,I n.b,I n.c,I n.n,I n.m,I n.sort.idx,I n.sort.wid, .string n.name]
abbrev wJ (b:BindP):Value:= .agg #[I b.state,I b.node]
theorem Kq (s:SortP):bW s=(decide (0<=s.idx/\s.idx<=2)&&decide (1<=s.wid/\s.wid<=16)):=by
 unfold bW;rw [Bool.eq_iff_iff];simp
theorem bD {s:SortP}:bW s=true↔(0<=s.idx/\s.idx<=2)/\(1<=s.wid/\s.wid<=16):=by
 unfold bW;simp
theorem sd {h:Hp} {i w:Int} {R:Value->Hp->Prop} (k:R (.bool (bW ⟨i,w⟩)) h):ph #[.agg #[I i,I w]] h R:=by
 refine ACalls.drop (NA ?_)
 refine uf_ ?_
 refine aj fun b h1 hb l1 f1=>?_
 simp only [vm,mm,ax f1]
 rw [Kq]at k
 refine gU ⟨_,rfl,ad (fun e=>?_) (fun e=>⟨_,l1,dL ?_ k⟩)⟩
 ·simp only [vm,mm,ax f1]
  exact Fp ⟨_,rfl,⟨_,l1,dL (by simp only [e,Bool.true_and]) k⟩⟩
 ·simp only [e,Bool.false_and]
theorem sj {h:Hp} {i w:Int} {R:Value->Hp->Prop} (k:R (.bool (bW ⟨i,w⟩)) h):pz #[.agg #[I i,I w]] h R:=by
 refine ACalls.drop (Na ?_)
 refine uf_ ?_
 refine aj fun b h1 hb l1 f1=>?_
 simp only [vm,mm,ax f1]
 rw [Kq]at k
 refine ey ⟨_,rfl,ad (fun e=>?_) (fun e=>⟨_,l1,dL ?_ k⟩)⟩
 ·simp only [vm,mm,ax f1]
  exact zg ⟨_,rfl,⟨_,l1,dL (by simp only [e,Bool.true_and]) k⟩⟩
 ·simp only [e,Bool.false_and]
theorem zU (s:SortP):dg s<=4:=by
 unfold dg
 split
 ·rename_i e
  have:=bD.1 e
  have:=Nat.pow_le_pow_right (n:=2) (by omega) (show s.idx.toNat<=2 by omega)
  simpa using this
 ·omega
theorem oK {h:Hp} {i w:Int} {R:Value->Hp->Prop} (k:R (I (dg ⟨i,w⟩)) h):kP #[.agg #[I i,I w]] h R:=by
 refine ACalls.drop (Gm ?_)
 refine uf_ ?_
 refine aj fun b h1 hb l1 f1=>?_
 simp only [vm,mm,ax f1]
 unfold dg at k
 refine sd ⟨_,rfl,ad (fun e=>⟨_,l1,?_⟩) (fun e=>?_)⟩
 ·rw [if_neg (by simpa using e)]at k;exact k
 ·have e':bW ⟨i,w⟩=true:=by simpa using e
  have:=bD.1 e'
  rw [if_pos e']at k
  simp only [vm,mm,ax f1]
  obtain⟨n,rfl⟩: ∃n:Nat,i=n:=⟨i.toNat,by simp only at this;omega⟩
  simp only at this
  rw [if_neg (by omega),cw (by omega)]
  exact⟨_,l1,k⟩
theorem gH {h:Hp} {i w:Int} {R:Value->Hp->Prop} (k:R (I (dg ⟨i,w⟩)) h):gi #[.agg #[I i,I w]] h R:=by
 refine ACalls.drop (Gx ?_)
 refine uf_ ?_
 refine aj fun b h1 hb l1 f1=>?_
 simp only [vm,mm,ax f1]
 unfold dg at k
 refine sj ⟨_,rfl,ad (fun e=>⟨_,l1,?_⟩) (fun e=>?_)⟩
 ·rw [if_neg (by simpa using e)]at k;exact k
 ·have e':bW ⟨i,w⟩=true:=by simpa using e
  have:=bD.1 e'
  rw [if_pos e']at k
  simp only [vm,mm,ax f1]
  obtain⟨n,rfl⟩: ∃n:Nat,i=n:=⟨i.toNat,by simp only at this;omega⟩
  simp only at this
  rw [cY (by omega),if_neg (by omega),cw (by omega)]
  exact⟨_,l1,k⟩
theorem Bv (s:SortP):dT s<=64:=by
 unfold dT
 by_cases e:bW s=true
 ·have:=bD.1 e
  have h1:=zU s
  have:=Nat.mul_le_mul h1 (show s.wid.toNat<=16 by omega)
  omega
 ·have:dg s=0:=by unfold dg;rw [if_neg e]
  rw [this];omega
theorem E3 {s:SortP} {x:Int} (hx:bW s=true->x=s.wid):(dg s:Int)*x=((dT s:Nat):Int):=by
 unfold dT
 by_cases e:bW s=true
 ·have:=bD.1 e
  rw [hx e,Int.natCast_mul]
  congr 1
  omega
 ·have:dg s=0:=by unfold dg;rw [if_neg e]
  rw [this];simp
theorem pP {h:Hp} {i w:Int} {R:Value->Hp->Prop} (k:R (I (dT ⟨i,w⟩)) h):lO #[.agg #[I i,I w]] h R:=by
 refine ACalls.drop (Ip ?_)
 refine uf_ ?_
 refine aj fun b h1 hb l1 f1=>?_
 simp only [vm,mm,ax f1]
 refine oK ⟨_,rfl,rfl,⟨_,l1,tO ?_ k⟩⟩
 have:=Bv ⟨i,w⟩
 rw [E3,fW (by omega)]
 intro e
 have:=bD.1 e
 simp only at this⊢
 split<;>split<;>omega
theorem jM {h:Hp} {i w:Int} {R:Value->Hp->Prop} (k:R (I (dT ⟨i,w⟩)) h):jc #[.agg #[I i,I w]] h R:=by
 refine ACalls.drop (H3 ?_)
 refine uf_ ?_
 refine aj fun b h1 hb l1 f1=>?_
 simp only [vm,mm,ax f1]
 refine gH ⟨_,rfl,rfl,⟨_,l1,tO ?_ k⟩⟩
 have:=Bv ⟨i,w⟩
 rw [E3 (fun _=>rfl),fW (by omega)]
theorem jD {α:Sort _} (c:α) (k:α->Prop):aN c k=k c:=rfl
theorem zA {P:Prop} (k:P:=by((try rw [Bool.eq_iff_iff]);((try simp only [decide_eq_true_eq,decide_eq_false_iff_not,beq_iff_eq,beq_eq_false_iff_ne,bne_iff_ne,bne_eq_false_iff_eq,ne_eq,Bool.not_eq_true',Bool.not_eq_false',Bool.and_eq_true,Bool.or_eq_true,Bool.true_and,Bool.false_and,Bool.and_true,Bool.and_false,Bool.true_or,Bool.false_or,reduceCtorEq,iff_false,iff_true,false_iff,true_iff,Bool.not_true,Bool.not_false]at*));try ((repeat' split)<;>omega))):P:=k
theorem gP {α:Sort _} {b c:α} {J:α->Prop} (e:b=c) (k:J c):J b:=by rw [e];exact k
theorem dZ {h:Hp} {kind:Int} {R:Value->Hp->Prop} (k:R (I (ai kind)) h):fU #[I kind] h R:=by
 apply PJ
 refine uf_ ?_
 simp only [jD]
 repeat' (first|(with_reducible first|refine aM (b:=true) rfl ?_|refine aC (b:=false) rfl ?_|refine ad (fun _=>?_) fun _=>?_)|(refine gU ⟨_,rfl,?_⟩)|(refine tO ?_ k))
 all_goals (clear k;unfold ai;(exact zA))
theorem lA {h:Hp} {kind:Int} {R:Value->Hp->Prop} (k:R (I (ai kind)) h):iU #[I kind] h R:=by
 apply KY
 refine uf_ ?_
 refine ap (fun J=>J (decide ((1<=kind/\kind<=5)\/(30<=kind/\kind<=32)))) ?_ (fun J hJ=>?_)
 rotate_left
 ·clear k;repeat' (first|(with_reducible first|refine aM (b:=true) rfl ?_|refine aC (b:=false) rfl ?_|refine ad (fun _=>?_) fun _=>?_)|(refine gP ?_ hJ))
  all_goals (clear hJ;(exact zA))
 (with_reducible first|refine aM (b:=true) rfl ?_|refine aC (b:=false) rfl ?_|refine ad (fun _=>?_) fun _=>?_)
 ·refine tO ?_ k;clear k;unfold ai;(exact zA)
 refine ap (fun J=>J (decide ((6<=kind/\kind<=29)\/kind=37))) ?_ (fun J hJ=>?_)
 rotate_left
 ·clear k;repeat' (first|(with_reducible first|refine aM (b:=true) rfl ?_|refine aC (b:=false) rfl ?_|refine ad (fun _=>?_) fun _=>?_)|(refine gP ?_ hJ))
  all_goals (clear hJ;(exact zA))
 (with_reducible first|refine aM (b:=true) rfl ?_|refine aC (b:=false) rfl ?_|refine ad (fun _=>?_) fun _=>?_)
 ·refine tO ?_ k;clear k;unfold ai;(exact zA)
 simp only [jD]
 repeat' (first|(with_reducible first|refine aM (b:=true) rfl ?_|refine aC (b:=false) rfl ?_|refine ad (fun _=>?_) fun _=>?_)|(refine tO ?_ k))
 all_goals (clear k;unfold ai;(exact zA))
theorem Lf {h:Hp} {kind:Int} {R:Value->Hp->Prop} (k:R (.bool (cX kind)) h):dI #[I kind] h R:=by
 apply QD
 refine uf_ ?_
 refine aij (P:=fun b=>R (.bool b) h) (dL ?_ k)
 unfold cX
 rw [Bool.eq_iff_iff];simp
theorem PW (s:ByteArray) (i:Nat):s[i]?=s.data.toList[i]?:=by
 rcases s with ⟨⟨l⟩⟩
 by_cases h:i<l.length
 ·rw [getElem?_pos _ i (show i<(ByteArray.mk ⟨l⟩).size from h)]
  simp only [List.getElem?_eq_getElem h]
  rfl
 ·rw [getElem?_neg _ i (show¬i<(ByteArray.mk ⟨l⟩).size from h)]
  simp only [List.getElem?_eq_none (Nat.le_of_not_lt h)]
theorem Eh (s:ByteArray):s.size=s.data.toList.length:=by rcases s with ⟨⟨l⟩⟩;rfl
theorem IE {s:ByteArray} {i:Nat} (h:i<s.size): ∃c,s[i]?=some c:=by
 rw [PW];rw [Eh]at h
 exact⟨_,List.getElem?_eq_getElem h⟩
theorem Eu (s:ByteArray):(ByteArray.toList s==ByteArray.toList ⟨#[]⟩)=decide (s.size=0):=by
 rcases s with ⟨⟨l⟩⟩
 rw [nM,show (⟨#[]⟩:ByteArray)=⟨List.toArray []⟩from rfl,nM,Eh,Bool.eq_iff_iff]
 simp
theorem te {s:ByteArray}:gD s=true↔(1<=s.size/\s.size<=8)/\ ∀(j:Nat) (c:UInt8),s[j]?=some c->jm c=true\/(j≠0/\qv c=true):=by
 unfold gD
 simp only [PW]
 have hs:=Eh s
 generalize s.data.toList=l at*
 rw [Bool.and_eq_true,decide_eq_true_eq]
 refine and_congr_right fun h1=>?_
 cases l with
 |nil=>have:s.size=0:=hs;omega
 |cons c r=>
  simp only [Bool.and_eq_true,List.all_eq_true,Bool.or_eq_true]
  constructor
  ·rintro ⟨h2,h3⟩ j d hd
   cases j with
   |zero=>simp at hd;subst hd;exact .inl h2
   |succ j=>
    simp only [List.getElem?_cons_succ]at hd
    exact(h3 d (List.mem_of_getElem? hd)).imp id fun h=>⟨by omega,h⟩
  ·intro h
   refine⟨?_,fun d hd=>?_⟩
   ·rcases h 0 c rfl with h|h
    ·exact h
    ·exact absurd rfl h.1
   ·obtain⟨j,hj,rfl⟩:=List.getElem_of_mem hd
    rcases h (j+1) r[j] (by simp)with h|h
    ·exact .inl h
    ·exact .inr h.2
theorem yS {s:ByteArray} {j:Nat} {c:UInt8} (e:s[j]?=some c) (h1:jm c=false) (h2:j=0\/qv c=false):gD s=false:=by
 rw [Bool.eq_false_iff]
 intro h
 rcases (te.1 h).2 j c e with h|h
 ·rw [h1]at h;cases h
 ·rcases h2 with h2|h2
  ·exact h.1 h2
  ·rw [h2]at h;cases h.2
theorem Nv {h:Hp} {c:UInt8} {R:Value->Hp->Prop} (k:R (.bool (jm c)) h):t9 #[.int .u8 ((UInt8.toNat c:Nat):Int)] h R:=by
 apply HU
 refine uf_ ?_
 refine agD (P:=fun b=>R (.bool b) h) (dL ?_ k)
 unfold jm
 (exact zA)
theorem FK {h:Hp} {s:ByteArray} {R:Value->Hp->Prop} (k:R (.bool (gD s)) h) (hsz:s.size<9223372036854775807):kg #[.string s] h R:=by
 apply N3
 refine uf_ ?_
 refine au s.size (fun i vs h'=>(∀(j:Nat) (c:UInt8),j<i->s[j]?=some c->jm c=true\/(j≠0/\qv c=true))/\vs= [.string s,I s.size,I i]/\h'=h) ⟨fun j c hj=>by omega,rfl,rfl⟩ ?_
 rintro i _ h' next hi ⟨hg,rfl,rfl⟩ hn
 refine⟨_,_,_,rfl,?_⟩
 by_cases hlt:i<s.size
 ·obtain⟨c,hc⟩:=IE hlt
  refine aM (by simp [hlt]) ?_
  simp only [vm]
  have hnext:jm c=true\/(i≠0/\qv c=true)->next [.string s,I s.size,I (W ((i:Int)+1))] h':=by
   intro hgood
   rw [ay (by omega)]
   refine hn hlt _ _ ⟨fun j d hj hd=>?_,rfl,rfl⟩
   by_cases hji:j=i
   ·subst hji;rw [hc]at hd;cases hd;exact hgood
   ·exact hg j d (by omega) hd
  refine⟨c,hc,Nv ⟨_,rfl,ad (fun e=>ad (fun e2=>?_) (fun e2=>⟨c,hc,ad (fun e3=>?_) (fun e3=>⟨c,hc,ad (fun e4=>?_) (fun e4=>hnext ?_)⟩)⟩)) (fun e=>hnext (.inl (by simpa using e)))⟩⟩
  ·exact dL (yS hc (by simpa using e) (.inl (by simp at e2;omega))).symm k
  ·exact dL (yS hc (by simpa using e) (.inr (by unfold qv;simp at e3⊢;omega))).symm k
  ·exact dL (yS hc (by simpa using e) (.inr (by unfold qv;simp at e4⊢;omega))).symm k
  ·refine .inr ⟨by simp at e2;omega,?_⟩
   unfold qv;simp at e3 e4⊢;omega
 ·refine aC (by simp;omega) (gU ⟨_,rfl,dL ?_ k⟩)
  have:= @te s
  rw [Bool.eq_iff_iff,this,decide_eq_true_eq]
  constructor
  ·intro hh
   refine⟨by omega,fun j c hc=>hg j c ?_ hc⟩
   ·rcases Nat.lt_or_ge j s.size with h|h
    ·omega
    ·rw [PW,List.getElem?_eq_none (by rw [<-Eh];exact h)]at hc;cases hc
  ·rintro ⟨hh,_⟩;omega
theorem GY {h:Hp} {s:ByteArray} {R:Value->Hp->Prop} (k:R (.bool (gD s)) h):sJ #[.string s] h R:=by
 apply NN
 refine uf_ ?_
 refine ap (fun J=>J (!(decide (1<=s.size/\s.size<=8)&&(match s[0]? with|some c=>jm c|none=>false))) h) ?_ (fun J hJ=>?_)
 rotate_left
 ·refine ey ⟨_,rfl,ad (fun e=>?_) (fun e=>?_)⟩
  ·rw [show decide (1<=s.size/\s.size<=8)=false by rw [decide_eq_false_iff_not];simp at e;omega,Bool.false_and]at hJ
   exact hJ
  ·have e':1<=s.size/\s.size<=8:=by simp at e;omega
   obtain⟨c,hc⟩:=IE (s:=s) (i:=0) (by omega)
   rw [decide_eq_true e',Bool.true_and,hc]at hJ
   simp only at hJ
   refine⟨by omega,c,hc,ad (fun e=>?_) (fun e=>⟨by omega,c,hc,?_⟩)⟩
   ·exact gP (J:=fun b=>J b h) (by unfold jm;(exact zA)) hJ
   ·exact gP (J:=fun b=>J b h) (by unfold jm;(exact zA)) hJ
 refine ad (fun e=>dL ?_ k) (fun e=>?_)
 ·symm
  rw [Bool.eq_false_iff]
  intro hn
  have hh:=te.1 hn
  obtain⟨c,hc⟩:=IE (s:=s) (i:=0) (by omega)
  rw [decide_eq_true hh.1,hc]at e
  rcases hh.2 0 c hc with h1|h1
  ·simp [h1]at e
  ·exact absurd rfl h1.1
 have e':(1<=s.size/\s.size<=8)/\ ∀c,s[0]?=some c->jm c=true:=by
  simp only [Bool.not_eq_false',Bool.and_eq_true,decide_eq_true_eq]at e
  refine⟨e.1,fun c hc=>?_⟩
  have:=e.2;rw [hc]at this;exact this
 refine au s.size (fun i vs h'=>(∀(j:Nat) (c:UInt8),j<i->s[j]?=some c->jm c=true\/qv c=true)/\vs= [.string s,I i]/\h'=h) ⟨fun j c hj=>by omega,rfl,rfl⟩ ?_
 rintro i _ h' next hi ⟨hg,rfl,rfl⟩ hn
 refine⟨_,_,rfl,?_⟩
 by_cases hlt:i<s.size
 ·obtain⟨c,hc⟩:=IE hlt
  refine aM (by simp [hlt]) ?_
  simp only [vm]
  have hnext:jm c=true\/qv c=true->next [.string s,I (W ((i:Int)+1))] h':=by
   intro hgood
   rw [ay (by omega)]
   refine hn hlt _ _ ⟨fun j d hj hd=>?_,rfl,rfl⟩
   by_cases hji:j=i
   ·subst hji;rw [hc]at hd;cases hd;exact hgood
   ·exact hg j d (by omega) hd
  have hbad:jm c=false->qv c=false->R (.bool false) h':=fun h1 h2=>dL (yS hc h1 (.inr h2)).symm k
  have two: ∀(hl:jm c=false),(ac (decide (((UInt8.toNat c:Nat):Int)>=48)) (∃c32:UInt8,s[i]?=some c32/\(ac (!(decide (((UInt8.toNat c32:Nat):Int)<=57))) (R (.bool false) h') (next [(.string s),(I (W ((i:Int)+1)))] h'))) (R (.bool false) h')):=by
   intro hl
   refine ad (fun e=>⟨c,hc,ad (fun e2=>hbad hl ?_) (fun e2=>hnext (.inr ?_))⟩) (fun e=>hbad hl ?_)
   ·unfold qv;simp at e2⊢;omega
   ·unfold qv;simp at e e2⊢;omega
   ·unfold qv;simp at e⊢;omega
  refine⟨c,hc,ad (fun e=>⟨c,hc,ad (fun e2=>hnext (.inl ?_)) (fun e2=>⟨c,hc,two ?_⟩)⟩) (fun e=>⟨c,hc,two ?_⟩)⟩
  ·unfold jm;simp at e e2⊢;omega
  ·unfold jm;simp at e2⊢;omega
  ·unfold jm;simp at e⊢;omega
 ·refine aC (by simp;omega) (dL ?_ k)
  symm
  refine te.2 ⟨e'.1,fun j c hc=>?_⟩
  have hj:j<s.size:=by
   rcases Nat.lt_or_ge j s.size with h|h
   ·omega
   ·rw [PW,List.getElem?_eq_none (by rw [<-Eh];exact h)]at hc;cases hc
  rcases hg j c (by omega) hc with h1|h1
  ·exact .inl h1
  ·by_cases h0:j=0
   ·subst h0;exact .inl (e'.2 c hc)
   ·exact .inr ⟨h0,h1⟩
theorem rd :(∀(v:Value) r,(v::r)[0]?=some v)/\(∀(v:Value) r (i:Nat),(v::r)[i+1]?=r[i]?)/\
  (∀(cs:List Value) (n:Nat) (ro:Bool) (p:List Value->Nat->Prop),
   (∃(cs':List Value) (n':Nat),some (Sum.inl (Row.mk cs n ro):Blk)=some (Sum.inl (Row.mk cs' n' ro))/\p cs' n')=p cs n)/\
  (∀cs o,bX cs o []=cs)/\(∀cs o v r,bX cs o (v::r)=bX (cs.set o v) (o+1) r)/\
  (∀(v w:Value) r,(v::r).set 0 w=w::r)/\(∀(v w:Value) r (i:Nat),(v::r).set (i+1) w=v::r.set i w)/\
  (∀(v:Value) r,(v::r).length=r.length+1)/\([]:List Value).length=0:=
 ⟨fun _ _=>rfl,fun _ _ _=>rfl,abm,Lr,r6,fun _ _ _=>rfl,fun _ _ _ _=>rfl,fun _ _=>rfl,rfl⟩
theorem ac3 {h:Hp} {b z o:Nat} {cs:List Value} {ro:Bool} {x:Int} {P:Int->Prop} (f:h b=some (.inl ⟨cs,z,ro⟩)) (e:cs[o]?=some (I x)) (k:P x): ∃y:Int,Hp.cell h b o=some (I y)/\P y:=
 ⟨x,by rw [ax f];exact e,k⟩
theorem acW {h:Hp} {b z o:Nat} {cs:List Value} {ro:Bool} {x:ByteArray} {P:ByteArray->Prop} (f:h b=some (.inl ⟨cs,z,ro⟩)) (e:cs[o]?=some (.string x)) (k:P x): ∃y:ByteArray,Hp.cell h b o=some (.string y)/\P y:=
 ⟨x,by rw [ax f];exact e,k⟩
theorem dJ {h:Hp} {w:Int} {R:Value->Hp->Prop} (k:R (uq (cR w)) h):dC #[I w] h R:=by
 refine ACalls.drop (EP ?_)
 refine uf_ ?_
 intro b hb
 have l1:=gn [I 0,I w] 2 hb
 simp only [vm,mm]
 exact⟨by decide,_,l1,k⟩
theorem cm {h:Hp} {w:Int} {R:Value->Hp->Prop} (k:R (uq (cR w)) h):aq #[I w] h R:=by
 refine ACalls.drop (MU ?_)
 refine uf_ ?_
 intro b hb
 have l1:=gn [I 0,I w] 2 hb
 simp only [vm,mm]
 exact⟨by decide,_,l1,k⟩
def az (n:NodeP):Nat->Int
 |0=>n.a
 |1=>n.b
 |2=>n.c
 |_=>0
theorem rK (len:Nat) (n:NodeP):fR len n=
  (decide (0<=ai n.kind)&&(nV (ai n.kind) len 0 (az n 0)&&nV (ai n.kind) len 1 (az n 1)&&nV (ai n.kind) len 2 (az n 2))&&
   (if cX n.kind then gD n.name else decide (n.name.size=0))&&(decide (n.kind=30)||decide (n.m=0))&&
   (decide (n.kind=30\/n.kind=31\/n.kind=32\/n.kind=34)||decide (n.n=0))):=rfl
theorem Po {len:Nat} {n:NodeP} {i:Nat} (hi:i<3) (e:nV (ai n.kind) len i (az n i)=false):fR len n=false:=by
 rw [rK]
 obtain rfl|rfl|rfl:i=0\/i=1\/i=2:=by omega
 ·rw [show ((0:Nat):Int)=0 from rfl]at e;rw [e];simp
 ·rw [show ((1:Nat):Int)=1 from rfl]at e;rw [e];simp
 ·rw [show ((2:Nat):Int)=2 from rfl]at e;rw [e];simp
theorem HM {len:Nat} {n:NodeP} (hp:0<=ai n.kind) (e: ∀i:Nat,i<3->nV (ai n.kind) len i (az n i)=true):fR len n=
  ((if cX n.kind then gD n.name else decide (n.name.size=0))&&(decide (n.kind=30)||decide (n.m=0))&&
    (decide (n.kind=30\/n.kind=31\/n.kind=32\/n.kind=34)||decide (n.n=0))):=by
 rw [rK,decide_eq_true hp]
 have e0:=e 0 (by omega)
 have e1:=e 1 (by omega)
 have e2:=e 2 (by omega)
 rw [show ((0:Nat):Int)=0 from rfl]at e0
 rw [show ((1:Nat):Int)=1 from rfl]at e1
 rw [show ((2:Nat):Int)=2 from rfl]at e2
 rw [e0,e1,e2];simp
theorem nU {h:Hp} {b z:Nat} {n:NodeP} (f:h b=some (.inl ⟨[I n.a,I n.b,I n.c],z,false⟩)) {i:Nat} (hi:i<3):Hp.cell h b i=some (I (az n i)):=by
 rw [ax f]
 obtain rfl|rfl|rfl:i=0\/i=1\/i=2:=by omega
 all_goals rfl
theorem RR {h:Hp} {n:NodeP} {len:Nat} {R:Value->Hp->Prop} (hlen:len<=4611686018427387904) (hsz:n.name.size<=1048576)
  (k:R (.bool (fR len n)) h):p5 #[wD n,I len] h R:=by
 refine ACalls.drop (DK ?_)
 refine uf_ ?_
 refine aj fun b h1 hb l1 f1=>?_
 simp only [vm,rd,ax f1]
 refine dZ ⟨_,rfl,ad (fun e=>⟨_,l1,dL ?_ k⟩) (fun e=>?_)⟩
 ·rw [rK,decide_eq_false (by simp at e;omega)];simp
 have hp:0<=ai n.kind:=by simp at e;omega
 simp only [vm,rd,ax f1]
 refine aj fun b2 h2 hb2 l2 f2=>?_
 have f1':=l2 _ _ f1
 have l12:=Hp.le_trans l1 l2
 refine au 3 (fun i vs h'=>(∀j:Nat,j<i->nV (ai n.kind) len j (az n j)=true)/\vs= [I len, .pointer (some ⟨b,0,none⟩),I (ai n.kind), .slice (some ⟨b2,0,none⟩) 3 3,I 3,I i]/\h'=h2) ⟨fun j hj=>by omega,rfl,rfl⟩ ?_
 rintro i _ h' next hi ⟨hg,rfl,rfl⟩ hn
 refine⟨_,_,_,_,⟨_,_,_⟩,_,_,rfl,?_⟩
 by_cases hlt:i<3
 ·refine aM (by simp;omega) ?_
  simp only [vm,nU f2 hlt]
  refine⟨by omega,?_⟩
  refine ap (fun J=>J (!(nV (ai n.kind) len i (az n i))) h') ?_ (fun J hJ=>?_)
  ·refine ad (fun e=>⟨_,l12,dL ?_ k⟩) (fun e=>?_)
   ·rw [Po hlt (by simpa using e)]
   ·rw [ay (by omega)]
    refine hn hlt _ _ ⟨fun j hj=>?_,rfl,rfl⟩
    by_cases hji:j=i
    ·subst hji;simpa using e
    ·exact hg j (by omega)
  ·clear k
   unfold nV at hJ
   rw [cd (by omega) (by omega)]
   refine ad (fun e=>gU ⟨_,rfl,?_⟩) (fun e=>?_)
   ·rw [if_pos (by simpa using e)]at hJ
    refine ad (fun e2=>?_) (fun e2=>ad (fun e3=>?_) (fun e3=>?_))
    ·exact gP (J:=fun b=>J b h') (by simpa using e2) hJ
    ·simp at e e3;omega
    ·exact gP (J:=fun b=>J b h') (by simpa using e2) hJ
   ·rw [if_neg (by simpa using e)]at hJ
    refine ad (fun e2=>?_) (fun e2=>?_)
    ·exact gP (J:=fun b=>J b h') (by rw [Bool.eq_iff_iff];simp) hJ
    ·simp at e e2;omega
 ·refine aC (by simp;omega) ?_
  rw [HM hp (fun j hj=>hg j (by omega))]at k
  simp only [vm,rd,ax f1',Eu]
  refine ap (fun J=>J (decide (n.kind=30\/n.kind=31\/n.kind=32\/n.kind=34))) ?_ (fun J hJ=>?_)
  rotate_left
  ·clear k;repeat' (first|(with_reducible first|refine aM (b:=true) rfl ?_|refine aC (b:=false) rfl ?_|refine ad (fun _=>?_) fun _=>?_)|(refine gP ?_ hJ))
   all_goals (clear hJ;(exact zA))
  have hnm: ∀{R':Value->Hp->Prop},R' (.bool (cX n.kind)) h'->dI #[I n.kind] h' R':=Lf
  have hin: ∀{R':Value->Hp->Prop},R' (.bool (gD n.name)) h'->kg #[.string n.name] h' R':=fun k=>FK k (by omega)
  generalize cX n.kind=g at*
  generalize gD n.name=q at*
  repeat' (first|(with_reducible first|refine aM (b:=true) rfl ?_|refine aC (b:=false) rfl ?_|refine ad (fun _=>?_) fun _=>?_)|(with_reducible refine hnm ⟨_,rfl,?_⟩)|(with_reducible refine hin ⟨_,rfl,?_⟩)|(with_reducible refine ac3 f1' rfl ?_)|(with_reducible refine acW f1' rfl ?_)|(refine⟨_,l12,dL ?_ k⟩;clear k hnm hin hn hg f1 f2 f1' l1 l2 l12 hb hb2;first|(simp_all;done)|(cases g<;>cases q<;>simp_all<;>done)))
theorem Nc {h:Hp} {n:NodeP} {s:Sl} {R:Value->Hp->Prop} (hlen:s.n<=4611686018427387904)
  (k:R (.bool (fR s.n n)) h):tU #[s.v,wD n] h R:=by
 refine ACalls.drop (H2 ?_)
 refine uf_ ?_
 refine aj fun b h1 hb l1 f1=>?_
 simp only [vm,rd,ax f1]
 refine lA ⟨_,rfl,ad (fun e=>⟨_,l1,dL ?_ k⟩) (fun e=>?_)⟩
 ·rw [rK,decide_eq_false (by simp at e;omega)];simp
 have hp:0<=ai n.kind:=by simp at e;omega
 simp only [vm,rd,ax f1]
 refine aj fun b2 h2 hb2 l2 f2=>?_
 have f1':=l2 _ _ f1
 have l12:=Hp.le_trans l1 l2
 refine au 3 (fun i vs h'=>(∀j:Nat,j<i->nV (ai n.kind) s.n j (az n j)=true)/\vs= [s.v, .pointer (some ⟨b,0,none⟩),I (ai n.kind), .slice (some ⟨b2,0,none⟩) 3 3,I i]/\h'=h2) ⟨fun j hj=>by omega,rfl,rfl⟩ ?_
 rintro i _ h' next hi ⟨hg,rfl,rfl⟩ hn
 refine⟨_,_,_,_,⟨_,_,_⟩,_,rfl,?_⟩
 by_cases hlt:i<3
 ·refine aM (by simp;omega) ?_
  simp only [vm,nU f2 hlt]
  refine ap (fun J=>J (!(nV (ai n.kind) s.n i (az n i))) h') ?_ (fun J hJ=>?_)
  ·refine ad (fun e=>⟨_,l12,dL ?_ k⟩) (fun e=>?_)
   ·rw [Po hlt (by simpa using e)]
   ·rw [ay (by omega)]
    refine hn hlt _ _ ⟨fun j hj=>?_,rfl,rfl⟩
    by_cases hji:j=i
    ·subst hji;simpa using e
    ·exact hg j (by omega)
  ·clear k
   unfold nV at hJ
   rw [cd (by omega) (by omega)]
   refine ad (fun e=>⟨by omega,ey ⟨_,rfl,?_⟩⟩) (fun e=>?_)
   ·rw [if_pos (by simpa using e)]at hJ
    refine ad (fun e2=>?_) (fun e2=>ad (fun e3=>?_) (fun e3=>?_))
    ·exact gP (J:=fun b=>J b h') (by simpa using e2) hJ
    ·simp at e e3;omega
    ·exact gP (J:=fun b=>J b h') (by simpa using e2) hJ
   ·rw [if_neg (by simpa using e)]at hJ
    refine ad (fun e2=>?_) (fun e2=>?_)
    ·refine⟨by omega,?_⟩
     exact gP (J:=fun b=>J b h') (by rw [Bool.eq_iff_iff];simp) hJ
    ·simp at e e2;omega
 ·refine aC (by simp;omega) ?_
  rw [HM hp (fun j hj=>hg j (by omega))]at k
  simp only [vm,rd,ax f1',Eu]
  refine ap (fun J=>J (cX n.kind)) ?_ (fun J hJ=>?_)
  rotate_left
  ·clear k;unfold cX at hJ;repeat' (first|(with_reducible first|refine aM (b:=true) rfl ?_|refine aC (b:=false) rfl ?_|refine ad (fun _=>?_) fun _=>?_)|(refine gP ?_ hJ))
   all_goals (clear hJ;(exact zA))
  have hin: ∀{R':Value->Hp->Prop},R' (.bool (gD n.name)) h'->sJ #[.string n.name] h' R':=GY
  have hno:gD n.name=true-> ¬n.name.size=0:=fun e=>by have:=(te.1 e).1;omega
  generalize cX n.kind=g at*
  generalize gD n.name=q at*
  simp only [jD]
  repeat' (first|(with_reducible first|refine aM (b:=true) rfl ?_|refine aC (b:=false) rfl ?_|refine ad (fun _=>?_) fun _=>?_)|(with_reducible refine hin ⟨_,rfl,?_⟩)|(with_reducible refine ac3 f1' rfl ?_)|(with_reducible refine acW f1' rfl ?_)|(refine⟨_,l12,dL ?_ k⟩;clear k hin hn hg f1 f2 f1' l1 l2 l12 hb hb2;first|(simp_all;done)|(cases g<;>cases q<;>simp_all<;>done)|(rw [Bool.eq_iff_iff];cases g<;>cases q<;>simp_all<;>done)))
theorem cC {h h0:Hp} {b z o m:Nat} {cs vs:List Value} {P:Hp->Prop} (f:h b=some (.inl ⟨cs,z,false⟩)) (l:h0.le h) (hb:h0 b=none) (hl:m<=cs.length)
  (k: ∀h',h' b=some (.inl ⟨bX cs o vs,z,false⟩)->(∀c,c≠b->h' c=h c)->h0.le h'->P h'):
  ∃(cs':List Value) (z':Nat),h b=some (.inl ⟨cs',z',false⟩)/\m<=List.length cs'/\cM (h.row b (bX cs' o vs) z') fun h'=>P h':=
 ⟨cs,z,f,hl,k _ (bU _ _ _ _) (fun c e=>cl _ _ e) (ez _ _ hb l)⟩
theorem aio {h h':Hp} {b c:Nat} {P:Prop} (kp: ∀c,c≠b->h' c=h c) (e:c≠b) (k:P):h' c=h c/\P:=⟨kp c e,k⟩
theorem ahk {α:Type} {c:α->Value} {h:Hp} {b z o:Nat} {cs:List Value} {ro:Bool} {x:α} {P:α->Prop} (f:h b=some (.inl ⟨cs,z,ro⟩)) (q:cs[o]?=some (c x)) (k:P x): ∃y:α,Hp.cell h b o=some (c y)/\P y:=⟨x,by rw [ax f];exact q,k⟩
theorem aD {P Q:Prop} (k:Q) (h:Q->P:=by(first
 |((with_reducible apply ahk);(assumption);(exact rfl))
 |with_reducible exact And.intro (Eq.refl _)
 |with_reducible exact And.intro True.intro
 |((with_reducible apply aio);(assumption);(assumption))
 |fail)):P:=h k
def Res (o:Option SortP) (t:SortP) (c:Bool):Prop:=o=if c then some t else none
theorem j7 (a b:SortP):(a=b)=(a.idx=b.idx/\a.wid=b.wid):=by
 rcases a with ⟨i,w⟩;rcases b with ⟨j,v⟩;simp
theorem rx {P:Prop} [Decidable P] {t t':SortP} {q:Bool} (h1:q=decide P) (h2:P->t=t'):Res (if P then some t else none) t' q:=by
 unfold Res;subst h1
 by_cases h:P
 ·simp [h,h2 h]
 ·simp [h]
theorem i7 {a b:Int} (e:(a !=b)=true): ¬a=b:=by simpa using e
theorem fY {a b:Int} (e:(a !=b)=false):a=b:=by simpa using e
theorem Mr (n:NodeP) (a b c:SortP):di n a b c=
 (if n.kind=33 then(if(a.idx=0/\a.wid=1)/\b.idx=c.idx/\b.wid=c.wid then some b else none)else
 if n.kind=37 then(if 0<a.idx/\b.idx=0/\b.wid=a.idx then some ⟨0,a.wid⟩else none)else
 if n.kind=38 then(if 0<a.idx/\(b.idx=0/\b.wid=a.idx)/\c.idx=0/\c.wid=a.wid then some a else none)else
 if n.kind=21 then(if a.idx=b.idx/\a.wid=b.wid then some ⟨0,1⟩else none)else
 if 0<a.idx\/(ai n.kind=2/\0<b.idx)then none else
 if n.kind=29 then(if a.wid+b.wid<=16 then some ⟨0,a.wid+b.wid⟩else none)else
 if n.kind=30 then(if(0<=n.n/\n.n<=a.wid-1)/\0<=n.m/\n.m<=n.n then some ⟨0,n.n-n.m+1⟩else none)else
 if n.kind=31\/n.kind=32 then(if 0<=n.n/\n.n<=16-a.wid then some ⟨0,a.wid+n.n⟩else none)else
 if n.kind<=5 then some ⟨0,if n.kind<=2 then a.wid else 1⟩else
 if a.idx=b.idx/\a.wid=b.wid then some ⟨0,if n.kind<=20 then a.wid else 1⟩else none):=by
 unfold di cR
 simp only [j7]
def nC (n:NodeP) (a b c:SortP):Option SortP:=
 if n.kind=35\/n.kind=36 then(if bW n.sort then some n.sort else none)else
 if n.kind=34 then(if decide (n.sort.idx=0)&&ka n.sort.wid n.n then some n.sort else none)else di n a b c
theorem RS {h:Hp} {n:NodeP} {a b c:SortP} {R:Value->Hp->Prop} (ha:0<ai n.kind->bW a=true) (hb:bW b=true\/b=⟨0,0⟩) (hc:bW c=true\/c=⟨0,0⟩) (hp:0<=ai n.kind)
  (hb2:ai n.kind<2->b=⟨0,0⟩)
  (k: ∀t q,Res (nC n a b c) t q->R (.tuple #[uq t, .bool q]) h):qf #[wD n,uq a,uq b,uq c] h R:=by
 refine ACalls.drop (Df ?_)
 refine uf_ ?_
 refine aj fun b17 h1 hb17 l1 f17=>?_
 refine aj fun b19 h2 hb19 l2 f19=>?_
 refine aj fun b21 h3 hb21 l3 f21=>?_
 refine aj fun b23 h4 hb23 l4 f23=>?_
 refine aj fun b25 h5 hb25 l5 f25=>?_
 replace f17:=l4 _ _ (l3 _ _ (l2 _ _ f17))
 replace f19:=l4 _ _ (l3 _ _ f19)
 replace f21:=l4 _ _ f21
 have n17:=fresh_ne hb25 f17
 have n19:=fresh_ne hb25 f19
 have n21:=fresh_ne hb25 f21
 have n23:=fresh_ne hb25 f23
 replace f17:=l5 _ _ f17
 replace f19:=l5 _ _ f19
 replace f21:=l5 _ _ f21
 replace f23:=l5 _ _ f23
 have l:h.le h5:=Hp.le_trans l1 (Hp.le_trans l2 (Hp.le_trans l3 (Hp.le_trans l4 l5)))
 have b0:h b25=none:=aF (Hp.le_trans l1 (Hp.le_trans l2 (Hp.le_trans l3 l4))) hb25
 clear hb17 hb19 hb21 hb23 hb25 l1 l2 l3 l4 l5
 have lf: ∀{h'':Hp} {t:SortP} {q:Bool},h.le h''->Res (nC n a b c) t q-> ∃h':Hp,h'.le h''/\R (.tuple #[.agg #[I t.idx,I t.wid], .bool q]) h':=fun l e=>⟨_,l,k _ _ e⟩
 clear k
 (refine aD ?_)
 refine ap (fun J=>J (decide (n.kind=35\/n.kind=36))) ?_ (fun J hJ=>?_)
 rotate_left
 ·repeat' (first|(with_reducible first|refine aM (b:=true) rfl ?_|refine aC (b:=false) rfl ?_|refine ad (fun _=>?_) fun _=>?_)|(refine gP ?_ hJ))
  all_goals (clear hJ;(exact zA))
 refine ad (fun e=>?_) (fun e=>?_)
 ·repeat' (refine aD ?_)
  refine sd ⟨_,rfl,?_⟩
  (refine aD ?_)
  refine cC f25 l b0 (by decide) fun h6 f6 kp6 l6=>?_
  repeat' (refine aD ?_)
  refine lf (t:=n.sort) l6 ?_
  unfold Res nC
  rw [if_pos (of_decide_eq_true e)]
 have e35:=of_decide_eq_false e
 refine ad (fun e=>?_) (fun e=>?_)
 ·have e34:=bZ e
  simp only [jD]
  repeat' (refine aD ?_)
  refine ad (fun e=>?_) (fun e=>?_)
  ·repeat' (refine aD ?_)
   refine Gb ⟨_,rfl,?_⟩
   (refine aD ?_)
   refine cC f25 l b0 (by decide) fun h6 f6 kp6 l6=>?_
   repeat' (refine aD ?_)
   refine lf (t:=n.sort) l6 ?_
   unfold Res nC
   rw [if_neg e35,if_pos e34,decide_eq_true (bZ e),Bool.true_and]
  ·(refine aD ?_)
   refine cC f25 l b0 (by decide) fun h6 f6 kp6 l6=>?_
   repeat' (refine aD ?_)
   refine lf (t:=n.sort) l6 ?_
   unfold Res nC
   rw [if_neg e35,if_pos e34,decide_eq_false (bA e),Bool.false_and]
 have e34:=bA e
 have er:nC n a b c=di n a b c:=by unfold nC;rw [if_neg e35,if_neg e34]
 have hp1:0<ai n.kind:=by
  have:ai n.kind≠0:=by
   unfold ai;repeat' split
   all_goals first|omega|decide
  omega
 replace ha:=bD.1 (ha hp1)
 have wa1:W (a.wid-1)=a.wid-1:=cd (by omega) (by omega)
 have wa16:W (16-a.wid)=16-a.wid:=cd (by omega) (by omega)
 have wab:W (a.wid+b.wid)=a.wid+b.wid:=by
  have: -100<=b.wid/\b.wid<=16:=by
   rcases hb with h|h
   ·have:=bD.1 h;omega
   ·rw [h];decide
  exact cd (by omega) (by omega)
 rw [er]at lf
 clear er
 rw [Mr]at lf
 (with_reducible first|refine aM (b:=true) rfl ?_|refine aC (b:=false) rfl ?_|refine ad (fun _=>?_) fun _=>?_)
 ·rw [if_pos (bZ (by assumption))]at lf
  simp only [jD]
  ((repeat' (first|(with_reducible first|refine aM (b:=true) rfl ?_|refine aC (b:=false) rfl ?_|refine ad (fun _=>?_) fun _=>?_)|(refine aD ?_)|(with_reducible refine dJ ⟨_,_,rfl,?_⟩)|(with_reducible refine gU ⟨_,rfl,?_⟩)|((with_reducible apply cC);(assumption);(exact l);(exact b0);(decide);(intro _ _ _ _))|(refine lf (t:=⟨_,_⟩) (by assumption) ?_;clear lf l b0;((unfold Res;(try simp only [cR,j7,Bool.and_true,Bool.and_eq_false_iff,Bool.or_eq_false_iff]at*);((try simp only [decide_eq_true_eq,decide_eq_false_iff_not,beq_iff_eq,beq_eq_false_iff_ne,bne_iff_ne,bne_eq_false_iff_eq,ne_eq,Bool.not_eq_true',Bool.not_eq_false',Bool.and_eq_true,Bool.or_eq_true,Bool.true_and,Bool.false_and,Bool.and_true,Bool.and_false,Bool.true_or,Bool.false_or,reduceCtorEq,iff_false,iff_true,false_iff,true_iff,Bool.not_true,Bool.not_false]at*));(repeat' split)<;>(first|rfl|contradiction|omega|(simp only [Option.some.injEq,SortP.mk.injEq,j7,Bool.true_eq_false];omega)|skip)))))))
 rw [if_neg (bA (by assumption))]at lf
 (with_reducible first|refine aM (b:=true) rfl ?_|refine aC (b:=false) rfl ?_|refine ad (fun _=>?_) fun _=>?_)
 ·((repeat' (first|(with_reducible first|refine aM (b:=true) rfl ?_|refine aC (b:=false) rfl ?_|refine ad (fun _=>?_) fun _=>?_)|(refine aD ?_)|(with_reducible refine dJ ⟨_,_,rfl,?_⟩)|(with_reducible refine gU ⟨_,rfl,?_⟩)|((with_reducible apply cC);(assumption);(exact l);(exact b0);(decide);(intro _ _ _ _))|(refine lf (t:=⟨_,_⟩) (by assumption) ?_;clear lf l b0;((unfold Res;(try simp only [cR,j7,Bool.and_true,Bool.and_eq_false_iff,Bool.or_eq_false_iff]at*);((try simp only [decide_eq_true_eq,decide_eq_false_iff_not,beq_iff_eq,beq_eq_false_iff_ne,bne_iff_ne,bne_eq_false_iff_eq,ne_eq,Bool.not_eq_true',Bool.not_eq_false',Bool.and_eq_true,Bool.or_eq_true,Bool.true_and,Bool.false_and,Bool.and_true,Bool.and_false,Bool.true_or,Bool.false_or,reduceCtorEq,iff_false,iff_true,false_iff,true_iff,Bool.not_true,Bool.not_false]at*));(repeat' split)<;>(first|rfl|contradiction|omega|(simp only [Option.some.injEq,SortP.mk.injEq,j7,Bool.true_eq_false];omega)|skip)))))))
 have e21:=bA (by assumption)
 (with_reducible first|refine aM (b:=true) rfl ?_|refine aC (b:=false) rfl ?_|refine ad (fun _=>?_) fun _=>?_)
 ·rw [if_pos (bZ (by assumption))]at lf
  simp only [jD]
  ((repeat' (first|(with_reducible first|refine aM (b:=true) rfl ?_|refine aC (b:=false) rfl ?_|refine ad (fun _=>?_) fun _=>?_)|(refine aD ?_)|(with_reducible refine dJ ⟨_,_,rfl,?_⟩)|(with_reducible refine gU ⟨_,rfl,?_⟩)|((with_reducible apply cC);(assumption);(exact l);(exact b0);(decide);(intro _ _ _ _))|(refine lf (t:=⟨_,_⟩) (by assumption) ?_;clear lf l b0;((unfold Res;(try simp only [cR,j7,Bool.and_true,Bool.and_eq_false_iff,Bool.or_eq_false_iff]at*);((try simp only [decide_eq_true_eq,decide_eq_false_iff_not,beq_iff_eq,beq_eq_false_iff_ne,bne_iff_ne,bne_eq_false_iff_eq,ne_eq,Bool.not_eq_true',Bool.not_eq_false',Bool.and_eq_true,Bool.or_eq_true,Bool.true_and,Bool.false_and,Bool.and_true,Bool.and_false,Bool.true_or,Bool.false_or,reduceCtorEq,iff_false,iff_true,false_iff,true_iff,Bool.not_true,Bool.not_false]at*));(repeat' split)<;>(first|rfl|contradiction|omega|(simp only [Option.some.injEq,SortP.mk.injEq,j7,Bool.true_eq_false];omega)|skip)))))))
 rw [if_neg (bA (by assumption))]at lf
 (with_reducible first|refine aM (b:=true) rfl ?_|refine aC (b:=false) rfl ?_|refine ad (fun _=>?_) fun _=>?_)
 ·rw [if_pos (bZ (by assumption))]at lf
  simp only [jD]
  ((repeat' (first|(with_reducible first|refine aM (b:=true) rfl ?_|refine aC (b:=false) rfl ?_|refine ad (fun _=>?_) fun _=>?_)|(refine aD ?_)|(with_reducible refine dJ ⟨_,_,rfl,?_⟩)|(with_reducible refine gU ⟨_,rfl,?_⟩)|((with_reducible apply cC);(assumption);(exact l);(exact b0);(decide);(intro _ _ _ _))|(refine lf (t:=⟨_,_⟩) (by assumption) ?_;clear lf l b0;((unfold Res;(try simp only [cR,j7,Bool.and_true,Bool.and_eq_false_iff,Bool.or_eq_false_iff]at*);((try simp only [decide_eq_true_eq,decide_eq_false_iff_not,beq_iff_eq,beq_eq_false_iff_ne,bne_iff_ne,bne_eq_false_iff_eq,ne_eq,Bool.not_eq_true',Bool.not_eq_false',Bool.and_eq_true,Bool.or_eq_true,Bool.true_and,Bool.false_and,Bool.and_true,Bool.and_false,Bool.true_or,Bool.false_or,reduceCtorEq,iff_false,iff_true,false_iff,true_iff,Bool.not_true,Bool.not_false]at*));(repeat' split)<;>(first|rfl|contradiction|omega|(simp only [Option.some.injEq,SortP.mk.injEq,j7,Bool.true_eq_false];omega)|skip)))))))
 rw [if_neg (bA (by assumption)),if_neg e21]at lf
 have n33: ¬n.kind=33:=bA (by assumption)
 have n37: ¬n.kind=37:=bA (by assumption)
 have n38: ¬n.kind=38:=bA (by assumption)
 have hbi:0<=b.idx/\b.wid<=16/\0<=b.wid:=by
  rcases hb with h|h
  ·have:=bD.1 h;omega
  ·rw [h];decide
 have p12:ai n.kind=1\/ai n.kind=2:=by
  rcases qE n.kind with h|h|h|h|h
  ·omega
  ·exact .inl h
  ·exact .inr h
  ·exfalso;revert h;unfold ai;(repeat' split)<;>first|omega|(intro h;omega)
  ·omega
 have hb1:ai n.kind=1->b.idx=0:=fun h=>by rw [hb2 (by omega)]
 clear hb hc hb2
 refine ap (fun J=>J (decide (0<a.idx\/(ai n.kind=2/\0<b.idx)))) ?_ (fun J hJ=>?_)
 rotate_left
 ·(refine aD ?_)
  (with_reducible first|refine aM (b:=true) rfl ?_|refine aC (b:=false) rfl ?_|refine ad (fun _=>?_) fun _=>?_)
  ·refine gP ?_ hJ;clear hJ;have:=i7 (by assumption);rw [eq_comm,decide_eq_true_eq];omega
  (refine aD ?_)
  refine gP ?_ hJ;clear hJ
  have:a.idx=0:=fY (by assumption)
  rw [Bool.eq_iff_iff,bne_iff_ne,decide_eq_true_eq];omega
 refine ad (fun e=>?_) (fun e=>?_)
 ·rw [if_pos (of_decide_eq_true e)]at lf
  ((repeat' (first|(with_reducible first|refine aM (b:=true) rfl ?_|refine aC (b:=false) rfl ?_|refine ad (fun _=>?_) fun _=>?_)|(refine aD ?_)|(with_reducible refine dJ ⟨_,_,rfl,?_⟩)|(with_reducible refine gU ⟨_,rfl,?_⟩)|((with_reducible apply cC);(assumption);(exact l);(exact b0);(decide);(intro _ _ _ _))|(refine lf (t:=⟨_,_⟩) (by assumption) ?_;clear lf l b0;((unfold Res;(try simp only [cR,j7,Bool.and_true,Bool.and_eq_false_iff,Bool.or_eq_false_iff]at*);((try simp only [decide_eq_true_eq,decide_eq_false_iff_not,beq_iff_eq,beq_eq_false_iff_ne,bne_iff_ne,bne_eq_false_iff_eq,ne_eq,Bool.not_eq_true',Bool.not_eq_false',Bool.and_eq_true,Bool.or_eq_true,Bool.true_and,Bool.false_and,Bool.and_true,Bool.and_false,Bool.true_or,Bool.false_or,reduceCtorEq,iff_false,iff_true,false_iff,true_iff,Bool.not_true,Bool.not_false]at*));(repeat' split)<;>(first|rfl|contradiction|omega|(simp only [Option.some.injEq,SortP.mk.injEq,j7,Bool.true_eq_false];omega)|skip)))))))
 rw [if_neg (of_decide_eq_false e)]at lf
 replace e:=of_decide_eq_false e
 refine ap (fun J=>J (decide (n.kind=1\/n.kind=2))) ?_ (fun J hJ=>?_)
 rotate_left
 ·repeat' (first|(with_reducible first|refine aM (b:=true) rfl ?_|refine aC (b:=false) rfl ?_|refine ad (fun _=>?_) fun _=>?_)|(refine aD ?_)|(refine gP ?_ hJ))
  all_goals (clear hJ;(exact zA))
 refine ad (fun e1=>?_) (fun e1=>?_)
 ·replace e1:=of_decide_eq_true e1
  rw [if_neg (by omega),if_neg (by omega),if_neg (by omega),if_pos (by omega),if_pos (by omega)]at lf
  repeat' (refine aD ?_)
  (with_reducible apply cC);(assumption);(exact l);(exact b0);(decide);intro _ _ _ _
  repeat' (refine aD ?_)
  refine lf (t:=⟨_,_⟩) (by assumption) ?_
  rw [show a.idx=0 by omega];rfl
 replace e1:=of_decide_eq_false e1
 (refine aD ?_)
 refine gU ⟨_,rfl,ad (fun e2=>?_) (fun e2=>?_)⟩
 ·replace e2:=of_decide_eq_true e2
  rw [if_neg (by omega),if_neg (by omega),if_neg (by omega),if_pos (by omega),if_neg (by omega)]at lf
  refine dJ ⟨_,_,rfl,?_⟩
  (with_reducible apply cC);(assumption);(exact l);(exact b0);(decide);intro _ _ _ _
  repeat' (refine aD ?_)
  exact lf (t:=⟨_,_⟩) (by assumption) rfl
 replace e2:=of_decide_eq_false e2
 (refine aD ?_)
 refine ad (fun e3=>?_) (fun e3=>?_)
 ·replace e3:=bZ e3
  rw [if_neg (by omega),if_pos e3]at lf
  simp only [jD]
  repeat' (refine aD ?_)
  refine dJ ⟨_,_,rfl,?_⟩
  repeat' (refine aD ?_)
  refine gU ⟨_,rfl,?_⟩
  rw [wa1]
  refine ad (fun e4=>?_) (fun e4=>?_)
  ·repeat' (refine aD ?_)
   refine gU ⟨_,rfl,?_⟩
   (with_reducible apply cC);(assumption);(exact l);(exact b0);(decide);intro _ _ _ _
   repeat' (refine aD ?_)
   refine lf (t:=⟨_,_⟩) (by assumption) (rx ?_ ?_)
   ·rw [decide_eq_decide];exact⟨fun h=>⟨of_decide_eq_true e4,h⟩,fun h=>h.2⟩
   ·intro h
    rw [cd (n:=n.n-n.m) (by omega) (by omega),cd (by omega) (by omega)]
  ·(with_reducible apply cC);(assumption);(exact l);(exact b0);(decide);intro _ _ _ _
   repeat' (refine aD ?_)
   refine lf (t:=⟨_,_⟩) (by assumption) (rx ?_ ?_)
   ·symm;rw [decide_eq_false_iff_not];exact fun h=>of_decide_eq_false e4 h.1
   ·exact fun h=>absurd h.1 (of_decide_eq_false e4)
 replace e3:=bA e3
 refine ap (fun J=>J (decide (n.kind=31\/n.kind=32))) ?_ (fun J hJ=>?_)
 rotate_left
 ·repeat' (first|(with_reducible first|refine aM (b:=true) rfl ?_|refine aC (b:=false) rfl ?_|refine ad (fun _=>?_) fun _=>?_)|(refine aD ?_)|(refine gP ?_ hJ))
  all_goals (clear hJ;(exact zA))
 refine ad (fun e4=>?_) (fun e4=>?_)
 ·replace e4:=of_decide_eq_true e4
  rw [if_neg (by omega),if_neg (by omega),if_pos (by omega)]at lf
  repeat' (refine aD ?_)
  refine dJ ⟨_,_,rfl,?_⟩
  repeat' (refine aD ?_)
  refine gU ⟨_,rfl,?_⟩
  rw [wa16]
  (with_reducible apply cC);(assumption);(exact l);(exact b0);(decide);intro _ _ _ _
  repeat' (refine aD ?_)
  refine lf (t:=⟨_,_⟩) (by assumption) (rx rfl ?_)
  ·intro h
   show _=SortP.mk 0 _
   rw [cd (by omega) (by omega)]
 replace e4:=of_decide_eq_false e4
 (refine aD ?_)
 refine ad (fun e5=>?_) (fun e5=>?_)
 ·replace e5:=bZ e5
  rw [if_pos e5]at lf
  repeat' (refine aD ?_)
  refine dJ ⟨_,_,rfl,?_⟩
  repeat' (refine aD ?_)
  (with_reducible apply cC);(assumption);(exact l);(exact b0);(decide);intro _ _ _ _
  repeat' (refine aD ?_)
  refine lf (t:=⟨_,_⟩) (by assumption) (rx (by rw [wab]) ?_)
  ·intro h
   show _=SortP.mk 0 _
   rw [wab]
 replace e5:=bA e5
 have k5: ¬n.kind<=5:=by
  intro h
  have:ai n.kind= -1:=by unfold ai;(repeat' split)<;>omega
  omega
 rw [if_neg (by omega),if_neg (by omega),if_neg (by omega),if_neg (by omega)]at lf
 (refine aD ?_)
 refine gU ⟨_,rfl,ad (fun e6=>?_) (fun e6=>?_)⟩
 ·replace e6:=of_decide_eq_true e6
  rw [if_neg (show¬n.kind<=20 by omega)]at lf
  repeat' (refine aD ?_)
  refine dJ ⟨_,_,rfl,?_⟩
  repeat' (refine aD ?_)
  (with_reducible apply cC);(assumption);(exact l);(exact b0);(decide);intro _ _ _ _
  repeat' (refine aD ?_)
  refine lf (t:=⟨_,_⟩) (by assumption) (rx ?_ ?_)
  ·rw [Bool.eq_iff_iff];simp
  ·intro h;rfl
 replace e6:=of_decide_eq_false e6
 have k20:n.kind<=20:=by
  by_cases h20:n.kind<=20
  ·exact h20
  ·have:ai n.kind= -1\/ai n.kind=0:=by unfold ai;(repeat' split)<;>omega
   omega
 rw [if_pos k20]at lf
 repeat' (refine aD ?_)
 (with_reducible apply cC);(assumption);(exact l);(exact b0);(decide);intro _ _ _ _
 repeat' (refine aD ?_)
 refine lf (t:=⟨_,_⟩) (by assumption) (rx ?_ ?_)
 ·rw [Bool.eq_iff_iff];simp
 ·intro h;rw [show a.idx=0 by omega]
abbrev nodeCells (n:NodeP):List Value:= [I n.kind,I n.a,I n.b,I n.c,I n.n,I n.m,I n.sort.idx,I n.sort.wid, .string n.name]
def gw (h:Hp) (s:Sl) (l:List NodeP):Prop:=SlC h s 9 (l.flatMap nodeCells)
theorem gw.mono {h h':Hp} {s:Sl} {l:List NodeP} (le:h.le h') (e:gw h s l):gw h' s l:=SlC.mono le e
theorem ck {α:Type} {f:α->List Value} {m:Nat} (hf: ∀x,(f x).length=m) (l:List α):(l.flatMap f).length=l.length*m:=by
 induction l with
 |nil=>simp
 |cons x l ih=>rw [List.flatMap_cons,List.length_append,ih,hf,List.length_cons,Nat.succ_mul];omega
theorem mT {α:Type} {f:α->List Value} {m:Nat} (hf: ∀x,(f x).length=m) (l:List α): ∀(i:Nat) (x:α) (j:Nat),l[i]?=some x->j<m->(l.flatMap f)[i*m+j]?=(f x)[j]?:=by
 induction l with
 |nil=>intro i x j h;simp at h
 |cons y l ih=>
  intro i x j h hj
  rw [List.flatMap_cons]
  cases i with
  |zero=>
   simp at h;subst h
   rw [Nat.zero_mul,Nat.zero_add,List.getElem?_append_left (by rw [hf];exact hj)]
  |succ i=>
   simp at h
   have e:(i+1)*m+j=m+(i*m+j):=by rw [Nat.succ_mul];omega
   rw [List.getElem?_append_right (by rw [hf,e];omega),hf,e,Nat.add_sub_cancel_left]
   exact ih i x j h hj
theorem gw.len {h:Hp} {s:Sl} {l:List NodeP} (e:gw h s l):s.n=l.length:=by
 have:=e.2.1
 rw [ck (m:=9) (fun _=>rfl)]at this;omega
theorem gw.at {h:Hp} {s:Sl} {l:List NodeP} (e:gw h s l) {i:Nat} {n:NodeP} (hi:l[i]?=some n):
  ∃b o,s.a=some (Addr.mk b o none)/\Hp.cell h b (o+i*9)=some (I n.kind)/\Hp.cell h b ((o+i*9)+1)=some (I n.a)/\Hp.cell h b ((o+i*9)+2)=some (I n.b)/\
   Hp.cell h b ((o+i*9)+3)=some (I n.c)/\Hp.cell h b ((o+i*9)+4)=some (I n.n)/\Hp.cell h b ((o+i*9)+5)=some (I n.m)/\
   Hp.cell h b ((o+i*9)+6)=some (I n.sort.idx)/\Hp.cell h b ((o+i*9)+7)=some (I n.sort.wid)/\Hp.cell h b ((o+i*9)+8)=some (.string n.name):=by
 have hl:=e.len
 have hlt:i<l.length:=by
  rcases Nat.lt_or_ge i l.length with h|h
  ·exact h
  ·rw [List.getElem?_eq_none h]at hi;cases hi
 obtain⟨b,o,ha,hc⟩:=SlC.get e (by omega)
 have g: ∀j v,j<9->(nodeCells n)[j]?=some v->Hp.cell h b ((o+i*9)+j)=some v:=fun j v hj hv=>by
  rw [Nat.add_assoc]
  refine hc _ _ ?_
  rw [mT (m:=9) (fun _=>rfl) l i n j hi hj];exact hv
 exact⟨b,o,ha,g 0 _ (by omega) rfl,g 1 _ (by omega) rfl,g 2 _ (by omega) rfl,g 3 _ (by omega) rfl,g 4 _ (by omega) rfl,g 5 _ (by omega) rfl,g 6 _ (by omega) rfl,g 7 _ (by omega) rfl,g 8 _ (by omega) rfl⟩
theorem im {h h1 h':Hp} {b:Nat} (hb:h b=none) (l:h.le h1) (kp: ∀c,c≠b->h' c=h1 c):h.le h':=fun c x e=>by
 rw [kp c (fresh_ne hb e)];exact l _ _ e
theorem tu {l:List NodeP} {p:Int} {n:NodeP} (h:l[p.toNat]?=some n):ar l p=n.sort:=by unfold ar;rw [h]
def JL (o:Option SortP):Value:=match o with|some t=> .tuple #[uq t, .bool true]|none=> .tuple #[uq ⟨0,0⟩, .bool false]
def eg (l:List NodeP) (n:NodeP) (i j:Nat):SortP:=if j<i then ar l (az n j)else⟨0,0⟩
def Dd (l:List NodeP) (n:NodeP) (i:Nat):List Value:=
 [I (eg l n i 0).idx,I (eg l n i 0).wid,I (eg l n i 1).idx,I (eg l n i 1).wid,I (eg l n i 2).idx,I (eg l n i 2).wid]
theorem S2 {l:List NodeP} {n:NodeP} {i:Nat} (hi:i<3):bX (Dd l n i) (i*2) [I (ar l (az n i)).idx,I (ar l (az n i)).wid]=Dd l n (i+1):=by
 obtain rfl|rfl|rfl:i=0\/i=1\/i=2:=by omega
 all_goals rfl
theorem iM {len:Nat} {n:NodeP} (e:fR len n=true) {i:Nat} (h3:i<3) (hi:(i:Int)<ai n.kind):0<=az n i/\az n i<len:=by
 rw [rK]at e
 simp only [Bool.and_eq_true]at e
 have key: ∀p:Int,nV (ai n.kind) len i p=true->0<=p/\p<len:=fun p hp=>by
  unfold nV at hp;rw [if_pos hi]at hp;simp at hp;omega
 obtain rfl|rfl|rfl:i=0\/i=1\/i=2:=by omega
 ·exact key _ e.1.1.1.2.1.1
 ·exact key _ e.1.1.1.2.1.2
 ·exact key _ e.1.1.1.2.2
theorem fC {len:Nat} {n:NodeP} (e:fR len n=true):0<=ai n.kind:=by
 rw [rK]at e
 simp only [Bool.and_eq_true,decide_eq_true_eq]at e
 exact e.1.1.1.1
theorem iX (k:Int):ai k<=3:=by rcases qE k with h|h|h|h|h<;>omega
def P7 (l:List NodeP) (n:NodeP):Prop:= ∀i:Nat,i<3->(i:Int)<ai n.kind->bW (ar l (az n i))=true
theorem Vz {n:NodeP} {a b c:SortP} (h:ai n.kind=1):di n a b c=di n a ⟨0,0⟩ ⟨0,0⟩:=by
 have k33:n.kind≠33/\n.kind≠37/\n.kind≠38/\n.kind≠21/\n.kind≠29:=by
  refine⟨?_,?_,?_,?_,?_⟩<;>(intro e;rw [e]at h;revert h;decide)
 have k6:n.kind=30\/n.kind=31\/n.kind=32\/n.kind<=5:=by
  have:(1<=n.kind/\n.kind<=5)\/(30<=n.kind/\n.kind<=32):=by
   unfold ai at h
   by_cases e:(1<=n.kind/\n.kind<=5)\/(30<=n.kind/\n.kind<=32)
   ·exact e
   ·rw [if_neg e]at h;revert h;(repeat' split)<;>(intro h;omega)
  omega
 unfold di
 obtain⟨a1,a2,a3,a4,a5⟩:=k33
 simp only [a1,a2,a3,a4,a5,h,if_false]
 rcases k6 with e|e|e|e
 ·simp only [e,if_true];simp
 ·simp only [e];simp
 ·simp only [e];simp
 ·simp only [show¬n.kind=30 by omega,show¬(n.kind=31\/n.kind=32) by omega,e,if_true,if_false];simp
theorem T2 {n:NodeP} {a b c:SortP} (h:ai n.kind=2):di n a b c=di n a b ⟨0,0⟩:=by
 have k33:n.kind≠33/\n.kind≠38:=by
  refine⟨?_,?_⟩<;>(intro e;rw [e]at h;revert h;decide)
 unfold di
 rw [if_neg k33.1,if_neg k33.1]
 simp only [k33.2,if_false]
theorem Ax {l:List NodeP} {n:NodeP} (hl:l.length<=60) (hf:fR l.length n=true) (ho:P7 l n):
  dc l n=nC n (eg l n (ai n.kind).toNat 0) (eg l n (ai n.kind).toNat 1) (eg l n (ai n.kind).toNat 2):=by
 have hk:=fC hf
 unfold dc
 rw [if_pos ⟨hl,hf⟩]
 by_cases h0:ai n.kind=0
 ·rw [if_pos h0]
  have k3:n.kind=34\/n.kind=35\/n.kind=36:=by
   revert h0;unfold ai;(repeat' split)<;>(intro h;omega)
  unfold nC
  by_cases h34:n.kind=34
  ·rw [if_pos h34,if_neg (show¬(n.kind=35\/n.kind=36) by omega),if_pos h34]
  ·rw [if_neg h34,if_pos (show n.kind=35\/n.kind=36 by omega)]
 ·rw [if_neg h0]
  have hs:(bW (ar l n.a)&&((decide (ai n.kind<2)||bW (ar l n.b))&&(decide (ai n.kind<3)||bW (ar l n.c))))=true:=by
   have p0:=ho 0 (by omega) (by omega)
   have p1:=ho 1 (by omega)
   have p2:=ho 2 (by omega)
   simp only [az]at p0 p1 p2
   simp only [Bool.and_eq_true,Bool.or_eq_true,decide_eq_true_eq]
   refine⟨p0,?_,?_⟩
   ·by_cases h:ai n.kind<2
    ·exact .inl h
    ·exact .inr (p1 (by omega))
   ·by_cases h:ai n.kind<3
    ·exact .inl h
    ·exact .inr (p2 (by omega))
  rw [if_pos hs]
  unfold nC
  have k3: ¬(n.kind=34\/n.kind=35\/n.kind=36):=by
   rintro (e|e|e)<;>(rw [e]at h0;exact h0 (by decide))
  rw [if_neg (show¬(n.kind=35\/n.kind=36) by omega),if_neg (show¬n.kind=34 by omega)]
  have hle:=iX n.kind
  obtain e|e|e:ai n.kind=1\/ai n.kind=2\/ai n.kind=3:=by omega
  ·rw [Vz e,Vz (b:=eg _ _ _ 1) e,e];rfl
  ·rw [T2 e,T2 (c:=eg _ _ _ 2) e,e];rfl
  ·rw [e];rfl
theorem Hh {l:List NodeP} {n:NodeP} {i:Nat} (h3:i<3) (hi:(i:Int)<ai n.kind) (ho:bW (ar l (az n i))=false):dc l n=none:=by
 unfold dc
 split
 ·rw [if_neg (show¬ai n.kind=0 by omega)]
  have:(bW (ar l n.a)&&((decide (ai n.kind<2)||bW (ar l n.b))&&(decide (ai n.kind<3)||bW (ar l n.c))))=false:=by
   obtain rfl|rfl|rfl:i=0\/i=1\/i=2:=by omega
   ·simp only [az]at ho;rw [ho];simp
   ·simp only [az]at ho;rw [ho,decide_eq_false (show¬ai n.kind<2 by omega)];simp
   ·simp only [az]at ho;rw [ho,decide_eq_false (show¬ai n.kind<3 by omega)];simp
  rw [if_neg (by rw [this];decide)]
 ·rfl
theorem El {l:List NodeP} {n:NodeP} (h: ¬(l.length<=60/\fR l.length n=true)):dc l n=none:=by
 unfold dc;rw [if_neg h]
theorem cB {h h':Hp} {b c:Nat} {x:Blk} (kp: ∀c,c≠b->h' c=h c) (e:c≠b) (f:h c=some x):h' c=some x:=by rw [kp c e];exact f
theorem Vp {l:List NodeP} {n:NodeP} {i:Nat} (hi:i<3):(Dd l n (i+1))[i*2]?=some (I (ar l (az n i)).idx)/\(Dd l n (i+1))[i*2+1]?=some (I (ar l (az n i)).wid):=by
 obtain rfl|rfl|rfl:i=0\/i=1\/i=2:=by omega
 all_goals exact⟨rfl,rfl⟩
theorem vR {h:Hp} {s:Sl} {l:List NodeP} {n:NodeP} {R:Value->Hp->Prop} (hs:gw h s l) (hsz:n.name.size<=1048576) (hl:l.length<=1048576)
  (k:R (JL (dc l n)) h):jW #[s.v,wD n] h R:=by
 refine ACalls.drop (Iq ?_)
 refine uf_ ?_
 have hn:=hs.len
 refine aj fun b12 h1 hb12 l1 f12=>?_
 refine aj fun b14 h2 hb14 l2 f14=>?_
 have n12:b12≠b14:=fresh_ne hb14 f12
 replace f12:=l2 _ _ f12
 have lh:h.le h2:=Hp.le_trans l1 l2
 have b14n:h b14=none:=aF l1 hb14
 have lf: ∀{h'':Hp} {v:Value},h.le h''->v=JL (dc l n)-> ∃h':Hp,h'.le h''/\R v h':=fun l e=>⟨_,l,e▸k⟩
 clear k
 refine ap (fun J=>J (!(decide (l.length<=60)&&fR l.length n)) h2) ?_ (fun J hJ=>?_)
 rotate_left
 ·rw [<-hn]at hJ
  refine ad (fun e=>?_) (fun e=>?_)
  ·rw [decide_eq_false (by simp at e;omega),Bool.false_and]at hJ;exact hJ
  ·rw [decide_eq_true (by simp at e;omega),Bool.true_and]at hJ
   repeat' (refine aD ?_)
   exact RR (n:=n) (by omega) hsz ⟨_,rfl,hJ⟩
 refine ad (fun e=>?_) (fun e=>?_)
 ·(with_reducible apply cC);(assumption);(exact lh);(exact b14n);(decide);intro _ _ _ _
  repeat' (refine aD ?_)
  refine lf (by assumption) ?_
  rw [El (by intro hh;rw [decide_eq_true hh.1,hh.2]at e;cases e)];rfl
 have hh:l.length<=60/\fR l.length n=true:=by simpa using e
 have hk:=fC hh.2
 have hk3:=iX n.kind
 refine aj fun b39 h3 hb39 l3 f39=>?_
 have n39:b14≠b39:=fresh_ne hb39 f14
 have n39':b12≠b39:=fresh_ne hb39 f12
 have b39n:h b39=none:=aF lh hb39
 replace f12:=l3 _ _ f12
 replace f14:=l3 _ _ f14
 replace lh:=Hp.le_trans lh l3
 refine ap (fun J=> ∀b46 h',h.le h'->h' b12=some (.inl ⟨nodeCells n,9,false⟩)->h' b14=some (.inl ⟨[I 0,I 0],2,false⟩)->h' b39=some (.inl ⟨Dd l n 0,6,false⟩)->
  h' b46=some (.inl ⟨[I n.a,I n.b,I n.c],3,false⟩)->b46≠b39->b12≠b14->J (Sl.mk (some ⟨b46,0,none⟩) (ai n.kind).toNat 3) (((ai n.kind).toNat:Nat):Int) h') ?_ (fun J hJ=>?_)
 rotate_left
 ·repeat' (refine aD ?_)
  constructor
  ·refine aj fun b46 h4 hb46 l4 f46=>?_
   have e12:h4 b12=h3 b12:=by rw [l4 _ _ f12,f12]
   refine⟨e12,dZ ⟨_,rfl,e12,e12,e12,by decide,by simpa using hk,by simpa using hk3, .inr ⟨_,_,rfl,?_⟩⟩⟩
   exact hJ b46 h4 (Hp.le_trans lh l4) (l4 _ _ f12) (l4 _ _ f14) (l4 _ _ f39) f46 (fresh_ne hb46 f39).symm n12
  ·refine dZ ⟨_,rfl,rfl,rfl,rfl,?_⟩
   refine aj fun b46 h4 hb46 l4 f46=>?_
   have e12:h4 b12=h3 b12:=by rw [l4 _ _ f12,f12]
   refine⟨e12,by decide,by simpa using hk,by simpa using hk3, .inr ⟨_,_,rfl,?_⟩⟩
   exact hJ b46 h4 (Hp.le_trans lh l4) (l4 _ _ f12) (l4 _ _ f14) (l4 _ _ f39) f46 (fresh_ne hb46 f39).symm n12
 clear f12 f14 f39 lh l3 l1 l2 hb39 hb14 hb12
 intro b46 h4 lh f12 f14 f39 f46 n46 n12
 have hkk:((ai n.kind).toNat:Int)=ai n.kind:=by omega
 refine au (ai n.kind).toNat (fun i vs h'=>vs= [s.v, .pointer (some ⟨b12,0,none⟩), .pointer (some ⟨b14,0,none⟩), .pointer (some ⟨b39,0,none⟩), .slice (some ⟨b46,0,none⟩) (ai n.kind).toNat 3,I (ai n.kind).toNat,I i]/\
  (∀j:Nat,j<i->bW (ar l (az n j))=true)/\h.le h'/\h' b12=some (.inl ⟨nodeCells n,9,false⟩)/\h' b14=some (.inl ⟨[I 0,I 0],2,false⟩)/\h' b39=some (.inl ⟨Dd l n i,6,false⟩)/\
  h' b46=some (.inl ⟨[I n.a,I n.b,I n.c],3,false⟩)) ⟨rfl,fun j hj=>by omega,lh,f12,f14,f39,f46⟩ ?_
 clear f12 f14 f39 f46 lh h4
 rintro i _ h4 next hi ⟨rfl,hg,lh,f12,f14,f39,f46⟩ hnx
 refine⟨s,_,_,_,_,_,_,⟨some ⟨b46,0,none⟩,(ai n.kind).toNat,3⟩,_,_,rfl,?_⟩
 by_cases hlt:i<(ai n.kind).toNat
 ·have h3:i<3:=by omega
  refine aM (by simp;omega) ?_
  simp only [vm,nU f46 h3]
  refine⟨by omega,?_⟩
  have hr:=iM hh.2 h3 (by omega)
  obtain⟨m,hm⟩: ∃m,l[(az n i).toNat]?=some m:=⟨_,List.getElem?_eq_getElem (by omega)⟩
  have hsrt:=tu hm
  obtain⟨b,o,ha,_,_,_,_,_,_,c6,c7,_⟩:=(hs.mono lh).at hm
  refine⟨b,o,ha,hr.1,by omega,_,c6,_,c7,by omega,?_⟩
  (with_reducible apply cC);(assumption);(exact lh);(exact b39n);(simp [Dd];omega)
  intro h5 f5 kp l5
  rw [<-hsrt,S2 h3]at f5
  have hg5:=Vp (l:=l) (n:=n) h3
  replace f12:=cB kp n39' f12
  replace f14:=cB kp n39 f14
  replace f46:=cB kp n46 f46
  refine⟨by omega,_,by rw [ax f5];exact hg5.1,_,by rw [ax f5];exact hg5.2,sd ⟨_,rfl,?_⟩⟩
  refine ad (fun e=>?_) (fun e=>?_)
  ·(with_reducible apply cC);(assumption);(exact l5);(exact b14n);(decide);intro _ _ _ _
   repeat' (refine aD ?_)
   refine lf (by assumption) ?_
   rw [Hh h3 (by omega) (by simpa using e)];rfl
  ·rw [ay (by omega)]
   refine hnx hlt _ _ ⟨rfl,fun j hj=>?_,l5,f12,f14,f5,f46⟩
   by_cases hji:j=i
   ·subst hji;simpa using e
   ·exact hg j (by omega)
 ·have hie:i=(ai n.kind).toNat:=by omega
  subst hie
  refine aC (by simp) ?_
  have hok:P7 l n:=fun j h3 hj=>hg j (by omega)
  have hns:=Ax hh.1 hh.2 hok
  repeat' (first|(refine aD ?_)|(with_reducible refine And.intro (by omega) ?_))
  have so: ∀j:Nat,bW (eg l n (ai n.kind).toNat j)=true\/eg l n (ai n.kind).toNat j=⟨0,0⟩:=fun j=>by
   unfold eg
   split
   ·exact .inl (hg j (by omega))
   ·exact .inr rfl
  refine RS (n:=n) (a:=eg l n (ai n.kind).toNat 0) (b:=eg l n (ai n.kind).toNat 1) (c:=eg l n (ai n.kind).toNat 2) (fun hp=>?_) (so 1) (so 2) hk (fun h2=>?_) fun t q hres=>⟨_,_,_,rfl,?_⟩
  ·unfold eg;rw [if_pos (by omega)];exact hg 0 (by omega)
  ·unfold eg;rw [if_neg (by omega)]
  rw [<-hns]at hres
  unfold Res at hres
  refine aj fun b7 h7 hb7 l7 f7=>?_
  have n7:b14≠b7:=fresh_ne hb7 f14
  have b7n:=aF lh hb7
  replace f14:=l7 _ _ f14
  (with_reducible apply cC);(assumption);(exact Hp.le_trans lh l7);(exact b7n);(decide)
  intro h8 f8 kp8 l8
  replace f14:=cB kp8 n7 f14
  refine ad (fun e=>?_) (fun e=>?_)
  ·(with_reducible apply cC);(assumption);(exact l8);(exact b14n);(decide);intro _ _ _ _
   repeat' (refine aD ?_)
   refine lf (by assumption) ?_
   rw [hres,show q=false by simpa using e];rfl
  ·repeat' (refine aD ?_)
   (with_reducible apply cC);(assumption);(exact l8);(exact b14n);(decide);intro _ _ _ _
   repeat' (refine aD ?_)
   refine lf (by assumption) ?_
   rw [hres,show q=true by simpa using e];rfl
end Go.Lead
