/- The abstract walk, part 10: how lists lie in memory, and small steps of walks; no statement of the program. -/
import Derived.Test.YthfcbpocfmjefaaGreatVm9
namespace Go.Lead
open Go
set_option linter.unusedVariables false
theorem cd {n:Int} (h1: -9223372036854775808<=n) (h2:n<=9223372036854775807):W n=n:=by
 show IntKind.i64.wrap n=n
 rw [IntKind.wrap_i64];omega
theorem fW {n:Nat} (h:n<=9223372036854775807):W (n:Int)=n:=cd (by omega) (by omega)
theorem ay {n:Nat} (h:n<9223372036854775807):W ((n:Int)+1)=((n+1:Nat):Int):=by rw [cd (by omega) (by omega)];omega
theorem S7 (x y:Prop):ac true x y=x:=rfl
theorem PT (x y:Prop):ac false x y=y:=rfl
theorem aM {b:Bool} {x y:Prop} (h:b=true) (k:x):ac b x y:=by subst h;exact k
theorem aC {b:Bool} {x y:Prop} (h:b=false) (k:y):ac b x y:=by subst h;exact k
section
variable {α :Sort _}
theorem afD (b o:Nat) (p:Nat->Nat->Prop):(∃b' o',some (Addr.mk b o none)=some (Addr.mk b' o' none)/\p b' o')=p b o:=by
 apply propext;constructor
 ·rintro ⟨b',o',e,k⟩;cases e;exact k
 ·exact fun k=>⟨b,o,rfl,k⟩
theorem agZ (x:Int) (p:Int->Prop):(∃y:Int,some (I x)=some (I y)/\p y)=p x:=by
 apply propext;constructor
 ·rintro ⟨y,e,k⟩;cases e;exact k
 ·exact fun k=>⟨x,rfl,k⟩
theorem ae7 (j:IntKind) (x:Int) (p:Int->Prop):(∃y:Int,some (Value.int j x)=some (Value.int j y)/\p y)=p x:=by
 apply propext;constructor
 ·rintro ⟨y,e,k⟩;cases e;exact k
 ·exact fun k=>⟨x,rfl,k⟩
theorem aeE (x:Bool) (p:Bool->Prop):(∃y:Bool,some (Value.bool x)=some (Value.bool y)/\p y)=p x:=by
 apply propext;constructor
 ·rintro ⟨y,e,k⟩;cases e;exact k
 ·exact fun k=>⟨x,rfl,k⟩
theorem agE (x:ByteArray) (p:ByteArray->Prop):(∃y:ByteArray,some (Value.string x)=some (Value.string y)/\p y)=p x:=by
 apply propext;constructor
 ·rintro ⟨y,e,k⟩;cases e;exact k
 ·exact fun k=>⟨x,rfl,k⟩
theorem aiu (a:Option Addr) (n c:Nat) (p:Sl->Prop):(∃y:Sl,some (Value.slice a n c)=some y.v/\p y)=p ⟨a,n,c⟩:=by
 apply propext;constructor
 ·rintro ⟨⟨a',n',c'⟩,e,k⟩;cases e;exact k
 ·exact fun k=>⟨_,rfl,k⟩
theorem agU (x:Sl) (p:Sl->Prop):(∃y:Sl,some x.v=some y.v/\p y)=p x:=by
 obtain⟨a,n,c⟩:=x
 apply propext;constructor
 ·rintro ⟨⟨a',n',c'⟩,e,k⟩;cases e;exact k
 ·exact fun k=>⟨_,rfl,k⟩
theorem agP (x:Option Addr) (p:Option Addr->Prop):(∃y:Option Addr,some (Value.pointer x)=some (Value.pointer y)/\p y)=p x:=by
 apply propext;constructor
 ·rintro ⟨y,e,k⟩;cases e;exact k
 ·exact fun k=>⟨x,rfl,k⟩
theorem ahn (x:Option Nat) (p:Option Nat->Prop):(∃y:Option Nat,some (Value.map x)=some (Value.map y)/\p y)=p x:=by
 apply propext;constructor
 ·rintro ⟨y,e,k⟩;cases e;exact k
 ·exact fun k=>⟨x,rfl,k⟩
theorem aie (f:FuncId) (u w:Array Value) (p:FuncId->Array Value->Array Value->Prop):
  (∃(f':FuncId) (u' w':Array Value),some (Value.func (.func f) u w)=some (Value.func (.func f') u' w')/\p f' u' w')=p f u w:=by
 apply propext;constructor
 ·rintro ⟨f',u',w',e,k⟩;cases e;exact k
 ·exact fun k=>⟨f,u,w,rfl,k⟩
end
theorem nn (n:Nat):((0:Int)<=(n:Int))=True:=by simp
theorem vm :(∀(b o:Nat) (p:Nat->Nat->Prop),(∃b' o',some (Addr.mk b o none)=some (Addr.mk b' o' none)/\p b' o')=p b o)/\
  (∀(x:Int) (p:Int->Prop),(∃y:Int,some (I x)=some (I y)/\p y)=p x)/\
  (∀(j:IntKind) (x:Int) (p:Int->Prop),(∃y:Int,some (Value.int j x)=some (Value.int j y)/\p y)=p x)/\
  (∀(x:Bool) (p:Bool->Prop),(∃y:Bool,some (Value.bool x)=some (Value.bool y)/\p y)=p x)/\
  (∀(x:ByteArray) (p:ByteArray->Prop),(∃y:ByteArray,some (Value.string x)=some (Value.string y)/\p y)=p x)/\
  (∀(x:Sl) (p:Sl->Prop),(∃y:Sl,some x.v=some y.v/\p y)=p x)/\
  (∀(a:Option Addr) (n c:Nat) (p:Sl->Prop),(∃y:Sl,some (Value.slice a n c)=some y.v/\p y)=p ⟨a,n,c⟩)/\
  (∀(x:Option Addr) (p:Option Addr->Prop),(∃y:Option Addr,some (Value.pointer x)=some (Value.pointer y)/\p y)=p x)/\
  (∀(x:Option Nat) (p:Option Nat->Prop),(∃y:Option Nat,some (Value.map x)=some (Value.map y)/\p y)=p x)/\
  (∀(f:FuncId) (u w:Array Value) (p:FuncId->Array Value->Array Value->Prop),
   (∃(f':FuncId) (u' w':Array Value),some (Value.func (.func f) u w)=some (Value.func (.func f') u' w')/\p f' u' w')=p f u w)/\
  (∀x y:Prop,ac true x y=x)/\(∀x y:Prop,ac false x y=y)/\(∀n:Nat,Int.toNat (n:Int)=n)/\(∀n:Nat,n*1=n)/\
  (∀n:Nat,((0:Int)<=(n:Int))=True)/\(∀p:Prop,(True/\p)=p)/\(∀n:Nat,(0+n)=n):=
 ⟨afD,agZ,ae7,aeE,agE,agU,aiu,agP,ahn,aie,S7,PT,Int.toNat_natCast,Nat.mul_one,nn,true_and,Nat.zero_add⟩
theorem bU (h:Hp) (b:Nat) (cs:List Value) (n:Nat):(h.row b cs n) b=some (.inl ⟨cs,n,false⟩):=Hp.set_eq _ _ _
theorem cl {h:Hp} {b c:Nat} (cs:List Value) (n:Nat) (e:c≠b):(h.row b cs n) c=h c:=Hp.set_ne _ _ e
theorem ax {h:Hp} {b:Nat} {cs:List Value} {n:Nat} {ro:Bool} (e:h b=some (.inl ⟨cs,n,ro⟩)) (o:Nat):Hp.cell h b o=cs[o]?:=by simp [Hp.cell,e]
theorem tK (h:Hp) (b:Nat) (cs:List Value) (n o:Nat):Hp.cell (h.row b cs n) b o=cs[o]?:=ax (bU h b cs n) o
theorem aeI {h:Hp} {b c:Nat} (cs:List Value) (n o:Nat) (e:c≠b):Hp.cell (h.row b cs n) c o=Hp.cell h c o:=by simp [Hp.cell,cl cs n e]
theorem gn {h:Hp} {b:Nat} (cs:List Value) (n:Nat) (e:h b=none):h.le (h.row b cs n):=Hp.le_set _ e
theorem Hp.le.cell {h h':Hp} (l:h.le h') {b o:Nat} {v:Value} (e:Hp.cell h b o=some v):Hp.cell h' b o=some v:=by
 unfold Hp.cell at e⊢
 split at e
 ·rename_i r hr;rw [l _ _ hr];exact e
 ·cases e
theorem fresh_ne {h:Hp} {b c:Nat} {x:Blk} (e:h b=none) (f:h c=some x):c≠b:=fun hcb=>by rw [hcb,e]at f;cases f
theorem zV {h:Hp} {b c o:Nat} {v:Value} (e:h b=none) (f:Hp.cell h c o=some v):c≠b:=by
 intro hcb;subst hcb;simp [Hp.cell,e]at f
def SlC (h:Hp) (s:Sl) (sz:Nat) (cs:List Value):Prop:=
 s.n<=9223372036854775807/\cs.length=s.n*sz/\(s.n=0\/ ∃b o,s.a=some (Addr.mk b o none)/\ji h b o cs)
theorem SlC.mono {h h':Hp} {s:Sl} {sz:Nat} {cs:List Value} (l:h.le h') (e:SlC h s sz cs):SlC h' s sz cs:=by
 refine⟨e.1,e.2.1,e.2.2.imp id ?_⟩
 rintro ⟨b,o,ha,hc⟩
 exact⟨b,o,ha,fun i v hv=>l.cell (hc i v hv)⟩
theorem SlC.get {h:Hp} {s:Sl} {sz:Nat} {cs:List Value} (e:SlC h s sz cs) (hpos:0<s.n): ∃b o,s.a=some (Addr.mk b o none)/\ ∀(i:Nat) v,cs[i]?=some v->Hp.cell h b (o+i)=some v:=by
 rcases e.2.2 with h0|h0
 ·omega
 ·exact h0
def IntS (h:Hp) (s:Sl) (xs:List Int):Prop:=SlC h s 1 (xs.map I)
theorem IntS.mono {h h':Hp} {s:Sl} {xs:List Int} (l:h.le h') (e:IntS h s xs):IntS h' s xs:=SlC.mono l e
theorem IntS.len {h:Hp} {s:Sl} {xs:List Int} (e:IntS h s xs):s.n=xs.length:=by have:=e.2.1;simp at this;omega
theorem IntS.bound {h:Hp} {s:Sl} {xs:List Int} (e:IntS h s xs):xs.length<=9223372036854775807:=by rw [<-e.len];exact e.1
theorem IntS.at {h:Hp} {s:Sl} {xs:List Int} (e:IntS h s xs) {i:Nat} (hi:i<xs.length):
  ∃b o,s.a=some (Addr.mk b o none)/\Hp.cell h b (o+i)=some (I xs[i]):=by
 have hl:=e.len
 obtain⟨b,o,ha,hc⟩:=SlC.get e (by omega)
 exact⟨b,o,ha,hc i _ (by simp [hi])⟩
theorem au {F:List Value->Hp->(List Value->Hp->Prop)->Prop} {vs:List Value} {h:Hp} (n:Nat) (st:Nat->List Value->Hp->Prop)
  (h0:st 0 vs h) (step: ∀i vs h next,i<=n->st i vs h->(i<n-> ∀vs' h',st (i+1) vs' h'->next vs' h')->F vs h next):aJ F vs h:=by
 refine⟨fun m vs h=> ∃i,i<=n/\m=n-i/\st i vs h,⟨n,0,by omega,by omega,h0⟩,?_⟩
 rintro _ vs h ⟨i,hi,rfl,hs⟩
 exact step i vs h _ hi hs fun hlt vs' h' hs'=>⟨n-(i+1),by omega,i+1,by omega,rfl,hs'⟩
theorem nA {F:List Value->Hp->(List Value->Hp->Prop)->Prop} {vs:List Value} {h:Hp} (n:Nat) (st:Nat->List Value->Hp->Prop)
  (h0:st n vs h) (step: ∀m vs h next,st m vs h->(∀k,k<m-> ∀vs h',st k vs h'->next vs h')->F vs h next):aJ F vs h:=
 ⟨st,⟨n,h0⟩,fun m vs h hs=>step m vs h _ hs fun k hk vs' h' hs'=>⟨k,hk,hs'⟩⟩
end Go.Lead
