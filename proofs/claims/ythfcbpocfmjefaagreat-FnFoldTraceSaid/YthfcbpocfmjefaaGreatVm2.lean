/- The abstract walk, part 2: what each operation asks and gives; no statement of the program. -/
import Derived.Test.YthfcbpocfmjefaaGreatVm1
namespace Go.Lead
open Go.RowKit
def w1 (x:Option Value) (k:Value->Prop):Prop:=match x with|some v=>k v|none=>False
def evs (t:Tm):List Operand->Option (List Value)
 | []=>some []
 |x::xs=>match t.ev x,evs t xs with|some v,some vs=>some (v::vs)|_,_=>none
def wL (x:Option (List Value)) (k:List Value->Prop):Prop:=match x with|some v=>k v|none=>False
structure Sl where
 a:Option Addr
 n:Nat
 c:Nat
abbrev Sl.v (s:Sl):Value:= .slice s.a s.n s.c
def exK (d:TypeDesc) (K:Value->Prop):Prop:=
 match d with
 | .int k=> ∃n:Int,K (.int k n)
 | .bool=> ∃b:Bool,K (.bool b)
 | .string=> ∃s:ByteArray,K (.string s)
 | .slice _=> ∃s:Sl,K (.slice s.a s.n s.c)
 | .pointer _=> ∃a:Option Addr,K (.pointer a)
 | .unsafePointer=> ∃b o:Nat,K (.pointer (some ⟨b,o,none⟩))
 | .map _ _=> ∃m:Option Nat,K (.map m)
 | .func _ _ _=> ∃(f:FuncId) (xs ys:Array Value),K (.func (.func f) xs ys)
 |_=> ∃v,K v
theorem R4 {d:TypeDesc} {K:Value->Prop} (h:exK d K): ∃v,K v/\ ∀K':Value->Prop,K' v->exK d K':=by
 unfold exK at h⊢
 split at h
 ·obtain⟨a,k⟩:=h;exact⟨_,k,fun K' k'=>⟨a,k'⟩⟩
 ·obtain⟨a,k⟩:=h;exact⟨_,k,fun K' k'=>⟨a,k'⟩⟩
 ·obtain⟨a,k⟩:=h;exact⟨_,k,fun K' k'=>⟨a,k'⟩⟩
 ·obtain⟨a,k⟩:=h;exact⟨_,k,fun K' k'=>⟨a,k'⟩⟩
 ·obtain⟨a,k⟩:=h;exact⟨_,k,fun K' k'=>⟨a,k'⟩⟩
 ·obtain⟨a,b,k⟩:=h;exact⟨_,k,fun K' k'=>⟨a,b,k'⟩⟩
 ·obtain⟨a,k⟩:=h;exact⟨_,k,fun K' k'=>⟨a,k'⟩⟩
 ·obtain⟨a,b,c,k⟩:=h;exact⟨_,k,fun K' k'=>⟨a,b,c,k'⟩⟩
 ·obtain⟨a,k⟩:=h;exact⟨_,k,fun K' k'=>⟨a,k'⟩⟩
def Uq (P:Program) (t:TypeId) (K:Value->Prop):Prop:=match P.underlying t with|some d=>exK d K|none=>False
theorem Gq {P:Program} {t:TypeId} {K:Value->Prop} (h:Uq P t K): ∃v,K v/\ ∀K':Value->Prop,K' v->Uq P t K':=by
 unfold Uq at h⊢
 cases e:P.underlying t with
 |none=>rw [e]at h;exact h.elim
 |some d=>rw [e]at h;exact R4 h
def Ql (P:Program) (t:TypeId) (r:Option Value) (K:Value->Prop):Prop:=Uq P t fun v=>r=some v/\K v
theorem zi {P:Program} {t:TypeId} {r:Option Value} {K:Value->Prop} (h:Ql P t r K): ∃v,r=some v/\K v/\ ∀K':Value->Prop,K' v->Ql P t r K':=by
 obtain⟨v,⟨e,k⟩,all⟩:=Gq h
 exact⟨v,e,k,fun K' k'=>all _ ⟨e,k'⟩⟩
theorem Pq {P:Program} {t:TypeId} {r:Option Value} {K:Value->Prop} (h:Ql P t r K): ∃v,r=some v/\K v:=by
 obtain⟨v,e,k,_⟩:=zi h
 exact⟨v,e,k⟩
theorem ac1 {P:Program} {t:TypeId} {r:Option Value} {K:Value->Prop} (h:Ql P t r K): ∃d,P.underlying t=some d:=by
 cases e:P.underlying t with
 |some d=>exact⟨d,rfl⟩
 |none=>unfold Ql Uq at h;rw [e]at h;exact h.elim
def yE (P:Program):Nat->TypeId->List TypeId
 |0,t=> [t]
 |d+1,t=>
  match P.underlying t with
  |some (.struct fs)=>fs.toList.flatMap fun f=>yE P d f.type
  |some (.array n e)=>(List.replicate n (yE P d e)).flatten
  |_=> [t]
def ldL (P:Program) (f:Nat->Option Value):Nat->List TypeId->(List Value->Prop)->Prop
 |_, [],K=>K []
 |o,t::ts,K=>Ql P t (f o) fun v=>ldL P f (o+1) ts fun vs=>K (v::vs)
theorem Tr {P:Program} {f:Nat->Option Value}: ∀(ts:List TypeId) (o:Nat) (K:List Value->Prop),ldL P f o ts K->
  ∃vs,vs.length=ts.length/\(∀(i:Nat) v,vs[i]?=some v->f (o+i)=some v)/\K vs
 | [],o,K,h=>⟨[],rfl,by simp,h⟩
 |t::ts,o,K,h=>by
  obtain⟨v,e,k⟩:=Pq h
  obtain⟨vs,hl,hg,hk⟩:=Tr ts (o+1) _ k
  refine⟨v::vs,by simp [hl],fun i u hu=>?_,hk⟩
  cases i with
  |zero=>simp at hu;subst hu;exact e
  |succ i=>simp at hu;have:=hg i u hu;rwa [show o+1+i=o+(i+1) by omega]at this
def vh (P:Program) (t:TypeId):Bool:=
 match P.underlying t with
 |some (.struct _)|some (.array _ _)=>true
 |_=>false
def eZ (P:Program) (t:TypeId):Nat:=match P.info? t with|some i=>i.size|none=>0
def tZ (P:Program) (t:TypeId):Nat:=match P.info? t with|some i=>i.bytes|none=>0
def NU (P:Program) (ty:TypeId) (f:Nat->Option Value) (o:Nat) (K:Value->Prop):Prop:=
 match vh P ty with
 |true=>match decide ((P.info? ty).map (·.size)=some (yE P 8 ty).length)with
  |true=>ldL P f o (yE P 8 ty) fun vs=>K (.agg vs.toArray)
  |false=>False
 |false=>Ql P ty (f o) K
def adk (v:Value) (i:Nat):Option Value:=match v with| .tuple cs=>cs.toList[i]?|_=>none
def exL (P:Program):List TypeId->(List Value->Prop)->Prop
 | [],K=>K []
 |t::ts,K=>Uq P t fun v=>exL P ts fun vs=>K (v::vs)
theorem Sk {P:Program}: ∀(ts:List TypeId) (K:List Value->Prop),exL P ts K-> ∃vs,K vs/\ ∀K':List Value->Prop,K' vs->exL P ts K'
 | [],K,h=>⟨[],h,fun K' k=>k⟩
 |t::ts,K,h=>by
  obtain⟨v,k,all⟩:=Gq h
  obtain⟨vs,k,all'⟩:=Sk ts _ k
  exact⟨v::vs,k,fun K' k'=>all _ (all' _ k')⟩
def exV (P:Program) (ty:TypeId) (K:Value->Prop):Prop:=
 match vh P ty with
 |true=>exL P (yE P 8 ty) fun vs=>K (.agg vs.toArray)
 |false=>Uq P ty K
theorem Jm {P:Program} {ty:TypeId} {K:Value->Prop} (h:exV P ty K): ∃v,K v/\ ∀K':Value->Prop,K' v->exV P ty K':=by
 unfold exV at h⊢
 split at h
 ·obtain⟨vs,k,all⟩:=Sk _ _ h
  exact⟨_,k,fun K' k'=>all _ k'⟩
 ·exact Gq h
def aef (P:Program):List TypeId->(List Value->Prop)->Prop
 | [],K=>K []
 |t::ts,K=>exV P t fun v=>aef P ts fun vs=>K (v::vs)
theorem Or {P:Program}: ∀(ts:List TypeId) (K:List Value->Prop),aef P ts K-> ∃vs,K vs/\ ∀K':List Value->Prop,K' vs->aef P ts K'
 | [],K,h=>⟨[],h,fun K' k=>k⟩
 |t::ts,K,h=>by
  obtain⟨v,k,all⟩:=Jm h
  obtain⟨vs,k,all'⟩:=Or ts _ k
  exact⟨v::vs,k,fun K' k'=>all _ (all' _ k')⟩
def Mt (P:Program) (ty:TypeId) (v:Value) (K:Value->Prop):Prop:=exV P ty fun u=>v=u/\K u
theorem tG {P:Program} {ty:TypeId} {v:Value} {K:Value->Prop} (h:Mt P ty v K):K v/\ ∀K':Value->Prop,K' v->Mt P ty v K':=by
 obtain⟨u,⟨rfl,k⟩,all⟩:=Jm h
 exact⟨k,fun K' k'=>all _ ⟨rfl,k'⟩⟩
theorem Xb {P:Program} {ty:TypeId} {v:Value} {K:Value->Prop} (h:Mt P ty v K):K v:=(tG h).1
def Lz (P:Program) (ty:TypeId) (v:Value) (K:Value->Prop):Prop:=
 match P.underlying ty with
 |some (.tuple ts)=>aef P ts.toList fun vs=>v= .tuple vs.toArray/\K (.tuple vs.toArray)
 |_=>Mt P ty v K
theorem Bi {P:Program} {ty:TypeId} {v:Value} {K:Value->Prop} (h:Lz P ty v K):K v/\ ∀K':Value->Prop,K' v->Lz P ty v K':=by
 unfold Lz at h⊢
 split at h
 ·obtain⟨vs,⟨rfl,k⟩,all⟩:=Or _ _ h
  exact⟨k,fun K' k'=>all _ ⟨rfl,k'⟩⟩
 ·exact tG h
theorem Ym {P:Program} {ty:TypeId} {v:Value} {K:Value->Prop} (h:Lz P ty v K):K v:=(Bi h).1
def bX (cs:List Value):Nat->List Value->List Value
 |_, []=>cs
 |o,v::r=>bX (cs.set o v) (o+1) r
def bJ (op:BinOp) (k:IntKind) (x y:Int):Int:=
 let a:=BitVec.ofInt k.bits x
 let b:=BitVec.ofInt k.bits y
 match op with
 | .and=>k.wrap (a&&&b).toNat
 | .or=>k.wrap (a|||b).toNat
 | .xor=>k.wrap (a^^^b).toNat
 |_=>k.wrap (a&&& ~~~b).toNat
def abU (rec:TypeId->Value->Value->Option Bool) (P:Program) (xs ys:Array Value):List Field->Option Bool
 | []=>some true
 |f::fs=>
  if f.name= "_" then none else
  match (match vh P f.type with
   |true=>rec f.type (.agg (xs.extract f.offset (f.offset+eZ P f.type))) (.agg (ys.extract f.offset (f.offset+eZ P f.type)))
   |false=>match xs[f.offset]?,ys[f.offset]? with
    |some a,some b=>rec f.type a b
    |_,_=>none),abU rec P xs ys fs with
  |some r,some r'=>some (r&&r')
  |_,_=>none
def aeq (P:Program):Nat->TypeId->Value->Value->Option Bool
 |0,_,_,_=>none
 |d+1,t,x,y=>
  match P.underlying t,x,y with
  |some .bool, .bool a, .bool b=>some (a==b)
  |some (.int _), .int k a, .int k' b=>if k=k' then some (a==b)else none
  |some .string, .string a, .string b=>some (a.toList==b.toList)
  |some (.pointer _), .pointer a, .pointer none=>some a.isNone
  |some (.pointer _), .pointer none, .pointer (some _)=>some false
  |some (.slice _), .slice a _ _, .slice none _ _=>some a.isNone
  |some (.slice _), .slice none _ _, .slice (some _) _ _=>some false
  |some (.struct fs), .agg xs, .agg ys=>if P.stoodInHeld t then none else abU (aeq P d) P xs ys fs.toList
  |_,_,_=>none
def R8 (P:Program) (op:BinOp) (xT:TypeId) (x y:Value) (K:Value->Prop):Prop:=
 match op,x,y with
 | .shl, .int k a, .int _ b=>if b<0 then False else K (.int k (k.wrap (a*2^(min b.toNat k.bits))))
 | .shr, .int k a, .int _ b=>if b<0 then False else K (.int k (a.fdiv (2^(min b.toNat k.bits))))
 |op, .int k a, .int k' b=>if k=k' then
   match op with
   | .add=>K (.int k (k.wrap (a+b)))
   | .sub=>K (.int k (k.wrap (a-b)))
   | .mul=>K (.int k (k.wrap (a*b)))
   | .quo=>if b=0 then False else K (.int k (k.wrap (a.tdiv b)))
   | .rem=>if b=0 then False else K (.int k (a.tmod b))
   | .and=>K (.int k (bJ .and k a b))
   | .or=>K (.int k (bJ .or k a b))
   | .xor=>K (.int k (bJ .xor k a b))
   | .andNot=>K (.int k (bJ .andNot k a b))
   | .eql=>K (.bool (a==b))
   | .neq=>K (.bool (a !=b))
   | .lss=>K (.bool (decide (a<b)))
   | .leq=>K (.bool (decide (a<=b)))
   | .gtr=>K (.bool (decide (a>b)))
   | .geq=>K (.bool (decide (a>=b)))
   |_=>False
  else False
 | .add, .string a, .string b=>a.size+b.size<=9223372036854775807/\K (.string (a++b))
 | .eql, .string a, .string b=>K (.bool (a.toList==b.toList))
 | .neq, .string a, .string b=>K (.bool (!(a.toList==b.toList)))
 | .lss, .string a, .string b=>K (.bool (Op.bytesLess a.toList b.toList))
 | .eql, .bool a, .bool b=>match aeq P 1 xT (.bool a) (.bool b)with|some r=>K (.bool r)|none=>False
 | .neq, .bool a, .bool b=>match aeq P 1 xT (.bool a) (.bool b)with|some r=>K (.bool (!r))|none=>False
 | .eql, .agg a, .agg b=>match P.eqGuardType P.depth xT with
  |true=>False
  |false=>match aeq P 6 xT (.agg a) (.agg b)with|some r=>K (.bool r)|none=>False
 | .neq, .agg a, .agg b=>match P.eqGuardType P.depth xT with
  |true=>False
  |false=>match aeq P 6 xT (.agg a) (.agg b)with|some r=>K (.bool (!r))|none=>False
 | .eql, .slice a n c, .slice b m e=>match aeq P 1 xT (.slice a n c) (.slice b m e)with|some r=>K (.bool r)|none=>False
 | .neq, .slice a n c, .slice b m e=>match aeq P 1 xT (.slice a n c) (.slice b m e)with|some r=>K (.bool (!r))|none=>False
 | .eql, .pointer a, .pointer b=>match aeq P 1 xT (.pointer a) (.pointer b)with|some r=>K (.bool r)|none=>False
 | .neq, .pointer a, .pointer b=>match aeq P 1 xT (.pointer a) (.pointer b)with|some r=>K (.bool (!r))|none=>False
 |_,_,_=>False
def aun (op:UnOp) (x:Value) (K:Value->Prop):Prop:=
 match op,x with
 | .neg, .int k n=>K (.int k (k.wrap (0-n)))
 | .xor, .int k n=>K (.int k (bJ .xor k (if k.signed then-1 else k.max) n))
 | .not, .bool b=>K (.bool !b)
 |_,_=>False
def fK (bs:List UInt8):List Value:=bs.map fun x=> .int .u8 (Int.ofNat x.toNat)
def ji (h:Hp) (b o:Nat) (vs:List Value):Prop:= ∀(i:Nat) v,vs[i]?=some v->h.cell b (o+i)=some v
def pF (h:Hp) (a:Option Addr) (n:Nat) (vs:List Value):Prop:=
 vs.length=n/\(n=0\/ ∃b o,a=some ⟨b,o,none⟩/\ji h b o vs)
def Ow (P:Program) (src dst:TypeId) (x:Value) (h:Hp) (K:Value->Hp->Prop):Prop:=
 match P.underlying src,P.underlying dst,x with
 |some (.int _),some (.int k), .int _ n=>K (.int k (k.wrap n)) h
 |some .string,some .string, .string s=>K (.string s) h
 |some (.slice e),some .string, .slice a n _=>match P.underlying e with
  |some (.int .u8)=> ∃bs:List UInt8,pF h a n (fK bs)/\K (.string ⟨bs.toArray⟩) h
  |_=>False
 |some .string,some (.slice e), .string s=>match P.underlying e with
  |some (.int .u8)=> ∀b c,h b=none->s.size<=c->K (.slice (some ⟨b,0,none⟩) s.size c) (h.set b (some (.inl ⟨fK s.toList,c,true⟩)))
  |_=>False
 |_,_,_=>False
def uC (t:Tm):List (Nat×Operand)->Option (List (Nat×Value))
 | []=>some []
 |(i,x)::xs=>match t.ev x,uC t xs with|some v,some vs=>some ((i,v)::vs)|_,_=>none
def Ut (P:Program) (t:TypeId) (parts:List (Nat×Value)):Option (Array Value):=
 match P.info? t,P.underlying t with
 |some i,some (.struct fs)=>match i.zero,fs.toList.all (fun f=>(P.info? f.type).isSome)with
  |some z,true=>Instr.fill ((fs.map fun f=>(f.offset,eZ P f.type))[·]?) z.cells parts
  |_,_=>none
 |some i,some (.array _ e)=>match i.zero,(P.info? e).isSome with
  |some z,true=>Instr.fill (fun i=>some (i*eZ P e,eZ P e)) z.cells parts
  |_,_=>none
 |_,_=>none
def aR (z:Array Value) (n:Nat):List Value:=(List.range n).map (fun i=>z[i%z.size]!)
def P0 (P:Program) (e:TypeId) (len:Nat) (parts:List (Nat×Value)):Option (Array Value):=
 match P.info? e with
 |some i=>match i.zero with
  |some z=>if len*i.size>2^24 then none else
   Instr.fill (fun k=>some (k*i.size,i.size)) (aR z.cells (len*i.size)).toArray parts
  |none=>none
 |none=>none
def cy (h:Hp) (base:Option Addr) (n cap:Nat) (src:Option Addr) (m sz by_:Nat) (K:Option Addr->Nat->Nat->Hp->Prop):Prop:=
 (m=0/\n<=cap/\K base n cap h)\/
 (0<m/\(n+m)*by_<=140737488355328/\n+m<=9223372036854775807/\ ∃sb so news,src=some ⟨sb,so,none⟩/\news.length=m*sz/\ji h sb so news/\news.all (·.oneCell')=true/\
  ((cap<n+m/\ ∃olds,pF h base (n*sz) olds/\(base=none->n=0/\cap=0)/\
    ∀b c,h b=none->n+m<=c->K (some ⟨b,0,none⟩) (n+m) c (h.row b (olds++news) (c*sz)))\/
   (∃b all,base=some ⟨b,0,none⟩/\h b=some (.inl ⟨all,cap*sz,false⟩)/\n*sz<=all.length/\
    ∀b' c,(b'=b\/h b'=none)->n+m<=c->K (some ⟨b',0,none⟩) (n+m) c ((h.set b none).row b' (all.take (n*sz)++news) (c*sz)))))
def gW (eq:Value->Option Bool):List (Value×Value)->Nat->Option (Option (Nat×Value))
 | [],_=>some none
 |e::es,i=>
  match eq e.1 with
  |some true=>some (some (i,e.2))
  |some false=>gW eq es (i+1)
  |none=>none
def Hm (P:Program) (keyT:TypeId) (k:Value):Value->Option Bool:=
 match P.underlying keyT with
 |some (.struct _)=>aeq P 3 keyT k
 |some d=>Instr.sameNow d k
 |none=>fun _=>none
def rO (P:Program) (t:TypeId):Bool:=
 match P.underlying t with
 |some (.int _)|some .string|some .bool=>true
 |_=>false
def FA (P:Program) (t:TypeId) (k:Value):Bool:=
 match P.underlying t,k with
 |some (.struct fs), .agg cs=>fs.toList.all fun f=>f.name != "_" &&rO P f.type&&(cs[f.offset]?).isSome
 |some (.int _),_|some .string,_|some .bool,_=>true
 |_,_=>false
def yW (m:List (Value×Value)) (k v:Value):Option (Nat×Value)->List (Value×Value)
 |some (i,_)=>m.set i (k,v)
 |none=>m++ [(k,v)]
def wM (P:Program) (t:TypeId):Option Value:=match P.info? t with|some i=>i.zero|none=>none
def xQ (P:Program) (e:TypeId):Bool:=
 match P.info? e with
 |some i=>match i.zero with
  |some z=>decide (z.cells.size=i.size)
  |none=>false
 |none=>false
def xj (t:Tm) (x:Option Operand) (d:Nat) (K:Int->Prop):Prop:=
 match x with
 |none=>K (Int.ofNat d)
 |some x=>w1 (t.ev x) fun v=>match v with| .int _ n=>K n|_=>False
def kB (P:Program) (b:Builtin) (argTypes:Array TypeId) (vs:List Value) (h:Hp) (K:Value->Hp->Prop):Prop:=
 match b,vs with
 | .len, [.slice _ n _]=>match (argTypes[0]?).bind P.underlying with
  |some (.slice _)=>K (.int .i64 n) h
  |_=>False
 | .len, [.string s]=>match (argTypes[0]?).bind P.underlying with
  |some .string=>K (.int .i64 s.size) h
  |_=>False
 | .len, [.map m]=>match (argTypes[0]?).bind P.underlying with
  |some (.map _ _)=> ∃r es,m=some r/\h r=some (.inr es)/\K (.int .i64 es.length) h
  |_=>False
 | .append, [.slice a n c, .slice a' n' _]=>match argTypes[0]?,argTypes[1]? with
  |some s,some s'=>match decide (s=s'/\argTypes.size=2),P.underlying s with
   |true,some (.slice e)=>match xQ P e with
    |true=>cy h a n c a' n' (eZ P e) (tZ P e) fun a n c h=>K (.slice a n c) h
    |false=>False
   |_,_=>False
  |_,_=>False
 | .append, [.slice a n c, .int _ m]=>match argTypes[0]?,argTypes[1]? with
  |some s,some s'=>match decide (argTypes.size=2),P.underlying s,P.underlying s' with
   |true,some (.slice e),some (.int _)=>match xQ P e,wM P e with
    |true,some z=>a=none/\n=0/\c=0/\0<m/\0<eZ P e/\m*((tZ P e:Nat):Int)<=140737488355328/\m<=9223372036854775807/\
      ∀b c',h b=none->Int.toNat m<=c'->K (.slice (some ⟨b,0,none⟩) (Int.toNat m) c') (h.row b (aR z.cells (Int.toNat m*eZ P e)) (c'*eZ P e))
    |_,_=>False
   |_,_,_=>False
  |_,_=>False
 | .max, [.int k x, .int _ y]=>K (.int k (if y>x then y else x)) h
 | .min, [.int k x, .int _ y]=>K (.int k (if y<x then y else x)) h
 | .clear, [.slice a n _]=>match (argTypes[0]?).bind P.underlying with
  |some (.slice e)=>match wM P e with
   |some z=>(n=0/\K (.tuple #[]) h)\/ ∃b o cs sz,a=some ⟨b,o,none⟩/\h b=some (.inl ⟨cs,sz,false⟩)/\o+n*z.cells.size<=cs.length/\
     z.cells.toList.all (·.oneCell')=true/\0<n/\K (.tuple #[]) (h.row b (bX cs o (aR z.cells (n*z.cells.size))) sz)
   |none=>False
  |_=>False
 | .cap, [.slice _ _ c]=>match (argTypes[0]?).bind P.underlying with
  |some (.slice _)=>K (.int .i64 c) h
  |_=>False
 |_,_=>False
def aop (P:Program) (o:Oper) (t:Tm) (h:Hp) (K:Value->Hp->Prop):Prop:=
 match o.op with
 | .move x| .assign x=>w1 (t.ev x) fun v=>K v h
 | .pick c a b=>w1 (t.ev c) fun vc=>match vc with
  | .bool true=>w1 (t.ev a) fun v=>K v h
  | .bool false=>w1 (t.ev b) fun v=>K v h
  |_=>False
 | .alloc e=>match wM P e with
  |some z=> ∀b,h b=none->K (.pointer (some ⟨b,0,none⟩)) (h.row b z.cells.toList z.cells.size)
  |none=>False
 | .box _ x=>w1 (t.ev x) fun v=> ∀b,h b=none->K (.pointer (some ⟨b,0,none⟩)) (h.row b v.cells.toList v.cells.size)
 | .build ty parts=>match uC t parts.toList with
  |some vs=>match Ut P ty vs with
   |some cs=>K (.agg cs) h
   |none=>False
  |none=>False
 | .buildSlice ty len parts=>match P.underlying ty,uC t parts.toList with
  |some (.slice e),some vs=>match P0 P e len vs with
   |some cs=> ∀b,h b=none->K (.slice (some ⟨b,0,none⟩) len len) (h.row b cs.toList cs.size)
   |none=>False
  |_,_=>False
 | .load ty x=>w1 (t.ev x) fun v=>match v with
  | .pointer (some ⟨b,o,none⟩)=>NU P ty (h.cell b) o fun v=>K v h
  |_=>False
 | .store ty x y=>w1 (t.ev x) fun vx=>w1 (t.ev y) fun vy=>match vx with
  | .pointer (some ⟨b,o,none⟩)=>match decide ((P.info? ty).map (·.size)=some vy.cells.size)&&vy.cells.toList.all (·.oneCell')with
   |true=> ∃cs sz,h b=some (.inl ⟨cs,sz,false⟩)/\o+vy.cells.size<=cs.length/\K undef (h.row b (bX cs o vy.cells.toList) sz)
   |false=>False
  |_=>False
 | .nilCheck x=>w1 (t.ev x) fun v=>match v with
  | .pointer a=> ∃b o,a=some ⟨b,o,none⟩/\K (.pointer (some ⟨b,o,none⟩)) h
  | .func (.func f) xs ys=>K (.func (.func f) xs ys) h
  |_=>False
 | .binOp op xT x y _=>w1 (t.ev x) fun vx=>w1 (t.ev y) fun vy=>R8 P op xT vx vy fun v=>K v h
 | .unOp op _ x=>w1 (t.ev x) fun vx=>aun op vx fun v=>K v h
 | .convert src dst x=>w1 (t.ev x) fun v=>Ow P src dst v h K
 | .makeFunc (.func f) xs ys=>wL (evs t xs.toList) fun vs=>wL (evs t ys.toList) fun us=>K (.func (.func f) vs.toArray us.toArray) h
 | .makeMap _ none=> ∀b,h b=none->K (.map (some b)) (h.set b (some (.inr [])))
 | .makeSlice ty l c=>w1 (t.ev l) fun vl=>w1 (t.ev c) fun vc=>match P.underlying ty with
  |some (.slice e)=>match vl,vc,wM P e with
   | .int .i64 n, .int .i64 m,some z=>0<=n/\n<=m/\m*tZ P e<=140737488355328/\m<=9223372036854775807/\
     ∀b,h b=none->K (.slice (some ⟨b,0,none⟩) n.toNat m.toNat) (h.row b (aR z.cells (m.toNat*eZ P e)) (m.toNat*eZ P e))
   |_,_,_=>False
  |_=>False
 | .slice ty x lo hi none=>w1 (t.ev x) fun v=>match P.underlying ty,v with
  |some .string, .string s=>xj t lo 0 fun l=>xj t hi s.size fun u=>0<=l/\l<=u/\u<=s.size/\K (.string (s.extract l.toNat u.toNat)) h
  |some (.slice e), .slice a n c=>match (P.info? e).isSome with
   |false=>False
   |true=>xj t lo 0 fun l=>xj t hi n fun u=>0<=l/\l<=u/\u<=c/\
    ((a=none/\K (.slice none (u.toNat-l.toNat) (c-l.toNat)) h)\/
     ∃b o,a=some ⟨b,o,none⟩/\K (.slice (some ⟨b,if c=l.toNat then o else o+l.toNat*eZ P e,none⟩) (u.toNat-l.toNat) (c-l.toNat)) h)
  |_,_=>False
 | .slice ty x none (some (.const (.int .i64 0))) (some (.const (.int .i64 0)))=>w1 (t.ev x) fun v=>match P.underlying ty,v with
  |some (.slice e), .slice a _ _=>match (P.info? e).isSome with
   |true=>K (.slice a 0 0) h
   |false=>False
  |_,_=>False
 | .fieldAddr s x f=>w1 (t.ev x) fun v=>match P.underlying s with
  |some (.struct fs)=>match fs[f]? with
   |some fd=>match v with
    | .pointer (some ⟨b,o,none⟩)=>match decide (eZ P fd.type=0)with
     |true=>False
     |false=>K (.pointer (some ⟨b,o+fd.offset,none⟩)) h
    |_=>False
   |none=>False
  |_=>False
 | .field s x f=>w1 (t.ev x) fun v=>match P.underlying s,v with
  |some (.struct fs), .agg cs=>match fs[f]? with
   |some fd=>match vh P fd.type with
    |true=>K (.agg (cs.extract fd.offset (fd.offset+eZ P fd.type))) h
    |false=>match (P.underlying fd.type).isSome,cs[fd.offset]? with
     |true,some u=>K u h
     |_,_=>False
   |none=>False
  |_,_=>False
 | .indexAddr ty x i=>w1 (t.ev x) fun v=>w1 (t.ev i) fun vi=>match P.underlying ty,v,vi with
  |some (.slice e), .slice a n _, .int _ i=>match (P.info? e).isSome with
   |false=>False
   |true=> ∃b o,a=some ⟨b,o,none⟩/\0<=i/\i<n/\K (.pointer (some ⟨b,o+i.toNat*eZ P e,none⟩)) h
  |some (.array n e), .pointer (some ⟨b,o,none⟩), .int _ i=>match (P.info? e).isSome with
   |false=>False
   |true=>0<=i/\i<n/\K (.pointer (some ⟨b,o+i.toNat*eZ P e,none⟩)) h
  |_,_,_=>False
 | .index ty x i=>w1 (t.ev x) fun v=>w1 (t.ev i) fun vi=>match P.underlying ty,v,vi with
  |some .string, .string s, .int _ i=>0<=i/\ ∃c:UInt8,s[i.toNat]?=some c/\K (.int .u8 c.toNat) h
  |_,_,_=>False
 | .lookup ty x i ok=>w1 (t.ev x) fun v=>w1 (t.ev i) fun vi=>match P.underlying ty,v with
  |some (.map kT eT), .map m=>match wM P eT,FA P kT vi with
   |some z,true=> ∃r es res,m=some r/\h r=some (.inr es)/\gW (Hm P kT vi) es 0=some res/\
     Mt P eT ((res.map (·.2)).getD z) fun u=>K (match ok with|true=> .tuple #[u, .bool res.isSome]|false=>u) h
   |_,_=>False
  |_,_=>False
 | .mapUpdate ty x k y| .insert ty x k y=>w1 (t.ev x) fun v=>w1 (t.ev k) fun vk=>w1 (t.ev y) fun vy=>match P.underlying ty,v with
  |some (.map kT _), .map m=>match FA P kT vk with
   |true=> ∃r es res,m=some r/\h r=some (.inr es)/\gW (Hm P kT vk) es 0=some res/\(match rO P kT with|true=>True|false=>res=none)/\
     K undef (h.set r (some (.inr (yW es vk vy res))))
   |false=>False
  |_,_=>False
 | .extract x i=>w1 (t.ev x) fun v=>w1 (adk v i) fun u=>K u h
 | .makeInterface ty x=>w1 (t.ev x) fun v=>match P.underlying ty with
  |some (.interface _)=>False
  |some _=>K (.iface ty v) h
  |none=>False
 | .call c=>match c.callee with
  | .builtin b=>wL (evs t c.args.toList) fun vs=>kB P b c.argTypes vs h K
  | .value f=>w1 (t.ev f) fun vf=>wL (evs t c.args.toList) fun vs=>match vf with
   | .func (.func g) xs ys=>ACalls P g ((xs++vs.toArray)++ys) h fun v h'=>Lz P o.type v fun v=>K v h'
   |_=>False
  |_=>False
 |_=>False
end Go.Lead
