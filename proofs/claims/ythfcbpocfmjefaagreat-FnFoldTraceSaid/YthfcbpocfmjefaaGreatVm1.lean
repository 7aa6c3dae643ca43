/- The abstract walk, part 1: a partial heap that a world bears out, partial temporaries, and what an operation must do; no statement of the program. -/
import Derived.WalkKit
import Derived.Below
import Derived.KernelRfl
namespace Go.Lead
open Go.RowKit
structure Row where
 cells:List Value
 size:Nat
 ro:Bool
abbrev Blk :=Sum Row (List (Value×Value))
abbrev Hp :=Nat->Option Blk
def Hp.cell (h:Hp) (b o:Nat):Option Value:=
 match h b with
 |some (.inl r)=>r.cells[o]?
 |_=>none
def Hp.set (h:Hp) (b:Nat) (x:Option Blk):Hp:=fun c=>if c=b then x else h c
def Hp.row (h:Hp) (b:Nat) (cs:List Value) (n:Nat):Hp:=h.set b (some (.inl ⟨cs,n,false⟩))
def Hp.le (h h':Hp):Prop:= ∀b x,h b=some x->h' b=some x
theorem Hp.le_refl (h:Hp):h.le h:=fun _ _ e=>e
theorem Hp.le_trans {a b c:Hp} (x:a.le b) (y:b.le c):a.le c:=fun k v e=>y k v (x k v e)
theorem Hp.set_eq (h:Hp) (b:Nat) (x:Option Blk):h.set b x b=x:=by simp [Hp.set]
theorem Hp.set_ne (h:Hp) {b c:Nat} (x:Option Blk) (e:c≠b):h.set b x c=h c:=by simp [Hp.set,e]
theorem Hp.le_set {h:Hp} {b:Nat} (x:Option Blk) (e:h b=none):h.le (h.set b x):=by
 intro c v hc
 by_cases hcb:c=b
 ·subst hcb;rw [e]at hc;cases hc
 ·rw [Hp.set_ne _ _ hcb];exact hc
structure Rel (N:Nat) (w0:World) (h:Hp) (w:World):Prop where
 below:Below N w0 w
 row: ∀b r,h b=some (.inl r)-> ∃(c:Array Value) (T:TypeId) (lo hi:Nat),w.heap[b]?=some (.cells c T (lo,hi))/\c.size=r.size/\
  (∀(i:Nat) (v:Value),r.cells[i]?=some v->c[i]?=some v)/\(r.ro=false->N<=b/\ ∀i,i<r.size->(decide (lo<=i)&&decide (i<hi))=false)
 map: ∀b m,h b=some (.inr m)->N<=b/\ ∃(es:Array MapEntry) (clk:Nat),w.heap[b]?=some (.map es clk)/\es.toList.map (fun e=>(e.key,e.val))=m
theorem Rel.weaken {N:Nat} {w0 w:World} {h h':Hp} (r:Rel N w0 h w) (l:h'.le h):Rel N w0 h' w:=
 ⟨r.below,fun b x e=>r.row b x (l _ _ e),fun b m e=>r.map b m (l _ _ e)⟩
theorem Rel.lt {N:Nat} {w0 w:World} {h:Hp} (r:Rel N w0 h w) {b:Nat} {x:Blk} (e:h b=some x):b<w.heap.size:=by
 rcases x with x|x
 ·obtain⟨c,T,lo,hi,hw,_⟩:=r.row b x e
  exact(Array.getElem?_eq_some_iff.1 hw).1
 ·obtain⟨_,es,clk,hw,_⟩:=r.map b x e
  exact(Array.getElem?_eq_some_iff.1 hw).1
theorem Rel.fresh {N:Nat} {w0 w:World} {h:Hp} (r:Rel N w0 h w):h w.heap.size=none:=by
 cases e:h w.heap.size with
 |none=>rfl
 |some x=>exact absurd (r.lt e) (Nat.lt_irrefl _)
theorem Rel.size {N:Nat} {w0 w:World} {h:Hp} (r:Rel N w0 h w) (hN:N<=w0.heap.size):N<=w.heap.size:=Nat.le_trans hN r.below.size
theorem Rel.cell {N:Nat} {w0 w:World} {h:Hp} (r:Rel N w0 h w) {b o:Nat} {v:Value} (e:h.cell b o=some v):w.cell? ⟨b,o,none⟩=some v:=by
 unfold Hp.cell at e
 split at e
 ·rename_i x hx
  obtain⟨c,T,lo,hi,hw,_,hc,_⟩:=r.row b x hx
  simp [World.cell?,hw,hc _ _ e]
 ·cases e
theorem Rel.drew {N:Nat} {w0 w:World} {h:Hp} (r:Rel N w0 h w):Rel N w0 h {w with drawn:=w.drawn+1}:=
 ⟨⟨r.below.os,r.below.tape,r.below.output,r.below.size,r.below.block⟩,r.row,r.map⟩
theorem Rel.alloc {N:Nat} {w0 w:World} {h:Hp} (r:Rel N w0 h w) (hN:N<=w.heap.size) (c:Array Value) (T:TypeId) (cs:List Value)
  (hcs: ∀(i:Nat) v,cs[i]?=some v->c[i]?=some v):
  Rel N w0 (h.set w.heap.size (some (.inl ⟨cs,c.size,false⟩))) {w with heap:=w.heap.push (.cells c T)}:=by
 have hget: ∀b,b<w.heap.size->(w.heap.push (.cells c T))[b]?=w.heap[b]?:=fun b hb=>by rw [Array.getElem?_push,if_neg (by omega)]
 have hlast:(w.heap.push (.cells c T))[w.heap.size]?=some (.cells c T):=by simp
 refine⟨⟨r.below.os,r.below.tape,r.below.output,?_,?_⟩,?_,?_⟩
 ·have:=r.below.size;simp;omega
 ·intro k hk;rw [hget k (by omega)];exact r.below.block k hk
 ·intro b x e
  by_cases hb:b=w.heap.size
  ·subst hb;rw [Hp.set_eq]at e;cases e
   exact⟨c,T,0,0,hlast,rfl,hcs,fun _=>⟨hN,fun i _=>by simp⟩⟩
  ·rw [Hp.set_ne _ _ hb]at e
   have:=r.lt e
   simpa only [hget b this] using r.row b x e
 ·intro b x e
  by_cases hb:b=w.heap.size
  ·subst hb;rw [Hp.set_eq]at e;cases e
  ·rw [Hp.set_ne _ _ hb]at e
   have:=r.lt e
   simpa only [hget b this] using r.map b x e
theorem Rel.allocMap {N:Nat} {w0 w:World} {h:Hp} (r:Rel N w0 h w) (hN:N<=w.heap.size):
  Rel N w0 (h.set w.heap.size (some (.inr []))) {w with heap:=w.heap.push (.map #[] 0)}:=by
 have hget: ∀b,b<w.heap.size->(w.heap.push (.map #[] 0))[b]?=w.heap[b]?:=fun b hb=>by rw [Array.getElem?_push,if_neg (by omega)]
 have hlast:(w.heap.push (.map #[] 0))[w.heap.size]?=some (.map #[] 0):=by simp
 refine⟨⟨r.below.os,r.below.tape,r.below.output,?_,?_⟩,?_,?_⟩
 ·have:=r.below.size;simp;omega
 ·intro k hk;rw [hget k (by omega)];exact r.below.block k hk
 ·intro b x e
  by_cases hb:b=w.heap.size
  ·subst hb;rw [Hp.set_eq]at e;cases e
  ·rw [Hp.set_ne _ _ hb]at e
   have:=r.lt e
   simpa only [hget b this] using r.row b x e
 ·intro b x e
  by_cases hb:b=w.heap.size
  ·subst hb;rw [Hp.set_eq]at e;cases e
   exact⟨hN, #[],0,hlast,rfl⟩
  ·rw [Hp.set_ne _ _ hb]at e
   have:=r.lt e
   simpa only [hget b this] using r.map b x e
theorem Rel.setMap {N:Nat} {w0 w:World} {h:Hp} (r:Rel N w0 h w) {b:Nat} {m:List (Value×Value)} (hb:h b=some (.inr m))
  (es:Array MapEntry) (clk:Nat):
  Rel N w0 (h.set b (some (.inr (es.toList.map (fun e=>(e.key,e.val)))))) {w with heap:=w.heap.setIfInBounds b (.map es clk)}:=by
 have hlt:=r.lt hb
 obtain⟨hN,es0,clk0,hw,_⟩:=r.map b m hb
 have hget: ∀c,c≠b->(w.heap.setIfInBounds b (.map es clk))[c]?=w.heap[c]?:=fun c hc=>by rw [Array.getElem?_setIfInBounds_ne (Ne.symm hc)]
 have hlast:(w.heap.setIfInBounds b (.map es clk))[b]?=some (.map es clk):=by simp [hlt]
 refine⟨⟨r.below.os,r.below.tape,r.below.output,?_,?_⟩,?_,?_⟩
 ·have:=r.below.size;simp;omega
 ·intro k hk;rw [hget k (by omega)];exact r.below.block k hk
 ·intro c x e
  by_cases hc:c=b
  ·subst hc;rw [Hp.set_eq]at e;cases e
  ·rw [Hp.set_ne _ _ hc]at e
   simpa only [hget c hc] using r.row c x e
 ·intro c x e
  by_cases hc:c=b
  ·subst hc;rw [Hp.set_eq]at e;cases e
   exact⟨hN,es,clk,hlast,rfl⟩
  ·rw [Hp.set_ne _ _ hc]at e
   simpa only [hget c hc] using r.map c x e
theorem Rel.setRow {N:Nat} {w0 w:World} {h:Hp} (r:Rel N w0 h w) {b:Nat} {x:Row} (hb:h b=some (.inl x)) (hro:x.ro=false)
  (w':World) (c':Array Value) (cs:List Value)
  (hos:w'.os=w.os) (htape:w'.tape=w.tape) (hout:w'.output=w.output) (hsize:w'.heap.size=w.heap.size)
  (hother: ∀k,k≠b->w'.heap[k]?=w.heap[k]?)
  (hthis: ∀c T fr,w.heap[b]?=some (.cells c T fr)->w'.heap[b]?=some (.cells c' T fr)/\c'.size=c.size)
  (hcs: ∀(i:Nat) v,cs[i]?=some v->c'[i]?=some v):
  Rel N w0 (h.set b (some (.inl ⟨cs,x.size,false⟩))) w':=by
 obtain⟨c,T,lo,hi,hw,hsz,_,hfr⟩:=r.row b x hb
 obtain⟨hN,hfz⟩:=hfr hro
 obtain⟨hw',hsz'⟩:=hthis _ _ _ hw
 refine⟨⟨hos.trans r.below.os,htape.trans r.below.tape,hout.trans r.below.output,?_,?_⟩,?_,?_⟩
 ·rw [hsize];exact r.below.size
 ·intro k hk;rw [hother k (by omega)];exact r.below.block k hk
 ·intro k y e
  by_cases hk:k=b
  ·subst hk;rw [Hp.set_eq]at e;cases e
   exact⟨c',T,lo,hi,hw',hsz'.trans hsz,hcs,fun _=>⟨hN,hfz⟩⟩
  ·rw [Hp.set_ne _ _ hk]at e
   simpa only [hother k hk] using r.row k y e
 ·intro k y e
  by_cases hk:k=b
  ·subst hk;rw [Hp.set_eq]at e;cases e
  ·rw [Hp.set_ne _ _ hk]at e
   simpa only [hother k hk] using r.map k y e
abbrev Tm :=Nat->Option Value
def Tm.put (n:Nat) (t:Tm) (d:Option Nat) (v:Value):Tm:=
 match d with
 |none=>t
 |some d=>fun i=>if i=d then(if d<n then some v else t i)else t i
def Tm.ev (t:Tm):Operand->Option Value
 | .tmp i=>t i
 | .const v=>some v
 | .global g=>some (.pointer (some ⟨g,0,none⟩))
 | .func f=>some (.func (.func f) #[] #[])
def Tm.le (t t':Tm):Prop:= ∀i v,t i=some v->t' i=some v
structure ug (n:Nat) (t:Tm) (a:Act):Prop where
 size:a.tmps.size=n
 get: ∀i v,t i=some v->a.tmps[i]?=some v
theorem ug.ev {n:Nat} {t:Tm} {a:Act} (r:ug n t a) {x:Operand} {v:Value} (e:t.ev x=some v):a.eval x=v:=by
 cases x with
 |tmp i=>simp [Act.eval,r.get i v e]
 |const c=>simpa [Tm.ev,Act.eval] using e
 |global g=>simpa [Tm.ev,Act.eval] using e
 |func f=>simpa [Tm.ev,Act.eval] using e
theorem ug.put {n:Nat} {t:Tm} {a:Act} (r:ug n t a) (d:Option Nat) (v:Value):ug n (t.put n d v) (a.put d v):=by
 cases d with
 |none=>exact r
 |some d=>
  refine⟨by simp [Act.put,r.size],fun i u e=>?_⟩
  simp only [Tm.put]at e
  simp only [Act.put]
  by_cases hi:i=d
  ·subst hi
   by_cases hn:i<n
   ·simp [hn]at e;subst e;simp [r.size,hn]
   ·simp [hn]at e
    have:=r.get i u e
    have hlt:=(Array.getElem?_eq_some_iff.1 this).1
    rw [r.size]at hlt;omega
  ·simp [hi]at e
   rw [Array.getElem?_setIfInBounds_ne (Ne.symm hi)]
   exact r.get i u e
theorem ug.weaken {n:Nat} {t t':Tm} {a:Act} (r:ug n t a) (l:t'.le t):ug n t' a:=⟨r.size,fun i v e=>r.get i v (l i v e)⟩
def okF (P:Program) (g:FuncId):Bool:=decide (((P.funcs[g]?).map (fun fn=>fn.body.isSome&&fn.name != "runtime.NumGoroutine"))=some true)
def ACalls (P:Program) (f:FuncId) (args:Array Value) (h:Hp) (R:Value->Hp->Prop):Prop:=
 okF P f=true/\ ∀N w0 w,N<=w0.heap.size->Rel N w0 h w->Calls P f args w fun e w'=> ∃v h',e= .returned v/\Rel N w0 h' w'/\R v h'
theorem ACalls.mono {P:Program} {f:FuncId} {args:Array Value} {h:Hp} {R R':Value->Hp->Prop} (c:ACalls P f args h R) (l: ∀v h,R v h->R' v h):
  ACalls P f args h R':=⟨c.1,fun N w0 w hN hr=>(c.2 N w0 w hN hr).mono fun _ _ ⟨v,h',e,r,x⟩=>⟨v,h',e,r,l _ _ x⟩⟩
theorem ACalls.weaken {P:Program} {f:FuncId} {args:Array Value} {h h0:Hp} {R:Value->Hp->Prop} (c:ACalls P f args h R) (l:h.le h0):
  ACalls P f args h0 R:=⟨c.1,fun N w0 w hN hr=>c.2 N w0 w hN (hr.weaken l)⟩
def UK (P:Program) (o:Oper) (ρ:Operand->Value) (w:World) (uB:Value->World->Prop):Prop:=
 (∃v w',(execOp ρ o).run P w= .ok (.value v) w'/\uB v w')\/
 (∃w',(execOp ρ o).run P w= .ok .skip w'/\uB undef w')\/
 (∃f args w',(execOp ρ o).run P w= .ok (.enter f args) w'/\Calls P f args w' fun e w''=> ∃v,e= .returned v/\uB v w'')
theorem UK.wp {P:Program} {o:Oper} {a:Act} {w:World} {uB:Value->World->Prop} {next:Act->World->Prop} {Q:Exit->Act->World->Prop}
  (h:UK P o a.eval w uB) (k: ∀v w',uB v w'->next (a.put o.dst v) w'):o.wp P a w next Q:=by
 unfold Oper.wp
 rcases h with ⟨v,w',e,p⟩|⟨w',e,p⟩|⟨f,args,w',e,p⟩
 ·rw [e];exact k _ _ p
 ·rw [e];exact k _ _ p
 ·rw [e]
  refine Calls.mono p ?_
  rintro e w'' ⟨v,rfl,q⟩
  exact k _ _ q
end Go.Lead
