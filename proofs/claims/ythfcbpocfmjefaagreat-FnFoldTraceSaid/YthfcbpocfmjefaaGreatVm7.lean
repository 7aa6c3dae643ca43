/- The abstract walk, part 7: regions, in order and in whatever order the model draws; no statement of the program. -/
import Derived.Test.YthfcbpocfmjefaaGreatVm6
import Derived.Orders
namespace Go.Lead
open Go.RowKit
set_option linter.unusedSimpArgs false
set_option linter.unusedVariables false
def ac (b:Bool) (x y:Prop):Prop:=match b with|true=>x|false=>y
theorem ad {b:Bool} {x y:Prop} (h1:b=true->x) (h2:b=false->y):ac b x y:=by
 cases b
 ·exact h2 rfl
 ·exact h1 rfl
def Tm.know (t:Tm) (d:Nat) (b:Bool):Tm:=fun i=>if i=d then some (.bool b)else t i
def Mc (ops:Array Oper) (o:Oper) (t:Tm) (yes no:Tm->Prop):Prop:=
 match o.guard with
 |none=>yes t
 |some (j,want)=>match (ops[j]?).bind (·.dst)with
  |some d=>w1 (t d) fun v=>match v with
   | .bool b=>ac b (match want with|true=>yes (t.know d true)|false=>no (t.know d true)) (match want with|true=>no (t.know d false)|false=>yes (t.know d false))
   |_=>no t
  |none=>False
theorem GU {t:Tm} {d:Nat} {b:Bool} (h:t d=some (.bool b)):t.know d b=t:=by
 funext i
 unfold Tm.know
 split
 ·rename_i e;subst e;exact h.symm
 ·rfl
def met (ops:Array Oper) (o:Oper) (t:Tm):Option Bool:=
 match o.guard with
 |none=>some true
 |some (j,want)=>match (ops[j]?).bind (·.dst)with
  |some d=>match t d with
   |some (.bool b)=>some (b==want)
   |some _=>some false
   |none=>none
  |none=>none
theorem Mi {ops:Array Oper} {o:Oper} {t:Tm} {yes no:Tm->Prop} (h:Mc ops o t yes no):(met ops o t=some true/\yes t)\/(met ops o t=some false/\no t):=by
 unfold Mc at h
 unfold met
 cases hg:o.guard with
 |none=>rw [hg]at h;exact .inl ⟨rfl,h⟩
 |some g=>
  obtain⟨j,want⟩:=g
  rw [hg]at h
  simp only at h⊢
  cases hd:(ops[j]?).bind (·.dst)with
  |none=>rw [hd]at h;exact h.elim
  |some d=>
   rw [hd]at h
   simp only at h⊢
   obtain⟨v,hv,h⟩:=ce h
   rw [hv]
   split at h
   ·rename_i b
    cases b<;>cases want<;>simp only [ac]at h<;>rw [GU hv]at h<;>simp [h]
   ·rename_i hnb
    refine .inr ⟨?_,h⟩
    cases v<;>first|rfl|exact(hnb _ rfl).elim
theorem Ms {ops:Array Oper} {o:Oper} {t:Tm} {yes no:Tm->Prop} {b:Bool} (h:met ops o t=some b) (k:match b with|true=>yes t|false=>no t):Mc ops o t yes no:=by
 unfold met at h
 unfold Mc
 cases hg:o.guard with
 |none=>rw [hg]at h;cases h;exact k
 |some g=>
  obtain⟨j,want⟩:=g
  rw [hg]at h
  simp only at h⊢
  cases hd:(ops[j]?).bind (·.dst)with
  |none=>rw [hd]at h;cases h
  |some d=>
   rw [hd]at h
   simp only at h⊢
   split at h
   ·rename_i c hc
    simp only [w1,hc]
    cases h
    cases c<;>cases want<;>simp only [ac]<;>rw [GU hc]<;>exact k
   ·rename_i v hnb hv
    simp only [w1,hv]
    cases h
    cases v<;>first|exact k|exact(hnb _ rfl).elim
   ·cases h
theorem L6 {ops:Array Oper} {o:Oper} {n:Nat} {t:Tm} {a:Act} {b:Bool} (ht:ug n t a) (h:met ops o t=some b):Region.wanted o (yielded ops a.tmps)=b:=by
 unfold met at h
 unfold Region.wanted
 cases hg:o.guard with
 |none=>rw [hg]at h;cases h;rfl
 |some g=>
  obtain⟨j,want⟩:=g
  rw [hg]at h
  simp only at h⊢
  cases hd:(ops[j]?).bind (·.dst)with
  |none=>rw [hd]at h;cases h
  |some d=>
   rw [hd]at h
   simp only at h
   split at h
   ·rename_i c hc
    cases h
    have:=ht.get d _ hc
    unfold yielded
    rw [hd]
    simp only [Option.bind_some,this]
    cases c<;>cases want<;>rfl
   ·rename_i v hnb hv
    cases h
    have:=ht.get d _ hv
    unfold yielded
    rw [hd]
    simp only [Option.bind_some,this]
    cases v<;>first|rfl|exact(hnb _ rfl).elim
   ·cases h
section
variable (P :Program) (n:Nat) (ops:Array Oper)
def ru (i:Nat) (t:Tm) (h:Hp) (K:Tm->Hp->Prop):Prop:=
 match ops[i]? with
 |none=>K t h
 |some o=>Mc ops o t (fun t=>aop P o t h fun v h'=>K (t.put n o.dst v) h') (fun t=>K (t.put n o.dst undef) h)
def agB (Q:Tm->Hp->Prop):List Nat->Tm->Hp->Prop
 | [],t,h=>Q t h
 |i::rest,t,h=>ru P n ops i t h (agB Q rest)
end
section
variable {P :Program} {n N:Nat} {w0 w:World} {h:Hp} {t:Tm} {a:Act} {ops:Array Oper}
structure St (n N:Nat) (w0:World) (t:Tm) (h:Hp) (a:Act) (w:World):Prop where
 defers:a.defers= []
 tmps:ug n t a
 mem:Rel N w0 h w
def Up (n N:Nat) (w0:World) (K:Tm->Hp->Prop) (a:Act) (w:World):Prop:= ∃t h,St n N w0 t h a w/\K t h
theorem SZ (a:Act) (d:Option Tmp) (v:Value):(a.put d v).defers=a.defers:=by cases d<;>rfl
theorem St.put (s:St n N w0 t h a w) (d:Option Nat) (v:Value) {h':Hp} {w':World} (r:Rel N w0 h' w'):St n N w0 (t.put n d v) h' (a.put d v) w':=
 ⟨by rw [SZ];exact s.defers,s.tmps.put d v,r⟩
theorem Hl {Q:Exit->Act->World->Prop} {K:Tm->Hp->Prop} {next:Act->World->Prop} {i:Nat} (e:ru P n ops i t h K) (s:St n N w0 t h a w) (hN:N<=w0.heap.size)
  (k: ∀a w,Up n N w0 K a w->next a w):wpOp P ops Q i next a w:=by
 unfold ru at e
 unfold wpOp
 split at e
 ·rename_i ho;simp only [ho];exact k _ _ ⟨t,h,s,e⟩
 ·rename_i o ho
  simp only [ho]
  rcases Mi e with ⟨hm,e⟩|⟨hm,e⟩
  ·rw [L6 s.tmps hm]
   simp only [if_true]
   refine .inl ((YD e s.mem hN s.tmps).wp ?_)
   rintro v w' ⟨h',r,kk⟩
   exact k _ _ ⟨_,h',s.put o.dst v r,kk⟩
  ·rw [L6 s.tmps hm]
   simp only [Bool.false_eq_true,if_false]
   exact k _ _ ⟨_,h,s.put o.dst undef s.mem,e⟩
theorem JI {K:Tm->Hp->Prop} {Q:Exit->Act->World->Prop} (hQ: ∀a w,Up n N w0 K a w->Q .normal a w) (hN:N<=w0.heap.size): ∀(l:List Nat) (t:Tm) (h:Hp) (a:Act) (w:World),
  agB P n ops K l t h->St n N w0 t h a w->wpOps P ops Q l a w
 | [],t,h,a,w,e,s=>hQ _ _ ⟨t,h,s,e⟩
 |i::rest,t,h,a,w,e,s=>by
  rw [wpOps_cons]
  refine Hl e s hN ?_
  rintro a' w' ⟨t',h',s',e'⟩
  exact JI hQ hN rest t' h' a' w' e' s'
end
end Go.Lead
