/- The abstract walk, part 3: what an operation asks is enough: the operation of the model gives what is told; no statement of the program. -/
import Derived.Test.YthfcbpocfmjefaaGreatVm2
import Derived.Laws.IdiomCopy
import Derived.Laws.StructEq
namespace Go.Lead
open Go.RowKit
variable {P :Program} {N n:Nat} {w0 w:World} {h:Hp} {t:Tm} {a:Act}
theorem ce {x:Option Value} {k:Value->Prop} (e:w1 x k): ∃v,x=some v/\k v:=by
 cases x with
 |none=>exact e.elim
 |some v=>exact⟨v,rfl,e⟩
theorem uE {x:Option (List Value)} {k:List Value->Prop} (e:wL x k): ∃v,x=some v/\k v:=by
 cases x with
 |none=>exact e.elim
 |some v=>exact⟨v,rfl,e⟩
theorem Fb (ht:ug n t a): ∀(xs:List Operand) (vs:List Value),evs t xs=some vs->xs.map a.eval=vs
 | [],vs,e=>by simp [evs]at e;subst e;rfl
 |x::xs,vs,e=>by
  simp only [evs]at e
  split at e
  ·rename_i v us h1 h2
   cases e
   simp [ht.ev h1,Fb ht xs us h2]
  ·cases e
theorem AF (ht:ug n t a): ∀(xs:List (Nat×Operand)) (vs:List (Nat×Value)),uC t xs=some vs->xs.map (fun p=>(p.1,a.eval p.2))=vs
 | [],vs,e=>by simp [uC]at e;subst e;rfl
 |(i,x)::xs,vs,e=>by
  simp only [uC]at e
  split at e
  ·rename_i v us h1 h2
   cases e
   simp [ht.ev h1,AF ht xs us h2]
  ·cases e
def EL (P:Program) (s:Sem Value) (w:World) (uB:Value->World->Prop):Prop:= ∃v w',s.run P w= .ok v w'/\uB v w'
theorem UK.ofVal {o:Oper} {ρ:Operand->Value} {s:Sem Value} {uB:Value->World->Prop} (e:execOp ρ o=(do pure (.value (<-s))))
  (k:EL P s w uB):UK P o ρ w uB:=by
 obtain⟨v,w',e1,p⟩:=k
 exact .inl ⟨v,w',by rw [e];simp [e1],p⟩
theorem UK.ofUnit {o:Oper} {ρ:Operand->Value} {s:Sem Unit} {uB:Value->World->Prop} (e:execOp ρ o=(do s;pure .skip))
  (k: ∃w',s.run P w= .ok () w'/\uB undef w'):UK P o ρ w uB:=by
 obtain⟨w',e1,p⟩:=k
 exact .inr (.inl ⟨w',by rw [e];simp [e1],p⟩)
theorem JF (hr:Rel N w0 h w) {b o:Nat} {vs:List Value} (e: ∀(i:Nat) v,vs[i]?=some v->h.cell b (o+i)=some v):
  (loadCells ⟨b,o,none⟩ vs.length).run P w= .ok vs.toArray w:=
 run_loadCells_list (P:=P) w ⟨b,o,none⟩ vs fun j v hv=>by
  have hadd:(⟨b,o,none⟩:Addr).add j=⟨b,o+j,none⟩:=by unfold Addr.add;split<;>simp_all
  rw [hadd]
  exact hr.cell (e j v hv)
theorem VY (hr:Rel N w0 h w) {ty:TypeId} {b o:Nat} {K:Value->Prop} (e:NU P ty (h.cell b) o K):
  ∃v,(loadVar ty ⟨b,o,none⟩).run P w= .ok v w/\K v:=by
 unfold NU at e
 split at e
 ·rename_i hagg
  split at e
  ·rename_i hsz
   obtain⟨vs,hl,hg,hk⟩:=Tr _ _ _ e
   have hsz:=of_decide_eq_true hsz
   refine⟨_,?_,hk⟩
   have hlo:=JF (P:=P) hr hg
   unfold vh at hagg
   cases hi:P.info? ty with
   |none=>simp [hi]at hsz
   |some i=>
    simp [hi]at hsz
    rw [<-hl]at hsz
    split at hagg
    ·rename_i fs hu
     simp [loadVar,isAgg,run_underlying hu,sizeOf,typeInfo,hi,hsz,hlo]
    ·rename_i x y hu
     simp [loadVar,isAgg,run_underlying hu,sizeOf,typeInfo,hi,hsz,hlo]
    ·cases hagg
  ·exact e.elim
 ·rename_i hagg
  have e0:=e
  obtain⟨v,ev,k⟩:=Pq e
  refine⟨v,?_,k⟩
  have hc:=hr.cell ev
  obtain⟨d,hu⟩:=ac1 e0
  have hag:=hagg
  unfold vh at hag
  rw [hu]at hag
  cases d<;>simp_all [loadVar,isAgg,run_underlying hu]
def Mb (c:Array Value):Nat->List Value->Array Value
 |_, []=>c
 |o,v::r=>Mb (c.setIfInBounds o v) (o+1) r
theorem On : ∀(vs:List Value) (o:Nat) (c:Array Value),(Mb c o vs).size=c.size
 | [],_,_=>rfl
 |v::r,o,c=>by rw [Mb,On r];simp
theorem iR : ∀(vs:List Value) (o:Nat) (c:List Value),(bX c o vs).length=c.length
 | [],_,_=>rfl
 |v::r,o,c=>by rw [bX,iR r];simp
theorem FS : ∀(vs:List Value) (o:Nat) (cs:List Value) (c:Array Value),(∀(i:Nat) v,cs[i]?=some v->c[i]?=some v)->
  ∀(i:Nat) v,(bX cs o vs)[i]?=some v->(Mb c o vs)[i]?=some v
 | [],_,_,_,h=>h
 |x::r,o,cs,c,h=>by
  refine FS r (o+1) (cs.set o x) (c.setIfInBounds o x) fun i v e=>?_
  by_cases hi:i=o
  ·subst hi
   rcases Nat.lt_or_ge i cs.length with hl|hl
   ·have hl':i<c.size:=by
     have:=h i cs[i] (List.getElem?_eq_getElem hl)
     exact(Array.getElem?_eq_some_iff.1 this).1
    rw [List.getElem?_set_self hl]at e;cases e
    simp [hl']
   ·rw [List.getElem?_eq_none (by simpa using hl)]at e;cases e
  ·rw [List.getElem?_set_ne (Ne.symm hi)]at e
   rw [Array.getElem?_setIfInBounds_ne (Ne.symm hi)]
   exact h i v e
theorem SA : ∀(vs:List Value) (cs:List Value) (c:Array Value),(∀(i:Nat) v,cs[i]?=some v->c[i]?=some v)->cs.length+vs.length<=c.size->
  ∀(i:Nat) v,(cs++vs)[i]?=some v->(Mb c cs.length vs)[i]?=some v
 | [],cs,c,h,_=>by simpa [Mb] using h
 |x::r,cs,c,h,hl=>by
  have h1:=SA r (cs++ [x]) (c.setIfInBounds cs.length x) (fun i v e=>by
   by_cases hi:i=cs.length
   ·subst hi
    simp at e;subst e
    have hlt:cs.length<c.size:=by have:=hl;simp only [List.length_cons]at this;omega
    simp [hlt]
   ·rw [Array.getElem?_setIfInBounds_ne (Ne.symm hi)]
    refine h i v ?_
    rcases Nat.lt_or_ge i cs.length with h2|h2
    ·rwa [List.getElem?_append_left h2]at e
    ·rw [List.getElem?_eq_none (by simp;omega)]at e;cases e) (by simp at hl⊢;omega)
  simpa [Mb] using h1
theorem BA (b:Nat): ∀(vs:List Value) (o:Nat) (w:World) (k:Nat),k≠b->(w.setCells b o vs).heap[k]?=w.heap[k]?
 | [],_,_,_,_=>rfl
 |v::r,o,w,k,hk=>by
  rw [World.setCells,BA b r _ _ k hk]
  simp only [World.setCell,Array.getElem?_modify]
  rw [if_neg (Ne.symm hk)]
theorem CM (b:Nat): ∀(vs:List Value) (o:Nat) (w:World) (c:Array Value) (T:TypeId) (fr:Nat×Nat),w.heap[b]?=some (.cells c T fr)->
  (w.setCells b o vs).heap[b]?=some (.cells (Mb c o vs) T fr)
 | [],_,_,_,_,_,h=>h
 |v::r,o,w,c,T,fr,h=>by
  rw [World.setCells,Mb]
  refine CM b r (o+1) _ _ T fr ?_
  simp [World.setCell,Array.getElem?_modify,h]
theorem CP (b:Nat): ∀(vs:List Value) (o:Nat) (w:World),(w.setCells b o vs).heap.size=w.heap.size
 | [],_,_=>rfl
 |v::r,o,w=>by rw [World.setCells,CP b r];simp [World.setCell]
theorem Hv (b:Nat): ∀(vs:List Value) (o:Nat) (w:World),(w.setCells b o vs).os=w.os/\(w.setCells b o vs).tape=w.tape/\(w.setCells b o vs).output=w.output
 | [],_,_=>⟨rfl,rfl,rfl⟩
 |v::r,o,w=>by rw [World.setCells];exact Hv b r (o+1) _
theorem Rel.setCells (hr:Rel N w0 h w) {b:Nat} {x:Row} (hb:h b=some (.inl x)) (hro:x.ro=false) (o:Nat) (vs:List Value)
  (cs:List Value) (hcs: ∀c:Array Value,(∀(i:Nat) v,x.cells[i]?=some v->c[i]?=some v)->c.size=x.size-> ∀(i:Nat) v,cs[i]?=some v->(Mb c o vs)[i]?=some v):
  Rel N w0 (h.set b (some (.inl ⟨cs,x.size,false⟩))) (w.setCells b o vs):=by
 obtain⟨c,T,lo,hi,hw,hsz,hc,hfr⟩:=hr.row b x hb
 have hos:=Hv b vs o w
 refine hr.setRow hb hro (w.setCells b o vs) (Mb c o vs) cs hos.1 hos.2.1 hos.2.2 (CP b vs o w) (fun k hk=>BA b vs o w k hk) ?_ (hcs c hc hsz)
 intro c' T' fr' hw'
 rw [hw]at hw';cases hw'
 exact⟨CM b vs o w c T (lo,hi) hw,On _ _ _⟩
theorem Rel.setCells_run (hr:Rel N w0 h w) {b:Nat} {x:Row} (hb:h b=some (.inl x)) (hro:x.ro=false) (o:Nat) (vs:List Value)
  (hv:vs.all (·.oneCell')=true) (hl:o+vs.length<=x.size):
  (storeCells ⟨b,o,none⟩ vs).run P w= .ok () (w.setCells b o vs):=by
 obtain⟨c,T,lo,hi,hw,hsz,_,hfr⟩:=hr.row b x hb
 obtain⟨_,hfz⟩:=hfr hro
 have:=run_storeCells_cells (P:=P) b o vs 0 w (fun j hj=>by simp [World.cell?,hw];omega)
  (fun j hj=>by simp only [World.frozen?,hw,Nat.add_zero];exact hfz (o+j) (by omega)) (by simpa using hv)
 simpa using this
theorem abR (hr:Rel N w0 h w) {ty:TypeId} {b o:Nat} {v:Value} {cs:List Value} {sz:Nat} (hs:(P.info? ty).map (·.size)=some v.cells.size)
  (hv:v.cells.toList.all (·.oneCell')=true) (hb:h b=some (.inl ⟨cs,sz,false⟩)) (hl:o+v.cells.size<=cs.length):
  ∃w',(storeVar ty ⟨b,o,none⟩ v).run P w= .ok () w'/\Rel N w0 (h.row b (bX cs o v.cells.toList) sz) w':=by
 have hle:cs.length<=sz:=by
  obtain⟨c,T,lo,hi,hw,hsz,hc,_⟩:=hr.row b _ hb
  simp only at hsz hc
  rw [<-hsz]
  rcases Nat.lt_or_ge c.size cs.length with h1|h1
  ·exact absurd (Array.getElem?_eq_some_iff.1 (hc c.size _ (List.getElem?_eq_getElem h1))).1 (Nat.lt_irrefl _)
  ·exact h1
 have hrun:=hr.setCells_run (P:=P) hb rfl o v.cells.toList hv (by simp;omega)
 have hset:=hr.setCells hb rfl o v.cells.toList (bX cs o v.cells.toList) (fun c hc _=>FS _ _ _ _ hc)
 refine⟨_,?_,hset⟩
 cases hi:P.info? ty with
 |none=>simp [hi]at hs
 |some i=>
  simp [hi]at hs
  simp [storeVar,sizeOf,typeInfo,hi,hs,hrun]
end Go.Lead
