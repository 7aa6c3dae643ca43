/- The abstract walk, part 12: what the given arguments are in memory; no statement of the program. -/
import Derived.Test.YthfcbpocfmjefaaGreatVm11
import Derived.ChangeOld
import Derived.ChangeArms
import Derived.DataReads
namespace Go.Lead
open Go
set_option linter.unusedVariables false
def hW (W:World):Hp:=fun b=>match W.heap[b]? with|some (.cells c _ _)=>some (.inl ⟨c.toList,c.size,true⟩)|_=>none
theorem rel_hW (W:World):Rel W.heap.size W (hW W) W:=by
 refine⟨RowKit.Below.refl _ _,?_,?_⟩
 ·intro b r e
  unfold hW at e
  split at e
  ·rename_i c T fr hb
   cases e
   exact⟨c,T,fr.1,fr.2,hb,rfl,fun i v hi=>by simpa using hi,fun h=>by cases h⟩
  ·cases e
 ·intro b m e
  unfold hW at e
  split at e<;>cases e
theorem VI {W:World} {b o:Nat} {s:Option Nat} {v:Value} (e:W.cell? ⟨b,o,s⟩=some v):s=none/\Hp.cell (hW W) b o=some v:=by
 simp only [World.cell?]at e
 split at e
 ·rename_i c T fr hb
  split at e
  ·cases e
  ·rename_i hs
   refine⟨by cases s<;>simp_all,?_⟩
   simp [Hp.cell,hW,hb,e]
 ·cases e
section
variable {P :Program} {W:World} {t e:TypeId} {cs:List Value}
def Got (P:Program) (W:World) (t:TypeId) (cs:List Value):Prop:=
 ∃(H:Type) (enc:TypeId×Value->H) (sp:Nat->Bool) (held:Bool) (fuel:Nat) (x:DataW H×List MemPlace),DataW.trod enc P W 0 sp held fuel t cs=some x
theorem Got.of {H:Type} {enc:TypeId×Value->H} {sp:Nat->Bool} {held:Bool} {v:Value} {d:DataW H} {ps:List MemPlace} (h:DataW.Trod enc P W 0 sp held t v d ps):
  Got P W t v.cells.toList:=by
 obtain⟨fuel,hf⟩:=h
 exact⟨_,_,_,_,_,_,hf⟩
theorem Got.int {k:IntKind} (ht:P.underlying t=some (.int k)) (g:Got P W t cs): ∃n,cs= [.int k n]/\(Lit.int k n).wf=true:=by
 obtain⟨H,enc,sp,held,fuel,x,hf⟩:=g
 obtain⟨n,h,_,hw⟩:=DataW.trod_int ht hf
 exact⟨n,h,hw⟩
theorem Got.bool (ht:P.underlying t=some .bool) (g:Got P W t cs): ∃b:Bool,cs= [.bool b]:=by
 obtain⟨H,enc,sp,held,fuel,x,hf⟩:=g
 obtain⟨n,h,_⟩:=DataW.trod_bool ht hf
 exact⟨n,h⟩
theorem Got.string (ht:P.underlying t=some .string) (g:Got P W t cs): ∃s:ByteArray,cs= [.string s]/\s.size<=9223372036854775807:=by
 obtain⟨H,enc,sp,held,fuel,x,hf⟩:=g
 obtain⟨s,h,_,hs⟩:=DataW.trod_string ht hf
 exact⟨s,h,hs⟩
theorem Got.field {fs:Array Field} (ht:P.underlying t=some (.struct fs)) (g:Got P W t cs) {i:Nat} {f:Field} (hf:fs[i]?=some f):
  Got P W f.type ((cs.drop f.offset).take (P.cellsOf f.type)):=by
 obtain⟨H,enc,sp,held,fuel,x,h⟩:=g
 obtain⟨xs,n,rfl,rfl,hl,hx,ha⟩:=DataW.trod_struct ht h
 have hi:i<xs.length:=by rw [hx];exact(Array.getElem?_eq_some_iff.1 hf).1
 exact⟨H,enc,sp,held,n,xs[i],by rw [ha i f hf];simp [hi]⟩
theorem Got.fld {fs:Array Field} (ht:P.underlying t=some (.struct fs)) (g:Got P W t cs) (i:Nat) {f:Field} (hf:fs[i]?=some f) {n:Nat} (hn:P.cellsOf f.type=n):
  Got P W f.type ((cs.drop f.offset).take n):=by subst hn;exact g.field ht hf
theorem Got.size {fs:Array Field} (ht:P.underlying t=some (.struct fs)) (g:Got P W t cs):cs.length=P.cellsOf t:=by
 obtain⟨H,enc,sp,held,fuel,x,h⟩:=g
 obtain⟨xs,n,rfl,rfl,hl,hx,ha⟩:=DataW.trod_struct ht h
 exact hl
theorem Got.slice {sz:Nat} (ht:P.underlying t=some (.slice e)) (hsz:P.cellsOf e=sz) (hpos:0<sz) (g:Got P W t cs):
  ∃s:Sl,cs= [s.v]/\s.n<=9223372036854775807/\s.n<=s.c/\(s.n=0\/ ∃b o,s.a=some (Addr.mk b o none)/\
   ∀i,i<s.n-> ∃ds:List Value,ds.length=sz/\Got P W e ds/\ ∀(j:Nat) v,ds[j]?=some v->Hp.cell (hW W) b (o+i*sz+j)=some v):=by
 obtain⟨H,enc,sp,held,fuel,x,h⟩:=g
 subst hsz
 rcases DataW.trod_slice ht h with ⟨rfl,_⟩|⟨a,len,cap,elems,rest,n,rfl,rfl,_,_,hlc,hcm,hel,hall,_⟩
 ·exact⟨⟨none,0,0⟩,rfl,by decide,by decide, .inl rfl⟩
 ·have key: ∀i,i<len-> ∃ds:List Value,ds.length=P.cellsOf e/\Got P W e ds/\W.cells? 0 (a.add (i*P.cellsOf e)) (P.cellsOf e)=some ds:=by
   intro i hi
   have:=hall i hi
   rw [List.getElem?_eq_getElem (by omega),Option.bind_eq_some_iff]at this
   obtain⟨ds,hd,hx⟩:=this
   exact⟨ds,(World.cells?_some hd).2.1,⟨H,enc,sp,held,n,_,hx⟩,hd⟩
  refine⟨⟨some a,len,cap⟩,rfl,?_,hlc,?_⟩
  ·unfold maxLen at hcm;show len<=_;omega
  by_cases h0:len=0
  ·exact .inl h0
  have hspot:a.spot=none:=by
   obtain⟨ds,hd,_,hc⟩:=key 0 (by omega)
   have:=(World.cells?_some hc).2.2 0 hpos
   rw [List.getElem?_eq_getElem (by omega)]at this
   simp only [Addr.add,Nat.zero_mul,if_true]at this
   exact(VI (b:=a.block) (o:=a.off) (s:=a.spot) this).1
  refine .inr ⟨a.block,a.off,by cases a;simp_all,fun i hi=>?_⟩
  obtain⟨ds,hd,hg,hc⟩:=key i hi
  refine⟨ds,hd,hg,fun j v hj=>?_⟩
  have hjl:j<P.cellsOf e:=by rw [<-hd];exact(List.getElem?_eq_some_iff.1 hj).1
  have:=(World.cells?_some hc).2.2 j hjl
  rw [hj]at this
  have h2:(a.add (i*P.cellsOf e)).add j=⟨a.block,a.off+i*P.cellsOf e+j,none⟩:=by
   obtain⟨ab,ao,as⟩:=a
   simp only at hspot
   subst hspot
   simp only [Addr.add]
   by_cases h1:i*P.cellsOf e=0<;>by_cases h3:j=0<;>simp [h1,h3]
  rw [h2]at this
  exact(VI this).2
end
def IntSS (h:Hp) (s:Sl) (xss:List (List Int)):Prop:=
 ∃ts:List Sl,ts.length=xss.length/\SlC h s 1 (ts.map Sl.v)/\ ∀(i:Nat) (h1:i<ts.length) (h2:i<xss.length),IntS h ts[i] xss[i]
theorem IntSS.mono {h h':Hp} {s:Sl} {xss:List (List Int)} (l:h.le h') (e:IntSS h s xss):IntSS h' s xss:=by
 obtain⟨ts,h1,h2,h3⟩:=e
 exact⟨ts,h1,h2.mono l,fun i a b=>(h3 i a b).mono l⟩
theorem IntSS.len {h:Hp} {s:Sl} {xss:List (List Int)} (e:IntSS h s xss):s.n=xss.length:=by
 obtain⟨ts,h1,h2,h3⟩:=e
 have:=h2.2.1;simp at this;omega
theorem IntSS.bound {h:Hp} {s:Sl} {xss:List (List Int)} (e:IntSS h s xss):xss.length<=9223372036854775807:=by
 have:=e.len
 obtain⟨ts,h1,h2,h3⟩:=e
 rw [<-this];exact h2.1
theorem IntSS.at {h:Hp} {s:Sl} {xss:List (List Int)} (e:IntSS h s xss) {i:Nat} (hi:i<xss.length):
  ∃b o t,s.a=some (Addr.mk b o none)/\Hp.cell h b (o+i)=some (Sl.v t)/\IntS h t xss[i]:=by
 have hl:=e.len
 obtain⟨ts,h1,h2,h3⟩:=e
 obtain⟨b,o,ha,hc⟩:=SlC.get h2 (by omega)
 exact⟨b,o,ts[i],ha,hc i _ (by simp [h1,hi]),h3 i (by omega) hi⟩
theorem wf_i64 {n:Int} (h:(Lit.int .i64 n).wf=true): -9223372036854775808<=n/\n<=9223372036854775807:=by
 simpa [Lit.wf,IntKind.min,IntKind.max,IntKind.signed,IntKind.bits] using h
theorem aiz {n:Int} (h:(Lit.int .u8 n).wf=true):0<=n/\n<=255:=by
 simpa [Lit.wf,IntKind.min,IntKind.max,IntKind.signed,IntKind.bits] using h
theorem arr3 {cs:Array Value} (h:cs.size=3): ∃a b c,cs= #[a,b,c]:=by
 obtain⟨l⟩:=cs
 match l,h with
 | [a,b,c],_=>exact⟨a,b,c,rfl⟩
theorem arr5 {cs:Array Value} (h:cs.size=5): ∃a b c d e,cs= #[a,b,c,d,e]:=by
 obtain⟨l⟩:=cs
 match l,h with
 | [a,b,c,d,e],_=>exact⟨a,b,c,d,e,rfl⟩
theorem arr2 {cs:Array Value} (h:cs.size=2): ∃a b,cs= #[a,b]:=by
 obtain⟨l⟩:=cs
 match l,h with
 | [a,b],_=>exact⟨a,b,rfl⟩
theorem IJ {α:Type} {p:Nat->α->Prop}: ∀(n:Nat),(∀i,i<n-> ∃x,p i x)-> ∃xs:List α,xs.length=n/\ ∀(i:Nat) (h:i<xs.length),p i xs[i]:=by
 intro n
 induction n with
 |zero=>exact fun _=>⟨[],rfl,fun i h=>by simp at h⟩
 |succ n ih=>
  intro h
  obtain⟨xs,hl,hx⟩:=ih fun i hi=>h i (by omega)
  obtain⟨x,hp⟩:=h n (by omega)
  refine⟨xs++ [x],by simp [hl],fun i hi=>?_⟩
  by_cases hin:i<xs.length
  ·rw [List.getElem_append_left hin];exact hx i hin
  ·have:i=xs.length:=by simp at hi;omega
   subst this
   simp [hl,hp]
theorem Got.ints {P:Program} {W:World} {t e:TypeId} {v:Value} (ht:P.underlying t=some (.slice e)) (he:P.underlying e=some (.int .i64)) (hsz:P.cellsOf e=1) (g:Got P W t [v]):
  ∃(s:Sl) (xs:List Int),v=s.v/\s.n<=s.c/\IntS (hW W) s xs/\ ∀x∈xs,(Lit.int .i64 x).wf=true:=by
 obtain⟨s,hs,hm,hlc,h⟩:=Got.slice ht hsz (by omega) g
 simp only [List.cons.injEq,and_true]at hs
 rcases h with h|⟨b,o,ha,h⟩
 ·exact⟨s, [],hs,hlc,⟨hm,by simp [h], .inl h⟩,by simp⟩
 obtain⟨xs,hl,hx⟩:=IJ (p:=fun i (x:Int)=>Hp.cell (hW W) b (o+i)=some (I x)/\(Lit.int .i64 x).wf=true) s.n fun i hi=>by
  obtain⟨ds,hd,hg,hc⟩:=h i hi
  obtain⟨x,rfl,hw⟩:=hg.int he
  exact⟨x,by simpa using hc 0 _ rfl,hw⟩
 refine⟨s,xs,hs,hlc,⟨hm,by simp [hl], .inr ⟨b,o,ha,?_⟩⟩,?_⟩
 ·intro i v hv
  simp only [List.getElem?_map,Option.map_eq_some_iff]at hv
  obtain⟨x,hx1,rfl⟩:=hv
  obtain⟨hi,rfl⟩:=List.getElem?_eq_some_iff.1 hx1
  exact(hx i hi).1
 ·intro x hxm
  obtain⟨i,hi,rfl⟩:=List.getElem_of_mem hxm
  exact(hx i hi).2
def ByteS (h:Hp) (s:Sl) (xs:List Nat):Prop:=SlC h s 1 (xs.map fun(x:Nat)=>Value.int .u8 (x:Int))/\ ∀x∈xs,x<256
theorem ByteS.mono {h h':Hp} {s:Sl} {xs:List Nat} (l:h.le h') (e:ByteS h s xs):ByteS h' s xs:=⟨SlC.mono l e.1,e.2⟩
theorem ByteS.len {h:Hp} {s:Sl} {xs:List Nat} (e:ByteS h s xs):s.n=xs.length:=by have:=e.1.2.1;simp at this;omega
theorem ByteS.bound {h:Hp} {s:Sl} {xs:List Nat} (e:ByteS h s xs):xs.length<=9223372036854775807:=by rw [<-e.len];exact e.1.1
theorem ByteS.at {h:Hp} {s:Sl} {xs:List Nat} (e:ByteS h s xs) {i:Nat} (hi:i<xs.length):
  ∃b o,s.a=some (Addr.mk b o none)/\Hp.cell h b (o+i)=some (.int .u8 (xs[i]:Int))/\xs[i]<256:=by
 have hl:=e.len
 obtain⟨b,o,ha,hc⟩:=SlC.get e.1 (by omega)
 exact⟨b,o,ha,hc i _ (by simp [hi]),e.2 _ (List.getElem_mem hi)⟩
theorem Got.bytes {P:Program} {W:World} {t e:TypeId} {v:Value} (ht:P.underlying t=some (.slice e)) (he:P.underlying e=some (.int .u8)) (hsz:P.cellsOf e=1) (g:Got P W t [v]):
  ∃(s:Sl) (xs:List Nat),v=s.v/\s.n<=s.c/\ByteS (hW W) s xs:=by
 obtain⟨s,hs,hm,hlc,h⟩:=Got.slice ht hsz (by omega) g
 simp only [List.cons.injEq,and_true]at hs
 rcases h with h|⟨b,o,ha,h⟩
 ·exact⟨s, [],hs,hlc,⟨hm,by simp [h], .inl h⟩,by simp⟩
 obtain⟨xs,hl,hx⟩:=IJ (p:=fun i (x:Nat)=>Hp.cell (hW W) b (o+i)=some (.int .u8 (x:Int))/\x<256) s.n fun i hi=>by
  obtain⟨ds,hd,hg,hc⟩:=h i hi
  obtain⟨x,rfl,hw⟩:=hg.int he
  have:=aiz hw
  obtain⟨m,rfl⟩: ∃m:Nat,x=m:=⟨x.toNat,by omega⟩
  exact⟨m,by simpa using hc 0 _ rfl,by omega⟩
 refine⟨s,xs,hs,hlc,⟨hm,by simp [hl], .inr ⟨b,o,ha,?_⟩⟩,?_⟩
 ·intro i v hv
  simp only [List.getElem?_map,Option.map_eq_some_iff]at hv
  obtain⟨x,hx1,rfl⟩:=hv
  obtain⟨hi,rfl⟩:=List.getElem?_eq_some_iff.1 hx1
  exact(hx i hi).1
 ·intro x hxm
  obtain⟨i,hi,rfl⟩:=List.getElem_of_mem hxm
  exact(hx i hi).2
theorem Got.intss {P:Program} {W:World} {t e e2:TypeId} {v:Value} (ht:P.underlying t=some (.slice e)) (he:P.underlying e=some (.slice e2)) (he2:P.underlying e2=some (.int .i64))
  (hsz:P.cellsOf e=1) (hsz2:P.cellsOf e2=1) (g:Got P W t [v]):
  ∃(s:Sl) (xss:List (List Int)),v=s.v/\s.n<=s.c/\IntSS (hW W) s xss/\ ∀xs∈xss,∀x∈xs,(Lit.int .i64 x).wf=true:=by
 obtain⟨s,hs,hm,hlc,h⟩:=Got.slice ht hsz (by omega) g
 simp only [List.cons.injEq,and_true]at hs
 rcases h with h|⟨b,o,ha,h⟩
 ·exact⟨s, [],hs,hlc,⟨[],rfl,⟨hm,by simp [h], .inl h⟩,fun i h=>by simp at h⟩,by simp⟩
 obtain⟨ps,hl,hx⟩:=IJ (p:=fun i (x:Sl×List Int)=>Hp.cell (hW W) b (o+i)=some (Sl.v x.1)/\IntS (hW W) x.1 x.2/\ ∀y∈x.2,(Lit.int .i64 y).wf=true) s.n fun i hi=>by
  obtain⟨ds,hd,hg,hc⟩:=h i hi
  obtain⟨d,rfl⟩: ∃d,ds= [d]:=by
   match ds,hd with
   | [d],_=>exact⟨d,rfl⟩
  obtain⟨t,xs,rfl,_,hi2,hw⟩:=Got.ints he he2 hsz2 hg
  exact⟨(t,xs),by simpa using hc 0 _ rfl,hi2,hw⟩
 refine⟨s,ps.map (·.2),hs,hlc,⟨ps.map (·.1),by simp,⟨hm,by simp [hl], .inr ⟨b,o,ha,?_⟩⟩,?_⟩,?_⟩
 ·intro i v hv
  simp only [List.getElem?_map,Option.map_eq_some_iff]at hv
  obtain⟨x,⟨y,hx1,rfl⟩,rfl⟩:=hv
  obtain⟨hi,rfl⟩:=List.getElem?_eq_some_iff.1 hx1
  exact(hx i hi).1
 ·intro i h1 h2
  simp only [List.getElem_map]
  exact(hx i (by simpa using h1)).2.1
 ·intro xs hxm
  obtain⟨y,hy,rfl⟩:=List.mem_map.1 hxm
  obtain⟨i,hi,rfl⟩:=List.getElem_of_mem hy
  exact(hx i hi).2.2
end Go.Lead
