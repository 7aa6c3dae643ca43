/- The abstract walk, part 15: short forms in which the walks are written, and how they are said at length; no statement of the program. -/
import Derived.Test.YthfcbpocfmjefaaGreatVm14
namespace Go.Lead
open Go
set_option linter.unusedVariables false
abbrev a0 :Ann:=fun _=> []
abbrev aP :TypeDesc:= .unsafePointer
abbrev aS :TypeDesc:= .slice 0
abbrev aI :TypeDesc:= .int .i64
abbrev aB :TypeDesc:= .bool
abbrev aT :TypeDesc:= .string
abbrev an (k:Nat) (l:List (Nat×TypeDesc)) (f:Ann):Ann:=fun r=>if r=k then l else f r
abbrev Zz :Sl:=Sl.mk none 0 0
abbrev Zv :Value:= .slice none 0 0
abbrev Zt :Value:= .tuple #[]
abbrev Za (b o:Nat):Option Addr:=some (Addr.mk b o none)
abbrev Zg (a b c d e:Sl):Value:= .agg #[a.v,b.v,c.v,d.v,e.v]
abbrev Zh (x1 x2 x3 x4 x5 x6 x7 x8:Int) (s:ByteArray):Value:= .agg #[I x1,I x2,I x3,I x4,I x5,I x6,I x7,I x8, .string s]
abbrev Zp (b o:Nat):Value:= .pointer (some (Addr.mk b o none))
section
variable (h :Hp) (b o:Nat)
abbrev ZI (k:Int->Prop):Prop:= ∃x,h.cell b o=some (I x)/\k x
abbrev ZL (k:Sl->Prop):Prop:= ∃x:Sl,h.cell b o=some x.v/\k x
abbrev ZB (k:Bool->Prop):Prop:= ∃x,h.cell b o=some (.bool x)/\k x
abbrev ZT (k:ByteArray->Prop):Prop:= ∃x,h.cell b o=some (.string x)/\k x
abbrev ZP (k:Option Addr->Prop):Prop:= ∃x,h.cell b o=some (.pointer x)/\k x
abbrev Y2 (k:Int->Int->Prop):Prop:= ∃x,h.cell b o=some (I x)/\ ∃y,h.cell b (o+1)=some (I y)/\k x y
abbrev Y5 (k:Sl->Sl->Sl->Sl->Sl->Prop):Prop:= ∃x:Sl,h.cell b o=some x.v/\ ∃y:Sl,h.cell b (o+1)=some y.v/\ ∃z:Sl,h.cell b (o+2)=some z.v/\ ∃u:Sl,h.cell b (o+3)=some u.v/\
 ∃w:Sl,h.cell b (o+4)=some w.v/\k x y z u w
abbrev Z5 (k:Sl->Sl->Sl->Sl->Sl->Prop):Prop:= ∃x:Sl,h.cell b 0=some x.v/\ ∃y:Sl,h.cell b 1=some y.v/\ ∃z:Sl,h.cell b 2=some z.v/\ ∃u:Sl,h.cell b 3=some u.v/\
 ∃w:Sl,h.cell b 4=some w.v/\k x y z u w
abbrev Y9 (k:Int->Int->Int->Int->Int->Int->Int->Int->ByteArray->Prop):Prop:= ∃x1,h.cell b o=some (I x1)/\ ∃x2,h.cell b (o+1)=some (I x2)/\ ∃x3,h.cell b (o+2)=some (I x3)/\
 ∃x4,h.cell b (o+3)=some (I x4)/\ ∃x5,h.cell b (o+4)=some (I x5)/\ ∃x6,h.cell b (o+5)=some (I x6)/\ ∃x7,h.cell b (o+6)=some (I x7)/\ ∃x8,h.cell b (o+7)=some (I x8)/\
 ∃x9,h.cell b (o+8)=some (.string x9)/\k x1 x2 x3 x4 x5 x6 x7 x8 x9
abbrev Z9 (k:Int->Int->Int->Int->Int->Int->Int->Int->ByteArray->Prop):Prop:= ∃x1,h.cell b 0=some (I x1)/\ ∃x2,h.cell b 1=some (I x2)/\ ∃x3,h.cell b 2=some (I x3)/\
 ∃x4,h.cell b 3=some (I x4)/\ ∃x5,h.cell b 4=some (I x5)/\ ∃x6,h.cell b 5=some (I x6)/\ ∃x7,h.cell b 6=some (I x7)/\ ∃x8,h.cell b 7=some (I x8)/\
 ∃x9,h.cell b 8=some (.string x9)/\k x1 x2 x3 x4 x5 x6 x7 x8 x9
abbrev Zs (n:Nat) (vs:List Value) (k:Hp->Prop):Prop:= ∃cs z,h b=some (.inl ⟨cs,z,false⟩)/\o+n<=List.length cs/\cM (h.row b (bX cs o vs) z) k
end
abbrev Zi (s:Sl) (x:Int) (k:Nat->Nat->Prop):Prop:= ∃b o,s.a=some ⟨b,o,none⟩/\0<=x/\x<(s.n:Int)/\k b o
abbrev Zd (p:Option Addr) (k:Nat->Nat->Prop):Prop:= ∃b o,p=some (Addr.mk b o none)/\k b o
abbrev Zn (h:Hp) (vs:List Value) (n:Nat) (k:Nat->Hp->Prop):Prop:= ∀b,h b=none->cM (h.row b vs n) fun h'=>k b h'
abbrev rI (k:Int->Hp->Prop):Value->Hp->Prop:=fun v h=> ∃x,v=I x/\k x h
abbrev rB (k:Bool->Hp->Prop):Value->Hp->Prop:=fun v h=> ∃x,v= .bool x/\k x h
abbrev rS (k:Sl->Hp->Prop):Value->Hp->Prop:=fun v h=> ∃x:Sl,v=x.v/\k x h
abbrev rT (k:ByteArray->Hp->Prop):Value->Hp->Prop:=fun v h=> ∃x,v= .string x/\k x h
abbrev Zq2 (p k:Prop):Prop:=p/\p/\k
abbrev Zq3 (p k:Prop):Prop:=p/\p/\p/\k
abbrev Zq4 (p k:Prop):Prop:=p/\p/\p/\p/\k
abbrev Zq5 (p k:Prop):Prop:=p/\p/\p/\p/\p/\k
abbrev Zq6 (p k:Prop):Prop:=p/\p/\p/\p/\p/\p/\k
theorem rI_ (k:Int->Hp->Prop):rI k=fun v h=> ∃x,v=I x/\k x h:=rfl
theorem rB_ (k:Bool->Hp->Prop):rB k=fun v h=> ∃x,v= .bool x/\k x h:=rfl
theorem rS_ (k:Sl->Hp->Prop):rS k=fun v h=> ∃x:Sl,v=x.v/\k x h:=rfl
theorem rT_ (k:ByteArray->Hp->Prop):rT k=fun v h=> ∃x,v= .string x/\k x h:=rfl
theorem uf_ {P Q:Prop} (k:Q) (h:P=Q:=by(set_option maxRecDepth 100000 in try dsimp only [Zp,Zq2,Zq3,Zq4,Zq5,Zq6,Za,Zg,Zh,Zi,Zd,ZL,ZI,ZB,ZT,ZP,Z5,Y5,Z9,Y9,Y2,Zs,Zn,rI_,rB_,rS_,rT_,Zz,Zv,Zt]);try exact rfl):P:=h▸k
end Go.Lead
