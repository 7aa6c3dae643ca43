/- The abstract walk, part 4: comparisons and arithmetic: what is told is what the model gives; no statement of the program. -/
import Derived.Test.YthfcbpocfmjefaaGreatVm3
namespace Go.Lead
open Go.RowKit
variable {P :Program} {N n:Nat} {w0 w:World} {h:Hp} {t:Tm} {a:Act}
theorem En {ty:TypeId} {cs:Array Value} {off:Nat} {d:TypeDesc} (hu:P.underlying ty=some d):
  (part ty cs off).run P w=match vh P ty with
   |true=>match P.info? ty with
    |some i=> .ok (.agg (cs.extract off (off+i.size))) w
    |none=> .halt (.stuck "no such type") w
   |false=>match cs[off]? with
    |some v=> .ok v w
    |none=> .halt (.stuck "part: no such cell") w:=by
 unfold vh
 rw [hu]
 cases d<;>simp [part,isAgg,run_underlying hu,sizeOf,typeInfo]<;>(first|(cases P.info? ty<;>simp)|(cases cs[off]?<;>simp))
theorem Rw {ty:TypeId} {d:TypeDesc} (hu:P.underlying ty=some d): ∃i,P.info? ty=some i:=by
 unfold Program.underlying at hu
 split at hu
 ·exact⟨_,by assumption⟩
 ·exact⟨_,by assumption⟩
 ·cases hu
theorem aeS {d:Nat} {ty:TypeId} {x y:Value} {r:Bool} (e:aeq P d ty x y=some r): ∃u,P.underlying ty=some u:=by
 cases d with
 |zero=>simp [aeq]at e
 |succ d=>
  cases hu:P.underlying ty with
  |some u=>exact⟨u,rfl⟩
  |none=>simp only [aeq,hu]at e;cases e
theorem WT {rec:TypeId->Value->Value->Option Bool} {d':Nat} {xs ys:Array Value}
  (hrec: ∀ty x y r,rec ty x y=some r->(∃u,P.underlying ty=some u)/\(Op.equalIn d' ty x y).run P w= .ok r w):
  ∀(fs:List Field) (r:Bool),abU rec P xs ys fs=some r->(Op.eqFields d' xs ys fs).run P w= .ok r w
 | [],r,e=>by simp [abU]at e;subst e;simp [Op.eqFields]
 |f::fs,r,e=>by
  simp only [abU]at e
  split at e
  ·cases e
  ·rename_i hname
   split at e
   ·rename_i r1 r2 h1 h2
    cases e
    have ih:=WT hrec fs r2 h2
    simp only [Op.eqFields,ne_eq,hname,not_false_eq_true,if_true,Sem.run_bind]
    split at h1
    ·rename_i hagg
     obtain⟨⟨u,hu⟩,heq⟩:=hrec _ _ _ _ h1
     obtain⟨i,hi⟩:=Rw hu
     have p1: ∀cs:Array Value,(part f.type cs f.offset).run P w= .ok (.agg (cs.extract f.offset (f.offset+eZ P f.type))) w:=fun cs=>by
      rw [En hu,hagg,hi];simp only [eZ,hi]
     simp only [p1,Result.andThen_ok,heq,Sem.run_ite]
     cases r1<;>simp [ih]
    ·rename_i hagg
     split at h1
     ·rename_i a b ha hb
      obtain⟨⟨u,hu⟩,heq⟩:=hrec _ _ _ _ h1
      have p1: ∀(cs:Array Value) (v:Value),cs[f.offset]?=some v->(part f.type cs f.offset).run P w= .ok v w:=fun cs v hv=>by
       rw [En hu,hagg,hv]
      simp only [p1 _ _ ha,p1 _ _ hb,Result.andThen_ok,heq,Sem.run_ite]
      cases r1<;>simp [ih]
     ·cases h1
   ·cases e
theorem abz : ∀(d d':Nat),d<=d'-> ∀(ty:TypeId) (x y:Value) (r:Bool),aeq P d ty x y=some r->(Op.equalIn d' ty x y).run P w= .ok r w
 |0,_,_,ty,x,y,r,e=>by simp [aeq]at e
 |d+1,0,hd,_,_,_,_,_=>by omega
 |d+1,d'+1,hd,ty,x,y,r,e=>by
  simp only [aeq]at e
  split at e
  ·rename_i hu;cases e;simp [Op.equalIn,run_underlying hu]
  ·rename_i hu;split at e
   ·rename_i hk;subst hk;cases e;simp [Op.equalIn,run_underlying hu]
   ·cases e
  ·rename_i hu;cases e;exact run_equalIn_string w d' ty _ _ hu
  ·rename_i a hu;cases e;cases a<;>simp [Op.equalIn,run_underlying hu]
  ·rename_i hu;cases e;simp [Op.equalIn,run_underlying hu]
  ·rename_i a _ _ _ _ hu;cases e;cases a<;>simp [Op.equalIn,run_underlying hu]
  ·rename_i hu;cases e;simp [Op.equalIn,run_underlying hu]
  ·rename_i fs xs ys hu
   split at e
   ·cases e
   ·rename_i hs
    have hf:P.fieldsOf ty=fs:=by simp [Program.fieldsOf,hu]
    rw [run_equalIn_struct w d' ty xs ys (by rw [hf];exact hu) (by simpa using hs),hf]
    exact WT (fun ty x y r e=>⟨aeS e,abz d d' (by omega) ty x y r e⟩) _ _ e
  ·cases e
theorem fE (op:BinOp) (ty:TypeId) (xo yo:Operand) (x y:Value) (h1:x≠ .nilIface) (h2: ∀cs,x≠ .agg cs):(eqGuard op ty xo yo x y).run P w= .ok () w:=by
 cases op<;>simp [eqGuard]<;>(cases x<;>first|exact absurd rfl h1|exact absurd rfl (h2 _)|simp)
theorem qG {d:Nat} {ty:TypeId} {x y:Value} {r:Bool} (hd:d<=10000) (e:aeq P d ty x y=some r):(Op.equal ty x y).run P w= .ok r w:=by
 unfold Op.equal Op.maxDepth
 exact abz d 10000 hd ty x y r e
theorem aek {op:BinOp} {ty:TypeId} {xo yo:Operand} {x y:Value} {K:Value->Prop} (e:R8 P op ty x y K):
  EL P (do eqGuard op ty xo yo x y;binOp op ty x y) w fun v w'=>w'=w/\K v:=by
 unfold R8 at e
 split at e
 ·--shl
  split at e
  ·exact e.elim
  ·rename_i hb
   exact⟨_,w,by simp [fE,binOp,Op.shift,hb],rfl,e⟩
 ·split at e
  ·exact e.elim
  ·rename_i hb
   exact⟨_,w,by simp [fE,binOp,Op.shift,hb],rfl,e⟩
 ·rename_i op' k a k' b hs1 hs2
  split at e
  ·rename_i hk
   subst hk
   cases op<;>simp only at e<;>(first
    |exact e.elim
    |(exact⟨_,w,by simp [fE,binOp,Op.intArith,Op.intBits,Op.intCmp,bJ],rfl,e⟩)
    |(split at e
      ·exact e.elim
      ·rename_i hb;exact⟨_,w,by simp [fE,binOp,Op.intDiv,hb],rfl,e⟩)
    |exact absurd rfl (hs1 _ _ _ _)
    |exact absurd rfl (hs2 _ _ _ _)
    |skip)
  ·exact e.elim
 ·rename_i sa sb
  obtain⟨hl,e⟩:=e
  have hl': ¬(9223372036854775807<((sa.size:Int)+(sb.size:Int))):=by omega
  exact⟨_,w,by simp [fE,binOp,Op.stringOp,hl'],rfl,e⟩
 ·exact⟨_,w,by simp [fE,binOp,Op.stringOp],rfl,e⟩
 ·exact⟨_,w,by simp [fE,binOp,Op.stringOp],rfl,e⟩
 ·exact⟨_,w,by simp [fE,binOp,Op.stringOp],rfl,e⟩
 ·split at e
  ·rename_i r hr
   exact⟨_,w,by simp [fE,binOp,qG (w:=w) (by omega) hr],rfl,e⟩
  ·exact e.elim
 ·split at e
  ·rename_i r hr
   exact⟨_,w,by simp [fE,binOp,qG (w:=w) (by omega) hr],rfl,e⟩
  ·exact e.elim
 ·split at e
  ·exact e.elim
  ·rename_i hg
   split at e
   ·rename_i r hr
    exact⟨_,w,by simp [run_eqGuard_agg _ _ _ _ _ _ _ hg,binOp,qG (w:=w) (by omega) hr],rfl,e⟩
   ·exact e.elim
 ·split at e
  ·exact e.elim
  ·rename_i hg
   split at e
   ·rename_i r hr
    exact⟨_,w,by simp [run_eqGuard_agg _ _ _ _ _ _ _ hg,binOp,qG (w:=w) (by omega) hr],rfl,e⟩
   ·exact e.elim
 ·split at e
  ·rename_i r hr
   exact⟨_,w,by simp [fE,binOp,qG (w:=w) (by omega) hr],rfl,e⟩
  ·exact e.elim
 ·split at e
  ·rename_i r hr
   exact⟨_,w,by simp [fE,binOp,qG (w:=w) (by omega) hr],rfl,e⟩
  ·exact e.elim
 ·split at e
  ·rename_i r hr
   exact⟨_,w,by simp [fE,binOp,qG (w:=w) (by omega) hr],rfl,e⟩
  ·exact e.elim
 ·split at e
  ·rename_i r hr
   exact⟨_,w,by simp [fE,binOp,qG (w:=w) (by omega) hr],rfl,e⟩
  ·exact e.elim
 ·exact e.elim
theorem ahb {op:UnOp} {x:Value} {K:Value->Prop} (e:aun op x K):EL P (Op.unary op x) w fun v w'=>w'=w/\K v:=by
 unfold aun at e
 split at e
 ·exact⟨_,w,by simp [Op.unary,Op.intArith],rfl,e⟩
 ·exact⟨_,w,by simp [Op.unary,Op.intBits,bJ],rfl,e⟩
 ·exact⟨_,w,by simp [Op.unary],rfl,e⟩
 ·exact e.elim
end Go.Lead
