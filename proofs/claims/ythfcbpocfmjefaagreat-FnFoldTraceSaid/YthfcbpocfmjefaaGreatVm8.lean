/- The abstract walk, part 8: regions in whatever order the model draws; no statement of the program. -/
import Derived.Test.YthfcbpocfmjefaaGreatVm7
namespace Go.Lead
open Go.RowKit
set_option linter.unusedSimpArgs false
set_option linter.unusedVariables false
def F2 (P:Program) (o:Oper):Bool:=
 match o.op with
 | .move _| .assign _| .pick _ _ _| .build _ _| .nilCheck _| .binOp _ _ _ _ _| .unOp _ _ _| .makeFunc (.func _) _ _| .slice _ _ _ _ _| .fieldAddr _ _ _| .field _ _ _
 | .indexAddr _ _ _| .index _ _ _| .extract _ _| .makeInterface _ _=>true
 | .call c=>match c.callee with
  | .builtin .cap| .builtin .max| .builtin .min=>true
  | .builtin .len=>match (c.argTypes[0]?).bind P.underlying with
   |some (.slice _)=>true
   |some .string=>true
   |_=>false
  |_=>false
 |_=>false
def agy (P:Program) (o:Oper) (t:Tm) (v:Value) (ok:Hp->Prop):Prop:=
 ∀t' h' K,(∀x∈o.op.operands,t'.ev x=t.ev x)->ok h'->K v h'->aop P o t' h' K
section
variable {P :Program} {n:Nat} {h:Hp} {t:Tm}
theorem qn {t':Tm}: ∀(xs:List Operand),(∀x∈xs,t'.ev x=t.ev x)->evs t' xs=evs t xs
 | [],_=>rfl
 |x::xs,e=>by simp only [evs];rw [e x (by simp),qn xs (fun y hy=>e y (by simp [hy]))]
theorem su {t':Tm}: ∀(xs:List (Nat×Operand)),(∀x∈xs.map (·.2),t'.ev x=t.ev x)->uC t' xs=uC t xs
 | [],_=>rfl
 |(i,x)::xs,e=>by simp only [uC];rw [e x (by simp),su xs (fun y hy=>e y (by simp at hy⊢;exact .inr hy))]
theorem Md {op:BinOp} {ty:TypeId} {x y:Value} {K:Value->Prop} (e:R8 P op ty x y K): ∃v,K v/\ ∀K':Value->Prop,K' v->R8 P op ty x y K':=by
 unfold R8 at e⊢
 split at e
 ·split at e
  ·exact e.elim
  ·rename_i hb;exact⟨_,e,fun K' k=>by simpa [hb] using k⟩
 ·split at e
  ·exact e.elim
  ·rename_i hb;exact⟨_,e,fun K' k=>by simpa [hb] using k⟩
 ·rename_i op' k a k' b hs1 hs2
  split at e
  ·rename_i hk
   subst hk
   simp only [if_true]
   cases op<;>simp only at e⊢ <;>(first
    |exact e.elim
    |exact⟨_,e,fun K' k=>k⟩
    |(split at e
      ·exact e.elim
      ·rename_i hb;exact⟨_,e,fun K' k=>by simpa [hb] using k⟩)
    |exact absurd rfl (hs1 _ _ _ _)
    |exact absurd rfl (hs2 _ _ _ _))
  ·exact e.elim
 ·exact⟨_,e.2,fun K' k=>⟨e.1,k⟩⟩
 ·exact⟨_,e,fun K' k=>k⟩
 ·exact⟨_,e,fun K' k=>k⟩
 ·exact⟨_,e,fun K' k=>k⟩
 ·split at e
  ·rename_i r hr;exact⟨_,e,fun K' k=>by first|exact k|(simp only [hr];exact k)⟩
  ·exact e.elim
 ·split at e
  ·rename_i r hr;exact⟨_,e,fun K' k=>by first|exact k|(simp only [hr];exact k)⟩
  ·exact e.elim
 ·split at e
  ·exact e.elim
  ·rename_i hg
   split at e
   ·rename_i r hr;exact⟨_,e,fun K' k=>by first|exact k|(simp only [hg,hr];exact k)|(simp only [hr];exact k)⟩
   ·exact e.elim
 ·split at e
  ·exact e.elim
  ·rename_i hg
   split at e
   ·rename_i r hr;exact⟨_,e,fun K' k=>by first|exact k|(simp only [hg,hr];exact k)|(simp only [hr];exact k)⟩
   ·exact e.elim
 ·split at e
  ·rename_i r hr;exact⟨_,e,fun K' k=>by first|exact k|(simp only [hr];exact k)⟩
  ·exact e.elim
 ·split at e
  ·rename_i r hr;exact⟨_,e,fun K' k=>by first|exact k|(simp only [hr];exact k)⟩
  ·exact e.elim
 ·split at e
  ·rename_i r hr;exact⟨_,e,fun K' k=>by first|exact k|(simp only [hr];exact k)⟩
  ·exact e.elim
 ·split at e
  ·rename_i r hr;exact⟨_,e,fun K' k=>by first|exact k|(simp only [hr];exact k)⟩
  ·exact e.elim
 ·exact e.elim
theorem N9 {op:UnOp} {x:Value} {K:Value->Prop} (e:aun op x K): ∃v,K v/\ ∀K':Value->Prop,K' v->aun op x K':=by
 unfold aun at e⊢
 split at e
 ·exact⟨_,e,fun K' k=>k⟩
 ·exact⟨_,e,fun K' k=>k⟩
 ·exact⟨_,e,fun K' k=>k⟩
 ·exact e.elim
theorem uX {x:Option Operand} {d:Nat} {K:Int->Prop} (e:xj t x d K): ∃i,K i/\ ∀(t':Tm) (K':Int->Prop),(∀y,x=some y->t'.ev y=t.ev y)->K' i->xj t' x d K':=by
 unfold xj at e
 split at e
 ·exact⟨_,e,fun t' K' _ k=>k⟩
 ·rename_i y
  obtain⟨v,hv,e⟩:=ce e
  split at e
  ·refine⟨_,e,fun t' K' hx k=>?_⟩
   unfold xj
   simp only [hx _ rfl,hv,w1]
   exact k
  ·exact e.elim
theorem Zy {o:Oper} {K:Value->Hp->Prop} (hp:F2 P o=true) (e:aop P o t h K): ∃v,K v h/\agy P o t v (fun _=>True):=by
 obtain⟨dst,op,type,pos,after,guard⟩:=o
 unfold aop at e
 simp only at e
 split at e
 ·rename_i xo
  obtain⟨v,hv,k⟩:=ce e
  exact⟨v,k,fun t' h' K' hx _ k'=>by unfold aop;simp only [hx xo (by simp [Op.operands]),hv,w1];exact k'⟩
 ·rename_i xo
  obtain⟨v,hv,k⟩:=ce e
  exact⟨v,k,fun t' h' K' hx _ k'=>by unfold aop;simp only [hx xo (by simp [Op.operands]),hv,w1];exact k'⟩
 ·rename_i c x y
  obtain⟨v,hv,k⟩:=ce e
  clear e
  split at k
  ·obtain⟨u,hu,k⟩:=ce k
   exact⟨u,k,fun t' h' K' hx _ k'=>by unfold aop;simp only [hx c (by simp [Op.operands]),hx x (by simp [Op.operands]),hv,hu,w1];exact k'⟩
  ·obtain⟨u,hu,k⟩:=ce k
   exact⟨u,k,fun t' h' K' hx _ k'=>by unfold aop;simp only [hx c (by simp [Op.operands]),hx y (by simp [Op.operands]),hv,hu,w1];exact k'⟩
  ·exact k.elim
 ·cases hp
 ·cases hp
 ·--build
  rename_i ty parts
  split at e
  ·rename_i vs hvs
   split at e
   ·rename_i cs hcs
    refine⟨_,e,fun t' h' K' hx _ k'=>?_⟩
    unfold aop
    have hc:=su (t:=t) (t':=t') parts.toList (fun x hxm=>hx x (by simpa [Op.operands] using hxm))
    simp only [hc,hvs,hcs]
    exact k'
   ·exact e.elim
  ·exact e.elim
 ·cases hp
 ·cases hp
 ·cases hp
 ·--nilCheck
  rename_i xo
  obtain⟨v,hv,k⟩:=ce e
  clear e
  split at k
  ·obtain⟨b,o,rfl,k⟩:=k
   exact⟨_,k,fun t' h' K' hx _ k'=>by unfold aop;simp only [hx xo (by simp [Op.operands]),hv,w1];exact⟨b,o,rfl,k'⟩⟩
  ·exact⟨_,k,fun t' h' K' hx _ k'=>by unfold aop;simp only [hx xo (by simp [Op.operands]),hv,w1];exact k'⟩
  ·exact k.elim
 ·--binOp
  rename_i bop xT x y yT
  obtain⟨v,hv,k⟩:=ce e
  clear e
  replace k:=ce k;obtain⟨u,hu,k⟩:=k
  obtain⟨r,k,hall⟩:=Md k
  exact⟨r,k,fun t' h' K' hx _ k'=>by unfold aop;simp only [hx x (by simp [Op.operands]),hx y (by simp [Op.operands]),hv,hu,w1];exact hall _ k'⟩
 ·rename_i uop xT x
  obtain⟨v,hv,k⟩:=ce e
  clear e
  obtain⟨r,k,hall⟩:=N9 k
  exact⟨r,k,fun t' h' K' hx _ k'=>by unfold aop;simp only [hx x (by simp [Op.operands]),hv,w1];exact hall _ k'⟩
 ·cases hp
 ·--makeFunc
  rename_i f xs ys
  obtain⟨vs,hvs,k⟩:=uE e
  clear e
  replace k:=uE k;obtain⟨us,hus,k⟩:=k
  refine⟨_,k,fun t' h' K' hx _ k'=>?_⟩
  unfold aop
  have h1:=qn (t:=t) (t':=t') xs.toList (fun x hxm=>hx x (by simp [Op.operands];exact .inl (by simpa using hxm)))
  have h2:=qn (t:=t) (t':=t') ys.toList (fun x hxm=>hx x (by simp [Op.operands];exact .inr (by simpa using hxm)))
  simp only [h1,h2,hvs,hus,wL]
  exact k'
 ·cases hp
 ·cases hp
 ·--slice
  rename_i ty x lo hi
  obtain⟨v,hv,k⟩:=ce e
  clear e
  have hlo: ∀(t':Tm),(∀z∈(Op.slice ty x lo hi none).operands,t'.ev z=t.ev z)-> ∀y,lo=some y->t'.ev y=t.ev y:=fun t' hx y hy=>hx y (by simp [Op.operands,hy])
  have hhi: ∀(t':Tm),(∀z∈(Op.slice ty x lo hi none).operands,t'.ev z=t.ev z)-> ∀y,hi=some y->t'.ev y=t.ev y:=fun t' hx y hy=>hx y (by simp [Op.operands,hy])
  split at k
  ·rename_i s hty
   obtain⟨l,k,hl⟩:=uX k
   obtain⟨u,⟨h0,h1,h2,k⟩,hu⟩:=uX k
   refine⟨_,k,fun t' h' K' hx _ k'=>?_⟩
   unfold aop
   simp only [hx x (by simp [Op.operands]),hv,w1,hty]
   exact hl t' _ (hlo t' hx) (hu t' _ (hhi t' hx) ⟨h0,h1,h2,k'⟩)
  ·rename_i el aa m c hty
   split at k
   ·exact k.elim
   ·rename_i hi'
    replace k:=uX k;obtain⟨l,k,hl⟩:=k
    replace k:=uX k;obtain⟨u,⟨h0,h1,h2,k⟩,hu⟩:=k
    rcases k with ⟨rfl,k⟩|⟨b,o,rfl,k⟩
    ·refine⟨_,k,fun t' h' K' hx _ k'=>?_⟩
     unfold aop
     simp only [hx x (by simp [Op.operands]),hv,w1,hty,hi']
     exact hl t' _ (hlo t' hx) (hu t' _ (hhi t' hx) ⟨h0,h1,h2, .inl (by first|exact⟨rfl,k'⟩|exact⟨trivial,k'⟩)⟩)
    ·refine⟨_,k,fun t' h' K' hx _ k'=>?_⟩
     unfold aop
     simp only [hx x (by simp [Op.operands]),hv,w1,hty,hi']
     exact hl t' _ (hlo t' hx) (hu t' _ (hhi t' hx) ⟨h0,h1,h2, .inr ⟨b,o,rfl,k'⟩⟩)
  ·exact k.elim
 ·--s[:0:0]
  rename_i sty xo
  obtain⟨v,hv,k⟩:=ce e
  clear e
  split at k
  ·rename_i hty
   split at k
   ·rename_i hi'
    exact⟨_,k,fun t' h' K' hx _ k'=>by unfold aop;simp only [hx xo (by simp [Op.operands]),hv,w1,hty,hi'];exact k'⟩
   ·exact k.elim
  ·exact k.elim
 ·--fieldAddr
  rename_i sty xo fi
  obtain⟨v,hv,k⟩:=ce e
  clear e
  split at k
  ·rename_i hty
   split at k
   ·rename_i hf
    split at k
    ·split at k
     ·exact k.elim
     ·rename_i hz
      exact⟨_,k,fun t' h' K' hx _ k'=>by unfold aop;simp only [hx xo (by simp [Op.operands]),hv,w1,hty,hf,hz];exact k'⟩
    ·exact k.elim
   ·exact k.elim
  ·exact k.elim
 ·--field
  rename_i sty xo fi
  obtain⟨v,hv,k⟩:=ce e
  clear e
  split at k
  ·rename_i hty
   split at k
   ·rename_i hf
    split at k
    ·rename_i hag
     exact⟨_,k,fun t' h' K' hx _ k'=>by unfold aop;simp only [hx xo (by simp [Op.operands]),hv,w1,hty,hf,hag];exact k'⟩
    ·rename_i hag
     split at k
     ·rename_i hs hu
      exact⟨_,k,fun t' h' K' hx _ k'=>by unfold aop;simp only [hx xo (by simp [Op.operands]),hv,w1,hty,hf,hag,hs,hu];exact k'⟩
     ·exact k.elim
   ·exact k.elim
  ·exact k.elim
 ·--indexAddr
  rename_i ty x i
  obtain⟨v,hv,k⟩:=ce e
  clear e
  replace k:=ce k;obtain⟨u,hu,k⟩:=k
  split at k
  ·rename_i hty
   split at k
   ·exact k.elim
   ·rename_i hi
    obtain⟨b,o,rfl,h0,h1,k⟩:=k
    exact⟨_,k,fun t' h' K' hx _ k'=>by unfold aop;simp only [hx x (by simp [Op.operands]),hx i (by simp [Op.operands]),hv,hu,w1,hty,hi];exact⟨b,o,rfl,h0,h1,k'⟩⟩
  ·rename_i hty
   split at k
   ·exact k.elim
   ·rename_i hi
    obtain⟨h0,h1,k⟩:=k
    exact⟨_,k,fun t' h' K' hx _ k'=>by unfold aop;simp only [hx x (by simp [Op.operands]),hx i (by simp [Op.operands]),hv,hu,w1,hty,hi];exact⟨h0,h1,k'⟩⟩
  ·exact k.elim
 ·--index
  rename_i ty x i
  obtain⟨v,hv,k⟩:=ce e
  clear e
  replace k:=ce k;obtain⟨u,hu,k⟩:=k
  split at k
  ·rename_i hty
   obtain⟨h0,c,hc,k⟩:=k
   exact⟨_,k,fun t' h' K' hx _ k'=>by unfold aop;simp only [hx x (by simp [Op.operands]),hx i (by simp [Op.operands]),hv,hu,w1,hty];exact⟨h0,c,hc,k'⟩⟩
  ·exact k.elim
 ·cases hp
 ·cases hp
 ·cases hp
 ·--extract
  rename_i xo ix
  obtain⟨v,hv,k⟩:=ce e
  clear e
  replace k:=ce k;obtain⟨u,hu,k⟩:=k
  exact⟨_,k,fun t' h' K' hx _ k'=>by unfold aop;simp only [hx xo (by simp [Op.operands]),hv,hu,w1];exact k'⟩
 ·--makeInterface
  rename_i ity xo
  obtain⟨v,hv,k⟩:=ce e
  clear e
  split at k
  ·exact k.elim
  ·rename_i d hni hu
   refine⟨_,k,fun t' h' K' hx _ k'=>?_⟩
   unfold aop
   simp only [hx xo (by simp [Op.operands]),hv,w1]
   rw [hu]
   cases d<;>first|exact k'|exact(hni _ rfl).elim
  ·exact k.elim
 ·--call
  rename_i c
  split at e
  ·rename_i cal b hc
   obtain⟨vs,hvs,k⟩:=uE e
   clear e
   have hcong: ∀(t':Tm),(∀x∈(Op.call c).operands,t'.ev x=t.ev x)->evs t' c.args.toList=evs t c.args.toList:=fun t' hx=>
    qn _ (fun x hxm=>hx x (by simp [Op.operands,Call.operands,hc];simpa using hxm))
   have key: ∃v,K v h/\ ∀h' K',K' v h'->kB P b c.argTypes vs h' K':=by
    unfold F2 at hp
    simp only [hc]at hp
    unfold kB at k
    split at k
    ·split at k
     ·rename_i hb;exact⟨_,k,fun h' K' k'=>by unfold kB;simp only [hb];exact k'⟩
     ·exact k.elim
    ·split at k
     ·rename_i hb;exact⟨_,k,fun h' K' k'=>by unfold kB;simp only [hb];exact k'⟩
     ·exact k.elim
    ·split at k
     ·rename_i hb;simp only [hb]at hp;cases hp
     ·exact k.elim
    ·cases hp
    ·cases hp
    ·exact⟨_,k,fun h' K' k'=>by unfold kB;exact k'⟩
    ·exact⟨_,k,fun h' K' k'=>by unfold kB;exact k'⟩
    ·cases hp
    ·split at k
     ·rename_i hb;exact⟨_,k,fun h' K' k'=>by unfold kB;simp only [hb];exact k'⟩
     ·exact k.elim
    ·exact k.elim
   obtain⟨v,k,hall⟩:=key
   exact⟨v,k,fun t' h' K' hx _ k'=>by unfold aop;simp only [hc,hcong t' hx,hvs,wL];exact hall _ _ k'⟩
  ·rename_i cal f hc
   unfold F2 at hp;simp [hc]at hp
  ·exact e.elim
 ·exact e.elim
theorem Ox {ty:TypeId} {r:Option Value} {K K':Value->Prop} (l: ∀v,K v->K' v) (e:Ql P ty r K):Ql P ty r K':=by
 obtain⟨v,_,k,all⟩:=zi e
 exact all _ (l _ k)
theorem SV {f:Nat->Option Value}: ∀(ts:List TypeId) (o:Nat) (K K':List Value->Prop),(∀v,K v->K' v)->ldL P f o ts K->ldL P f o ts K'
 | [],_,_,_,l,e=>l _ e
 |t::ts,o,K,K',l,e=>Ox (fun v=>SV ts (o+1) _ _ (fun vs=>l _)) e
theorem YA {ty:TypeId} {f:Nat->Option Value} {o:Nat} {K K':Value->Prop} (l: ∀v,K v->K' v) (e:NU P ty f o K):NU P ty f o K':=by
 unfold NU at e⊢
 split at e
 ·split at e
  ·exact SV _ _ _ _ (fun vs=>l _) e
  ·exact e.elim
 ·exact Ox l e
theorem Vo {ty:TypeId} {v:Value} {K K':Value->Prop} (l: ∀v,K v->K' v) (e:Mt P ty v K):Mt P ty v K':=
 (tG e).2 _ (l _ (tG e).1)
theorem dx {x:Option Value} {K K':Value->Prop} (l: ∀v,K v->K' v) (e:w1 x K):w1 x K':=by
 cases x with
 |none=>exact e
 |some v=>exact l _ e
theorem I6 {x:Option (List Value)} {K K':List Value->Prop} (l: ∀v,K v->K' v) (e:wL x K):wL x K':=by
 cases x with
 |none=>exact e
 |some v=>exact l _ e
theorem VF {ty:TypeId} {v:Value} {K K':Value->Prop} (l: ∀v,K v->K' v) (e:Lz P ty v K):Lz P ty v K':=
 (Bi e).2 _ (l _ (Bi e).1)
theorem Yk {op:BinOp} {ty:TypeId} {x y:Value} {K K':Value->Prop} (l: ∀v,K v->K' v) (e:R8 P op ty x y K):R8 P op ty x y K':=by
 obtain⟨v,k,hall⟩:=Md e
 exact hall _ (l _ k)
theorem abT {op:UnOp} {x:Value} {K K':Value->Prop} (l: ∀v,K v->K' v) (e:aun op x K):aun op x K':=by
 obtain⟨v,k,hall⟩:=N9 e
 exact hall _ (l _ k)
theorem BM {x:Option Operand} {d:Nat} {K K':Int->Prop} (l: ∀v,K v->K' v) (e:xj t x d K):xj t x d K':=by
 obtain⟨i,k,hall⟩:=uX e
 exact hall t _ (fun _ _=>rfl) (l _ k)
theorem Xv {base src:Option Addr} {n cap m sz by_:Nat} {K K':Option Addr->Nat->Nat->Hp->Prop} (l: ∀a n c h,K a n c h->K' a n c h) (e:cy h base n cap src m sz by_ K):cy h base n cap src m sz by_ K':=by
 rcases e with ⟨a,b,c⟩|⟨a,b,c,sb,so,news,d,e1,f,g,r⟩
 ·exact .inl ⟨a,b,l _ _ _ _ c⟩
 ·refine .inr ⟨a,b,c,sb,so,news,d,e1,f,g,?_⟩
  rcases r with ⟨x,olds,y,z,k⟩|⟨b',all,x,y,z,k⟩
  ·exact .inl ⟨x,olds,y,z,fun b c h1 h2=>l _ _ _ _ (k b c h1 h2)⟩
  ·exact .inr ⟨b',all,x,y,z,fun b c h1 h2=>l _ _ _ _ (k b c h1 h2)⟩
theorem Ub {src dst:TypeId} {x:Value} {K K':Value->Hp->Prop} (l: ∀v h,K v h->K' v h) (e:Ow P src dst x h K):Ow P src dst x h K':=by
 unfold Ow at e⊢
 split at e
 ·exact l _ _ e
 ·exact l _ _ e
 ·split at e
  ·obtain⟨bs,a,k⟩:=e;exact⟨bs,a,l _ _ k⟩
  ·exact e.elim
 ·split at e
  ·exact fun b c h1 h2=>l _ _ (e b c h1 h2)
  ·exact e.elim
 ·exact e.elim
theorem Ni {b:Builtin} {argTypes:Array TypeId} {vs:List Value} {K K':Value->Hp->Prop} (l: ∀v h,K v h->K' v h) (e:kB P b argTypes vs h K):kB P b argTypes vs h K':=by
 unfold kB at e⊢
 split at e
 ·split at e
  ·exact l _ _ e
  ·exact e.elim
 ·split at e
  ·exact l _ _ e
  ·exact e.elim
 ·split at e
  ·obtain⟨r,es,a,b,k⟩:=e;exact⟨r,es,a,b,l _ _ k⟩
  ·exact e.elim
 ·split at e
  ·split at e
   ·split at e
    ·exact Xv (fun a n c h=>l _ _) e
    ·exact e.elim
   ·exact e.elim
  ·exact e.elim
 ·split at e
  ·split at e
   ·split at e
    ·obtain⟨a1,a2,a3,a4,a5,a6,a7,k⟩:=e
     exact⟨a1,a2,a3,a4,a5,a6,a7,fun b c h1 h2=>l _ _ (k b c h1 h2)⟩
    ·exact e.elim
   ·exact e.elim
  ·exact e.elim
 ·exact l _ _ e
 ·exact l _ _ e
 ·split at e
  ·split at e
   ·rcases e with ⟨a,k⟩|⟨b,o,cs,sz,a1,a2,a3,a4,a5,k⟩
    ·exact .inl ⟨a,l _ _ k⟩
    ·exact .inr ⟨b,o,cs,sz,a1,a2,a3,a4,a5,l _ _ k⟩
   ·exact e.elim
  ·exact e.elim
 ·split at e
  ·exact l _ _ e
  ·exact e.elim
 ·exact e.elim
theorem Rg {o:Oper} {K K':Value->Hp->Prop} (l: ∀v h,K v h->K' v h) (e:aop P o t h K):aop P o t h K':=by
 obtain⟨dst,op,type,pos,after,guard⟩:=o
 unfold aop at e⊢
 simp only at e⊢
 split at e
 ·exact dx (fun v=>l v _) e
 ·exact dx (fun v=>l v _) e
 ·refine dx (fun v k=>?_) e
  split at k
  ·exact dx (fun v=>l v _) k
  ·exact dx (fun v=>l v _) k
  ·exact k.elim
 ·split at e
  ·exact fun b hb=>l _ _ (e b hb)
  ·exact e.elim
 ·exact dx (fun v k b hb=>l _ _ (k b hb)) e
 ·split at e
  ·split at e
   ·exact l _ _ e
   ·exact e.elim
  ·exact e.elim
 ·split at e
  ·split at e
   ·exact fun b hb=>l _ _ (e b hb)
   ·exact e.elim
  ·exact e.elim
 ·refine dx (fun v k=>?_) e
  split at k
  ·exact YA (fun v=>l v _) k
  ·exact k.elim
 ·refine dx (fun v k=>dx (fun u k=>?_) k) e
  split at k
  ·split at k
   ·obtain⟨cs,sz,a,b,k⟩:=k;exact⟨cs,sz,a,b,l _ _ k⟩
   ·exact k.elim
  ·exact k.elim
 ·refine dx (fun v k=>?_) e
  split at k
  ·obtain⟨b,o,a,k⟩:=k;exact⟨b,o,a,l _ _ k⟩
  ·exact l _ _ k
  ·exact k.elim
 ·exact dx (fun v k=>dx (fun u k=>Yk (fun v=>l v _) k) k) e
 ·exact dx (fun v k=>abT (fun v=>l v _) k) e
 ·exact dx (fun v k=>Ub l k) e
 ·exact I6 (fun v k=>I6 (fun u k=>l _ _ k) k) e
 ·exact fun b hb=>l _ _ (e b hb)
 ·refine dx (fun v k=>dx (fun u k=>?_) k) e
  split at k
  ·split at k
   ·obtain⟨a,b,c,d,k⟩:=k;exact⟨a,b,c,d,fun b hb=>l _ _ (k b hb)⟩
   ·exact k.elim
  ·exact k.elim
 ·refine dx (fun v k=>?_) e
  split at k
  ·exact BM (fun _ k=>BM (fun _ k=>⟨k.1,k.2.1,k.2.2.1,l _ _ k.2.2.2⟩) k) k
  ·split at k
   ·exact k.elim
   ·refine BM (fun _ k=>BM (fun _ k=>⟨k.1,k.2.1,k.2.2.1,?_⟩) k) k
    rcases k.2.2.2 with ⟨a,k⟩|⟨b,o,a,k⟩
    ·exact .inl ⟨a,l _ _ k⟩
    ·exact .inr ⟨b,o,a,l _ _ k⟩
  ·exact k.elim
 ·refine dx (fun v k=>?_) e
  split at k
  ·split at k
   ·exact l _ _ k
   ·exact k.elim
  ·exact k.elim
 ·refine dx (fun v k=>?_) e
  split at k
  ·split at k
   ·split at k
    ·split at k
     ·exact k.elim
     ·exact l _ _ k
    ·exact k.elim
   ·exact k.elim
  ·exact k.elim
 ·refine dx (fun v k=>?_) e
  split at k
  ·split at k
   ·split at k
    ·exact l _ _ k
    ·split at k
     ·exact l _ _ k
     ·exact k.elim
   ·exact k.elim
  ·exact k.elim
 ·refine dx (fun v k=>dx (fun u k=>?_) k) e
  split at k
  ·split at k
   ·exact k.elim
   ·obtain⟨b,o,a,c,d,k⟩:=k;exact⟨b,o,a,c,d,l _ _ k⟩
  ·split at k
   ·exact k.elim
   ·obtain⟨c,d,k⟩:=k;exact⟨c,d,l _ _ k⟩
  ·exact k.elim
 ·refine dx (fun v k=>dx (fun u k=>?_) k) e
  split at k
  ·obtain⟨a,b,c,k⟩:=k;exact⟨a,b,c,l _ _ k⟩
  ·exact k.elim
 ·refine dx (fun v k=>dx (fun u k=>?_) k) e
  split at k
  ·split at k
   ·obtain⟨r,es,res,a,b,c,k⟩:=k;exact⟨r,es,res,a,b,c,Vo (fun v=>l _ _) k⟩
   ·exact k.elim
  ·exact k.elim
 ·refine dx (fun v k=>dx (fun u k=>dx (fun x k=>?_) k) k) e
  split at k
  ·split at k
   ·obtain⟨r,es,res,a,b,c,d,k⟩:=k;exact⟨r,es,res,a,b,c,d,l _ _ k⟩
   ·exact k.elim
  ·exact k.elim
 ·refine dx (fun v k=>dx (fun u k=>dx (fun x k=>?_) k) k) e
  split at k
  ·split at k
   ·obtain⟨r,es,res,a,b,c,d,k⟩:=k;exact⟨r,es,res,a,b,c,d,l _ _ k⟩
   ·exact k.elim
  ·exact k.elim
 ·exact dx (fun v k=>dx (fun u k=>l _ _ k) k) e
 ·refine dx (fun v k=>?_) e
  split at k
  ·exact k.elim
  ·exact l _ _ k
  ·exact k.elim
 ·split at e
  ·exact I6 (fun v k=>Ni l k) e
  ·refine dx (fun v k=>I6 (fun u k=>?_) k) e
   split at k
   ·exact k.mono (fun v h' k=>VF (fun v=>l _ _) k)
   ·exact k.elim
  ·exact e.elim
 ·exact e.elim
theorem Ko {t':Tm} {x:Option Operand} (hx: ∀y,x=some y->t'.ev y=t.ev y) (d:Nat) (K:Int->Prop):xj t' x d K=xj t x d K:=by
 unfold xj
 split
 ·rfl
 ·rw [hx _ rfl]
theorem Ze {t':Tm} {o:Oper} (hx: ∀x∈o.op.operands,t'.ev x=t.ev x) (K:Value->Hp->Prop):aop P o t' h K=aop P o t h K:=by
 obtain⟨dst,op,type,pos,after,guard⟩:=o
 have two: ∀x y:Operand,op.operands= #[x,y]->t'.ev x=t.ev x/\t'.ev y=t.ev y:=fun x y e=>⟨hx x (by simp [e]),hx y (by simp [e])⟩
 have one: ∀x:Operand,op.operands= #[x]->t'.ev x=t.ev x:=fun x e=>hx x (by simp [e])
 have three: ∀x y z:Operand,op.operands= #[x,y,z]->t'.ev x=t.ev x/\t'.ev y=t.ev y/\t'.ev z=t.ev z:=fun x y z e=>⟨hx x (by simp [e]),hx y (by simp [e]),hx z (by simp [e])⟩
 cases op
 case makeFunc fn xs ys=>
  have h1:=qn (t:=t) (t':=t') xs.toList (fun x hxm=>hx x (by simp [Op.operands];exact .inl (by simpa using hxm)))
  have h2:=qn (t:=t) (t':=t') ys.toList (fun x hxm=>hx x (by simp [Op.operands];exact .inr (by simpa using hxm)))
  cases fn<;>(unfold aop;simp only [h1,h2])
 case build ty parts=>
  have hc:=su (t:=t) (t':=t') parts.toList (fun x hxm=>hx x (by simpa [Op.operands] using hxm))
  unfold aop;simp only [hc]
 case buildSlice ty len parts=>
  have hc:=su (t:=t) (t':=t') parts.toList (fun x hxm=>hx x (by simpa [Op.operands] using hxm))
  unfold aop;simp only [hc]
 case slice ty x lo hi mx=>
  have h0:=hx x (by simp [Op.operands])
  have h1: ∀d K,xj t' lo d K=xj t lo d K:=Ko (fun y hy=>hx y (by simp [Op.operands,hy]))
  have h2: ∀d K,xj t' hi d K=xj t hi d K:=Ko (fun y hy=>hx y (by simp [Op.operands,hy]))
  cases mx with
  |none=>unfold aop;simp only [h0,h1,h2]
  |some y=>unfold aop;simp only [h0];split<;>simp_all
 case call c=>
  cases hc:c.callee with
  |builtin b=>
   have h1:=qn (t:=t) (t':=t') c.args.toList (fun x hxm=>hx x (by simp [Op.operands,Call.operands,hc];simpa using hxm))
   unfold aop;simp only [hc,h1]
  |value f=>
   have h1:=qn (t:=t) (t':=t') c.args.toList (fun x hxm=>hx x (by simp [Op.operands,Call.operands,hc];exact .inr (by simpa using hxm)))
   have h2:=hx f (by simp [Op.operands,Call.operands,hc])
   unfold aop;simp only [hc,h1,h2]
  |invoke r m=>unfold aop;simp only [hc]
 case makeMap ty r=>cases r<;>(unfold aop;rfl)
 case move x=>have:=one x rfl;unfold aop;simp only [this]
 case assign x=>have:=one x rfl;unfold aop;simp only [this]
 case box ty x=>have:=one x rfl;unfold aop;simp only [this]
 case load ty x=>have:=one x rfl;unfold aop;simp only [this]
 case nilCheck x=>have:=one x rfl;unfold aop;simp only [this]
 case unOp u ty x=>have:=one x rfl;unfold aop;simp only [this]
 case convert u ty x=>have:=one x rfl;unfold aop;simp only [this]
 case fieldAddr u x f=>have:=one x rfl;unfold aop;simp only [this]
 case field u x f=>have:=one x rfl;unfold aop;simp only [this]
 case extract x i=>have:=one x rfl;unfold aop;simp only [this]
 case makeInterface ty x=>have:=one x rfl;unfold aop;simp only [this]
 case pick x y z=>have:=three x y z rfl;unfold aop;simp only [this.1,this.2.1,this.2.2]
 case store ty x y=>have:=two x y rfl;unfold aop;simp only [this.1,this.2]
 case binOp bo ty x y yt=>have:=two x y rfl;unfold aop;simp only [this.1,this.2]
 case makeSlice ty x y=>have:=two x y rfl;unfold aop;simp only [this.1,this.2]
 case indexAddr ty x y=>have:=two x y rfl;unfold aop;simp only [this.1,this.2]
 case index ty x y=>have:=two x y rfl;unfold aop;simp only [this.1,this.2]
 case lookup ty x y ok=>have:=two x y rfl;unfold aop;simp only [this.1,this.2]
 case mapUpdate ty x y z=>have:=three x y z rfl;unfold aop;simp only [this.1,this.2.1,this.2.2]
 case insert ty x y z=>have:=three x y z rfl;unfold aop;simp only [this.1,this.2.1,this.2.2]
 all_goals (unfold aop;rfl)
theorem Pm {f:Nat->Option Value}: ∀(ts:List TypeId) (o:Nat) (K:List Value->Prop),ldL P f o ts K-> ∃vs,K vs/\ ∀K':List Value->Prop,K' vs->ldL P f o ts K'
 | [],o,K,e=>⟨[],e,fun K' k=>k⟩
 |t::ts,o,K,e=>by
  obtain⟨v,_,k,hall⟩:=zi e
  obtain⟨vs,k,hall'⟩:=Pm ts (o+1) _ k
  exact⟨v::vs,k,fun K' k'=>hall _ (hall' _ k')⟩
theorem Vv {ty:TypeId} {f:Nat->Option Value} {o:Nat} {K:Value->Prop} (e:NU P ty f o K): ∃v,K v/\ ∀K':Value->Prop,K' v->NU P ty f o K':=by
 unfold NU at e⊢
 split at e
 ·split at e
  ·obtain⟨vs,k,hall⟩:=Pm _ _ _ e
   exact⟨_,k,fun K' k'=>hall _ k'⟩
  ·exact e.elim
 ·obtain⟨v,_,k,hall⟩:=zi e
  exact⟨v,k,hall⟩
def abw (o:Oper):Bool:=
 match o.op with
 | .load _ _| .lookup _ _ _ _=>true
 |_=>false
def Fv (o:Oper) (t:Tm) (h h':Hp):Prop:=
 match o.op with
 | .load _ x=>match t.ev x with
  |some (.pointer (some ⟨b,_,_⟩))=>h' b=h b
  |_=>True
 | .lookup _ x _ _=>match t.ev x with
  |some (.map m)=> ∀r,m=some r->h' r=h r
  |_=>True
 |_=>True
theorem LX (o:Oper) (t:Tm) (h:Hp):Fv o t h h:=by
 unfold Fv
 split
 ·split<;>simp
 ·split<;>simp
 ·trivial
theorem Xj {h h':Hp} {b:Nat} (e:h' b=h b):h'.cell b=h.cell b:=by
 funext o;unfold Hp.cell;rw [e]
theorem YP {o:Oper} {K:Value->Hp->Prop} (hp:abw o=true) (e:aop P o t h K): ∃v,K v h/\agy P o t v (Fv o t h):=by
 obtain⟨dst,op,type,pos,after,guard⟩:=o
 cases op
 case load ty x=>
  unfold aop at e
  simp only at e
  obtain⟨v,hv,k⟩:=ce e
  clear e
  split at k
  ·rename_i b off
   obtain⟨u,k,hall⟩:=Vv k
   refine⟨u,k,fun t' h' K' hx ok k'=>?_⟩
   unfold Fv at ok
   simp only [hv]at ok
   unfold aop
   simp only [hx x (by simp [Op.operands]),hv,w1]
   rw [Xj ok]
   exact hall _ k'
  ·exact k.elim
 case lookup ty x i okk=>
  unfold aop at e
  simp only at e
  obtain⟨v,hv,k⟩:=ce e
  clear e
  replace k:=ce k;obtain⟨u,hu,k⟩:=k
  split at k
  ·rename_i kT eT m hty
   split at k
   ·rename_i z hz hk
    obtain⟨r,es,res,rfl,hh,hl,k⟩:=k
    obtain⟨k,hall⟩:=tG k
    refine⟨_,k,fun t' h' K' hx ok k'=>?_⟩
    unfold Fv at ok
    simp only [hv]at ok
    have ok:=ok r rfl
    unfold aop
    simp only [hx x (by simp [Op.operands]),hx i (by simp [Op.operands]),hv,hu,w1,hty,hz,hk]
    exact⟨r,es,res,rfl,by rw [ok];exact hh,hl,hall _ k'⟩
   ·exact k.elim
  ·exact k.elim
 all_goals cases hp
def nY (P:Program) (ops:Array Oper) (i:Nat):Bool:=match ops[i]? with|some o=>F2 P o|none=>false
def qV (ops:Array Oper) (i:Nat):Bool:=match ops[i]? with|some o=>abw o|none=>false
def reach (ops:Array Oper):Nat->Nat->Nat->Bool
 |0,_,_=>false
 |d+1,i,j=>match ops[j]? with
  |some o=>o.after.toList.any fun e=>Region.binds .any e&&(e.on==i||reach ops d i e.on)
  |none=>false
abbrev MH :=List (Nat×(Hp->Prop))
def pZ (ops:Array Oper) (j:Nat) (h:Hp):MH->Prop->Prop
 | [],K=>K
 |(i,p)::ps,K=>match reach ops ops.size i j with
  |true=>pZ ops j h ps K
  |false=>p h/\pZ ops j h ps K
def adm :List Nat->(Nat->Prop)->Prop
 | [],_=>True
 | [x],p=>p x
 |x::xs,p=>p x/\adm xs p
theorem O7 {p:Nat->Prop}: ∀{l:List Nat},adm l p-> ∀x∈l,p x
 | [],_,_,hx=>by cases hx
 | [x],h,y,hy=>by simp at hy;subst hy;exact h
 |x::y::l,h,z,hz=>by
  cases hz with
  |head=>exact h.1
  |tail _ hz=>exact O7 h.2 z hz
theorem yL {ops:Array Oper} {j:Nat} {h:Hp}: ∀{ps:MH} {K:Prop},pZ ops j h ps K->K
 | [],_,k=>k
 |(i,p)::ps,K,k=>by
  unfold pZ at k
  split at k
  ·exact yL k
  ·exact yL k.2
theorem k8 {ops:Array Oper} {j:Nat} {h:Hp}: ∀{ps:MH} {K K':Prop},(K->K')->pZ ops j h ps K->pZ ops j h ps K'
 | [],_,_,l,k=>l k
 |(i,p)::ps,K,K',l,k=>by
  unfold pZ at k⊢
  split at k
  ·exact k8 l k
  ·exact⟨k.1,k8 l k.2⟩
section
variable (P :Program) (n:Nat) (ops:Array Oper) (Q:Tm->Hp->Prop)
def Fg (i:Nat) (t:Tm) (h:Hp):Hp->Prop:=match ops[i]? with|some o=>Fv o t h|none=>fun _=>True
def HI :Nat->Array Bool->MH->Tm->Hp->Prop
 |0,listed,_,t,h=>match Region.ready .any ops listed with
  | []=>Q t h
  |_=>False
 |fuel+1,listed,pins,t,h=>match Region.ready .any ops listed with
  | []=>Q t h
  |rs=>match rs.find? (fun i=>nY P ops i&&Region.free .any ops listed i)with
   |some i=>ru P n ops i t h fun t h=>HI fuel (listed.setIfInBounds i true) pins t h
   |none=>match rs.find? (fun i=>qV ops i&&Region.free .any ops listed i)with
    |some i=>ru P n ops i t h fun t' h'=>HI fuel (listed.setIfInBounds i true) ((i,Fg ops i t h)::pins) t' h'
    |none=>adm rs fun i=>ru P n ops i t h fun t h=>pZ ops i h pins (HI fuel (listed.setIfInBounds i true) pins t h)
def F6 :Nat->Array Bool->MH->Tm->Hp->Prop
 |0,listed,_,t,h=>Region.ready .any ops listed= []/\Q t h
 |fuel+1,listed,pins,t,h=>(Region.ready .any ops listed= []->Q t h)/\
   ∀i∈Region.ready .any ops listed,ru P n ops i t h fun t h=>
    (match nY P ops i||qV ops i with
     |true=>F6 fuel (listed.setIfInBounds i true) pins t h
     |false=>pZ ops i h pins (F6 fuel (listed.setIfInBounds i true) pins t h))
end
section
variable {ops :Array Oper} {Q:Tm->Hp->Prop}
def wB (ops:Array Oper) (o:Oper) (t' t:Tm):Prop:= ∀d∈o.looksAt ops,t' d=t d
theorem wB.ev {o:Oper} {t' t:Tm} (e:wB ops o t' t): ∀x∈o.op.operands,t'.ev x=t.ev x:=by
 intro x hx
 cases x with
 |tmp d=>exact e d (List.mem_append_left _ (List.mem_filterMap.2 ⟨.tmp d,by simpa using hx,rfl⟩))
 |_=>rfl
theorem wB.met {o:Oper} {t' t:Tm} (e:wB ops o t' t):met ops o t'=met ops o t:=by
 unfold Go.Lead.met
 cases hg:o.guard with
 |none=>rfl
 |some g=>
  obtain⟨j,want⟩:=g
  simp only
  cases hd:(ops[j]?).bind (·.dst)with
  |none=>rfl
  |some d=>
   simp only
   rw [e d (List.mem_append_right _ (by simp [hg,hd]))]
theorem wB.put {o:Oper} {t t0:Tm} (e:wB ops o t t0) {d:Option Nat} (hd: ∀x,d=some x->x∉o.looksAt ops) (v:Value):wB ops o (t.put n d v) t0:=by
 intro x hx
 cases d with
 |none=>exact e x hx
 |some d=>
  have:x≠d:=fun h=>hd d rfl (h▸hx)
  simp only [Tm.put,this,if_false]
  exact e x hx
theorem Tm.put_comm (t:Tm) {x y:Option Nat} (v u:Value) (h: ∀d,x=some d->y≠some d):(t.put n x v).put n y u=(t.put n y u).put n x v:=by
 cases x with
 |none=>rfl
 |some d=>
  cases y with
  |none=>rfl
  |some e=>
   have hne:e≠d:=fun he=>h d rfl (by rw [he])
   funext i
   simp only [Tm.put]
   by_cases h1:i=e
   ·subst h1;simp [hne]
   ·simp [h1]
theorem GR {i:Nat} {o:Oper} (ho:ops[i]?=some o) {K:Tm->Hp->Prop} (e:ru P n ops i t h K):
  (met ops o t=some true/\aop P o t h fun v h'=>K (t.put n o.dst v) h')\/(met ops o t=some false/\K (t.put n o.dst undef) h):=by
 unfold ru at e
 rw [ho]at e
 exact Mi e
theorem BU {i:Nat} {o:Oper} (ho:ops[i]?=some o) {K:Tm->Hp->Prop}
  (e:(met ops o t=some true/\aop P o t h fun v h'=>K (t.put n o.dst v) h')\/(met ops o t=some false/\K (t.put n o.dst undef) h)):ru P n ops i t h K:=by
 unfold ru
 rw [ho]
 rcases e with ⟨hm,e⟩|⟨hm,e⟩
 ·exact Ms hm e
 ·exact Ms hm e
theorem r7 {i:Nat} {K K':Tm->Hp->Prop} (l: ∀t h,K t h->K' t h) (e:ru P n ops i t h K):ru P n ops i t h K':=by
 cases ho:ops[i]? with
 |none=>unfold ru at e⊢;rw [ho]at e⊢;exact l _ _ e
 |some o=>
  refine BU ho ?_
  rcases GR ho e with ⟨hm,e⟩|⟨hm,e⟩
  ·exact .inl ⟨hm,Rg (fun v h'=>l _ _) e⟩
  ·exact .inr ⟨hm,l _ _ e⟩
def agn (P:Program) (n:Nat) (ops:Array Oper) (i:Nat) (o:Oper) (v:Value) (t0:Tm) (ok:Hp->Prop):Prop:=
 ∀t' h',wB ops o t' t0->ok h'-> ∀K:Tm->Hp->Prop,K (t'.put n o.dst v) h'->ru P n ops i t' h' K
theorem G4 {i:Nat} {o:Oper} (ho:ops[i]?=some o) (hp:(nY P ops i||qV ops i)=true) {K:Tm->Hp->Prop} (e:ru P n ops i t h K):
  ∃v,K (t.put n o.dst v) h/\agn P n ops i o v t (Fg ops i t h):=by
 have hpin:Fg ops i t h=Fv o t h:=by unfold Fg;rw [ho]
 rcases GR ho e with ⟨hm,e⟩|⟨hm,e⟩
 ·have key: ∃v,K (t.put n o.dst v) h/\agy P o t v (Fv o t h):=by
   simp only [Bool.or_eq_true]at hp
   rcases hp with hp|hp
   ·unfold nY at hp
    rw [ho]at hp
    obtain⟨v,k,same⟩:=Zy (K:=fun v h'=>K (t.put n o.dst v) h') hp e
    exact⟨v,k,fun t' h' K' hx _ k'=>same t' h' K' hx trivial k'⟩
   ·unfold qV at hp
    rw [ho]at hp
    exact YP (K:=fun v h'=>K (t.put n o.dst v) h') hp e
  obtain⟨v,k,same⟩:=key
  refine⟨v,k,fun t' h' ag ok K' k'=>BU ho (.inl ⟨by rw [ag.met];exact hm,?_⟩)⟩
  rw [hpin]at ok
  exact same t' h' _ ag.ev ok k'
 ·exact⟨undef,e,fun t' h' ag _ K' k'=>BU ho (.inr ⟨by rw [ag.met];exact hm,k'⟩)⟩
theorem swap {i j:Nat} {oi oj:Oper} (hj:ops[j]?=some oj) (hap:oi.apart ops oj=true) {v:Value} {t0:Tm} {ok:Hp->Prop}
  (ag:wB ops oi t t0) (hok:ok h) (hreach:reach ops ops.size i j=false) {pins:MH} {G:Tm->Hp->Prop}
  (e:ru P n ops j (t.put n oi.dst v) h fun t' h'=>match nY P ops j||qV ops j with
   |true=>G t' h'
   |false=>pZ ops j h' ((i,ok)::pins) (G t' h')):
  ru P n ops j t h fun t' h'=>wB ops oi t' t0/\ok h'/\match nY P ops j||qV ops j with
   |true=>G (t'.put n oi.dst v) h'
   |false=>pZ ops j h' pins (G (t'.put n oi.dst v) h'):=by
 obtain⟨h1,h2,h3⟩:=Oper.apart_spec hap
 have agj:wB ops oj (t.put n oi.dst v) t:=wB.put (fun _ _=>rfl) h1 v
 have hcomm: ∀u,(t.put n oi.dst v).put n oj.dst u=(t.put n oj.dst u).put n oi.dst v:=fun u=>Tm.put_comm t v u h2
 cases hpr:nY P ops j||qV ops j with
 |true=>
  rw [hpr]at e
  obtain⟨u,k,gives⟩:=G4 hj hpr e
  have agsym:wB ops oj t (t.put n oi.dst v):=fun d hd=>(agj d hd).symm
  refine gives t h agsym ?_ _ ⟨ag.put h3 u,hok,?_⟩
  ·unfold Fg;rw [hj];exact LX _ _ _
  ·rw [<-hcomm];exact k
 |false=>
  rw [hpr]at e
  refine BU hj ?_
  rcases GR hj e with ⟨hm,e⟩|⟨hm,e⟩
  ·refine .inl ⟨by rw [<-agj.met];exact hm,?_⟩
   rw [Ze agj.ev]at e
   refine Rg (fun u h' k=>?_) e
   simp only [pZ,hreach]at k
   exact⟨ag.put h3 u,k.1,by rw [<-hcomm];exact k.2⟩
  ·refine .inr ⟨by rw [<-agj.met];exact hm,ag.put h3 undef,hok,?_⟩
   simp only [pZ,hreach]at e
   rw [<-hcomm];exact e.2
def Closed (ops:Array Oper) (listed:Array Bool):Prop:=
 ∀k o,ops[k]?=some o->listed.getD k false=true-> ∀e∈o.after,Region.binds .any e=true->listed.getD e.on false=true
theorem Closed.add {listed:Array Bool} (c:Closed ops listed) {i:Nat} (hr:i∈Region.ready .any ops listed):Closed ops (listed.setIfInBounds i true):=by
 obtain⟨_,o,ho,hall⟩:=mem_ready.1 hr
 intro k ok hk hl e he hb
 refine getD_set_true ?_
 by_cases hki:i=k
 ·subst hki
  rw [ho]at hk;cases hk
  exact hall e he hb
 ·rw [getD_set_ne false hki]at hl
  exact c k ok hk hl e he hb
theorem Fu {listed:Array Bool} (c:Closed ops listed): ∀(d i j:Nat) (o:Oper),ops[j]?=some o->(∀e∈o.after,Region.binds .any e=true->listed.getD e.on false=true)->
  reach ops d i j=true->listed.getD i false=true
 |0,_,_,_,_,_,h=>by simp [reach]at h
 |d+1,i,j,o,hj,hall,h=>by
  simp only [reach,hj,List.any_eq_true,Bool.and_eq_true,Bool.or_eq_true,beq_iff_eq]at h
  obtain⟨e,he,hb,h1|h1⟩:=h
  ·rw [<-h1];exact hall e (by simpa using he) hb
  ·have hl:=hall e (by simpa using he) hb
   cases hk:ops[e.on]? with
   |none=>cases d<;>simp [reach,hk]at h1
   |some ok=>exact Fu c d i e.on ok hk (fun e' he' hb'=>c e.on ok hk hl e' he' hb') h1
theorem O2 {listed:Array Bool} {i:Nat} (h:listed.getD i true=false):listed.getD i false=false:=by
 rcases Nat.lt_or_ge i listed.size with h'|h'
 ·simp [h']at h⊢;exact h
 ·simp [Array.getElem?_eq_none h']at h
theorem yp {x:Nat×(Hp->Prop)}: ∀(fuel:Nat) (listed:Array Bool) (pins:MH) (t:Tm) (h:Hp),F6 P n ops Q fuel listed (x::pins) t h->F6 P n ops Q fuel listed pins t h
 |0,_,_,_,_,e=>e
 |fuel+1,listed,pins,t,h,e=>by
  refine⟨e.1,fun i hi=>r7 (fun t h k=>?_) (e.2 i hi)⟩
  cases hpr:nY P ops i||qV ops i with
  |true=>rw [hpr]at k;exact yp fuel _ pins t h k
  |false=>
   rw [hpr]at k
   simp only [pZ]at k
   split at k
   ·exact k8 (yp fuel _ pins t h) k
   ·exact k8 (yp fuel _ pins t h) k.2
theorem Xk {i:Nat} {oi:Oper} (hi:ops[i]?=some oi) {v:Value} {t0:Tm} {ok:Hp->Prop} (gives:agn P n ops i oi v t0 ok) (hpr:(nY P ops i||qV ops i)=true):
  ∀(fuel:Nat) (listed:Array Bool) (pins:MH) (t:Tm) (h:Hp),Closed ops listed->
   (∀j oj,ops[j]?=some oj->j≠i->listed.getD j true=false->(∀e∈oj.after,Region.binds .any e=true->e.on≠i)->oi.apart ops oj=true)->
   i∈Region.ready .any ops listed->wB ops oi t t0->ok h->
   F6 P n ops Q fuel (listed.setIfInBounds i true) ((i,ok)::pins) (t.put n oi.dst v) h->F6 P n ops Q (fuel+1) listed pins t h:=by
 intro fuel
 induction fuel with
 |zero=>
  intro listed pins t h hcl hfree hr ag hok H
  refine⟨fun h0=>(by rw [h0]at hr;cases hr),fun j hj=>?_⟩
  by_cases hji:j=i
  ·subst hji
   refine gives t h ag hok _ ?_
   rw [hpr]
   exact yp 0 _ pins _ h H
  ·have:=ready_mono hj hji
   rw [H.1]at this
   cases this
 |succ fuel ih=>
  intro listed pins t h hcl hfree hr ag hok H
  refine⟨fun h0=>(by rw [h0]at hr;cases hr),fun j hj=>?_⟩
  by_cases hji:j=i
  ·subst hji
   refine gives t h ag hok _ ?_
   rw [hpr]
   exact yp (fuel+1) _ pins _ h H
  ·have h1:=H.2 j (ready_mono hj hji)
   obtain⟨hjun,oj,hoj,hall⟩:=mem_ready.1 hj
   have hiun:=(mem_ready.1 hr).1
   have hnot: ∀e∈oj.after,Region.binds .any e=true->e.on≠i:=fun e he hb heq=>by
    have h1:=hall e he hb
    rw [heq]at h1
    have:=O2 hiun
    rw [this]at h1;cases h1
   have hreach:reach ops ops.size i j=false:=by
    cases hrr:reach ops ops.size i j with
    |false=>rfl
    |true=>
     have h1:=Fu hcl ops.size i j oj hoj hall hrr
     rw [O2 hiun]at h1;cases h1
   have h2:=swap hoj (hfree j oj hoj hji hjun hnot) ag hok hreach h1
   have hfree': ∀k ok,ops[k]?=some ok->k≠i->(listed.setIfInBounds j true).getD k true=false->
     (∀e∈ok.after,Region.binds .any e=true->e.on≠i)->oi.apart ops ok=true:=fun k ok hk hki hun hno=>by
    refine hfree k ok hk hki ?_ hno
    by_cases hjk:j=k
    ·subst hjk;exact hjun
    ·rw [getD_set_ne true hjk]at hun;exact hun
   have hcl':=hcl.add hj
   have hr':=ready_mono hr (Ne.symm hji)
   refine r7 (fun t' h' k=>?_) h2
   obtain⟨ag',hok',k⟩:=k
   cases hprj:nY P ops j||qV ops j with
   |true=>
    rw [hprj]at k
    simp only at k⊢
    refine ih _ pins t' h' hcl' hfree' hr' ag' hok' ?_
    rw [Array.setIfInBounds_comm _ _ hji]
    exact k
   |false=>
    rw [hprj]at k
    simp only at k⊢
    refine k8 (fun k=>?_) k
    refine ih _ pins t' h' hcl' hfree' hr' ag' hok' ?_
    rw [Array.setIfInBounds_comm _ _ hji]
    exact k
theorem IP (i:Nat) (p:Hp->Prop) (hp: ∀h,p h): ∀(fuel:Nat) (listed:Array Bool) (pins:MH) (t:Tm) (h:Hp),F6 P n ops Q fuel listed pins t h->F6 P n ops Q fuel listed ((i,p)::pins) t h
 |0,_,_,_,_,e=>e
 |fuel+1,listed,pins,t,h,e=>by
  refine⟨e.1,fun j hj=>r7 (fun t h k=>?_) (e.2 j hj)⟩
  cases hpr:nY P ops j||qV ops j with
  |true=>rw [hpr]at k;exact IP i p hp fuel _ pins t h k
  |false=>
   rw [hpr]at k
   simp only [pZ]
   split
   ·exact k8 (IP i p hp fuel _ pins t h) k
   ·exact⟨hp h,k8 (IP i p hp fuel _ pins t h) k⟩
theorem acc {i:Nat} (hp:nY P ops i=true) (t:Tm) (h h':Hp):Fg ops i t h h':=by
 unfold nY at hp
 unfold Fg
 split at hp
 ·rename_i o ho
  rw [ho]
  simp only
  unfold Fv
  split
  ·rename_i hop;unfold F2 at hp;rw [hop]at hp;cases hp
  ·rename_i hop;unfold F2 at hp;rw [hop]at hp;cases hp
  ·trivial
 ·cases hp
theorem Fo : ∀(fuel:Nat) (listed:Array Bool) (pins:MH) (t:Tm) (h:Hp),Closed ops listed->HI P n ops Q fuel listed pins t h->F6 P n ops Q fuel listed pins t h
 |0,listed,pins,t,h,_,e=>by
  unfold HI at e
  split at e
  ·rename_i hr;exact⟨hr,e⟩
  ·exact e.elim
 |fuel+1,listed,pins,t,h,hcl,e=>by
  unfold HI at e
  split at e
  ·rename_i hr
   exact⟨fun _=>e,by rw [hr];simp⟩
  ·rename_i rs hne
   have hrs:Region.ready .any ops listed≠ []:=hne
   have first: ∀i,i∈Region.ready .any ops listed->(nY P ops i||qV ops i)=true->Region.free .any ops listed i=true->
     ∀pins',(∀h,F6 P n ops Q fuel (listed.setIfInBounds i true) pins' t h->True)->
     (ru P n ops i t h fun t' h'=>F6 P n ops Q fuel (listed.setIfInBounds i true) ((i,Fg ops i t h)::pins) t' h')->F6 P n ops Q (fuel+1) listed pins t h:=by
    intro i hi hpr hfr _ _ hs
    obtain⟨_,oi,hoi,_⟩:=mem_ready.1 hi
    obtain⟨v,k,gives⟩:=G4 hoi hpr hs
    refine Xk hoi gives hpr fuel listed pins t h hcl (Region.free_spec hoi hfr) hi (fun _ _=>rfl) ?_ k
    unfold Fg;rw [hoi];exact LX _ _ _
   split at e
   ·rename_i i hf
    have hmem:=List.mem_of_find?_eq_some hf
    have hprop:=List.find?_some hf
    simp only [Bool.and_eq_true]at hprop
    refine first i hmem (by simp [hprop.1]) hprop.2 [] (fun _ _=>trivial) (r7 (fun t' h' k=>?_) e)
    exact IP i _ (fun h''=>acc hprop.1 t h h'') fuel _ pins t' h' (Fo fuel _ pins t' h' (hcl.add hmem) k)
   ·split at e
    ·rename_i i hf
     have hmem:=List.mem_of_find?_eq_some hf
     have hprop:=List.find?_some hf
     simp only [Bool.and_eq_true]at hprop
     refine first i hmem (by simp [hprop.1]) hprop.2 [] (fun _ _=>trivial) (r7 (fun t' h' k=>?_) e)
     exact Fo fuel _ _ t' h' (hcl.add hmem) k
    ·refine⟨fun h0=>absurd h0 hrs,fun i hi=>r7 (fun t' h' k=>?_) (O7 e i hi)⟩
     have k':=k8 (Fo fuel _ pins t' h' (hcl.add hi)) k
     cases nY P ops i||qV ops i with
     |true=>exact yL k'
     |false=>exact k'
theorem F5 {N:Nat} {w0:World} {QR:Exit->Act->World->Prop} (hQ: ∀a w,Up n N w0 Q a w->QR .normal a w) (hN:N<=w0.heap.size):
  ∀(fuel:Nat) (listed:Array Bool) (pins:MH) (t:Tm) (h:Hp) (a:Act) (w:World),F6 P n ops Q fuel listed pins t h->St n N w0 t h a w->wpAny P .any ops QR fuel listed a w
 |0,listed,pins,t,h,a,w,e,s=>⟨e.1,hQ _ _ ⟨t,h,s,e.2⟩⟩
 |fuel+1,listed,pins,t,h,a,w,e,s=>by
  refine⟨fun h0=>hQ _ _ ⟨t,h,s,e.1 h0⟩,fun i hi=>Hl (e.2 i hi) s hN ?_⟩
  rintro a' w' ⟨t',h',s',k⟩
  cases hpr:nY P ops i||qV ops i with
  |true=>rw [hpr]at k;exact F5 hQ hN fuel _ pins t' h' a' w' k s'
  |false=>rw [hpr]at k;exact F5 hQ hN fuel _ pins t' h' a' w' (yL k) s'
theorem Sr {N:Nat} {w0 w:World} {a:Act} {QR:Exit->Act->World->Prop} (hQ: ∀a w,Up n N w0 Q a w->QR .normal a w) (hN:N<=w0.heap.size) (t:Tm)
  (e:HI P n ops Q ops.size (Array.replicate ops.size false) [] t h) (s:St n N w0 t h a w):wpAny P .any ops QR ops.size (Array.replicate ops.size false) a w:=by
 refine F5 hQ hN _ _ [] t h a w (Fo _ _ [] t h ?_ e) s
 intro k o _ hl
 simp only [Array.getD_eq_getD_getElem?,Array.getElem?_replicate]at hl
 split at hl<;>simp at hl
end
end
end Go.Lead
