/- The abstract walk, part 9: statements, loops, functions; no statement of the program. -/
import Derived.Test.YthfcbpocfmjefaaGreatVm8
namespace Go.Lead
open Go.RowKit
set_option linter.unusedSimpArgs false
set_option linter.unusedVariables false
def ZQ (t:Tm):List Nat->Option (List Value)
 | []=>some []
 |i::is=>match t i,ZQ t is with|some v,some vs=>some (v::vs)|_,_=>none
def mkT :List Nat->List Value->Tm
 |i::is,v::vs=>fun j=>if j=i then some v else mkT is vs j
 |_,_=>fun _=>none
theorem UM {t:Tm}: ∀(is:List Nat) (vs:List Value),ZQ t is=some vs->(mkT is vs).le t
 | [],vs,_=>fun j u e=>by simp [mkT]at e
 |i::is,vs,h=>by
  simp only [ZQ]at h
  split at h
  ·rename_i v us h1 h2
   cases h
   intro j u e
   simp only [mkT]at e
   split at e
   ·rename_i hj;subst hj;cases e;exact h1
   ·exact UM is us h2 j u e
  ·cases h
def zN :Code->Nat
 | .region id _ _=>id
 | .seq a _=>zN a
 | .block _ c=>zN c
 | .loop c=>zN c
 | .cond _ _ _=>0
 |_=>0
def aJ (F:List Value->Hp->(List Value->Hp->Prop)->Prop) (vs:List Value) (h:Hp):Prop:=
 ∃I:Nat->List Value->Hp->Prop,(∃m,I m vs h)/\ ∀m vs h,I m vs h->F vs h fun vs' h'=> ∃k,k<m/\I k vs' h'
def WC (t:Tm) (c:Operand) (b:Bool):Tm:=match c with| .tmp d=>t.know d b|_=>t
abbrev Ann :=Nat->List (Nat×TypeDesc)
def TY (P:Program) (d:TypeDesc) (K:Value->Prop):Prop:=match d with| .named _ t=>exV P t K|d=>exK d K
theorem SW {P:Program} {d:TypeDesc} {K:Value->Prop} (h:TY P d K): ∃v,K v:=by
 unfold TY at h
 split at h
 ·obtain⟨v,k,_⟩:=Jm h;exact⟨v,k⟩
 ·obtain⟨v,k,_⟩:=R4 h;exact⟨v,k⟩
def ahm (P:Program):List (Nat×TypeDesc)->(List Value->Prop)->Prop
 | [],K=>K []
 |(_,d)::ds,K=>TY P d fun v=>ahm P ds fun vs=>K (v::vs)
theorem Ot {P:Program}: ∀(ds:List (Nat×TypeDesc)) (K:List Value->Prop),ahm P ds K-> ∃vs,K vs
 | [],K,h=>⟨[],h⟩
 |(_,d)::ds,K,h=>by
  obtain⟨v,k⟩:=SW h
  obtain⟨vs,k⟩:=Ot ds _ k
  exact⟨v::vs,k⟩
def awp (P:Program) (n:Nat) (ann:Ann):Code->(Exit->Tm->Hp->Prop)->Tm->Hp->Prop
 | .skip,Q,t,h=>Q .normal t h
 | .region _ ops draw,Q,t,h=>match draw with
  |false=>agB P n ops (Q .normal) (List.range ops.size) t h
  |true=>HI P n ops (Q .normal) ops.size (Array.replicate ops.size false) [] t h
 | .seq x y,Q,t,h=>awp P n ann x (fun e t h=>match e with| .normal=>awp P n ann y Q t h|e=>Q e t h) t h
 | .cond c x y,Q,t,h=>w1 (t.ev c) fun v=>match v with
  | .bool b=>ac b (awp P n ann x Q (WC t c true) h) (awp P n ann y Q (WC t c false) h)
  |_=>False
 | .block id c,Q,t,h=>awp P n ann c (fun e t h=>match e with| .exit id'=>if id'=id then Q .normal t h else Q (.exit id') t h|e=>Q e t h) t h
 | .loop c,Q,t,h=>wL (ZQ t ((ann (zN c)).map (·.1))) fun vs=>
   aJ (fun vs h next=>ahm P (ann (zN c)) fun us=>vs=us/\
    awp P n ann c (fun e t h=>match e with| .normal=>wL (ZQ t ((ann (zN c)).map (·.1))) (fun vs'=>next vs' h)|e=>Q e t h) (mkT ((ann (zN c)).map (·.1)) us) h) vs h
 | .exit id,Q,t,h=>Q (.exit id) t h
 | .ret,Q,t,h=>Q .ret t h
 | .label _,Q,t,h=>Q .normal t h
 |_,_,_,_=>False
def cM (x:Hp) (k:Hp->Prop):Prop:=k x
theorem zy {x:Hp} {k:Hp->Prop} (e: ∀h,h=x->k h):cM x k:=e x rfl
def aN {α:Sort _} (c:α) (k:α->Prop):Prop:=k c
abbrev I (n:Int):Value:= .int .i64 n
abbrev W (n:Int):Int:=IntKind.i64.wrap n
def aA (a b:Int):Int:=IntKind.i64.wrap (a*2^(min b.toNat IntKind.i64.bits))
def oU (a b:Int):Int:=a.fdiv (2^(min b.toNat IntKind.i64.bits))
abbrev uH (a b:Int):Int:=bJ .and .i64 a b
abbrev orW (a b:Int):Int:=bJ .or .i64 a b
abbrev acU (a b:Int):Int:=bJ .xor .i64 a b
section
variable {P :Program} {n N:Nat} {w0 w:World} {h:Hp} {t:Tm} {a:Act}
theorem St.weaken {t':Tm} {h':Hp} (s:St n N w0 t h a w) (l:t'.le t) (m:h'.le h):St n N w0 t' h' a w:=⟨s.defers,s.tmps.weaken l,s.mem.weaken m⟩
theorem LE {c:Operand} {b:Bool} (e:t.ev c=some (.bool b)):WC t c b=t:=by
 unfold WC
 split
 ·exact GU e
 ·rfl
def Wz (P:Program) (c:Code) (Q:Exit->Act->World->Prop) (a:Act) (w:World):Prop:=
 ∀(b:Frame) (k:List Item) (cs:List Frame),∃e a' w',Q e a' w'/\Arrives P (lone (b.at a (.code c:: .inLoop c::k)) cs w) b k cs e a' w'
theorem Sy {c:Code} {Q:Exit->Act->World->Prop} {next:Act->World->Prop} (hn: ∀a w,next a w->Wz P c Q a w)
  (hc:c.wp P (Exit.then next Q) a w):Wz P c Q a w:=by
 intro b k cs
 obtain⟨e,a₁,w₁,hq,harr⟩:=hc b (.inLoop c::k) cs
 cases e with
 |normal=>
  obtain⟨e₂,a₂,w₂,hq₂,harr₂⟩:=hn _ _ hq b k cs
  exact⟨e₂,a₂,w₂,hq₂, .of_steps (Steps.trans harr (.one step_inLoop)) harr₂⟩
 |exit id=>exact⟨_,a₁,w₁,hq, .pass (x:= .inLoop c) rfl (fun _ _=> .inl (by simp)) harr⟩
 |goto l=>exact⟨_,a₁,w₁,hq, .pass (x:= .inLoop c) rfl (fun _ _=> .inl (by simp)) harr⟩
 |ret=>exact⟨_,a₁,w₁,hq, .pass (x:= .inLoop c) rfl (fun _ _=> .inl (by simp)) harr⟩
 |panic ch=>exact⟨_,a₁,w₁,hq, .pass (x:= .inLoop c) rfl (fun _ _=> .inl (by simp)) harr⟩
 |outgrown=>exact⟨_,a₁,w₁,hq, .pass (x:= .inLoop c) rfl (fun _ _=> .inl (by simp)) harr⟩
theorem acY {c:Code} {Q:Exit->Act->World->Prop} (h:Wz P c Q a w):(Code.loop c).wp P Q a w:=by
 intro b k cs
 obtain⟨e,a',w',hq,harr⟩:=h b k cs
 exact⟨e,a',w',hq, .of_steps (.one step_loop) harr⟩
abbrev UpQ (n N:Nat) (w0:World) (Q:Exit->Tm->Hp->Prop) (e:Exit) (a:Act) (w:World):Prop:=Up n N w0 (Q e) a w
theorem Yn (hm:P.follows .mixedOrders=true) (hN:N<=w0.heap.size) {ann:Ann}: ∀(c:Code) (Q:Exit->Tm->Hp->Prop) (t:Tm) (h:Hp) (a:Act) (w:World),
  awp P n ann c Q t h->St n N w0 t h a w->c.wp P (UpQ n N w0 Q) a w:=by
 intro c
 induction c with
 |skip=>intro Q t h a w e s;exact wp_skip ⟨t,h,s,e⟩
 |region id ops draw=>
  intro Q t h a w e s
  cases draw with
  |false=>exact wp_region (JI (fun _ _ u=>u) hN _ _ _ _ _ e s)
  |true=>exact wp_region_any hm (Sr (h:=h) (fun _ _ u=>u) hN t e ⟨s.defers,s.tmps,s.mem.drew⟩)
 |seq x y ihx ihy=>
  intro Q t h a w e s
  refine wp_seq (wp_mono (ihx _ t h a w e s) ?_)
  rintro e a' w' ⟨t',h',s',q⟩
  cases e with
  |normal=>exact ihy Q t' h' a' w' q s'
  |_=>exact⟨t',h',s',q⟩
 |cond c x y ihx ihy=>
  intro Q t h a w e s
  obtain⟨v,hv,e⟩:=ce e
  split at e
  ·rename_i b
   refine wp_cond (t:=b) (s.tmps.ev hv) ?_
   cases b
   ·simp only [ac]at e
    rw [LE hv]at e
    exact ihy Q t h a w e s
   ·simp only [ac]at e
    rw [LE hv]at e
    exact ihx Q t h a w e s
  ·exact e.elim
 |block id c ih=>
  intro Q t h a w e s
  refine wp_block (wp_mono (ih _ t h a w e s) ?_)
  rintro e a' w' ⟨t',h',s',q⟩
  cases e with
  |exit id'=>
   simp only [Exit.inBlock]at q⊢
   split
   ·rename_i he;rw [if_pos he]at q;exact⟨t',h',s',q⟩
   ·rename_i he;rw [if_neg he]at q;exact⟨t',h',s',q⟩
  |_=>exact⟨t',h',s',q⟩
 |loop c ih=>
  intro Q t h a w e s
  obtain⟨vs,hvs,I,⟨m,hI⟩,hstep⟩:=uE e
  refine acY ?_
  have key: ∀m vs h a w,I m vs h->St n N w0 (mkT ((ann (zN c)).map (·.1)) vs) h a w->Wz P c (UpQ n N w0 Q) a w:=by
   intro m
   induction m using Nat.strongRecOn with
   |_ m ihm=>
    intro vs h a w hI s
    obtain⟨us,hus,hround⟩:=Ot _ _ (hstep m vs h hI)
    subst hus
    refine Sy (next:=Up n N w0 fun t h=>wL (ZQ t ((ann (zN c)).map (·.1))) fun vs'=> ∃k,k<m/\I k vs' h) ?_ (wp_mono (ih _ _ _ _ _ hround s) ?_)
    ·rintro a' w' ⟨t',h',s',q⟩
     obtain⟨vs',hvs',k,hk,hI'⟩:=uE q
     exact ihm k hk vs' h' a' w' hI' (s'.weaken (UM _ _ hvs') (Hp.le_refl _))
    ·rintro e a' w' ⟨t',h',s',q⟩
     cases e with
     |normal=>exact⟨t',h',s',q⟩
     |_=>exact⟨t',h',s',q⟩
  exact key m vs h a w hI (s.weaken (UM _ _ hvs) (Hp.le_refl _))
 |exit id=>intro Q t h a w e s;exact wp_exit ⟨t,h,s,e⟩
 |ret=>intro Q t h a w e s;exact wp_ret ⟨t,h,s,e⟩
 |label l=>intro Q t h a w e s;exact wp_label ⟨t,h,s,e⟩
 |_=>intro Q t h a w e s;exact e.elim
def aeN (vs:List Value):Value:=match vs with| [v]=>v|vs=> .tuple vs.toArray
def Yz (P:Program) (t:Tm) (h:Hp):List ResultVar->(List Value->Prop)->Prop
 | [],K=>K []
 | .tmp i::rs,K=>w1 (t i) fun v=>Yz P t h rs fun vs=>K (v::vs)
 | .cell i ty::rs,K=>w1 (t i) fun va=>match va with
  | .pointer (some ⟨b,o,none⟩)=>NU P ty (h.cell b) o fun v=>Yz P t h rs fun vs=>K (v::vs)
  |_=>False
def PN (tmps:Array Value):ResultVar->Sem Value
 | .tmp t=>pure (tmps.getD t undef)
 | .cell x ty=>do loadVar ty (<-asAddr (tmps.getD x undef))
theorem T4 (fn:Func) (tmps:Array Value):results fn tmps=(do let vs<-fn.results.mapM (PN tmps);pure (if h:vs.size=1 then vs[0]else .tuple vs)):=by
 unfold results
 congr 2
theorem QX (s:St n N w0 t h a w): ∀(rs:List ResultVar) (K:List Value->Prop),Yz P t h rs K->
  ∃vs,(rs.mapM (PN a.tmps)).run P w= .ok vs w/\K vs
 | [],K,e=>⟨[],by simp,e⟩
 | .tmp i::rs,K,e=>by
  obtain⟨v,hv,e⟩:=ce e
  obtain⟨vs,hr,k⟩:=QX s rs _ e
  have hg:a.tmps.getD i undef=v:=by simp [s.tmps.get i v hv]
  exact⟨v::vs,by simp only [List.mapM_cons,PN,Sem.run_bind,Sem.run_pure,Result.andThen_ok,hg,hr],k⟩
 | .cell i ty::rs,K,e=>by
  obtain⟨va,hv,e⟩:=ce e
  split at e
  ·rename_i b o
   obtain⟨v,hl,e⟩:=VY (P:=P) s.mem e
   obtain⟨vs,hr,k⟩:=QX s rs _ e
   have hg:a.tmps.getD i undef= .pointer (some ⟨b,o,none⟩):=by simp [s.tmps.get i _ hv]
   refine⟨v::vs,?_,k⟩
   have ha:(asAddr (a.tmps.getD i undef)).run P w= .ok ⟨b,o,none⟩ w:=by rw [hg];rfl
   simp only [List.mapM_cons,PN,Sem.run_bind,ha,Sem.run_pure,Result.andThen_ok,hl,hr]
  ·exact e.elim
theorem JR (s:St n N w0 t h a w) {fn:Func} {K:List Value->Prop} (e:Yz P t h fn.results.toList K):
  ∃vs,(results fn a.tmps).run P w= .ok (aeN vs) w/\K vs:=by
 obtain⟨vs,hr,k⟩:=QX (P:=P) s _ _ e
 refine⟨vs,?_,k⟩
 rw [T4,Array.mapM_eq_mapM_toList]
 simp only [Sem.run_bind,Sem.run_map,hr,Result.andThen_ok,Sem.run_pure]
 congr 1
 unfold aeN
 match vs with
 | []=>rfl
 | [v]=>rfl
 |v::u::vs=>simp
def agc (P:Program) (fn:Func) (c:Code) (ann:Ann) (args:Array Value) (h:Hp) (R:Value->Hp->Prop):Prop:=
 awp P fn.ntmps ann c (fun e t h=>match e with
  | .normal=>Yz P t h fn.results.toList fun vs=>R (aeN vs) h
  | .ret=>Yz P t h fn.results.toList fun vs=>R (aeN vs) h
  |_=>False) (mkT (List.range args.size) args.toList) h
theorem ach (args:Array Value) (m:Nat) (hs:args.size<=m):
  ug m (mkT (List.range args.size) args.toList) {tmps:=args++Array.replicate (m-args.size) undef,defers:= []}:=by
 refine⟨by simp;omega,?_⟩
 have key: ∀(vs:List Value) (k:Nat) (i:Nat) (v:Value),mkT (List.range' k vs.length) vs i=some v->k<=i/\vs[i-k]?=some v:=by
  intro vs
  induction vs with
  |nil=>intro k i v e;simp [mkT]at e
  |cons x xs ih=>
   intro k i v e
   simp only [List.length_cons,List.range'_succ,mkT]at e
   split at e
   ·rename_i hi;subst hi;cases e;simp
   ·obtain⟨h1,h2⟩:=ih (k+1) i v e
    refine⟨by omega,?_⟩
    rw [show i-k=(i-(k+1))+1 by omega];simpa using h2
 intro i v e
 rw [List.range_eq_range',show args.size=args.toList.length by simp]at e
 obtain⟨_,h2⟩:=key _ _ _ _ e
 simp only [Nat.sub_zero]at h2
 have hlt:=(List.getElem?_eq_some_iff.1 h2).1
 simp only
 rw [Array.getElem?_append_left (by simpa using hlt)]
 simpa using h2
def ABd (P:Program) (fn:Func) (ann:Ann) (args:Array Value) (h:Hp) (R:Value->Hp->Prop):Prop:=agc P fn (fn.body.getD .skip) ann args h R
theorem XJ {f:FuncId} {fn:Func} {c:Code} {args:Array Value} {h:Hp} {R:Value->Hp->Prop} (hm:P.follows .mixedOrders=true)
  (hf:P.funcs[f]?=some fn) (hb:fn.body=some c) (hok:okF P f=true) (hs:args.size<=fn.ntmps) (ann:Ann) (e:agc P fn c ann args h R):ACalls P f args h R:=by
 refine⟨?_,fun N w0 w hN hr=>?_⟩
 ·exact hok
 refine calls_of_wp hf hb ?_
 have s:St fn.ntmps N w0 (mkT (List.range args.size) args.toList) h {tmps:=args++Array.replicate (fn.ntmps-args.size) undef,defers:= []} w:=
  ⟨rfl,ach args _ hs,hr⟩
 refine wp_mono (Yn hm hN c _ _ _ _ _ e s) ?_
 rintro e a' w' ⟨t',h',s',q⟩
 cases e with
 |normal=>
  obtain⟨vs,hrun,k⟩:=JR (P:=P) s' q
  exact⟨s'.defers,_,hrun,_,h',rfl,s'.mem,k⟩
 |ret=>
  obtain⟨vs,hrun,k⟩:=JR (P:=P) s' q
  exact⟨s'.defers,_,hrun,_,h',rfl,s'.mem,k⟩
 |_=>exact q.elim
theorem agN {f:FuncId} {fn:Func} {args:Array Value} {h:Hp} {R:Value->Hp->Prop} (hm:P.follows .mixedOrders=true)
  (hf:P.funcs[f]?=some fn) (hb:fn.body.isSome=true) (hok:okF P f=true) (ann:Ann) (hs:Nat.ble args.size fn.ntmps=true) (e:ABd P fn ann args h R):ACalls P f args h R:=by
 refine XJ hm hf ?_ hok (Nat.le_of_ble_eq_true hs) ann e
 cases hbb:fn.body with
 |none=>rw [hbb]at hb;cases hb
 |some c=>rfl
theorem ACalls.drop {f:FuncId} {args:Array Value} {h:Hp} {R:Value->Hp->Prop} (c:ACalls P f args h fun v h'=> ∃h'',h''.le h'/\R v h''):ACalls P f args h R:=by
 refine⟨c.1,fun N w0 w hN hr=>(c.2 N w0 w hN hr).mono ?_⟩
 rintro e w' ⟨v,h',rfl,r,h'',l,k⟩
 exact⟨v,h'',rfl,r.weaken l,k⟩
end
end Go.Lead
