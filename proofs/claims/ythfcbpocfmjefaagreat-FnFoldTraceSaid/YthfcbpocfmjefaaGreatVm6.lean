/- The abstract walk, part 6: every operation: what is told is what the model gives; no statement of the program. -/
import Derived.Test.YthfcbpocfmjefaaGreatVm5
namespace Go.Lead
open Go.RowKit
set_option linter.unusedSimpArgs false
set_option linter.unusedVariables false
variable {P :Program} {N n:Nat} {w0 w:World} {h:Hp} {t:Tm} {a:Act}
theorem SY {ty:TypeId} {z:Value} (hz:wM P ty=some z):(zeroValue ty).run P w= .ok z w:=by
 unfold wM at hz
 split at hz
 ·rename_i i hi;simp [zeroValue,typeInfo,hi,hz]
 ·cases hz
theorem O4 (hr:Rel N w0 h w) (hN:N<=w0.heap.size) (ty:TypeId) (v:Value) {K:Value->Hp->Prop}
  (k: ∀b,h b=none->K (.pointer (some ⟨b,0,none⟩)) (h.row b v.cells.toList v.cells.size)):
  ∃w',(newVar ty v).run P w= .ok ⟨w.heap.size,0,none⟩ w'/\uB N w0 K (.pointer (some ⟨w.heap.size,0,none⟩)) w':=
 ⟨{w with heap:=w.heap.push (.cells v.cells ty)},by simp [newVar,newRow],_,hr.alloc (hr.size hN) v.cells ty v.cells.toList (fun i v hv=>by simpa using hv),k _ hr.fresh⟩
theorem Th {x:Option TypeId} {d:TypeDesc} (e:x.bind P.underlying=some d): ∃ty,x=some ty/\P.underlying ty=some d:=by
 cases x with
 |none=>cases e
 |some ty=>exact⟨ty,rfl,e⟩
theorem Np (z:Array Value) (n:Nat):(Builtin.zeroCells z n).toList=aR z (n*z.size):=by simp [Builtin.zeroCells,aR]
theorem abI (hr:Rel N w0 h w) {argTypes:Array TypeId} {ty el rt:TypeId} {z:Value} {a:Option Addr} {n c:Nat} {K:Value->Hp->Prop}
  (hx:argTypes[0]?=some ty) (hu:P.underlying ty=some (.slice el)) (hz:wM P el=some z)
  (e:(n=0/\K (.tuple #[]) h)\/ ∃b o cs sz,a=some ⟨b,o,none⟩/\h b=some (.inl ⟨cs,sz,false⟩)/\o+n*z.cells.size<=cs.length/\
   z.cells.toList.all (·.oneCell')=true/\0<n/\K (.tuple #[]) (h.row b (bX cs o (aR z.cells (n*z.cells.size))) sz)):
  ∃w',(Builtin.clear_ argTypes rt #[.slice a n c]).run P w= .ok (.tuple #[]) w'/\uB N w0 K (.tuple #[]) w':=by
 rcases e with ⟨rfl,k⟩|⟨b,o,cs,sz,rfl,hh,hl,hone,hn,k⟩
 ·refine⟨w,?_,h,hr,k⟩
  have hu':=run_underlying (w:=w) hu
  unfold Builtin.clear_
  simp only [hx,List.getElem?_toArray,List.getElem?_cons_zero,Sem.run_bind,hu',Result.andThen_ok]
  cases a<;>rfl
 ·obtain⟨m,rfl⟩: ∃m,n=m+1:=⟨n-1,by omega⟩
  have hle:cs.length<=sz:=by
   obtain⟨c,T,lo,hi,hw,hsz,hc,_⟩:=hr.row b _ hh
   simp only at hsz hc
   rw [<-hsz]
   rcases Nat.lt_or_ge c.size cs.length with h1|h1
   ·exact absurd (Array.getElem?_eq_some_iff.1 (hc c.size _ (List.getElem?_eq_getElem h1))).1 (Nat.lt_irrefl _)
   ·exact h1
  have hlen:(aR z.cells ((m+1)*z.cells.size)).length=(m+1)*z.cells.size:=by simp [aR]
  have hall:(aR z.cells ((m+1)*z.cells.size)).all (·.oneCell')=true:=by
   simp only [aR,List.all_map,List.all_eq_true,List.mem_range,Function.comp]
   intro i hi
   have hpos:0<z.cells.size:=by
    rcases Nat.eq_zero_or_pos z.cells.size with h0|h0
    ·rw [h0]at hi;simp at hi
    ·exact h0
   have hlt:i%z.cells.size<z.cells.size:=Nat.mod_lt _ hpos
   rw [getElem!_pos z.cells _ hlt]
   exact List.all_eq_true.1 hone _ (by simp)
  have hrun:=hr.setCells_run (P:=P) hh rfl o _ hall (by rw [hlen];show _<=sz;omega)
  have hset:=hr.setCells hh rfl o (aR z.cells ((m+1)*z.cells.size)) (bX cs o (aR z.cells ((m+1)*z.cells.size))) (fun c hc _=>FS _ _ _ _ hc)
  refine⟨_,?_,_,hset,k⟩
  have hu':=run_underlying (w:=w) hu
  unfold Builtin.clear_
  simp only [hx,List.getElem?_toArray,List.getElem?_cons_zero,Sem.run_bind,hu',Result.andThen_ok,SY hz,Np,hrun]
  rfl
theorem S6 (hr:Rel N w0 h w) (hN:N<=w0.heap.size) {b:Builtin} {argTypes:Array TypeId} {rt:TypeId} {cs:Array Bool} {vs:List Value} {K:Value->Hp->Prop}
  (e:kB P b argTypes vs h K): ∃v w',(builtin b argTypes rt cs vs.toArray).run P w= .ok (.value v) w'/\uB N w0 K v w':=by
 unfold kB at e
 split at e
 ·split at e
  ·rename_i hb
   obtain⟨ty,hx,hu⟩:=Th hb
   exact⟨_,w,by simp [builtin,Builtin.len_,hx,run_underlying hu,goInt],h,hr,e⟩
  ·exact e.elim
 ·split at e
  ·rename_i hb
   obtain⟨ty,hx,hu⟩:=Th hb
   exact⟨_,w,by simp [builtin,Builtin.len_,hx,run_underlying hu,goInt],h,hr,e⟩
  ·exact e.elim
 ·split at e
  ·rename_i hb
   obtain⟨ty,hx,hu⟩:=Th hb
   obtain⟨r,es,rfl,hh,k⟩:=e
   obtain⟨_,ms,clk,hw,hm⟩:=hr.map r es hh
   have hl:ms.size=es.length:=by rw [<-hm];simp
   exact⟨_,w,by simp [builtin,Builtin.len_,hx,run_underlying hu,goInt,getObj,Sem.run,hw];rfl,h,hr,by rw [hl];exact k⟩
  ·exact e.elim
 ·split at e
  ·rename_i s s' h1 h2
   split at e
   ·rename_i el hd hu
    obtain⟨hss,hsz⟩:=of_decide_eq_true hd
    subst hss
    split at e
    ·rename_i hz
     have ha:argTypes= #[s,s]:=by
      apply Array.ext'
      apply List.ext_getElem?
      intro i
      simp only [Array.getElem?_toList]
      match i with
      |0=>rw [h1];rfl
      |1=>rw [h2];rfl
      |i+2=>rw [Array.getElem?_eq_none (by omega)];rfl
     obtain⟨v,w',hrun,hpost⟩:=aha (P:=P) (rt:=rt) hr hN hu hz e
     subst ha
     exact⟨v,w',by simp only [builtin,Sem.run_bind];rw [hrun];rfl,hpost⟩
    ·exact e.elim
   ·exact e.elim
  ·exact e.elim
 ·split at e
  ·rename_i s s' h1 h2
   split at e
   ·rename_i el kn hd hu hn
    have hss:=of_decide_eq_true hd
    split at e
    ·rename_i z hf hz
     have ha:argTypes= #[s,s']:=by
      apply Array.ext'
      apply List.ext_getElem?
      intro i
      simp only [Array.getElem?_toList]
      match i with
      |0=>rw [h1];rfl
      |1=>rw [h2];rfl
      |i+2=>rw [Array.getElem?_eq_none (by omega)];rfl
     obtain⟨rfl,rfl,rfl,e1,e2,e3,e4,e5⟩:=e
     obtain⟨v,w',hrun,hpost⟩:=aeM (P:=P) (rt:=rt) hr hN hu hn hz hf e1 e2 e3 e4 e5
     subst ha
     exact⟨v,w',by simp only [builtin,Sem.run_bind];rw [hrun];rfl,hpost⟩
    ·exact e.elim
   ·exact e.elim
  ·exact e.elim
 ·exact⟨_,w,by simp [builtin,Builtin.max_,Builtin.max2],h,hr,e⟩
 ·exact⟨_,w,by simp [builtin,Builtin.min_,Builtin.min2],h,hr,e⟩
 ·split at e
  ·rename_i el hb
   obtain⟨ty,hx,hu⟩:=Th hb
   split at e
   ·rename_i z hz
    obtain⟨w',hrun,hpost⟩:=abI (P:=P) (rt:=rt) hr hx hu hz e
    exact⟨_,w',by simp only [builtin,Sem.run_bind];rw [hrun];rfl,hpost⟩
   ·exact e.elim
  ·exact e.elim
 ·split at e
  ·rename_i hb
   obtain⟨ty,hx,hu⟩:=Th hb
   exact⟨_,w,by simp [builtin,Builtin.cap_,hx,run_underlying hu,goInt],h,hr,e⟩
  ·exact e.elim
 ·exact e.elim
theorem IH (ht:ug n t a) {x:Option Operand} {d:Nat} {K:Int->Prop} (e:xj t x d K):
  ∃i,K i/\((x=none/\i=Int.ofNat d)\/ ∃y k,x=some y/\a.eval y= .int k i):=by
 unfold xj at e
 split at e
 ·exact⟨_,e, .inl ⟨rfl,rfl⟩⟩
 ·rename_i y
  obtain⟨v,hv,e⟩:=ce e
  split at e
  ·rename_i k i
   exact⟨i,e, .inr ⟨y,k,rfl,ht.ev hv⟩⟩
  ·exact e.elim
theorem sU {y k:Nat} {code:BoundsCode} {v:Value} {kk:IntKind} {i:Int} (hv:v= .int kk i) (h0:0<=i) (h1:i<=y) (hk:i.toNat=k):
  (Instr.sliceBound v y code).run P w= .ok k w:=by
 subst hv
 simp [Instr.sliceBound,asIntOf,h0,h1,hk]
theorem QP (ht:ug n t a) {ty:TypeId} {lo hi:Option Operand} {s:ByteArray} {K:Value->Prop} (hu:P.underlying ty=some .string)
  (e:xj t lo 0 fun l=>xj t hi s.size fun u=>0<=l/\l<=u/\u<=s.size/\K (.string (s.extract l.toNat u.toNat))):
  EL P (Instr.sliceAt ty (.string s) (lo.map a.eval) (hi.map a.eval) none) w fun v w'=>w'=w/\K v:=by
 obtain⟨l,e,hl⟩:=IH ht e
 obtain⟨u,⟨h0,h1,h2,k⟩,hu'⟩:=IH ht e
 refine⟨_,w,?_,rfl,k⟩
 have hun:=run_underlying (w:=w) hu
 rcases hl with ⟨rfl,rfl⟩|⟨y,kk,rfl,hy⟩<;>rcases hu' with ⟨rfl,rfl⟩|⟨y',kk',rfl,hy'⟩
 ·simp [Instr.sliceAt,hun,Instr.slice,Instr.sliceBounds]
 ·have b1:=sU (P:=P) (w:=w) (y:=s.size) (code:= .sliceAlen) hy' (by omega) (by omega) rfl
  simp [Instr.sliceAt,hun,Instr.slice,Instr.sliceBounds,b1]
 ·have b1:=sU (P:=P) (w:=w) (y:=s.size) (code:= .sliceB) hy (by omega) (by simpa using h1) rfl
  simp [Instr.sliceAt,hun,Instr.slice,Instr.sliceBounds,b1]
 ·have b1:=sU (P:=P) (w:=w) (y:=s.size) (code:= .sliceAlen) hy' (by omega) (by omega) rfl
  have b2:=sU (P:=P) (w:=w) (y:=u.toNat) (code:= .sliceB) hy (by omega) (by omega) rfl
  simp [Instr.sliceAt,hun,Instr.slice,Instr.sliceBounds,b1,b2]
theorem HG {ty el:TypeId} {lo hi:Option Operand} {aa:Option Addr} {m c:Nat} {l u:Int} (hu:P.underlying ty=some (.slice el))
  (hi': ∃i,P.info? el=some i) (hsp:aa=none\/ ∃b o,aa=some ⟨b,o,none⟩)
  (hl:(lo=none/\l=Int.ofNat 0)\/ ∃y k,lo=some y/\a.eval y= .int k l) (hu':(hi=none/\u=Int.ofNat m)\/ ∃y k,hi=some y/\a.eval y= .int k u)
  (h0:0<=l) (h1:l<=u) (h2:u<=c):
  (Instr.sliceAt ty (.slice aa m c) (lo.map a.eval) (hi.map a.eval) none).run P w=
   .ok (.slice (aa.map fun p=>⟨p.block,if c=l.toNat then p.off else p.off+l.toNat*eZ P el,none⟩) (u.toNat-l.toNat) (c-l.toNat)) w:=by
 obtain⟨i,hi'⟩:=hi'
 have hun:=run_underlying (w:=w) hu
 have hsz:=BW (P:=P) (w:=w) hi'
 have fin: ∀(q:Nat),q=l.toNat->(if c=q then aa else aa.map (fun p=>p.add (q*eZ P el)))=
   aa.map fun p=>⟨p.block,if c=l.toNat then p.off else p.off+l.toNat*eZ P el,none⟩:=by
  rintro q rfl
  rcases hsp with rfl|⟨b,o,rfl⟩
  ·simp
  ·have hadd: ∀k,(⟨b,o,none⟩:Addr).add k=⟨b,o+k,none⟩:=fun k=>by unfold Addr.add;split<;>simp_all
   simp only [Option.map_some,hadd]
   split<;>rfl
 rcases hl with ⟨rfl,rfl⟩|⟨y,kk,rfl,hy⟩<;>rcases hu' with ⟨rfl,rfl⟩|⟨y',kk',rfl,hy'⟩
 ·have:=fin 0 rfl
  simp only [Instr.sliceAt,Instr.slice,Instr.sliceBounds,Sem.run_bind,hun,Result.andThen_ok,Option.map_none,Sem.run_pure,hsz,Option.map_some,this]
  rfl
 ·have b1:=sU (P:=P) (w:=w) (y:=c) (code:= .sliceAcap) hy' (by omega) h2 rfl
  have:=fin 0 rfl
  simp only [Instr.sliceAt,Instr.slice,Instr.sliceBounds,Sem.run_bind,hun,Result.andThen_ok,Option.map_none,Sem.run_pure,hsz,Option.map_some,b1,if_true,this]
  rfl
 ·have b1:=sU (P:=P) (w:=w) (y:=m) (code:= .sliceB) hy (by omega) (by simpa using h1) rfl
  have:=fin l.toNat rfl
  simp only [Instr.sliceAt,Instr.slice,Instr.sliceBounds,Sem.run_bind,hun,Result.andThen_ok,Option.map_none,Sem.run_pure,hsz,Option.map_some,b1,Option.isSome_none,Bool.false_eq_true,if_false,this]
  rfl
 ·have b1:=sU (P:=P) (w:=w) (y:=c) (code:= .sliceAcap) hy' (by omega) h2 rfl
  have b2:=sU (P:=P) (w:=w) (y:=u.toNat) (code:= .sliceB) hy (by omega) (by omega) rfl
  have:=fin l.toNat rfl
  simp only [Instr.sliceAt,Instr.slice,Instr.sliceBounds,Sem.run_bind,hun,Result.andThen_ok,Option.map_none,Sem.run_pure,hsz,Option.map_some,b1,b2,if_true,Option.isSome_none,Bool.false_eq_true,if_false,this]
theorem QW {ty:TypeId} (h:decide (eZ P ty=0)=false): ∃i,P.info? ty=some i:=by
 have:=of_decide_eq_false h
 unfold eZ at this
 split at this
 ·exact⟨_,by assumption⟩
 ·exact absurd rfl this
theorem UX {s:TypeId} {fs:Array Field} {f b o:Nat} {fd:Field} (hu:P.underlying s=some (.struct fs)) (hf:fs[f]?=some fd)
  (hz:decide (eZ P fd.type=0)=false):
  (Instr.fieldAt s (.pointer (some ⟨b,o,none⟩)) f).run P w= .ok (.pointer (some ⟨b,o+fd.offset,none⟩)) w:=by
 obtain⟨i,hi⟩:=QW hz
 have hsz:=BW (P:=P) (w:=w) hi
 have h0:=of_decide_eq_false hz
 have hadd: ∀k,(⟨b,o,none⟩:Addr).add k=⟨b,o+k,none⟩:=fun k=>by unfold Addr.add;split<;>simp_all
 simp only [Instr.fieldAt,Instr.sureAddr,fieldPlace,Sem.run_bind,run_underlying hu,Result.andThen_ok,hf,Sem.run_pure,hsz,if_neg h0,hadd]
theorem Ul {ty el:TypeId} {b o m c:Nat} {k:IntKind} {i:Int} (hu:P.underlying ty=some (.slice el)) (hi: ∃j,P.info? el=some j) (h0:0<=i) (h1:i<m):
  (Instr.indexAt ty (.slice (some ⟨b,o,none⟩) m c) (.int k i)).run P w= .ok (.pointer (some ⟨b,o+i.toNat*eZ P el,none⟩)) w:=by
 obtain⟨j,hj⟩:=hi
 have hsz:=BW (P:=P) (w:=w) hj
 have hadd: ∀k,(⟨b,o,none⟩:Addr).add k=⟨b,o+k,none⟩:=fun k=>by unfold Addr.add;split<;>simp_all
 simp [Instr.indexAt,asIntOf,run_underlying hu,h0,h1,hsz,hadd]
theorem Ro {ty el:TypeId} {b o m:Nat} {k:IntKind} {i:Int} (hu:P.underlying ty=some (.array m el)) (hi: ∃j,P.info? el=some j) (h0:0<=i) (h1:i<m):
  (Instr.indexAt ty (.pointer (some ⟨b,o,none⟩)) (.int k i)).run P w= .ok (.pointer (some ⟨b,o+i.toNat*eZ P el,none⟩)) w:=by
 obtain⟨j,hj⟩:=hi
 have hsz:=BW (P:=P) (w:=w) hj
 have hadd: ∀k,(⟨b,o,none⟩:Addr).add k=⟨b,o+k,none⟩:=fun k=>by unfold Addr.add;split<;>simp_all
 simp [Instr.indexAt,asIntOf,Instr.sureAddr,run_underlying hu,h0,h1,hsz,hadd]
theorem YD {o:Oper} {K:Value->Hp->Prop} (e:aop P o t h K) (hr:Rel N w0 h w) (hN:N<=w0.heap.size) (ht:ug n t a):
  UK P o a.eval w (uB N w0 K):=by
 obtain⟨dst,op,type,pos,after,guard⟩:=o
 unfold aop at e
 simp only at e
 split at e
 ·--move
  obtain⟨v,hv,k⟩:=ce e
  clear e
  exact .inl ⟨v,w,by simp [execOp,ht.ev hv],h,hr,k⟩
 ·obtain⟨v,hv,k⟩:=ce e
  clear e
  exact .inl ⟨v,w,by simp [execOp,ht.ev hv],h,hr,k⟩
 ·--pick
  obtain⟨v,hv,k⟩:=ce e
  clear e
  split at k
  ·replace k:=ce k;obtain⟨u,hu,k⟩:=k
   exact .inl ⟨u,w,by simp [execOp,ht.ev hv,ht.ev hu,asBool],h,hr,k⟩
  ·replace k:=ce k;obtain⟨u,hu,k⟩:=k
   exact .inl ⟨u,w,by simp [execOp,ht.ev hv,ht.ev hu,asBool],h,hr,k⟩
  ·exact k.elim
 ·--alloc
  rename_i ety
  split at e
  ·rename_i z hz
   obtain⟨w',hrun,hp⟩:=O4 (P:=P) hr hN ety z e
   exact .inl ⟨.pointer (some ⟨w.heap.size,0,none⟩),w',by simp [execOp,Instr.alloc,SY hz,hrun],hp⟩
  ·exact e.elim
 ·--box
  obtain⟨v,hv,k⟩:=ce e
  clear e
  rename_i ety x
  obtain⟨w',hrun,hp⟩:=O4 (P:=P) hr hN ety v k
  exact .inl ⟨.pointer (some ⟨w.heap.size,0,none⟩),w',by simp [execOp,Instr.box,ht.ev hv,hrun],hp⟩
 ·--build
  rename_i ty parts
  split at e
  ·rename_i vs hvs
   split at e
   ·rename_i cs hcs
    have hm:=AF ht _ _ hvs
    have hb:=acK (w:=w) hcs
    have hp:(parts.map fun(i,x)=>(i,a.eval x))=vs.toArray:=by
     apply Array.ext';simp [<-hm]
    exact .inl ⟨_,w,by simp only [execOp];rw [hp];simp [hb],h,hr,e⟩
   ·exact e.elim
  ·exact e.elim
 ·--buildSlice
  rename_i ty len parts
  split at e
  ·rename_i el vs hu hvs
   split at e
   ·rename_i cs hcs
    have hm:=AF ht _ _ hvs
    obtain⟨v,w',hrun,hp⟩:=W7 (P:=P) hr hN hu hcs e
    have hpt:(parts.map fun(i,x)=>(i,a.eval x))=vs.toArray:=by
     apply Array.ext';simp [<-hm]
    exact .inl ⟨_,w',by simp only [execOp];rw [hpt];simp [hrun],hp⟩
   ·exact e.elim
  ·exact e.elim
 ·--load
  obtain⟨v,hv,k⟩:=ce e
  clear e
  split at k
  ·obtain⟨u,hrun,k⟩:=VY (P:=P) hr k
   exact .inl ⟨u,w,by simp [execOp,Instr.loadAt,Instr.sureAddr,ht.ev hv,hrun],h,hr,k⟩
  ·exact k.elim
 ·--store
  obtain⟨v,hv,k⟩:=ce e
  clear e
  replace k:=ce k;obtain⟨u,hu,k⟩:=k
  split at k
  ·split at k
   ·rename_i hd
    simp only [Bool.and_eq_true]at hd
    obtain⟨hd1,hd2⟩:=hd
    obtain⟨cs,sz,hb,hl,k⟩:=k
    obtain⟨w',hrun,hrel⟩:=abR (P:=P) hr (of_decide_eq_true hd1) hd2 hb hl
    exact .inr (.inl ⟨w',by simp [execOp,Instr.storeAt,Instr.sureAddr,ht.ev hv,ht.ev hu,hrun],_,hrel,k⟩)
   ·exact k.elim
  ·exact k.elim
 ·--nilCheck
  obtain⟨v,hv,k⟩:=ce e
  clear e
  split at k
  ·obtain⟨b,o,rfl,k⟩:=k
   exact .inl ⟨_,w,by simp [execOp,ht.ev hv],h,hr,k⟩
  ·exact .inl ⟨_,w,by simp [execOp,ht.ev hv],h,hr,k⟩
  ·exact k.elim
 ·--binOp
  obtain⟨v,hv,k⟩:=ce e
  clear e
  replace k:=ce k;obtain⟨u,hu,k⟩:=k
  rename_i bop xT x y yT
  obtain⟨r,w',hrun,rfl,k⟩:=aek (w:=w) (xo:=x) (yo:=y) k
  exact .inl ⟨r,w',by simp only [execOp,ht.ev hv,ht.ev hu];rw [Sem.run_bind,hrun];rfl,h,hr,k⟩
 ·--unOp
  obtain⟨v,hv,k⟩:=ce e
  clear e
  obtain⟨r,w',hrun,rfl,k⟩:=ahb (P:=P) (w:=w) k
  exact .inl ⟨r,w',by simp [execOp,ht.ev hv,hrun],h,hr,k⟩
 ·--convert
  obtain⟨v,hv,k⟩:=ce e
  clear e
  obtain⟨r,w',hrun,hp⟩:=acg (P:=P) hr hN k
  exact .inl ⟨r,w',by simp [execOp,ht.ev hv,hrun],hp⟩
 ·--makeFunc
  rename_i f xs ys
  obtain⟨vs,hvs,k⟩:=uE e
  clear e
  replace k:=uE k;obtain⟨us,hus,k⟩:=k
  have h1:=Fb ht _ _ hvs
  have h2:=Fb ht _ _ hus
  have e1:xs.map a.eval=vs.toArray:=by apply Array.ext';simp [h1]
  have e2:ys.map a.eval=us.toArray:=by apply Array.ext';simp [h2]
  exact .inl ⟨_,w,by simp only [execOp,e1,e2];simp [Instr.makeFunc],h,hr,k⟩
 ·--makeMap
  exact .inl ⟨_,{w with heap:=w.heap.push (.map #[] 0)},by simp [execOp,Instr.makeMap],_,hr.allocMap (hr.size hN),e _ hr.fresh⟩
 ·--makeSlice
  obtain⟨v,hv,k⟩:=ce e
  clear e
  replace k:=ce k;obtain⟨u,hu,k⟩:=k
  split at k
  ·rename_i el hty
   split at k
   ·rename_i i m z hz
    obtain⟨h0,h1,h2,h3,k⟩:=k
    obtain⟨r,w',hrun,hp⟩:=aed (P:=P) hr hN hty hz h0 h1 h2 h3 k
    exact .inl ⟨r,w',by simp [execOp,ht.ev hv,ht.ev hu,hrun],hp⟩
   ·exact k.elim
  ·exact k.elim
 ·--slice
  obtain⟨v,hv,k⟩:=ce e
  clear e
  split at k
  ·rename_i s hty
   have:=QP (P:=P) (w:=w) (K:=fun v=>K v h) ht hty k
   obtain⟨r,w',hrun,rfl,k⟩:=this
   exact .inl ⟨r,w',by simp only [execOp,ht.ev hv,Option.map_none];rw [Sem.run_bind,hrun];rfl,h,hr,k⟩
  ·rename_i el aa m c hty
   split at k
   ·exact k.elim
   ·rename_i hi
    replace k:=IH ht k;obtain⟨l,k,hl⟩:=k
    replace k:=IH ht k;obtain⟨u,⟨h0,h1,h2,k⟩,hu⟩:=k
    have hi:=Option.isSome_iff_exists.1 hi
    rcases k with ⟨rfl,k⟩|⟨b,o,rfl,k⟩
    ·have hrun:=HG (P:=P) (w:=w) (m:=m) hty hi (.inl rfl) hl hu h0 h1 h2
     exact .inl ⟨_,w,by simp only [execOp,ht.ev hv,Option.map_none];rw [Sem.run_bind,hrun];rfl,h,hr,k⟩
    ·have hrun:=HG (P:=P) (w:=w) (m:=m) hty hi (.inr ⟨b,o,rfl⟩) hl hu h0 h1 h2
     exact .inl ⟨_,w,by simp only [execOp,ht.ev hv,Option.map_none];rw [Sem.run_bind,hrun];rfl,h,hr,k⟩
  ·exact k.elim
 ·--s[:0:0]
  obtain⟨v,hv,k⟩:=ce e
  clear e
  split at k
  ·rename_i el aa m c hty
   split at k
   ·rename_i hi
    obtain⟨j,hj⟩:=Option.isSome_iff_exists.1 hi
    have hun:=run_underlying (w:=w) hty
    exact .inl ⟨.slice aa 0 0,w,by
     have hc0:a.eval (.const (.int .i64 0))= .int .i64 0:=rfl
     simp only [execOp,ht.ev hv,Option.map_none,Option.map_some,hc0]
     simp [Instr.sliceAt,hun,Instr.slice,Instr.sliceBounds,Instr.sliceBound,asIntOf,BW hj],h,hr,k⟩
   ·exact k.elim
  ·exact k.elim
 ·--fieldAddr
  obtain⟨v,hv,k⟩:=ce e
  clear e
  split at k
  ·rename_i fs hty
   split at k
   ·rename_i fd hf
    split at k
    ·rename_i b o
     split at k
     ·exact k.elim
     ·rename_i hz
      have hrun:=UX (P:=P) (w:=w) (b:=b) (o:=o) hty hf hz
      exact .inl ⟨_,w,by simp only [execOp,ht.ev hv];rw [Sem.run_bind,hrun];rfl,h,hr,k⟩
    ·exact k.elim
   ·exact k.elim
  ·exact k.elim
 ·--field
  obtain⟨v,hv,k⟩:=ce e
  clear e
  split at k
  ·rename_i fs cs hty
   split at k
   ·rename_i fd hf
    split at k
    ·rename_i hag
     obtain⟨d,hu⟩: ∃d,P.underlying fd.type=some d:=by
      unfold vh at hag
      split at hag
      ·exact⟨_,by assumption⟩
      ·exact⟨_,by assumption⟩
      ·cases hag
     obtain⟨i,hi⟩:=Rw hu
     have hp:(part fd.type cs fd.offset).run P w= .ok (.agg (cs.extract fd.offset (fd.offset+eZ P fd.type))) w:=by
      rw [En hu,hag,hi];simp only [eZ,hi]
     exact .inl ⟨_,w,by simp [execOp,Instr.field,ht.ev hv,run_underlying hty,hf,asAgg,hp],h,hr,k⟩
    ·rename_i hag
     split at k
     ·rename_i u hso hu
      obtain⟨d,hud⟩:=Option.isSome_iff_exists.1 hso
      have hp:(part fd.type cs fd.offset).run P w= .ok u w:=by
       rw [En hud,hag,hu]
      exact .inl ⟨_,w,by simp [execOp,Instr.field,ht.ev hv,run_underlying hty,hf,asAgg,hp],h,hr,k⟩
     ·exact k.elim
   ·exact k.elim
  ·exact k.elim
 ·--indexAddr
  obtain⟨v,hv,k⟩:=ce e
  clear e
  replace k:=ce k;obtain⟨u,hu,k⟩:=k
  split at k
  ·rename_i el aa m c kk i hty
   split at k
   ·exact k.elim
   ·rename_i hi
    obtain⟨b,o,rfl,h0,h1,k⟩:=k
    have hrun:=Ul (P:=P) (w:=w) (b:=b) (o:=o) (c:=c) (k:=kk) hty (Option.isSome_iff_exists.1 hi) h0 h1
    exact .inl ⟨_,w,by simp only [execOp,ht.ev hv,ht.ev hu];rw [Sem.run_bind,hrun];rfl,h,hr,k⟩
  ·rename_i m el b o kk i hty
   split at k
   ·exact k.elim
   ·rename_i hi
    obtain⟨h0,h1,k⟩:=k
    have hrun:=Ro (P:=P) (w:=w) (b:=b) (o:=o) (k:=kk) hty (Option.isSome_iff_exists.1 hi) h0 h1
    exact .inl ⟨_,w,by simp only [execOp,ht.ev hv,ht.ev hu];rw [Sem.run_bind,hrun];rfl,h,hr,k⟩
  ·exact k.elim
 ·--index
  obtain⟨v,hv,k⟩:=ce e
  clear e
  replace k:=ce k;obtain⟨u,hu,k⟩:=k
  split at k
  ·rename_i s kk i hty
   obtain⟨h0,c,hc,k⟩:=k
   exact .inl ⟨.int .u8 c.toNat,w,by simp [execOp,Instr.index,ht.ev hv,ht.ev hu,asIntOf,run_underlying hty,h0,hc],h,hr,k⟩
  ·exact k.elim
 ·--lookup
  rename_i lty lx li ok
  obtain⟨v,hv,k⟩:=ce e
  clear e
  replace k:=ce k;obtain⟨u,hu,k⟩:=k
  split at k
  ·rename_i kT eT m hty
   split at k
   ·rename_i z hz hk
    obtain⟨r,es,res,rfl,hh,hl,k⟩:=k
    replace k:=Xb k
    have hrun:=W1 (P:=P) (w:=w) (ok:=ok) hr hty hz hk hh hl
    exact .inl ⟨_,w,by simp only [execOp,ht.ev hv,ht.ev hu];rw [Sem.run_bind,hrun];rfl,h,hr,k⟩
   ·exact k.elim
  ·exact k.elim
 ·--mapUpdate
  obtain⟨v,hv,k⟩:=ce e
  clear e
  replace k:=ce k;obtain⟨vk,hvk,k⟩:=k
  replace k:=ce k;obtain⟨u,hu,k⟩:=k
  split at k
  ·rename_i kT eT m hty
   split at k
   ·rename_i hk
    obtain⟨r,es,res,rfl,hh,hl,hp,k⟩:=k
    obtain⟨w',hrun,hrel⟩:=Oz (P:=P) (v:=u) hr hty hk hh hl hp
    exact .inr (.inl ⟨w',by simp only [execOp,ht.ev hv,ht.ev hvk,ht.ev hu];rw [Sem.run_bind,hrun];rfl,_,hrel,k⟩)
   ·exact k.elim
  ·exact k.elim
 ·--insert
  obtain⟨v,hv,k⟩:=ce e
  clear e
  replace k:=ce k;obtain⟨vk,hvk,k⟩:=k
  replace k:=ce k;obtain⟨u,hu,k⟩:=k
  split at k
  ·rename_i kT eT m hty
   split at k
   ·rename_i hk
    obtain⟨r,es,res,rfl,hh,hl,hp,k⟩:=k
    obtain⟨w',hrun,hrel⟩:=Oz (P:=P) (v:=u) hr hty hk hh hl hp
    exact .inr (.inl ⟨w',by simp only [execOp,ht.ev hv,ht.ev hvk,ht.ev hu];rw [Sem.run_bind,hrun];rfl,_,hrel,k⟩)
   ·exact k.elim
  ·exact k.elim
 ·--extract
  rename_i x idx
  obtain⟨v,hv,k⟩:=ce e
  clear e
  replace k:=ce k;obtain⟨u,hu,k⟩:=k
  unfold adk at hu
  split at hu
  ·rename_i cs
   have hu':cs[idx]?=some u:=by simpa using hu
   exact .inl ⟨u,w,by simp [execOp,Instr.extract,ht.ev hv,hu'],h,hr,k⟩
  ·cases hu
 ·--makeInterface
  rename_i ity ix
  obtain⟨v,hv,k⟩:=ce e
  clear e
  split at k
  ·exact k.elim
  ·rename_i d hni hu
   refine .inl ⟨.iface ity v,w,?_,h,hr,k⟩
   have hrun:(Instr.makeInterface ity v).run P w= .ok (.iface ity v) w:=by
    simp only [Instr.makeInterface,Sem.run_bind,run_underlying hu,Result.andThen_ok]
    cases d<;>first|rfl|exact(hni _ rfl).elim
   simp only [execOp,ht.ev hv];rw [Sem.run_bind,hrun];rfl
  ·exact k.elim
 ·--call
  rename_i c
  split at e
  ·rename_i cal b hc
   obtain⟨vs,hvs,k⟩:=uE e
   clear e
   have hm:=Fb ht _ _ hvs
   have e1:c.args.map a.eval=vs.toArray:=by apply Array.ext';simp [hm]
   refine .inl ?_
   simp only [execOp,resolve,hc,e1,pure_bind,invoke]
   exact S6 (P:=P) (rt:=type) hr hN k
  ·rename_i cal f hc
   obtain⟨vf,hvf,k⟩:=ce e
   clear e
   replace k:=uE k;obtain⟨vs,hvs,k⟩:=k
   have hm:=Fb ht _ _ hvs
   have e1:c.args.map a.eval=vs.toArray:=by apply Array.ext';simp [hm]
   split at k
   ·rename_i g xs ys
    have hd:=of_decide_eq_true k.1
    cases hg:P.funcs[g]? with
    |none=>rw [hg]at hd;cases hd
    |some fn=>
     rw [hg]at hd
     simp only [Option.map_some,Option.some.injEq,Bool.and_eq_true,bne_iff_ne,ne_eq]at hd
     obtain⟨hb,hname⟩:=hd
     have hcall:=k.2 N w0 w hN hr
     refine .inr (.inr ⟨g,(xs++vs.toArray)++ys,w,?_,?_⟩)
     ·simp only [execOp,resolve,hc,e1,ht.ev hvf]
      simp [Deferred.ofValue,invoke,callFunc,hg,hname]
      intro hno
      rw [hno]at hb;cases hb
     ·refine hcall.mono ?_
      rintro e w' ⟨v,h',rfl,hrel,hk⟩
      exact⟨v,rfl,h',hrel,Ym hk⟩
   ·exact k.elim
  ·exact e.elim
 ·exact e.elim
end Go.Lead
