/- The abstract walk, part 5: conversions, new rows, appends, maps: what is told is what the model gives; no statement of the program. -/
import Derived.Test.YthfcbpocfmjefaaGreatVm4
import Derived.Laws.BytesString
import Derived.Laws.MakeOwn
import Derived.Lib.ConvBytes
import Derived.Lib.AppendZeros
namespace Go.Lead
open Go.RowKit
variable {P :Program} {N n:Nat} {w0 w:World} {h:Hp} {t:Tm} {a:Act}
abbrev uB (N:Nat) (w0:World) (K:Value->Hp->Prop):Value->World->Prop:=fun v w'=> ∃h',Rel N w0 h' w'/\K v h'
theorem aeD (hr:Rel N w0 h w) {a:Option Addr} {n:Nat} {vs:List Value} (hs:pF h a n vs) (x:Addr) (hx:a=some x):
  (loadCells x n).run P w= .ok vs.toArray w:=by
 obtain⟨hl,h1|⟨b,o,hb,hc⟩⟩:=hs
 ·have:vs= []:=List.eq_nil_of_length_eq_zero (by omega)
  subst this;subst h1
  simpa using run_loadCells_list (P:=P) w x [] (by simp)
 ·subst hx;cases hb
  rw [<-hl];exact JF hr hc
theorem Lx : ∀(bs:List UInt8) (s:ByteArray),(bs.map fun x=>Int.ofNat x.toNat).foldl (fun r n=>r.push (UInt8.ofNat n.toNat)) s=⟨s.data++bs.toArray⟩
 | [],s=>by simp
 |b::bs,s=>by
  simp only [List.map_cons,List.foldl_cons]
  rw [Lx bs]
  have:UInt8.ofNat (Int.ofNat b.toNat).toNat=b:=by simp
  rw [this]
  cases s
  simp [ByteArray.push]
theorem acg (hr:Rel N w0 h w) (hN:N<=w0.heap.size) {src dst:TypeId} {x:Value} {K:Value->Hp->Prop} (e:Ow P src dst x h K):
  EL P (convert src dst x) w (uB N w0 K):=by
 unfold Ow at e
 split at e
 ·rename_i hs hd
  exact⟨_,w,by simp [convert,run_underlying hs,run_underlying hd,Conv.intToInt],h,hr,e⟩
 ·rename_i hs hd
  exact⟨_,w,by simp [convert,run_underlying hs,run_underlying hd],h,hr,e⟩
 ·rename_i el a n c hs hd
  split at e
  ·rename_i he
   obtain⟨bs,hsl,hk⟩:=e
   refine⟨_,w,?_,h,hr,hk⟩
   rw [run_convert_bytes_string w src dst el a n c hs he hd]
   cases a with
   |none=>
    obtain⟨hl,h1|⟨b,o,hb,_⟩⟩:=hsl
    ·have:bs= []:=by
      have:(fK bs).length=0:=by omega
      simpa [fK] using this
     subst this
     simp [Conv.bytesToString];rfl
    ·cases hb
   |some y=>
    have hlo:=aeD (P:=P) hr hsl y rfl
    have:=run_bytesToString (P:=P) w y n c (bs.map fun x=>Int.ofNat x.toNat) (by rw [hlo];simp [fK])
    rw [this,Lx]
    simp
  ·exact e.elim
 ·rename_i el s hs hd
  split at e
  ·rename_i he
   have hcap:s.size<=grownCap w s.size 0 el:=by
    unfold grownCap Question.cut;simp only;omega
   refine⟨_,_,Lib.run_convert_string_bytes w src dst el s hs hd he,_,?_,e w.heap.size (grownCap w s.size 0 el) hr.fresh hcap⟩
   have hsz:(Lib.bytesCells w el s).size=grownCap w s.size 0 el:=by
    simp [Lib.bytesCells]
    have:s.data.size=s.size:=rfl
    omega
   have hat:=Lib.bytesWorld_at_new w el s
   have hold:=Lib.bytesWorld_at_old w el s
   have hos:(Lib.bytesWorld w el s).os=w.os/\(Lib.bytesWorld w el s).tape=w.tape/\(Lib.bytesWorld w el s).output=w.output:=⟨rfl,rfl,rfl⟩
   have hN':=hr.size hN
   refine⟨⟨hos.1.trans hr.below.os,hos.2.1.trans hr.below.tape,hos.2.2.trans hr.below.output,?_,?_⟩,?_,?_⟩
   ·rw [Lib.bytesWorld_size];have:=hr.below.size;omega
   ·intro k hk;rw [hold k (by omega)];exact hr.below.block k hk
   ·intro b x ex
    by_cases hb:b=w.heap.size
    ·subst hb;rw [Hp.set_eq]at ex;cases ex
     refine⟨_,_,_,_,hat,hsz,fun i v hv=>?_,fun hf=>by cases hf⟩
     simp only [fK,List.getElem?_map,Option.map_eq_some_iff]at hv
     obtain⟨c,hc,rfl⟩:=hv
     have hlist:s.toList=s.data.toList:=ByteArray.toList_eq s
     rw [hlist]at hc
     simp only [Lib.bytesCells]
     have hi:i<s.data.size:=by
      have:=(List.getElem?_eq_some_iff.1 hc).1
      simpa using this
     rw [Array.getElem?_append_left (by simpa using hi)]
     simp only [Array.getElem?_map]
     rw [<-Array.getElem?_toList,hc];rfl
    ·rw [Hp.set_ne _ _ hb]at ex
     have:=hr.lt ex
     simpa only [hold b this] using hr.row b x ex
   ·intro b x ex
    by_cases hb:b=w.heap.size
    ·subst hb;rw [Hp.set_eq]at ex;cases ex
    ·rw [Hp.set_ne _ _ hb]at ex
     have:=hr.lt ex
     simpa only [hold b this] using hr.map b x ex
  ·exact e.elim
 ·exact e.elim
theorem O9 : ∀(fs:List Field) (_: ∀f∈fs,∃i,P.info? f.type=some i),
  (fs.mapM (fun f=>(do pure (f.offset,<-sizeOf f.type):Sem (Nat×Nat)))).run P w= .ok (fs.map fun f=>(f.offset,eZ P f.type)) w
 | [],_=>by simp
 |f::fs,hf=>by
  obtain⟨i,hi⟩:=hf f (by simp)
  have ih:=O9 fs (fun g hg=>hf g (by simp [hg]))
  have h1:(sizeOf f.type).run P w= .ok (eZ P f.type) w:=by simp [sizeOf,typeInfo,hi,eZ]
  simp only [List.mapM_cons,Sem.run_bind,h1,Result.andThen_ok,Sem.run_pure,ih,List.map_cons]
theorem Wf {ty:TypeId} {i:TypeInfo} {z:Value} (hi:P.info? ty=some i) (hz:i.zero=some z):(zeroValue ty).run P w= .ok z w:=by
 simp [zeroValue,typeInfo,hi,hz]
theorem BW {ty:TypeId} {i:TypeInfo} (hi:P.info? ty=some i):(sizeOf ty).run P w= .ok (eZ P ty) w:=by
 simp [sizeOf,typeInfo,hi,eZ]
theorem acK {ty:TypeId} {parts:List (Nat×Value)} {cs:Array Value}
  (e:Ut P ty parts=some cs):(Instr.build ty parts.toArray).run P w= .ok (.agg cs) w:=by
 unfold Ut at e
 split at e
 ·rename_i i fs hi hu
  split at e
  ·rename_i z hz hall
   have hf: ∀f∈fs.toList,∃i,P.info? f.type=some i:=fun f hf=>by
    have:=List.all_eq_true.1 hall f hf
    exact Option.isSome_iff_exists.1 this
   have hpl:=O9 (w:=w) fs.toList hf
   have hpl':(fs.mapM (fun f=>(do pure (f.offset,<-sizeOf f.type):Sem (Nat×Nat)))).run P w= .ok (fs.map fun f=>(f.offset,eZ P f.type)) w:=by
    rw [Array.mapM_eq_mapM_toList]
    simp only [Sem.run_map,hpl,Result.andThen_ok]
    congr 1
    apply Array.ext'
    simp
   unfold Instr.build
   simp only [Sem.run_bind,Wf hi hz,run_underlying hu,Result.andThen_ok,hpl',e]
   rfl
  ·cases e
 ·rename_i i m el hi hu
  split at e
  ·rename_i z hz hall
   obtain⟨j,hj⟩:=Option.isSome_iff_exists.1 hall
   unfold Instr.build
   simp only [Sem.run_bind,Wf hi hz,run_underlying hu,Result.andThen_ok,BW hj,e]
   rfl
  ·cases e
 ·cases e
theorem W7 (hr:Rel N w0 h w) (hN:N<=w0.heap.size) {ty e:TypeId} {len:Nat} {parts:List (Nat×Value)} {cs:Array Value}
  (hu:P.underlying ty=some (.slice e)) (he:P0 P e len parts=some cs) {K:Value->Hp->Prop}
  (k: ∀b,h b=none->K (.slice (some ⟨b,0,none⟩) len len) (h.row b cs.toList cs.size)):
  EL P (Instr.buildSlice ty len parts.toArray) w (uB N w0 K):=by
 unfold P0 at he
 split at he
 ·rename_i i hi
  split at he
  ·rename_i z hz
   split at he
   ·cases he
   ·rename_i hlen
    have hlen': ¬(2^24<len*i.size):=hlen
    refine⟨_,{w with heap:=w.heap.push (.cells cs e)},?_,_,hr.alloc (hr.size hN) cs e cs.toList (fun i v hv=>by simpa using hv),k _ hr.fresh⟩
    have hrow: ∀zc:Array Value,zc=z.cells->(Array.range (len*i.size)).map (fun k=>zc[k%zc.size]!)=(aR z.cells (len*i.size)).toArray:=by
     intro zc hz;subst hz
     apply Array.ext'
     simp [aR]
    by_cases h0:len*i.size=0
    ·have:(aR z.cells (len*i.size)).toArray= #[]:=by simp [aR,h0]
     simp [Instr.buildSlice,run_underlying hu,sizeOf,typeInfo,hi,h0]
     rw [this]at he
     rw [show (Array.map (fun _=>(default:Value)) (Array.range 0))= #[]from by apply Array.ext';simp,he]
     simp [newRow]
    ·simp [Instr.buildSlice,run_underlying hu,sizeOf,typeInfo,hi,h0,hlen',zeroValue,hz]
     rw [hrow z.cells rfl,he]
     simp [newRow]
  ·cases he
 ·cases he
theorem Lv (hr:Rel N w0 h w) {a:Addr} {n:Nat} {vs:List Value} (hs:pF h (some a) n vs):
  ∀(j:Nat) (v:Value),vs[j]?=some v->w.cell? (a.add j)=some v:=by
 intro j v hv
 obtain⟨hl,h1|⟨b,o,hb,hc⟩⟩:=hs
 ·have:vs= []:=List.eq_nil_of_length_eq_zero (by omega)
  subst this;simp at hv
 ·cases hb
  have hadd:(⟨b,o,none⟩:Addr).add j=⟨b,o+j,none⟩:=by unfold Addr.add;split<;>simp_all
  rw [hadd]
  exact hr.cell (hc j v hv)
theorem ahD (w:World) (x:Addr):w.drew.cell? x=w.cell? x:=rfl
theorem EM (w:World) (need old:Nat) (e:TypeId):need<=grownCap w need old e:=by
 unfold grownCap Question.cut;simp only;omega
theorem Ho {e:TypeId} (h:xQ P e=true): ∃i z,P.info? e=some i/\i.zero=some z/\z.cells.size=i.size:=by
 unfold xQ at h
 split at h
 ·split at h
  ·exact⟨_,_,by assumption,by assumption,of_decide_eq_true h⟩
  ·cases h
 ·cases h
theorem vJ (z:Array Value) (n:Nat):(Builtin.zeroCells z n).size=n*z.size:=by simp [Builtin.zeroCells]
theorem aha (hr:Rel N w0 h w) (hN:N<=w0.heap.size) {ty e:TypeId} {rt:TypeId} {base src:Option Addr} {n cap m c:Nat} {K:Value->Hp->Prop}
  (hu:P.underlying ty=some (.slice e)) (hz:xQ P e=true)
  (e1:cy h base n cap src m (eZ P e) (tZ P e) fun a n c h=>K (.slice a n c) h):
  EL P (Builtin.append_ #[ty,ty] rt #[.slice base n cap, .slice src m c]) w (uB N w0 K):=by
 obtain⟨i,z,hi,hzz,hzs⟩:=Ho hz
 have hsz:eZ P e=i.size:=by simp [eZ,hi]
 have hby:tZ P e=i.bytes:=by simp [tZ,hi]
 rw [hsz,hby]at e1
 have hNw:=hr.size hN
 rcases e1 with ⟨hm,hle,hk⟩|⟨hm,hb47,h63,sb,so,news,rfl,hnl,hnews,hone,hcase⟩
 ·--nothing is appended
  subst hm
  have hf: ∀x,(loadCells x 0).run P w= .ok #[] w:=fun x=>by simpa using run_loadCells_list (P:=P) w x [] (by simp)
  refine⟨.slice base n cap,w,?_,h,hr,hk⟩
  cases base<;>cases src<;>simp [Builtin.append_,run_underlying hu,sizeOf,typeInfo,hi,Builtin.lenOf,Builtin.firstCells,hle,storeCells,hf]
 ·have hnews': ∀(j:Nat) (v:Value),news[j]?=some v->w.cell? ((⟨sb,so,none⟩:Addr).add j)=some v:=
   Lv hr (a:=⟨sb,so,none⟩) (n:=news.length) ⟨rfl, .inr ⟨sb,so,rfl,hnews⟩⟩
  have fresh: ∀(olds:List Value),olds.length=n*i.size-> ∀(cells:Array Value) (g:Nat),n+m<=g->
    cells=olds.toArray++news.toArray++Builtin.zeroCells z.cells (g-(n+m))->
    Rel N w0 (h.row w.heap.size (olds++news) (g*i.size)) (w.drew.alloc (.cells cells e)):=by
   intro olds hol cells g hg hc
   have hsize:cells.size=g*i.size:=by
    rw [hc];simp [vJ,hol,hnl,hzs]
    rw [<-Nat.add_mul,<-Nat.add_mul];congr 1;omega
   have:=hr.drew.alloc (w:=w.drew) (by simpa using hNw) cells e (olds++news) (fun j v hv=>by
    rw [hc]
    have hlt:=(List.getElem?_eq_some_iff.1 hv).1
    have:(olds.toArray++news.toArray)[j]?=some v:=by simpa using hv
    rw [Array.getElem?_append_left (by simpa using hlt)];exact this)
   rw [hsize]at this
   exact this
  have h63':((n+m:Nat):Int)<=9223372036854775807:=by omega
  rcases hcase with ⟨hgrow,olds,holds,hnone,hk⟩|⟨b,all,hbase,hown,hal,hk⟩
  ·--room must be jz
   cases base with
   |none=>
    obtain⟨rfl,rfl⟩:=hnone rfl
    have ho:olds= []:=List.eq_nil_of_length_eq_zero (by rw [holds.1];simp)
    subst ho
    have hrun:=run_append_nil (P:=P) (w:=w) ty rt e i z hu hi hzz ⟨sb,so,none⟩ m c news hnl hnews' hm (by omega) (by simp at hb47;omega)
    have hg:=EM w m 0 e
    have hk':=hk w.heap.size (grownCap w m 0 e) hr.fresh (by omega)
    rw [Nat.zero_add]at hk'
    exact⟨_,_,hrun,_,fresh [] (by simp) _ (grownCap w m 0 e) (by omega) (by simp),hk'⟩
   |some x=>
    have hrun:=run_append_grow (P:=P) (w:=w) ty rt e i z hu hi hzz x n cap olds holds.1 (Lv hr holds) ⟨sb,so,none⟩ m c news hnl hnews' hgrow h63'
     (growslice_fits hgrow hb47)
    have hg:=EM w (n+m) cap e
    exact⟨_,_,hrun,_,fresh olds holds.1 _ (grownCap w (n+m) cap e) hg rfl,hk _ _ hr.fresh hg⟩
  ·subst hbase
   obtain⟨olds,holds⟩: ∃olds,olds=all.take (n*i.size):=⟨_,rfl⟩
   rw [<-holds]at hk
   have hol:olds.length=n*i.size:=by rw [holds,List.length_take];omega
   have hpre: ∀(j:Nat) v,olds[j]?=some v->all[j]?=some v:=fun j v hv=>by
    rw [holds,List.getElem?_take]at hv
    split at hv
    ·exact hv
    ·cases hv
   by_cases hroom:n+m<=cap
   ·have hlo:=JF (P:=P) hr hnews
    rw [hnl]at hlo
    have hadd:(⟨b,0,none⟩:Addr).add (n*i.size)=⟨b,n*i.size,none⟩:=by unfold Addr.add;split<;>simp_all
    have hfit:n*i.size+news.length<=cap*i.size:=by rw [hnl,<-Nat.add_mul];exact Nat.mul_le_mul_right _ hroom
    have hst:=hr.setCells_run (P:=P) hown rfl (n*i.size) news hone hfit
    have hrel:=hr.setCells hown rfl (n*i.size) news (olds++news) (fun c hc hcs=>by
     rw [<-hol];exact SA news olds c (fun j v hv=>hc j v (hpre j v hv)) (by rw [hcs,hol];exact hfit))
    refine⟨.slice (some ⟨b,0,none⟩) (n+m) cap,w.setCells b (n*i.size) news,?_,_,?_,hk b cap (.inl rfl) hroom⟩
    ·simp [Builtin.append_,run_underlying hu,sizeOf,typeInfo,hi,Builtin.lenOf,Builtin.firstCells,hroom,hlo,hadd,hst]
    ·refine hrel.weaken fun k v hv=>?_
     by_cases hk:k=b
     ·subst hk;rw [Hp.row,Hp.set_eq]at hv;rw [Hp.set_eq];exact hv
     ·rw [Hp.row,Hp.set_ne _ _ hk,Hp.set_ne _ _ hk]at hv;rw [Hp.set_ne _ _ hk];exact hv
   ·have hgrow:cap<n+m:=by omega
    have holds:ji h b 0 olds:=fun j v hv=>by simp [Hp.cell,hown,hpre j v hv]
    have hrun:=run_append_grow (P:=P) (w:=w) ty rt e i z hu hi hzz ⟨b,0,none⟩ n cap olds hol
     (Lv hr (a:=⟨b,0,none⟩) (n:=olds.length) ⟨rfl, .inr ⟨b,0,rfl,holds⟩⟩) ⟨sb,so,none⟩ m c news hnl hnews' hgrow h63'
     (growslice_fits hgrow hb47)
    have hg:=EM w (n+m) cap e
    refine⟨_,_,hrun,_,(fresh olds hol _ (grownCap w (n+m) cap e) hg rfl).weaken ?_,hk _ _ (.inr hr.fresh) hg⟩
    intro k v hv
    by_cases hk:k=w.heap.size
    ·subst hk;rw [Hp.row,Hp.set_eq]at hv;rw [Hp.row,Hp.set_eq];exact hv
    ·rw [Hp.row,Hp.set_ne _ _ hk]at hv;rw [Hp.row,Hp.set_ne _ _ hk]
     by_cases hkb:k=b
     ·subst hkb;rw [Hp.set_eq]at hv;cases hv
     ·rw [Hp.set_ne _ _ hkb]at hv;exact hv
theorem aeM (hr:Rel N w0 h w) (hN:N<=w0.heap.size) {ty tn e:TypeId} {rt:TypeId} {z:Value} {k kn:IntKind} (hu:P.underlying ty=some (.slice e)) (hn:P.underlying tn=some (.int kn)) (hz:wM P e=some z) (hf:xQ P e=true)
  {m:Int} (h0:0<m) (hs:0<eZ P e) (hb:m*((tZ P e:Nat):Int)<=140737488355328) (h63:m<=9223372036854775807) {K:Value->Hp->Prop}
  (kk: ∀b c',h b=none->Int.toNat m<=c'->K (.slice (some ⟨b,0,none⟩) (Int.toNat m) c') (h.row b (aR z.cells (Int.toNat m*eZ P e)) (c'*eZ P e))):
  EL P (Builtin.append_ #[ty,tn] rt #[.slice none 0 0, .int k m]) w (uB N w0 K):=by
 obtain⟨i,z',hi,hzz,hzs⟩:=Ho hf
 have hz':z'=z:=by unfold wM at hz;rw [hi]at hz;simp only [hzz]at hz;exact Option.some.inj hz
 subst hz'
 have hsz:eZ P e=i.size:=by simp [eZ,hi]
 have hby:tZ P e=i.bytes:=by simp [tZ,hi]
 rw [hsz]at kk hs
 rw [hby]at hb
 obtain⟨n,rfl⟩: ∃n:Nat,m=n:=⟨m.toNat,by omega⟩
 have hb':n*i.bytes<=140737488355328:=by rw [<-Int.natCast_mul]at hb;omega
 have hrun:=Lib.run_append_nil_zeros (P:=P) w ty tn rt e i z' k kn hu hn hi hzz n (by omega) hs h63 (by omega)
 have hg:=EM w n 0 e
 refine⟨_,_,hrun,_,?_,kk w.heap.size (grownCap w n 0 e) hr.fresh (by simpa using hg)⟩
 simp only [Int.toNat_natCast]
 have hsize:(Builtin.zeroCells z'.cells n++Builtin.zeroCells z'.cells (grownCap w n 0 e-n)).size=grownCap w n 0 e*i.size:=by
  simp [vJ,hzs]
  rw [<-Nat.add_mul];congr 1;omega
 have:=hr.drew.alloc (w:=w.drew) (by simpa using hr.size hN) (Builtin.zeroCells z'.cells n++Builtin.zeroCells z'.cells (grownCap w n 0 e-n)) e (aR z'.cells (n*i.size)) (fun j v hv=>by
  have hlt:=(List.getElem?_eq_some_iff.1 hv).1
  have hlt2:j<n*z'.cells.size:=by rw [hzs];simpa [aR] using hlt
  rw [Array.getElem?_append_left (by rw [vJ];exact hlt2)]
  have hl:(Builtin.zeroCells z'.cells n).toList=aR z'.cells (n*z'.cells.size):=by simp [Builtin.zeroCells,aR]
  rw [<-Array.getElem?_toList,hl,hzs];exact hv)
 rw [hsize]at this
 exact this
theorem aed (hr:Rel N w0 h w) (hN:N<=w0.heap.size) {ty e:TypeId} {z:Value} (hu:P.underlying ty=some (.slice e)) (hz:wM P e=some z)
  {l c:Int} (h0:0<=l) (hlc:l<=c) (hb:c*tZ P e<=140737488355328) (h63:c<=9223372036854775807) {K:Value->Hp->Prop}
  (k: ∀b,h b=none->K (.slice (some ⟨b,0,none⟩) l.toNat c.toNat) (h.row b (aR z.cells (c.toNat*eZ P e)) (c.toNat*eZ P e))):
  EL P (Instr.makeSlice ty (.int .i64 l) (.int .i64 c)) w (uB N w0 K):=by
 unfold wM at hz
 split at hz
 ·rename_i i hi
  have hsz:eZ P e=i.size:=by simp [eZ,hi]
  have hby:tZ P e=i.bytes:=by simp [tZ,hi]
  have hrun:=run_make (P:=P) w ty e i z hu hi hz .i64 .i64 l c h0 hlc (by rw [hby]at hb;rw [Int.mul_comm];omega) h63
  refine⟨_,_,hrun,_,?_,k _ hr.fresh⟩
  have:=hr.alloc (hr.size hN) (madeCells z.cells (c.toNat*i.size)) e (aR z.cells (c.toNat*i.size)) (fun j v hv=>by
   have:madeCells z.cells (c.toNat*i.size)=(aR z.cells (c.toNat*i.size)).toArray:=by
    apply Array.ext';simp [madeCells,aR]
   rw [this];simpa using hv)
  rw [size_madeCells]at this
  rw [hsz]
  exact this
 ·cases hz
theorem JH {kind:TypeDesc} {k:Value}:
  ∀(es:List MapEntry) (i:Nat) (res:Option (Nat×Value)),gW (Instr.sameNow kind k) (es.map fun e=>(e.key,e.val)) i=some res->Instr.findNow kind k es i=some res
 | [],i,res,e=>by simp [gW]at e;subst e;rfl
 |x::es,i,res,e=>by
  simp only [List.map_cons,gW]at e
  simp only [Instr.findNow]
  split at e
  ·rename_i hk;rw [hk];exact e
  ·rename_i hk;rw [hk];exact JH es (i+1) res e
  ·cases e
theorem C3 {kT:TypeId} {k:Value} (eq:Value->Option Bool) (heq: ∀e r,eq e=some r->(Op.equal kT k e).run P w= .ok r w):
  ∀(es:List MapEntry) (i:Nat) (res:Option (Nat×Value)),gW eq (es.map fun e=>(e.key,e.val)) i=some res->(Instr.findAsking kT k es i).run P w= .ok res w
 | [],i,res,e=>by simp [gW]at e;subst e;simp [Instr.findAsking]
 |x::es,i,res,e=>by
  simp only [List.map_cons,gW]at e
  simp only [Instr.findAsking,Sem.run_bind]
  split at e
  ·rename_i hk;rw [heq _ _ hk];cases e;simp
  ·rename_i hk;rw [heq _ _ hk];simp only [Result.andThen_ok,Bool.false_eq_true,if_false];exact C3 eq heq es (i+1) res e
  ·cases e
theorem Ly {fs:Array Field} {k:Value}: ∀(es:List MapEntry) (i:Nat),es≠ []->Instr.findNow (.struct fs) k es i=none
 | [],_,h=>absurd rfl h
 |x::es,i,_=>by
  have:Instr.sameNow (.struct fs) k x.key=none:=by unfold Instr.sameNow;split<;>simp_all
  simp [Instr.findNow,this]
theorem I8 {kT:TypeId} {k:Value} {es:List MapEntry} {res:Option (Nat×Value)} (e:gW (Hm P kT k) (es.map fun e=>(e.key,e.val)) 0=some res)
  (hu: ∃d,P.underlying kT=some d):(Instr.findKey kT k es).run P w= .ok res w:=by
 obtain⟨d,hu⟩:=hu
 unfold Hm at e
 rw [hu]at e
 have plain: ∀d,P.underlying kT=some d->gW (Instr.sameNow d k) (es.map fun e=>(e.key,e.val)) 0=some res->(Instr.findKey kT k es).run P w= .ok res w:=by
  intro d hu e
  have:=JH (kind:=d) (k:=k) es 0 res e
  simp only [Instr.findKey,Sem.run_bind,run_underlying hu,Result.andThen_ok,this];rfl
 cases d with
 |struct fs=>
  cases es with
  |nil=>
   have hres:res=none:=by simp [gW]at e;exact e.symm
   subst hres
   simp [Instr.findKey,run_underlying hu,Instr.findNow]
  |cons x xs=>
   have:=C3 (P:=P) (w:=w) (aeq P 3 kT k) (fun e r he=>qG (by omega) he) (x::xs) 0 res e
   simp only [Instr.findKey,Sem.run_bind,run_underlying hu,Result.andThen_ok,Ly (x::xs) 0 (by simp)]
   exact this
 |_=>exact plain _ hu e
theorem Dn {ty:TypeId} (h:rO P ty=true): ∃d,P.underlying ty=some d/\((∃k,d= .int k)\/d= .string\/d= .bool):=by
 unfold rO at h
 split at h<;>(first|(exact⟨_,by assumption,by simp⟩)|cases h)
theorem qR {kT:TypeId} (k:Value) (hp:rO P kT=true) (b:Bool) (m:Nat):(Instr.checkKey b (m+1) kT k).run P w= .ok () w:=by
 obtain⟨d,hu,⟨j,rfl⟩|rfl|rfl⟩:=Dn hp<;>simp [Instr.checkKey,run_underlying hu]
theorem QN {kT:TypeId} {k:Value} (hk:FA P kT k=true) (b:Bool) (m:Nat):(Instr.checkKey b (m+2) kT k).run P w= .ok () w:=by
 unfold FA at hk
 split at hk
 ·rename_i fs cs hu
  have hall:=List.all_eq_true.1 hk
  have key: ∀(l:List Field),(∀f∈l,(f.name != "_" &&rO P f.type&&(cs[f.offset]?).isSome)=true)->
    (forIn l PUnit.unit (fun f _=>do
     if f.name≠ "_" then
      let x<-part f.type cs f.offset
      Instr.checkKey b (m+1) f.type x
      pure (ForInStep.yield PUnit.unit)
     else pure (ForInStep.yield PUnit.unit)):Sem PUnit).run P w= .ok PUnit.unit w:=by
   intro l hl
   induction l with
   |nil=>simp
   |cons f l ih=>
    have hf:=hl f (by simp)
    simp only [Bool.and_eq_true,bne_iff_ne]at hf
    obtain⟨⟨hn,hp⟩,hc⟩:=hf
    obtain⟨v,hv⟩:=Option.isSome_iff_exists.1 hc
    obtain⟨d,hu,hd⟩:=Dn hp
    have hag:vh P f.type=false:=by unfold vh;rw [hu];rcases hd with ⟨j,rfl⟩|rfl|rfl<;>rfl
    have h1:(part f.type cs f.offset).run P w= .ok v w:=by rw [En hu,hag,hv]
    simp only [List.forIn_cons,Sem.run_bind,hn,ne_eq,not_false_eq_true,if_true,h1,Result.andThen_ok,qR v hp b m,Sem.run_pure]
    exact ih (fun g hg=>hl g (by simp [hg]))
  have:=key fs.toList hall
  rw [Instr.checkKey]
  simp only [Sem.run_bind,run_underlying hu,Result.andThen_ok]
  rw [<-Array.forIn_toList]
  simp at this
  simp [this]
 ·rename_i hu;exact qR _ (by simp only [rO,hu]) b (m+1)
 ·rename_i hu;exact qR _ (by simp only [rO,hu]) b (m+1)
 ·rename_i hu;exact qR _ (by simp only [rO,hu]) b (m+1)
 ·cases hk
theorem Hs {kT:TypeId} {k:Value} (hk:FA P kT k=true) (b:Bool):(Instr.checkKey b 10000 kT k).run P w= .ok () w:=QN hk b 9998
theorem Pv {kT:TypeId} {k:Value} (hk:FA P kT k=true): ∃d,P.underlying kT=some d:=by
 cases e:P.underlying kT with
 |some d=>exact⟨d,rfl⟩
 |none=>unfold FA at hk;rw [e]at hk;cases hk
theorem Rk {eq:Value->Option Bool}: ∀(es:List (Value×Value)) (i j:Nat) (v:Value),gW eq es i=some (some (j,v))->
  ∃e,i<=j/\es[j-i]?=some e/\eq e.1=some true/\e.2=v
 | [],i,j,v,h=>by simp [gW]at h
 |x::es,i,j,v,h=>by
  simp only [gW]at h
  split at h
  ·rename_i hx
   simp at h
   obtain⟨rfl,rfl⟩:=h
   exact⟨x,Nat.le_refl _,by simp,hx,rfl⟩
  ·obtain⟨e,hle,h1,h2,h3⟩:=Rk es (i+1) j v h
   exact⟨e,by omega,by rw [show j-i=(j-(i+1))+1 by omega];simpa using h1,h2,h3⟩
  ·cases h
theorem H9 (n:Nat) (a b:ByteArray):Instr.sameBits n (.string a) (.string b)=(a==b):=by cases n<;>simp [Instr.sameBits]
theorem aba {kT:TypeId} {k o:Value} (hp:rO P kT=true) (e:Hm P kT k o=some true):(Instr.keyThatStays o k).run P w= .ok k w:=by
 obtain⟨d,hu,hd⟩:=Dn hp
 have e':Instr.sameNow d k o=some true:=by
  unfold Hm at e
  rw [hu]at e
  rcases hd with ⟨j,rfl⟩|rfl|rfl<;>exact e
 have hs:Instr.sameBits 10000 o k=true:=by
  unfold Instr.sameNow at e'
  split at e'
  ·split at e'
   ·rename_i hk;subst hk;simp at e';subst e';simp [Instr.sameBits]
   ·cases e'
  ·simp only [Option.some.injEq]at e';rw [beq_toListBytes]at e';rw [H9,beq_toListBytes];simp only [beq_iff_eq]at e'⊢;exact e'.symm
  ·simp at e';subst e';simp [Instr.sameBits]
  ·cases e'
 simp [Instr.keyThatStays,hs]
theorem W1 (hr:Rel N w0 h w) {ty kT eT:TypeId} {k z:Value} {r:Nat} {es:List (Value×Value)} {res:Option (Nat×Value)} {ok:Bool}
  (hu:P.underlying ty=some (.map kT eT)) (hz:wM P eT=some z) (hk:FA P kT k=true) (hh:h r=some (.inr es))
  (hl:gW (Hm P kT k) es 0=some res):
  (Instr.lookup ty (.map (some r)) k ok).run P w= .ok (match ok with|true=> .tuple #[(res.map (·.2)).getD z, .bool res.isSome]|false=>(res.map (·.2)).getD z) w:=by
 obtain⟨_,ms,clk,hw,hm⟩:=hr.map r es hh
 rw [<-hm]at hl
 have hfind:=I8 (w:=w) (es:=ms.toList) hl (Pv hk)
 have hobj:(getObj r).run P w= .ok (.map ms clk) w:=by simp [getObj,Sem.run,hw]
 have hcheck: ∀b,(Instr.checkKey b 10000 kT k).run P w= .ok () w:=fun b=>Hs hk b
 have hzero:(zeroValue eT).run P w= .ok z w:=by
  unfold wM at hz
  split at hz
  ·rename_i i hi;simp [zeroValue,typeInfo,hi,hz]
  ·cases hz
 simp only [Instr.lookup,Sem.run_bind,run_underlying hu,Result.andThen_ok,hobj,Sem.run_pure,hcheck,hfind]
 cases res with
 |none=>simp only [Sem.run_bind,hzero,Result.andThen_ok,Sem.run_pure];cases ok<;>rfl
 |some x=>cases ok<;>rfl
theorem Oz (hr:Rel N w0 h w) {ty kT eT:TypeId} {k v:Value} {r:Nat} {es:List (Value×Value)} {res:Option (Nat×Value)}
  (hu:P.underlying ty=some (.map kT eT)) (hk:FA P kT k=true) (hh:h r=some (.inr es))
  (hl:gW (Hm P kT k) es 0=some res) (hp:match rO P kT with|true=>True|false=>res=none):
  ∃w',(Instr.mapUpdate ty (.map (some r)) k v).run P w= .ok () w'/\Rel N w0 (h.set r (some (.inr (yW es k v res)))) w':=by
 obtain⟨_,ms,clk,hw,hm⟩:=hr.map r es hh
 have hl':=hl
 rw [<-hm]at hl'
 have hfind:=I8 (w:=w) (es:=ms.toList) hl' (Pv hk)
 have hobj:(getObj r).run P w= .ok (.map ms clk) w:=by simp [getObj,Sem.run,hw]
 have hset: ∀o,(setObj r o).run P w= .ok () {w with heap:=w.heap.setIfInBounds r o}:=fun o=>by simp [setObj,Sem.run,hw]
 have hcheck: ∀b,(Instr.checkKey b 10000 kT k).run P w= .ok () w:=fun b=>Hs hk b
 cases res with
 |none=>
  refine⟨{w with heap:=w.heap.setIfInBounds r (.map (ms.push {key:=k,val:=v,born:=clk}) (clk+1))},?_,?_⟩
  ·simp only [Instr.mapUpdate,Sem.run_bind,run_underlying hu,Result.andThen_ok,hobj,hcheck,hfind,hset]
  ·have:=hr.setMap hh (ms.push {key:=k,val:=v,born:=clk}) (clk+1)
   simp only [Array.toList_push,List.map_append,hm,List.map_cons,List.map_nil]at this
   exact this
 |some x=>
  obtain⟨i,u⟩:=x
  have hplain:rO P kT=true:=by
   cases hpt:rO P kT with
   |true=>rfl
   |false=>rw [hpt]at hp;cases hp
  obtain⟨e,_,hi,he,_⟩:=Rk es 0 i u hl
  rw [<-hm]at hi
  simp only [Nat.sub_zero,List.getElem?_map,Option.map_eq_some_iff]at hi
  obtain⟨me,hme,rfl⟩:=hi
  have hme':ms[i]?=some me:=by simpa using hme
  have hstay:=aba (P:=P) (w:=w) hplain he
  refine⟨{w with heap:=w.heap.setIfInBounds r (.map (ms.modify i fun e=>{e with key:=k,val:=v}) clk)},?_,?_⟩
  ·simp only [Instr.mapUpdate,Sem.run_bind,run_underlying hu,Result.andThen_ok,hobj,hcheck,hfind,hme',Option.map_some,Option.getD_some,hstay,hset]
  ·have:=hr.setMap hh (ms.modify i fun e=>{e with key:=k,val:=v}) clk
   have hlist:(ms.modify i fun e=>{e with key:=k,val:=v}).toList.map (fun e=>(e.key,e.val))=yW es k v (some (i,u)):=by
    rw [<-hm,yW]
    apply List.ext_getElem?
    intro j
    simp only [Array.toList_modify,List.getElem?_map,List.getElem?_set,List.getElem?_modify,List.length_map]
    by_cases hij:i=j
    ·subst hij
     have hlt:i<ms.size:=(Array.getElem?_eq_some_iff.1 hme').1
     simp [hlt]
    ·simp [hij]
   rw [hlist]at this
   exact this
end Go.Lead
