/- What functions of the program and of the reference come to, walked one by one, and plain laws about it: part 3. No condition is added to the statement. -/
import Derived.Test.YthfcbpocfmjefaaGreatZ1
namespace Go.Lead
open Go
set_option linter.unusedSimpArgs false
set_option linter.unusedVariables false
set_option maxRecDepth 100000
set_option maxHeartbeats 1000000
structure rD (h0 h:Hp) (out:Sl) (ts:List Sl) (vs:List (List Nat)):Prop where
 len:ts.length=vs.length
 row: ∀(i:Nat) (t:Sl),ts[i]?=some t-> ∃b,t=⟨some ⟨b,0,none⟩,(vs.getD i []).length,(vs.getD i []).length⟩/\h0 b=none/\
  (h.offS out) b=some (.inl ⟨(VL (vs.getD i [])).map I,(vs.getD i []).length,false⟩)
 dis: ∀(i j:Nat) (t u:Sl),ts[i]?=some t->ts[j]?=some u->t.a=u.a->i=j
 buf:Buf h out 1 (ts.map Sl.v)
 le:h0.le (h.offS out)
theorem rD.ints {h0 h:Hp} {out:Sl} {ts:List Sl} {vs:List (List Nat)} (e:rD h0 h out ts vs) (hl: ∀v∈vs,v.length<=1048576) (hn:out.n<=1048576):IntSS h out (vs.map VL):=by
 refine⟨ts,by rw [List.length_map];exact e.len,e.buf.slc_of (by omega),fun i h1 h2=>?_⟩
 obtain⟨b,ht,_,hr⟩:=e.row i _ (List.getElem?_eq_getElem h1)
 have hi:i<vs.length:=by rw [List.length_map]at h2;exact h2
 have hv:(vs.map VL)[i]=VL (vs.getD i []):=by
  rw [List.getElem_map,List.getD_eq_getElem?_getD,List.getElem?_eq_getElem hi];rfl
 have hvl:(vs.getD i []).length<=1048576:=by
  rw [List.getD_eq_getElem?_getD,List.getElem?_eq_getElem hi];exact hl _ (List.getElem_mem hi)
 rw [ht,hv]
 refine⟨by dsimp only;omega,by simp [aX], .inr ⟨b,0,rfl,aw (aW _ _ _ _ hr)⟩⟩
def ct (l:List NodeP) (ps:List Nat):List (List Nat):=ps.map fun p=>List.replicate (aE l p) 0
theorem dl (l:List NodeP) (p:Nat):aE l p<=4:=zU _
theorem iy {ps:List Nat} {i p:Nat} (h:ps[i]?=some p):(VL ps)[i]?=some ((p:Nat):Int):=by simp [VL,h]
theorem gw.sortc {h:Hp} {s:Sl} {l:List NodeP} (e:gw h s l) {p:Nat} (hp:p<l.length):
  ∃b o,s.a=some (Addr.mk b o none)/\(p:Int)<(s.n:Int)/\Hp.cell h b ((o+Int.toNat (p:Int)*9)+6)=some (I (ar l p).idx)/\Hp.cell h b ((o+Int.toNat (p:Int)*9)+6+1)=some (I (ar l p).wid):=by
 obtain⟨n,hn1⟩: ∃n,l[p]?=some n:=⟨_,List.getElem?_eq_getElem hp⟩
 obtain⟨ba,oa,ha1,_,_,_,_,_,_,c6,c7,_⟩:=e.at hn1
 have hsa:ar l ((p:Nat):Int)=n.sort:=by unfold ar;rw [Int.toNat_natCast,hn1]
 refine⟨ba,oa,ha1,by have:=e.len;omega,?_⟩
 rw [hsa];exact⟨c6,c7⟩
theorem nk {h:Hp} {M:MSl} {m:ah} {s:Sl} {ps:List Nat} {R:Value->Hp->Prop} (hs:aO h M m) (hm:bT m) (hp:IntS h s (VL ps)) (hps: ∀p∈ps,p<m.nodes.length) (hpl:ps.length<=1048576)
  (k: ∀out ts h',rD h h' out ts (ct m.nodes ps)->out.n=ps.length->R (Sl.v out) h'):dU #[aQ M,s.v] h R:=by
 apply DG
 refine uf_ ?_
 have hn:=hs.nodes.len
 have hns:=hm.nodes
 have hsn:=hp.len
 rw [aX]at hsn
 refine aj fun b8 h1 hb8 l1 f8=>?_
 refine au ps.length (fun i vs h'=> ∃(out:Sl) (ts:List Sl),vs= [.pointer (some ⟨b8,0,none⟩),out.v,s.v,I s.n,I i]/\rD h h' out ts (ct m.nodes (ps.take i))/\out.n=i/\(h'.offS out) b8=some (.inl ⟨aH M,5,false⟩))
  ⟨⟨none,0,0⟩, [],rfl,⟨rfl,fun i t ht=>by simp at ht,fun i j t u ht=>by simp at ht,fD _ _,l1⟩,rfl,f8⟩ ?_
 clear l1 f8 hb8 h1
 rintro i _ h1 next hi ⟨out,ts,rfl,hC,hon,f8⟩ hnx
 have lo:=aW h1 out
 have l1:=Hp.le_trans hC.le lo
 have f8':=lo _ _ f8
 refine⟨_,_,out,s,_,_,rfl,?_⟩
 by_cases hlt:i<ps.length
 ·refine aM (by simp;omega) ?_
  obtain⟨p,hpi⟩: ∃p,ps[i]?=some p:=⟨_,List.getElem?_eq_getElem hlt⟩
  have hpm:=hps p (List.mem_of_getElem? hpi)
  obtain⟨b,o,ha,hc⟩:=(hp.mono l1).get (iy hpi)
  refine⟨b,o,ha,by omega,by omega,_,hc,?_⟩
  (refine aD ?_)
  obtain⟨bn,on,han,hpn,c6,c7⟩:=(hs.nodes.mono l1).sortc hpm
  refine⟨bn,on,han,by omega,hpn,_,c6,_,c7,?_⟩
  refine oK ⟨_,rfl,?_⟩
  have hce:dg ⟨(ar m.nodes p).idx,(ar m.nodes p).wid⟩=aE m.nodes p:=rfl
  rw [hce]
  have hc4:=dl m.nodes p
  refine⟨by omega,by omega,by omega,by omega,?_⟩
  refine aj fun b38 h2 hb38 l2 f38=>?_
  refine aj fun b40 h3 hb40 l3 f40=>?_
  have l13:=Hp.le_trans l2 l3
  have l13o:=bC out l13
  replace f38:=l3 _ _ f38
  rw [Int.toNat_natCast,Nat.mul_one,cE]at f38
  rw [Int.toNat_natCast]at f40
  have hno: ∀a,out.a=some a->a.block≠b38:=by
   intro a ha' e
   rcases hC.buf.2.2 with ⟨h0,_⟩|⟨c,hc',hcb⟩
   ·rw [h0]at ha';cases ha'
   ·rw [hc']at ha';cases ha'
    subst e
    rw [hb38]at hcb;cases hcb
  have f38o:(h3.offS out) b38=some (.inl ⟨List.replicate (aE m.nodes p) (I 0),aE m.nodes p,false⟩):=by rw [zR hno];exact f38
  refine dG (hC.buf.mono l13) (by omega) (by omega) (by omega) ⟨b40,0,rfl,aw f40⟩ (by simp) rfl ?_
  intro s' h4 hs'n hbuf' l4 _
  have l14:=Hp.le_trans l13o l4
  rw [ay (by omega)]
  have hvs:ct m.nodes (ps.take (i+1))=ct m.nodes (ps.take i)++ [List.replicate (aE m.nodes p) 0]:=by
   unfold ct
   rw [List.take_succ_eq_append_getElem hlt,List.map_append]
   rw [List.getElem?_eq_getElem hlt]at hpi
   rw [Option.some.inj hpi];rfl
  have hlen:=hC.len
  have hzl:(ct m.nodes (ps.take i)).length=i:=by unfold ct;simp;omega
  have b38h:h b38=none:=aF l1 hb38
  refine hnx hlt _ _ ⟨s',ts++ [⟨some ⟨b38,0,none⟩,aE m.nodes p,aE m.nodes p⟩],rfl,⟨?_,fun j t ht=>?_,fun j j' t u ht hu hau=>?_,by rw [List.map_append];exact hbuf',Hp.le_trans hC.le l14⟩,by omega,l14 _ _ f8⟩
  ·rw [hvs,List.length_append,List.length_append,hlen];rfl
  ·by_cases hj:j<i
   ·rw [List.getElem?_append_left (by omega)]at ht
    obtain⟨b',e1,e2,e3⟩:=hC.row j t ht
    rw [hvs,ii (by omega)]
    exact⟨b',e1,e2,l14 _ _ e3⟩
   ·have hju:=get_lt ht
    simp at hju
    have hje:j=i:=by omega
    subst hje
    rw [List.getElem?_append_right (by omega),show j-ts.length=0 by omega]at ht
    simp at ht;subst ht
    rw [hvs,List.getD_eq_getElem?_getD,List.getElem?_append_right (by omega),hzl,Nat.sub_self]
    refine⟨b38,by simp,b38h,?_⟩
    have:=l4 _ _ f38o
    simpa [VL] using this
  ·have hb: ∀(q:Nat) (z:Sl),ts[q]?=some z->z.a≠some ⟨b38,0,none⟩:=by
    intro q z hz he
    obtain⟨b',e1,e2,e3⟩:=hC.row q z hz
    rw [e1]at he
    have hbb:b'=b38:=by simpa using he
    subst hbb
    have:=lo _ _ e3
    rw [hb38]at this;cases this
   by_cases hj:j<i
   ·rw [List.getElem?_append_left (by omega)]at ht
    by_cases hj':j'<i
    ·rw [List.getElem?_append_left (by omega)]at hu
     exact hC.dis j j' t u ht hu hau
    ·have hju:=get_lt hu
     simp at hju
     rw [List.getElem?_append_right (by omega),show j'-ts.length=0 by omega]at hu
     simp at hu;subst hu
     exact absurd hau (hb j t ht)
   ·have hjt:=get_lt ht
    simp at hjt
    by_cases hj':j'<i
    ·rw [List.getElem?_append_left (by omega)]at hu
     rw [List.getElem?_append_right (by omega),show j-ts.length=0 by omega]at ht
     simp at ht;subst ht
     exact absurd hau.symm (hb j' u hu)
    ·have hju:=get_lt hu
     simp at hju
     omega
 ·have hie:i=ps.length:=by omega
  subst hie
  rw [List.take_of_length_le (Nat.le_refl _)]at hC
  exact aC (by simp;omega) (k out ts h1 hC hon)
structure cr (m:ah):Prop where
 nl:m.nodes.length<=60
 il:m.inits.length<=60
 xl:m.nexts.length<=60
 bl:m.bads.length<=4
 hl:m.holds.length<=4
 ok:bP m.nodes=true
 twice:vC m=false
 ini: ∀b∈m.inits,jo m.nodes b=true
 nex: ∀b∈m.nexts,gk m.nodes b=true
 bad: ∀p∈m.bads,da m.nodes p=true
 hol: ∀p∈m.holds,da m.nodes p=true
 n8:ak m.nodes 36<=8
 k5:ak m.nodes 35<=5
theorem lU {c:Prop} [Decidable c] {x y:Int} (hx:x≠0) (h:(if c then x else y)=0): ¬c/\y=0:=by
 split at h
 ·exact absurd h hx
 ·rename_i hc;exact⟨hc,h⟩
theorem cD {m:ah} (h:aG m=0):cr m:=by
 unfold aG at h
 obtain⟨h1,h⟩:=lU (by decide) h
 obtain⟨h2,h⟩:=lU (by decide) h
 obtain⟨h3,h⟩:=lU (by decide) h
 obtain⟨h4,h⟩:=lU (by decide) h
 obtain⟨h5,h⟩:=lU (by decide) h
 obtain⟨h6,h⟩:=lU (by decide) h
 simp only [Bool.not_eq_false,Bool.and_eq_true,List.all_eq_true,Bool.not_eq_true]at h2 h3 h4 h5
 exact⟨by omega,by omega,by omega,by omega,by omega,h2,h3,h4.1,h4.2,h5.1,h5.2,by omega,by omega⟩
theorem cr.small {m:ah} (g:cr m): ∀n∈m.nodes,n.name.size<=8:=by
 intro n hn
 obtain⟨i,hi,e⟩:=List.getElem_of_mem hn
 have hf:=fQ g.ok (i:=i) (n:=n) (by rw [List.getElem?_eq_getElem hi,e])
 unfold fR at hf
 simp only [Bool.and_eq_true]at hf
 have hf':=hf.1.1.2
 split at hf'
 ·unfold gD at hf'
  simp only [Bool.and_eq_true,decide_eq_true_eq]at hf';omega
 ·simp only [decide_eq_true_eq]at hf';omega
theorem tD {l:List NodeP} (hok:bP l=true) {p:Nat} (hp:p<l.length):bW (ar l p)=true:=by
 have hn:l[p]?=some l[p]:=List.getElem?_eq_getElem hp
 have:ar l ((p:Nat):Int)=l[p].sort:=by unfold ar;rw [Int.toNat_natCast,hn]
 rw [this];exact(fM hok hn).sort
theorem qm {l:List NodeP} (hok:bP l=true) {p:Nat} (hp:p<l.length) {v:List Nat} (h:Fit (ar l p) v):v.length=aE l p/\ ∀x∈v,x<2^bL l p:=by
 refine⟨?_,h.lt⟩
 unfold aE dg
 rw [if_pos (tD hok hp),h.len]
theorem XR {l:List NodeP} (hok:bP l=true) {p:Nat} (hp:p<l.length) {v:List Nat} (h:v.length=aE l p/\ ∀x∈v,x<2^bL l p):Fit (ar l p) v:=by
 refine⟨?_,h.2⟩
 have:=h.1
 unfold aE dg at this
 rwa [if_pos (tD hok hp)]at this
theorem lc {l:List NodeP} {kind:Int} {p:Nat} (h:p∈av l kind):p<l.length:=by
 obtain⟨n,hn,_⟩:=DS h
 exact get_lt hn
theorem pE {l:List NodeP} (hok:bP l=true) {kind:Int} {vs:List (List Nat)} (h:jQ l (av l kind) vs):kZ l kind vs:=by
 refine⟨j9 h,fun k p hp=>?_⟩
 exact XR hok (lc (List.mem_of_getElem? hp)) (lM h hp)
def w9 (m:ah) (s i:List (List Nat)):List (List Nat):=du m.nodes s i m.nodes.length
abbrev stP (m:ah):List Nat:=av m.nodes 36
abbrev inP (m:ah):List Nat:=av m.nodes 35
def bK (m:ah) (s i:Nat):List (List Nat):=w9 m (dP m.nodes (stP m) s) (dP m.nodes (inP m) i)
def iC (m:ah) (v:List (List Nat)):Bool:=m.holds.all fun p=>decide (aK v p=1)
def uc (m:ah) (v:List (List Nat)):Option Nat:=m.bads.findIdx? fun p=>decide (aK v p=1)
def xM (m:ah) (v:List (List Nat)):Int:=match uc m v with|some d=>d|none=> -1
def gt (m:ah) (v:List (List Nat)) (p:Nat):Option (List Nat):=(bO m.nexts p).map fun k=>v.getD k []
def eh (m:ah) (v:List (List Nat)):List (List Nat):=mA m.nodes (gt m v) (stP m)
def kQ (c:Nat) (v:List Nat):List Nat:=v++List.replicate (c-v.length) (v.getD 0 0)
def kH (m:ah):List (List Nat):=w9 m (ct m.nodes (stP m)) (ct m.nodes (inP m))
def ed (m:ah) (p:Nat):Option (List Nat):=(bO m.inits p).map fun k=>kQ (aE m.nodes p) ((kH m).getD k [])
def fP (m:ah):List (List Nat):=mA m.nodes (ed m) (stP m)
def TS (m:ah) (binds:List BindP):Nat:=ij m.nodes (fun p=>(bO binds p).isSome) (stP m)
def aZ (m:ah):aL where
 n:=ak m.nodes 36
 k:=ak m.nodes 35
 hold c:=iC m (bK m (c%2^ak m.nodes 36) (c/2^ak m.nodes 36))
 bad c:=(uc m (bK m (c%2^ak m.nodes 36) (c/2^ak m.nodes 36))).isSome
 next c:=dX m.nodes (stP m) (eh m (bK m (c%2^ak m.nodes 36) (c/2^ak m.nodes 36)))
 fixed:=TS m m.nexts
 bfix:=TS m m.inits
 bas:=dX m.nodes (stP m) (fP m)
theorem dW {binds:List BindP} {p k:Nat} (h:bO binds p=some k): ∃b∈binds,b.state=(p:Int)/\b.node.toNat=k:=by
 unfold bO at h
 rw [Option.map_eq_some_iff]at h
 obtain⟨b,hb,hk⟩:=h
 exact⟨b,List.mem_of_find?_eq_some hb,by simpa using List.find?_some hb,hk⟩
theorem TV {binds:List BindP} {p:Nat} (h:bO binds p=none): ∀b∈binds,b.state≠(p:Int):=by
 unfold bO at h
 rw [Option.map_eq_none_iff,List.find?_eq_none]at h
 intro b hb e
 have:=h b hb
 simp [e]at this
theorem dn {l:List NodeP} {b:BindP} (h:gk l b=true):cU l b.state=true/\cU l b.node=true/\gz l b.state=36/\ar l b.state=ar l b.node:=by
 unfold gk at h
 simp only [Bool.and_eq_true,decide_eq_true_eq]at h
 exact⟨h.1.1.1,h.1.1.2,h.1.2,h.2⟩
theorem eU {l:List NodeP} {b:BindP} (h:jo l b=true):cU l b.state=true/\cU l b.node=true/\gz l b.state=36/\(ar l b.state=ar l b.node\/ar l b.node=cR (ar l b.state).wid)/\(dQ l l.length).getD b.node.toNat false=false:=by
 unfold jo at h
 simp only [Bool.and_eq_true,Bool.or_eq_true,decide_eq_true_eq,Bool.not_eq_true']at h
 exact⟨h.1.1.1,h.1.1.2,h.1.2,h.2.1,h.2.2⟩
theorem et {l:List NodeP} {p:Int}:cU l p=true↔0<=p/\p<l.length:=by
 unfold cU;rw [decide_eq_true_eq];omega
theorem BX {m:ah} (g:cr m) (s i:Nat):zZ m.nodes m.nodes.length (bK m s i):=
 xZ g.ok (JC g.ok 36 s) (JC g.ok 35 i) _ (Nat.le_refl _)
theorem ew (l:List NodeP) (ps:List Nat):jQ l ps (ct l ps):=by
 induction ps with
 |nil=>rfl
 |cons p ps ih=>
  refine⟨_,_,rfl,by simp,fun x hx=>?_,ih⟩
  simp at hx
  rw [hx.2];exact bQ _
theorem Tp {m:ah} (g:cr m) {s i:List (List Nat)} (hs:jQ m.nodes (stP m) s) (hi:jQ m.nodes (inP m) i):zZ m.nodes m.nodes.length (w9 m s i):=
 xZ g.ok (pE g.ok hs) (pE g.ok hi) _ (Nat.le_refl _)
theorem Pj (m:ah) (s i:List (List Nat)):(w9 m s i).length=m.nodes.length:=dE _ _ _ _
theorem xO {m:ah} (g:cr m) {v:List (List Nat)} (hv:zZ m.nodes m.nodes.length v) {p:Nat} {x:List Nat} (h:gt m v p=some x):x.length=aE m.nodes p/\ ∀y∈x,y<2^bL m.nodes p:=by
 unfold gt at h
 rw [Option.map_eq_some_iff]at h
 obtain⟨k,hk,rfl⟩:=h
 obtain⟨b,hb,hs,rfl⟩:=dW hk
 obtain⟨h1,h2,h3,h4⟩:=dn (g.nex b hb)
 have h2':=et.1 h2
 have h1':=et.1 h1
 have hn:((b.node.toNat:Nat):Int)=b.node:=by omega
 have:=hv b.node.toNat (by omega) (by omega)
 rw [hn,<-h4,hs]at this
 exact qm g.ok (by omega) this
theorem uP {m:ah} (g:cr m) {p:Nat} {x:List Nat} (h:ed m p=some x):x.length=aE m.nodes p/\ ∀y∈x,y<2^bL m.nodes p:=by
 unfold ed at h
 rw [Option.map_eq_some_iff]at h
 obtain⟨k,hk,rfl⟩:=h
 obtain⟨b,hb,hs,rfl⟩:=dW hk
 obtain⟨h1,h2,h3,h4,_⟩:=eU (g.ini b hb)
 have h2':=et.1 h2
 have h1':=et.1 h1
 have hn:((b.node.toNat:Nat):Int)=b.node:=by omega
 have hv:=Tp g (ew m.nodes (stP m)) (ew m.nodes (inP m)) b.node.toNat (by omega) (by omega)
 have hf:=qm g.ok (show b.node.toNat<m.nodes.length by omega) hv
 rw [hn]at hv
 have hwid:bL m.nodes b.node.toNat=bL m.nodes p/\aE m.nodes b.node.toNat<=aE m.nodes p:=by
  unfold bL aE
  rw [hn,<-hs]
  rcases h4 with h4|h4
  ·rw [h4];exact⟨rfl,Nat.le_refl _⟩
  ·rw [h4]
   refine⟨rfl,?_⟩
   have ho:bW (ar m.nodes b.state)=true:=by rw [hs];exact tD g.ok (by omega)
   have ho2:bW (cR (ar m.nodes b.state).wid)=true:=by
    have:=bD.1 ho
    exact bD.2 ⟨by simp [cR],by simp only [cR];omega⟩
   unfold dg
   rw [if_pos ho,if_pos ho2]
   exact bQ _
 refine⟨?_,fun y hy=>?_⟩
 ·unfold kQ
  rw [List.length_append,List.length_replicate]
  have:=hf.1;show ((kH m).getD b.node.toNat []).length+(aE m.nodes p-((kH m).getD b.node.toNat []).length)=_
  unfold kH;omega
 ·unfold kQ at hy
  rw [List.mem_append,List.mem_replicate]at hy
  rw [<-hwid.1]
  rcases hy with hy|⟨_,rfl⟩
  ·exact hf.2 y hy
  ·exact hv.get_lt hv.pos|>fun h=>by
    have e:bL m.nodes b.node.toNat=(ar m.nodes b.node).wid.toNat:=by unfold bL;rw [hn]
    rw [e];exact h
theorem jL {m:ah} (g:cr m) {v:List (List Nat)} (hv:zZ m.nodes m.nodes.length v):jQ m.nodes (stP m) (eh m v):=GG fun p _ x hx=>xO g hv hx
theorem rU {m:ah} (g:cr m):jQ m.nodes (stP m) (fP m):=GG fun p _ x hx=>uP g hx
theorem Lj (m:ah) (v:List (List Nat)):(fun p=>(gt m v p).isSome)=fun p=>(bO m.nexts p).isSome:=by funext p;unfold gt;simp
theorem LD (m:ah):(fun p=>(ed m p).isSome)=fun p=>(bO m.inits p).isSome:=by funext p;unfold ed;simp
theorem eM {m:ah} (g:cr m):cH m.nodes (stP m)=ak m.nodes 36:=xa _ g.ok 36
theorem wH {m:ah} (g:cr m):cH m.nodes (inP m)=ak m.nodes 35:=xa _ g.ok 35
theorem zl {m:ah} (g:cr m):(aZ m).Ok where
 nle:=g.n8
 kle:=g.k5
 fixed:=by have:=Bb m.nodes (fun p=>(bO m.nexts p).isSome) (stP m);rwa [eM g]at this
 bfix:=by have:=Bb m.nodes (fun p=>(bO m.inits p).isSome) (stP m);rwa [eM g]at this
 next c _:=by have:=yg (jL g (BX g (c%2^ak m.nodes 36) (c/2^ak m.nodes 36)));rwa [eM g]at this
 held c _:=by
  have:=Ts (l:=m.nodes) (f:=gt m (bK m (c%2^ak m.nodes 36) (c/2^ak m.nodes 36))) (ps:=stP m) fun p _ x hx=>xO g (BX g _ _) hx
  rw [Lj]at this
  exact this
 bas:=by have:=yg (rU g);rwa [eM g]at this
 bheld:=by
  have:=Ts (l:=m.nodes) (f:=ed m) (ps:=stP m) fun p _ x hx=>uP g hx
  rw [LD]at this
  exact this
theorem vq {m:ah} (g:cr m) (s:Nat):(aZ m).begins s=true↔ ∀(i p:Nat),(stP m)[i]?=some p-> ∀v,ed m p=some v->(dP m.nodes (stP m) s).getD i []=v:=by
 have:=Gh (l:=m.nodes) (f:=ed m) (ps:=stP m) s fun p _ x hx=>uP g hx
 rw [LD]at this
 rw [jN,<-this]
 unfold aL.begins
 rw [decide_eq_true_eq];rfl
theorem GX {binds:List BindP} (h:gQ (binds.map (·.state))=false) {j:Nat} {b:BindP} (hb:binds[j]?=some b): ∀x∈binds.take j,x.state≠b.state:=by
 intro x hx e
 have:gQ (binds.map (·.state))=true:=xS.2 ⟨j,b.state,by simp [hb],by
  rw [<-List.map_take,<-e];exact List.mem_map.2 ⟨x,hx,rfl⟩⟩
 rw [h]at this;cases this
theorem j8 {m:ah} (h:vC m=false):fJ m.nodes=false/\gQ (m.inits.map (·.state))=false/\gQ (m.nexts.map (·.state))=false:=by
 rw [F3]at h
 simp only [Bool.or_eq_false_iff]at h
 exact h
theorem rD.blk {h0 h:Hp} {out:Sl} {ts:List Sl} {vs:List (List Nat)} (e:rD h0 h out ts vs) {i:Nat} (hi:i<vs.length):
  ∃b,ts[i]?=some ⟨some ⟨b,0,none⟩,(vs.getD i []).length,(vs.getD i []).length⟩/\h0 b=none/\(h.offS out) b=some (.inl ⟨(VL (vs.getD i [])).map I,(vs.getD i []).length,false⟩):=by
 have hl:=e.len
 obtain⟨b,h1,h2,h3⟩:=e.row i _ (List.getElem?_eq_getElem (show i<ts.length by omega))
 exact⟨b,by rw [List.getElem?_eq_getElem (show i<ts.length by omega),h1],h2,h3⟩
theorem rD.wr {h0 h:Hp} {out:Sl} {ts:List Sl} {vs:List (List Nat)} {b n c i k x:Nat} {P:Hp->Prop} (e:rD h0 h out ts vs) (ht:ts[i]?=some ⟨some ⟨b,0,none⟩,n,c⟩) (hi:i<vs.length) (hk:k<(vs.getD i []).length)
  (kk: ∀h',rD h0 h' out ts (vs.set i ((vs.getD i []).set k x))->P h'):
  ∃(cs:List Value) (z:Nat),h b=some (.inl ⟨cs,z,false⟩)/\(0+Int.toNat (k:Int)*1)+1<=List.length cs/\cM (h.row b (bX cs (0+Int.toNat (k:Int)*1) [I x]) z) P:=by
 obtain⟨b',h1,h2,h3⟩:=e.blk hi
 rw [ht]at h1
 simp only [Option.some.injEq,Sl.mk.injEq,Addr.mk.injEq,and_true,true_and]at h1
 obtain⟨rfl,rfl,rfl⟩:=h1
 refine⟨_,_,aW _ _ _ _ h3,?_,?_⟩
 ·rw [List.length_map,aX,Int.toNat_natCast];omega
 rw [VR]
 refine kk _ ⟨by rw [List.length_set];exact e.len,fun j t hj=>?_,e.dis,e.buf.row _ _ h3,?_⟩
 ·obtain⟨bj,g1,g2,g3⟩:=e.row j t hj
  by_cases hji:j=i
  ·subst hji
   rw [ht]at hj
   obtain rfl:=(Option.some.inj hj).symm
   simp only [Sl.mk.injEq,Option.some.injEq,Addr.mk.injEq,and_true,true_and]at g1
   obtain⟨rfl,_⟩:=g1
   have hv:(vs.set j ((vs.getD j []).set k x)).getD j []=(vs.getD j []).set k x:=by
    rw [List.getD_eq_getElem?_getD,List.getElem?_set_self (by omega)];rfl
   rw [hv,List.length_set]
   refine⟨b,rfl,g2,?_⟩
   rw [td _ _ h3,bU]
   simp [VL,List.map_set,bG]
  ·have hv:(vs.set i ((vs.getD i []).set k x)).getD j []=vs.getD j []:=by
    rw [List.getD_eq_getElem?_getD,List.getElem?_set_ne (Ne.symm hji),<-List.getD_eq_getElem?_getD]
   rw [hv]
   refine⟨bj,g1,g2,?_⟩
   rw [td _ _ h3,cl]
   ·exact g3
   ·rintro rfl
    refine hji (e.dis j i t _ hj ht ?_)
    rw [g1]
 ·rw [td _ _ h3]
  exact ez _ _ h2 e.le
def sf (l:List NodeP) (ps:List Nat) (code i:Nat):List (List Nat):=(dP l ps code).take i++(ct l ps).drop i
def qe (l:List NodeP) (p code k:Nat):List Nat:=nQ (bL l p) k code++List.replicate (aE l p-k) 0
theorem Sh (l:List NodeP) (ps:List Nat) (code i:Nat) (hi:i<=ps.length):(sf l ps code i).length=ps.length:=by
 unfold sf;rw [List.length_append,List.length_take,List.length_drop,j6,ct,List.length_map];omega
theorem E7 {l:List NodeP} {ps:List Nat} {code i p:Nat} (h:ps[i]?=some p):(sf l ps code i).getD i []=qe l p (code/2^cH l (ps.take i)) 0:=by
 have hlt:=get_lt h
 unfold sf qe
 rw [List.getD_eq_getElem?_getD,List.getElem?_append_right (by rw [List.length_take,j6];omega),List.length_take,j6,Nat.min_eq_left (by omega),Nat.sub_self,List.getElem?_drop,Nat.add_zero,ct,List.getElem?_map,h]
 rfl
theorem Tt {l:List NodeP} {ps:List Nat} {code i p:Nat} (h:ps[i]?=some p):(sf l ps code i).set i (qe l p (code/2^cH l (ps.take i)) (aE l p))=sf l ps code (i+1):=by
 have hlt:=get_lt h
 have hu:(dP l ps code)[i]?=some (nQ (bL l p) (aE l p) (code/2^cH l (ps.take i))):=by
  have:=EX (l:=l) (code:=code) h
  rw [List.getD_eq_getElem?_getD,List.getElem?_eq_getElem (by rw [j6];exact hlt)]at this
  rw [List.getElem?_eq_getElem (by rw [j6];exact hlt)]
  exact congrArg some this
 unfold sf qe
 rw [Nat.sub_self,List.replicate_zero,List.append_nil,List.set_append_right _ _ (by rw [List.length_take,j6];omega),List.length_take,j6,Nat.min_eq_left (by omega),Nat.sub_self]
 have hd:(ct l ps).drop i=List.replicate (aE l p) 0::(ct l ps).drop (i+1):=by
  rw [<-List.getElem_cons_drop (show i<(ct l ps).length by rw [ct,List.length_map];exact hlt)]
  congr 1
  unfold ct
  rw [List.getElem_map]
  rw [List.getElem?_eq_getElem hlt]at h
  rw [Option.some.inj h]
 rw [hd,List.set_cons_zero,List.take_add_one,hu]
 simp
theorem JS {l:List NodeP} {p code k:Nat} (hk:k<aE l p):(qe l p code k).set k (code/2^(bL l p*k)%2^bL l p)=qe l p code (k+1):=by
 unfold qe
 rw [List.set_append_right _ _ (by rw [tE];omega),tE,Nat.sub_self]
 obtain⟨d,hd⟩: ∃d,aE l p-k=d+1:=⟨aE l p-k-1,by omega⟩
 rw [hd,List.replicate_succ,List.set_cons_zero,show aE l p-(k+1)=d by omega,nQ,List.append_assoc];rfl
theorem yO {l:List NodeP} {p code k:Nat} (hk:k<=aE l p):(qe l p code k).length=aE l p:=by
 unfold qe;rw [List.length_append,tE,List.length_replicate];omega
theorem gw.widc {h:Hp} {s:Sl} {l:List NodeP} (e:gw h s l) {p:Nat} (hp:p<l.length) (hok:bP l=true):
  ∃b o,s.a=some (Addr.mk b o none)/\(p:Int)<(s.n:Int)/\Hp.cell h b (((o+Int.toNat (p:Int)*9)+6)+1)=some (I (bL l p))/\1<=bL l p/\bL l p<=16:=by
 obtain⟨b,o,h1,h2,h3,h4⟩:=e.sortc hp
 have:=bD.1 (tD hok hp)
 have hw:(ar l p).wid=((bL l p:Nat):Int):=by unfold bL;omega
 exact⟨b,o,h1,h2,by rw [<-hw];exact h4,by unfold bL;omega,by unfold bL;omega⟩
theorem Rv {l:List NodeP} {ps:List Nat} {code:Nat} {v:List Nat} (h:v∈dP l ps code):v.length<=4:=by
 unfold dP at h
 obtain⟨i,_,rfl⟩:=List.mem_map.1 h
 rw [tE];exact dl _ _
theorem fy (l:List NodeP) (ps:List Nat):(ct l ps).length=ps.length:=by simp [ct]
theorem wV {h:Hp} {M:MSl} {m:ah} {s:Sl} {ps:List Nat} {code:Nat} {R:Value->Hp->Prop} (hs:aO h M m) (hm:bT m) (hok:bP m.nodes=true) (hp:IntS h s (VL ps)) (hps: ∀p∈ps,p<m.nodes.length) (hpl:ps.length<=1048576)
  (hcode:code<=1048576) (k: ∀out h',h.le h'->IntSS h' out ((dP m.nodes ps code).map VL)->out.n<=out.c->R (Sl.v out) h'):dz #[aQ M,s.v,I code] h R:=by
 apply Ad
 refine uf_ ?_
 have hn:=hs.nodes.len
 have hns:=hm.nodes
 have hsn:=hp.len
 rw [aX]at hsn
 refine aj fun b9 h1 hb9 l1 f9=>?_
 repeat' (refine aD ?_)
 refine nk (hs.mono l1) hm (hp.mono l1) hps hpl fun out ts h2 hC hon=>⟨out,rfl,?_⟩
 refine au ps.length (fun i vs h'=>vs= [I (code/2^cH m.nodes (ps.take i):Nat), .pointer (some ⟨b9,0,none⟩),out.v,s.v,I s.n,I i]/\rD h1 h' out ts (sf m.nodes ps code i)) ⟨?_,?_⟩ ?_
 ·simp [cH]
 ·have:sf m.nodes ps code 0=ct m.nodes ps:=by simp [sf]
  rw [this];exact hC
 clear hC h2
 rintro i _ h2 next hi ⟨rfl,hC⟩ hnx
 have hle:=Hp.le_trans hC.le (aW _ _)
 have f9':=hle _ _ f9
 refine⟨_,_,_,out,s,_,_,rfl,?_⟩
 by_cases hlt:i<ps.length
 rotate_left
 ·have hie:i=ps.length:=by omega
  subst hie
  refine aC (by simp;omega) (k out h2 (Hp.le_trans l1 hle) ?_ hC.buf.2.1)
  have:sf m.nodes ps code ps.length=dP m.nodes ps code:=by
   unfold sf
   rw [List.take_of_length_le (by rw [j6];omega),List.drop_of_length_le (by rw [fy];omega),List.append_nil]
  rw [this]at hC
  refine hC.ints (fun v hv=>?_) (by omega)
  have:=Rv hv;omega
 refine aM (by simp;omega) ?_
 obtain⟨p,hpi⟩: ∃p,ps[i]?=some p:=⟨_,List.getElem?_eq_getElem hlt⟩
 have hpm:=hps p (List.mem_of_getElem? hpi)
 obtain⟨b,o,ha,hc⟩:=((hp.mono l1).mono hle).get (iy hpi)
 refine⟨b,o,ha,by omega,by omega,_,hc,?_⟩
 (refine aD ?_)
 obtain⟨bn,on,han,hpn,c7,w1,w16⟩:=((hs.mono l1).mono hle).nodes.widc hpm hok
 refine⟨bn,on,han,by omega,hpn,_,c7,?_⟩
 have hol:=Sh m.nodes ps code i (by omega)
 obtain⟨bi,hti,hbi,hri⟩:=hC.blk (i:=i) (by omega)
 rw [E7 hpi,yO (Nat.zero_le _)]at hti
 obtain⟨bo,hoa,hob⟩: ∃bo,out.a=some ⟨bo,0,none⟩/\h2 bo=some (.inl ⟨ts.map Sl.v,out.c*1,false⟩):=by
  rcases hC.buf.2.2 with ⟨_,h0,_⟩|h0
  ·omega
  ·exact h0
 have hcell:Hp.cell h2 bo (0+Int.toNat (i:Int)*1)=some (Sl.v ⟨some ⟨bi,0,none⟩,aE m.nodes p,aE m.nodes p⟩):=by
  rw [ax hob,Nat.zero_add,Int.toNat_natCast,Nat.mul_one,List.getElem?_map,hti];rfl
 refine⟨bo,0,hoa,by omega,by omega,_,hcell,?_⟩
 have hcl:=dl m.nodes p
 generalize hci:code/2^cH m.nodes (ps.take i)=ci
 have hcile:ci<=code:=by rw [<-hci];exact Nat.div_le_self _ _
 refine au (aE m.nodes p) (fun k vs h'=>vs= [I (ci/2^(bL m.nodes p*k):Nat), .pointer (some ⟨b9,0,none⟩),out.v,I i,I (bL m.nodes p),s.v,I s.n,I i,I (aE m.nodes p:Nat),I k]/\
  rD h1 h' out ts ((sf m.nodes ps code i).set i (qe m.nodes p ci k))) ⟨by simp,?_⟩ ?_
 ·rw [<-hci,<-E7 hpi]
  have:(sf m.nodes ps code i).set i ((sf m.nodes ps code i).getD i [])=sf m.nodes ps code i:=by
   rw [List.getD_eq_getElem?_getD,List.getElem?_eq_getElem (by omega)];simp
  rw [this];exact hC
 clear hC hle f9' hri hob hcell ha hc han hpn c7 h2
 rintro q _ h2 next2 hq ⟨rfl,hC⟩ hnx2
 have hle:=Hp.le_trans hC.le (aW _ _)
 have f9':=hle _ _ f9
 have hdiv:ci/2^(bL m.nodes p*q)<=ci:=Nat.div_le_self _ _
 refine⟨_,_,_,out,_,_,s,_,_,_,_,rfl,?_⟩
 have hgs:((sf m.nodes ps code i).set i (qe m.nodes p ci q)).getD i []=qe m.nodes p ci q:=by
  rw [List.getD_eq_getElem?_getD,List.getElem?_set_self (by omega)];rfl
 by_cases hlq:q<aE m.nodes p
 rotate_left
 ·have hqe:q=aE m.nodes p:=by omega
  subst hqe
  refine aC (by simp) ?_
  rw [ay (by omega)]
  refine hnx hlt _ _ ⟨?_,?_⟩
  ·rw [nO hpi,Nat.pow_add,<-Nat.div_div_eq_div_mul,hci]
  ·rw [<-hci]at hC
   rw [<-Tt hpi];exact hC
 refine aM (by simp;omega) ?_
 obtain⟨bo',hoa',hob'⟩: ∃bo,out.a=some ⟨bo,0,none⟩/\h2 bo=some (.inl ⟨ts.map Sl.v,out.c*1,false⟩):=by
  rcases hC.buf.2.2 with ⟨_,h0,_⟩|h0
  ·omega
  ·exact h0
 have hcell':Hp.cell h2 bo' (0+Int.toNat (i:Int)*1)=some (Sl.v ⟨some ⟨bi,0,none⟩,aE m.nodes p,aE m.nodes p⟩):=by
  rw [ax hob',Nat.zero_add,Int.toNat_natCast,Nat.mul_one,List.getElem?_map,hti];rfl
 refine⟨bo',0,hoa',by omega,by omega,_,hcell',?_⟩
 refine dF (by omega) ⟨_,rfl,rfl,bi,0,rfl,by omega,by dsimp only;omega,?_⟩
 rw [ia (by omega),nF,jI (by omega),Nat.div_div_eq_div_mul,<-Nat.pow_add]
 refine hC.wr hti (by rw [List.length_set];omega) (by rw [hgs,yO (by omega)];exact hlq) fun h3 hC'=>?_
 rw [if_neg (by omega),ay (by omega)]
 refine hnx2 hlq _ _ ⟨by rw [Nat.mul_add,Nat.mul_one],?_⟩
 rw [hgs,List.set_set,JS hlq]at hC'
 exact hC'
theorem gw.sortc2 {h:Hp} {s:Sl} {l:List NodeP} (e:gw h s l) {p:Nat} (hp:p<l.length) (hok:bP l=true):
  ∃b o,s.a=some (Addr.mk b o none)/\(p:Int)<(s.n:Int)/\Hp.cell h b ((o+Int.toNat (p:Int)*9)+6)=some (I (ar l p).idx)/\Hp.cell h b (((o+Int.toNat (p:Int)*9)+6)+1)=some (I (bL l p))/\1<=bL l p/\bL l p<=16:=by
 obtain⟨b,o,h1,h2,h3,h4⟩:=e.sortc hp
 have:=bD.1 (tD hok hp)
 have hw:(ar l p).wid=((bL l p:Nat):Int):=by unfold bL;omega
 exact⟨b,o,h1,h2,h3,by rw [<-hw];exact h4,by unfold bL;omega,by unfold bL;omega⟩
theorem px {l:List NodeP} {p:Nat} (hok:bP l=true) (hp:p<l.length):dg ⟨(ar l p).idx,(bL l p:Nat)⟩=aE l p:=by
 have:=bD.1 (tD hok hp)
 have hw:((bL l p:Nat):Int)=(ar l p).wid:=by unfold bL;omega
 rw [hw];rfl
theorem adl (w k ci:Nat):(VL (nQ w k ci)).map I++ [I ((ci/2^(w*k)%2^w:Nat):Int)]=(VL (nQ w (k+1) ci)).map I:=by
 rw [nQ,ym,List.map_append];rfl
theorem fN {h:Hp} {M:MSl} {m:ah} {s:Sl} {ps:List Nat} {code:Nat} {R:Value->Hp->Prop} (hs:aO h M m) (hm:bT m) (hok:bP m.nodes=true) (hp:IntS h s (VL ps)) (hps: ∀p∈ps,p<m.nodes.length) (hpl:ps.length<=1048576)
  (hcode:code<=1048576) (hsum:cH m.nodes ps<=60) (k: ∀out h',h.le h'->IntSS h' out ((dP m.nodes ps code).map VL)->R (Sl.v out) h'):bM #[aQ M,s.v,I code] h R:=by
 apply Iu
 refine uf_ ?_
 have hn:=hs.nodes.len
 have hns:=hm.nodes
 have hsn:=hp.len
 rw [aX]at hsn
 refine aj fun b9 h1 hb9 l1 f9=>?_
 refine au ps.length (fun i vs h'=> ∃(ts:List Sl) (out:Sl),vs= [s.v,I code, .pointer (some ⟨b9,0,none⟩),out.v,I (cH m.nodes (ps.take i):Nat),I i]/\
  h.le (h'.offS out)/\(h'.offS out) b9=some (.inl ⟨aH M,5,false⟩)/\out.n=i/\ts.length=i/\Buf h' out 1 (ts.map Sl.v)/\
  (∀(j:Nat) (t:Sl),ts[j]?=some t->IntS (h'.offS out) t (VL ((dP m.nodes ps code).getD j []))))
  ⟨[],⟨none,0,0⟩,by simp [cH],l1,f9,rfl,rfl,fD _ _,fun j t ht=>by simp at ht⟩ ?_
 clear f9 l1 hb9 h1
 rintro i _ h3 next hi ⟨ts,out,rfl,l3,f9,hon,htl,hbuf,hts⟩ hnx
 have lo:=aW h3 out
 have f9':=lo _ _ f9
 have l3':=Hp.le_trans l3 lo
 have hsi:=IV m.nodes ps i
 refine⟨s,_,_,_,out,_,_,rfl,?_⟩
 by_cases hlt:i<ps.length
 rotate_left
 ·have hie:i=ps.length:=by omega
  subst hie
  refine aC (by simp;omega) (k out h3 l3' ⟨ts,by simp [j6];omega,hbuf.slc_of (by omega),fun j h1 h2=>?_⟩)
  have:=(hts j _ (List.getElem?_eq_getElem h1)).mono lo
  have hju:j<(dP m.nodes ps code).length:=by rw [j6];omega
  rw [List.getElem_map]
  rwa [List.getD_eq_getElem?_getD,List.getElem?_eq_getElem hju]at this
 refine aM (by simp;omega) ?_
 obtain⟨p,hpi⟩: ∃p,ps[i]?=some p:=⟨_,List.getElem?_eq_getElem hlt⟩
 have hpm:=hps p (List.mem_of_getElem? hpi)
 obtain⟨b,o,ha,hc⟩:=(hp.mono l3').get (iy hpi)
 refine⟨b,o,ha,by omega,by omega,?_⟩
 (refine aD ?_)
 refine⟨_,hc,?_⟩
 obtain⟨bn,on,han,hpn,c6,c7,w1,w16⟩:=(hs.mono l3').nodes.sortc2 hpm hok
 refine⟨bn,on,han,by omega,hpn,_,c6,_,c7,?_⟩
 have xb:=fT hc
 have xbn:=fT c6
 have xb9:=cf f9'
 refine aj fun b37 h4 hb37 l4 f37=>?_
 repeat' (((with_reducible apply mO);(assumption);(assumption)))
 (with_reducible apply cC);(exact f37);(exact l4);(exact hb37);(exact Nat.le_refl 2)
 intro h5 f37b kp l5
 clear f37 kp l4 h4
 refine aj fun b43 h6 hb43 l6 f43=>?_
 have n37:=fresh_ne hb43 f37b
 have hb43':=aF l5 hb43
 (with_reducible apply cC);(exact f43);(exact Hp.le_trans l5 l6);(exact hb43');(exact Nat.le_refl 1)
 intro h7 f43b kp l7
 have f37c:h7 b37=some (.inl ⟨[I (ar m.nodes p).idx,I (bL m.nodes p)],2,false⟩):=cB kp n37 (l6 _ _ f37b)
 have f43c:h7 b43=some (.inl ⟨[(⟨none,0,0⟩:Sl).v],1,false⟩):=f43b
 clear f43 f43b f37b kp l6 l5
 have hcl:=dl m.nodes p
 have hcm:=px hok hpm
 have hstep:=nO (l:=m.nodes) hpi
 have hsi1:=IV m.nodes ps (i+1)
 obtain⟨ci,hci⟩: ∃ci,ci=code/2^cH m.nodes (ps.take i):=⟨_,rfl⟩
 refine au (aE m.nodes p) (fun q vs h'=> ∃sl:Sl,vs= [s.v,I code, .pointer (some ⟨b9,0,none⟩),out.v,I (cH m.nodes (ps.take i)+bL m.nodes p*q:Nat),I i, .pointer (some ⟨b37,0,none⟩), .pointer (some ⟨b43,0,none⟩),I q]/\
  h3.le (h'.offS sl)/\(h'.offS sl) b37=some (.inl ⟨[I (ar m.nodes p).idx,I (bL m.nodes p)],2,false⟩)/\(h'.offS sl) b43=some (.inl ⟨[sl.v],1,false⟩)/\sl.n=q/\Buf h' sl 1 ((VL (nQ (bL m.nodes p) q ci)).map I))
  ⟨⟨none,0,0⟩,by simp,l7,f37c,f43c,rfl,fD _ _⟩ ?_
 clear f37c f43c l7 h7
 rintro q _ h7 next2 hq ⟨sl,rfl,l7,f37,f43,hsl,hbufl⟩ hnx2
 have los:=aW h7 sl
 have f37':=los _ _ f37
 have f43':=los _ _ f43
 refine⟨s,_,_,_,out,_,_,_,_,_,_,_,rfl,?_⟩
 repeat' (refine aD ?_)
 refine gH ⟨_,rfl,?_⟩
 rw [hcm]
 by_cases hlq:q<aE m.nodes p
 rotate_left
 ·have hqe:q=aE m.nodes p:=by omega
  subst hqe
  refine aC (by simp) ?_
  (refine aD ?_)
  refine aj fun b103 h8 hb103 l8 f103=>?_
  have l38:=Hp.le_trans l7 (Hp.le_trans los l8)
  have l38o:=bC out l38
  refine dG (hbuf.mono l38) (by omega) (by omega) (by omega) ⟨b103,0,rfl,aw f103⟩ (by simp) rfl ?_
  intro s' h10 hs'n hbuf' l10 _
  rw [ay (by omega)]
  have l310:=Hp.le_trans l38o l10
  have hbuf'':Buf h10 s' 1 ((ts++ [sl]).map Sl.v):=by rw [List.map_append];exact hbuf'
  have hval:IntS h8 sl (VL (nQ (bL m.nodes p) (aE m.nodes p) ci)):=SlC.mono l8 (hbufl.slc_of (by omega))
  rw [<-hstep]
  refine hnx hlt _ _ ⟨ts++ [sl],s',rfl,Hp.le_trans l3 l310,l310 _ _ f9,by omega,by simp;omega,hbuf'',fun j u hu=>?_⟩
  by_cases hj:j<i
  ·rw [List.getElem?_append_left (by omega)]at hu
   exact(hts j u hu).mono l310
  ·have hju:=get_lt hu
   simp at hju
   have hje:j=i:=by omega
   subst hje
   rw [List.getElem?_append_right (by omega),htl,Nat.sub_self]at hu
   simp at hu;subst hu
   rw [EX hpi,<-hci]
   exact(hval.offL (hbuf.mono l38)).mono l10
 refine aM (by simp;omega) ?_
 have hmul:bL m.nodes p*q<=bL m.nodes p*aE m.nodes p:=Nat.mul_le_mul_left _ hq
 have hmul2:bL m.nodes p*(q+1)<=bL m.nodes p*aE m.nodes p:=Nat.mul_le_mul_left _ hlq
 have hp16:=Br w16
 have hpp:=bQ (bL m.nodes p)
 refine ap (fun J=> ∀(sl':Sl) (h':Hp),h3.le (h'.offS sl')->(h'.offS sl') b37=some (.inl ⟨[I (ar m.nodes p).idx,I (bL m.nodes p)],2,false⟩)->(h'.offS sl') b43=some (.inl ⟨[sl'.v],1,false⟩)->sl'.n=q+1->
   Buf h' sl' 1 ((VL (nQ (bL m.nodes p) (q+1) ci)).map I)->J (cH m.nodes (ps.take i)+bL m.nodes p*(q+1):Nat) h') ?_ (fun J hJ=>?_)
 ·intro sl' h' g1 g2 g3 g4 g5
  rw [ay (by omega)]
  exact hnx2 hlq _ _ ⟨sl',rfl,g1,g2,g3,g4,g5⟩
 have xb60:=cf f37'
 have xb62:=cf f43'
 rw [cY (n:=cH m.nodes (ps.take i)+bL m.nodes p*q) (by omega)]
 repeat' (refine aD ?_)
 rw [cY (n:=bL m.nodes p) (by omega)]
 rw [jI (by omega),cw (by omega),eP]
 have hval:code/2^(cH m.nodes (ps.take i)+bL m.nodes p*q)=ci/2^(bL m.nodes p*q):=by
  rw [hci,Nat.div_div_eq_div_mul,<-Nat.pow_add]
 rw [hval]
 have app: ∀(K:Option Addr->Nat->Nat->Hp->Prop) (h8:Hp) (b75:Nat),h7.le h8->h8 b75=some (.inl ⟨[I ((ci/2^(bL m.nodes p*q)%2^bL m.nodes p:Nat):Int)],1,false⟩)->
   (∀(s':Sl) (h9:Hp),s'.n=q+1->h3.le (h9.offS s')->(h9.offS s') b37=some (.inl ⟨[I (ar m.nodes p).idx,I (bL m.nodes p)],2,false⟩)->(h9.offS s') b43=some (.inl ⟨[sl.v],1,false⟩)->Buf h9 s' 1 ((VL (nQ (bL m.nodes p) (q+1) ci)).map I)->K s'.a s'.n s'.c h9)->
   cy h8 sl.a sl.n sl.c (some ⟨b75,0,none⟩) 1 1 8 K:=by
  intro K h8 b75 l8 f75 hK
  have l78:=bC sl l8
  refine dG (hbufl.mono l8) (by omega) (by omega) (by omega) ⟨b75,0,rfl,aw f75⟩ (by simp) rfl ?_
  intro s' h9 hs'n hbuf' l9 _
  have l79:=Hp.le_trans l78 l9
  refine hK s' h9 (by omega) (Hp.le_trans l7 l79) (l79 _ _ f37) (l79 _ _ f43) ?_
  rw [<-adl];exact hbuf'
 have fin: ∀(s':Sl) (h9:Hp),s'.n=q+1->h3.le (h9.offS s')->(h9.offS s') b37=some (.inl ⟨[I (ar m.nodes p).idx,I (bL m.nodes p)],2,false⟩)->(h9.offS s') b43=some (.inl ⟨[sl.v],1,false⟩)->Buf h9 s' 1 ((VL (nQ (bL m.nodes p) (q+1) ci)).map I)->
   ∃(cs:List Value) (z:Nat),h9 b43=some (.inl ⟨cs,z,false⟩)/\0+1<=List.length cs/\cM (h9.row b43 (bX cs 0 [.slice s'.a s'.n s'.c]) z) fun h83=> ∃(x85:Int),Hp.cell h83 b37 (0+1)=some (I x85)/\(J (W (((cH m.nodes (ps.take i)+bL m.nodes p*q:Nat):Int)+x85)) h83):=by
  intro s' h9 g1 g2 g3 g4 g5
  (with_reducible apply xI);(exact g4);(exact g2);(exact hb43');(exact Nat.le_refl 1)
  intro h10 e43 kp l10 hbk
  have e37:(h10.offS s') b37=some (.inl ⟨[I (ar m.nodes p).idx,I (bL m.nodes p)],2,false⟩):=by rw [kp _ n37];exact g3
  refine⟨_,by rw [ax (aW _ _ _ _ e37)];rfl,?_⟩
  have:W (((cH m.nodes (ps.take i)+bL m.nodes p*q:Nat):Int)+((bL m.nodes p:Nat):Int))=((cH m.nodes (ps.take i)+bL m.nodes p*(q+1):Nat):Int):=by
   rw [cd (by omega) (by omega),Nat.mul_add,Nat.mul_one];omega
  rw [this]
  exact hJ s' h10 l10 e37 e43 g1 (hbk _ _ g5)
 constructor
 ·repeat' (refine aD ?_)
  rw [if_neg (by omega)]
  repeat' (refine aD ?_)
  rw [if_neg (by omega),if_neg (by omega)]
  refine aj fun b75 h8 hb75 l8 f75=>?_
  (((with_reducible apply mO);(assumption);(assumption)))
  exact app _ h8 b75 l8 f75 fun s' h9 g1 g2 g3 g4 g5=>fin s' h9 g1 g2 g3 g4 g5
 ·repeat' (refine aD ?_)
  rw [if_neg (by omega)]
  repeat' (refine aD ?_)
  rw [if_neg (by omega),if_neg (by omega)]
  refine aj fun b75 h8 hb75 l8 f75=>?_
  (((with_reducible apply mO);(assumption);(assumption)))
  exact app _ h8 b75 l8 f75 fun s' h9 g1 g2 g3 g4 g5=>fin s' h9 g1 g2 g3 g4 g5
theorem Kv {l:List NodeP} {ps:List Nat} {vs:List (List Nat)} {i p:Nat} (h:ps[i]?=some p) (hf:jQ l ps vs):
  dX l (ps.take (i+1)) (vs.take (i+1))=dX l (ps.take i) (vs.take i)+2^cH l (ps.take i)*gY (bL l p) (vs.getD i []):=by
 have hlt:=get_lt h
 have hl:=j9 hf
 rw [List.getElem?_eq_getElem hlt]at h
 rw [List.take_succ_eq_append_getElem hlt,List.take_succ_eq_append_getElem (show i<vs.length by omega),U2 (by rw [List.length_take,List.length_take];omega),Option.some.inj h]
 rw [List.getD_eq_getElem?_getD,List.getElem?_eq_getElem (show i<vs.length by omega)];rfl
theorem UR {w:Nat} {v:List Nat} {q:Nat} (h:q<v.length):gY w (v.take (q+1))=gY w (v.take q)+2^(w*q)*v.getD q 0:=by
 rw [List.take_succ_eq_append_getElem h,Ku,List.length_take,Nat.min_eq_left (by omega),List.getD_eq_getElem?_getD,List.getElem?_eq_getElem h];rfl
theorem yM {l:List NodeP} {ps:List Nat} {vs:List (List Nat)} {i p q:Nat} (h:ps[i]?=some p) (hf:jQ l ps vs) (hq:q<=aE l p):
  dX l (ps.take i) (vs.take i)+2^cH l (ps.take i)*gY (bL l p) ((vs.getD i []).take q)<2^(cH l (ps.take i)+bL l p*q):=by
 have h1:=yg (Yr hf i)
 have h2:=lM hf h
 have h3:=AQ (w:=bL l p) (xs:=(vs.getD i []).take q) fun x hx=>h2.2 x (List.mem_of_mem_take hx)
 rw [List.length_take,Nat.min_eq_left (by omega)]at h3
 rw [Nat.pow_add]
 have h4:=Nat.mul_le_mul_left (2^cH l (ps.take i)) (Nat.succ_le_of_lt h3)
 rw [Nat.succ_eq_add_one,Nat.mul_add,Nat.mul_one]at h4
 omega
theorem IntSS.getV {h:Hp} {s:Sl} {vs:List (List Nat)} (e:IntSS h s (vs.map VL)) {i:Nat} (hi:i<vs.length):
  ∃b o t,s.a=some (Addr.mk b o none)/\Hp.cell h b (o+i*1)=some (Sl.v t)/\IntS h t (VL (vs.getD i [])):=by
 obtain⟨b,o,t,h1,h2,h3⟩:=e.at (i:=i) (by rw [List.length_map];exact hi)
 refine⟨b,o,t,h1,by rw [Nat.mul_one];exact h2,?_⟩
 rw [List.getElem_map]at h3
 rwa [List.getD_eq_getElem?_getD,List.getElem?_eq_getElem hi]
theorem BV {l:List NodeP} {ps:List Nat} {i p q:Nat} (h:ps[i]?=some p) (hq:q<=aE l p):cH l (ps.take i)+bL l p*q<=cH l ps:=by
 have h1:=nO (l:=l) h
 have h2:=IV l ps (i+1)
 have h3:=Nat.mul_le_mul_left (bL l p) hq
 omega
theorem EZ {n:Nat} (h:n<=60):2^n<=1152921504606846976:=by
 have:=Nat.pow_le_pow_right (n:=2) (by omega) h
 simpa using this
theorem BL {l:List NodeP} {ps:List Nat} {vs:List (List Nat)} {i p q:Nat} (h:ps[i]?=some p) (hf:jQ l ps vs) (hq:q<aE l p):
  dX l (ps.take i) (vs.take i)+2^cH l (ps.take i)*gY (bL l p) ((vs.getD i []).take (q+1))=
   (dX l (ps.take i) (vs.take i)+2^cH l (ps.take i)*gY (bL l p) ((vs.getD i []).take q))+(vs.getD i []).getD q 0*2^(cH l (ps.take i)+bL l p*q):=by
 have h2:=lM hf h
 rw [UR (by omega),Nat.mul_add,Nat.add_assoc,<-Nat.mul_assoc,<-Nat.pow_add,Nat.mul_comm (2^(cH l (ps.take i)+bL l p*q))]
theorem qq {h:Hp} {M:MSl} {m:ah} {s t:Sl} {ps:List Nat} {vs:List (List Nat)} {R:Value->Hp->Prop} (hs:aO h M m) (hm:bT m) (hok:bP m.nodes=true) (hp:IntS h s (VL ps)) (hps: ∀p∈ps,p<m.nodes.length) (hpl:ps.length<=1048576)
  (hv:IntSS h t (vs.map VL)) (hf:jQ m.nodes ps vs) (hsum:cH m.nodes ps<=60) (k:R (I (dX m.nodes ps vs)) h):mg #[aQ M,s.v,t.v] h R:=by
 refine ACalls.drop (NF ?_)
 refine uf_ ?_
 have hn:=hs.nodes.len
 have hns:=hm.nodes
 have hsn:=hp.len
 rw [aX]at hsn
 have htn:=hv.len
 rw [List.length_map]at htn
 have hvl:=j9 hf
 have hsum60:=EZ hsum
 refine aj fun b9 h1 hb9 l1 f9=>?_
 refine au ps.length (fun i ws h'=>h'=h1/\ws= [s.v,t.v, .pointer (some ⟨b9,0,none⟩),I (dX m.nodes (ps.take i) (vs.take i):Nat),I (cH m.nodes (ps.take i):Nat),I i]) ⟨rfl,by simp [dX,cH]⟩ ?_
 rintro i _ _ next hi ⟨rfl,rfl⟩ hnx
 rename_i h1
 refine⟨s,t,_,_,_,_,_,rfl,?_⟩
 by_cases hlt:i<ps.length
 rotate_left
 ·have hie:i=ps.length:=by omega
  subst hie
  refine aC (by simp;omega) ⟨_,l1,?_⟩
  rw [List.take_of_length_le (Nat.le_refl _),List.take_of_length_le (by omega)];exact k
 refine aM (by simp;omega) ?_
 obtain⟨p,hpi⟩: ∃p,ps[i]?=some p:=⟨_,List.getElem?_eq_getElem hlt⟩
 have hpm:=hps p (List.mem_of_getElem? hpi)
 obtain⟨b,o,ha,hc⟩:=(hp.mono l1).get (iy hpi)
 refine⟨b,o,ha,by omega,by omega,?_⟩
 (refine aD ?_)
 refine⟨_,hc,?_⟩
 obtain⟨bn,on,han,hpn,c7,w1,w16⟩:=(hs.mono l1).nodes.widc hpm hok
 refine⟨bn,on,han,by omega,hpn,_,c7,?_⟩
 obtain⟨bt,ot,c,hta,htc,hcv⟩:=(hv.mono l1).getV (i:=i) (by omega)
 have hg:=lM hf hpi
 have hcn:=hcv.len
 rw [aX]at hcn
 have hcl:=dl m.nodes p
 refine au (aE m.nodes p) (fun q ws h'=>h'=h1/\ws= [s.v,t.v, .pointer (some ⟨b9,0,none⟩),I (dX m.nodes (ps.take i) (vs.take i)+2^cH m.nodes (ps.take i)*gY (bL m.nodes p) ((vs.getD i []).take q):Nat),
  I (cH m.nodes (ps.take i)+bL m.nodes p*q:Nat),I i,I (bL m.nodes p),I q]) ⟨rfl,by simp [gY]⟩ ?_
 rintro q _ _ next2 hq ⟨rfl,rfl⟩ hnx2
 rename_i h1
 refine⟨s,t,_,_,_,_,_,_,_,rfl,?_⟩
 refine⟨bt,ot,hta,by omega,by omega,c,htc,?_⟩
 by_cases hlq:q<aE m.nodes p
 rotate_left
 ·have hqe:q=aE m.nodes p:=by omega
  subst hqe
  refine aC (by simp;omega) ?_
  rw [ay (by omega)]
  refine hnx hlt _ _ ⟨rfl,?_⟩
  rw [Kv hpi hf,nO hpi,List.take_of_length_le (l:=vs.getD i []) (by omega)]
 refine aM (by simp;omega) ?_
 refine⟨bt,ot,hta,by omega,by omega,c,htc,?_⟩
 obtain⟨bc,oc,hca,hcc,hln⟩:=hcv.elt (i:=q) (by omega)
 refine⟨bc,oc,hca,by omega,by omega,_,hcc,?_⟩
 have hb1:=yM hpi hf (Nat.le_of_lt hlq)
 have hb2:=yM (q:=q+1) hpi hf hlq
 rw [BL hpi hf hlq]at hb2
 have hs1:=BV hpi (Nat.le_of_lt hlq)
 have hs2:=BV (q:=q+1) hpi hlq
 have hp1:=EZ (n:=cH m.nodes (ps.take i)+bL m.nodes p*(q+1)) (by omega)
 have hp2:=EZ (n:=cH m.nodes (ps.take i)+bL m.nodes p*q) (by omega)
 rw [cY (n:=cH m.nodes (ps.take i)+bL m.nodes p*q) (by omega),if_neg (by omega)]
 rw [jj (by omega) (by omega),<-Int.natCast_add,fW (by omega),<-BL hpi hf hlq,cd (n:=((cH m.nodes (ps.take i)+bL m.nodes p*q:Nat):Int)+(bL m.nodes p:Nat)) (by omega) (by omega),ay (by omega)]
 refine hnx2 hlq _ _ ⟨rfl,?_⟩
 rw [Nat.mul_add,Nat.mul_one,<-Nat.add_assoc,Int.natCast_add (cH m.nodes (ps.take i)+bL m.nodes p*q)]
structure Gs (m:ah) (v:List (List Nat)):Prop where
 len:v.length=m.nodes.length
 fit:zZ m.nodes m.nodes.length v
theorem dr {m:ah} (g:cr m) (s i:Nat):Gs m (bK m s i):=⟨Pj _ _ _,BX g s i⟩
theorem xR {m:ah} (g:cr m):Gs m (kH m):=⟨Pj _ _ _,Tp g (ew m.nodes (stP m)) (ew m.nodes (inP m))⟩
theorem II {m:ah} {v:List (List Nat)} (a:Gs m v) {p:Int} (h:da m.nodes p=true):0<=p/\p<v.length/\0<(v.getD p.toNat []).length/\aK v p<2:=by
 unfold da at h
 simp only [Bool.and_eq_true,decide_eq_true_eq]at h
 have hp:=et.1 h.1
 have hn:((p.toNat:Nat):Int)=p:=by omega
 have hf:=a.fit p.toNat (by omega) (by omega)
 rw [hn,h.2]at hf
 have:=hf.cell
 exact⟨hp.1,by rw [a.len];exact hp.2,hf.pos,by unfold aK;exact this⟩
theorem JP {h:Hp} {s:Sl} {v:List (List Nat)} {p:Int} {R:Value->Hp->Prop} (hpv:gO h s v) (h0:0<=p) (hp:p<v.length) (hne:0<(v.getD p.toNat []).length)
  (k:R (.bool (decide (aK v p=1))) h):uz #[s.v,I p] h R:=by
 apply QO
 refine uf_ ?_
 obtain⟨b,o,t,ha,hlt,hc,ht⟩:=hpv.at h0 hp
 refine⟨b,o,ha,h0,hlt,t,hc,?_⟩
 obtain⟨b2,o2,ha2,hc2,hl2⟩:=ht.elt hne
 refine⟨b2,o2,ha2,by omega,by omega,_,hc2,dL ?_ k⟩
 rw [Bool.eq_iff_iff,decide_eq_true_eq,beq_iff_eq]
 unfold aK;omega
theorem Kt {h:Hp} {M:MSl} {m:ah} {s:Sl} {v:List (List Nat)} {R:Value->Hp->Prop} (hs:aO h M m) (g:cr m) (hpv:gO h s v) (a:Gs m v)
  (k:R (.bool (iC m v)) h):ly #[aQ M,s.v] h R:=by
 refine ACalls.drop (D4 ?_)
 refine uf_ ?_
 refine aj fun b8 h1 hb8 l1 f8=>?_
 refine aj fun b10 h2 hb10 l2 f10=>?_
 replace f8:=l2 _ _ f8
 replace l2:=Hp.le_trans l1 l2
 (refine aD ?_)
 refine rz (fun p=> !decide (aK v p=1)) (hs.mono l2).holds (fun p hp R k=>?_) ⟨_,rfl,_,l2,dL ?_ k⟩
 ·obtain⟨h1,h2,h3,_⟩:=II a (g.hol p hp)
  apply Ai
  refine uf_ ?_
  (refine aD ?_)
  exact JP (hpv.mono l2) h1 h2 h3 ⟨_,rfl,k⟩
 ·rw [IQ,Bool.not_not];rfl
theorem LT {h:Hp} {M:MSl} {m:ah} {s:Sl} {v:List (List Nat)} {R:Value->Hp->Prop} (hs:aO h M m) (g:cr m) (hpv:gO h s v) (a:Gs m v)
  (k:R (I (xM m v)) h):kF #[aQ M,s.v] h R:=by
 refine ACalls.drop (FX ?_)
 refine uf_ ?_
 refine aj fun b8 h1 hb8 l1 f8=>?_
 refine aj fun b10 h2 hb10 l2 f10=>?_
 replace f8:=l2 _ _ f8
 replace l2:=Hp.le_trans l1 l2
 (refine aD ?_)
 refine vW (fun p=>decide (aK v p=1)) (hs.mono l2).bads (fun p hp R k=>?_) ⟨_,rfl,_,l2,tO ?_ k⟩
 ·obtain⟨h1,h2,h3,_⟩:=II a (g.bad p hp)
  apply Ci
  refine uf_ ?_
  (refine aD ?_)
  exact JP (hpv.mono l2) h1 h2 h3 ⟨_,rfl,k⟩
 ·unfold J8 xM uc
  cases List.findIdx? (fun p=>decide (aK v p=1)) m.bads<;>rfl
theorem Fc {h:Hp} {M:MSl} {m:ah} {s:Sl} {v:List (List Nat)} {R:Value->Hp->Prop} (hs:aO h M m) (g:cr m) (hpv:gO h s v) (a:Gs m v)
  (k:R (.bool (iC m v)) h):rf #[aQ M,s.v] h R:=by
 refine ACalls.drop (MC ?_)
 refine uf_ ?_
 have hhn:=hs.holds.len
 have hhl:=g.hl
 refine aj fun b8 h1 hb8 l1 f8=>?_
 refine au m.holds.length (fun i vs h'=>h'=h1/\vs= [s.v, .pointer (some ⟨b8,0,none⟩),I i]/\(m.holds.take i).all (fun p=>decide (aK v p=1))=true) ⟨rfl,rfl,rfl⟩ ?_
 rintro i _ _ next hi ⟨rfl,rfl,hall⟩ hnx
 rename_i h1
 refine⟨s,_,_,_,rfl,?_⟩
 repeat' (refine aD ?_)
 by_cases hlt:i<m.holds.length
 rotate_left
 ·refine aC (by simp;omega) ⟨_,l1,dL ?_ k⟩
  rw [List.take_of_length_le (by omega)]at hall
  exact hall.symm
 refine aM (by simp;omega) ?_
 obtain⟨p,hpi⟩: ∃p,m.holds[i]?=some p:=⟨_,List.getElem?_eq_getElem hlt⟩
 obtain⟨e0,e1,e2,e3⟩:=II a (g.hol p (List.mem_of_getElem? hpi))
 obtain⟨b,o,ha,hc⟩:=(hs.mono l1).holds.get hpi
 (refine aD ?_)
 refine⟨b,o,ha,by omega,by omega,_,hc,?_⟩
 obtain⟨b1,o1,t,ha1,hlt1,hc1,ht⟩:=(hpv.mono l1).at e0 e1
 refine⟨b1,o1,ha1,e0,hlt1,t,hc1,?_⟩
 obtain⟨b2,o2,ha2,hc2,hl2⟩:=ht.elt e2
 refine⟨b2,o2,ha2,by omega,by omega,_,hc2,?_⟩
 refine ad (fun e=>⟨_,l1,dL ?_ k⟩) (fun e=>?_)
 ·have e':=bZ e
  symm
  refine FY hpi ?_
  rw [decide_eq_false_iff_not]
  unfold aK;omega
 ·have e':=bA e
  rw [ay (by omega)]
  refine hnx hlt _ _ ⟨rfl,rfl,?_⟩
  rw [BP hpi,hall,Bool.true_and,decide_eq_true_eq]
  unfold aK at e3⊢;omega
theorem CQ {α:Type} {p:α->Bool} {xs:List α} {i:Nat} {x:α} (hx:xs[i]?=some x) (hp:p x=true) (h:(xs.take i).any p=false):xs.findIdx? p=some i:=by
 have hlt:=get_lt hx
 have he:xs[i]=x:=by rw [List.getElem?_eq_getElem hlt]at hx;exact Option.some.inj hx
 rw [List.findIdx?_eq_some_iff_getElem]
 refine⟨hlt,by rw [he];exact hp,fun j hj=>?_⟩
 rw [List.any_eq_false]at h
 have:=h xs[j] (by rw [List.mem_take_iff_getElem];exact⟨j,by omega,rfl⟩)
 simpa using this
theorem Hy {α:Type} {p:α->Bool} {xs:List α} (h:xs.any p=false):xs.findIdx? p=none:=by
 rw [List.findIdx?_eq_none_iff]
 rw [List.any_eq_false]at h
 intro x hx;simpa using h x hx
theorem OP {α:Type} {l:List α} {p:α->Bool} {i:Nat} {x:α} (hx:l[i]?=some x):(l.take (i+1)).any p=((l.take i).any p||p x):=by
 have hlt:=get_lt hx
 rw [List.getElem?_eq_getElem hlt]at hx
 rw [List.take_succ_eq_append_getElem hlt,List.any_append,Option.some.inj hx];simp
theorem LK {h:Hp} {M:MSl} {m:ah} {s:Sl} {v:List (List Nat)} {R:Value->Hp->Prop} (hs:aO h M m) (g:cr m) (hpv:gO h s v) (a:Gs m v)
  (k:R (I (xM m v)) h):ux #[aQ M,s.v] h R:=by
 refine ACalls.drop (Q0 ?_)
 refine uf_ ?_
 have hhn:=hs.bads.len
 have hhl:=g.bl
 refine aj fun b8 h1 hb8 l1 f8=>?_
 refine au m.bads.length (fun i vs h'=>h'=h1/\vs= [s.v, .pointer (some ⟨b8,0,none⟩),I i]/\(m.bads.take i).any (fun p=>decide (aK v p=1))=false) ⟨rfl,rfl,rfl⟩ ?_
 rintro i _ _ next hi ⟨rfl,rfl,hall⟩ hnx
 rename_i h1
 refine⟨s,_,_,_,rfl,?_⟩
 repeat' (refine aD ?_)
 by_cases hlt:i<m.bads.length
 rotate_left
 ·refine aC (by simp;omega) ⟨_,l1,tO ?_ k⟩
  rw [List.take_of_length_le (by omega)]at hall
  unfold xM uc
  rw [Hy hall]
 refine aM (by simp;omega) ?_
 obtain⟨p,hpi⟩: ∃p,m.bads[i]?=some p:=⟨_,List.getElem?_eq_getElem hlt⟩
 obtain⟨e0,e1,e2,e3⟩:=II a (g.bad p (List.mem_of_getElem? hpi))
 obtain⟨b,o,ha,hc⟩:=(hs.mono l1).bads.get hpi
 (refine aD ?_)
 refine⟨b,o,ha,by omega,by omega,_,hc,?_⟩
 obtain⟨b1,o1,t,ha1,hlt1,hc1,ht⟩:=(hpv.mono l1).at e0 e1
 refine⟨b1,o1,ha1,e0,hlt1,t,hc1,?_⟩
 obtain⟨b2,o2,ha2,hc2,hl2⟩:=ht.elt e2
 refine⟨b2,o2,ha2,by omega,by omega,_,hc2,?_⟩
 refine ad (fun e=>⟨_,l1,tO ?_ k⟩) (fun e=>?_)
 ·have e':=bZ e
  unfold xM uc
  rw [CQ hpi (by rw [decide_eq_true_eq];unfold aK;omega) hall]
 ·have e':=bA e
  rw [ay (by omega)]
  refine hnx hlt _ _ ⟨rfl,rfl,?_⟩
  rw [OP hpi,hall,Bool.false_or,decide_eq_false_iff_not]
  unfold aK;omega
def ic (binds:List BindP) (p:Nat):Int:=match bO binds p with|some k=>k|none=> -1
theorem rV (b:BindP) (r:List BindP) (p:Nat):bO (b::r) p=if b.state=(p:Int)then some b.node.toNat else bO r p:=by
 unfold bO
 rw [List.find?_cons]
 by_cases e:b.state=(p:Int)<;>simp [e]
theorem lj {h:Hp} {s:Sl} {binds:List BindP} {p:Nat} {R:Value->Hp->Prop} (hs:iA h s binds) (hl:binds.length<=1048576) (h0: ∀b∈binds,0<=b.node)
  (k:R (I (ic binds p)) h):gu #[s.v,I p] h R:=by
 apply Mj
 refine uf_ ?_
 have hn:=hs.len
 refine au binds.length (fun i vs h'=>h'=h/\vs= [s.v,I p,I i]/\bO (binds.drop i) p=bO binds p) ⟨rfl,rfl,rfl⟩ ?_
 rintro i _ _ next hi ⟨rfl,rfl,hall⟩ hnx
 rename_i h
 refine⟨s,_,_,rfl,?_⟩
 by_cases hlt:i<binds.length
 rotate_left
 ·refine aC (by simp;omega) (tO ?_ k)
  rw [List.drop_of_length_le (by omega)]at hall
  unfold ic
  rw [<-hall];rfl
 refine aM (by simp;omega) ?_
 obtain⟨x,hxi⟩: ∃x,binds[i]?=some x:=⟨_,List.getElem?_eq_getElem hlt⟩
 have hx0:=h0 x (List.mem_of_getElem? hxi)
 obtain⟨b,o,ha,c1,c2⟩:=hs.at hxi
 have hd:binds.drop i=x::binds.drop (i+1):=by
  rw [List.drop_eq_getElem_cons hlt]
  rw [List.getElem?_eq_getElem hlt]at hxi
  rw [Option.some.inj hxi]
 rw [hd,rV]at hall
 refine⟨b,o,ha,by omega,by omega,_,c1,?_⟩
 refine ad (fun e=>?_) (fun e=>?_)
 ·refine⟨b,o,ha,by omega,by omega,_,c2,tO ?_ k⟩
  rw [if_pos (bZ e)]at hall
  unfold ic
  rw [<-hall]
  show x.node=((x.node.toNat:Nat):Int)
  omega
 ·rw [ay (by omega)]
  rw [if_neg (bA e)]at hall
  exact hnx hlt _ _ ⟨rfl,rfl,hall⟩
theorem OQ (h:Hp) (s t:Sl):(h.offS s).offS t=(h.offS t).offS s:=by
 unfold Hp.offS
 cases s.a<;>cases t.a<;>first|rfl|exact abh _ _ _
theorem Buf.beside {h:Hp} {s t:Sl} {sz sz':Nat} {cs ds:List Value} (e:Buf h s sz cs) (f:Buf (h.offS s) t sz' ds):Buf (h.offS t) s sz cs:=by
 refine⟨e.1,e.2.1,e.2.2.imp id ?_⟩
 rintro ⟨b,hb,hbb⟩
 refine⟨b,hb,?_⟩
 rcases f.2.2 with ⟨h0,_⟩|⟨c,hc,hcc⟩
 ·unfold Hp.offS;rw [h0];exact hbb
 ·have hne:c≠b:=by
   rintro rfl
   simp only [Hp.offS,hb,ve]at hcc;cases hcc
  simp only [Hp.offS,hc,Hp.off,Hp.set]
  rw [if_neg (fun e=>hne e.symm)];exact hbb
theorem bV {m:ah} (g:cr m) (kind:Int): ∀p∈av m.nodes kind,p<m.nodes.length:=fun p hp=>lc hp
theorem dV (l:List NodeP) (kind:Int):(av l kind).length<=l.length:=by
 unfold av
 refine Nat.le_trans (List.length_filter_le _ _) ?_
 rw [List.length_range];omega
theorem GT {l:List NodeP} {ps:List Nat} {v:List Nat} (h:v∈ct l ps):v.length<=4:=by
 unfold ct at h
 obtain⟨p,_,rfl⟩:=List.mem_map.1 h
 rw [List.length_replicate];exact dl _ _
theorem yY {h:Hp} {M:MSl} {m:ah} {R:Value->Hp->Prop} (hs:aO h M m) (hm:bT m) (g:cr m)
  (k: ∀t h',h.le h'->t.n=m.nodes.length->gO h' t (kH m)->R (Sl.v t) h'):iG #[aQ M] h R:=by
 apply AH
 refine uf_ ?_
 have hp36:=dV m.nodes 36
 have hp35:=dV m.nodes 35
 have hns:=hm.nodes
 refine aj fun b7 h1 hb7 l1 f7=>?_
 have x7:=cf f7
 repeat' (refine aD ?_)
 refine dk (hs.mono l1) hm fun t1 h2 l2 p1=>⟨t1,rfl,?_⟩
 repeat' (((with_reducible apply mO);(assumption);(assumption)))
 have l12:=Hp.le_trans l1 l2
 refine nk (hs.mono l12) hm p1 (bV g 36) (by omega) fun o1 ts1 h3 c1 n1=>⟨o1,rfl,?_⟩
 have l23:=Hp.le_trans c1.le (aW _ _)
 have l13:=Hp.le_trans l2 l23
 repeat' (((with_reducible apply mO);(assumption);(assumption)))
 refine dk (hs.mono (Hp.le_trans l1 l13)) hm fun t2 h4 l4 p2=>⟨t2,rfl,?_⟩
 have l14:=Hp.le_trans l13 l4
 repeat' (((with_reducible apply mO);(assumption);(assumption)))
 refine nk (hs.mono (Hp.le_trans l1 l14)) hm p2 (bV g 35) (by omega) fun o2 ts2 h5 c2 n2=>⟨o2,rfl,?_⟩
 have l45:=Hp.le_trans c2.le (aW _ _)
 have l15:=Hp.le_trans l14 l45
 (((with_reducible apply mO);(assumption);(assumption)))
 have i1:IntSS h5 o1 ((ct m.nodes (stP m)).map VL):=(c1.ints (fun v hv=>by have:=GT hv;omega) (by omega)).mono (Hp.le_trans l4 l45)
 have i2:IntSS h5 o2 ((ct m.nodes (inP m)).map VL):=c2.ints (fun v hv=>by have:=GT hv;omega) (by omega)
 exact xX (hs.mono (Hp.le_trans l1 l15)) hm g.ok g.nl i1 c1.buf.2.1 (pE g.ok (ew _ _)) i2 c2.buf.2.1 (pE g.ok (ew _ _)) fun t h6 l6 hn hpv=>⟨t,rfl,k t h6 (Hp.le_trans l1 (Hp.le_trans l15 l6)) hn hpv⟩
theorem NO (l:List NodeP) (a b:List Nat):ct l (a++b)=ct l a++ct l b:=by simp [ct]
structure ZS (l:List NodeP) (g:Hp) (ps:List Nat) (ts:List Sl):Prop where
 len:ts.length=ps.length
 val: ∀(j:Nat) (t:Sl),ts[j]?=some t->IntS g t (VL ((ct l ps).getD j []))
theorem ZS.mono {l:List NodeP} {g g':Hp} {ps:List Nat} {ts:List Sl} (le:g.le g') (e:ZS l g ps ts):ZS l g' ps ts:=⟨e.len,fun j t h=>(e.val j t h).mono le⟩
theorem ZS.snoc {l:List NodeP} {g:Hp} {ps:List Nat} {ts:List Sl} {p:Nat} {t:Sl} (e:ZS l g ps ts) (h:IntS g t (VL (List.replicate (aE l p) 0))):ZS l g (ps++ [p]) (ts++ [t]):=by
 refine⟨by simp [e.len],fun j u hu=>?_⟩
 rw [NO]
 by_cases hj:j<ts.length
 ·rw [List.getElem?_append_left hj]at hu
  rw [ii (by rw [fy,<-e.len];exact hj)]
  exact e.val j u hu
 ·have hju:=get_lt hu
  simp at hju
  have hje:j=ts.length:=by omega
  subst hje
  rw [List.getElem?_append_right (Nat.le_refl _),Nat.sub_self]at hu
  simp at hu;subst hu
  rw [List.getD_eq_getElem?_getD,List.getElem?_append_right (by rw [fy,e.len];exact Nat.le_refl _),fy,e.len,Nat.sub_self]
  exact h
theorem ZS.ints {l:List NodeP} {g h:Hp} {ps:List Nat} {ts:List Sl} {s:Sl} (e:ZS l g ps ts) (le:g.le h) (hb:Buf h s 1 (ts.map Sl.v)) (hn:s.n<=1048576):IntSS h s ((ct l ps).map VL):=by
 refine⟨ts,by rw [List.length_map,fy];exact e.len,hb.slc_of (by omega),fun i h1 h2=>?_⟩
 have:=(e.val i _ (List.getElem?_eq_getElem h1)).mono le
 have hi:i<(ct l ps).length:=by rw [List.length_map]at h2;exact h2
 rw [List.getElem_map]
 rwa [List.getD_eq_getElem?_getD,List.getElem?_eq_getElem hi]at this
theorem HK {h:Hp} {M:MSl} {m:ah} {R:Value->Hp->Prop} (hs:aO h M m) (hm:bT m) (g:cr m)
  (k: ∀t h',h.le h'->t.n=m.nodes.length->gO h' t (kH m)->aee h t->R (Sl.v t) h'):mY #[aQ M] h R:=by
 apply KZ
 refine uf_ ?_
 have hn:=hs.nodes.len
 have hns:=hm.nodes
 refine aj fun b7 h1 hb7 l1 f7=>?_
 refine au m.nodes.length (fun i vs h'=> ∃(ts us:List Sl) (sS sI:Sl),vs= [.pointer (some ⟨b7,0,none⟩),sS.v,sI.v,I i]/\h.le ((h'.offS sS).offS sI)/\((h'.offS sS).offS sI) b7=some (.inl ⟨aH M,5,false⟩)/\
  Buf h' sS 1 (ts.map Sl.v)/\Buf (h'.offS sS) sI 1 (us.map Sl.v)/\ZS m.nodes ((h'.offS sS).offS sI) (av (m.nodes.take i) 36) ts/\ZS m.nodes ((h'.offS sS).offS sI) (av (m.nodes.take i) 35) us/\sS.n<=i/\sI.n<=i)
  ⟨[], [],⟨none,0,0⟩,⟨none,0,0⟩,rfl,l1,f7,fD _ _,fD _ _,⟨rfl,fun j t ht=>by simp at ht⟩,⟨rfl,fun j t ht=>by simp at ht⟩,Nat.le_refl _,Nat.le_refl _⟩ ?_
 clear f7 l1 hb7 h1
 rintro i _ h1 next hi ⟨ts,us,sS,sI,rfl,l1,f7,bS,bI,zS,zI,nS,nI⟩ hnx
 have lo:=Hp.le_trans (aW (h1.offS sS) sI) (aW h1 sS)
 have l1':=Hp.le_trans l1 lo
 have f7':=lo _ _ f7
 refine⟨_,_,sS,sI,_,rfl,?_⟩
 repeat' (refine aD ?_)
 by_cases hlt:i<m.nodes.length
 rotate_left
 ·have hie:i=m.nodes.length:=by omega
  subst hie
  refine aC (by simp;omega) ?_
  repeat' (refine aD ?_)
  rw [List.take_of_length_le (Nat.le_refl _)]at zS zI
  have i1:=zS.ints lo bS (by omega)
  have i2:=zI.ints lo (bI.mono (aW _ _)) (by omega)
  exact qd (hs.mono l1') hm g.ok g.nl i1 (pE g.ok (ew _ _)) i2 (pE g.ok (ew _ _)) fun t h6 l6 hn hpv pn=>⟨t,rfl,k t h6 (Hp.le_trans l1' l6) hn hpv fun b o e=>aF l1' (pn b o e)⟩
 refine aM (by simp;omega) ?_
 obtain⟨n,hni⟩: ∃n,m.nodes[i]?=some n:=⟨_,List.getElem?_eq_getElem hlt⟩
 (refine aD ?_)
 obtain⟨bn,on,han,e0,e1,e2,e3,e4,e5,e6,e7,e8⟩:=(hs.nodes.mono l1').at hni
 have hsa:ar m.nodes ((i:Nat):Int)=n.sort:=by unfold ar;rw [Int.toNat_natCast,hni]
 refine⟨bn,on,han,by omega,by omega,_,e6,_,e7,?_⟩
 refine gH ⟨_,rfl,?_⟩
 have hce:dg ⟨n.sort.idx,n.sort.wid⟩=aE m.nodes i:=by unfold aE;rw [hsa]
 rw [hce]
 have hc4:=dl m.nodes i
 refine⟨by omega,by omega,by omega,by omega,?_⟩
 refine aj fun b33 h2 hb33 l2 f33=>?_
 rw [Int.toNat_natCast,Nat.mul_one,cE]at f33
 refine aj fun b35 h3 hb35 l3 f35'=>?_
 have n33:=fresh_ne hb35 f33
 have b35n:=aF l2 hb35
 replace f33:=l3 _ _ f33
 (with_reducible apply cC);(exact f35');(exact Hp.le_trans l2 l3);(exact b35n);(exact Nat.le_refl 1)
 intro h4 f35 kp l4
 replace f33:=cB kp n33 f33
 have f35v:h4 b35=some (.inl ⟨[(⟨some ⟨b33,0,none⟩,aE m.nodes i,aE m.nodes i⟩:Sl).v],1,false⟩):=f35
 have hz4:IntS h4 ⟨some ⟨b33,0,none⟩,aE m.nodes i,aE m.nodes i⟩ (VL (List.replicate (aE m.nodes i) 0)):=by
  refine⟨by dsimp only;omega,by simp [aX], .inr ⟨b33,0,rfl,?_⟩⟩
  have hc:(VL (List.replicate (aE m.nodes i) 0)).map I=List.replicate (aE m.nodes i) (I 0):=by simp [VL]
  rw [hc];exact aw f33
 clear f35 f35' kp l2 l3 hb33 hb35 h2 h3
 have bS4:=bS.mono l4
 have bI4:=bI.mono (bC sS l4)
 have l4o:=bC sI (bC sS l4)
 have hz4o:IntS ((h4.offS sS).offS sI) ⟨some ⟨b33,0,none⟩,aE m.nodes i,aE m.nodes i⟩ (VL (List.replicate (aE m.nodes i) 0)):=(hz4.offL bS4).offL bI4
 have f35o:((h4.offS sS).offS sI) b35=some (.inl ⟨[(⟨some ⟨b33,0,none⟩,aE m.nodes i,aE m.nodes i⟩:Sl).v],1,false⟩):=by
  have d: ∀{s:Sl} {gg:Hp} {cs:List Value},gg.le h1->Buf gg s 1 cs-> ∀a,s.a=some a->a.block≠b35:=by
   intro s gg cs hg hb a ha e
   rcases hb.2.2 with ⟨h0,_⟩|⟨c,hc,hcb⟩
   ·rw [h0]at ha;cases ha
   ·rw [hc]at ha;cases ha
    subst e
    have:=hg _ _ hcb
    rw [b35n]at this;cases this
  rw [zR (d (aW _ _) bI),zR (d (Hp.le_refl _) bS)];exact f35v
 have hp36:=ja (kind:=36) hni
 have hp35:=ja (kind:=35) hni
 have f7'':=l4 _ _ f7'
 repeat' (refine aD ?_)
 refine⟨bn,on,han,by omega,by omega,_,l4.cell e0,?_⟩
 refine ap (fun J=> ∀(sS':Sl) (ts':List Sl) (h5:Hp),((h4.offS sS).offS sI).le ((h5.offS sS').offS sI)->Buf h5 sS' 1 (ts'.map Sl.v)->Buf (h5.offS sS') sI 1 (us.map Sl.v)->ZS m.nodes ((h5.offS sS').offS sI) (av (m.nodes.take (i+1)) 36) ts'->sS'.n<=i+1->J sS' h5) ?_ (fun J hJ=>?_)
 ·intro sS' ts' h5 l5 bS5 bI5 zS5 nS5
  have lo5:=Hp.le_trans (aW (h5.offS sS') sI) (aW h5 sS')
  have l15:=Hp.le_trans l4o l5
  have g7:=lo5 _ _ (l5 _ _ (l4o _ _ f7))
  have g35:=lo5 _ _ (l5 _ _ f35o)
  have e0':=(Hp.le_trans (Hp.le_trans l1 l15) lo5)
  obtain⟨bn',on',han',q0,_⟩:=(hs.nodes.mono e0').at hni
  (refine aD ?_)
  refine⟨bn',on',han',by omega,by omega,_,q0,?_⟩
  refine ad (fun e=>?_) (fun e=>?_)
  ·rw [if_pos (bZ e)]at hp35
   (refine aD ?_)
   refine aj fun b63 h6 hb63 l6 f63=>?_
   have l6o:=bC sS' l6
   have l6o2:=bC sI (bC sS' l6)
   have bS6:=bS5.mono l6
   have bI6:=bI5.mono l6o
   have bS6':=bS6.beside bI6
   refine dG (bI5.mono (Hp.le_trans l6o (aW _ _))) (by omega) (by omega) (by omega) ⟨b63,0,rfl,aw f63⟩ (by simp) rfl ?_
   intro s' h7 hs'n hbuf' l7 _
   rw [ay (by omega)]
   have bS7:Buf (h7.offS s') sS' 1 (ts'.map Sl.v):=bS6'.mono l7
   have bI7:Buf (h7.offS sS') s' 1 ((us++ [(⟨some ⟨b33,0,none⟩,aE m.nodes i,aE m.nodes i⟩:Sl)]).map Sl.v):=by
    rw [List.map_append];exact hbuf'.beside bS7
   have l57:((h5.offS sS').offS sI).le ((h7.offS sS').offS s'):=by
    have:=Hp.le_trans l6o2 (show ((h6.offS sS').offS sI).le ((h7.offS sS').offS s') by
     rw [OQ h6,OQ h7];exact bC sS' l7)
    exact this
   have l17:=Hp.le_trans l15 l57
   refine hnx hlt _ _ ⟨ts',_,sS',s',rfl,Hp.le_trans l1 l17,l17 _ _ f7,bS7.mono (aW _ _),bI7,zS5.mono l57,?_,nS5,by omega⟩
   rw [hp35]
   exact(zI.mono l17).snoc (hz4o.mono (Hp.le_trans l5 l57))
  ·rw [if_neg (bA e),List.append_nil]at hp35
   rw [ay (by omega)]
   refine hnx hlt _ _ ⟨ts',us,sS',sI,rfl,Hp.le_trans l1 l15,l15 _ _ f7,bS5,bI5,zS5,?_,nS5,by omega⟩
   rw [hp35];exact zI.mono l15
 ·refine ad (fun e=>?_) (fun e=>?_)
  ·rw [if_pos (bZ e)]at hp36
   have f35c:=(Hp.le_trans (aW (h4.offS sS) sI) (aW h4 sS)) _ _ f35o
   (refine aD ?_)
   refine aj fun b48 h6 hb48 l6 f48=>?_
   have l6o:=bC sS l6
   have l6o2:=bC sI l6o
   refine dG (bS4.mono l6) (by omega) (by omega) (by omega) ⟨b48,0,rfl,aw f48⟩ (by simp) rfl ?_
   intro s' h7 hs'n hbuf' l7 _
   have l47:=Hp.le_trans l6o2 (bC sI l7)
   have bI7:Buf (h7.offS s') sI 1 (us.map Sl.v):=bI4.mono (Hp.le_trans l6o l7)
   refine hJ s' (ts++ [(⟨some ⟨b33,0,none⟩,aE m.nodes i,aE m.nodes i⟩:Sl)]) h7 l47 (by rw [List.map_append];exact hbuf') bI7 ?_ (by omega)
   rw [hp36]
   exact(zS.mono (Hp.le_trans l4o l47)).snoc (hz4o.mono l47)
  ·rw [if_neg (bA e),List.append_nil]at hp36
   refine hJ sS ts h4 (Hp.le_refl _) bS4 bI4 ?_ (by omega)
   rw [hp36];exact zS.mono l4o
theorem Q8 {h:Hp} {M:MSl} {m:ah} {R:Value->Hp->Prop} (hs:aO h M m) (hm:bT m) (g:cr m)
  (k: ∀t h',h.le h'->t.n=m.nodes.length->gO h' t (kH m)->R (Sl.v t) h'):mY #[aQ M] h R:=
 HK hs hm g fun t h' l hn hpv _=>k t h' l hn hpv
theorem Buf.fresh_ne {h:Hp} {s:Sl} {sz b:Nat} {cs:List Value} (e:Buf h s sz cs) (hb:h b=none): ∀a,s.a=some a->a.block≠b:=by
 intro a ha hab
 rcases e.2.2 with ⟨h0,_⟩|⟨c,hc,hcb⟩
 ·rw [h0]at ha;cases ha
 ·rw [hc]at ha;cases ha
  subst hab
  rw [hb]at hcb;cases hcb
theorem Buf.offS_new {h h':Hp} {s:Sl} {sz b:Nat} {cs:List Value} {x:Blk} (e:Buf h s sz cs) (hb:h b=none) (f:h' b=some x):(h'.offS s) b=some x:=by
 rw [zR (e.fresh_ne hb)];exact f
theorem Buf.sub_le {h h':Hp} {s:Sl} {sz:Nat} {cs:List Value} (e:Buf (h'.sub h) s sz cs) (l:h.le h'):h.le (h'.offS s):=by
 unfold Hp.offS
 rcases e.2.2 with ⟨h0,_⟩|⟨b,ha,hb⟩
 ·rw [h0];exact l
 ·rw [ha]
  refine zC ?_ l
  cases hx:h b with
  |none=>rfl
  |some x=>rw [mK hx]at hb;cases hb
theorem Buf.sub_buf {h h':Hp} {s:Sl} {sz:Nat} {cs:List Value} (e:Buf (h'.sub h) s sz cs):Buf h' s sz cs:=e.mono (Go.Lead.sub_le _ _)
theorem Buf.wr {h:Hp} {out x:Sl} {ts:List Sl} {q:Nat} {P:Hp->Prop} (e:Buf h out 1 (ts.map Sl.v)) (hq:q<ts.length)
  (k: ∀h',Buf h' out 1 ((ts.set q x).map Sl.v)->h'.offS out=h.offS out->P h'):
  ∃b o:Nat,out.a=some (Addr.mk b o none)/\(0:Int)<=(q:Int)/\(q:Int)<((out.n:Nat):Int)/\
   ∃(cs:List Value) (z:Nat),h b=some (.inl ⟨cs,z,false⟩)/\(o+Int.toNat (q:Int)*1)+1<=List.length cs/\cM (h.row b (bX cs (o+Int.toNat (q:Int)*1) [x.v]) z) P:=by
 have hl:=e.1
 rw [List.length_map]at hl
 rcases e.2.2 with ⟨_,h0,_⟩|⟨b,ha,hb⟩
 ·omega
 ·refine⟨b,0,ha,by omega,by omega,_,_,hb,by rw [List.length_map,Int.toNat_natCast];omega,?_⟩
  rw [VR]
  refine k _ ⟨by rw [List.length_map,List.length_set];omega,e.2.1, .inr ⟨b,ha,?_⟩⟩ ?_
  ·rw [bU,bG,Int.toNat_natCast,Nat.zero_add,Nat.mul_one,List.map_set]
  ·unfold Hp.offS;rw [ha];exact zE _ _ _ _
theorem RN (v:List Nat) (i x:Nat):(VL (v++List.replicate i x)).map I++ [I (x:Int)]=(VL (v++List.replicate (i+1) x)).map I:=by
 rw [List.replicate_succ',<-List.append_assoc,ym (v++List.replicate i x),List.map_append];rfl
theorem wW {h:Hp} {s:Sl} {v:List Nat} {i w:Int} {R:Value->Hp->Prop} (hs:IntS h s (VL v)) (h0:0<v.length) (hl:v.length<=4)
  (k: ∀t h',h.le h'->IntS h' t (VL (kQ (dg ⟨i,w⟩) v))->R (.agg #[Sl.v t]) h'):mn #[.agg #[I i,I w], .agg #[s.v]] h R:=by
 apply MR
 refine uf_ ?_
 refine aj fun b5 h1 hb5 l1 f5=>?_
 refine aj fun b7 h2 hb7 l2 f7=>?_
 replace f5:=l2 _ _ f5
 have l02:=Hp.le_trans l1 l2
 have b7n:=aF l1 hb7
 refine aj fun b9 h3 hb9 l3 f9=>?_
 have n59:=fresh_ne hb9 f5
 have n79:=fresh_ne hb9 f7
 have b9n:=aF l02 hb9
 replace f5:=l3 _ _ f5
 replace f7:=l3 _ _ f7
 have l03:=Hp.le_trans l02 l3
 (refine aD ?_)
 refine kO (hs.mono l03) (by rw [aX];omega) fun c h4 l4 hb4=>⟨c,rfl,?_⟩
 have l4o:=hb4.sub_le l4
 have hb4':=hb4.sub_buf
 refine aj fun b16 h5 hb16 l5 f16'=>?_
 have b16n:=aF l4 hb16
 have l5o:=Hp.le_trans l4o (bC c l5)
 have f16o:=hb4'.offS_new hb16 f16'
 (with_reducible apply xI);(exact f16o);(exact l5o);(exact b16n);(exact Nat.le_refl 1)
 intro h6 f16 kp l6 hbk
 have hbuf:=hbk _ _ (hb4'.mono l5)
 have hcn:=hbuf.1
 rw [List.length_map,aX]at hcn
 have hc4:=zU ⟨i,w⟩
 refine au (dg ⟨i,w⟩-v.length) (fun q vs h'=> ∃sl:Sl,vs= [.pointer (some ⟨b5,0,none⟩), .pointer (some ⟨b7,0,none⟩), .pointer (some ⟨b9,0,none⟩), .pointer (some ⟨b16,0,none⟩)]/\h3.le (h'.offS sl)/\
  (h'.offS sl) b16=some (.inl ⟨[sl.v],1,false⟩)/\sl.n=v.length+q/\Buf h' sl 1 ((VL (v++List.replicate q (v.getD 0 0))).map I)) ⟨c,rfl,l6,f16,by omega,by simpa using hbuf⟩ ?_
 clear hbuf hbk kp l6 f16 f16o l5o f16' l5 hb16 hb4' l4o hb4 l4 hcn h4 h5 h6
 rintro q _ h4 next hq ⟨sl,rfl,l4,f16,hsl,hbuf⟩ hnx
 have lo:=aW h4 sl
 have l4':=Hp.le_trans l4 lo
 have g5:=l4' _ _ f5
 have g7:=l4' _ _ f7
 have g16:=lo _ _ f16
 refine⟨_,_,_,_,_,_,_,_,rfl,?_⟩
 repeat' (refine aD ?_)
 refine oK ⟨_,rfl,rfl,?_⟩
 by_cases hlt:q<dg ⟨i,w⟩-v.length
 ·refine aM (by simp;omega) ?_
  repeat' (refine aD ?_)
  obtain⟨b,o,ha,hc,hln⟩:=((hs.mono l03).mono l4').elt (i:=0) h0
  refine⟨b,o,ha,by omega,by omega,_,hc,?_⟩
  have x16:=cf g16
  refine aj fun b48 h5 hb48 l5 f48=>?_
  (((with_reducible apply mO);(assumption);(assumption)))
  have l5o:=bC sl l5
  refine dG (hbuf.mono l5) (by omega) (by omega) (by omega) ⟨b48,0,rfl,aw f48⟩ (by simp) rfl ?_
  intro s' h6 hs'n hbuf' l6 _
  have l46:=Hp.le_trans l5o l6
  (with_reducible apply xI);(exact l46 _ _ f16);(exact Hp.le_trans l4 l46);(exact b16n);(exact Nat.le_refl 1)
  intro h7 e16 kp l7 hbk
  refine hnx hlt _ _ ⟨s',rfl,l7,e16,by omega,hbk _ _ ?_⟩
  rw [<-RN];exact hbuf'
 ·have hqe:q=dg ⟨i,w⟩-v.length:=by omega
  subst hqe
  refine aC (by simp;omega) ?_
  repeat' (refine aD ?_)
  have f9o:(h4.offS sl) b9=some (.inl ⟨[.slice none 0 0],1,false⟩):=l4 _ _ f9
  (with_reducible apply xI);(exact f9o);(exact Hp.le_trans l03 l4);(exact b9n);(exact Nat.le_refl 1)
  intro h7 e9 kp l7 hbk
  have e9':=aW _ _ _ _ e9
  refine⟨sl,by rw [ax e9'];rfl,k sl h7 (Hp.le_trans l7 (aW _ _)) ((hbk _ _ hbuf).slc_of (by omega))⟩
theorem Hw {h:Hp} {s:Sl} {v:List Nat} {c:Nat} {R:Value->Hp->Prop} (hs:IntS h s (VL v)) (h0:0<v.length) (hl:v.length<=4) (hc4:c<=4)
  (k: ∀t h',h.le h'->IntS h' t (VL (kQ c v))->R (.agg #[Sl.v t]) h'):sr #[.agg #[s.v],I c] h R:=by
 apply M8
 refine uf_ ?_
 refine aj fun b7 h2 hb7 l2 f7=>?_
 refine aj fun b9 h3 hb9 l3 f9=>?_
 have n79:=fresh_ne hb9 f7
 have b9n:=aF l2 hb9
 replace f7:=l3 _ _ f7
 have l03:=Hp.le_trans l2 l3
 (refine aD ?_)
 refine ql (hs.mono l03) (by rw [aX];omega) fun c0 h4 l4 hb4=>⟨c0,rfl,?_⟩
 have l4o:=hb4.sub_le l4
 have hb4':=hb4.sub_buf
 refine aj fun b16 h5 hb16 l5 f16'=>?_
 have b16n:=aF l4 hb16
 have l5o:=Hp.le_trans l4o (bC c0 l5)
 have f16o:=hb4'.offS_new hb16 f16'
 (with_reducible apply xI);(exact f16o);(exact l5o);(exact b16n);(exact Nat.le_refl 1)
 intro h6 f16 kp l6 hbk
 have hbuf:=hbk _ _ (hb4'.mono l5)
 have hcn:=hbuf.1
 rw [List.length_map,aX]at hcn
 refine au (c-v.length) (fun q vs h'=> ∃sl:Sl,vs= [I c, .pointer (some ⟨b7,0,none⟩), .pointer (some ⟨b9,0,none⟩), .pointer (some ⟨b16,0,none⟩)]/\h3.le (h'.offS sl)/\
  (h'.offS sl) b16=some (.inl ⟨[sl.v],1,false⟩)/\sl.n=v.length+q/\Buf h' sl 1 ((VL (v++List.replicate q (v.getD 0 0))).map I)) ⟨c0,rfl,l6,f16,by omega,by simpa using hbuf⟩ ?_
 clear hbuf hbk kp l6 f16 f16o l5o f16' l5 hb16 hb4' l4o hb4 l4 hcn h4 h5 h6
 rintro q _ h4 next hq ⟨sl,rfl,l4,f16,hsl,hbuf⟩ hnx
 have lo:=aW h4 sl
 have l4':=Hp.le_trans l4 lo
 have g7:=l4' _ _ f7
 have g16:=lo _ _ f16
 refine⟨_,_,_,_,_,_,_,rfl,?_⟩
 (refine aD ?_)
 by_cases hlt:q<c-v.length
 ·refine aM (by simp;omega) ?_
  repeat' (refine aD ?_)
  obtain⟨b,o,ha,hc,hln⟩:=((hs.mono l03).mono l4').elt (i:=0) h0
  refine⟨b,o,ha,by omega,by omega,_,hc,?_⟩
  have x16:=cf g16
  refine aj fun b48 h5 hb48 l5 f48=>?_
  (((with_reducible apply mO);(assumption);(assumption)))
  have l5o:=bC sl l5
  refine dG (hbuf.mono l5) (by omega) (by omega) (by omega) ⟨b48,0,rfl,aw f48⟩ (by simp) rfl ?_
  intro s' h6 hs'n hbuf' l6 _
  have l46:=Hp.le_trans l5o l6
  (with_reducible apply xI);(exact l46 _ _ f16);(exact Hp.le_trans l4 l46);(exact b16n);(exact Nat.le_refl 1)
  intro h7 e16 kp l7 hbk
  refine hnx hlt _ _ ⟨s',rfl,l7,e16,by omega,hbk _ _ ?_⟩
  rw [<-RN];exact hbuf'
 ·have hqe:q=c-v.length:=by omega
  subst hqe
  refine aC (by simp;omega) ?_
  repeat' (refine aD ?_)
  have f9o:(h4.offS sl) b9=some (.inl ⟨[.slice none 0 0],1,false⟩):=l4 _ _ f9
  (with_reducible apply xI);(exact f9o);(exact Hp.le_trans l03 l4);(exact b9n);(exact Nat.le_refl 1)
  intro h7 e9 kp l7 hbk
  have e9':=aW _ _ _ _ e9
  refine⟨sl,by rw [ax e9'];rfl,k sl h7 (Hp.le_trans l7 (aW _ _)) ((hbk _ _ hbuf).slc_of (by omega))⟩
def D0 (m:ah) (v:List (List Nat)) (j p:Nat):List Nat:=((bO (m.nexts.take j) p).map fun k=>v.getD k []).getD (List.replicate (aE m.nodes p) 0)
theorem RO (m:ah) (v:List (List Nat)) (p:Nat):D0 m v m.nexts.length p=(gt m v p).getD (List.replicate (aE m.nodes p) 0):=by
 unfold D0 gt;rw [List.take_length]
theorem Lc (m:ah) (v:List (List Nat)) {i p:Nat} (h:(stP m)[i]?=some p):(eh m v).getD i []=D0 m v m.nexts.length p:=by
 rw [RO]
 unfold eh mA
 rw [List.getD_eq_getElem?_getD,List.getElem?_map,h];rfl
theorem ge {m:ah} (g:cr m) (kind:Int):(av m.nodes kind).length<=1048576:=by have:=dV m.nodes kind;have:=g.nl;omega
theorem KH {m:ah} (g:cr m) {p k:Nat} (h:bO m.nexts p=some k):k<m.nodes.length:=by
 obtain⟨b,hb,_,rfl⟩:=dW h
 have:=et.1 (dn (g.nex b hb)).2.1
 omega
def mZ (m:ah) (s i:Nat):Nat:=dX m.nodes (stP m) (eh m (bK m s i))
theorem jR {m:ah} (kind:Int) (code:Nat) (g:cr m):kZ m.nodes kind (dP m.nodes (av m.nodes kind) code):=JC g.ok kind code
theorem wP {h:Hp} {M:MSl} {m:ah} {st inp:Nat} {R:Value->Hp->Prop} (hs:aO h M m) (hm:bT m) (g:cr m) (h1:st<=1048576) (h2:inp<=1048576)
  (k:R (I (mZ m st inp)) h):pd #[aQ M,I st,I inp] h R:=by
 refine ACalls.drop (Ns ?_)
 refine uf_ ?_
 have hp36:(stP m).length<=m.nodes.length:=dV m.nodes 36
 have hp35:(inP m).length<=m.nodes.length:=dV m.nodes 35
 have hnl:=g.nl
 have hn8:=g.n8
 have hk5:=g.k5
 have hxl:=g.xl
 refine aj fun b9 g1 hb9 l1 f9=>?_
 have x9:=cf f9
 repeat' (refine aD ?_)
 refine cJ (hs.mono l1) hm fun p1 g2 l2 i1=>⟨p1,rfl,?_⟩
 have f92:=l2 _ _ f9
 have x92:=cf f92
 repeat' (refine aD ?_)
 have l02:=Hp.le_trans l1 l2
 refine fN (hs.mono l02) hm g.ok i1 (bV g 36) (ge g 36) h1 (by rw [eM g];omega) fun u1 g3 l3 hu1=>⟨u1,rfl,?_⟩
 repeat' (((with_reducible apply mO);(assumption);(assumption)))
 have l03:=Hp.le_trans l02 l3
 refine cJ (hs.mono l03) hm fun p2 g4 l4 i2=>⟨p2,rfl,?_⟩
 have l24:=Hp.le_trans l3 l4
 repeat' (((with_reducible apply mO);(assumption);(assumption)))
 have l04:=Hp.le_trans l03 l4
 refine fN (hs.mono l04) hm g.ok i2 (bV g 35) (ge g 35) h2 (by rw [wH g];omega) fun u2 g5 l5 hu2=>⟨u2,rfl,?_⟩
 have l25:=Hp.le_trans l24 l5
 (((with_reducible apply mO);(assumption);(assumption)))
 have l05:=Hp.le_trans l04 l5
 refine qd (hs.mono l05) hm g.ok g.nl (hu1.mono (Hp.le_trans l4 l5)) (jR 36 st g) hu2 (jR 35 inp g) fun vt g6 l6 hvn hpv _=>⟨vt,rfl,?_⟩
 have a:Gs m (bK m st inp):=dr g st inp
 have hpv':gO g6 vt (bK m st inp):=hpv
 have hbn: ∀b∈m.nexts,0<=b.node:=fun b hb=>(et.1 (dn (g.nex b hb)).2.1).1
 have l06:=Hp.le_trans l05 l6
 have f96:=l6 _ _ (l25 _ _ f92)
 have i16:=i1.mono (Hp.le_trans l25 l6)
 have hpn:p1.n=(stP m).length:=by have:=i1.len;rw [aX]at this;exact this
 unfold mZ at k
 generalize bK m st inp=v at*
 have hs6:=hs.mono l06
 refine au (stP m).length (fun i vs h'=> ∃(ts:List Sl) (out:Sl),vs= [.pointer (some ⟨b9,0,none⟩),p1.v,vt.v,out.v,I i]/\g6.le (h'.offS out)/\out.n=i/\ts.length=i/\Buf h' out 1 (ts.map Sl.v)/\
  (∀(j:Nat) (t:Sl),ts[j]?=some t->IntS (h'.offS out) t (VL ((eh m v).getD j [])))) ⟨[],⟨none,0,0⟩,rfl,Hp.le_refl _,rfl,rfl,fD _ _,fun j t ht=>by simp at ht⟩ ?_
 rintro i _ h3 next hi ⟨ts,out,rfl,l3',hon,htl,hbuf,hts⟩ hnx
 have lo:=aW h3 out
 have l63:=Hp.le_trans l3' lo
 have f93:=l63 _ _ f96
 refine⟨_,_,p1,vt,out,_,rfl,?_⟩
 by_cases hlt:i<(stP m).length
 rotate_left
 ·have hie:i=(stP m).length:=by omega
  subst hie
  refine aC (by simp;omega) ?_
  repeat' (refine aD ?_)
  have hfl:(eh m v).length=(stP m).length:=by unfold eh mA;simp
  have iss:IntSS h3 out ((eh m v).map VL):=⟨ts,by simp;omega,hbuf.slc_of (by omega),fun j h1 h2=>by
   have:=(hts j _ (List.getElem?_eq_getElem h1)).mono lo
   rw [List.getElem_map]
   rwa [List.getD_eq_getElem?_getD,List.getElem?_eq_getElem (by rw [hfl];omega)]at this⟩
  exact qq (hs6.mono l63) hm g.ok (i16.mono l63) (bV g 36) (ge g 36) iss (jL g a.fit) (by rw [eM g];omega) ⟨_,rfl,_,Hp.le_trans l06 l63,k⟩
 refine aM (by simp;omega) ?_
 obtain⟨p,hpi⟩: ∃p,(stP m)[i]?=some p:=⟨_,List.getElem?_eq_getElem hlt⟩
 have hpm:=bV g 36 p (List.mem_of_getElem? hpi)
 obtain⟨bp,op,hap,hcp⟩:=(i16.mono l63).get (iy hpi)
 refine⟨bp,op,hap,by omega,by omega,?_⟩
 (refine aD ?_)
 refine⟨_,hcp,?_⟩
 refine lj (hs6.mono l63).nexts (by omega) hbn ⟨_,rfl,?_⟩
 have hfg:=Lc m v hpi
 rw [RO]at hfg
 have app: ∀(t:Sl) (h4:Hp),h3.le h4->IntS h4 t (VL ((eh m v).getD i []))-> ∀(b:Nat),h4 b=none->cM (h4.row b [t.v] 1) fun h5=>cy h5 out.a out.n out.c (some ⟨b,0,none⟩) 1 1 24 fun a n k h6=>next [.pointer (some ⟨b9,0,none⟩),p1.v,vt.v, .slice a n k,I (W ((i:Int)+1))] h6:=by
  intro t h4 l4' ht
  refine aj fun b h5 hb l5' f5=>?_
  have l35:=Hp.le_trans l4' l5'
  have l35o:=bC out l35
  refine dG (hbuf.mono l35) (by omega) (by omega) (by omega) ⟨b,0,rfl,aw f5⟩ (by simp) rfl ?_
  intro s' h6 hs'n hbuf' l6' _
  rw [ay (by omega)]
  have l36:=Hp.le_trans l35o l6'
  have hbuf'':Buf h6 s' 1 ((ts++ [t]).map Sl.v):=by rw [List.map_append];exact hbuf'
  refine hnx hlt _ _ ⟨ts++ [t],s',rfl,Hp.le_trans l3' l36,by omega,by simp;omega,hbuf'',fun j u hu=>?_⟩
  by_cases hj:j<i
  ·rw [List.getElem?_append_left (by omega)]at hu
   exact(hts j u hu).mono l36
  ·have hju:=get_lt hu
   simp at hju
   have hje:j=i:=by omega
   subst hje
   rw [List.getElem?_append_right (by omega),htl,Nat.sub_self]at hu
   simp at hu;subst hu
   exact((ht.mono l5').offL (hbuf.mono l35)).mono l6'
 cases hbo:bO m.nexts p with
 |some q=>
  rw [show ic m.nexts p=(q:Int)from by unfold ic;rw [hbo]]
  refine aM (by simp) ?_
  have hqn:=KH g hbo
  obtain⟨bv,ov,t,hav,hvn',hcv,ht⟩:=(hpv'.mono l63).at (p:=(q:Int)) (by omega) (by rw [a.len];omega)
  refine⟨bv,ov,hav,by omega,hvn',t,hcv,?_⟩
  refine app t h3 (Hp.le_refl _) ?_
  rw [hfg]
  unfold gt
  rw [hbo]
  simpa using ht
 |none=>
  rw [show ic m.nexts p= -1 from by unfold ic;rw [hbo]]
  refine aC (by simp) ?_
  refine⟨bp,op,hap,by omega,by omega,?_⟩
  (refine aD ?_)
  refine⟨_,hcp,?_⟩
  obtain⟨bn,on,han,hpn',c6,c7,w1,w16⟩:=(hs6.mono l63).nodes.sortc2 hpm g.ok
  refine⟨bn,on,han,by omega,hpn',_,c6,_,c7,?_⟩
  refine gH ⟨_,rfl,?_⟩
  rw [px g.ok hpm]
  have hc4:=dl m.nodes p
  refine⟨by omega,by omega,by omega,by omega,?_⟩
  refine aj fun b33 h4 hb33 l4' f33=>?_
  rw [Int.toNat_natCast,Nat.mul_one,cE]at f33
  refine app ⟨some ⟨b33,0,none⟩,aE m.nodes p,aE m.nodes p⟩ h4 l4' ?_
  rw [hfg]
  unfold gt
  rw [hbo]
  simp only [Option.map_none,Option.getD_none]
  refine⟨by dsimp only;omega,by simp [aX], .inr ⟨b33,0,rfl,?_⟩⟩
  have hc:(VL (List.replicate (aE m.nodes p) 0)).map I=List.replicate (aE m.nodes p) (I 0):=by simp [VL]
  rw [hc];exact aw f33
structure Kn (g h:Hp) (L:List (Nat×Blk)):Prop where
 le:g.le h
 mem: ∀e∈L,h e.1=some e.2
 new: ∀e∈L,g e.1=none
 nd:(L.map Prod.fst).Nodup
inductive Upd :List (Nat×Blk)->Nat->Blk->Blk->List (Nat×Blk)->Prop
 |head {L:List (Nat×Blk)} {b:Nat} {x y:Blk}:Upd ((b,x)::L) b x y ((b,y)::L)
 |tail {L L':List (Nat×Blk)} {b:Nat} {x y:Blk} {e:Nat×Blk}:Upd L b x y L'->Upd (e::L) b x y (e::L')
theorem Kn.nil (h:Hp):Kn h h []:=⟨Hp.le_refl _,fun e h=>(by simp at h),fun e h=>(by simp at h),List.nodup_nil⟩
theorem Kn.of {g h:Hp} (l:g.le h):Kn g h []:=⟨l,fun e h=>(by simp at h),fun e h=>(by simp at h),List.nodup_nil⟩
section
variable {g h h':Hp} {L L':List (Nat×Blk)}
theorem Kn.at (K:Kn g h L) {b:Nat} {x:Blk} (e:(b,x)∈L):h b=some x:=K.mem _ e
theorem Kn.mono (K:Kn g h L) (l:h.le h'):Kn g h' L:=⟨Hp.le_trans K.le l,fun e he=>l _ _ (K.mem e he),K.new,K.nd⟩
theorem Kn.cons (K:Kn g h L) {b:Nat} {x:Blk} (hb:h b=none) (l:h.le h') (f:h' b=some x):Kn g h' ((b,x)::L):=by
 refine⟨Hp.le_trans K.le l,fun e he=>?_,fun e he=>?_,?_⟩
 ·rcases List.mem_cons.1 he with rfl|he
  ·exact f
  ·exact l _ _ (K.mem e he)
 ·rcases List.mem_cons.1 he with rfl|he
  ·exact aF K.le hb
  ·exact K.new e he
 ·rw [List.map_cons,List.nodup_cons]
  refine⟨fun hm=>?_,K.nd⟩
  obtain⟨e,he,heb⟩:=List.mem_map.1 hm
  have:=K.mem e he
  rw [show e.1=b from heb,hb]at this;cases this
theorem Kn.al (K:Kn g h L) {cs:Nat->List Value} {n:Nat->Nat} {P:Nat->Hp->Prop} (k: ∀b h',Kn g h' ((b, .inl ⟨cs b,n b,false⟩)::L)->h.le h'->h b=none->P b h'):
  ∀b,h b=none->cM (h.row b (cs b) (n b)) fun h'=>P b h':=
 fun b hb=>k b _ (K.cons hb (gn _ _ hb) (bU _ _ _ _)) (gn _ _ hb) hb
theorem Upd.mem {b:Nat} {x y:Blk} (u:Upd L b x y L'):(b,x)∈L:=by
 induction u with
 |head=>exact .head _
 |tail _ ih=>exact .tail _ ih
theorem Upd.keys {b:Nat} {x y:Blk} (u:Upd L b x y L'):L'.map Prod.fst=L.map Prod.fst:=by
 induction u with
 |head=>rfl
 |tail _ ih=>rw [List.map_cons,List.map_cons,ih]
theorem Upd.out {b:Nat} {x y:Blk} (u:Upd L b x y L') (nd:(L.map Prod.fst).Nodup): ∀e∈L',e=(b,y)\/(e∈L/\e.1≠b):=by
 induction u with
 |head=>
  intro e he
  rcases List.mem_cons.1 he with rfl|he
  ·exact .inl rfl
  ·rw [List.map_cons,List.nodup_cons]at nd
   exact .inr ⟨.tail _ he,fun eb=>nd.1 (List.mem_map.2 ⟨e,he,eb⟩)⟩
 |tail u ih=>
  rename_i L L' b x y e0
  rw [List.map_cons,List.nodup_cons]at nd
  intro e he
  rcases List.mem_cons.1 he with rfl|he
  ·exact .inr ⟨.head _,fun eb=>nd.1 (List.mem_map.2 ⟨_,u.mem,eb.symm⟩)⟩
  ·rcases ih nd.2 e he with h|⟨h1,h2⟩
   ·exact .inl h
   ·exact .inr ⟨.tail _ h1,h2⟩
theorem Kn.set (K:Kn g h L) {b z z':Nat} {cs cs':List Value} {ro:Bool} (u:Upd L b (.inl ⟨cs,z,ro⟩) (.inl ⟨cs',z',false⟩) L'):Kn g (h.row b cs' z') L':=by
 have hb:=K.new _ u.mem
 refine⟨ez _ _ hb K.le,fun e he=>?_,fun e he=>?_,by rw [u.keys];exact K.nd⟩
 ·rcases u.out K.nd e he with rfl|⟨h1,h2⟩
  ·exact bU _ _ _ _
  ·rw [cl _ _ h2];exact K.mem e h1
 ·rcases u.out K.nd e he with rfl|⟨h1,h2⟩
  ·exact hb
  ·exact K.new e h1
theorem Kn.wr (K:Kn g h L) {b z o m:Nat} {cs vs:List Value} {P:Hp->Prop} (u:Upd L b (.inl ⟨cs,z,false⟩) (.inl ⟨bX cs o vs,z,false⟩) L') (hl:m<=cs.length)
  (k: ∀h',Kn g h' L'->(∀c,c≠b->h' c=h c)->P h'):
  ∃(cs':List Value) (z':Nat),h b=some (.inl ⟨cs',z',false⟩)/\m<=List.length cs'/\cM (h.row b (bX cs' o vs) z') fun h'=>P h':=
 ⟨cs,z,K.at u.mem,hl,k _ (K.set u) fun c hc=>cl _ _ hc⟩
theorem Kn.base (K:Kn g h L):Kn (h.wo (L.map Prod.fst)) h L:=⟨uf _ _,K.mem,fun e he=>fS (List.mem_map.2 ⟨e,he,rfl⟩),K.nd⟩
theorem Kn.leBase (K:Kn g h L):g.le (h.wo (L.map Prod.fst)):=vQ K.le fun b hb=>by
 obtain⟨e,he,rfl⟩:=List.mem_map.1 hb
 exact K.new e he
theorem Kn.has (K:Kn g h L): ∀b∈L.map Prod.fst,h b≠none:=fun b hb=>by
 obtain⟨e,he,rfl⟩:=List.mem_map.1 hb
 rw [K.mem e he];simp
theorem Kn.eq {g':Hp} (K':Kn g' h' L') (K:Kn g h L) {b:Nat} {x:Blk} {P:Prop} (e':(b,x)∈L') (e:(b,x)∈L) (k:P):h' b=h b/\P:=⟨by rw [K'.at e',K.at e],k⟩
theorem Kn.eqg (K':Kn g h' L') (K:Kn g h L) {b:Nat} {P:Prop} (e:g b≠none) (k:P):h' b=h b/\P:=by
 refine⟨?_,k⟩
 cases hb:g b with
 |none=>exact absurd hb e
 |some x=>rw [K'.le _ _ hb,K.le _ _ hb]
theorem Kn.sub (K:Kn g h L) (m: ∀e∈L',e∈L) (nd:(L'.map Prod.fst).Nodup):Kn g h L':=⟨K.le,fun e he=>K.mem e (m e he),fun e he=>K.new e (m e he),nd⟩
theorem Kn.wrS {s:Sl} (K:Kn g (h.offS s) L) {b z o m:Nat} {cs vs:List Value} {P:Hp->Prop} (u:Upd L b (.inl ⟨cs,z,false⟩) (.inl ⟨bX cs o vs,z,false⟩) L') (hl:m<=cs.length)
  (k: ∀h',Kn g (h'.offS s) L'->(∀sz bs,Buf h s sz bs->Buf h' s sz bs)->(∀c,c≠b->(h'.offS s) c=(h.offS s) c)->P h'):
  ∃(cs':List Value) (z':Nat),h b=some (.inl ⟨cs',z',false⟩)/\m<=List.length cs'/\cM (h.row b (bX cs' o vs) z') fun h'=>P h':=by
 have f:=K.at u.mem
 refine⟨cs,z,aW _ _ _ _ f,hl,k _ ?_ (fun sz bs e=>e.row _ _ f) fun c hc=>?_⟩
 ·rw [td _ _ f];exact K.set u
 ·rw [td _ _ f,cl _ _ hc]
end
theorem gT {b o:Nat} {P:Nat->Nat->Prop} (k:P b o): ∃b' o':Nat,some (Addr.mk b o none)=some (Addr.mk b' o' none)/\P b' o':=⟨b,o,rfl,k⟩
theorem Kn.rd {α:Type} {f:α->Value} {g h:Hp} {L:List (Nat×Blk)} (K:Kn g h L) {b z o:Nat} {cs:List Value} {ro:Bool} {x:α} {P:α->Prop} (e:(b, .inl ⟨cs,z,ro⟩)∈L) (c:cs[o]?=some (f x)) (k:P x): ∃y:α,Hp.cell h b o=some (f y)/\P y:=⟨x,by rw [ax (K.at e)];exact c,k⟩
theorem Kn.rg {α:Type} {f:α->Value} {g h:Hp} {L:List (Nat×Blk)} (K:Kn g h L) {b z o:Nat} {cs:List Value} {ro:Bool} {x:α} {P:α->Prop} (e:g b=some (.inl ⟨cs,z,ro⟩)) (c:cs[o]?=some (f x)) (k:P x): ∃y:α,Hp.cell h b o=some (f y)/\P y:=⟨x,by rw [ax (K.le _ _ e)];exact c,k⟩
theorem kr_ {P Q:Prop} (k:Q) (h:Q->P:=by(first
 |((with_reducible apply Kn.rd);(assumption);((focus ((repeat first|exact .head _|apply List.Mem.tail);done)));(exact rfl))
 |((with_reducible apply Kn.rg);(assumption);(assumption);(exact rfl))
 |with_reducible exact And.intro (Eq.refl _)
 |with_reducible exact And.intro True.intro
 |with_reducible exact gT
 |((with_reducible apply Kn.eq);(assumption);(assumption);((focus ((repeat first|exact .head _|apply List.Mem.tail);done)));((focus ((repeat first|exact .head _|apply List.Mem.tail);done))))
 |((with_reducible apply Kn.eqg);(assumption);(assumption);(assumption))
 |fail)):P:=h k
theorem kw_ {P Q:Prop} (k:Q) (h:Q->P:=by((with_reducible apply Kn.wr);(assumption);(((focus ((repeat first|exact .head|apply Upd.tail);done))));(exact of_decide_eq_true rfl))):P:=h k
theorem TW (l:List NodeP) (c:Nat->Bool) (p:Nat): ∀ps,ij l c (ps++ [p])=ij l c ps+2^cH l ps*(if c p then 2^nbA l p-1 else 0):=by
 intro ps
 induction ps with
 |nil=>simp [ij,cH]
 |cons q ps ih=>
  simp only [List.cons_append,ij]
  rw [ih,rF,Nat.pow_add,Nat.mul_add,Nat.mul_assoc,Nat.add_assoc]
theorem Jy {l:List NodeP} {ps:List Nat} {c:Nat->Bool} {i p:Nat} (h:ps[i]?=some p):ij l c (ps.take (i+1))=ij l c (ps.take i)+2^cH l (ps.take i)*(if c p then 2^nbA l p-1 else 0):=by
 have hlt:=get_lt h
 rw [List.getElem?_eq_getElem hlt]at h
 rw [List.take_succ_eq_append_getElem hlt,TW,Option.some.inj h]
theorem afc {l:List NodeP} {p:Nat}:dT (ar l p)=nbA l p:=by unfold dT nbA bL aE;rw [Nat.mul_comm]
theorem ac6 {l:List NodeP} {ps:List Nat} {i p:Nat} (h:ps[i]?=some p):cH l (ps.take i)+nbA l p<=cH l ps:=by
 have:=nO (l:=l) h
 have:=IV l ps (i+1)
 unfold nbA;omega
theorem agr {l:List NodeP} {p:Nat} (hok:bP l=true) (hp:p<l.length):dT ⟨(ar l p).idx,(bL l p:Nat)⟩=nbA l p:=by
 have:=bD.1 (tD hok hp)
 have hw:((bL l p:Nat):Int)=(ar l p).wid:=by unfold bL;omega
 rw [hw];exact afc
def mw (m:ah):Nat:=ij m.nodes (fun p=> !(bO m.nexts p).isSome) (stP m)
def iV (k:Nat):List Nat:=(List.range (k+1)).filter fun c=>decide (c&&&k=c)
theorem aeB {c k:Nat} (hc:c<256):c&&&k=c↔ ∀i,i<8->(c.testBit i=true->k.testBit i=true):=by
 constructor
 ·intro h i _ hi
  rw [<-h,Nat.testBit_and,Bool.and_eq_true]at hi
  exact hi.2
 ·intro h
  apply Nat.eq_of_testBit_eq
  intro i
  rw [Nat.testBit_and]
  by_cases hi:i<8
  ·have:=h i hi
   cases hc:c.testBit i with
   |false=>rfl
   |true=>rw [this hc];rfl
  ·rw [Nat.testBit_lt_two_pow (Nat.lt_of_lt_of_le hc (by have:=Nat.pow_le_pow_right (n:=2) (by omega) (show 8<=i by omega);simpa using this))];rfl
theorem abL {m:ah} (g:cr m):mw m<256:=by
 have h:=Bb m.nodes (fun p=> !(bO m.nexts p).isSome) (stP m)
 rw [eM g]at h
 have:=Nat.pow_le_pow_right (n:=2) (by omega) g.n8
 have h3:(2:Nat)^8=256:=rfl
 unfold mw;omega
theorem TX {binds:List BindP} {p:Nat}:decide (ic binds p<0)= !(bO binds p).isSome:=by
 unfold ic
 cases bO binds p with
 |none=>rfl
 |some k=>simp
def OL (k i:Nat):List Nat:=(List.range i).filter fun c=>decide (c&&&k=c)
theorem Vy (k i:Nat):OL k (i+1)=OL k i++if i&&&k=i then [i]else []:=by
 unfold OL
 rw [List.range_succ,List.filter_append]
 by_cases h:i&&&k=i<;>simp [h]
theorem Buf.subOf {h h':Hp} {s:Sl} {sz:Nat} {cs:List Value} (e:Buf h' s sz cs) (l:h.le (h'.offS s)):Buf (h'.sub h) s sz cs:=by
 refine⟨e.1,e.2.1,e.2.2.imp id ?_⟩
 rintro ⟨b,ha,hb⟩
 refine⟨b,ha,?_⟩
 have hoff:(h'.offS s) b=none:=by simp [Hp.offS,ha,Hp.off,Hp.set]
 have hn:h b=none:=by
  cases hx:h b with
  |none=>rfl
  |some x=>rw [l _ _ hx]at hoff;cases hoff
 rw [lz hn];exact hb
theorem PV {h:Hp} {M:MSl} {m:ah} {R:Value->Hp->Prop} (hs:aO h M m) (hm:bT m) (g:cr m)
  (k: ∀t h',h.le h'->IntS (h'.sub h) t (VL (iV (mw m)))->R (Sl.v t) h'):vU #[aQ M] h R:=by
 apply My
 refine uf_ ?_
 have hn8:=g.n8
 have hsw:=eM g
 have hp36:(stP m).length<=m.nodes.length:=dV m.nodes 36
 have hnl:=g.nl
 have hxl:=g.xl
 have hbn: ∀b∈m.nexts,0<=b.node:=fun b hb=>(et.1 (dn (g.nex b hb)).2.1).1
 refine aj fun b8 h1 hb8 l1 f8=>?_
 repeat' (refine aD ?_)
 refine cJ (hs.mono l1) hm fun pt h2 l2 hp=>⟨pt,rfl,?_⟩
 have hpn:pt.n=(stP m).length:=by have:=hp.len;rw [aX]at this;exact this
 have l02:=Hp.le_trans l1 l2
 replace f8:=l2 _ _ f8
 refine au (stP m).length (fun i vs h'=>vs= [.pointer (some ⟨b8,0,none⟩),pt.v,I (ij m.nodes (fun p=> !(bO m.nexts p).isSome) ((stP m).take i):Nat),I (cH m.nodes ((stP m).take i):Nat),I i]/\h'=h2) ⟨by simp [ij,cH],rfl⟩ ?_
 rintro i _ _ next hi ⟨rfl,rfl⟩ hnx
 rename_i h2
 refine⟨_,_,pt,_,_,_,rfl,?_⟩
 by_cases hlt:i<(stP m).length
 ·refine aM (by simp;omega) ?_
  obtain⟨p,hpi⟩: ∃p,(stP m)[i]?=some p:=⟨_,List.getElem?_eq_getElem hlt⟩
  have hpm:=bV g 36 p (List.mem_of_getElem? hpi)
  obtain⟨b,o,ha,hc⟩:=hp.get (iy hpi)
  refine⟨b,o,ha,by omega,by omega,?_⟩
  (refine aD ?_)
  refine⟨_,hc,?_⟩
  obtain⟨bn,on,han,hpn',c6,c7,w1,w16⟩:=(hs.mono l02).nodes.sortc2 hpm g.ok
  refine⟨bn,on,han,by omega,hpn',_,c6,_,c7,?_⟩
  refine jM ⟨_,rfl,?_⟩
  rw [agr g.ok hpm]
  refine⟨b,o,ha,by omega,by omega,?_⟩
  (refine aD ?_)
  refine⟨_,hc,?_⟩
  refine lj (hs.mono l02).nexts (by omega) hbn ⟨_,rfl,?_⟩
  rw [TX]
  have hnb:=ac6 (l:=m.nodes) hpi
  have hlo:=Bb m.nodes (fun p=> !(bO m.nexts p).isSome) ((stP m).take i)
  have hpb:=EZ (n:=nbA m.nodes p) (by omega)
  have hpb1:=bQ (nbA m.nodes p)
  have hmul:(2^nbA m.nodes p-1)*2^cH m.nodes ((stP m).take i)<1048576:=by
   have h1:(2^nbA m.nodes p-1)*2^cH m.nodes ((stP m).take i)<=2^nbA m.nodes p*2^cH m.nodes ((stP m).take i):=Nat.mul_le_mul_right _ (Nat.sub_le _ _)
   rw [<-Nat.pow_add]at h1
   have h2:=Nat.pow_le_pow_right (n:=2) (by omega) (show nbA m.nodes p+cH m.nodes ((stP m).take i)<=8 by omega)
   have h3:(2:Nat)^8=256:=rfl
   omega
  have hlo2:ij m.nodes (fun p=> !(bO m.nexts p).isSome) ((stP m).take i)<1048576:=by
   have h2:=Nat.pow_le_pow_right (n:=2) (by omega) (show cH m.nodes ((stP m).take i)<=8 by omega)
   have h3:(2:Nat)^8=256:=rfl
   omega
  have hstep:=Jy (l:=m.nodes) (c:=fun p=> !(bO m.nexts p).isSome) hpi
  have hst2:=nO (l:=m.nodes) hpi
  rw [show bL m.nodes p*aE m.nodes p=nbA m.nodes p from rfl]at hst2
  rw [cY (n:=nbA m.nodes p) (by omega),cY (n:=cH m.nodes ((stP m).take i)) (by omega)]
  have fin:=hnx hlt
  have hat:W (((cH m.nodes ((stP m).take i):Nat):Int)+((nbA m.nodes p:Nat):Int))=((cH m.nodes ((stP m).take (i+1)):Nat):Int):=by
   rw [cd (by omega) (by omega),hst2];omega
  rw [hat,ay (by omega)]
  refine ad (fun e=>?_) (fun e=>?_)
  ·rw [if_neg (by omega),if_neg (by omega),cw (by omega),cd (n:=((2^nbA m.nodes p:Nat):Int)-1) (by omega) (by omega)]
   have hm1:(((2^nbA m.nodes p:Nat):Int)-1)=((2^nbA m.nodes p-1:Nat):Int):=by omega
   rw [if_pos e,Nat.mul_comm]at hstep
   rw [hm1,jj (by omega) (by omega),<-Int.natCast_add,fW (by omega),<-hstep]
   exact fin _ _ ⟨rfl,rfl⟩
  ·have hs2:ij m.nodes (fun p=> !(bO m.nexts p).isSome) ((stP m).take (i+1))=ij m.nodes (fun p=> !(bO m.nexts p).isSome) ((stP m).take i):=by
    rw [hstep,if_neg (by rw [e];decide)];simp
   rw [<-hs2]
   exact fin _ _ ⟨rfl,rfl⟩
 have hie:i=(stP m).length:=by omega
 subst hie
 refine aC (by simp;omega) ?_
 rw [List.take_of_length_le (Nat.le_refl _)]
 have hfm:=abL g
 show aJ _ [I (mw m:Nat), .slice none 0 0,I 0] h2
 refine au (mw m+1) (fun c vs h'=> ∃out:Sl,vs= [I (mw m:Nat),out.v,I c]/\h2.le (h'.offS out)/\out.n<=c/\Buf h' out 1 ((VL (OL (mw m) c)).map I)) ⟨⟨none,0,0⟩,rfl,Hp.le_refl _,Nat.le_refl _,fD _ _⟩ ?_
 rintro c _ h3 next2 hc ⟨out,rfl,l3,hon,hbuf⟩ hnx2
 have l23:=Hp.le_trans l3 (aW _ _)
 refine⟨_,out,_,rfl,?_⟩
 by_cases hlc:c<mw m+1
 rotate_left
 ·have hce:c=mw m+1:=by omega
  subst hce
  exact aC (by simp;omega) (k out h3 (Hp.le_trans l02 l23) ((hbuf.subOf (Hp.le_trans l02 l3)).slc_of (by omega)))
 refine aM (by simp;omega) ?_
 refine au 8 (fun j vs h'=>vs= [I (mw m:Nat),out.v,I c, .bool ((List.range j).all fun i=> !c.testBit i||(mw m).testBit i),I j]/\h'=h3) ⟨rfl,rfl⟩ ?_
 rintro j _ _ next3 hj ⟨rfl,rfl⟩ hnx3
 rename_i h3
 refine⟨_,out,_,_,_,rfl,?_⟩
 by_cases hlj:j<8
 ·refine aM (by simp;omega) ?_
  have hsucc:(List.range (j+1)).all (fun i=> !c.testBit i||(mw m).testBit i)=((List.range j).all (fun i=> !c.testBit i||(mw m).testBit i)&&(!c.testBit j||(mw m).testBit j)):=by
   rw [List.range_succ,List.all_append];simp
  have fin:=hnx3 hlj
  rw [hsucc]at fin
  refine ad (fun e=>?_) (fun e=>?_)
  ·rw [e]at fin
   rw [Bool.true_and]at fin
   refine jF (by omega) ⟨_,rfl,?_⟩
   refine jF (by omega) ⟨_,rfl,?_⟩
   rw [ay (by omega)]
   have:decide ((if c.testBit j then(1:Int)else 0)<=(if(mw m).testBit j then(1:Int)else 0))=(!c.testBit j||(mw m).testBit j):=by
    cases c.testBit j<;>cases (mw m).testBit j<;>rfl
   rw [this]
   exact fin _ _ ⟨rfl,rfl⟩
  ·rw [e]at fin
   rw [Bool.false_and]at fin
   rw [ay (by omega)]
   exact fin _ _ ⟨rfl,rfl⟩
 have hje:j=8:=by omega
 subst hje
 refine aC (by simp) ?_
 have hcond:((List.range 8).all fun i=> !c.testBit i||(mw m).testBit i)=decide (c&&&mw m=c):=by
  rw [Bool.eq_iff_iff,decide_eq_true_eq,aeB (by omega),List.all_eq_true]
  constructor
  ·intro h i hi hb
   have:=h i (List.mem_range.2 hi)
   rw [hb]at this;simpa using this
  ·intro h i hi
   have:=h i (List.mem_range.1 hi)
   cases hb:c.testBit i with
   |false=>rfl
   |true=>rw [this hb];rfl
 rw [hcond,ay (by omega)]
 have hft:=Vy (mw m) c
 refine ad (fun e=>?_) (fun e=>?_)
 ·rw [if_pos (of_decide_eq_true e)]at hft
  refine aj fun b92 h4 hb92 l4 f92=>?_
  refine dG (hbuf.mono l4) (by omega) (by omega) (by omega) ⟨b92,0,rfl,aw f92⟩ (by simp) rfl ?_
  intro s' h5 hs'n hbuf' l5 _
  refine hnx2 hlc _ _ ⟨s',rfl,Hp.le_trans l3 (Hp.le_trans (bC out l4) l5),by omega,?_⟩
  rw [hft,ym,List.map_append];exact hbuf'
 ·rw [if_neg (of_decide_eq_false e),List.append_nil]at hft
  refine hnx2 hlc _ _ ⟨out,rfl,l3,by omega,?_⟩
  rw [hft];exact hbuf
theorem VU {m:ah} (g:cr m):2^(ak m.nodes 36+ak m.nodes 35)<=8192:=by
 have h1:=g.n8
 have h2:=g.k5
 have:=Nat.pow_le_pow_right (n:=2) (by omega) (show ak m.nodes 36+ak m.nodes 35<=13 by omega)
 simpa using this
theorem aiY {m:ah} (g:cr m):2^ak m.nodes 36<=256:=by
 have h1:=g.n8
 have:=Nat.pow_le_pow_right (n:=2) (by omega) h1
 simpa using this
theorem gO.keep {h h':Hp} {s:Sl} {vs:List (List Nat)} {b z:Nat} {cs:List Value} {ro:Bool} (e:gO h s vs) (f:h b=some (.inl ⟨cs,z,ro⟩)) (hn:yx cs) (hsl: ∀(j:Nat) (t:Sl),cs[j]?≠some t.v) (kp: ∀c,c≠b->h' c=h c):gO h' s vs:=by
 refine⟨e.1,e.2.1,fun p hp=>?_⟩
 obtain⟨b',o,t,h1,h2,h3⟩:=e.2.2 p hp
 refine⟨b',o,t,h1,?_,h3.keepN f hn kp⟩
 have hne:b'≠b:=by
  rintro rfl
  rw [ax f]at h2
  exact hsl _ _ h2
 unfold Hp.cell at h2⊢
 rw [kp b' hne];exact h2
abbrev arr (b n:Nat):Sl:=⟨some ⟨b,0,none⟩,n,n⟩
theorem LF (m:ah) (v:List (List Nat)):decide (xM m v>=0)=(uc m v).isSome:=by
 unfold xM
 cases uc m v with
 |none=>rfl
 |some d=>simp
def Lk (h:Hp) (t:Sl) (n:Nat) (f:Nat->Nat):Prop:=IntS h t (VL ((List.range n).map f))
theorem Lk.mono {h h':Hp} {t:Sl} {n:Nat} {f:Nat->Nat} (l:h.le h') (e:Lk h t n f):Lk h' t n f:=SlC.mono l e
theorem yD {m:ah} (g:cr m) {b:BindP} (hb:b∈m.inits):0<=b.node/\b.node<m.nodes.length/\0<((kH m).getD b.node.toNat []).length/\((kH m).getD b.node.toNat []).length<=4/\0<=b.state/\b.state<m.nodes.length:=by
 obtain⟨q1,q2,q3,q4,_⟩:=eU (g.ini b hb)
 have q2':=et.1 q2
 have q1':=et.1 q1
 have hf:=(xR g).fit b.node.toNat (by omega) (by omega)
 have:=(qm g.ok (show b.node.toNat<m.nodes.length by omega) hf).1
 refine⟨q2'.1,q2'.2,hf.pos,?_,q1'.1,q1'.2⟩
 rw [this];exact dl _ _
theorem fu.get {h:Hp} {t:Sl} {n:Nat} {T:Nat->Bool} (e:fu h t n T) {i:Nat} (hi:i<n): ∃b o,t.a=some (Addr.mk b o none)/\(i:Int)<(t.n:Int)/\Hp.cell h b (o+Int.toNat (i:Int)*1)=some (.bool (T i)):=by
 have hl:=th.len e
 rw [List.length_map,List.length_range]at hl
 obtain⟨b,o,ha,hc⟩:=SlC.get e (by omega)
 refine⟨b,o,ha,by omega,?_⟩
 rw [Int.toNat_natCast,Nat.mul_one]
 exact hc i _ (by simp [hi])
theorem fu.len {h:Hp} {t:Sl} {n:Nat} {T:Nat->Bool} (e:fu h t n T):t.n=n:=by
 have hl:=th.len e
 rwa [List.length_map,List.length_range]at hl
theorem Lk.get {h:Hp} {t:Sl} {n:Nat} {f:Nat->Nat} (e:Lk h t n f) {i:Nat} (hi:i<n): ∃b o,t.a=some (Addr.mk b o none)/\(i:Int)<(t.n:Int)/\Hp.cell h b (o+Int.toNat (i:Int)*1)=some (I (f i:Nat)):=by
 have hl:=IntS.len e
 rw [aX,List.length_map,List.length_range]at hl
 obtain⟨b,o,ha,hc⟩:=SlC.get e (by omega)
 refine⟨b,o,ha,by omega,?_⟩
 rw [Int.toNat_natCast,Nat.mul_one]
 exact hc i _ (by simp [VL,hi])
theorem IntS.up {h h':Hp} {s:Sl} {xs:List Int} (e:IntS h s xs) (l:h.le h'):IntS h' s xs:=e.mono l
theorem IntSS.up {h h':Hp} {s:Sl} {xs:List (List Int)} (e:IntSS h s xs) (l:h.le h'):IntSS h' s xs:=e.mono l
theorem aO.up {h h':Hp} {M:MSl} {m:ah} (e:aO h M m) (l:h.le h'):aO h' M m:=e.mono l
theorem kpU {h0 h h':Hp} {b:Nat} {x:Blk} {P:Prop} (f:h0 b=some x) (l1:h0.le h') (l2:h0.le h) (k:P):h' b=h b/\P:=⟨by rw [l1 _ _ f,l2 _ _ f],k⟩
theorem kpN {h0 h h':Hp} {b:Nat} {P:Prop} (f:h0 b≠none) (l1:h0.le h') (l2:h0.le h) (k:P):h' b=h b/\P:=by
 refine⟨?_,k⟩
 cases hb:h0 b with
 |none=>exact absurd hb f
 |some x=>rw [l1 _ _ hb,l2 _ _ hb]
theorem rdU {α:Type} {f:α->Value} {h0 h:Hp} {b z o:Nat} {cs:List Value} {ro:Bool} {x:α} {P:α->Prop} (e:h0 b=some (.inl ⟨cs,z,ro⟩)) (l:h0.le h) (c:cs[o]?=some (f x)) (k:P x): ∃y:α,Hp.cell h b o=some (f y)/\P y:=⟨x,by rw [ax (l _ _ e)];exact c,k⟩
theorem ku_ {P Q:Prop} (k:Q) (h:Q->P:=by(first
 |((with_reducible apply rdU);(assumption);((focus ((repeat (first|exact Hp.le_refl _|assumption|(refine Hp.le_trans ?_ (by assumption))));done)));(exact rfl))
 |with_reducible exact And.intro (Eq.refl _)
 |with_reducible exact And.intro True.intro
 |with_reducible exact gT
 |((with_reducible apply kpU);(assumption);((focus ((repeat (first|exact Hp.le_refl _|assumption|(refine Hp.le_trans ?_ (by assumption))));done)));((focus ((repeat (first|exact Hp.le_refl _|assumption|(refine Hp.le_trans ?_ (by assumption))));done))))
 |((with_reducible apply kpN);(assumption);((focus ((repeat (first|exact Hp.le_refl _|assumption|(refine Hp.le_trans ?_ (by assumption))));done)));((focus ((repeat (first|exact Hp.le_refl _|assumption|(refine Hp.le_trans ?_ (by assumption))));done))))
 |fail)):P:=h k
set_option maxHeartbeats 2000000 in
theorem CO {h:Hp} {M:MSl} {m:ah} {c:Nat} {R:Value->Hp->Prop} (hs:aO h M m) (hm:bT m) (g:cr m) (hc:c<2^(ak m.nodes 36+ak m.nodes 35))
  (k: ∀t h',h.le h'->t.n=m.nodes.length->gO h' t (bK m (c%2^ak m.nodes 36) (c/2^ak m.nodes 36))->aee h t->R (Sl.v t) h'):pH #[aQ M,I c] h R:=by
 apply Ij
 refine uf_ ?_
 have hn8:=g.n8
 have hk5:=g.k5
 have hp13:=VU g
 have hp8:=aiY g
 have h1':c%2^ak m.nodes 36<=c:=Nat.mod_le _ _
 have h2':c/2^ak m.nodes 36<=c:=Nat.div_le_self _ _
 have hpp:=bQ (ak m.nodes 36)
 have hs36:cH m.nodes (av m.nodes 36)<=60:=by have:=eM g;show cH m.nodes (stP m)<=60;omega
 have hs35:cH m.nodes (av m.nodes 35)<=60:=by have:=wH g;show cH m.nodes (inP m)<=60;omega
 have hshr:oU (c:Int) ((ak m.nodes 36:Nat):Int)=((c/2^ak m.nodes 36:Nat):Int):=jI (by omega)
 have hmod:Int.tmod (c:Int) (((2^ak m.nodes 36:Nat)):Int)=((c%2^ak m.nodes 36:Nat):Int):=eP _ _
 have hwu:IntKind.wrap .u64 ((ak m.nodes 36:Nat):Int)=(ak m.nodes 36:Nat):=cY (by omega)
 have hsh1:aA 1 ((ak m.nodes 36:Nat):Int)=((2^ak m.nodes 36:Nat):Int):=cw (by omega)
 refine aj fun b8 h1 hb8 l1 f8=>?_
 clear hb8
 repeat' (refine ku_ ?_)
 refine jg (hs.mono l1) hm ⟨_,rfl,?_⟩
 simp only [hwu,hsh1,hshr,hmod]
 repeat' (first
  |(refine ku_ ?_)
  |(rw [if_neg (by omega)])
  |(refine cJ (hs.up (by((focus ((repeat (first|exact Hp.le_refl _|assumption|(refine Hp.le_trans ?_ (by assumption))));done))))) hm fun _ _ _ _=>⟨_,rfl,?_⟩)
  |(refine fN (hs.up (by((focus ((repeat (first|exact Hp.le_refl _|assumption|(refine Hp.le_trans ?_ (by assumption))));done))))) hm g.ok (IntS.up (by assumption) (by((focus ((repeat (first|exact Hp.le_refl _|assumption|(refine Hp.le_trans ?_ (by assumption))));done))))) (bV g 36) (ge g 36) (by omega) hs36 fun _ _ _ _=>⟨_,rfl,?_⟩)
  |(refine fN (hs.up (by((focus ((repeat (first|exact Hp.le_refl _|assumption|(refine Hp.le_trans ?_ (by assumption))));done))))) hm g.ok (IntS.up (by assumption) (by((focus ((repeat (first|exact Hp.le_refl _|assumption|(refine Hp.le_trans ?_ (by assumption))));done))))) (bV g 35) (ge g 35) (by omega) hs35 fun _ _ _ _=>⟨_,rfl,?_⟩)
  |(refine qd (hs.up (by((focus ((repeat (first|exact Hp.le_refl _|assumption|(refine Hp.le_trans ?_ (by assumption))));done))))) hm g.ok g.nl (IntSS.up (by assumption) (by((focus ((repeat (first|exact Hp.le_refl _|assumption|(refine Hp.le_trans ?_ (by assumption))));done))))) (jR 36 (c%2^ak m.nodes 36) g) (IntSS.up (by assumption) (by((focus ((repeat (first|exact Hp.le_refl _|assumption|(refine Hp.le_trans ?_ (by assumption))));done))))) (jR 35 (c/2^ak m.nodes 36) g) fun t h' l hn hpv hw=>⟨_,rfl,k t h' (by((focus ((repeat (first|exact Hp.le_refl _|assumption|(refine Hp.le_trans ?_ (by assumption))));done)))) hn hpv fun b o hb=>aF (by((focus ((repeat (first|exact Hp.le_refl _|assumption|(refine Hp.le_trans ?_ (by assumption))));done)))) (hw b o hb)⟩)
  |(refine And.intro ?_ ?_))
def ig (ps:List Nat) (f:Nat->Option (List Nat)) (vs:List (List Nat)) (n:Nat):Bool:=(List.range n).all fun i=>match ps[i]? with
 |some p=>(match f p with|some v=>decide (vs.getD i []=v)|none=>true)
 |none=>true
theorem HO {ps:List Nat} {f:Nat->Option (List Nat)} {vs:List (List Nat)} {i p:Nat} (h:ps[i]?=some p):ig ps f vs (i+1)=(ig ps f vs i&&(match f p with|some v=>decide (vs.getD i []=v)|none=>true)):=by
 unfold ig
 rw [List.range_succ,List.all_append]
 simp only [List.all_cons,List.all_nil,Bool.and_true,h]
theorem jC {ps:List Nat} {f:Nat->Option (List Nat)} {vs:List (List Nat)}:ig ps f vs ps.length=true↔ ∀(i p:Nat),ps[i]?=some p-> ∀v,f p=some v->vs.getD i []=v:=by
 unfold ig
 rw [List.all_eq_true]
 constructor
 ·intro h i p hp v hv
  have:=h i (List.mem_range.2 (get_lt hp))
  rw [hp]at this
  simp only [hv,decide_eq_true_eq]at this
  exact this
 ·intro h i hi
  cases hp:ps[i]? with
  |none=>rfl
  |some p=>
   simp only
   cases hv:f p with
   |none=>rfl
   |some v=>simpa using h i p hp v hv
theorem Pf {ps:List Nat} {f:Nat->Option (List Nat)} {vs:List (List Nat)} {i:Nat} (hi:i<=ps.length) (h:ig ps f vs i=false):ig ps f vs ps.length=false:=by
 unfold ig at h⊢
 rw [List.all_eq_false]at h⊢
 obtain⟨x,hx,hn⟩:=h
 exact⟨x,List.mem_range.2 (by have:=List.mem_range.1 hx;omega),hn⟩
theorem He {h:Hp} {M:MSl} {m:ah} {s t:Sl} {ps:List Nat} {vs:List (List Nat)} {R:Value->Hp->Prop} (hs:aO h M m) (hm:bT m) (hok:bP m.nodes=true) (hp:IntS h s (VL ps)) (hps: ∀p∈ps,p<m.nodes.length) (hpl:ps.length<=1048576)
  (hv:IntSS h t (vs.map VL)) (hf:jQ m.nodes ps vs) (k:R (.bool true) h):sD #[aQ M,s.v,t.v] h R:=by
 refine ACalls.drop (N0 ?_)
 refine uf_ ?_
 have hn:=hs.nodes.len
 have hsn:=hp.len
 rw [aX]at hsn
 have htn:=hv.len
 rw [List.length_map]at htn
 have hvl:=j9 hf
 refine aj fun b9 h1 hb9 l1 f9=>?_
 refine aC (by simp;omega) ?_
 refine au ps.length (fun i ws h'=>h.le h'/\h' b9=some (.inl ⟨aH M,5,false⟩)/\ws= [s.v,t.v, .pointer (some ⟨b9,0,none⟩),I i]) ⟨l1,f9,rfl⟩ ?_
 clear f9 l1 hb9 h1
 rintro i _ h1 next hi ⟨l1,f9,rfl⟩ hnx
 refine⟨s,t,_,_,_,rfl,?_⟩
 by_cases hlt:i<ps.length
 rotate_left
 ·exact aC (by simp;omega) ⟨_,l1,k⟩
 refine aM (by simp;omega) ?_
 obtain⟨p,hpi⟩: ∃p,ps[i]?=some p:=⟨_,List.getElem?_eq_getElem hlt⟩
 have hpm:=hps p (List.mem_of_getElem? hpi)
 obtain⟨b,o,ha,hc⟩:=(hp.mono l1).get (iy hpi)
 refine⟨b,o,ha,by omega,by omega,?_⟩
 (refine aD ?_)
 refine⟨_,hc,?_⟩
 obtain⟨bn,on,han,hpn',c6,c7,w1,w16⟩:=(hs.mono l1).nodes.sortc2 hpm hok
 refine⟨bn,on,han,by omega,hpn',_,c6,_,c7,?_⟩
 obtain⟨bt,ot,c,hta,htc,hcv⟩:=(hv.mono l1).getV (i:=i) (by omega)
 have xbt:=fT htc
 have xbn:=fT c6
 have xb:=fT hc
 have xb9:=cf f9
 refine aj fun b36 h2 hb36 l2 f36'=>?_
 have n9:=fresh_ne hb36 f9
 have nt:=zV hb36 htc
 repeat' (((with_reducible apply mO);(assumption);(assumption)))
 (with_reducible apply cC);(exact f36');(exact Hp.le_trans l1 l2);(exact aF l1 hb36);(exact Nat.le_refl 2)
 intro h3 f36 kp l3
 have l13:h1.le h3:=im hb36 l2 kp
 have f93:=l13 _ _ f9
 have f36v:h3 b36=some (.inl ⟨[I (ar m.nodes p).idx,I (bL m.nodes p)],2,false⟩):=f36
 refine⟨bt,ot,hta,by omega,by omega,c,l13.cell htc,?_⟩
 repeat' (refine aD ?_)
 refine gH ⟨_,rfl,?_⟩
 rw [px hok hpm]
 have hg:=lM hf hpi
 have hcn:=hcv.len
 rw [aX]at hcn
 have hcl:=dl m.nodes p
 repeat' (refine aD ?_)
 refine aC (by simp;omega) ?_
 have hcv3:=hcv.mono l13
 refine au (aE m.nodes p) (fun q ws h'=>h'=h3/\ws= [s.v,t.v, .pointer (some ⟨b9,0,none⟩),I i, .pointer (some ⟨b36,0,none⟩),I q]) ⟨rfl,rfl⟩ ?_
 rintro q _ _ next2 hq ⟨rfl,rfl⟩ hnx2
 rename_i h3
 refine⟨s,t,_,_,_,_,_,_,rfl,?_⟩
 refine⟨bt,ot,hta,by omega,by omega,c,l13.cell htc,?_⟩
 by_cases hlq:q<aE m.nodes p
 rotate_left
 ·refine aC (by simp;omega) ?_
  rw [ay (by omega)]
  exact hnx hlt _ _ ⟨l3,f93,rfl⟩
 refine aM (by simp;omega) ?_
 refine⟨bt,ot,hta,by omega,by omega,?_⟩
 (refine aD ?_)
 refine⟨c,l13.cell htc,?_⟩
 obtain⟨bc,oc,hca,hcc,hln⟩:=hcv3.elt (i:=q) (by omega)
 refine⟨bc,oc,hca,by omega,by omega,_,hcc,?_⟩
 have hlt2:(vs.getD i []).getD q 0<2^bL m.nodes p:=by
  rw [List.getD_eq_getElem?_getD,List.getElem?_eq_getElem (show q<(vs.getD i []).length by omega)]
  exact hg.2 _ (List.getElem_mem _)
 refine cO ⟨_,rfl,aC ?_ ?_⟩
 ·rw [Bool.not_eq_false',ib]
  refine⟨by omega,by omega,?_⟩
  rw [Int.toNat_natCast];omega
 ·rw [ay (by omega)]
  exact hnx2 hlq _ _ ⟨rfl,rfl⟩
theorem gF {h:Hp} {M:MSl} {m:ah} {t:Sl} {vs:List (List Nat)} {R:Value->Hp->Prop} (hs:aO h M m) (hm:bT m) (hc:aG m=0)
  (hv:IntSS h t (vs.map VL)) (hf:jQ m.nodes (stP m) vs) (k:R (.bool true) h):gh #[aQ M,t.v] h R:=by
 refine ACalls.drop (FQ ?_)
 refine uf_ ?_
 have g:=cD hc
 refine aj fun b8 h1 hb8 l1 f8=>?_
 repeat' (refine ku_ ?_)
 refine cj (hs.up (by((focus ((repeat (first|exact Hp.le_refl _|assumption|(refine Hp.le_trans ?_ (by assumption))));done))))) hm ⟨_,rfl,aM (by rw [hc];rfl) ?_⟩
 repeat' (refine ku_ ?_)
 refine cJ (hs.up (by((focus ((repeat (first|exact Hp.le_refl _|assumption|(refine Hp.le_trans ?_ (by assumption))));done))))) hm fun p h2 l2 i2=>⟨p,rfl,?_⟩
 repeat' (refine ku_ ?_)
 exact He (hs.up (by((focus ((repeat (first|exact Hp.le_refl _|assumption|(refine Hp.le_trans ?_ (by assumption))));done))))) hm g.ok i2 (bV g 36) (ge g 36) (hv.up (by((focus ((repeat (first|exact Hp.le_refl _|assumption|(refine Hp.le_trans ?_ (by assumption))));done))))) hf ⟨_,rfl,h,by((focus ((repeat (first|exact Hp.le_refl _|assumption|(refine Hp.le_trans ?_ (by assumption))));done))),k⟩
theorem T7 {m:ah} (g:cr m) {p k:Nat} (h:bO m.inits p=some k):k<m.nodes.length/\0<((kH m).getD k []).length/\((kH m).getD k []).length<=4:=by
 obtain⟨b,hb,_,rfl⟩:=dW h
 obtain⟨v1,v2,v3,v4,_,_⟩:=yD g hb
 exact⟨by omega,v3,v4⟩
theorem vd {h:Hp} {M:MSl} {m:ah} {t:Sl} {vs:List (List Nat)} {R:Value->Hp->Prop} (hs:aO h M m) (hm:bT m) (hc:aG m=0)
  (hv:IntSS h t (vs.map VL)) (hf:jQ m.nodes (stP m) vs) (k:R (.bool (ig (stP m) (ed m) vs (stP m).length)) h):pD #[aQ M,t.v] h R:=by
 refine ACalls.drop (Iw ?_)
 refine uf_ ?_
 have g:=cD hc
 have hil:=g.il
 have hnl:=g.nl
 have hp36:(stP m).length<=m.nodes.length:=dV m.nodes 36
 have htn:=hv.len
 rw [List.length_map]at htn
 have hvl:=j9 hf
 have hbn: ∀b∈m.inits,0<=b.node:=fun b hb=>(yD g hb).1
 refine aj fun b8 h1 hb8 l1 f8=>?_
 repeat' (refine ku_ ?_)
 refine gF (hs.up (by((focus ((repeat (first|exact Hp.le_refl _|assumption|(refine Hp.le_trans ?_ (by assumption))));done))))) hm hc (hv.up (by((focus ((repeat (first|exact Hp.le_refl _|assumption|(refine Hp.le_trans ?_ (by assumption))));done))))) hf ⟨_,rfl,aC rfl ?_⟩
 repeat' (refine ku_ ?_)
 refine Q8 (hs.up (by((focus ((repeat (first|exact Hp.le_refl _|assumption|(refine Hp.le_trans ?_ (by assumption))));done))))) hm g fun vt h2 l2 hvn hpv=>⟨vt,rfl,?_⟩
 repeat' (refine ku_ ?_)
 refine cJ (hs.up (by((focus ((repeat (first|exact Hp.le_refl _|assumption|(refine Hp.le_trans ?_ (by assumption))));done))))) hm fun pt h3 l3 ip=>⟨pt,rfl,?_⟩
 have hpn:pt.n=(stP m).length:=by have:=ip.len;rw [aX]at this;exact this
 have f83:=l3 _ _ (l2 _ _ f8)
 have hpv3:=hpv.mono l3
 have l03:=Hp.le_trans l1 (Hp.le_trans l2 l3)
 have aV:=xR g
 clear l2 l3 l1 hb8 f8 hpv h2
 refine au (stP m).length (fun i ws h'=>h3.le h'/\ws= [t.v, .pointer (some ⟨b8,0,none⟩),vt.v,pt.v,I i]/\ig (stP m) (ed m) vs i=true) ⟨Hp.le_refl _,rfl,rfl⟩ ?_
 rintro i _ h4 next hi ⟨l4,rfl,hg⟩ hnx
 have l04:=Hp.le_trans l03 l4
 refine⟨t,_,_,vt,pt,_,rfl,?_⟩
 by_cases hlt:i<(stP m).length
 rotate_left
 ·have hie:i=(stP m).length:=by omega
  subst hie
  refine aC (by simp;omega) ⟨_,l04,dL hg.symm k⟩
 refine aM (by simp;omega) ?_
 obtain⟨p,hpi⟩: ∃p,(stP m)[i]?=some p:=⟨_,List.getElem?_eq_getElem hlt⟩
 have hsucc:=HO (f:=ed m) (vs:=vs) hpi
 rw [hg,Bool.true_and]at hsucc
 obtain⟨b,o,ha,hcc⟩:=(ip.mono l4).get (iy hpi)
 refine⟨b,o,ha,by omega,by omega,?_⟩
 (refine ku_ ?_)
 refine⟨_,hcc,?_⟩
 refine lj (hs.mono l04).inits (by omega) hbn ⟨_,rfl,?_⟩
 refine ap (fun J=> ∀h',h4.le h'->J (!ig (stP m) (ed m) vs (i+1)) h') ?_ (fun J hJ=>?_)
 ·intro h' l'
  refine ad (fun e=>⟨_,Hp.le_trans l04 l',dL ?_ k⟩) (fun e=>?_)
  ·symm;exact Pf (i:=i+1) (by omega) (by simpa using e)
  ·rw [ay (by omega)]
   exact hnx hlt _ _ ⟨Hp.le_trans l4 l',rfl,by simpa using e⟩
 cases hbo:bO m.inits p with
 |none=>
  rw [show ic m.inits p= -1 from by unfold ic;rw [hbo]]
  refine aC (by simp) ⟨trivial,?_⟩
  have hn:ed m p=none:=by unfold ed;rw [hbo];rfl
  rw [hn]at hsucc
  have:=hJ h4 (Hp.le_refl _)
  rw [hsucc]at this;exact this
 |some q=>
  rw [show ic m.inits p=(q:Int)from by unfold ic;rw [hbo]]
  refine aM (by simp) ?_
  obtain⟨hq,v3,v4⟩:=T7 g hbo
  have hsm:ed m p=some (kQ (aE m.nodes p) ((kH m).getD q [])):=by unfold ed;rw [hbo];rfl
  have hfit:=uP g hsm
  have hcl:=dl m.nodes p
  have hgv:=lM hf hpi
  rw [hsm]at hsucc
  obtain⟨bt,ot,c,hta,htc,hcv⟩:=(hv.mono l04).getV (i:=i) (by omega)
  obtain⟨bv,ov,u,hua,hun,huc,huv⟩:=(hpv3.mono l4).at (p:=(q:Int)) (by omega) (by rw [aV.len];omega)
  have hcn:=hcv.len
  rw [aX]at hcn
  refine⟨bt,ot,hta,by omega,by omega,bv,ov,hua,by omega,hun,bt,ot,hta,by omega,by omega,c,htc,u,huc,c,htc,?_⟩
  rw [Int.toNat_natCast]at huv
  rw [hcn,hgv.1]
  have xbt:=fT htc
  refine Hw huv v3 v4 hcl fun w h5 l5 hw=>⟨w,rfl,?_⟩
  repeat' (((with_reducible apply mO);(assumption);(assumption)))
  refine A3 (hcv.mono l5) hw (by rw [aX];omega) (by rw [aX,aX,hgv.1,hfit.1];exact Nat.le_refl _) ⟨_,rfl,?_⟩
  have:=hJ h5 l5
  simp only at hsucc
  rw [hsucc]at this
  have e2:decide (VL (vs.getD i [])=VL (kQ (aE m.nodes p) ((kH m).getD q [])))=decide (vs.getD i []=kQ (aE m.nodes p) ((kH m).getD q [])):=by
   rw [Bool.eq_iff_iff,decide_eq_true_eq,decide_eq_true_eq,GI]
  rw [e2];exact this
section
variable {g h h':Hp} {L L' A B X:List (Nat×Blk)}
theorem Kn.app (K:Kn g h L) (l:h.le h') (n: ∀e∈X,h e.1=none) (f: ∀e∈X,h' e.1=some e.2) (nd:(X.map Prod.fst).Nodup):Kn g h' (L++X):=by
 refine⟨Hp.le_trans K.le l,fun e he=>?_,fun e he=>?_,?_⟩
 ·rcases List.mem_append.1 he with he|he
  ·exact l _ _ (K.mem e he)
  ·exact f e he
 ·rcases List.mem_append.1 he with he|he
  ·exact K.new e he
  ·exact aF K.le (n e he)
 ·rw [List.map_append,List.nodup_append]
  refine⟨K.nd,nd,fun a ha b hb hab=>?_⟩
  obtain⟨e,he,rfl⟩:=List.mem_map.1 ha
  obtain⟨e',he',rfl⟩:=List.mem_map.1 hb
  have h1:=K.mem e he
  have h2:=n e' he'
  rw [hab,h2]at h1;cases h1
theorem Kn.split (K:Kn g h (A++B)):Kn (h.wo (B.map Prod.fst)) h B/\Kn g (h.wo (B.map Prod.fst)) A:=by
 have nd:=K.nd
 rw [List.map_append,List.nodup_append]at nd
 refine⟨⟨uf _ _,fun e he=>K.mem e (List.mem_append_right _ he),fun e he=>fS (List.mem_map.2 ⟨e,he,rfl⟩),nd.2.1⟩,?_,fun e he=>?_,fun e he=>K.new e (List.mem_append_left _ he),nd.1⟩
 ·exact vQ K.le fun b hb=>by
   obtain⟨e,he,rfl⟩:=List.mem_map.1 hb
   exact K.new e (List.mem_append_right _ he)
 ·rw [v5]
  ·exact K.mem e (List.mem_append_left _ he)
  ·intro hb
   exact nd.2.2 _ (List.mem_map.2 ⟨e,he,rfl⟩) _ hb rfl
end
theorem list9 {cs:List Value} (h:cs.length=9): ∃a b c d e f g i j,cs= [a,b,c,d,e,f,g,i,j]:=by
 match cs,h with
 | [a,b,c,d,e,f,g,i,j],_=>exact⟨a,b,c,d,e,f,g,i,j,rfl⟩
theorem list2 {cs:List Value} (h:cs.length=2): ∃a b,cs= [a,b]:=by
 match cs,h with
 | [a,b],_=>exact⟨a,b,rfl⟩
theorem Got.flat {P:Program} {W:World} {t e:TypeId} {v:Value} {α:Type} {f:α->List Value} {m:Nat} {p:α->Prop} (hf: ∀x,(f x).length=m) (hpos:0<m) (ht:P.underlying t=some (.slice e)) (hsz:P.cellsOf e=m)
  (hg: ∀ds,Got P W e ds-> ∃x,ds=f x/\p x) (g:Got P W t [v]): ∃(s:Sl) (l:List α),v=s.v/\s.n<=s.c/\SlC (hW W) s m (l.flatMap f)/\ ∀x∈l,p x:=by
 obtain⟨s,hs,hm,hlc,h⟩:=Got.slice ht hsz hpos g
 simp only [List.cons.injEq,and_true]at hs
 rcases h with h|⟨b,o,ha,h⟩
 ·exact⟨s, [],hs,hlc,⟨hm,by simp [h], .inl h⟩,by simp⟩
 obtain⟨xs,hl,hx⟩:=IJ (p:=fun i (x:α)=>(∀(j:Nat) v,(f x)[j]?=some v->Hp.cell (hW W) b (o+i*m+j)=some v)/\p x) s.n fun i hi=>by
  obtain⟨ds,hd,hgd,hc⟩:=h i hi
  obtain⟨x,rfl,hp⟩:=hg ds hgd
  exact⟨x,hc,hp⟩
 refine⟨s,xs,hs,hlc,⟨hm,by rw [ck hf,hl], .inr ⟨b,o,ha,?_⟩⟩,?_⟩
 ·intro i v hv
  have hi:i<(xs.flatMap f).length:=(List.getElem?_eq_some_iff.1 hv).1
  rw [ck hf]at hi
  have hq:i/m<xs.length:=by rw [Nat.div_lt_iff_lt_mul hpos];exact hi
  have hr:i%m<m:=Nat.mod_lt _ hpos
  have he:i=i/m*m+i%m:=by rw [Nat.mul_comm];exact(Nat.div_add_mod _ _).symm
  rw [he,mT hf xs (i/m) xs[i/m] (i%m) (List.getElem?_eq_getElem hq) hr]at hv
  have:=(hx (i/m) hq).1 _ _ hv
  rw [he,<-Nat.add_assoc];exact this
 ·intro x hxm
  obtain⟨i,hi,rfl⟩:=List.getElem_of_mem hxm
  exact(hx i hi).2
def tb (n:Nat) (T:Nat->Bool):List Value:=(List.range n).map fun i=> .bool (T i)
theorem oe (n:Nat) (T:Nat->Bool):(tb n T).length=n:=by simp [tb]
theorem zL {n j:Nat} {T:Nat->Bool} (hj:j<n):(tb n T)[j]?=some (.bool (T j)):=by simp [tb,hj]
theorem ag0 {n:Nat} {T U:Nat->Bool} (h: ∀j,j<n->T j=U j):tb n T=tb n U:=by
 refine List.map_congr_left fun j hj=>?_
 rw [h j (List.mem_range.1 hj)]
theorem uy (n:Nat):List.replicate n (.bool false)=tb n fun _=>false:=by
 refine List.ext_getElem (by simp [tb]) fun i h1 h2=>?_
 simp [tb]
theorem vV {n j:Nat} {T:Nat->Bool} {v:Bool}:(tb n T).set j (.bool v)=tb n fun i=>if i=j then v else T i:=by
 refine List.ext_getElem (by simp [tb]) fun i h1 h2=>?_
 rw [List.getElem_set]
 simp only [tb,List.getElem_map,List.getElem_range]
 by_cases e:i=j
 ·rw [if_pos e,if_pos e.symm]
 ·rw [if_neg e,if_neg fun h=>e h.symm]
theorem agK (n:Nat) (T:Nat->Bool):tb n T=((List.range n).map T).map Value.bool:=by simp [tb]
theorem xV {h:Hp} {b n z:Nat} {ro:Bool} {T U:Nat->Bool} (hn:n<=9223372036854775807) (f:h b=some (.inl ⟨tb n T,z,ro⟩)) (e: ∀j,j<n->T j=U j):fu h (arr b n) n U:=by
 refine⟨by dsimp only;omega,by simp, .inr ⟨b,0,rfl,?_⟩⟩
 have:=aw f
 rwa [ag0 e,agK]at this
theorem mP {σ:aL} (ok:σ.Ok):2^σ.n<=256:=by
 have:=Nat.pow_le_pow_right (n:=2) (by omega) ok.nle
 simpa using this
theorem ME {σ:aL} (ok:σ.Ok):2^σ.k<=32:=by
 have:=Nat.pow_le_pow_right (n:=2) (by omega) ok.kle
 simpa using this
theorem wg {σ:aL} (ok:σ.Ok):2^(σ.n+σ.k)<=8192:=by
 have h1:=ok.nle
 have h2:=ok.kle
 have:=Nat.pow_le_pow_right (n:=2) (by omega) (show σ.n+σ.k<=13 by omega)
 simpa using this
def H1 (h:Hp) (s:Sl) (n m:Nat) (L:Nat->Nat->Bool):Prop:= ∃ts:List Sl,ts.length=m/\SlC h s 1 (ts.map Sl.v)/\ ∀(j:Nat) (t:Sl),ts[j]?=some t->fu h t n (L j)
theorem H1.mono {h h':Hp} {s:Sl} {n m:Nat} {L:Nat->Nat->Bool} (l:h.le h') (e:H1 h s n m L):H1 h' s n m L:=by
 obtain⟨ts,e1,e2,e3⟩:=e
 exact⟨ts,e1,e2.mono l,fun j t ht=>(e3 j t ht).mono l⟩
theorem H1.len {h:Hp} {s:Sl} {n m:Nat} {L:Nat->Nat->Bool} (e:H1 h s n m L):s.n=m:=by
 obtain⟨ts,e1,e2,_⟩:=e
 have:=e2.2.1
 simp at this;omega
theorem H1.get {h:Hp} {s:Sl} {n m i:Nat} {L:Nat->Nat->Bool} (e:H1 h s n m L) (hi:i<m):
  ∃b o t,s.a=some (Addr.mk b o none)/\(i:Int)<(s.n:Int)/\Hp.cell h b (o+Int.toNat (i:Int)*1)=some (Sl.v t)/\fu h t n (L i):=by
 have hl:=e.len
 obtain⟨ts,e1,e2,e3⟩:=e
 obtain⟨t,ht⟩: ∃t,ts[i]?=some t:=⟨_,List.getElem?_eq_getElem (by omega)⟩
 obtain⟨b,o,ha,hc⟩:=SlC.get e2 (by omega)
 refine⟨b,o,t,ha,by omega,?_,e3 i t ht⟩
 rw [Int.toNat_natCast,Nat.mul_one]
 exact hc i _ (by simp [ht])
def bR (X:List (Nat×Blk)) (s:Sl) (sz:Nat) (cs:List Value):Prop:=
 cs.length=s.n*sz/\s.n<=s.c/\((X= []/\s=⟨none,0,0⟩/\cs= [])\/ ∃b,s.a=some ⟨b,0,none⟩/\X= [(b, .inl ⟨cs,s.c*sz,false⟩)])
theorem cF (sz:Nat):bR [] ⟨none,0,0⟩ sz []:=⟨by simp,Nat.le_refl _, .inl ⟨rfl,rfl,rfl⟩⟩
theorem bR.buf {X:List (Nat×Blk)} {h:Hp} {s:Sl} {sz:Nat} {cs:List Value} (o:bR X s sz cs) (m: ∀e∈X,h e.1=some e.2):Buf h s sz cs:=by
 refine⟨o.1,o.2.1,?_⟩
 rcases o.2.2 with ⟨_,rfl,_⟩|⟨b,ha,rfl⟩
 ·exact .inl ⟨rfl,rfl,rfl⟩
 ·exact .inr ⟨b,ha,m _ (.head _)⟩
theorem Kn.perm {g h:Hp} {L L':List (Nat×Blk)} (K:Kn g h L) (p:L.Perm L'):Kn g h L':=K.sub (fun e he=>p.mem_iff.2 he) ((p.map Prod.fst).nodup_iff.1 K.nd)
theorem Kn.grow {g h:Hp} {X L:List (Nat×Blk)} {s:Sl} {sz by_ m:Nat} {cs news:List Value} {src:Option Addr} {C:Option Addr->Nat->Nat->Hp->Prop}
  (K:Kn g h (X++L)) (o:bR X s sz cs) (hm:0<m) (hsz:(s.n+m)*by_<=140737488355328) (hsz':s.n+m<=9223372036854775807)
  (hs: ∃sb so,src=some ⟨sb,so,none⟩/\ji h sb so news) (hl:news.length=m*sz) (ho:news.all (·.oneCell')=true)
  (k: ∀s' X' h',s'.n=s.n+m->bR X' s' sz (cs++news)->Kn g h' (X'++L)->(h.offS s).le h'->C s'.a s'.n s'.c h'):cy h s.a s.n s.c src m sz by_ C:=by
 refine dG (o.buf fun e he=>K.mem e (List.mem_append_left _ he)) hm hsz hsz' hs hl ho fun s' h' hn B l _=>?_
 have nd:=K.nd
 rw [List.map_append,List.nodup_append]at nd
 have base:g.le (h.offS s)/\ ∀e∈L,(h.offS s) e.1=some e.2:=by
  rcases o.2.2 with ⟨_,rfl,_⟩|⟨b,ha,rfl⟩
  ·exact⟨K.le,fun e he=>K.mem e (List.mem_append_right _ he)⟩
  ·unfold Hp.offS
   rw [ha]
   refine⟨zC (K.new (b,_) (.head _)) K.le,fun e he=>?_⟩
   have hne:e.1≠b:=fun hb=>nd.2.2 b (by simp) e.1 (List.mem_map.2 ⟨e,he,rfl⟩) hb.symm
   simp only [Hp.off,Hp.set]
   rw [if_neg hne];exact K.mem e (List.mem_append_right _ he)
 rcases B.2.2 with ⟨_,h0,_⟩|⟨b,ha,hb⟩
 ·omega
 have hoff:(h'.offS s') b=none:=by simp [Hp.offS,ha,Hp.off,Hp.set]
 refine k s' [(b, .inl ⟨cs++news,s'.c*sz,false⟩)] h' hn ⟨B.1,B.2.1, .inr ⟨b,ha,rfl⟩⟩ ?_ (Hp.le_trans l (aW h' s'))
 have lo:=aW h' s'
 have hg:g b=none:=by
  cases hgb:g b with
  |none=>rfl
  |some x=>rw [l _ _ (base.1 _ _ hgb)]at hoff;cases hoff
 refine⟨Hp.le_trans base.1 (Hp.le_trans l lo),fun e he=>?_,fun e he=>?_,?_⟩
 ·rcases List.mem_cons.1 he with rfl|he
  ·exact hb
  ·exact lo _ _ (l _ _ (base.2 e he))
 ·rcases List.mem_cons.1 he with rfl|he
  ·exact hg
  ·exact K.new e (List.mem_append_right _ he)
 ·show (b::L.map Prod.fst).Nodup
  rw [List.nodup_cons]
  refine⟨fun hm=>?_,nd.2.1⟩
  obtain⟨e,he,heb⟩:=List.mem_map.1 hm
  have:=l _ _ (base.2 e he)
  rw [heb,hoff]at this;cases this
theorem Kn.growIn {g h:Hp} {A X L:List (Nat×Blk)} {s:Sl} {sz by_ m:Nat} {cs news:List Value} {src:Option Addr} {C:Option Addr->Nat->Nat->Hp->Prop}
  (K:Kn g h (A++(X++L))) (o:bR X s sz cs) (hm:0<m) (hsz:(s.n+m)*by_<=140737488355328) (hsz':s.n+m<=9223372036854775807)
  (hs: ∃sb so,src=some ⟨sb,so,none⟩/\ji h sb so news) (hl:news.length=m*sz) (ho:news.all (·.oneCell')=true)
  (k: ∀s' X' h',s'.n=s.n+m->bR X' s' sz (cs++news)->Kn g h' (A++(X'++L))->(h.offS s).le h'->C s'.a s'.n s'.c h'):cy h s.a s.n s.c src m sz by_ C:=by
 have sw: ∀Y:List (Nat×Blk),(A++(Y++L)).Perm (Y++(A++L)):=fun Y=>by
  rw [<-List.append_assoc,<-List.append_assoc]
  exact List.perm_append_comm.append_right L
 exact Kn.grow (K.perm (sw X)) o hm hsz hsz' hs hl ho fun s' X' h' hn o' K' l=>k s' X' h' hn o' (K'.perm (sw X').symm) l
theorem Kn.growIn2 {g h:Hp} {A Y X L:List (Nat×Blk)} {s:Sl} {sz by_ m:Nat} {cs news:List Value} {src:Option Addr} {C:Option Addr->Nat->Nat->Hp->Prop}
  (K:Kn g h (A++(Y++(X++L)))) (o:bR X s sz cs) (hm:0<m) (hsz:(s.n+m)*by_<=140737488355328) (hsz':s.n+m<=9223372036854775807)
  (hs: ∃sb so,src=some ⟨sb,so,none⟩/\ji h sb so news) (hl:news.length=m*sz) (ho:news.all (·.oneCell')=true)
  (k: ∀s' X' h',s'.n=s.n+m->bR X' s' sz (cs++news)->Kn g h' (A++(Y++(X'++L)))->(h.offS s).le h'->C s'.a s'.n s'.c h'):cy h s.a s.n s.c src m sz by_ C:=by
 have sw: ∀Z:List (Nat×Blk),(A++(Y++(Z++L))).Perm (A++(Z++(Y++L))):=fun Z=>by
  refine List.Perm.append_left A ?_
  rw [<-List.append_assoc,<-List.append_assoc]
  exact List.perm_append_comm.append_right L
 exact Kn.growIn (K.perm (sw X)) o hm hsz hsz' hs hl ho fun s' X' h' hn o' K' l=>k s' X' h' hn o' (K'.perm (sw X').symm) l
theorem Kn.growIn3 {g h:Hp} {A Y Z X L:List (Nat×Blk)} {s:Sl} {sz by_ m:Nat} {cs news:List Value} {src:Option Addr} {C:Option Addr->Nat->Nat->Hp->Prop}
  (K:Kn g h (A++(Y++(Z++(X++L))))) (o:bR X s sz cs) (hm:0<m) (hsz:(s.n+m)*by_<=140737488355328) (hsz':s.n+m<=9223372036854775807)
  (hs: ∃sb so,src=some ⟨sb,so,none⟩/\ji h sb so news) (hl:news.length=m*sz) (ho:news.all (·.oneCell')=true)
  (k: ∀s' X' h',s'.n=s.n+m->bR X' s' sz (cs++news)->Kn g h' (A++(Y++(Z++(X'++L))))->(h.offS s).le h'->C s'.a s'.n s'.c h'):cy h s.a s.n s.c src m sz by_ C:=by
 have sw: ∀W:List (Nat×Blk),(A++(Y++(Z++(W++L)))).Perm (A++((Y++Z)++(W++L))):=fun W=>by rw [<-List.append_assoc Y Z]
 exact Kn.growIn2 (K.perm (sw X)) o hm hsz hsz' hs hl ho fun s' X' h' hn o' K' l=>k s' X' h' hn o' (K'.perm (sw X').symm) l
theorem gO.offG {X:List (Nat×Blk)} {h:Hp} {A s:Sl} {f:Nat->Bool} {n:Nat} {vs:List (List Nat)} (e:gO h s vs) (o:bR X A 1 ((List.range n).map fun i=> .bool (f i))) (m: ∀e∈X,h e.1=some e.2):gO (h.offS A) s vs:=by
 rcases o.2.2 with ⟨_,rfl,_⟩|⟨b,ha,rfl⟩
 ·exact e
 ·unfold Hp.offS
  rw [ha]
  refine e.keep (m _ (.head _)) (fun j i hj=>?_) (fun j t hj=>?_) fun c hc=>by simp [Hp.off,Hp.set,hc]
  ·simp only [List.getElem?_map,Option.map_eq_some_iff]at hj
   obtain⟨a,_,hj⟩:=hj
   cases hj
  ·simp only [List.getElem?_map,Option.map_eq_some_iff]at hj
   obtain⟨a,_,hj⟩:=hj
   cases hj
theorem gO.keepB {h h':Hp} {s:Sl} {b:Nat} {vs:List (List Nat)} (e:gO h s vs) (n: ∀o,s.a≠some (Addr.mk b o none)) (kp: ∀c,c≠b->h' c=h c) (ki: ∀o i,Hp.cell h b o=some (I i)->Hp.cell h' b o=some (I i)):gO h' s vs:=by
 have hc: ∀c o i,Hp.cell h c o=some (I i)->Hp.cell h' c o=some (I i):=fun c o i hi=>by
  by_cases e2:c=b
  ·subst e2;exact ki o i hi
  ·unfold Hp.cell at hi⊢;rw [kp c e2];exact hi
 refine⟨e.1,e.2.1,fun p hp=>?_⟩
 obtain⟨b',o,t,h1,h2,h3⟩:=e.2.2 p hp
 refine⟨b',o,t,h1,?_,h3.1,h3.2.1,h3.2.2.imp id ?_⟩
 ·have hne:b'≠b:=by rintro rfl;exact n o h1
  unfold Hp.cell at h2⊢;rw [kp b' hne];exact h2
 ·rintro ⟨c,o',ha,hcs⟩
  refine⟨c,o',ha,fun i v hv=>?_⟩
  have hvI:=hv
  rw [List.getElem?_map,Option.map_eq_some_iff]at hvI
  obtain⟨x,_,rfl⟩:=hvI
  exact hc _ _ _ (hcs i _ hv)
structure Gn where
 hs:Sl
 es:Sl
 ns:Sl
 fs:Sl
 bs:Sl
abbrev SS (σ:aL) (q:Gn):List Value:= [I (2^σ.n:Nat),I (2^σ.k:Nat),q.hs.v,q.es.v,q.ns.v,q.fs.v,q.bs.v]
abbrev Nu (σ:aL) (q:Gn):Value:= .agg #[I (2^σ.n:Nat),I (2^σ.k:Nat),q.hs.v,q.es.v,q.ns.v,q.fs.v,q.bs.v]
def FT (h:Hp) (q:Gn) (σ:aL):Prop:=fu h q.hs (2^(σ.n+σ.k)) σ.hold/\fu h q.es (2^(σ.n+σ.k)) σ.ends/\Lk h q.ns (2^(σ.n+σ.k)) σ.next/\
 (∃fm,fm+σ.fixed=2^σ.n-1/\IntS h q.fs (VL (iV fm)))/\fu h q.bs (2^σ.n) σ.begins
theorem FT.mono {h h':Hp} {q:Gn} {σ:aL} (l:h.le h') (e:FT h q σ):FT h' q σ:=by
 obtain⟨a,b,c,⟨fm,d1,d2⟩,f⟩:=e
 exact⟨a.mono l,b.mono l,c.mono l,⟨fm,d1,d2.mono l⟩,f.mono l⟩
theorem vB {α:Type} (f:Nat->α) (c:Nat):(List.range (c+1)).map f=(List.range c).map f++ [f c]:=by rw [List.range_succ,List.map_append];rfl
theorem Ux {m:ah} (g:cr m):mw m+(aZ m).fixed=2^(aZ m).n-1:=by
 have:=aaI m.nodes (fun p=>(bO m.nexts p).isSome) (stP m)
 have e:=eM g
 show mw m+TS m m.nexts=2^ak m.nodes 36-1
 rw [<-e,<-this,Nat.add_comm];rfl
theorem LN {h:Hp} {M:MSl} {m:ah} {R:Value->Hp->Prop} (hs:aO h M m) (hm:bT m) (hc0:aG m=0)
  (k: ∀q h',h.le h'->FT h' q (aZ m)->R (Nu (aZ m) q) h'):uv #[aQ M] h R:=by
 apply Qf
 refine uf_ ?_
 have g:=cD hc0
 have hn8:=g.n8
 have hk5':=g.k5
 have ok:=zl g
 have hp8:=mP ok
 have hk5:=ME ok
 have hp13:=wg ok
 have hnk:=aL.pow_nk (aZ m)
 have K0:=Kn.nil h
 (with_reducible apply Kn.al);(assumption);(intro b7 h1 K1 l1 hb7)
 (with_reducible apply Kn.al);(assumption);(intro b9 h2 K2 l2 hb9)
 clear K0 K1 l1 hb7
 repeat' (refine kr_ ?_)
 refine jg (hs.mono K2.le) hm ⟨_,rfl,?_⟩
 repeat' (refine kr_ ?_)
 refine jg (hs.mono K2.le) hm ⟨_,rfl,?_⟩
 rw [cY (by omega),cY (by omega),if_neg (by omega),if_neg (by omega),cw (by omega),cw (by omega),show ak m.nodes 36=(aZ m).n from rfl,show ak m.nodes 35=(aZ m).k from rfl]
 repeat' (refine kr_ ?_)
 refine PV (hs.mono K2.le) hm g fun F h3 l3 hF=>⟨_,rfl,?_⟩
 have hF':IntS (h3.wo (([(b9, .inl ⟨[I 0,I 0, .slice none 0 0, .slice none 0 0, .slice none 0 0, .slice none 0 0, .slice none 0 0],7,false⟩),(b7, .inl ⟨aH M,5,false⟩)]:List (Nat×Blk)).map Prod.fst)) F (VL (iV (mw m))):=
  SlC.mono (vQ (sub_le _ _) fun b hb=>by
   cases hx:h2 b with
   |none=>exact absurd hx (K2.has b hb)
   |some x=>exact mK hx) hF
 have K3:=(K2.mono l3).base
 have lg:=(K2.mono l3).leBase
 clear hF K2
 generalize h3.wo (([(b9, .inl ⟨[I 0,I 0, .slice none 0 0, .slice none 0 0, .slice none 0 0, .slice none 0 0, .slice none 0 0],7,false⟩),(b7, .inl ⟨aH M,5,false⟩)]:List (Nat×Blk)).map Prod.fst)=g3 at*
 have hs3:=hs.mono lg
 (with_reducible apply Kn.al);(assumption);(intro b38 h4 K4 l4 hb38)
 (((with_reducible apply Kn.wr);(assumption);((focus ((repeat first|exact .head|apply Upd.tail);done)))))
 ·exact Nat.le_refl _
 intro h5 K5 kp5
 simp only [bX,List.set_cons_zero,List.set_cons_succ,Nat.zero_add,Nat.reduceAdd]at K5
 clear kp5 K4 l4 hb38
 refine au (2^((aZ m).n+(aZ m).k)) (fun c vs h'=> ∃(A B C:Sl) (XA XB XC:List (Nat×Blk)),vs= [.pointer (some ⟨b7,0,none⟩), .pointer (some ⟨b9,0,none⟩), .pointer (some ⟨b38,0,none⟩),I c]/\
  Kn g3 h' ((b38, .inl ⟨[I (2^(aZ m).n:Nat),I (2^(aZ m).k:Nat),A.v,B.v,C.v,F.v,(⟨none,0,0⟩:Sl).v],7,false⟩)::(b9, .inl ⟨[I 0,I 0, .slice none 0 0, .slice none 0 0, .slice none 0 0, .slice none 0 0, .slice none 0 0],7,false⟩)::(b7, .inl ⟨aH M,5,false⟩)::(XA++(XB++(XC++ []))))/\bR XA A 1 ((List.range c).map fun i=> .bool ((aZ m).hold i))/\bR XB B 1 ((List.range c).map fun i=> .bool ((aZ m).ends i))/\
   bR XC C 1 ((List.range c).map fun i=>I ((aZ m).next i:Nat))) ⟨⟨none,0,0⟩,⟨none,0,0⟩,⟨none,0,0⟩, [], [], [],rfl,K5,cF _,cF _,cF _⟩ ?_
 clear K5 h5
 rintro c _ h5 nxt hc ⟨A,B,C,XA,XB,XC,rfl,K,oA,oB,oC⟩ hnx
 refine⟨b7,0,b9,0,b38,0,_,rfl,?_⟩
 repeat' (refine kr_ ?_)
 have hxy:((2^(aZ m).n:Nat):Int)*((2^(aZ m).k:Nat):Int)=((2^((aZ m).n+(aZ m).k):Nat):Int):=by rw [hnk,<-Int.natCast_mul,Nat.mul_comm]
 rw [hxy,fW (by omega)]
 have hAn:A.n=c:=by have:=oA.1;simp at this;omega
 have hBn:B.n=c:=by have:=oB.1;simp at this;omega
 have hCn:C.n=c:=by have:=oC.1;simp at this;omega
 by_cases hlt:c<2^((aZ m).n+(aZ m).k)
 ·refine aM (by rw [decide_eq_true_eq];exact_mod_cast hlt) ?_
  repeat' (refine kr_ ?_)
  refine CO (hs3.mono K.le) hm g hlt fun t h6 l6 htn hpv hnew=>⟨t,rfl,?_⟩
  have n38: ∀o,t.a≠some (Addr.mk b38 o none):=fun o ho=>by have:=hnew _ _ ho;rw [K.at (.head _)]at this;cases this
  replace K:=K.mono l6
  have a:Gs m (bK m (c%2^ak m.nodes 36) (c/2^ak m.nodes 36)):=dr g _ _
  have hv1:(aZ m).hold c=iC m (bK m (c%2^ak m.nodes 36) (c/2^ak m.nodes 36)):=rfl
  have hv2:(aZ m).bad c=(uc m (bK m (c%2^ak m.nodes 36) (c/2^ak m.nodes 36))).isSome:=rfl
  have hv3:(aZ m).next c=mZ m (c%2^ak m.nodes 36) (c/2^ak m.nodes 36):=rfl
  repeat' (refine kr_ ?_)
  refine Fc (hs3.mono K.le) g hpv a ⟨_,rfl,?_⟩
  repeat' (refine kr_ ?_)
  rw [<-hv1]
  refine aj fun b80 h7 hb80 l7 f80=>?_
  replace K:=K.mono l7
  replace hpv:=hpv.mono l7
  refine Kn.growIn (A:= [_,_,_]) K oA (by omega) (by omega) (by omega) ⟨b80,0,rfl,aw f80⟩ rfl rfl fun A' XA' h8 hn' oA' K8 l8=>?_
  replace hpv:=(hpv.offG oA fun e he=>K.mem e (by simp [he])).mono l8
  simp only [List.cons_append,List.nil_append]at K8
  (((with_reducible apply Kn.wr);(assumption);((focus ((repeat first|exact .head|apply Upd.tail);done)))))
  ·simp
  intro h9 K9 kp9
  have f8:=K8.at (.head _)
  have f9:=K9.at (.head _)
  simp only [bG,List.set_cons_zero,List.set_cons_succ,Nat.zero_add,Nat.reduceAdd]at K9
  rw [bG]at f9
  replace hpv:=hpv.keepB n38 kp9 fun o i hi=>by
   rw [ax f8]at hi
   rw [ax f9,List.getElem?_set]
   by_cases e:0+2=o
   ·subst e;simp at hi
   ·rw [if_neg e];exact hi
  clear f8 f9
  refine ap (fun J=> ∀(B':Sl) (XB':List (Nat×Blk)) (h':Hp),Kn g3 h' ((b38, .inl ⟨[I (2^(aZ m).n:Nat),I (2^(aZ m).k:Nat),A'.v,B'.v,C.v,F.v,(⟨none,0,0⟩:Sl).v],7,false⟩)::(b9, .inl ⟨[I 0,I 0, .slice none 0 0, .slice none 0 0, .slice none 0 0, .slice none 0 0, .slice none 0 0],7,false⟩)::(b7, .inl ⟨aH M,5,false⟩)::(XA'++(XB'++(XC++ []))))->bR XB' B' 1 ((List.range (c+1)).map fun i=> .bool ((aZ m).ends i))->J h') (fun B' XB' h10 K10 oB'=>?_) (fun J hJ=>?_)
  ·clear K9 K8 K hpv
   have hcm:c%2^(aZ m).n<=c:=Nat.mod_le _ _
   have hcd:c/2^(aZ m).n<=c:=Nat.div_le_self _ _
   have hpos:=Nat.two_pow_pos (aZ m).n
   repeat' (refine kr_ ?_)
   rw [if_neg (by omega)]
   repeat' (refine kr_ ?_)
   rw [if_neg (by omega),eP,show Int.tdiv (c:Int) ((2^(aZ m).n:Nat):Int)=((c/2^(aZ m).n:Nat):Int)from rfl,fW (by omega)]
   refine wP (hs3.mono K10.le) hm g (by omega) (by omega) ⟨_,rfl,?_⟩
   repeat' (refine kr_ ?_)
   refine aj fun b131 h11 hb131 l11 f131=>?_
   have K11:=K10.mono l11
   repeat' (refine kr_ ?_)
   refine Kn.growIn3 (A:= [_,_,_]) K11 oC (by omega) (by omega) (by omega) ⟨b131,0,rfl,aw f131⟩ rfl rfl fun C' XC' h12 hn2 oC' K12 _=>?_
   simp only [List.cons_append,List.nil_append]at K12
   (((with_reducible apply Kn.wr);(assumption);((focus ((repeat first|exact .head|apply Upd.tail);done)))))
   ·simp
   intro h13 K13 _
   simp only [bG,List.set_cons_zero,List.set_cons_succ,Nat.zero_add,Nat.reduceAdd]at K13
   rw [ay (by omega)]
   exact hnx hlt _ _ ⟨A',B',C',XA',XB',XC',rfl,K13,by rw [vB];exact oA',oB',by rw [vB];exact oC'⟩
  ·clear K8 K
   refine ad (fun e1=>?_) (fun e1=>?_)
   ·repeat' (refine kr_ ?_)
    refine LK (hs3.mono K9.le) g hpv a ⟨_,rfl,?_⟩
    repeat' (refine kr_ ?_)
    rw [LF,<-hv2]
    refine aj fun b99 h11 hb99 l11 f99=>?_
    have K11:=K9.mono l11
    repeat' (refine kr_ ?_)
    refine Kn.growIn2 (A:= [_,_,_]) K11 oB (by omega) (by omega) (by omega) ⟨b99,0,rfl,aw f99⟩ rfl rfl fun B' XB' h12 hn2 oB' K12 _=>?_
    simp only [List.cons_append,List.nil_append]at K12
    (((with_reducible apply Kn.wr);(assumption);((focus ((repeat first|exact .head|apply Upd.tail);done)))))
    ·simp
    intro h13 K13 _
    simp only [bG,List.set_cons_zero,List.set_cons_succ,Nat.zero_add,Nat.reduceAdd]at K13
    exact hJ B' XB' h13 K13 (by rw [vB];unfold aL.ends;rw [e1];exact oB')
   ·repeat' (refine kr_ ?_)
    refine aj fun b99 h11 hb99 l11 f99=>?_
    have K11:=K9.mono l11
    repeat' (refine kr_ ?_)
    refine Kn.growIn2 (A:= [_,_,_]) K11 oB (by omega) (by omega) (by omega) ⟨b99,0,rfl,aw f99⟩ rfl rfl fun B' XB' h12 hn2 oB' K12 _=>?_
    simp only [List.cons_append,List.nil_append]at K12
    (((with_reducible apply Kn.wr);(assumption);((focus ((repeat first|exact .head|apply Upd.tail);done)))))
    ·simp
    intro h13 K13 _
    simp only [bG,List.set_cons_zero,List.set_cons_succ,Nat.zero_add,Nat.reduceAdd]at K13
    exact hJ B' XB' h13 K13 (by rw [vB];unfold aL.ends;rw [e1];exact oB')
 ·refine aC (by rw [decide_eq_false_iff_not];omega) ?_
  clear hnx
  have hce:c=2^((aZ m).n+(aZ m).k):=by omega
  refine au (2^(aZ m).n) (fun d vs h'=> ∃(D:Sl) (XD:List (Nat×Blk)),vs= [.pointer (some ⟨b7,0,none⟩), .pointer (some ⟨b9,0,none⟩), .pointer (some ⟨b38,0,none⟩),I d]/\
   Kn g3 h' ((b38, .inl ⟨[I (2^(aZ m).n:Nat),I (2^(aZ m).k:Nat),A.v,B.v,C.v,F.v,D.v],7,false⟩)::(b9, .inl ⟨[I 0,I 0, .slice none 0 0, .slice none 0 0, .slice none 0 0, .slice none 0 0, .slice none 0 0],7,false⟩)::(b7, .inl ⟨aH M,5,false⟩)::(XD++(XA++(XB++(XC++ [])))))/\bR XD D 1 ((List.range d).map fun i=> .bool ((aZ m).begins i))) ⟨⟨none,0,0⟩, [],rfl,K,cF _⟩ ?_
  clear K h5 hlt hc
  rintro d _ h5 nxt2 hd ⟨D,XD,rfl,K,oD⟩ hnx2
  have hDn:D.n=d:=by have:=oD.1;simp at this;omega
  refine⟨b7,0,b9,0,b38,0,_,rfl,?_⟩
  repeat' (refine kr_ ?_)
  by_cases hld:d<2^(aZ m).n
  ·refine aM (by rw [decide_eq_true_eq];exact_mod_cast hld) ?_
   repeat' (refine kr_ ?_)
   refine cJ (hs3.mono K.le) hm fun p h6 l6 ip=>⟨p,rfl,?_⟩
   have K6:=K.mono l6
   repeat' (refine kr_ ?_)
   refine fN (hs3.mono K6.le) hm g.ok ip (bV g 36) (ge g 36) (by omega) (by have:=eM g;show cH m.nodes (stP m)<=60;omega) fun u h7 l7 iu=>⟨u,rfl,?_⟩
   have K7:=K6.mono l7
   repeat' (refine kr_ ?_)
   refine vd (hs3.mono K7.le) hm hc0 iu (by rw [jN];exact Jg _ _ _) ⟨_,rfl,?_⟩
   have hb:ig (stP m) (ed m) (dP m.nodes (av m.nodes 36) d) (stP m).length=(aZ m).begins d:=by
    rw [Bool.eq_iff_iff,jC,vq g]
   rw [hb]
   repeat' (refine kr_ ?_)
   refine aj fun b184 h8 hb184 l8 f184=>?_
   have K8:=K7.mono l8
   repeat' (refine kr_ ?_)
   refine Kn.growIn (A:= [_,_,_]) K8 oD (by omega) (by omega) (by omega) ⟨b184,0,rfl,aw f184⟩ rfl rfl fun D' XD' h9 hn2 oD' K9 _=>?_
   simp only [List.cons_append,List.nil_append]at K9
   (((with_reducible apply Kn.wr);(assumption);((focus ((repeat first|exact .head|apply Upd.tail);done)))))
   ·simp
   intro h10 K10 _
   simp only [bG,List.set_cons_zero,List.set_cons_succ,Nat.zero_add,Nat.reduceAdd]at K10
   rw [ay (by omega)]
   exact hnx2 hld _ _ ⟨D',XD',rfl,K10,by rw [vB];exact oD'⟩
  ·have hde:d=2^(aZ m).n:=by omega
   refine aC (by rw [decide_eq_false_iff_not];omega) ?_
   clear hnx2
   repeat' (refine kr_ ?_)
   (((with_reducible apply Kn.wr);(assumption);((focus ((repeat first|exact .head|apply Upd.tail);done)))))
   ·simp
   intro h6 K6 _
   simp only [bX,List.set_cons_zero,List.set_cons_succ,Nat.zero_add,Nat.reduceAdd]at K6
   repeat' (refine kr_ ?_)
   subst hce hde
   refine k ⟨A,B,C,F,D⟩ h6 (Hp.le_trans lg K6.le) ⟨?_,?_,?_,⟨mw m,Ux g,hF'.mono K6.le⟩,?_⟩
   ·have:=(oA.buf fun e he=>K6.mem e (by simp [he])).slc_of (by omega)
    unfold fu th;rw [List.map_map];exact this
   ·have:=(oB.buf fun e he=>K6.mem e (by simp [he])).slc_of (by omega)
    unfold fu th;rw [List.map_map];exact this
   ·have:=(oC.buf fun e he=>K6.mem e (by simp [he])).slc_of (by omega)
    unfold Lk IntS VL;rw [List.map_map,List.map_map];exact this
   ·have:=(oD.buf fun e he=>K6.mem e (by simp [he])).slc_of (by omega)
    unfold fu th;rw [List.map_map];exact this
theorem Qa {h:Hp} {s:Sl} {N:Nat} {T:Nat->Bool} {R:Value->Hp->Prop} (hT:fu h s N T) (hN:N<=1048576) (k:R (.bool (ry N T)) h):vj #[s.v] h R:=by
 apply Ka
 refine uf_ ?_
 have hl:=hT.len
 refine au N (fun i vs h'=>vs= [s.v,I i]/\h=h'/\ ∀j,j<i->T j=false) ⟨rfl,rfl,fun j hj=>by omega⟩ ?_
 rintro i _ _ next hi ⟨rfl,rfl,hj⟩ hnx
 refine⟨s,_,rfl,?_⟩
 by_cases hlt:i<N
 ·refine aM (by rw [decide_eq_true_eq];omega) ?_
  obtain⟨b,o,ha,h1,h2⟩:=hT.get hlt
  refine⟨b,o,ha,by omega,h1,_,h2,?_⟩
  refine ad (fun e=>?_) (fun e=>?_)
  ·rw [db.2 ⟨i,hlt,e⟩]at k;exact k
  ·rw [ay (by omega)]
   refine hnx hlt _ _ ⟨rfl,rfl,fun j hji=>?_⟩
   by_cases eq:j=i
   ·rw [eq];exact e
   ·exact hj j (by omega)
 ·refine aC (by rw [decide_eq_false_iff_not];omega) ?_
  rw [sG.2 fun j hjn=>hj j (by omega)]at k;exact k
theorem OD {σ:aL} (S:Nat->Bool):ry (2^(σ.n+σ.k)) (fun c=>S (c%2^σ.n)&&σ.ends c)=σ.met S:=by
 rw [Bool.eq_iff_iff,db]
 unfold aL.met
 rw [db]
 constructor
 ·rintro ⟨c,hc,e⟩
  rw [Bool.and_eq_true]at e
  obtain⟨h1,h2,h3⟩:=aL.at_of hc
  refine⟨c%2^σ.n,h1,?_⟩
  rw [e.1,Bool.true_and,aL.endsAt_iff]
  have:=e.2
  unfold aL.ends at this
  rw [Bool.and_eq_true]at this
  exact⟨c/2^σ.n,h2,by rw [h3];exact this⟩
 ·rintro ⟨s,hs,e⟩
  rw [Bool.and_eq_true,aL.endsAt_iff]at e
  obtain⟨e1,x,hx,e2,e3⟩:=e
  refine⟨σ.at_ s x,aL.at_lt hs hx,?_⟩
  unfold aL.ends
  rw [aL.at_mod hs,e1,e2,e3];rfl
theorem RY {h:Hp} {q:Gn} {σ:aL} {s:Sl} {S:Nat->Bool} {R:Value->Hp->Prop} (hq:FT h q σ) (ok:σ.Ok) (hS:fu h s (2^σ.n) S) (k:R (.bool (σ.met S)) h):
  xz #[Nu σ q,s.v] h R:=by
 refine ACalls.drop (MV ?_)
 refine uf_ ?_
 have hn:=mP ok
 have hp:=wg ok
 have hpos:=Nat.two_pow_pos σ.n
 refine aj fun b10 h1 hb10 l1 f10=>?_
 have he:=hq.2.1.mono l1
 have hS1:=hS.mono l1
 have hel:=he.len
 refine au (2^(σ.n+σ.k)) (fun i vs h'=>vs= [s.v, .pointer (some ⟨b10,0,none⟩),I i]/\h1=h'/\ ∀j,j<i->(S (j%2^σ.n)&&σ.ends j)=false) ⟨rfl,rfl,fun j hj=>by omega⟩ ?_
 rintro i _ _ next hi ⟨rfl,rfl,hj⟩ hnx
 refine⟨s,b10,0,_,rfl,?_⟩
 (refine aD ?_)
 by_cases hlt:i<2^(σ.n+σ.k)
 ·refine aM (by rw [decide_eq_true_eq];omega) ?_
  have go:(S (i%2^σ.n)&&σ.ends i)=false->next [s.v, .pointer (some ⟨b10,0,none⟩),I (W ((i:Int)+1))] h1:=fun e=>by
   rw [ay (by omega)]
   refine hnx hlt _ _ ⟨rfl,rfl,fun j hji=>?_⟩
   by_cases eq:j=i
   ·rw [eq];exact e
   ·exact hj j (by omega)
  (refine aD ?_)
  rw [if_neg (by omega),eP]
  obtain⟨b,o,ha,h2,h3⟩:=hS1.get (i:=i%2^σ.n) (Nat.mod_lt _ hpos)
  refine⟨b,o,ha,by omega,h2,_,h3,?_⟩
  refine ad (fun e=>?_) (fun e=>?_)
  ·(refine aD ?_)
   obtain⟨b,o,ha,h2,h3⟩:=he.get hlt
   refine⟨b,o,ha,by omega,h2,_,h3,?_⟩
   refine ad (fun e2=>?_) (fun e2=>?_)
   ·refine⟨h,l1,?_⟩
    rw [<-OD,db.2 ⟨i,hlt,by rw [e,e2];rfl⟩]at k;exact k
   ·exact go (by rw [e2,Bool.and_false])
  ·exact go (by rw [e];rfl)
 ·refine aC (by rw [decide_eq_false_iff_not];omega) ⟨h,l1,?_⟩
  rw [<-OD,sG.2 fun j hjn=>hj j (by omega)]at k;exact k
theorem GZ {k f:Nat}:f∈iV k↔f&&&k=f:=by
 unfold iV
 rw [List.mem_filter,List.mem_range,decide_eq_true_eq]
 refine⟨fun h=>h.2,fun h=>⟨?_,h⟩⟩
 have:f&&&k<=k:=Nat.and_le_right
 omega
theorem uU {σ:aL} {fm c t:Nat} (ok:σ.Ok) (hfm:fm+σ.fixed=2^σ.n-1) (hc:c<2^(σ.n+σ.k)) (ht:t<2^σ.n):σ.goes c t=true↔ ∃f,f∈iV fm/\σ.next c+f=t:=by
 unfold aL.goes
 rw [decide_eq_true_eq,acL (y:=fm) (by omega) ok.fixed ht (ok.next c hc) (ok.held c hc)]
 constructor
 ·rintro ⟨f,h1,h2⟩;exact⟨f,GZ.2 h1,h2⟩
 ·rintro ⟨f,h1,h2⟩;exact⟨f,GZ.1 h1,h2⟩
theorem IS {σ:aL} {fm c f:Nat} (ok:σ.Ok) (hfm:fm+σ.fixed=2^σ.n-1) (hc:c<2^(σ.n+σ.k)) (hf:f∈iV fm):σ.next c+f<2^σ.n:=by
 have h1:=GZ.1 hf
 have h2:f&&&fm<=fm:=Nat.and_le_right
 have h3:=ok.held c hc
 have h4:σ.next c&&&σ.fixed<=σ.fixed:=Nat.and_le_right
 have:=Nat.two_pow_pos σ.n
 omega
theorem MA {h:Hp} {q:Gn} {σ:aL} {s:Sl} {S:Nat->Bool} {R:Value->Hp->Prop} (hq:FT h q σ) (ok:σ.Ok) (hS:fu h s (2^σ.n) S)
  (k: ∀b' T h',Kn h h' [(b', .inl ⟨tb (2^σ.n) T,2^σ.n,false⟩)]->(∀j,j<2^σ.n->T j=σ.fwd σ.hold S j)->R (arr b' (2^σ.n)).v h'):sk #[Nu σ q,s.v] h R:=by
 apply Gf
 refine uf_ ?_
 have hn:=mP ok
 have hp:=wg ok
 have hpos:=Nat.two_pow_pos σ.n
 obtain⟨hh,_,hx,⟨fm,hfm,hfl⟩,_⟩:=id hq
 have hhl:=hh.len
 have hxl:=IntS.len hx
 rw [aX,List.length_map,List.length_range]at hxl
 have hfll:=IntS.len hfl
 rw [aX]at hfll
 have hfb:(iV fm).length<=2^σ.n:=by
  have h1:(iV fm).length<=fm+1:=by unfold iV;have:=List.length_filter_le (fun c=>decide (c&&&fm=c)) (List.range (fm+1));simpa using this
  omega
 have K0:=Kn.nil h
 (with_reducible apply Kn.al);(assumption);(intro b10 h1 K1 l1 hb10)
 (refine kr_ ?_)
 refine⟨Int.natCast_nonneg _,Int.le_refl _,by omega,by omega,?_⟩
 (with_reducible apply Kn.al);(assumption);(intro b14 h2 K2 l2 hb14)
 rw [Int.toNat_natCast,Nat.mul_one,cE,uy]at K2
 rw [Int.toNat_natCast]
 refine au (2^(σ.n+σ.k)) (fun c vs h'=>vs= [s.v, .pointer (some ⟨b10,0,none⟩),(arr b14 (2^σ.n)).v,I c]/\
  ∃T,Kn h h' [(b14, .inl ⟨tb (2^σ.n) T,2^σ.n,false⟩),(b10, .inl ⟨SS σ q,7,false⟩)]/\ ∀x,T x=true↔ ∃c',c'<c/\S (c'%2^σ.n)=true/\σ.hold c'=true/\ ∃f,f∈iV fm/\σ.next c'+f=x)
  ⟨rfl,_,K2,fun x=>⟨fun e=>by simp at e,fun⟨c',e,_⟩=>by omega⟩⟩ ?_
 clear K2 K1 K0 l1 l2 hb10 hb14 h1 h2
 rintro c _ h1 nxt hc ⟨rfl,T,K1,hT⟩ hnx
 refine⟨s,b10,0,arr b14 _,_,rfl,?_⟩
 (refine kr_ ?_)
 by_cases hlt:c<2^(σ.n+σ.k)
 rotate_left
 ·refine aC (by rw [decide_eq_false_iff_not];omega) ?_
  refine k b14 T h1 (K1.sub (fun e he=>by rw [List.mem_singleton]at he;subst he;exact .head _) (by simp)) fun j hj=>?_
  rw [Bool.eq_iff_iff,hT,aL.fwd_iff]
  constructor
  ·rintro ⟨c',q1,q2,q3,q4⟩
   have hc':c'<2^(σ.n+σ.k):=by omega
   obtain⟨a1,a2,a3⟩:=aL.at_of hc'
   exact⟨c'%2^σ.n,c'/2^σ.n,a1,a2,q2,by rw [a3];exact q3,by rw [a3];exact(uU ok hfm hc' hj).2 q4⟩
  ·rintro ⟨s',i',q1,q2,q3,q4,q5⟩
   have hc':=aL.at_lt q1 q2
   exact⟨σ.at_ s' i',by omega,by rw [aL.at_mod q1];exact q3,q4,(uU ok hfm hc' hj).1 q5⟩
 refine aM (by rw [decide_eq_true_eq];omega) ?_
 have skip:(S (c%2^σ.n)&&σ.hold c)=false->nxt [s.v, .pointer (some ⟨b10,0,none⟩),(arr b14 (2^σ.n)).v,I (W ((c:Int)+1))] h1:=fun e=>by
  rw [ay (by omega)]
  refine hnx hlt _ _ ⟨rfl,T,K1,fun x=>?_⟩
  rw [hT]
  constructor
  ·rintro ⟨c',q1,q⟩;exact⟨c',by omega,q⟩
  ·rintro ⟨c',q1,q2,q3,q4⟩
   by_cases e2:c'=c
   ·rw [e2]at q2 q3;rw [q2,q3]at e;cases e
   ·exact⟨c',by omega,q2,q3,q4⟩
 rw [jD]
 (refine kr_ ?_)
 rw [if_neg (by omega),eP]
 obtain⟨b,o,ha,e1,e2⟩:=(hS.mono K1.le).get (i:=c%2^σ.n) (Nat.mod_lt _ hpos)
 refine⟨b,o,ha,by omega,e1,_,e2,?_⟩
 refine ad (fun e=>?_) (fun e=>?_)
 ·exact aM rfl (skip (by have:S (c%2^σ.n)=false:=by simpa using e
                         rw [this];rfl))
 have eS:S (c%2^σ.n)=true:=by simpa using e
 (refine kr_ ?_)
 obtain⟨b,o,ha,e1,e2⟩:=(hh.mono K1.le).get hlt
 refine⟨b,o,ha,by omega,e1,_,e2,?_⟩
 refine ad (fun e=>?_) (fun e=>?_)
 ·exact skip (by have:σ.hold c=false:=by simpa using e
                 rw [this,Bool.and_false])
 have eH:σ.hold c=true:=by simpa using e
 refine au (iV fm).length (fun j vs h'=>vs= [s.v, .pointer (some ⟨b10,0,none⟩),(arr b14 (2^σ.n)).v,I c,I j]/\
  ∃U,Kn h h' [(b14, .inl ⟨tb (2^σ.n) U,2^σ.n,false⟩),(b10, .inl ⟨SS σ q,7,false⟩)]/\ ∀x,U x=true↔T x=true\/ ∃f,f∈(iV fm).take j/\σ.next c+f=x)
  ⟨rfl,T,K1,fun x=>⟨fun q=> .inl q,fun q=>q.resolve_right fun⟨f,q1,_⟩=>by simp at q1⟩⟩ ?_
 clear skip K1
 rintro j _ h1 nxt2 hj ⟨rfl,U,K1,hU⟩ hnx2
 refine⟨s,b10,0,arr b14 _,_,_,rfl,?_⟩
 (refine kr_ ?_)
 by_cases hlj:j<(iV fm).length
 rotate_left
 ·refine aC (by rw [decide_eq_false_iff_not];omega) ?_
  rw [ay (by omega)]
  refine hnx hlt _ _ ⟨rfl,U,K1,fun x=>?_⟩
  rw [hU,hT,List.take_of_length_le (by omega)]
  constructor
  ·rintro (⟨c',q1,q⟩|q)
   ·exact⟨c',by omega,q⟩
   ·exact⟨c,by omega,eS,eH,q⟩
  ·rintro ⟨c',q1,q2,q3,q4⟩
   by_cases e2:c'=c
   ·rw [e2]at q4;exact .inr q4
   ·exact .inl ⟨c',by omega,q2,q3,q4⟩
 refine aM (by rw [decide_eq_true_eq];omega) ?_
 (refine kr_ ?_)
 obtain⟨b,o,ha,e1,e2⟩:=Lk.get (hx.mono K1.le) hlt
 refine⟨b,o,ha,by omega,e1,_,e2,?_⟩
 (refine kr_ ?_)
 obtain⟨f,hf⟩: ∃f,(iV fm)[j]?=some f:=⟨_,List.getElem?_eq_getElem hlj⟩
 obtain⟨b,o,ha,e3⟩:=(hfl.mono K1.le).get (iy hf)
 refine⟨b,o,ha,by omega,by omega,_,e3,?_⟩
 have hlf:=IS ok hfm hlt (List.mem_of_getElem? hf)
 rw [<-Int.natCast_add,fW (by omega)]
 refine⟨b14,0,rfl,by omega,by dsimp only;omega,?_⟩
 (((with_reducible apply Kn.wr);(assumption);((focus ((repeat first|exact .head|apply Upd.tail);done)))))
 ·rw [oe];omega
 intro h2 K2 _
 rw [bG,Nat.zero_add,Int.toNat_natCast,Nat.mul_one,vV]at K2
 rw [ay (by omega)]
 refine hnx2 hlj _ _ ⟨rfl,_,K2,fun x=>?_⟩
 rw [List.take_add_one,hf]
 by_cases ex:x=σ.next c+f
 ·rw [if_pos ex]
  exact⟨fun _=> .inr ⟨f,by simp,ex.symm⟩,fun _=>rfl⟩
 ·rw [if_neg ex,hU]
  constructor
  ·rintro (q|⟨f',q1,q2⟩)
   ·exact .inl q
   ·exact .inr ⟨f',List.mem_append_left _ q1,q2⟩
  ·rintro (q|⟨f',q1,q2⟩)
   ·exact .inl q
   ·rcases List.mem_append.1 q1 with q1|q1
    ·exact .inr ⟨f',q1,q2⟩
    ·simp at q1;subst q1;exact absurd q2.symm ex
theorem JE {h:Hp} {q:Gn} {σ:aL} {R:Value->Hp->Prop} (hq:FT h q σ) (ok:σ.Ok)
  (k: ∀s h',h.le h'->H1 h' s (2^σ.n) σ.nLay σ.front->R (Sl.v s) h'):rP #[Nu σ q] h R:=by
 apply G2
 refine uf_ ?_
 have hn:=mP ok
 have h8:=ok.nle
 have K0:=Kn.nil h
 (with_reducible apply Kn.al);(assumption);(intro b9 h1 K1 l1 hb9)
 (refine kr_ ?_)
 refine⟨Int.natCast_nonneg _,Int.le_refl _,by omega,by omega,?_⟩
 (with_reducible apply Kn.al);(assumption);(intro b14 h2 K2 l2 hb14)
 rw [Int.toNat_natCast,Nat.mul_one,cE,uy]at K2
 rw [Int.toNat_natCast]
 (refine kr_ ?_)
 refine au (2^σ.n) (fun i vs h'=> ∃(out fr:Sl) (g:Hp) (V:Nat->Bool) (ts:List Sl),vs= [.pointer (some ⟨b9,0,none⟩),out.v,(arr b14 (2^σ.n)).v,fr.v]/\
  h.le g/\Kn g (h'.offS out) [(b14, .inl ⟨tb (2^σ.n) V,2^σ.n,false⟩),(b9, .inl ⟨SS σ q,7,false⟩)]/\fu g fr (2^σ.n) (σ.front i)/\Buf h' out 1 (ts.map Sl.v)/\ts.length=i/\
  (∀(j:Nat) (t:Sl),ts[j]?=some t->fu g t (2^σ.n) (σ.front j))/\(∀j,j<2^σ.n->V j=σ.seen i j)/\ ∀j,j<i->σ.live j=true)
  ⟨⟨none,0,0⟩,q.bs,h,_, [],rfl,Hp.le_refl _,K2,hq.2.2.2.2,fD _ _,rfl,fun j t ht=>by simp at ht,fun _ _=>rfl,fun j hj=>by omega⟩ ?_
 clear K2 K1 K0 l1 l2 hb9 hb14 h1 h2
 rintro i _ h1 nxt hi ⟨out,fr,g,V,ts,rfl,lg,K1,hF,hB,htl,ht,hV,hlive⟩ hnx
 refine⟨b9,0,out,arr b14 _,fr,rfl,?_⟩
 have K1':=K1.mono (aW h1 out)
 have hbF:=hF.mono K1'.le
 have hon:=hB.1
 rw [List.length_map,Nat.mul_one]at hon
 refine Qa hbF (by omega) ⟨_,rfl,?_⟩
 refine ad (fun e=>?_) (fun e=>?_)
 rotate_left
 ·have hnl:σ.nLay=i:=aL.nLay_of hlive e
  exact k out h1 (Hp.le_trans lg K1'.le) ⟨ts,by omega,hB.slc_of (by omega),fun j t hj=>(ht j t hj).mono K1'.le⟩
 have hlive': ∀j,j<i+1->σ.live j=true:=fun j hj=>by
  by_cases e2:j=i
  ·rw [e2];exact e
  ·exact hlive j (by omega)
 have hlt:i<2^σ.n:=aL.live_le hlive'
 refine aj fun b34 h2 hb34 l2 f34=>?_
 refine dG (hB.mono l2) (by omega) (by omega) (by omega) ⟨b34,0,rfl,aw f34⟩ (by simp) rfl ?_
 intro s' h3 hs'n hB' l3 _
 have K2:=K1.mono (Hp.le_trans (bC out l2) l3)
 have K2':=K2.mono (aW h3 s')
 repeat' (refine kr_ ?_)
 refine MA (hq.mono (Hp.le_trans lg K2'.le)) ok (hF.mono K2'.le) fun bB T h4 K5 hT=>⟨_,rfl,?_⟩
 have hbB:h3 bB=none:=K5.new _ (.head _)
 have K6:=K2.cons (b:=bB) (aF (aW h3 s') hbB) (bC s' K5.le) (hB'.offS_new hbB (K5.at (.head _)))
 have hB4:=hB'.mono K5.le
 have K6':=K6.mono (aW h4 s')
 (refine kr_ ?_)
 refine⟨Int.natCast_nonneg _,Int.le_refl _,by omega,by omega,?_⟩
 refine aj fun b53 h5 hb53 l5 f53=>?_
 rw [Int.toNat_natCast,Nat.mul_one,cE,uy]at f53
 rw [Int.toNat_natCast]
 have K7:=K6.cons (b:=b53) (aF (aW h4 s') hb53) (bC s' l5) (hB4.offS_new hb53 f53)
 have hB5:=hB4.mono l5
 refine au (2^σ.n) (fun x vs h'=>vs= [.pointer (some ⟨b9,0,none⟩),s'.v,(arr b14 (2^σ.n)).v,fr.v,(arr bB (2^σ.n)).v,(arr b53 (2^σ.n)).v,I x]/\
  ∃V,Kn g (h'.offS s') [(b53, .inl ⟨tb (2^σ.n) fun _=>false,2^σ.n,false⟩),(bB, .inl ⟨tb (2^σ.n) T,2^σ.n,false⟩),(b14, .inl ⟨tb (2^σ.n) V,2^σ.n,false⟩),(b9, .inl ⟨SS σ q,7,false⟩)]/\
   Buf h' s' 1 (ts.map Sl.v++ [fr.v])/\ ∀j,j<2^σ.n->V j=if j<x then σ.seen (i+1) j else σ.seen i j)
  ⟨rfl,V,K7,hB5,fun j hj=>by rw [if_neg (by omega)];exact hV j hj⟩ ?_
 clear K7 hB5 hB4 K6 K6' K5 hV hbF K1'
 rintro x _ h6 nxt1 hx ⟨rfl,V,K,B,hV⟩ hnx1
 refine⟨b9,0,s',arr b14 _,fr,arr bB _,arr b53 _,_,rfl,?_⟩
 have K':=K.mono (aW h6 s')
 (refine kr_ ?_)
 by_cases hlx:x<2^σ.n
 ·refine aM (by rw [decide_eq_true_eq];exact_mod_cast hlx) ?_
  have hVx:V x=σ.seen i x:=by rw [hV x hlx,if_neg (by omega)]
  have fin: ∀v h7,v=σ.seen (i+1) x->Kn g (h7.offS s') [(b53, .inl ⟨tb (2^σ.n) fun _=>false,2^σ.n,false⟩),(bB, .inl ⟨tb (2^σ.n) T,2^σ.n,false⟩),(b14, .inl ⟨(tb (2^σ.n) V).set x (.bool v),2^σ.n,false⟩),(b9, .inl ⟨SS σ q,7,false⟩)]->
    Buf h7 s' 1 (ts.map Sl.v++ [fr.v])->nxt1 [.pointer (some ⟨b9,0,none⟩),s'.v,(arr b14 (2^σ.n)).v,fr.v,(arr bB (2^σ.n)).v,(arr b53 (2^σ.n)).v,I (W ((x:Int)+1))] h7:=by
   intro v h7 hv K7 B7
   rw [ay (by omega)]
   rw [vV]at K7
   refine hnx1 hlx _ _ ⟨rfl,_,K7,B7,fun j hj=>?_⟩
   by_cases e2:j=x
   ·rw [if_pos e2,if_pos (by omega),e2];exact hv
   ·rw [if_neg e2,hV j hj]
    by_cases e3:j<x
    ·rw [if_pos e3,if_pos (by omega)]
    ·rw [if_neg e3,if_neg (by omega)]
  refine⟨b14,0,rfl,by omega,by dsimp only;omega,?_⟩
  refine Kn.rd K' (.tail _ (.tail _ (.head _))) (x:=V x) (by rw [Nat.zero_add,Nat.mul_one,Int.toNat_natCast];exact zL hlx) ?_
  refine ad (fun e2=>?_) (fun e2=>?_)
  ·refine⟨b14,0,rfl,by omega,by dsimp only;omega,?_⟩
   (with_reducible apply Kn.wrS);(exact K);((focus ((repeat first|exact .head|apply Upd.tail);done)))
   ·rw [oe];omega
   intro h7 K7 B7 _
   rw [bG,Nat.zero_add,Int.toNat_natCast,Nat.mul_one]at K7
   exact fin _ h7 (by rw [aL.seen_succ,<-hVx,e2];rfl) K7 (B7 _ _ B)
  ·obtain⟨b,o,ha,e3,e4⟩:=(hF.mono K'.le).get hlx
   refine⟨b,o,ha,by omega,e3,_,e4,?_⟩
   refine⟨b14,0,rfl,by omega,by dsimp only;omega,?_⟩
   (with_reducible apply Kn.wrS);(exact K);((focus ((repeat first|exact .head|apply Upd.tail);done)))
   ·rw [oe];omega
   intro h7 K7 B7 _
   rw [bG,Nat.zero_add,Int.toNat_natCast,Nat.mul_one]at K7
   exact fin _ h7 (by rw [aL.seen_succ,<-hVx,e2];rfl) K7 (B7 _ _ B)
 refine aC (by rw [decide_eq_false_iff_not];omega) ?_
 replace hV: ∀j,j<2^σ.n->V j=σ.seen (i+1) j:=fun j hj=>by rw [hV j hj,if_pos (by omega)]
 refine au (2^σ.n) (fun x vs h'=>vs= [.pointer (some ⟨b9,0,none⟩),s'.v,(arr b14 (2^σ.n)).v,(arr bB (2^σ.n)).v,(arr b53 (2^σ.n)).v,I x]/\
  ∃F,Kn g (h'.offS s') [(b53, .inl ⟨tb (2^σ.n) F,2^σ.n,false⟩),(bB, .inl ⟨tb (2^σ.n) T,2^σ.n,false⟩),(b14, .inl ⟨tb (2^σ.n) V,2^σ.n,false⟩),(b9, .inl ⟨SS σ q,7,false⟩)]/\
   Buf h' s' 1 (ts.map Sl.v++ [fr.v])/\ ∀j,j<x->F j=σ.front (i+1) j) ⟨rfl,_,K,B,fun j hj=>by omega⟩ ?_
 clear K B K' h6 hnx1 hx hlx
 rintro x _ h6 nxt1 hx ⟨rfl,F,K,B,hFx⟩ hnx1
 refine⟨b9,0,s',arr b14 _,arr bB _,arr b53 _,_,rfl,?_⟩
 have K':=K.mono (aW h6 s')
 (refine kr_ ?_)
 by_cases hlx:x<2^σ.n
 ·refine aM (by rw [decide_eq_true_eq];exact_mod_cast hlx) ?_
  have fin: ∀v h7,v=σ.front (i+1) x->Kn g (h7.offS s') [(b53, .inl ⟨(tb (2^σ.n) F).set x (.bool v),2^σ.n,false⟩),(bB, .inl ⟨tb (2^σ.n) T,2^σ.n,false⟩),(b14, .inl ⟨tb (2^σ.n) V,2^σ.n,false⟩),(b9, .inl ⟨SS σ q,7,false⟩)]->
    Buf h7 s' 1 (ts.map Sl.v++ [fr.v])->nxt1 [.pointer (some ⟨b9,0,none⟩),s'.v,(arr b14 (2^σ.n)).v,(arr bB (2^σ.n)).v,(arr b53 (2^σ.n)).v,I (W ((x:Int)+1))] h7:=by
   intro v h7 hv K7 B7
   rw [ay (by omega)]
   rw [vV]at K7
   refine hnx1 hlx _ _ ⟨rfl,_,K7,B7,fun j hj=>?_⟩
   by_cases e2:j=x
   ·rw [if_pos e2,e2];exact hv
   ·rw [if_neg e2];exact hFx j (by omega)
  refine⟨bB,0,rfl,by omega,by dsimp only;omega,?_⟩
  refine Kn.rd K' (.tail _ (.head _)) (x:=T x) (by rw [Nat.zero_add,Nat.mul_one,Int.toNat_natCast];exact zL hlx) ?_
  refine ad (fun e2=>?_) (fun e2=>?_)
  ·refine⟨b14,0,rfl,by omega,by dsimp only;omega,?_⟩
   refine Kn.rd K' (.tail _ (.tail _ (.head _))) (x:=V x) (by rw [Nat.zero_add,Nat.mul_one,Int.toNat_natCast];exact zL hlx) ?_
   refine⟨b53,0,rfl,by omega,by dsimp only;omega,?_⟩
   (with_reducible apply Kn.wrS);(exact K);((focus ((repeat first|exact .head|apply Upd.tail);done)))
   ·rw [oe];omega
   intro h7 K7 B7 _
   rw [bG,Nat.zero_add,Int.toNat_natCast,Nat.mul_one]at K7
   exact fin _ h7 (by rw [aL.front_succ,<-hT x hlx,e2,hV x hlx];rfl) K7 (B7 _ _ B)
  ·refine⟨b53,0,rfl,by omega,by dsimp only;omega,?_⟩
   (with_reducible apply Kn.wrS);(exact K);((focus ((repeat first|exact .head|apply Upd.tail);done)))
   ·rw [oe];omega
   intro h7 K7 B7 _
   rw [bG,Nat.zero_add,Int.toNat_natCast,Nat.mul_one]at K7
   exact fin _ h7 (by rw [aL.front_succ,<-hT x hlx,e2];rfl) K7 (B7 _ _ B)
 refine aC (by rw [decide_eq_false_iff_not];omega) ?_
 obtain⟨K3,K4⟩:=Kn.split (A:= [(b53, .inl ⟨tb (2^σ.n) F,2^σ.n,false⟩),(bB, .inl ⟨tb (2^σ.n) T,2^σ.n,false⟩)]) (B:= [(b14, .inl ⟨tb (2^σ.n) V,2^σ.n,false⟩),(b9, .inl ⟨SS σ q,7,false⟩)]) K
 have fF:=K4.at (.head _)
 refine hnx hlt _ _ ⟨s',arr b53 (2^σ.n),_,V,ts++ [fr],rfl,Hp.le_trans lg K4.le,K3,xV (by omega) fF fun j hj=>hFx j (by omega),by rw [List.map_append];exact B,by simp [htl],fun j t hj=>?_,hV,hlive'⟩
 by_cases hji:j<i
 ·rw [List.getElem?_append_left (by omega)]at hj
  exact(ht j t hj).mono K4.le
 ·have hj2:=get_lt hj
  simp at hj2
  rw [List.getElem?_append_right (by omega),show j-ts.length=0 by omega]at hj
  simp at hj;subst hj
  rw [show j=i by omega];exact hF.mono K4.le
theorem C5 {h:Hp} {q:Gn} {σ:aL} {R:Value->Hp->Prop} (hq:FT h q σ) (ok:σ.Ok) (k:R (I σ.depthI) h):pK #[Nu σ q] h R:=by
 refine ACalls.drop (Iz ?_)
 refine uf_ ?_
 have hn:=mP ok
 have hnl:=aL.nLay_le σ
 refine aj fun b9 h1 hb9 l1 f9=>?_
 repeat' (refine aD ?_)
 refine JE (hq.mono l1) ok fun t h2 l2 hL=>⟨_,rfl,?_⟩
 have l02:=Hp.le_trans l1 l2
 replace f9:=l2 _ _ f9
 have hl:=hL.len
 refine au σ.nLay (fun i vs h'=>vs= [.pointer (some ⟨b9,0,none⟩),t.v,I i]/\h2=h'/\ ∀j,j<i->σ.hits j=false) ⟨rfl,rfl,fun j hj=>by omega⟩ ?_
 rintro i _ _ nxt hi ⟨rfl,rfl,hno⟩ hnx
 refine⟨b9,0,t,_,rfl,?_⟩
 by_cases hlt:i<σ.nLay
 rotate_left
 ·refine aC (by rw [decide_eq_false_iff_not];omega) ⟨h,l02,?_⟩
  have:σ.depth=none:=aL.find_none.2 fun j hj=>hno j (by omega)
  unfold aL.depthI at k
  rw [this]at k;exact k
 refine aM (by rw [decide_eq_true_eq];omega) ?_
 obtain⟨bl,ol,r,ha,h3,h4,hr⟩:=hL.get hlt
 refine⟨bl,ol,ha,by omega,h3,?_⟩
 repeat' (refine aD ?_)
 refine⟨r,h4,?_⟩
 refine RY (hq.mono l02) ok hr ⟨_,rfl,?_⟩
 refine ad (fun e=>?_) (fun e=>?_)
 ·refine⟨h,l02,?_⟩
  have:σ.depth=some i:=aL.depth_some.2 ⟨e,fun x hx=>hno x hx⟩
  unfold aL.depthI at k
  rw [this]at k;exact k
 ·rw [ay (by omega)]
  refine hnx hlt _ _ ⟨rfl,rfl,fun x hx=>?_⟩
  by_cases e2:x=i
  ·rw [e2];exact e
  ·exact hno x (by omega)
theorem YS {h:Hp} {t:Sl} {n:Nat} {T U:Nat->Bool} (e:fu h t n T) (f: ∀j,j<n->T j=U j):fu h t n U:=by
 unfold fu at e⊢
 rwa [show (List.range n).map U=(List.range n).map T from List.map_congr_left fun j hj=>(f j (List.mem_range.1 hj)).symm]
theorem xY {g h h':Hp} {L:List (Nat×Blk)} (K:Kn g h L):(h'.sub h).le (h'.wo (L.map Prod.fst)):=by
 intro c x e
 have hn:h c=none:=lY (by rw [e];simp)
 rw [v5 fun hm=>K.has c hm hn]
 exact sub_le _ _ _ _ e
theorem IM (σ:aL): ∀k fits,(σ.wit k fits).length=k+1:=by
 intro k
 induction k with
 |zero=>intro fits;rfl
 |succ k ih=>intro fits;show (_::σ.wit k _).length=_;rw [List.length_cons,ih]
def ti (σ:aL) (k:Nat) (fits:Nat->Bool):Nat:=aL.leastB (2^σ.n) fun s=>fits s&&σ.ahead k s
def Er (σ:aL) (k s:Nat):Nat:=aL.leastB (2^σ.k) fun x=>σ.onB k (σ.at_ s x)
theorem Tg (σ:aL) (k:Nat) (fits:Nat->Bool):σ.wit (k+1) fits=(ti σ (k+1) fits,Er σ (k+1) (ti σ (k+1) fits))::σ.wit k (σ.goes (σ.at_ (ti σ (k+1) fits) (Er σ (k+1) (ti σ (k+1) fits)))):=rfl
theorem bR.at {X:List (Nat×Blk)} {h:Hp} {s t:Sl} {ts:List Sl} {i:Nat} (o:bR X s 1 (ts.map Sl.v)) (m: ∀e∈X,h e.1=some e.2) (hi:ts[i]?=some t):
  ∃b x,s.a=some ⟨b,0,none⟩/\h b=some x/\Hp.cell h b (0+i*1)=some t.v:=by
 have hlt:=get_lt hi
 rcases o.2.2 with ⟨_,_,h0⟩|⟨b,ha,rfl⟩
 ·have:ts.length=0:=by have:=congrArg List.length h0;simpa using this
  omega
 ·have hb:=m _ (.head _)
  refine⟨b,_,ha,hb,?_⟩
  rw [ax hb,Nat.zero_add,Nat.mul_one,List.getElem?_map,hi];rfl
theorem Oy {σ:aL} {fm:Nat} (hfm:fm+σ.fixed=2^σ.n-1):(iV fm).length<=2^σ.n:=by
 have:=Nat.two_pow_pos σ.n
 have h1:(iV fm).length<=fm+1:=by unfold iV;have:=List.length_filter_le (fun c=>decide (c&&&fm=c)) (List.range (fm+1));simpa using this
 omega
theorem acP {σ:aL} {fm c i:Nat} (ok:σ.Ok) (hfm:fm+σ.fixed=2^σ.n-1) (hc:c<2^(σ.n+σ.k)):σ.onB (i+1) c=true↔σ.hold c=true/\ ∃f,f∈iV fm/\σ.ahead i (σ.next c+f)=true:=by
 simp only [aL.onB,Bool.and_eq_true,aL.leads,db]
 refine and_congr_right fun _=>?_
 constructor
 ·rintro ⟨t,ht,h1,h2⟩
  obtain⟨f,hf,rfl⟩:=(uU ok hfm hc ht).1 h2
  exact⟨f,hf,h1⟩
 ·rintro ⟨f,hf,h1⟩
  have hl:=IS ok hfm hc hf
  exact⟨_,hl,h1,(uU ok hfm hc hl).2 ⟨f,hf,rfl⟩⟩
set_option maxHeartbeats 1000000 in
theorem Jf {h:Hp} {q:Gn} {σ:aL} {d:Nat} {R:Value->Hp->Prop} (hq:FT h q σ) (ok:σ.Ok) (hd:d<=256)
  (k: ∀s h',h.le h'->H1 h' s (2^σ.n) (d+1) σ.ahead->R (Sl.v s) h'):rY #[Nu σ q,I d] h R:=by
 apply GN
 refine uf_ ?_
 have hn:=mP ok
 have hp:=wg ok
 have hpos:=Nat.two_pow_pos σ.n
 obtain⟨hh,hen,hx,⟨fm,hfm,hfl⟩,_⟩:=id hq
 have hhl:=hh.len
 have hel:=hen.len
 have hxl:=IntS.len hx
 rw [aX,List.length_map,List.length_range]at hxl
 have hfll:=IntS.len hfl
 rw [aX]at hfll
 have hfb:=Oy hfm
 have K0:=Kn.nil h
 (with_reducible apply Kn.al);(assumption);(intro b10 h1 K1 l1 hb10)
 have f10:=K1.at (.head _)
 have lh1:=K1.le
 clear K0 K1 hb10 l1
 refine au (d+1) (fun i vs h'=> ∃(out:Sl) (ts:List Sl) (X:List (Nat×Blk)) (g:Hp),vs= [I d, .pointer (some ⟨b10,0,none⟩),out.v,I i]/\h1.le g/\bR X out 1 (ts.map Sl.v)/\
  ts.length=i/\Kn g h' X/\ ∀(j:Nat) (t:Sl),ts[j]?=some t->fu g t (2^σ.n) (σ.ahead j))
  ⟨⟨none,0,0⟩, [], [],h1,rfl,Hp.le_refl _,cF 1,rfl,Kn.nil h1,fun j t hj=>by simp at hj⟩ ?_
 rintro i _ h2 nxt hi ⟨out,ts,X,g,rfl,lg,oX,htl,K,hT⟩ hnx
 have hon:=oX.1
 rw [List.length_map,Nat.mul_one]at hon
 refine⟨_,b10,0,out,_,rfl,?_⟩
 have l12:=Hp.le_trans lg K.le
 by_cases hlt:i<d+1
 rotate_left
 ·refine aC (by rw [decide_eq_false_iff_not];omega) ?_
  exact k out h2 (Hp.le_trans lh1 l12) ⟨ts,by omega,(oX.buf fun e he=>K.mem e he).slc_of (by omega),fun j t hj=>(hT j t hj).mono K.le⟩
 refine aM (by rw [decide_eq_true_eq];omega) ?_
 have f10g:=lg _ _ f10
 (refine kr_ ?_)
 refine⟨Int.natCast_nonneg _,Int.le_refl _,by omega,by omega,?_⟩
 (with_reducible apply Kn.al);(exact Kn.nil h2);(intro b28 h3 K3 l3 hb28)
 rw [Int.toNat_natCast,Nat.mul_one,cE,uy]at K3
 rw [Int.toNat_natCast]
 have f102:=l12 _ _ f10
 have hq2:=hq.mono (Hp.le_trans lh1 l12)
 obtain⟨hh2,hen2,hx2,_,_⟩:=id hq2
 have hfl2:=hfl.mono (Hp.le_trans lh1 l12)
 refine au (2^(σ.n+σ.k)) (fun c vs h'=>vs= [I d, .pointer (some ⟨b10,0,none⟩),out.v,I i,(arr b28 (2^σ.n)).v,I c]/\
  ∃T,Kn h2 h' [(b28, .inl ⟨tb (2^σ.n) T,2^σ.n,false⟩)]/\ ∀x,T x=true↔ ∃c',c'<c/\c'%2^σ.n=x/\σ.onB i c'=true)
  ⟨rfl,_,K3,fun x=>⟨fun e=>by simp at e,fun⟨c',e,_⟩=>by omega⟩⟩ ?_
 clear K3 l3 hb28 h3
 rintro c _ h3 nxt2 hc ⟨rfl,T,K3,hT3⟩ hnx2
 refine⟨_,b10,0,out,_,arr b28 _,_,rfl,?_⟩
 (refine kr_ ?_)
 by_cases hltc:c<2^(σ.n+σ.k)
 rotate_left
 ·refine aC (by rw [decide_eq_false_iff_not];omega) ?_
  refine aj fun b111 h4 hb111 l4 f111=>?_
  have K4:=K3.mono l4
  have KX:=K.mono K4.le
  have hnew:fu h4 (arr b28 (2^σ.n)) (2^σ.n) (σ.ahead i):=xV (by omega) (K4.at (.head _)) fun s hs=>by
   rw [Bool.eq_iff_iff,hT3,aL.ahead_on]
   constructor
   ·rintro ⟨c',h1,h2,h3⟩
    have hc':c'<2^(σ.n+σ.k):=by omega
    obtain⟨a1,a2,a3⟩:=aL.at_of hc'
    exact⟨_,a2,by rw [<-h2,a3];exact h3⟩
   ·rintro ⟨x,hx,h3⟩
    have:=aL.at_lt hs hx
    exact⟨_,by omega,aL.at_mod hs,h3⟩
  have hnew2:fu (h4.wo (X.map Prod.fst)) (arr b28 (2^σ.n)) (2^σ.n) (σ.ahead i):=by
   have h5:fu (h4.sub h2) (arr b28 (2^σ.n)) (2^σ.n) T:=xV (by omega) (by rw [lz (K4.new _ (.head _))];exact K4.at (.head _)) fun j _=>rfl
   exact YS (h5.mono (xY K)) fun j hj=>by
    rw [Bool.eq_iff_iff,hT3,aL.ahead_on]
    constructor
    ·rintro ⟨c',h1,h2,h3⟩
     have hc':c'<2^(σ.n+σ.k):=by omega
     obtain⟨a1,a2,a3⟩:=aL.at_of hc'
     exact⟨_,a2,by rw [<-h2,a3];exact h3⟩
    ·rintro ⟨x,hx,h3⟩
     have:=aL.at_lt hj hx
     exact⟨_,by omega,aL.at_mod hj,h3⟩
  have lB:=KX.leBase
  have KB:=KX.base
  clear hnew
  generalize h4.wo (X.map Prod.fst)=g6 at*
  rw [show X=X++ []from(List.append_nil _).symm]at KB
  refine Kn.grow KB oX (by omega) (by omega) (by omega) ⟨b111,0,rfl,aw f111⟩ rfl rfl fun out' X' h7 hn' oX' K7 l7=>?_
  rw [ay (by omega)]
  rw [List.append_nil]at K7
  refine hnx hlt _ _ ⟨out',ts++ [arr b28 (2^σ.n)],X',g6,rfl,Hp.le_trans lg lB,by rw [List.map_append];exact oX',by simp [htl],K7,fun j u hj=>?_⟩
  by_cases e:j<ts.length
  ·rw [List.getElem?_append_left e]at hj
   exact(hT j u hj).mono lB
  ·have h1:=get_lt hj
   simp at h1
   rw [List.getElem?_append_right (by omega),show j-ts.length=0 by omega]at hj
   simp at hj;subst hj
   rw [show j=i by omega];exact hnew2
 refine aM (by rw [decide_eq_true_eq];omega) ?_
 have hmod:=Nat.mod_lt c hpos
 refine ap (fun J=>J (decide (i=0)&&σ.ends c)) ?_ (fun J hJ=>?_)
 rotate_left
 ·refine ad (fun e=>?_) (fun e=>?_)
  ·have e0:i=0:=by have:=beq_iff_eq.1 e;omega
   (refine kr_ ?_)
   obtain⟨b,o,ha,e1,e2⟩:=(hen2.mono K3.le).get hltc
   refine⟨b,o,ha,by omega,e1,_,e2,?_⟩
   rw [decide_eq_true e0,Bool.true_and]at hJ;exact hJ
  ·have e0: ¬i=0:=fun q=>by rw [q]at e;simp at e
   rw [decide_eq_false e0,Bool.false_and]at hJ;exact hJ
 refine ap (fun J=> ∀h4 U,Kn h2 h4 [(b28, .inl ⟨tb (2^σ.n) U,2^σ.n,false⟩)]->(∀x,U x=true↔T x=true\/(x=c%2^σ.n/\i=0/\σ.ends c=true))->J h4) (fun h4 U K4 hU=>?_) (fun J hJ=>?_)
 rotate_left
 ·refine ad (fun e=>?_) (fun e=>?_)
  ·rw [Bool.and_eq_true,decide_eq_true_eq]at e
   (refine kr_ ?_)
   rw [if_neg (by omega),eP]
   refine⟨b28,0,rfl,by omega,by dsimp only;omega,?_⟩
   (((with_reducible apply Kn.wr);(assumption);((focus ((repeat first|exact .head|apply Upd.tail);done)))))
   ·rw [oe];omega
   intro h4 K4 _
   rw [bG,Nat.zero_add,Int.toNat_natCast,Nat.mul_one,vV]at K4
   refine hJ h4 _ K4 fun x=>?_
   by_cases ex:x=c%2^σ.n
   ·rw [if_pos ex];exact⟨fun _=> .inr ⟨ex,e⟩,fun _=>rfl⟩
   ·rw [if_neg ex];exact⟨.inl,fun q=>q.resolve_right fun q2=>ex q2.1⟩
  ·refine hJ h3 T K3 fun x=>⟨.inl,fun q=>q.resolve_right fun⟨_,q2,q3⟩=>?_⟩
   rw [decide_eq_true q2,q3]at e;cases e
 clear K3
 refine au (iV fm).length (fun j vs h'=>vs= [I d, .pointer (some ⟨b10,0,none⟩),out.v,I i,(arr b28 (2^σ.n)).v,I c,I j]/\
  ∃V,Kn h2 h' [(b28, .inl ⟨tb (2^σ.n) V,2^σ.n,false⟩)]/\ ∀x,V x=true↔U x=true\/(x=c%2^σ.n/\ ∃i',i=i'+1/\σ.hold c=true/\ ∃f,f∈(iV fm).take j/\σ.ahead i' (σ.next c+f)=true))
  ⟨rfl,U,K4,fun x=>⟨.inl,fun q=>q.resolve_right fun⟨_,_,_,_,f,hf,_⟩=>by simp at hf⟩⟩ ?_
 clear K4 h3 h4
 rintro j _ h3 nxt3 hj ⟨rfl,V,K3,hV⟩ hnx3
 refine⟨_,b10,0,out,_,arr b28 _,_,_,rfl,?_⟩
 have fin:(i=0\/σ.hold c=false\/j=(iV fm).length)->nxt2 [I d, .pointer (some ⟨b10,0,none⟩),out.v,I i,(arr b28 (2^σ.n)).v,I (W ((c:Int)+1))] h3:=fun hend=>by
  rw [ay (by omega)]
  refine hnx2 hltc _ _ ⟨rfl,V,K3,fun x=>?_⟩
  have hcc:σ.onB i c=true↔(i=0/\σ.ends c=true)\/ ∃i',i=i'+1/\σ.hold c=true/\ ∃f,f∈(iV fm).take j/\σ.ahead i' (σ.next c+f)=true:=by
   cases i with
   |zero=>
    refine⟨fun q=> .inl ⟨rfl,q⟩,fun q=>?_⟩
    rcases q with q|⟨i',q,_⟩
    ·exact q.2
    ·omega
   |succ i'=>
    rw [acP ok hfm hltc]
    constructor
    ·rintro ⟨q1,q2⟩
     rcases hend with q|q|q
     ·omega
     ·rw [q1]at q;cases q
     ·exact .inr ⟨i',rfl,q1,by rw [q,List.take_of_length_le (Nat.le_refl _)];exact q2⟩
    ·rintro (q|⟨i'',q,q1,f,q2,q3⟩)
     ·omega
     ·obtain rfl:i''=i':=by omega
      exact⟨q1,f,List.mem_of_mem_take q2,q3⟩
  rw [hV,hU,hT3]
  constructor
  ·rintro ((⟨c',q1,q⟩|⟨q1,q2⟩)|⟨q1,q2⟩)
   ·exact⟨c',by omega,q⟩
   ·exact⟨c,by omega,q1.symm,hcc.2 (.inl q2)⟩
   ·exact⟨c,by omega,q1.symm,hcc.2 (.inr q2)⟩
  ·rintro ⟨c',q1,q2,q3⟩
   by_cases e2:c'=c
   ·subst e2
    rcases hcc.1 q3 with q|q
    ·exact .inl (.inr ⟨q2.symm,q⟩)
    ·exact .inr ⟨q2.symm,q⟩
   ·exact .inl (.inl ⟨c',by omega,q2,q3⟩)
 have go: ∀c80,(c80=true-> ∃i',i=i'+1/\σ.hold c=true/\j<(iV fm).length)->(c80=false->(i=0\/σ.hold c=false\/j=(iV fm).length))->c80=(decide (j<(iV fm).length)&&(decide (0<i)&&σ.hold c))->True:=fun _ _ _ _=>trivial
 clear go
 refine ap (fun J=>J (decide (j<(iV fm).length)&&(decide (0<i)&&σ.hold c))) ?_ (fun J hJ=>?_)
 rotate_left
 ·(refine kr_ ?_)
  refine ad (fun e=>?_) (fun e=>?_)
  ·rw [show decide (j<(iV fm).length)=true by rw [decide_eq_true_eq]at e⊢;omega,Bool.true_and]at hJ
   refine ad (fun e2=>?_) (fun e2=>?_)
   ·rw [show decide (0<i)=true by rw [decide_eq_true_eq]at e2⊢;omega,Bool.true_and]at hJ
    (refine kr_ ?_)
    obtain⟨b,o,ha,e1,e2⟩:=(hh2.mono K3.le).get hltc
    exact⟨b,o,ha,by omega,e1,_,e2,hJ⟩
   ·rw [show decide (0<i)=false by rw [decide_eq_false_iff_not]at e2⊢;omega,Bool.false_and]at hJ;exact hJ
  ·rw [show decide (j<(iV fm).length)=false by rw [decide_eq_false_iff_not]at e⊢;omega,Bool.false_and]at hJ;exact hJ
 refine ad (fun e=>?_) (fun e=>?_)
 rotate_left
 ·refine fin ?_
  by_cases q0:i=0
  ·exact .inl q0
  ·rw [show decide (0<i)=true by rw [decide_eq_true_eq];omega,Bool.true_and]at e
   cases hhc:σ.hold c with
   |false=>exact .inr (.inl rfl)
   |true=>
    rw [hhc,Bool.and_true,decide_eq_false_iff_not]at e
    exact .inr (.inr (by omega))
 simp only [Bool.and_eq_true,decide_eq_true_eq]at e
 obtain⟨hlj,hi0,eH⟩:=e
 clear fin
 obtain⟨i',rfl⟩: ∃i',i=i'+1:=⟨i-1,by omega⟩
 have hW:W (((i'+1:Nat):Int)-1)=(i':Nat):=by rw [cd (by omega) (by omega)];omega
 rw [hW]
 obtain⟨t,hti⟩: ∃t,ts[i']?=some t:=⟨_,List.getElem?_eq_getElem (by omega)⟩
 obtain⟨bo,xo,hao,hbo,hco⟩:=oX.at (fun e he=>K.mem e he) hti
 refine⟨bo,0,hao,by omega,by omega,t,by rw [Int.toNat_natCast];exact K3.le.cell hco,?_⟩
 (refine kr_ ?_)
 obtain⟨b,o,ha,e1,e2⟩:=Lk.get (hx2.mono K3.le) hltc
 refine⟨b,o,ha,by omega,e1,_,e2,?_⟩
 (refine kr_ ?_)
 obtain⟨f,hf⟩: ∃f,(iV fm)[j]?=some f:=⟨_,List.getElem?_eq_getElem hlj⟩
 obtain⟨b,o,ha,e3⟩:=(hfl2.mono K3.le).get (iy hf)
 refine⟨b,o,ha,by omega,by omega,_,e3,?_⟩
 have hlf:=IS ok hfm hltc (List.mem_of_getElem? hf)
 rw [<-Int.natCast_add,fW (by omega)]
 obtain⟨b,o,ha,e4,e5⟩:=(((hT i' t hti).mono K.le).mono K3.le).get hlf
 refine⟨b,o,ha,by omega,e4,_,e5,?_⟩
 have next: ∀V' h4,Kn h2 h4 [(b28, .inl ⟨tb (2^σ.n) V',2^σ.n,false⟩)]->(∀x,V' x=true↔V x=true\/(x=c%2^σ.n/\σ.ahead i' (σ.next c+f)=true))->
   nxt3 [I d, .pointer (some ⟨b10,0,none⟩),out.v,I (i'+1:Nat),(arr b28 (2^σ.n)).v,I c,I (W ((j:Int)+1))] h4:=fun V' h4 K4 hV'=>by
  rw [ay (by omega)]
  refine hnx3 hlj _ _ ⟨rfl,V',K4,fun x=>?_⟩
  rw [hV',hV,List.take_add_one,hf]
  constructor
  ·rintro ((q|⟨q1,i'',q2,q3,f',q4,q5⟩)|⟨q1,q2⟩)
   ·exact .inl q
   ·exact .inr ⟨q1,i'',q2,q3,f',List.mem_append_left _ q4,q5⟩
   ·exact .inr ⟨q1,i',rfl,eH,f,by simp,q2⟩
  ·rintro (q|⟨q1,i'',q2,q3,f',q4,q5⟩)
   ·exact .inl (.inl q)
   ·rcases List.mem_append.1 q4 with q4|q4
    ·exact .inl (.inr ⟨q1,i'',q2,q3,f',q4,q5⟩)
    ·simp at q4;subst q4
     obtain rfl:i''=i':=by omega
     exact .inr ⟨q1,q5⟩
 refine ad (fun e=>?_) (fun e=>?_)
 ·(refine kr_ ?_)
  rw [if_neg (by omega),eP]
  refine⟨b28,0,rfl,by omega,by dsimp only;omega,?_⟩
  (((with_reducible apply Kn.wr);(assumption);((focus ((repeat first|exact .head|apply Upd.tail);done)))))
  ·rw [oe];omega
  intro h4 K4 _
  rw [bG,Nat.zero_add,Int.toNat_natCast,Nat.mul_one,vV]at K4
  refine next _ h4 K4 fun x=>?_
  by_cases ex:x=c%2^σ.n
  ·rw [if_pos ex];exact⟨fun _=> .inr ⟨ex,e⟩,fun _=>rfl⟩
  ·rw [if_neg ex];exact⟨.inl,fun q=>q.resolve_right fun q2=>ex q2.1⟩
 ·exact next V h3 K3 fun x=>⟨.inl,fun q=>q.resolve_right fun q2=>by rw [q2.2]at e;cases e⟩
theorem Ir {h:Hp} {q:Gn} {σ:aL} {s x t:Nat} {R:Value->Hp->Prop} (hq:FT h q σ) (ok:σ.Ok) (hs:s<2^σ.n) (hx':x<2^σ.k) (ht:t<2^σ.n) (k:R (.bool (σ.goes (σ.at_ s x) t)) h):
  qy #[Nu σ q,I s,I x,I t] h R:=by
 refine ACalls.drop (ER ?_)
 refine uf_ ?_
 have hn:=mP ok
 have hk:=ME ok
 have hp:=wg ok
 obtain⟨hh,hen,hx,⟨fm,hfm,hfl⟩,_⟩:=id hq
 have hxl:=IntS.len hx
 rw [aX,List.length_map,List.length_range]at hxl
 have hfll:=IntS.len hfl
 rw [aX]at hfll
 have hfb:=Oy hfm
 have hc:=aL.at_lt hs hx'
 have K0:=Kn.nil h
 (with_reducible apply Kn.al);(assumption);(intro b12 h1 K1 l1 hb12)
 clear K0 hb12
 refine au (iV fm).length (fun j vs h'=>vs= [I s,I x,I t, .pointer (some ⟨b12,0,none⟩),I j]/\h1=h'/\ ∀f,f∈(iV fm).take j->σ.next (σ.at_ s x)+f≠t) ⟨rfl,rfl,fun f hf=>by simp at hf⟩ ?_
 rintro j _ _ nxt hj ⟨rfl,rfl,hno⟩ hnx
 refine⟨_,_,_,b12,0,_,rfl,?_⟩
 (refine kr_ ?_)
 by_cases hlj:j<(iV fm).length
 ·refine aM (by rw [decide_eq_true_eq];omega) ?_
  (refine kr_ ?_)
  (refine kr_ ?_)
  have e8:W (W ((x:Int)*((2^σ.n:Nat):Int))+(s:Int))=((σ.at_ s x:Nat):Int):=by
   have h2:x*2^σ.n+s<8192:=by unfold aL.at_ at hc;omega
   rw [<-Int.natCast_mul,fW (by omega),<-Int.natCast_add,fW (by omega)];rfl
  rw [e8]
  obtain⟨b,o,ha,e1,e2⟩:=Lk.get (hx.mono K1.le) hc
  refine⟨b,o,ha,by omega,e1,_,e2,?_⟩
  (refine kr_ ?_)
  obtain⟨f,hf⟩: ∃f,(iV fm)[j]?=some f:=⟨_,List.getElem?_eq_getElem hlj⟩
  obtain⟨b,o,ha,e3⟩:=(hfl.mono K1.le).get (iy hf)
  refine⟨b,o,ha,by omega,by omega,_,e3,?_⟩
  have hlf:=IS ok hfm hc (List.mem_of_getElem? hf)
  rw [<-Int.natCast_add,fW (by omega)]
  refine ad (fun e=>?_) (fun e=>?_)
  ·refine⟨h,K1.le,?_⟩
   have e':=beq_iff_eq.1 e
   rw [(uU ok hfm hc ht).2 ⟨f,List.mem_of_getElem? hf,by omega⟩]at k;exact k
  ·rw [ay (by omega)]
   refine hnx hlj _ _ ⟨rfl,rfl,fun f' hf'=>?_⟩
   rw [List.take_add_one,hf]at hf'
   rcases List.mem_append.1 hf' with h5|h5
   ·exact hno f' h5
   ·simp at h5;subst h5
    intro q
    rw [<-q]at e
    simp at e
 ·refine aC (by rw [decide_eq_false_iff_not];omega) ⟨h,K1.le,?_⟩
  rw [show σ.goes (σ.at_ s x) t=false from by
   rw [Bool.eq_false_iff]
   intro q
   obtain⟨f,hf,e⟩:=(uU ok hfm hc ht).1 q
   exact hno f (by rw [List.take_of_length_le (by omega)];exact hf) e]at k
  exact k
set_option maxHeartbeats 1000000 in
theorem TP {h:Hp} {q:Gn} {σ:aL} {w:Sl} {s l m:Nat} {R:Value->Hp->Prop} (hq:FT h q σ) (ok:σ.Ok) (hs:s<2^σ.n) (hw:H1 h w (2^σ.n) m σ.ahead) (hl:l<m) (hm:m<=1000) (ha:σ.ahead l s=true)
  (k:R (.tuple #[I (Er σ l s),I ((if l=0 then 0 else ti σ (l-1) (σ.goes (σ.at_ s (Er σ l s))):Nat):Int)]) h):zP #[Nu σ q,I s,I l,w.v] h R:=by
 refine ACalls.drop (PX ?_)
 refine uf_ ?_
 have hn:=mP ok
 have hk:=ME ok
 have hp:=wg ok
 obtain⟨hh,hen,hx,_,_⟩:=id hq
 have hhl:=hh.len
 have hel:=hen.len
 have hwl:=hw.len
 obtain⟨hx0,hon,hnx0⟩:=aL.leastB_at (aL.ahead_on.1 ha)
 rw [show aL.leastB (2^σ.k) (fun x=>σ.onB l (σ.at_ s x))=Er σ l s from rfl]at hx0 hon hnx0
 generalize Er σ l s=x0 at*
 have K0:=Kn.nil h
 (with_reducible apply Kn.al);(assumption);(intro b12 h1 K1 l1 hb12)
 clear K0 hb12
 have hq1:=hq.mono K1.le
 refine au x0 (fun x vs h'=>vs= [I s,I l,w.v, .pointer (some ⟨b12,0,none⟩),I x]/\h1=h') ⟨rfl,rfl⟩ ?_
 rintro x _ _ nxt hx' ⟨rfl,rfl⟩ hnx
 refine⟨_,_,w,b12,0,_,rfl,?_⟩
 (refine kr_ ?_)
 refine aM (by rw [decide_eq_true_eq];omega) ?_
 have hat:=aL.at_lt hs (show x<2^σ.k by omega)
 have e8:W (W ((x:Int)*((2^σ.n:Nat):Int))+(s:Int))=((σ.at_ s x:Nat):Int):=by
  have h2:x*2^σ.n+s<8192:=by unfold aL.at_ at hat;omega
  rw [<-Int.natCast_mul,fW (by omega),<-Int.natCast_add,fW (by omega)];rfl
 refine ap (fun J=>J (decide (l=0)&&σ.ends (σ.at_ s x))) ?_ (fun J hJ=>?_)
 rotate_left
 ·refine ad (fun e=>?_) (fun e=>?_)
  ·have e0:l=0:=by have:=beq_iff_eq.1 e;omega
   (refine kr_ ?_)
   (refine kr_ ?_)
   rw [e8]
   obtain⟨b,o,ha,e1,e2⟩:=(hen.mono K1.le).get hat
   refine⟨b,o,ha,by omega,e1,_,e2,?_⟩
   rw [decide_eq_true e0,Bool.true_and]at hJ;exact hJ
  ·have e0: ¬l=0:=fun q=>by rw [q]at e;simp at e
   rw [decide_eq_false e0,Bool.false_and]at hJ;exact hJ
 have skip:σ.onB l (σ.at_ s x)=false->nxt [I s,I l,w.v, .pointer (some ⟨b12,0,none⟩),I (W ((x:Int)+1))] h1:=fun e=>by
  rw [ay (by omega)]
  refine hnx ?_ _ _ ⟨rfl,rfl⟩
  rcases Nat.lt_or_ge x x0 with q|q
  ·exact q
  ·obtain rfl:x=x0:=by omega
   rw [hon]at e;cases e
 refine ad (fun e=>?_) (fun e=>?_)
 ·rw [Bool.and_eq_true,decide_eq_true_eq]at e
  obtain⟨rfl,e⟩:=e
  have hxe:x=x0:=by
   rcases Nat.lt_or_ge x x0 with q|q
   ·have:=hnx0 x q;rw [show σ.onB 0 (σ.at_ s x)=σ.ends (σ.at_ s x)from rfl,e]at this;cases this
   ·omega
  rw [if_pos rfl,<-hxe]at k
  exact⟨h,K1.le,k⟩
 refine ap (fun J=>J (decide (l=0)|| !σ.hold (σ.at_ s x))) ?_ (fun J hJ=>?_)
 rotate_left
 ·refine ad (fun e=>?_) (fun e=>?_)
  ·have e0:l=0:=by have:=beq_iff_eq.1 e;omega
   rw [decide_eq_true e0,Bool.true_or]at hJ;exact hJ
  ·have e0: ¬l=0:=fun q=>by rw [q]at e;simp at e
   rw [decide_eq_false e0,Bool.false_or]at hJ
   (refine kr_ ?_)
   (refine kr_ ?_)
   rw [e8]
   obtain⟨b,o,ha,e1,e2⟩:=(hh.mono K1.le).get hat
   exact⟨b,o,ha,by omega,e1,_,e2,hJ⟩
 refine ad (fun e2=>?_) (fun e2=>?_)
 ·refine skip ?_
  cases l with
  |zero=>
   have e3:σ.ends (σ.at_ s x)=false:=by simpa using e
   exact e3
  |succ l'=>
   have:σ.hold (σ.at_ s x)=false:=by simpa using e2
   simp [aL.onB,this]
 obtain⟨l',rfl⟩: ∃l',l=l'+1:=⟨l-1,by
  have: ¬l=0:=fun q=>by rw [q]at e2;simp at e2
  omega⟩
 have eH:σ.hold (σ.at_ s x)=true:=by simpa using e2
 have hW:W (((l'+1:Nat):Int)-1)=(l':Nat):=by rw [cd (by omega) (by omega)];omega
 rw [if_neg (by omega),Nat.add_sub_cancel]at k
 refine au (2^σ.n) (fun t vs h'=>vs= [I s,I (l'+1:Nat),w.v, .pointer (some ⟨b12,0,none⟩),I x,I t]/\h1=h'/\ ∀t',t'<t->(σ.goes (σ.at_ s x) t'&&σ.ahead l' t')=false) ⟨rfl,rfl,fun t' e=>by omega⟩ ?_
 rintro t _ _ nxt2 ht ⟨rfl,rfl,hno⟩ hnx2
 refine⟨_,_,w,b12,0,_,_,rfl,?_⟩
 (refine kr_ ?_)
 by_cases hlt:t<2^σ.n
 rotate_left
 ·refine aC (by rw [decide_eq_false_iff_not];omega) ?_
  refine skip ?_
  rw [Bool.eq_false_iff]
  intro q
  obtain⟨t',ht',q2⟩:=aL.onB_next q
  rw [hno t' (by omega)]at q2;cases q2
 refine aM (by rw [decide_eq_true_eq];exact_mod_cast hlt) ?_
 refine ap (fun J=>J (σ.goes (σ.at_ s x) t&&σ.ahead l' t) h1) ?_ (fun J hJ=>?_)
 rotate_left
 ·rw [hW]
  obtain⟨bl,ol,r,ha,h3',h4',hr⟩:=hw.get (show l'<m by omega)
  refine⟨bl,ol,ha,by omega,by omega,r,K1.le.cell h4',?_⟩
  obtain⟨br,or,har,hr1,hr2⟩:=(hr.mono K1.le).get hlt
  refine⟨br,or,har,by omega,hr1,_,hr2,?_⟩
  refine ad (fun e3=>?_) (fun e3=>?_)
  ·rw [e3,Bool.and_true]at hJ
   repeat' (refine kr_ ?_)
   exact Ir hq1 ok hs (by omega) hlt ⟨_,rfl,hJ⟩
  ·rw [e3,Bool.and_false]at hJ;exact hJ
 refine ad (fun e3=>?_) (fun e3=>?_)
 ·have hxe:x=x0:=by
   rcases Nat.lt_or_ge x x0 with q|q
   ·have h5:=hnx0 x q
    rw [Bool.and_eq_true]at e3
    have:σ.onB (l'+1) (σ.at_ s x)=true:=by
     simp only [aL.onB,Bool.and_eq_true,aL.leads,db]
     exact⟨eH,t,hlt,e3.2,e3.1⟩
    rw [this]at h5;cases h5
   ·omega
  subst hxe
  rw [show ti σ l' (σ.goes (σ.at_ s x))=t from aL.leastB_of hlt e3 hno]at k
  exact⟨h,K1.le,k⟩
 ·rw [ay (by omega)]
  refine hnx2 hlt _ _ ⟨rfl,rfl,fun t' ht'=>?_⟩
  by_cases q:t'=t
  ·rw [q];exact e3
  ·exact hno t' (by omega)
def TrG (h h':Hp) (sS sI:Sl) (l:List (Nat×Nat)):Prop:=
 ∃XS XI,bR XS sS 1 ((VL (l.map Prod.fst)).map I)/\bR XI sI 1 ((VL (l.map Prod.snd)).map I)/\Kn h h' (XS++(XI++ []))
theorem Qi {h g h1 h5:Hp} {b6 b73:Nat} {y:Blk} {sS sI:Sl} {XS XI:List (Nat×Blk)} {pre:List (Nat×Nat)} (lg:h.le g) (h6:g b6≠none) (oS:bR XS sS 1 ((VL (pre.map Prod.fst)).map I)) (oI:bR XI sI 1 ((VL (pre.map Prod.snd)).map I))
  (K:Kn g h1 ((b73,y)::(XS++(XI++ [])))) (l5:h.le h5) (kp: ∀c,c≠b6->h5 c=h1 c):TrG h h5 sS sI pre:=by
 refine⟨XS,XI,oS,oI,l5,fun e he=>?_,fun e he=>aF lg (K.new e (.tail _ he)),?_⟩
 ·have hne:e.1≠b6:=by
   intro e6
   have h1:=K.new e (.tail _ he)
   rw [e6]at h1;exact h6 h1
  rw [kp _ hne];exact K.mem e (.tail _ he)
 ·have nd:=K.nd
  rw [List.map_cons,List.nodup_cons]at nd
  exact nd.2
theorem TrG.nil {h h':Hp} (l:h.le h'):TrG h h' ⟨none,0,0⟩ ⟨none,0,0⟩ []:=⟨[], [],cF 1,cF 1,Kn.of l⟩
theorem TrG.up {h g h1 h5:Hp} {b6:Nat} {sS sI:Sl} {l:List (Nat×Nat)} (t:TrG g h1 sS sI l) (lg:h.le g) (h6:g b6≠none) (l5:h.le h5) (kp: ∀c,c≠b6->h5 c=h1 c):TrG h h5 sS sI l:=by
 obtain⟨XS,XI,oS,oI,K⟩:=t
 refine⟨XS,XI,oS,oI,l5,fun e he=>?_,fun e he=>aF lg (K.new e he),K.nd⟩
 have hne:e.1≠b6:=by
  intro e6
  have h1:=K.new e he
  rw [e6]at h1;exact h6 h1
 rw [kp _ hne];exact K.mem e he
set_option maxHeartbeats 1000000 in
theorem Ee {h:Hp} {q:Gn} {σ:aL} {d:Nat} {R:Value->Hp->Prop} (hq:FT h q σ) (ok:σ.Ok) (hd:d<=256) (hw: ∃s,s<2^σ.n/\(σ.begins s&&σ.ahead d s)=true)
  (k: ∀sS sI h',TrG h h' sS sI (σ.wit d σ.begins)->R (.agg #[Sl.v sS,Sl.v sI]) h'):pG #[Nu σ q,I d] h R:=by
 apply HY
 refine uf_ ?_
 have hn:=mP ok
 have K0:=Kn.nil h
 (with_reducible apply Kn.al);(assumption);(intro b10 h1 K1 l1 hb10)
 (with_reducible apply Kn.al);(assumption);(intro b12 h2 K2 l2 hb12)
 repeat' (refine kr_ ?_)
 refine Jf (hq.mono K2.le) ok hd fun w h3 l3 hL=>⟨_,rfl,?_⟩
 have hq3:=hq.mono (Hp.le_trans K2.le l3)
 have f10:=l3 _ _ (K2.at (.tail _ (.head _)))
 have f12:=l3 _ _ (K2.at (.head _))
 have hwl:=hL.len
 obtain⟨hs0,hfit,hno⟩:=aL.leastB_at hw
 have hW0:aL.leastB (2^σ.n) (fun s=>σ.begins s&&σ.ahead d s)=ti σ d σ.begins:=rfl
 rw [hW0]at hs0 hfit hno
 clear hW0
 have hS0:ti σ d σ.begins=ti σ d σ.begins:=rfl
 generalize hse:ti σ d σ.begins=s0 at hs0 hfit hno
 clear hS0
 refine au s0 (fun s vs h'=>vs= [I d, .pointer (some ⟨b10,0,none⟩), .pointer (some ⟨b12,0,none⟩),w.v,I s]/\h3=h') ⟨rfl,rfl⟩ ?_
 rintro s _ _ nxt hs ⟨rfl,rfl⟩ hnx
 refine⟨_,b10,0,b12,0,w,_,rfl,?_⟩
 have K3:=Kn.nil h3
 refine ap (fun J=>J (!(σ.begins s&&σ.ahead d s))) ?_ (fun J hJ=>?_)
 rotate_left
 ·(refine kr_ ?_)
  obtain⟨b,o,ha,e1,e2⟩:=hq3.2.2.2.2.get (show s<2^σ.n by omega)
  refine⟨b,o,ha,by omega,e1,_,e2,?_⟩
  refine ad (fun e=>?_) (fun e=>?_)
  ·rw [show σ.begins s=false by simpa using e]at hJ;exact hJ
  ·rw [show σ.begins s=true by simpa using e,Bool.true_and]at hJ
   obtain⟨bl,ol,r,ha,h3',h4',hr⟩:=hL.get (show d<d+1 by omega)
   refine⟨bl,ol,ha,by omega,by omega,r,h4',?_⟩
   obtain⟨br,or,har,hr1,hr2⟩:=hr.get (show s<2^σ.n by omega)
   exact⟨br,or,har,by omega,hr1,_,hr2,hJ⟩
 by_cases hlt:s<s0
 ·refine aM (by rw [hno s hlt];rfl) ?_
  rw [ay (by omega)]
  exact hnx hlt _ _ ⟨rfl,rfl⟩
 obtain rfl:s=s0:=by omega
 refine aC (by rw [hfit];rfl) ?_
 clear hnx hlt hs K3
 (with_reducible apply Kn.al);(exact Kn.nil h3);(intro b54 h4 K4 l4 hb54)
 refine nA (d+1) (fun m vs h'=> ∃(pre:List (Nat×Nat)) (cur:Nat) (fits:Nat->Bool) (sS sI:Sl) (XS XI:List (Nat×Blk)),
  vs= [.pointer (some ⟨b10,0,none⟩), .pointer (some ⟨b12,0,none⟩),w.v,I cur, .pointer (some ⟨b54,0,none⟩),I ((m:Int)-1)]/\Kn h3 h' ((b54, .inl ⟨[sS.v,sI.v],2,false⟩)::(XS++(XI++ [])))/\
  bR XS sS 1 ((VL (pre.map Prod.fst)).map I)/\bR XI sI 1 ((VL (pre.map Prod.snd)).map I)/\pre.length+m=d+1/\(m=0->pre=σ.wit d σ.begins)/\
  ∀k',m=k'+1->cur=ti σ k' fits/\pre++σ.wit k' fits=σ.wit d σ.begins/\ ∃s,s<2^σ.n/\(fits s&&σ.ahead k' s)=true)
  ⟨[],s,σ.begins,⟨none,0,0⟩,⟨none,0,0⟩, [], [],by rw [show (((d+1:Nat):Int)-1)=d by omega],K4,cF 1,cF 1,by simp,
   fun e=>by omega,fun k' e=>by obtain rfl:k'=d:=by omega
                                exact⟨hse.symm,rfl,hw⟩⟩ ?_
 clear K4 l4 hb54 h4
 rintro m _ h4 nxt ⟨pre,cur,fits,sS,sI,XS,XI,rfl,K,oS,oI,hpl,hz,hsc⟩ hnx
 refine⟨b10,0,b12,0,w,_,b54,0,_,rfl,?_⟩
 have hpl1:=oS.1
 have hpl2:=oI.1
 simp only [List.length_map,aX,Nat.mul_one]at hpl1 hpl2
 cases m with
 |zero=>
  refine aC (by rw [decide_eq_false_iff_not];omega) ?_
  (refine kr_ ?_)
  (refine kr_ ?_)
  have K2':=K2.mono (Hp.le_trans l3 K.le)
  (with_reducible apply Kn.wr);(exact K2');((focus ((repeat first|exact .head|apply Upd.tail);done)))
  ·exact Nat.le_refl _
  intro h5 K5 kp
  refine⟨sS,by rw [ax (K5.at (.head _))];rfl,sI,by rw [ax (K5.at (.head _))];rfl,?_⟩
  refine k sS sI h5 ?_
  rw [<-hz rfl]
  exact Qi (Hp.le_trans K2.le l3) (by rw [f12];simp) oS oI K K5.le kp
 |succ k=>
 rename_i kf
 obtain⟨rfl,hwit,hex⟩:=hsc k rfl
 have hk1:(((k+1:Nat):Int)-1)=k:=by omega
 rw [hk1]
 refine aM (by rw [decide_eq_true_eq];omega) ?_
 obtain⟨hc0,hcf,_⟩:=aL.leastB_at hex
 rw [show aL.leastB (2^σ.n) (fun s=>fits s&&σ.ahead k s)=ti σ k fits from rfl]at hc0 hcf
 rw [Bool.and_eq_true]at hcf
 obtain⟨hx0,hon,_⟩:=aL.leastB_at (aL.ahead_on.1 hcf.2)
 rw [show aL.leastB (2^σ.k) (fun x=>σ.onB k (σ.at_ (ti σ k fits) x))=Er σ k (ti σ k fits)from rfl]at hx0 hon
 repeat' (refine kr_ ?_)
 refine TP (hq3.mono K.le) ok hc0 (hL.mono K.le) (by omega) (by omega) hcf.2 ⟨_,_,rfl,?_⟩
 (refine kr_ ?_)
 refine Kn.al K fun b87 h6 K6 l6 hb87=>?_
 have f87:=K6.at (.head _)
 refine Kn.growIn (A:= [_,_]) K6 oS (by omega) (by omega) (by omega) ⟨b87,0,rfl,aw f87⟩ rfl rfl fun sS' XS' h7 hnS oS' K7 l7=>?_
 simp only [List.cons_append,List.nil_append]at K7
 clear K6 l6 hb87 f87 K
 (((with_reducible apply Kn.wr);(assumption);((focus ((repeat first|exact .head|apply Upd.tail);done)))))
 ·simp
 intro h8 K8 _
 simp only [bG,List.set_cons_zero,List.set_cons_succ,Nat.zero_add,Nat.reduceAdd]at K8
 clear K7 l7
 (refine kr_ ?_)
 refine Kn.al K8 fun b98 h9 K9 l9 hb98=>?_
 have f98:=K9.at (.head _)
 refine Kn.growIn2 (A:= [_,_,_]) K9 oI (by omega) (by omega) (by omega) ⟨b98,0,rfl,aw f98⟩ rfl rfl fun sI' XI' h10 hnI oI' K10 l10=>?_
 simp only [List.cons_append,List.nil_append]at K10
 clear K9 l9 hb98 f98 K8
 (((with_reducible apply Kn.wr);(assumption);((focus ((repeat first|exact .head|apply Upd.tail);done)))))
 ·simp
 intro h11 K11 _
 simp only [bG,List.set_cons_zero,List.set_cons_succ,Nat.zero_add,Nat.reduceAdd]at K11
 clear K10 l10
 have nd:=K11.nd
 have KS:Kn h3 h11 ((b54, .inl ⟨[sS'.v,sI'.v],2,false⟩)::(XS'++(XI'++ []))):=by
  refine K11.sub (fun e he=> .tail _ (.tail _ he)) ?_
  simp only [List.map_cons,List.nodup_cons]at nd⊢
  exact nd.2.2
 rw [cd (by omega) (by omega)]
 refine hnx k (by omega) _ _ ⟨pre++ [(ti σ k fits,Er σ k (ti σ k fits))],_,σ.goes (σ.at_ (ti σ k fits) (Er σ k (ti σ k fits))),sS',sI',XS',XI',rfl,KS,by simpa [VL] using oS',by simpa [VL] using oI',by simp;omega,fun e=>?_,fun k' e=>⟨?_,?_,?_⟩⟩
 ·subst e;exact hwit
 ·subst e;rw [if_neg (by omega)];rfl
 ·subst e;rw [<-hwit,Tg,List.append_assoc];rfl
 ·subst e
  exact aL.onB_next hon
def ua (m:ah) (x:Int):List (Nat×Nat):=match (aZ m).depth with|some d=>if aG m=0/\(d:Int)<=x then(aZ m).wit d (aZ m).begins else []|none=> []
def wT (m:ah) (x:Int):Bool:=match (aZ m).depth with|some d=>decide (aG m=0/\(d:Int)<=x)|none=>false
theorem Og {m:ah} {x:Int} (h: ¬(aG m=0/\0<=(aZ m).depthI/\(aZ m).depthI<=x)):ua m x= []/\wT m x=false:=by
 unfold ua wT
 unfold aL.depthI at h
 cases hd:(aZ m).depth with
 |none=>exact⟨rfl,rfl⟩
 |some d=>
  rw [hd]at h
  have: ¬(aG m=0/\(d:Int)<=x):=fun q=>h ⟨q.1,Int.natCast_nonneg _,q.2⟩
  exact⟨if_neg this,decide_eq_false this⟩
theorem KE {m:ah} {x:Int} (h:aG m=0/\0<=(aZ m).depthI/\(aZ m).depthI<=x): ∃d,(aZ m).depth=some d/\(aZ m).depthI=d/\ua m x=(aZ m).wit d (aZ m).begins/\wT m x=true:=by
 unfold ua wT
 unfold aL.depthI at h⊢
 cases hd:(aZ m).depth with
 |none=>rw [hd]at h;exact absurd (show (0:Int)<= -1 from h.2.1) (by decide)
 |some d=>
  rw [hd]at h
  have:aG m=0/\(d:Int)<=x:=⟨h.1,h.2.2⟩
  exact⟨d,rfl,rfl,if_pos this,decide_eq_true this⟩
abbrev AM (sS sI:Sl) (b:Bool):Value:= .tuple #[.agg #[sS.v,sI.v], .bool b]
theorem ED {σ:aL} (ok:σ.Ok) {d:Nat} (h:σ.depth=some d):d<=256:=by
 have h1:=aL.depth_lt h
 have h2:=aL.nLay_le σ
 have h3:=mP ok
 omega
theorem xe {h:Hp} {M:MSl} {m:ah} {x:Int} {R:Value->Hp->Prop} (hs:aO h M m) (hm:bT m)
  (k: ∀sS sI h',TrG h h' sS sI (ua m x)->R (AM sS sI (wT m x)) h'):pM #[aQ M,I x] h R:=by
 apply Ic
 refine uf_ ?_
 have K0:=Kn.nil h
 (with_reducible apply Kn.al);(assumption);(intro b8 h1 K1 l1 hb8)
 (with_reducible apply Kn.al);(assumption);(intro b10 h2 K2 l2 hb10)
 repeat' (refine kr_ ?_)
 refine cj (hs.mono K2.le) hm ⟨_,rfl,?_⟩
 refine ad (fun e=>?_) (fun e=>?_)
 ·obtain⟨e1,e2⟩:=Og (m:=m) (x:=x) fun q=>i7 e q.1
  rw [e1,e2]at k
  (((with_reducible apply Kn.wr);(assumption);((focus ((repeat first|exact .head|apply Upd.tail);done)))))
  ·exact Nat.le_refl _
  intro h3 K3 _
  refine⟨⟨none,0,0⟩,by rw [ax (K3.at (.head _))];rfl,⟨none,0,0⟩,by rw [ax (K3.at (.head _))];rfl,?_⟩
  exact k ⟨none,0,0⟩ ⟨none,0,0⟩ h3 (TrG.nil K3.le)
 have hc:=fY e
 have ok:=zl (cD hc)
 repeat' (refine kr_ ?_)
 refine LN (hs.mono K2.le) hm hc fun q h3 l3 hq=>⟨_,_,_,_,_,_,_,rfl,?_⟩
 have K3:=K2.mono l3
 refine Kn.al K3 fun b43 h4 K4 l4 hb43=>?_
 refine kw_ ?_
 intro h5 K5 kp5
 simp only [bX,List.set_cons_zero,List.set_cons_succ,Nat.zero_add,Nat.reduceAdd]at K5
 have hq5:=hq.mono (im hb43 l4 kp5)
 clear K4 K3 kp5
 repeat' (refine kr_ ?_)
 refine C5 hq5 ok ⟨_,rfl,?_⟩
 refine ap (fun J=>J (decide (¬(0<=(aZ m).depthI/\(aZ m).depthI<=x)))) ?_ (fun J hJ=>?_)
 rotate_left
 ·refine ad (fun e=>?_) (fun e=>?_)
  ·rw [show decide (¬(0<=(aZ m).depthI/\(aZ m).depthI<=x))=true from by rw [decide_eq_true_eq]at e⊢;omega]at hJ;exact hJ
  ·rw [show decide (¬(0<=(aZ m).depthI/\(aZ m).depthI<=x))=decide ((aZ m).depthI>x)from by rw [decide_eq_false_iff_not]at e;rw [Bool.eq_iff_iff,decide_eq_true_eq,decide_eq_true_eq];omega]at hJ;exact hJ
 refine ad (fun e=>?_) (fun e=>?_)
 ·obtain⟨e1,e2⟩:=Og (m:=m) (x:=x) fun q=>(of_decide_eq_true e) q.2
  rw [e1,e2]at k
  refine kw_ ?_
  intro h6 K6 _
  refine⟨⟨none,0,0⟩,by rw [ax (K6.at (.tail _ (.head _)))];rfl,⟨none,0,0⟩,by rw [ax (K6.at (.tail _ (.head _)))];rfl,?_⟩
  exact k ⟨none,0,0⟩ ⟨none,0,0⟩ h6 (TrG.nil K6.le)
 have e':=Decidable.not_not.1 (of_decide_eq_false e)
 obtain⟨d,hd,hdI,e1,e2⟩:=KE ⟨hc,e'⟩
 rw [e1,e2]at k
 rw [hdI]
 repeat' (refine kr_ ?_)
 refine Ee hq5 ok (ED ok hd) (aL.wit_begins hd) fun sS sI h6 t6=>⟨_,_,rfl,?_⟩
 have l56:h5.le h6:=by obtain⟨_,_,_,_,K6⟩:=t6;exact K6.le
 have K6:=K5.mono l56
 have f10:=K5.at (.tail _ (.head _))
 refine kw_ ?_
 intro h7 K7 kp
 refine⟨sS,by rw [ax (K7.at (.tail _ (.head _)))];rfl,sI,by rw [ax (K7.at (.tail _ (.head _)))];rfl,?_⟩
 exact k sS sI h7 (t6.up K5.le (by rw [f10];simp) K7.le kp)
theorem Pa (m:ah) (x:Int):(ua m x).length<=257:=by
 unfold ua
 cases hd:(aZ m).depth with
 |none=>exact Nat.zero_le _
 |some d=>
  dsimp only
  split
  ·rename_i e
   rw [IM]
   have:=ED (zl (cD e.1)) hd
   omega
  ·exact Nat.zero_le _
namespace aL
end aL
theorem IW {m:ah} (g:cr m):aG m=0:=by
 unfold aG
 have h1:=g.nl;have h2:=g.il;have h3:=g.xl;have h4:=g.bl;have h5:=g.hl;have h6:=g.n8;have h7:=g.k5
 rw [if_neg (by omega),if_neg (by rw [g.ok];simp),if_neg (by rw [g.twice];simp),if_neg ?_,if_neg ?_,if_neg (by omega)]
 ·rw [List.all_eq_true.2 g.bad,List.all_eq_true.2 g.hol];simp
 ·rw [List.all_eq_true.2 g.ini,List.all_eq_true.2 g.nex];simp
abbrev rdC (s:Sl) (p:Nat):Blk:= .inl ⟨[s.v,I p],2,false⟩
theorem Wg {g h:Hp} {L L':List (Nat×Blk)} {B p:Nat} {s:Sl} {bs:List Nat} {n:Int} {R:Value->Hp->Prop} (K:Kn g h L) (hb:ByteS g s bs) (u:Upd L B (rdC s p) (rdC s (p+1)) L') (hp:p<=1000000) (hn:n<=1000000000)
  (k: ∀(x:Nat) h',Kn g h' L'->(1<=n->(x:Int)<n)->(n<1->x=0)->R (I x) h'):am #[.pointer (some ⟨B,0,none⟩),I n] h R:=
 Gk ⟨K.at u.mem,hb.mono (zC (K.new (B,_) u.mem) K.le)⟩ (by omega) hn fun x h1 h2=>k x _ (K.set u) h1 h2
theorem kp_ {P Q:Prop} (k:Q) (h:Q->P:=by((with_reducible apply Wg);(assumption);(assumption);(((focus ((repeat first|exact .head|apply Upd.tail);done))));(omega);(omega))):P:=h k
def MG (X:List (Nat×Blk)) (M:MSl) (m:ah):Prop:=
 ∃XN XI XE XB XH,X=XN++(XI++(XE++(XB++(XH++ []))))/\bR XN M.no 9 (m.nodes.flatMap nodeCells)/\bR XI M.ini 2 (m.inits.flatMap bindCells)/\bR XE M.nex 2 (m.nexts.flatMap bindCells)/\
  bR XB M.bad 1 (m.bads.map I)/\bR XH M.hol 1 (m.holds.map I)
abbrev noM :MSl:=⟨⟨none,0,0⟩,⟨none,0,0⟩,⟨none,0,0⟩,⟨none,0,0⟩,⟨none,0,0⟩⟩
abbrev noP :ah:=⟨[], [], [], [], []⟩
theorem MG.nil :MG [] noM noP:=⟨[], [], [], [], [],rfl,cF 9,cF 2,cF 2,cF 1,cF 1⟩
section
variable {g h:Hp} {A X:List (Nat×Blk)} {M:MSl} {m:ah}
theorem bR.slcOf {X:List (Nat×Blk)} {s:Sl} {sz:Nat} {cs:List Value} (o:bR X s sz cs) (hn:s.n<=9223372036854775807) (m: ∀e∈X,h e.1=some e.2):SlC h s sz cs:=(o.buf m).slc_of hn
theorem MG.lens (o:MG X M m):M.no.n=m.nodes.length/\M.ini.n=m.inits.length/\M.nex.n=m.nexts.length/\M.bad.n=m.bads.length/\M.hol.n=m.holds.length/\M.no.n<=M.no.c:=by
 obtain⟨XN,XI,XE,XB,XH,_,a,b,c,d,e⟩:=o
 have h1:=a.1;have h2:=b.1;have h3:=c.1;have h4:=d.1;have h5:=e.1;have h6:=a.2.1
 rw [ck (m:=9) (fun _=>rfl)]at h1
 rw [ck (m:=2) (fun _=>rfl)]at h2 h3
 rw [List.length_map]at h4 h5
 omega
theorem MG.blk (o:MG X M m) (hn:0<m.nodes.length): ∃b x,M.no.a=some ⟨b,0,none⟩/\(b,x)∈X:=by
 have hl:=o.lens
 obtain⟨XN,XI,XE,XB,XH,rfl,a,_⟩:=o
 rcases a.2.2 with ⟨_,h0,_⟩|⟨b,ha,rfl⟩
 ·rw [h0]at hl;have:=hl.1;dsimp only at this;omega
 ·exact⟨b,_,ha,List.mem_append_left _ (.head _)⟩
theorem MG.modelS (o:MG X M m) (hm:bT m) (K:Kn g h (A++X)):aO h M m:=by
 have hl:=o.lens
 have hm':=hm.nodes;have h2:=hm.inits;have h3:=hm.nexts;have h4:=hm.bads;have h5:=hm.holds
 obtain⟨XN,XI,XE,XB,XH,rfl,a,b,c,d,e⟩:=o
 have mem: ∀x∈XN++(XI++(XE++(XB++(XH++ [])))),h x.1=some x.2:=fun x hx=>K.mem x (List.mem_append_right _ hx)
 refine⟨a.slcOf (by omega) fun x hx=>mem x (by simp [hx]),b.slcOf (by omega) fun x hx=>mem x (by simp [hx]),c.slcOf (by omega) fun x hx=>mem x (by simp [hx]),
  d.slcOf (by omega) fun x hx=>mem x (by simp [hx]),e.slcOf (by omega) fun x hx=>mem x (by simp [hx]),hl.2.2.2.2.2⟩
theorem MG.appN {b:Nat} {n:NodeP} {C:Option Addr->Nat->Nat->Hp->Prop} (o:MG X M m) (K:Kn g h (A++X)) (hm:m.nodes.length<=100000) (f:h b=some (.inl ⟨nodeCells n,9,false⟩))
  (k: ∀s' X' h',MG X' {M with no:=s'} {m with nodes:=m.nodes++ [n]}->Kn g h' (A++X')->C s'.a s'.n s'.c h'):cy h M.no.a M.no.n M.no.c (some ⟨b,0,none⟩) 1 9 80 C:=by
 have hl:=o.lens
 obtain⟨XN,XI,XE,XB,XH,rfl,a,b',c,d,e⟩:=o
 refine Kn.growIn K a (by omega) (by omega) (by omega) ⟨b,0,rfl,aw f⟩ rfl rfl fun s' X' h' hn a' K' _=>?_
 exact k s' _ h' ⟨X',XI,XE,XB,XH,rfl,by rw [List.flatMap_append];exact a',b',c,d,e⟩ K'
theorem MG.appI {b:Nat} {n:BindP} {C:Option Addr->Nat->Nat->Hp->Prop} (o:MG X M m) (K:Kn g h (A++X)) (hm:m.inits.length<=100000) (f:h b=some (.inl ⟨bindCells n,2,false⟩))
  (k: ∀s' X' h',MG X' {M with ini:=s'} {m with inits:=m.inits++ [n]}->Kn g h' (A++X')->C s'.a s'.n s'.c h'):cy h M.ini.a M.ini.n M.ini.c (some ⟨b,0,none⟩) 1 2 16 C:=by
 have hl:=o.lens
 obtain⟨XN,XI,XE,XB,XH,rfl,a,b',c,d,e⟩:=o
 refine Kn.growIn2 K b' (by omega) (by omega) (by omega) ⟨b,0,rfl,aw f⟩ rfl rfl fun s' X' h' hn a' K' _=>?_
 exact k s' _ h' ⟨XN,X',XE,XB,XH,rfl,a,by rw [List.flatMap_append];exact a',c,d,e⟩ K'
theorem MG.appE {b:Nat} {n:BindP} {C:Option Addr->Nat->Nat->Hp->Prop} (o:MG X M m) (K:Kn g h (A++X)) (hm:m.nexts.length<=100000) (f:h b=some (.inl ⟨bindCells n,2,false⟩))
  (k: ∀s' X' h',MG X' {M with nex:=s'} {m with nexts:=m.nexts++ [n]}->Kn g h' (A++X')->C s'.a s'.n s'.c h'):cy h M.nex.a M.nex.n M.nex.c (some ⟨b,0,none⟩) 1 2 16 C:=by
 have hl:=o.lens
 obtain⟨XN,XI,XE,XB,XH,rfl,a,b',c,d,e⟩:=o
 refine Kn.growIn3 K c (by omega) (by omega) (by omega) ⟨b,0,rfl,aw f⟩ rfl rfl fun s' X' h' hn a' K' _=>?_
 exact k s' _ h' ⟨XN,XI,X',XB,XH,rfl,a,b',by rw [List.flatMap_append];exact a',d,e⟩ K'
theorem MG.appB {b:Nat} {n:Int} {C:Option Addr->Nat->Nat->Hp->Prop} (o:MG X M m) (K:Kn g h (A++X)) (hm:m.bads.length<=100000) (f:h b=some (.inl ⟨[I n],1,false⟩))
  (k: ∀s' X' h',MG X' {M with bad:=s'} {m with bads:=m.bads++ [n]}->Kn g h' (A++X')->C s'.a s'.n s'.c h'):cy h M.bad.a M.bad.n M.bad.c (some ⟨b,0,none⟩) 1 1 8 C:=by
 have hl:=o.lens
 obtain⟨XN,XI,XE,XB,XH,rfl,a,b',c,d,e⟩:=o
 have sw: ∀Z:List (Nat×Blk),A++(XN++(XI++(XE++(Z++(XH++ [])))))=(A++(XN++XI))++(XE++(Z++(XH++ []))):=fun Z=>by simp
 rw [sw]at K
 refine Kn.growIn2 K d (by omega) (by omega) (by omega) ⟨b,0,rfl,aw f⟩ rfl rfl fun s' X' h' hn a' K' _=>?_
 rw [<-sw]at K'
 exact k s' _ h' ⟨XN,XI,XE,X',XH,rfl,a,b',c,by rw [List.map_append];exact a',e⟩ K'
theorem MG.appH {b:Nat} {n:Int} {C:Option Addr->Nat->Nat->Hp->Prop} (o:MG X M m) (K:Kn g h (A++X)) (hm:m.holds.length<=100000) (f:h b=some (.inl ⟨[I n],1,false⟩))
  (k: ∀s' X' h',MG X' {M with hol:=s'} {m with holds:=m.holds++ [n]}->Kn g h' (A++X')->C s'.a s'.n s'.c h'):cy h M.hol.a M.hol.n M.hol.c (some ⟨b,0,none⟩) 1 1 8 C:=by
 have hl:=o.lens
 obtain⟨XN,XI,XE,XB,XH,rfl,a,b',c,d,e⟩:=o
 have sw: ∀Z:List (Nat×Blk),A++(XN++(XI++(XE++(XB++(Z++ [])))))=(A++(XN++XI))++(XE++(XB++(Z++ []))):=fun Z=>by simp
 rw [sw]at K
 refine Kn.growIn3 K e (by omega) (by omega) (by omega) ⟨b,0,rfl,aw f⟩ rfl rfl fun s' X' h' hn a' K' _=>?_
 rw [<-sw]at K'
 exact k s' _ h' ⟨XN,XI,XE,XB,X',rfl,a,b',c,d,by rw [List.map_append];exact a'⟩ K'
end
structure DM (m:ah) (N:Nat):Prop where
 nodes:m.nodes.length<=N
 sorts: ∀n∈m.nodes,bW n.sort=true
 names: ∀n∈m.nodes,n.name.size<=100
 inits:m.inits.length<=N
 nexts:m.nexts.length<=N
 bads:m.bads.length<=N
 holds:m.holds.length<=N
theorem DM.small {m:ah} {N:Nat} (d:DM m N) (hN:N<=100000):bT m:=
 ⟨by have:=d.nodes;omega,by have:=d.inits;omega,by have:=d.nexts;omega,by have:=d.bads;omega,by have:=d.holds;omega,fun n hn=>by have:=d.names n hn;omega⟩
theorem DM.more {m:ah} {N N':Nat} (d:DM m N) (h:N<=N'):DM m N':=
 ⟨Nat.le_trans d.nodes h,d.sorts,d.names,Nat.le_trans d.inits h,Nat.le_trans d.nexts h,Nat.le_trans d.bads h,Nat.le_trans d.holds h⟩
theorem DM.addN {m:ah} {N:Nat} (d:DM m N) {n:NodeP} (h1:bW n.sort=true) (h2:n.name.size<=100):DM {m with nodes:=m.nodes++ [n]} (N+1):=
 ⟨by have:=d.nodes;simp;omega,fun x hx=>by rcases List.mem_append.1 hx with hx|hx;exact d.sorts x hx;rw [List.mem_singleton.1 hx];exact h1,
  fun x hx=>by rcases List.mem_append.1 hx with hx|hx;exact d.names x hx;rw [List.mem_singleton.1 hx];exact h2,
  by have:=d.inits;dsimp only;omega,by have:=d.nexts;dsimp only;omega,by have:=d.bads;dsimp only;omega,by have:=d.holds;dsimp only;omega⟩
theorem Kn.tl {g h:Hp} {L:List (Nat×Blk)} {e:Nat×Blk} (K:Kn g h (e::L)):Kn g h L:=K.sub (fun x hx=> .tail _ hx) (by have:=K.nd;rw [List.map_cons,List.nodup_cons]at this;exact this.2)
theorem Kn.sw {g h:Hp} {L:List (Nat×Blk)} {a b:Nat×Blk} (K:Kn g h (a::b::L)):Kn g h (b::a::L):=K.perm (List.Perm.swap ..)
theorem uV {m:ah} {N:Nat} (d:DM m N) {i:Nat} {n:NodeP} (h:m.nodes[i]?=some n):bW n.sort=true:=d.sorts n (List.mem_of_getElem? h)
theorem nH {s:SortP} (h:bW s=true):(0<=s.idx/\s.idx<=2)/\1<=s.wid/\s.wid<=16:=of_decide_eq_true h
theorem qM {w:Int} (h1:1<=w) (h2:w<=16):bW (cR w)=true:=decide_eq_true ⟨by simp [cR],h1,h2⟩
end Go.Lead
