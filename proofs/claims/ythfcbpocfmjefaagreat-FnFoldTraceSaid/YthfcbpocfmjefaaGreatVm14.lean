/- The abstract walk, part 14: looking up in maps; no statement of the program. -/
import Derived.Test.YthfcbpocfmjefaaGreatVm13
namespace Go.Lead
open Go
set_option linter.unusedVariables false
theorem T9 {κ:Type} {eq:Value->Option Bool} {key val:κ->Value}: ∀{xs:List κ} {i:Nat},(∀x∈xs,eq (key x)=some false)->
  gW eq (xs.map fun x=>(key x,val x)) i=some none:=by
 intro xs
 induction xs with
 |nil=>intro i h;rfl
 |cons x xs ih=>
  intro i h
  simp only [List.map_cons,gW,h x (by simp)]
  exact ih fun y hy=>h y (by simp [hy])
theorem Vk {κ:Type} {eq:Value->Option Bool} {key val:κ->Value}: ∀{xs:List κ} {i j:Nat} (hj:j<xs.length),
  (∀(l:Nat) (hl:l<xs.length),l<j->eq (key xs[l])=some false)->eq (key xs[j])=some true->
  gW eq (xs.map fun x=>(key x,val x)) i=some (some (i+j,val xs[j])):=by
 intro xs
 induction xs with
 |nil=>intro i j hj;simp at hj
 |cons x xs ih=>
  intro i j hj h0 h1
  cases j with
  |zero=>
   simp only [List.getElem_cons_zero]at h1
   simp only [List.map_cons,gW,h1,List.getElem_cons_zero,Nat.add_zero]
  |succ j=>
   have hx:=h0 0 (by simp) (by omega)
   simp only [List.getElem_cons_zero]at hx
   simp only [List.map_cons,gW,hx,List.getElem_cons_succ]
   rw [ih (i:=i+1) (j:=j) (by simpa using hj) (fun l hl hlj=>by
    have:=h0 (l+1) (by simpa using hl) (by omega)
    simpa using this) (by simpa using h1)]
   simp only [Nat.add_assoc,Nat.add_comm 1 j]
theorem RF {κ:Type} (p:κ->Bool) (xs:List κ):(∀x∈xs,p x=false)\/ ∃j,∃hj:j<xs.length,p xs[j]=true/\ ∀(l:Nat) (hl:l<xs.length),l<j->p xs[l]=false:=by
 cases h:xs.findIdx? p with
 |none=>exact .inl fun x hx=>by simpa using List.findIdx?_eq_none_iff.1 h x hx
 |some j=>
  obtain⟨hj,hp,hb⟩:=List.findIdx?_eq_some_iff_getElem.1 h
  exact .inr ⟨j,hj,hp,fun l hl hlj=>by simpa using hb l hlj⟩
theorem tf {κ:Type} (eq:Value->Option Bool) (key val:κ->Value) (p:κ->Bool) (xs:List κ) (i:Nat) (he: ∀x∈xs,eq (key x)=some (p x)):
  ((∀x∈xs,p x=false)/\gW eq (xs.map fun x=>(key x,val x)) i=some none)\/
  ∃j,∃hj:j<xs.length,p xs[j]=true/\(∀(l:Nat) (hl:l<xs.length),l<j->p xs[l]=false)/\gW eq (xs.map fun x=>(key x,val x)) i=some (some (i+j,val xs[j])):=by
 rcases RF p xs with h|⟨j,hj,h1,h2⟩
 ·exact .inl ⟨h,T9 fun x hx=>by rw [he x hx,h x hx]⟩
 ·exact .inr ⟨j,hj,h1,h2,Vk hj (fun l hl hlj=>by rw [he _ (List.getElem_mem hl),h2 l hl hlj]) (by rw [he _ (List.getElem_mem hj),h1])⟩
theorem agb (a b:ByteArray):Instr.sameNow .string (.string a) (.string b)=some (a==b):=rfl
theorem Rp (k:IntKind) (a b:Int):Instr.sameNow (.int k) (.int k a) (.int k b)=some (a==b):=by simp [Instr.sameNow]
end Go.Lead
