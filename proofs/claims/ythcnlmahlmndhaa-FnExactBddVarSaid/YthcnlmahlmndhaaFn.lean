/- The walks of the functions, written by a program: the program that is walked. No statement is proved here. -/
import Derived.Test.YthcnlmahlmndhaaVm9
import Derived.Test.YthcnlmahlmndhaaProg
namespace Go.Lead
open Go Go.Proofs
noncomputable abbrev PR : Program := Try.prog
theorem mixed : PR.follows .mixedOrders = true := by kernel_rfl
abbrev i_impl_BddVar_d1 : FuncId := 41
abbrev c_laws_FnExactBddVar (args : Array Value) (h : Hp) (R : Value → Hp → Prop) : Prop := ACalls PR 4 args h R
abbrev c_spec_BddVar (args : Array Value) (h : Hp) (R : Value → Hp → Prop) : Prop := ACalls PR 14 args h R
abbrev c_impl_BddVar (args : Array Value) (h : Hp) (R : Value → Hp → Prop) : Prop := ACalls PR 15 args h R
abbrev c_laws_eqBdd (args : Array Value) (h : Hp) (R : Value → Hp → Prop) : Prop := ACalls PR 16 args h R
abbrev c_laws_markBdd (args : Array Value) (h : Hp) (R : Value → Hp → Prop) : Prop := ACalls PR 17 args h R
abbrev c_laws_heldBdd (args : Array Value) (h : Hp) (R : Value → Hp → Prop) : Prop := ACalls PR 18 args h R
abbrev c_spec_l1In (args : Array Value) (h : Hp) (R : Value → Hp → Prop) : Prop := ACalls PR 30 args h R
abbrev c_impl_in (args : Array Value) (h : Hp) (R : Value → Hp → Prop) : Prop := ACalls PR 33 args h R
abbrev c_spec_l7Vars (args : Array Value) (h : Hp) (R : Value → Hp → Prop) : Prop := ACalls PR 38 args h R
abbrev c_impl_isVars (args : Array Value) (h : Hp) (R : Value → Hp → Prop) : Prop := ACalls PR 39 args h R
abbrev c_impl_told (args : Array Value) (h : Hp) (R : Value → Hp → Prop) : Prop := ACalls PR 40 args h R
abbrev c_impl_BddVar_d1 (args : Array Value) (h : Hp) (R : Value → Hp → Prop) : Prop := ACalls PR 41 args h R
abbrev c_laws_eqBddNodeS (args : Array Value) (h : Hp) (R : Value → Hp → Prop) : Prop := ACalls PR 42 args h R
abbrev c_laws_markBddNodeS (args : Array Value) (h : Hp) (R : Value → Hp → Prop) : Prop := ACalls PR 43 args h R
abbrev c_laws_heldBddNodeS (args : Array Value) (h : Hp) (R : Value → Hp → Prop) : Prop := ACalls PR 44 args h R
abbrev c_impl_newTable (args : Array Value) (h : Hp) (R : Value → Hp → Prop) : Prop := ACalls PR 66 args h R
abbrev c_impl_table_diagram (args : Array Value) (h : Hp) (R : Value → Hp → Prop) : Prop := ACalls PR 67 args h R
abbrev c_laws_eqBddNode (args : Array Value) (h : Hp) (R : Value → Hp → Prop) : Prop := ACalls PR 68 args h R
abbrev c_impl_bit (args : Array Value) (h : Hp) (R : Value → Hp → Prop) : Prop := ACalls PR 75 args h R
abbrev c_impl_builder_build (args : Array Value) (h : Hp) (R : Value → Hp → Prop) : Prop := ACalls PR 76 args h R
abbrev c_impl_Bdd_clone (args : Array Value) (h : Hp) (R : Value → Hp → Prop) : Prop := ACalls PR 77 args h R
abbrev T_impl_BddNode : TypeId := 63
end Go.Lead
